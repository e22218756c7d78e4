/- It is proved that the given row of the law WorldNames says of the program what the program is: some of its closed facts. Conditions: none. -/
import Derived.Test.YtimbbelbppfgkaaGreatDoorRows
import Derived.Test.YtimbbelbppfgkaaGreatDoorCards
import Derived.JoinedOf
import Derived.KernelRfl
import Derived.LaidByTextLater
import Derived.SevenTiedAt
open Go
namespace Go.Proofs.YtimbbelbppfgkaaGreatDoor.worldNames
theorem j4 : (Tryz.f5.params.all (Tryz.prog.readableRec ·)) = true := by kernel_rfl
theorem j8 : ((Rows.worldNamesRow.knobs == [])) = true := by kernel_rfl
theorem j12 : ((Rows.worldNamesRow.recurses == Tryz.prog.recurses 5)) = true := by kernel_rfl
theorem j16 : ((Rows.worldNamesRow.mapsOut == Tryz.prog.mapsAmong Tryz.f5.resultTypes.toList)) = true := by kernel_rfl
theorem j20 : (Tryz.f5.resultTypes.all (fun t => Tryz.prog.readableRec t && decide (t < Tryz.prog.types.size))) = true := by kernel_rfl
theorem j24 : (Rows.worldNamesRow.shortTexts.isNone) = true := by kernel_rfl
theorem j28 : ((Tryz.prog.make == some Rows.worldNamesRow.make)) = true := by kernel_rfl
theorem j32 : (Rows.worldNamesRow.veiledFits Tryz.prog Tryz.f5.params.toList (Tryz.f5.params.toList ++ Rows.worldNamesSpec.plain.varTypes Tryz.prog ++ Tryz.f5.resultTypes.toList)) = true := by kernel_rfl
end Go.Proofs.YtimbbelbppfgkaaGreatDoor.worldNames
