/- It is proved that the given row of the law BookNil says of the program what the program is: some of its closed facts. Conditions: none. -/
import Derived.Test.YtimbbelbppfgkaaGreatDoorRows
import Derived.Test.YtimbbelbppfgkaaGreatDoorCards
import Derived.JoinedOf
import Derived.KernelRfl
import Derived.LaidByTextLater
import Derived.SevenTiedAt
open Go
namespace Go.Proofs.YtimbbelbppfgkaaGreatDoor.bookNil
theorem j4 : (Tryz.f3.params.all (Tryz.prog.readableRec ·)) = true := by kernel_rfl
theorem j8 : ((Rows.bookNilRow.knobs == [])) = true := by kernel_rfl
theorem j12 : ((Rows.bookNilRow.recurses == Tryz.prog.recurses 3)) = true := by kernel_rfl
theorem j16 : ((Rows.bookNilRow.mapsOut == Tryz.prog.mapsAmong Tryz.f3.resultTypes.toList)) = true := by kernel_rfl
theorem j20 : (Tryz.f3.resultTypes.all (fun t => Tryz.prog.readableRec t && decide (t < Tryz.prog.types.size))) = true := by kernel_rfl
theorem j24 : (Rows.bookNilRow.shortTexts.isNone) = true := by kernel_rfl
theorem j28 : ((Tryz.prog.make == some Rows.bookNilRow.make)) = true := by kernel_rfl
theorem j32 : (Rows.bookNilRow.veiledFits Tryz.prog Tryz.f3.params.toList (Tryz.f3.params.toList ++ Rows.bookNilSpec.plain.varTypes Tryz.prog ++ Tryz.f3.resultTypes.toList)) = true := by kernel_rfl
end Go.Proofs.YtimbbelbppfgkaaGreatDoor.bookNil
