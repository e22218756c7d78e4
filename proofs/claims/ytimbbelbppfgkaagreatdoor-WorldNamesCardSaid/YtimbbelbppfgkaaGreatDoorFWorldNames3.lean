/- It is proved that the given row of the law WorldNames says of the program what the program is: some of its closed facts. Conditions: none. -/
import Derived.Test.YtimbbelbppfgkaaGreatDoorRows
import Derived.Test.YtimbbelbppfgkaaGreatDoorCards
import Derived.JoinedOf
import Derived.KernelRfl
import Derived.LaidByTextLater
import Derived.SevenTiedAt
open Go
namespace Go.Proofs.YtimbbelbppfgkaaGreatDoor.worldNames
theorem j3 : (mapsRowed Tryz.prog) = true := by kernel_rfl
theorem j7 : ((Tryz.prog.stops == [])) = true := by kernel_rfl
theorem j11 : ((Rows.worldNamesRow.unfollowed == Tryz.prog.unfollowed 5)) = true := by kernel_rfl
theorem j15 : ((Rows.worldNamesRow.ifaces == (Tryz.f5.params.toList ++ Rows.worldNamesSpec.plain.varTypes Tryz.prog).any (Tryz.prog.ifacesRec ·))) = true := by kernel_rfl
theorem j19 : (Rows.worldNamesSpec.vars.all (Tryz.prog.varReadable ·)) = true := by kernel_rfl
theorem j23 : ((Rows.worldNamesRow.plainKeys == Tryz.prog.plainKeys)) = true := by kernel_rfl
theorem j27 : ((Rows.worldNamesRow.lifted == Tryz.prog.liftsFinal)) = true := by kernel_rfl
theorem j31 : ((Rows.worldNamesRow.veiled == (Tryz.f5.params.toList ++ Rows.worldNamesSpec.plain.varTypes Tryz.prog ++ Tryz.f5.resultTypes.toList).any (Tryz.prog.veiledRec ·))) = true := by kernel_rfl
end Go.Proofs.YtimbbelbppfgkaaGreatDoor.worldNames
