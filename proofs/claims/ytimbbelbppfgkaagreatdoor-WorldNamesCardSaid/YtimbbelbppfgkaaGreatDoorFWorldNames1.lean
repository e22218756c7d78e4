/- It is proved that the given row of the law WorldNames says of the program what the program is: some of its closed facts. Conditions: none. -/
import Derived.Test.YtimbbelbppfgkaaGreatDoorRows
import Derived.Test.YtimbbelbppfgkaaGreatDoorCards
import Derived.JoinedOf
import Derived.KernelRfl
import Derived.LaidByTextLater
import Derived.SevenTiedAt
open Go
namespace Go.Proofs.YtimbbelbppfgkaaGreatDoor.worldNames
theorem j1 : (Rows.worldNamesRow.wf (OpenSpec.ofChange Rows.worldNamesSpec)) = true := by kernel_rfl
theorem j5 : (namedTie Tryz.prog Rows.worldNamesRow.named Rows.worldNamesSpec.vars) = true := by kernel_rfl
theorem j9 : ((Tryz.prog.stopKnobs == [])) = true := by kernel_rfl
theorem j13 : ((Rows.worldNamesRow.named == Tryz.prog.varsNamed 5)) = true := by kernel_rfl
theorem j17 : ((Rows.worldNamesRow.loops == (Tryz.f5.params.toList ++ Rows.worldNamesSpec.plain.varTypes Tryz.prog).any (Tryz.prog.loopsFrom ·))) = true := by kernel_rfl
theorem j21 : ((Rows.worldNamesRow.ifacesOut == Tryz.f5.resultTypes.toList.any (Tryz.prog.ifacesRec ·))) = true := by kernel_rfl
theorem j25 : (Tryz.prog.stopsHeard) = true := by kernel_rfl
theorem j29 : ((Rows.worldNamesRow.kinds == (if Rows.worldNamesRow.domain.isEmpty then [] else Tryz.f5.params.toList.map fun t => match Tryz.prog.underlying t with | some (.int k) => some k | _ => none))) = true := by kernel_rfl
end Go.Proofs.YtimbbelbppfgkaaGreatDoor.worldNames
