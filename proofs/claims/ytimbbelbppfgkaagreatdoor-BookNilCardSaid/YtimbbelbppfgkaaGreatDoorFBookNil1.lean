/- It is proved that the given row of the law BookNil says of the program what the program is: some of its closed facts. Conditions: none. -/
import Derived.Test.YtimbbelbppfgkaaGreatDoorRows
import Derived.Test.YtimbbelbppfgkaaGreatDoorCards
import Derived.JoinedOf
import Derived.KernelRfl
import Derived.LaidByTextLater
import Derived.SevenTiedAt
open Go
namespace Go.Proofs.YtimbbelbppfgkaaGreatDoor.bookNil
theorem j1 : (Rows.bookNilRow.wf (OpenSpec.ofChange Rows.bookNilSpec)) = true := by kernel_rfl
theorem j5 : (namedTie Tryz.prog Rows.bookNilRow.named Rows.bookNilSpec.vars) = true := by kernel_rfl
theorem j9 : ((Tryz.prog.stopKnobs == [])) = true := by kernel_rfl
theorem j13 : ((Rows.bookNilRow.named == Tryz.prog.varsNamed 3)) = true := by kernel_rfl
theorem j17 : ((Rows.bookNilRow.loops == (Tryz.f3.params.toList ++ Rows.bookNilSpec.plain.varTypes Tryz.prog).any (Tryz.prog.loopsFrom ·))) = true := by kernel_rfl
theorem j21 : ((Rows.bookNilRow.ifacesOut == Tryz.f3.resultTypes.toList.any (Tryz.prog.ifacesRec ·))) = true := by kernel_rfl
theorem j25 : (Tryz.prog.stopsHeard) = true := by kernel_rfl
theorem j29 : ((Rows.bookNilRow.kinds == (if Rows.bookNilRow.domain.isEmpty then [] else Tryz.f3.params.toList.map fun t => match Tryz.prog.underlying t with | some (.int k) => some k | _ => none))) = true := by kernel_rfl
end Go.Proofs.YtimbbelbppfgkaaGreatDoor.bookNil
