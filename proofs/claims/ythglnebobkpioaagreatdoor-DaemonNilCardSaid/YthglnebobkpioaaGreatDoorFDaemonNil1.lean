/- It is proved that the given row of the law DaemonNil says of the program what the program is: some of its closed facts. Conditions: none. -/
import Derived.Test.YthglnebobkpioaaGreatDoorRows
import Derived.Test.YthglnebobkpioaaGreatDoorCards
import Derived.JoinedOf
import Derived.KernelRfl
import Derived.LaidByTextLater
import Derived.SevenTiedAt
open Go
namespace Go.Proofs.YthglnebobkpioaaGreatDoor.daemonNil
theorem j1 : (Rows.daemonNilRow.wf (OpenSpec.ofChange Rows.daemonNilSpec)) = true := by kernel_rfl
theorem j5 : (namedTie Tryz.prog Rows.daemonNilRow.named Rows.daemonNilSpec.vars) = true := by kernel_rfl
theorem j9 : ((Tryz.prog.stopKnobs == [])) = true := by kernel_rfl
theorem j13 : ((Rows.daemonNilRow.named == Tryz.prog.varsNamed 4)) = true := by kernel_rfl
theorem j17 : ((Rows.daemonNilRow.loops == (Tryz.f4.params.toList ++ Rows.daemonNilSpec.plain.varTypes Tryz.prog).any (Tryz.prog.loopsFrom ·))) = true := by kernel_rfl
theorem j21 : ((Rows.daemonNilRow.ifacesOut == Tryz.f4.resultTypes.toList.any (Tryz.prog.ifacesRec ·))) = true := by kernel_rfl
theorem j25 : (Tryz.prog.stopsHeard) = true := by kernel_rfl
theorem j29 : ((Rows.daemonNilRow.kinds == (if Rows.daemonNilRow.domain.isEmpty then [] else Tryz.f4.params.toList.map fun t => match Tryz.prog.underlying t with | some (.int k) => some k | _ => none))) = true := by kernel_rfl
end Go.Proofs.YthglnebobkpioaaGreatDoor.daemonNil
