/- It is proved that the given row of the law DaemonNil says of the program what the program is: some of its closed facts. Conditions: none. -/
import Derived.Test.YthglnebobkpioaaGreatDoorRows
import Derived.Test.YthglnebobkpioaaGreatDoorCards
import Derived.JoinedOf
import Derived.KernelRfl
import Derived.LaidByTextLater
import Derived.SevenTiedAt
import Derived.Test.YthglnebobkpioaaGreatDoorFDaemonNilT0
import Derived.Test.YthglnebobkpioaaGreatDoorFDaemonNilT1
import Derived.Test.YthglnebobkpioaaGreatDoorFDaemonNilT2
import Derived.Test.YthglnebobkpioaaGreatDoorFDaemonNilT3
import Derived.Test.YthglnebobkpioaaGreatDoorFDaemonNilT4
import Derived.Test.YthglnebobkpioaaGreatDoorFDaemonNilT5
open Go
namespace Go.Proofs.YthglnebobkpioaaGreatDoor.daemonNil
theorem tie : Tryz.prog.laidByTextLater rest restKinds true := Program.laidByTextLater_by_run 400 8 t1 t2 t3 t4 t5 t6 t7 t8 t9 t10
theorem row_tie : Rows.daemonNilRow.laidByTextAt .later Tryz.pinned kinds true :=
  OpenClaim.laidByTextAt_pinned rfl rfl tie rfl rfl rfl rfl (fun y hy e => by
    simp only [Rows.daemonNilRow, kinds, List.zip_cons_cons, List.zip_nil_right, List.mem_cons, List.mem_nil_iff, or_false] at hy
    rcases hy with rfl | rfl | rfl | rfl | rfl | rfl
    · cases e
    · cases e
    · cases e
    · cases e
    · exact ⟨pin, by kernel_rfl⟩
    · cases e) fits
end Go.Proofs.YthglnebobkpioaaGreatDoor.daemonNil
