/- It is proved that the given row of the law DaemonNil says of the program what the program is: some of its closed facts. Conditions: none. -/
import Derived.Test.YthglnebobkpioaaGreatDoorRows
import Derived.Test.YthglnebobkpioaaGreatDoorCards
import Derived.JoinedOf
import Derived.KernelRfl
import Derived.LaidByTextLater
import Derived.SevenTiedAt
import Derived.Test.YthglnebobkpioaaGreatDoorFDaemonNilT0
open Go
namespace Go.Proofs.YthglnebobkpioaaGreatDoor.daemonNil
theorem t9 (os : Os) (tape : Tape) : (DataW.laidRun Tryz.prog (varsWorld Tryz.prog 400 (varsId Tryz.prog) os tape).memory 8 (rest.map (·.1))).map (fun x => decide x.2.Nodup && laidRowsB Tryz.prog (varsWorld Tryz.prog 400 (varsId Tryz.prog) os tape).memory x.2) = some true := by kernel_rfl
theorem t5 : (Tryz.prog.funcNamed "gosem.cut.vars").isSome = true := by kernel_rfl
end Go.Proofs.YthglnebobkpioaaGreatDoor.daemonNil
