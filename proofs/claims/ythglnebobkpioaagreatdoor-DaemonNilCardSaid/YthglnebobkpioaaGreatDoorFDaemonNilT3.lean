/- It is proved that the given row of the law DaemonNil says of the program what the program is: some of its closed facts. Conditions: none. -/
import Derived.Test.YthglnebobkpioaaGreatDoorRows
import Derived.Test.YthglnebobkpioaaGreatDoorCards
import Derived.JoinedOf
import Derived.KernelRfl
import Derived.LaidByTextLater
import Derived.SevenTiedAt
import Derived.Test.YthglnebobkpioaaGreatDoorFDaemonNilT0
open Go
namespace Go.Proofs.YthglnebobkpioaaGreatDoor.daemonNil
theorem t7 (os : Os) (tape : Tape) : varsDone Tryz.prog 400 (varsId Tryz.prog) os tape = true := by kernel_rfl
theorem t8 (os : Os) (tape : Tape) : (DataW.laidRun Tryz.prog (varsWorld Tryz.prog 400 (varsId Tryz.prog) os tape).memory 8 (rest.map (·.1))).map (·.1) = some rest := by kernel_rfl
end Go.Proofs.YthglnebobkpioaaGreatDoor.daemonNil
