/- It is proved that the given row of the law DaemonNil says of the program what the program is: some of its closed facts. Conditions: none. -/
import Derived.Test.YthglnebobkpioaaGreatDoorRows
import Derived.Test.YthglnebobkpioaaGreatDoorCards
import Derived.JoinedOf
import Derived.KernelRfl
import Derived.LaidByTextLater
import Derived.SevenTiedAt
import Derived.Test.YthglnebobkpioaaGreatDoorFDaemonNilT0
open Go
namespace Go.Proofs.YthglnebobkpioaaGreatDoor.daemonNil
theorem t6 : varsNamedLaterB Tryz.prog (varsId Tryz.prog) rest = true := by kernel_rfl
theorem t4 : rest.map (fun x => Tryz.prog.kindOfLater x.1) = restKinds.map some := by kernel_rfl
end Go.Proofs.YthglnebobkpioaaGreatDoor.daemonNil
