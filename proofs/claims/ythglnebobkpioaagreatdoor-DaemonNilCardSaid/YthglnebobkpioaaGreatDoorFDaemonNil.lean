/- It is proved that the given row of the law DaemonNil says of the program what the program is, and that what it lists of variables is what the program's text lays. Conditions: none. -/
import Derived.Test.YthglnebobkpioaaGreatDoorFDaemonNil1
import Derived.Test.YthglnebobkpioaaGreatDoorFDaemonNil2
import Derived.Test.YthglnebobkpioaaGreatDoorFDaemonNil3
import Derived.Test.YthglnebobkpioaaGreatDoorFDaemonNil4
import Derived.Test.YthglnebobkpioaaGreatDoorFDaemonNilT
open Go
namespace Go.Proofs.YthglnebobkpioaaGreatDoor.daemonNil
theorem both_true {a b : Bool} (ha : a = true) (hb : b = true) : (a && b) = true := by rw [ha, hb]; rfl
set_option maxRecDepth 100000 in
theorem facts : joinedFacts Tryz.prog 4 Tryz.f4 Rows.daemonNilSpec Rows.daemonNilRow = true := by
  unfold joinedFacts
  with_reducible exact both_true (both_true (both_true (both_true (both_true (both_true (both_true (both_true (both_true (both_true (both_true (both_true (both_true (both_true (both_true (both_true (both_true (both_true (both_true (both_true (both_true (both_true (both_true (both_true (both_true (both_true (both_true (both_true (both_true (both_true (both_true j1 j2) j3) j4) j5) j6) j7) j8) j9) j10) j11) j12) j13) j14) j15) j16) j17) j18) j19) j20) j21) j22) j23) j24) j25) j26) j27) j28) (by kernel_rfl)) j30) j31) j32
end Go.Proofs.YthglnebobkpioaaGreatDoor.daemonNil
