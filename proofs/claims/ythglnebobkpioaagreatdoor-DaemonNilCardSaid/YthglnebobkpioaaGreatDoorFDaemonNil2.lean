/- It is proved that the given row of the law DaemonNil says of the program what the program is: some of its closed facts. Conditions: none. -/
import Derived.Test.YthglnebobkpioaaGreatDoorLaid
import Derived.Test.YthglnebobkpioaaGreatDoorRows
import Derived.Test.YthglnebobkpioaaGreatDoorCards
import Derived.JoinedOf
import Derived.KernelRfl
import Derived.LaidByTextLater
import Derived.SevenTiedAt
open Go
namespace Go.Proofs.YthglnebobkpioaaGreatDoor.daemonNil
theorem j2 : laidOutB Tryz.prog = true := laid_out
theorem j6 : ((Rows.daemonNilRow.stops == [])) = true := by kernel_rfl
theorem j10 : ((Rows.daemonNilRow.inPlace == Tryz.prog.inPlace 4)) = true := by kernel_rfl
theorem j14 : ((Rows.daemonNilRow.maps == (Tryz.f4.params.toList ++ Rows.daemonNilSpec.plain.varTypes Tryz.prog).any (Tryz.prog.mapsRec ·))) = true := by kernel_rfl
theorem j18 : ((Rows.daemonNilRow.wideKeys == (Tryz.f4.params.toList ++ Rows.daemonNilSpec.plain.varTypes Tryz.prog ++ Tryz.f4.resultTypes.toList).any (Tryz.prog.wideKeysFrom ·))) = true := by kernel_rfl
theorem j22 : ((Rows.daemonNilRow.loopsOut == Tryz.f4.resultTypes.toList.any (Tryz.prog.loopsFrom ·))) = true := by kernel_rfl
theorem j26 : (Tryz.prog.mayEnter) = true := by kernel_rfl
theorem j30 : ((Rows.daemonNilRow.pinned == Rows.daemonNilRow.pinnedBy)) = true := by kernel_rfl
end Go.Proofs.YthglnebobkpioaaGreatDoor.daemonNil
