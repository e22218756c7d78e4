/- It is proved that the given row of the law DaemonNil says of the program what the program is: some of its closed facts. Conditions: none. -/
import Derived.Test.YthglnebobkpioaaGreatDoorRows
import Derived.Test.YthglnebobkpioaaGreatDoorCards
import Derived.JoinedOf
import Derived.KernelRfl
import Derived.LaidByTextLater
import Derived.SevenTiedAt
open Go
namespace Go.Proofs.YthglnebobkpioaaGreatDoor.daemonNil
theorem j3 : (mapsRowed Tryz.prog) = true := by kernel_rfl
theorem j7 : ((Tryz.prog.stops == [])) = true := by kernel_rfl
theorem j11 : ((Rows.daemonNilRow.unfollowed == Tryz.prog.unfollowed 4)) = true := by kernel_rfl
theorem j15 : ((Rows.daemonNilRow.ifaces == (Tryz.f4.params.toList ++ Rows.daemonNilSpec.plain.varTypes Tryz.prog).any (Tryz.prog.ifacesRec ·))) = true := by kernel_rfl
theorem j19 : (Rows.daemonNilSpec.vars.all (Tryz.prog.varReadable ·)) = true := by kernel_rfl
theorem j23 : ((Rows.daemonNilRow.plainKeys == Tryz.prog.plainKeys)) = true := by kernel_rfl
theorem j27 : ((Rows.daemonNilRow.lifted == Tryz.prog.liftsFinal)) = true := by kernel_rfl
theorem j31 : ((Rows.daemonNilRow.veiled == (Tryz.f4.params.toList ++ Rows.daemonNilSpec.plain.varTypes Tryz.prog ++ Tryz.f4.resultTypes.toList).any (Tryz.prog.veiledRec ·))) = true := by kernel_rfl
end Go.Proofs.YthglnebobkpioaaGreatDoor.daemonNil
