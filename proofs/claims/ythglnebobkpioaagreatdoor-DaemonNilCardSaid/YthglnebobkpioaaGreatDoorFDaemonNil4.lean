/- It is proved that the given row of the law DaemonNil says of the program what the program is: some of its closed facts. Conditions: none. -/
import Derived.Test.YthglnebobkpioaaGreatDoorRows
import Derived.Test.YthglnebobkpioaaGreatDoorCards
import Derived.JoinedOf
import Derived.KernelRfl
import Derived.LaidByTextLater
import Derived.SevenTiedAt
open Go
namespace Go.Proofs.YthglnebobkpioaaGreatDoor.daemonNil
theorem j4 : (Tryz.f4.params.all (Tryz.prog.readableRec ·)) = true := by kernel_rfl
theorem j8 : ((Rows.daemonNilRow.knobs == [])) = true := by kernel_rfl
theorem j12 : ((Rows.daemonNilRow.recurses == Tryz.prog.recurses 4)) = true := by kernel_rfl
theorem j16 : ((Rows.daemonNilRow.mapsOut == Tryz.prog.mapsAmong Tryz.f4.resultTypes.toList)) = true := by kernel_rfl
theorem j20 : (Tryz.f4.resultTypes.all (fun t => Tryz.prog.readableRec t && decide (t < Tryz.prog.types.size))) = true := by kernel_rfl
theorem j24 : (Rows.daemonNilRow.shortTexts.isNone) = true := by kernel_rfl
theorem j28 : ((Tryz.prog.make == some Rows.daemonNilRow.make)) = true := by kernel_rfl
theorem j32 : (Rows.daemonNilRow.veiledFits Tryz.prog Tryz.f4.params.toList (Tryz.f4.params.toList ++ Rows.daemonNilSpec.plain.varTypes Tryz.prog ++ Tryz.f4.resultTypes.toList)) = true := by kernel_rfl
end Go.Proofs.YthglnebobkpioaaGreatDoor.daemonNil
