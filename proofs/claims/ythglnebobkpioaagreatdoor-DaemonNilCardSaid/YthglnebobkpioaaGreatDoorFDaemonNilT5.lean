/- It is proved that the given row of the law DaemonNil says of the program what the program is: some of its closed facts. Conditions: none. -/
import Derived.Test.YthglnebobkpioaaGreatDoorRows
import Derived.Test.YthglnebobkpioaaGreatDoorCards
import Derived.JoinedOf
import Derived.KernelRfl
import Derived.LaidByTextLater
import Derived.SevenTiedAt
import Derived.Test.YthglnebobkpioaaGreatDoorFDaemonNilT0
open Go
namespace Go.Proofs.YthglnebobkpioaaGreatDoor.daemonNil
theorem noOwnUnsafe : Tryz.pinned.checked.prog.headLifts.contains "ownunsafe" = false := by kernel_rfl
theorem fits : Tryz.pinned.checked.prog.listedFits Rows.daemonNilRow.laid = true := by
  unfold Program.listedFits
  rw [noOwnUnsafe]
  as_aux_lemma => kernel_rfl
theorem pin : Tryz.pinned.checked.prog.pinnedFits "unicode/utf8.first" = true := by kernel_rfl
end Go.Proofs.YthglnebobkpioaaGreatDoor.daemonNil
