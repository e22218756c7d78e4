/- It is proved that the given row of the law WorldNames says of the program what the program is: some of its closed facts. Conditions: none. -/
import Derived.Test.YtimbbelbppfgkaaGreatDoorRows
import Derived.Test.YtimbbelbppfgkaaGreatDoorCards
import Derived.JoinedOf
import Derived.KernelRfl
import Derived.LaidByTextLater
import Derived.SevenTiedAt
import Derived.Test.YtimbbelbppfgkaaGreatDoorFWorldNamesT0
open Go
namespace Go.Proofs.YtimbbelbppfgkaaGreatDoor.worldNames
theorem noOwnUnsafe : Tryz.pinned.checked.prog.headLifts.contains "ownunsafe" = false := by kernel_rfl
theorem fits : Tryz.pinned.checked.prog.listedFits Rows.worldNamesRow.laid = true := by
  unfold Program.listedFits
  rw [noOwnUnsafe]
  as_aux_lemma => kernel_rfl
theorem pin : Tryz.pinned.checked.prog.pinnedFits "unicode/utf8.first" = true := by kernel_rfl
end Go.Proofs.YtimbbelbppfgkaaGreatDoor.worldNames
