/- It is proved that the given row of the law WorldNames says of the program what the program is: some of its closed facts. Conditions: none. -/
import Derived.Test.YtimbbelbppfgkaaGreatDoorRows
import Derived.Test.YtimbbelbppfgkaaGreatDoorCards
import Derived.JoinedOf
import Derived.KernelRfl
import Derived.LaidByTextLater
import Derived.SevenTiedAt
open Go
namespace Go.Proofs.YtimbbelbppfgkaaGreatDoor.worldNames
theorem j2 : (laidOutB Tryz.prog) = true := by kernel_rfl
theorem j6 : ((Rows.worldNamesRow.stops == [])) = true := by kernel_rfl
theorem j10 : ((Rows.worldNamesRow.inPlace == Tryz.prog.inPlace 5)) = true := by kernel_rfl
theorem j14 : ((Rows.worldNamesRow.maps == (Tryz.f5.params.toList ++ Rows.worldNamesSpec.plain.varTypes Tryz.prog).any (Tryz.prog.mapsRec ·))) = true := by kernel_rfl
theorem j18 : ((Rows.worldNamesRow.wideKeys == (Tryz.f5.params.toList ++ Rows.worldNamesSpec.plain.varTypes Tryz.prog ++ Tryz.f5.resultTypes.toList).any (Tryz.prog.wideKeysFrom ·))) = true := by kernel_rfl
theorem j22 : ((Rows.worldNamesRow.loopsOut == Tryz.f5.resultTypes.toList.any (Tryz.prog.loopsFrom ·))) = true := by kernel_rfl
theorem j26 : (Tryz.prog.mayEnter) = true := by kernel_rfl
theorem j30 : ((Rows.worldNamesRow.pinned == Rows.worldNamesRow.pinnedBy)) = true := by kernel_rfl
end Go.Proofs.YtimbbelbppfgkaaGreatDoor.worldNames
