/- It is proved that the given row of the law BookNil says of the program what the program is: some of its closed facts. Conditions: none. -/
import Derived.Test.YtimbbelbppfgkaaGreatDoorRows
import Derived.Test.YtimbbelbppfgkaaGreatDoorCards
import Derived.JoinedOf
import Derived.KernelRfl
import Derived.LaidByTextLater
import Derived.SevenTiedAt
open Go
namespace Go.Proofs.YtimbbelbppfgkaaGreatDoor.bookNil
theorem j2 : (laidOutB Tryz.prog) = true := by kernel_rfl
theorem j6 : ((Rows.bookNilRow.stops == [])) = true := by kernel_rfl
theorem j10 : ((Rows.bookNilRow.inPlace == Tryz.prog.inPlace 3)) = true := by kernel_rfl
theorem j14 : ((Rows.bookNilRow.maps == (Tryz.f3.params.toList ++ Rows.bookNilSpec.plain.varTypes Tryz.prog).any (Tryz.prog.mapsRec ·))) = true := by kernel_rfl
theorem j18 : ((Rows.bookNilRow.wideKeys == (Tryz.f3.params.toList ++ Rows.bookNilSpec.plain.varTypes Tryz.prog ++ Tryz.f3.resultTypes.toList).any (Tryz.prog.wideKeysFrom ·))) = true := by kernel_rfl
theorem j22 : ((Rows.bookNilRow.loopsOut == Tryz.f3.resultTypes.toList.any (Tryz.prog.loopsFrom ·))) = true := by kernel_rfl
theorem j26 : (Tryz.prog.mayEnter) = true := by kernel_rfl
theorem j30 : ((Rows.bookNilRow.pinned == Rows.bookNilRow.pinnedBy)) = true := by kernel_rfl
end Go.Proofs.YtimbbelbppfgkaaGreatDoor.bookNil
