/- It is proved that the given row of the law BookNil says of the program what the program is: some of its closed facts. Conditions: none. -/
import Derived.Test.YtimbbelbppfgkaaGreatDoorRows
import Derived.Test.YtimbbelbppfgkaaGreatDoorCards
import Derived.JoinedOf
import Derived.KernelRfl
import Derived.LaidByTextLater
import Derived.SevenTiedAt
open Go
namespace Go.Proofs.YtimbbelbppfgkaaGreatDoor.bookNil
theorem j3 : (mapsRowed Tryz.prog) = true := by kernel_rfl
theorem j7 : ((Tryz.prog.stops == [])) = true := by kernel_rfl
theorem j11 : ((Rows.bookNilRow.unfollowed == Tryz.prog.unfollowed 3)) = true := by kernel_rfl
theorem j15 : ((Rows.bookNilRow.ifaces == (Tryz.f3.params.toList ++ Rows.bookNilSpec.plain.varTypes Tryz.prog).any (Tryz.prog.ifacesRec ·))) = true := by kernel_rfl
theorem j19 : (Rows.bookNilSpec.vars.all (Tryz.prog.varReadable ·)) = true := by kernel_rfl
theorem j23 : ((Rows.bookNilRow.plainKeys == Tryz.prog.plainKeys)) = true := by kernel_rfl
theorem j27 : ((Rows.bookNilRow.lifted == Tryz.prog.liftsFinal)) = true := by kernel_rfl
theorem j31 : ((Rows.bookNilRow.veiled == (Tryz.f3.params.toList ++ Rows.bookNilSpec.plain.varTypes Tryz.prog ++ Tryz.f3.resultTypes.toList).any (Tryz.prog.veiledRec ·))) = true := by kernel_rfl
end Go.Proofs.YtimbbelbppfgkaaGreatDoor.bookNil
