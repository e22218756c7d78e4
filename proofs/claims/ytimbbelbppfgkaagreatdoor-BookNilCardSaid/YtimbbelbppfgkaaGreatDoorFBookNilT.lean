/- It is proved that the given row of the law BookNil says of the program what the program is: some of its closed facts. Conditions: none. -/
import Derived.Test.YtimbbelbppfgkaaGreatDoorRows
import Derived.Test.YtimbbelbppfgkaaGreatDoorCards
import Derived.JoinedOf
import Derived.KernelRfl
import Derived.LaidByTextLater
import Derived.SevenTiedAt
open Go
namespace Go.Proofs.YtimbbelbppfgkaaGreatDoor.bookNil
/-- The tie: its facts, each by the kernel, alone. -/
noncomputable def kinds : List LaidKind := [.sentinel, .data, .data, .data]
noncomputable def rest : List (String × DataW Unit) := ((Rows.bookNilRow.laid.zip kinds).filter (·.2 != .pinned)).map (·.1)
noncomputable def restKinds : List LaidKind := kinds.filter (· != .pinned)
theorem t1 : Tryz.prog.worded (varsWordLater true) = true := by kernel_rfl
theorem t2 : Tryz.prog.worded (varsWordLater !true) = false := by kernel_rfl
theorem t3 : Tryz.prog.worded rootWordLater = true := by kernel_rfl
theorem t4 : rest.map (fun x => Tryz.prog.kindOfLater x.1) = restKinds.map some := by kernel_rfl
theorem t5 : (Tryz.prog.funcNamed "gosem.cut.vars").isSome = true := by kernel_rfl
theorem t6 : varsNamedLaterB Tryz.prog (varsId Tryz.prog) rest = true := by kernel_rfl
theorem t7 (os : Os) (tape : Tape) : varsDone Tryz.prog 400 (varsId Tryz.prog) os tape = true := by kernel_rfl
theorem t8 (os : Os) (tape : Tape) : (DataW.laidRun Tryz.prog (varsWorld Tryz.prog 400 (varsId Tryz.prog) os tape).memory 8 (rest.map (·.1))).map (·.1) = some rest := by kernel_rfl
theorem t9 (os : Os) (tape : Tape) : (DataW.laidRun Tryz.prog (varsWorld Tryz.prog 400 (varsId Tryz.prog) os tape).memory 8 (rest.map (·.1))).map (fun x => decide x.2.Nodup && laidRowsB Tryz.prog (varsWorld Tryz.prog 400 (varsId Tryz.prog) os tape).memory x.2) = some true := by kernel_rfl
theorem t10 : (rest.all fun x => x.2.handleName?.isNone) = true := by kernel_rfl
theorem tie : Tryz.prog.laidByTextLater rest restKinds true := Program.laidByTextLater_by_run 400 8 t1 t2 t3 t4 t5 t6 t7 t8 t9 t10
theorem noOwnUnsafe : Tryz.pinned.checked.prog.headLifts.contains "ownunsafe" = false := by kernel_rfl
theorem row_tie : Rows.bookNilRow.laidByTextAt .later Tryz.pinned kinds true := OpenClaim.laidByTextAt_later rfl rfl tie noOwnUnsafe
end Go.Proofs.YtimbbelbppfgkaaGreatDoor.bookNil
