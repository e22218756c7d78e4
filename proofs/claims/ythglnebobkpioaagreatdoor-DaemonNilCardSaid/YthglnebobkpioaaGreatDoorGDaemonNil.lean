/- It is proved that the given row of the law DaemonNil says of the program what the program is: some of its closed facts. Conditions: none. -/
import Derived.Test.YthglnebobkpioaaGreatDoorRows
import Derived.Test.YthglnebobkpioaaGreatDoorCards
import Derived.JoinedOf
import Derived.KernelRfl
import Derived.LaidByTextLater
import Derived.SevenTiedAt
open Go
namespace Go.Proofs.YthglnebobkpioaaGreatDoor.daemonNil
theorem g1 : Tryz.pinned.checked.prog.funcNamed Rows.daemonNilRow.func = some 4 := by kernel_rfl
theorem g2 : decide (Tryz.f4.isInstance Tryz.pinned.checked.prog Rows.daemonNilRow.origin Rows.daemonNilRow.targs) = true := by kernel_rfl
theorem g3 : Rows.daemonNilRow.wfByText (OpenSpec.ofChange Rows.daemonNilSpec) = true := by kernel_rfl
theorem g4 : Tryz.pinned.checked.prog.mainIs = some (Rows.daemonNilCard.stood.harness.1, Rows.daemonNilCard.stood.harness.2.toList) := by kernel_rfl
theorem g5 : true = Tryz.pinned.checked.prog.looks [] := by kernel_rfl
theorem goes_none {P : Program} (h : P.funcs.toList.any Func.goes = false) (f : FuncId) : P.goes f = false := by
  have hall := List.any_eq_false.1 h
  have h2 : P.funcs.any Func.goes = false := by rw [← Array.any_toList]; exact h
  unfold Program.goes
  rw [h2, Bool.and_false, Bool.or_false, List.any_eq_false]
  intro g _
  cases hg : P.funcs[g]? with
  | none => simp
  | some fn =>
    have : fn ∈ P.funcs.toList := List.mem_of_getElem? (by rw [Array.getElem?_toList]; exact hg)
    simpa using hall fn this
theorem goesBy_none {c : OpenClaim} {P : Program} (hs : c.start = .entering) (h : P.funcs.toList.any Func.goes = false) : false = c.goesBy P := by
  unfold OpenClaim.goesBy Program.goesAt Program.goesFrom
  rw [hs]
  cases P.funcNamed c.func with
  | none => rfl
  | some f => simp [goes_none h f]
theorem g6a : Tryz.pinned.checked.prog.funcs.toList.any Func.goes = false := by kernel_rfl
theorem g6 : false = Rows.daemonNilRow.goesBy Tryz.pinned.checked.prog := goesBy_none rfl g6a
theorem g7 : (Tryz.f4.params.all fun u => !Tryz.pinned.checked.prog.wantsStandIn u) = true := by kernel_rfl
end Go.Proofs.YthglnebobkpioaaGreatDoor.daemonNil
