/- A part of the abstract runs: the program is run over an abstract heap; what holds there holds in every world that looks so. Conditions: none. -/
import Derived.Test.YthglnebobkpioaaGreatDoorAbsWop2
import Derived.IntWalk
namespace Go.Abs
open Go Go.RowKit
section
variable {E : Env} {r : Ren} {t : AT} {a : Act} {σ σ' : AW} {N lo ng : Nat} {w0 w : World}

theorem wop_store {dst type pos after guard} {T : TypeId} {x y : Operand} {v : Value} (hf : Fr E r t a) (hR : Rel N w0 lo ng r σ w) (h : wop E t σ ⟨dst, .store T x y, type, pos, after, guard⟩ = some (v, σ')) :
    Does E a ⟨dst, .store T x y, type, pos, after, guard⟩ N w0 lo ng r σ w v σ' := by
  simp only [wop] at h
  split at h
  · rename_i ad q hx hy
    cases hs : storeVar? E σ T ad q with
    | none => rw [hs] at h; cases h
    | some σ2 =>
      rw [hs] at h
      simp only [Option.map_some, Option.some.injEq, Prod.mk.injEq] at h
      obtain ⟨rfl, rfl⟩ := h
      unfold storeVar? at hs
      simp only at hs
      split at hs
      · rename_i hc
        have hsz := hc
        obtain ⟨b, o, l, rfl, hl, hev⟩ := inv_ptr (hf.val hx)
        have hcs := (hf.val hy).cells
        obtain ⟨w', hrun, haft⟩ := storeCells?_sound hR (P := E.P) hl hcs hs
        refine ⟨r, undef, w', haft, .tuple rfl (fun i v v' p q => by rw [p] at q; cases q; simp at p), .inr ⟨?_, rfl⟩⟩
        show ((Instr.storeAt T (a.eval x) (a.eval y) >>= fun _ => pure .skip) : Sem Next).run E.P w = _
        rw [hev]
        unfold Instr.storeAt Instr.sureAddr
        rw [run_bind' (m := (pure (l.at o) >>= fun ad => storeVar T ad (a.eval y))) (x := ()) (w' := w')]
        · rfl
        · rw [run_bind' (run_pure _)]
          unfold storeVar
          rw [run_bind' (sizeOf?_run hsz)]
          have : (a.eval y).cells.size = q.cells.toList.length := by have := hcs.1; rw [this]; simp
          rw [if_neg (by rw [this]; simp)]
          exact hrun
      · cases hs
  · cases h

theorem undef_VR {r : Ren} : VR r undef undef := .tuple rfl (fun i v v' p q => by rw [p] at q; cases q; simp at p)

/-- an object that is no row, new. -/
theorem Rel.newObj (h : Rel N w0 lo ng r σ w) (o : AObj) (ob : Obj) (hrow : isCells o = false) (ho : ObjAt r { w with heap := w.heap.push ob } ⟨w.heap.size, 0, 0⟩ o) :
    After N w0 lo ng r σ (bindR r σ.next ⟨w.heap.size, 0, 0⟩) (σ.alloc o) { w with heap := w.heap.push ob } := by
  refine ⟨bindR_le (h.new _ (Nat.le_refl _)).1, ?_, rfl, fun b hb _ => ?_, Nat.le_succ _⟩
  · refine (h.push ob).adopt (l := ⟨w.heap.size, 0, 0⟩) (by simp) ho ?_ (fun hi => ?_) (fun b' o' l' hb' hl' => ?_)
    · have h1 := h.keep.size
      have h2 := h.base
      show N ≤ w.heap.size
      omega
    · rw [hrow] at hi; cases hi
    · intro e
      obtain ⟨x, hx, hlt, _⟩ := h.obj b' o' hb'
      rw [hl'] at hx; cases hx
      have e' : w.heap.size = l'.blk := e
      omega
  · unfold AW.alloc
    simp only
    rw [Tr.get_set, if_neg (by omega)]

theorem wop_makeMap {dst type pos after guard} {T : TypeId} {rs : Option Operand} {v : Value} (hf : Fr E r t a) (hR : Rel N w0 lo ng r σ w) (h : wop E t σ ⟨dst, .makeMap T rs, type, pos, after, guard⟩ = some (v, σ')) :
    Does E a ⟨dst, .makeMap T rs, type, pos, after, guard⟩ N w0 lo ng r σ w v σ' := by
  have fin : ∀ {w}, Rel N w0 lo ng r σ w → After N w0 lo ng r σ (bindR r σ.next ⟨w.heap.size, 0, 0⟩) (σ.alloc (.map [] 0)) { w with heap := w.heap.push (.map #[] 0) } :=
    fun hR => hR.newObj (.map [] 0) (.map #[] 0) rfl ⟨[], by simp, rfl, fun i e e' a => by simp at a⟩
  have fin2 : (execOp a.eval ⟨dst, .makeMap T rs, type, pos, after, guard⟩).run E.P w = .ok (.value (.map (some w.heap.size))) { w with heap := w.heap.push (.map #[] 0) } →
      Does E a ⟨dst, .makeMap T rs, type, pos, after, guard⟩ N w0 lo ng r σ w (.map (some σ.next)) (σ.alloc (.map [] 0)) := fun hrun =>
    ⟨_, .map (some w.heap.size), _, fin hR, .map (l := ⟨w.heap.size, 0, 0⟩) (by unfold bindR; rw [if_pos rfl]), .inl hrun⟩
  simp only [wop] at h
  cases rs with
  | none =>
    simp only [Option.some.injEq, Prod.mk.injEq] at h
    obtain ⟨rfl, rfl⟩ := h
    refine fin2 ?_
    show ((Instr.makeMap T none >>= fun x => pure (.value x)) : Sem Next).run E.P w = _
    rfl
  | some x =>
    simp only at h
    split at h
    · rename_i k e kk n hu hx
      simp only [Option.some.injEq, Prod.mk.injEq] at h
      obtain ⟨rfl, rfl⟩ := h
      refine fin2 ?_
      show ((Instr.makeMap T (some (a.eval x)) >>= fun x => pure (.value x)) : Sem Next).run E.P w = _
      refine run_v ?_
      rw [inv_int (hf.val hx)]
      unfold Instr.makeMap
      simp only []
      rw [run_bind' (run_underlying hu)]
      rfl
    · cases h

theorem wrap_nat {n : Nat} (h : n < 9223372036854775808) : IntKind.i64.wrap (n : Int) = (n : Int) := by
  exact Go.IntWalk.i64_in _ (by omega)

theorem OPEN_big : (2 : Nat) ^ 40 < OPEN := by unfold OPEN; decide

theorem wop_makeSlice {dst type pos after guard} {T : TypeId} {x y : Operand} {v : Value} (hf : Fr E r t a) (hR : Rel N w0 lo ng r σ w) (h : wop E t σ ⟨dst, .makeSlice T x y, type, pos, after, guard⟩ = some (v, σ')) :
    Does E a ⟨dst, .makeSlice T x y, type, pos, after, guard⟩ N w0 lo ng r σ w v σ' := by
  simp only [wop] at h
  split at h
  · rename_i elem l c hu hl hc
    split at h
    · rename_i i z hi hz
      split at h
      · rename_i hcond
        obtain ⟨hlc, hsmall⟩ := hcond
        cases hzr : zeroRow z.cells.toList (c * i.size) with
        | none => rw [hzr] at h; cases h
        | some cs =>
          rw [hzr] at h
          simp only [Option.map_some, Option.some.injEq, Prod.mk.injEq] at h
          obtain ⟨rfl, rfl⟩ := h
          have hc40 : c ≤ c * (i.bytes + 1) := Nat.le_mul_of_pos_right _ (Nat.succ_pos _)
          have hcb : c * i.bytes ≤ c * (i.bytes + 1) := Nat.mul_le_mul_left _ (Nat.le_succ _)
          obtain ⟨kx, hx⟩ : ∃ k : IntKind, a.eval x = .int k (l : Int) := by
            cases hz : val E t x with
            | none => rw [hz] at hl; cases hl
            | some q => rw [hz] at hl; exact natOf_inv (hf.val hz) hl
          obtain ⟨ky, hy⟩ : ∃ k : IntKind, a.eval y = .int k (c : Int) := by
            cases hz : val E t y with
            | none => rw [hz] at hc; cases hc
            | some q => rw [hz] at hc; exact natOf_inv (hf.val hz) hc
          obtain ⟨hcl, hrun⟩ := zero?_run (w := w) hz
          obtain ⟨i', hi', hiz, _⟩ := zero?_info hz
          rw [hi] at hi'; cases hi'
          have hzz := zeroRow_VL (cl_cells (r := r) hcl) hzr
          refine does_row hR (elem := elem) hzz (v' := .slice (some ⟨w.heap.size, 0, none⟩) l c) (fun r' hr' => ?_) ?_
          · have := VR.slice (r := r') (b := σ.next) (o := 0) (n := l) (c := c) hr'
            have hcap : capR ⟨w.heap.size, 0, 0⟩ c = c := by
              unfold capR OPEN; rw [if_pos (by omega)]
            rw [hcap] at this
            exact this
          · show ((Instr.makeSlice T (a.eval x) (a.eval y) >>= fun x => pure (.value x)) : Sem Next).run E.P w = _
            refine run_v ?_
            rw [hx, hy]
            unfold Instr.makeSlice
            have hwl : IntKind.i64.wrap (l : Int) = (l : Int) := wrap_nat (by omega)
            have hwc : IntKind.i64.wrap (c : Int) = (c : Int) := wrap_nat (by omega)
            rw [run_bind' (run_underlying hu)]
            simp only []
            rw [run_bind' (show (asInt (.int kx (l : Int))).run E.P w = .ok (l : Int) w from rfl), run_bind' (show (asInt (.int ky (c : Int))).run E.P w = .ok (c : Int) w from rfl), run_bind' (run_typeInfo hi)]
            have hb : ((i.bytes : Int) * (c : Int)) ≤ 2 ^ 40 := by
              have : ((i.bytes * c : Nat) : Int) ≤ ((2 ^ 40 : Nat) : Int) := by rw [Nat.mul_comm]; exact Int.ofNat_le.2 (by omega)
              simpa using this
            have h1 : (decide ((c : Int) < 0) || decide ((i.bytes : Int) * (c : Int) > 2 ^ 48) || decide ((l : Int) < 0) || decide ((l : Int) > (c : Int))) = false := by
              simp only [Bool.or_eq_false_iff, decide_eq_false_iff_not]
              refine ⟨⟨⟨by omega, by omega⟩, by omega⟩, by omega⟩
            simp only [hwl, hwc, h1, Bool.false_eq_true, if_false, Int.toNat_natCast]
            rw [run_bind' (run_askRoom E.P w _), run_bind' (run_sizeOf hi)]
            by_cases h0 : c * i.size = 0
            · have hl2 : ((Array.range (c * i.size)).map ((#[] : Array Value)[· % (#[] : Array Value).size]!)) = cs.toArray := by
                rw [h0] at hzr ⊢
                simp [zeroRow] at hzr
                subst hzr
                simp
              rw [if_pos h0, run_bind' (run_pure _), hl2]
              rfl
            · have hl2 : ((Array.range (c * i.size)).map (z.cells[· % z.cells.size]!)) = cs.toArray := Array.toList_inj.1 (zeroRow_arr hzr)
              rw [if_neg h0, run_bind' hrun, run_bind' (run_pure _), hl2]
              rfl
      · cases h
    · cases h
  · cases h
end
end Go.Abs
