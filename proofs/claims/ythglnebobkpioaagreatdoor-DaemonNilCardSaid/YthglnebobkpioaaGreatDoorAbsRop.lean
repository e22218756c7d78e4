/- A part of the abstract runs: the program is run over an abstract heap; what holds there holds in every world that looks so. Conditions: none. -/
import Derived.Test.YthglnebobkpioaaGreatDoorAbsHeap
namespace Go.Abs
open Go Go.RowKit

section
variable {P : Program} {w : World}

theorem run_pure {α : Type} (x : α) : (pure x : Sem α).run P w = .ok x w := rfl
theorem run_pure' {α : Type} (x : α) : (Sem.pure x).run P w = .ok x w := rfl
theorem run_program : (program).run P w = .ok P w := rfl
theorem run_underlying {t : TypeId} {d : TypeDesc} (h : P.underlying t = some d) : (underlying t).run P w = .ok d w := by
  unfold underlying
  rw [run_bind' run_program, h]; rfl
theorem run_typeInfo {t : TypeId} {i : TypeInfo} (h : P.info? t = some i) : (typeInfo t).run P w = .ok i w := by
  unfold typeInfo
  rw [run_bind' run_program, h]; rfl
theorem run_sizeOf {t : TypeId} {i : TypeInfo} (h : P.info? t = some i) : (sizeOf t).run P w = .ok i.size w := by
  unfold sizeOf
  rw [run_bind' (run_typeInfo h)]; rfl
theorem run_zeroValue {t : TypeId} {i : TypeInfo} {z : Value} (h : P.info? t = some i) (hz : i.zero = some z) : (zeroValue t).run P w = .ok z w := by
  unfold zeroValue
  rw [run_bind' (run_typeInfo h), hz]; rfl
end

section
variable {E : Env} {w : World}
theorem sizeOf?_run {t : TypeId} {n : Nat} (h : sizeOf? E t = some n) : (sizeOf t).run E.P w = .ok n w := by
  unfold sizeOf? at h
  cases hi : E.P.info? t with
  | none => rw [hi] at h; cases h
  | some i => rw [hi] at h; cases h; exact run_sizeOf hi
theorem agg?_run {t : TypeId} {b : Bool} (h : agg? E t = some b) : (isAgg t).run E.P w = .ok b w := by
  unfold agg? at h
  unfold isAgg
  cases hu : E.P.underlying t with
  | none => rw [hu] at h; cases h
  | some d =>
    rw [hu] at h
    rw [run_bind' (run_underlying hu)]
    cases d <;> simp at h <;> subst h <;> rfl
theorem zero?_run {t : TypeId} {z : Value} (h : zero? E t = some z) : cl z = true ∧ (zeroValue t).run E.P w = .ok z w := by
  unfold zero? at h
  cases hi : E.P.info? t with
  | none => rw [hi] at h; cases h
  | some i =>
    rw [hi] at h
    cases hz : i.zero with
    | none => simp only [hz] at h; cases h
    | some z' =>
      simp only [hz] at h
      split at h
      · rename_i hc; cases h; exact ⟨hc, run_zeroValue hi hz⟩
      · cases h

theorem part?_run {r : Ren} {t : TypeId} {cs cs' : Array Value} {off : Nat} {v : Value} (h : part? E t cs off = some v) (hv : VL r cs.toList cs'.toList) :
    ∃ v', VR r v v' ∧ ∀ w, (part t cs' off).run E.P w = .ok v' w := by
  unfold part? at h
  unfold part
  cases ha : agg? E t with
  | none => rw [ha] at h; cases h
  | some b =>
    rw [ha] at h
    cases b with
    | true =>
      simp only at h
      cases hs : sizeOf? E t with
      | none => rw [hs] at h; cases h
      | some n =>
        rw [hs] at h
        simp only [Option.some.injEq] at h
        subst h
        refine ⟨.agg (cs'.extract off (off + n)), ?_, fun w => ?_⟩
        · rw [VR.agg_iff]
          simp only [Array.toList_extract]
          exact (hv.drop _).take _
        · rw [run_bind' (agg?_run ha)]
          simp only [if_true]
          rw [run_bind' (sizeOf?_run hs)]; rfl
    | false =>
      simp only at h
      rw [← Array.getElem?_toList] at h
      obtain ⟨v', h1, h2⟩ := hv.get h
      refine ⟨v', h2, fun w => ?_⟩
      rw [run_bind' (agg?_run ha)]
      simp only [Bool.false_eq_true, if_false]
      rw [← Array.getElem?_toList, h1]; rfl
end

/-! ### Operands -/
/-- the slots of the two frames. -/
structure TR (r : Ren) (t : AT) (a : Act) : Prop where
  sz : a.tmps.size = t.sz
  at' : ∀ i, VR r ((t.tr.get i).getD undef) (a.tmps.getD i undef)

theorem TR.mono {r r' : Ren} (hr : r.le r') {t : AT} {a : Act} (h : TR r t a) : TR r' t a := ⟨h.sz, fun i => (h.at' i).mono hr⟩

theorem TR.put {r : Ren} {t : AT} {a : Act} (h : TR r t a) (d : Option Nat) {v v' : Value} (hv : VR r v v') : TR r (t.put d v) (a.put d v') := by
  cases d with
  | none => exact h
  | some d =>
    unfold AT.put Act.put
    simp only
    by_cases hd : d < t.sz
    · rw [if_pos hd]
      refine ⟨by simp [h.sz], fun i => ?_⟩
      simp only [Tr.get_set, Array.getD_eq_getD_getElem?, Array.getElem?_setIfInBounds]
      by_cases e : i = d
      · subst e
        simp only [if_true, Option.getD_some]
        rw [if_pos (by rw [h.sz]; exact hd)]
        exact hv
      · rw [if_neg e, if_neg (fun e' => e e'.symm)]
        have := h.at' i
        rw [Array.getD_eq_getD_getElem?] at this
        exact this
    · rw [if_neg hd]
      refine ⟨by simp [h.sz], fun i => ?_⟩
      simp only [Array.getD_eq_getD_getElem?, Array.getElem?_setIfInBounds]
      have := h.at' i
      rw [Array.getD_eq_getD_getElem?] at this
      by_cases e : d = i
      · subst e
        rw [if_pos rfl, if_neg (by rw [h.sz]; exact hd)]
        rw [Array.getElem?_eq_none (by rw [h.sz]; omega)] at this
        exact this
      · rw [if_neg e]; exact this

structure Globs (r : Ren) (ng : Nat) : Prop where
  g : ∀ g, g < ng → r g = some ⟨g, 0, 0⟩

theorem val_sound {E : Env} {r : Ren} {t : AT} {a : Act} (ht : TR r t a) (hg : ∀ g, g < E.nglob → r g = some ⟨g, 0, 0⟩) {x : Operand} {v : Value} (h : val E t x = some v) : VR r v (a.eval x) := by
  cases x with
  | tmp i => simp only [val, Option.some.injEq] at h; subst h; exact ht.at' i
  | const c =>
    simp only [val] at h
    split at h
    · rename_i hc; cases h; exact VR.cl hc
    · cases h
  | global g =>
    simp only [val] at h
    split at h
    · rename_i hc; cases h
      exact VR.ptr (o := 0) (hg g hc)
    · cases h
  | func f =>
    simp only [val, Option.some.injEq] at h; subst h
    exact .func _ rfl rfl (fun i v v' a => by simp at a) (fun i v v' a => by simp at a)

theorem vals_sound {E : Env} {r : Ren} {t : AT} {a : Act} (ht : TR r t a) (hg : ∀ g, g < E.nglob → r g = some ⟨g, 0, 0⟩) : ∀ {xs : List Operand} {vs : List Value}, vals E t xs = some vs → VL r vs (xs.map a.eval) := by
  intro xs
  induction xs with
  | nil => intro vs h; simp only [vals, Option.some.injEq] at h; subst h; exact .nil
  | cons x xs ih =>
    intro vs h
    simp only [vals] at h
    cases hx : val E t x with
    | none => rw [hx] at h; cases h
    | some v =>
      rw [hx] at h
      simp only at h
      cases hs : vals E t xs with
      | none => rw [hs] at h; cases h
      | some l => rw [hs] at h; cases h; exact .cons (val_sound ht hg hx) (ih hs)

/-! ### The operations that read or reckon -/
def BlkR (r : Ren) (σ : AW) (w : World) (b : Nat) : Prop := ∀ o, σ.heap.get b = some o → ∃ l, r b = some l ∧ ObjAt r w l o

theorem Rel.blk {N : Nat} {w0 : World} {lo ng : Nat} {r : Ren} {σ : AW} {w : World} (h : Rel N w0 lo ng r σ w) (b : Nat) : BlkR r σ w b :=
  fun o ho => let ⟨l, a, _, c⟩ := h.obj b o ho; ⟨l, a, c⟩

theorem cells?_get {σ : AW} {b : Nat} {c : List Value} {s : Nat} (h : σ.cells? b = some (c, s)) : σ.heap.get b = some (.cells c s) := by
  unfold AW.cells? at h
  split at h
  · rename_i c' s' e; cases h; exact e
  · cases h

theorem BlkR.row {r : Ren} {σ : AW} {w : World} {b : Nat} (h : BlkR r σ w b) {c : List Value} {s : Nat} (hc : σ.cells? b = some (c, s)) :
    ∃ l, r b = some l ∧ ∀ (i : Nat) (v : Value), c[i]? = some v → ∃ v', w.cell? (l.at i) = some v' ∧ VR r v v' := by
  obtain ⟨l, a, d⟩ := h _ (cells?_get hc)
  exact ⟨l, a, d.1⟩

/-- a row of cells, read. -/
theorem take_read {r : Ren} {w : World} {l : Loc} {c vs : List Value} {off n : Nat} (hrow : ∀ (i : Nat) (v : Value), c[i]? = some v → ∃ v', w.cell? (l.at i) = some v' ∧ VR r v v')
    (h : take? c off n = some vs) : ∃ vs', VL r vs vs' ∧ vs'.length = n ∧ ∀ (j : Nat) (v : Value), vs'[j]? = some v → w.cell? (l.at (off + j)) = some v := by
  unfold take? at h
  split at h
  · rename_i hle
    cases h
    have hlen : ((c.drop off).take n).length = n := by simp; omega
    -- the concrete cells, one by one
    have : ∀ m, m ≤ n → ∃ vs', VL r ((c.drop off).take m) vs' ∧ ∀ (j : Nat) (v : Value), vs'[j]? = some v → w.cell? (l.at (off + j)) = some v := by
      intro m
      induction m with
      | zero => intro _; exact ⟨[], by simpa using VL.nil, fun j v h => by simp at h⟩
      | succ m ih =>
        intro hm
        obtain ⟨vs', h1, h2⟩ := ih (by omega)
        have hi : off + m < c.length := by omega
        obtain ⟨v', hv', hr'⟩ := hrow (off + m) _ (List.getElem?_eq_getElem hi)
        refine ⟨vs' ++ [v'], ?_, fun j v hj => ?_⟩
        · rw [List.take_succ_eq_append_getElem (by simp; omega)]
          refine h1.append (.cons ?_ .nil)
          rw [List.getElem_drop]; exact hr'
        · have hl : vs'.length = m := by rw [← h1.1]; simp; omega
          rcases Nat.lt_or_ge j vs'.length with hj' | hj'
          · rw [List.getElem?_append_left hj'] at hj; exact h2 j v hj
          · rw [List.getElem?_append_right hj'] at hj
            have : j - vs'.length = 0 := by
              rcases Nat.eq_zero_or_pos (j - vs'.length) with h0 | h0
              · exact h0
              · rw [List.getElem?_eq_none (by simp; omega)] at hj; cases hj
            rw [this] at hj
            simp at hj
            have : j = m := by omega
            subst this; subst hj; exact hv'
    obtain ⟨vs', h1, h2⟩ := this n (Nat.le_refl _)
    exact ⟨vs', h1, by rw [← h1.1]; exact hlen, h2⟩
  · cases h

theorem loadVar?_sound {E : Env} {r : Ren} {σ : AW} {t : TypeId} {b o : Nat} {v : Value} (h : loadVar? E σ t ⟨b, o, none⟩ = some v) {w0 : World} (h0 : BlkR r σ w0 b) {l : Loc} (hl : r b = some l) :
    ∃ v', VR r v v' ∧ ∀ w, BlkR r σ w b → (loadVar t (l.at o)).run E.P w = .ok v' w := by
  have one : ∀ w, BlkR r σ w b → ∃ v', VR r v v' ∧ (loadVar t (l.at o)).run E.P w = .ok v' w := by
    intro w hb
    unfold loadVar? at h
    unfold loadVar
    cases hc : σ.cells? b with
    | none => simp only [hc] at h; cases h
    | some cs =>
      obtain ⟨c, s⟩ := cs
      obtain ⟨l', hl', hrow⟩ := hb.row hc
      rw [hl] at hl'; cases hl'
      simp only [hc] at h
      cases ha : agg? E t with
      | none => simp only [ha] at h; cases h
      | some ag =>
        rw [run_bind' (agg?_run ha)]
        simp only [ha] at h
        cases ag with
        | true =>
          simp only at h
          cases hs : sizeOf? E t with
          | none => simp only [hs] at h; cases h
          | some n =>
            simp only [hs] at h
            cases ht : take? c o n with
            | none => simp only [ht] at h; cases h
            | some vs =>
              simp only [ht, Option.map_some, Option.some.injEq] at h
              subst h
              obtain ⟨vs', hv, hn, hcell⟩ := take_read hrow ht
              refine ⟨.agg vs'.toArray, by rw [VR.agg_iff]; exact hv, ?_⟩
              simp only [if_true]
              rw [run_bind' (sizeOf?_run hs)]
              unfold loadCells
              have hr := loadCells_run E.P l.blk (l.base + o) w n 0 #[] vs' hn (fun j x hx => by
                have := hcell j x hx
                unfold Loc.at at this
                rw [← this]; congr 2; omega)
              rw [run_bind' (show (loadCellsFrom (l.at o) 0 n #[]).run E.P w = _ from hr)]
              simp
        | false =>
          simp only at h
          obtain ⟨v', hv', hr'⟩ := hrow _ _ h
          refine ⟨v', hr', ?_⟩
          simp only [Bool.false_eq_true, if_false]
          exact run_load E.P w _ v' hv'
  obtain ⟨v', hv, _⟩ := one w0 h0
  refine ⟨v', hv, fun w hb => ?_⟩
  obtain ⟨v'', hv2, hrun⟩ := one w hb
  rw [hv.fn hv2]; exact hrun
end Go.Abs
