/- A part of the abstract runs: the program is run over an abstract heap; what holds there holds in every world that looks so. Conditions: none. -/
import Derived.Test.YthglnebobkpioaaGreatDoorAbsRop6
namespace Go.Abs
open Go Go.RowKit

/-- what a step leaves of the two memories. -/
structure After (N : Nat) (w0 : World) (lo ng : Nat) (r : Ren) (σ : AW) (r' : Ren) (σ' : AW) (w' : World) : Prop where
  le : r.le r'
  rel : Rel N w0 lo ng r' σ' w'
  prot : σ'.prot = σ.prot
  same : ∀ b, b < σ.next → σ.may b = false → σ'.heap.get b = σ.heap.get b
  next : σ.next ≤ σ'.next

section
variable {N : Nat} {w0 : World} {lo ng : Nat} {r : Ren} {σ : AW} {w : World}

theorem After.refl (h : Rel N w0 lo ng r σ w) : After N w0 lo ng r σ r σ w := ⟨.refl r, h, rfl, fun _ _ _ => rfl, Nat.le_refl _⟩

theorem After.trans {r' r'' : Ren} {σ' σ'' : AW} {w' w'' : World} (h : After N w0 lo ng r σ r' σ' w') (k : After N w0 lo ng r' σ' r'' σ'' w'') : After N w0 lo ng r σ r'' σ'' w'' :=
  ⟨h.le.trans k.le, k.rel, k.prot.trans h.prot, fun b hb hm => by
    rw [k.same b (Nat.lt_of_lt_of_le hb h.next) (by unfold AW.may at *; rw [h.prot]; exact hm)]
    exact h.same b hb hm, Nat.le_trans h.next k.next⟩

theorem Rel.live (h : Rel N w0 lo ng r σ w) {b : Nat} {o : AObj} (hb : σ.heap.get b = some o) : b < σ.next := by
  rcases Nat.lt_or_ge b σ.next with h1 | h1
  · exact h1
  · rw [(h.new b h1).2] at hb; cases hb

theorem Rel.lo_le (h : Rel N w0 lo ng r σ w) {b : Nat} (hm : σ.may b = true) : lo ≤ b := by
  rcases Nat.lt_or_ge b lo with h1 | h1
  · rw [h.low b h1] at hm; cases hm
  · exact h1

/-- a new row. -/
theorem Rel.newRow (h : Rel N w0 lo ng r σ w) (elem : TypeId) (cs cs' : List Value) (s ext : Nat) (fz : Nat × Nat) (hv : VL r cs (cs'.take cs.length)) (hl : cs'.length = cs.length + ext * spz s) (hz : fz.1 = fz.2 ∨ cs'.length ≤ fz.1) (ht : TAGB ≤ s → s / TAGB - 1 = elem ∧ fz.1 = fz.2) :
    After N w0 lo ng r σ (bindR r σ.next ⟨w.heap.size, 0, ext⟩) (σ.alloc (.cells cs s)) { w with heap := w.heap.push (.cells cs'.toArray elem fz) } := by
  have hcell : ∀ i, ({ w with heap := w.heap.push (.cells cs'.toArray elem fz) } : World).cell? ⟨w.heap.size, i, none⟩ = cs'[i]? := by
    intro i; simp [World.cell?]
  refine ⟨bindR_le (h.new _ (Nat.le_refl _)).1, ?_, rfl, fun b hb _ => ?_, Nat.le_succ _⟩
  · refine (h.push _).adopt (l := ⟨w.heap.size, 0, ext⟩) (by simp) ⟨fun i v hi => ?_, fun i h1 h2 => ?_, fun hs => ⟨rfl, cs'.toArray, fz, by simp [(ht hs).1], by simpa using hl, (ht hs).2⟩⟩ ?_ (fun _ => ?_) (fun b' o' l' hb' hl' => ?_)
    · obtain ⟨v', hv', hr⟩ := hv.get hi
      rw [List.getElem?_take] at hv'
      split at hv'
      · exact ⟨v', by unfold Loc.at; rw [hcell]; simpa using hv', hr⟩
      · cases hv'
    · obtain ⟨x, hx⟩ : ∃ x, cs'[i]? = some x := ⟨_, List.getElem?_eq_getElem (by simp only at h2; omega)⟩
      exact ⟨x, by simp only [Loc.at, Nat.zero_add]; rw [hcell]; exact hx⟩
    · have h1 := h.keep.size
      have h2 := h.base
      show N ≤ w.heap.size
      omega
    · intro c e f hc
      simp at hc
      obtain ⟨rfl, rfl, rfl⟩ := hc
      simpa using hz
    · intro e
      obtain ⟨x, hx, hlt, _⟩ := h.obj b' o' hb'
      rw [hl'] at hx; cases hx
      have e' : w.heap.size = l'.blk := e
      omega
  · unfold AW.alloc
    simp only
    rw [Tr.get_set, if_neg (by omega)]

theorem splice_get {c vs : List Value} {o : Nat} (h : o + vs.length ≤ c.length) (i : Nat) :
    (splice c o vs)[i]? = if o ≤ i ∧ i < o + vs.length then vs[i - o]? else c[i]? := by
  unfold splice
  have hl : (c.take o).length = o := by simp; omega
  by_cases h1 : i < o
  · rw [if_neg (by omega), List.append_assoc, List.getElem?_append_left (by omega), List.getElem?_take, if_pos h1]
  · rw [List.append_assoc, List.getElem?_append_right (by omega), hl]
    by_cases h2 : i < o + vs.length
    · rw [if_pos ⟨by omega, h2⟩, List.getElem?_append_left (by omega)]
    · rw [if_neg (by omega), List.getElem?_append_right (by omega), List.getElem?_drop]
      congr 1; omega

theorem splice_length {c vs : List Value} {o : Nat} (h : o + vs.length ≤ c.length) : (splice c o vs).length = c.length := by
  unfold splice; simp; omega

theorem storeCells?_sound (h : Rel N w0 lo ng r σ w) {P : Program} {b o : Nat} {l : Loc} {vs vs' : List Value} {σ' : AW} (hl : r b = some l) (hv : VL r vs vs')
    (hs : storeCells? σ ⟨b, o, none⟩ vs = some σ') : ∃ w', (storeCells (l.at o) vs').run P w = .ok () w' ∧ After N w0 lo ng r σ r σ' w' := by
  by_cases hnil : vs = []
  · subst hnil
    cases hs
    rw [hv.nil_inv]
    exact ⟨w, rfl, .refl h⟩
  · have hs : (match σ.heap.get b with
      | some (.cells c s) => if σ.may b && decide (o + vs.length ≤ c.length) && vs.all flat? then some (σ.upd b (some (.cells (splice c o vs) s))) else none
      | _ => none) = some σ' := by
      unfold storeCells? at hs
      cases vs with
      | nil => exact absurd rfl hnil
      | cons => exact hs
    split at hs
    · rename_i c s hg
      split at hs
      · rename_i hc
        cases hs
        rw [Bool.and_eq_true, Bool.and_eq_true, decide_eq_true_eq] at hc
        obtain ⟨⟨hmay, hle⟩, hf⟩ := hc
        have hlo := h.lo_le hmay
        obtain ⟨l', hl', hlt, hobj⟩ := h.obj b _ hg
        rw [hl] at hl'; cases hl'
        obtain ⟨hN, hfz⟩ := h.own b _ l hg hl hlo
        have hlen : vs'.length = vs.length := hv.1.symm
        have hff : vs'.all flat? = true := by
          rw [List.all_eq_true] at hf ⊢
          intro x' hx'
          obtain ⟨i, hi, hxi⟩ := List.getElem_of_mem hx'
          have a1 : vs'[i]? = some x' := by rw [List.getElem?_eq_getElem hi, hxi]
          have a2 := List.getElem?_eq_getElem (show i < vs.length by omega)
          exact (hv.2 i _ _ a2 a1).flat (hf _ (List.mem_of_getElem? a2))
        obtain ⟨w', hrun, hw, _⟩ := storeCells_run P l.blk (l.base + o) vs' 0 w
          (fun j hj => by
            obtain ⟨v', a, _⟩ := hobj.1 (o + j) _ (List.getElem?_eq_getElem (by omega))
            exact ⟨v', by rw [← a]; unfold Loc.at; congr 2; omega⟩)
          (fun j hj => by
            obtain ⟨v', a, _⟩ := hobj.1 (o + j) _ (List.getElem?_eq_getElem (by omega))
            have := (hfz rfl).frozen (i := l.base + (o + j)) a
            rw [← this]; congr 2; omega) hff
        rw [Nat.add_zero] at hw
        refine ⟨w', hrun, .refl r, ?_, rfl, fun k _ hk => ?_, Nat.le_refl _⟩
        · have hkill := h.kill b
          have hwr := hkill.wrote hw hN (fun k a x hk hx hblk => by
            rw [AW.get_upd] at hk
            split at hk
            · cases hk
            · rename_i hne
              obtain ⟨r1, r2, r3⟩ := h.sep b k _ a l x (fun e => hne e.symm) hlo hg hk hl hx hblk.symm
              refine ⟨r2, fun i hi hc => ?_⟩
              refine r3 (x.base + i - l.base) i (by simp only [extent]; omega) hi ?_
              omega)
          have := hwr.put (b := b) (l := l) (o := .cells (splice c o vs) s) (h.live hg) hl (by rw [hw.size]; exact hlt) ⟨fun i v hi => ?_, fun i h1 h2 => ?_, fun ht => by
              obtain ⟨t1, c', f, t2, t3, t4⟩ := hobj.2.2 ht
              obtain ⟨c2, t5, t6⟩ := hw.fwd _ _ _ t2
              exact ⟨t1, c2, f, t5, by rw [t6, t3, splice_length hle], t4⟩⟩
            (fun _ => ⟨hN, fun hi => by
              intro c t f hc
              obtain ⟨c', t', h1, h2⟩ := hw.row c t f hc
              have := hfz rfl c' t' f h1
              rw [h2] at this; exact this⟩)
            (fun b' o' l' hne hb' hl2 => ?_)
          · -- the two states are one
            have e : (σ.upd b none).upd b (some (.cells (splice c o vs) s)) = (σ.upd b none).upd b (some (.cells (splice c o vs) s)) := rfl
            exact {
              obj := fun k a hk => this.obj k a (by rw [AW.get_upd, AW.get_upd]; rw [AW.get_upd] at hk; split <;> simp_all)
              own := fun k a x hk => this.own k a x (by rw [AW.get_upd, AW.get_upd]; rw [AW.get_upd] at hk; split <;> simp_all)
              sep := fun k k' a a' x x' hne hlo hk hk' => this.sep k k' a a' x x' hne hlo (by rw [AW.get_upd, AW.get_upd]; rw [AW.get_upd] at hk; split <;> simp_all) (by rw [AW.get_upd, AW.get_upd]; rw [AW.get_upd] at hk'; split <;> simp_all)
              new := fun k hk => ⟨(h.new k hk).1, by rw [AW.get_upd, if_neg (by have := h.live hg; have hk' : σ.next ≤ k := hk; omega)]; exact (h.new k hk).2⟩
              glob := h.glob, low := h.low, lon := h.lon, base := h.base, keep := this.keep }
          · rw [splice_get hle] at hi
            unfold Loc.at
            rw [hw.cell]
            split at hi
            · rename_i hin
              rw [if_pos (by omega)]
              obtain ⟨v', a1, a2⟩ := hv.get hi
              exact ⟨v', by rw [← a1]; congr 1; omega, a2⟩
            · rename_i hin
              rw [if_neg (by omega)]
              exact hobj.1 i v hi
          · unfold Loc.at
            rw [splice_length hle] at h1 h2
            rw [hw.cell, if_neg (by omega)]
            exact hobj.2.1 i h1 h2
          · rw [AW.get_upd, if_neg hne] at hb'
            intro e
            obtain ⟨r1, r2, r3⟩ := h.sep b b' _ o' l l' (fun e => hne e.symm) hlo hg hb' hl hl2 e
            exact ⟨r1, r2, fun i j hi hj => r3 i j (by simp only [extent, splice_length hle] at hi ⊢; exact hi) hj⟩
        · rw [AW.get_upd]
          split
          · rename_i e; subst e; rw [hmay] at hk; cases hk
          · rfl
      · cases hs
    · cases hs
end
end Go.Abs
