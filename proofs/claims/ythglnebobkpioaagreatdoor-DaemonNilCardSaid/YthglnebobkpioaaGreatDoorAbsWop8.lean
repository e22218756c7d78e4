/- A part of the abstract runs: the program is run over an abstract heap; what holds there holds in every world that looks so. Conditions: none. -/
import Derived.Test.YthglnebobkpioaaGreatDoorAbsWop7
namespace Go.Abs
open Go Go.RowKit
section
variable {E : Env} {r : Ren} {t : AT} {a : Act} {σ σ' : AW} {N lo ng : Nat} {w0 w : World}

/-- every cell of a row's extent is there, and not frozen. -/
theorem Rel.room (h : Rel N w0 lo ng r σ w) {b : Nat} {c : List Value} {sp : Nat} {l : Loc} (hg : σ.heap.get b = some (.cells c sp)) (hl : r b = some l) (hm : σ.may b = true) {i : Nat} (hi : i < c.length + l.ext * spz sp) :
    (∃ x, w.cell? (l.at i) = some x) ∧ w.frozen? (l.at i) = false := by
  obtain ⟨l', hl', hlt, hobj⟩ := h.obj b _ hg
  rw [hl] at hl'; cases hl'
  obtain ⟨hN, hfz⟩ := h.own b _ l hg hl (h.lo_le hm)
  have : ∃ x, w.cell? (l.at i) = some x := by
    rcases Nat.lt_or_ge i c.length with h1 | h1
    · obtain ⟨v', a, _⟩ := hobj.1 i _ (List.getElem?_eq_getElem h1)
      exact ⟨v', a⟩
    · exact hobj.2.1 i h1 hi
  obtain ⟨x, hx⟩ := this
  exact ⟨⟨x, hx⟩, (hfz rfl).frozen (i := l.base + i) hx⟩

theorem VL.flats {l l' : List Value} (h : VL r l l') (hf : l.all flat? = true) : l'.all flat? = true := by
  rw [List.all_eq_true] at hf ⊢
  intro x' hx'
  obtain ⟨i, hi, hxi⟩ := List.getElem_of_mem hx'
  have a1 : l'[i]? = some x' := by rw [List.getElem?_eq_getElem hi, hxi]
  have a2 := List.getElem?_eq_getElem (show i < l.length by rw [h.1]; omega)
  exact (h.2 i _ _ a2 a1).flat (hf _ (List.mem_of_getElem? a2))

/-- a row goes on in its own spare room under a new name. -/
theorem Rel.takeover (h : Rel N w0 lo ng r σ w) {P : Program} {b o size sp s2 k len n : Nat} {c new new' : List Value} {l : Loc} (hg : σ.heap.get b = some (.cells c sp)) (hsp : spz sp = size) (hs2 : spz s2 = size) (hs3 : TAGB ≤ s2 → s2 = sp ∧ o = 0) (hl : r b = some l) (hm : σ.may b = true)
    (hc : c.length = o + k * size) (hlen : len ≤ k) (hneed : len + n ≤ k + l.ext) (hv : VL r new new') (hnl : new.length = n * size) (hfl : new.all flat? = true) :
    ∃ w', (storeCells (l.at (o + len * size)) new').run P w = .ok () w' ∧
      After N w0 lo ng r σ (bindR r σ.next ⟨l.blk, l.base + o, k + l.ext - (len + n)⟩) ((σ.upd b none).alloc (.cells ((c.drop o).take (len * size) ++ new) s2)) w' := by
  subst hsp
  obtain ⟨l', hl', hlt, hobj⟩ := h.obj b _ hg
  rw [hl] at hl'; cases hl'
  obtain ⟨hN, hfz⟩ := h.own b _ l hg hl (h.lo_le hm)
  have hlen' : new'.length = n * spz sp := by rw [← hv.1]; exact hnl
  have m1 : len * spz sp + n * spz sp ≤ k * spz sp + l.ext * spz sp := by
    rw [← Nat.add_mul, ← Nat.add_mul]; exact Nat.mul_le_mul_right _ hneed
  have m2 : len * spz sp ≤ k * spz sp := Nat.mul_le_mul_right _ hlen
  have m3 : (len + n) * spz sp + (k + l.ext - (len + n)) * spz sp = k * spz sp + l.ext * spz sp := by
    rw [← Nat.add_mul, ← Nat.add_mul]; congr 1; omega
  have m4 : (len + n) * spz sp = len * spz sp + n * spz sp := Nat.add_mul _ _ _
  have hold : ((c.drop o).take (len * spz sp)).length = len * spz sp := by simp; omega
  obtain ⟨w', hrun, hw, _⟩ := storeCells_run P l.blk (l.base + (o + len * spz sp)) new' 0 w
    (fun j hj => by
      obtain ⟨⟨x, hx⟩, _⟩ := h.room hg hl hm (i := o + len * spz sp + j) (by omega)
      exact ⟨x, by rw [← hx]; unfold Loc.at; congr 2; omega⟩)
    (fun j hj => by
      obtain ⟨_, hf⟩ := h.room hg hl hm (i := o + len * spz sp + j) (by omega)
      rw [← hf]; unfold Loc.at; congr 2; omega) (hv.flats hfl)
  rw [Nat.add_zero] at hw
  refine ⟨w', hrun, bindR_le (h.new _ (Nat.le_refl _)).1, ?_, rfl, fun x hx hm' => ?_, Nat.le_succ _⟩
  · have hkill := h.kill b
    have hwr := hkill.wrote hw hN (fun k' a x hk hx hblk => by
      rw [AW.get_upd] at hk
      split at hk
      · cases hk
      · rename_i hne
        obtain ⟨r1, r2, r3⟩ := h.sep b k' _ a l x (fun e => hne e.symm) (h.lo_le hm) hg hk hl hx hblk.symm
        refine ⟨r2, fun i hi hcc => ?_⟩
        refine r3 (x.base + i - l.base) i (by simp only [extent]; omega) hi ?_
        omega)
    refine hwr.adopt (l := ⟨l.blk, l.base + o, k + l.ext - (len + n)⟩) (by rw [hw.size]; exact hlt) ⟨fun i v hi => ?_, fun i h1 h2 => ?_, fun ht => ?_⟩ hN (fun _ => ?_) (fun b' o' l' hb' hl' => ?_)
    · rcases Nat.lt_or_ge i (len * spz sp) with h1 | h1
      · rw [List.getElem?_append_left (by omega), List.getElem?_take, if_pos h1, List.getElem?_drop] at hi
        obtain ⟨v', a1, a2⟩ := hobj.1 (o + i) v hi
        refine ⟨v', ?_, a2⟩
        unfold Loc.at at a1 ⊢
        simp only
        rw [hw.cell, if_neg (by omega), ← a1]
        congr 2; omega
      · rw [List.getElem?_append_right (by omega), hold] at hi
        obtain ⟨v', a1, a2⟩ := hv.get hi
        refine ⟨v', ?_, a2⟩
        have : i - len * spz sp < new'.length := by
          rcases Nat.lt_or_ge (i - len * spz sp) new'.length with h2 | h2
          · exact h2
          · rw [List.getElem?_eq_none h2] at a1; cases a1
        unfold Loc.at
        simp only
        rw [hw.cell, if_pos (by omega), ← a1]
        congr 1; omega
    · have hl2 : ((c.drop o).take (len * spz sp) ++ new).length = len * spz sp + n * spz sp := by rw [List.length_append, hold, hnl]
      rw [hl2] at h1 h2
      simp only [hs2] at h2
      obtain ⟨⟨x, hx⟩, _⟩ := h.room hg hl hm (i := o + i) (by omega)
      refine ⟨x, ?_⟩
      unfold Loc.at at hx ⊢
      simp only
      rw [hw.cell, if_neg (by omega), ← hx]
      congr 2; omega
    · obtain ⟨e1, e2⟩ := hs3 ht
      obtain ⟨t1, c', f, t2, t3, t4⟩ := hobj.2.2 (by rw [← e1]; exact ht)
      obtain ⟨c2, t5, t6⟩ := hw.fwd _ _ _ t2
      refine ⟨by simp only [t1, e2], c2, f, by rw [e1]; exact t5, ?_, t4⟩
      have hl2 : ((c.drop o).take (len * spz sp) ++ new).length = len * spz sp + n * spz sp := by rw [List.length_append, hold, hnl]
      rw [t6, t3, hl2, hs2]
      simp only
      omega
    · intro t e f hcc
      obtain ⟨c', t', h1, h2⟩ := hw.row t e f hcc
      have := hfz rfl c' t' f h1
      rw [h2] at this; exact this
    · intro eblk
      rw [AW.get_upd] at hb'
      split at hb'
      · cases hb'
      · rename_i hne
        obtain ⟨r1, r2, r3⟩ := h.sep b b' _ o' l l' (fun e => hne e.symm) (h.lo_le hm) hg hb' hl hl' eblk
        refine ⟨?_, r2, fun i j hi hj e => ?_⟩
        · simp only [isRow, decide_eq_true_eq] at r1 ⊢
          rcases Nat.lt_or_ge s2 TAGB with h9 | h9
          · exact h9
          · rw [(hs3 h9).1]; exact r1
        have hl2 : ((c.drop o).take (len * spz sp) ++ new).length = len * spz sp + n * spz sp := by rw [List.length_append, hold, hnl]
        simp only [extent, hl2, hs2] at hi
        simp only at e
        exact r3 (o + i) j (by simp only [extent]; omega) hj (by omega)
  · show ((σ.upd b none).heap.set (σ.upd b none).next (some _)).get x = _
    rw [Tr.get_set, if_neg (by show x ≠ σ.next; omega), AW.get_upd]
    split
    · rename_i e; subst e; rw [hm] at hm'; cases hm'
    · rfl

theorem After.ofKill {b : Nat} {r' : Ren} {σ' : AW} {w' : World} (hm : σ.may b = true) (h : After N w0 lo ng r (σ.upd b none) r' σ' w') : After N w0 lo ng r σ r' σ' w' :=
  ⟨h.le, h.rel, h.prot, fun x hx hm' => by
    rw [h.same x hx hm', AW.get_upd]
    split
    · rename_i e; subst e; rw [hm] at hm'; cases hm'
    · rfl, h.next⟩

theorem BlkR.heap {w1 : World} (hw : w1.heap = w.heap) {b : Nat} (h : BlkR r σ w b) : BlkR r σ w1 b := fun o ho => by
  obtain ⟨l, h1, h2⟩ := h o ho
  exact ⟨l, h1, h2.block (by rw [hw])⟩

theorem wop_append {dst type pos after guard} {args : Array Operand} {argTypes : Array TypeId} {v : Value} (hf : Fr E r t a) (hR : Rel N w0 lo ng r σ w)
    (h : wop E t σ ⟨dst, .call ⟨.builtin .append, args, argTypes⟩, type, pos, after, guard⟩ = some (v, σ')) :
    Does E a ⟨dst, .call ⟨.builtin .append, args, argTypes⟩, type, pos, after, guard⟩ N w0 lo ng r σ w v σ' := by
  simp only [wop] at h
  split at h
  · rename_i elem base len cap x hu hvs
    split at h
    · rename_i i d hi hu1
      obtain ⟨T0, hT0, hdT0⟩ := bind_under hu
      obtain ⟨T1, hT1, hdT1⟩ : ∃ T, argTypes[1]? = some T ∧ E.P.underlying T = some d := by
        cases h1 : argTypes[1]? with
        | none => rw [h1] at hu1; cases hu1
        | some T => rw [h1] at hu1; exact ⟨T, rfl, hu1⟩
      obtain ⟨bv, xv, hargs, hbv, hxv⟩ := arr_two (hf.vals hvs)
      -- what is the same for both kinds of count
      have main : ∀ (zeros : Bool) (n : Nat), isIntD d = zeros → Count E.P w zeros i xv n → append? E σ elem i.size i.bytes base len cap x zeros n = some (v, σ') →
          Does E a ⟨dst, .call ⟨.builtin .append, args, argTypes⟩, type, pos, after, guard⟩ N w0 lo ng r σ w v σ' := by
        intro zeros n hz hcount h
        have hh : AppHead E argTypes elem i zeros := ⟨⟨T0, hT0, hdT0⟩, ⟨T1, d, hT1, hdT1, hz⟩, hi⟩
        have hex : ∀ {v' w'}, (Builtin.append_ argTypes type #[bv, xv]).run E.P w = .ok v' w' →
            (execOp a.eval ⟨dst, .call ⟨.builtin .append, args, argTypes⟩, type, pos, after, guard⟩).run E.P w = .ok (.value v') w' := by
          intro v' w' hr
          rw [exec_builtin, hargs]
          exact run_v hr
        unfold append? at h
        simp only at h
        split at h
        · -- there is room
          rename_i hle
          cases hnew : appended? E σ elem i.size n zeros x with
          | none => rw [hnew] at h; cases h
          | some new =>
            rw [hnew] at h
            simp only at h
            obtain ⟨new', hvn, hrun⟩ := appended_sound elem i.size n zeros hxv hnew hR.blks
            cases base with
            | some ad =>
              simp only at h
              cases hs : storeCells? σ (ad.add (len * i.size)) new with
              | none => rw [hs] at h; cases h
              | some σ2 =>
                rw [hs] at h
                simp only [Option.map_some, Option.some.injEq, Prod.mk.injEq] at h
                obtain ⟨rfl, rfl⟩ := h
                obtain ⟨b, o, l, rfl, hl, rfl⟩ := inv_slice hbv
                rw [addr_add] at hs
                obtain ⟨w', hst, haft⟩ := storeCells?_sound hR (P := E.P) hl hvn hs
                have hcap : len + n ≤ capR l cap := by
                  have : known cap ≤ capR l cap := by unfold known capR; split <;> omega
                  omega
                refine ⟨r, _, w', haft, .slice hl, .inl (hex (append_inplace hh hcount hcap hrun (fun ad e => ?_) (fun e => nomatch e)))⟩
                cases e
                rw [Loc.at_add]; exact hst
            | none =>
              simp only [Option.some.injEq, Prod.mk.injEq] at h
              obtain ⟨rfl, rfl⟩ := h
              have hk : len + n ≤ cap := by unfold known at hle; split at hle <;> omega
              obtain rfl := inv_sliceNil hbv
              exact ⟨r, _, w, .refl hR, .sliceNil _ _, .inl (hex (append_inplace hh hcount hk hrun (fun ad e => nomatch e) (fun _ => rfl)))⟩
        · rename_i hgt
          split at h
          · cases h
          · rename_i hcond
            have hsz : ¬ i.size = 0 := fun e => hcond (.inl e)
            have hlt40 : i.size < TAGB := Nat.not_le.1 fun e => hcond (.inr (.inl e))
            have hroom : (len + n) * (i.bytes + 1) ≤ 2 ^ 40 := Nat.not_lt.1 fun e => hcond (.inr (.inr e))
            split at h
            · rename_i old new z hold hnew hzero
              split at h
              · cases h
              · rename_i hzs
                have hzs : z.cells.size = i.size := Decidable.not_not.1 hzs
                obtain ⟨i', hi', hiz, hzc⟩ := zero?_info hzero
                rw [hi] at hi'; cases hi'
                obtain ⟨old', hvo, hrold⟩ := firstCells?_sound (P := E.P) (w := w) hbv hold hR.blks
                obtain ⟨new', hvn, hrnew⟩ := appended_sound (w := w) elem i.size n zeros hxv hnew hR.blks
                have hrold2 : ∀ w1 : World, w1.heap = w.heap → (Builtin.firstCells i.size len bv).run E.P w1 = .ok old'.toArray w1 := by
                  intro w1 hw1
                  obtain ⟨o2, hv2, hr2⟩ := firstCells?_sound (P := E.P) (w := w1) hbv hold (fun b => (hR.blk b).heap hw1)
                  rw [hvo.fn hv2]; exact hr2
                have hrnew2 : ∀ w1 : World, w1.heap = w.heap → (appendedM elem i.size n zeros xv).run E.P w1 = .ok new'.toArray w1 := by
                  intro w1 hw1
                  obtain ⟨o2, hv2, hr2⟩ := appended_sound (w := w1) elem i.size n zeros hxv hnew (fun b => (hR.blk b).heap hw1)
                  rw [hvn.fn hv2]; exact hr2
                -- a new array, from whatever state that says no more
                have fresh : ∀ (s2 : Nat), spz s2 = i.size → (TAGB ≤ s2 → s2 / TAGB - 1 = elem) → ∀ (σ1 : AW) (base' : Option Addr) (cap' : Nat), bv = .slice base' len cap' → cap' < len + n → Rel N w0 lo ng r σ1 w →
                    ∃ r' w', After N w0 lo ng r σ1 r' (σ1.alloc (.cells (old ++ new) s2)) w' ∧ ∃ ex, r' σ1.next = some ⟨w.heap.size, 0, ex⟩ ∧
                      (Builtin.append_ argTypes type #[bv, xv]).run E.P w = .ok (.slice (some ⟨w.heap.size, 0, none⟩) (len + n) (len + n + ex)) w' := by
                  intro s2 hs2 hs3 σ1 base' cap' hbe hlt hR1
                  obtain ⟨ex, hrun⟩ := append_grow (T := type) hh hcount hlt hroom hiz hrnew2 (fun w1 hw1 => by rw [← hbe]; exact hrold2 w1 hw1)
                  rw [← hbe] at hrun
                  have hzl : (Builtin.zeroCells z.cells ex).toList.length = ex * i.size := by
                    simp [Builtin.zeroCells, hzs]
                  refine ⟨_, _, (hR1.drawn (w.drawn + 1)).newRow elem (old ++ new) (old' ++ new' ++ (Builtin.zeroCells z.cells ex).toList) s2 ex (0, 0) ?_ ?_ (.inl rfl) (fun h => ⟨hs3 h, rfl⟩), ex, by unfold bindR; rw [if_pos rfl], hrun⟩
                  · have : (old ++ new).length = (old' ++ new').length := by simp [hvo.1, hvn.1]
                    rw [this, List.take_left]
                    exact hvo.append hvn
                  · rw [List.length_append, hzl, hs2]
                    simp [hvo.1, hvn.1]
                have val : ∀ (r' : Ren) (nx ex : Nat), r' nx = some ⟨w.heap.size, 0, ex⟩ → VR r' (.slice (some ⟨nx, 0, none⟩) (len + n) (OPEN + (len + n))) (.slice (some ⟨w.heap.size, 0, none⟩) (len + n) (len + n + ex)) := by
                  intro r' nx ex hr'
                  have := VR.slice (r := r') (b := nx) (o := 0) (n := len + n) (c := OPEN + (len + n)) hr'
                  have hcap : capR ⟨w.heap.size, 0, ex⟩ (OPEN + (len + n)) = len + n + ex := by unfold capR; rw [if_neg (by omega)]; simp only; omega
                  rw [hcap] at this
                  exact this
                split at h
                · -- the capacity is known
                  rename_i hco
                  simp only [Option.some.injEq, Prod.mk.injEq] at h
                  obtain ⟨rfl, rfl⟩ := h
                  have hk : known cap = cap := by unfold known; rw [if_pos hco]
                  have hbe : ∃ base', bv = .slice base' len cap := by
                    cases base with
                    | none => exact ⟨_, inv_sliceNil hbv⟩
                    | some ad =>
                      obtain ⟨b, o, l, rfl, hl, e⟩ := inv_slice hbv
                      exact ⟨_, by rw [e]; unfold capR; rw [if_pos hco]⟩
                  obtain ⟨base', hbe⟩ := hbe
                  obtain ⟨r', w', haft, ex, hr', hrun⟩ := fresh (tagOf elem i.size) (tagOf_size _ _ hlt40) (fun _ => tagOf_elem _ _ hlt40) σ base' cap hbe (by omega) hR
                  exact ⟨r', _, w', haft, val r' _ ex hr', .inl (hex hrun)⟩
                · rename_i hco
                  split at h
                  · rename_i bb
                    split at h
                    · rename_i c sp hg
                      split at h
                      · rename_i hb
                        simp only [Bool.and_eq_true, beq_iff_eq, decide_eq_true_eq] at hb
                        obtain ⟨⟨⟨⟨⟨hmay, hspz⟩, hclen⟩, hlk⟩, hnl⟩, hfl⟩ := hb
                        have hs2 : ∀ o : Nat, spz (if sp = tagOf elem i.size ∧ o = 0 then sp else i.size) = i.size := by
                          intro o; split
                          · exact hspz
                          · exact spz_small hlt40
                        have hs3 : ∀ o : Nat, TAGB ≤ (if sp = tagOf elem i.size ∧ o = 0 then sp else i.size) → (if sp = tagOf elem i.size ∧ o = 0 then sp else i.size) = sp ∧ o = 0 := by
                          intro o; split
                          · rename_i h9; exact fun _ => ⟨rfl, h9.2⟩
                          · intro h9; omega
                        have hs4 : ∀ o : Nat, TAGB ≤ (if sp = tagOf elem i.size ∧ o = 0 then sp else i.size) → (if sp = tagOf elem i.size ∧ o = 0 then sp else i.size) / TAGB - 1 = elem := by
                          intro o; split
                          · rename_i h9; rw [h9.1]; exact fun _ => tagOf_elem _ _ hlt40
                          · intro h9; omega
                        simp only [Option.some.injEq, Prod.mk.injEq] at h
                        obtain ⟨rfl, rfl⟩ := h
                        obtain ⟨b, o, l, rfl, hl, rfl⟩ := inv_slice hbv
                        have hcr : capR l cap = cap - OPEN + l.ext := by unfold capR; rw [if_neg hco]
                        have hk : known cap = cap - OPEN := by unfold known; rw [if_neg hco]
                        by_cases hfit : len + n ≤ cap - OPEN + l.ext
                        · -- in the spare room
                          have hold2 : old = (c.drop o).take (len * i.size) := by
                            unfold firstCells? at hold
                            have hcs : σ.cells? b = some (c, sp) := by unfold AW.cells?; rw [hg]
                            simp only [hcs] at hold
                            unfold take? at hold
                            split at hold
                            · cases hold; rfl
                            · cases hold
                          obtain ⟨w', hst, haft⟩ := hR.takeover (P := E.P) hg hspz (hs2 o) (hs3 o) hl hmay hclen hlk hfit hvn hnl hfl
                          rw [← hold2] at haft
                          refine ⟨_, .slice (some (l.at o)) (len + n) (capR l cap), w', haft, ?_, .inl (hex (append_inplace hh hcount (by omega) hrnew (fun ad e => ?_) (fun e => nomatch e)))⟩
                          · have := VR.slice (r := bindR r σ.next ⟨l.blk, l.base + o, cap - OPEN + l.ext - (len + n)⟩) (b := σ.next) (o := 0) (n := len + n) (c := OPEN + (len + n)) (l := ⟨l.blk, l.base + o, cap - OPEN + l.ext - (len + n)⟩) (by unfold bindR; rw [if_pos rfl])
                            have e1 : capR ⟨l.blk, l.base + o, cap - OPEN + l.ext - (len + n)⟩ (OPEN + (len + n)) = capR l cap := by
                              rw [hcr]; unfold capR; rw [if_neg (by omega)]; simp only; omega
                            rw [e1] at this
                            exact this
                          · cases e
                            rw [Loc.at_add]; exact hst
                        · -- a new array
                          obtain ⟨r', w', haft, ex, hr', hrun⟩ := fresh _ (hs2 o) (hs4 o) (σ.upd b none) _ _ rfl (by omega) (hR.kill b)
                          exact ⟨r', _, w', haft.ofKill hmay, val r' _ ex hr', .inl (hex hrun)⟩
                      · cases h
                    · cases h
                  · cases h
            · cases h
      split at h
      · rename_i hz
        split at h
        · rename_i n hn
          split at h
          · rename_i hs
            exact main true n hz (.inl ⟨rfl, natOf_inv hxv hn, hs⟩) h
          · cases h
        · cases h
      · rename_i hz
        split at h
        · rename_i n hn
          exact main false n hz (.inr ⟨rfl, lenOf_run hxv hn w⟩) h
        · cases h
    · cases h
  · cases h
end
end Go.Abs
