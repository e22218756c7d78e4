/- A part of the abstract runs: the program is run over an abstract heap; what holds there holds in every world that looks so. Conditions: none. -/
import Derived.Test.YthglnebobkpioaaGreatDoorAbsUns
namespace Go.Abs
open Go Go.RowKit
section
variable {E : Env} {r : Ren} {t : AT} {a : Act} {σ σ' : AW} {N lo ng : Nat} {w0 w : World}

/-- what lies behind a row gets a name of its own. -/
theorem Rel.splitEnd (h : Rel N w0 lo ng r σ w) {b sp : Nat} {c : List Value} {l l2 : Loc} {n : Nat} (hg : σ.heap.get b = some (.cells c sp)) (hn : spz sp = n) (hn2 : n < TAGB) (hl : r b = some l) (hm : σ.may b = true)
    (hblk : l2.blk = l.blk) (hext : l2.ext = l.ext) (hbase : l.ext = 0 ∨ l2.base = l.base + c.length) :
    After N w0 lo ng r σ (bindR r σ.next l2) ((σ.upd b (some (.cells c 0))).alloc (.cells [] n)) w := by
  subst hn
  have hsm : spz (spz sp) = spz sp := spz_small hn2
  have hs0 : spz 0 = 0 := rfl
  obtain ⟨l', hl', hlt, hobj⟩ := h.obj b _ hg
  rw [hl] at hl'; cases hl'
  obtain ⟨hN, hfz⟩ := h.own b _ l hg hl (h.lo_le hm)
  have hkill := h.kill b
  have hput := hkill.put (b := b) (l := l) (o := .cells c 0) (h.live hg) hl hlt ⟨hobj.1, fun i h1 h2 => by simp [hs0] at h2; omega, fun h => by unfold TAGB at h; omega⟩ (fun _ => ⟨hN, fun _ => hfz rfl⟩) (fun b' o' l' hne hb' hl' e => by
    rw [AW.get_upd, if_neg hne] at hb'
    obtain ⟨r1, r2, r3⟩ := h.sep b b' _ o' l l' (fun e => hne e.symm) (h.lo_le hm) hg hb' hl hl' e
    exact ⟨rfl, r2, fun i j hi hj => r3 i j (by simp only [extent, hs0] at hi ⊢; omega) hj⟩)
  have hget : ∀ k, ((σ.upd b none).upd b (some (.cells c 0))).heap.get k = (σ.upd b (some (.cells c 0))).heap.get k := by
    intro k; simp only [AW.get_upd]; split <;> rfl
  have hrel : Rel N w0 lo ng r (σ.upd b (some (.cells c 0))) w := {
    obj := fun k a hk => hput.obj k a (by rw [hget]; exact hk)
    own := fun k a x hk => hput.own k a x (by rw [hget]; exact hk)
    sep := fun k k' a a' x x' hne hlo hk hk' => hput.sep k k' a a' x x' hne hlo (by rw [hget]; exact hk) (by rw [hget]; exact hk')
    new := fun k hk => ⟨(h.new k hk).1, by rw [← hget]; exact (hput.new k hk).2⟩
    glob := h.glob, low := h.low, lon := h.lon, base := h.base, keep := h.keep }
  refine ⟨bindR_le (h.new _ (Nat.le_refl _)).1, ?_, rfl, fun x hx hm' => ?_, Nat.le_succ _⟩
  · refine hrel.adopt (l := l2) (by rw [hblk]; exact hlt) ⟨fun i v hi => by simp at hi, fun i h1 h2 => ?_, fun h => by omega⟩ (by rw [hblk]; exact hN) (fun _ => by rw [hblk]; exact hfz rfl) (fun b' o' l' hb' hl' => ?_)
    · simp only [List.length_nil, Nat.zero_add, hsm] at h2
      rw [hext] at h2
      have hb : l2.base = l.base + c.length := by
        rcases hbase with h0 | h0
        · rw [h0] at h2; simp at h2
        · exact h0
      obtain ⟨⟨x, hx⟩, _⟩ := h.room hg hl hm (i := c.length + i) (by omega)
      exact ⟨x, by rw [← hx]; unfold Loc.at; rw [hblk, hb]; congr 2; omega⟩
    · intro eblk
      rw [AW.get_upd] at hb'
      split at hb'
      · rename_i e; subst e
        cases hb'
        rw [hl] at hl'; cases hl'
        refine ⟨by simpa [isRow] using hn2, rfl, fun i j hi hj e => ?_⟩
        simp only [extent, List.length_nil, Nat.zero_add, hs0, hsm, Nat.mul_zero, Nat.add_zero] at hi hj
        rw [hext] at hi
        have hb : l2.base = l.base + c.length := by
          rcases hbase with h0 | h0
          · rw [h0] at hi; simp at hi
          · exact h0
        omega
      · rename_i hne
        obtain ⟨r1, r2, r3⟩ := h.sep b b' _ o' l l' (fun e => hne e.symm) (h.lo_le hm) hg hb' hl hl' (by rw [← hblk]; exact eblk)
        refine ⟨by simpa [isRow] using hn2, r2, fun i j hi hj e => ?_⟩
        simp only [extent, List.length_nil, Nat.zero_add, hsm] at hi
        rw [hext] at hi
        have hb : l2.base = l.base + c.length := by
          rcases hbase with h0 | h0
          · rw [h0] at hi; simp at hi
          · exact h0
        exact r3 (c.length + i) j (by simp only [extent]; omega) hj (by omega)
  · show ((σ.upd b (some (.cells c 0))).heap.set (σ.upd b (some (.cells c 0))).next (some _)).get x = _
    rw [Tr.get_set, if_neg (by show x ≠ σ.next; omega), AW.get_upd]
    split
    · rename_i e; subst e; rw [hm] at hm'; cases hm'
    · rfl

/-- a row goes on under a new name. -/
theorem Rel.rename (h : Rel N w0 lo ng r σ w) {b : Nat} {o : AObj} {l : Loc} (hg : σ.heap.get b = some o) (hl : r b = some l) (hm : σ.may b = true) :
    After N w0 lo ng r σ (bindR r σ.next l) ((σ.upd b none).alloc o) w := by
  obtain ⟨l', hl', hlt, hobj⟩ := h.obj b _ hg
  rw [hl] at hl'; cases hl'
  obtain ⟨hN, hfz⟩ := h.own b _ l hg hl (h.lo_le hm)
  refine ⟨bindR_le (h.new _ (Nat.le_refl _)).1, ?_, rfl, fun x hx hm' => ?_, Nat.le_succ _⟩
  · refine (h.kill b).adopt (l := l) hlt hobj hN hfz (fun b' o' l' hb' hl' => ?_)
    rw [AW.get_upd] at hb'
    split at hb'
    · cases hb'
    · rename_i hne
      exact h.sep b b' _ o' l l' (fun e => hne e.symm) (h.lo_le hm) hg hb' hl hl'
  · show ((σ.upd b none).heap.set (σ.upd b none).next (some _)).get x = _
    rw [Tr.get_set, if_neg (by show x ≠ σ.next; omega), AW.get_upd]
    split
    · rename_i e; subst e; rw [hm] at hm'; cases hm'
    · rfl

theorem wop_slice {dst type pos after guard} {T : TypeId} {x : Operand} {lo' hi mx : Option Operand} {v : Value} (hf : Fr E r t a) (hR : Rel N w0 lo ng r σ w) (h : wop E t σ ⟨dst, .slice T x lo' hi mx, type, pos, after, guard⟩ = some (v, σ')) :
    Does E a ⟨dst, .slice T x lo' hi mx, type, pos, after, guard⟩ N w0 lo ng r σ w v σ' := by
  cases mx with
  | some y => simp [wop] at h
  | none =>
    simp only [wop] at h
    split at h
    · rename_i elem ad len cap hu hx
      split at h
      · rename_i n l h' hn hl hh
        split at h
        · rename_i hc
          obtain ⟨hco, hlk, hhl⟩ := hc
          split at h
          · rename_i c sp hg
            split at h
            · rename_i hb
              simp only [Bool.and_eq_true, beq_iff_eq] at hb
              obtain ⟨⟨⟨⟨hmay, hspz⟩, hcem⟩, hoff⟩, hcap⟩ := hb
              cases c with
              | cons => cases hcem
              | nil =>
                simp only [Option.some.injEq, Prod.mk.injEq] at h
                obtain ⟨rfl, rfl⟩ := h
                obtain ⟨b, o, lc, rfl, hlc, hev⟩ := inv_slice (hf.val hx)
                simp only at hmay hg hoff
                subst hoff hcap
                have hcr : capR lc OPEN = lc.ext := by unfold capR; rw [if_neg (by omega)]; omega
                have hl0 : l = 0 := by omega
                have hh0 : h' = 0 := by omega
                clear hlk hhl hco
                subst hl0 hh0
                have hval : VR (bindR r σ.next lc) (.slice (some ⟨σ.next, 0, none⟩) 0 OPEN) (.slice (some (lc.at 0)) 0 (capR lc OPEN)) :=
                  VR.slice (r := bindR r σ.next lc) (b := σ.next) (o := 0) (n := 0) (c := OPEN) (l := lc) (by unfold bindR; rw [if_pos rfl])
                refine ⟨_, _, w, hR.rename hg hlc hmay, hval, .inl ?_⟩
                show ((Instr.sliceAt T (a.eval x) (lo'.map a.eval) (hi.map a.eval) none >>= fun x => pure (.value x)) : Sem Next).run E.P w = _
                refine run_v ?_
                rw [sliceAt_slice hu, hev]
                unfold Instr.slice
                rw [run_bind' (run_underlying hu)]
                simp only []
                rw [run_bind' (bounds2_run (sl := true) (l := 0) (h := 0)
                  ((bound_sound hf hh).imp id fun ⟨k, e⟩ => ⟨k, e, Nat.zero_le _⟩) ((bound_sound hf hl).imp id fun ⟨k, e⟩ => ⟨k, e, Nat.zero_le _⟩))]
                simp only []
                rw [run_bind' (sizeOf?_run hn), run_pure]
                split
                · rfl
                · simp [Loc.at_add]
            split at h
            · rename_i hb
              simp only [Bool.and_eq_true, beq_iff_eq] at hb
              obtain ⟨⟨hmay, hspz⟩, hclen⟩ := hb
              have hn2 : n < TAGB := by rw [← hspz]; exact Nat.mod_lt _ (by decide)
              simp only [Option.some.injEq, Prod.mk.injEq, newRow?] at h
              obtain ⟨rfl, rfl⟩ := h
              obtain ⟨b, o, lc, rfl, hlc, hev⟩ := inv_slice (hf.val hx)
              have hcr : capR lc cap = cap - OPEN + lc.ext := by unfold capR; rw [if_neg (by omega)]
              simp only at hclen hmay hg
              have hbig : ∀ k : Nat, h' = k ∨ True := fun _ => .inr trivial
              have hle1 : h' ≤ capR lc cap := by omega
              have hm1 : capR lc cap - l = lc.ext := by omega
              have hm2 : h' - l = 0 := by omega
              have hm3 : lc.ext = 0 → capR lc cap = l := by omega
              have hm4 : ¬ lc.ext = 0 → ¬ capR lc cap = l := by omega
              have hm5 : l ≤ h' := by omega
              rw [← hlk] at hclen
              clear hcr hbig
              let l2 : Loc := ⟨lc.blk, if lc.ext = 0 then lc.base + o else lc.base + o + l * n, lc.ext⟩
              have haft := hR.splitEnd (l2 := l2) hg hspz hn2 hlc hmay rfl rfl (by
                by_cases e0 : lc.ext = 0
                · exact .inl e0
                · right
                  show (if lc.ext = 0 then _ else _) = _
                  rw [if_neg e0, hclen]; omega)
              have hval : VR (bindR r σ.next l2) (.slice (some ⟨σ.next, 0, none⟩) 0 OPEN) (.slice (some (l2.at 0)) 0 lc.ext) := by
                have := VR.slice (r := bindR r σ.next l2) (b := σ.next) (o := 0) (n := 0) (c := OPEN) (l := l2) (by unfold bindR; rw [if_pos rfl])
                have hcap : capR l2 OPEN = lc.ext := by unfold capR; rw [if_neg (by omega)]; show OPEN - OPEN + lc.ext = _; omega
                rw [hcap] at this
                exact this
              refine ⟨_, _, w, haft, hval, .inl ?_⟩
              show ((Instr.sliceAt T (a.eval x) (lo'.map a.eval) (hi.map a.eval) none >>= fun x => pure (.value x)) : Sem Next).run E.P w = _
              refine run_v ?_
              rw [sliceAt_slice hu, hev]
              unfold Instr.slice
              rw [run_bind' (run_underlying hu)]
              simp only []
              rw [run_bind' (bounds2_run (sl := true) (l := l) (h := h')
                ((bound_sound hf hh).imp id fun ⟨k, e⟩ => ⟨k, e, hle1⟩) ((bound_sound hf hl).imp id fun ⟨k, e⟩ => ⟨k, e, hm5⟩))]
              simp only []
              rw [run_bind' (sizeOf?_run hn), run_pure]
              rw [hm1, hm2]
              by_cases e0 : lc.ext = 0
              · have e1 : l2.at 0 = lc.at o := by
                  show (⟨lc.blk, (if lc.ext = 0 then lc.base + o else lc.base + o + l * n) + 0, none⟩ : Addr) = ⟨lc.blk, lc.base + o, none⟩
                  rw [if_pos e0, Nat.add_zero]
                rw [if_pos (hm3 e0), e1]
              · have e1 : l2.at 0 = lc.at (o + l * n) := by
                  show (⟨lc.blk, (if lc.ext = 0 then lc.base + o else lc.base + o + l * n) + 0, none⟩ : Addr) = ⟨lc.blk, lc.base + (o + l * n), none⟩
                  rw [if_neg e0, Nat.add_zero, Nat.add_assoc]
                rw [if_neg (hm4 e0), e1]
                simp only [Option.map_some, Loc.at_add]
            · cases h
          · cases h
        · cases h
      · cases h
    · cases h

theorem wop_sound (hf : Fr E r t a) (hR : Rel N w0 lo ng r σ w) {o : Oper} {v : Value} (h : wop E t σ o = some (v, σ')) : Does E a o N w0 lo ng r σ w v σ' := by
  obtain ⟨dst, op, type, pos, after, guard⟩ := o
  cases op
  case alloc => exact wop_alloc hR h
  case box => exact wop_box hf hR h
  case buildSlice => exact wop_buildSlice hf hR h
  case store => exact wop_store hf hR h
  case makeMap => exact wop_makeMap hf hR h
  case makeSlice => exact wop_makeSlice hf hR h
  case convert => exact wop_convert hf hR h
  case range => exact wop_range hf hR h
  case next => exact wop_next hf hR h
  case mapUpdate => exact wop_mapUpdate hf hR h
  case slice => exact wop_slice hf hR h
  case call c =>
    obtain ⟨callee, args, argTypes⟩ := c
    cases callee
    case builtin b =>
      cases b
      case append => exact wop_append hf hR h
      case copy => exact wop_copy hf hR h
      case unsafeString => exact wop_unsafeString hf hR h
      case delete => exact wop_delete hf hR h
      all_goals (simp [wop] at h)
    all_goals (simp [wop] at h)
  all_goals (simp [wop] at h)
end
end Go.Abs
