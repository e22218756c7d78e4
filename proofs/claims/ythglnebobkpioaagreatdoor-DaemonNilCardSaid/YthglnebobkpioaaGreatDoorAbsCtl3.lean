/- A part of the abstract runs: the program is run over an abstract heap; what holds there holds in every world that looks so. Conditions: none. -/
import Derived.Test.YthglnebobkpioaaGreatDoorAbsCtl2
namespace Go.Abs
open Go Go.RowKit
section
variable {E : Env} {N lo : Nat} {w0 : World}

/-- the state under other protections. -/
theorem Rel.withProt {ng : Nat} {r : Ren} {σ : AW} {w : World} (h : Rel N w0 lo ng r σ w) {p : List Nat} (hp : ∀ b, b < lo → p.contains b = true) : Rel N w0 lo ng r { σ with prot := p } w where
  obj := h.obj
  own := h.own
  sep := h.sep
  new := h.new
  glob := h.glob
  low b hb := by unfold AW.may; simp only; rw [hp b hb]; rfl
  lon := h.lon
  base := h.base
  keep := h.keep

theorem ObjAt.back {ng : Nat} {r r1 : Ren} {σ : AW} {w w1 : World} (h : Rel N w0 lo ng r σ w) (hr : r.le r1) {b : Nat} {o : AObj} {l : Loc} (hg : σ.heap.get b = some o) (hl : r b = some l) (h1 : ObjAt r1 w1 l o) : ObjAt r w1 l o := by
  obtain ⟨l', hl', _, h0⟩ := h.obj b o hg
  rw [hl] at hl'; cases hl'
  cases o with
  | cells c s =>
    refine ⟨fun i v hv => ?_, h1.2⟩
    obtain ⟨v', a, b⟩ := h1.1 i v hv
    obtain ⟨v'', _, b'⟩ := h0.1 i v hv
    have := (b'.mono hr).fn b
    subst this
    exact ⟨v'', a, b'⟩
  | map es k =>
    obtain ⟨es', a, b⟩ := h1
    obtain ⟨es'', _, b'⟩ := h0
    refine ⟨es', a, b.1, fun i e e' he he' => ?_⟩
    have k1 := b.2 i e e' he he'
    have hi : i < es''.length := by
      have : i < es.length := by
        rcases Nat.lt_or_ge i es.length with h | h
        · exact h
        · rw [List.getElem?_eq_none h] at he; cases he
      have := b'.1; omega
    have k2 := b'.2 i e _ he (List.getElem?_eq_getElem hi)
    exact ⟨by rw [← (k2.key.mono hr).fn k1.key]; exact k2.key, by rw [← (k2.val.mono hr).fn k1.val]; exact k2.val, k1.born⟩
  | iter s p => exact h1

theorem guards_mem {m : Nat} : ∀ {ahead : List (Nat × List Nat)} {j b : Nat} {bs : List Nat}, (j, bs) ∈ ahead → m.testBit j = false → b ∈ bs → b ∈ guards m ahead := by
  intro ahead
  induction ahead with
  | nil => intro j b bs h; cases h
  | cons x ahead ih =>
    intro j b bs h hm hb
    obtain ⟨k, cs⟩ := x
    unfold guards
    rcases List.mem_cons.1 h with h | h
    · cases h
      rw [if_neg (by rw [hm]; simp)]
      exact List.mem_append_left _ hb
    · split
      · exact ih h hm hb
      · exact List.mem_append_right _ (ih h hm hb)

theorem takeable_sound {t : AT} {σ : AW} {ops : Array Oper} {listed : Array Bool} {j : Nat} {o : Oper} {v : Value} {bs : List Nat} : ∀ (l : List Nat), takeable E t σ ops listed l = some (j, o, v, bs) →
    j ∈ l ∧ Region.free .any ops listed j = true ∧ ops[j]? = some o ∧
      ((Region.wanted o (yielded? ops t) = true ∧ rop E t σ o = some (v, bs) ∧ bs.all (fun b => decide (b < σ.next)) = true) ∨ (Region.wanted o (yielded? ops t) = false ∧ v = undef ∧ bs = [])) := by
  intro l
  induction l with
  | nil => intro h; simp [takeable] at h
  | cons i l ih =>
    intro h
    unfold takeable at h
    split at h
    · rename_i x hx
      cases h
      split at hx
      · rename_i hfr
        cases ho : ops[i]? with
        | none => rw [ho] at hx; cases hx
        | some oi =>
          rw [ho] at hx
          simp only at hx
          split at hx
          · rename_i hw
            cases hr : rop E t σ oi with
            | none => rw [hr] at hx; cases hx
            | some y =>
              obtain ⟨y1, y2⟩ := y
              rw [hr] at hx
              simp only at hx
              split at hx
              · rename_i hall
                cases hx
                exact ⟨List.mem_cons_self .., hfr, ho, .inl ⟨hw, hr, hall⟩⟩
              · cases hx
          · rename_i hw
            cases hx
            exact ⟨List.mem_cons_self .., hfr, ho, .inr ⟨by simpa using hw, rfl, rfl⟩⟩
      · cases hx
    · obtain ⟨h1, h2⟩ := ih h
      exact ⟨List.mem_cons_of_mem _ h1, h2⟩

/-- a region whose post speaks of its plain end alone. -/
def only (K : Act → World → Prop) : Exit → Act → World → Prop
  | .normal, a, w => K a w
  | _, _, _ => False

theorem any_sound (hE : EnvOk E) {call : ACall} (hc : Sound E call) {ops : Array Oper} (hsel : Region.noSelect ops = true) {prot : List Nat} {K : Act → World → Prop} (hprot : ∀ b, b < lo → prot.contains b = true) :
    ∀ (n : Nat) {listed : Array Bool} {D : Nat} {ahead : List (Nat × List Nat)} {t t' : AT} {σ σ' : AW} {r : Ren} {a : Act} {w : World} {S : Nat → World → Prop},
      any? E call ops (Region.before ops) prot n listed D ahead t σ = some (t', σ') → Closed ops listed → (∀ k, D.testBit k = true → listed.getD k false = true) →
      TR r t a → a.defers = [] → Rel N w0 lo E.nglob r σ w → (∀ j bs, (j, bs) ∈ ahead → ∀ b ∈ bs, b < σ.next) →
      (∀ j, D.testBit j = false → ∀ r1 σ1 w1, r.le r1 → Rel N w0 lo E.nglob r1 σ1 w1 → (∀ bs, (j, bs) ∈ ahead → ∀ b ∈ bs, σ1.heap.get b = σ.heap.get b) → S j w1) →
      (∀ r' a' w', r.le r' → Rel N w0 lo E.nglob r' { σ' with prot := prot } w' → σ.next ≤ σ'.next → (∀ b, b < σ.next → prot.contains b = true → σ'.heap.get b = σ.heap.get b) → TR r' t' a' → a'.defers = [] → K a' w') →
      wpAnyG E.P ops (only K) S n listed D a w := by
  intro n
  induction n with
  | zero =>
    intro listed D ahead t t' σ σ' r a w S h hcl hDl ht hd hR hA hS hK
    unfold any? at h
    split at h
    · rename_i hr
      cases h
      have hr' : Region.ready .any ops listed = [] := by simpa using hr
      exact ⟨hr', hK r a w (.refl r) (hR.withProt hprot) (Nat.le_refl _) (fun _ _ _ => rfl) ht hd⟩
    · cases h
  | succ n ih =>
    intro listed D ahead t t' σ σ' r a w S h hcl hDl ht hd hR hA hS hK
    unfold any? at h
    split at h
    · rename_i hr
      cases h
      exact ⟨fun _ => hK r a w (.refl r) (hR.withProt hprot) (Nat.le_refl _) (fun _ _ _ => rfl) ht hd, fun i hi => (by rw [hr] at hi; cases hi)⟩
    · rename_i i more hr
      split at h
      · -- one that reads is taken ahead
        rename_i j o v bs htk
        obtain ⟨hmem, hfree, ho, hcase⟩ := takeable_sound _ htk
        rw [← hr] at hmem
        have hrd : ∃ v', VR r v v' ∧ YieldsIf E.P ops (fun w1 => ∀ b ∈ bs, BlkR r σ w1 b) o v' a := by
          rcases hcase with ⟨hw, hrop, _⟩ | ⟨hw, rfl, rfl⟩
          · obtain ⟨v', hv, hrun⟩ := rop_sound ⟨ht, hR.glob⟩ hR hrop
            exact ⟨v', hv, .inl ⟨by rw [← yielded_sound ht]; exact hw, hrun⟩⟩
          · exact ⟨undef, undef_VR, .inr ⟨by rw [← yielded_sound ht]; exact hw, rfl⟩⟩
        obtain ⟨v', hv, hy⟩ := hrd
        have hbs : ∀ b ∈ bs, b < σ.next := by
          rcases hcase with ⟨_, _, hall⟩ | ⟨_, _, rfl⟩
          · intro b hb; simpa using List.all_eq_true.1 hall b hb
          · intro b hb; cases hb
        have hjl : listed.getD j false = false := by
          have h0 := (mem_ready.1 hmem).1
          rcases Nat.lt_or_ge j listed.size with h' | h'
          · simp [h'] at h0 ⊢; exact h0
          · simp [Array.getElem?_eq_none h']
        -- the conditions, with that of this one
        let S' : Nat → World → Prop := fun k w1 => S k w1 ∧ (k = j → ∀ b ∈ bs, BlkR r σ w1 b)
        refine wpAnyG_mono _ _ D D _ _ (fun k w1 _ h => h.1) (fun _ h => h) (S := S') ?_
        refine wpAnyG_first (v := v') ho (Region.noSelect_spec hsel) (fun c a w h => h) n listed D a w hcl hDl (Region.free_spec ho hfree) hmem
          (hy.imp (fun ⟨x, y⟩ => ⟨x, fun w1 h1 => y w1 (h1.2 rfl)⟩) id) (fun k hk => ⟨hS k hk r σ w (.refl r) hR (fun _ _ _ _ => rfl), fun _ b _ => hR.blk b⟩) ?_
        refine ih (ahead := (j, bs) :: ahead) h (hcl.set hmem) (fun k hk => getD_set_true (hDl k hk)) (ht.put o.dst hv) (by rw [Act.put_defers']; exact hd) hR (fun j' bs' hm b hb => by
          rcases List.mem_cons.1 hm with hm | hm
          · cases hm; exact hbs b hb
          · exact hA j' bs' hm b hb) (fun k hk r1 σ1 w1 hle hR1 hsame => ⟨?_, fun e => ?_⟩) hK
        · exact hS k hk r1 σ1 w1 hle hR1 (fun bs' hm b hb => hsame bs' (List.mem_cons_of_mem _ hm) b hb)
        · subst e
          intro b hb ob hob
          obtain ⟨l0, hl0, _, _⟩ := hR.obj b ob hob
          obtain ⟨l1, hl1, _, ho1⟩ := hR1.obj b ob (by rw [hsame bs (List.mem_cons_self ..) b hb]; exact hob)
          rw [hle _ _ hl0] at hl1; cases hl1
          exact ⟨l0, hl0, ObjAt.back hR hle hob hl0 ho1⟩
      · -- the one that may come up
        split at h
        · rename_i o ho hno
          have hrdy : Region.ready .any ops listed = [i] := hr
          have himem : i ∈ Region.ready .any ops listed := by rw [hrdy]; exact List.mem_cons_self ..
          have hDl' : ∀ k, (D ||| (Region.before ops).getD i 0 ||| 2 ^ i).testBit k = true → (listed.setIfInBounds i true).getD k false = true := by
            intro k hk
            rw [Nat.testBit_or, Nat.testBit_or, Bool.or_eq_true, Bool.or_eq_true] at hk
            rcases hk with (hk | hk) | hk
            · exact getD_set_true (hDl k hk)
            · exact getD_set_true (ready_listed hcl himem hk)
            · rw [Nat.testBit_two_pow] at hk
              have : i = k := by simpa using hk
              subst this
              have h0 := (mem_ready.1 himem).1
              rcases Nat.lt_or_ge i listed.size with h' | h'
              · simp [h']
              · simp [Array.getElem?_eq_none h'] at h0
          have hor : ∀ k, (D ||| (Region.before ops).getD i 0 ||| 2 ^ i).testBit k = false → (D ||| (Region.before ops).getD i 0).testBit k = false ∧ D.testBit k = false := by
            intro k hk
            rw [Nat.testBit_or, Bool.or_eq_false_iff] at hk
            refine ⟨hk.1, ?_⟩
            rw [Nat.testBit_or, Bool.or_eq_false_iff] at hk
            exact hk.1.1
          refine ⟨fun h0 => (by rw [hrdy] at h0; cases h0), fun i' hi' => ?_⟩
          rw [hrdy] at hi'
          obtain rfl : i' = i := by simpa using hi'
          split at h
          · rename_i hw
            split at h
            · rename_i v σ1 hop
              unfold wpOp
              simp only [ho]
              rw [if_pos (by rw [← yielded_sound ht]; exact hw)]
              left
              have hR2 : Rel N w0 lo E.nglob r { σ with prot := guards (D ||| (Region.before ops).getD i' 0) ahead ++ prot } w := hR.withProt (fun b hb => by
                rw [List.contains_iff_mem]
                exact List.mem_append_right _ (List.contains_iff_mem.1 (hprot b hb)))
              refine op_sound hE hc ⟨ht, hR.glob⟩ hR2 hop ?_
              intro r1 v1 w1 haft hv1
              -- what was taken ahead stands
              have hstand : ∀ k, (D ||| (Region.before ops).getD i' 0).testBit k = false → ∀ bs, (k, bs) ∈ ahead → ∀ b ∈ bs, σ1.heap.get b = σ.heap.get b := by
                intro k hk bs hm b hb
                refine haft.same b (hA k bs hm b hb) ?_
                unfold AW.may
                simp only [Bool.not_eq_false']
                rw [List.contains_iff_mem]
                exact List.mem_append_left _ (guards_mem hm hk hb)
              refine ⟨fun k hk => ?_, ?_⟩
              · refine hS k ?_ r1 σ1 w1 haft.le haft.rel (hstand k hk)
                rw [Nat.testBit_or, Bool.or_eq_false_iff] at hk; exact hk.1
              · refine ih h (hcl.set himem) hDl' ((ht.mono haft.le).put o.dst hv1) (by rw [Act.put_defers']; exact hd) haft.rel (fun j' bs' hm b hb => Nat.lt_of_lt_of_le (hA j' bs' hm b hb) haft.next) (fun k hk r2 σ2 w2 hle hR2' hsame => ?_) (fun r' a' w' hle hR' hnx hsame ht' hd' => ?_)
                · exact hS k (hor k hk).2 r2 σ2 w2 (haft.le.trans hle) hR2' (fun bs hm b hb => (hsame bs hm b hb).trans (hstand k (hor k hk).1 bs hm b hb))
                · refine hK r' a' w' (haft.le.trans hle) hR' (Nat.le_trans haft.next hnx) (fun b hb hp => ?_) ht' hd'
                  rw [hsame b (Nat.lt_of_lt_of_le hb haft.next) hp]
                  refine haft.same b hb ?_
                  unfold AW.may
                  simp only [Bool.not_eq_false']
                  rw [List.contains_iff_mem] at hp ⊢
                  exact List.mem_append_right _ hp
            · cases h
          · rename_i hw
            unfold wpOp
            simp only [ho]
            rw [if_neg (by rw [← yielded_sound ht]; exact hw)]
            refine ⟨fun k hk => hS k ?_ r σ w (.refl r) hR (fun _ _ _ _ => rfl), ?_⟩
            · rw [Nat.testBit_or, Bool.or_eq_false_iff] at hk; exact hk.1
            · exact ih h (hcl.set himem) hDl' (ht.put o.dst undef_VR) (by rw [Act.put_defers']; exact hd) hR hA (fun k hk r2 σ2 w2 hle hR2' hsame => hS k (hor k hk).2 r2 σ2 w2 hle hR2' hsame) hK
        · cases h
end
end Go.Abs
