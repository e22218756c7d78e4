/- A part of the abstract runs: the program is run over an abstract heap; what holds there holds in every world that looks so. Conditions: none. -/
import Derived.Test.YthglnebobkpioaaGreatDoorAbsCtl3
namespace Go.Abs
open Go Go.RowKit
section
variable {E : Env} {N lo : Nat} {w0 : World}

theorem region_sound (hE : EnvOk E) {call : ACall} (hc : Sound E call) {id : Nat} {ops : Array Oper} {draw : Bool} {t t' : AT} {σ σ' : AW} {r : Ren} {a : Act} {w : World} {Q : Exit → Act → World → Prop}
    (h : region? E call ops draw t σ = some (t', σ')) (ht : TR r t a) (hd : a.defers = []) (hR : Rel N w0 lo E.nglob r σ w)
    (hQ : ∀ r' a' w', After N w0 lo E.nglob r σ r' σ' w' → TR r' t' a' → a'.defers = [] → Q .normal a' w') : (Code.region id ops draw).wp E.P Q a w := by
  unfold region? at h
  cases draw with
  | false =>
    simp only [Bool.false_eq_true, if_false] at h
    exact wp_region_list (ops_sound hE hc ops.toList h ht hd hR hQ)
  | true =>
    simp only [if_true] at h
    split at h
    · rename_i hsel
      split at h
      · rename_i t2 σ2 hany
        cases h
        have hprot : ∀ b, b < lo → σ.prot.contains b = true := fun b hb => by
          have := hR.low b hb
          unfold AW.may at this
          simpa using this
        have hg := any_sound hE hc hsel (K := fun a' w' => Q .normal a' w') hprot ops.size (S := fun _ _ => True) hany
          (fun k o hk hl => by
            have hk' : k < ops.size := (Array.getElem?_eq_some_iff.1 hk).1
            simp [hk'] at hl)
          (fun k hk => by simp at hk) ht hd (hR.drawn (w.drawn + 1)) (fun j bs hm => by cases hm) (fun _ _ _ _ _ _ _ _ => trivial)
          (fun r' a' w' hle hR' hnx hsame ht' hd' => hQ r' a' w' ⟨hle, hR', rfl, fun b hb hm => hsame b hb (by unfold AW.may at hm; simpa using hm), hnx⟩ ht' hd')
        refine Code.wp_mono (Q := only fun a' w' => Q .normal a' w') (fun e a w h => ?_) (wp_region_any hE.mixed (wpAny_of_G _ _ _ _ _ hg))
        cases e <;> first | exact h | exact h.elim
      · cases h
    · cases h

/-- one result, read. -/
def oneResult (a : Act) : ResultVar → Sem Value
  | .tmp t => pure (a.tmps.getD t undef)
  | .cell ad ty => do loadVar ty (← asAddr (a.tmps.getD ad undef))

theorem result_sound {t : AT} {σ : AW} {r : Ren} {a : Act} {w : World} (ht : TR r t a) (hR : Rel N w0 lo E.nglob r σ w) {x : ResultVar} {v : Value} (h : result? E t σ x = some v) :
    ∃ v', VR r v v' ∧ (oneResult a x).run E.P w = .ok v' w := by
  cases x with
  | tmp i =>
    simp only [result?, Option.some.injEq] at h
    subst h
    exact ⟨_, ht.at' i, rfl⟩
  | cell ad ty =>
    simp only [result?] at h
    have hv := ht.at' ad
    split at h
    · rename_i p e
      rw [e] at hv
      obtain ⟨b, o, l, rfl, hl, hev⟩ := inv_ptr hv
      obtain ⟨v', hv', hrun⟩ := loadVar?_sound h (hR.blk b) hl
      refine ⟨v', hv', ?_⟩
      show ((asAddr (a.tmps.getD ad undef) >>= fun p => loadVar ty p) : Sem Value).run E.P w = _
      rw [hev]
      rw [run_bind' (show (asAddr (.pointer (some (l.at o)))).run E.P w = .ok (l.at o) w from rfl)]
      exact hrun w (hR.blk b)
    · cases h

theorem results_sound {t : AT} {σ : AW} {r : Ren} {a : Act} {w : World} (ht : TR r t a) (hR : Rel N w0 lo E.nglob r σ w) : ∀ {xs : List ResultVar} {vs : List Value}, results? E t σ xs = some vs →
    ∃ vs', VL r vs vs' ∧ (xs.mapM fun x => oneResult a x).run E.P w = .ok vs' w := by
  intro xs
  induction xs with
  | nil =>
    intro vs h
    cases h
    exact ⟨[], .nil, rfl⟩
  | cons x xs ih =>
    intro vs h
    unfold results? at h
    cases hx : result? E t σ x with
    | none => rw [hx] at h; cases h
    | some v =>
      rw [hx] at h
      simp only at h
      cases hs : results? E t σ xs with
      | none => rw [hs] at h; cases h
      | some l =>
        rw [hs] at h
        cases h
        obtain ⟨v', hv, h1⟩ := result_sound ht hR hx
        obtain ⟨l', hl, h2⟩ := ih hs
        refine ⟨v' :: l', .cons hv hl, ?_⟩
        rw [List.mapM_cons, run_bind' h1, run_bind' h2]
        rfl

/-- several results are a tuple. -/
def resOf : List Value → Value
  | [v] => v
  | vs => .tuple vs.toArray

theorem results_run {fn : Func} {t : AT} {σ : AW} {r : Ren} {a : Act} {w : World} (ht : TR r t a) (hR : Rel N w0 lo E.nglob r σ w) {vs : List Value} (h : results? E t σ fn.results.toList = some vs) :
    ∃ v', VR r (resOf vs) v' ∧ (results fn a.tmps).run E.P w = .ok v' w := by
  obtain ⟨vs', hvl, hrun⟩ := results_sound ht hR h
  have hm : ∀ (k : Array Value → Sem Value), ((fn.results.mapM fun x => oneResult a x) >>= k).run E.P w = (k vs'.toArray).run E.P w := by
    intro k
    rw [Array.mapM_eq_mapM_toList]
    rw [run_bind' (x := vs'.toArray) (w' := w)]
    rw [← bind_pure_comp, run_bind' hrun]
    rfl
  have hres : (results fn a.tmps).run E.P w = ((fun vs : Array Value => (pure (if h : vs.size = 1 then vs[0] else .tuple vs) : Sem Value)) vs'.toArray).run E.P w :=
    hm (fun vs : Array Value => (pure (if h : vs.size = 1 then vs[0] else .tuple vs) : Sem Value))
  rw [hres]
  match vs, vs', hvl with
  | [], vs', hvl =>
    rw [hvl.nil_inv]
    exact ⟨.tuple #[], .tuple rfl (fun i v v' p q => by simp at p), rfl⟩
  | [v], vs', hvl =>
    obtain ⟨v', l', rfl, hv, hl⟩ := hvl.cons_inv
    rw [hl.nil_inv]
    exact ⟨v', hv, rfl⟩
  | v :: u :: rest, vs', hvl =>
    have hlen : vs'.toArray.size ≠ 1 := by
      have := hvl.1
      simp at this ⊢
      omega
    refine ⟨.tuple vs'.toArray, (VR.tuple_iff (c := (v :: u :: rest).toArray)).2 hvl, ?_⟩
    simp only [hlen, dite_false]
    rfl

theorem gen_get {α : Type} : ∀ (d : Nat) (f : Nat → α) (i : Nat), (Tr.gen d f).get i = if i + 1 < 2 ^ d then some (f i) else none := by
  intro d
  induction d with
  | zero => intro f i; simp only [Tr.gen, Tr.get_leaf]; rw [if_neg (by simp)]
  | succ d ih =>
    intro f i
    simp only [Tr.gen]
    cases i with
    | zero =>
      simp only [Tr.get]
      rw [if_pos (by rw [Nat.pow_succ]; have := Nat.two_pow_pos d; omega)]
    | succ k =>
      simp only [Tr.get]
      rcases Nat.mod_two_eq_zero_or_one k with hk | hk
      · simp only [hk]
        rw [ih]
        have e : 2 * (k / 2) + 1 = k + 1 := by omega
        rw [e]
        by_cases h : k / 2 + 1 < 2 ^ d
        · rw [if_pos h, if_pos (by rw [Nat.pow_succ]; omega)]
        · rw [if_neg h, if_neg (by rw [Nat.pow_succ]; omega)]
      · simp only [hk]
        rw [ih]
        have e : 2 * (k / 2) + 2 = k + 1 := by omega
        rw [e]
        by_cases h : k / 2 + 1 < 2 ^ d
        · rw [if_pos h, if_pos (by rw [Nat.pow_succ]; omega)]
        · rw [if_neg h, if_neg (by rw [Nat.pow_succ]; omega)]

theorem of_get (f : Nat → Value) (n i : Nat) (h : i < n) : ((AT.of f n).tr.get i) = some (f i) := by
  unfold AT.of
  simp only
  rw [gen_get, if_pos]
  have := Nat.lt_log2_self (n := n)
  omega

theorem enter_sound {r : Ren} {args args' : List Value} (hv : VL r args args') (n : Nat) : TR r (enter args n) { tmps := args'.toArray ++ Array.replicate (n - args'.toArray.size) undef, defers := [] } := by
  have hl : args'.length = args.length := hv.1.symm
  refine ⟨by simp [enter, AT.of, hl], fun i => ?_⟩
  have hval : ((enter args n).tr.get i).getD undef = args.getD i undef := by
    unfold enter AT.of
    simp only
    rw [gen_get]
    split
    · rfl
    · rename_i h
      have h2 := Nat.lt_log2_self (n := args.length + (n - args.length))
      rw [List.getD_eq_getElem?_getD, List.getElem?_eq_none (by omega)]
  rw [hval, Array.getD_eq_getD_getElem?]
  by_cases h1 : i < args.length
  · rw [Array.getElem?_append_left (by simp; omega)]
    have a1 := List.getElem?_eq_getElem h1
    have a2 := List.getElem?_eq_getElem (show i < args'.length by omega)
    rw [List.getD_eq_getElem?_getD, a1]
    simp only [List.getElem?_toArray, a2, Option.getD_some]
    exact hv.2 i _ _ a1 a2
  · rw [List.getD_eq_getElem?_getD, List.getElem?_eq_none (by omega), Array.getElem?_append_right (by simp; omega)]
    simp only [Option.getD_none]
    cases h2 : (Array.replicate (n - args'.toArray.size) undef)[i - args'.toArray.size]? with
    | none => exact undef_VR
    | some x =>
      rw [Array.getElem?_replicate] at h2
      split at h2
      · cases h2; exact undef_VR
      · cases h2

def AX.to : AX → Exit
  | .normal => .normal
  | .exit id => .exit id
  | .ret => .ret

def ExecSound (E : Env) (n : Nat) : Prop :=
  ∀ (c : Code) (t : AT) (σ : AW) (x : AX) (t' : AT) (σ' : AW), exec? E n c t σ = some (x, t', σ') → ∀ (N : Nat) (w0 : World) (lo : Nat) (r : Ren) (a : Act) (w : World), TR r t a → a.defers = [] → Rel N w0 lo E.nglob r σ w →
    ∀ Q : Exit → Act → World → Prop, (∀ r' a' w', After N w0 lo E.nglob r σ r' σ' w' → TR r' t' a' → a'.defers = [] → Q x.to a' w') → c.wp E.P Q a w

/-- a loop, from the head of a round. -/
def LoopSound (E : Env) (n : Nat) : Prop :=
  ∀ (c : Code) (t : AT) (σ : AW) (x : AX) (t' : AT) (σ' : AW), exec? E n (.loop c) t σ = some (x, t', σ') → ∀ (N : Nat) (w0 : World) (lo : Nat) (r : Ren) (a : Act) (w : World), TR r t a → a.defers = [] → Rel N w0 lo E.nglob r σ w →
    ∀ Q : Exit → Act → World → Prop, (∀ r' a' w', After N w0 lo E.nglob r σ r' σ' w' → TR r' t' a' → a'.defers = [] → Q x.to a' w') →
      ∀ (b : Frame) (k : List Item) (cs : List Frame), ∃ e a' w', Q e a' w' ∧ Arrives E.P (lone (b.at a (.code c :: .inLoop c :: k)) cs w) b k cs e a' w'

theorem loop_step {n : Nat} (ihE : ExecSound E n) (ihL : LoopSound E n) : LoopSound E (n + 1) := by
  intro c t σ x t' σ' h N w0 lo r a w ht hd hR Q hQ b k cs
  unfold exec? at h
  simp only at h
  -- the body, with what the next round comes to
  have body : ∀ (x1 : AX) (t1 : AT) (σ1 : AW), exec? E n c t σ = some (x1, t1, σ1) →
      (∀ r1 a1 w1, After N w0 lo E.nglob r σ r1 σ1 w1 → TR r1 t1 a1 → a1.defers = [] →
        (x1 = .normal → ∃ e a' w', Q e a' w' ∧ Arrives E.P (lone (b.at a1 (.code c :: .inLoop c :: k)) cs w1) b k cs e a' w') ∧ (x1 ≠ .normal → Q x1.to a1 w1)) →
      ∃ e a' w', Q e a' w' ∧ Arrives E.P (lone (b.at a (.code c :: .inLoop c :: k)) cs w) b k cs e a' w' := by
    intro x1 t1 σ1 h1 hnext
    have hwp := ihE _ _ _ _ _ _ h1 N w0 lo r a w ht hd hR
      (fun e a1 w1 => e = x1.to ∧ (x1 = .normal → ∃ e a' w', Q e a' w' ∧ Arrives E.P (lone (b.at a1 (.code c :: .inLoop c :: k)) cs w1) b k cs e a' w') ∧ (x1 ≠ .normal → Q x1.to a1 w1))
      (fun r1 a1 w1 haft ht1 hd1 => ⟨rfl, hnext r1 a1 w1 haft ht1 hd1⟩)
    obtain ⟨e, a₁, w₁, ⟨he, hn, hq⟩, harr⟩ := hwp b (.inLoop c :: k) cs
    cases x1 with
    | normal =>
      subst he
      obtain ⟨e₂, a₂, w₂, hq₂, harr₂⟩ := hn rfl
      exact ⟨e₂, a₂, w₂, hq₂, .of_steps (Steps.trans harr (.one step_inLoop)) harr₂⟩
    | exit id =>
      subst he
      exact ⟨_, a₁, w₁, hq (by simp), .pass (x := .inLoop c) rfl (fun _ _ => .inl (by simp [AX.to])) harr⟩
    | ret =>
      subst he
      exact ⟨_, a₁, w₁, hq (by simp), .pass (x := .inLoop c) rfl (fun _ _ => .inl (by simp [AX.to])) harr⟩
  split at h
  · rename_i t1 σ1 h1
    refine body _ _ _ h1 fun r1 a1 w1 haft ht1 hd1 => ⟨fun _ => ?_, fun e => absurd rfl e⟩
    exact ihL _ _ _ _ _ _ h N w0 lo r1 a1 w1 ht1 hd1 haft.rel Q (fun r2 a2 w2 haft2 => hQ r2 a2 w2 (haft.trans haft2)) b k cs
  · rename_i hno
    refine body _ _ _ h fun r1 a1 w1 haft ht1 hd1 => ⟨fun e => ?_, fun _ => hQ r1 a1 w1 haft ht1 hd1⟩
    subst e
    exact absurd h (hno _ _)

theorem both_sound (hE : EnvOk E) : ∀ n, ExecSound E n ∧ Sound E (call? E n) ∧ LoopSound E n := by
  intro n
  induction n with
  | zero => exact ⟨fun c t σ x t' σ' h => by simp [exec?] at h, fun f args σ v σ' h => by simp [call?] at h, fun c t σ x t' σ' h => by simp [exec?] at h⟩
  | succ n ih =>
    obtain ⟨ihE, ihC, ihL⟩ := ih
    have hL := loop_step ihE ihL
    refine ⟨?_, ?_, hL⟩
    · intro c t σ x t' σ' h N w0 lo r a w ht hd hR Q hQ
      have h0 := h
      unfold exec? at h
      split at h
      · cases h
        exact wp_skip (hQ r a w (.refl hR) ht hd)
      · -- region
        split at h
        · rename_i t2 σ2 hr
          cases h
          exact region_sound hE ihC hr ht hd hR hQ
        · cases h
      · -- seq
        rename_i c1 c2
        split at h
        · rename_i t1 σ1 h1
          refine wp_seq (ihE _ _ _ _ _ _ h1 N w0 lo r a w ht hd hR _ fun r1 a1 w1 haft ht1 hd1 => ?_)
          exact ihE _ _ _ _ _ _ h N w0 lo r1 a1 w1 ht1 hd1 haft.rel Q fun r2 a2 w2 haft2 => hQ r2 a2 w2 (haft.trans haft2)
        · rename_i hno
          refine wp_seq (ihE _ _ _ _ _ _ h N w0 lo r a w ht hd hR _ fun r1 a1 w1 haft ht1 hd1 => ?_)
          have := hQ r1 a1 w1 haft ht1 hd1
          cases x with
          | normal => exact absurd h (hno _ _)
          | exit => exact this
          | ret => exact this
      · -- cond
        rename_i c1 c2 c3
        split at h
        · rename_i hc
          exact wp_cond_true (VR.cl_eq rfl (val_sound ht hR.glob hc)) (ihE _ _ _ _ _ _ h N w0 lo r a w ht hd hR Q hQ)
        · rename_i hc
          exact wp_cond_false (VR.cl_eq rfl (val_sound ht hR.glob hc)) (ihE _ _ _ _ _ _ h N w0 lo r a w ht hd hR Q hQ)
        · cases h
      · -- block
        rename_i id b
        split at h
        · rename_i id' t1 σ1 h1
          refine wp_block (ihE _ _ _ _ _ _ h1 N w0 lo r a w ht hd hR _ fun r1 a1 w1 haft ht1 hd1 => ?_)
          show (if id' = id then Q .normal a1 w1 else Q (.exit id') a1 w1)
          split at h
          · rename_i e
            cases h
            rw [if_pos e]; exact hQ r1 a1 w1 haft ht1 hd1
          · rename_i e
            cases h
            rw [if_neg e]; exact hQ r1 a1 w1 haft ht1 hd1
        · rename_i hno
          refine wp_block (ihE _ _ _ _ _ _ h N w0 lo r a w ht hd hR _ fun r1 a1 w1 haft ht1 hd1 => ?_)
          have := hQ r1 a1 w1 haft ht1 hd1
          cases x with
          | normal => exact this
          | exit id' => exact absurd h (hno _ _ _)
          | ret => exact this
      · -- loop
        rename_i b
        intro fr k cs
        obtain ⟨e, a', w', hq, harr⟩ := hL _ _ _ _ _ _ h0 N w0 lo r a w ht hd hR Q hQ fr k cs
        exact ⟨e, a', w', hq, .of_steps (.one step_loop) harr⟩
      · cases h
        exact wp_exit (hQ r a w (.refl hR) ht hd)
      · cases h
        exact wp_ret (hQ r a w (.refl hR) ht hd)
      · cases h
    · intro f args σ v σ' h N w0 lo r w args' hR hvl
      unfold call? at h
      split at h
      · rename_i p hp
        exact hE.prim f p hp args σ v σ' h N w0 lo r w args' hR hvl
      · split at h
        · cases h
        · rename_i fn hfn
          split at h
          · rename_i c hb
            have fin : ∀ (x : AX) (t' : AT) (σ2 : AW), exec? E n c (enter args fn.ntmps) σ = some (x, t', σ2) → (x = .normal ∨ x = .ret) →
                (match results? E t' σ2 fn.results.toList with | some [v] => some (v, σ2) | some vs => some (.tuple vs.toArray, σ2) | none => none) = some (v, σ') →
                Calls E.P f args'.toArray w fun e w' => ∃ r' v', e = .returned v' ∧ After N w0 lo E.nglob r σ r' σ' w' ∧ VR r' v v' := by
              intro x t' σ2 hx hcase hres
              refine calls_of_wp hfn hb (ihE _ _ _ _ _ _ hx N w0 lo r _ w (enter_sound hvl fn.ntmps) rfl hR _ fun r1 a1 w1 haft ht1 hd1 => ?_)
              have hpost : a1.defers = [] ∧ ∃ v', (results fn a1.tmps).run E.P w1 = .ok v' w1 ∧ ∃ r' v'', Ending.returned v' = .returned v'' ∧ After N w0 lo E.nglob r σ r' σ' w1 ∧ VR r' v v'' := by
                refine ⟨hd1, ?_⟩
                cases hrs : results? E t' σ2 fn.results.toList with
                | none => rw [hrs] at hres; cases hres
                | some vs =>
                  rw [hrs] at hres
                  obtain ⟨v', hv, hrun⟩ := results_run (fn := fn) ht1 haft.rel hrs
                  have e : resOf vs = v ∧ σ2 = σ' := by
                    match vs, hres with
                    | [], hres => cases hres; exact ⟨rfl, rfl⟩
                    | [x], hres => cases hres; exact ⟨rfl, rfl⟩
                    | x :: y :: z, hres => cases hres; exact ⟨rfl, rfl⟩
                  obtain ⟨e1, rfl⟩ := e
                  rw [e1] at hv
                  exact ⟨v', hrun, r1, v', rfl, haft, hv⟩
              rcases hcase with rfl | rfl
              · exact hpost
              · exact hpost
            split at h
            · rename_i t' σ2 hx
              exact fin _ t' σ2 hx (.inl rfl) h
            · rename_i t' σ2 hx
              exact fin _ t' σ2 hx (.inr rfl) h
            · cases h
          · cases h
end
end Go.Abs
