/- A part of the abstract runs: the program is run over an abstract heap; what holds there holds in every world that looks so. Conditions: none. -/
import Derived.Test.YthglnebobkpioaaGreatDoorAbsExt
namespace Go.Abs
open Go Go.RowKit

/-! ### More fuel tells the same -/
def CallLe (c1 c2 : ACall) : Prop := ∀ f args σ r, c1 f args σ = some r → c2 f args σ = some r

section
variable {E : Env} {c1 c2 : ACall}

theorem callOp?_le (h : CallLe c1 c2) {t : AT} {σ : AW} {c : Call} {r} (e : callOp? E c1 t σ c = some r) : callOp? E c2 t σ c = some r := by
  unfold callOp? at e ⊢
  split at e
  · cases e
  · rename_i f args hc
    split at e
    · cases e
    · rename_i fn hf
      split at e
      · exact h _ _ _ _ e
      · exact e

theorem op?_le (h : CallLe c1 c2) {t : AT} {σ : AW} {o : Oper} {r} (e : op? E c1 t σ o = some r) : op? E c2 t σ o = some r := by
  unfold op? at e ⊢
  split at e
  · exact e
  · split at e
    · exact e
    · split at e
      · exact callOp?_le h e
      · cases e

theorem ops?_le (h : CallLe c1 c2) {ops : Array Oper} : ∀ (l : List Oper) {t : AT} {σ : AW} {r}, ops? E c1 ops l t σ = some r → ops? E c2 ops l t σ = some r := by
  intro l
  induction l with
  | nil => intro t σ r e; exact e
  | cons o l ih =>
    intro t σ r e
    unfold ops? at e ⊢
    split at e
    · rename_i hw
      rw [if_pos hw]
      cases ho : op? E c1 t σ o with
      | none => rw [ho] at e; cases e
      | some p => rw [ho] at e; rw [op?_le h ho]; exact ih e
    · rename_i hw
      rw [if_neg hw]
      exact ih e

theorem any?_le (h : CallLe c1 c2) {ops : Array Oper} {bf : Array Nat} {prot : List Nat} : ∀ (n : Nat) {listed : Array Bool} {D : Nat} {ahead : List (Nat × List Nat)} {t : AT} {σ : AW} {r},
    any? E c1 ops bf prot n listed D ahead t σ = some r → any? E c2 ops bf prot n listed D ahead t σ = some r := by
  intro n
  induction n with
  | zero => intro listed D ahead t σ r e; exact e
  | succ n ih =>
    intro listed D ahead t σ r e
    unfold any? at e ⊢
    split at e
    · exact e
    · rename_i i more hr
      split at e
      · exact ih e
      · rename_i hnt
        split at e
        · rename_i o ho
          split at e
          · rename_i hw
            rw [if_pos hw]
            cases ho1 : op? E c1 t { σ with prot := guards (D ||| bf.getD i 0) ahead ++ prot } o with
            | none => rw [ho1] at e; cases e
            | some p => rw [ho1] at e; rw [op?_le h ho1]; exact ih e
          · rename_i hw
            rw [if_neg hw]
            exact ih e
        · cases e

theorem region?_le (h : CallLe c1 c2) {ops : Array Oper} {draw : Bool} {t : AT} {σ : AW} {r} (e : region? E c1 ops draw t σ = some r) : region? E c2 ops draw t σ = some r := by
  unfold region? at e ⊢
  split at e
  · rename_i hd
    rw [if_pos hd]
    split at e
    · rename_i hs
      rw [if_pos hs]
      split at e
      · rename_i ha
        rw [any?_le h _ ha]
        exact e
      · cases e
    · cases e
  · rename_i hd
    rw [if_neg hd]
    exact ops?_le h _ e

theorem fuel_succ : ∀ n, (∀ c t σ r, exec? E n c t σ = some r → exec? E (n + 1) c t σ = some r) ∧ CallLe (call? E n) (call? E (n + 1)) := by
  intro n
  induction n with
  | zero => exact ⟨fun c t σ r h => by simp [exec?] at h, fun f args σ r h => by simp [call?] at h⟩
  | succ n ih =>
    obtain ⟨ihE, ihC⟩ := ih
    refine ⟨?_, ?_⟩
    · intro c t σ r h
      unfold exec? at h ⊢
      split at h
      · exact h
      · split at h
        · rename_i hr; rw [region?_le ihC hr]; exact h
        · cases h
      · split at h
        · rename_i h1; rw [ihE _ _ _ _ h1]; exact ihE _ _ _ _ h
        · rename_i hno
          cases hx : exec? E n _ t σ with
          | none => rw [hx] at h; cases h
          | some p =>
            rw [hx] at h; rw [ihE _ _ _ _ hx]
            obtain ⟨x, t1, σ1⟩ := p
            cases x with
            | normal => exact absurd hx (hno _ _)
            | exit => exact h
            | ret => exact h
      · split at h
        · exact ihE _ _ _ _ h
        · exact ihE _ _ _ _ h
        · cases h
      · split at h
        · rename_i h1; rw [ihE _ _ _ _ h1]; exact h
        · rename_i hno
          cases hx : exec? E n _ t σ with
          | none => rw [hx] at h; cases h
          | some p =>
            rw [hx] at h; rw [ihE _ _ _ _ hx]
            obtain ⟨x, t1, σ1⟩ := p
            cases x with
            | normal => exact h
            | exit => exact absurd hx (hno _ _ _)
            | ret => exact h
      · split at h
        · rename_i h1; rw [ihE _ _ _ _ h1]; exact ihE _ _ _ _ h
        · rename_i hno
          cases hx : exec? E n _ t σ with
          | none => rw [hx] at h; cases h
          | some p =>
            rw [hx] at h; rw [ihE _ _ _ _ hx]
            obtain ⟨x, t1, σ1⟩ := p
            cases x with
            | normal => exact absurd hx (hno _ _)
            | exit => exact h
            | ret => exact h
      · exact h
      · exact h
      · cases h
    · intro f args σ r h
      unfold call? at h ⊢
      split at h
      · exact h
      · split at h
        · cases h
        · split at h
          · rename_i c hb
            split at h
            · rename_i hx; rw [ihE _ _ _ _ hx]; exact h
            · rename_i hx; rw [ihE _ _ _ _ hx]; exact h
            · cases h
          · cases h

theorem exec_le {n m : Nat} (hm : n ≤ m) {c t σ r} (h : exec? E n c t σ = some r) : exec? E m c t σ = some r := by
  induction hm with
  | refl => exact h
  | step _ ih => exact (fuel_succ _).1 _ _ _ _ ih
theorem call_le {n m : Nat} (hm : n ≤ m) : CallLe (call? E n) (call? E m) := by
  intro f args σ r h
  induction hm with
  | refl => exact h
  | step _ ih => exact (fuel_succ _).2 _ _ _ _ ih

/-! ### What a call, a piece of code, an operation comes to -/
/-- a call comes to a value and a state. -/
def G (E : Env) (f : Nat) (args : List Value) (σ : AW) (Q : Value → AW → Prop) : Prop := ∃ n v σ', call? E n f args σ = some (v, σ') ∧ Q v σ'
def X (E : Env) (c : Code) (t : AT) (σ : AW) (Q : AX → AT → AW → Prop) : Prop := ∃ n x t' σ', exec? E n c t σ = some (x, t', σ') ∧ Q x t' σ'
/-- operations in a row. -/
def XO (E : Env) (ops : Array Oper) (l : List Oper) (t : AT) (σ : AW) (Q : AT → AW → Prop) : Prop := ∃ n t' σ', ops? E (call? E n) ops l t σ = some (t', σ') ∧ Q t' σ'
def XR (E : Env) (ops : Array Oper) (draw : Bool) (t : AT) (σ : AW) (Q : AT → AW → Prop) : Prop := ∃ n t' σ', region? E (call? E n) ops draw t σ = some (t', σ') ∧ Q t' σ'
def XP (E : Env) (o : Oper) (t : AT) (σ : AW) (Q : Value → AW → Prop) : Prop := ∃ n v σ', op? E (call? E n) t σ o = some (v, σ') ∧ Q v σ'

theorem G.mono {f args σ Q Q'} (h : G E f args σ Q) (k : ∀ v σ', Q v σ' → Q' v σ') : G E f args σ Q' := let ⟨n, v, σ', a, b⟩ := h; ⟨n, v, σ', a, k _ _ b⟩
theorem X.mono {c t σ Q Q'} (h : X E c t σ Q) (k : ∀ x t' σ', Q x t' σ' → Q' x t' σ') : X E c t σ Q' := let ⟨n, x, t', σ', a, b⟩ := h; ⟨n, x, t', σ', a, k _ _ _ b⟩

theorem X.skip {t σ Q} (h : Q .normal t σ) : X E .skip t σ Q := ⟨1, _, _, _, rfl, h⟩
theorem X.exit {id t σ Q} (h : Q (.exit id) t σ) : X E (.exit id) t σ Q := ⟨1, _, _, _, rfl, h⟩
theorem X.ret {t σ Q} (h : Q .ret t σ) : X E .ret t σ Q := ⟨1, _, _, _, rfl, h⟩

theorem X.region {id ops draw t σ Q} (h : XR E ops draw t σ (fun t σ => Q .normal t σ)) : X E (.region id ops draw) t σ Q := by
  obtain ⟨n, t', σ', a, b⟩ := h
  exact ⟨n + 1, _, _, _, by unfold exec?; simp only [a], b⟩

/-- a piece of code, then the next. -/
def after (E : Env) (b : Code) (Q : AX → AT → AW → Prop) : AX → AT → AW → Prop
  | .normal, t, σ => X E b t σ Q
  | x, t, σ => Q x t σ

theorem X.seq {a b t σ Q} (h : X E a t σ (after E b Q)) : X E (.seq a b) t σ Q := by
  obtain ⟨n, x, t', σ', h1, h2⟩ := h
  cases x with
  | normal =>
    obtain ⟨m, x2, t2, σ2, h3, h4⟩ := h2
    refine ⟨max n m + 1, x2, t2, σ2, ?_, h4⟩
    unfold exec?
    simp only [exec_le (Nat.le_max_left n m) h1]
    exact exec_le (Nat.le_max_right n m) h3
  | exit id => exact ⟨n + 1, _, _, _, by unfold exec?; simp only [h1], h2⟩
  | ret => exact ⟨n + 1, _, _, _, by unfold exec?; simp only [h1], h2⟩

theorem X.cond {c a b t σ Q} {v : Bool} (hv : val E t c = some (.bool v)) (h1 : v = true → X E a t σ Q) (h2 : v = false → X E b t σ Q) : X E (.cond c a b) t σ Q := by
  cases v with
  | true =>
    obtain ⟨n, x, t', σ', h3, h4⟩ := h1 rfl
    exact ⟨n + 1, _, _, _, by unfold exec?; simp only [hv]; exact h3, h4⟩
  | false =>
    obtain ⟨n, x, t', σ', h3, h4⟩ := h2 rfl
    exact ⟨n + 1, _, _, _, by unfold exec?; simp only [hv]; exact h3, h4⟩

def unblock (id : Nat) (Q : AX → AT → AW → Prop) : AX → AT → AW → Prop
  | .exit id', t, σ => if id' = id then Q .normal t σ else Q (.exit id') t σ
  | x, t, σ => Q x t σ

theorem X.block {id b t σ Q} (h : X E b t σ (unblock id Q)) : X E (.block id b) t σ Q := by
  obtain ⟨n, x, t', σ', h1, h2⟩ := h
  cases x with
  | normal => exact ⟨n + 1, _, _, _, by unfold exec?; simp only [h1], h2⟩
  | ret => exact ⟨n + 1, _, _, _, by unfold exec?; simp only [h1], h2⟩
  | exit id' =>
    change (if id' = id then Q .normal t' σ' else Q (.exit id') t' σ') at h2
    by_cases e : id' = id
    · rw [if_pos e] at h2
      exact ⟨n + 1, .normal, t', σ', by unfold exec?; simp only [h1]; rw [if_pos e], h2⟩
    · rw [if_neg e] at h2
      exact ⟨n + 1, .exit id', t', σ', by unfold exec?; simp only [h1]; rw [if_neg e], h2⟩

theorem X.loop1 {b t σ Q} (h : X E b t σ (after E (.loop b) Q)) : X E (.loop b) t σ Q := by
  obtain ⟨n, x, t', σ', h1, h2⟩ := h
  cases x with
  | normal =>
    obtain ⟨m, x2, t2, σ2, h3, h4⟩ := h2
    refine ⟨max n m + 1, x2, t2, σ2, ?_, h4⟩
    unfold exec?
    simp only [exec_le (Nat.le_max_left n m) h1]
    exact exec_le (Nat.le_max_right n m) h3
  | exit id => exact ⟨n + 1, _, _, _, by unfold exec?; simp only [h1], h2⟩
  | ret => exact ⟨n + 1, _, _, _, by unfold exec?; simp only [h1], h2⟩

/-- a loop, with what holds at the head of each round, and a measure. -/
theorem X.loop {b t σ Q} (I : AT → AW → Prop) (m : AT → AW → Nat) (h0 : I t σ)
    (h : ∀ t σ, I t σ → X E b t σ fun x t' σ' => match x with | .normal => I t' σ' ∧ m t' σ' < m t σ | x => Q x t' σ') : X E (.loop b) t σ Q := by
  have : ∀ k t σ, I t σ → m t σ = k → X E (.loop b) t σ Q := by
    intro k
    induction k using Nat.strongRecOn with
    | ind k ih =>
      intro t σ hI hk
      refine X.loop1 ((h t σ hI).mono fun x t' σ' hx => ?_)
      cases x with
      | normal => exact ih _ (by rw [← hk]; exact hx.2) t' σ' hx.1 rfl
      | exit => exact hx
      | ret => exact hx
  exact this _ t σ h0 rfl

theorem XR.list {ops t σ Q} (h : XO E ops ops.toList t σ Q) : XR E ops false t σ Q := by
  obtain ⟨n, t', σ', a, b⟩ := h
  exact ⟨n, t', σ', by unfold region?; simp only [Bool.false_eq_true, if_false]; exact a, b⟩

theorem XO.nil {ops t σ Q} (h : Q t σ) : XO E ops [] t σ Q := ⟨0, t, σ, rfl, h⟩

theorem XO.cons {ops o l t σ Q} (hw : Region.wanted o (yielded? ops t) = true) (h : XP E o t σ fun v σ => XO E ops l (t.put o.dst v) σ Q) : XO E ops (o :: l) t σ Q := by
  obtain ⟨n, v, σ1, h1, m, t', σ', h2, h3⟩ := h
  refine ⟨max n m, t', σ', ?_, h3⟩
  unfold ops?
  rw [if_pos hw, op?_le (call_le (Nat.le_max_left n m)) h1]
  exact ops?_le (call_le (Nat.le_max_right n m)) _ h2

theorem XO.pass {ops o l t σ Q} (hw : Region.wanted o (yielded? ops t) = false) (h : XO E ops l (t.put o.dst undef) σ Q) : XO E ops (o :: l) t σ Q := by
  obtain ⟨m, t', σ', h2, h3⟩ := h
  refine ⟨m, t', σ', ?_, h3⟩
  unfold ops?
  rw [hw]
  exact h2

theorem XP.rop {o t σ v bs Q} (h : Abs.rop E t σ o = some (v, bs)) (hQ : Q v σ) : XP E o t σ Q := ⟨0, v, σ, by unfold op?; rw [h], hQ⟩
theorem XP.wop {o t σ v σ' Q} (h0 : Abs.rop E t σ o = none) (h : Abs.wop E t σ o = some (v, σ')) (hQ : Q v σ') : XP E o t σ Q := ⟨0, v, σ', by unfold op?; rw [h0, h], hQ⟩
theorem XP.call {dst c type pos af gd t σ Q f args fn b} (hc : callee? E t c = some (f, args)) (hf : E.P.funcs[f]? = some fn) (hb : fn.body = some b)
    (h0 : Abs.rop E t σ ⟨dst, .call c, type, pos, af, gd⟩ = none) (h1 : Abs.wop E t σ ⟨dst, .call c, type, pos, af, gd⟩ = none) (h : G E f args σ Q) : XP E ⟨dst, .call c, type, pos, af, gd⟩ t σ Q := by
  obtain ⟨n, v, σ', h2, h3⟩ := h
  refine ⟨n, v, σ', ?_, h3⟩
  unfold op?
  rw [h0, h1]
  simp only
  unfold callOp?
  rw [hc]
  simp only [hf, hb]
  exact h2

/-- what a function hands back. -/
def back (E : Env) (fn : Func) (Q : Value → AW → Prop) : AX → AT → AW → Prop
  | .normal, t, σ | .ret, t, σ => ∃ vs, results? E t σ fn.results.toList = some vs ∧ Q (resOf vs) σ
  | _, _, _ => False

theorem G.body {f args σ Q fn b} (hp : E.prim f = none) (hf : E.P.funcs[f]? = some fn) (hb : fn.body = some b) (h : X E b (enter args fn.ntmps) σ (back E fn Q)) : G E f args σ Q := by
  obtain ⟨n, x, t', σ', h1, h2⟩ := h
  have fin : ∀ vs, results? E t' σ' fn.results.toList = some vs → (match results? E t' σ' fn.results.toList with | some [v] => some (v, σ') | some vs => some (.tuple vs.toArray, σ') | none => none) = some (resOf vs, σ') := by
    intro vs h
    rw [h]
    match vs with
    | [] => rfl
    | [v] => rfl
    | a :: b :: c => rfl
  cases x with
  | exit => cases h2
  | normal =>
    obtain ⟨vs, h3, h4⟩ := h2
    refine ⟨n + 1, resOf vs, σ', ?_, h4⟩
    unfold call?
    simp only [hp, hf, hb, h1]
    exact fin vs h3
  | ret =>
    obtain ⟨vs, h3, h4⟩ := h2
    refine ⟨n + 1, resOf vs, σ', ?_, h4⟩
    unfold call?
    simp only [hp, hf, hb, h1]
    exact fin vs h3

theorem G.prim {f args σ Q p v σ'} (hp : E.prim f = some p) (h : p args σ = some (v, σ')) (hQ : Q v σ') : G E f args σ Q :=
  ⟨1, v, σ', by unfold call?; simp only [hp]; exact h, hQ⟩

theorem G.run {n f args σ v σ'} {Q : Value → AW → Prop} (h : call? E n f args σ = some (v, σ')) (hQ : Q v σ') : G E f args σ Q := ⟨n, v, σ', h, hQ⟩

theorem XR.run {n ops draw t σ t' σ'} {Q : AT → AW → Prop} (h : region? E (call? E n) ops draw t σ = some (t', σ')) (hQ : Q t' σ') : XR E ops draw t σ Q := ⟨n, t', σ', h, hQ⟩
end

/-- what a call comes to holds of the program. -/
theorem G.sound {E : Env} (hE : EnvOk E) {f args σ Q} (h : G E f args σ Q) {N : Nat} {w0 : World} {lo : Nat} {r : Ren} {w : World} {args' : List Value} (hR : Rel N w0 lo E.nglob r σ w) (hv : VL r args args') :
    Calls E.P f args'.toArray w fun e w' => ∃ v σ' r' v', Q v σ' ∧ e = .returned v' ∧ After N w0 lo E.nglob r σ r' σ' w' ∧ VR r' v v' := by
  obtain ⟨n, v, σ', h1, h2⟩ := h
  exact ((both_sound hE n).2.1 f args σ v σ' h1 N w0 lo r w args' hR hv).mono fun e w' ⟨r', v', a, b, c⟩ => ⟨v, σ', r', v', h2, a, b, c⟩
end Go.Abs
namespace Go.Abs
open Go Go.RowKit
/-! ### Frames, whole -/
def AT.val (t : AT) (i : Nat) : Value := (t.tr.get i).getD undef

/-- a frame of the form that a call begins with. -/
def Shaped (n : Nat) (t : AT) : Prop := t = AT.of t.val n

theorem gen_put : ∀ (d fuel : Nat) (f : Nat → Value) (i : Nat) (v : Value), i + 1 < 2 ^ d → i < fuel → Tr.put fuel (Tr.gen d f) i (some v) = Tr.gen d (fun k => if k = i then v else f k) := by
  intro d
  induction d with
  | zero => intro fuel f i v h; simp at h
  | succ d ih =>
    intro fuel f i v h hf
    obtain ⟨fuel, rfl⟩ : ∃ m, fuel = m + 1 := ⟨fuel - 1, by omega⟩
    simp only [Tr.gen]
    cases i with
    | zero =>
      simp only [Tr.put, if_true]
      congr 1 <;> congr 1 <;> funext k <;> rw [if_neg (by omega)]
    | succ j =>
      simp only [Tr.put]
      rw [Nat.pow_succ] at h
      rcases Nat.mod_two_eq_zero_or_one j with hj | hj
      · simp only [hj]
        rw [ih _ _ _ _ (by omega) (by omega)]
        congr 1
        · congr 1; funext k
          by_cases e : k = j / 2
          · rw [if_pos e, if_pos (by omega)]
          · rw [if_neg e, if_neg (by omega)]
        · congr 1; funext k; rw [if_neg (by omega)]
      · simp only [hj]
        rw [ih _ _ _ _ (by omega) (by omega)]
        congr 1
        · congr 1; funext k; rw [if_neg (by omega)]
        · congr 1; funext k
          by_cases e : k = j / 2
          · rw [if_pos e, if_pos (by omega)]
          · rw [if_neg e, if_neg (by omega)]

theorem of_val (f : Nat → Value) (n i : Nat) (h : i < n) : (AT.of f n).val i = f i := by
  unfold AT.val; rw [of_get f n i h]; rfl

/-- frames of this form are told by their values. -/
theorem gen_eq {d : Nat} {f g : Nat → Value} (h : ∀ i, i + 1 < 2 ^ d → f i = g i) : Tr.gen d f = Tr.gen d g := by
  induction d generalizing f g with
  | zero => rfl
  | succ d ih =>
    simp only [Tr.gen]
    rw [Nat.pow_succ] at h
    have := Nat.two_pow_pos d
    congr 1
    · exact ih fun i hi => h _ (by omega)
    · rw [h 0 (by omega)]
    · exact ih fun i hi => h _ (by omega)

theorem of_shaped (f : Nat → Value) (n : Nat) : Shaped n (AT.of f n) := by
  unfold Shaped
  show (⟨_, _⟩ : AT) = ⟨_, _⟩
  congr 1
  refine gen_eq fun i hi => ?_
  unfold AT.val AT.of
  simp only
  rw [gen_get, if_pos hi]
  rfl

theorem Shaped.put {n : Nat} {t : AT} (h : Shaped n t) (d : Option Nat) (v : Value) : Shaped n (t.put d v) := by
  cases d with
  | none => exact h
  | some d =>
    unfold AT.put
    simp only
    split
    · rename_i hd
      have hs : t.sz = n := by rw [h]; rfl
      rw [h]
      generalize t.val = f
      show Shaped n ⟨Tr.put (d + 1) (Tr.gen (n.log2 + 1) f) d (some v), n⟩
      rw [gen_put _ _ _ _ _ (by have := Nat.lt_log2_self (n := n); omega) (Nat.lt_succ_self d)]
      exact of_shaped _ n
    · exact h

section
variable {E : Env}
theorem ops?_shaped {call : ACall} {ops : Array Oper} {n : Nat} : ∀ (l : List Oper) {t t' : AT} {σ σ' : AW}, Shaped n t → ops? E call ops l t σ = some (t', σ') → Shaped n t' := by
  intro l
  induction l with
  | nil => intro t t' σ σ' h e; cases e; exact h
  | cons o l ih =>
    intro t t' σ σ' h e
    unfold ops? at e
    split at e
    · split at e
      · exact ih (h.put _ _) e
      · cases e
    · exact ih (h.put _ _) e

theorem any?_shaped {call : ACall} {ops : Array Oper} {bf : Array Nat} {prot : List Nat} {n : Nat} : ∀ (k : Nat) {listed : Array Bool} {D : Nat} {ahead : List (Nat × List Nat)} {t t' : AT} {σ σ' : AW},
    Shaped n t → any? E call ops bf prot k listed D ahead t σ = some (t', σ') → Shaped n t' := by
  intro k
  induction k with
  | zero => intro listed D ahead t t' σ σ' h e; unfold any? at e; split at e <;> cases e; exact h
  | succ k ih =>
    intro listed D ahead t t' σ σ' h e
    unfold any? at e
    split at e
    · cases e; exact h
    · split at e
      · exact ih (h.put _ _) e
      · split at e
        · split at e
          · split at e
            · exact ih (h.put _ _) e
            · cases e
          · exact ih (h.put _ _) e
        · cases e

theorem region?_shaped {call : ACall} {ops : Array Oper} {draw : Bool} {n : Nat} {t t' : AT} {σ σ' : AW} (h : Shaped n t) (e : region? E call ops draw t σ = some (t', σ')) : Shaped n t' := by
  unfold region? at e
  split at e
  · split at e
    · split at e
      · rename_i ha
        cases e
        exact any?_shaped _ h ha
      · cases e
    · cases e
  · exact ops?_shaped _ h e

theorem exec?_shaped {n : Nat} : ∀ (k : Nat) (c : Code) {t t' : AT} {σ σ' : AW} {x : AX}, Shaped n t → exec? E k c t σ = some (x, t', σ') → Shaped n t' := by
  intro k
  induction k with
  | zero => intro c t t' σ σ' x h e; simp [exec?] at e
  | succ k ih =>
    intro c t t' σ σ' x h e
    unfold exec? at e
    split at e
    · cases e; exact h
    · split at e
      · rename_i hr; cases e; exact region?_shaped h hr
      · cases e
    · split at e
      · rename_i h1; exact ih _ (ih _ h h1) e
      · exact ih _ h e
    · split at e
      · exact ih _ h e
      · exact ih _ h e
      · cases e
    · split at e
      · rename_i h1
        have := ih _ h h1
        split at e <;> (cases e; exact this)
      · exact ih _ h e
    · split at e
      · rename_i h1; exact ih _ (ih _ h h1) e
      · exact ih _ h e
    · cases e; exact h
    · cases e; exact h
    · cases e

theorem X.shaped {n : Nat} {c : Code} {t : AT} {σ : AW} {Q : AX → AT → AW → Prop} (hs : Shaped n t) (h : X E c t σ Q) : X E c t σ fun x t' σ' => Shaped n t' ∧ Q x t' σ' := by
  obtain ⟨k, x, t', σ', a, b⟩ := h
  exact ⟨k, x, t', σ', a, exec?_shaped k c hs a, b⟩

/-- a loop, by what its frame holds. -/
theorem X.loopF {b : Code} {t : AT} {σ : AW} {Q : AX → AT → AW → Prop} (n : Nat) (hs : Shaped n t) (I : (Nat → Value) → AW → Prop) (m : (Nat → Value) → AW → Nat) (h0 : I t.val σ)
    (h : ∀ (f : Nat → Value) σ, I f σ → X E b (AT.of f n) σ fun x t' σ' => match x with | .normal => I t'.val σ' ∧ m t'.val σ' < m f σ | x => Q x t' σ') : X E (.loop b) t σ Q := by
  refine X.loop (fun t σ => Shaped n t ∧ I t.val σ) (fun t σ => m t.val σ) ⟨hs, h0⟩ fun t σ ⟨hs, hI⟩ => ?_
  rw [hs]
  refine (X.shaped (of_shaped _ n) (h t.val σ hI)).mono fun x t' σ' ⟨h1, h2⟩ => ?_
  cases x with
  | normal => exact ⟨⟨h1, h2.1⟩, by rw [← hs]; exact h2.2⟩
  | exit => exact h2
  | ret => exact h2

/-- the slots that are known. -/
def upd (f : Nat → Value) : List (Nat × Value) → Nat → Value
  | [], i => f i
  | (k, v) :: l, i => if i = k then v else upd f l i

theorem upd_eq {f : Nat → Value} : ∀ {l : List (Nat × Value)}, (∀ p ∈ l, f p.1 = p.2) → upd f l = f := by
  intro l
  induction l with
  | nil => intro _; rfl
  | cons p l ih =>
    intro h
    funext i
    unfold upd
    split
    · rename_i e; subst e; exact (h p (by simp)).symm
    · rw [ih fun q hq => h q (by simp [hq])]

theorem X.known {b : Code} {n : Nat} {f : Nat → Value} {σ : AW} {Q : AX → AT → AW → Prop} (l : List (Nat × Value)) (hl : ∀ p ∈ l, f p.1 = p.2) (h : X E b (AT.of (upd f l) n) σ Q) : X E b (AT.of f n) σ Q := by
  rw [upd_eq hl] at h; exact h
end
end Go.Abs
