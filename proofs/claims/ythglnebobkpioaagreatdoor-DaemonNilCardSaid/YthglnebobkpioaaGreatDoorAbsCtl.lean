/- A part of the abstract runs: the program is run over an abstract heap; what holds there holds in every world that looks so. Conditions: none. -/
import Derived.Test.YthglnebobkpioaaGreatDoorAbsWop9
namespace Go.Abs
open Go Go.RowKit

/-! ### The order of a region -/
section
variable {P : Program} {ops : Array Oper} {Q : Exit → Act → World → Prop}

def Closed (ops : Array Oper) (listed : Array Bool) : Prop :=
  ∀ k o, ops[k]? = some o → listed.getD k false = true → ∀ e ∈ o.after, Region.binds .any e = true → listed.getD e.on false = true

/-- all of 'm' has come up where what 'k' waits for has. -/
def Good (ops : Array Oper) (k : Nat) (m : Nat) : Prop :=
  ∀ listed, Closed ops listed → (∀ o, ops[k]? = some o → ∀ e ∈ o.after, Region.binds .any e = true → listed.getD e.on false = true) → ∀ i, m.testBit i = true → listed.getD i false = true

theorem edges_good (ops : Array Oper) (acc : Array Nat) (hacc : ∀ k, k < acc.size → Good ops k (acc.getD k 0)) (listed : Array Bool) (hc : Closed ops listed) :
    ∀ (es : List Edge) (s : Nat), (∀ i, s.testBit i = true → listed.getD i false = true) → (∀ e ∈ es, Region.binds .any e = true → listed.getD e.on false = true) →
      ∀ i, (es.foldl (fun s e => if Region.binds .any e then s ||| 2 ^ e.on ||| acc.getD e.on 0 else s) s).testBit i = true → listed.getD i false = true := by
  intro es
  induction es with
  | nil => intro s hs _ i hi; exact hs i hi
  | cons e es ih =>
    intro s hs he i hi
    rw [List.foldl_cons] at hi
    refine ih _ (fun j hj => ?_) (fun e' he' => he e' (List.mem_cons_of_mem _ he')) i hi
    split at hj
    · rename_i hb
      have hon := he e (List.mem_cons_self ..) hb
      rw [Nat.testBit_or, Nat.testBit_or, Bool.or_eq_true, Bool.or_eq_true] at hj
      rcases hj with (hj | hj) | hj
      · exact hs j hj
      · rw [Nat.testBit_two_pow] at hj
        have : e.on = j := by simpa using hj
        rw [← this]; exact hon
      · rcases Nat.lt_or_ge e.on acc.size with h1 | h1
        · exact hacc e.on h1 listed hc (fun o ho => hc e.on o ho hon) j hj
        · rw [Array.getD_eq_getD_getElem?, Array.getElem?_eq_none h1] at hj
          simp at hj
    · exact hs j hj

theorem before_good (ops : Array Oper) : ∀ k, Good ops k ((Region.before ops).getD k 0) := by
  have key : ∀ (l : List Oper) (n : Nat) (acc : Array Nat), acc.size = n → (∀ j, l[j]? = ops[n + j]?) → (∀ k, k < acc.size → Good ops k (acc.getD k 0)) →
      ∀ k, k < (l.foldl (fun acc o => acc.push (o.after.foldl (fun s e => if Region.binds .any e then s ||| 2 ^ e.on ||| acc.getD e.on 0 else s) 0)) acc).size →
        Good ops k ((l.foldl (fun acc o => acc.push (o.after.foldl (fun s e => if Region.binds .any e then s ||| 2 ^ e.on ||| acc.getD e.on 0 else s) 0)) acc).getD k 0) := by
    intro l
    induction l with
    | nil => intro n acc _ _ h k hk; exact h k hk
    | cons o l ih =>
      intro n acc hn hl h
      rw [List.foldl_cons]
      refine ih (n + 1) _ (by simp [hn]) (fun j => by have := hl (j + 1); simpa [Nat.add_assoc, Nat.add_comm 1 j] using this) (fun k hk => ?_)
      have h0 : ops[n]? = some o := by simpa using (hl 0).symm
      rw [Array.size_push] at hk
      rcases Nat.lt_or_ge k acc.size with h1 | h1
      · have : (acc.push (o.after.foldl (fun s e => if Region.binds .any e then s ||| 2 ^ e.on ||| acc.getD e.on 0 else s) 0)).getD k 0 = acc.getD k 0 := by
          simp only [Array.getD_eq_getD_getElem?, Array.getElem?_push]
          rw [if_neg (by omega)]
        rw [this]; exact h k h1
      · have hk' : k = acc.size := by omega
        have : (acc.push (o.after.foldl (fun s e => if Region.binds .any e then s ||| 2 ^ e.on ||| acc.getD e.on 0 else s) 0)).getD k 0 = o.after.foldl (fun s e => if Region.binds .any e then s ||| 2 ^ e.on ||| acc.getD e.on 0 else s) 0 := by
          simp only [Array.getD_eq_getD_getElem?, Array.getElem?_push]
          rw [if_pos hk']; rfl
        rw [this]
        intro listed hc hw i hi
        rw [← Array.foldl_toList] at hi
        exact edges_good ops acc h listed hc o.after.toList 0 (fun j hj => by simp at hj) (fun e he => hw o (by rw [hk', hn]; exact h0) e (Array.mem_toList_iff.1 he)) i hi
  intro k
  rcases Nat.lt_or_ge k (Region.before ops).size with h1 | h1
  · have hb : Region.before ops = ops.toList.foldl (fun acc o => acc.push (o.after.foldl (fun s e => if Region.binds .any e then s ||| 2 ^ e.on ||| acc.getD e.on 0 else s) 0)) #[] := by
      unfold Region.before
      rw [Array.foldl_toList]
    rw [hb] at h1 ⊢
    exact key ops.toList 0 #[] rfl (fun j => by simp) (fun k hk => by simp at hk) k h1
  · intro listed _ _ i hi
    rw [Array.getD_eq_getD_getElem?, Array.getElem?_eq_none h1] at hi
    simp at hi

theorem ready_listed {listed : Array Bool} {j i : Nat} (hc : Closed ops listed) (hj : j ∈ Region.ready .any ops listed) (hi : ((Region.before ops).getD j 0).testBit i = true) : listed.getD i false = true := by
  obtain ⟨_, o, ho, hall⟩ := mem_ready.1 hj
  exact before_good ops j listed hc (fun o' ho' => by rw [ho] at ho'; cases ho'; exact hall) i hi

theorem Closed.set {listed : Array Bool} {j : Nat} (hc : Closed ops listed) (hj : j ∈ Region.ready .any ops listed) : Closed ops (listed.setIfInBounds j true) := by
  obtain ⟨_, o, ho, hall⟩ := mem_ready.1 hj
  intro k ok hk hl e he hb
  by_cases e1 : k = j
  · subst e1
    rw [ho] at hk; cases hk
    exact getD_set_true (hall e he hb)
  · rw [getD_set_ne false (fun e => e1 e.symm)] at hl
    exact getD_set_true (hc k ok hk hl e he hb)

/-- whatever comes up; what was taken ahead and need not have come up yet is to find its condition behind each operation that is carried out. -/
def wpAnyG (P : Program) (ops : Array Oper) (Q : Exit → Act → World → Prop) (S : Nat → World → Prop) : Nat → Array Bool → Nat → Act → World → Prop
  | 0, listed, _, a, w => Region.ready .any ops listed = [] ∧ Q .normal a w
  | n + 1, listed, D, a, w =>
    (Region.ready .any ops listed = [] → Q .normal a w) ∧
    ∀ i ∈ Region.ready .any ops listed, wpOp P ops Q i (fun a' w' => (∀ j, (D ||| (Region.before ops).getD i 0).testBit j = false → S j w') ∧
      wpAnyG P ops Q S n (listed.setIfInBounds i true) (D ||| (Region.before ops).getD i 0 ||| 2 ^ i) a' w') a w

theorem wpAny_of_G {S : Nat → World → Prop} : ∀ (n : Nat) (listed : Array Bool) (D : Nat) (a : Act) (w : World), wpAnyG P ops Q S n listed D a w → wpAny P .any ops Q n listed a w
  | 0, _, _, _, _, h => h
  | n + 1, _, _, _, _, h => ⟨h.1, fun i hi => wpOp_mono (fun a' w' h' => wpAny_of_G n _ _ a' w' h'.2) (h.2 i hi)⟩

theorem wpAnyG_mono {S S' : Nat → World → Prop} : ∀ (n : Nat) (listed : Array Bool) (D D' : Nat) (a : Act) (w : World), (∀ j w, D'.testBit j = false → S j w → S' j w) → (∀ j, D.testBit j = true → D'.testBit j = true) →
    wpAnyG P ops Q S n listed D a w → wpAnyG P ops Q S' n listed D' a w
  | 0, _, _, _, _, _, _, _, h => h
  | n + 1, listed, D, D', a, w, hS, hD, h => by
    have hsub : ∀ i j, (D' ||| (Region.before ops).getD i 0).testBit j = false → (D ||| (Region.before ops).getD i 0).testBit j = false ∧ D'.testBit j = false := by
      intro i j hj
      rw [Nat.testBit_or, Bool.or_eq_false_iff] at hj ⊢
      refine ⟨⟨?_, hj.2⟩, hj.1⟩
      cases hd : D.testBit j with
      | false => rfl
      | true => rw [hD j hd] at hj; exact absurd hj.1 (by simp)
    refine ⟨h.1, fun i hi => wpOp_mono (fun a' w' h' => ⟨fun j hj => hS j w' (hsub i j hj).2 (h'.1 j (hsub i j hj).1), ?_⟩) (h.2 i hi)⟩
    refine wpAnyG_mono n _ _ _ a' w' (fun j w hj hs => hS j w ?_ hs) (fun j hj => ?_) h'.2
    · rw [Nat.testBit_or, Nat.testBit_or, Bool.or_eq_false_iff, Bool.or_eq_false_iff] at hj
      exact hj.1.1
    · rw [Nat.testBit_or, Nat.testBit_or, Bool.or_eq_true, Bool.or_eq_true] at hj ⊢
      rcases hj with (hj | hj) | hj
      · exact .inl (.inl (hD j hj))
      · exact .inl (.inr hj)
      · exact .inr hj

/-- an operation may be taken first: the base's law ('wpAnyH_first') with a condition of its own for each operation that is taken ahead. -/
theorem wpAnyG_first {S : Nat → World → Prop} {i : Nat} {oi : Oper} {v : Value} (hi : ops[i]? = some oi) (hsel : ∀ (j : Nat) (o : Oper) cs b, ops[j]? = some o → o.op ≠ .select cs b)
    (hQ : ∀ c a w, Q (.panic c) (a.put oi.dst v) w → Q (.panic c) a w) :
    ∀ (n : Nat) (listed : Array Bool) (D : Nat) (a : Act) (w : World), Closed ops listed → (∀ k, D.testBit k = true → listed.getD k false = true) →
      (∀ j oj, ops[j]? = some oj → j ≠ i → listed.getD j true = false → (∀ e ∈ oj.after, Region.binds .any e = true → e.on ≠ i) → oi.apart ops oj = true) →
      i ∈ Region.ready .any ops listed → YieldsIf P ops (S i) oi v a → (∀ j, D.testBit j = false → S j w) →
      wpAnyG P ops Q S n (listed.setIfInBounds i true) D (a.put oi.dst v) w → wpAnyG P ops Q S (n + 1) listed D a w := by
  intro n
  induction n with
  | zero =>
    intro listed D a w hcl hDl _ hr hy hS H
    have hun : D.testBit i = false := by
      cases hd : D.testBit i with
      | false => rfl
      | true =>
        have h0 := (mem_ready.1 hr).1
        have h1 := hDl i hd
        rcases Nat.lt_or_ge i listed.size with h' | h'
        · simp [h'] at h0 h1; rw [h0] at h1; cases h1
        · simp [Array.getElem?_eq_none h'] at h1
    refine ⟨fun h => (by rw [h] at hr; cases hr), fun j hj => ?_⟩
    by_cases hji : j = i
    · subst hji
      refine hy.wpOp hi (hS _ hun) ⟨fun k hk => hS k ?_, H⟩
      rw [Nat.testBit_or, Bool.or_eq_false_iff] at hk; exact hk.1
    · have := ready_mono hj hji
      rw [H.1] at this
      cases this
  | succ n ih =>
    intro listed D a w hcl hDl hfree hr hy hS H
    have hun0 : listed.getD i false = false := by
      have h0 := (mem_ready.1 hr).1
      rcases Nat.lt_or_ge i listed.size with h' | h'
      · simp [h'] at h0 ⊢; exact h0
      · simp [Array.getElem?_eq_none h']
    have hun : D.testBit i = false := by
      cases hd : D.testBit i with
      | false => rfl
      | true => rw [hDl i hd] at hun0; cases hun0
    refine ⟨fun h => (by rw [h] at hr; cases hr), fun j hj => ?_⟩
    by_cases hji : j = i
    · subst hji
      refine hy.wpOp hi (hS _ hun) ⟨fun k hk => hS k ?_, ?_⟩
      · rw [Nat.testBit_or, Bool.or_eq_false_iff] at hk; exact hk.1
      · refine wpAnyG_mono _ _ _ _ _ _ (fun _ _ _ h => h) (fun k hk => ?_) H
        rw [Nat.testBit_or, Nat.testBit_or, Bool.or_eq_true, Bool.or_eq_true]
        exact .inl (.inl hk)
    · have h1 := H.2 j (ready_mono hj hji)
      obtain ⟨hjun, oj, hoj, hall⟩ := mem_ready.1 hj
      have hnot : ∀ e ∈ oj.after, Region.binds .any e = true → e.on ≠ i := fun e he hb heq => by
        have h1 := hall e he hb
        rw [heq, hun0] at h1
        cases h1
      have hbi : ((Region.before ops).getD j 0).testBit i = false := by
        cases hb : ((Region.before ops).getD j 0).testBit i with
        | false => rfl
        | true => rw [ready_listed hcl hj hb] at hun0; cases hun0
      have h2 := wpOp_putIf hoj (hfree j oj hoj hji hjun hnot) (fun cs b => hsel i oi cs b hi) (fun cs b => hsel j oj cs b hoj) hQ hy h1
      refine wpOp_mono (fun a' w' h3 => ⟨h3.2.1, ih (listed.setIfInBounds j true) _ a' w' (hcl.set hj) (fun k hk => ?_) (fun k ok hk hki hunk hno => ?_) (ready_mono hr (Ne.symm hji)) h3.1 (fun k hk => h3.2.1 k ?_) ?_⟩) h2
      · rw [Nat.testBit_or, Nat.testBit_or, Bool.or_eq_true, Bool.or_eq_true] at hk
        rcases hk with (hk | hk) | hk
        · exact getD_set_true (hDl k hk)
        · exact getD_set_true (ready_listed hcl hj hk)
        · rw [Nat.testBit_two_pow] at hk
          have : j = k := by simpa using hk
          subst this
          rcases Nat.lt_or_ge j listed.size with h' | h'
          · simp [h']
          · simp [Array.getElem?_eq_none h'] at hjun
      · refine hfree k ok hk hki ?_ hno
        by_cases hjk : j = k
        · subst hjk; exact hjun
        · rw [getD_set_ne true hjk] at hunk; exact hunk
      · rw [Array.setIfInBounds_comm _ _ hji]
        exact h3.2.2
      · rw [Nat.testBit_or, Bool.or_eq_false_iff] at hk
        exact hk.1
end
end Go.Abs
