/- A part of the abstract runs: the program is run over an abstract heap; what holds there holds in every world that looks so. Conditions: none. -/
import Derived.Test.YthglnebobkpioaaGreatDoorAbsDef
namespace Go.Abs
open Go

/-! ### The table's laws -/
theorem Tr.get_leaf {α : Type} (m : Nat) : (Tr.leaf : Tr α).get m = none := by unfold Tr.get; rfl
theorem Tr.get_put {α : Type} : ∀ (f : Nat) (t : Tr α) (n m : Nat) (x : Option α), n < f → (Tr.put f t n x).get m = if m = n then x else t.get m := by
  intro f
  induction f with
  | zero => intro t n m x h; omega
  | succ f ih =>
    intro t n m x h
    cases t with
    | leaf =>
      cases n with
      | zero =>
        cases m with
        | zero => simp [Tr.put, Tr.get]
        | succ j => simp only [Tr.put, Tr.get]; split <;> simp
      | succ k =>
        simp only [Tr.put]
        rcases Nat.mod_two_eq_zero_or_one k with hk | hk
        · simp only [hk]
          cases m with
          | zero => simp [Tr.get]
          | succ j =>
            simp only [Tr.get]
            rcases Nat.mod_two_eq_zero_or_one j with hj | hj
            · simp only [hj]
              rw [ih _ _ _ _ (by omega)]
              by_cases e : j / 2 = k / 2
              · have : j = k := by omega
                simp [this]
              · have : ¬ j = k := by intro h'; exact e (by rw [h'])
                simp [e, this, Tr.get_leaf]
            · simp only [hj]
              have : ¬ j = k := by intro h'; rw [h'] at hj; omega
              simp [this]
        · simp only [hk]
          cases m with
          | zero => simp [Tr.get]
          | succ j =>
            simp only [Tr.get]
            rcases Nat.mod_two_eq_zero_or_one j with hj | hj
            · simp only [hj]
              have : ¬ j = k := by intro h'; rw [h'] at hj; omega
              simp [this]
            · simp only [hj]
              rw [ih _ _ _ _ (by omega)]
              by_cases e : j / 2 = k / 2
              · have : j = k := by omega
                simp [this]
              · have : ¬ j = k := by intro h'; exact e (by rw [h'])
                simp [e, this, Tr.get_leaf]
    | node l v r =>
      cases n with
      | zero => cases m <;> simp [Tr.put, Tr.get]
      | succ k =>
        simp only [Tr.put]
        rcases Nat.mod_two_eq_zero_or_one k with hk | hk
        · simp only [hk]
          cases m with
          | zero => simp [Tr.get]
          | succ j =>
            simp only [Tr.get]
            rcases Nat.mod_two_eq_zero_or_one j with hj | hj
            · simp only [hj]
              rw [ih _ _ _ _ (by omega)]
              by_cases e : j / 2 = k / 2
              · have : j = k := by omega
                simp [this]
              · have : ¬ j = k := by intro h'; exact e (by rw [h'])
                simp [e, this]
            · simp only [hj]
              have : ¬ j = k := by intro h'; rw [h'] at hj; omega
              simp [this]
        · simp only [hk]
          cases m with
          | zero => simp [Tr.get]
          | succ j =>
            simp only [Tr.get]
            rcases Nat.mod_two_eq_zero_or_one j with hj | hj
            · simp only [hj]
              have : ¬ j = k := by intro h'; rw [h'] at hj; omega
              simp [this]
            · simp only [hj]
              rw [ih _ _ _ _ (by omega)]
              by_cases e : j / 2 = k / 2
              · have : j = k := by omega
                simp [this]
              · have : ¬ j = k := by intro h'; exact e (by rw [h'])
                simp [e, this]

theorem Tr.get_set {α : Type} (t : Tr α) (n m : Nat) (x : Option α) : (t.set n x).get m = if m = n then x else t.get m :=
  Tr.get_put _ _ _ _ _ (Nat.lt_succ_self n)

/-! ### Values of the two memories -/
structure Loc where
  blk : Nat
  base : Nat
  ext : Nat

abbrev Ren := Nat → Option Loc

def capR (l : Loc) (c : Nat) : Nat := if c < OPEN then c else c - OPEN + l.ext

def Loc.at (l : Loc) (i : Nat) : Addr := ⟨l.blk, l.base + i, none⟩

inductive VR (r : Ren) : Value → Value → Prop where
  | bool (b : Bool) : VR r (.bool b) (.bool b)
  | int (k : IntKind) (n : Int) : VR r (.int k n) (.int k n)
  | str (s : ByteArray) : VR r (.string s) (.string s)
  | ptrNil : VR r (.pointer none) (.pointer none)
  | ptr {b o : Nat} {l : Loc} (h : r b = some l) : VR r (.pointer (some ⟨b, o, none⟩)) (.pointer (some (l.at o)))
  | sliceNil (n c : Nat) : VR r (.slice none n c) (.slice none n c)
  | slice {b o n c : Nat} {l : Loc} (h : r b = some l) : VR r (.slice (some ⟨b, o, none⟩) n c) (.slice (some (l.at o)) n (capR l c))
  | mapNil : VR r (.map none) (.map none)
  | map {b : Nat} {l : Loc} (h : r b = some l) : VR r (.map (some b)) (.map (some l.blk))
  | func (fn : Fn) {f c f' c' : Array Value} (hf : f.toList.length = f'.toList.length) (hc : c.toList.length = c'.toList.length)
      (h1 : ∀ (i : Nat) (v v' : Value), f.toList[i]? = some v → f'.toList[i]? = some v' → VR r v v')
      (h2 : ∀ (i : Nat) (v v' : Value), c.toList[i]? = some v → c'.toList[i]? = some v' → VR r v v') : VR r (.func fn f c) (.func fn f' c')
  | nilFunc : VR r .nilFunc .nilFunc
  | nilIface : VR r .nilIface .nilIface
  | iface (t : TypeId) {v v' : Value} (h : VR r v v') : VR r (.iface t v) (.iface t v')
  | agg {c c' : Array Value} (hc : c.toList.length = c'.toList.length)
      (h : ∀ (i : Nat) (v v' : Value), c.toList[i]? = some v → c'.toList[i]? = some v' → VR r v v') : VR r (.agg c) (.agg c')
  | tuple {c c' : Array Value} (hc : c.toList.length = c'.toList.length)
      (h : ∀ (i : Nat) (v v' : Value), c.toList[i]? = some v → c'.toList[i]? = some v' → VR r v v') : VR r (.tuple c) (.tuple c')

def VL (r : Ren) (l l' : List Value) : Prop :=
  l.length = l'.length ∧ ∀ (i : Nat) (v v' : Value), l[i]? = some v → l'[i]? = some v' → VR r v v'

theorem arr_ext {c c' : Array Value} (h : c.toList = c'.toList) : c = c' := Array.toList_inj.1 h

theorem VR.fn {r : Ren} {v a b : Value} (h : VR r v a) (h' : VR r v b) : a = b := by
  induction h generalizing b with
  | bool => cases h'; rfl
  | int => cases h'; rfl
  | str => cases h'; rfl
  | ptrNil => cases h'; rfl
  | ptr h => cases h' with | ptr h2 => rw [h] at h2; cases h2; rfl
  | sliceNil => cases h'; rfl
  | slice h => cases h' with | slice h2 => rw [h] at h2; cases h2; rfl
  | mapNil => cases h'; rfl
  | map h => cases h' with | map h2 => rw [h] at h2; cases h2; rfl
  | @func fn f c f' c' hf hc h1 h2 ih1 ih2 =>
    cases h' with
    | @func _ _ _ f'' c'' hf' hc' h1' h2' =>
      have e1 : f' = f'' := by
        apply arr_ext
        apply List.ext_getElem?
        intro i
        rcases Nat.lt_or_ge i f.toList.length with hi | hi
        · have a1 := List.getElem?_eq_getElem hi
          have a2 := List.getElem?_eq_getElem (hf ▸ hi : i < f'.toList.length)
          have a3 := List.getElem?_eq_getElem (hf' ▸ hi : i < f''.toList.length)
          rw [a2, a3]
          exact congrArg some (ih1 _ _ _ a1 a2 (h1' _ _ _ a1 a3))
        · rw [List.getElem?_eq_none (by omega), List.getElem?_eq_none (by omega)]
      have e2 : c' = c'' := by
        apply arr_ext
        apply List.ext_getElem?
        intro i
        rcases Nat.lt_or_ge i c.toList.length with hi | hi
        · have a1 := List.getElem?_eq_getElem hi
          have a2 := List.getElem?_eq_getElem (hc ▸ hi : i < c'.toList.length)
          have a3 := List.getElem?_eq_getElem (hc' ▸ hi : i < c''.toList.length)
          rw [a2, a3]
          exact congrArg some (ih2 _ _ _ a1 a2 (h2' _ _ _ a1 a3))
        · rw [List.getElem?_eq_none (by omega), List.getElem?_eq_none (by omega)]
      rw [e1, e2]
  | nilFunc => cases h'; rfl
  | nilIface => cases h'; rfl
  | iface t h ih => cases h' with | iface _ h2 => rw [ih h2]
  | @agg c c' hc h ih =>
    cases h' with
    | @agg _ c'' hc' h1' =>
      have e1 : c' = c'' := by
        apply arr_ext
        apply List.ext_getElem?
        intro i
        rcases Nat.lt_or_ge i c.toList.length with hi | hi
        · have a1 := List.getElem?_eq_getElem hi
          have a2 := List.getElem?_eq_getElem (hc ▸ hi : i < c'.toList.length)
          have a3 := List.getElem?_eq_getElem (hc' ▸ hi : i < c''.toList.length)
          rw [a2, a3]
          exact congrArg some (ih _ _ _ a1 a2 (h1' _ _ _ a1 a3))
        · rw [List.getElem?_eq_none (by omega), List.getElem?_eq_none (by omega)]
      rw [e1]
  | @tuple c c' hc h ih =>
    cases h' with
    | @tuple _ c'' hc' h1' =>
      have e1 : c' = c'' := by
        apply arr_ext
        apply List.ext_getElem?
        intro i
        rcases Nat.lt_or_ge i c.toList.length with hi | hi
        · have a1 := List.getElem?_eq_getElem hi
          have a2 := List.getElem?_eq_getElem (hc ▸ hi : i < c'.toList.length)
          have a3 := List.getElem?_eq_getElem (hc' ▸ hi : i < c''.toList.length)
          rw [a2, a3]
          exact congrArg some (ih _ _ _ a1 a2 (h1' _ _ _ a1 a3))
        · rw [List.getElem?_eq_none (by omega), List.getElem?_eq_none (by omega)]
      rw [e1]

def Ren.le (r r' : Ren) : Prop := ∀ b l, r b = some l → r' b = some l
theorem Ren.le.refl (r : Ren) : r.le r := fun _ _ h => h
theorem Ren.le.trans {a b c : Ren} (h : a.le b) (k : b.le c) : a.le c := fun x l hx => k x l (h x l hx)

theorem VR.mono {r r' : Ren} (hr : r.le r') {v v' : Value} (h : VR r v v') : VR r' v v' := by
  induction h with
  | bool => exact .bool _
  | int => exact .int _ _
  | str => exact .str _
  | ptrNil => exact .ptrNil
  | ptr h => exact .ptr (hr _ _ h)
  | sliceNil => exact .sliceNil _ _
  | slice h => exact .slice (hr _ _ h)
  | mapNil => exact .mapNil
  | map h => exact .map (hr _ _ h)
  | func fn hf hc h1 h2 ih1 ih2 => exact .func fn hf hc ih1 ih2
  | nilFunc => exact .nilFunc
  | nilIface => exact .nilIface
  | iface t h ih => exact .iface t ih
  | agg hc h ih => exact .agg hc ih
  | tuple hc h ih => exact .tuple hc ih

theorem VL.mono {r r' : Ren} (hr : r.le r') {l l' : List Value} (h : VL r l l') : VL r' l l' :=
  ⟨h.1, fun i v v' a b => (h.2 i v v' a b).mono hr⟩

theorem VR.clo {r : Ren} : ∀ (n : Nat) (v : Value), clo n v = true → VR r v v := by
  intro n
  induction n with
  | zero => intro v h; simp [Abs.clo] at h
  | succ n ih =>
    have hl : ∀ l : List Value, l.all (Abs.clo n) = true → ∀ (i : Nat) (v v' : Value), l[i]? = some v → l[i]? = some v' → VR r v v' := by
      intro l hl i v v' a b
      rw [a] at b; cases b
      exact ih v (List.all_eq_true.1 hl v (List.mem_of_getElem? a))
    intro v h
    unfold Abs.clo at h
    split at h
    · exact .bool _
    · exact .int _ _
    · exact .str _
    · exact .ptrNil
    · exact .sliceNil _ _
    · exact .mapNil
    · exact .nilFunc
    · exact .nilIface
    · rw [Bool.and_eq_true] at h
      exact .func _ rfl rfl (hl _ h.1) (hl _ h.2)
    · exact .iface _ (ih _ h)
    · exact .agg rfl (hl _ h)
    · exact .tuple rfl (hl _ h)
    · cases h

theorem VR.cl {r : Ren} {v : Value} (h : Abs.cl v = true) : VR r v v := VR.clo 8 v h
theorem VR.cl_eq {r : Ren} {v v' : Value} (h : Abs.cl v = true) (h' : VR r v v') : v' = v := h'.fn (VR.cl h)

theorem VL.refl_cl {r : Ren} {l : List Value} (h : l.all Abs.cl = true) : VL r l l :=
  ⟨rfl, fun i v v' a b => by rw [a] at b; cases b; exact VR.cl (List.all_eq_true.1 h v (List.mem_of_getElem? a))⟩

theorem VL.cl_eq {r : Ren} {l l' : List Value} (h : l.all Abs.cl = true) (h' : VL r l l') : l' = l := by
  apply List.ext_getElem?
  intro i
  rcases Nat.lt_or_ge i l.length with hi | hi
  · have a1 := List.getElem?_eq_getElem hi
    have a2 := List.getElem?_eq_getElem (h'.1 ▸ hi : i < l'.length)
    rw [a1, a2]
    exact congrArg some (VR.cl_eq (List.all_eq_true.1 h _ (List.mem_of_getElem? a1)) (h'.2 _ _ _ a1 a2))
  · rw [List.getElem?_eq_none (by have := h'.1; omega), List.getElem?_eq_none (by omega)]

theorem VL.nil {r : Ren} : VL r [] [] := ⟨rfl, fun i v v' a => by simp at a⟩
theorem VL.cons {r : Ren} {v v' : Value} {l l' : List Value} (h : VR r v v') (k : VL r l l') : VL r (v :: l) (v' :: l') := by
  refine ⟨by simp [k.1], fun i x x' a b => ?_⟩
  cases i with
  | zero => simp at a b; subst a; subst b; exact h
  | succ i => simp at a b; exact k.2 i x x' a b
theorem VL.cons_inv {r : Ren} {v : Value} {l m : List Value} (h : VL r (v :: l) m) : ∃ v' l', m = v' :: l' ∧ VR r v v' ∧ VL r l l' := by
  cases m with
  | nil => have := h.1; simp at this
  | cons v' l' => exact ⟨v', l', rfl, h.2 0 v v' rfl rfl, by have := h.1; simpa using this, fun i x x' a b => h.2 (i + 1) x x' (by simpa using a) (by simpa using b)⟩
theorem VL.nil_inv {r : Ren} {m : List Value} (h : VL r [] m) : m = [] := by
  cases m with
  | nil => rfl
  | cons => have := h.1; simp at this
theorem VL.append {r : Ren} {a a' b b' : List Value} (h : VL r a a') (k : VL r b b') : VL r (a ++ b) (a' ++ b') := by
  refine ⟨by simp [h.1, k.1], fun i x x' p q => ?_⟩
  rcases Nat.lt_or_ge i a.length with hi | hi
  · rw [List.getElem?_append_left hi] at p
    rw [List.getElem?_append_left (h.1 ▸ hi)] at q
    exact h.2 _ _ _ p q
  · rw [List.getElem?_append_right hi] at p
    rw [List.getElem?_append_right (h.1 ▸ hi), ← h.1] at q
    exact k.2 _ _ _ p q
theorem VL.take {r : Ren} {a a' : List Value} (n : Nat) (h : VL r a a') : VL r (a.take n) (a'.take n) := by
  refine ⟨by simp [h.1], fun i x x' p q => ?_⟩
  rw [List.getElem?_take] at p q
  split at p
  · rename_i hlt
    rw [if_pos hlt] at q
    exact h.2 _ _ _ p q
  · cases p
theorem VL.drop {r : Ren} {a a' : List Value} (n : Nat) (h : VL r a a') : VL r (a.drop n) (a'.drop n) := by
  refine ⟨by simp [h.1], fun i x x' p q => ?_⟩
  rw [List.getElem?_drop] at p q
  exact h.2 _ _ _ p q
theorem VL.get {r : Ren} {a a' : List Value} (h : VL r a a') {i : Nat} {v : Value} (hv : a[i]? = some v) : ∃ v', a'[i]? = some v' ∧ VR r v v' := by
  have hi : i < a.length := by
    rcases Nat.lt_or_ge i a.length with hi | hi
    · exact hi
    · rw [List.getElem?_eq_none hi] at hv; cases hv
  exact ⟨_, List.getElem?_eq_getElem (h.1 ▸ hi), h.2 _ _ _ hv (List.getElem?_eq_getElem (h.1 ▸ hi))⟩
theorem VL.set {r : Ren} {a a' : List Value} (h : VL r a a') (i : Nat) {v v' : Value} (hv : VR r v v') : VL r (a.set i v) (a'.set i v') := by
  refine ⟨by simp [h.1], fun j x x' p q => ?_⟩
  rw [List.getElem?_set] at p q
  split at p
  · rename_i e
    subst e
    split at p
    · rename_i hl
      rw [if_pos rfl, if_pos (h.1 ▸ hl)] at q
      cases p; cases q; exact hv
    · cases p
  · rename_i e
    rw [if_neg e] at q
    exact h.2 _ _ _ p q
theorem VL.fn {r : Ren} {l a b : List Value} (h : VL r l a) (h' : VL r l b) : a = b := by
  apply List.ext_getElem?
  intro i
  rcases Nat.lt_or_ge i l.length with hi | hi
  · have a1 := List.getElem?_eq_getElem hi
    have a2 := List.getElem?_eq_getElem (h.1 ▸ hi : i < a.length)
    have a3 := List.getElem?_eq_getElem (h'.1 ▸ hi : i < b.length)
    rw [a2, a3]
    exact congrArg some ((h.2 _ _ _ a1 a2).fn (h'.2 _ _ _ a1 a3))
  · rw [List.getElem?_eq_none (by have := h.1; omega), List.getElem?_eq_none (by have := h'.1; omega)]
theorem VR.agg_iff {r : Ren} {c c' : Array Value} : VR r (.agg c) (.agg c') ↔ VL r c.toList c'.toList :=
  ⟨fun h => by cases h with | agg a b => exact ⟨a, b⟩, fun h => .agg h.1 h.2⟩
theorem VR.tuple_iff {r : Ren} {c c' : Array Value} : VR r (.tuple c) (.tuple c') ↔ VL r c.toList c'.toList :=
  ⟨fun h => by cases h with | tuple a b => exact ⟨a, b⟩, fun h => .tuple h.1 h.2⟩
theorem VR.cells {r : Ren} {v v' : Value} (h : VR r v v') : VL r v.cells.toList v'.cells.toList := by
  cases h with
  | agg a b => exact ⟨a, b⟩
  | bool => exact VL.cons (.bool _) .nil
  | int => exact VL.cons (.int _ _) .nil
  | str => exact VL.cons (.str _) .nil
  | ptrNil => exact VL.cons .ptrNil .nil
  | ptr h => exact VL.cons (.ptr h) .nil
  | sliceNil => exact VL.cons (.sliceNil _ _) .nil
  | slice h => exact VL.cons (.slice h) .nil
  | mapNil => exact VL.cons .mapNil .nil
  | map h => exact VL.cons (.map h) .nil
  | func fn hf hc h1 h2 => exact VL.cons (.func fn hf hc h1 h2) .nil
  | nilFunc => exact VL.cons .nilFunc .nil
  | nilIface => exact VL.cons .nilIface .nil
  | iface t h => exact VL.cons (.iface t h) .nil
  | tuple hc h => exact VL.cons (.tuple hc h) .nil
theorem VR.flat {r : Ren} {v v' : Value} (h : VR r v v') (hf : flat? v = true) : flat? v' = true := by
  cases h <;> simp [flat?] at hf ⊢
end Go.Abs
