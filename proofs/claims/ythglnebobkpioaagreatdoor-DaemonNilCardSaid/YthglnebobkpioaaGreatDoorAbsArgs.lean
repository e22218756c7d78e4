/- A part of the abstract runs: the program is run over an abstract heap; what holds there holds in every world that looks so. Conditions: none. -/
import Derived.Test.YthglnebobkpioaaGreatDoorAbsStep
import Derived.ChangeShapes
import Derived.WideShapes
namespace Go.Abs
open Go Go.RowKit

/-! ### What comes in -/
/-- the type of a variable's cell; a slice, too, is one cell. -/
def tyAt (P : Program) : Nat → TypeId → Nat → Option TypeId
  | 0, _, _ => none
  | d + 1, t, i => match P.underlying t with
    | some (.struct fs) => match fs.toList.find? (fun f => decide (f.offset ≤ i ∧ i < f.offset + P.cellsOf f.type)) with
      | some f => tyAt P d f.type (i - f.offset)
      | none => none
    | some (.array _ e) => tyAt P d e (i % P.cellsOf e)
    | some _ => if i = 0 then some t else none
    | none => none

/-- is a variable of this type plain? -/
def plainTy (P : Program) : Nat → TypeId → Bool
  | 0, _ => false
  | d + 1, t => match P.underlying t with
    | some .bool | some (.int _) | some .string => P.cellsOf t == 1
    | some (.struct fs) => fs.toList.all (fun f => plainTy P d f.type) && (List.range (P.cellsOf t)).all fun i => fs.toList.any fun f => decide (f.offset ≤ i ∧ i < f.offset + P.cellsOf f.type)
    | some (.array n e) => plainTy P d e && decide (P.cellsOf t = n * P.cellsOf e)
    | _ => false

/-- .. or has slices of plain ones? -/
def argTy (P : Program) : Nat → TypeId → Bool
  | 0, _ => false
  | d + 1, t => match P.underlying t with
    | some .bool | some (.int _) | some .string => P.cellsOf t == 1
    | some (.slice e) => P.cellsOf t == 1 && plainTy P d e && decide (0 < P.cellsOf e)
    | some (.struct fs) => fs.toList.all (fun f => argTy P d f.type) && (List.range (P.cellsOf t)).all fun i => fs.toList.any fun f => decide (f.offset ≤ i ∧ i < f.offset + P.cellsOf f.type)
    | some (.array n e) => argTy P d e && decide (P.cellsOf t = n * P.cellsOf e)
    | _ => false

/-- a plain cell of a type. -/
def Plain (P : Program) (u : TypeId) (v : Value) : Prop :=
  match P.underlying u, v with
  | some .bool, .bool _ => True
  | some (.int k), .int k' n => k' = k ∧ (Lit.int k n).wf = true
  | some .string, .string s => s.size ≤ maxLen
  | _, _ => False

theorem Plain.cl {P : Program} {u : TypeId} {v : Value} (h : Plain P u v) : Abs.cl v = true := by
  unfold Plain at h
  split at h <;> first | rfl | cases h

/-- the cells of a slice that came in. -/
def Row (P : Program) (d : Nat) (e : TypeId) (n cap : Nat) (c : List Value) : Prop :=
  n ≤ cap ∧ cap ≤ maxLen ∧ 0 < P.cellsOf e ∧ c.length = cap * P.cellsOf e ∧ ∀ (i : Nat) (x : Value), c[i]? = some x → ∃ u, tyAt P d e (i % P.cellsOf e) = some u ∧ Plain P u x

/-- a cell that came in: plain, or a slice of plain cells. -/
def InCell (P : Program) (d : Nat) (w : World) (u : TypeId) (v : Value) : Prop :=
  Plain P u v ∨ ∃ e, P.underlying u = some (.slice e) ∧ (v = .slice none 0 0 ∨ ∃ (a : Addr) (n cap d' : Nat) (c : List Value), d' < d ∧ v = .slice (some a) n cap ∧ Row P d' e n cap c ∧ ∀ (i : Nat) (x : Value), c[i]? = some x → w.cell? (a.add i) = some x)

theorem InCell.mono {P : Program} {d d2 : Nat} {w : World} {u : TypeId} {v : Value} (hd : d ≤ d2) (h : InCell P d w u v) : InCell P d2 w u v := by
  rcases h with h | ⟨e, h1, h2 | ⟨a, n, cap, d', c, h3, h4⟩⟩
  · exact .inl h
  · exact .inr ⟨e, h1, .inl h2⟩
  · exact .inr ⟨e, h1, .inr ⟨a, n, cap, d', c, by omega, h4⟩⟩

theorem mapM_mem {α β : Type} {f : α → Option β} : ∀ {l : List α} {r : List β}, l.mapM f = some r → ∀ x ∈ l, ∃ y ∈ r, f x = some y := by
  intro l
  induction l with
  | nil => intro r _ x hx; cases hx
  | cons a l ih =>
    intro r h x hx
    rw [List.mapM_cons] at h
    cases ha : f a with
    | none => rw [ha] at h; cases h
    | some b =>
      rw [ha] at h
      cases hl : l.mapM f with
      | none => rw [hl] at h; cases h
      | some bs =>
        rw [hl] at h
        cases h
        cases hx with
        | head => exact ⟨b, by simp, ha⟩
        | tail _ hx => obtain ⟨y, hy, e⟩ := ih hl x hx; exact ⟨y, by simp [hy], e⟩

theorem mapM_range {β : Type} {f : Nat → Option β} {n : Nat} {r : List β} (h : (List.range n).mapM f = some r) : r.length = n ∧ ∀ i, i < n → ∃ y, r[i]? = some y ∧ f i = some y := by
  have gen : ∀ (l : List Nat) (r : List β), l.mapM f = some r → r.length = l.length ∧ ∀ (i x : Nat), l[i]? = some x → ∃ y, r[i]? = some y ∧ f x = some y := by
    intro l
    induction l with
    | nil => intro r h; cases h; exact ⟨rfl, fun i x hx => by simp at hx⟩
    | cons a l ih =>
      intro r h
      rw [List.mapM_cons] at h
      cases ha : f a with
      | none => rw [ha] at h; cases h
      | some b =>
        rw [ha] at h
        cases hl : l.mapM f with
        | none => rw [hl] at h; cases h
        | some bs =>
          rw [hl] at h
          cases h
          obtain ⟨h1, h2⟩ := ih bs hl
          refine ⟨by simp [h1], fun i x hx => ?_⟩
          cases i with
          | zero => simp at hx; subst hx; exact ⟨b, by simp, ha⟩
          | succ i => simp at hx; obtain ⟨y, hy, e⟩ := h2 i x hx; exact ⟨y, by simpa using hy, e⟩
  obtain ⟨h1, h2⟩ := gen _ r h
  refine ⟨by simpa using h1, fun i hi => ?_⟩
  exact h2 i i (by simp [hi])

section
variable {H : Type} {enc : TypeId × Value → H} {P : Program} {w : World} {base : Nat}

theorem cells?_get' {w : World} {base : Nat} {a : Addr} {n : Nat} {cs : List Value} (h : w.cells? base a n = some cs) : cs.length = n ∧ ∀ i, i < n → ∃ x, cs[i]? = some x ∧ w.cell? (a.add i) = some x := by
  unfold World.cells? at h
  split at h
  · exact mapM_range h
  · cases h

theorem addr_add2 (a : Addr) (m n : Nat) : (a.add m).add n = a.add (m + n) := by
  unfold Addr.add
  by_cases h1 : n = 0
  · subst h1; simp
  · by_cases h2 : m = 0
    · subst h2; simp
    · simp [h1, h2]
      omega

theorem find_field {fs : List Field} {i : Nat} {P : Program} (h : ∃ f ∈ fs, f.offset ≤ i ∧ i < f.offset + P.cellsOf f.type) :
    ∃ f ∈ fs, fs.find? (fun f => decide (f.offset ≤ i ∧ i < f.offset + P.cellsOf f.type)) = some f ∧ f.offset ≤ i ∧ i < f.offset + P.cellsOf f.type := by
  cases hf : fs.find? (fun f => decide (f.offset ≤ i ∧ i < f.offset + P.cellsOf f.type)) with
  | none =>
    obtain ⟨f, h1, h2⟩ := h
    have := List.find?_eq_none.1 hf f h1
    simp only [decide_eq_true_eq] at this
    exact absurd h2 this
  | some f =>
    have h1 := List.find?_some hf
    simp only [decide_eq_true_eq] at h1
    exact ⟨f, List.mem_of_find?_eq_some hf, rfl, h1⟩

/-- what reads as a plain type's is plain. -/
theorem plain_cells : ∀ (fuel d : Nat) (t : TypeId) (cs : List Value) (x : DataW H × List MemPlace), plainTy P d t = true → DataW.trod enc P w base (fun _ => true) true fuel t cs = some x →
    cs.length = P.cellsOf t ∧ ∀ (i : Nat) (v : Value), cs[i]? = some v → ∃ u, tyAt P d t i = some u ∧ Plain P u v := by
  intro fuel
  induction fuel with
  | zero => intro d t cs x _ h; simp [DataW.trod] at h
  | succ fuel ih =>
    intro d t cs x hp h
    cases d with
    | zero => simp [plainTy] at hp
    | succ d =>
      unfold plainTy at hp
      unfold DataW.trod at h
      have one : ∀ v, cs = [v] → Plain P t v → P.cellsOf t = 1 → (∀ ty, P.underlying t = some ty → (∀ fs, ty ≠ .struct fs) ∧ ∀ n e, ty ≠ .array n e) →
          cs.length = P.cellsOf t ∧ ∀ (i : Nat) (v : Value), cs[i]? = some v → ∃ u, tyAt P (d + 1) t i = some u ∧ Plain P u v := by
        intro v hcs hpl hsz hty
        subst hcs
        refine ⟨hsz.symm, fun i x hx => ?_⟩
        have hi : i = 0 := by
          rcases Nat.eq_zero_or_pos i with h0 | h0
          · exact h0
          · rw [List.getElem?_eq_none (by simp; omega)] at hx; cases hx
        subst hi
        cases hx
        refine ⟨t, ?_, hpl⟩
        unfold tyAt
        cases hu : P.underlying t with
        | none => simp [Plain, hu] at hpl
        | some ty => cases ty <;> first | rfl | exact absurd rfl ((hty _ hu).1 _) | exact absurd rfl ((hty _ hu).2 _ _)
      cases hu : P.underlying t with
      | none => rw [hu] at hp; cases hp
      | some ty =>
        rw [hu] at hp h one
        cases ty with
        | bool =>
          simp only [beq_iff_eq] at hp
          rcases cs with _ | ⟨v, _ | ⟨v', cs⟩⟩
          · cases h
          · cases v with
            | bool b => exact one _ rfl (by simp [Plain, hu]) hp (by intro ty h; cases h; exact ⟨fun _ h => (nomatch h), fun _ _ h => (nomatch h)⟩)
            | _ => cases h
          · cases v <;> cases h
        | int k =>
          simp only [beq_iff_eq] at hp
          rcases cs with _ | ⟨v, _ | ⟨v', cs⟩⟩
          · cases h
          · cases v with
            | int k' n =>
              simp only at h
              split at h
              · rename_i hw
                exact one _ rfl (by simp only [Plain, hu]; exact hw) hp (by intro ty h; cases h; exact ⟨fun _ h => (nomatch h), fun _ _ h => (nomatch h)⟩)
              · cases h
            | _ => cases h
          · cases v <;> cases h
        | string =>
          simp only [beq_iff_eq] at hp
          rcases cs with _ | ⟨v, _ | ⟨v', cs⟩⟩
          · cases h
          · cases v with
            | string s =>
              simp only at h
              split at h
              · rename_i hw
                exact one _ rfl (by simp only [Plain, hu]; exact hw) hp (by intro ty h; cases h; exact ⟨fun _ h => (nomatch h), fun _ _ h => (nomatch h)⟩)
              · cases h
            | _ => cases h
          · cases v <;> cases h
        | struct fs =>
          simp only [Bool.and_eq_true, List.all_eq_true, List.any_eq_true, decide_eq_true_eq, List.mem_range] at hp
          obtain ⟨hp1, hp2⟩ := hp
          simp only at h
          split at h
          · rename_i hl
            refine ⟨hl, fun i v hv => ?_⟩
            cases hm : fs.toList.mapM fun f => DataW.trod enc P w base (fun _ => true) true fuel f.type ((cs.drop f.offset).take (P.cellsOf f.type)) with
            | none => rw [hm] at h; cases h
            | some ys =>
              have hi : i < cs.length := (List.getElem?_eq_some_iff.1 hv).1
              obtain ⟨f, hf, h0, h1, h2⟩ := find_field (hp2 i (by omega))
              obtain ⟨y, _, hy⟩ := mapM_mem hm f hf
              have := (ih d f.type _ y (hp1 f hf) hy).2 (i - f.offset) v (by
                rw [List.getElem?_take, if_pos (by omega), List.getElem?_drop, ← hv]
                congr 1; omega)
              unfold tyAt
              rw [hu]
              simp only [h0]
              exact this
          · cases h
        | array n e =>
          simp only [Bool.and_eq_true, decide_eq_true_eq] at hp
          simp only at h
          split at h
          · rename_i hl
            refine ⟨hl, fun i v hv => ?_⟩
            cases hm : (List.range n).mapM fun i => DataW.trod enc P w base (fun _ => true) true fuel e ((cs.drop (i * P.cellsOf e)).take (P.cellsOf e)) with
            | none => rw [hm] at h; cases h
            | some ys =>
              have hi : i < cs.length := (List.getElem?_eq_some_iff.1 hv).1
              have hs : 0 < P.cellsOf e := by
                rcases Nat.eq_zero_or_pos (P.cellsOf e) with h0 | h0
                · rw [hl, hp.2, h0] at hi; omega
                · exact h0
              have hin : i / P.cellsOf e < n := by
                apply Nat.div_lt_of_lt_mul; rw [Nat.mul_comm]; omega
              obtain ⟨_, hr⟩ := mapM_range hm
              obtain ⟨y, _, hy⟩ := hr (i / P.cellsOf e) hin
              have hdm := Nat.div_add_mod i (P.cellsOf e)
              have hml := Nat.mod_lt i hs
              have := (ih d e _ y hp.1 hy).2 (i % P.cellsOf e) v (by
                rw [List.getElem?_take, if_pos hml, List.getElem?_drop]
                rw [show i / P.cellsOf e * P.cellsOf e + i % P.cellsOf e = i by rw [Nat.mul_comm]; omega]
                exact hv)
              unfold tyAt
              rw [hu]
              exact this
          · cases h
        | _ => cases hp

/-- what came in, cell by cell. -/
theorem in_cells : ∀ (fuel d : Nat) (t : TypeId) (cs : List Value) (x : DataW H × List MemPlace), argTy P d t = true → DataW.trod enc P w base (fun _ => true) true fuel t cs = some x →
    cs.length = P.cellsOf t ∧ ∀ (i : Nat) (v : Value), cs[i]? = some v → ∃ u, tyAt P d t i = some u ∧ InCell P d w u v := by
  intro fuel
  induction fuel with
  | zero => intro d t cs x _ h; simp [DataW.trod] at h
  | succ fuel ih =>
    intro d t cs x hp h
    cases d with
    | zero => simp [argTy] at hp
    | succ d =>
      unfold argTy at hp
      have h0 := h
      unfold DataW.trod at h
      cases hu : P.underlying t with
      | none => rw [hu] at hp; cases hp
      | some ty =>
        rw [hu] at hp h
        have flat : plainTy P (d + 1) t = true → cs.length = P.cellsOf t ∧ ∀ (i : Nat) (v : Value), cs[i]? = some v → ∃ u, tyAt P (d + 1) t i = some u ∧ InCell P (d + 1) w u v := by
          intro hpt
          have := plain_cells (fuel + 1) (d + 1) t cs x hpt h0
          exact ⟨this.1, fun i v hv => by obtain ⟨u, h1, h2⟩ := this.2 i v hv; exact ⟨u, h1, .inl h2⟩⟩
        cases ty with
        | bool => exact flat (by unfold plainTy; rw [hu]; exact hp)
        | int k => exact flat (by unfold plainTy; rw [hu]; exact hp)
        | string => exact flat (by unfold plainTy; rw [hu]; exact hp)
        | slice e =>
          clear flat
          simp only [Bool.and_eq_true, beq_iff_eq, decide_eq_true_eq] at hp
          obtain ⟨⟨hp0, hp1⟩, hp2⟩ := hp
          have fin : ∀ x, (x = .slice none 0 0 ∨ ∃ (a : Addr) (n cap d' : Nat) (c : List Value), d' < d + 1 ∧ x = .slice (some a) n cap ∧ Row P d' e n cap c ∧ ∀ (i : Nat) (x : Value), c[i]? = some x → w.cell? (a.add i) = some x) →
              [x].length = P.cellsOf t ∧ ∀ (i : Nat) (v : Value), [x][i]? = some v → ∃ u, tyAt P (d + 1) t i = some u ∧ InCell P (d + 1) w u v := by
            intro x hx
            refine ⟨hp0.symm, fun i v hv => ?_⟩
            have hi : i = 0 := by
              rcases Nat.eq_zero_or_pos i with h0 | h0
              · exact h0
              · rw [List.getElem?_eq_none (by simp; omega)] at hv; cases hv
            subst hi
            cases hv
            exact ⟨t, by unfold tyAt; rw [hu]; rfl, .inr ⟨e, hu, hx⟩⟩
          rcases cs with _ | ⟨v, _ | ⟨v', cs⟩⟩
          · cases h
          · refine fin v ?_
            cases v with
            | slice a len cap => ?_
            | _ => cases h
            cases a with
            | none =>
              cases len with
              | zero => cases cap with
                | zero => exact .inl rfl
                | succ => cases h
              | succ => cases h
            | some a => ?_
            refine .inr ?_
            simp only at h
            split at h
            · rename_i hc
              obtain ⟨hb, hlc, hcm⟩ := hc
              -- each element, up to the capacity
              have key : ∀ i, i < cap → ∃ cs, w.cells? base (a.add (i * P.cellsOf e)) (P.cellsOf e) = some cs ∧ ∀ (i : Nat) (v : Value), cs[i]? = some v → ∃ u, tyAt P d e i = some u ∧ Plain P u v := by
                have one : ∀ i y, ((w.cells? base (a.add (i * P.cellsOf e)) (P.cellsOf e)).bind (DataW.trod enc P w base (fun _ => true) true fuel e)) = some y →
                    ∃ cs, w.cells? base (a.add (i * P.cellsOf e)) (P.cellsOf e) = some cs ∧ ∀ (i : Nat) (v : Value), cs[i]? = some v → ∃ u, tyAt P d e i = some u ∧ Plain P u v := by
                  intro i y hy
                  cases hcs : w.cells? base (a.add (i * P.cellsOf e)) (P.cellsOf e) with
                  | none => rw [hcs] at hy; cases hy
                  | some cs => rw [hcs] at hy; exact ⟨cs, rfl, (plain_cells fuel d e cs y hp1 hy).2⟩
                intro i hi
                cases h1 : (List.range len).mapM fun i => (w.cells? base (a.add (i * P.cellsOf e)) (P.cellsOf e)).bind (DataW.trod enc P w base (fun _ => true) true fuel e) with
                | none => rw [h1] at h; cases h
                | some elems =>
                  rw [h1] at h
                  simp only [Option.bind_some, if_true] at h
                  cases h2 : (List.range (cap - len)).mapM fun j => (w.cells? base (a.add ((len + j) * P.cellsOf e)) (P.cellsOf e)).bind (DataW.trod enc P w base (fun _ => true) true fuel e) with
                  | none => rw [h2] at h; cases h
                  | some rest =>
                    by_cases hil : i < len
                    · obtain ⟨y, _, hy⟩ := (mapM_range h1).2 i hil
                      exact one i y hy
                    · obtain ⟨y, _, hy⟩ := (mapM_range h2).2 (i - len) (by omega)
                      rw [show len + (i - len) = i by omega] at hy
                      exact one i y hy
              -- all cells in one list
              have all : ∀ m, m ≤ cap → ∃ c : List Value, c.length = m * P.cellsOf e ∧ (∀ (i : Nat) (x : Value), c[i]? = some x → ∃ u, tyAt P d e (i % P.cellsOf e) = some u ∧ Plain P u x) ∧ ∀ (i : Nat) (x : Value), c[i]? = some x → w.cell? (a.add i) = some x := by
                intro m
                induction m with
                | zero => exact fun _ => ⟨[], by simp, by simp, by simp⟩
                | succ m ihm =>
                  intro hm
                  obtain ⟨c, c1, c2, c3⟩ := ihm (by omega)
                  obtain ⟨cs, k1, k2⟩ := key m (by omega)
                  obtain ⟨k3, k4⟩ := cells?_get' k1
                  refine ⟨c ++ cs, by rw [List.length_append, c1, k3, Nat.succ_mul], fun i x hx => ?_, fun i x hx => ?_⟩
                  · rcases Nat.lt_or_ge i c.length with hi | hi
                    · rw [List.getElem?_append_left hi] at hx; exact c2 i x hx
                    · rw [List.getElem?_append_right hi] at hx
                      have hlt : i - c.length < cs.length := (List.getElem?_eq_some_iff.1 hx).1
                      have := k2 _ _ hx
                      rwa [show i % P.cellsOf e = i - c.length by
                        rw [show i = (i - c.length) + P.cellsOf e * m by rw [Nat.mul_comm, ← c1]; omega, Nat.add_mul_mod_self_left, Nat.mod_eq_of_lt (by omega)]
                        rw [c1, Nat.mul_comm m]; omega]
                  · rcases Nat.lt_or_ge i c.length with hi | hi
                    · rw [List.getElem?_append_left hi] at hx; exact c3 i x hx
                    · rw [List.getElem?_append_right hi] at hx
                      have hlt : i - c.length < cs.length := (List.getElem?_eq_some_iff.1 hx).1
                      obtain ⟨y, hy, hc⟩ := k4 (i - c.length) (by omega)
                      rw [hx] at hy; cases hy
                      rw [addr_add2] at hc
                      rw [← hc]; congr 2; omega
              obtain ⟨c, c1, c2, c3⟩ := all cap (Nat.le_refl _)
              exact ⟨a, len, cap, d, c, Nat.lt_succ_self _, rfl, ⟨hlc, hcm, hp2, c1, c2⟩, c3⟩
            · cases h
          · revert h; simp only [reduceCtorEq]; exact fun h => by cases v <;> cases h
        | struct fs =>
          simp only [Bool.and_eq_true, List.all_eq_true, List.any_eq_true, decide_eq_true_eq, List.mem_range] at hp
          obtain ⟨hp1, hp2⟩ := hp
          simp only at h
          split at h
          · rename_i hl
            refine ⟨hl, fun i v hv => ?_⟩
            cases hm : fs.toList.mapM fun f => DataW.trod enc P w base (fun _ => true) true fuel f.type ((cs.drop f.offset).take (P.cellsOf f.type)) with
            | none => rw [hm] at h; cases h
            | some ys =>
              have hi : i < cs.length := (List.getElem?_eq_some_iff.1 hv).1
              obtain ⟨f, hf, h0, h1, h2⟩ := find_field (hp2 i (by omega))
              obtain ⟨y, _, hy⟩ := mapM_mem hm f hf
              obtain ⟨u, hu1, hu2⟩ := (ih d f.type _ y (hp1 f hf) hy).2 (i - f.offset) v (by
                rw [List.getElem?_take, if_pos (by omega), List.getElem?_drop, ← hv]
                congr 1; omega)
              unfold tyAt
              rw [hu]
              simp only [h0]
              exact ⟨u, hu1, hu2.mono (Nat.le_succ _)⟩
          · cases h
        | array n e =>
          simp only [Bool.and_eq_true, decide_eq_true_eq] at hp
          simp only at h
          split at h
          · rename_i hl
            refine ⟨hl, fun i v hv => ?_⟩
            cases hm : (List.range n).mapM fun i => DataW.trod enc P w base (fun _ => true) true fuel e ((cs.drop (i * P.cellsOf e)).take (P.cellsOf e)) with
            | none => rw [hm] at h; cases h
            | some ys =>
              have hi : i < cs.length := (List.getElem?_eq_some_iff.1 hv).1
              have hs : 0 < P.cellsOf e := by
                rcases Nat.eq_zero_or_pos (P.cellsOf e) with h0 | h0
                · rw [hl, hp.2, h0] at hi; omega
                · exact h0
              have hin : i / P.cellsOf e < n := by
                apply Nat.div_lt_of_lt_mul; rw [Nat.mul_comm]; omega
              obtain ⟨_, hr⟩ := mapM_range hm
              obtain ⟨y, _, hy⟩ := hr (i / P.cellsOf e) hin
              have hdm := Nat.div_add_mod i (P.cellsOf e)
              have hml := Nat.mod_lt i hs
              obtain ⟨u, hu1, hu2⟩ := (ih d e _ y hp.1 hy).2 (i % P.cellsOf e) v (by
                rw [List.getElem?_take, if_pos hml, List.getElem?_drop]
                rw [show i / P.cellsOf e * P.cellsOf e + i % P.cellsOf e = i by rw [Nat.mul_comm]; omega]
                exact hv)
              unfold tyAt
              rw [hu]
              exact ⟨u, hu1, hu2.mono (Nat.le_succ _)⟩
          · cases h
        | _ => cases hp
end
end Go.Abs
