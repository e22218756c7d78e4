/- A part of the abstract runs: the program is run over an abstract heap; what holds there holds in every world that looks so. Conditions: none. -/
import Derived.Test.YthglnebobkpioaaGreatDoorAbsArgs
namespace Go.Abs
open Go Go.RowKit

/-! ### Names for what came in -/
structure Names (w : World) (ng : Nat) (r : Ren) (σ : AW) : Prop where
  obj : ∀ b o, σ.heap.get b = some o → ∃ l, r b = some l ∧ l.blk < w.heap.size ∧ ObjAt r w l o
  new : ∀ b, σ.next ≤ b → r b = none ∧ σ.heap.get b = none
  glob : ∀ g, g < ng → r g = some ⟨g, 0, 0⟩

def AW.shut (σ : AW) : AW := { σ with prot := List.range σ.next }

theorem Names.rel {w : World} {ng : Nat} {r : Ren} {σ : AW} (h : Names w ng r σ) : Rel w.heap.size w σ.next ng r σ.shut w where
  obj := h.obj
  own b o l hb _ hlo := by have hb2 : σ.heap.get b = some o := hb; rw [(h.new b hlo).2] at hb2; cases hb2
  sep b b' o o' l l' _ hlo hb := by have hb2 : σ.heap.get b = some o := hb; rw [(h.new b hlo).2] at hb2; cases hb2
  new := h.new
  glob := h.glob
  low b hb := by
    unfold AW.may AW.shut
    simp only [Bool.not_eq_false', List.contains_eq_mem, List.mem_range, decide_eq_true_eq]
    exact hb
  lon := Nat.le_refl _
  base := Nat.le_refl _
  keep := Below.refl _ _

def names0 (ng : Nat) : Ren := fun g => if g < ng then some ⟨g, 0, 0⟩ else none
def state0 (ng : Nat) : AW := ⟨.leaf, ng, []⟩

theorem names0_ok (w : World) (ng : Nat) : Names w ng (names0 ng) (state0 ng) where
  obj b o h := by rw [show (state0 ng).heap.get b = none from Tr.get_leaf b] at h; cases h
  new b h := ⟨by unfold names0; rw [if_neg (by have : ng ≤ b := h; omega)], Tr.get_leaf b⟩
  glob g h := by unfold names0; rw [if_pos h]

/-- a cell that came in, as the state's, and what lies under its name. -/
def CCell (P : Program) (d b : Nat) (u : TypeId) (v : Value) (o : Option AObj) : Prop :=
  (Plain P u v ∧ o = none) ∨ ∃ e, P.underlying u = some (.slice e) ∧ ((v = .slice none 0 0 ∧ o = none) ∨ ∃ (n cap d' : Nat) (c : List Value), d' < d ∧ v = .slice (some ⟨b, 0, none⟩) n cap ∧ Row P d' e n cap c ∧ o = some (.cells c 0))

/-- a name for each cell, one behind the other. -/
def AW.lay (σ : AW) (o : Option AObj) : AW := { σ with heap := σ.heap.set σ.next o, next := σ.next + 1 }
def AW.lays (σ : AW) : List (Option AObj) → AW
  | [] => σ
  | o :: os => (σ.lay o).lays os

theorem AW.lays_next : ∀ (os : List (Option AObj)) (σ : AW), (σ.lays os).next = σ.next + os.length := by
  intro os
  induction os with
  | nil => intro σ; rfl
  | cons o os ih => intro σ; show ((σ.lay o).lays os).next = _; rw [ih]; show σ.next + 1 + os.length = _; simp; omega

theorem AW.lays_append : ∀ (os os' : List (Option AObj)) (σ : AW), σ.lays (os ++ os') = (σ.lays os).lays os' := by
  intro os
  induction os with
  | nil => intro os' σ; rfl
  | cons o os ih => intro os' σ; exact ih os' (σ.lay o)

def Reachable (w : World) (v : Value) : Prop := ∀ a n c, v = .slice (some a) n c → a.spot = none ∧ a.block < w.heap.size

theorem lay_cell {P : Program} {w : World} {ng d : Nat} {u : TypeId} {v : Value} (hin : InCell P d w u v) (hre : Reachable w v) {r : Ren} {σ : AW} (h : Names w ng r σ) :
    ∃ r' o v', Names w ng r' (σ.lay o) ∧ r.le r' ∧ VR r' v' v ∧ CCell P d σ.next u v' o := by
  have hn := (h.new _ (Nat.le_refl _)).1
  have bare : Names w ng r (σ.lay none) := by
    refine ⟨fun b ob hb => ?_, fun b hb => ?_, h.glob⟩
    · have hb2 : (σ.heap.set σ.next none).get b = some ob := hb
      rw [Tr.get_set] at hb2
      split at hb2
      · cases hb2
      · exact h.obj b ob hb2
    · have hb2 : σ.next + 1 ≤ b := hb
      refine ⟨(h.new b (by omega)).1, ?_⟩
      show (σ.heap.set σ.next none).get b = none
      rw [Tr.get_set, if_neg (by omega)]
      exact (h.new b (by omega)).2
  rcases hin with hp | ⟨e, he, rfl | ⟨a, n, cap, d', c, hd, rfl, hrow, hc⟩⟩
  · exact ⟨r, none, v, bare, .refl r, VR.cl hp.cl, .inl ⟨hp, rfl⟩⟩
  · exact ⟨r, none, _, bare, .refl r, .sliceNil _ _, .inr ⟨e, he, .inl ⟨rfl, rfl⟩⟩⟩
  · obtain ⟨hs, hb⟩ := hre a n cap rfl
    obtain ⟨B, o, sp⟩ := a
    simp only at hs hb
    subst hs
    have hle : r.le (bindR r σ.next ⟨B, o, 0⟩) := bindR_le hn
    have hcells : ∀ (i : Nat) (x : Value), c[i]? = some x → w.cell? (Loc.at ⟨B, o, 0⟩ i) = some x := by
      intro i x hx
      have := hc i x hx
      rw [addr_add] at this
      exact this
    refine ⟨bindR r σ.next ⟨B, o, 0⟩, some (.cells c 0), .slice (some ⟨σ.next, 0, none⟩) n cap, ⟨fun b ob hb' => ?_, fun b hb' => ?_, fun g hg => hle _ _ (h.glob g hg)⟩, hle, ?_, ?_⟩
    · have hb2 : (σ.heap.set σ.next (some (.cells c 0))).get b = some ob := hb'
      rw [Tr.get_set] at hb2
      split at hb2
      · rename_i e1
        subst e1
        cases hb2
        refine ⟨⟨B, o, 0⟩, by unfold bindR; rw [if_pos rfl], hb, fun i x hx => ?_, fun i h1 h2 => ?_, fun ht => by unfold TAGB at ht; omega⟩
        · obtain ⟨u', hu1, hu2⟩ := hrow.2.2.2.2 i x hx
          exact ⟨x, hcells i x hx, VR.cl hu2.cl⟩
        · simp at h2; omega
      · obtain ⟨l, h1, h2, h3⟩ := h.obj b ob hb2
        exact ⟨l, hle _ _ h1, h2, h3.mono hle⟩
    · have hb2 : σ.next + 1 ≤ b := hb'
      refine ⟨by unfold bindR; rw [if_neg (by omega)]; exact (h.new b (by omega)).1, ?_⟩
      show (σ.heap.set σ.next (some (.cells c 0))).get b = none
      rw [Tr.get_set, if_neg (by omega)]
      exact (h.new b (by omega)).2
    · have := VR.slice (r := bindR r σ.next ⟨B, o, 0⟩) (b := σ.next) (o := 0) (n := n) (c := cap) (l := ⟨B, o, 0⟩) (by unfold bindR; rw [if_pos rfl])
      have hcap : capR ⟨B, o, 0⟩ cap = cap := by
        unfold capR
        have h1 := hrow.2.1
        have h2 : maxLen < OPEN := by decide
        rw [if_pos (by omega)]
      rw [hcap] at this
      exact this
    · exact .inr ⟨e, he, .inr ⟨n, cap, d', c, hd, rfl, hrow, rfl⟩⟩

theorem lay_cells {P : Program} {w : World} {ng d : Nat} : ∀ (cs : List Value) (T : Nat → Option TypeId), (∀ (i : Nat) (v : Value), cs[i]? = some v → ∃ u, T i = some u ∧ InCell P d w u v) → (∀ v ∈ cs, Reachable w v) →
    ∀ (r : Ren) (σ : AW), Names w ng r σ → ∃ r' os cs', Names w ng r' (σ.lays os) ∧ r.le r' ∧ os.length = cs.length ∧ VL r' cs' cs ∧ ∀ (i : Nat) (v : Value) (o : Option AObj), cs'[i]? = some v → os[i]? = some o → ∃ u, T i = some u ∧ CCell P d (σ.next + i) u v o := by
  intro cs
  induction cs with
  | nil => intro T _ _ r σ h; exact ⟨r, [], [], h, .refl r, rfl, .nil, by simp⟩
  | cons v cs ih =>
    intro T hT hre r σ h
    obtain ⟨u, hu1, hu2⟩ := hT 0 v rfl
    obtain ⟨r1, o, v', h1, g1, hv1, ha1⟩ := lay_cell hu2 (hre v (by simp)) h
    obtain ⟨r2, os, cs', h2, g2, hl, hv2, ha2⟩ := ih (fun i => T (i + 1)) (fun i x hx => hT (i + 1) x (by simpa using hx)) (fun x hx => hre x (by simp [hx])) r1 (σ.lay o) h1
    refine ⟨r2, o :: os, v' :: cs', h2, g1.trans g2, by simp [hl], .cons (hv1.mono g2) hv2, fun i x o' hx ho => ?_⟩
    cases i with
    | zero => simp at hx ho; subst hx; subst ho; exact ⟨u, hu1, ha1⟩
    | succ i =>
      obtain ⟨u', a, b⟩ := ha2 i x o' (by simpa using hx) (by simpa using ho)
      refine ⟨u', a, ?_⟩
      have e : (σ.lay o).next + i = σ.next + (i + 1) := by show σ.next + 1 + i = _; omega
      rw [e] at b
      exact b

/-- a value that came in: its cells' names begin at b. -/
structure AVal (P : Program) (d b : Nat) (t : TypeId) (v : Value) (os : List (Option AObj)) : Prop where
  cells : ∀ (i : Nat) (x : Value) (o : Option AObj), v.cells.toList[i]? = some x → os[i]? = some o → ∃ u, tyAt P d t i = some u ∧ CCell P d (b + i) u x o
  size : v.cells.toList.length = P.cellsOf t
  len : os.length = P.cellsOf t
  agg : (∃ cs, v = .agg cs) ↔ ((∃ fs, P.underlying t = some (.struct fs)) ∨ ∃ n e, P.underlying t = some (.array n e))

section
variable {H : Type} {enc : TypeId × Value → H} {P : Program} {w : World}

theorem lay_val {ng d : Nat} {t : TypeId} {v : Value} {x : DataW H} {ps : List MemPlace} (ht : argTy P d t = true) (h : DataW.Trod enc P w 0 (fun _ => true) true t v x ps)
    (hform : (∃ cs, v = .agg cs) ↔ ((∃ fs, P.underlying t = some (.struct fs)) ∨ ∃ n e, P.underlying t = some (.array n e))) (hre : ∀ c ∈ v.cells.toList, Reachable w c)
    {r : Ren} {σ : AW} (hN : Names w ng r σ) : ∃ r' os v', Names w ng r' (σ.lays os) ∧ r.le r' ∧ VR r' v' v ∧ AVal P d σ.next t v' os := by
  obtain ⟨fuel, hf⟩ := h
  obtain ⟨hl, hc⟩ := in_cells fuel d t _ _ ht hf
  obtain ⟨r', os, cs', h1, h2, h5, h3, h4⟩ := lay_cells v.cells.toList (tyAt P d t) hc hre r σ hN
  by_cases ha : ∃ cs, v = .agg cs
  · obtain ⟨cs, rfl⟩ := ha
    refine ⟨r', os, .agg cs'.toArray, h1, h2, (VR.agg_iff).2 h3, ⟨h4, by show cs'.length = _; rw [h3.1, hl], by rw [h5, hl], ?_⟩⟩
    exact ⟨fun _ => hform.1 ⟨_, rfl⟩, fun _ => ⟨_, rfl⟩⟩
  · have hcells : v.cells.toList = [v] := by
      cases v <;> first | rfl | exact absurd ⟨_, rfl⟩ ha
    rw [hcells] at h3 hl h5
    obtain ⟨v', rest, e, hv, hr⟩ : ∃ v' rest, cs' = v' :: rest ∧ VR r' v' v ∧ rest = [] := by
      cases cs' with
      | nil => have := h3.1; simp at this
      | cons a b => exact ⟨a, b, rfl, h3.2 0 a v rfl rfl, by have := h3.1; simpa using this⟩
    subst hr
    subst e
    have hna : ¬ ∃ cs, v' = .agg cs := by
      rintro ⟨cs, rfl⟩
      cases hv with
      | agg => exact ha ⟨_, rfl⟩
    have hcells' : v'.cells.toList = [v'] := by
      cases v' <;> first | rfl | exact absurd ⟨_, rfl⟩ hna
    refine ⟨r', os, v', h1, h2, hv, ⟨by rw [hcells']; exact h4, by rw [hcells']; exact hl, by rw [h5]; exact hl, ?_⟩⟩
    exact ⟨fun e => absurd e hna, fun e => absurd (hform.2 e) ha⟩

/-- what Go lets in has its form, and lies in memory. -/
theorem okWide_form {base : Nat} {t : TypeId} {v : Value} {d : Nat} (ht : argTy P d t = true) (h : Value.okWide P w .any base t v) :
    ((∃ cs, v = .agg cs) ↔ ((∃ fs, P.underlying t = some (.struct fs)) ∨ ∃ n e, P.underlying t = some (.array n e))) ∧ (∀ vs, v ≠ .tuple vs) ∧ ∀ c ∈ v.cells.toList, Reachable w c := by
  have cell : ∀ u x, Cell.okWide P w .any base u x → Reachable w x := by
    intro u x hx a n c e
    subst e
    unfold Cell.okWide at hx
    have hok : Cell.ok P w .any base u (.slice (some a) n c) := by
      cases hu : P.underlying u with
      | none => rw [hu] at hx; exact hx
      | some ty => rw [hu] at hx; cases ty <;> exact hx
    unfold Cell.ok at hok
    cases hu : P.underlying u with
    | none => rw [hu] at hok; exact hok.elim
    | some ty =>
      rw [hu] at hok
      cases ty <;> first | exact hok.elim | skip
      obtain ⟨_, _, _, hs, row, cells, hsh, _⟩ := hok
      refine ⟨hs, ?_⟩
      unfold World.shape? at hsh
      cases hb : w.heap[a.block]? with
      | none => rw [hb] at hsh; cases hsh
      | some o => exact (Array.getElem?_eq_some_iff.1 hb).1
  unfold Value.okWide at h
  cases hu : P.underlying t with
  | none =>
    cases d with
    | zero => simp [argTy] at ht
    | succ d => unfold argTy at ht; rw [hu] at ht; cases ht
  | some ty =>
    rw [hu] at h
    have row : (∃ cs, v = .agg cs ∧ cs.size = P.cellsOf t ∧ Row.okWide P w .any base t cs) → (∃ cs, v = .agg cs) ∧ (∀ vs, v ≠ .tuple vs) ∧ ∀ c ∈ v.cells.toList, Reachable w c := by
      rintro ⟨cs, rfl, _, ts, _, _, hc⟩
      refine ⟨⟨_, rfl⟩, (fun vs e => nomatch e), fun c hm => ?_⟩
      obtain ⟨i, hi, rfl⟩ := List.getElem_of_mem hm
      have : cs[i]? = some ((Value.agg cs).cells.toList[i]) := by
        rw [← Array.getElem?_toList]; exact List.getElem?_eq_getElem hi
      obtain ⟨u, _, hu⟩ := hc i _ this
      exact cell u _ hu
    have flat : (∀ fs, ty ≠ .struct fs) → (∀ n e, ty ≠ .array n e) → Cell.okWide P w .any base t v → argTy P d t = true →
        ((∃ cs, v = .agg cs) ↔ ((∃ fs, some ty = some (.struct fs)) ∨ ∃ n e, some ty = some (TypeDesc.array n e))) ∧ (∀ vs, v ≠ .tuple vs) ∧ ∀ c ∈ v.cells.toList, Reachable w c := by
      intro hns hna hc _
      have hnv : (∀ cs, v ≠ .agg cs) ∧ (∀ vs, v ≠ .tuple vs) := by
        unfold Cell.okWide at hc
        rw [hu] at hc
        cases d with
        | zero => simp [argTy] at ht
        | succ d =>
          unfold argTy at ht
          rw [hu] at ht
          cases ty <;> first | cases ht; done | skip
          all_goals (constructor <;> (intro cs e; subst e; simp_all [Cell.ok]))
      refine ⟨⟨fun ⟨cs, e⟩ => absurd e (hnv.1 cs), ?_⟩, hnv.2, ?_⟩
      · rintro (⟨fs, e⟩ | ⟨n, e, e'⟩)
        · cases e; exact absurd rfl (hns _)
        · cases e'; exact absurd rfl (hna _ _)
      · have hcells : v.cells.toList = [v] := by
          cases v <;> first | rfl | exact absurd rfl (hnv.1 _)
        rw [hcells]
        intro c hm
        rw [List.mem_singleton] at hm
        subst hm
        exact cell t _ hc
    cases ty with
    | struct fs => obtain ⟨a, b, c⟩ := row h; exact ⟨⟨fun _ => .inl ⟨_, rfl⟩, fun _ => a⟩, b, c⟩
    | array n e => obtain ⟨a, b, c⟩ := row h; exact ⟨⟨fun _ => .inr ⟨_, _, rfl⟩, fun _ => a⟩, b, c⟩
    | _ => exact flat (fun _ h => nomatch h) (fun _ _ h => nomatch h) h ht

/-- the arguments of a law: their cells' names, one behind the other. -/
def AVals (P : Program) (d : Nat) : Nat → List TypeId → List Value → List (Option AObj) → Prop
  | _, [], vs, os => vs = [] ∧ os = []
  | b, t :: ts, vs, os => ∃ v vs' o os', vs = v :: vs' ∧ os = o ++ os' ∧ AVal P d b t v o ∧ AVals P d (b + P.cellsOf t) ts vs' os'

theorem lay_args {ng d base : Nat} : ∀ (ts : List TypeId) (vs : List Value) (ds : List (DataW H)) (ps : List MemPlace), (∀ t ∈ ts, argTy P d t = true) → DataW.TrodAll enc P w 0 (fun _ => true) true ts vs ds ps →
    (∀ (j : Nat) t v, ts[j]? = some t → vs[j]? = some v → Value.okWide P w .any base t v) → ∀ (r : Ren) (σ : AW), Names w ng r σ →
    ∃ r' os vs', Names w ng r' (σ.lays os) ∧ r.le r' ∧ VL r' vs' vs ∧ AVals P d σ.next ts vs' os := by
  intro ts
  induction ts with
  | nil =>
    intro vs ds ps _ h _ r σ hN
    obtain ⟨rfl, _, _⟩ := Go.ChangeShapes.trodAll_nil h
    exact ⟨r, [], [], hN, .refl r, .nil, rfl, rfl⟩
  | cons t ts ih =>
    intro vs ds ps hty h hok r σ hN
    obtain ⟨v, vs, x, ds, p, q, rfl, rfl, rfl, h1, h2⟩ := Go.ChangeShapes.trodAll_cons h
    obtain ⟨f1, f2, f3⟩ := okWide_form (hty t (by simp)) (hok 0 t v rfl rfl)
    obtain ⟨r1, o, v', n1, g1, a1, b1⟩ := lay_val (hty t (by simp)) h1 f1 f3 hN
    obtain ⟨r2, os, vs', n2, g2, a2, b2⟩ := ih vs ds q (fun t ht => hty t (by simp [ht])) h2 (fun j t v ht hv => hok (j + 1) t v (by simpa using ht) (by simpa using hv)) r1 _ n1
    refine ⟨r2, o ++ os, v' :: vs', by rw [AW.lays_append]; exact n2, g1.trans g2, .cons (a1.mono g2) a2, v', vs', o, os, rfl, rfl, b1, ?_⟩
    rw [AW.lays_next, b1.len] at b2
    exact b2
end

/-! ### What a cell is, by its type -/
section
variable {P : Program} {d b : Nat} {u : TypeId} {v : Value} {o : Option AObj}

theorem ccell_int {k : IntKind} (hu : P.underlying u = some (.int k)) (h : CCell P d b u v o) : ∃ n, v = .int k n ∧ (Lit.int k n).wf = true ∧ o = none := by
  rcases h with ⟨h, ho⟩ | ⟨e, he, _⟩
  · unfold Plain at h
    rw [hu] at h
    split at h <;> first | cases h; done | skip
    all_goals simp_all
  · rw [hu] at he; cases he
theorem ccell_bool (hu : P.underlying u = some .bool) (h : CCell P d b u v o) : ∃ x, v = .bool x ∧ o = none := by
  rcases h with ⟨h, ho⟩ | ⟨e, he, _⟩
  · unfold Plain at h
    rw [hu] at h
    split at h <;> first | cases h; done | skip
    all_goals simp_all
  · rw [hu] at he; cases he
theorem ccell_str (hu : P.underlying u = some .string) (h : CCell P d b u v o) : ∃ s : ByteArray, v = .string s ∧ s.size ≤ maxLen ∧ o = none := by
  rcases h with ⟨h, ho⟩ | ⟨e, he, _⟩
  · unfold Plain at h
    rw [hu] at h
    split at h <;> first | cases h; done | skip
    all_goals simp_all
  · rw [hu] at he; cases he
theorem ccell_slice {e : TypeId} (hu : P.underlying u = some (.slice e)) (h : CCell P d b u v o) : ∃ ad n cap, v = .slice ad n cap ∧ n ≤ cap ∧ cap ≤ maxLen ∧
    ((ad = none ∧ n = 0 ∧ cap = 0 ∧ o = none) ∨ (ad = some ⟨b, 0, none⟩ ∧ ∃ d' c, d' < d ∧ Row P d' e n cap c ∧ o = some (.cells c 0))) := by
  rcases h with ⟨h, ho⟩ | ⟨e', he, h⟩
  · unfold Plain at h
    rw [hu] at h
    split at h <;> first | cases h; done | skip
    all_goals simp_all
  · rw [hu] at he
    cases he
    rcases h with ⟨rfl, rfl⟩ | ⟨n, cap, d', c, h1, rfl, h2, rfl⟩
    · exact ⟨none, 0, 0, rfl, Nat.le_refl _, Nat.zero_le _, .inl ⟨rfl, rfl, rfl, rfl⟩⟩
    · exact ⟨_, n, cap, rfl, h2.1, h2.2.1, .inr ⟨rfl, d', c, h1, h2, rfl⟩⟩
end
end Go.Abs
