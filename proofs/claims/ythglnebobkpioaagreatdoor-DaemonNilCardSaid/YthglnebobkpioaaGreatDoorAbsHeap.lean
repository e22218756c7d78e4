/- A part of the abstract runs: the program is run over an abstract heap; what holds there holds in every world that looks so. Conditions: none. -/
import Derived.Test.YthglnebobkpioaaGreatDoorAbsRel
namespace Go.Abs
open Go Go.RowKit

/-! ### The concrete world -/
theorem cell?_block {w w' : World} {p : Addr} (h : w'.heap[p.block]? = w.heap[p.block]?) : w'.cell? p = w.cell? p := by
  unfold World.cell?; rw [h]
theorem frozen?_block {w w' : World} {p : Addr} (h : w'.heap[p.block]? = w.heap[p.block]?) : w'.frozen? p = w.frozen? p := by
  unfold World.frozen?; rw [h]

theorem addr_add (B o n : Nat) : (Addr.add ⟨B, o, none⟩ n) = ⟨B, o + n, none⟩ := by
  unfold Addr.add
  split
  · rename_i h; subst h; rfl
  · rfl

theorem Loc.at_add (l : Loc) (i n : Nat) : (l.at i).add n = l.at (i + n) := by
  show Addr.add ⟨_, _, none⟩ n = _
  rw [addr_add]
  unfold Loc.at
  rw [Nat.add_assoc]

structure Wrote (w w' : World) (B o : Nat) (vs : List Value) : Prop where
  os : w'.os = w.os
  tape : w'.tape = w.tape
  output : w'.output = w.output
  size : w'.heap.size = w.heap.size
  block : ∀ k, k ≠ B → w'.heap[k]? = w.heap[k]?
  cell : ∀ i, w'.cell? ⟨B, i, none⟩ = if o ≤ i ∧ i < o + vs.length then vs[i - o]? else w.cell? ⟨B, i, none⟩
  row : ∀ c e f, w'.heap[B]? = some (.cells c e f) → ∃ c' e', w.heap[B]? = some (.cells c' e' f) ∧ c'.size = c.size
  fwd : ∀ c e f, w.heap[B]? = some (.cells c e f) → ∃ c', w'.heap[B]? = some (.cells c' e f) ∧ c'.size = c.size

theorem cell?_setCell (w : World) (B o i : Nat) (v x : Value) (h : w.cell? ⟨B, o, none⟩ = some x) :
    (w.setCell ⟨B, o, none⟩ v).cell? ⟨B, i, none⟩ = if i = o then some v else w.cell? ⟨B, i, none⟩ := by
  unfold World.cell? World.setCell at *
  simp only [Array.getElem?_modify, if_true] at *
  cases hb : w.heap[B]? with
  | none => rw [hb] at h; cases h
  | some ob =>
    rw [hb] at h
    cases ob with
    | cells c e f =>
      simp only [Option.map_some, Option.isSome_none, Bool.false_eq_true, if_false] at h ⊢
      have ho : o < c.size := by
        rcases Nat.lt_or_ge o c.size with h' | h'
        · exact h'
        · rw [Array.getElem?_eq_none h'] at h; cases h
      rw [Array.getElem?_setIfInBounds]
      by_cases e : i = o
      · subst e; simp [ho]
      · rw [if_neg e, if_neg (fun h => e h.symm)]
    | _ => cases h

theorem heap_setCell (w : World) (a : Addr) (v : Value) (k : Nat) (h : k ≠ a.block) : (w.setCell a v).heap[k]? = w.heap[k]? := by
  unfold World.setCell
  simp only [Array.getElem?_modify]
  rw [if_neg (fun e => h e.symm)]

theorem frozen?_setCell (w : World) (a p : Addr) (v : Value) : (w.setCell a v).frozen? p = w.frozen? p := by
  unfold World.frozen? World.setCell
  simp only [Array.getElem?_modify]
  by_cases e : a.block = p.block
  · rw [if_pos e]
    cases w.heap[p.block]? with
    | none => rfl
    | some ob => cases ob <;> rfl
  · rw [if_neg e]

theorem row_setCell (w : World) (a : Addr) (v : Value) (c : Array Value) (e : TypeId) (f : Nat × Nat) (h : (w.setCell a v).heap[a.block]? = some (.cells c e f)) :
    ∃ c' e', w.heap[a.block]? = some (.cells c' e' f) ∧ c'.size = c.size := by
  unfold World.setCell at h
  simp only [Array.getElem?_modify, if_true] at h
  cases hb : w.heap[a.block]? with
  | none => rw [hb] at h; cases h
  | some ob =>
    rw [hb] at h
    cases ob with
    | cells c' e' f' =>
      simp only [Option.map_some, Option.some.injEq, Obj.cells.injEq] at h
      obtain ⟨h1, rfl, rfl⟩ := h
      refine ⟨c', e', rfl, ?_⟩
      rw [← h1]; split <;> simp
    | _ => simp at h

theorem fwd_setCell (w : World) (a : Addr) (v : Value) (c : Array Value) (e : TypeId) (f : Nat × Nat) (h : w.heap[a.block]? = some (.cells c e f)) :
    ∃ c', (w.setCell a v).heap[a.block]? = some (.cells c' e f) ∧ c'.size = c.size := by
  unfold World.setCell
  simp only [Array.getElem?_modify, if_true, h, Option.map_some]
  refine ⟨_, rfl, ?_⟩
  split <;> simp

/-- the frozen range, if any, lies behind the row. -/
def NoFz (w : World) (B : Nat) : Prop := ∀ c e f, w.heap[B]? = some (.cells c e f) → f.1 = f.2 ∨ c.size ≤ f.1

theorem NoFz.block {w w' : World} {B : Nat} (hb : w'.heap[B]? = w.heap[B]?) (h : NoFz w B) : NoFz w' B := fun c e f hc => h c e f (by rw [← hb]; exact hc)

theorem NoFz.frozen {w : World} {B i : Nat} {x : Value} (h : NoFz w B) (hc : w.cell? ⟨B, i, none⟩ = some x) : w.frozen? ⟨B, i, none⟩ = false := by
  unfold World.cell? at hc
  unfold World.frozen?
  cases hb : w.heap[B]? with
  | none => simp [hb] at hc
  | some ob =>
    cases ob with
    | cells c e f =>
      simp only [hb, Option.isSome_none, Bool.false_eq_true, if_false] at hc ⊢
      have hi : i < c.size := by
        rcases Nat.lt_or_ge i c.size with h' | h'
        · exact h'
        · rw [Array.getElem?_eq_none h'] at hc; cases hc
      rcases h c e f hb with h1 | h1
      · rw [Bool.and_eq_false_iff, decide_eq_false_iff_not, decide_eq_false_iff_not]; omega
      · rw [Bool.and_eq_false_iff, decide_eq_false_iff_not, decide_eq_false_iff_not]; omega
    | _ => simp [hb] at hc

theorem run_store (P : Program) (w : World) (a : Addr) (v x : Value) (hc : w.cell? a = some x) (hf : w.frozen? a = false) (hv : flat? v = true) :
    (store a v).run P w = .ok () (w.setCell a v) := by
  unfold store
  cases v with
  | agg => simp [flat?] at hv
  | tuple => simp [flat?] at hv
  | _ => simp [Sem.run, hc, hf]

theorem run_load (P : Program) (w : World) (a : Addr) (x : Value) (hc : w.cell? a = some x) : (load a).run P w = .ok x w := by
  simp [load, Sem.run, hc]

theorem run_bind {α β : Type} (P : Program) (m : Sem α) (f : α → Sem β) : ∀ (w w' : World) (x : α), m.run P w = .ok x w' → (Sem.bind m f).run P w = (f x).run P w' := by
  induction m with
  | pure a => intro w w' x h; simp [Sem.run] at h; obtain ⟨rfl, rfl⟩ := h; rfl
  | load m a k ih =>
    intro w w' x h
    simp only [Sem.run, Sem.bind] at h ⊢
    cases hc : w.cell? a with
    | some v => simp only [hc] at h ⊢; exact ih _ _ _ _ h
    | none =>
      simp only [hc] at h ⊢
      cases hf : w.farLoad P a (m == .atomic) with
      | ok r => simp only [hf] at h ⊢; exact ih _ _ _ _ h
      | error => simp only [hf] at h; cases h
  | store m a v k ih =>
    intro w w' x h
    cases v <;> simp only [Sem.run, Sem.bind] at h ⊢ <;> (first | (cases h; done) | skip)
    all_goals
      cases hc : w.cell? a with
      | some v =>
        simp only [hc] at h ⊢
        split at h
        · cases h
        · rename_i hf; rw [if_neg hf]; exact ih _ _ _ h
      | none =>
        simp only [hc] at h ⊢
        cases hf : w.farStore P a _ (m == .atomic) with
        | ok r => simp only [hf] at h ⊢; exact ih _ _ _ h
        | error => simp only [hf] at h; cases h
  | new o k ih => intro w w' x h; simp only [Sem.run, Sem.bind] at h ⊢; exact ih _ _ _ _ h
  | shape r k ih => intro w w' x h; simp only [Sem.run, Sem.bind] at h ⊢; exact ih _ _ _ _ h
  | freeze a n k ih => intro w w' x h; simp only [Sem.run, Sem.bind] at h ⊢; exact ih _ _ _ h
  | frozen a k ih => intro w w' x h; simp only [Sem.run, Sem.bind] at h ⊢; exact ih _ _ _ _ h
  | getObj r k ih =>
    intro w w' x h
    simp only [Sem.run, Sem.bind] at h ⊢
    cases hc : w.heap[r]? with
    | none => simp only [hc] at h; cases h
    | some o => cases o <;> simp only [hc] at h ⊢ <;> first | (cases h; done) | exact ih _ _ _ _ h
  | setObj r o k ih =>
    intro w w' x h
    simp only [Sem.run, Sem.bind] at h ⊢
    cases hc : w.heap[r]? with
    | none => simp only [hc] at h; cases h
    | some o => cases o <;> simp only [hc] at h ⊢ <;> first | (cases h; done) | exact ih _ _ _ h
  | choose q k ih =>
    intro w w' x h
    simp only [Sem.run, Sem.bind] at h ⊢
    split at h
    · rename_i hq; rw [if_pos hq]; exact ih _ _ _ _ h
    · rename_i hq; rw [if_neg hq]; exact ih _ _ _ _ h
  | sys c k ih => intro w w' x h; simp only [Sem.run, Sem.bind] at h ⊢; exact ih _ _ _ _ h
  | program k ih => intro w w' x h; simp only [Sem.run, Sem.bind] at h ⊢; exact ih _ _ _ _ h
  | mark m k ih => intro w w' x h; simp only [Sem.run, Sem.bind] at h ⊢; exact ih _ _ _ h
  | halt => intro w w' x h; simp [Sem.run] at h

/-- the law in the shape of do-notation. -/
theorem run_bind' {α β : Type} {P : Program} {m : Sem α} {f : α → Sem β} {w w' : World} {x : α} (h : m.run P w = .ok x w') :
    (m >>= f).run P w = (f x).run P w' := run_bind P m f w w' x h

theorem run_runP {α : Type} {P : Program} : ∀ (m : Sem α) (a : α), runP P m = some a → ∀ w, m.run P w = .ok a w := by
  intro m
  induction m with
  | pure a => intro b h w; simp [runP] at h; subst h; rfl
  | program k ih => intro b h w; simp only [runP] at h; simp only [Sem.run]; exact ih _ _ h w
  | mark m k ih => intro b h w; simp only [runP] at h; simp only [Sem.run]; exact ih _ h w
  | _ => intro b h; simp [runP] at h

theorem storeCells_run (P : Program) (B o : Nat) : ∀ (vs : List Value) (i : Nat) (w : World),
    (∀ j, j < vs.length → ∃ x, w.cell? ⟨B, o + i + j, none⟩ = some x) → (∀ j, j < vs.length → w.frozen? ⟨B, o + i + j, none⟩ = false) → vs.all flat? = true →
    ∃ w', (storeCells ⟨B, o, none⟩ vs i).run P w = .ok () w' ∧ Wrote w w' B (o + i) vs ∧ w'.drawn = w.drawn := by
  intro vs
  induction vs with
  | nil =>
    intro i w _ _ _
    exact ⟨w, by simp [storeCells, pure], ⟨rfl, rfl, rfl, rfl, fun _ _ => rfl, fun j => by rw [if_neg (by simp)], fun c e f h => ⟨c, e, h, rfl⟩, fun c e f h => ⟨c, h, rfl⟩⟩, rfl⟩
  | cons v vs ih =>
    intro i w hc hf hv
    rw [List.all_cons, Bool.and_eq_true] at hv
    obtain ⟨x, hx⟩ := hc 0 (by simp)
    have hf0 := hf 0 (by simp)
    rw [Nat.add_zero] at hx hf0
    obtain ⟨w', hr, hw, hd⟩ := ih (i + 1) (w.setCell ⟨B, o + i, none⟩ v)
      (fun j hj => by
        rw [cell?_setCell _ _ _ _ _ _ hx]
        split
        · exact ⟨_, rfl⟩
        · obtain ⟨y, hy⟩ := hc (j + 1) (by simp; omega)
          exact ⟨y, by rw [← hy]; congr 2; omega⟩)
      (fun j hj => by
        rw [frozen?_setCell]
        have := hf (j + 1) (by simp; omega)
        rw [← this]; congr 2; omega) hv.2
    refine ⟨w', ?_, ?_, hd⟩
    · unfold storeCells
      rw [addr_add, run_bind' (run_store P w _ v x hx hf0 hv.1)]
      exact hr
    · refine ⟨hw.os, hw.tape, hw.output, by rw [hw.size]; simp [World.setCell], fun k hk => by rw [hw.block k hk, heap_setCell _ _ _ _ hk], fun j => ?_, fun c e f h => by
        obtain ⟨c1, e1, h1, h2⟩ := hw.row c e f h
        obtain ⟨c2, e2, h3, h4⟩ := row_setCell w ⟨B, o + i, none⟩ v c1 e1 f h1
        exact ⟨c2, e2, h3, h4.trans h2⟩, fun c e f h => by
        obtain ⟨c2, h3, h4⟩ := fwd_setCell w ⟨B, o + i, none⟩ v c e f h
        obtain ⟨c1, h1, h2⟩ := hw.fwd c2 e f h3
        exact ⟨c1, h1, h2.trans h4⟩⟩
      rw [hw.cell, cell?_setCell _ _ _ _ _ _ hx]
      by_cases h1 : o + (i + 1) ≤ j ∧ j < o + (i + 1) + vs.length
      · rw [if_pos h1, if_pos (by simp; omega)]
        have : j - (o + i) = (j - (o + (i + 1))) + 1 := by omega
        rw [this]; rfl
      · rw [if_neg h1]
        by_cases h2 : j = o + i
        · rw [if_pos h2, if_pos (by simp; omega), h2]; simp
        · rw [if_neg h2, if_neg (by simp; omega)]

theorem loadCells_run (P : Program) (B o : Nat) (w : World) : ∀ (n i : Nat) (acc : Array Value) (vs : List Value), vs.length = n →
    (∀ j v, vs[j]? = some v → w.cell? ⟨B, o + i + j, none⟩ = some v) →
    (loadCellsFrom ⟨B, o, none⟩ i n acc).run P w = .ok (acc ++ vs.toArray) w := by
  intro n
  induction n with
  | zero =>
    intro i acc vs hl _
    obtain rfl : vs = [] := List.length_eq_zero_iff.1 hl
    simp [loadCellsFrom, pure]
  | succ n ih =>
    intro i acc vs hl hc
    obtain ⟨v, vs, rfl⟩ : ∃ v l, vs = v :: l := by cases vs with | nil => simp at hl | cons a l => exact ⟨a, l, rfl⟩
    unfold loadCellsFrom
    have h0 := hc 0 v rfl
    rw [Nat.add_zero] at h0
    rw [addr_add, run_bind' (run_load P w _ v h0), ih (i + 1) (acc.push v) vs (by simpa using hl) (fun j x hx => by have := hc (j + 1) x (by simpa using hx); rw [← this]; congr 2; omega)]
    congr 1
    apply Array.toList_inj.1
    simp

/-! ### The two memories -/
structure EntryR (r : Ren) (e e' : MapEntry) : Prop where
  key : VR r e.key e'.key
  val : VR r e.val e'.val
  born : e'.born = e.born

def EL (r : Ren) (es es' : List MapEntry) : Prop := es.length = es'.length ∧ ∀ (i : Nat) (e e' : MapEntry), es[i]? = some e → es'[i]? = some e' → EntryR r e e'

theorem EL.mono {r r' : Ren} (hr : r.le r') {es es' : List MapEntry} (h : EL r es es') : EL r' es es' :=
  ⟨h.1, fun i e e' a b => let k := h.2 i e e' a b; ⟨k.key.mono hr, k.val.mono hr, k.born⟩⟩

def ObjAt (r : Ren) (w : World) (l : Loc) : AObj → Prop
  | .cells c s => (∀ (i : Nat) (v : Value), c[i]? = some v → ∃ v', w.cell? (l.at i) = some v' ∧ VR r v v') ∧
      (∀ i, c.length ≤ i → i < c.length + l.ext * spz s → ∃ v', w.cell? (l.at i) = some v') ∧
      (TAGB ≤ s → l.base = 0 ∧ ∃ c' f, w.heap[l.blk]? = some (.cells c' (s / TAGB - 1) f) ∧ c'.size = c.length + l.ext * spz s ∧ f.1 = f.2)
  | .map es k => ∃ es' : List MapEntry, w.heap[l.blk]? = some (.map es'.toArray k) ∧ EL r es es'
  | .iter s p => w.heap[l.blk]? = some (.stringIter s p) ∧ l.base = 0

theorem ObjAt.mono {r r' : Ren} (hr : r.le r') {w : World} {l : Loc} {o : AObj} (h : ObjAt r w l o) : ObjAt r' w l o := by
  cases o with
  | cells c s => exact ⟨fun i v hv => let ⟨v', a, b⟩ := h.1 i v hv; ⟨v', a, b.mono hr⟩, h.2⟩
  | map es k => obtain ⟨es', a, b⟩ := h; exact ⟨es', a, b.mono hr⟩
  | iter => exact h

/-- it hangs on the block alone. -/
theorem ObjAt.block {r : Ren} {w w' : World} {l : Loc} {o : AObj} (hb : w'.heap[l.blk]? = w.heap[l.blk]?) (h : ObjAt r w l o) : ObjAt r w' l o := by
  cases o with
  | cells c s =>
    exact ⟨fun i v hv => by obtain ⟨v', a, b⟩ := h.1 i v hv; exact ⟨v', by rw [cell?_block (w := w) (by exact hb)]; exact a, b⟩,
      fun i h1 h2 => by obtain ⟨v', a⟩ := h.2.1 i h1 h2; exact ⟨v', by rw [cell?_block (w := w) (by exact hb)]; exact a⟩,
      fun ht => by rw [hb]; exact h.2.2 ht⟩
  | map es k => obtain ⟨es', a, b⟩ := h; exact ⟨es', by rw [hb]; exact a, b⟩
  | iter => exact ⟨by rw [hb]; exact h.1, h.2⟩

def extent (l : Loc) : AObj → Nat
  | .cells c s => c.length + l.ext * spz s
  | _ => 0

def isCells : AObj → Bool
  | .cells .. => true
  | _ => false

/-- a row that may share its block with others. -/
def isRow : AObj → Bool
  | .cells _ s => decide (s < TAGB)
  | _ => false

theorem notRow {o : AObj} (h : isCells o = false) : isRow o = false := by cases o <;> first | rfl | cases h

/-- may 'o' at 'l' lie beside what there is? -/
def Apart (l : Loc) (o : AObj) (l' : Loc) (o' : AObj) : Prop :=
  l.blk = l'.blk → isRow o = true ∧ isRow o' = true ∧ ∀ i j, i < extent l o → j < extent l' o' → l.base + i ≠ l'.base + j

theorem Apart.symm {l l' : Loc} {o o' : AObj} (h : Apart l o l' o') : Apart l' o' l o :=
  fun e => let ⟨a, b, c⟩ := h e.symm; ⟨b, a, fun i j hi hj e => c j i hj hi e.symm⟩

structure Rel (N : Nat) (w0 : World) (lo ng : Nat) (r : Ren) (σ : AW) (w : World) : Prop where
  obj : ∀ b o, σ.heap.get b = some o → ∃ l, r b = some l ∧ l.blk < w.heap.size ∧ ObjAt r w l o
  own : ∀ b o l, σ.heap.get b = some o → r b = some l → lo ≤ b → N ≤ l.blk ∧ (isCells o = true → NoFz w l.blk)
  sep : ∀ b b' o o' l l', b ≠ b' → lo ≤ b → σ.heap.get b = some o → σ.heap.get b' = some o' → r b = some l → r b' = some l' → Apart l o l' o'
  new : ∀ b, σ.next ≤ b → r b = none ∧ σ.heap.get b = none
  glob : ∀ g, g < ng → r g = some ⟨g, 0, 0⟩
  low : ∀ b, b < lo → σ.may b = false
  lon : lo ≤ σ.next
  base : N ≤ w0.heap.size
  keep : Below N w0 w

section
variable {N : Nat} {w0 : World} {lo ng : Nat} {r : Ren} {σ : AW} {w : World}

theorem AW.get_upd (σ : AW) (b : Nat) (o : Option AObj) (k : Nat) : (σ.upd b o).heap.get k = if k = b then o else σ.heap.get k := Tr.get_set _ _ _ _

theorem Rel.kill (h : Rel N w0 lo ng r σ w) (b : Nat) : Rel N w0 lo ng r (σ.upd b none) w where
  obj k o hk := by rw [AW.get_upd] at hk; split at hk; cases hk; exact h.obj k o hk
  own k o l hk := by rw [AW.get_upd] at hk; split at hk; cases hk; exact h.own k o l hk
  sep k k' o o' l l' hne hlo hk hk' := by
    rw [AW.get_upd] at hk hk'
    split at hk; cases hk
    split at hk'; cases hk'
    exact h.sep k k' o o' l l' hne hlo hk hk'
  new k hk := ⟨(h.new k hk).1, by rw [AW.get_upd]; split; rfl; exact (h.new k hk).2⟩
  glob := h.glob
  low := h.low
  lon := h.lon
  base := h.base
  keep := h.keep

/-- an object comes (back) under a name that is bound and free. -/
theorem Rel.put (h : Rel N w0 lo ng r σ w) {b : Nat} {l : Loc} {o : AObj} (hb : b < σ.next) (hr : r b = some l) (hl : l.blk < w.heap.size) (ho : ObjAt r w l o)
    (hown : lo ≤ b → N ≤ l.blk ∧ (isCells o = true → NoFz w l.blk))
    (hsep : ∀ b' o' l', b' ≠ b → σ.heap.get b' = some o' → r b' = some l' → Apart l o l' o') : Rel N w0 lo ng r (σ.upd b (some o)) w where
  obj k o' hk := by
    rw [AW.get_upd] at hk
    split at hk
    · rename_i e; subst e; cases hk; exact ⟨l, hr, hl, ho⟩
    · exact h.obj k o' hk
  own k o' l' hk hk' hlo := by
    rw [AW.get_upd] at hk
    split at hk
    · rename_i e; subst e; cases hk; rw [hr] at hk'; cases hk'; exact hown hlo
    · exact h.own k o' l' hk hk' hlo
  sep k k' o1 o2 l1 l2 hne hlo hk hk' h1 h2 := by
    rw [AW.get_upd] at hk hk'
    split at hk
    · rename_i e; subst e; cases hk; rw [hr] at h1; cases h1
      split at hk'
      · rename_i e'; exact absurd e'.symm hne
      · exact hsep k' o2 l2 (fun e => hne e.symm) hk' h2
    · split at hk'
      · rename_i e'; subst e'; cases hk'; rw [hr] at h2; cases h2
        exact (hsep k o1 l1 hne hk h1).symm
      · exact h.sep k k' o1 o2 l1 l2 hne hlo hk hk' h1 h2
  new k hk := ⟨(h.new k hk).1, by
    have hk' : σ.next ≤ k := hk
    rw [AW.get_upd, if_neg (by omega)]; exact (h.new k hk).2⟩
  glob := h.glob
  low := h.low
  lon := h.lon
  base := h.base
  keep := h.keep

def bindR (r : Ren) (b : Nat) (l : Loc) : Ren := fun k => if k = b then some l else r k

theorem bindR_le {r : Ren} {b : Nat} {l : Loc} (h : r b = none) : r.le (bindR r b l) := by
  intro k x hk
  unfold bindR
  split
  · rename_i e; subst e; rw [h] at hk; cases hk
  · exact hk

/-- a new name. -/
theorem Rel.bind (h : Rel N w0 lo ng r σ w) (l : Loc) : Rel N w0 lo ng (bindR r σ.next l) { σ with next := σ.next + 1 } w where
  obj k o hk := by
    obtain ⟨x, a, b, c⟩ := h.obj k o hk
    exact ⟨x, bindR_le (h.new _ (Nat.le_refl _)).1 _ _ a, b, c.mono (bindR_le (h.new _ (Nat.le_refl _)).1)⟩
  own k o x hk hx hlo := by
    unfold bindR at hx
    split at hx
    · rename_i e; subst e; have hk' : σ.heap.get σ.next = some o := hk
      rw [(h.new _ (Nat.le_refl _)).2] at hk'; cases hk'
    · exact h.own k o x hk hx hlo
  sep k k' o o' x x' hne hlo hk hk' hx hx' := by
    unfold bindR at hx hx'
    split at hx
    · rename_i e; subst e; have hk2 : σ.heap.get σ.next = some o := hk
      rw [(h.new _ (Nat.le_refl _)).2] at hk2; cases hk2
    · split at hx'
      · rename_i e; subst e; have hk2 : σ.heap.get σ.next = some o' := hk'
        rw [(h.new _ (Nat.le_refl _)).2] at hk2; cases hk2
      · exact h.sep k k' o o' x x' hne hlo hk hk' hx hx'
  new k hk := by
    have hk' : σ.next + 1 ≤ k := hk
    exact ⟨by unfold bindR; rw [if_neg (by omega)]; exact (h.new k (by omega)).1, (h.new k (by omega)).2⟩
  glob g hg := bindR_le (h.new _ (Nat.le_refl _)).1 _ _ (h.glob g hg)
  low := h.low
  lon := Nat.le_succ_of_le h.lon
  base := h.base
  keep := h.keep

/-- a new object under a new name. -/
theorem Rel.adopt (h : Rel N w0 lo ng r σ w) {l : Loc} {o : AObj} (hl : l.blk < w.heap.size) (ho : ObjAt r w l o) (hN : N ≤ l.blk) (hf : isCells o = true → NoFz w l.blk)
    (hsep : ∀ b' o' l', σ.heap.get b' = some o' → r b' = some l' → Apart l o l' o') : Rel N w0 lo ng (bindR r σ.next l) (σ.alloc o) w := by
  have hn := (h.new _ (Nat.le_refl _)).1
  have := (h.bind l).put (b := σ.next) (o := o) (Nat.lt_succ_self _) (by unfold bindR; rw [if_pos rfl]) hl (ho.mono (bindR_le hn)) (fun _ => ⟨hN, hf⟩) (fun b' o' l' hne hb' hl' => by
    unfold bindR at hl'; rw [if_neg hne] at hl'; exact hsep b' o' l' hb' hl')
  exact this

theorem Rel.push (h : Rel N w0 lo ng r σ w) (o : Obj) : Rel N w0 lo ng r σ { w with heap := w.heap.push o } where
  obj k a hk := by
    obtain ⟨l, x, y, z⟩ := h.obj k a hk
    exact ⟨l, x, by simp; omega, z.block (by simp only [Array.getElem?_push]; rw [if_neg (by omega)])⟩
  own k a l hk hl hlo := by
    obtain ⟨x, y⟩ := h.own k a l hk hl hlo
    obtain ⟨l', x', y', z'⟩ := h.obj k a hk
    rw [hl] at x'; cases x'
    exact ⟨x, fun hi => (y hi).block (by simp only [Array.getElem?_push]; rw [if_neg (by omega)])⟩
  sep := h.sep
  new := h.new
  glob := h.glob
  low := h.low
  lon := h.lon
  base := h.base
  keep := h.keep.trans ⟨rfl, rfl, rfl, by simp, fun k hk => by
    have h1 := h.keep.size
    have h2 := h.base
    simp only [Array.getElem?_push]; rw [if_neg (by omega)]⟩

theorem Rel.drawn (h : Rel N w0 lo ng r σ w) (n : Nat) : Rel N w0 lo ng r σ { w with drawn := n } where
  obj k a hk := by obtain ⟨l, x, y, z⟩ := h.obj k a hk; exact ⟨l, x, y, z.block rfl⟩
  own k a l hk hl hlo := by obtain ⟨x, y⟩ := h.own k a l hk hl hlo; exact ⟨x, fun hi => (y hi).block rfl⟩
  sep := h.sep
  new := h.new
  glob := h.glob
  low := h.low
  lon := h.lon
  base := h.base
  keep := h.keep.trans ⟨rfl, rfl, rfl, Nat.le_refl _, fun _ _ => rfl⟩

/-- a write where nothing lives. -/
theorem Rel.wrote (h : Rel N w0 lo ng r σ w) {w' : World} {B o : Nat} {vs : List Value} (hw : Wrote w w' B o vs) (hB : N ≤ B)
    (hfree : ∀ k a l, σ.heap.get k = some a → r k = some l → l.blk = B → isRow a = true ∧ ∀ i, i < extent l a → ¬ (o ≤ l.base + i ∧ l.base + i < o + vs.length)) :
    Rel N w0 lo ng r σ w' where
  obj k a hk := by
    obtain ⟨l, x, y, z⟩ := h.obj k a hk
    refine ⟨l, x, by rw [hw.size]; exact y, ?_⟩
    by_cases e : l.blk = B
    · obtain ⟨hrow, hno⟩ := hfree k a l hk x e
      cases a with
      | cells c s =>
        refine ⟨fun i v hv => ?_, fun i h1 h2 => ?_, fun ht => ?_⟩
        · obtain ⟨v', p, q⟩ := z.1 i v hv
          refine ⟨v', ?_, q⟩
          have hi : i < c.length := by
            rcases Nat.lt_or_ge i c.length with hi | hi
            · exact hi
            · rw [List.getElem?_eq_none hi] at hv; cases hv
          unfold Loc.at at p ⊢
          rw [e] at p ⊢
          rw [hw.cell, if_neg (hno i (by simp only [extent]; omega))]
          exact p
        · obtain ⟨v', p⟩ := z.2.1 i h1 h2
          refine ⟨v', ?_⟩
          unfold Loc.at at p ⊢
          rw [e] at p ⊢
          rw [hw.cell, if_neg (hno i (by simp only [extent]; omega))]
          exact p
        · simp only [isRow, decide_eq_true_eq] at hrow; omega
      | _ => cases hrow
    · exact z.block (hw.block _ e)
  own k a l hk hl hlo := by
    obtain ⟨x, y⟩ := h.own k a l hk hl hlo
    refine ⟨x, fun hi => ?_⟩
    by_cases e : l.blk = B
    · intro c t f hc
      rw [e] at hc
      obtain ⟨c', t', h1, h2⟩ := hw.row c t f hc
      have := y hi c' t' f (by rw [e]; exact h1)
      rw [h2] at this; exact this
    · exact (y hi).block (hw.block _ e)
  sep := h.sep
  new := h.new
  glob := h.glob
  low := h.low
  lon := h.lon
  base := h.base
  keep := h.keep.trans ⟨hw.os, hw.tape, hw.output, by rw [hw.size]; exact Nat.le_refl _, fun k hk => hw.block k (by omega)⟩

/-- another object in place of one that nothing of the state describes. -/
theorem Rel.setObj (h : Rel N w0 lo ng r σ w) {B : Nat} (o : Obj) (hB : N ≤ B) (hfree : ∀ k a l, σ.heap.get k = some a → r k = some l → l.blk ≠ B) :
    Rel N w0 lo ng r σ { w with heap := w.heap.setIfInBounds B o } where
  obj k a hk := by
    obtain ⟨l, x, y, z⟩ := h.obj k a hk
    exact ⟨l, x, by simpa using y, z.block (by simp only [Array.getElem?_setIfInBounds]; rw [if_neg (fun e => hfree k a l hk x e.symm)])⟩
  own k a l hk hl hlo := by
    obtain ⟨x, y⟩ := h.own k a l hk hl hlo
    exact ⟨x, fun hi => (y hi).block (by simp only [Array.getElem?_setIfInBounds]; rw [if_neg (fun e => hfree k a l hk hl e.symm)])⟩
  sep := h.sep
  new := h.new
  glob := h.glob
  low := h.low
  lon := h.lon
  base := h.base
  keep := h.keep.trans ⟨rfl, rfl, rfl, by simp, fun k hk => by
    simp only [Array.getElem?_setIfInBounds]; rw [if_neg (by omega)]⟩
end
end Go.Abs
