/- A part of the abstract runs: the program is run over an abstract heap; what holds there holds in every world that looks so. Conditions: none. -/
import Derived.Test.YthglnebobkpioaaGreatDoorAbsLay
namespace Go.Abs
open Go Go.RowKit

/-- the world has grown, and nothing that there was has changed. -/
theorem Rel.grown {N : Nat} {w0 : World} {lo ng : Nat} {r : Ren} {σ : AW} {w w' : World} (h : Rel N w0 lo ng r σ w) (hb : Below w.heap.size w w') : Rel N w0 lo ng r σ w' where
  obj b o hk := by
    obtain ⟨l, x, y, z⟩ := h.obj b o hk
    exact ⟨l, x, Nat.lt_of_lt_of_le y hb.size, z.block (hb.block _ y)⟩
  own b o l hk hl hlo := by
    obtain ⟨x, y⟩ := h.own b o l hk hl hlo
    obtain ⟨l', x', y', z'⟩ := h.obj b o hk
    rw [hl] at x'; cases x'
    exact ⟨x, fun hi => (y hi).block (hb.block _ y')⟩
  sep := h.sep
  new := h.new
  glob := h.glob
  low := h.low
  lon := h.lon
  base := h.base
  keep := h.keep.trans (hb.mono (by have h1 := h.keep.size; have h2 := h.base; omega))

theorem After.grown {N : Nat} {w0 : World} {lo ng : Nat} {r : Ren} {σ : AW} {w w' : World} (h : Rel N w0 lo ng r σ w) (hb : Below w.heap.size w w') : After N w0 lo ng r σ r σ w' :=
  ⟨.refl r, h.grown hb, rfl, fun _ _ _ => rfl, Nat.le_refl _⟩

/-- any world is one of no state. -/
theorem rel0 (w : World) (ng : Nat) : Rel w.heap.size w 0 ng (names0 ng) (state0 ng) w where
  obj b o h := by rw [show (state0 ng).heap.get b = none from Tr.get_leaf b] at h; cases h
  own b o l h := by rw [show (state0 ng).heap.get b = none from Tr.get_leaf b] at h; cases h
  sep b b' o o' l l' _ _ h := by rw [show (state0 ng).heap.get b = none from Tr.get_leaf b] at h; cases h
  new b h := ⟨by unfold names0; rw [if_neg (by have : ng ≤ b := h; omega)], Tr.get_leaf b⟩
  glob g h := by unfold names0; rw [if_pos h]
  low b h := by omega
  lon := Nat.zero_le _
  base := Nat.le_refl _
  keep := Below.refl _ _

/-- a closed call that comes to a value comes to it in every world, and leaves what there is. -/
theorem closed_call {E : Env} (hE : EnvOk E) {n f : Nat} {args : List Value} {v : Value} (hargs : args.all cl = true) (hv : cl v = true) (h : (call? E n f args (state0 E.nglob)).map (·.1) = some v) (w : World) :
    Calls E.P f args.toArray w fun e w' => e = .returned v ∧ Below w.heap.size w w' := by
  cases hc : call? E n f args (state0 E.nglob) with
  | none => rw [hc] at h; cases h
  | some p =>
    obtain ⟨v', σ'⟩ := p
    rw [hc] at h
    simp only [Option.map_some, Option.some.injEq] at h
    subst h
    refine ((both_sound hE n).2.1 f args (state0 E.nglob) v' σ' hc w.heap.size w 0 _ w args (rel0 w E.nglob) (VL.refl_cl hargs)).mono ?_
    rintro e w' ⟨r', v'', rfl, haft, hvr⟩
    exact ⟨by rw [VR.cl_eq hv hvr], haft.rel.keep⟩

/-- a call that only tells. -/
def Tells (P : Program) (f : Nat) (v : Value) : Prop := ∀ w, Calls P f #[] w fun e w' => e = .returned v ∧ Below w.heap.size w w'

def pTell (v : Value) : List Value → AW → Option (Value × AW)
  | [], σ => some (v, σ)
  | _, _ => none

/-- what is asked of a call that is answered by a law of its own. -/
def PrimSound (P : Program) (ng f : Nat) (p : List Value → AW → Option (Value × AW)) : Prop :=
  ∀ (args : List Value) (σ : AW) (v : Value) (σ' : AW), p args σ = some (v, σ') → ∀ (N : Nat) (w0 : World) (lo : Nat) (r : Ren) (w : World) (args' : List Value), Rel N w0 lo ng r σ w → VL r args args' →
    Calls P f args'.toArray w fun e w' => ∃ r' v', e = .returned v' ∧ After N w0 lo ng r σ r' σ' w' ∧ VR r' v v'

theorem pTell_sound {P : Program} {ng f : Nat} {v : Value} (hv : cl v = true) (h : Tells P f v) : PrimSound P ng f (pTell v) := by
  intro args σ v' σ' hp N w0 lo r w args' hR hvl
  unfold pTell at hp
  split at hp
  · cases hp
    rw [hvl.nil_inv]
    refine (h w).mono ?_
    rintro e w' ⟨rfl, hb⟩
    exact ⟨r, v, rfl, After.grown hR hb, VR.cl hv⟩
  · cases hp

/-- a law: whatever comes in, it answers true. -/
theorem law_calls {H : Type} {enc : TypeId × Value → H} {E : Env} (hE : EnvOk E) {f : Nat} {ts : List TypeId} {d : Nat} (hts : ∀ t ∈ ts, argTy E.P d t = true)
    (hG : ∀ (os : List (Option AObj)) (vs : List Value), AVals E.P d E.nglob ts vs os → G E f vs ((state0 E.nglob).lays os).shut fun v _ => v = .bool true)
    {W : World} {base : Nat} {args : Array Value} {ds : List (DataW H)} {ps : List MemPlace} (hA : DataW.TrodAll enc E.P W 0 (fun _ => true) true ts args.toList ds ps)
    (hok : ∀ (j : Nat) t v, ts[j]? = some t → args[j]? = some v → Value.okWide E.P W .any base t v) :
    Calls E.P f args W fun e W' => e = .returned (.bool true) ∧ Below W.heap.size W W' := by
  obtain ⟨r, os, vs, hN, hg, hv, ha⟩ := lay_args (ng := E.nglob) ts args.toList ds ps hts hA (fun j t v h1 h2 => hok j t v h1 (by rw [← Array.getElem?_toList]; exact h2)) (names0 E.nglob) (state0 E.nglob) (names0_ok W E.nglob)
  have := G.sound hE (hG os vs ha) hN.rel hv
  rw [show args.toList.toArray = args from rfl] at this
  refine this.mono ?_
  rintro e w' ⟨v, σ', r', v', rfl, rfl, haft, hvr⟩
  exact ⟨by rw [inv_bool hvr], haft.rel.keep⟩
end Go.Abs
