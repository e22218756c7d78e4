/-
  A law's row: the post of a law that answers true and leaves what there was, from its evaluation over the laid arguments. No program in sight.
-/
import Derived.Test.YthglnebobkpioaaGreatDoorAbsQuiet
import Derived.Carry
import Derived.ChangeOld
import Derived.OpenShut
import Derived.SizedLaws
namespace Go.Abs
open Go.RowKit Go.ChangeShapes

theorem trodAll_length {H : Type} {enc : TypeId × Value → H} {P : Program} {W : World} {base : Nat} {spare : Nat → Bool} {held : Bool} :
    ∀ (ts : List TypeId) {vs : List Value} {ds : List (DataW H)} {ps : List MemPlace}, DataW.TrodAll enc P W base spare held ts vs ds ps → ds.length = ts.length
  | [], _, _, _, h => by obtain ⟨_, rfl, _⟩ := trodAll_nil h; rfl
  | t :: ts, vs, ds, ps, h => by
    obtain ⟨v, vs', d, ds', p, q, rfl, rfl, rfl, _, hq⟩ := trodAll_cons h
    simp [trodAll_length ts hq]

theorem trodAll_below {H : Type} {enc : TypeId × Value → H} {P : Program} (hl : laidOutB P = true) {W W' : World} (hb : Below W.heap.size W W') :
    ∀ (ts : List TypeId) {vs : List Value} {ds : List (DataW H)} {ps : List MemPlace}, (∀ t ∈ ts, P.readableRec t = true ∧ t < P.types.size) →
      DataW.TrodAll enc P W 0 (fun _ => true) true ts vs ds ps → DataW.TrodAll enc P W' 0 (fun b => decide (b < W.heap.size)) true ts vs ds ps
  | [], _, _, _, _, h => by obtain ⟨rfl, rfl, rfl⟩ := trodAll_nil h; exact trodAll_mk0
  | t :: ts, vs, ds, ps, hr, h => by
    obtain ⟨v, vs', d, ds', p, q, rfl, rfl, rfl, hd, hq⟩ := trodAll_cons h
    have hlt : ∀ x ∈ p, x.block < W.heap.size := by
      obtain ⟨m, hm⟩ := hd
      exact DataW.trod_lt m _ _ _ hm
    exact trodAll_cons_mk (Below.trod hl (hr t (List.mem_cons_self ..)).1 (hr t (List.mem_cons_self ..)).2 hd hb hlt)
      (trodAll_below hl hb ts (fun t' h' => hr t' (List.mem_cons_of_mem _ h')) hq)

/-- The law's post, from its evaluation. -/
theorem law_post {H : Type} {enc : TypeId × Value → H} {E : Env} (hE : EnvOk E) {f : Nat} {fn : Func} {ts : List TypeId} {d : Nat} {t : TypeId} {s : ChangeSpec}
    (hl : laidOutB E.P = true) (hp : fn.params.toList = ts) (hr : fn.resultTypes.toList = [t]) (ht : E.P.underlying t = some .bool)
    (hts : (ts.all fun t => argTy E.P d t && E.P.readableRec t && decide (t < E.P.types.size)) = true)
    (hvars : s.vars = []) (hfn : ∀ ds : List (DataW H), ds.length = ts.length → s.fn H ds = { results := [.lit (.bool true)], args := ds })
    (hG : ∀ (os : List (Option AObj)) (vs : List Value), AVals E.P d E.nglob ts vs os → G E f vs ((state0 E.nglob).lays os).shut fun v _ => v = .bool true)
    {W : World} {base : Nat} {args : Array Value} {ds gs : List (DataW H)} {before : List MemPlace}
    (hval : ∀ (j : Nat) t v, fn.params[j]? = some t → args[j]? = some v → Value.okWide E.P W .any base t v)
    (hW : DataW.Whole enc E.P fn.params.toList s.vars false W args.toList ds gs before) :
    Calls E.P f args W fun e W' => ∃ v, e = .returned v ∧ s.post enc E.P fn false true false false W args v W' := by
  have hW' := hW
  obtain ⟨p, q, hA, hV, rfl, hfz, hnd⟩ := hW
  rw [hvars] at hV
  obtain ⟨rfl, rfl⟩ := trodVars_none hV
  have hts' : ∀ t ∈ ts, argTy E.P d t = true ∧ E.P.readableRec t = true ∧ t < E.P.types.size := by
    intro t ht
    have := List.all_eq_true.1 hts t ht
    simp only [Bool.and_eq_true, decide_eq_true_eq] at this
    exact ⟨this.1.1, this.1.2, this.2⟩
  have hA' := hA
  rw [hp] at hA'
  have hlen := trodAll_length ts hA'
  refine (law_calls hE (fun t h => (hts' t h).1) hG hA' (base := base) (fun j t v h1 h2 => hval j t v (by rw [← Array.getElem?_toList, hp]; exact h1) h2)).mono ?_
  rintro e W' ⟨rfl, bel⟩
  refine ⟨_, rfl, ds, [], _, [], p, [], hW', ?_, ?_, ?_, bel.frame _, fun h => by cases h⟩
  · have e1 : fn.resultTypes.size = 1 := by rw [← Array.length_toList, hr]; rfl
    rw [List.append_nil, hfn ds hlen, hr, e1]
    exact trodAll_mk1 (shut_bool ht _)
  · rw [List.append_nil, hfn ds hlen, hp]
    exact trodAll_below hl bel ts (fun t h => (hts' t h).2) hA'
  · rw [List.append_nil, hfn ds hlen, hvars]
    exact rfl
end Go.Abs
