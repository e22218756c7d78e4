/- A part of the abstract runs: the program is run over an abstract heap; what holds there holds in every world that looks so. Conditions: none. -/
import Derived.Test.YthglnebobkpioaaGreatDoorAbsCtl4
import Derived.Lib.Bytealg
namespace Go.Abs
open Go Go.RowKit

/-! ### Functions without a body -/
/-- a function without a body, that an entry of the model's answers. -/
structure ExtAt (P : Program) (f : Nat) (e : Array Value → Sem Value) : Prop where
  out : ∃ fn, P.funcs[f]? = some fn ∧ (fn.name == "runtime.NumGoroutine") = false ∧ fn.body.isNone = true ∧ Extern.findNext fn = none ∧ Extern.find fn = some e

theorem ext_run {P : Program} {f : Nat} {e : Array Value → Sem Value} (h : ExtAt P f e) {args : Array Value} {v : Value} {w w' : World} (hr : (e args).run P w = .ok v w') :
    (callFunc f args).run P w = .ok (.value v) w' := by
  obtain ⟨fn, h1, h2, h3, h4, h5⟩ := h.out
  unfold callFunc
  rw [run_bind' run_program]
  simp only [h1, h2, h3, h4, h5, Bool.false_eq_true, if_false, if_true]
  show ((mark (.extern f) >>= fun _ => _) : Sem Next).run P w = _
  rw [run_bind' (show (mark (.extern f)).run P w = .ok () w from rfl)]
  exact run_v hr

abbrev AExt := List Value → AW → Option (Value × AW)

/-- what an entry of the model's is for the state. -/
def ExtSound (E : Env) (p : AExt) (e : Array Value → Sem Value) : Prop :=
  ∀ (args : List Value) (σ : AW) (v : Value) (σ' : AW), p args σ = some (v, σ') → ∀ (N : Nat) (w0 : World) (lo : Nat) (r : Ren) (w : World) (args' : List Value), Rel N w0 lo E.nglob r σ w → VL r args args' →
    ∃ r' v' w', (e args'.toArray).run E.P w = .ok v' w' ∧ After N w0 lo E.nglob r σ r' σ' w' ∧ VR r' v v'

def xSame : AExt
  | [x], σ => some (x, σ)
  | _, _ => none

theorem xSame_sound {E : Env} : ExtSound E xSame Extern.AbiNoEscape.same := by
  intro args σ v σ' h N w0 lo r w args' hR hv
  unfold xSame at h
  split at h
  · cases h
    obtain ⟨x', l, rfl, h1, h2⟩ := hv.cons_inv
    rw [h2.nil_inv]
    exact ⟨r, x', w, rfl, .refl hR, h1⟩
  · cases h

def bytesOfI (ns : List Int) : List UInt8 := ns.map fun n => UInt8.ofNat n.toNat

def xIndexByte : AExt
  | [.string s, .int .u8 c], σ => some (.int .i64 (Lib.indexByte s.data.toList c.toNat.toUInt8), σ)
  | [.slice ad n cp, .int .u8 c], σ => match (firstCells? σ 1 n (.slice ad n cp)).bind bytes? with
    | some ns => some (.int .i64 (Lib.indexByte (bytesOfI ns) c.toNat.toUInt8), σ)
    | none => none
  | _, _ => none

theorem extLoadBytes_run {P : Program} {w : World} {B : Nat} : ∀ (ns : List Int) (o : Nat) (acc : ByteArray), (∀ j x, ns[j]? = some x → w.cell? ⟨B, o + j, none⟩ = some (.int .u8 x)) →
    (Extern.Bytes.loadBytes ⟨B, o, none⟩ ns.length acc).run P w = .ok (ns.foldl (fun r n => r.push (UInt8.ofNat n.toNat)) acc) w := by
  intro ns
  induction ns with
  | nil => intro o acc _; rfl
  | cons n ns ih =>
    intro o acc h
    have h0 := h 0 n rfl
    rw [Nat.add_zero] at h0
    show (Extern.Bytes.loadBytes ⟨B, o, none⟩ (ns.length + 1) acc).run P w = _
    unfold Extern.Bytes.loadBytes
    rw [run_bind' (run_load P w _ _ h0)]
    simp only []
    rw [addr_add]
    exact ih (o + 1) _ (fun j x hj => by have := h (j + 1) x (by simpa using hj); rw [← this]; congr 2; omega)

/-- the bytes of a slice that is known. -/
theorem bytes_cells {N : Nat} {w0 : World} {lo ng : Nat} {r : Ren} {σ : AW} {w : World} (hR : Rel N w0 lo ng r σ w) {ad : Option Addr} {n cp : Nat} {v' : Value} (hv : VR r (.slice ad n cp) v') {ns : List Int}
    (h : (firstCells? σ 1 n (.slice ad n cp)).bind bytes? = some ns) : ∃ ad' cp', v' = .slice ad' n cp' ∧
      ((ad' = none ∧ ns = []) ∨ ∃ B o, ad' = some ⟨B, o, none⟩ ∧ ns.length = n ∧ ∀ j x, ns[j]? = some x → w.cell? ⟨B, o + j, none⟩ = some (.int .u8 x)) := by
  cases ad with
  | none =>
    rw [inv_sliceNil hv]
    refine ⟨_, _, rfl, .inl ⟨rfl, ?_⟩⟩
    simp [firstCells?, bytes?] at h
    exact h
  | some ad =>
    obtain ⟨b, o, l, rfl, hl, rfl⟩ := inv_slice hv
    refine ⟨_, _, rfl, .inr ⟨l.blk, l.base + o, rfl, ?_⟩⟩
    cases hfc : firstCells? σ 1 n (.slice (some ⟨b, o, none⟩) n cp) with
    | none => rw [hfc] at h; cases h
    | some cs =>
      rw [hfc] at h
      have hcs := bytes?_map h
      unfold firstCells? at hfc
      simp only at hfc
      split at hfc
      · rename_i c s hc
        obtain ⟨l', hl', hrow⟩ := (hR.blk b).row hc
        rw [hl] at hl'; cases hl'
        obtain ⟨vs', hvl, hvn, hcell⟩ := take_read hrow hfc
        have hcl : vs' = cs := VL.cl_eq (by rw [hcs, List.all_eq_true]; intro y hy; obtain ⟨b, _, rfl⟩ := List.mem_map.1 hy; rfl) hvl
        subst hcl
        refine ⟨by rw [hcs, List.length_map] at hvn; omega, fun j x hj => ?_⟩
        have := hcell j (.int .u8 x) (by rw [hcs, List.getElem?_map, hj]; rfl)
        rw [← this]; unfold Loc.at; congr 2; omega
      · cases hfc

theorem bytesOf_run {N : Nat} {w0 : World} {lo ng : Nat} {r : Ren} {σ : AW} {w : World} {P : Program} (hR : Rel N w0 lo ng r σ w) {ad : Option Addr} {n cp : Nat} {v' : Value} (hv : VR r (.slice ad n cp) v') {ns : List Int}
    (h : (firstCells? σ 1 n (.slice ad n cp)).bind bytes? = some ns) : (Extern.Bytes.bytesOf v').run P w = .ok ⟨(bytesOfI ns).toArray⟩ w := by
  obtain ⟨ad', cp', rfl, ⟨rfl, rfl⟩ | ⟨B, o, rfl, rfl, hc⟩⟩ := bytes_cells hR hv h
  · rfl
  · show (Extern.Bytes.loadBytes ⟨B, o, none⟩ ns.length .empty).run P w = _
    rw [extLoadBytes_run ns o .empty hc, foldl_push]
    congr 2
    simp [bytesOfI]

theorem xIndexByte_sound {E : Env} : ExtSound E xIndexByte Extern.BytealgIndexByte.indexByte := by
  intro args σ v σ' h N w0 lo r w args' hR hv
  unfold xIndexByte at h
  split at h
  · rename_i s c
    cases h
    obtain ⟨x', l, rfl, h1, h2⟩ := hv.cons_inv
    obtain ⟨y', l', rfl, h3, h4⟩ := h2.cons_inv
    rw [h4.nil_inv, inv_str h1, inv_int h3]
    exact ⟨r, _, w, Lib.run_indexByteString _ _ _, .refl hR, .int _ _⟩
  · rename_i ad n cp c
    split at h
    · rename_i ns hb
      cases h
      obtain ⟨x', l, rfl, h1, h2⟩ := hv.cons_inv
      obtain ⟨y', l', rfl, h3, h4⟩ := h2.cons_inv
      rw [h4.nil_inv, inv_int h3]
      refine ⟨r, _, w, ?_, .refl hR, .int _ _⟩
      have hs := Lib.run_indexByteString (P := E.P) ⟨(bytesOfI ns).toArray⟩ c w
      have hb2 := bytesOf_run (P := E.P) hR h1 hb
      change Sem.run E.P (do
        let b ← Extern.Bytes.bytesOf x'
        let c ← Extern.Bytes.asByte (.int .u8 c)
        match (List.range b.size).find? fun i => b[i]! == c with
        | some i => pure (goInt i)
        | none => pure (goInt (-1))) w = _
      rw [run_bind' hb2]
      exact hs
    · cases h
  · cases h

/-- bytes that are not told: none of them is known. -/
def xMakeNoZero (elem : TypeId) : AExt
  | [.int .i64 n], σ => if 0 ≤ n ∧ n ≤ 2 ^ 40 then some (.slice (some ⟨σ.next, 0, none⟩) n.toNat OPEN, σ.alloc (.cells [] (tagOf elem 1))) else none
  | _, _ => none

theorem digits_size : ∀ (n t : Nat) (acc : Array Value), (Extern.BytealgMakeNoZero.digits n t acc).size = acc.size + n := by
  intro n
  induction n with
  | zero => intro t acc; rfl
  | succ n ih => intro t acc; unfold Extern.BytealgMakeNoZero.digits; rw [ih]; simp; omega

theorem xMakeNoZero_sound {E : Env} {ps rs : Array TypeId} {T elem : TypeId} (hT : rs[0]? = some T) (hd : E.P.underlying T = some (.slice elem)) : ExtSound E (xMakeNoZero elem) (Extern.BytealgMakeNoZero.makeNoZero ps rs) := by
  intro args σ v σ' h N w0 lo r w args' hR hv
  unfold xMakeNoZero at h
  split at h
  · rename_i n
    split at h
    · rename_i hn
      cases h
      obtain ⟨x', l, rfl, h1, h2⟩ := hv.cons_inv
      rw [h2.nil_inv, inv_int h1]
      obtain ⟨ex, hch⟩ := run_choose_cap (P := E.P) (w := w) (need := n.toNat) (old := 0) (elem := elem)
      have hR1 := hR.drawn (w.drawn + 1)
      generalize hw1 : ({ w with drawn := w.drawn + 1 } : World) = w1 at hch hR1
      have hR2 := hR1.drawn (w1.drawn + 1)
      obtain ⟨y, hy⟩ : ∃ y, (choose (.extern "internal/bytealg.MakeNoZero.bytes" 0)).run E.P w1 = .ok y { w1 with drawn := w1.drawn + 1 } := ⟨_, rfl⟩
      generalize hw2 : ({ w1 with drawn := w1.drawn + 1 } : World) = w2 at hy hR2
      have hsz := digits_size (n.toNat + ex) y #[]
      generalize hds : Extern.BytealgMakeNoZero.digits (n.toNat + ex) y #[] = ds at hsz
      have haft := hR2.newRow elem [] ds.toList (tagOf elem 1) (n.toNat + ex) (0, 0) (by simpa using VL.nil) (by
        rw [tagOf_size _ _ (by decide)]; simp at hsz ⊢; exact hsz) (.inl rfl) (fun _ => ⟨tagOf_elem _ _ (by decide), rfl⟩)
      have hsame : w2.heap = w.heap := by rw [← hw2, ← hw1]
      refine ⟨_, .slice (some ⟨w2.heap.size, 0, none⟩) n.toNat (n.toNat + ex), _, ?_, ⟨haft.le, haft.rel, haft.prot, haft.same, haft.next⟩, ?_⟩
      · delta Extern.BytealgMakeNoZero.makeNoZero
        dsimp only
        rw [hT]
        show Sem.run E.P (underlying T >>= _) w = _
        rw [run_bind' (run_underlying hd)]
        dsimp only
        have h3 : ¬ (n < 0) := by omega
        have h4 : ¬ (n > 2 ^ 48) := by omega
        simp only [h3, h4, decide_false, Bool.or_false, Bool.false_eq_true, if_false]
        rw [run_bind' hch]
        have hask : (askRoom (n.toNat + ex)).run E.P w1 = .ok () w1 := by
          unfold askRoom; split <;> rfl
        rw [run_bind' hask, run_bind' hy, hds]
        rw [run_bind' (m := newRow elem ds) (x := ⟨w2.heap.size, 0, none⟩) (w' := { w2 with heap := w2.heap.push (.cells ds.toList.toArray elem (0, 0)) }) (by rfl)]
        rfl
      · have := VR.slice (r := bindR r σ.next ⟨w2.heap.size, 0, n.toNat + ex⟩) (b := σ.next) (o := 0) (n := n.toNat) (c := OPEN) (l := ⟨w2.heap.size, 0, n.toNat + ex⟩) (by unfold bindR; rw [if_pos rfl])
        have hcap : capR ⟨w2.heap.size, 0, n.toNat + ex⟩ OPEN = n.toNat + ex := by unfold capR; rw [if_neg (by omega)]; simp only; omega
        rw [hcap] at this
        exact this
    · cases h
  · cases h
end Go.Abs
