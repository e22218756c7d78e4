/- A part of the abstract runs: the program is run over an abstract heap; what holds there holds in every world that looks so. Conditions: none. -/
import Derived.Test.YthglnebobkpioaaGreatDoorAbsRop2
namespace Go.Abs
open Go Go.RowKit
section
variable {E : Env} {r : Ren} {t : AT} {a : Act} {σ : AW}

theorem natOf_inv {v v' : Value} {n : Nat} (hv : VR r v v') (h : natOf v = some n) : ∃ k : IntKind, v' = .int k (n : Int) := by
  unfold natOf at h
  split at h
  · rename_i k m
    split at h
    · rename_i h0
      cases h
      cases hv
      exact ⟨k, by rw [Int.toNat_of_nonneg h0]⟩
    · cases h
  · cases h

theorem run_asIntOf {P : Program} {k : IntKind} {n : Int} {w : World} : (asIntOf (.int k n)).run P w = .ok (k, n) w := rfl

theorem sliceBound_run {P : Program} {k : IntKind} {n y : Nat} {code : BoundsCode} (h : n ≤ y) (w : World) : (Instr.sliceBound (.int k (n : Int)) y code).run P w = .ok n w := by
  unfold Instr.sliceBound
  rw [run_bind' run_asIntOf]
  simp only [Int.natCast_nonneg, Int.ofNat_le, h, and_self, if_true, Int.toNat_natCast]
  rfl

/-- an operand that may be missing. -/
inductive OR (r : Ren) : Option Value → Option Value → Prop where
  | none : OR r none none
  | some {v v' : Value} (h : VR r v v') : OR r (some v) (some v')

/-- the bounds of a slice expression without a third index. -/
theorem bounds2_run {P : Program} {sl : Bool} {len cap l h : Nat} {lo hi : Option Value} {w : World}
    (hh : (hi = none ∧ h = len) ∨ ∃ k : IntKind, hi = some (.int k (h : Int)) ∧ h ≤ cap)
    (hl : (lo = none ∧ l = 0) ∨ ∃ k : IntKind, lo = some (.int k (l : Int)) ∧ l ≤ h) :
    (Instr.sliceBounds sl len cap lo hi none).run P w = .ok (l, h, cap) w := by
  unfold Instr.sliceBounds
  rcases hh with ⟨rfl, rfl⟩ | ⟨k, rfl, hle⟩
  · rcases hl with ⟨rfl, rfl⟩ | ⟨k', rfl, hle'⟩
    · rfl
    · rw [run_bind' (run_pure cap), run_bind' (run_pure h)]
      show ((Instr.sliceBound (.int k' (l : Int)) h .sliceB >>= _) : Sem _).run P w = _
      rw [run_bind' (sliceBound_run hle' w)]; rfl
  · rcases hl with ⟨rfl, rfl⟩ | ⟨k', rfl, hle'⟩
    · rw [run_bind' (run_pure cap)]
      show ((Instr.sliceBound (.int k (h : Int)) cap _ >>= _) : Sem _).run P w = _
      rw [run_bind' (sliceBound_run hle w)]; rfl
    · rw [run_bind' (run_pure cap)]
      show ((Instr.sliceBound (.int k (h : Int)) cap _ >>= _) : Sem _).run P w = _
      rw [run_bind' (sliceBound_run hle w)]
      show ((Instr.sliceBound (.int k' (l : Int)) h _ >>= _) : Sem _).run P w = _
      rw [run_bind' (sliceBound_run hle' w)]; rfl

/-- .. with a third index. -/
theorem bounds3_run {P : Program} {len cap l h m : Nat} {lo hi : Option Value} {mx : Value} {w : World} {km : IntKind} (hm : mx = .int km (m : Int)) (hmc : m ≤ cap)
    (hh : ∃ k : IntKind, hi = some (.int k (h : Int)) ∧ h ≤ m)
    (hl : (lo = none ∧ l = 0) ∨ ∃ k : IntKind, lo = some (.int k (l : Int)) ∧ l ≤ h) :
    (Instr.sliceBounds true len cap lo hi (some mx)).run P w = .ok (l, h, m) w := by
  unfold Instr.sliceBounds
  subst hm
  obtain ⟨k, rfl, hle⟩ := hh
  simp only [Option.isSome_some, if_true]
  rcases hl with ⟨rfl, rfl⟩ | ⟨k', rfl, hle'⟩
  · rw [run_bind' (sliceBound_run hmc w), run_bind' (sliceBound_run hle w)]; rfl
  · rw [run_bind' (sliceBound_run hmc w), run_bind' (sliceBound_run hle w), run_bind' (sliceBound_run hle' w)]; rfl

theorem rop_move {dst type pos after guard} {x : Operand} {v : Value} {bs : List Nat} (hf : Fr E r t a) (h : rop E t σ ⟨dst, .move x, type, pos, after, guard⟩ = some (v, bs)) :
    Reads E a ⟨dst, .move x, type, pos, after, guard⟩ r σ v bs := by
  simp only [rop] at h
  cases hx : val E t x with
  | none => rw [hx] at h; cases h
  | some p => rw [hx] at h; cases h; exact ⟨_, hf.val hx, fun w _ => rfl⟩

theorem rop_assign {dst type pos after guard} {x : Operand} {v : Value} {bs : List Nat} (hf : Fr E r t a) (h : rop E t σ ⟨dst, .assign x, type, pos, after, guard⟩ = some (v, bs)) :
    Reads E a ⟨dst, .assign x, type, pos, after, guard⟩ r σ v bs := by
  simp only [rop] at h
  cases hx : val E t x with
  | none => rw [hx] at h; cases h
  | some p => rw [hx] at h; cases h; exact ⟨_, hf.val hx, fun w _ => rfl⟩

theorem rop_pick {dst type pos after guard} {c x y : Operand} {v : Value} {bs : List Nat} (hf : Fr E r t a) (h : rop E t σ ⟨dst, .pick c x y, type, pos, after, guard⟩ = some (v, bs)) :
    Reads E a ⟨dst, .pick c x y, type, pos, after, guard⟩ r σ v bs := by
  simp only [rop] at h
  cases hc : val E t c with
  | none => rw [hc] at h; cases h
  | some p =>
    have hv := hf.val hc
    have key : ∀ (b : Bool) (z : Operand), a.eval c = .bool b → a.eval z = (if b then a.eval x else a.eval y) → ∀ w, (execOp a.eval ⟨dst, .pick c x y, type, pos, after, guard⟩).run E.P w = .ok (.value (a.eval z)) w := by
      intro b z hb hz w
      show ((asBool (a.eval c) >>= fun b => pure (.value (if b then a.eval x else a.eval y))) : Sem Next).run E.P w = _
      rw [hb, hz]; rfl
    rw [hc] at h
    split at h
    · rename_i e; cases e
      cases hx : val E t x with
      | none => rw [hx] at h; cases h
      | some q => rw [hx] at h; cases h; exact ⟨_, hf.val hx, fun w _ => key true x (VR.cl_eq rfl hv) rfl w⟩
    · rename_i e; cases e
      cases hx : val E t y with
      | none => rw [hx] at h; cases h
      | some q => rw [hx] at h; cases h; exact ⟨_, hf.val hx, fun w _ => key false y (VR.cl_eq rfl hv) rfl w⟩
    · cases h

theorem inv_ptr {ad : Addr} {v' : Value} (h : VR r (.pointer (some ad)) v') : ∃ b o l, ad = ⟨b, o, none⟩ ∧ r b = some l ∧ v' = .pointer (some (l.at o)) := by
  cases h with | ptr h => exact ⟨_, _, _, rfl, h, rfl⟩
theorem inv_int {k : IntKind} {n : Int} {v' : Value} (h : VR r (.int k n) v') : v' = .int k n := by cases h; rfl
theorem inv_str {s : ByteArray} {v' : Value} (h : VR r (.string s) v') : v' = .string s := by cases h; rfl
theorem inv_iface {T : TypeId} {v v' : Value} (h : VR r (.iface T v) v') : ∃ x, v' = .iface T x ∧ VR r v x := by cases h with | iface _ h => exact ⟨_, rfl, h⟩
theorem inv_nilIface {v' : Value} (h : VR r .nilIface v') : v' = .nilIface := by cases h; rfl
theorem inv_agg {cs : Array Value} {v' : Value} (h : VR r (.agg cs) v') : ∃ cs', v' = .agg cs' ∧ VL r cs.toList cs'.toList := by cases h with | agg a b => exact ⟨_, rfl, a, b⟩
theorem inv_tuple {cs : Array Value} {v' : Value} (h : VR r (.tuple cs) v') : ∃ cs', v' = .tuple cs' ∧ VL r cs.toList cs'.toList := by cases h with | tuple a b => exact ⟨_, rfl, a, b⟩
theorem inv_slice {ad : Addr} {n c : Nat} {v' : Value} (h : VR r (.slice (some ad) n c) v') : ∃ b o l, ad = ⟨b, o, none⟩ ∧ r b = some l ∧ v' = .slice (some (l.at o)) n (capR l c) := by
  cases h with | slice h => exact ⟨_, _, _, rfl, h, rfl⟩
theorem inv_sliceNil {n c : Nat} {v' : Value} (h : VR r (.slice none n c) v') : v' = .slice none n c := by cases h; rfl
theorem inv_map {b : Nat} {v' : Value} (h : VR r (.map (some b)) v') : ∃ l, r b = some l ∧ v' = .map (some l.blk) := by cases h with | map h => exact ⟨_, h, rfl⟩
theorem inv_mapNil {v' : Value} (h : VR r (.map none) v') : v' = .map none := by cases h; rfl
theorem inv_func {fn : Fn} {f c : Array Value} {v' : Value} (h : VR r (.func fn f c) v') : ∃ f' c', v' = .func fn f' c' ∧ VL r f.toList f'.toList ∧ VL r c.toList c'.toList := by
  cases h with | func _ a b c d => exact ⟨_, _, rfl, ⟨a, c⟩, b, d⟩
theorem inv_bool {b : Bool} {v' : Value} (h : VR r (.bool b) v') : v' = .bool b := by cases h; rfl

theorem rop_load {dst type pos after guard} {ty : TypeId} {x : Operand} {v : Value} {bs : List Nat} {N lo ng : Nat} {w0 w1 : World} (hf : Fr E r t a) (hR : Rel N w0 lo ng r σ w1)
    (h : rop E t σ ⟨dst, .load ty x, type, pos, after, guard⟩ = some (v, bs)) : Reads E a ⟨dst, .load ty x, type, pos, after, guard⟩ r σ v bs := by
  simp only [rop] at h
  cases hx : val E t x with
  | none => rw [hx] at h; cases h
  | some p =>
    have hv := hf.val hx
    rw [hx] at h
    split at h
    · rename_i ad e; cases e
      obtain ⟨b, o, l, rfl, hl, hev⟩ := inv_ptr hv
      cases hq : loadVar? E σ ty ⟨b, o, none⟩ with
      | none => rw [hq] at h; cases h
      | some q =>
        rw [hq] at h; cases h
        obtain ⟨v', hv', hr⟩ := loadVar?_sound hq (hR.blk b) hl
        refine ⟨v', hv', fun w hb => ?_⟩
        show ((Instr.loadAt ty (a.eval x) >>= fun x => pure (.value x)) : Sem Next).run E.P w = _
        rw [hev]
        refine run_v ?_
        unfold Instr.loadAt Instr.sureAddr
        rw [run_bind' (run_pure _)]
        exact hr w (hb b (by simp))
    · cases h

theorem rop_nilCheck {dst type pos after guard} {x : Operand} {v : Value} {bs : List Nat} (hf : Fr E r t a) (h : rop E t σ ⟨dst, .nilCheck x, type, pos, after, guard⟩ = some (v, bs)) :
    Reads E a ⟨dst, .nilCheck x, type, pos, after, guard⟩ r σ v bs := by
  simp only [rop] at h
  cases hx : val E t x with
  | none => rw [hx] at h; cases h
  | some p =>
    have hv := hf.val hx
    rw [hx] at h
    split at h
    · rename_i ad e; cases e; cases h
      obtain ⟨b, o, l, rfl, hl, hev⟩ := inv_ptr hv
      exact ⟨_, hv, fun w _ => by
        show (match a.eval x with | .pointer none | .nilIface | .nilFunc => _ | .func (.method name) first captured => _ | x => _ : Sem Next).run E.P w = _
        rw [hev]; rfl⟩
    · rename_i T y e; cases e; cases h
      obtain ⟨z, hev, _⟩ := inv_iface hv
      exact ⟨_, hv, fun w _ => by
        show (match a.eval x with | .pointer none | .nilIface | .nilFunc => _ | .func (.method name) first captured => _ | x => _ : Sem Next).run E.P w = _
        rw [hev]; rfl⟩
    · rename_i f p q e; cases e; cases h
      obtain ⟨f', c', hev, _, _⟩ := inv_func hv
      exact ⟨_, hv, fun w _ => by
        show (match a.eval x with | .pointer none | .nilIface | .nilFunc => _ | .func (.method name) first captured => _ | x => _ : Sem Next).run E.P w = _
        rw [hev]; rfl⟩
    · cases h

theorem rop_binOp {dst type pos after guard} {op : BinOp} {T T' : TypeId} {x y : Operand} {v : Value} {bs : List Nat} (hf : Fr E r t a) (h : rop E t σ ⟨dst, .binOp op T x y T', type, pos, after, guard⟩ = some (v, bs)) :
    Reads E a ⟨dst, .binOp op T x y T', type, pos, after, guard⟩ r σ v bs := by
  simp only [rop] at h
  cases hx : val E t x with
  | none => rw [hx] at h; cases h
  | some p =>
    cases hy : val E t y with
    | none => rw [hx, hy] at h; cases h
    | some q =>
      rw [hx, hy] at h
      simp only at h
      split at h
      · rename_i hg
        cases hb : bin? E op T p q with
        | none => rw [hb] at h; cases h
        | some z =>
          rw [hb] at h; cases h
          obtain ⟨v', hv, hr⟩ := bin?_sound (hf.val hx) (hf.val hy) hb
          refine ⟨v', hv, fun w _ => ?_⟩
          show (((eqGuard op T x y (a.eval x) (a.eval y) >>= fun _ => binOp op T (a.eval x) (a.eval y)) >>= fun x => pure (.value x)) : Sem Next).run E.P w = _
          refine run_v ?_
          rw [run_bind' (eqGuard_run (hf.val hx) (hf.val hy) hg w)]
          exact hr w
      · cases h

theorem rop_unOp {dst type pos after guard} {op : UnOp} {T : TypeId} {x : Operand} {v : Value} {bs : List Nat} (hf : Fr E r t a) (h : rop E t σ ⟨dst, .unOp op T x, type, pos, after, guard⟩ = some (v, bs)) :
    Reads E a ⟨dst, .unOp op T x, type, pos, after, guard⟩ r σ v bs := by
  simp only [rop] at h
  cases hx : val E t x with
  | none => rw [hx] at h; cases h
  | some p =>
    rw [hx] at h
    simp only at h
    split at h
    · rename_i hc
      cases hb : runC E.P (Op.unary op p) with
      | none => rw [hb] at h; cases h
      | some z =>
        rw [hb] at h; cases h
        obtain ⟨hc', hr⟩ := runC_some hb
        exact ⟨v, VR.cl hc', fun w _ => by
          show ((Op.unary op (a.eval x) >>= fun x => pure (.value x)) : Sem Next).run E.P w = _
          rw [VR.cl_eq hc (hf.val hx)]
          exact run_v (hr w)⟩
    · cases h

theorem convert_str {S T : TypeId} {d : TypeDesc} {s : ByteArray} (h : E.P.underlying S = some d) (h' : E.P.underlying T = some .string) (w : World) : (convert S T (.string s)).run E.P w = .ok (.string s) w := by
  unfold convert
  rw [run_bind' (run_underlying h), run_bind' (run_underlying h')]
  cases d <;> rfl

theorem tag_shape {w : World} {l : Loc} {c : List Value} {s : Nat} (h : ObjAt r w l (.cells c s)) (ht : TAGB ≤ s) :
    l.base = 0 ∧ w.shape? l.blk = some (s / TAGB - 1, c.length + l.ext * spz s) := by
  obtain ⟨h0, c', f, h1, h2, _⟩ := h.2.2 ht
  exact ⟨h0, by unfold World.shape?; rw [h1]; simp only [h2]⟩

theorem viewAt_none {P : Program} {w : World} {b : Nat} {x : TypeId × Nat} (h : w.shape? b = some x) : (viewAt b).run P w = .ok none w := by
  unfold viewAt
  rw [run_bind' (show (shape b).run P w = .ok (w.shape? b) w from rfl), h]
  rfl

theorem seenAt_same {P : Program} {w : World} {a : Addr} {x : TypeId × Nat} (h : w.shape? a.block = some x) : (Conv.seenAt a).run P w = .ok a w := by
  unfold Conv.seenAt
  rw [run_bind' (viewAt_none h)]
  rfl

theorem cellsIn_run {P : Program} {w : World} {b : Nat} {e : TypeId} {n : Nat} (h : w.shape? b = some (e, n)) : (cellsIn b).run P w = .ok (some n) w := by
  unfold cellsIn
  rw [run_bind' (show (shape b).run P w = .ok (w.shape? b) w from rfl), h]
  rfl

theorem variablesAt_run {P : Program} {w : World} {a : Addr} {e u : TypeId} {n m : Nat} (h : w.shape? a.block = some (e, n)) :
    (variablesAt a u m).run P w = .ok (liesAt P P.depth e (n / P.cellsOf e) a.off u m) w := by
  unfold variablesAt
  rw [run_bind' run_program, run_bind' (show (shape a.block).run P w = .ok (w.shape? a.block) w from rfl), h]
  rfl

theorem convPtr?_sound {S T : TypeId} {p : Option Addr} {v q : Value} {bs : List Nat} (hq : VR r (.pointer p) q) (h : convPtr? E σ S T p = some (v, bs)) :
    ∃ v', VR r v v' ∧ ∀ w, (∀ b ∈ bs, BlkR r σ w b) → (convert S T q).run E.P w = .ok v' w := by
  have hconv : ∀ {d d' : TypeDesc} {x : Option Addr} {v' : Value} {w : World}, E.P.underlying S = some d → E.P.underlying T = some d' → ((∃ t, d = .pointer t ∧ d' = .unsafePointer) ∨ (∃ t, d = .unsafePointer ∧ d' = .pointer t)) →
      (Conv.unsafePointer S T (.pointer x)).run E.P w = .ok v' w → (convert S T (.pointer x)).run E.P w = .ok v' w := by
    intro d d' x v' w hS hT hor hrun
    unfold convert
    rw [run_bind' (run_underlying hS), run_bind' (run_underlying hT)]
    rcases hor with ⟨t, rfl, rfl⟩ | ⟨t, rfl, rfl⟩ <;> exact hrun
  unfold convPtr? at h
  split at h
  · rename_i hS hT
    cases h
    have : q = .pointer none := by cases hq; rfl
    subst this
    refine ⟨_, .ptrNil, fun w _ => hconv hS hT (.inl ⟨_, rfl, rfl⟩) ?_⟩
    unfold Conv.unsafePointer
    rw [run_bind' (run_underlying hS), run_bind' (run_underlying hT)]; rfl
  · rename_i hS hT
    cases h
    have : q = .pointer none := by cases hq; rfl
    subst this
    refine ⟨_, .ptrNil, fun w _ => hconv hS hT (.inr ⟨_, rfl, rfl⟩) ?_⟩
    unfold Conv.unsafePointer
    rw [run_bind' (run_underlying hS), run_bind' (run_underlying hT)]; rfl
  · rename_i t a hS hT
    split at h
    · rename_i c s n hc hn
      split at h
      · rename_i hcond
        obtain ⟨hn0, ht, hoff⟩ := hcond
        cases h
        obtain ⟨b, o, l, rfl, hl, rfl⟩ := inv_ptr hq
        refine ⟨_, .ptr hl, fun w hb => hconv hS hT (.inl ⟨_, rfl, rfl⟩) ?_⟩
        obtain ⟨l', hl', hob⟩ := hb b (by simp) _ (cells?_get hc)
        rw [hl] at hl'; cases hl'
        obtain ⟨hb0, hsh⟩ := tag_shape hob ht
        unfold Conv.unsafePointer
        rw [run_bind' (run_underlying hS), run_bind' (run_underlying hT)]
        simp only []
        rw [run_bind' (seenAt_same (a := l.at o) hsh), run_bind' (cellsIn_run (b := (l.at o).block) hsh)]
        simp only []
        rw [run_bind' (sizeOf?_run hn)]
        have h1 : ¬ ((l.at o).off ≥ c.length + l.ext * spz s) := by
          show ¬ (l.base + o ≥ _)
          simp only at hoff
          omega
        simp only [hn0, h1, decide_false, Bool.false_and]
        rfl
      · cases h
    · cases h
  · rename_i u a hS hT
    split at h
    · rename_i c s m hc hsz
      split at h
      · rename_i hcond
        obtain ⟨ht, hs0, hlies⟩ := hcond
        cases h
        obtain ⟨b, o, l, rfl, hl, rfl⟩ := inv_ptr hq
        refine ⟨_, .ptr hl, fun w hb => hconv hS hT (.inr ⟨_, rfl, rfl⟩) ?_⟩
        obtain ⟨l', hl', hob⟩ := hb b (by simp) _ (cells?_get hc)
        rw [hl] at hl'; cases hl'
        obtain ⟨hb0, hsh⟩ := tag_shape hob ht
        rw [hs0, Nat.mul_zero, Nat.add_zero] at hsh
        unfold Conv.unsafePointer
        rw [run_bind' (run_underlying hS), run_bind' (run_underlying hT)]
        simp only []
        rw [run_bind' (seenAt_same (a := l.at o) hsh)]
        rw [run_bind' (sizeOf?_run hsz), run_bind' (variablesAt_run (a := l.at o) hsh)]
        have : (l.at o).off = o := by show l.base + o = o; omega
        rw [this, hlies]
        simp
      · cases h
    · cases h
  · cases h

theorem rop_convert {dst type pos after guard} {S T : TypeId} {x : Operand} {v : Value} {bs : List Nat} (hf : Fr E r t a) (h : rop E t σ ⟨dst, .convert S T x, type, pos, after, guard⟩ = some (v, bs)) :
    Reads E a ⟨dst, .convert S T x, type, pos, after, guard⟩ r σ v bs := by
  simp only [rop] at h
  cases hx : val E t x with
  | none => rw [hx] at h; cases h
  | some p =>
    have hv := hf.val hx
    rw [hx] at h
    split at h
    · rename_i k n e; cases e
      cases hb : runC E.P (convert S T (.int k n)) with
      | none => rw [hb] at h; cases h
      | some z =>
        rw [hb] at h; cases h
        obtain ⟨hc', hr⟩ := runC_some hb
        exact ⟨v, VR.cl hc', fun w _ => by
          show ((convert S T (a.eval x) >>= fun x => pure (.value x)) : Sem Next).run E.P w = _
          rw [inv_int hv]
          exact run_v (hr w)⟩
    · rename_i s e; cases e
      split at h
      · rename_i d hd hd'
        cases h
        exact ⟨_, VR.str s, fun w _ => by
          show ((convert S T (a.eval x) >>= fun x => pure (.value x)) : Sem Next).run E.P w = _
          rw [inv_str hv]
          exact run_v (convert_str hd hd' w)⟩
      · cases h
    · rename_i p e; cases e
      obtain ⟨v', hvr, hrun⟩ := convPtr?_sound hv h
      exact ⟨v', hvr, fun w hb => by
        show ((convert S T (a.eval x) >>= fun x => pure (.value x)) : Sem Next).run E.P w = _
        exact run_v (hrun w hb)⟩
    · cases h

theorem rop_makeInterface {dst type pos after guard} {T : TypeId} {x : Operand} {v : Value} {bs : List Nat} (hf : Fr E r t a) (h : rop E t σ ⟨dst, .makeInterface T x, type, pos, after, guard⟩ = some (v, bs)) :
    Reads E a ⟨dst, .makeInterface T x, type, pos, after, guard⟩ r σ v bs := by
  simp only [rop] at h
  split at h
  · cases h
  · rename_i p d hn hx hd
    cases h
    refine ⟨_, VR.iface T (hf.val hx), fun w _ => ?_⟩
    show ((Instr.makeInterface T (a.eval x) >>= fun x => pure (.value x)) : Sem Next).run E.P w = _
    refine run_v ?_
    unfold Instr.makeInterface
    rw [run_bind' (run_underlying hd)]
    cases d <;> first | rfl | (exact absurd rfl (hn _))
  · cases h

theorem rop_makeFunc {dst type pos after guard} {fn : Fn} {f c : Array Operand} {v : Value} {bs : List Nat} (hf : Fr E r t a) (h : rop E t σ ⟨dst, .makeFunc fn f c, type, pos, after, guard⟩ = some (v, bs)) :
    Reads E a ⟨dst, .makeFunc fn f c, type, pos, after, guard⟩ r σ v bs := by
  simp only [rop] at h
  split at h
  · rename_i p q hp hq
    cases h
    have h1 := hf.vals hp
    have h2 := hf.vals hq
    refine ⟨.func fn (f.map a.eval) (c.map a.eval), ?_, fun w _ => rfl⟩
    have e1 : (f.map a.eval).toList = f.toList.map a.eval := by simp
    have e2 : (c.map a.eval).toList = c.toList.map a.eval := by simp
    exact .func fn (by rw [e1]; exact h1.1) (by rw [e2]; exact h2.1) (by rw [e1]; exact h1.2) (by rw [e2]; exact h2.2)
  · cases h
end
end Go.Abs
