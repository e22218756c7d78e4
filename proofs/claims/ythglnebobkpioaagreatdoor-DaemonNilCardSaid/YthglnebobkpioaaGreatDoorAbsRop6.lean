/- A part of the abstract runs: the program is run over an abstract heap; what holds there holds in every world that looks so. Conditions: none. -/
import Derived.Test.YthglnebobkpioaaGreatDoorAbsRop5
namespace Go.Abs
open Go Go.RowKit
section
variable {E : Env} {r : Ren} {t : AT} {a : Act} {σ : AW}

theorem arr_one {args : Array Operand} {x : Value} (h : VL r [x] (args.toList.map a.eval)) : ∃ x', args.map a.eval = #[x'] ∧ VR r x x' := by
  obtain ⟨x', l, e, h1, h2⟩ := h.cons_inv
  rw [h2.nil_inv] at e
  exact ⟨x', Array.toList_inj.1 (by rw [Array.toList_map]; exact e), h1⟩

theorem arr_two {args : Array Operand} {x y : Value} (h : VL r [x, y] (args.toList.map a.eval)) : ∃ x' y', args.map a.eval = #[x', y'] ∧ VR r x x' ∧ VR r y y' := by
  obtain ⟨x', l, e, h1, h2⟩ := h.cons_inv
  obtain ⟨y', l', e', h3, h4⟩ := h2.cons_inv
  rw [h4.nil_inv] at e'
  rw [e'] at e
  exact ⟨x', y', Array.toList_inj.1 (by rw [Array.toList_map]; exact e), h1, h3⟩

theorem exec_builtin {dst : Option Tmp} {type : TypeId} {pos : String} {after : Array Edge} {guard : Option (Nat × Bool)} {b : Builtin} {args : Array Operand} {argTypes : Array TypeId} :
    execOp a.eval ⟨dst, .call ⟨.builtin b, args, argTypes⟩, type, pos, after, guard⟩ = builtin b argTypes type (args.map fun | .const _ => true | _ => false) (args.map a.eval) := rfl

theorem bind_under {at_ : Array TypeId} {d : TypeDesc} (h : (at_[0]?).bind E.P.underlying = some d) : ∃ T, at_[0]? = some T ∧ E.P.underlying T = some d := by
  cases h0 : at_[0]? with
  | none => rw [h0] at h; cases h
  | some T => rw [h0] at h; exact ⟨T, rfl, h⟩

theorem rop_len {dst type pos after guard} {args : Array Operand} {argTypes : Array TypeId} {v : Value} {bs : List Nat} (hf : Fr E r t a)
    (h : rop E t σ ⟨dst, .call ⟨.builtin .len, args, argTypes⟩, type, pos, after, guard⟩ = some (v, bs)) :
    Reads E a ⟨dst, .call ⟨.builtin .len, args, argTypes⟩, type, pos, after, guard⟩ r σ v bs := by
  simp only [rop] at h
  have go : ∀ {T : TypeId} {d : TypeDesc} {x : Value} {n : Int}, args.map a.eval = #[x] → argTypes[0]? = some T → E.P.underlying T = some d → v = goInt n →
      (∀ w, (∀ b ∈ bs, BlkR r σ w b) → (Builtin.len_ argTypes type #[x]).run E.P w = .ok (goInt n) w) → Reads E a ⟨dst, .call ⟨.builtin .len, args, argTypes⟩, type, pos, after, guard⟩ r σ v bs := by
    intro T d x n ha _ _ hv hr
    subst hv
    exact ⟨_, .int _ _, fun w hb => by rw [exec_builtin, ha]; exact run_v (hr w hb)⟩
  split at h
  · rename_i s hv hu
    cases h
    obtain ⟨T, hT, hd⟩ := bind_under hu
    obtain ⟨x', hx, hx'⟩ := arr_one (hf.vals hv)
    rw [inv_str hx'] at hx
    exact go hx hT hd rfl (fun w _ => by
      unfold Builtin.len_
      simp only [hT, List.getElem?_toArray, List.getElem?_cons_zero]
      rw [run_bind' (run_underlying hd)]; rfl)
  · rename_i ad n c e hv hu
    cases h
    obtain ⟨T, hT, hd⟩ := bind_under hu
    obtain ⟨x', hx, hx'⟩ := arr_one (hf.vals hv)
    cases hx' with
    | sliceNil => exact go hx hT hd rfl (fun w _ => by
      unfold Builtin.len_
      simp only [hT, List.getElem?_toArray, List.getElem?_cons_zero]
      rw [run_bind' (run_underlying hd)]; rfl)
    | slice hl => exact go hx hT hd rfl (fun w _ => by
      unfold Builtin.len_
      simp only [hT, List.getElem?_toArray, List.getElem?_cons_zero]
      rw [run_bind' (run_underlying hd)]; rfl)
  · rename_i x n e hv hu
    cases h
    obtain ⟨T, hT, hd⟩ := bind_under hu
    obtain ⟨x', hx, hx'⟩ := arr_one (hf.vals hv)
    exact go hx hT hd rfl (fun w _ => by
      unfold Builtin.len_
      simp only [hT, List.getElem?_toArray, List.getElem?_cons_zero]
      rw [run_bind' (run_underlying hd)]; rfl)
  · rename_i k e hv hu
    cases h
    obtain ⟨T, hT, hd⟩ := bind_under hu
    obtain ⟨x', hx, hx'⟩ := arr_one (hf.vals hv)
    rw [inv_mapNil hx'] at hx
    exact go hx hT hd rfl (fun w _ => by
      unfold Builtin.len_
      simp only [hT, List.getElem?_toArray, List.getElem?_cons_zero]
      rw [run_bind' (run_underlying hd)]; rfl)
  · rename_i m k e hv hu
    obtain ⟨T, hT, hd⟩ := bind_under hu
    obtain ⟨x', hx, hx'⟩ := arr_one (hf.vals hv)
    obtain ⟨l, hl, rfl⟩ := inv_map hx'
    split at h
    · rename_i es ck hes
      cases h
      refine go hx hT hd rfl (fun w hb => ?_)
      obtain ⟨l', hl', es', h1, h2⟩ := hb m (by simp) _ hes
      rw [hl] at hl'; cases hl'
      unfold Builtin.len_
      simp only [hT, List.getElem?_toArray, List.getElem?_cons_zero]
      rw [run_bind' (run_underlying hd)]
      show ((getObj l.blk >>= _) : Sem Value).run E.P w = _
      have hg : (getObj l.blk).run E.P w = .ok (.map es'.toArray ck) w := by simp [getObj, Sem.run, h1]
      rw [run_bind' hg]
      simp [h2.1]
    · cases h
  · cases h

theorem rop_cap {dst type pos after guard} {args : Array Operand} {argTypes : Array TypeId} {v : Value} {bs : List Nat} (hf : Fr E r t a)
    (h : rop E t σ ⟨dst, .call ⟨.builtin .cap, args, argTypes⟩, type, pos, after, guard⟩ = some (v, bs)) :
    Reads E a ⟨dst, .call ⟨.builtin .cap, args, argTypes⟩, type, pos, after, guard⟩ r σ v bs := by
  simp only [rop] at h
  split at h
  · rename_i ad n c e hv hu
    split at h
    · rename_i hc
      cases h
      obtain ⟨T, hT, hd⟩ := bind_under hu
      obtain ⟨x', hx, hx'⟩ := arr_one (hf.vals hv)
      refine ⟨_, .int _ _, fun w _ => ?_⟩
      rw [exec_builtin, hx]
      refine run_v ?_
      unfold Builtin.cap_
      simp only [hT, List.getElem?_toArray, List.getElem?_cons_zero]
      rw [run_bind' (run_underlying hd)]
      cases hx' with
      | sliceNil => rfl
      | slice hl => simp only [capR, if_pos hc]; rfl
    · cases h
  · cases h

theorem rop_unsafeSliceData {dst type pos after guard} {args : Array Operand} {argTypes : Array TypeId} {v : Value} {bs : List Nat} (hf : Fr E r t a)
    (h : rop E t σ ⟨dst, .call ⟨.builtin .unsafeSliceData, args, argTypes⟩, type, pos, after, guard⟩ = some (v, bs)) :
    Reads E a ⟨dst, .call ⟨.builtin .unsafeSliceData, args, argTypes⟩, type, pos, after, guard⟩ r σ v bs := by
  simp only [rop] at h
  split at h
  · rename_i n c hv
    cases h
    obtain ⟨x', hx, hx'⟩ := arr_one (hf.vals hv)
    rw [inv_sliceNil hx'] at hx
    refine ⟨_, .ptrNil, fun w _ => ?_⟩
    rw [exec_builtin, hx]
    exact run_v rfl
  · rename_i ad n c hv
    split at h
    · rename_i hk
      cases h
      obtain ⟨x', hx, hx'⟩ := arr_one (hf.vals hv)
      obtain ⟨b, o, l, rfl, hl, rfl⟩ := inv_slice hx'
      refine ⟨_, .ptr hl, fun w _ => ?_⟩
      rw [exec_builtin, hx]
      refine run_v ?_
      have hc : capR l c ≠ 0 := by
        have : known c ≤ capR l c := by unfold known capR; split <;> omega
        omega
      show Sem.run E.P ((if capR l c ≠ 0 then pure (Value.pointer (some (l.at o))) else _ : Sem Value)) w = _
      rw [if_pos hc]
      rfl
    · cases h
  · cases h

theorem vals_cl {xs : Array Operand} {vs : List Value} (hf : Fr E r t a) (h : vals E t xs.toList = some vs) (hc : vs.all cl = true) : xs.map a.eval = vs.toArray := by
  have := VL.cl_eq hc (hf.vals h)
  apply Array.toList_inj.1
  rw [Array.toList_map]
  exact this

theorem rop_min {dst type pos after guard} {args : Array Operand} {argTypes : Array TypeId} {v : Value} {bs : List Nat} (hf : Fr E r t a)
    (h : rop E t σ ⟨dst, .call ⟨.builtin .min, args, argTypes⟩, type, pos, after, guard⟩ = some (v, bs)) :
    Reads E a ⟨dst, .call ⟨.builtin .min, args, argTypes⟩, type, pos, after, guard⟩ r σ v bs := by
  simp only [rop] at h
  split at h
  · rename_i vs hv
    split at h
    · rename_i hc
      cases hb : runC E.P (Builtin.min_ #[] 0 vs.toArray) with
      | none => rw [hb] at h; cases h
      | some z =>
        rw [hb] at h; cases h
        obtain ⟨hc', hr⟩ := runC_some hb
        exact ⟨v, VR.cl hc', fun w _ => by rw [exec_builtin, vals_cl hf hv hc]; exact run_v (hr w)⟩
    · cases h
  · cases h

theorem rop_max {dst type pos after guard} {args : Array Operand} {argTypes : Array TypeId} {v : Value} {bs : List Nat} (hf : Fr E r t a)
    (h : rop E t σ ⟨dst, .call ⟨.builtin .max, args, argTypes⟩, type, pos, after, guard⟩ = some (v, bs)) :
    Reads E a ⟨dst, .call ⟨.builtin .max, args, argTypes⟩, type, pos, after, guard⟩ r σ v bs := by
  simp only [rop] at h
  split at h
  · rename_i vs hv
    split at h
    · rename_i hc
      cases hb : runC E.P (Builtin.max_ #[] 0 vs.toArray) with
      | none => rw [hb] at h; cases h
      | some z =>
        rw [hb] at h; cases h
        obtain ⟨hc', hr⟩ := runC_some hb
        exact ⟨v, VR.cl hc', fun w _ => by rw [exec_builtin, vals_cl hf hv hc]; exact run_v (hr w)⟩
    · cases h
  · cases h

/-! ### Maps -/
theorem sameNow_sound {d : TypeDesc} {k x x' : Value} (h : VR r x x') : Instr.sameNow d k x' = Instr.sameNow d k x := by
  cases h <;> first | rfl | (cases d <;> cases k <;> rfl)

theorem EL.cons_inv {e : MapEntry} {es es' : List MapEntry} (h : EL r (e :: es) es') : ∃ e' l, es' = e' :: l ∧ EntryR r e e' ∧ EL r es l := by
  cases es' with
  | nil => have := h.1; simp at this
  | cons e' l => exact ⟨e', l, rfl, h.2 0 e e' rfl rfl, by have := h.1; simpa using this, fun i x x' a b => h.2 (i + 1) x x' (by simpa using a) (by simpa using b)⟩
theorem EL.nil_inv {es' : List MapEntry} (h : EL r [] es') : es' = [] := by
  cases es' with
  | nil => rfl
  | cons => have := h.1; simp at this

theorem findNow_sound {d : TypeDesc} {k : Value} : ∀ (es es' : List MapEntry) (i : Nat), EL r es es' →
    (∀ j v, Instr.findNow d k es i = some (some (j, v)) → ∃ v', Instr.findNow d k es' i = some (some (j, v')) ∧ VR r v v') ∧
    (Instr.findNow d k es i = some none → Instr.findNow d k es' i = some none) := by
  intro es
  induction es with
  | nil => intro es' i h; rw [h.nil_inv]; exact ⟨fun j v e => by simp [Instr.findNow] at e, fun _ => rfl⟩
  | cons e es ih =>
    intro es' i h
    obtain ⟨e', l, rfl, he, hl⟩ := h.cons_inv
    unfold Instr.findNow
    rw [sameNow_sound he.key]
    split
    · exact ⟨fun j v e => by cases e; exact ⟨_, rfl, he.val⟩, fun e => by cases e⟩
    · exact ih l (i + 1) hl
    · exact ⟨fun j v e => (nomatch e), fun e => (nomatch e)⟩

theorem findKey_run {key : TypeId} {k : Value} {es : List MapEntry} {d : TypeDesc} {x : Option (Nat × Value)} (hd : E.P.underlying key = some d) (h : Instr.findNow d k es 0 = some x) (w : World) :
    (Instr.findKey key k es).run E.P w = .ok x w := by
  unfold Instr.findKey
  rw [run_bind' (run_underlying hd)]
  simp only [h]; rfl

theorem run_getObj {P : Program} {w : World} {b : Nat} {o : Obj} (h : w.heap[b]? = some o) (hn : ∀ c e f, o ≠ .cells c e f) : (getObj b).run P w = .ok o w := by
  unfold getObj
  cases o <;> first | (exact absurd rfl (hn _ _ _)) | simp [Sem.run, h]

theorem found_sound {ok b : Bool} {v v' : Value} (h : VR r v v') : VR r (found ok v b) (found ok v' b) := by
  unfold found
  cases ok
  · exact h
  · exact VL.two b h

theorem isEmpty_el {es es' : List MapEntry} (h : EL r es es') : es'.toArray.isEmpty = es.isEmpty := by
  cases es with
  | nil => rw [h.nil_inv]; rfl
  | cons => obtain ⟨e', l, rfl, _, _⟩ := h.cons_inv; rfl

/-- the map that a value stands for, in the concrete world. -/
def Ents (w : World) (m : Value) (es : List MapEntry) : Prop := (m = .map none ∧ es = []) ∨ ∃ b ck, m = .map (some b) ∧ w.heap[b]? = some (.map es.toArray ck)

theorem entries_sound {m m' : Value} {es : List MapEntry} {bs : List Nat} (hm : VR r m m') (h : entries? σ m = some (es, bs)) {w : World} (hb : ∀ b ∈ bs, BlkR r σ w b) :
    ∃ es', EL r es es' ∧ Ents w m' es' := by
  unfold entries? at h
  split at h
  · cases h
    exact ⟨[], ⟨rfl, fun i e e' a => by simp at a⟩, .inl ⟨inv_mapNil hm, rfl⟩⟩
  · rename_i rr
    split at h
    · rename_i es' ck hes
      cases h
      obtain ⟨l, hl, hev⟩ := inv_map hm
      obtain ⟨l', hl', es', h1, h2⟩ := hb rr (by simp) _ hes
      rw [hl] at hl'; cases hl'
      exact ⟨es', h2, .inr ⟨_, _, hev, h1⟩⟩
    · cases h
  · cases h

theorem lookup_hit {T key elem : TypeId} {d : TypeDesc} {m k y : Value} {es : List MapEntry} {ok : Bool} {i : Nat} {w : World} (hu : E.P.underlying T = some (.map key elem)) (hm : Ents w m es)
    (hc : (Instr.checkKey es.isEmpty 10000 key k).run E.P w = .ok () w) (hd : E.P.underlying key = some d) (hf : Instr.findNow d k es 0 = some (some (i, y))) :
    (Instr.lookup T m k ok).run E.P w = .ok (found ok y true) w := by
  unfold Instr.lookup
  rw [run_bind' (run_underlying hu)]
  rcases hm with ⟨rfl, rfl⟩ | ⟨b, ck, rfl, hb⟩
  · simp [Instr.findNow] at hf
  · simp only []
    rw [run_bind' (run_getObj hb (fun _ _ _ e => nomatch e))]
    simp only []
    rw [run_bind' (run_pure _), run_bind' (show (Instr.checkKey es.toArray.isEmpty 10000 key k).run E.P w = .ok () w by simpa using hc), run_bind' (findKey_run hd (show Instr.findNow d k es.toArray.toList 0 = _ from hf) w)]
    simp only []
    cases ok <;> rfl

theorem lookup_miss {T key elem : TypeId} {d : TypeDesc} {m k z : Value} {es : List MapEntry} {ok : Bool} {w : World} (hu : E.P.underlying T = some (.map key elem)) (hm : Ents w m es)
    (hc : (Instr.checkKey es.isEmpty 10000 key k).run E.P w = .ok () w) (hd : E.P.underlying key = some d) (hf : Instr.findNow d k es 0 = some none) (hz : (zeroValue elem).run E.P w = .ok z w) :
    (Instr.lookup T m k ok).run E.P w = .ok (found ok z false) w := by
  unfold Instr.lookup
  rw [run_bind' (run_underlying hu)]
  rcases hm with ⟨rfl, rfl⟩ | ⟨b, ck, rfl, hb⟩
  · simp only []
    rw [run_bind' (run_pure _), run_bind' (show (Instr.checkKey (#[] : Array MapEntry).isEmpty 10000 key k).run E.P w = .ok () w by simpa using hc), run_bind' (findKey_run hd (show Instr.findNow d k (#[] : Array MapEntry).toList 0 = _ from hf) w)]
    simp only []
    rw [run_bind' hz]
    cases ok <;> rfl
  · simp only []
    rw [run_bind' (run_getObj hb (fun _ _ _ e => nomatch e))]
    simp only []
    rw [run_bind' (run_pure _), run_bind' (show (Instr.checkKey es.toArray.isEmpty 10000 key k).run E.P w = .ok () w by simpa using hc), run_bind' (findKey_run hd (show Instr.findNow d k es.toArray.toList 0 = _ from hf) w)]
    simp only []
    rw [run_bind' hz]
    cases ok <;> rfl

theorem rop_lookup {dst type pos after guard} {T : TypeId} {x ix : Operand} {ok : Bool} {v : Value} {bs : List Nat} {N lo ng : Nat} {w0 w1 : World} (hf : Fr E r t a) (hR : Rel N w0 lo ng r σ w1)
    (h : rop E t σ ⟨dst, .lookup T x ix ok, type, pos, after, guard⟩ = some (v, bs)) :
    Reads E a ⟨dst, .lookup T x ix ok, type, pos, after, guard⟩ r σ v bs := by
  simp only [rop] at h
  split at h
  · rename_i key elem m k hu hm hk
    split at h
    · rename_i d es bs' hdk hes
      have hck : cl k = true ∧ E.P.underlying key = some d := by
        split at hdk
        · rename_i hc; exact ⟨hc, hdk⟩
        · cases hdk
      obtain ⟨hck, hd⟩ := hck
      have ek : a.eval ix = k := VR.cl_eq hck (hf.val hk)
      have hvm := hf.val hm
      split at h
      · rename_i u i y hchk hfn
        cases h
        have one : ∀ w, (∀ b ∈ bs, BlkR r σ w b) → ∃ y', VR r y y' ∧ (Instr.lookup T (a.eval x) (a.eval ix) ok).run E.P w = .ok (found ok y' true) w := by
          intro w hb
          obtain ⟨es', hel, hent⟩ := entries_sound hvm hes hb
          obtain ⟨y', hy', hyr⟩ := (findNow_sound es es' 0 hel).1 _ _ hfn
          refine ⟨y', hyr, ?_⟩
          rw [ek]
          refine lookup_hit hu hent ?_ hd hy'
          have := isEmpty_el hel
          rw [show es'.isEmpty = es.isEmpty by simpa using this]
          exact run_runP _ _ hchk w
        obtain ⟨y', hy', _⟩ := one w1 (fun b _ => hR.blk b)
        refine ⟨found ok y' true, found_sound hy', fun w hb => ?_⟩
        obtain ⟨y'', hy2, hrun⟩ := one w hb
        rw [hy'.fn hy2]
        exact run_v hrun
      · rename_i u hchk hfn
        cases hz : zero? E elem with
        | none => rw [hz] at h; cases h
        | some z =>
          rw [hz] at h; cases h
          obtain ⟨hzc, _⟩ := zero?_run (w := default) hz
          refine ⟨found ok z false, found_sound (VR.cl hzc), fun w hb => ?_⟩
          obtain ⟨es', hel, hent⟩ := entries_sound hvm hes hb
          refine run_v ?_
          rw [ek]
          refine lookup_miss hu hent ?_ hd ((findNow_sound es es' 0 hel).2 hfn) (zero?_run hz).2
          have := isEmpty_el hel
          rw [show es'.isEmpty = es.isEmpty by simpa using this]
          exact run_runP _ _ hchk w
      · cases h
    · cases h
  · cases h

/-! ### All of them -/
theorem rop_sound {N lo ng : Nat} {w0 w1 : World} (hf : Fr E r t a) (hR : Rel N w0 lo ng r σ w1) {o : Oper} {v : Value} {bs : List Nat} (h : rop E t σ o = some (v, bs)) : Reads E a o r σ v bs := by
  obtain ⟨dst, op, type, pos, after, guard⟩ := o
  cases op
  case move => exact rop_move hf h
  case assign => exact rop_assign hf h
  case pick => exact rop_pick hf h
  case load => exact rop_load hf hR h
  case nilCheck => exact rop_nilCheck hf h
  case binOp => exact rop_binOp hf h
  case unOp => exact rop_unOp hf h
  case convert => exact rop_convert hf h
  case makeInterface => exact rop_makeInterface hf h
  case makeFunc => exact rop_makeFunc hf h
  case fieldAddr => exact rop_fieldAddr hf h
  case field => exact rop_field hf h
  case indexAddr => exact rop_indexAddr hf h
  case index => exact rop_index hf h
  case extract => exact rop_extract hf h
  case typeAssert => exact rop_typeAssert hf h
  case build => exact rop_build hf h
  case slice => exact rop_slice hf h
  case lookup => exact rop_lookup hf hR h
  case call c =>
    obtain ⟨callee, args, argTypes⟩ := c
    cases callee
    case builtin b =>
      cases b
      case len => exact rop_len hf h
      case cap => exact rop_cap hf h
      case min => exact rop_min hf h
      case unsafeSliceData => exact rop_unsafeSliceData hf h
      case max => exact rop_max hf h
      all_goals (simp [rop] at h)
    all_goals (simp [rop] at h)
  all_goals (simp [rop] at h)
end
end Go.Abs
