/- A part of the abstract runs: the program is run over an abstract heap; what holds there holds in every world that looks so. Conditions: none. -/
import Derived.Test.YthglnebobkpioaaGreatDoorAbsWop5
namespace Go.Abs
open Go Go.RowKit
section
variable {E : Env} {r : Ren} {t : AT} {a : Act} {σ σ' : AW} {N lo ng : Nat} {w0 w : World}

theorem EL.get {es es' : List MapEntry} (h : EL r es es') {i : Nat} {e : MapEntry} (he : es[i]? = some e) : ∃ e', es'[i]? = some e' ∧ EntryR r e e' := by
  have hi : i < es.length := by
    rcases Nat.lt_or_ge i es.length with hi | hi
    · exact hi
    · rw [List.getElem?_eq_none hi] at he; cases he
  exact ⟨_, List.getElem?_eq_getElem (h.1 ▸ hi), h.2 _ _ _ he (List.getElem?_eq_getElem (h.1 ▸ hi))⟩

theorem EL.modify {es es' : List MapEntry} (h : EL r es es') (i : Nat) {f f' : MapEntry → MapEntry} (hf : ∀ e e', EntryR r e e' → EntryR r (f e) (f' e')) : EL r (es.modify i f) (es'.modify i f') := by
  refine ⟨by simp [h.1], fun j e e' p q => ?_⟩
  rw [List.getElem?_modify] at p q
  cases hj : es[j]? with
  | none => rw [hj] at p; simp at p
  | some x =>
    obtain ⟨x', hx', hr⟩ := h.get hj
    rw [hj] at p; rw [hx'] at q
    simp only [Option.map_eq_map, Option.map_some, Option.some.injEq] at p q
    split at p
    · rename_i e1; rw [if_pos e1] at q; subst p; subst q; exact hf _ _ hr
    · rename_i e1; rw [if_neg e1] at q; subst p; subst q; exact hr

theorem EL.snoc {es es' : List MapEntry} (h : EL r es es') {e e' : MapEntry} (he : EntryR r e e') : EL r (es ++ [e]) (es' ++ [e']) := by
  refine ⟨by simp [h.1], fun j x x' p q => ?_⟩
  rcases Nat.lt_or_ge j es.length with hj | hj
  · rw [List.getElem?_append_left hj] at p
    rw [List.getElem?_append_left (h.1 ▸ hj)] at q
    exact h.2 _ _ _ p q
  · rw [List.getElem?_append_right hj] at p
    rw [List.getElem?_append_right (h.1 ▸ hj), ← h.1] at q
    cases hk : j - es.length with
    | zero => rw [hk] at p q; simp at p q; subst p; subst q; exact he
    | succ k => rw [hk] at p; simp at p

theorem EL.erase {es es' : List MapEntry} (h : EL r es es') (i : Nat) : EL r (es.eraseIdx i) (es'.eraseIdx i) := by
  refine ⟨by simp [List.length_eraseIdx, h.1], fun j x x' p q => ?_⟩
  rw [List.getElem?_eraseIdx] at p q
  split at p
  · rename_i e; rw [if_pos e] at q; exact h.2 _ _ _ p q
  · rename_i e; rw [if_neg e] at q; exact h.2 _ _ _ p q

theorem wop_mapUpdate {dst type pos after guard} {T : TypeId} {m k x : Operand} {v : Value} (hf : Fr E r t a) (hR : Rel N w0 lo ng r σ w) (h : wop E t σ ⟨dst, .mapUpdate T m k x, type, pos, after, guard⟩ = some (v, σ')) :
    Does E a ⟨dst, .mapUpdate T m k x, type, pos, after, guard⟩ N w0 lo ng r σ w v σ' := by
  simp only [wop] at h
  split at h
  · rename_i key el b kv xv hu hm hk hx
    split at h
    · rename_i d es ck hdk hg
      have hck : cl kv = true ∧ E.P.underlying key = some d := by
        split at hdk
        · rename_i hc; exact ⟨hc, hdk⟩
        · cases hdk
      obtain ⟨hck, hd⟩ := hck
      split at h
      · rename_i hmay
        have ek : a.eval k = kv := VR.cl_eq hck (hf.val hk)
        obtain ⟨l, hl, hev⟩ := inv_map (hf.val hm)
        obtain ⟨l', hl', hlt, es', hh, hel⟩ := hR.obj b _ hg
        rw [hl] at hl'; cases hl'
        have hgo : (getObj l.blk).run E.P w = .ok (.map es'.toArray ck) w := run_getObj hh (fun _ _ _ e => (nomatch e))
        have hset : ∀ ob, (setObj l.blk ob).run E.P w = .ok () { w with heap := w.heap.setIfInBounds l.blk ob } := fun ob => run_setObj hh (fun _ _ _ e => (nomatch e))
        have hex : ∀ {w'}, (Instr.mapUpdate T (a.eval m) (a.eval k) (a.eval x)).run E.P w = .ok () w' → (execOp a.eval ⟨dst, .mapUpdate T m k x, type, pos, after, guard⟩).run E.P w = .ok .skip w' := by
          intro w' hr
          show ((Instr.mapUpdate T (a.eval m) (a.eval k) (a.eval x) >>= fun _ => pure .skip) : Sem Next).run E.P w = _
          rw [run_bind' hr]; rfl
        split at h
        · -- it is there
          rename_i u i y hchk hfn
          split at h
          · rename_i hsb
            rw [Bool.and_eq_true] at hsb
            simp only [Option.some.injEq, Prod.mk.injEq] at h
            obtain ⟨rfl, rfl⟩ := h
            obtain ⟨y', hy', _⟩ := (findNow_sound es es' 0 hel).1 _ _ hfn
            have hold : ((es'[i]?).map (·.key)).getD kv = ((es[i]?).map (·.key)).getD kv := by
              cases he : es[i]? with
              | none =>
                have : es'[i]? = none := by
                  rw [List.getElem?_eq_none_iff] at he ⊢
                  have := hel.1; omega
                rw [this]
              | some e =>
                obtain ⟨e', h1, h2⟩ := hel.get he
                rw [h1]
                simp only [Option.map_some, Option.getD_some]
                have := hsb.1
                rw [he] at this
                exact VR.cl_eq this h2.key
            refine ⟨r, undef, _, hR.updObj (.map (es'.toArray.modify i fun e => { e with key := kv, val := a.eval x }) ck) hg hl hmay rfl rfl
              ⟨es'.modify i fun e => { e with key := kv, val := a.eval x }, ?_, hel.modify i fun e e' he => ⟨VR.cl hck, hf.val hx, he.born⟩⟩, undef_VR, .inr ⟨hex ?_, rfl⟩⟩
            · rw [get_set_same hlt]; congr 2; try (apply Array.toList_inj.1; simp)
            · rw [hev, ek]
              unfold Instr.mapUpdate
              rw [run_bind' (run_underlying hu)]
              simp only []
              rw [run_bind' hgo]
              simp only []
              rw [run_bind' (run_runP _ _ hchk w), run_bind' (findKey_run hd (show Instr.findNow d kv es'.toArray.toList 0 = _ from hy') w)]
              simp only []
              have hks : (Instr.keyThatStays (((es'.toArray[i]?).map (·.key)).getD kv) kv).run E.P w = .ok kv w := by
                unfold Instr.keyThatStays
                rw [show es'.toArray[i]? = es'[i]? by simp, hold, if_pos hsb.2]; rfl
              rw [run_bind' hks]
              exact hset _
          · cases h
        · rename_i u hchk hfn
          simp only [Option.some.injEq, Prod.mk.injEq] at h
          obtain ⟨rfl, rfl⟩ := h
          refine ⟨r, undef, _, hR.updObj (.map (es'.toArray.push { key := kv, val := a.eval x, born := ck }) (ck + 1)) hg hl hmay rfl rfl
            ⟨es' ++ [{ key := kv, val := a.eval x, born := ck }], ?_, hel.snoc ⟨VR.cl hck, hf.val hx, rfl⟩⟩, undef_VR, .inr ⟨hex ?_, rfl⟩⟩
          · rw [get_set_same hlt]; congr 2; try (apply Array.toList_inj.1; simp)
          · rw [hev, ek]
            unfold Instr.mapUpdate
            rw [run_bind' (run_underlying hu)]
            simp only []
            rw [run_bind' hgo]
            simp only []
            rw [run_bind' (run_runP _ _ hchk w), run_bind' (findKey_run hd (show Instr.findNow d kv es'.toArray.toList 0 = _ from (findNow_sound es es' 0 hel).2 hfn) w)]
            exact hset _
        · cases h
      · cases h
    · cases h
  · cases h

theorem wop_delete {dst type pos after guard} {args : Array Operand} {argTypes : Array TypeId} {v : Value} (hf : Fr E r t a) (hR : Rel N w0 lo ng r σ w)
    (h : wop E t σ ⟨dst, .call ⟨.builtin .delete, args, argTypes⟩, type, pos, after, guard⟩ = some (v, σ')) :
    Does E a ⟨dst, .call ⟨.builtin .delete, args, argTypes⟩, type, pos, after, guard⟩ N w0 lo ng r σ w v σ' := by
  simp only [wop] at h
  split at h
  · rename_i key el b kv hu hvs
    split at h
    · rename_i d es ck hdk hg
      have hck : cl kv = true ∧ E.P.underlying key = some d := by
        split at hdk
        · rename_i hc; exact ⟨hc, hdk⟩
        · cases hdk
      obtain ⟨hck, hd⟩ := hck
      split at h
      · rename_i hmay
        obtain ⟨T, hT, hdT⟩ := bind_under hu
        obtain ⟨mv, kv', hargs, hmv, hkv⟩ := arr_two (hf.vals hvs)
        obtain rfl : kv' = kv := VR.cl_eq hck hkv
        obtain ⟨l, hl, rfl⟩ := inv_map hmv
        obtain ⟨l', hl', hlt, es', hh, hel⟩ := hR.obj b _ hg
        rw [hl] at hl'; cases hl'
        have hgo : (getObj l.blk).run E.P w = .ok (.map es'.toArray ck) w := run_getObj hh (fun _ _ _ e => (nomatch e))
        have hset : ∀ ob, (setObj l.blk ob).run E.P w = .ok () { w with heap := w.heap.setIfInBounds l.blk ob } := fun ob => run_setObj hh (fun _ _ _ e => (nomatch e))
        have hem : es'.toArray.isEmpty = es.isEmpty := isEmpty_el hel
        have hex : ∀ {w'}, (Builtin.delete_ argTypes type #[.map (some l.blk), kv']).run E.P w = .ok undef w' →
            (execOp a.eval ⟨dst, .call ⟨.builtin .delete, args, argTypes⟩, type, pos, after, guard⟩).run E.P w = .ok (.value undef) w' := by
          intro w' hr
          rw [exec_builtin, hargs]
          exact run_v hr
        split at h
        · rename_i u i y hchk hfn
          simp only [Option.some.injEq, Prod.mk.injEq] at h
          obtain ⟨rfl, rfl⟩ := h
          obtain ⟨y', hy', _⟩ := (findNow_sound es es' 0 hel).1 _ _ hfn
          refine ⟨r, undef, _, hR.updObj (.map (es'.toArray.eraseIdxIfInBounds i) ck) hg hl hmay rfl rfl ⟨es'.eraseIdx i, ?_, hel.erase i⟩, undef_VR, .inl (hex ?_)⟩
          · rw [get_set_same hlt]; congr 2; try (apply Array.toList_inj.1; simp)
          · unfold Builtin.delete_
            simp only [hT, List.getElem?_toArray, List.getElem?_cons_zero, List.getElem?_cons_succ]
            rw [run_bind' (run_underlying hdT)]
            simp only []
            rw [run_bind' hgo]
            simp only []
            rw [run_bind' (show (Instr.checkKey es'.toArray.isEmpty 10000 key kv').run E.P w = .ok () w by rw [hem]; exact run_runP _ _ hchk w), run_bind' (findKey_run hd (show Instr.findNow d kv' es'.toArray.toList 0 = _ from hy') w)]
            simp only []
            rw [run_bind' (hset _)]
            rfl
        · rename_i u hchk hfn
          simp only [Option.some.injEq, Prod.mk.injEq] at h
          obtain ⟨rfl, rfl⟩ := h
          have hupd := hR.updObj (o' := .map es ck) (.map es'.toArray ck) hg hl hmay rfl rfl ⟨es', by rw [get_set_same hlt], hel⟩
          -- nothing has turned
          have hw : ({ w with heap := w.heap.setIfInBounds l.blk (.map es'.toArray ck) } : World) = w := by
            have : w.heap.setIfInBounds l.blk (.map es'.toArray ck) = w.heap := by
              apply Array.ext_getElem?
              intro j
              rw [Array.getElem?_setIfInBounds]
              split
              · rename_i e; subst e; rw [hh]; try simp [hlt]
              · rfl
            rw [this]
          refine ⟨r, undef, w, .refl hR, undef_VR, .inl (hex ?_)⟩
          unfold Builtin.delete_
          simp only [hT, List.getElem?_toArray, List.getElem?_cons_zero, List.getElem?_cons_succ]
          rw [run_bind' (run_underlying hdT)]
          simp only []
          rw [run_bind' hgo]
          simp only []
          rw [run_bind' (show (Instr.checkKey es'.toArray.isEmpty 10000 key kv').run E.P w = .ok () w by rw [hem]; exact run_runP _ _ hchk w), run_bind' (findKey_run hd (show Instr.findNow d kv' es'.toArray.toList 0 = _ from (findNow_sound es es' 0 hel).2 hfn) w)]
          simp only []
          rw [run_bind' (hset _), hw]
          rfl
        · cases h
      · cases h
    · cases h
  · cases h

theorem lenOf_run {P : Program} {v v' : Value} {n : Nat} (hv : VR r v v') (h : lenOf? v = some n) (w : World) : (Builtin.lenOf v').run P w = .ok n w := by
  unfold lenOf? at h
  split at h
  · cases h
    obtain ⟨ad', cp', rfl⟩ := inv_anySlice hv
    rfl
  · cases h
    rw [inv_str hv]; rfl
  · cases h

theorem wop_copy {dst type pos after guard} {args : Array Operand} {argTypes : Array TypeId} {v : Value} (hf : Fr E r t a) (hR : Rel N w0 lo ng r σ w)
    (h : wop E t σ ⟨dst, .call ⟨.builtin .copy, args, argTypes⟩, type, pos, after, guard⟩ = some (v, σ')) :
    Does E a ⟨dst, .call ⟨.builtin .copy, args, argTypes⟩, type, pos, after, guard⟩ N w0 lo ng r σ w v σ' := by
  simp only [wop] at h
  split at h
  · rename_i elem base len cp x hu hvs
    split at h
    · rename_i size m hsz hm
      obtain ⟨T, hT, hdT⟩ := bind_under hu
      obtain ⟨dv, sv, hargs, hdv, hsv⟩ := arr_two (hf.vals hvs)
      cases hfc : firstCells? σ size (min m len) x with
      | none => rw [hfc] at h; cases h
      | some cs =>
        rw [hfc] at h
        obtain ⟨cs', hcs, hrun⟩ := firstCells?_sound (P := E.P) hsv hfc hR.blks
        have hlen := lenOf_run (P := E.P) hsv hm w
        have hex : ∀ {w' n}, (Builtin.copy_ argTypes type #[dv, sv]).run E.P w = .ok (goInt n) w' →
            (execOp a.eval ⟨dst, .call ⟨.builtin .copy, args, argTypes⟩, type, pos, after, guard⟩).run E.P w = .ok (.value (goInt n)) w' := by
          intro w' n hr
          rw [exec_builtin, hargs]
          exact run_v hr
        cases base with
        | none =>
          simp only [Option.some.injEq, Prod.mk.injEq] at h
          obtain ⟨rfl, rfl⟩ := h
          refine ⟨r, goInt _, w, .refl hR, .int _ _, .inl (hex ?_)⟩
          rw [inv_sliceNil hdv]
          unfold Builtin.copy_
          simp only [hT, List.getElem?_toArray, List.getElem?_cons_zero, List.getElem?_cons_succ]
          rw [run_bind' (run_underlying hdT)]
          simp only []
          rw [run_bind' hlen, run_bind' (sizeOf?_run hsz), run_bind' (show (Builtin.firstCells size (Nat.min m len) sv).run E.P w = _ from hrun)]
          rfl
        | some ad =>
          obtain ⟨b, o, l, rfl, hl, rfl⟩ := inv_slice hdv
          simp only at h
          cases hs : storeCells? σ ⟨b, o, none⟩ cs with
          | none => rw [hs] at h; cases h
          | some σ2 =>
            rw [hs] at h
            simp only [Option.map_some, Option.some.injEq, Prod.mk.injEq] at h
            obtain ⟨rfl, rfl⟩ := h
            obtain ⟨w', hst, haft⟩ := storeCells?_sound hR (P := E.P) hl hcs hs
            refine ⟨r, goInt _, w', haft, .int _ _, .inl (hex ?_)⟩
            unfold Builtin.copy_
            simp only [hT, List.getElem?_toArray, List.getElem?_cons_zero, List.getElem?_cons_succ]
            rw [run_bind' (run_underlying hdT)]
            simp only []
            rw [run_bind' hlen, run_bind' (sizeOf?_run hsz), run_bind' (show (Builtin.firstCells size (Nat.min m len) sv).run E.P w = _ from hrun)]
            simp only []
            rw [run_bind' hst]
            rfl
    · cases h
  · cases h
end
end Go.Abs
