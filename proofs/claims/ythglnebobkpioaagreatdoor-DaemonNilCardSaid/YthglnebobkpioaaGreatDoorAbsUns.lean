/- A part of the abstract runs: the program is run over an abstract heap; what holds there holds in every world that looks so. Conditions: none. -/
import Derived.Test.YthglnebobkpioaaGreatDoorAbsWop8
namespace Go.Abs
open Go Go.RowKit
section
variable {E : Env} {r : Ren} {t : AT} {a : Act} {σ σ' : AW} {N lo ng : Nat} {w0 w : World}

theorem freezeN_other (w : World) (ad : Addr) (n k : Nat) (h : k ≠ ad.block) : (w.freeze ad n).heap[k]? = w.heap[k]? := by
  unfold World.freeze
  split
  · rfl
  · simp only [Array.getElem?_modify]
    rw [if_neg (fun e => h e.symm)]

theorem freezeN_size (w : World) (ad : Addr) (n : Nat) : (w.freeze ad n).heap.size = w.heap.size := by
  unfold World.freeze
  split
  · rfl
  · simp

theorem freezeN_rest (w : World) (ad : Addr) (n : Nat) : (w.freeze ad n).os = w.os ∧ (w.freeze ad n).tape = w.tape ∧ (w.freeze ad n).output = w.output := by
  unfold World.freeze
  split <;> exact ⟨rfl, rfl, rfl⟩

/-- a block that nothing of the state describes is frozen. -/
theorem Rel.freezeN (h : Rel N w0 lo ng r σ w) (ad : Addr) (n : Nat) (hB : N ≤ ad.block) (hfree : ∀ k a l, σ.heap.get k = some a → r k = some l → l.blk ≠ ad.block) :
    Rel N w0 lo ng r σ (w.freeze ad n) where
  obj k a hk := by
    obtain ⟨l, x, y, z⟩ := h.obj k a hk
    exact ⟨l, x, by rw [freezeN_size]; exact y, z.block (freezeN_other _ _ _ _ (hfree k a l hk x))⟩
  own k a l hk hl hlo := by
    obtain ⟨x, y⟩ := h.own k a l hk hl hlo
    exact ⟨x, fun hi => (y hi).block (freezeN_other _ _ _ _ (hfree k a l hk hl))⟩
  sep := h.sep
  new := h.new
  glob := h.glob
  low := h.low
  lon := h.lon
  base := h.base
  keep := h.keep.trans ⟨(freezeN_rest w ad n).1, (freezeN_rest w ad n).2.1, (freezeN_rest w ad n).2.2, by rw [freezeN_size]; exact Nat.le_refl _, fun k hk => freezeN_other _ _ _ _ (by omega)⟩

theorem run_loadBytesU {P : Program} {w : World} {B : Nat} : ∀ (ns : List Int) (o : Nat) (acc : ByteArray), (∀ j x, ns[j]? = some x → w.cell? ⟨B, o + j, none⟩ = some (.int .u8 x)) →
    (loadBytes ⟨B, o, none⟩ acc ns.length).run P w = .ok (ns.foldl (fun r n => r.push (UInt8.ofNat n.toNat)) acc) w := by
  intro ns
  induction ns with
  | nil => intro o acc _; rfl
  | cons n ns ih =>
    intro o acc h
    have h0 := h 0 n rfl
    rw [Nat.add_zero] at h0
    show (loadBytes ⟨B, o, none⟩ acc (ns.length + 1)).run P w = _
    unfold loadBytes
    rw [run_bind' (run_load P w _ _ h0)]
    simp only []
    rw [addr_add]
    exact ih (o + 1) _ (fun j x hj => by have := h (j + 1) x (by simpa using hj); rw [← this]; congr 2; omega)

theorem rowAt_count {p : Program} {fits : TypeId → Bool} {d : Nat} {e : TypeId} {c c' off n : Nat} (hc : c ≤ c') (h : rowAt p fits d e c off n = true) : rowAt p fits d e c' off n = true := by
  cases d with
  | zero => simp [rowAt] at h
  | succ d =>
    unfold rowAt at h ⊢
    simp only at h ⊢
    split at h
    · cases h
    · rename_i hs
      rw [if_neg hs]
      rw [Bool.or_eq_true] at h ⊢
      rcases h with h | h
      · left
        simp only [Bool.and_eq_true, beq_iff_eq, decide_eq_true_eq] at h ⊢
        exact ⟨⟨h.1.1, by omega⟩, h.2⟩
      · right
        rw [Bool.and_eq_true, decide_eq_true_eq] at h ⊢
        exact ⟨by omega, h.2⟩

theorem liesAt_count {p : Program} : ∀ {d : Nat} {e u : TypeId} {c c' off n : Nat}, c ≤ c' → liesAt p d e c off u n = true → liesAt p d e c' off u n = true := by
  intro d
  induction d with
  | zero => intro e u c c' off n _ h; simp [liesAt] at h
  | succ d ih =>
    intro e u c c' off n hc h
    unfold liesAt at h ⊢
    rw [Bool.or_eq_true] at h ⊢
    rcases h with h | h
    · exact .inl (rowAt_count hc h)
    · right
      split at h
      · exact ih hc h
      · cases h

theorem natOf_nat {v : Value} {n : Nat} (h : natOf v = some n) : ∃ k : IntKind, v = .int k (n : Int) := by
  unfold natOf at h
  split at h
  · rename_i k m
    split at h
    · rename_i h0
      cases h
      exact ⟨k, by rw [Int.toNat_of_nonneg h0]⟩
    · cases h
  · cases h

theorem wop_unsafeString {dst type pos after guard} {args : Array Operand} {argTypes : Array TypeId} {v : Value} (hf : Fr E r t a) (hR : Rel N w0 lo ng r σ w)
    (h : wop E t σ ⟨dst, .call ⟨.builtin .unsafeString, args, argTypes⟩, type, pos, after, guard⟩ = some (v, σ')) :
    Does E a ⟨dst, .call ⟨.builtin .unsafeString, args, argTypes⟩, type, pos, after, guard⟩ N w0 lo ng r σ w v σ' := by
  simp only [wop] at h
  split at h
  · rename_i p n elem hvs hu
    obtain ⟨T, hT, hdT⟩ := bind_under hu
    obtain ⟨pv, nv, hargs, hpv, hnv⟩ := arr_two (hf.vals hvs)
    split at h
    · rename_i k hk
      obtain ⟨kd, rfl⟩ := natOf_nat hk
      have hnv : nv = .int kd (k : Int) := inv_int hnv
      subst hnv
      have hex : ∀ {v' w'}, (Builtin.unsafeString_ argTypes type #[pv, .int kd k]).run E.P w = .ok v' w' →
          (execOp a.eval ⟨dst, .call ⟨.builtin .unsafeString, args, argTypes⟩, type, pos, after, guard⟩).run E.P w = .ok (.value v') w' := by
        intro v' w' hr
        rw [exec_builtin, hargs]
        exact run_v hr
      have hneg : ¬ ((k : Int) < 0) := by omega
      split at h
      · rename_i hk0
        cases h
        subst hk0
        refine ⟨r, _, w, .refl hR, .str _, .inl (hex ?_)⟩
        cases hpv with
        | ptrNil =>
          show ((asInt (.int kd ((0 : Nat) : Int)) >>= _) : Sem Value).run E.P w = _
          rw [run_bind' (show (asInt (.int kd ((0 : Nat) : Int))).run E.P w = .ok 0 w from rfl)]
          simp only [hT]
          rfl
        | ptr hl =>
          show ((asInt (.int kd ((0 : Nat) : Int)) >>= _) : Sem Value).run E.P w = _
          rw [run_bind' (show (asInt (.int kd ((0 : Nat) : Int))).run E.P w = .ok 0 w from rfl)]
          simp only [hT]
          rfl
      · rename_i hk0
        split at h
        · rename_i ad
          split at h
          · rename_i c s hg
            split at h
            · rename_i hcond
              obtain ⟨hmay, htag, hk40, hlies⟩ := hcond
              split at h
              · rename_i ns hb
                cases h
                obtain ⟨b, o, l, rfl, hl, rfl⟩ := inv_ptr hpv
                obtain ⟨l', hl', hlt, hob⟩ := hR.obj b _ hg
                rw [hl] at hl'; cases hl'
                obtain ⟨hN, hfz⟩ := hR.own b _ l hg hl (hR.lo_le hmay)
                obtain ⟨hb0, hsh⟩ := tag_shape hob htag
                cases htk : take? c o k with
                | none => rw [htk] at hb; cases hb
                | some cs =>
                  rw [htk] at hb
                  have hcs := bytes?_map hb
                  obtain ⟨vs', hvl, hvn, hcell⟩ := take_read hob.1 htk
                  have hcl : vs' = cs := VL.cl_eq (by rw [hcs, List.all_eq_true]; intro y hy; obtain ⟨b, _, rfl⟩ := List.mem_map.1 hy; rfl) hvl
                  subst hcl
                  have hlen : ns.length = k := by rw [← hvn, hcs, List.length_map]
                  refine ⟨r, _, w.freeze (l.at o) k, ⟨.refl r, ?_, rfl, fun x hx hm => ?_, Nat.le_refl _⟩, .str _, .inl (hex ?_)⟩
                  · refine (hR.kill b).freezeN (l.at o) k hN (fun k' a' l2 hk' hl2 e => ?_)
                    rw [AW.get_upd] at hk'
                    split at hk'
                    · cases hk'
                    · rename_i hne
                      have := (hR.sep b k' _ a' l l2 (fun e => hne e.symm) (hR.lo_le hmay) hg hk' hl hl2 e.symm).1
                      simp only [isRow, decide_eq_true_eq] at this
                      omega
                  · rw [AW.get_upd]
                    split
                    · rename_i e; subst e; rw [hmay] at hm; cases hm
                    · rfl
                  · show ((asInt (.int kd (k : Int)) >>= _) : Sem Value).run E.P w = _
                    rw [run_bind' (show (asInt (.int kd (k : Int))).run E.P w = .ok (k : Int) w from rfl)]
                    simp only [hT]
                    have hki : ¬ ((k : Int) = 0) := by omega
                    have hbig : ¬ ((k : Int) > IntKind.i64.max) := by
                      have : IntKind.i64.max = 9223372036854775807 := by rfl
                      omega
                    have hel : (elemOf T).run E.P w = .ok elem w := by
                      unfold elemOf
                      rw [run_bind' (run_underlying hdT)]; rfl
                    have hoff : (l.at o).off = o := by show l.base + o = o; omega
                    have hvar : (variablesAt (l.at o) elem (k : Int).toNat).run E.P w = .ok true w := by
                      rw [variablesAt_run (a := l.at o) hsh, hoff, Int.toNat_natCast, liesAt_count (Nat.div_le_div_right (by omega)) hlies]
                    have hload : (loadBytes (l.at o) .empty (k : Int).toNat).run E.P w = .ok (ns.foldl (fun r n => r.push (UInt8.ofNat n.toNat)) .empty) w := by
                      rw [Int.toNat_natCast, ← hlen]
                      exact run_loadBytesU ns (l.base + o) .empty (fun j x hj => by
                        have := hcell j (.int .u8 x) (by rw [hcs, List.getElem?_map, hj]; rfl)
                        rw [← this]; unfold Loc.at; congr 2; omega)
                    rw [if_neg hneg, if_neg hbig, if_neg hki]
                    rw [run_bind' hel, run_bind' hvar]
                    simp only [if_true]
                    rw [run_bind' hload, run_bind' run_freeze']
                    rw [foldl_push]
                    rw [Int.toNat_natCast]
                    simp
              · cases h
            · cases h
          · cases h
        · cases h
    · cases h
  · cases h
end
end Go.Abs
