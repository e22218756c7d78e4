/- A part of the abstract runs: the program is run over an abstract heap; what holds there holds in every world that looks so. Conditions: none. -/
import Derived.Test.YthglnebobkpioaaGreatDoorAbsWop3
namespace Go.Abs
open Go Go.RowKit
section
variable {E : Env} {r : Ren} {t : AT} {a : Act} {σ σ' : AW} {N lo ng : Nat} {w0 w : World}

/-! ### Rows, read -/
theorem firstCells?_sound {P : Program} {size n : Nat} {v v' : Value} {cs : List Value} (hv : VR r v v') (h : firstCells? σ size n v = some cs) (hb : ∀ b, BlkR r σ w b) :
    ∃ cs', VL r cs cs' ∧ (Builtin.firstCells size n v').run P w = .ok cs'.toArray w := by
  unfold firstCells? at h
  split at h
  · cases h
    rw [inv_sliceNil hv]
    exact ⟨[], .nil, rfl⟩
  · rename_i ad n' c'
    obtain ⟨b, o, l, rfl, hl, rfl⟩ := inv_slice hv
    split at h
    · rename_i c s hc
      obtain ⟨l', hl', hrow⟩ := (hb b).row hc
      rw [hl] at hl'; cases hl'
      obtain ⟨vs', hvs, hn, hcell⟩ := take_read hrow h
      refine ⟨vs', hvs, ?_⟩
      show (loadCells (l.at o) (n * size)).run P w = _
      have hr := loadCells_run P l.blk (l.base + o) w (n * size) 0 #[] vs' hn (fun j x hx => by
        have : w.cell? (l.at (o + j)) = some x := hcell j x hx
        rw [← this]; unfold Loc.at; congr 2; omega)
      unfold loadCells
      rw [show (loadCellsFrom (l.at o) 0 (n * size) #[]).run P w = _ from hr]
      simp
    · cases h
  · rename_i s
    cases h
    rw [inv_str hv]
    refine ⟨_, VL.refl_cl (by rw [List.all_eq_true]; intro x hx; obtain ⟨b, _, rfl⟩ := List.mem_map.1 hx; rfl), ?_⟩
    show (pure ((s.extract 0 n).data.map fun b => Value.int .u8 b.toNat) : Sem _).run P w = _
    rw [run_pure]
    congr 1
    apply Array.toList_inj.1
    simp
  · cases h

theorem Rel.blks (h : Rel N w0 lo ng r σ w) : ∀ b, BlkR r σ w b := h.blk

/-! ### Objects that are no rows -/
theorem Rel.updObj (h : Rel N w0 lo ng r σ w) {b : Nat} {o o' : AObj} {l : Loc} (ob : Obj) (hg : σ.heap.get b = some o) (hl : r b = some l) (hm : σ.may b = true) (hrow : isCells o = false) (hrow' : isCells o' = false)
    (ho : ObjAt r { w with heap := w.heap.setIfInBounds l.blk ob } l o') : After N w0 lo ng r σ r (σ.upd b (some o')) { w with heap := w.heap.setIfInBounds l.blk ob } := by
  have hlo := h.lo_le hm
  obtain ⟨hN, _⟩ := h.own b o l hg hl hlo
  obtain ⟨l', hl', hlt, _⟩ := h.obj b o hg
  rw [hl] at hl'; cases hl'
  refine ⟨.refl r, ?_, rfl, fun k _ hk => ?_, Nat.le_refl _⟩
  · have hset := (h.kill b).setObj ob hN (fun k a x hk hx e => by
      rw [AW.get_upd] at hk
      split at hk
      · cases hk
      · rename_i hne
        obtain ⟨r1, _, _⟩ := h.sep b k o a l x (fun e => hne e.symm) (h.lo_le hm) hg hk hl hx e.symm
        rw [notRow hrow] at r1; cases r1)
    have := hset.put (b := b) (l := l) (o := o') (h.live hg) hl (by simpa using hlt) ho (fun _ => ⟨hN, fun hi => by rw [hrow'] at hi; cases hi⟩)
      (fun b' o2 l2 hne hb' hl2 e => by
        rw [AW.get_upd, if_neg hne] at hb'
        obtain ⟨r1, _, _⟩ := h.sep b b' o o2 l l2 (fun e => hne e.symm) (h.lo_le hm) hg hb' hl hl2 e
        rw [notRow hrow] at r1; cases r1)
    exact {
      obj := fun k a hk => this.obj k a (by rw [AW.get_upd, AW.get_upd]; rw [AW.get_upd] at hk; split <;> simp_all)
      own := fun k a x hk => this.own k a x (by rw [AW.get_upd, AW.get_upd]; rw [AW.get_upd] at hk; split <;> simp_all)
      sep := fun k k' a a' x x' hne hlo hk hk' => this.sep k k' a a' x x' hne hlo (by rw [AW.get_upd, AW.get_upd]; rw [AW.get_upd] at hk; split <;> simp_all) (by rw [AW.get_upd, AW.get_upd]; rw [AW.get_upd] at hk'; split <;> simp_all)
      new := fun k hk => ⟨(h.new k hk).1, by rw [AW.get_upd, if_neg (by have := h.live hg; have hk' : σ.next ≤ k := hk; omega)]; exact (h.new k hk).2⟩
      glob := h.glob, low := h.low, lon := h.lon, base := h.base, keep := this.keep }
  · rw [AW.get_upd]
    split
    · rename_i e; subst e; rw [hm] at hk; cases hk
    · rfl

theorem run_setObj {P : Program} {w : World} {b : Nat} {o ob : Obj} (h : w.heap[b]? = some o) (hn : ∀ c e f, o ≠ .cells c e f) : (setObj b ob).run P w = .ok () { w with heap := w.heap.setIfInBounds b ob } := by
  unfold setObj
  cases o <;> first | (exact absurd rfl (hn _ _ _)) | simp [Sem.run, h]

theorem get_set_same {w : World} {b : Nat} {ob : Obj} (h : b < w.heap.size) : ({ w with heap := w.heap.setIfInBounds b ob } : World).heap[b]? = some ob := by
  simp [h]

theorem wop_range {dst type pos after guard} {T : TypeId} {x : Operand} {v : Value} (hf : Fr E r t a) (hR : Rel N w0 lo ng r σ w) (h : wop E t σ ⟨dst, .range T x, type, pos, after, guard⟩ = some (v, σ')) :
    Does E a ⟨dst, .range T x, type, pos, after, guard⟩ N w0 lo ng r σ w v σ' := by
  simp only [wop] at h
  split at h
  · rename_i s hu hx
    simp only [Option.some.injEq, Prod.mk.injEq] at h
    obtain ⟨rfl, rfl⟩ := h
    refine ⟨_, .pointer (some ⟨w.heap.size, 0, none⟩), _, hR.newObj (.iter s 0) (.stringIter s 0) rfl ⟨by simp, rfl⟩, .ptr (l := ⟨w.heap.size, 0, 0⟩) (by unfold bindR; rw [if_pos rfl]), .inl ?_⟩
    show ((Instr.range T (a.eval x) >>= fun x => pure (.value x)) : Sem Next).run E.P w = _
    refine run_v ?_
    rw [inv_str (hf.val hx)]
    unfold Instr.range
    rw [run_bind' (run_underlying hu)]
    rfl
  · cases h

theorem wop_next {dst type pos after guard} {x : Operand} {v : Value} {b : Bool} (hf : Fr E r t a) (hR : Rel N w0 lo ng r σ w) (h : wop E t σ ⟨dst, .next x b, type, pos, after, guard⟩ = some (v, σ')) :
    Does E a ⟨dst, .next x b, type, pos, after, guard⟩ N w0 lo ng r σ w v σ' := by
  cases b with
  | false => simp [wop] at h
  | true =>
    simp only [wop] at h
    split at h
    · rename_i rr sp hx
      split at h
      · rename_i s p hg
        obtain ⟨bb, o, l, e, hl, hev⟩ := inv_ptr (hf.val hx)
        cases e
        obtain ⟨l', hl', hlt, hobj, hbase⟩ := hR.obj rr _ hg
        rw [hl] at hl'; cases hl'
        have hat : l.at 0 = ⟨l.blk, 0, none⟩ := by unfold Loc.at; rw [hbase]
        have hgo : ((getObj l.blk).run E.P w) = .ok (.stringIter s p) w := run_getObj hobj (fun _ _ _ e => (nomatch e))
        split at h
        · rename_i hlt'
          split at h
          · rename_i hmay
            simp only [Option.some.injEq, Prod.mk.injEq] at h
            obtain ⟨rfl, rfl⟩ := h
            refine ⟨r, .tuple #[.bool true, goInt p, .int .i32 (Utf8.decode s p).1], _, hR.updObj (.stringIter s (p + (Utf8.decode s p).2)) hg hl hmay rfl rfl ⟨get_set_same hlt, hbase⟩,
              by rw [VR.tuple_iff]; exact .cons (.bool _) (.cons (.int _ _) (.cons (.int _ _) .nil)), .inl ?_⟩
            show ((Instr.next (a.eval x) true type >>= fun x => pure (.value x)) : Sem Next).run E.P w = _
            refine run_v ?_
            rw [hev, hat]
            unfold Instr.next
            simp only []
            rw [run_bind' hgo]
            simp only [hlt', if_true]
            rw [run_bind' (run_setObj hobj (fun _ _ _ e => (nomatch e)))]
            rfl
          · cases h
        · rename_i hge
          simp only [Option.some.injEq, Prod.mk.injEq] at h
          obtain ⟨rfl, rfl⟩ := h
          refine ⟨r, .tuple #[.bool false], w, .refl hR, by rw [VR.tuple_iff]; exact .cons (.bool _) .nil, .inl ?_⟩
          show ((Instr.next (a.eval x) true type >>= fun x => pure (.value x)) : Sem Next).run E.P w = _
          refine run_v ?_
          rw [hev, hat]
          unfold Instr.next
          simp only []
          rw [run_bind' hgo]
          simp only [hge, if_false]
          rfl
      · cases h
    · cases h
end
end Go.Abs
