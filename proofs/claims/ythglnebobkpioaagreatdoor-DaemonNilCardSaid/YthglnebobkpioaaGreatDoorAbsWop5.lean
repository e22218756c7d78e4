/- A part of the abstract runs: the program is run over an abstract heap; what holds there holds in every world that looks so. Conditions: none. -/
import Derived.Test.YthglnebobkpioaaGreatDoorAbsWop4
namespace Go.Abs
open Go Go.RowKit
section
variable {E : Env} {r : Ren} {t : AT} {a : Act} {σ σ' : AW} {N lo ng : Nat} {w0 w : World}

theorem freeze_heap (w : World) (B n k : Nat) : (w.freeze ⟨B, n, none⟩ 1).heap[k]? = if k = B then (w.heap[B]?).map fun
      | .cells c elem (lo, hi) => .cells c elem (if lo == hi then (n, n + 1) else (min lo n, max hi (n + 1)))
      | o => o else w.heap[k]? := by
  unfold World.freeze
  simp only [Nat.succ_ne_self, if_false, Array.getElem?_modify]
  by_cases e : k = B
  · subst e
    simp only [if_true]
    cases w.heap[k]? with
    | none => rfl
    | some o => cases o <;> rfl
  · rw [if_neg e, if_neg (fun e' => e e'.symm)]

theorem freeze_size (w : World) (ad : Addr) : (w.freeze ad 1).heap.size = w.heap.size := by unfold World.freeze; simp

theorem freeze_cell (w : World) (B n : Nat) (p : Addr) : (w.freeze ⟨B, n, none⟩ 1).cell? p = w.cell? p := by
  unfold World.cell?
  rw [freeze_heap]
  by_cases e : p.block = B
  · rw [if_pos e, e]
    cases w.heap[B]? with
    | none => rfl
    | some o => cases o <;> rfl
  · rw [if_neg e]

/-- a mark behind the end of a row. -/
theorem Rel.freezeEnd (h : Rel N w0 lo ng r σ w) {B : Nat} {c : Array Value} {e : TypeId} {f : Nat × Nat} (hB : N ≤ B) (hc : w.heap[B]? = some (.cells c e f))
    (hfree : ∀ k a l, σ.heap.get k = some a → r k = some l → l.blk = B → isRow a = true) :
    Rel N w0 lo ng r σ (w.freeze ⟨B, c.size, none⟩ 1) where
  obj k o hk := by
    obtain ⟨l, x, y, z⟩ := h.obj k o hk
    refine ⟨l, x, by rw [freeze_size]; exact y, ?_⟩
    cases o with
    | cells cs s =>
      exact ⟨fun i v hv => by obtain ⟨v', p, q⟩ := z.1 i v hv; exact ⟨v', by rw [freeze_cell]; exact p, q⟩, fun i h1 h2 => by obtain ⟨v', p⟩ := z.2.1 i h1 h2; exact ⟨v', by rw [freeze_cell]; exact p⟩,
        fun ht => by
          have hne : l.blk ≠ B := fun e => by
            have := hfree k _ l hk x e
            simp only [isRow, decide_eq_true_eq] at this; omega
          rw [freeze_heap, if_neg hne]; exact z.2.2 ht⟩
    | map es ck =>
      obtain ⟨es', p, q⟩ := z
      refine ⟨es', ?_, q⟩
      rw [freeze_heap]
      split
      · rename_i e'; rw [e', hc] at p; cases p
      · exact p
    | iter s p =>
      refine ⟨?_, z.2⟩
      rw [freeze_heap]
      split
      · rename_i e'; have := z.1; rw [e', hc] at this; cases this
      · exact z.1
  own k o l hk hl hlo := by
    obtain ⟨x, y⟩ := h.own k o l hk hl hlo
    refine ⟨x, fun hr => ?_⟩
    have hy := y hr
    intro c' e' f' hh
    rw [freeze_heap] at hh
    split at hh
    · rename_i eb
      rw [hc] at hh
      simp only [Option.map_some, Option.some.injEq, Obj.cells.injEq] at hh
      obtain ⟨rfl, rfl, hf⟩ := hh
      have hold := hy c e f (by rw [eb]; exact hc)
      right
      by_cases h1 : f.1 = f.2
      · simp [h1] at hf
        rw [← hf]
        exact Nat.le_refl _
      · have h2 := hold.resolve_left h1
        simp [h1] at hf
        rw [← hf]
        simp only
        omega
    · exact hy c' e' f' hh
  sep := h.sep
  new := h.new
  glob := h.glob
  low := h.low
  lon := h.lon
  base := h.base
  keep := h.keep.trans ⟨rfl, rfl, rfl, by rw [freeze_size]; exact Nat.le_refl _, fun k hk => by rw [freeze_heap, if_neg (by omega)]⟩

theorem run_freeze' {P : Program} {w : World} {ad : Addr} {n : Nat} : (freeze ad n).run P w = .ok () (w.freeze ad n) := rfl
theorem run_shape' {P : Program} {w : World} {b : Nat} : (shape b).run P w = .ok (w.shape? b) w := rfl

theorem markStringish_run {P : Program} {w : World} {B o : Nat} {c : Array Value} {e : TypeId} {f : Nat × Nat} (hc : w.heap[B]? = some (.cells c e f)) :
    (markStringish ⟨B, o, none⟩).run P w = .ok () (w.freeze ⟨B, c.size, none⟩ 1) := by
  unfold markStringish
  rw [run_bind' run_shape']
  have : w.shape? B = some (e, c.size) := by unfold World.shape?; rw [hc]
  simp only [this]
  rfl

theorem run_choose_cap {P : Program} {w : World} {need old : Nat} {elem : TypeId} : ∃ x, (choose (.appendCap need old elem)).run P w = .ok (need + x) { w with drawn := w.drawn + 1 } :=
  ⟨w.tape w.drawn (.appendCap need old elem) % (2 ^ 63 - need), by simp [choose, Sem.run, Question.forced, Question.cut]⟩

theorem bytes?_map : ∀ {cs : List Value} {ns : List Int}, bytes? cs = some ns → cs = ns.map (Value.int .u8) := by
  intro cs
  induction cs with
  | nil => intro ns h; cases h; rfl
  | cons c cs ih =>
    intro ns h
    unfold bytes? at h
    split at h
    · rename_i e; cases e
    · rename_i n rest e
      cases e
      cases hb : bytes? cs with
      | none => rw [hb] at h; cases h
      | some l => rw [hb] at h; cases h; rw [ih hb]; rfl
    · cases h

theorem foldl_push : ∀ (ns : List Int) (s : ByteArray), ns.foldl (fun r n => r.push (UInt8.ofNat n.toNat)) s = ⟨s.data ++ (ns.map fun n => UInt8.ofNat n.toNat).toArray⟩ := by
  intro ns
  induction ns with
  | nil => intro s; cases s; simp
  | cons n ns ih =>
    intro s
    rw [List.foldl_cons, ih]
    cases s with
    | mk d =>
      simp only [ByteArray.push, List.map_cons]
      congr 1
      apply Array.toList_inj.1
      simp

theorem inv_anySlice {ad : Option Addr} {n cp : Nat} {v' : Value} (h : VR r (.slice ad n cp) v') : ∃ ad' cp', v' = .slice ad' n cp' := by
  cases h with
  | sliceNil => exact ⟨_, _, rfl⟩
  | slice => exact ⟨_, _, rfl⟩

theorem wop_convert {dst type pos after guard} {S T : TypeId} {x : Operand} {v : Value} (hf : Fr E r t a) (hR : Rel N w0 lo ng r σ w) (h : wop E t σ ⟨dst, .convert S T x, type, pos, after, guard⟩ = some (v, σ')) :
    Does E a ⟨dst, .convert S T x, type, pos, after, guard⟩ N w0 lo ng r σ w v σ' := by
  have hex : ∀ {v' w'}, (convert S T (a.eval x)).run E.P w = .ok v' w' → (execOp a.eval ⟨dst, .convert S T x, type, pos, after, guard⟩).run E.P w = .ok (.value v') w' := by
    intro v' w' hr
    show ((convert S T (a.eval x) >>= fun x => pure (.value x)) : Sem Next).run E.P w = _
    exact run_v hr
  simp only [wop] at h
  split at h
  · -- a string's bytes
    rename_i d e s hS hT hx
    split at h
    · rename_i he
      simp only [Option.some.injEq, Prod.mk.injEq] at h
      obtain ⟨rfl, rfl⟩ := h
      have hev := inv_str (hf.val hx)
      obtain ⟨ex, hch⟩ := run_choose_cap (P := E.P) (w := w) (need := s.size) (old := 0) (elem := e)
      let cs' : List Value := (s.data.toList.map fun b => Value.int .u8 b.toNat) ++ List.replicate ex (.int .u8 0)
      have hlen : cs'.length = s.size + ex := by
        show (_ ++ _ : List Value).length = _
        rw [List.length_append, List.length_map, List.length_replicate, Array.length_toList]; rfl
      have haft := (hR.drawn (w.drawn + 1)).newRow e (s.data.toList.map fun b => Value.int .u8 b.toNat) cs' 1 ex (0, 0)
        (by
          have : cs'.take (s.data.toList.map fun b => Value.int .u8 b.toNat).length = (s.data.toList.map fun b => Value.int .u8 b.toNat) := by simp [cs']
          rw [this]
          exact VL.refl_cl (by rw [List.all_eq_true]; intro y hy; obtain ⟨b, _, rfl⟩ := List.mem_map.1 hy; rfl))
        (by rw [hlen, List.length_map, Array.length_toList]; show s.data.size + ex = s.data.size + ex * 1; omega) (.inl rfl) (fun h => by unfold TAGB at h; omega)
      have hnew : ({ w with drawn := w.drawn + 1, heap := w.heap.push (.cells cs'.toArray e (0, 0)) } : World).heap[w.heap.size]? = some (.cells cs'.toArray e (0, 0)) := by simp
      have hN : N ≤ w.heap.size := by have h1 := hR.keep.size; have h2 := hR.base; omega
      have hfr := haft.rel.freezeEnd hN hnew (fun k a' l' hk hl' e => by
        have hk2 : (σ.heap.set σ.next _).get k = some a' := hk
        rw [Tr.get_set] at hk2
        unfold bindR at hl'
        split at hk2
        · cases hk2; rfl
        · rename_i hne
          rw [if_neg hne] at hl'
          obtain ⟨l2, h2, h3, _⟩ := hR.obj k a' hk2
          rw [h2] at hl'; cases hl'
          omega)
      refine ⟨_, .slice (some ⟨w.heap.size, 0, none⟩) s.size (s.size + ex), _, ⟨haft.le, hfr, haft.prot, haft.same, haft.next⟩, ?_, .inl (hex ?_)⟩
      · have := VR.slice (r := bindR r σ.next ⟨w.heap.size, 0, ex⟩) (b := σ.next) (o := 0) (n := s.size) (c := OPEN + s.size) (l := ⟨w.heap.size, 0, ex⟩) (by unfold bindR; rw [if_pos rfl])
        have hcap : capR ⟨w.heap.size, 0, ex⟩ (OPEN + s.size) = s.size + ex := by unfold capR; rw [if_neg (by omega)]; simp only; omega
        rw [hcap] at this
        exact this
      · rw [hev]
        unfold convert
        rw [run_bind' (run_underlying hS), run_bind' (run_underlying hT)]
        have hconv : (Conv.stringToBytes e s).run E.P w = .ok (.slice (some ⟨w.heap.size, 0, none⟩) s.size (s.size + ex)) (({ w with drawn := w.drawn + 1, heap := w.heap.push (.cells cs'.toArray e (0, 0)) } : World).freeze ⟨w.heap.size, cs'.toArray.size, none⟩ 1) := by
          unfold Conv.stringToBytes
          rw [run_bind' hch]
          simp only []
          have harr : (s.data.map fun b => Value.int .u8 b.toNat) ++ Array.replicate (s.size + ex - s.size) (.int .u8 0) = cs'.toArray := by
            apply Array.toList_inj.1
            simp [cs']
          rw [harr]
          rw [run_bind' (m := newRow e cs'.toArray) (x := ⟨w.heap.size, 0, none⟩) (w' := { w with drawn := w.drawn + 1, heap := w.heap.push (.cells cs'.toArray e (0, 0)) }) (by rfl)]
          rw [run_bind' (markStringish_run hnew)]
          rfl
        cases d <;> (simp only []; rw [run_bind' (run_underlying he)]; exact hconv)
    · cases h
  · -- a constant's bytes
    rename_i d e ad n c hS hT hx
    split at h
    · rename_i y0 ys s0 he hcs
      split at h
      · rename_i hc
        rw [Bool.and_eq_true, Bool.and_eq_true, beq_iff_eq, decide_eq_true_eq] at hc
        obtain ⟨⟨rfl, hmay⟩, hsm⟩ := hc
        simp only [Option.some.injEq, Prod.mk.injEq] at h
        obtain ⟨rfl, rfl⟩ := h
        obtain ⟨b, o, l, rfl, hl, hev⟩ := inv_slice (hf.val hx)
        have hg := cells?_get hcs
        obtain ⟨hN, _⟩ := hR.own b _ l hg hl (hR.lo_le hmay)
        obtain ⟨l', hl', hlt, hobj⟩ := hR.obj b _ hg
        rw [hl] at hl'; cases hl'
        obtain ⟨v0, hv0, _⟩ := hobj.1 0 y0 rfl
        have hrow : ∃ c1 e1 f1, w.heap[l.blk]? = some (.cells c1 e1 f1) := by
          unfold World.cell? Loc.at at hv0
          cases hb : w.heap[l.blk]? with
          | none => simp [hb] at hv0
          | some ob => cases ob <;> first | exact ⟨_, _, _, rfl⟩ | simp [hb] at hv0
        obtain ⟨c1, e1, f1, hc1⟩ := hrow
        refine ⟨r, _, _, ⟨.refl r, hR.freezeEnd hN hc1 (fun k a' l2 hk hl2 e => by
          by_cases hkb : k = b
          · subst hkb; rw [hg] at hk; cases hk; simpa [isRow] using hsm
          · exact (hR.sep b k _ a' l l2 (fun e => hkb e.symm) (hR.lo_le hmay) hg hk hl hl2 e.symm).2.1), rfl, fun _ _ _ => rfl, Nat.le_refl _⟩, .slice hl, .inl (hex ?_)⟩
        rw [hev]
        unfold convert
        rw [run_bind' (run_underlying hS), run_bind' (run_underlying hT)]
        simp only []
        rw [run_bind' (run_underlying he)]
        simp only [beq_self_eq_true]
        rw [run_bind' (show (markStringish (l.at o)).run E.P w = _ from markStringish_run (o := l.base + o) hc1)]
        rfl
      · cases h
    · cases h
  · -- a string of bytes
    rename_i e y hS hT hx
    split at h
    · rename_i ad n cp he
      cases hb : (firstCells? σ 1 n (.slice ad n cp)).bind bytes? with
      | none => rw [hb] at h; cases h
      | some ns =>
        rw [hb] at h
        simp only [Option.some.injEq, Prod.mk.injEq] at h
        obtain ⟨rfl, rfl⟩ := h
        cases hfc : firstCells? σ 1 n (.slice ad n cp) with
        | none => rw [hfc] at hb; cases hb
        | some cs =>
          rw [hfc] at hb
          have hcs := bytes?_map hb
          have hvx := hf.val hx
          obtain ⟨cs', hvs, hrun⟩ := firstCells?_sound (P := E.P) hvx hfc hR.blks
          have hcl : cs' = cs := VL.cl_eq (by rw [hcs, List.all_eq_true]; intro y hy; obtain ⟨b, _, rfl⟩ := List.mem_map.1 hy; rfl) hvs
          subst hcl
          refine ⟨r, .string ⟨(ns.map fun n => UInt8.ofNat n.toNat).toArray⟩, w, .refl hR, .str _, .inl (hex ?_)⟩
          unfold convert
          rw [run_bind' (run_underlying hS), run_bind' (run_underlying hT)]
          obtain ⟨ad', cp', hev⟩ := inv_anySlice hvx
          rw [hev] at hrun ⊢
          simp only []
          rw [run_bind' (run_underlying he)]
          cases ad' with
          | none =>
            have : cs' = [] := by
              have h2 : (Builtin.firstCells 1 n (.slice none n cp')).run E.P w = .ok #[] w := rfl
              rw [h2] at hrun
              cases cs' with
              | nil => rfl
              | cons => simp at hrun
            rw [this] at hcs
            cases ns with
            | nil => rfl
            | cons => simp at hcs
          | some p =>
            have h2 : (loadCells p n).run E.P w = .ok (ns.map (Value.int .u8)).toArray w := by
              rw [← hcs]
              have : (Builtin.firstCells 1 n (.slice (some p) n cp')) = loadCells p (n * 1) := rfl
              rw [this, Nat.mul_one] at hrun
              exact hrun
            have := run_bytesToString w p n cp' ns h2
            rw [foldl_push] at this
            simpa using this
    · cases h
  · cases h
end
end Go.Abs
