/- A part of the abstract runs: the program is run over an abstract heap; what holds there holds in every world that looks so. Conditions: none. -/
import Derived.Test.YthglnebobkpioaaGreatDoorAbsWop
import Derived.Laws.BytesString
namespace Go.Abs
open Go Go.RowKit

/-- what an operation that makes or writes does in the concrete world. -/
def Does (E : Env) (a : Act) (o : Oper) (N : Nat) (w0 : World) (lo ng : Nat) (r : Ren) (σ : AW) (w : World) (v : Value) (σ' : AW) : Prop :=
  ∃ r' v' w', After N w0 lo ng r σ r' σ' w' ∧ VR r' v v' ∧ ((execOp a.eval o).run E.P w = .ok (.value v') w' ∨ ((execOp a.eval o).run E.P w = .ok .skip w' ∧ v' = undef))

section
variable {E : Env} {r : Ren} {t : AT} {a : Act} {σ σ' : AW} {N lo ng : Nat} {w0 w : World}

theorem zeroRow_arr {zc : Array Value} {n : Nat} {cs : List Value} (h : zeroRow zc.toList n = some cs) : ((Array.range n).map (zc[· % zc.size]!)).toList = cs := by
  unfold zeroRow at h
  split at h
  · rename_i e; subst e; cases h; simp
  · split at h
    · cases h
    · rename_i hne hemp
      cases h
      have hpos : 0 < zc.size := by
        rcases Nat.eq_zero_or_pos zc.size with h0 | h0
        · exact absurd (by simp [Array.size_eq_zero_iff.1 h0]) hemp
        · exact h0
      rw [Array.toList_map, Array.toList_range]
      apply List.map_congr_left
      intro i _
      have hi : i % zc.size < zc.size := Nat.mod_lt _ hpos
      rw [getElem!_pos zc (i % zc.size) hi]
      simp only [Array.length_toList, List.getD_eq_getElem?_getD, Array.getElem?_toList]
      rw [Array.getElem?_eq_getElem hi]; rfl

theorem zeroRow_VL {z cs : List Value} {n : Nat} (hz : VL r z z) (h : zeroRow z n = some cs) : VL r cs cs := by
  unfold zeroRow at h
  split at h
  · cases h; exact .nil
  · split at h
    · cases h
    · rename_i hne hemp
      cases h
      have hpos : 0 < z.length := by
        cases z with
        | nil => exact absurd rfl hemp
        | cons => simp
      refine ⟨rfl, fun i v v' p q => ?_⟩
      rw [p] at q; cases q
      rw [List.getElem?_map] at p
      cases hi : (List.range n)[i]? with
      | none => rw [hi] at p; cases p
      | some k =>
        rw [hi] at p
        simp only [Option.map_some, Option.some.injEq] at p
        subst p
        have hk : k % z.length < z.length := Nat.mod_lt _ hpos
        have := List.getElem?_eq_getElem hk
        rw [List.getD_eq_getElem?_getD, this]
        exact hz.2 _ _ _ this this

theorem VL.take_all {l l' : List Value} (h : VL r l l') : VL r l (l'.take l.length) := by
  rw [h.1, List.take_length]; exact h

theorem tagOf_elem (e size : Nat) (h : size < TAGB) : tagOf e size / TAGB - 1 = e := by
  unfold tagOf TAGB at *; omega
theorem tagOf_size (e size : Nat) (h : size < TAGB) : spz (tagOf e size) = size := by
  unfold tagOf spz TAGB at *; omega
theorem spz_small {s : Nat} (h : s < TAGB) : spz s = s := Nat.mod_eq_of_lt h

theorem does_row' (s : Nat) (hR : Rel N w0 lo ng r σ w) {o : Oper} {elem : TypeId} {cs cs' : List Value} (hv : VL r cs cs') {v v' : Value}
    (hval : ∀ r' : Ren, r' σ.next = some ⟨w.heap.size, 0, 0⟩ → VR r' v v')
    (hrun : (execOp a.eval o).run E.P w = .ok (.value v') { w with heap := w.heap.push (.cells cs'.toArray elem) })
    (ht : TAGB ≤ s → s / TAGB - 1 = elem) : Does E a o N w0 lo ng r σ w v (σ.alloc (.cells cs s)) :=
  ⟨_, v', _, hR.newRow elem cs cs' s 0 (0, 0) hv.take_all (by have := hv.1; omega) (.inl rfl) (fun h => ⟨ht h, rfl⟩), hval _ (by unfold bindR; rw [if_pos rfl]), .inl hrun⟩

theorem does_row (hR : Rel N w0 lo ng r σ w) {o : Oper} {elem : TypeId} {cs cs' : List Value} (hv : VL r cs cs') {v v' : Value}
    (hval : ∀ r' : Ren, r' σ.next = some ⟨w.heap.size, 0, 0⟩ → VR r' v v')
    (hrun : (execOp a.eval o).run E.P w = .ok (.value v') { w with heap := w.heap.push (.cells cs'.toArray elem) }) :
    Does E a o N w0 lo ng r σ w v (σ.alloc (.cells cs 0)) :=
  does_row' 0 hR (elem := elem) hv hval hrun (fun h => by unfold TAGB at h; omega)

theorem wop_alloc {dst type pos after guard} {elem : TypeId} {v : Value} (hR : Rel N w0 lo ng r σ w) (h : wop E t σ ⟨dst, .alloc elem, type, pos, after, guard⟩ = some (v, σ')) :
    Does E a ⟨dst, .alloc elem, type, pos, after, guard⟩ N w0 lo ng r σ w v σ' := by
  simp only [wop] at h
  cases hz : zero? E elem with
  | none => rw [hz] at h; cases h
  | some z =>
    rw [hz] at h
    simp only [Option.map_some, Option.some.injEq, Prod.mk.injEq] at h
    obtain ⟨rfl, rfl⟩ := h
    obtain ⟨hc, hrun⟩ := zero?_run (w := w) hz
    refine does_row' (tagOf elem 0) hR (elem := elem) (cl_cells hc) (v' := .pointer (some ⟨w.heap.size, 0, none⟩)) (fun r' hr' => .ptr hr') ?_ (fun _ => tagOf_elem _ _ (by decide))
    show ((Instr.alloc elem true (.tuple #[]) >>= fun x => pure (.value x)) : Sem Next).run E.P w = _
    refine run_v ?_
    unfold Instr.alloc
    rw [run_bind' hrun]
    rfl

theorem wop_box {dst type pos after guard} {elem : TypeId} {x : Operand} {v : Value} (hf : Fr E r t a) (hR : Rel N w0 lo ng r σ w) (h : wop E t σ ⟨dst, .box elem x, type, pos, after, guard⟩ = some (v, σ')) :
    Does E a ⟨dst, .box elem x, type, pos, after, guard⟩ N w0 lo ng r σ w v σ' := by
  simp only [wop] at h
  cases hx : val E t x with
  | none => rw [hx] at h; cases h
  | some q =>
    rw [hx] at h
    simp only [Option.map_some, Option.some.injEq, Prod.mk.injEq] at h
    obtain ⟨rfl, rfl⟩ := h
    refine does_row' (tagOf elem 0) hR (elem := elem) (hf.val hx).cells (v' := .pointer (some ⟨w.heap.size, 0, none⟩)) (fun r' hr' => .ptr hr') ?_ (fun _ => tagOf_elem _ _ (by decide))
    show ((Instr.box elem (a.eval x) >>= fun x => pure (.value x)) : Sem Next).run E.P w = _
    rfl

theorem wop_buildSlice {dst type pos after guard} {T : TypeId} {len : Nat} {parts : Array (Nat × Operand)} {v : Value} (hf : Fr E r t a) (hR : Rel N w0 lo ng r σ w)
    (h : wop E t σ ⟨dst, .buildSlice T len parts, type, pos, after, guard⟩ = some (v, σ')) :
    Does E a ⟨dst, .buildSlice T len parts, type, pos, after, guard⟩ N w0 lo ng r σ w v σ' := by
  simp only [wop] at h
  split at h
  · rename_i elem hu
    unfold fillRow at h
    cases hie : E.P.info? elem with
    | none => simp [hie] at h
    | some ie =>
      cases hvs : vals E t (parts.toList.map (·.2)) with
      | none => simp [hie, hvs] at h
      | some vs =>
        cases hz : zero? E elem with
        | none => simp [hie, hvs, hz] at h
        | some z =>
          simp only [hie, hvs, hz] at h
          by_cases hbig : len * (ie.size + 1) > 2 ^ 24
          · simp [hbig] at h
          · rw [if_neg hbig] at h
            cases hzr : zeroRow z.cells.toList (len * ie.size) with
            | none => simp [hzr] at h
            | some zs =>
              simp only [hzr] at h
              cases hfl : Instr.fill (fun i => some (i * ie.size, ie.size)) zs.toArray ((parts.toList.map (·.1)).zip vs) with
              | none => simp [hfl] at h
              | some cs =>
                simp only [hfl, Option.map_some, Option.some.injEq, Prod.mk.injEq] at h
                obtain ⟨rfl, rfl⟩ := h
                obtain ⟨hc, hrun⟩ := zero?_run (w := w) hz
                obtain ⟨i', hi', hiz, _⟩ := zero?_info hz
                rw [hie] at hi'; cases hi'
                have hzz := zeroRow_VL (cl_cells (r := r) hc) hzr
                obtain ⟨cs', hfl', hcs⟩ := fill_sound _ _ _ zs.toArray zs.toArray (PL.parts (hf.vals hvs)) (by simpa using hzz) hfl
                refine does_row hR (elem := elem) hcs (v' := .slice (some ⟨w.heap.size, 0, none⟩) len len) (fun r' hr' => ?_) ?_
                · have := VR.slice (r := r') (b := σ.next) (o := 0) (n := len) (c := len) hr'
                  have hcap : capR ⟨w.heap.size, 0, 0⟩ len = len := by
                    have : len ≤ len * (ie.size + 1) := Nat.le_mul_of_pos_right _ (Nat.succ_pos _)
                    unfold capR OPEN; rw [if_pos (by omega)]
                  rw [hcap] at this
                  exact this
                · show ((Instr.buildSlice T len (parts.map fun (i, x) => (i, a.eval x)) >>= fun x => pure (.value x)) : Sem Next).run E.P w = _
                  refine run_v ?_
                  unfold Instr.buildSlice
                  rw [run_bind' (run_underlying hu)]
                  simp only []
                  have hsm : ¬ len * ie.size > 2 ^ 24 := by
                    have : len * ie.size ≤ len * (ie.size + 1) := Nat.mul_le_mul_left _ (Nat.le_succ _)
                    omega
                  rw [run_bind' (run_sizeOf hie), if_neg hsm]
                  by_cases h0 : len * ie.size = 0
                  · rw [if_pos h0]
                    have hl2 : ((Array.range (len * ie.size)).map ((#[] : Array Value)[· % (#[] : Array Value).size]!)) = zs.toArray := by
                      rw [h0] at hzr ⊢
                      simp [zeroRow] at hzr
                      subst hzr
                      simp
                    rw [run_bind' (run_pure _)]
                    simp only [hl2, hfl']
                    rfl
                  · rw [if_neg h0]
                    have hl2 : ((Array.range (len * ie.size)).map (z.cells[· % z.cells.size]!)) = zs.toArray := Array.toList_inj.1 (zeroRow_arr hzr)
                    rw [run_bind' hrun, run_bind' (run_pure _)]
                    simp only [hl2, hfl']
                    rfl
  · cases h
end
end Go.Abs
