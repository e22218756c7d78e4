/- A part of the abstract runs: the program is run over an abstract heap; what holds there holds in every world that looks so. Conditions: none. -/
import Derived.Test.YthglnebobkpioaaGreatDoorAbsRop3
namespace Go.Abs
open Go Go.RowKit
section
variable {E : Env} {r : Ren} {t : AT} {a : Act} {σ : AW}

theorem info_of_size {T : TypeId} {n : Nat} (h : sizeOf? E T = some n) : ∃ i, E.P.info? T = some i ∧ i.size = n := by
  unfold sizeOf? at h
  cases hi : E.P.info? T with
  | none => rw [hi] at h; cases h
  | some i => rw [hi] at h; cases h; exact ⟨i, rfl, rfl⟩

theorem add_at {b o n : Nat} {l : Loc} (hl : r b = some l) : VR r (.pointer (some ((⟨b, o, none⟩ : Addr).add n))) (.pointer (some ((l.at o).add n))) := by
  rw [addr_add, Loc.at_add]; exact .ptr hl

theorem rop_fieldAddr {dst type pos after guard} {S : TypeId} {x : Operand} {f : Nat} {v : Value} {bs : List Nat} (hf : Fr E r t a) (h : rop E t σ ⟨dst, .fieldAddr S x f, type, pos, after, guard⟩ = some (v, bs)) :
    Reads E a ⟨dst, .fieldAddr S x f, type, pos, after, guard⟩ r σ v bs := by
  simp only [rop] at h
  split at h
  · rename_i ad fields hx hS
    split at h
    · rename_i fd hfd
      split at h
      · rename_i n hn
        split at h
        · cases h
        · rename_i hne
          cases h
          obtain ⟨b, o, l, rfl, hl, hev⟩ := inv_ptr (hf.val hx)
          refine ⟨_, add_at hl, fun w _ => ?_⟩
          show ((Instr.fieldAt S (a.eval x) f >>= fun x => pure (.value x)) : Sem Next).run E.P w = _
          refine run_v ?_
          unfold Instr.fieldAt
          rw [run_bind' (run_underlying hS)]
          simp only [hfd]
          rw [hev]
          unfold Instr.sureAddr
          rw [run_bind' (run_pure _)]
          unfold fieldPlace
          rw [run_bind' (m := (sizeOf fd.type >>= fun n => if n = 0 then partAt (l.at o) fd.offset fd.byteOffset else pure ((l.at o).add fd.offset))) (x := (l.at o).add fd.offset) (w' := w)]
          · rfl
          · rw [run_bind' (sizeOf?_run hn), if_neg hne]; rfl
      · cases h
    · cases h
  · cases h

theorem rop_field {dst type pos after guard} {S : TypeId} {x : Operand} {f : Nat} {v : Value} {bs : List Nat} (hf : Fr E r t a) (h : rop E t σ ⟨dst, .field S x f, type, pos, after, guard⟩ = some (v, bs)) :
    Reads E a ⟨dst, .field S x f, type, pos, after, guard⟩ r σ v bs := by
  simp only [rop] at h
  split at h
  · rename_i cs fields hx hS
    split at h
    · rename_i fd hfd
      cases hp : part? E fd.type cs fd.offset with
      | none => rw [hp] at h; cases h
      | some q =>
        rw [hp] at h; cases h
        obtain ⟨cs', hev, hl⟩ := inv_agg (hf.val hx)
        obtain ⟨v', hv, hr⟩ := part?_run hp hl
        refine ⟨v', hv, fun w _ => ?_⟩
        show ((Instr.field S (a.eval x) f >>= fun x => pure (.value x)) : Sem Next).run E.P w = _
        refine run_v ?_
        unfold Instr.field
        rw [run_bind' (run_underlying hS)]
        simp only [hfd]
        rw [hev]
        unfold asAgg
        rw [run_bind' (run_pure _)]
        exact hr w
    · cases h
  · cases h

theorem rop_indexAddr {dst type pos after guard} {S : TypeId} {x ix : Operand} {v : Value} {bs : List Nat} (hf : Fr E r t a) (h : rop E t σ ⟨dst, .indexAddr S x ix, type, pos, after, guard⟩ = some (v, bs)) :
    Reads E a ⟨dst, .indexAddr S x ix, type, pos, after, guard⟩ r σ v bs := by
  simp only [rop] at h
  split at h
  · rename_i len elem ad k i hS hx hi
    split at h
    · rename_i hb
      cases hn : sizeOf? E elem with
      | none => rw [hn] at h; cases h
      | some n =>
        rw [hn] at h; cases h
        obtain ⟨b, o, l, rfl, hl, hev⟩ := inv_ptr (hf.val hx)
        refine ⟨_, add_at hl, fun w _ => ?_⟩
        show ((Instr.indexAt S (a.eval x) (a.eval ix) >>= fun x => pure (.value x)) : Sem Next).run E.P w = _
        refine run_v ?_
        rw [hev, inv_int (hf.val hi)]
        unfold Instr.indexAt
        rw [run_bind' run_asIntOf, run_bind' (run_underlying hS)]
        simp only []
        unfold Instr.sureAddr
        rw [run_bind' (run_pure _), run_bind' (run_pure _), run_bind' (run_underlying hS)]
        simp only [hb, and_self, if_true]
        rw [run_bind' (sizeOf?_run hn)]; rfl
    · cases h
  · rename_i elem ad len cap k i hS hx hi
    split at h
    · rename_i hb
      cases hn : sizeOf? E elem with
      | none => rw [hn] at h; cases h
      | some n =>
        rw [hn] at h; cases h
        obtain ⟨b, o, l, rfl, hl, hev⟩ := inv_slice (hf.val hx)
        refine ⟨_, add_at hl, fun w _ => ?_⟩
        show ((Instr.indexAt S (a.eval x) (a.eval ix) >>= fun x => pure (.value x)) : Sem Next).run E.P w = _
        refine run_v ?_
        rw [hev, inv_int (hf.val hi)]
        unfold Instr.indexAt
        rw [run_bind' run_asIntOf, run_bind' (run_underlying hS)]
        simp only []
        rw [run_bind' (run_pure _), run_bind' (run_underlying hS)]
        simp only [hb, and_self, if_true]
        rw [run_bind' (sizeOf?_run hn)]; rfl
    · cases h
  · cases h

theorem rop_index {dst type pos after guard} {S : TypeId} {x ix : Operand} {v : Value} {bs : List Nat} (hf : Fr E r t a) (h : rop E t σ ⟨dst, .index S x ix, type, pos, after, guard⟩ = some (v, bs)) :
    Reads E a ⟨dst, .index S x ix, type, pos, after, guard⟩ r σ v bs := by
  simp only [rop] at h
  split at h
  · rename_i len elem cs k i hS hx hi
    split at h
    · rename_i hb
      cases hn : sizeOf? E elem with
      | none => rw [hn] at h; cases h
      | some n =>
        rw [hn] at h
        simp only at h
        cases hp : part? E elem cs (i.toNat * n) with
        | none => rw [hp] at h; cases h
        | some q =>
          rw [hp] at h; cases h
          obtain ⟨cs', hev, hl⟩ := inv_agg (hf.val hx)
          obtain ⟨v', hv, hr⟩ := part?_run hp hl
          refine ⟨v', hv, fun w _ => ?_⟩
          show ((Instr.index S (a.eval x) (a.eval ix) >>= fun x => pure (.value x)) : Sem Next).run E.P w = _
          refine run_v ?_
          rw [hev, inv_int (hf.val hi)]
          unfold Instr.index
          rw [run_bind' run_asIntOf, run_bind' (run_underlying hS)]
          simp only [hb, and_self, if_true]
          rw [run_bind' (sizeOf?_run hn)]; exact hr w
    · cases h
  · rename_i s k i hS hx hi
    split at h
    · rename_i h0
      cases hb : s[i.toNat]? with
      | none => rw [hb] at h; cases h
      | some q =>
        rw [hb] at h; cases h
        refine ⟨_, .int _ _, fun w _ => ?_⟩
        show ((Instr.index S (a.eval x) (a.eval ix) >>= fun x => pure (.value x)) : Sem Next).run E.P w = _
        refine run_v ?_
        rw [inv_str (hf.val hx), inv_int (hf.val hi)]
        unfold Instr.index
        rw [run_bind' run_asIntOf, run_bind' (run_underlying hS)]
        simp only [h0, if_true, hb]; rfl
    · cases h
  · cases h

theorem rop_extract {dst type pos after guard} {x : Operand} {i : Nat} {v : Value} {bs : List Nat} (hf : Fr E r t a) (h : rop E t σ ⟨dst, .extract x i, type, pos, after, guard⟩ = some (v, bs)) :
    Reads E a ⟨dst, .extract x i, type, pos, after, guard⟩ r σ v bs := by
  simp only [rop] at h
  split at h
  · rename_i vs hx
    cases hi : vs[i]? with
    | none => rw [hi] at h; cases h
    | some q =>
      rw [hi] at h; cases h
      obtain ⟨vs', hev, hl⟩ := inv_tuple (hf.val hx)
      rw [← Array.getElem?_toList] at hi
      obtain ⟨v', h1, h2⟩ := hl.get hi
      refine ⟨v', h2, fun w _ => ?_⟩
      show ((Instr.extract (a.eval x) i >>= fun x => pure (.value x)) : Sem Next).run E.P w = _
      refine run_v ?_
      rw [hev]
      unfold Instr.extract
      rw [Array.getElem?_toList] at h1
      simp only [h1]; rfl
  · cases h

theorem VL.two {x x' : Value} (b : Bool) (h : VR r x x') : VR r (.tuple #[x, .bool b]) (.tuple #[x', .bool b]) := by
  rw [VR.tuple_iff]; exact .cons h (.cons (.bool b) .nil)

theorem rop_typeAssert {dst type pos after guard} {x : Operand} {S T : TypeId} {ok : Bool} {v : Value} {bs : List Nat} (hf : Fr E r t a) (h : rop E t σ ⟨dst, .typeAssert x S T ok, type, pos, after, guard⟩ = some (v, bs)) :
    Reads E a ⟨dst, .typeAssert x S T ok, type, pos, after, guard⟩ r σ v bs := by
  have go : ∀ {v' : Value}, VR r v v' → (∀ w, (Instr.typeAssert (a.eval x) S T ok).run E.P w = .ok v' w) → bs = [] → Reads E a ⟨dst, .typeAssert x S T ok, type, pos, after, guard⟩ r σ v bs := by
    intro v' hv hr hb
    exact ⟨v', hv, fun w _ => by
      show ((Instr.typeAssert (a.eval x) S T ok >>= fun x => pure (.value x)) : Sem Next).run E.P w = _
      exact run_v (hr w)⟩
  simp only [rop] at h
  split at h
  · -- an interface type is asked
    rename_i ty y want hx hT
    obtain ⟨z, hev, hz⟩ := inv_iface (hf.val hx)
    split at h
    · rename_i i hi
      split at h
      · rename_i hm
        cases ok with
        | true =>
          cases h
          refine go (VL.two true (.iface ty hz)) (fun w => ?_) rfl
          rw [hev]; unfold Instr.typeAssert
          rw [run_bind' (run_underlying hT)]; simp only []
          rw [run_bind' (run_typeInfo hi)]; simp only [hm]; rfl
        | false =>
          cases h
          refine go (.iface ty hz) (fun w => ?_) rfl
          rw [hev]; unfold Instr.typeAssert
          rw [run_bind' (run_underlying hT)]; simp only []
          rw [run_bind' (run_typeInfo hi)]; simp only [hm]; rfl
      · rename_i m hm
        split at h
        · rename_i hok; subst hok
          cases hzz : zero? E T with
          | none => rw [hzz] at h; cases h
          | some q =>
            rw [hzz] at h; cases h
            obtain ⟨hc, _⟩ := zero?_run (w := default) hzz
            refine go (VL.two false (VR.cl hc)) (fun w => ?_) rfl
            rw [hev]; unfold Instr.typeAssert
            rw [run_bind' (run_underlying hT)]; simp only []
            rw [run_bind' (run_typeInfo hi)]; simp only [hm, if_true]
            rw [run_bind' (zero?_run hzz).2]; rfl
        · cases h
    · cases h
  · rename_i d hx hT
    split at h
    · rename_i hok; subst hok
      cases hzz : zero? E T with
      | none => rw [hzz] at h; cases h
      | some q =>
        rw [hzz] at h; cases h
        obtain ⟨hc, _⟩ := zero?_run (w := default) hzz
        refine go (VL.two false (VR.cl hc)) (fun w => ?_) rfl
        rw [inv_nilIface (hf.val hx)]; unfold Instr.typeAssert
        rw [run_bind' (run_underlying hT)]
        cases d <;> (simp only [if_true]; rw [run_bind' (zero?_run hzz).2]; rfl)
    · cases h
  · rename_i ty y d hno hx hT
    obtain ⟨z, hev, hz⟩ := inv_iface (hf.val hx)
    have hd : ∀ ms, d ≠ .interface ms := fun ms e => hno _ e
    split at h
    · rename_i he; subst he
      cases ok with
      | true =>
        cases h
        refine go (VL.two true hz) (fun w => ?_) rfl
        rw [hev]; unfold Instr.typeAssert
        rw [run_bind' (run_underlying hT)]
        cases d <;> first | (exact absurd rfl (hd _)) | (simp only [if_true]; rfl)
      | false =>
        cases h
        refine go hz (fun w => ?_) rfl
        rw [hev]; unfold Instr.typeAssert
        rw [run_bind' (run_underlying hT)]
        cases d <;> first | (exact absurd rfl (hd _)) | (simp only [if_true]; rfl)
    · rename_i hne
      split at h
      · rename_i hok; subst hok
        cases hzz : zero? E T with
        | none => rw [hzz] at h; cases h
        | some q =>
          rw [hzz] at h; cases h
          obtain ⟨hc, _⟩ := zero?_run (w := default) hzz
          refine go (VL.two false (VR.cl hc)) (fun w => ?_) rfl
          rw [hev]; unfold Instr.typeAssert
          rw [run_bind' (run_underlying hT)]
          cases d <;> first | (exact absurd rfl (hd _)) | (simp only [hne, if_false, if_true]; rw [run_bind' (zero?_run hzz).2]; rfl)
      · cases h
  · cases h
end
end Go.Abs
