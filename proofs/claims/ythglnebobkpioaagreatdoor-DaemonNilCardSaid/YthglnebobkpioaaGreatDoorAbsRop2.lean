/- A part of the abstract runs: the program is run over an abstract heap; what holds there holds in every world that looks so. Conditions: none. -/
import Derived.Test.YthglnebobkpioaaGreatDoorAbsRop
namespace Go.Abs
open Go Go.RowKit

/-- what an operation that reads or reckons does in the concrete world. -/
def Reads (E : Env) (a : Act) (o : Oper) (r : Ren) (σ : AW) (v : Value) (bs : List Nat) : Prop :=
  ∃ v', VR r v v' ∧ ∀ w, (∀ b ∈ bs, BlkR r σ w b) → (execOp a.eval o).run E.P w = .ok (.value v') w

theorem run_v {P : Program} {s : Sem Value} {x : Value} {w w' : World} (h : s.run P w = .ok x w') : (s >>= fun x => (pure (.value x) : Sem Next)).run P w = .ok (.value x) w' := by
  rw [run_bind' h]; rfl

/-- the frame of a step. -/
structure Fr (E : Env) (r : Ren) (t : AT) (a : Act) : Prop where
  t : TR r t a
  g : ∀ g, g < E.nglob → r g = some ⟨g, 0, 0⟩

theorem Fr.val {E : Env} {r : Ren} {t : AT} {a : Act} (h : Fr E r t a) {x : Operand} {v : Value} (hx : Abs.val E t x = some v) : VR r v (a.eval x) := val_sound h.t h.g hx
theorem Fr.vals {E : Env} {r : Ren} {t : AT} {a : Act} (h : Fr E r t a) {xs : List Operand} {vs : List Value} (hx : Abs.vals E t xs = some vs) : VL r vs (xs.map a.eval) := vals_sound h.t h.g hx

section
variable {E : Env} {r : Ren} {t : AT} {a : Act} {σ : AW}

theorem reads_of {o : Oper} {s : Sem Value} {v v' : Value} (he : execOp a.eval o = (s >>= fun x => pure (.value x))) (hv : VR r v v') (hr : ∀ w, s.run E.P w = .ok v' w) :
    Reads E a o r σ v [] := ⟨v', hv, fun w _ => by rw [he]; exact run_v (hr w)⟩

theorem binOp_eql {r : Ren} {T : TypeId} {x y x' y' : Value} (hx : VR r x x') (hy : VR r y y') (hi : ∀ k n k' n', ¬ (x = .int k n ∧ y = .int k' n')) (hs : ∀ p q, ¬ (x = .string p ∧ y = .string q)) :
    binOp .eql T x' y' = (Op.equal T x' y' >>= fun b => pure (.bool b)) ∧ binOp .neq T x' y' = (Op.equal T x' y' >>= fun b => pure (.bool !b)) := by
  cases hx <;> cases hy <;> first | exact ⟨rfl, rfl⟩ | exact absurd ⟨rfl, rfl⟩ (hi _ _ _ _) | exact absurd ⟨rfl, rfl⟩ (hs _ _)

theorem equal_nil0 {T : TypeId} {x y x' y' : Value} {b : Bool} (hx : VR r x x') (hy : VR r y y') (h : nilEq0? E T x y = some b) (w : World) : (Op.equal T x' y').run E.P w = .ok b w := by
  unfold nilEq0? at h
  cases hu : E.P.underlying T with
  | none =>
    rw [hu] at h
    split at h
    · simp [fitsWord] at h
    · cases h
  | some d =>
    rw [hu] at h
    show (Op.equalIn (9999 + 1) T x' y').run E.P w = _
    unfold Op.equalIn
    rw [run_bind' (run_underlying hu)]
    split at h
    · rename_i p q hp hq
      split at h
      · rename_i hc
        cases h
        simp only [Bool.and_eq_true] at hc
        obtain ⟨⟨hor, hw⟩, hf⟩ := hc
        cases hx <;> simp only [isNilV, reduceCtorEq, Option.some.injEq] at hp <;>
          cases hy <;> simp only [isNilV, reduceCtorEq, Option.some.injEq] at hq <;>
          subst hp <;> subst hq <;> (try simp at hor) <;> (try simp [wordOf] at hw) <;>
          simp only [wordOf] at hf <;> cases d <;> simp [fitsWord] at hf <;> rfl
      · cases h
    · cases h

theorem equal_nil {T : TypeId} {x y x' y' : Value} {b : Bool} (hx : VR r x x') (hy : VR r y y') (h : nilEq? E T x y = some b) (w : World) : (Op.equal T x' y').run E.P w = .ok b w := by
  unfold nilEq? at h
  split at h
  · rename_i a c
    split at h
    · rename_i el hu
      split at h
      · rename_i n hn
        split at h
        · rename_i hc
          obtain ⟨hn0, hab⟩ := hc
          cases h
          show (Op.equalIn (9999 + 1) T x' y').run E.P w = _
          unfold Op.equalIn
          rw [run_bind' (run_underlying hu)]
          cases hx with
          | ptr h1 =>
            cases hy with
            | ptr h2 =>
              simp only at hab
              subst hab
              rw [h1] at h2; cases h2
              simp only []
              rw [run_bind' (sizeOf?_run hn), if_pos hn0]
              unfold sameAddr Loc.at
              simp only [beq_self_eq_true, if_true]
              show Result.ok _ _ = _
              congr 1
              rw [Bool.eq_iff_iff, beq_iff_eq, beq_iff_eq]
              constructor
              · intro e; injection e with _ e _; omega
              · intro e; rw [e]
        · cases h
      · cases h
    · cases h
  · exact equal_nil0 hx hy h w

theorem eqGuard_run {op : BinOp} {T : TypeId} {x y : Operand} {p q p' q' : Value} (hp : VR r p p') (hq : VR r q q') (h : guardOk E op T x y p q = true) (w : World) :
    (eqGuard op T x y p' q').run E.P w = .ok () w := by
  unfold eqGuard
  cases op <;> try rfl
  all_goals
    simp only [guardOk] at h
    cases hp <;> try rfl
    all_goals
      cases hq <;> try rfl
  all_goals
    first
    | (cases x <;> cases y <;> first | rfl | (simp at h; done))
    | (simp only [Bool.not_eq_true'] at h
       simp only []
       show ((program >>= fun P => _) : Sem Unit).run E.P w = _
       rw [run_bind' run_program]
       show ((program >>= fun P => _) : Sem Unit).run E.P w = _
       rw [run_bind' run_program]
       simp [h])

theorem runC_some {P : Program} {m : Sem Value} {v : Value} (h : runC P m = some v) : cl v = true ∧ ∀ w, m.run P w = .ok v w := by
  unfold runC at h
  cases hm : runP P m with
  | none => rw [hm] at h; cases h
  | some x =>
    rw [hm] at h
    simp only at h
    split at h
    · rename_i hc; cases h; exact ⟨hc, run_runP m v hm⟩
    · cases h

theorem eql_sound {T : TypeId} {x y x' y' : Value} {b : Bool} (hx : VR r x x') (hy : VR r y y')
    (h : (match (if cl x && cl y then runP E.P (Op.equal T x y) else none) with | some b => some b | none => nilEq? E T x y) = some b) : ∀ w, (Op.equal T x' y').run E.P w = .ok b w := by
  split at h
  · rename_i b' hb
    cases h
    split at hb
    · rename_i hc
      rw [Bool.and_eq_true] at hc
      rw [VR.cl_eq hc.1 hx, VR.cl_eq hc.2 hy]
      exact run_runP _ _ hb
    · cases hb
  · exact equal_nil hx hy h

theorem bin?_sound {op : BinOp} {T : TypeId} {x y x' y' v : Value} (hx : VR r x x') (hy : VR r y y') (h : bin? E op T x y = some v) :
    ∃ v', VR r v v' ∧ ∀ w, (binOp op T x' y').run E.P w = .ok v' w := by
  unfold bin? at h
  split at h
  · cases hx; cases hy
    obtain ⟨hc, hr⟩ := runC_some h
    exact ⟨v, VR.cl hc, hr⟩
  · cases hx; cases hy
    obtain ⟨hc, hr⟩ := runC_some h
    exact ⟨v, VR.cl hc, hr⟩
  · rename_i n1 n2
    obtain ⟨e1, e2⟩ := binOp_eql (T := T) hx hy (fun k n k' n' e => n1 _ _ _ _ e.1 e.2) (fun p q e => n2 _ _ e.1 e.2)
    split at h
    · have : ∃ b, (match (if cl x && cl y then runP E.P (Op.equal T x y) else none) with | some b => some b | none => nilEq? E T x y) = some b ∧ v = .bool b := by
        cases hq : (if cl x && cl y then runP E.P (Op.equal T x y) else none) with
        | some b => rw [hq] at h; exact ⟨b, rfl, by cases h; rfl⟩
        | none =>
          rw [hq] at h
          simp only at h ⊢
          cases hn : nilEq? E T x y with
          | none => rw [hn] at h; cases h
          | some b => rw [hn] at h; exact ⟨b, rfl, by cases h; rfl⟩
      obtain ⟨b, hb, rfl⟩ := this
      exact ⟨_, .bool b, fun w => by rw [e1, run_bind' (eql_sound hx hy hb w)]; rfl⟩
    · have : ∃ b, (match (if cl x && cl y then runP E.P (Op.equal T x y) else none) with | some b => some b | none => nilEq? E T x y) = some b ∧ v = .bool !b := by
        cases hq : (if cl x && cl y then runP E.P (Op.equal T x y) else none) with
        | some b => rw [hq] at h; exact ⟨b, rfl, by cases h; rfl⟩
        | none =>
          rw [hq] at h
          simp only at h ⊢
          cases hn : nilEq? E T x y with
          | none => rw [hn] at h; cases h
          | some b => rw [hn] at h; exact ⟨b, rfl, by cases h; rfl⟩
      obtain ⟨b, hb, rfl⟩ := this
      exact ⟨_, .bool _, fun w => by rw [e2, run_bind' (eql_sound hx hy hb w)]; rfl⟩
    · cases h
end
end Go.Abs
