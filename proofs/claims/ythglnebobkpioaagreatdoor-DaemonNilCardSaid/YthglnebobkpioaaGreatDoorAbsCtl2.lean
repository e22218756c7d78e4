/- A part of the abstract runs: the program is run over an abstract heap; what holds there holds in every world that looks so. Conditions: none. -/
import Derived.Test.YthglnebobkpioaaGreatDoorAbsCtl
namespace Go.Abs
open Go Go.RowKit

/-- what is asked of the program, and of the calls that are answered by a law of their own. -/
structure EnvOk (E : Env) : Prop where
  mixed : E.P.follows .mixedOrders = true
  name : ∀ (f : FuncId) (fn : Func), E.P.funcs[f]? = some fn → (fn.name == "runtime.NumGoroutine") = false
  prim : ∀ (f : Nat) (p : List Value → AW → Option (Value × AW)), E.prim f = some p → ∀ (args : List Value) (σ : AW) (v : Value) (σ' : AW), p args σ = some (v, σ') → ∀ (N : Nat) (w0 : World) (lo : Nat) (r : Ren) (w : World) (args' : List Value), Rel N w0 lo E.nglob r σ w → VL r args args' →
    Calls E.P f args'.toArray w fun e w' => ∃ r' v', e = .returned v' ∧ After N w0 lo E.nglob r σ r' σ' w' ∧ VR r' v v'
  ext : ∀ (f : Nat) (p : List Value → AW → Option (Value × AW)), E.ext f = some p → ∀ (args : List Value) (σ : AW) (v : Value) (σ' : AW), p args σ = some (v, σ') → ∀ (N : Nat) (w0 : World) (lo : Nat) (r : Ren) (w : World) (args' : List Value), Rel N w0 lo E.nglob r σ w → VL r args args' →
    ∃ r' v' w', (callFunc f args'.toArray).run E.P w = .ok (.value v') w' ∧ After N w0 lo E.nglob r σ r' σ' w' ∧ VR r' v v'

/-- what a caller may lean on. -/
def Sound (E : Env) (call : ACall) : Prop :=
  ∀ (f : Nat) (args : List Value) (σ : AW) (v : Value) (σ' : AW), call f args σ = some (v, σ') → ∀ (N : Nat) (w0 : World) (lo : Nat) (r : Ren) (w : World) (args' : List Value), Rel N w0 lo E.nglob r σ w → VL r args args' →
    Calls E.P f args'.toArray w fun e w' => ∃ r' v', e = .returned v' ∧ After N w0 lo E.nglob r σ r' σ' w' ∧ VR r' v v'

section
variable {E : Env} {r : Ren} {t : AT} {a : Act} {σ σ' : AW} {N lo : Nat} {w0 w : World}

theorem callFunc_run (hE : EnvOk E) {f : FuncId} {fn : Func} {c : Code} (hf : E.P.funcs[f]? = some fn) (hb : fn.body = some c) (args : Array Value) (w : World) :
    (callFunc f args).run E.P w = .ok (.enter f args) w := by
  unfold callFunc
  rw [run_bind' run_program]
  simp only [hf]
  have := hE.name f fn hf
  rw [if_neg (by simp [this]), hb]
  rfl

theorem follow_nil {P : Program} {T : TypeId} {v : Value} {w : World} : (follow [] T (.val v)).run P w = .ok (T, .val v) w := rfl

/-- a call comes to its function, with its arguments. -/
theorem callee_run {c : Call} {dst : Option Tmp} {type : TypeId} {pos : String} {after : Array Edge} {guard : Option (Nat × Bool)} {f : FuncId} {args : List Value} (hf : Fr E r t a) (h : callee? E t c = some (f, args)) :
    ∃ args', VL r args args' ∧ ∀ w, (execOp a.eval ⟨dst, .call c, type, pos, after, guard⟩).run E.P w = (callFunc f args'.toArray).run E.P w := by
  obtain ⟨callee, cargs, argTypes⟩ := c
  unfold callee? at h
  simp only at h
  cases hvs : vals E t cargs.toList with
  | none => rw [hvs] at h; cases h
  | some vs =>
    rw [hvs] at h
    simp only at h
    have hvl := hf.vals hvs
    cases callee with
    | builtin b => cases h
    | value x =>
      simp only at h
      split at h
      · rename_i g first captured hx
        cases h
        obtain ⟨f', c', hev, h1, h2⟩ := inv_func (hf.val hx)
        refine ⟨f'.toList ++ cargs.toList.map a.eval ++ c'.toList, (h1.append hvl).append h2, fun w => ?_⟩
        show ((Deferred.ofValue (a.eval x) (cargs.map a.eval) >>= fun d => invoke d.target d.args) : Sem Next).run E.P w = _
        rw [hev]
        show (callFunc f (f' ++ cargs.map a.eval ++ c')).run E.P w = _
        congr 2
        apply Array.toList_inj.1
        simp
      · cases h
    | invoke recv name =>
      simp only at h
      split at h
      · rename_i ty x hx
        obtain ⟨z, hev, hz⟩ := inv_iface (hf.val hx)
        split at h
        · rename_i i d hi hd
          split at h
          · rename_i m hm
            split at h
            · rename_i hp
              have hpath : m.path.toList = [] := by simpa using hp
              have hmeth : ∀ (pr : Bool) (w : World), m.func = some (f, pr) → ((∃ e, d = .pointer e) ∧ pr = true ∨ (∀ e, d ≠ .pointer e) ∧ pr = false) →
                  (method (E.P.types.size + Made.depth) ty z name).run E.P w = .ok (f, z) w := by
                intro pr w hfn hcase
                have : E.P.types.size + Made.depth = (E.P.types.size + 99) + 1 := rfl
                rw [this]
                unfold method
                rw [run_bind' (run_typeInfo hi)]
                simp only [hm, hpath]
                rw [run_bind' follow_nil]
                simp only [hfn]
                have hrec : ∀ wr, (receiverAt ty (.val z) pr wr).run E.P w = .ok z w := by
                  intro wr
                  unfold receiverAt
                  rw [run_bind' (run_underlying hd)]
                  rcases hcase with ⟨⟨e, rfl⟩, rfl⟩ | ⟨hne, rfl⟩
                  · rfl
                  · cases d <;> first | rfl | exact absurd rfl (hne _)
                rw [run_bind' (hrec _)]
                rfl
              have fin : ∀ pr, m.func = some (f, pr) → ((∃ e, d = .pointer e) ∧ pr = true ∨ (∀ e, d ≠ .pointer e) ∧ pr = false) → args = x :: vs →
                  ∃ args', VL r args args' ∧ ∀ w, (execOp a.eval ⟨dst, .call ⟨.invoke recv name, cargs, argTypes⟩, type, pos, after, guard⟩).run E.P w = (callFunc f args'.toArray).run E.P w := by
                intro pr hfn hcase hargs
                subst hargs
                refine ⟨z :: cargs.toList.map a.eval, .cons hz hvl, fun w => ?_⟩
                show (invoke (.fn (.method name) #[]) (#[a.eval recv] ++ cargs.map a.eval)).run E.P w = _
                have e0 : (#[a.eval recv] ++ cargs.map a.eval)[0]? = some (a.eval recv) := by
                  rw [← Array.getElem?_toList, Array.toList_append]; rfl
                have e1 : (#[a.eval recv] ++ cargs.map a.eval).extract 1 (#[a.eval recv] ++ cargs.map a.eval).size = cargs.map a.eval := by
                  apply Array.toList_inj.1
                  simp
                  rw [List.take_of_length_le (by simp)]
                unfold invoke
                simp only [e0, e1]
                rw [hev]
                unfold callMethod
                simp only []
                rw [run_bind' run_program, run_bind' (hmeth pr w hfn hcase)]
                congr 2
                apply Array.toList_inj.1
                simp
              split at h
              · rename_i g e hfn
                cases h
                exact fin true hfn (.inl ⟨⟨_, rfl⟩, rfl⟩) rfl
              · cases h
              · rename_i g hn1 hfn
                cases h
                exact fin false hn1 (.inr ⟨fun e he => hfn _ he, rfl⟩) rfl
              · cases h
            · cases h
          · cases h
        · cases h
      · cases h

/-- what an operation comes to. -/
def OpPost (N : Nat) (w0 : World) (lo ng : Nat) (r : Ren) (σ : AW) (a : Act) (o : Oper) (v : Value) (σ' : AW) (K : Act → World → Prop) : Prop :=
  ∀ r' v' w', After N w0 lo ng r σ r' σ' w' → VR r' v v' → K (a.put o.dst v') w'

theorem op_sound (hE : EnvOk E) {call : ACall} (hc : Sound E call) (hf : Fr E r t a) (hR : Rel N w0 lo E.nglob r σ w) {o : Oper} {v : Value} (h : op? E call t σ o = some (v, σ'))
    {K : Act → World → Prop} {Q : Exit → Act → World → Prop} (hK : OpPost N w0 lo E.nglob r σ a o v σ' K) : o.wp E.P a w K Q := by
  unfold op? at h
  cases hr : rop E t σ o with
  | some x =>
    obtain ⟨y, bs⟩ := x
    rw [hr] at h
    simp only [Option.some.injEq, Prod.mk.injEq] at h
    obtain ⟨rfl, rfl⟩ := h
    obtain ⟨v', hv, hrun⟩ := rop_sound hf hR hr
    unfold Oper.wp
    rw [hrun w (fun b _ => hR.blk b)]
    exact hK r v' w (.refl hR) hv
  | none =>
    rw [hr] at h
    simp only at h
    cases hw : wop E t σ o with
    | some x =>
      obtain ⟨y, σ2⟩ := x
      rw [hw] at h
      simp only [Option.some.injEq, Prod.mk.injEq] at h
      obtain ⟨rfl, rfl⟩ := h
      obtain ⟨r', v', w', haft, hv, hrun⟩ := wop_sound hf hR hw
      unfold Oper.wp
      rcases hrun with hrun | ⟨hrun, rfl⟩
      · rw [hrun]; exact hK r' v' w' haft hv
      · rw [hrun]; exact hK r' undef w' haft hv
    | none =>
      rw [hw] at h
      simp only at h
      obtain ⟨dst, op, type, pos, after, guard⟩ := o
      cases op <;> simp only at h <;> try (cases h; done)
      rename_i c
      unfold callOp? at h
      cases hce : callee? E t c with
      | none => rw [hce] at h; cases h
      | some fa =>
        obtain ⟨f, args⟩ := fa
        rw [hce] at h
        simp only at h
        obtain ⟨args', hvl, hrun⟩ := callee_run (dst := dst) (type := type) (pos := pos) (after := after) (guard := guard) hf hce
        cases hfn : E.P.funcs[f]? with
        | none => rw [hfn] at h; cases h
        | some fn =>
          rw [hfn] at h
          simp only at h
          unfold Oper.wp
          rw [hrun]
          cases hb : fn.body with
          | some body =>
            rw [hb] at h
            simp only at h
            rw [callFunc_run hE hfn hb]
            show Calls E.P f args'.toArray w _
            refine (hc f args σ v σ' h N w0 lo r w args' hR hvl).mono ?_
            rintro e w' ⟨r', v', rfl, haft, hv⟩
            exact hK r' v' w' haft hv
          | none =>
            rw [hb] at h
            simp only at h
            cases he : E.ext f with
            | none => rw [he] at h; cases h
            | some p =>
              rw [he] at h
              simp only at h
              obtain ⟨r', v', w', hrun2, haft, hv⟩ := hE.ext f p he args σ v σ' h N w0 lo r w args' hR hvl
              rw [hrun2]
              exact hK r' v' w' haft hv

theorem yielded_sound {ops : Array Oper} (ht : TR r t a) : yielded? ops t = yielded ops a.tmps := by
  funext j
  unfold yielded? yielded
  cases hd : (ops[j]?).bind (·.dst) with
  | none => rfl
  | some d =>
    simp only [Option.bind_some]
    have h1 := ht.at' d
    rw [Array.getD_eq_getD_getElem?] at h1
    cases hq : a.tmps[d]? with
    | none =>
      rw [hq] at h1
      generalize (t.tr.get d).getD undef = x at h1
      simp only [Option.getD_none] at h1
      cases h1 <;> rfl
    | some q =>
      rw [hq] at h1
      generalize (t.tr.get d).getD undef = x at h1
      simp only [Option.getD_some] at h1
      cases h1 <;> rfl

theorem Act.put_defers' (a : Act) (d : Option Tmp) (v : Value) : (a.put d v).defers = a.defers := by
  cases d <;> rfl

theorem ops_sound (hE : EnvOk E) {call : ACall} (hc : Sound E call) {ops : Array Oper} {Q : Exit → Act → World → Prop} : ∀ (l : List Oper) {t t' : AT} {σ σ' : AW} {r : Ren} {a : Act} {w : World}, ops? E call ops l t σ = some (t', σ') →
    TR r t a → a.defers = [] → Rel N w0 lo E.nglob r σ w → (∀ r' a' w', After N w0 lo E.nglob r σ r' σ' w' → TR r' t' a' → a'.defers = [] → Q .normal a' w') → wpList E.P ops Q l a w := by
  intro l
  induction l with
  | nil =>
    intro t t' σ σ' r a w h ht hd hR hQ
    cases h
    exact hQ r a w (.refl hR) ht hd
  | cons o l ih =>
    intro t t' σ σ' r a w h ht hd hR hQ
    unfold ops? at h
    unfold wpList
    rw [yielded_sound ht] at h
    split at h
    · rename_i hw
      rw [if_pos hw]
      left
      cases ho : op? E call t σ o with
      | none => rw [ho] at h; cases h
      | some x =>
        obtain ⟨v, σ1⟩ := x
        rw [ho] at h
        refine op_sound hE hc ⟨ht, hR.glob⟩ hR ho ?_
        intro r1 v1 w1 haft hv
        refine ih h ((ht.mono haft.le).put o.dst hv) (by rw [Act.put_defers']; exact hd) haft.rel ?_
        intro r2 a2 w2 haft2 ht2 hd2
        exact hQ r2 a2 w2 (haft.trans haft2) ht2 hd2
    · rename_i hw
      rw [if_neg hw]
      refine ih h (ht.put o.dst undef_VR) (by rw [Act.put_defers']; exact hd) hR hQ
end
end Go.Abs
