/- A part of the abstract runs: the program is run over an abstract heap; what holds there holds in every world that looks so. Conditions: none. -/
import Derived.Test.YthglnebobkpioaaGreatDoorAbsQuiet
namespace Go.Abs
open Go Go.RowKit

/-! ### Pieces that the kernel runs -/
def rT (x : Option (AT × AW)) : AT := match x with | some p => p.1 | none => ⟨.leaf, 0⟩
def rS (x : Option (AT × AW)) : AW := match x with | some p => p.2 | none => ⟨.leaf, 0, []⟩
def xT (x : Option (AX × AT × AW)) : AT := match x with | some p => p.2.1 | none => ⟨.leaf, 0⟩
def xS (x : Option (AX × AT × AW)) : AW := match x with | some p => p.2.2 | none => ⟨.leaf, 0, []⟩
def isNormal : Option (AX × AT × AW) → Bool
  | some (.normal, _, _) => true
  | _ => false

section
variable {E : Env}

/-- the first operations of a row. -/
theorem XO.run {ops : Array Oper} {l : List Oper} {t : AT} {σ : AW} {Q : AT → AW → Prop} (n k : Nat) (h : (ops? E (call? E n) ops (l.take k) t σ).isSome = true)
    (hQ : XO E ops (l.drop k) (rT (ops? E (call? E n) ops (l.take k) t σ)) (rS (ops? E (call? E n) ops (l.take k) t σ)) Q) : XO E ops l t σ Q := by
  have key : ∀ (l1 l2 : List Oper) (t : AT) (σ : AW), (ops? E (call? E n) ops l1 t σ).isSome = true → XO E ops l2 (rT (ops? E (call? E n) ops l1 t σ)) (rS (ops? E (call? E n) ops l1 t σ)) Q → XO E ops (l1 ++ l2) t σ Q := by
    intro l1
    induction l1 with
    | nil => intro l2 t σ _ h; exact h
    | cons o l1 ih =>
      intro l2 t σ h1 h2
      unfold ops? at h1 h2
      by_cases hw : Region.wanted o (yielded? ops t) = true
      · rw [if_pos hw] at h1 h2
        cases ho : op? E (call? E n) t σ o with
        | none => rw [ho] at h1; cases h1
        | some p =>
          rw [ho] at h1 h2
          exact XO.cons hw ⟨n, p.1, p.2, ho, ih l2 _ _ h1 h2⟩
      · rw [if_neg hw] at h1 h2
        exact XO.pass (by simpa using hw) (ih l2 _ _ h1 h2)
  have := key (l.take k) (l.drop k) t σ h hQ
  rw [List.take_append_drop] at this
  exact this

theorem XO.done {ops : Array Oper} {l : List Oper} {t : AT} {σ : AW} {Q : AT → AW → Prop} (n : Nat) (h : (ops? E (call? E n) ops l t σ).isSome = true)
    (hQ : Q (rT (ops? E (call? E n) ops l t σ)) (rS (ops? E (call? E n) ops l t σ))) : XO E ops l t σ Q := by
  cases ho : ops? E (call? E n) ops l t σ with
  | none => rw [ho] at h; cases h
  | some p => rw [ho] at hQ; exact ⟨n, p.1, p.2, ho, hQ⟩

theorem XR.done {ops : Array Oper} {draw : Bool} {t : AT} {σ : AW} {Q : AT → AW → Prop} (n : Nat) (h : (region? E (call? E n) ops draw t σ).isSome = true)
    (hQ : Q (rT (region? E (call? E n) ops draw t σ)) (rS (region? E (call? E n) ops draw t σ))) : XR E ops draw t σ Q := by
  cases ho : region? E (call? E n) ops draw t σ with
  | none => rw [ho] at h; cases h
  | some p => rw [ho] at hQ; exact ⟨n, p.1, p.2, ho, hQ⟩

/-- a piece of code that goes on. -/
theorem X.pass {c : Code} {t : AT} {σ : AW} {Q : AX → AT → AW → Prop} (n : Nat) (h : isNormal (exec? E n c t σ) = true) (hQ : Q .normal (xT (exec? E n c t σ)) (xS (exec? E n c t σ))) : X E c t σ Q := by
  cases ho : exec? E n c t σ with
  | none => rw [ho] at h; cases h
  | some p =>
    obtain ⟨x, t', σ'⟩ := p
    rw [ho] at h hQ
    cases x <;> first | cases h; done | exact ⟨n, .normal, t', σ', ho, hQ⟩

/-- does it end, and answer true? -/
def endsTrue (E : Env) (fn : Func) (ret : Bool) : Option (AX × AT × AW) → Bool
  | some (x, t, σ) => (match x with | .ret => true | .normal => !ret | _ => false) && (match results? E t σ fn.results.toList with | some [.bool true] => true | _ => false)
  | none => false

theorem X.ends {fn : Func} {c : Code} {t : AT} {σ : AW} (n : Nat) (h : endsTrue E fn false (exec? E n c t σ) = true) : X E c t σ (back E fn fun v _ => v = .bool true) := by
  cases ho : exec? E n c t σ with
  | none => rw [ho] at h; cases h
  | some p =>
    obtain ⟨x, t', σ'⟩ := p
    rw [ho] at h
    unfold endsTrue at h
    rw [Bool.and_eq_true] at h
    obtain ⟨h1, h2⟩ := h
    have : ∃ vs, results? E t' σ' fn.results.toList = some vs ∧ resOf vs = .bool true := by
      split at h2
      · rename_i e; exact ⟨_, e, rfl⟩
      · cases h2
    obtain ⟨vs, a, b⟩ := this
    refine ⟨n, x, t', σ', ho, ?_⟩
    cases x with
    | normal => exact ⟨vs, a, b⟩
    | ret => exact ⟨vs, a, b⟩
    | exit => cases h1

theorem X.endsIn {fn : Func} {c rest : Code} {t : AT} {σ : AW} (n : Nat) (h : endsTrue E fn true (exec? E n c t σ) = true) : X E c t σ (after E rest (back E fn fun v _ => v = .bool true)) := by
  cases ho : exec? E n c t σ with
  | none => rw [ho] at h; cases h
  | some p =>
    obtain ⟨x, t', σ'⟩ := p
    rw [ho] at h
    unfold endsTrue at h
    rw [Bool.and_eq_true] at h
    obtain ⟨h1, h2⟩ := h
    have : ∃ vs, results? E t' σ' fn.results.toList = some vs ∧ resOf vs = .bool true := by
      split at h2
      · rename_i e; exact ⟨_, e, rfl⟩
      · cases h2
    obtain ⟨vs, a, b⟩ := this
    refine ⟨n, x, t', σ', ho, ?_⟩
    cases x with
    | normal => cases h1
    | ret => exact ⟨vs, a, b⟩
    | exit => cases h1
end
end Go.Abs
namespace Go.Abs
open Go Go.RowKit
theorem XO.val {E : Env} {ops : Array Oper} {o : Oper} {l : List Oper} {t : AT} {σ : AW} {Q : AT → AW → Prop} {v' : Value} {bs : List Nat} (v : Value) (hw : Region.wanted o (yielded? ops t) = true)
    (h : Abs.rop E t σ o = some (v', bs)) (hv : v' = v) (hQ : XO E ops l (t.put o.dst v) σ Q) : XO E ops (o :: l) t σ Q := by
  subst hv
  exact XO.cons hw (XP.rop h hQ)
end Go.Abs
namespace Go.Abs
open Go Go.RowKit
def exitsTo (id : Nat) : Option (AX × AT × AW) → Bool
  | some (.exit i, _, _) => i == id
  | _ => false
theorem X.exits {E : Env} {c : Code} {t : AT} {σ : AW} {Q : AX → AT → AW → Prop} (n id : Nat) (h : exitsTo id (exec? E n c t σ) = true) (hQ : Q (.exit id) (xT (exec? E n c t σ)) (xS (exec? E n c t σ))) : X E c t σ Q := by
  cases ho : exec? E n c t σ with
  | none => rw [ho] at h; cases h
  | some p =>
    obtain ⟨x, t', σ'⟩ := p
    rw [ho] at h hQ
    cases x with
    | exit i =>
      have : i = id := by simpa [exitsTo] using h
      subst this
      exact ⟨n, .exit i, t', σ', ho, hQ⟩
    | normal => cases h
    | ret => cases h
def retsTo : Option (AX × AT × AW) → Bool
  | some (.ret, _, _) => true
  | _ => false
theorem X.rets {E : Env} {c : Code} {t : AT} {σ : AW} {Q : AX → AT → AW → Prop} (n : Nat) (h : retsTo (exec? E n c t σ) = true) (hQ : Q .ret (xT (exec? E n c t σ)) (xS (exec? E n c t σ))) : X E c t σ Q := by
  cases ho : exec? E n c t σ with
  | none => rw [ho] at h; cases h
  | some p =>
    obtain ⟨x, t', σ'⟩ := p
    rw [ho] at h hQ
    cases x with
    | ret => exact ⟨n, .ret, t', σ', ho, hQ⟩
    | normal => cases h
    | exit => cases h
theorem unblock_hit {id : Nat} {Q : AX → AT → AW → Prop} {t : AT} {σ : AW} (h : Q .normal t σ) : unblock id Q (.exit id) t σ := by
  show if id = id then _ else _
  rw [if_pos rfl]; exact h
theorem unblock_miss {id i : Nat} {Q : AX → AT → AW → Prop} {t : AT} {σ : AW} (hne : i ≠ id) (h : Q (.exit i) t σ) : unblock id Q (.exit i) t σ := by
  show if i = id then _ else _
  rw [if_neg hne]; exact h
end Go.Abs
namespace Go.Abs
open Go
theorem after_exit {E : Env} {b : Code} {Q : AX → AT → AW → Prop} {id : Nat} {t : AT} {σ : AW} (h : Q (.exit id) t σ) : after E b Q (.exit id) t σ := h
theorem after_ret {E : Env} {b : Code} {Q : AX → AT → AW → Prop} {t : AT} {σ : AW} (h : Q .ret t σ) : after E b Q .ret t σ := h
end Go.Abs
namespace Go.Abs
open Go Go.RowKit
section
variable {E : Env}
/-- a call that leaves the state alone. -/
theorem G.same {f : Nat} {args : List Value} {σ : AW} {Q : Value → AW → Prop} (R : Value → Prop) (h : G E f args σ fun v σ' => R v ∧ σ' = σ) (k : ∀ v, R v → Q v σ) : G E f args σ Q :=
  h.mono fun v σ' ⟨a, b⟩ => by subst b; exact k v a

theorem ropv_index {t : AT} {σ : AW} {dst : Option Tmp} {T : TypeId} {x ix : Operand} {type : TypeId} {pos : String} {af : Array Edge} {gd : Option (Nat × Bool)} {elem : TypeId} {b o len cap n : Nat} {k : IntKind} {i : Int}
    (hu : E.P.underlying T = some (.slice elem)) (hx : val E t x = some (.slice (some ⟨b, o, none⟩) len cap)) (hi : val E t ix = some (.int k i)) (h0 : 0 ≤ i) (h1 : i < len) (hs : sizeOf? E elem = some n) :
    Abs.rop E t σ ⟨dst, .indexAddr T x ix, type, pos, af, gd⟩ = some (.pointer (some ⟨b, o + i.toNat * n, none⟩), []) := by
  simp only [Abs.rop, hu, hx, hi, h0, h1, and_self, if_true, hs, Option.map_some, addr_add]

theorem ropv_load {t : AT} {σ : AW} {dst : Option Tmp} {T : TypeId} {x : Operand} {type : TypeId} {pos : String} {af : Array Edge} {gd : Option (Nat × Bool)} {b o s : Nat} {c : List Value} {v : Value}
    (hx : val E t x = some (.pointer (some ⟨b, o, none⟩))) (hc : σ.cells? b = some (c, s)) (ha : agg? E T = some false) (hv : c[o]? = some v) :
    Abs.rop E t σ ⟨dst, .load T x, type, pos, af, gd⟩ = some (v, [b]) := by
  simp only [Abs.rop, hx, loadVar?, hc, ha, hv, Option.map_some]
end
end Go.Abs
namespace Go.Abs
theorem Shaped.mk {n : Nat} {t : AT} (h : t = AT.of t.val n) : Shaped n t := h
end Go.Abs
namespace Go.Abs
/-- a loop that leaves the state alone. -/
theorem X.loopQ {E : Env} {b : Code} {t : AT} {σ : AW} {Q : AX → AT → AW → Prop} (n : Nat) (hs : Shaped n t) (I : (Nat → Value) → Prop) (m : (Nat → Value) → Nat) (h0 : I t.val)
    (h : ∀ (f : Nat → Value), I f → X E b (AT.of f n) σ fun x t' σ' => match x with | .normal => (I t'.val ∧ m t'.val < m f) ∧ σ' = σ | x => Q x t' σ') : X E (.loop b) t σ Q :=
  X.loopF n hs (fun f σ' => I f ∧ σ' = σ) (fun f _ => m f) ⟨h0, rfl⟩ fun f σ' ⟨hI, e⟩ => by
    subst e
    refine (h f hI).mono fun x t' σ' hx => ?_
    cases x with
    | normal => exact ⟨⟨hx.1.1, hx.2⟩, hx.1.2⟩
    | exit => exact hx
    | ret => exact hx
end Go.Abs
namespace Go.Abs
open Go Go.RowKit
section
variable {E : Env}
theorem wopv_append {t : AT} {σ : AW} {dst : Option Tmp} {args : Array Operand} {T0 T1 : TypeId} {type : TypeId} {pos : String} {af : Array Edge} {gd : Option (Nat × Bool)} {elem : TypeId} {i : TypeInfo} {d : TypeDesc} {base : Option Addr} {len cap n : Nat} {x : Value}
    (hv : vals E t args.toList = some [.slice base len cap, x]) (hu : E.P.underlying T0 = some (.slice elem)) (hi : E.P.info? elem = some i) (hu1 : E.P.underlying T1 = some d) (hd : isIntD d = false) (hn : lenOf? x = some n) :
    Abs.wop E t σ ⟨dst, .call ⟨.builtin .append, args, #[T0, T1]⟩, type, pos, af, gd⟩ = append? E σ elem i.size i.bytes base len cap x false n := by
  simp only [Abs.wop, hv]
  rw [show ((#[T0, T1] : Array TypeId)[0]?).bind E.P.underlying = some (.slice elem) from hu, show ((#[T0, T1] : Array TypeId)[1]?).bind E.P.underlying = some d from hu1]
  simp only [hd, hi, hn]

/-- append to nil: a new row. -/
theorem append_nil {σ : AW} {elem : TypeId} {size bytes : Nat} {x : Value} {n : Nat} {new : List Value} {z : Value} (hn : 0 < n) (hs : size ≠ 0) (hs2 : size < TAGB) (hroom : n * (bytes + 1) ≤ 2 ^ 40)
    (hx : firstCells? σ size n x = some new) (hz : zero? E elem = some z) (hzs : z.cells.size = size) :
    append? E σ elem size bytes none 0 0 x false n = some (.slice (some ⟨σ.next, 0, none⟩) n (OPEN + n), σ.alloc (.cells new (tagOf elem size))) := by
  unfold append?
  have h1 : ¬ (0 + n ≤ known 0) := by unfold known; rw [if_pos (by unfold OPEN; omega)]; omega
  simp only [Nat.zero_add] at h1 ⊢
  rw [if_neg h1, if_neg (by omega)]
  have h2 : firstCells? σ size 0 (.slice none 0 0) = some [] := rfl
  have h3 : appended? E σ elem size n false x = some new := by unfold appended?; simp only [Bool.false_eq_true, if_false]; exact hx
  simp only [h2, h3, hz]
  rw [if_neg (by simp [hzs]), if_pos (by unfold OPEN; omega), List.nil_append]
end
end Go.Abs
namespace Go.Abs
section
variable {E : Env}
theorem G.to {f : Nat} {args : List Value} {σ : AW} {Q : Value → AW → Prop} (S : AW → AW) (h : G E f args σ fun _ σ' => σ' = S σ) (k : ∀ v, Q v (S σ)) : G E f args σ Q :=
  h.mono fun v σ' e => by subst e; exact k v
theorem back_any {fn : Func} {Q : Value → AW → Prop} {t : AT} {σ : AW} (h : (results? E t σ fn.results.toList).isSome = true) (hQ : ∀ v, Q v σ) : back E fn Q .ret t σ := by
  cases hr : results? E t σ fn.results.toList with
  | none => rw [hr] at h; cases h
  | some vs => exact ⟨vs, hr, hQ _⟩
theorem unblock_ret {id : Nat} {Q : AX → AT → AW → Prop} {t : AT} {σ : AW} (h : Q .ret t σ) : unblock id Q .ret t σ := h
end
end Go.Abs
namespace Go.Abs
open Go Go.RowKit
/-! ### Regions that draw their order, step by step -/
section
variable {E : Env}
def XA (E : Env) (ops : Array Oper) (bf : Array Nat) (prot : List Nat) (n : Nat) (listed : Array Bool) (D : Nat) (ahead : List (Nat × List Nat)) (t : AT) (σ : AW) (Q : AT → AW → Prop) : Prop :=
  ∃ k t' σ', any? E (call? E k) ops bf prot n listed D ahead t σ = some (t', σ') ∧ Q t' σ'

variable {ops : Array Oper} {bf : Array Nat} {prot : List Nat} {n D : Nat} {listed : Array Bool} {ahead : List (Nat × List Nat)} {t : AT} {σ : AW} {Q : AT → AW → Prop}

theorem XR.any (hs : Region.noSelect ops = true) (h : XA E ops (Region.before ops) σ.prot ops.size (Array.replicate ops.size false) 0 [] t σ fun t' σ' => Q t' { σ' with prot := σ.prot }) : XR E ops true t σ Q := by
  obtain ⟨k, t', σ', a, b⟩ := h
  exact ⟨k, t', _, by unfold region?; simp only [if_true, hs, a], b⟩

theorem XA.take {i : Nat} {more : List Nat} {j : Nat} {o : Oper} {v : Value} {bs : List Nat} (hr : Region.ready .any ops listed = i :: more) (ht : takeable E t σ ops listed (i :: more) = some (j, o, v, bs))
    (h : XA E ops bf prot n (listed.setIfInBounds j true) D ((j, bs) :: ahead) (t.put o.dst v) σ Q) : XA E ops bf prot (n + 1) listed D ahead t σ Q := by
  obtain ⟨k, t', σ', a, b⟩ := h
  exact ⟨k, t', σ', by unfold any?; simp only [hr, ht]; exact a, b⟩

def tkO (x : Option (Nat × Oper × Value × List Nat)) : Nat × Oper × Value × List Nat := match x with | some p => p | none => default

/-- one that the kernel takes. -/
theorem XA.go (i : Nat) (more : List Nat) (hr : Region.ready .any ops listed = i :: more) (ht : (takeable E t σ ops listed (i :: more)).isSome = true)
    (h : XA E ops bf prot n (listed.setIfInBounds (tkO (takeable E t σ ops listed (i :: more))).1 true) D (((tkO (takeable E t σ ops listed (i :: more))).1, (tkO (takeable E t σ ops listed (i :: more))).2.2.2) :: ahead)
      (t.put (tkO (takeable E t σ ops listed (i :: more))).2.1.dst (tkO (takeable E t σ ops listed (i :: more))).2.2.1) σ Q) : XA E ops bf prot (n + 1) listed D ahead t σ Q := by
  cases hx : takeable E t σ ops listed (i :: more) with
  | none => rw [hx] at ht; cases ht
  | some p =>
    rw [hx] at h
    exact XA.take hr hx h

theorem XA.op {i : Nat} {o : Oper} (hr : Region.ready .any ops listed = [i]) (ht : takeable E t σ ops listed [i] = none) (ho : ops[i]? = some o) (hw : Region.wanted o (yielded? ops t) = true)
    (h : XP E o t { σ with prot := guards (D ||| bf.getD i 0) ahead ++ prot } fun v σ' => XA E ops bf prot n (listed.setIfInBounds i true) (D ||| bf.getD i 0 ||| 2 ^ i) ahead (t.put o.dst v) σ' Q) : XA E ops bf prot (n + 1) listed D ahead t σ Q := by
  obtain ⟨k, v, σ1, a, k2, t', σ', b, c⟩ := h
  refine ⟨max k k2, t', σ', ?_, c⟩
  unfold any?
  simp only [hr, ht, ho, hw, if_true, op?_le (call_le (Nat.le_max_left k k2)) a]
  exact any?_le (call_le (Nat.le_max_right k k2)) _ b

theorem XA.done0 (hQ : Q t σ) (h : (Region.ready .any ops listed).isEmpty = true) : XA E ops bf prot 0 listed D ahead t σ Q :=
  ⟨0, t, σ, by unfold any?; simp only [h, if_true], hQ⟩

theorem take_hit {i : Nat} {rest : List Nat} {o : Oper} {v : Value} {bs : List Nat} (hf : Region.free .any ops listed i = true) (ho : ops[i]? = some o) (hw : Region.wanted o (yielded? ops t) = true)
    (hr : Abs.rop E t σ o = some (v, bs)) (hb : ∀ b ∈ bs, b < σ.next) : takeable E t σ ops listed (i :: rest) = some (i, o, v, bs) := by
  unfold takeable
  simp only [hf, ho, hw, hr, if_true]
  rw [if_pos (by rw [List.all_eq_true]; intro b hm; exact decide_eq_true (hb b hm))]
end
end Go.Abs
namespace Go.Abs
open Go
theorem unblock_normal {id : Nat} {Q : AX → AT → AW → Prop} {t : AT} {σ : AW} (h : Q .normal t σ) : unblock id Q .normal t σ := h
end Go.Abs
namespace Go.Abs
open Go
theorem info_of {P : Program} {t : TypeId} {s b : Nat} (h : (P.info? t).map (fun i => (i.size, i.bytes)) = some (s, b)) : ∃ i, P.info? t = some i ∧ i.size = s ∧ i.bytes = b := by
  cases hi : P.info? t with
  | none => rw [hi] at h; cases h
  | some i => rw [hi] at h; cases h; exact ⟨i, rfl, rfl, rfl⟩
end Go.Abs
namespace Go.Abs
open Go
theorem wopv_append_nil {E : Env} {t : AT} {σ : AW} {dst : Option Tmp} {args : Array Operand} {T0 T1 : TypeId} {type : TypeId} {pos : String} {af : Array Edge} {gd : Option (Nat × Bool)} {elem : TypeId} {size bytes : Nat} {d : TypeDesc} {n : Nat} {x : Value} {new : List Value} {z : Value}
    (hv : vals E t args.toList = some [.slice none 0 0, x]) (hu : E.P.underlying T0 = some (.slice elem)) (hi : (E.P.info? elem).map (fun i => (i.size, i.bytes)) = some (size, bytes)) (hu1 : E.P.underlying T1 = some d) (hd : isIntD d = false) (hn : lenOf? x = some n)
    (h0 : 0 < n) (hs : size ≠ 0) (hs2 : size < TAGB) (hroom : n * (bytes + 1) ≤ 2 ^ 40) (hx : firstCells? σ size n x = some new) (hz : zero? E elem = some z) (hzs : z.cells.size = size) :
    Abs.wop E t σ ⟨dst, .call ⟨.builtin .append, args, #[T0, T1]⟩, type, pos, af, gd⟩ = some (.slice (some ⟨σ.next, 0, none⟩) n (OPEN + n), σ.alloc (.cells new (tagOf elem size))) := by
  obtain ⟨i, hj, rfl, rfl⟩ := info_of hi
  exact (wopv_append hv hu hj hu1 hd hn).trans (append_nil h0 hs hs2 hroom hx hz hzs)
end Go.Abs
namespace Go.Abs
open Go
theorem firstv_row {σ : AW} {b o s size n m k : Nat} {c : List Value} (hc : σ.cells? b = some (c, s)) : firstCells? σ size n (.slice (some ⟨b, o, none⟩) m k) = take? c o (n * size) := by
  simp only [firstCells?, hc]
theorem take_all {c : List Value} {o n : Nat} (h : o + n ≤ c.length) : take? c o n = some ((c.drop o).take n) := by unfold take?; rw [if_pos h]
end Go.Abs
namespace Go.Abs
open Go Go.RowKit
section
variable {E : Env} {t : AT} {σ : AW} {dst : Option Tmp} {type : TypeId} {pos : String} {af : Array Edge} {gd : Option (Nat × Bool)}
theorem cells_of {b : Nat} {c : List Value} {s : Nat} (h : σ.heap.get b = some (.cells c s)) : σ.cells? b = some (c, s) := by unfold AW.cells?; rw [h]

/-- one cell is written. -/
theorem wopv_store {T : TypeId} {a x : Operand} {b o s : Nat} {c : List Value} {v : Value} (ha : val E t a = some (.pointer (some ⟨b, o, none⟩))) (hx : val E t x = some v) (hv : v.cells.toList = [v]) (hf : flat? v = true) (hs : sizeOf? E T = some 1)
    (hg : σ.heap.get b = some (.cells c s)) (hm : σ.may b = true) (ho : o < c.length) :
    Abs.wop E t σ ⟨dst, .store T a x, type, pos, af, gd⟩ = some (undef, σ.upd b (some (.cells (splice c o [v]) s))) := by
  simp only [Abs.wop, ha, hx, storeVar?, hv, hs, List.length_singleton, if_true, storeCells?, hg, hm, List.all_cons, List.all_nil, hf, Bool.and_true, Bool.true_and]
  rw [if_pos (by rw [decide_eq_true_eq]; omega)]
  rfl

/-- a new key. -/
theorem wopv_mapNew {T key elem : TypeId} {m k x : Operand} {r clock : Nat} {kv xv : Value} {es : List MapEntry} {d : TypeDesc} {u : Unit} (hu : E.P.underlying T = some (.map key elem)) (hm : val E t m = some (.map (some r))) (hk : val E t k = some kv) (hx : val E t x = some xv)
    (hcl : cl kv = true) (hd : E.P.underlying key = some d) (hg : σ.heap.get r = some (.map es clock)) (hmay : σ.may r = true) (hc : runP E.P (Instr.checkKey false 10000 key kv) = some u) (hf : Instr.findNow d kv es 0 = some none) :
    Abs.wop E t σ ⟨dst, .mapUpdate T m k x, type, pos, af, gd⟩ = some (undef, σ.upd r (some (.map (es ++ [{ key := kv, val := xv, born := clock }]) (clock + 1)))) := by
  simp only [Abs.wop, hu, hm, hk, hx, hcl, if_true, hd, hg, hmay, hc, hf]

theorem AW.get_alloc (σ : AW) (o : AObj) (b : Nat) (h : b ≠ σ.next) : (σ.alloc o).heap.get b = σ.heap.get b := by
  show (σ.heap.set σ.next (some o)).get b = _
  rw [Tr.get_set, if_neg h]
theorem AW.get_updv (σ : AW) (b k : Nat) (o : Option AObj) (h : k ≠ b) : (σ.upd b o).heap.get k = σ.heap.get k := by
  rw [AW.get_upd, if_neg h]
theorem AW.get_upd_self (σ : AW) (b : Nat) (o : Option AObj) : (σ.upd b o).heap.get b = o := by
  rw [AW.get_upd, if_pos rfl]
end
end Go.Abs
namespace Go.Abs
open Go Go.RowKit
/-! ### The same, where the state stands -/
section
variable {E : Env}
theorem XO.runQ {ops : Array Oper} {l : List Oper} {t : AT} {σ : AW} {Q : AT → AW → Prop} (n k : Nat) (h : (ops? E (call? E n) ops (l.take k) t σ).isSome = true) (hσ : rS (ops? E (call? E n) ops (l.take k) t σ) = σ)
    (hQ : XO E ops (l.drop k) (rT (ops? E (call? E n) ops (l.take k) t σ)) σ Q) : XO E ops l t σ Q := XO.run n k h (by rw [hσ]; exact hQ)
theorem XO.doneQ {ops : Array Oper} {l : List Oper} {t : AT} {σ : AW} {Q : AT → AW → Prop} (n : Nat) (h : (ops? E (call? E n) ops l t σ).isSome = true) (hσ : rS (ops? E (call? E n) ops l t σ) = σ)
    (hQ : Q (rT (ops? E (call? E n) ops l t σ)) σ) : XO E ops l t σ Q := XO.done n h (by rw [hσ]; exact hQ)
theorem X.passQ {c : Code} {t : AT} {σ : AW} {Q : AX → AT → AW → Prop} (n : Nat) (h : isNormal (exec? E n c t σ) = true) (hσ : xS (exec? E n c t σ) = σ) (hQ : Q .normal (xT (exec? E n c t σ)) σ) : X E c t σ Q := X.pass n h (by rw [hσ]; exact hQ)
theorem X.exitsQ {c : Code} {t : AT} {σ : AW} {Q : AX → AT → AW → Prop} (n id : Nat) (h : exitsTo id (exec? E n c t σ) = true) (hσ : xS (exec? E n c t σ) = σ) (hQ : Q (.exit id) (xT (exec? E n c t σ)) σ) : X E c t σ Q := X.exits n id h (by rw [hσ]; exact hQ)
theorem X.retsQ {c : Code} {t : AT} {σ : AW} {Q : AX → AT → AW → Prop} (n : Nat) (h : retsTo (exec? E n c t σ) = true) (hσ : xS (exec? E n c t σ) = σ) (hQ : Q .ret (xT (exec? E n c t σ)) σ) : X E c t σ Q := X.rets n h (by rw [hσ]; exact hQ)
end
end Go.Abs
namespace Go.Abs
open Go
theorem wopv_box {E : Env} {t : AT} {σ : AW} {dst : Option Tmp} {type : TypeId} {pos : String} {af : Array Edge} {gd : Option (Nat × Bool)} {T : TypeId} {x : Operand} {v : Value} {cs : List Value} (hx : val E t x = some v) (hc : v.cells.toList = cs) :
    Abs.wop E t σ ⟨dst, .box T x, type, pos, af, gd⟩ = some (.pointer (some ⟨σ.next, 0, none⟩), σ.alloc (.cells cs (tagOf T 0))) := by
  subst hc
  simp only [Abs.wop, hx, Option.map_some, newRow?]
end Go.Abs
namespace Go.Abs
open Go
/-- the state behind it under a name of its own. -/
theorem XP.wopE {E : Env} {o : Oper} {t : AT} {σ σ' : AW} {v : Value} {Q : Value → AW → Prop} (h0 : Abs.rop E t σ o = none) (h : Abs.wop E t σ o = some (v, σ')) (hQ : ∀ σ2, σ2 = σ' → Q v σ2) : XP E o t σ Q := XP.wop h0 h (hQ σ' rfl)
end Go.Abs
namespace Go.Abs
open Go
theorem XR.anyE {E : Env} {ops : Array Oper} {t : AT} {σ : AW} {Q : AT → AW → Prop} (hs : Region.noSelect ops = true)
    (h : XA E ops (Region.before ops) σ.prot ops.size (Array.replicate ops.size false) 0 [] t σ fun t' σ' => ∀ σ2, σ2.heap = σ'.heap → σ2.next = σ'.next → σ2.prot = σ.prot → Q t' σ2) : XR E ops true t σ Q := by
  obtain ⟨k, t', σ', a, b⟩ := h
  exact XR.any hs ⟨k, t', σ', a, b _ rfl rfl rfl⟩
end Go.Abs
namespace Go.Abs
open Go Go.RowKit
section
variable {E : Env} {t : AT} {σ : AW} {dst : Option Tmp} {type : TypeId} {pos : String} {af : Array Edge} {gd : Option (Nat × Bool)} {T key elem : TypeId} {m k : Operand} {r clock : Nat} {kv : Value} {es : List MapEntry} {d : TypeDesc} {u : Unit} {ok : Bool}
theorem ropv_lookup {i : Nat} {y : Value} (hu : E.P.underlying T = some (.map key elem)) (hm : val E t m = some (.map (some r))) (hk : val E t k = some kv)
    (hcl : cl kv = true) (hd : E.P.underlying key = some d) (hg : σ.heap.get r = some (.map es clock)) (hc : runP E.P (Instr.checkKey es.isEmpty 10000 key kv) = some u) (hf : Instr.findNow d kv es 0 = some (some (i, y))) :
    Abs.rop E t σ ⟨dst, .lookup T m k ok, type, pos, af, gd⟩ = some (found ok y true, [r]) := by
  simp only [Abs.rop, hu, hm, hk, hcl, if_true, hd, entries?, hg, hc, hf]
theorem ropv_miss {z : Value} (hu : E.P.underlying T = some (.map key elem)) (hm : val E t m = some (.map (some r))) (hk : val E t k = some kv)
    (hcl : cl kv = true) (hd : E.P.underlying key = some d) (hg : σ.heap.get r = some (.map es clock)) (hc : runP E.P (Instr.checkKey es.isEmpty 10000 key kv) = some u) (hf : Instr.findNow d kv es 0 = some none) (hz : zero? E elem = some z) :
    Abs.rop E t σ ⟨dst, .lookup T m k ok, type, pos, af, gd⟩ = some (found ok z false, [r]) := by
  simp only [Abs.rop, hu, hm, hk, hcl, if_true, hd, entries?, hg, hc, hf, hz, Option.map_some]
theorem wopv_delete {T1 : TypeId} {args : Array Operand} {i : Nat} {y : Value} (hu : E.P.underlying T = some (.map key elem)) (hv : vals E t args.toList = some [.map (some r), kv])
    (hcl : cl kv = true) (hd : E.P.underlying key = some d) (hg : σ.heap.get r = some (.map es clock)) (hmay : σ.may r = true) (hc : runP E.P (Instr.checkKey es.isEmpty 10000 key kv) = some u) (hf : Instr.findNow d kv es 0 = some (some (i, y))) :
    Abs.wop E t σ ⟨dst, .call ⟨.builtin .delete, args, #[T, T1]⟩, type, pos, af, gd⟩ = some (undef, σ.upd r (some (.map (es.eraseIdx i) clock))) := by
  simp only [Abs.wop, hv]
  rw [show ((#[T, T1] : Array TypeId)[0]?).bind E.P.underlying = some (.map key elem) from hu]
  simp only [hcl, if_true, hd, hg, hmay, hc, hf]
end
end Go.Abs
