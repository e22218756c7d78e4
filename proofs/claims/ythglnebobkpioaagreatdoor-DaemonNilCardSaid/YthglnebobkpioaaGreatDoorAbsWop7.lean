/- A part of the abstract runs: the program is run over an abstract heap; what holds there holds in every world that looks so. Conditions: none. -/
import Derived.Test.YthglnebobkpioaaGreatDoorAbsWop6
namespace Go.Abs
open Go Go.RowKit
section
variable {E : Env} {r : Ren} {t : AT} {a : Act} {σ σ' : AW} {N lo ng : Nat} {w0 w : World}

/-- the cells that are appended, in the model. -/
def appendedM (elem : TypeId) (size n : Nat) (zeros : Bool) (x : Value) : Sem (Array Value) :=
  if !zeros then Builtin.firstCells size n x else if n * size = 0 then pure #[] else do pure (Builtin.zeroCells (← zeroValue elem).cells n)

theorem appended_sound (elem : TypeId) (size n : Nat) (zeros : Bool) {x x' : Value} {new : List Value} (hx : VR r x x')
    (h : appended? E σ elem size n zeros x = some new) (hb : ∀ b, BlkR r σ w b) :
    ∃ new', VL r new new' ∧ (appendedM elem size n zeros x').run E.P w = .ok new'.toArray w := by
  unfold appended? at h
  unfold appendedM
  cases zeros with
  | false =>
    simp only [Bool.false_eq_true, if_false, Bool.not_false, if_true] at h ⊢
    exact firstCells?_sound hx h hb
  | true =>
    simp only [if_true, Bool.not_true, Bool.false_eq_true, if_false] at h ⊢
    by_cases h0 : n * size = 0
    · rw [if_pos h0] at h ⊢
      cases h
      exact ⟨[], .nil, rfl⟩
    · rw [if_neg h0] at h ⊢
      cases hzz : zero? E elem with
      | none => rw [hzz] at h; cases h
      | some z =>
        rw [hzz] at h
        simp only [Option.bind_some] at h
        obtain ⟨hc, hrun⟩ := zero?_run (w := w) hzz
        refine ⟨new, zeroRow_VL (cl_cells hc) h, ?_⟩
        rw [run_bind' hrun]
        have := zeroRow_arr h
        unfold Builtin.zeroCells
        rw [run_pure]
        congr 1
        exact Array.toList_inj.1 this

theorem grow_le (need : Nat) : ∀ (k c : Nat), 256 ≤ need → c < need → Builtin.growBy need k c ≤ 2 * need := by
  intro k
  induction k with
  | zero => intro c _ h; simp [Builtin.growBy]; omega
  | succ k ih =>
    intro c h1 h2
    unfold Builtin.growBy
    rw [if_neg (by omega)]
    by_cases h3 : c + (c + 768) / 4 < need
    · exact ih _ h1 h3
    · cases k with
      | zero => simp [Builtin.growBy]; omega
      | succ k =>
        unfold Builtin.growBy
        rw [if_pos (by omega)]
        omega

theorem nextcap_le {need old : Nat} (h : old < need) : Builtin.nextslicecap need old ≤ 2 * need := by
  unfold Builtin.nextslicecap
  split
  · omega
  · split
    · omega
    · exact grow_le need 4 old (by omega) h

/-- what every call of append comes to first. -/
structure AppHead (E : Env) (argTypes : Array TypeId) (elem : TypeId) (i : TypeInfo) (zeros : Bool) : Prop where
  t0 : ∃ T, argTypes[0]? = some T ∧ E.P.underlying T = some (.slice elem)
  t1 : ∃ T d, argTypes[1]? = some T ∧ E.P.underlying T = some d ∧ isIntD d = zeros
  i : E.P.info? elem = some i

theorem small_mul {n b : Nat} (h : n * (b + 1) ≤ 2 ^ 40) : n ≤ 2 ^ 40 ∧ n * b ≤ 2 ^ 40 := by
  have h1 : n ≤ n * (b + 1) := Nat.le_mul_of_pos_right _ (Nat.succ_pos _)
  have h2 : n * b ≤ n * (b + 1) := Nat.mul_le_mul_left _ (Nat.le_succ _)
  omega

/-- how the count comes. -/
def Count (P : Program) (w : World) (zeros : Bool) (i : TypeInfo) (x : Value) (n : Nat) : Prop :=
  (zeros = true ∧ (∃ k : IntKind, x = .int k (n : Int)) ∧ n * (i.bytes + 1) ≤ 2 ^ 40) ∨ (zeros = false ∧ (Builtin.lenOf x).run P w = .ok n w)

theorem room_int {n b : Nat} (h : n * (b + 1) ≤ 2 ^ 40) : ¬ ((n : Int) * (b : Int) > 2 ^ 48) := by
  obtain ⟨h1, h2⟩ := small_mul h
  have : ((n * b : Nat) : Int) ≤ ((2 ^ 40 : Nat) : Int) := Int.ofNat_le.2 h2
  have e : ((n * b : Nat) : Int) = (n : Int) * (b : Int) := by simp
  rw [← e]; omega

theorem append_inplace {argTypes : Array TypeId} {T : TypeId} {elem : TypeId} {i : TypeInfo} {zeros : Bool} {base : Option Addr} {len cap n : Nat} {x : Value} {new : List Value} {w' : World}
    (hh : AppHead E argTypes elem i zeros) (hn : Count E.P w zeros i x n)
    (hle : len + n ≤ cap) (hnew : (appendedM elem i.size n zeros x).run E.P w = .ok new.toArray w)
    (hst : ∀ ad, base = some ad → (storeCells (ad.add (len * i.size)) new).run E.P w = .ok () w') (hno : base = none → w' = w) :
    (Builtin.append_ argTypes T #[.slice base len cap, x]).run E.P w = .ok (.slice base (len + n) cap) w' := by
  obtain ⟨⟨T0, h0, hu0⟩, ⟨T1, d, h1, hu1, hd⟩, hi⟩ := hh
  unfold Builtin.append_
  simp only [h0, List.getElem?_toArray, List.getElem?_cons_zero, List.getElem?_cons_succ]
  rw [run_bind' (run_underlying hu0)]
  simp only []
  rw [run_bind' (run_sizeOf hi)]
  simp only [h1]
  rw [run_bind' (run_underlying hu1), run_bind' (run_pure _)]
  unfold appendedM at hnew
  rcases hn with ⟨rfl, ⟨k, rfl⟩, hs⟩ | ⟨rfl, hlen⟩
  · obtain ⟨hs1, hs2⟩ := small_mul hs
    have hw : IntKind.i64.wrap (n : Int) = (n : Int) := wrap_nat (by omega)
    cases d <;> simp only [isIntD, Bool.false_eq_true] at hd
    simp only [if_true, Bool.not_true, Bool.false_eq_true, if_false] at hnew ⊢
    rw [run_bind' (show (asInt (.int k (n : Int))).run E.P w = .ok (n : Int) w from rfl), hw, if_neg (by omega), run_bind' (run_typeInfo hi), if_neg (room_int hs), run_bind' (run_pure _), Int.toNat_natCast, if_pos hle]
    rw [run_bind' hnew]
    cases base with
    | none => rw [hno rfl]; rfl
    | some ad => simp only []; rw [run_bind' (hst ad rfl)]; rfl
  · cases d <;> simp only [isIntD, Bool.true_eq_false] at hd
    all_goals
      simp only [Bool.false_eq_true, if_false, Bool.not_false, if_true] at hnew ⊢
      rw [run_bind' hlen, if_pos hle]
      rw [run_bind' hnew]
      cases base with
      | none => rw [hno rfl]; rfl
      | some ad => simp only []; rw [run_bind' (hst ad rfl)]; rfl

theorem append_grow {argTypes : Array TypeId} {T : TypeId} {elem : TypeId} {i : TypeInfo} {zeros : Bool} {base : Option Addr} {len cap n : Nat} {x z : Value} {old new : List Value}
    (hh : AppHead E argTypes elem i zeros) (hn : Count E.P w zeros i x n) (hcap : cap < len + n) (hroom : (len + n) * (i.bytes + 1) ≤ 2 ^ 40) (hz : i.zero = some z)
    (hnew : ∀ w1, w1.heap = w.heap → (appendedM elem i.size n zeros x).run E.P w1 = .ok new.toArray w1) (hold : ∀ w1, w1.heap = w.heap → (Builtin.firstCells i.size len (.slice base len cap)).run E.P w1 = .ok old.toArray w1) :
    ∃ ex, (Builtin.append_ argTypes T #[.slice base len cap, x]).run E.P w =
      .ok (.slice (some ⟨w.heap.size, 0, none⟩) (len + n) (len + n + ex)) { w with drawn := w.drawn + 1, heap := w.heap.push (.cells (old ++ new ++ (Builtin.zeroCells z.cells ex).toList).toArray elem (0, 0)) } := by
  obtain ⟨⟨T0, h0, hu0⟩, ⟨T1, d, h1, hu1, hd⟩, hi⟩ := hh
  obtain ⟨ex, hch⟩ := run_choose_cap (P := E.P) (w := w) (need := len + n) (old := cap) (elem := elem)
  refine ⟨ex, ?_⟩
  obtain ⟨hs1, hs2⟩ := small_mul hroom
  have hmax : ¬ (((len + n : Nat) : Int) > IntKind.i64.max) := by
    have : IntKind.i64.max = 9223372036854775807 := by decide
    rw [this]; omega
  have hnc : ¬ (Builtin.nextslicecap (len + n) cap * i.bytes > 2 ^ 48) := by
    have h2 := Nat.mul_le_mul_right i.bytes (nextcap_le hcap)
    have h3 : 2 * (len + n) * i.bytes = 2 * ((len + n) * i.bytes) := Nat.mul_assoc _ _ _
    omega
  have hfin : ∀ w1 : World, w1.heap = w.heap → (newRow elem (old.toArray ++ new.toArray ++ Builtin.zeroCells z.cells (len + n + ex - (len + n)))).run E.P w1 =
      .ok ⟨w.heap.size, 0, none⟩ { w1 with heap := w.heap.push (.cells (old ++ new ++ (Builtin.zeroCells z.cells ex).toList).toArray elem (0, 0)) } := by
    intro w1 hw1
    have e1 : len + n + ex - (len + n) = ex := by omega
    have e2 : old.toArray ++ new.toArray ++ Builtin.zeroCells z.cells ex = (old ++ new ++ (Builtin.zeroCells z.cells ex).toList).toArray := by
      apply Array.toList_inj.1; simp
    rw [e1, e2]
    unfold newRow
    rw [run_bind' (show (newObj (.cells (old ++ new ++ (Builtin.zeroCells z.cells ex).toList).toArray elem)).run E.P w1 = .ok w1.heap.size { w1 with heap := w1.heap.push (.cells (old ++ new ++ (Builtin.zeroCells z.cells ex).toList).toArray elem (0, 0)) } from rfl)]
    rw [hw1]; rfl
  unfold Builtin.append_
  simp only [h0, List.getElem?_toArray, List.getElem?_cons_zero, List.getElem?_cons_succ]
  rw [run_bind' (run_underlying hu0)]
  simp only []
  rw [run_bind' (run_sizeOf hi)]
  simp only [h1]
  rw [run_bind' (run_underlying hu1), run_bind' (run_pure _)]
  have hnew1 := hnew { w with drawn := w.drawn + 1 } rfl
  have hold1 := hold { w with drawn := w.drawn + 1 } rfl
  unfold appendedM at hnew1
  rcases hn with ⟨rfl, ⟨k, rfl⟩, hs⟩ | ⟨rfl, hlen⟩
  · obtain ⟨hs1, hs2⟩ := small_mul hs
    have hw : IntKind.i64.wrap (n : Int) = (n : Int) := wrap_nat (by omega)
    cases d <;> simp only [isIntD, Bool.false_eq_true] at hd
    simp only [if_true, Bool.not_true, Bool.false_eq_true, if_false] at hnew1 ⊢
    rw [run_bind' (show (asInt (.int k (n : Int))).run E.P w = .ok (n : Int) w from rfl), hw, if_neg (by omega), run_bind' (run_typeInfo hi), if_neg (room_int hs), run_bind' (run_pure _), Int.toNat_natCast, if_neg (by omega)]
    rw [run_bind' (run_typeInfo hi), if_neg (fun h => hmax h.1), run_bind' (run_typeInfo hi), if_neg hnc, run_bind' hch, run_bind' (run_typeInfo hi), run_bind' (run_askRoom E.P _ _), run_bind' hold1, run_bind' hnew1,
      run_bind' (run_zeroValue hi hz), run_bind' (hfin { w with drawn := w.drawn + 1 } rfl)]
    rfl
  · cases d <;> simp only [isIntD, Bool.true_eq_false] at hd
    all_goals
      simp only [Bool.false_eq_true, if_false, Bool.not_false, if_true] at hnew1 ⊢
      rw [run_bind' hlen, if_neg (by omega)]
      rw [run_bind' (run_typeInfo hi), if_neg (fun h => hmax h.1), run_bind' (run_typeInfo hi), if_neg hnc, run_bind' hch, run_bind' (run_typeInfo hi), run_bind' (run_askRoom E.P _ _), run_bind' hold1, run_bind' hnew1,
        run_bind' (run_zeroValue hi hz), run_bind' (hfin { w with drawn := w.drawn + 1 } rfl)]
      rfl
end
end Go.Abs
