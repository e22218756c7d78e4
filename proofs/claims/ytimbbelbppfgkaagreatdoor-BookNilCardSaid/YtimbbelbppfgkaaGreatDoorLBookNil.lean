/- It is proved that of no disk there is no book, and no book is over and has the empty state: the law BookNil returns true, for every command, as the program is run over an abstract heap. Conditions: none beyond those of the given statement. -/
import Derived.Test.YtimbbelbppfgkaaGreatDoorAbsRun
import Derived.Test.YtimbbelbppfgkaaGreatDoorEnv
open Go Go.Abs
namespace Go.Proofs.YtimbbelbppfgkaaGreatDoor.bookNil
set_option maxRecDepth 100000

/-! ### awake, run by the kernel once -/
theorem runA : (call? ET 3000 6 [] (state0 7)).map (·.1) = some (.bool true) := by kernel_rfl
theorem tellsA : Tells Tryz.prog 6 (.bool true) := closed_call ET_ok rfl rfl runA
def primT : Nat → Option (List Value → AW → Option (Value × AW))
  | 6 => some (pTell (.bool true))
  | _ => none
noncomputable def EP : Env := { P := Tryz.prog, nglob := 7, prim := primT, ext := extT }
theorem EP_ok : EnvOk EP where
  mixed := ET_ok.mixed
  name := ET_ok.name
  ext := ET_ok.ext
  prim f p h := by
    have : PrimSound Tryz.prog 7 f p := by
      change primT f = some p at h
      unfold primT at h
      split at h
      · cases h; exact pTell_sound rfl tellsA
      · cases h
    exact this


theorem arg32 {b : Nat} {v : Value} {os : List (Option AObj)} (h : AVal Tryz.prog 8 b 32 v os) : ∃ (x0 : Int) (x1 : ByteArray) (x2 : Int) (x3 : Int) (x4 : Int) (x5 : Int) (x6 : Int) (x7 : Int) (x8 : ByteArray) (x9 : Int) (x10 : Int) (x11 : Option Addr) (n11 k11 : Nat) (o11 : Option AObj) (x12 : Option Addr) (n12 k12 : Nat) (o12 : Option AObj) (x13 : Int) (x14 : Int) (x15 : Option Addr) (n15 k15 : Nat) (o15 : Option AObj) (x16 : Int) (x17 : Option Addr) (n17 k17 : Nat) (o17 : Option AObj) (x18 : ByteArray) (x19 : Int) (x20 : Int) (x21 : Int) (x22 : Int) (x23 : Int) (x24 : Int) (x25 : Int), v = .agg #[.int .i64 x0, .string x1, .int .i64 x2, .int .i64 x3, .int .i64 x4, .int .i64 x5, .int .i64 x6, .int .i64 x7, .string x8, .int .i64 x9, .int .i64 x10, .slice x11 n11 k11, .slice x12 n12 k12, .int .i64 x13, .int .i64 x14, .slice x15 n15 k15, .int .i64 x16, .slice x17 n17 k17, .string x18, .int .i64 x19, .int .i64 x20, .int .i64 x21, .int .i64 x22, .int .i64 x23, .int .i64 x24, .int .i64 x25] ∧ os = [none, none, none, none, none, none, none, none, none, none, none, o11, o12, none, none, o15, none, o17, none, none, none, none, none, none, none, none] ∧ (Lit.int .i64 x0).wf = true ∧ x1.size ≤ maxLen ∧ (Lit.int .i64 x2).wf = true ∧ (Lit.int .i64 x3).wf = true ∧ (Lit.int .i64 x4).wf = true ∧ (Lit.int .i64 x5).wf = true ∧ (Lit.int .i64 x6).wf = true ∧ (Lit.int .i64 x7).wf = true ∧ x8.size ≤ maxLen ∧ (Lit.int .i64 x9).wf = true ∧ (Lit.int .i64 x10).wf = true ∧ n11 ≤ k11 ∧ k11 ≤ maxLen ∧ ((x11 = none ∧ n11 = 0 ∧ k11 = 0 ∧ o11 = none) ∨ (x11 = some ⟨b + 11, 0, none⟩ ∧ ∃ d' c, d' < 8 ∧ Row Tryz.prog d' 2 n11 k11 c ∧ o11 = some (.cells c 0))) ∧ n12 ≤ k12 ∧ k12 ≤ maxLen ∧ ((x12 = none ∧ n12 = 0 ∧ k12 = 0 ∧ o12 = none) ∨ (x12 = some ⟨b + 12, 0, none⟩ ∧ ∃ d' c, d' < 8 ∧ Row Tryz.prog d' 23 n12 k12 c ∧ o12 = some (.cells c 0))) ∧ (Lit.int .i64 x13).wf = true ∧ (Lit.int .i64 x14).wf = true ∧ n15 ≤ k15 ∧ k15 ≤ maxLen ∧ ((x15 = none ∧ n15 = 0 ∧ k15 = 0 ∧ o15 = none) ∨ (x15 = some ⟨b + 15, 0, none⟩ ∧ ∃ d' c, d' < 8 ∧ Row Tryz.prog d' 9 n15 k15 c ∧ o15 = some (.cells c 0))) ∧ (Lit.int .i64 x16).wf = true ∧ n17 ≤ k17 ∧ k17 ≤ maxLen ∧ ((x17 = none ∧ n17 = 0 ∧ k17 = 0 ∧ o17 = none) ∨ (x17 = some ⟨b + 17, 0, none⟩ ∧ ∃ d' c, d' < 8 ∧ Row Tryz.prog d' 9 n17 k17 c ∧ o17 = some (.cells c 0))) ∧ x18.size ≤ maxLen ∧ (Lit.int .i64 x19).wf = true ∧ (Lit.int .i64 x20).wf = true ∧ (Lit.int .i64 x21).wf = true ∧ (Lit.int .i64 x22).wf = true ∧ (Lit.int .i64 x23).wf = true ∧ (Lit.int .i64 x24).wf = true ∧ (Lit.int .i64 x25).wf = true := by
  have hsz : Tryz.prog.cellsOf 32 = 26 := by kernel_rfl
  have h1 := h.size
  have h2 := h.len
  rw [hsz] at h1 h2
  obtain ⟨⟨cs⟩, rfl⟩ := h.agg.2 (.inl ⟨_, Tryz.underlying32⟩)
  have hc : ∀ (i : Nat) (x : Value) (o : Option AObj), cs[i]? = some x → os[i]? = some o → ∃ u, tyAt Tryz.prog 8 32 i = some u ∧ CCell Tryz.prog 8 (b + i) u x o := h.cells
  change cs.length = 26 at h1
  clear h
  obtain ⟨c0, c1, c2, c3, c4, c5, c6, c7, c8, c9, c10, c11, c12, c13, c14, c15, c16, c17, c18, c19, c20, c21, c22, c23, c24, c25, rfl⟩ : ∃ c0 c1 c2 c3 c4 c5 c6 c7 c8 c9 c10 c11 c12 c13 c14 c15 c16 c17 c18 c19 c20 c21 c22 c23 c24 c25, cs = [c0, c1, c2, c3, c4, c5, c6, c7, c8, c9, c10, c11, c12, c13, c14, c15, c16, c17, c18, c19, c20, c21, c22, c23, c24, c25] := by
    rcases cs with _ | ⟨c0, cs⟩
    · simp at h1
    rcases cs with _ | ⟨c1, cs⟩
    · simp at h1
    rcases cs with _ | ⟨c2, cs⟩
    · simp at h1
    rcases cs with _ | ⟨c3, cs⟩
    · simp at h1
    rcases cs with _ | ⟨c4, cs⟩
    · simp at h1
    rcases cs with _ | ⟨c5, cs⟩
    · simp at h1
    rcases cs with _ | ⟨c6, cs⟩
    · simp at h1
    rcases cs with _ | ⟨c7, cs⟩
    · simp at h1
    rcases cs with _ | ⟨c8, cs⟩
    · simp at h1
    rcases cs with _ | ⟨c9, cs⟩
    · simp at h1
    rcases cs with _ | ⟨c10, cs⟩
    · simp at h1
    rcases cs with _ | ⟨c11, cs⟩
    · simp at h1
    rcases cs with _ | ⟨c12, cs⟩
    · simp at h1
    rcases cs with _ | ⟨c13, cs⟩
    · simp at h1
    rcases cs with _ | ⟨c14, cs⟩
    · simp at h1
    rcases cs with _ | ⟨c15, cs⟩
    · simp at h1
    rcases cs with _ | ⟨c16, cs⟩
    · simp at h1
    rcases cs with _ | ⟨c17, cs⟩
    · simp at h1
    rcases cs with _ | ⟨c18, cs⟩
    · simp at h1
    rcases cs with _ | ⟨c19, cs⟩
    · simp at h1
    rcases cs with _ | ⟨c20, cs⟩
    · simp at h1
    rcases cs with _ | ⟨c21, cs⟩
    · simp at h1
    rcases cs with _ | ⟨c22, cs⟩
    · simp at h1
    rcases cs with _ | ⟨c23, cs⟩
    · simp at h1
    rcases cs with _ | ⟨c24, cs⟩
    · simp at h1
    rcases cs with _ | ⟨c25, cs⟩
    · simp at h1
    rcases cs with _ | ⟨_, _⟩
    · exact ⟨_, _, _, _, _, _, _, _, _, _, _, _, _, _, _, _, _, _, _, _, _, _, _, _, _, _, rfl⟩
    · simp at h1
  obtain ⟨p0, p1, p2, p3, p4, p5, p6, p7, p8, p9, p10, p11, p12, p13, p14, p15, p16, p17, p18, p19, p20, p21, p22, p23, p24, p25, rfl⟩ : ∃ p0 p1 p2 p3 p4 p5 p6 p7 p8 p9 p10 p11 p12 p13 p14 p15 p16 p17 p18 p19 p20 p21 p22 p23 p24 p25, os = [p0, p1, p2, p3, p4, p5, p6, p7, p8, p9, p10, p11, p12, p13, p14, p15, p16, p17, p18, p19, p20, p21, p22, p23, p24, p25] := by
    rcases os with _ | ⟨p0, os⟩
    · simp at h2
    rcases os with _ | ⟨p1, os⟩
    · simp at h2
    rcases os with _ | ⟨p2, os⟩
    · simp at h2
    rcases os with _ | ⟨p3, os⟩
    · simp at h2
    rcases os with _ | ⟨p4, os⟩
    · simp at h2
    rcases os with _ | ⟨p5, os⟩
    · simp at h2
    rcases os with _ | ⟨p6, os⟩
    · simp at h2
    rcases os with _ | ⟨p7, os⟩
    · simp at h2
    rcases os with _ | ⟨p8, os⟩
    · simp at h2
    rcases os with _ | ⟨p9, os⟩
    · simp at h2
    rcases os with _ | ⟨p10, os⟩
    · simp at h2
    rcases os with _ | ⟨p11, os⟩
    · simp at h2
    rcases os with _ | ⟨p12, os⟩
    · simp at h2
    rcases os with _ | ⟨p13, os⟩
    · simp at h2
    rcases os with _ | ⟨p14, os⟩
    · simp at h2
    rcases os with _ | ⟨p15, os⟩
    · simp at h2
    rcases os with _ | ⟨p16, os⟩
    · simp at h2
    rcases os with _ | ⟨p17, os⟩
    · simp at h2
    rcases os with _ | ⟨p18, os⟩
    · simp at h2
    rcases os with _ | ⟨p19, os⟩
    · simp at h2
    rcases os with _ | ⟨p20, os⟩
    · simp at h2
    rcases os with _ | ⟨p21, os⟩
    · simp at h2
    rcases os with _ | ⟨p22, os⟩
    · simp at h2
    rcases os with _ | ⟨p23, os⟩
    · simp at h2
    rcases os with _ | ⟨p24, os⟩
    · simp at h2
    rcases os with _ | ⟨p25, os⟩
    · simp at h2
    rcases os with _ | ⟨_, _⟩
    · exact ⟨_, _, _, _, _, _, _, _, _, _, _, _, _, _, _, _, _, _, _, _, _, _, _, _, _, _, rfl⟩
    · simp at h2
  obtain ⟨u0, e0, q0⟩ := hc 0 c0 p0 rfl rfl
  rw [show tyAt Tryz.prog 8 32 0 = some 3 by kernel_rfl] at e0
  obtain rfl := Option.some.inj e0
  obtain ⟨x0, rfl, f0, rfl⟩ := ccell_int Tryz.underlying3 q0
  obtain ⟨u1, e1, q1⟩ := hc 1 c1 p1 rfl rfl
  rw [show tyAt Tryz.prog 8 32 1 = some 9 by kernel_rfl] at e1
  obtain rfl := Option.some.inj e1
  obtain ⟨x1, rfl, f1, rfl⟩ := ccell_str Tryz.underlying9 q1
  obtain ⟨u2, e2, q2⟩ := hc 2 c2 p2 rfl rfl
  rw [show tyAt Tryz.prog 8 32 2 = some 2 by kernel_rfl] at e2
  obtain rfl := Option.some.inj e2
  obtain ⟨x2, rfl, f2, rfl⟩ := ccell_int Tryz.underlying2 q2
  obtain ⟨u3, e3, q3⟩ := hc 3 c3 p3 rfl rfl
  rw [show tyAt Tryz.prog 8 32 3 = some 2 by kernel_rfl] at e3
  obtain rfl := Option.some.inj e3
  obtain ⟨x3, rfl, f3, rfl⟩ := ccell_int Tryz.underlying2 q3
  obtain ⟨u4, e4, q4⟩ := hc 4 c4 p4 rfl rfl
  rw [show tyAt Tryz.prog 8 32 4 = some 2 by kernel_rfl] at e4
  obtain rfl := Option.some.inj e4
  obtain ⟨x4, rfl, f4, rfl⟩ := ccell_int Tryz.underlying2 q4
  obtain ⟨u5, e5, q5⟩ := hc 5 c5 p5 rfl rfl
  rw [show tyAt Tryz.prog 8 32 5 = some 2 by kernel_rfl] at e5
  obtain rfl := Option.some.inj e5
  obtain ⟨x5, rfl, f5, rfl⟩ := ccell_int Tryz.underlying2 q5
  obtain ⟨u6, e6, q6⟩ := hc 6 c6 p6 rfl rfl
  rw [show tyAt Tryz.prog 8 32 6 = some 2 by kernel_rfl] at e6
  obtain rfl := Option.some.inj e6
  obtain ⟨x6, rfl, f6, rfl⟩ := ccell_int Tryz.underlying2 q6
  obtain ⟨u7, e7, q7⟩ := hc 7 c7 p7 rfl rfl
  rw [show tyAt Tryz.prog 8 32 7 = some 2 by kernel_rfl] at e7
  obtain rfl := Option.some.inj e7
  obtain ⟨x7, rfl, f7, rfl⟩ := ccell_int Tryz.underlying2 q7
  obtain ⟨u8, e8, q8⟩ := hc 8 c8 p8 rfl rfl
  rw [show tyAt Tryz.prog 8 32 8 = some 9 by kernel_rfl] at e8
  obtain rfl := Option.some.inj e8
  obtain ⟨x8, rfl, f8, rfl⟩ := ccell_str Tryz.underlying9 q8
  obtain ⟨u9, e9, q9⟩ := hc 9 c9 p9 rfl rfl
  rw [show tyAt Tryz.prog 8 32 9 = some 2 by kernel_rfl] at e9
  obtain rfl := Option.some.inj e9
  obtain ⟨x9, rfl, f9, rfl⟩ := ccell_int Tryz.underlying2 q9
  obtain ⟨u10, e10, q10⟩ := hc 10 c10 p10 rfl rfl
  rw [show tyAt Tryz.prog 8 32 10 = some 2 by kernel_rfl] at e10
  obtain rfl := Option.some.inj e10
  obtain ⟨x10, rfl, f10, rfl⟩ := ccell_int Tryz.underlying2 q10
  obtain ⟨u11, e11, q11⟩ := hc 11 c11 p11 rfl rfl
  rw [show tyAt Tryz.prog 8 32 11 = some 26 by kernel_rfl] at e11
  obtain rfl := Option.some.inj e11
  obtain ⟨x11, n11, k11, rfl, f11, g11, j11⟩ := ccell_slice Tryz.underlying26 q11
  obtain ⟨u12, e12, q12⟩ := hc 12 c12 p12 rfl rfl
  rw [show tyAt Tryz.prog 8 32 12 = some 27 by kernel_rfl] at e12
  obtain rfl := Option.some.inj e12
  obtain ⟨x12, n12, k12, rfl, f12, g12, j12⟩ := ccell_slice Tryz.underlying27 q12
  obtain ⟨u13, e13, q13⟩ := hc 13 c13 p13 rfl rfl
  rw [show tyAt Tryz.prog 8 32 13 = some 3 by kernel_rfl] at e13
  obtain rfl := Option.some.inj e13
  obtain ⟨x13, rfl, f13, rfl⟩ := ccell_int Tryz.underlying3 q13
  obtain ⟨u14, e14, q14⟩ := hc 14 c14 p14 rfl rfl
  rw [show tyAt Tryz.prog 8 32 14 = some 2 by kernel_rfl] at e14
  obtain rfl := Option.some.inj e14
  obtain ⟨x14, rfl, f14, rfl⟩ := ccell_int Tryz.underlying2 q14
  obtain ⟨u15, e15, q15⟩ := hc 15 c15 p15 rfl rfl
  rw [show tyAt Tryz.prog 8 32 15 = some 28 by kernel_rfl] at e15
  obtain rfl := Option.some.inj e15
  obtain ⟨x15, n15, k15, rfl, f15, g15, j15⟩ := ccell_slice Tryz.underlying28 q15
  obtain ⟨u16, e16, q16⟩ := hc 16 c16 p16 rfl rfl
  rw [show tyAt Tryz.prog 8 32 16 = some 2 by kernel_rfl] at e16
  obtain rfl := Option.some.inj e16
  obtain ⟨x16, rfl, f16, rfl⟩ := ccell_int Tryz.underlying2 q16
  obtain ⟨u17, e17, q17⟩ := hc 17 c17 p17 rfl rfl
  rw [show tyAt Tryz.prog 8 32 17 = some 28 by kernel_rfl] at e17
  obtain rfl := Option.some.inj e17
  obtain ⟨x17, n17, k17, rfl, f17, g17, j17⟩ := ccell_slice Tryz.underlying28 q17
  obtain ⟨u18, e18, q18⟩ := hc 18 c18 p18 rfl rfl
  rw [show tyAt Tryz.prog 8 32 18 = some 9 by kernel_rfl] at e18
  obtain rfl := Option.some.inj e18
  obtain ⟨x18, rfl, f18, rfl⟩ := ccell_str Tryz.underlying9 q18
  obtain ⟨u19, e19, q19⟩ := hc 19 c19 p19 rfl rfl
  rw [show tyAt Tryz.prog 8 32 19 = some 2 by kernel_rfl] at e19
  obtain rfl := Option.some.inj e19
  obtain ⟨x19, rfl, f19, rfl⟩ := ccell_int Tryz.underlying2 q19
  obtain ⟨u20, e20, q20⟩ := hc 20 c20 p20 rfl rfl
  rw [show tyAt Tryz.prog 8 32 20 = some 2 by kernel_rfl] at e20
  obtain rfl := Option.some.inj e20
  obtain ⟨x20, rfl, f20, rfl⟩ := ccell_int Tryz.underlying2 q20
  obtain ⟨u21, e21, q21⟩ := hc 21 c21 p21 rfl rfl
  rw [show tyAt Tryz.prog 8 32 21 = some 2 by kernel_rfl] at e21
  obtain rfl := Option.some.inj e21
  obtain ⟨x21, rfl, f21, rfl⟩ := ccell_int Tryz.underlying2 q21
  obtain ⟨u22, e22, q22⟩ := hc 22 c22 p22 rfl rfl
  rw [show tyAt Tryz.prog 8 32 22 = some 2 by kernel_rfl] at e22
  obtain rfl := Option.some.inj e22
  obtain ⟨x22, rfl, f22, rfl⟩ := ccell_int Tryz.underlying2 q22
  obtain ⟨u23, e23, q23⟩ := hc 23 c23 p23 rfl rfl
  rw [show tyAt Tryz.prog 8 32 23 = some 2 by kernel_rfl] at e23
  obtain rfl := Option.some.inj e23
  obtain ⟨x23, rfl, f23, rfl⟩ := ccell_int Tryz.underlying2 q23
  obtain ⟨u24, e24, q24⟩ := hc 24 c24 p24 rfl rfl
  rw [show tyAt Tryz.prog 8 32 24 = some 2 by kernel_rfl] at e24
  obtain rfl := Option.some.inj e24
  obtain ⟨x24, rfl, f24, rfl⟩ := ccell_int Tryz.underlying2 q24
  obtain ⟨u25, e25, q25⟩ := hc 25 c25 p25 rfl rfl
  rw [show tyAt Tryz.prog 8 32 25 = some 2 by kernel_rfl] at e25
  obtain rfl := Option.some.inj e25
  obtain ⟨x25, rfl, f25, rfl⟩ := ccell_int Tryz.underlying2 q25
  exact ⟨x0, x1, x2, x3, x4, x5, x6, x7, x8, x9, x10, x11, n11, k11, p11, x12, n12, k12, p12, x13, x14, x15, n15, k15, p15, x16, x17, n17, k17, p17, x18, x19, x20, x21, x22, x23, x24, x25, rfl, rfl, f0, f1, f2, f3, f4, f5, f6, f7, f8, f9, f10, f11, g11, j11, f12, g12, j12, f13, f14, f15, g15, j15, f16, f17, g17, j17, f18, f19, f20, f21, f22, f23, f24, f25⟩

theorem bookNil_G (os : List (Option AObj)) (vs : List Value) (h : AVals Tryz.prog 8 7 [32] vs os) : G EP 3 vs ((state0 7).lays os).shut fun v _ => v = .bool true := by
  obtain ⟨v, vs', o, os', rfl, rfl, hv, rfl, rfl⟩ := h
  obtain ⟨x0, x1, x2, x3, x4, x5, x6, x7, x8, x9, x10, x11, n11, k11, o11, x12, n12, k12, o12, x13, x14, x15, n15, k15, o15, x16, x17, n17, k17, o17, x18, x19, x20, x21, x22, x23, x24, x25, rfl, rfl, _⟩ := arg32 hv
  clear hv
  refine G.body rfl Tryz.func3 rfl ?_
  refine X.seq (X.pass 5 (by kernel_rfl) ?_)
  refine X.seq (X.seq (X.region (XR.list (XO.run 5 6 (by kernel_rfl) ?_))))
  refine XO.cons (by kernel_rfl) (XP.call (args := [.slice (some ⟨34, 0, none⟩) 1 1]) (by kernel_rfl) Tryz.func7 rfl (by kernel_rfl) (by kernel_rfl) ?_)
  -- few
  refine G.body rfl Tryz.func7 rfl ?_
  refine X.seq (X.pass 5 (by kernel_rfl) ?_)
  refine X.seq (X.seq (X.pass 5 (by kernel_rfl) ?_))
  refine X.block (X.loop1 (X.seq (X.pass 10 (by kernel_rfl) ?_)))
  refine X.seq (X.block (X.seq (X.region (XR.list (XO.run 5 8 (by kernel_rfl) ?_)))))
  by_cases h1 : (n11 : Int) > 50
  · refine XO.val (.bool true) (by kernel_rfl) (show _ = some (.bool (decide ((n11 : Int) > 50)), []) by kernel_rfl) (by rw [decide_eq_true h1]) ?_
    refine XO.done 5 (by kernel_rfl) ?_
    refine X.cond (v := true) (by kernel_rfl) (fun _ => ?_) (fun e => nomatch e)
    refine X.seq (X.pass 5 (by kernel_rfl) (X.ret ?_))
    refine ⟨[.bool false], by kernel_rfl, ?_⟩
    refine XO.done 5 (by kernel_rfl) ?_
    refine X.cond (v := true) (by kernel_rfl) (fun _ => ?_) (fun e => nomatch e)
    exact X.endsIn 10 (by kernel_rfl)
  · refine XO.val (.bool false) (by kernel_rfl) (show _ = some (.bool (decide ((n11 : Int) > 50)), []) by kernel_rfl) (by rw [decide_eq_false h1]) ?_
    refine XO.run 5 9 (by kernel_rfl) ?_
    by_cases h2 : (n12 : Int) > 50
    · refine XO.val (.bool true) (by kernel_rfl) (show _ = some (.bool (decide ((n12 : Int) > 50)), []) by kernel_rfl) (by rw [decide_eq_true h2]) ?_
      refine XO.done 5 (by kernel_rfl) ?_
      refine X.cond (v := true) (by kernel_rfl) (fun _ => ?_) (fun e => nomatch e)
      refine X.seq (X.pass 5 (by kernel_rfl) (X.ret ?_))
      refine ⟨[.bool false], by kernel_rfl, ?_⟩
      refine XO.done 5 (by kernel_rfl) ?_
      refine X.cond (v := true) (by kernel_rfl) (fun _ => ?_) (fun e => nomatch e)
      exact X.endsIn 10 (by kernel_rfl)
    · refine XO.val (.bool false) (by kernel_rfl) (show _ = some (.bool (decide ((n12 : Int) > 50)), []) by kernel_rfl) (by rw [decide_eq_false h2]) ?_
      refine XO.done 5 (by kernel_rfl) ?_
      refine X.cond (v := false) (by kernel_rfl) (fun e => nomatch e) (fun _ => X.skip ?_)
      refine X.pass 5 (by kernel_rfl) ?_
      refine X.loop1 (X.seq (X.exits 10 0 (by kernel_rfl) ?_))
      refine after_exit (after_exit (unblock_hit ?_))
      refine X.rets 10 (by kernel_rfl) ⟨[.bool true], by kernel_rfl, ?_⟩
      refine XO.done 5 (by kernel_rfl) ?_
      refine X.cond (v := false) (by kernel_rfl) (fun e => nomatch e) (fun _ => X.skip ?_)
      exact X.ends 3000 (by kernel_rfl)
end Go.Proofs.YtimbbelbppfgkaaGreatDoor.bookNil
