/- It is proved that items have their names, no world is down and the zero world is as a new one: the law WorldNames returns true, for every operation, as the program is run over an abstract heap. Conditions: none beyond those of the given statement. -/
import Derived.Test.YtimbbelbppfgkaaGreatDoorAbsRun
import Derived.Test.YtimbbelbppfgkaaGreatDoorEnv
import Derived.IntWalk
open Go Go.Abs Go.RowKit
namespace Go.Proofs.YtimbbelbppfgkaaGreatDoor.worldNames
set_option maxRecDepth 100000

/-! ### awake, run by the kernel once -/
theorem runA : (call? ET 3000 23 [] (state0 7)).map (·.1) = some (.bool true) := by kernel_rfl
theorem tellsA : Tells Tryz.prog 23 (.bool true) := closed_call ET_ok rfl rfl runA
def primT : Nat → Option (List Value → AW → Option (Value × AW))
  | 23 => some (pTell (.bool true))
  | _ => none
noncomputable def EP : Env := { P := Tryz.prog, nglob := 7, prim := primT, ext := extT }
theorem EP_ok : EnvOk EP where
  mixed := ET_ok.mixed
  name := ET_ok.name
  ext := ET_ok.ext
  prim f p h := by
    have : PrimSound Tryz.prog 7 f p := by
      change primT f = some p at h
      unfold primT at h
      split at h
      · cases h; exact pTell_sound rfl tellsA
      · cases h
    exact this


theorem arg72 {b : Nat} {v : Value} {os : List (Option AObj)} (h : AVal Tryz.prog 8 b 72 v os) : ∃ (x0 : Int) (x1 : Int) (x2 : Option Addr) (n2 k2 : Nat) (o2 : Option AObj), v = .agg #[.int .i64 x0, .int .i64 x1, .slice x2 n2 k2] ∧ os = [none, none, o2] ∧ (Lit.int .i64 x0).wf = true ∧ (Lit.int .i64 x1).wf = true ∧ n2 ≤ k2 ∧ k2 ≤ maxLen ∧ ((x2 = none ∧ n2 = 0 ∧ k2 = 0 ∧ o2 = none) ∨ (x2 = some ⟨b + 2, 0, none⟩ ∧ ∃ d' c, d' < 8 ∧ Row Tryz.prog d' 5 n2 k2 c ∧ o2 = some (.cells c 0))) := by
  have hsz : Tryz.prog.cellsOf 72 = 3 := by kernel_rfl
  have h1 := h.size
  have h2 := h.len
  rw [hsz] at h1 h2
  obtain ⟨⟨cs⟩, rfl⟩ := h.agg.2 (.inl ⟨_, Tryz.underlying72⟩)
  have hc : ∀ (i : Nat) (x : Value) (o : Option AObj), cs[i]? = some x → os[i]? = some o → ∃ u, tyAt Tryz.prog 8 72 i = some u ∧ CCell Tryz.prog 8 (b + i) u x o := h.cells
  change cs.length = 3 at h1
  clear h
  obtain ⟨c0, c1, c2, rfl⟩ : ∃ c0 c1 c2, cs = [c0, c1, c2] := by
    rcases cs with _ | ⟨c0, cs⟩
    · simp at h1
    rcases cs with _ | ⟨c1, cs⟩
    · simp at h1
    rcases cs with _ | ⟨c2, cs⟩
    · simp at h1
    rcases cs with _ | ⟨_, _⟩
    · exact ⟨_, _, _, rfl⟩
    · simp at h1
  obtain ⟨p0, p1, p2, rfl⟩ : ∃ p0 p1 p2, os = [p0, p1, p2] := by
    rcases os with _ | ⟨p0, os⟩
    · simp at h2
    rcases os with _ | ⟨p1, os⟩
    · simp at h2
    rcases os with _ | ⟨p2, os⟩
    · simp at h2
    rcases os with _ | ⟨_, _⟩
    · exact ⟨_, _, _, rfl⟩
    · simp at h2
  obtain ⟨u0, e0, q0⟩ := hc 0 c0 p0 rfl rfl
  rw [show tyAt Tryz.prog 8 72 0 = some 3 by kernel_rfl] at e0
  obtain rfl := Option.some.inj e0
  obtain ⟨x0, rfl, f0, rfl⟩ := ccell_int Tryz.underlying3 q0
  obtain ⟨u1, e1, q1⟩ := hc 1 c1 p1 rfl rfl
  rw [show tyAt Tryz.prog 8 72 1 = some 3 by kernel_rfl] at e1
  obtain rfl := Option.some.inj e1
  obtain ⟨x1, rfl, f1, rfl⟩ := ccell_int Tryz.underlying3 q1
  obtain ⟨u2, e2, q2⟩ := hc 2 c2 p2 rfl rfl
  rw [show tyAt Tryz.prog 8 72 2 = some 35 by kernel_rfl] at e2
  obtain rfl := Option.some.inj e2
  obtain ⟨x2, n2, k2, rfl, f2, g2, j2⟩ := ccell_slice Tryz.underlying35 q2
  exact ⟨x0, x1, x2, n2, k2, p2, rfl, rfl, f0, f1, f2, g2, j2⟩


theorem worldNames_G (os : List (Option AObj)) (vs : List Value) (h : AVals Tryz.prog 8 7 [72] vs os) : G EP 5 vs ((state0 7).lays os).shut fun v _ => v = .bool true := by
  obtain ⟨v, vs', o, os', rfl, rfl, hv, rfl, rfl⟩ := h
  obtain ⟨x0, x1, x2, n2, k2, o2, rfl, rfl, _, _, hnk, hkm, hx2⟩ := arg72 hv
  clear hv
  refine G.body rfl Tryz.func5 rfl ?_
  refine X.seq (X.pass 5 (by kernel_rfl) ?_)
  refine X.seq (X.seq (X.region (XR.list (XO.run 5 5 (by kernel_rfl) ?_))))
  refine XO.cons (by kernel_rfl) (XP.call (args := [.slice (some ⟨11, 0, none⟩) 1 1]) (by kernel_rfl) Tryz.func24 rfl (by kernel_rfl) (by kernel_rfl) ?_)
  refine G.same (fun v => ∃ b, v = .bool b ∧ (b = true → n2 ≤ 99980)) ?_ ?_
  · -- few
    refine G.body rfl Tryz.func24 rfl ?_
    refine X.seq (X.pass 5 (by kernel_rfl) ?_)
    refine X.seq (X.pass 5 (by kernel_rfl) ?_)
    refine X.seq (X.seq (X.pass 5 (by kernel_rfl) ?_))
    refine X.block (X.loop1 (X.seq (X.pass 10 (by kernel_rfl) ?_)))
    refine X.seq (X.block (X.seq (X.region (XR.list (XO.run 5 7 (by kernel_rfl) ?_)))))
    by_cases hn : n2 ≤ 99980
    · refine XO.val (.int .i64 n2) (by kernel_rfl) (show _ = some (.int .i64 (if (100000 : Int) < n2 then 100000 else n2), []) by kernel_rfl) (by rw [if_neg (by omega)]) ?_
      refine XO.val (.int .i64 (20 + n2)) (by kernel_rfl) (show _ = some (.int .i64 (IntKind.i64.wrap (20 + n2)), []) by kernel_rfl) (by rw [IntWalk.i64_in _ (by omega)]) ?_
      refine XO.val (.int .i64 (20 + n2)) (by kernel_rfl) (show _ = some (.int .i64 (IntKind.i64.wrap (0 + (20 + n2))), []) by kernel_rfl) (by rw [Int.zero_add, IntWalk.i64_in _ (by omega)]) ?_
      refine XO.done 5 (by kernel_rfl) ?_
      refine X.seq (X.pass 5 (by kernel_rfl) ?_)
      refine X.block (X.loopQ 63 (.mk (by kernel_rfl)) (fun f => f 0 = .slice (some ⟨11, 0, none⟩) 1 1 ∧ f 2 = .bool false ∧ f 3 = .int .i64 (20 + n2) ∧ f 5 = .int .i64 0 ∧ (∃ c : Int, f 4 = .int .i64 c) ∧ (∃ k : Nat, k ≤ n2 ∧ f 6 = .int .i64 k)) (fun f => n2 - (intOf (f 6)).toNat) ?_ ?_)
      · exact ⟨by kernel_rfl, by kernel_rfl, by kernel_rfl, by kernel_rfl, ⟨0, by kernel_rfl⟩, ⟨0, Nat.zero_le _, by kernel_rfl⟩⟩
      · rintro f ⟨h0, h2, h3, h5, ⟨c, h4⟩, ⟨k, hk, h6⟩⟩
        refine X.known [(0, .slice (some ⟨11, 0, none⟩) 1 1), (2, .bool false), (3, .int .i64 (20 + n2)), (5, .int .i64 0), (4, .int .i64 c), (6, .int .i64 k)] (by simp [h0, h2, h3, h4, h5, h6]) ?_
        refine X.seq (X.seq (X.region (XR.list (XO.run 5 7 (by kernel_rfl) ?_))))
        by_cases hlt : k < n2
        · refine XO.val (.bool true) (by kernel_rfl) (show _ = some (.bool (decide ((k : Int) < n2)), []) by kernel_rfl) (by rw [decide_eq_true (by omega)]) ?_
          refine XO.run 5 2 (by kernel_rfl) ?_
          refine XO.val (.bool true) (by kernel_rfl) (show _ = some (.bool (decide ((20 + n2 : Int) ≤ 100000)), []) by kernel_rfl) (by rw [decide_eq_true (by omega)]) ?_
          refine XO.done 5 (by kernel_rfl) ?_
          refine X.cond (v := true) (by kernel_rfl) (fun _ => X.skip ?_) (fun e => nomatch e)
          have hx : x2 = some ⟨9, 0, none⟩ ∧ ∃ d' cs, d' < 8 ∧ Row Tryz.prog d' 5 n2 k2 cs ∧ o2 = some (.cells cs 0) := by
            rcases hx2 with ⟨_, h, _⟩ | h
            · omega
            · exact h
          obtain ⟨rfl, d', cs, _, hrow, rfl⟩ := hx
          have hc5 : Tryz.prog.cellsOf 5 = 1 := by kernel_rfl
          obtain ⟨_, _, _, hcl, hcell⟩ := hrow
          rw [hc5] at hcl hcell
          have hkl : k < cs.length := by omega
          obtain ⟨u, hu1, hu2⟩ := hcell k _ (List.getElem?_eq_getElem hkl)
          have ht : tyAt Tryz.prog d' 5 (k % 1) = some 5 ∨ tyAt Tryz.prog d' 5 (k % 1) = none := by
            rw [Nat.mod_one]
            cases d' with
            | zero => exact .inr rfl
            | succ d' => left; unfold tyAt; rw [Tryz.underlying5]; rfl
          obtain ⟨y, hy⟩ : ∃ y, cs[k]'hkl = .int .u8 y := by
            rcases ht with ht | ht <;> rw [ht] at hu1 <;> cases hu1
            unfold Plain at hu2
            rw [Tryz.underlying5] at hu2
            split at hu2 <;> first | (cases hu2; done) | skip
            all_goals simp_all
          have hck : cs[k]? = some (.int .u8 y) := by rw [List.getElem?_eq_getElem hkl, hy]
          refine X.seq (X.block (X.seq (X.region (XR.list (XO.run 5 6 (by kernel_rfl) ?_)))))
          refine XO.val (.pointer (some ⟨9, k, none⟩)) (by kernel_rfl) (ropv_index (k := .i64) (o := 0) (len := n2) (cap := k2) (b := 9) (i := k) Tryz.underlying35 (by kernel_rfl) (by kernel_rfl) (by omega) (by omega) (show _ = some 1 by kernel_rfl)) (by simp) ?_
          refine XO.val (.int .u8 y) (by kernel_rfl) (ropv_load (b := 9) (o := k) (c := cs) (s := 0) (by kernel_rfl) (by kernel_rfl) (by kernel_rfl) hck) rfl ?_
          have back : ∀ (c' : Int) (t' : AT), t'.val 4 = .int .i64 c' → t'.val 0 = .slice (some ⟨11, 0, none⟩) 1 1 → t'.val 2 = .bool false → t'.val 3 = .int .i64 (20 + n2) → t'.val 5 = .int .i64 0 → t'.val 6 = .int .i64 (IntKind.i64.wrap (k + 1)) →
              ((t'.val 0 = .slice (some ⟨11, 0, none⟩) 1 1 ∧ t'.val 2 = .bool false ∧ t'.val 3 = .int .i64 (20 + n2) ∧ t'.val 5 = .int .i64 0 ∧ (∃ c : Int, t'.val 4 = .int .i64 c) ∧ (∃ k : Nat, k ≤ n2 ∧ t'.val 6 = .int .i64 k)) ∧ n2 - (intOf (t'.val 6)).toNat < n2 - (intOf (f 6)).toNat) := by
            intro c' t' e4 e0 e2 e3 e5 e6
            rw [IntWalk.i64_in _ (by omega)] at e6
            refine ⟨⟨e0, e2, e3, e5, ⟨c', e4⟩, ⟨k + 1, by omega, by rw [e6]; rfl⟩⟩, ?_⟩
            rw [e6, h6]; simp [intOf]; omega
          by_cases hy10 : y = 10
          · refine XO.val (.bool true) (by kernel_rfl) (show _ = some (.bool (y == 10), []) by kernel_rfl) (by simp [hy10]) ?_
            refine XO.done 5 (by kernel_rfl) ?_
            refine X.cond (v := true) (by kernel_rfl) (fun _ => ?_) (fun e => nomatch e)
            refine X.pass 5 (by kernel_rfl) ?_
            refine X.pass 5 (by kernel_rfl) ?_
            exact ⟨back (IntKind.i64.wrap (c + 1)) _ (by kernel_rfl) (by kernel_rfl) (by kernel_rfl) (by kernel_rfl) (by kernel_rfl) (by kernel_rfl), by kernel_rfl⟩
          · refine XO.val (.bool false) (by kernel_rfl) (show _ = some (.bool (y == 10), []) by kernel_rfl) (by simp [hy10]) ?_
            refine XO.done 5 (by kernel_rfl) ?_
            refine X.cond (v := false) (by kernel_rfl) (fun e => nomatch e) (fun _ => X.skip ?_)
            refine X.pass 5 (by kernel_rfl) ?_
            exact ⟨back c _ (by kernel_rfl) (by kernel_rfl) (by kernel_rfl) (by kernel_rfl) (by kernel_rfl) (by kernel_rfl), by kernel_rfl⟩
        · refine XO.val (.bool false) (by kernel_rfl) (show _ = some (.bool (decide ((k : Int) < n2)), []) by kernel_rfl) (by rw [decide_eq_false (by omega)]) ?_
          refine XO.done 5 (by kernel_rfl) ?_
          refine X.cond (v := false) (by kernel_rfl) (fun e => nomatch e) (fun _ => X.exit ?_)
          refine after_exit (unblock_hit ?_)
          -- behind the loop
          refine X.pass 5 (by kernel_rfl) ?_
          refine X.loop1 (X.seq (X.exits 10 0 (by kernel_rfl) ?_))
          refine after_exit (after_exit (unblock_hit ?_))
          refine X.seq (X.region (XR.list (XO.run 5 1 (by kernel_rfl) ?_)))
          refine XO.val (.bool true) (by kernel_rfl) (show _ = some (.bool (decide ((20 + n2 : Int) ≤ 100000)), []) by kernel_rfl) (by rw [decide_eq_true (by omega)]) ?_
          refine XO.run 5 2 (by kernel_rfl) ?_
          by_cases hc80 : c ≤ 80
          · refine XO.val (.bool true) (by kernel_rfl) (show _ = some (.bool (decide (c ≤ 80)), []) by kernel_rfl) (by rw [decide_eq_true hc80]) ?_
            refine XO.done 5 (by kernel_rfl) ?_
            refine X.ret ⟨[.bool true], by kernel_rfl, ⟨true, rfl, fun _ => hn⟩, by kernel_rfl⟩
          · refine XO.val (.bool false) (by kernel_rfl) (show _ = some (.bool (decide (c ≤ 80)), []) by kernel_rfl) (by rw [decide_eq_false hc80]) ?_
            refine XO.done 5 (by kernel_rfl) ?_
            refine X.ret ⟨[.bool false], by kernel_rfl, ⟨false, rfl, fun e => nomatch e⟩, by kernel_rfl⟩
    · obtain ⟨M, hM⟩ : ∃ M : Int, M = min (n2 : Int) 100000 := ⟨_, rfl⟩
      refine XO.val (.int .i64 M) (by kernel_rfl) (show _ = some (.int .i64 (if (100000 : Int) < n2 then 100000 else n2), []) by kernel_rfl) (by congr 1; split <;> omega) ?_
      refine XO.val (.int .i64 (20 + M)) (by kernel_rfl) (show _ = some (.int .i64 (IntKind.i64.wrap (20 + M)), []) by kernel_rfl) (by rw [IntWalk.i64_in _ (by omega)]) ?_
      refine XO.val (.int .i64 (20 + M)) (by kernel_rfl) (show _ = some (.int .i64 (IntKind.i64.wrap (0 + (20 + M))), []) by kernel_rfl) (by rw [Int.zero_add, IntWalk.i64_in _ (by omega)]) ?_
      refine XO.done 5 (by kernel_rfl) ?_
      refine X.seq (X.pass 5 (by kernel_rfl) ?_)
      refine X.block (X.loop1 (X.seq (X.seq (X.region (XR.list (XO.run 5 7 (by kernel_rfl) ?_))))))
      refine XO.val (.bool true) (by kernel_rfl) (show _ = some (.bool (decide ((0 : Int) < n2)), []) by kernel_rfl) (by rw [decide_eq_true (by omega)]) ?_
      refine XO.run 5 2 (by kernel_rfl) ?_
      refine XO.val (.bool false) (by kernel_rfl) (show _ = some (.bool (decide ((20 + M : Int) ≤ 100000)), []) by kernel_rfl) (by rw [decide_eq_false (by omega)]) ?_
      refine XO.done 5 (by kernel_rfl) ?_
      refine X.cond (v := false) (by kernel_rfl) (fun e => nomatch e) (fun _ => X.exit ?_)
      refine after_exit (after_exit (unblock_hit ?_))
      refine X.pass 5 (by kernel_rfl) ?_
      refine X.loop1 (X.seq (X.exits 10 0 (by kernel_rfl) ?_))
      refine after_exit (after_exit (unblock_hit ?_))
      refine X.seq (X.region (XR.list (XO.run 5 1 (by kernel_rfl) ?_)))
      refine XO.val (.bool false) (by kernel_rfl) (show _ = some (.bool (decide ((20 + M : Int) ≤ 100000)), []) by kernel_rfl) (by rw [decide_eq_false (by omega)]) ?_
      refine XO.done 5 (by kernel_rfl) ?_
      exact X.ret ⟨[.bool false], by kernel_rfl, ⟨false, rfl, fun e => nomatch e⟩, by kernel_rfl⟩
  · rintro v ⟨b, rfl, hb⟩
    cases b with
    | false =>
      refine XO.done 5 (by kernel_rfl) ?_
      refine X.cond (v := true) (by kernel_rfl) (fun _ => ?_) (fun e => nomatch e)
      exact X.endsIn 10 (by kernel_rfl)
    | true =>
      have hn := hb rfl
      clear hb
      refine XO.done 5 (by kernel_rfl) ?_
      refine X.cond (v := false) (by kernel_rfl) (fun e => nomatch e) (fun _ => X.skip ?_)
      refine X.seq (X.pass 20 (by kernel_rfl) ?_)
      refine X.seq (X.pass 20 (by kernel_rfl) ?_)
      refine X.seq (X.region (XR.list (XO.run 5 2 (by kernel_rfl) ?_)))
      refine XO.cons (by kernel_rfl) (XP.call (args := [.agg #[.int .i64 x0, .int .i64 x1, .slice x2 n2 k2]]) (by kernel_rfl) Tryz.func33 rfl (by kernel_rfl) (by kernel_rfl) ?_)
      rcases Nat.eq_zero_or_pos n2 with hn0 | hn0
      · subst hn0
        have hk : (x2 = none ∧ k2 = 0 ∧ o2 = none) ∨ ∃ cs, x2 = some ⟨9, 0, none⟩ ∧ o2 = some (.cells cs 0) := by
          rcases hx2 with ⟨a, _, b, c⟩ | ⟨a, _, cs, _, _, b⟩
          · exact .inl ⟨a, b, c⟩
          · exact .inr ⟨cs, a, b⟩
        clear hx2
        rcases hk with ⟨rfl, rfl, rfl⟩ | ⟨cs, rfl, rfl⟩
        · refine G.to (fun σ => σ.alloc (.cells [.int .i64 x0, .int .i64 x1, .slice none 0 0] (tagOf 72 0))) ?_ fun v => ?_
          · refine G.body rfl Tryz.func33 rfl ?_
            refine X.seq (X.pass 5 (by kernel_rfl) ?_)
            refine X.seq (X.pass 5 (by kernel_rfl) ?_)
            refine X.seq (X.pass 5 (by kernel_rfl) ?_)
            refine X.seq (X.seq (X.pass 5 (by kernel_rfl) ?_))
            refine X.block ?_
            by_cases e1 : x0 = 1
            · refine X.seq (X.region (XR.list (XO.val (.bool true) (by kernel_rfl) (show _ = some (.bool (x0 == 1), []) by kernel_rfl) (by simp [e1]) (XO.done 5 (by kernel_rfl) ?_))))
              refine X.cond (v := true) (by kernel_rfl) (fun _ => ?_) (fun e => nomatch e)
              exact X.rets 10 (by kernel_rfl) (unblock_ret (after_ret (back_any (by kernel_rfl) fun _ => by kernel_rfl)))
            refine X.seq (X.region (XR.list (XO.val (.bool false) (by kernel_rfl) (show _ = some (.bool (x0 == 1), []) by kernel_rfl) (by simp [e1]) (XO.done 5 (by kernel_rfl) ?_))))
            refine X.cond (v := false) (by kernel_rfl) (fun e => nomatch e) (fun _ => ?_)
            by_cases e2 : x0 = 2
            · refine X.seq (X.region (XR.list (XO.val (.bool true) (by kernel_rfl) (show _ = some (.bool (x0 == 2), []) by kernel_rfl) (by simp [e2]) (XO.done 5 (by kernel_rfl) ?_))))
              refine X.cond (v := true) (by kernel_rfl) (fun _ => ?_) (fun e => nomatch e)
              exact X.rets 10 (by kernel_rfl) (unblock_ret (after_ret (back_any (by kernel_rfl) fun _ => by kernel_rfl)))
            refine X.seq (X.region (XR.list (XO.val (.bool false) (by kernel_rfl) (show _ = some (.bool (x0 == 2), []) by kernel_rfl) (by simp [e2]) (XO.done 5 (by kernel_rfl) ?_))))
            refine X.cond (v := false) (by kernel_rfl) (fun e => nomatch e) (fun _ => ?_)
            by_cases e3 : x0 = 3
            · refine X.seq (X.region (XR.list (XO.val (.bool true) (by kernel_rfl) (show _ = some (.bool (x0 == 3), []) by kernel_rfl) (by simp [e3]) (XO.done 5 (by kernel_rfl) ?_))))
              refine X.cond (v := true) (by kernel_rfl) (fun _ => ?_) (fun e => nomatch e)
              exact X.rets 10 (by kernel_rfl) (unblock_ret (after_ret (back_any (by kernel_rfl) fun _ => by kernel_rfl)))
            refine X.seq (X.region (XR.list (XO.val (.bool false) (by kernel_rfl) (show _ = some (.bool (x0 == 3), []) by kernel_rfl) (by simp [e3]) (XO.done 5 (by kernel_rfl) ?_))))
            refine X.cond (v := false) (by kernel_rfl) (fun e => nomatch e) (fun _ => ?_)
            by_cases e4 : x0 = 4
            · refine X.seq (X.region (XR.list (XO.val (.bool true) (by kernel_rfl) (show _ = some (.bool (x0 == 4), []) by kernel_rfl) (by simp [e4]) (XO.done 5 (by kernel_rfl) ?_))))
              refine X.cond (v := true) (by kernel_rfl) (fun _ => ?_) (fun e => nomatch e)
              exact X.rets 10 (by kernel_rfl) (unblock_ret (after_ret (back_any (by kernel_rfl) fun _ => by kernel_rfl)))
            refine X.seq (X.region (XR.list (XO.val (.bool false) (by kernel_rfl) (show _ = some (.bool (x0 == 4), []) by kernel_rfl) (by simp [e4]) (XO.done 5 (by kernel_rfl) ?_))))
            refine X.cond (v := false) (by kernel_rfl) (fun e => nomatch e) (fun _ => ?_)
            by_cases e5 : x0 = 5
            · refine X.seq (X.region (XR.list (XO.val (.bool true) (by kernel_rfl) (show _ = some (.bool (x0 == 5), []) by kernel_rfl) (by simp [e5]) (XO.done 5 (by kernel_rfl) ?_))))
              refine X.cond (v := true) (by kernel_rfl) (fun _ => ?_) (fun e => nomatch e)
              exact X.rets 10 (by kernel_rfl) (unblock_ret (after_ret (back_any (by kernel_rfl) fun _ => by kernel_rfl)))
            refine X.seq (X.region (XR.list (XO.val (.bool false) (by kernel_rfl) (show _ = some (.bool (x0 == 5), []) by kernel_rfl) (by simp [e5]) (XO.done 5 (by kernel_rfl) ?_))))
            refine X.cond (v := false) (by kernel_rfl) (fun e => nomatch e) (fun _ => ?_)
            by_cases e6 : x0 = 6
            · refine X.seq (X.region (XR.list (XO.val (.bool true) (by kernel_rfl) (show _ = some (.bool (x0 == 6), []) by kernel_rfl) (by simp [e6]) (XO.done 5 (by kernel_rfl) ?_))))
              refine X.cond (v := true) (by kernel_rfl) (fun _ => ?_) (fun e => nomatch e)
              exact X.rets 10 (by kernel_rfl) (unblock_ret (after_ret (back_any (by kernel_rfl) fun _ => by kernel_rfl)))
            refine X.seq (X.region (XR.list (XO.val (.bool false) (by kernel_rfl) (show _ = some (.bool (x0 == 6), []) by kernel_rfl) (by simp [e6]) (XO.done 5 (by kernel_rfl) ?_))))
            refine X.cond (v := false) (by kernel_rfl) (fun e => nomatch e) (fun _ => ?_)
            by_cases e7 : x0 = 7
            · refine X.seq (X.region (XR.list (XO.val (.bool true) (by kernel_rfl) (show _ = some (.bool (x0 == 7), []) by kernel_rfl) (by simp [e7]) (XO.done 5 (by kernel_rfl) ?_))))
              refine X.cond (v := true) (by kernel_rfl) (fun _ => ?_) (fun e => nomatch e)
              exact X.rets 10 (by kernel_rfl) (unblock_ret (after_ret (back_any (by kernel_rfl) fun _ => by kernel_rfl)))
            refine X.seq (X.region (XR.list (XO.val (.bool false) (by kernel_rfl) (show _ = some (.bool (x0 == 7), []) by kernel_rfl) (by simp [e7]) (XO.done 5 (by kernel_rfl) ?_))))
            refine X.cond (v := false) (by kernel_rfl) (fun e => nomatch e) (fun _ => ?_)
            refine X.skip (unblock_normal ?_)
            exact X.rets 10 (by kernel_rfl) (back_any (by kernel_rfl) fun _ => by kernel_rfl)
          · refine XO.done 50 (by kernel_rfl) ?_
            exact X.ends 3000 (by kernel_rfl)
        · refine G.to (fun σ => σ.alloc (.cells [.int .i64 x0, .int .i64 x1, .slice (some ⟨9, 0, none⟩) 0 k2] (tagOf 72 0))) ?_ fun v => ?_
          · refine G.body rfl Tryz.func33 rfl ?_
            refine X.seq (X.pass 5 (by kernel_rfl) ?_)
            refine X.seq (X.pass 5 (by kernel_rfl) ?_)
            refine X.seq (X.pass 5 (by kernel_rfl) ?_)
            refine X.seq (X.seq (X.pass 5 (by kernel_rfl) ?_))
            refine X.block ?_
            by_cases e1 : x0 = 1
            · refine X.seq (X.region (XR.list (XO.val (.bool true) (by kernel_rfl) (show _ = some (.bool (x0 == 1), []) by kernel_rfl) (by simp [e1]) (XO.done 5 (by kernel_rfl) ?_))))
              refine X.cond (v := true) (by kernel_rfl) (fun _ => ?_) (fun e => nomatch e)
              exact X.rets 10 (by kernel_rfl) (unblock_ret (after_ret (back_any (by kernel_rfl) fun _ => by kernel_rfl)))
            refine X.seq (X.region (XR.list (XO.val (.bool false) (by kernel_rfl) (show _ = some (.bool (x0 == 1), []) by kernel_rfl) (by simp [e1]) (XO.done 5 (by kernel_rfl) ?_))))
            refine X.cond (v := false) (by kernel_rfl) (fun e => nomatch e) (fun _ => ?_)
            by_cases e2 : x0 = 2
            · refine X.seq (X.region (XR.list (XO.val (.bool true) (by kernel_rfl) (show _ = some (.bool (x0 == 2), []) by kernel_rfl) (by simp [e2]) (XO.done 5 (by kernel_rfl) ?_))))
              refine X.cond (v := true) (by kernel_rfl) (fun _ => ?_) (fun e => nomatch e)
              exact X.rets 10 (by kernel_rfl) (unblock_ret (after_ret (back_any (by kernel_rfl) fun _ => by kernel_rfl)))
            refine X.seq (X.region (XR.list (XO.val (.bool false) (by kernel_rfl) (show _ = some (.bool (x0 == 2), []) by kernel_rfl) (by simp [e2]) (XO.done 5 (by kernel_rfl) ?_))))
            refine X.cond (v := false) (by kernel_rfl) (fun e => nomatch e) (fun _ => ?_)
            by_cases e3 : x0 = 3
            · refine X.seq (X.region (XR.list (XO.val (.bool true) (by kernel_rfl) (show _ = some (.bool (x0 == 3), []) by kernel_rfl) (by simp [e3]) (XO.done 5 (by kernel_rfl) ?_))))
              refine X.cond (v := true) (by kernel_rfl) (fun _ => ?_) (fun e => nomatch e)
              exact X.rets 10 (by kernel_rfl) (unblock_ret (after_ret (back_any (by kernel_rfl) fun _ => by kernel_rfl)))
            refine X.seq (X.region (XR.list (XO.val (.bool false) (by kernel_rfl) (show _ = some (.bool (x0 == 3), []) by kernel_rfl) (by simp [e3]) (XO.done 5 (by kernel_rfl) ?_))))
            refine X.cond (v := false) (by kernel_rfl) (fun e => nomatch e) (fun _ => ?_)
            by_cases e4 : x0 = 4
            · refine X.seq (X.region (XR.list (XO.val (.bool true) (by kernel_rfl) (show _ = some (.bool (x0 == 4), []) by kernel_rfl) (by simp [e4]) (XO.done 5 (by kernel_rfl) ?_))))
              refine X.cond (v := true) (by kernel_rfl) (fun _ => ?_) (fun e => nomatch e)
              exact X.rets 10 (by kernel_rfl) (unblock_ret (after_ret (back_any (by kernel_rfl) fun _ => by kernel_rfl)))
            refine X.seq (X.region (XR.list (XO.val (.bool false) (by kernel_rfl) (show _ = some (.bool (x0 == 4), []) by kernel_rfl) (by simp [e4]) (XO.done 5 (by kernel_rfl) ?_))))
            refine X.cond (v := false) (by kernel_rfl) (fun e => nomatch e) (fun _ => ?_)
            by_cases e5 : x0 = 5
            · refine X.seq (X.region (XR.list (XO.val (.bool true) (by kernel_rfl) (show _ = some (.bool (x0 == 5), []) by kernel_rfl) (by simp [e5]) (XO.done 5 (by kernel_rfl) ?_))))
              refine X.cond (v := true) (by kernel_rfl) (fun _ => ?_) (fun e => nomatch e)
              exact X.rets 10 (by kernel_rfl) (unblock_ret (after_ret (back_any (by kernel_rfl) fun _ => by kernel_rfl)))
            refine X.seq (X.region (XR.list (XO.val (.bool false) (by kernel_rfl) (show _ = some (.bool (x0 == 5), []) by kernel_rfl) (by simp [e5]) (XO.done 5 (by kernel_rfl) ?_))))
            refine X.cond (v := false) (by kernel_rfl) (fun e => nomatch e) (fun _ => ?_)
            by_cases e6 : x0 = 6
            · refine X.seq (X.region (XR.list (XO.val (.bool true) (by kernel_rfl) (show _ = some (.bool (x0 == 6), []) by kernel_rfl) (by simp [e6]) (XO.done 5 (by kernel_rfl) ?_))))
              refine X.cond (v := true) (by kernel_rfl) (fun _ => ?_) (fun e => nomatch e)
              exact X.rets 10 (by kernel_rfl) (unblock_ret (after_ret (back_any (by kernel_rfl) fun _ => by kernel_rfl)))
            refine X.seq (X.region (XR.list (XO.val (.bool false) (by kernel_rfl) (show _ = some (.bool (x0 == 6), []) by kernel_rfl) (by simp [e6]) (XO.done 5 (by kernel_rfl) ?_))))
            refine X.cond (v := false) (by kernel_rfl) (fun e => nomatch e) (fun _ => ?_)
            by_cases e7 : x0 = 7
            · refine X.seq (X.region (XR.list (XO.val (.bool true) (by kernel_rfl) (show _ = some (.bool (x0 == 7), []) by kernel_rfl) (by simp [e7]) (XO.done 5 (by kernel_rfl) ?_))))
              refine X.cond (v := true) (by kernel_rfl) (fun _ => ?_) (fun e => nomatch e)
              exact X.rets 10 (by kernel_rfl) (unblock_ret (after_ret (back_any (by kernel_rfl) fun _ => by kernel_rfl)))
            refine X.seq (X.region (XR.list (XO.val (.bool false) (by kernel_rfl) (show _ = some (.bool (x0 == 7), []) by kernel_rfl) (by simp [e7]) (XO.done 5 (by kernel_rfl) ?_))))
            refine X.cond (v := false) (by kernel_rfl) (fun e => nomatch e) (fun _ => ?_)
            refine X.skip (unblock_normal ?_)
            exact X.rets 10 (by kernel_rfl) (back_any (by kernel_rfl) fun _ => by kernel_rfl)
          · refine XO.done 50 (by kernel_rfl) ?_
            exact X.ends 3000 (by kernel_rfl)
      · have hx : x2 = some ⟨9, 0, none⟩ ∧ ∃ d' cs, d' < 8 ∧ Row Tryz.prog d' 5 n2 k2 cs ∧ o2 = some (.cells cs 0) := by
          rcases hx2 with ⟨_, h, _⟩ | h
          · omega
          · exact h
        obtain ⟨rfl, d', cs, _, ⟨_, _, _, hcl, _⟩, rfl⟩ := hx
        rw [show Tryz.prog.cellsOf 5 = 1 by kernel_rfl] at hcl
        refine G.to (fun σ => (σ.alloc (.cells [.int .i64 x0, .int .i64 x1, .slice (some ⟨9, 0, none⟩) n2 k2] (tagOf 72 0))).alloc (.cells (cs.take n2) (tagOf 5 1))) ?_ fun v => ?_
        · refine G.body rfl Tryz.func33 rfl ?_
          refine X.seq (X.pass 5 (by kernel_rfl) ?_)
          refine X.seq (X.pass 5 (by kernel_rfl) ?_)
          refine X.seq (X.region (XR.list (XO.run 5 3 (by kernel_rfl) ?_)))
          refine XO.cons (by kernel_rfl) (XP.wop (by kernel_rfl) (wopv_append_nil (E := EP) (n := n2) (x := .slice (some ⟨9, 0, none⟩) n2 k2) (size := 1) (bytes := 1) (new := cs.take n2) (z := .int .u8 0) (by kernel_rfl)
            Tryz.underlying35 (by kernel_rfl) Tryz.underlying35 rfl rfl hn0 (by decide) (by decide) (by omega) ?_ (by kernel_rfl) rfl) ?_)
          · refine (firstv_row (c := cs) (s := 0) (by kernel_rfl)).trans ?_
            rw [take_all (by omega), Nat.mul_one, List.drop_zero]
          refine XO.done 5 (by kernel_rfl) ?_
          refine X.seq (X.seq (X.pass 5 (by kernel_rfl) ?_))
          refine X.block ?_
          by_cases e1 : x0 = 1
          · refine X.seq (X.region (XR.list (XO.val (.bool true) (by kernel_rfl) (show _ = some (.bool (x0 == 1), []) by kernel_rfl) (by simp [e1]) (XO.done 5 (by kernel_rfl) ?_))))
            refine X.cond (v := true) (by kernel_rfl) (fun _ => ?_) (fun e => nomatch e)
            exact X.rets 10 (by kernel_rfl) (unblock_ret (after_ret (back_any (by kernel_rfl) fun _ => by kernel_rfl)))
          refine X.seq (X.region (XR.list (XO.val (.bool false) (by kernel_rfl) (show _ = some (.bool (x0 == 1), []) by kernel_rfl) (by simp [e1]) (XO.done 5 (by kernel_rfl) ?_))))
          refine X.cond (v := false) (by kernel_rfl) (fun e => nomatch e) (fun _ => ?_)
          by_cases e2 : x0 = 2
          · refine X.seq (X.region (XR.list (XO.val (.bool true) (by kernel_rfl) (show _ = some (.bool (x0 == 2), []) by kernel_rfl) (by simp [e2]) (XO.done 5 (by kernel_rfl) ?_))))
            refine X.cond (v := true) (by kernel_rfl) (fun _ => ?_) (fun e => nomatch e)
            exact X.rets 10 (by kernel_rfl) (unblock_ret (after_ret (back_any (by kernel_rfl) fun _ => by kernel_rfl)))
          refine X.seq (X.region (XR.list (XO.val (.bool false) (by kernel_rfl) (show _ = some (.bool (x0 == 2), []) by kernel_rfl) (by simp [e2]) (XO.done 5 (by kernel_rfl) ?_))))
          refine X.cond (v := false) (by kernel_rfl) (fun e => nomatch e) (fun _ => ?_)
          by_cases e3 : x0 = 3
          · refine X.seq (X.region (XR.list (XO.val (.bool true) (by kernel_rfl) (show _ = some (.bool (x0 == 3), []) by kernel_rfl) (by simp [e3]) (XO.done 5 (by kernel_rfl) ?_))))
            refine X.cond (v := true) (by kernel_rfl) (fun _ => ?_) (fun e => nomatch e)
            exact X.rets 10 (by kernel_rfl) (unblock_ret (after_ret (back_any (by kernel_rfl) fun _ => by kernel_rfl)))
          refine X.seq (X.region (XR.list (XO.val (.bool false) (by kernel_rfl) (show _ = some (.bool (x0 == 3), []) by kernel_rfl) (by simp [e3]) (XO.done 5 (by kernel_rfl) ?_))))
          refine X.cond (v := false) (by kernel_rfl) (fun e => nomatch e) (fun _ => ?_)
          by_cases e4 : x0 = 4
          · refine X.seq (X.region (XR.list (XO.val (.bool true) (by kernel_rfl) (show _ = some (.bool (x0 == 4), []) by kernel_rfl) (by simp [e4]) (XO.done 5 (by kernel_rfl) ?_))))
            refine X.cond (v := true) (by kernel_rfl) (fun _ => ?_) (fun e => nomatch e)
            exact X.rets 10 (by kernel_rfl) (unblock_ret (after_ret (back_any (by kernel_rfl) fun _ => by kernel_rfl)))
          refine X.seq (X.region (XR.list (XO.val (.bool false) (by kernel_rfl) (show _ = some (.bool (x0 == 4), []) by kernel_rfl) (by simp [e4]) (XO.done 5 (by kernel_rfl) ?_))))
          refine X.cond (v := false) (by kernel_rfl) (fun e => nomatch e) (fun _ => ?_)
          by_cases e5 : x0 = 5
          · refine X.seq (X.region (XR.list (XO.val (.bool true) (by kernel_rfl) (show _ = some (.bool (x0 == 5), []) by kernel_rfl) (by simp [e5]) (XO.done 5 (by kernel_rfl) ?_))))
            refine X.cond (v := true) (by kernel_rfl) (fun _ => ?_) (fun e => nomatch e)
            exact X.rets 10 (by kernel_rfl) (unblock_ret (after_ret (back_any (by kernel_rfl) fun _ => by kernel_rfl)))
          refine X.seq (X.region (XR.list (XO.val (.bool false) (by kernel_rfl) (show _ = some (.bool (x0 == 5), []) by kernel_rfl) (by simp [e5]) (XO.done 5 (by kernel_rfl) ?_))))
          refine X.cond (v := false) (by kernel_rfl) (fun e => nomatch e) (fun _ => ?_)
          by_cases e6 : x0 = 6
          · refine X.seq (X.region (XR.list (XO.val (.bool true) (by kernel_rfl) (show _ = some (.bool (x0 == 6), []) by kernel_rfl) (by simp [e6]) (XO.done 5 (by kernel_rfl) ?_))))
            refine X.cond (v := true) (by kernel_rfl) (fun _ => ?_) (fun e => nomatch e)
            exact X.rets 10 (by kernel_rfl) (unblock_ret (after_ret (back_any (by kernel_rfl) fun _ => by kernel_rfl)))
          refine X.seq (X.region (XR.list (XO.val (.bool false) (by kernel_rfl) (show _ = some (.bool (x0 == 6), []) by kernel_rfl) (by simp [e6]) (XO.done 5 (by kernel_rfl) ?_))))
          refine X.cond (v := false) (by kernel_rfl) (fun e => nomatch e) (fun _ => ?_)
          by_cases e7 : x0 = 7
          · refine X.seq (X.region (XR.list (XO.val (.bool true) (by kernel_rfl) (show _ = some (.bool (x0 == 7), []) by kernel_rfl) (by simp [e7]) (XO.done 5 (by kernel_rfl) ?_))))
            refine X.cond (v := true) (by kernel_rfl) (fun _ => ?_) (fun e => nomatch e)
            exact X.rets 10 (by kernel_rfl) (unblock_ret (after_ret (back_any (by kernel_rfl) fun _ => by kernel_rfl)))
          refine X.seq (X.region (XR.list (XO.val (.bool false) (by kernel_rfl) (show _ = some (.bool (x0 == 7), []) by kernel_rfl) (by simp [e7]) (XO.done 5 (by kernel_rfl) ?_))))
          refine X.cond (v := false) (by kernel_rfl) (fun e => nomatch e) (fun _ => ?_)
          refine X.skip (unblock_normal ?_)
          exact X.rets 10 (by kernel_rfl) (back_any (by kernel_rfl) fun _ => by kernel_rfl)
        · refine XO.done 50 (by kernel_rfl) ?_
          exact X.ends 3000 (by kernel_rfl)
end Go.Proofs.YtimbbelbppfgkaaGreatDoor.worldNames
