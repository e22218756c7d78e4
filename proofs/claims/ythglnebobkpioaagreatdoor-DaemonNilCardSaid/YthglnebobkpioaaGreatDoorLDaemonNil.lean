/- It is proved that no daemon, and one of no book, is down, and at most a thousand connections are opened: the law DaemonNil returns true, for every row of bytes and every number, as the program is run over an abstract heap. Conditions: none beyond those of the given statement. -/
import Derived.Test.YthglnebobkpioaaGreatDoorAbsRun
import Derived.Test.YthglnebobkpioaaGreatDoorEnv
import Derived.IntWalk
open Go Go.Abs Go.RowKit
namespace Go.Proofs.YthglnebobkpioaaGreatDoor.daemonNil
set_option maxRecDepth 100000

/-! ### awake, run by the kernel once -/
theorem runA : (call? ET 3000 16 [] (state0 7)).map (·.1) = some (.bool true) := by kernel_rfl
theorem tellsA : Tells Tryz.prog 16 (.bool true) := closed_call ET_ok rfl rfl runA
def primT : Nat → Option (List Value → AW → Option (Value × AW))
  | 16 => some (pTell (.bool true))
  | _ => none
noncomputable def EP : Env := { P := Tryz.prog, nglob := 7, prim := primT, ext := extT }
theorem EP_ok : EnvOk EP where
  mixed := ET_ok.mixed
  name := ET_ok.name
  ext := ET_ok.ext
  prim f p h := by
    have : PrimSound Tryz.prog 7 f p := by
      change primT f = some p at h
      unfold primT at h
      split at h
      · cases h; exact pTell_sound rfl tellsA
      · cases h
    exact this


theorem arg72 {b : Nat} {v : Value} {os : List (Option AObj)} (h : AVal Tryz.prog 8 b 72 v os) : ∃ (x0 : Option Addr) (n0 k0 : Nat) (o0 : Option AObj), v = .slice x0 n0 k0 ∧ os = [o0] ∧ n0 ≤ k0 ∧ k0 ≤ maxLen ∧ ((x0 = none ∧ n0 = 0 ∧ k0 = 0 ∧ o0 = none) ∨ (x0 = some ⟨b + 0, 0, none⟩ ∧ ∃ d' c, d' < 8 ∧ Row Tryz.prog d' 5 n0 k0 c ∧ o0 = some (.cells c 0))) := by
  have hsz : Tryz.prog.cellsOf 72 = 1 := by kernel_rfl
  have h1 := h.size
  have h2 := h.len
  rw [hsz] at h1 h2
  obtain ⟨cs, hcs⟩ : ∃ cs, cs = v.cells.toList := ⟨_, rfl⟩
  have hc : ∀ (i : Nat) (x : Value) (o : Option AObj), cs[i]? = some x → os[i]? = some o → ∃ u, tyAt Tryz.prog 8 72 i = some u ∧ CCell Tryz.prog 8 (b + i) u x o := by rw [hcs]; exact h.cells
  have hv : cs = [v] := by
    rw [hcs]
    cases v <;> first | rfl | (rcases h.agg.1 ⟨_, rfl⟩ with ⟨_, e⟩ | ⟨_, _, e⟩ <;> (rw [Tryz.underlying72] at e; cases e))
  rw [← hcs] at h1
  clear h
  obtain ⟨c0, rfl⟩ : ∃ c0, cs = [c0] := by
    rcases cs with _ | ⟨c0, cs⟩
    · simp at h1
    rcases cs with _ | ⟨_, _⟩
    · exact ⟨_, rfl⟩
    · simp at h1
  obtain ⟨p0, rfl⟩ : ∃ p0, os = [p0] := by
    rcases os with _ | ⟨p0, os⟩
    · simp at h2
    rcases os with _ | ⟨_, _⟩
    · exact ⟨_, rfl⟩
    · simp at h2
  obtain rfl : c0 = v := by simpa using hv
  obtain ⟨u0, e0, q0⟩ := hc 0 c0 p0 rfl rfl
  rw [show tyAt Tryz.prog 8 72 0 = some 72 by kernel_rfl] at e0
  obtain rfl := Option.some.inj e0
  obtain ⟨x0, n0, k0, rfl, f0, g0, j0⟩ := ccell_slice Tryz.underlying72 q0
  exact ⟨x0, n0, k0, p0, rfl, rfl, f0, g0, j0⟩

theorem arg3 {b : Nat} {v : Value} {os : List (Option AObj)} (h : AVal Tryz.prog 8 b 3 v os) : ∃ (x0 : Int), v = .int .i64 x0 ∧ os = [none] ∧ (Lit.int .i64 x0).wf = true := by
  have hsz : Tryz.prog.cellsOf 3 = 1 := by kernel_rfl
  have h1 := h.size
  have h2 := h.len
  rw [hsz] at h1 h2
  obtain ⟨cs, hcs⟩ : ∃ cs, cs = v.cells.toList := ⟨_, rfl⟩
  have hc : ∀ (i : Nat) (x : Value) (o : Option AObj), cs[i]? = some x → os[i]? = some o → ∃ u, tyAt Tryz.prog 8 3 i = some u ∧ CCell Tryz.prog 8 (b + i) u x o := by rw [hcs]; exact h.cells
  have hv : cs = [v] := by
    rw [hcs]
    cases v <;> first | rfl | (rcases h.agg.1 ⟨_, rfl⟩ with ⟨_, e⟩ | ⟨_, _, e⟩ <;> (rw [Tryz.underlying3] at e; cases e))
  rw [← hcs] at h1
  clear h
  obtain ⟨c0, rfl⟩ : ∃ c0, cs = [c0] := by
    rcases cs with _ | ⟨c0, cs⟩
    · simp at h1
    rcases cs with _ | ⟨_, _⟩
    · exact ⟨_, rfl⟩
    · simp at h1
  obtain ⟨p0, rfl⟩ : ∃ p0, os = [p0] := by
    rcases os with _ | ⟨p0, os⟩
    · simp at h2
    rcases os with _ | ⟨_, _⟩
    · exact ⟨_, rfl⟩
    · simp at h2
  obtain rfl : c0 = v := by simpa using hv
  obtain ⟨u0, e0, q0⟩ := hc 0 c0 p0 rfl rfl
  rw [show tyAt Tryz.prog 8 3 0 = some 3 by kernel_rfl] at e0
  obtain rfl := Option.some.inj e0
  obtain ⟨x0, rfl, f0, rfl⟩ := ccell_int Tryz.underlying3 q0
  exact ⟨x0, rfl, rfl, f0⟩

/-- a daemon that is up. -/
theorem off_no {σ : AW} {D s : Nat} {b : Addr} {last m out : Value} (hc : σ.cells? D = some ([.pointer (some b), .bool false, last, m, out], s)) :
    G EP 42 [.pointer (some ⟨D, 0, none⟩)] σ fun v σ' => v = .bool false ∧ σ' = σ := by
  refine G.body rfl Tryz.func42 rfl ?_
  refine X.seq (X.passQ 5 (by kernel_rfl) (by kernel_rfl) ?_)
  refine X.seq (X.region (XR.list (XO.runQ 5 6 (by kernel_rfl) (by kernel_rfl) ?_)))
  refine XO.val (.bool false) (by kernel_rfl) (ropv_load (b := D) (o := 1) (s := s) (c := [.pointer (some b), .bool false, last, m, out]) (by kernel_rfl) hc (by kernel_rfl) rfl) rfl ?_
  refine XO.runQ 5 5 (by kernel_rfl) (by kernel_rfl) ?_
  refine XO.val (.pointer (some b)) (by kernel_rfl) (ropv_load (b := D) (o := 0) (s := s) (c := [.pointer (some b), .bool false, last, m, out]) (by kernel_rfl) hc (by kernel_rfl) rfl) rfl ?_
  refine XO.doneQ 5 (by kernel_rfl) (by kernel_rfl) ?_
  exact X.ret ⟨[.bool false], by kernel_rfl, rfl, rfl⟩

structure Up (σ : AW) (D M s : Nat) (b : Addr) (out : Value) (i : Int) (es : List MapEntry) (k : Nat) : Prop where
  d : σ.heap.get D = some (.cells [.pointer (some b), .bool false, .int .i64 i, .map (some M), out] s)
  m : σ.heap.get M = some (.map es k)
  md : σ.may D = true
  mm : σ.may M = true
  ne : D ≠ M
  dn : D < σ.next
  mn : M < σ.next


set_option maxHeartbeats 4000000 in
theorem connect {σ : AW} {D M s k : Nat} {b : Addr} {out : Value} {i : Int} {es : List MapEntry} (h : Up σ D M s b out i es k) (h0 : 0 ≤ i) (h1 : i < 1000) (hf : Instr.findNow (.int .i64) (.int .i64 (i + 1)) es 0 = some none) :
    G EP 18 [.pointer (some ⟨D, 0, none⟩)] σ fun v σ' => v = .tuple #[.int .i64 (i + 1), .int .i64 0] ∧ σ'.prot = σ.prot ∧
      Up σ' D M s b out (i + 1) (es ++ [{ key := .int .i64 (i + 1), val := .pointer (some ⟨σ.next, 0, none⟩), born := k }]) (k + 1) := by
  refine G.body rfl Tryz.func18 rfl ?_
  refine X.seq (X.passQ 5 (by kernel_rfl) (by kernel_rfl) ?_)
  refine X.seq (X.block (X.seq (X.region (XR.list (XO.runQ 5 1 (by kernel_rfl) (by kernel_rfl) ?_)))))
  refine XO.cons (by kernel_rfl) (XP.call (args := [.pointer (some ⟨D, 0, none⟩)]) (by kernel_rfl) Tryz.func42 rfl (by kernel_rfl) (by kernel_rfl) (G.same (fun v => v = .bool false) (off_no (cells_of h.d)) ?_))
  rintro v rfl
  refine XO.doneQ 5 (by kernel_rfl) (by kernel_rfl) ?_
  refine X.cond (v := false) (by kernel_rfl) (fun e => nomatch e) (fun _ => ?_)
  refine X.seq (X.region (XR.list (XO.runQ 5 3 (by kernel_rfl) (by kernel_rfl) ?_)))
  refine XO.val (.int .i64 i) (by kernel_rfl) (ropv_load (b := D) (o := 2) (s := s) (by kernel_rfl) (cells_of h.d) (by kernel_rfl) rfl) rfl ?_
  refine XO.val (.bool false) (by kernel_rfl) (show _ = some (.bool (i == 1000), []) by kernel_rfl) (by simp; omega) ?_
  refine XO.doneQ 5 (by kernel_rfl) (by kernel_rfl) ?_
  refine X.cond (v := false) (by kernel_rfl) (fun e => nomatch e) (fun _ => X.skip (unblock_normal ?_))
  refine X.seq (X.region (XR.list (XO.runQ 5 3 (by kernel_rfl) (by kernel_rfl) ?_)))
  refine XO.val (.int .i64 i) (by kernel_rfl) (ropv_load (b := D) (o := 2) (s := s) (by kernel_rfl) (cells_of h.d) (by kernel_rfl) rfl) rfl ?_
  refine XO.val (.int .i64 (i + 1)) (by kernel_rfl) (show _ = some (.int .i64 (IntKind.i64.wrap (i + 1)), []) by kernel_rfl) (by rw [IntWalk.i64_in _ (by omega)]) ?_
  refine XO.runQ 5 2 (by kernel_rfl) (by kernel_rfl) ?_
  refine XO.cons (by kernel_rfl) (XP.wopE (by kernel_rfl) (wopv_store (b := D) (o := 2) (v := .int .i64 (i + 1)) (by kernel_rfl) (by kernel_rfl) rfl rfl (by kernel_rfl) h.d h.md (by simp)) fun σ1 hs1 => ?_)
  refine XO.nil ?_
  have d1 : σ1.heap.get D = some (.cells [.pointer (some b), .bool false, .int .i64 (i + 1), .map (some M), out] s) := by rw [hs1, AW.get_upd_self]; rfl
  have m1 : σ1.heap.get M = some (.map es k) := by rw [hs1, AW.get_updv _ _ _ _ (fun e => h.ne e.symm)]; exact h.m
  have p1 : σ1.prot = σ.prot := by rw [hs1]; rfl
  have n1 : σ1.next = σ.next := by rw [hs1]; rfl
  have dn : D < σ1.next := by rw [n1]; exact h.dn
  clear hs1
  refine X.seq (X.region (XR.anyE (by kernel_rfl) ?_))
  refine XA.go 0 [4, 8] (by kernel_rfl) (by kernel_rfl) ?_
  refine XA.go 1 [4, 8] (by kernel_rfl) (by kernel_rfl) ?_
  refine XA.go 2 [4, 8] (by kernel_rfl) (by kernel_rfl) ?_
  refine XA.take (i := 3) (more := [4, 8]) (by kernel_rfl) (take_hit (by kernel_rfl) rfl (by kernel_rfl) (ropv_load (b := D) (o := 3) (s := s) (by kernel_rfl) (cells_of d1) (by kernel_rfl) rfl) (by simpa using dn)) ?_
  refine XA.go 4 [8] (by kernel_rfl) (by kernel_rfl) ?_
  refine XA.go 5 [8] (by kernel_rfl) (by kernel_rfl) ?_
  refine XA.go 6 [8] (by kernel_rfl) (by kernel_rfl) ?_
  refine XA.take (i := 7) (more := [8]) (by kernel_rfl) (take_hit (by kernel_rfl) rfl (by kernel_rfl) (ropv_load (b := D) (o := 2) (s := s) (by kernel_rfl) (cells_of d1) (by kernel_rfl) rfl) (by simpa using dn)) ?_
  refine XA.go 8 [] (by kernel_rfl) (by kernel_rfl) ?_
  refine XA.op (i := 9) (by kernel_rfl) (by kernel_rfl) rfl (by kernel_rfl) (XP.wopE (by kernel_rfl) (wopv_box (v := .agg #[.slice none 0 0, .bool false]) (by kernel_rfl) rfl) fun σ2 hs2 => ?_)
  have d2 : σ2.heap.get D = some (.cells [.pointer (some b), .bool false, .int .i64 (i + 1), .map (some M), out] s) := by rw [hs2, AW.get_alloc _ _ _ (by show D ≠ σ1.next; omega)]; exact d1
  have m2 : σ2.heap.get M = some (.map es k) := by rw [hs2, AW.get_alloc _ _ _ (by show M ≠ σ1.next; have := h.mn; omega)]; exact m1
  have n2 : σ2.next = σ.next + 1 := by rw [hs2, ← n1]; rfl
  clear hs2
  refine XA.op (i := 10) (by kernel_rfl) (by kernel_rfl) rfl (by kernel_rfl) (XP.wopE (by kernel_rfl) (wopv_mapNew (kv := .int .i64 (i + 1)) (xv := .pointer (some ⟨σ1.next, 0, none⟩)) (u := ()) Tryz.underlying124 (by kernel_rfl) (by kernel_rfl) (by kernel_rfl) rfl Tryz.underlying3 m2 ?_ (by kernel_rfl) hf) fun σ3 hs3 => ?_)
  · exact Eq.trans (b := !(σ1.prot.contains M)) (by kernel_rfl) (by rw [p1]; exact h.mm)
  refine XA.done0 ?_ (by kernel_rfl)
  intro σ4 e1 e2 e3
  have d4 : σ4.heap.get D = some (.cells [.pointer (some b), .bool false, .int .i64 (i + 1), .map (some M), out] s) := by rw [e1, hs3, AW.get_updv _ _ _ _ h.ne]; exact d2
  have m4 : σ4.heap.get M = some (.map (es ++ [{ key := .int .i64 (i + 1), val := .pointer (some ⟨σ.next, 0, none⟩), born := k }]) (k + 1)) := by rw [e1, hs3, AW.get_upd_self, n1]
  have n4 : σ4.next = σ.next + 1 := by rw [e2, hs3]; exact n2
  clear hs3 e1 e2
  refine X.seq (X.region (XR.list (XO.runQ 5 3 (by kernel_rfl) (by kernel_rfl) ?_)))
  refine XO.val (.int .i64 (i + 1)) (by kernel_rfl) (ropv_load (b := D) (o := 2) (s := s) (by kernel_rfl) (cells_of d4) (by kernel_rfl) rfl) rfl ?_
  refine XO.doneQ 5 (by kernel_rfl) (by kernel_rfl) ?_
  have hp : σ4.prot = σ.prot := e3.trans p1
  refine X.ret ⟨[.int .i64 (i + 1), .int .i64 0], by kernel_rfl, rfl, hp, d4, m4, ?_, ?_, h.ne, by rw [n4]; have := h.dn; omega, by rw [n4]; have := h.mn; omega⟩
  · unfold AW.may; rw [hp]; exact h.md
  · unfold AW.may; rw [hp]; exact h.mm

/-- the keys are numbers, and not this one. -/
theorem find_none {k : Int} : ∀ (es : List MapEntry) (n : Nat), (∀ e ∈ es, ∃ x, e.key = .int .i64 x ∧ x ≠ k) → Instr.findNow (.int .i64) (.int .i64 k) es n = some none := by
  intro es
  induction es with
  | nil => intro n _; rfl
  | cons e es ih =>
    intro n h
    obtain ⟨x, h1, h2⟩ := h e (by simp)
    unfold Instr.findNow
    rw [h1]
    have : (k == x) = false := by simp; omega
    simp only [Instr.sameNow, if_true, this]
    exact ih (n + 1) fun e he => h e (by simp [he])

theorem find_first {k : Int} {e : MapEntry} {es : List MapEntry} (h : e.key = .int .i64 k) : Instr.findNow (.int .i64) (.int .i64 k) (e :: es) 0 = some (some (0, e.val)) := by
  unfold Instr.findNow
  rw [h]
  simp [Instr.sameNow]

theorem connect_full {σ : AW} {D M s k : Nat} {b : Addr} {out : Value} {es : List MapEntry} (h : Up σ D M s b out 1000 es k) :
    G EP 18 [.pointer (some ⟨D, 0, none⟩)] σ fun v σ' => v = .tuple #[.int .i64 0, .int .i64 6] ∧ σ' = σ := by
  refine G.body rfl Tryz.func18 rfl ?_
  refine X.seq (X.passQ 5 (by kernel_rfl) (by kernel_rfl) ?_)
  refine X.seq (X.block (X.seq (X.region (XR.list (XO.runQ 5 1 (by kernel_rfl) (by kernel_rfl) ?_)))))
  refine XO.cons (by kernel_rfl) (XP.call (args := [.pointer (some ⟨D, 0, none⟩)]) (by kernel_rfl) Tryz.func42 rfl (by kernel_rfl) (by kernel_rfl) (G.same (fun v => v = .bool false) (off_no (cells_of h.d)) ?_))
  rintro v rfl
  refine XO.doneQ 5 (by kernel_rfl) (by kernel_rfl) ?_
  refine X.cond (v := false) (by kernel_rfl) (fun e => nomatch e) (fun _ => ?_)
  refine X.seq (X.region (XR.list (XO.runQ 5 3 (by kernel_rfl) (by kernel_rfl) ?_)))
  refine XO.val (.int .i64 1000) (by kernel_rfl) (ropv_load (b := D) (o := 2) (s := s) (by kernel_rfl) (cells_of h.d) (by kernel_rfl) rfl) rfl ?_
  refine XO.doneQ 5 (by kernel_rfl) (by kernel_rfl) ?_
  refine X.cond (v := true) (by kernel_rfl) (fun _ => ?_) (fun e => nomatch e)
  exact X.retsQ 5 (by kernel_rfl) (by kernel_rfl) (unblock_ret (after_ret ⟨[.int .i64 0, .int .i64 6], by kernel_rfl, rfl, rfl⟩))

/-- the first connection is closed. -/
theorem close_yes {σ : AW} {D M s k : Nat} {b a : Addr} {out : Value} {i : Int} {e : MapEntry} {es : List MapEntry} (h : Up σ D M s b out i (e :: es) k) (he : e.key = .int .i64 1) (ha : e.val = .pointer (some a)) :
    G EP 20 [.pointer (some ⟨D, 0, none⟩), .int .i64 1] σ fun v σ' => v = .int .i64 0 ∧ Up σ' D M s b out i es k := by
  have hf := find_first (es := es) he
  refine G.body rfl Tryz.func20 rfl ?_
  refine X.seq (X.passQ 5 (by kernel_rfl) (by kernel_rfl) ?_)
  refine X.seq (X.block (X.seq (X.region (XR.list (XO.runQ 5 1 (by kernel_rfl) (by kernel_rfl) ?_)))))
  refine XO.cons (by kernel_rfl) (XP.call (args := [.pointer (some ⟨D, 0, none⟩)]) (by kernel_rfl) Tryz.func42 rfl (by kernel_rfl) (by kernel_rfl) (G.same (fun v => v = .bool false) (off_no (cells_of h.d)) ?_))
  rintro v rfl
  refine XO.doneQ 5 (by kernel_rfl) (by kernel_rfl) ?_
  refine X.cond (v := false) (by kernel_rfl) (fun e => nomatch e) (fun _ => ?_)
  refine X.seq (X.region (XR.list (XO.runQ 5 3 (by kernel_rfl) (by kernel_rfl) ?_)))
  refine XO.val (.map (some M)) (by kernel_rfl) (ropv_load (b := D) (o := 3) (s := s) (by kernel_rfl) (cells_of h.d) (by kernel_rfl) rfl) rfl ?_
  refine XO.runQ 5 1 (by kernel_rfl) (by kernel_rfl) ?_
  refine XO.val (.pointer (some a)) (by kernel_rfl) (ropv_lookup (kv := .int .i64 1) (r := M) (u := ()) Tryz.underlying124 (by kernel_rfl) (by kernel_rfl) rfl Tryz.underlying3 h.m (by kernel_rfl) hf) ha ?_
  refine XO.doneQ 5 (by kernel_rfl) (by kernel_rfl) ?_
  refine X.cond (v := false) (by kernel_rfl) (fun e => nomatch e) (fun _ => X.skip (unblock_normal ?_))
  refine X.seq (X.region (XR.list (XO.runQ 5 3 (by kernel_rfl) (by kernel_rfl) ?_)))
  refine XO.val (.map (some M)) (by kernel_rfl) (ropv_load (b := D) (o := 3) (s := s) (by kernel_rfl) (cells_of h.d) (by kernel_rfl) rfl) rfl ?_
  refine XO.runQ 5 1 (by kernel_rfl) (by kernel_rfl) ?_
  refine XO.cons (by kernel_rfl) (XP.wopE (by kernel_rfl) (wopv_delete (kv := .int .i64 1) (r := M) (u := ()) Tryz.underlying124 (by kernel_rfl) rfl Tryz.underlying3 h.m h.mm (by kernel_rfl) hf) fun σ1 h1 => ?_)
  refine XO.nil ?_
  have d1 : σ1.heap.get D = some (.cells [.pointer (some b), .bool false, .int .i64 i, .map (some M), out] s) := by rw [h1, AW.get_updv _ _ _ _ h.ne]; exact h.d
  have m1 : σ1.heap.get M = some (.map es k) := by rw [h1, AW.get_upd_self]; rfl
  have p1 : σ1.prot = σ.prot := by rw [h1]; rfl
  have n1 : σ1.next = σ.next := by rw [h1]; rfl
  clear h1
  refine X.retsQ 5 (by kernel_rfl) (by kernel_rfl) ⟨[.int .i64 0], by kernel_rfl, rfl, d1, m1, ?_, ?_, h.ne, by rw [n1]; exact h.dn, by rw [n1]; exact h.mn⟩
  · unfold AW.may; rw [p1]; exact h.md
  · unfold AW.may; rw [p1]; exact h.mm

/-- there is no such connection. -/
theorem close_no {σ : AW} {D M s k : Nat} {b : Addr} {out : Value} {i : Int} {es : List MapEntry} (h : Up σ D M s b out i es k) (hf : Instr.findNow (.int .i64) (.int .i64 1) es 0 = some none) :
    G EP 20 [.pointer (some ⟨D, 0, none⟩), .int .i64 1] σ fun v σ' => v = .int .i64 3 ∧ σ' = σ := by
  refine G.body rfl Tryz.func20 rfl ?_
  refine X.seq (X.passQ 5 (by kernel_rfl) (by kernel_rfl) ?_)
  refine X.seq (X.block (X.seq (X.region (XR.list (XO.runQ 5 1 (by kernel_rfl) (by kernel_rfl) ?_)))))
  refine XO.cons (by kernel_rfl) (XP.call (args := [.pointer (some ⟨D, 0, none⟩)]) (by kernel_rfl) Tryz.func42 rfl (by kernel_rfl) (by kernel_rfl) (G.same (fun v => v = .bool false) (off_no (cells_of h.d)) ?_))
  rintro v rfl
  refine XO.doneQ 5 (by kernel_rfl) (by kernel_rfl) ?_
  refine X.cond (v := false) (by kernel_rfl) (fun e => nomatch e) (fun _ => ?_)
  refine X.seq (X.region (XR.list (XO.runQ 5 3 (by kernel_rfl) (by kernel_rfl) ?_)))
  refine XO.val (.map (some M)) (by kernel_rfl) (ropv_load (b := D) (o := 3) (s := s) (by kernel_rfl) (cells_of h.d) (by kernel_rfl) rfl) rfl ?_
  refine XO.runQ 5 1 (by kernel_rfl) (by kernel_rfl) ?_
  refine XO.val (.pointer none) (by kernel_rfl) (ropv_miss (kv := .int .i64 1) (r := M) (u := ()) (z := .pointer none) Tryz.underlying124 (by kernel_rfl) (by kernel_rfl) rfl Tryz.underlying3 h.m (by kernel_rfl) hf (by kernel_rfl)) rfl ?_
  refine XO.doneQ 5 (by kernel_rfl) (by kernel_rfl) ?_
  refine X.cond (v := true) (by kernel_rfl) (fun _ => ?_) (fun e => nomatch e)
  exact X.retsQ 5 (by kernel_rfl) (by kernel_rfl) (unblock_ret (after_ret ⟨[.int .i64 3], by kernel_rfl, rfl, rfl⟩))

/-- the keys of i connections. -/
def Keys (es : List MapEntry) (i : Nat) : Prop := es.length = i ∧ ∀ (j : Nat) (e : MapEntry), es[j]? = some e → e.key = .int .i64 ((j : Int) + 1) ∧ ∃ a, e.val = .pointer (some a)

theorem Keys.snoc {es : List MapEntry} {i : Nat} (h : Keys es i) (e : MapEntry) {a : Addr} (hk : e.key = .int .i64 ((i : Int) + 1)) (hv : e.val = .pointer (some a)) : Keys (es ++ [e]) (i + 1) := by
  refine ⟨by simp [h.1], fun j x hx => ?_⟩
  rcases Nat.lt_or_ge j es.length with hj | hj
  · rw [List.getElem?_append_left hj] at hx; exact h.2 j x hx
  · rw [List.getElem?_append_right hj] at hx
    have : j - es.length = 0 := by
      rcases Nat.eq_zero_or_pos (j - es.length) with h0 | h0
      · exact h0
      · rw [List.getElem?_eq_none (by simp; omega)] at hx; cases hx
    rw [this] at hx
    simp at hx
    subst hx
    have hji : j = i := by have := h.1; omega
    subst hji
    exact ⟨hk, a, hv⟩

set_option maxHeartbeats 4000000 in
theorem daemonNil_G (os : List (Option AObj)) (vs : List Value) (h : AVals Tryz.prog 8 7 [72, 3] vs os) : G EP 4 vs ((state0 7).lays os).shut fun v _ => v = .bool true := by
  obtain ⟨v, vs', o, os', rfl, rfl, hv, v2, vs2, o2, os2, rfl, rfl, hv2, rfl, rfl⟩ := h
  obtain ⟨x0, n0, k0, o0, rfl, rfl, _⟩ := arg72 hv
  obtain ⟨y0, rfl, rfl, _⟩ := arg3 hv2
  clear hv hv2
  refine G.body rfl Tryz.func4 rfl ?_
  refine X.seq (X.pass 5 (by kernel_rfl) ?_)
  refine X.seq (X.seq (X.region (XR.list (XO.run 5 5 (by kernel_rfl) ?_))))
  by_cases h1 : (n0 : Int) > 10000
  · refine XO.val (.bool true) (by kernel_rfl) (show _ = some (.bool (decide ((n0 : Int) > 10000)), []) by kernel_rfl) (by rw [decide_eq_true h1]) ?_
    refine XO.done 5 (by kernel_rfl) ?_
    refine X.cond (v := true) (by kernel_rfl) (fun _ => ?_) (fun e => nomatch e)
    exact X.endsIn 10 (by kernel_rfl)
  · refine XO.val (.bool false) (by kernel_rfl) (show _ = some (.bool (decide ((n0 : Int) > 10000)), []) by kernel_rfl) (by rw [decide_eq_false h1]) ?_
    refine XO.done 5 (by kernel_rfl) ?_
    refine X.cond (v := false) (by kernel_rfl) (fun e => nomatch e) (fun _ => X.skip ?_)
    refine X.seq (X.pass 100 (by kernel_rfl) ?_)
    refine X.seq (X.pass 100 (by kernel_rfl) ?_)
    refine X.seq (X.pass 100 (by kernel_rfl) ?_)
    refine X.seq (X.pass 100 (by kernel_rfl) ?_)
    refine X.seq (X.pass 100 (by kernel_rfl) ?_)
    refine X.seq (X.pass 100 (by kernel_rfl) ?_)
    refine X.seq (X.pass 100 (by kernel_rfl) ?_)
    refine X.seq (X.pass 3000 (by kernel_rfl) ?_)
    refine X.seq (X.seq (X.pass 100 (by kernel_rfl) ?_))
    refine X.block (X.loopF 146 (.mk (by kernel_rfl)) (fun f σ => f 4 = .bool false ∧ f 17 = .pointer (some ⟨16, 0, none⟩) ∧ ∃ (i : Nat) (es : List MapEntry), i ≤ 1000 ∧ f 18 = .int .i64 i ∧
        Keys es i ∧ Up σ 16 15 (tagOf 126 0) ⟨14, 0, none⟩ (.slice none 0 0) i es i) (fun f _ => 1000 - (intOf (f 18)).toNat) ?_ ?_)
    · exact ⟨by kernel_rfl, by kernel_rfl, 0, [], by omega, by kernel_rfl, ⟨rfl, by simp⟩, by kernel_rfl, by kernel_rfl, by kernel_rfl, by kernel_rfl, by decide, of_decide_eq_true (by kernel_rfl), of_decide_eq_true (by kernel_rfl)⟩
    · rintro f σ ⟨f4, f17, i, es, hi, f18, hk, hup⟩
      refine X.known [(4, .bool false), (17, .pointer (some ⟨16, 0, none⟩)), (18, .int .i64 i)] (by simp [f4, f17, f18]) ?_
      refine X.seq (X.seq (X.region (XR.list (XO.runQ 5 1 (by kernel_rfl) (by kernel_rfl) ?_))))
      by_cases hlt : i < 1000
      · refine XO.val (.bool true) (by kernel_rfl) (show _ = some (.bool (decide ((i : Int) < 1000)), []) by kernel_rfl) (by rw [decide_eq_true (by omega)]) ?_
        refine XO.doneQ 5 (by kernel_rfl) (by kernel_rfl) ?_
        refine X.cond (v := true) (by kernel_rfl) (fun _ => X.skip ?_) (fun e => nomatch e)
        refine X.seq (X.block (X.seq (X.region (XR.list (XO.runQ 5 1 (by kernel_rfl) (by kernel_rfl) ?_)))))
        refine XO.cons (by kernel_rfl) (XP.call (args := [.pointer (some ⟨16, 0, none⟩)]) (by kernel_rfl) Tryz.func18 rfl (by kernel_rfl) (by kernel_rfl) ((connect hup (by omega) (by omega) (find_none es 0 fun e he => ?_)).mono ?_))
        · obtain ⟨j, hj, rfl⟩ := List.getElem_of_mem he
          have := (hk.2 j _ (List.getElem?_eq_getElem hj)).1
          have h2 := hk.1
          exact ⟨_, this, by omega⟩
        rintro v σ2 ⟨rfl, hp, hup2⟩
        refine XO.doneQ 5 (by kernel_rfl) (by kernel_rfl) ?_
        refine X.seq (X.region (XR.list (XO.runQ 5 2 (by kernel_rfl) (by kernel_rfl) ?_)))
        refine XO.val (.int .i64 (i + 1)) (by kernel_rfl) (show _ = some (.int .i64 (IntKind.i64.wrap (i + 1)), []) by kernel_rfl) (by rw [IntWalk.i64_in _ (by omega)]) ?_
        refine XO.val (.bool false) (by kernel_rfl) (show _ = some (.bool ((i + 1 : Int) != (i + 1)), []) by kernel_rfl) (by simp) ?_
        refine XO.doneQ 5 (by kernel_rfl) (by kernel_rfl) ?_
        refine X.cond (v := false) (by kernel_rfl) (fun e => nomatch e) (fun _ => X.skip (unblock_normal ?_))
        refine X.passQ 5 (by kernel_rfl) (by kernel_rfl) ?_
        refine ⟨⟨by kernel_rfl, by kernel_rfl, i + 1, _, by omega, Eq.trans (b := .int .i64 (IntKind.i64.wrap (i + 1))) (by kernel_rfl) (by rw [IntWalk.i64_in _ (by omega)]; rfl), hk.snoc _ rfl rfl, hup2⟩, ?_⟩
        rw [f18]
        refine Nat.lt_of_le_of_lt (m := 1000 - (i + 1)) ?_ (by simp [intOf]; omega)
        refine Nat.le_of_eq ?_
        refine Eq.trans (b := 1000 - (intOf (.int .i64 (IntKind.i64.wrap (i + 1)))).toNat) (by kernel_rfl) ?_
        rw [IntWalk.i64_in _ (by omega)]
        simp [intOf]
      · have hi1 : i = 1000 := by omega
        subst hi1
        refine XO.doneQ 5 (by kernel_rfl) (by kernel_rfl) ?_
        refine X.cond (v := false) (by kernel_rfl) (fun e => nomatch e) (fun _ => X.exit ?_)
        refine after_exit (unblock_hit ?_)
        refine X.seq (X.region (XR.list (XO.runQ 5 1 (by kernel_rfl) (by kernel_rfl) ?_)))
        refine XO.cons (by kernel_rfl) (XP.call (args := [.pointer (some ⟨16, 0, none⟩)]) (by kernel_rfl) Tryz.func18 rfl (by kernel_rfl) (by kernel_rfl) (G.same (fun v => v = .tuple #[.int .i64 0, .int .i64 6]) (connect_full hup) ?_))
        rintro v rfl
        refine XO.doneQ 5 (by kernel_rfl) (by kernel_rfl) ?_
        cases es with
        | nil => have := hk.1; simp at this
        | cons e es =>
          obtain ⟨he, a, ha⟩ := hk.2 0 e rfl
          refine X.seq (X.region (XR.list (XO.runQ 5 8 (by kernel_rfl) (by kernel_rfl) ?_)))
          refine XO.cons (by kernel_rfl) (XP.call (args := [.pointer (some ⟨16, 0, none⟩), .int .i64 1]) (by kernel_rfl) Tryz.func20 rfl (by kernel_rfl) (by kernel_rfl) ((close_yes hup he ha).mono ?_))
          rintro v σ2 ⟨rfl, hup2⟩
          refine XO.runQ 5 4 (by kernel_rfl) (by kernel_rfl) ?_
          refine XO.cons (by kernel_rfl) (XP.call (args := [.pointer (some ⟨16, 0, none⟩), .int .i64 1]) (by kernel_rfl) Tryz.func20 rfl (by kernel_rfl) (by kernel_rfl) (G.same (fun v => v = .int .i64 3) (close_no hup2 (find_none es 0 fun e he => ?_)) ?_))
          · obtain ⟨j, hj, rfl⟩ := List.getElem_of_mem he
            have := (hk.2 (j + 1) es[j] (by simp)).1
            exact ⟨_, this, by omega⟩
          rintro v rfl
          refine XO.doneQ 5 (by kernel_rfl) (by kernel_rfl) ?_
          exact X.ret ⟨[.bool true], by kernel_rfl, rfl⟩
end Go.Proofs.YthglnebobkpioaaGreatDoor.daemonNil
