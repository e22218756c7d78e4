/- A part of the abstract runs: the program is run over an abstract heap; what holds there holds in every world that looks so. Conditions: none. -/
import Derived.Test.YthglnebobkpioaaGreatDoorAbsRop4
namespace Go.Abs
open Go Go.RowKit
section
variable {E : Env} {r : Ren} {t : AT} {a : Act} {σ : AW}

/-! ### Aggregates -/
/-- parts of a literal. -/
inductive PL (r : Ren) : List (Nat × Value) → List (Nat × Value) → Prop where
  | nil : PL r [] []
  | cons {i : Nat} {v v' : Value} {l l' : List (Nat × Value)} (h : VR r v v') (k : PL r l l') : PL r ((i, v) :: l) ((i, v') :: l')

theorem PL.mk' {is : List Nat} : ∀ {vs vs' : List Value}, VL r vs vs' → is.length = vs.length → PL r (is.zip vs) (is.zip vs') := by
  induction is with
  | nil => intro vs vs' _ _; exact .nil
  | cons i is ih =>
    intro vs vs' h hl
    cases vs with
    | nil => simp at hl
    | cons v vs =>
      obtain ⟨v', l', rfl, h1, h2⟩ := h.cons_inv
      exact .cons h1 (ih h2 (by simpa using hl))

theorem PL.parts {parts : Array (Nat × Operand)} {vs : List Value} (h : VL r vs ((parts.toList.map (·.2)).map a.eval)) :
    PL r ((parts.toList.map (·.1)).zip vs) (parts.map fun (i, x) => (i, a.eval x)).toList := by
  have := PL.mk' (r := r) (is := parts.toList.map (·.1)) h (by rw [h.1]; simp)
  have e : (parts.map fun (i, x) => (i, a.eval x)).toList = (parts.toList.map (·.1)).zip ((parts.toList.map (·.2)).map a.eval) := by
    rw [Array.toList_map]
    generalize parts.toList = l
    induction l with
    | nil => rfl
    | cons x l ih => simp only [List.map_cons, List.zip_cons_cons]; rw [ih]
  rw [e]; exact this

theorem foldl_sets {off : Nat} : ∀ (l l' : List Value) (n : Nat) (cs cs' : Array Value), VL r l l' → VL r cs.toList cs'.toList →
    VL r ((l.zipIdx n).foldl (fun (cs : Array Value) (x : Value × Nat) => cs.setIfInBounds (off + x.2) x.1) cs).toList
      ((l'.zipIdx n).foldl (fun (cs : Array Value) (x : Value × Nat) => cs.setIfInBounds (off + x.2) x.1) cs').toList := by
  intro l
  induction l with
  | nil => intro l' n cs cs' h hc; rw [h.nil_inv]; simpa using hc
  | cons v l ih =>
    intro l' n cs cs' h hc
    obtain ⟨v', m, rfl, h1, h2⟩ := h.cons_inv
    simp only [List.zipIdx_cons, List.foldl_cons]
    exact ih _ _ _ _ h2 (by simp only [Array.toList_setIfInBounds]; exact hc.set _ h1)

theorem fill_eq (place : Nat → Option (Nat × Nat)) (cells : Array Value) (i : Nat) (v : Value) (rest : List (Nat × Value)) :
    Instr.fill place cells ((i, v) :: rest) = match place i with
      | none => none
      | some (off, size) => if v.cells.size ≠ size || off + v.cells.size > cells.size then none
        else Instr.fill place ((v.cells.toList.zipIdx 0).foldl (fun (cs : Array Value) (x : Value × Nat) => cs.setIfInBounds (off + x.2) x.1) cells) rest := by
  rw [Instr.fill]
  cases place i with
  | none => rfl
  | some p =>
    obtain ⟨off, size⟩ := p
    simp only
    rw [← Array.toList_zipIdx, Array.foldl_toList]

theorem fill_sound (place : Nat → Option (Nat × Nat)) : ∀ (ps ps' : List (Nat × Value)) (cs cs' : Array Value), PL r ps ps' → VL r cs.toList cs'.toList → ∀ {out}, Instr.fill place cs ps = some out →
    ∃ out', Instr.fill place cs' ps' = some out' ∧ VL r out.toList out'.toList := by
  intro ps
  induction ps with
  | nil => intro ps' cs cs' h hc out ho; cases h; simp only [Instr.fill, Option.some.injEq] at ho; subst ho; exact ⟨cs', rfl, hc⟩
  | cons p ps ih =>
    intro ps' cs cs' h hc out ho
    cases h with
    | @cons i v v' l l' hv hl =>
      rw [fill_eq] at ho ⊢
      cases hp : place i with
      | none => rw [hp] at ho; cases ho
      | some q =>
        obtain ⟨off, size⟩ := q
        rw [hp] at ho
        simp only at ho ⊢
        have hsz : v'.cells.size = v.cells.size := by have := hv.cells.1; simp only [Array.length_toList] at this; exact this.symm
        have hcs : cs'.size = cs.size := by have := hc.1; simp only [Array.length_toList] at this; exact this.symm
        rw [hsz, hcs]
        split at ho
        · cases ho
        · rename_i hcond
          rw [if_neg hcond]
          exact ih _ _ _ hl (foldl_sets _ _ _ _ _ hv.cells hc) ho

theorem cl_cells {v : Value} (h : cl v = true) : VL r v.cells.toList v.cells.toList := (VR.cl h).cells

theorem zero?_info {T : TypeId} {z : Value} (h : zero? E T = some z) : ∃ i, E.P.info? T = some i ∧ i.zero = some z ∧ cl z = true := by
  unfold zero? at h
  cases hi : E.P.info? T with
  | none => rw [hi] at h; cases h
  | some i =>
    rw [hi] at h
    cases hz : i.zero with
    | none => simp only [hz] at h; cases h
    | some z' =>
      simp only [hz] at h
      split at h
      · rename_i hc; cases h; exact ⟨i, rfl, hz, hc⟩
      · cases h

theorem built_sound {T : TypeId} {ps ps' : List (Nat × Value)} {z : Value} {cs : Array Value} (hz : zero? E T = some z) (hp : PL r ps ps') (h : E.P.built T ps = some cs) :
    ∃ cs', E.P.built T ps' = some cs' ∧ VL r cs.toList cs'.toList := by
  obtain ⟨it, hit, hzz, hcl⟩ := zero?_info hz
  unfold Program.built at h ⊢
  simp only [hit] at h ⊢
  cases hu : E.P.underlying T with
  | none => simp only [hu] at h; cases h
  | some d =>
    simp only [hu] at h ⊢
    cases d <;> simp only [hzz] at h ⊢ <;> (try (cases h; done))
    case array n e =>
      cases hie : E.P.info? e with
      | none => rw [hie] at h; cases h
      | some ie => rw [hie] at h; exact fill_sound _ _ _ _ _ hp (cl_cells hcl) h
    case struct fields =>
      cases hm : fields.toList.mapM (fun f => (E.P.info? f.type).map fun i => (f.offset, i.size)) with
      | none => rw [hm] at h; cases h
      | some places => rw [hm] at h; exact fill_sound _ _ _ _ _ hp (cl_cells hcl) h

theorem rop_build {dst type pos after guard} {T : TypeId} {parts : Array (Nat × Operand)} {v : Value} {bs : List Nat} (hf : Fr E r t a) (h : rop E t σ ⟨dst, .build T parts, type, pos, after, guard⟩ = some (v, bs)) :
    Reads E a ⟨dst, .build T parts, type, pos, after, guard⟩ r σ v bs := by
  simp only [rop] at h
  split at h
  · rename_i vs z hvs hz
    cases hb : E.P.built T ((parts.toList.map (·.1)).zip vs) with
    | none => rw [hb] at h; cases h
    | some cs =>
      rw [hb] at h; cases h
      obtain ⟨cs', h1, h2⟩ := built_sound hz (PL.parts (hf.vals hvs)) hb
      refine ⟨.agg cs', by rw [VR.agg_iff]; exact h2, fun w _ => ?_⟩
      show ((Instr.build T (parts.map fun (i, x) => (i, a.eval x)) >>= fun x => pure (.value x)) : Sem Next).run E.P w = _
      exact run_v (run_build w T _ cs' h1)
  · cases h

/-! ### Slices -/
theorem bound_sound (hf : Fr E r t a) {d n : Nat} {x : Option Operand} (h : boundOf d (x.map (val E t)) = some n) :
    (x.map a.eval = none ∧ n = d) ∨ ∃ k : IntKind, x.map a.eval = some (.int k (n : Int)) := by
  cases x with
  | none => simp only [Option.map_none, boundOf, Option.some.injEq] at h; exact .inl ⟨rfl, h.symm⟩
  | some x =>
    right
    simp only [Option.map_some] at h ⊢
    cases hx : val E t x with
    | none => rw [hx] at h; simp [boundOf] at h
    | some v =>
      rw [hx] at h
      obtain ⟨k, hk⟩ := natOf_inv (hf.val hx) h
      exact ⟨k, by rw [hk]⟩

theorem sliceAt_slice {T elem : TypeId} {v : Value} {lo hi mx : Option Value} {w : World} (hu : E.P.underlying T = some (.slice elem)) : (Instr.sliceAt T v lo hi mx).run E.P w = (Instr.slice T v lo hi mx).run E.P w := by
  unfold Instr.sliceAt
  rw [run_bind' (run_underlying hu)]
theorem sliceAt_string {T : TypeId} {v : Value} {lo hi mx : Option Value} {w : World} (hu : E.P.underlying T = some .string) : (Instr.sliceAt T v lo hi mx).run E.P w = (Instr.slice T v lo hi mx).run E.P w := by
  unfold Instr.sliceAt
  rw [run_bind' (run_underlying hu)]

theorem VR.nil_ite {r : Ren} (c : Prop) [Decidable c] (f : Addr → Addr) (n k : Nat) : VR r (.slice (if c then none else Option.map f none) n k) (.slice none n k) := by
  split <;> exact .sliceNil _ _

theorem rop_slice {dst type pos after guard} {T : TypeId} {x : Operand} {lo hi mx : Option Operand} {v : Value} {bs : List Nat} (hf : Fr E r t a) (h : rop E t σ ⟨dst, .slice T x lo hi mx, type, pos, after, guard⟩ = some (v, bs)) :
    Reads E a ⟨dst, .slice T x lo hi mx, type, pos, after, guard⟩ r σ v bs := by
  have go : ∀ {v' : Value}, VR r v v' → (∀ w, (Instr.sliceAt T (a.eval x) (lo.map a.eval) (hi.map a.eval) (mx.map a.eval)).run E.P w = .ok v' w) → bs = [] → Reads E a ⟨dst, .slice T x lo hi mx, type, pos, after, guard⟩ r σ v bs := by
    intro v' hv hr hb
    exact ⟨v', hv, fun w _ => by
      show ((Instr.sliceAt T (a.eval x) (lo.map a.eval) (hi.map a.eval) (mx.map a.eval) >>= fun x => pure (.value x)) : Sem Next).run E.P w = _
      exact run_v (hr w)⟩
  simp only [rop] at h
  unfold sliceOp at h
  split at h
  · -- a string
    rename_i s hu hx
    split at h
    · rename_i l h' hl hh hm
      split at h
      · rename_i hc
        cases h
        have hm' : mx = none := by cases mx with | none => rfl | some y => simp at hm
        subst hm'
        refine go (.str _) (fun w => ?_) rfl
        rw [sliceAt_string hu, inv_str (hf.val hx)]
        unfold Instr.slice
        rw [run_bind' (run_underlying hu)]
        simp only [Option.map_none, Option.isSome_none, Bool.false_eq_true, if_false]
        rw [run_bind' (bounds2_run (sl := false) (l := l) (h := h')
          ((bound_sound hf hh).imp id fun ⟨k, e⟩ => ⟨k, e, hc.2⟩) ((bound_sound hf hl).imp id fun ⟨k, e⟩ => ⟨k, e, hc.1⟩))]
        rfl
      · cases h
    · cases h
  · -- a slice
    rename_i elem ad len cap hu hx
    split at h
    · rename_i n l h' hn hl hh
      split at h
      · rename_i hm
        have hm' : mx = none := by cases mx with | none => rfl | some y => simp at hm
        subst hm'
        split at h
        · rename_i hc
          obtain ⟨hlh, hhk, hopen⟩ := hc
          cases h
          cases ad with
          | none =>
            have hcap : cap < OPEN := by rcases hopen with h1 | h1; exact h1; simp at h1
            have hk : known cap = cap := by unfold known; rw [if_pos hcap]
            rw [hk] at hhk
            refine go (VR.nil_ite _ _ _ _) (fun w => ?_) rfl
            rw [sliceAt_slice hu, inv_sliceNil (hf.val hx)]
            unfold Instr.slice
            rw [run_bind' (run_underlying hu)]
            simp only [Option.map_none]
            rw [run_bind' (bounds2_run (sl := true) (l := l) (h := h')
              ((bound_sound hf hh).imp id fun ⟨k, e⟩ => ⟨k, e, hhk⟩) ((bound_sound hf hl).imp id fun ⟨k, e⟩ => ⟨k, e, hlh⟩))]
            try simp only []
            rw [run_bind' (sizeOf?_run hn)]
            simp only [ite_self]; rfl
          | some ad =>
            obtain ⟨b, o, lc, rfl, hlc, hev⟩ := inv_slice (hf.val hx)
            have hcap' : known cap ≤ capR lc cap := by unfold known capR; split <;> omega
            have hsub : capR lc cap - l = capR lc (cap - l) := by
              unfold capR known at *
              by_cases h1 : cap < OPEN
              · rw [if_pos h1, if_pos (by omega)]
              · have : l < cap - OPEN := by rcases hopen with h2 | h2; exact absurd h2 h1; exact h2.2
                rw [if_neg h1, if_neg (by omega)]; omega
            have hz : (cap = l) ↔ (capR lc cap = l) := by
              unfold capR known at *
              by_cases h1 : cap < OPEN
              · rw [if_pos h1]
              · have : l < cap - OPEN := by rcases hopen with h2 | h2; exact absurd h2 h1; exact h2.2
                rw [if_neg h1]; constructor <;> intro e <;> omega
            refine go (v' := .slice (if capR lc cap = l then some (lc.at o) else some ((lc.at o).add (l * n))) (h' - l) (capR lc (cap - l))) ?_ (fun w => ?_) rfl
            · by_cases e : cap = l
              · rw [if_pos e, if_pos (hz.1 e)]; exact .slice hlc
              · rw [if_neg e, if_neg (fun e' => e (hz.2 e'))]
                simp only [Option.map_some]
                rw [addr_add, Loc.at_add]; exact .slice hlc
            · rw [sliceAt_slice hu, hev]
              unfold Instr.slice
              rw [run_bind' (run_underlying hu)]
              simp only [Option.map_none]
              rw [run_bind' (bounds2_run (sl := true) (l := l) (h := h')
                ((bound_sound hf hh).imp id fun ⟨k, e⟩ => ⟨k, e, Nat.le_trans hhk hcap'⟩) ((bound_sound hf hl).imp id fun ⟨k, e⟩ => ⟨k, e, hlh⟩))]
              try simp only []
              rw [run_bind' (sizeOf?_run hn), hsub]
              simp only [Option.map_some]; rfl
        · cases h
      · rename_i y hm
        obtain ⟨z, rfl⟩ : ∃ z, mx = some z := by cases mx with | none => simp at hm | some z => exact ⟨z, rfl⟩
        simp only [Option.map_some, Option.some.injEq] at hm
        subst hm
        split at h
        · rename_i m hmm
          split at h
          · rename_i hc
            obtain ⟨hlh, hhm, hmk, hmo, hhi⟩ := hc
            cases h
            obtain ⟨km, hkm⟩ : ∃ k : IntKind, a.eval z = .int k (m : Int) := by
              cases hz : val E t z with
              | none => rw [hz] at hmm; cases hmm
              | some q => rw [hz] at hmm; exact natOf_inv (hf.val hz) hmm
            have hh2 : ∃ k : IntKind, hi.map a.eval = some (.int k (h' : Int)) ∧ h' ≤ m := by
              rcases bound_sound hf hh with ⟨e, _⟩ | ⟨k, e⟩
              · cases hi with
                | none => simp at hhi
                | some => simp at e
              · exact ⟨k, e, hhm⟩
            cases ad with
            | none =>
              refine go (VR.nil_ite _ _ _ _) (fun w => ?_) rfl
              rw [sliceAt_slice hu, inv_sliceNil (hf.val hx)]
              unfold Instr.slice
              rw [run_bind' (run_underlying hu)]
              simp only [Option.map_some]
              have hmc : m ≤ cap := by unfold known at hmk; split at hmk <;> omega
              rw [run_bind' (bounds3_run hkm hmc hh2 ((bound_sound hf hl).imp id fun ⟨k, e⟩ => ⟨k, e, hlh⟩))]
              try simp only []
              rw [run_bind' (sizeOf?_run hn)]
              simp only [Option.map_none, ite_self]; rfl
            | some ad =>
              obtain ⟨b, o, lc, rfl, hlc, hev⟩ := inv_slice (hf.val hx)
              have hcap' : known cap ≤ capR lc cap := by unfold known capR; split <;> omega
              have hcr : capR lc (m - l) = m - l := by unfold capR; rw [if_pos (by omega)]
              refine go (v' := .slice (if m = l then some (lc.at o) else some ((lc.at o).add (l * n))) (h' - l) (capR lc (m - l))) ?_ (fun w => ?_) rfl
              · by_cases e : m = l
                · rw [if_pos e, if_pos e]; exact .slice hlc
                · rw [if_neg e, if_neg e]
                  simp only [Option.map_some]
                  rw [addr_add, Loc.at_add]; exact .slice hlc
              · rw [sliceAt_slice hu, hev]
                unfold Instr.slice
                rw [run_bind' (run_underlying hu)]
                simp only [Option.map_some]
                rw [run_bind' (bounds3_run hkm (Nat.le_trans hmk hcap') hh2 ((bound_sound hf hl).imp id fun ⟨k, e⟩ => ⟨k, e, hlh⟩))]
                try simp only []
                rw [run_bind' (sizeOf?_run hn), hcr]
                rfl
          · cases h
        · cases h
    · cases h
  · -- an array
    rename_i k elem ad hu hx
    split at h
    · rename_i n l h' hn hl hh hm
      have hm' : mx = none := by cases mx with | none => rfl | some y => simp at hm
      subst hm'
      split at h
      · rename_i hc
        obtain ⟨hlh, hhk, hko⟩ := hc
        cases h
        obtain ⟨b, o, lc, rfl, hlc, hev⟩ := inv_ptr (hf.val hx)
        have hcr : capR lc (k - l) = k - l := by unfold capR; rw [if_pos (by omega)]
        refine go (v' := .slice (some (if k = l then lc.at o else (lc.at o).add (l * n))) (h' - l) (capR lc (k - l))) ?_ (fun w => ?_) rfl
        · by_cases e : k = l
          · rw [if_pos e, if_pos e]; exact .slice hlc
          · rw [if_neg e, if_neg e]
            rw [addr_add, Loc.at_add]; exact .slice hlc
        · unfold Instr.sliceAt
          rw [run_bind' (run_underlying hu), hev]
          simp only [Option.map_none]
          unfold Instr.sureAddr
          rw [run_bind' (run_pure _)]
          rw [run_bind' (bounds2_run (sl := false) (l := l) (h := h')
            ((bound_sound hf hh).imp id fun ⟨k, e⟩ => ⟨k, e, hhk⟩) ((bound_sound hf hl).imp id fun ⟨k, e⟩ => ⟨k, e, hlh⟩))]
          try simp only []
          rw [run_bind' (sizeOf?_run hn), hcr]; rfl
      · cases h
    · cases h
  · cases h
end
end Go.Abs
