/- It is proved that the law DaemonNil returns true for every input, and each argument reads afterwards as before: the tied card of the law. Conditions: none beyond those of the given statement (the variables that its row lists read as the program's text lays them). -/
import Derived.Test.YthglnebobkpioaaGreatDoorRDaemonNil
import Derived.Test.YthglnebobkpioaaGreatDoorFDaemonNil
import Derived.Test.YthglnebobkpioaaGreatDoorGDaemonNil
open Go Go.RowKit Go.ChangeShapes
namespace Go.Proofs.YthglnebobkpioaaGreatDoor.daemonNil
theorem over : Rows.daemonNilRow.holds Tryz.pinned (OpenSpec.ofChange Rows.daemonNilSpec) :=
  OpenClaim.holds_of_wide 4 Tryz.f4 rfl rfl rfl rfl rfl rfl rfl ⟨rfl, rfl, rfl, rfl, rfl⟩ rfl rfl rfl rfl rfl g1 Tryz.func4 facts
    (of_decide_eq_true g2) (by unfold Func.isWrapper; first | (rw [if_pos (by decide +kernel)]; kernel_rfl) | (rw [if_neg (by decide +kernel)]; exact ⟨rfl, rfl⟩))
    (fun os started H enc _ => lifted os started H enc)
theorem proved : Rows.DaemonNilCardSaid :=
  Claim7.holds_tied_plain_at .later [] kinds true Rows.daemonNilCard.stood.harness true
    over (fun _ h => by cases h) g3 (fun _ h => by cases h) row_tie rfl ⟨rfl, rfl⟩ g4 rfl
    (fun f fn hf hfn => by
      obtain rfl : f = 4 := Option.some.inj (g1.symm.trans hf) |>.symm
      obtain rfl : fn = Tryz.f4 := (Option.some.inj (Tryz.func4.symm.trans hfn)).symm
      exact ⟨g5, fun j t ht => by
        have := Array.all_eq_true'.1 g7 t (Array.mem_of_getElem? ht)
        simpa using this⟩)
    g6
end Go.Proofs.YthglnebobkpioaaGreatDoor.daemonNil
namespace Go.Proofs.YthglnebobkpioaaGreatDoor
/-- The card, under a short name, for the claim. -/
theorem daemonNil_card : Rows.DaemonNilCardSaid := daemonNil.proved
end Go.Proofs.YthglnebobkpioaaGreatDoor
