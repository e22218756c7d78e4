/- It is proved that no daemon, and one of no book, is down, and at most a thousand connections are opened: the law DaemonNil returns true, for every row of bytes and every number: the row of the law. Conditions: none beyond those of the given statement. -/
import Derived.Test.YthglnebobkpioaaGreatDoorLaid
import Derived.Test.YthglnebobkpioaaGreatDoorLDaemonNil
import Derived.Test.YthglnebobkpioaaGreatDoorAbsRow
import Derived.Test.YthglnebobkpioaaGreatDoorRows
import Derived.Test.YthglnebobkpioaaGreatDoorCards
import Derived.WalkKit
import Derived.ProofKit
import Derived.Lay
import Derived.LaidMore
import Derived.SevenTiedAt
import Derived.Stop.Joined
open Go Go.Abs
namespace Go.Proofs.YthglnebobkpioaaGreatDoor.daemonNil
open Go.RowKit Go.ChangeShapes

theorem own : ownKnob Tryz.prog.godebug = none := by kernel_rfl
theorem laidOut : laidOutB Tryz.prog = true := laid_out
theorem spec_at {H : Type} : ∀ ds : List (DataW H), ds.length = 2 → Rows.daemonNilSpec.fn H ds = { results := [.lit (.bool true)], args := ds }
  | [_, _], _ => rfl
set_option maxRecDepth 100000 in
set_option maxHeartbeats 0 in
theorem lifted (os : Os) (started : os.Started) (H : Type) (enc : TypeId × Value → H) :
    ReturnsInHanded {} Tryz.checked os 4 .any (fun w args => (Rows.daemonNilSpec.pre enc Tryz.prog Tryz.f4 [] false w args ∧ laidMetH Tryz.prog Rows.daemonNilRow.laid w) ∧ sizedMet enc Tryz.prog Tryz.f4 (OpenSpec.ofChange Rows.daemonNilSpec) false w args)
      (Rows.daemonNilSpec.post enc Tryz.prog Tryz.f4 false true false false) := by
  refine returnsInHanded_of_change_and (C := Tryz.checked) (X := fun w _ => laidMetH Tryz.prog Rows.daemonNilRow.laid w) (fun _ _ _ hh h => h.of_heap hh) own started (by as_aux_lemma => kernel_rfl) Tryz.func4
    (ChangeSpec.witness_shaped (enc := enc) (C := Tryz.checked) (os := os) (X := fun w _ => laidMetH Tryz.prog Rows.daemonNilRow.laid w) false (World.laidAll Tryz.prog os Rows.daemonNilRow.laid) #[.slice none 0 0, .int .i64 0] 8 (World.laidAll_os _ _ _)
      (World.shaped_of_ZipB (by as_aux_lemma => kernel_rfl) (by as_aux_lemma => kernel_rfl)) (by as_aux_lemma => kernel_rfl) (by as_aux_lemma => kernel_rfl) (by as_aux_lemma => kernel_rfl)
      (by rw [MakeChecks.laidMetH_plain _ _ _ (by as_aux_lemma => kernel_rfl)]; exact laidMet_laidAll _ (by as_aux_lemma => kernel_rfl) (by as_aux_lemma => kernel_rfl))) ?_
  intro W base args ds gs before hval hW _ _ _ _
  exact law_post (E := EP) EP_ok (ts := [72, 3]) (d := 8) (t := 4) laidOut (by kernel_rfl) (by kernel_rfl) Tryz.underlying4 (by kernel_rfl) rfl (fun ds h => spec_at ds h) (fun os vs h => daemonNil_G os vs h) hval hW
end Go.Proofs.YthglnebobkpioaaGreatDoor.daemonNil
