/- What the runs need of this program: its functions without a body. Conditions: none. -/
import Derived.Test.YthglnebobkpioaaGreatDoorAbsExt
import Derived.Test.YthglnebobkpioaaGreatDoorProg
import Derived.KernelRfl
open Go Go.Abs
namespace Go.Proofs.YthglnebobkpioaaGreatDoor
def extT : Nat → Option AExt
  | 299 => some xIndexByte
  | 519 => some xIndexByte
  | 431 => some xSame
  | 446 => some (xMakeNoZero 5)
  | _ => none
noncomputable def ET : Env := { P := Tryz.prog, nglob := 7, prim := fun _ => none, ext := extT }

theorem ext448 : ExtAt Tryz.prog 299 Extern.BytealgIndexByte.indexByte := ⟨⟨Tryz.f299, Tryz.func299, by kernel_rfl, by kernel_rfl, by kernel_rfl, by kernel_rfl⟩⟩
theorem ext630 : ExtAt Tryz.prog 519 Extern.BytealgIndexByte.indexByte := ⟨⟨Tryz.f519, Tryz.func519, by kernel_rfl, by kernel_rfl, by kernel_rfl, by kernel_rfl⟩⟩
theorem ext513 : ExtAt Tryz.prog 431 Extern.AbiNoEscape.same := ⟨⟨Tryz.f431, Tryz.func431, by kernel_rfl, by kernel_rfl, by kernel_rfl, by kernel_rfl⟩⟩
theorem ext514 : ExtAt Tryz.prog 446 (Extern.BytealgMakeNoZero.makeNoZero Tryz.f446.params Tryz.f446.resultTypes) := ⟨⟨Tryz.f446, Tryz.func446, by kernel_rfl, by kernel_rfl, by kernel_rfl, by kernel_rfl⟩⟩
theorem res514 : Tryz.f446.resultTypes[0]? = some 72 := by kernel_rfl
theorem und78 : Tryz.prog.underlying 72 = some (.slice 5) := by kernel_rfl

theorem names_ok : (Tryz.prog.funcs.toList.all fun fn => !(fn.name == "runtime.NumGoroutine")) = true := by kernel_rfl
theorem mixed_ok : Tryz.prog.follows .mixedOrders = true := by kernel_rfl

theorem ET_ok : EnvOk ET where
  mixed := mixed_ok
  name f fn h := by
    have := List.all_eq_true.1 names_ok fn (by
      have h2 : Tryz.prog.funcs.toList[f]? = some fn := by rw [Array.getElem?_toList]; exact h
      exact List.mem_of_getElem? h2)
    simpa using this
  prim f p h := by cases h
  ext f p h args σ v σ' hp N w0 lo r w args' hR hv := by
    have go : ∀ e, ExtSound ET p e → ExtAt ET.P f e → ∃ r' v' w', (callFunc f args'.toArray).run ET.P w = .ok (.value v') w' ∧ After N w0 lo ET.nglob r σ r' σ' w' ∧ VR r' v v' := by
      intro e hs hx
      obtain ⟨r', v', w', h1, h2, h3⟩ := hs args σ v σ' hp N w0 lo r w args' hR hv
      exact ⟨r', v', w', ext_run hx h1, h2, h3⟩
    change extT f = some p at h
    unfold extT at h
    split at h
    · cases h; exact go _ xIndexByte_sound ext448
    · cases h; exact go _ xIndexByte_sound ext630
    · cases h; exact go _ xSame_sound ext513
    · cases h; exact go _ (xMakeNoZero_sound res514 und78) ext514
    · cases h
end Go.Proofs.YthglnebobkpioaaGreatDoor
