/-
  DERIVED. GIVEN WITH THE SEED: THE CARDS: each row of YthglnebobkpioaaGreatDoorRows.lean that lists a variable, with what it lists TIED to the program's text (the seventh form; the later family's looks); each row that meets fmt, with fmt's text TOLD by the authors' own Lean function (tested against real Go, not proved from fmt's source: count such statements apart). THE CARD IS WHAT COUNTS. Prove the row's statement (the work); the ties are given (YthglnebobkpioaaGreatDoorTie.lean); close each card by the builder's one call (the guide's Derived/Test/ToyasCard.lean, 'card_holds'). Laid BY PROGRAM, IN A SANDBOX (cutbox-door.mjs). By AI agents, Wed Nov 11 2026. No macro, syntax, notation, axiom, sorry.
-/
import Derived.Test.YthglnebobkpioaaGreatDoorRows
import GoSem.ClaimSeven
namespace Go.Proofs.YthglnebobkpioaaGreatDoor
namespace Rows

/-- THE TIED CARD OF 'droverlaw21.CoreNil'. -/
def coreNilCard : Claim7 := { stood := { row := coreNilRow, standIns := [], harness := (true, "0e1487afd3a8d141f9b47c7f727dc4743d434ecb7bb2ed310425dd40062b7acf"), looks := true }, kinds := [], alts := [], laidByText := true, laidKinds := [.data, .data, .data], laidTests := true, laidLooks := .later }
def CoreNilCardSaid : Prop := Claim7.holds Tryz.pinned (.plain (OpenSpec.ofChange coreNilSpec)) coreNilCard

/-- THE TIED CARD OF 'droverlaw23.DaemonNil'. -/
def daemonNilCard : Claim7 := { stood := { row := daemonNilRow, standIns := [], harness := (true, "0e1487afd3a8d141f9b47c7f727dc4743d434ecb7bb2ed310425dd40062b7acf"), looks := true }, kinds := [], alts := [], laidByText := true, laidKinds := [.sentinel, .data, .data, .data, .pinned, .data], laidTests := true, laidLooks := .later }
def DaemonNilCardSaid : Prop := Claim7.holds Tryz.pinned (.plain (OpenSpec.ofChange daemonNilSpec)) daemonNilCard

/-- THE SECOND FORM's CARD OF 'droverlaw21.CoreNil'. -/
def coreNilUptoCard : Claim7 := { stood := { row := coreNilUptoRow, standIns := [], harness := (true, "0e1487afd3a8d141f9b47c7f727dc4743d434ecb7bb2ed310425dd40062b7acf"), looks := true }, kinds := [], alts := [], laidByText := true, laidKinds := [.data, .data, .data], laidTests := true, laidLooks := .later }
def CoreNilUptoCardSaid : Prop := Claim7.holds Tryz.pinned (.plain (OpenSpec.upto coreNilSpec)) coreNilUptoCard

/-- THE SECOND FORM's CARD OF 'droverlaw23.DaemonNil'. -/
def daemonNilUptoCard : Claim7 := { stood := { row := daemonNilUptoRow, standIns := [], harness := (true, "0e1487afd3a8d141f9b47c7f727dc4743d434ecb7bb2ed310425dd40062b7acf"), looks := true }, kinds := [], alts := [], laidByText := true, laidKinds := [.sentinel, .data, .data, .data, .pinned, .data], laidTests := true, laidLooks := .later }
def DaemonNilUptoCardSaid : Prop := Claim7.holds Tryz.pinned (.plain (OpenSpec.upto daemonNilSpec)) daemonNilUptoCard
end Rows
end Go.Proofs.YthglnebobkpioaaGreatDoor
