/-
  DERIVED. GIVEN WITH THE SEED: THE CARDS: each row of YtimbbelbppfgkaaGreatDoorRows.lean that lists a variable, with what it lists TIED to the program's text (the seventh form; the later family's looks); each row that meets fmt, with fmt's text TOLD by the authors' own Lean function (tested against real Go, not proved from fmt's source: count such statements apart). THE CARD IS WHAT COUNTS. Prove the row's statement (the work); the ties are given (YtimbbelbppfgkaaGreatDoorTie.lean); close each card by the builder's one call (the guide's Derived/Test/ToyasCard.lean, 'card_holds'). Laid BY PROGRAM, IN A SANDBOX (cutbox-door.mjs). By AI agents, Wed Nov 11 2026. No macro, syntax, notation, axiom, sorry.
-/
import Derived.Test.YtimbbelbppfgkaaGreatDoorRows
import GoSem.ClaimSeven
namespace Go.Proofs.YtimbbelbppfgkaaGreatDoor
namespace Rows

/-- THE TIED CARD OF 'droverlaw22.BookNil'. -/
def bookNilCard : Claim7 := { stood := { row := bookNilRow, standIns := [], harness := (true, "c3c739ab550cc1e95101da0d5d1874c4adb14f45a2c264ea15dd2e00bc546867"), looks := true }, kinds := [], alts := [], laidByText := true, laidKinds := [.sentinel, .data, .data, .data], laidTests := true, laidLooks := .later }
def BookNilCardSaid : Prop := Claim7.holds Tryz.pinned (.plain (OpenSpec.ofChange bookNilSpec)) bookNilCard

/-- THE TIED CARD OF 'droverlaw23.DaemonNil'. -/
def daemonNilCard : Claim7 := { stood := { row := daemonNilRow, standIns := [], harness := (true, "c3c739ab550cc1e95101da0d5d1874c4adb14f45a2c264ea15dd2e00bc546867"), looks := true }, kinds := [], alts := [], laidByText := true, laidKinds := [.sentinel, .data, .data, .data, .pinned, .data], laidTests := true, laidLooks := .later }
def DaemonNilCardSaid : Prop := Claim7.holds Tryz.pinned (.plain (OpenSpec.ofChange daemonNilSpec)) daemonNilCard

/-- THE TIED CARD OF 'droverlaw24.WorldNames'. -/
def worldNamesCard : Claim7 := { stood := { row := worldNamesRow, standIns := [], harness := (true, "c3c739ab550cc1e95101da0d5d1874c4adb14f45a2c264ea15dd2e00bc546867"), looks := true }, kinds := [], alts := [], laidByText := true, laidKinds := [.sentinel, .data, .data, .data, .pinned, .data], laidTests := true, laidLooks := .later }
def WorldNamesCardSaid : Prop := Claim7.holds Tryz.pinned (.plain (OpenSpec.ofChange worldNamesSpec)) worldNamesCard

/-- THE SECOND FORM's CARD OF 'droverlaw22.BookNil'. -/
def bookNilUptoCard : Claim7 := { stood := { row := bookNilUptoRow, standIns := [], harness := (true, "c3c739ab550cc1e95101da0d5d1874c4adb14f45a2c264ea15dd2e00bc546867"), looks := true }, kinds := [], alts := [], laidByText := true, laidKinds := [.sentinel, .data, .data, .data], laidTests := true, laidLooks := .later }
def BookNilUptoCardSaid : Prop := Claim7.holds Tryz.pinned (.plain (OpenSpec.upto bookNilSpec)) bookNilUptoCard

/-- THE SECOND FORM's CARD OF 'droverlaw23.DaemonNil'. -/
def daemonNilUptoCard : Claim7 := { stood := { row := daemonNilUptoRow, standIns := [], harness := (true, "c3c739ab550cc1e95101da0d5d1874c4adb14f45a2c264ea15dd2e00bc546867"), looks := true }, kinds := [], alts := [], laidByText := true, laidKinds := [.sentinel, .data, .data, .data, .pinned, .data], laidTests := true, laidLooks := .later }
def DaemonNilUptoCardSaid : Prop := Claim7.holds Tryz.pinned (.plain (OpenSpec.upto daemonNilSpec)) daemonNilUptoCard

/-- THE SECOND FORM's CARD OF 'droverlaw24.WorldNames'. -/
def worldNamesUptoCard : Claim7 := { stood := { row := worldNamesUptoRow, standIns := [], harness := (true, "c3c739ab550cc1e95101da0d5d1874c4adb14f45a2c264ea15dd2e00bc546867"), looks := true }, kinds := [], alts := [], laidByText := true, laidKinds := [.sentinel, .data, .data, .data, .pinned, .data], laidTests := true, laidLooks := .later }
def WorldNamesUptoCardSaid : Prop := Claim7.holds Tryz.pinned (.plain (OpenSpec.upto worldNamesSpec)) worldNamesUptoCard
end Rows
end Go.Proofs.YtimbbelbppfgkaaGreatDoor
