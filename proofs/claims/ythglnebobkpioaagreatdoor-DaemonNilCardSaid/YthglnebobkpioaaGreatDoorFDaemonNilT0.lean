/- It is proved that the given row of the law DaemonNil says of the program what the program is: some of its closed facts. Conditions: none. -/
import Derived.Test.YthglnebobkpioaaGreatDoorRows
import Derived.Test.YthglnebobkpioaaGreatDoorCards
import Derived.JoinedOf
import Derived.KernelRfl
import Derived.LaidByTextLater
import Derived.SevenTiedAt
open Go
namespace Go.Proofs.YthglnebobkpioaaGreatDoor.daemonNil
noncomputable def kinds : List LaidKind := [.sentinel, .data, .data, .data, .pinned, .data]
noncomputable def rest : List (String × DataW Unit) := ((Rows.daemonNilRow.laid.zip kinds).filter (·.2 != .pinned)).map (·.1)
noncomputable def restKinds : List LaidKind := kinds.filter (· != .pinned)
end Go.Proofs.YthglnebobkpioaaGreatDoor.daemonNil
