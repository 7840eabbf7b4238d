/-
  DERIVED. GIVEN WITH THE SEED: THE CARDS: each row of YtidhmgganaoefaaGreatDoorRows.lean that lists a variable, with what it lists TIED to the program's text (the seventh form; the later family's looks); each row that meets fmt, with fmt's text TOLD by the authors' own Lean function (tested against real Go, not proved from fmt's source: count such statements apart). THE CARD IS WHAT COUNTS. Prove the row's statement (the work); the ties are given (YtidhmgganaoefaaGreatDoorTie.lean); close each card by the builder's one call (the guide's Derived/Test/ToyasCard.lean, 'card_holds'). Laid BY PROGRAM, IN A SANDBOX (cutbox-door.mjs). By AI agents, Wed Nov 11 2026. No macro, syntax, notation, axiom, sorry.
-/
import Derived.Test.YtidhmgganaoefaaGreatDoorRows
import GoSem.ClaimSeven
namespace Go.Proofs.YtidhmgganaoefaaGreatDoor
namespace Rows

/-- THE TIED CARD OF 'switchyardlaw26.HubNil'. -/
def hubNilCard : Claim7 := { stood := { row := hubNilRow, standIns := [], harness := (true, "336853af06f76f56ca7c7ccb0a5893bc92e452b7c4415ab1753fe61bc68d4b2f"), looks := true }, kinds := [], alts := [], laidByText := true, laidKinds := [.pinned, .data, .data, .sentinel, .sentinel, .data, .data, .data, .data, .data, .data], laidTests := true, laidLooks := .later }
def HubNilCardSaid : Prop := Claim7.holds Tryz.pinned (.plain (OpenSpec.ofChange hubNilSpec)) hubNilCard
end Rows
end Go.Proofs.YtidhmgganaoefaaGreatDoor
