/-
  DERIVED. GIVEN WITH THE SEED: THE CARDS: each row of YtpldnmjdoogghaaGreatDoorRows.lean that lists a variable, with what it lists TIED to the program's text (the seventh form; the later family's looks); each row that meets fmt, with fmt's text TOLD by the authors' own Lean function (tested against real Go, not proved from fmt's source: count such statements apart). THE CARD IS WHAT COUNTS. Prove the row's statement (the work); the ties are given (YtpldnmjdoogghaaGreatDoorTie.lean); close each card by the builder's one call (the guide's Derived/Test/ToyasCard.lean, 'card_holds'). Laid BY PROGRAM, IN A SANDBOX (cutbox-door.mjs). By AI agents, Wed Nov 11 2026. No macro, syntax, notation, axiom, sorry.
-/
import Derived.Test.YtpldnmjdoogghaaGreatDoorRows
import GoSem.ClaimSeven
namespace Go.Proofs.YtpldnmjdoogghaaGreatDoor
namespace Rows

/-- THE TIED CARD OF 'lexiconlaw13.BoxURLs'. -/
def boxURLsCard : Claim7 := { stood := { row := boxURLsRow, standIns := [], harness := (true, "51e637a06aa88102b41c98ba053ee180a55cefa129b12884a281e8e81f5e701b"), looks := true }, kinds := [], alts := [], laidByText := true, laidKinds := [.data, .data, .data, .data, .pinned], laidTests := true, laidLooks := .later }
def BoxURLsCardSaid : Prop := Claim7.holds Tryz.pinned (.plain (OpenSpec.ofChange boxURLsSpec)) boxURLsCard

/-- THE SECOND FORM's CARD OF 'lexiconlaw13.BoxURLs'. -/
def boxURLsUptoCard : Claim7 := { stood := { row := boxURLsUptoRow, standIns := [], harness := (true, "51e637a06aa88102b41c98ba053ee180a55cefa129b12884a281e8e81f5e701b"), looks := true }, kinds := [], alts := [], laidByText := true, laidKinds := [.data, .data, .data, .data, .pinned], laidTests := true, laidLooks := .later }
def BoxURLsUptoCardSaid : Prop := Claim7.holds Tryz.pinned (.plain (OpenSpec.upto boxURLsSpec)) boxURLsUptoCard
end Rows
end Go.Proofs.YtpldnmjdoogghaaGreatDoor
