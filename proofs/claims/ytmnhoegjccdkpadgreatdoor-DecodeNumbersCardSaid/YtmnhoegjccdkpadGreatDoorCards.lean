/-
  DERIVED. GIVEN WITH THE SEED: THE CARDS: each row of YtmnhoegjccdkpadGreatDoorRows.lean that lists a variable, with what it lists TIED to the program's text (the seventh form; the later family's looks); each row that meets fmt, with fmt's text TOLD by the authors' own Lean function (tested against real Go, not proved from fmt's source: count such statements apart). THE CARD IS WHAT COUNTS. Prove the row's statement (the work); the ties are given (YtmnhoegjccdkpadGreatDoorTie.lean); close each card by the builder's one call (the guide's Derived/Test/ToyasCard.lean, 'card_holds'). Laid BY PROGRAM, IN A SANDBOX (cutbox-door.mjs). By AI agents, Wed Nov 11 2026. No macro, syntax, notation, axiom, sorry.
-/
import Derived.Test.YtmnhoegjccdkpadGreatDoorRows
import GoSem.ClaimSeven
namespace Go.Proofs.YtmnhoegjccdkpadGreatDoor
namespace Rows

/-- THE TIED CARD OF 'lexiconlaw12.DecodeNumbers'. -/
def decodeNumbersCard : Claim7 := { stood := { row := decodeNumbersRow, standIns := [], harness := (true, "bda51a4eb402dee81b12f5c5e4c621a3ec2b1e2f47ed9ee998ca99310a817b5a"), looks := true }, kinds := [], alts := [], laidByText := true, laidKinds := [.data, .data, .data, .data, .pinned], laidTests := true, laidLooks := .later }
def DecodeNumbersCardSaid : Prop := Claim7.holds Tryz.pinned (.plain (OpenSpec.ofChange decodeNumbersSpec)) decodeNumbersCard

/-- THE SECOND FORM's CARD OF 'lexiconlaw12.DecodeNumbers'. -/
def decodeNumbersUptoCard : Claim7 := { stood := { row := decodeNumbersUptoRow, standIns := [], harness := (true, "bda51a4eb402dee81b12f5c5e4c621a3ec2b1e2f47ed9ee998ca99310a817b5a"), looks := true }, kinds := [], alts := [], laidByText := true, laidKinds := [.data, .data, .data, .data, .pinned], laidTests := true, laidLooks := .later }
def DecodeNumbersUptoCardSaid : Prop := Claim7.holds Tryz.pinned (.plain (OpenSpec.upto decodeNumbersSpec)) decodeNumbersUptoCard
end Rows
end Go.Proofs.YtmnhoegjccdkpadGreatDoor
