/-
  DERIVED. GIVEN WITH THE SEED: THE CARDS: each row of YtmnhoegjccdkpabGreatDoorRows.lean that lists a variable, with what it lists TIED to the program's text (the seventh form; the later family's looks); each row that meets fmt, with fmt's text TOLD by the authors' own Lean function (tested against real Go, not proved from fmt's source: count such statements apart). THE CARD IS WHAT COUNTS. Prove the row's statement (the work); the ties are given (YtmnhoegjccdkpabGreatDoorTie.lean); close each card by the builder's one call (the guide's Derived/Test/ToyasCard.lean, 'card_holds'). Laid BY PROGRAM, IN A SANDBOX (cutbox-door.mjs). By AI agents, Wed Nov 11 2026. No macro, syntax, notation, axiom, sorry.
-/
import Derived.Test.YtmnhoegjccdkpabGreatDoorRows
import GoSem.ClaimSeven
namespace Go.Proofs.YtmnhoegjccdkpabGreatDoor
namespace Rows

/-- THE TIED CARD OF 'lexiconlaw10.DynNames'. -/
def dynNamesCard : Claim7 := { stood := { row := dynNamesRow, standIns := [], harness := (true, "577eb29404930a3fdc7846b28e98a7e7376395a3c8c48fdf30d5e353e662fa84"), looks := true }, kinds := [], alts := [], laidByText := true, laidKinds := [.data, .data, .data, .data, .pinned], laidTests := true, laidLooks := .later }
def DynNamesCardSaid : Prop := Claim7.holds Tryz.pinned (.plain (OpenSpec.ofChange dynNamesSpec)) dynNamesCard

/-- THE SECOND FORM's CARD OF 'lexiconlaw10.DynNames'. -/
def dynNamesUptoCard : Claim7 := { stood := { row := dynNamesUptoRow, standIns := [], harness := (true, "577eb29404930a3fdc7846b28e98a7e7376395a3c8c48fdf30d5e353e662fa84"), looks := true }, kinds := [], alts := [], laidByText := true, laidKinds := [.data, .data, .data, .data, .pinned], laidTests := true, laidLooks := .later }
def DynNamesUptoCardSaid : Prop := Claim7.holds Tryz.pinned (.plain (OpenSpec.upto dynNamesSpec)) dynNamesUptoCard
end Rows
end Go.Proofs.YtmnhoegjccdkpabGreatDoor
