/-
  DERIVED. GIVEN WITH THE SEED: THE CARDS: each row of YtpmjgnpkbmfimabGreatDoorRows.lean that lists a variable, with what it lists TIED to the program's text (the seventh form; the later family's looks); each row that meets fmt, with fmt's text TOLD by the authors' own Lean function (tested against real Go, not proved from fmt's source: count such statements apart). THE CARD IS WHAT COUNTS. Prove the row's statement (the work); the ties are given (YtpmjgnpkbmfimabGreatDoorTie.lean); close each card by the builder's one call (the guide's Derived/Test/ToyasCard.lean, 'card_holds'). Laid BY PROGRAM, IN A SANDBOX (cutbox-door.mjs). By AI agents, Wed Nov 11 2026. No macro, syntax, notation, axiom, sorry.
-/
import Derived.Test.YtpmjgnpkbmfimabGreatDoorRows
import GoSem.ClaimSeven
namespace Go.Proofs.YtpmjgnpkbmfimabGreatDoor
namespace Rows

/-- THE TIED CARD OF 'lexiconlaw13.BoxNames'. -/
def boxNamesCard : Claim7 := { stood := { row := boxNamesRow, standIns := [], harness := (true, "2cd1945ba76917b74fb7c1e1526874692a57a0906c2e628f7a1a9c3d7d2aeffb"), looks := true }, kinds := [], alts := [], laidByText := true, laidKinds := [.data, .data, .data, .data, .pinned], laidTests := true, laidLooks := .later }
def BoxNamesCardSaid : Prop := Claim7.holds Tryz.pinned (.plain (OpenSpec.ofChange boxNamesSpec)) boxNamesCard

/-- THE SECOND FORM's CARD OF 'lexiconlaw13.BoxNames'. -/
def boxNamesUptoCard : Claim7 := { stood := { row := boxNamesUptoRow, standIns := [], harness := (true, "2cd1945ba76917b74fb7c1e1526874692a57a0906c2e628f7a1a9c3d7d2aeffb"), looks := true }, kinds := [], alts := [], laidByText := true, laidKinds := [.data, .data, .data, .data, .pinned], laidTests := true, laidLooks := .later }
def BoxNamesUptoCardSaid : Prop := Claim7.holds Tryz.pinned (.plain (OpenSpec.upto boxNamesSpec)) boxNamesUptoCard
end Rows
end Go.Proofs.YtpmjgnpkbmfimabGreatDoor
