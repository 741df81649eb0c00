/-
  DERIVED. GIVEN WITH THE SEED: THE CARDS: each row of YtgjjbfhamlecoabGreatDoorRows.lean that lists a variable, with what it lists TIED to the program's text (the seventh form; the later family's looks); each row that meets fmt, with fmt's text TOLD by the authors' own Lean function (tested against real Go, not proved from fmt's source: count such statements apart). THE CARD IS WHAT COUNTS. Prove the row's statement (the work); the ties are given (YtgjjbfhamlecoabGreatDoorTie.lean); close each card by the builder's one call (the guide's Derived/Test/ToyasCard.lean, 'card_holds'). Laid BY PROGRAM, IN A SANDBOX (cutbox-door.mjs). By AI agents, Wed Nov 11 2026. No macro, syntax, notation, axiom, sorry.
-/
import Derived.Test.YtgjjbfhamlecoabGreatDoorRows
import GoSem.ClaimSeven
namespace Go.Proofs.YtgjjbfhamlecoabGreatDoor
namespace Rows

/-- THE TIED CARD OF 'lexiconlaw12.DecodeLost'. -/
def decodeLostCard : Claim7 := { stood := { row := decodeLostRow, standIns := [], harness := (true, "87756155c9eb32fc3c0324be07d5e0bef6314f0f89c2963d4c55e4bc678a9326"), looks := true }, kinds := [], alts := [], laidByText := true, laidKinds := [.data, .data, .data, .data, .pinned], laidTests := true, laidLooks := .later }
def DecodeLostCardSaid : Prop := Claim7.holds Tryz.pinned (.plain (OpenSpec.ofChange decodeLostSpec)) decodeLostCard

/-- THE SECOND FORM's CARD OF 'lexiconlaw12.DecodeLost'. -/
def decodeLostUptoCard : Claim7 := { stood := { row := decodeLostUptoRow, standIns := [], harness := (true, "87756155c9eb32fc3c0324be07d5e0bef6314f0f89c2963d4c55e4bc678a9326"), looks := true }, kinds := [], alts := [], laidByText := true, laidKinds := [.data, .data, .data, .data, .pinned], laidTests := true, laidLooks := .later }
def DecodeLostUptoCardSaid : Prop := Claim7.holds Tryz.pinned (.plain (OpenSpec.upto decodeLostSpec)) decodeLostUptoCard
end Rows
end Go.Proofs.YtgjjbfhamlecoabGreatDoor
