/-
  DERIVED. GIVEN WITH THE SEED: THE CARDS: each row of YtibdeeejjbmgcaaGreatDoorRows.lean that lists a variable, with what it lists TIED to the program's text (the seventh form; the later family's looks); each row that meets fmt, with fmt's text TOLD by the authors' own Lean function (tested against real Go, not proved from fmt's source: count such statements apart). THE CARD IS WHAT COUNTS. Prove the row's statement (the work); the ties are given (YtibdeeejjbmgcaaGreatDoorTie.lean); close each card by the builder's one call (the guide's Derived/Test/ToyasCard.lean, 'card_holds'). Laid BY PROGRAM, IN A SANDBOX (cutbox-door.mjs). By AI agents, Wed Nov 11 2026. No macro, syntax, notation, axiom, sorry.
-/
import Derived.Test.YtibdeeejjbmgcaaGreatDoorRows
import GoSem.ClaimSeven
namespace Go.Proofs.YtibdeeejjbmgcaaGreatDoor
namespace Rows

/-- THE TIED CARD OF 'lexiconlaw16.MaskSets'. -/
def maskSetsCard : Claim7 := { stood := { row := maskSetsRow, standIns := [], harness := (true, "25288be2d3d5728e8c0d6955a869e552910db1aa7949c69b59efb938fb06d3b6"), looks := false }, kinds := [], alts := [], laidByText := true, laidKinds := [.data, .pinned], laidTests := true, laidLooks := .later }
def MaskSetsCardSaid : Prop := Claim7.holds Tryz.pinned (.plain (OpenSpec.ofChange maskSetsSpec)) maskSetsCard

/-- THE TIED CARD OF 'lexiconlaw16.MaskTexts'. -/
def maskTextsCard : Claim7 := { stood := { row := maskTextsRow, standIns := [], harness := (true, "25288be2d3d5728e8c0d6955a869e552910db1aa7949c69b59efb938fb06d3b6"), looks := false }, kinds := [], alts := [], laidByText := true, laidKinds := [.data, .pinned], laidTests := true, laidLooks := .later }
def MaskTextsCardSaid : Prop := Claim7.holds Tryz.pinned (.plain (OpenSpec.ofChange maskTextsSpec)) maskTextsCard

/-- THE SECOND FORM's CARD OF 'lexiconlaw16.MaskSets'. -/
def maskSetsUptoCard : Claim7 := { stood := { row := maskSetsUptoRow, standIns := [], harness := (true, "25288be2d3d5728e8c0d6955a869e552910db1aa7949c69b59efb938fb06d3b6"), looks := false }, kinds := [], alts := [], laidByText := true, laidKinds := [.data, .pinned], laidTests := true, laidLooks := .later }
def MaskSetsUptoCardSaid : Prop := Claim7.holds Tryz.pinned (.plain (OpenSpec.upto maskSetsSpec)) maskSetsUptoCard

/-- THE SECOND FORM's CARD OF 'lexiconlaw16.MaskTexts'. -/
def maskTextsUptoCard : Claim7 := { stood := { row := maskTextsUptoRow, standIns := [], harness := (true, "25288be2d3d5728e8c0d6955a869e552910db1aa7949c69b59efb938fb06d3b6"), looks := false }, kinds := [], alts := [], laidByText := true, laidKinds := [.data, .pinned], laidTests := true, laidLooks := .later }
def MaskTextsUptoCardSaid : Prop := Claim7.holds Tryz.pinned (.plain (OpenSpec.upto maskTextsSpec)) maskTextsUptoCard
end Rows
end Go.Proofs.YtibdeeejjbmgcaaGreatDoor
