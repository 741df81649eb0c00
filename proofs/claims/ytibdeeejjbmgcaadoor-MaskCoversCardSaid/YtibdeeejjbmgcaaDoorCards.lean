/-
  DERIVED. GIVEN WITH THE SEED: THE CARDS: each row of YtibdeeejjbmgcaaDoorRows.lean that lists a variable, with what it lists TIED to the program's text (the seventh form; the later family's looks); each row that meets fmt, with fmt's text TOLD by the authors' own Lean function (tested against real Go, not proved from fmt's source: count such statements apart). THE CARD IS WHAT COUNTS. Prove the row's statement (the work); the ties are given (YtibdeeejjbmgcaaDoorTie.lean); close each card by the builder's one call (the guide's Derived/Test/ToyasCard.lean, 'card_holds'). Laid BY PROGRAM, IN A SANDBOX (cutbox-door.mjs). By AI agents, Wed Nov 11 2026. No macro, syntax, notation, axiom, sorry.
-/
import Derived.Test.YtibdeeejjbmgcaaDoorRows
import GoSem.ClaimSeven
namespace Go.Proofs.YtibdeeejjbmgcaaDoor
namespace Rows

/-- THE TIED CARD OF 'lexiconlaw16.MaskNames'. -/
def maskNamesCard : Claim7 := { stood := { row := maskNamesRow, standIns := [], harness := (true, "a499249f63cc555a832c52c76d112f239f27523320dc24f8352278622944e7a8"), looks := false }, kinds := [], alts := [], laidByText := true, laidKinds := [.data, .pinned], laidTests := true, laidLooks := .later }
def MaskNamesCardSaid : Prop := Claim7.holds Tryd.pinned (.plain (OpenSpec.ofChange maskNamesSpec)) maskNamesCard

/-- THE TIED CARD OF 'lexiconlaw16.MaskCovers'. -/
def maskCoversCard : Claim7 := { stood := { row := maskCoversRow, standIns := [], harness := (true, "a499249f63cc555a832c52c76d112f239f27523320dc24f8352278622944e7a8"), looks := false }, kinds := [], alts := [], laidByText := true, laidKinds := [.data, .pinned], laidTests := true, laidLooks := .later }
def MaskCoversCardSaid : Prop := Claim7.holds Tryd.pinned (.plain (OpenSpec.ofChange maskCoversSpec)) maskCoversCard

/-- THE SECOND FORM's CARD OF 'lexiconlaw16.MaskNames'. -/
def maskNamesUptoCard : Claim7 := { stood := { row := maskNamesUptoRow, standIns := [], harness := (true, "a499249f63cc555a832c52c76d112f239f27523320dc24f8352278622944e7a8"), looks := false }, kinds := [], alts := [], laidByText := true, laidKinds := [.data, .pinned], laidTests := true, laidLooks := .later }
def MaskNamesUptoCardSaid : Prop := Claim7.holds Tryd.pinned (.plain (OpenSpec.upto maskNamesSpec)) maskNamesUptoCard

/-- THE SECOND FORM's CARD OF 'lexiconlaw16.MaskCovers'. -/
def maskCoversUptoCard : Claim7 := { stood := { row := maskCoversUptoRow, standIns := [], harness := (true, "a499249f63cc555a832c52c76d112f239f27523320dc24f8352278622944e7a8"), looks := false }, kinds := [], alts := [], laidByText := true, laidKinds := [.data, .pinned], laidTests := true, laidLooks := .later }
def MaskCoversUptoCardSaid : Prop := Claim7.holds Tryd.pinned (.plain (OpenSpec.upto maskCoversSpec)) maskCoversUptoCard
end Rows
end Go.Proofs.YtibdeeejjbmgcaaDoor
