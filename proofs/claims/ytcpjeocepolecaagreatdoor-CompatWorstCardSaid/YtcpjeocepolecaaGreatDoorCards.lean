/-
  DERIVED. GIVEN WITH THE SEED: THE CARDS: each row of YtcpjeocepolecaaGreatDoorRows.lean that lists a variable, with what it lists TIED to the program's text (the seventh form; the later family's looks); each row that meets fmt, with fmt's text TOLD by the authors' own Lean function (tested against real Go, not proved from fmt's source: count such statements apart). THE CARD IS WHAT COUNTS. Prove the row's statement (the work); the ties are given (YtcpjeocepolecaaGreatDoorTie.lean); close each card by the builder's one call (the guide's Derived/Test/ToyasCard.lean, 'card_holds'). Laid BY PROGRAM, IN A SANDBOX (cutbox-door.mjs). By AI agents, Wed Nov 11 2026. No macro, syntax, notation, axiom, sorry.
-/
import Derived.Test.YtcpjeocepolecaaGreatDoorRows
import GoSem.ClaimSeven
namespace Go.Proofs.YtcpjeocepolecaaGreatDoor
namespace Rows

/-- THE TIED CARD OF 'lexiconlaw17.CompatNumbers'. -/
def compatNumbersCard : Claim7 := { stood := { row := compatNumbersRow, standIns := [], harness := (true, "b06740c2e7c540670c01e7968d4ddf9fa213065c0a3520dd36af2e8aa4a0fb33"), looks := true }, kinds := [], alts := [], laidByText := true, laidKinds := [.data, .pinned], laidTests := true, laidLooks := .later }
def CompatNumbersCardSaid : Prop := Claim7.holds Tryz.pinned (.plain (OpenSpec.ofChange compatNumbersSpec)) compatNumbersCard

/-- THE TIED CARD OF 'lexiconlaw17.CompatWorst'. -/
def compatWorstCard : Claim7 := { stood := { row := compatWorstRow, standIns := [], harness := (true, "b06740c2e7c540670c01e7968d4ddf9fa213065c0a3520dd36af2e8aa4a0fb33"), looks := true }, kinds := [], alts := [], laidByText := true, laidKinds := [.data, .pinned], laidTests := true, laidLooks := .later }
def CompatWorstCardSaid : Prop := Claim7.holds Tryz.pinned (.plain (OpenSpec.ofChange compatWorstSpec)) compatWorstCard

/-- THE SECOND FORM's CARD OF 'lexiconlaw17.CompatNumbers'. -/
def compatNumbersUptoCard : Claim7 := { stood := { row := compatNumbersUptoRow, standIns := [], harness := (true, "b06740c2e7c540670c01e7968d4ddf9fa213065c0a3520dd36af2e8aa4a0fb33"), looks := true }, kinds := [], alts := [], laidByText := true, laidKinds := [.data, .pinned], laidTests := true, laidLooks := .later }
def CompatNumbersUptoCardSaid : Prop := Claim7.holds Tryz.pinned (.plain (OpenSpec.upto compatNumbersSpec)) compatNumbersUptoCard

/-- THE SECOND FORM's CARD OF 'lexiconlaw17.CompatWorst'. -/
def compatWorstUptoCard : Claim7 := { stood := { row := compatWorstUptoRow, standIns := [], harness := (true, "b06740c2e7c540670c01e7968d4ddf9fa213065c0a3520dd36af2e8aa4a0fb33"), looks := true }, kinds := [], alts := [], laidByText := true, laidKinds := [.data, .pinned], laidTests := true, laidLooks := .later }
def CompatWorstUptoCardSaid : Prop := Claim7.holds Tryz.pinned (.plain (OpenSpec.upto compatWorstSpec)) compatWorstUptoCard
end Rows
end Go.Proofs.YtcpjeocepolecaaGreatDoor
