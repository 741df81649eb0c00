/-
  DERIVED. GIVEN WITH THE SEED: THE CARDS: each row of YtgjjbfhamlecoacGreatDoorRows.lean that lists a variable, with what it lists TIED to the program's text (the seventh form; the later family's looks); each row that meets fmt, with fmt's text TOLD by the authors' own Lean function (tested against real Go, not proved from fmt's source: count such statements apart). THE CARD IS WHAT COUNTS. Prove the row's statement (the work); the ties are given (YtgjjbfhamlecoacGreatDoorTie.lean); close each card by the builder's one call (the guide's Derived/Test/ToyasCard.lean, 'card_holds'). Laid BY PROGRAM, IN A SANDBOX (cutbox-door.mjs). By AI agents, Wed Nov 11 2026. No macro, syntax, notation, axiom, sorry.
-/
import Derived.Test.YtgjjbfhamlecoacGreatDoorRows
import GoSem.ClaimSeven
namespace Go.Proofs.YtgjjbfhamlecoacGreatDoor
namespace Rows

/-- THE TIED CARD OF 'lexiconlaw12.DecodeRuns'. -/
def decodeRunsCard : Claim7 := { stood := { row := decodeRunsRow, standIns := [], harness := (true, "a928e963fb4b83f3c605196b22f770018769c3f5008eb841c2ddf4f421be0bfb"), looks := true }, kinds := [], alts := [], laidByText := true, laidKinds := [.data, .data, .data, .data, .pinned], laidTests := true, laidLooks := .later }
def DecodeRunsCardSaid : Prop := Claim7.holds Tryz.pinned (.plain (OpenSpec.ofChange decodeRunsSpec)) decodeRunsCard

/-- THE SECOND FORM's CARD OF 'lexiconlaw12.DecodeRuns'. -/
def decodeRunsUptoCard : Claim7 := { stood := { row := decodeRunsUptoRow, standIns := [], harness := (true, "a928e963fb4b83f3c605196b22f770018769c3f5008eb841c2ddf4f421be0bfb"), looks := true }, kinds := [], alts := [], laidByText := true, laidKinds := [.data, .data, .data, .data, .pinned], laidTests := true, laidLooks := .later }
def DecodeRunsUptoCardSaid : Prop := Claim7.holds Tryz.pinned (.plain (OpenSpec.upto decodeRunsSpec)) decodeRunsUptoCard
end Rows
end Go.Proofs.YtgjjbfhamlecoacGreatDoor
