/-
  DERIVED. GIVEN WITH THE SEED: THE CARDS: each row of YtldbbnkacahndabGreatDoorRows.lean that lists a variable, with what it lists TIED to the program's text (the seventh form; the later family's looks); each row that meets fmt, with fmt's text TOLD by the authors' own Lean function (tested against real Go, not proved from fmt's source: count such statements apart). THE CARD IS WHAT COUNTS. Prove the row's statement (the work); the ties are given (YtldbbnkacahndabGreatDoorTie.lean); close each card by the builder's one call (the guide's Derived/Test/ToyasCard.lean, 'card_holds'). Laid BY PROGRAM, IN A SANDBOX (cutbox-door.mjs). By AI agents, Wed Nov 11 2026. No macro, syntax, notation, axiom, sorry.
-/
import Derived.Test.YtldbbnkacahndabGreatDoorRows
import GoSem.ClaimSeven
namespace Go.Proofs.YtldbbnkacahndabGreatDoor
namespace Rows

/-- THE TIED CARD OF 'lexiconlaw23.StreamPacks'. -/
def streamPacksCard : Claim7 := { stood := { row := streamPacksRow, standIns := [], harness := (true, "e7935228f069794715a4ca010a18c07586255d71c2fba31950dae01fb6194cb1"), looks := true }, kinds := [], alts := [], laidByText := true, laidKinds := [.data, .data, .data, .data, .pinned], laidTests := true, laidLooks := .later }
def StreamPacksCardSaid : Prop := Claim7.holds Tryz.pinned (.plain (OpenSpec.ofChange streamPacksSpec)) streamPacksCard

/-- THE SECOND FORM's CARD OF 'lexiconlaw23.StreamPacks'. -/
def streamPacksUptoCard : Claim7 := { stood := { row := streamPacksUptoRow, standIns := [], harness := (true, "e7935228f069794715a4ca010a18c07586255d71c2fba31950dae01fb6194cb1"), looks := true }, kinds := [], alts := [], laidByText := true, laidKinds := [.data, .data, .data, .data, .pinned], laidTests := true, laidLooks := .later }
def StreamPacksUptoCardSaid : Prop := Claim7.holds Tryz.pinned (.plain (OpenSpec.upto streamPacksSpec)) streamPacksUptoCard
end Rows
end Go.Proofs.YtldbbnkacahndabGreatDoor
