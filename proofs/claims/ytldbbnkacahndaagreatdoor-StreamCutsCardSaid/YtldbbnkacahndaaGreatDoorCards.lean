/-
  DERIVED. GIVEN WITH THE SEED: THE CARDS: each row of YtldbbnkacahndaaGreatDoorRows.lean that lists a variable, with what it lists TIED to the program's text (the seventh form; the later family's looks); each row that meets fmt, with fmt's text TOLD by the authors' own Lean function (tested against real Go, not proved from fmt's source: count such statements apart). THE CARD IS WHAT COUNTS. Prove the row's statement (the work); the ties are given (YtldbbnkacahndaaGreatDoorTie.lean); close each card by the builder's one call (the guide's Derived/Test/ToyasCard.lean, 'card_holds'). Laid BY PROGRAM, IN A SANDBOX (cutbox-door.mjs). By AI agents, Wed Nov 11 2026. No macro, syntax, notation, axiom, sorry.
-/
import Derived.Test.YtldbbnkacahndaaGreatDoorRows
import GoSem.ClaimSeven
namespace Go.Proofs.YtldbbnkacahndaaGreatDoor
namespace Rows

/-- THE TIED CARD OF 'lexiconlaw23.StreamCuts'. -/
def streamCutsCard : Claim7 := { stood := { row := streamCutsRow, standIns := [], harness := (true, "a31b1e06f5a76304b6f0f53ebd6fc0d959937637421cb3945acd9f1c4d1fb95b"), looks := true }, kinds := [], alts := [], laidByText := true, laidKinds := [.data, .data, .data, .data, .pinned], laidTests := true, laidLooks := .later }
def StreamCutsCardSaid : Prop := Claim7.holds Tryz.pinned (.plain (OpenSpec.ofChange streamCutsSpec)) streamCutsCard

/-- THE SECOND FORM's CARD OF 'lexiconlaw23.StreamCuts'. -/
def streamCutsUptoCard : Claim7 := { stood := { row := streamCutsUptoRow, standIns := [], harness := (true, "a31b1e06f5a76304b6f0f53ebd6fc0d959937637421cb3945acd9f1c4d1fb95b"), looks := true }, kinds := [], alts := [], laidByText := true, laidKinds := [.data, .data, .data, .data, .pinned], laidTests := true, laidLooks := .later }
def StreamCutsUptoCardSaid : Prop := Claim7.holds Tryz.pinned (.plain (OpenSpec.upto streamCutsSpec)) streamCutsUptoCard
end Rows
end Go.Proofs.YtldbbnkacahndaaGreatDoor
