/-
  DERIVED. GIVEN WITH THE SEED: THE CARDS: each row of YtpmjgnpkbmfimaaGreatDoorRows.lean that lists a variable, with what it lists TIED to the program's text (the seventh form; the later family's looks); each row that meets fmt, with fmt's text TOLD by the authors' own Lean function (tested against real Go, not proved from fmt's source: count such statements apart). THE CARD IS WHAT COUNTS. Prove the row's statement (the work); the ties are given (YtpmjgnpkbmfimaaGreatDoorTie.lean); close each card by the builder's one call (the guide's Derived/Test/ToyasCard.lean, 'card_holds'). Laid BY PROGRAM, IN A SANDBOX (cutbox-door.mjs). By AI agents, Wed Nov 11 2026. No macro, syntax, notation, axiom, sorry.
-/
import Derived.Test.YtpmjgnpkbmfimaaGreatDoorRows
import GoSem.ClaimSeven
namespace Go.Proofs.YtpmjgnpkbmfimaaGreatDoor
namespace Rows

/-- THE TIED CARD OF 'lexiconlaw23.StreamNames'. -/
def streamNamesCard : Claim7 := { stood := { row := streamNamesRow, standIns := [], harness := (true, "e0f4c57e882f3fffc84127885db794b484a8b63ac0ab1586665a0477dbcf77c9"), looks := true }, kinds := [], alts := [], laidByText := true, laidKinds := [.data, .data, .data, .data, .pinned], laidTests := true, laidLooks := .later }
def StreamNamesCardSaid : Prop := Claim7.holds Tryz.pinned (.plain (OpenSpec.ofChange streamNamesSpec)) streamNamesCard

/-- THE SECOND FORM's CARD OF 'lexiconlaw23.StreamNames'. -/
def streamNamesUptoCard : Claim7 := { stood := { row := streamNamesUptoRow, standIns := [], harness := (true, "e0f4c57e882f3fffc84127885db794b484a8b63ac0ab1586665a0477dbcf77c9"), looks := true }, kinds := [], alts := [], laidByText := true, laidKinds := [.data, .data, .data, .data, .pinned], laidTests := true, laidLooks := .later }
def StreamNamesUptoCardSaid : Prop := Claim7.holds Tryz.pinned (.plain (OpenSpec.upto streamNamesSpec)) streamNamesUptoCard
end Rows
end Go.Proofs.YtpmjgnpkbmfimaaGreatDoor
