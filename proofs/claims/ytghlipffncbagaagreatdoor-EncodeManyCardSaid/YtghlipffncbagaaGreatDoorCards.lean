/-
  DERIVED. GIVEN WITH THE SEED: THE CARDS: each row of YtghlipffncbagaaGreatDoorRows.lean that lists a variable, with what it lists TIED to the program's text (the seventh form; the later family's looks); each row that meets fmt, with fmt's text TOLD by the authors' own Lean function (tested against real Go, not proved from fmt's source: count such statements apart). THE CARD IS WHAT COUNTS. Prove the row's statement (the work); the ties are given (YtghlipffncbagaaGreatDoorTie.lean); close each card by the builder's one call (the guide's Derived/Test/ToyasCard.lean, 'card_holds'). Laid BY PROGRAM, IN A SANDBOX (cutbox-door.mjs). By AI agents, Wed Nov 11 2026. No macro, syntax, notation, axiom, sorry.
-/
import Derived.Test.YtghlipffncbagaaGreatDoorRows
import GoSem.ClaimSeven
namespace Go.Proofs.YtghlipffncbagaaGreatDoor
namespace Rows

/-- THE TIED CARD OF 'lexiconlaw11.EncodeMany'. -/
def encodeManyCard : Claim7 := { stood := { row := encodeManyRow, standIns := [], harness := (true, "ed6c4564b9293835b216fe2ddf3f665119864c40eda25b4417dfb99fc6edeffc"), looks := true }, kinds := [], alts := [], laidByText := true, laidKinds := [.data, .data, .data, .data, .pinned], laidTests := true, laidLooks := .later }
def EncodeManyCardSaid : Prop := Claim7.holds Tryz.pinned (.plain (OpenSpec.ofChange encodeManySpec)) encodeManyCard

/-- THE SECOND FORM's CARD OF 'lexiconlaw11.EncodeMany'. -/
def encodeManyUptoCard : Claim7 := { stood := { row := encodeManyUptoRow, standIns := [], harness := (true, "ed6c4564b9293835b216fe2ddf3f665119864c40eda25b4417dfb99fc6edeffc"), looks := true }, kinds := [], alts := [], laidByText := true, laidKinds := [.data, .data, .data, .data, .pinned], laidTests := true, laidLooks := .later }
def EncodeManyUptoCardSaid : Prop := Claim7.holds Tryz.pinned (.plain (OpenSpec.upto encodeManySpec)) encodeManyUptoCard
end Rows
end Go.Proofs.YtghlipffncbagaaGreatDoor
