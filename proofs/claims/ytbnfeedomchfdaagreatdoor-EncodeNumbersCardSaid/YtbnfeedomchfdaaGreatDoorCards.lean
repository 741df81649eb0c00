/-
  DERIVED. GIVEN WITH THE SEED: THE CARDS: each row of YtbnfeedomchfdaaGreatDoorRows.lean that lists a variable, with what it lists TIED to the program's text (the seventh form; the later family's looks); each row that meets fmt, with fmt's text TOLD by the authors' own Lean function (tested against real Go, not proved from fmt's source: count such statements apart). THE CARD IS WHAT COUNTS. Prove the row's statement (the work); the ties are given (YtbnfeedomchfdaaGreatDoorTie.lean); close each card by the builder's one call (the guide's Derived/Test/ToyasCard.lean, 'card_holds'). Laid BY PROGRAM, IN A SANDBOX (cutbox-door.mjs). By AI agents, Wed Nov 11 2026. No macro, syntax, notation, axiom, sorry.
-/
import Derived.Test.YtbnfeedomchfdaaGreatDoorRows
import GoSem.ClaimSeven
namespace Go.Proofs.YtbnfeedomchfdaaGreatDoor
namespace Rows

/-- THE TIED CARD OF 'lexiconlaw11.EncodeNumbers'. -/
def encodeNumbersCard : Claim7 := { stood := { row := encodeNumbersRow, standIns := [], harness := (true, "499ff1e8512696e729b09daa01be7e8ea37b78c70c3ae3e3879a3881c45cc252"), looks := true }, kinds := [], alts := [], laidByText := true, laidKinds := [.data, .data, .data, .data, .pinned], laidTests := true, laidLooks := .later }
def EncodeNumbersCardSaid : Prop := Claim7.holds Tryz.pinned (.plain (OpenSpec.ofChange encodeNumbersSpec)) encodeNumbersCard

/-- THE SECOND FORM's CARD OF 'lexiconlaw11.EncodeNumbers'. -/
def encodeNumbersUptoCard : Claim7 := { stood := { row := encodeNumbersUptoRow, standIns := [], harness := (true, "499ff1e8512696e729b09daa01be7e8ea37b78c70c3ae3e3879a3881c45cc252"), looks := true }, kinds := [], alts := [], laidByText := true, laidKinds := [.data, .data, .data, .data, .pinned], laidTests := true, laidLooks := .later }
def EncodeNumbersUptoCardSaid : Prop := Claim7.holds Tryz.pinned (.plain (OpenSpec.upto encodeNumbersSpec)) encodeNumbersUptoCard
end Rows
end Go.Proofs.YtbnfeedomchfdaaGreatDoor
