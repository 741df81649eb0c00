/- EncodeNumbers answers true: proved with no condition; the call is computed by the logic L, slices.Insert by its contract. The listed variables are tied by the given tie. -/
import Derived.Test.YtbnfeedomchfdaaGreatDoorY16
import Derived.Test.YtbnfeedomchfdaaGreatDoorY17
import Derived.Test.YtbnfeedomchfdaaGreatDoorTie
import Derived.Test.YtbnfeedomchfdaaGreatDoorCards
import Derived.SevenTiedAt
namespace Go.Proofs.YtbnfeedomchfdaaGreatDoor
open Go.L Go.ChangeShapes Go.WideShapes Go.ChangeAt Go.RowKit

theorem encodeNumbers_holds : Rows.EncodeNumbersCardSaid :=
  Claim7.holds_tied_plain_at .later [] [.data, .data, .data, .data, .pinned] true _ true encodeNumbers_row_holds (fun _ h => by cases h) (by kernel_rfl) (fun _ h => by cases h) encodeNumbers_row_tie rfl ⟨rfl, rfl⟩ (by kernel_rfl) rfl
    (fun f fn hf hfn => by
      obtain rfl : f = 3 := Option.some.inj ((show Tryz.prog.funcNamed "lexicon/lexiconlaw11.EncodeNumbers" = some 3 by kernel_rfl).symm.trans hf) |>.symm
      obtain rfl : fn = Tryz.f3 := (Option.some.inj (Tryz.func3.symm.trans hfn)).symm
      exact ⟨by kernel_rfl, fun j t ht => by
        rw [Tryz.params3] at ht
        simp at ht⟩)
    kG
#print axioms encodeNumbers_holds
end Go.Proofs.YtbnfeedomchfdaaGreatDoor
