/- BoxNames answers true: proved with no condition; the law's call is computed by the logic L (L's code of each function is what L makes of the given program). The listed variables are tied by the given tie. -/
import Derived.Test.YtpmjgnpkbmfimabGreatDoorY17
import Derived.Test.YtpmjgnpkbmfimabGreatDoorY18
import Derived.Test.YtpmjgnpkbmfimabGreatDoorTie
import Derived.Test.YtpmjgnpkbmfimabGreatDoorCards
import Derived.SevenTiedAt
namespace Go.Proofs.YtpmjgnpkbmfimabGreatDoor
open Go.L Go.ChangeShapes Go.WideShapes Go.ChangeAt Go.RowKit

theorem boxNames_holds : Rows.BoxNamesCardSaid :=
  Claim7.holds_tied_plain_at .later [] [.data, .data, .data, .data, .pinned] true _ true boxNames_row_holds (fun _ h => by cases h) (by kernel_rfl) (fun _ h => by cases h) boxNames_row_tie rfl ⟨rfl, rfl⟩ (by kernel_rfl) rfl
    (fun f fn hf hfn => by
      obtain rfl : f = 3 := Option.some.inj ((show Tryz.prog.funcNamed "lexicon/lexiconlaw13.BoxNames" = some 3 by kernel_rfl).symm.trans hf) |>.symm
      obtain rfl : fn = Tryz.f3 := (Option.some.inj (Tryz.func3.symm.trans hfn)).symm
      exact ⟨by kernel_rfl, fun j t ht => by
        rw [Tryz.params3] at ht
        simp at ht⟩)
    kG
#print axioms boxNames_holds
end Go.Proofs.YtpmjgnpkbmfimabGreatDoor
