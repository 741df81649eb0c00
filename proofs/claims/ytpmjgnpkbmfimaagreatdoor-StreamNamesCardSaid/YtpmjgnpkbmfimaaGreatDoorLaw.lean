/- StreamNames answers true: proved with no condition; the law's call is computed by the logic L (L's code of each function is what L makes of the given program). The listed variables are tied by the given tie. -/
import Derived.Test.YtpmjgnpkbmfimaaGreatDoorY17
import Derived.Test.YtpmjgnpkbmfimaaGreatDoorY18
import Derived.Test.YtpmjgnpkbmfimaaGreatDoorTie
import Derived.Test.YtpmjgnpkbmfimaaGreatDoorCards
import Derived.SevenTiedAt
namespace Go.Proofs.YtpmjgnpkbmfimaaGreatDoor
open Go.L Go.ChangeShapes Go.WideShapes Go.ChangeAt Go.RowKit

theorem streamNames_holds : Rows.StreamNamesCardSaid :=
  Claim7.holds_tied_plain_at .later [] [.data, .data, .data, .data, .pinned] true _ true streamNames_row_holds (fun _ h => by cases h) (by kernel_rfl) (fun _ h => by cases h) streamNames_row_tie rfl ⟨rfl, rfl⟩ (by kernel_rfl) rfl
    (fun f fn hf hfn => by
      obtain rfl : f = 3 := Option.some.inj ((show Tryz.prog.funcNamed "lexicon/lexiconlaw23.StreamNames" = some 3 by kernel_rfl).symm.trans hf) |>.symm
      obtain rfl : fn = Tryz.f3 := (Option.some.inj (Tryz.func3.symm.trans hfn)).symm
      exact ⟨by kernel_rfl, fun j t ht => by
        rw [Tryz.params3] at ht
        simp at ht⟩)
    kG
#print axioms streamNames_holds
end Go.Proofs.YtpmjgnpkbmfimaaGreatDoor
