/- Every Split and every Join of URLs of types are the document's, and lead back: for every three texts; no conditions. -/
import Derived.Test.YtpldnmjdoogghaaGreatDoorY19
import Derived.Test.YtpldnmjdoogghaaGreatDoorY20
import Derived.Test.YtpldnmjdoogghaaGreatDoorTie
import Derived.Test.YtpldnmjdoogghaaGreatDoorCards
import Derived.SevenTiedAt
namespace Go.Proofs.YtpldnmjdoogghaaGreatDoor
open Go.L Go.ChangeShapes Go.WideShapes Go.ChangeAt Go.RowKit

theorem boxURLs_holds : Rows.BoxURLsCardSaid :=
  Claim7.holds_tied_plain_at .later [] [.data, .data, .data, .data, .pinned] true _ true boxURLs_row_holds (fun _ h => by cases h) (by kernel_rfl) (fun _ h => by cases h) boxURLs_row_tie rfl ⟨rfl, rfl⟩ (by kernel_rfl) rfl
    (fun f fn hf hfn => by
      obtain rfl : f = 3 := Option.some.inj ((show Tryz.prog.funcNamed "lexicon/lexiconlaw13.BoxURLs" = some 3 by kernel_rfl).symm.trans hf) |>.symm
      obtain rfl : fn = Tryz.f3 := (Option.some.inj (Tryz.func3.symm.trans hfn)).symm
      exact ⟨by kernel_rfl, fun j t ht => by
        rw [Tryz.params3] at ht
        have hm : t ∈ [9, 9, 9] := by simpa using Array.mem_of_getElem? ht
        have hall : ([9, 9, 9].all fun u => !Tryz.prog.wantsStandIn u) = true := by kernel_rfl
        exact (show Tryz.prog.wantsStandIn t = false by simpa using List.all_eq_true.1 hall t hm)⟩)
    kG
#print axioms boxURLs_holds
end Go.Proofs.YtpldnmjdoogghaaGreatDoor
