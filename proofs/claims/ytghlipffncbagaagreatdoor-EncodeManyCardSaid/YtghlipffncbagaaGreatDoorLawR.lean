/- EncodeMany answers true for every input, and leaves its argument: proved with no condition beyond the given row's. By contracts of the functions that it calls, in the logic L (the code that L has of each function is what L makes of the given program); what the closed file comes to is computed by the kernel. The listed variables are tied by the given tie. -/
import Derived.Test.YtghlipffncbagaaGreatDoorZ24
import Derived.Test.YtghlipffncbagaaGreatDoorZ25
import Derived.Test.YtghlipffncbagaaGreatDoorTie
import Derived.Test.YtghlipffncbagaaGreatDoorCards
import Derived.SevenTiedAt
namespace Go.Proofs.YtghlipffncbagaaGreatDoor
open Go.L Go.ChangeShapes Go.WideShapes Go.ChangeAt Go.RowKit
theorem encodeMany_holds : Rows.EncodeManyCardSaid :=
 Claim7.holds_tied_plain_at .later [] [.data, .data, .data, .data, .pinned] true _ true encodeMany_row_holds (fun _ h => by cases h) (by kernel_rfl) (fun _ h => by cases h) encodeMany_row_tie rfl ⟨rfl, rfl⟩ (by kernel_rfl) rfl
  (fun f fn hf hfn => by
   obtain rfl : f = 3 := Option.some.inj ((show Tryz.prog.funcNamed "lexicon/lexiconlaw11.EncodeMany" = some 3 by kernel_rfl).symm.trans hf) |>.symm
   obtain rfl : fn = Tryz.f3 := (Option.some.inj (Tryz.func3.symm.trans hfn)).symm
   exact ⟨by kernel_rfl, fun j t ht => by
    rw [Tryz.params3] at ht
    have hm : t ∈ [4, 3, 22] := by simpa using Array.mem_of_getElem? ht
    have hall : ([4, 3, 22].all fun u => !Tryz.prog.wantsStandIn u) = true := by kernel_rfl
    exact (show Tryz.prog.wantsStandIn t = false by simpa using List.all_eq_true.1 hall t hm)⟩)
  kG
#print axioms encodeMany_holds
end Go.Proofs.YtghlipffncbagaaGreatDoor
