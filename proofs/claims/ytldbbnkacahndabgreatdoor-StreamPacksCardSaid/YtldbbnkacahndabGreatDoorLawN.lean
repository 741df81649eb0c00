/- StreamPacks answers true for every input, and leaves its arguments: proved with no condition beyond the given row's. By contracts of the functions that it calls, in the logic L (the code that L has of each function is what L makes of the given program); the closed head is computed by the kernel, part by part. The listed variables are tied by the given tie. -/
import Derived.Test.YtldbbnkacahndabGreatDoorZ19
import Derived.Test.YtldbbnkacahndabGreatDoorZ20
import Derived.Test.YtldbbnkacahndabGreatDoorTie
import Derived.Test.YtldbbnkacahndabGreatDoorCards
import Derived.SevenTiedAt
namespace Go.Proofs.YtldbbnkacahndabGreatDoor
open Go.L Go.ChangeShapes Go.WideShapes Go.ChangeAt Go.RowKit
theorem streamPacks_holds : Rows.StreamPacksCardSaid :=
 Claim7.holds_tied_plain_at .later [] [.data, .data, .data, .data, .pinned] true _ true streamPacks_row_holds (fun _ h => by cases h) (by kernel_rfl) (fun _ h => by cases h) streamPacks_row_tie rfl ⟨rfl, rfl⟩ (by kernel_rfl) rfl
  (fun f fn hf hfn => by
   obtain rfl : f = 3 := Option.some.inj ((show Tryz.prog.funcNamed "lexicon/lexiconlaw23.StreamPacks" = some 3 by kernel_rfl).symm.trans hf) |>.symm
   obtain rfl : fn = Tryz.f3 := (Option.some.inj (Tryz.func3.symm.trans hfn)).symm
   exact ⟨by kernel_rfl, fun j t ht => by
    rw [Tryz.params3] at ht
    have hm : t ∈ [3, 22] := by simpa using Array.mem_of_getElem? ht
    have hall : ([3, 22].all fun u => !Tryz.prog.wantsStandIn u) = true := by kernel_rfl
    exact (show Tryz.prog.wantsStandIn t = false by simpa using List.all_eq_true.1 hall t hm)⟩)
  kG
#print axioms streamPacks_holds
end Go.Proofs.YtldbbnkacahndabGreatDoor
