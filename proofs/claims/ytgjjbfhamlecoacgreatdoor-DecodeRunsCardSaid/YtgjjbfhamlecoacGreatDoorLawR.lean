/- DecodeRuns answers true for every input, and leaves its argument: proved with no condition beyond the given row's. By contracts of the functions that it calls, in the logic L (the code that L has of each function is what L makes of the given program); what the closed file comes to is computed by the kernel. The listed variables are tied by the given tie. -/
import Derived.Test.YtgjjbfhamlecoacGreatDoorZ17
import Derived.Test.YtgjjbfhamlecoacGreatDoorZ18
import Derived.Test.YtgjjbfhamlecoacGreatDoorTie
import Derived.Test.YtgjjbfhamlecoacGreatDoorCards
import Derived.SevenTiedAt
namespace Go.Proofs.YtgjjbfhamlecoacGreatDoor
open Go.L Go.ChangeShapes Go.WideShapes Go.ChangeAt Go.RowKit
theorem decodeRuns_holds : Rows.DecodeRunsCardSaid :=
 Claim7.holds_tied_plain_at .later [] [.data, .data, .data, .data, .pinned] true _ true decodeRuns_row_holds (fun _ h => by cases h) (by kernel_rfl) (fun _ h => by cases h) decodeRuns_row_tie rfl ⟨rfl, rfl⟩ (by kernel_rfl) rfl
  (fun f fn hf hfn => by
   obtain rfl : f = 3 := Option.some.inj ((show Tryz.prog.funcNamed "lexicon/lexiconlaw12.DecodeRuns" = some 3 by kernel_rfl).symm.trans hf) |>.symm
   obtain rfl : fn = Tryz.f3 := (Option.some.inj (Tryz.func3.symm.trans hfn)).symm
   exact ⟨by kernel_rfl, fun j t ht => by
    rw [Tryz.params3] at ht
    have hm : t ∈ [22, 23] := by simpa using Array.mem_of_getElem? ht
    have hall : ([22, 23].all fun u => !Tryz.prog.wantsStandIn u) = true := by kernel_rfl
    exact (show Tryz.prog.wantsStandIn t = false by simpa using List.all_eq_true.1 hall t hm)⟩)
  kG
#print axioms decodeRuns_holds
end Go.Proofs.YtgjjbfhamlecoacGreatDoor
