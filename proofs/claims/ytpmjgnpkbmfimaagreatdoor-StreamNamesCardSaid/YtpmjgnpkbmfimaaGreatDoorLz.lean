/-
  The logic L, last part: from a contract to what a law's row asks.
-/
import Derived.Test.YtpmjgnpkbmfimaaGreatDoorEc
import Derived.ProofKit
namespace Go.L
open Go.RowKit

/-- A law that answers true: whatever the call makes, what was there stays. -/
theorem CallL.law {P : Program} {f : FuncId} {args : List AV} {args' : Array Value} {w : World} (k : CallL P f args Hp.nil fun r _ => r = .ret (.bool true))
    (hA : VRs (fun _ => none) (fun B => (w.heap[B]?).map fun o => (o, 0)) args args') : Calls P f args' w fun e w' => e = .returned (.bool true) ∧ Below w.heap.size w w' := by
  have hR0 : R P (fun _ => none) (fun B => (w.heap[B]?).map fun o => (o, 0)) Hp.nil w :=
    ⟨fun _ _ => rfl, (fun i b hi => by cases hi), (fun B o hB => by simp only [Option.map_eq_some_iff] at hB; obtain ⟨o', h1, rfl⟩ := hB; exact h1), (fun i b L hi => by cases hi), (fun i j bi bj Li Lj hi => by cases hi), (fun i b L hi => by cases hi), (fun i b L hi => by cases hi)⟩
  refine (callsIn_wide.1 (k.run _ _ w args' hR0 hA)).mono ?_
  rintro e w' ⟨σ', M', h', hE, hR', hend⟩
  refine ⟨?_, hE.os, hE.tape, hE.output, hE.size, fun B hB => ?_⟩
  · cases e with
    | returned v' =>
      obtain ⟨v, hv, e1⟩ := hend
      cases e1
      cases hv; rfl
    | panicked ch => obtain ⟨v, v', _, _, e1⟩ := hend; cases e1
    | outgrown => exact hend.elim
  · have h1 : w.heap[B]? = some w.heap[B] := Array.getElem?_eq_getElem hB
    rw [h1]; exact hR'.mem B (w.heap[B], 0) (hE.m B _ (by simp only [h1, Option.map_some]))
end Go.L
