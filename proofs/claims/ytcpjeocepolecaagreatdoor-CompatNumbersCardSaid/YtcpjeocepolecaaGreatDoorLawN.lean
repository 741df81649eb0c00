/- CompatNumbers answers true: proved with no condition; the law's call is computed by the logic L (L's code of each function is what L makes of the given program). The listed variables are tied by the given tie. -/
import Derived.Test.YtcpjeocepolecaaGreatDoorZ4
import Derived.Test.YtcpjeocepolecaaGreatDoorZ7
import Derived.Test.YtcpjeocepolecaaGreatDoorZ14
import Derived.Test.YtcpjeocepolecaaGreatDoorZ15
import Derived.Test.YtcpjeocepolecaaGreatDoorRows
import Derived.Test.YtcpjeocepolecaaGreatDoorTie
import Derived.Test.YtcpjeocepolecaaGreatDoorCards
import Derived.OpenShut
import Derived.LaidMore
import Derived.Lay
import Derived.LaidOnce
import Derived.SevenTiedAt
namespace Go.Proofs.YtcpjeocepolecaaGreatDoor
open Go.L Go.ChangeShapes Go.WideShapes Go.ChangeAt Go.RowKit

set_option maxRecDepth 100000 in
theorem compatNumbers_run : PureL Tryz.prog F_lexiconlaw17_CompatNumbers [] (.bool true) := lawRun

theorem compatNumbers_calls (W : World) : Calls Tryz.prog F_lexiconlaw17_CompatNumbers #[] W fun e W' => e = .returned (.bool true) ∧ Below W.heap.size W W' :=
  CallL.law ((compatNumbers_run _).mono fun _ _ h => h.1) .nil

theorem compatNumbers_own : ownKnob Tryz.prog.godebug = none := by kernel_rfl

set_option maxRecDepth 100000 in
theorem compatNumbers_lifted (os : Os) (started : os.Started) (H : Type) (enc : TypeId × Value → H) :
    ReturnsInHanded {} Tryz.checked os 3 .any (fun w args => (Rows.compatNumbersSpec.pre enc Tryz.prog Tryz.f3 [] false w args ∧ laidMetH Tryz.prog Rows.compatNumbersRow.laid w) ∧ sizedMet enc Tryz.prog Tryz.f3 (OpenSpec.ofChange Rows.compatNumbersSpec) false w args)
      (Rows.compatNumbersSpec.post enc Tryz.prog Tryz.f3 false true false false) := by
  refine returnsInHanded_of_change_and (C := Tryz.checked) (X := fun w _ => laidMetH Tryz.prog Rows.compatNumbersRow.laid w) (fun _ _ _ hh h => h.of_heap hh) compatNumbers_own started (by kernel_rfl) Tryz.func3
    (ChangeSpec.witness_shaped (enc := enc) (C := Tryz.checked) (os := os) (X := fun w _ => laidMetH Tryz.prog Rows.compatNumbersRow.laid w) false (World.laidAll Tryz.prog os Rows.compatNumbersRow.laid) #[] 8 (World.laidAll_os _ _ _)
      (World.shaped_of_ZipB (by kernel_rfl) (by kernel_rfl)) (by kernel_rfl) (by kernel_rfl) (by kernel_rfl)
      (by rw [MakeChecks.laidMetH_plain _ _ _ (by kernel_rfl)]; exact laidMet_laidAll _ (by kernel_rfl) (by kernel_rfl))) ?_
  intro W base args ds gs before hval0 hW _ _ _ _
  have hW' := hW
  obtain ⟨p, q, hA0, hV, rfl, _, _⟩ := hW
  have hA : DataW.TrodAll enc Tryz.prog W 0 (fun _ => true) true Tryz.f3.params.toList args.toList ds p := hA0
  rw [Tryz.params3] at hA
  obtain ⟨hargs, rfl, rfl⟩ := trodAll_none hA
  obtain ⟨rfl, rfl⟩ := trodVars_none hV
  obtain rfl : args = #[] := by simpa using hargs
  refine (compatNumbers_calls W).mono fun e W' ⟨he, hb⟩ => ?_
  subst he
  exact ⟨_, rfl, _, _, _, [], [], [], hW', trodAll_mk1 (shut_bool Tryz.underlying4 _), rfl, rfl, hb.frame _, fun h => by cases h⟩

theorem compatNumbers_row_holds : Rows.CompatNumbersSaid :=
  OpenClaim.holds_of_wide 3 Tryz.f3 rfl rfl rfl rfl rfl rfl rfl ⟨rfl, rfl, rfl, rfl, rfl⟩ rfl rfl rfl rfl rfl (by kernel_rfl) Tryz.func3 jE
    (of_decide_eq_true (by kernel_rfl)) (by unfold Func.isWrapper; first | (rw [if_pos (by decide +kernel)]; kernel_rfl) | (rw [if_neg (by decide +kernel)]; exact ⟨rfl, rfl⟩))
    (fun os started H enc _ => compatNumbers_lifted os started H enc)

theorem compatNumbers_holds : Rows.CompatNumbersCardSaid :=
  Claim7.holds_tied_plain_at .later [] [.data, .pinned] true _ true compatNumbers_row_holds (fun _ h => by cases h) (by kernel_rfl) (fun _ h => by cases h) compatNumbers_row_tie rfl ⟨rfl, rfl⟩ (by kernel_rfl) rfl
    (fun f fn hf hfn => by
      obtain rfl : f = 3 := Option.some.inj ((show Tryz.prog.funcNamed "lexicon/lexiconlaw17.CompatNumbers" = some 3 by kernel_rfl).symm.trans hf) |>.symm
      obtain rfl : fn = Tryz.f3 := (Option.some.inj (Tryz.func3.symm.trans hfn)).symm
      exact ⟨by kernel_rfl, fun j t ht => by
        rw [Tryz.params3] at ht
        simp at ht⟩)
    (by kernel_rfl)
#print axioms compatNumbers_holds
end Go.Proofs.YtcpjeocepolecaaGreatDoor
