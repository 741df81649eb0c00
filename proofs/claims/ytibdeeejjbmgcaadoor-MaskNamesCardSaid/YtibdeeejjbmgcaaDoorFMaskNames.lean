/- MaskNames answers true: proved with no condition; the law's call is computed by the logic L (L's code of each function is what L makes of the given program). The listed variables are tied by the given tie. -/
import Derived.Test.YtibdeeejjbmgcaaDoorLz
import Derived.Test.YtibdeeejjbmgcaaDoorGt
import Derived.Test.YtibdeeejjbmgcaaDoorRows
import Derived.Test.YtibdeeejjbmgcaaDoorTie
import Derived.Test.YtibdeeejjbmgcaaDoorCards
import Derived.OpenShut
import Derived.LaidMore
import Derived.Lay
import Derived.LaidOnce
import Derived.SevenTiedAt
namespace Go.Proofs.YtibdeeejjbmgcaaDoor
open Go.L Go.ChangeShapes Go.WideShapes Go.ChangeAt Go.RowKit

set_option maxRecDepth 100000 in
theorem maskNames_run : PureL Tryd.prog F_lexiconlaw16_MaskNames [] (.bool true) := CallL.ofRun codes_ok (loops := 1000) (d := 60) rfl rfl (by kernel_rfl)

theorem maskNames_calls (W : World) : Calls Tryd.prog F_lexiconlaw16_MaskNames #[] W fun e W' => e = .returned (.bool true) ∧ Below W.heap.size W W' :=
  CallL.law ((maskNames_run _).mono fun _ _ h => h.1) .nil

theorem maskNames_own : ownKnob Tryd.prog.godebug = none := by kernel_rfl

set_option maxRecDepth 100000 in
theorem maskNames_lifted (os : Os) (started : os.Started) (H : Type) (enc : TypeId × Value → H) :
    ReturnsInHanded {} Tryd.checked os 3 .any (fun w args => (Rows.maskNamesSpec.pre enc Tryd.prog Tryd.f3 [] false w args ∧ laidMetH Tryd.prog Rows.maskNamesRow.laid w) ∧ sizedMet enc Tryd.prog Tryd.f3 (OpenSpec.ofChange Rows.maskNamesSpec) false w args)
      (Rows.maskNamesSpec.post enc Tryd.prog Tryd.f3 false true false false) := by
  refine returnsInHanded_of_change_and (C := Tryd.checked) (X := fun w _ => laidMetH Tryd.prog Rows.maskNamesRow.laid w) (fun _ _ _ hh h => h.of_heap hh) maskNames_own started (by kernel_rfl) Tryd.func3
    (ChangeSpec.witness_shaped (enc := enc) (C := Tryd.checked) (os := os) (X := fun w _ => laidMetH Tryd.prog Rows.maskNamesRow.laid w) false (World.laidAll Tryd.prog os Rows.maskNamesRow.laid) #[] 8 (World.laidAll_os _ _ _)
      (World.shaped_of_ZipB (by kernel_rfl) (by kernel_rfl)) (by kernel_rfl) (by kernel_rfl) (by kernel_rfl)
      (by rw [MakeChecks.laidMetH_plain _ _ _ (by kernel_rfl)]; exact laidMet_laidAll _ (by kernel_rfl) (by kernel_rfl))) ?_
  intro W base args ds gs before hval0 hW _ _ _ _
  have hW' := hW
  obtain ⟨p, q, hA0, hV, rfl, _, _⟩ := hW
  have hA : DataW.TrodAll enc Tryd.prog W 0 (fun _ => true) true Tryd.f3.params.toList args.toList ds p := hA0
  rw [Tryd.params3] at hA
  obtain ⟨hargs, rfl, rfl⟩ := trodAll_none hA
  obtain ⟨rfl, rfl⟩ := trodVars_none hV
  obtain rfl : args = #[] := by simpa using hargs
  refine (maskNames_calls W).mono fun e W' ⟨he, hb⟩ => ?_
  subst he
  exact ⟨_, rfl, _, _, _, [], [], [], hW', trodAll_mk1 (shut_bool Tryd.underlying4 _), rfl, rfl, hb.frame _, fun h => by cases h⟩

theorem maskNames_row_holds : Rows.MaskNamesSaid :=
  OpenClaim.holds_of_wide 3 Tryd.f3 rfl rfl rfl rfl rfl rfl rfl ⟨rfl, rfl, rfl, rfl, rfl⟩ rfl rfl rfl rfl rfl (by kernel_rfl) Tryd.func3 (by kernel_rfl)
    (of_decide_eq_true (by kernel_rfl)) (by unfold Func.isWrapper; first | (rw [if_pos (by decide +kernel)]; kernel_rfl) | (rw [if_neg (by decide +kernel)]; exact ⟨rfl, rfl⟩))
    (fun os started H enc _ => maskNames_lifted os started H enc)

theorem maskNames_holds : Rows.MaskNamesCardSaid :=
  Claim7.holds_tied_plain_at .later [] [.data, .pinned] true _ false maskNames_row_holds (fun _ h => by cases h) (by kernel_rfl) (fun _ h => by cases h) maskNames_row_tie rfl ⟨rfl, rfl⟩ (by kernel_rfl) rfl
    (fun f fn hf hfn => by
      obtain rfl : f = 3 := Option.some.inj ((show Tryd.prog.funcNamed "lexicon/lexiconlaw16.MaskNames" = some 3 by kernel_rfl).symm.trans hf) |>.symm
      obtain rfl : fn = Tryd.f3 := (Option.some.inj (Tryd.func3.symm.trans hfn)).symm
      exact ⟨by kernel_rfl, fun j t ht => by
        rw [Tryd.params3] at ht
        simp at ht⟩)
    (by kernel_rfl)
#print axioms maskNames_holds
end Go.Proofs.YtibdeeejjbmgcaaDoor
