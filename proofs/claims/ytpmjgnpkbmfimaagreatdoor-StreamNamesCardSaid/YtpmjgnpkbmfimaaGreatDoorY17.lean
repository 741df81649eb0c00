/- Contracts of functions of the given program, in the logic L: texts put together; no conditions. -/
import Derived.Test.YtpmjgnpkbmfimaaGreatDoorY3
import Derived.Test.YtpmjgnpkbmfimaaGreatDoorY14
import Derived.Test.YtpmjgnpkbmfimaaGreatDoorY11
import Derived.Test.YtpmjgnpkbmfimaaGreatDoorY15
import Derived.Test.YtpmjgnpkbmfimaaGreatDoorRows
import Derived.Test.YtpmjgnpkbmfimaaGreatDoorTie
import Derived.Test.YtpmjgnpkbmfimaaGreatDoorCards
import Derived.Test.YtpmjgnpkbmfimaaGreatDoorY16
import Derived.OpenShut
import Derived.LaidMore
import Derived.Lay
import Derived.LaidOnce
import Derived.SevenTiedAt
/- The row of StreamNames holds; no conditions. -/
namespace Go.Proofs.YtpmjgnpkbmfimaaGreatDoor
open Go.L Go.ChangeShapes Go.WideShapes Go.ChangeAt Go.RowKit

set_option maxRecDepth 100000 in
theorem streamNames_run : PureL Tryz.prog F_lexiconlaw23_StreamNames [] (.bool true) := lawRun codes_ok

theorem streamNames_calls (W : World) : Calls Tryz.prog F_lexiconlaw23_StreamNames #[] W fun e W' => e = .returned (.bool true) ∧ Below W.heap.size W W' :=
  CallL.law ((streamNames_run _).mono fun _ _ h => h.1) .nil

theorem streamNames_own : ownKnob Tryz.prog.godebug = none := by kernel_rfl

set_option maxRecDepth 100000 in
theorem streamNames_lifted (os : Os) (started : os.Started) (H : Type) (enc : TypeId × Value → H) :
    ReturnsInHanded {} Tryz.checked os 3 .any (fun w args => (Rows.streamNamesSpec.pre enc Tryz.prog Tryz.f3 [] false w args ∧ laidMetH Tryz.prog Rows.streamNamesRow.laid w) ∧ sizedMet enc Tryz.prog Tryz.f3 (OpenSpec.ofChange Rows.streamNamesSpec) false w args)
      (Rows.streamNamesSpec.post enc Tryz.prog Tryz.f3 false true false false) := by
  refine returnsInHanded_of_change_and (C := Tryz.checked) (X := fun w _ => laidMetH Tryz.prog Rows.streamNamesRow.laid w) (fun _ _ _ hh h => h.of_heap hh) streamNames_own started (by kernel_rfl) Tryz.func3
    (ChangeSpec.witness_shaped (enc := enc) (C := Tryz.checked) (os := os) (X := fun w _ => laidMetH Tryz.prog Rows.streamNamesRow.laid w) false (World.laidAll Tryz.prog os Rows.streamNamesRow.laid) #[] 8 (World.laidAll_os _ _ _)
      (World.shaped_of_ZipB (by kernel_rfl) (by kernel_rfl)) (by kernel_rfl) (by kernel_rfl) (by kernel_rfl)
      (by rw [MakeChecks.laidMetH_plain _ _ _ (by kernel_rfl)]; exact laidMet_laidAll _ (by kernel_rfl) (by kernel_rfl))) ?_
  intro W base args ds gs before hval0 hW _ _ _ _
  have hW' := hW
  obtain ⟨p, q, hA0, hV, rfl, _, _⟩ := hW
  have hA : DataW.TrodAll enc Tryz.prog W 0 (fun _ => true) true Tryz.f3.params.toList args.toList ds p := hA0
  rw [Tryz.params3] at hA
  obtain ⟨hargs, rfl, rfl⟩ := trodAll_none hA
  obtain ⟨rfl, rfl⟩ := trodVars_none hV
  obtain rfl : args = #[] := by simpa using hargs
  refine (streamNames_calls W).mono fun e W' ⟨he, hb⟩ => ?_
  subst he
  exact ⟨_, rfl, _, _, _, [], [], [], hW', trodAll_mk1 (shut_bool Tryz.underlying4 _), rfl, rfl, hb.frame _, fun h => by cases h⟩

theorem streamNames_row_holds : Rows.StreamNamesSaid := streamNames_row_of streamNames_lifted

end Go.Proofs.YtpmjgnpkbmfimaaGreatDoor
