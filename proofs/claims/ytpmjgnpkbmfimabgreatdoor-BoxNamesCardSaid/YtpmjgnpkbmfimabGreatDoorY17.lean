/- Contracts of functions of the given program, in the logic L: texts put together; no conditions. -/
import Derived.Test.YtpmjgnpkbmfimabGreatDoorY3
import Derived.Test.YtpmjgnpkbmfimabGreatDoorY14
import Derived.Test.YtpmjgnpkbmfimabGreatDoorY11
import Derived.Test.YtpmjgnpkbmfimabGreatDoorY15
import Derived.Test.YtpmjgnpkbmfimabGreatDoorRows
import Derived.Test.YtpmjgnpkbmfimabGreatDoorTie
import Derived.Test.YtpmjgnpkbmfimabGreatDoorCards
import Derived.Test.YtpmjgnpkbmfimabGreatDoorY16
import Derived.OpenShut
import Derived.LaidMore
import Derived.Lay
import Derived.LaidOnce
import Derived.SevenTiedAt
/- The row of BoxNames holds; no conditions. -/
namespace Go.Proofs.YtpmjgnpkbmfimabGreatDoor
open Go.L Go.ChangeShapes Go.WideShapes Go.ChangeAt Go.RowKit

set_option maxRecDepth 100000 in
theorem boxNames_run : PureL Tryz.prog F_lexiconlaw13_BoxNames [] (.bool true) := lawRun codes_ok

theorem boxNames_calls (W : World) : Calls Tryz.prog F_lexiconlaw13_BoxNames #[] W fun e W' => e = .returned (.bool true) ∧ Below W.heap.size W W' :=
  CallL.law ((boxNames_run _).mono fun _ _ h => h.1) .nil

theorem boxNames_own : ownKnob Tryz.prog.godebug = none := by kernel_rfl

set_option maxRecDepth 100000 in
theorem boxNames_lifted (os : Os) (started : os.Started) (H : Type) (enc : TypeId × Value → H) :
    ReturnsInHanded {} Tryz.checked os 3 .any (fun w args => (Rows.boxNamesSpec.pre enc Tryz.prog Tryz.f3 [] false w args ∧ laidMetH Tryz.prog Rows.boxNamesRow.laid w) ∧ sizedMet enc Tryz.prog Tryz.f3 (OpenSpec.ofChange Rows.boxNamesSpec) false w args)
      (Rows.boxNamesSpec.post enc Tryz.prog Tryz.f3 false true false false) := by
  refine returnsInHanded_of_change_and (C := Tryz.checked) (X := fun w _ => laidMetH Tryz.prog Rows.boxNamesRow.laid w) (fun _ _ _ hh h => h.of_heap hh) boxNames_own started (by kernel_rfl) Tryz.func3
    (ChangeSpec.witness_shaped (enc := enc) (C := Tryz.checked) (os := os) (X := fun w _ => laidMetH Tryz.prog Rows.boxNamesRow.laid w) false (World.laidAll Tryz.prog os Rows.boxNamesRow.laid) #[] 8 (World.laidAll_os _ _ _)
      (World.shaped_of_ZipB (by kernel_rfl) (by kernel_rfl)) (by kernel_rfl) (by kernel_rfl) (by kernel_rfl)
      (by rw [MakeChecks.laidMetH_plain _ _ _ (by kernel_rfl)]; exact laidMet_laidAll _ (by kernel_rfl) (by kernel_rfl))) ?_
  intro W base args ds gs before hval0 hW _ _ _ _
  have hW' := hW
  obtain ⟨p, q, hA0, hV, rfl, _, _⟩ := hW
  have hA : DataW.TrodAll enc Tryz.prog W 0 (fun _ => true) true Tryz.f3.params.toList args.toList ds p := hA0
  rw [Tryz.params3] at hA
  obtain ⟨hargs, rfl, rfl⟩ := trodAll_none hA
  obtain ⟨rfl, rfl⟩ := trodVars_none hV
  obtain rfl : args = #[] := by simpa using hargs
  refine (boxNames_calls W).mono fun e W' ⟨he, hb⟩ => ?_
  subst he
  exact ⟨_, rfl, _, _, _, [], [], [], hW', trodAll_mk1 (shut_bool Tryz.underlying4 _), rfl, rfl, hb.frame _, fun h => by cases h⟩

theorem boxNames_row_holds : Rows.BoxNamesSaid := boxNames_row_of boxNames_lifted

end Go.Proofs.YtpmjgnpkbmfimabGreatDoor
