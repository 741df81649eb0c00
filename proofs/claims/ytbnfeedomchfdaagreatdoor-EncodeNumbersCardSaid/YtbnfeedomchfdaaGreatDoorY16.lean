/- Contracts of functions of the given program, in the logic L: texts put together; no conditions. -/
import Derived.Test.YtbnfeedomchfdaaGreatDoorY13
import Derived.Test.YtbnfeedomchfdaaGreatDoorY11
import Derived.Test.YtbnfeedomchfdaaGreatDoorY14
import Derived.Test.YtbnfeedomchfdaaGreatDoorY15
import Derived.Test.YtbnfeedomchfdaaGreatDoorY8
import Derived.Test.YtbnfeedomchfdaaGreatDoorRows
import Derived.Test.YtbnfeedomchfdaaGreatDoorTie
import Derived.Test.YtbnfeedomchfdaaGreatDoorCards
import Derived.OpenShut
import Derived.LaidMore
import Derived.Lay
import Derived.LaidOnce
import Derived.SevenTiedAt
/- The row of EncodeNumbers holds; no conditions. -/
namespace Go.Proofs.YtbnfeedomchfdaaGreatDoor
open Go.L Go.ChangeShapes Go.WideShapes Go.ChangeAt Go.RowKit

theorem encodeNumbers_calls (W : World) (hG : GlbW Tryz.prog W) : Calls Tryz.prog 3 #[] W fun e W' => e = .returned (.bool true) ∧ Below W.heap.size W W' :=
  CallL.law ((lawRun Hp.nil).mono fun _ _ h => h.1) hG .nil

theorem encodeNumbers_own : ownKnob Tryz.prog.godebug = none := by kernel_rfl

set_option maxRecDepth 100000 in
theorem encodeNumbers_lifted (os : Os) (started : os.Started) (H : Type) (enc : TypeId × Value → H) :
    ReturnsInHanded {} Tryz.checked os 3 .any (fun w args => (Rows.encodeNumbersSpec.pre enc Tryz.prog Tryz.f3 [] false w args ∧ laidMetH Tryz.prog Rows.encodeNumbersRow.laid w) ∧ sizedMet enc Tryz.prog Tryz.f3 (OpenSpec.ofChange Rows.encodeNumbersSpec) false w args)
      (Rows.encodeNumbersSpec.post enc Tryz.prog Tryz.f3 false true false false) := by
  refine returnsInHanded_of_change_and (C := Tryz.checked) (X := fun w _ => laidMetH Tryz.prog Rows.encodeNumbersRow.laid w) (fun _ _ _ hh h => h.of_heap hh) encodeNumbers_own started (by kernel_rfl) Tryz.func3
    (ChangeSpec.witness_shaped (enc := enc) (C := Tryz.checked) (os := os) (X := fun w _ => laidMetH Tryz.prog Rows.encodeNumbersRow.laid w) false (World.laidAll Tryz.prog os Rows.encodeNumbersRow.laid) #[] 8 (World.laidAll_os _ _ _)
      (World.shaped_of_ZipB (by kernel_rfl) (by kernel_rfl)) (by kernel_rfl) (by kernel_rfl) (by kernel_rfl)
      (by rw [MakeChecks.laidMetH_plain _ _ _ (by kernel_rfl)]; exact laidMet_laidAll _ (by kernel_rfl) (by kernel_rfl))) ?_
  intro W base args ds gs before hval0 hW _ _ hL _
  have hW' := hW
  obtain ⟨p, q, hA0, hV, rfl, _, _⟩ := hW
  have hA : DataW.TrodAll enc Tryz.prog W 0 (fun _ => true) true Tryz.f3.params.toList args.toList ds p := hA0
  rw [Tryz.params3] at hA
  obtain ⟨hargs, rfl, rfl⟩ := trodAll_none hA
  obtain ⟨rfl, rfl⟩ := trodVars_none hV
  obtain rfl : args = #[] := by simpa using hargs
  refine (encodeNumbers_calls W (glbW (MakeChecks.laidMetH_plain _ _ _ (by kernel_rfl)) (by simp [Rows.encodeNumbersRow]) (by simp [Rows.encodeNumbersRow]) hL)).mono fun e W' ⟨he, hb⟩ => ?_
  subst he
  exact ⟨_, rfl, _, _, _, [], [], [], hW', trodAll_mk1 (shut_bool Tryz.underlying4 _), rfl, rfl, hb.frame _, fun h => by cases h⟩

theorem encodeNumbers_row_holds : Rows.EncodeNumbersSaid :=
  OpenClaim.holds_of_wide 3 Tryz.f3 rfl rfl rfl rfl rfl rfl rfl ⟨rfl, rfl, rfl, rfl, rfl⟩ rfl rfl rfl rfl rfl (by kernel_rfl) Tryz.func3 jE
    (of_decide_eq_true (by kernel_rfl)) (by unfold Func.isWrapper; first | (rw [if_pos (by decide +kernel)]; kernel_rfl) | (rw [if_neg (by decide +kernel)]; exact ⟨rfl, rfl⟩))
    (fun os started H enc _ => encodeNumbers_lifted os started H enc)
end Go.Proofs.YtbnfeedomchfdaaGreatDoor
