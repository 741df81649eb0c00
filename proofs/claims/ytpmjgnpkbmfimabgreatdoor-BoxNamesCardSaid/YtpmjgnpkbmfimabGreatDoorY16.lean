/- Contracts of functions of the given program, in the logic L: texts put together; no conditions. -/
import Derived.Test.YtpmjgnpkbmfimabGreatDoorY15
import Derived.Test.YtpmjgnpkbmfimabGreatDoorRows
import Derived.Test.YtpmjgnpkbmfimabGreatDoorTie
import Derived.Test.YtpmjgnpkbmfimabGreatDoorCards
import Derived.OpenShut
import Derived.LaidMore
import Derived.Lay
import Derived.LaidOnce
import Derived.SevenTiedAt
import Derived.ChangeAt
/- The row of BoxNames, out of what its call does: its closed facts; no conditions. -/
namespace Go.Proofs.YtpmjgnpkbmfimabGreatDoor
open Go.ChangeShapes Go.WideShapes Go.ChangeAt Go.RowKit

theorem boxNames_row_of (hl : ∀ (os : Os) (_ : os.Started) (H : Type) (enc : TypeId × Value → H),
    ReturnsInHanded {} Tryz.checked os 3 .any (fun w args => (Rows.boxNamesSpec.pre enc Tryz.prog Tryz.f3 [] false w args ∧ laidMetH Tryz.prog Rows.boxNamesRow.laid w) ∧ sizedMet enc Tryz.prog Tryz.f3 (OpenSpec.ofChange Rows.boxNamesSpec) false w args)
      (Rows.boxNamesSpec.post enc Tryz.prog Tryz.f3 false true false false)) : Rows.BoxNamesSaid :=
  OpenClaim.holds_of_wide 3 Tryz.f3 rfl rfl rfl rfl rfl rfl rfl ⟨rfl, rfl, rfl, rfl, rfl⟩ rfl rfl rfl rfl rfl (by kernel_rfl) Tryz.func3 jE
    (of_decide_eq_true (by kernel_rfl)) (by unfold Func.isWrapper; first | (rw [if_pos (by decide +kernel)]; kernel_rfl) | (rw [if_neg (by decide +kernel)]; exact ⟨rfl, rfl⟩))
    (fun os started H enc _ => hl os started H enc)

end Go.Proofs.YtpmjgnpkbmfimabGreatDoor
