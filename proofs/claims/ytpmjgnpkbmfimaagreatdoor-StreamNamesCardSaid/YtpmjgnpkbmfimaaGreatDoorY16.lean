/- Contracts of functions of the given program, in the logic L: texts put together; no conditions. -/
import Derived.Test.YtpmjgnpkbmfimaaGreatDoorY15
import Derived.Test.YtpmjgnpkbmfimaaGreatDoorRows
import Derived.Test.YtpmjgnpkbmfimaaGreatDoorTie
import Derived.Test.YtpmjgnpkbmfimaaGreatDoorCards
import Derived.OpenShut
import Derived.LaidMore
import Derived.Lay
import Derived.LaidOnce
import Derived.SevenTiedAt
import Derived.ChangeAt
/- The row of StreamNames, out of what its call does: its closed facts; no conditions. -/
namespace Go.Proofs.YtpmjgnpkbmfimaaGreatDoor
open Go.ChangeShapes Go.WideShapes Go.ChangeAt Go.RowKit

theorem streamNames_row_of (hl : ∀ (os : Os) (_ : os.Started) (H : Type) (enc : TypeId × Value → H),
    ReturnsInHanded {} Tryz.checked os 3 .any (fun w args => (Rows.streamNamesSpec.pre enc Tryz.prog Tryz.f3 [] false w args ∧ laidMetH Tryz.prog Rows.streamNamesRow.laid w) ∧ sizedMet enc Tryz.prog Tryz.f3 (OpenSpec.ofChange Rows.streamNamesSpec) false w args)
      (Rows.streamNamesSpec.post enc Tryz.prog Tryz.f3 false true false false)) : Rows.StreamNamesSaid :=
  OpenClaim.holds_of_wide 3 Tryz.f3 rfl rfl rfl rfl rfl rfl rfl ⟨rfl, rfl, rfl, rfl, rfl⟩ rfl rfl rfl rfl rfl (by kernel_rfl) Tryz.func3 jE
    (of_decide_eq_true (by kernel_rfl)) (by unfold Func.isWrapper; first | (rw [if_pos (by decide +kernel)]; kernel_rfl) | (rw [if_neg (by decide +kernel)]; exact ⟨rfl, rfl⟩))
    (fun os started H enc _ => hl os started H enc)

end Go.Proofs.YtpmjgnpkbmfimaaGreatDoor
