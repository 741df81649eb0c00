/- Contracts of functions of the given program, in the logic L: texts put together; no conditions. -/
import Derived.Test.YtgjjbfhamlecoabGreatDoorProg
import Derived.Test.YtgjjbfhamlecoabGreatDoorRows
import Derived.JoinedOf
import Derived.KernelRfl
namespace Go.Proofs.YtgjjbfhamlecoabGreatDoor
set_option maxRecDepth 100000
theorem jA : (Rows.decodeLostRow.inPlace == Tryz.pinned.checked.prog.inPlace 3) = true := by kernel_rfl
theorem jB : (Rows.decodeLostRow.unfollowed == Tryz.pinned.checked.prog.unfollowed 3) = true := by kernel_rfl
theorem jC : (Rows.decodeLostRow.recurses == Tryz.pinned.checked.prog.recurses 3) = true := by kernel_rfl
theorem jD : (Rows.decodeLostRow.named == Tryz.pinned.checked.prog.varsNamed 3) = true := by kernel_rfl
theorem jE : joinedFacts Tryz.pinned.checked.prog 3 Tryz.f3 Rows.decodeLostSpec Rows.decodeLostRow = true := by
 unfold joinedFacts
 rw [jA, jB, jC, jD]
 kernel_rfl
end Go.Proofs.YtgjjbfhamlecoabGreatDoor
