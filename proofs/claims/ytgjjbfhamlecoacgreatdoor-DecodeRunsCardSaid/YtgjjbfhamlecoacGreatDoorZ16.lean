/- Contracts of functions of the given program, in the logic L: texts put together; no conditions. -/
import Derived.Test.YtgjjbfhamlecoacGreatDoorProg
import Derived.Test.YtgjjbfhamlecoacGreatDoorRows
import Derived.JoinedOf
import Derived.KernelRfl
namespace Go.Proofs.YtgjjbfhamlecoacGreatDoor
set_option maxRecDepth 100000
theorem jA : (Rows.decodeRunsRow.inPlace == Tryz.pinned.checked.prog.inPlace 3) = true := by kernel_rfl
theorem jB : (Rows.decodeRunsRow.unfollowed == Tryz.pinned.checked.prog.unfollowed 3) = true := by kernel_rfl
theorem jC : (Rows.decodeRunsRow.recurses == Tryz.pinned.checked.prog.recurses 3) = true := by kernel_rfl
theorem jD : (Rows.decodeRunsRow.named == Tryz.pinned.checked.prog.varsNamed 3) = true := by kernel_rfl
theorem jE : joinedFacts Tryz.pinned.checked.prog 3 Tryz.f3 Rows.decodeRunsSpec Rows.decodeRunsRow = true := by
 unfold joinedFacts
 rw [jA, jB, jC, jD]
 kernel_rfl
end Go.Proofs.YtgjjbfhamlecoacGreatDoor
