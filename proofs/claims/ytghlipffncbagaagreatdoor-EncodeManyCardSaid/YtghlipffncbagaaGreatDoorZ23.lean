/- Contracts of functions of the given program, in the logic L: texts put together; no conditions. -/
import Derived.Test.YtghlipffncbagaaGreatDoorProg
import Derived.Test.YtghlipffncbagaaGreatDoorRows
import Derived.JoinedOf
import Derived.KernelRfl
namespace Go.Proofs.YtghlipffncbagaaGreatDoor
set_option maxRecDepth 100000
theorem jA : (Rows.encodeManyRow.inPlace == Tryz.pinned.checked.prog.inPlace 3) = true := by kernel_rfl
theorem jB : (Rows.encodeManyRow.unfollowed == Tryz.pinned.checked.prog.unfollowed 3) = true := by kernel_rfl
theorem jC : (Rows.encodeManyRow.recurses == Tryz.pinned.checked.prog.recurses 3) = true := by kernel_rfl
theorem jD : (Rows.encodeManyRow.named == Tryz.pinned.checked.prog.varsNamed 3) = true := by kernel_rfl
theorem jE : joinedFacts Tryz.pinned.checked.prog 3 Tryz.f3 Rows.encodeManySpec Rows.encodeManyRow = true := by
 unfold joinedFacts
 rw [jA, jB, jC, jD]
 kernel_rfl
end Go.Proofs.YtghlipffncbagaaGreatDoor
