/- Contracts of functions of the given program, in the logic L: texts put together; no conditions. -/
import Derived.Test.YtcpjeocepolecaaGreatDoorProg
import Derived.Test.YtcpjeocepolecaaGreatDoorRows
import Derived.JoinedOf
import Derived.KernelRfl
/- The row's closed facts, each by the kernel. Printed by program (gen_all.py). -/
namespace Go.Proofs.YtcpjeocepolecaaGreatDoor
set_option maxRecDepth 100000
theorem jA : (Rows.compatWorstRow.inPlace == Tryz.pinned.checked.prog.inPlace 4) = true := by kernel_rfl
theorem jB : (Rows.compatWorstRow.unfollowed == Tryz.pinned.checked.prog.unfollowed 4) = true := by kernel_rfl
theorem jC : (Rows.compatWorstRow.recurses == Tryz.pinned.checked.prog.recurses 4) = true := by kernel_rfl
theorem jD : (Rows.compatWorstRow.named == Tryz.pinned.checked.prog.varsNamed 4) = true := by kernel_rfl
theorem jE : joinedFacts Tryz.pinned.checked.prog 4 Tryz.f4 Rows.compatWorstSpec Rows.compatWorstRow = true := by
  unfold joinedFacts
  rw [jA, jB, jC, jD]
  kernel_rfl
end Go.Proofs.YtcpjeocepolecaaGreatDoor
