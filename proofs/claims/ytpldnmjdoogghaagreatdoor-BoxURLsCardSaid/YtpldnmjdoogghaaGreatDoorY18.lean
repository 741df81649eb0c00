/- Contracts of functions of the given program, in the logic L: texts put together; no conditions. -/
import Derived.Test.YtpldnmjdoogghaaGreatDoorProg
import Derived.Test.YtpldnmjdoogghaaGreatDoorRows
import Derived.JoinedOf
import Derived.KernelRfl
/- The row's closed facts, each by the kernel. Printed by program (gen_all.py). -/
namespace Go.Proofs.YtpldnmjdoogghaaGreatDoor
set_option maxRecDepth 100000
theorem jA : (Rows.boxURLsRow.inPlace == Tryz.pinned.checked.prog.inPlace 3) = true := by kernel_rfl
theorem jB : (Rows.boxURLsRow.unfollowed == Tryz.pinned.checked.prog.unfollowed 3) = true := by kernel_rfl
theorem jC : (Rows.boxURLsRow.recurses == Tryz.pinned.checked.prog.recurses 3) = true := by kernel_rfl
theorem jD : (Rows.boxURLsRow.named == Tryz.pinned.checked.prog.varsNamed 3) = true := by kernel_rfl
theorem jE : joinedFacts Tryz.pinned.checked.prog 3 Tryz.f3 Rows.boxURLsSpec Rows.boxURLsRow = true := by
  unfold joinedFacts
  rw [jA, jB, jC, jD]
  kernel_rfl
end Go.Proofs.YtpldnmjdoogghaaGreatDoor
