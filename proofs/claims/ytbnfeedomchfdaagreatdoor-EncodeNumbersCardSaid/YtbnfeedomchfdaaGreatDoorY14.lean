/- Contracts of functions of the given program, in the logic L: texts put together; no conditions. -/
import Derived.Test.YtbnfeedomchfdaaGreatDoorProg
import Derived.Test.YtbnfeedomchfdaaGreatDoorRows
import Derived.JoinedOf
import Derived.KernelRfl
/- The row's closed facts, each by the kernel. Printed by program (gen_all.py). -/
namespace Go.Proofs.YtbnfeedomchfdaaGreatDoor
set_option maxRecDepth 100000
theorem jA : (Rows.encodeNumbersRow.inPlace == Tryz.pinned.checked.prog.inPlace 3) = true := by kernel_rfl
theorem jB : (Rows.encodeNumbersRow.unfollowed == Tryz.pinned.checked.prog.unfollowed 3) = true := by kernel_rfl
theorem jC : (Rows.encodeNumbersRow.recurses == Tryz.pinned.checked.prog.recurses 3) = true := by kernel_rfl
theorem jD : (Rows.encodeNumbersRow.named == Tryz.pinned.checked.prog.varsNamed 3) = true := by kernel_rfl
theorem jE : joinedFacts Tryz.pinned.checked.prog 3 Tryz.f3 Rows.encodeNumbersSpec Rows.encodeNumbersRow = true := by
  unfold joinedFacts
  rw [jA, jB, jC, jD]
  kernel_rfl
end Go.Proofs.YtbnfeedomchfdaaGreatDoor
