/- Contracts of functions of the given program, in the logic L: texts put together; no conditions. -/
import Derived.Test.YtpldnmjdoogghaaGreatDoorProg
import Derived.Test.YtpldnmjdoogghaaGreatDoorRows
import Derived.SevenTiedAt
import Derived.KernelRfl
/- A closed fact of the row of BoxURLs, by the kernel; no conditions. -/
namespace Go.Proofs.YtpldnmjdoogghaaGreatDoor
set_option maxRecDepth 100000
theorem kG : false = Rows.boxURLsRow.goesBy Tryz.pinned.checked.prog := by kernel_rfl
end Go.Proofs.YtpldnmjdoogghaaGreatDoor
