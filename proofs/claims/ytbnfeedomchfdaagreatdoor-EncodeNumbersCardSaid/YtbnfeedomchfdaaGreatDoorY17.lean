/- Contracts of functions of the given program, in the logic L: texts put together; no conditions. -/
import Derived.Test.YtbnfeedomchfdaaGreatDoorProg
import Derived.Test.YtbnfeedomchfdaaGreatDoorRows
import Derived.SevenTiedAt
import Derived.KernelRfl
/- A closed fact of the row of EncodeNumbers, by the kernel; no conditions. -/
namespace Go.Proofs.YtbnfeedomchfdaaGreatDoor
set_option maxRecDepth 100000
theorem kG : false = Rows.encodeNumbersRow.goesBy Tryz.pinned.checked.prog := by kernel_rfl
end Go.Proofs.YtbnfeedomchfdaaGreatDoor
