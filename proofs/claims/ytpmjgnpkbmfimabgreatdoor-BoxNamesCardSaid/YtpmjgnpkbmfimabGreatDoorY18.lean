/- Contracts of functions of the given program, in the logic L: texts put together; no conditions. -/
import Derived.Test.YtpmjgnpkbmfimabGreatDoorProg
import Derived.Test.YtpmjgnpkbmfimabGreatDoorRows
import Derived.SevenTiedAt
import Derived.KernelRfl
/- A closed fact of the row of BoxNames, by the kernel; no conditions. -/
namespace Go.Proofs.YtpmjgnpkbmfimabGreatDoor
set_option maxRecDepth 100000
theorem kG : false = Rows.boxNamesRow.goesBy Tryz.pinned.checked.prog := by kernel_rfl
end Go.Proofs.YtpmjgnpkbmfimabGreatDoor
