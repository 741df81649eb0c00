/- Contracts of functions of the given program, in the logic L: texts put together; no conditions. -/
import Derived.Test.YtpmjgnpkbmfimaaGreatDoorProg
import Derived.Test.YtpmjgnpkbmfimaaGreatDoorRows
import Derived.SevenTiedAt
import Derived.KernelRfl
/- A closed fact of the row of StreamNames, by the kernel; no conditions. -/
namespace Go.Proofs.YtpmjgnpkbmfimaaGreatDoor
set_option maxRecDepth 100000
theorem kG : false = Rows.streamNamesRow.goesBy Tryz.pinned.checked.prog := by kernel_rfl
end Go.Proofs.YtpmjgnpkbmfimaaGreatDoor
