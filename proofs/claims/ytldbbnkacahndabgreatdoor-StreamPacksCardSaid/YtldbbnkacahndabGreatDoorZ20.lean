/- Contracts of functions of the given program, in the logic L: texts put together; no conditions. -/
import Derived.Test.YtldbbnkacahndabGreatDoorProg
import Derived.Test.YtldbbnkacahndabGreatDoorRows
import Derived.SevenTiedAt
import Derived.KernelRfl
namespace Go.Proofs.YtldbbnkacahndabGreatDoor
set_option maxRecDepth 100000
theorem kG : false = Rows.streamPacksRow.goesBy Tryz.pinned.checked.prog := by kernel_rfl
end Go.Proofs.YtldbbnkacahndabGreatDoor
