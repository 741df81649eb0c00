/- The logic L (of no program), and plain laws: texts put together; no conditions. -/
import Derived.Test.YtghlipffncbagaaGreatDoorZ5
import Derived.KernelRfl
namespace Go.Proofs.YtghlipffncbagaaGreatDoor
open Go.L
set_option maxRecDepth 100000
end Go.Proofs.YtghlipffncbagaaGreatDoor
