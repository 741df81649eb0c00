/- The logic L (of no program), and plain laws: texts put together; no conditions. -/
import Derived.Test.YtghlipffncbagaaGreatDoorZ5
import Derived.KernelRfl
namespace Go.Proofs.YtghlipffncbagaaGreatDoor
open Go.L
set_option maxRecDepth 100000
theorem part13 (P : Go.Program) : isSm S13 ((xMS P (hbOf Codes) Codes 1000 [S12, S11, S10, S9, S8, S7, S6, S5, S4, S3, S2, S1] 60).call S13.f S13.args S13.h) = true := by kernel_rfl
end Go.Proofs.YtghlipffncbagaaGreatDoor
