/- The logic L (of no program), and plain laws: texts put together; no conditions. -/
import Derived.Test.YtghlipffncbagaaGreatDoorZ5
import Derived.KernelRfl
namespace Go.Proofs.YtghlipffncbagaaGreatDoor
open Go.L
set_option maxRecDepth 100000
theorem part7 (P : Go.Program) : isSm S7 ((xMS P (hbOf Codes) Codes 1000 [S6, S5, S4, S3, S2, S1] 60).call S7.f S7.args S7.h) = true := by kernel_rfl
theorem part8 (P : Go.Program) : isSm S8 ((xMS P (hbOf Codes) Codes 1000 [S7, S6, S5, S4, S3, S2, S1] 60).call S8.f S8.args S8.h) = true := by kernel_rfl
end Go.Proofs.YtghlipffncbagaaGreatDoor
