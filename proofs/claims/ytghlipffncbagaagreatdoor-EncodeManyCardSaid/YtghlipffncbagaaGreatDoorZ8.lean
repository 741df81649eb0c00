/- The logic L (of no program), and plain laws: texts put together; no conditions. -/
import Derived.Test.YtghlipffncbagaaGreatDoorZ5
import Derived.KernelRfl
namespace Go.Proofs.YtghlipffncbagaaGreatDoor
open Go.L
set_option maxRecDepth 100000
theorem part5 (P : Go.Program) : isSm S5 ((xMS P (hbOf Codes) Codes 1000 [S4, S3, S2, S1] 60).call S5.f S5.args S5.h) = true := by kernel_rfl
theorem part6 (P : Go.Program) : isSm S6 ((xMS P (hbOf Codes) Codes 1000 [S5, S4, S3, S2, S1] 60).call S6.f S6.args S6.h) = true := by kernel_rfl
end Go.Proofs.YtghlipffncbagaaGreatDoor
