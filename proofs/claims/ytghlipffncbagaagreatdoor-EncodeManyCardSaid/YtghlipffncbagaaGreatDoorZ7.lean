/- The logic L (of no program), and plain laws: texts put together; no conditions. -/
import Derived.Test.YtghlipffncbagaaGreatDoorZ5
import Derived.KernelRfl
namespace Go.Proofs.YtghlipffncbagaaGreatDoor
open Go.L
set_option maxRecDepth 100000
theorem part3 (P : Go.Program) : isSm S3 ((xMS P (hbOf Codes) Codes 1000 [S2, S1] 60).call S3.f S3.args S3.h) = true := by kernel_rfl
theorem part4 (P : Go.Program) : isSm S4 ((xMS P (hbOf Codes) Codes 1000 [S3, S2, S1] 60).call S4.f S4.args S4.h) = true := by kernel_rfl
end Go.Proofs.YtghlipffncbagaaGreatDoor
