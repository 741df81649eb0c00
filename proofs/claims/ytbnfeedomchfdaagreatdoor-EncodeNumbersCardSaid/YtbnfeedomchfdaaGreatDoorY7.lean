/- The logic L (of no program), and plain laws: texts put together; no conditions. -/
import Derived.Test.YtbnfeedomchfdaaGreatDoorY6
import Derived.KernelRfl
/- Each such call, computed by the kernel (of whatever program has these codes), the earlier ones looked up. Printed by program (gen_parts.py). -/
namespace Go.Proofs.YtbnfeedomchfdaaGreatDoor
open Go.L
set_option maxRecDepth 100000
theorem part5 (P : Go.Program) : isSm S5 ((xMS P (hbOf Codes) Codes 1000 [S4, S3, S2, S1] 60).call S5.f S5.args S5.h) = true := by kernel_rfl
end Go.Proofs.YtbnfeedomchfdaaGreatDoor
