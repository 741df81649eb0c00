/- Contracts of functions of the given program, in the logic L: texts put together; no conditions. -/
import Derived.Test.YtcpjeocepolecaaGreatDoorY5
import Derived.KernelRfl
import Derived.Test.YtcpjeocepolecaaGreatDoorProg
/- Each such call, computed by the kernel (of whatever program has these codes), the earlier ones looked up. Printed by program (gen_parts.py). -/
namespace Go.Proofs.YtcpjeocepolecaaGreatDoor
open Go.L
set_option maxRecDepth 100000
theorem part3 (P : Go.Program) : isSm S3 ((xMS P (hbOf Codes) Codes 1000 [S2, S1] 60).call S3.f S3.args S3.h) = true := by kernel_rfl
end Go.Proofs.YtcpjeocepolecaaGreatDoor
