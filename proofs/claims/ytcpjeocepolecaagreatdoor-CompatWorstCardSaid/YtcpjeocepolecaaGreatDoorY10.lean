/- Contracts of functions of the given program, in the logic L: texts put together; no conditions. -/
import Derived.Test.YtcpjeocepolecaaGreatDoorY5
import Derived.KernelRfl
import Derived.Test.YtcpjeocepolecaaGreatDoorProg
/- Each such call, computed by the kernel (of whatever program has these codes), the earlier ones looked up. Printed by program (gen_parts.py). -/
namespace Go.Proofs.YtcpjeocepolecaaGreatDoor
open Go.L
set_option maxRecDepth 100000
theorem part5 (_ : Go.Program) : isSm S5 ((xMS Tryz.prog (hbOf Codes) Codes 1000 [S4, S3, S2, S1] 60).call S5.f S5.args S5.h) = true := by kernel_rfl
end Go.Proofs.YtcpjeocepolecaaGreatDoor
