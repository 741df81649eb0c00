/- The logic L (of no program), and plain laws: texts put together; no conditions. -/
import Derived.Test.YtpldnmjdoogghaaGreatDoorY7
import Derived.KernelRfl
/- Each such call, computed by the kernel (of whatever program has these codes), the earlier ones looked up. Printed by program (gen_parts.py). -/
namespace Go.Proofs.YtpldnmjdoogghaaGreatDoor
open Go.L
set_option maxRecDepth 100000
theorem part10 (P : Go.Program) : isSm S10 ((xMS P (hbOf Codes) Codes 1000 [S9, S8, S7, S6, S5, S4, S3, S2, S1] 60).call S10.f S10.args S10.h) = true := by kernel_rfl
theorem part11 (P : Go.Program) : isSm S11 ((xMS P (hbOf Codes) Codes 1000 [S10, S9, S8, S7, S6, S5, S4, S3, S2, S1] 60).call S11.f S11.args S11.h) = true := by kernel_rfl
end Go.Proofs.YtpldnmjdoogghaaGreatDoor
