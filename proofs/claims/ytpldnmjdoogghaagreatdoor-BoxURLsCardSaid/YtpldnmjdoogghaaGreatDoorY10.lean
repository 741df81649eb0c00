/- The logic L (of no program), and plain laws: texts put together; no conditions. -/
import Derived.Test.YtpldnmjdoogghaaGreatDoorY7
import Derived.KernelRfl
/- Each such call, computed by the kernel (of whatever program has these codes), the earlier ones looked up. Printed by program (gen_parts.py). -/
namespace Go.Proofs.YtpldnmjdoogghaaGreatDoor
open Go.L
set_option maxRecDepth 100000
theorem part7 (P : Go.Program) : isSm S7 ((xMS P (hbOf Codes) Codes 1000 [S6, S5, S4, S3, S2, S1] 60).call S7.f S7.args S7.h) = true := by kernel_rfl
theorem part8 (P : Go.Program) : isSm S8 ((xMS P (hbOf Codes) Codes 1000 [S7, S6, S5, S4, S3, S2, S1] 60).call S8.f S8.args S8.h) = true := by kernel_rfl
theorem part9 (P : Go.Program) : isSm S9 ((xMS P (hbOf Codes) Codes 1000 [S8, S7, S6, S5, S4, S3, S2, S1] 60).call S9.f S9.args S9.h) = true := by kernel_rfl
end Go.Proofs.YtpldnmjdoogghaaGreatDoor
