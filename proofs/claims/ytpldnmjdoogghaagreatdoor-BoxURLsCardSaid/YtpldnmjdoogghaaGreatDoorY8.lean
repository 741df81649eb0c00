/- The logic L (of no program), and plain laws: texts put together; no conditions. -/
import Derived.Test.YtpldnmjdoogghaaGreatDoorY7
import Derived.KernelRfl
/- Each such call, computed by the kernel (of whatever program has these codes), the earlier ones looked up. Printed by program (gen_parts.py). -/
namespace Go.Proofs.YtpldnmjdoogghaaGreatDoor
open Go.L
set_option maxRecDepth 100000
theorem part1 (P : Go.Program) : isSm S1 ((xMS P (hbOf Codes) Codes 1000 [] 60).call S1.f S1.args S1.h) = true := by kernel_rfl
theorem part2 (P : Go.Program) : isSm S2 ((xMS P (hbOf Codes) Codes 1000 [S1] 60).call S2.f S2.args S2.h) = true := by kernel_rfl
theorem part3 (P : Go.Program) : isSm S3 ((xMS P (hbOf Codes) Codes 1000 [S2, S1] 60).call S3.f S3.args S3.h) = true := by kernel_rfl
end Go.Proofs.YtpldnmjdoogghaaGreatDoor
