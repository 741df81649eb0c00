/- The logic L (of no program), and plain laws: texts put together; no conditions. -/
import Derived.Test.YtldbbnkacahndaaGreatDoorZ5
import Derived.KernelRfl
namespace Go.Proofs.YtldbbnkacahndaaGreatDoor
open Go.L
set_option maxRecDepth 100000
theorem jLU (P : Go.Program) : isSm S9 ((xMS P (hbOf zCA) zCA 1000 [S8, S7, S6, S5, S4, S3, S2, S1] 60).call S9.f S9.args S9.h) = true := by kernel_rfl
theorem qYv (P : Go.Program) : isSm S10 ((xMS P (hbOf zCA) zCA 1000 [S9, S8, S7, S6, S5, S4, S3, S2, S1] 60).call S10.f S10.args S10.h) = true := by kernel_rfl
end Go.Proofs.YtldbbnkacahndaaGreatDoor
