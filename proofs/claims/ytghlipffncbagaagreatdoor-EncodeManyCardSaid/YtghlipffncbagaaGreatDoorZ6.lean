/- The logic L (of no program), and plain laws: texts put together; no conditions. -/
import Derived.Test.YtghlipffncbagaaGreatDoorZ5
import Derived.KernelRfl
namespace Go.Proofs.YtghlipffncbagaaGreatDoor
open Go.L
set_option maxRecDepth 100000
theorem part1 (P : Go.Program) : isSm S1 ((xMS P (hbOf Codes) Codes 1000 [] 60).call S1.f S1.args S1.h) = true := by kernel_rfl
theorem part2 (P : Go.Program) : isSm S2 ((xMS P (hbOf Codes) Codes 1000 [S1] 60).call S2.f S2.args S2.h) = true := by kernel_rfl
end Go.Proofs.YtghlipffncbagaaGreatDoor
