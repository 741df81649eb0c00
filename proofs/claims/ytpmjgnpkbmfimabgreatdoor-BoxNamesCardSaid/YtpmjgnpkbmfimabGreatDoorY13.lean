/- Contracts of functions of the given program, in the logic L: texts put together; no conditions. -/
import Derived.Test.YtpmjgnpkbmfimabGreatDoorY5
import Derived.Test.YtpmjgnpkbmfimabGreatDoorProg
import Derived.KernelRfl
/- Each code is what the logic makes of the given program (by the kernel). Printed by program (gen_all.py). -/
namespace Go.Proofs.YtpmjgnpkbmfimabGreatDoor
open Go.L
theorem C_q413 : cutF [2, 2, 3, 3] (compF Tryz.prog Tryz.f413) = some (A_q413, R_q413) := by kernel_rfl
theorem G_q413 : GoodFC Tryz.prog F_q413 T_q413 := ⟨Tryz.f413, [2, 2, 3, 3], Tryz.func413, Tryz.ntmps413, C_q413, by kernel_rfl⟩
theorem C_q421 : cutF [0, 2] (compF Tryz.prog Tryz.f421) = some (A_q421, R_q421) := by kernel_rfl
theorem G_q421 : GoodFC Tryz.prog F_q421 T_q421 := ⟨Tryz.f421, [0, 2], Tryz.func421, Tryz.ntmps421, C_q421, by kernel_rfl⟩
end Go.Proofs.YtpmjgnpkbmfimabGreatDoor
