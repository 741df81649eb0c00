/- Contracts of functions of the given program, in the logic L: texts put together; no conditions. -/
import Derived.Test.YtpmjgnpkbmfimaaGreatDoorY5
import Derived.Test.YtpmjgnpkbmfimaaGreatDoorProg
import Derived.KernelRfl
/- Each code is what the logic makes of the given program (by the kernel). Printed by program (gen_all.py). -/
namespace Go.Proofs.YtpmjgnpkbmfimaaGreatDoor
open Go.L
theorem C_q364 : cutF [2, 0, 1, 0, 1] (compF Tryz.prog Tryz.f364) = some (A_q364, R_q364) := by kernel_rfl
theorem G_q364 : GoodFC Tryz.prog F_q364 T_q364 := ⟨Tryz.f364, [2, 0, 1, 0, 1], Tryz.func364, Tryz.ntmps364, C_q364, by kernel_rfl⟩
theorem C_q365 : cutF [1, 1] (compF Tryz.prog Tryz.f365) = some (A_q365, R_q365) := by kernel_rfl
theorem G_q365 : GoodFC Tryz.prog F_q365 T_q365 := ⟨Tryz.f365, [1, 1], Tryz.func365, Tryz.ntmps365, C_q365, by kernel_rfl⟩
theorem C_q366 : cutF [1, 2] (compF Tryz.prog Tryz.f366) = some (A_q366, R_q366) := by kernel_rfl
theorem G_q366 : GoodFC Tryz.prog F_q366 T_q366 := ⟨Tryz.f366, [1, 2], Tryz.func366, Tryz.ntmps366, C_q366, by kernel_rfl⟩
theorem C_q367 : cutF [] (compF Tryz.prog Tryz.f367) = some (A_q367, R_q367) := by kernel_rfl
theorem G_q367 : GoodFC Tryz.prog F_q367 T_q367 := ⟨Tryz.f367, [], Tryz.func367, Tryz.ntmps367, C_q367, by kernel_rfl⟩
theorem C_q368 : cutF [1, 2] (compF Tryz.prog Tryz.f368) = some (A_q368, R_q368) := by kernel_rfl
theorem G_q368 : GoodFC Tryz.prog F_q368 T_q368 := ⟨Tryz.f368, [1, 2], Tryz.func368, Tryz.ntmps368, C_q368, by kernel_rfl⟩
theorem C_q369 : cutF [] (compF Tryz.prog Tryz.f369) = some (A_q369, R_q369) := by kernel_rfl
theorem G_q369 : GoodFC Tryz.prog F_q369 T_q369 := ⟨Tryz.f369, [], Tryz.func369, Tryz.ntmps369, C_q369, by kernel_rfl⟩
theorem C_q380 : cutF [1, 0] (compF Tryz.prog Tryz.f380) = some (A_q380, R_q380) := by kernel_rfl
theorem G_q380 : GoodFC Tryz.prog F_q380 T_q380 := ⟨Tryz.f380, [1, 0], Tryz.func380, Tryz.ntmps380, C_q380, by kernel_rfl⟩
theorem C_q382 : cutF [2, 2, 3, 3] (compF Tryz.prog Tryz.f382) = some (A_q382, R_q382) := by kernel_rfl
theorem G_q382 : GoodFC Tryz.prog F_q382 T_q382 := ⟨Tryz.f382, [2, 2, 3, 3], Tryz.func382, Tryz.ntmps382, C_q382, by kernel_rfl⟩
theorem C_q390 : cutF [2, 3] (compF Tryz.prog Tryz.f390) = some (A_q390, R_q390) := by kernel_rfl
theorem G_q390 : GoodFC Tryz.prog F_q390 T_q390 := ⟨Tryz.f390, [2, 3], Tryz.func390, Tryz.ntmps390, C_q390, by kernel_rfl⟩
end Go.Proofs.YtpmjgnpkbmfimaaGreatDoor
