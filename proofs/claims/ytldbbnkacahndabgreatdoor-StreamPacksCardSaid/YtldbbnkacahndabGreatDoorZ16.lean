/- Contracts of functions of the given program, in the logic L: texts put together; no conditions. -/
import Derived.Test.YtldbbnkacahndabGreatDoorZ4
import Derived.Test.YtldbbnkacahndabGreatDoorProg
import Derived.KernelRfl
namespace Go.Proofs.YtldbbnkacahndabGreatDoor
open Go.L
theorem G_q401 : GoodFC Tryz.prog F_q401 T_q401 := ⟨_, [2, 0, 1, 0, 1], Tryz.func401, Tryz.ntmps401, by kernel_rfl, by kernel_rfl⟩
theorem G_q402 : GoodFC Tryz.prog F_q402 T_q402 := ⟨_, [1, 1], Tryz.func402, Tryz.ntmps402, by kernel_rfl, by kernel_rfl⟩
theorem G_q403 : GoodFC Tryz.prog F_q403 T_q403 := ⟨_, [1, 2], Tryz.func403, Tryz.ntmps403, by kernel_rfl, by kernel_rfl⟩
theorem G_q404 : GoodFC Tryz.prog F_q404 T_q404 := ⟨_, [], Tryz.func404, Tryz.ntmps404, by kernel_rfl, by kernel_rfl⟩
theorem G_q405 : GoodFC Tryz.prog F_q405 T_q405 := ⟨_, [1, 2], Tryz.func405, Tryz.ntmps405, by kernel_rfl, by kernel_rfl⟩
theorem G_q406 : GoodFC Tryz.prog F_q406 T_q406 := ⟨_, [], Tryz.func406, Tryz.ntmps406, by kernel_rfl, by kernel_rfl⟩
theorem G_q417 : GoodFC Tryz.prog F_q417 T_q417 := ⟨_, [1, 0], Tryz.func417, Tryz.ntmps417, by kernel_rfl, by kernel_rfl⟩
theorem G_q419 : GoodFC Tryz.prog F_q419 T_q419 := ⟨_, [2, 2, 3, 3], Tryz.func419, Tryz.ntmps419, by kernel_rfl, by kernel_rfl⟩
theorem G_q427 : GoodFC Tryz.prog F_q427 T_q427 := ⟨_, [2, 3], Tryz.func427, Tryz.ntmps427, by kernel_rfl, by kernel_rfl⟩
end Go.Proofs.YtldbbnkacahndabGreatDoor
