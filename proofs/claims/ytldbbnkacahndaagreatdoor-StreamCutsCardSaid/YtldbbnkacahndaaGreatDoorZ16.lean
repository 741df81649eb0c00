/- Contracts of functions of the given program, in the logic L: texts put together; no conditions. -/
import Derived.Test.YtldbbnkacahndaaGreatDoorZ4
import Derived.Test.YtldbbnkacahndaaGreatDoorProg
import Derived.KernelRfl
namespace Go.Proofs.YtldbbnkacahndaaGreatDoor
open Go.L
theorem jBT : zA Tryz.prog jEl qMP := ⟨_, [2, 0, 1, 0, 1], Tryz.func410, Tryz.ntmps410, by kernel_rfl, by kernel_rfl⟩
theorem jBS : zA Tryz.prog jEk qMO := ⟨_, [1, 1], Tryz.func411, Tryz.ntmps411, by kernel_rfl, by kernel_rfl⟩
theorem jBR : zA Tryz.prog jEj qMN := ⟨_, [1, 2], Tryz.func412, Tryz.ntmps412, by kernel_rfl, by kernel_rfl⟩
theorem jBQ : zA Tryz.prog jEi qMM := ⟨_, [], Tryz.func413, Tryz.ntmps413, by kernel_rfl, by kernel_rfl⟩
theorem jBP : zA Tryz.prog jEh qML := ⟨_, [1, 2], Tryz.func414, Tryz.ntmps414, by kernel_rfl, by kernel_rfl⟩
theorem jBO : zA Tryz.prog jEg qMK := ⟨_, [], Tryz.func415, Tryz.ntmps415, by kernel_rfl, by kernel_rfl⟩
theorem jBN : zA Tryz.prog jEf qMJ := ⟨_, [1, 0], Tryz.func426, Tryz.ntmps426, by kernel_rfl, by kernel_rfl⟩
theorem jBM : zA Tryz.prog jEe qMI := ⟨_, [2, 2, 3, 3], Tryz.func428, Tryz.ntmps428, by kernel_rfl, by kernel_rfl⟩
theorem jBL : zA Tryz.prog jEd qMH := ⟨_, [2, 3], Tryz.func436, Tryz.ntmps436, by kernel_rfl, by kernel_rfl⟩
end Go.Proofs.YtldbbnkacahndaaGreatDoor
