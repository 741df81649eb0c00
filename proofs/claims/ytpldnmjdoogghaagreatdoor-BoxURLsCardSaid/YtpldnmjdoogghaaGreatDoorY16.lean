/- Contracts of functions of the given program, in the logic L: texts put together; no conditions. -/
import Derived.Test.YtpldnmjdoogghaaGreatDoorY5
import Derived.Test.YtpldnmjdoogghaaGreatDoorProg
import Derived.KernelRfl
/- Each code is what the logic makes of the given program (by the kernel). Printed by program (gen_all.py). -/
namespace Go.Proofs.YtpldnmjdoogghaaGreatDoor
open Go.L
theorem C_lexiconlaw13_known : cutF [2] (compF Tryz.prog Tryz.f4) = some (A_lexiconlaw13_known, R_lexiconlaw13_known) := by kernel_rfl
theorem G_lexiconlaw13_known : GoodFC Tryz.prog F_lexiconlaw13_known T_lexiconlaw13_known := ⟨Tryz.f4, [2], Tryz.func4, Tryz.ntmps4, C_lexiconlaw13_known, by kernel_rfl⟩
theorem C_q5 : cutF [2] (compF Tryz.prog Tryz.f5) = some (A_q5, R_q5) := by kernel_rfl
theorem G_q5 : GoodFC Tryz.prog F_q5 T_q5 := ⟨Tryz.f5, [2], Tryz.func5, Tryz.ntmps5, C_q5, by kernel_rfl⟩
theorem C_q7 : cutF [2] (compF Tryz.prog Tryz.f7) = some (A_q7, R_q7) := by kernel_rfl
theorem G_q7 : GoodFC Tryz.prog F_q7 T_q7 := ⟨Tryz.f7, [2], Tryz.func7, Tryz.ntmps7, C_q7, by kernel_rfl⟩
theorem C_q9 : cutF [2] (compF Tryz.prog Tryz.f9) = some (A_q9, R_q9) := by kernel_rfl
theorem G_q9 : GoodFC Tryz.prog F_q9 T_q9 := ⟨Tryz.f9, [2], Tryz.func9, Tryz.ntmps9, C_q9, by kernel_rfl⟩
theorem C_q10 : cutF [1] (compF Tryz.prog Tryz.f10) = some (A_q10, R_q10) := by kernel_rfl
theorem G_q10 : GoodFC Tryz.prog F_q10 T_q10 := ⟨Tryz.f10, [1], Tryz.func10, Tryz.ntmps10, C_q10, by kernel_rfl⟩
theorem C_q11 : cutF [] (compF Tryz.prog Tryz.f11) = some (A_q11, R_q11) := by kernel_rfl
theorem G_q11 : GoodFC Tryz.prog F_q11 T_q11 := ⟨Tryz.f11, [], Tryz.func11, Tryz.ntmps11, C_q11, by kernel_rfl⟩
theorem C_q12 : cutF [2, 2, 2, 2] (compF Tryz.prog Tryz.f12) = some (A_q12, R_q12) := by kernel_rfl
theorem G_q12 : GoodFC Tryz.prog F_q12 T_q12 := ⟨Tryz.f12, [2, 2, 2, 2], Tryz.func12, Tryz.ntmps12, C_q12, by kernel_rfl⟩
theorem C_q13 : cutF [2, 2] (compF Tryz.prog Tryz.f13) = some (A_q13, R_q13) := by kernel_rfl
theorem G_q13 : GoodFC Tryz.prog F_q13 T_q13 := ⟨Tryz.f13, [2, 2], Tryz.func13, Tryz.ntmps13, C_q13, by kernel_rfl⟩
theorem C_q14 : cutF [2, 2] (compF Tryz.prog Tryz.f14) = some (A_q14, R_q14) := by kernel_rfl
theorem G_q14 : GoodFC Tryz.prog F_q14 T_q14 := ⟨Tryz.f14, [2, 2], Tryz.func14, Tryz.ntmps14, C_q14, by kernel_rfl⟩
theorem C_q15 : cutF [2, 1, 1, 2] (compF Tryz.prog Tryz.f15) = some (A_q15, R_q15) := by kernel_rfl
theorem G_q15 : GoodFC Tryz.prog F_q15 T_q15 := ⟨Tryz.f15, [2, 1, 1, 2], Tryz.func15, Tryz.ntmps15, C_q15, by kernel_rfl⟩
theorem C_q16 : cutF [] (compF Tryz.prog Tryz.f16) = some (A_q16, R_q16) := by kernel_rfl
theorem G_q16 : GoodFC Tryz.prog F_q16 T_q16 := ⟨Tryz.f16, [], Tryz.func16, Tryz.ntmps16, C_q16, by kernel_rfl⟩
theorem C_q17 : cutF [0, 1, 3] (compF Tryz.prog Tryz.f17) = some (A_q17, R_q17) := by kernel_rfl
theorem G_q17 : GoodFC Tryz.prog F_q17 T_q17 := ⟨Tryz.f17, [0, 1, 3], Tryz.func17, Tryz.ntmps17, C_q17, by kernel_rfl⟩
theorem C_q18 : cutF [2, 0, 2] (compF Tryz.prog Tryz.f18) = some (A_q18, R_q18) := by kernel_rfl
theorem G_q18 : GoodFC Tryz.prog F_q18 T_q18 := ⟨Tryz.f18, [2, 0, 2], Tryz.func18, Tryz.ntmps18, C_q18, by kernel_rfl⟩
theorem C_q21 : cutF [2] (compF Tryz.prog Tryz.f21) = some (A_q21, R_q21) := by kernel_rfl
theorem G_q21 : GoodFC Tryz.prog F_q21 T_q21 := ⟨Tryz.f21, [2], Tryz.func21, Tryz.ntmps21, C_q21, by kernel_rfl⟩
theorem C_q23 : cutF [0, 2, 1, 2, 0, 2] (compF Tryz.prog Tryz.f23) = some (A_q23, R_q23) := by kernel_rfl
theorem G_q23 : GoodFC Tryz.prog F_q23 T_q23 := ⟨Tryz.f23, [0, 2, 1, 2, 0, 2], Tryz.func23, Tryz.ntmps23, C_q23, by kernel_rfl⟩
theorem C_q24 : cutF [0, 2, 3] (compF Tryz.prog Tryz.f24) = some (A_q24, R_q24) := by kernel_rfl
theorem G_q24 : GoodFC Tryz.prog F_q24 T_q24 := ⟨Tryz.f24, [0, 2, 3], Tryz.func24, Tryz.ntmps24, C_q24, by kernel_rfl⟩
theorem C_q25 : cutF [0, 0] (compF Tryz.prog Tryz.f25) = some (A_q25, R_q25) := by kernel_rfl
theorem G_q25 : GoodFC Tryz.prog F_q25 T_q25 := ⟨Tryz.f25, [0, 0], Tryz.func25, Tryz.ntmps25, C_q25, by kernel_rfl⟩
theorem C_q26 : cutF [0, 0, 0, 0, 2, 2] (compF Tryz.prog Tryz.f26) = some (A_q26, R_q26) := by kernel_rfl
theorem G_q26 : GoodFC Tryz.prog F_q26 T_q26 := ⟨Tryz.f26, [0, 0, 0, 0, 2, 2], Tryz.func26, Tryz.ntmps26, C_q26, by kernel_rfl⟩
theorem C_q27 : cutF [0] (compF Tryz.prog Tryz.f27) = some (A_q27, R_q27) := by kernel_rfl
theorem G_q27 : GoodFC Tryz.prog F_q27 T_q27 := ⟨Tryz.f27, [0], Tryz.func27, Tryz.ntmps27, C_q27, by kernel_rfl⟩
theorem C_q28 : cutF [0, 1, 1, 0, 0] (compF Tryz.prog Tryz.f28) = some (A_q28, R_q28) := by kernel_rfl
theorem G_q28 : GoodFC Tryz.prog F_q28 T_q28 := ⟨Tryz.f28, [0, 1, 1, 0, 0], Tryz.func28, Tryz.ntmps28, C_q28, by kernel_rfl⟩
theorem C_q29 : cutF [] (compF Tryz.prog Tryz.f29) = some (A_q29, R_q29) := by kernel_rfl
theorem G_q29 : GoodFC Tryz.prog F_q29 T_q29 := ⟨Tryz.f29, [], Tryz.func29, Tryz.ntmps29, C_q29, by kernel_rfl⟩
theorem C_q30 : cutF [] (compF Tryz.prog Tryz.f30) = some (A_q30, R_q30) := by kernel_rfl
theorem G_q30 : GoodFC Tryz.prog F_q30 T_q30 := ⟨Tryz.f30, [], Tryz.func30, Tryz.ntmps30, C_q30, by kernel_rfl⟩
theorem C_q31 : cutF [2] (compF Tryz.prog Tryz.f31) = some (A_q31, R_q31) := by kernel_rfl
theorem G_q31 : GoodFC Tryz.prog F_q31 T_q31 := ⟨Tryz.f31, [2], Tryz.func31, Tryz.ntmps31, C_q31, by kernel_rfl⟩
theorem C_q32 : cutF [2, 2, 2, 2] (compF Tryz.prog Tryz.f32) = some (A_q32, R_q32) := by kernel_rfl
theorem G_q32 : GoodFC Tryz.prog F_q32 T_q32 := ⟨Tryz.f32, [2, 2, 2, 2], Tryz.func32, Tryz.ntmps32, C_q32, by kernel_rfl⟩
theorem C_q33 : cutF [2] (compF Tryz.prog Tryz.f33) = some (A_q33, R_q33) := by kernel_rfl
theorem G_q33 : GoodFC Tryz.prog F_q33 T_q33 := ⟨Tryz.f33, [2], Tryz.func33, Tryz.ntmps33, C_q33, by kernel_rfl⟩
theorem C_q34 : cutF [2, 2] (compF Tryz.prog Tryz.f34) = some (A_q34, R_q34) := by kernel_rfl
theorem G_q34 : GoodFC Tryz.prog F_q34 T_q34 := ⟨Tryz.f34, [2, 2], Tryz.func34, Tryz.ntmps34, C_q34, by kernel_rfl⟩
theorem C_q35 : cutF [0, 2, 2, 2, 2, 2, 2, 2, 3, 3, 3, 3, 3] (compF Tryz.prog Tryz.f35) = some (A_q35, R_q35) := by kernel_rfl
theorem G_q35 : GoodFC Tryz.prog F_q35 T_q35 := ⟨Tryz.f35, [0, 2, 2, 2, 2, 2, 2, 2, 3, 3, 3, 3, 3], Tryz.func35, Tryz.ntmps35, C_q35, by kernel_rfl⟩
theorem C_q36 : cutF [0, 0] (compF Tryz.prog Tryz.f36) = some (A_q36, R_q36) := by kernel_rfl
theorem G_q36 : GoodFC Tryz.prog F_q36 T_q36 := ⟨Tryz.f36, [0, 0], Tryz.func36, Tryz.ntmps36, C_q36, by kernel_rfl⟩
theorem C_q38 : cutF [] (compF Tryz.prog Tryz.f38) = some (A_q38, R_q38) := by kernel_rfl
theorem G_q38 : GoodFC Tryz.prog F_q38 T_q38 := ⟨Tryz.f38, [], Tryz.func38, Tryz.ntmps38, C_q38, by kernel_rfl⟩
theorem C_q39 : cutF [2, 0, 2] (compF Tryz.prog Tryz.f39) = some (A_q39, R_q39) := by kernel_rfl
theorem G_q39 : GoodFC Tryz.prog F_q39 T_q39 := ⟨Tryz.f39, [2, 0, 2], Tryz.func39, Tryz.ntmps39, C_q39, by kernel_rfl⟩
theorem C_q43 : cutF [] (compF Tryz.prog Tryz.f43) = some (A_q43, R_q43) := by kernel_rfl
theorem G_q43 : GoodFC Tryz.prog F_q43 T_q43 := ⟨Tryz.f43, [], Tryz.func43, Tryz.ntmps43, C_q43, by kernel_rfl⟩
theorem C_q45 : cutF [] (compF Tryz.prog Tryz.f45) = some (A_q45, R_q45) := by kernel_rfl
theorem G_q45 : GoodFC Tryz.prog F_q45 T_q45 := ⟨Tryz.f45, [], Tryz.func45, Tryz.ntmps45, C_q45, by kernel_rfl⟩
theorem C_q46 : cutF [] (compF Tryz.prog Tryz.f46) = some (A_q46, R_q46) := by kernel_rfl
theorem G_q46 : GoodFC Tryz.prog F_q46 T_q46 := ⟨Tryz.f46, [], Tryz.func46, Tryz.ntmps46, C_q46, by kernel_rfl⟩
theorem C_q47 : cutF [2, 3, 3] (compF Tryz.prog Tryz.f47) = some (A_q47, R_q47) := by kernel_rfl
theorem G_q47 : GoodFC Tryz.prog F_q47 T_q47 := ⟨Tryz.f47, [2, 3, 3], Tryz.func47, Tryz.ntmps47, C_q47, by kernel_rfl⟩
theorem C_q48 : cutF [2, 2, 3] (compF Tryz.prog Tryz.f48) = some (A_q48, R_q48) := by kernel_rfl
theorem G_q48 : GoodFC Tryz.prog F_q48 T_q48 := ⟨Tryz.f48, [2, 2, 3], Tryz.func48, Tryz.ntmps48, C_q48, by kernel_rfl⟩
theorem C_q49 : cutF [] (compF Tryz.prog Tryz.f49) = some (A_q49, R_q49) := by kernel_rfl
theorem G_q49 : GoodFC Tryz.prog F_q49 T_q49 := ⟨Tryz.f49, [], Tryz.func49, Tryz.ntmps49, C_q49, by kernel_rfl⟩
theorem C_q50 : cutF [0, 0] (compF Tryz.prog Tryz.f50) = some (A_q50, R_q50) := by kernel_rfl
theorem G_q50 : GoodFC Tryz.prog F_q50 T_q50 := ⟨Tryz.f50, [0, 0], Tryz.func50, Tryz.ntmps50, C_q50, by kernel_rfl⟩
theorem C_q51 : cutF [0, 0] (compF Tryz.prog Tryz.f51) = some (A_q51, R_q51) := by kernel_rfl
theorem G_q51 : GoodFC Tryz.prog F_q51 T_q51 := ⟨Tryz.f51, [0, 0], Tryz.func51, Tryz.ntmps51, C_q51, by kernel_rfl⟩
theorem C_q53 : cutF [] (compF Tryz.prog Tryz.f53) = some (A_q53, R_q53) := by kernel_rfl
theorem G_q53 : GoodFC Tryz.prog F_q53 T_q53 := ⟨Tryz.f53, [], Tryz.func53, Tryz.ntmps53, C_q53, by kernel_rfl⟩
theorem C_q54 : cutF [0, 1, 0, 0, 0, 1] (compF Tryz.prog Tryz.f54) = some (A_q54, R_q54) := by kernel_rfl
theorem G_q54 : GoodFC Tryz.prog F_q54 T_q54 := ⟨Tryz.f54, [0, 1, 0, 0, 0, 1], Tryz.func54, Tryz.ntmps54, C_q54, by kernel_rfl⟩
theorem C_q55 : cutF [] (compF Tryz.prog Tryz.f55) = some (A_q55, R_q55) := by kernel_rfl
theorem G_q55 : GoodFC Tryz.prog F_q55 T_q55 := ⟨Tryz.f55, [], Tryz.func55, Tryz.ntmps55, C_q55, by kernel_rfl⟩
theorem C_q56 : cutF [] (compF Tryz.prog Tryz.f56) = some (A_q56, R_q56) := by kernel_rfl
theorem G_q56 : GoodFC Tryz.prog F_q56 T_q56 := ⟨Tryz.f56, [], Tryz.func56, Tryz.ntmps56, C_q56, by kernel_rfl⟩
theorem C_q57 : cutF [2, 0, 2] (compF Tryz.prog Tryz.f57) = some (A_q57, R_q57) := by kernel_rfl
theorem G_q57 : GoodFC Tryz.prog F_q57 T_q57 := ⟨Tryz.f57, [2, 0, 2], Tryz.func57, Tryz.ntmps57, C_q57, by kernel_rfl⟩
theorem C_q58 : cutF [] (compF Tryz.prog Tryz.f58) = some (A_q58, R_q58) := by kernel_rfl
theorem G_q58 : GoodFC Tryz.prog F_q58 T_q58 := ⟨Tryz.f58, [], Tryz.func58, Tryz.ntmps58, C_q58, by kernel_rfl⟩
theorem C_q59 : cutF [2] (compF Tryz.prog Tryz.f59) = some (A_q59, R_q59) := by kernel_rfl
theorem G_q59 : GoodFC Tryz.prog F_q59 T_q59 := ⟨Tryz.f59, [2], Tryz.func59, Tryz.ntmps59, C_q59, by kernel_rfl⟩
theorem C_q60 : cutF [2] (compF Tryz.prog Tryz.f60) = some (A_q60, R_q60) := by kernel_rfl
theorem G_q60 : GoodFC Tryz.prog F_q60 T_q60 := ⟨Tryz.f60, [2], Tryz.func60, Tryz.ntmps60, C_q60, by kernel_rfl⟩
theorem C_q61 : cutF [] (compF Tryz.prog Tryz.f61) = some (A_q61, R_q61) := by kernel_rfl
theorem G_q61 : GoodFC Tryz.prog F_q61 T_q61 := ⟨Tryz.f61, [], Tryz.func61, Tryz.ntmps61, C_q61, by kernel_rfl⟩
theorem C_q62 : cutF [2] (compF Tryz.prog Tryz.f62) = some (A_q62, R_q62) := by kernel_rfl
theorem G_q62 : GoodFC Tryz.prog F_q62 T_q62 := ⟨Tryz.f62, [2], Tryz.func62, Tryz.ntmps62, C_q62, by kernel_rfl⟩
theorem C_q63 : cutF [2, 2] (compF Tryz.prog Tryz.f63) = some (A_q63, R_q63) := by kernel_rfl
theorem G_q63 : GoodFC Tryz.prog F_q63 T_q63 := ⟨Tryz.f63, [2, 2], Tryz.func63, Tryz.ntmps63, C_q63, by kernel_rfl⟩
theorem C_q64 : cutF [0] (compF Tryz.prog Tryz.f64) = some (A_q64, R_q64) := by kernel_rfl
theorem G_q64 : GoodFC Tryz.prog F_q64 T_q64 := ⟨Tryz.f64, [0], Tryz.func64, Tryz.ntmps64, C_q64, by kernel_rfl⟩
theorem C_q65 : cutF [2, 2, 0, 2, 2, 2, 2, 2] (compF Tryz.prog Tryz.f65) = some (A_q65, R_q65) := by kernel_rfl
theorem G_q65 : GoodFC Tryz.prog F_q65 T_q65 := ⟨Tryz.f65, [2, 2, 0, 2, 2, 2, 2, 2], Tryz.func65, Tryz.ntmps65, C_q65, by kernel_rfl⟩
theorem C_q66 : cutF [0, 0] (compF Tryz.prog Tryz.f66) = some (A_q66, R_q66) := by kernel_rfl
theorem G_q66 : GoodFC Tryz.prog F_q66 T_q66 := ⟨Tryz.f66, [0, 0], Tryz.func66, Tryz.ntmps66, C_q66, by kernel_rfl⟩
theorem C_q67 : cutF [] (compF Tryz.prog Tryz.f67) = some (A_q67, R_q67) := by kernel_rfl
theorem G_q67 : GoodFC Tryz.prog F_q67 T_q67 := ⟨Tryz.f67, [], Tryz.func67, Tryz.ntmps67, C_q67, by kernel_rfl⟩
theorem C_q68 : cutF [1, 2, 1] (compF Tryz.prog Tryz.f68) = some (A_q68, R_q68) := by kernel_rfl
theorem G_q68 : GoodFC Tryz.prog F_q68 T_q68 := ⟨Tryz.f68, [1, 2, 1], Tryz.func68, Tryz.ntmps68, C_q68, by kernel_rfl⟩
theorem C_q69 : cutF [] (compF Tryz.prog Tryz.f69) = some (A_q69, R_q69) := by kernel_rfl
theorem G_q69 : GoodFC Tryz.prog F_q69 T_q69 := ⟨Tryz.f69, [], Tryz.func69, Tryz.ntmps69, C_q69, by kernel_rfl⟩
theorem C_q72 : cutF [2, 2, 1, 0, 2] (compF Tryz.prog Tryz.f72) = some (A_q72, R_q72) := by kernel_rfl
theorem G_q72 : GoodFC Tryz.prog F_q72 T_q72 := ⟨Tryz.f72, [2, 2, 1, 0, 2], Tryz.func72, Tryz.ntmps72, C_q72, by kernel_rfl⟩
theorem C_q73 : cutF [] (compF Tryz.prog Tryz.f73) = some (A_q73, R_q73) := by kernel_rfl
theorem G_q73 : GoodFC Tryz.prog F_q73 T_q73 := ⟨Tryz.f73, [], Tryz.func73, Tryz.ntmps73, C_q73, by kernel_rfl⟩
theorem C_q74 : cutF [] (compF Tryz.prog Tryz.f74) = some (A_q74, R_q74) := by kernel_rfl
theorem G_q74 : GoodFC Tryz.prog F_q74 T_q74 := ⟨Tryz.f74, [], Tryz.func74, Tryz.ntmps74, C_q74, by kernel_rfl⟩
theorem C_q75 : cutF [] (compF Tryz.prog Tryz.f75) = some (A_q75, R_q75) := by kernel_rfl
theorem G_q75 : GoodFC Tryz.prog F_q75 T_q75 := ⟨Tryz.f75, [], Tryz.func75, Tryz.ntmps75, C_q75, by kernel_rfl⟩
theorem C_q80 : cutF [1] (compF Tryz.prog Tryz.f80) = some (A_q80, R_q80) := by kernel_rfl
theorem G_q80 : GoodFC Tryz.prog F_q80 T_q80 := ⟨Tryz.f80, [1], Tryz.func80, Tryz.ntmps80, C_q80, by kernel_rfl⟩
theorem C_q81 : cutF [0, 0] (compF Tryz.prog Tryz.f81) = some (A_q81, R_q81) := by kernel_rfl
theorem G_q81 : GoodFC Tryz.prog F_q81 T_q81 := ⟨Tryz.f81, [0, 0], Tryz.func81, Tryz.ntmps81, C_q81, by kernel_rfl⟩
theorem C_q82 : cutF [] (compF Tryz.prog Tryz.f82) = some (A_q82, R_q82) := by kernel_rfl
theorem G_q82 : GoodFC Tryz.prog F_q82 T_q82 := ⟨Tryz.f82, [], Tryz.func82, Tryz.ntmps82, C_q82, by kernel_rfl⟩
theorem C_q83 : cutF [] (compF Tryz.prog Tryz.f83) = some (A_q83, R_q83) := by kernel_rfl
theorem G_q83 : GoodFC Tryz.prog F_q83 T_q83 := ⟨Tryz.f83, [], Tryz.func83, Tryz.ntmps83, C_q83, by kernel_rfl⟩
theorem C_q84 : cutF [1] (compF Tryz.prog Tryz.f84) = some (A_q84, R_q84) := by kernel_rfl
theorem G_q84 : GoodFC Tryz.prog F_q84 T_q84 := ⟨Tryz.f84, [1], Tryz.func84, Tryz.ntmps84, C_q84, by kernel_rfl⟩
theorem C_q85 : cutF [1, 1, 2, 1, 0, 0] (compF Tryz.prog Tryz.f85) = some (A_q85, R_q85) := by kernel_rfl
theorem G_q85 : GoodFC Tryz.prog F_q85 T_q85 := ⟨Tryz.f85, [1, 1, 2, 1, 0, 0], Tryz.func85, Tryz.ntmps85, C_q85, by kernel_rfl⟩
theorem C_q86 : cutF [] (compF Tryz.prog Tryz.f86) = some (A_q86, R_q86) := by kernel_rfl
theorem G_q86 : GoodFC Tryz.prog F_q86 T_q86 := ⟨Tryz.f86, [], Tryz.func86, Tryz.ntmps86, C_q86, by kernel_rfl⟩
theorem C_q87 : cutF [] (compF Tryz.prog Tryz.f87) = some (A_q87, R_q87) := by kernel_rfl
theorem G_q87 : GoodFC Tryz.prog F_q87 T_q87 := ⟨Tryz.f87, [], Tryz.func87, Tryz.ntmps87, C_q87, by kernel_rfl⟩
theorem C_q88 : cutF [0, 1] (compF Tryz.prog Tryz.f88) = some (A_q88, R_q88) := by kernel_rfl
theorem G_q88 : GoodFC Tryz.prog F_q88 T_q88 := ⟨Tryz.f88, [0, 1], Tryz.func88, Tryz.ntmps88, C_q88, by kernel_rfl⟩
theorem C_q89 : cutF [0] (compF Tryz.prog Tryz.f89) = some (A_q89, R_q89) := by kernel_rfl
theorem G_q89 : GoodFC Tryz.prog F_q89 T_q89 := ⟨Tryz.f89, [0], Tryz.func89, Tryz.ntmps89, C_q89, by kernel_rfl⟩
theorem C_q90 : cutF [0, 0, 2, 2] (compF Tryz.prog Tryz.f90) = some (A_q90, R_q90) := by kernel_rfl
theorem G_q90 : GoodFC Tryz.prog F_q90 T_q90 := ⟨Tryz.f90, [0, 0, 2, 2], Tryz.func90, Tryz.ntmps90, C_q90, by kernel_rfl⟩
theorem C_q91 : cutF [] (compF Tryz.prog Tryz.f91) = some (A_q91, R_q91) := by kernel_rfl
theorem G_q91 : GoodFC Tryz.prog F_q91 T_q91 := ⟨Tryz.f91, [], Tryz.func91, Tryz.ntmps91, C_q91, by kernel_rfl⟩
theorem C_q92 : cutF [1] (compF Tryz.prog Tryz.f92) = some (A_q92, R_q92) := by kernel_rfl
theorem G_q92 : GoodFC Tryz.prog F_q92 T_q92 := ⟨Tryz.f92, [1], Tryz.func92, Tryz.ntmps92, C_q92, by kernel_rfl⟩
theorem C_q93 : cutF [1, 1] (compF Tryz.prog Tryz.f93) = some (A_q93, R_q93) := by kernel_rfl
theorem G_q93 : GoodFC Tryz.prog F_q93 T_q93 := ⟨Tryz.f93, [1, 1], Tryz.func93, Tryz.ntmps93, C_q93, by kernel_rfl⟩
theorem C_q94 : cutF [2, 2, 0, 1] (compF Tryz.prog Tryz.f94) = some (A_q94, R_q94) := by kernel_rfl
theorem G_q94 : GoodFC Tryz.prog F_q94 T_q94 := ⟨Tryz.f94, [2, 2, 0, 1], Tryz.func94, Tryz.ntmps94, C_q94, by kernel_rfl⟩
theorem C_q95 : cutF [2, 2, 0, 0] (compF Tryz.prog Tryz.f95) = some (A_q95, R_q95) := by kernel_rfl
theorem G_q95 : GoodFC Tryz.prog F_q95 T_q95 := ⟨Tryz.f95, [2, 2, 0, 0], Tryz.func95, Tryz.ntmps95, C_q95, by kernel_rfl⟩
theorem C_q96 : cutF [0, 2, 0, 2] (compF Tryz.prog Tryz.f96) = some (A_q96, R_q96) := by kernel_rfl
theorem G_q96 : GoodFC Tryz.prog F_q96 T_q96 := ⟨Tryz.f96, [0, 2, 0, 2], Tryz.func96, Tryz.ntmps96, C_q96, by kernel_rfl⟩
theorem C_q97 : cutF [2, 3] (compF Tryz.prog Tryz.f97) = some (A_q97, R_q97) := by kernel_rfl
theorem G_q97 : GoodFC Tryz.prog F_q97 T_q97 := ⟨Tryz.f97, [2, 3], Tryz.func97, Tryz.ntmps97, C_q97, by kernel_rfl⟩
theorem C_q98 : cutF [] (compF Tryz.prog Tryz.f98) = some (A_q98, R_q98) := by kernel_rfl
theorem G_q98 : GoodFC Tryz.prog F_q98 T_q98 := ⟨Tryz.f98, [], Tryz.func98, Tryz.ntmps98, C_q98, by kernel_rfl⟩
theorem C_q99 : cutF [1, 3, 3, 3, 3, 3, 3] (compF Tryz.prog Tryz.f99) = some (A_q99, R_q99) := by kernel_rfl
theorem G_q99 : GoodFC Tryz.prog F_q99 T_q99 := ⟨Tryz.f99, [1, 3, 3, 3, 3, 3, 3], Tryz.func99, Tryz.ntmps99, C_q99, by kernel_rfl⟩
theorem C_q100 : cutF [2] (compF Tryz.prog Tryz.f100) = some (A_q100, R_q100) := by kernel_rfl
theorem G_q100 : GoodFC Tryz.prog F_q100 T_q100 := ⟨Tryz.f100, [2], Tryz.func100, Tryz.ntmps100, C_q100, by kernel_rfl⟩
theorem C_q101 : cutF [0] (compF Tryz.prog Tryz.f101) = some (A_q101, R_q101) := by kernel_rfl
theorem G_q101 : GoodFC Tryz.prog F_q101 T_q101 := ⟨Tryz.f101, [0], Tryz.func101, Tryz.ntmps101, C_q101, by kernel_rfl⟩
theorem C_q102 : cutF [2] (compF Tryz.prog Tryz.f102) = some (A_q102, R_q102) := by kernel_rfl
theorem G_q102 : GoodFC Tryz.prog F_q102 T_q102 := ⟨Tryz.f102, [2], Tryz.func102, Tryz.ntmps102, C_q102, by kernel_rfl⟩
theorem C_q103 : cutF [1, 2, 3, 1, 3, 1, 3] (compF Tryz.prog Tryz.f103) = some (A_q103, R_q103) := by kernel_rfl
theorem G_q103 : GoodFC Tryz.prog F_q103 T_q103 := ⟨Tryz.f103, [1, 2, 3, 1, 3, 1, 3], Tryz.func103, Tryz.ntmps103, C_q103, by kernel_rfl⟩
theorem C_q104 : cutF [0] (compF Tryz.prog Tryz.f104) = some (A_q104, R_q104) := by kernel_rfl
theorem G_q104 : GoodFC Tryz.prog F_q104 T_q104 := ⟨Tryz.f104, [0], Tryz.func104, Tryz.ntmps104, C_q104, by kernel_rfl⟩
theorem C_q112 : cutF [1] (compF Tryz.prog Tryz.f112) = some (A_q112, R_q112) := by kernel_rfl
theorem G_q112 : GoodFC Tryz.prog F_q112 T_q112 := ⟨Tryz.f112, [1], Tryz.func112, Tryz.ntmps112, C_q112, by kernel_rfl⟩
theorem C_q113 : cutF [0] (compF Tryz.prog Tryz.f113) = some (A_q113, R_q113) := by kernel_rfl
theorem G_q113 : GoodFC Tryz.prog F_q113 T_q113 := ⟨Tryz.f113, [0], Tryz.func113, Tryz.ntmps113, C_q113, by kernel_rfl⟩
theorem C_q116 : cutF [] (compF Tryz.prog Tryz.f116) = some (A_q116, R_q116) := by kernel_rfl
theorem G_q116 : GoodFC Tryz.prog F_q116 T_q116 := ⟨Tryz.f116, [], Tryz.func116, Tryz.ntmps116, C_q116, by kernel_rfl⟩
theorem C_q118 : cutF [1] (compF Tryz.prog Tryz.f118) = some (A_q118, R_q118) := by kernel_rfl
theorem G_q118 : GoodFC Tryz.prog F_q118 T_q118 := ⟨Tryz.f118, [1], Tryz.func118, Tryz.ntmps118, C_q118, by kernel_rfl⟩
theorem C_q119 : cutF [2, 2, 0, 2, 2, 2] (compF Tryz.prog Tryz.f119) = some (A_q119, R_q119) := by kernel_rfl
theorem G_q119 : GoodFC Tryz.prog F_q119 T_q119 := ⟨Tryz.f119, [2, 2, 0, 2, 2, 2], Tryz.func119, Tryz.ntmps119, C_q119, by kernel_rfl⟩
theorem C_q120 : cutF [2] (compF Tryz.prog Tryz.f120) = some (A_q120, R_q120) := by kernel_rfl
theorem G_q120 : GoodFC Tryz.prog F_q120 T_q120 := ⟨Tryz.f120, [2], Tryz.func120, Tryz.ntmps120, C_q120, by kernel_rfl⟩
theorem C_q121 : cutF [2, 2, 2] (compF Tryz.prog Tryz.f121) = some (A_q121, R_q121) := by kernel_rfl
theorem G_q121 : GoodFC Tryz.prog F_q121 T_q121 := ⟨Tryz.f121, [2, 2, 2], Tryz.func121, Tryz.ntmps121, C_q121, by kernel_rfl⟩
theorem C_q123 : cutF [2] (compF Tryz.prog Tryz.f123) = some (A_q123, R_q123) := by kernel_rfl
theorem G_q123 : GoodFC Tryz.prog F_q123 T_q123 := ⟨Tryz.f123, [2], Tryz.func123, Tryz.ntmps123, C_q123, by kernel_rfl⟩
theorem C_q126 : cutF [2, 1, 3] (compF Tryz.prog Tryz.f126) = some (A_q126, R_q126) := by kernel_rfl
theorem G_q126 : GoodFC Tryz.prog F_q126 T_q126 := ⟨Tryz.f126, [2, 1, 3], Tryz.func126, Tryz.ntmps126, C_q126, by kernel_rfl⟩
theorem C_q127 : cutF [] (compF Tryz.prog Tryz.f127) = some (A_q127, R_q127) := by kernel_rfl
theorem G_q127 : GoodFC Tryz.prog F_q127 T_q127 := ⟨Tryz.f127, [], Tryz.func127, Tryz.ntmps127, C_q127, by kernel_rfl⟩
theorem C_q130 : cutF [] (compF Tryz.prog Tryz.f130) = some (A_q130, R_q130) := by kernel_rfl
theorem G_q130 : GoodFC Tryz.prog F_q130 T_q130 := ⟨Tryz.f130, [], Tryz.func130, Tryz.ntmps130, C_q130, by kernel_rfl⟩
theorem C_q131 : cutF [] (compF Tryz.prog Tryz.f131) = some (A_q131, R_q131) := by kernel_rfl
theorem G_q131 : GoodFC Tryz.prog F_q131 T_q131 := ⟨Tryz.f131, [], Tryz.func131, Tryz.ntmps131, C_q131, by kernel_rfl⟩
theorem C_q132 : cutF [] (compF Tryz.prog Tryz.f132) = some (A_q132, R_q132) := by kernel_rfl
theorem G_q132 : GoodFC Tryz.prog F_q132 T_q132 := ⟨Tryz.f132, [], Tryz.func132, Tryz.ntmps132, C_q132, by kernel_rfl⟩
theorem C_q133 : cutF [0, 2] (compF Tryz.prog Tryz.f133) = some (A_q133, R_q133) := by kernel_rfl
theorem G_q133 : GoodFC Tryz.prog F_q133 T_q133 := ⟨Tryz.f133, [0, 2], Tryz.func133, Tryz.ntmps133, C_q133, by kernel_rfl⟩
theorem C_q134 : cutF [2] (compF Tryz.prog Tryz.f134) = some (A_q134, R_q134) := by kernel_rfl
theorem G_q134 : GoodFC Tryz.prog F_q134 T_q134 := ⟨Tryz.f134, [2], Tryz.func134, Tryz.ntmps134, C_q134, by kernel_rfl⟩
theorem C_q135 : cutF [2, 0, 2] (compF Tryz.prog Tryz.f135) = some (A_q135, R_q135) := by kernel_rfl
theorem G_q135 : GoodFC Tryz.prog F_q135 T_q135 := ⟨Tryz.f135, [2, 0, 2], Tryz.func135, Tryz.ntmps135, C_q135, by kernel_rfl⟩
theorem C_q136 : cutF [0, 0, 2, 2] (compF Tryz.prog Tryz.f136) = some (A_q136, R_q136) := by kernel_rfl
theorem G_q136 : GoodFC Tryz.prog F_q136 T_q136 := ⟨Tryz.f136, [0, 0, 2, 2], Tryz.func136, Tryz.ntmps136, C_q136, by kernel_rfl⟩
theorem C_q137 : cutF [0] (compF Tryz.prog Tryz.f137) = some (A_q137, R_q137) := by kernel_rfl
theorem G_q137 : GoodFC Tryz.prog F_q137 T_q137 := ⟨Tryz.f137, [0], Tryz.func137, Tryz.ntmps137, C_q137, by kernel_rfl⟩
theorem C_q138 : cutF [0] (compF Tryz.prog Tryz.f138) = some (A_q138, R_q138) := by kernel_rfl
theorem G_q138 : GoodFC Tryz.prog F_q138 T_q138 := ⟨Tryz.f138, [0], Tryz.func138, Tryz.ntmps138, C_q138, by kernel_rfl⟩
theorem C_q139 : cutF [0] (compF Tryz.prog Tryz.f139) = some (A_q139, R_q139) := by kernel_rfl
theorem G_q139 : GoodFC Tryz.prog F_q139 T_q139 := ⟨Tryz.f139, [0], Tryz.func139, Tryz.ntmps139, C_q139, by kernel_rfl⟩
theorem C_q140 : cutF [2, 2, 1, 2, 0, 2, 0] (compF Tryz.prog Tryz.f140) = some (A_q140, R_q140) := by kernel_rfl
theorem G_q140 : GoodFC Tryz.prog F_q140 T_q140 := ⟨Tryz.f140, [2, 2, 1, 2, 0, 2, 0], Tryz.func140, Tryz.ntmps140, C_q140, by kernel_rfl⟩
theorem C_q141 : cutF [0, 0, 0, 0] (compF Tryz.prog Tryz.f141) = some (A_q141, R_q141) := by kernel_rfl
theorem G_q141 : GoodFC Tryz.prog F_q141 T_q141 := ⟨Tryz.f141, [0, 0, 0, 0], Tryz.func141, Tryz.ntmps141, C_q141, by kernel_rfl⟩
theorem C_q142 : cutF [] (compF Tryz.prog Tryz.f142) = some (A_q142, R_q142) := by kernel_rfl
theorem G_q142 : GoodFC Tryz.prog F_q142 T_q142 := ⟨Tryz.f142, [], Tryz.func142, Tryz.ntmps142, C_q142, by kernel_rfl⟩
theorem C_q143 : cutF [] (compF Tryz.prog Tryz.f143) = some (A_q143, R_q143) := by kernel_rfl
theorem G_q143 : GoodFC Tryz.prog F_q143 T_q143 := ⟨Tryz.f143, [], Tryz.func143, Tryz.ntmps143, C_q143, by kernel_rfl⟩
theorem C_q144 : cutF [1, 3] (compF Tryz.prog Tryz.f144) = some (A_q144, R_q144) := by kernel_rfl
theorem G_q144 : GoodFC Tryz.prog F_q144 T_q144 := ⟨Tryz.f144, [1, 3], Tryz.func144, Tryz.ntmps144, C_q144, by kernel_rfl⟩
theorem C_q145 : cutF [0, 2] (compF Tryz.prog Tryz.f145) = some (A_q145, R_q145) := by kernel_rfl
theorem G_q145 : GoodFC Tryz.prog F_q145 T_q145 := ⟨Tryz.f145, [0, 2], Tryz.func145, Tryz.ntmps145, C_q145, by kernel_rfl⟩
theorem C_q146 : cutF [0, 0] (compF Tryz.prog Tryz.f146) = some (A_q146, R_q146) := by kernel_rfl
theorem G_q146 : GoodFC Tryz.prog F_q146 T_q146 := ⟨Tryz.f146, [0, 0], Tryz.func146, Tryz.ntmps146, C_q146, by kernel_rfl⟩
theorem C_q152 : cutF [] (compF Tryz.prog Tryz.f152) = some (A_q152, R_q152) := by kernel_rfl
theorem G_q152 : GoodFC Tryz.prog F_q152 T_q152 := ⟨Tryz.f152, [], Tryz.func152, Tryz.ntmps152, C_q152, by kernel_rfl⟩
theorem C_q156 : cutF [2, 2, 2] (compF Tryz.prog Tryz.f156) = some (A_q156, R_q156) := by kernel_rfl
theorem G_q156 : GoodFC Tryz.prog F_q156 T_q156 := ⟨Tryz.f156, [2, 2, 2], Tryz.func156, Tryz.ntmps156, C_q156, by kernel_rfl⟩
theorem C_q173 : cutF [2] (compF Tryz.prog Tryz.f173) = some (A_q173, R_q173) := by kernel_rfl
theorem G_q173 : GoodFC Tryz.prog F_q173 T_q173 := ⟨Tryz.f173, [2], Tryz.func173, Tryz.ntmps173, C_q173, by kernel_rfl⟩
theorem C_q175 : cutF [2, 2, 2] (compF Tryz.prog Tryz.f175) = some (A_q175, R_q175) := by kernel_rfl
theorem G_q175 : GoodFC Tryz.prog F_q175 T_q175 := ⟨Tryz.f175, [2, 2, 2], Tryz.func175, Tryz.ntmps175, C_q175, by kernel_rfl⟩
theorem C_q176 : cutF [2, 3] (compF Tryz.prog Tryz.f176) = some (A_q176, R_q176) := by kernel_rfl
theorem G_q176 : GoodFC Tryz.prog F_q176 T_q176 := ⟨Tryz.f176, [2, 3], Tryz.func176, Tryz.ntmps176, C_q176, by kernel_rfl⟩
theorem C_q177 : cutF [] (compF Tryz.prog Tryz.f177) = some (A_q177, R_q177) := by kernel_rfl
theorem G_q177 : GoodFC Tryz.prog F_q177 T_q177 := ⟨Tryz.f177, [], Tryz.func177, Tryz.ntmps177, C_q177, by kernel_rfl⟩
theorem C_q179 : cutF [1] (compF Tryz.prog Tryz.f179) = some (A_q179, R_q179) := by kernel_rfl
theorem G_q179 : GoodFC Tryz.prog F_q179 T_q179 := ⟨Tryz.f179, [1], Tryz.func179, Tryz.ntmps179, C_q179, by kernel_rfl⟩
theorem C_q180 : cutF [] (compF Tryz.prog Tryz.f180) = some (A_q180, R_q180) := by kernel_rfl
theorem G_q180 : GoodFC Tryz.prog F_q180 T_q180 := ⟨Tryz.f180, [], Tryz.func180, Tryz.ntmps180, C_q180, by kernel_rfl⟩
theorem C_q181 : cutF [2, 1, 3, 3, 3] (compF Tryz.prog Tryz.f181) = some (A_q181, R_q181) := by kernel_rfl
theorem G_q181 : GoodFC Tryz.prog F_q181 T_q181 := ⟨Tryz.f181, [2, 1, 3, 3, 3], Tryz.func181, Tryz.ntmps181, C_q181, by kernel_rfl⟩
theorem C_q182 : cutF [2, 3, 3, 1] (compF Tryz.prog Tryz.f182) = some (A_q182, R_q182) := by kernel_rfl
theorem G_q182 : GoodFC Tryz.prog F_q182 T_q182 := ⟨Tryz.f182, [2, 3, 3, 1], Tryz.func182, Tryz.ntmps182, C_q182, by kernel_rfl⟩
theorem C_q183 : cutF [] (compF Tryz.prog Tryz.f183) = some (A_q183, R_q183) := by kernel_rfl
theorem G_q183 : GoodFC Tryz.prog F_q183 T_q183 := ⟨Tryz.f183, [], Tryz.func183, Tryz.ntmps183, C_q183, by kernel_rfl⟩
theorem C_q184 : cutF [2, 2, 2, 3, 3, 3, 3, 3, 3] (compF Tryz.prog Tryz.f184) = some (A_q184, R_q184) := by kernel_rfl
theorem G_q184 : GoodFC Tryz.prog F_q184 T_q184 := ⟨Tryz.f184, [2, 2, 2, 3, 3, 3, 3, 3, 3], Tryz.func184, Tryz.ntmps184, C_q184, by kernel_rfl⟩
theorem C_q188 : cutF [2, 1, 3, 3, 3, 3] (compF Tryz.prog Tryz.f188) = some (A_q188, R_q188) := by kernel_rfl
theorem G_q188 : GoodFC Tryz.prog F_q188 T_q188 := ⟨Tryz.f188, [2, 1, 3, 3, 3, 3], Tryz.func188, Tryz.ntmps188, C_q188, by kernel_rfl⟩
theorem C_q189 : cutF [0] (compF Tryz.prog Tryz.f189) = some (A_q189, R_q189) := by kernel_rfl
theorem G_q189 : GoodFC Tryz.prog F_q189 T_q189 := ⟨Tryz.f189, [0], Tryz.func189, Tryz.ntmps189, C_q189, by kernel_rfl⟩
theorem C_q190 : cutF [1] (compF Tryz.prog Tryz.f190) = some (A_q190, R_q190) := by kernel_rfl
theorem G_q190 : GoodFC Tryz.prog F_q190 T_q190 := ⟨Tryz.f190, [1], Tryz.func190, Tryz.ntmps190, C_q190, by kernel_rfl⟩
theorem C_q191 : cutF [2] (compF Tryz.prog Tryz.f191) = some (A_q191, R_q191) := by kernel_rfl
theorem G_q191 : GoodFC Tryz.prog F_q191 T_q191 := ⟨Tryz.f191, [2], Tryz.func191, Tryz.ntmps191, C_q191, by kernel_rfl⟩
theorem C_q192 : cutF [] (compF Tryz.prog Tryz.f192) = some (A_q192, R_q192) := by kernel_rfl
theorem G_q192 : GoodFC Tryz.prog F_q192 T_q192 := ⟨Tryz.f192, [], Tryz.func192, Tryz.ntmps192, C_q192, by kernel_rfl⟩
theorem C_q193 : cutF [] (compF Tryz.prog Tryz.f193) = some (A_q193, R_q193) := by kernel_rfl
theorem G_q193 : GoodFC Tryz.prog F_q193 T_q193 := ⟨Tryz.f193, [], Tryz.func193, Tryz.ntmps193, C_q193, by kernel_rfl⟩
theorem C_q194 : cutF [2, 3] (compF Tryz.prog Tryz.f194) = some (A_q194, R_q194) := by kernel_rfl
theorem G_q194 : GoodFC Tryz.prog F_q194 T_q194 := ⟨Tryz.f194, [2, 3], Tryz.func194, Tryz.ntmps194, C_q194, by kernel_rfl⟩
theorem C_q195 : cutF [2] (compF Tryz.prog Tryz.f195) = some (A_q195, R_q195) := by kernel_rfl
theorem G_q195 : GoodFC Tryz.prog F_q195 T_q195 := ⟨Tryz.f195, [2], Tryz.func195, Tryz.ntmps195, C_q195, by kernel_rfl⟩
theorem C_q196 : cutF [1, 0, 0, 0, 1] (compF Tryz.prog Tryz.f196) = some (A_q196, R_q196) := by kernel_rfl
theorem G_q196 : GoodFC Tryz.prog F_q196 T_q196 := ⟨Tryz.f196, [1, 0, 0, 0, 1], Tryz.func196, Tryz.ntmps196, C_q196, by kernel_rfl⟩
theorem C_q197 : cutF [] (compF Tryz.prog Tryz.f197) = some (A_q197, R_q197) := by kernel_rfl
theorem G_q197 : GoodFC Tryz.prog F_q197 T_q197 := ⟨Tryz.f197, [], Tryz.func197, Tryz.ntmps197, C_q197, by kernel_rfl⟩
theorem C_q198 : cutF [] (compF Tryz.prog Tryz.f198) = some (A_q198, R_q198) := by kernel_rfl
theorem G_q198 : GoodFC Tryz.prog F_q198 T_q198 := ⟨Tryz.f198, [], Tryz.func198, Tryz.ntmps198, C_q198, by kernel_rfl⟩
theorem C_q199 : cutF [] (compF Tryz.prog Tryz.f199) = some (A_q199, R_q199) := by kernel_rfl
theorem G_q199 : GoodFC Tryz.prog F_q199 T_q199 := ⟨Tryz.f199, [], Tryz.func199, Tryz.ntmps199, C_q199, by kernel_rfl⟩
theorem C_q200 : cutF [] (compF Tryz.prog Tryz.f200) = some (A_q200, R_q200) := by kernel_rfl
theorem G_q200 : GoodFC Tryz.prog F_q200 T_q200 := ⟨Tryz.f200, [], Tryz.func200, Tryz.ntmps200, C_q200, by kernel_rfl⟩
theorem C_q202 : cutF [2, 1] (compF Tryz.prog Tryz.f202) = some (A_q202, R_q202) := by kernel_rfl
theorem G_q202 : GoodFC Tryz.prog F_q202 T_q202 := ⟨Tryz.f202, [2, 1], Tryz.func202, Tryz.ntmps202, C_q202, by kernel_rfl⟩
theorem C_q203 : cutF [] (compF Tryz.prog Tryz.f203) = some (A_q203, R_q203) := by kernel_rfl
theorem G_q203 : GoodFC Tryz.prog F_q203 T_q203 := ⟨Tryz.f203, [], Tryz.func203, Tryz.ntmps203, C_q203, by kernel_rfl⟩
theorem C_q204 : cutF [] (compF Tryz.prog Tryz.f204) = some (A_q204, R_q204) := by kernel_rfl
theorem G_q204 : GoodFC Tryz.prog F_q204 T_q204 := ⟨Tryz.f204, [], Tryz.func204, Tryz.ntmps204, C_q204, by kernel_rfl⟩
theorem C_q205 : cutF [0, 0] (compF Tryz.prog Tryz.f205) = some (A_q205, R_q205) := by kernel_rfl
theorem G_q205 : GoodFC Tryz.prog F_q205 T_q205 := ⟨Tryz.f205, [0, 0], Tryz.func205, Tryz.ntmps205, C_q205, by kernel_rfl⟩
theorem C_q206 : cutF [0, 0, 0, 0, 0, 0, 0, 0, 0, 0, 0, 0, 0, 0] (compF Tryz.prog Tryz.f206) = some (A_q206, R_q206) := by kernel_rfl
theorem G_q206 : GoodFC Tryz.prog F_q206 T_q206 := ⟨Tryz.f206, [0, 0, 0, 0, 0, 0, 0, 0, 0, 0, 0, 0, 0, 0], Tryz.func206, Tryz.ntmps206, C_q206, by kernel_rfl⟩
theorem C_q207 : cutF [] (compF Tryz.prog Tryz.f207) = some (A_q207, R_q207) := by kernel_rfl
theorem G_q207 : GoodFC Tryz.prog F_q207 T_q207 := ⟨Tryz.f207, [], Tryz.func207, Tryz.ntmps207, C_q207, by kernel_rfl⟩
theorem C_q208 : cutF [0] (compF Tryz.prog Tryz.f208) = some (A_q208, R_q208) := by kernel_rfl
theorem G_q208 : GoodFC Tryz.prog F_q208 T_q208 := ⟨Tryz.f208, [0], Tryz.func208, Tryz.ntmps208, C_q208, by kernel_rfl⟩
theorem C_q209 : cutF [] (compF Tryz.prog Tryz.f209) = some (A_q209, R_q209) := by kernel_rfl
theorem G_q209 : GoodFC Tryz.prog F_q209 T_q209 := ⟨Tryz.f209, [], Tryz.func209, Tryz.ntmps209, C_q209, by kernel_rfl⟩
theorem C_q210 : cutF [2] (compF Tryz.prog Tryz.f210) = some (A_q210, R_q210) := by kernel_rfl
theorem G_q210 : GoodFC Tryz.prog F_q210 T_q210 := ⟨Tryz.f210, [2], Tryz.func210, Tryz.ntmps210, C_q210, by kernel_rfl⟩
theorem C_q211 : cutF [1, 1] (compF Tryz.prog Tryz.f211) = some (A_q211, R_q211) := by kernel_rfl
theorem G_q211 : GoodFC Tryz.prog F_q211 T_q211 := ⟨Tryz.f211, [1, 1], Tryz.func211, Tryz.ntmps211, C_q211, by kernel_rfl⟩
theorem C_q228 : cutF [2] (compF Tryz.prog Tryz.f228) = some (A_q228, R_q228) := by kernel_rfl
theorem G_q228 : GoodFC Tryz.prog F_q228 T_q228 := ⟨Tryz.f228, [2], Tryz.func228, Tryz.ntmps228, C_q228, by kernel_rfl⟩
theorem C_q231 : cutF [1] (compF Tryz.prog Tryz.f231) = some (A_q231, R_q231) := by kernel_rfl
theorem G_q231 : GoodFC Tryz.prog F_q231 T_q231 := ⟨Tryz.f231, [1], Tryz.func231, Tryz.ntmps231, C_q231, by kernel_rfl⟩
theorem C_q233 : cutF [2, 3] (compF Tryz.prog Tryz.f233) = some (A_q233, R_q233) := by kernel_rfl
theorem G_q233 : GoodFC Tryz.prog F_q233 T_q233 := ⟨Tryz.f233, [2, 3], Tryz.func233, Tryz.ntmps233, C_q233, by kernel_rfl⟩
theorem C_q243 : cutF [2] (compF Tryz.prog Tryz.f243) = some (A_q243, R_q243) := by kernel_rfl
theorem G_q243 : GoodFC Tryz.prog F_q243 T_q243 := ⟨Tryz.f243, [2], Tryz.func243, Tryz.ntmps243, C_q243, by kernel_rfl⟩
theorem C_q250 : cutF [] (compF Tryz.prog Tryz.f250) = some (A_q250, R_q250) := by kernel_rfl
theorem G_q250 : GoodFC Tryz.prog F_q250 T_q250 := ⟨Tryz.f250, [], Tryz.func250, Tryz.ntmps250, C_q250, by kernel_rfl⟩
theorem C_q251 : cutF [] (compF Tryz.prog Tryz.f251) = some (A_q251, R_q251) := by kernel_rfl
theorem G_q251 : GoodFC Tryz.prog F_q251 T_q251 := ⟨Tryz.f251, [], Tryz.func251, Tryz.ntmps251, C_q251, by kernel_rfl⟩
theorem C_q252 : cutF [] (compF Tryz.prog Tryz.f252) = some (A_q252, R_q252) := by kernel_rfl
theorem G_q252 : GoodFC Tryz.prog F_q252 T_q252 := ⟨Tryz.f252, [], Tryz.func252, Tryz.ntmps252, C_q252, by kernel_rfl⟩
theorem C_q261 : cutF [] (compF Tryz.prog Tryz.f261) = some (A_q261, R_q261) := by kernel_rfl
theorem G_q261 : GoodFC Tryz.prog F_q261 T_q261 := ⟨Tryz.f261, [], Tryz.func261, Tryz.ntmps261, C_q261, by kernel_rfl⟩
theorem C_q265 : cutF [] (compF Tryz.prog Tryz.f265) = some (A_q265, R_q265) := by kernel_rfl
theorem G_q265 : GoodFC Tryz.prog F_q265 T_q265 := ⟨Tryz.f265, [], Tryz.func265, Tryz.ntmps265, C_q265, by kernel_rfl⟩
theorem C_q266 : cutF [] (compF Tryz.prog Tryz.f266) = some (A_q266, R_q266) := by kernel_rfl
theorem G_q266 : GoodFC Tryz.prog F_q266 T_q266 := ⟨Tryz.f266, [], Tryz.func266, Tryz.ntmps266, C_q266, by kernel_rfl⟩
theorem C_q267 : cutF [] (compF Tryz.prog Tryz.f267) = some (A_q267, R_q267) := by kernel_rfl
theorem G_q267 : GoodFC Tryz.prog F_q267 T_q267 := ⟨Tryz.f267, [], Tryz.func267, Tryz.ntmps267, C_q267, by kernel_rfl⟩
theorem C_q268 : cutF [] (compF Tryz.prog Tryz.f268) = some (A_q268, R_q268) := by kernel_rfl
theorem G_q268 : GoodFC Tryz.prog F_q268 T_q268 := ⟨Tryz.f268, [], Tryz.func268, Tryz.ntmps268, C_q268, by kernel_rfl⟩
theorem C_q269 : cutF [2] (compF Tryz.prog Tryz.f269) = some (A_q269, R_q269) := by kernel_rfl
theorem G_q269 : GoodFC Tryz.prog F_q269 T_q269 := ⟨Tryz.f269, [2], Tryz.func269, Tryz.ntmps269, C_q269, by kernel_rfl⟩
theorem C_q270 : cutF [] (compF Tryz.prog Tryz.f270) = some (A_q270, R_q270) := by kernel_rfl
theorem G_q270 : GoodFC Tryz.prog F_q270 T_q270 := ⟨Tryz.f270, [], Tryz.func270, Tryz.ntmps270, C_q270, by kernel_rfl⟩
theorem C_q272 : cutF [] (compF Tryz.prog Tryz.f272) = some (A_q272, R_q272) := by kernel_rfl
theorem G_q272 : GoodFC Tryz.prog F_q272 T_q272 := ⟨Tryz.f272, [], Tryz.func272, Tryz.ntmps272, C_q272, by kernel_rfl⟩
theorem C_q273 : cutF [2] (compF Tryz.prog Tryz.f273) = some (A_q273, R_q273) := by kernel_rfl
theorem G_q273 : GoodFC Tryz.prog F_q273 T_q273 := ⟨Tryz.f273, [2], Tryz.func273, Tryz.ntmps273, C_q273, by kernel_rfl⟩
theorem C_q274 : cutF [0, 0] (compF Tryz.prog Tryz.f274) = some (A_q274, R_q274) := by kernel_rfl
theorem G_q274 : GoodFC Tryz.prog F_q274 T_q274 := ⟨Tryz.f274, [0, 0], Tryz.func274, Tryz.ntmps274, C_q274, by kernel_rfl⟩
theorem C_q275 : cutF [] (compF Tryz.prog Tryz.f275) = some (A_q275, R_q275) := by kernel_rfl
theorem G_q275 : GoodFC Tryz.prog F_q275 T_q275 := ⟨Tryz.f275, [], Tryz.func275, Tryz.ntmps275, C_q275, by kernel_rfl⟩
theorem C_q277 : cutF [2, 3] (compF Tryz.prog Tryz.f277) = some (A_q277, R_q277) := by kernel_rfl
theorem G_q277 : GoodFC Tryz.prog F_q277 T_q277 := ⟨Tryz.f277, [2, 3], Tryz.func277, Tryz.ntmps277, C_q277, by kernel_rfl⟩
theorem C_q278 : cutF [0, 2] (compF Tryz.prog Tryz.f278) = some (A_q278, R_q278) := by kernel_rfl
theorem G_q278 : GoodFC Tryz.prog F_q278 T_q278 := ⟨Tryz.f278, [0, 2], Tryz.func278, Tryz.ntmps278, C_q278, by kernel_rfl⟩
theorem C_q279 : cutF [] (compF Tryz.prog Tryz.f279) = some (A_q279, R_q279) := by kernel_rfl
theorem G_q279 : GoodFC Tryz.prog F_q279 T_q279 := ⟨Tryz.f279, [], Tryz.func279, Tryz.ntmps279, C_q279, by kernel_rfl⟩
theorem C_q280 : cutF [0, 0] (compF Tryz.prog Tryz.f280) = some (A_q280, R_q280) := by kernel_rfl
theorem G_q280 : GoodFC Tryz.prog F_q280 T_q280 := ⟨Tryz.f280, [0, 0], Tryz.func280, Tryz.ntmps280, C_q280, by kernel_rfl⟩
theorem C_q281 : cutF [0, 2] (compF Tryz.prog Tryz.f281) = some (A_q281, R_q281) := by kernel_rfl
theorem G_q281 : GoodFC Tryz.prog F_q281 T_q281 := ⟨Tryz.f281, [0, 2], Tryz.func281, Tryz.ntmps281, C_q281, by kernel_rfl⟩
theorem C_q282 : cutF [] (compF Tryz.prog Tryz.f282) = some (A_q282, R_q282) := by kernel_rfl
theorem G_q282 : GoodFC Tryz.prog F_q282 T_q282 := ⟨Tryz.f282, [], Tryz.func282, Tryz.ntmps282, C_q282, by kernel_rfl⟩
theorem C_q283 : cutF [] (compF Tryz.prog Tryz.f283) = some (A_q283, R_q283) := by kernel_rfl
theorem G_q283 : GoodFC Tryz.prog F_q283 T_q283 := ⟨Tryz.f283, [], Tryz.func283, Tryz.ntmps283, C_q283, by kernel_rfl⟩
theorem C_q310 : cutF [] (compF Tryz.prog Tryz.f310) = some (A_q310, R_q310) := by kernel_rfl
theorem G_q310 : GoodFC Tryz.prog F_q310 T_q310 := ⟨Tryz.f310, [], Tryz.func310, Tryz.ntmps310, C_q310, by kernel_rfl⟩
theorem C_q311 : cutF [] (compF Tryz.prog Tryz.f311) = some (A_q311, R_q311) := by kernel_rfl
theorem G_q311 : GoodFC Tryz.prog F_q311 T_q311 := ⟨Tryz.f311, [], Tryz.func311, Tryz.ntmps311, C_q311, by kernel_rfl⟩
theorem C_q312 : cutF [2, 3] (compF Tryz.prog Tryz.f312) = some (A_q312, R_q312) := by kernel_rfl
theorem G_q312 : GoodFC Tryz.prog F_q312 T_q312 := ⟨Tryz.f312, [2, 3], Tryz.func312, Tryz.ntmps312, C_q312, by kernel_rfl⟩
theorem C_q320 : cutF [0, 0, 0] (compF Tryz.prog Tryz.f320) = some (A_q320, R_q320) := by kernel_rfl
theorem G_q320 : GoodFC Tryz.prog F_q320 T_q320 := ⟨Tryz.f320, [0, 0, 0], Tryz.func320, Tryz.ntmps320, C_q320, by kernel_rfl⟩
theorem C_q321 : cutF [2, 3] (compF Tryz.prog Tryz.f321) = some (A_q321, R_q321) := by kernel_rfl
theorem G_q321 : GoodFC Tryz.prog F_q321 T_q321 := ⟨Tryz.f321, [2, 3], Tryz.func321, Tryz.ntmps321, C_q321, by kernel_rfl⟩
theorem C_q324 : cutF [0] (compF Tryz.prog Tryz.f324) = some (A_q324, R_q324) := by kernel_rfl
theorem G_q324 : GoodFC Tryz.prog F_q324 T_q324 := ⟨Tryz.f324, [0], Tryz.func324, Tryz.ntmps324, C_q324, by kernel_rfl⟩
theorem C_q325 : cutF [1] (compF Tryz.prog Tryz.f325) = some (A_q325, R_q325) := by kernel_rfl
theorem G_q325 : GoodFC Tryz.prog F_q325 T_q325 := ⟨Tryz.f325, [1], Tryz.func325, Tryz.ntmps325, C_q325, by kernel_rfl⟩
theorem C_q326 : cutF [2] (compF Tryz.prog Tryz.f326) = some (A_q326, R_q326) := by kernel_rfl
theorem G_q326 : GoodFC Tryz.prog F_q326 T_q326 := ⟨Tryz.f326, [2], Tryz.func326, Tryz.ntmps326, C_q326, by kernel_rfl⟩
theorem C_q327 : cutF [] (compF Tryz.prog Tryz.f327) = some (A_q327, R_q327) := by kernel_rfl
theorem G_q327 : GoodFC Tryz.prog F_q327 T_q327 := ⟨Tryz.f327, [], Tryz.func327, Tryz.ntmps327, C_q327, by kernel_rfl⟩
theorem C_q347 : cutF [] (compF Tryz.prog Tryz.f347) = some (A_q347, R_q347) := by kernel_rfl
theorem G_q347 : GoodFC Tryz.prog F_q347 T_q347 := ⟨Tryz.f347, [], Tryz.func347, Tryz.ntmps347, C_q347, by kernel_rfl⟩
theorem C_q348 : cutF [1, 3, 3, 3, 3, 3, 3] (compF Tryz.prog Tryz.f348) = some (A_q348, R_q348) := by kernel_rfl
theorem G_q348 : GoodFC Tryz.prog F_q348 T_q348 := ⟨Tryz.f348, [1, 3, 3, 3, 3, 3, 3], Tryz.func348, Tryz.ntmps348, C_q348, by kernel_rfl⟩
theorem C_q359 : cutF [] (compF Tryz.prog Tryz.f359) = some (A_q359, R_q359) := by kernel_rfl
theorem G_q359 : GoodFC Tryz.prog F_q359 T_q359 := ⟨Tryz.f359, [], Tryz.func359, Tryz.ntmps359, C_q359, by kernel_rfl⟩
theorem C_q368 : cutF [2, 3] (compF Tryz.prog Tryz.f368) = some (A_q368, R_q368) := by kernel_rfl
theorem G_q368 : GoodFC Tryz.prog F_q368 T_q368 := ⟨Tryz.f368, [2, 3], Tryz.func368, Tryz.ntmps368, C_q368, by kernel_rfl⟩
theorem C_q385 : cutF [] (compF Tryz.prog Tryz.f385) = some (A_q385, R_q385) := by kernel_rfl
theorem G_q385 : GoodFC Tryz.prog F_q385 T_q385 := ⟨Tryz.f385, [], Tryz.func385, Tryz.ntmps385, C_q385, by kernel_rfl⟩
theorem C_q405 : cutF [0, 1] (compF Tryz.prog Tryz.f405) = some (A_q405, R_q405) := by kernel_rfl
theorem G_q405 : GoodFC Tryz.prog F_q405 T_q405 := ⟨Tryz.f405, [0, 1], Tryz.func405, Tryz.ntmps405, C_q405, by kernel_rfl⟩
theorem C_q406 : cutF [] (compF Tryz.prog Tryz.f406) = some (A_q406, R_q406) := by kernel_rfl
theorem G_q406 : GoodFC Tryz.prog F_q406 T_q406 := ⟨Tryz.f406, [], Tryz.func406, Tryz.ntmps406, C_q406, by kernel_rfl⟩
theorem C_q407 : cutF [] (compF Tryz.prog Tryz.f407) = some (A_q407, R_q407) := by kernel_rfl
theorem G_q407 : GoodFC Tryz.prog F_q407 T_q407 := ⟨Tryz.f407, [], Tryz.func407, Tryz.ntmps407, C_q407, by kernel_rfl⟩
theorem C_q408 : cutF [2, 0, 1, 0, 1] (compF Tryz.prog Tryz.f408) = some (A_q408, R_q408) := by kernel_rfl
theorem G_q408 : GoodFC Tryz.prog F_q408 T_q408 := ⟨Tryz.f408, [2, 0, 1, 0, 1], Tryz.func408, Tryz.ntmps408, C_q408, by kernel_rfl⟩
theorem C_q409 : cutF [1, 1] (compF Tryz.prog Tryz.f409) = some (A_q409, R_q409) := by kernel_rfl
theorem G_q409 : GoodFC Tryz.prog F_q409 T_q409 := ⟨Tryz.f409, [1, 1], Tryz.func409, Tryz.ntmps409, C_q409, by kernel_rfl⟩
theorem C_q410 : cutF [1, 2] (compF Tryz.prog Tryz.f410) = some (A_q410, R_q410) := by kernel_rfl
theorem G_q410 : GoodFC Tryz.prog F_q410 T_q410 := ⟨Tryz.f410, [1, 2], Tryz.func410, Tryz.ntmps410, C_q410, by kernel_rfl⟩
theorem C_q411 : cutF [] (compF Tryz.prog Tryz.f411) = some (A_q411, R_q411) := by kernel_rfl
theorem G_q411 : GoodFC Tryz.prog F_q411 T_q411 := ⟨Tryz.f411, [], Tryz.func411, Tryz.ntmps411, C_q411, by kernel_rfl⟩
theorem C_q412 : cutF [1, 2] (compF Tryz.prog Tryz.f412) = some (A_q412, R_q412) := by kernel_rfl
theorem G_q412 : GoodFC Tryz.prog F_q412 T_q412 := ⟨Tryz.f412, [1, 2], Tryz.func412, Tryz.ntmps412, C_q412, by kernel_rfl⟩
theorem C_q413 : cutF [] (compF Tryz.prog Tryz.f413) = some (A_q413, R_q413) := by kernel_rfl
theorem G_q413 : GoodFC Tryz.prog F_q413 T_q413 := ⟨Tryz.f413, [], Tryz.func413, Tryz.ntmps413, C_q413, by kernel_rfl⟩
theorem C_q414 : cutF [] (compF Tryz.prog Tryz.f414) = some (A_q414, R_q414) := by kernel_rfl
theorem G_q414 : GoodFC Tryz.prog F_q414 T_q414 := ⟨Tryz.f414, [], Tryz.func414, Tryz.ntmps414, C_q414, by kernel_rfl⟩
theorem C_q415 : cutF [2, 2, 2, 1] (compF Tryz.prog Tryz.f415) = some (A_q415, R_q415) := by kernel_rfl
theorem G_q415 : GoodFC Tryz.prog F_q415 T_q415 := ⟨Tryz.f415, [2, 2, 2, 1], Tryz.func415, Tryz.ntmps415, C_q415, by kernel_rfl⟩
theorem C_q424 : cutF [1, 0] (compF Tryz.prog Tryz.f424) = some (A_q424, R_q424) := by kernel_rfl
theorem G_q424 : GoodFC Tryz.prog F_q424 T_q424 := ⟨Tryz.f424, [1, 0], Tryz.func424, Tryz.ntmps424, C_q424, by kernel_rfl⟩
theorem C_q426 : cutF [2, 2, 3, 3] (compF Tryz.prog Tryz.f426) = some (A_q426, R_q426) := by kernel_rfl
theorem G_q426 : GoodFC Tryz.prog F_q426 T_q426 := ⟨Tryz.f426, [2, 2, 3, 3], Tryz.func426, Tryz.ntmps426, C_q426, by kernel_rfl⟩
theorem C_q434 : cutF [0, 2] (compF Tryz.prog Tryz.f434) = some (A_q434, R_q434) := by kernel_rfl
theorem G_q434 : GoodFC Tryz.prog F_q434 T_q434 := ⟨Tryz.f434, [0, 2], Tryz.func434, Tryz.ntmps434, C_q434, by kernel_rfl⟩
end Go.Proofs.YtpldnmjdoogghaaGreatDoor
