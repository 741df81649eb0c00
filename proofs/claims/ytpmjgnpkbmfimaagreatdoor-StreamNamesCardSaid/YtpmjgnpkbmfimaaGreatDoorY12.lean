/- Contracts of functions of the given program, in the logic L: texts put together; no conditions. -/
import Derived.Test.YtpmjgnpkbmfimaaGreatDoorY4
import Derived.Test.YtpmjgnpkbmfimaaGreatDoorProg
import Derived.KernelRfl
/- Each code is what the logic makes of the given program (by the kernel). Printed by program (gen_all.py). -/
namespace Go.Proofs.YtpmjgnpkbmfimaaGreatDoor
open Go.L
theorem C_lexiconlaw23_StreamNames : cutF [] (compF Tryz.prog Tryz.f3) = some (A_lexiconlaw23_StreamNames, R_lexiconlaw23_StreamNames) := by kernel_rfl
theorem G_lexiconlaw23_StreamNames : GoodFC Tryz.prog F_lexiconlaw23_StreamNames T_lexiconlaw23_StreamNames := ⟨Tryz.f3, [], Tryz.func3, Tryz.ntmps3, C_lexiconlaw23_StreamNames, by kernel_rfl⟩
theorem C_q4 : cutF [2, 2, 2] (compF Tryz.prog Tryz.f4) = some (A_q4, R_q4) := by kernel_rfl
theorem G_q4 : GoodFC Tryz.prog F_q4 T_q4 := ⟨Tryz.f4, [2, 2, 2], Tryz.func4, Tryz.ntmps4, C_q4, by kernel_rfl⟩
theorem C_q5 : cutF [2, 0, 2] (compF Tryz.prog Tryz.f5) = some (A_q5, R_q5) := by kernel_rfl
theorem G_q5 : GoodFC Tryz.prog F_q5 T_q5 := ⟨Tryz.f5, [2, 0, 2], Tryz.func5, Tryz.ntmps5, C_q5, by kernel_rfl⟩
theorem C_q6 : cutF [2] (compF Tryz.prog Tryz.f6) = some (A_q6, R_q6) := by kernel_rfl
theorem G_q6 : GoodFC Tryz.prog F_q6 T_q6 := ⟨Tryz.f6, [2], Tryz.func6, Tryz.ntmps6, C_q6, by kernel_rfl⟩
theorem C_q7 : cutF [0, 0] (compF Tryz.prog Tryz.f7) = some (A_q7, R_q7) := by kernel_rfl
theorem G_q7 : GoodFC Tryz.prog F_q7 T_q7 := ⟨Tryz.f7, [0, 0], Tryz.func7, Tryz.ntmps7, C_q7, by kernel_rfl⟩
theorem C_q8 : cutF [] (compF Tryz.prog Tryz.f8) = some (A_q8, R_q8) := by kernel_rfl
theorem G_q8 : GoodFC Tryz.prog F_q8 T_q8 := ⟨Tryz.f8, [], Tryz.func8, Tryz.ntmps8, C_q8, by kernel_rfl⟩
theorem C_q9 : cutF [2] (compF Tryz.prog Tryz.f9) = some (A_q9, R_q9) := by kernel_rfl
theorem G_q9 : GoodFC Tryz.prog F_q9 T_q9 := ⟨Tryz.f9, [2], Tryz.func9, Tryz.ntmps9, C_q9, by kernel_rfl⟩
theorem C_q10 : cutF [1] (compF Tryz.prog Tryz.f10) = some (A_q10, R_q10) := by kernel_rfl
theorem G_q10 : GoodFC Tryz.prog F_q10 T_q10 := ⟨Tryz.f10, [1], Tryz.func10, Tryz.ntmps10, C_q10, by kernel_rfl⟩
theorem C_q11 : cutF [2] (compF Tryz.prog Tryz.f11) = some (A_q11, R_q11) := by kernel_rfl
theorem G_q11 : GoodFC Tryz.prog F_q11 T_q11 := ⟨Tryz.f11, [2], Tryz.func11, Tryz.ntmps11, C_q11, by kernel_rfl⟩
theorem C_q12 : cutF [] (compF Tryz.prog Tryz.f12) = some (A_q12, R_q12) := by kernel_rfl
theorem G_q12 : GoodFC Tryz.prog F_q12 T_q12 := ⟨Tryz.f12, [], Tryz.func12, Tryz.ntmps12, C_q12, by kernel_rfl⟩
theorem C_q13 : cutF [2, 0, 0, 1, 1] (compF Tryz.prog Tryz.f13) = some (A_q13, R_q13) := by kernel_rfl
theorem G_q13 : GoodFC Tryz.prog F_q13 T_q13 := ⟨Tryz.f13, [2, 0, 0, 1, 1], Tryz.func13, Tryz.ntmps13, C_q13, by kernel_rfl⟩
theorem C_q14 : cutF [2] (compF Tryz.prog Tryz.f14) = some (A_q14, R_q14) := by kernel_rfl
theorem G_q14 : GoodFC Tryz.prog F_q14 T_q14 := ⟨Tryz.f14, [2], Tryz.func14, Tryz.ntmps14, C_q14, by kernel_rfl⟩
theorem C_q15 : cutF [] (compF Tryz.prog Tryz.f15) = some (A_q15, R_q15) := by kernel_rfl
theorem G_q15 : GoodFC Tryz.prog F_q15 T_q15 := ⟨Tryz.f15, [], Tryz.func15, Tryz.ntmps15, C_q15, by kernel_rfl⟩
theorem C_q16 : cutF [2] (compF Tryz.prog Tryz.f16) = some (A_q16, R_q16) := by kernel_rfl
theorem G_q16 : GoodFC Tryz.prog F_q16 T_q16 := ⟨Tryz.f16, [2], Tryz.func16, Tryz.ntmps16, C_q16, by kernel_rfl⟩
theorem C_q17 : cutF [1] (compF Tryz.prog Tryz.f17) = some (A_q17, R_q17) := by kernel_rfl
theorem G_q17 : GoodFC Tryz.prog F_q17 T_q17 := ⟨Tryz.f17, [1], Tryz.func17, Tryz.ntmps17, C_q17, by kernel_rfl⟩
theorem C_q18 : cutF [2, 2] (compF Tryz.prog Tryz.f18) = some (A_q18, R_q18) := by kernel_rfl
theorem G_q18 : GoodFC Tryz.prog F_q18 T_q18 := ⟨Tryz.f18, [2, 2], Tryz.func18, Tryz.ntmps18, C_q18, by kernel_rfl⟩
theorem C_q19 : cutF [] (compF Tryz.prog Tryz.f19) = some (A_q19, R_q19) := by kernel_rfl
theorem G_q19 : GoodFC Tryz.prog F_q19 T_q19 := ⟨Tryz.f19, [], Tryz.func19, Tryz.ntmps19, C_q19, by kernel_rfl⟩
theorem C_q20 : cutF [] (compF Tryz.prog Tryz.f20) = some (A_q20, R_q20) := by kernel_rfl
theorem G_q20 : GoodFC Tryz.prog F_q20 T_q20 := ⟨Tryz.f20, [], Tryz.func20, Tryz.ntmps20, C_q20, by kernel_rfl⟩
theorem C_q21 : cutF [2, 2, 2] (compF Tryz.prog Tryz.f21) = some (A_q21, R_q21) := by kernel_rfl
theorem G_q21 : GoodFC Tryz.prog F_q21 T_q21 := ⟨Tryz.f21, [2, 2, 2], Tryz.func21, Tryz.ntmps21, C_q21, by kernel_rfl⟩
theorem C_q22 : cutF [2] (compF Tryz.prog Tryz.f22) = some (A_q22, R_q22) := by kernel_rfl
theorem G_q22 : GoodFC Tryz.prog F_q22 T_q22 := ⟨Tryz.f22, [2], Tryz.func22, Tryz.ntmps22, C_q22, by kernel_rfl⟩
theorem C_q24 : cutF [0, 2, 1, 2, 0, 2] (compF Tryz.prog Tryz.f24) = some (A_q24, R_q24) := by kernel_rfl
theorem G_q24 : GoodFC Tryz.prog F_q24 T_q24 := ⟨Tryz.f24, [0, 2, 1, 2, 0, 2], Tryz.func24, Tryz.ntmps24, C_q24, by kernel_rfl⟩
theorem C_q25 : cutF [0, 2, 3] (compF Tryz.prog Tryz.f25) = some (A_q25, R_q25) := by kernel_rfl
theorem G_q25 : GoodFC Tryz.prog F_q25 T_q25 := ⟨Tryz.f25, [0, 2, 3], Tryz.func25, Tryz.ntmps25, C_q25, by kernel_rfl⟩
theorem C_q26 : cutF [0, 0] (compF Tryz.prog Tryz.f26) = some (A_q26, R_q26) := by kernel_rfl
theorem G_q26 : GoodFC Tryz.prog F_q26 T_q26 := ⟨Tryz.f26, [0, 0], Tryz.func26, Tryz.ntmps26, C_q26, by kernel_rfl⟩
theorem C_q27 : cutF [0, 0, 0, 0, 2, 2] (compF Tryz.prog Tryz.f27) = some (A_q27, R_q27) := by kernel_rfl
theorem G_q27 : GoodFC Tryz.prog F_q27 T_q27 := ⟨Tryz.f27, [0, 0, 0, 0, 2, 2], Tryz.func27, Tryz.ntmps27, C_q27, by kernel_rfl⟩
theorem C_q28 : cutF [0] (compF Tryz.prog Tryz.f28) = some (A_q28, R_q28) := by kernel_rfl
theorem G_q28 : GoodFC Tryz.prog F_q28 T_q28 := ⟨Tryz.f28, [0], Tryz.func28, Tryz.ntmps28, C_q28, by kernel_rfl⟩
theorem C_q29 : cutF [0, 1, 1, 0, 0] (compF Tryz.prog Tryz.f29) = some (A_q29, R_q29) := by kernel_rfl
theorem G_q29 : GoodFC Tryz.prog F_q29 T_q29 := ⟨Tryz.f29, [0, 1, 1, 0, 0], Tryz.func29, Tryz.ntmps29, C_q29, by kernel_rfl⟩
theorem C_q30 : cutF [] (compF Tryz.prog Tryz.f30) = some (A_q30, R_q30) := by kernel_rfl
theorem G_q30 : GoodFC Tryz.prog F_q30 T_q30 := ⟨Tryz.f30, [], Tryz.func30, Tryz.ntmps30, C_q30, by kernel_rfl⟩
theorem C_q31 : cutF [] (compF Tryz.prog Tryz.f31) = some (A_q31, R_q31) := by kernel_rfl
theorem G_q31 : GoodFC Tryz.prog F_q31 T_q31 := ⟨Tryz.f31, [], Tryz.func31, Tryz.ntmps31, C_q31, by kernel_rfl⟩
theorem C_q32 : cutF [] (compF Tryz.prog Tryz.f32) = some (A_q32, R_q32) := by kernel_rfl
theorem G_q32 : GoodFC Tryz.prog F_q32 T_q32 := ⟨Tryz.f32, [], Tryz.func32, Tryz.ntmps32, C_q32, by kernel_rfl⟩
theorem C_q33 : cutF [2, 1] (compF Tryz.prog Tryz.f33) = some (A_q33, R_q33) := by kernel_rfl
theorem G_q33 : GoodFC Tryz.prog F_q33 T_q33 := ⟨Tryz.f33, [2, 1], Tryz.func33, Tryz.ntmps33, C_q33, by kernel_rfl⟩
theorem C_q34 : cutF [2, 2, 2] (compF Tryz.prog Tryz.f34) = some (A_q34, R_q34) := by kernel_rfl
theorem G_q34 : GoodFC Tryz.prog F_q34 T_q34 := ⟨Tryz.f34, [2, 2, 2], Tryz.func34, Tryz.ntmps34, C_q34, by kernel_rfl⟩
theorem C_q35 : cutF [] (compF Tryz.prog Tryz.f35) = some (A_q35, R_q35) := by kernel_rfl
theorem G_q35 : GoodFC Tryz.prog F_q35 T_q35 := ⟨Tryz.f35, [], Tryz.func35, Tryz.ntmps35, C_q35, by kernel_rfl⟩
theorem C_q36 : cutF [] (compF Tryz.prog Tryz.f36) = some (A_q36, R_q36) := by kernel_rfl
theorem G_q36 : GoodFC Tryz.prog F_q36 T_q36 := ⟨Tryz.f36, [], Tryz.func36, Tryz.ntmps36, C_q36, by kernel_rfl⟩
theorem C_q37 : cutF [2, 2, 2] (compF Tryz.prog Tryz.f37) = some (A_q37, R_q37) := by kernel_rfl
theorem G_q37 : GoodFC Tryz.prog F_q37 T_q37 := ⟨Tryz.f37, [2, 2, 2], Tryz.func37, Tryz.ntmps37, C_q37, by kernel_rfl⟩
theorem C_q38 : cutF [2] (compF Tryz.prog Tryz.f38) = some (A_q38, R_q38) := by kernel_rfl
theorem G_q38 : GoodFC Tryz.prog F_q38 T_q38 := ⟨Tryz.f38, [2], Tryz.func38, Tryz.ntmps38, C_q38, by kernel_rfl⟩
theorem C_q39 : cutF [] (compF Tryz.prog Tryz.f39) = some (A_q39, R_q39) := by kernel_rfl
theorem G_q39 : GoodFC Tryz.prog F_q39 T_q39 := ⟨Tryz.f39, [], Tryz.func39, Tryz.ntmps39, C_q39, by kernel_rfl⟩
theorem C_q40 : cutF [2] (compF Tryz.prog Tryz.f40) = some (A_q40, R_q40) := by kernel_rfl
theorem G_q40 : GoodFC Tryz.prog F_q40 T_q40 := ⟨Tryz.f40, [2], Tryz.func40, Tryz.ntmps40, C_q40, by kernel_rfl⟩
theorem C_q41 : cutF [0] (compF Tryz.prog Tryz.f41) = some (A_q41, R_q41) := by kernel_rfl
theorem G_q41 : GoodFC Tryz.prog F_q41 T_q41 := ⟨Tryz.f41, [0], Tryz.func41, Tryz.ntmps41, C_q41, by kernel_rfl⟩
theorem C_q42 : cutF [] (compF Tryz.prog Tryz.f42) = some (A_q42, R_q42) := by kernel_rfl
theorem G_q42 : GoodFC Tryz.prog F_q42 T_q42 := ⟨Tryz.f42, [], Tryz.func42, Tryz.ntmps42, C_q42, by kernel_rfl⟩
theorem C_q43 : cutF [2, 1, 2, 2, 1] (compF Tryz.prog Tryz.f43) = some (A_q43, R_q43) := by kernel_rfl
theorem G_q43 : GoodFC Tryz.prog F_q43 T_q43 := ⟨Tryz.f43, [2, 1, 2, 2, 1], Tryz.func43, Tryz.ntmps43, C_q43, by kernel_rfl⟩
theorem C_q44 : cutF [0] (compF Tryz.prog Tryz.f44) = some (A_q44, R_q44) := by kernel_rfl
theorem G_q44 : GoodFC Tryz.prog F_q44 T_q44 := ⟨Tryz.f44, [0], Tryz.func44, Tryz.ntmps44, C_q44, by kernel_rfl⟩
theorem C_q46 : cutF [] (compF Tryz.prog Tryz.f46) = some (A_q46, R_q46) := by kernel_rfl
theorem G_q46 : GoodFC Tryz.prog F_q46 T_q46 := ⟨Tryz.f46, [], Tryz.func46, Tryz.ntmps46, C_q46, by kernel_rfl⟩
theorem C_q48 : cutF [] (compF Tryz.prog Tryz.f48) = some (A_q48, R_q48) := by kernel_rfl
theorem G_q48 : GoodFC Tryz.prog F_q48 T_q48 := ⟨Tryz.f48, [], Tryz.func48, Tryz.ntmps48, C_q48, by kernel_rfl⟩
theorem C_q49 : cutF [] (compF Tryz.prog Tryz.f49) = some (A_q49, R_q49) := by kernel_rfl
theorem G_q49 : GoodFC Tryz.prog F_q49 T_q49 := ⟨Tryz.f49, [], Tryz.func49, Tryz.ntmps49, C_q49, by kernel_rfl⟩
theorem C_q50 : cutF [2, 3, 3] (compF Tryz.prog Tryz.f50) = some (A_q50, R_q50) := by kernel_rfl
theorem G_q50 : GoodFC Tryz.prog F_q50 T_q50 := ⟨Tryz.f50, [2, 3, 3], Tryz.func50, Tryz.ntmps50, C_q50, by kernel_rfl⟩
theorem C_q51 : cutF [2, 2, 3] (compF Tryz.prog Tryz.f51) = some (A_q51, R_q51) := by kernel_rfl
theorem G_q51 : GoodFC Tryz.prog F_q51 T_q51 := ⟨Tryz.f51, [2, 2, 3], Tryz.func51, Tryz.ntmps51, C_q51, by kernel_rfl⟩
theorem C_q52 : cutF [] (compF Tryz.prog Tryz.f52) = some (A_q52, R_q52) := by kernel_rfl
theorem G_q52 : GoodFC Tryz.prog F_q52 T_q52 := ⟨Tryz.f52, [], Tryz.func52, Tryz.ntmps52, C_q52, by kernel_rfl⟩
theorem C_q53 : cutF [0, 0] (compF Tryz.prog Tryz.f53) = some (A_q53, R_q53) := by kernel_rfl
theorem G_q53 : GoodFC Tryz.prog F_q53 T_q53 := ⟨Tryz.f53, [0, 0], Tryz.func53, Tryz.ntmps53, C_q53, by kernel_rfl⟩
theorem C_q54 : cutF [0, 0] (compF Tryz.prog Tryz.f54) = some (A_q54, R_q54) := by kernel_rfl
theorem G_q54 : GoodFC Tryz.prog F_q54 T_q54 := ⟨Tryz.f54, [0, 0], Tryz.func54, Tryz.ntmps54, C_q54, by kernel_rfl⟩
theorem C_q56 : cutF [] (compF Tryz.prog Tryz.f56) = some (A_q56, R_q56) := by kernel_rfl
theorem G_q56 : GoodFC Tryz.prog F_q56 T_q56 := ⟨Tryz.f56, [], Tryz.func56, Tryz.ntmps56, C_q56, by kernel_rfl⟩
theorem C_q57 : cutF [0, 1, 0, 0, 0, 1] (compF Tryz.prog Tryz.f57) = some (A_q57, R_q57) := by kernel_rfl
theorem G_q57 : GoodFC Tryz.prog F_q57 T_q57 := ⟨Tryz.f57, [0, 1, 0, 0, 0, 1], Tryz.func57, Tryz.ntmps57, C_q57, by kernel_rfl⟩
theorem C_q58 : cutF [] (compF Tryz.prog Tryz.f58) = some (A_q58, R_q58) := by kernel_rfl
theorem G_q58 : GoodFC Tryz.prog F_q58 T_q58 := ⟨Tryz.f58, [], Tryz.func58, Tryz.ntmps58, C_q58, by kernel_rfl⟩
theorem C_q59 : cutF [2, 2] (compF Tryz.prog Tryz.f59) = some (A_q59, R_q59) := by kernel_rfl
theorem G_q59 : GoodFC Tryz.prog F_q59 T_q59 := ⟨Tryz.f59, [2, 2], Tryz.func59, Tryz.ntmps59, C_q59, by kernel_rfl⟩
theorem C_q60 : cutF [2, 2, 1, 0] (compF Tryz.prog Tryz.f60) = some (A_q60, R_q60) := by kernel_rfl
theorem G_q60 : GoodFC Tryz.prog F_q60 T_q60 := ⟨Tryz.f60, [2, 2, 1, 0], Tryz.func60, Tryz.ntmps60, C_q60, by kernel_rfl⟩
theorem C_q61 : cutF [] (compF Tryz.prog Tryz.f61) = some (A_q61, R_q61) := by kernel_rfl
theorem G_q61 : GoodFC Tryz.prog F_q61 T_q61 := ⟨Tryz.f61, [], Tryz.func61, Tryz.ntmps61, C_q61, by kernel_rfl⟩
theorem C_q62 : cutF [2] (compF Tryz.prog Tryz.f62) = some (A_q62, R_q62) := by kernel_rfl
theorem G_q62 : GoodFC Tryz.prog F_q62 T_q62 := ⟨Tryz.f62, [2], Tryz.func62, Tryz.ntmps62, C_q62, by kernel_rfl⟩
theorem C_q63 : cutF [1] (compF Tryz.prog Tryz.f63) = some (A_q63, R_q63) := by kernel_rfl
theorem G_q63 : GoodFC Tryz.prog F_q63 T_q63 := ⟨Tryz.f63, [1], Tryz.func63, Tryz.ntmps63, C_q63, by kernel_rfl⟩
theorem C_q64 : cutF [] (compF Tryz.prog Tryz.f64) = some (A_q64, R_q64) := by kernel_rfl
theorem G_q64 : GoodFC Tryz.prog F_q64 T_q64 := ⟨Tryz.f64, [], Tryz.func64, Tryz.ntmps64, C_q64, by kernel_rfl⟩
theorem C_q65 : cutF [0, 2, 2, 2, 0, 2] (compF Tryz.prog Tryz.f65) = some (A_q65, R_q65) := by kernel_rfl
theorem G_q65 : GoodFC Tryz.prog F_q65 T_q65 := ⟨Tryz.f65, [0, 2, 2, 2, 0, 2], Tryz.func65, Tryz.ntmps65, C_q65, by kernel_rfl⟩
theorem C_q66 : cutF [0, 1, 1, 1] (compF Tryz.prog Tryz.f66) = some (A_q66, R_q66) := by kernel_rfl
theorem G_q66 : GoodFC Tryz.prog F_q66 T_q66 := ⟨Tryz.f66, [0, 1, 1, 1], Tryz.func66, Tryz.ntmps66, C_q66, by kernel_rfl⟩
theorem C_q67 : cutF [2, 2, 0, 0, 2, 0, 2, 2, 2] (compF Tryz.prog Tryz.f67) = some (A_q67, R_q67) := by kernel_rfl
theorem G_q67 : GoodFC Tryz.prog F_q67 T_q67 := ⟨Tryz.f67, [2, 2, 0, 0, 2, 0, 2, 2, 2], Tryz.func67, Tryz.ntmps67, C_q67, by kernel_rfl⟩
theorem C_q68 : cutF [2, 2, 2] (compF Tryz.prog Tryz.f68) = some (A_q68, R_q68) := by kernel_rfl
theorem G_q68 : GoodFC Tryz.prog F_q68 T_q68 := ⟨Tryz.f68, [2, 2, 2], Tryz.func68, Tryz.ntmps68, C_q68, by kernel_rfl⟩
theorem C_q69 : cutF [1] (compF Tryz.prog Tryz.f69) = some (A_q69, R_q69) := by kernel_rfl
theorem G_q69 : GoodFC Tryz.prog F_q69 T_q69 := ⟨Tryz.f69, [1], Tryz.func69, Tryz.ntmps69, C_q69, by kernel_rfl⟩
theorem C_q70 : cutF [1] (compF Tryz.prog Tryz.f70) = some (A_q70, R_q70) := by kernel_rfl
theorem G_q70 : GoodFC Tryz.prog F_q70 T_q70 := ⟨Tryz.f70, [1], Tryz.func70, Tryz.ntmps70, C_q70, by kernel_rfl⟩
theorem C_q71 : cutF [0, 0] (compF Tryz.prog Tryz.f71) = some (A_q71, R_q71) := by kernel_rfl
theorem G_q71 : GoodFC Tryz.prog F_q71 T_q71 := ⟨Tryz.f71, [0, 0], Tryz.func71, Tryz.ntmps71, C_q71, by kernel_rfl⟩
theorem C_q72 : cutF [] (compF Tryz.prog Tryz.f72) = some (A_q72, R_q72) := by kernel_rfl
theorem G_q72 : GoodFC Tryz.prog F_q72 T_q72 := ⟨Tryz.f72, [], Tryz.func72, Tryz.ntmps72, C_q72, by kernel_rfl⟩
theorem C_q73 : cutF [] (compF Tryz.prog Tryz.f73) = some (A_q73, R_q73) := by kernel_rfl
theorem G_q73 : GoodFC Tryz.prog F_q73 T_q73 := ⟨Tryz.f73, [], Tryz.func73, Tryz.ntmps73, C_q73, by kernel_rfl⟩
theorem C_q74 : cutF [1] (compF Tryz.prog Tryz.f74) = some (A_q74, R_q74) := by kernel_rfl
theorem G_q74 : GoodFC Tryz.prog F_q74 T_q74 := ⟨Tryz.f74, [1], Tryz.func74, Tryz.ntmps74, C_q74, by kernel_rfl⟩
theorem C_q75 : cutF [1, 1, 2, 1, 0, 0] (compF Tryz.prog Tryz.f75) = some (A_q75, R_q75) := by kernel_rfl
theorem G_q75 : GoodFC Tryz.prog F_q75 T_q75 := ⟨Tryz.f75, [1, 1, 2, 1, 0, 0], Tryz.func75, Tryz.ntmps75, C_q75, by kernel_rfl⟩
theorem C_q76 : cutF [] (compF Tryz.prog Tryz.f76) = some (A_q76, R_q76) := by kernel_rfl
theorem G_q76 : GoodFC Tryz.prog F_q76 T_q76 := ⟨Tryz.f76, [], Tryz.func76, Tryz.ntmps76, C_q76, by kernel_rfl⟩
theorem C_q77 : cutF [] (compF Tryz.prog Tryz.f77) = some (A_q77, R_q77) := by kernel_rfl
theorem G_q77 : GoodFC Tryz.prog F_q77 T_q77 := ⟨Tryz.f77, [], Tryz.func77, Tryz.ntmps77, C_q77, by kernel_rfl⟩
theorem C_q78 : cutF [0, 1] (compF Tryz.prog Tryz.f78) = some (A_q78, R_q78) := by kernel_rfl
theorem G_q78 : GoodFC Tryz.prog F_q78 T_q78 := ⟨Tryz.f78, [0, 1], Tryz.func78, Tryz.ntmps78, C_q78, by kernel_rfl⟩
theorem C_q79 : cutF [0] (compF Tryz.prog Tryz.f79) = some (A_q79, R_q79) := by kernel_rfl
theorem G_q79 : GoodFC Tryz.prog F_q79 T_q79 := ⟨Tryz.f79, [0], Tryz.func79, Tryz.ntmps79, C_q79, by kernel_rfl⟩
theorem C_q80 : cutF [0, 0, 2, 2] (compF Tryz.prog Tryz.f80) = some (A_q80, R_q80) := by kernel_rfl
theorem G_q80 : GoodFC Tryz.prog F_q80 T_q80 := ⟨Tryz.f80, [0, 0, 2, 2], Tryz.func80, Tryz.ntmps80, C_q80, by kernel_rfl⟩
theorem C_q81 : cutF [] (compF Tryz.prog Tryz.f81) = some (A_q81, R_q81) := by kernel_rfl
theorem G_q81 : GoodFC Tryz.prog F_q81 T_q81 := ⟨Tryz.f81, [], Tryz.func81, Tryz.ntmps81, C_q81, by kernel_rfl⟩
theorem C_q82 : cutF [1] (compF Tryz.prog Tryz.f82) = some (A_q82, R_q82) := by kernel_rfl
theorem G_q82 : GoodFC Tryz.prog F_q82 T_q82 := ⟨Tryz.f82, [1], Tryz.func82, Tryz.ntmps82, C_q82, by kernel_rfl⟩
theorem C_q83 : cutF [1, 1] (compF Tryz.prog Tryz.f83) = some (A_q83, R_q83) := by kernel_rfl
theorem G_q83 : GoodFC Tryz.prog F_q83 T_q83 := ⟨Tryz.f83, [1, 1], Tryz.func83, Tryz.ntmps83, C_q83, by kernel_rfl⟩
theorem C_q84 : cutF [2, 2, 0, 1] (compF Tryz.prog Tryz.f84) = some (A_q84, R_q84) := by kernel_rfl
theorem G_q84 : GoodFC Tryz.prog F_q84 T_q84 := ⟨Tryz.f84, [2, 2, 0, 1], Tryz.func84, Tryz.ntmps84, C_q84, by kernel_rfl⟩
theorem C_q85 : cutF [2, 2, 0, 0] (compF Tryz.prog Tryz.f85) = some (A_q85, R_q85) := by kernel_rfl
theorem G_q85 : GoodFC Tryz.prog F_q85 T_q85 := ⟨Tryz.f85, [2, 2, 0, 0], Tryz.func85, Tryz.ntmps85, C_q85, by kernel_rfl⟩
theorem C_q86 : cutF [0, 2, 0, 2] (compF Tryz.prog Tryz.f86) = some (A_q86, R_q86) := by kernel_rfl
theorem G_q86 : GoodFC Tryz.prog F_q86 T_q86 := ⟨Tryz.f86, [0, 2, 0, 2], Tryz.func86, Tryz.ntmps86, C_q86, by kernel_rfl⟩
theorem C_q87 : cutF [2, 3] (compF Tryz.prog Tryz.f87) = some (A_q87, R_q87) := by kernel_rfl
theorem G_q87 : GoodFC Tryz.prog F_q87 T_q87 := ⟨Tryz.f87, [2, 3], Tryz.func87, Tryz.ntmps87, C_q87, by kernel_rfl⟩
theorem C_q88 : cutF [] (compF Tryz.prog Tryz.f88) = some (A_q88, R_q88) := by kernel_rfl
theorem G_q88 : GoodFC Tryz.prog F_q88 T_q88 := ⟨Tryz.f88, [], Tryz.func88, Tryz.ntmps88, C_q88, by kernel_rfl⟩
theorem C_q89 : cutF [1, 3, 3, 3, 3, 3, 3] (compF Tryz.prog Tryz.f89) = some (A_q89, R_q89) := by kernel_rfl
theorem G_q89 : GoodFC Tryz.prog F_q89 T_q89 := ⟨Tryz.f89, [1, 3, 3, 3, 3, 3, 3], Tryz.func89, Tryz.ntmps89, C_q89, by kernel_rfl⟩
theorem C_q90 : cutF [2] (compF Tryz.prog Tryz.f90) = some (A_q90, R_q90) := by kernel_rfl
theorem G_q90 : GoodFC Tryz.prog F_q90 T_q90 := ⟨Tryz.f90, [2], Tryz.func90, Tryz.ntmps90, C_q90, by kernel_rfl⟩
theorem C_q91 : cutF [2, 2, 1] (compF Tryz.prog Tryz.f91) = some (A_q91, R_q91) := by kernel_rfl
theorem G_q91 : GoodFC Tryz.prog F_q91 T_q91 := ⟨Tryz.f91, [2, 2, 1], Tryz.func91, Tryz.ntmps91, C_q91, by kernel_rfl⟩
theorem C_q92 : cutF [2] (compF Tryz.prog Tryz.f92) = some (A_q92, R_q92) := by kernel_rfl
theorem G_q92 : GoodFC Tryz.prog F_q92 T_q92 := ⟨Tryz.f92, [2], Tryz.func92, Tryz.ntmps92, C_q92, by kernel_rfl⟩
theorem C_q93 : cutF [1, 0, 2, 1, 0, 2, 2, 2] (compF Tryz.prog Tryz.f93) = some (A_q93, R_q93) := by kernel_rfl
theorem G_q93 : GoodFC Tryz.prog F_q93 T_q93 := ⟨Tryz.f93, [1, 0, 2, 1, 0, 2, 2, 2], Tryz.func93, Tryz.ntmps93, C_q93, by kernel_rfl⟩
theorem C_q94 : cutF [] (compF Tryz.prog Tryz.f94) = some (A_q94, R_q94) := by kernel_rfl
theorem G_q94 : GoodFC Tryz.prog F_q94 T_q94 := ⟨Tryz.f94, [], Tryz.func94, Tryz.ntmps94, C_q94, by kernel_rfl⟩
theorem C_q96 : cutF [] (compF Tryz.prog Tryz.f96) = some (A_q96, R_q96) := by kernel_rfl
theorem G_q96 : GoodFC Tryz.prog F_q96 T_q96 := ⟨Tryz.f96, [], Tryz.func96, Tryz.ntmps96, C_q96, by kernel_rfl⟩
theorem C_q97 : cutF [2, 2, 2, 2, 2, 2, 1, 1] (compF Tryz.prog Tryz.f97) = some (A_q97, R_q97) := by kernel_rfl
theorem G_q97 : GoodFC Tryz.prog F_q97 T_q97 := ⟨Tryz.f97, [2, 2, 2, 2, 2, 2, 1, 1], Tryz.func97, Tryz.ntmps97, C_q97, by kernel_rfl⟩
theorem C_q98 : cutF [2, 2, 1] (compF Tryz.prog Tryz.f98) = some (A_q98, R_q98) := by kernel_rfl
theorem G_q98 : GoodFC Tryz.prog F_q98 T_q98 := ⟨Tryz.f98, [2, 2, 1], Tryz.func98, Tryz.ntmps98, C_q98, by kernel_rfl⟩
theorem C_q101 : cutF [2] (compF Tryz.prog Tryz.f101) = some (A_q101, R_q101) := by kernel_rfl
theorem G_q101 : GoodFC Tryz.prog F_q101 T_q101 := ⟨Tryz.f101, [2], Tryz.func101, Tryz.ntmps101, C_q101, by kernel_rfl⟩
theorem C_q102 : cutF [] (compF Tryz.prog Tryz.f102) = some (A_q102, R_q102) := by kernel_rfl
theorem G_q102 : GoodFC Tryz.prog F_q102 T_q102 := ⟨Tryz.f102, [], Tryz.func102, Tryz.ntmps102, C_q102, by kernel_rfl⟩
theorem C_q103 : cutF [1] (compF Tryz.prog Tryz.f103) = some (A_q103, R_q103) := by kernel_rfl
theorem G_q103 : GoodFC Tryz.prog F_q103 T_q103 := ⟨Tryz.f103, [1], Tryz.func103, Tryz.ntmps103, C_q103, by kernel_rfl⟩
theorem C_q104 : cutF [1] (compF Tryz.prog Tryz.f104) = some (A_q104, R_q104) := by kernel_rfl
theorem G_q104 : GoodFC Tryz.prog F_q104 T_q104 := ⟨Tryz.f104, [1], Tryz.func104, Tryz.ntmps104, C_q104, by kernel_rfl⟩
theorem C_q105 : cutF [2] (compF Tryz.prog Tryz.f105) = some (A_q105, R_q105) := by kernel_rfl
theorem G_q105 : GoodFC Tryz.prog F_q105 T_q105 := ⟨Tryz.f105, [2], Tryz.func105, Tryz.ntmps105, C_q105, by kernel_rfl⟩
theorem C_q106 : cutF [2] (compF Tryz.prog Tryz.f106) = some (A_q106, R_q106) := by kernel_rfl
theorem G_q106 : GoodFC Tryz.prog F_q106 T_q106 := ⟨Tryz.f106, [2], Tryz.func106, Tryz.ntmps106, C_q106, by kernel_rfl⟩
theorem C_q107 : cutF [1, 0] (compF Tryz.prog Tryz.f107) = some (A_q107, R_q107) := by kernel_rfl
theorem G_q107 : GoodFC Tryz.prog F_q107 T_q107 := ⟨Tryz.f107, [1, 0], Tryz.func107, Tryz.ntmps107, C_q107, by kernel_rfl⟩
theorem C_q108 : cutF [] (compF Tryz.prog Tryz.f108) = some (A_q108, R_q108) := by kernel_rfl
theorem G_q108 : GoodFC Tryz.prog F_q108 T_q108 := ⟨Tryz.f108, [], Tryz.func108, Tryz.ntmps108, C_q108, by kernel_rfl⟩
theorem C_q109 : cutF [2] (compF Tryz.prog Tryz.f109) = some (A_q109, R_q109) := by kernel_rfl
theorem G_q109 : GoodFC Tryz.prog F_q109 T_q109 := ⟨Tryz.f109, [2], Tryz.func109, Tryz.ntmps109, C_q109, by kernel_rfl⟩
theorem C_q110 : cutF [] (compF Tryz.prog Tryz.f110) = some (A_q110, R_q110) := by kernel_rfl
theorem G_q110 : GoodFC Tryz.prog F_q110 T_q110 := ⟨Tryz.f110, [], Tryz.func110, Tryz.ntmps110, C_q110, by kernel_rfl⟩
theorem C_q111 : cutF [] (compF Tryz.prog Tryz.f111) = some (A_q111, R_q111) := by kernel_rfl
theorem G_q111 : GoodFC Tryz.prog F_q111 T_q111 := ⟨Tryz.f111, [], Tryz.func111, Tryz.ntmps111, C_q111, by kernel_rfl⟩
theorem C_q112 : cutF [] (compF Tryz.prog Tryz.f112) = some (A_q112, R_q112) := by kernel_rfl
theorem G_q112 : GoodFC Tryz.prog F_q112 T_q112 := ⟨Tryz.f112, [], Tryz.func112, Tryz.ntmps112, C_q112, by kernel_rfl⟩
theorem C_q116 : cutF [] (compF Tryz.prog Tryz.f116) = some (A_q116, R_q116) := by kernel_rfl
theorem G_q116 : GoodFC Tryz.prog F_q116 T_q116 := ⟨Tryz.f116, [], Tryz.func116, Tryz.ntmps116, C_q116, by kernel_rfl⟩
theorem C_q117 : cutF [] (compF Tryz.prog Tryz.f117) = some (A_q117, R_q117) := by kernel_rfl
theorem G_q117 : GoodFC Tryz.prog F_q117 T_q117 := ⟨Tryz.f117, [], Tryz.func117, Tryz.ntmps117, C_q117, by kernel_rfl⟩
theorem C_q118 : cutF [] (compF Tryz.prog Tryz.f118) = some (A_q118, R_q118) := by kernel_rfl
theorem G_q118 : GoodFC Tryz.prog F_q118 T_q118 := ⟨Tryz.f118, [], Tryz.func118, Tryz.ntmps118, C_q118, by kernel_rfl⟩
theorem C_q119 : cutF [] (compF Tryz.prog Tryz.f119) = some (A_q119, R_q119) := by kernel_rfl
theorem G_q119 : GoodFC Tryz.prog F_q119 T_q119 := ⟨Tryz.f119, [], Tryz.func119, Tryz.ntmps119, C_q119, by kernel_rfl⟩
theorem C_q120 : cutF [0, 2] (compF Tryz.prog Tryz.f120) = some (A_q120, R_q120) := by kernel_rfl
theorem G_q120 : GoodFC Tryz.prog F_q120 T_q120 := ⟨Tryz.f120, [0, 2], Tryz.func120, Tryz.ntmps120, C_q120, by kernel_rfl⟩
theorem C_q121 : cutF [2] (compF Tryz.prog Tryz.f121) = some (A_q121, R_q121) := by kernel_rfl
theorem G_q121 : GoodFC Tryz.prog F_q121 T_q121 := ⟨Tryz.f121, [2], Tryz.func121, Tryz.ntmps121, C_q121, by kernel_rfl⟩
theorem C_q122 : cutF [2, 0, 2] (compF Tryz.prog Tryz.f122) = some (A_q122, R_q122) := by kernel_rfl
theorem G_q122 : GoodFC Tryz.prog F_q122 T_q122 := ⟨Tryz.f122, [2, 0, 2], Tryz.func122, Tryz.ntmps122, C_q122, by kernel_rfl⟩
theorem C_q123 : cutF [2, 0, 2] (compF Tryz.prog Tryz.f123) = some (A_q123, R_q123) := by kernel_rfl
theorem G_q123 : GoodFC Tryz.prog F_q123 T_q123 := ⟨Tryz.f123, [2, 0, 2], Tryz.func123, Tryz.ntmps123, C_q123, by kernel_rfl⟩
theorem C_q124 : cutF [0, 0, 2, 2] (compF Tryz.prog Tryz.f124) = some (A_q124, R_q124) := by kernel_rfl
theorem G_q124 : GoodFC Tryz.prog F_q124 T_q124 := ⟨Tryz.f124, [0, 0, 2, 2], Tryz.func124, Tryz.ntmps124, C_q124, by kernel_rfl⟩
theorem C_q125 : cutF [0] (compF Tryz.prog Tryz.f125) = some (A_q125, R_q125) := by kernel_rfl
theorem G_q125 : GoodFC Tryz.prog F_q125 T_q125 := ⟨Tryz.f125, [0], Tryz.func125, Tryz.ntmps125, C_q125, by kernel_rfl⟩
theorem C_q126 : cutF [0] (compF Tryz.prog Tryz.f126) = some (A_q126, R_q126) := by kernel_rfl
theorem G_q126 : GoodFC Tryz.prog F_q126 T_q126 := ⟨Tryz.f126, [0], Tryz.func126, Tryz.ntmps126, C_q126, by kernel_rfl⟩
theorem C_q127 : cutF [0] (compF Tryz.prog Tryz.f127) = some (A_q127, R_q127) := by kernel_rfl
theorem G_q127 : GoodFC Tryz.prog F_q127 T_q127 := ⟨Tryz.f127, [0], Tryz.func127, Tryz.ntmps127, C_q127, by kernel_rfl⟩
theorem C_q128 : cutF [2, 2, 1, 2, 0, 2, 0] (compF Tryz.prog Tryz.f128) = some (A_q128, R_q128) := by kernel_rfl
theorem G_q128 : GoodFC Tryz.prog F_q128 T_q128 := ⟨Tryz.f128, [2, 2, 1, 2, 0, 2, 0], Tryz.func128, Tryz.ntmps128, C_q128, by kernel_rfl⟩
theorem C_q129 : cutF [0, 0, 0, 0] (compF Tryz.prog Tryz.f129) = some (A_q129, R_q129) := by kernel_rfl
theorem G_q129 : GoodFC Tryz.prog F_q129 T_q129 := ⟨Tryz.f129, [0, 0, 0, 0], Tryz.func129, Tryz.ntmps129, C_q129, by kernel_rfl⟩
theorem C_q130 : cutF [] (compF Tryz.prog Tryz.f130) = some (A_q130, R_q130) := by kernel_rfl
theorem G_q130 : GoodFC Tryz.prog F_q130 T_q130 := ⟨Tryz.f130, [], Tryz.func130, Tryz.ntmps130, C_q130, by kernel_rfl⟩
theorem C_q131 : cutF [] (compF Tryz.prog Tryz.f131) = some (A_q131, R_q131) := by kernel_rfl
theorem G_q131 : GoodFC Tryz.prog F_q131 T_q131 := ⟨Tryz.f131, [], Tryz.func131, Tryz.ntmps131, C_q131, by kernel_rfl⟩
theorem C_q132 : cutF [1, 3] (compF Tryz.prog Tryz.f132) = some (A_q132, R_q132) := by kernel_rfl
theorem G_q132 : GoodFC Tryz.prog F_q132 T_q132 := ⟨Tryz.f132, [1, 3], Tryz.func132, Tryz.ntmps132, C_q132, by kernel_rfl⟩
theorem C_q133 : cutF [0, 2] (compF Tryz.prog Tryz.f133) = some (A_q133, R_q133) := by kernel_rfl
theorem G_q133 : GoodFC Tryz.prog F_q133 T_q133 := ⟨Tryz.f133, [0, 2], Tryz.func133, Tryz.ntmps133, C_q133, by kernel_rfl⟩
theorem C_q134 : cutF [0, 0] (compF Tryz.prog Tryz.f134) = some (A_q134, R_q134) := by kernel_rfl
theorem G_q134 : GoodFC Tryz.prog F_q134 T_q134 := ⟨Tryz.f134, [0, 0], Tryz.func134, Tryz.ntmps134, C_q134, by kernel_rfl⟩
theorem C_q140 : cutF [] (compF Tryz.prog Tryz.f140) = some (A_q140, R_q140) := by kernel_rfl
theorem G_q140 : GoodFC Tryz.prog F_q140 T_q140 := ⟨Tryz.f140, [], Tryz.func140, Tryz.ntmps140, C_q140, by kernel_rfl⟩
theorem C_q145 : cutF [0, 0] (compF Tryz.prog Tryz.f145) = some (A_q145, R_q145) := by kernel_rfl
theorem G_q145 : GoodFC Tryz.prog F_q145 T_q145 := ⟨Tryz.f145, [0, 0], Tryz.func145, Tryz.ntmps145, C_q145, by kernel_rfl⟩
theorem C_q148 : cutF [0] (compF Tryz.prog Tryz.f148) = some (A_q148, R_q148) := by kernel_rfl
theorem G_q148 : GoodFC Tryz.prog F_q148 T_q148 := ⟨Tryz.f148, [0], Tryz.func148, Tryz.ntmps148, C_q148, by kernel_rfl⟩
theorem C_q149 : cutF [2, 2, 0, 2, 2, 2, 2, 2] (compF Tryz.prog Tryz.f149) = some (A_q149, R_q149) := by kernel_rfl
theorem G_q149 : GoodFC Tryz.prog F_q149 T_q149 := ⟨Tryz.f149, [2, 2, 0, 2, 2, 2, 2, 2], Tryz.func149, Tryz.ntmps149, C_q149, by kernel_rfl⟩
theorem C_q150 : cutF [] (compF Tryz.prog Tryz.f150) = some (A_q150, R_q150) := by kernel_rfl
theorem G_q150 : GoodFC Tryz.prog F_q150 T_q150 := ⟨Tryz.f150, [], Tryz.func150, Tryz.ntmps150, C_q150, by kernel_rfl⟩
theorem C_q151 : cutF [] (compF Tryz.prog Tryz.f151) = some (A_q151, R_q151) := by kernel_rfl
theorem G_q151 : GoodFC Tryz.prog F_q151 T_q151 := ⟨Tryz.f151, [], Tryz.func151, Tryz.ntmps151, C_q151, by kernel_rfl⟩
theorem C_q152 : cutF [2, 3, 1] (compF Tryz.prog Tryz.f152) = some (A_q152, R_q152) := by kernel_rfl
theorem G_q152 : GoodFC Tryz.prog F_q152 T_q152 := ⟨Tryz.f152, [2, 3, 1], Tryz.func152, Tryz.ntmps152, C_q152, by kernel_rfl⟩
theorem C_q153 : cutF [2, 1] (compF Tryz.prog Tryz.f153) = some (A_q153, R_q153) := by kernel_rfl
theorem G_q153 : GoodFC Tryz.prog F_q153 T_q153 := ⟨Tryz.f153, [2, 1], Tryz.func153, Tryz.ntmps153, C_q153, by kernel_rfl⟩
theorem C_q157 : cutF [1] (compF Tryz.prog Tryz.f157) = some (A_q157, R_q157) := by kernel_rfl
theorem G_q157 : GoodFC Tryz.prog F_q157 T_q157 := ⟨Tryz.f157, [1], Tryz.func157, Tryz.ntmps157, C_q157, by kernel_rfl⟩
theorem C_q161 : cutF [2] (compF Tryz.prog Tryz.f161) = some (A_q161, R_q161) := by kernel_rfl
theorem G_q161 : GoodFC Tryz.prog F_q161 T_q161 := ⟨Tryz.f161, [2], Tryz.func161, Tryz.ntmps161, C_q161, by kernel_rfl⟩
theorem C_q162 : cutF [] (compF Tryz.prog Tryz.f162) = some (A_q162, R_q162) := by kernel_rfl
theorem G_q162 : GoodFC Tryz.prog F_q162 T_q162 := ⟨Tryz.f162, [], Tryz.func162, Tryz.ntmps162, C_q162, by kernel_rfl⟩
theorem C_q163 : cutF [] (compF Tryz.prog Tryz.f163) = some (A_q163, R_q163) := by kernel_rfl
theorem G_q163 : GoodFC Tryz.prog F_q163 T_q163 := ⟨Tryz.f163, [], Tryz.func163, Tryz.ntmps163, C_q163, by kernel_rfl⟩
theorem C_q164 : cutF [0, 2] (compF Tryz.prog Tryz.f164) = some (A_q164, R_q164) := by kernel_rfl
theorem G_q164 : GoodFC Tryz.prog F_q164 T_q164 := ⟨Tryz.f164, [0, 2], Tryz.func164, Tryz.ntmps164, C_q164, by kernel_rfl⟩
theorem C_q167 : cutF [0] (compF Tryz.prog Tryz.f167) = some (A_q167, R_q167) := by kernel_rfl
theorem G_q167 : GoodFC Tryz.prog F_q167 T_q167 := ⟨Tryz.f167, [0], Tryz.func167, Tryz.ntmps167, C_q167, by kernel_rfl⟩
theorem C_q168 : cutF [0] (compF Tryz.prog Tryz.f168) = some (A_q168, R_q168) := by kernel_rfl
theorem G_q168 : GoodFC Tryz.prog F_q168 T_q168 := ⟨Tryz.f168, [0], Tryz.func168, Tryz.ntmps168, C_q168, by kernel_rfl⟩
theorem C_q169 : cutF [1] (compF Tryz.prog Tryz.f169) = some (A_q169, R_q169) := by kernel_rfl
theorem G_q169 : GoodFC Tryz.prog F_q169 T_q169 := ⟨Tryz.f169, [1], Tryz.func169, Tryz.ntmps169, C_q169, by kernel_rfl⟩
theorem C_q170 : cutF [2] (compF Tryz.prog Tryz.f170) = some (A_q170, R_q170) := by kernel_rfl
theorem G_q170 : GoodFC Tryz.prog F_q170 T_q170 := ⟨Tryz.f170, [2], Tryz.func170, Tryz.ntmps170, C_q170, by kernel_rfl⟩
theorem C_q171 : cutF [] (compF Tryz.prog Tryz.f171) = some (A_q171, R_q171) := by kernel_rfl
theorem G_q171 : GoodFC Tryz.prog F_q171 T_q171 := ⟨Tryz.f171, [], Tryz.func171, Tryz.ntmps171, C_q171, by kernel_rfl⟩
theorem C_q172 : cutF [] (compF Tryz.prog Tryz.f172) = some (A_q172, R_q172) := by kernel_rfl
theorem G_q172 : GoodFC Tryz.prog F_q172 T_q172 := ⟨Tryz.f172, [], Tryz.func172, Tryz.ntmps172, C_q172, by kernel_rfl⟩
theorem C_q173 : cutF [2, 0, 2] (compF Tryz.prog Tryz.f173) = some (A_q173, R_q173) := by kernel_rfl
theorem G_q173 : GoodFC Tryz.prog F_q173 T_q173 := ⟨Tryz.f173, [2, 0, 2], Tryz.func173, Tryz.ntmps173, C_q173, by kernel_rfl⟩
theorem C_q174 : cutF [] (compF Tryz.prog Tryz.f174) = some (A_q174, R_q174) := by kernel_rfl
theorem G_q174 : GoodFC Tryz.prog F_q174 T_q174 := ⟨Tryz.f174, [], Tryz.func174, Tryz.ntmps174, C_q174, by kernel_rfl⟩
theorem C_q175 : cutF [2, 3] (compF Tryz.prog Tryz.f175) = some (A_q175, R_q175) := by kernel_rfl
theorem G_q175 : GoodFC Tryz.prog F_q175 T_q175 := ⟨Tryz.f175, [2, 3], Tryz.func175, Tryz.ntmps175, C_q175, by kernel_rfl⟩
theorem C_q176 : cutF [2] (compF Tryz.prog Tryz.f176) = some (A_q176, R_q176) := by kernel_rfl
theorem G_q176 : GoodFC Tryz.prog F_q176 T_q176 := ⟨Tryz.f176, [2], Tryz.func176, Tryz.ntmps176, C_q176, by kernel_rfl⟩
theorem C_q177 : cutF [1, 0, 0, 0, 1] (compF Tryz.prog Tryz.f177) = some (A_q177, R_q177) := by kernel_rfl
theorem G_q177 : GoodFC Tryz.prog F_q177 T_q177 := ⟨Tryz.f177, [1, 0, 0, 0, 1], Tryz.func177, Tryz.ntmps177, C_q177, by kernel_rfl⟩
theorem C_q178 : cutF [] (compF Tryz.prog Tryz.f178) = some (A_q178, R_q178) := by kernel_rfl
theorem G_q178 : GoodFC Tryz.prog F_q178 T_q178 := ⟨Tryz.f178, [], Tryz.func178, Tryz.ntmps178, C_q178, by kernel_rfl⟩
theorem C_q179 : cutF [] (compF Tryz.prog Tryz.f179) = some (A_q179, R_q179) := by kernel_rfl
theorem G_q179 : GoodFC Tryz.prog F_q179 T_q179 := ⟨Tryz.f179, [], Tryz.func179, Tryz.ntmps179, C_q179, by kernel_rfl⟩
theorem C_q180 : cutF [] (compF Tryz.prog Tryz.f180) = some (A_q180, R_q180) := by kernel_rfl
theorem G_q180 : GoodFC Tryz.prog F_q180 T_q180 := ⟨Tryz.f180, [], Tryz.func180, Tryz.ntmps180, C_q180, by kernel_rfl⟩
theorem C_q181 : cutF [] (compF Tryz.prog Tryz.f181) = some (A_q181, R_q181) := by kernel_rfl
theorem G_q181 : GoodFC Tryz.prog F_q181 T_q181 := ⟨Tryz.f181, [], Tryz.func181, Tryz.ntmps181, C_q181, by kernel_rfl⟩
theorem C_q183 : cutF [] (compF Tryz.prog Tryz.f183) = some (A_q183, R_q183) := by kernel_rfl
theorem G_q183 : GoodFC Tryz.prog F_q183 T_q183 := ⟨Tryz.f183, [], Tryz.func183, Tryz.ntmps183, C_q183, by kernel_rfl⟩
theorem C_q184 : cutF [2, 1] (compF Tryz.prog Tryz.f184) = some (A_q184, R_q184) := by kernel_rfl
theorem G_q184 : GoodFC Tryz.prog F_q184 T_q184 := ⟨Tryz.f184, [2, 1], Tryz.func184, Tryz.ntmps184, C_q184, by kernel_rfl⟩
theorem C_q185 : cutF [] (compF Tryz.prog Tryz.f185) = some (A_q185, R_q185) := by kernel_rfl
theorem G_q185 : GoodFC Tryz.prog F_q185 T_q185 := ⟨Tryz.f185, [], Tryz.func185, Tryz.ntmps185, C_q185, by kernel_rfl⟩
theorem C_q186 : cutF [] (compF Tryz.prog Tryz.f186) = some (A_q186, R_q186) := by kernel_rfl
theorem G_q186 : GoodFC Tryz.prog F_q186 T_q186 := ⟨Tryz.f186, [], Tryz.func186, Tryz.ntmps186, C_q186, by kernel_rfl⟩
theorem C_q187 : cutF [0, 0] (compF Tryz.prog Tryz.f187) = some (A_q187, R_q187) := by kernel_rfl
theorem G_q187 : GoodFC Tryz.prog F_q187 T_q187 := ⟨Tryz.f187, [0, 0], Tryz.func187, Tryz.ntmps187, C_q187, by kernel_rfl⟩
theorem C_q188 : cutF [0, 0, 0, 0, 0, 0, 0, 0, 0, 0, 0, 0, 0, 0] (compF Tryz.prog Tryz.f188) = some (A_q188, R_q188) := by kernel_rfl
theorem G_q188 : GoodFC Tryz.prog F_q188 T_q188 := ⟨Tryz.f188, [0, 0, 0, 0, 0, 0, 0, 0, 0, 0, 0, 0, 0, 0], Tryz.func188, Tryz.ntmps188, C_q188, by kernel_rfl⟩
theorem C_q189 : cutF [] (compF Tryz.prog Tryz.f189) = some (A_q189, R_q189) := by kernel_rfl
theorem G_q189 : GoodFC Tryz.prog F_q189 T_q189 := ⟨Tryz.f189, [], Tryz.func189, Tryz.ntmps189, C_q189, by kernel_rfl⟩
theorem C_q190 : cutF [0] (compF Tryz.prog Tryz.f190) = some (A_q190, R_q190) := by kernel_rfl
theorem G_q190 : GoodFC Tryz.prog F_q190 T_q190 := ⟨Tryz.f190, [0], Tryz.func190, Tryz.ntmps190, C_q190, by kernel_rfl⟩
theorem C_q191 : cutF [] (compF Tryz.prog Tryz.f191) = some (A_q191, R_q191) := by kernel_rfl
theorem G_q191 : GoodFC Tryz.prog F_q191 T_q191 := ⟨Tryz.f191, [], Tryz.func191, Tryz.ntmps191, C_q191, by kernel_rfl⟩
theorem C_q192 : cutF [2] (compF Tryz.prog Tryz.f192) = some (A_q192, R_q192) := by kernel_rfl
theorem G_q192 : GoodFC Tryz.prog F_q192 T_q192 := ⟨Tryz.f192, [2], Tryz.func192, Tryz.ntmps192, C_q192, by kernel_rfl⟩
theorem C_q193 : cutF [1, 1] (compF Tryz.prog Tryz.f193) = some (A_q193, R_q193) := by kernel_rfl
theorem G_q193 : GoodFC Tryz.prog F_q193 T_q193 := ⟨Tryz.f193, [1, 1], Tryz.func193, Tryz.ntmps193, C_q193, by kernel_rfl⟩
theorem C_q203 : cutF [] (compF Tryz.prog Tryz.f203) = some (A_q203, R_q203) := by kernel_rfl
theorem G_q203 : GoodFC Tryz.prog F_q203 T_q203 := ⟨Tryz.f203, [], Tryz.func203, Tryz.ntmps203, C_q203, by kernel_rfl⟩
theorem C_q205 : cutF [1] (compF Tryz.prog Tryz.f205) = some (A_q205, R_q205) := by kernel_rfl
theorem G_q205 : GoodFC Tryz.prog F_q205 T_q205 := ⟨Tryz.f205, [1], Tryz.func205, Tryz.ntmps205, C_q205, by kernel_rfl⟩
theorem C_q207 : cutF [2, 2, 0, 2, 2, 2] (compF Tryz.prog Tryz.f207) = some (A_q207, R_q207) := by kernel_rfl
theorem G_q207 : GoodFC Tryz.prog F_q207 T_q207 := ⟨Tryz.f207, [2, 2, 0, 2, 2, 2], Tryz.func207, Tryz.ntmps207, C_q207, by kernel_rfl⟩
theorem C_q208 : cutF [2] (compF Tryz.prog Tryz.f208) = some (A_q208, R_q208) := by kernel_rfl
theorem G_q208 : GoodFC Tryz.prog F_q208 T_q208 := ⟨Tryz.f208, [2], Tryz.func208, Tryz.ntmps208, C_q208, by kernel_rfl⟩
theorem C_q215 : cutF [1, 2] (compF Tryz.prog Tryz.f215) = some (A_q215, R_q215) := by kernel_rfl
theorem G_q215 : GoodFC Tryz.prog F_q215 T_q215 := ⟨Tryz.f215, [1, 2], Tryz.func215, Tryz.ntmps215, C_q215, by kernel_rfl⟩
theorem C_q217 : cutF [] (compF Tryz.prog Tryz.f217) = some (A_q217, R_q217) := by kernel_rfl
theorem G_q217 : GoodFC Tryz.prog F_q217 T_q217 := ⟨Tryz.f217, [], Tryz.func217, Tryz.ntmps217, C_q217, by kernel_rfl⟩
theorem C_q218 : cutF [1, 3, 3, 3, 3, 3, 3] (compF Tryz.prog Tryz.f218) = some (A_q218, R_q218) := by kernel_rfl
theorem G_q218 : GoodFC Tryz.prog F_q218 T_q218 := ⟨Tryz.f218, [1, 3, 3, 3, 3, 3, 3], Tryz.func218, Tryz.ntmps218, C_q218, by kernel_rfl⟩
theorem C_q231 : cutF [2, 2, 1, 2, 3] (compF Tryz.prog Tryz.f231) = some (A_q231, R_q231) := by kernel_rfl
theorem G_q231 : GoodFC Tryz.prog F_q231 T_q231 := ⟨Tryz.f231, [2, 2, 1, 2, 3], Tryz.func231, Tryz.ntmps231, C_q231, by kernel_rfl⟩
theorem C_q232 : cutF [] (compF Tryz.prog Tryz.f232) = some (A_q232, R_q232) := by kernel_rfl
theorem G_q232 : GoodFC Tryz.prog F_q232 T_q232 := ⟨Tryz.f232, [], Tryz.func232, Tryz.ntmps232, C_q232, by kernel_rfl⟩
theorem C_q233 : cutF [] (compF Tryz.prog Tryz.f233) = some (A_q233, R_q233) := by kernel_rfl
theorem G_q233 : GoodFC Tryz.prog F_q233 T_q233 := ⟨Tryz.f233, [], Tryz.func233, Tryz.ntmps233, C_q233, by kernel_rfl⟩
theorem C_q234 : cutF [] (compF Tryz.prog Tryz.f234) = some (A_q234, R_q234) := by kernel_rfl
theorem G_q234 : GoodFC Tryz.prog F_q234 T_q234 := ⟨Tryz.f234, [], Tryz.func234, Tryz.ntmps234, C_q234, by kernel_rfl⟩
theorem C_q235 : cutF [] (compF Tryz.prog Tryz.f235) = some (A_q235, R_q235) := by kernel_rfl
theorem G_q235 : GoodFC Tryz.prog F_q235 T_q235 := ⟨Tryz.f235, [], Tryz.func235, Tryz.ntmps235, C_q235, by kernel_rfl⟩
theorem C_q236 : cutF [] (compF Tryz.prog Tryz.f236) = some (A_q236, R_q236) := by kernel_rfl
theorem G_q236 : GoodFC Tryz.prog F_q236 T_q236 := ⟨Tryz.f236, [], Tryz.func236, Tryz.ntmps236, C_q236, by kernel_rfl⟩
theorem C_q237 : cutF [] (compF Tryz.prog Tryz.f237) = some (A_q237, R_q237) := by kernel_rfl
theorem G_q237 : GoodFC Tryz.prog F_q237 T_q237 := ⟨Tryz.f237, [], Tryz.func237, Tryz.ntmps237, C_q237, by kernel_rfl⟩
theorem C_q238 : cutF [] (compF Tryz.prog Tryz.f238) = some (A_q238, R_q238) := by kernel_rfl
theorem G_q238 : GoodFC Tryz.prog F_q238 T_q238 := ⟨Tryz.f238, [], Tryz.func238, Tryz.ntmps238, C_q238, by kernel_rfl⟩
theorem C_q239 : cutF [2] (compF Tryz.prog Tryz.f239) = some (A_q239, R_q239) := by kernel_rfl
theorem G_q239 : GoodFC Tryz.prog F_q239 T_q239 := ⟨Tryz.f239, [2], Tryz.func239, Tryz.ntmps239, C_q239, by kernel_rfl⟩
theorem C_q240 : cutF [] (compF Tryz.prog Tryz.f240) = some (A_q240, R_q240) := by kernel_rfl
theorem G_q240 : GoodFC Tryz.prog F_q240 T_q240 := ⟨Tryz.f240, [], Tryz.func240, Tryz.ntmps240, C_q240, by kernel_rfl⟩
theorem C_q242 : cutF [0, 1, 3] (compF Tryz.prog Tryz.f242) = some (A_q242, R_q242) := by kernel_rfl
theorem G_q242 : GoodFC Tryz.prog F_q242 T_q242 := ⟨Tryz.f242, [0, 1, 3], Tryz.func242, Tryz.ntmps242, C_q242, by kernel_rfl⟩
theorem C_q243 : cutF [] (compF Tryz.prog Tryz.f243) = some (A_q243, R_q243) := by kernel_rfl
theorem G_q243 : GoodFC Tryz.prog F_q243 T_q243 := ⟨Tryz.f243, [], Tryz.func243, Tryz.ntmps243, C_q243, by kernel_rfl⟩
theorem C_q244 : cutF [2] (compF Tryz.prog Tryz.f244) = some (A_q244, R_q244) := by kernel_rfl
theorem G_q244 : GoodFC Tryz.prog F_q244 T_q244 := ⟨Tryz.f244, [2], Tryz.func244, Tryz.ntmps244, C_q244, by kernel_rfl⟩
theorem C_q245 : cutF [0, 0] (compF Tryz.prog Tryz.f245) = some (A_q245, R_q245) := by kernel_rfl
theorem G_q245 : GoodFC Tryz.prog F_q245 T_q245 := ⟨Tryz.f245, [0, 0], Tryz.func245, Tryz.ntmps245, C_q245, by kernel_rfl⟩
theorem C_q246 : cutF [] (compF Tryz.prog Tryz.f246) = some (A_q246, R_q246) := by kernel_rfl
theorem G_q246 : GoodFC Tryz.prog F_q246 T_q246 := ⟨Tryz.f246, [], Tryz.func246, Tryz.ntmps246, C_q246, by kernel_rfl⟩
theorem C_q248 : cutF [2, 3] (compF Tryz.prog Tryz.f248) = some (A_q248, R_q248) := by kernel_rfl
theorem G_q248 : GoodFC Tryz.prog F_q248 T_q248 := ⟨Tryz.f248, [2, 3], Tryz.func248, Tryz.ntmps248, C_q248, by kernel_rfl⟩
theorem C_q249 : cutF [0, 0] (compF Tryz.prog Tryz.f249) = some (A_q249, R_q249) := by kernel_rfl
theorem G_q249 : GoodFC Tryz.prog F_q249 T_q249 := ⟨Tryz.f249, [0, 0], Tryz.func249, Tryz.ntmps249, C_q249, by kernel_rfl⟩
theorem C_q250 : cutF [0, 2] (compF Tryz.prog Tryz.f250) = some (A_q250, R_q250) := by kernel_rfl
theorem G_q250 : GoodFC Tryz.prog F_q250 T_q250 := ⟨Tryz.f250, [0, 2], Tryz.func250, Tryz.ntmps250, C_q250, by kernel_rfl⟩
theorem C_q251 : cutF [] (compF Tryz.prog Tryz.f251) = some (A_q251, R_q251) := by kernel_rfl
theorem G_q251 : GoodFC Tryz.prog F_q251 T_q251 := ⟨Tryz.f251, [], Tryz.func251, Tryz.ntmps251, C_q251, by kernel_rfl⟩
theorem C_q252 : cutF [0, 0] (compF Tryz.prog Tryz.f252) = some (A_q252, R_q252) := by kernel_rfl
theorem G_q252 : GoodFC Tryz.prog F_q252 T_q252 := ⟨Tryz.f252, [0, 0], Tryz.func252, Tryz.ntmps252, C_q252, by kernel_rfl⟩
theorem C_q253 : cutF [0, 2] (compF Tryz.prog Tryz.f253) = some (A_q253, R_q253) := by kernel_rfl
theorem G_q253 : GoodFC Tryz.prog F_q253 T_q253 := ⟨Tryz.f253, [0, 2], Tryz.func253, Tryz.ntmps253, C_q253, by kernel_rfl⟩
theorem C_q254 : cutF [] (compF Tryz.prog Tryz.f254) = some (A_q254, R_q254) := by kernel_rfl
theorem G_q254 : GoodFC Tryz.prog F_q254 T_q254 := ⟨Tryz.f254, [], Tryz.func254, Tryz.ntmps254, C_q254, by kernel_rfl⟩
theorem C_q255 : cutF [] (compF Tryz.prog Tryz.f255) = some (A_q255, R_q255) := by kernel_rfl
theorem G_q255 : GoodFC Tryz.prog F_q255 T_q255 := ⟨Tryz.f255, [], Tryz.func255, Tryz.ntmps255, C_q255, by kernel_rfl⟩
theorem C_q263 : cutF [2, 2, 2] (compF Tryz.prog Tryz.f263) = some (A_q263, R_q263) := by kernel_rfl
theorem G_q263 : GoodFC Tryz.prog F_q263 T_q263 := ⟨Tryz.f263, [2, 2, 2], Tryz.func263, Tryz.ntmps263, C_q263, by kernel_rfl⟩
theorem C_q264 : cutF [2, 3] (compF Tryz.prog Tryz.f264) = some (A_q264, R_q264) := by kernel_rfl
theorem G_q264 : GoodFC Tryz.prog F_q264 T_q264 := ⟨Tryz.f264, [2, 3], Tryz.func264, Tryz.ntmps264, C_q264, by kernel_rfl⟩
theorem C_q265 : cutF [] (compF Tryz.prog Tryz.f265) = some (A_q265, R_q265) := by kernel_rfl
theorem G_q265 : GoodFC Tryz.prog F_q265 T_q265 := ⟨Tryz.f265, [], Tryz.func265, Tryz.ntmps265, C_q265, by kernel_rfl⟩
theorem C_q271 : cutF [2] (compF Tryz.prog Tryz.f271) = some (A_q271, R_q271) := by kernel_rfl
theorem G_q271 : GoodFC Tryz.prog F_q271 T_q271 := ⟨Tryz.f271, [2], Tryz.func271, Tryz.ntmps271, C_q271, by kernel_rfl⟩
theorem C_q272 : cutF [0, 1, 3] (compF Tryz.prog Tryz.f272) = some (A_q272, R_q272) := by kernel_rfl
theorem G_q272 : GoodFC Tryz.prog F_q272 T_q272 := ⟨Tryz.f272, [0, 1, 3], Tryz.func272, Tryz.ntmps272, C_q272, by kernel_rfl⟩
theorem C_q274 : cutF [2, 3] (compF Tryz.prog Tryz.f274) = some (A_q274, R_q274) := by kernel_rfl
theorem G_q274 : GoodFC Tryz.prog F_q274 T_q274 := ⟨Tryz.f274, [2, 3], Tryz.func274, Tryz.ntmps274, C_q274, by kernel_rfl⟩
theorem C_q287 : cutF [2, 1, 3] (compF Tryz.prog Tryz.f287) = some (A_q287, R_q287) := by kernel_rfl
theorem G_q287 : GoodFC Tryz.prog F_q287 T_q287 := ⟨Tryz.f287, [2, 1, 3], Tryz.func287, Tryz.ntmps287, C_q287, by kernel_rfl⟩
theorem C_q288 : cutF [] (compF Tryz.prog Tryz.f288) = some (A_q288, R_q288) := by kernel_rfl
theorem G_q288 : GoodFC Tryz.prog F_q288 T_q288 := ⟨Tryz.f288, [], Tryz.func288, Tryz.ntmps288, C_q288, by kernel_rfl⟩
theorem C_q290 : cutF [0, 0, 0] (compF Tryz.prog Tryz.f290) = some (A_q290, R_q290) := by kernel_rfl
theorem G_q290 : GoodFC Tryz.prog F_q290 T_q290 := ⟨Tryz.f290, [0, 0, 0], Tryz.func290, Tryz.ntmps290, C_q290, by kernel_rfl⟩
theorem C_q291 : cutF [2, 3] (compF Tryz.prog Tryz.f291) = some (A_q291, R_q291) := by kernel_rfl
theorem G_q291 : GoodFC Tryz.prog F_q291 T_q291 := ⟨Tryz.f291, [2, 3], Tryz.func291, Tryz.ntmps291, C_q291, by kernel_rfl⟩
theorem C_q294 : cutF [0] (compF Tryz.prog Tryz.f294) = some (A_q294, R_q294) := by kernel_rfl
theorem G_q294 : GoodFC Tryz.prog F_q294 T_q294 := ⟨Tryz.f294, [0], Tryz.func294, Tryz.ntmps294, C_q294, by kernel_rfl⟩
theorem C_q295 : cutF [1] (compF Tryz.prog Tryz.f295) = some (A_q295, R_q295) := by kernel_rfl
theorem G_q295 : GoodFC Tryz.prog F_q295 T_q295 := ⟨Tryz.f295, [1], Tryz.func295, Tryz.ntmps295, C_q295, by kernel_rfl⟩
theorem C_q296 : cutF [2] (compF Tryz.prog Tryz.f296) = some (A_q296, R_q296) := by kernel_rfl
theorem G_q296 : GoodFC Tryz.prog F_q296 T_q296 := ⟨Tryz.f296, [2], Tryz.func296, Tryz.ntmps296, C_q296, by kernel_rfl⟩
theorem C_q297 : cutF [] (compF Tryz.prog Tryz.f297) = some (A_q297, R_q297) := by kernel_rfl
theorem G_q297 : GoodFC Tryz.prog F_q297 T_q297 := ⟨Tryz.f297, [], Tryz.func297, Tryz.ntmps297, C_q297, by kernel_rfl⟩
theorem C_q299 : cutF [2, 3] (compF Tryz.prog Tryz.f299) = some (A_q299, R_q299) := by kernel_rfl
theorem G_q299 : GoodFC Tryz.prog F_q299 T_q299 := ⟨Tryz.f299, [2, 3], Tryz.func299, Tryz.ntmps299, C_q299, by kernel_rfl⟩
theorem C_q318 : cutF [2, 1, 3, 3, 3, 3] (compF Tryz.prog Tryz.f318) = some (A_q318, R_q318) := by kernel_rfl
theorem G_q318 : GoodFC Tryz.prog F_q318 T_q318 := ⟨Tryz.f318, [2, 1, 3, 3, 3, 3], Tryz.func318, Tryz.ntmps318, C_q318, by kernel_rfl⟩
theorem C_q320 : cutF [] (compF Tryz.prog Tryz.f320) = some (A_q320, R_q320) := by kernel_rfl
theorem G_q320 : GoodFC Tryz.prog F_q320 T_q320 := ⟨Tryz.f320, [], Tryz.func320, Tryz.ntmps320, C_q320, by kernel_rfl⟩
theorem C_q331 : cutF [] (compF Tryz.prog Tryz.f331) = some (A_q331, R_q331) := by kernel_rfl
theorem G_q331 : GoodFC Tryz.prog F_q331 T_q331 := ⟨Tryz.f331, [], Tryz.func331, Tryz.ntmps331, C_q331, by kernel_rfl⟩
theorem C_q361 : cutF [0, 1] (compF Tryz.prog Tryz.f361) = some (A_q361, R_q361) := by kernel_rfl
theorem G_q361 : GoodFC Tryz.prog F_q361 T_q361 := ⟨Tryz.f361, [0, 1], Tryz.func361, Tryz.ntmps361, C_q361, by kernel_rfl⟩
theorem C_q362 : cutF [] (compF Tryz.prog Tryz.f362) = some (A_q362, R_q362) := by kernel_rfl
theorem G_q362 : GoodFC Tryz.prog F_q362 T_q362 := ⟨Tryz.f362, [], Tryz.func362, Tryz.ntmps362, C_q362, by kernel_rfl⟩
theorem C_q363 : cutF [] (compF Tryz.prog Tryz.f363) = some (A_q363, R_q363) := by kernel_rfl
theorem G_q363 : GoodFC Tryz.prog F_q363 T_q363 := ⟨Tryz.f363, [], Tryz.func363, Tryz.ntmps363, C_q363, by kernel_rfl⟩
end Go.Proofs.YtpmjgnpkbmfimaaGreatDoor
