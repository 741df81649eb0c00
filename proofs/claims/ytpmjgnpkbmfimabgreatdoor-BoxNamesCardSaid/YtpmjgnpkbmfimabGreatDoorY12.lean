/- Contracts of functions of the given program, in the logic L: texts put together; no conditions. -/
import Derived.Test.YtpmjgnpkbmfimabGreatDoorY4
import Derived.Test.YtpmjgnpkbmfimabGreatDoorProg
import Derived.KernelRfl
/- Each code is what the logic makes of the given program (by the kernel). Printed by program (gen_all.py). -/
namespace Go.Proofs.YtpmjgnpkbmfimabGreatDoor
open Go.L
theorem C_lexiconlaw13_BoxNames : cutF [] (compF Tryz.prog Tryz.f3) = some (A_lexiconlaw13_BoxNames, R_lexiconlaw13_BoxNames) := by kernel_rfl
theorem G_lexiconlaw13_BoxNames : GoodFC Tryz.prog F_lexiconlaw13_BoxNames T_lexiconlaw13_BoxNames := ⟨Tryz.f3, [], Tryz.func3, Tryz.ntmps3, C_lexiconlaw13_BoxNames, by kernel_rfl⟩
theorem C_q4 : cutF [2] (compF Tryz.prog Tryz.f4) = some (A_q4, R_q4) := by kernel_rfl
theorem G_q4 : GoodFC Tryz.prog F_q4 T_q4 := ⟨Tryz.f4, [2], Tryz.func4, Tryz.ntmps4, C_q4, by kernel_rfl⟩
theorem C_q5 : cutF [2] (compF Tryz.prog Tryz.f5) = some (A_q5, R_q5) := by kernel_rfl
theorem G_q5 : GoodFC Tryz.prog F_q5 T_q5 := ⟨Tryz.f5, [2], Tryz.func5, Tryz.ntmps5, C_q5, by kernel_rfl⟩
theorem C_q6 : cutF [1] (compF Tryz.prog Tryz.f6) = some (A_q6, R_q6) := by kernel_rfl
theorem G_q6 : GoodFC Tryz.prog F_q6 T_q6 := ⟨Tryz.f6, [1], Tryz.func6, Tryz.ntmps6, C_q6, by kernel_rfl⟩
theorem C_q7 : cutF [] (compF Tryz.prog Tryz.f7) = some (A_q7, R_q7) := by kernel_rfl
theorem G_q7 : GoodFC Tryz.prog F_q7 T_q7 := ⟨Tryz.f7, [], Tryz.func7, Tryz.ntmps7, C_q7, by kernel_rfl⟩
theorem C_q8 : cutF [2, 2, 2, 2] (compF Tryz.prog Tryz.f8) = some (A_q8, R_q8) := by kernel_rfl
theorem G_q8 : GoodFC Tryz.prog F_q8 T_q8 := ⟨Tryz.f8, [2, 2, 2, 2], Tryz.func8, Tryz.ntmps8, C_q8, by kernel_rfl⟩
theorem C_q9 : cutF [2, 2] (compF Tryz.prog Tryz.f9) = some (A_q9, R_q9) := by kernel_rfl
theorem G_q9 : GoodFC Tryz.prog F_q9 T_q9 := ⟨Tryz.f9, [2, 2], Tryz.func9, Tryz.ntmps9, C_q9, by kernel_rfl⟩
theorem C_q10 : cutF [2, 2] (compF Tryz.prog Tryz.f10) = some (A_q10, R_q10) := by kernel_rfl
theorem G_q10 : GoodFC Tryz.prog F_q10 T_q10 := ⟨Tryz.f10, [2, 2], Tryz.func10, Tryz.ntmps10, C_q10, by kernel_rfl⟩
theorem C_q11 : cutF [2] (compF Tryz.prog Tryz.f11) = some (A_q11, R_q11) := by kernel_rfl
theorem G_q11 : GoodFC Tryz.prog F_q11 T_q11 := ⟨Tryz.f11, [2], Tryz.func11, Tryz.ntmps11, C_q11, by kernel_rfl⟩
theorem C_q12 : cutF [2, 1, 1, 2] (compF Tryz.prog Tryz.f12) = some (A_q12, R_q12) := by kernel_rfl
theorem G_q12 : GoodFC Tryz.prog F_q12 T_q12 := ⟨Tryz.f12, [2, 1, 1, 2], Tryz.func12, Tryz.ntmps12, C_q12, by kernel_rfl⟩
theorem C_q13 : cutF [2] (compF Tryz.prog Tryz.f13) = some (A_q13, R_q13) := by kernel_rfl
theorem G_q13 : GoodFC Tryz.prog F_q13 T_q13 := ⟨Tryz.f13, [2], Tryz.func13, Tryz.ntmps13, C_q13, by kernel_rfl⟩
theorem C_q15 : cutF [0, 2, 1, 2, 0, 2] (compF Tryz.prog Tryz.f15) = some (A_q15, R_q15) := by kernel_rfl
theorem G_q15 : GoodFC Tryz.prog F_q15 T_q15 := ⟨Tryz.f15, [0, 2, 1, 2, 0, 2], Tryz.func15, Tryz.ntmps15, C_q15, by kernel_rfl⟩
theorem C_q16 : cutF [0, 2, 3] (compF Tryz.prog Tryz.f16) = some (A_q16, R_q16) := by kernel_rfl
theorem G_q16 : GoodFC Tryz.prog F_q16 T_q16 := ⟨Tryz.f16, [0, 2, 3], Tryz.func16, Tryz.ntmps16, C_q16, by kernel_rfl⟩
theorem C_q17 : cutF [0, 0] (compF Tryz.prog Tryz.f17) = some (A_q17, R_q17) := by kernel_rfl
theorem G_q17 : GoodFC Tryz.prog F_q17 T_q17 := ⟨Tryz.f17, [0, 0], Tryz.func17, Tryz.ntmps17, C_q17, by kernel_rfl⟩
theorem C_q18 : cutF [0, 0, 0, 0, 2, 2] (compF Tryz.prog Tryz.f18) = some (A_q18, R_q18) := by kernel_rfl
theorem G_q18 : GoodFC Tryz.prog F_q18 T_q18 := ⟨Tryz.f18, [0, 0, 0, 0, 2, 2], Tryz.func18, Tryz.ntmps18, C_q18, by kernel_rfl⟩
theorem C_q19 : cutF [0] (compF Tryz.prog Tryz.f19) = some (A_q19, R_q19) := by kernel_rfl
theorem G_q19 : GoodFC Tryz.prog F_q19 T_q19 := ⟨Tryz.f19, [0], Tryz.func19, Tryz.ntmps19, C_q19, by kernel_rfl⟩
theorem C_q20 : cutF [0, 1, 1, 0, 0] (compF Tryz.prog Tryz.f20) = some (A_q20, R_q20) := by kernel_rfl
theorem G_q20 : GoodFC Tryz.prog F_q20 T_q20 := ⟨Tryz.f20, [0, 1, 1, 0, 0], Tryz.func20, Tryz.ntmps20, C_q20, by kernel_rfl⟩
theorem C_q21 : cutF [] (compF Tryz.prog Tryz.f21) = some (A_q21, R_q21) := by kernel_rfl
theorem G_q21 : GoodFC Tryz.prog F_q21 T_q21 := ⟨Tryz.f21, [], Tryz.func21, Tryz.ntmps21, C_q21, by kernel_rfl⟩
theorem C_q22 : cutF [] (compF Tryz.prog Tryz.f22) = some (A_q22, R_q22) := by kernel_rfl
theorem G_q22 : GoodFC Tryz.prog F_q22 T_q22 := ⟨Tryz.f22, [], Tryz.func22, Tryz.ntmps22, C_q22, by kernel_rfl⟩
theorem C_q23 : cutF [2] (compF Tryz.prog Tryz.f23) = some (A_q23, R_q23) := by kernel_rfl
theorem G_q23 : GoodFC Tryz.prog F_q23 T_q23 := ⟨Tryz.f23, [2], Tryz.func23, Tryz.ntmps23, C_q23, by kernel_rfl⟩
theorem C_q24 : cutF [2] (compF Tryz.prog Tryz.f24) = some (A_q24, R_q24) := by kernel_rfl
theorem G_q24 : GoodFC Tryz.prog F_q24 T_q24 := ⟨Tryz.f24, [2], Tryz.func24, Tryz.ntmps24, C_q24, by kernel_rfl⟩
theorem C_q25 : cutF [2, 2, 2, 2] (compF Tryz.prog Tryz.f25) = some (A_q25, R_q25) := by kernel_rfl
theorem G_q25 : GoodFC Tryz.prog F_q25 T_q25 := ⟨Tryz.f25, [2, 2, 2, 2], Tryz.func25, Tryz.ntmps25, C_q25, by kernel_rfl⟩
theorem C_q26 : cutF [2] (compF Tryz.prog Tryz.f26) = some (A_q26, R_q26) := by kernel_rfl
theorem G_q26 : GoodFC Tryz.prog F_q26 T_q26 := ⟨Tryz.f26, [2], Tryz.func26, Tryz.ntmps26, C_q26, by kernel_rfl⟩
theorem C_q27 : cutF [2, 2] (compF Tryz.prog Tryz.f27) = some (A_q27, R_q27) := by kernel_rfl
theorem G_q27 : GoodFC Tryz.prog F_q27 T_q27 := ⟨Tryz.f27, [2, 2], Tryz.func27, Tryz.ntmps27, C_q27, by kernel_rfl⟩
theorem C_q28 : cutF [0, 2, 2, 2, 2, 2, 2, 2, 3, 3, 3, 3, 3] (compF Tryz.prog Tryz.f28) = some (A_q28, R_q28) := by kernel_rfl
theorem G_q28 : GoodFC Tryz.prog F_q28 T_q28 := ⟨Tryz.f28, [0, 2, 2, 2, 2, 2, 2, 2, 3, 3, 3, 3, 3], Tryz.func28, Tryz.ntmps28, C_q28, by kernel_rfl⟩
theorem C_q29 : cutF [] (compF Tryz.prog Tryz.f29) = some (A_q29, R_q29) := by kernel_rfl
theorem G_q29 : GoodFC Tryz.prog F_q29 T_q29 := ⟨Tryz.f29, [], Tryz.func29, Tryz.ntmps29, C_q29, by kernel_rfl⟩
theorem C_q30 : cutF [0, 1, 3] (compF Tryz.prog Tryz.f30) = some (A_q30, R_q30) := by kernel_rfl
theorem G_q30 : GoodFC Tryz.prog F_q30 T_q30 := ⟨Tryz.f30, [0, 1, 3], Tryz.func30, Tryz.ntmps30, C_q30, by kernel_rfl⟩
theorem C_q31 : cutF [2, 0, 2] (compF Tryz.prog Tryz.f31) = some (A_q31, R_q31) := by kernel_rfl
theorem G_q31 : GoodFC Tryz.prog F_q31 T_q31 := ⟨Tryz.f31, [2, 0, 2], Tryz.func31, Tryz.ntmps31, C_q31, by kernel_rfl⟩
theorem C_q32 : cutF [] (compF Tryz.prog Tryz.f32) = some (A_q32, R_q32) := by kernel_rfl
theorem G_q32 : GoodFC Tryz.prog F_q32 T_q32 := ⟨Tryz.f32, [], Tryz.func32, Tryz.ntmps32, C_q32, by kernel_rfl⟩
theorem C_q34 : cutF [] (compF Tryz.prog Tryz.f34) = some (A_q34, R_q34) := by kernel_rfl
theorem G_q34 : GoodFC Tryz.prog F_q34 T_q34 := ⟨Tryz.f34, [], Tryz.func34, Tryz.ntmps34, C_q34, by kernel_rfl⟩
theorem C_q35 : cutF [] (compF Tryz.prog Tryz.f35) = some (A_q35, R_q35) := by kernel_rfl
theorem G_q35 : GoodFC Tryz.prog F_q35 T_q35 := ⟨Tryz.f35, [], Tryz.func35, Tryz.ntmps35, C_q35, by kernel_rfl⟩
theorem C_q36 : cutF [2, 3, 3] (compF Tryz.prog Tryz.f36) = some (A_q36, R_q36) := by kernel_rfl
theorem G_q36 : GoodFC Tryz.prog F_q36 T_q36 := ⟨Tryz.f36, [2, 3, 3], Tryz.func36, Tryz.ntmps36, C_q36, by kernel_rfl⟩
theorem C_q37 : cutF [2, 2, 3] (compF Tryz.prog Tryz.f37) = some (A_q37, R_q37) := by kernel_rfl
theorem G_q37 : GoodFC Tryz.prog F_q37 T_q37 := ⟨Tryz.f37, [2, 2, 3], Tryz.func37, Tryz.ntmps37, C_q37, by kernel_rfl⟩
theorem C_q38 : cutF [] (compF Tryz.prog Tryz.f38) = some (A_q38, R_q38) := by kernel_rfl
theorem G_q38 : GoodFC Tryz.prog F_q38 T_q38 := ⟨Tryz.f38, [], Tryz.func38, Tryz.ntmps38, C_q38, by kernel_rfl⟩
theorem C_q39 : cutF [0, 0] (compF Tryz.prog Tryz.f39) = some (A_q39, R_q39) := by kernel_rfl
theorem G_q39 : GoodFC Tryz.prog F_q39 T_q39 := ⟨Tryz.f39, [0, 0], Tryz.func39, Tryz.ntmps39, C_q39, by kernel_rfl⟩
theorem C_q40 : cutF [0, 0] (compF Tryz.prog Tryz.f40) = some (A_q40, R_q40) := by kernel_rfl
theorem G_q40 : GoodFC Tryz.prog F_q40 T_q40 := ⟨Tryz.f40, [0, 0], Tryz.func40, Tryz.ntmps40, C_q40, by kernel_rfl⟩
theorem C_q42 : cutF [] (compF Tryz.prog Tryz.f42) = some (A_q42, R_q42) := by kernel_rfl
theorem G_q42 : GoodFC Tryz.prog F_q42 T_q42 := ⟨Tryz.f42, [], Tryz.func42, Tryz.ntmps42, C_q42, by kernel_rfl⟩
theorem C_q43 : cutF [0, 1, 0, 0, 0, 1] (compF Tryz.prog Tryz.f43) = some (A_q43, R_q43) := by kernel_rfl
theorem G_q43 : GoodFC Tryz.prog F_q43 T_q43 := ⟨Tryz.f43, [0, 1, 0, 0, 0, 1], Tryz.func43, Tryz.ntmps43, C_q43, by kernel_rfl⟩
theorem C_q44 : cutF [] (compF Tryz.prog Tryz.f44) = some (A_q44, R_q44) := by kernel_rfl
theorem G_q44 : GoodFC Tryz.prog F_q44 T_q44 := ⟨Tryz.f44, [], Tryz.func44, Tryz.ntmps44, C_q44, by kernel_rfl⟩
theorem C_q45 : cutF [] (compF Tryz.prog Tryz.f45) = some (A_q45, R_q45) := by kernel_rfl
theorem G_q45 : GoodFC Tryz.prog F_q45 T_q45 := ⟨Tryz.f45, [], Tryz.func45, Tryz.ntmps45, C_q45, by kernel_rfl⟩
theorem C_q46 : cutF [2, 0, 2] (compF Tryz.prog Tryz.f46) = some (A_q46, R_q46) := by kernel_rfl
theorem G_q46 : GoodFC Tryz.prog F_q46 T_q46 := ⟨Tryz.f46, [2, 0, 2], Tryz.func46, Tryz.ntmps46, C_q46, by kernel_rfl⟩
theorem C_q47 : cutF [] (compF Tryz.prog Tryz.f47) = some (A_q47, R_q47) := by kernel_rfl
theorem G_q47 : GoodFC Tryz.prog F_q47 T_q47 := ⟨Tryz.f47, [], Tryz.func47, Tryz.ntmps47, C_q47, by kernel_rfl⟩
theorem C_q48 : cutF [2] (compF Tryz.prog Tryz.f48) = some (A_q48, R_q48) := by kernel_rfl
theorem G_q48 : GoodFC Tryz.prog F_q48 T_q48 := ⟨Tryz.f48, [2], Tryz.func48, Tryz.ntmps48, C_q48, by kernel_rfl⟩
theorem C_q49 : cutF [2] (compF Tryz.prog Tryz.f49) = some (A_q49, R_q49) := by kernel_rfl
theorem G_q49 : GoodFC Tryz.prog F_q49 T_q49 := ⟨Tryz.f49, [2], Tryz.func49, Tryz.ntmps49, C_q49, by kernel_rfl⟩
theorem C_q50 : cutF [] (compF Tryz.prog Tryz.f50) = some (A_q50, R_q50) := by kernel_rfl
theorem G_q50 : GoodFC Tryz.prog F_q50 T_q50 := ⟨Tryz.f50, [], Tryz.func50, Tryz.ntmps50, C_q50, by kernel_rfl⟩
theorem C_q51 : cutF [2] (compF Tryz.prog Tryz.f51) = some (A_q51, R_q51) := by kernel_rfl
theorem G_q51 : GoodFC Tryz.prog F_q51 T_q51 := ⟨Tryz.f51, [2], Tryz.func51, Tryz.ntmps51, C_q51, by kernel_rfl⟩
theorem C_q52 : cutF [2, 2] (compF Tryz.prog Tryz.f52) = some (A_q52, R_q52) := by kernel_rfl
theorem G_q52 : GoodFC Tryz.prog F_q52 T_q52 := ⟨Tryz.f52, [2, 2], Tryz.func52, Tryz.ntmps52, C_q52, by kernel_rfl⟩
theorem C_q53 : cutF [0] (compF Tryz.prog Tryz.f53) = some (A_q53, R_q53) := by kernel_rfl
theorem G_q53 : GoodFC Tryz.prog F_q53 T_q53 := ⟨Tryz.f53, [0], Tryz.func53, Tryz.ntmps53, C_q53, by kernel_rfl⟩
theorem C_q54 : cutF [2, 2, 0, 2, 2, 2, 2, 2] (compF Tryz.prog Tryz.f54) = some (A_q54, R_q54) := by kernel_rfl
theorem G_q54 : GoodFC Tryz.prog F_q54 T_q54 := ⟨Tryz.f54, [2, 2, 0, 2, 2, 2, 2, 2], Tryz.func54, Tryz.ntmps54, C_q54, by kernel_rfl⟩
theorem C_q55 : cutF [0, 0] (compF Tryz.prog Tryz.f55) = some (A_q55, R_q55) := by kernel_rfl
theorem G_q55 : GoodFC Tryz.prog F_q55 T_q55 := ⟨Tryz.f55, [0, 0], Tryz.func55, Tryz.ntmps55, C_q55, by kernel_rfl⟩
theorem C_q56 : cutF [] (compF Tryz.prog Tryz.f56) = some (A_q56, R_q56) := by kernel_rfl
theorem G_q56 : GoodFC Tryz.prog F_q56 T_q56 := ⟨Tryz.f56, [], Tryz.func56, Tryz.ntmps56, C_q56, by kernel_rfl⟩
theorem C_q57 : cutF [1, 2, 1] (compF Tryz.prog Tryz.f57) = some (A_q57, R_q57) := by kernel_rfl
theorem G_q57 : GoodFC Tryz.prog F_q57 T_q57 := ⟨Tryz.f57, [1, 2, 1], Tryz.func57, Tryz.ntmps57, C_q57, by kernel_rfl⟩
theorem C_q58 : cutF [] (compF Tryz.prog Tryz.f58) = some (A_q58, R_q58) := by kernel_rfl
theorem G_q58 : GoodFC Tryz.prog F_q58 T_q58 := ⟨Tryz.f58, [], Tryz.func58, Tryz.ntmps58, C_q58, by kernel_rfl⟩
theorem C_q60 : cutF [0, 0] (compF Tryz.prog Tryz.f60) = some (A_q60, R_q60) := by kernel_rfl
theorem G_q60 : GoodFC Tryz.prog F_q60 T_q60 := ⟨Tryz.f60, [0, 0], Tryz.func60, Tryz.ntmps60, C_q60, by kernel_rfl⟩
theorem C_q62 : cutF [] (compF Tryz.prog Tryz.f62) = some (A_q62, R_q62) := by kernel_rfl
theorem G_q62 : GoodFC Tryz.prog F_q62 T_q62 := ⟨Tryz.f62, [], Tryz.func62, Tryz.ntmps62, C_q62, by kernel_rfl⟩
theorem C_q63 : cutF [2, 0, 2] (compF Tryz.prog Tryz.f63) = some (A_q63, R_q63) := by kernel_rfl
theorem G_q63 : GoodFC Tryz.prog F_q63 T_q63 := ⟨Tryz.f63, [2, 0, 2], Tryz.func63, Tryz.ntmps63, C_q63, by kernel_rfl⟩
theorem C_q64 : cutF [1] (compF Tryz.prog Tryz.f64) = some (A_q64, R_q64) := by kernel_rfl
theorem G_q64 : GoodFC Tryz.prog F_q64 T_q64 := ⟨Tryz.f64, [1], Tryz.func64, Tryz.ntmps64, C_q64, by kernel_rfl⟩
theorem C_q65 : cutF [0, 0] (compF Tryz.prog Tryz.f65) = some (A_q65, R_q65) := by kernel_rfl
theorem G_q65 : GoodFC Tryz.prog F_q65 T_q65 := ⟨Tryz.f65, [0, 0], Tryz.func65, Tryz.ntmps65, C_q65, by kernel_rfl⟩
theorem C_q66 : cutF [] (compF Tryz.prog Tryz.f66) = some (A_q66, R_q66) := by kernel_rfl
theorem G_q66 : GoodFC Tryz.prog F_q66 T_q66 := ⟨Tryz.f66, [], Tryz.func66, Tryz.ntmps66, C_q66, by kernel_rfl⟩
theorem C_q67 : cutF [] (compF Tryz.prog Tryz.f67) = some (A_q67, R_q67) := by kernel_rfl
theorem G_q67 : GoodFC Tryz.prog F_q67 T_q67 := ⟨Tryz.f67, [], Tryz.func67, Tryz.ntmps67, C_q67, by kernel_rfl⟩
theorem C_q68 : cutF [1] (compF Tryz.prog Tryz.f68) = some (A_q68, R_q68) := by kernel_rfl
theorem G_q68 : GoodFC Tryz.prog F_q68 T_q68 := ⟨Tryz.f68, [1], Tryz.func68, Tryz.ntmps68, C_q68, by kernel_rfl⟩
theorem C_q69 : cutF [1, 1, 2, 1, 0, 0] (compF Tryz.prog Tryz.f69) = some (A_q69, R_q69) := by kernel_rfl
theorem G_q69 : GoodFC Tryz.prog F_q69 T_q69 := ⟨Tryz.f69, [1, 1, 2, 1, 0, 0], Tryz.func69, Tryz.ntmps69, C_q69, by kernel_rfl⟩
theorem C_q70 : cutF [] (compF Tryz.prog Tryz.f70) = some (A_q70, R_q70) := by kernel_rfl
theorem G_q70 : GoodFC Tryz.prog F_q70 T_q70 := ⟨Tryz.f70, [], Tryz.func70, Tryz.ntmps70, C_q70, by kernel_rfl⟩
theorem C_q71 : cutF [] (compF Tryz.prog Tryz.f71) = some (A_q71, R_q71) := by kernel_rfl
theorem G_q71 : GoodFC Tryz.prog F_q71 T_q71 := ⟨Tryz.f71, [], Tryz.func71, Tryz.ntmps71, C_q71, by kernel_rfl⟩
theorem C_q72 : cutF [0, 1] (compF Tryz.prog Tryz.f72) = some (A_q72, R_q72) := by kernel_rfl
theorem G_q72 : GoodFC Tryz.prog F_q72 T_q72 := ⟨Tryz.f72, [0, 1], Tryz.func72, Tryz.ntmps72, C_q72, by kernel_rfl⟩
theorem C_q73 : cutF [0] (compF Tryz.prog Tryz.f73) = some (A_q73, R_q73) := by kernel_rfl
theorem G_q73 : GoodFC Tryz.prog F_q73 T_q73 := ⟨Tryz.f73, [0], Tryz.func73, Tryz.ntmps73, C_q73, by kernel_rfl⟩
theorem C_q74 : cutF [0, 0, 2, 2] (compF Tryz.prog Tryz.f74) = some (A_q74, R_q74) := by kernel_rfl
theorem G_q74 : GoodFC Tryz.prog F_q74 T_q74 := ⟨Tryz.f74, [0, 0, 2, 2], Tryz.func74, Tryz.ntmps74, C_q74, by kernel_rfl⟩
theorem C_q75 : cutF [] (compF Tryz.prog Tryz.f75) = some (A_q75, R_q75) := by kernel_rfl
theorem G_q75 : GoodFC Tryz.prog F_q75 T_q75 := ⟨Tryz.f75, [], Tryz.func75, Tryz.ntmps75, C_q75, by kernel_rfl⟩
theorem C_q76 : cutF [1] (compF Tryz.prog Tryz.f76) = some (A_q76, R_q76) := by kernel_rfl
theorem G_q76 : GoodFC Tryz.prog F_q76 T_q76 := ⟨Tryz.f76, [1], Tryz.func76, Tryz.ntmps76, C_q76, by kernel_rfl⟩
theorem C_q77 : cutF [1, 1] (compF Tryz.prog Tryz.f77) = some (A_q77, R_q77) := by kernel_rfl
theorem G_q77 : GoodFC Tryz.prog F_q77 T_q77 := ⟨Tryz.f77, [1, 1], Tryz.func77, Tryz.ntmps77, C_q77, by kernel_rfl⟩
theorem C_q78 : cutF [2, 2, 0, 1] (compF Tryz.prog Tryz.f78) = some (A_q78, R_q78) := by kernel_rfl
theorem G_q78 : GoodFC Tryz.prog F_q78 T_q78 := ⟨Tryz.f78, [2, 2, 0, 1], Tryz.func78, Tryz.ntmps78, C_q78, by kernel_rfl⟩
theorem C_q79 : cutF [2, 2, 0, 0] (compF Tryz.prog Tryz.f79) = some (A_q79, R_q79) := by kernel_rfl
theorem G_q79 : GoodFC Tryz.prog F_q79 T_q79 := ⟨Tryz.f79, [2, 2, 0, 0], Tryz.func79, Tryz.ntmps79, C_q79, by kernel_rfl⟩
theorem C_q80 : cutF [0, 2, 0, 2] (compF Tryz.prog Tryz.f80) = some (A_q80, R_q80) := by kernel_rfl
theorem G_q80 : GoodFC Tryz.prog F_q80 T_q80 := ⟨Tryz.f80, [0, 2, 0, 2], Tryz.func80, Tryz.ntmps80, C_q80, by kernel_rfl⟩
theorem C_q81 : cutF [2, 3] (compF Tryz.prog Tryz.f81) = some (A_q81, R_q81) := by kernel_rfl
theorem G_q81 : GoodFC Tryz.prog F_q81 T_q81 := ⟨Tryz.f81, [2, 3], Tryz.func81, Tryz.ntmps81, C_q81, by kernel_rfl⟩
theorem C_q82 : cutF [] (compF Tryz.prog Tryz.f82) = some (A_q82, R_q82) := by kernel_rfl
theorem G_q82 : GoodFC Tryz.prog F_q82 T_q82 := ⟨Tryz.f82, [], Tryz.func82, Tryz.ntmps82, C_q82, by kernel_rfl⟩
theorem C_q83 : cutF [1, 3, 3, 3, 3, 3, 3] (compF Tryz.prog Tryz.f83) = some (A_q83, R_q83) := by kernel_rfl
theorem G_q83 : GoodFC Tryz.prog F_q83 T_q83 := ⟨Tryz.f83, [1, 3, 3, 3, 3, 3, 3], Tryz.func83, Tryz.ntmps83, C_q83, by kernel_rfl⟩
theorem C_q84 : cutF [2] (compF Tryz.prog Tryz.f84) = some (A_q84, R_q84) := by kernel_rfl
theorem G_q84 : GoodFC Tryz.prog F_q84 T_q84 := ⟨Tryz.f84, [2], Tryz.func84, Tryz.ntmps84, C_q84, by kernel_rfl⟩
theorem C_q85 : cutF [0] (compF Tryz.prog Tryz.f85) = some (A_q85, R_q85) := by kernel_rfl
theorem G_q85 : GoodFC Tryz.prog F_q85 T_q85 := ⟨Tryz.f85, [0], Tryz.func85, Tryz.ntmps85, C_q85, by kernel_rfl⟩
theorem C_q86 : cutF [2] (compF Tryz.prog Tryz.f86) = some (A_q86, R_q86) := by kernel_rfl
theorem G_q86 : GoodFC Tryz.prog F_q86 T_q86 := ⟨Tryz.f86, [2], Tryz.func86, Tryz.ntmps86, C_q86, by kernel_rfl⟩
theorem C_q87 : cutF [1, 2, 3, 1, 3, 1, 3] (compF Tryz.prog Tryz.f87) = some (A_q87, R_q87) := by kernel_rfl
theorem G_q87 : GoodFC Tryz.prog F_q87 T_q87 := ⟨Tryz.f87, [1, 2, 3, 1, 3, 1, 3], Tryz.func87, Tryz.ntmps87, C_q87, by kernel_rfl⟩
theorem C_q88 : cutF [0] (compF Tryz.prog Tryz.f88) = some (A_q88, R_q88) := by kernel_rfl
theorem G_q88 : GoodFC Tryz.prog F_q88 T_q88 := ⟨Tryz.f88, [0], Tryz.func88, Tryz.ntmps88, C_q88, by kernel_rfl⟩
theorem C_q96 : cutF [1] (compF Tryz.prog Tryz.f96) = some (A_q96, R_q96) := by kernel_rfl
theorem G_q96 : GoodFC Tryz.prog F_q96 T_q96 := ⟨Tryz.f96, [1], Tryz.func96, Tryz.ntmps96, C_q96, by kernel_rfl⟩
theorem C_q97 : cutF [0] (compF Tryz.prog Tryz.f97) = some (A_q97, R_q97) := by kernel_rfl
theorem G_q97 : GoodFC Tryz.prog F_q97 T_q97 := ⟨Tryz.f97, [0], Tryz.func97, Tryz.ntmps97, C_q97, by kernel_rfl⟩
theorem C_q100 : cutF [] (compF Tryz.prog Tryz.f100) = some (A_q100, R_q100) := by kernel_rfl
theorem G_q100 : GoodFC Tryz.prog F_q100 T_q100 := ⟨Tryz.f100, [], Tryz.func100, Tryz.ntmps100, C_q100, by kernel_rfl⟩
theorem C_q102 : cutF [1] (compF Tryz.prog Tryz.f102) = some (A_q102, R_q102) := by kernel_rfl
theorem G_q102 : GoodFC Tryz.prog F_q102 T_q102 := ⟨Tryz.f102, [1], Tryz.func102, Tryz.ntmps102, C_q102, by kernel_rfl⟩
theorem C_q103 : cutF [2, 2, 0, 2, 2, 2] (compF Tryz.prog Tryz.f103) = some (A_q103, R_q103) := by kernel_rfl
theorem G_q103 : GoodFC Tryz.prog F_q103 T_q103 := ⟨Tryz.f103, [2, 2, 0, 2, 2, 2], Tryz.func103, Tryz.ntmps103, C_q103, by kernel_rfl⟩
theorem C_q104 : cutF [2] (compF Tryz.prog Tryz.f104) = some (A_q104, R_q104) := by kernel_rfl
theorem G_q104 : GoodFC Tryz.prog F_q104 T_q104 := ⟨Tryz.f104, [2], Tryz.func104, Tryz.ntmps104, C_q104, by kernel_rfl⟩
theorem C_q105 : cutF [2, 2, 2] (compF Tryz.prog Tryz.f105) = some (A_q105, R_q105) := by kernel_rfl
theorem G_q105 : GoodFC Tryz.prog F_q105 T_q105 := ⟨Tryz.f105, [2, 2, 2], Tryz.func105, Tryz.ntmps105, C_q105, by kernel_rfl⟩
theorem C_q107 : cutF [2] (compF Tryz.prog Tryz.f107) = some (A_q107, R_q107) := by kernel_rfl
theorem G_q107 : GoodFC Tryz.prog F_q107 T_q107 := ⟨Tryz.f107, [2], Tryz.func107, Tryz.ntmps107, C_q107, by kernel_rfl⟩
theorem C_q110 : cutF [2, 2, 1, 0, 2] (compF Tryz.prog Tryz.f110) = some (A_q110, R_q110) := by kernel_rfl
theorem G_q110 : GoodFC Tryz.prog F_q110 T_q110 := ⟨Tryz.f110, [2, 2, 1, 0, 2], Tryz.func110, Tryz.ntmps110, C_q110, by kernel_rfl⟩
theorem C_q111 : cutF [] (compF Tryz.prog Tryz.f111) = some (A_q111, R_q111) := by kernel_rfl
theorem G_q111 : GoodFC Tryz.prog F_q111 T_q111 := ⟨Tryz.f111, [], Tryz.func111, Tryz.ntmps111, C_q111, by kernel_rfl⟩
theorem C_q112 : cutF [] (compF Tryz.prog Tryz.f112) = some (A_q112, R_q112) := by kernel_rfl
theorem G_q112 : GoodFC Tryz.prog F_q112 T_q112 := ⟨Tryz.f112, [], Tryz.func112, Tryz.ntmps112, C_q112, by kernel_rfl⟩
theorem C_q113 : cutF [] (compF Tryz.prog Tryz.f113) = some (A_q113, R_q113) := by kernel_rfl
theorem G_q113 : GoodFC Tryz.prog F_q113 T_q113 := ⟨Tryz.f113, [], Tryz.func113, Tryz.ntmps113, C_q113, by kernel_rfl⟩
theorem C_q114 : cutF [] (compF Tryz.prog Tryz.f114) = some (A_q114, R_q114) := by kernel_rfl
theorem G_q114 : GoodFC Tryz.prog F_q114 T_q114 := ⟨Tryz.f114, [], Tryz.func114, Tryz.ntmps114, C_q114, by kernel_rfl⟩
theorem C_q115 : cutF [] (compF Tryz.prog Tryz.f115) = some (A_q115, R_q115) := by kernel_rfl
theorem G_q115 : GoodFC Tryz.prog F_q115 T_q115 := ⟨Tryz.f115, [], Tryz.func115, Tryz.ntmps115, C_q115, by kernel_rfl⟩
theorem C_q116 : cutF [] (compF Tryz.prog Tryz.f116) = some (A_q116, R_q116) := by kernel_rfl
theorem G_q116 : GoodFC Tryz.prog F_q116 T_q116 := ⟨Tryz.f116, [], Tryz.func116, Tryz.ntmps116, C_q116, by kernel_rfl⟩
theorem C_q117 : cutF [0, 2] (compF Tryz.prog Tryz.f117) = some (A_q117, R_q117) := by kernel_rfl
theorem G_q117 : GoodFC Tryz.prog F_q117 T_q117 := ⟨Tryz.f117, [0, 2], Tryz.func117, Tryz.ntmps117, C_q117, by kernel_rfl⟩
theorem C_q118 : cutF [2] (compF Tryz.prog Tryz.f118) = some (A_q118, R_q118) := by kernel_rfl
theorem G_q118 : GoodFC Tryz.prog F_q118 T_q118 := ⟨Tryz.f118, [2], Tryz.func118, Tryz.ntmps118, C_q118, by kernel_rfl⟩
theorem C_q119 : cutF [2, 0, 2] (compF Tryz.prog Tryz.f119) = some (A_q119, R_q119) := by kernel_rfl
theorem G_q119 : GoodFC Tryz.prog F_q119 T_q119 := ⟨Tryz.f119, [2, 0, 2], Tryz.func119, Tryz.ntmps119, C_q119, by kernel_rfl⟩
theorem C_q120 : cutF [0, 0, 2, 2] (compF Tryz.prog Tryz.f120) = some (A_q120, R_q120) := by kernel_rfl
theorem G_q120 : GoodFC Tryz.prog F_q120 T_q120 := ⟨Tryz.f120, [0, 0, 2, 2], Tryz.func120, Tryz.ntmps120, C_q120, by kernel_rfl⟩
theorem C_q121 : cutF [0] (compF Tryz.prog Tryz.f121) = some (A_q121, R_q121) := by kernel_rfl
theorem G_q121 : GoodFC Tryz.prog F_q121 T_q121 := ⟨Tryz.f121, [0], Tryz.func121, Tryz.ntmps121, C_q121, by kernel_rfl⟩
theorem C_q122 : cutF [0] (compF Tryz.prog Tryz.f122) = some (A_q122, R_q122) := by kernel_rfl
theorem G_q122 : GoodFC Tryz.prog F_q122 T_q122 := ⟨Tryz.f122, [0], Tryz.func122, Tryz.ntmps122, C_q122, by kernel_rfl⟩
theorem C_q123 : cutF [0] (compF Tryz.prog Tryz.f123) = some (A_q123, R_q123) := by kernel_rfl
theorem G_q123 : GoodFC Tryz.prog F_q123 T_q123 := ⟨Tryz.f123, [0], Tryz.func123, Tryz.ntmps123, C_q123, by kernel_rfl⟩
theorem C_q124 : cutF [2, 2, 1, 2, 0, 2, 0] (compF Tryz.prog Tryz.f124) = some (A_q124, R_q124) := by kernel_rfl
theorem G_q124 : GoodFC Tryz.prog F_q124 T_q124 := ⟨Tryz.f124, [2, 2, 1, 2, 0, 2, 0], Tryz.func124, Tryz.ntmps124, C_q124, by kernel_rfl⟩
theorem C_q125 : cutF [0, 0, 0, 0] (compF Tryz.prog Tryz.f125) = some (A_q125, R_q125) := by kernel_rfl
theorem G_q125 : GoodFC Tryz.prog F_q125 T_q125 := ⟨Tryz.f125, [0, 0, 0, 0], Tryz.func125, Tryz.ntmps125, C_q125, by kernel_rfl⟩
theorem C_q126 : cutF [] (compF Tryz.prog Tryz.f126) = some (A_q126, R_q126) := by kernel_rfl
theorem G_q126 : GoodFC Tryz.prog F_q126 T_q126 := ⟨Tryz.f126, [], Tryz.func126, Tryz.ntmps126, C_q126, by kernel_rfl⟩
theorem C_q127 : cutF [] (compF Tryz.prog Tryz.f127) = some (A_q127, R_q127) := by kernel_rfl
theorem G_q127 : GoodFC Tryz.prog F_q127 T_q127 := ⟨Tryz.f127, [], Tryz.func127, Tryz.ntmps127, C_q127, by kernel_rfl⟩
theorem C_q128 : cutF [1, 3] (compF Tryz.prog Tryz.f128) = some (A_q128, R_q128) := by kernel_rfl
theorem G_q128 : GoodFC Tryz.prog F_q128 T_q128 := ⟨Tryz.f128, [1, 3], Tryz.func128, Tryz.ntmps128, C_q128, by kernel_rfl⟩
theorem C_q129 : cutF [0, 2] (compF Tryz.prog Tryz.f129) = some (A_q129, R_q129) := by kernel_rfl
theorem G_q129 : GoodFC Tryz.prog F_q129 T_q129 := ⟨Tryz.f129, [0, 2], Tryz.func129, Tryz.ntmps129, C_q129, by kernel_rfl⟩
theorem C_q130 : cutF [0, 0] (compF Tryz.prog Tryz.f130) = some (A_q130, R_q130) := by kernel_rfl
theorem G_q130 : GoodFC Tryz.prog F_q130 T_q130 := ⟨Tryz.f130, [0, 0], Tryz.func130, Tryz.ntmps130, C_q130, by kernel_rfl⟩
theorem C_q136 : cutF [] (compF Tryz.prog Tryz.f136) = some (A_q136, R_q136) := by kernel_rfl
theorem G_q136 : GoodFC Tryz.prog F_q136 T_q136 := ⟨Tryz.f136, [], Tryz.func136, Tryz.ntmps136, C_q136, by kernel_rfl⟩
theorem C_q140 : cutF [2, 2, 2] (compF Tryz.prog Tryz.f140) = some (A_q140, R_q140) := by kernel_rfl
theorem G_q140 : GoodFC Tryz.prog F_q140 T_q140 := ⟨Tryz.f140, [2, 2, 2], Tryz.func140, Tryz.ntmps140, C_q140, by kernel_rfl⟩
theorem C_q157 : cutF [2] (compF Tryz.prog Tryz.f157) = some (A_q157, R_q157) := by kernel_rfl
theorem G_q157 : GoodFC Tryz.prog F_q157 T_q157 := ⟨Tryz.f157, [2], Tryz.func157, Tryz.ntmps157, C_q157, by kernel_rfl⟩
theorem C_q159 : cutF [2, 2, 2] (compF Tryz.prog Tryz.f159) = some (A_q159, R_q159) := by kernel_rfl
theorem G_q159 : GoodFC Tryz.prog F_q159 T_q159 := ⟨Tryz.f159, [2, 2, 2], Tryz.func159, Tryz.ntmps159, C_q159, by kernel_rfl⟩
theorem C_q160 : cutF [2, 3] (compF Tryz.prog Tryz.f160) = some (A_q160, R_q160) := by kernel_rfl
theorem G_q160 : GoodFC Tryz.prog F_q160 T_q160 := ⟨Tryz.f160, [2, 3], Tryz.func160, Tryz.ntmps160, C_q160, by kernel_rfl⟩
theorem C_q161 : cutF [] (compF Tryz.prog Tryz.f161) = some (A_q161, R_q161) := by kernel_rfl
theorem G_q161 : GoodFC Tryz.prog F_q161 T_q161 := ⟨Tryz.f161, [], Tryz.func161, Tryz.ntmps161, C_q161, by kernel_rfl⟩
theorem C_q163 : cutF [1] (compF Tryz.prog Tryz.f163) = some (A_q163, R_q163) := by kernel_rfl
theorem G_q163 : GoodFC Tryz.prog F_q163 T_q163 := ⟨Tryz.f163, [1], Tryz.func163, Tryz.ntmps163, C_q163, by kernel_rfl⟩
theorem C_q164 : cutF [] (compF Tryz.prog Tryz.f164) = some (A_q164, R_q164) := by kernel_rfl
theorem G_q164 : GoodFC Tryz.prog F_q164 T_q164 := ⟨Tryz.f164, [], Tryz.func164, Tryz.ntmps164, C_q164, by kernel_rfl⟩
theorem C_q165 : cutF [2, 1, 3, 3, 3] (compF Tryz.prog Tryz.f165) = some (A_q165, R_q165) := by kernel_rfl
theorem G_q165 : GoodFC Tryz.prog F_q165 T_q165 := ⟨Tryz.f165, [2, 1, 3, 3, 3], Tryz.func165, Tryz.ntmps165, C_q165, by kernel_rfl⟩
theorem C_q166 : cutF [2, 3, 3, 1] (compF Tryz.prog Tryz.f166) = some (A_q166, R_q166) := by kernel_rfl
theorem G_q166 : GoodFC Tryz.prog F_q166 T_q166 := ⟨Tryz.f166, [2, 3, 3, 1], Tryz.func166, Tryz.ntmps166, C_q166, by kernel_rfl⟩
theorem C_q167 : cutF [] (compF Tryz.prog Tryz.f167) = some (A_q167, R_q167) := by kernel_rfl
theorem G_q167 : GoodFC Tryz.prog F_q167 T_q167 := ⟨Tryz.f167, [], Tryz.func167, Tryz.ntmps167, C_q167, by kernel_rfl⟩
theorem C_q168 : cutF [2, 2, 2, 3, 3, 3, 3, 3, 3] (compF Tryz.prog Tryz.f168) = some (A_q168, R_q168) := by kernel_rfl
theorem G_q168 : GoodFC Tryz.prog F_q168 T_q168 := ⟨Tryz.f168, [2, 2, 2, 3, 3, 3, 3, 3, 3], Tryz.func168, Tryz.ntmps168, C_q168, by kernel_rfl⟩
theorem C_q171 : cutF [2, 1, 3] (compF Tryz.prog Tryz.f171) = some (A_q171, R_q171) := by kernel_rfl
theorem G_q171 : GoodFC Tryz.prog F_q171 T_q171 := ⟨Tryz.f171, [2, 1, 3], Tryz.func171, Tryz.ntmps171, C_q171, by kernel_rfl⟩
theorem C_q172 : cutF [] (compF Tryz.prog Tryz.f172) = some (A_q172, R_q172) := by kernel_rfl
theorem G_q172 : GoodFC Tryz.prog F_q172 T_q172 := ⟨Tryz.f172, [], Tryz.func172, Tryz.ntmps172, C_q172, by kernel_rfl⟩
theorem C_q173 : cutF [0] (compF Tryz.prog Tryz.f173) = some (A_q173, R_q173) := by kernel_rfl
theorem G_q173 : GoodFC Tryz.prog F_q173 T_q173 := ⟨Tryz.f173, [0], Tryz.func173, Tryz.ntmps173, C_q173, by kernel_rfl⟩
theorem C_q174 : cutF [1] (compF Tryz.prog Tryz.f174) = some (A_q174, R_q174) := by kernel_rfl
theorem G_q174 : GoodFC Tryz.prog F_q174 T_q174 := ⟨Tryz.f174, [1], Tryz.func174, Tryz.ntmps174, C_q174, by kernel_rfl⟩
theorem C_q175 : cutF [2] (compF Tryz.prog Tryz.f175) = some (A_q175, R_q175) := by kernel_rfl
theorem G_q175 : GoodFC Tryz.prog F_q175 T_q175 := ⟨Tryz.f175, [2], Tryz.func175, Tryz.ntmps175, C_q175, by kernel_rfl⟩
theorem C_q176 : cutF [] (compF Tryz.prog Tryz.f176) = some (A_q176, R_q176) := by kernel_rfl
theorem G_q176 : GoodFC Tryz.prog F_q176 T_q176 := ⟨Tryz.f176, [], Tryz.func176, Tryz.ntmps176, C_q176, by kernel_rfl⟩
theorem C_q177 : cutF [] (compF Tryz.prog Tryz.f177) = some (A_q177, R_q177) := by kernel_rfl
theorem G_q177 : GoodFC Tryz.prog F_q177 T_q177 := ⟨Tryz.f177, [], Tryz.func177, Tryz.ntmps177, C_q177, by kernel_rfl⟩
theorem C_q178 : cutF [2, 3] (compF Tryz.prog Tryz.f178) = some (A_q178, R_q178) := by kernel_rfl
theorem G_q178 : GoodFC Tryz.prog F_q178 T_q178 := ⟨Tryz.f178, [2, 3], Tryz.func178, Tryz.ntmps178, C_q178, by kernel_rfl⟩
theorem C_q179 : cutF [2] (compF Tryz.prog Tryz.f179) = some (A_q179, R_q179) := by kernel_rfl
theorem G_q179 : GoodFC Tryz.prog F_q179 T_q179 := ⟨Tryz.f179, [2], Tryz.func179, Tryz.ntmps179, C_q179, by kernel_rfl⟩
theorem C_q180 : cutF [1, 0, 0, 0, 1] (compF Tryz.prog Tryz.f180) = some (A_q180, R_q180) := by kernel_rfl
theorem G_q180 : GoodFC Tryz.prog F_q180 T_q180 := ⟨Tryz.f180, [1, 0, 0, 0, 1], Tryz.func180, Tryz.ntmps180, C_q180, by kernel_rfl⟩
theorem C_q181 : cutF [] (compF Tryz.prog Tryz.f181) = some (A_q181, R_q181) := by kernel_rfl
theorem G_q181 : GoodFC Tryz.prog F_q181 T_q181 := ⟨Tryz.f181, [], Tryz.func181, Tryz.ntmps181, C_q181, by kernel_rfl⟩
theorem C_q182 : cutF [] (compF Tryz.prog Tryz.f182) = some (A_q182, R_q182) := by kernel_rfl
theorem G_q182 : GoodFC Tryz.prog F_q182 T_q182 := ⟨Tryz.f182, [], Tryz.func182, Tryz.ntmps182, C_q182, by kernel_rfl⟩
theorem C_q183 : cutF [] (compF Tryz.prog Tryz.f183) = some (A_q183, R_q183) := by kernel_rfl
theorem G_q183 : GoodFC Tryz.prog F_q183 T_q183 := ⟨Tryz.f183, [], Tryz.func183, Tryz.ntmps183, C_q183, by kernel_rfl⟩
theorem C_q184 : cutF [] (compF Tryz.prog Tryz.f184) = some (A_q184, R_q184) := by kernel_rfl
theorem G_q184 : GoodFC Tryz.prog F_q184 T_q184 := ⟨Tryz.f184, [], Tryz.func184, Tryz.ntmps184, C_q184, by kernel_rfl⟩
theorem C_q186 : cutF [2, 1] (compF Tryz.prog Tryz.f186) = some (A_q186, R_q186) := by kernel_rfl
theorem G_q186 : GoodFC Tryz.prog F_q186 T_q186 := ⟨Tryz.f186, [2, 1], Tryz.func186, Tryz.ntmps186, C_q186, by kernel_rfl⟩
theorem C_q187 : cutF [] (compF Tryz.prog Tryz.f187) = some (A_q187, R_q187) := by kernel_rfl
theorem G_q187 : GoodFC Tryz.prog F_q187 T_q187 := ⟨Tryz.f187, [], Tryz.func187, Tryz.ntmps187, C_q187, by kernel_rfl⟩
theorem C_q188 : cutF [] (compF Tryz.prog Tryz.f188) = some (A_q188, R_q188) := by kernel_rfl
theorem G_q188 : GoodFC Tryz.prog F_q188 T_q188 := ⟨Tryz.f188, [], Tryz.func188, Tryz.ntmps188, C_q188, by kernel_rfl⟩
theorem C_q189 : cutF [0, 0] (compF Tryz.prog Tryz.f189) = some (A_q189, R_q189) := by kernel_rfl
theorem G_q189 : GoodFC Tryz.prog F_q189 T_q189 := ⟨Tryz.f189, [0, 0], Tryz.func189, Tryz.ntmps189, C_q189, by kernel_rfl⟩
theorem C_q190 : cutF [0, 0, 0, 0, 0, 0, 0, 0, 0, 0, 0, 0, 0, 0] (compF Tryz.prog Tryz.f190) = some (A_q190, R_q190) := by kernel_rfl
theorem G_q190 : GoodFC Tryz.prog F_q190 T_q190 := ⟨Tryz.f190, [0, 0, 0, 0, 0, 0, 0, 0, 0, 0, 0, 0, 0, 0], Tryz.func190, Tryz.ntmps190, C_q190, by kernel_rfl⟩
theorem C_q191 : cutF [] (compF Tryz.prog Tryz.f191) = some (A_q191, R_q191) := by kernel_rfl
theorem G_q191 : GoodFC Tryz.prog F_q191 T_q191 := ⟨Tryz.f191, [], Tryz.func191, Tryz.ntmps191, C_q191, by kernel_rfl⟩
theorem C_q192 : cutF [0] (compF Tryz.prog Tryz.f192) = some (A_q192, R_q192) := by kernel_rfl
theorem G_q192 : GoodFC Tryz.prog F_q192 T_q192 := ⟨Tryz.f192, [0], Tryz.func192, Tryz.ntmps192, C_q192, by kernel_rfl⟩
theorem C_q193 : cutF [] (compF Tryz.prog Tryz.f193) = some (A_q193, R_q193) := by kernel_rfl
theorem G_q193 : GoodFC Tryz.prog F_q193 T_q193 := ⟨Tryz.f193, [], Tryz.func193, Tryz.ntmps193, C_q193, by kernel_rfl⟩
theorem C_q194 : cutF [2] (compF Tryz.prog Tryz.f194) = some (A_q194, R_q194) := by kernel_rfl
theorem G_q194 : GoodFC Tryz.prog F_q194 T_q194 := ⟨Tryz.f194, [2], Tryz.func194, Tryz.ntmps194, C_q194, by kernel_rfl⟩
theorem C_q195 : cutF [1, 1] (compF Tryz.prog Tryz.f195) = some (A_q195, R_q195) := by kernel_rfl
theorem G_q195 : GoodFC Tryz.prog F_q195 T_q195 := ⟨Tryz.f195, [1, 1], Tryz.func195, Tryz.ntmps195, C_q195, by kernel_rfl⟩
theorem C_q212 : cutF [2] (compF Tryz.prog Tryz.f212) = some (A_q212, R_q212) := by kernel_rfl
theorem G_q212 : GoodFC Tryz.prog F_q212 T_q212 := ⟨Tryz.f212, [2], Tryz.func212, Tryz.ntmps212, C_q212, by kernel_rfl⟩
theorem C_q215 : cutF [1] (compF Tryz.prog Tryz.f215) = some (A_q215, R_q215) := by kernel_rfl
theorem G_q215 : GoodFC Tryz.prog F_q215 T_q215 := ⟨Tryz.f215, [1], Tryz.func215, Tryz.ntmps215, C_q215, by kernel_rfl⟩
theorem C_q217 : cutF [2, 3] (compF Tryz.prog Tryz.f217) = some (A_q217, R_q217) := by kernel_rfl
theorem G_q217 : GoodFC Tryz.prog F_q217 T_q217 := ⟨Tryz.f217, [2, 3], Tryz.func217, Tryz.ntmps217, C_q217, by kernel_rfl⟩
theorem C_q227 : cutF [2] (compF Tryz.prog Tryz.f227) = some (A_q227, R_q227) := by kernel_rfl
theorem G_q227 : GoodFC Tryz.prog F_q227 T_q227 := ⟨Tryz.f227, [2], Tryz.func227, Tryz.ntmps227, C_q227, by kernel_rfl⟩
theorem C_q234 : cutF [] (compF Tryz.prog Tryz.f234) = some (A_q234, R_q234) := by kernel_rfl
theorem G_q234 : GoodFC Tryz.prog F_q234 T_q234 := ⟨Tryz.f234, [], Tryz.func234, Tryz.ntmps234, C_q234, by kernel_rfl⟩
theorem C_q235 : cutF [] (compF Tryz.prog Tryz.f235) = some (A_q235, R_q235) := by kernel_rfl
theorem G_q235 : GoodFC Tryz.prog F_q235 T_q235 := ⟨Tryz.f235, [], Tryz.func235, Tryz.ntmps235, C_q235, by kernel_rfl⟩
theorem C_q236 : cutF [] (compF Tryz.prog Tryz.f236) = some (A_q236, R_q236) := by kernel_rfl
theorem G_q236 : GoodFC Tryz.prog F_q236 T_q236 := ⟨Tryz.f236, [], Tryz.func236, Tryz.ntmps236, C_q236, by kernel_rfl⟩
theorem C_q247 : cutF [2, 1, 3, 3, 3, 3] (compF Tryz.prog Tryz.f247) = some (A_q247, R_q247) := by kernel_rfl
theorem G_q247 : GoodFC Tryz.prog F_q247 T_q247 := ⟨Tryz.f247, [2, 1, 3, 3, 3, 3], Tryz.func247, Tryz.ntmps247, C_q247, by kernel_rfl⟩
theorem C_q248 : cutF [] (compF Tryz.prog Tryz.f248) = some (A_q248, R_q248) := by kernel_rfl
theorem G_q248 : GoodFC Tryz.prog F_q248 T_q248 := ⟨Tryz.f248, [], Tryz.func248, Tryz.ntmps248, C_q248, by kernel_rfl⟩
theorem C_q249 : cutF [] (compF Tryz.prog Tryz.f249) = some (A_q249, R_q249) := by kernel_rfl
theorem G_q249 : GoodFC Tryz.prog F_q249 T_q249 := ⟨Tryz.f249, [], Tryz.func249, Tryz.ntmps249, C_q249, by kernel_rfl⟩
theorem C_q250 : cutF [] (compF Tryz.prog Tryz.f250) = some (A_q250, R_q250) := by kernel_rfl
theorem G_q250 : GoodFC Tryz.prog F_q250 T_q250 := ⟨Tryz.f250, [], Tryz.func250, Tryz.ntmps250, C_q250, by kernel_rfl⟩
theorem C_q251 : cutF [] (compF Tryz.prog Tryz.f251) = some (A_q251, R_q251) := by kernel_rfl
theorem G_q251 : GoodFC Tryz.prog F_q251 T_q251 := ⟨Tryz.f251, [], Tryz.func251, Tryz.ntmps251, C_q251, by kernel_rfl⟩
theorem C_q252 : cutF [2] (compF Tryz.prog Tryz.f252) = some (A_q252, R_q252) := by kernel_rfl
theorem G_q252 : GoodFC Tryz.prog F_q252 T_q252 := ⟨Tryz.f252, [2], Tryz.func252, Tryz.ntmps252, C_q252, by kernel_rfl⟩
theorem C_q253 : cutF [] (compF Tryz.prog Tryz.f253) = some (A_q253, R_q253) := by kernel_rfl
theorem G_q253 : GoodFC Tryz.prog F_q253 T_q253 := ⟨Tryz.f253, [], Tryz.func253, Tryz.ntmps253, C_q253, by kernel_rfl⟩
theorem C_q255 : cutF [] (compF Tryz.prog Tryz.f255) = some (A_q255, R_q255) := by kernel_rfl
theorem G_q255 : GoodFC Tryz.prog F_q255 T_q255 := ⟨Tryz.f255, [], Tryz.func255, Tryz.ntmps255, C_q255, by kernel_rfl⟩
theorem C_q256 : cutF [2] (compF Tryz.prog Tryz.f256) = some (A_q256, R_q256) := by kernel_rfl
theorem G_q256 : GoodFC Tryz.prog F_q256 T_q256 := ⟨Tryz.f256, [2], Tryz.func256, Tryz.ntmps256, C_q256, by kernel_rfl⟩
theorem C_q257 : cutF [0, 0] (compF Tryz.prog Tryz.f257) = some (A_q257, R_q257) := by kernel_rfl
theorem G_q257 : GoodFC Tryz.prog F_q257 T_q257 := ⟨Tryz.f257, [0, 0], Tryz.func257, Tryz.ntmps257, C_q257, by kernel_rfl⟩
theorem C_q258 : cutF [] (compF Tryz.prog Tryz.f258) = some (A_q258, R_q258) := by kernel_rfl
theorem G_q258 : GoodFC Tryz.prog F_q258 T_q258 := ⟨Tryz.f258, [], Tryz.func258, Tryz.ntmps258, C_q258, by kernel_rfl⟩
theorem C_q260 : cutF [2, 3] (compF Tryz.prog Tryz.f260) = some (A_q260, R_q260) := by kernel_rfl
theorem G_q260 : GoodFC Tryz.prog F_q260 T_q260 := ⟨Tryz.f260, [2, 3], Tryz.func260, Tryz.ntmps260, C_q260, by kernel_rfl⟩
theorem C_q261 : cutF [0, 2] (compF Tryz.prog Tryz.f261) = some (A_q261, R_q261) := by kernel_rfl
theorem G_q261 : GoodFC Tryz.prog F_q261 T_q261 := ⟨Tryz.f261, [0, 2], Tryz.func261, Tryz.ntmps261, C_q261, by kernel_rfl⟩
theorem C_q262 : cutF [] (compF Tryz.prog Tryz.f262) = some (A_q262, R_q262) := by kernel_rfl
theorem G_q262 : GoodFC Tryz.prog F_q262 T_q262 := ⟨Tryz.f262, [], Tryz.func262, Tryz.ntmps262, C_q262, by kernel_rfl⟩
theorem C_q263 : cutF [0, 0] (compF Tryz.prog Tryz.f263) = some (A_q263, R_q263) := by kernel_rfl
theorem G_q263 : GoodFC Tryz.prog F_q263 T_q263 := ⟨Tryz.f263, [0, 0], Tryz.func263, Tryz.ntmps263, C_q263, by kernel_rfl⟩
theorem C_q264 : cutF [0, 2] (compF Tryz.prog Tryz.f264) = some (A_q264, R_q264) := by kernel_rfl
theorem G_q264 : GoodFC Tryz.prog F_q264 T_q264 := ⟨Tryz.f264, [0, 2], Tryz.func264, Tryz.ntmps264, C_q264, by kernel_rfl⟩
theorem C_q265 : cutF [] (compF Tryz.prog Tryz.f265) = some (A_q265, R_q265) := by kernel_rfl
theorem G_q265 : GoodFC Tryz.prog F_q265 T_q265 := ⟨Tryz.f265, [], Tryz.func265, Tryz.ntmps265, C_q265, by kernel_rfl⟩
theorem C_q266 : cutF [] (compF Tryz.prog Tryz.f266) = some (A_q266, R_q266) := by kernel_rfl
theorem G_q266 : GoodFC Tryz.prog F_q266 T_q266 := ⟨Tryz.f266, [], Tryz.func266, Tryz.ntmps266, C_q266, by kernel_rfl⟩
theorem C_q293 : cutF [] (compF Tryz.prog Tryz.f293) = some (A_q293, R_q293) := by kernel_rfl
theorem G_q293 : GoodFC Tryz.prog F_q293 T_q293 := ⟨Tryz.f293, [], Tryz.func293, Tryz.ntmps293, C_q293, by kernel_rfl⟩
theorem C_q294 : cutF [] (compF Tryz.prog Tryz.f294) = some (A_q294, R_q294) := by kernel_rfl
theorem G_q294 : GoodFC Tryz.prog F_q294 T_q294 := ⟨Tryz.f294, [], Tryz.func294, Tryz.ntmps294, C_q294, by kernel_rfl⟩
theorem C_q295 : cutF [2, 3] (compF Tryz.prog Tryz.f295) = some (A_q295, R_q295) := by kernel_rfl
theorem G_q295 : GoodFC Tryz.prog F_q295 T_q295 := ⟨Tryz.f295, [2, 3], Tryz.func295, Tryz.ntmps295, C_q295, by kernel_rfl⟩
theorem C_q301 : cutF [] (compF Tryz.prog Tryz.f301) = some (A_q301, R_q301) := by kernel_rfl
theorem G_q301 : GoodFC Tryz.prog F_q301 T_q301 := ⟨Tryz.f301, [], Tryz.func301, Tryz.ntmps301, C_q301, by kernel_rfl⟩
theorem C_q305 : cutF [0, 0, 0] (compF Tryz.prog Tryz.f305) = some (A_q305, R_q305) := by kernel_rfl
theorem G_q305 : GoodFC Tryz.prog F_q305 T_q305 := ⟨Tryz.f305, [0, 0, 0], Tryz.func305, Tryz.ntmps305, C_q305, by kernel_rfl⟩
theorem C_q306 : cutF [2, 3] (compF Tryz.prog Tryz.f306) = some (A_q306, R_q306) := by kernel_rfl
theorem G_q306 : GoodFC Tryz.prog F_q306 T_q306 := ⟨Tryz.f306, [2, 3], Tryz.func306, Tryz.ntmps306, C_q306, by kernel_rfl⟩
theorem C_q309 : cutF [0] (compF Tryz.prog Tryz.f309) = some (A_q309, R_q309) := by kernel_rfl
theorem G_q309 : GoodFC Tryz.prog F_q309 T_q309 := ⟨Tryz.f309, [0], Tryz.func309, Tryz.ntmps309, C_q309, by kernel_rfl⟩
theorem C_q310 : cutF [1] (compF Tryz.prog Tryz.f310) = some (A_q310, R_q310) := by kernel_rfl
theorem G_q310 : GoodFC Tryz.prog F_q310 T_q310 := ⟨Tryz.f310, [1], Tryz.func310, Tryz.ntmps310, C_q310, by kernel_rfl⟩
theorem C_q311 : cutF [2] (compF Tryz.prog Tryz.f311) = some (A_q311, R_q311) := by kernel_rfl
theorem G_q311 : GoodFC Tryz.prog F_q311 T_q311 := ⟨Tryz.f311, [2], Tryz.func311, Tryz.ntmps311, C_q311, by kernel_rfl⟩
theorem C_q312 : cutF [] (compF Tryz.prog Tryz.f312) = some (A_q312, R_q312) := by kernel_rfl
theorem G_q312 : GoodFC Tryz.prog F_q312 T_q312 := ⟨Tryz.f312, [], Tryz.func312, Tryz.ntmps312, C_q312, by kernel_rfl⟩
theorem C_q332 : cutF [] (compF Tryz.prog Tryz.f332) = some (A_q332, R_q332) := by kernel_rfl
theorem G_q332 : GoodFC Tryz.prog F_q332 T_q332 := ⟨Tryz.f332, [], Tryz.func332, Tryz.ntmps332, C_q332, by kernel_rfl⟩
theorem C_q333 : cutF [1, 3, 3, 3, 3, 3, 3] (compF Tryz.prog Tryz.f333) = some (A_q333, R_q333) := by kernel_rfl
theorem G_q333 : GoodFC Tryz.prog F_q333 T_q333 := ⟨Tryz.f333, [1, 3, 3, 3, 3, 3, 3], Tryz.func333, Tryz.ntmps333, C_q333, by kernel_rfl⟩
theorem C_q346 : cutF [] (compF Tryz.prog Tryz.f346) = some (A_q346, R_q346) := by kernel_rfl
theorem G_q346 : GoodFC Tryz.prog F_q346 T_q346 := ⟨Tryz.f346, [], Tryz.func346, Tryz.ntmps346, C_q346, by kernel_rfl⟩
theorem C_q355 : cutF [2, 3] (compF Tryz.prog Tryz.f355) = some (A_q355, R_q355) := by kernel_rfl
theorem G_q355 : GoodFC Tryz.prog F_q355 T_q355 := ⟨Tryz.f355, [2, 3], Tryz.func355, Tryz.ntmps355, C_q355, by kernel_rfl⟩
theorem C_q372 : cutF [] (compF Tryz.prog Tryz.f372) = some (A_q372, R_q372) := by kernel_rfl
theorem G_q372 : GoodFC Tryz.prog F_q372 T_q372 := ⟨Tryz.f372, [], Tryz.func372, Tryz.ntmps372, C_q372, by kernel_rfl⟩
theorem C_q392 : cutF [0, 1] (compF Tryz.prog Tryz.f392) = some (A_q392, R_q392) := by kernel_rfl
theorem G_q392 : GoodFC Tryz.prog F_q392 T_q392 := ⟨Tryz.f392, [0, 1], Tryz.func392, Tryz.ntmps392, C_q392, by kernel_rfl⟩
theorem C_q393 : cutF [] (compF Tryz.prog Tryz.f393) = some (A_q393, R_q393) := by kernel_rfl
theorem G_q393 : GoodFC Tryz.prog F_q393 T_q393 := ⟨Tryz.f393, [], Tryz.func393, Tryz.ntmps393, C_q393, by kernel_rfl⟩
theorem C_q394 : cutF [] (compF Tryz.prog Tryz.f394) = some (A_q394, R_q394) := by kernel_rfl
theorem G_q394 : GoodFC Tryz.prog F_q394 T_q394 := ⟨Tryz.f394, [], Tryz.func394, Tryz.ntmps394, C_q394, by kernel_rfl⟩
theorem C_q395 : cutF [2, 0, 1, 0, 1] (compF Tryz.prog Tryz.f395) = some (A_q395, R_q395) := by kernel_rfl
theorem G_q395 : GoodFC Tryz.prog F_q395 T_q395 := ⟨Tryz.f395, [2, 0, 1, 0, 1], Tryz.func395, Tryz.ntmps395, C_q395, by kernel_rfl⟩
theorem C_q396 : cutF [1, 1] (compF Tryz.prog Tryz.f396) = some (A_q396, R_q396) := by kernel_rfl
theorem G_q396 : GoodFC Tryz.prog F_q396 T_q396 := ⟨Tryz.f396, [1, 1], Tryz.func396, Tryz.ntmps396, C_q396, by kernel_rfl⟩
theorem C_q397 : cutF [1, 2] (compF Tryz.prog Tryz.f397) = some (A_q397, R_q397) := by kernel_rfl
theorem G_q397 : GoodFC Tryz.prog F_q397 T_q397 := ⟨Tryz.f397, [1, 2], Tryz.func397, Tryz.ntmps397, C_q397, by kernel_rfl⟩
theorem C_q398 : cutF [] (compF Tryz.prog Tryz.f398) = some (A_q398, R_q398) := by kernel_rfl
theorem G_q398 : GoodFC Tryz.prog F_q398 T_q398 := ⟨Tryz.f398, [], Tryz.func398, Tryz.ntmps398, C_q398, by kernel_rfl⟩
theorem C_q399 : cutF [1, 2] (compF Tryz.prog Tryz.f399) = some (A_q399, R_q399) := by kernel_rfl
theorem G_q399 : GoodFC Tryz.prog F_q399 T_q399 := ⟨Tryz.f399, [1, 2], Tryz.func399, Tryz.ntmps399, C_q399, by kernel_rfl⟩
theorem C_q400 : cutF [] (compF Tryz.prog Tryz.f400) = some (A_q400, R_q400) := by kernel_rfl
theorem G_q400 : GoodFC Tryz.prog F_q400 T_q400 := ⟨Tryz.f400, [], Tryz.func400, Tryz.ntmps400, C_q400, by kernel_rfl⟩
theorem C_q401 : cutF [] (compF Tryz.prog Tryz.f401) = some (A_q401, R_q401) := by kernel_rfl
theorem G_q401 : GoodFC Tryz.prog F_q401 T_q401 := ⟨Tryz.f401, [], Tryz.func401, Tryz.ntmps401, C_q401, by kernel_rfl⟩
theorem C_q402 : cutF [2, 2, 2, 1] (compF Tryz.prog Tryz.f402) = some (A_q402, R_q402) := by kernel_rfl
theorem G_q402 : GoodFC Tryz.prog F_q402 T_q402 := ⟨Tryz.f402, [2, 2, 2, 1], Tryz.func402, Tryz.ntmps402, C_q402, by kernel_rfl⟩
theorem C_q411 : cutF [1, 0] (compF Tryz.prog Tryz.f411) = some (A_q411, R_q411) := by kernel_rfl
theorem G_q411 : GoodFC Tryz.prog F_q411 T_q411 := ⟨Tryz.f411, [1, 0], Tryz.func411, Tryz.ntmps411, C_q411, by kernel_rfl⟩
end Go.Proofs.YtpmjgnpkbmfimabGreatDoor
