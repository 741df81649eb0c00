/- Contracts of functions of the given program, in the logic L: texts put together; no conditions. -/
import Derived.Test.YtbnfeedomchfdaaGreatDoorY4
import Derived.Test.YtbnfeedomchfdaaGreatDoorProg
import Derived.KernelRfl
/- Each code is what the logic makes of the given program (by the kernel). Printed by program (gen_all.py). -/
namespace Go.Proofs.YtbnfeedomchfdaaGreatDoor
open Go.L
theorem C_lexiconlaw11_EncodeNumbers : cutF [] (compF Tryz.prog Tryz.f3) = some (A_lexiconlaw11_EncodeNumbers, R_lexiconlaw11_EncodeNumbers) := by kernel_rfl
theorem G_lexiconlaw11_EncodeNumbers : GoodFC Tryz.prog F_lexiconlaw11_EncodeNumbers T_lexiconlaw11_EncodeNumbers := ⟨Tryz.f3, [], Tryz.func3, Tryz.ntmps3, C_lexiconlaw11_EncodeNumbers, by kernel_rfl⟩
theorem C_q4 : cutF [2] (compF Tryz.prog Tryz.f4) = some (A_q4, R_q4) := by kernel_rfl
theorem G_q4 : GoodFC Tryz.prog F_q4 T_q4 := ⟨Tryz.f4, [2], Tryz.func4, Tryz.ntmps4, C_q4, by kernel_rfl⟩
theorem C_q5 : cutF [2] (compF Tryz.prog Tryz.f5) = some (A_q5, R_q5) := by kernel_rfl
theorem G_q5 : GoodFC Tryz.prog F_q5 T_q5 := ⟨Tryz.f5, [2], Tryz.func5, Tryz.ntmps5, C_q5, by kernel_rfl⟩
theorem C_q6 : cutF [] (compF Tryz.prog Tryz.f6) = some (A_q6, R_q6) := by kernel_rfl
theorem G_q6 : GoodFC Tryz.prog F_q6 T_q6 := ⟨Tryz.f6, [], Tryz.func6, Tryz.ntmps6, C_q6, by kernel_rfl⟩
theorem C_q7 : cutF [0, 2, 2, 2] (compF Tryz.prog Tryz.f7) = some (A_q7, R_q7) := by kernel_rfl
theorem G_q7 : GoodFC Tryz.prog F_q7 T_q7 := ⟨Tryz.f7, [0, 2, 2, 2], Tryz.func7, Tryz.ntmps7, C_q7, by kernel_rfl⟩
theorem C_q8 : cutF [] (compF Tryz.prog Tryz.f8) = some (A_q8, R_q8) := by kernel_rfl
theorem G_q8 : GoodFC Tryz.prog F_q8 T_q8 := ⟨Tryz.f8, [], Tryz.func8, Tryz.ntmps8, C_q8, by kernel_rfl⟩
theorem C_q9 : cutF [2] (compF Tryz.prog Tryz.f9) = some (A_q9, R_q9) := by kernel_rfl
theorem G_q9 : GoodFC Tryz.prog F_q9 T_q9 := ⟨Tryz.f9, [2], Tryz.func9, Tryz.ntmps9, C_q9, by kernel_rfl⟩
theorem C_q10 : cutF [] (compF Tryz.prog Tryz.f10) = some (A_q10, R_q10) := by kernel_rfl
theorem G_q10 : GoodFC Tryz.prog F_q10 T_q10 := ⟨Tryz.f10, [], Tryz.func10, Tryz.ntmps10, C_q10, by kernel_rfl⟩
theorem C_q11 : cutF [0] (compF Tryz.prog Tryz.f11) = some (A_q11, R_q11) := by kernel_rfl
theorem G_q11 : GoodFC Tryz.prog F_q11 T_q11 := ⟨Tryz.f11, [0], Tryz.func11, Tryz.ntmps11, C_q11, by kernel_rfl⟩
theorem C_q12 : cutF [2] (compF Tryz.prog Tryz.f12) = some (A_q12, R_q12) := by kernel_rfl
theorem G_q12 : GoodFC Tryz.prog F_q12 T_q12 := ⟨Tryz.f12, [2], Tryz.func12, Tryz.ntmps12, C_q12, by kernel_rfl⟩
theorem C_q13 : cutF [] (compF Tryz.prog Tryz.f13) = some (A_q13, R_q13) := by kernel_rfl
theorem G_q13 : GoodFC Tryz.prog F_q13 T_q13 := ⟨Tryz.f13, [], Tryz.func13, Tryz.ntmps13, C_q13, by kernel_rfl⟩
theorem C_q14 : cutF [0] (compF Tryz.prog Tryz.f14) = some (A_q14, R_q14) := by kernel_rfl
theorem G_q14 : GoodFC Tryz.prog F_q14 T_q14 := ⟨Tryz.f14, [0], Tryz.func14, Tryz.ntmps14, C_q14, by kernel_rfl⟩
theorem C_q15 : cutF [2, 2] (compF Tryz.prog Tryz.f15) = some (A_q15, R_q15) := by kernel_rfl
theorem G_q15 : GoodFC Tryz.prog F_q15 T_q15 := ⟨Tryz.f15, [2, 2], Tryz.func15, Tryz.ntmps15, C_q15, by kernel_rfl⟩
theorem C_q16 : cutF [2] (compF Tryz.prog Tryz.f16) = some (A_q16, R_q16) := by kernel_rfl
theorem G_q16 : GoodFC Tryz.prog F_q16 T_q16 := ⟨Tryz.f16, [2], Tryz.func16, Tryz.ntmps16, C_q16, by kernel_rfl⟩
theorem C_q18 : cutF [0, 2, 1, 2, 0, 2] (compF Tryz.prog Tryz.f18) = some (A_q18, R_q18) := by kernel_rfl
theorem G_q18 : GoodFC Tryz.prog F_q18 T_q18 := ⟨Tryz.f18, [0, 2, 1, 2, 0, 2], Tryz.func18, Tryz.ntmps18, C_q18, by kernel_rfl⟩
theorem C_q19 : cutF [0, 2, 3] (compF Tryz.prog Tryz.f19) = some (A_q19, R_q19) := by kernel_rfl
theorem G_q19 : GoodFC Tryz.prog F_q19 T_q19 := ⟨Tryz.f19, [0, 2, 3], Tryz.func19, Tryz.ntmps19, C_q19, by kernel_rfl⟩
theorem C_q20 : cutF [0, 0] (compF Tryz.prog Tryz.f20) = some (A_q20, R_q20) := by kernel_rfl
theorem G_q20 : GoodFC Tryz.prog F_q20 T_q20 := ⟨Tryz.f20, [0, 0], Tryz.func20, Tryz.ntmps20, C_q20, by kernel_rfl⟩
theorem C_q21 : cutF [0, 2, 0, 0, 2, 2] (compF Tryz.prog Tryz.f21) = some (A_q21, R_q21) := by kernel_rfl
theorem G_q21 : GoodFC Tryz.prog F_q21 T_q21 := ⟨Tryz.f21, [0, 2, 0, 0, 2, 2], Tryz.func21, Tryz.ntmps21, C_q21, by kernel_rfl⟩
theorem C_q22 : cutF [0] (compF Tryz.prog Tryz.f22) = some (A_q22, R_q22) := by kernel_rfl
theorem G_q22 : GoodFC Tryz.prog F_q22 T_q22 := ⟨Tryz.f22, [0], Tryz.func22, Tryz.ntmps22, C_q22, by kernel_rfl⟩
theorem C_q23 : cutF [0, 1, 1, 0, 0] (compF Tryz.prog Tryz.f23) = some (A_q23, R_q23) := by kernel_rfl
theorem G_q23 : GoodFC Tryz.prog F_q23 T_q23 := ⟨Tryz.f23, [0, 1, 1, 0, 0], Tryz.func23, Tryz.ntmps23, C_q23, by kernel_rfl⟩
theorem C_q24 : cutF [0] (compF Tryz.prog Tryz.f24) = some (A_q24, R_q24) := by kernel_rfl
theorem G_q24 : GoodFC Tryz.prog F_q24 T_q24 := ⟨Tryz.f24, [0], Tryz.func24, Tryz.ntmps24, C_q24, by kernel_rfl⟩
theorem C_q25 : cutF [1, 0, 2, 1, 0, 2, 2, 0] (compF Tryz.prog Tryz.f25) = some (A_q25, R_q25) := by kernel_rfl
theorem G_q25 : GoodFC Tryz.prog F_q25 T_q25 := ⟨Tryz.f25, [1, 0, 2, 1, 0, 2, 2, 0], Tryz.func25, Tryz.ntmps25, C_q25, by kernel_rfl⟩
theorem C_q26 : cutF [0] (compF Tryz.prog Tryz.f26) = some (A_q26, R_q26) := by kernel_rfl
theorem G_q26 : GoodFC Tryz.prog F_q26 T_q26 := ⟨Tryz.f26, [0], Tryz.func26, Tryz.ntmps26, C_q26, by kernel_rfl⟩
theorem C_q27 : cutF [] (compF Tryz.prog Tryz.f27) = some (A_q27, R_q27) := by kernel_rfl
theorem G_q27 : GoodFC Tryz.prog F_q27 T_q27 := ⟨Tryz.f27, [], Tryz.func27, Tryz.ntmps27, C_q27, by kernel_rfl⟩
theorem C_q28 : cutF [2, 2] (compF Tryz.prog Tryz.f28) = some (A_q28, R_q28) := by kernel_rfl
theorem G_q28 : GoodFC Tryz.prog F_q28 T_q28 := ⟨Tryz.f28, [2, 2], Tryz.func28, Tryz.ntmps28, C_q28, by kernel_rfl⟩
theorem C_q31 : cutF [] (compF Tryz.prog Tryz.f31) = some (A_q31, R_q31) := by kernel_rfl
theorem G_q31 : GoodFC Tryz.prog F_q31 T_q31 := ⟨Tryz.f31, [], Tryz.func31, Tryz.ntmps31, C_q31, by kernel_rfl⟩
theorem C_q32 : cutF [] (compF Tryz.prog Tryz.f32) = some (A_q32, R_q32) := by kernel_rfl
theorem G_q32 : GoodFC Tryz.prog F_q32 T_q32 := ⟨Tryz.f32, [], Tryz.func32, Tryz.ntmps32, C_q32, by kernel_rfl⟩
theorem C_q33 : cutF [] (compF Tryz.prog Tryz.f33) = some (A_q33, R_q33) := by kernel_rfl
theorem G_q33 : GoodFC Tryz.prog F_q33 T_q33 := ⟨Tryz.f33, [], Tryz.func33, Tryz.ntmps33, C_q33, by kernel_rfl⟩
theorem C_q34 : cutF [0, 0, 0, 0] (compF Tryz.prog Tryz.f34) = some (A_q34, R_q34) := by kernel_rfl
theorem G_q34 : GoodFC Tryz.prog F_q34 T_q34 := ⟨Tryz.f34, [0, 0, 0, 0], Tryz.func34, Tryz.ntmps34, C_q34, by kernel_rfl⟩
theorem C_q35 : cutF [1] (compF Tryz.prog Tryz.f35) = some (A_q35, R_q35) := by kernel_rfl
theorem G_q35 : GoodFC Tryz.prog F_q35 T_q35 := ⟨Tryz.f35, [1], Tryz.func35, Tryz.ntmps35, C_q35, by kernel_rfl⟩
theorem C_q36 : cutF [0] (compF Tryz.prog Tryz.f36) = some (A_q36, R_q36) := by kernel_rfl
theorem G_q36 : GoodFC Tryz.prog F_q36 T_q36 := ⟨Tryz.f36, [0], Tryz.func36, Tryz.ntmps36, C_q36, by kernel_rfl⟩
theorem C_q37 : cutF [] (compF Tryz.prog Tryz.f37) = some (A_q37, R_q37) := by kernel_rfl
theorem G_q37 : GoodFC Tryz.prog F_q37 T_q37 := ⟨Tryz.f37, [], Tryz.func37, Tryz.ntmps37, C_q37, by kernel_rfl⟩
theorem C_q39 : cutF [] (compF Tryz.prog Tryz.f39) = some (A_q39, R_q39) := by kernel_rfl
theorem G_q39 : GoodFC Tryz.prog F_q39 T_q39 := ⟨Tryz.f39, [], Tryz.func39, Tryz.ntmps39, C_q39, by kernel_rfl⟩
theorem C_q40 : cutF [] (compF Tryz.prog Tryz.f40) = some (A_q40, R_q40) := by kernel_rfl
theorem G_q40 : GoodFC Tryz.prog F_q40 T_q40 := ⟨Tryz.f40, [], Tryz.func40, Tryz.ntmps40, C_q40, by kernel_rfl⟩
theorem C_q41 : cutF [2, 3, 3] (compF Tryz.prog Tryz.f41) = some (A_q41, R_q41) := by kernel_rfl
theorem G_q41 : GoodFC Tryz.prog F_q41 T_q41 := ⟨Tryz.f41, [2, 3, 3], Tryz.func41, Tryz.ntmps41, C_q41, by kernel_rfl⟩
theorem C_q42 : cutF [2, 2, 3] (compF Tryz.prog Tryz.f42) = some (A_q42, R_q42) := by kernel_rfl
theorem G_q42 : GoodFC Tryz.prog F_q42 T_q42 := ⟨Tryz.f42, [2, 2, 3], Tryz.func42, Tryz.ntmps42, C_q42, by kernel_rfl⟩
theorem C_q43 : cutF [] (compF Tryz.prog Tryz.f43) = some (A_q43, R_q43) := by kernel_rfl
theorem G_q43 : GoodFC Tryz.prog F_q43 T_q43 := ⟨Tryz.f43, [], Tryz.func43, Tryz.ntmps43, C_q43, by kernel_rfl⟩
theorem C_q44 : cutF [0, 2] (compF Tryz.prog Tryz.f44) = some (A_q44, R_q44) := by kernel_rfl
theorem G_q44 : GoodFC Tryz.prog F_q44 T_q44 := ⟨Tryz.f44, [0, 2], Tryz.func44, Tryz.ntmps44, C_q44, by kernel_rfl⟩
theorem C_q45 : cutF [0, 0] (compF Tryz.prog Tryz.f45) = some (A_q45, R_q45) := by kernel_rfl
theorem G_q45 : GoodFC Tryz.prog F_q45 T_q45 := ⟨Tryz.f45, [0, 0], Tryz.func45, Tryz.ntmps45, C_q45, by kernel_rfl⟩
theorem C_q47 : cutF [] (compF Tryz.prog Tryz.f47) = some (A_q47, R_q47) := by kernel_rfl
theorem G_q47 : GoodFC Tryz.prog F_q47 T_q47 := ⟨Tryz.f47, [], Tryz.func47, Tryz.ntmps47, C_q47, by kernel_rfl⟩
theorem C_q48 : cutF [2, 1, 0, 0, 0, 1] (compF Tryz.prog Tryz.f48) = some (A_q48, R_q48) := by kernel_rfl
theorem G_q48 : GoodFC Tryz.prog F_q48 T_q48 := ⟨Tryz.f48, [2, 1, 0, 0, 0, 1], Tryz.func48, Tryz.ntmps48, C_q48, by kernel_rfl⟩
theorem C_q49 : cutF [] (compF Tryz.prog Tryz.f49) = some (A_q49, R_q49) := by kernel_rfl
theorem G_q49 : GoodFC Tryz.prog F_q49 T_q49 := ⟨Tryz.f49, [], Tryz.func49, Tryz.ntmps49, C_q49, by kernel_rfl⟩
theorem C_q50 : cutF [0] (compF Tryz.prog Tryz.f50) = some (A_q50, R_q50) := by kernel_rfl
theorem G_q50 : GoodFC Tryz.prog F_q50 T_q50 := ⟨Tryz.f50, [0], Tryz.func50, Tryz.ntmps50, C_q50, by kernel_rfl⟩
theorem C_q51 : cutF [2, 0, 0, 2, 2, 2, 2, 2] (compF Tryz.prog Tryz.f51) = some (A_q51, R_q51) := by kernel_rfl
theorem G_q51 : GoodFC Tryz.prog F_q51 T_q51 := ⟨Tryz.f51, [2, 0, 0, 2, 2, 2, 2, 2], Tryz.func51, Tryz.ntmps51, C_q51, by kernel_rfl⟩
theorem C_q52 : cutF [] (compF Tryz.prog Tryz.f52) = some (A_q52, R_q52) := by kernel_rfl
theorem G_q52 : GoodFC Tryz.prog F_q52 T_q52 := ⟨Tryz.f52, [], Tryz.func52, Tryz.ntmps52, C_q52, by kernel_rfl⟩
theorem C_q53 : cutF [] (compF Tryz.prog Tryz.f53) = some (A_q53, R_q53) := by kernel_rfl
theorem G_q53 : GoodFC Tryz.prog F_q53 T_q53 := ⟨Tryz.f53, [], Tryz.func53, Tryz.ntmps53, C_q53, by kernel_rfl⟩
theorem C_q54 : cutF [0, 2, 1] (compF Tryz.prog Tryz.f54) = some (A_q54, R_q54) := by kernel_rfl
theorem G_q54 : GoodFC Tryz.prog F_q54 T_q54 := ⟨Tryz.f54, [0, 2, 1], Tryz.func54, Tryz.ntmps54, C_q54, by kernel_rfl⟩
theorem C_q55 : cutF [0, 2, 2] (compF Tryz.prog Tryz.f55) = some (A_q55, R_q55) := by kernel_rfl
theorem G_q55 : GoodFC Tryz.prog F_q55 T_q55 := ⟨Tryz.f55, [0, 2, 2], Tryz.func55, Tryz.ntmps55, C_q55, by kernel_rfl⟩
theorem C_q56 : cutF [0, 0, 1, 1, 0, 1] (compF Tryz.prog Tryz.f56) = some (A_q56, R_q56) := by kernel_rfl
theorem G_q56 : GoodFC Tryz.prog F_q56 T_q56 := ⟨Tryz.f56, [0, 0, 1, 1, 0, 1], Tryz.func56, Tryz.ntmps56, C_q56, by kernel_rfl⟩
theorem C_q57 : cutF [1] (compF Tryz.prog Tryz.f57) = some (A_q57, R_q57) := by kernel_rfl
theorem G_q57 : GoodFC Tryz.prog F_q57 T_q57 := ⟨Tryz.f57, [1], Tryz.func57, Tryz.ntmps57, C_q57, by kernel_rfl⟩
theorem C_q58 : cutF [] (compF Tryz.prog Tryz.f58) = some (A_q58, R_q58) := by kernel_rfl
theorem G_q58 : GoodFC Tryz.prog F_q58 T_q58 := ⟨Tryz.f58, [], Tryz.func58, Tryz.ntmps58, C_q58, by kernel_rfl⟩
theorem C_q61 : cutF [1] (compF Tryz.prog Tryz.f61) = some (A_q61, R_q61) := by kernel_rfl
theorem G_q61 : GoodFC Tryz.prog F_q61 T_q61 := ⟨Tryz.f61, [1], Tryz.func61, Tryz.ntmps61, C_q61, by kernel_rfl⟩
theorem C_q62 : cutF [] (compF Tryz.prog Tryz.f62) = some (A_q62, R_q62) := by kernel_rfl
theorem G_q62 : GoodFC Tryz.prog F_q62 T_q62 := ⟨Tryz.f62, [], Tryz.func62, Tryz.ntmps62, C_q62, by kernel_rfl⟩
theorem C_q63 : cutF [] (compF Tryz.prog Tryz.f63) = some (A_q63, R_q63) := by kernel_rfl
theorem G_q63 : GoodFC Tryz.prog F_q63 T_q63 := ⟨Tryz.f63, [], Tryz.func63, Tryz.ntmps63, C_q63, by kernel_rfl⟩
theorem C_q64 : cutF [0] (compF Tryz.prog Tryz.f64) = some (A_q64, R_q64) := by kernel_rfl
theorem G_q64 : GoodFC Tryz.prog F_q64 T_q64 := ⟨Tryz.f64, [0], Tryz.func64, Tryz.ntmps64, C_q64, by kernel_rfl⟩
theorem C_q65 : cutF [2] (compF Tryz.prog Tryz.f65) = some (A_q65, R_q65) := by kernel_rfl
theorem G_q65 : GoodFC Tryz.prog F_q65 T_q65 := ⟨Tryz.f65, [2], Tryz.func65, Tryz.ntmps65, C_q65, by kernel_rfl⟩
theorem C_q66 : cutF [] (compF Tryz.prog Tryz.f66) = some (A_q66, R_q66) := by kernel_rfl
theorem G_q66 : GoodFC Tryz.prog F_q66 T_q66 := ⟨Tryz.f66, [], Tryz.func66, Tryz.ntmps66, C_q66, by kernel_rfl⟩
theorem C_q67 : cutF [] (compF Tryz.prog Tryz.f67) = some (A_q67, R_q67) := by kernel_rfl
theorem G_q67 : GoodFC Tryz.prog F_q67 T_q67 := ⟨Tryz.f67, [], Tryz.func67, Tryz.ntmps67, C_q67, by kernel_rfl⟩
theorem C_q68 : cutF [0] (compF Tryz.prog Tryz.f68) = some (A_q68, R_q68) := by kernel_rfl
theorem G_q68 : GoodFC Tryz.prog F_q68 T_q68 := ⟨Tryz.f68, [0], Tryz.func68, Tryz.ntmps68, C_q68, by kernel_rfl⟩
theorem C_q69 : cutF [2] (compF Tryz.prog Tryz.f69) = some (A_q69, R_q69) := by kernel_rfl
theorem G_q69 : GoodFC Tryz.prog F_q69 T_q69 := ⟨Tryz.f69, [2], Tryz.func69, Tryz.ntmps69, C_q69, by kernel_rfl⟩
theorem C_q70 : cutF [1] (compF Tryz.prog Tryz.f70) = some (A_q70, R_q70) := by kernel_rfl
theorem G_q70 : GoodFC Tryz.prog F_q70 T_q70 := ⟨Tryz.f70, [1], Tryz.func70, Tryz.ntmps70, C_q70, by kernel_rfl⟩
theorem C_q71 : cutF [0, 2] (compF Tryz.prog Tryz.f71) = some (A_q71, R_q71) := by kernel_rfl
theorem G_q71 : GoodFC Tryz.prog F_q71 T_q71 := ⟨Tryz.f71, [0, 2], Tryz.func71, Tryz.ntmps71, C_q71, by kernel_rfl⟩
theorem C_q72 : cutF [] (compF Tryz.prog Tryz.f72) = some (A_q72, R_q72) := by kernel_rfl
theorem G_q72 : GoodFC Tryz.prog F_q72 T_q72 := ⟨Tryz.f72, [], Tryz.func72, Tryz.ntmps72, C_q72, by kernel_rfl⟩
theorem C_q73 : cutF [] (compF Tryz.prog Tryz.f73) = some (A_q73, R_q73) := by kernel_rfl
theorem G_q73 : GoodFC Tryz.prog F_q73 T_q73 := ⟨Tryz.f73, [], Tryz.func73, Tryz.ntmps73, C_q73, by kernel_rfl⟩
theorem C_q74 : cutF [1] (compF Tryz.prog Tryz.f74) = some (A_q74, R_q74) := by kernel_rfl
theorem G_q74 : GoodFC Tryz.prog F_q74 T_q74 := ⟨Tryz.f74, [1], Tryz.func74, Tryz.ntmps74, C_q74, by kernel_rfl⟩
theorem C_q75 : cutF [1, 1, 2, 1, 0, 2] (compF Tryz.prog Tryz.f75) = some (A_q75, R_q75) := by kernel_rfl
theorem G_q75 : GoodFC Tryz.prog F_q75 T_q75 := ⟨Tryz.f75, [1, 1, 2, 1, 0, 2], Tryz.func75, Tryz.ntmps75, C_q75, by kernel_rfl⟩
theorem C_q76 : cutF [] (compF Tryz.prog Tryz.f76) = some (A_q76, R_q76) := by kernel_rfl
theorem G_q76 : GoodFC Tryz.prog F_q76 T_q76 := ⟨Tryz.f76, [], Tryz.func76, Tryz.ntmps76, C_q76, by kernel_rfl⟩
theorem C_q77 : cutF [] (compF Tryz.prog Tryz.f77) = some (A_q77, R_q77) := by kernel_rfl
theorem G_q77 : GoodFC Tryz.prog F_q77 T_q77 := ⟨Tryz.f77, [], Tryz.func77, Tryz.ntmps77, C_q77, by kernel_rfl⟩
theorem C_q78 : cutF [0, 0] (compF Tryz.prog Tryz.f78) = some (A_q78, R_q78) := by kernel_rfl
theorem G_q78 : GoodFC Tryz.prog F_q78 T_q78 := ⟨Tryz.f78, [0, 0], Tryz.func78, Tryz.ntmps78, C_q78, by kernel_rfl⟩
theorem C_q80 : cutF [0, 2, 2, 2] (compF Tryz.prog Tryz.f80) = some (A_q80, R_q80) := by kernel_rfl
theorem G_q80 : GoodFC Tryz.prog F_q80 T_q80 := ⟨Tryz.f80, [0, 2, 2, 2], Tryz.func80, Tryz.ntmps80, C_q80, by kernel_rfl⟩
theorem C_q81 : cutF [] (compF Tryz.prog Tryz.f81) = some (A_q81, R_q81) := by kernel_rfl
theorem G_q81 : GoodFC Tryz.prog F_q81 T_q81 := ⟨Tryz.f81, [], Tryz.func81, Tryz.ntmps81, C_q81, by kernel_rfl⟩
theorem C_q82 : cutF [1] (compF Tryz.prog Tryz.f82) = some (A_q82, R_q82) := by kernel_rfl
theorem G_q82 : GoodFC Tryz.prog F_q82 T_q82 := ⟨Tryz.f82, [1], Tryz.func82, Tryz.ntmps82, C_q82, by kernel_rfl⟩
theorem C_q83 : cutF [1, 1] (compF Tryz.prog Tryz.f83) = some (A_q83, R_q83) := by kernel_rfl
theorem G_q83 : GoodFC Tryz.prog F_q83 T_q83 := ⟨Tryz.f83, [1, 1], Tryz.func83, Tryz.ntmps83, C_q83, by kernel_rfl⟩
theorem C_q84 : cutF [2, 2, 2, 1] (compF Tryz.prog Tryz.f84) = some (A_q84, R_q84) := by kernel_rfl
theorem G_q84 : GoodFC Tryz.prog F_q84 T_q84 := ⟨Tryz.f84, [2, 2, 2, 1], Tryz.func84, Tryz.ntmps84, C_q84, by kernel_rfl⟩
theorem C_q85 : cutF [2, 2, 2, 0] (compF Tryz.prog Tryz.f85) = some (A_q85, R_q85) := by kernel_rfl
theorem G_q85 : GoodFC Tryz.prog F_q85 T_q85 := ⟨Tryz.f85, [2, 2, 2, 0], Tryz.func85, Tryz.ntmps85, C_q85, by kernel_rfl⟩
theorem C_q86 : cutF [0, 2, 2, 2] (compF Tryz.prog Tryz.f86) = some (A_q86, R_q86) := by kernel_rfl
theorem G_q86 : GoodFC Tryz.prog F_q86 T_q86 := ⟨Tryz.f86, [0, 2, 2, 2], Tryz.func86, Tryz.ntmps86, C_q86, by kernel_rfl⟩
theorem C_q87 : cutF [2, 3] (compF Tryz.prog Tryz.f87) = some (A_q87, R_q87) := by kernel_rfl
theorem G_q87 : GoodFC Tryz.prog F_q87 T_q87 := ⟨Tryz.f87, [2, 3], Tryz.func87, Tryz.ntmps87, C_q87, by kernel_rfl⟩
theorem C_q88 : cutF [] (compF Tryz.prog Tryz.f88) = some (A_q88, R_q88) := by kernel_rfl
theorem G_q88 : GoodFC Tryz.prog F_q88 T_q88 := ⟨Tryz.f88, [], Tryz.func88, Tryz.ntmps88, C_q88, by kernel_rfl⟩
theorem C_q89 : cutF [1, 3, 3, 3, 3, 3, 3] (compF Tryz.prog Tryz.f89) = some (A_q89, R_q89) := by kernel_rfl
theorem G_q89 : GoodFC Tryz.prog F_q89 T_q89 := ⟨Tryz.f89, [1, 3, 3, 3, 3, 3, 3], Tryz.func89, Tryz.ntmps89, C_q89, by kernel_rfl⟩
theorem C_q90 : cutF [2] (compF Tryz.prog Tryz.f90) = some (A_q90, R_q90) := by kernel_rfl
theorem G_q90 : GoodFC Tryz.prog F_q90 T_q90 := ⟨Tryz.f90, [2], Tryz.func90, Tryz.ntmps90, C_q90, by kernel_rfl⟩
theorem C_q91 : cutF [] (compF Tryz.prog Tryz.f91) = some (A_q91, R_q91) := by kernel_rfl
theorem G_q91 : GoodFC Tryz.prog F_q91 T_q91 := ⟨Tryz.f91, [], Tryz.func91, Tryz.ntmps91, C_q91, by kernel_rfl⟩
theorem C_q92 : cutF [2, 0, 1] (compF Tryz.prog Tryz.f92) = some (A_q92, R_q92) := by kernel_rfl
theorem G_q92 : GoodFC Tryz.prog F_q92 T_q92 := ⟨Tryz.f92, [2, 0, 1], Tryz.func92, Tryz.ntmps92, C_q92, by kernel_rfl⟩
theorem C_q93 : cutF [] (compF Tryz.prog Tryz.f93) = some (A_q93, R_q93) := by kernel_rfl
theorem G_q93 : GoodFC Tryz.prog F_q93 T_q93 := ⟨Tryz.f93, [], Tryz.func93, Tryz.ntmps93, C_q93, by kernel_rfl⟩
theorem C_q94 : cutF [] (compF Tryz.prog Tryz.f94) = some (A_q94, R_q94) := by kernel_rfl
theorem G_q94 : GoodFC Tryz.prog F_q94 T_q94 := ⟨Tryz.f94, [], Tryz.func94, Tryz.ntmps94, C_q94, by kernel_rfl⟩
theorem C_q95 : cutF [1] (compF Tryz.prog Tryz.f95) = some (A_q95, R_q95) := by kernel_rfl
theorem G_q95 : GoodFC Tryz.prog F_q95 T_q95 := ⟨Tryz.f95, [1], Tryz.func95, Tryz.ntmps95, C_q95, by kernel_rfl⟩
theorem C_q96 : cutF [] (compF Tryz.prog Tryz.f96) = some (A_q96, R_q96) := by kernel_rfl
theorem G_q96 : GoodFC Tryz.prog F_q96 T_q96 := ⟨Tryz.f96, [], Tryz.func96, Tryz.ntmps96, C_q96, by kernel_rfl⟩
theorem C_q97 : cutF [0, 2, 0, 0, 0, 2, 2] (compF Tryz.prog Tryz.f97) = some (A_q97, R_q97) := by kernel_rfl
theorem G_q97 : GoodFC Tryz.prog F_q97 T_q97 := ⟨Tryz.f97, [0, 2, 0, 0, 0, 2, 2], Tryz.func97, Tryz.ntmps97, C_q97, by kernel_rfl⟩
theorem C_q98 : cutF [2] (compF Tryz.prog Tryz.f98) = some (A_q98, R_q98) := by kernel_rfl
theorem G_q98 : GoodFC Tryz.prog F_q98 T_q98 := ⟨Tryz.f98, [2], Tryz.func98, Tryz.ntmps98, C_q98, by kernel_rfl⟩
theorem C_q102 : cutF [] (compF Tryz.prog Tryz.f102) = some (A_q102, R_q102) := by kernel_rfl
theorem G_q102 : GoodFC Tryz.prog F_q102 T_q102 := ⟨Tryz.f102, [], Tryz.func102, Tryz.ntmps102, C_q102, by kernel_rfl⟩
theorem C_q103 : cutF [] (compF Tryz.prog Tryz.f103) = some (A_q103, R_q103) := by kernel_rfl
theorem G_q103 : GoodFC Tryz.prog F_q103 T_q103 := ⟨Tryz.f103, [], Tryz.func103, Tryz.ntmps103, C_q103, by kernel_rfl⟩
theorem C_q104 : cutF [] (compF Tryz.prog Tryz.f104) = some (A_q104, R_q104) := by kernel_rfl
theorem G_q104 : GoodFC Tryz.prog F_q104 T_q104 := ⟨Tryz.f104, [], Tryz.func104, Tryz.ntmps104, C_q104, by kernel_rfl⟩
theorem C_q105 : cutF [] (compF Tryz.prog Tryz.f105) = some (A_q105, R_q105) := by kernel_rfl
theorem G_q105 : GoodFC Tryz.prog F_q105 T_q105 := ⟨Tryz.f105, [], Tryz.func105, Tryz.ntmps105, C_q105, by kernel_rfl⟩
theorem C_q106 : cutF [0] (compF Tryz.prog Tryz.f106) = some (A_q106, R_q106) := by kernel_rfl
theorem G_q106 : GoodFC Tryz.prog F_q106 T_q106 := ⟨Tryz.f106, [0], Tryz.func106, Tryz.ntmps106, C_q106, by kernel_rfl⟩
theorem C_q109 : cutF [2] (compF Tryz.prog Tryz.f109) = some (A_q109, R_q109) := by kernel_rfl
theorem G_q109 : GoodFC Tryz.prog F_q109 T_q109 := ⟨Tryz.f109, [2], Tryz.func109, Tryz.ntmps109, C_q109, by kernel_rfl⟩
theorem C_q110 : cutF [2, 2, 1] (compF Tryz.prog Tryz.f110) = some (A_q110, R_q110) := by kernel_rfl
theorem G_q110 : GoodFC Tryz.prog F_q110 T_q110 := ⟨Tryz.f110, [2, 2, 1], Tryz.func110, Tryz.ntmps110, C_q110, by kernel_rfl⟩
theorem C_q111 : cutF [] (compF Tryz.prog Tryz.f111) = some (A_q111, R_q111) := by kernel_rfl
theorem G_q111 : GoodFC Tryz.prog F_q111 T_q111 := ⟨Tryz.f111, [], Tryz.func111, Tryz.ntmps111, C_q111, by kernel_rfl⟩
theorem C_q113 : cutF [] (compF Tryz.prog Tryz.f113) = some (A_q113, R_q113) := by kernel_rfl
theorem G_q113 : GoodFC Tryz.prog F_q113 T_q113 := ⟨Tryz.f113, [], Tryz.func113, Tryz.ntmps113, C_q113, by kernel_rfl⟩
theorem C_q114 : cutF [0, 2] (compF Tryz.prog Tryz.f114) = some (A_q114, R_q114) := by kernel_rfl
theorem G_q114 : GoodFC Tryz.prog F_q114 T_q114 := ⟨Tryz.f114, [0, 2], Tryz.func114, Tryz.ntmps114, C_q114, by kernel_rfl⟩
theorem C_q115 : cutF [2] (compF Tryz.prog Tryz.f115) = some (A_q115, R_q115) := by kernel_rfl
theorem G_q115 : GoodFC Tryz.prog F_q115 T_q115 := ⟨Tryz.f115, [2], Tryz.func115, Tryz.ntmps115, C_q115, by kernel_rfl⟩
theorem C_q116 : cutF [2, 0, 2] (compF Tryz.prog Tryz.f116) = some (A_q116, R_q116) := by kernel_rfl
theorem G_q116 : GoodFC Tryz.prog F_q116 T_q116 := ⟨Tryz.f116, [2, 0, 2], Tryz.func116, Tryz.ntmps116, C_q116, by kernel_rfl⟩
theorem C_q117 : cutF [2, 0, 2] (compF Tryz.prog Tryz.f117) = some (A_q117, R_q117) := by kernel_rfl
theorem G_q117 : GoodFC Tryz.prog F_q117 T_q117 := ⟨Tryz.f117, [2, 0, 2], Tryz.func117, Tryz.ntmps117, C_q117, by kernel_rfl⟩
theorem C_q118 : cutF [0, 2, 2, 2] (compF Tryz.prog Tryz.f118) = some (A_q118, R_q118) := by kernel_rfl
theorem G_q118 : GoodFC Tryz.prog F_q118 T_q118 := ⟨Tryz.f118, [0, 2, 2, 2], Tryz.func118, Tryz.ntmps118, C_q118, by kernel_rfl⟩
theorem C_q120 : cutF [0] (compF Tryz.prog Tryz.f120) = some (A_q120, R_q120) := by kernel_rfl
theorem G_q120 : GoodFC Tryz.prog F_q120 T_q120 := ⟨Tryz.f120, [0], Tryz.func120, Tryz.ntmps120, C_q120, by kernel_rfl⟩
theorem C_q121 : cutF [1] (compF Tryz.prog Tryz.f121) = some (A_q121, R_q121) := by kernel_rfl
theorem G_q121 : GoodFC Tryz.prog F_q121 T_q121 := ⟨Tryz.f121, [1], Tryz.func121, Tryz.ntmps121, C_q121, by kernel_rfl⟩
theorem C_q122 : cutF [2, 0, 1, 2, 0, 2, 0] (compF Tryz.prog Tryz.f122) = some (A_q122, R_q122) := by kernel_rfl
theorem G_q122 : GoodFC Tryz.prog F_q122 T_q122 := ⟨Tryz.f122, [2, 0, 1, 2, 0, 2, 0], Tryz.func122, Tryz.ntmps122, C_q122, by kernel_rfl⟩
theorem C_q123 : cutF [2, 2, 3, 3] (compF Tryz.prog Tryz.f123) = some (A_q123, R_q123) := by kernel_rfl
theorem G_q123 : GoodFC Tryz.prog F_q123 T_q123 := ⟨Tryz.f123, [2, 2, 3, 3], Tryz.func123, Tryz.ntmps123, C_q123, by kernel_rfl⟩
theorem C_q124 : cutF [] (compF Tryz.prog Tryz.f124) = some (A_q124, R_q124) := by kernel_rfl
theorem G_q124 : GoodFC Tryz.prog F_q124 T_q124 := ⟨Tryz.f124, [], Tryz.func124, Tryz.ntmps124, C_q124, by kernel_rfl⟩
theorem C_q125 : cutF [] (compF Tryz.prog Tryz.f125) = some (A_q125, R_q125) := by kernel_rfl
theorem G_q125 : GoodFC Tryz.prog F_q125 T_q125 := ⟨Tryz.f125, [], Tryz.func125, Tryz.ntmps125, C_q125, by kernel_rfl⟩
theorem C_q126 : cutF [1, 3] (compF Tryz.prog Tryz.f126) = some (A_q126, R_q126) := by kernel_rfl
theorem G_q126 : GoodFC Tryz.prog F_q126 T_q126 := ⟨Tryz.f126, [1, 3], Tryz.func126, Tryz.ntmps126, C_q126, by kernel_rfl⟩
theorem C_q127 : cutF [2, 3] (compF Tryz.prog Tryz.f127) = some (A_q127, R_q127) := by kernel_rfl
theorem G_q127 : GoodFC Tryz.prog F_q127 T_q127 := ⟨Tryz.f127, [2, 3], Tryz.func127, Tryz.ntmps127, C_q127, by kernel_rfl⟩
theorem C_q128 : cutF [2, 3] (compF Tryz.prog Tryz.f128) = some (A_q128, R_q128) := by kernel_rfl
theorem G_q128 : GoodFC Tryz.prog F_q128 T_q128 := ⟨Tryz.f128, [2, 3], Tryz.func128, Tryz.ntmps128, C_q128, by kernel_rfl⟩
theorem C_q138 : cutF [0, 0, 0] (compF Tryz.prog Tryz.f138) = some (A_q138, R_q138) := by kernel_rfl
theorem G_q138 : GoodFC Tryz.prog F_q138 T_q138 := ⟨Tryz.f138, [0, 0, 0], Tryz.func138, Tryz.ntmps138, C_q138, by kernel_rfl⟩
theorem C_q139 : cutF [0, 0, 1, 3, 3, 3, 3, 3, 3, 3, 3, 3, 3] (compF Tryz.prog Tryz.f139) = some (A_q139, R_q139) := by kernel_rfl
theorem G_q139 : GoodFC Tryz.prog F_q139 T_q139 := ⟨Tryz.f139, [0, 0, 1, 3, 3, 3, 3, 3, 3, 3, 3, 3, 3], Tryz.func139, Tryz.ntmps139, C_q139, by kernel_rfl⟩
theorem C_q140 : cutF [] (compF Tryz.prog Tryz.f140) = some (A_q140, R_q140) := by kernel_rfl
theorem G_q140 : GoodFC Tryz.prog F_q140 T_q140 := ⟨Tryz.f140, [], Tryz.func140, Tryz.ntmps140, C_q140, by kernel_rfl⟩
theorem C_q141 : cutF [2, 2, 0] (compF Tryz.prog Tryz.f141) = some (A_q141, R_q141) := by kernel_rfl
theorem G_q141 : GoodFC Tryz.prog F_q141 T_q141 := ⟨Tryz.f141, [2, 2, 0], Tryz.func141, Tryz.ntmps141, C_q141, by kernel_rfl⟩
theorem C_q142 : cutF [0, 2] (compF Tryz.prog Tryz.f142) = some (A_q142, R_q142) := by kernel_rfl
theorem G_q142 : GoodFC Tryz.prog F_q142 T_q142 := ⟨Tryz.f142, [0, 2], Tryz.func142, Tryz.ntmps142, C_q142, by kernel_rfl⟩
theorem C_q143 : cutF [] (compF Tryz.prog Tryz.f143) = some (A_q143, R_q143) := by kernel_rfl
theorem G_q143 : GoodFC Tryz.prog F_q143 T_q143 := ⟨Tryz.f143, [], Tryz.func143, Tryz.ntmps143, C_q143, by kernel_rfl⟩
theorem C_q149 : cutF [] (compF Tryz.prog Tryz.f149) = some (A_q149, R_q149) := by kernel_rfl
theorem G_q149 : GoodFC Tryz.prog F_q149 T_q149 := ⟨Tryz.f149, [], Tryz.func149, Tryz.ntmps149, C_q149, by kernel_rfl⟩
theorem C_q150 : cutF [1, 3, 3, 3, 3, 3, 3] (compF Tryz.prog Tryz.f150) = some (A_q150, R_q150) := by kernel_rfl
theorem G_q150 : GoodFC Tryz.prog F_q150 T_q150 := ⟨Tryz.f150, [1, 3, 3, 3, 3, 3, 3], Tryz.func150, Tryz.ntmps150, C_q150, by kernel_rfl⟩
theorem C_q156 : cutF [0] (compF Tryz.prog Tryz.f156) = some (A_q156, R_q156) := by kernel_rfl
theorem G_q156 : GoodFC Tryz.prog F_q156 T_q156 := ⟨Tryz.f156, [0], Tryz.func156, Tryz.ntmps156, C_q156, by kernel_rfl⟩
theorem C_q157 : cutF [1] (compF Tryz.prog Tryz.f157) = some (A_q157, R_q157) := by kernel_rfl
theorem G_q157 : GoodFC Tryz.prog F_q157 T_q157 := ⟨Tryz.f157, [1], Tryz.func157, Tryz.ntmps157, C_q157, by kernel_rfl⟩
theorem C_q158 : cutF [1] (compF Tryz.prog Tryz.f158) = some (A_q158, R_q158) := by kernel_rfl
theorem G_q158 : GoodFC Tryz.prog F_q158 T_q158 := ⟨Tryz.f158, [1], Tryz.func158, Tryz.ntmps158, C_q158, by kernel_rfl⟩
theorem C_q160 : cutF [] (compF Tryz.prog Tryz.f160) = some (A_q160, R_q160) := by kernel_rfl
theorem G_q160 : GoodFC Tryz.prog F_q160 T_q160 := ⟨Tryz.f160, [], Tryz.func160, Tryz.ntmps160, C_q160, by kernel_rfl⟩
theorem C_q161 : cutF [] (compF Tryz.prog Tryz.f161) = some (A_q161, R_q161) := by kernel_rfl
theorem G_q161 : GoodFC Tryz.prog F_q161 T_q161 := ⟨Tryz.f161, [], Tryz.func161, Tryz.ntmps161, C_q161, by kernel_rfl⟩
theorem C_q162 : cutF [2, 0, 2] (compF Tryz.prog Tryz.f162) = some (A_q162, R_q162) := by kernel_rfl
theorem G_q162 : GoodFC Tryz.prog F_q162 T_q162 := ⟨Tryz.f162, [2, 0, 2], Tryz.func162, Tryz.ntmps162, C_q162, by kernel_rfl⟩
theorem C_q163 : cutF [] (compF Tryz.prog Tryz.f163) = some (A_q163, R_q163) := by kernel_rfl
theorem G_q163 : GoodFC Tryz.prog F_q163 T_q163 := ⟨Tryz.f163, [], Tryz.func163, Tryz.ntmps163, C_q163, by kernel_rfl⟩
theorem C_q164 : cutF [2, 3] (compF Tryz.prog Tryz.f164) = some (A_q164, R_q164) := by kernel_rfl
theorem G_q164 : GoodFC Tryz.prog F_q164 T_q164 := ⟨Tryz.f164, [2, 3], Tryz.func164, Tryz.ntmps164, C_q164, by kernel_rfl⟩
theorem C_q165 : cutF [2] (compF Tryz.prog Tryz.f165) = some (A_q165, R_q165) := by kernel_rfl
theorem G_q165 : GoodFC Tryz.prog F_q165 T_q165 := ⟨Tryz.f165, [2], Tryz.func165, Tryz.ntmps165, C_q165, by kernel_rfl⟩
theorem C_q166 : cutF [1, 0, 0, 0, 1] (compF Tryz.prog Tryz.f166) = some (A_q166, R_q166) := by kernel_rfl
theorem G_q166 : GoodFC Tryz.prog F_q166 T_q166 := ⟨Tryz.f166, [1, 0, 0, 0, 1], Tryz.func166, Tryz.ntmps166, C_q166, by kernel_rfl⟩
theorem C_q167 : cutF [] (compF Tryz.prog Tryz.f167) = some (A_q167, R_q167) := by kernel_rfl
theorem G_q167 : GoodFC Tryz.prog F_q167 T_q167 := ⟨Tryz.f167, [], Tryz.func167, Tryz.ntmps167, C_q167, by kernel_rfl⟩
theorem C_q169 : cutF [] (compF Tryz.prog Tryz.f169) = some (A_q169, R_q169) := by kernel_rfl
theorem G_q169 : GoodFC Tryz.prog F_q169 T_q169 := ⟨Tryz.f169, [], Tryz.func169, Tryz.ntmps169, C_q169, by kernel_rfl⟩
theorem C_q172 : cutF [] (compF Tryz.prog Tryz.f172) = some (A_q172, R_q172) := by kernel_rfl
theorem G_q172 : GoodFC Tryz.prog F_q172 T_q172 := ⟨Tryz.f172, [], Tryz.func172, Tryz.ntmps172, C_q172, by kernel_rfl⟩
theorem C_q173 : cutF [2, 1] (compF Tryz.prog Tryz.f173) = some (A_q173, R_q173) := by kernel_rfl
theorem G_q173 : GoodFC Tryz.prog F_q173 T_q173 := ⟨Tryz.f173, [2, 1], Tryz.func173, Tryz.ntmps173, C_q173, by kernel_rfl⟩
theorem C_q174 : cutF [] (compF Tryz.prog Tryz.f174) = some (A_q174, R_q174) := by kernel_rfl
theorem G_q174 : GoodFC Tryz.prog F_q174 T_q174 := ⟨Tryz.f174, [], Tryz.func174, Tryz.ntmps174, C_q174, by kernel_rfl⟩
theorem C_q175 : cutF [] (compF Tryz.prog Tryz.f175) = some (A_q175, R_q175) := by kernel_rfl
theorem G_q175 : GoodFC Tryz.prog F_q175 T_q175 := ⟨Tryz.f175, [], Tryz.func175, Tryz.ntmps175, C_q175, by kernel_rfl⟩
theorem C_q176 : cutF [0, 2] (compF Tryz.prog Tryz.f176) = some (A_q176, R_q176) := by kernel_rfl
theorem G_q176 : GoodFC Tryz.prog F_q176 T_q176 := ⟨Tryz.f176, [0, 2], Tryz.func176, Tryz.ntmps176, C_q176, by kernel_rfl⟩
theorem C_q178 : cutF [] (compF Tryz.prog Tryz.f178) = some (A_q178, R_q178) := by kernel_rfl
theorem G_q178 : GoodFC Tryz.prog F_q178 T_q178 := ⟨Tryz.f178, [], Tryz.func178, Tryz.ntmps178, C_q178, by kernel_rfl⟩
theorem C_q179 : cutF [0] (compF Tryz.prog Tryz.f179) = some (A_q179, R_q179) := by kernel_rfl
theorem G_q179 : GoodFC Tryz.prog F_q179 T_q179 := ⟨Tryz.f179, [0], Tryz.func179, Tryz.ntmps179, C_q179, by kernel_rfl⟩
theorem C_q180 : cutF [] (compF Tryz.prog Tryz.f180) = some (A_q180, R_q180) := by kernel_rfl
theorem G_q180 : GoodFC Tryz.prog F_q180 T_q180 := ⟨Tryz.f180, [], Tryz.func180, Tryz.ntmps180, C_q180, by kernel_rfl⟩
theorem C_q181 : cutF [2] (compF Tryz.prog Tryz.f181) = some (A_q181, R_q181) := by kernel_rfl
theorem G_q181 : GoodFC Tryz.prog F_q181 T_q181 := ⟨Tryz.f181, [2], Tryz.func181, Tryz.ntmps181, C_q181, by kernel_rfl⟩
theorem C_q182 : cutF [1, 1] (compF Tryz.prog Tryz.f182) = some (A_q182, R_q182) := by kernel_rfl
theorem G_q182 : GoodFC Tryz.prog F_q182 T_q182 := ⟨Tryz.f182, [1, 1], Tryz.func182, Tryz.ntmps182, C_q182, by kernel_rfl⟩
theorem C_q188 : cutF [1, 1, 3, 3] (compF Tryz.prog Tryz.f188) = some (A_q188, R_q188) := by kernel_rfl
theorem G_q188 : GoodFC Tryz.prog F_q188 T_q188 := ⟨Tryz.f188, [1, 1, 3, 3], Tryz.func188, Tryz.ntmps188, C_q188, by kernel_rfl⟩
theorem C_q189 : cutF [0, 1, 3] (compF Tryz.prog Tryz.f189) = some (A_q189, R_q189) := by kernel_rfl
theorem G_q189 : GoodFC Tryz.prog F_q189 T_q189 := ⟨Tryz.f189, [0, 1, 3], Tryz.func189, Tryz.ntmps189, C_q189, by kernel_rfl⟩
theorem C_q190 : cutF [] (compF Tryz.prog Tryz.f190) = some (A_q190, R_q190) := by kernel_rfl
theorem G_q190 : GoodFC Tryz.prog F_q190 T_q190 := ⟨Tryz.f190, [], Tryz.func190, Tryz.ntmps190, C_q190, by kernel_rfl⟩
theorem C_q191 : cutF [2] (compF Tryz.prog Tryz.f191) = some (A_q191, R_q191) := by kernel_rfl
theorem G_q191 : GoodFC Tryz.prog F_q191 T_q191 := ⟨Tryz.f191, [2], Tryz.func191, Tryz.ntmps191, C_q191, by kernel_rfl⟩
theorem C_q192 : cutF [] (compF Tryz.prog Tryz.f192) = some (A_q192, R_q192) := by kernel_rfl
theorem G_q192 : GoodFC Tryz.prog F_q192 T_q192 := ⟨Tryz.f192, [], Tryz.func192, Tryz.ntmps192, C_q192, by kernel_rfl⟩
theorem C_q193 : cutF [2, 2] (compF Tryz.prog Tryz.f193) = some (A_q193, R_q193) := by kernel_rfl
theorem G_q193 : GoodFC Tryz.prog F_q193 T_q193 := ⟨Tryz.f193, [2, 2], Tryz.func193, Tryz.ntmps193, C_q193, by kernel_rfl⟩
theorem C_q194 : cutF [1] (compF Tryz.prog Tryz.f194) = some (A_q194, R_q194) := by kernel_rfl
theorem G_q194 : GoodFC Tryz.prog F_q194 T_q194 := ⟨Tryz.f194, [1], Tryz.func194, Tryz.ntmps194, C_q194, by kernel_rfl⟩
theorem C_q195 : cutF [2, 2, 1, 2] (compF Tryz.prog Tryz.f195) = some (A_q195, R_q195) := by kernel_rfl
theorem G_q195 : GoodFC Tryz.prog F_q195 T_q195 := ⟨Tryz.f195, [2, 2, 1, 2], Tryz.func195, Tryz.ntmps195, C_q195, by kernel_rfl⟩
theorem C_q196 : cutF [0, 2] (compF Tryz.prog Tryz.f196) = some (A_q196, R_q196) := by kernel_rfl
theorem G_q196 : GoodFC Tryz.prog F_q196 T_q196 := ⟨Tryz.f196, [0, 2], Tryz.func196, Tryz.ntmps196, C_q196, by kernel_rfl⟩
theorem C_q197 : cutF [1] (compF Tryz.prog Tryz.f197) = some (A_q197, R_q197) := by kernel_rfl
theorem G_q197 : GoodFC Tryz.prog F_q197 T_q197 := ⟨Tryz.f197, [1], Tryz.func197, Tryz.ntmps197, C_q197, by kernel_rfl⟩
theorem C_q200 : cutF [0, 0] (compF Tryz.prog Tryz.f200) = some (A_q200, R_q200) := by kernel_rfl
theorem G_q200 : GoodFC Tryz.prog F_q200 T_q200 := ⟨Tryz.f200, [0, 0], Tryz.func200, Tryz.ntmps200, C_q200, by kernel_rfl⟩
theorem C_q210 : cutF [2, 2, 1, 2, 3] (compF Tryz.prog Tryz.f210) = some (A_q210, R_q210) := by kernel_rfl
theorem G_q210 : GoodFC Tryz.prog F_q210 T_q210 := ⟨Tryz.f210, [2, 2, 1, 2, 3], Tryz.func210, Tryz.ntmps210, C_q210, by kernel_rfl⟩
theorem C_q211 : cutF [] (compF Tryz.prog Tryz.f211) = some (A_q211, R_q211) := by kernel_rfl
theorem G_q211 : GoodFC Tryz.prog F_q211 T_q211 := ⟨Tryz.f211, [], Tryz.func211, Tryz.ntmps211, C_q211, by kernel_rfl⟩
theorem C_q212 : cutF [] (compF Tryz.prog Tryz.f212) = some (A_q212, R_q212) := by kernel_rfl
theorem G_q212 : GoodFC Tryz.prog F_q212 T_q212 := ⟨Tryz.f212, [], Tryz.func212, Tryz.ntmps212, C_q212, by kernel_rfl⟩
theorem C_q213 : cutF [] (compF Tryz.prog Tryz.f213) = some (A_q213, R_q213) := by kernel_rfl
theorem G_q213 : GoodFC Tryz.prog F_q213 T_q213 := ⟨Tryz.f213, [], Tryz.func213, Tryz.ntmps213, C_q213, by kernel_rfl⟩
theorem C_q214 : cutF [] (compF Tryz.prog Tryz.f214) = some (A_q214, R_q214) := by kernel_rfl
theorem G_q214 : GoodFC Tryz.prog F_q214 T_q214 := ⟨Tryz.f214, [], Tryz.func214, Tryz.ntmps214, C_q214, by kernel_rfl⟩
theorem C_q215 : cutF [] (compF Tryz.prog Tryz.f215) = some (A_q215, R_q215) := by kernel_rfl
theorem G_q215 : GoodFC Tryz.prog F_q215 T_q215 := ⟨Tryz.f215, [], Tryz.func215, Tryz.ntmps215, C_q215, by kernel_rfl⟩
theorem C_q216 : cutF [] (compF Tryz.prog Tryz.f216) = some (A_q216, R_q216) := by kernel_rfl
theorem G_q216 : GoodFC Tryz.prog F_q216 T_q216 := ⟨Tryz.f216, [], Tryz.func216, Tryz.ntmps216, C_q216, by kernel_rfl⟩
theorem C_q217 : cutF [] (compF Tryz.prog Tryz.f217) = some (A_q217, R_q217) := by kernel_rfl
theorem G_q217 : GoodFC Tryz.prog F_q217 T_q217 := ⟨Tryz.f217, [], Tryz.func217, Tryz.ntmps217, C_q217, by kernel_rfl⟩
theorem C_q218 : cutF [2] (compF Tryz.prog Tryz.f218) = some (A_q218, R_q218) := by kernel_rfl
theorem G_q218 : GoodFC Tryz.prog F_q218 T_q218 := ⟨Tryz.f218, [2], Tryz.func218, Tryz.ntmps218, C_q218, by kernel_rfl⟩
theorem C_q219 : cutF [] (compF Tryz.prog Tryz.f219) = some (A_q219, R_q219) := by kernel_rfl
theorem G_q219 : GoodFC Tryz.prog F_q219 T_q219 := ⟨Tryz.f219, [], Tryz.func219, Tryz.ntmps219, C_q219, by kernel_rfl⟩
theorem C_q221 : cutF [] (compF Tryz.prog Tryz.f221) = some (A_q221, R_q221) := by kernel_rfl
theorem G_q221 : GoodFC Tryz.prog F_q221 T_q221 := ⟨Tryz.f221, [], Tryz.func221, Tryz.ntmps221, C_q221, by kernel_rfl⟩
theorem C_q222 : cutF [2] (compF Tryz.prog Tryz.f222) = some (A_q222, R_q222) := by kernel_rfl
theorem G_q222 : GoodFC Tryz.prog F_q222 T_q222 := ⟨Tryz.f222, [2], Tryz.func222, Tryz.ntmps222, C_q222, by kernel_rfl⟩
theorem C_q223 : cutF [0, 2] (compF Tryz.prog Tryz.f223) = some (A_q223, R_q223) := by kernel_rfl
theorem G_q223 : GoodFC Tryz.prog F_q223 T_q223 := ⟨Tryz.f223, [0, 2], Tryz.func223, Tryz.ntmps223, C_q223, by kernel_rfl⟩
theorem C_q224 : cutF [] (compF Tryz.prog Tryz.f224) = some (A_q224, R_q224) := by kernel_rfl
theorem G_q224 : GoodFC Tryz.prog F_q224 T_q224 := ⟨Tryz.f224, [], Tryz.func224, Tryz.ntmps224, C_q224, by kernel_rfl⟩
theorem C_q227 : cutF [0, 2] (compF Tryz.prog Tryz.f227) = some (A_q227, R_q227) := by kernel_rfl
theorem G_q227 : GoodFC Tryz.prog F_q227 T_q227 := ⟨Tryz.f227, [0, 2], Tryz.func227, Tryz.ntmps227, C_q227, by kernel_rfl⟩
theorem C_q228 : cutF [0, 2] (compF Tryz.prog Tryz.f228) = some (A_q228, R_q228) := by kernel_rfl
theorem G_q228 : GoodFC Tryz.prog F_q228 T_q228 := ⟨Tryz.f228, [0, 2], Tryz.func228, Tryz.ntmps228, C_q228, by kernel_rfl⟩
theorem C_q229 : cutF [] (compF Tryz.prog Tryz.f229) = some (A_q229, R_q229) := by kernel_rfl
theorem G_q229 : GoodFC Tryz.prog F_q229 T_q229 := ⟨Tryz.f229, [], Tryz.func229, Tryz.ntmps229, C_q229, by kernel_rfl⟩
theorem C_q231 : cutF [0, 2] (compF Tryz.prog Tryz.f231) = some (A_q231, R_q231) := by kernel_rfl
theorem G_q231 : GoodFC Tryz.prog F_q231 T_q231 := ⟨Tryz.f231, [0, 2], Tryz.func231, Tryz.ntmps231, C_q231, by kernel_rfl⟩
theorem C_q232 : cutF [] (compF Tryz.prog Tryz.f232) = some (A_q232, R_q232) := by kernel_rfl
theorem G_q232 : GoodFC Tryz.prog F_q232 T_q232 := ⟨Tryz.f232, [], Tryz.func232, Tryz.ntmps232, C_q232, by kernel_rfl⟩
theorem C_q233 : cutF [] (compF Tryz.prog Tryz.f233) = some (A_q233, R_q233) := by kernel_rfl
theorem G_q233 : GoodFC Tryz.prog F_q233 T_q233 := ⟨Tryz.f233, [], Tryz.func233, Tryz.ntmps233, C_q233, by kernel_rfl⟩
theorem C_q236 : cutF [1] (compF Tryz.prog Tryz.f236) = some (A_q236, R_q236) := by kernel_rfl
theorem G_q236 : GoodFC Tryz.prog F_q236 T_q236 := ⟨Tryz.f236, [1], Tryz.func236, Tryz.ntmps236, C_q236, by kernel_rfl⟩
theorem C_q241 : cutF [2, 1, 2, 2, 1] (compF Tryz.prog Tryz.f241) = some (A_q241, R_q241) := by kernel_rfl
theorem G_q241 : GoodFC Tryz.prog F_q241 T_q241 := ⟨Tryz.f241, [2, 1, 2, 2, 1], Tryz.func241, Tryz.ntmps241, C_q241, by kernel_rfl⟩
theorem C_q243 : cutF [1] (compF Tryz.prog Tryz.f243) = some (A_q243, R_q243) := by kernel_rfl
theorem G_q243 : GoodFC Tryz.prog F_q243 T_q243 := ⟨Tryz.f243, [1], Tryz.func243, Tryz.ntmps243, C_q243, by kernel_rfl⟩
theorem C_q254 : cutF [2, 1, 3] (compF Tryz.prog Tryz.f254) = some (A_q254, R_q254) := by kernel_rfl
theorem G_q254 : GoodFC Tryz.prog F_q254 T_q254 := ⟨Tryz.f254, [2, 1, 3], Tryz.func254, Tryz.ntmps254, C_q254, by kernel_rfl⟩
theorem C_q255 : cutF [] (compF Tryz.prog Tryz.f255) = some (A_q255, R_q255) := by kernel_rfl
theorem G_q255 : GoodFC Tryz.prog F_q255 T_q255 := ⟨Tryz.f255, [], Tryz.func255, Tryz.ntmps255, C_q255, by kernel_rfl⟩
theorem C_q256 : cutF [0, 2, 2] (compF Tryz.prog Tryz.f256) = some (A_q256, R_q256) := by kernel_rfl
theorem G_q256 : GoodFC Tryz.prog F_q256 T_q256 := ⟨Tryz.f256, [0, 2, 2], Tryz.func256, Tryz.ntmps256, C_q256, by kernel_rfl⟩
theorem C_q257 : cutF [2, 3] (compF Tryz.prog Tryz.f257) = some (A_q257, R_q257) := by kernel_rfl
theorem G_q257 : GoodFC Tryz.prog F_q257 T_q257 := ⟨Tryz.f257, [2, 3], Tryz.func257, Tryz.ntmps257, C_q257, by kernel_rfl⟩
theorem C_q261 : cutF [1] (compF Tryz.prog Tryz.f261) = some (A_q261, R_q261) := by kernel_rfl
theorem G_q261 : GoodFC Tryz.prog F_q261 T_q261 := ⟨Tryz.f261, [1], Tryz.func261, Tryz.ntmps261, C_q261, by kernel_rfl⟩
theorem C_q262 : cutF [2] (compF Tryz.prog Tryz.f262) = some (A_q262, R_q262) := by kernel_rfl
theorem G_q262 : GoodFC Tryz.prog F_q262 T_q262 := ⟨Tryz.f262, [2], Tryz.func262, Tryz.ntmps262, C_q262, by kernel_rfl⟩
theorem C_q263 : cutF [] (compF Tryz.prog Tryz.f263) = some (A_q263, R_q263) := by kernel_rfl
theorem G_q263 : GoodFC Tryz.prog F_q263 T_q263 := ⟨Tryz.f263, [], Tryz.func263, Tryz.ntmps263, C_q263, by kernel_rfl⟩
theorem C_q278 : cutF [2, 1, 3, 3, 3, 3] (compF Tryz.prog Tryz.f278) = some (A_q278, R_q278) := by kernel_rfl
theorem G_q278 : GoodFC Tryz.prog F_q278 T_q278 := ⟨Tryz.f278, [2, 1, 3, 3, 3, 3], Tryz.func278, Tryz.ntmps278, C_q278, by kernel_rfl⟩
theorem C_q279 : cutF [] (compF Tryz.prog Tryz.f279) = some (A_q279, R_q279) := by kernel_rfl
theorem G_q279 : GoodFC Tryz.prog F_q279 T_q279 := ⟨Tryz.f279, [], Tryz.func279, Tryz.ntmps279, C_q279, by kernel_rfl⟩
theorem C_q284 : cutF [] (compF Tryz.prog Tryz.f284) = some (A_q284, R_q284) := by kernel_rfl
theorem G_q284 : GoodFC Tryz.prog F_q284 T_q284 := ⟨Tryz.f284, [], Tryz.func284, Tryz.ntmps284, C_q284, by kernel_rfl⟩
theorem C_q306 : cutF [0, 0] (compF Tryz.prog Tryz.f306) = some (A_q306, R_q306) := by kernel_rfl
theorem G_q306 : GoodFC Tryz.prog F_q306 T_q306 := ⟨Tryz.f306, [0, 0], Tryz.func306, Tryz.ntmps306, C_q306, by kernel_rfl⟩
theorem C_q307 : cutF [] (compF Tryz.prog Tryz.f307) = some (A_q307, R_q307) := by kernel_rfl
theorem G_q307 : GoodFC Tryz.prog F_q307 T_q307 := ⟨Tryz.f307, [], Tryz.func307, Tryz.ntmps307, C_q307, by kernel_rfl⟩
theorem C_q308 : cutF [] (compF Tryz.prog Tryz.f308) = some (A_q308, R_q308) := by kernel_rfl
theorem G_q308 : GoodFC Tryz.prog F_q308 T_q308 := ⟨Tryz.f308, [], Tryz.func308, Tryz.ntmps308, C_q308, by kernel_rfl⟩
theorem C_q309 : cutF [0, 0, 1, 0, 1] (compF Tryz.prog Tryz.f309) = some (A_q309, R_q309) := by kernel_rfl
theorem G_q309 : GoodFC Tryz.prog F_q309 T_q309 := ⟨Tryz.f309, [0, 0, 1, 0, 1], Tryz.func309, Tryz.ntmps309, C_q309, by kernel_rfl⟩
theorem C_q310 : cutF [1, 1] (compF Tryz.prog Tryz.f310) = some (A_q310, R_q310) := by kernel_rfl
theorem G_q310 : GoodFC Tryz.prog F_q310 T_q310 := ⟨Tryz.f310, [1, 1], Tryz.func310, Tryz.ntmps310, C_q310, by kernel_rfl⟩
theorem C_q311 : cutF [1, 2] (compF Tryz.prog Tryz.f311) = some (A_q311, R_q311) := by kernel_rfl
theorem G_q311 : GoodFC Tryz.prog F_q311 T_q311 := ⟨Tryz.f311, [1, 2], Tryz.func311, Tryz.ntmps311, C_q311, by kernel_rfl⟩
theorem C_q312 : cutF [] (compF Tryz.prog Tryz.f312) = some (A_q312, R_q312) := by kernel_rfl
theorem G_q312 : GoodFC Tryz.prog F_q312 T_q312 := ⟨Tryz.f312, [], Tryz.func312, Tryz.ntmps312, C_q312, by kernel_rfl⟩
theorem C_q313 : cutF [1, 0] (compF Tryz.prog Tryz.f313) = some (A_q313, R_q313) := by kernel_rfl
theorem G_q313 : GoodFC Tryz.prog F_q313 T_q313 := ⟨Tryz.f313, [1, 0], Tryz.func313, Tryz.ntmps313, C_q313, by kernel_rfl⟩
theorem C_q314 : cutF [] (compF Tryz.prog Tryz.f314) = some (A_q314, R_q314) := by kernel_rfl
theorem G_q314 : GoodFC Tryz.prog F_q314 T_q314 := ⟨Tryz.f314, [], Tryz.func314, Tryz.ntmps314, C_q314, by kernel_rfl⟩
theorem C_q315 : cutF [] (compF Tryz.prog Tryz.f315) = some (A_q315, R_q315) := by kernel_rfl
theorem G_q315 : GoodFC Tryz.prog F_q315 T_q315 := ⟨Tryz.f315, [], Tryz.func315, Tryz.ntmps315, C_q315, by kernel_rfl⟩
theorem C_q316 : cutF [2, 2, 2, 1] (compF Tryz.prog Tryz.f316) = some (A_q316, R_q316) := by kernel_rfl
theorem G_q316 : GoodFC Tryz.prog F_q316 T_q316 := ⟨Tryz.f316, [2, 2, 2, 1], Tryz.func316, Tryz.ntmps316, C_q316, by kernel_rfl⟩
theorem C_q325 : cutF [1, 0] (compF Tryz.prog Tryz.f325) = some (A_q325, R_q325) := by kernel_rfl
theorem G_q325 : GoodFC Tryz.prog F_q325 T_q325 := ⟨Tryz.f325, [1, 0], Tryz.func325, Tryz.ntmps325, C_q325, by kernel_rfl⟩
theorem C_q326 : cutF [] (compF Tryz.prog Tryz.f326) = some (A_q326, R_q326) := by kernel_rfl
theorem G_q326 : GoodFC Tryz.prog F_q326 T_q326 := ⟨Tryz.f326, [], Tryz.func326, Tryz.ntmps326, C_q326, by kernel_rfl⟩
theorem C_q327 : cutF [2, 2, 3, 3] (compF Tryz.prog Tryz.f327) = some (A_q327, R_q327) := by kernel_rfl
theorem G_q327 : GoodFC Tryz.prog F_q327 T_q327 := ⟨Tryz.f327, [2, 2, 3, 3], Tryz.func327, Tryz.ntmps327, C_q327, by kernel_rfl⟩
theorem C_q328 : cutF [] (compF Tryz.prog Tryz.f328) = some (A_q328, R_q328) := by kernel_rfl
theorem G_q328 : GoodFC Tryz.prog F_q328 T_q328 := ⟨Tryz.f328, [], Tryz.func328, Tryz.ntmps328, C_q328, by kernel_rfl⟩
theorem C_q336 : cutF [0, 2] (compF Tryz.prog Tryz.f336) = some (A_q336, R_q336) := by kernel_rfl
theorem G_q336 : GoodFC Tryz.prog F_q336 T_q336 := ⟨Tryz.f336, [0, 2], Tryz.func336, Tryz.ntmps336, C_q336, by kernel_rfl⟩
end Go.Proofs.YtbnfeedomchfdaaGreatDoor
