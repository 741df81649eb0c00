/- Contracts of functions of the given program, in the logic L: texts put together; no conditions. -/
import Derived.Test.YtcpjeocepolecaaGreatDoorY4
import Derived.Test.YtcpjeocepolecaaGreatDoorProg
import Derived.KernelRfl
/- Each code is what the logic makes of the given program (by the kernel). Printed by program (gen_all.py). -/
namespace Go.Proofs.YtcpjeocepolecaaGreatDoor
open Go.L
theorem C_lexiconlaw17_CompatNumbers : cutF [0, 2] (compF Tryz.prog Tryz.f3) = some (A_lexiconlaw17_CompatNumbers, R_lexiconlaw17_CompatNumbers) := by kernel_rfl
theorem G_lexiconlaw17_CompatNumbers : GoodFC Tryz.prog F_lexiconlaw17_CompatNumbers T_lexiconlaw17_CompatNumbers := ⟨Tryz.f3, [0, 2], Tryz.func3, Tryz.ntmps3, C_lexiconlaw17_CompatNumbers, by kernel_rfl⟩
theorem C_q5 : cutF [2] (compF Tryz.prog Tryz.f5) = some (A_q5, R_q5) := by kernel_rfl
theorem G_q5 : GoodFC Tryz.prog F_q5 T_q5 := ⟨Tryz.f5, [2], Tryz.func5, Tryz.ntmps5, C_q5, by kernel_rfl⟩
theorem C_q6 : cutF [0, 0] (compF Tryz.prog Tryz.f6) = some (A_q6, R_q6) := by kernel_rfl
theorem G_q6 : GoodFC Tryz.prog F_q6 T_q6 := ⟨Tryz.f6, [0, 0], Tryz.func6, Tryz.ntmps6, C_q6, by kernel_rfl⟩
theorem C_q9 : cutF [2] (compF Tryz.prog Tryz.f9) = some (A_q9, R_q9) := by kernel_rfl
theorem G_q9 : GoodFC Tryz.prog F_q9 T_q9 := ⟨Tryz.f9, [2], Tryz.func9, Tryz.ntmps9, C_q9, by kernel_rfl⟩
theorem C_q10 : cutF [] (compF Tryz.prog Tryz.f10) = some (A_q10, R_q10) := by kernel_rfl
theorem G_q10 : GoodFC Tryz.prog F_q10 T_q10 := ⟨Tryz.f10, [], Tryz.func10, Tryz.ntmps10, C_q10, by kernel_rfl⟩
theorem C_q11 : cutF [] (compF Tryz.prog Tryz.f11) = some (A_q11, R_q11) := by kernel_rfl
theorem G_q11 : GoodFC Tryz.prog F_q11 T_q11 := ⟨Tryz.f11, [], Tryz.func11, Tryz.ntmps11, C_q11, by kernel_rfl⟩
theorem C_q12 : cutF [] (compF Tryz.prog Tryz.f12) = some (A_q12, R_q12) := by kernel_rfl
theorem G_q12 : GoodFC Tryz.prog F_q12 T_q12 := ⟨Tryz.f12, [], Tryz.func12, Tryz.ntmps12, C_q12, by kernel_rfl⟩
theorem C_q13 : cutF [0, 0, 0, 1] (compF Tryz.prog Tryz.f13) = some (A_q13, R_q13) := by kernel_rfl
theorem G_q13 : GoodFC Tryz.prog F_q13 T_q13 := ⟨Tryz.f13, [0, 0, 0, 1], Tryz.func13, Tryz.ntmps13, C_q13, by kernel_rfl⟩
theorem C_q14 : cutF [2, 0, 2] (compF Tryz.prog Tryz.f14) = some (A_q14, R_q14) := by kernel_rfl
theorem G_q14 : GoodFC Tryz.prog F_q14 T_q14 := ⟨Tryz.f14, [2, 0, 2], Tryz.func14, Tryz.ntmps14, C_q14, by kernel_rfl⟩
theorem C_q15 : cutF [1] (compF Tryz.prog Tryz.f15) = some (A_q15, R_q15) := by kernel_rfl
theorem G_q15 : GoodFC Tryz.prog F_q15 T_q15 := ⟨Tryz.f15, [1], Tryz.func15, Tryz.ntmps15, C_q15, by kernel_rfl⟩
theorem C_q16 : cutF [2] (compF Tryz.prog Tryz.f16) = some (A_q16, R_q16) := by kernel_rfl
theorem G_q16 : GoodFC Tryz.prog F_q16 T_q16 := ⟨Tryz.f16, [2], Tryz.func16, Tryz.ntmps16, C_q16, by kernel_rfl⟩
theorem C_q17 : cutF [] (compF Tryz.prog Tryz.f17) = some (A_q17, R_q17) := by kernel_rfl
theorem G_q17 : GoodFC Tryz.prog F_q17 T_q17 := ⟨Tryz.f17, [], Tryz.func17, Tryz.ntmps17, C_q17, by kernel_rfl⟩
theorem C_q18 : cutF [0, 0, 0, 2, 2] (compF Tryz.prog Tryz.f18) = some (A_q18, R_q18) := by kernel_rfl
theorem G_q18 : GoodFC Tryz.prog F_q18 T_q18 := ⟨Tryz.f18, [0, 0, 0, 2, 2], Tryz.func18, Tryz.ntmps18, C_q18, by kernel_rfl⟩
theorem C_q19 : cutF [] (compF Tryz.prog Tryz.f19) = some (A_q19, R_q19) := by kernel_rfl
theorem G_q19 : GoodFC Tryz.prog F_q19 T_q19 := ⟨Tryz.f19, [], Tryz.func19, Tryz.ntmps19, C_q19, by kernel_rfl⟩
theorem C_q20 : cutF [] (compF Tryz.prog Tryz.f20) = some (A_q20, R_q20) := by kernel_rfl
theorem G_q20 : GoodFC Tryz.prog F_q20 T_q20 := ⟨Tryz.f20, [], Tryz.func20, Tryz.ntmps20, C_q20, by kernel_rfl⟩
theorem C_q21 : cutF [1] (compF Tryz.prog Tryz.f21) = some (A_q21, R_q21) := by kernel_rfl
theorem G_q21 : GoodFC Tryz.prog F_q21 T_q21 := ⟨Tryz.f21, [1], Tryz.func21, Tryz.ntmps21, C_q21, by kernel_rfl⟩
theorem C_q22 : cutF [2] (compF Tryz.prog Tryz.f22) = some (A_q22, R_q22) := by kernel_rfl
theorem G_q22 : GoodFC Tryz.prog F_q22 T_q22 := ⟨Tryz.f22, [2], Tryz.func22, Tryz.ntmps22, C_q22, by kernel_rfl⟩
theorem C_q24 : cutF [0, 2, 1, 2, 0, 2] (compF Tryz.prog Tryz.f24) = some (A_q24, R_q24) := by kernel_rfl
theorem G_q24 : GoodFC Tryz.prog F_q24 T_q24 := ⟨Tryz.f24, [0, 2, 1, 2, 0, 2], Tryz.func24, Tryz.ntmps24, C_q24, by kernel_rfl⟩
theorem C_q25 : cutF [0, 2, 3] (compF Tryz.prog Tryz.f25) = some (A_q25, R_q25) := by kernel_rfl
theorem G_q25 : GoodFC Tryz.prog F_q25 T_q25 := ⟨Tryz.f25, [0, 2, 3], Tryz.func25, Tryz.ntmps25, C_q25, by kernel_rfl⟩
theorem C_q26 : cutF [0, 0] (compF Tryz.prog Tryz.f26) = some (A_q26, R_q26) := by kernel_rfl
theorem G_q26 : GoodFC Tryz.prog F_q26 T_q26 := ⟨Tryz.f26, [0, 0], Tryz.func26, Tryz.ntmps26, C_q26, by kernel_rfl⟩
theorem C_q27 : cutF [0, 2, 0, 0, 2, 2] (compF Tryz.prog Tryz.f27) = some (A_q27, R_q27) := by kernel_rfl
theorem G_q27 : GoodFC Tryz.prog F_q27 T_q27 := ⟨Tryz.f27, [0, 2, 0, 0, 2, 2], Tryz.func27, Tryz.ntmps27, C_q27, by kernel_rfl⟩
theorem C_q28 : cutF [0] (compF Tryz.prog Tryz.f28) = some (A_q28, R_q28) := by kernel_rfl
theorem G_q28 : GoodFC Tryz.prog F_q28 T_q28 := ⟨Tryz.f28, [0], Tryz.func28, Tryz.ntmps28, C_q28, by kernel_rfl⟩
theorem C_q29 : cutF [0, 1, 1, 0, 2] (compF Tryz.prog Tryz.f29) = some (A_q29, R_q29) := by kernel_rfl
theorem G_q29 : GoodFC Tryz.prog F_q29 T_q29 := ⟨Tryz.f29, [0, 1, 1, 0, 2], Tryz.func29, Tryz.ntmps29, C_q29, by kernel_rfl⟩
theorem C_q31 : cutF [] (compF Tryz.prog Tryz.f31) = some (A_q31, R_q31) := by kernel_rfl
theorem G_q31 : GoodFC Tryz.prog F_q31 T_q31 := ⟨Tryz.f31, [], Tryz.func31, Tryz.ntmps31, C_q31, by kernel_rfl⟩
theorem C_q32 : cutF [] (compF Tryz.prog Tryz.f32) = some (A_q32, R_q32) := by kernel_rfl
theorem G_q32 : GoodFC Tryz.prog F_q32 T_q32 := ⟨Tryz.f32, [], Tryz.func32, Tryz.ntmps32, C_q32, by kernel_rfl⟩
theorem C_q33 : cutF [0, 0, 0, 0, 0, 2, 0] (compF Tryz.prog Tryz.f33) = some (A_q33, R_q33) := by kernel_rfl
theorem G_q33 : GoodFC Tryz.prog F_q33 T_q33 := ⟨Tryz.f33, [0, 0, 0, 0, 0, 2, 0], Tryz.func33, Tryz.ntmps33, C_q33, by kernel_rfl⟩
theorem C_q34 : cutF [2] (compF Tryz.prog Tryz.f34) = some (A_q34, R_q34) := by kernel_rfl
theorem G_q34 : GoodFC Tryz.prog F_q34 T_q34 := ⟨Tryz.f34, [2], Tryz.func34, Tryz.ntmps34, C_q34, by kernel_rfl⟩
theorem C_q35 : cutF [0] (compF Tryz.prog Tryz.f35) = some (A_q35, R_q35) := by kernel_rfl
theorem G_q35 : GoodFC Tryz.prog F_q35 T_q35 := ⟨Tryz.f35, [0], Tryz.func35, Tryz.ntmps35, C_q35, by kernel_rfl⟩
theorem C_q36 : cutF [2, 0] (compF Tryz.prog Tryz.f36) = some (A_q36, R_q36) := by kernel_rfl
theorem G_q36 : GoodFC Tryz.prog F_q36 T_q36 := ⟨Tryz.f36, [2, 0], Tryz.func36, Tryz.ntmps36, C_q36, by kernel_rfl⟩
theorem C_q37 : cutF [0] (compF Tryz.prog Tryz.f37) = some (A_q37, R_q37) := by kernel_rfl
theorem G_q37 : GoodFC Tryz.prog F_q37 T_q37 := ⟨Tryz.f37, [0], Tryz.func37, Tryz.ntmps37, C_q37, by kernel_rfl⟩
theorem C_q38 : cutF [] (compF Tryz.prog Tryz.f38) = some (A_q38, R_q38) := by kernel_rfl
theorem G_q38 : GoodFC Tryz.prog F_q38 T_q38 := ⟨Tryz.f38, [], Tryz.func38, Tryz.ntmps38, C_q38, by kernel_rfl⟩
theorem C_q40 : cutF [] (compF Tryz.prog Tryz.f40) = some (A_q40, R_q40) := by kernel_rfl
theorem G_q40 : GoodFC Tryz.prog F_q40 T_q40 := ⟨Tryz.f40, [], Tryz.func40, Tryz.ntmps40, C_q40, by kernel_rfl⟩
theorem C_q41 : cutF [] (compF Tryz.prog Tryz.f41) = some (A_q41, R_q41) := by kernel_rfl
theorem G_q41 : GoodFC Tryz.prog F_q41 T_q41 := ⟨Tryz.f41, [], Tryz.func41, Tryz.ntmps41, C_q41, by kernel_rfl⟩
theorem C_q42 : cutF [2, 3, 3] (compF Tryz.prog Tryz.f42) = some (A_q42, R_q42) := by kernel_rfl
theorem G_q42 : GoodFC Tryz.prog F_q42 T_q42 := ⟨Tryz.f42, [2, 3, 3], Tryz.func42, Tryz.ntmps42, C_q42, by kernel_rfl⟩
theorem C_q43 : cutF [2, 2, 3] (compF Tryz.prog Tryz.f43) = some (A_q43, R_q43) := by kernel_rfl
theorem G_q43 : GoodFC Tryz.prog F_q43 T_q43 := ⟨Tryz.f43, [2, 2, 3], Tryz.func43, Tryz.ntmps43, C_q43, by kernel_rfl⟩
theorem C_q44 : cutF [] (compF Tryz.prog Tryz.f44) = some (A_q44, R_q44) := by kernel_rfl
theorem G_q44 : GoodFC Tryz.prog F_q44 T_q44 := ⟨Tryz.f44, [], Tryz.func44, Tryz.ntmps44, C_q44, by kernel_rfl⟩
theorem C_q45 : cutF [0, 2] (compF Tryz.prog Tryz.f45) = some (A_q45, R_q45) := by kernel_rfl
theorem G_q45 : GoodFC Tryz.prog F_q45 T_q45 := ⟨Tryz.f45, [0, 2], Tryz.func45, Tryz.ntmps45, C_q45, by kernel_rfl⟩
theorem C_q46 : cutF [0, 0] (compF Tryz.prog Tryz.f46) = some (A_q46, R_q46) := by kernel_rfl
theorem G_q46 : GoodFC Tryz.prog F_q46 T_q46 := ⟨Tryz.f46, [0, 0], Tryz.func46, Tryz.ntmps46, C_q46, by kernel_rfl⟩
theorem C_q48 : cutF [] (compF Tryz.prog Tryz.f48) = some (A_q48, R_q48) := by kernel_rfl
theorem G_q48 : GoodFC Tryz.prog F_q48 T_q48 := ⟨Tryz.f48, [], Tryz.func48, Tryz.ntmps48, C_q48, by kernel_rfl⟩
theorem C_q49 : cutF [2, 1, 0, 0, 2] (compF Tryz.prog Tryz.f49) = some (A_q49, R_q49) := by kernel_rfl
theorem G_q49 : GoodFC Tryz.prog F_q49 T_q49 := ⟨Tryz.f49, [2, 1, 0, 0, 2], Tryz.func49, Tryz.ntmps49, C_q49, by kernel_rfl⟩
theorem C_q50 : cutF [] (compF Tryz.prog Tryz.f50) = some (A_q50, R_q50) := by kernel_rfl
theorem G_q50 : GoodFC Tryz.prog F_q50 T_q50 := ⟨Tryz.f50, [], Tryz.func50, Tryz.ntmps50, C_q50, by kernel_rfl⟩
theorem C_q53 : cutF [3, 3] (compF Tryz.prog Tryz.f53) = some (A_q53, R_q53) := by kernel_rfl
theorem G_q53 : GoodFC Tryz.prog F_q53 T_q53 := ⟨Tryz.f53, [3, 3], Tryz.func53, Tryz.ntmps53, C_q53, by kernel_rfl⟩
theorem C_q54 : cutF [0, 0, 0, 0] (compF Tryz.prog Tryz.f54) = some (A_q54, R_q54) := by kernel_rfl
theorem G_q54 : GoodFC Tryz.prog F_q54 T_q54 := ⟨Tryz.f54, [0, 0, 0, 0], Tryz.func54, Tryz.ntmps54, C_q54, by kernel_rfl⟩
theorem C_q55 : cutF [1, 0] (compF Tryz.prog Tryz.f55) = some (A_q55, R_q55) := by kernel_rfl
theorem G_q55 : GoodFC Tryz.prog F_q55 T_q55 := ⟨Tryz.f55, [1, 0], Tryz.func55, Tryz.ntmps55, C_q55, by kernel_rfl⟩
theorem C_q56 : cutF [2, 0, 2] (compF Tryz.prog Tryz.f56) = some (A_q56, R_q56) := by kernel_rfl
theorem G_q56 : GoodFC Tryz.prog F_q56 T_q56 := ⟨Tryz.f56, [2, 0, 2], Tryz.func56, Tryz.ntmps56, C_q56, by kernel_rfl⟩
theorem C_q57 : cutF [2, 2, 2, 2, 2, 2, 0, 0, 0] (compF Tryz.prog Tryz.f57) = some (A_q57, R_q57) := by kernel_rfl
theorem G_q57 : GoodFC Tryz.prog F_q57 T_q57 := ⟨Tryz.f57, [2, 2, 2, 2, 2, 2, 0, 0, 0], Tryz.func57, Tryz.ntmps57, C_q57, by kernel_rfl⟩
theorem C_q58 : cutF [1] (compF Tryz.prog Tryz.f58) = some (A_q58, R_q58) := by kernel_rfl
theorem G_q58 : GoodFC Tryz.prog F_q58 T_q58 := ⟨Tryz.f58, [1], Tryz.func58, Tryz.ntmps58, C_q58, by kernel_rfl⟩
theorem C_q59 : cutF [0, 2] (compF Tryz.prog Tryz.f59) = some (A_q59, R_q59) := by kernel_rfl
theorem G_q59 : GoodFC Tryz.prog F_q59 T_q59 := ⟨Tryz.f59, [0, 2], Tryz.func59, Tryz.ntmps59, C_q59, by kernel_rfl⟩
theorem C_q60 : cutF [] (compF Tryz.prog Tryz.f60) = some (A_q60, R_q60) := by kernel_rfl
theorem G_q60 : GoodFC Tryz.prog F_q60 T_q60 := ⟨Tryz.f60, [], Tryz.func60, Tryz.ntmps60, C_q60, by kernel_rfl⟩
theorem C_q61 : cutF [] (compF Tryz.prog Tryz.f61) = some (A_q61, R_q61) := by kernel_rfl
theorem G_q61 : GoodFC Tryz.prog F_q61 T_q61 := ⟨Tryz.f61, [], Tryz.func61, Tryz.ntmps61, C_q61, by kernel_rfl⟩
theorem C_q62 : cutF [1] (compF Tryz.prog Tryz.f62) = some (A_q62, R_q62) := by kernel_rfl
theorem G_q62 : GoodFC Tryz.prog F_q62 T_q62 := ⟨Tryz.f62, [1], Tryz.func62, Tryz.ntmps62, C_q62, by kernel_rfl⟩
theorem C_q63 : cutF [1, 1, 2, 1, 0, 2] (compF Tryz.prog Tryz.f63) = some (A_q63, R_q63) := by kernel_rfl
theorem G_q63 : GoodFC Tryz.prog F_q63 T_q63 := ⟨Tryz.f63, [1, 1, 2, 1, 0, 2], Tryz.func63, Tryz.ntmps63, C_q63, by kernel_rfl⟩
theorem C_q64 : cutF [] (compF Tryz.prog Tryz.f64) = some (A_q64, R_q64) := by kernel_rfl
theorem G_q64 : GoodFC Tryz.prog F_q64 T_q64 := ⟨Tryz.f64, [], Tryz.func64, Tryz.ntmps64, C_q64, by kernel_rfl⟩
theorem C_q65 : cutF [] (compF Tryz.prog Tryz.f65) = some (A_q65, R_q65) := by kernel_rfl
theorem G_q65 : GoodFC Tryz.prog F_q65 T_q65 := ⟨Tryz.f65, [], Tryz.func65, Tryz.ntmps65, C_q65, by kernel_rfl⟩
theorem C_q66 : cutF [0, 0] (compF Tryz.prog Tryz.f66) = some (A_q66, R_q66) := by kernel_rfl
theorem G_q66 : GoodFC Tryz.prog F_q66 T_q66 := ⟨Tryz.f66, [0, 0], Tryz.func66, Tryz.ntmps66, C_q66, by kernel_rfl⟩
theorem C_q68 : cutF [0, 0, 2, 2] (compF Tryz.prog Tryz.f68) = some (A_q68, R_q68) := by kernel_rfl
theorem G_q68 : GoodFC Tryz.prog F_q68 T_q68 := ⟨Tryz.f68, [0, 0, 2, 2], Tryz.func68, Tryz.ntmps68, C_q68, by kernel_rfl⟩
theorem C_q69 : cutF [] (compF Tryz.prog Tryz.f69) = some (A_q69, R_q69) := by kernel_rfl
theorem G_q69 : GoodFC Tryz.prog F_q69 T_q69 := ⟨Tryz.f69, [], Tryz.func69, Tryz.ntmps69, C_q69, by kernel_rfl⟩
theorem C_q70 : cutF [1] (compF Tryz.prog Tryz.f70) = some (A_q70, R_q70) := by kernel_rfl
theorem G_q70 : GoodFC Tryz.prog F_q70 T_q70 := ⟨Tryz.f70, [1], Tryz.func70, Tryz.ntmps70, C_q70, by kernel_rfl⟩
theorem C_q71 : cutF [1, 1] (compF Tryz.prog Tryz.f71) = some (A_q71, R_q71) := by kernel_rfl
theorem G_q71 : GoodFC Tryz.prog F_q71 T_q71 := ⟨Tryz.f71, [1, 1], Tryz.func71, Tryz.ntmps71, C_q71, by kernel_rfl⟩
theorem C_q72 : cutF [2, 2, 2, 1] (compF Tryz.prog Tryz.f72) = some (A_q72, R_q72) := by kernel_rfl
theorem G_q72 : GoodFC Tryz.prog F_q72 T_q72 := ⟨Tryz.f72, [2, 2, 2, 1], Tryz.func72, Tryz.ntmps72, C_q72, by kernel_rfl⟩
theorem C_q73 : cutF [2, 2, 2, 0] (compF Tryz.prog Tryz.f73) = some (A_q73, R_q73) := by kernel_rfl
theorem G_q73 : GoodFC Tryz.prog F_q73 T_q73 := ⟨Tryz.f73, [2, 2, 2, 0], Tryz.func73, Tryz.ntmps73, C_q73, by kernel_rfl⟩
theorem C_q74 : cutF [1, 3, 3, 3] (compF Tryz.prog Tryz.f74) = some (A_q74, R_q74) := by kernel_rfl
theorem G_q74 : GoodFC Tryz.prog F_q74 T_q74 := ⟨Tryz.f74, [1, 3, 3, 3], Tryz.func74, Tryz.ntmps74, C_q74, by kernel_rfl⟩
theorem C_q75 : cutF [2, 3] (compF Tryz.prog Tryz.f75) = some (A_q75, R_q75) := by kernel_rfl
theorem G_q75 : GoodFC Tryz.prog F_q75 T_q75 := ⟨Tryz.f75, [2, 3], Tryz.func75, Tryz.ntmps75, C_q75, by kernel_rfl⟩
theorem C_q76 : cutF [] (compF Tryz.prog Tryz.f76) = some (A_q76, R_q76) := by kernel_rfl
theorem G_q76 : GoodFC Tryz.prog F_q76 T_q76 := ⟨Tryz.f76, [], Tryz.func76, Tryz.ntmps76, C_q76, by kernel_rfl⟩
theorem C_q77 : cutF [1, 3, 3, 3, 3, 3, 3] (compF Tryz.prog Tryz.f77) = some (A_q77, R_q77) := by kernel_rfl
theorem G_q77 : GoodFC Tryz.prog F_q77 T_q77 := ⟨Tryz.f77, [1, 3, 3, 3, 3, 3, 3], Tryz.func77, Tryz.ntmps77, C_q77, by kernel_rfl⟩
theorem C_q78 : cutF [2] (compF Tryz.prog Tryz.f78) = some (A_q78, R_q78) := by kernel_rfl
theorem G_q78 : GoodFC Tryz.prog F_q78 T_q78 := ⟨Tryz.f78, [2], Tryz.func78, Tryz.ntmps78, C_q78, by kernel_rfl⟩
theorem C_q81 : cutF [] (compF Tryz.prog Tryz.f81) = some (A_q81, R_q81) := by kernel_rfl
theorem G_q81 : GoodFC Tryz.prog F_q81 T_q81 := ⟨Tryz.f81, [], Tryz.func81, Tryz.ntmps81, C_q81, by kernel_rfl⟩
theorem C_q82 : cutF [0, 1] (compF Tryz.prog Tryz.f82) = some (A_q82, R_q82) := by kernel_rfl
theorem G_q82 : GoodFC Tryz.prog F_q82 T_q82 := ⟨Tryz.f82, [0, 1], Tryz.func82, Tryz.ntmps82, C_q82, by kernel_rfl⟩
theorem C_q83 : cutF [] (compF Tryz.prog Tryz.f83) = some (A_q83, R_q83) := by kernel_rfl
theorem G_q83 : GoodFC Tryz.prog F_q83 T_q83 := ⟨Tryz.f83, [], Tryz.func83, Tryz.ntmps83, C_q83, by kernel_rfl⟩
theorem C_q85 : cutF [] (compF Tryz.prog Tryz.f85) = some (A_q85, R_q85) := by kernel_rfl
theorem G_q85 : GoodFC Tryz.prog F_q85 T_q85 := ⟨Tryz.f85, [], Tryz.func85, Tryz.ntmps85, C_q85, by kernel_rfl⟩
theorem C_q86 : cutF [0, 2] (compF Tryz.prog Tryz.f86) = some (A_q86, R_q86) := by kernel_rfl
theorem G_q86 : GoodFC Tryz.prog F_q86 T_q86 := ⟨Tryz.f86, [0, 2], Tryz.func86, Tryz.ntmps86, C_q86, by kernel_rfl⟩
theorem C_q87 : cutF [2] (compF Tryz.prog Tryz.f87) = some (A_q87, R_q87) := by kernel_rfl
theorem G_q87 : GoodFC Tryz.prog F_q87 T_q87 := ⟨Tryz.f87, [2], Tryz.func87, Tryz.ntmps87, C_q87, by kernel_rfl⟩
theorem C_q88 : cutF [2, 0, 2] (compF Tryz.prog Tryz.f88) = some (A_q88, R_q88) := by kernel_rfl
theorem G_q88 : GoodFC Tryz.prog F_q88 T_q88 := ⟨Tryz.f88, [2, 0, 2], Tryz.func88, Tryz.ntmps88, C_q88, by kernel_rfl⟩
theorem C_q90 : cutF [0, 0, 2, 2] (compF Tryz.prog Tryz.f90) = some (A_q90, R_q90) := by kernel_rfl
theorem G_q90 : GoodFC Tryz.prog F_q90 T_q90 := ⟨Tryz.f90, [0, 0, 2, 2], Tryz.func90, Tryz.ntmps90, C_q90, by kernel_rfl⟩
theorem C_q92 : cutF [2] (compF Tryz.prog Tryz.f92) = some (A_q92, R_q92) := by kernel_rfl
theorem G_q92 : GoodFC Tryz.prog F_q92 T_q92 := ⟨Tryz.f92, [2], Tryz.func92, Tryz.ntmps92, C_q92, by kernel_rfl⟩
theorem C_q94 : cutF [2, 0, 1, 2, 0, 2, 0] (compF Tryz.prog Tryz.f94) = some (A_q94, R_q94) := by kernel_rfl
theorem G_q94 : GoodFC Tryz.prog F_q94 T_q94 := ⟨Tryz.f94, [2, 0, 1, 2, 0, 2, 0], Tryz.func94, Tryz.ntmps94, C_q94, by kernel_rfl⟩
theorem C_q95 : cutF [2, 2, 3, 3] (compF Tryz.prog Tryz.f95) = some (A_q95, R_q95) := by kernel_rfl
theorem G_q95 : GoodFC Tryz.prog F_q95 T_q95 := ⟨Tryz.f95, [2, 2, 3, 3], Tryz.func95, Tryz.ntmps95, C_q95, by kernel_rfl⟩
theorem C_q96 : cutF [] (compF Tryz.prog Tryz.f96) = some (A_q96, R_q96) := by kernel_rfl
theorem G_q96 : GoodFC Tryz.prog F_q96 T_q96 := ⟨Tryz.f96, [], Tryz.func96, Tryz.ntmps96, C_q96, by kernel_rfl⟩
theorem C_q97 : cutF [] (compF Tryz.prog Tryz.f97) = some (A_q97, R_q97) := by kernel_rfl
theorem G_q97 : GoodFC Tryz.prog F_q97 T_q97 := ⟨Tryz.f97, [], Tryz.func97, Tryz.ntmps97, C_q97, by kernel_rfl⟩
theorem C_q99 : cutF [2, 3] (compF Tryz.prog Tryz.f99) = some (A_q99, R_q99) := by kernel_rfl
theorem G_q99 : GoodFC Tryz.prog F_q99 T_q99 := ⟨Tryz.f99, [2, 3], Tryz.func99, Tryz.ntmps99, C_q99, by kernel_rfl⟩
theorem C_q100 : cutF [2, 3] (compF Tryz.prog Tryz.f100) = some (A_q100, R_q100) := by kernel_rfl
theorem G_q100 : GoodFC Tryz.prog F_q100 T_q100 := ⟨Tryz.f100, [2, 3], Tryz.func100, Tryz.ntmps100, C_q100, by kernel_rfl⟩
theorem C_q110 : cutF [2, 2, 2] (compF Tryz.prog Tryz.f110) = some (A_q110, R_q110) := by kernel_rfl
theorem G_q110 : GoodFC Tryz.prog F_q110 T_q110 := ⟨Tryz.f110, [2, 2, 2], Tryz.func110, Tryz.ntmps110, C_q110, by kernel_rfl⟩
theorem C_q120 : cutF [0] (compF Tryz.prog Tryz.f120) = some (A_q120, R_q120) := by kernel_rfl
theorem G_q120 : GoodFC Tryz.prog F_q120 T_q120 := ⟨Tryz.f120, [0], Tryz.func120, Tryz.ntmps120, C_q120, by kernel_rfl⟩
theorem C_q121 : cutF [0] (compF Tryz.prog Tryz.f121) = some (A_q121, R_q121) := by kernel_rfl
theorem G_q121 : GoodFC Tryz.prog F_q121 T_q121 := ⟨Tryz.f121, [0], Tryz.func121, Tryz.ntmps121, C_q121, by kernel_rfl⟩
theorem C_q122 : cutF [0] (compF Tryz.prog Tryz.f122) = some (A_q122, R_q122) := by kernel_rfl
theorem G_q122 : GoodFC Tryz.prog F_q122 T_q122 := ⟨Tryz.f122, [0], Tryz.func122, Tryz.ntmps122, C_q122, by kernel_rfl⟩
theorem C_q123 : cutF [1] (compF Tryz.prog Tryz.f123) = some (A_q123, R_q123) := by kernel_rfl
theorem G_q123 : GoodFC Tryz.prog F_q123 T_q123 := ⟨Tryz.f123, [1], Tryz.func123, Tryz.ntmps123, C_q123, by kernel_rfl⟩
theorem C_q125 : cutF [] (compF Tryz.prog Tryz.f125) = some (A_q125, R_q125) := by kernel_rfl
theorem G_q125 : GoodFC Tryz.prog F_q125 T_q125 := ⟨Tryz.f125, [], Tryz.func125, Tryz.ntmps125, C_q125, by kernel_rfl⟩
theorem C_q127 : cutF [2, 0, 2] (compF Tryz.prog Tryz.f127) = some (A_q127, R_q127) := by kernel_rfl
theorem G_q127 : GoodFC Tryz.prog F_q127 T_q127 := ⟨Tryz.f127, [2, 0, 2], Tryz.func127, Tryz.ntmps127, C_q127, by kernel_rfl⟩
theorem C_q128 : cutF [] (compF Tryz.prog Tryz.f128) = some (A_q128, R_q128) := by kernel_rfl
theorem G_q128 : GoodFC Tryz.prog F_q128 T_q128 := ⟨Tryz.f128, [], Tryz.func128, Tryz.ntmps128, C_q128, by kernel_rfl⟩
theorem C_q129 : cutF [2, 3] (compF Tryz.prog Tryz.f129) = some (A_q129, R_q129) := by kernel_rfl
theorem G_q129 : GoodFC Tryz.prog F_q129 T_q129 := ⟨Tryz.f129, [2, 3], Tryz.func129, Tryz.ntmps129, C_q129, by kernel_rfl⟩
theorem C_q130 : cutF [2] (compF Tryz.prog Tryz.f130) = some (A_q130, R_q130) := by kernel_rfl
theorem G_q130 : GoodFC Tryz.prog F_q130 T_q130 := ⟨Tryz.f130, [2], Tryz.func130, Tryz.ntmps130, C_q130, by kernel_rfl⟩
theorem C_q131 : cutF [1, 2, 2, 0, 1] (compF Tryz.prog Tryz.f131) = some (A_q131, R_q131) := by kernel_rfl
theorem G_q131 : GoodFC Tryz.prog F_q131 T_q131 := ⟨Tryz.f131, [1, 2, 2, 0, 1], Tryz.func131, Tryz.ntmps131, C_q131, by kernel_rfl⟩
theorem C_q132 : cutF [] (compF Tryz.prog Tryz.f132) = some (A_q132, R_q132) := by kernel_rfl
theorem G_q132 : GoodFC Tryz.prog F_q132 T_q132 := ⟨Tryz.f132, [], Tryz.func132, Tryz.ntmps132, C_q132, by kernel_rfl⟩
theorem C_q133 : cutF [] (compF Tryz.prog Tryz.f133) = some (A_q133, R_q133) := by kernel_rfl
theorem G_q133 : GoodFC Tryz.prog F_q133 T_q133 := ⟨Tryz.f133, [], Tryz.func133, Tryz.ntmps133, C_q133, by kernel_rfl⟩
theorem C_q134 : cutF [] (compF Tryz.prog Tryz.f134) = some (A_q134, R_q134) := by kernel_rfl
theorem G_q134 : GoodFC Tryz.prog F_q134 T_q134 := ⟨Tryz.f134, [], Tryz.func134, Tryz.ntmps134, C_q134, by kernel_rfl⟩
theorem C_q138 : cutF [2, 1] (compF Tryz.prog Tryz.f138) = some (A_q138, R_q138) := by kernel_rfl
theorem G_q138 : GoodFC Tryz.prog F_q138 T_q138 := ⟨Tryz.f138, [2, 1], Tryz.func138, Tryz.ntmps138, C_q138, by kernel_rfl⟩
theorem C_q139 : cutF [] (compF Tryz.prog Tryz.f139) = some (A_q139, R_q139) := by kernel_rfl
theorem G_q139 : GoodFC Tryz.prog F_q139 T_q139 := ⟨Tryz.f139, [], Tryz.func139, Tryz.ntmps139, C_q139, by kernel_rfl⟩
theorem C_q140 : cutF [] (compF Tryz.prog Tryz.f140) = some (A_q140, R_q140) := by kernel_rfl
theorem G_q140 : GoodFC Tryz.prog F_q140 T_q140 := ⟨Tryz.f140, [], Tryz.func140, Tryz.ntmps140, C_q140, by kernel_rfl⟩
theorem C_q141 : cutF [0, 2] (compF Tryz.prog Tryz.f141) = some (A_q141, R_q141) := by kernel_rfl
theorem G_q141 : GoodFC Tryz.prog F_q141 T_q141 := ⟨Tryz.f141, [0, 2], Tryz.func141, Tryz.ntmps141, C_q141, by kernel_rfl⟩
theorem C_q156 : cutF [] (compF Tryz.prog Tryz.f156) = some (A_q156, R_q156) := by kernel_rfl
theorem G_q156 : GoodFC Tryz.prog F_q156 T_q156 := ⟨Tryz.f156, [], Tryz.func156, Tryz.ntmps156, C_q156, by kernel_rfl⟩
theorem C_q158 : cutF [] (compF Tryz.prog Tryz.f158) = some (A_q158, R_q158) := by kernel_rfl
theorem G_q158 : GoodFC Tryz.prog F_q158 T_q158 := ⟨Tryz.f158, [], Tryz.func158, Tryz.ntmps158, C_q158, by kernel_rfl⟩
theorem C_q159 : cutF [] (compF Tryz.prog Tryz.f159) = some (A_q159, R_q159) := by kernel_rfl
theorem G_q159 : GoodFC Tryz.prog F_q159 T_q159 := ⟨Tryz.f159, [], Tryz.func159, Tryz.ntmps159, C_q159, by kernel_rfl⟩
theorem C_q160 : cutF [] (compF Tryz.prog Tryz.f160) = some (A_q160, R_q160) := by kernel_rfl
theorem G_q160 : GoodFC Tryz.prog F_q160 T_q160 := ⟨Tryz.f160, [], Tryz.func160, Tryz.ntmps160, C_q160, by kernel_rfl⟩
theorem C_q161 : cutF [] (compF Tryz.prog Tryz.f161) = some (A_q161, R_q161) := by kernel_rfl
theorem G_q161 : GoodFC Tryz.prog F_q161 T_q161 := ⟨Tryz.f161, [], Tryz.func161, Tryz.ntmps161, C_q161, by kernel_rfl⟩
theorem C_q162 : cutF [] (compF Tryz.prog Tryz.f162) = some (A_q162, R_q162) := by kernel_rfl
theorem G_q162 : GoodFC Tryz.prog F_q162 T_q162 := ⟨Tryz.f162, [], Tryz.func162, Tryz.ntmps162, C_q162, by kernel_rfl⟩
theorem C_q163 : cutF [] (compF Tryz.prog Tryz.f163) = some (A_q163, R_q163) := by kernel_rfl
theorem G_q163 : GoodFC Tryz.prog F_q163 T_q163 := ⟨Tryz.f163, [], Tryz.func163, Tryz.ntmps163, C_q163, by kernel_rfl⟩
theorem C_q164 : cutF [] (compF Tryz.prog Tryz.f164) = some (A_q164, R_q164) := by kernel_rfl
theorem G_q164 : GoodFC Tryz.prog F_q164 T_q164 := ⟨Tryz.f164, [], Tryz.func164, Tryz.ntmps164, C_q164, by kernel_rfl⟩
theorem C_q168 : cutF [2, 3, 3] (compF Tryz.prog Tryz.f168) = some (A_q168, R_q168) := by kernel_rfl
theorem G_q168 : GoodFC Tryz.prog F_q168 T_q168 := ⟨Tryz.f168, [2, 3, 3], Tryz.func168, Tryz.ntmps168, C_q168, by kernel_rfl⟩
theorem C_q169 : cutF [] (compF Tryz.prog Tryz.f169) = some (A_q169, R_q169) := by kernel_rfl
theorem G_q169 : GoodFC Tryz.prog F_q169 T_q169 := ⟨Tryz.f169, [], Tryz.func169, Tryz.ntmps169, C_q169, by kernel_rfl⟩
theorem C_q170 : cutF [2] (compF Tryz.prog Tryz.f170) = some (A_q170, R_q170) := by kernel_rfl
theorem G_q170 : GoodFC Tryz.prog F_q170 T_q170 := ⟨Tryz.f170, [2], Tryz.func170, Tryz.ntmps170, C_q170, by kernel_rfl⟩
theorem C_q171 : cutF [0, 0] (compF Tryz.prog Tryz.f171) = some (A_q171, R_q171) := by kernel_rfl
theorem G_q171 : GoodFC Tryz.prog F_q171 T_q171 := ⟨Tryz.f171, [0, 0], Tryz.func171, Tryz.ntmps171, C_q171, by kernel_rfl⟩
theorem C_q172 : cutF [] (compF Tryz.prog Tryz.f172) = some (A_q172, R_q172) := by kernel_rfl
theorem G_q172 : GoodFC Tryz.prog F_q172 T_q172 := ⟨Tryz.f172, [], Tryz.func172, Tryz.ntmps172, C_q172, by kernel_rfl⟩
theorem C_q176 : cutF [0, 2] (compF Tryz.prog Tryz.f176) = some (A_q176, R_q176) := by kernel_rfl
theorem G_q176 : GoodFC Tryz.prog F_q176 T_q176 := ⟨Tryz.f176, [0, 2], Tryz.func176, Tryz.ntmps176, C_q176, by kernel_rfl⟩
theorem C_q177 : cutF [] (compF Tryz.prog Tryz.f177) = some (A_q177, R_q177) := by kernel_rfl
theorem G_q177 : GoodFC Tryz.prog F_q177 T_q177 := ⟨Tryz.f177, [], Tryz.func177, Tryz.ntmps177, C_q177, by kernel_rfl⟩
theorem C_q187 : cutF [] (compF Tryz.prog Tryz.f187) = some (A_q187, R_q187) := by kernel_rfl
theorem G_q187 : GoodFC Tryz.prog F_q187 T_q187 := ⟨Tryz.f187, [], Tryz.func187, Tryz.ntmps187, C_q187, by kernel_rfl⟩
theorem C_q189 : cutF [0, 2, 2] (compF Tryz.prog Tryz.f189) = some (A_q189, R_q189) := by kernel_rfl
theorem G_q189 : GoodFC Tryz.prog F_q189 T_q189 := ⟨Tryz.f189, [0, 2, 2], Tryz.func189, Tryz.ntmps189, C_q189, by kernel_rfl⟩
theorem C_q190 : cutF [2, 3] (compF Tryz.prog Tryz.f190) = some (A_q190, R_q190) := by kernel_rfl
theorem G_q190 : GoodFC Tryz.prog F_q190 T_q190 := ⟨Tryz.f190, [2, 3], Tryz.func190, Tryz.ntmps190, C_q190, by kernel_rfl⟩
theorem C_q199 : cutF [2, 1, 3, 3, 3, 3] (compF Tryz.prog Tryz.f199) = some (A_q199, R_q199) := by kernel_rfl
theorem G_q199 : GoodFC Tryz.prog F_q199 T_q199 := ⟨Tryz.f199, [2, 1, 3, 3, 3, 3], Tryz.func199, Tryz.ntmps199, C_q199, by kernel_rfl⟩
theorem C_q201 : cutF [] (compF Tryz.prog Tryz.f201) = some (A_q201, R_q201) := by kernel_rfl
theorem G_q201 : GoodFC Tryz.prog F_q201 T_q201 := ⟨Tryz.f201, [], Tryz.func201, Tryz.ntmps201, C_q201, by kernel_rfl⟩
theorem C_q202 : cutF [] (compF Tryz.prog Tryz.f202) = some (A_q202, R_q202) := by kernel_rfl
theorem G_q202 : GoodFC Tryz.prog F_q202 T_q202 := ⟨Tryz.f202, [], Tryz.func202, Tryz.ntmps202, C_q202, by kernel_rfl⟩
theorem C_q224 : cutF [0, 0] (compF Tryz.prog Tryz.f224) = some (A_q224, R_q224) := by kernel_rfl
theorem G_q224 : GoodFC Tryz.prog F_q224 T_q224 := ⟨Tryz.f224, [0, 0], Tryz.func224, Tryz.ntmps224, C_q224, by kernel_rfl⟩
theorem C_q225 : cutF [] (compF Tryz.prog Tryz.f225) = some (A_q225, R_q225) := by kernel_rfl
theorem G_q225 : GoodFC Tryz.prog F_q225 T_q225 := ⟨Tryz.f225, [], Tryz.func225, Tryz.ntmps225, C_q225, by kernel_rfl⟩
theorem C_q226 : cutF [] (compF Tryz.prog Tryz.f226) = some (A_q226, R_q226) := by kernel_rfl
theorem G_q226 : GoodFC Tryz.prog F_q226 T_q226 := ⟨Tryz.f226, [], Tryz.func226, Tryz.ntmps226, C_q226, by kernel_rfl⟩
theorem C_q227 : cutF [0, 0, 1, 0, 1] (compF Tryz.prog Tryz.f227) = some (A_q227, R_q227) := by kernel_rfl
theorem G_q227 : GoodFC Tryz.prog F_q227 T_q227 := ⟨Tryz.f227, [0, 0, 1, 0, 1], Tryz.func227, Tryz.ntmps227, C_q227, by kernel_rfl⟩
theorem C_q228 : cutF [1, 1] (compF Tryz.prog Tryz.f228) = some (A_q228, R_q228) := by kernel_rfl
theorem G_q228 : GoodFC Tryz.prog F_q228 T_q228 := ⟨Tryz.f228, [1, 1], Tryz.func228, Tryz.ntmps228, C_q228, by kernel_rfl⟩
theorem C_q229 : cutF [1, 2] (compF Tryz.prog Tryz.f229) = some (A_q229, R_q229) := by kernel_rfl
theorem G_q229 : GoodFC Tryz.prog F_q229 T_q229 := ⟨Tryz.f229, [1, 2], Tryz.func229, Tryz.ntmps229, C_q229, by kernel_rfl⟩
theorem C_q230 : cutF [] (compF Tryz.prog Tryz.f230) = some (A_q230, R_q230) := by kernel_rfl
theorem G_q230 : GoodFC Tryz.prog F_q230 T_q230 := ⟨Tryz.f230, [], Tryz.func230, Tryz.ntmps230, C_q230, by kernel_rfl⟩
theorem C_q231 : cutF [1, 2] (compF Tryz.prog Tryz.f231) = some (A_q231, R_q231) := by kernel_rfl
theorem G_q231 : GoodFC Tryz.prog F_q231 T_q231 := ⟨Tryz.f231, [1, 2], Tryz.func231, Tryz.ntmps231, C_q231, by kernel_rfl⟩
theorem C_q232 : cutF [] (compF Tryz.prog Tryz.f232) = some (A_q232, R_q232) := by kernel_rfl
theorem G_q232 : GoodFC Tryz.prog F_q232 T_q232 := ⟨Tryz.f232, [], Tryz.func232, Tryz.ntmps232, C_q232, by kernel_rfl⟩
theorem C_q233 : cutF [] (compF Tryz.prog Tryz.f233) = some (A_q233, R_q233) := by kernel_rfl
theorem G_q233 : GoodFC Tryz.prog F_q233 T_q233 := ⟨Tryz.f233, [], Tryz.func233, Tryz.ntmps233, C_q233, by kernel_rfl⟩
theorem C_q234 : cutF [2, 2, 2, 1] (compF Tryz.prog Tryz.f234) = some (A_q234, R_q234) := by kernel_rfl
theorem G_q234 : GoodFC Tryz.prog F_q234 T_q234 := ⟨Tryz.f234, [2, 2, 2, 1], Tryz.func234, Tryz.ntmps234, C_q234, by kernel_rfl⟩
theorem C_q243 : cutF [1, 0] (compF Tryz.prog Tryz.f243) = some (A_q243, R_q243) := by kernel_rfl
theorem G_q243 : GoodFC Tryz.prog F_q243 T_q243 := ⟨Tryz.f243, [1, 0], Tryz.func243, Tryz.ntmps243, C_q243, by kernel_rfl⟩
theorem C_q244 : cutF [] (compF Tryz.prog Tryz.f244) = some (A_q244, R_q244) := by kernel_rfl
theorem G_q244 : GoodFC Tryz.prog F_q244 T_q244 := ⟨Tryz.f244, [], Tryz.func244, Tryz.ntmps244, C_q244, by kernel_rfl⟩
theorem C_q245 : cutF [2, 2, 3, 3] (compF Tryz.prog Tryz.f245) = some (A_q245, R_q245) := by kernel_rfl
theorem G_q245 : GoodFC Tryz.prog F_q245 T_q245 := ⟨Tryz.f245, [2, 2, 3, 3], Tryz.func245, Tryz.ntmps245, C_q245, by kernel_rfl⟩
theorem C_q253 : cutF [0, 2] (compF Tryz.prog Tryz.f253) = some (A_q253, R_q253) := by kernel_rfl
theorem G_q253 : GoodFC Tryz.prog F_q253 T_q253 := ⟨Tryz.f253, [0, 2], Tryz.func253, Tryz.ntmps253, C_q253, by kernel_rfl⟩
end Go.Proofs.YtcpjeocepolecaaGreatDoor
