/- Contracts of functions of the given program, in the logic L: texts put together; no conditions. -/
import Derived.Test.YtibdeeejjbmgcaaGreatDoorZ4
import Derived.Test.YtibdeeejjbmgcaaGreatDoorProg
import Derived.KernelRfl
/- Each code is what the logic makes of the given program (by the kernel). Printed by program (gen_all.py). -/
namespace Go.Proofs.YtibdeeejjbmgcaaGreatDoor
open Go.L
theorem C_lexiconlaw16_known : cutF [] (compF Tryz.prog Tryz.f6) = some (A_lexiconlaw16_known, R_lexiconlaw16_known) := by kernel_rfl
theorem G_lexiconlaw16_known : GoodFC Tryz.prog F_lexiconlaw16_known T_lexiconlaw16_known := ⟨Tryz.f6, [], Tryz.func6, Tryz.ntmps6, C_lexiconlaw16_known, by kernel_rfl⟩
theorem C_q8 : cutF [0] (compF Tryz.prog Tryz.f8) = some (A_q8, R_q8) := by kernel_rfl
theorem G_q8 : GoodFC Tryz.prog F_q8 T_q8 := ⟨Tryz.f8, [0], Tryz.func8, Tryz.ntmps8, C_q8, by kernel_rfl⟩
theorem C_q9 : cutF [] (compF Tryz.prog Tryz.f9) = some (A_q9, R_q9) := by kernel_rfl
theorem G_q9 : GoodFC Tryz.prog F_q9 T_q9 := ⟨Tryz.f9, [], Tryz.func9, Tryz.ntmps9, C_q9, by kernel_rfl⟩
theorem C_q10 : cutF [0, 0, 0, 2] (compF Tryz.prog Tryz.f10) = some (A_q10, R_q10) := by kernel_rfl
theorem G_q10 : GoodFC Tryz.prog F_q10 T_q10 := ⟨Tryz.f10, [0, 0, 0, 2], Tryz.func10, Tryz.ntmps10, C_q10, by kernel_rfl⟩
theorem C_q11 : cutF [] (compF Tryz.prog Tryz.f11) = some (A_q11, R_q11) := by kernel_rfl
theorem G_q11 : GoodFC Tryz.prog F_q11 T_q11 := ⟨Tryz.f11, [], Tryz.func11, Tryz.ntmps11, C_q11, by kernel_rfl⟩
theorem C_q21 : cutF [2, 0] (compF Tryz.prog Tryz.f21) = some (A_q21, R_q21) := by kernel_rfl
theorem G_q21 : GoodFC Tryz.prog F_q21 T_q21 := ⟨Tryz.f21, [2, 0], Tryz.func21, Tryz.ntmps21, C_q21, by kernel_rfl⟩
theorem C_q25 : cutF [2] (compF Tryz.prog Tryz.f25) = some (A_q25, R_q25) := by kernel_rfl
theorem G_q25 : GoodFC Tryz.prog F_q25 T_q25 := ⟨Tryz.f25, [2], Tryz.func25, Tryz.ntmps25, C_q25, by kernel_rfl⟩
theorem C_q26 : cutF [] (compF Tryz.prog Tryz.f26) = some (A_q26, R_q26) := by kernel_rfl
theorem G_q26 : GoodFC Tryz.prog F_q26 T_q26 := ⟨Tryz.f26, [], Tryz.func26, Tryz.ntmps26, C_q26, by kernel_rfl⟩
theorem C_q27 : cutF [0, 0, 2] (compF Tryz.prog Tryz.f27) = some (A_q27, R_q27) := by kernel_rfl
theorem G_q27 : GoodFC Tryz.prog F_q27 T_q27 := ⟨Tryz.f27, [0, 0, 2], Tryz.func27, Tryz.ntmps27, C_q27, by kernel_rfl⟩
theorem C_q28 : cutF [] (compF Tryz.prog Tryz.f28) = some (A_q28, R_q28) := by kernel_rfl
theorem G_q28 : GoodFC Tryz.prog F_q28 T_q28 := ⟨Tryz.f28, [], Tryz.func28, Tryz.ntmps28, C_q28, by kernel_rfl⟩
theorem C_q29 : cutF [0, 2, 3] (compF Tryz.prog Tryz.f29) = some (A_q29, R_q29) := by kernel_rfl
theorem G_q29 : GoodFC Tryz.prog F_q29 T_q29 := ⟨Tryz.f29, [0, 2, 3], Tryz.func29, Tryz.ntmps29, C_q29, by kernel_rfl⟩
theorem C_q30 : cutF [0, 0] (compF Tryz.prog Tryz.f30) = some (A_q30, R_q30) := by kernel_rfl
theorem G_q30 : GoodFC Tryz.prog F_q30 T_q30 := ⟨Tryz.f30, [0, 0], Tryz.func30, Tryz.ntmps30, C_q30, by kernel_rfl⟩
theorem C_q31 : cutF [0, 2, 0] (compF Tryz.prog Tryz.f31) = some (A_q31, R_q31) := by kernel_rfl
theorem G_q31 : GoodFC Tryz.prog F_q31 T_q31 := ⟨Tryz.f31, [0, 2, 0], Tryz.func31, Tryz.ntmps31, C_q31, by kernel_rfl⟩
theorem C_q32 : cutF [] (compF Tryz.prog Tryz.f32) = some (A_q32, R_q32) := by kernel_rfl
theorem G_q32 : GoodFC Tryz.prog F_q32 T_q32 := ⟨Tryz.f32, [], Tryz.func32, Tryz.ntmps32, C_q32, by kernel_rfl⟩
theorem C_q33 : cutF [] (compF Tryz.prog Tryz.f33) = some (A_q33, R_q33) := by kernel_rfl
theorem G_q33 : GoodFC Tryz.prog F_q33 T_q33 := ⟨Tryz.f33, [], Tryz.func33, Tryz.ntmps33, C_q33, by kernel_rfl⟩
theorem C_q34 : cutF [] (compF Tryz.prog Tryz.f34) = some (A_q34, R_q34) := by kernel_rfl
theorem G_q34 : GoodFC Tryz.prog F_q34 T_q34 := ⟨Tryz.f34, [], Tryz.func34, Tryz.ntmps34, C_q34, by kernel_rfl⟩
theorem C_q36 : cutF [2, 3, 2, 3, 2, 3, 3, 3, 3] (compF Tryz.prog Tryz.f36) = some (A_q36, R_q36) := by kernel_rfl
theorem G_q36 : GoodFC Tryz.prog F_q36 T_q36 := ⟨Tryz.f36, [2, 3, 2, 3, 2, 3, 3, 3, 3], Tryz.func36, Tryz.ntmps36, C_q36, by kernel_rfl⟩
theorem C_q38 : cutF [2, 3, 2, 3, 2, 3, 3, 3, 3] (compF Tryz.prog Tryz.f38) = some (A_q38, R_q38) := by kernel_rfl
theorem G_q38 : GoodFC Tryz.prog F_q38 T_q38 := ⟨Tryz.f38, [2, 3, 2, 3, 2, 3, 3, 3, 3], Tryz.func38, Tryz.ntmps38, C_q38, by kernel_rfl⟩
theorem C_q39 : cutF [2, 3, 2, 3, 2, 3, 3, 3, 3] (compF Tryz.prog Tryz.f39) = some (A_q39, R_q39) := by kernel_rfl
theorem G_q39 : GoodFC Tryz.prog F_q39 T_q39 := ⟨Tryz.f39, [2, 3, 2, 3, 2, 3, 3, 3, 3], Tryz.func39, Tryz.ntmps39, C_q39, by kernel_rfl⟩
theorem C_q40 : cutF [2, 3, 1, 2, 3, 2, 3, 1, 3, 3, 1, 3] (compF Tryz.prog Tryz.f40) = some (A_q40, R_q40) := by kernel_rfl
theorem G_q40 : GoodFC Tryz.prog F_q40 T_q40 := ⟨Tryz.f40, [2, 3, 1, 2, 3, 2, 3, 1, 3, 3, 1, 3], Tryz.func40, Tryz.ntmps40, C_q40, by kernel_rfl⟩
theorem C_q41 : cutF [2, 3, 1, 2, 3, 2, 3, 1, 3, 3, 1, 3] (compF Tryz.prog Tryz.f41) = some (A_q41, R_q41) := by kernel_rfl
theorem G_q41 : GoodFC Tryz.prog F_q41 T_q41 := ⟨Tryz.f41, [2, 3, 1, 2, 3, 2, 3, 1, 3, 3, 1, 3], Tryz.func41, Tryz.ntmps41, C_q41, by kernel_rfl⟩
theorem C_q42 : cutF [2, 3, 1, 2, 3, 2, 3, 1, 3, 3, 1, 3] (compF Tryz.prog Tryz.f42) = some (A_q42, R_q42) := by kernel_rfl
theorem G_q42 : GoodFC Tryz.prog F_q42 T_q42 := ⟨Tryz.f42, [2, 3, 1, 2, 3, 2, 3, 1, 3, 3, 1, 3], Tryz.func42, Tryz.ntmps42, C_q42, by kernel_rfl⟩
theorem C_q43 : cutF [2, 3, 1, 2, 3, 2, 3, 1, 3, 3, 1, 3] (compF Tryz.prog Tryz.f43) = some (A_q43, R_q43) := by kernel_rfl
theorem G_q43 : GoodFC Tryz.prog F_q43 T_q43 := ⟨Tryz.f43, [2, 3, 1, 2, 3, 2, 3, 1, 3, 3, 1, 3], Tryz.func43, Tryz.ntmps43, C_q43, by kernel_rfl⟩
theorem C_q44 : cutF [2, 3, 1, 2, 3, 2, 3, 1, 3, 3, 1, 3] (compF Tryz.prog Tryz.f44) = some (A_q44, R_q44) := by kernel_rfl
theorem G_q44 : GoodFC Tryz.prog F_q44 T_q44 := ⟨Tryz.f44, [2, 3, 1, 2, 3, 2, 3, 1, 3, 3, 1, 3], Tryz.func44, Tryz.ntmps44, C_q44, by kernel_rfl⟩
theorem C_q45 : cutF [2, 3, 1, 2, 3, 2, 3, 1, 3, 3, 1, 3] (compF Tryz.prog Tryz.f45) = some (A_q45, R_q45) := by kernel_rfl
theorem G_q45 : GoodFC Tryz.prog F_q45 T_q45 := ⟨Tryz.f45, [2, 3, 1, 2, 3, 2, 3, 1, 3, 3, 1, 3], Tryz.func45, Tryz.ntmps45, C_q45, by kernel_rfl⟩
theorem C_q46 : cutF [2, 3, 1, 2, 3, 2, 3, 1, 3, 3, 1, 3] (compF Tryz.prog Tryz.f46) = some (A_q46, R_q46) := by kernel_rfl
theorem G_q46 : GoodFC Tryz.prog F_q46 T_q46 := ⟨Tryz.f46, [2, 3, 1, 2, 3, 2, 3, 1, 3, 3, 1, 3], Tryz.func46, Tryz.ntmps46, C_q46, by kernel_rfl⟩
theorem C_q47 : cutF [2, 3, 1, 2, 3, 2, 3, 1, 3, 3, 1, 3] (compF Tryz.prog Tryz.f47) = some (A_q47, R_q47) := by kernel_rfl
theorem G_q47 : GoodFC Tryz.prog F_q47 T_q47 := ⟨Tryz.f47, [2, 3, 1, 2, 3, 2, 3, 1, 3, 3, 1, 3], Tryz.func47, Tryz.ntmps47, C_q47, by kernel_rfl⟩
theorem C_q48 : cutF [2, 3, 2, 3, 2, 3, 3, 3, 3] (compF Tryz.prog Tryz.f48) = some (A_q48, R_q48) := by kernel_rfl
theorem G_q48 : GoodFC Tryz.prog F_q48 T_q48 := ⟨Tryz.f48, [2, 3, 2, 3, 2, 3, 3, 3, 3], Tryz.func48, Tryz.ntmps48, C_q48, by kernel_rfl⟩
theorem C_q49 : cutF [2, 3, 2, 3, 2, 3, 3, 3, 3] (compF Tryz.prog Tryz.f49) = some (A_q49, R_q49) := by kernel_rfl
theorem G_q49 : GoodFC Tryz.prog F_q49 T_q49 := ⟨Tryz.f49, [2, 3, 2, 3, 2, 3, 3, 3, 3], Tryz.func49, Tryz.ntmps49, C_q49, by kernel_rfl⟩
theorem C_q50 : cutF [2, 3, 1, 2, 3, 2, 3, 1, 3, 3, 1, 3] (compF Tryz.prog Tryz.f50) = some (A_q50, R_q50) := by kernel_rfl
theorem G_q50 : GoodFC Tryz.prog F_q50 T_q50 := ⟨Tryz.f50, [2, 3, 1, 2, 3, 2, 3, 1, 3, 3, 1, 3], Tryz.func50, Tryz.ntmps50, C_q50, by kernel_rfl⟩
theorem C_q51 : cutF [2, 3, 1, 2, 3, 2, 3, 1, 3, 3, 1, 3] (compF Tryz.prog Tryz.f51) = some (A_q51, R_q51) := by kernel_rfl
theorem G_q51 : GoodFC Tryz.prog F_q51 T_q51 := ⟨Tryz.f51, [2, 3, 1, 2, 3, 2, 3, 1, 3, 3, 1, 3], Tryz.func51, Tryz.ntmps51, C_q51, by kernel_rfl⟩
theorem C_q52 : cutF [2, 3, 1, 2, 3, 2, 3, 1, 3, 3, 1, 3] (compF Tryz.prog Tryz.f52) = some (A_q52, R_q52) := by kernel_rfl
theorem G_q52 : GoodFC Tryz.prog F_q52 T_q52 := ⟨Tryz.f52, [2, 3, 1, 2, 3, 2, 3, 1, 3, 3, 1, 3], Tryz.func52, Tryz.ntmps52, C_q52, by kernel_rfl⟩
theorem C_q53 : cutF [2, 3, 1, 2, 3, 2, 3, 1, 3, 3, 1, 3] (compF Tryz.prog Tryz.f53) = some (A_q53, R_q53) := by kernel_rfl
theorem G_q53 : GoodFC Tryz.prog F_q53 T_q53 := ⟨Tryz.f53, [2, 3, 1, 2, 3, 2, 3, 1, 3, 3, 1, 3], Tryz.func53, Tryz.ntmps53, C_q53, by kernel_rfl⟩
theorem C_q54 : cutF [2, 3, 2, 3, 2, 3, 3, 3, 3] (compF Tryz.prog Tryz.f54) = some (A_q54, R_q54) := by kernel_rfl
theorem G_q54 : GoodFC Tryz.prog F_q54 T_q54 := ⟨Tryz.f54, [2, 3, 2, 3, 2, 3, 3, 3, 3], Tryz.func54, Tryz.ntmps54, C_q54, by kernel_rfl⟩
theorem C_q55 : cutF [2, 3, 1, 2, 3, 2, 3, 1, 3, 3, 1, 3] (compF Tryz.prog Tryz.f55) = some (A_q55, R_q55) := by kernel_rfl
theorem G_q55 : GoodFC Tryz.prog F_q55 T_q55 := ⟨Tryz.f55, [2, 3, 1, 2, 3, 2, 3, 1, 3, 3, 1, 3], Tryz.func55, Tryz.ntmps55, C_q55, by kernel_rfl⟩
theorem C_q56 : cutF [2, 3, 1, 2, 3, 2, 3, 1, 3, 3, 1, 3] (compF Tryz.prog Tryz.f56) = some (A_q56, R_q56) := by kernel_rfl
theorem G_q56 : GoodFC Tryz.prog F_q56 T_q56 := ⟨Tryz.f56, [2, 3, 1, 2, 3, 2, 3, 1, 3, 3, 1, 3], Tryz.func56, Tryz.ntmps56, C_q56, by kernel_rfl⟩
theorem C_q57 : cutF [2, 3, 1, 2, 3, 2, 3, 1, 3, 3, 1, 3] (compF Tryz.prog Tryz.f57) = some (A_q57, R_q57) := by kernel_rfl
theorem G_q57 : GoodFC Tryz.prog F_q57 T_q57 := ⟨Tryz.f57, [2, 3, 1, 2, 3, 2, 3, 1, 3, 3, 1, 3], Tryz.func57, Tryz.ntmps57, C_q57, by kernel_rfl⟩
theorem C_q58 : cutF [2, 3, 2, 3, 2, 3, 3, 3, 3] (compF Tryz.prog Tryz.f58) = some (A_q58, R_q58) := by kernel_rfl
theorem G_q58 : GoodFC Tryz.prog F_q58 T_q58 := ⟨Tryz.f58, [2, 3, 2, 3, 2, 3, 3, 3, 3], Tryz.func58, Tryz.ntmps58, C_q58, by kernel_rfl⟩
theorem C_q59 : cutF [] (compF Tryz.prog Tryz.f59) = some (A_q59, R_q59) := by kernel_rfl
theorem G_q59 : GoodFC Tryz.prog F_q59 T_q59 := ⟨Tryz.f59, [], Tryz.func59, Tryz.ntmps59, C_q59, by kernel_rfl⟩
theorem C_q60 : cutF [] (compF Tryz.prog Tryz.f60) = some (A_q60, R_q60) := by kernel_rfl
theorem G_q60 : GoodFC Tryz.prog F_q60 T_q60 := ⟨Tryz.f60, [], Tryz.func60, Tryz.ntmps60, C_q60, by kernel_rfl⟩
theorem C_q61 : cutF [0, 0] (compF Tryz.prog Tryz.f61) = some (A_q61, R_q61) := by kernel_rfl
theorem G_q61 : GoodFC Tryz.prog F_q61 T_q61 := ⟨Tryz.f61, [0, 0], Tryz.func61, Tryz.ntmps61, C_q61, by kernel_rfl⟩
theorem C_q65 : cutF [1, 3, 3, 3, 3, 3, 3] (compF Tryz.prog Tryz.f65) = some (A_q65, R_q65) := by kernel_rfl
theorem G_q65 : GoodFC Tryz.prog F_q65 T_q65 := ⟨Tryz.f65, [1, 3, 3, 3, 3, 3, 3], Tryz.func65, Tryz.ntmps65, C_q65, by kernel_rfl⟩
theorem C_q66 : cutF [2] (compF Tryz.prog Tryz.f66) = some (A_q66, R_q66) := by kernel_rfl
theorem G_q66 : GoodFC Tryz.prog F_q66 T_q66 := ⟨Tryz.f66, [2], Tryz.func66, Tryz.ntmps66, C_q66, by kernel_rfl⟩
theorem C_q67 : cutF [0, 0] (compF Tryz.prog Tryz.f67) = some (A_q67, R_q67) := by kernel_rfl
theorem G_q67 : GoodFC Tryz.prog F_q67 T_q67 := ⟨Tryz.f67, [0, 0], Tryz.func67, Tryz.ntmps67, C_q67, by kernel_rfl⟩
theorem C_q68 : cutF [2, 1] (compF Tryz.prog Tryz.f68) = some (A_q68, R_q68) := by kernel_rfl
theorem G_q68 : GoodFC Tryz.prog F_q68 T_q68 := ⟨Tryz.f68, [2, 1], Tryz.func68, Tryz.ntmps68, C_q68, by kernel_rfl⟩
theorem C_q69 : cutF [] (compF Tryz.prog Tryz.f69) = some (A_q69, R_q69) := by kernel_rfl
theorem G_q69 : GoodFC Tryz.prog F_q69 T_q69 := ⟨Tryz.f69, [], Tryz.func69, Tryz.ntmps69, C_q69, by kernel_rfl⟩
theorem C_q71 : cutF [2, 2, 1, 0, 2] (compF Tryz.prog Tryz.f71) = some (A_q71, R_q71) := by kernel_rfl
theorem G_q71 : GoodFC Tryz.prog F_q71 T_q71 := ⟨Tryz.f71, [2, 2, 1, 0, 2], Tryz.func71, Tryz.ntmps71, C_q71, by kernel_rfl⟩
theorem C_q72 : cutF [0, 0, 2] (compF Tryz.prog Tryz.f72) = some (A_q72, R_q72) := by kernel_rfl
theorem G_q72 : GoodFC Tryz.prog F_q72 T_q72 := ⟨Tryz.f72, [0, 0, 2], Tryz.func72, Tryz.ntmps72, C_q72, by kernel_rfl⟩
theorem C_q77 : cutF [0, 0] (compF Tryz.prog Tryz.f77) = some (A_q77, R_q77) := by kernel_rfl
theorem G_q77 : GoodFC Tryz.prog F_q77 T_q77 := ⟨Tryz.f77, [0, 0], Tryz.func77, Tryz.ntmps77, C_q77, by kernel_rfl⟩
theorem C_q83 : cutF [] (compF Tryz.prog Tryz.f83) = some (A_q83, R_q83) := by kernel_rfl
theorem G_q83 : GoodFC Tryz.prog F_q83 T_q83 := ⟨Tryz.f83, [], Tryz.func83, Tryz.ntmps83, C_q83, by kernel_rfl⟩
theorem C_q87 : cutF [2, 2, 2] (compF Tryz.prog Tryz.f87) = some (A_q87, R_q87) := by kernel_rfl
theorem G_q87 : GoodFC Tryz.prog F_q87 T_q87 := ⟨Tryz.f87, [2, 2, 2], Tryz.func87, Tryz.ntmps87, C_q87, by kernel_rfl⟩
theorem C_q88 : cutF [0] (compF Tryz.prog Tryz.f88) = some (A_q88, R_q88) := by kernel_rfl
theorem G_q88 : GoodFC Tryz.prog F_q88 T_q88 := ⟨Tryz.f88, [0], Tryz.func88, Tryz.ntmps88, C_q88, by kernel_rfl⟩
theorem C_q90 : cutF [2, 1, 3] (compF Tryz.prog Tryz.f90) = some (A_q90, R_q90) := by kernel_rfl
theorem G_q90 : GoodFC Tryz.prog F_q90 T_q90 := ⟨Tryz.f90, [2, 1, 3], Tryz.func90, Tryz.ntmps90, C_q90, by kernel_rfl⟩
theorem C_q91 : cutF [] (compF Tryz.prog Tryz.f91) = some (A_q91, R_q91) := by kernel_rfl
theorem G_q91 : GoodFC Tryz.prog F_q91 T_q91 := ⟨Tryz.f91, [], Tryz.func91, Tryz.ntmps91, C_q91, by kernel_rfl⟩
theorem C_q92 : cutF [] (compF Tryz.prog Tryz.f92) = some (A_q92, R_q92) := by kernel_rfl
theorem G_q92 : GoodFC Tryz.prog F_q92 T_q92 := ⟨Tryz.f92, [], Tryz.func92, Tryz.ntmps92, C_q92, by kernel_rfl⟩
theorem C_q93 : cutF [] (compF Tryz.prog Tryz.f93) = some (A_q93, R_q93) := by kernel_rfl
theorem G_q93 : GoodFC Tryz.prog F_q93 T_q93 := ⟨Tryz.f93, [], Tryz.func93, Tryz.ntmps93, C_q93, by kernel_rfl⟩
theorem C_q104 : cutF [] (compF Tryz.prog Tryz.f104) = some (A_q104, R_q104) := by kernel_rfl
theorem G_q104 : GoodFC Tryz.prog F_q104 T_q104 := ⟨Tryz.f104, [], Tryz.func104, Tryz.ntmps104, C_q104, by kernel_rfl⟩
theorem C_q105 : cutF [] (compF Tryz.prog Tryz.f105) = some (A_q105, R_q105) := by kernel_rfl
theorem G_q105 : GoodFC Tryz.prog F_q105 T_q105 := ⟨Tryz.f105, [], Tryz.func105, Tryz.ntmps105, C_q105, by kernel_rfl⟩
theorem C_q109 : cutF [2, 1, 3, 3, 3, 3] (compF Tryz.prog Tryz.f109) = some (A_q109, R_q109) := by kernel_rfl
theorem G_q109 : GoodFC Tryz.prog F_q109 T_q109 := ⟨Tryz.f109, [2, 1, 3, 3, 3, 3], Tryz.func109, Tryz.ntmps109, C_q109, by kernel_rfl⟩
theorem C_q117 : cutF [] (compF Tryz.prog Tryz.f117) = some (A_q117, R_q117) := by kernel_rfl
theorem G_q117 : GoodFC Tryz.prog F_q117 T_q117 := ⟨Tryz.f117, [], Tryz.func117, Tryz.ntmps117, C_q117, by kernel_rfl⟩
end Go.Proofs.YtibdeeejjbmgcaaGreatDoor
