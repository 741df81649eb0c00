/- The codes of functions as the logic has them; each is what the logic makes of the given program (by the kernel). Printed by program (gen_all.py). -/
import Derived.Test.YtibdeeejjbmgcaaDoorEc
import Derived.Test.YtibdeeejjbmgcaaDoorProg
import Derived.KernelRfl
namespace Go.Proofs.YtibdeeejjbmgcaaDoor
open Go.L

-- gosem.cut.init
abbrev F_gosem_cut_init : Nat := 2
def A_gosem_cut_init : ACode := (.ops [⟨some 0, .bad, none⟩])
def R_gosem_cut_init : List ARes := []
theorem C_gosem_cut_init : compF Tryd.prog Tryd.f2 = some (A_gosem_cut_init, R_gosem_cut_init) := by kernel_rfl
theorem K_gosem_cut_init {args : List AV} {h : Hp} {Q : Res → Hp → Prop} (hl : LCode Tryd.prog A_gosem_cut_init (EndQ R_gosem_cut_init Q) (env0 1 args) h) (hn : args.length ≤ 1 := by (simp; done)) : CallL Tryd.prog F_gosem_cut_init args h Q :=
  CallL.of Tryd.func2 C_gosem_cut_init (by rw [Tryd.ntmps2]; exact hn) (by rw [Tryd.ntmps2]; exact hl)
def T_gosem_cut_init : FC := ⟨1, A_gosem_cut_init, R_gosem_cut_init⟩
theorem G_gosem_cut_init : GoodFC Tryd.prog F_gosem_cut_init T_gosem_cut_init := ⟨Tryd.f2, Tryd.func2, Tryd.ntmps2, C_gosem_cut_init, by kernel_rfl⟩

-- lexicon/lexiconlaw16.MaskNames
abbrev F_lexiconlaw16_MaskNames : Nat := 3
def A_lexiconlaw16_MaskNames_0 : List AOper := [⟨some 1, .mov (.c (.bool true)), none⟩,
    ⟨some 2, .call 5 [], some (1, true)⟩,
    ⟨some 3, .pick (.t 1) (.t 2) (.c (.bool false)), none⟩,
    ⟨some 0, .mov (.t 3), none⟩]
def A_lexiconlaw16_MaskNames : ACode := (.seq (.ops [⟨some 0, .mov (.c (.bool false)), none⟩]) (.seq (.ops A_lexiconlaw16_MaskNames_0) .ret))
def R_lexiconlaw16_MaskNames : List ARes := [.tmp 0]
theorem C_lexiconlaw16_MaskNames : compF Tryd.prog Tryd.f3 = some (A_lexiconlaw16_MaskNames, R_lexiconlaw16_MaskNames) := by kernel_rfl
theorem K_lexiconlaw16_MaskNames {args : List AV} {h : Hp} {Q : Res → Hp → Prop} (hl : LCode Tryd.prog A_lexiconlaw16_MaskNames (EndQ R_lexiconlaw16_MaskNames Q) (env0 4 args) h) (hn : args.length ≤ 4 := by (simp; done)) : CallL Tryd.prog F_lexiconlaw16_MaskNames args h Q :=
  CallL.of Tryd.func3 C_lexiconlaw16_MaskNames (by rw [Tryd.ntmps3]; exact hn) (by rw [Tryd.ntmps3]; exact hl)
def T_lexiconlaw16_MaskNames : FC := ⟨4, A_lexiconlaw16_MaskNames, R_lexiconlaw16_MaskNames⟩
theorem G_lexiconlaw16_MaskNames : GoodFC Tryd.prog F_lexiconlaw16_MaskNames T_lexiconlaw16_MaskNames := ⟨Tryd.f3, Tryd.func3, Tryd.ntmps3, C_lexiconlaw16_MaskNames, by kernel_rfl⟩

-- lexicon/lexiconlaw16.MaskCovers
abbrev F_lexiconlaw16_MaskCovers : Nat := 4
def A_lexiconlaw16_MaskCovers_0 : List AOper := [⟨some 17, .mov (.t 0), none⟩,
    ⟨some 18, .mov (.t 1), none⟩,
    ⟨some 19, .call 6 [(.t 17), (.t 18)], none⟩,
    ⟨some 20, .mov (.t 19), none⟩,
    ⟨some 21, .mov (.t 2), some (20, false)⟩,
    ⟨some 22, .call 6 [(.t 21), (.c (.nils))], some (20, false)⟩,
    ⟨some 23, .pick (.t 20) (.c (.bool true)) (.t 22), none⟩]
def A_lexiconlaw16_MaskCovers_1 : List AOper := [⟨some 24, .call 5 [], none⟩,
    ⟨some 7, .mov (.t 24), none⟩]
def A_lexiconlaw16_MaskCovers_2 : List AOper := [⟨some 25, .mov (.t 0), none⟩,
    ⟨some 26, .mov (.t 1), none⟩,
    ⟨some 27, .call 7 [(.t 25), (.t 26)], none⟩,
    ⟨some 8, .mov (.t 27), none⟩]
def A_lexiconlaw16_MaskCovers_3 : List AOper := [⟨some 28, .mov (.t 0), none⟩,
    ⟨some 29, .mov (.t 1), none⟩,
    ⟨some 30, .call 8 [(.t 28), (.t 29)], none⟩,
    ⟨some 9, .mov (.t 30), none⟩]
def A_lexiconlaw16_MaskCovers_4 : List AOper := [⟨some 31, .mov (.t 0), none⟩,
    ⟨some 32, .call 9 [(.t 31)], none⟩,
    ⟨some 10, .mov (.t 32), none⟩]
def A_lexiconlaw16_MaskCovers_5 : List AOper := [⟨some 33, .mov (.t 11), none⟩,
    ⟨some 34, .mov (.t 2), none⟩,
    ⟨some 35, .app 9 1 16 (.t 33) (.t 34), none⟩,
    ⟨some 11, .mov (.t 35), none⟩]
def A_lexiconlaw16_MaskCovers_6 : List AOper := [⟨some 36, .mov (.t 11), none⟩,
    ⟨some 37, .mov (.t 0), none⟩,
    ⟨some 38, .app 9 1 16 (.t 36) (.t 37), none⟩,
    ⟨some 11, .mov (.t 38), none⟩]
def A_lexiconlaw16_MaskCovers_7 : List AOper := [⟨some 39, .mov (.t 11), none⟩,
    ⟨some 40, .mov (.t 1), none⟩,
    ⟨some 41, .app 9 1 16 (.t 39) (.t 40), none⟩,
    ⟨some 11, .mov (.t 41), none⟩]
def A_lexiconlaw16_MaskCovers_8 : List AOper := [⟨some 42, .mov (.t 12), none⟩,
    ⟨some 43, .mov (.t 11), none⟩,
    ⟨some 44, .lenl (.t 43), none⟩,
    ⟨some 45, .bini .lss (.t 42) (.t 44), none⟩]
def A_lexiconlaw16_MaskCovers_9 : List AOper := [⟨some 48, .mov (.t 0), none⟩,
    ⟨some 49, .mov (.t 11), none⟩,
    ⟨some 50, .mov (.t 12), none⟩,
    ⟨some 51, .iaddr 9 1 (.t 49) (.t 50), none⟩,
    ⟨some 52, .ld1 (.t 51), none⟩,
    ⟨some 53, .call 10 [(.t 48), (.t 52)], none⟩,
    ⟨some 13, .mov (.t 53), none⟩]
def A_lexiconlaw16_MaskCovers_10 : List AOper := [⟨some 54, .mov (.t 1), none⟩,
    ⟨some 55, .mov (.t 11), none⟩,
    ⟨some 56, .mov (.t 12), none⟩,
    ⟨some 57, .iaddr 9 1 (.t 55) (.t 56), none⟩,
    ⟨some 58, .ld1 (.t 57), none⟩,
    ⟨some 59, .call 10 [(.t 54), (.t 58)], none⟩,
    ⟨some 14, .mov (.t 59), none⟩]
def A_lexiconlaw16_MaskCovers_11 : List AOper := [⟨some 60, .mov (.t 8), none⟩,
    ⟨some 61, .mov (.t 11), none⟩,
    ⟨some 62, .mov (.t 12), none⟩,
    ⟨some 63, .iaddr 9 1 (.t 61) (.t 62), none⟩,
    ⟨some 64, .ld1 (.t 63), none⟩,
    ⟨some 65, .call 10 [(.t 60), (.t 64)], none⟩,
    ⟨some 66, .mov (.t 13), none⟩,
    ⟨some 67, .mov (.t 66), none⟩,
    ⟨some 68, .mov (.t 14), some (67, false)⟩,
    ⟨some 69, .pick (.t 67) (.c (.bool true)) (.t 68), none⟩,
    ⟨some 70, .binb .neq (.t 65) (.t 69), none⟩,
    ⟨some 71, .mov (.t 70), none⟩,
    ⟨some 72, .mov (.t 9), some (71, false)⟩,
    ⟨some 73, .mov (.t 11), some (71, false)⟩,
    ⟨some 74, .mov (.t 12), some (71, false)⟩,
    ⟨some 75, .iaddr 9 1 (.t 73) (.t 74), some (71, false)⟩,
    ⟨some 76, .ld1 (.t 75), some (71, false)⟩,
    ⟨some 77, .call 10 [(.t 72), (.t 76)], some (71, false)⟩,
    ⟨some 78, .mov (.t 13), some (71, false)⟩,
    ⟨some 79, .mov (.t 78), some (71, false)⟩,
    ⟨some 80, .mov (.t 14), some (79, true)⟩,
    ⟨some 81, .pick (.t 79) (.t 80) (.c (.bool false)), some (71, false)⟩,
    ⟨some 82, .binb .neq (.t 77) (.t 81), some (71, false)⟩,
    ⟨some 83, .pick (.t 71) (.c (.bool true)) (.t 82), none⟩,
    ⟨some 84, .mov (.t 83), none⟩,
    ⟨some 85, .mov (.t 10), some (84, false)⟩,
    ⟨some 86, .mov (.t 11), some (84, false)⟩,
    ⟨some 87, .mov (.t 12), some (84, false)⟩,
    ⟨some 88, .iaddr 9 1 (.t 86) (.t 87), some (84, false)⟩,
    ⟨some 89, .ld1 (.t 88), some (84, false)⟩,
    ⟨some 90, .call 10 [(.t 85), (.t 89)], some (84, false)⟩,
    ⟨some 91, .mov (.t 13), some (84, false)⟩,
    ⟨some 92, .binb .neq (.t 90) (.t 91), some (84, false)⟩,
    ⟨some 93, .pick (.t 84) (.c (.bool true)) (.t 92), none⟩]
def A_lexiconlaw16_MaskCovers_12 : List AOper := [⟨some 46, .mov (.t 12), none⟩,
    ⟨some 47, .bini .add (.t 46) (.c (.int .i64 (1))), none⟩,
    ⟨some 12, .mov (.t 47), none⟩]
def A_lexiconlaw16_MaskCovers_13 : ACode := (.seq (.seq (.ops A_lexiconlaw16_MaskCovers_8) (.cond (.t 45) .skip (.exit 0))) (.seq (.block 1 (.seq (.ops A_lexiconlaw16_MaskCovers_9) (.seq (.ops A_lexiconlaw16_MaskCovers_10) (.seq (.ops A_lexiconlaw16_MaskCovers_11) (.cond (.t 93) (.seq (.ops [⟨some 6, .mov (.c (.bool false)), none⟩]) .ret) .skip))))) (.ops A_lexiconlaw16_MaskCovers_12)))
def A_lexiconlaw16_MaskCovers_14 : List AOper := [⟨some 94, .mov (.t 15), none⟩,
    ⟨some 95, .mov (.t 8), none⟩,
    ⟨some 96, .lenl (.t 95), none⟩,
    ⟨some 97, .bini .lss (.t 94) (.t 96), none⟩]
def A_lexiconlaw16_MaskCovers_15 : List AOper := [⟨some 100, .mov (.t 16), none⟩,
    ⟨some 101, .mov (.t 8), none⟩,
    ⟨some 102, .lenl (.t 101), none⟩,
    ⟨some 103, .bini .lss (.t 100) (.t 102), none⟩]
def A_lexiconlaw16_MaskCovers_16 : List AOper := [⟨some 106, .mov (.t 15), none⟩,
    ⟨some 107, .mov (.t 16), none⟩,
    ⟨some 108, .bini .neq (.t 106) (.t 107), none⟩,
    ⟨some 109, .mov (.t 108), none⟩,
    ⟨some 110, .mov (.t 8), some (109, true)⟩,
    ⟨some 111, .mov (.t 15), some (109, true)⟩,
    ⟨some 112, .iaddr 9 1 (.t 110) (.t 111), some (109, true)⟩,
    ⟨some 113, .ld1 (.t 112), some (109, true)⟩,
    ⟨some 115, .mov (.t 8), some (109, true)⟩,
    ⟨some 116, .mov (.t 16), some (109, true)⟩,
    ⟨some 114, .bslice 9 1 1 [.str []] [(0, 1, (.t 113))], some (109, true)⟩,
    ⟨some 117, .iaddr 9 1 (.t 115) (.t 116), some (109, true)⟩,
    ⟨some 118, .ld1 (.t 117), some (109, true)⟩,
    ⟨some 119, .call 10 [(.t 114), (.t 118)], some (109, true)⟩,
    ⟨some 120, .pick (.t 109) (.t 119) (.c (.bool false)), none⟩,
    ⟨some 121, .mov (.t 120), none⟩,
    ⟨some 122, .mov (.t 15), some (121, false)⟩,
    ⟨some 123, .mov (.t 16), some (121, false)⟩,
    ⟨some 124, .bini .lss (.t 122) (.t 123), some (121, false)⟩,
    ⟨some 125, .mov (.t 124), some (121, false)⟩,
    ⟨some 126, .mov (.t 8), some (125, true)⟩,
    ⟨some 127, .mov (.t 15), some (125, true)⟩,
    ⟨some 128, .iaddr 9 1 (.t 126) (.t 127), some (125, true)⟩,
    ⟨some 129, .ld1 (.t 128), some (125, true)⟩,
    ⟨some 130, .mov (.t 8), some (125, true)⟩,
    ⟨some 131, .mov (.t 16), some (125, true)⟩,
    ⟨some 132, .iaddr 9 1 (.t 130) (.t 131), some (125, true)⟩,
    ⟨some 133, .ld1 (.t 132), some (125, true)⟩,
    ⟨some 134, .bins .geq (.t 129) (.t 133), some (125, true)⟩,
    ⟨some 135, .pick (.t 125) (.t 134) (.c (.bool false)), some (121, false)⟩,
    ⟨some 136, .pick (.t 121) (.c (.bool true)) (.t 135), none⟩]
def A_lexiconlaw16_MaskCovers_17 : List AOper := [⟨some 106, .mov (.t 15), none⟩,
    ⟨some 107, .mov (.t 16), none⟩,
    ⟨some 108, .bini .neq (.t 106) (.t 107), none⟩,
    ⟨some 109, .mov (.t 108), none⟩,
    ⟨some 110, .mov (.t 8), some (109, true)⟩,
    ⟨some 111, .mov (.t 15), some (109, true)⟩,
    ⟨some 112, .iaddr 9 1 (.t 110) (.t 111), some (109, true)⟩,
    ⟨some 113, .ld1 (.t 112), some (109, true)⟩,
    ⟨some 115, .mov (.t 8), some (109, true)⟩,
    ⟨some 116, .mov (.t 16), some (109, true)⟩,
    ⟨some 117, .iaddr 9 1 (.t 115) (.t 116), some (109, true)⟩,
    ⟨some 114, .bslice 9 1 1 [.str []] [(0, 1, (.t 113))], some (109, true)⟩,
    ⟨some 118, .ld1 (.t 117), some (109, true)⟩,
    ⟨some 119, .call 10 [(.t 114), (.t 118)], some (109, true)⟩,
    ⟨some 120, .pick (.t 109) (.t 119) (.c (.bool false)), none⟩,
    ⟨some 121, .mov (.t 120), none⟩,
    ⟨some 122, .mov (.t 15), some (121, false)⟩,
    ⟨some 123, .mov (.t 16), some (121, false)⟩,
    ⟨some 124, .bini .lss (.t 122) (.t 123), some (121, false)⟩,
    ⟨some 125, .mov (.t 124), some (121, false)⟩,
    ⟨some 126, .mov (.t 8), some (125, true)⟩,
    ⟨some 127, .mov (.t 15), some (125, true)⟩,
    ⟨some 128, .iaddr 9 1 (.t 126) (.t 127), some (125, true)⟩,
    ⟨some 129, .ld1 (.t 128), some (125, true)⟩,
    ⟨some 130, .mov (.t 8), some (125, true)⟩,
    ⟨some 131, .mov (.t 16), some (125, true)⟩,
    ⟨some 132, .iaddr 9 1 (.t 130) (.t 131), some (125, true)⟩,
    ⟨some 133, .ld1 (.t 132), some (125, true)⟩,
    ⟨some 134, .bins .geq (.t 129) (.t 133), some (125, true)⟩,
    ⟨some 135, .pick (.t 125) (.t 134) (.c (.bool false)), some (121, false)⟩,
    ⟨some 136, .pick (.t 121) (.c (.bool true)) (.t 135), none⟩]
def A_lexiconlaw16_MaskCovers_18 : List AOper := [⟨some 106, .mov (.t 15), none⟩,
    ⟨some 107, .mov (.t 16), none⟩,
    ⟨some 108, .bini .neq (.t 106) (.t 107), none⟩,
    ⟨some 109, .mov (.t 108), none⟩,
    ⟨some 110, .mov (.t 8), some (109, true)⟩,
    ⟨some 111, .mov (.t 15), some (109, true)⟩,
    ⟨some 112, .iaddr 9 1 (.t 110) (.t 111), some (109, true)⟩,
    ⟨some 113, .ld1 (.t 112), some (109, true)⟩,
    ⟨some 115, .mov (.t 8), some (109, true)⟩,
    ⟨some 116, .mov (.t 16), some (109, true)⟩,
    ⟨some 117, .iaddr 9 1 (.t 115) (.t 116), some (109, true)⟩,
    ⟨some 118, .ld1 (.t 117), some (109, true)⟩,
    ⟨some 114, .bslice 9 1 1 [.str []] [(0, 1, (.t 113))], some (109, true)⟩,
    ⟨some 119, .call 10 [(.t 114), (.t 118)], some (109, true)⟩,
    ⟨some 120, .pick (.t 109) (.t 119) (.c (.bool false)), none⟩,
    ⟨some 121, .mov (.t 120), none⟩,
    ⟨some 122, .mov (.t 15), some (121, false)⟩,
    ⟨some 123, .mov (.t 16), some (121, false)⟩,
    ⟨some 124, .bini .lss (.t 122) (.t 123), some (121, false)⟩,
    ⟨some 125, .mov (.t 124), some (121, false)⟩,
    ⟨some 126, .mov (.t 8), some (125, true)⟩,
    ⟨some 127, .mov (.t 15), some (125, true)⟩,
    ⟨some 128, .iaddr 9 1 (.t 126) (.t 127), some (125, true)⟩,
    ⟨some 129, .ld1 (.t 128), some (125, true)⟩,
    ⟨some 130, .mov (.t 8), some (125, true)⟩,
    ⟨some 131, .mov (.t 16), some (125, true)⟩,
    ⟨some 132, .iaddr 9 1 (.t 130) (.t 131), some (125, true)⟩,
    ⟨some 133, .ld1 (.t 132), some (125, true)⟩,
    ⟨some 134, .bins .geq (.t 129) (.t 133), some (125, true)⟩,
    ⟨some 135, .pick (.t 125) (.t 134) (.c (.bool false)), some (121, false)⟩,
    ⟨some 136, .pick (.t 121) (.c (.bool true)) (.t 135), none⟩]
def A_lexiconlaw16_MaskCovers_19 : List AOper := [⟨some 104, .mov (.t 16), none⟩,
    ⟨some 105, .bini .add (.t 104) (.c (.int .i64 (1))), none⟩,
    ⟨some 16, .mov (.t 105), none⟩]
def A_lexiconlaw16_MaskCovers_20 : ACode := (.seq (.seq (.ops A_lexiconlaw16_MaskCovers_15) (.cond (.t 103) .skip (.exit 4))) (.seq (.block 5 (.seq (.alts [A_lexiconlaw16_MaskCovers_16, A_lexiconlaw16_MaskCovers_17, A_lexiconlaw16_MaskCovers_18]) (.cond (.t 136) (.seq (.ops [⟨some 6, .mov (.c (.bool false)), none⟩]) .ret) .skip))) (.ops A_lexiconlaw16_MaskCovers_19)))
def A_lexiconlaw16_MaskCovers_21 : List AOper := [⟨some 98, .mov (.t 15), none⟩,
    ⟨some 99, .bini .add (.t 98) (.c (.int .i64 (1))), none⟩,
    ⟨some 15, .mov (.t 99), none⟩]
def A_lexiconlaw16_MaskCovers_22 : ACode := (.seq (.seq (.ops A_lexiconlaw16_MaskCovers_14) (.cond (.t 97) .skip (.exit 2))) (.seq (.block 3 (.seq (.ops [⟨some 16, .mov (.c (.int .i64 (0))), none⟩]) (.block 4 (.loop A_lexiconlaw16_MaskCovers_20)))) (.ops A_lexiconlaw16_MaskCovers_21)))
def A_lexiconlaw16_MaskCovers_23 : List AOper := [⟨some 137, .mov (.t 7), none⟩,
    ⟨some 6, .mov (.t 137), none⟩]
def A_lexiconlaw16_MaskCovers : ACode := (.seq (.ops [⟨some 6, .mov (.c (.bool false)), none⟩]) (.seq (.seq (.ops A_lexiconlaw16_MaskCovers_0) (.cond (.t 23) (.seq (.ops [⟨some 6, .mov (.c (.bool true)), none⟩]) .ret) .skip)) (.seq (.ops A_lexiconlaw16_MaskCovers_1) (.seq (.ops A_lexiconlaw16_MaskCovers_2) (.seq (.ops A_lexiconlaw16_MaskCovers_3) (.seq (.ops A_lexiconlaw16_MaskCovers_4) (.seq (.ops [⟨some 11, .mov (.c (.nils)), none⟩]) (.seq (.ops A_lexiconlaw16_MaskCovers_5) (.seq (.ops A_lexiconlaw16_MaskCovers_6) (.seq (.ops A_lexiconlaw16_MaskCovers_7) (.seq (.seq (.ops [⟨some 12, .mov (.c (.int .i64 (0))), none⟩]) (.block 0 (.loop A_lexiconlaw16_MaskCovers_13))) (.seq (.seq (.ops [⟨some 15, .mov (.c (.int .i64 (0))), none⟩]) (.block 2 (.loop A_lexiconlaw16_MaskCovers_22))) (.seq (.ops A_lexiconlaw16_MaskCovers_23) .ret)))))))))))))
def R_lexiconlaw16_MaskCovers : List ARes := [.tmp 6]
theorem C_lexiconlaw16_MaskCovers : compF Tryd.prog Tryd.f4 = some (A_lexiconlaw16_MaskCovers, R_lexiconlaw16_MaskCovers) := by kernel_rfl
theorem K_lexiconlaw16_MaskCovers {args : List AV} {h : Hp} {Q : Res → Hp → Prop} (hl : LCode Tryd.prog A_lexiconlaw16_MaskCovers (EndQ R_lexiconlaw16_MaskCovers Q) (env0 138 args) h) (hn : args.length ≤ 138 := by (simp; done)) : CallL Tryd.prog F_lexiconlaw16_MaskCovers args h Q :=
  CallL.of Tryd.func4 C_lexiconlaw16_MaskCovers (by rw [Tryd.ntmps4]; exact hn) (by rw [Tryd.ntmps4]; exact hl)
def T_lexiconlaw16_MaskCovers : FC := ⟨138, A_lexiconlaw16_MaskCovers, R_lexiconlaw16_MaskCovers⟩
theorem G_lexiconlaw16_MaskCovers : GoodFC Tryd.prog F_lexiconlaw16_MaskCovers T_lexiconlaw16_MaskCovers := ⟨Tryd.f4, Tryd.func4, Tryd.ntmps4, C_lexiconlaw16_MaskCovers, by kernel_rfl⟩

-- lexicon/lexiconlaw16.known
abbrev F_lexiconlaw16_known : Nat := 5
def A_lexiconlaw16_known_0 : List AOper := [⟨some 8, .call 11 [(.c (.str [115, 46, 97, 44, 98]))], none⟩,
    ⟨some 7, .mov (.t 8), none⟩,
    ⟨some 9, .ext 0 (.t 7), none⟩,
    ⟨some 10, .ext 1 (.t 7), none⟩,
    ⟨some 1, .mov (.t 9), none⟩,
    ⟨some 2, .mov (.t 10), none⟩]
def A_lexiconlaw16_known_1 : List AOper := [⟨some 11, .mov (.t 1), none⟩,
    ⟨some 12, .bslice 9 1 1 [.str []] [(0, 1, (.c (.str [115])))], none⟩,
    ⟨some 13, .call 8 [(.t 11), (.t 12)], none⟩,
    ⟨some 3, .mov (.t 13), none⟩]
def A_lexiconlaw16_known_2 : List AOper := [⟨some 14, .mov (.t 1), none⟩,
    ⟨some 15, .bslice 9 1 1 [.str []] [(0, 1, (.c (.str [115])))], none⟩,
    ⟨some 16, .call 7 [(.t 14), (.t 15)], none⟩,
    ⟨some 4, .mov (.t 16), none⟩]
def A_lexiconlaw16_known_3 : List AOper := [⟨some 18, .call 11 [(.c (.str [97, 44, 44, 98]))], none⟩,
    ⟨some 17, .mov (.t 18), none⟩,
    ⟨some 19, .ext 0 (.t 17), none⟩,
    ⟨some 20, .ext 1 (.t 17), none⟩,
    ⟨some 5, .mov (.t 19), none⟩,
    ⟨some 6, .mov (.t 20), none⟩]
def A_lexiconlaw16_known_4 : List AOper := [⟨some 21, .mov (.t 2), none⟩,
    ⟨some 22, .bini .eql (.t 21) (.c (.int .i64 (0))), none⟩,
    ⟨some 23, .mov (.t 22), none⟩,
    ⟨some 24, .mov (.t 1), some (23, true)⟩,
    ⟨some 25, .lenl (.t 24), some (23, true)⟩,
    ⟨some 26, .bini .eql (.t 25) (.c (.int .i64 (2))), some (23, true)⟩,
    ⟨some 27, .pick (.t 23) (.t 26) (.c (.bool false)), none⟩,
    ⟨some 28, .mov (.t 27), none⟩,
    ⟨some 29, .mov (.t 3), some (28, true)⟩,
    ⟨some 30, .lenl (.t 29), some (28, true)⟩,
    ⟨some 31, .bini .eql (.t 30) (.c (.int .i64 (1))), some (28, true)⟩,
    ⟨some 32, .pick (.t 28) (.t 31) (.c (.bool false)), none⟩,
    ⟨some 33, .mov (.t 32), none⟩,
    ⟨some 34, .mov (.t 3), some (33, true)⟩,
    ⟨some 35, .iaddr 9 1 (.t 34) (.c (.int .i64 (0))), some (33, true)⟩,
    ⟨some 36, .ld1 (.t 35), some (33, true)⟩,
    ⟨some 37, .bins .eql (.t 36) (.c (.str [115, 46, 97])), some (33, true)⟩,
    ⟨some 38, .pick (.t 33) (.t 37) (.c (.bool false)), none⟩,
    ⟨some 39, .mov (.t 38), none⟩,
    ⟨some 40, .mov (.t 4), some (39, true)⟩,
    ⟨some 41, .lenl (.t 40), some (39, true)⟩,
    ⟨some 42, .bini .eql (.t 41) (.c (.int .i64 (2))), some (39, true)⟩,
    ⟨some 43, .pick (.t 39) (.t 42) (.c (.bool false)), none⟩,
    ⟨some 44, .mov (.t 43), none⟩,
    ⟨some 45, .mov (.t 4), some (44, true)⟩,
    ⟨some 46, .iaddr 9 1 (.t 45) (.c (.int .i64 (0))), some (44, true)⟩,
    ⟨some 47, .ld1 (.t 46), some (44, true)⟩,
    ⟨some 48, .bins .eql (.t 47) (.c (.str [98])), some (44, true)⟩,
    ⟨some 49, .pick (.t 44) (.t 48) (.c (.bool false)), none⟩,
    ⟨some 50, .mov (.t 49), none⟩,
    ⟨some 51, .mov (.t 4), some (50, true)⟩,
    ⟨some 52, .iaddr 9 1 (.t 51) (.c (.int .i64 (1))), some (50, true)⟩,
    ⟨some 53, .ld1 (.t 52), some (50, true)⟩,
    ⟨some 54, .bins .eql (.t 53) (.c (.str [115])), some (50, true)⟩,
    ⟨some 55, .pick (.t 50) (.t 54) (.c (.bool false)), none⟩,
    ⟨some 56, .mov (.t 55), none⟩,
    ⟨some 57, .mov (.t 4), some (56, true)⟩,
    ⟨some 58, .call 10 [(.t 57), (.c (.str [115, 46, 120]))], some (56, true)⟩,
    ⟨some 59, .pick (.t 56) (.t 58) (.c (.bool false)), none⟩,
    ⟨some 60, .mov (.t 59), none⟩,
    ⟨some 61, .mov (.t 4), some (60, true)⟩,
    ⟨some 62, .call 10 [(.t 61), (.c (.str [115, 120]))], some (60, true)⟩,
    ⟨some 63, .not (.t 62), some (60, true)⟩,
    ⟨some 64, .pick (.t 60) (.t 63) (.c (.bool false)), none⟩,
    ⟨some 65, .mov (.t 64), none⟩,
    ⟨some 66, .mov (.t 6), some (65, true)⟩,
    ⟨some 67, .bini .eql (.t 66) (.c (.int .i64 (160))), some (65, true)⟩,
    ⟨some 68, .pick (.t 65) (.t 67) (.c (.bool false)), none⟩,
    ⟨some 0, .mov (.t 68), none⟩]
def A_lexiconlaw16_known : ACode := (.seq (.ops [⟨some 0, .mov (.c (.bool false)), none⟩]) (.seq (.ops A_lexiconlaw16_known_0) (.seq (.ops A_lexiconlaw16_known_1) (.seq (.ops A_lexiconlaw16_known_2) (.seq (.ops A_lexiconlaw16_known_3) (.seq (.ops A_lexiconlaw16_known_4) .ret))))))
def R_lexiconlaw16_known : List ARes := [.tmp 0]
theorem C_lexiconlaw16_known : compF Tryd.prog Tryd.f5 = some (A_lexiconlaw16_known, R_lexiconlaw16_known) := by kernel_rfl
theorem K_lexiconlaw16_known {args : List AV} {h : Hp} {Q : Res → Hp → Prop} (hl : LCode Tryd.prog A_lexiconlaw16_known (EndQ R_lexiconlaw16_known Q) (env0 69 args) h) (hn : args.length ≤ 69 := by (simp; done)) : CallL Tryd.prog F_lexiconlaw16_known args h Q :=
  CallL.of Tryd.func5 C_lexiconlaw16_known (by rw [Tryd.ntmps5]; exact hn) (by rw [Tryd.ntmps5]; exact hl)
def T_lexiconlaw16_known : FC := ⟨69, A_lexiconlaw16_known, R_lexiconlaw16_known⟩
theorem G_lexiconlaw16_known : GoodFC Tryd.prog F_lexiconlaw16_known T_lexiconlaw16_known := ⟨Tryd.f5, Tryd.func5, Tryd.ntmps5, C_lexiconlaw16_known, by kernel_rfl⟩

-- lexicon/lexiconlaw16.many
abbrev F_lexiconlaw16_many : Nat := 6
def A_lexiconlaw16_many_0 : List AOper := [⟨some 8, .mov (.t 6), none⟩,
    ⟨some 9, .mov (.t 0), none⟩,
    ⟨some 10, .lenl (.t 9), none⟩,
    ⟨some 11, .bini .lss (.t 8) (.t 10), none⟩,
    ⟨some 12, .mov (.t 11), none⟩,
    ⟨some 13, .mov (.t 5), some (12, true)⟩,
    ⟨some 14, .bini .leq (.t 13) (.c (.int .i64 (4194304))), some (12, true)⟩,
    ⟨some 15, .pick (.t 12) (.t 14) (.c (.bool false)), none⟩]
def A_lexiconlaw16_many_1 : List AOper := [⟨some 18, .mov (.t 5), none⟩,
    ⟨some 19, .bini .add (.t 18) (.c (.int .i64 (16))), none⟩,
    ⟨some 20, .mov (.t 0), none⟩,
    ⟨some 21, .mov (.t 6), none⟩,
    ⟨some 22, .iaddr 9 1 (.t 20) (.t 21), none⟩,
    ⟨some 23, .ld1 (.t 22), none⟩,
    ⟨some 24, .lens (.t 23), none⟩,
    ⟨some 25, .bini .add (.t 19) (.t 24), none⟩,
    ⟨some 5, .mov (.t 25), none⟩]
def A_lexiconlaw16_many_2 : List AOper := [⟨some 26, .mov (.t 0), none⟩,
    ⟨some 27, .mov (.t 6), none⟩,
    ⟨some 28, .iaddr 9 1 (.t 26) (.t 27), none⟩,
    ⟨some 29, .ld1 (.t 28), none⟩,
    ⟨some 30, .lens (.t 29), none⟩,
    ⟨some 31, .bini .gtr (.t 30) (.c (.int .i64 (120000))), none⟩]
def A_lexiconlaw16_many_3 : List AOper := [⟨some 16, .mov (.t 6), none⟩,
    ⟨some 17, .bini .add (.t 16) (.c (.int .i64 (1))), none⟩,
    ⟨some 6, .mov (.t 17), none⟩]
def A_lexiconlaw16_many_4 : ACode := (.seq (.seq (.ops A_lexiconlaw16_many_0) (.cond (.t 15) .skip (.exit 0))) (.seq (.block 1 (.seq (.ops A_lexiconlaw16_many_1) (.seq (.ops A_lexiconlaw16_many_2) (.cond (.t 31) (.ops [⟨some 5, .mov (.c (.int .i64 (4194305))), none⟩]) .skip)))) (.ops A_lexiconlaw16_many_3)))
def A_lexiconlaw16_many_5 : List AOper := [⟨some 32, .mov (.t 7), none⟩,
    ⟨some 33, .mov (.t 1), none⟩,
    ⟨some 34, .lenl (.t 33), none⟩,
    ⟨some 35, .bini .lss (.t 32) (.t 34), none⟩,
    ⟨some 36, .mov (.t 35), none⟩,
    ⟨some 37, .mov (.t 5), some (36, true)⟩,
    ⟨some 38, .bini .leq (.t 37) (.c (.int .i64 (4194304))), some (36, true)⟩,
    ⟨some 39, .pick (.t 36) (.t 38) (.c (.bool false)), none⟩]
def A_lexiconlaw16_many_6 : List AOper := [⟨some 42, .mov (.t 5), none⟩,
    ⟨some 43, .bini .add (.t 42) (.c (.int .i64 (16))), none⟩,
    ⟨some 44, .mov (.t 1), none⟩,
    ⟨some 45, .mov (.t 7), none⟩,
    ⟨some 46, .iaddr 9 1 (.t 44) (.t 45), none⟩,
    ⟨some 47, .ld1 (.t 46), none⟩,
    ⟨some 48, .lens (.t 47), none⟩,
    ⟨some 49, .bini .add (.t 43) (.t 48), none⟩,
    ⟨some 5, .mov (.t 49), none⟩]
def A_lexiconlaw16_many_7 : List AOper := [⟨some 50, .mov (.t 1), none⟩,
    ⟨some 51, .mov (.t 7), none⟩,
    ⟨some 52, .iaddr 9 1 (.t 50) (.t 51), none⟩,
    ⟨some 53, .ld1 (.t 52), none⟩,
    ⟨some 54, .lens (.t 53), none⟩,
    ⟨some 55, .bini .gtr (.t 54) (.c (.int .i64 (120000))), none⟩]
def A_lexiconlaw16_many_8 : List AOper := [⟨some 40, .mov (.t 7), none⟩,
    ⟨some 41, .bini .add (.t 40) (.c (.int .i64 (1))), none⟩,
    ⟨some 7, .mov (.t 41), none⟩]
def A_lexiconlaw16_many_9 : ACode := (.seq (.seq (.ops A_lexiconlaw16_many_5) (.cond (.t 39) .skip (.exit 2))) (.seq (.block 3 (.seq (.ops A_lexiconlaw16_many_6) (.seq (.ops A_lexiconlaw16_many_7) (.cond (.t 55) (.ops [⟨some 5, .mov (.c (.int .i64 (4194305))), none⟩]) .skip)))) (.ops A_lexiconlaw16_many_8)))
def A_lexiconlaw16_many_10 : List AOper := [⟨some 56, .mov (.t 5), none⟩,
    ⟨some 57, .bini .gtr (.t 56) (.c (.int .i64 (4194304))), none⟩,
    ⟨some 58, .mov (.t 57), none⟩,
    ⟨some 59, .mov (.t 0), some (58, false)⟩,
    ⟨some 60, .lenl (.t 59), some (58, false)⟩,
    ⟨some 61, .bini .gtr (.t 60) (.c (.int .i64 (400))), some (58, false)⟩,
    ⟨some 62, .pick (.t 58) (.c (.bool true)) (.t 61), none⟩,
    ⟨some 63, .mov (.t 62), none⟩,
    ⟨some 64, .mov (.t 1), some (63, false)⟩,
    ⟨some 65, .lenl (.t 64), some (63, false)⟩,
    ⟨some 66, .bini .gtr (.t 65) (.c (.int .i64 (400))), some (63, false)⟩,
    ⟨some 67, .pick (.t 63) (.c (.bool true)) (.t 66), none⟩,
    ⟨some 4, .mov (.t 67), none⟩]
def A_lexiconlaw16_many : ACode := (.seq (.ops [⟨some 4, .mov (.c (.bool false)), none⟩]) (.seq (.ops [⟨some 5, .mov (.c (.int .i64 (0))), none⟩]) (.seq (.seq (.ops [⟨some 6, .mov (.c (.int .i64 (0))), none⟩]) (.block 0 (.loop A_lexiconlaw16_many_4))) (.seq (.seq (.ops [⟨some 7, .mov (.c (.int .i64 (0))), none⟩]) (.block 2 (.loop A_lexiconlaw16_many_9))) (.seq (.ops A_lexiconlaw16_many_10) .ret)))))
def R_lexiconlaw16_many : List ARes := [.tmp 4]
theorem C_lexiconlaw16_many : compF Tryd.prog Tryd.f6 = some (A_lexiconlaw16_many, R_lexiconlaw16_many) := by kernel_rfl
theorem K_lexiconlaw16_many {args : List AV} {h : Hp} {Q : Res → Hp → Prop} (hl : LCode Tryd.prog A_lexiconlaw16_many (EndQ R_lexiconlaw16_many Q) (env0 68 args) h) (hn : args.length ≤ 68 := by (simp; done)) : CallL Tryd.prog F_lexiconlaw16_many args h Q :=
  CallL.of Tryd.func6 C_lexiconlaw16_many (by rw [Tryd.ntmps6]; exact hn) (by rw [Tryd.ntmps6]; exact hl)
def T_lexiconlaw16_many : FC := ⟨68, A_lexiconlaw16_many, R_lexiconlaw16_many⟩
theorem G_lexiconlaw16_many : GoodFC Tryd.prog F_lexiconlaw16_many T_lexiconlaw16_many := ⟨Tryd.f6, Tryd.func6, Tryd.ntmps6, C_lexiconlaw16_many, by kernel_rfl⟩

-- lexicon/mask.Union
abbrev F_mask_Union : Nat := 7
def A_mask_Union_0 : List AOper := [⟨some 5, .mov (.t 0), none⟩,
    ⟨some 6, .mov (.t 1), none⟩,
    ⟨some 7, .bslice 23 1 2 [.nils] [(0, 1, (.t 5)), (1, 1, (.t 6))], none⟩,
    ⟨some 8, .call 12 [(.t 7)], none⟩,
    ⟨some 9, .call 9 [(.t 8)], none⟩,
    ⟨some 4, .mov (.t 9), none⟩]
def A_mask_Union : ACode := (.seq (.ops [⟨some 4, .mov (.c (.nils)), none⟩]) (.seq (.ops A_mask_Union_0) .ret))
def R_mask_Union : List ARes := [.tmp 4]
theorem C_mask_Union : compF Tryd.prog Tryd.f7 = some (A_mask_Union, R_mask_Union) := by kernel_rfl
theorem K_mask_Union {args : List AV} {h : Hp} {Q : Res → Hp → Prop} (hl : LCode Tryd.prog A_mask_Union (EndQ R_mask_Union Q) (env0 10 args) h) (hn : args.length ≤ 10 := by (simp; done)) : CallL Tryd.prog F_mask_Union args h Q :=
  CallL.of Tryd.func7 C_mask_Union (by rw [Tryd.ntmps7]; exact hn) (by rw [Tryd.ntmps7]; exact hl)
def T_mask_Union : FC := ⟨10, A_mask_Union, R_mask_Union⟩
theorem G_mask_Union : GoodFC Tryd.prog F_mask_Union T_mask_Union := ⟨Tryd.f7, Tryd.func7, Tryd.ntmps7, C_mask_Union, by kernel_rfl⟩

-- lexicon/mask.Meet
abbrev F_mask_Meet : Nat := 8
def A_mask_Meet_0 : List AOper := [⟨some 10, .mov (.t 0), none⟩,
    ⟨some 11, .lenl (.t 10), none⟩,
    ⟨some 12, .mov (.c (.int .i64 (0))), none⟩]
def A_mask_Meet_1 : List AOper := [⟨some 14, .iaddr 9 1 (.t 10) (.t 12), none⟩,
    ⟨some 15, .ld1 (.t 14), none⟩,
    ⟨some 7, .mov (.t 15), none⟩]
def A_mask_Meet_2 : List AOper := [⟨some 16, .mov (.t 1), none⟩,
    ⟨some 17, .mov (.t 7), none⟩,
    ⟨some 18, .call 10 [(.t 16), (.t 17)], none⟩]
def A_mask_Meet_3 : List AOper := [⟨some 19, .mov (.t 5), none⟩,
    ⟨some 20, .mov (.t 7), none⟩,
    ⟨some 21, .bslice 9 1 1 [.str []] [(0, 1, (.t 20))], none⟩,
    ⟨some 22, .app 9 1 16 (.t 19) (.t 21), none⟩,
    ⟨some 5, .mov (.t 22), none⟩]
def A_mask_Meet_4 : List AOper := [⟨some 23, .bini .add (.t 12) (.c (.int .i64 (1))), none⟩,
    ⟨some 12, .mov (.t 23), none⟩]
def A_mask_Meet_5 : ACode := (.seq (.ops [⟨some 13, .bini .lss (.t 12) (.t 11), none⟩]) (.seq (.cond (.t 13) .skip (.exit 0)) (.seq (.block 1 (.seq (.ops A_mask_Meet_1) (.seq (.ops A_mask_Meet_2) (.cond (.t 18) (.ops A_mask_Meet_3) .skip)))) (.ops A_mask_Meet_4))))
def A_mask_Meet_6 : List AOper := [⟨some 24, .mov (.t 1), none⟩,
    ⟨some 25, .lenl (.t 24), none⟩,
    ⟨some 26, .mov (.c (.int .i64 (0))), none⟩]
def A_mask_Meet_7 : List AOper := [⟨some 28, .iaddr 9 1 (.t 24) (.t 26), none⟩,
    ⟨some 29, .ld1 (.t 28), none⟩,
    ⟨some 9, .mov (.t 29), none⟩]
def A_mask_Meet_8 : List AOper := [⟨some 30, .mov (.t 0), none⟩,
    ⟨some 31, .mov (.t 9), none⟩,
    ⟨some 32, .call 10 [(.t 30), (.t 31)], none⟩]
def A_mask_Meet_9 : List AOper := [⟨some 33, .mov (.t 5), none⟩,
    ⟨some 34, .mov (.t 9), none⟩,
    ⟨some 35, .bslice 9 1 1 [.str []] [(0, 1, (.t 34))], none⟩,
    ⟨some 36, .app 9 1 16 (.t 33) (.t 35), none⟩,
    ⟨some 5, .mov (.t 36), none⟩]
def A_mask_Meet_10 : List AOper := [⟨some 37, .bini .add (.t 26) (.c (.int .i64 (1))), none⟩,
    ⟨some 26, .mov (.t 37), none⟩]
def A_mask_Meet_11 : ACode := (.seq (.ops [⟨some 27, .bini .lss (.t 26) (.t 25), none⟩]) (.seq (.cond (.t 27) .skip (.exit 2)) (.seq (.block 3 (.seq (.ops A_mask_Meet_7) (.seq (.ops A_mask_Meet_8) (.cond (.t 32) (.ops A_mask_Meet_9) .skip)))) (.ops A_mask_Meet_10))))
def A_mask_Meet_12 : List AOper := [⟨some 38, .mov (.t 5), none⟩,
    ⟨some 39, .call 9 [(.t 38)], none⟩,
    ⟨some 4, .mov (.t 39), none⟩]
def A_mask_Meet : ACode := (.seq (.ops [⟨some 4, .mov (.c (.nils)), none⟩]) (.seq (.ops [⟨some 5, .mov (.c (.nils)), none⟩]) (.seq (.seq (.ops A_mask_Meet_0) (.block 0 (.loop A_mask_Meet_5))) (.seq (.seq (.ops A_mask_Meet_6) (.block 2 (.loop A_mask_Meet_11))) (.seq (.ops A_mask_Meet_12) .ret)))))
def R_mask_Meet : List ARes := [.tmp 4]
theorem C_mask_Meet : compF Tryd.prog Tryd.f8 = some (A_mask_Meet, R_mask_Meet) := by kernel_rfl
theorem K_mask_Meet {args : List AV} {h : Hp} {Q : Res → Hp → Prop} (hl : LCode Tryd.prog A_mask_Meet (EndQ R_mask_Meet Q) (env0 40 args) h) (hn : args.length ≤ 40 := by (simp; done)) : CallL Tryd.prog F_mask_Meet args h Q :=
  CallL.of Tryd.func8 C_mask_Meet (by rw [Tryd.ntmps8]; exact hn) (by rw [Tryd.ntmps8]; exact hl)
def T_mask_Meet : FC := ⟨40, A_mask_Meet, R_mask_Meet⟩
theorem G_mask_Meet : GoodFC Tryd.prog F_mask_Meet T_mask_Meet := ⟨Tryd.f8, Tryd.func8, Tryd.ntmps8, C_mask_Meet, by kernel_rfl⟩

-- lexicon/mask.Normal
abbrev F_mask_Normal : Nat := 9
def A_mask_Normal_0 : List AOper := [⟨some 7, .mkmap, none⟩,
    ⟨some 3, .box 33 1 (.c (.nilm)), none⟩,
    ⟨none, .st 1 (.t 3) (.t 7), none⟩]
def A_mask_Normal_1 : List AOper := [⟨some 8, .mov (.t 0), none⟩,
    ⟨some 9, .lenl (.t 8), none⟩,
    ⟨some 10, .mov (.c (.int .i64 (0))), none⟩]
def A_mask_Normal_2 : List AOper := [⟨some 12, .iaddr 9 1 (.t 8) (.t 10), none⟩,
    ⟨some 13, .ld1 (.t 12), none⟩,
    ⟨some 5, .mov (.t 13), none⟩]
def A_mask_Normal_3 : List AOper := [⟨some 14, .ld1 (.t 3), none⟩,
    ⟨some 15, .mov (.t 5), none⟩,
    ⟨some 16, .mlook .s (.int .i64 (0)) false (.t 14) (.t 15), none⟩,
    ⟨some 17, .bini .add (.t 16) (.c (.int .i64 (1))), none⟩,
    ⟨none, .mupd .s (.t 14) (.t 15) (.t 17), none⟩]
def A_mask_Normal_4 : List AOper := [⟨some 18, .bini .add (.t 10) (.c (.int .i64 (1))), none⟩,
    ⟨some 10, .mov (.t 18), none⟩]
def A_mask_Normal_5 : ACode := (.seq (.ops [⟨some 11, .bini .lss (.t 10) (.t 9), none⟩]) (.seq (.cond (.t 11) .skip (.exit 0)) (.seq (.block 1 (.seq (.ops A_mask_Normal_2) (.ops A_mask_Normal_3))) (.ops A_mask_Normal_4))))
def A_mask_Normal_6 : List AOper := [⟨some 19, .mov (.t 0), none⟩,
    ⟨some 20, .call 13 [(.t 19)], none⟩,
    ⟨some 6, .mov (.t 20), none⟩]
def A_mask_Normal_7 : List AOper := [⟨some 21, .mov (.t 6), none⟩,
    ⟨some 22, .call 14 [(.t 21)], none⟩]
def A_mask_Normal_8 : List AOper := [⟨some 23, .mov (.t 6), none⟩,
    ⟨some 24, .call 15 [(.t 23)], none⟩,
    ⟨some 6, .mov (.t 24), none⟩]
def A_mask_Normal_9 : List AOper := [⟨some 25, .mov (.t 6), none⟩,
    ⟨some 26, .mkfn 18 [(.t 3)], none⟩,
    ⟨some 27, .call 17 [(.t 25), (.t 26)], none⟩,
    ⟨some 28, .call 16 [(.t 27)], none⟩,
    ⟨some 2, .mov (.t 28), none⟩]
def A_mask_Normal : ACode := (.seq (.ops [⟨some 2, .mov (.c (.nils)), none⟩]) (.seq (.ops A_mask_Normal_0) (.seq (.seq (.ops A_mask_Normal_1) (.block 0 (.loop A_mask_Normal_5))) (.seq (.ops A_mask_Normal_6) (.seq (.ops A_mask_Normal_7) (.seq (.ops A_mask_Normal_8) (.seq (.ops A_mask_Normal_9) .ret)))))))
def R_mask_Normal : List ARes := [.tmp 2]
theorem C_mask_Normal : compF Tryd.prog Tryd.f9 = some (A_mask_Normal, R_mask_Normal) := by kernel_rfl
theorem K_mask_Normal {args : List AV} {h : Hp} {Q : Res → Hp → Prop} (hl : LCode Tryd.prog A_mask_Normal (EndQ R_mask_Normal Q) (env0 29 args) h) (hn : args.length ≤ 29 := by (simp; done)) : CallL Tryd.prog F_mask_Normal args h Q :=
  CallL.of Tryd.func9 C_mask_Normal (by rw [Tryd.ntmps9]; exact hn) (by rw [Tryd.ntmps9]; exact hl)
def T_mask_Normal : FC := ⟨29, A_mask_Normal, R_mask_Normal⟩
theorem G_mask_Normal : GoodFC Tryd.prog F_mask_Normal T_mask_Normal := ⟨Tryd.f9, Tryd.func9, Tryd.ntmps9, C_mask_Normal, by kernel_rfl⟩

-- lexicon/mask.Covers
abbrev F_mask_Covers : Nat := 10
def A_mask_Covers_0 : List AOper := [⟨some 3, .box 9 1 (.t 1), none⟩,
    ⟨some 4, .mov (.c (.bool false)), none⟩]
def A_mask_Covers_1 : List AOper := [⟨some 5, .mov (.t 0), none⟩,
    ⟨some 6, .mkfn 20 [(.t 3)], none⟩,
    ⟨some 7, .call 19 [(.t 5), (.t 6)], none⟩,
    ⟨some 4, .mov (.t 7), none⟩]
def A_mask_Covers : ACode := (.seq (.ops A_mask_Covers_0) (.seq (.ops A_mask_Covers_1) .ret))
def R_mask_Covers : List ARes := [.tmp 4]
theorem C_mask_Covers : compF Tryd.prog Tryd.f10 = some (A_mask_Covers, R_mask_Covers) := by kernel_rfl
theorem K_mask_Covers {args : List AV} {h : Hp} {Q : Res → Hp → Prop} (hl : LCode Tryd.prog A_mask_Covers (EndQ R_mask_Covers Q) (env0 8 args) h) (hn : args.length ≤ 8 := by (simp; done)) : CallL Tryd.prog F_mask_Covers args h Q :=
  CallL.of Tryd.func10 C_mask_Covers (by rw [Tryd.ntmps10]; exact hn) (by rw [Tryd.ntmps10]; exact hl)
def T_mask_Covers : FC := ⟨8, A_mask_Covers, R_mask_Covers⟩
theorem G_mask_Covers : GoodFC Tryd.prog F_mask_Covers T_mask_Covers := ⟨Tryd.f10, Tryd.func10, Tryd.ntmps10, C_mask_Covers, by kernel_rfl⟩

-- lexicon/mask.Parse
abbrev F_mask_Parse : Nat := 11
def A_mask_Parse_0 : List AOper := [⟨some 2, .mov (.c (.nils)), none⟩,
    ⟨some 3, .mov (.c (.int .i64 (0))), none⟩]
def A_mask_Parse_1 : List AOper := [⟨some 5, .mov (.t 0), none⟩,
    ⟨some 6, .bins .eql (.t 5) (.c (.str [])), none⟩]
def A_mask_Parse_2 : List AOper := [⟨some 2, .mov (.c (.nils)), none⟩,
    ⟨some 3, .mov (.c (.int .i64 (0))), none⟩]
def A_mask_Parse_3 : List AOper := [⟨some 7, .mov (.t 0), none⟩,
    ⟨some 8, .call 22 [(.t 7), (.c (.str [44]))], none⟩,
    ⟨some 4, .mov (.t 8), none⟩]
def A_mask_Parse_4 : List AOper := [⟨some 9, .mov (.t 4), none⟩,
    ⟨some 10, .call 19 [(.t 9), (.f 23)], none⟩,
    ⟨some 11, .not (.t 10), none⟩]
def A_mask_Parse_5 : List AOper := [⟨some 12, .mov (.t 4), none⟩,
    ⟨some 2, .mov (.t 12), none⟩,
    ⟨some 3, .mov (.c (.int .i64 (0))), none⟩]
def A_mask_Parse_6 : List AOper := [⟨some 2, .mov (.c (.nils)), none⟩,
    ⟨some 3, .mov (.c (.int .i64 (160))), none⟩]
def A_mask_Parse : ACode := (.seq (.ops A_mask_Parse_0) (.seq (.seq (.ops A_mask_Parse_1) (.cond (.t 6) (.seq (.ops A_mask_Parse_2) .ret) .skip)) (.seq (.ops A_mask_Parse_3) (.seq (.seq (.ops A_mask_Parse_4) (.cond (.t 11) (.seq (.ops A_mask_Parse_5) .ret) .skip)) (.seq (.ops A_mask_Parse_6) .ret)))))
def R_mask_Parse : List ARes := [.tmp 2, .tmp 3]
theorem C_mask_Parse : compF Tryd.prog Tryd.f11 = some (A_mask_Parse, R_mask_Parse) := by kernel_rfl
theorem K_mask_Parse {args : List AV} {h : Hp} {Q : Res → Hp → Prop} (hl : LCode Tryd.prog A_mask_Parse (EndQ R_mask_Parse Q) (env0 13 args) h) (hn : args.length ≤ 13 := by (simp; done)) : CallL Tryd.prog F_mask_Parse args h Q :=
  CallL.of Tryd.func11 C_mask_Parse (by rw [Tryd.ntmps11]; exact hn) (by rw [Tryd.ntmps11]; exact hl)
def T_mask_Parse : FC := ⟨13, A_mask_Parse, R_mask_Parse⟩
theorem G_mask_Parse : GoodFC Tryd.prog F_mask_Parse T_mask_Parse := ⟨Tryd.f11, Tryd.func11, Tryd.ntmps11, C_mask_Parse, by kernel_rfl⟩

-- slices.Concat[[]string,string]
abbrev F_slices_Concat_string_string : Nat := 12
def A_slices_Concat_string_string_0 : List AOper := [⟨some 9, .mov (.t 0), none⟩,
    ⟨some 10, .lenl (.t 9), none⟩,
    ⟨some 11, .mov (.c (.int .i64 (0))), none⟩]
def A_slices_Concat_string_string_1 : List AOper := [⟨some 13, .iaddr 23 1 (.t 9) (.t 11), none⟩,
    ⟨some 14, .ld1 (.t 13), none⟩,
    ⟨some 5, .mov (.t 14), none⟩]
def A_slices_Concat_string_string_2 : List AOper := [⟨some 15, .mov (.t 3), none⟩,
    ⟨some 16, .mov (.t 5), none⟩,
    ⟨some 17, .lenl (.t 16), none⟩,
    ⟨some 18, .bini .add (.t 15) (.t 17), none⟩,
    ⟨some 3, .mov (.t 18), none⟩]
def A_slices_Concat_string_string_3 : List AOper := [⟨some 19, .mov (.t 3), none⟩,
    ⟨some 20, .bini .lss (.t 19) (.c (.int .i64 (0))), none⟩]
def A_slices_Concat_string_string_4 : List AOper := [⟨some 21, .mkifc 9 (.c (.str [108, 101, 110, 32, 111, 117, 116, 32, 111, 102, 32, 114, 97, 110, 103, 101])), none⟩,
    ⟨none, .pan (.t 21), none⟩]
def A_slices_Concat_string_string_5 : List AOper := [⟨some 22, .bini .add (.t 11) (.c (.int .i64 (1))), none⟩,
    ⟨some 11, .mov (.t 22), none⟩]
def A_slices_Concat_string_string_6 : ACode := (.seq (.ops [⟨some 12, .bini .lss (.t 11) (.t 10), none⟩]) (.seq (.cond (.t 12) .skip (.exit 0)) (.seq (.block 1 (.seq (.ops A_slices_Concat_string_string_1) (.seq (.ops A_slices_Concat_string_string_2) (.seq (.ops A_slices_Concat_string_string_3) (.cond (.t 20) (.ops A_slices_Concat_string_string_4) .skip))))) (.ops A_slices_Concat_string_string_5))))
def A_slices_Concat_string_string_7 : List AOper := [⟨some 23, .mov (.t 3), none⟩,
    ⟨some 24, .call 25 [(.c (.nils)), (.t 23)], none⟩,
    ⟨some 6, .mov (.t 24), none⟩]
def A_slices_Concat_string_string_8 : List AOper := [⟨some 25, .mov (.t 0), none⟩,
    ⟨some 26, .lenl (.t 25), none⟩,
    ⟨some 27, .mov (.c (.int .i64 (0))), none⟩]
def A_slices_Concat_string_string_9 : List AOper := [⟨some 29, .iaddr 23 1 (.t 25) (.t 27), none⟩,
    ⟨some 30, .ld1 (.t 29), none⟩,
    ⟨some 8, .mov (.t 30), none⟩]
def A_slices_Concat_string_string_10 : List AOper := [⟨some 31, .mov (.t 6), none⟩,
    ⟨some 32, .mov (.t 8), none⟩,
    ⟨some 33, .app 9 1 16 (.t 31) (.t 32), none⟩,
    ⟨some 6, .mov (.t 33), none⟩]
def A_slices_Concat_string_string_11 : List AOper := [⟨some 34, .bini .add (.t 27) (.c (.int .i64 (1))), none⟩,
    ⟨some 27, .mov (.t 34), none⟩]
def A_slices_Concat_string_string_12 : ACode := (.seq (.ops [⟨some 28, .bini .lss (.t 27) (.t 26), none⟩]) (.seq (.cond (.t 28) .skip (.exit 2)) (.seq (.block 3 (.seq (.ops A_slices_Concat_string_string_9) (.ops A_slices_Concat_string_string_10))) (.ops A_slices_Concat_string_string_11))))
def A_slices_Concat_string_string_13 : List AOper := [⟨some 35, .mov (.t 6), none⟩,
    ⟨some 2, .mov (.t 35), none⟩]
def A_slices_Concat_string_string : ACode := (.seq (.ops [⟨some 2, .mov (.c (.nils)), none⟩]) (.seq (.ops [⟨some 3, .mov (.c (.int .i64 (0))), none⟩]) (.seq (.seq (.ops A_slices_Concat_string_string_0) (.block 0 (.loop A_slices_Concat_string_string_6))) (.seq (.ops A_slices_Concat_string_string_7) (.seq (.seq (.ops A_slices_Concat_string_string_8) (.block 2 (.loop A_slices_Concat_string_string_12))) (.seq (.ops A_slices_Concat_string_string_13) .ret))))))
def R_slices_Concat_string_string : List ARes := [.tmp 2]
theorem C_slices_Concat_string_string : compF Tryd.prog Tryd.f12 = some (A_slices_Concat_string_string, R_slices_Concat_string_string) := by kernel_rfl
theorem K_slices_Concat_string_string {args : List AV} {h : Hp} {Q : Res → Hp → Prop} (hl : LCode Tryd.prog A_slices_Concat_string_string (EndQ R_slices_Concat_string_string Q) (env0 36 args) h) (hn : args.length ≤ 36 := by (simp; done)) : CallL Tryd.prog F_slices_Concat_string_string args h Q :=
  CallL.of Tryd.func12 C_slices_Concat_string_string (by rw [Tryd.ntmps12]; exact hn) (by rw [Tryd.ntmps12]; exact hl)
def T_slices_Concat_string_string : FC := ⟨36, A_slices_Concat_string_string, R_slices_Concat_string_string⟩
theorem G_slices_Concat_string_string : GoodFC Tryd.prog F_slices_Concat_string_string T_slices_Concat_string_string := ⟨Tryd.f12, Tryd.func12, Tryd.ntmps12, C_slices_Concat_string_string, by kernel_rfl⟩

-- slices.Clone[[]string,string]
abbrev F_slices_Clone_string_string : Nat := 13
def A_slices_Clone_string_string_0 : List AOper := [⟨some 3, .mov (.t 0), none⟩,
    ⟨some 4, .isnil .sl false (.t 3), none⟩]
def A_slices_Clone_string_string_1 : List AOper := [⟨some 5, .bslice0 9, none⟩,
    ⟨some 6, .mov (.t 0), none⟩,
    ⟨some 7, .app 9 1 16 (.t 5) (.t 6), none⟩,
    ⟨some 2, .mov (.t 7), none⟩]
def A_slices_Clone_string_string : ACode := (.seq (.ops [⟨some 2, .mov (.c (.nils)), none⟩]) (.seq (.seq (.ops A_slices_Clone_string_string_0) (.cond (.t 4) (.seq (.ops [⟨some 2, .mov (.c (.nils)), none⟩]) .ret) .skip)) (.seq (.ops A_slices_Clone_string_string_1) .ret)))
def R_slices_Clone_string_string : List ARes := [.tmp 2]
theorem C_slices_Clone_string_string : compF Tryd.prog Tryd.f13 = some (A_slices_Clone_string_string, R_slices_Clone_string_string) := by kernel_rfl
theorem K_slices_Clone_string_string {args : List AV} {h : Hp} {Q : Res → Hp → Prop} (hl : LCode Tryd.prog A_slices_Clone_string_string (EndQ R_slices_Clone_string_string Q) (env0 8 args) h) (hn : args.length ≤ 8 := by (simp; done)) : CallL Tryd.prog F_slices_Clone_string_string args h Q :=
  CallL.of Tryd.func13 C_slices_Clone_string_string (by rw [Tryd.ntmps13]; exact hn) (by rw [Tryd.ntmps13]; exact hl)
def T_slices_Clone_string_string : FC := ⟨8, A_slices_Clone_string_string, R_slices_Clone_string_string⟩
theorem G_slices_Clone_string_string : GoodFC Tryd.prog F_slices_Clone_string_string T_slices_Clone_string_string := ⟨Tryd.f13, Tryd.func13, Tryd.ntmps13, C_slices_Clone_string_string, by kernel_rfl⟩

-- slices.Sort[[]string,string]
abbrev F_slices_Sort_string_string : Nat := 14
def A_slices_Sort_string_string_0 : List AOper := [⟨some 3, .mov (.t 0), none⟩,
    ⟨some 4, .lenl (.t 3), none⟩,
    ⟨some 2, .mov (.t 4), none⟩]
def A_slices_Sort_string_string_1 : List AOper := [⟨some 5, .mov (.t 0), none⟩,
    ⟨some 6, .mov (.t 2), none⟩,
    ⟨some 7, .mov (.t 2), none⟩,
    ⟨some 8, .conv .u64 (.t 7), none⟩,
    ⟨some 9, .call 27 [(.t 8)], none⟩,
    ⟨some 10, .call 26 [(.t 5), (.c (.int .i64 (0))), (.t 6), (.t 9)], none⟩]
def A_slices_Sort_string_string : ACode := (.seq (.ops A_slices_Sort_string_string_0) (.ops A_slices_Sort_string_string_1))
def R_slices_Sort_string_string : List ARes := []
theorem C_slices_Sort_string_string : compF Tryd.prog Tryd.f14 = some (A_slices_Sort_string_string, R_slices_Sort_string_string) := by kernel_rfl
theorem K_slices_Sort_string_string {args : List AV} {h : Hp} {Q : Res → Hp → Prop} (hl : LCode Tryd.prog A_slices_Sort_string_string (EndQ R_slices_Sort_string_string Q) (env0 11 args) h) (hn : args.length ≤ 11 := by (simp; done)) : CallL Tryd.prog F_slices_Sort_string_string args h Q :=
  CallL.of Tryd.func14 C_slices_Sort_string_string (by rw [Tryd.ntmps14]; exact hn) (by rw [Tryd.ntmps14]; exact hl)
def T_slices_Sort_string_string : FC := ⟨11, A_slices_Sort_string_string, R_slices_Sort_string_string⟩
theorem G_slices_Sort_string_string : GoodFC Tryd.prog F_slices_Sort_string_string T_slices_Sort_string_string := ⟨Tryd.f14, Tryd.func14, Tryd.ntmps14, C_slices_Sort_string_string, by kernel_rfl⟩

-- slices.Compact[[]string,string]
abbrev F_slices_Compact_string_string : Nat := 15
def A_slices_Compact_string_string_0 : List AOper := [⟨some 6, .mov (.t 0), none⟩,
    ⟨some 7, .lenl (.t 6), none⟩,
    ⟨some 8, .bini .lss (.t 7) (.c (.int .i64 (2))), none⟩]
def A_slices_Compact_string_string_1 : List AOper := [⟨some 9, .mov (.t 0), none⟩,
    ⟨some 2, .mov (.t 9), none⟩]
def A_slices_Compact_string_string_2 : List AOper := [⟨some 10, .mov (.t 3), none⟩,
    ⟨some 11, .mov (.t 0), none⟩,
    ⟨some 12, .lenl (.t 11), none⟩,
    ⟨some 13, .bini .lss (.t 10) (.t 12), none⟩]
def A_slices_Compact_string_string_3 : List AOper := [⟨some 16, .mov (.t 0), none⟩,
    ⟨some 17, .mov (.t 3), none⟩,
    ⟨some 18, .iaddr 9 1 (.t 16) (.t 17), none⟩,
    ⟨some 19, .ld1 (.t 18), none⟩,
    ⟨some 20, .mov (.t 0), none⟩,
    ⟨some 21, .mov (.t 3), none⟩,
    ⟨some 22, .bini .sub (.t 21) (.c (.int .i64 (1))), none⟩,
    ⟨some 23, .iaddr 9 1 (.t 20) (.t 22), none⟩,
    ⟨some 24, .ld1 (.t 23), none⟩,
    ⟨some 25, .bins .eql (.t 19) (.t 24), none⟩]
def A_slices_Compact_string_string_4 : List AOper := [⟨some 26, .mov (.t 0), none⟩,
    ⟨some 27, .mov (.t 3), none⟩,
    ⟨some 28, .slcl 9 1 (.t 26) (some (.t 27)) none none, none⟩,
    ⟨some 4, .mov (.t 28), none⟩]
def A_slices_Compact_string_string_5 : List AOper := [⟨some 29, .mov (.t 5), none⟩,
    ⟨some 30, .mov (.t 4), none⟩,
    ⟨some 31, .lenl (.t 30), none⟩,
    ⟨some 32, .bini .lss (.t 29) (.t 31), none⟩]
def A_slices_Compact_string_string_6 : List AOper := [⟨some 35, .mov (.t 4), none⟩,
    ⟨some 36, .mov (.t 5), none⟩,
    ⟨some 37, .iaddr 9 1 (.t 35) (.t 36), none⟩,
    ⟨some 38, .ld1 (.t 37), none⟩,
    ⟨some 39, .mov (.t 4), none⟩,
    ⟨some 40, .mov (.t 5), none⟩,
    ⟨some 41, .bini .sub (.t 40) (.c (.int .i64 (1))), none⟩,
    ⟨some 42, .iaddr 9 1 (.t 39) (.t 41), none⟩,
    ⟨some 43, .ld1 (.t 42), none⟩,
    ⟨some 44, .bins .neq (.t 38) (.t 43), none⟩]
def A_slices_Compact_string_string_7 : List AOper := [⟨some 45, .mov (.t 0), none⟩,
    ⟨some 46, .mov (.t 3), none⟩,
    ⟨some 47, .mov (.t 4), none⟩,
    ⟨some 48, .mov (.t 5), none⟩,
    ⟨some 49, .iaddr 9 1 (.t 47) (.t 48), none⟩,
    ⟨some 50, .ld1 (.t 49), none⟩,
    ⟨some 51, .iaddr 9 1 (.t 45) (.t 46), none⟩,
    ⟨none, .st 1 (.t 51) (.t 50), none⟩]
def A_slices_Compact_string_string_8 : List AOper := [⟨some 52, .mov (.t 3), none⟩,
    ⟨some 53, .bini .add (.t 52) (.c (.int .i64 (1))), none⟩,
    ⟨some 3, .mov (.t 53), none⟩]
def A_slices_Compact_string_string_9 : List AOper := [⟨some 33, .mov (.t 5), none⟩,
    ⟨some 34, .bini .add (.t 33) (.c (.int .i64 (1))), none⟩,
    ⟨some 5, .mov (.t 34), none⟩]
def A_slices_Compact_string_string_10 : ACode := (.seq (.seq (.ops A_slices_Compact_string_string_5) (.cond (.t 32) .skip (.exit 2))) (.seq (.block 3 (.seq (.alts [A_slices_Compact_string_string_6]) (.cond (.t 44) (.seq (.ops A_slices_Compact_string_string_7) (.ops A_slices_Compact_string_string_8)) .skip))) (.ops A_slices_Compact_string_string_9)))
def A_slices_Compact_string_string_11 : List AOper := [⟨some 54, .mov (.t 0), none⟩,
    ⟨some 55, .mov (.t 3), none⟩,
    ⟨some 56, .slcl 9 1 (.t 54) (some (.t 55)) none none, none⟩,
    ⟨none, .clr 9 [.str []] (.t 56), none⟩]
def A_slices_Compact_string_string_12 : List AOper := [⟨some 57, .mov (.t 0), none⟩,
    ⟨some 58, .mov (.t 3), none⟩,
    ⟨some 59, .slcl 9 1 (.t 57) none (some (.t 58)) none, none⟩,
    ⟨some 2, .mov (.t 59), none⟩]
def A_slices_Compact_string_string_13 : List AOper := [⟨some 14, .mov (.t 3), none⟩,
    ⟨some 15, .bini .add (.t 14) (.c (.int .i64 (1))), none⟩,
    ⟨some 3, .mov (.t 15), none⟩]
def A_slices_Compact_string_string_14 : ACode := (.seq (.seq (.ops A_slices_Compact_string_string_2) (.cond (.t 13) .skip (.exit 0))) (.seq (.block 1 (.seq (.alts [A_slices_Compact_string_string_3]) (.cond (.t 25) (.seq (.ops A_slices_Compact_string_string_4) (.seq (.seq (.ops [⟨some 5, .mov (.c (.int .i64 (1))), none⟩]) (.block 2 (.loop A_slices_Compact_string_string_10))) (.seq (.ops A_slices_Compact_string_string_11) (.seq (.ops A_slices_Compact_string_string_12) .ret)))) .skip))) (.ops A_slices_Compact_string_string_13)))
def A_slices_Compact_string_string_15 : List AOper := [⟨some 60, .mov (.t 0), none⟩,
    ⟨some 2, .mov (.t 60), none⟩]
def A_slices_Compact_string_string : ACode := (.seq (.ops [⟨some 2, .mov (.c (.nils)), none⟩]) (.seq (.seq (.ops A_slices_Compact_string_string_0) (.cond (.t 8) (.seq (.ops A_slices_Compact_string_string_1) .ret) .skip)) (.seq (.seq (.ops [⟨some 3, .mov (.c (.int .i64 (1))), none⟩]) (.block 0 (.loop A_slices_Compact_string_string_14))) (.seq (.ops A_slices_Compact_string_string_15) .ret))))
def R_slices_Compact_string_string : List ARes := [.tmp 2]
theorem C_slices_Compact_string_string : compF Tryd.prog Tryd.f15 = some (A_slices_Compact_string_string, R_slices_Compact_string_string) := by kernel_rfl
theorem K_slices_Compact_string_string {args : List AV} {h : Hp} {Q : Res → Hp → Prop} (hl : LCode Tryd.prog A_slices_Compact_string_string (EndQ R_slices_Compact_string_string Q) (env0 61 args) h) (hn : args.length ≤ 61 := by (simp; done)) : CallL Tryd.prog F_slices_Compact_string_string args h Q :=
  CallL.of Tryd.func15 C_slices_Compact_string_string (by rw [Tryd.ntmps15]; exact hn) (by rw [Tryd.ntmps15]; exact hl)
def T_slices_Compact_string_string : FC := ⟨61, A_slices_Compact_string_string, R_slices_Compact_string_string⟩
theorem G_slices_Compact_string_string : GoodFC Tryd.prog F_slices_Compact_string_string T_slices_Compact_string_string := ⟨Tryd.f15, Tryd.func15, Tryd.ntmps15, C_slices_Compact_string_string, by kernel_rfl⟩

-- slices.Clip[[]string,string]
abbrev F_slices_Clip_string_string : Nat := 16
def A_slices_Clip_string_string_0 : List AOper := [⟨some 3, .mov (.t 0), none⟩,
    ⟨some 4, .mov (.t 0), none⟩,
    ⟨some 5, .lenl (.t 4), none⟩,
    ⟨some 6, .mov (.t 0), none⟩,
    ⟨some 7, .lenl (.t 6), none⟩,
    ⟨some 8, .slcl 9 1 (.t 3) none (some (.t 5)) (some (.t 7)), none⟩,
    ⟨some 2, .mov (.t 8), none⟩]
def A_slices_Clip_string_string : ACode := (.seq (.ops [⟨some 2, .mov (.c (.nils)), none⟩]) (.seq (.ops A_slices_Clip_string_string_0) .ret))
def R_slices_Clip_string_string : List ARes := [.tmp 2]
theorem C_slices_Clip_string_string : compF Tryd.prog Tryd.f16 = some (A_slices_Clip_string_string, R_slices_Clip_string_string) := by kernel_rfl
theorem K_slices_Clip_string_string {args : List AV} {h : Hp} {Q : Res → Hp → Prop} (hl : LCode Tryd.prog A_slices_Clip_string_string (EndQ R_slices_Clip_string_string Q) (env0 9 args) h) (hn : args.length ≤ 9 := by (simp; done)) : CallL Tryd.prog F_slices_Clip_string_string args h Q :=
  CallL.of Tryd.func16 C_slices_Clip_string_string (by rw [Tryd.ntmps16]; exact hn) (by rw [Tryd.ntmps16]; exact hl)
def T_slices_Clip_string_string : FC := ⟨9, A_slices_Clip_string_string, R_slices_Clip_string_string⟩
theorem G_slices_Clip_string_string : GoodFC Tryd.prog F_slices_Clip_string_string T_slices_Clip_string_string := ⟨Tryd.f16, Tryd.func16, Tryd.ntmps16, C_slices_Clip_string_string, by kernel_rfl⟩

-- slices.DeleteFunc[[]string,string]
abbrev F_slices_DeleteFunc_string_string : Nat := 17
def A_slices_DeleteFunc_string_string_0 : List AOper := [⟨some 8, .mov (.t 0), none⟩,
    ⟨some 9, .mov (.t 1), none⟩,
    ⟨some 10, .call 28 [(.t 8), (.t 9)], none⟩,
    ⟨some 5, .mov (.t 10), none⟩]
def A_slices_DeleteFunc_string_string_1 : List AOper := [⟨some 11, .mov (.t 5), none⟩,
    ⟨some 12, .bini .eql (.t 11) (.c (.int .i64 (-1))), none⟩]
def A_slices_DeleteFunc_string_string_2 : List AOper := [⟨some 13, .mov (.t 0), none⟩,
    ⟨some 4, .mov (.t 13), none⟩]
def A_slices_DeleteFunc_string_string_3 : List AOper := [⟨some 14, .mov (.t 5), none⟩,
    ⟨some 15, .bini .add (.t 14) (.c (.int .i64 (1))), none⟩,
    ⟨some 6, .mov (.t 15), none⟩]
def A_slices_DeleteFunc_string_string_4 : List AOper := [⟨some 16, .mov (.t 6), none⟩,
    ⟨some 17, .mov (.t 0), none⟩,
    ⟨some 18, .lenl (.t 17), none⟩,
    ⟨some 19, .bini .lss (.t 16) (.t 18), none⟩]
def A_slices_DeleteFunc_string_string_5 : List AOper := [⟨some 22, .mov (.t 0), none⟩,
    ⟨some 23, .mov (.t 6), none⟩,
    ⟨some 24, .iaddr 9 1 (.t 22) (.t 23), none⟩,
    ⟨some 25, .ld1 (.t 24), none⟩,
    ⟨some 7, .mov (.t 25), none⟩]
def A_slices_DeleteFunc_string_string_6 : List AOper := [⟨some 26, .mov (.t 1), none⟩,
    ⟨some 27, .mov (.t 7), none⟩,
    ⟨some 28, .callv (.t 26) [(.t 27)], none⟩,
    ⟨some 29, .not (.t 28), none⟩]
def A_slices_DeleteFunc_string_string_7 : List AOper := [⟨some 30, .mov (.t 0), none⟩,
    ⟨some 31, .mov (.t 5), none⟩,
    ⟨some 32, .mov (.t 7), none⟩,
    ⟨some 33, .iaddr 9 1 (.t 30) (.t 31), none⟩,
    ⟨none, .st 1 (.t 33) (.t 32), none⟩]
def A_slices_DeleteFunc_string_string_8 : List AOper := [⟨some 34, .mov (.t 5), none⟩,
    ⟨some 35, .bini .add (.t 34) (.c (.int .i64 (1))), none⟩,
    ⟨some 5, .mov (.t 35), none⟩]
def A_slices_DeleteFunc_string_string_9 : List AOper := [⟨some 20, .mov (.t 6), none⟩,
    ⟨some 21, .bini .add (.t 20) (.c (.int .i64 (1))), none⟩,
    ⟨some 6, .mov (.t 21), none⟩]
def A_slices_DeleteFunc_string_string_10 : ACode := (.seq (.seq (.ops A_slices_DeleteFunc_string_string_4) (.cond (.t 19) .skip (.exit 0))) (.seq (.block 1 (.seq (.ops A_slices_DeleteFunc_string_string_5) (.seq (.ops A_slices_DeleteFunc_string_string_6) (.cond (.t 29) (.seq (.ops A_slices_DeleteFunc_string_string_7) (.ops A_slices_DeleteFunc_string_string_8)) .skip)))) (.ops A_slices_DeleteFunc_string_string_9)))
def A_slices_DeleteFunc_string_string_11 : List AOper := [⟨some 36, .mov (.t 0), none⟩,
    ⟨some 37, .mov (.t 5), none⟩,
    ⟨some 38, .slcl 9 1 (.t 36) (some (.t 37)) none none, none⟩,
    ⟨none, .clr 9 [.str []] (.t 38), none⟩]
def A_slices_DeleteFunc_string_string_12 : List AOper := [⟨some 39, .mov (.t 0), none⟩,
    ⟨some 40, .mov (.t 5), none⟩,
    ⟨some 41, .slcl 9 1 (.t 39) none (some (.t 40)) none, none⟩,
    ⟨some 4, .mov (.t 41), none⟩]
def A_slices_DeleteFunc_string_string : ACode := (.seq (.ops [⟨some 4, .mov (.c (.nils)), none⟩]) (.seq (.ops A_slices_DeleteFunc_string_string_0) (.seq (.seq (.ops A_slices_DeleteFunc_string_string_1) (.cond (.t 12) (.seq (.ops A_slices_DeleteFunc_string_string_2) .ret) .skip)) (.seq (.seq (.ops A_slices_DeleteFunc_string_string_3) (.block 0 (.loop A_slices_DeleteFunc_string_string_10))) (.seq (.ops A_slices_DeleteFunc_string_string_11) (.seq (.ops A_slices_DeleteFunc_string_string_12) .ret))))))
def R_slices_DeleteFunc_string_string : List ARes := [.tmp 4]
theorem C_slices_DeleteFunc_string_string : compF Tryd.prog Tryd.f17 = some (A_slices_DeleteFunc_string_string, R_slices_DeleteFunc_string_string) := by kernel_rfl
theorem K_slices_DeleteFunc_string_string {args : List AV} {h : Hp} {Q : Res → Hp → Prop} (hl : LCode Tryd.prog A_slices_DeleteFunc_string_string (EndQ R_slices_DeleteFunc_string_string Q) (env0 42 args) h) (hn : args.length ≤ 42 := by (simp; done)) : CallL Tryd.prog F_slices_DeleteFunc_string_string args h Q :=
  CallL.of Tryd.func17 C_slices_DeleteFunc_string_string (by rw [Tryd.ntmps17]; exact hn) (by rw [Tryd.ntmps17]; exact hl)
def T_slices_DeleteFunc_string_string : FC := ⟨42, A_slices_DeleteFunc_string_string, R_slices_DeleteFunc_string_string⟩
theorem G_slices_DeleteFunc_string_string : GoodFC Tryd.prog F_slices_DeleteFunc_string_string T_slices_DeleteFunc_string_string := ⟨Tryd.f17, Tryd.func17, Tryd.ntmps17, C_slices_DeleteFunc_string_string, by kernel_rfl⟩

-- lexicon/mask.Normal$1
abbrev F_mask_Normal_c1 : Nat := 18
def A_mask_Normal_c1_0 : List AOper := [⟨some 5, .mov (.t 0), none⟩,
    ⟨some 6, .lens (.t 5), none⟩,
    ⟨some 7, .mov (.c (.int .i64 (0))), none⟩]
def A_mask_Normal_c1_1 : List AOper := [⟨some 9, .mov (.t 7), none⟩,
    ⟨some 4, .mov (.t 9), none⟩]
def A_mask_Normal_c1_2 : List AOper := [⟨some 10, .mov (.t 0), none⟩,
    ⟨some 11, .mov (.t 4), none⟩,
    ⟨some 12, .idxs (.t 10) (.t 11), none⟩,
    ⟨some 13, .bini .eql (.t 12) (.c (.int .u8 (46))), none⟩,
    ⟨some 14, .mov (.t 13), none⟩,
    ⟨some 15, .ld1 (.t 1), some (14, true)⟩,
    ⟨some 16, .mov (.t 0), some (14, true)⟩,
    ⟨some 17, .mov (.t 4), some (14, true)⟩,
    ⟨some 18, .slcs (.t 16) none (some (.t 17)), some (14, true)⟩,
    ⟨some 19, .mlook .s (.int .i64 (0)) false (.t 15) (.t 18), some (14, true)⟩,
    ⟨some 20, .bini .gtr (.t 19) (.c (.int .i64 (0))), some (14, true)⟩,
    ⟨some 21, .pick (.t 14) (.t 20) (.c (.bool false)), none⟩]
def A_mask_Normal_c1_3 : List AOper := [⟨some 22, .bini .add (.t 7) (.c (.int .i64 (1))), none⟩,
    ⟨some 7, .mov (.t 22), none⟩]
def A_mask_Normal_c1_4 : ACode := (.seq (.ops [⟨some 8, .bini .lss (.t 7) (.t 6), none⟩]) (.seq (.cond (.t 8) .skip (.exit 0)) (.seq (.block 1 (.seq (.ops A_mask_Normal_c1_1) (.seq (.alts [A_mask_Normal_c1_2]) (.cond (.t 21) (.seq (.ops [⟨some 3, .mov (.c (.bool true)), none⟩]) .ret) .skip)))) (.ops A_mask_Normal_c1_3))))
def A_mask_Normal_c1 : ACode := (.seq (.ops [⟨some 3, .mov (.c (.bool false)), none⟩]) (.seq (.seq (.ops A_mask_Normal_c1_0) (.block 0 (.loop A_mask_Normal_c1_4))) (.seq (.ops [⟨some 3, .mov (.c (.bool false)), none⟩]) .ret)))
def R_mask_Normal_c1 : List ARes := [.tmp 3]
theorem C_mask_Normal_c1 : compF Tryd.prog Tryd.f18 = some (A_mask_Normal_c1, R_mask_Normal_c1) := by kernel_rfl
theorem K_mask_Normal_c1 {args : List AV} {h : Hp} {Q : Res → Hp → Prop} (hl : LCode Tryd.prog A_mask_Normal_c1 (EndQ R_mask_Normal_c1 Q) (env0 23 args) h) (hn : args.length ≤ 23 := by (simp; done)) : CallL Tryd.prog F_mask_Normal_c1 args h Q :=
  CallL.of Tryd.func18 C_mask_Normal_c1 (by rw [Tryd.ntmps18]; exact hn) (by rw [Tryd.ntmps18]; exact hl)
def T_mask_Normal_c1 : FC := ⟨23, A_mask_Normal_c1, R_mask_Normal_c1⟩
theorem G_mask_Normal_c1 : GoodFC Tryd.prog F_mask_Normal_c1 T_mask_Normal_c1 := ⟨Tryd.f18, Tryd.func18, Tryd.ntmps18, C_mask_Normal_c1, by kernel_rfl⟩

-- slices.ContainsFunc[[]string,string]
abbrev F_slices_ContainsFunc_string_string : Nat := 19
def A_slices_ContainsFunc_string_string_0 : List AOper := [⟨some 5, .mov (.t 0), none⟩,
    ⟨some 6, .mov (.t 1), none⟩,
    ⟨some 7, .call 28 [(.t 5), (.t 6)], none⟩,
    ⟨some 8, .bini .geq (.t 7) (.c (.int .i64 (0))), none⟩,
    ⟨some 4, .mov (.t 8), none⟩]
def A_slices_ContainsFunc_string_string : ACode := (.seq (.ops [⟨some 4, .mov (.c (.bool false)), none⟩]) (.seq (.ops A_slices_ContainsFunc_string_string_0) .ret))
def R_slices_ContainsFunc_string_string : List ARes := [.tmp 4]
theorem C_slices_ContainsFunc_string_string : compF Tryd.prog Tryd.f19 = some (A_slices_ContainsFunc_string_string, R_slices_ContainsFunc_string_string) := by kernel_rfl
theorem K_slices_ContainsFunc_string_string {args : List AV} {h : Hp} {Q : Res → Hp → Prop} (hl : LCode Tryd.prog A_slices_ContainsFunc_string_string (EndQ R_slices_ContainsFunc_string_string Q) (env0 9 args) h) (hn : args.length ≤ 9 := by (simp; done)) : CallL Tryd.prog F_slices_ContainsFunc_string_string args h Q :=
  CallL.of Tryd.func19 C_slices_ContainsFunc_string_string (by rw [Tryd.ntmps19]; exact hn) (by rw [Tryd.ntmps19]; exact hl)
def T_slices_ContainsFunc_string_string : FC := ⟨9, A_slices_ContainsFunc_string_string, R_slices_ContainsFunc_string_string⟩
theorem G_slices_ContainsFunc_string_string : GoodFC Tryd.prog F_slices_ContainsFunc_string_string T_slices_ContainsFunc_string_string := ⟨Tryd.f19, Tryd.func19, Tryd.ntmps19, C_slices_ContainsFunc_string_string, by kernel_rfl⟩

-- lexicon/mask.Covers$1
abbrev F_mask_Covers_c1 : Nat := 20
def A_mask_Covers_c1_0 : List AOper := [⟨some 4, .mov (.t 0), none⟩,
    ⟨some 5, .ld1 (.t 1), none⟩,
    ⟨some 6, .call 21 [(.t 4), (.t 5)], none⟩,
    ⟨some 3, .mov (.t 6), none⟩]
def A_mask_Covers_c1 : ACode := (.seq (.ops [⟨some 3, .mov (.c (.bool false)), none⟩]) (.seq (.ops A_mask_Covers_c1_0) .ret))
def R_mask_Covers_c1 : List ARes := [.tmp 3]
theorem C_mask_Covers_c1 : compF Tryd.prog Tryd.f20 = some (A_mask_Covers_c1, R_mask_Covers_c1) := by kernel_rfl
theorem K_mask_Covers_c1 {args : List AV} {h : Hp} {Q : Res → Hp → Prop} (hl : LCode Tryd.prog A_mask_Covers_c1 (EndQ R_mask_Covers_c1 Q) (env0 7 args) h) (hn : args.length ≤ 7 := by (simp; done)) : CallL Tryd.prog F_mask_Covers_c1 args h Q :=
  CallL.of Tryd.func20 C_mask_Covers_c1 (by rw [Tryd.ntmps20]; exact hn) (by rw [Tryd.ntmps20]; exact hl)
def T_mask_Covers_c1 : FC := ⟨7, A_mask_Covers_c1, R_mask_Covers_c1⟩
theorem G_mask_Covers_c1 : GoodFC Tryd.prog F_mask_Covers_c1 T_mask_Covers_c1 := ⟨Tryd.f20, Tryd.func20, Tryd.ntmps20, C_mask_Covers_c1, by kernel_rfl⟩

-- lexicon/mask.covers
abbrev F_mask_covers : Nat := 21
def A_mask_covers_0 : List AOper := [⟨some 8, .mov (.t 1), none⟩,
    ⟨some 9, .mov (.t 0), none⟩,
    ⟨some 10, .call 29 [(.t 8), (.t 9)], none⟩,
    ⟨some 7, .mov (.t 10), none⟩,
    ⟨some 11, .ext 0 (.t 7), none⟩,
    ⟨some 12, .ext 1 (.t 7), none⟩,
    ⟨some 5, .mov (.t 11), none⟩,
    ⟨some 6, .mov (.t 12), none⟩]
def A_mask_covers_1 : List AOper := [⟨some 13, .mov (.t 6), none⟩,
    ⟨some 14, .mov (.t 13), none⟩,
    ⟨some 15, .mov (.t 5), some (14, true)⟩,
    ⟨some 16, .bins .eql (.t 15) (.c (.str [])), some (14, true)⟩,
    ⟨some 17, .mov (.t 16), some (14, true)⟩,
    ⟨some 18, .mov (.t 5), some (17, false)⟩,
    ⟨some 19, .idxs (.t 18) (.c (.int .i64 (0))), some (17, false)⟩,
    ⟨some 20, .bini .eql (.t 19) (.c (.int .u8 (46))), some (17, false)⟩,
    ⟨some 21, .pick (.t 17) (.c (.bool true)) (.t 20), some (14, true)⟩,
    ⟨some 22, .pick (.t 14) (.t 21) (.c (.bool false)), none⟩,
    ⟨some 4, .mov (.t 22), none⟩]
def A_mask_covers : ACode := (.seq (.ops [⟨some 4, .mov (.c (.bool false)), none⟩]) (.seq (.ops A_mask_covers_0) (.seq (.ops A_mask_covers_1) .ret)))
def R_mask_covers : List ARes := [.tmp 4]
theorem C_mask_covers : compF Tryd.prog Tryd.f21 = some (A_mask_covers, R_mask_covers) := by kernel_rfl
theorem K_mask_covers {args : List AV} {h : Hp} {Q : Res → Hp → Prop} (hl : LCode Tryd.prog A_mask_covers (EndQ R_mask_covers Q) (env0 23 args) h) (hn : args.length ≤ 23 := by (simp; done)) : CallL Tryd.prog F_mask_covers args h Q :=
  CallL.of Tryd.func21 C_mask_covers (by rw [Tryd.ntmps21]; exact hn) (by rw [Tryd.ntmps21]; exact hl)
def T_mask_covers : FC := ⟨23, A_mask_covers, R_mask_covers⟩
theorem G_mask_covers : GoodFC Tryd.prog F_mask_covers T_mask_covers := ⟨Tryd.f21, Tryd.func21, Tryd.ntmps21, C_mask_covers, by kernel_rfl⟩

-- strings.Split
abbrev F_strings_Split : Nat := 22
def A_strings_Split_0 : List AOper := [⟨some 5, .mov (.t 0), none⟩,
    ⟨some 6, .mov (.t 1), none⟩,
    ⟨some 7, .call 30 [(.t 5), (.t 6), (.c (.int .i64 (0))), (.c (.int .i64 (-1)))], none⟩,
    ⟨some 4, .mov (.t 7), none⟩]
def A_strings_Split : ACode := (.seq (.ops [⟨some 4, .mov (.c (.nils)), none⟩]) (.seq (.ops A_strings_Split_0) .ret))
def R_strings_Split : List ARes := [.tmp 4]
theorem C_strings_Split : compF Tryd.prog Tryd.f22 = some (A_strings_Split, R_strings_Split) := by kernel_rfl
theorem K_strings_Split {args : List AV} {h : Hp} {Q : Res → Hp → Prop} (hl : LCode Tryd.prog A_strings_Split (EndQ R_strings_Split Q) (env0 8 args) h) (hn : args.length ≤ 8 := by (simp; done)) : CallL Tryd.prog F_strings_Split args h Q :=
  CallL.of Tryd.func22 C_strings_Split (by rw [Tryd.ntmps22]; exact hn) (by rw [Tryd.ntmps22]; exact hl)
def T_strings_Split : FC := ⟨8, A_strings_Split, R_strings_Split⟩
theorem G_strings_Split : GoodFC Tryd.prog F_strings_Split T_strings_Split := ⟨Tryd.f22, Tryd.func22, Tryd.ntmps22, C_strings_Split, by kernel_rfl⟩

-- lexicon/mask.Parse$1
abbrev F_mask_Parse_c1 : Nat := 23
def A_mask_Parse_c1_0 : List AOper := [⟨some 3, .mov (.t 0), none⟩,
    ⟨some 4, .call 24 [(.t 3)], none⟩,
    ⟨some 5, .not (.t 4), none⟩,
    ⟨some 2, .mov (.t 5), none⟩]
def A_mask_Parse_c1 : ACode := (.seq (.ops [⟨some 2, .mov (.c (.bool false)), none⟩]) (.seq (.ops A_mask_Parse_c1_0) .ret))
def R_mask_Parse_c1 : List ARes := [.tmp 2]
theorem C_mask_Parse_c1 : compF Tryd.prog Tryd.f23 = some (A_mask_Parse_c1, R_mask_Parse_c1) := by kernel_rfl
theorem K_mask_Parse_c1 {args : List AV} {h : Hp} {Q : Res → Hp → Prop} (hl : LCode Tryd.prog A_mask_Parse_c1 (EndQ R_mask_Parse_c1 Q) (env0 6 args) h) (hn : args.length ≤ 6 := by (simp; done)) : CallL Tryd.prog F_mask_Parse_c1 args h Q :=
  CallL.of Tryd.func23 C_mask_Parse_c1 (by rw [Tryd.ntmps23]; exact hn) (by rw [Tryd.ntmps23]; exact hl)
def T_mask_Parse_c1 : FC := ⟨6, A_mask_Parse_c1, R_mask_Parse_c1⟩
theorem G_mask_Parse_c1 : GoodFC Tryd.prog F_mask_Parse_c1 T_mask_Parse_c1 := ⟨Tryd.f23, Tryd.func23, Tryd.ntmps23, C_mask_Parse_c1, by kernel_rfl⟩

-- lexicon/mask.isPath
abbrev F_mask_isPath : Nat := 24
def A_mask_isPath_0 : List AOper := [⟨some 5, .mov (.t 0), none⟩,
    ⟨some 6, .call 22 [(.t 5), (.c (.str [46]))], none⟩,
    ⟨some 7, .lenl (.t 6), none⟩,
    ⟨some 8, .mov (.c (.int .i64 (0))), none⟩]
def A_mask_isPath_1 : List AOper := [⟨some 10, .iaddr 9 1 (.t 6) (.t 8), none⟩,
    ⟨some 11, .ld1 (.t 10), none⟩,
    ⟨some 4, .mov (.t 11), none⟩]
def A_mask_isPath_2 : List AOper := [⟨some 12, .mov (.t 4), none⟩,
    ⟨some 13, .call 31 [(.t 12)], none⟩,
    ⟨some 14, .not (.t 13), none⟩]
def A_mask_isPath_3 : List AOper := [⟨some 15, .bini .add (.t 8) (.c (.int .i64 (1))), none⟩,
    ⟨some 8, .mov (.t 15), none⟩]
def A_mask_isPath_4 : ACode := (.seq (.ops [⟨some 9, .bini .lss (.t 8) (.t 7), none⟩]) (.seq (.cond (.t 9) .skip (.exit 0)) (.seq (.block 1 (.seq (.ops A_mask_isPath_1) (.seq (.ops A_mask_isPath_2) (.cond (.t 14) (.seq (.ops [⟨some 2, .mov (.c (.bool false)), none⟩]) .ret) .skip)))) (.ops A_mask_isPath_3))))
def A_mask_isPath : ACode := (.seq (.ops [⟨some 2, .mov (.c (.bool false)), none⟩]) (.seq (.seq (.ops A_mask_isPath_0) (.block 0 (.loop A_mask_isPath_4))) (.seq (.ops [⟨some 2, .mov (.c (.bool true)), none⟩]) .ret)))
def R_mask_isPath : List ARes := [.tmp 2]
theorem C_mask_isPath : compF Tryd.prog Tryd.f24 = some (A_mask_isPath, R_mask_isPath) := by kernel_rfl
theorem K_mask_isPath {args : List AV} {h : Hp} {Q : Res → Hp → Prop} (hl : LCode Tryd.prog A_mask_isPath (EndQ R_mask_isPath Q) (env0 16 args) h) (hn : args.length ≤ 16 := by (simp; done)) : CallL Tryd.prog F_mask_isPath args h Q :=
  CallL.of Tryd.func24 C_mask_isPath (by rw [Tryd.ntmps24]; exact hn) (by rw [Tryd.ntmps24]; exact hl)
def T_mask_isPath : FC := ⟨16, A_mask_isPath, R_mask_isPath⟩
theorem G_mask_isPath : GoodFC Tryd.prog F_mask_isPath T_mask_isPath := ⟨Tryd.f24, Tryd.func24, Tryd.ntmps24, C_mask_isPath, by kernel_rfl⟩

-- slices.Grow[[]string,string]
abbrev F_slices_Grow_string_string : Nat := 25
def A_slices_Grow_string_string_0 : List AOper := [⟨some 5, .mov (.t 1), none⟩,
    ⟨some 6, .bini .lss (.t 5) (.c (.int .i64 (0))), none⟩]
def A_slices_Grow_string_string_1 : List AOper := [⟨some 7, .mkifc 9 (.c (.str [99, 97, 110, 110, 111, 116, 32, 98, 101, 32, 110, 101, 103, 97, 116, 105, 118, 101])), none⟩,
    ⟨none, .pan (.t 7), none⟩]
def A_slices_Grow_string_string_2 : List AOper := [⟨some 8, .mov (.t 1), none⟩,
    ⟨some 9, .mov (.t 0), none⟩,
    ⟨some 10, .capk (.t 9), none⟩,
    ⟨some 11, .mov (.t 0), none⟩,
    ⟨some 12, .lenl (.t 11), none⟩,
    ⟨some 13, .bini .sub (.t 10) (.t 12), none⟩,
    ⟨some 14, .bini .sub (.t 8) (.t 13), none⟩,
    ⟨some 1, .mov (.t 14), none⟩]
def A_slices_Grow_string_string_3 : List AOper := [⟨some 15, .mov (.t 1), none⟩,
    ⟨some 16, .bini .gtr (.t 15) (.c (.int .i64 (0))), none⟩]
def A_slices_Grow_string_string_4 : List AOper := [⟨some 17, .mov (.t 0), none⟩,
    ⟨some 18, .mov (.t 0), none⟩,
    ⟨some 19, .capk (.t 18), none⟩,
    ⟨some 20, .slcl 9 1 (.t 17) none (some (.t 19)) none, none⟩,
    ⟨some 21, .mov (.t 1), none⟩,
    ⟨some 22, .appz 9 1 16 [.str []] (.t 20) (.t 21), none⟩,
    ⟨some 23, .mov (.t 0), none⟩,
    ⟨some 24, .lenl (.t 23), none⟩,
    ⟨some 25, .slcl 9 1 (.t 22) none (some (.t 24)) none, none⟩,
    ⟨some 0, .mov (.t 25), none⟩]
def A_slices_Grow_string_string_5 : List AOper := [⟨some 26, .mov (.t 0), none⟩,
    ⟨some 4, .mov (.t 26), none⟩]
def A_slices_Grow_string_string : ACode := (.seq (.ops [⟨some 4, .mov (.c (.nils)), none⟩]) (.seq (.seq (.ops A_slices_Grow_string_string_0) (.cond (.t 6) (.ops A_slices_Grow_string_string_1) .skip)) (.seq (.seq (.ops A_slices_Grow_string_string_2) (.seq (.ops A_slices_Grow_string_string_3) (.cond (.t 16) (.ops A_slices_Grow_string_string_4) .skip))) (.seq (.ops A_slices_Grow_string_string_5) .ret))))
def R_slices_Grow_string_string : List ARes := [.tmp 4]
theorem C_slices_Grow_string_string : compF Tryd.prog Tryd.f25 = some (A_slices_Grow_string_string, R_slices_Grow_string_string) := by kernel_rfl
theorem K_slices_Grow_string_string {args : List AV} {h : Hp} {Q : Res → Hp → Prop} (hl : LCode Tryd.prog A_slices_Grow_string_string (EndQ R_slices_Grow_string_string Q) (env0 27 args) h) (hn : args.length ≤ 27 := by (simp; done)) : CallL Tryd.prog F_slices_Grow_string_string args h Q :=
  CallL.of Tryd.func25 C_slices_Grow_string_string (by rw [Tryd.ntmps25]; exact hn) (by rw [Tryd.ntmps25]; exact hl)
def T_slices_Grow_string_string : FC := ⟨27, A_slices_Grow_string_string, R_slices_Grow_string_string⟩
theorem G_slices_Grow_string_string : GoodFC Tryd.prog F_slices_Grow_string_string T_slices_Grow_string_string := ⟨Tryd.f25, Tryd.func25, Tryd.ntmps25, C_slices_Grow_string_string, by kernel_rfl⟩

-- slices.pdqsortOrdered[string]
abbrev F_slices_pdqsortOrdered_string : Nat := 26
def A_slices_pdqsortOrdered_string_0 : List AOper := [⟨some 19, .mov (.t 2), none⟩,
    ⟨some 20, .mov (.t 1), none⟩,
    ⟨some 21, .bini .sub (.t 19) (.t 20), none⟩,
    ⟨some 10, .mov (.t 21), none⟩]
def A_slices_pdqsortOrdered_string_1 : List AOper := [⟨some 22, .mov (.t 10), none⟩,
    ⟨some 23, .bini .leq (.t 22) (.c (.int .i64 (12))), none⟩]
def A_slices_pdqsortOrdered_string_2 : List AOper := [⟨some 24, .mov (.t 0), none⟩,
    ⟨some 25, .mov (.t 1), none⟩,
    ⟨some 26, .mov (.t 2), none⟩,
    ⟨some 27, .call 32 [(.t 24), (.t 25), (.t 26)], none⟩]
def A_slices_pdqsortOrdered_string_3 : List AOper := [⟨some 28, .mov (.t 3), none⟩,
    ⟨some 29, .bini .eql (.t 28) (.c (.int .i64 (0))), none⟩]
def A_slices_pdqsortOrdered_string_4 : List AOper := [⟨some 30, .mov (.t 0), none⟩,
    ⟨some 31, .mov (.t 1), none⟩,
    ⟨some 32, .mov (.t 2), none⟩,
    ⟨some 33, .call 33 [(.t 30), (.t 31), (.t 32)], none⟩]
def A_slices_pdqsortOrdered_string_5 : List AOper := [⟨some 34, .mov (.t 8), none⟩,
    ⟨some 35, .not (.t 34), none⟩]
def A_slices_pdqsortOrdered_string_6 : List AOper := [⟨some 36, .mov (.t 0), none⟩,
    ⟨some 37, .mov (.t 1), none⟩,
    ⟨some 38, .mov (.t 2), none⟩,
    ⟨some 39, .call 34 [(.t 36), (.t 37), (.t 38)], none⟩]
def A_slices_pdqsortOrdered_string_7 : List AOper := [⟨some 40, .mov (.t 3), none⟩,
    ⟨some 41, .bini .sub (.t 40) (.c (.int .i64 (1))), none⟩,
    ⟨some 3, .mov (.t 41), none⟩]
def A_slices_pdqsortOrdered_string_8 : List AOper := [⟨some 43, .mov (.t 0), none⟩,
    ⟨some 44, .mov (.t 1), none⟩,
    ⟨some 45, .mov (.t 2), none⟩,
    ⟨some 46, .call 35 [(.t 43), (.t 44), (.t 45)], none⟩,
    ⟨some 42, .mov (.t 46), none⟩,
    ⟨some 47, .ext 0 (.t 42), none⟩,
    ⟨some 48, .ext 1 (.t 42), none⟩,
    ⟨some 11, .mov (.t 47), none⟩,
    ⟨some 12, .mov (.t 48), none⟩]
def A_slices_pdqsortOrdered_string_9 : List AOper := [⟨some 49, .mov (.t 12), none⟩,
    ⟨some 50, .bini .eql (.t 49) (.c (.int .i64 (2))), none⟩]
def A_slices_pdqsortOrdered_string_10 : List AOper := [⟨some 51, .mov (.t 0), none⟩,
    ⟨some 52, .mov (.t 1), none⟩,
    ⟨some 53, .mov (.t 2), none⟩,
    ⟨some 54, .call 36 [(.t 51), (.t 52), (.t 53)], none⟩]
def A_slices_pdqsortOrdered_string_11 : List AOper := [⟨some 55, .mov (.t 2), none⟩,
    ⟨some 56, .bini .sub (.t 55) (.c (.int .i64 (1))), none⟩,
    ⟨some 57, .mov (.t 11), none⟩,
    ⟨some 58, .mov (.t 1), none⟩,
    ⟨some 59, .bini .sub (.t 57) (.t 58), none⟩,
    ⟨some 60, .bini .sub (.t 56) (.t 59), none⟩,
    ⟨some 11, .mov (.t 60), none⟩]
def A_slices_pdqsortOrdered_string_12 : List AOper := [⟨some 61, .mov (.t 8), none⟩,
    ⟨some 62, .mov (.t 61), none⟩,
    ⟨some 63, .mov (.t 9), some (62, true)⟩,
    ⟨some 64, .pick (.t 62) (.t 63) (.c (.bool false)), none⟩,
    ⟨some 65, .mov (.t 64), none⟩,
    ⟨some 66, .mov (.t 12), some (65, true)⟩,
    ⟨some 67, .bini .eql (.t 66) (.c (.int .i64 (1))), some (65, true)⟩,
    ⟨some 68, .pick (.t 65) (.t 67) (.c (.bool false)), none⟩]
def A_slices_pdqsortOrdered_string_13 : List AOper := [⟨some 69, .mov (.t 0), none⟩,
    ⟨some 70, .mov (.t 1), none⟩,
    ⟨some 71, .mov (.t 2), none⟩,
    ⟨some 72, .call 37 [(.t 69), (.t 70), (.t 71)], none⟩]
def A_slices_pdqsortOrdered_string_14 : List AOper := [⟨some 73, .mov (.t 1), none⟩,
    ⟨some 74, .bini .gtr (.t 73) (.c (.int .i64 (0))), none⟩,
    ⟨some 75, .mov (.t 74), none⟩,
    ⟨some 76, .mov (.t 0), some (75, true)⟩,
    ⟨some 77, .mov (.t 1), some (75, true)⟩,
    ⟨some 78, .bini .sub (.t 77) (.c (.int .i64 (1))), some (75, true)⟩,
    ⟨some 79, .iaddr 9 1 (.t 76) (.t 78), some (75, true)⟩,
    ⟨some 80, .ld1 (.t 79), some (75, true)⟩,
    ⟨some 81, .mov (.t 0), some (75, true)⟩,
    ⟨some 82, .mov (.t 11), some (75, true)⟩,
    ⟨some 83, .iaddr 9 1 (.t 81) (.t 82), some (75, true)⟩,
    ⟨some 84, .ld1 (.t 83), some (75, true)⟩,
    ⟨some 85, .call 38 [(.t 80), (.t 84)], some (75, true)⟩,
    ⟨some 86, .not (.t 85), some (75, true)⟩,
    ⟨some 87, .pick (.t 75) (.t 86) (.c (.bool false)), none⟩]
def A_slices_pdqsortOrdered_string_15 : List AOper := [⟨some 88, .mov (.t 0), none⟩,
    ⟨some 89, .mov (.t 1), none⟩,
    ⟨some 90, .mov (.t 2), none⟩,
    ⟨some 91, .mov (.t 11), none⟩,
    ⟨some 92, .call 39 [(.t 88), (.t 89), (.t 90), (.t 91)], none⟩,
    ⟨some 13, .mov (.t 92), none⟩]
def A_slices_pdqsortOrdered_string_16 : List AOper := [⟨some 93, .mov (.t 13), none⟩,
    ⟨some 1, .mov (.t 93), none⟩]
def A_slices_pdqsortOrdered_string_17 : List AOper := [⟨some 95, .mov (.t 0), none⟩,
    ⟨some 96, .mov (.t 1), none⟩,
    ⟨some 97, .mov (.t 2), none⟩,
    ⟨some 98, .mov (.t 11), none⟩,
    ⟨some 99, .call 40 [(.t 95), (.t 96), (.t 97), (.t 98)], none⟩,
    ⟨some 94, .mov (.t 99), none⟩,
    ⟨some 100, .ext 0 (.t 94), none⟩,
    ⟨some 101, .ext 1 (.t 94), none⟩,
    ⟨some 14, .mov (.t 100), none⟩,
    ⟨some 15, .mov (.t 101), none⟩]
def A_slices_pdqsortOrdered_string_18 : List AOper := [⟨some 102, .mov (.t 15), none⟩,
    ⟨some 9, .mov (.t 102), none⟩]
def A_slices_pdqsortOrdered_string_19 : List AOper := [⟨some 103, .mov (.t 14), none⟩,
    ⟨some 104, .mov (.t 1), none⟩,
    ⟨some 105, .bini .sub (.t 103) (.t 104), none⟩,
    ⟨some 106, .mov (.t 2), none⟩,
    ⟨some 107, .mov (.t 14), none⟩,
    ⟨some 108, .bini .sub (.t 106) (.t 107), none⟩,
    ⟨some 16, .mov (.t 105), none⟩,
    ⟨some 17, .mov (.t 108), none⟩]
def A_slices_pdqsortOrdered_string_20 : List AOper := [⟨some 109, .mov (.t 10), none⟩,
    ⟨some 110, .bini .quo (.t 109) (.c (.int .i64 (8))), none⟩,
    ⟨some 18, .mov (.t 110), none⟩]
def A_slices_pdqsortOrdered_string_21 : List AOper := [⟨some 111, .mov (.t 16), none⟩,
    ⟨some 112, .mov (.t 17), none⟩,
    ⟨some 113, .bini .lss (.t 111) (.t 112), none⟩]
def A_slices_pdqsortOrdered_string_22 : List AOper := [⟨some 114, .mov (.t 16), none⟩,
    ⟨some 115, .mov (.t 18), none⟩,
    ⟨some 116, .bini .geq (.t 114) (.t 115), none⟩,
    ⟨some 8, .mov (.t 116), none⟩]
def A_slices_pdqsortOrdered_string_23 : List AOper := [⟨some 117, .mov (.t 0), none⟩,
    ⟨some 118, .mov (.t 1), none⟩,
    ⟨some 119, .mov (.t 14), none⟩,
    ⟨some 120, .mov (.t 3), none⟩,
    ⟨some 121, .call 26 [(.t 117), (.t 118), (.t 119), (.t 120)], none⟩]
def A_slices_pdqsortOrdered_string_24 : List AOper := [⟨some 122, .mov (.t 14), none⟩,
    ⟨some 123, .bini .add (.t 122) (.c (.int .i64 (1))), none⟩,
    ⟨some 1, .mov (.t 123), none⟩]
def A_slices_pdqsortOrdered_string_25 : List AOper := [⟨some 124, .mov (.t 17), none⟩,
    ⟨some 125, .mov (.t 18), none⟩,
    ⟨some 126, .bini .geq (.t 124) (.t 125), none⟩,
    ⟨some 8, .mov (.t 126), none⟩]
def A_slices_pdqsortOrdered_string_26 : List AOper := [⟨some 127, .mov (.t 0), none⟩,
    ⟨some 128, .mov (.t 14), none⟩,
    ⟨some 129, .bini .add (.t 128) (.c (.int .i64 (1))), none⟩,
    ⟨some 130, .mov (.t 2), none⟩,
    ⟨some 131, .mov (.t 3), none⟩,
    ⟨some 132, .call 26 [(.t 127), (.t 129), (.t 130), (.t 131)], none⟩]
def A_slices_pdqsortOrdered_string_27 : List AOper := [⟨some 133, .mov (.t 14), none⟩,
    ⟨some 2, .mov (.t 133), none⟩]
def A_slices_pdqsortOrdered_string_28 : ACode := (.block 1 (.seq (.ops A_slices_pdqsortOrdered_string_0) (.seq (.seq (.ops A_slices_pdqsortOrdered_string_1) (.cond (.t 23) (.seq (.ops A_slices_pdqsortOrdered_string_2) .ret) .skip)) (.seq (.seq (.ops A_slices_pdqsortOrdered_string_3) (.cond (.t 29) (.seq (.ops A_slices_pdqsortOrdered_string_4) .ret) .skip)) (.seq (.seq (.ops A_slices_pdqsortOrdered_string_5) (.cond (.t 35) (.seq (.ops A_slices_pdqsortOrdered_string_6) (.ops A_slices_pdqsortOrdered_string_7)) .skip)) (.seq (.ops A_slices_pdqsortOrdered_string_8) (.seq (.seq (.ops A_slices_pdqsortOrdered_string_9) (.cond (.t 50) (.seq (.ops A_slices_pdqsortOrdered_string_10) (.seq (.ops A_slices_pdqsortOrdered_string_11) (.ops [⟨some 12, .mov (.c (.int .i64 (1))), none⟩]))) .skip)) (.seq (.seq (.ops A_slices_pdqsortOrdered_string_12) (.cond (.t 68) (.seq (.ops A_slices_pdqsortOrdered_string_13) (.cond (.t 72) .ret .skip)) .skip)) (.seq (.seq (.alts [A_slices_pdqsortOrdered_string_14]) (.cond (.t 87) (.seq (.ops A_slices_pdqsortOrdered_string_15) (.seq (.ops A_slices_pdqsortOrdered_string_16) (.exit 1))) .skip)) (.seq (.ops A_slices_pdqsortOrdered_string_17) (.seq (.ops A_slices_pdqsortOrdered_string_18) (.seq (.ops A_slices_pdqsortOrdered_string_19) (.seq (.ops A_slices_pdqsortOrdered_string_20) (.seq (.ops A_slices_pdqsortOrdered_string_21) (.cond (.t 113) (.seq (.ops A_slices_pdqsortOrdered_string_22) (.seq (.ops A_slices_pdqsortOrdered_string_23) (.ops A_slices_pdqsortOrdered_string_24))) (.seq (.ops A_slices_pdqsortOrdered_string_25) (.seq (.ops A_slices_pdqsortOrdered_string_26) (.ops A_slices_pdqsortOrdered_string_27))))))))))))))))))
def A_slices_pdqsortOrdered_string : ACode := (.seq (.ops [⟨some 8, .mov (.c (.bool true)), none⟩]) (.seq (.ops [⟨some 9, .mov (.c (.bool true)), none⟩]) (.block 0 (.loop A_slices_pdqsortOrdered_string_28))))
def R_slices_pdqsortOrdered_string : List ARes := []
theorem C_slices_pdqsortOrdered_string : compF Tryd.prog Tryd.f26 = some (A_slices_pdqsortOrdered_string, R_slices_pdqsortOrdered_string) := by kernel_rfl
theorem K_slices_pdqsortOrdered_string {args : List AV} {h : Hp} {Q : Res → Hp → Prop} (hl : LCode Tryd.prog A_slices_pdqsortOrdered_string (EndQ R_slices_pdqsortOrdered_string Q) (env0 134 args) h) (hn : args.length ≤ 134 := by (simp; done)) : CallL Tryd.prog F_slices_pdqsortOrdered_string args h Q :=
  CallL.of Tryd.func26 C_slices_pdqsortOrdered_string (by rw [Tryd.ntmps26]; exact hn) (by rw [Tryd.ntmps26]; exact hl)
def T_slices_pdqsortOrdered_string : FC := ⟨134, A_slices_pdqsortOrdered_string, R_slices_pdqsortOrdered_string⟩
theorem G_slices_pdqsortOrdered_string : GoodFC Tryd.prog F_slices_pdqsortOrdered_string T_slices_pdqsortOrdered_string := ⟨Tryd.f26, Tryd.func26, Tryd.ntmps26, C_slices_pdqsortOrdered_string, by kernel_rfl⟩

-- math/bits.Len
abbrev F_math_bits_Len : Nat := 27
def A_math_bits_Len_0 : List AOper := [⟨some 3, .mov (.t 0), none⟩,
    ⟨some 4, .conv .u32 (.t 3), none⟩,
    ⟨some 5, .call 41 [(.t 4)], none⟩,
    ⟨some 2, .mov (.t 5), none⟩]
def A_math_bits_Len_1 : List AOper := [⟨some 6, .mov (.t 0), none⟩,
    ⟨some 7, .call 42 [(.t 6)], none⟩,
    ⟨some 2, .mov (.t 7), none⟩]
def A_math_bits_Len : ACode := (.seq (.ops [⟨some 2, .mov (.c (.int .i64 (0))), none⟩]) (.seq (.cond (.c (.bool false)) (.seq (.ops A_math_bits_Len_0) .ret) .skip) (.seq (.ops A_math_bits_Len_1) .ret)))
def R_math_bits_Len : List ARes := [.tmp 2]
theorem C_math_bits_Len : compF Tryd.prog Tryd.f27 = some (A_math_bits_Len, R_math_bits_Len) := by kernel_rfl
theorem K_math_bits_Len {args : List AV} {h : Hp} {Q : Res → Hp → Prop} (hl : LCode Tryd.prog A_math_bits_Len (EndQ R_math_bits_Len Q) (env0 8 args) h) (hn : args.length ≤ 8 := by (simp; done)) : CallL Tryd.prog F_math_bits_Len args h Q :=
  CallL.of Tryd.func27 C_math_bits_Len (by rw [Tryd.ntmps27]; exact hn) (by rw [Tryd.ntmps27]; exact hl)
def T_math_bits_Len : FC := ⟨8, A_math_bits_Len, R_math_bits_Len⟩
theorem G_math_bits_Len : GoodFC Tryd.prog F_math_bits_Len T_math_bits_Len := ⟨Tryd.f27, Tryd.func27, Tryd.ntmps27, C_math_bits_Len, by kernel_rfl⟩

-- slices.IndexFunc[[]string,string]
abbrev F_slices_IndexFunc_string_string : Nat := 28
def A_slices_IndexFunc_string_string_0 : List AOper := [⟨some 6, .mov (.t 0), none⟩,
    ⟨some 7, .lenl (.t 6), none⟩,
    ⟨some 8, .mov (.c (.int .i64 (0))), none⟩]
def A_slices_IndexFunc_string_string_1 : List AOper := [⟨some 10, .mov (.t 8), none⟩,
    ⟨some 5, .mov (.t 10), none⟩]
def A_slices_IndexFunc_string_string_2 : List AOper := [⟨some 11, .mov (.t 1), none⟩,
    ⟨some 12, .mov (.t 0), none⟩,
    ⟨some 13, .mov (.t 5), none⟩,
    ⟨some 14, .iaddr 9 1 (.t 12) (.t 13), none⟩,
    ⟨some 15, .ld1 (.t 14), none⟩,
    ⟨some 16, .callv (.t 11) [(.t 15)], none⟩]
def A_slices_IndexFunc_string_string_3 : List AOper := [⟨some 17, .mov (.t 5), none⟩,
    ⟨some 4, .mov (.t 17), none⟩]
def A_slices_IndexFunc_string_string_4 : List AOper := [⟨some 18, .bini .add (.t 8) (.c (.int .i64 (1))), none⟩,
    ⟨some 8, .mov (.t 18), none⟩]
def A_slices_IndexFunc_string_string_5 : ACode := (.seq (.ops [⟨some 9, .bini .lss (.t 8) (.t 7), none⟩]) (.seq (.cond (.t 9) .skip (.exit 0)) (.seq (.block 1 (.seq (.ops A_slices_IndexFunc_string_string_1) (.seq (.ops A_slices_IndexFunc_string_string_2) (.cond (.t 16) (.seq (.ops A_slices_IndexFunc_string_string_3) .ret) .skip)))) (.ops A_slices_IndexFunc_string_string_4))))
def A_slices_IndexFunc_string_string : ACode := (.seq (.ops [⟨some 4, .mov (.c (.int .i64 (0))), none⟩]) (.seq (.seq (.ops A_slices_IndexFunc_string_string_0) (.block 0 (.loop A_slices_IndexFunc_string_string_5))) (.seq (.ops [⟨some 4, .mov (.c (.int .i64 (-1))), none⟩]) .ret)))
def R_slices_IndexFunc_string_string : List ARes := [.tmp 4]
theorem C_slices_IndexFunc_string_string : compF Tryd.prog Tryd.f28 = some (A_slices_IndexFunc_string_string, R_slices_IndexFunc_string_string) := by kernel_rfl
theorem K_slices_IndexFunc_string_string {args : List AV} {h : Hp} {Q : Res → Hp → Prop} (hl : LCode Tryd.prog A_slices_IndexFunc_string_string (EndQ R_slices_IndexFunc_string_string Q) (env0 19 args) h) (hn : args.length ≤ 19 := by (simp; done)) : CallL Tryd.prog F_slices_IndexFunc_string_string args h Q :=
  CallL.of Tryd.func28 C_slices_IndexFunc_string_string (by rw [Tryd.ntmps28]; exact hn) (by rw [Tryd.ntmps28]; exact hl)
def T_slices_IndexFunc_string_string : FC := ⟨19, A_slices_IndexFunc_string_string, R_slices_IndexFunc_string_string⟩
theorem G_slices_IndexFunc_string_string : GoodFC Tryd.prog F_slices_IndexFunc_string_string T_slices_IndexFunc_string_string := ⟨Tryd.f28, Tryd.func28, Tryd.ntmps28, C_slices_IndexFunc_string_string, by kernel_rfl⟩

-- strings.CutPrefix
abbrev F_strings_CutPrefix : Nat := 29
def A_strings_CutPrefix_0 : List AOper := [⟨some 4, .mov (.c (.str [])), none⟩,
    ⟨some 5, .mov (.c (.bool false)), none⟩]
def A_strings_CutPrefix_1 : List AOper := [⟨some 6, .mov (.t 0), none⟩,
    ⟨some 7, .mov (.t 1), none⟩,
    ⟨some 8, .call 43 [(.t 6), (.t 7)], none⟩,
    ⟨some 9, .ext 0 (.t 8), none⟩,
    ⟨some 10, .ext 1 (.t 8), none⟩,
    ⟨some 4, .mov (.t 9), none⟩,
    ⟨some 5, .mov (.t 10), none⟩]
def A_strings_CutPrefix : ACode := (.seq (.ops A_strings_CutPrefix_0) (.seq (.ops A_strings_CutPrefix_1) .ret))
def R_strings_CutPrefix : List ARes := [.tmp 4, .tmp 5]
theorem C_strings_CutPrefix : compF Tryd.prog Tryd.f29 = some (A_strings_CutPrefix, R_strings_CutPrefix) := by kernel_rfl
theorem K_strings_CutPrefix {args : List AV} {h : Hp} {Q : Res → Hp → Prop} (hl : LCode Tryd.prog A_strings_CutPrefix (EndQ R_strings_CutPrefix Q) (env0 11 args) h) (hn : args.length ≤ 11 := by (simp; done)) : CallL Tryd.prog F_strings_CutPrefix args h Q :=
  CallL.of Tryd.func29 C_strings_CutPrefix (by rw [Tryd.ntmps29]; exact hn) (by rw [Tryd.ntmps29]; exact hl)
def T_strings_CutPrefix : FC := ⟨11, A_strings_CutPrefix, R_strings_CutPrefix⟩
theorem G_strings_CutPrefix : GoodFC Tryd.prog F_strings_CutPrefix T_strings_CutPrefix := ⟨Tryd.f29, Tryd.func29, Tryd.ntmps29, C_strings_CutPrefix, by kernel_rfl⟩

-- strings.genSplit
abbrev F_strings_genSplit : Nat := 30
def A_strings_genSplit_0 : List AOper := [⟨some 12, .mov (.t 3), none⟩,
    ⟨some 13, .bini .eql (.t 12) (.c (.int .i64 (0))), none⟩]
def A_strings_genSplit_1 : List AOper := [⟨some 14, .mov (.t 1), none⟩,
    ⟨some 15, .bins .eql (.t 14) (.c (.str [])), none⟩]
def A_strings_genSplit_2 : List AOper := [⟨some 16, .mov (.t 0), none⟩,
    ⟨some 17, .mov (.t 3), none⟩,
    ⟨some 18, .call 44 [(.t 16), (.t 17)], none⟩,
    ⟨some 8, .mov (.t 18), none⟩]
def A_strings_genSplit_3 : List AOper := [⟨some 19, .mov (.t 3), none⟩,
    ⟨some 20, .bini .lss (.t 19) (.c (.int .i64 (0))), none⟩]
def A_strings_genSplit_4 : List AOper := [⟨some 21, .mov (.t 0), none⟩,
    ⟨some 22, .mov (.t 1), none⟩,
    ⟨some 23, .call 45 [(.t 21), (.t 22)], none⟩,
    ⟨some 24, .bini .add (.t 23) (.c (.int .i64 (1))), none⟩,
    ⟨some 3, .mov (.t 24), none⟩]
def A_strings_genSplit_5 : List AOper := [⟨some 25, .mov (.t 3), none⟩,
    ⟨some 26, .mov (.t 0), none⟩,
    ⟨some 27, .lens (.t 26), none⟩,
    ⟨some 28, .bini .add (.t 27) (.c (.int .i64 (1))), none⟩,
    ⟨some 29, .mn (.t 25) (.t 28), none⟩,
    ⟨some 3, .mov (.t 29), none⟩]
def A_strings_genSplit_6 : List AOper := [⟨some 30, .mov (.t 3), none⟩,
    ⟨some 31, .mkslice 9 1 16 [.str []] (.t 30) (.t 30), none⟩,
    ⟨some 9, .mov (.t 31), none⟩]
def A_strings_genSplit_7 : List AOper := [⟨some 32, .mov (.t 3), none⟩,
    ⟨some 33, .bini .sub (.t 32) (.c (.int .i64 (1))), none⟩,
    ⟨some 3, .mov (.t 33), none⟩]
def A_strings_genSplit_8 : List AOper := [⟨some 34, .mov (.t 10), none⟩,
    ⟨some 35, .mov (.t 3), none⟩,
    ⟨some 36, .bini .lss (.t 34) (.t 35), none⟩]
def A_strings_genSplit_9 : List AOper := [⟨some 37, .mov (.t 0), none⟩,
    ⟨some 38, .mov (.t 1), none⟩,
    ⟨some 39, .call 46 [(.t 37), (.t 38)], none⟩,
    ⟨some 11, .mov (.t 39), none⟩]
def A_strings_genSplit_10 : List AOper := [⟨some 40, .mov (.t 11), none⟩,
    ⟨some 41, .bini .lss (.t 40) (.c (.int .i64 (0))), none⟩]
def A_strings_genSplit_11 : List AOper := [⟨some 42, .mov (.t 9), none⟩,
    ⟨some 43, .mov (.t 10), none⟩,
    ⟨some 44, .mov (.t 0), none⟩,
    ⟨some 45, .mov (.t 11), none⟩,
    ⟨some 46, .mov (.t 2), none⟩,
    ⟨some 47, .bini .add (.t 45) (.t 46), none⟩,
    ⟨some 48, .slcs (.t 44) none (some (.t 47)), none⟩,
    ⟨some 49, .iaddr 9 1 (.t 42) (.t 43), none⟩,
    ⟨none, .st 1 (.t 49) (.t 48), none⟩]
def A_strings_genSplit_12 : List AOper := [⟨some 50, .mov (.t 0), none⟩,
    ⟨some 51, .mov (.t 11), none⟩,
    ⟨some 52, .mov (.t 1), none⟩,
    ⟨some 53, .lens (.t 52), none⟩,
    ⟨some 54, .bini .add (.t 51) (.t 53), none⟩,
    ⟨some 55, .slcs (.t 50) (some (.t 54)) none, none⟩,
    ⟨some 0, .mov (.t 55), none⟩]
def A_strings_genSplit_13 : List AOper := [⟨some 56, .mov (.t 10), none⟩,
    ⟨some 57, .bini .add (.t 56) (.c (.int .i64 (1))), none⟩,
    ⟨some 10, .mov (.t 57), none⟩]
def A_strings_genSplit_14 : ACode := (.seq (.seq (.ops A_strings_genSplit_8) (.cond (.t 36) .skip (.exit 0))) (.block 1 (.seq (.ops A_strings_genSplit_9) (.seq (.seq (.ops A_strings_genSplit_10) (.cond (.t 41) (.exit 0) .skip)) (.seq (.ops A_strings_genSplit_11) (.seq (.ops A_strings_genSplit_12) (.ops A_strings_genSplit_13)))))))
def A_strings_genSplit_15 : List AOper := [⟨some 58, .mov (.t 9), none⟩,
    ⟨some 59, .mov (.t 10), none⟩,
    ⟨some 60, .mov (.t 0), none⟩,
    ⟨some 61, .iaddr 9 1 (.t 58) (.t 59), none⟩,
    ⟨none, .st 1 (.t 61) (.t 60), none⟩]
def A_strings_genSplit_16 : List AOper := [⟨some 62, .mov (.t 9), none⟩,
    ⟨some 63, .mov (.t 10), none⟩,
    ⟨some 64, .bini .add (.t 63) (.c (.int .i64 (1))), none⟩,
    ⟨some 65, .slcl 9 1 (.t 62) none (some (.t 64)) none, none⟩,
    ⟨some 8, .mov (.t 65), none⟩]
def A_strings_genSplit : ACode := (.seq (.ops [⟨some 8, .mov (.c (.nils)), none⟩]) (.seq (.seq (.ops A_strings_genSplit_0) (.cond (.t 13) (.seq (.ops [⟨some 8, .mov (.c (.nils)), none⟩]) .ret) .skip)) (.seq (.seq (.ops A_strings_genSplit_1) (.cond (.t 15) (.seq (.ops A_strings_genSplit_2) .ret) .skip)) (.seq (.seq (.ops A_strings_genSplit_3) (.cond (.t 20) (.ops A_strings_genSplit_4) .skip)) (.seq (.ops A_strings_genSplit_5) (.seq (.ops A_strings_genSplit_6) (.seq (.ops A_strings_genSplit_7) (.seq (.ops [⟨some 10, .mov (.c (.int .i64 (0))), none⟩]) (.seq (.block 0 (.loop A_strings_genSplit_14)) (.seq (.ops A_strings_genSplit_15) (.seq (.ops A_strings_genSplit_16) .ret)))))))))))
def R_strings_genSplit : List ARes := [.tmp 8]
theorem C_strings_genSplit : compF Tryd.prog Tryd.f30 = some (A_strings_genSplit, R_strings_genSplit) := by kernel_rfl
theorem K_strings_genSplit {args : List AV} {h : Hp} {Q : Res → Hp → Prop} (hl : LCode Tryd.prog A_strings_genSplit (EndQ R_strings_genSplit Q) (env0 66 args) h) (hn : args.length ≤ 66 := by (simp; done)) : CallL Tryd.prog F_strings_genSplit args h Q :=
  CallL.of Tryd.func30 C_strings_genSplit (by rw [Tryd.ntmps30]; exact hn) (by rw [Tryd.ntmps30]; exact hl)
def T_strings_genSplit : FC := ⟨66, A_strings_genSplit, R_strings_genSplit⟩
theorem G_strings_genSplit : GoodFC Tryd.prog F_strings_genSplit T_strings_genSplit := ⟨Tryd.f30, Tryd.func30, Tryd.ntmps30, C_strings_genSplit, by kernel_rfl⟩

-- lexicon/texts.Ident
abbrev F_texts_Ident : Nat := 31
def A_texts_Ident_0 : List AOper := [⟨some 5, .mov (.t 0), none⟩,
    ⟨some 6, .bins .eql (.t 5) (.c (.str [])), none⟩,
    ⟨some 7, .mov (.t 6), none⟩,
    ⟨some 8, .mov (.t 0), some (7, false)⟩,
    ⟨some 9, .lens (.t 8), some (7, false)⟩,
    ⟨some 10, .bini .gtr (.t 9) (.c (.int .i64 (255))), some (7, false)⟩,
    ⟨some 11, .pick (.t 7) (.c (.bool true)) (.t 10), none⟩,
    ⟨some 12, .mov (.t 11), none⟩,
    ⟨some 13, .mov (.t 0), some (12, false)⟩,
    ⟨some 14, .idxs (.t 13) (.c (.int .i64 (0))), some (12, false)⟩,
    ⟨some 15, .call 47 [(.t 14)], some (12, false)⟩,
    ⟨some 16, .pick (.t 12) (.c (.bool true)) (.t 15), none⟩]
def A_texts_Ident_1 : List AOper := [⟨some 17, .mov (.t 0), none⟩,
    ⟨some 18, .lens (.t 17), none⟩,
    ⟨some 19, .mov (.c (.int .i64 (0))), none⟩]
def A_texts_Ident_2 : List AOper := [⟨some 21, .mov (.t 19), none⟩,
    ⟨some 3, .mov (.t 21), none⟩]
def A_texts_Ident_3 : List AOper := [⟨some 22, .mov (.t 0), none⟩,
    ⟨some 23, .mov (.t 3), none⟩,
    ⟨some 24, .idxs (.t 22) (.t 23), none⟩,
    ⟨some 4, .mov (.t 24), none⟩]
def A_texts_Ident_4 : List AOper := [⟨some 25, .mov (.t 4), none⟩,
    ⟨some 26, .call 48 [(.t 25)], none⟩,
    ⟨some 27, .not (.t 26), none⟩,
    ⟨some 28, .mov (.t 27), none⟩,
    ⟨some 29, .mov (.t 4), some (28, true)⟩,
    ⟨some 30, .call 49 [(.t 29)], some (28, true)⟩,
    ⟨some 31, .not (.t 30), some (28, true)⟩,
    ⟨some 32, .pick (.t 28) (.t 31) (.c (.bool false)), none⟩,
    ⟨some 33, .mov (.t 32), none⟩,
    ⟨some 34, .mov (.t 4), some (33, true)⟩,
    ⟨some 35, .call 47 [(.t 34)], some (33, true)⟩,
    ⟨some 36, .not (.t 35), some (33, true)⟩,
    ⟨some 37, .pick (.t 33) (.t 36) (.c (.bool false)), none⟩,
    ⟨some 38, .mov (.t 37), none⟩,
    ⟨some 39, .mov (.t 4), some (38, true)⟩,
    ⟨some 40, .bini .neq (.t 39) (.c (.int .u8 (95))), some (38, true)⟩,
    ⟨some 41, .pick (.t 38) (.t 40) (.c (.bool false)), none⟩]
def A_texts_Ident_5 : List AOper := [⟨some 42, .bini .add (.t 19) (.c (.int .i64 (1))), none⟩,
    ⟨some 19, .mov (.t 42), none⟩]
def A_texts_Ident_6 : ACode := (.seq (.ops [⟨some 20, .bini .lss (.t 19) (.t 18), none⟩]) (.seq (.cond (.t 20) .skip (.exit 0)) (.seq (.block 1 (.seq (.ops A_texts_Ident_2) (.seq (.ops A_texts_Ident_3) (.seq (.ops A_texts_Ident_4) (.cond (.t 41) (.seq (.ops [⟨some 2, .mov (.c (.bool false)), none⟩]) .ret) .skip))))) (.ops A_texts_Ident_5))))
def A_texts_Ident : ACode := (.seq (.ops [⟨some 2, .mov (.c (.bool false)), none⟩]) (.seq (.seq (.ops A_texts_Ident_0) (.cond (.t 16) (.seq (.ops [⟨some 2, .mov (.c (.bool false)), none⟩]) .ret) .skip)) (.seq (.seq (.ops A_texts_Ident_1) (.block 0 (.loop A_texts_Ident_6))) (.seq (.ops [⟨some 2, .mov (.c (.bool true)), none⟩]) .ret))))
def R_texts_Ident : List ARes := [.tmp 2]
theorem C_texts_Ident : compF Tryd.prog Tryd.f31 = some (A_texts_Ident, R_texts_Ident) := by kernel_rfl
theorem K_texts_Ident {args : List AV} {h : Hp} {Q : Res → Hp → Prop} (hl : LCode Tryd.prog A_texts_Ident (EndQ R_texts_Ident Q) (env0 43 args) h) (hn : args.length ≤ 43 := by (simp; done)) : CallL Tryd.prog F_texts_Ident args h Q :=
  CallL.of Tryd.func31 C_texts_Ident (by rw [Tryd.ntmps31]; exact hn) (by rw [Tryd.ntmps31]; exact hl)
def T_texts_Ident : FC := ⟨43, A_texts_Ident, R_texts_Ident⟩
theorem G_texts_Ident : GoodFC Tryd.prog F_texts_Ident T_texts_Ident := ⟨Tryd.f31, Tryd.func31, Tryd.ntmps31, C_texts_Ident, by kernel_rfl⟩

-- slices.insertionSortOrdered[string]
abbrev F_slices_insertionSortOrdered_string : Nat := 32
def A_slices_insertionSortOrdered_string_0 : List AOper := [⟨some 8, .mov (.t 1), none⟩,
    ⟨some 9, .bini .add (.t 8) (.c (.int .i64 (1))), none⟩,
    ⟨some 6, .mov (.t 9), none⟩]
def A_slices_insertionSortOrdered_string_1 : List AOper := [⟨some 10, .mov (.t 6), none⟩,
    ⟨some 11, .mov (.t 2), none⟩,
    ⟨some 12, .bini .lss (.t 10) (.t 11), none⟩]
def A_slices_insertionSortOrdered_string_2 : List AOper := [⟨some 15, .mov (.t 6), none⟩,
    ⟨some 7, .mov (.t 15), none⟩]
def A_slices_insertionSortOrdered_string_3 : List AOper := [⟨some 16, .mov (.t 7), none⟩,
    ⟨some 17, .mov (.t 1), none⟩,
    ⟨some 18, .bini .gtr (.t 16) (.t 17), none⟩,
    ⟨some 19, .mov (.t 18), none⟩,
    ⟨some 20, .mov (.t 0), some (19, true)⟩,
    ⟨some 21, .mov (.t 7), some (19, true)⟩,
    ⟨some 22, .iaddr 9 1 (.t 20) (.t 21), some (19, true)⟩,
    ⟨some 23, .ld1 (.t 22), some (19, true)⟩,
    ⟨some 24, .mov (.t 0), some (19, true)⟩,
    ⟨some 25, .mov (.t 7), some (19, true)⟩,
    ⟨some 26, .bini .sub (.t 25) (.c (.int .i64 (1))), some (19, true)⟩,
    ⟨some 27, .iaddr 9 1 (.t 24) (.t 26), some (19, true)⟩,
    ⟨some 28, .ld1 (.t 27), some (19, true)⟩,
    ⟨some 29, .call 38 [(.t 23), (.t 28)], some (19, true)⟩,
    ⟨some 30, .pick (.t 19) (.t 29) (.c (.bool false)), none⟩]
def A_slices_insertionSortOrdered_string_4 : List AOper := [⟨some 33, .mov (.t 0), none⟩,
    ⟨some 34, .mov (.t 7), none⟩,
    ⟨some 35, .mov (.t 0), none⟩,
    ⟨some 36, .mov (.t 7), none⟩,
    ⟨some 37, .bini .sub (.t 36) (.c (.int .i64 (1))), none⟩,
    ⟨some 38, .mov (.t 0), none⟩,
    ⟨some 39, .mov (.t 7), none⟩,
    ⟨some 40, .bini .sub (.t 39) (.c (.int .i64 (1))), none⟩,
    ⟨some 41, .iaddr 9 1 (.t 38) (.t 40), none⟩,
    ⟨some 42, .ld1 (.t 41), none⟩,
    ⟨some 43, .mov (.t 0), none⟩,
    ⟨some 44, .mov (.t 7), none⟩,
    ⟨some 45, .iaddr 9 1 (.t 43) (.t 44), none⟩,
    ⟨some 46, .ld1 (.t 45), none⟩,
    ⟨some 47, .iaddr 9 1 (.t 33) (.t 34), none⟩,
    ⟨none, .st 1 (.t 47) (.t 42), none⟩,
    ⟨some 48, .iaddr 9 1 (.t 35) (.t 37), none⟩,
    ⟨none, .st 1 (.t 48) (.t 46), none⟩]
def A_slices_insertionSortOrdered_string_5 : List AOper := [⟨some 31, .mov (.t 7), none⟩,
    ⟨some 32, .bini .sub (.t 31) (.c (.int .i64 (1))), none⟩,
    ⟨some 7, .mov (.t 32), none⟩]
def A_slices_insertionSortOrdered_string_6 : ACode := (.seq (.seq (.alts [A_slices_insertionSortOrdered_string_3]) (.cond (.t 30) .skip (.exit 2))) (.seq (.block 3 (.alts [A_slices_insertionSortOrdered_string_4])) (.ops A_slices_insertionSortOrdered_string_5)))
def A_slices_insertionSortOrdered_string_7 : List AOper := [⟨some 13, .mov (.t 6), none⟩,
    ⟨some 14, .bini .add (.t 13) (.c (.int .i64 (1))), none⟩,
    ⟨some 6, .mov (.t 14), none⟩]
def A_slices_insertionSortOrdered_string_8 : ACode := (.seq (.seq (.ops A_slices_insertionSortOrdered_string_1) (.cond (.t 12) .skip (.exit 0))) (.seq (.block 1 (.seq (.ops A_slices_insertionSortOrdered_string_2) (.block 2 (.loop A_slices_insertionSortOrdered_string_6)))) (.ops A_slices_insertionSortOrdered_string_7)))
def A_slices_insertionSortOrdered_string : ACode := (.seq (.ops A_slices_insertionSortOrdered_string_0) (.block 0 (.loop A_slices_insertionSortOrdered_string_8)))
def R_slices_insertionSortOrdered_string : List ARes := []
theorem C_slices_insertionSortOrdered_string : compF Tryd.prog Tryd.f32 = some (A_slices_insertionSortOrdered_string, R_slices_insertionSortOrdered_string) := by kernel_rfl
theorem K_slices_insertionSortOrdered_string {args : List AV} {h : Hp} {Q : Res → Hp → Prop} (hl : LCode Tryd.prog A_slices_insertionSortOrdered_string (EndQ R_slices_insertionSortOrdered_string Q) (env0 49 args) h) (hn : args.length ≤ 49 := by (simp; done)) : CallL Tryd.prog F_slices_insertionSortOrdered_string args h Q :=
  CallL.of Tryd.func32 C_slices_insertionSortOrdered_string (by rw [Tryd.ntmps32]; exact hn) (by rw [Tryd.ntmps32]; exact hl)
def T_slices_insertionSortOrdered_string : FC := ⟨49, A_slices_insertionSortOrdered_string, R_slices_insertionSortOrdered_string⟩
theorem G_slices_insertionSortOrdered_string : GoodFC Tryd.prog F_slices_insertionSortOrdered_string T_slices_insertionSortOrdered_string := ⟨Tryd.f32, Tryd.func32, Tryd.ntmps32, C_slices_insertionSortOrdered_string, by kernel_rfl⟩

-- slices.heapSortOrdered[string]
abbrev F_slices_heapSortOrdered_string : Nat := 33
def A_slices_heapSortOrdered_string_0 : List AOper := [⟨some 11, .mov (.t 1), none⟩,
    ⟨some 6, .mov (.t 11), none⟩]
def A_slices_heapSortOrdered_string_1 : List AOper := [⟨some 12, .mov (.t 2), none⟩,
    ⟨some 13, .mov (.t 1), none⟩,
    ⟨some 14, .bini .sub (.t 12) (.t 13), none⟩,
    ⟨some 8, .mov (.t 14), none⟩]
def A_slices_heapSortOrdered_string_2 : List AOper := [⟨some 15, .mov (.t 8), none⟩,
    ⟨some 16, .bini .sub (.t 15) (.c (.int .i64 (1))), none⟩,
    ⟨some 17, .bini .quo (.t 16) (.c (.int .i64 (2))), none⟩,
    ⟨some 9, .mov (.t 17), none⟩]
def A_slices_heapSortOrdered_string_3 : List AOper := [⟨some 18, .mov (.t 9), none⟩,
    ⟨some 19, .bini .geq (.t 18) (.c (.int .i64 (0))), none⟩]
def A_slices_heapSortOrdered_string_4 : List AOper := [⟨some 22, .mov (.t 0), none⟩,
    ⟨some 23, .mov (.t 9), none⟩,
    ⟨some 24, .mov (.t 8), none⟩,
    ⟨some 25, .mov (.t 6), none⟩,
    ⟨some 26, .call 50 [(.t 22), (.t 23), (.t 24), (.t 25)], none⟩]
def A_slices_heapSortOrdered_string_5 : List AOper := [⟨some 20, .mov (.t 9), none⟩,
    ⟨some 21, .bini .sub (.t 20) (.c (.int .i64 (1))), none⟩,
    ⟨some 9, .mov (.t 21), none⟩]
def A_slices_heapSortOrdered_string_6 : ACode := (.seq (.seq (.ops A_slices_heapSortOrdered_string_3) (.cond (.t 19) .skip (.exit 0))) (.seq (.block 1 (.ops A_slices_heapSortOrdered_string_4)) (.ops A_slices_heapSortOrdered_string_5)))
def A_slices_heapSortOrdered_string_7 : List AOper := [⟨some 27, .mov (.t 8), none⟩,
    ⟨some 28, .bini .sub (.t 27) (.c (.int .i64 (1))), none⟩,
    ⟨some 10, .mov (.t 28), none⟩]
def A_slices_heapSortOrdered_string_8 : List AOper := [⟨some 29, .mov (.t 10), none⟩,
    ⟨some 30, .bini .geq (.t 29) (.c (.int .i64 (0))), none⟩]
def A_slices_heapSortOrdered_string_9 : List AOper := [⟨some 33, .mov (.t 0), none⟩,
    ⟨some 34, .mov (.t 6), none⟩,
    ⟨some 35, .mov (.t 0), none⟩,
    ⟨some 36, .mov (.t 6), none⟩,
    ⟨some 37, .mov (.t 10), none⟩,
    ⟨some 38, .bini .add (.t 36) (.t 37), none⟩,
    ⟨some 39, .mov (.t 0), none⟩,
    ⟨some 40, .mov (.t 6), none⟩,
    ⟨some 41, .mov (.t 10), none⟩,
    ⟨some 42, .bini .add (.t 40) (.t 41), none⟩,
    ⟨some 43, .iaddr 9 1 (.t 39) (.t 42), none⟩,
    ⟨some 44, .ld1 (.t 43), none⟩,
    ⟨some 45, .mov (.t 0), none⟩,
    ⟨some 46, .mov (.t 6), none⟩,
    ⟨some 47, .iaddr 9 1 (.t 45) (.t 46), none⟩,
    ⟨some 48, .ld1 (.t 47), none⟩,
    ⟨some 49, .iaddr 9 1 (.t 33) (.t 34), none⟩,
    ⟨none, .st 1 (.t 49) (.t 44), none⟩,
    ⟨some 50, .iaddr 9 1 (.t 35) (.t 38), none⟩,
    ⟨none, .st 1 (.t 50) (.t 48), none⟩]
def A_slices_heapSortOrdered_string_10 : List AOper := [⟨some 51, .mov (.t 0), none⟩,
    ⟨some 52, .mov (.t 7), none⟩,
    ⟨some 53, .mov (.t 10), none⟩,
    ⟨some 54, .mov (.t 6), none⟩,
    ⟨some 55, .call 50 [(.t 51), (.t 52), (.t 53), (.t 54)], none⟩]
def A_slices_heapSortOrdered_string_11 : List AOper := [⟨some 31, .mov (.t 10), none⟩,
    ⟨some 32, .bini .sub (.t 31) (.c (.int .i64 (1))), none⟩,
    ⟨some 10, .mov (.t 32), none⟩]
def A_slices_heapSortOrdered_string_12 : ACode := (.seq (.seq (.ops A_slices_heapSortOrdered_string_8) (.cond (.t 30) .skip (.exit 2))) (.seq (.block 3 (.seq (.alts [A_slices_heapSortOrdered_string_9]) (.ops A_slices_heapSortOrdered_string_10))) (.ops A_slices_heapSortOrdered_string_11)))
def A_slices_heapSortOrdered_string : ACode := (.seq (.ops A_slices_heapSortOrdered_string_0) (.seq (.ops [⟨some 7, .mov (.c (.int .i64 (0))), none⟩]) (.seq (.ops A_slices_heapSortOrdered_string_1) (.seq (.seq (.ops A_slices_heapSortOrdered_string_2) (.block 0 (.loop A_slices_heapSortOrdered_string_6))) (.seq (.ops A_slices_heapSortOrdered_string_7) (.block 2 (.loop A_slices_heapSortOrdered_string_12)))))))
def R_slices_heapSortOrdered_string : List ARes := []
theorem C_slices_heapSortOrdered_string : compF Tryd.prog Tryd.f33 = some (A_slices_heapSortOrdered_string, R_slices_heapSortOrdered_string) := by kernel_rfl
theorem K_slices_heapSortOrdered_string {args : List AV} {h : Hp} {Q : Res → Hp → Prop} (hl : LCode Tryd.prog A_slices_heapSortOrdered_string (EndQ R_slices_heapSortOrdered_string Q) (env0 56 args) h) (hn : args.length ≤ 56 := by (simp; done)) : CallL Tryd.prog F_slices_heapSortOrdered_string args h Q :=
  CallL.of Tryd.func33 C_slices_heapSortOrdered_string (by rw [Tryd.ntmps33]; exact hn) (by rw [Tryd.ntmps33]; exact hl)
def T_slices_heapSortOrdered_string : FC := ⟨56, A_slices_heapSortOrdered_string, R_slices_heapSortOrdered_string⟩
theorem G_slices_heapSortOrdered_string : GoodFC Tryd.prog F_slices_heapSortOrdered_string T_slices_heapSortOrdered_string := ⟨Tryd.f33, Tryd.func33, Tryd.ntmps33, C_slices_heapSortOrdered_string, by kernel_rfl⟩

-- slices.breakPatternsOrdered[string]
abbrev F_slices_breakPatternsOrdered_string : Nat := 34
def A_slices_breakPatternsOrdered_string_0 : List AOper := [⟨some 11, .mov (.t 2), none⟩,
    ⟨some 12, .mov (.t 1), none⟩,
    ⟨some 13, .bini .sub (.t 11) (.t 12), none⟩,
    ⟨some 6, .mov (.t 13), none⟩]
def A_slices_breakPatternsOrdered_string_1 : List AOper := [⟨some 14, .mov (.t 6), none⟩,
    ⟨some 15, .bini .geq (.t 14) (.c (.int .i64 (8))), none⟩]
def A_slices_breakPatternsOrdered_string_2 : List AOper := [⟨some 16, .mov (.t 6), none⟩,
    ⟨some 17, .conv .u64 (.t 16), none⟩,
    ⟨some 7, .box 64 1 (.c (.int .u64 (0))), none⟩,
    ⟨none, .st 1 (.t 7) (.t 17), none⟩]
def A_slices_breakPatternsOrdered_string_3 : List AOper := [⟨some 18, .mov (.t 6), none⟩,
    ⟨some 19, .call 51 [(.t 18)], none⟩,
    ⟨some 8, .mov (.t 19), none⟩]
def A_slices_breakPatternsOrdered_string_4 : List AOper := [⟨some 20, .mov (.t 1), none⟩,
    ⟨some 21, .mov (.t 6), none⟩,
    ⟨some 22, .bini .quo (.t 21) (.c (.int .i64 (4))), none⟩,
    ⟨some 23, .bini .mul (.t 22) (.c (.int .i64 (2))), none⟩,
    ⟨some 24, .bini .add (.t 20) (.t 23), none⟩,
    ⟨some 25, .bini .sub (.t 24) (.c (.int .i64 (1))), none⟩,
    ⟨some 9, .mov (.t 25), none⟩]
def A_slices_breakPatternsOrdered_string_5 : List AOper := [⟨some 26, .mov (.t 9), none⟩,
    ⟨some 27, .mov (.t 1), none⟩,
    ⟨some 28, .mov (.t 6), none⟩,
    ⟨some 29, .bini .quo (.t 28) (.c (.int .i64 (4))), none⟩,
    ⟨some 30, .bini .mul (.t 29) (.c (.int .i64 (2))), none⟩,
    ⟨some 31, .bini .add (.t 27) (.t 30), none⟩,
    ⟨some 32, .bini .add (.t 31) (.c (.int .i64 (1))), none⟩,
    ⟨some 33, .bini .leq (.t 26) (.t 32), none⟩]
def A_slices_breakPatternsOrdered_string_6 : List AOper := [⟨some 36, .call 52 [(.t 7)], none⟩,
    ⟨some 37, .mov (.t 8), none⟩,
    ⟨some 38, .bini .sub (.t 37) (.c (.int .u64 (1))), none⟩,
    ⟨some 39, .bini .and (.t 36) (.t 38), none⟩,
    ⟨some 40, .conv .i64 (.t 39), none⟩,
    ⟨some 10, .mov (.t 40), none⟩]
def A_slices_breakPatternsOrdered_string_7 : List AOper := [⟨some 41, .mov (.t 10), none⟩,
    ⟨some 42, .mov (.t 6), none⟩,
    ⟨some 43, .bini .geq (.t 41) (.t 42), none⟩]
def A_slices_breakPatternsOrdered_string_8 : List AOper := [⟨some 44, .mov (.t 10), none⟩,
    ⟨some 45, .mov (.t 6), none⟩,
    ⟨some 46, .bini .sub (.t 44) (.t 45), none⟩,
    ⟨some 10, .mov (.t 46), none⟩]
def A_slices_breakPatternsOrdered_string_9 : List AOper := [⟨some 47, .mov (.t 0), none⟩,
    ⟨some 48, .mov (.t 9), none⟩,
    ⟨some 49, .mov (.t 0), none⟩,
    ⟨some 50, .mov (.t 1), none⟩,
    ⟨some 51, .mov (.t 10), none⟩,
    ⟨some 52, .bini .add (.t 50) (.t 51), none⟩,
    ⟨some 53, .mov (.t 0), none⟩,
    ⟨some 54, .mov (.t 1), none⟩,
    ⟨some 55, .mov (.t 10), none⟩,
    ⟨some 56, .bini .add (.t 54) (.t 55), none⟩,
    ⟨some 57, .iaddr 9 1 (.t 53) (.t 56), none⟩,
    ⟨some 58, .ld1 (.t 57), none⟩,
    ⟨some 59, .mov (.t 0), none⟩,
    ⟨some 60, .mov (.t 9), none⟩,
    ⟨some 61, .iaddr 9 1 (.t 59) (.t 60), none⟩,
    ⟨some 62, .ld1 (.t 61), none⟩,
    ⟨some 63, .iaddr 9 1 (.t 47) (.t 48), none⟩,
    ⟨none, .st 1 (.t 63) (.t 58), none⟩,
    ⟨some 64, .iaddr 9 1 (.t 49) (.t 52), none⟩,
    ⟨none, .st 1 (.t 64) (.t 62), none⟩]
def A_slices_breakPatternsOrdered_string_10 : List AOper := [⟨some 34, .mov (.t 9), none⟩,
    ⟨some 35, .bini .add (.t 34) (.c (.int .i64 (1))), none⟩,
    ⟨some 9, .mov (.t 35), none⟩]
def A_slices_breakPatternsOrdered_string_11 : ACode := (.seq (.seq (.ops A_slices_breakPatternsOrdered_string_5) (.cond (.t 33) .skip (.exit 0))) (.seq (.block 1 (.seq (.ops A_slices_breakPatternsOrdered_string_6) (.seq (.seq (.ops A_slices_breakPatternsOrdered_string_7) (.cond (.t 43) (.ops A_slices_breakPatternsOrdered_string_8) .skip)) (.alts [A_slices_breakPatternsOrdered_string_9])))) (.ops A_slices_breakPatternsOrdered_string_10)))
def A_slices_breakPatternsOrdered_string : ACode := (.seq (.ops A_slices_breakPatternsOrdered_string_0) (.seq (.ops A_slices_breakPatternsOrdered_string_1) (.cond (.t 15) (.seq (.ops A_slices_breakPatternsOrdered_string_2) (.seq (.ops A_slices_breakPatternsOrdered_string_3) (.seq (.ops A_slices_breakPatternsOrdered_string_4) (.block 0 (.loop A_slices_breakPatternsOrdered_string_11))))) .skip)))
def R_slices_breakPatternsOrdered_string : List ARes := []
theorem C_slices_breakPatternsOrdered_string : compF Tryd.prog Tryd.f34 = some (A_slices_breakPatternsOrdered_string, R_slices_breakPatternsOrdered_string) := by kernel_rfl
theorem K_slices_breakPatternsOrdered_string {args : List AV} {h : Hp} {Q : Res → Hp → Prop} (hl : LCode Tryd.prog A_slices_breakPatternsOrdered_string (EndQ R_slices_breakPatternsOrdered_string Q) (env0 65 args) h) (hn : args.length ≤ 65 := by (simp; done)) : CallL Tryd.prog F_slices_breakPatternsOrdered_string args h Q :=
  CallL.of Tryd.func34 C_slices_breakPatternsOrdered_string (by rw [Tryd.ntmps34]; exact hn) (by rw [Tryd.ntmps34]; exact hl)
def T_slices_breakPatternsOrdered_string : FC := ⟨65, A_slices_breakPatternsOrdered_string, R_slices_breakPatternsOrdered_string⟩
theorem G_slices_breakPatternsOrdered_string : GoodFC Tryd.prog F_slices_breakPatternsOrdered_string T_slices_breakPatternsOrdered_string := ⟨Tryd.f34, Tryd.func34, Tryd.ntmps34, C_slices_breakPatternsOrdered_string, by kernel_rfl⟩

-- slices.choosePivotOrdered[string]
abbrev F_slices_choosePivotOrdered_string : Nat := 35
def A_slices_choosePivotOrdered_string_0 : List AOper := [⟨some 6, .mov (.c (.int .i64 (0))), none⟩,
    ⟨some 7, .mov (.c (.int .i64 (0))), none⟩]
def A_slices_choosePivotOrdered_string_1 : List AOper := [⟨some 13, .mov (.t 2), none⟩,
    ⟨some 14, .mov (.t 1), none⟩,
    ⟨some 15, .bini .sub (.t 13) (.t 14), none⟩,
    ⟨some 8, .mov (.t 15), none⟩]
def A_slices_choosePivotOrdered_string_2 : List AOper := [⟨some 16, .mov (.t 1), none⟩,
    ⟨some 17, .mov (.t 8), none⟩,
    ⟨some 18, .bini .quo (.t 17) (.c (.int .i64 (4))), none⟩,
    ⟨some 19, .bini .mul (.t 18) (.c (.int .i64 (1))), none⟩,
    ⟨some 20, .bini .add (.t 16) (.t 19), none⟩,
    ⟨some 10, .mov (.t 20), none⟩]
def A_slices_choosePivotOrdered_string_3 : List AOper := [⟨some 21, .mov (.t 1), none⟩,
    ⟨some 22, .mov (.t 8), none⟩,
    ⟨some 23, .bini .quo (.t 22) (.c (.int .i64 (4))), none⟩,
    ⟨some 24, .bini .mul (.t 23) (.c (.int .i64 (2))), none⟩,
    ⟨some 25, .bini .add (.t 21) (.t 24), none⟩,
    ⟨some 11, .mov (.t 25), none⟩]
def A_slices_choosePivotOrdered_string_4 : List AOper := [⟨some 26, .mov (.t 1), none⟩,
    ⟨some 27, .mov (.t 8), none⟩,
    ⟨some 28, .bini .quo (.t 27) (.c (.int .i64 (4))), none⟩,
    ⟨some 29, .bini .mul (.t 28) (.c (.int .i64 (3))), none⟩,
    ⟨some 30, .bini .add (.t 26) (.t 29), none⟩,
    ⟨some 12, .mov (.t 30), none⟩]
def A_slices_choosePivotOrdered_string_5 : List AOper := [⟨some 31, .mov (.t 8), none⟩,
    ⟨some 32, .bini .geq (.t 31) (.c (.int .i64 (8))), none⟩]
def A_slices_choosePivotOrdered_string_6 : List AOper := [⟨some 33, .mov (.t 8), none⟩,
    ⟨some 34, .bini .geq (.t 33) (.c (.int .i64 (50))), none⟩]
def A_slices_choosePivotOrdered_string_7 : List AOper := [⟨some 35, .mov (.t 0), none⟩,
    ⟨some 36, .mov (.t 10), none⟩,
    ⟨some 37, .call 53 [(.t 35), (.t 36), (.t 9)], none⟩,
    ⟨some 10, .mov (.t 37), none⟩]
def A_slices_choosePivotOrdered_string_8 : List AOper := [⟨some 38, .mov (.t 0), none⟩,
    ⟨some 39, .mov (.t 11), none⟩,
    ⟨some 40, .call 53 [(.t 38), (.t 39), (.t 9)], none⟩,
    ⟨some 11, .mov (.t 40), none⟩]
def A_slices_choosePivotOrdered_string_9 : List AOper := [⟨some 41, .mov (.t 0), none⟩,
    ⟨some 42, .mov (.t 12), none⟩,
    ⟨some 43, .call 53 [(.t 41), (.t 42), (.t 9)], none⟩,
    ⟨some 12, .mov (.t 43), none⟩]
def A_slices_choosePivotOrdered_string_10 : List AOper := [⟨some 44, .mov (.t 0), none⟩,
    ⟨some 45, .mov (.t 10), none⟩,
    ⟨some 46, .mov (.t 11), none⟩,
    ⟨some 47, .mov (.t 12), none⟩,
    ⟨some 48, .call 54 [(.t 44), (.t 45), (.t 46), (.t 47), (.t 9)], none⟩,
    ⟨some 11, .mov (.t 48), none⟩]
def A_slices_choosePivotOrdered_string_11 : List AOper := [⟨some 52, .bini .eql (.t 49) (.c (.int .i64 (0))), none⟩,
    ⟨some 51, .mov (.t 52), none⟩]
def A_slices_choosePivotOrdered_string_12 : List AOper := [⟨some 53, .mov (.t 11), none⟩,
    ⟨some 6, .mov (.t 53), none⟩,
    ⟨some 7, .mov (.c (.int .i64 (1))), none⟩]
def A_slices_choosePivotOrdered_string_13 : List AOper := [⟨some 55, .bini .eql (.t 49) (.c (.int .i64 (12))), none⟩,
    ⟨some 54, .mov (.t 55), none⟩]
def A_slices_choosePivotOrdered_string_14 : List AOper := [⟨some 56, .mov (.t 11), none⟩,
    ⟨some 6, .mov (.t 56), none⟩,
    ⟨some 7, .mov (.c (.int .i64 (2))), none⟩]
def A_slices_choosePivotOrdered_string_15 : List AOper := [⟨some 50, .mov (.t 11), none⟩,
    ⟨some 6, .mov (.t 50), none⟩,
    ⟨some 7, .mov (.c (.int .i64 (0))), none⟩]
def A_slices_choosePivotOrdered_string : ACode := (.seq (.ops A_slices_choosePivotOrdered_string_0) (.seq (.ops A_slices_choosePivotOrdered_string_1) (.seq (.ops [⟨some 9, .box 3 1 (.c (.int .i64 (0))), none⟩]) (.seq (.ops A_slices_choosePivotOrdered_string_2) (.seq (.ops A_slices_choosePivotOrdered_string_3) (.seq (.ops A_slices_choosePivotOrdered_string_4) (.seq (.seq (.ops A_slices_choosePivotOrdered_string_5) (.cond (.t 32) (.seq (.seq (.ops A_slices_choosePivotOrdered_string_6) (.cond (.t 34) (.seq (.ops A_slices_choosePivotOrdered_string_7) (.seq (.ops A_slices_choosePivotOrdered_string_8) (.ops A_slices_choosePivotOrdered_string_9))) .skip)) (.ops A_slices_choosePivotOrdered_string_10)) .skip)) (.seq (.ops [⟨some 49, .ld1 (.t 9), none⟩]) (.block 0 (.seq (.ops A_slices_choosePivotOrdered_string_11) (.cond (.t 51) (.seq (.ops A_slices_choosePivotOrdered_string_12) .ret) (.seq (.ops A_slices_choosePivotOrdered_string_13) (.cond (.t 54) (.seq (.ops A_slices_choosePivotOrdered_string_14) .ret) (.seq (.ops A_slices_choosePivotOrdered_string_15) .ret))))))))))))))
def R_slices_choosePivotOrdered_string : List ARes := [.tmp 6, .tmp 7]
theorem C_slices_choosePivotOrdered_string : compF Tryd.prog Tryd.f35 = some (A_slices_choosePivotOrdered_string, R_slices_choosePivotOrdered_string) := by kernel_rfl
theorem K_slices_choosePivotOrdered_string {args : List AV} {h : Hp} {Q : Res → Hp → Prop} (hl : LCode Tryd.prog A_slices_choosePivotOrdered_string (EndQ R_slices_choosePivotOrdered_string Q) (env0 57 args) h) (hn : args.length ≤ 57 := by (simp; done)) : CallL Tryd.prog F_slices_choosePivotOrdered_string args h Q :=
  CallL.of Tryd.func35 C_slices_choosePivotOrdered_string (by rw [Tryd.ntmps35]; exact hn) (by rw [Tryd.ntmps35]; exact hl)
def T_slices_choosePivotOrdered_string : FC := ⟨57, A_slices_choosePivotOrdered_string, R_slices_choosePivotOrdered_string⟩
theorem G_slices_choosePivotOrdered_string : GoodFC Tryd.prog F_slices_choosePivotOrdered_string T_slices_choosePivotOrdered_string := ⟨Tryd.f35, Tryd.func35, Tryd.ntmps35, C_slices_choosePivotOrdered_string, by kernel_rfl⟩

-- slices.reverseRangeOrdered[string]
abbrev F_slices_reverseRangeOrdered_string : Nat := 36
def A_slices_reverseRangeOrdered_string_0 : List AOper := [⟨some 8, .mov (.t 1), none⟩,
    ⟨some 6, .mov (.t 8), none⟩]
def A_slices_reverseRangeOrdered_string_1 : List AOper := [⟨some 9, .mov (.t 2), none⟩,
    ⟨some 10, .bini .sub (.t 9) (.c (.int .i64 (1))), none⟩,
    ⟨some 7, .mov (.t 10), none⟩]
def A_slices_reverseRangeOrdered_string_2 : List AOper := [⟨some 11, .mov (.t 6), none⟩,
    ⟨some 12, .mov (.t 7), none⟩,
    ⟨some 13, .bini .lss (.t 11) (.t 12), none⟩]
def A_slices_reverseRangeOrdered_string_3 : List AOper := [⟨some 14, .mov (.t 0), none⟩,
    ⟨some 15, .mov (.t 6), none⟩,
    ⟨some 16, .mov (.t 0), none⟩,
    ⟨some 17, .mov (.t 7), none⟩,
    ⟨some 18, .mov (.t 0), none⟩,
    ⟨some 19, .mov (.t 7), none⟩,
    ⟨some 20, .iaddr 9 1 (.t 18) (.t 19), none⟩,
    ⟨some 21, .ld1 (.t 20), none⟩,
    ⟨some 22, .mov (.t 0), none⟩,
    ⟨some 23, .mov (.t 6), none⟩,
    ⟨some 24, .iaddr 9 1 (.t 22) (.t 23), none⟩,
    ⟨some 25, .ld1 (.t 24), none⟩,
    ⟨some 26, .iaddr 9 1 (.t 14) (.t 15), none⟩,
    ⟨none, .st 1 (.t 26) (.t 21), none⟩,
    ⟨some 27, .iaddr 9 1 (.t 16) (.t 17), none⟩,
    ⟨none, .st 1 (.t 27) (.t 25), none⟩]
def A_slices_reverseRangeOrdered_string_4 : List AOper := [⟨some 28, .mov (.t 6), none⟩,
    ⟨some 29, .bini .add (.t 28) (.c (.int .i64 (1))), none⟩,
    ⟨some 6, .mov (.t 29), none⟩]
def A_slices_reverseRangeOrdered_string_5 : List AOper := [⟨some 30, .mov (.t 7), none⟩,
    ⟨some 31, .bini .sub (.t 30) (.c (.int .i64 (1))), none⟩,
    ⟨some 7, .mov (.t 31), none⟩]
def A_slices_reverseRangeOrdered_string_6 : ACode := (.seq (.seq (.ops A_slices_reverseRangeOrdered_string_2) (.cond (.t 13) .skip (.exit 0))) (.block 1 (.seq (.alts [A_slices_reverseRangeOrdered_string_3]) (.seq (.ops A_slices_reverseRangeOrdered_string_4) (.ops A_slices_reverseRangeOrdered_string_5)))))
def A_slices_reverseRangeOrdered_string : ACode := (.seq (.ops A_slices_reverseRangeOrdered_string_0) (.seq (.ops A_slices_reverseRangeOrdered_string_1) (.block 0 (.loop A_slices_reverseRangeOrdered_string_6))))
def R_slices_reverseRangeOrdered_string : List ARes := []
theorem C_slices_reverseRangeOrdered_string : compF Tryd.prog Tryd.f36 = some (A_slices_reverseRangeOrdered_string, R_slices_reverseRangeOrdered_string) := by kernel_rfl
theorem K_slices_reverseRangeOrdered_string {args : List AV} {h : Hp} {Q : Res → Hp → Prop} (hl : LCode Tryd.prog A_slices_reverseRangeOrdered_string (EndQ R_slices_reverseRangeOrdered_string Q) (env0 32 args) h) (hn : args.length ≤ 32 := by (simp; done)) : CallL Tryd.prog F_slices_reverseRangeOrdered_string args h Q :=
  CallL.of Tryd.func36 C_slices_reverseRangeOrdered_string (by rw [Tryd.ntmps36]; exact hn) (by rw [Tryd.ntmps36]; exact hl)
def T_slices_reverseRangeOrdered_string : FC := ⟨32, A_slices_reverseRangeOrdered_string, R_slices_reverseRangeOrdered_string⟩
theorem G_slices_reverseRangeOrdered_string : GoodFC Tryd.prog F_slices_reverseRangeOrdered_string T_slices_reverseRangeOrdered_string := ⟨Tryd.f36, Tryd.func36, Tryd.ntmps36, C_slices_reverseRangeOrdered_string, by kernel_rfl⟩

-- slices.partialInsertionSortOrdered[string]
abbrev F_slices_partialInsertionSortOrdered_string : Nat := 37
def A_slices_partialInsertionSortOrdered_string_0 : List AOper := [⟨some 11, .mov (.t 1), none⟩,
    ⟨some 12, .bini .add (.t 11) (.c (.int .i64 (1))), none⟩,
    ⟨some 7, .mov (.t 12), none⟩]
def A_slices_partialInsertionSortOrdered_string_1 : List AOper := [⟨some 13, .mov (.t 8), none⟩,
    ⟨some 14, .bini .lss (.t 13) (.c (.int .i64 (5))), none⟩]
def A_slices_partialInsertionSortOrdered_string_2 : List AOper := [⟨some 17, .mov (.t 7), none⟩,
    ⟨some 18, .mov (.t 2), none⟩,
    ⟨some 19, .bini .lss (.t 17) (.t 18), none⟩,
    ⟨some 20, .mov (.t 19), none⟩,
    ⟨some 21, .mov (.t 0), some (20, true)⟩,
    ⟨some 22, .mov (.t 7), some (20, true)⟩,
    ⟨some 23, .iaddr 9 1 (.t 21) (.t 22), some (20, true)⟩,
    ⟨some 24, .ld1 (.t 23), some (20, true)⟩,
    ⟨some 25, .mov (.t 0), some (20, true)⟩,
    ⟨some 26, .mov (.t 7), some (20, true)⟩,
    ⟨some 27, .bini .sub (.t 26) (.c (.int .i64 (1))), some (20, true)⟩,
    ⟨some 28, .iaddr 9 1 (.t 25) (.t 27), some (20, true)⟩,
    ⟨some 29, .ld1 (.t 28), some (20, true)⟩,
    ⟨some 30, .call 38 [(.t 24), (.t 29)], some (20, true)⟩,
    ⟨some 31, .not (.t 30), some (20, true)⟩,
    ⟨some 32, .pick (.t 20) (.t 31) (.c (.bool false)), none⟩]
def A_slices_partialInsertionSortOrdered_string_3 : List AOper := [⟨some 33, .mov (.t 7), none⟩,
    ⟨some 34, .bini .add (.t 33) (.c (.int .i64 (1))), none⟩,
    ⟨some 7, .mov (.t 34), none⟩]
def A_slices_partialInsertionSortOrdered_string_4 : ACode := (.seq (.seq (.alts [A_slices_partialInsertionSortOrdered_string_2]) (.cond (.t 32) .skip (.exit 2))) (.block 3 (.ops A_slices_partialInsertionSortOrdered_string_3)))
def A_slices_partialInsertionSortOrdered_string_5 : List AOper := [⟨some 35, .mov (.t 7), none⟩,
    ⟨some 36, .mov (.t 2), none⟩,
    ⟨some 37, .bini .eql (.t 35) (.t 36), none⟩]
def A_slices_partialInsertionSortOrdered_string_6 : List AOper := [⟨some 38, .mov (.t 2), none⟩,
    ⟨some 39, .mov (.t 1), none⟩,
    ⟨some 40, .bini .sub (.t 38) (.t 39), none⟩,
    ⟨some 41, .bini .lss (.t 40) (.c (.int .i64 (50))), none⟩]
def A_slices_partialInsertionSortOrdered_string_7 : List AOper := [⟨some 42, .mov (.t 0), none⟩,
    ⟨some 43, .mov (.t 7), none⟩,
    ⟨some 44, .mov (.t 0), none⟩,
    ⟨some 45, .mov (.t 7), none⟩,
    ⟨some 46, .bini .sub (.t 45) (.c (.int .i64 (1))), none⟩,
    ⟨some 47, .mov (.t 0), none⟩,
    ⟨some 48, .mov (.t 7), none⟩,
    ⟨some 49, .bini .sub (.t 48) (.c (.int .i64 (1))), none⟩,
    ⟨some 50, .iaddr 9 1 (.t 47) (.t 49), none⟩,
    ⟨some 51, .ld1 (.t 50), none⟩,
    ⟨some 52, .mov (.t 0), none⟩,
    ⟨some 53, .mov (.t 7), none⟩,
    ⟨some 54, .iaddr 9 1 (.t 52) (.t 53), none⟩,
    ⟨some 55, .ld1 (.t 54), none⟩,
    ⟨some 56, .iaddr 9 1 (.t 42) (.t 43), none⟩,
    ⟨none, .st 1 (.t 56) (.t 51), none⟩,
    ⟨some 57, .iaddr 9 1 (.t 44) (.t 46), none⟩,
    ⟨none, .st 1 (.t 57) (.t 55), none⟩]
def A_slices_partialInsertionSortOrdered_string_8 : List AOper := [⟨some 58, .mov (.t 7), none⟩,
    ⟨some 59, .mov (.t 1), none⟩,
    ⟨some 60, .bini .sub (.t 58) (.t 59), none⟩,
    ⟨some 61, .bini .geq (.t 60) (.c (.int .i64 (2))), none⟩]
def A_slices_partialInsertionSortOrdered_string_9 : List AOper := [⟨some 62, .mov (.t 7), none⟩,
    ⟨some 63, .bini .sub (.t 62) (.c (.int .i64 (1))), none⟩,
    ⟨some 9, .mov (.t 63), none⟩]
def A_slices_partialInsertionSortOrdered_string_10 : List AOper := [⟨some 64, .mov (.t 9), none⟩,
    ⟨some 65, .bini .geq (.t 64) (.c (.int .i64 (1))), none⟩]
def A_slices_partialInsertionSortOrdered_string_11 : List AOper := [⟨some 68, .mov (.t 0), none⟩,
    ⟨some 69, .mov (.t 9), none⟩,
    ⟨some 70, .iaddr 9 1 (.t 68) (.t 69), none⟩,
    ⟨some 71, .ld1 (.t 70), none⟩,
    ⟨some 72, .mov (.t 0), none⟩,
    ⟨some 73, .mov (.t 9), none⟩,
    ⟨some 74, .bini .sub (.t 73) (.c (.int .i64 (1))), none⟩,
    ⟨some 75, .iaddr 9 1 (.t 72) (.t 74), none⟩,
    ⟨some 76, .ld1 (.t 75), none⟩,
    ⟨some 77, .call 38 [(.t 71), (.t 76)], none⟩,
    ⟨some 78, .not (.t 77), none⟩]
def A_slices_partialInsertionSortOrdered_string_12 : List AOper := [⟨some 79, .mov (.t 0), none⟩,
    ⟨some 80, .mov (.t 9), none⟩,
    ⟨some 81, .mov (.t 0), none⟩,
    ⟨some 82, .mov (.t 9), none⟩,
    ⟨some 83, .bini .sub (.t 82) (.c (.int .i64 (1))), none⟩,
    ⟨some 84, .mov (.t 0), none⟩,
    ⟨some 85, .mov (.t 9), none⟩,
    ⟨some 86, .bini .sub (.t 85) (.c (.int .i64 (1))), none⟩,
    ⟨some 87, .iaddr 9 1 (.t 84) (.t 86), none⟩,
    ⟨some 88, .ld1 (.t 87), none⟩,
    ⟨some 89, .mov (.t 0), none⟩,
    ⟨some 90, .mov (.t 9), none⟩,
    ⟨some 91, .iaddr 9 1 (.t 89) (.t 90), none⟩,
    ⟨some 92, .ld1 (.t 91), none⟩,
    ⟨some 93, .iaddr 9 1 (.t 79) (.t 80), none⟩,
    ⟨none, .st 1 (.t 93) (.t 88), none⟩,
    ⟨some 94, .iaddr 9 1 (.t 81) (.t 83), none⟩,
    ⟨none, .st 1 (.t 94) (.t 92), none⟩]
def A_slices_partialInsertionSortOrdered_string_13 : List AOper := [⟨some 66, .mov (.t 9), none⟩,
    ⟨some 67, .bini .sub (.t 66) (.c (.int .i64 (1))), none⟩,
    ⟨some 9, .mov (.t 67), none⟩]
def A_slices_partialInsertionSortOrdered_string_14 : ACode := (.seq (.seq (.ops A_slices_partialInsertionSortOrdered_string_10) (.cond (.t 65) .skip (.exit 4))) (.seq (.block 5 (.seq (.seq (.alts [A_slices_partialInsertionSortOrdered_string_11]) (.cond (.t 78) (.exit 4) .skip)) (.alts [A_slices_partialInsertionSortOrdered_string_12]))) (.ops A_slices_partialInsertionSortOrdered_string_13)))
def A_slices_partialInsertionSortOrdered_string_15 : List AOper := [⟨some 95, .mov (.t 2), none⟩,
    ⟨some 96, .mov (.t 7), none⟩,
    ⟨some 97, .bini .sub (.t 95) (.t 96), none⟩,
    ⟨some 98, .bini .geq (.t 97) (.c (.int .i64 (2))), none⟩]
def A_slices_partialInsertionSortOrdered_string_16 : List AOper := [⟨some 99, .mov (.t 7), none⟩,
    ⟨some 100, .bini .add (.t 99) (.c (.int .i64 (1))), none⟩,
    ⟨some 10, .mov (.t 100), none⟩]
def A_slices_partialInsertionSortOrdered_string_17 : List AOper := [⟨some 101, .mov (.t 10), none⟩,
    ⟨some 102, .mov (.t 2), none⟩,
    ⟨some 103, .bini .lss (.t 101) (.t 102), none⟩]
def A_slices_partialInsertionSortOrdered_string_18 : List AOper := [⟨some 106, .mov (.t 0), none⟩,
    ⟨some 107, .mov (.t 10), none⟩,
    ⟨some 108, .iaddr 9 1 (.t 106) (.t 107), none⟩,
    ⟨some 109, .ld1 (.t 108), none⟩,
    ⟨some 110, .mov (.t 0), none⟩,
    ⟨some 111, .mov (.t 10), none⟩,
    ⟨some 112, .bini .sub (.t 111) (.c (.int .i64 (1))), none⟩,
    ⟨some 113, .iaddr 9 1 (.t 110) (.t 112), none⟩,
    ⟨some 114, .ld1 (.t 113), none⟩,
    ⟨some 115, .call 38 [(.t 109), (.t 114)], none⟩,
    ⟨some 116, .not (.t 115), none⟩]
def A_slices_partialInsertionSortOrdered_string_19 : List AOper := [⟨some 117, .mov (.t 0), none⟩,
    ⟨some 118, .mov (.t 10), none⟩,
    ⟨some 119, .mov (.t 0), none⟩,
    ⟨some 120, .mov (.t 10), none⟩,
    ⟨some 121, .bini .sub (.t 120) (.c (.int .i64 (1))), none⟩,
    ⟨some 122, .mov (.t 0), none⟩,
    ⟨some 123, .mov (.t 10), none⟩,
    ⟨some 124, .bini .sub (.t 123) (.c (.int .i64 (1))), none⟩,
    ⟨some 125, .iaddr 9 1 (.t 122) (.t 124), none⟩,
    ⟨some 126, .ld1 (.t 125), none⟩,
    ⟨some 127, .mov (.t 0), none⟩,
    ⟨some 128, .mov (.t 10), none⟩,
    ⟨some 129, .iaddr 9 1 (.t 127) (.t 128), none⟩,
    ⟨some 130, .ld1 (.t 129), none⟩,
    ⟨some 131, .iaddr 9 1 (.t 117) (.t 118), none⟩,
    ⟨none, .st 1 (.t 131) (.t 126), none⟩,
    ⟨some 132, .iaddr 9 1 (.t 119) (.t 121), none⟩,
    ⟨none, .st 1 (.t 132) (.t 130), none⟩]
def A_slices_partialInsertionSortOrdered_string_20 : List AOper := [⟨some 104, .mov (.t 10), none⟩,
    ⟨some 105, .bini .add (.t 104) (.c (.int .i64 (1))), none⟩,
    ⟨some 10, .mov (.t 105), none⟩]
def A_slices_partialInsertionSortOrdered_string_21 : ACode := (.seq (.seq (.ops A_slices_partialInsertionSortOrdered_string_17) (.cond (.t 103) .skip (.exit 6))) (.seq (.block 7 (.seq (.seq (.alts [A_slices_partialInsertionSortOrdered_string_18]) (.cond (.t 116) (.exit 6) .skip)) (.alts [A_slices_partialInsertionSortOrdered_string_19]))) (.ops A_slices_partialInsertionSortOrdered_string_20)))
def A_slices_partialInsertionSortOrdered_string_22 : List AOper := [⟨some 15, .mov (.t 8), none⟩,
    ⟨some 16, .bini .add (.t 15) (.c (.int .i64 (1))), none⟩,
    ⟨some 8, .mov (.t 16), none⟩]
def A_slices_partialInsertionSortOrdered_string_23 : ACode := (.seq (.seq (.ops A_slices_partialInsertionSortOrdered_string_1) (.cond (.t 14) .skip (.exit 0))) (.seq (.block 1 (.seq (.block 2 (.loop A_slices_partialInsertionSortOrdered_string_4)) (.seq (.seq (.ops A_slices_partialInsertionSortOrdered_string_5) (.cond (.t 37) (.seq (.ops [⟨some 6, .mov (.c (.bool true)), none⟩]) .ret) .skip)) (.seq (.seq (.ops A_slices_partialInsertionSortOrdered_string_6) (.cond (.t 41) (.seq (.ops [⟨some 6, .mov (.c (.bool false)), none⟩]) .ret) .skip)) (.seq (.alts [A_slices_partialInsertionSortOrdered_string_7]) (.seq (.seq (.ops A_slices_partialInsertionSortOrdered_string_8) (.cond (.t 61) (.seq (.ops A_slices_partialInsertionSortOrdered_string_9) (.block 4 (.loop A_slices_partialInsertionSortOrdered_string_14))) .skip)) (.seq (.ops A_slices_partialInsertionSortOrdered_string_15) (.cond (.t 98) (.seq (.ops A_slices_partialInsertionSortOrdered_string_16) (.block 6 (.loop A_slices_partialInsertionSortOrdered_string_21))) .skip)))))))) (.ops A_slices_partialInsertionSortOrdered_string_22)))
def A_slices_partialInsertionSortOrdered_string : ACode := (.seq (.ops [⟨some 6, .mov (.c (.bool false)), none⟩]) (.seq (.ops A_slices_partialInsertionSortOrdered_string_0) (.seq (.seq (.ops [⟨some 8, .mov (.c (.int .i64 (0))), none⟩]) (.block 0 (.loop A_slices_partialInsertionSortOrdered_string_23))) (.seq (.ops [⟨some 6, .mov (.c (.bool false)), none⟩]) .ret))))
def R_slices_partialInsertionSortOrdered_string : List ARes := [.tmp 6]
theorem C_slices_partialInsertionSortOrdered_string : compF Tryd.prog Tryd.f37 = some (A_slices_partialInsertionSortOrdered_string, R_slices_partialInsertionSortOrdered_string) := by kernel_rfl
theorem K_slices_partialInsertionSortOrdered_string {args : List AV} {h : Hp} {Q : Res → Hp → Prop} (hl : LCode Tryd.prog A_slices_partialInsertionSortOrdered_string (EndQ R_slices_partialInsertionSortOrdered_string Q) (env0 133 args) h) (hn : args.length ≤ 133 := by (simp; done)) : CallL Tryd.prog F_slices_partialInsertionSortOrdered_string args h Q :=
  CallL.of Tryd.func37 C_slices_partialInsertionSortOrdered_string (by rw [Tryd.ntmps37]; exact hn) (by rw [Tryd.ntmps37]; exact hl)
def T_slices_partialInsertionSortOrdered_string : FC := ⟨133, A_slices_partialInsertionSortOrdered_string, R_slices_partialInsertionSortOrdered_string⟩
theorem G_slices_partialInsertionSortOrdered_string : GoodFC Tryd.prog F_slices_partialInsertionSortOrdered_string T_slices_partialInsertionSortOrdered_string := ⟨Tryd.f37, Tryd.func37, Tryd.ntmps37, C_slices_partialInsertionSortOrdered_string, by kernel_rfl⟩

-- cmp.Less[string]
abbrev F_cmp_Less_string : Nat := 38
def A_cmp_Less_string_0 : List AOper := [⟨some 5, .mov (.t 0), none⟩,
    ⟨some 6, .call 55 [(.t 5)], none⟩,
    ⟨some 7, .mov (.t 6), none⟩,
    ⟨some 8, .mov (.t 1), some (7, true)⟩,
    ⟨some 9, .call 55 [(.t 8)], some (7, true)⟩,
    ⟨some 10, .not (.t 9), some (7, true)⟩,
    ⟨some 11, .pick (.t 7) (.t 10) (.c (.bool false)), none⟩,
    ⟨some 12, .mov (.t 11), none⟩,
    ⟨some 13, .mov (.t 0), some (12, false)⟩,
    ⟨some 14, .mov (.t 1), some (12, false)⟩,
    ⟨some 15, .bins .lss (.t 13) (.t 14), some (12, false)⟩,
    ⟨some 16, .pick (.t 12) (.c (.bool true)) (.t 15), none⟩,
    ⟨some 4, .mov (.t 16), none⟩]
def A_cmp_Less_string : ACode := (.seq (.ops [⟨some 4, .mov (.c (.bool false)), none⟩]) (.seq (.ops A_cmp_Less_string_0) .ret))
def R_cmp_Less_string : List ARes := [.tmp 4]
theorem C_cmp_Less_string : compF Tryd.prog Tryd.f38 = some (A_cmp_Less_string, R_cmp_Less_string) := by kernel_rfl
theorem K_cmp_Less_string {args : List AV} {h : Hp} {Q : Res → Hp → Prop} (hl : LCode Tryd.prog A_cmp_Less_string (EndQ R_cmp_Less_string Q) (env0 17 args) h) (hn : args.length ≤ 17 := by (simp; done)) : CallL Tryd.prog F_cmp_Less_string args h Q :=
  CallL.of Tryd.func38 C_cmp_Less_string (by rw [Tryd.ntmps38]; exact hn) (by rw [Tryd.ntmps38]; exact hl)
def T_cmp_Less_string : FC := ⟨17, A_cmp_Less_string, R_cmp_Less_string⟩
theorem G_cmp_Less_string : GoodFC Tryd.prog F_cmp_Less_string T_cmp_Less_string := ⟨Tryd.f38, Tryd.func38, Tryd.ntmps38, C_cmp_Less_string, by kernel_rfl⟩

-- slices.partitionEqualOrdered[string]
abbrev F_slices_partitionEqualOrdered_string : Nat := 39
def A_slices_partitionEqualOrdered_string_0 : List AOper := [⟨some 11, .mov (.t 0), none⟩,
    ⟨some 12, .mov (.t 1), none⟩,
    ⟨some 13, .mov (.t 0), none⟩,
    ⟨some 14, .mov (.t 3), none⟩,
    ⟨some 15, .mov (.t 0), none⟩,
    ⟨some 16, .mov (.t 3), none⟩,
    ⟨some 17, .iaddr 9 1 (.t 15) (.t 16), none⟩,
    ⟨some 18, .ld1 (.t 17), none⟩,
    ⟨some 19, .mov (.t 0), none⟩,
    ⟨some 20, .mov (.t 1), none⟩,
    ⟨some 21, .iaddr 9 1 (.t 19) (.t 20), none⟩,
    ⟨some 22, .ld1 (.t 21), none⟩,
    ⟨some 23, .iaddr 9 1 (.t 11) (.t 12), none⟩,
    ⟨none, .st 1 (.t 23) (.t 18), none⟩,
    ⟨some 24, .iaddr 9 1 (.t 13) (.t 14), none⟩,
    ⟨none, .st 1 (.t 24) (.t 22), none⟩]
def A_slices_partitionEqualOrdered_string_1 : List AOper := [⟨some 25, .mov (.t 1), none⟩,
    ⟨some 26, .bini .add (.t 25) (.c (.int .i64 (1))), none⟩,
    ⟨some 27, .mov (.t 2), none⟩,
    ⟨some 28, .bini .sub (.t 27) (.c (.int .i64 (1))), none⟩,
    ⟨some 9, .mov (.t 26), none⟩,
    ⟨some 10, .mov (.t 28), none⟩]
def A_slices_partitionEqualOrdered_string_2 : List AOper := [⟨some 29, .mov (.t 9), none⟩,
    ⟨some 30, .mov (.t 10), none⟩,
    ⟨some 31, .bini .leq (.t 29) (.t 30), none⟩,
    ⟨some 32, .mov (.t 31), none⟩,
    ⟨some 33, .mov (.t 0), some (32, true)⟩,
    ⟨some 34, .mov (.t 1), some (32, true)⟩,
    ⟨some 35, .iaddr 9 1 (.t 33) (.t 34), some (32, true)⟩,
    ⟨some 36, .ld1 (.t 35), some (32, true)⟩,
    ⟨some 37, .mov (.t 0), some (32, true)⟩,
    ⟨some 38, .mov (.t 9), some (32, true)⟩,
    ⟨some 39, .iaddr 9 1 (.t 37) (.t 38), some (32, true)⟩,
    ⟨some 40, .ld1 (.t 39), some (32, true)⟩,
    ⟨some 41, .call 38 [(.t 36), (.t 40)], some (32, true)⟩,
    ⟨some 42, .not (.t 41), some (32, true)⟩,
    ⟨some 43, .pick (.t 32) (.t 42) (.c (.bool false)), none⟩]
def A_slices_partitionEqualOrdered_string_3 : List AOper := [⟨some 44, .mov (.t 9), none⟩,
    ⟨some 45, .bini .add (.t 44) (.c (.int .i64 (1))), none⟩,
    ⟨some 9, .mov (.t 45), none⟩]
def A_slices_partitionEqualOrdered_string_4 : ACode := (.seq (.seq (.alts [A_slices_partitionEqualOrdered_string_2]) (.cond (.t 43) .skip (.exit 2))) (.block 3 (.ops A_slices_partitionEqualOrdered_string_3)))
def A_slices_partitionEqualOrdered_string_5 : List AOper := [⟨some 46, .mov (.t 9), none⟩,
    ⟨some 47, .mov (.t 10), none⟩,
    ⟨some 48, .bini .leq (.t 46) (.t 47), none⟩,
    ⟨some 49, .mov (.t 48), none⟩,
    ⟨some 50, .mov (.t 0), some (49, true)⟩,
    ⟨some 51, .mov (.t 1), some (49, true)⟩,
    ⟨some 52, .iaddr 9 1 (.t 50) (.t 51), some (49, true)⟩,
    ⟨some 53, .ld1 (.t 52), some (49, true)⟩,
    ⟨some 54, .mov (.t 0), some (49, true)⟩,
    ⟨some 55, .mov (.t 10), some (49, true)⟩,
    ⟨some 56, .iaddr 9 1 (.t 54) (.t 55), some (49, true)⟩,
    ⟨some 57, .ld1 (.t 56), some (49, true)⟩,
    ⟨some 58, .call 38 [(.t 53), (.t 57)], some (49, true)⟩,
    ⟨some 59, .pick (.t 49) (.t 58) (.c (.bool false)), none⟩]
def A_slices_partitionEqualOrdered_string_6 : List AOper := [⟨some 60, .mov (.t 10), none⟩,
    ⟨some 61, .bini .sub (.t 60) (.c (.int .i64 (1))), none⟩,
    ⟨some 10, .mov (.t 61), none⟩]
def A_slices_partitionEqualOrdered_string_7 : ACode := (.seq (.seq (.alts [A_slices_partitionEqualOrdered_string_5]) (.cond (.t 59) .skip (.exit 4))) (.block 5 (.ops A_slices_partitionEqualOrdered_string_6)))
def A_slices_partitionEqualOrdered_string_8 : List AOper := [⟨some 62, .mov (.t 9), none⟩,
    ⟨some 63, .mov (.t 10), none⟩,
    ⟨some 64, .bini .gtr (.t 62) (.t 63), none⟩]
def A_slices_partitionEqualOrdered_string_9 : List AOper := [⟨some 65, .mov (.t 0), none⟩,
    ⟨some 66, .mov (.t 9), none⟩,
    ⟨some 67, .mov (.t 0), none⟩,
    ⟨some 68, .mov (.t 10), none⟩,
    ⟨some 69, .mov (.t 0), none⟩,
    ⟨some 70, .mov (.t 10), none⟩,
    ⟨some 71, .iaddr 9 1 (.t 69) (.t 70), none⟩,
    ⟨some 72, .ld1 (.t 71), none⟩,
    ⟨some 73, .mov (.t 0), none⟩,
    ⟨some 74, .mov (.t 9), none⟩,
    ⟨some 75, .iaddr 9 1 (.t 73) (.t 74), none⟩,
    ⟨some 76, .ld1 (.t 75), none⟩,
    ⟨some 77, .iaddr 9 1 (.t 65) (.t 66), none⟩,
    ⟨none, .st 1 (.t 77) (.t 72), none⟩,
    ⟨some 78, .iaddr 9 1 (.t 67) (.t 68), none⟩,
    ⟨none, .st 1 (.t 78) (.t 76), none⟩]
def A_slices_partitionEqualOrdered_string_10 : List AOper := [⟨some 79, .mov (.t 9), none⟩,
    ⟨some 80, .bini .add (.t 79) (.c (.int .i64 (1))), none⟩,
    ⟨some 9, .mov (.t 80), none⟩]
def A_slices_partitionEqualOrdered_string_11 : List AOper := [⟨some 81, .mov (.t 10), none⟩,
    ⟨some 82, .bini .sub (.t 81) (.c (.int .i64 (1))), none⟩,
    ⟨some 10, .mov (.t 82), none⟩]
def A_slices_partitionEqualOrdered_string_12 : ACode := (.block 1 (.seq (.block 2 (.loop A_slices_partitionEqualOrdered_string_4)) (.seq (.block 4 (.loop A_slices_partitionEqualOrdered_string_7)) (.seq (.seq (.ops A_slices_partitionEqualOrdered_string_8) (.cond (.t 64) (.exit 0) .skip)) (.seq (.alts [A_slices_partitionEqualOrdered_string_9]) (.seq (.ops A_slices_partitionEqualOrdered_string_10) (.ops A_slices_partitionEqualOrdered_string_11)))))))
def A_slices_partitionEqualOrdered_string_13 : List AOper := [⟨some 83, .mov (.t 9), none⟩,
    ⟨some 8, .mov (.t 83), none⟩]
def A_slices_partitionEqualOrdered_string : ACode := (.seq (.ops [⟨some 8, .mov (.c (.int .i64 (0))), none⟩]) (.seq (.alts [A_slices_partitionEqualOrdered_string_0]) (.seq (.ops A_slices_partitionEqualOrdered_string_1) (.seq (.block 0 (.loop A_slices_partitionEqualOrdered_string_12)) (.seq (.ops A_slices_partitionEqualOrdered_string_13) .ret)))))
def R_slices_partitionEqualOrdered_string : List ARes := [.tmp 8]
theorem C_slices_partitionEqualOrdered_string : compF Tryd.prog Tryd.f39 = some (A_slices_partitionEqualOrdered_string, R_slices_partitionEqualOrdered_string) := by kernel_rfl
theorem K_slices_partitionEqualOrdered_string {args : List AV} {h : Hp} {Q : Res → Hp → Prop} (hl : LCode Tryd.prog A_slices_partitionEqualOrdered_string (EndQ R_slices_partitionEqualOrdered_string Q) (env0 84 args) h) (hn : args.length ≤ 84 := by (simp; done)) : CallL Tryd.prog F_slices_partitionEqualOrdered_string args h Q :=
  CallL.of Tryd.func39 C_slices_partitionEqualOrdered_string (by rw [Tryd.ntmps39]; exact hn) (by rw [Tryd.ntmps39]; exact hl)
def T_slices_partitionEqualOrdered_string : FC := ⟨84, A_slices_partitionEqualOrdered_string, R_slices_partitionEqualOrdered_string⟩
theorem G_slices_partitionEqualOrdered_string : GoodFC Tryd.prog F_slices_partitionEqualOrdered_string T_slices_partitionEqualOrdered_string := ⟨Tryd.f39, Tryd.func39, Tryd.ntmps39, C_slices_partitionEqualOrdered_string, by kernel_rfl⟩

-- slices.partitionOrdered[string]
abbrev F_slices_partitionOrdered_string : Nat := 40
def A_slices_partitionOrdered_string_0 : List AOper := [⟨some 8, .mov (.c (.int .i64 (0))), none⟩,
    ⟨some 9, .mov (.c (.bool false)), none⟩]
def A_slices_partitionOrdered_string_1 : List AOper := [⟨some 12, .mov (.t 0), none⟩,
    ⟨some 13, .mov (.t 1), none⟩,
    ⟨some 14, .mov (.t 0), none⟩,
    ⟨some 15, .mov (.t 3), none⟩,
    ⟨some 16, .mov (.t 0), none⟩,
    ⟨some 17, .mov (.t 3), none⟩,
    ⟨some 18, .iaddr 9 1 (.t 16) (.t 17), none⟩,
    ⟨some 19, .ld1 (.t 18), none⟩,
    ⟨some 20, .mov (.t 0), none⟩,
    ⟨some 21, .mov (.t 1), none⟩,
    ⟨some 22, .iaddr 9 1 (.t 20) (.t 21), none⟩,
    ⟨some 23, .ld1 (.t 22), none⟩,
    ⟨some 24, .iaddr 9 1 (.t 12) (.t 13), none⟩,
    ⟨none, .st 1 (.t 24) (.t 19), none⟩,
    ⟨some 25, .iaddr 9 1 (.t 14) (.t 15), none⟩,
    ⟨none, .st 1 (.t 25) (.t 23), none⟩]
def A_slices_partitionOrdered_string_2 : List AOper := [⟨some 26, .mov (.t 1), none⟩,
    ⟨some 27, .bini .add (.t 26) (.c (.int .i64 (1))), none⟩,
    ⟨some 28, .mov (.t 2), none⟩,
    ⟨some 29, .bini .sub (.t 28) (.c (.int .i64 (1))), none⟩,
    ⟨some 10, .mov (.t 27), none⟩,
    ⟨some 11, .mov (.t 29), none⟩]
def A_slices_partitionOrdered_string_3 : List AOper := [⟨some 30, .mov (.t 10), none⟩,
    ⟨some 31, .mov (.t 11), none⟩,
    ⟨some 32, .bini .leq (.t 30) (.t 31), none⟩,
    ⟨some 33, .mov (.t 32), none⟩,
    ⟨some 34, .mov (.t 0), some (33, true)⟩,
    ⟨some 35, .mov (.t 10), some (33, true)⟩,
    ⟨some 36, .iaddr 9 1 (.t 34) (.t 35), some (33, true)⟩,
    ⟨some 37, .ld1 (.t 36), some (33, true)⟩,
    ⟨some 38, .mov (.t 0), some (33, true)⟩,
    ⟨some 39, .mov (.t 1), some (33, true)⟩,
    ⟨some 40, .iaddr 9 1 (.t 38) (.t 39), some (33, true)⟩,
    ⟨some 41, .ld1 (.t 40), some (33, true)⟩,
    ⟨some 42, .call 38 [(.t 37), (.t 41)], some (33, true)⟩,
    ⟨some 43, .pick (.t 33) (.t 42) (.c (.bool false)), none⟩]
def A_slices_partitionOrdered_string_4 : List AOper := [⟨some 44, .mov (.t 10), none⟩,
    ⟨some 45, .bini .add (.t 44) (.c (.int .i64 (1))), none⟩,
    ⟨some 10, .mov (.t 45), none⟩]
def A_slices_partitionOrdered_string_5 : ACode := (.seq (.seq (.alts [A_slices_partitionOrdered_string_3]) (.cond (.t 43) .skip (.exit 0))) (.block 1 (.ops A_slices_partitionOrdered_string_4)))
def A_slices_partitionOrdered_string_6 : List AOper := [⟨some 46, .mov (.t 10), none⟩,
    ⟨some 47, .mov (.t 11), none⟩,
    ⟨some 48, .bini .leq (.t 46) (.t 47), none⟩,
    ⟨some 49, .mov (.t 48), none⟩,
    ⟨some 50, .mov (.t 0), some (49, true)⟩,
    ⟨some 51, .mov (.t 11), some (49, true)⟩,
    ⟨some 52, .iaddr 9 1 (.t 50) (.t 51), some (49, true)⟩,
    ⟨some 53, .ld1 (.t 52), some (49, true)⟩,
    ⟨some 54, .mov (.t 0), some (49, true)⟩,
    ⟨some 55, .mov (.t 1), some (49, true)⟩,
    ⟨some 56, .iaddr 9 1 (.t 54) (.t 55), some (49, true)⟩,
    ⟨some 57, .ld1 (.t 56), some (49, true)⟩,
    ⟨some 58, .call 38 [(.t 53), (.t 57)], some (49, true)⟩,
    ⟨some 59, .not (.t 58), some (49, true)⟩,
    ⟨some 60, .pick (.t 49) (.t 59) (.c (.bool false)), none⟩]
def A_slices_partitionOrdered_string_7 : List AOper := [⟨some 61, .mov (.t 11), none⟩,
    ⟨some 62, .bini .sub (.t 61) (.c (.int .i64 (1))), none⟩,
    ⟨some 11, .mov (.t 62), none⟩]
def A_slices_partitionOrdered_string_8 : ACode := (.seq (.seq (.alts [A_slices_partitionOrdered_string_6]) (.cond (.t 60) .skip (.exit 2))) (.block 3 (.ops A_slices_partitionOrdered_string_7)))
def A_slices_partitionOrdered_string_9 : List AOper := [⟨some 63, .mov (.t 10), none⟩,
    ⟨some 64, .mov (.t 11), none⟩,
    ⟨some 65, .bini .gtr (.t 63) (.t 64), none⟩]
def A_slices_partitionOrdered_string_10 : List AOper := [⟨some 66, .mov (.t 0), none⟩,
    ⟨some 67, .mov (.t 11), none⟩,
    ⟨some 68, .mov (.t 0), none⟩,
    ⟨some 69, .mov (.t 1), none⟩,
    ⟨some 70, .mov (.t 0), none⟩,
    ⟨some 71, .mov (.t 1), none⟩,
    ⟨some 72, .iaddr 9 1 (.t 70) (.t 71), none⟩,
    ⟨some 73, .ld1 (.t 72), none⟩,
    ⟨some 74, .mov (.t 0), none⟩,
    ⟨some 75, .mov (.t 11), none⟩,
    ⟨some 76, .iaddr 9 1 (.t 74) (.t 75), none⟩,
    ⟨some 77, .ld1 (.t 76), none⟩,
    ⟨some 78, .iaddr 9 1 (.t 66) (.t 67), none⟩,
    ⟨none, .st 1 (.t 78) (.t 73), none⟩,
    ⟨some 79, .iaddr 9 1 (.t 68) (.t 69), none⟩,
    ⟨none, .st 1 (.t 79) (.t 77), none⟩]
def A_slices_partitionOrdered_string_11 : List AOper := [⟨some 80, .mov (.t 11), none⟩,
    ⟨some 8, .mov (.t 80), none⟩,
    ⟨some 9, .mov (.c (.bool true)), none⟩]
def A_slices_partitionOrdered_string_12 : List AOper := [⟨some 81, .mov (.t 0), none⟩,
    ⟨some 82, .mov (.t 10), none⟩,
    ⟨some 83, .mov (.t 0), none⟩,
    ⟨some 84, .mov (.t 11), none⟩,
    ⟨some 85, .mov (.t 0), none⟩,
    ⟨some 86, .mov (.t 11), none⟩,
    ⟨some 87, .iaddr 9 1 (.t 85) (.t 86), none⟩,
    ⟨some 88, .ld1 (.t 87), none⟩,
    ⟨some 89, .mov (.t 0), none⟩,
    ⟨some 90, .mov (.t 10), none⟩,
    ⟨some 91, .iaddr 9 1 (.t 89) (.t 90), none⟩,
    ⟨some 92, .ld1 (.t 91), none⟩,
    ⟨some 93, .iaddr 9 1 (.t 81) (.t 82), none⟩,
    ⟨none, .st 1 (.t 93) (.t 88), none⟩,
    ⟨some 94, .iaddr 9 1 (.t 83) (.t 84), none⟩,
    ⟨none, .st 1 (.t 94) (.t 92), none⟩]
def A_slices_partitionOrdered_string_13 : List AOper := [⟨some 95, .mov (.t 10), none⟩,
    ⟨some 96, .bini .add (.t 95) (.c (.int .i64 (1))), none⟩,
    ⟨some 10, .mov (.t 96), none⟩]
def A_slices_partitionOrdered_string_14 : List AOper := [⟨some 97, .mov (.t 11), none⟩,
    ⟨some 98, .bini .sub (.t 97) (.c (.int .i64 (1))), none⟩,
    ⟨some 11, .mov (.t 98), none⟩]
def A_slices_partitionOrdered_string_15 : List AOper := [⟨some 99, .mov (.t 10), none⟩,
    ⟨some 100, .mov (.t 11), none⟩,
    ⟨some 101, .bini .leq (.t 99) (.t 100), none⟩,
    ⟨some 102, .mov (.t 101), none⟩,
    ⟨some 103, .mov (.t 0), some (102, true)⟩,
    ⟨some 104, .mov (.t 10), some (102, true)⟩,
    ⟨some 105, .iaddr 9 1 (.t 103) (.t 104), some (102, true)⟩,
    ⟨some 106, .ld1 (.t 105), some (102, true)⟩,
    ⟨some 107, .mov (.t 0), some (102, true)⟩,
    ⟨some 108, .mov (.t 1), some (102, true)⟩,
    ⟨some 109, .iaddr 9 1 (.t 107) (.t 108), some (102, true)⟩,
    ⟨some 110, .ld1 (.t 109), some (102, true)⟩,
    ⟨some 111, .call 38 [(.t 106), (.t 110)], some (102, true)⟩,
    ⟨some 112, .pick (.t 102) (.t 111) (.c (.bool false)), none⟩]
def A_slices_partitionOrdered_string_16 : List AOper := [⟨some 113, .mov (.t 10), none⟩,
    ⟨some 114, .bini .add (.t 113) (.c (.int .i64 (1))), none⟩,
    ⟨some 10, .mov (.t 114), none⟩]
def A_slices_partitionOrdered_string_17 : ACode := (.seq (.seq (.alts [A_slices_partitionOrdered_string_15]) (.cond (.t 112) .skip (.exit 6))) (.block 7 (.ops A_slices_partitionOrdered_string_16)))
def A_slices_partitionOrdered_string_18 : List AOper := [⟨some 115, .mov (.t 10), none⟩,
    ⟨some 116, .mov (.t 11), none⟩,
    ⟨some 117, .bini .leq (.t 115) (.t 116), none⟩,
    ⟨some 118, .mov (.t 117), none⟩,
    ⟨some 119, .mov (.t 0), some (118, true)⟩,
    ⟨some 120, .mov (.t 11), some (118, true)⟩,
    ⟨some 121, .iaddr 9 1 (.t 119) (.t 120), some (118, true)⟩,
    ⟨some 122, .ld1 (.t 121), some (118, true)⟩,
    ⟨some 123, .mov (.t 0), some (118, true)⟩,
    ⟨some 124, .mov (.t 1), some (118, true)⟩,
    ⟨some 125, .iaddr 9 1 (.t 123) (.t 124), some (118, true)⟩,
    ⟨some 126, .ld1 (.t 125), some (118, true)⟩,
    ⟨some 127, .call 38 [(.t 122), (.t 126)], some (118, true)⟩,
    ⟨some 128, .not (.t 127), some (118, true)⟩,
    ⟨some 129, .pick (.t 118) (.t 128) (.c (.bool false)), none⟩]
def A_slices_partitionOrdered_string_19 : List AOper := [⟨some 130, .mov (.t 11), none⟩,
    ⟨some 131, .bini .sub (.t 130) (.c (.int .i64 (1))), none⟩,
    ⟨some 11, .mov (.t 131), none⟩]
def A_slices_partitionOrdered_string_20 : ACode := (.seq (.seq (.alts [A_slices_partitionOrdered_string_18]) (.cond (.t 129) .skip (.exit 8))) (.block 9 (.ops A_slices_partitionOrdered_string_19)))
def A_slices_partitionOrdered_string_21 : List AOper := [⟨some 132, .mov (.t 10), none⟩,
    ⟨some 133, .mov (.t 11), none⟩,
    ⟨some 134, .bini .gtr (.t 132) (.t 133), none⟩]
def A_slices_partitionOrdered_string_22 : List AOper := [⟨some 135, .mov (.t 0), none⟩,
    ⟨some 136, .mov (.t 10), none⟩,
    ⟨some 137, .mov (.t 0), none⟩,
    ⟨some 138, .mov (.t 11), none⟩,
    ⟨some 139, .mov (.t 0), none⟩,
    ⟨some 140, .mov (.t 11), none⟩,
    ⟨some 141, .iaddr 9 1 (.t 139) (.t 140), none⟩,
    ⟨some 142, .ld1 (.t 141), none⟩,
    ⟨some 143, .mov (.t 0), none⟩,
    ⟨some 144, .mov (.t 10), none⟩,
    ⟨some 145, .iaddr 9 1 (.t 143) (.t 144), none⟩,
    ⟨some 146, .ld1 (.t 145), none⟩,
    ⟨some 147, .iaddr 9 1 (.t 135) (.t 136), none⟩,
    ⟨none, .st 1 (.t 147) (.t 142), none⟩,
    ⟨some 148, .iaddr 9 1 (.t 137) (.t 138), none⟩,
    ⟨none, .st 1 (.t 148) (.t 146), none⟩]
def A_slices_partitionOrdered_string_23 : List AOper := [⟨some 149, .mov (.t 10), none⟩,
    ⟨some 150, .bini .add (.t 149) (.c (.int .i64 (1))), none⟩,
    ⟨some 10, .mov (.t 150), none⟩]
def A_slices_partitionOrdered_string_24 : List AOper := [⟨some 151, .mov (.t 11), none⟩,
    ⟨some 152, .bini .sub (.t 151) (.c (.int .i64 (1))), none⟩,
    ⟨some 11, .mov (.t 152), none⟩]
def A_slices_partitionOrdered_string_25 : ACode := (.block 5 (.seq (.block 6 (.loop A_slices_partitionOrdered_string_17)) (.seq (.block 8 (.loop A_slices_partitionOrdered_string_20)) (.seq (.seq (.ops A_slices_partitionOrdered_string_21) (.cond (.t 134) (.exit 4) .skip)) (.seq (.alts [A_slices_partitionOrdered_string_22]) (.seq (.ops A_slices_partitionOrdered_string_23) (.ops A_slices_partitionOrdered_string_24)))))))
def A_slices_partitionOrdered_string_26 : List AOper := [⟨some 153, .mov (.t 0), none⟩,
    ⟨some 154, .mov (.t 11), none⟩,
    ⟨some 155, .mov (.t 0), none⟩,
    ⟨some 156, .mov (.t 1), none⟩,
    ⟨some 157, .mov (.t 0), none⟩,
    ⟨some 158, .mov (.t 1), none⟩,
    ⟨some 159, .iaddr 9 1 (.t 157) (.t 158), none⟩,
    ⟨some 160, .ld1 (.t 159), none⟩,
    ⟨some 161, .mov (.t 0), none⟩,
    ⟨some 162, .mov (.t 11), none⟩,
    ⟨some 163, .iaddr 9 1 (.t 161) (.t 162), none⟩,
    ⟨some 164, .ld1 (.t 163), none⟩,
    ⟨some 165, .iaddr 9 1 (.t 153) (.t 154), none⟩,
    ⟨none, .st 1 (.t 165) (.t 160), none⟩,
    ⟨some 166, .iaddr 9 1 (.t 155) (.t 156), none⟩,
    ⟨none, .st 1 (.t 166) (.t 164), none⟩]
def A_slices_partitionOrdered_string_27 : List AOper := [⟨some 167, .mov (.t 11), none⟩,
    ⟨some 8, .mov (.t 167), none⟩,
    ⟨some 9, .mov (.c (.bool false)), none⟩]
def A_slices_partitionOrdered_string : ACode := (.seq (.ops A_slices_partitionOrdered_string_0) (.seq (.alts [A_slices_partitionOrdered_string_1]) (.seq (.ops A_slices_partitionOrdered_string_2) (.seq (.block 0 (.loop A_slices_partitionOrdered_string_5)) (.seq (.block 2 (.loop A_slices_partitionOrdered_string_8)) (.seq (.seq (.ops A_slices_partitionOrdered_string_9) (.cond (.t 65) (.seq (.alts [A_slices_partitionOrdered_string_10]) (.seq (.ops A_slices_partitionOrdered_string_11) .ret)) .skip)) (.seq (.alts [A_slices_partitionOrdered_string_12]) (.seq (.ops A_slices_partitionOrdered_string_13) (.seq (.ops A_slices_partitionOrdered_string_14) (.seq (.block 4 (.loop A_slices_partitionOrdered_string_25)) (.seq (.alts [A_slices_partitionOrdered_string_26]) (.seq (.ops A_slices_partitionOrdered_string_27) .ret))))))))))))
def R_slices_partitionOrdered_string : List ARes := [.tmp 8, .tmp 9]
theorem C_slices_partitionOrdered_string : compF Tryd.prog Tryd.f40 = some (A_slices_partitionOrdered_string, R_slices_partitionOrdered_string) := by kernel_rfl
theorem K_slices_partitionOrdered_string {args : List AV} {h : Hp} {Q : Res → Hp → Prop} (hl : LCode Tryd.prog A_slices_partitionOrdered_string (EndQ R_slices_partitionOrdered_string Q) (env0 168 args) h) (hn : args.length ≤ 168 := by (simp; done)) : CallL Tryd.prog F_slices_partitionOrdered_string args h Q :=
  CallL.of Tryd.func40 C_slices_partitionOrdered_string (by rw [Tryd.ntmps40]; exact hn) (by rw [Tryd.ntmps40]; exact hl)
def T_slices_partitionOrdered_string : FC := ⟨168, A_slices_partitionOrdered_string, R_slices_partitionOrdered_string⟩
theorem G_slices_partitionOrdered_string : GoodFC Tryd.prog F_slices_partitionOrdered_string T_slices_partitionOrdered_string := ⟨Tryd.f40, Tryd.func40, Tryd.ntmps40, C_slices_partitionOrdered_string, by kernel_rfl⟩

-- math/bits.Len32
abbrev F_math_bits_Len32 : Nat := 41
def A_math_bits_Len32_0 : List AOper := [⟨some 3, .mov (.t 0), none⟩,
    ⟨some 4, .bini .geq (.t 3) (.c (.int .u32 (65536))), none⟩]
def A_math_bits_Len32_1 : List AOper := [⟨some 5, .mov (.t 0), none⟩,
    ⟨some 6, .bini .shr (.t 5) (.c (.int .u64 (16))), none⟩,
    ⟨some 0, .mov (.t 6), none⟩]
def A_math_bits_Len32_2 : List AOper := [⟨some 7, .mov (.t 0), none⟩,
    ⟨some 8, .bini .geq (.t 7) (.c (.int .u32 (256))), none⟩]
def A_math_bits_Len32_3 : List AOper := [⟨some 9, .mov (.t 0), none⟩,
    ⟨some 10, .bini .shr (.t 9) (.c (.int .u64 (8))), none⟩,
    ⟨some 0, .mov (.t 10), none⟩]
def A_math_bits_Len32_4 : List AOper := [⟨some 11, .mov (.t 2), none⟩,
    ⟨some 12, .bini .add (.t 11) (.c (.int .i64 (8))), none⟩,
    ⟨some 2, .mov (.t 12), none⟩]
def A_math_bits_Len32_5 : List AOper := [⟨some 13, .mov (.t 2), none⟩,
    ⟨some 14, .mov (.t 0), none⟩,
    ⟨some 15, .conv .u8 (.t 14), none⟩,
    ⟨some 16, .idxs (.c (.str [0, 1, 2, 2, 3, 3, 3, 3, 4, 4, 4, 4, 4, 4, 4, 4, 5, 5, 5, 5, 5, 5, 5, 5, 5, 5, 5, 5, 5, 5, 5, 5, 6, 6, 6, 6, 6, 6, 6, 6, 6, 6, 6, 6, 6, 6, 6, 6, 6, 6, 6, 6, 6, 6, 6, 6, 6, 6, 6, 6, 6, 6, 6, 6, 7, 7, 7, 7, 7, 7, 7, 7, 7, 7, 7, 7, 7, 7, 7, 7, 7, 7, 7, 7, 7, 7, 7, 7, 7, 7, 7, 7, 7, 7, 7, 7, 7, 7, 7, 7, 7, 7, 7, 7, 7, 7, 7, 7, 7, 7, 7, 7, 7, 7, 7, 7, 7, 7, 7, 7, 7, 7, 7, 7, 7, 7, 7, 7, 8, 8, 8, 8, 8, 8, 8, 8, 8, 8, 8, 8, 8, 8, 8, 8, 8, 8, 8, 8, 8, 8, 8, 8, 8, 8, 8, 8, 8, 8, 8, 8, 8, 8, 8, 8, 8, 8, 8, 8, 8, 8, 8, 8, 8, 8, 8, 8, 8, 8, 8, 8, 8, 8, 8, 8, 8, 8, 8, 8, 8, 8, 8, 8, 8, 8, 8, 8, 8, 8, 8, 8, 8, 8, 8, 8, 8, 8, 8, 8, 8, 8, 8, 8, 8, 8, 8, 8, 8, 8, 8, 8, 8, 8, 8, 8, 8, 8, 8, 8, 8, 8, 8, 8, 8, 8, 8, 8, 8, 8, 8, 8, 8, 8, 8, 8, 8, 8, 8, 8, 8, 8, 8, 8, 8, 8, 8, 8])) (.t 15), none⟩,
    ⟨some 17, .conv .i64 (.t 16), none⟩,
    ⟨some 18, .bini .add (.t 13) (.t 17), none⟩,
    ⟨some 2, .mov (.t 18), none⟩]
def A_math_bits_Len32 : ACode := (.seq (.ops [⟨some 2, .mov (.c (.int .i64 (0))), none⟩]) (.seq (.seq (.ops A_math_bits_Len32_0) (.cond (.t 4) (.seq (.ops A_math_bits_Len32_1) (.ops [⟨some 2, .mov (.c (.int .i64 (16))), none⟩])) .skip)) (.seq (.seq (.ops A_math_bits_Len32_2) (.cond (.t 8) (.seq (.ops A_math_bits_Len32_3) (.ops A_math_bits_Len32_4)) .skip)) (.seq (.ops A_math_bits_Len32_5) .ret))))
def R_math_bits_Len32 : List ARes := [.tmp 2]
theorem C_math_bits_Len32 : compF Tryd.prog Tryd.f41 = some (A_math_bits_Len32, R_math_bits_Len32) := by kernel_rfl
theorem K_math_bits_Len32 {args : List AV} {h : Hp} {Q : Res → Hp → Prop} (hl : LCode Tryd.prog A_math_bits_Len32 (EndQ R_math_bits_Len32 Q) (env0 19 args) h) (hn : args.length ≤ 19 := by (simp; done)) : CallL Tryd.prog F_math_bits_Len32 args h Q :=
  CallL.of Tryd.func41 C_math_bits_Len32 (by rw [Tryd.ntmps41]; exact hn) (by rw [Tryd.ntmps41]; exact hl)
def T_math_bits_Len32 : FC := ⟨19, A_math_bits_Len32, R_math_bits_Len32⟩
theorem G_math_bits_Len32 : GoodFC Tryd.prog F_math_bits_Len32 T_math_bits_Len32 := ⟨Tryd.f41, Tryd.func41, Tryd.ntmps41, C_math_bits_Len32, by kernel_rfl⟩

-- math/bits.Len64
abbrev F_math_bits_Len64 : Nat := 42
def A_math_bits_Len64_0 : List AOper := [⟨some 3, .mov (.t 0), none⟩,
    ⟨some 4, .bini .geq (.t 3) (.c (.int .u64 (4294967296))), none⟩]
def A_math_bits_Len64_1 : List AOper := [⟨some 5, .mov (.t 0), none⟩,
    ⟨some 6, .bini .shr (.t 5) (.c (.int .u64 (32))), none⟩,
    ⟨some 0, .mov (.t 6), none⟩]
def A_math_bits_Len64_2 : List AOper := [⟨some 7, .mov (.t 0), none⟩,
    ⟨some 8, .bini .geq (.t 7) (.c (.int .u64 (65536))), none⟩]
def A_math_bits_Len64_3 : List AOper := [⟨some 9, .mov (.t 0), none⟩,
    ⟨some 10, .bini .shr (.t 9) (.c (.int .u64 (16))), none⟩,
    ⟨some 0, .mov (.t 10), none⟩]
def A_math_bits_Len64_4 : List AOper := [⟨some 11, .mov (.t 2), none⟩,
    ⟨some 12, .bini .add (.t 11) (.c (.int .i64 (16))), none⟩,
    ⟨some 2, .mov (.t 12), none⟩]
def A_math_bits_Len64_5 : List AOper := [⟨some 13, .mov (.t 0), none⟩,
    ⟨some 14, .bini .geq (.t 13) (.c (.int .u64 (256))), none⟩]
def A_math_bits_Len64_6 : List AOper := [⟨some 15, .mov (.t 0), none⟩,
    ⟨some 16, .bini .shr (.t 15) (.c (.int .u64 (8))), none⟩,
    ⟨some 0, .mov (.t 16), none⟩]
def A_math_bits_Len64_7 : List AOper := [⟨some 17, .mov (.t 2), none⟩,
    ⟨some 18, .bini .add (.t 17) (.c (.int .i64 (8))), none⟩,
    ⟨some 2, .mov (.t 18), none⟩]
def A_math_bits_Len64_8 : List AOper := [⟨some 19, .mov (.t 2), none⟩,
    ⟨some 20, .mov (.t 0), none⟩,
    ⟨some 21, .conv .u8 (.t 20), none⟩,
    ⟨some 22, .idxs (.c (.str [0, 1, 2, 2, 3, 3, 3, 3, 4, 4, 4, 4, 4, 4, 4, 4, 5, 5, 5, 5, 5, 5, 5, 5, 5, 5, 5, 5, 5, 5, 5, 5, 6, 6, 6, 6, 6, 6, 6, 6, 6, 6, 6, 6, 6, 6, 6, 6, 6, 6, 6, 6, 6, 6, 6, 6, 6, 6, 6, 6, 6, 6, 6, 6, 7, 7, 7, 7, 7, 7, 7, 7, 7, 7, 7, 7, 7, 7, 7, 7, 7, 7, 7, 7, 7, 7, 7, 7, 7, 7, 7, 7, 7, 7, 7, 7, 7, 7, 7, 7, 7, 7, 7, 7, 7, 7, 7, 7, 7, 7, 7, 7, 7, 7, 7, 7, 7, 7, 7, 7, 7, 7, 7, 7, 7, 7, 7, 7, 8, 8, 8, 8, 8, 8, 8, 8, 8, 8, 8, 8, 8, 8, 8, 8, 8, 8, 8, 8, 8, 8, 8, 8, 8, 8, 8, 8, 8, 8, 8, 8, 8, 8, 8, 8, 8, 8, 8, 8, 8, 8, 8, 8, 8, 8, 8, 8, 8, 8, 8, 8, 8, 8, 8, 8, 8, 8, 8, 8, 8, 8, 8, 8, 8, 8, 8, 8, 8, 8, 8, 8, 8, 8, 8, 8, 8, 8, 8, 8, 8, 8, 8, 8, 8, 8, 8, 8, 8, 8, 8, 8, 8, 8, 8, 8, 8, 8, 8, 8, 8, 8, 8, 8, 8, 8, 8, 8, 8, 8, 8, 8, 8, 8, 8, 8, 8, 8, 8, 8, 8, 8, 8, 8, 8, 8, 8, 8])) (.t 21), none⟩,
    ⟨some 23, .conv .i64 (.t 22), none⟩,
    ⟨some 24, .bini .add (.t 19) (.t 23), none⟩,
    ⟨some 2, .mov (.t 24), none⟩]
def A_math_bits_Len64 : ACode := (.seq (.ops [⟨some 2, .mov (.c (.int .i64 (0))), none⟩]) (.seq (.seq (.ops A_math_bits_Len64_0) (.cond (.t 4) (.seq (.ops A_math_bits_Len64_1) (.ops [⟨some 2, .mov (.c (.int .i64 (32))), none⟩])) .skip)) (.seq (.seq (.ops A_math_bits_Len64_2) (.cond (.t 8) (.seq (.ops A_math_bits_Len64_3) (.ops A_math_bits_Len64_4)) .skip)) (.seq (.seq (.ops A_math_bits_Len64_5) (.cond (.t 14) (.seq (.ops A_math_bits_Len64_6) (.ops A_math_bits_Len64_7)) .skip)) (.seq (.ops A_math_bits_Len64_8) .ret)))))
def R_math_bits_Len64 : List ARes := [.tmp 2]
theorem C_math_bits_Len64 : compF Tryd.prog Tryd.f42 = some (A_math_bits_Len64, R_math_bits_Len64) := by kernel_rfl
theorem K_math_bits_Len64 {args : List AV} {h : Hp} {Q : Res → Hp → Prop} (hl : LCode Tryd.prog A_math_bits_Len64 (EndQ R_math_bits_Len64 Q) (env0 25 args) h) (hn : args.length ≤ 25 := by (simp; done)) : CallL Tryd.prog F_math_bits_Len64 args h Q :=
  CallL.of Tryd.func42 C_math_bits_Len64 (by rw [Tryd.ntmps42]; exact hn) (by rw [Tryd.ntmps42]; exact hl)
def T_math_bits_Len64 : FC := ⟨25, A_math_bits_Len64, R_math_bits_Len64⟩
theorem G_math_bits_Len64 : GoodFC Tryd.prog F_math_bits_Len64 T_math_bits_Len64 := ⟨Tryd.f42, Tryd.func42, Tryd.ntmps42, C_math_bits_Len64, by kernel_rfl⟩

-- internal/stringslite.CutPrefix
abbrev F_internal_stringslite_CutPrefix : Nat := 43
def A_internal_stringslite_CutPrefix_0 : List AOper := [⟨some 4, .mov (.c (.str [])), none⟩,
    ⟨some 5, .mov (.c (.bool false)), none⟩]
def A_internal_stringslite_CutPrefix_1 : List AOper := [⟨some 6, .mov (.t 0), none⟩,
    ⟨some 7, .mov (.t 1), none⟩,
    ⟨some 8, .call 56 [(.t 6), (.t 7)], none⟩,
    ⟨some 9, .not (.t 8), none⟩]
def A_internal_stringslite_CutPrefix_2 : List AOper := [⟨some 10, .mov (.t 0), none⟩,
    ⟨some 4, .mov (.t 10), none⟩,
    ⟨some 5, .mov (.c (.bool false)), none⟩]
def A_internal_stringslite_CutPrefix_3 : List AOper := [⟨some 11, .mov (.t 0), none⟩,
    ⟨some 12, .mov (.t 1), none⟩,
    ⟨some 13, .lens (.t 12), none⟩,
    ⟨some 14, .slcs (.t 11) (some (.t 13)) none, none⟩,
    ⟨some 4, .mov (.t 14), none⟩,
    ⟨some 5, .mov (.c (.bool true)), none⟩]
def A_internal_stringslite_CutPrefix : ACode := (.seq (.ops A_internal_stringslite_CutPrefix_0) (.seq (.seq (.ops A_internal_stringslite_CutPrefix_1) (.cond (.t 9) (.seq (.ops A_internal_stringslite_CutPrefix_2) .ret) .skip)) (.seq (.ops A_internal_stringslite_CutPrefix_3) .ret)))
def R_internal_stringslite_CutPrefix : List ARes := [.tmp 4, .tmp 5]
theorem C_internal_stringslite_CutPrefix : compF Tryd.prog Tryd.f43 = some (A_internal_stringslite_CutPrefix, R_internal_stringslite_CutPrefix) := by kernel_rfl
theorem K_internal_stringslite_CutPrefix {args : List AV} {h : Hp} {Q : Res → Hp → Prop} (hl : LCode Tryd.prog A_internal_stringslite_CutPrefix (EndQ R_internal_stringslite_CutPrefix Q) (env0 15 args) h) (hn : args.length ≤ 15 := by (simp; done)) : CallL Tryd.prog F_internal_stringslite_CutPrefix args h Q :=
  CallL.of Tryd.func43 C_internal_stringslite_CutPrefix (by rw [Tryd.ntmps43]; exact hn) (by rw [Tryd.ntmps43]; exact hl)
def T_internal_stringslite_CutPrefix : FC := ⟨15, A_internal_stringslite_CutPrefix, R_internal_stringslite_CutPrefix⟩
theorem G_internal_stringslite_CutPrefix : GoodFC Tryd.prog F_internal_stringslite_CutPrefix T_internal_stringslite_CutPrefix := ⟨Tryd.f43, Tryd.func43, Tryd.ntmps43, C_internal_stringslite_CutPrefix, by kernel_rfl⟩

-- strings.explode
abbrev F_strings_explode : Nat := 44
def A_strings_explode_0 : List AOper := [⟨some 10, .mov (.t 0), none⟩,
    ⟨some 11, .call 57 [(.t 10)], none⟩,
    ⟨some 5, .mov (.t 11), none⟩]
def A_strings_explode_1 : List AOper := [⟨some 12, .mov (.t 1), none⟩,
    ⟨some 13, .bini .lss (.t 12) (.c (.int .i64 (0))), none⟩,
    ⟨some 14, .mov (.t 13), none⟩,
    ⟨some 15, .mov (.t 1), some (14, false)⟩,
    ⟨some 16, .mov (.t 5), some (14, false)⟩,
    ⟨some 17, .bini .gtr (.t 15) (.t 16), some (14, false)⟩,
    ⟨some 18, .pick (.t 14) (.c (.bool true)) (.t 17), none⟩]
def A_strings_explode_2 : List AOper := [⟨some 19, .mov (.t 5), none⟩,
    ⟨some 1, .mov (.t 19), none⟩]
def A_strings_explode_3 : List AOper := [⟨some 20, .mov (.t 1), none⟩,
    ⟨some 21, .mkslice 9 1 16 [.str []] (.t 20) (.t 20), none⟩,
    ⟨some 6, .mov (.t 21), none⟩]
def A_strings_explode_4 : List AOper := [⟨some 22, .mov (.t 7), none⟩,
    ⟨some 23, .mov (.t 1), none⟩,
    ⟨some 24, .bini .sub (.t 23) (.c (.int .i64 (1))), none⟩,
    ⟨some 25, .bini .lss (.t 22) (.t 24), none⟩]
def A_strings_explode_5 : List AOper := [⟨some 29, .mov (.t 0), none⟩,
    ⟨some 30, .call 58 [(.t 29)], none⟩,
    ⟨some 28, .mov (.t 30), none⟩,
    ⟨some 31, .ext 0 (.t 28), none⟩,
    ⟨some 32, .ext 1 (.t 28), none⟩,
    ⟨some 8, .mov (.t 31), none⟩,
    ⟨some 9, .mov (.t 32), none⟩]
def A_strings_explode_6 : List AOper := [⟨some 33, .mov (.t 6), none⟩,
    ⟨some 34, .mov (.t 7), none⟩,
    ⟨some 35, .mov (.t 0), none⟩,
    ⟨some 36, .mov (.t 9), none⟩,
    ⟨some 37, .slcs (.t 35) none (some (.t 36)), none⟩,
    ⟨some 38, .iaddr 9 1 (.t 33) (.t 34), none⟩,
    ⟨none, .st 1 (.t 38) (.t 37), none⟩]
def A_strings_explode_7 : List AOper := [⟨some 39, .mov (.t 0), none⟩,
    ⟨some 40, .mov (.t 9), none⟩,
    ⟨some 41, .slcs (.t 39) (some (.t 40)) none, none⟩,
    ⟨some 0, .mov (.t 41), none⟩]
def A_strings_explode_8 : List AOper := [⟨some 26, .mov (.t 7), none⟩,
    ⟨some 27, .bini .add (.t 26) (.c (.int .i64 (1))), none⟩,
    ⟨some 7, .mov (.t 27), none⟩]
def A_strings_explode_9 : ACode := (.seq (.seq (.ops A_strings_explode_4) (.cond (.t 25) .skip (.exit 0))) (.seq (.block 1 (.seq (.ops A_strings_explode_5) (.seq (.ops A_strings_explode_6) (.ops A_strings_explode_7)))) (.ops A_strings_explode_8)))
def A_strings_explode_10 : List AOper := [⟨some 42, .mov (.t 1), none⟩,
    ⟨some 43, .bini .gtr (.t 42) (.c (.int .i64 (0))), none⟩]
def A_strings_explode_11 : List AOper := [⟨some 44, .mov (.t 6), none⟩,
    ⟨some 45, .mov (.t 1), none⟩,
    ⟨some 46, .bini .sub (.t 45) (.c (.int .i64 (1))), none⟩,
    ⟨some 47, .mov (.t 0), none⟩,
    ⟨some 48, .iaddr 9 1 (.t 44) (.t 46), none⟩,
    ⟨none, .st 1 (.t 48) (.t 47), none⟩]
def A_strings_explode_12 : List AOper := [⟨some 49, .mov (.t 6), none⟩,
    ⟨some 4, .mov (.t 49), none⟩]
def A_strings_explode : ACode := (.seq (.ops [⟨some 4, .mov (.c (.nils)), none⟩]) (.seq (.ops A_strings_explode_0) (.seq (.seq (.ops A_strings_explode_1) (.cond (.t 18) (.ops A_strings_explode_2) .skip)) (.seq (.ops A_strings_explode_3) (.seq (.seq (.ops [⟨some 7, .mov (.c (.int .i64 (0))), none⟩]) (.block 0 (.loop A_strings_explode_9))) (.seq (.seq (.ops A_strings_explode_10) (.cond (.t 43) (.ops A_strings_explode_11) .skip)) (.seq (.ops A_strings_explode_12) .ret)))))))
def R_strings_explode : List ARes := [.tmp 4]
theorem C_strings_explode : compF Tryd.prog Tryd.f44 = some (A_strings_explode, R_strings_explode) := by kernel_rfl
theorem K_strings_explode {args : List AV} {h : Hp} {Q : Res → Hp → Prop} (hl : LCode Tryd.prog A_strings_explode (EndQ R_strings_explode Q) (env0 50 args) h) (hn : args.length ≤ 50 := by (simp; done)) : CallL Tryd.prog F_strings_explode args h Q :=
  CallL.of Tryd.func44 C_strings_explode (by rw [Tryd.ntmps44]; exact hn) (by rw [Tryd.ntmps44]; exact hl)
def T_strings_explode : FC := ⟨50, A_strings_explode, R_strings_explode⟩
theorem G_strings_explode : GoodFC Tryd.prog F_strings_explode T_strings_explode := ⟨Tryd.f44, Tryd.func44, Tryd.ntmps44, C_strings_explode, by kernel_rfl⟩

-- strings.Count
abbrev F_strings_Count : Nat := 45
def A_strings_Count_0 : List AOper := [⟨some 7, .mov (.t 1), none⟩,
    ⟨some 8, .lens (.t 7), none⟩,
    ⟨some 9, .bini .eql (.t 8) (.c (.int .i64 (0))), none⟩]
def A_strings_Count_1 : List AOper := [⟨some 10, .mov (.t 0), none⟩,
    ⟨some 11, .call 57 [(.t 10)], none⟩,
    ⟨some 12, .bini .add (.t 11) (.c (.int .i64 (1))), none⟩,
    ⟨some 4, .mov (.t 12), none⟩]
def A_strings_Count_2 : List AOper := [⟨some 13, .mov (.t 1), none⟩,
    ⟨some 14, .lens (.t 13), none⟩,
    ⟨some 15, .bini .eql (.t 14) (.c (.int .i64 (1))), none⟩]
def A_strings_Count_3 : List AOper := [⟨some 16, .mov (.t 0), none⟩,
    ⟨some 17, .mov (.t 1), none⟩,
    ⟨some 18, .idxs (.t 17) (.c (.int .i64 (0))), none⟩,
    ⟨some 19, .xcount (.t 16) (.t 18), none⟩,
    ⟨some 4, .mov (.t 19), none⟩]
def A_strings_Count_4 : List AOper := [⟨some 20, .mov (.t 0), none⟩,
    ⟨some 21, .mov (.t 1), none⟩,
    ⟨some 22, .call 46 [(.t 20), (.t 21)], none⟩,
    ⟨some 6, .mov (.t 22), none⟩]
def A_strings_Count_5 : List AOper := [⟨some 23, .mov (.t 6), none⟩,
    ⟨some 24, .bini .eql (.t 23) (.c (.int .i64 (-1))), none⟩]
def A_strings_Count_6 : List AOper := [⟨some 25, .mov (.t 5), none⟩,
    ⟨some 4, .mov (.t 25), none⟩]
def A_strings_Count_7 : List AOper := [⟨some 26, .mov (.t 5), none⟩,
    ⟨some 27, .bini .add (.t 26) (.c (.int .i64 (1))), none⟩,
    ⟨some 5, .mov (.t 27), none⟩]
def A_strings_Count_8 : List AOper := [⟨some 28, .mov (.t 0), none⟩,
    ⟨some 29, .mov (.t 6), none⟩,
    ⟨some 30, .mov (.t 1), none⟩,
    ⟨some 31, .lens (.t 30), none⟩,
    ⟨some 32, .bini .add (.t 29) (.t 31), none⟩,
    ⟨some 33, .slcs (.t 28) (some (.t 32)) none, none⟩,
    ⟨some 0, .mov (.t 33), none⟩]
def A_strings_Count_9 : ACode := (.block 1 (.seq (.ops A_strings_Count_4) (.seq (.seq (.ops A_strings_Count_5) (.cond (.t 24) (.seq (.ops A_strings_Count_6) .ret) .skip)) (.seq (.ops A_strings_Count_7) (.ops A_strings_Count_8)))))
def A_strings_Count : ACode := (.seq (.ops [⟨some 4, .mov (.c (.int .i64 (0))), none⟩]) (.seq (.seq (.ops A_strings_Count_0) (.cond (.t 9) (.seq (.ops A_strings_Count_1) .ret) .skip)) (.seq (.seq (.ops A_strings_Count_2) (.cond (.t 15) (.seq (.ops A_strings_Count_3) .ret) .skip)) (.seq (.ops [⟨some 5, .mov (.c (.int .i64 (0))), none⟩]) (.block 0 (.loop A_strings_Count_9))))))
def R_strings_Count : List ARes := [.tmp 4]
theorem C_strings_Count : compF Tryd.prog Tryd.f45 = some (A_strings_Count, R_strings_Count) := by kernel_rfl
theorem K_strings_Count {args : List AV} {h : Hp} {Q : Res → Hp → Prop} (hl : LCode Tryd.prog A_strings_Count (EndQ R_strings_Count Q) (env0 34 args) h) (hn : args.length ≤ 34 := by (simp; done)) : CallL Tryd.prog F_strings_Count args h Q :=
  CallL.of Tryd.func45 C_strings_Count (by rw [Tryd.ntmps45]; exact hn) (by rw [Tryd.ntmps45]; exact hl)
def T_strings_Count : FC := ⟨34, A_strings_Count, R_strings_Count⟩
theorem G_strings_Count : GoodFC Tryd.prog F_strings_Count T_strings_Count := ⟨Tryd.f45, Tryd.func45, Tryd.ntmps45, C_strings_Count, by kernel_rfl⟩

-- strings.Index
abbrev F_strings_Index : Nat := 46
def A_strings_Index_0 : List AOper := [⟨some 5, .mov (.t 0), none⟩,
    ⟨some 6, .mov (.t 1), none⟩,
    ⟨some 7, .call 60 [(.t 5), (.t 6)], none⟩,
    ⟨some 4, .mov (.t 7), none⟩]
def A_strings_Index : ACode := (.seq (.ops [⟨some 4, .mov (.c (.int .i64 (0))), none⟩]) (.seq (.ops A_strings_Index_0) .ret))
def R_strings_Index : List ARes := [.tmp 4]
theorem C_strings_Index : compF Tryd.prog Tryd.f46 = some (A_strings_Index, R_strings_Index) := by kernel_rfl
theorem K_strings_Index {args : List AV} {h : Hp} {Q : Res → Hp → Prop} (hl : LCode Tryd.prog A_strings_Index (EndQ R_strings_Index Q) (env0 8 args) h) (hn : args.length ≤ 8 := by (simp; done)) : CallL Tryd.prog F_strings_Index args h Q :=
  CallL.of Tryd.func46 C_strings_Index (by rw [Tryd.ntmps46]; exact hn) (by rw [Tryd.ntmps46]; exact hl)
def T_strings_Index : FC := ⟨8, A_strings_Index, R_strings_Index⟩
theorem G_strings_Index : GoodFC Tryd.prog F_strings_Index T_strings_Index := ⟨Tryd.f46, Tryd.func46, Tryd.ntmps46, C_strings_Index, by kernel_rfl⟩

-- lexicon/texts.digit
abbrev F_texts_digit : Nat := 47
def A_texts_digit_0 : List AOper := [⟨some 3, .mov (.t 0), none⟩,
    ⟨some 4, .bini .geq (.t 3) (.c (.int .u8 (48))), none⟩,
    ⟨some 5, .mov (.t 4), none⟩,
    ⟨some 6, .mov (.t 0), some (5, true)⟩,
    ⟨some 7, .bini .leq (.t 6) (.c (.int .u8 (57))), some (5, true)⟩,
    ⟨some 8, .pick (.t 5) (.t 7) (.c (.bool false)), none⟩,
    ⟨some 2, .mov (.t 8), none⟩]
def A_texts_digit : ACode := (.seq (.ops [⟨some 2, .mov (.c (.bool false)), none⟩]) (.seq (.ops A_texts_digit_0) .ret))
def R_texts_digit : List ARes := [.tmp 2]
theorem C_texts_digit : compF Tryd.prog Tryd.f47 = some (A_texts_digit, R_texts_digit) := by kernel_rfl
theorem K_texts_digit {args : List AV} {h : Hp} {Q : Res → Hp → Prop} (hl : LCode Tryd.prog A_texts_digit (EndQ R_texts_digit Q) (env0 9 args) h) (hn : args.length ≤ 9 := by (simp; done)) : CallL Tryd.prog F_texts_digit args h Q :=
  CallL.of Tryd.func47 C_texts_digit (by rw [Tryd.ntmps47]; exact hn) (by rw [Tryd.ntmps47]; exact hl)
def T_texts_digit : FC := ⟨9, A_texts_digit, R_texts_digit⟩
theorem G_texts_digit : GoodFC Tryd.prog F_texts_digit T_texts_digit := ⟨Tryd.f47, Tryd.func47, Tryd.ntmps47, C_texts_digit, by kernel_rfl⟩

-- lexicon/texts.small
abbrev F_texts_small : Nat := 48
def A_texts_small_0 : List AOper := [⟨some 3, .mov (.t 0), none⟩,
    ⟨some 4, .bini .geq (.t 3) (.c (.int .u8 (97))), none⟩,
    ⟨some 5, .mov (.t 4), none⟩,
    ⟨some 6, .mov (.t 0), some (5, true)⟩,
    ⟨some 7, .bini .leq (.t 6) (.c (.int .u8 (122))), some (5, true)⟩,
    ⟨some 8, .pick (.t 5) (.t 7) (.c (.bool false)), none⟩,
    ⟨some 2, .mov (.t 8), none⟩]
def A_texts_small : ACode := (.seq (.ops [⟨some 2, .mov (.c (.bool false)), none⟩]) (.seq (.ops A_texts_small_0) .ret))
def R_texts_small : List ARes := [.tmp 2]
theorem C_texts_small : compF Tryd.prog Tryd.f48 = some (A_texts_small, R_texts_small) := by kernel_rfl
theorem K_texts_small {args : List AV} {h : Hp} {Q : Res → Hp → Prop} (hl : LCode Tryd.prog A_texts_small (EndQ R_texts_small Q) (env0 9 args) h) (hn : args.length ≤ 9 := by (simp; done)) : CallL Tryd.prog F_texts_small args h Q :=
  CallL.of Tryd.func48 C_texts_small (by rw [Tryd.ntmps48]; exact hn) (by rw [Tryd.ntmps48]; exact hl)
def T_texts_small : FC := ⟨9, A_texts_small, R_texts_small⟩
theorem G_texts_small : GoodFC Tryd.prog F_texts_small T_texts_small := ⟨Tryd.f48, Tryd.func48, Tryd.ntmps48, C_texts_small, by kernel_rfl⟩

-- lexicon/texts.capital
abbrev F_texts_capital : Nat := 49
def A_texts_capital_0 : List AOper := [⟨some 3, .mov (.t 0), none⟩,
    ⟨some 4, .bini .geq (.t 3) (.c (.int .u8 (65))), none⟩,
    ⟨some 5, .mov (.t 4), none⟩,
    ⟨some 6, .mov (.t 0), some (5, true)⟩,
    ⟨some 7, .bini .leq (.t 6) (.c (.int .u8 (90))), some (5, true)⟩,
    ⟨some 8, .pick (.t 5) (.t 7) (.c (.bool false)), none⟩,
    ⟨some 2, .mov (.t 8), none⟩]
def A_texts_capital : ACode := (.seq (.ops [⟨some 2, .mov (.c (.bool false)), none⟩]) (.seq (.ops A_texts_capital_0) .ret))
def R_texts_capital : List ARes := [.tmp 2]
theorem C_texts_capital : compF Tryd.prog Tryd.f49 = some (A_texts_capital, R_texts_capital) := by kernel_rfl
theorem K_texts_capital {args : List AV} {h : Hp} {Q : Res → Hp → Prop} (hl : LCode Tryd.prog A_texts_capital (EndQ R_texts_capital Q) (env0 9 args) h) (hn : args.length ≤ 9 := by (simp; done)) : CallL Tryd.prog F_texts_capital args h Q :=
  CallL.of Tryd.func49 C_texts_capital (by rw [Tryd.ntmps49]; exact hn) (by rw [Tryd.ntmps49]; exact hl)
def T_texts_capital : FC := ⟨9, A_texts_capital, R_texts_capital⟩
theorem G_texts_capital : GoodFC Tryd.prog F_texts_capital T_texts_capital := ⟨Tryd.f49, Tryd.func49, Tryd.ntmps49, C_texts_capital, by kernel_rfl⟩

-- slices.siftDownOrdered[string]
abbrev F_slices_siftDownOrdered_string : Nat := 50
def A_slices_siftDownOrdered_string_0 : List AOper := [⟨some 10, .mov (.t 1), none⟩,
    ⟨some 8, .mov (.t 10), none⟩]
def A_slices_siftDownOrdered_string_1 : List AOper := [⟨some 11, .mov (.t 8), none⟩,
    ⟨some 12, .bini .mul (.c (.int .i64 (2))) (.t 11), none⟩,
    ⟨some 13, .bini .add (.t 12) (.c (.int .i64 (1))), none⟩,
    ⟨some 9, .mov (.t 13), none⟩]
def A_slices_siftDownOrdered_string_2 : List AOper := [⟨some 14, .mov (.t 9), none⟩,
    ⟨some 15, .mov (.t 2), none⟩,
    ⟨some 16, .bini .geq (.t 14) (.t 15), none⟩]
def A_slices_siftDownOrdered_string_3 : List AOper := [⟨some 17, .mov (.t 9), none⟩,
    ⟨some 18, .bini .add (.t 17) (.c (.int .i64 (1))), none⟩,
    ⟨some 19, .mov (.t 2), none⟩,
    ⟨some 20, .bini .lss (.t 18) (.t 19), none⟩,
    ⟨some 21, .mov (.t 20), none⟩,
    ⟨some 22, .mov (.t 0), some (21, true)⟩,
    ⟨some 23, .mov (.t 3), some (21, true)⟩,
    ⟨some 24, .mov (.t 9), some (21, true)⟩,
    ⟨some 25, .bini .add (.t 23) (.t 24), some (21, true)⟩,
    ⟨some 26, .iaddr 9 1 (.t 22) (.t 25), some (21, true)⟩,
    ⟨some 27, .ld1 (.t 26), some (21, true)⟩,
    ⟨some 28, .mov (.t 0), some (21, true)⟩,
    ⟨some 29, .mov (.t 3), some (21, true)⟩,
    ⟨some 30, .mov (.t 9), some (21, true)⟩,
    ⟨some 31, .bini .add (.t 29) (.t 30), some (21, true)⟩,
    ⟨some 32, .bini .add (.t 31) (.c (.int .i64 (1))), some (21, true)⟩,
    ⟨some 33, .iaddr 9 1 (.t 28) (.t 32), some (21, true)⟩,
    ⟨some 34, .ld1 (.t 33), some (21, true)⟩,
    ⟨some 35, .call 38 [(.t 27), (.t 34)], some (21, true)⟩,
    ⟨some 36, .pick (.t 21) (.t 35) (.c (.bool false)), none⟩]
def A_slices_siftDownOrdered_string_4 : List AOper := [⟨some 37, .mov (.t 9), none⟩,
    ⟨some 38, .bini .add (.t 37) (.c (.int .i64 (1))), none⟩,
    ⟨some 9, .mov (.t 38), none⟩]
def A_slices_siftDownOrdered_string_5 : List AOper := [⟨some 39, .mov (.t 0), none⟩,
    ⟨some 40, .mov (.t 3), none⟩,
    ⟨some 41, .mov (.t 8), none⟩,
    ⟨some 42, .bini .add (.t 40) (.t 41), none⟩,
    ⟨some 43, .iaddr 9 1 (.t 39) (.t 42), none⟩,
    ⟨some 44, .ld1 (.t 43), none⟩,
    ⟨some 45, .mov (.t 0), none⟩,
    ⟨some 46, .mov (.t 3), none⟩,
    ⟨some 47, .mov (.t 9), none⟩,
    ⟨some 48, .bini .add (.t 46) (.t 47), none⟩,
    ⟨some 49, .iaddr 9 1 (.t 45) (.t 48), none⟩,
    ⟨some 50, .ld1 (.t 49), none⟩,
    ⟨some 51, .call 38 [(.t 44), (.t 50)], none⟩,
    ⟨some 52, .not (.t 51), none⟩]
def A_slices_siftDownOrdered_string_6 : List AOper := [⟨some 53, .mov (.t 0), none⟩,
    ⟨some 54, .mov (.t 3), none⟩,
    ⟨some 55, .mov (.t 8), none⟩,
    ⟨some 56, .bini .add (.t 54) (.t 55), none⟩,
    ⟨some 57, .mov (.t 0), none⟩,
    ⟨some 58, .mov (.t 3), none⟩,
    ⟨some 59, .mov (.t 9), none⟩,
    ⟨some 60, .bini .add (.t 58) (.t 59), none⟩,
    ⟨some 61, .mov (.t 0), none⟩,
    ⟨some 62, .mov (.t 3), none⟩,
    ⟨some 63, .mov (.t 9), none⟩,
    ⟨some 64, .bini .add (.t 62) (.t 63), none⟩,
    ⟨some 65, .iaddr 9 1 (.t 61) (.t 64), none⟩,
    ⟨some 66, .ld1 (.t 65), none⟩,
    ⟨some 67, .mov (.t 0), none⟩,
    ⟨some 68, .mov (.t 3), none⟩,
    ⟨some 69, .mov (.t 8), none⟩,
    ⟨some 70, .bini .add (.t 68) (.t 69), none⟩,
    ⟨some 71, .iaddr 9 1 (.t 67) (.t 70), none⟩,
    ⟨some 72, .ld1 (.t 71), none⟩,
    ⟨some 73, .iaddr 9 1 (.t 53) (.t 56), none⟩,
    ⟨none, .st 1 (.t 73) (.t 66), none⟩,
    ⟨some 74, .iaddr 9 1 (.t 57) (.t 60), none⟩,
    ⟨none, .st 1 (.t 74) (.t 72), none⟩]
def A_slices_siftDownOrdered_string_7 : List AOper := [⟨some 75, .mov (.t 9), none⟩,
    ⟨some 8, .mov (.t 75), none⟩]
def A_slices_siftDownOrdered_string_8 : ACode := (.block 1 (.seq (.ops A_slices_siftDownOrdered_string_1) (.seq (.seq (.ops A_slices_siftDownOrdered_string_2) (.cond (.t 16) (.exit 0) .skip)) (.seq (.seq (.alts [A_slices_siftDownOrdered_string_3]) (.cond (.t 36) (.ops A_slices_siftDownOrdered_string_4) .skip)) (.seq (.seq (.alts [A_slices_siftDownOrdered_string_5]) (.cond (.t 52) .ret .skip)) (.seq (.alts [A_slices_siftDownOrdered_string_6]) (.ops A_slices_siftDownOrdered_string_7)))))))
def A_slices_siftDownOrdered_string : ACode := (.seq (.ops A_slices_siftDownOrdered_string_0) (.block 0 (.loop A_slices_siftDownOrdered_string_8)))
def R_slices_siftDownOrdered_string : List ARes := []
theorem C_slices_siftDownOrdered_string : compF Tryd.prog Tryd.f50 = some (A_slices_siftDownOrdered_string, R_slices_siftDownOrdered_string) := by kernel_rfl
theorem K_slices_siftDownOrdered_string {args : List AV} {h : Hp} {Q : Res → Hp → Prop} (hl : LCode Tryd.prog A_slices_siftDownOrdered_string (EndQ R_slices_siftDownOrdered_string Q) (env0 76 args) h) (hn : args.length ≤ 76 := by (simp; done)) : CallL Tryd.prog F_slices_siftDownOrdered_string args h Q :=
  CallL.of Tryd.func50 C_slices_siftDownOrdered_string (by rw [Tryd.ntmps50]; exact hn) (by rw [Tryd.ntmps50]; exact hl)
def T_slices_siftDownOrdered_string : FC := ⟨76, A_slices_siftDownOrdered_string, R_slices_siftDownOrdered_string⟩
theorem G_slices_siftDownOrdered_string : GoodFC Tryd.prog F_slices_siftDownOrdered_string T_slices_siftDownOrdered_string := ⟨Tryd.f50, Tryd.func50, Tryd.ntmps50, C_slices_siftDownOrdered_string, by kernel_rfl⟩

-- slices.nextPowerOfTwo
abbrev F_slices_nextPowerOfTwo : Nat := 51
def A_slices_nextPowerOfTwo_0 : List AOper := [⟨some 3, .mov (.t 0), none⟩,
    ⟨some 4, .conv .u64 (.t 3), none⟩,
    ⟨some 5, .call 27 [(.t 4)], none⟩,
    ⟨some 6, .bini .shl (.c (.int .u64 (1))) (.t 5), none⟩,
    ⟨some 2, .mov (.t 6), none⟩]
def A_slices_nextPowerOfTwo : ACode := (.seq (.ops [⟨some 2, .mov (.c (.int .u64 (0))), none⟩]) (.seq (.ops A_slices_nextPowerOfTwo_0) .ret))
def R_slices_nextPowerOfTwo : List ARes := [.tmp 2]
theorem C_slices_nextPowerOfTwo : compF Tryd.prog Tryd.f51 = some (A_slices_nextPowerOfTwo, R_slices_nextPowerOfTwo) := by kernel_rfl
theorem K_slices_nextPowerOfTwo {args : List AV} {h : Hp} {Q : Res → Hp → Prop} (hl : LCode Tryd.prog A_slices_nextPowerOfTwo (EndQ R_slices_nextPowerOfTwo Q) (env0 7 args) h) (hn : args.length ≤ 7 := by (simp; done)) : CallL Tryd.prog F_slices_nextPowerOfTwo args h Q :=
  CallL.of Tryd.func51 C_slices_nextPowerOfTwo (by rw [Tryd.ntmps51]; exact hn) (by rw [Tryd.ntmps51]; exact hl)
def T_slices_nextPowerOfTwo : FC := ⟨7, A_slices_nextPowerOfTwo, R_slices_nextPowerOfTwo⟩
theorem G_slices_nextPowerOfTwo : GoodFC Tryd.prog F_slices_nextPowerOfTwo T_slices_nextPowerOfTwo := ⟨Tryd.f51, Tryd.func51, Tryd.ntmps51, C_slices_nextPowerOfTwo, by kernel_rfl⟩

-- (*slices.xorshift).Next
abbrev F_slices_xorshift_Next : Nat := 52
def A_slices_xorshift_Next_0 : List AOper := [⟨some 3, .mov (.t 0), none⟩,
    ⟨some 4, .nilc (.t 3), none⟩,
    ⟨some 5, .ld1 (.t 4), none⟩,
    ⟨some 6, .mov (.t 0), none⟩,
    ⟨some 7, .nilc (.t 6), none⟩,
    ⟨some 8, .ld1 (.t 7), none⟩,
    ⟨some 9, .bini .shl (.t 8) (.c (.int .u64 (13))), none⟩,
    ⟨some 10, .bini .xor (.t 5) (.t 9), none⟩,
    ⟨some 11, .nilc (.t 3), none⟩,
    ⟨none, .st 1 (.t 11) (.t 10), none⟩]
def A_slices_xorshift_Next_1 : List AOper := [⟨some 12, .mov (.t 0), none⟩,
    ⟨some 13, .nilc (.t 12), none⟩,
    ⟨some 14, .ld1 (.t 13), none⟩,
    ⟨some 15, .mov (.t 0), none⟩,
    ⟨some 16, .nilc (.t 15), none⟩,
    ⟨some 17, .ld1 (.t 16), none⟩,
    ⟨some 18, .bini .shr (.t 17) (.c (.int .u64 (7))), none⟩,
    ⟨some 19, .bini .xor (.t 14) (.t 18), none⟩,
    ⟨some 20, .nilc (.t 12), none⟩,
    ⟨none, .st 1 (.t 20) (.t 19), none⟩]
def A_slices_xorshift_Next_2 : List AOper := [⟨some 21, .mov (.t 0), none⟩,
    ⟨some 22, .nilc (.t 21), none⟩,
    ⟨some 23, .ld1 (.t 22), none⟩,
    ⟨some 24, .mov (.t 0), none⟩,
    ⟨some 25, .nilc (.t 24), none⟩,
    ⟨some 26, .ld1 (.t 25), none⟩,
    ⟨some 27, .bini .shl (.t 26) (.c (.int .u64 (17))), none⟩,
    ⟨some 28, .bini .xor (.t 23) (.t 27), none⟩,
    ⟨some 29, .nilc (.t 21), none⟩,
    ⟨none, .st 1 (.t 29) (.t 28), none⟩]
def A_slices_xorshift_Next_3 : List AOper := [⟨some 30, .mov (.t 0), none⟩,
    ⟨some 31, .nilc (.t 30), none⟩,
    ⟨some 32, .ld1 (.t 31), none⟩,
    ⟨some 2, .mov (.t 32), none⟩]
def A_slices_xorshift_Next : ACode := (.seq (.ops [⟨some 2, .mov (.c (.int .u64 (0))), none⟩]) (.seq (.alts [A_slices_xorshift_Next_0]) (.seq (.alts [A_slices_xorshift_Next_1]) (.seq (.alts [A_slices_xorshift_Next_2]) (.seq (.ops A_slices_xorshift_Next_3) .ret)))))
def R_slices_xorshift_Next : List ARes := [.tmp 2]
theorem C_slices_xorshift_Next : compF Tryd.prog Tryd.f52 = some (A_slices_xorshift_Next, R_slices_xorshift_Next) := by kernel_rfl
theorem K_slices_xorshift_Next {args : List AV} {h : Hp} {Q : Res → Hp → Prop} (hl : LCode Tryd.prog A_slices_xorshift_Next (EndQ R_slices_xorshift_Next Q) (env0 33 args) h) (hn : args.length ≤ 33 := by (simp; done)) : CallL Tryd.prog F_slices_xorshift_Next args h Q :=
  CallL.of Tryd.func52 C_slices_xorshift_Next (by rw [Tryd.ntmps52]; exact hn) (by rw [Tryd.ntmps52]; exact hl)
def T_slices_xorshift_Next : FC := ⟨33, A_slices_xorshift_Next, R_slices_xorshift_Next⟩
theorem G_slices_xorshift_Next : GoodFC Tryd.prog F_slices_xorshift_Next T_slices_xorshift_Next := ⟨Tryd.f52, Tryd.func52, Tryd.ntmps52, C_slices_xorshift_Next, by kernel_rfl⟩

-- slices.medianAdjacentOrdered[string]
abbrev F_slices_medianAdjacentOrdered_string : Nat := 53
def A_slices_medianAdjacentOrdered_string_0 : List AOper := [⟨some 7, .mov (.t 0), none⟩,
    ⟨some 8, .mov (.t 1), none⟩,
    ⟨some 9, .bini .sub (.t 8) (.c (.int .i64 (1))), none⟩,
    ⟨some 10, .mov (.t 1), none⟩,
    ⟨some 11, .mov (.t 1), none⟩,
    ⟨some 12, .bini .add (.t 11) (.c (.int .i64 (1))), none⟩,
    ⟨some 13, .mov (.t 2), none⟩,
    ⟨some 14, .call 54 [(.t 7), (.t 9), (.t 10), (.t 12), (.t 13)], none⟩,
    ⟨some 6, .mov (.t 14), none⟩]
def A_slices_medianAdjacentOrdered_string : ACode := (.seq (.ops [⟨some 6, .mov (.c (.int .i64 (0))), none⟩]) (.seq (.ops A_slices_medianAdjacentOrdered_string_0) .ret))
def R_slices_medianAdjacentOrdered_string : List ARes := [.tmp 6]
theorem C_slices_medianAdjacentOrdered_string : compF Tryd.prog Tryd.f53 = some (A_slices_medianAdjacentOrdered_string, R_slices_medianAdjacentOrdered_string) := by kernel_rfl
theorem K_slices_medianAdjacentOrdered_string {args : List AV} {h : Hp} {Q : Res → Hp → Prop} (hl : LCode Tryd.prog A_slices_medianAdjacentOrdered_string (EndQ R_slices_medianAdjacentOrdered_string Q) (env0 15 args) h) (hn : args.length ≤ 15 := by (simp; done)) : CallL Tryd.prog F_slices_medianAdjacentOrdered_string args h Q :=
  CallL.of Tryd.func53 C_slices_medianAdjacentOrdered_string (by rw [Tryd.ntmps53]; exact hn) (by rw [Tryd.ntmps53]; exact hl)
def T_slices_medianAdjacentOrdered_string : FC := ⟨15, A_slices_medianAdjacentOrdered_string, R_slices_medianAdjacentOrdered_string⟩
theorem G_slices_medianAdjacentOrdered_string : GoodFC Tryd.prog F_slices_medianAdjacentOrdered_string T_slices_medianAdjacentOrdered_string := ⟨Tryd.f53, Tryd.func53, Tryd.ntmps53, C_slices_medianAdjacentOrdered_string, by kernel_rfl⟩

-- slices.medianOrdered[string]
abbrev F_slices_medianOrdered_string : Nat := 54
def A_slices_medianOrdered_string_0 : List AOper := [⟨some 12, .mov (.t 0), none⟩,
    ⟨some 13, .mov (.t 1), none⟩,
    ⟨some 14, .mov (.t 2), none⟩,
    ⟨some 15, .mov (.t 4), none⟩,
    ⟨some 16, .call 61 [(.t 12), (.t 13), (.t 14), (.t 15)], none⟩,
    ⟨some 11, .mov (.t 16), none⟩,
    ⟨some 17, .ext 0 (.t 11), none⟩,
    ⟨some 18, .ext 1 (.t 11), none⟩,
    ⟨some 1, .mov (.t 17), none⟩,
    ⟨some 2, .mov (.t 18), none⟩]
def A_slices_medianOrdered_string_1 : List AOper := [⟨some 20, .mov (.t 0), none⟩,
    ⟨some 21, .mov (.t 2), none⟩,
    ⟨some 22, .mov (.t 3), none⟩,
    ⟨some 23, .mov (.t 4), none⟩,
    ⟨some 24, .call 61 [(.t 20), (.t 21), (.t 22), (.t 23)], none⟩,
    ⟨some 19, .mov (.t 24), none⟩,
    ⟨some 25, .ext 0 (.t 19), none⟩,
    ⟨some 26, .ext 1 (.t 19), none⟩,
    ⟨some 2, .mov (.t 25), none⟩,
    ⟨some 3, .mov (.t 26), none⟩]
def A_slices_medianOrdered_string_2 : List AOper := [⟨some 28, .mov (.t 0), none⟩,
    ⟨some 29, .mov (.t 1), none⟩,
    ⟨some 30, .mov (.t 2), none⟩,
    ⟨some 31, .mov (.t 4), none⟩,
    ⟨some 32, .call 61 [(.t 28), (.t 29), (.t 30), (.t 31)], none⟩,
    ⟨some 27, .mov (.t 32), none⟩,
    ⟨some 33, .ext 0 (.t 27), none⟩,
    ⟨some 34, .ext 1 (.t 27), none⟩,
    ⟨some 1, .mov (.t 33), none⟩,
    ⟨some 2, .mov (.t 34), none⟩]
def A_slices_medianOrdered_string_3 : List AOper := [⟨some 35, .mov (.t 2), none⟩,
    ⟨some 10, .mov (.t 35), none⟩]
def A_slices_medianOrdered_string : ACode := (.seq (.ops [⟨some 10, .mov (.c (.int .i64 (0))), none⟩]) (.seq (.ops A_slices_medianOrdered_string_0) (.seq (.ops A_slices_medianOrdered_string_1) (.seq (.ops A_slices_medianOrdered_string_2) (.seq (.ops A_slices_medianOrdered_string_3) .ret)))))
def R_slices_medianOrdered_string : List ARes := [.tmp 10]
theorem C_slices_medianOrdered_string : compF Tryd.prog Tryd.f54 = some (A_slices_medianOrdered_string, R_slices_medianOrdered_string) := by kernel_rfl
theorem K_slices_medianOrdered_string {args : List AV} {h : Hp} {Q : Res → Hp → Prop} (hl : LCode Tryd.prog A_slices_medianOrdered_string (EndQ R_slices_medianOrdered_string Q) (env0 36 args) h) (hn : args.length ≤ 36 := by (simp; done)) : CallL Tryd.prog F_slices_medianOrdered_string args h Q :=
  CallL.of Tryd.func54 C_slices_medianOrdered_string (by rw [Tryd.ntmps54]; exact hn) (by rw [Tryd.ntmps54]; exact hl)
def T_slices_medianOrdered_string : FC := ⟨36, A_slices_medianOrdered_string, R_slices_medianOrdered_string⟩
theorem G_slices_medianOrdered_string : GoodFC Tryd.prog F_slices_medianOrdered_string T_slices_medianOrdered_string := ⟨Tryd.f54, Tryd.func54, Tryd.ntmps54, C_slices_medianOrdered_string, by kernel_rfl⟩

-- cmp.isNaN[string]
abbrev F_cmp_isNaN_string : Nat := 55
def A_cmp_isNaN_string_0 : List AOper := [⟨some 3, .mov (.t 0), none⟩,
    ⟨some 4, .mov (.t 0), none⟩,
    ⟨some 5, .bins .neq (.t 3) (.t 4), none⟩,
    ⟨some 2, .mov (.t 5), none⟩]
def A_cmp_isNaN_string : ACode := (.seq (.ops [⟨some 2, .mov (.c (.bool false)), none⟩]) (.seq (.ops A_cmp_isNaN_string_0) .ret))
def R_cmp_isNaN_string : List ARes := [.tmp 2]
theorem C_cmp_isNaN_string : compF Tryd.prog Tryd.f55 = some (A_cmp_isNaN_string, R_cmp_isNaN_string) := by kernel_rfl
theorem K_cmp_isNaN_string {args : List AV} {h : Hp} {Q : Res → Hp → Prop} (hl : LCode Tryd.prog A_cmp_isNaN_string (EndQ R_cmp_isNaN_string Q) (env0 6 args) h) (hn : args.length ≤ 6 := by (simp; done)) : CallL Tryd.prog F_cmp_isNaN_string args h Q :=
  CallL.of Tryd.func55 C_cmp_isNaN_string (by rw [Tryd.ntmps55]; exact hn) (by rw [Tryd.ntmps55]; exact hl)
def T_cmp_isNaN_string : FC := ⟨6, A_cmp_isNaN_string, R_cmp_isNaN_string⟩
theorem G_cmp_isNaN_string : GoodFC Tryd.prog F_cmp_isNaN_string T_cmp_isNaN_string := ⟨Tryd.f55, Tryd.func55, Tryd.ntmps55, C_cmp_isNaN_string, by kernel_rfl⟩

-- internal/stringslite.HasPrefix
abbrev F_internal_stringslite_HasPrefix : Nat := 56
def A_internal_stringslite_HasPrefix_0 : List AOper := [⟨some 5, .mov (.t 0), none⟩,
    ⟨some 6, .lens (.t 5), none⟩,
    ⟨some 7, .mov (.t 1), none⟩,
    ⟨some 8, .lens (.t 7), none⟩,
    ⟨some 9, .bini .geq (.t 6) (.t 8), none⟩,
    ⟨some 10, .mov (.t 9), none⟩,
    ⟨some 11, .mov (.t 0), some (10, true)⟩,
    ⟨some 12, .mov (.t 1), some (10, true)⟩,
    ⟨some 13, .lens (.t 12), some (10, true)⟩,
    ⟨some 14, .slcs (.t 11) none (some (.t 13)), some (10, true)⟩,
    ⟨some 15, .mov (.t 1), some (10, true)⟩,
    ⟨some 16, .bins .eql (.t 14) (.t 15), some (10, true)⟩,
    ⟨some 17, .pick (.t 10) (.t 16) (.c (.bool false)), none⟩,
    ⟨some 4, .mov (.t 17), none⟩]
def A_internal_stringslite_HasPrefix : ACode := (.seq (.ops [⟨some 4, .mov (.c (.bool false)), none⟩]) (.seq (.ops A_internal_stringslite_HasPrefix_0) .ret))
def R_internal_stringslite_HasPrefix : List ARes := [.tmp 4]
theorem C_internal_stringslite_HasPrefix : compF Tryd.prog Tryd.f56 = some (A_internal_stringslite_HasPrefix, R_internal_stringslite_HasPrefix) := by kernel_rfl
theorem K_internal_stringslite_HasPrefix {args : List AV} {h : Hp} {Q : Res → Hp → Prop} (hl : LCode Tryd.prog A_internal_stringslite_HasPrefix (EndQ R_internal_stringslite_HasPrefix Q) (env0 18 args) h) (hn : args.length ≤ 18 := by (simp; done)) : CallL Tryd.prog F_internal_stringslite_HasPrefix args h Q :=
  CallL.of Tryd.func56 C_internal_stringslite_HasPrefix (by rw [Tryd.ntmps56]; exact hn) (by rw [Tryd.ntmps56]; exact hl)
def T_internal_stringslite_HasPrefix : FC := ⟨18, A_internal_stringslite_HasPrefix, R_internal_stringslite_HasPrefix⟩
theorem G_internal_stringslite_HasPrefix : GoodFC Tryd.prog F_internal_stringslite_HasPrefix T_internal_stringslite_HasPrefix := ⟨Tryd.f56, Tryd.func56, Tryd.ntmps56, C_internal_stringslite_HasPrefix, by kernel_rfl⟩

-- unicode/utf8.RuneCountInString
abbrev F_unicode_utf8_RuneCountInString : Nat := 57
def A_unicode_utf8_RuneCountInString_0 : List AOper := [⟨some 3, .mov (.t 0), none⟩,
    ⟨some 4, .bad, none⟩]
def A_unicode_utf8_RuneCountInString_1 : List AOper := [⟨some 5, .bad, none⟩,
    ⟨some 6, .ext 0 (.t 5), none⟩]
def A_unicode_utf8_RuneCountInString_2 : List AOper := [⟨some 7, .mov (.t 2), none⟩,
    ⟨some 8, .bini .add (.t 7) (.c (.int .i64 (1))), none⟩,
    ⟨some 2, .mov (.t 8), none⟩]
def A_unicode_utf8_RuneCountInString_3 : ACode := (.seq (.ops A_unicode_utf8_RuneCountInString_1) (.seq (.cond (.t 6) .skip (.exit 0)) (.block 1 (.ops A_unicode_utf8_RuneCountInString_2))))
def A_unicode_utf8_RuneCountInString_4 : List AOper := [⟨some 9, .mov (.t 2), none⟩,
    ⟨some 2, .mov (.t 9), none⟩]
def A_unicode_utf8_RuneCountInString : ACode := (.seq (.ops [⟨some 2, .mov (.c (.int .i64 (0))), none⟩]) (.seq (.seq (.ops A_unicode_utf8_RuneCountInString_0) (.block 0 (.loop A_unicode_utf8_RuneCountInString_3))) (.seq (.ops A_unicode_utf8_RuneCountInString_4) .ret)))
def R_unicode_utf8_RuneCountInString : List ARes := [.tmp 2]
theorem C_unicode_utf8_RuneCountInString : compF Tryd.prog Tryd.f57 = some (A_unicode_utf8_RuneCountInString, R_unicode_utf8_RuneCountInString) := by kernel_rfl
theorem K_unicode_utf8_RuneCountInString {args : List AV} {h : Hp} {Q : Res → Hp → Prop} (hl : LCode Tryd.prog A_unicode_utf8_RuneCountInString (EndQ R_unicode_utf8_RuneCountInString Q) (env0 10 args) h) (hn : args.length ≤ 10 := by (simp; done)) : CallL Tryd.prog F_unicode_utf8_RuneCountInString args h Q :=
  CallL.of Tryd.func57 C_unicode_utf8_RuneCountInString (by rw [Tryd.ntmps57]; exact hn) (by rw [Tryd.ntmps57]; exact hl)
def T_unicode_utf8_RuneCountInString : FC := ⟨10, A_unicode_utf8_RuneCountInString, R_unicode_utf8_RuneCountInString⟩
theorem G_unicode_utf8_RuneCountInString : GoodFC Tryd.prog F_unicode_utf8_RuneCountInString T_unicode_utf8_RuneCountInString := ⟨Tryd.f57, Tryd.func57, Tryd.ntmps57, C_unicode_utf8_RuneCountInString, by kernel_rfl⟩

-- unicode/utf8.DecodeRuneInString
abbrev F_unicode_utf8_DecodeRuneInString : Nat := 58
def A_unicode_utf8_DecodeRuneInString_0 : List AOper := [⟨some 2, .mov (.c (.int .i32 (0))), none⟩,
    ⟨some 3, .mov (.c (.int .i64 (0))), none⟩]
def A_unicode_utf8_DecodeRuneInString_1 : List AOper := [⟨some 4, .mov (.t 0), none⟩,
    ⟨some 5, .bins .neq (.t 4) (.c (.str [])), none⟩,
    ⟨some 6, .mov (.t 5), none⟩,
    ⟨some 7, .mov (.t 0), some (6, true)⟩,
    ⟨some 8, .idxs (.t 7) (.c (.int .i64 (0))), some (6, true)⟩,
    ⟨some 9, .bini .lss (.t 8) (.c (.int .u8 (128))), some (6, true)⟩,
    ⟨some 10, .pick (.t 6) (.t 9) (.c (.bool false)), none⟩]
def A_unicode_utf8_DecodeRuneInString_2 : List AOper := [⟨some 11, .mov (.t 0), none⟩,
    ⟨some 12, .idxs (.t 11) (.c (.int .i64 (0))), none⟩,
    ⟨some 13, .conv .i32 (.t 12), none⟩,
    ⟨some 2, .mov (.t 13), none⟩,
    ⟨some 3, .mov (.c (.int .i64 (1))), none⟩]
def A_unicode_utf8_DecodeRuneInString_3 : List AOper := [⟨some 15, .mov (.t 0), none⟩,
    ⟨some 16, .call 62 [(.t 15)], none⟩,
    ⟨some 14, .mov (.t 16), none⟩,
    ⟨some 17, .ext 0 (.t 14), none⟩,
    ⟨some 18, .ext 1 (.t 14), none⟩,
    ⟨some 2, .mov (.t 17), none⟩,
    ⟨some 3, .mov (.t 18), none⟩]
def A_unicode_utf8_DecodeRuneInString : ACode := (.seq (.ops A_unicode_utf8_DecodeRuneInString_0) (.seq (.seq (.ops A_unicode_utf8_DecodeRuneInString_1) (.cond (.t 10) (.seq (.ops A_unicode_utf8_DecodeRuneInString_2) .ret) (.ops A_unicode_utf8_DecodeRuneInString_3))) .ret))
def R_unicode_utf8_DecodeRuneInString : List ARes := [.tmp 2, .tmp 3]
theorem C_unicode_utf8_DecodeRuneInString : compF Tryd.prog Tryd.f58 = some (A_unicode_utf8_DecodeRuneInString, R_unicode_utf8_DecodeRuneInString) := by kernel_rfl
theorem K_unicode_utf8_DecodeRuneInString {args : List AV} {h : Hp} {Q : Res → Hp → Prop} (hl : LCode Tryd.prog A_unicode_utf8_DecodeRuneInString (EndQ R_unicode_utf8_DecodeRuneInString Q) (env0 19 args) h) (hn : args.length ≤ 19 := by (simp; done)) : CallL Tryd.prog F_unicode_utf8_DecodeRuneInString args h Q :=
  CallL.of Tryd.func58 C_unicode_utf8_DecodeRuneInString (by rw [Tryd.ntmps58]; exact hn) (by rw [Tryd.ntmps58]; exact hl)
def T_unicode_utf8_DecodeRuneInString : FC := ⟨19, A_unicode_utf8_DecodeRuneInString, R_unicode_utf8_DecodeRuneInString⟩
theorem G_unicode_utf8_DecodeRuneInString : GoodFC Tryd.prog F_unicode_utf8_DecodeRuneInString T_unicode_utf8_DecodeRuneInString := ⟨Tryd.f58, Tryd.func58, Tryd.ntmps58, C_unicode_utf8_DecodeRuneInString, by kernel_rfl⟩

-- internal/stringslite.Index
abbrev F_internal_stringslite_Index : Nat := 60
def A_internal_stringslite_Index_0 : List AOper := [⟨some 14, .mov (.t 1), none⟩,
    ⟨some 15, .lens (.t 14), none⟩,
    ⟨some 5, .mov (.t 15), none⟩]
def A_internal_stringslite_Index_1 : List AOper := [⟨some 17, .mov (.t 5), none⟩,
    ⟨some 18, .bini .eql (.t 17) (.c (.int .i64 (0))), none⟩,
    ⟨some 19, .mov (.t 18), none⟩,
    ⟨some 20, .mov (.t 1), some (19, false)⟩,
    ⟨some 21, .mov (.t 0), some (19, false)⟩,
    ⟨some 22, .bins .eql (.t 20) (.t 21), some (19, false)⟩,
    ⟨some 23, .pick (.t 19) (.c (.bool true)) (.t 22), none⟩,
    ⟨some 16, .mov (.t 23), none⟩]
def A_internal_stringslite_Index_2 : List AOper := [⟨some 25, .mov (.t 5), none⟩,
    ⟨some 26, .bini .eql (.t 25) (.c (.int .i64 (1))), none⟩,
    ⟨some 24, .mov (.t 26), none⟩]
def A_internal_stringslite_Index_3 : List AOper := [⟨some 27, .mov (.t 0), none⟩,
    ⟨some 28, .mov (.t 1), none⟩,
    ⟨some 29, .idxs (.t 28) (.c (.int .i64 (0))), none⟩,
    ⟨some 30, .call 63 [(.t 27), (.t 29)], none⟩,
    ⟨some 4, .mov (.t 30), none⟩]
def A_internal_stringslite_Index_4 : List AOper := [⟨some 32, .mov (.t 5), none⟩,
    ⟨some 33, .mov (.t 0), none⟩,
    ⟨some 34, .lens (.t 33), none⟩,
    ⟨some 35, .bini .geq (.t 32) (.t 34), none⟩,
    ⟨some 31, .mov (.t 35), none⟩]
def A_internal_stringslite_Index_5 : List AOper := [⟨some 37, .mov (.t 5), none⟩,
    ⟨some 38, .bad, none⟩,
    ⟨some 39, .bini .leq (.t 37) (.t 38), none⟩,
    ⟨some 40, .mov (.t 39), none⟩,
    ⟨some 41, .mov (.t 0), some (40, true)⟩,
    ⟨some 42, .lens (.t 41), some (40, true)⟩,
    ⟨some 43, .bini .leq (.t 42) (.c (.int .i64 (64))), some (40, true)⟩,
    ⟨some 44, .pick (.t 40) (.t 43) (.c (.bool false)), none⟩,
    ⟨some 36, .mov (.t 44), none⟩]
def A_internal_stringslite_Index_6 : List AOper := [⟨some 45, .mov (.t 0), none⟩,
    ⟨some 46, .mov (.t 1), none⟩,
    ⟨some 47, .bad, none⟩,
    ⟨some 4, .mov (.t 47), none⟩]
def A_internal_stringslite_Index_7 : List AOper := [⟨some 48, .mov (.t 1), none⟩,
    ⟨some 49, .idxs (.t 48) (.c (.int .i64 (0))), none⟩,
    ⟨some 6, .mov (.t 49), none⟩]
def A_internal_stringslite_Index_8 : List AOper := [⟨some 50, .mov (.t 1), none⟩,
    ⟨some 51, .idxs (.t 50) (.c (.int .i64 (1))), none⟩,
    ⟨some 7, .mov (.t 51), none⟩]
def A_internal_stringslite_Index_9 : List AOper := [⟨some 52, .mov (.t 0), none⟩,
    ⟨some 53, .lens (.t 52), none⟩,
    ⟨some 54, .mov (.t 5), none⟩,
    ⟨some 55, .bini .sub (.t 53) (.t 54), none⟩,
    ⟨some 56, .bini .add (.t 55) (.c (.int .i64 (1))), none⟩,
    ⟨some 9, .mov (.t 56), none⟩]
def A_internal_stringslite_Index_10 : List AOper := [⟨some 57, .mov (.t 8), none⟩,
    ⟨some 58, .mov (.t 9), none⟩,
    ⟨some 59, .bini .lss (.t 57) (.t 58), none⟩]
def A_internal_stringslite_Index_11 : List AOper := [⟨some 60, .mov (.t 0), none⟩,
    ⟨some 61, .mov (.t 8), none⟩,
    ⟨some 62, .idxs (.t 60) (.t 61), none⟩,
    ⟨some 63, .mov (.t 6), none⟩,
    ⟨some 64, .bini .neq (.t 62) (.t 63), none⟩]
def A_internal_stringslite_Index_12 : List AOper := [⟨some 65, .mov (.t 0), none⟩,
    ⟨some 66, .mov (.t 8), none⟩,
    ⟨some 67, .bini .add (.t 66) (.c (.int .i64 (1))), none⟩,
    ⟨some 68, .mov (.t 9), none⟩,
    ⟨some 69, .slcs (.t 65) (some (.t 67)) (some (.t 68)), none⟩,
    ⟨some 70, .mov (.t 6), none⟩,
    ⟨some 71, .call 63 [(.t 69), (.t 70)], none⟩,
    ⟨some 11, .mov (.t 71), none⟩]
def A_internal_stringslite_Index_13 : List AOper := [⟨some 72, .mov (.t 11), none⟩,
    ⟨some 73, .bini .lss (.t 72) (.c (.int .i64 (0))), none⟩]
def A_internal_stringslite_Index_14 : List AOper := [⟨some 74, .mov (.t 8), none⟩,
    ⟨some 75, .mov (.t 11), none⟩,
    ⟨some 76, .bini .add (.t 75) (.c (.int .i64 (1))), none⟩,
    ⟨some 77, .bini .add (.t 74) (.t 76), none⟩,
    ⟨some 8, .mov (.t 77), none⟩]
def A_internal_stringslite_Index_15 : List AOper := [⟨some 78, .mov (.t 0), none⟩,
    ⟨some 79, .mov (.t 8), none⟩,
    ⟨some 80, .bini .add (.t 79) (.c (.int .i64 (1))), none⟩,
    ⟨some 81, .idxs (.t 78) (.t 80), none⟩,
    ⟨some 82, .mov (.t 7), none⟩,
    ⟨some 83, .bini .eql (.t 81) (.t 82), none⟩,
    ⟨some 84, .mov (.t 83), none⟩,
    ⟨some 85, .mov (.t 0), some (84, true)⟩,
    ⟨some 86, .mov (.t 8), some (84, true)⟩,
    ⟨some 87, .mov (.t 8), some (84, true)⟩,
    ⟨some 88, .mov (.t 5), some (84, true)⟩,
    ⟨some 89, .bini .add (.t 87) (.t 88), some (84, true)⟩,
    ⟨some 90, .slcs (.t 85) (some (.t 86)) (some (.t 89)), some (84, true)⟩,
    ⟨some 91, .mov (.t 1), some (84, true)⟩,
    ⟨some 92, .bins .eql (.t 90) (.t 91), some (84, true)⟩,
    ⟨some 93, .pick (.t 84) (.t 92) (.c (.bool false)), none⟩]
def A_internal_stringslite_Index_16 : List AOper := [⟨some 94, .mov (.t 8), none⟩,
    ⟨some 4, .mov (.t 94), none⟩]
def A_internal_stringslite_Index_17 : List AOper := [⟨some 95, .mov (.t 8), none⟩,
    ⟨some 96, .bini .add (.t 95) (.c (.int .i64 (1))), none⟩,
    ⟨some 8, .mov (.t 96), none⟩]
def A_internal_stringslite_Index_18 : List AOper := [⟨some 97, .mov (.t 10), none⟩,
    ⟨some 98, .bini .add (.t 97) (.c (.int .i64 (1))), none⟩,
    ⟨some 10, .mov (.t 98), none⟩]
def A_internal_stringslite_Index_19 : List AOper := [⟨some 99, .mov (.t 5), none⟩,
    ⟨some 100, .bad, none⟩,
    ⟨some 101, .bini .leq (.t 99) (.t 100), none⟩,
    ⟨some 102, .mov (.t 101), none⟩,
    ⟨some 103, .mov (.t 10), some (102, true)⟩,
    ⟨some 104, .mov (.t 8), some (102, true)⟩,
    ⟨some 105, .call 65 [(.t 104)], some (102, true)⟩,
    ⟨some 106, .bini .gtr (.t 103) (.t 105), some (102, true)⟩,
    ⟨some 107, .pick (.t 102) (.t 106) (.c (.bool false)), none⟩]
def A_internal_stringslite_Index_20 : List AOper := [⟨some 108, .mov (.t 0), none⟩,
    ⟨some 109, .mov (.t 8), none⟩,
    ⟨some 110, .slcs (.t 108) (some (.t 109)) none, none⟩,
    ⟨some 111, .mov (.t 1), none⟩,
    ⟨some 112, .bad, none⟩,
    ⟨some 12, .mov (.t 112), none⟩]
def A_internal_stringslite_Index_21 : List AOper := [⟨some 113, .mov (.t 12), none⟩,
    ⟨some 114, .bini .geq (.t 113) (.c (.int .i64 (0))), none⟩]
def A_internal_stringslite_Index_22 : List AOper := [⟨some 115, .mov (.t 12), none⟩,
    ⟨some 116, .mov (.t 8), none⟩,
    ⟨some 117, .bini .add (.t 115) (.t 116), none⟩,
    ⟨some 4, .mov (.t 117), none⟩]
def A_internal_stringslite_Index_23 : List AOper := [⟨some 118, .mov (.t 5), none⟩,
    ⟨some 119, .bad, none⟩,
    ⟨some 120, .bini .gtr (.t 118) (.t 119), none⟩,
    ⟨some 121, .mov (.t 120), none⟩,
    ⟨some 122, .mov (.t 10), some (121, true)⟩,
    ⟨some 123, .mov (.t 8), some (121, true)⟩,
    ⟨some 124, .bini .shr (.t 123) (.c (.int .u64 (4))), some (121, true)⟩,
    ⟨some 125, .bini .add (.c (.int .i64 (4))) (.t 124), some (121, true)⟩,
    ⟨some 126, .bini .geq (.t 122) (.t 125), some (121, true)⟩,
    ⟨some 127, .pick (.t 121) (.t 126) (.c (.bool false)), none⟩,
    ⟨some 128, .mov (.t 127), none⟩,
    ⟨some 129, .mov (.t 8), some (128, true)⟩,
    ⟨some 130, .mov (.t 9), some (128, true)⟩,
    ⟨some 131, .bini .lss (.t 129) (.t 130), some (128, true)⟩,
    ⟨some 132, .pick (.t 128) (.t 131) (.c (.bool false)), none⟩]
def A_internal_stringslite_Index_24 : List AOper := [⟨some 133, .mov (.t 0), none⟩,
    ⟨some 134, .mov (.t 8), none⟩,
    ⟨some 135, .slcs (.t 133) (some (.t 134)) none, none⟩,
    ⟨some 136, .mov (.t 1), none⟩,
    ⟨some 137, .call 66 [(.t 135), (.t 136)], none⟩,
    ⟨some 13, .mov (.t 137), none⟩]
def A_internal_stringslite_Index_25 : List AOper := [⟨some 138, .mov (.t 13), none⟩,
    ⟨some 139, .bini .lss (.t 138) (.c (.int .i64 (0))), none⟩]
def A_internal_stringslite_Index_26 : List AOper := [⟨some 140, .mov (.t 8), none⟩,
    ⟨some 141, .mov (.t 13), none⟩,
    ⟨some 142, .bini .add (.t 140) (.t 141), none⟩,
    ⟨some 4, .mov (.t 142), none⟩]
def A_internal_stringslite_Index_27 : ACode := (.seq (.seq (.ops A_internal_stringslite_Index_10) (.cond (.t 59) .skip (.exit 1))) (.block 2 (.seq (.seq (.ops A_internal_stringslite_Index_11) (.cond (.t 64) (.seq (.ops A_internal_stringslite_Index_12) (.seq (.seq (.ops A_internal_stringslite_Index_13) (.cond (.t 73) (.seq (.ops [⟨some 4, .mov (.c (.int .i64 (-1))), none⟩]) .ret) .skip)) (.ops A_internal_stringslite_Index_14))) .skip)) (.seq (.seq (.ops A_internal_stringslite_Index_15) (.cond (.t 93) (.seq (.ops A_internal_stringslite_Index_16) .ret) .skip)) (.seq (.ops A_internal_stringslite_Index_17) (.seq (.ops A_internal_stringslite_Index_18) (.seq (.ops A_internal_stringslite_Index_19) (.cond (.t 107) (.seq (.ops A_internal_stringslite_Index_20) (.seq (.seq (.ops A_internal_stringslite_Index_21) (.cond (.t 114) (.seq (.ops A_internal_stringslite_Index_22) .ret) .skip)) (.seq (.ops [⟨some 4, .mov (.c (.int .i64 (-1))), none⟩]) .ret))) (.seq (.ops A_internal_stringslite_Index_23) (.cond (.t 132) (.seq (.ops A_internal_stringslite_Index_24) (.seq (.seq (.ops A_internal_stringslite_Index_25) (.cond (.t 139) (.seq (.ops [⟨some 4, .mov (.c (.int .i64 (-1))), none⟩]) .ret) .skip)) (.seq (.ops A_internal_stringslite_Index_26) .ret))) .skip))))))))))
def A_internal_stringslite_Index : ACode := (.seq (.ops [⟨some 4, .mov (.c (.int .i64 (0))), none⟩]) (.seq (.ops A_internal_stringslite_Index_0) (.seq (.block 0 (.seq (.ops A_internal_stringslite_Index_1) (.cond (.t 16) (.seq (.ops [⟨some 4, .mov (.c (.int .i64 (0))), none⟩]) .ret) (.seq (.ops A_internal_stringslite_Index_2) (.cond (.t 24) (.seq (.ops A_internal_stringslite_Index_3) .ret) (.seq (.ops A_internal_stringslite_Index_4) (.cond (.t 31) (.seq (.ops [⟨some 4, .mov (.c (.int .i64 (-1))), none⟩]) .ret) (.seq (.ops A_internal_stringslite_Index_5) (.cond (.t 36) (.seq (.ops A_internal_stringslite_Index_6) .ret) .skip))))))))) (.seq (.ops A_internal_stringslite_Index_7) (.seq (.ops A_internal_stringslite_Index_8) (.seq (.ops [⟨some 8, .mov (.c (.int .i64 (0))), none⟩]) (.seq (.ops A_internal_stringslite_Index_9) (.seq (.ops [⟨some 10, .mov (.c (.int .i64 (0))), none⟩]) (.seq (.block 1 (.loop A_internal_stringslite_Index_27)) (.seq (.ops [⟨some 4, .mov (.c (.int .i64 (-1))), none⟩]) .ret))))))))))
def R_internal_stringslite_Index : List ARes := [.tmp 4]
theorem C_internal_stringslite_Index : compF Tryd.prog Tryd.f60 = some (A_internal_stringslite_Index, R_internal_stringslite_Index) := by kernel_rfl
theorem K_internal_stringslite_Index {args : List AV} {h : Hp} {Q : Res → Hp → Prop} (hl : LCode Tryd.prog A_internal_stringslite_Index (EndQ R_internal_stringslite_Index Q) (env0 143 args) h) (hn : args.length ≤ 143 := by (simp; done)) : CallL Tryd.prog F_internal_stringslite_Index args h Q :=
  CallL.of Tryd.func60 C_internal_stringslite_Index (by rw [Tryd.ntmps60]; exact hn) (by rw [Tryd.ntmps60]; exact hl)
def T_internal_stringslite_Index : FC := ⟨143, A_internal_stringslite_Index, R_internal_stringslite_Index⟩
theorem G_internal_stringslite_Index : GoodFC Tryd.prog F_internal_stringslite_Index T_internal_stringslite_Index := ⟨Tryd.f60, Tryd.func60, Tryd.ntmps60, C_internal_stringslite_Index, by kernel_rfl⟩

-- slices.order2Ordered[string]
abbrev F_slices_order2Ordered_string : Nat := 61
def A_slices_order2Ordered_string_0 : List AOper := [⟨some 8, .mov (.c (.int .i64 (0))), none⟩,
    ⟨some 9, .mov (.c (.int .i64 (0))), none⟩]
def A_slices_order2Ordered_string_1 : List AOper := [⟨some 10, .mov (.t 0), none⟩,
    ⟨some 11, .mov (.t 2), none⟩,
    ⟨some 12, .iaddr 9 1 (.t 10) (.t 11), none⟩,
    ⟨some 13, .ld1 (.t 12), none⟩,
    ⟨some 14, .mov (.t 0), none⟩,
    ⟨some 15, .mov (.t 1), none⟩,
    ⟨some 16, .iaddr 9 1 (.t 14) (.t 15), none⟩,
    ⟨some 17, .ld1 (.t 16), none⟩,
    ⟨some 18, .call 38 [(.t 13), (.t 17)], none⟩]
def A_slices_order2Ordered_string_2 : List AOper := [⟨some 19, .mov (.t 3), none⟩,
    ⟨some 20, .nilc (.t 19), none⟩,
    ⟨some 21, .ld1 (.t 20), none⟩,
    ⟨some 22, .bini .add (.t 21) (.c (.int .i64 (1))), none⟩,
    ⟨some 23, .nilc (.t 19), none⟩,
    ⟨none, .st 1 (.t 23) (.t 22), none⟩]
def A_slices_order2Ordered_string_3 : List AOper := [⟨some 24, .mov (.t 2), none⟩,
    ⟨some 25, .mov (.t 1), none⟩,
    ⟨some 8, .mov (.t 24), none⟩,
    ⟨some 9, .mov (.t 25), none⟩]
def A_slices_order2Ordered_string_4 : List AOper := [⟨some 26, .mov (.t 1), none⟩,
    ⟨some 27, .mov (.t 2), none⟩,
    ⟨some 8, .mov (.t 26), none⟩,
    ⟨some 9, .mov (.t 27), none⟩]
def A_slices_order2Ordered_string : ACode := (.seq (.ops A_slices_order2Ordered_string_0) (.seq (.seq (.alts [A_slices_order2Ordered_string_1]) (.cond (.t 18) (.seq (.ops A_slices_order2Ordered_string_2) (.seq (.ops A_slices_order2Ordered_string_3) .ret)) .skip)) (.seq (.ops A_slices_order2Ordered_string_4) .ret)))
def R_slices_order2Ordered_string : List ARes := [.tmp 8, .tmp 9]
theorem C_slices_order2Ordered_string : compF Tryd.prog Tryd.f61 = some (A_slices_order2Ordered_string, R_slices_order2Ordered_string) := by kernel_rfl
theorem K_slices_order2Ordered_string {args : List AV} {h : Hp} {Q : Res → Hp → Prop} (hl : LCode Tryd.prog A_slices_order2Ordered_string (EndQ R_slices_order2Ordered_string Q) (env0 28 args) h) (hn : args.length ≤ 28 := by (simp; done)) : CallL Tryd.prog F_slices_order2Ordered_string args h Q :=
  CallL.of Tryd.func61 C_slices_order2Ordered_string (by rw [Tryd.ntmps61]; exact hn) (by rw [Tryd.ntmps61]; exact hl)
def T_slices_order2Ordered_string : FC := ⟨28, A_slices_order2Ordered_string, R_slices_order2Ordered_string⟩
theorem G_slices_order2Ordered_string : GoodFC Tryd.prog F_slices_order2Ordered_string T_slices_order2Ordered_string := ⟨Tryd.f61, Tryd.func61, Tryd.ntmps61, C_slices_order2Ordered_string, by kernel_rfl⟩

-- unicode/utf8.decodeRuneInStringSlow
abbrev F_unicode_utf8_decodeRuneInStringSlow : Nat := 62
def A_unicode_utf8_decodeRuneInStringSlow_0 : List AOper := [⟨some 2, .mov (.c (.int .i32 (0))), none⟩,
    ⟨some 3, .mov (.c (.int .i64 (0))), none⟩]
def A_unicode_utf8_decodeRuneInStringSlow_1 : List AOper := [⟨some 13, .mov (.t 0), none⟩,
    ⟨some 14, .lens (.t 13), none⟩,
    ⟨some 4, .mov (.t 14), none⟩]
def A_unicode_utf8_decodeRuneInStringSlow_2 : List AOper := [⟨some 15, .mov (.t 4), none⟩,
    ⟨some 16, .bini .lss (.t 15) (.c (.int .i64 (1))), none⟩]
def A_unicode_utf8_decodeRuneInStringSlow_3 : List AOper := [⟨some 2, .mov (.c (.int .i32 (65533))), none⟩,
    ⟨some 3, .mov (.c (.int .i64 (0))), none⟩]
def A_unicode_utf8_decodeRuneInStringSlow_4 : List AOper := [⟨some 17, .mov (.t 0), none⟩,
    ⟨some 18, .idxs (.t 17) (.c (.int .i64 (0))), none⟩,
    ⟨some 5, .mov (.t 18), none⟩]
def A_unicode_utf8_decodeRuneInStringSlow_5 : List AOper := [⟨some 19, .mov (.t 5), none⟩,
    ⟨some 20, .bad, none⟩,
    ⟨some 21, .ld1 (.t 20), none⟩,
    ⟨some 6, .mov (.t 21), none⟩]
def A_unicode_utf8_decodeRuneInStringSlow_6 : List AOper := [⟨some 22, .mov (.t 6), none⟩,
    ⟨some 23, .bini .geq (.t 22) (.c (.int .u8 (240))), none⟩]
def A_unicode_utf8_decodeRuneInStringSlow_7 : List AOper := [⟨some 24, .mov (.t 6), none⟩,
    ⟨some 25, .conv .i32 (.t 24), none⟩,
    ⟨some 26, .bini .shl (.t 25) (.c (.int .u64 (31))), none⟩,
    ⟨some 27, .bini .shr (.t 26) (.c (.int .u64 (31))), none⟩,
    ⟨some 7, .mov (.t 27), none⟩]
def A_unicode_utf8_decodeRuneInStringSlow_8 : List AOper := [⟨some 28, .mov (.t 0), none⟩,
    ⟨some 29, .idxs (.t 28) (.c (.int .i64 (0))), none⟩,
    ⟨some 30, .conv .i32 (.t 29), none⟩,
    ⟨some 31, .mov (.t 7), none⟩,
    ⟨some 32, .bini .andNot (.t 30) (.t 31), none⟩,
    ⟨some 33, .mov (.t 7), none⟩,
    ⟨some 34, .bini .and (.c (.int .i32 (65533))) (.t 33), none⟩,
    ⟨some 35, .bini .or (.t 32) (.t 34), none⟩,
    ⟨some 2, .mov (.t 35), none⟩,
    ⟨some 3, .mov (.c (.int .i64 (1))), none⟩]
def A_unicode_utf8_decodeRuneInStringSlow_9 : List AOper := [⟨some 36, .mov (.t 6), none⟩,
    ⟨some 37, .bini .and (.t 36) (.c (.int .u8 (7))), none⟩,
    ⟨some 38, .conv .i64 (.t 37), none⟩,
    ⟨some 8, .mov (.t 38), none⟩]
def A_unicode_utf8_decodeRuneInStringSlow_10 : List AOper := [⟨some 39, .mov (.t 6), none⟩,
    ⟨some 40, .bini .shr (.t 39) (.c (.int .u64 (4))), none⟩,
    ⟨some 41, .bad, none⟩,
    ⟨some 42, .lda 2 (.t 41), none⟩,
    ⟨some 9, .box 80 2 (.c (.agg [.int .u8 (0), .int .u8 (0)])), none⟩,
    ⟨none, .st 2 (.t 9) (.t 42), none⟩]
def A_unicode_utf8_decodeRuneInStringSlow_11 : List AOper := [⟨some 43, .mov (.t 4), none⟩,
    ⟨some 44, .mov (.t 8), none⟩,
    ⟨some 45, .bini .lss (.t 43) (.t 44), none⟩]
def A_unicode_utf8_decodeRuneInStringSlow_12 : List AOper := [⟨some 2, .mov (.c (.int .i32 (65533))), none⟩,
    ⟨some 3, .mov (.c (.int .i64 (1))), none⟩]
def A_unicode_utf8_decodeRuneInStringSlow_13 : List AOper := [⟨some 46, .mov (.t 0), none⟩,
    ⟨some 47, .idxs (.t 46) (.c (.int .i64 (1))), none⟩,
    ⟨some 10, .mov (.t 47), none⟩]
def A_unicode_utf8_decodeRuneInStringSlow_14 : List AOper := [⟨some 48, .mov (.t 10), none⟩,
    ⟨some 49, .faddr 0 (.t 9), none⟩,
    ⟨some 50, .ld1 (.t 49), none⟩,
    ⟨some 51, .bini .lss (.t 48) (.t 50), none⟩,
    ⟨some 52, .mov (.t 51), none⟩,
    ⟨some 53, .faddr 1 (.t 9), some (52, false)⟩,
    ⟨some 54, .ld1 (.t 53), some (52, false)⟩,
    ⟨some 55, .mov (.t 10), some (52, false)⟩,
    ⟨some 56, .bini .lss (.t 54) (.t 55), some (52, false)⟩,
    ⟨some 57, .pick (.t 52) (.c (.bool true)) (.t 56), none⟩]
def A_unicode_utf8_decodeRuneInStringSlow_15 : List AOper := [⟨some 2, .mov (.c (.int .i32 (65533))), none⟩,
    ⟨some 3, .mov (.c (.int .i64 (1))), none⟩]
def A_unicode_utf8_decodeRuneInStringSlow_16 : List AOper := [⟨some 58, .mov (.t 8), none⟩,
    ⟨some 59, .bini .leq (.t 58) (.c (.int .i64 (2))), none⟩]
def A_unicode_utf8_decodeRuneInStringSlow_17 : List AOper := [⟨some 60, .mov (.t 5), none⟩,
    ⟨some 61, .bini .and (.t 60) (.c (.int .u8 (31))), none⟩,
    ⟨some 62, .conv .i32 (.t 61), none⟩,
    ⟨some 63, .bini .shl (.t 62) (.c (.int .u64 (6))), none⟩,
    ⟨some 64, .mov (.t 10), none⟩,
    ⟨some 65, .bini .and (.t 64) (.c (.int .u8 (63))), none⟩,
    ⟨some 66, .conv .i32 (.t 65), none⟩,
    ⟨some 67, .bini .or (.t 63) (.t 66), none⟩,
    ⟨some 2, .mov (.t 67), none⟩,
    ⟨some 3, .mov (.c (.int .i64 (2))), none⟩]
def A_unicode_utf8_decodeRuneInStringSlow_18 : List AOper := [⟨some 68, .mov (.t 0), none⟩,
    ⟨some 69, .idxs (.t 68) (.c (.int .i64 (2))), none⟩,
    ⟨some 11, .mov (.t 69), none⟩]
def A_unicode_utf8_decodeRuneInStringSlow_19 : List AOper := [⟨some 70, .mov (.t 11), none⟩,
    ⟨some 71, .bini .lss (.t 70) (.c (.int .u8 (128))), none⟩,
    ⟨some 72, .mov (.t 71), none⟩,
    ⟨some 73, .mov (.t 11), some (72, false)⟩,
    ⟨some 74, .bini .lss (.c (.int .u8 (191))) (.t 73), some (72, false)⟩,
    ⟨some 75, .pick (.t 72) (.c (.bool true)) (.t 74), none⟩]
def A_unicode_utf8_decodeRuneInStringSlow_20 : List AOper := [⟨some 2, .mov (.c (.int .i32 (65533))), none⟩,
    ⟨some 3, .mov (.c (.int .i64 (1))), none⟩]
def A_unicode_utf8_decodeRuneInStringSlow_21 : List AOper := [⟨some 76, .mov (.t 8), none⟩,
    ⟨some 77, .bini .leq (.t 76) (.c (.int .i64 (3))), none⟩]
def A_unicode_utf8_decodeRuneInStringSlow_22 : List AOper := [⟨some 78, .mov (.t 5), none⟩,
    ⟨some 79, .bini .and (.t 78) (.c (.int .u8 (15))), none⟩,
    ⟨some 80, .conv .i32 (.t 79), none⟩,
    ⟨some 81, .bini .shl (.t 80) (.c (.int .u64 (12))), none⟩,
    ⟨some 82, .mov (.t 10), none⟩,
    ⟨some 83, .bini .and (.t 82) (.c (.int .u8 (63))), none⟩,
    ⟨some 84, .conv .i32 (.t 83), none⟩,
    ⟨some 85, .bini .shl (.t 84) (.c (.int .u64 (6))), none⟩,
    ⟨some 86, .bini .or (.t 81) (.t 85), none⟩,
    ⟨some 87, .mov (.t 11), none⟩,
    ⟨some 88, .bini .and (.t 87) (.c (.int .u8 (63))), none⟩,
    ⟨some 89, .conv .i32 (.t 88), none⟩,
    ⟨some 90, .bini .or (.t 86) (.t 89), none⟩,
    ⟨some 2, .mov (.t 90), none⟩,
    ⟨some 3, .mov (.c (.int .i64 (3))), none⟩]
def A_unicode_utf8_decodeRuneInStringSlow_23 : List AOper := [⟨some 91, .mov (.t 0), none⟩,
    ⟨some 92, .idxs (.t 91) (.c (.int .i64 (3))), none⟩,
    ⟨some 12, .mov (.t 92), none⟩]
def A_unicode_utf8_decodeRuneInStringSlow_24 : List AOper := [⟨some 93, .mov (.t 12), none⟩,
    ⟨some 94, .bini .lss (.t 93) (.c (.int .u8 (128))), none⟩,
    ⟨some 95, .mov (.t 94), none⟩,
    ⟨some 96, .mov (.t 12), some (95, false)⟩,
    ⟨some 97, .bini .lss (.c (.int .u8 (191))) (.t 96), some (95, false)⟩,
    ⟨some 98, .pick (.t 95) (.c (.bool true)) (.t 97), none⟩]
def A_unicode_utf8_decodeRuneInStringSlow_25 : List AOper := [⟨some 2, .mov (.c (.int .i32 (65533))), none⟩,
    ⟨some 3, .mov (.c (.int .i64 (1))), none⟩]
def A_unicode_utf8_decodeRuneInStringSlow_26 : List AOper := [⟨some 99, .mov (.t 5), none⟩,
    ⟨some 100, .bini .and (.t 99) (.c (.int .u8 (7))), none⟩,
    ⟨some 101, .conv .i32 (.t 100), none⟩,
    ⟨some 102, .bini .shl (.t 101) (.c (.int .u64 (18))), none⟩,
    ⟨some 103, .mov (.t 10), none⟩,
    ⟨some 104, .bini .and (.t 103) (.c (.int .u8 (63))), none⟩,
    ⟨some 105, .conv .i32 (.t 104), none⟩,
    ⟨some 106, .bini .shl (.t 105) (.c (.int .u64 (12))), none⟩,
    ⟨some 107, .bini .or (.t 102) (.t 106), none⟩,
    ⟨some 108, .mov (.t 11), none⟩,
    ⟨some 109, .bini .and (.t 108) (.c (.int .u8 (63))), none⟩,
    ⟨some 110, .conv .i32 (.t 109), none⟩,
    ⟨some 111, .bini .shl (.t 110) (.c (.int .u64 (6))), none⟩,
    ⟨some 112, .bini .or (.t 107) (.t 111), none⟩,
    ⟨some 113, .mov (.t 12), none⟩,
    ⟨some 114, .bini .and (.t 113) (.c (.int .u8 (63))), none⟩,
    ⟨some 115, .conv .i32 (.t 114), none⟩,
    ⟨some 116, .bini .or (.t 112) (.t 115), none⟩,
    ⟨some 2, .mov (.t 116), none⟩,
    ⟨some 3, .mov (.c (.int .i64 (4))), none⟩]
def A_unicode_utf8_decodeRuneInStringSlow : ACode := (.seq (.ops A_unicode_utf8_decodeRuneInStringSlow_0) (.seq (.ops A_unicode_utf8_decodeRuneInStringSlow_1) (.seq (.seq (.ops A_unicode_utf8_decodeRuneInStringSlow_2) (.cond (.t 16) (.seq (.ops A_unicode_utf8_decodeRuneInStringSlow_3) .ret) .skip)) (.seq (.ops A_unicode_utf8_decodeRuneInStringSlow_4) (.seq (.ops A_unicode_utf8_decodeRuneInStringSlow_5) (.seq (.seq (.ops A_unicode_utf8_decodeRuneInStringSlow_6) (.cond (.t 23) (.seq (.ops A_unicode_utf8_decodeRuneInStringSlow_7) (.seq (.ops A_unicode_utf8_decodeRuneInStringSlow_8) .ret)) .skip)) (.seq (.ops A_unicode_utf8_decodeRuneInStringSlow_9) (.seq (.ops A_unicode_utf8_decodeRuneInStringSlow_10) (.seq (.seq (.ops A_unicode_utf8_decodeRuneInStringSlow_11) (.cond (.t 45) (.seq (.ops A_unicode_utf8_decodeRuneInStringSlow_12) .ret) .skip)) (.seq (.ops A_unicode_utf8_decodeRuneInStringSlow_13) (.seq (.seq (.ops A_unicode_utf8_decodeRuneInStringSlow_14) (.cond (.t 57) (.seq (.ops A_unicode_utf8_decodeRuneInStringSlow_15) .ret) .skip)) (.seq (.seq (.ops A_unicode_utf8_decodeRuneInStringSlow_16) (.cond (.t 59) (.seq (.ops A_unicode_utf8_decodeRuneInStringSlow_17) .ret) .skip)) (.seq (.ops A_unicode_utf8_decodeRuneInStringSlow_18) (.seq (.seq (.ops A_unicode_utf8_decodeRuneInStringSlow_19) (.cond (.t 75) (.seq (.ops A_unicode_utf8_decodeRuneInStringSlow_20) .ret) .skip)) (.seq (.seq (.ops A_unicode_utf8_decodeRuneInStringSlow_21) (.cond (.t 77) (.seq (.ops A_unicode_utf8_decodeRuneInStringSlow_22) .ret) .skip)) (.seq (.ops A_unicode_utf8_decodeRuneInStringSlow_23) (.seq (.seq (.ops A_unicode_utf8_decodeRuneInStringSlow_24) (.cond (.t 98) (.seq (.ops A_unicode_utf8_decodeRuneInStringSlow_25) .ret) .skip)) (.seq (.ops A_unicode_utf8_decodeRuneInStringSlow_26) .ret))))))))))))))))))
def R_unicode_utf8_decodeRuneInStringSlow : List ARes := [.tmp 2, .tmp 3]
theorem C_unicode_utf8_decodeRuneInStringSlow : compF Tryd.prog Tryd.f62 = some (A_unicode_utf8_decodeRuneInStringSlow, R_unicode_utf8_decodeRuneInStringSlow) := by kernel_rfl
theorem K_unicode_utf8_decodeRuneInStringSlow {args : List AV} {h : Hp} {Q : Res → Hp → Prop} (hl : LCode Tryd.prog A_unicode_utf8_decodeRuneInStringSlow (EndQ R_unicode_utf8_decodeRuneInStringSlow Q) (env0 117 args) h) (hn : args.length ≤ 117 := by (simp; done)) : CallL Tryd.prog F_unicode_utf8_decodeRuneInStringSlow args h Q :=
  CallL.of Tryd.func62 C_unicode_utf8_decodeRuneInStringSlow (by rw [Tryd.ntmps62]; exact hn) (by rw [Tryd.ntmps62]; exact hl)
def T_unicode_utf8_decodeRuneInStringSlow : FC := ⟨117, A_unicode_utf8_decodeRuneInStringSlow, R_unicode_utf8_decodeRuneInStringSlow⟩
theorem G_unicode_utf8_decodeRuneInStringSlow : GoodFC Tryd.prog F_unicode_utf8_decodeRuneInStringSlow T_unicode_utf8_decodeRuneInStringSlow := ⟨Tryd.f62, Tryd.func62, Tryd.ntmps62, C_unicode_utf8_decodeRuneInStringSlow, by kernel_rfl⟩

-- internal/stringslite.IndexByte
abbrev F_internal_stringslite_IndexByte : Nat := 63
def A_internal_stringslite_IndexByte_0 : List AOper := [⟨some 5, .mov (.t 0), none⟩,
    ⟨some 6, .mov (.t 1), none⟩,
    ⟨some 7, .xindex (.t 5) (.t 6), none⟩,
    ⟨some 4, .mov (.t 7), none⟩]
def A_internal_stringslite_IndexByte : ACode := (.seq (.ops [⟨some 4, .mov (.c (.int .i64 (0))), none⟩]) (.seq (.ops A_internal_stringslite_IndexByte_0) .ret))
def R_internal_stringslite_IndexByte : List ARes := [.tmp 4]
theorem C_internal_stringslite_IndexByte : compF Tryd.prog Tryd.f63 = some (A_internal_stringslite_IndexByte, R_internal_stringslite_IndexByte) := by kernel_rfl
theorem K_internal_stringslite_IndexByte {args : List AV} {h : Hp} {Q : Res → Hp → Prop} (hl : LCode Tryd.prog A_internal_stringslite_IndexByte (EndQ R_internal_stringslite_IndexByte Q) (env0 8 args) h) (hn : args.length ≤ 8 := by (simp; done)) : CallL Tryd.prog F_internal_stringslite_IndexByte args h Q :=
  CallL.of Tryd.func63 C_internal_stringslite_IndexByte (by rw [Tryd.ntmps63]; exact hn) (by rw [Tryd.ntmps63]; exact hl)
def T_internal_stringslite_IndexByte : FC := ⟨8, A_internal_stringslite_IndexByte, R_internal_stringslite_IndexByte⟩
theorem G_internal_stringslite_IndexByte : GoodFC Tryd.prog F_internal_stringslite_IndexByte T_internal_stringslite_IndexByte := ⟨Tryd.f63, Tryd.func63, Tryd.ntmps63, C_internal_stringslite_IndexByte, by kernel_rfl⟩

-- internal/bytealg.Cutover
abbrev F_internal_bytealg_Cutover : Nat := 65
def A_internal_bytealg_Cutover_0 : List AOper := [⟨some 3, .mov (.t 0), none⟩,
    ⟨some 4, .bini .add (.t 3) (.c (.int .i64 (16))), none⟩,
    ⟨some 5, .bini .quo (.t 4) (.c (.int .i64 (8))), none⟩,
    ⟨some 2, .mov (.t 5), none⟩]
def A_internal_bytealg_Cutover : ACode := (.seq (.ops [⟨some 2, .mov (.c (.int .i64 (0))), none⟩]) (.seq (.ops A_internal_bytealg_Cutover_0) .ret))
def R_internal_bytealg_Cutover : List ARes := [.tmp 2]
theorem C_internal_bytealg_Cutover : compF Tryd.prog Tryd.f65 = some (A_internal_bytealg_Cutover, R_internal_bytealg_Cutover) := by kernel_rfl
theorem K_internal_bytealg_Cutover {args : List AV} {h : Hp} {Q : Res → Hp → Prop} (hl : LCode Tryd.prog A_internal_bytealg_Cutover (EndQ R_internal_bytealg_Cutover Q) (env0 6 args) h) (hn : args.length ≤ 6 := by (simp; done)) : CallL Tryd.prog F_internal_bytealg_Cutover args h Q :=
  CallL.of Tryd.func65 C_internal_bytealg_Cutover (by rw [Tryd.ntmps65]; exact hn) (by rw [Tryd.ntmps65]; exact hl)
def T_internal_bytealg_Cutover : FC := ⟨6, A_internal_bytealg_Cutover, R_internal_bytealg_Cutover⟩
theorem G_internal_bytealg_Cutover : GoodFC Tryd.prog F_internal_bytealg_Cutover T_internal_bytealg_Cutover := ⟨Tryd.f65, Tryd.func65, Tryd.ntmps65, C_internal_bytealg_Cutover, by kernel_rfl⟩

-- internal/bytealg.IndexRabinKarp[string]
abbrev F_internal_bytealg_IndexRabinKarp_string : Nat := 66
def A_internal_bytealg_IndexRabinKarp_string_0 : List AOper := [⟨some 12, .mov (.t 1), none⟩,
    ⟨some 13, .call 68 [(.t 12)], none⟩,
    ⟨some 11, .mov (.t 13), none⟩,
    ⟨some 14, .ext 0 (.t 11), none⟩,
    ⟨some 15, .ext 1 (.t 11), none⟩,
    ⟨some 5, .mov (.t 14), none⟩,
    ⟨some 6, .mov (.t 15), none⟩]
def A_internal_bytealg_IndexRabinKarp_string_1 : List AOper := [⟨some 16, .mov (.t 1), none⟩,
    ⟨some 17, .lens (.t 16), none⟩,
    ⟨some 7, .mov (.t 17), none⟩]
def A_internal_bytealg_IndexRabinKarp_string_2 : List AOper := [⟨some 18, .mov (.t 9), none⟩,
    ⟨some 19, .mov (.t 7), none⟩,
    ⟨some 20, .bini .lss (.t 18) (.t 19), none⟩]
def A_internal_bytealg_IndexRabinKarp_string_3 : List AOper := [⟨some 23, .mov (.t 8), none⟩,
    ⟨some 24, .bini .mul (.t 23) (.c (.int .u32 (16777619))), none⟩,
    ⟨some 25, .mov (.t 0), none⟩,
    ⟨some 26, .mov (.t 9), none⟩,
    ⟨some 27, .idxs (.t 25) (.t 26), none⟩,
    ⟨some 28, .conv .u32 (.t 27), none⟩,
    ⟨some 29, .bini .add (.t 24) (.t 28), none⟩,
    ⟨some 8, .mov (.t 29), none⟩]
def A_internal_bytealg_IndexRabinKarp_string_4 : List AOper := [⟨some 21, .mov (.t 9), none⟩,
    ⟨some 22, .bini .add (.t 21) (.c (.int .i64 (1))), none⟩,
    ⟨some 9, .mov (.t 22), none⟩]
def A_internal_bytealg_IndexRabinKarp_string_5 : ACode := (.seq (.seq (.ops A_internal_bytealg_IndexRabinKarp_string_2) (.cond (.t 20) .skip (.exit 0))) (.seq (.block 1 (.ops A_internal_bytealg_IndexRabinKarp_string_3)) (.ops A_internal_bytealg_IndexRabinKarp_string_4)))
def A_internal_bytealg_IndexRabinKarp_string_6 : List AOper := [⟨some 30, .mov (.t 8), none⟩,
    ⟨some 31, .mov (.t 5), none⟩,
    ⟨some 32, .bini .eql (.t 30) (.t 31), none⟩,
    ⟨some 33, .mov (.t 32), none⟩,
    ⟨some 34, .mov (.t 0), some (33, true)⟩,
    ⟨some 35, .mov (.t 7), some (33, true)⟩,
    ⟨some 36, .slcs (.t 34) none (some (.t 35)), some (33, true)⟩,
    ⟨some 37, .mov (.t 1), some (33, true)⟩,
    ⟨some 38, .bins .eql (.t 36) (.t 37), some (33, true)⟩,
    ⟨some 39, .pick (.t 33) (.t 38) (.c (.bool false)), none⟩]
def A_internal_bytealg_IndexRabinKarp_string_7 : List AOper := [⟨some 40, .mov (.t 7), none⟩,
    ⟨some 10, .mov (.t 40), none⟩]
def A_internal_bytealg_IndexRabinKarp_string_8 : List AOper := [⟨some 41, .mov (.t 10), none⟩,
    ⟨some 42, .mov (.t 0), none⟩,
    ⟨some 43, .lens (.t 42), none⟩,
    ⟨some 44, .bini .lss (.t 41) (.t 43), none⟩]
def A_internal_bytealg_IndexRabinKarp_string_9 : List AOper := [⟨some 45, .mov (.t 8), none⟩,
    ⟨some 46, .bini .mul (.t 45) (.c (.int .u32 (16777619))), none⟩,
    ⟨some 8, .mov (.t 46), none⟩]
def A_internal_bytealg_IndexRabinKarp_string_10 : List AOper := [⟨some 47, .mov (.t 8), none⟩,
    ⟨some 48, .mov (.t 0), none⟩,
    ⟨some 49, .mov (.t 10), none⟩,
    ⟨some 50, .idxs (.t 48) (.t 49), none⟩,
    ⟨some 51, .conv .u32 (.t 50), none⟩,
    ⟨some 52, .bini .add (.t 47) (.t 51), none⟩,
    ⟨some 8, .mov (.t 52), none⟩]
def A_internal_bytealg_IndexRabinKarp_string_11 : List AOper := [⟨some 53, .mov (.t 8), none⟩,
    ⟨some 54, .mov (.t 6), none⟩,
    ⟨some 55, .mov (.t 0), none⟩,
    ⟨some 56, .mov (.t 10), none⟩,
    ⟨some 57, .mov (.t 7), none⟩,
    ⟨some 58, .bini .sub (.t 56) (.t 57), none⟩,
    ⟨some 59, .idxs (.t 55) (.t 58), none⟩,
    ⟨some 60, .conv .u32 (.t 59), none⟩,
    ⟨some 61, .bini .mul (.t 54) (.t 60), none⟩,
    ⟨some 62, .bini .sub (.t 53) (.t 61), none⟩,
    ⟨some 8, .mov (.t 62), none⟩]
def A_internal_bytealg_IndexRabinKarp_string_12 : List AOper := [⟨some 63, .mov (.t 10), none⟩,
    ⟨some 64, .bini .add (.t 63) (.c (.int .i64 (1))), none⟩,
    ⟨some 10, .mov (.t 64), none⟩]
def A_internal_bytealg_IndexRabinKarp_string_13 : List AOper := [⟨some 65, .mov (.t 8), none⟩,
    ⟨some 66, .mov (.t 5), none⟩,
    ⟨some 67, .bini .eql (.t 65) (.t 66), none⟩,
    ⟨some 68, .mov (.t 67), none⟩,
    ⟨some 69, .mov (.t 0), some (68, true)⟩,
    ⟨some 70, .mov (.t 10), some (68, true)⟩,
    ⟨some 71, .mov (.t 7), some (68, true)⟩,
    ⟨some 72, .bini .sub (.t 70) (.t 71), some (68, true)⟩,
    ⟨some 73, .mov (.t 10), some (68, true)⟩,
    ⟨some 74, .slcs (.t 69) (some (.t 72)) (some (.t 73)), some (68, true)⟩,
    ⟨some 75, .mov (.t 1), some (68, true)⟩,
    ⟨some 76, .bins .eql (.t 74) (.t 75), some (68, true)⟩,
    ⟨some 77, .pick (.t 68) (.t 76) (.c (.bool false)), none⟩]
def A_internal_bytealg_IndexRabinKarp_string_14 : List AOper := [⟨some 78, .mov (.t 10), none⟩,
    ⟨some 79, .mov (.t 7), none⟩,
    ⟨some 80, .bini .sub (.t 78) (.t 79), none⟩,
    ⟨some 4, .mov (.t 80), none⟩]
def A_internal_bytealg_IndexRabinKarp_string_15 : ACode := (.seq (.seq (.ops A_internal_bytealg_IndexRabinKarp_string_8) (.cond (.t 44) .skip (.exit 2))) (.block 3 (.seq (.ops A_internal_bytealg_IndexRabinKarp_string_9) (.seq (.ops A_internal_bytealg_IndexRabinKarp_string_10) (.seq (.ops A_internal_bytealg_IndexRabinKarp_string_11) (.seq (.ops A_internal_bytealg_IndexRabinKarp_string_12) (.seq (.ops A_internal_bytealg_IndexRabinKarp_string_13) (.cond (.t 77) (.seq (.ops A_internal_bytealg_IndexRabinKarp_string_14) .ret) .skip))))))))
def A_internal_bytealg_IndexRabinKarp_string : ACode := (.seq (.ops [⟨some 4, .mov (.c (.int .i64 (0))), none⟩]) (.seq (.ops A_internal_bytealg_IndexRabinKarp_string_0) (.seq (.ops A_internal_bytealg_IndexRabinKarp_string_1) (.seq (.ops [⟨some 8, .mov (.c (.int .u32 (0))), none⟩]) (.seq (.seq (.ops [⟨some 9, .mov (.c (.int .i64 (0))), none⟩]) (.block 0 (.loop A_internal_bytealg_IndexRabinKarp_string_5))) (.seq (.seq (.ops A_internal_bytealg_IndexRabinKarp_string_6) (.cond (.t 39) (.seq (.ops [⟨some 4, .mov (.c (.int .i64 (0))), none⟩]) .ret) .skip)) (.seq (.seq (.ops A_internal_bytealg_IndexRabinKarp_string_7) (.block 2 (.loop A_internal_bytealg_IndexRabinKarp_string_15))) (.seq (.ops [⟨some 4, .mov (.c (.int .i64 (-1))), none⟩]) .ret))))))))
def R_internal_bytealg_IndexRabinKarp_string : List ARes := [.tmp 4]
theorem C_internal_bytealg_IndexRabinKarp_string : compF Tryd.prog Tryd.f66 = some (A_internal_bytealg_IndexRabinKarp_string, R_internal_bytealg_IndexRabinKarp_string) := by kernel_rfl
theorem K_internal_bytealg_IndexRabinKarp_string {args : List AV} {h : Hp} {Q : Res → Hp → Prop} (hl : LCode Tryd.prog A_internal_bytealg_IndexRabinKarp_string (EndQ R_internal_bytealg_IndexRabinKarp_string Q) (env0 81 args) h) (hn : args.length ≤ 81 := by (simp; done)) : CallL Tryd.prog F_internal_bytealg_IndexRabinKarp_string args h Q :=
  CallL.of Tryd.func66 C_internal_bytealg_IndexRabinKarp_string (by rw [Tryd.ntmps66]; exact hn) (by rw [Tryd.ntmps66]; exact hl)
def T_internal_bytealg_IndexRabinKarp_string : FC := ⟨81, A_internal_bytealg_IndexRabinKarp_string, R_internal_bytealg_IndexRabinKarp_string⟩
theorem G_internal_bytealg_IndexRabinKarp_string : GoodFC Tryd.prog F_internal_bytealg_IndexRabinKarp_string T_internal_bytealg_IndexRabinKarp_string := ⟨Tryd.f66, Tryd.func66, Tryd.ntmps66, C_internal_bytealg_IndexRabinKarp_string, by kernel_rfl⟩

-- internal/bytealg.hashStr[string]
abbrev F_internal_bytealg_hashStr_string : Nat := 68
def A_internal_bytealg_hashStr_string_0 : List AOper := [⟨some 2, .mov (.c (.int .u32 (0))), none⟩,
    ⟨some 3, .mov (.c (.int .u32 (0))), none⟩]
def A_internal_bytealg_hashStr_string_1 : List AOper := [⟨some 9, .mov (.t 5), none⟩,
    ⟨some 10, .mov (.t 0), none⟩,
    ⟨some 11, .lens (.t 10), none⟩,
    ⟨some 12, .bini .lss (.t 9) (.t 11), none⟩]
def A_internal_bytealg_hashStr_string_2 : List AOper := [⟨some 15, .mov (.t 4), none⟩,
    ⟨some 16, .bini .mul (.t 15) (.c (.int .u32 (16777619))), none⟩,
    ⟨some 17, .mov (.t 0), none⟩,
    ⟨some 18, .mov (.t 5), none⟩,
    ⟨some 19, .idxs (.t 17) (.t 18), none⟩,
    ⟨some 20, .conv .u32 (.t 19), none⟩,
    ⟨some 21, .bini .add (.t 16) (.t 20), none⟩,
    ⟨some 4, .mov (.t 21), none⟩]
def A_internal_bytealg_hashStr_string_3 : List AOper := [⟨some 13, .mov (.t 5), none⟩,
    ⟨some 14, .bini .add (.t 13) (.c (.int .i64 (1))), none⟩,
    ⟨some 5, .mov (.t 14), none⟩]
def A_internal_bytealg_hashStr_string_4 : ACode := (.seq (.seq (.ops A_internal_bytealg_hashStr_string_1) (.cond (.t 12) .skip (.exit 0))) (.seq (.block 1 (.ops A_internal_bytealg_hashStr_string_2)) (.ops A_internal_bytealg_hashStr_string_3)))
def A_internal_bytealg_hashStr_string_5 : List AOper := [⟨some 6, .mov (.c (.int .u32 (1))), none⟩,
    ⟨some 7, .mov (.c (.int .u32 (16777619))), none⟩]
def A_internal_bytealg_hashStr_string_6 : List AOper := [⟨some 22, .mov (.t 0), none⟩,
    ⟨some 23, .lens (.t 22), none⟩,
    ⟨some 8, .mov (.t 23), none⟩]
def A_internal_bytealg_hashStr_string_7 : List AOper := [⟨some 24, .mov (.t 8), none⟩,
    ⟨some 25, .bini .gtr (.t 24) (.c (.int .i64 (0))), none⟩]
def A_internal_bytealg_hashStr_string_8 : List AOper := [⟨some 28, .mov (.t 8), none⟩,
    ⟨some 29, .bini .and (.t 28) (.c (.int .i64 (1))), none⟩,
    ⟨some 30, .bini .neq (.t 29) (.c (.int .i64 (0))), none⟩]
def A_internal_bytealg_hashStr_string_9 : List AOper := [⟨some 31, .mov (.t 6), none⟩,
    ⟨some 32, .mov (.t 7), none⟩,
    ⟨some 33, .bini .mul (.t 31) (.t 32), none⟩,
    ⟨some 6, .mov (.t 33), none⟩]
def A_internal_bytealg_hashStr_string_10 : List AOper := [⟨some 34, .mov (.t 7), none⟩,
    ⟨some 35, .mov (.t 7), none⟩,
    ⟨some 36, .bini .mul (.t 34) (.t 35), none⟩,
    ⟨some 7, .mov (.t 36), none⟩]
def A_internal_bytealg_hashStr_string_11 : List AOper := [⟨some 26, .mov (.t 8), none⟩,
    ⟨some 27, .bini .shr (.t 26) (.c (.int .u64 (1))), none⟩,
    ⟨some 8, .mov (.t 27), none⟩]
def A_internal_bytealg_hashStr_string_12 : ACode := (.seq (.seq (.ops A_internal_bytealg_hashStr_string_7) (.cond (.t 25) .skip (.exit 2))) (.seq (.block 3 (.seq (.seq (.ops A_internal_bytealg_hashStr_string_8) (.cond (.t 30) (.ops A_internal_bytealg_hashStr_string_9) .skip)) (.ops A_internal_bytealg_hashStr_string_10))) (.ops A_internal_bytealg_hashStr_string_11)))
def A_internal_bytealg_hashStr_string_13 : List AOper := [⟨some 37, .mov (.t 4), none⟩,
    ⟨some 38, .mov (.t 6), none⟩,
    ⟨some 2, .mov (.t 37), none⟩,
    ⟨some 3, .mov (.t 38), none⟩]
def A_internal_bytealg_hashStr_string : ACode := (.seq (.ops A_internal_bytealg_hashStr_string_0) (.seq (.ops [⟨some 4, .mov (.c (.int .u32 (0))), none⟩]) (.seq (.seq (.ops [⟨some 5, .mov (.c (.int .i64 (0))), none⟩]) (.block 0 (.loop A_internal_bytealg_hashStr_string_4))) (.seq (.ops A_internal_bytealg_hashStr_string_5) (.seq (.seq (.ops A_internal_bytealg_hashStr_string_6) (.block 2 (.loop A_internal_bytealg_hashStr_string_12))) (.seq (.ops A_internal_bytealg_hashStr_string_13) .ret))))))
def R_internal_bytealg_hashStr_string : List ARes := [.tmp 2, .tmp 3]
theorem C_internal_bytealg_hashStr_string : compF Tryd.prog Tryd.f68 = some (A_internal_bytealg_hashStr_string, R_internal_bytealg_hashStr_string) := by kernel_rfl
theorem K_internal_bytealg_hashStr_string {args : List AV} {h : Hp} {Q : Res → Hp → Prop} (hl : LCode Tryd.prog A_internal_bytealg_hashStr_string (EndQ R_internal_bytealg_hashStr_string Q) (env0 39 args) h) (hn : args.length ≤ 39 := by (simp; done)) : CallL Tryd.prog F_internal_bytealg_hashStr_string args h Q :=
  CallL.of Tryd.func68 C_internal_bytealg_hashStr_string (by rw [Tryd.ntmps68]; exact hn) (by rw [Tryd.ntmps68]; exact hl)
def T_internal_bytealg_hashStr_string : FC := ⟨39, A_internal_bytealg_hashStr_string, R_internal_bytealg_hashStr_string⟩
theorem G_internal_bytealg_hashStr_string : GoodFC Tryd.prog F_internal_bytealg_hashStr_string T_internal_bytealg_hashStr_string := ⟨Tryd.f68, Tryd.func68, Tryd.ntmps68, C_internal_bytealg_hashStr_string, by kernel_rfl⟩

-- gosem.cut.vars
abbrev F_gosem_cut_vars : Nat := 90
def A_gosem_cut_vars_0 : List AOper := [⟨some 0, .build [.int .u8 (0), .int .u8 (0)] [(0, 1, (.c (.int .u8 (128)))), (1, 1, (.c (.int .u8 (191))))], none⟩,
    ⟨some 1, .build [.int .u8 (0), .int .u8 (0)] [(0, 1, (.c (.int .u8 (160)))), (1, 1, (.c (.int .u8 (191))))], none⟩,
    ⟨some 2, .build [.int .u8 (0), .int .u8 (0)] [(0, 1, (.c (.int .u8 (128)))), (1, 1, (.c (.int .u8 (159))))], none⟩,
    ⟨some 3, .build [.int .u8 (0), .int .u8 (0)] [(0, 1, (.c (.int .u8 (144)))), (1, 1, (.c (.int .u8 (191))))], none⟩,
    ⟨some 4, .build [.int .u8 (0), .int .u8 (0)] [(0, 1, (.c (.int .u8 (128)))), (1, 1, (.c (.int .u8 (143))))], none⟩,
    ⟨some 5, .build [.int .u8 (0), .int .u8 (0), .int .u8 (0), .int .u8 (0), .int .u8 (0), .int .u8 (0), .int .u8 (0), .int .u8 (0), .int .u8 (0), .int .u8 (0), .int .u8 (0), .int .u8 (0), .int .u8 (0), .int .u8 (0), .int .u8 (0), .int .u8 (0), .int .u8 (0), .int .u8 (0), .int .u8 (0), .int .u8 (0), .int .u8 (0), .int .u8 (0), .int .u8 (0), .int .u8 (0), .int .u8 (0), .int .u8 (0), .int .u8 (0), .int .u8 (0), .int .u8 (0), .int .u8 (0), .int .u8 (0), .int .u8 (0)] [(0, 2, (.t 0)), (2, 2, (.t 1)), (4, 2, (.t 2)), (6, 2, (.t 3)), (8, 2, (.t 4))], none⟩,
    ⟨none, .bad, none⟩]
def A_gosem_cut_vars : ACode := (.ops A_gosem_cut_vars_0)
def R_gosem_cut_vars : List ARes := []
theorem C_gosem_cut_vars : compF Tryd.prog Tryd.f90 = some (A_gosem_cut_vars, R_gosem_cut_vars) := by kernel_rfl
theorem K_gosem_cut_vars {args : List AV} {h : Hp} {Q : Res → Hp → Prop} (hl : LCode Tryd.prog A_gosem_cut_vars (EndQ R_gosem_cut_vars Q) (env0 6 args) h) (hn : args.length ≤ 6 := by (simp; done)) : CallL Tryd.prog F_gosem_cut_vars args h Q :=
  CallL.of Tryd.func90 C_gosem_cut_vars (by rw [Tryd.ntmps90]; exact hn) (by rw [Tryd.ntmps90]; exact hl)
def T_gosem_cut_vars : FC := ⟨6, A_gosem_cut_vars, R_gosem_cut_vars⟩
theorem G_gosem_cut_vars : GoodFC Tryd.prog F_gosem_cut_vars T_gosem_cut_vars := ⟨Tryd.f90, Tryd.func90, Tryd.ntmps90, C_gosem_cut_vars, by kernel_rfl⟩
end Go.Proofs.YtibdeeejjbmgcaaDoor
