/- The codes of functions as the logic has them; each is what the logic makes of the given program (by the kernel). Printed by program (gen_all.py). -/
import Derived.Test.YtmnhoegjccdkpabGreatDoorEc
import Derived.Test.YtmnhoegjccdkpabGreatDoorProg
import Derived.KernelRfl
namespace Go.Proofs.YtmnhoegjccdkpabGreatDoor
open Go.L

-- lexicon/lexiconlaw10.DynNames
abbrev F_lexiconlaw10_DynNames : Nat := 3
def A_lexiconlaw10_DynNames_0 : List AOper := [⟨some 1, .call 4 [], none⟩,
    ⟨some 0, .mov (.t 1), none⟩]
def A_lexiconlaw10_DynNames : ACode := (.seq (.ops [⟨some 0, .mov (.c (.bool false)), none⟩]) (.seq (.cond (.c (.bool false)) (.seq (.ops [⟨some 0, .mov (.c (.bool false)), none⟩]) .ret) .skip) (.seq (.ops A_lexiconlaw10_DynNames_0) .ret)))
def R_lexiconlaw10_DynNames : List ARes := [.tmp 0]
theorem C_lexiconlaw10_DynNames : compF Tryz.prog Tryz.f3 = some (A_lexiconlaw10_DynNames, R_lexiconlaw10_DynNames) := by kernel_rfl
def T_lexiconlaw10_DynNames : FC := ⟨2, A_lexiconlaw10_DynNames, R_lexiconlaw10_DynNames⟩
theorem G_lexiconlaw10_DynNames : GoodFC Tryz.prog F_lexiconlaw10_DynNames T_lexiconlaw10_DynNames := ⟨Tryz.f3, Tryz.func3, Tryz.ntmps3, C_lexiconlaw10_DynNames, by kernel_rfl⟩

-- lexicon/lexiconlaw10.known
abbrev F_lexiconlaw10_known : Nat := 4
def A_lexiconlaw10_known_0 : List AOper := [⟨some 14, .call 6 [], none⟩,
    ⟨some 15, .bslice 33 5 1 [.str [], .str [], .nils, .nils, .nils] [(0, 5, (.t 14))], none⟩,
    ⟨some 16, .call 5 [(.t 15)], none⟩,
    ⟨some 13, .mov (.t 16), none⟩,
    ⟨some 17, .ext 0 (.t 13), none⟩,
    ⟨some 18, .ext 1 (.t 13), none⟩,
    ⟨some 2, .box 26 2 (.c (.agg [.int .i64 (0), .str []])), none⟩,
    ⟨some 1, .mov (.t 17), none⟩,
    ⟨none, .st 2 (.t 2) (.t 18), none⟩]
def A_lexiconlaw10_known_1 : List AOper := [⟨some 19, .faddr 0 (.t 2), none⟩,
    ⟨some 20, .ld1 (.t 19), none⟩,
    ⟨some 21, .bini .neq (.t 20) (.c (.int .i64 (0))), none⟩,
    ⟨some 22, .mov (.t 21), none⟩,
    ⟨some 23, .mov (.t 1), some (22, false)⟩,
    ⟨some 24, .isnil .pt false (.t 23), some (22, false)⟩,
    ⟨some 25, .pick (.t 22) (.c (.bool true)) (.t 24), none⟩]
def A_lexiconlaw10_known_2 : List AOper := [⟨some 26, .mov (.t 1), none⟩,
    ⟨some 27, .call 7 [(.t 26)], none⟩,
    ⟨some 3, .mov (.t 27), none⟩]
def A_lexiconlaw10_known_3 : List AOper := [⟨some 29, .mov (.t 3), none⟩,
    ⟨some 30, .mkifc 35 (.t 29), none⟩,
    ⟨some 31, .call 8 [(.t 30), (.c (.str [77]))], none⟩,
    ⟨some 28, .mov (.t 31), none⟩,
    ⟨some 32, .ext 0 (.t 28), none⟩,
    ⟨some 33, .ext 1 (.t 28), none⟩,
    ⟨some 4, .box 40 3 (.c (.agg [.str [], .nils, .nils])), none⟩,
    ⟨none, .st 3 (.t 4) (.t 32), none⟩,
    ⟨some 5, .mov (.t 33), none⟩]
def A_lexiconlaw10_known_4 : List AOper := [⟨some 35, .mov (.t 3), none⟩,
    ⟨some 36, .mkifc 35 (.t 35), none⟩,
    ⟨some 37, .lda 3 (.t 4), none⟩,
    ⟨some 38, .build [.int .u64 (0), .str [], .nils] [(0, 1, (.c (.int .u64 (7))))], none⟩,
    ⟨some 39, .bslice 47 3 1 [.int .u64 (0), .str [], .nils] [(0, 3, (.t 38))], none⟩,
    ⟨some 40, .build [.int .i32 (0), .nils, .nils] [(0, 1, (.c (.int .i32 (1)))), (2, 1, (.t 39))], none⟩,
    ⟨some 41, .call 9 [(.t 36), (.t 37), (.t 40)], none⟩,
    ⟨some 34, .mov (.t 41), none⟩,
    ⟨some 42, .ext 0 (.t 34), none⟩,
    ⟨some 43, .ext 1 (.t 34), none⟩,
    ⟨some 6, .box 40 3 (.c (.agg [.str [], .nils, .nils])), none⟩,
    ⟨none, .st 3 (.t 6) (.t 42), none⟩,
    ⟨some 7, .mov (.t 43), none⟩]
def A_lexiconlaw10_known_5 : List AOper := [⟨some 45, .mov (.t 3), none⟩,
    ⟨some 46, .mkifc 35 (.t 45), none⟩,
    ⟨some 47, .lda 3 (.t 6), none⟩,
    ⟨some 48, .call 10 [(.t 46), (.t 47), (.c (.int .i32 (1)))], none⟩,
    ⟨some 44, .mov (.t 48), none⟩,
    ⟨some 49, .ext 0 (.t 44), none⟩,
    ⟨some 50, .ext 1 (.t 44), none⟩,
    ⟨some 8, .mov (.t 49), none⟩,
    ⟨some 9, .mov (.t 50), none⟩]
def A_lexiconlaw10_known_6 : List AOper := [⟨some 52, .mov (.t 3), none⟩,
    ⟨some 53, .mkifc 35 (.t 52), none⟩,
    ⟨some 54, .lda 3 (.t 4), none⟩,
    ⟨some 55, .call 10 [(.t 53), (.t 54), (.c (.int .i32 (1)))], none⟩,
    ⟨some 51, .mov (.t 55), none⟩,
    ⟨some 56, .ext 0 (.t 51), none⟩,
    ⟨some 57, .ext 1 (.t 51), none⟩,
    ⟨some 10, .mov (.t 56), none⟩,
    ⟨some 11, .mov (.t 57), none⟩]
def A_lexiconlaw10_known_7 : List AOper := [⟨some 58, .lda 3 (.t 6), none⟩,
    ⟨some 59, .call 11 [(.t 58), (.c (.int .i32 (1)))], none⟩,
    ⟨some 12, .box 40 3 (.c (.agg [.str [], .nils, .nils])), none⟩,
    ⟨none, .st 3 (.t 12) (.t 59), none⟩]
def A_lexiconlaw10_known_8 : List AOper := [⟨some 60, .mov (.t 5), none⟩,
    ⟨some 61, .bini .eql (.t 60) (.c (.int .i64 (0))), none⟩,
    ⟨some 62, .mov (.t 61), none⟩,
    ⟨some 63, .mov (.t 7), some (62, true)⟩,
    ⟨some 64, .bini .eql (.t 63) (.c (.int .i64 (0))), some (62, true)⟩,
    ⟨some 65, .pick (.t 62) (.t 64) (.c (.bool false)), none⟩,
    ⟨some 66, .mov (.t 65), none⟩,
    ⟨some 67, .mov (.t 9), some (66, true)⟩,
    ⟨some 68, .bini .eql (.t 67) (.c (.int .i64 (0))), some (66, true)⟩,
    ⟨some 69, .pick (.t 66) (.t 68) (.c (.bool false)), none⟩,
    ⟨some 70, .mov (.t 69), none⟩,
    ⟨some 71, .mov (.t 11), some (70, true)⟩,
    ⟨some 72, .bini .eql (.t 71) (.c (.int .i64 (0))), some (70, true)⟩,
    ⟨some 73, .pick (.t 70) (.t 72) (.c (.bool false)), none⟩,
    ⟨some 74, .mov (.t 73), none⟩,
    ⟨some 75, .mov (.t 8), some (74, true)⟩,
    ⟨some 76, .pick (.t 74) (.t 75) (.c (.bool false)), none⟩,
    ⟨some 77, .mov (.t 76), none⟩,
    ⟨some 78, .mov (.t 10), some (77, true)⟩,
    ⟨some 79, .not (.t 78), some (77, true)⟩,
    ⟨some 80, .pick (.t 77) (.t 79) (.c (.bool false)), none⟩,
    ⟨some 81, .mov (.t 80), none⟩,
    ⟨some 82, .faddr 1 (.t 12), some (81, true)⟩,
    ⟨some 83, .ld1 (.t 82), some (81, true)⟩,
    ⟨some 84, .lenl (.t 83), some (81, true)⟩,
    ⟨some 85, .bini .eql (.t 84) (.c (.int .i64 (0))), some (81, true)⟩,
    ⟨some 86, .pick (.t 81) (.t 85) (.c (.bool false)), none⟩,
    ⟨some 87, .mov (.t 86), none⟩,
    ⟨some 88, .faddr 1 (.t 6), some (87, true)⟩,
    ⟨some 89, .ld1 (.t 88), some (87, true)⟩,
    ⟨some 90, .lenl (.t 89), some (87, true)⟩,
    ⟨some 91, .bini .eql (.t 90) (.c (.int .i64 (1))), some (87, true)⟩,
    ⟨some 92, .pick (.t 87) (.t 91) (.c (.bool false)), none⟩,
    ⟨some 0, .mov (.t 92), none⟩]
def A_lexiconlaw10_known : ACode := (.seq (.ops [⟨some 0, .mov (.c (.bool false)), none⟩]) (.seq (.ops A_lexiconlaw10_known_0) (.seq (.seq (.ops A_lexiconlaw10_known_1) (.cond (.t 25) (.seq (.ops [⟨some 0, .mov (.c (.bool false)), none⟩]) .ret) .skip)) (.seq (.ops A_lexiconlaw10_known_2) (.seq (.ops A_lexiconlaw10_known_3) (.seq (.ops A_lexiconlaw10_known_4) (.seq (.ops A_lexiconlaw10_known_5) (.seq (.ops A_lexiconlaw10_known_6) (.seq (.ops A_lexiconlaw10_known_7) (.seq (.ops A_lexiconlaw10_known_8) .ret))))))))))
def R_lexiconlaw10_known : List ARes := [.tmp 0]
theorem C_lexiconlaw10_known : compF Tryz.prog Tryz.f4 = some (A_lexiconlaw10_known, R_lexiconlaw10_known) := by kernel_rfl
def T_lexiconlaw10_known : FC := ⟨93, A_lexiconlaw10_known, R_lexiconlaw10_known⟩
theorem G_lexiconlaw10_known : GoodFC Tryz.prog F_lexiconlaw10_known T_lexiconlaw10_known := ⟨Tryz.f4, Tryz.func4, Tryz.ntmps4, C_lexiconlaw10_known, by kernel_rfl⟩

-- lexicon/link.Of
abbrev F_link_Of : Nat := 5
def A_link_Of_0 : List AOper := [⟨some 2, .box 23 1 (.c (.nilp)), none⟩,
    ⟨some 3, .box 26 2 (.c (.agg [.int .i64 (0), .str []])), none⟩]
def A_link_Of_1 : List AOper := [⟨some 5, .mov (.t 0), none⟩,
    ⟨some 6, .lenl (.t 5), none⟩,
    ⟨some 7, .bini .gtr (.t 6) (.c (.int .i64 (256))), none⟩]
def A_link_Of_2 : List AOper := [⟨some 9, .mkmap, none⟩,
    ⟨some 10, .mkmap, none⟩,
    ⟨some 11, .mkmap, none⟩,
    ⟨some 12, .mkmap, none⟩,
    ⟨some 13, .mkmap, none⟩,
    ⟨some 14, .build [.nilm, .nils, .nilm, .nilm, .nilm, .nilm] [(0, 1, (.t 9)), (2, 1, (.t 10)), (3, 1, (.t 11)), (4, 1, (.t 12)), (5, 1, (.t 13))], none⟩,
    ⟨some 15, .box 66 6 (.t 14), none⟩,
    ⟨none, .st 1 (.t 2) (.t 15), none⟩]
def A_link_Of_3 : List AOper := [⟨some 16, .ld1 (.t 2), none⟩,
    ⟨some 17, .mov (.t 0), none⟩,
    ⟨some 18, .call 14 [(.t 16), (.t 17)], none⟩]
def A_link_Of_4 : List AOper := [⟨some 19, .ld1 (.t 2), none⟩,
    ⟨some 20, .call 15 [(.t 19)], none⟩]
def A_link_Of_5 : List AOper := [⟨some 21, .ld1 (.t 2), none⟩,
    ⟨some 22, .call 16 [(.t 21)], none⟩]
def A_link_Of_6 : List AOper := [⟨some 23, .ld1 (.t 2), none⟩,
    ⟨some 24, .call 17 [(.t 23)], none⟩]
def A_link_Of_7 : List AOper := [⟨some 25, .ld1 (.t 2), none⟩,
    ⟨some 26, .call 18 [(.t 25)], none⟩]
def A_link_Of_8 : List AOper := [⟨some 27, .ld1 (.t 2), none⟩,
    ⟨some 28, .call 19 [(.t 27)], none⟩]
def A_link_Of_9 : List AOper := [⟨some 29, .ld1 (.t 2), none⟩,
    ⟨some 30, .build [.int .i64 (0), .str []] [], none⟩,
    ⟨none, .st 1 (.t 2) (.t 29), none⟩,
    ⟨none, .st 2 (.t 3) (.t 30), none⟩]
def A_link_Of : ACode := (.seq (.ops A_link_Of_0) (.seq (.seq (.ops [⟨some 4, .mkfn 12 [] [(.t 2), (.t 3)], none⟩]) (.dfr (.t 4) [])) (.seq (.seq (.ops A_link_Of_1) (.cond (.t 7) (.ops [⟨some 8, .call 13 [(.c (.int .i64 (87))), (.c (.str []))], none⟩]) .skip)) (.seq (.ops A_link_Of_2) (.seq (.ops A_link_Of_3) (.seq (.ops A_link_Of_4) (.seq (.ops A_link_Of_5) (.seq (.ops A_link_Of_6) (.seq (.ops A_link_Of_7) (.seq (.ops A_link_Of_8) (.seq (.ops A_link_Of_9) .ret)))))))))))
def R_link_Of : List ARes := [.cell1 2, .cella 3 2]
theorem C_link_Of : compF Tryz.prog Tryz.f5 = some (A_link_Of, R_link_Of) := by kernel_rfl
def T_link_Of : FC := ⟨31, A_link_Of, R_link_Of⟩
theorem G_link_Of : GoodFC Tryz.prog F_link_Of T_link_Of := ⟨Tryz.f5, Tryz.func5, Tryz.ntmps5, C_link_Of, by kernel_rfl⟩

-- lexicon/lexiconlaw10.one
abbrev F_lexiconlaw10_one : Nat := 6
def A_lexiconlaw10_one_0 : List AOper := [⟨some 1, .build [.str [], .int .i32 (0), .int .u8 (0), .int .u8 (0), .str [], .int .u8 (0), .int .i64 (0), .int .u8 (0), .str []] [(0, 1, (.c (.str [97]))), (1, 1, (.c (.int .i32 (1)))), (2, 1, (.c (.int .u8 (1)))), (3, 1, (.c (.int .u8 (5))))], none⟩,
    ⟨some 2, .bslice 72 9 1 [.str [], .int .i32 (0), .int .u8 (0), .int .u8 (0), .str [], .int .u8 (0), .int .i64 (0), .int .u8 (0), .str []] [(0, 9, (.t 1))], none⟩,
    ⟨some 3, .build [.str [], .nils, .nils, .nils, .nils, .nils, .nils] [(0, 1, (.c (.str [77]))), (1, 1, (.t 2))], none⟩,
    ⟨some 4, .bslice 76 7 1 [.str [], .nils, .nils, .nils, .nils, .nils, .nils] [(0, 7, (.t 3))], none⟩,
    ⟨some 5, .build [.str [], .str [], .nils, .nils, .nils] [(0, 1, (.c (.str [97]))), (3, 1, (.t 4))], none⟩,
    ⟨none, .st 5 (.t 0) (.t 5), none⟩]
def A_lexiconlaw10_one : ACode := (.seq (.ops [⟨some 0, .box 33 5 (.c (.agg [.str [], .str [], .nils, .nils, .nils])), none⟩]) (.seq (.ops A_lexiconlaw10_one_0) .ret))
def R_lexiconlaw10_one : List ARes := [.cella 0 5]
theorem C_lexiconlaw10_one : compF Tryz.prog Tryz.f6 = some (A_lexiconlaw10_one, R_lexiconlaw10_one) := by kernel_rfl
def T_lexiconlaw10_one : FC := ⟨6, A_lexiconlaw10_one, R_lexiconlaw10_one⟩
theorem G_lexiconlaw10_one : GoodFC Tryz.prog F_lexiconlaw10_one T_lexiconlaw10_one := ⟨Tryz.f6, Tryz.func6, Tryz.ntmps6, C_lexiconlaw10_one, by kernel_rfl⟩

-- lexicon/table.Of
abbrev F_table_Of : Nat := 7
def A_table_Of_0 : List AOper := [⟨some 3, .mov (.t 0), none⟩,
    ⟨some 4, .mkmap, none⟩,
    ⟨some 5, .build [.int .i32 (0), .int .u32 (0), .nilp, .nilm] [(2, 1, (.t 3)), (3, 1, (.t 4))], none⟩,
    ⟨some 6, .box 86 4 (.t 5), none⟩,
    ⟨some 2, .mov (.t 6), none⟩]
def A_table_Of : ACode := (.seq (.ops [⟨some 2, .mov (.c (.nilp)), none⟩]) (.seq (.ops A_table_Of_0) .ret))
def R_table_Of : List ARes := [.tmp 2]
theorem C_table_Of : compF Tryz.prog Tryz.f7 = some (A_table_Of, R_table_Of) := by kernel_rfl
def T_table_Of : FC := ⟨7, A_table_Of, R_table_Of⟩
theorem G_table_Of : GoodFC Tryz.prog F_table_Of T_table_Of := ⟨Tryz.f7, Tryz.func7, Tryz.ntmps7, C_table_Of, by kernel_rfl⟩

-- lexicon/dyn.New
abbrev F_dyn_New : Nat := 8
def A_dyn_New_0 : List AOper := [⟨some 4, .box 40 3 (.c (.agg [.str [], .nils, .nils])), none⟩,
    ⟨some 5, .mov (.c (.int .i64 (0))), none⟩]
def A_dyn_New_1 : List AOper := [⟨some 9, .mov (.t 0), none⟩,
    ⟨some 10, .mov (.t 1), none⟩,
    ⟨some 11, .inv [(35, 256)] (.t 9) [(.t 10)], none⟩,
    ⟨some 8, .mov (.t 11), none⟩,
    ⟨some 12, .ext 0 (.t 8), none⟩,
    ⟨some 13, .ext 1 (.t 8), none⟩,
    ⟨some 6, .mov (.t 12), none⟩,
    ⟨some 7, .mov (.t 13), none⟩]
def A_dyn_New_2 : List AOper := [⟨some 14, .mov (.t 7), none⟩,
    ⟨some 15, .bini .neq (.t 14) (.c (.int .i64 (0))), none⟩]
def A_dyn_New_3 : List AOper := [⟨some 16, .build [.str [], .nils, .nils] [], none⟩,
    ⟨none, .st 3 (.t 4) (.t 16), none⟩,
    ⟨some 5, .mov (.c (.int .i64 (100))), none⟩]
def A_dyn_New_4 : List AOper := [⟨some 17, .mov (.t 1), none⟩,
    ⟨some 18, .build [.str [], .nils, .nils] [(0, 1, (.t 17))], none⟩,
    ⟨none, .st 3 (.t 4) (.t 18), none⟩,
    ⟨some 5, .mov (.c (.int .i64 (0))), none⟩]
def A_dyn_New : ACode := (.seq (.ops A_dyn_New_0) (.seq (.seq (.ops A_dyn_New_1) (.seq (.ops A_dyn_New_2) (.cond (.t 15) (.seq (.ops A_dyn_New_3) .ret) .skip))) (.seq (.ops A_dyn_New_4) .ret)))
def R_dyn_New : List ARes := [.cella 4 3, .tmp 5]
theorem C_dyn_New : compF Tryz.prog Tryz.f8 = some (A_dyn_New, R_dyn_New) := by kernel_rfl
def T_dyn_New : FC := ⟨19, A_dyn_New, R_dyn_New⟩
theorem G_dyn_New : GoodFC Tryz.prog F_dyn_New T_dyn_New := ⟨Tryz.f8, Tryz.func8, Tryz.ntmps8, C_dyn_New, by kernel_rfl⟩

-- lexicon/dyn.Set
abbrev F_dyn_Set : Nat := 9
def A_dyn_Set_0 : List AOper := [⟨some 4, .box 40 3 (.t 1), none⟩,
    ⟨some 5, .box 50 3 (.t 2), none⟩,
    ⟨some 6, .box 40 3 (.c (.agg [.str [], .nils, .nils])), none⟩,
    ⟨some 7, .mov (.c (.int .i64 (0))), none⟩]
def A_dyn_Set_1 : List AOper := [⟨some 16, .mov (.t 0), none⟩,
    ⟨some 17, .lda 3 (.t 4), none⟩,
    ⟨some 18, .faddr 0 (.t 5), none⟩,
    ⟨some 19, .ld1 (.t 18), none⟩,
    ⟨some 20, .call 20 [(.t 16), (.t 17), (.t 19)], none⟩,
    ⟨some 15, .mov (.t 20), none⟩,
    ⟨some 21, .ext 0 (.t 15), none⟩,
    ⟨some 22, .ext 1 (.t 15), none⟩,
    ⟨some 23, .ext 2 (.t 15), none⟩,
    ⟨some 8, .box 93 9 (.c (.agg [.int .i32 (0), .str [], .str [], .int .u8 (0), .int .u8 (0), .int .u8 (0), .bool false, .int .i64 (0), .str []])), none⟩,
    ⟨some 9, .box 89 1 (.c (.nilp)), none⟩,
    ⟨none, .st 9 (.t 8) (.t 21), none⟩,
    ⟨none, .st 1 (.t 9) (.t 22), none⟩,
    ⟨some 10, .mov (.t 23), none⟩]
def A_dyn_Set_2 : List AOper := [⟨some 24, .mov (.t 10), none⟩,
    ⟨some 25, .bini .neq (.t 24) (.c (.int .i64 (0))), none⟩]
def A_dyn_Set_3 : List AOper := [⟨some 26, .build [.str [], .nils, .nils] [], none⟩,
    ⟨some 27, .mov (.t 10), none⟩,
    ⟨none, .st 3 (.t 6) (.t 26), none⟩,
    ⟨some 7, .mov (.t 27), none⟩]
def A_dyn_Set_4 : List AOper := [⟨some 28, .faddr 2 (.t 5), none⟩,
    ⟨some 29, .ld1 (.t 28), none⟩,
    ⟨some 30, .lenl (.t 29), none⟩,
    ⟨some 31, .bini .gtr (.t 30) (.c (.int .i64 (0))), none⟩,
    ⟨some 32, .mov (.t 31), none⟩,
    ⟨some 33, .faddr 1 (.t 5), some (32, false)⟩,
    ⟨some 34, .ld1 (.t 33), some (32, false)⟩,
    ⟨some 35, .lenl (.t 34), some (32, false)⟩,
    ⟨some 36, .bini .gtr (.t 35) (.c (.int .i64 (0))), some (32, false)⟩,
    ⟨some 37, .pick (.t 32) (.c (.bool true)) (.t 36), none⟩]
def A_dyn_Set_5 : List AOper := [⟨some 38, .mov (.t 0), none⟩,
    ⟨some 39, .call 21 [], none⟩,
    ⟨some 40, .build [.nili, .nilf, .nilf, .nilf, .nilf, .nilf, .nilf, .nilf, .nilf, .nilf, .nilf, .nilf, .nilf, .nilf, .nilf, .nilf, .nilf, .nilf, .nilf, .nilf] [(0, 1, (.t 38)), (1, 19, (.t 39))], none⟩,
    ⟨some 41, .box 101 20 (.t 40), none⟩,
    ⟨some 11, .mov (.t 41), none⟩]
def A_dyn_Set_6 : List AOper := [⟨some 42, .mov (.t 11), none⟩,
    ⟨some 43, .lda 9 (.t 8), none⟩,
    ⟨some 44, .lda 3 (.t 5), none⟩,
    ⟨some 45, .call 22 [(.t 42), (.t 43), (.t 44), (.c (.str [])), (.c (.int .i64 (1)))], none⟩,
    ⟨some 12, .mov (.t 45), none⟩]
def A_dyn_Set_7 : List AOper := [⟨some 46, .mov (.t 12), none⟩,
    ⟨some 47, .isnil .pt true (.t 46), none⟩]
def A_dyn_Set_8 : List AOper := [⟨some 48, .build [.str [], .nils, .nils] [], none⟩,
    ⟨some 49, .mov (.t 12), none⟩,
    ⟨some 50, .nilc (.t 49), none⟩,
    ⟨some 51, .faddr 0 (.t 50), none⟩,
    ⟨some 52, .ld1 (.t 51), none⟩,
    ⟨none, .st 3 (.t 6) (.t 48), none⟩,
    ⟨some 7, .mov (.t 52), none⟩]
def A_dyn_Set_9 : List AOper := [⟨some 48, .build [.str [], .nils, .nils] [], none⟩,
    ⟨some 49, .mov (.t 12), none⟩,
    ⟨some 50, .nilc (.t 49), none⟩,
    ⟨some 51, .faddr 0 (.t 50), none⟩,
    ⟨none, .st 3 (.t 6) (.t 48), none⟩,
    ⟨some 52, .ld1 (.t 51), none⟩,
    ⟨some 7, .mov (.t 52), none⟩]
def A_dyn_Set_10 : List AOper := [⟨some 48, .build [.str [], .nils, .nils] [], none⟩,
    ⟨some 49, .mov (.t 12), none⟩,
    ⟨some 50, .nilc (.t 49), none⟩,
    ⟨some 51, .faddr 0 (.t 50), none⟩,
    ⟨some 52, .ld1 (.t 51), none⟩,
    ⟨none, .st 3 (.t 6) (.t 48), none⟩,
    ⟨some 7, .mov (.t 52), none⟩]
def A_dyn_Set_11 : List AOper := [⟨some 48, .build [.str [], .nils, .nils] [], none⟩,
    ⟨some 49, .mov (.t 12), none⟩,
    ⟨some 50, .nilc (.t 49), none⟩,
    ⟨some 51, .faddr 0 (.t 50), none⟩,
    ⟨none, .st 3 (.t 6) (.t 48), none⟩,
    ⟨some 52, .ld1 (.t 51), none⟩,
    ⟨some 7, .mov (.t 52), none⟩]
def A_dyn_Set_12 : List AOper := [⟨some 53, .lda 3 (.t 4), none⟩,
    ⟨some 54, .mkfn 24 [] [(.t 9), (.t 5), (.t 8)], none⟩,
    ⟨some 55, .call 23 [(.t 53), (.t 54)], none⟩,
    ⟨some 13, .box 40 3 (.c (.agg [.str [], .nils, .nils])), none⟩,
    ⟨none, .st 3 (.t 13) (.t 55), none⟩]
def A_dyn_Set_13 : List AOper := [⟨some 56, .faddr 2 (.t 5), none⟩,
    ⟨some 57, .ld1 (.t 56), none⟩,
    ⟨some 58, .lenl (.t 57), none⟩,
    ⟨some 59, .bini .gtr (.t 58) (.c (.int .i64 (0))), none⟩]
def A_dyn_Set_14 : List AOper := [⟨some 60, .faddr 1 (.t 13), none⟩,
    ⟨some 61, .ld1 (.t 60), none⟩,
    ⟨some 62, .mkfn 27 [] [(.t 5)], none⟩,
    ⟨some 63, .call 26 [(.t 61), (.t 62)], none⟩,
    ⟨some 14, .mov (.t 63), none⟩]
def A_dyn_Set_15 : List AOper := [⟨some 64, .mov (.t 14), none⟩,
    ⟨some 65, .bini .lss (.t 64) (.c (.int .i64 (0))), none⟩]
def A_dyn_Set_16 : List AOper := [⟨some 66, .faddr 1 (.t 13), none⟩,
    ⟨some 67, .ld1 (.t 66), none⟩,
    ⟨some 68, .lenl (.t 67), none⟩,
    ⟨some 14, .mov (.t 68), none⟩]
def A_dyn_Set_17 : List AOper := [⟨some 69, .faddr 1 (.t 13), none⟩,
    ⟨some 70, .ld1 (.t 69), none⟩,
    ⟨some 71, .mov (.t 14), none⟩,
    ⟨some 72, .lda 3 (.t 5), none⟩,
    ⟨some 73, .acall 29 [(.t 72)], none⟩,
    ⟨some 74, .bslice 50 3 1 [.int .i32 (0), .nils, .nils] [(0, 3, (.t 73))], none⟩,
    ⟨some 75, .acall 28 [(.t 70), (.t 71), (.t 74)], none⟩,
    ⟨some 76, .faddr 1 (.t 13), none⟩,
    ⟨none, .st 1 (.t 76) (.t 75), none⟩]
def A_dyn_Set_18 : List AOper := [⟨some 69, .faddr 1 (.t 13), none⟩,
    ⟨some 70, .ld1 (.t 69), none⟩,
    ⟨some 71, .mov (.t 14), none⟩,
    ⟨some 72, .lda 3 (.t 5), none⟩,
    ⟨some 73, .pcall 29 [(.t 72)], none⟩,
    ⟨some 74, .fslice 50 3 1 [.int .i32 (0), .nils, .nils] [(0, 3, (.t 73))], none⟩,
    ⟨some 75, .pcall 28 [(.t 70), (.t 71), (.t 74)], none⟩,
    ⟨some 76, .faddr 1 (.t 13), none⟩,
    ⟨none, .st 1 (.t 76) (.t 75), none⟩]
def A_dyn_Set_19 : List AOper := [⟨some 69, .faddr 1 (.t 13), none⟩,
    ⟨some 71, .mov (.t 14), none⟩,
    ⟨some 72, .lda 3 (.t 5), none⟩,
    ⟨some 70, .ld1 (.t 69), none⟩,
    ⟨some 73, .call 29 [(.t 72)], none⟩,
    ⟨some 74, .bslice 50 3 1 [.int .i32 (0), .nils, .nils] [(0, 3, (.t 73))], none⟩,
    ⟨some 75, .call 28 [(.t 70), (.t 71), (.t 74)], none⟩,
    ⟨some 76, .faddr 1 (.t 13), none⟩,
    ⟨none, .st 1 (.t 76) (.t 75), none⟩]
def A_dyn_Set_20 : List AOper := [⟨some 69, .faddr 1 (.t 13), none⟩,
    ⟨some 71, .mov (.t 14), none⟩,
    ⟨some 72, .lda 3 (.t 5), none⟩,
    ⟨some 73, .call 29 [(.t 72)], none⟩,
    ⟨some 70, .ld1 (.t 69), none⟩,
    ⟨some 74, .bslice 50 3 1 [.int .i32 (0), .nils, .nils] [(0, 3, (.t 73))], none⟩,
    ⟨some 75, .call 28 [(.t 70), (.t 71), (.t 74)], none⟩,
    ⟨some 76, .faddr 1 (.t 13), none⟩,
    ⟨none, .st 1 (.t 76) (.t 75), none⟩]
def A_dyn_Set_21 : List AOper := [⟨some 77, .lda 3 (.t 13), none⟩,
    ⟨none, .st 3 (.t 6) (.t 77), none⟩,
    ⟨some 7, .mov (.c (.int .i64 (0))), none⟩]
def A_dyn_Set : ACode := (.seq (.ops A_dyn_Set_0) (.seq (.ops A_dyn_Set_1) (.seq (.seq (.ops A_dyn_Set_2) (.cond (.t 25) (.seq (.ops A_dyn_Set_3) .ret) .skip)) (.seq (.seq (.ops A_dyn_Set_4) (.cond (.t 37) (.seq (.ops A_dyn_Set_5) (.seq (.ops A_dyn_Set_6) (.seq (.ops A_dyn_Set_7) (.cond (.t 47) (.seq (.orr (.alts [48, 49, 50, 51, 52, 7] [A_dyn_Set_8, A_dyn_Set_9]) (.alts [48, 49, 50, 51, 52, 7] [A_dyn_Set_10, A_dyn_Set_11])) .ret) .skip)))) .skip)) (.seq (.ops A_dyn_Set_12) (.seq (.seq (.ops A_dyn_Set_13) (.cond (.t 59) (.seq (.ops A_dyn_Set_14) (.seq (.seq (.ops A_dyn_Set_15) (.cond (.t 65) (.ops A_dyn_Set_16) .skip)) (.orr (.alts [69, 70, 71, 72, 73, 74, 75, 76] [A_dyn_Set_17]) (.orr (.alts [69, 70, 71, 72, 73, 74, 75, 76] [A_dyn_Set_18]) (.alts [69, 70, 71, 72, 73, 74, 75, 76] [A_dyn_Set_19, A_dyn_Set_20]))))) .skip)) (.seq (.ops A_dyn_Set_21) .ret)))))))
def R_dyn_Set : List ARes := [.cella 6 3, .tmp 7]
theorem C_dyn_Set : compF Tryz.prog Tryz.f9 = some (A_dyn_Set, R_dyn_Set) := by kernel_rfl
def T_dyn_Set : FC := ⟨78, A_dyn_Set, R_dyn_Set⟩
theorem G_dyn_Set : GoodFC Tryz.prog F_dyn_Set T_dyn_Set := ⟨Tryz.f9, Tryz.func9, Tryz.ntmps9, C_dyn_Set, by kernel_rfl⟩

-- lexicon/dyn.Has
abbrev F_dyn_Has : Nat := 10
def A_dyn_Has_0 : List AOper := [⟨some 4, .box 40 3 (.t 1), none⟩,
    ⟨some 6, .mov (.c (.bool false)), none⟩,
    ⟨some 7, .mov (.c (.int .i64 (0))), none⟩]
def A_dyn_Has_1 : List AOper := [⟨some 14, .mov (.t 0), none⟩,
    ⟨some 15, .lda 3 (.t 4), none⟩,
    ⟨some 16, .mov (.t 2), none⟩,
    ⟨some 17, .call 20 [(.t 14), (.t 15), (.t 16)], none⟩,
    ⟨some 13, .mov (.t 17), none⟩,
    ⟨some 18, .ext 0 (.t 13), none⟩,
    ⟨some 19, .ext 1 (.t 13), none⟩,
    ⟨some 20, .ext 2 (.t 13), none⟩,
    ⟨some 8, .box 93 9 (.c (.agg [.int .i32 (0), .str [], .str [], .int .u8 (0), .int .u8 (0), .int .u8 (0), .bool false, .int .i64 (0), .str []])), none⟩,
    ⟨none, .st 9 (.t 8) (.t 18), none⟩,
    ⟨some 9, .mov (.t 19), none⟩,
    ⟨some 10, .mov (.t 20), none⟩]
def A_dyn_Has_2 : List AOper := [⟨some 21, .mov (.t 10), none⟩,
    ⟨some 22, .bini .neq (.t 21) (.c (.int .i64 (0))), none⟩]
def A_dyn_Has_3 : List AOper := [⟨some 23, .mov (.t 10), none⟩,
    ⟨some 6, .mov (.c (.bool false)), none⟩,
    ⟨some 7, .mov (.t 23), none⟩]
def A_dyn_Has_4 : List AOper := [⟨some 25, .lda 9 (.t 8), none⟩,
    ⟨some 26, .lda 3 (.t 4), none⟩,
    ⟨some 27, .call 30 [(.t 25), (.t 26)], none⟩,
    ⟨some 24, .mov (.t 27), none⟩,
    ⟨some 28, .ext 0 (.t 24), none⟩,
    ⟨some 29, .ext 1 (.t 24), none⟩,
    ⟨some 11, .box 50 3 (.c (.agg [.int .i32 (0), .nils, .nils])), none⟩,
    ⟨none, .st 3 (.t 11) (.t 28), none⟩,
    ⟨some 12, .mov (.t 29), none⟩]
def A_dyn_Has_5 : List AOper := [⟨some 30, .mov (.t 12), none⟩,
    ⟨some 6, .mov (.t 30), none⟩,
    ⟨some 7, .mov (.c (.int .i64 (0))), none⟩]
def A_dyn_Has : ACode := (.seq (.ops A_dyn_Has_0) (.seq (.ops A_dyn_Has_1) (.seq (.seq (.ops A_dyn_Has_2) (.cond (.t 22) (.seq (.ops A_dyn_Has_3) .ret) .skip)) (.seq (.ops A_dyn_Has_4) (.seq (.ops A_dyn_Has_5) .ret)))))
def R_dyn_Has : List ARes := [.tmp 6, .tmp 7]
theorem C_dyn_Has : compF Tryz.prog Tryz.f10 = some (A_dyn_Has, R_dyn_Has) := by kernel_rfl
def T_dyn_Has : FC := ⟨31, A_dyn_Has, R_dyn_Has⟩
theorem G_dyn_Has : GoodFC Tryz.prog F_dyn_Has T_dyn_Has := ⟨Tryz.f10, Tryz.func10, Tryz.ntmps10, C_dyn_Has, by kernel_rfl⟩

-- lexicon/dyn.Clear
abbrev F_dyn_Clear : Nat := 11
def A_dyn_Clear_0 : List AOper := [⟨some 2, .box 40 3 (.t 0), none⟩,
    ⟨some 3, .box 21 1 (.t 1), none⟩,
    ⟨some 4, .box 40 3 (.c (.agg [.str [], .nils, .nils])), none⟩]
def A_dyn_Clear_1 : List AOper := [⟨some 5, .lda 3 (.t 2), none⟩,
    ⟨some 6, .mkfn 31 [] [(.t 3)], none⟩,
    ⟨some 7, .call 23 [(.t 5), (.t 6)], none⟩,
    ⟨none, .st 3 (.t 4) (.t 7), none⟩]
def A_dyn_Clear : ACode := (.seq (.ops A_dyn_Clear_0) (.seq (.ops A_dyn_Clear_1) .ret))
def R_dyn_Clear : List ARes := [.cella 4 3]
theorem C_dyn_Clear : compF Tryz.prog Tryz.f11 = some (A_dyn_Clear, R_dyn_Clear) := by kernel_rfl
def T_dyn_Clear : FC := ⟨8, A_dyn_Clear, R_dyn_Clear⟩
theorem G_dyn_Clear : GoodFC Tryz.prog F_dyn_Clear T_dyn_Clear := ⟨Tryz.f11, Tryz.func11, Tryz.ntmps11, C_dyn_Clear, by kernel_rfl⟩

-- lexicon/link.Of$1
abbrev F_link_Of_c1 : Nat := 12
def A_link_Of_c1_0 : List AOper := [⟨some 6, .mov (.t 2), none⟩,
    ⟨some 7, .isnil .ic true (.t 6), none⟩]
def A_link_Of_c1_1 : List AOper := [⟨some 9, .mov (.t 2), none⟩,
    ⟨some 10, .tass 56 true (.agg [.int .i64 (0), .str []]) (.t 9), none⟩,
    ⟨some 8, .mov (.t 10), none⟩,
    ⟨some 11, .ext 0 (.t 8), none⟩,
    ⟨some 12, .ext 1 (.t 8), none⟩,
    ⟨some 3, .box 56 2 (.c (.agg [.int .i64 (0), .str []])), none⟩,
    ⟨none, .st 2 (.t 3) (.t 11), none⟩,
    ⟨some 4, .mov (.t 12), none⟩]
def A_link_Of_c1_2 : List AOper := [⟨some 13, .mov (.t 4), none⟩,
    ⟨some 14, .not (.t 13), none⟩]
def A_link_Of_c1_3 : List AOper := [⟨some 15, .mov (.t 2), none⟩,
    ⟨none, .pan (.t 15), none⟩]
def A_link_Of_c1_4 : List AOper := [⟨some 16, .faddr 0 (.t 3), none⟩,
    ⟨some 17, .lda 2 (.t 16), none⟩,
    ⟨none, .st 1 (.t 0) (.c (.nilp)), none⟩,
    ⟨none, .st 2 (.t 1) (.t 17), none⟩]
def A_link_Of_c1_5 : List AOper := [⟨some 16, .faddr 0 (.t 3), none⟩,
    ⟨none, .st 1 (.t 0) (.c (.nilp)), none⟩,
    ⟨some 17, .lda 2 (.t 16), none⟩,
    ⟨none, .st 2 (.t 1) (.t 17), none⟩]
def A_link_Of_c1_6 : List AOper := [⟨some 16, .faddr 0 (.t 3), none⟩,
    ⟨some 17, .lda 2 (.t 16), none⟩,
    ⟨none, .st 1 (.t 0) (.c (.nilp)), none⟩,
    ⟨none, .st 2 (.t 1) (.t 17), none⟩]
def A_link_Of_c1_7 : List AOper := [⟨some 16, .faddr 0 (.t 3), none⟩,
    ⟨none, .st 1 (.t 0) (.c (.nilp)), none⟩,
    ⟨some 17, .lda 2 (.t 16), none⟩,
    ⟨none, .st 2 (.t 1) (.t 17), none⟩]
def A_link_Of_c1 : ACode := (.seq (.recv (some 5) [(some 2, (.t 5))]) (.seq (.ops A_link_Of_c1_0) (.cond (.t 7) (.seq (.ops A_link_Of_c1_1) (.seq (.seq (.ops A_link_Of_c1_2) (.cond (.t 14) (.ops A_link_Of_c1_3) .skip)) (.orr (.alts [16, 17] [A_link_Of_c1_4, A_link_Of_c1_5]) (.alts [16, 17] [A_link_Of_c1_6, A_link_Of_c1_7])))) .skip)))
def R_link_Of_c1 : List ARes := []
theorem C_link_Of_c1 : compF Tryz.prog Tryz.f12 = some (A_link_Of_c1, R_link_Of_c1) := by kernel_rfl
def T_link_Of_c1 : FC := ⟨18, A_link_Of_c1, R_link_Of_c1⟩
theorem G_link_Of_c1 : GoodFC Tryz.prog F_link_Of_c1 T_link_Of_c1 := ⟨Tryz.f12, Tryz.func12, Tryz.ntmps12, C_link_Of_c1, by kernel_rfl⟩

-- (*lexicon/link.Linked).put
abbrev F_link_Linked_put : Nat := 14
def A_link_Linked_put_0 : List AOper := [⟨some 10, .mov (.t 1), none⟩,
    ⟨some 11, .lenl (.t 10), none⟩,
    ⟨some 12, .mov (.c (.int .i64 (0))), none⟩]
def A_link_Linked_put_1 : List AOper := [⟨some 14, .iaddr 33 5 (.t 10) (.t 12), none⟩,
    ⟨some 15, .lda 5 (.t 14), none⟩,
    ⟨some 6, .box 33 5 (.c (.agg [.str [], .str [], .nils, .nils, .nils])), none⟩,
    ⟨none, .st 5 (.t 6) (.t 15), none⟩]
def A_link_Linked_put_2 : List AOper := [⟨some 16, .mov (.t 0), none⟩,
    ⟨some 17, .nilc (.t 16), none⟩,
    ⟨some 18, .faddr 0 (.t 17), none⟩,
    ⟨some 19, .ld1 (.t 18), none⟩,
    ⟨some 20, .faddr 0 (.t 6), none⟩,
    ⟨some 21, .ld1 (.t 20), none⟩,
    ⟨some 22, .mlook .s (.nilp) false (.t 19) (.t 21), none⟩,
    ⟨some 23, .isnil .pt true (.t 22), none⟩]
def A_link_Linked_put_3 : List AOper := [⟨some 24, .mov (.t 4), none⟩,
    ⟨some 25, .faddr 0 (.t 6), none⟩,
    ⟨some 26, .ld1 (.t 25), none⟩,
    ⟨some 27, .bslice 9 1 1 [.str []] [(0, 1, (.t 26))], none⟩,
    ⟨some 28, .app 9 1 16 (.t 24) (.t 27), none⟩,
    ⟨some 4, .mov (.t 28), none⟩]
def A_link_Linked_put_4 : List AOper := [⟨some 29, .mov (.t 0), none⟩,
    ⟨some 30, .nilc (.t 29), none⟩,
    ⟨some 31, .faddr 0 (.t 30), none⟩,
    ⟨some 32, .ld1 (.t 31), none⟩,
    ⟨some 33, .faddr 0 (.t 6), none⟩,
    ⟨some 34, .ld1 (.t 33), none⟩,
    ⟨some 35, .lda 5 (.t 6), none⟩,
    ⟨some 36, .acall 32 [(.t 35)], none⟩,
    ⟨some 37, .mkmap, none⟩,
    ⟨some 38, .mkmap, none⟩,
    ⟨some 39, .build [.str [], .str [], .nils, .nils, .nils, .nilm, .nilm] [(0, 5, (.t 36)), (5, 1, (.t 37)), (6, 1, (.t 38))], none⟩,
    ⟨some 40, .box 121 7 (.t 39), none⟩,
    ⟨none, .mupd .s (.t 32) (.t 34) (.t 40), none⟩]
def A_link_Linked_put_5 : List AOper := [⟨some 29, .mov (.t 0), none⟩,
    ⟨some 30, .nilc (.t 29), none⟩,
    ⟨some 31, .faddr 0 (.t 30), none⟩,
    ⟨some 32, .ld1 (.t 31), none⟩,
    ⟨some 33, .faddr 0 (.t 6), none⟩,
    ⟨some 34, .ld1 (.t 33), none⟩,
    ⟨some 35, .lda 5 (.t 6), none⟩,
    ⟨some 36, .pcall 32 [(.t 35)], none⟩,
    ⟨some 37, .mkmap, none⟩,
    ⟨some 38, .mkmap, none⟩,
    ⟨some 39, .build [.str [], .str [], .nils, .nils, .nils, .nilm, .nilm] [(0, 5, (.t 36)), (5, 1, (.t 37)), (6, 1, (.t 38))], none⟩,
    ⟨some 40, .box 121 7 (.t 39), none⟩,
    ⟨none, .mupd .s (.t 32) (.t 34) (.t 40), none⟩]
def A_link_Linked_put_6 : List AOper := [⟨some 41, .bini .add (.t 12) (.c (.int .i64 (1))), none⟩,
    ⟨some 12, .mov (.t 41), none⟩]
def A_link_Linked_put_7 : ACode := (.seq (.ops [⟨some 13, .bini .lss (.t 12) (.t 11), none⟩]) (.seq (.cond (.t 13) .skip (.exit 0)) (.seq (.block 1 (.seq (.ops A_link_Linked_put_1) (.seq (.seq (.alts [16, 17, 18, 19, 20, 21, 22, 23] [A_link_Linked_put_2]) (.cond (.t 23) (.ops A_link_Linked_put_3) .skip)) (.orr (.alts [29, 30, 31, 32, 33, 34, 35, 36, 37, 38, 39, 40] [A_link_Linked_put_4]) (.orr (.alts [29, 30, 31, 32, 33, 34, 35, 36, 37, 38, 39, 40] [A_link_Linked_put_5]) .bad))))) (.ops A_link_Linked_put_6))))
def A_link_Linked_put_8 : List AOper := [⟨some 42, .mov (.t 4), none⟩,
    ⟨some 43, .lenl (.t 42), none⟩,
    ⟨some 44, .bini .gtr (.t 43) (.c (.int .i64 (0))), none⟩]
def A_link_Linked_put_9 : List AOper := [⟨some 45, .mov (.t 4), none⟩,
    ⟨some 46, .call 33 [(.t 45)], none⟩,
    ⟨some 47, .call 13 [(.c (.int .i64 (80))), (.t 46)], none⟩]
def A_link_Linked_put_10 : List AOper := [⟨some 48, .mov (.t 0), none⟩,
    ⟨some 49, .call 34 [(.t 48)], none⟩,
    ⟨some 50, .lenl (.t 49), none⟩,
    ⟨some 51, .mov (.c (.int .i64 (0))), none⟩]
def A_link_Linked_put_11 : List AOper := [⟨some 53, .iaddr 9 1 (.t 49) (.t 51), none⟩,
    ⟨some 54, .ld1 (.t 53), none⟩,
    ⟨some 8, .mov (.t 54), none⟩]
def A_link_Linked_put_12 : List AOper := [⟨some 55, .mov (.t 0), none⟩,
    ⟨some 56, .nilc (.t 55), none⟩,
    ⟨some 57, .faddr 0 (.t 56), none⟩,
    ⟨some 58, .ld1 (.t 57), none⟩,
    ⟨some 59, .mov (.t 8), none⟩,
    ⟨some 60, .mlook .s (.nilp) false (.t 58) (.t 59), none⟩,
    ⟨some 61, .nilc (.t 60), none⟩,
    ⟨some 62, .faddr 0 (.t 61), none⟩,
    ⟨some 63, .lda 5 (.t 62), none⟩,
    ⟨some 64, .call 35 [(.t 63)], none⟩,
    ⟨some 9, .box 26 2 (.c (.agg [.int .i64 (0), .str []])), none⟩,
    ⟨none, .st 2 (.t 9) (.t 64), none⟩]
def A_link_Linked_put_13 : List AOper := [⟨some 65, .faddr 0 (.t 9), none⟩,
    ⟨some 66, .ld1 (.t 65), none⟩,
    ⟨some 67, .bini .neq (.t 66) (.c (.int .i64 (0))), none⟩]
def A_link_Linked_put_14 : List AOper := [⟨some 68, .lda 2 (.t 9), none⟩,
    ⟨some 69, .build [.int .i64 (0), .str []] [(0, 2, (.t 68))], none⟩,
    ⟨some 70, .mkifc 56 (.t 69), none⟩,
    ⟨none, .pan (.t 70), none⟩]
def A_link_Linked_put_15 : List AOper := [⟨some 71, .bini .add (.t 51) (.c (.int .i64 (1))), none⟩,
    ⟨some 51, .mov (.t 71), none⟩]
def A_link_Linked_put_16 : ACode := (.seq (.ops [⟨some 52, .bini .lss (.t 51) (.t 50), none⟩]) (.seq (.cond (.t 52) .skip (.exit 2)) (.seq (.block 3 (.seq (.ops A_link_Linked_put_11) (.seq (.ops A_link_Linked_put_12) (.seq (.ops A_link_Linked_put_13) (.cond (.t 67) (.ops A_link_Linked_put_14) .skip))))) (.ops A_link_Linked_put_15))))
def A_link_Linked_put : ACode := (.seq (.ops [⟨some 4, .mov (.c (.nils)), none⟩]) (.seq (.seq (.ops A_link_Linked_put_0) (.block 0 (.loop A_link_Linked_put_7))) (.seq (.seq (.ops A_link_Linked_put_8) (.cond (.t 44) (.ops A_link_Linked_put_9) .skip)) (.seq (.ops A_link_Linked_put_10) (.block 2 (.loop A_link_Linked_put_16))))))
def R_link_Linked_put : List ARes := []
theorem C_link_Linked_put : compF Tryz.prog Tryz.f14 = some (A_link_Linked_put, R_link_Linked_put) := by kernel_rfl
def T_link_Linked_put : FC := ⟨72, A_link_Linked_put, R_link_Linked_put⟩
theorem G_link_Linked_put : GoodFC Tryz.prog F_link_Linked_put T_link_Linked_put := ⟨Tryz.f14, Tryz.func14, Tryz.ntmps14, C_link_Linked_put, by kernel_rfl⟩

-- (*lexicon/link.Linked).imports
abbrev F_link_Linked_imports : Nat := 15
def A_link_Linked_imports_0 : List AOper := [⟨some 6, .mov (.t 0), none⟩,
    ⟨some 7, .call 34 [(.t 6)], none⟩,
    ⟨some 8, .lenl (.t 7), none⟩,
    ⟨some 9, .mov (.c (.int .i64 (0))), none⟩]
def A_link_Linked_imports_1 : List AOper := [⟨some 11, .iaddr 9 1 (.t 7) (.t 9), none⟩,
    ⟨some 12, .ld1 (.t 11), none⟩,
    ⟨some 3, .mov (.t 12), none⟩]
def A_link_Linked_imports_2 : List AOper := [⟨some 13, .mov (.t 0), none⟩,
    ⟨some 14, .nilc (.t 13), none⟩,
    ⟨some 15, .faddr 0 (.t 14), none⟩,
    ⟨some 16, .ld1 (.t 15), none⟩,
    ⟨some 17, .mov (.t 3), none⟩,
    ⟨some 18, .mlook .s (.nilp) false (.t 16) (.t 17), none⟩,
    ⟨some 19, .nilc (.t 18), none⟩,
    ⟨some 20, .faddr 0 (.t 19), none⟩,
    ⟨some 21, .faddr 2 (.t 20), none⟩,
    ⟨some 22, .ld1 (.t 21), none⟩,
    ⟨some 23, .lenl (.t 22), none⟩,
    ⟨some 24, .mov (.c (.int .i64 (0))), none⟩]
def A_link_Linked_imports_3 : List AOper := [⟨some 26, .iaddr 126 2 (.t 22) (.t 24), none⟩,
    ⟨some 27, .lda 2 (.t 26), none⟩,
    ⟨some 5, .box 126 2 (.c (.agg [.str [], .bool false])), none⟩,
    ⟨none, .st 2 (.t 5) (.t 27), none⟩]
def A_link_Linked_imports_4 : List AOper := [⟨some 28, .mov (.t 0), none⟩,
    ⟨some 29, .nilc (.t 28), none⟩,
    ⟨some 30, .faddr 0 (.t 29), none⟩,
    ⟨some 31, .ld1 (.t 30), none⟩,
    ⟨some 32, .faddr 0 (.t 5), none⟩,
    ⟨some 33, .ld1 (.t 32), none⟩,
    ⟨some 34, .mlook .s (.nilp) false (.t 31) (.t 33), none⟩,
    ⟨some 35, .isnil .pt false (.t 34), none⟩]
def A_link_Linked_imports_5 : List AOper := [⟨some 36, .faddr 0 (.t 5), none⟩,
    ⟨some 37, .ld1 (.t 36), none⟩,
    ⟨some 38, .call 13 [(.c (.int .i64 (81))), (.t 37)], none⟩]
def A_link_Linked_imports_6 : List AOper := [⟨some 39, .bini .add (.t 24) (.c (.int .i64 (1))), none⟩,
    ⟨some 24, .mov (.t 39), none⟩]
def A_link_Linked_imports_7 : ACode := (.seq (.ops [⟨some 25, .bini .lss (.t 24) (.t 23), none⟩]) (.seq (.cond (.t 25) .skip (.exit 2)) (.seq (.block 3 (.seq (.ops A_link_Linked_imports_3) (.seq (.alts [28, 29, 30, 31, 32, 33, 34, 35] [A_link_Linked_imports_4]) (.cond (.t 35) (.ops A_link_Linked_imports_5) .skip)))) (.ops A_link_Linked_imports_6))))
def A_link_Linked_imports_8 : List AOper := [⟨some 40, .bini .add (.t 9) (.c (.int .i64 (1))), none⟩,
    ⟨some 9, .mov (.t 40), none⟩]
def A_link_Linked_imports_9 : ACode := (.seq (.ops [⟨some 10, .bini .lss (.t 9) (.t 8), none⟩]) (.seq (.cond (.t 10) .skip (.exit 0)) (.seq (.block 1 (.seq (.ops A_link_Linked_imports_1) (.seq (.ops A_link_Linked_imports_2) (.block 2 (.loop A_link_Linked_imports_7))))) (.ops A_link_Linked_imports_8))))
def A_link_Linked_imports : ACode := (.seq (.ops A_link_Linked_imports_0) (.block 0 (.loop A_link_Linked_imports_9)))
def R_link_Linked_imports : List ARes := []
theorem C_link_Linked_imports : compF Tryz.prog Tryz.f15 = some (A_link_Linked_imports, R_link_Linked_imports) := by kernel_rfl
def T_link_Linked_imports : FC := ⟨41, A_link_Linked_imports, R_link_Linked_imports⟩
theorem G_link_Linked_imports : GoodFC Tryz.prog F_link_Linked_imports T_link_Linked_imports := ⟨Tryz.f15, Tryz.func15, Tryz.ntmps15, C_link_Linked_imports, by kernel_rfl⟩

-- (*lexicon/link.Linked).rings
abbrev F_link_Linked_rings : Nat := 16
def A_link_Linked_rings_0 : List AOper := [⟨some 8, .ld1 (.t 1), none⟩,
    ⟨some 9, .call 34 [(.t 8)], none⟩,
    ⟨some 10, .lenl (.t 9), none⟩,
    ⟨some 11, .mov (.c (.int .i64 (0))), none⟩]
def A_link_Linked_rings_1 : List AOper := [⟨some 13, .iaddr 9 1 (.t 9) (.t 11), none⟩,
    ⟨some 14, .ld1 (.t 13), none⟩,
    ⟨some 3, .box 9 1 (.c (.str [])), none⟩,
    ⟨none, .st 1 (.t 3) (.t 14), none⟩]
def A_link_Linked_rings_2 : List AOper := [⟨some 15, .mkmap, none⟩,
    ⟨some 4, .box 118 1 (.c (.nilm)), none⟩,
    ⟨none, .st 1 (.t 4) (.t 15), none⟩]
def A_link_Linked_rings_3 : List AOper := [⟨some 16, .mkfn 36 [] [(.t 1), (.t 3), (.t 4), (.t 5)], none⟩,
    ⟨none, .st 1 (.t 5) (.t 16), none⟩]
def A_link_Linked_rings_4 : List AOper := [⟨some 17, .ld1 (.t 5), none⟩,
    ⟨some 18, .ld1 (.t 3), none⟩,
    ⟨some 19, .callv (.t 17) [(.t 18)], none⟩]
def A_link_Linked_rings_5 : List AOper := [⟨some 20, .bini .add (.t 11) (.c (.int .i64 (1))), none⟩,
    ⟨some 11, .mov (.t 20), none⟩]
def A_link_Linked_rings_6 : ACode := (.seq (.ops [⟨some 12, .bini .lss (.t 11) (.t 10), none⟩]) (.seq (.cond (.t 12) .skip (.exit 0)) (.seq (.block 1 (.seq (.ops A_link_Linked_rings_1) (.seq (.ops A_link_Linked_rings_2) (.seq (.ops [⟨some 5, .box 127 1 (.c (.nilf)), none⟩]) (.seq (.ops A_link_Linked_rings_3) (.ops A_link_Linked_rings_4)))))) (.ops A_link_Linked_rings_5))))
def A_link_Linked_rings_7 : List AOper := [⟨some 21, .ld1 (.t 1), none⟩,
    ⟨some 22, .call 34 [(.t 21)], none⟩,
    ⟨some 23, .lenl (.t 22), none⟩,
    ⟨some 24, .mov (.c (.int .i64 (0))), none⟩]
def A_link_Linked_rings_8 : List AOper := [⟨some 26, .iaddr 9 1 (.t 22) (.t 24), none⟩,
    ⟨some 27, .ld1 (.t 26), none⟩,
    ⟨some 7, .mov (.t 27), none⟩]
def A_link_Linked_rings_9 : List AOper := [⟨some 28, .ld1 (.t 1), none⟩,
    ⟨some 29, .ld1 (.t 1), none⟩,
    ⟨some 30, .nilc (.t 29), none⟩,
    ⟨some 31, .faddr 0 (.t 30), none⟩,
    ⟨some 32, .ld1 (.t 31), none⟩,
    ⟨some 33, .mov (.t 7), none⟩,
    ⟨some 34, .mlook .s (.nilp) false (.t 32) (.t 33), none⟩,
    ⟨some 35, .nilc (.t 34), none⟩,
    ⟨some 36, .faddr 5 (.t 35), none⟩,
    ⟨some 37, .ld1 (.t 36), none⟩,
    ⟨some 38, .mov (.t 7), none⟩,
    ⟨some 39, .call 37 [(.t 28), (.t 37), (.t 38), (.c (.bool true))], none⟩]
def A_link_Linked_rings_10 : List AOper := [⟨some 40, .bini .add (.t 24) (.c (.int .i64 (1))), none⟩,
    ⟨some 24, .mov (.t 40), none⟩]
def A_link_Linked_rings_11 : ACode := (.seq (.ops [⟨some 25, .bini .lss (.t 24) (.t 23), none⟩]) (.seq (.cond (.t 25) .skip (.exit 2)) (.seq (.block 3 (.seq (.ops A_link_Linked_rings_8) (.alts [28, 29, 30, 31, 32, 33, 34, 35, 36, 37, 38, 39] [A_link_Linked_rings_9]))) (.ops A_link_Linked_rings_10))))
def A_link_Linked_rings : ACode := (.seq (.ops [⟨some 1, .box 23 1 (.t 0), none⟩]) (.seq (.seq (.ops A_link_Linked_rings_0) (.block 0 (.loop A_link_Linked_rings_6))) (.seq (.ops A_link_Linked_rings_7) (.block 2 (.loop A_link_Linked_rings_11)))))
def R_link_Linked_rings : List ARes := []
theorem C_link_Linked_rings : compF Tryz.prog Tryz.f16 = some (A_link_Linked_rings, R_link_Linked_rings) := by kernel_rfl
def T_link_Linked_rings : FC := ⟨41, A_link_Linked_rings, R_link_Linked_rings⟩
theorem G_link_Linked_rings : GoodFC Tryz.prog F_link_Linked_rings T_link_Linked_rings := ⟨Tryz.f16, Tryz.func16, Tryz.ntmps16, C_link_Linked_rings, by kernel_rfl⟩

-- (*lexicon/link.Linked).once
abbrev F_link_Linked_once : Nat := 17
def A_link_Linked_once_0 : List AOper := [⟨some 15, .mkmap, none⟩,
    ⟨some 2, .mov (.t 15), none⟩]
def A_link_Linked_once_1 : List AOper := [⟨some 16, .mov (.t 0), none⟩,
    ⟨some 17, .nilc (.t 16), none⟩,
    ⟨some 18, .faddr 0 (.t 17), none⟩,
    ⟨some 19, .ld1 (.t 18), none⟩,
    ⟨some 20, .rngm (.t 19), none⟩]
def A_link_Linked_once_2 : List AOper := [⟨some 21, .nxm (.t 20), none⟩,
    ⟨some 22, .ext 0 (.t 21), none⟩]
def A_link_Linked_once_3 : List AOper := [⟨some 23, .entr (.t 20), none⟩,
    ⟨some 24, .ext 1 (.t 23), none⟩,
    ⟨some 4, .mov (.t 24), none⟩]
def A_link_Linked_once_4 : List AOper := [⟨some 25, .mov (.t 4), none⟩,
    ⟨some 26, .nilc (.t 25), none⟩,
    ⟨some 27, .faddr 0 (.t 26), none⟩,
    ⟨some 28, .faddr 1 (.t 27), none⟩,
    ⟨some 29, .ld1 (.t 28), none⟩,
    ⟨some 30, .call 38 [(.t 29)], none⟩,
    ⟨some 31, .lenl (.t 30), none⟩,
    ⟨some 32, .mov (.c (.int .i64 (0))), none⟩]
def A_link_Linked_once_5 : List AOper := [⟨some 34, .iaddr 9 1 (.t 30) (.t 32), none⟩,
    ⟨some 35, .ld1 (.t 34), none⟩,
    ⟨some 6, .mov (.t 35), none⟩]
def A_link_Linked_once_6 : List AOper := [⟨some 36, .mov (.t 2), none⟩,
    ⟨some 37, .mov (.t 6), none⟩,
    ⟨none, .mupd .s (.t 36) (.t 37) (.c (.bool true)), none⟩]
def A_link_Linked_once_7 : List AOper := [⟨some 38, .bini .add (.t 32) (.c (.int .i64 (1))), none⟩,
    ⟨some 32, .mov (.t 38), none⟩]
def A_link_Linked_once_8 : ACode := (.seq (.ops [⟨some 33, .bini .lss (.t 32) (.t 31), none⟩]) (.seq (.cond (.t 33) .skip (.exit 2)) (.seq (.block 3 (.seq (.ops A_link_Linked_once_5) (.ops A_link_Linked_once_6))) (.ops A_link_Linked_once_7))))
def A_link_Linked_once_9 : ACode := (.seq (.ops A_link_Linked_once_2) (.seq (.cond (.t 22) .skip (.exit 0)) (.block 1 (.seq (.ops A_link_Linked_once_3) (.seq (.ops A_link_Linked_once_4) (.block 2 (.loop A_link_Linked_once_8)))))))
def A_link_Linked_once_10 : List AOper := [⟨some 39, .mov (.t 0), none⟩,
    ⟨some 40, .call 34 [(.t 39)], none⟩,
    ⟨some 41, .lenl (.t 40), none⟩,
    ⟨some 42, .mov (.c (.int .i64 (0))), none⟩]
def A_link_Linked_once_11 : List AOper := [⟨some 44, .iaddr 9 1 (.t 40) (.t 42), none⟩,
    ⟨some 45, .ld1 (.t 44), none⟩,
    ⟨some 9, .mov (.t 45), none⟩]
def A_link_Linked_once_12 : List AOper := [⟨some 46, .mov (.t 0), none⟩,
    ⟨some 47, .nilc (.t 46), none⟩,
    ⟨some 48, .faddr 0 (.t 47), none⟩,
    ⟨some 49, .ld1 (.t 48), none⟩,
    ⟨some 50, .mov (.t 9), none⟩,
    ⟨some 51, .mlook .s (.nilp) false (.t 49) (.t 50), none⟩,
    ⟨some 10, .mov (.t 51), none⟩]
def A_link_Linked_once_13 : List AOper := [⟨some 52, .mov (.t 10), none⟩,
    ⟨some 53, .nilc (.t 52), none⟩,
    ⟨some 54, .faddr 0 (.t 53), none⟩,
    ⟨some 55, .lda 5 (.t 54), none⟩,
    ⟨some 56, .call 39 [(.t 55)], none⟩,
    ⟨some 57, .lenl (.t 56), none⟩,
    ⟨some 58, .mov (.c (.int .i64 (0))), none⟩]
def A_link_Linked_once_14 : List AOper := [⟨some 60, .iaddr 134 3 (.t 56) (.t 58), none⟩,
    ⟨some 61, .lda 3 (.t 60), none⟩,
    ⟨some 12, .box 134 3 (.c (.agg [.str [], .int .u8 (0), .str []])), none⟩,
    ⟨none, .st 3 (.t 12) (.t 61), none⟩]
def A_link_Linked_once_15 : List AOper := [⟨some 63, .mov (.t 0), none⟩,
    ⟨some 64, .nilc (.t 63), none⟩,
    ⟨some 65, .faddr 2 (.t 64), none⟩,
    ⟨some 66, .ld1 (.t 65), none⟩,
    ⟨some 67, .faddr 0 (.t 12), none⟩,
    ⟨some 68, .ld1 (.t 67), none⟩,
    ⟨some 69, .mlook .s (.str []) true (.t 66) (.t 68), none⟩,
    ⟨some 62, .mov (.t 69), none⟩,
    ⟨some 70, .ext 0 (.t 62), none⟩,
    ⟨some 71, .ext 1 (.t 62), none⟩,
    ⟨some 13, .mov (.t 70), none⟩,
    ⟨some 14, .mov (.t 71), none⟩]
def A_link_Linked_once_16 : List AOper := [⟨some 72, .mov (.t 14), none⟩,
    ⟨some 73, .mov (.t 72), none⟩,
    ⟨some 74, .mov (.t 2), some (73, false)⟩,
    ⟨some 75, .faddr 0 (.t 12), some (73, false)⟩,
    ⟨some 76, .ld1 (.t 75), some (73, false)⟩,
    ⟨some 77, .mlook .s (.bool false) false (.t 74) (.t 76), some (73, false)⟩,
    ⟨some 78, .pick (.t 73) (.c (.bool true)) (.t 77), none⟩]
def A_link_Linked_once_17 : List AOper := [⟨some 79, .mov (.t 7), none⟩,
    ⟨some 80, .faddr 0 (.t 12), none⟩,
    ⟨some 81, .ld1 (.t 80), none⟩,
    ⟨some 82, .bslice 9 1 1 [.str []] [(0, 1, (.t 81))], none⟩,
    ⟨some 83, .app 9 1 16 (.t 79) (.t 82), none⟩,
    ⟨some 7, .mov (.t 83), none⟩]
def A_link_Linked_once_18 : List AOper := [⟨some 84, .mov (.t 0), none⟩,
    ⟨some 85, .nilc (.t 84), none⟩,
    ⟨some 86, .faddr 2 (.t 85), none⟩,
    ⟨some 87, .ld1 (.t 86), none⟩,
    ⟨some 88, .faddr 0 (.t 12), none⟩,
    ⟨some 89, .ld1 (.t 88), none⟩,
    ⟨some 90, .mov (.t 9), none⟩,
    ⟨none, .mupd .s (.t 87) (.t 89) (.t 90), none⟩]
def A_link_Linked_once_19 : List AOper := [⟨some 91, .mov (.t 10), none⟩,
    ⟨some 92, .nilc (.t 91), none⟩,
    ⟨some 93, .faddr 6 (.t 92), none⟩,
    ⟨some 94, .ld1 (.t 93), none⟩,
    ⟨some 95, .faddr 0 (.t 12), none⟩,
    ⟨some 96, .ld1 (.t 95), none⟩,
    ⟨some 97, .faddr 1 (.t 12), none⟩,
    ⟨some 98, .ld1 (.t 97), none⟩,
    ⟨none, .mupd .s (.t 94) (.t 96) (.t 98), none⟩]
def A_link_Linked_once_20 : List AOper := [⟨some 99, .bini .add (.t 58) (.c (.int .i64 (1))), none⟩,
    ⟨some 58, .mov (.t 99), none⟩]
def A_link_Linked_once_21 : ACode := (.seq (.ops [⟨some 59, .bini .lss (.t 58) (.t 57), none⟩]) (.seq (.cond (.t 59) .skip (.exit 6)) (.seq (.block 7 (.seq (.ops A_link_Linked_once_14) (.seq (.seq (.alts [63, 64, 65, 66, 67, 68, 69, 62, 70, 71, 13, 14] [A_link_Linked_once_15]) (.seq (.ops A_link_Linked_once_16) (.cond (.t 78) (.ops A_link_Linked_once_17) .skip))) (.seq (.alts [84, 85, 86, 87, 88, 89, 90] [A_link_Linked_once_18]) (.alts [91, 92, 93, 94, 95, 96, 97, 98] [A_link_Linked_once_19]))))) (.ops A_link_Linked_once_20))))
def A_link_Linked_once_22 : List AOper := [⟨some 100, .bini .add (.t 42) (.c (.int .i64 (1))), none⟩,
    ⟨some 42, .mov (.t 100), none⟩]
def A_link_Linked_once_23 : ACode := (.seq (.ops [⟨some 43, .bini .lss (.t 42) (.t 41), none⟩]) (.seq (.cond (.t 43) .skip (.exit 4)) (.seq (.block 5 (.seq (.ops A_link_Linked_once_11) (.seq (.ops A_link_Linked_once_12) (.seq (.ops A_link_Linked_once_13) (.block 6 (.loop A_link_Linked_once_21)))))) (.ops A_link_Linked_once_22))))
def A_link_Linked_once_24 : List AOper := [⟨some 101, .mov (.t 7), none⟩,
    ⟨some 102, .lenl (.t 101), none⟩,
    ⟨some 103, .bini .gtr (.t 102) (.c (.int .i64 (0))), none⟩]
def A_link_Linked_once_25 : List AOper := [⟨some 104, .mov (.t 7), none⟩,
    ⟨some 105, .call 33 [(.t 104)], none⟩,
    ⟨some 106, .call 13 [(.c (.int .i64 (83))), (.t 105)], none⟩]
def A_link_Linked_once : ACode := (.seq (.ops A_link_Linked_once_0) (.seq (.seq (.ops A_link_Linked_once_1) (.block 0 (.loop A_link_Linked_once_9))) (.seq (.ops [⟨some 7, .mov (.c (.nils)), none⟩]) (.seq (.seq (.ops A_link_Linked_once_10) (.block 4 (.loop A_link_Linked_once_23))) (.seq (.ops A_link_Linked_once_24) (.cond (.t 103) (.ops A_link_Linked_once_25) .skip))))))
def R_link_Linked_once : List ARes := []
theorem C_link_Linked_once : compF Tryz.prog Tryz.f17 = some (A_link_Linked_once, R_link_Linked_once) := by kernel_rfl
def T_link_Linked_once : FC := ⟨107, A_link_Linked_once, R_link_Linked_once⟩
theorem G_link_Linked_once : GoodFC Tryz.prog F_link_Linked_once T_link_Linked_once := ⟨Tryz.f17, Tryz.func17, Tryz.ntmps17, C_link_Linked_once, by kernel_rfl⟩

-- (*lexicon/link.Linked).refer
abbrev F_link_Linked_refer : Nat := 18
def A_link_Linked_refer_0 : List AOper := [⟨some 5, .mov (.t 0), none⟩,
    ⟨some 6, .call 34 [(.t 5)], none⟩,
    ⟨some 7, .lenl (.t 6), none⟩,
    ⟨some 8, .mov (.c (.int .i64 (0))), none⟩]
def A_link_Linked_refer_1 : List AOper := [⟨some 10, .iaddr 9 1 (.t 6) (.t 8), none⟩,
    ⟨some 11, .ld1 (.t 10), none⟩,
    ⟨some 3, .mov (.t 11), none⟩]
def A_link_Linked_refer_2 : List AOper := [⟨some 12, .mov (.t 0), none⟩,
    ⟨some 13, .nilc (.t 12), none⟩,
    ⟨some 14, .faddr 0 (.t 13), none⟩,
    ⟨some 15, .ld1 (.t 14), none⟩,
    ⟨some 16, .mov (.t 3), none⟩,
    ⟨some 17, .mlook .s (.nilp) false (.t 15) (.t 16), none⟩,
    ⟨some 4, .mov (.t 17), none⟩]
def A_link_Linked_refer_3 : List AOper := [⟨some 18, .mov (.t 0), none⟩,
    ⟨some 19, .mov (.t 4), none⟩,
    ⟨some 20, .mov (.t 4), none⟩,
    ⟨some 21, .nilc (.t 20), none⟩,
    ⟨some 22, .faddr 0 (.t 21), none⟩,
    ⟨some 23, .faddr 1 (.t 22), none⟩,
    ⟨some 24, .ld1 (.t 23), none⟩,
    ⟨some 25, .mov (.t 4), none⟩,
    ⟨some 26, .nilc (.t 25), none⟩,
    ⟨some 27, .faddr 0 (.t 26), none⟩,
    ⟨some 28, .faddr 3 (.t 27), none⟩,
    ⟨some 29, .ld1 (.t 28), none⟩,
    ⟨some 30, .call 40 [(.t 18), (.t 19), (.t 24), (.t 29)], none⟩]
def A_link_Linked_refer_4 : List AOper := [⟨some 31, .bini .add (.t 8) (.c (.int .i64 (1))), none⟩,
    ⟨some 8, .mov (.t 31), none⟩]
def A_link_Linked_refer_5 : ACode := (.seq (.ops [⟨some 9, .bini .lss (.t 8) (.t 7), none⟩]) (.seq (.cond (.t 9) .skip (.exit 0)) (.seq (.block 1 (.seq (.ops A_link_Linked_refer_1) (.seq (.ops A_link_Linked_refer_2) (.alts [18, 19, 20, 21, 22, 23, 24, 25, 26, 27, 28, 29, 30] [A_link_Linked_refer_3])))) (.ops A_link_Linked_refer_4))))
def A_link_Linked_refer : ACode := (.seq (.ops A_link_Linked_refer_0) (.block 0 (.loop A_link_Linked_refer_5)))
def R_link_Linked_refer : List ARes := []
theorem C_link_Linked_refer : compF Tryz.prog Tryz.f18 = some (A_link_Linked_refer, R_link_Linked_refer) := by kernel_rfl
def T_link_Linked_refer : FC := ⟨32, A_link_Linked_refer, R_link_Linked_refer⟩
theorem G_link_Linked_refer : GoodFC Tryz.prog F_link_Linked_refer T_link_Linked_refer := ⟨Tryz.f18, Tryz.func18, Tryz.ntmps18, C_link_Linked_refer, by kernel_rfl⟩

-- (*lexicon/link.Linked).lay
abbrev F_link_Linked_lay : Nat := 19
def A_link_Linked_lay_0 : List AOper := [⟨some 10, .mkmap, none⟩,
    ⟨some 2, .box 118 1 (.c (.nilm)), none⟩,
    ⟨none, .st 1 (.t 2) (.t 10), none⟩]
def A_link_Linked_lay_1 : List AOper := [⟨some 11, .mov (.t 0), none⟩,
    ⟨some 12, .nilc (.t 11), none⟩,
    ⟨some 13, .faddr 1 (.t 12), none⟩,
    ⟨some 14, .ld1 (.t 13), none⟩,
    ⟨some 15, .lenl (.t 14), none⟩,
    ⟨some 16, .mov (.t 0), none⟩,
    ⟨some 17, .nilc (.t 16), none⟩,
    ⟨some 18, .faddr 0 (.t 17), none⟩,
    ⟨some 19, .ld1 (.t 18), none⟩,
    ⟨some 20, .mlen (.t 19), none⟩,
    ⟨some 21, .bini .lss (.t 15) (.t 20), none⟩]
def A_link_Linked_lay_2 : List AOper := [⟨some 22, .mov (.t 0), none⟩,
    ⟨some 23, .call 34 [(.t 22)], none⟩,
    ⟨some 24, .lenl (.t 23), none⟩,
    ⟨some 25, .mov (.c (.int .i64 (0))), none⟩]
def A_link_Linked_lay_3 : List AOper := [⟨some 27, .iaddr 9 1 (.t 23) (.t 25), none⟩,
    ⟨some 28, .ld1 (.t 27), none⟩,
    ⟨some 4, .mov (.t 28), none⟩]
def A_link_Linked_lay_4 : List AOper := [⟨some 29, .mkfn 41 [] [(.t 2)], none⟩,
    ⟨some 5, .mov (.t 29), none⟩]
def A_link_Linked_lay_5 : List AOper := [⟨some 30, .ld1 (.t 2), none⟩,
    ⟨some 31, .mov (.t 4), none⟩,
    ⟨some 32, .mlook .s (.bool false) false (.t 30) (.t 31), none⟩,
    ⟨some 33, .not (.t 32), none⟩,
    ⟨some 34, .mov (.t 33), none⟩,
    ⟨some 35, .mov (.t 0), some (34, true)⟩,
    ⟨some 36, .nilc (.t 35), some (34, true)⟩,
    ⟨some 37, .faddr 0 (.t 36), some (34, true)⟩,
    ⟨some 38, .ld1 (.t 37), some (34, true)⟩,
    ⟨some 39, .mov (.t 4), some (34, true)⟩,
    ⟨some 40, .mlook .s (.nilp) false (.t 38) (.t 39), some (34, true)⟩,
    ⟨some 41, .nilc (.t 40), some (34, true)⟩,
    ⟨some 42, .faddr 0 (.t 41), some (34, true)⟩,
    ⟨some 43, .faddr 2 (.t 42), some (34, true)⟩,
    ⟨some 44, .ld1 (.t 43), some (34, true)⟩,
    ⟨some 45, .mov (.t 5), some (34, true)⟩,
    ⟨some 46, .call 42 [(.t 44), (.t 45)], some (34, true)⟩,
    ⟨some 47, .not (.t 46), some (34, true)⟩,
    ⟨some 48, .pick (.t 34) (.t 47) (.c (.bool false)), none⟩]
def A_link_Linked_lay_6 : List AOper := [⟨some 49, .ld1 (.t 2), none⟩,
    ⟨some 50, .mov (.t 4), none⟩,
    ⟨none, .mupd .s (.t 49) (.t 50) (.c (.bool true)), none⟩]
def A_link_Linked_lay_7 : List AOper := [⟨some 51, .mov (.t 0), none⟩,
    ⟨some 52, .mov (.t 0), none⟩,
    ⟨some 53, .nilc (.t 52), none⟩,
    ⟨some 54, .faddr 1 (.t 53), none⟩,
    ⟨some 55, .ld1 (.t 54), none⟩,
    ⟨some 56, .mov (.t 4), none⟩,
    ⟨some 57, .bslice 9 1 1 [.str []] [(0, 1, (.t 56))], none⟩,
    ⟨some 58, .app 9 1 16 (.t 55) (.t 57), none⟩,
    ⟨some 59, .nilc (.t 51), none⟩,
    ⟨some 60, .faddr 1 (.t 59), none⟩,
    ⟨none, .st 1 (.t 60) (.t 58), none⟩]
def A_link_Linked_lay_8 : List AOper := [⟨some 61, .bini .add (.t 25) (.c (.int .i64 (1))), none⟩,
    ⟨some 25, .mov (.t 61), none⟩]
def A_link_Linked_lay_9 : ACode := (.seq (.ops [⟨some 26, .bini .lss (.t 25) (.t 24), none⟩]) (.seq (.cond (.t 26) .skip (.exit 2)) (.seq (.block 3 (.seq (.ops A_link_Linked_lay_3) (.seq (.ops A_link_Linked_lay_4) (.seq (.ops A_link_Linked_lay_5) (.cond (.t 48) (.seq (.ops A_link_Linked_lay_6) (.seq (.ops A_link_Linked_lay_7) (.exit 2))) .skip))))) (.ops A_link_Linked_lay_8))))
def A_link_Linked_lay_10 : ACode := (.seq (.seq (.alts [11, 12, 13, 14, 15, 16, 17, 18, 19, 20, 21] [A_link_Linked_lay_1]) (.cond (.t 21) .skip (.exit 0))) (.block 1 (.seq (.ops A_link_Linked_lay_2) (.block 2 (.loop A_link_Linked_lay_9)))))
def A_link_Linked_lay_11 : List AOper := [⟨some 62, .mov (.t 0), none⟩,
    ⟨some 63, .nilc (.t 62), none⟩,
    ⟨some 64, .faddr 0 (.t 63), none⟩,
    ⟨some 65, .ld1 (.t 64), none⟩,
    ⟨some 66, .rngm (.t 65), none⟩]
def A_link_Linked_lay_12 : List AOper := [⟨some 67, .nxm (.t 66), none⟩,
    ⟨some 68, .ext 0 (.t 67), none⟩]
def A_link_Linked_lay_13 : List AOper := [⟨some 69, .entr (.t 66), none⟩,
    ⟨some 70, .ext 1 (.t 69), none⟩,
    ⟨some 7, .mov (.t 70), none⟩]
def A_link_Linked_lay_14 : List AOper := [⟨some 71, .mov (.t 0), none⟩,
    ⟨some 72, .mov (.t 7), none⟩,
    ⟨some 73, .nilc (.t 72), none⟩,
    ⟨some 74, .faddr 0 (.t 73), none⟩,
    ⟨some 75, .faddr 1 (.t 74), none⟩,
    ⟨some 76, .ld1 (.t 75), none⟩,
    ⟨some 77, .mov (.t 7), none⟩,
    ⟨some 78, .nilc (.t 77), none⟩,
    ⟨some 79, .faddr 0 (.t 78), none⟩,
    ⟨some 80, .faddr 3 (.t 79), none⟩,
    ⟨some 81, .ld1 (.t 80), none⟩,
    ⟨some 82, .mov (.t 7), none⟩,
    ⟨some 83, .nilc (.t 82), none⟩,
    ⟨some 84, .faddr 0 (.t 83), none⟩,
    ⟨some 85, .faddr 4 (.t 84), none⟩,
    ⟨some 86, .ld1 (.t 85), none⟩,
    ⟨some 87, .call 43 [(.t 71), (.t 76), (.t 81), (.t 86)], none⟩]
def A_link_Linked_lay_15 : ACode := (.seq (.ops A_link_Linked_lay_12) (.seq (.cond (.t 68) .skip (.exit 4)) (.block 5 (.seq (.ops A_link_Linked_lay_13) (.alts [71, 72, 73, 74, 75, 76, 77, 78, 79, 80, 81, 82, 83, 84, 85, 86, 87] [A_link_Linked_lay_14])))))
def A_link_Linked_lay_16 : List AOper := [⟨some 88, .mov (.t 0), none⟩,
    ⟨some 89, .nilc (.t 88), none⟩,
    ⟨some 90, .faddr 5 (.t 89), none⟩,
    ⟨some 91, .ld1 (.t 90), none⟩,
    ⟨some 92, .rngm (.t 91), none⟩]
def A_link_Linked_lay_17 : List AOper := [⟨some 93, .nxm (.t 92), none⟩,
    ⟨some 94, .ext 0 (.t 93), none⟩]
def A_link_Linked_lay_18 : List AOper := [⟨some 95, .entr (.t 92), none⟩,
    ⟨some 96, .ext 1 (.t 95), none⟩,
    ⟨some 9, .mov (.t 96), none⟩]
def A_link_Linked_lay_19 : List AOper := [⟨some 97, .mov (.t 9), none⟩,
    ⟨some 98, .call 44 [(.t 97)], none⟩]
def A_link_Linked_lay_20 : ACode := (.seq (.ops A_link_Linked_lay_17) (.seq (.cond (.t 94) .skip (.exit 6)) (.block 7 (.seq (.ops A_link_Linked_lay_18) (.ops A_link_Linked_lay_19)))))
def A_link_Linked_lay : ACode := (.seq (.ops A_link_Linked_lay_0) (.seq (.block 0 (.loop A_link_Linked_lay_10)) (.seq (.seq (.ops A_link_Linked_lay_11) (.block 4 (.loop A_link_Linked_lay_15))) (.seq (.ops A_link_Linked_lay_16) (.block 6 (.loop A_link_Linked_lay_20))))))
def R_link_Linked_lay : List ARes := []
theorem C_link_Linked_lay : compF Tryz.prog Tryz.f19 = some (A_link_Linked_lay, R_link_Linked_lay) := by kernel_rfl
def T_link_Linked_lay : FC := ⟨99, A_link_Linked_lay, R_link_Linked_lay⟩
theorem G_link_Linked_lay : GoodFC Tryz.prog F_link_Linked_lay T_link_Linked_lay := ⟨Tryz.f19, Tryz.func19, Tryz.ntmps19, C_link_Linked_lay, by kernel_rfl⟩

-- lexicon/dyn.row
abbrev F_dyn_row : Nat := 20
def A_dyn_row_0 : List AOper := [⟨some 4, .box 40 3 (.t 1), none⟩,
    ⟨some 6, .box 93 9 (.c (.agg [.int .i32 (0), .str [], .str [], .int .u8 (0), .int .u8 (0), .int .u8 (0), .bool false, .int .i64 (0), .str []])), none⟩,
    ⟨some 7, .mov (.c (.nilp)), none⟩,
    ⟨some 8, .mov (.c (.int .i64 (0))), none⟩]
def A_dyn_row_1 : List AOper := [⟨some 14, .mov (.t 0), none⟩,
    ⟨some 15, .faddr 0 (.t 4), none⟩,
    ⟨some 16, .ld1 (.t 15), none⟩,
    ⟨some 17, .inv [(35, 256)] (.t 14) [(.t 16)], none⟩,
    ⟨some 13, .mov (.t 17), none⟩,
    ⟨some 18, .ext 0 (.t 13), none⟩,
    ⟨some 19, .ext 1 (.t 13), none⟩,
    ⟨some 9, .mov (.t 18), none⟩,
    ⟨some 10, .mov (.t 19), none⟩]
def A_dyn_row_2 : List AOper := [⟨some 20, .mov (.t 10), none⟩,
    ⟨some 21, .bini .neq (.t 20) (.c (.int .i64 (0))), none⟩]
def A_dyn_row_3 : List AOper := [⟨some 22, .build [.int .i32 (0), .str [], .str [], .int .u8 (0), .int .u8 (0), .int .u8 (0), .bool false, .int .i64 (0), .str []] [], none⟩,
    ⟨none, .st 9 (.t 6) (.t 22), none⟩,
    ⟨some 7, .mov (.c (.nilp)), none⟩,
    ⟨some 8, .mov (.c (.int .i64 (100))), none⟩]
def A_dyn_row_4 : List AOper := [⟨some 24, .mov (.t 9), none⟩,
    ⟨some 25, .mov (.t 2), none⟩,
    ⟨some 26, .call 25 [(.t 24), (.t 25)], none⟩,
    ⟨some 23, .mov (.t 26), none⟩,
    ⟨some 27, .ext 0 (.t 23), none⟩,
    ⟨some 28, .ext 1 (.t 23), none⟩,
    ⟨some 11, .box 93 9 (.c (.agg [.int .i32 (0), .str [], .str [], .int .u8 (0), .int .u8 (0), .int .u8 (0), .bool false, .int .i64 (0), .str []])), none⟩,
    ⟨none, .st 9 (.t 11) (.t 27), none⟩,
    ⟨some 12, .mov (.t 28), none⟩]
def A_dyn_row_5 : List AOper := [⟨some 29, .mov (.t 12), none⟩,
    ⟨some 30, .not (.t 29), none⟩]
def A_dyn_row_6 : List AOper := [⟨some 31, .build [.int .i32 (0), .str [], .str [], .int .u8 (0), .int .u8 (0), .int .u8 (0), .bool false, .int .i64 (0), .str []] [], none⟩,
    ⟨none, .st 9 (.t 6) (.t 31), none⟩,
    ⟨some 7, .mov (.c (.nilp)), none⟩,
    ⟨some 8, .mov (.c (.int .i64 (101))), none⟩]
def A_dyn_row_7 : List AOper := [⟨some 32, .lda 9 (.t 11), none⟩,
    ⟨some 33, .mov (.t 9), none⟩,
    ⟨none, .st 9 (.t 6) (.t 32), none⟩,
    ⟨some 7, .mov (.t 33), none⟩,
    ⟨some 8, .mov (.c (.int .i64 (0))), none⟩]
def A_dyn_row : ACode := (.seq (.ops A_dyn_row_0) (.seq (.ops A_dyn_row_1) (.seq (.seq (.ops A_dyn_row_2) (.cond (.t 21) (.seq (.ops A_dyn_row_3) .ret) .skip)) (.seq (.ops A_dyn_row_4) (.seq (.seq (.ops A_dyn_row_5) (.cond (.t 30) (.seq (.ops A_dyn_row_6) .ret) .skip)) (.seq (.ops A_dyn_row_7) .ret))))))
def R_dyn_row : List ARes := [.cella 6 9, .tmp 7, .tmp 8]
theorem C_dyn_row : compF Tryz.prog Tryz.f20 = some (A_dyn_row, R_dyn_row) := by kernel_rfl
def T_dyn_row : FC := ⟨34, A_dyn_row, R_dyn_row⟩
theorem G_dyn_row : GoodFC Tryz.prog F_dyn_row T_dyn_row := ⟨Tryz.f20, Tryz.func20, Tryz.ntmps20, C_dyn_row, by kernel_rfl⟩

-- lexicon/dyn.kinds
abbrev F_dyn_kinds : Nat := 21
def A_dyn_kinds_0 : List AOper := [⟨some 6, .mov (.t 4), none⟩,
    ⟨some 2, .mov (.t 6), none⟩]
def A_dyn_kinds_1 : List AOper := [⟨some 7, .mov (.t 2), none⟩,
    ⟨some 8, .adr 19 1 (.t 1) (.t 7), none⟩,
    ⟨none, .st 1 (.t 8) (.f 45), none⟩]
def A_dyn_kinds_2 : List AOper := [⟨some 9, .bini .add (.t 4) (.c (.int .i64 (1))), none⟩,
    ⟨some 4, .mov (.t 9), none⟩]
def A_dyn_kinds_3 : ACode := (.seq (.ops [⟨some 5, .bini .lss (.t 4) (.c (.int .i64 (19))), none⟩]) (.seq (.cond (.t 5) .skip (.exit 0)) (.seq (.block 1 (.seq (.ops A_dyn_kinds_0) (.ops A_dyn_kinds_1))) (.ops A_dyn_kinds_2))))
def A_dyn_kinds_4 : List AOper := [⟨some 10, .mov (.t 3), none⟩,
    ⟨some 11, .mov (.t 3), none⟩,
    ⟨some 12, .adr 19 1 (.t 1) (.c (.int .u8 (9))), none⟩,
    ⟨none, .st 1 (.t 12) (.t 10), none⟩,
    ⟨some 13, .adr 19 1 (.t 1) (.c (.int .u8 (12))), none⟩,
    ⟨none, .st 1 (.t 13) (.t 11), none⟩]
def A_dyn_kinds_5 : List AOper := [⟨some 14, .adr 19 1 (.t 1) (.c (.int .u8 (11))), none⟩,
    ⟨none, .st 1 (.t 14) (.f 48), none⟩]
def A_dyn_kinds_6 : List AOper := [⟨some 15, .lda 19 (.t 1), none⟩,
    ⟨none, .st 19 (.t 0) (.t 15), none⟩]
def A_dyn_kinds : ACode := (.seq (.ops [⟨some 0, .box 98 19 (.c (.agg [.nilf, .nilf, .nilf, .nilf, .nilf, .nilf, .nilf, .nilf, .nilf, .nilf, .nilf, .nilf, .nilf, .nilf, .nilf, .nilf, .nilf, .nilf, .nilf])), none⟩]) (.seq (.ops [⟨some 1, .box 98 19 (.c (.agg [.nilf, .nilf, .nilf, .nilf, .nilf, .nilf, .nilf, .nilf, .nilf, .nilf, .nilf, .nilf, .nilf, .nilf, .nilf, .nilf, .nilf, .nilf, .nilf])), none⟩]) (.seq (.seq (.ops [⟨some 4, .mov (.c (.int .i64 (0))), none⟩]) (.block 0 (.loop A_dyn_kinds_3))) (.seq (.ops [⟨some 3, .mov (.f 47), none⟩]) (.seq (.ops A_dyn_kinds_4) (.seq (.ops A_dyn_kinds_5) (.seq (.ops A_dyn_kinds_6) .ret)))))))
def R_dyn_kinds : List ARes := [.cella 0 19]
theorem C_dyn_kinds : compF Tryz.prog Tryz.f21 = some (A_dyn_kinds, R_dyn_kinds) := by kernel_rfl
def T_dyn_kinds : FC := ⟨16, A_dyn_kinds, R_dyn_kinds⟩
theorem G_dyn_kinds : GoodFC Tryz.prog F_dyn_kinds T_dyn_kinds := ⟨Tryz.f21, Tryz.func21, Tryz.ntmps21, C_dyn_kinds, by kernel_rfl⟩

-- (*lexicon/dyn.checker).field
abbrev F_dyn_checker_field : Nat := 22
def A_dyn_checker_field_0 : List AOper := [⟨some 6, .box 93 9 (.t 1), none⟩,
    ⟨some 7, .box 50 3 (.t 2), none⟩,
    ⟨some 10, .mov (.c (.nilp)), none⟩]
def A_dyn_checker_field_1 : List AOper := [⟨some 18, .faddr 3 (.t 6), none⟩,
    ⟨some 19, .ld1 (.t 18), none⟩,
    ⟨some 20, .bini .eql (.t 19) (.c (.int .u8 (3))), none⟩,
    ⟨some 21, .mov (.t 20), none⟩,
    ⟨some 22, .faddr 3 (.t 6), some (21, false)⟩,
    ⟨some 23, .ld1 (.t 22), some (21, false)⟩,
    ⟨some 24, .bini .eql (.t 23) (.c (.int .u8 (4))), some (21, false)⟩,
    ⟨some 25, .pick (.t 21) (.c (.bool true)) (.t 24), none⟩,
    ⟨some 11, .mov (.t 25), none⟩]
def A_dyn_checker_field_2 : List AOper := [⟨some 26, .faddr 3 (.t 6), none⟩,
    ⟨some 27, .ld1 (.t 26), none⟩,
    ⟨some 28, .bini .eql (.t 27) (.c (.int .u8 (4))), none⟩]
def A_dyn_checker_field_3 : List AOper := [⟨some 29, .faddr 2 (.t 7), none⟩,
    ⟨some 30, .ld1 (.t 29), none⟩,
    ⟨some 31, .lenl (.t 30), none⟩,
    ⟨some 12, .mov (.t 31), none⟩]
def A_dyn_checker_field_4 : List AOper := [⟨some 32, .faddr 2 (.t 7), none⟩,
    ⟨some 33, .ld1 (.t 32), none⟩,
    ⟨some 34, .lenl (.t 33), none⟩,
    ⟨some 35, .bini .eql (.t 34) (.c (.int .i64 (0))), none⟩,
    ⟨some 36, .mov (.t 35), none⟩,
    ⟨some 37, .mov (.t 11), some (36, false)⟩,
    ⟨some 38, .not (.t 37), some (36, false)⟩,
    ⟨some 39, .mov (.t 38), some (36, false)⟩,
    ⟨some 40, .faddr 2 (.t 7), some (39, true)⟩,
    ⟨some 41, .ld1 (.t 40), some (39, true)⟩,
    ⟨some 42, .lenl (.t 41), some (39, true)⟩,
    ⟨some 43, .bini .gtr (.t 42) (.c (.int .i64 (1))), some (39, true)⟩,
    ⟨some 44, .pick (.t 39) (.t 43) (.c (.bool false)), some (36, false)⟩,
    ⟨some 45, .pick (.t 36) (.c (.bool true)) (.t 44), none⟩,
    ⟨some 46, .mov (.t 45), none⟩,
    ⟨some 47, .faddr 1 (.t 7), some (46, false)⟩,
    ⟨some 48, .ld1 (.t 47), some (46, false)⟩,
    ⟨some 49, .lenl (.t 48), some (46, false)⟩,
    ⟨some 50, .mov (.t 12), some (46, false)⟩,
    ⟨some 51, .bini .neq (.t 49) (.t 50), some (46, false)⟩,
    ⟨some 52, .pick (.t 46) (.c (.bool true)) (.t 51), none⟩]
def A_dyn_checker_field_5 : List AOper := [⟨some 53, .mov (.t 3), none⟩,
    ⟨some 54, .build [.int .i64 (0), .str []] [(0, 1, (.c (.int .i64 (102)))), (1, 1, (.t 53))], none⟩,
    ⟨some 55, .box 105 2 (.t 54), none⟩,
    ⟨some 10, .mov (.t 55), none⟩]
def A_dyn_checker_field_6 : List AOper := [⟨some 56, .faddr 2 (.t 7), none⟩,
    ⟨some 57, .ld1 (.t 56), none⟩,
    ⟨some 58, .lenl (.t 57), none⟩,
    ⟨some 59, .mov (.c (.int .i64 (0))), none⟩]
def A_dyn_checker_field_7 : List AOper := [⟨some 61, .mov (.t 59), none⟩,
    ⟨some 62, .iaddr 47 3 (.t 57) (.t 59), none⟩,
    ⟨some 63, .lda 3 (.t 62), none⟩,
    ⟨some 14, .box 47 3 (.c (.agg [.int .u64 (0), .str [], .nils])), none⟩,
    ⟨some 13, .mov (.t 61), none⟩,
    ⟨none, .st 3 (.t 14) (.t 63), none⟩]
def A_dyn_checker_field_8 : List AOper := [⟨some 64, .mov (.t 3), none⟩,
    ⟨some 15, .mov (.t 64), none⟩]
def A_dyn_checker_field_9 : List AOper := [⟨some 66, .mov (.t 15), none⟩,
    ⟨some 67, .mov (.t 13), none⟩,
    ⟨some 68, .call 49 [(.t 67)], none⟩,
    ⟨some 69, .bins .add (.c (.str [91])) (.t 68), none⟩,
    ⟨some 70, .bins .add (.t 69) (.c (.str [93])), none⟩,
    ⟨some 71, .bins .add (.t 66) (.t 70), none⟩,
    ⟨some 15, .mov (.t 71), none⟩]
def A_dyn_checker_field_10 : List AOper := [⟨some 72, .faddr 3 (.t 6), none⟩,
    ⟨some 73, .ld1 (.t 72), none⟩,
    ⟨some 74, .bini .eql (.t 73) (.c (.int .u8 (4))), none⟩]
def A_dyn_checker_field_11 : List AOper := [⟨some 75, .mov (.t 0), none⟩,
    ⟨some 76, .faddr 5 (.t 6), none⟩,
    ⟨some 77, .ld1 (.t 76), none⟩,
    ⟨some 78, .faddr 1 (.t 7), none⟩,
    ⟨some 79, .ld1 (.t 78), none⟩,
    ⟨some 80, .mov (.t 13), none⟩,
    ⟨some 81, .iaddr 47 3 (.t 79) (.t 80), none⟩,
    ⟨some 82, .lda 3 (.t 81), none⟩,
    ⟨some 83, .mov (.t 15), none⟩,
    ⟨some 84, .mov (.t 4), none⟩,
    ⟨some 85, .call 50 [(.t 75), (.t 77), (.c (.str [])), (.t 82), (.t 83), (.t 84)], none⟩,
    ⟨some 16, .mov (.t 85), none⟩]
def A_dyn_checker_field_12 : List AOper := [⟨some 86, .mov (.t 16), none⟩,
    ⟨some 87, .isnil .pt true (.t 86), none⟩]
def A_dyn_checker_field_13 : List AOper := [⟨some 88, .mov (.t 16), none⟩,
    ⟨some 10, .mov (.t 88), none⟩]
def A_dyn_checker_field_14 : List AOper := [⟨some 89, .mov (.t 0), none⟩,
    ⟨some 90, .faddr 4 (.t 6), none⟩,
    ⟨some 91, .ld1 (.t 90), none⟩,
    ⟨some 92, .faddr 8 (.t 6), none⟩,
    ⟨some 93, .ld1 (.t 92), none⟩,
    ⟨some 94, .lda 3 (.t 14), none⟩,
    ⟨some 95, .mov (.t 15), none⟩,
    ⟨some 96, .mov (.t 4), none⟩,
    ⟨some 97, .call 50 [(.t 89), (.t 91), (.t 93), (.t 94), (.t 95), (.t 96)], none⟩,
    ⟨some 17, .mov (.t 97), none⟩]
def A_dyn_checker_field_15 : List AOper := [⟨some 98, .mov (.t 17), none⟩,
    ⟨some 99, .isnil .pt true (.t 98), none⟩]
def A_dyn_checker_field_16 : List AOper := [⟨some 100, .mov (.t 17), none⟩,
    ⟨some 10, .mov (.t 100), none⟩]
def A_dyn_checker_field_17 : List AOper := [⟨some 101, .bini .add (.t 59) (.c (.int .i64 (1))), none⟩,
    ⟨some 59, .mov (.t 101), none⟩]
def A_dyn_checker_field_18 : ACode := (.seq (.ops [⟨some 60, .bini .lss (.t 59) (.t 58), none⟩]) (.seq (.cond (.t 60) .skip (.exit 0)) (.seq (.block 1 (.seq (.ops A_dyn_checker_field_7) (.seq (.ops A_dyn_checker_field_8) (.seq (.seq (.ops [⟨some 65, .mov (.t 11), none⟩]) (.cond (.t 65) (.ops A_dyn_checker_field_9) .skip)) (.seq (.seq (.ops A_dyn_checker_field_10) (.cond (.t 74) (.seq (.alts [75, 76, 77, 78, 79, 80, 81, 82, 83, 84, 85, 16] [A_dyn_checker_field_11]) (.seq (.ops A_dyn_checker_field_12) (.cond (.t 87) (.seq (.ops A_dyn_checker_field_13) .ret) .skip))) .skip)) (.seq (.ops A_dyn_checker_field_14) (.seq (.ops A_dyn_checker_field_15) (.cond (.t 99) (.seq (.ops A_dyn_checker_field_16) .ret) .skip)))))))) (.ops A_dyn_checker_field_17))))
def A_dyn_checker_field : ACode := (.seq (.ops A_dyn_checker_field_0) (.seq (.ops A_dyn_checker_field_1) (.seq (.ops [⟨some 12, .mov (.c (.int .i64 (0))), none⟩]) (.seq (.seq (.ops A_dyn_checker_field_2) (.cond (.t 28) (.ops A_dyn_checker_field_3) .skip)) (.seq (.seq (.ops A_dyn_checker_field_4) (.cond (.t 52) (.seq (.ops A_dyn_checker_field_5) .ret) .skip)) (.seq (.seq (.ops A_dyn_checker_field_6) (.block 0 (.loop A_dyn_checker_field_18))) (.seq (.ops [⟨some 10, .mov (.c (.nilp)), none⟩]) .ret)))))))
def R_dyn_checker_field : List ARes := [.tmp 10]
theorem C_dyn_checker_field : compF Tryz.prog Tryz.f22 = some (A_dyn_checker_field, R_dyn_checker_field) := by kernel_rfl
def T_dyn_checker_field : FC := ⟨102, A_dyn_checker_field, R_dyn_checker_field⟩
theorem G_dyn_checker_field : GoodFC Tryz.prog F_dyn_checker_field T_dyn_checker_field := ⟨Tryz.f22, Tryz.func22, Tryz.ntmps22, C_dyn_checker_field, by kernel_rfl⟩

-- lexicon/dyn.without
abbrev F_dyn_without : Nat := 23
def A_dyn_without_0 : List AOper := [⟨some 2, .box 40 3 (.t 0), none⟩,
    ⟨some 3, .box 109 1 (.t 1), none⟩,
    ⟨some 4, .box 40 3 (.c (.agg [.str [], .nils, .nils])), none⟩]
def A_dyn_without_1 : List AOper := [⟨some 6, .lda 3 (.t 2), none⟩,
    ⟨some 7, .call 51 [(.t 6)], none⟩,
    ⟨some 5, .box 40 3 (.c (.agg [.str [], .nils, .nils])), none⟩,
    ⟨none, .st 3 (.t 5) (.t 7), none⟩]
def A_dyn_without_2 : List AOper := [⟨some 8, .faddr 1 (.t 5), none⟩,
    ⟨some 9, .ld1 (.t 8), none⟩,
    ⟨some 10, .mkfn 53 [] [(.t 3)], none⟩,
    ⟨some 11, .call 52 [(.t 9), (.t 10)], none⟩,
    ⟨some 12, .faddr 1 (.t 5), none⟩,
    ⟨none, .st 1 (.t 12) (.t 11), none⟩]
def A_dyn_without_3 : List AOper := [⟨some 13, .lda 3 (.t 5), none⟩,
    ⟨none, .st 3 (.t 4) (.t 13), none⟩]
def A_dyn_without : ACode := (.seq (.ops A_dyn_without_0) (.seq (.ops A_dyn_without_1) (.seq (.ops A_dyn_without_2) (.seq (.ops A_dyn_without_3) .ret))))
def R_dyn_without : List ARes := [.cella 4 3]
theorem C_dyn_without : compF Tryz.prog Tryz.f23 = some (A_dyn_without, R_dyn_without) := by kernel_rfl
def T_dyn_without : FC := ⟨14, A_dyn_without, R_dyn_without⟩
theorem G_dyn_without : GoodFC Tryz.prog F_dyn_without T_dyn_without := ⟨Tryz.f23, Tryz.func23, Tryz.ntmps23, C_dyn_without, by kernel_rfl⟩

-- (*lexicon/table.Table).Find
abbrev F_table_Table_Find : Nat := 25
def A_table_Table_Find_0 : List AOper := [⟨some 4, .box 93 9 (.c (.agg [.int .i32 (0), .str [], .str [], .int .u8 (0), .int .u8 (0), .int .u8 (0), .bool false, .int .i64 (0), .str []])), none⟩,
    ⟨some 5, .mov (.c (.bool false)), none⟩]
def A_table_Table_Find_1 : List AOper := [⟨some 9, .mov (.t 0), none⟩,
    ⟨some 10, .nilc (.t 9), none⟩,
    ⟨some 11, .faddr 3 (.t 10), none⟩,
    ⟨some 12, .ld1 (.t 11), none⟩,
    ⟨some 13, .mov (.t 1), none⟩,
    ⟨some 14, .mlook .i (.int .i64 (0)) true (.t 12) (.t 13), none⟩,
    ⟨some 8, .mov (.t 14), none⟩,
    ⟨some 15, .ext 0 (.t 8), none⟩,
    ⟨some 16, .ext 1 (.t 8), none⟩,
    ⟨some 6, .mov (.t 15), none⟩,
    ⟨some 7, .mov (.t 16), none⟩]
def A_table_Table_Find_2 : List AOper := [⟨some 17, .mov (.t 0), none⟩,
    ⟨some 18, .mov (.t 6), none⟩,
    ⟨some 19, .mov (.t 7), none⟩,
    ⟨some 20, .call 54 [(.t 17), (.t 18), (.t 19)], none⟩,
    ⟨some 21, .ext 0 (.t 20), none⟩,
    ⟨some 22, .ext 1 (.t 20), none⟩,
    ⟨none, .st 9 (.t 4) (.t 21), none⟩,
    ⟨some 5, .mov (.t 22), none⟩]
def A_table_Table_Find : ACode := (.seq (.ops A_table_Table_Find_0) (.seq (.ops A_table_Table_Find_1) (.seq (.ops A_table_Table_Find_2) .ret)))
def R_table_Table_Find : List ARes := [.cella 4 9, .tmp 5]
theorem C_table_Table_Find : compF Tryz.prog Tryz.f25 = some (A_table_Table_Find, R_table_Table_Find) := by kernel_rfl
def T_table_Table_Find : FC := ⟨23, A_table_Table_Find, R_table_Table_Find⟩
theorem G_table_Table_Find : GoodFC Tryz.prog F_table_Table_Find T_table_Table_Find := ⟨Tryz.f25, Tryz.func25, Tryz.ntmps25, C_table_Table_Find, by kernel_rfl⟩

-- slices.IndexFunc[[]lexicon/api.FieldValue,lexicon/api.FieldValue]
abbrev F_slices_IndexFunc_api_FieldValue_api_FieldValue : Nat := 26
def A_slices_IndexFunc_api_FieldValue_api_FieldValue_0 : List AOper := [⟨some 6, .mov (.t 0), none⟩,
    ⟨some 7, .lenl (.t 6), none⟩,
    ⟨some 8, .mov (.c (.int .i64 (0))), none⟩]
def A_slices_IndexFunc_api_FieldValue_api_FieldValue_1 : List AOper := [⟨some 10, .mov (.t 8), none⟩,
    ⟨some 5, .mov (.t 10), none⟩]
def A_slices_IndexFunc_api_FieldValue_api_FieldValue_2 : List AOper := [⟨some 11, .mov (.t 1), none⟩,
    ⟨some 12, .mov (.t 0), none⟩,
    ⟨some 13, .mov (.t 5), none⟩,
    ⟨some 14, .iaddr 50 3 (.t 12) (.t 13), none⟩,
    ⟨some 15, .lda 3 (.t 14), none⟩,
    ⟨some 16, .callv (.t 11) [(.t 15)], none⟩]
def A_slices_IndexFunc_api_FieldValue_api_FieldValue_3 : List AOper := [⟨some 17, .mov (.t 5), none⟩,
    ⟨some 4, .mov (.t 17), none⟩]
def A_slices_IndexFunc_api_FieldValue_api_FieldValue_4 : List AOper := [⟨some 18, .bini .add (.t 8) (.c (.int .i64 (1))), none⟩,
    ⟨some 8, .mov (.t 18), none⟩]
def A_slices_IndexFunc_api_FieldValue_api_FieldValue_5 : ACode := (.seq (.ops [⟨some 9, .bini .lss (.t 8) (.t 7), none⟩]) (.seq (.cond (.t 9) .skip (.exit 0)) (.seq (.block 1 (.seq (.ops A_slices_IndexFunc_api_FieldValue_api_FieldValue_1) (.seq (.ops A_slices_IndexFunc_api_FieldValue_api_FieldValue_2) (.cond (.t 16) (.seq (.ops A_slices_IndexFunc_api_FieldValue_api_FieldValue_3) .ret) .skip)))) (.ops A_slices_IndexFunc_api_FieldValue_api_FieldValue_4))))
def A_slices_IndexFunc_api_FieldValue_api_FieldValue : ACode := (.seq (.ops [⟨some 4, .mov (.c (.int .i64 (0))), none⟩]) (.seq (.seq (.ops A_slices_IndexFunc_api_FieldValue_api_FieldValue_0) (.block 0 (.loop A_slices_IndexFunc_api_FieldValue_api_FieldValue_5))) (.seq (.ops [⟨some 4, .mov (.c (.int .i64 (-1))), none⟩]) .ret)))
def R_slices_IndexFunc_api_FieldValue_api_FieldValue : List ARes := [.tmp 4]
theorem C_slices_IndexFunc_api_FieldValue_api_FieldValue : compF Tryz.prog Tryz.f26 = some (A_slices_IndexFunc_api_FieldValue_api_FieldValue, R_slices_IndexFunc_api_FieldValue_api_FieldValue) := by kernel_rfl
def T_slices_IndexFunc_api_FieldValue_api_FieldValue : FC := ⟨19, A_slices_IndexFunc_api_FieldValue_api_FieldValue, R_slices_IndexFunc_api_FieldValue_api_FieldValue⟩
theorem G_slices_IndexFunc_api_FieldValue_api_FieldValue : GoodFC Tryz.prog F_slices_IndexFunc_api_FieldValue_api_FieldValue T_slices_IndexFunc_api_FieldValue_api_FieldValue := ⟨Tryz.f26, Tryz.func26, Tryz.ntmps26, C_slices_IndexFunc_api_FieldValue_api_FieldValue, by kernel_rfl⟩

-- slices.Insert[[]lexicon/api.FieldValue,lexicon/api.FieldValue]
abbrev F_slices_Insert_api_FieldValue_api_FieldValue : Nat := 28
def A_slices_Insert_api_FieldValue_api_FieldValue_0 : List AOper := [⟨some 10, .mov (.t 0), none⟩,
    ⟨some 11, .mov (.t 1), none⟩,
    ⟨some 12, .slcl 50 3 (.t 10) (some (.t 11)) none none, none⟩]
def A_slices_Insert_api_FieldValue_api_FieldValue_1 : List AOper := [⟨some 13, .mov (.t 2), none⟩,
    ⟨some 14, .lenl (.t 13), none⟩,
    ⟨some 7, .mov (.t 14), none⟩]
def A_slices_Insert_api_FieldValue_api_FieldValue_2 : List AOper := [⟨some 15, .mov (.t 7), none⟩,
    ⟨some 16, .bini .eql (.t 15) (.c (.int .i64 (0))), none⟩]
def A_slices_Insert_api_FieldValue_api_FieldValue_3 : List AOper := [⟨some 17, .mov (.t 0), none⟩,
    ⟨some 6, .mov (.t 17), none⟩]
def A_slices_Insert_api_FieldValue_api_FieldValue_4 : List AOper := [⟨some 18, .mov (.t 0), none⟩,
    ⟨some 19, .lenl (.t 18), none⟩,
    ⟨some 8, .mov (.t 19), none⟩]
def A_slices_Insert_api_FieldValue_api_FieldValue_5 : List AOper := [⟨some 20, .mov (.t 1), none⟩,
    ⟨some 21, .mov (.t 8), none⟩,
    ⟨some 22, .bini .eql (.t 20) (.t 21), none⟩]
def A_slices_Insert_api_FieldValue_api_FieldValue_6 : List AOper := [⟨some 23, .mov (.t 0), none⟩,
    ⟨some 24, .mov (.t 2), none⟩,
    ⟨some 25, .app 50 3 56 (.t 23) (.t 24), none⟩,
    ⟨some 6, .mov (.t 25), none⟩]
def A_slices_Insert_api_FieldValue_api_FieldValue_7 : List AOper := [⟨some 26, .mov (.t 8), none⟩,
    ⟨some 27, .mov (.t 7), none⟩,
    ⟨some 28, .bini .add (.t 26) (.t 27), none⟩,
    ⟨some 29, .mov (.t 0), none⟩,
    ⟨some 30, .capk (.t 29), none⟩,
    ⟨some 31, .bini .gtr (.t 28) (.t 30), none⟩]
def A_slices_Insert_api_FieldValue_api_FieldValue_8 : List AOper := [⟨some 32, .mov (.t 0), none⟩,
    ⟨some 33, .mov (.t 1), none⟩,
    ⟨some 34, .slcl 50 3 (.t 32) none (some (.t 33)) none, none⟩,
    ⟨some 35, .mov (.t 8), none⟩,
    ⟨some 36, .mov (.t 7), none⟩,
    ⟨some 37, .bini .add (.t 35) (.t 36), none⟩,
    ⟨some 38, .mov (.t 1), none⟩,
    ⟨some 39, .bini .sub (.t 37) (.t 38), none⟩,
    ⟨some 40, .appz 50 3 56 [.int .i32 (0), .nils, .nils] (.t 34) (.t 39), none⟩,
    ⟨some 9, .mov (.t 40), none⟩]
def A_slices_Insert_api_FieldValue_api_FieldValue_9 : List AOper := [⟨some 41, .mov (.t 9), none⟩,
    ⟨some 42, .mov (.t 1), none⟩,
    ⟨some 43, .slcl 50 3 (.t 41) (some (.t 42)) none none, none⟩,
    ⟨some 44, .mov (.t 2), none⟩,
    ⟨some 45, .cpy 50 3 (.t 43) (.t 44), none⟩]
def A_slices_Insert_api_FieldValue_api_FieldValue_10 : List AOper := [⟨some 46, .mov (.t 9), none⟩,
    ⟨some 47, .mov (.t 1), none⟩,
    ⟨some 48, .mov (.t 7), none⟩,
    ⟨some 49, .bini .add (.t 47) (.t 48), none⟩,
    ⟨some 50, .slcl 50 3 (.t 46) (some (.t 49)) none none, none⟩,
    ⟨some 51, .mov (.t 0), none⟩,
    ⟨some 52, .mov (.t 1), none⟩,
    ⟨some 53, .slcl 50 3 (.t 51) (some (.t 52)) none none, none⟩,
    ⟨some 54, .cpy 50 3 (.t 50) (.t 53), none⟩]
def A_slices_Insert_api_FieldValue_api_FieldValue_11 : List AOper := [⟨some 55, .mov (.t 9), none⟩,
    ⟨some 6, .mov (.t 55), none⟩]
def A_slices_Insert_api_FieldValue_api_FieldValue_12 : List AOper := [⟨some 56, .mov (.t 0), none⟩,
    ⟨some 57, .mov (.t 8), none⟩,
    ⟨some 58, .mov (.t 7), none⟩,
    ⟨some 59, .bini .add (.t 57) (.t 58), none⟩,
    ⟨some 60, .slcl 50 3 (.t 56) none (some (.t 59)) none, none⟩,
    ⟨some 0, .mov (.t 60), none⟩]
def A_slices_Insert_api_FieldValue_api_FieldValue_13 : List AOper := [⟨some 61, .mov (.t 2), none⟩,
    ⟨some 62, .mov (.t 0), none⟩,
    ⟨some 63, .mov (.t 1), none⟩,
    ⟨some 64, .mov (.t 7), none⟩,
    ⟨some 65, .bini .add (.t 63) (.t 64), none⟩,
    ⟨some 66, .slcl 50 3 (.t 62) (some (.t 65)) none none, none⟩,
    ⟨some 67, .bad, none⟩,
    ⟨some 68, .not (.t 67), none⟩]
def A_slices_Insert_api_FieldValue_api_FieldValue_14 : List AOper := [⟨some 69, .mov (.t 0), none⟩,
    ⟨some 70, .mov (.t 1), none⟩,
    ⟨some 71, .mov (.t 7), none⟩,
    ⟨some 72, .bini .add (.t 70) (.t 71), none⟩,
    ⟨some 73, .slcl 50 3 (.t 69) (some (.t 72)) none none, none⟩,
    ⟨some 74, .mov (.t 0), none⟩,
    ⟨some 75, .mov (.t 1), none⟩,
    ⟨some 76, .slcl 50 3 (.t 74) (some (.t 75)) none none, none⟩,
    ⟨some 77, .cpy 50 3 (.t 73) (.t 76), none⟩]
def A_slices_Insert_api_FieldValue_api_FieldValue_15 : List AOper := [⟨some 78, .mov (.t 0), none⟩,
    ⟨some 79, .mov (.t 1), none⟩,
    ⟨some 80, .slcl 50 3 (.t 78) (some (.t 79)) none none, none⟩,
    ⟨some 81, .mov (.t 2), none⟩,
    ⟨some 82, .cpy 50 3 (.t 80) (.t 81), none⟩]
def A_slices_Insert_api_FieldValue_api_FieldValue_16 : List AOper := [⟨some 83, .mov (.t 0), none⟩,
    ⟨some 6, .mov (.t 83), none⟩]
def A_slices_Insert_api_FieldValue_api_FieldValue_17 : List AOper := [⟨some 84, .mov (.t 0), none⟩,
    ⟨some 85, .mov (.t 8), none⟩,
    ⟨some 86, .slcl 50 3 (.t 84) (some (.t 85)) none none, none⟩,
    ⟨some 87, .mov (.t 2), none⟩,
    ⟨some 88, .cpy 50 3 (.t 86) (.t 87), none⟩]
def A_slices_Insert_api_FieldValue_api_FieldValue_18 : List AOper := [⟨some 89, .mov (.t 0), none⟩,
    ⟨some 90, .mov (.t 1), none⟩,
    ⟨some 91, .slcl 50 3 (.t 89) (some (.t 90)) none none, none⟩,
    ⟨some 92, .mov (.t 7), none⟩,
    ⟨some 93, .call 56 [(.t 91), (.t 92)], none⟩]
def A_slices_Insert_api_FieldValue_api_FieldValue_19 : List AOper := [⟨some 94, .mov (.t 0), none⟩,
    ⟨some 6, .mov (.t 94), none⟩]
def A_slices_Insert_api_FieldValue_api_FieldValue : ACode := (.seq (.ops [⟨some 6, .mov (.c (.nils)), none⟩]) (.seq (.ops A_slices_Insert_api_FieldValue_api_FieldValue_0) (.seq (.ops A_slices_Insert_api_FieldValue_api_FieldValue_1) (.seq (.seq (.ops A_slices_Insert_api_FieldValue_api_FieldValue_2) (.cond (.t 16) (.seq (.ops A_slices_Insert_api_FieldValue_api_FieldValue_3) .ret) .skip)) (.seq (.ops A_slices_Insert_api_FieldValue_api_FieldValue_4) (.seq (.seq (.ops A_slices_Insert_api_FieldValue_api_FieldValue_5) (.cond (.t 22) (.seq (.ops A_slices_Insert_api_FieldValue_api_FieldValue_6) .ret) .skip)) (.seq (.seq (.ops A_slices_Insert_api_FieldValue_api_FieldValue_7) (.cond (.t 31) (.seq (.ops A_slices_Insert_api_FieldValue_api_FieldValue_8) (.seq (.ops A_slices_Insert_api_FieldValue_api_FieldValue_9) (.seq (.alts [46, 47, 48, 49, 50, 51, 52, 53, 54] [A_slices_Insert_api_FieldValue_api_FieldValue_10]) (.seq (.ops A_slices_Insert_api_FieldValue_api_FieldValue_11) .ret)))) .skip)) (.seq (.ops A_slices_Insert_api_FieldValue_api_FieldValue_12) (.seq (.seq (.ops A_slices_Insert_api_FieldValue_api_FieldValue_13) (.cond (.t 68) (.seq (.alts [69, 70, 71, 72, 73, 74, 75, 76, 77] [A_slices_Insert_api_FieldValue_api_FieldValue_14]) (.seq (.ops A_slices_Insert_api_FieldValue_api_FieldValue_15) (.seq (.ops A_slices_Insert_api_FieldValue_api_FieldValue_16) .ret))) .skip)) (.seq (.ops A_slices_Insert_api_FieldValue_api_FieldValue_17) (.seq (.ops A_slices_Insert_api_FieldValue_api_FieldValue_18) (.seq (.ops A_slices_Insert_api_FieldValue_api_FieldValue_19) .ret))))))))))))
def R_slices_Insert_api_FieldValue_api_FieldValue : List ARes := [.tmp 6]
theorem C_slices_Insert_api_FieldValue_api_FieldValue : compF Tryz.prog Tryz.f28 = some (A_slices_Insert_api_FieldValue_api_FieldValue, R_slices_Insert_api_FieldValue_api_FieldValue) := by kernel_rfl
def T_slices_Insert_api_FieldValue_api_FieldValue : FC := ⟨95, A_slices_Insert_api_FieldValue_api_FieldValue, R_slices_Insert_api_FieldValue_api_FieldValue⟩
theorem G_slices_Insert_api_FieldValue_api_FieldValue : GoodFC Tryz.prog F_slices_Insert_api_FieldValue_api_FieldValue T_slices_Insert_api_FieldValue_api_FieldValue := ⟨Tryz.f28, Tryz.func28, Tryz.ntmps28, C_slices_Insert_api_FieldValue_api_FieldValue, by kernel_rfl⟩

-- lexicon/dyn.copied
abbrev F_dyn_copied : Nat := 29
def A_dyn_copied_0 : List AOper := [⟨some 1, .box 50 3 (.t 0), none⟩,
    ⟨some 2, .box 50 3 (.c (.agg [.int .i32 (0), .nils, .nils])), none⟩]
def A_dyn_copied_1 : List AOper := [⟨some 3, .faddr 0 (.t 1), none⟩,
    ⟨some 4, .ld1 (.t 3), none⟩,
    ⟨some 5, .faddr 1 (.t 1), none⟩,
    ⟨some 6, .ld1 (.t 5), none⟩,
    ⟨some 8, .faddr 2 (.t 1), none⟩,
    ⟨some 9, .ld1 (.t 8), none⟩,
    ⟨some 7, .acall 57 [(.t 6)], none⟩,
    ⟨some 10, .acall 57 [(.t 9)], none⟩,
    ⟨some 11, .build [.int .i32 (0), .nils, .nils] [(0, 1, (.t 4)), (1, 1, (.t 7)), (2, 1, (.t 10))], none⟩,
    ⟨none, .st 3 (.t 2) (.t 11), none⟩]
def A_dyn_copied_2 : List AOper := [⟨some 3, .faddr 0 (.t 1), none⟩,
    ⟨some 4, .ld1 (.t 3), none⟩,
    ⟨some 5, .faddr 1 (.t 1), none⟩,
    ⟨some 6, .ld1 (.t 5), none⟩,
    ⟨some 7, .pcall 57 [(.t 6)], none⟩,
    ⟨some 8, .faddr 2 (.t 1), none⟩,
    ⟨some 9, .ld1 (.t 8), none⟩,
    ⟨some 10, .pcall 57 [(.t 9)], none⟩,
    ⟨some 11, .build [.int .i32 (0), .nils, .nils] [(0, 1, (.t 4)), (1, 1, (.t 7)), (2, 1, (.t 10))], none⟩,
    ⟨none, .st 3 (.t 2) (.t 11), none⟩]
def A_dyn_copied_3 : List AOper := [⟨some 3, .faddr 0 (.t 1), none⟩,
    ⟨some 5, .faddr 1 (.t 1), none⟩,
    ⟨some 6, .ld1 (.t 5), none⟩,
    ⟨some 8, .faddr 2 (.t 1), none⟩,
    ⟨some 4, .ld1 (.t 3), none⟩,
    ⟨some 7, .call 57 [(.t 6)], none⟩,
    ⟨some 9, .ld1 (.t 8), none⟩,
    ⟨some 10, .call 57 [(.t 9)], none⟩,
    ⟨some 11, .build [.int .i32 (0), .nils, .nils] [(0, 1, (.t 4)), (1, 1, (.t 7)), (2, 1, (.t 10))], none⟩,
    ⟨none, .st 3 (.t 2) (.t 11), none⟩]
def A_dyn_copied_4 : List AOper := [⟨some 3, .faddr 0 (.t 1), none⟩,
    ⟨some 5, .faddr 1 (.t 1), none⟩,
    ⟨some 6, .ld1 (.t 5), none⟩,
    ⟨some 8, .faddr 2 (.t 1), none⟩,
    ⟨some 4, .ld1 (.t 3), none⟩,
    ⟨some 9, .ld1 (.t 8), none⟩,
    ⟨some 7, .call 57 [(.t 6)], none⟩,
    ⟨some 10, .call 57 [(.t 9)], none⟩,
    ⟨some 11, .build [.int .i32 (0), .nils, .nils] [(0, 1, (.t 4)), (1, 1, (.t 7)), (2, 1, (.t 10))], none⟩,
    ⟨none, .st 3 (.t 2) (.t 11), none⟩]
def A_dyn_copied_5 : List AOper := [⟨some 3, .faddr 0 (.t 1), none⟩,
    ⟨some 5, .faddr 1 (.t 1), none⟩,
    ⟨some 6, .ld1 (.t 5), none⟩,
    ⟨some 8, .faddr 2 (.t 1), none⟩,
    ⟨some 7, .call 57 [(.t 6)], none⟩,
    ⟨some 9, .ld1 (.t 8), none⟩,
    ⟨some 4, .ld1 (.t 3), none⟩,
    ⟨some 10, .call 57 [(.t 9)], none⟩,
    ⟨some 11, .build [.int .i32 (0), .nils, .nils] [(0, 1, (.t 4)), (1, 1, (.t 7)), (2, 1, (.t 10))], none⟩,
    ⟨none, .st 3 (.t 2) (.t 11), none⟩]
def A_dyn_copied_6 : List AOper := [⟨some 3, .faddr 0 (.t 1), none⟩,
    ⟨some 5, .faddr 1 (.t 1), none⟩,
    ⟨some 6, .ld1 (.t 5), none⟩,
    ⟨some 8, .faddr 2 (.t 1), none⟩,
    ⟨some 7, .call 57 [(.t 6)], none⟩,
    ⟨some 9, .ld1 (.t 8), none⟩,
    ⟨some 10, .call 57 [(.t 9)], none⟩,
    ⟨some 4, .ld1 (.t 3), none⟩,
    ⟨some 11, .build [.int .i32 (0), .nils, .nils] [(0, 1, (.t 4)), (1, 1, (.t 7)), (2, 1, (.t 10))], none⟩,
    ⟨none, .st 3 (.t 2) (.t 11), none⟩]
def A_dyn_copied_7 : List AOper := [⟨some 3, .faddr 0 (.t 1), none⟩,
    ⟨some 5, .faddr 1 (.t 1), none⟩,
    ⟨some 6, .ld1 (.t 5), none⟩,
    ⟨some 8, .faddr 2 (.t 1), none⟩,
    ⟨some 9, .ld1 (.t 8), none⟩,
    ⟨some 4, .ld1 (.t 3), none⟩,
    ⟨some 7, .call 57 [(.t 6)], none⟩,
    ⟨some 10, .call 57 [(.t 9)], none⟩,
    ⟨some 11, .build [.int .i32 (0), .nils, .nils] [(0, 1, (.t 4)), (1, 1, (.t 7)), (2, 1, (.t 10))], none⟩,
    ⟨none, .st 3 (.t 2) (.t 11), none⟩]
def A_dyn_copied_8 : List AOper := [⟨some 3, .faddr 0 (.t 1), none⟩,
    ⟨some 5, .faddr 1 (.t 1), none⟩,
    ⟨some 6, .ld1 (.t 5), none⟩,
    ⟨some 8, .faddr 2 (.t 1), none⟩,
    ⟨some 9, .ld1 (.t 8), none⟩,
    ⟨some 7, .call 57 [(.t 6)], none⟩,
    ⟨some 4, .ld1 (.t 3), none⟩,
    ⟨some 10, .call 57 [(.t 9)], none⟩,
    ⟨some 11, .build [.int .i32 (0), .nils, .nils] [(0, 1, (.t 4)), (1, 1, (.t 7)), (2, 1, (.t 10))], none⟩,
    ⟨none, .st 3 (.t 2) (.t 11), none⟩]
def A_dyn_copied_9 : List AOper := [⟨some 3, .faddr 0 (.t 1), none⟩,
    ⟨some 5, .faddr 1 (.t 1), none⟩,
    ⟨some 6, .ld1 (.t 5), none⟩,
    ⟨some 8, .faddr 2 (.t 1), none⟩,
    ⟨some 9, .ld1 (.t 8), none⟩,
    ⟨some 7, .call 57 [(.t 6)], none⟩,
    ⟨some 10, .call 57 [(.t 9)], none⟩,
    ⟨some 4, .ld1 (.t 3), none⟩,
    ⟨some 11, .build [.int .i32 (0), .nils, .nils] [(0, 1, (.t 4)), (1, 1, (.t 7)), (2, 1, (.t 10))], none⟩,
    ⟨none, .st 3 (.t 2) (.t 11), none⟩]
def A_dyn_copied : ACode := (.seq (.ops A_dyn_copied_0) (.seq (.orr (.alts [3, 4, 5, 6, 7, 8, 9, 10, 11] [A_dyn_copied_1]) (.orr (.alts [3, 4, 5, 6, 7, 8, 9, 10, 11] [A_dyn_copied_2]) (.alts [3, 4, 5, 6, 7, 8, 9, 10, 11] [A_dyn_copied_3, A_dyn_copied_4, A_dyn_copied_5, A_dyn_copied_6, A_dyn_copied_7, A_dyn_copied_8, A_dyn_copied_9]))) .ret))
def R_dyn_copied : List ARes := [.cella 2 3]
theorem C_dyn_copied : compF Tryz.prog Tryz.f29 = some (A_dyn_copied, R_dyn_copied) := by kernel_rfl
def T_dyn_copied : FC := ⟨12, A_dyn_copied, R_dyn_copied⟩
theorem G_dyn_copied : GoodFC Tryz.prog F_dyn_copied T_dyn_copied := ⟨Tryz.f29, Tryz.func29, Tryz.ntmps29, C_dyn_copied, by kernel_rfl⟩

-- lexicon/dyn.there
abbrev F_dyn_there : Nat := 30
def A_dyn_there_0 : List AOper := [⟨some 2, .box 93 9 (.t 0), none⟩,
    ⟨some 3, .box 40 3 (.t 1), none⟩,
    ⟨some 4, .box 50 3 (.c (.agg [.int .i32 (0), .nils, .nils])), none⟩,
    ⟨some 5, .mov (.c (.bool false)), none⟩]
def A_dyn_there_1 : List AOper := [⟨some 8, .faddr 1 (.t 3), none⟩,
    ⟨some 9, .ld1 (.t 8), none⟩,
    ⟨some 10, .lenl (.t 9), none⟩,
    ⟨some 11, .mov (.c (.int .i64 (0))), none⟩]
def A_dyn_there_2 : List AOper := [⟨some 13, .iaddr 50 3 (.t 9) (.t 11), none⟩,
    ⟨some 14, .lda 3 (.t 13), none⟩,
    ⟨some 7, .box 50 3 (.c (.agg [.int .i32 (0), .nils, .nils])), none⟩,
    ⟨none, .st 3 (.t 7) (.t 14), none⟩]
def A_dyn_there_3 : List AOper := [⟨some 15, .faddr 0 (.t 7), none⟩,
    ⟨some 16, .ld1 (.t 15), none⟩,
    ⟨some 17, .faddr 0 (.t 2), none⟩,
    ⟨some 18, .ld1 (.t 17), none⟩,
    ⟨some 19, .bini .eql (.t 16) (.t 18), none⟩,
    ⟨some 20, .mov (.t 19), none⟩,
    ⟨some 21, .faddr 2 (.t 7), some (20, true)⟩,
    ⟨some 22, .ld1 (.t 21), some (20, true)⟩,
    ⟨some 23, .lenl (.t 22), some (20, true)⟩,
    ⟨some 24, .bini .gtr (.t 23) (.c (.int .i64 (0))), some (20, true)⟩,
    ⟨some 25, .pick (.t 20) (.t 24) (.c (.bool false)), none⟩]
def A_dyn_there_4 : List AOper := [⟨some 26, .lda 3 (.t 7), none⟩,
    ⟨some 27, .lda 9 (.t 2), none⟩,
    ⟨some 28, .acall 58 [(.t 27)], none⟩,
    ⟨some 29, .not (.t 28), none⟩,
    ⟨some 30, .mov (.t 29), none⟩,
    ⟨some 31, .faddr 2 (.t 7), some (30, false)⟩,
    ⟨some 32, .ld1 (.t 31), some (30, false)⟩,
    ⟨some 33, .iaddr 47 3 (.t 32) (.c (.int .i64 (0))), some (30, false)⟩,
    ⟨some 34, .lda 3 (.t 33), some (30, false)⟩,
    ⟨some 35, .acall 59 [(.t 34)], some (30, false)⟩,
    ⟨some 36, .not (.t 35), some (30, false)⟩,
    ⟨some 37, .pick (.t 30) (.c (.bool true)) (.t 36), none⟩,
    ⟨none, .st 3 (.t 4) (.t 26), none⟩,
    ⟨some 5, .mov (.t 37), none⟩]
def A_dyn_there_5 : List AOper := [⟨some 26, .lda 3 (.t 7), none⟩,
    ⟨some 27, .lda 9 (.t 2), none⟩,
    ⟨some 28, .pcall 58 [(.t 27)], none⟩,
    ⟨some 29, .not (.t 28), none⟩,
    ⟨some 30, .mov (.t 29), none⟩,
    ⟨some 31, .faddr 2 (.t 7), some (30, false)⟩,
    ⟨some 32, .ld1 (.t 31), some (30, false)⟩,
    ⟨some 33, .iaddr 47 3 (.t 32) (.c (.int .i64 (0))), some (30, false)⟩,
    ⟨some 34, .lda 3 (.t 33), some (30, false)⟩,
    ⟨some 35, .pcall 59 [(.t 34)], some (30, false)⟩,
    ⟨some 36, .not (.t 35), some (30, false)⟩,
    ⟨some 37, .pick (.t 30) (.c (.bool true)) (.t 36), none⟩,
    ⟨none, .st 3 (.t 4) (.t 26), none⟩,
    ⟨some 5, .mov (.t 37), none⟩]
def A_dyn_there_6 : List AOper := [⟨some 27, .lda 9 (.t 2), none⟩,
    ⟨some 26, .lda 3 (.t 7), none⟩,
    ⟨some 28, .call 58 [(.t 27)], none⟩,
    ⟨some 29, .not (.t 28), none⟩,
    ⟨some 30, .mov (.t 29), none⟩,
    ⟨some 31, .faddr 2 (.t 7), some (30, false)⟩,
    ⟨some 32, .ld1 (.t 31), some (30, false)⟩,
    ⟨some 33, .iaddr 47 3 (.t 32) (.c (.int .i64 (0))), some (30, false)⟩,
    ⟨some 34, .lda 3 (.t 33), some (30, false)⟩,
    ⟨some 35, .call 59 [(.t 34)], some (30, false)⟩,
    ⟨some 36, .not (.t 35), some (30, false)⟩,
    ⟨some 37, .pick (.t 30) (.c (.bool true)) (.t 36), none⟩,
    ⟨none, .st 3 (.t 4) (.t 26), none⟩,
    ⟨some 5, .mov (.t 37), none⟩]
def A_dyn_there_7 : List AOper := [⟨some 27, .lda 9 (.t 2), none⟩,
    ⟨some 28, .call 58 [(.t 27)], none⟩,
    ⟨some 29, .not (.t 28), none⟩,
    ⟨some 30, .mov (.t 29), none⟩,
    ⟨some 31, .faddr 2 (.t 7), some (30, false)⟩,
    ⟨some 32, .ld1 (.t 31), some (30, false)⟩,
    ⟨some 33, .iaddr 47 3 (.t 32) (.c (.int .i64 (0))), some (30, false)⟩,
    ⟨some 34, .lda 3 (.t 33), some (30, false)⟩,
    ⟨some 26, .lda 3 (.t 7), none⟩,
    ⟨some 35, .call 59 [(.t 34)], some (30, false)⟩,
    ⟨some 36, .not (.t 35), some (30, false)⟩,
    ⟨some 37, .pick (.t 30) (.c (.bool true)) (.t 36), none⟩,
    ⟨none, .st 3 (.t 4) (.t 26), none⟩,
    ⟨some 5, .mov (.t 37), none⟩]
def A_dyn_there_8 : List AOper := [⟨some 27, .lda 9 (.t 2), none⟩,
    ⟨some 28, .call 58 [(.t 27)], none⟩,
    ⟨some 29, .not (.t 28), none⟩,
    ⟨some 30, .mov (.t 29), none⟩,
    ⟨some 31, .faddr 2 (.t 7), some (30, false)⟩,
    ⟨some 32, .ld1 (.t 31), some (30, false)⟩,
    ⟨some 33, .iaddr 47 3 (.t 32) (.c (.int .i64 (0))), some (30, false)⟩,
    ⟨some 34, .lda 3 (.t 33), some (30, false)⟩,
    ⟨some 35, .call 59 [(.t 34)], some (30, false)⟩,
    ⟨some 26, .lda 3 (.t 7), none⟩,
    ⟨some 36, .not (.t 35), some (30, false)⟩,
    ⟨some 37, .pick (.t 30) (.c (.bool true)) (.t 36), none⟩,
    ⟨none, .st 3 (.t 4) (.t 26), none⟩,
    ⟨some 5, .mov (.t 37), none⟩]
def A_dyn_there_9 : List AOper := [⟨some 38, .bini .add (.t 11) (.c (.int .i64 (1))), none⟩,
    ⟨some 11, .mov (.t 38), none⟩]
def A_dyn_there_10 : ACode := (.seq (.ops [⟨some 12, .bini .lss (.t 11) (.t 10), none⟩]) (.seq (.cond (.t 12) .skip (.exit 0)) (.seq (.block 1 (.seq (.ops A_dyn_there_2) (.seq (.ops A_dyn_there_3) (.cond (.t 25) (.seq (.orr (.alts [26, 27, 28, 29, 30, 31, 32, 33, 34, 35, 36, 37, 5] [A_dyn_there_4]) (.orr (.alts [26, 27, 28, 29, 30, 31, 32, 33, 34, 35, 36, 37, 5] [A_dyn_there_5]) (.alts [26, 27, 28, 29, 30, 31, 32, 33, 34, 35, 36, 37, 5] [A_dyn_there_6, A_dyn_there_7, A_dyn_there_8]))) .ret) .skip)))) (.ops A_dyn_there_9))))
def A_dyn_there_11 : List AOper := [⟨some 39, .build [.int .i32 (0), .nils, .nils] [], none⟩,
    ⟨none, .st 3 (.t 4) (.t 39), none⟩,
    ⟨some 5, .mov (.c (.bool false)), none⟩]
def A_dyn_there : ACode := (.seq (.ops A_dyn_there_0) (.seq (.seq (.ops A_dyn_there_1) (.block 0 (.loop A_dyn_there_10))) (.seq (.ops A_dyn_there_11) .ret)))
def R_dyn_there : List ARes := [.cella 4 3, .tmp 5]
theorem C_dyn_there : compF Tryz.prog Tryz.f30 = some (A_dyn_there, R_dyn_there) := by kernel_rfl
def T_dyn_there : FC := ⟨40, A_dyn_there, R_dyn_there⟩
theorem G_dyn_there : GoodFC Tryz.prog F_dyn_there T_dyn_there := ⟨Tryz.f30, Tryz.func30, Tryz.ntmps30, C_dyn_there, by kernel_rfl⟩

-- lexicon/dyn.Clear$1
abbrev F_dyn_Clear_c1 : Nat := 31
def A_dyn_Clear_c1_0 : List AOper := [⟨some 4, .mov (.t 0), none⟩,
    ⟨some 5, .ld1 (.t 1), none⟩,
    ⟨some 6, .bini .eql (.t 4) (.t 5), none⟩,
    ⟨some 3, .mov (.t 6), none⟩]
def A_dyn_Clear_c1 : ACode := (.seq (.ops [⟨some 3, .mov (.c (.bool false)), none⟩]) (.seq (.ops A_dyn_Clear_c1_0) .ret))
def R_dyn_Clear_c1 : List ARes := [.tmp 3]
theorem C_dyn_Clear_c1 : compF Tryz.prog Tryz.f31 = some (A_dyn_Clear_c1, R_dyn_Clear_c1) := by kernel_rfl
def T_dyn_Clear_c1 : FC := ⟨7, A_dyn_Clear_c1, R_dyn_Clear_c1⟩
theorem G_dyn_Clear_c1 : GoodFC Tryz.prog F_dyn_Clear_c1 T_dyn_Clear_c1 := ⟨Tryz.f31, Tryz.func31, Tryz.ntmps31, C_dyn_Clear_c1, by kernel_rfl⟩

-- lexicon/link.cloneFile
abbrev F_link_cloneFile : Nat := 32
def A_link_cloneFile_0 : List AOper := [⟨some 1, .box 33 5 (.t 0), none⟩,
    ⟨some 2, .box 33 5 (.c (.agg [.str [], .str [], .nils, .nils, .nils])), none⟩]
def A_link_cloneFile_1 : List AOper := [⟨some 3, .faddr 2 (.t 1), none⟩,
    ⟨some 4, .ld1 (.t 3), none⟩,
    ⟨some 5, .call 60 [(.t 4)], none⟩,
    ⟨some 6, .faddr 2 (.t 1), none⟩,
    ⟨none, .st 1 (.t 6) (.t 5), none⟩]
def A_link_cloneFile_2 : List AOper := [⟨some 8, .faddr 3 (.t 1), none⟩,
    ⟨some 9, .ld1 (.t 8), none⟩,
    ⟨some 10, .faddr 4 (.t 1), none⟩,
    ⟨some 11, .ld1 (.t 10), none⟩,
    ⟨some 12, .call 61 [(.t 9), (.t 11)], none⟩,
    ⟨some 7, .mov (.t 12), none⟩,
    ⟨some 13, .ext 0 (.t 7), none⟩,
    ⟨some 14, .ext 1 (.t 7), none⟩,
    ⟨some 15, .faddr 3 (.t 1), none⟩,
    ⟨none, .st 1 (.t 15) (.t 13), none⟩,
    ⟨some 16, .faddr 4 (.t 1), none⟩,
    ⟨none, .st 1 (.t 16) (.t 14), none⟩]
def A_link_cloneFile_3 : List AOper := [⟨some 17, .lda 5 (.t 1), none⟩,
    ⟨none, .st 5 (.t 2) (.t 17), none⟩]
def A_link_cloneFile : ACode := (.seq (.ops A_link_cloneFile_0) (.seq (.ops A_link_cloneFile_1) (.seq (.ops A_link_cloneFile_2) (.seq (.ops A_link_cloneFile_3) .ret))))
def R_link_cloneFile : List ARes := [.cella 2 5]
theorem C_link_cloneFile : compF Tryz.prog Tryz.f32 = some (A_link_cloneFile, R_link_cloneFile) := by kernel_rfl
def T_link_cloneFile : FC := ⟨18, A_link_cloneFile, R_link_cloneFile⟩
theorem G_link_cloneFile : GoodFC Tryz.prog F_link_cloneFile T_link_cloneFile := ⟨Tryz.f32, Tryz.func32, Tryz.ntmps32, C_link_cloneFile, by kernel_rfl⟩

-- (*lexicon/link.Linked).paths
abbrev F_link_Linked_paths : Nat := 34
def A_link_Linked_paths_0 : List AOper := [⟨some 3, .mov (.t 0), none⟩,
    ⟨some 4, .nilc (.t 3), none⟩,
    ⟨some 5, .faddr 0 (.t 4), none⟩,
    ⟨some 6, .ld1 (.t 5), none⟩,
    ⟨some 7, .call 63 [(.t 6)], none⟩,
    ⟨some 8, .call 62 [(.t 7)], none⟩,
    ⟨some 2, .mov (.t 8), none⟩]
def A_link_Linked_paths : ACode := (.seq (.ops [⟨some 2, .mov (.c (.nils)), none⟩]) (.seq (.ops A_link_Linked_paths_0) .ret))
def R_link_Linked_paths : List ARes := [.tmp 2]
theorem C_link_Linked_paths : compF Tryz.prog Tryz.f34 = some (A_link_Linked_paths, R_link_Linked_paths) := by kernel_rfl
def T_link_Linked_paths : FC := ⟨9, A_link_Linked_paths, R_link_Linked_paths⟩
theorem G_link_Linked_paths : GoodFC Tryz.prog F_link_Linked_paths T_link_Linked_paths := ⟨Tryz.f34, Tryz.func34, Tryz.ntmps34, C_link_Linked_paths, by kernel_rfl⟩

-- lexicon/check.Check
abbrev F_check_Check : Nat := 35
def A_check_Check_0 : List AOper := [⟨some 1, .box 33 5 (.t 0), none⟩,
    ⟨some 2, .box 26 2 (.c (.agg [.int .i64 (0), .str []])), none⟩]
def A_check_Check_1 : List AOper := [⟨some 5, .mkmap, none⟩,
    ⟨some 6, .build [.nilm] [(0, 1, (.t 5))], none⟩,
    ⟨some 7, .box 169 1 (.t 6), none⟩,
    ⟨some 3, .mov (.t 7), none⟩]
def A_check_Check_2 : List AOper := [⟨some 8, .mov (.t 3), none⟩,
    ⟨some 9, .lda 5 (.t 1), none⟩,
    ⟨some 10, .call 65 [(.t 8), (.t 9)], none⟩]
def A_check_Check_3 : List AOper := [⟨some 11, .build [.int .i64 (0), .str []] [], none⟩,
    ⟨none, .st 2 (.t 2) (.t 11), none⟩]
def A_check_Check : ACode := (.seq (.ops A_check_Check_0) (.seq (.seq (.ops [⟨some 4, .mkfn 64 [] [(.t 2)], none⟩]) (.dfr (.t 4) [])) (.seq (.ops A_check_Check_1) (.seq (.ops A_check_Check_2) (.seq (.ops A_check_Check_3) .ret)))))
def R_check_Check : List ARes := [.cella 2 2]
theorem C_check_Check : compF Tryz.prog Tryz.f35 = some (A_check_Check, R_check_Check) := by kernel_rfl
def T_check_Check : FC := ⟨12, A_check_Check, R_check_Check⟩
theorem G_check_Check : GoodFC Tryz.prog F_check_Check T_check_Check := ⟨Tryz.f35, Tryz.func35, Tryz.ntmps35, C_check_Check, by kernel_rfl⟩

-- (*lexicon/link.Linked).rings$1
abbrev F_link_Linked_rings_c1 : Nat := 36
def A_link_Linked_rings_c1_0 : List AOper := [⟨some 8, .ld1 (.t 1), none⟩,
    ⟨some 9, .nilc (.t 8), none⟩,
    ⟨some 10, .faddr 0 (.t 9), none⟩,
    ⟨some 11, .ld1 (.t 10), none⟩,
    ⟨some 12, .mov (.t 0), none⟩,
    ⟨some 13, .mlook .s (.nilp) false (.t 11) (.t 12), none⟩,
    ⟨some 14, .nilc (.t 13), none⟩,
    ⟨some 15, .faddr 0 (.t 14), none⟩,
    ⟨some 16, .faddr 2 (.t 15), none⟩,
    ⟨some 17, .ld1 (.t 16), none⟩,
    ⟨some 18, .lenl (.t 17), none⟩,
    ⟨some 19, .mov (.c (.int .i64 (0))), none⟩]
def A_link_Linked_rings_c1_1 : List AOper := [⟨some 21, .iaddr 126 2 (.t 17) (.t 19), none⟩,
    ⟨some 22, .lda 2 (.t 21), none⟩,
    ⟨some 7, .box 126 2 (.c (.agg [.str [], .bool false])), none⟩,
    ⟨none, .st 2 (.t 7) (.t 22), none⟩]
def A_link_Linked_rings_c1_2 : List AOper := [⟨some 23, .faddr 0 (.t 7), none⟩,
    ⟨some 24, .ld1 (.t 23), none⟩,
    ⟨some 25, .ld1 (.t 2), none⟩,
    ⟨some 26, .bins .eql (.t 24) (.t 25), none⟩]
def A_link_Linked_rings_c1_3 : List AOper := [⟨some 27, .ld1 (.t 2), none⟩,
    ⟨some 28, .call 13 [(.c (.int .i64 (82))), (.t 27)], none⟩]
def A_link_Linked_rings_c1_4 : List AOper := [⟨some 29, .ld1 (.t 3), none⟩,
    ⟨some 30, .faddr 0 (.t 7), none⟩,
    ⟨some 31, .ld1 (.t 30), none⟩,
    ⟨some 32, .mlook .s (.bool false) false (.t 29) (.t 31), none⟩,
    ⟨some 33, .not (.t 32), none⟩]
def A_link_Linked_rings_c1_5 : List AOper := [⟨some 34, .ld1 (.t 3), none⟩,
    ⟨some 35, .faddr 0 (.t 7), none⟩,
    ⟨some 36, .ld1 (.t 35), none⟩,
    ⟨none, .mupd .s (.t 34) (.t 36) (.c (.bool true)), none⟩]
def A_link_Linked_rings_c1_6 : List AOper := [⟨some 37, .ld1 (.t 4), none⟩,
    ⟨some 38, .faddr 0 (.t 7), none⟩,
    ⟨some 39, .ld1 (.t 38), none⟩,
    ⟨some 40, .callv (.t 37) [(.t 39)], none⟩]
def A_link_Linked_rings_c1_7 : List AOper := [⟨some 41, .bini .add (.t 19) (.c (.int .i64 (1))), none⟩,
    ⟨some 19, .mov (.t 41), none⟩]
def A_link_Linked_rings_c1_8 : ACode := (.seq (.ops [⟨some 20, .bini .lss (.t 19) (.t 18), none⟩]) (.seq (.cond (.t 20) .skip (.exit 0)) (.seq (.block 1 (.seq (.ops A_link_Linked_rings_c1_1) (.seq (.seq (.ops A_link_Linked_rings_c1_2) (.cond (.t 26) (.ops A_link_Linked_rings_c1_3) .skip)) (.seq (.ops A_link_Linked_rings_c1_4) (.cond (.t 33) (.seq (.ops A_link_Linked_rings_c1_5) (.ops A_link_Linked_rings_c1_6)) .skip))))) (.ops A_link_Linked_rings_c1_7))))
def A_link_Linked_rings_c1 : ACode := (.seq (.ops A_link_Linked_rings_c1_0) (.block 0 (.loop A_link_Linked_rings_c1_8)))
def R_link_Linked_rings_c1 : List ARes := []
theorem C_link_Linked_rings_c1 : compF Tryz.prog Tryz.f36 = some (A_link_Linked_rings_c1, R_link_Linked_rings_c1) := by kernel_rfl
def T_link_Linked_rings_c1 : FC := ⟨42, A_link_Linked_rings_c1, R_link_Linked_rings_c1⟩
theorem G_link_Linked_rings_c1 : GoodFC Tryz.prog F_link_Linked_rings_c1 T_link_Linked_rings_c1 := ⟨Tryz.f36, Tryz.func36, Tryz.ntmps36, C_link_Linked_rings_c1, by kernel_rfl⟩

-- (*lexicon/link.Linked).look
abbrev F_link_Linked_look : Nat := 37
def A_link_Linked_look_0 : List AOper := [⟨some 10, .mov (.t 1), none⟩,
    ⟨some 11, .mov (.t 2), none⟩,
    ⟨some 12, .mlook .s (.bool false) false (.t 10) (.t 11), none⟩,
    ⟨some 13, .mov (.t 12), none⟩,
    ⟨some 14, .mov (.t 3), some (13, true)⟩,
    ⟨some 15, .not (.t 14), some (13, true)⟩,
    ⟨some 16, .pick (.t 13) (.t 15) (.c (.bool false)), none⟩]
def A_link_Linked_look_1 : List AOper := [⟨some 17, .mov (.t 1), none⟩,
    ⟨some 18, .mov (.t 2), none⟩,
    ⟨none, .mupd .s (.t 17) (.t 18) (.c (.bool true)), none⟩]
def A_link_Linked_look_2 : List AOper := [⟨some 19, .mov (.t 0), none⟩,
    ⟨some 20, .nilc (.t 19), none⟩,
    ⟨some 21, .faddr 0 (.t 20), none⟩,
    ⟨some 22, .ld1 (.t 21), none⟩,
    ⟨some 23, .mov (.t 2), none⟩,
    ⟨some 24, .mlook .s (.nilp) false (.t 22) (.t 23), none⟩,
    ⟨some 25, .nilc (.t 24), none⟩,
    ⟨some 26, .faddr 0 (.t 25), none⟩,
    ⟨some 27, .faddr 2 (.t 26), none⟩,
    ⟨some 28, .ld1 (.t 27), none⟩,
    ⟨some 29, .lenl (.t 28), none⟩,
    ⟨some 30, .mov (.c (.int .i64 (0))), none⟩]
def A_link_Linked_look_3 : List AOper := [⟨some 32, .iaddr 126 2 (.t 28) (.t 30), none⟩,
    ⟨some 33, .lda 2 (.t 32), none⟩,
    ⟨some 9, .box 126 2 (.c (.agg [.str [], .bool false])), none⟩,
    ⟨none, .st 2 (.t 9) (.t 33), none⟩]
def A_link_Linked_look_4 : List AOper := [⟨some 34, .mov (.t 3), none⟩,
    ⟨some 35, .mov (.t 34), none⟩,
    ⟨some 36, .faddr 1 (.t 9), some (35, false)⟩,
    ⟨some 37, .ld1 (.t 36), some (35, false)⟩,
    ⟨some 38, .pick (.t 35) (.c (.bool true)) (.t 37), none⟩]
def A_link_Linked_look_5 : List AOper := [⟨some 39, .mov (.t 0), none⟩,
    ⟨some 40, .mov (.t 1), none⟩,
    ⟨some 41, .faddr 0 (.t 9), none⟩,
    ⟨some 42, .ld1 (.t 41), none⟩,
    ⟨some 43, .call 37 [(.t 39), (.t 40), (.t 42), (.c (.bool false))], none⟩]
def A_link_Linked_look_6 : List AOper := [⟨some 44, .bini .add (.t 30) (.c (.int .i64 (1))), none⟩,
    ⟨some 30, .mov (.t 44), none⟩]
def A_link_Linked_look_7 : ACode := (.seq (.ops [⟨some 31, .bini .lss (.t 30) (.t 29), none⟩]) (.seq (.cond (.t 31) .skip (.exit 0)) (.seq (.block 1 (.seq (.ops A_link_Linked_look_3) (.seq (.ops A_link_Linked_look_4) (.cond (.t 38) (.ops A_link_Linked_look_5) .skip)))) (.ops A_link_Linked_look_6))))
def A_link_Linked_look : ACode := (.seq (.seq (.ops A_link_Linked_look_0) (.cond (.t 16) .ret .skip)) (.seq (.ops A_link_Linked_look_1) (.seq (.ops A_link_Linked_look_2) (.block 0 (.loop A_link_Linked_look_7)))))
def R_link_Linked_look : List ARes := []
theorem C_link_Linked_look : compF Tryz.prog Tryz.f37 = some (A_link_Linked_look, R_link_Linked_look) := by kernel_rfl
def T_link_Linked_look : FC := ⟨45, A_link_Linked_look, R_link_Linked_look⟩
theorem G_link_Linked_look : GoodFC Tryz.prog F_link_Linked_look T_link_Linked_look := ⟨Tryz.f37, Tryz.func37, Tryz.ntmps37, C_link_Linked_look, by kernel_rfl⟩

-- lexicon/link.packages
abbrev F_link_packages : Nat := 38
def A_link_packages_0 : List AOper := [⟨some 5, .mov (.t 0), none⟩,
    ⟨some 6, .call 66 [(.t 5)], none⟩]
def A_link_packages_1 : List AOper := [⟨some 8, .mov (.t 4), none⟩,
    ⟨some 9, .bins .neq (.t 8) (.c (.str [])), none⟩]
def A_link_packages_2 : List AOper := [⟨some 10, .ld1 (.t 3), none⟩,
    ⟨some 11, .mov (.t 4), none⟩,
    ⟨some 12, .bslice 9 1 1 [.str []] [(0, 1, (.t 11))], none⟩,
    ⟨some 13, .app 9 1 16 (.t 10) (.t 12), none⟩,
    ⟨none, .st 1 (.t 3) (.t 13), none⟩]
def A_link_packages_3 : List AOper := [⟨some 14, .ld1 (.t 3), none⟩,
    ⟨some 2, .mov (.t 14), none⟩]
def A_link_packages : ACode := (.seq (.ops [⟨some 2, .mov (.c (.nils)), none⟩]) (.seq (.ops [⟨some 3, .box 64 1 (.c (.nils)), none⟩]) (.seq (.seq (.ops A_link_packages_0) (.block 0 (.rngf (.t 6) [7] (.ops [⟨some 4, .mov (.t 7), none⟩]) (.block 1 (.seq (.ops A_link_packages_1) (.cond (.t 9) (.ops A_link_packages_2) .skip)))))) (.seq (.ops A_link_packages_3) .ret))))
def R_link_packages : List ARes := [.tmp 2]
theorem C_link_packages : compF Tryz.prog Tryz.f38 = some (A_link_packages, R_link_packages) := by kernel_rfl
def T_link_packages : FC := ⟨15, A_link_packages, R_link_packages⟩
theorem G_link_packages : GoodFC Tryz.prog F_link_packages T_link_packages := ⟨Tryz.f38, Tryz.func38, Tryz.ntmps38, C_link_packages, by kernel_rfl⟩

-- lexicon/check.Symbols
abbrev F_check_Symbols : Nat := 39
def A_check_Symbols_0 : List AOper := [⟨some 1, .box 33 5 (.t 0), none⟩,
    ⟨some 2, .mov (.c (.nils)), none⟩]
def A_check_Symbols_1 : List AOper := [⟨some 11, .mkfn 67 [] [(.t 3), (.t 1)], none⟩,
    ⟨some 4, .box 173 1 (.c (.nilf)), none⟩,
    ⟨none, .st 1 (.t 4) (.t 11), none⟩]
def A_check_Symbols_2 : List AOper := [⟨some 12, .mkfn 69 [] [(.t 4)], none⟩,
    ⟨some 5, .box 179 1 (.c (.nilf)), none⟩,
    ⟨none, .st 1 (.t 5) (.t 12), none⟩]
def A_check_Symbols_3 : List AOper := [⟨some 13, .mkfn 70 [] [(.t 4), (.t 6), (.t 5)], none⟩,
    ⟨none, .st 1 (.t 6) (.t 13), none⟩]
def A_check_Symbols_4 : List AOper := [⟨some 14, .faddr 3 (.t 1), none⟩,
    ⟨some 15, .ld1 (.t 14), none⟩,
    ⟨some 16, .lenl (.t 15), none⟩,
    ⟨some 17, .mov (.c (.int .i64 (0))), none⟩]
def A_check_Symbols_5 : List AOper := [⟨some 19, .iaddr 76 7 (.t 15) (.t 17), none⟩,
    ⟨some 20, .lda 7 (.t 19), none⟩,
    ⟨some 8, .box 76 7 (.c (.agg [.str [], .nils, .nils, .nils, .nils, .nils, .nils])), none⟩,
    ⟨none, .st 7 (.t 8) (.t 20), none⟩]
def A_check_Symbols_6 : List AOper := [⟨some 21, .ld1 (.t 6), none⟩,
    ⟨some 22, .lda 7 (.t 8), none⟩,
    ⟨some 23, .faddr 1 (.t 1), none⟩,
    ⟨some 24, .ld1 (.t 23), none⟩,
    ⟨some 25, .callv (.t 21) [(.t 22), (.t 24)], none⟩]
def A_check_Symbols_7 : List AOper := [⟨some 26, .bini .add (.t 17) (.c (.int .i64 (1))), none⟩,
    ⟨some 17, .mov (.t 26), none⟩]
def A_check_Symbols_8 : ACode := (.seq (.ops [⟨some 18, .bini .lss (.t 17) (.t 16), none⟩]) (.seq (.cond (.t 18) .skip (.exit 0)) (.seq (.block 1 (.seq (.ops A_check_Symbols_5) (.ops A_check_Symbols_6))) (.ops A_check_Symbols_7))))
def A_check_Symbols_9 : List AOper := [⟨some 27, .faddr 4 (.t 1), none⟩,
    ⟨some 28, .ld1 (.t 27), none⟩,
    ⟨some 29, .lenl (.t 28), none⟩,
    ⟨some 30, .mov (.c (.int .i64 (0))), none⟩]
def A_check_Symbols_10 : List AOper := [⟨some 32, .iaddr 176 5 (.t 28) (.t 30), none⟩,
    ⟨some 33, .lda 5 (.t 32), none⟩,
    ⟨some 10, .box 176 5 (.c (.agg [.str [], .nils, .bool false, .nils, .nils])), none⟩,
    ⟨none, .st 5 (.t 10) (.t 33), none⟩]
def A_check_Symbols_11 : List AOper := [⟨some 34, .ld1 (.t 5), none⟩,
    ⟨some 35, .lda 5 (.t 10), none⟩,
    ⟨some 36, .faddr 1 (.t 1), none⟩,
    ⟨some 37, .ld1 (.t 36), none⟩,
    ⟨some 38, .callv (.t 34) [(.t 35), (.t 37)], none⟩]
def A_check_Symbols_12 : List AOper := [⟨some 39, .bini .add (.t 30) (.c (.int .i64 (1))), none⟩,
    ⟨some 30, .mov (.t 39), none⟩]
def A_check_Symbols_13 : ACode := (.seq (.ops [⟨some 31, .bini .lss (.t 30) (.t 29), none⟩]) (.seq (.cond (.t 31) .skip (.exit 2)) (.seq (.block 3 (.seq (.ops A_check_Symbols_10) (.ops A_check_Symbols_11))) (.ops A_check_Symbols_12))))
def A_check_Symbols_14 : List AOper := [⟨some 40, .ld1 (.t 3), none⟩,
    ⟨some 41, .call 71 [(.t 40), (.f 72)], none⟩]
def A_check_Symbols_15 : List AOper := [⟨some 42, .ld1 (.t 3), none⟩,
    ⟨some 2, .mov (.t 42), none⟩]
def A_check_Symbols : ACode := (.seq (.ops A_check_Symbols_0) (.seq (.ops [⟨some 3, .box 130 1 (.c (.nils)), none⟩]) (.seq (.ops A_check_Symbols_1) (.seq (.ops A_check_Symbols_2) (.seq (.ops [⟨some 6, .box 180 1 (.c (.nilf)), none⟩]) (.seq (.ops A_check_Symbols_3) (.seq (.seq (.ops A_check_Symbols_4) (.block 0 (.loop A_check_Symbols_8))) (.seq (.seq (.ops A_check_Symbols_9) (.block 2 (.loop A_check_Symbols_13))) (.seq (.ops A_check_Symbols_14) (.seq (.ops A_check_Symbols_15) .ret))))))))))
def R_check_Symbols : List ARes := [.tmp 2]
theorem C_check_Symbols : compF Tryz.prog Tryz.f39 = some (A_check_Symbols, R_check_Symbols) := by kernel_rfl
def T_check_Symbols : FC := ⟨43, A_check_Symbols, R_check_Symbols⟩
theorem G_check_Symbols : GoodFC Tryz.prog F_check_Symbols T_check_Symbols := ⟨Tryz.f39, Tryz.func39, Tryz.ntmps39, C_check_Symbols, by kernel_rfl⟩

-- (*lexicon/link.Linked).members
abbrev F_link_Linked_members : Nat := 40
def A_link_Linked_members_0 : List AOper := [⟨some 12, .mov (.t 3), none⟩,
    ⟨some 13, .lenl (.t 12), none⟩,
    ⟨some 14, .mov (.c (.int .i64 (0))), none⟩]
def A_link_Linked_members_1 : List AOper := [⟨some 16, .mov (.t 14), none⟩,
    ⟨some 8, .mov (.t 16), none⟩]
def A_link_Linked_members_2 : List AOper := [⟨some 17, .mov (.t 3), none⟩,
    ⟨some 18, .mov (.t 8), none⟩,
    ⟨some 19, .iaddr 76 7 (.t 17) (.t 18), none⟩,
    ⟨some 9, .mov (.t 19), none⟩]
def A_link_Linked_members_3 : List AOper := [⟨some 20, .mov (.t 2), none⟩,
    ⟨some 21, .mov (.t 9), none⟩,
    ⟨some 22, .nilc (.t 21), none⟩,
    ⟨some 23, .faddr 0 (.t 22), none⟩,
    ⟨some 24, .ld1 (.t 23), none⟩,
    ⟨some 25, .bslice 9 1 2 [.str []] [(0, 1, (.t 20)), (1, 1, (.t 24))], none⟩,
    ⟨some 26, .call 68 [(.t 25)], none⟩,
    ⟨some 10, .mov (.t 26), none⟩]
def A_link_Linked_members_4 : List AOper := [⟨some 27, .mov (.t 9), none⟩,
    ⟨some 28, .nilc (.t 27), none⟩,
    ⟨some 29, .faddr 1 (.t 28), none⟩,
    ⟨some 30, .ld1 (.t 29), none⟩,
    ⟨some 31, .lenl (.t 30), none⟩,
    ⟨some 32, .mov (.c (.int .i64 (0))), none⟩]
def A_link_Linked_members_5 : List AOper := [⟨some 34, .mov (.t 32), none⟩,
    ⟨some 11, .mov (.t 34), none⟩]
def A_link_Linked_members_6 : List AOper := [⟨some 35, .mov (.t 0), none⟩,
    ⟨some 36, .mov (.t 1), none⟩,
    ⟨some 37, .mov (.t 10), none⟩,
    ⟨some 38, .mov (.t 9), none⟩,
    ⟨some 39, .nilc (.t 38), none⟩,
    ⟨some 40, .faddr 1 (.t 39), none⟩,
    ⟨some 41, .ld1 (.t 40), none⟩,
    ⟨some 42, .mov (.t 11), none⟩,
    ⟨some 43, .iaddr 72 9 (.t 41) (.t 42), none⟩,
    ⟨some 44, .call 76 [(.t 35), (.t 36), (.t 37), (.t 43)], none⟩]
def A_link_Linked_members_7 : List AOper := [⟨some 45, .bini .add (.t 32) (.c (.int .i64 (1))), none⟩,
    ⟨some 32, .mov (.t 45), none⟩]
def A_link_Linked_members_8 : ACode := (.seq (.ops [⟨some 33, .bini .lss (.t 32) (.t 31), none⟩]) (.seq (.cond (.t 33) .skip (.exit 2)) (.seq (.block 3 (.seq (.ops A_link_Linked_members_5) (.ops A_link_Linked_members_6))) (.ops A_link_Linked_members_7))))
def A_link_Linked_members_9 : List AOper := [⟨some 46, .mov (.t 0), none⟩,
    ⟨some 47, .mov (.t 1), none⟩,
    ⟨some 48, .mov (.t 10), none⟩,
    ⟨some 49, .mov (.t 9), none⟩,
    ⟨some 50, .nilc (.t 49), none⟩,
    ⟨some 51, .faddr 3 (.t 50), none⟩,
    ⟨some 52, .ld1 (.t 51), none⟩,
    ⟨some 53, .call 40 [(.t 46), (.t 47), (.t 48), (.t 52)], none⟩]
def A_link_Linked_members_10 : List AOper := [⟨some 54, .bini .add (.t 14) (.c (.int .i64 (1))), none⟩,
    ⟨some 14, .mov (.t 54), none⟩]
def A_link_Linked_members_11 : ACode := (.seq (.ops [⟨some 15, .bini .lss (.t 14) (.t 13), none⟩]) (.seq (.cond (.t 15) .skip (.exit 0)) (.seq (.block 1 (.seq (.ops A_link_Linked_members_1) (.seq (.ops A_link_Linked_members_2) (.seq (.ops A_link_Linked_members_3) (.seq (.seq (.ops A_link_Linked_members_4) (.block 2 (.loop A_link_Linked_members_8))) (.ops A_link_Linked_members_9)))))) (.ops A_link_Linked_members_10))))
def A_link_Linked_members : ACode := (.seq (.ops A_link_Linked_members_0) (.block 0 (.loop A_link_Linked_members_11)))
def R_link_Linked_members : List ARes := []
theorem C_link_Linked_members : compF Tryz.prog Tryz.f40 = some (A_link_Linked_members, R_link_Linked_members) := by kernel_rfl
def T_link_Linked_members : FC := ⟨55, A_link_Linked_members, R_link_Linked_members⟩
theorem G_link_Linked_members : GoodFC Tryz.prog F_link_Linked_members T_link_Linked_members := ⟨Tryz.f40, Tryz.func40, Tryz.ntmps40, C_link_Linked_members, by kernel_rfl⟩

-- slices.ContainsFunc[[]lexicon/api.Import,lexicon/api.Import]
abbrev F_slices_ContainsFunc_api_Import_api_Import : Nat := 42
def A_slices_ContainsFunc_api_Import_api_Import_0 : List AOper := [⟨some 5, .mov (.t 0), none⟩,
    ⟨some 6, .mov (.t 1), none⟩,
    ⟨some 7, .call 77 [(.t 5), (.t 6)], none⟩,
    ⟨some 8, .bini .geq (.t 7) (.c (.int .i64 (0))), none⟩,
    ⟨some 4, .mov (.t 8), none⟩]
def A_slices_ContainsFunc_api_Import_api_Import : ACode := (.seq (.ops [⟨some 4, .mov (.c (.bool false)), none⟩]) (.seq (.ops A_slices_ContainsFunc_api_Import_api_Import_0) .ret))
def R_slices_ContainsFunc_api_Import_api_Import : List ARes := [.tmp 4]
theorem C_slices_ContainsFunc_api_Import_api_Import : compF Tryz.prog Tryz.f42 = some (A_slices_ContainsFunc_api_Import_api_Import, R_slices_ContainsFunc_api_Import_api_Import) := by kernel_rfl
def T_slices_ContainsFunc_api_Import_api_Import : FC := ⟨9, A_slices_ContainsFunc_api_Import_api_Import, R_slices_ContainsFunc_api_Import_api_Import⟩
theorem G_slices_ContainsFunc_api_Import_api_Import : GoodFC Tryz.prog F_slices_ContainsFunc_api_Import_api_Import T_slices_ContainsFunc_api_Import_api_Import := ⟨Tryz.f42, Tryz.func42, Tryz.ntmps42, C_slices_ContainsFunc_api_Import_api_Import, by kernel_rfl⟩

-- (*lexicon/link.Linked).declare
abbrev F_link_Linked_declare : Nat := 43
def A_link_Linked_declare_0 : List AOper := [⟨some 15, .mov (.t 3), none⟩,
    ⟨some 16, .lenl (.t 15), none⟩,
    ⟨some 17, .mov (.c (.int .i64 (0))), none⟩]
def A_link_Linked_declare_1 : List AOper := [⟨some 19, .iaddr 176 5 (.t 15) (.t 17), none⟩,
    ⟨some 20, .lda 5 (.t 19), none⟩,
    ⟨some 9, .box 176 5 (.c (.agg [.str [], .nils, .bool false, .nils, .nils])), none⟩,
    ⟨none, .st 5 (.t 9) (.t 20), none⟩]
def A_link_Linked_declare_2 : List AOper := [⟨some 21, .mov (.t 0), none⟩,
    ⟨some 22, .nilc (.t 21), none⟩,
    ⟨some 23, .faddr 4 (.t 22), none⟩,
    ⟨some 24, .ld1 (.t 23), none⟩,
    ⟨some 25, .mov (.t 1), none⟩,
    ⟨some 26, .faddr 0 (.t 9), none⟩,
    ⟨some 27, .ld1 (.t 26), none⟩,
    ⟨some 30, .lda 5 (.t 9), none⟩,
    ⟨some 28, .bslice 9 1 2 [.str []] [(0, 1, (.t 25)), (1, 1, (.t 27))], none⟩,
    ⟨some 29, .acall 68 [(.t 28)], none⟩,
    ⟨none, .mupd .s (.t 24) (.t 29) (.t 30), none⟩]
def A_link_Linked_declare_3 : List AOper := [⟨some 21, .mov (.t 0), none⟩,
    ⟨some 22, .nilc (.t 21), none⟩,
    ⟨some 23, .faddr 4 (.t 22), none⟩,
    ⟨some 24, .ld1 (.t 23), none⟩,
    ⟨some 25, .mov (.t 1), none⟩,
    ⟨some 26, .faddr 0 (.t 9), none⟩,
    ⟨some 27, .ld1 (.t 26), none⟩,
    ⟨some 28, .fslice 9 1 2 [.str []] [(0, 1, (.t 25)), (1, 1, (.t 27))], none⟩,
    ⟨some 29, .pcall 68 [(.t 28)], none⟩,
    ⟨some 30, .lda 5 (.t 9), none⟩,
    ⟨none, .mupd .s (.t 24) (.t 29) (.t 30), none⟩]
def A_link_Linked_declare_4 : List AOper := [⟨some 21, .mov (.t 0), none⟩,
    ⟨some 22, .nilc (.t 21), none⟩,
    ⟨some 23, .faddr 4 (.t 22), none⟩,
    ⟨some 25, .mov (.t 1), none⟩,
    ⟨some 26, .faddr 0 (.t 9), none⟩,
    ⟨some 27, .ld1 (.t 26), none⟩,
    ⟨some 24, .ld1 (.t 23), none⟩,
    ⟨some 28, .bslice 9 1 2 [.str []] [(0, 1, (.t 25)), (1, 1, (.t 27))], none⟩,
    ⟨some 29, .call 68 [(.t 28)], none⟩,
    ⟨some 30, .lda 5 (.t 9), none⟩,
    ⟨none, .mupd .s (.t 24) (.t 29) (.t 30), none⟩]
def A_link_Linked_declare_5 : List AOper := [⟨some 21, .mov (.t 0), none⟩,
    ⟨some 22, .nilc (.t 21), none⟩,
    ⟨some 23, .faddr 4 (.t 22), none⟩,
    ⟨some 25, .mov (.t 1), none⟩,
    ⟨some 26, .faddr 0 (.t 9), none⟩,
    ⟨some 27, .ld1 (.t 26), none⟩,
    ⟨some 24, .ld1 (.t 23), none⟩,
    ⟨some 28, .bslice 9 1 2 [.str []] [(0, 1, (.t 25)), (1, 1, (.t 27))], none⟩,
    ⟨some 30, .lda 5 (.t 9), none⟩,
    ⟨some 29, .call 68 [(.t 28)], none⟩,
    ⟨none, .mupd .s (.t 24) (.t 29) (.t 30), none⟩]
def A_link_Linked_declare_6 : List AOper := [⟨some 21, .mov (.t 0), none⟩,
    ⟨some 22, .nilc (.t 21), none⟩,
    ⟨some 23, .faddr 4 (.t 22), none⟩,
    ⟨some 25, .mov (.t 1), none⟩,
    ⟨some 26, .faddr 0 (.t 9), none⟩,
    ⟨some 27, .ld1 (.t 26), none⟩,
    ⟨some 24, .ld1 (.t 23), none⟩,
    ⟨some 30, .lda 5 (.t 9), none⟩,
    ⟨some 28, .bslice 9 1 2 [.str []] [(0, 1, (.t 25)), (1, 1, (.t 27))], none⟩,
    ⟨some 29, .call 68 [(.t 28)], none⟩,
    ⟨none, .mupd .s (.t 24) (.t 29) (.t 30), none⟩]
def A_link_Linked_declare_7 : List AOper := [⟨some 21, .mov (.t 0), none⟩,
    ⟨some 22, .nilc (.t 21), none⟩,
    ⟨some 23, .faddr 4 (.t 22), none⟩,
    ⟨some 25, .mov (.t 1), none⟩,
    ⟨some 26, .faddr 0 (.t 9), none⟩,
    ⟨some 27, .ld1 (.t 26), none⟩,
    ⟨some 28, .bslice 9 1 2 [.str []] [(0, 1, (.t 25)), (1, 1, (.t 27))], none⟩,
    ⟨some 24, .ld1 (.t 23), none⟩,
    ⟨some 29, .call 68 [(.t 28)], none⟩,
    ⟨some 30, .lda 5 (.t 9), none⟩,
    ⟨none, .mupd .s (.t 24) (.t 29) (.t 30), none⟩]
def A_link_Linked_declare_8 : List AOper := [⟨some 21, .mov (.t 0), none⟩,
    ⟨some 22, .nilc (.t 21), none⟩,
    ⟨some 23, .faddr 4 (.t 22), none⟩,
    ⟨some 25, .mov (.t 1), none⟩,
    ⟨some 26, .faddr 0 (.t 9), none⟩,
    ⟨some 27, .ld1 (.t 26), none⟩,
    ⟨some 28, .bslice 9 1 2 [.str []] [(0, 1, (.t 25)), (1, 1, (.t 27))], none⟩,
    ⟨some 24, .ld1 (.t 23), none⟩,
    ⟨some 30, .lda 5 (.t 9), none⟩,
    ⟨some 29, .call 68 [(.t 28)], none⟩,
    ⟨none, .mupd .s (.t 24) (.t 29) (.t 30), none⟩]
def A_link_Linked_declare_9 : List AOper := [⟨some 21, .mov (.t 0), none⟩,
    ⟨some 22, .nilc (.t 21), none⟩,
    ⟨some 23, .faddr 4 (.t 22), none⟩,
    ⟨some 25, .mov (.t 1), none⟩,
    ⟨some 26, .faddr 0 (.t 9), none⟩,
    ⟨some 27, .ld1 (.t 26), none⟩,
    ⟨some 28, .bslice 9 1 2 [.str []] [(0, 1, (.t 25)), (1, 1, (.t 27))], none⟩,
    ⟨some 29, .call 68 [(.t 28)], none⟩,
    ⟨some 24, .ld1 (.t 23), none⟩,
    ⟨some 30, .lda 5 (.t 9), none⟩,
    ⟨none, .mupd .s (.t 24) (.t 29) (.t 30), none⟩]
def A_link_Linked_declare_10 : List AOper := [⟨some 21, .mov (.t 0), none⟩,
    ⟨some 22, .nilc (.t 21), none⟩,
    ⟨some 23, .faddr 4 (.t 22), none⟩,
    ⟨some 25, .mov (.t 1), none⟩,
    ⟨some 26, .faddr 0 (.t 9), none⟩,
    ⟨some 27, .ld1 (.t 26), none⟩,
    ⟨some 28, .bslice 9 1 2 [.str []] [(0, 1, (.t 25)), (1, 1, (.t 27))], none⟩,
    ⟨some 30, .lda 5 (.t 9), none⟩,
    ⟨some 24, .ld1 (.t 23), none⟩,
    ⟨some 29, .call 68 [(.t 28)], none⟩,
    ⟨none, .mupd .s (.t 24) (.t 29) (.t 30), none⟩]
def A_link_Linked_declare_11 : List AOper := [⟨some 21, .mov (.t 0), none⟩,
    ⟨some 22, .nilc (.t 21), none⟩,
    ⟨some 23, .faddr 4 (.t 22), none⟩,
    ⟨some 25, .mov (.t 1), none⟩,
    ⟨some 26, .faddr 0 (.t 9), none⟩,
    ⟨some 27, .ld1 (.t 26), none⟩,
    ⟨some 28, .bslice 9 1 2 [.str []] [(0, 1, (.t 25)), (1, 1, (.t 27))], none⟩,
    ⟨some 30, .lda 5 (.t 9), none⟩,
    ⟨some 29, .call 68 [(.t 28)], none⟩,
    ⟨some 24, .ld1 (.t 23), none⟩,
    ⟨none, .mupd .s (.t 24) (.t 29) (.t 30), none⟩]
def A_link_Linked_declare_12 : List AOper := [⟨some 21, .mov (.t 0), none⟩,
    ⟨some 22, .nilc (.t 21), none⟩,
    ⟨some 23, .faddr 4 (.t 22), none⟩,
    ⟨some 25, .mov (.t 1), none⟩,
    ⟨some 26, .faddr 0 (.t 9), none⟩,
    ⟨some 27, .ld1 (.t 26), none⟩,
    ⟨some 30, .lda 5 (.t 9), none⟩,
    ⟨some 24, .ld1 (.t 23), none⟩,
    ⟨some 28, .bslice 9 1 2 [.str []] [(0, 1, (.t 25)), (1, 1, (.t 27))], none⟩,
    ⟨some 29, .call 68 [(.t 28)], none⟩,
    ⟨none, .mupd .s (.t 24) (.t 29) (.t 30), none⟩]
def A_link_Linked_declare_13 : List AOper := [⟨some 21, .mov (.t 0), none⟩,
    ⟨some 22, .nilc (.t 21), none⟩,
    ⟨some 23, .faddr 4 (.t 22), none⟩,
    ⟨some 25, .mov (.t 1), none⟩,
    ⟨some 26, .faddr 0 (.t 9), none⟩,
    ⟨some 27, .ld1 (.t 26), none⟩,
    ⟨some 30, .lda 5 (.t 9), none⟩,
    ⟨some 28, .bslice 9 1 2 [.str []] [(0, 1, (.t 25)), (1, 1, (.t 27))], none⟩,
    ⟨some 24, .ld1 (.t 23), none⟩,
    ⟨some 29, .call 68 [(.t 28)], none⟩,
    ⟨none, .mupd .s (.t 24) (.t 29) (.t 30), none⟩]
def A_link_Linked_declare_14 : List AOper := [⟨some 21, .mov (.t 0), none⟩,
    ⟨some 22, .nilc (.t 21), none⟩,
    ⟨some 23, .faddr 4 (.t 22), none⟩,
    ⟨some 25, .mov (.t 1), none⟩,
    ⟨some 26, .faddr 0 (.t 9), none⟩,
    ⟨some 27, .ld1 (.t 26), none⟩,
    ⟨some 30, .lda 5 (.t 9), none⟩,
    ⟨some 28, .bslice 9 1 2 [.str []] [(0, 1, (.t 25)), (1, 1, (.t 27))], none⟩,
    ⟨some 29, .call 68 [(.t 28)], none⟩,
    ⟨some 24, .ld1 (.t 23), none⟩,
    ⟨none, .mupd .s (.t 24) (.t 29) (.t 30), none⟩]
def A_link_Linked_declare_15 : List AOper := [⟨some 31, .bini .add (.t 17) (.c (.int .i64 (1))), none⟩,
    ⟨some 17, .mov (.t 31), none⟩]
def A_link_Linked_declare_16 : ACode := (.seq (.ops [⟨some 18, .bini .lss (.t 17) (.t 16), none⟩]) (.seq (.cond (.t 18) .skip (.exit 0)) (.seq (.block 1 (.seq (.ops A_link_Linked_declare_1) (.orr (.alts [21, 22, 23, 24, 25, 26, 27, 28, 29, 30] [A_link_Linked_declare_2]) (.orr (.alts [21, 22, 23, 24, 25, 26, 27, 28, 29, 30] [A_link_Linked_declare_3]) (.alts [21, 22, 23, 24, 25, 26, 27, 28, 29, 30] [A_link_Linked_declare_4, A_link_Linked_declare_5, A_link_Linked_declare_6, A_link_Linked_declare_7, A_link_Linked_declare_8, A_link_Linked_declare_9, A_link_Linked_declare_10, A_link_Linked_declare_11, A_link_Linked_declare_12, A_link_Linked_declare_13, A_link_Linked_declare_14]))))) (.ops A_link_Linked_declare_15))))
def A_link_Linked_declare_17 : List AOper := [⟨some 32, .mov (.t 2), none⟩,
    ⟨some 33, .lenl (.t 32), none⟩,
    ⟨some 34, .mov (.c (.int .i64 (0))), none⟩]
def A_link_Linked_declare_18 : List AOper := [⟨some 36, .iaddr 76 7 (.t 32) (.t 34), none⟩,
    ⟨some 37, .lda 7 (.t 36), none⟩,
    ⟨some 11, .box 76 7 (.c (.agg [.str [], .nils, .nils, .nils, .nils, .nils, .nils])), none⟩,
    ⟨none, .st 7 (.t 11) (.t 37), none⟩]
def A_link_Linked_declare_19 : List AOper := [⟨some 38, .mov (.t 1), none⟩,
    ⟨some 39, .faddr 0 (.t 11), none⟩,
    ⟨some 40, .ld1 (.t 39), none⟩,
    ⟨some 41, .bslice 9 1 2 [.str []] [(0, 1, (.t 38)), (1, 1, (.t 40))], none⟩,
    ⟨some 42, .call 68 [(.t 41)], none⟩,
    ⟨some 12, .mov (.t 42), none⟩]
def A_link_Linked_declare_20 : List AOper := [⟨some 43, .mov (.t 0), none⟩,
    ⟨some 44, .nilc (.t 43), none⟩,
    ⟨some 45, .faddr 3 (.t 44), none⟩,
    ⟨some 46, .ld1 (.t 45), none⟩,
    ⟨some 47, .mov (.t 12), none⟩,
    ⟨some 48, .lda 7 (.t 11), none⟩,
    ⟨none, .mupd .s (.t 46) (.t 47) (.t 48), none⟩]
def A_link_Linked_declare_21 : List AOper := [⟨some 49, .faddr 1 (.t 11), none⟩,
    ⟨some 50, .ld1 (.t 49), none⟩,
    ⟨some 51, .lenl (.t 50), none⟩,
    ⟨some 52, .mov (.c (.int .i64 (0))), none⟩]
def A_link_Linked_declare_22 : List AOper := [⟨some 54, .iaddr 72 9 (.t 50) (.t 52), none⟩,
    ⟨some 55, .lda 9 (.t 54), none⟩,
    ⟨some 14, .box 72 9 (.c (.agg [.str [], .int .i32 (0), .int .u8 (0), .int .u8 (0), .str [], .int .u8 (0), .int .i64 (0), .int .u8 (0), .str []])), none⟩,
    ⟨none, .st 9 (.t 14) (.t 55), none⟩]
def A_link_Linked_declare_23 : List AOper := [⟨some 56, .faddr 4 (.t 14), none⟩,
    ⟨some 57, .ld1 (.t 56), none⟩,
    ⟨some 58, .bins .neq (.t 57) (.c (.str [])), none⟩,
    ⟨some 59, .mov (.t 58), none⟩,
    ⟨some 60, .mov (.t 0), some (59, true)⟩,
    ⟨some 61, .nilc (.t 60), some (59, true)⟩,
    ⟨some 62, .faddr 5 (.t 61), some (59, true)⟩,
    ⟨some 63, .ld1 (.t 62), some (59, true)⟩,
    ⟨some 64, .faddr 4 (.t 14), some (59, true)⟩,
    ⟨some 65, .ld1 (.t 64), some (59, true)⟩,
    ⟨some 66, .mlook .s (.nils) false (.t 63) (.t 65), some (59, true)⟩,
    ⟨some 67, .mov (.t 12), some (59, true)⟩,
    ⟨some 68, .call 78 [(.t 66), (.t 67)], some (59, true)⟩,
    ⟨some 69, .not (.t 68), some (59, true)⟩,
    ⟨some 70, .pick (.t 59) (.t 69) (.c (.bool false)), none⟩]
def A_link_Linked_declare_24 : List AOper := [⟨some 71, .mov (.t 0), none⟩,
    ⟨some 72, .nilc (.t 71), none⟩,
    ⟨some 73, .faddr 5 (.t 72), none⟩,
    ⟨some 75, .faddr 4 (.t 14), none⟩,
    ⟨some 77, .mov (.t 0), none⟩,
    ⟨some 78, .nilc (.t 77), none⟩,
    ⟨some 79, .faddr 5 (.t 78), none⟩,
    ⟨some 80, .ld1 (.t 79), none⟩,
    ⟨some 81, .faddr 4 (.t 14), none⟩,
    ⟨some 82, .ld1 (.t 81), none⟩,
    ⟨some 83, .mlook .s (.nils) false (.t 80) (.t 82), none⟩,
    ⟨some 84, .mov (.t 12), none⟩,
    ⟨some 85, .fslice 9 1 1 [.str []] [(0, 1, (.t 84))], none⟩,
    ⟨some 74, .ld1 (.t 73), none⟩,
    ⟨some 76, .ld1 (.t 75), none⟩,
    ⟨some 86, .app 9 1 16 (.t 83) (.t 85), none⟩,
    ⟨none, .mupd .s (.t 74) (.t 76) (.t 86), none⟩]
def A_link_Linked_declare_25 : List AOper := [⟨some 71, .mov (.t 0), none⟩,
    ⟨some 72, .nilc (.t 71), none⟩,
    ⟨some 73, .faddr 5 (.t 72), none⟩,
    ⟨some 75, .faddr 4 (.t 14), none⟩,
    ⟨some 77, .mov (.t 0), none⟩,
    ⟨some 78, .nilc (.t 77), none⟩,
    ⟨some 79, .faddr 5 (.t 78), none⟩,
    ⟨some 80, .ld1 (.t 79), none⟩,
    ⟨some 81, .faddr 4 (.t 14), none⟩,
    ⟨some 82, .ld1 (.t 81), none⟩,
    ⟨some 83, .mlook .s (.nils) false (.t 80) (.t 82), none⟩,
    ⟨some 84, .mov (.t 12), none⟩,
    ⟨some 85, .fslice 9 1 1 [.str []] [(0, 1, (.t 84))], none⟩,
    ⟨some 74, .ld1 (.t 73), none⟩,
    ⟨some 86, .app 9 1 16 (.t 83) (.t 85), none⟩,
    ⟨some 76, .ld1 (.t 75), none⟩,
    ⟨none, .mupd .s (.t 74) (.t 76) (.t 86), none⟩]
def A_link_Linked_declare_26 : List AOper := [⟨some 71, .mov (.t 0), none⟩,
    ⟨some 72, .nilc (.t 71), none⟩,
    ⟨some 73, .faddr 5 (.t 72), none⟩,
    ⟨some 75, .faddr 4 (.t 14), none⟩,
    ⟨some 77, .mov (.t 0), none⟩,
    ⟨some 78, .nilc (.t 77), none⟩,
    ⟨some 79, .faddr 5 (.t 78), none⟩,
    ⟨some 80, .ld1 (.t 79), none⟩,
    ⟨some 81, .faddr 4 (.t 14), none⟩,
    ⟨some 82, .ld1 (.t 81), none⟩,
    ⟨some 83, .mlook .s (.nils) false (.t 80) (.t 82), none⟩,
    ⟨some 84, .mov (.t 12), none⟩,
    ⟨some 85, .fslice 9 1 1 [.str []] [(0, 1, (.t 84))], none⟩,
    ⟨some 76, .ld1 (.t 75), none⟩,
    ⟨some 74, .ld1 (.t 73), none⟩,
    ⟨some 86, .app 9 1 16 (.t 83) (.t 85), none⟩,
    ⟨none, .mupd .s (.t 74) (.t 76) (.t 86), none⟩]
def A_link_Linked_declare_27 : List AOper := [⟨some 71, .mov (.t 0), none⟩,
    ⟨some 72, .nilc (.t 71), none⟩,
    ⟨some 73, .faddr 5 (.t 72), none⟩,
    ⟨some 75, .faddr 4 (.t 14), none⟩,
    ⟨some 77, .mov (.t 0), none⟩,
    ⟨some 78, .nilc (.t 77), none⟩,
    ⟨some 79, .faddr 5 (.t 78), none⟩,
    ⟨some 80, .ld1 (.t 79), none⟩,
    ⟨some 81, .faddr 4 (.t 14), none⟩,
    ⟨some 82, .ld1 (.t 81), none⟩,
    ⟨some 83, .mlook .s (.nils) false (.t 80) (.t 82), none⟩,
    ⟨some 84, .mov (.t 12), none⟩,
    ⟨some 85, .fslice 9 1 1 [.str []] [(0, 1, (.t 84))], none⟩,
    ⟨some 76, .ld1 (.t 75), none⟩,
    ⟨some 86, .app 9 1 16 (.t 83) (.t 85), none⟩,
    ⟨some 74, .ld1 (.t 73), none⟩,
    ⟨none, .mupd .s (.t 74) (.t 76) (.t 86), none⟩]
def A_link_Linked_declare_28 : List AOper := [⟨some 71, .mov (.t 0), none⟩,
    ⟨some 72, .nilc (.t 71), none⟩,
    ⟨some 73, .faddr 5 (.t 72), none⟩,
    ⟨some 75, .faddr 4 (.t 14), none⟩,
    ⟨some 77, .mov (.t 0), none⟩,
    ⟨some 78, .nilc (.t 77), none⟩,
    ⟨some 79, .faddr 5 (.t 78), none⟩,
    ⟨some 80, .ld1 (.t 79), none⟩,
    ⟨some 81, .faddr 4 (.t 14), none⟩,
    ⟨some 82, .ld1 (.t 81), none⟩,
    ⟨some 83, .mlook .s (.nils) false (.t 80) (.t 82), none⟩,
    ⟨some 84, .mov (.t 12), none⟩,
    ⟨some 85, .fslice 9 1 1 [.str []] [(0, 1, (.t 84))], none⟩,
    ⟨some 86, .app 9 1 16 (.t 83) (.t 85), none⟩,
    ⟨some 74, .ld1 (.t 73), none⟩,
    ⟨some 76, .ld1 (.t 75), none⟩,
    ⟨none, .mupd .s (.t 74) (.t 76) (.t 86), none⟩]
def A_link_Linked_declare_29 : List AOper := [⟨some 71, .mov (.t 0), none⟩,
    ⟨some 72, .nilc (.t 71), none⟩,
    ⟨some 73, .faddr 5 (.t 72), none⟩,
    ⟨some 75, .faddr 4 (.t 14), none⟩,
    ⟨some 77, .mov (.t 0), none⟩,
    ⟨some 78, .nilc (.t 77), none⟩,
    ⟨some 79, .faddr 5 (.t 78), none⟩,
    ⟨some 80, .ld1 (.t 79), none⟩,
    ⟨some 81, .faddr 4 (.t 14), none⟩,
    ⟨some 82, .ld1 (.t 81), none⟩,
    ⟨some 83, .mlook .s (.nils) false (.t 80) (.t 82), none⟩,
    ⟨some 84, .mov (.t 12), none⟩,
    ⟨some 74, .ld1 (.t 73), none⟩,
    ⟨some 76, .ld1 (.t 75), none⟩,
    ⟨some 85, .bslice 9 1 1 [.str []] [(0, 1, (.t 84))], none⟩,
    ⟨some 86, .app 9 1 16 (.t 83) (.t 85), none⟩,
    ⟨none, .mupd .s (.t 74) (.t 76) (.t 86), none⟩]
def A_link_Linked_declare_30 : List AOper := [⟨some 71, .mov (.t 0), none⟩,
    ⟨some 72, .nilc (.t 71), none⟩,
    ⟨some 73, .faddr 5 (.t 72), none⟩,
    ⟨some 75, .faddr 4 (.t 14), none⟩,
    ⟨some 77, .mov (.t 0), none⟩,
    ⟨some 78, .nilc (.t 77), none⟩,
    ⟨some 79, .faddr 5 (.t 78), none⟩,
    ⟨some 80, .ld1 (.t 79), none⟩,
    ⟨some 81, .faddr 4 (.t 14), none⟩,
    ⟨some 82, .ld1 (.t 81), none⟩,
    ⟨some 83, .mlook .s (.nils) false (.t 80) (.t 82), none⟩,
    ⟨some 84, .mov (.t 12), none⟩,
    ⟨some 74, .ld1 (.t 73), none⟩,
    ⟨some 85, .bslice 9 1 1 [.str []] [(0, 1, (.t 84))], none⟩,
    ⟨some 76, .ld1 (.t 75), none⟩,
    ⟨some 86, .app 9 1 16 (.t 83) (.t 85), none⟩,
    ⟨none, .mupd .s (.t 74) (.t 76) (.t 86), none⟩]
def A_link_Linked_declare_31 : List AOper := [⟨some 71, .mov (.t 0), none⟩,
    ⟨some 72, .nilc (.t 71), none⟩,
    ⟨some 73, .faddr 5 (.t 72), none⟩,
    ⟨some 75, .faddr 4 (.t 14), none⟩,
    ⟨some 77, .mov (.t 0), none⟩,
    ⟨some 78, .nilc (.t 77), none⟩,
    ⟨some 79, .faddr 5 (.t 78), none⟩,
    ⟨some 80, .ld1 (.t 79), none⟩,
    ⟨some 81, .faddr 4 (.t 14), none⟩,
    ⟨some 82, .ld1 (.t 81), none⟩,
    ⟨some 83, .mlook .s (.nils) false (.t 80) (.t 82), none⟩,
    ⟨some 84, .mov (.t 12), none⟩,
    ⟨some 74, .ld1 (.t 73), none⟩,
    ⟨some 85, .bslice 9 1 1 [.str []] [(0, 1, (.t 84))], none⟩,
    ⟨some 86, .app 9 1 16 (.t 83) (.t 85), none⟩,
    ⟨some 76, .ld1 (.t 75), none⟩,
    ⟨none, .mupd .s (.t 74) (.t 76) (.t 86), none⟩]
def A_link_Linked_declare_32 : List AOper := [⟨some 71, .mov (.t 0), none⟩,
    ⟨some 72, .nilc (.t 71), none⟩,
    ⟨some 73, .faddr 5 (.t 72), none⟩,
    ⟨some 75, .faddr 4 (.t 14), none⟩,
    ⟨some 77, .mov (.t 0), none⟩,
    ⟨some 78, .nilc (.t 77), none⟩,
    ⟨some 79, .faddr 5 (.t 78), none⟩,
    ⟨some 80, .ld1 (.t 79), none⟩,
    ⟨some 81, .faddr 4 (.t 14), none⟩,
    ⟨some 82, .ld1 (.t 81), none⟩,
    ⟨some 83, .mlook .s (.nils) false (.t 80) (.t 82), none⟩,
    ⟨some 84, .mov (.t 12), none⟩,
    ⟨some 76, .ld1 (.t 75), none⟩,
    ⟨some 74, .ld1 (.t 73), none⟩,
    ⟨some 85, .bslice 9 1 1 [.str []] [(0, 1, (.t 84))], none⟩,
    ⟨some 86, .app 9 1 16 (.t 83) (.t 85), none⟩,
    ⟨none, .mupd .s (.t 74) (.t 76) (.t 86), none⟩]
def A_link_Linked_declare_33 : List AOper := [⟨some 71, .mov (.t 0), none⟩,
    ⟨some 72, .nilc (.t 71), none⟩,
    ⟨some 73, .faddr 5 (.t 72), none⟩,
    ⟨some 75, .faddr 4 (.t 14), none⟩,
    ⟨some 77, .mov (.t 0), none⟩,
    ⟨some 78, .nilc (.t 77), none⟩,
    ⟨some 79, .faddr 5 (.t 78), none⟩,
    ⟨some 80, .ld1 (.t 79), none⟩,
    ⟨some 81, .faddr 4 (.t 14), none⟩,
    ⟨some 82, .ld1 (.t 81), none⟩,
    ⟨some 83, .mlook .s (.nils) false (.t 80) (.t 82), none⟩,
    ⟨some 84, .mov (.t 12), none⟩,
    ⟨some 76, .ld1 (.t 75), none⟩,
    ⟨some 85, .bslice 9 1 1 [.str []] [(0, 1, (.t 84))], none⟩,
    ⟨some 74, .ld1 (.t 73), none⟩,
    ⟨some 86, .app 9 1 16 (.t 83) (.t 85), none⟩,
    ⟨none, .mupd .s (.t 74) (.t 76) (.t 86), none⟩]
def A_link_Linked_declare_34 : List AOper := [⟨some 71, .mov (.t 0), none⟩,
    ⟨some 72, .nilc (.t 71), none⟩,
    ⟨some 73, .faddr 5 (.t 72), none⟩,
    ⟨some 75, .faddr 4 (.t 14), none⟩,
    ⟨some 77, .mov (.t 0), none⟩,
    ⟨some 78, .nilc (.t 77), none⟩,
    ⟨some 79, .faddr 5 (.t 78), none⟩,
    ⟨some 80, .ld1 (.t 79), none⟩,
    ⟨some 81, .faddr 4 (.t 14), none⟩,
    ⟨some 82, .ld1 (.t 81), none⟩,
    ⟨some 83, .mlook .s (.nils) false (.t 80) (.t 82), none⟩,
    ⟨some 84, .mov (.t 12), none⟩,
    ⟨some 76, .ld1 (.t 75), none⟩,
    ⟨some 85, .bslice 9 1 1 [.str []] [(0, 1, (.t 84))], none⟩,
    ⟨some 86, .app 9 1 16 (.t 83) (.t 85), none⟩,
    ⟨some 74, .ld1 (.t 73), none⟩,
    ⟨none, .mupd .s (.t 74) (.t 76) (.t 86), none⟩]
def A_link_Linked_declare_35 : List AOper := [⟨some 71, .mov (.t 0), none⟩,
    ⟨some 72, .nilc (.t 71), none⟩,
    ⟨some 73, .faddr 5 (.t 72), none⟩,
    ⟨some 75, .faddr 4 (.t 14), none⟩,
    ⟨some 77, .mov (.t 0), none⟩,
    ⟨some 78, .nilc (.t 77), none⟩,
    ⟨some 79, .faddr 5 (.t 78), none⟩,
    ⟨some 80, .ld1 (.t 79), none⟩,
    ⟨some 81, .faddr 4 (.t 14), none⟩,
    ⟨some 82, .ld1 (.t 81), none⟩,
    ⟨some 83, .mlook .s (.nils) false (.t 80) (.t 82), none⟩,
    ⟨some 84, .mov (.t 12), none⟩,
    ⟨some 85, .bslice 9 1 1 [.str []] [(0, 1, (.t 84))], none⟩,
    ⟨some 74, .ld1 (.t 73), none⟩,
    ⟨some 76, .ld1 (.t 75), none⟩,
    ⟨some 86, .app 9 1 16 (.t 83) (.t 85), none⟩,
    ⟨none, .mupd .s (.t 74) (.t 76) (.t 86), none⟩]
def A_link_Linked_declare_36 : List AOper := [⟨some 71, .mov (.t 0), none⟩,
    ⟨some 72, .nilc (.t 71), none⟩,
    ⟨some 73, .faddr 5 (.t 72), none⟩,
    ⟨some 75, .faddr 4 (.t 14), none⟩,
    ⟨some 77, .mov (.t 0), none⟩,
    ⟨some 78, .nilc (.t 77), none⟩,
    ⟨some 79, .faddr 5 (.t 78), none⟩,
    ⟨some 80, .ld1 (.t 79), none⟩,
    ⟨some 81, .faddr 4 (.t 14), none⟩,
    ⟨some 82, .ld1 (.t 81), none⟩,
    ⟨some 83, .mlook .s (.nils) false (.t 80) (.t 82), none⟩,
    ⟨some 84, .mov (.t 12), none⟩,
    ⟨some 85, .bslice 9 1 1 [.str []] [(0, 1, (.t 84))], none⟩,
    ⟨some 74, .ld1 (.t 73), none⟩,
    ⟨some 86, .app 9 1 16 (.t 83) (.t 85), none⟩,
    ⟨some 76, .ld1 (.t 75), none⟩,
    ⟨none, .mupd .s (.t 74) (.t 76) (.t 86), none⟩]
def A_link_Linked_declare_37 : List AOper := [⟨some 71, .mov (.t 0), none⟩,
    ⟨some 72, .nilc (.t 71), none⟩,
    ⟨some 73, .faddr 5 (.t 72), none⟩,
    ⟨some 75, .faddr 4 (.t 14), none⟩,
    ⟨some 77, .mov (.t 0), none⟩,
    ⟨some 78, .nilc (.t 77), none⟩,
    ⟨some 79, .faddr 5 (.t 78), none⟩,
    ⟨some 80, .ld1 (.t 79), none⟩,
    ⟨some 81, .faddr 4 (.t 14), none⟩,
    ⟨some 82, .ld1 (.t 81), none⟩,
    ⟨some 83, .mlook .s (.nils) false (.t 80) (.t 82), none⟩,
    ⟨some 84, .mov (.t 12), none⟩,
    ⟨some 85, .bslice 9 1 1 [.str []] [(0, 1, (.t 84))], none⟩,
    ⟨some 76, .ld1 (.t 75), none⟩,
    ⟨some 74, .ld1 (.t 73), none⟩,
    ⟨some 86, .app 9 1 16 (.t 83) (.t 85), none⟩,
    ⟨none, .mupd .s (.t 74) (.t 76) (.t 86), none⟩]
def A_link_Linked_declare_38 : List AOper := [⟨some 71, .mov (.t 0), none⟩,
    ⟨some 72, .nilc (.t 71), none⟩,
    ⟨some 73, .faddr 5 (.t 72), none⟩,
    ⟨some 75, .faddr 4 (.t 14), none⟩,
    ⟨some 77, .mov (.t 0), none⟩,
    ⟨some 78, .nilc (.t 77), none⟩,
    ⟨some 79, .faddr 5 (.t 78), none⟩,
    ⟨some 80, .ld1 (.t 79), none⟩,
    ⟨some 81, .faddr 4 (.t 14), none⟩,
    ⟨some 82, .ld1 (.t 81), none⟩,
    ⟨some 83, .mlook .s (.nils) false (.t 80) (.t 82), none⟩,
    ⟨some 84, .mov (.t 12), none⟩,
    ⟨some 85, .bslice 9 1 1 [.str []] [(0, 1, (.t 84))], none⟩,
    ⟨some 76, .ld1 (.t 75), none⟩,
    ⟨some 86, .app 9 1 16 (.t 83) (.t 85), none⟩,
    ⟨some 74, .ld1 (.t 73), none⟩,
    ⟨none, .mupd .s (.t 74) (.t 76) (.t 86), none⟩]
def A_link_Linked_declare_39 : List AOper := [⟨some 71, .mov (.t 0), none⟩,
    ⟨some 72, .nilc (.t 71), none⟩,
    ⟨some 73, .faddr 5 (.t 72), none⟩,
    ⟨some 75, .faddr 4 (.t 14), none⟩,
    ⟨some 77, .mov (.t 0), none⟩,
    ⟨some 78, .nilc (.t 77), none⟩,
    ⟨some 79, .faddr 5 (.t 78), none⟩,
    ⟨some 80, .ld1 (.t 79), none⟩,
    ⟨some 81, .faddr 4 (.t 14), none⟩,
    ⟨some 82, .ld1 (.t 81), none⟩,
    ⟨some 83, .mlook .s (.nils) false (.t 80) (.t 82), none⟩,
    ⟨some 84, .mov (.t 12), none⟩,
    ⟨some 85, .bslice 9 1 1 [.str []] [(0, 1, (.t 84))], none⟩,
    ⟨some 86, .app 9 1 16 (.t 83) (.t 85), none⟩,
    ⟨some 74, .ld1 (.t 73), none⟩,
    ⟨some 76, .ld1 (.t 75), none⟩,
    ⟨none, .mupd .s (.t 74) (.t 76) (.t 86), none⟩]
def A_link_Linked_declare_40 : List AOper := [⟨some 87, .bini .add (.t 52) (.c (.int .i64 (1))), none⟩,
    ⟨some 52, .mov (.t 87), none⟩]
def A_link_Linked_declare_41 : ACode := (.seq (.ops [⟨some 53, .bini .lss (.t 52) (.t 51), none⟩]) (.seq (.cond (.t 53) .skip (.exit 4)) (.seq (.block 5 (.seq (.ops A_link_Linked_declare_22) (.seq (.alts [56, 57, 58, 59, 60, 61, 62, 63, 64, 65, 66, 67, 68, 69, 70] [A_link_Linked_declare_23]) (.cond (.t 70) (.orr (.alts [71, 72, 73, 74, 75, 76, 77, 78, 79, 80, 81, 82, 83, 84, 85, 86] [A_link_Linked_declare_24, A_link_Linked_declare_25, A_link_Linked_declare_26, A_link_Linked_declare_27, A_link_Linked_declare_28]) (.alts [71, 72, 73, 74, 75, 76, 77, 78, 79, 80, 81, 82, 83, 84, 85, 86] [A_link_Linked_declare_29, A_link_Linked_declare_30, A_link_Linked_declare_31, A_link_Linked_declare_32, A_link_Linked_declare_33, A_link_Linked_declare_34, A_link_Linked_declare_35, A_link_Linked_declare_36, A_link_Linked_declare_37, A_link_Linked_declare_38, A_link_Linked_declare_39])) .skip)))) (.ops A_link_Linked_declare_40))))
def A_link_Linked_declare_42 : List AOper := [⟨some 88, .mov (.t 0), none⟩,
    ⟨some 89, .mov (.t 12), none⟩,
    ⟨some 90, .faddr 3 (.t 11), none⟩,
    ⟨some 91, .ld1 (.t 90), none⟩,
    ⟨some 92, .faddr 4 (.t 11), none⟩,
    ⟨some 93, .ld1 (.t 92), none⟩,
    ⟨some 94, .call 43 [(.t 88), (.t 89), (.t 91), (.t 93)], none⟩]
def A_link_Linked_declare_43 : List AOper := [⟨some 95, .bini .add (.t 34) (.c (.int .i64 (1))), none⟩,
    ⟨some 34, .mov (.t 95), none⟩]
def A_link_Linked_declare_44 : ACode := (.seq (.ops [⟨some 35, .bini .lss (.t 34) (.t 33), none⟩]) (.seq (.cond (.t 35) .skip (.exit 2)) (.seq (.block 3 (.seq (.ops A_link_Linked_declare_18) (.seq (.ops A_link_Linked_declare_19) (.seq (.alts [43, 44, 45, 46, 47, 48] [A_link_Linked_declare_20]) (.seq (.seq (.ops A_link_Linked_declare_21) (.block 4 (.loop A_link_Linked_declare_41))) (.ops A_link_Linked_declare_42)))))) (.ops A_link_Linked_declare_43))))
def A_link_Linked_declare : ACode := (.seq (.seq (.ops A_link_Linked_declare_0) (.block 0 (.loop A_link_Linked_declare_16))) (.seq (.ops A_link_Linked_declare_17) (.block 2 (.loop A_link_Linked_declare_44))))
def R_link_Linked_declare : List ARes := []
theorem C_link_Linked_declare : compF Tryz.prog Tryz.f43 = some (A_link_Linked_declare, R_link_Linked_declare) := by kernel_rfl
def T_link_Linked_declare : FC := ⟨96, A_link_Linked_declare, R_link_Linked_declare⟩
theorem G_link_Linked_declare : GoodFC Tryz.prog F_link_Linked_declare T_link_Linked_declare := ⟨Tryz.f43, Tryz.func43, Tryz.ntmps43, C_link_Linked_declare, by kernel_rfl⟩

-- slices.Sort[[]string,string]
abbrev F_slices_Sort_string_string : Nat := 44
def A_slices_Sort_string_string_0 : List AOper := [⟨some 3, .mov (.t 0), none⟩,
    ⟨some 4, .lenl (.t 3), none⟩,
    ⟨some 2, .mov (.t 4), none⟩]
def A_slices_Sort_string_string_1 : List AOper := [⟨some 5, .mov (.t 0), none⟩,
    ⟨some 6, .mov (.t 2), none⟩,
    ⟨some 7, .mov (.t 2), none⟩,
    ⟨some 8, .conv .u64 (.t 7), none⟩,
    ⟨some 9, .call 80 [(.t 8)], none⟩,
    ⟨some 10, .call 79 [(.t 5), (.c (.int .i64 (0))), (.t 6), (.t 9)], none⟩]
def A_slices_Sort_string_string : ACode := (.seq (.ops A_slices_Sort_string_string_0) (.ops A_slices_Sort_string_string_1))
def R_slices_Sort_string_string : List ARes := []
theorem C_slices_Sort_string_string : compF Tryz.prog Tryz.f44 = some (A_slices_Sort_string_string, R_slices_Sort_string_string) := by kernel_rfl
def T_slices_Sort_string_string : FC := ⟨11, A_slices_Sort_string_string, R_slices_Sort_string_string⟩
theorem G_slices_Sort_string_string : GoodFC Tryz.prog F_slices_Sort_string_string T_slices_Sort_string_string := ⟨Tryz.f44, Tryz.func44, Tryz.ntmps44, C_slices_Sort_string_string, by kernel_rfl⟩

-- lexicon/dyn.kinds$1
abbrev F_dyn_kinds_c1 : Nat := 45
def A_dyn_kinds_c1_0 : List AOper := [⟨some 2, .box 47 3 (.t 0), none⟩,
    ⟨some 4, .mov (.c (.bool false)), none⟩]
def A_dyn_kinds_c1_1 : List AOper := [⟨some 5, .mov (.t 1), none⟩,
    ⟨some 6, .faddr 0 (.t 2), none⟩,
    ⟨some 7, .ld1 (.t 6), none⟩,
    ⟨some 8, .call 46 [(.t 5), (.t 7)], none⟩,
    ⟨some 9, .mov (.t 8), none⟩,
    ⟨some 10, .faddr 1 (.t 2), some (9, true)⟩,
    ⟨some 11, .ld1 (.t 10), some (9, true)⟩,
    ⟨some 12, .bins .eql (.t 11) (.c (.str [])), some (9, true)⟩,
    ⟨some 13, .pick (.t 9) (.t 12) (.c (.bool false)), none⟩,
    ⟨some 14, .mov (.t 13), none⟩,
    ⟨some 15, .faddr 2 (.t 2), some (14, true)⟩,
    ⟨some 16, .ld1 (.t 15), some (14, true)⟩,
    ⟨some 17, .lenl (.t 16), some (14, true)⟩,
    ⟨some 18, .bini .eql (.t 17) (.c (.int .i64 (0))), some (14, true)⟩,
    ⟨some 19, .pick (.t 14) (.t 18) (.c (.bool false)), none⟩,
    ⟨some 4, .mov (.t 19), none⟩]
def A_dyn_kinds_c1 : ACode := (.seq (.ops A_dyn_kinds_c1_0) (.seq (.ops A_dyn_kinds_c1_1) .ret))
def R_dyn_kinds_c1 : List ARes := [.tmp 4]
theorem C_dyn_kinds_c1 : compF Tryz.prog Tryz.f45 = some (A_dyn_kinds_c1, R_dyn_kinds_c1) := by kernel_rfl
def T_dyn_kinds_c1 : FC := ⟨20, A_dyn_kinds_c1, R_dyn_kinds_c1⟩
theorem G_dyn_kinds_c1 : GoodFC Tryz.prog F_dyn_kinds_c1 T_dyn_kinds_c1 := ⟨Tryz.f45, Tryz.func45, Tryz.ntmps45, C_dyn_kinds_c1, by kernel_rfl⟩

-- lexicon/nums.Fits
abbrev F_nums_Fits : Nat := 46
def A_nums_Fits_0 : List AOper := [⟨some 5, .mov (.t 0), none⟩,
    ⟨some 6, .call 81 [(.t 5)], none⟩]
def A_nums_Fits_1 : List AOper := [⟨some 8, .bini .eql (.t 6) (.c (.int .i64 (0))), none⟩,
    ⟨some 7, .mov (.t 8), none⟩]
def A_nums_Fits_2 : List AOper := [⟨some 10, .bini .eql (.t 6) (.c (.int .i64 (1))), none⟩,
    ⟨some 9, .mov (.t 10), none⟩]
def A_nums_Fits_3 : List AOper := [⟨some 11, .mov (.t 1), none⟩,
    ⟨some 12, .bini .leq (.t 11) (.c (.int .u64 (1))), none⟩,
    ⟨some 4, .mov (.t 12), none⟩]
def A_nums_Fits_4 : List AOper := [⟨some 14, .bini .eql (.t 6) (.c (.int .i64 (2))), none⟩,
    ⟨some 13, .mov (.t 14), none⟩]
def A_nums_Fits_5 : List AOper := [⟨some 15, .mov (.t 1), none⟩,
    ⟨some 16, .conv .i64 (.t 15), none⟩,
    ⟨some 17, .mov (.t 1), none⟩,
    ⟨some 18, .conv .i32 (.t 17), none⟩,
    ⟨some 19, .conv .i64 (.t 18), none⟩,
    ⟨some 20, .bini .eql (.t 16) (.t 19), none⟩,
    ⟨some 4, .mov (.t 20), none⟩]
def A_nums_Fits_6 : List AOper := [⟨some 22, .bini .eql (.t 6) (.c (.int .i64 (4))), none⟩,
    ⟨some 21, .mov (.t 22), none⟩]
def A_nums_Fits_7 : List AOper := [⟨some 23, .bini .eql (.t 6) (.c (.int .i64 (6))), none⟩,
    ⟨some 21, .mov (.t 23), none⟩]
def A_nums_Fits_8 : List AOper := [⟨some 24, .mov (.t 1), none⟩,
    ⟨some 25, .bini .leq (.t 24) (.c (.int .u64 (4294967295))), none⟩,
    ⟨some 4, .mov (.t 25), none⟩]
def A_nums_Fits : ACode := (.seq (.ops [⟨some 4, .mov (.c (.bool false)), none⟩]) (.seq (.seq (.ops A_nums_Fits_0) (.block 0 (.seq (.ops A_nums_Fits_1) (.cond (.t 7) (.seq (.ops [⟨some 4, .mov (.c (.bool false)), none⟩]) .ret) (.seq (.ops A_nums_Fits_2) (.cond (.t 9) (.seq (.ops A_nums_Fits_3) .ret) (.seq (.ops A_nums_Fits_4) (.cond (.t 13) (.seq (.ops A_nums_Fits_5) .ret) (.seq (.seq (.ops A_nums_Fits_6) (.cond (.t 21) .skip (.ops A_nums_Fits_7))) (.cond (.t 21) (.seq (.ops A_nums_Fits_8) .ret) .skip)))))))))) (.seq (.ops [⟨some 4, .mov (.c (.bool true)), none⟩]) .ret)))
def R_nums_Fits : List ARes := [.tmp 4]
theorem C_nums_Fits : compF Tryz.prog Tryz.f46 = some (A_nums_Fits, R_nums_Fits) := by kernel_rfl
def T_nums_Fits : FC := ⟨26, A_nums_Fits, R_nums_Fits⟩
theorem G_nums_Fits : GoodFC Tryz.prog F_nums_Fits T_nums_Fits := ⟨Tryz.f46, Tryz.func46, Tryz.ntmps46, C_nums_Fits, by kernel_rfl⟩

-- (*lexicon/dyn.checker).value
abbrev F_dyn_checker_value : Nat := 50
def A_dyn_checker_value_0 : List AOper := [⟨some 9, .box 47 3 (.t 3), none⟩,
    ⟨some 12, .mov (.c (.nilp)), none⟩]
def A_dyn_checker_value_1 : List AOper := [⟨some 14, .mov (.t 1), none⟩,
    ⟨some 15, .conv .i64 (.t 14), none⟩,
    ⟨some 16, .bini .geq (.t 15) (.c (.int .i64 (19))), none⟩,
    ⟨some 17, .mov (.t 16), none⟩,
    ⟨some 18, .mov (.t 0), some (17, false)⟩,
    ⟨some 19, .mov (.t 1), some (17, false)⟩,
    ⟨some 20, .nilc (.t 18), some (17, false)⟩,
    ⟨some 21, .faddr 1 (.t 20), some (17, false)⟩,
    ⟨some 22, .adr 19 1 (.t 21) (.t 19), some (17, false)⟩,
    ⟨some 23, .ld1 (.t 22), some (17, false)⟩,
    ⟨some 24, .lda 3 (.t 9), some (17, false)⟩,
    ⟨some 25, .mov (.t 1), some (17, false)⟩,
    ⟨some 26, .callv (.t 23) [(.t 24), (.t 25)], some (17, false)⟩,
    ⟨some 27, .not (.t 26), some (17, false)⟩,
    ⟨some 28, .pick (.t 17) (.c (.bool true)) (.t 27), none⟩,
    ⟨some 29, .mov (.t 28), none⟩,
    ⟨some 30, .mov (.t 1), some (29, false)⟩,
    ⟨some 31, .bini .eql (.t 30) (.c (.int .u8 (11))), some (29, false)⟩,
    ⟨some 32, .mov (.t 31), some (29, false)⟩,
    ⟨some 33, .faddr 2 (.t 9), some (32, true)⟩,
    ⟨some 34, .ld1 (.t 33), some (32, true)⟩,
    ⟨some 35, .iaddr 40 3 (.t 34) (.c (.int .i64 (0))), some (32, true)⟩,
    ⟨some 36, .faddr 0 (.t 35), some (32, true)⟩,
    ⟨some 37, .ld1 (.t 36), some (32, true)⟩,
    ⟨some 38, .mov (.t 2), some (32, true)⟩,
    ⟨some 39, .bins .neq (.t 37) (.t 38), some (32, true)⟩,
    ⟨some 40, .pick (.t 32) (.t 39) (.c (.bool false)), some (29, false)⟩,
    ⟨some 41, .pick (.t 29) (.c (.bool true)) (.t 40), none⟩,
    ⟨some 13, .mov (.t 41), none⟩]
def A_dyn_checker_value_2 : List AOper := [⟨some 42, .mov (.t 4), none⟩,
    ⟨some 43, .build [.int .i64 (0), .str []] [(0, 1, (.c (.int .i64 (102)))), (1, 1, (.t 42))], none⟩,
    ⟨some 44, .box 105 2 (.t 43), none⟩,
    ⟨some 12, .mov (.t 44), none⟩]
def A_dyn_checker_value_3 : List AOper := [⟨some 46, .mov (.t 1), none⟩,
    ⟨some 47, .bini .eql (.t 46) (.c (.int .u8 (9))), none⟩,
    ⟨some 48, .mov (.t 47), none⟩,
    ⟨some 49, .faddr 1 (.t 9), some (48, true)⟩,
    ⟨some 50, .ld1 (.t 49), some (48, true)⟩,
    ⟨some 51, .call 83 [(.t 50)], some (48, true)⟩,
    ⟨some 52, .bini .geq (.t 51) (.c (.int .i64 (0))), some (48, true)⟩,
    ⟨some 53, .pick (.t 48) (.t 52) (.c (.bool false)), none⟩,
    ⟨some 45, .mov (.t 53), none⟩]
def A_dyn_checker_value_4 : List AOper := [⟨some 54, .mov (.t 4), none⟩,
    ⟨some 55, .build [.int .i64 (0), .str []] [(0, 1, (.c (.int .i64 (103)))), (1, 1, (.t 54))], none⟩,
    ⟨some 56, .box 105 2 (.t 55), none⟩,
    ⟨some 12, .mov (.t 56), none⟩]
def A_dyn_checker_value_5 : List AOper := [⟨some 58, .mov (.t 1), none⟩,
    ⟨some 59, .bini .eql (.t 58) (.c (.int .u8 (11))), none⟩,
    ⟨some 57, .mov (.t 59), none⟩]
def A_dyn_checker_value_6 : List AOper := [⟨some 60, .mov (.t 0), none⟩,
    ⟨some 61, .faddr 2 (.t 9), none⟩,
    ⟨some 62, .ld1 (.t 61), none⟩,
    ⟨some 63, .iaddr 40 3 (.t 62) (.c (.int .i64 (0))), none⟩,
    ⟨some 64, .lda 3 (.t 63), none⟩,
    ⟨some 65, .mov (.t 4), none⟩,
    ⟨some 66, .mov (.t 5), none⟩,
    ⟨some 67, .bini .add (.t 66) (.c (.int .i64 (1))), none⟩,
    ⟨some 68, .call 84 [(.t 60), (.t 64), (.t 65), (.t 67)], none⟩,
    ⟨some 12, .mov (.t 68), none⟩]
def A_dyn_checker_value : ACode := (.seq (.ops A_dyn_checker_value_0) (.seq (.block 0 (.seq (.alts [14, 15, 16, 17, 18, 19, 20, 21, 22, 23, 24, 25, 26, 27, 28, 29, 30, 31, 32, 33, 34, 35, 36, 37, 38, 39, 40, 41, 13] [A_dyn_checker_value_1]) (.cond (.t 13) (.seq (.ops A_dyn_checker_value_2) .ret) (.seq (.ops A_dyn_checker_value_3) (.cond (.t 45) (.seq (.ops A_dyn_checker_value_4) .ret) (.seq (.ops A_dyn_checker_value_5) (.cond (.t 57) (.seq (.ops A_dyn_checker_value_6) .ret) .skip))))))) (.seq (.ops [⟨some 12, .mov (.c (.nilp)), none⟩]) .ret)))
def R_dyn_checker_value : List ARes := [.tmp 12]
theorem C_dyn_checker_value : compF Tryz.prog Tryz.f50 = some (A_dyn_checker_value, R_dyn_checker_value) := by kernel_rfl
def T_dyn_checker_value : FC := ⟨69, A_dyn_checker_value, R_dyn_checker_value⟩
theorem G_dyn_checker_value : GoodFC Tryz.prog F_dyn_checker_value T_dyn_checker_value := ⟨Tryz.f50, Tryz.func50, Tryz.ntmps50, C_dyn_checker_value, by kernel_rfl⟩

-- lexicon/dyn.Clone
abbrev F_dyn_Clone : Nat := 51
def A_dyn_Clone_0 : List AOper := [⟨some 1, .box 40 3 (.t 0), none⟩,
    ⟨some 2, .box 40 3 (.c (.agg [.str [], .nils, .nils])), none⟩]
def A_dyn_Clone_1 : List AOper := [⟨some 6, .faddr 0 (.t 1), none⟩,
    ⟨some 7, .ld1 (.t 6), none⟩,
    ⟨some 8, .faddr 2 (.t 1), none⟩,
    ⟨some 9, .ld1 (.t 8), none⟩,
    ⟨some 10, .acall 85 [(.t 9)], none⟩,
    ⟨some 11, .build [.str [], .nils, .nils] [(0, 1, (.t 7)), (2, 1, (.t 10))], none⟩,
    ⟨some 3, .box 40 3 (.c (.agg [.str [], .nils, .nils])), none⟩,
    ⟨none, .st 3 (.t 3) (.t 11), none⟩]
def A_dyn_Clone_2 : List AOper := [⟨some 6, .faddr 0 (.t 1), none⟩,
    ⟨some 7, .ld1 (.t 6), none⟩,
    ⟨some 8, .faddr 2 (.t 1), none⟩,
    ⟨some 9, .ld1 (.t 8), none⟩,
    ⟨some 10, .pcall 85 [(.t 9)], none⟩,
    ⟨some 11, .build [.str [], .nils, .nils] [(0, 1, (.t 7)), (2, 1, (.t 10))], none⟩,
    ⟨some 3, .box 40 3 (.c (.agg [.str [], .nils, .nils])), none⟩,
    ⟨none, .st 3 (.t 3) (.t 11), none⟩]
def A_dyn_Clone_3 : List AOper := [⟨some 6, .faddr 0 (.t 1), none⟩,
    ⟨some 8, .faddr 2 (.t 1), none⟩,
    ⟨some 9, .ld1 (.t 8), none⟩,
    ⟨some 7, .ld1 (.t 6), none⟩,
    ⟨some 10, .call 85 [(.t 9)], none⟩,
    ⟨some 11, .build [.str [], .nils, .nils] [(0, 1, (.t 7)), (2, 1, (.t 10))], none⟩,
    ⟨some 3, .box 40 3 (.c (.agg [.str [], .nils, .nils])), none⟩,
    ⟨none, .st 3 (.t 3) (.t 11), none⟩]
def A_dyn_Clone_4 : List AOper := [⟨some 6, .faddr 0 (.t 1), none⟩,
    ⟨some 8, .faddr 2 (.t 1), none⟩,
    ⟨some 9, .ld1 (.t 8), none⟩,
    ⟨some 7, .ld1 (.t 6), none⟩,
    ⟨some 3, .box 40 3 (.c (.agg [.str [], .nils, .nils])), none⟩,
    ⟨some 10, .call 85 [(.t 9)], none⟩,
    ⟨some 11, .build [.str [], .nils, .nils] [(0, 1, (.t 7)), (2, 1, (.t 10))], none⟩,
    ⟨none, .st 3 (.t 3) (.t 11), none⟩]
def A_dyn_Clone_5 : List AOper := [⟨some 6, .faddr 0 (.t 1), none⟩,
    ⟨some 8, .faddr 2 (.t 1), none⟩,
    ⟨some 9, .ld1 (.t 8), none⟩,
    ⟨some 10, .call 85 [(.t 9)], none⟩,
    ⟨some 7, .ld1 (.t 6), none⟩,
    ⟨some 11, .build [.str [], .nils, .nils] [(0, 1, (.t 7)), (2, 1, (.t 10))], none⟩,
    ⟨some 3, .box 40 3 (.c (.agg [.str [], .nils, .nils])), none⟩,
    ⟨none, .st 3 (.t 3) (.t 11), none⟩]
def A_dyn_Clone_6 : List AOper := [⟨some 6, .faddr 0 (.t 1), none⟩,
    ⟨some 8, .faddr 2 (.t 1), none⟩,
    ⟨some 9, .ld1 (.t 8), none⟩,
    ⟨some 3, .box 40 3 (.c (.agg [.str [], .nils, .nils])), none⟩,
    ⟨some 7, .ld1 (.t 6), none⟩,
    ⟨some 10, .call 85 [(.t 9)], none⟩,
    ⟨some 11, .build [.str [], .nils, .nils] [(0, 1, (.t 7)), (2, 1, (.t 10))], none⟩,
    ⟨none, .st 3 (.t 3) (.t 11), none⟩]
def A_dyn_Clone_7 : List AOper := [⟨some 6, .faddr 0 (.t 1), none⟩,
    ⟨some 8, .faddr 2 (.t 1), none⟩,
    ⟨some 9, .ld1 (.t 8), none⟩,
    ⟨some 3, .box 40 3 (.c (.agg [.str [], .nils, .nils])), none⟩,
    ⟨some 10, .call 85 [(.t 9)], none⟩,
    ⟨some 7, .ld1 (.t 6), none⟩,
    ⟨some 11, .build [.str [], .nils, .nils] [(0, 1, (.t 7)), (2, 1, (.t 10))], none⟩,
    ⟨none, .st 3 (.t 3) (.t 11), none⟩]
def A_dyn_Clone_8 : List AOper := [⟨some 12, .faddr 1 (.t 1), none⟩,
    ⟨some 13, .ld1 (.t 12), none⟩,
    ⟨some 14, .lenl (.t 13), none⟩,
    ⟨some 15, .mov (.c (.int .i64 (0))), none⟩]
def A_dyn_Clone_9 : List AOper := [⟨some 17, .iaddr 50 3 (.t 13) (.t 15), none⟩,
    ⟨some 18, .lda 3 (.t 17), none⟩,
    ⟨some 5, .box 50 3 (.c (.agg [.int .i32 (0), .nils, .nils])), none⟩,
    ⟨none, .st 3 (.t 5) (.t 18), none⟩]
def A_dyn_Clone_10 : List AOper := [⟨some 19, .faddr 1 (.t 3), none⟩,
    ⟨some 20, .ld1 (.t 19), none⟩,
    ⟨some 21, .lda 3 (.t 5), none⟩,
    ⟨some 22, .acall 29 [(.t 21)], none⟩,
    ⟨some 23, .bslice 50 3 1 [.int .i32 (0), .nils, .nils] [(0, 3, (.t 22))], none⟩,
    ⟨some 24, .app 50 3 56 (.t 20) (.t 23), none⟩,
    ⟨some 25, .faddr 1 (.t 3), none⟩,
    ⟨none, .st 1 (.t 25) (.t 24), none⟩]
def A_dyn_Clone_11 : List AOper := [⟨some 19, .faddr 1 (.t 3), none⟩,
    ⟨some 20, .ld1 (.t 19), none⟩,
    ⟨some 21, .lda 3 (.t 5), none⟩,
    ⟨some 22, .pcall 29 [(.t 21)], none⟩,
    ⟨some 23, .fslice 50 3 1 [.int .i32 (0), .nils, .nils] [(0, 3, (.t 22))], none⟩,
    ⟨some 24, .app 50 3 56 (.t 20) (.t 23), none⟩,
    ⟨some 25, .faddr 1 (.t 3), none⟩,
    ⟨none, .st 1 (.t 25) (.t 24), none⟩]
def A_dyn_Clone_12 : List AOper := [⟨some 19, .faddr 1 (.t 3), none⟩,
    ⟨some 21, .lda 3 (.t 5), none⟩,
    ⟨some 20, .ld1 (.t 19), none⟩,
    ⟨some 22, .call 29 [(.t 21)], none⟩,
    ⟨some 23, .bslice 50 3 1 [.int .i32 (0), .nils, .nils] [(0, 3, (.t 22))], none⟩,
    ⟨some 24, .app 50 3 56 (.t 20) (.t 23), none⟩,
    ⟨some 25, .faddr 1 (.t 3), none⟩,
    ⟨none, .st 1 (.t 25) (.t 24), none⟩]
def A_dyn_Clone_13 : List AOper := [⟨some 19, .faddr 1 (.t 3), none⟩,
    ⟨some 21, .lda 3 (.t 5), none⟩,
    ⟨some 22, .call 29 [(.t 21)], none⟩,
    ⟨some 20, .ld1 (.t 19), none⟩,
    ⟨some 23, .bslice 50 3 1 [.int .i32 (0), .nils, .nils] [(0, 3, (.t 22))], none⟩,
    ⟨some 24, .app 50 3 56 (.t 20) (.t 23), none⟩,
    ⟨some 25, .faddr 1 (.t 3), none⟩,
    ⟨none, .st 1 (.t 25) (.t 24), none⟩]
def A_dyn_Clone_14 : List AOper := [⟨some 26, .bini .add (.t 15) (.c (.int .i64 (1))), none⟩,
    ⟨some 15, .mov (.t 26), none⟩]
def A_dyn_Clone_15 : ACode := (.seq (.ops [⟨some 16, .bini .lss (.t 15) (.t 14), none⟩]) (.seq (.cond (.t 16) .skip (.exit 0)) (.seq (.block 1 (.seq (.ops A_dyn_Clone_9) (.orr (.alts [19, 20, 21, 22, 23, 24, 25] [A_dyn_Clone_10]) (.orr (.alts [19, 20, 21, 22, 23, 24, 25] [A_dyn_Clone_11]) (.alts [19, 20, 21, 22, 23, 24, 25] [A_dyn_Clone_12, A_dyn_Clone_13]))))) (.ops A_dyn_Clone_14))))
def A_dyn_Clone_16 : List AOper := [⟨some 27, .lda 3 (.t 3), none⟩,
    ⟨none, .st 3 (.t 2) (.t 27), none⟩]
def A_dyn_Clone : ACode := (.seq (.ops A_dyn_Clone_0) (.seq (.orr (.alts [6, 7, 8, 9, 10, 11, 3] [A_dyn_Clone_1]) (.orr (.alts [6, 7, 8, 9, 10, 11, 3] [A_dyn_Clone_2]) (.alts [6, 7, 8, 9, 10, 11, 3] [A_dyn_Clone_3, A_dyn_Clone_4, A_dyn_Clone_5, A_dyn_Clone_6, A_dyn_Clone_7]))) (.seq (.seq (.ops A_dyn_Clone_8) (.block 0 (.loop A_dyn_Clone_15))) (.seq (.ops A_dyn_Clone_16) .ret))))
def R_dyn_Clone : List ARes := [.cella 2 3]
theorem C_dyn_Clone : compF Tryz.prog Tryz.f51 = some (A_dyn_Clone, R_dyn_Clone) := by kernel_rfl
def T_dyn_Clone : FC := ⟨28, A_dyn_Clone, R_dyn_Clone⟩
theorem G_dyn_Clone : GoodFC Tryz.prog F_dyn_Clone T_dyn_Clone := ⟨Tryz.f51, Tryz.func51, Tryz.ntmps51, C_dyn_Clone, by kernel_rfl⟩

-- slices.DeleteFunc[[]lexicon/api.FieldValue,lexicon/api.FieldValue]
abbrev F_slices_DeleteFunc_api_FieldValue_api_FieldValue : Nat := 52
def A_slices_DeleteFunc_api_FieldValue_api_FieldValue_0 : List AOper := [⟨some 8, .mov (.t 0), none⟩,
    ⟨some 9, .mov (.t 1), none⟩,
    ⟨some 10, .call 26 [(.t 8), (.t 9)], none⟩,
    ⟨some 5, .mov (.t 10), none⟩]
def A_slices_DeleteFunc_api_FieldValue_api_FieldValue_1 : List AOper := [⟨some 11, .mov (.t 5), none⟩,
    ⟨some 12, .bini .eql (.t 11) (.c (.int .i64 (-1))), none⟩]
def A_slices_DeleteFunc_api_FieldValue_api_FieldValue_2 : List AOper := [⟨some 13, .mov (.t 0), none⟩,
    ⟨some 4, .mov (.t 13), none⟩]
def A_slices_DeleteFunc_api_FieldValue_api_FieldValue_3 : List AOper := [⟨some 14, .mov (.t 5), none⟩,
    ⟨some 15, .bini .add (.t 14) (.c (.int .i64 (1))), none⟩,
    ⟨some 6, .mov (.t 15), none⟩]
def A_slices_DeleteFunc_api_FieldValue_api_FieldValue_4 : List AOper := [⟨some 16, .mov (.t 6), none⟩,
    ⟨some 17, .mov (.t 0), none⟩,
    ⟨some 18, .lenl (.t 17), none⟩,
    ⟨some 19, .bini .lss (.t 16) (.t 18), none⟩]
def A_slices_DeleteFunc_api_FieldValue_api_FieldValue_5 : List AOper := [⟨some 22, .mov (.t 0), none⟩,
    ⟨some 23, .mov (.t 6), none⟩,
    ⟨some 24, .iaddr 50 3 (.t 22) (.t 23), none⟩,
    ⟨some 25, .lda 3 (.t 24), none⟩,
    ⟨some 7, .box 50 3 (.c (.agg [.int .i32 (0), .nils, .nils])), none⟩,
    ⟨none, .st 3 (.t 7) (.t 25), none⟩]
def A_slices_DeleteFunc_api_FieldValue_api_FieldValue_6 : List AOper := [⟨some 26, .mov (.t 1), none⟩,
    ⟨some 27, .lda 3 (.t 7), none⟩,
    ⟨some 28, .callv (.t 26) [(.t 27)], none⟩,
    ⟨some 29, .not (.t 28), none⟩]
def A_slices_DeleteFunc_api_FieldValue_api_FieldValue_7 : List AOper := [⟨some 30, .mov (.t 0), none⟩,
    ⟨some 31, .mov (.t 5), none⟩,
    ⟨some 32, .lda 3 (.t 7), none⟩,
    ⟨some 33, .iaddr 50 3 (.t 30) (.t 31), none⟩,
    ⟨none, .st 3 (.t 33) (.t 32), none⟩]
def A_slices_DeleteFunc_api_FieldValue_api_FieldValue_8 : List AOper := [⟨some 34, .mov (.t 5), none⟩,
    ⟨some 35, .bini .add (.t 34) (.c (.int .i64 (1))), none⟩,
    ⟨some 5, .mov (.t 35), none⟩]
def A_slices_DeleteFunc_api_FieldValue_api_FieldValue_9 : List AOper := [⟨some 20, .mov (.t 6), none⟩,
    ⟨some 21, .bini .add (.t 20) (.c (.int .i64 (1))), none⟩,
    ⟨some 6, .mov (.t 21), none⟩]
def A_slices_DeleteFunc_api_FieldValue_api_FieldValue_10 : ACode := (.seq (.seq (.ops A_slices_DeleteFunc_api_FieldValue_api_FieldValue_4) (.cond (.t 19) .skip (.exit 0))) (.seq (.block 1 (.seq (.ops A_slices_DeleteFunc_api_FieldValue_api_FieldValue_5) (.seq (.ops A_slices_DeleteFunc_api_FieldValue_api_FieldValue_6) (.cond (.t 29) (.seq (.ops A_slices_DeleteFunc_api_FieldValue_api_FieldValue_7) (.ops A_slices_DeleteFunc_api_FieldValue_api_FieldValue_8)) .skip)))) (.ops A_slices_DeleteFunc_api_FieldValue_api_FieldValue_9)))
def A_slices_DeleteFunc_api_FieldValue_api_FieldValue_11 : List AOper := [⟨some 36, .mov (.t 0), none⟩,
    ⟨some 37, .mov (.t 5), none⟩,
    ⟨some 38, .slcl 50 3 (.t 36) (some (.t 37)) none none, none⟩,
    ⟨none, .clr 50 [.int .i32 (0), .nils, .nils] (.t 38), none⟩]
def A_slices_DeleteFunc_api_FieldValue_api_FieldValue_12 : List AOper := [⟨some 39, .mov (.t 0), none⟩,
    ⟨some 40, .mov (.t 5), none⟩,
    ⟨some 41, .slcl 50 3 (.t 39) none (some (.t 40)) none, none⟩,
    ⟨some 4, .mov (.t 41), none⟩]
def A_slices_DeleteFunc_api_FieldValue_api_FieldValue : ACode := (.seq (.ops [⟨some 4, .mov (.c (.nils)), none⟩]) (.seq (.ops A_slices_DeleteFunc_api_FieldValue_api_FieldValue_0) (.seq (.seq (.ops A_slices_DeleteFunc_api_FieldValue_api_FieldValue_1) (.cond (.t 12) (.seq (.ops A_slices_DeleteFunc_api_FieldValue_api_FieldValue_2) .ret) .skip)) (.seq (.seq (.ops A_slices_DeleteFunc_api_FieldValue_api_FieldValue_3) (.block 0 (.loop A_slices_DeleteFunc_api_FieldValue_api_FieldValue_10))) (.seq (.ops A_slices_DeleteFunc_api_FieldValue_api_FieldValue_11) (.seq (.ops A_slices_DeleteFunc_api_FieldValue_api_FieldValue_12) .ret))))))
def R_slices_DeleteFunc_api_FieldValue_api_FieldValue : List ARes := [.tmp 4]
theorem C_slices_DeleteFunc_api_FieldValue_api_FieldValue : compF Tryz.prog Tryz.f52 = some (A_slices_DeleteFunc_api_FieldValue_api_FieldValue, R_slices_DeleteFunc_api_FieldValue_api_FieldValue) := by kernel_rfl
def T_slices_DeleteFunc_api_FieldValue_api_FieldValue : FC := ⟨42, A_slices_DeleteFunc_api_FieldValue_api_FieldValue, R_slices_DeleteFunc_api_FieldValue_api_FieldValue⟩
theorem G_slices_DeleteFunc_api_FieldValue_api_FieldValue : GoodFC Tryz.prog F_slices_DeleteFunc_api_FieldValue_api_FieldValue T_slices_DeleteFunc_api_FieldValue_api_FieldValue := ⟨Tryz.f52, Tryz.func52, Tryz.ntmps52, C_slices_DeleteFunc_api_FieldValue_api_FieldValue, by kernel_rfl⟩

-- lexicon/dyn.without$1
abbrev F_dyn_without_c1 : Nat := 53
def A_dyn_without_c1_0 : List AOper := [⟨some 2, .box 50 3 (.t 0), none⟩,
    ⟨some 3, .mov (.c (.bool false)), none⟩]
def A_dyn_without_c1_1 : List AOper := [⟨some 4, .ld1 (.t 1), none⟩,
    ⟨some 5, .faddr 0 (.t 2), none⟩,
    ⟨some 6, .ld1 (.t 5), none⟩,
    ⟨some 7, .callv (.t 4) [(.t 6)], none⟩,
    ⟨some 3, .mov (.t 7), none⟩]
def A_dyn_without_c1 : ACode := (.seq (.ops A_dyn_without_c1_0) (.seq (.ops A_dyn_without_c1_1) .ret))
def R_dyn_without_c1 : List ARes := [.tmp 3]
theorem C_dyn_without_c1 : compF Tryz.prog Tryz.f53 = some (A_dyn_without_c1, R_dyn_without_c1) := by kernel_rfl
def T_dyn_without_c1 : FC := ⟨8, A_dyn_without_c1, R_dyn_without_c1⟩
theorem G_dyn_without_c1 : GoodFC Tryz.prog F_dyn_without_c1 T_dyn_without_c1 := ⟨Tryz.f53, Tryz.func53, Tryz.ntmps53, C_dyn_without_c1, by kernel_rfl⟩

-- (*lexicon/table.Table).at
abbrev F_table_Table_at : Nat := 54
def A_table_Table_at_0 : List AOper := [⟨some 6, .box 93 9 (.c (.agg [.int .i32 (0), .str [], .str [], .int .u8 (0), .int .u8 (0), .int .u8 (0), .bool false, .int .i64 (0), .str []])), none⟩,
    ⟨some 7, .mov (.c (.bool false)), none⟩]
def A_table_Table_at_1 : List AOper := [⟨some 8, .mov (.t 2), none⟩,
    ⟨some 9, .not (.t 8), none⟩]
def A_table_Table_at_2 : List AOper := [⟨some 10, .build [.int .i32 (0), .str [], .str [], .int .u8 (0), .int .u8 (0), .int .u8 (0), .bool false, .int .i64 (0), .str []] [], none⟩,
    ⟨none, .st 9 (.t 6) (.t 10), none⟩,
    ⟨some 7, .mov (.c (.bool false)), none⟩]
def A_table_Table_at_3 : List AOper := [⟨some 11, .mov (.t 0), none⟩,
    ⟨some 12, .nilc (.t 11), none⟩,
    ⟨some 13, .faddr 2 (.t 12), none⟩,
    ⟨some 14, .ld1 (.t 13), none⟩,
    ⟨some 15, .mov (.t 1), none⟩,
    ⟨some 16, .iaddr 93 9 (.t 14) (.t 15), none⟩,
    ⟨some 17, .lda 9 (.t 16), none⟩,
    ⟨none, .st 9 (.t 6) (.t 17), none⟩,
    ⟨some 7, .mov (.c (.bool true)), none⟩]
def A_table_Table_at : ACode := (.seq (.ops A_table_Table_at_0) (.seq (.seq (.ops A_table_Table_at_1) (.cond (.t 9) (.seq (.ops A_table_Table_at_2) .ret) .skip)) (.seq (.ops A_table_Table_at_3) .ret)))
def R_table_Table_at : List ARes := [.cella 6 9, .tmp 7]
theorem C_table_Table_at : compF Tryz.prog Tryz.f54 = some (A_table_Table_at, R_table_Table_at) := by kernel_rfl
def T_table_Table_at : FC := ⟨18, A_table_Table_at, R_table_Table_at⟩
theorem G_table_Table_at : GoodFC Tryz.prog F_table_Table_at T_table_Table_at := ⟨Tryz.f54, Tryz.func54, Tryz.ntmps54, C_table_Table_at, by kernel_rfl⟩

-- lexicon/dyn.values
abbrev F_dyn_values : Nat := 57
def A_dyn_values_0 : List AOper := [⟨some 9, .mov (.t 0), none⟩,
    ⟨some 10, .lenl (.t 9), none⟩,
    ⟨some 11, .mov (.c (.int .i64 (0))), none⟩]
def A_dyn_values_1 : List AOper := [⟨some 13, .iaddr 47 3 (.t 9) (.t 11), none⟩,
    ⟨some 14, .lda 3 (.t 13), none⟩,
    ⟨some 5, .box 47 3 (.c (.agg [.int .u64 (0), .str [], .nils])), none⟩,
    ⟨none, .st 3 (.t 5) (.t 14), none⟩]
def A_dyn_values_2 : List AOper := [⟨some 15, .faddr 0 (.t 5), none⟩,
    ⟨some 16, .ld1 (.t 15), none⟩,
    ⟨some 17, .faddr 1 (.t 5), none⟩,
    ⟨some 18, .ld1 (.t 17), none⟩,
    ⟨some 19, .build [.int .u64 (0), .str [], .nils] [(0, 1, (.t 16)), (1, 1, (.t 18))], none⟩,
    ⟨some 6, .box 47 3 (.c (.agg [.int .u64 (0), .str [], .nils])), none⟩,
    ⟨none, .st 3 (.t 6) (.t 19), none⟩]
def A_dyn_values_3 : List AOper := [⟨some 20, .faddr 2 (.t 5), none⟩,
    ⟨some 21, .ld1 (.t 20), none⟩,
    ⟨some 22, .lenl (.t 21), none⟩,
    ⟨some 23, .mov (.c (.int .i64 (0))), none⟩]
def A_dyn_values_4 : List AOper := [⟨some 25, .iaddr 40 3 (.t 21) (.t 23), none⟩,
    ⟨some 26, .lda 3 (.t 25), none⟩,
    ⟨some 8, .box 40 3 (.c (.agg [.str [], .nils, .nils])), none⟩,
    ⟨none, .st 3 (.t 8) (.t 26), none⟩]
def A_dyn_values_5 : List AOper := [⟨some 27, .faddr 2 (.t 6), none⟩,
    ⟨some 28, .ld1 (.t 27), none⟩,
    ⟨some 29, .lda 3 (.t 8), none⟩,
    ⟨some 30, .acall 51 [(.t 29)], none⟩,
    ⟨some 31, .bslice 40 3 1 [.str [], .nils, .nils] [(0, 3, (.t 30))], none⟩,
    ⟨some 32, .app 40 3 64 (.t 28) (.t 31), none⟩,
    ⟨some 33, .faddr 2 (.t 6), none⟩,
    ⟨none, .st 1 (.t 33) (.t 32), none⟩]
def A_dyn_values_6 : List AOper := [⟨some 27, .faddr 2 (.t 6), none⟩,
    ⟨some 28, .ld1 (.t 27), none⟩,
    ⟨some 29, .lda 3 (.t 8), none⟩,
    ⟨some 30, .pcall 51 [(.t 29)], none⟩,
    ⟨some 31, .fslice 40 3 1 [.str [], .nils, .nils] [(0, 3, (.t 30))], none⟩,
    ⟨some 32, .app 40 3 64 (.t 28) (.t 31), none⟩,
    ⟨some 33, .faddr 2 (.t 6), none⟩,
    ⟨none, .st 1 (.t 33) (.t 32), none⟩]
def A_dyn_values_7 : List AOper := [⟨some 27, .faddr 2 (.t 6), none⟩,
    ⟨some 29, .lda 3 (.t 8), none⟩,
    ⟨some 28, .ld1 (.t 27), none⟩,
    ⟨some 30, .call 51 [(.t 29)], none⟩,
    ⟨some 31, .bslice 40 3 1 [.str [], .nils, .nils] [(0, 3, (.t 30))], none⟩,
    ⟨some 32, .app 40 3 64 (.t 28) (.t 31), none⟩,
    ⟨some 33, .faddr 2 (.t 6), none⟩,
    ⟨none, .st 1 (.t 33) (.t 32), none⟩]
def A_dyn_values_8 : List AOper := [⟨some 27, .faddr 2 (.t 6), none⟩,
    ⟨some 29, .lda 3 (.t 8), none⟩,
    ⟨some 30, .call 51 [(.t 29)], none⟩,
    ⟨some 28, .ld1 (.t 27), none⟩,
    ⟨some 31, .bslice 40 3 1 [.str [], .nils, .nils] [(0, 3, (.t 30))], none⟩,
    ⟨some 32, .app 40 3 64 (.t 28) (.t 31), none⟩,
    ⟨some 33, .faddr 2 (.t 6), none⟩,
    ⟨none, .st 1 (.t 33) (.t 32), none⟩]
def A_dyn_values_9 : List AOper := [⟨some 34, .bini .add (.t 23) (.c (.int .i64 (1))), none⟩,
    ⟨some 23, .mov (.t 34), none⟩]
def A_dyn_values_10 : ACode := (.seq (.ops [⟨some 24, .bini .lss (.t 23) (.t 22), none⟩]) (.seq (.cond (.t 24) .skip (.exit 2)) (.seq (.block 3 (.seq (.ops A_dyn_values_4) (.orr (.alts [27, 28, 29, 30, 31, 32, 33] [A_dyn_values_5]) (.orr (.alts [27, 28, 29, 30, 31, 32, 33] [A_dyn_values_6]) (.alts [27, 28, 29, 30, 31, 32, 33] [A_dyn_values_7, A_dyn_values_8]))))) (.ops A_dyn_values_9))))
def A_dyn_values_11 : List AOper := [⟨some 35, .mov (.t 3), none⟩,
    ⟨some 36, .lda 3 (.t 6), none⟩,
    ⟨some 37, .bslice 47 3 1 [.int .u64 (0), .str [], .nils] [(0, 3, (.t 36))], none⟩,
    ⟨some 38, .app 47 3 48 (.t 35) (.t 37), none⟩,
    ⟨some 3, .mov (.t 38), none⟩]
def A_dyn_values_12 : List AOper := [⟨some 39, .bini .add (.t 11) (.c (.int .i64 (1))), none⟩,
    ⟨some 11, .mov (.t 39), none⟩]
def A_dyn_values_13 : ACode := (.seq (.ops [⟨some 12, .bini .lss (.t 11) (.t 10), none⟩]) (.seq (.cond (.t 12) .skip (.exit 0)) (.seq (.block 1 (.seq (.ops A_dyn_values_1) (.seq (.ops A_dyn_values_2) (.seq (.seq (.ops A_dyn_values_3) (.block 2 (.loop A_dyn_values_10))) (.ops A_dyn_values_11))))) (.ops A_dyn_values_12))))
def A_dyn_values_14 : List AOper := [⟨some 40, .mov (.t 3), none⟩,
    ⟨some 2, .mov (.t 40), none⟩]
def A_dyn_values : ACode := (.seq (.ops [⟨some 2, .mov (.c (.nils)), none⟩]) (.seq (.ops [⟨some 3, .mov (.c (.nils)), none⟩]) (.seq (.seq (.ops A_dyn_values_0) (.block 0 (.loop A_dyn_values_13))) (.seq (.ops A_dyn_values_14) .ret))))
def R_dyn_values : List ARes := [.tmp 2]
theorem C_dyn_values : compF Tryz.prog Tryz.f57 = some (A_dyn_values, R_dyn_values) := by kernel_rfl
def T_dyn_values : FC := ⟨41, A_dyn_values, R_dyn_values⟩
theorem G_dyn_values : GoodFC Tryz.prog F_dyn_values T_dyn_values := ⟨Tryz.f57, Tryz.func57, Tryz.ntmps57, C_dyn_values, by kernel_rfl⟩

-- lexicon/dyn.implicit
abbrev F_dyn_implicit : Nat := 58
def A_dyn_implicit_0 : List AOper := [⟨some 1, .box 93 9 (.t 0), none⟩,
    ⟨some 2, .mov (.c (.bool false)), none⟩]
def A_dyn_implicit_1 : List AOper := [⟨some 3, .faddr 3 (.t 1), none⟩,
    ⟨some 4, .ld1 (.t 3), none⟩,
    ⟨some 5, .bini .eql (.t 4) (.c (.int .u8 (1))), none⟩,
    ⟨some 6, .mov (.t 5), none⟩,
    ⟨some 7, .faddr 4 (.t 1), some (6, true)⟩,
    ⟨some 8, .ld1 (.t 7), some (6, true)⟩,
    ⟨some 9, .bini .neq (.t 8) (.c (.int .u8 (11))), some (6, true)⟩,
    ⟨some 10, .pick (.t 6) (.t 9) (.c (.bool false)), none⟩,
    ⟨some 11, .mov (.t 10), none⟩,
    ⟨some 12, .faddr 7 (.t 1), some (11, true)⟩,
    ⟨some 13, .ld1 (.t 12), some (11, true)⟩,
    ⟨some 14, .bini .eql (.t 13) (.c (.int .i64 (0))), some (11, true)⟩,
    ⟨some 15, .pick (.t 11) (.t 14) (.c (.bool false)), none⟩,
    ⟨some 2, .mov (.t 15), none⟩]
def A_dyn_implicit : ACode := (.seq (.ops A_dyn_implicit_0) (.seq (.ops A_dyn_implicit_1) .ret))
def R_dyn_implicit : List ARes := [.tmp 2]
theorem C_dyn_implicit : compF Tryz.prog Tryz.f58 = some (A_dyn_implicit, R_dyn_implicit) := by kernel_rfl
def T_dyn_implicit : FC := ⟨16, A_dyn_implicit, R_dyn_implicit⟩
theorem G_dyn_implicit : GoodFC Tryz.prog F_dyn_implicit T_dyn_implicit := ⟨Tryz.f58, Tryz.func58, Tryz.ntmps58, C_dyn_implicit, by kernel_rfl⟩

-- lexicon/dyn.zero
abbrev F_dyn_zero : Nat := 59
def A_dyn_zero_0 : List AOper := [⟨some 1, .box 47 3 (.t 0), none⟩,
    ⟨some 2, .mov (.c (.bool false)), none⟩]
def A_dyn_zero_1 : List AOper := [⟨some 3, .faddr 0 (.t 1), none⟩,
    ⟨some 4, .ld1 (.t 3), none⟩,
    ⟨some 5, .bini .eql (.t 4) (.c (.int .u64 (0))), none⟩,
    ⟨some 6, .mov (.t 5), none⟩,
    ⟨some 7, .faddr 1 (.t 1), some (6, true)⟩,
    ⟨some 8, .ld1 (.t 7), some (6, true)⟩,
    ⟨some 9, .bins .eql (.t 8) (.c (.str [])), some (6, true)⟩,
    ⟨some 10, .pick (.t 6) (.t 9) (.c (.bool false)), none⟩,
    ⟨some 11, .mov (.t 10), none⟩,
    ⟨some 12, .faddr 2 (.t 1), some (11, true)⟩,
    ⟨some 13, .ld1 (.t 12), some (11, true)⟩,
    ⟨some 14, .lenl (.t 13), some (11, true)⟩,
    ⟨some 15, .bini .eql (.t 14) (.c (.int .i64 (0))), some (11, true)⟩,
    ⟨some 16, .pick (.t 11) (.t 15) (.c (.bool false)), none⟩,
    ⟨some 2, .mov (.t 16), none⟩]
def A_dyn_zero : ACode := (.seq (.ops A_dyn_zero_0) (.seq (.ops A_dyn_zero_1) .ret))
def R_dyn_zero : List ARes := [.tmp 2]
theorem C_dyn_zero : compF Tryz.prog Tryz.f59 = some (A_dyn_zero, R_dyn_zero) := by kernel_rfl
def T_dyn_zero : FC := ⟨17, A_dyn_zero, R_dyn_zero⟩
theorem G_dyn_zero : GoodFC Tryz.prog F_dyn_zero T_dyn_zero := ⟨Tryz.f59, Tryz.func59, Tryz.ntmps59, C_dyn_zero, by kernel_rfl⟩

-- slices.Clone[[]lexicon/api.Import,lexicon/api.Import]
abbrev F_slices_Clone_api_Import_api_Import : Nat := 60
def A_slices_Clone_api_Import_api_Import_0 : List AOper := [⟨some 3, .mov (.t 0), none⟩,
    ⟨some 4, .isnil .sl false (.t 3), none⟩]
def A_slices_Clone_api_Import_api_Import_1 : List AOper := [⟨some 5, .bslice0 126, none⟩,
    ⟨some 6, .mov (.t 0), none⟩,
    ⟨some 7, .app 126 2 24 (.t 5) (.t 6), none⟩,
    ⟨some 2, .mov (.t 7), none⟩]
def A_slices_Clone_api_Import_api_Import : ACode := (.seq (.ops [⟨some 2, .mov (.c (.nils)), none⟩]) (.seq (.seq (.ops A_slices_Clone_api_Import_api_Import_0) (.cond (.t 4) (.seq (.ops [⟨some 2, .mov (.c (.nils)), none⟩]) .ret) .skip)) (.seq (.ops A_slices_Clone_api_Import_api_Import_1) .ret)))
def R_slices_Clone_api_Import_api_Import : List ARes := [.tmp 2]
theorem C_slices_Clone_api_Import_api_Import : compF Tryz.prog Tryz.f60 = some (A_slices_Clone_api_Import_api_Import, R_slices_Clone_api_Import_api_Import) := by kernel_rfl
def T_slices_Clone_api_Import_api_Import : FC := ⟨8, A_slices_Clone_api_Import_api_Import, R_slices_Clone_api_Import_api_Import⟩
theorem G_slices_Clone_api_Import_api_Import : GoodFC Tryz.prog F_slices_Clone_api_Import_api_Import T_slices_Clone_api_Import_api_Import := ⟨Tryz.f60, Tryz.func60, Tryz.ntmps60, C_slices_Clone_api_Import_api_Import, by kernel_rfl⟩

-- lexicon/link.cloneAll
abbrev F_link_cloneAll : Nat := 61
def A_link_cloneAll_0 : List AOper := [⟨some 4, .mov (.c (.nils)), none⟩,
    ⟨some 5, .mov (.c (.nils)), none⟩]
def A_link_cloneAll_1 : List AOper := [⟨some 12, .mov (.t 0), none⟩,
    ⟨some 13, .lenl (.t 12), none⟩,
    ⟨some 14, .mov (.c (.int .i64 (0))), none⟩]
def A_link_cloneAll_2 : List AOper := [⟨some 16, .iaddr 76 7 (.t 12) (.t 14), none⟩,
    ⟨some 17, .lda 7 (.t 16), none⟩,
    ⟨some 8, .box 76 7 (.c (.agg [.str [], .nils, .nils, .nils, .nils, .nils, .nils])), none⟩,
    ⟨none, .st 7 (.t 8) (.t 17), none⟩]
def A_link_cloneAll_3 : List AOper := [⟨some 18, .mov (.t 6), none⟩,
    ⟨some 19, .lda 7 (.t 8), none⟩,
    ⟨some 20, .call 87 [(.t 19)], none⟩,
    ⟨some 21, .bslice 76 7 1 [.str [], .nils, .nils, .nils, .nils, .nils, .nils] [(0, 7, (.t 20))], none⟩,
    ⟨some 22, .app 76 7 160 (.t 18) (.t 21), none⟩,
    ⟨some 6, .mov (.t 22), none⟩]
def A_link_cloneAll_4 : List AOper := [⟨some 23, .bini .add (.t 14) (.c (.int .i64 (1))), none⟩,
    ⟨some 14, .mov (.t 23), none⟩]
def A_link_cloneAll_5 : ACode := (.seq (.ops [⟨some 15, .bini .lss (.t 14) (.t 13), none⟩]) (.seq (.cond (.t 15) .skip (.exit 0)) (.seq (.block 1 (.seq (.ops A_link_cloneAll_2) (.ops A_link_cloneAll_3))) (.ops A_link_cloneAll_4))))
def A_link_cloneAll_6 : List AOper := [⟨some 24, .mov (.t 1), none⟩,
    ⟨some 25, .lenl (.t 24), none⟩,
    ⟨some 26, .mov (.c (.int .i64 (0))), none⟩]
def A_link_cloneAll_7 : List AOper := [⟨some 28, .iaddr 176 5 (.t 24) (.t 26), none⟩,
    ⟨some 29, .lda 5 (.t 28), none⟩,
    ⟨some 11, .box 176 5 (.c (.agg [.str [], .nils, .bool false, .nils, .nils])), none⟩,
    ⟨none, .st 5 (.t 11) (.t 29), none⟩]
def A_link_cloneAll_8 : List AOper := [⟨some 30, .mov (.t 9), none⟩,
    ⟨some 31, .lda 5 (.t 11), none⟩,
    ⟨some 32, .call 88 [(.t 31)], none⟩,
    ⟨some 33, .bslice 176 5 1 [.str [], .nils, .bool false, .nils, .nils] [(0, 5, (.t 32))], none⟩,
    ⟨some 34, .app 176 5 96 (.t 30) (.t 33), none⟩,
    ⟨some 9, .mov (.t 34), none⟩]
def A_link_cloneAll_9 : List AOper := [⟨some 35, .bini .add (.t 26) (.c (.int .i64 (1))), none⟩,
    ⟨some 26, .mov (.t 35), none⟩]
def A_link_cloneAll_10 : ACode := (.seq (.ops [⟨some 27, .bini .lss (.t 26) (.t 25), none⟩]) (.seq (.cond (.t 27) .skip (.exit 2)) (.seq (.block 3 (.seq (.ops A_link_cloneAll_7) (.ops A_link_cloneAll_8))) (.ops A_link_cloneAll_9))))
def A_link_cloneAll_11 : List AOper := [⟨some 36, .mov (.t 6), none⟩,
    ⟨some 37, .mov (.t 9), none⟩,
    ⟨some 4, .mov (.t 36), none⟩,
    ⟨some 5, .mov (.t 37), none⟩]
def A_link_cloneAll : ACode := (.seq (.ops A_link_cloneAll_0) (.seq (.ops [⟨some 6, .mov (.c (.nils)), none⟩]) (.seq (.seq (.ops A_link_cloneAll_1) (.block 0 (.loop A_link_cloneAll_5))) (.seq (.ops [⟨some 9, .mov (.c (.nils)), none⟩]) (.seq (.seq (.ops A_link_cloneAll_6) (.block 2 (.loop A_link_cloneAll_10))) (.seq (.ops A_link_cloneAll_11) .ret))))))
def R_link_cloneAll : List ARes := [.tmp 4, .tmp 5]
theorem C_link_cloneAll : compF Tryz.prog Tryz.f61 = some (A_link_cloneAll, R_link_cloneAll) := by kernel_rfl
def T_link_cloneAll : FC := ⟨38, A_link_cloneAll, R_link_cloneAll⟩
theorem G_link_cloneAll : GoodFC Tryz.prog F_link_cloneAll T_link_cloneAll := ⟨Tryz.f61, Tryz.func61, Tryz.ntmps61, C_link_cloneAll, by kernel_rfl⟩

-- slices.Sorted[string]
abbrev F_slices_Sorted_string : Nat := 62
def A_slices_Sorted_string_0 : List AOper := [⟨some 4, .mov (.t 0), none⟩,
    ⟨some 5, .call 89 [(.t 4)], none⟩,
    ⟨some 3, .mov (.t 5), none⟩]
def A_slices_Sorted_string_1 : List AOper := [⟨some 6, .mov (.t 3), none⟩,
    ⟨some 7, .call 44 [(.t 6)], none⟩]
def A_slices_Sorted_string_2 : List AOper := [⟨some 8, .mov (.t 3), none⟩,
    ⟨some 2, .mov (.t 8), none⟩]
def A_slices_Sorted_string : ACode := (.seq (.ops [⟨some 2, .mov (.c (.nils)), none⟩]) (.seq (.ops A_slices_Sorted_string_0) (.seq (.ops A_slices_Sorted_string_1) (.seq (.ops A_slices_Sorted_string_2) .ret))))
def R_slices_Sorted_string : List ARes := [.tmp 2]
theorem C_slices_Sorted_string : compF Tryz.prog Tryz.f62 = some (A_slices_Sorted_string, R_slices_Sorted_string) := by kernel_rfl
def T_slices_Sorted_string : FC := ⟨9, A_slices_Sorted_string, R_slices_Sorted_string⟩
theorem G_slices_Sorted_string : GoodFC Tryz.prog F_slices_Sorted_string T_slices_Sorted_string := ⟨Tryz.f62, Tryz.func62, Tryz.ntmps62, C_slices_Sorted_string, by kernel_rfl⟩

-- maps.Keys[map[string]*lexicon/link.file,string,*lexicon/link.file]
abbrev F_maps_Keys_map_string_link_file_string_link_file : Nat := 63
def A_maps_Keys_map_string_link_file_string_link_file_0 : List AOper := [⟨some 1, .box 59 1 (.t 0), none⟩,
    ⟨some 2, .mov (.c (.nilf)), none⟩]
def A_maps_Keys_map_string_link_file_string_link_file_1 : List AOper := [⟨some 3, .mkfn 90 [] [(.t 1)], none⟩,
    ⟨some 2, .mov (.t 3), none⟩]
def A_maps_Keys_map_string_link_file_string_link_file : ACode := (.seq (.ops A_maps_Keys_map_string_link_file_string_link_file_0) (.seq (.ops A_maps_Keys_map_string_link_file_string_link_file_1) .ret))
def R_maps_Keys_map_string_link_file_string_link_file : List ARes := [.tmp 2]
theorem C_maps_Keys_map_string_link_file_string_link_file : compF Tryz.prog Tryz.f63 = some (A_maps_Keys_map_string_link_file_string_link_file, R_maps_Keys_map_string_link_file_string_link_file) := by kernel_rfl
def T_maps_Keys_map_string_link_file_string_link_file : FC := ⟨4, A_maps_Keys_map_string_link_file_string_link_file, R_maps_Keys_map_string_link_file_string_link_file⟩
theorem G_maps_Keys_map_string_link_file_string_link_file : GoodFC Tryz.prog F_maps_Keys_map_string_link_file_string_link_file T_maps_Keys_map_string_link_file_string_link_file := ⟨Tryz.f63, Tryz.func63, Tryz.ntmps63, C_maps_Keys_map_string_link_file_string_link_file, by kernel_rfl⟩

-- lexicon/check.Check$1
abbrev F_check_Check_c1 : Nat := 64
def A_check_Check_c1_0 : List AOper := [⟨some 7, .tass 166 true (.agg [.int .i64 (0), .str []]) (.t 4), none⟩,
    ⟨some 8, .ext 1 (.t 7), none⟩,
    ⟨some 9, .ext 0 (.t 7), none⟩]
def A_check_Check_c1_1 : List AOper := [⟨some 2, .box 166 2 (.c (.agg [.int .i64 (0), .str []])), none⟩,
    ⟨none, .st 2 (.t 2) (.t 9), none⟩]
def A_check_Check_c1_2 : List AOper := [⟨some 10, .faddr 0 (.t 2), none⟩,
    ⟨some 11, .lda 2 (.t 10), none⟩,
    ⟨none, .st 2 (.t 0) (.t 11), none⟩]
def A_check_Check_c1_3 : List AOper := [⟨some 5, .mov (.t 3), none⟩,
    ⟨none, .pan (.t 5), none⟩]
def A_check_Check_c1 : ACode := (.seq (.recv (some 4) []) (.block 0 (.seq (.ops [⟨some 6, .isnil .ic false (.t 4), none⟩]) (.cond (.t 6) (.ops [⟨some 1, .mov (.t 4), none⟩]) (.seq (.ops A_check_Check_c1_0) (.cond (.t 8) (.seq (.ops A_check_Check_c1_1) (.ops A_check_Check_c1_2)) (.seq (.ops [⟨some 3, .mov (.t 4), none⟩]) (.ops A_check_Check_c1_3))))))))
def R_check_Check_c1 : List ARes := []
theorem C_check_Check_c1 : compF Tryz.prog Tryz.f64 = some (A_check_Check_c1, R_check_Check_c1) := by kernel_rfl
def T_check_Check_c1 : FC := ⟨12, A_check_Check_c1, R_check_Check_c1⟩
theorem G_check_Check_c1 : GoodFC Tryz.prog F_check_Check_c1 T_check_Check_c1 := ⟨Tryz.f64, Tryz.func64, Tryz.ntmps64, C_check_Check_c1, by kernel_rfl⟩

-- (*lexicon/check.reader).file
abbrev F_check_reader_file : Nat := 65
def A_check_reader_file_0 : List AOper := [⟨some 11, .faddr 0 (.t 3), none⟩,
    ⟨some 12, .ld1 (.t 11), none⟩,
    ⟨some 14, .faddr 0 (.t 3), none⟩,
    ⟨some 15, .ld1 (.t 14), none⟩,
    ⟨some 13, .acall 92 [(.t 12)], none⟩,
    ⟨some 16, .acall 91 [(.t 13), (.c (.int .i64 (60))), (.t 15)], none⟩]
def A_check_reader_file_1 : List AOper := [⟨some 11, .faddr 0 (.t 3), none⟩,
    ⟨some 12, .ld1 (.t 11), none⟩,
    ⟨some 13, .pcall 92 [(.t 12)], none⟩,
    ⟨some 14, .faddr 0 (.t 3), none⟩,
    ⟨some 15, .ld1 (.t 14), none⟩,
    ⟨some 16, .pcall 91 [(.t 13), (.c (.int .i64 (60))), (.t 15)], none⟩]
def A_check_reader_file_2 : List AOper := [⟨some 11, .faddr 0 (.t 3), none⟩,
    ⟨some 12, .ld1 (.t 11), none⟩,
    ⟨some 14, .faddr 0 (.t 3), none⟩,
    ⟨some 13, .call 92 [(.t 12)], none⟩,
    ⟨some 15, .ld1 (.t 14), none⟩,
    ⟨some 16, .call 91 [(.t 13), (.c (.int .i64 (60))), (.t 15)], none⟩]
def A_check_reader_file_3 : List AOper := [⟨some 11, .faddr 0 (.t 3), none⟩,
    ⟨some 12, .ld1 (.t 11), none⟩,
    ⟨some 14, .faddr 0 (.t 3), none⟩,
    ⟨some 15, .ld1 (.t 14), none⟩,
    ⟨some 13, .call 92 [(.t 12)], none⟩,
    ⟨some 16, .call 91 [(.t 13), (.c (.int .i64 (60))), (.t 15)], none⟩]
def A_check_reader_file_4 : List AOper := [⟨some 17, .faddr 1 (.t 3), none⟩,
    ⟨some 18, .ld1 (.t 17), none⟩,
    ⟨some 19, .bins .eql (.t 18) (.c (.str [])), none⟩,
    ⟨some 20, .mov (.t 19), none⟩,
    ⟨some 21, .faddr 1 (.t 3), some (20, false)⟩,
    ⟨some 22, .ld1 (.t 21), some (20, false)⟩,
    ⟨some 25, .faddr 1 (.t 3), none⟩,
    ⟨some 26, .ld1 (.t 25), none⟩,
    ⟨some 23, .acall 93 [(.t 22)], some (20, false)⟩,
    ⟨some 24, .pick (.t 20) (.c (.bool true)) (.t 23), none⟩,
    ⟨some 27, .acall 91 [(.t 24), (.c (.int .i64 (60))), (.t 26)], none⟩]
def A_check_reader_file_5 : List AOper := [⟨some 17, .faddr 1 (.t 3), none⟩,
    ⟨some 18, .ld1 (.t 17), none⟩,
    ⟨some 19, .bins .eql (.t 18) (.c (.str [])), none⟩,
    ⟨some 20, .mov (.t 19), none⟩,
    ⟨some 21, .faddr 1 (.t 3), some (20, false)⟩,
    ⟨some 22, .ld1 (.t 21), some (20, false)⟩,
    ⟨some 23, .pcall 93 [(.t 22)], some (20, false)⟩,
    ⟨some 24, .pick (.t 20) (.c (.bool true)) (.t 23), none⟩,
    ⟨some 25, .faddr 1 (.t 3), none⟩,
    ⟨some 26, .ld1 (.t 25), none⟩,
    ⟨some 27, .pcall 91 [(.t 24), (.c (.int .i64 (60))), (.t 26)], none⟩]
def A_check_reader_file_6 : List AOper := [⟨some 17, .faddr 1 (.t 3), none⟩,
    ⟨some 18, .ld1 (.t 17), none⟩,
    ⟨some 19, .bins .eql (.t 18) (.c (.str [])), none⟩,
    ⟨some 20, .mov (.t 19), none⟩,
    ⟨some 21, .faddr 1 (.t 3), some (20, false)⟩,
    ⟨some 22, .ld1 (.t 21), some (20, false)⟩,
    ⟨some 25, .faddr 1 (.t 3), none⟩,
    ⟨some 23, .call 93 [(.t 22)], some (20, false)⟩,
    ⟨some 24, .pick (.t 20) (.c (.bool true)) (.t 23), none⟩,
    ⟨some 26, .ld1 (.t 25), none⟩,
    ⟨some 27, .call 91 [(.t 24), (.c (.int .i64 (60))), (.t 26)], none⟩]
def A_check_reader_file_7 : List AOper := [⟨some 17, .faddr 1 (.t 3), none⟩,
    ⟨some 18, .ld1 (.t 17), none⟩,
    ⟨some 19, .bins .eql (.t 18) (.c (.str [])), none⟩,
    ⟨some 20, .mov (.t 19), none⟩,
    ⟨some 21, .faddr 1 (.t 3), some (20, false)⟩,
    ⟨some 22, .ld1 (.t 21), some (20, false)⟩,
    ⟨some 25, .faddr 1 (.t 3), none⟩,
    ⟨some 26, .ld1 (.t 25), none⟩,
    ⟨some 23, .call 93 [(.t 22)], some (20, false)⟩,
    ⟨some 24, .pick (.t 20) (.c (.bool true)) (.t 23), none⟩,
    ⟨some 27, .call 91 [(.t 24), (.c (.int .i64 (60))), (.t 26)], none⟩]
def A_check_reader_file_8 : List AOper := [⟨some 28, .faddr 2 (.t 3), none⟩,
    ⟨some 29, .ld1 (.t 28), none⟩,
    ⟨some 30, .lenl (.t 29), none⟩,
    ⟨some 31, .bini .leq (.t 30) (.c (.int .i64 (256))), none⟩,
    ⟨some 32, .faddr 0 (.t 3), none⟩,
    ⟨some 33, .ld1 (.t 32), none⟩,
    ⟨some 34, .call 91 [(.t 31), (.c (.int .i64 (68))), (.t 33)], none⟩]
def A_check_reader_file_9 : List AOper := [⟨some 35, .mkmap, none⟩,
    ⟨some 4, .mov (.t 35), none⟩]
def A_check_reader_file_10 : List AOper := [⟨some 36, .faddr 2 (.t 3), none⟩,
    ⟨some 37, .ld1 (.t 36), none⟩,
    ⟨some 38, .lenl (.t 37), none⟩,
    ⟨some 39, .mov (.c (.int .i64 (0))), none⟩]
def A_check_reader_file_11 : List AOper := [⟨some 41, .iaddr 126 2 (.t 37) (.t 39), none⟩,
    ⟨some 42, .lda 2 (.t 41), none⟩,
    ⟨some 6, .box 126 2 (.c (.agg [.str [], .bool false])), none⟩,
    ⟨none, .st 2 (.t 6) (.t 42), none⟩]
def A_check_reader_file_12 : List AOper := [⟨some 43, .faddr 0 (.t 6), none⟩,
    ⟨some 44, .ld1 (.t 43), none⟩,
    ⟨some 46, .faddr 0 (.t 6), none⟩,
    ⟨some 47, .ld1 (.t 46), none⟩,
    ⟨some 45, .acall 92 [(.t 44)], none⟩,
    ⟨some 48, .acall 91 [(.t 45), (.c (.int .i64 (60))), (.t 47)], none⟩]
def A_check_reader_file_13 : List AOper := [⟨some 43, .faddr 0 (.t 6), none⟩,
    ⟨some 44, .ld1 (.t 43), none⟩,
    ⟨some 45, .pcall 92 [(.t 44)], none⟩,
    ⟨some 46, .faddr 0 (.t 6), none⟩,
    ⟨some 47, .ld1 (.t 46), none⟩,
    ⟨some 48, .pcall 91 [(.t 45), (.c (.int .i64 (60))), (.t 47)], none⟩]
def A_check_reader_file_14 : List AOper := [⟨some 43, .faddr 0 (.t 6), none⟩,
    ⟨some 44, .ld1 (.t 43), none⟩,
    ⟨some 46, .faddr 0 (.t 6), none⟩,
    ⟨some 45, .call 92 [(.t 44)], none⟩,
    ⟨some 47, .ld1 (.t 46), none⟩,
    ⟨some 48, .call 91 [(.t 45), (.c (.int .i64 (60))), (.t 47)], none⟩]
def A_check_reader_file_15 : List AOper := [⟨some 43, .faddr 0 (.t 6), none⟩,
    ⟨some 44, .ld1 (.t 43), none⟩,
    ⟨some 46, .faddr 0 (.t 6), none⟩,
    ⟨some 47, .ld1 (.t 46), none⟩,
    ⟨some 45, .call 92 [(.t 44)], none⟩,
    ⟨some 48, .call 91 [(.t 45), (.c (.int .i64 (60))), (.t 47)], none⟩]
def A_check_reader_file_16 : List AOper := [⟨some 49, .mov (.t 4), none⟩,
    ⟨some 50, .faddr 0 (.t 6), none⟩,
    ⟨some 51, .ld1 (.t 50), none⟩,
    ⟨some 52, .mlook .s (.int .i64 (0)) false (.t 49) (.t 51), none⟩,
    ⟨some 53, .bini .add (.t 52) (.c (.int .i64 (1))), none⟩,
    ⟨none, .mupd .s (.t 49) (.t 51) (.t 53), none⟩]
def A_check_reader_file_17 : List AOper := [⟨some 54, .mov (.t 4), none⟩,
    ⟨some 55, .faddr 0 (.t 6), none⟩,
    ⟨some 56, .ld1 (.t 55), none⟩,
    ⟨some 57, .mlook .s (.int .i64 (0)) false (.t 54) (.t 56), none⟩,
    ⟨some 58, .bini .eql (.t 57) (.c (.int .i64 (1))), none⟩,
    ⟨some 59, .faddr 0 (.t 6), none⟩,
    ⟨some 60, .ld1 (.t 59), none⟩,
    ⟨some 61, .call 91 [(.t 58), (.c (.int .i64 (61))), (.t 60)], none⟩]
def A_check_reader_file_18 : List AOper := [⟨some 62, .bini .add (.t 39) (.c (.int .i64 (1))), none⟩,
    ⟨some 39, .mov (.t 62), none⟩]
def A_check_reader_file_19 : ACode := (.seq (.ops [⟨some 40, .bini .lss (.t 39) (.t 38), none⟩]) (.seq (.cond (.t 40) .skip (.exit 0)) (.seq (.block 1 (.seq (.ops A_check_reader_file_11) (.seq (.orr (.alts [43, 44, 45, 46, 47, 48] [A_check_reader_file_12]) (.orr (.alts [43, 44, 45, 46, 47, 48] [A_check_reader_file_13]) (.alts [43, 44, 45, 46, 47, 48] [A_check_reader_file_14, A_check_reader_file_15]))) (.seq (.ops A_check_reader_file_16) (.ops A_check_reader_file_17))))) (.ops A_check_reader_file_18))))
def A_check_reader_file_20 : List AOper := [⟨some 63, .faddr 3 (.t 3), none⟩,
    ⟨some 64, .ld1 (.t 63), none⟩,
    ⟨some 65, .lenl (.t 64), none⟩,
    ⟨some 66, .mov (.c (.int .i64 (0))), none⟩]
def A_check_reader_file_21 : List AOper := [⟨some 68, .iaddr 76 7 (.t 64) (.t 66), none⟩,
    ⟨some 69, .lda 7 (.t 68), none⟩,
    ⟨some 8, .box 76 7 (.c (.agg [.str [], .nils, .nils, .nils, .nils, .nils, .nils])), none⟩,
    ⟨none, .st 7 (.t 8) (.t 69), none⟩]
def A_check_reader_file_22 : List AOper := [⟨some 70, .mov (.t 0), none⟩,
    ⟨some 71, .lda 7 (.t 8), none⟩,
    ⟨some 72, .faddr 1 (.t 3), none⟩,
    ⟨some 73, .ld1 (.t 72), none⟩,
    ⟨some 74, .call 94 [(.t 70), (.t 71), (.t 73), (.c (.int .i64 (0)))], none⟩]
def A_check_reader_file_23 : List AOper := [⟨some 75, .bini .add (.t 66) (.c (.int .i64 (1))), none⟩,
    ⟨some 66, .mov (.t 75), none⟩]
def A_check_reader_file_24 : ACode := (.seq (.ops [⟨some 67, .bini .lss (.t 66) (.t 65), none⟩]) (.seq (.cond (.t 67) .skip (.exit 2)) (.seq (.block 3 (.seq (.ops A_check_reader_file_21) (.ops A_check_reader_file_22))) (.ops A_check_reader_file_23))))
def A_check_reader_file_25 : List AOper := [⟨some 76, .faddr 4 (.t 3), none⟩,
    ⟨some 77, .ld1 (.t 76), none⟩,
    ⟨some 78, .lenl (.t 77), none⟩,
    ⟨some 79, .mov (.c (.int .i64 (0))), none⟩]
def A_check_reader_file_26 : List AOper := [⟨some 81, .iaddr 176 5 (.t 77) (.t 79), none⟩,
    ⟨some 82, .lda 5 (.t 81), none⟩,
    ⟨some 10, .box 176 5 (.c (.agg [.str [], .nils, .bool false, .nils, .nils])), none⟩,
    ⟨none, .st 5 (.t 10) (.t 82), none⟩]
def A_check_reader_file_27 : List AOper := [⟨some 83, .mov (.t 0), none⟩,
    ⟨some 84, .lda 5 (.t 10), none⟩,
    ⟨some 85, .faddr 1 (.t 3), none⟩,
    ⟨some 86, .ld1 (.t 85), none⟩,
    ⟨some 87, .call 95 [(.t 83), (.t 84), (.t 86)], none⟩]
def A_check_reader_file_28 : List AOper := [⟨some 88, .bini .add (.t 79) (.c (.int .i64 (1))), none⟩,
    ⟨some 79, .mov (.t 88), none⟩]
def A_check_reader_file_29 : ACode := (.seq (.ops [⟨some 80, .bini .lss (.t 79) (.t 78), none⟩]) (.seq (.cond (.t 80) .skip (.exit 4)) (.seq (.block 5 (.seq (.ops A_check_reader_file_26) (.ops A_check_reader_file_27))) (.ops A_check_reader_file_28))))
def A_check_reader_file : ACode := (.seq (.ops [⟨some 3, .box 33 5 (.t 1), none⟩]) (.seq (.orr (.alts [11, 12, 13, 14, 15, 16] [A_check_reader_file_0]) (.orr (.alts [11, 12, 13, 14, 15, 16] [A_check_reader_file_1]) (.alts [11, 12, 13, 14, 15, 16] [A_check_reader_file_2, A_check_reader_file_3]))) (.seq (.orr (.alts [17, 18, 19, 20, 21, 22, 23, 24, 25, 26, 27] [A_check_reader_file_4]) (.orr (.alts [17, 18, 19, 20, 21, 22, 23, 24, 25, 26, 27] [A_check_reader_file_5]) (.alts [17, 18, 19, 20, 21, 22, 23, 24, 25, 26, 27] [A_check_reader_file_6, A_check_reader_file_7]))) (.seq (.ops A_check_reader_file_8) (.seq (.ops A_check_reader_file_9) (.seq (.seq (.ops A_check_reader_file_10) (.block 0 (.loop A_check_reader_file_19))) (.seq (.seq (.ops A_check_reader_file_20) (.block 2 (.loop A_check_reader_file_24))) (.seq (.ops A_check_reader_file_25) (.block 4 (.loop A_check_reader_file_29))))))))))
def R_check_reader_file : List ARes := []
theorem C_check_reader_file : compF Tryz.prog Tryz.f65 = some (A_check_reader_file, R_check_reader_file) := by kernel_rfl
def T_check_reader_file : FC := ⟨89, A_check_reader_file, R_check_reader_file⟩
theorem G_check_reader_file : GoodFC Tryz.prog F_check_reader_file T_check_reader_file := ⟨Tryz.f65, Tryz.func65, Tryz.ntmps65, C_check_reader_file, by kernel_rfl⟩

-- lexicon/texts.Scopes
abbrev F_texts_Scopes : Nat := 66
def A_texts_Scopes_0 : List AOper := [⟨some 1, .box 9 1 (.t 0), none⟩,
    ⟨some 2, .mov (.c (.nilf)), none⟩]
def A_texts_Scopes_1 : List AOper := [⟨some 3, .mkfn 96 [] [(.t 1)], none⟩,
    ⟨some 2, .mov (.t 3), none⟩]
def A_texts_Scopes : ACode := (.seq (.ops A_texts_Scopes_0) (.seq (.ops A_texts_Scopes_1) .ret))
def R_texts_Scopes : List ARes := [.tmp 2]
theorem C_texts_Scopes : compF Tryz.prog Tryz.f66 = some (A_texts_Scopes, R_texts_Scopes) := by kernel_rfl
def T_texts_Scopes : FC := ⟨4, A_texts_Scopes, R_texts_Scopes⟩
theorem G_texts_Scopes : GoodFC Tryz.prog F_texts_Scopes T_texts_Scopes := ⟨Tryz.f66, Tryz.func66, Tryz.ntmps66, C_texts_Scopes, by kernel_rfl⟩

-- lexicon/check.Symbols$1
abbrev F_check_Symbols_c1 : Nat := 67
def A_check_Symbols_c1_0 : List AOper := [⟨some 10, .mov (.t 0), none⟩,
    ⟨some 11, .mov (.t 1), none⟩,
    ⟨some 12, .bslice 9 1 2 [.str []] [(0, 1, (.t 10)), (1, 1, (.t 11))], none⟩,
    ⟨some 13, .call 68 [(.t 12)], none⟩,
    ⟨some 9, .mov (.t 13), none⟩]
def A_check_Symbols_c1_1 : List AOper := [⟨some 14, .ld1 (.t 3), none⟩,
    ⟨some 15, .mov (.t 9), none⟩,
    ⟨some 16, .mov (.t 2), none⟩,
    ⟨some 17, .faddr 0 (.t 4), none⟩,
    ⟨some 18, .ld1 (.t 17), none⟩,
    ⟨some 19, .build [.str [], .int .u8 (0), .str []] [(0, 1, (.t 15)), (1, 1, (.t 16)), (2, 1, (.t 18))], none⟩,
    ⟨some 20, .bslice 134 3 1 [.str [], .int .u8 (0), .str []] [(0, 3, (.t 19))], none⟩,
    ⟨some 21, .app 134 3 40 (.t 14) (.t 20), none⟩,
    ⟨none, .st 1 (.t 3) (.t 21), none⟩]
def A_check_Symbols_c1_2 : List AOper := [⟨some 22, .mov (.t 9), none⟩,
    ⟨some 8, .mov (.t 22), none⟩]
def A_check_Symbols_c1 : ACode := (.seq (.ops [⟨some 8, .mov (.c (.str [])), none⟩]) (.seq (.ops A_check_Symbols_c1_0) (.seq (.ops A_check_Symbols_c1_1) (.seq (.ops A_check_Symbols_c1_2) .ret))))
def R_check_Symbols_c1 : List ARes := [.tmp 8]
theorem C_check_Symbols_c1 : compF Tryz.prog Tryz.f67 = some (A_check_Symbols_c1, R_check_Symbols_c1) := by kernel_rfl
def T_check_Symbols_c1 : FC := ⟨23, A_check_Symbols_c1, R_check_Symbols_c1⟩
theorem G_check_Symbols_c1 : GoodFC Tryz.prog F_check_Symbols_c1 T_check_Symbols_c1 := ⟨Tryz.f67, Tryz.func67, Tryz.ntmps67, C_check_Symbols_c1, by kernel_rfl⟩

-- lexicon/texts.Join
abbrev F_texts_Join : Nat := 68
def A_texts_Join_0 : List AOper := [⟨some 6, .mov (.t 0), none⟩,
    ⟨some 7, .lenl (.t 6), none⟩,
    ⟨some 8, .mov (.c (.int .i64 (0))), none⟩]
def A_texts_Join_1 : List AOper := [⟨some 10, .iaddr 9 1 (.t 6) (.t 8), none⟩,
    ⟨some 11, .ld1 (.t 10), none⟩,
    ⟨some 5, .mov (.t 11), none⟩]
def A_texts_Join_2 : List AOper := [⟨some 12, .mov (.t 5), none⟩,
    ⟨some 13, .bins .neq (.t 12) (.c (.str [])), none⟩]
def A_texts_Join_3 : List AOper := [⟨some 14, .mov (.t 3), none⟩,
    ⟨some 15, .mov (.t 5), none⟩,
    ⟨some 16, .bslice 9 1 1 [.str []] [(0, 1, (.t 15))], none⟩,
    ⟨some 17, .app 9 1 16 (.t 14) (.t 16), none⟩,
    ⟨some 3, .mov (.t 17), none⟩]
def A_texts_Join_4 : List AOper := [⟨some 18, .bini .add (.t 8) (.c (.int .i64 (1))), none⟩,
    ⟨some 8, .mov (.t 18), none⟩]
def A_texts_Join_5 : ACode := (.seq (.ops [⟨some 9, .bini .lss (.t 8) (.t 7), none⟩]) (.seq (.cond (.t 9) .skip (.exit 0)) (.seq (.block 1 (.seq (.ops A_texts_Join_1) (.seq (.ops A_texts_Join_2) (.cond (.t 13) (.ops A_texts_Join_3) .skip)))) (.ops A_texts_Join_4))))
def A_texts_Join_6 : List AOper := [⟨some 19, .mov (.t 3), none⟩,
    ⟨some 20, .call 98 [(.t 19), (.c (.str [46]))], none⟩,
    ⟨some 2, .mov (.t 20), none⟩]
def A_texts_Join : ACode := (.seq (.ops [⟨some 2, .mov (.c (.str [])), none⟩]) (.seq (.ops [⟨some 3, .mov (.c (.nils)), none⟩]) (.seq (.seq (.ops A_texts_Join_0) (.block 0 (.loop A_texts_Join_5))) (.seq (.ops A_texts_Join_6) .ret))))
def R_texts_Join : List ARes := [.tmp 2]
theorem C_texts_Join : compF Tryz.prog Tryz.f68 = some (A_texts_Join, R_texts_Join) := by kernel_rfl
def T_texts_Join : FC := ⟨21, A_texts_Join, R_texts_Join⟩
theorem G_texts_Join : GoodFC Tryz.prog F_texts_Join T_texts_Join := ⟨Tryz.f68, Tryz.func68, Tryz.ntmps68, C_texts_Join, by kernel_rfl⟩

-- lexicon/check.Symbols$3
abbrev F_check_Symbols_c3 : Nat := 70
def A_check_Symbols_c3_0 : List AOper := [⟨some 16, .ld1 (.t 2), none⟩,
    ⟨some 17, .mov (.t 1), none⟩,
    ⟨some 18, .faddr 0 (.t 5), none⟩,
    ⟨some 19, .ld1 (.t 18), none⟩,
    ⟨some 20, .callv (.t 16) [(.t 17), (.t 19), (.c (.int .u8 (1)))], none⟩,
    ⟨some 7, .mov (.t 20), none⟩]
def A_check_Symbols_c3_1 : List AOper := [⟨some 21, .faddr 1 (.t 5), none⟩,
    ⟨some 22, .ld1 (.t 21), none⟩,
    ⟨some 23, .lenl (.t 22), none⟩,
    ⟨some 24, .mov (.c (.int .i64 (0))), none⟩]
def A_check_Symbols_c3_2 : List AOper := [⟨some 26, .iaddr 72 9 (.t 22) (.t 24), none⟩,
    ⟨some 27, .lda 9 (.t 26), none⟩,
    ⟨some 9, .box 72 9 (.c (.agg [.str [], .int .i32 (0), .int .u8 (0), .int .u8 (0), .str [], .int .u8 (0), .int .i64 (0), .int .u8 (0), .str []])), none⟩,
    ⟨none, .st 9 (.t 9) (.t 27), none⟩]
def A_check_Symbols_c3_3 : List AOper := [⟨some 28, .ld1 (.t 2), none⟩,
    ⟨some 29, .mov (.t 7), none⟩,
    ⟨some 30, .faddr 0 (.t 9), none⟩,
    ⟨some 31, .ld1 (.t 30), none⟩,
    ⟨some 32, .callv (.t 28) [(.t 29), (.t 31), (.c (.int .u8 (4)))], none⟩]
def A_check_Symbols_c3_4 : List AOper := [⟨some 33, .bini .add (.t 24) (.c (.int .i64 (1))), none⟩,
    ⟨some 24, .mov (.t 33), none⟩]
def A_check_Symbols_c3_5 : ACode := (.seq (.ops [⟨some 25, .bini .lss (.t 24) (.t 23), none⟩]) (.seq (.cond (.t 25) .skip (.exit 0)) (.seq (.block 1 (.seq (.ops A_check_Symbols_c3_2) (.ops A_check_Symbols_c3_3))) (.ops A_check_Symbols_c3_4))))
def A_check_Symbols_c3_6 : List AOper := [⟨some 34, .faddr 2 (.t 5), none⟩,
    ⟨some 35, .ld1 (.t 34), none⟩,
    ⟨some 36, .lenl (.t 35), none⟩,
    ⟨some 37, .mov (.c (.int .i64 (0))), none⟩]
def A_check_Symbols_c3_7 : List AOper := [⟨some 39, .iaddr 9 1 (.t 35) (.t 37), none⟩,
    ⟨some 40, .ld1 (.t 39), none⟩,
    ⟨some 11, .mov (.t 40), none⟩]
def A_check_Symbols_c3_8 : List AOper := [⟨some 41, .ld1 (.t 2), none⟩,
    ⟨some 42, .mov (.t 7), none⟩,
    ⟨some 43, .mov (.t 11), none⟩,
    ⟨some 44, .callv (.t 41) [(.t 42), (.t 43), (.c (.int .u8 (5)))], none⟩]
def A_check_Symbols_c3_9 : List AOper := [⟨some 45, .bini .add (.t 37) (.c (.int .i64 (1))), none⟩,
    ⟨some 37, .mov (.t 45), none⟩]
def A_check_Symbols_c3_10 : ACode := (.seq (.ops [⟨some 38, .bini .lss (.t 37) (.t 36), none⟩]) (.seq (.cond (.t 38) .skip (.exit 2)) (.seq (.block 3 (.seq (.ops A_check_Symbols_c3_7) (.ops A_check_Symbols_c3_8))) (.ops A_check_Symbols_c3_9))))
def A_check_Symbols_c3_11 : List AOper := [⟨some 46, .faddr 3 (.t 5), none⟩,
    ⟨some 47, .ld1 (.t 46), none⟩,
    ⟨some 48, .lenl (.t 47), none⟩,
    ⟨some 49, .mov (.c (.int .i64 (0))), none⟩]
def A_check_Symbols_c3_12 : List AOper := [⟨some 51, .iaddr 76 7 (.t 47) (.t 49), none⟩,
    ⟨some 52, .lda 7 (.t 51), none⟩,
    ⟨some 13, .box 76 7 (.c (.agg [.str [], .nils, .nils, .nils, .nils, .nils, .nils])), none⟩,
    ⟨none, .st 7 (.t 13) (.t 52), none⟩]
def A_check_Symbols_c3_13 : List AOper := [⟨some 53, .ld1 (.t 3), none⟩,
    ⟨some 54, .lda 7 (.t 13), none⟩,
    ⟨some 55, .mov (.t 7), none⟩,
    ⟨some 56, .callv (.t 53) [(.t 54), (.t 55)], none⟩]
def A_check_Symbols_c3_14 : List AOper := [⟨some 57, .bini .add (.t 49) (.c (.int .i64 (1))), none⟩,
    ⟨some 49, .mov (.t 57), none⟩]
def A_check_Symbols_c3_15 : ACode := (.seq (.ops [⟨some 50, .bini .lss (.t 49) (.t 48), none⟩]) (.seq (.cond (.t 50) .skip (.exit 4)) (.seq (.block 5 (.seq (.ops A_check_Symbols_c3_12) (.ops A_check_Symbols_c3_13))) (.ops A_check_Symbols_c3_14))))
def A_check_Symbols_c3_16 : List AOper := [⟨some 58, .faddr 4 (.t 5), none⟩,
    ⟨some 59, .ld1 (.t 58), none⟩,
    ⟨some 60, .lenl (.t 59), none⟩,
    ⟨some 61, .mov (.c (.int .i64 (0))), none⟩]
def A_check_Symbols_c3_17 : List AOper := [⟨some 63, .iaddr 176 5 (.t 59) (.t 61), none⟩,
    ⟨some 64, .lda 5 (.t 63), none⟩,
    ⟨some 15, .box 176 5 (.c (.agg [.str [], .nils, .bool false, .nils, .nils])), none⟩,
    ⟨none, .st 5 (.t 15) (.t 64), none⟩]
def A_check_Symbols_c3_18 : List AOper := [⟨some 65, .ld1 (.t 4), none⟩,
    ⟨some 66, .lda 5 (.t 15), none⟩,
    ⟨some 67, .mov (.t 7), none⟩,
    ⟨some 68, .callv (.t 65) [(.t 66), (.t 67)], none⟩]
def A_check_Symbols_c3_19 : List AOper := [⟨some 69, .bini .add (.t 61) (.c (.int .i64 (1))), none⟩,
    ⟨some 61, .mov (.t 69), none⟩]
def A_check_Symbols_c3_20 : ACode := (.seq (.ops [⟨some 62, .bini .lss (.t 61) (.t 60), none⟩]) (.seq (.cond (.t 62) .skip (.exit 6)) (.seq (.block 7 (.seq (.ops A_check_Symbols_c3_17) (.ops A_check_Symbols_c3_18))) (.ops A_check_Symbols_c3_19))))
def A_check_Symbols_c3 : ACode := (.seq (.ops [⟨some 5, .box 76 7 (.t 0), none⟩]) (.seq (.ops A_check_Symbols_c3_0) (.seq (.seq (.ops A_check_Symbols_c3_1) (.block 0 (.loop A_check_Symbols_c3_5))) (.seq (.seq (.ops A_check_Symbols_c3_6) (.block 2 (.loop A_check_Symbols_c3_10))) (.seq (.seq (.ops A_check_Symbols_c3_11) (.block 4 (.loop A_check_Symbols_c3_15))) (.seq (.ops A_check_Symbols_c3_16) (.block 6 (.loop A_check_Symbols_c3_20))))))))
def R_check_Symbols_c3 : List ARes := []
theorem C_check_Symbols_c3 : compF Tryz.prog Tryz.f70 = some (A_check_Symbols_c3, R_check_Symbols_c3) := by kernel_rfl
def T_check_Symbols_c3 : FC := ⟨70, A_check_Symbols_c3, R_check_Symbols_c3⟩
theorem G_check_Symbols_c3 : GoodFC Tryz.prog F_check_Symbols_c3 T_check_Symbols_c3 := ⟨Tryz.f70, Tryz.func70, Tryz.ntmps70, C_check_Symbols_c3, by kernel_rfl⟩

-- slices.SortStableFunc[[]lexicon/api.Symbol,lexicon/api.Symbol]
abbrev F_slices_SortStableFunc_api_Symbol_api_Symbol : Nat := 71
def A_slices_SortStableFunc_api_Symbol_api_Symbol_0 : List AOper := [⟨some 4, .mov (.t 0), none⟩,
    ⟨some 5, .mov (.t 0), none⟩,
    ⟨some 6, .lenl (.t 5), none⟩,
    ⟨some 7, .mov (.t 1), none⟩,
    ⟨some 8, .call 99 [(.t 4), (.t 6), (.t 7)], none⟩]
def A_slices_SortStableFunc_api_Symbol_api_Symbol : ACode := (.ops A_slices_SortStableFunc_api_Symbol_api_Symbol_0)
def R_slices_SortStableFunc_api_Symbol_api_Symbol : List ARes := []
theorem C_slices_SortStableFunc_api_Symbol_api_Symbol : compF Tryz.prog Tryz.f71 = some (A_slices_SortStableFunc_api_Symbol_api_Symbol, R_slices_SortStableFunc_api_Symbol_api_Symbol) := by kernel_rfl
def T_slices_SortStableFunc_api_Symbol_api_Symbol : FC := ⟨9, A_slices_SortStableFunc_api_Symbol_api_Symbol, R_slices_SortStableFunc_api_Symbol_api_Symbol⟩
theorem G_slices_SortStableFunc_api_Symbol_api_Symbol : GoodFC Tryz.prog F_slices_SortStableFunc_api_Symbol_api_Symbol T_slices_SortStableFunc_api_Symbol_api_Symbol := ⟨Tryz.f71, Tryz.func71, Tryz.ntmps71, C_slices_SortStableFunc_api_Symbol_api_Symbol, by kernel_rfl⟩

-- lexicon/check.Symbols$4
abbrev F_check_Symbols_c4 : Nat := 72
def A_check_Symbols_c4_0 : List AOper := [⟨some 2, .box 134 3 (.t 0), none⟩,
    ⟨some 3, .box 134 3 (.t 1), none⟩,
    ⟨some 4, .mov (.c (.int .i64 (0))), none⟩]
def A_check_Symbols_c4_1 : List AOper := [⟨some 5, .faddr 0 (.t 2), none⟩,
    ⟨some 6, .ld1 (.t 5), none⟩,
    ⟨some 7, .faddr 0 (.t 3), none⟩,
    ⟨some 8, .ld1 (.t 7), none⟩,
    ⟨some 10, .faddr 1 (.t 2), none⟩,
    ⟨some 11, .ld1 (.t 10), none⟩,
    ⟨some 12, .faddr 1 (.t 3), none⟩,
    ⟨some 13, .ld1 (.t 12), none⟩,
    ⟨some 9, .acall 74 [(.t 6), (.t 8)], none⟩,
    ⟨some 14, .acall 75 [(.t 11), (.t 13)], none⟩,
    ⟨some 15, .bslice 3 1 2 [.int .i64 (0)] [(0, 1, (.t 9)), (1, 1, (.t 14))], none⟩,
    ⟨some 16, .acall 73 [(.t 15)], none⟩,
    ⟨some 4, .mov (.t 16), none⟩]
def A_check_Symbols_c4_2 : List AOper := [⟨some 5, .faddr 0 (.t 2), none⟩,
    ⟨some 6, .ld1 (.t 5), none⟩,
    ⟨some 7, .faddr 0 (.t 3), none⟩,
    ⟨some 8, .ld1 (.t 7), none⟩,
    ⟨some 9, .pcall 74 [(.t 6), (.t 8)], none⟩,
    ⟨some 10, .faddr 1 (.t 2), none⟩,
    ⟨some 11, .ld1 (.t 10), none⟩,
    ⟨some 12, .faddr 1 (.t 3), none⟩,
    ⟨some 13, .ld1 (.t 12), none⟩,
    ⟨some 14, .pcall 75 [(.t 11), (.t 13)], none⟩,
    ⟨some 15, .fslice 3 1 2 [.int .i64 (0)] [(0, 1, (.t 9)), (1, 1, (.t 14))], none⟩,
    ⟨some 16, .pcall 73 [(.t 15)], none⟩,
    ⟨some 4, .mov (.t 16), none⟩]
def A_check_Symbols_c4_3 : List AOper := [⟨some 5, .faddr 0 (.t 2), none⟩,
    ⟨some 6, .ld1 (.t 5), none⟩,
    ⟨some 7, .faddr 0 (.t 3), none⟩,
    ⟨some 8, .ld1 (.t 7), none⟩,
    ⟨some 10, .faddr 1 (.t 2), none⟩,
    ⟨some 12, .faddr 1 (.t 3), none⟩,
    ⟨some 9, .call 74 [(.t 6), (.t 8)], none⟩,
    ⟨some 11, .ld1 (.t 10), none⟩,
    ⟨some 13, .ld1 (.t 12), none⟩,
    ⟨some 14, .call 75 [(.t 11), (.t 13)], none⟩,
    ⟨some 15, .bslice 3 1 2 [.int .i64 (0)] [(0, 1, (.t 9)), (1, 1, (.t 14))], none⟩,
    ⟨some 16, .call 73 [(.t 15)], none⟩,
    ⟨some 4, .mov (.t 16), none⟩]
def A_check_Symbols_c4_4 : List AOper := [⟨some 5, .faddr 0 (.t 2), none⟩,
    ⟨some 6, .ld1 (.t 5), none⟩,
    ⟨some 7, .faddr 0 (.t 3), none⟩,
    ⟨some 8, .ld1 (.t 7), none⟩,
    ⟨some 10, .faddr 1 (.t 2), none⟩,
    ⟨some 12, .faddr 1 (.t 3), none⟩,
    ⟨some 11, .ld1 (.t 10), none⟩,
    ⟨some 9, .call 74 [(.t 6), (.t 8)], none⟩,
    ⟨some 13, .ld1 (.t 12), none⟩,
    ⟨some 14, .call 75 [(.t 11), (.t 13)], none⟩,
    ⟨some 15, .bslice 3 1 2 [.int .i64 (0)] [(0, 1, (.t 9)), (1, 1, (.t 14))], none⟩,
    ⟨some 16, .call 73 [(.t 15)], none⟩,
    ⟨some 4, .mov (.t 16), none⟩]
def A_check_Symbols_c4_5 : List AOper := [⟨some 5, .faddr 0 (.t 2), none⟩,
    ⟨some 6, .ld1 (.t 5), none⟩,
    ⟨some 7, .faddr 0 (.t 3), none⟩,
    ⟨some 8, .ld1 (.t 7), none⟩,
    ⟨some 10, .faddr 1 (.t 2), none⟩,
    ⟨some 12, .faddr 1 (.t 3), none⟩,
    ⟨some 11, .ld1 (.t 10), none⟩,
    ⟨some 13, .ld1 (.t 12), none⟩,
    ⟨some 9, .call 74 [(.t 6), (.t 8)], none⟩,
    ⟨some 14, .call 75 [(.t 11), (.t 13)], none⟩,
    ⟨some 15, .bslice 3 1 2 [.int .i64 (0)] [(0, 1, (.t 9)), (1, 1, (.t 14))], none⟩,
    ⟨some 16, .call 73 [(.t 15)], none⟩,
    ⟨some 4, .mov (.t 16), none⟩]
def A_check_Symbols_c4_6 : List AOper := [⟨some 5, .faddr 0 (.t 2), none⟩,
    ⟨some 6, .ld1 (.t 5), none⟩,
    ⟨some 7, .faddr 0 (.t 3), none⟩,
    ⟨some 8, .ld1 (.t 7), none⟩,
    ⟨some 10, .faddr 1 (.t 2), none⟩,
    ⟨some 12, .faddr 1 (.t 3), none⟩,
    ⟨some 13, .ld1 (.t 12), none⟩,
    ⟨some 9, .call 74 [(.t 6), (.t 8)], none⟩,
    ⟨some 11, .ld1 (.t 10), none⟩,
    ⟨some 14, .call 75 [(.t 11), (.t 13)], none⟩,
    ⟨some 15, .bslice 3 1 2 [.int .i64 (0)] [(0, 1, (.t 9)), (1, 1, (.t 14))], none⟩,
    ⟨some 16, .call 73 [(.t 15)], none⟩,
    ⟨some 4, .mov (.t 16), none⟩]
def A_check_Symbols_c4_7 : List AOper := [⟨some 5, .faddr 0 (.t 2), none⟩,
    ⟨some 6, .ld1 (.t 5), none⟩,
    ⟨some 7, .faddr 0 (.t 3), none⟩,
    ⟨some 8, .ld1 (.t 7), none⟩,
    ⟨some 10, .faddr 1 (.t 2), none⟩,
    ⟨some 12, .faddr 1 (.t 3), none⟩,
    ⟨some 13, .ld1 (.t 12), none⟩,
    ⟨some 11, .ld1 (.t 10), none⟩,
    ⟨some 9, .call 74 [(.t 6), (.t 8)], none⟩,
    ⟨some 14, .call 75 [(.t 11), (.t 13)], none⟩,
    ⟨some 15, .bslice 3 1 2 [.int .i64 (0)] [(0, 1, (.t 9)), (1, 1, (.t 14))], none⟩,
    ⟨some 16, .call 73 [(.t 15)], none⟩,
    ⟨some 4, .mov (.t 16), none⟩]
def A_check_Symbols_c4 : ACode := (.seq (.ops A_check_Symbols_c4_0) (.seq (.orr (.alts [5, 6, 7, 8, 9, 10, 11, 12, 13, 14, 15, 16, 4] [A_check_Symbols_c4_1]) (.orr (.alts [5, 6, 7, 8, 9, 10, 11, 12, 13, 14, 15, 16, 4] [A_check_Symbols_c4_2]) (.alts [5, 6, 7, 8, 9, 10, 11, 12, 13, 14, 15, 16, 4] [A_check_Symbols_c4_3, A_check_Symbols_c4_4, A_check_Symbols_c4_5, A_check_Symbols_c4_6, A_check_Symbols_c4_7]))) .ret))
def R_check_Symbols_c4 : List ARes := [.tmp 4]
theorem C_check_Symbols_c4 : compF Tryz.prog Tryz.f72 = some (A_check_Symbols_c4, R_check_Symbols_c4) := by kernel_rfl
def T_check_Symbols_c4 : FC := ⟨17, A_check_Symbols_c4, R_check_Symbols_c4⟩
theorem G_check_Symbols_c4 : GoodFC Tryz.prog F_check_Symbols_c4 T_check_Symbols_c4 := ⟨Tryz.f72, Tryz.func72, Tryz.ntmps72, C_check_Symbols_c4, by kernel_rfl⟩

-- cmp.Or[int]
abbrev F_cmp_Or_int : Nat := 73
def A_cmp_Or_int_0 : List AOper := [⟨some 6, .mov (.t 0), none⟩,
    ⟨some 7, .lenl (.t 6), none⟩,
    ⟨some 8, .mov (.c (.int .i64 (0))), none⟩]
def A_cmp_Or_int_1 : List AOper := [⟨some 10, .iaddr 3 1 (.t 6) (.t 8), none⟩,
    ⟨some 11, .ld1 (.t 10), none⟩,
    ⟨some 5, .mov (.t 11), none⟩]
def A_cmp_Or_int_2 : List AOper := [⟨some 12, .mov (.t 5), none⟩,
    ⟨some 13, .mov (.t 3), none⟩,
    ⟨some 14, .bini .neq (.t 12) (.t 13), none⟩]
def A_cmp_Or_int_3 : List AOper := [⟨some 15, .mov (.t 5), none⟩,
    ⟨some 2, .mov (.t 15), none⟩]
def A_cmp_Or_int_4 : List AOper := [⟨some 16, .bini .add (.t 8) (.c (.int .i64 (1))), none⟩,
    ⟨some 8, .mov (.t 16), none⟩]
def A_cmp_Or_int_5 : ACode := (.seq (.ops [⟨some 9, .bini .lss (.t 8) (.t 7), none⟩]) (.seq (.cond (.t 9) .skip (.exit 0)) (.seq (.block 1 (.seq (.ops A_cmp_Or_int_1) (.seq (.ops A_cmp_Or_int_2) (.cond (.t 14) (.seq (.ops A_cmp_Or_int_3) .ret) .skip)))) (.ops A_cmp_Or_int_4))))
def A_cmp_Or_int_6 : List AOper := [⟨some 17, .mov (.t 3), none⟩,
    ⟨some 2, .mov (.t 17), none⟩]
def A_cmp_Or_int : ACode := (.seq (.ops [⟨some 2, .mov (.c (.int .i64 (0))), none⟩]) (.seq (.ops [⟨some 3, .mov (.c (.int .i64 (0))), none⟩]) (.seq (.seq (.ops A_cmp_Or_int_0) (.block 0 (.loop A_cmp_Or_int_5))) (.seq (.ops A_cmp_Or_int_6) .ret))))
def R_cmp_Or_int : List ARes := [.tmp 2]
theorem C_cmp_Or_int : compF Tryz.prog Tryz.f73 = some (A_cmp_Or_int, R_cmp_Or_int) := by kernel_rfl
def T_cmp_Or_int : FC := ⟨18, A_cmp_Or_int, R_cmp_Or_int⟩
theorem G_cmp_Or_int : GoodFC Tryz.prog F_cmp_Or_int T_cmp_Or_int := ⟨Tryz.f73, Tryz.func73, Tryz.ntmps73, C_cmp_Or_int, by kernel_rfl⟩

-- cmp.Compare[string]
abbrev F_cmp_Compare_string : Nat := 74
def A_cmp_Compare_string_0 : List AOper := [⟨some 7, .mov (.t 0), none⟩,
    ⟨some 8, .call 100 [(.t 7)], none⟩,
    ⟨some 5, .mov (.t 8), none⟩]
def A_cmp_Compare_string_1 : List AOper := [⟨some 9, .mov (.t 1), none⟩,
    ⟨some 10, .call 100 [(.t 9)], none⟩,
    ⟨some 6, .mov (.t 10), none⟩]
def A_cmp_Compare_string_2 : List AOper := [⟨some 14, .mov (.t 0), none⟩,
    ⟨some 15, .mov (.t 1), none⟩,
    ⟨some 16, .bins .lss (.t 14) (.t 15), none⟩]
def A_cmp_Compare_string_3 : List AOper := [⟨some 17, .mov (.t 0), none⟩,
    ⟨some 18, .mov (.t 1), none⟩,
    ⟨some 19, .bins .gtr (.t 17) (.t 18), none⟩]
def A_cmp_Compare_string : ACode := (.seq (.ops [⟨some 4, .mov (.c (.int .i64 (0))), none⟩]) (.seq (.ops A_cmp_Compare_string_0) (.seq (.ops A_cmp_Compare_string_1) (.seq (.seq (.ops [⟨some 11, .mov (.t 5), none⟩]) (.cond (.t 11) (.seq (.seq (.ops [⟨some 12, .mov (.t 6), none⟩]) (.cond (.t 12) (.seq (.ops [⟨some 4, .mov (.c (.int .i64 (0))), none⟩]) .ret) .skip)) (.seq (.ops [⟨some 4, .mov (.c (.int .i64 (-1))), none⟩]) .ret)) .skip)) (.seq (.seq (.ops [⟨some 13, .mov (.t 6), none⟩]) (.cond (.t 13) (.seq (.ops [⟨some 4, .mov (.c (.int .i64 (1))), none⟩]) .ret) .skip)) (.seq (.seq (.ops A_cmp_Compare_string_2) (.cond (.t 16) (.seq (.ops [⟨some 4, .mov (.c (.int .i64 (-1))), none⟩]) .ret) .skip)) (.seq (.seq (.ops A_cmp_Compare_string_3) (.cond (.t 19) (.seq (.ops [⟨some 4, .mov (.c (.int .i64 (1))), none⟩]) .ret) .skip)) (.seq (.ops [⟨some 4, .mov (.c (.int .i64 (0))), none⟩]) .ret))))))))
def R_cmp_Compare_string : List ARes := [.tmp 4]
theorem C_cmp_Compare_string : compF Tryz.prog Tryz.f74 = some (A_cmp_Compare_string, R_cmp_Compare_string) := by kernel_rfl
def T_cmp_Compare_string : FC := ⟨20, A_cmp_Compare_string, R_cmp_Compare_string⟩
theorem G_cmp_Compare_string : GoodFC Tryz.prog F_cmp_Compare_string T_cmp_Compare_string := ⟨Tryz.f74, Tryz.func74, Tryz.ntmps74, C_cmp_Compare_string, by kernel_rfl⟩

-- cmp.Compare[lexicon/api.Sort]
abbrev F_cmp_Compare_api_Sort : Nat := 75
def A_cmp_Compare_api_Sort_0 : List AOper := [⟨some 7, .mov (.t 0), none⟩,
    ⟨some 8, .call 101 [(.t 7)], none⟩,
    ⟨some 5, .mov (.t 8), none⟩]
def A_cmp_Compare_api_Sort_1 : List AOper := [⟨some 9, .mov (.t 1), none⟩,
    ⟨some 10, .call 101 [(.t 9)], none⟩,
    ⟨some 6, .mov (.t 10), none⟩]
def A_cmp_Compare_api_Sort_2 : List AOper := [⟨some 14, .mov (.t 0), none⟩,
    ⟨some 15, .mov (.t 1), none⟩,
    ⟨some 16, .bini .lss (.t 14) (.t 15), none⟩]
def A_cmp_Compare_api_Sort_3 : List AOper := [⟨some 17, .mov (.t 0), none⟩,
    ⟨some 18, .mov (.t 1), none⟩,
    ⟨some 19, .bini .gtr (.t 17) (.t 18), none⟩]
def A_cmp_Compare_api_Sort : ACode := (.seq (.ops [⟨some 4, .mov (.c (.int .i64 (0))), none⟩]) (.seq (.ops A_cmp_Compare_api_Sort_0) (.seq (.ops A_cmp_Compare_api_Sort_1) (.seq (.seq (.ops [⟨some 11, .mov (.t 5), none⟩]) (.cond (.t 11) (.seq (.seq (.ops [⟨some 12, .mov (.t 6), none⟩]) (.cond (.t 12) (.seq (.ops [⟨some 4, .mov (.c (.int .i64 (0))), none⟩]) .ret) .skip)) (.seq (.ops [⟨some 4, .mov (.c (.int .i64 (-1))), none⟩]) .ret)) .skip)) (.seq (.seq (.ops [⟨some 13, .mov (.t 6), none⟩]) (.cond (.t 13) (.seq (.ops [⟨some 4, .mov (.c (.int .i64 (1))), none⟩]) .ret) .skip)) (.seq (.seq (.ops A_cmp_Compare_api_Sort_2) (.cond (.t 16) (.seq (.ops [⟨some 4, .mov (.c (.int .i64 (-1))), none⟩]) .ret) .skip)) (.seq (.seq (.ops A_cmp_Compare_api_Sort_3) (.cond (.t 19) (.seq (.ops [⟨some 4, .mov (.c (.int .i64 (1))), none⟩]) .ret) .skip)) (.seq (.ops [⟨some 4, .mov (.c (.int .i64 (0))), none⟩]) .ret))))))))
def R_cmp_Compare_api_Sort : List ARes := [.tmp 4]
theorem C_cmp_Compare_api_Sort : compF Tryz.prog Tryz.f75 = some (A_cmp_Compare_api_Sort, R_cmp_Compare_api_Sort) := by kernel_rfl
def T_cmp_Compare_api_Sort : FC := ⟨20, A_cmp_Compare_api_Sort, R_cmp_Compare_api_Sort⟩
theorem G_cmp_Compare_api_Sort : GoodFC Tryz.prog F_cmp_Compare_api_Sort T_cmp_Compare_api_Sort := ⟨Tryz.f75, Tryz.func75, Tryz.ntmps75, C_cmp_Compare_api_Sort, by kernel_rfl⟩

-- (*lexicon/link.Linked).field
abbrev F_link_Linked_field : Nat := 76
def A_link_Linked_field_0 : List AOper := [⟨some 13, .mov (.t 3), none⟩,
    ⟨some 14, .nilc (.t 13), none⟩,
    ⟨some 15, .faddr 3 (.t 14), none⟩,
    ⟨some 16, .ld1 (.t 15), none⟩,
    ⟨some 17, .bini .neq (.t 16) (.c (.int .u8 (0))), none⟩,
    ⟨some 18, .mov (.t 17), none⟩,
    ⟨some 19, .mov (.t 3), some (18, true)⟩,
    ⟨some 20, .nilc (.t 19), some (18, true)⟩,
    ⟨some 21, .faddr 3 (.t 20), some (18, true)⟩,
    ⟨some 22, .ld1 (.t 21), some (18, true)⟩,
    ⟨some 23, .bini .neq (.t 22) (.c (.int .u8 (11))), some (18, true)⟩,
    ⟨some 24, .pick (.t 18) (.t 23) (.c (.bool false)), none⟩,
    ⟨some 25, .mov (.t 24), none⟩,
    ⟨some 26, .mov (.t 3), some (25, true)⟩,
    ⟨some 27, .nilc (.t 26), some (25, true)⟩,
    ⟨some 28, .faddr 3 (.t 27), some (25, true)⟩,
    ⟨some 29, .ld1 (.t 28), some (25, true)⟩,
    ⟨some 30, .bini .neq (.t 29) (.c (.int .u8 (14))), some (25, true)⟩,
    ⟨some 31, .pick (.t 25) (.t 30) (.c (.bool false)), none⟩]
def A_link_Linked_field_1 : List AOper := [⟨some 32, .mov (.t 2), none⟩,
    ⟨some 33, .mov (.t 3), none⟩,
    ⟨some 34, .nilc (.t 33), none⟩,
    ⟨some 35, .faddr 0 (.t 34), none⟩,
    ⟨some 36, .ld1 (.t 35), none⟩,
    ⟨some 37, .bslice 9 1 2 [.str []] [(0, 1, (.t 32)), (1, 1, (.t 36))], none⟩,
    ⟨some 38, .call 68 [(.t 37)], none⟩,
    ⟨some 8, .mov (.t 38), none⟩]
def A_link_Linked_field_2 : List AOper := [⟨some 40, .mov (.t 0), none⟩,
    ⟨some 41, .mov (.t 1), none⟩,
    ⟨some 42, .mov (.t 2), none⟩,
    ⟨some 43, .mov (.t 3), none⟩,
    ⟨some 44, .nilc (.t 43), none⟩,
    ⟨some 45, .faddr 4 (.t 44), none⟩,
    ⟨some 46, .ld1 (.t 45), none⟩,
    ⟨some 47, .call 102 [(.t 40), (.t 41), (.t 42), (.t 46)], none⟩,
    ⟨some 39, .mov (.t 47), none⟩,
    ⟨some 48, .ext 0 (.t 39), none⟩,
    ⟨some 49, .ext 1 (.t 39), none⟩,
    ⟨some 50, .ext 2 (.t 39), none⟩,
    ⟨some 9, .mov (.t 48), none⟩,
    ⟨some 10, .mov (.t 49), none⟩,
    ⟨some 11, .mov (.t 50), none⟩]
def A_link_Linked_field_3 : List AOper := [⟨some 51, .mov (.t 11), none⟩,
    ⟨some 52, .bini .neq (.t 51) (.c (.int .i64 (0))), none⟩]
def A_link_Linked_field_4 : List AOper := [⟨some 53, .mov (.t 11), none⟩,
    ⟨some 54, .mov (.t 8), none⟩,
    ⟨some 55, .call 13 [(.t 53), (.t 54)], none⟩]
def A_link_Linked_field_5 : List AOper := [⟨some 56, .mov (.t 10), none⟩,
    ⟨some 57, .bini .eql (.t 56) (.c (.int .u8 (2))), none⟩]
def A_link_Linked_field_6 : List AOper := [⟨some 58, .mov (.t 3), none⟩,
    ⟨some 59, .nilc (.t 58), none⟩,
    ⟨some 60, .faddr 3 (.t 59), none⟩,
    ⟨some 61, .ld1 (.t 60), none⟩,
    ⟨some 62, .bini .neq (.t 61) (.c (.int .u8 (0))), none⟩,
    ⟨some 63, .mov (.t 62), none⟩,
    ⟨some 64, .mov (.t 3), some (63, true)⟩,
    ⟨some 65, .nilc (.t 64), some (63, true)⟩,
    ⟨some 66, .faddr 3 (.t 65), some (63, true)⟩,
    ⟨some 67, .ld1 (.t 66), some (63, true)⟩,
    ⟨some 68, .mov (.t 12), some (63, true)⟩,
    ⟨some 69, .bini .neq (.t 67) (.t 68), some (63, true)⟩,
    ⟨some 70, .pick (.t 63) (.t 69) (.c (.bool false)), none⟩,
    ⟨some 71, .mov (.t 70), none⟩,
    ⟨some 72, .mov (.t 3), some (71, false)⟩,
    ⟨some 73, .nilc (.t 72), some (71, false)⟩,
    ⟨some 74, .faddr 7 (.t 73), some (71, false)⟩,
    ⟨some 75, .ld1 (.t 74), some (71, false)⟩,
    ⟨some 76, .bini .eql (.t 75) (.c (.int .u8 (1))), some (71, false)⟩,
    ⟨some 77, .mov (.t 76), some (71, false)⟩,
    ⟨some 78, .mov (.t 12), some (77, true)⟩,
    ⟨some 79, .bini .eql (.t 78) (.c (.int .u8 (11))), some (77, true)⟩,
    ⟨some 80, .pick (.t 77) (.t 79) (.c (.bool false)), some (71, false)⟩,
    ⟨some 81, .pick (.t 71) (.c (.bool true)) (.t 80), none⟩]
def A_link_Linked_field_7 : List AOper := [⟨some 82, .mov (.t 8), none⟩,
    ⟨some 83, .call 13 [(.c (.int .i64 (86))), (.t 82)], none⟩]
def A_link_Linked_field_8 : List AOper := [⟨some 84, .mov (.t 3), none⟩,
    ⟨some 85, .mov (.t 3), none⟩,
    ⟨some 86, .mov (.t 12), none⟩,
    ⟨some 87, .mov (.t 9), none⟩,
    ⟨some 88, .nilc (.t 84), none⟩,
    ⟨some 89, .faddr 3 (.t 88), none⟩,
    ⟨none, .st 1 (.t 89) (.t 86), none⟩,
    ⟨some 90, .nilc (.t 85), none⟩,
    ⟨some 91, .faddr 4 (.t 90), none⟩,
    ⟨none, .st 1 (.t 91) (.t 87), none⟩]
def A_link_Linked_field : ACode := (.seq (.seq (.ops A_link_Linked_field_0) (.cond (.t 31) .ret .skip)) (.seq (.ops A_link_Linked_field_1) (.seq (.ops A_link_Linked_field_2) (.seq (.seq (.ops A_link_Linked_field_3) (.cond (.t 52) (.ops A_link_Linked_field_4) .skip)) (.seq (.ops [⟨some 12, .mov (.c (.int .u8 (11))), none⟩]) (.seq (.seq (.ops A_link_Linked_field_5) (.cond (.t 57) (.ops [⟨some 12, .mov (.c (.int .u8 (14))), none⟩]) .skip)) (.seq (.seq (.ops A_link_Linked_field_6) (.cond (.t 81) (.ops A_link_Linked_field_7) .skip)) (.ops A_link_Linked_field_8))))))))
def R_link_Linked_field : List ARes := []
theorem C_link_Linked_field : compF Tryz.prog Tryz.f76 = some (A_link_Linked_field, R_link_Linked_field) := by kernel_rfl
def T_link_Linked_field : FC := ⟨92, A_link_Linked_field, R_link_Linked_field⟩
theorem G_link_Linked_field : GoodFC Tryz.prog F_link_Linked_field T_link_Linked_field := ⟨Tryz.f76, Tryz.func76, Tryz.ntmps76, C_link_Linked_field, by kernel_rfl⟩

-- slices.IndexFunc[[]lexicon/api.Import,lexicon/api.Import]
abbrev F_slices_IndexFunc_api_Import_api_Import : Nat := 77
def A_slices_IndexFunc_api_Import_api_Import_0 : List AOper := [⟨some 6, .mov (.t 0), none⟩,
    ⟨some 7, .lenl (.t 6), none⟩,
    ⟨some 8, .mov (.c (.int .i64 (0))), none⟩]
def A_slices_IndexFunc_api_Import_api_Import_1 : List AOper := [⟨some 10, .mov (.t 8), none⟩,
    ⟨some 5, .mov (.t 10), none⟩]
def A_slices_IndexFunc_api_Import_api_Import_2 : List AOper := [⟨some 11, .mov (.t 1), none⟩,
    ⟨some 12, .mov (.t 0), none⟩,
    ⟨some 13, .mov (.t 5), none⟩,
    ⟨some 14, .iaddr 126 2 (.t 12) (.t 13), none⟩,
    ⟨some 15, .lda 2 (.t 14), none⟩,
    ⟨some 16, .callv (.t 11) [(.t 15)], none⟩]
def A_slices_IndexFunc_api_Import_api_Import_3 : List AOper := [⟨some 17, .mov (.t 5), none⟩,
    ⟨some 4, .mov (.t 17), none⟩]
def A_slices_IndexFunc_api_Import_api_Import_4 : List AOper := [⟨some 18, .bini .add (.t 8) (.c (.int .i64 (1))), none⟩,
    ⟨some 8, .mov (.t 18), none⟩]
def A_slices_IndexFunc_api_Import_api_Import_5 : ACode := (.seq (.ops [⟨some 9, .bini .lss (.t 8) (.t 7), none⟩]) (.seq (.cond (.t 9) .skip (.exit 0)) (.seq (.block 1 (.seq (.ops A_slices_IndexFunc_api_Import_api_Import_1) (.seq (.ops A_slices_IndexFunc_api_Import_api_Import_2) (.cond (.t 16) (.seq (.ops A_slices_IndexFunc_api_Import_api_Import_3) .ret) .skip)))) (.ops A_slices_IndexFunc_api_Import_api_Import_4))))
def A_slices_IndexFunc_api_Import_api_Import : ACode := (.seq (.ops [⟨some 4, .mov (.c (.int .i64 (0))), none⟩]) (.seq (.seq (.ops A_slices_IndexFunc_api_Import_api_Import_0) (.block 0 (.loop A_slices_IndexFunc_api_Import_api_Import_5))) (.seq (.ops [⟨some 4, .mov (.c (.int .i64 (-1))), none⟩]) .ret)))
def R_slices_IndexFunc_api_Import_api_Import : List ARes := [.tmp 4]
theorem C_slices_IndexFunc_api_Import_api_Import : compF Tryz.prog Tryz.f77 = some (A_slices_IndexFunc_api_Import_api_Import, R_slices_IndexFunc_api_Import_api_Import) := by kernel_rfl
def T_slices_IndexFunc_api_Import_api_Import : FC := ⟨19, A_slices_IndexFunc_api_Import_api_Import, R_slices_IndexFunc_api_Import_api_Import⟩
theorem G_slices_IndexFunc_api_Import_api_Import : GoodFC Tryz.prog F_slices_IndexFunc_api_Import_api_Import T_slices_IndexFunc_api_Import_api_Import := ⟨Tryz.f77, Tryz.func77, Tryz.ntmps77, C_slices_IndexFunc_api_Import_api_Import, by kernel_rfl⟩

-- slices.Contains[[]string,string]
abbrev F_slices_Contains_string_string : Nat := 78
def A_slices_Contains_string_string_0 : List AOper := [⟨some 5, .mov (.t 0), none⟩,
    ⟨some 6, .mov (.t 1), none⟩,
    ⟨some 7, .call 103 [(.t 5), (.t 6)], none⟩,
    ⟨some 8, .bini .geq (.t 7) (.c (.int .i64 (0))), none⟩,
    ⟨some 4, .mov (.t 8), none⟩]
def A_slices_Contains_string_string : ACode := (.seq (.ops [⟨some 4, .mov (.c (.bool false)), none⟩]) (.seq (.ops A_slices_Contains_string_string_0) .ret))
def R_slices_Contains_string_string : List ARes := [.tmp 4]
theorem C_slices_Contains_string_string : compF Tryz.prog Tryz.f78 = some (A_slices_Contains_string_string, R_slices_Contains_string_string) := by kernel_rfl
def T_slices_Contains_string_string : FC := ⟨9, A_slices_Contains_string_string, R_slices_Contains_string_string⟩
theorem G_slices_Contains_string_string : GoodFC Tryz.prog F_slices_Contains_string_string T_slices_Contains_string_string := ⟨Tryz.f78, Tryz.func78, Tryz.ntmps78, C_slices_Contains_string_string, by kernel_rfl⟩

-- slices.pdqsortOrdered[string]
abbrev F_slices_pdqsortOrdered_string : Nat := 79
def A_slices_pdqsortOrdered_string_0 : List AOper := [⟨some 19, .mov (.t 2), none⟩,
    ⟨some 20, .mov (.t 1), none⟩,
    ⟨some 21, .bini .sub (.t 19) (.t 20), none⟩,
    ⟨some 10, .mov (.t 21), none⟩]
def A_slices_pdqsortOrdered_string_1 : List AOper := [⟨some 22, .mov (.t 10), none⟩,
    ⟨some 23, .bini .leq (.t 22) (.c (.int .i64 (12))), none⟩]
def A_slices_pdqsortOrdered_string_2 : List AOper := [⟨some 24, .mov (.t 0), none⟩,
    ⟨some 25, .mov (.t 1), none⟩,
    ⟨some 26, .mov (.t 2), none⟩,
    ⟨some 27, .call 104 [(.t 24), (.t 25), (.t 26)], none⟩]
def A_slices_pdqsortOrdered_string_3 : List AOper := [⟨some 28, .mov (.t 3), none⟩,
    ⟨some 29, .bini .eql (.t 28) (.c (.int .i64 (0))), none⟩]
def A_slices_pdqsortOrdered_string_4 : List AOper := [⟨some 30, .mov (.t 0), none⟩,
    ⟨some 31, .mov (.t 1), none⟩,
    ⟨some 32, .mov (.t 2), none⟩,
    ⟨some 33, .call 105 [(.t 30), (.t 31), (.t 32)], none⟩]
def A_slices_pdqsortOrdered_string_5 : List AOper := [⟨some 34, .mov (.t 8), none⟩,
    ⟨some 35, .not (.t 34), none⟩]
def A_slices_pdqsortOrdered_string_6 : List AOper := [⟨some 36, .mov (.t 0), none⟩,
    ⟨some 37, .mov (.t 1), none⟩,
    ⟨some 38, .mov (.t 2), none⟩,
    ⟨some 39, .call 106 [(.t 36), (.t 37), (.t 38)], none⟩]
def A_slices_pdqsortOrdered_string_7 : List AOper := [⟨some 40, .mov (.t 3), none⟩,
    ⟨some 41, .bini .sub (.t 40) (.c (.int .i64 (1))), none⟩,
    ⟨some 3, .mov (.t 41), none⟩]
def A_slices_pdqsortOrdered_string_8 : List AOper := [⟨some 43, .mov (.t 0), none⟩,
    ⟨some 44, .mov (.t 1), none⟩,
    ⟨some 45, .mov (.t 2), none⟩,
    ⟨some 46, .call 107 [(.t 43), (.t 44), (.t 45)], none⟩,
    ⟨some 42, .mov (.t 46), none⟩,
    ⟨some 47, .ext 0 (.t 42), none⟩,
    ⟨some 48, .ext 1 (.t 42), none⟩,
    ⟨some 11, .mov (.t 47), none⟩,
    ⟨some 12, .mov (.t 48), none⟩]
def A_slices_pdqsortOrdered_string_9 : List AOper := [⟨some 49, .mov (.t 12), none⟩,
    ⟨some 50, .bini .eql (.t 49) (.c (.int .i64 (2))), none⟩]
def A_slices_pdqsortOrdered_string_10 : List AOper := [⟨some 51, .mov (.t 0), none⟩,
    ⟨some 52, .mov (.t 1), none⟩,
    ⟨some 53, .mov (.t 2), none⟩,
    ⟨some 54, .call 108 [(.t 51), (.t 52), (.t 53)], none⟩]
def A_slices_pdqsortOrdered_string_11 : List AOper := [⟨some 55, .mov (.t 2), none⟩,
    ⟨some 56, .bini .sub (.t 55) (.c (.int .i64 (1))), none⟩,
    ⟨some 57, .mov (.t 11), none⟩,
    ⟨some 58, .mov (.t 1), none⟩,
    ⟨some 59, .bini .sub (.t 57) (.t 58), none⟩,
    ⟨some 60, .bini .sub (.t 56) (.t 59), none⟩,
    ⟨some 11, .mov (.t 60), none⟩]
def A_slices_pdqsortOrdered_string_12 : List AOper := [⟨some 61, .mov (.t 8), none⟩,
    ⟨some 62, .mov (.t 61), none⟩,
    ⟨some 63, .mov (.t 9), some (62, true)⟩,
    ⟨some 64, .pick (.t 62) (.t 63) (.c (.bool false)), none⟩,
    ⟨some 65, .mov (.t 64), none⟩,
    ⟨some 66, .mov (.t 12), some (65, true)⟩,
    ⟨some 67, .bini .eql (.t 66) (.c (.int .i64 (1))), some (65, true)⟩,
    ⟨some 68, .pick (.t 65) (.t 67) (.c (.bool false)), none⟩]
def A_slices_pdqsortOrdered_string_13 : List AOper := [⟨some 69, .mov (.t 0), none⟩,
    ⟨some 70, .mov (.t 1), none⟩,
    ⟨some 71, .mov (.t 2), none⟩,
    ⟨some 72, .call 109 [(.t 69), (.t 70), (.t 71)], none⟩]
def A_slices_pdqsortOrdered_string_14 : List AOper := [⟨some 73, .mov (.t 1), none⟩,
    ⟨some 74, .bini .gtr (.t 73) (.c (.int .i64 (0))), none⟩,
    ⟨some 75, .mov (.t 74), none⟩,
    ⟨some 76, .mov (.t 0), some (75, true)⟩,
    ⟨some 77, .mov (.t 1), some (75, true)⟩,
    ⟨some 78, .bini .sub (.t 77) (.c (.int .i64 (1))), some (75, true)⟩,
    ⟨some 79, .iaddr 9 1 (.t 76) (.t 78), some (75, true)⟩,
    ⟨some 80, .ld1 (.t 79), some (75, true)⟩,
    ⟨some 81, .mov (.t 0), some (75, true)⟩,
    ⟨some 82, .mov (.t 11), some (75, true)⟩,
    ⟨some 83, .iaddr 9 1 (.t 81) (.t 82), some (75, true)⟩,
    ⟨some 84, .ld1 (.t 83), some (75, true)⟩,
    ⟨some 85, .call 110 [(.t 80), (.t 84)], some (75, true)⟩,
    ⟨some 86, .not (.t 85), some (75, true)⟩,
    ⟨some 87, .pick (.t 75) (.t 86) (.c (.bool false)), none⟩]
def A_slices_pdqsortOrdered_string_15 : List AOper := [⟨some 88, .mov (.t 0), none⟩,
    ⟨some 89, .mov (.t 1), none⟩,
    ⟨some 90, .mov (.t 2), none⟩,
    ⟨some 91, .mov (.t 11), none⟩,
    ⟨some 92, .call 111 [(.t 88), (.t 89), (.t 90), (.t 91)], none⟩,
    ⟨some 13, .mov (.t 92), none⟩]
def A_slices_pdqsortOrdered_string_16 : List AOper := [⟨some 93, .mov (.t 13), none⟩,
    ⟨some 1, .mov (.t 93), none⟩]
def A_slices_pdqsortOrdered_string_17 : List AOper := [⟨some 95, .mov (.t 0), none⟩,
    ⟨some 96, .mov (.t 1), none⟩,
    ⟨some 97, .mov (.t 2), none⟩,
    ⟨some 98, .mov (.t 11), none⟩,
    ⟨some 99, .call 112 [(.t 95), (.t 96), (.t 97), (.t 98)], none⟩,
    ⟨some 94, .mov (.t 99), none⟩,
    ⟨some 100, .ext 0 (.t 94), none⟩,
    ⟨some 101, .ext 1 (.t 94), none⟩,
    ⟨some 14, .mov (.t 100), none⟩,
    ⟨some 15, .mov (.t 101), none⟩]
def A_slices_pdqsortOrdered_string_18 : List AOper := [⟨some 102, .mov (.t 15), none⟩,
    ⟨some 9, .mov (.t 102), none⟩]
def A_slices_pdqsortOrdered_string_19 : List AOper := [⟨some 103, .mov (.t 14), none⟩,
    ⟨some 104, .mov (.t 1), none⟩,
    ⟨some 105, .bini .sub (.t 103) (.t 104), none⟩,
    ⟨some 106, .mov (.t 2), none⟩,
    ⟨some 107, .mov (.t 14), none⟩,
    ⟨some 108, .bini .sub (.t 106) (.t 107), none⟩,
    ⟨some 16, .mov (.t 105), none⟩,
    ⟨some 17, .mov (.t 108), none⟩]
def A_slices_pdqsortOrdered_string_20 : List AOper := [⟨some 109, .mov (.t 10), none⟩,
    ⟨some 110, .bini .quo (.t 109) (.c (.int .i64 (8))), none⟩,
    ⟨some 18, .mov (.t 110), none⟩]
def A_slices_pdqsortOrdered_string_21 : List AOper := [⟨some 111, .mov (.t 16), none⟩,
    ⟨some 112, .mov (.t 17), none⟩,
    ⟨some 113, .bini .lss (.t 111) (.t 112), none⟩]
def A_slices_pdqsortOrdered_string_22 : List AOper := [⟨some 114, .mov (.t 16), none⟩,
    ⟨some 115, .mov (.t 18), none⟩,
    ⟨some 116, .bini .geq (.t 114) (.t 115), none⟩,
    ⟨some 8, .mov (.t 116), none⟩]
def A_slices_pdqsortOrdered_string_23 : List AOper := [⟨some 117, .mov (.t 0), none⟩,
    ⟨some 118, .mov (.t 1), none⟩,
    ⟨some 119, .mov (.t 14), none⟩,
    ⟨some 120, .mov (.t 3), none⟩,
    ⟨some 121, .call 79 [(.t 117), (.t 118), (.t 119), (.t 120)], none⟩]
def A_slices_pdqsortOrdered_string_24 : List AOper := [⟨some 122, .mov (.t 14), none⟩,
    ⟨some 123, .bini .add (.t 122) (.c (.int .i64 (1))), none⟩,
    ⟨some 1, .mov (.t 123), none⟩]
def A_slices_pdqsortOrdered_string_25 : List AOper := [⟨some 124, .mov (.t 17), none⟩,
    ⟨some 125, .mov (.t 18), none⟩,
    ⟨some 126, .bini .geq (.t 124) (.t 125), none⟩,
    ⟨some 8, .mov (.t 126), none⟩]
def A_slices_pdqsortOrdered_string_26 : List AOper := [⟨some 127, .mov (.t 0), none⟩,
    ⟨some 128, .mov (.t 14), none⟩,
    ⟨some 129, .bini .add (.t 128) (.c (.int .i64 (1))), none⟩,
    ⟨some 130, .mov (.t 2), none⟩,
    ⟨some 131, .mov (.t 3), none⟩,
    ⟨some 132, .call 79 [(.t 127), (.t 129), (.t 130), (.t 131)], none⟩]
def A_slices_pdqsortOrdered_string_27 : List AOper := [⟨some 133, .mov (.t 14), none⟩,
    ⟨some 2, .mov (.t 133), none⟩]
def A_slices_pdqsortOrdered_string_28 : ACode := (.block 1 (.seq (.ops A_slices_pdqsortOrdered_string_0) (.seq (.seq (.ops A_slices_pdqsortOrdered_string_1) (.cond (.t 23) (.seq (.ops A_slices_pdqsortOrdered_string_2) .ret) .skip)) (.seq (.seq (.ops A_slices_pdqsortOrdered_string_3) (.cond (.t 29) (.seq (.ops A_slices_pdqsortOrdered_string_4) .ret) .skip)) (.seq (.seq (.ops A_slices_pdqsortOrdered_string_5) (.cond (.t 35) (.seq (.ops A_slices_pdqsortOrdered_string_6) (.ops A_slices_pdqsortOrdered_string_7)) .skip)) (.seq (.ops A_slices_pdqsortOrdered_string_8) (.seq (.seq (.ops A_slices_pdqsortOrdered_string_9) (.cond (.t 50) (.seq (.ops A_slices_pdqsortOrdered_string_10) (.seq (.ops A_slices_pdqsortOrdered_string_11) (.ops [⟨some 12, .mov (.c (.int .i64 (1))), none⟩]))) .skip)) (.seq (.seq (.ops A_slices_pdqsortOrdered_string_12) (.cond (.t 68) (.seq (.ops A_slices_pdqsortOrdered_string_13) (.cond (.t 72) .ret .skip)) .skip)) (.seq (.seq (.alts [73, 74, 75, 76, 77, 78, 79, 80, 81, 82, 83, 84, 85, 86, 87] [A_slices_pdqsortOrdered_string_14]) (.cond (.t 87) (.seq (.ops A_slices_pdqsortOrdered_string_15) (.seq (.ops A_slices_pdqsortOrdered_string_16) (.exit 1))) .skip)) (.seq (.ops A_slices_pdqsortOrdered_string_17) (.seq (.ops A_slices_pdqsortOrdered_string_18) (.seq (.ops A_slices_pdqsortOrdered_string_19) (.seq (.ops A_slices_pdqsortOrdered_string_20) (.seq (.ops A_slices_pdqsortOrdered_string_21) (.cond (.t 113) (.seq (.ops A_slices_pdqsortOrdered_string_22) (.seq (.ops A_slices_pdqsortOrdered_string_23) (.ops A_slices_pdqsortOrdered_string_24))) (.seq (.ops A_slices_pdqsortOrdered_string_25) (.seq (.ops A_slices_pdqsortOrdered_string_26) (.ops A_slices_pdqsortOrdered_string_27))))))))))))))))))
def A_slices_pdqsortOrdered_string : ACode := (.seq (.ops [⟨some 8, .mov (.c (.bool true)), none⟩]) (.seq (.ops [⟨some 9, .mov (.c (.bool true)), none⟩]) (.block 0 (.loop A_slices_pdqsortOrdered_string_28))))
def R_slices_pdqsortOrdered_string : List ARes := []
theorem C_slices_pdqsortOrdered_string : compF Tryz.prog Tryz.f79 = some (A_slices_pdqsortOrdered_string, R_slices_pdqsortOrdered_string) := by kernel_rfl
def T_slices_pdqsortOrdered_string : FC := ⟨134, A_slices_pdqsortOrdered_string, R_slices_pdqsortOrdered_string⟩
theorem G_slices_pdqsortOrdered_string : GoodFC Tryz.prog F_slices_pdqsortOrdered_string T_slices_pdqsortOrdered_string := ⟨Tryz.f79, Tryz.func79, Tryz.ntmps79, C_slices_pdqsortOrdered_string, by kernel_rfl⟩

-- math/bits.Len
abbrev F_math_bits_Len : Nat := 80
def A_math_bits_Len_0 : List AOper := [⟨some 3, .mov (.t 0), none⟩,
    ⟨some 4, .conv .u32 (.t 3), none⟩,
    ⟨some 5, .call 113 [(.t 4)], none⟩,
    ⟨some 2, .mov (.t 5), none⟩]
def A_math_bits_Len_1 : List AOper := [⟨some 6, .mov (.t 0), none⟩,
    ⟨some 7, .call 114 [(.t 6)], none⟩,
    ⟨some 2, .mov (.t 7), none⟩]
def A_math_bits_Len : ACode := (.seq (.ops [⟨some 2, .mov (.c (.int .i64 (0))), none⟩]) (.seq (.cond (.c (.bool false)) (.seq (.ops A_math_bits_Len_0) .ret) .skip) (.seq (.ops A_math_bits_Len_1) .ret)))
def R_math_bits_Len : List ARes := [.tmp 2]
theorem C_math_bits_Len : compF Tryz.prog Tryz.f80 = some (A_math_bits_Len, R_math_bits_Len) := by kernel_rfl
def T_math_bits_Len : FC := ⟨8, A_math_bits_Len, R_math_bits_Len⟩
theorem G_math_bits_Len : GoodFC Tryz.prog F_math_bits_Len T_math_bits_Len := ⟨Tryz.f80, Tryz.func80, Tryz.ntmps80, C_math_bits_Len, by kernel_rfl⟩

-- lexicon/nums.sortOf
abbrev F_nums_sortOf : Nat := 81
def A_nums_sortOf_0 : List AOper := [⟨some 5, .bini .eql (.t 3) (.c (.int .u8 (8))), none⟩,
    ⟨some 4, .mov (.t 5), none⟩]
def A_nums_sortOf_1 : List AOper := [⟨some 7, .bini .eql (.t 3) (.c (.int .u8 (5))), none⟩,
    ⟨some 6, .mov (.t 7), none⟩]
def A_nums_sortOf_2 : List AOper := [⟨some 9, .bini .eql (.t 3) (.c (.int .u8 (17))), none⟩,
    ⟨some 8, .mov (.t 9), none⟩]
def A_nums_sortOf_3 : List AOper := [⟨some 11, .bini .eql (.t 3) (.c (.int .u8 (15))), none⟩,
    ⟨some 10, .mov (.t 11), none⟩]
def A_nums_sortOf_4 : List AOper := [⟨some 13, .bini .eql (.t 3) (.c (.int .u8 (14))), none⟩,
    ⟨some 12, .mov (.t 13), none⟩]
def A_nums_sortOf_5 : List AOper := [⟨some 15, .bini .eql (.t 3) (.c (.int .u8 (3))), none⟩,
    ⟨some 14, .mov (.t 15), none⟩]
def A_nums_sortOf_6 : List AOper := [⟨some 16, .bini .eql (.t 3) (.c (.int .u8 (18))), none⟩,
    ⟨some 14, .mov (.t 16), none⟩]
def A_nums_sortOf_7 : List AOper := [⟨some 17, .bini .eql (.t 3) (.c (.int .u8 (16))), none⟩,
    ⟨some 14, .mov (.t 17), none⟩]
def A_nums_sortOf_8 : List AOper := [⟨some 19, .bini .eql (.t 3) (.c (.int .u8 (13))), none⟩,
    ⟨some 18, .mov (.t 19), none⟩]
def A_nums_sortOf_9 : List AOper := [⟨some 20, .bini .eql (.t 3) (.c (.int .u8 (7))), none⟩,
    ⟨some 18, .mov (.t 20), none⟩]
def A_nums_sortOf_10 : List AOper := [⟨some 22, .bini .eql (.t 3) (.c (.int .u8 (4))), none⟩,
    ⟨some 21, .mov (.t 22), none⟩]
def A_nums_sortOf_11 : List AOper := [⟨some 23, .bini .eql (.t 3) (.c (.int .u8 (6))), none⟩,
    ⟨some 21, .mov (.t 23), none⟩]
def A_nums_sortOf_12 : List AOper := [⟨some 25, .bini .eql (.t 3) (.c (.int .u8 (2))), none⟩,
    ⟨some 24, .mov (.t 25), none⟩]
def A_nums_sortOf_13 : List AOper := [⟨some 27, .bini .eql (.t 3) (.c (.int .u8 (1))), none⟩,
    ⟨some 26, .mov (.t 27), none⟩]
def A_nums_sortOf : ACode := (.seq (.ops [⟨some 2, .mov (.c (.int .i64 (0))), none⟩]) (.seq (.seq (.ops [⟨some 3, .mov (.t 0), none⟩]) (.block 0 (.seq (.block 10 (.seq (.block 9 (.seq (.block 8 (.seq (.block 7 (.seq (.block 6 (.seq (.block 5 (.block 4 (.block 3 (.block 2 (.seq (.block 1 (.seq (.seq (.seq (.ops A_nums_sortOf_0) (.cond (.t 4) (.exit 1) .skip)) (.seq (.seq (.ops A_nums_sortOf_1) (.cond (.t 6) (.exit 2) .skip)) (.seq (.seq (.ops A_nums_sortOf_2) (.cond (.t 8) (.exit 3) .skip)) (.seq (.seq (.ops A_nums_sortOf_3) (.cond (.t 10) (.exit 4) .skip)) (.seq (.seq (.ops A_nums_sortOf_4) (.cond (.t 12) (.exit 5) .skip)) (.seq (.seq (.seq (.ops A_nums_sortOf_5) (.cond (.t 14) .skip (.seq (.ops A_nums_sortOf_6) (.cond (.t 14) .skip (.ops A_nums_sortOf_7))))) (.cond (.t 14) (.exit 6) .skip)) (.seq (.seq (.seq (.ops A_nums_sortOf_8) (.cond (.t 18) .skip (.ops A_nums_sortOf_9))) (.cond (.t 18) (.exit 7) .skip)) (.seq (.seq (.seq (.ops A_nums_sortOf_10) (.cond (.t 21) .skip (.ops A_nums_sortOf_11))) (.cond (.t 21) (.exit 8) .skip)) (.seq (.seq (.ops A_nums_sortOf_12) (.cond (.t 24) (.exit 9) .skip)) (.seq (.ops A_nums_sortOf_13) (.cond (.t 26) (.exit 10) .skip))))))))))) (.exit 0))) (.seq (.seq (.ops [⟨some 2, .mov (.c (.int .i64 (1))), none⟩]) .ret) (.exit 0))))))) (.seq (.seq (.ops [⟨some 2, .mov (.c (.int .i64 (2))), none⟩]) .ret) (.exit 0)))) (.seq (.seq (.ops [⟨some 2, .mov (.c (.int .i64 (3))), none⟩]) .ret) (.exit 0)))) (.seq (.seq (.ops [⟨some 2, .mov (.c (.int .i64 (4))), none⟩]) .ret) (.exit 0)))) (.seq (.seq (.ops [⟨some 2, .mov (.c (.int .i64 (5))), none⟩]) .ret) (.exit 0)))) (.seq (.seq (.ops [⟨some 2, .mov (.c (.int .i64 (6))), none⟩]) .ret) (.exit 0)))) (.seq (.seq (.ops [⟨some 2, .mov (.c (.int .i64 (7))), none⟩]) .ret) (.exit 0))))) (.seq (.ops [⟨some 2, .mov (.c (.int .i64 (0))), none⟩]) .ret)))
def R_nums_sortOf : List ARes := [.tmp 2]
theorem C_nums_sortOf : compF Tryz.prog Tryz.f81 = some (A_nums_sortOf, R_nums_sortOf) := by kernel_rfl
def T_nums_sortOf : FC := ⟨28, A_nums_sortOf, R_nums_sortOf⟩
theorem G_nums_sortOf : GoodFC Tryz.prog F_nums_sortOf T_nums_sortOf := ⟨Tryz.f81, Tryz.func81, Tryz.ntmps81, C_nums_sortOf, by kernel_rfl⟩
end Go.Proofs.YtmnhoegjccdkpabGreatDoor
