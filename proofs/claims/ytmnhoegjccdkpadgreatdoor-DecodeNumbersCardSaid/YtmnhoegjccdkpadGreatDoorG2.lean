/- The codes of functions as the logic has them. Printed by program (gen_all.py). -/
import Derived.Test.YtmnhoegjccdkpadGreatDoorEc
namespace Go.Proofs.YtmnhoegjccdkpadGreatDoor
open Go.L

-- math/bits.Len64
abbrev F_math_bits_Len64 : Nat := 114
def A_math_bits_Len64_0 : List AOper := [⟨some 3, .mov (.t 0), none⟩,
    ⟨some 4, .bini .geq (.t 3) (.c (.int .u64 (4294967296))), none⟩]
def A_math_bits_Len64_1 : List AOper := [⟨some 5, .mov (.t 0), none⟩,
    ⟨some 6, .bini .shr (.t 5) (.c (.int .u64 (32))), none⟩,
    ⟨some 0, .mov (.t 6), none⟩]
def A_math_bits_Len64_2 : List AOper := [⟨some 7, .mov (.t 0), none⟩,
    ⟨some 8, .bini .geq (.t 7) (.c (.int .u64 (65536))), none⟩]
def A_math_bits_Len64_3 : List AOper := [⟨some 9, .mov (.t 0), none⟩,
    ⟨some 10, .bini .shr (.t 9) (.c (.int .u64 (16))), none⟩,
    ⟨some 0, .mov (.t 10), none⟩]
def A_math_bits_Len64_4 : List AOper := [⟨some 11, .mov (.t 2), none⟩,
    ⟨some 12, .bini .add (.t 11) (.c (.int .i64 (16))), none⟩,
    ⟨some 2, .mov (.t 12), none⟩]
def A_math_bits_Len64_5 : List AOper := [⟨some 13, .mov (.t 0), none⟩,
    ⟨some 14, .bini .geq (.t 13) (.c (.int .u64 (256))), none⟩]
def A_math_bits_Len64_6 : List AOper := [⟨some 15, .mov (.t 0), none⟩,
    ⟨some 16, .bini .shr (.t 15) (.c (.int .u64 (8))), none⟩,
    ⟨some 0, .mov (.t 16), none⟩]
def A_math_bits_Len64_7 : List AOper := [⟨some 17, .mov (.t 2), none⟩,
    ⟨some 18, .bini .add (.t 17) (.c (.int .i64 (8))), none⟩,
    ⟨some 2, .mov (.t 18), none⟩]
def A_math_bits_Len64_8 : List AOper := [⟨some 19, .mov (.t 2), none⟩,
    ⟨some 20, .mov (.t 0), none⟩,
    ⟨some 21, .conv .u8 (.t 20), none⟩,
    ⟨some 22, .idxs (.c (.str [0, 1, 2, 2, 3, 3, 3, 3, 4, 4, 4, 4, 4, 4, 4, 4, 5, 5, 5, 5, 5, 5, 5, 5, 5, 5, 5, 5, 5, 5, 5, 5, 6, 6, 6, 6, 6, 6, 6, 6, 6, 6, 6, 6, 6, 6, 6, 6, 6, 6, 6, 6, 6, 6, 6, 6, 6, 6, 6, 6, 6, 6, 6, 6, 7, 7, 7, 7, 7, 7, 7, 7, 7, 7, 7, 7, 7, 7, 7, 7, 7, 7, 7, 7, 7, 7, 7, 7, 7, 7, 7, 7, 7, 7, 7, 7, 7, 7, 7, 7, 7, 7, 7, 7, 7, 7, 7, 7, 7, 7, 7, 7, 7, 7, 7, 7, 7, 7, 7, 7, 7, 7, 7, 7, 7, 7, 7, 7, 8, 8, 8, 8, 8, 8, 8, 8, 8, 8, 8, 8, 8, 8, 8, 8, 8, 8, 8, 8, 8, 8, 8, 8, 8, 8, 8, 8, 8, 8, 8, 8, 8, 8, 8, 8, 8, 8, 8, 8, 8, 8, 8, 8, 8, 8, 8, 8, 8, 8, 8, 8, 8, 8, 8, 8, 8, 8, 8, 8, 8, 8, 8, 8, 8, 8, 8, 8, 8, 8, 8, 8, 8, 8, 8, 8, 8, 8, 8, 8, 8, 8, 8, 8, 8, 8, 8, 8, 8, 8, 8, 8, 8, 8, 8, 8, 8, 8, 8, 8, 8, 8, 8, 8, 8, 8, 8, 8, 8, 8, 8, 8, 8, 8, 8, 8, 8, 8, 8, 8, 8, 8, 8, 8, 8, 8, 8, 8])) (.t 21), none⟩,
    ⟨some 23, .conv .i64 (.t 22), none⟩,
    ⟨some 24, .bini .add (.t 19) (.t 23), none⟩,
    ⟨some 2, .mov (.t 24), none⟩]
def A_math_bits_Len64 : ACode := (.seq (.ops [⟨some 2, .mov (.c (.int .i64 (0))), none⟩]) (.seq (.seq (.ops A_math_bits_Len64_0) (.cond (.t 4) (.seq (.ops A_math_bits_Len64_1) (.ops [⟨some 2, .mov (.c (.int .i64 (32))), none⟩])) .skip)) (.seq (.seq (.ops A_math_bits_Len64_2) (.cond (.t 8) (.seq (.ops A_math_bits_Len64_3) (.ops A_math_bits_Len64_4)) .skip)) (.seq (.seq (.ops A_math_bits_Len64_5) (.cond (.t 14) (.seq (.ops A_math_bits_Len64_6) (.ops A_math_bits_Len64_7)) .skip)) (.seq (.ops A_math_bits_Len64_8) .ret)))))
def R_math_bits_Len64 : List ARes := [.tmp 2]
def T_math_bits_Len64 : FC := ⟨25, A_math_bits_Len64, R_math_bits_Len64⟩

-- lexicon/dyn.kinds
abbrev F_dyn_kinds : Nat := 115
def A_dyn_kinds_0 : List AOper := [⟨some 6, .mov (.t 4), none⟩,
    ⟨some 2, .mov (.t 6), none⟩]
def A_dyn_kinds_1 : List AOper := [⟨some 7, .mov (.t 2), none⟩,
    ⟨some 8, .adr 19 1 (.t 1) (.t 7), none⟩,
    ⟨none, .st 1 (.t 8) (.f 170), none⟩]
def A_dyn_kinds_2 : List AOper := [⟨some 9, .bini .add (.t 4) (.c (.int .i64 (1))), none⟩,
    ⟨some 4, .mov (.t 9), none⟩]
def A_dyn_kinds_3 : ACode := (.seq (.ops [⟨some 5, .bini .lss (.t 4) (.c (.int .i64 (19))), none⟩]) (.seq (.cond (.t 5) .skip (.exit 0)) (.seq (.block 1 (.seq (.ops A_dyn_kinds_0) (.ops A_dyn_kinds_1))) (.ops A_dyn_kinds_2))))
def A_dyn_kinds_4 : List AOper := [⟨some 10, .mov (.t 3), none⟩,
    ⟨some 11, .mov (.t 3), none⟩,
    ⟨some 12, .adr 19 1 (.t 1) (.c (.int .u8 (9))), none⟩,
    ⟨none, .st 1 (.t 12) (.t 10), none⟩,
    ⟨some 13, .adr 19 1 (.t 1) (.c (.int .u8 (12))), none⟩,
    ⟨none, .st 1 (.t 13) (.t 11), none⟩]
def A_dyn_kinds_5 : List AOper := [⟨some 14, .adr 19 1 (.t 1) (.c (.int .u8 (11))), none⟩,
    ⟨none, .st 1 (.t 14) (.f 173), none⟩]
def A_dyn_kinds_6 : List AOper := [⟨some 15, .lda 19 (.t 1), none⟩,
    ⟨none, .st 19 (.t 0) (.t 15), none⟩]
def A_dyn_kinds : ACode := (.seq (.ops [⟨some 0, .box 242 19 (.c (.agg [.nilf, .nilf, .nilf, .nilf, .nilf, .nilf, .nilf, .nilf, .nilf, .nilf, .nilf, .nilf, .nilf, .nilf, .nilf, .nilf, .nilf, .nilf, .nilf])), none⟩]) (.seq (.ops [⟨some 1, .box 242 19 (.c (.agg [.nilf, .nilf, .nilf, .nilf, .nilf, .nilf, .nilf, .nilf, .nilf, .nilf, .nilf, .nilf, .nilf, .nilf, .nilf, .nilf, .nilf, .nilf, .nilf])), none⟩]) (.seq (.seq (.ops [⟨some 4, .mov (.c (.int .i64 (0))), none⟩]) (.block 0 (.loop A_dyn_kinds_3))) (.seq (.ops [⟨some 3, .mov (.f 172), none⟩]) (.seq (.ops A_dyn_kinds_4) (.seq (.ops A_dyn_kinds_5) (.seq (.ops A_dyn_kinds_6) .ret)))))))
def R_dyn_kinds : List ARes := [.cella 0 19]
def T_dyn_kinds : FC := ⟨16, A_dyn_kinds, R_dyn_kinds⟩

-- (*lexicon/dyn.checker).message
abbrev F_dyn_checker_message : Nat := 116
def A_dyn_checker_message_0 : List AOper := [⟨some 5, .box 40 3 (.t 1), none⟩,
    ⟨some 8, .mov (.c (.nilp)), none⟩]
def A_dyn_checker_message_1 : List AOper := [⟨some 18, .mov (.t 3), none⟩,
    ⟨some 19, .bini .gtr (.t 18) (.c (.int .i64 (100))), none⟩]
def A_dyn_checker_message_2 : List AOper := [⟨some 20, .mov (.t 2), none⟩,
    ⟨some 21, .build [.int .i64 (0), .str []] [(0, 1, (.c (.int .i64 (104)))), (1, 1, (.t 20))], none⟩,
    ⟨some 22, .box 249 2 (.t 21), none⟩,
    ⟨some 8, .mov (.t 22), none⟩]
def A_dyn_checker_message_3 : List AOper := [⟨some 24, .mov (.t 0), none⟩,
    ⟨some 25, .nilc (.t 24), none⟩,
    ⟨some 26, .faddr 0 (.t 25), none⟩,
    ⟨some 27, .ld1 (.t 26), none⟩,
    ⟨some 28, .faddr 0 (.t 5), none⟩,
    ⟨some 29, .ld1 (.t 28), none⟩,
    ⟨some 30, .inv [(35, 337)] (.t 27) [(.t 29)], none⟩,
    ⟨some 23, .mov (.t 30), none⟩,
    ⟨some 31, .ext 0 (.t 23), none⟩,
    ⟨some 32, .ext 1 (.t 23), none⟩,
    ⟨some 9, .mov (.t 31), none⟩,
    ⟨some 10, .mov (.t 32), none⟩]
def A_dyn_checker_message_4 : List AOper := [⟨some 33, .mov (.t 10), none⟩,
    ⟨some 34, .bini .neq (.t 33) (.c (.int .i64 (0))), none⟩]
def A_dyn_checker_message_5 : List AOper := [⟨some 35, .mov (.t 2), none⟩,
    ⟨some 36, .build [.int .i64 (0), .str []] [(0, 1, (.c (.int .i64 (100)))), (1, 1, (.t 35))], none⟩,
    ⟨some 37, .box 249 2 (.t 36), none⟩,
    ⟨some 8, .mov (.t 37), none⟩]
def A_dyn_checker_message_6 : List AOper := [⟨some 38, .mkmap, none⟩,
    ⟨some 11, .mov (.t 38), none⟩]
def A_dyn_checker_message_7 : List AOper := [⟨some 39, .faddr 1 (.t 5), none⟩,
    ⟨some 40, .ld1 (.t 39), none⟩,
    ⟨some 41, .lenl (.t 40), none⟩,
    ⟨some 42, .mov (.c (.int .i64 (0))), none⟩]
def A_dyn_checker_message_8 : List AOper := [⟨some 44, .mov (.t 42), none⟩,
    ⟨some 45, .iaddr 49 3 (.t 40) (.t 42), none⟩,
    ⟨some 46, .lda 3 (.t 45), none⟩,
    ⟨some 13, .box 49 3 (.c (.agg [.int .i32 (0), .nils, .nils])), none⟩,
    ⟨some 12, .mov (.t 44), none⟩,
    ⟨none, .st 3 (.t 13) (.t 46), none⟩]
def A_dyn_checker_message_9 : List AOper := [⟨some 48, .mov (.t 9), none⟩,
    ⟨some 49, .faddr 0 (.t 13), none⟩,
    ⟨some 50, .ld1 (.t 49), none⟩,
    ⟨some 51, .call 70 [(.t 48), (.t 50)], none⟩,
    ⟨some 47, .mov (.t 51), none⟩,
    ⟨some 52, .ext 0 (.t 47), none⟩,
    ⟨some 53, .ext 1 (.t 47), none⟩,
    ⟨some 14, .box 170 9 (.c (.agg [.int .i32 (0), .str [], .str [], .int .u8 (0), .int .u8 (0), .int .u8 (0), .bool false, .int .i64 (0), .str []])), none⟩,
    ⟨none, .st 9 (.t 14) (.t 52), none⟩,
    ⟨some 15, .mov (.t 53), none⟩]
def A_dyn_checker_message_10 : List AOper := [⟨some 54, .mov (.t 2), none⟩,
    ⟨some 55, .faddr 1 (.t 14), none⟩,
    ⟨some 56, .ld1 (.t 55), none⟩,
    ⟨some 57, .call 174 [(.t 54), (.t 56)], none⟩,
    ⟨some 16, .mov (.t 57), none⟩]
def A_dyn_checker_message_11 : List AOper := [⟨some 58, .mov (.t 15), none⟩,
    ⟨some 59, .not (.t 58), none⟩]
def A_dyn_checker_message_12 : List AOper := [⟨some 60, .mov (.t 2), none⟩,
    ⟨some 61, .faddr 0 (.t 13), none⟩,
    ⟨some 62, .ld1 (.t 61), none⟩,
    ⟨some 63, .conv .i64 (.t 62), none⟩,
    ⟨some 64, .call 175 [(.t 63)], none⟩,
    ⟨some 65, .bins .add (.c (.str [35])) (.t 64), none⟩,
    ⟨some 66, .call 174 [(.t 60), (.t 65)], none⟩,
    ⟨some 16, .mov (.t 66), none⟩]
def A_dyn_checker_message_13 : List AOper := [⟨some 68, .mov (.t 12), none⟩,
    ⟨some 69, .bini .gtr (.t 68) (.c (.int .i64 (0))), none⟩,
    ⟨some 70, .mov (.t 69), none⟩,
    ⟨some 71, .faddr 0 (.t 13), some (70, true)⟩,
    ⟨some 72, .ld1 (.t 71), some (70, true)⟩,
    ⟨some 73, .faddr 1 (.t 5), some (70, true)⟩,
    ⟨some 74, .ld1 (.t 73), some (70, true)⟩,
    ⟨some 75, .mov (.t 12), some (70, true)⟩,
    ⟨some 76, .bini .sub (.t 75) (.c (.int .i64 (1))), some (70, true)⟩,
    ⟨some 77, .iaddr 49 3 (.t 74) (.t 76), some (70, true)⟩,
    ⟨some 78, .faddr 0 (.t 77), some (70, true)⟩,
    ⟨some 79, .ld1 (.t 78), some (70, true)⟩,
    ⟨some 80, .bini .leq (.t 72) (.t 79), some (70, true)⟩,
    ⟨some 81, .pick (.t 70) (.t 80) (.c (.bool false)), none⟩,
    ⟨some 67, .mov (.t 81), none⟩]
def A_dyn_checker_message_14 : List AOper := [⟨some 82, .mov (.t 16), none⟩,
    ⟨some 83, .build [.int .i64 (0), .str []] [(0, 1, (.c (.int .i64 (106)))), (1, 1, (.t 82))], none⟩,
    ⟨some 84, .box 249 2 (.t 83), none⟩,
    ⟨some 8, .mov (.t 84), none⟩]
def A_dyn_checker_message_15 : List AOper := [⟨some 86, .mov (.t 15), none⟩,
    ⟨some 87, .not (.t 86), none⟩,
    ⟨some 85, .mov (.t 87), none⟩]
def A_dyn_checker_message_16 : List AOper := [⟨some 88, .mov (.t 16), none⟩,
    ⟨some 89, .build [.int .i64 (0), .str []] [(0, 1, (.c (.int .i64 (101)))), (1, 1, (.t 88))], none⟩,
    ⟨some 90, .box 249 2 (.t 89), none⟩,
    ⟨some 8, .mov (.t 90), none⟩]
def A_dyn_checker_message_17 : List AOper := [⟨some 92, .faddr 7 (.t 14), none⟩,
    ⟨some 93, .ld1 (.t 92), none⟩,
    ⟨some 94, .bini .gtr (.t 93) (.c (.int .i64 (0))), none⟩,
    ⟨some 95, .mov (.t 94), none⟩,
    ⟨some 96, .mov (.t 11), some (95, true)⟩,
    ⟨some 97, .faddr 7 (.t 14), some (95, true)⟩,
    ⟨some 98, .ld1 (.t 97), some (95, true)⟩,
    ⟨some 99, .mlook .i (.int .i32 (0)) false (.t 96) (.t 98), some (95, true)⟩,
    ⟨some 100, .bini .gtr (.t 99) (.c (.int .i32 (0))), some (95, true)⟩,
    ⟨some 101, .pick (.t 95) (.t 100) (.c (.bool false)), none⟩,
    ⟨some 91, .mov (.t 101), none⟩]
def A_dyn_checker_message_18 : List AOper := [⟨some 102, .mov (.t 16), none⟩,
    ⟨some 103, .build [.int .i64 (0), .str []] [(0, 1, (.c (.int .i64 (105)))), (1, 1, (.t 102))], none⟩,
    ⟨some 104, .box 249 2 (.t 103), none⟩,
    ⟨some 8, .mov (.t 104), none⟩]
def A_dyn_checker_message_19 : List AOper := [⟨some 105, .mov (.t 11), none⟩,
    ⟨some 106, .faddr 7 (.t 14), none⟩,
    ⟨some 107, .ld1 (.t 106), none⟩,
    ⟨some 108, .faddr 0 (.t 13), none⟩,
    ⟨some 109, .ld1 (.t 108), none⟩,
    ⟨none, .mupd .i (.t 105) (.t 107) (.t 109), none⟩]
def A_dyn_checker_message_20 : List AOper := [⟨some 110, .mov (.t 0), none⟩,
    ⟨some 111, .lda 9 (.t 14), none⟩,
    ⟨some 112, .lda 3 (.t 13), none⟩,
    ⟨some 113, .mov (.t 16), none⟩,
    ⟨some 114, .mov (.t 3), none⟩,
    ⟨some 115, .call 176 [(.t 110), (.t 111), (.t 112), (.t 113), (.t 114)], none⟩,
    ⟨some 17, .mov (.t 115), none⟩]
def A_dyn_checker_message_21 : List AOper := [⟨some 116, .mov (.t 17), none⟩,
    ⟨some 117, .isnil .pt true (.t 116), none⟩]
def A_dyn_checker_message_22 : List AOper := [⟨some 118, .mov (.t 17), none⟩,
    ⟨some 8, .mov (.t 118), none⟩]
def A_dyn_checker_message_23 : List AOper := [⟨some 119, .bini .add (.t 42) (.c (.int .i64 (1))), none⟩,
    ⟨some 42, .mov (.t 119), none⟩]
def A_dyn_checker_message_24 : ACode := (.seq (.ops [⟨some 43, .bini .lss (.t 42) (.t 41), none⟩]) (.seq (.cond (.t 43) .skip (.exit 0)) (.seq (.block 1 (.seq (.ops A_dyn_checker_message_8) (.seq (.ops A_dyn_checker_message_9) (.seq (.ops A_dyn_checker_message_10) (.seq (.seq (.ops A_dyn_checker_message_11) (.cond (.t 59) (.ops A_dyn_checker_message_12) .skip)) (.seq (.block 2 (.seq (.alts [68, 69, 70, 71, 72, 73, 74, 75, 76, 77, 78, 79, 80, 81, 67] [A_dyn_checker_message_13]) (.cond (.t 67) (.seq (.ops A_dyn_checker_message_14) .ret) (.seq (.ops A_dyn_checker_message_15) (.cond (.t 85) (.seq (.ops A_dyn_checker_message_16) .ret) (.seq (.ops A_dyn_checker_message_17) (.cond (.t 91) (.seq (.ops A_dyn_checker_message_18) .ret) .skip))))))) (.seq (.ops A_dyn_checker_message_19) (.seq (.ops A_dyn_checker_message_20) (.seq (.ops A_dyn_checker_message_21) (.cond (.t 117) (.seq (.ops A_dyn_checker_message_22) .ret) .skip)))))))))) (.ops A_dyn_checker_message_23))))
def A_dyn_checker_message_25 : List AOper := [⟨some 120, .mov (.t 0), none⟩,
    ⟨some 121, .mov (.t 9), none⟩,
    ⟨some 122, .faddr 2 (.t 5), none⟩,
    ⟨some 123, .ld1 (.t 122), none⟩,
    ⟨some 124, .mov (.t 2), none⟩,
    ⟨some 125, .mov (.t 3), none⟩,
    ⟨some 126, .call 177 [(.t 120), (.t 121), (.t 123), (.t 124), (.t 125)], none⟩,
    ⟨some 8, .mov (.t 126), none⟩]
def A_dyn_checker_message : ACode := (.seq (.ops A_dyn_checker_message_0) (.seq (.seq (.ops A_dyn_checker_message_1) (.cond (.t 19) (.seq (.ops A_dyn_checker_message_2) .ret) .skip)) (.seq (.alts [24, 25, 26, 27, 28, 29, 30, 23, 31, 32, 9, 10] [A_dyn_checker_message_3]) (.seq (.seq (.ops A_dyn_checker_message_4) (.cond (.t 34) (.seq (.ops A_dyn_checker_message_5) .ret) .skip)) (.seq (.ops A_dyn_checker_message_6) (.seq (.seq (.ops A_dyn_checker_message_7) (.block 0 (.loop A_dyn_checker_message_24))) (.seq (.ops A_dyn_checker_message_25) .ret)))))))
def R_dyn_checker_message : List ARes := [.tmp 8]
def T_dyn_checker_message : FC := ⟨127, A_dyn_checker_message, R_dyn_checker_message⟩

-- (*lexicon/decode.decoder).below
abbrev F_decode_decoder_below : Nat := 122
def A_decode_decoder_below_0 : List AOper := [⟨some 9, .mov (.t 2), none⟩,
    ⟨some 10, .bini .add (.t 9) (.c (.int .i64 (1))), none⟩,
    ⟨some 11, .bini .gtr (.t 10) (.c (.int .i64 (100))), none⟩]
def A_decode_decoder_below_1 : List AOper := [⟨some 12, .mov (.t 3), none⟩,
    ⟨some 13, .build [.int .i64 (0), .int .i64 (0)] [(0, 1, (.c (.int .i64 (121)))), (1, 1, (.t 12))], none⟩,
    ⟨some 14, .mkifc 117 (.t 13), none⟩,
    ⟨none, .pan (.t 14), none⟩]
def A_decode_decoder_below_2 : List AOper := [⟨some 15, .mov (.t 0), none⟩,
    ⟨some 16, .mov (.t 1), none⟩,
    ⟨some 17, .mov (.t 3), none⟩,
    ⟨some 18, .call 68 [(.t 15), (.t 16), (.t 17)], none⟩,
    ⟨some 8, .mov (.t 18), none⟩]
def A_decode_decoder_below : ACode := (.seq (.ops [⟨some 8, .mov (.c (.nilp)), none⟩]) (.seq (.seq (.ops A_decode_decoder_below_0) (.cond (.t 11) (.ops A_decode_decoder_below_1) .skip)) (.seq (.ops A_decode_decoder_below_2) .ret)))
def R_decode_decoder_below : List ARes := [.tmp 8]
def T_decode_decoder_below : FC := ⟨19, A_decode_decoder_below, R_decode_decoder_below⟩

-- lexicon/decode.part
abbrev F_decode_part : Nat := 123
def A_decode_part_0 : List AOper := [⟨some 4, .mov (.t 0), none⟩,
    ⟨some 5, .call 183 [(.t 4)], none⟩,
    ⟨some 3, .mov (.t 5), none⟩]
def A_decode_part_1 : List AOper := [⟨some 6, .mov (.t 0), none⟩,
    ⟨some 7, .call 78 [(.t 6)], none⟩]
def A_decode_part_2 : List AOper := [⟨some 8, .mov (.t 3), none⟩,
    ⟨some 2, .mov (.t 8), none⟩]
def A_decode_part : ACode := (.seq (.ops [⟨some 2, .mov (.c (.nilp)), none⟩]) (.seq (.ops A_decode_part_0) (.seq (.ops A_decode_part_1) (.seq (.ops A_decode_part_2) .ret))))
def R_decode_part : List ARes := [.tmp 2]
def T_decode_part : FC := ⟨9, A_decode_part, R_decode_part⟩

-- lexicon/decode.plain
abbrev F_decode_plain : Nat := 124
def A_decode_plain_0 : List AOper := [⟨some 5, .mov (.t 0), none⟩,
    ⟨some 6, .bini .eql (.t 5) (.c (.int .u8 (9))), none⟩,
    ⟨some 7, .mov (.t 6), none⟩,
    ⟨some 8, .mov (.t 0), some (7, false)⟩,
    ⟨some 9, .bini .eql (.t 8) (.c (.int .u8 (12))), some (7, false)⟩,
    ⟨some 10, .pick (.t 7) (.c (.bool true)) (.t 9), none⟩]
def A_decode_plain_1 : List AOper := [⟨some 11, .mov (.t 0), none⟩,
    ⟨some 12, .mov (.t 1), none⟩,
    ⟨some 13, .call 184 [(.t 11), (.t 12)], none⟩,
    ⟨none, .st 3 (.t 4) (.t 13), none⟩]
def A_decode_plain_2 : List AOper := [⟨some 14, .mov (.t 0), none⟩,
    ⟨some 15, .mov (.t 1), none⟩,
    ⟨some 16, .call 127 [(.t 14), (.t 15)], none⟩,
    ⟨none, .st 3 (.t 4) (.t 16), none⟩]
def A_decode_plain : ACode := (.seq (.ops [⟨some 4, .box 46 3 (.c (.agg [.int .u64 (0), .str [], .nils])), none⟩]) (.seq (.seq (.ops A_decode_plain_0) (.cond (.t 10) (.seq (.ops A_decode_plain_1) .ret) .skip)) (.seq (.ops A_decode_plain_2) .ret)))
def R_decode_plain : List ARes := [.cella 4 3]
def T_decode_plain : FC := ⟨17, A_decode_plain, R_decode_plain⟩

-- maps.DeleteFunc[map[int32]*lexicon/decode.field,int32,*lexicon/decode.field]
abbrev F_maps_DeleteFunc_map_int32_decode_field_int32_decode_field : Nat := 125
def A_maps_DeleteFunc_map_int32_decode_field_int32_decode_field_0 : List AOper := [⟨some 6, .mov (.t 0), none⟩,
    ⟨some 7, .rngm (.t 6), none⟩]
def A_maps_DeleteFunc_map_int32_decode_field_int32_decode_field_1 : List AOper := [⟨some 8, .nxm (.t 7), none⟩,
    ⟨some 9, .ext 0 (.t 8), none⟩]
def A_maps_DeleteFunc_map_int32_decode_field_int32_decode_field_2 : List AOper := [⟨some 10, .entr (.t 7), none⟩,
    ⟨some 11, .ext 0 (.t 10), none⟩,
    ⟨some 12, .ext 1 (.t 10), none⟩,
    ⟨some 4, .mov (.t 11), none⟩,
    ⟨some 5, .mov (.t 12), none⟩]
def A_maps_DeleteFunc_map_int32_decode_field_int32_decode_field_3 : List AOper := [⟨some 13, .mov (.t 1), none⟩,
    ⟨some 14, .mov (.t 4), none⟩,
    ⟨some 15, .mov (.t 5), none⟩,
    ⟨some 16, .callv (.t 13) [(.t 14), (.t 15)], none⟩]
def A_maps_DeleteFunc_map_int32_decode_field_int32_decode_field_4 : List AOper := [⟨some 17, .mov (.t 0), none⟩,
    ⟨some 18, .mov (.t 4), none⟩,
    ⟨none, .mdel .i (.t 17) (.t 18), none⟩]
def A_maps_DeleteFunc_map_int32_decode_field_int32_decode_field_5 : ACode := (.seq (.ops A_maps_DeleteFunc_map_int32_decode_field_int32_decode_field_1) (.seq (.cond (.t 9) .skip (.exit 0)) (.block 1 (.seq (.ops A_maps_DeleteFunc_map_int32_decode_field_int32_decode_field_2) (.seq (.ops A_maps_DeleteFunc_map_int32_decode_field_int32_decode_field_3) (.cond (.t 16) (.ops A_maps_DeleteFunc_map_int32_decode_field_int32_decode_field_4) .skip))))))
def A_maps_DeleteFunc_map_int32_decode_field_int32_decode_field : ACode := (.seq (.ops A_maps_DeleteFunc_map_int32_decode_field_int32_decode_field_0) (.block 0 (.loop A_maps_DeleteFunc_map_int32_decode_field_int32_decode_field_5)))
def R_maps_DeleteFunc_map_int32_decode_field_int32_decode_field : List ARes := []
def T_maps_DeleteFunc_map_int32_decode_field_int32_decode_field : FC := ⟨19, A_maps_DeleteFunc_map_int32_decode_field_int32_decode_field, R_maps_DeleteFunc_map_int32_decode_field_int32_decode_field⟩

-- (*lexicon/decode.decoder).one$1
abbrev F_decode_decoder_one_c1 : Nat := 126
def A_decode_decoder_one_c1_0 : List AOper := [⟨some 6, .mov (.t 1), none⟩,
    ⟨some 7, .nilc (.t 6), none⟩,
    ⟨some 8, .faddr 0 (.t 7), none⟩,
    ⟨some 9, .faddr 7 (.t 8), none⟩,
    ⟨some 10, .ld1 (.t 9), none⟩,
    ⟨some 11, .faddr 7 (.t 2), none⟩,
    ⟨some 12, .ld1 (.t 11), none⟩,
    ⟨some 13, .bini .eql (.t 10) (.t 12), none⟩,
    ⟨some 14, .mov (.t 13), none⟩,
    ⟨some 15, .mov (.t 1), some (14, true)⟩,
    ⟨some 16, .nilc (.t 15), some (14, true)⟩,
    ⟨some 17, .faddr 0 (.t 16), some (14, true)⟩,
    ⟨some 18, .faddr 0 (.t 17), some (14, true)⟩,
    ⟨some 19, .ld1 (.t 18), some (14, true)⟩,
    ⟨some 20, .faddr 0 (.t 2), some (14, true)⟩,
    ⟨some 21, .ld1 (.t 20), some (14, true)⟩,
    ⟨some 22, .bini .neq (.t 19) (.t 21), some (14, true)⟩,
    ⟨some 23, .pick (.t 14) (.t 22) (.c (.bool false)), none⟩,
    ⟨some 5, .mov (.t 23), none⟩]
def A_decode_decoder_one_c1 : ACode := (.seq (.ops [⟨some 5, .mov (.c (.bool false)), none⟩]) (.seq (.alts [6, 7, 8, 9, 10, 11, 12, 13, 14, 15, 16, 17, 18, 19, 20, 21, 22, 23, 5] [A_decode_decoder_one_c1_0]) .ret))
def R_decode_decoder_one_c1 : List ARes := [.tmp 5]
def T_decode_decoder_one_c1 : FC := ⟨24, A_decode_decoder_one_c1, R_decode_decoder_one_c1⟩

-- lexicon/decode.number
abbrev F_decode_number : Nat := 127
def A_decode_number_0 : List AOper := [⟨some 7, .mov (.t 0), none⟩,
    ⟨some 8, .call 64 [(.t 7)], none⟩]
def A_decode_number_1 : List AOper := [⟨some 14, .bini .eql (.t 8) (.c (.int .u8 (1))), none⟩,
    ⟨some 13, .mov (.t 14), none⟩]
def A_decode_number_2 : List AOper := [⟨some 15, .mov (.t 1), none⟩,
    ⟨some 16, .call 185 [(.t 15)], none⟩,
    ⟨some 5, .mov (.t 16), none⟩]
def A_decode_number_3 : List AOper := [⟨some 18, .bini .eql (.t 8) (.c (.int .u8 (5))), none⟩,
    ⟨some 17, .mov (.t 18), none⟩]
def A_decode_number_4 : List AOper := [⟨some 19, .mov (.t 1), none⟩,
    ⟨some 20, .call 186 [(.t 19)], none⟩,
    ⟨some 6, .mov (.t 20), none⟩]
def A_decode_number_5 : List AOper := [⟨some 21, .mov (.t 6), none⟩,
    ⟨some 22, .conv .u64 (.t 21), none⟩,
    ⟨some 5, .mov (.t 22), none⟩]
def A_decode_number_6 : List AOper := [⟨some 23, .mov (.t 0), none⟩,
    ⟨some 24, .bini .eql (.t 23) (.c (.int .u8 (15))), none⟩]
def A_decode_number_7 : List AOper := [⟨some 25, .mov (.t 6), none⟩,
    ⟨some 26, .conv .i32 (.t 25), none⟩,
    ⟨some 27, .conv .i64 (.t 26), none⟩,
    ⟨some 28, .conv .u64 (.t 27), none⟩,
    ⟨some 5, .mov (.t 28), none⟩]
def A_decode_number_8 : List AOper := [⟨some 9, .mov (.t 0), none⟩,
    ⟨some 10, .mov (.t 1), none⟩,
    ⟨some 11, .call 188 [(.t 10)], none⟩,
    ⟨some 12, .call 187 [(.t 9), (.t 11)], none⟩,
    ⟨some 5, .mov (.t 12), none⟩]
def A_decode_number_9 : List AOper := [⟨some 29, .mov (.t 1), none⟩,
    ⟨some 30, .call 78 [(.t 29)], none⟩]
def A_decode_number_10 : List AOper := [⟨some 31, .mov (.t 5), none⟩,
    ⟨some 32, .build [.int .u64 (0), .str [], .nils] [(0, 1, (.t 31))], none⟩,
    ⟨none, .st 3 (.t 4) (.t 32), none⟩]
def A_decode_number : ACode := (.seq (.ops [⟨some 4, .box 46 3 (.c (.agg [.int .u64 (0), .str [], .nils])), none⟩]) (.seq (.ops [⟨some 5, .mov (.c (.int .u64 (0))), none⟩]) (.seq (.seq (.ops A_decode_number_0) (.block 0 (.seq (.ops A_decode_number_1) (.cond (.t 13) (.ops A_decode_number_2) (.seq (.ops A_decode_number_3) (.cond (.t 17) (.seq (.ops A_decode_number_4) (.seq (.ops A_decode_number_5) (.seq (.ops A_decode_number_6) (.cond (.t 24) (.ops A_decode_number_7) .skip)))) (.ops A_decode_number_8))))))) (.seq (.ops A_decode_number_9) (.seq (.ops A_decode_number_10) .ret)))))
def R_decode_number : List ARes := [.cella 4 3]
def T_decode_number : FC := ⟨33, A_decode_number, R_decode_number⟩

-- (*lexicon/table.Table).at
abbrev F_table_Table_at : Nat := 128
def A_table_Table_at_0 : List AOper := [⟨some 6, .box 170 9 (.c (.agg [.int .i32 (0), .str [], .str [], .int .u8 (0), .int .u8 (0), .int .u8 (0), .bool false, .int .i64 (0), .str []])), none⟩,
    ⟨some 7, .mov (.c (.bool false)), none⟩]
def A_table_Table_at_1 : List AOper := [⟨some 8, .mov (.t 2), none⟩,
    ⟨some 9, .not (.t 8), none⟩]
def A_table_Table_at_2 : List AOper := [⟨some 10, .build [.int .i32 (0), .str [], .str [], .int .u8 (0), .int .u8 (0), .int .u8 (0), .bool false, .int .i64 (0), .str []] [], none⟩,
    ⟨none, .st 9 (.t 6) (.t 10), none⟩,
    ⟨some 7, .mov (.c (.bool false)), none⟩]
def A_table_Table_at_3 : List AOper := [⟨some 11, .mov (.t 0), none⟩,
    ⟨some 12, .nilc (.t 11), none⟩,
    ⟨some 13, .faddr 2 (.t 12), none⟩,
    ⟨some 14, .ld1 (.t 13), none⟩,
    ⟨some 15, .mov (.t 1), none⟩,
    ⟨some 16, .iaddr 170 9 (.t 14) (.t 15), none⟩,
    ⟨some 17, .lda 9 (.t 16), none⟩,
    ⟨none, .st 9 (.t 6) (.t 17), none⟩,
    ⟨some 7, .mov (.c (.bool true)), none⟩]
def A_table_Table_at : ACode := (.seq (.ops A_table_Table_at_0) (.seq (.seq (.ops A_table_Table_at_1) (.cond (.t 9) (.seq (.ops A_table_Table_at_2) .ret) .skip)) (.seq (.ops A_table_Table_at_3) .ret)))
def R_table_Table_at : List ARes := [.cella 6 9, .tmp 7]
def T_table_Table_at : FC := ⟨18, A_table_Table_at, R_table_Table_at⟩

-- (*lexicon/wire.Reader).Tag
abbrev F_wire_Reader_Tag : Nat := 129
def A_wire_Reader_Tag_0 : List AOper := [⟨some 2, .mov (.c (.int .i32 (0))), none⟩,
    ⟨some 3, .mov (.c (.int .u8 (0))), none⟩]
def A_wire_Reader_Tag_1 : List AOper := [⟨some 7, .mov (.t 0), none⟩,
    ⟨some 8, .nilc (.t 7), none⟩,
    ⟨some 9, .faddr 1 (.t 8), none⟩,
    ⟨some 10, .ld1 (.t 9), none⟩,
    ⟨some 4, .mov (.t 10), none⟩]
def A_wire_Reader_Tag_2 : List AOper := [⟨some 11, .mov (.t 0), none⟩,
    ⟨some 12, .call 188 [(.t 11)], none⟩,
    ⟨some 5, .mov (.t 12), none⟩]
def A_wire_Reader_Tag_3 : List AOper := [⟨some 13, .mov (.t 0), none⟩,
    ⟨some 14, .nilc (.t 13), none⟩,
    ⟨some 15, .faddr 3 (.t 14), none⟩,
    ⟨some 16, .ld1 (.t 15), none⟩,
    ⟨some 17, .bini .neq (.t 16) (.c (.int .i64 (0))), none⟩]
def A_wire_Reader_Tag_4 : List AOper := [⟨some 2, .mov (.c (.int .i32 (0))), none⟩,
    ⟨some 3, .mov (.c (.int .u8 (0))), none⟩]
def A_wire_Reader_Tag_5 : List AOper := [⟨some 18, .mov (.t 5), none⟩,
    ⟨some 19, .bini .and (.t 18) (.c (.int .u64 (7))), none⟩,
    ⟨some 20, .conv .u8 (.t 19), none⟩,
    ⟨some 6, .mov (.t 20), none⟩]
def A_wire_Reader_Tag_6 : List AOper := [⟨some 21, .mov (.t 5), none⟩,
    ⟨some 22, .bini .gtr (.t 21) (.c (.int .u64 (4294967295))), none⟩,
    ⟨some 23, .mov (.t 22), none⟩,
    ⟨some 24, .mov (.t 5), some (23, false)⟩,
    ⟨some 25, .bini .shr (.t 24) (.c (.int .u64 (3))), some (23, false)⟩,
    ⟨some 26, .bini .eql (.t 25) (.c (.int .u64 (0))), some (23, false)⟩,
    ⟨some 27, .pick (.t 23) (.c (.bool true)) (.t 26), none⟩,
    ⟨some 28, .mov (.t 27), none⟩,
    ⟨some 29, .mov (.t 6), some (28, false)⟩,
    ⟨some 30, .bini .gtr (.t 29) (.c (.int .u8 (5))), some (28, false)⟩,
    ⟨some 31, .pick (.t 28) (.c (.bool true)) (.t 30), none⟩]
def A_wire_Reader_Tag_7 : List AOper := [⟨some 32, .mov (.t 0), none⟩,
    ⟨some 33, .mov (.t 4), none⟩,
    ⟨some 34, .nilc (.t 32), none⟩,
    ⟨some 35, .faddr 1 (.t 34), none⟩,
    ⟨none, .st 1 (.t 35) (.t 33), none⟩]
def A_wire_Reader_Tag_8 : List AOper := [⟨some 36, .mov (.t 0), none⟩,
    ⟨some 37, .mov (.t 4), none⟩,
    ⟨some 38, .call 130 [(.t 36), (.c (.int .i64 (12))), (.t 37)], none⟩]
def A_wire_Reader_Tag_9 : List AOper := [⟨some 2, .mov (.c (.int .i32 (0))), none⟩,
    ⟨some 3, .mov (.c (.int .u8 (0))), none⟩]
def A_wire_Reader_Tag_10 : List AOper := [⟨some 39, .mov (.t 5), none⟩,
    ⟨some 40, .bini .shr (.t 39) (.c (.int .u64 (3))), none⟩,
    ⟨some 41, .conv .i32 (.t 40), none⟩,
    ⟨some 42, .mov (.t 6), none⟩,
    ⟨some 2, .mov (.t 41), none⟩,
    ⟨some 3, .mov (.t 42), none⟩]
def A_wire_Reader_Tag : ACode := (.seq (.ops A_wire_Reader_Tag_0) (.seq (.ops A_wire_Reader_Tag_1) (.seq (.ops A_wire_Reader_Tag_2) (.seq (.seq (.ops A_wire_Reader_Tag_3) (.cond (.t 17) (.seq (.ops A_wire_Reader_Tag_4) .ret) .skip)) (.seq (.ops A_wire_Reader_Tag_5) (.seq (.seq (.ops A_wire_Reader_Tag_6) (.cond (.t 31) (.seq (.ops A_wire_Reader_Tag_7) (.seq (.ops A_wire_Reader_Tag_8) (.seq (.ops A_wire_Reader_Tag_9) .ret))) .skip)) (.seq (.ops A_wire_Reader_Tag_10) .ret)))))))
def R_wire_Reader_Tag : List ARes := [.tmp 2, .tmp 3]
def T_wire_Reader_Tag : FC := ⟨43, A_wire_Reader_Tag, R_wire_Reader_Tag⟩

-- (*lexicon/wire.Reader).wrong
abbrev F_wire_Reader_wrong : Nat := 130
def A_wire_Reader_wrong_0 : List AOper := [⟨some 6, .mov (.t 0), none⟩,
    ⟨some 7, .nilc (.t 6), none⟩,
    ⟨some 8, .faddr 3 (.t 7), none⟩,
    ⟨some 9, .ld1 (.t 8), none⟩,
    ⟨some 10, .bini .eql (.t 9) (.c (.int .i64 (0))), none⟩]
def A_wire_Reader_wrong_1 : List AOper := [⟨some 11, .mov (.t 0), none⟩,
    ⟨some 12, .mov (.t 0), none⟩,
    ⟨some 13, .mov (.t 1), none⟩,
    ⟨some 14, .mov (.t 2), none⟩,
    ⟨some 15, .nilc (.t 11), none⟩,
    ⟨some 16, .faddr 3 (.t 15), none⟩,
    ⟨none, .st 1 (.t 16) (.t 13), none⟩,
    ⟨some 17, .nilc (.t 12), none⟩,
    ⟨some 18, .faddr 4 (.t 17), none⟩,
    ⟨none, .st 1 (.t 18) (.t 14), none⟩]
def A_wire_Reader_wrong : ACode := (.seq (.ops A_wire_Reader_wrong_0) (.cond (.t 10) (.ops A_wire_Reader_wrong_1) .skip))
def R_wire_Reader_wrong : List ARes := []
def T_wire_Reader_wrong : FC := ⟨19, A_wire_Reader_wrong, R_wire_Reader_wrong⟩

-- (*lexicon/wire.Reader).Err
abbrev F_wire_Reader_Err : Nat := 132
def A_wire_Reader_Err_0 : List AOper := [⟨some 2, .mov (.c (.int .i64 (0))), none⟩,
    ⟨some 3, .mov (.c (.int .i64 (0))), none⟩]
def A_wire_Reader_Err_1 : List AOper := [⟨some 4, .mov (.t 0), none⟩,
    ⟨some 5, .nilc (.t 4), none⟩,
    ⟨some 6, .faddr 3 (.t 5), none⟩,
    ⟨some 7, .ld1 (.t 6), none⟩,
    ⟨some 8, .bini .eql (.t 7) (.c (.int .i64 (0))), none⟩]
def A_wire_Reader_Err_2 : List AOper := [⟨some 2, .mov (.c (.int .i64 (0))), none⟩,
    ⟨some 3, .mov (.c (.int .i64 (0))), none⟩]
def A_wire_Reader_Err_3 : List AOper := [⟨some 9, .mov (.t 0), none⟩,
    ⟨some 10, .nilc (.t 9), none⟩,
    ⟨some 11, .faddr 3 (.t 10), none⟩,
    ⟨some 12, .ld1 (.t 11), none⟩,
    ⟨some 13, .mov (.t 0), none⟩,
    ⟨some 14, .nilc (.t 13), none⟩,
    ⟨some 15, .faddr 4 (.t 14), none⟩,
    ⟨some 16, .ld1 (.t 15), none⟩,
    ⟨some 2, .mov (.t 12), none⟩,
    ⟨some 3, .mov (.t 16), none⟩]
def A_wire_Reader_Err : ACode := (.seq (.ops A_wire_Reader_Err_0) (.seq (.seq (.ops A_wire_Reader_Err_1) (.cond (.t 8) (.seq (.ops A_wire_Reader_Err_2) .ret) .skip)) (.seq (.alts [9, 10, 11, 12, 13, 14, 15, 16, 2, 3] [A_wire_Reader_Err_3]) .ret)))
def R_wire_Reader_Err : List ARes := [.tmp 2, .tmp 3]
def T_wire_Reader_Err : FC := ⟨17, A_wire_Reader_Err, R_wire_Reader_Err⟩

-- slices.Collect[int32]
abbrev F_slices_Collect_int32 : Nat := 133
def A_slices_Collect_int32_0 : List AOper := [⟨some 3, .mov (.t 0), none⟩,
    ⟨some 4, .call 191 [(.c (.nils)), (.t 3)], none⟩,
    ⟨some 2, .mov (.t 4), none⟩]
def A_slices_Collect_int32 : ACode := (.seq (.ops [⟨some 2, .mov (.c (.nils)), none⟩]) (.seq (.ops A_slices_Collect_int32_0) .ret))
def R_slices_Collect_int32 : List ARes := [.tmp 2]
def T_slices_Collect_int32 : FC := ⟨5, A_slices_Collect_int32, R_slices_Collect_int32⟩

-- slices.Sort[[]int32,int32]
abbrev F_slices_Sort_int32_int32 : Nat := 134
def A_slices_Sort_int32_int32_0 : List AOper := [⟨some 3, .mov (.t 0), none⟩,
    ⟨some 4, .lenl (.t 3), none⟩,
    ⟨some 2, .mov (.t 4), none⟩]
def A_slices_Sort_int32_int32_1 : List AOper := [⟨some 5, .mov (.t 0), none⟩,
    ⟨some 6, .mov (.t 2), none⟩,
    ⟨some 7, .mov (.t 2), none⟩,
    ⟨some 8, .conv .u64 (.t 7), none⟩,
    ⟨some 9, .call 58 [(.t 8)], none⟩,
    ⟨some 10, .call 192 [(.t 5), (.c (.int .i64 (0))), (.t 6), (.t 9)], none⟩]
def A_slices_Sort_int32_int32 : ACode := (.seq (.ops A_slices_Sort_int32_int32_0) (.ops A_slices_Sort_int32_int32_1))
def R_slices_Sort_int32_int32 : List ARes := []
def T_slices_Sort_int32_int32 : FC := ⟨11, A_slices_Sort_int32_int32, R_slices_Sort_int32_int32⟩

-- maps.Keys[map[int32]*lexicon/decode.field,int32,*lexicon/decode.field]$1
abbrev F_maps_Keys_map_int32_decode_field_int32_decode_field_c1 : Nat := 135
def A_maps_Keys_map_int32_decode_field_int32_decode_field_c1_0 : List AOper := [⟨some 4, .ld1 (.t 1), none⟩,
    ⟨some 5, .rngm (.t 4), none⟩]
def A_maps_Keys_map_int32_decode_field_int32_decode_field_c1_1 : List AOper := [⟨some 6, .nxm (.t 5), none⟩,
    ⟨some 7, .ext 0 (.t 6), none⟩]
def A_maps_Keys_map_int32_decode_field_int32_decode_field_c1_2 : List AOper := [⟨some 8, .entr (.t 5), none⟩,
    ⟨some 9, .ext 0 (.t 8), none⟩,
    ⟨some 3, .mov (.t 9), none⟩]
def A_maps_Keys_map_int32_decode_field_int32_decode_field_c1_3 : List AOper := [⟨some 10, .mov (.t 0), none⟩,
    ⟨some 11, .mov (.t 3), none⟩,
    ⟨some 12, .callv (.t 10) [(.t 11)], none⟩,
    ⟨some 13, .not (.t 12), none⟩]
def A_maps_Keys_map_int32_decode_field_int32_decode_field_c1_4 : ACode := (.seq (.ops A_maps_Keys_map_int32_decode_field_int32_decode_field_c1_1) (.seq (.cond (.t 7) .skip (.exit 0)) (.block 1 (.seq (.ops A_maps_Keys_map_int32_decode_field_int32_decode_field_c1_2) (.seq (.ops A_maps_Keys_map_int32_decode_field_int32_decode_field_c1_3) (.cond (.t 13) .ret .skip))))))
def A_maps_Keys_map_int32_decode_field_int32_decode_field_c1 : ACode := (.seq (.ops A_maps_Keys_map_int32_decode_field_int32_decode_field_c1_0) (.block 0 (.loop A_maps_Keys_map_int32_decode_field_int32_decode_field_c1_4)))
def R_maps_Keys_map_int32_decode_field_int32_decode_field_c1 : List ARes := []
def T_maps_Keys_map_int32_decode_field_int32_decode_field_c1 : FC := ⟨14, A_maps_Keys_map_int32_decode_field_int32_decode_field_c1, R_maps_Keys_map_int32_decode_field_int32_decode_field_c1⟩

-- slices.Clone[[]lexicon/api.FieldDef,lexicon/api.FieldDef]
abbrev F_slices_Clone_api_FieldDef_api_FieldDef : Nat := 138
def A_slices_Clone_api_FieldDef_api_FieldDef_0 : List AOper := [⟨some 3, .mov (.t 0), none⟩,
    ⟨some 4, .isnil .sl false (.t 3), none⟩]
def A_slices_Clone_api_FieldDef_api_FieldDef_1 : List AOper := [⟨some 5, .bslice0 68, none⟩,
    ⟨some 6, .mov (.t 0), none⟩,
    ⟨some 7, .app 68 9 80 (.t 5) (.t 6), none⟩,
    ⟨some 2, .mov (.t 7), none⟩]
def A_slices_Clone_api_FieldDef_api_FieldDef : ACode := (.seq (.ops [⟨some 2, .mov (.c (.nils)), none⟩]) (.seq (.seq (.ops A_slices_Clone_api_FieldDef_api_FieldDef_0) (.cond (.t 4) (.seq (.ops [⟨some 2, .mov (.c (.nils)), none⟩]) .ret) .skip)) (.seq (.ops A_slices_Clone_api_FieldDef_api_FieldDef_1) .ret)))
def R_slices_Clone_api_FieldDef_api_FieldDef : List ARes := [.tmp 2]
def T_slices_Clone_api_FieldDef_api_FieldDef : FC := ⟨8, A_slices_Clone_api_FieldDef_api_FieldDef, R_slices_Clone_api_FieldDef_api_FieldDef⟩

-- slices.Clone[[]string,string]
abbrev F_slices_Clone_string_string : Nat := 139
def A_slices_Clone_string_string_0 : List AOper := [⟨some 3, .mov (.t 0), none⟩,
    ⟨some 4, .isnil .sl false (.t 3), none⟩]
def A_slices_Clone_string_string_1 : List AOper := [⟨some 5, .bslice0 9, none⟩,
    ⟨some 6, .mov (.t 0), none⟩,
    ⟨some 7, .app 9 1 16 (.t 5) (.t 6), none⟩,
    ⟨some 2, .mov (.t 7), none⟩]
def A_slices_Clone_string_string : ACode := (.seq (.ops [⟨some 2, .mov (.c (.nils)), none⟩]) (.seq (.seq (.ops A_slices_Clone_string_string_0) (.cond (.t 4) (.seq (.ops [⟨some 2, .mov (.c (.nils)), none⟩]) .ret) .skip)) (.seq (.ops A_slices_Clone_string_string_1) .ret)))
def R_slices_Clone_string_string : List ARes := [.tmp 2]
def T_slices_Clone_string_string : FC := ⟨8, A_slices_Clone_string_string, R_slices_Clone_string_string⟩

-- slices.Clone[[]lexicon/api.Span,lexicon/api.Span]
abbrev F_slices_Clone_api_Span_api_Span : Nat := 140
def A_slices_Clone_api_Span_api_Span_0 : List AOper := [⟨some 3, .mov (.t 0), none⟩,
    ⟨some 4, .isnil .sl false (.t 3), none⟩]
def A_slices_Clone_api_Span_api_Span_1 : List AOper := [⟨some 5, .bslice0 277, none⟩,
    ⟨some 6, .mov (.t 0), none⟩,
    ⟨some 7, .app 277 2 8 (.t 5) (.t 6), none⟩,
    ⟨some 2, .mov (.t 7), none⟩]
def A_slices_Clone_api_Span_api_Span : ACode := (.seq (.ops [⟨some 2, .mov (.c (.nils)), none⟩]) (.seq (.seq (.ops A_slices_Clone_api_Span_api_Span_0) (.cond (.t 4) (.seq (.ops [⟨some 2, .mov (.c (.nils)), none⟩]) .ret) .skip)) (.seq (.ops A_slices_Clone_api_Span_api_Span_1) .ret)))
def R_slices_Clone_api_Span_api_Span : List ARes := [.tmp 2]
def T_slices_Clone_api_Span_api_Span : FC := ⟨8, A_slices_Clone_api_Span_api_Span, R_slices_Clone_api_Span_api_Span⟩

-- slices.AppendSeq[[]string,string]
abbrev F_slices_AppendSeq_string_string : Nat := 142
def A_slices_AppendSeq_string_string_0 : List AOper := [⟨some 2, .box 60 1 (.t 0), none⟩,
    ⟨some 4, .mov (.c (.nils)), none⟩]
def A_slices_AppendSeq_string_string_1 : List AOper := [⟨some 8, .ld1 (.t 2), none⟩,
    ⟨some 9, .mov (.t 5), none⟩,
    ⟨some 10, .bslice 9 1 1 [.str []] [(0, 1, (.t 9))], none⟩,
    ⟨some 11, .app 9 1 16 (.t 8) (.t 10), none⟩,
    ⟨none, .st 1 (.t 2) (.t 11), none⟩]
def A_slices_AppendSeq_string_string_2 : List AOper := [⟨some 12, .ld1 (.t 2), none⟩,
    ⟨some 4, .mov (.t 12), none⟩]
def A_slices_AppendSeq_string_string : ACode := (.seq (.ops A_slices_AppendSeq_string_string_0) (.seq (.seq (.ops [⟨some 6, .mov (.t 1), none⟩]) (.block 0 (.rngf (.t 6) [7] (.ops [⟨some 5, .mov (.t 7), none⟩]) (.block 1 (.ops A_slices_AppendSeq_string_string_1))))) (.seq (.ops A_slices_AppendSeq_string_string_2) .ret)))
def R_slices_AppendSeq_string_string : List ARes := [.tmp 4]
def T_slices_AppendSeq_string_string : FC := ⟨13, A_slices_AppendSeq_string_string, R_slices_AppendSeq_string_string⟩

-- strings.Split
abbrev F_strings_Split : Nat := 143
def A_strings_Split_0 : List AOper := [⟨some 5, .mov (.t 0), none⟩,
    ⟨some 6, .mov (.t 1), none⟩,
    ⟨some 7, .call 205 [(.t 5), (.t 6), (.c (.int .i64 (0))), (.c (.int .i64 (-1)))], none⟩,
    ⟨some 4, .mov (.t 7), none⟩]
def A_strings_Split : ACode := (.seq (.ops [⟨some 4, .mov (.c (.nils)), none⟩]) (.seq (.ops A_strings_Split_0) .ret))
def R_strings_Split : List ARes := [.tmp 4]
def T_strings_Split : FC := ⟨8, A_strings_Split, R_strings_Split⟩

-- lexicon/texts.Ident
abbrev F_texts_Ident : Nat := 144
def A_texts_Ident_0 : List AOper := [⟨some 5, .mov (.t 0), none⟩,
    ⟨some 6, .bins .eql (.t 5) (.c (.str [])), none⟩,
    ⟨some 7, .mov (.t 6), none⟩,
    ⟨some 8, .mov (.t 0), some (7, false)⟩,
    ⟨some 9, .lens (.t 8), some (7, false)⟩,
    ⟨some 10, .bini .gtr (.t 9) (.c (.int .i64 (255))), some (7, false)⟩,
    ⟨some 11, .pick (.t 7) (.c (.bool true)) (.t 10), none⟩,
    ⟨some 12, .mov (.t 11), none⟩,
    ⟨some 13, .mov (.t 0), some (12, false)⟩,
    ⟨some 14, .idxs (.t 13) (.c (.int .i64 (0))), some (12, false)⟩,
    ⟨some 15, .call 206 [(.t 14)], some (12, false)⟩,
    ⟨some 16, .pick (.t 12) (.c (.bool true)) (.t 15), none⟩]
def A_texts_Ident_1 : List AOper := [⟨some 17, .mov (.t 0), none⟩,
    ⟨some 18, .lens (.t 17), none⟩,
    ⟨some 19, .mov (.c (.int .i64 (0))), none⟩]
def A_texts_Ident_2 : List AOper := [⟨some 21, .mov (.t 19), none⟩,
    ⟨some 3, .mov (.t 21), none⟩]
def A_texts_Ident_3 : List AOper := [⟨some 22, .mov (.t 0), none⟩,
    ⟨some 23, .mov (.t 3), none⟩,
    ⟨some 24, .idxs (.t 22) (.t 23), none⟩,
    ⟨some 4, .mov (.t 24), none⟩]
def A_texts_Ident_4 : List AOper := [⟨some 25, .mov (.t 4), none⟩,
    ⟨some 26, .call 207 [(.t 25)], none⟩,
    ⟨some 27, .not (.t 26), none⟩,
    ⟨some 28, .mov (.t 27), none⟩,
    ⟨some 29, .mov (.t 4), some (28, true)⟩,
    ⟨some 30, .call 208 [(.t 29)], some (28, true)⟩,
    ⟨some 31, .not (.t 30), some (28, true)⟩,
    ⟨some 32, .pick (.t 28) (.t 31) (.c (.bool false)), none⟩,
    ⟨some 33, .mov (.t 32), none⟩,
    ⟨some 34, .mov (.t 4), some (33, true)⟩,
    ⟨some 35, .call 206 [(.t 34)], some (33, true)⟩,
    ⟨some 36, .not (.t 35), some (33, true)⟩,
    ⟨some 37, .pick (.t 33) (.t 36) (.c (.bool false)), none⟩,
    ⟨some 38, .mov (.t 37), none⟩,
    ⟨some 39, .mov (.t 4), some (38, true)⟩,
    ⟨some 40, .bini .neq (.t 39) (.c (.int .u8 (95))), some (38, true)⟩,
    ⟨some 41, .pick (.t 38) (.t 40) (.c (.bool false)), none⟩]
def A_texts_Ident_5 : List AOper := [⟨some 42, .bini .add (.t 19) (.c (.int .i64 (1))), none⟩,
    ⟨some 19, .mov (.t 42), none⟩]
def A_texts_Ident_6 : ACode := (.seq (.ops [⟨some 20, .bini .lss (.t 19) (.t 18), none⟩]) (.seq (.cond (.t 20) .skip (.exit 0)) (.seq (.block 1 (.seq (.ops A_texts_Ident_2) (.seq (.ops A_texts_Ident_3) (.seq (.ops A_texts_Ident_4) (.cond (.t 41) (.seq (.ops [⟨some 2, .mov (.c (.bool false)), none⟩]) .ret) .skip))))) (.ops A_texts_Ident_5))))
def A_texts_Ident : ACode := (.seq (.ops [⟨some 2, .mov (.c (.bool false)), none⟩]) (.seq (.seq (.ops A_texts_Ident_0) (.cond (.t 16) (.seq (.ops [⟨some 2, .mov (.c (.bool false)), none⟩]) .ret) .skip)) (.seq (.seq (.ops A_texts_Ident_1) (.block 0 (.loop A_texts_Ident_6))) (.seq (.ops [⟨some 2, .mov (.c (.bool true)), none⟩]) .ret))))
def R_texts_Ident : List ARes := [.tmp 2]
def T_texts_Ident : FC := ⟨43, A_texts_Ident, R_texts_Ident⟩

-- (*lexicon/check.reader).give
abbrev F_check_reader_give : Nat := 145
def A_check_reader_give_0 : List AOper := [⟨some 6, .mov (.t 1), none⟩,
    ⟨some 7, .call 144 [(.t 6)], none⟩,
    ⟨some 8, .mov (.t 7), none⟩,
    ⟨some 9, .mov (.t 2), some (8, true)⟩,
    ⟨some 10, .lens (.t 9), some (8, true)⟩,
    ⟨some 11, .bini .leq (.t 10) (.c (.int .i64 (255))), some (8, true)⟩,
    ⟨some 12, .pick (.t 8) (.t 11) (.c (.bool false)), none⟩,
    ⟨some 13, .mov (.t 2), none⟩,
    ⟨some 14, .call 91 [(.t 12), (.c (.int .i64 (60))), (.t 13)], none⟩]
def A_check_reader_give_1 : List AOper := [⟨some 15, .mov (.t 0), none⟩,
    ⟨some 16, .nilc (.t 15), none⟩,
    ⟨some 17, .faddr 0 (.t 16), none⟩,
    ⟨some 18, .ld1 (.t 17), none⟩,
    ⟨some 19, .mov (.t 2), none⟩,
    ⟨some 20, .mlook .s (.int .i64 (0)) false (.t 18) (.t 19), none⟩,
    ⟨some 21, .bini .add (.t 20) (.c (.int .i64 (1))), none⟩,
    ⟨none, .mupd .s (.t 18) (.t 19) (.t 21), none⟩]
def A_check_reader_give_2 : List AOper := [⟨some 22, .mov (.t 0), none⟩,
    ⟨some 23, .nilc (.t 22), none⟩,
    ⟨some 24, .faddr 0 (.t 23), none⟩,
    ⟨some 25, .ld1 (.t 24), none⟩,
    ⟨some 26, .mov (.t 2), none⟩,
    ⟨some 27, .mlook .s (.int .i64 (0)) false (.t 25) (.t 26), none⟩,
    ⟨some 28, .bini .eql (.t 27) (.c (.int .i64 (1))), none⟩,
    ⟨some 29, .mov (.t 2), none⟩,
    ⟨some 30, .call 91 [(.t 28), (.c (.int .i64 (61))), (.t 29)], none⟩]
def A_check_reader_give : ACode := (.seq (.ops A_check_reader_give_0) (.seq (.ops A_check_reader_give_1) (.ops A_check_reader_give_2)))
def R_check_reader_give : List ARes := []
def T_check_reader_give : FC := ⟨31, A_check_reader_give, R_check_reader_give⟩

-- lexicon/check.spans
abbrev F_check_spans : Nat := 146
def A_check_spans_0 : List AOper := [⟨some 12, .mov (.t 0), none⟩,
    ⟨some 13, .lenl (.t 12), none⟩,
    ⟨some 14, .mov (.c (.int .i64 (0))), none⟩]
def A_check_spans_1 : List AOper := [⟨some 16, .mov (.t 14), none⟩,
    ⟨some 17, .iaddr 277 2 (.t 12) (.t 14), none⟩,
    ⟨some 18, .lda 2 (.t 17), none⟩,
    ⟨some 9, .box 277 2 (.c (.agg [.int .i32 (0), .int .i32 (0)])), none⟩,
    ⟨some 8, .mov (.t 16), none⟩,
    ⟨none, .st 2 (.t 9) (.t 18), none⟩]
def A_check_spans_2 : List AOper := [⟨some 19, .faddr 0 (.t 9), none⟩,
    ⟨some 20, .ld1 (.t 19), none⟩,
    ⟨some 21, .mov (.t 1), none⟩,
    ⟨some 22, .bini .geq (.t 20) (.t 21), none⟩,
    ⟨some 23, .mov (.t 22), none⟩,
    ⟨some 24, .faddr 1 (.t 9), some (23, true)⟩,
    ⟨some 25, .ld1 (.t 24), some (23, true)⟩,
    ⟨some 26, .faddr 0 (.t 9), some (23, true)⟩,
    ⟨some 27, .ld1 (.t 26), some (23, true)⟩,
    ⟨some 28, .bini .geq (.t 25) (.t 27), some (23, true)⟩,
    ⟨some 29, .pick (.t 23) (.t 28) (.c (.bool false)), none⟩,
    ⟨some 30, .mov (.t 29), none⟩,
    ⟨some 31, .faddr 1 (.t 9), some (30, true)⟩,
    ⟨some 32, .ld1 (.t 31), some (30, true)⟩,
    ⟨some 33, .mov (.t 2), some (30, true)⟩,
    ⟨some 34, .bini .leq (.t 32) (.t 33), some (30, true)⟩,
    ⟨some 35, .pick (.t 30) (.t 34) (.c (.bool false)), none⟩,
    ⟨some 36, .mov (.t 3), none⟩,
    ⟨some 37, .call 91 [(.t 35), (.c (.int .i64 (63))), (.t 36)], none⟩]
def A_check_spans_3 : List AOper := [⟨some 38, .mov (.t 0), none⟩,
    ⟨some 39, .mov (.t 8), none⟩,
    ⟨some 40, .slcl 277 2 (.t 38) none (some (.t 39)) none, none⟩,
    ⟨some 41, .lenl (.t 40), none⟩,
    ⟨some 42, .mov (.c (.int .i64 (0))), none⟩]
def A_check_spans_4 : List AOper := [⟨some 44, .iaddr 277 2 (.t 40) (.t 42), none⟩,
    ⟨some 45, .lda 2 (.t 44), none⟩,
    ⟨some 11, .box 277 2 (.c (.agg [.int .i32 (0), .int .i32 (0)])), none⟩,
    ⟨none, .st 2 (.t 11) (.t 45), none⟩]
def A_check_spans_5 : List AOper := [⟨some 46, .faddr 1 (.t 9), none⟩,
    ⟨some 47, .ld1 (.t 46), none⟩,
    ⟨some 48, .faddr 0 (.t 11), none⟩,
    ⟨some 49, .ld1 (.t 48), none⟩,
    ⟨some 50, .bini .lss (.t 47) (.t 49), none⟩,
    ⟨some 51, .mov (.t 50), none⟩,
    ⟨some 52, .faddr 0 (.t 9), some (51, false)⟩,
    ⟨some 53, .ld1 (.t 52), some (51, false)⟩,
    ⟨some 54, .faddr 1 (.t 11), some (51, false)⟩,
    ⟨some 55, .ld1 (.t 54), some (51, false)⟩,
    ⟨some 56, .bini .gtr (.t 53) (.t 55), some (51, false)⟩,
    ⟨some 57, .pick (.t 51) (.c (.bool true)) (.t 56), none⟩,
    ⟨some 58, .mov (.t 3), none⟩,
    ⟨some 59, .call 91 [(.t 57), (.c (.int .i64 (63))), (.t 58)], none⟩]
def A_check_spans_6 : List AOper := [⟨some 60, .bini .add (.t 42) (.c (.int .i64 (1))), none⟩,
    ⟨some 42, .mov (.t 60), none⟩]
def A_check_spans_7 : ACode := (.seq (.ops [⟨some 43, .bini .lss (.t 42) (.t 41), none⟩]) (.seq (.cond (.t 43) .skip (.exit 2)) (.seq (.block 3 (.seq (.ops A_check_spans_4) (.ops A_check_spans_5))) (.ops A_check_spans_6))))
def A_check_spans_8 : List AOper := [⟨some 61, .bini .add (.t 14) (.c (.int .i64 (1))), none⟩,
    ⟨some 14, .mov (.t 61), none⟩]
def A_check_spans_9 : ACode := (.seq (.ops [⟨some 15, .bini .lss (.t 14) (.t 13), none⟩]) (.seq (.cond (.t 15) .skip (.exit 0)) (.seq (.block 1 (.seq (.ops A_check_spans_1) (.seq (.ops A_check_spans_2) (.seq (.ops A_check_spans_3) (.block 2 (.loop A_check_spans_7)))))) (.ops A_check_spans_8))))
def A_check_spans : ACode := (.seq (.ops A_check_spans_0) (.block 0 (.loop A_check_spans_9)))
def R_check_spans : List ARes := []
def T_check_spans : FC := ⟨62, A_check_spans, R_check_spans⟩

-- lexicon/check.reserved
abbrev F_check_reserved : Nat := 147
def A_check_reserved_0 : List AOper := [⟨some 7, .mov (.t 0), none⟩,
    ⟨some 8, .lenl (.t 7), none⟩,
    ⟨some 9, .mov (.c (.int .i64 (0))), none⟩]
def A_check_reserved_1 : List AOper := [⟨some 11, .mov (.t 9), none⟩,
    ⟨some 12, .iaddr 9 1 (.t 7) (.t 9), none⟩,
    ⟨some 13, .ld1 (.t 12), none⟩,
    ⟨some 4, .mov (.t 11), none⟩,
    ⟨some 5, .mov (.t 13), none⟩]
def A_check_reserved_2 : List AOper := [⟨some 14, .mov (.t 1), none⟩,
    ⟨some 15, .mov (.t 5), none⟩,
    ⟨some 16, .bslice 9 1 2 [.str []] [(0, 1, (.t 14)), (1, 1, (.t 15))], none⟩,
    ⟨some 17, .call 46 [(.t 16)], none⟩,
    ⟨some 6, .mov (.t 17), none⟩]
def A_check_reserved_3 : List AOper := [⟨some 18, .mov (.t 5), none⟩,
    ⟨some 19, .call 144 [(.t 18)], none⟩,
    ⟨some 20, .mov (.t 6), none⟩,
    ⟨some 21, .call 91 [(.t 19), (.c (.int .i64 (60))), (.t 20)], none⟩]
def A_check_reserved_4 : List AOper := [⟨some 22, .mov (.t 0), none⟩,
    ⟨some 23, .mov (.t 4), none⟩,
    ⟨some 24, .slcl 9 1 (.t 22) none (some (.t 23)) none, none⟩,
    ⟨some 25, .mov (.t 5), none⟩,
    ⟨some 26, .call 56 [(.t 24), (.t 25)], none⟩,
    ⟨some 27, .not (.t 26), none⟩,
    ⟨some 28, .mov (.t 6), none⟩,
    ⟨some 29, .call 91 [(.t 27), (.c (.int .i64 (61))), (.t 28)], none⟩]
def A_check_reserved_5 : List AOper := [⟨some 30, .bini .add (.t 9) (.c (.int .i64 (1))), none⟩,
    ⟨some 9, .mov (.t 30), none⟩]
def A_check_reserved_6 : ACode := (.seq (.ops [⟨some 10, .bini .lss (.t 9) (.t 8), none⟩]) (.seq (.cond (.t 10) .skip (.exit 0)) (.seq (.block 1 (.seq (.ops A_check_reserved_1) (.seq (.ops A_check_reserved_2) (.seq (.ops A_check_reserved_3) (.ops A_check_reserved_4))))) (.ops A_check_reserved_5))))
def A_check_reserved : ACode := (.seq (.ops A_check_reserved_0) (.block 0 (.loop A_check_reserved_6)))
def R_check_reserved : List ARes := []
def T_check_reserved : FC := ⟨31, A_check_reserved, R_check_reserved⟩

-- (*lexicon/check.reader).field
abbrev F_check_reader_field : Nat := 148
def A_check_reader_field_0 : List AOper := [⟨some 13, .faddr 1 (.t 5), none⟩,
    ⟨some 14, .ld1 (.t 13), none⟩,
    ⟨some 15, .mov (.t 2), none⟩,
    ⟨some 16, .iaddr 68 9 (.t 14) (.t 15), none⟩,
    ⟨some 17, .lda 9 (.t 16), none⟩,
    ⟨some 18, .faddr 1 (.t 5), none⟩,
    ⟨some 20, .mov (.t 2), none⟩,
    ⟨some 19, .ld1 (.t 18), none⟩,
    ⟨some 21, .slcl 68 9 (.t 19) none (some (.t 20)) none, none⟩,
    ⟨some 8, .box 68 9 (.c (.agg [.str [], .int .i32 (0), .int .u8 (0), .int .u8 (0), .str [], .int .u8 (0), .int .i64 (0), .int .u8 (0), .str []])), none⟩,
    ⟨none, .st 9 (.t 8) (.t 17), none⟩,
    ⟨some 9, .mov (.t 21), none⟩]
def A_check_reader_field_1 : List AOper := [⟨some 13, .faddr 1 (.t 5), none⟩,
    ⟨some 14, .ld1 (.t 13), none⟩,
    ⟨some 15, .mov (.t 2), none⟩,
    ⟨some 16, .iaddr 68 9 (.t 14) (.t 15), none⟩,
    ⟨some 17, .lda 9 (.t 16), none⟩,
    ⟨some 18, .faddr 1 (.t 5), none⟩,
    ⟨some 20, .mov (.t 2), none⟩,
    ⟨some 19, .ld1 (.t 18), none⟩,
    ⟨some 8, .box 68 9 (.c (.agg [.str [], .int .i32 (0), .int .u8 (0), .int .u8 (0), .str [], .int .u8 (0), .int .i64 (0), .int .u8 (0), .str []])), none⟩,
    ⟨some 21, .slcl 68 9 (.t 19) none (some (.t 20)) none, none⟩,
    ⟨none, .st 9 (.t 8) (.t 17), none⟩,
    ⟨some 9, .mov (.t 21), none⟩]
def A_check_reader_field_2 : List AOper := [⟨some 13, .faddr 1 (.t 5), none⟩,
    ⟨some 14, .ld1 (.t 13), none⟩,
    ⟨some 15, .mov (.t 2), none⟩,
    ⟨some 16, .iaddr 68 9 (.t 14) (.t 15), none⟩,
    ⟨some 17, .lda 9 (.t 16), none⟩,
    ⟨some 18, .faddr 1 (.t 5), none⟩,
    ⟨some 20, .mov (.t 2), none⟩,
    ⟨some 19, .ld1 (.t 18), none⟩,
    ⟨some 8, .box 68 9 (.c (.agg [.str [], .int .i32 (0), .int .u8 (0), .int .u8 (0), .str [], .int .u8 (0), .int .i64 (0), .int .u8 (0), .str []])), none⟩,
    ⟨none, .st 9 (.t 8) (.t 17), none⟩,
    ⟨some 21, .slcl 68 9 (.t 19) none (some (.t 20)) none, none⟩,
    ⟨some 9, .mov (.t 21), none⟩]
def A_check_reader_field_3 : List AOper := [⟨some 13, .faddr 1 (.t 5), none⟩,
    ⟨some 14, .ld1 (.t 13), none⟩,
    ⟨some 15, .mov (.t 2), none⟩,
    ⟨some 16, .iaddr 68 9 (.t 14) (.t 15), none⟩,
    ⟨some 17, .lda 9 (.t 16), none⟩,
    ⟨some 18, .faddr 1 (.t 5), none⟩,
    ⟨some 20, .mov (.t 2), none⟩,
    ⟨some 8, .box 68 9 (.c (.agg [.str [], .int .i32 (0), .int .u8 (0), .int .u8 (0), .str [], .int .u8 (0), .int .i64 (0), .int .u8 (0), .str []])), none⟩,
    ⟨some 19, .ld1 (.t 18), none⟩,
    ⟨some 21, .slcl 68 9 (.t 19) none (some (.t 20)) none, none⟩,
    ⟨none, .st 9 (.t 8) (.t 17), none⟩,
    ⟨some 9, .mov (.t 21), none⟩]
def A_check_reader_field_4 : List AOper := [⟨some 13, .faddr 1 (.t 5), none⟩,
    ⟨some 14, .ld1 (.t 13), none⟩,
    ⟨some 15, .mov (.t 2), none⟩,
    ⟨some 16, .iaddr 68 9 (.t 14) (.t 15), none⟩,
    ⟨some 17, .lda 9 (.t 16), none⟩,
    ⟨some 18, .faddr 1 (.t 5), none⟩,
    ⟨some 20, .mov (.t 2), none⟩,
    ⟨some 8, .box 68 9 (.c (.agg [.str [], .int .i32 (0), .int .u8 (0), .int .u8 (0), .str [], .int .u8 (0), .int .i64 (0), .int .u8 (0), .str []])), none⟩,
    ⟨some 19, .ld1 (.t 18), none⟩,
    ⟨none, .st 9 (.t 8) (.t 17), none⟩,
    ⟨some 21, .slcl 68 9 (.t 19) none (some (.t 20)) none, none⟩,
    ⟨some 9, .mov (.t 21), none⟩]
def A_check_reader_field_5 : List AOper := [⟨some 13, .faddr 1 (.t 5), none⟩,
    ⟨some 14, .ld1 (.t 13), none⟩,
    ⟨some 15, .mov (.t 2), none⟩,
    ⟨some 16, .iaddr 68 9 (.t 14) (.t 15), none⟩,
    ⟨some 17, .lda 9 (.t 16), none⟩,
    ⟨some 18, .faddr 1 (.t 5), none⟩,
    ⟨some 20, .mov (.t 2), none⟩,
    ⟨some 8, .box 68 9 (.c (.agg [.str [], .int .i32 (0), .int .u8 (0), .int .u8 (0), .str [], .int .u8 (0), .int .i64 (0), .int .u8 (0), .str []])), none⟩,
    ⟨none, .st 9 (.t 8) (.t 17), none⟩,
    ⟨some 19, .ld1 (.t 18), none⟩,
    ⟨some 21, .slcl 68 9 (.t 19) none (some (.t 20)) none, none⟩,
    ⟨some 9, .mov (.t 21), none⟩]
def A_check_reader_field_6 : List AOper := [⟨some 22, .mov (.t 3), none⟩,
    ⟨some 23, .faddr 0 (.t 8), none⟩,
    ⟨some 24, .ld1 (.t 23), none⟩,
    ⟨some 25, .bslice 9 1 2 [.str []] [(0, 1, (.t 22)), (1, 1, (.t 24))], none⟩,
    ⟨some 26, .call 46 [(.t 25)], none⟩,
    ⟨some 10, .mov (.t 26), none⟩]
def A_check_reader_field_7 : List AOper := [⟨some 27, .mov (.t 0), none⟩,
    ⟨some 28, .faddr 0 (.t 8), none⟩,
    ⟨some 29, .ld1 (.t 28), none⟩,
    ⟨some 30, .mov (.t 10), none⟩,
    ⟨some 31, .call 145 [(.t 27), (.t 29), (.t 30)], none⟩]
def A_check_reader_field_8 : List AOper := [⟨some 32, .faddr 6 (.t 5), none⟩,
    ⟨some 33, .ld1 (.t 32), none⟩,
    ⟨some 34, .faddr 0 (.t 8), none⟩,
    ⟨some 35, .ld1 (.t 34), none⟩,
    ⟨some 36, .call 56 [(.t 33), (.t 35)], none⟩,
    ⟨some 37, .not (.t 36), none⟩,
    ⟨some 38, .mov (.t 10), none⟩,
    ⟨some 39, .call 91 [(.t 37), (.c (.int .i64 (63))), (.t 38)], none⟩]
def A_check_reader_field_9 : List AOper := [⟨some 40, .faddr 1 (.t 8), none⟩,
    ⟨some 41, .ld1 (.t 40), none⟩,
    ⟨some 42, .call 209 [(.t 41)], none⟩,
    ⟨some 43, .mov (.t 42), none⟩,
    ⟨some 44, .mov (.t 9), some (43, true)⟩,
    ⟨some 45, .mkfn 210 [] [(.t 8)], some (43, true)⟩,
    ⟨some 46, .call 149 [(.t 44), (.t 45)], some (43, true)⟩,
    ⟨some 47, .not (.t 46), some (43, true)⟩,
    ⟨some 48, .pick (.t 43) (.t 47) (.c (.bool false)), none⟩,
    ⟨some 49, .mov (.t 10), none⟩,
    ⟨some 50, .call 91 [(.t 48), (.c (.int .i64 (62))), (.t 49)], none⟩]
def A_check_reader_field_10 : List AOper := [⟨some 51, .faddr 5 (.t 5), none⟩,
    ⟨some 52, .ld1 (.t 51), none⟩,
    ⟨some 53, .faddr 1 (.t 8), none⟩,
    ⟨some 54, .ld1 (.t 53), none⟩,
    ⟨some 55, .call 151 [(.t 52), (.t 54)], none⟩,
    ⟨some 56, .not (.t 55), none⟩,
    ⟨some 57, .mov (.t 10), none⟩,
    ⟨some 58, .call 91 [(.t 56), (.c (.int .i64 (63))), (.t 57)], none⟩]
def A_check_reader_field_11 : List AOper := [⟨some 59, .faddr 2 (.t 8), none⟩,
    ⟨some 60, .ld1 (.t 59), none⟩,
    ⟨some 61, .bini .geq (.t 60) (.c (.int .u8 (1))), none⟩,
    ⟨some 62, .mov (.t 61), none⟩,
    ⟨some 63, .faddr 2 (.t 8), some (62, true)⟩,
    ⟨some 64, .ld1 (.t 63), some (62, true)⟩,
    ⟨some 65, .bini .leq (.t 64) (.c (.int .u8 (4))), some (62, true)⟩,
    ⟨some 66, .pick (.t 62) (.t 65) (.c (.bool false)), none⟩,
    ⟨some 67, .mov (.t 66), none⟩,
    ⟨some 68, .faddr 3 (.t 8), some (67, true)⟩,
    ⟨some 69, .ld1 (.t 68), some (67, true)⟩,
    ⟨some 70, .bini .eql (.t 69) (.c (.int .u8 (0))), some (67, true)⟩,
    ⟨some 71, .mov (.t 70), some (67, true)⟩,
    ⟨some 72, .faddr 3 (.t 8), some (71, false)⟩,
    ⟨some 73, .ld1 (.t 72), some (71, false)⟩,
    ⟨some 74, .call 211 [(.t 73)], some (71, false)⟩,
    ⟨some 75, .pick (.t 71) (.c (.bool true)) (.t 74), some (67, true)⟩,
    ⟨some 76, .pick (.t 67) (.t 75) (.c (.bool false)), none⟩,
    ⟨some 77, .mov (.t 10), none⟩,
    ⟨some 78, .call 91 [(.t 76), (.c (.int .i64 (69))), (.t 77)], none⟩]
def A_check_reader_field_12 : List AOper := [⟨some 79, .faddr 3 (.t 8), none⟩,
    ⟨some 80, .ld1 (.t 79), none⟩,
    ⟨some 81, .call 212 [(.t 80)], none⟩]
def A_check_reader_field_13 : List AOper := [⟨some 82, .faddr 4 (.t 8), none⟩,
    ⟨some 83, .ld1 (.t 82), none⟩,
    ⟨some 84, .call 213 [(.t 83)], none⟩,
    ⟨some 85, .mov (.t 10), none⟩,
    ⟨some 86, .call 91 [(.t 84), (.c (.int .i64 (69))), (.t 85)], none⟩]
def A_check_reader_field_14 : List AOper := [⟨some 87, .faddr 4 (.t 8), none⟩,
    ⟨some 88, .ld1 (.t 87), none⟩,
    ⟨some 89, .bins .eql (.t 88) (.c (.str [])), none⟩,
    ⟨some 90, .mov (.t 10), none⟩,
    ⟨some 91, .call 91 [(.t 89), (.c (.int .i64 (69))), (.t 90)], none⟩]
def A_check_reader_field_15 : List AOper := [⟨some 92, .faddr 2 (.t 8), none⟩,
    ⟨some 93, .ld1 (.t 92), none⟩,
    ⟨some 94, .bini .eql (.t 93) (.c (.int .u8 (4))), none⟩]
def A_check_reader_field_16 : List AOper := [⟨some 95, .faddr 5 (.t 8), none⟩,
    ⟨some 96, .ld1 (.t 95), none⟩,
    ⟨some 97, .call 214 [(.t 96)], none⟩,
    ⟨some 98, .mov (.t 10), none⟩,
    ⟨some 99, .call 91 [(.t 97), (.c (.int .i64 (65))), (.t 98)], none⟩]
def A_check_reader_field_17 : List AOper := [⟨some 100, .faddr 5 (.t 8), none⟩,
    ⟨some 101, .ld1 (.t 100), none⟩,
    ⟨some 102, .bini .eql (.t 101) (.c (.int .u8 (0))), none⟩,
    ⟨some 103, .mov (.t 10), none⟩,
    ⟨some 104, .call 91 [(.t 102), (.c (.int .i64 (65))), (.t 103)], none⟩]
def A_check_reader_field_18 : List AOper := [⟨some 105, .faddr 6 (.t 8), none⟩,
    ⟨some 106, .ld1 (.t 105), none⟩,
    ⟨some 107, .bini .geq (.t 106) (.c (.int .i64 (0))), none⟩,
    ⟨some 108, .mov (.t 107), none⟩,
    ⟨some 109, .faddr 6 (.t 8), some (108, true)⟩,
    ⟨some 110, .ld1 (.t 109), some (108, true)⟩,
    ⟨some 111, .faddr 2 (.t 5), some (108, true)⟩,
    ⟨some 112, .ld1 (.t 111), some (108, true)⟩,
    ⟨some 113, .lenl (.t 112), some (108, true)⟩,
    ⟨some 114, .bini .leq (.t 110) (.t 113), some (108, true)⟩,
    ⟨some 115, .pick (.t 108) (.t 114) (.c (.bool false)), none⟩,
    ⟨some 116, .mov (.t 115), none⟩,
    ⟨some 117, .faddr 6 (.t 8), some (116, true)⟩,
    ⟨some 118, .ld1 (.t 117), some (116, true)⟩,
    ⟨some 119, .bini .eql (.t 118) (.c (.int .i64 (0))), some (116, true)⟩,
    ⟨some 120, .mov (.t 119), some (116, true)⟩,
    ⟨some 121, .faddr 2 (.t 8), some (120, false)⟩,
    ⟨some 122, .ld1 (.t 121), some (120, false)⟩,
    ⟨some 123, .bini .eql (.t 122) (.c (.int .u8 (1))), some (120, false)⟩,
    ⟨some 124, .pick (.t 120) (.c (.bool true)) (.t 123), some (116, true)⟩,
    ⟨some 125, .pick (.t 116) (.t 124) (.c (.bool false)), none⟩,
    ⟨some 126, .mov (.t 10), none⟩,
    ⟨some 127, .call 91 [(.t 125), (.c (.int .i64 (64))), (.t 126)], none⟩]
def A_check_reader_field_19 : List AOper := [⟨some 128, .faddr 7 (.t 8), none⟩,
    ⟨some 129, .ld1 (.t 128), none⟩,
    ⟨some 130, .bini .leq (.t 129) (.c (.int .u8 (2))), none⟩,
    ⟨some 131, .mov (.t 130), none⟩,
    ⟨some 132, .faddr 7 (.t 8), some (131, true)⟩,
    ⟨some 133, .ld1 (.t 132), some (131, true)⟩,
    ⟨some 134, .bini .eql (.t 133) (.c (.int .u8 (0))), some (131, true)⟩,
    ⟨some 135, .mov (.t 134), some (131, true)⟩,
    ⟨some 136, .faddr 2 (.t 8), some (135, false)⟩,
    ⟨some 137, .ld1 (.t 136), some (135, false)⟩,
    ⟨some 138, .bini .eql (.t 137) (.c (.int .u8 (3))), some (135, false)⟩,
    ⟨some 139, .mov (.t 138), some (135, false)⟩,
    ⟨some 140, .faddr 3 (.t 8), some (139, true)⟩,
    ⟨some 141, .ld1 (.t 140), some (139, true)⟩,
    ⟨some 142, .call 215 [(.t 141)], some (139, true)⟩,
    ⟨some 143, .pick (.t 139) (.t 142) (.c (.bool false)), some (135, false)⟩,
    ⟨some 144, .pick (.t 135) (.c (.bool true)) (.t 143), some (131, true)⟩,
    ⟨some 145, .pick (.t 131) (.t 144) (.c (.bool false)), none⟩,
    ⟨some 146, .mov (.t 10), none⟩,
    ⟨some 147, .call 91 [(.t 145), (.c (.int .i64 (67))), (.t 146)], none⟩]
def A_check_reader_field_20 : List AOper := [⟨some 148, .faddr 8 (.t 8), none⟩,
    ⟨some 149, .ld1 (.t 148), none⟩,
    ⟨some 150, .call 216 [(.t 149)], none⟩,
    ⟨some 151, .bini .lss (.t 150) (.c (.int .i64 (0))), none⟩,
    ⟨some 152, .mov (.t 151), none⟩,
    ⟨some 153, .faddr 8 (.t 8), some (152, true)⟩,
    ⟨some 154, .ld1 (.t 153), some (152, true)⟩,
    ⟨some 155, .lens (.t 154), some (152, true)⟩,
    ⟨some 156, .bini .leq (.t 155) (.c (.int .i64 (255))), some (152, true)⟩,
    ⟨some 157, .pick (.t 152) (.t 156) (.c (.bool false)), none⟩,
    ⟨some 158, .mov (.t 157), none⟩,
    ⟨some 159, .faddr 8 (.t 8), some (158, true)⟩,
    ⟨some 160, .ld1 (.t 159), some (158, true)⟩,
    ⟨some 161, .call 217 [(.t 160), (.c (.str [64]))], some (158, true)⟩,
    ⟨some 162, .not (.t 161), some (158, true)⟩,
    ⟨some 163, .pick (.t 158) (.t 162) (.c (.bool false)), none⟩,
    ⟨some 164, .mov (.t 10), none⟩,
    ⟨some 165, .call 91 [(.t 163), (.c (.int .i64 (60))), (.t 164)], none⟩]
def A_check_reader_field_21 : List AOper := [⟨some 166, .mov (.t 9), none⟩,
    ⟨some 167, .lenl (.t 166), none⟩,
    ⟨some 168, .mov (.c (.int .i64 (0))), none⟩]
def A_check_reader_field_22 : List AOper := [⟨some 170, .iaddr 68 9 (.t 166) (.t 168), none⟩,
    ⟨some 171, .lda 9 (.t 170), none⟩,
    ⟨some 12, .box 68 9 (.c (.agg [.str [], .int .i32 (0), .int .u8 (0), .int .u8 (0), .str [], .int .u8 (0), .int .i64 (0), .int .u8 (0), .str []])), none⟩,
    ⟨none, .st 9 (.t 12) (.t 171), none⟩]
def A_check_reader_field_23 : List AOper := [⟨some 172, .lda 9 (.t 12), none⟩,
    ⟨some 174, .lda 9 (.t 8), none⟩,
    ⟨some 191, .mov (.t 10), none⟩,
    ⟨some 173, .acall 218 [(.t 172)], none⟩,
    ⟨some 175, .acall 218 [(.t 174)], none⟩,
    ⟨some 176, .bins .neq (.t 173) (.t 175), none⟩,
    ⟨some 177, .mov (.t 176), none⟩,
    ⟨some 178, .lda 9 (.t 12), some (177, true)⟩,
    ⟨some 180, .faddr 0 (.t 8), some (177, true)⟩,
    ⟨some 181, .ld1 (.t 180), some (177, true)⟩,
    ⟨some 179, .acall 218 [(.t 178)], some (177, true)⟩,
    ⟨some 182, .bins .neq (.t 179) (.t 181), some (177, true)⟩,
    ⟨some 183, .pick (.t 177) (.t 182) (.c (.bool false)), none⟩,
    ⟨some 184, .mov (.t 183), none⟩,
    ⟨some 185, .faddr 0 (.t 12), some (184, true)⟩,
    ⟨some 186, .ld1 (.t 185), some (184, true)⟩,
    ⟨some 187, .lda 9 (.t 8), some (184, true)⟩,
    ⟨some 188, .acall 218 [(.t 187)], some (184, true)⟩,
    ⟨some 189, .bins .neq (.t 186) (.t 188), some (184, true)⟩,
    ⟨some 190, .pick (.t 184) (.t 189) (.c (.bool false)), none⟩,
    ⟨some 192, .acall 91 [(.t 190), (.c (.int .i64 (61))), (.t 191)], none⟩]
def A_check_reader_field_24 : List AOper := [⟨some 193, .bini .add (.t 168) (.c (.int .i64 (1))), none⟩,
    ⟨some 168, .mov (.t 193), none⟩]
def A_check_reader_field_25 : ACode := (.seq (.ops [⟨some 169, .bini .lss (.t 168) (.t 167), none⟩]) (.seq (.cond (.t 169) .skip (.exit 0)) (.seq (.block 1 (.seq (.ops A_check_reader_field_22) (.alts [172, 173, 174, 175, 176, 177, 178, 179, 180, 181, 182, 183, 184, 185, 186, 187, 188, 189, 190, 191, 192] [A_check_reader_field_23]))) (.ops A_check_reader_field_24))))
def A_check_reader_field : ACode := (.seq (.ops [⟨some 5, .box 72 7 (.t 1), none⟩]) (.seq (.alts [13, 14, 15, 16, 17, 18, 19, 20, 21, 8, 9] [A_check_reader_field_0, A_check_reader_field_1, A_check_reader_field_2, A_check_reader_field_3, A_check_reader_field_4, A_check_reader_field_5]) (.seq (.ops A_check_reader_field_6) (.seq (.ops A_check_reader_field_7) (.seq (.ops A_check_reader_field_8) (.seq (.ops A_check_reader_field_9) (.seq (.ops A_check_reader_field_10) (.seq (.ops A_check_reader_field_11) (.seq (.seq (.ops A_check_reader_field_12) (.cond (.t 81) (.ops A_check_reader_field_13) (.ops A_check_reader_field_14))) (.seq (.seq (.ops A_check_reader_field_15) (.cond (.t 94) (.ops A_check_reader_field_16) (.ops A_check_reader_field_17))) (.seq (.ops A_check_reader_field_18) (.seq (.ops A_check_reader_field_19) (.seq (.ops A_check_reader_field_20) (.seq (.ops A_check_reader_field_21) (.block 0 (.loop A_check_reader_field_25))))))))))))))))
def R_check_reader_field : List ARes := []
def T_check_reader_field : FC := ⟨194, A_check_reader_field, R_check_reader_field⟩

-- slices.ContainsFunc[[]lexicon/api.FieldDef,lexicon/api.FieldDef]
abbrev F_slices_ContainsFunc_api_FieldDef_api_FieldDef : Nat := 149
def A_slices_ContainsFunc_api_FieldDef_api_FieldDef_0 : List AOper := [⟨some 5, .mov (.t 0), none⟩,
    ⟨some 6, .mov (.t 1), none⟩,
    ⟨some 7, .call 219 [(.t 5), (.t 6)], none⟩,
    ⟨some 8, .bini .geq (.t 7) (.c (.int .i64 (0))), none⟩,
    ⟨some 4, .mov (.t 8), none⟩]
def A_slices_ContainsFunc_api_FieldDef_api_FieldDef : ACode := (.seq (.ops [⟨some 4, .mov (.c (.bool false)), none⟩]) (.seq (.ops A_slices_ContainsFunc_api_FieldDef_api_FieldDef_0) .ret))
def R_slices_ContainsFunc_api_FieldDef_api_FieldDef : List ARes := [.tmp 4]
def T_slices_ContainsFunc_api_FieldDef_api_FieldDef : FC := ⟨9, A_slices_ContainsFunc_api_FieldDef_api_FieldDef, R_slices_ContainsFunc_api_FieldDef_api_FieldDef⟩

-- (*lexicon/check.reader).message$1
abbrev F_check_reader_message_c1 : Nat := 150
def A_check_reader_message_c1_0 : List AOper := [⟨some 2, .box 68 9 (.t 0), none⟩,
    ⟨some 3, .mov (.c (.bool false)), none⟩]
def A_check_reader_message_c1_1 : List AOper := [⟨some 4, .faddr 6 (.t 2), none⟩,
    ⟨some 5, .ld1 (.t 4), none⟩,
    ⟨some 6, .ld1 (.t 1), none⟩,
    ⟨some 7, .bini .add (.t 6) (.c (.int .i64 (1))), none⟩,
    ⟨some 8, .bini .eql (.t 5) (.t 7), none⟩,
    ⟨some 3, .mov (.t 8), none⟩]
def A_check_reader_message_c1 : ACode := (.seq (.ops A_check_reader_message_c1_0) (.seq (.ops A_check_reader_message_c1_1) .ret))
def R_check_reader_message_c1 : List ARes := [.tmp 3]
def T_check_reader_message_c1 : FC := ⟨9, A_check_reader_message_c1, R_check_reader_message_c1⟩

-- lexicon/check.within
abbrev F_check_within : Nat := 151
def A_check_within_0 : List AOper := [⟨some 3, .box 21 1 (.t 1), none⟩,
    ⟨some 4, .mov (.c (.bool false)), none⟩]
def A_check_within_1 : List AOper := [⟨some 5, .mov (.t 0), none⟩,
    ⟨some 6, .mkfn 221 [] [(.t 3)], none⟩,
    ⟨some 7, .call 220 [(.t 5), (.t 6)], none⟩,
    ⟨some 4, .mov (.t 7), none⟩]
def A_check_within : ACode := (.seq (.ops A_check_within_0) (.seq (.ops A_check_within_1) .ret))
def R_check_within : List ARes := [.tmp 4]
def T_check_within : FC := ⟨8, A_check_within, R_check_within⟩

-- strings.LastIndexByte
abbrev F_strings_LastIndexByte : Nat := 154
def A_strings_LastIndexByte_0 : List AOper := [⟨some 5, .mov (.t 0), none⟩,
    ⟨some 6, .mov (.t 1), none⟩,
    ⟨some 7, .call 223 [(.t 5), (.t 6)], none⟩,
    ⟨some 4, .mov (.t 7), none⟩]
def A_strings_LastIndexByte : ACode := (.seq (.ops [⟨some 4, .mov (.c (.int .i64 (0))), none⟩]) (.seq (.ops A_strings_LastIndexByte_0) .ret))
def R_strings_LastIndexByte : List ARes := [.tmp 4]
def T_strings_LastIndexByte : FC := ⟨8, A_strings_LastIndexByte, R_strings_LastIndexByte⟩

-- (*strings.Builder).Grow
abbrev F_strings_Builder_Grow : Nat := 155
def A_strings_Builder_Grow_0 : List AOper := [⟨some 4, .mov (.t 0), none⟩,
    ⟨some 5, .call 224 [(.t 4)], none⟩]
def A_strings_Builder_Grow_1 : List AOper := [⟨some 6, .mov (.t 1), none⟩,
    ⟨some 7, .bini .lss (.t 6) (.c (.int .i64 (0))), none⟩]
def A_strings_Builder_Grow_2 : List AOper := [⟨some 8, .mkifc 9 (.c (.str [115, 116, 114, 105, 110, 103, 115, 46, 66, 117, 105, 108, 100, 101, 114, 46, 71, 114, 111, 119, 58, 32, 110, 101, 103, 97, 116, 105, 118, 101, 32, 99, 111, 117, 110, 116])), none⟩,
    ⟨none, .pan (.t 8), none⟩]
def A_strings_Builder_Grow_3 : List AOper := [⟨some 9, .mov (.t 0), none⟩,
    ⟨some 10, .nilc (.t 9), none⟩,
    ⟨some 11, .faddr 1 (.t 10), none⟩,
    ⟨some 12, .ld1 (.t 11), none⟩,
    ⟨some 13, .capk (.t 12), none⟩,
    ⟨some 14, .mov (.t 0), none⟩,
    ⟨some 15, .nilc (.t 14), none⟩,
    ⟨some 16, .faddr 1 (.t 15), none⟩,
    ⟨some 17, .ld1 (.t 16), none⟩,
    ⟨some 18, .lenl (.t 17), none⟩,
    ⟨some 19, .bini .sub (.t 13) (.t 18), none⟩,
    ⟨some 20, .mov (.t 1), none⟩,
    ⟨some 21, .bini .lss (.t 19) (.t 20), none⟩]
def A_strings_Builder_Grow_4 : List AOper := [⟨some 22, .mov (.t 0), none⟩,
    ⟨some 23, .mov (.t 1), none⟩,
    ⟨some 24, .call 225 [(.t 22), (.t 23)], none⟩]
def A_strings_Builder_Grow : ACode := (.seq (.ops A_strings_Builder_Grow_0) (.seq (.seq (.ops A_strings_Builder_Grow_1) (.cond (.t 7) (.ops A_strings_Builder_Grow_2) .skip)) (.seq (.alts [9, 10, 11, 12, 13, 14, 15, 16, 17, 18, 19, 20, 21] [A_strings_Builder_Grow_3]) (.cond (.t 21) (.ops A_strings_Builder_Grow_4) .skip))))
def R_strings_Builder_Grow : List ARes := []
def T_strings_Builder_Grow : FC := ⟨25, A_strings_Builder_Grow, R_strings_Builder_Grow⟩

-- (*strings.Builder).WriteString
abbrev F_strings_Builder_WriteString : Nat := 156
def A_strings_Builder_WriteString_0 : List AOper := [⟨some 4, .mov (.c (.int .i64 (0))), none⟩,
    ⟨some 5, .mov (.c (.nili)), none⟩]
def A_strings_Builder_WriteString_1 : List AOper := [⟨some 6, .mov (.t 0), none⟩,
    ⟨some 7, .call 224 [(.t 6)], none⟩]
def A_strings_Builder_WriteString_2 : List AOper := [⟨some 8, .mov (.t 0), none⟩,
    ⟨some 9, .mov (.t 0), none⟩,
    ⟨some 10, .nilc (.t 9), none⟩,
    ⟨some 11, .faddr 1 (.t 10), none⟩,
    ⟨some 12, .ld1 (.t 11), none⟩,
    ⟨some 13, .mov (.t 1), none⟩,
    ⟨some 14, .app 5 1 1 (.t 12) (.t 13), none⟩,
    ⟨some 15, .nilc (.t 8), none⟩,
    ⟨some 16, .faddr 1 (.t 15), none⟩,
    ⟨none, .st 1 (.t 16) (.t 14), none⟩]
def A_strings_Builder_WriteString_3 : List AOper := [⟨some 17, .mov (.t 1), none⟩,
    ⟨some 18, .lens (.t 17), none⟩,
    ⟨some 4, .mov (.t 18), none⟩,
    ⟨some 5, .mov (.c (.nili)), none⟩]
def A_strings_Builder_WriteString : ACode := (.seq (.ops A_strings_Builder_WriteString_0) (.seq (.ops A_strings_Builder_WriteString_1) (.seq (.ops A_strings_Builder_WriteString_2) (.seq (.ops A_strings_Builder_WriteString_3) .ret))))
def R_strings_Builder_WriteString : List ARes := [.tmp 4, .tmp 5]
def T_strings_Builder_WriteString : FC := ⟨19, A_strings_Builder_WriteString, R_strings_Builder_WriteString⟩

-- (*strings.Builder).String
abbrev F_strings_Builder_String : Nat := 157
def A_strings_Builder_String_0 : List AOper := [⟨some 3, .mov (.t 0), none⟩,
    ⟨some 4, .nilc (.t 3), none⟩,
    ⟨some 5, .faddr 1 (.t 4), none⟩,
    ⟨some 6, .ld1 (.t 5), none⟩,
    ⟨some 7, .usd (.t 6), none⟩,
    ⟨some 8, .mov (.t 0), none⟩,
    ⟨some 9, .nilc (.t 8), none⟩,
    ⟨some 10, .faddr 1 (.t 9), none⟩,
    ⟨some 11, .ld1 (.t 10), none⟩,
    ⟨some 12, .lenl (.t 11), none⟩,
    ⟨some 13, .ustr 5 (.t 7) (.t 12), none⟩,
    ⟨some 2, .mov (.t 13), none⟩]
def A_strings_Builder_String : ACode := (.seq (.ops [⟨some 2, .mov (.c (.str [])), none⟩]) (.seq (.alts [3, 4, 5, 6, 7, 8, 9, 10, 11, 12, 13, 2] [A_strings_Builder_String_0]) .ret))
def R_strings_Builder_String : List ARes := [.tmp 2]
def T_strings_Builder_String : FC := ⟨14, A_strings_Builder_String, R_strings_Builder_String⟩

-- slices.insertionSortCmpFunc[lexicon/api.Symbol]
abbrev F_slices_insertionSortCmpFunc_api_Symbol : Nat := 158
def A_slices_insertionSortCmpFunc_api_Symbol_0 : List AOper := [⟨some 10, .mov (.t 1), none⟩,
    ⟨some 11, .bini .add (.t 10) (.c (.int .i64 (1))), none⟩,
    ⟨some 8, .mov (.t 11), none⟩]
def A_slices_insertionSortCmpFunc_api_Symbol_1 : List AOper := [⟨some 12, .mov (.t 8), none⟩,
    ⟨some 13, .mov (.t 2), none⟩,
    ⟨some 14, .bini .lss (.t 12) (.t 13), none⟩]
def A_slices_insertionSortCmpFunc_api_Symbol_2 : List AOper := [⟨some 17, .mov (.t 8), none⟩,
    ⟨some 9, .mov (.t 17), none⟩]
def A_slices_insertionSortCmpFunc_api_Symbol_3 : List AOper := [⟨some 18, .mov (.t 9), none⟩,
    ⟨some 19, .mov (.t 1), none⟩,
    ⟨some 20, .bini .gtr (.t 18) (.t 19), none⟩,
    ⟨some 21, .mov (.t 20), none⟩,
    ⟨some 22, .mov (.t 3), some (21, true)⟩,
    ⟨some 23, .mov (.t 0), some (21, true)⟩,
    ⟨some 24, .mov (.t 9), some (21, true)⟩,
    ⟨some 25, .iaddr 104 3 (.t 23) (.t 24), some (21, true)⟩,
    ⟨some 26, .lda 3 (.t 25), some (21, true)⟩,
    ⟨some 27, .mov (.t 0), some (21, true)⟩,
    ⟨some 28, .mov (.t 9), some (21, true)⟩,
    ⟨some 29, .bini .sub (.t 28) (.c (.int .i64 (1))), some (21, true)⟩,
    ⟨some 30, .iaddr 104 3 (.t 27) (.t 29), some (21, true)⟩,
    ⟨some 31, .lda 3 (.t 30), some (21, true)⟩,
    ⟨some 32, .callv (.t 22) [(.t 26), (.t 31)], some (21, true)⟩,
    ⟨some 33, .bini .lss (.t 32) (.c (.int .i64 (0))), some (21, true)⟩,
    ⟨some 34, .pick (.t 21) (.t 33) (.c (.bool false)), none⟩]
def A_slices_insertionSortCmpFunc_api_Symbol_4 : List AOper := [⟨some 37, .mov (.t 0), none⟩,
    ⟨some 38, .mov (.t 9), none⟩,
    ⟨some 39, .mov (.t 0), none⟩,
    ⟨some 40, .mov (.t 9), none⟩,
    ⟨some 41, .bini .sub (.t 40) (.c (.int .i64 (1))), none⟩,
    ⟨some 42, .mov (.t 0), none⟩,
    ⟨some 43, .mov (.t 9), none⟩,
    ⟨some 44, .bini .sub (.t 43) (.c (.int .i64 (1))), none⟩,
    ⟨some 45, .iaddr 104 3 (.t 42) (.t 44), none⟩,
    ⟨some 46, .lda 3 (.t 45), none⟩,
    ⟨some 47, .mov (.t 0), none⟩,
    ⟨some 48, .mov (.t 9), none⟩,
    ⟨some 49, .iaddr 104 3 (.t 47) (.t 48), none⟩,
    ⟨some 50, .lda 3 (.t 49), none⟩,
    ⟨some 51, .iaddr 104 3 (.t 37) (.t 38), none⟩,
    ⟨none, .st 3 (.t 51) (.t 46), none⟩,
    ⟨some 52, .iaddr 104 3 (.t 39) (.t 41), none⟩,
    ⟨none, .st 3 (.t 52) (.t 50), none⟩]
def A_slices_insertionSortCmpFunc_api_Symbol_5 : List AOper := [⟨some 35, .mov (.t 9), none⟩,
    ⟨some 36, .bini .sub (.t 35) (.c (.int .i64 (1))), none⟩,
    ⟨some 9, .mov (.t 36), none⟩]
def A_slices_insertionSortCmpFunc_api_Symbol_6 : ACode := (.seq (.seq (.alts [18, 19, 20, 21, 22, 23, 24, 25, 26, 27, 28, 29, 30, 31, 32, 33, 34] [A_slices_insertionSortCmpFunc_api_Symbol_3]) (.cond (.t 34) .skip (.exit 2))) (.seq (.block 3 (.alts [37, 38, 39, 40, 41, 42, 43, 44, 45, 46, 47, 48, 49, 50, 51, 52] [A_slices_insertionSortCmpFunc_api_Symbol_4])) (.ops A_slices_insertionSortCmpFunc_api_Symbol_5)))
def A_slices_insertionSortCmpFunc_api_Symbol_7 : List AOper := [⟨some 15, .mov (.t 8), none⟩,
    ⟨some 16, .bini .add (.t 15) (.c (.int .i64 (1))), none⟩,
    ⟨some 8, .mov (.t 16), none⟩]
def A_slices_insertionSortCmpFunc_api_Symbol_8 : ACode := (.seq (.seq (.ops A_slices_insertionSortCmpFunc_api_Symbol_1) (.cond (.t 14) .skip (.exit 0))) (.seq (.block 1 (.seq (.ops A_slices_insertionSortCmpFunc_api_Symbol_2) (.block 2 (.loop A_slices_insertionSortCmpFunc_api_Symbol_6)))) (.ops A_slices_insertionSortCmpFunc_api_Symbol_7)))
def A_slices_insertionSortCmpFunc_api_Symbol : ACode := (.seq (.ops A_slices_insertionSortCmpFunc_api_Symbol_0) (.block 0 (.loop A_slices_insertionSortCmpFunc_api_Symbol_8)))
def R_slices_insertionSortCmpFunc_api_Symbol : List ARes := []
def T_slices_insertionSortCmpFunc_api_Symbol : FC := ⟨53, A_slices_insertionSortCmpFunc_api_Symbol, R_slices_insertionSortCmpFunc_api_Symbol⟩

-- (*lexicon/link.Linked).means$1
abbrev F_link_Linked_means_c1 : Nat := 160
def A_link_Linked_means_c1_0 : List AOper := [⟨some 3, .mov (.t 0), none⟩,
    ⟨some 4, .bini .eql (.t 3) (.c (.int .u8 (1))), none⟩,
    ⟨some 5, .mov (.t 4), none⟩,
    ⟨some 6, .mov (.t 0), some (5, false)⟩,
    ⟨some 7, .bini .eql (.t 6) (.c (.int .u8 (2))), some (5, false)⟩,
    ⟨some 8, .pick (.t 5) (.c (.bool true)) (.t 7), none⟩,
    ⟨some 2, .mov (.t 8), none⟩]
def A_link_Linked_means_c1 : ACode := (.seq (.ops [⟨some 2, .mov (.c (.bool false)), none⟩]) (.seq (.ops A_link_Linked_means_c1_0) .ret))
def R_link_Linked_means_c1 : List ARes := [.tmp 2]
def T_link_Linked_means_c1 : FC := ⟨9, A_link_Linked_means_c1, R_link_Linked_means_c1⟩

-- (*lexicon/link.Linked).some
abbrev F_link_Linked_some : Nat := 161
def A_link_Linked_some_0 : List AOper := [⟨some 8, .mov (.t 1), none⟩,
    ⟨some 9, .lenl (.t 8), none⟩,
    ⟨some 10, .mov (.c (.int .i64 (0))), none⟩]
def A_link_Linked_some_1 : List AOper := [⟨some 12, .iaddr 9 1 (.t 8) (.t 10), none⟩,
    ⟨some 13, .ld1 (.t 12), none⟩,
    ⟨some 7, .mov (.t 13), none⟩]
def A_link_Linked_some_2 : List AOper := [⟨some 14, .mov (.t 5), none⟩,
    ⟨some 15, .mov (.t 0), none⟩,
    ⟨some 16, .nilc (.t 15), none⟩,
    ⟨some 17, .faddr 0 (.t 16), none⟩,
    ⟨some 18, .ld1 (.t 17), none⟩,
    ⟨some 19, .mov (.t 7), none⟩,
    ⟨some 20, .mlook .s (.nilp) false (.t 18) (.t 19), none⟩,
    ⟨some 21, .bslice 86 1 1 [.nilp] [(0, 1, (.t 20))], none⟩,
    ⟨some 22, .app 86 1 8 (.t 14) (.t 21), none⟩,
    ⟨some 5, .mov (.t 22), none⟩]
def A_link_Linked_some_3 : List AOper := [⟨some 23, .bini .add (.t 10) (.c (.int .i64 (1))), none⟩,
    ⟨some 10, .mov (.t 23), none⟩]
def A_link_Linked_some_4 : ACode := (.seq (.ops [⟨some 11, .bini .lss (.t 10) (.t 9), none⟩]) (.seq (.cond (.t 11) .skip (.exit 0)) (.seq (.block 1 (.seq (.ops A_link_Linked_some_1) (.ops A_link_Linked_some_2))) (.ops A_link_Linked_some_3))))
def A_link_Linked_some_5 : List AOper := [⟨some 24, .mov (.t 5), none⟩,
    ⟨some 4, .mov (.t 24), none⟩]
def A_link_Linked_some : ACode := (.seq (.ops [⟨some 4, .mov (.c (.nils)), none⟩]) (.seq (.ops [⟨some 5, .mov (.c (.nils)), none⟩]) (.seq (.seq (.ops A_link_Linked_some_0) (.block 0 (.loop A_link_Linked_some_4))) (.seq (.ops A_link_Linked_some_5) .ret))))
def R_link_Linked_some : List ARes := [.tmp 4]
def T_link_Linked_some : FC := ⟨25, A_link_Linked_some, R_link_Linked_some⟩

-- maps.Keys[map[string]bool,string,bool]
abbrev F_maps_Keys_map_string_bool_string_bool : Nat := 162
def A_maps_Keys_map_string_bool_string_bool_0 : List AOper := [⟨some 1, .box 88 1 (.t 0), none⟩,
    ⟨some 2, .mov (.c (.nilf)), none⟩]
def A_maps_Keys_map_string_bool_string_bool_1 : List AOper := [⟨some 3, .mkfn 227 [] [(.t 1)], none⟩,
    ⟨some 2, .mov (.t 3), none⟩]
def A_maps_Keys_map_string_bool_string_bool : ACode := (.seq (.ops A_maps_Keys_map_string_bool_string_bool_0) (.seq (.ops A_maps_Keys_map_string_bool_string_bool_1) .ret))
def R_maps_Keys_map_string_bool_string_bool : List ARes := [.tmp 2]
def T_maps_Keys_map_string_bool_string_bool : FC := ⟨4, A_maps_Keys_map_string_bool_string_bool, R_maps_Keys_map_string_bool_string_bool⟩

-- (*lexicon/link.Linked).leads
abbrev F_link_Linked_leads : Nat := 163
def A_link_Linked_leads_0 : List AOper := [⟨some 5, .box 301 1 (.t 1), none⟩,
    ⟨some 7, .box 9 1 (.t 3), none⟩,
    ⟨some 8, .box 9 1 (.c (.str [])), none⟩,
    ⟨some 9, .box 4 1 (.c (.bool false)), none⟩]
def A_link_Linked_leads_1 : List AOper := [⟨some 22, .ld1 (.t 7), none⟩,
    ⟨some 23, .call 228 [(.t 22), (.c (.str [46]))], none⟩,
    ⟨some 21, .mov (.t 23), none⟩,
    ⟨some 24, .ext 0 (.t 21), none⟩,
    ⟨some 25, .ext 1 (.t 21), none⟩,
    ⟨some 10, .mov (.t 24), none⟩,
    ⟨some 11, .mov (.t 25), none⟩]
def A_link_Linked_leads_2 : List AOper := [⟨some 27, .mov (.t 10), none⟩,
    ⟨none, .st 1 (.t 8) (.t 27), none⟩,
    ⟨none, .st 1 (.t 9) (.c (.bool true)), none⟩]
def A_link_Linked_leads_3 : List AOper := [⟨some 29, .ld1 (.t 7), none⟩,
    ⟨some 30, .call 229 [(.t 29), (.c (.str [46]))], none⟩,
    ⟨some 28, .mov (.t 30), none⟩,
    ⟨some 31, .ext 0 (.t 28), none⟩,
    ⟨some 32, .ext 1 (.t 28), none⟩,
    ⟨some 33, .ext 2 (.t 28), none⟩,
    ⟨some 12, .box 9 1 (.c (.str [])), none⟩,
    ⟨some 14, .box 4 1 (.c (.bool false)), none⟩,
    ⟨none, .st 1 (.t 12) (.t 31), none⟩,
    ⟨some 13, .mov (.t 32), none⟩,
    ⟨none, .st 1 (.t 14) (.t 33), none⟩]
def A_link_Linked_leads_4 : List AOper := [⟨some 34, .mov (.t 2), none⟩,
    ⟨some 35, .call 44 [(.t 34)], none⟩]
def A_link_Linked_leads_5 : List AOper := [⟨some 37, .mov (.t 15), none⟩,
    ⟨some 38, .ld1 (.t 12), none⟩,
    ⟨some 39, .bslice 9 1 2 [.str []] [(0, 1, (.t 37)), (1, 1, (.t 38))], none⟩,
    ⟨some 40, .call 46 [(.t 39)], none⟩,
    ⟨some 16, .mov (.t 40), none⟩]
def A_link_Linked_leads_6 : List AOper := [⟨some 41, .ld1 (.t 5), none⟩,
    ⟨some 42, .lenl (.t 41), none⟩,
    ⟨some 43, .mov (.c (.int .i64 (0))), none⟩]
def A_link_Linked_leads_7 : List AOper := [⟨some 45, .iaddr 86 1 (.t 41) (.t 43), none⟩,
    ⟨some 46, .ld1 (.t 45), none⟩,
    ⟨some 18, .mov (.t 46), none⟩]
def A_link_Linked_leads_8 : List AOper := [⟨some 47, .mov (.t 18), none⟩,
    ⟨some 48, .nilc (.t 47), none⟩,
    ⟨some 49, .faddr 6 (.t 48), none⟩,
    ⟨some 50, .ld1 (.t 49), none⟩,
    ⟨some 51, .mov (.t 16), none⟩,
    ⟨some 52, .mlook .s (.int .u8 (0)) false (.t 50) (.t 51), none⟩,
    ⟨some 19, .mov (.t 52), none⟩]
def A_link_Linked_leads_9 : List AOper := [⟨some 53, .ld1 (.t 14), none⟩,
    ⟨some 54, .mov (.t 53), none⟩,
    ⟨some 55, .mov (.t 18), some (54, true)⟩,
    ⟨some 56, .nilc (.t 55), some (54, true)⟩,
    ⟨some 57, .faddr 0 (.t 56), some (54, true)⟩,
    ⟨some 58, .faddr 1 (.t 57), some (54, true)⟩,
    ⟨some 59, .ld1 (.t 58), some (54, true)⟩,
    ⟨some 60, .mov (.t 16), some (54, true)⟩,
    ⟨some 61, .bins .eql (.t 59) (.t 60), some (54, true)⟩,
    ⟨some 62, .mov (.t 61), some (54, true)⟩,
    ⟨some 63, .mov (.t 18), some (62, false)⟩,
    ⟨some 64, .nilc (.t 63), some (62, false)⟩,
    ⟨some 65, .faddr 0 (.t 64), some (62, false)⟩,
    ⟨some 66, .faddr 1 (.t 65), some (62, false)⟩,
    ⟨some 67, .ld1 (.t 66), some (62, false)⟩,
    ⟨some 68, .mov (.t 16), some (62, false)⟩,
    ⟨some 69, .bins .add (.t 68) (.c (.str [46])), some (62, false)⟩,
    ⟨some 70, .call 230 [(.t 67), (.t 69)], some (62, false)⟩,
    ⟨some 71, .pick (.t 62) (.c (.bool true)) (.t 70), some (54, true)⟩,
    ⟨some 72, .pick (.t 54) (.t 71) (.c (.bool false)), none⟩,
    ⟨some 20, .mov (.t 72), none⟩]
def A_link_Linked_leads_10 : List AOper := [⟨some 73, .mov (.t 19), none⟩,
    ⟨some 74, .bini .eql (.t 73) (.c (.int .u8 (1))), none⟩,
    ⟨some 75, .mov (.t 74), none⟩,
    ⟨some 76, .ld1 (.t 14), some (75, false)⟩,
    ⟨some 77, .not (.t 76), some (75, false)⟩,
    ⟨some 78, .mov (.t 77), some (75, false)⟩,
    ⟨some 79, .mov (.t 19), some (78, true)⟩,
    ⟨some 80, .bini .eql (.t 79) (.c (.int .u8 (2))), some (78, true)⟩,
    ⟨some 81, .pick (.t 78) (.t 80) (.c (.bool false)), some (75, false)⟩,
    ⟨some 82, .pick (.t 75) (.c (.bool true)) (.t 81), none⟩,
    ⟨some 83, .mov (.t 82), none⟩,
    ⟨some 84, .mov (.t 20), some (83, false)⟩,
    ⟨some 85, .pick (.t 83) (.c (.bool true)) (.t 84), none⟩]
def A_link_Linked_leads_11 : List AOper := [⟨some 86, .mov (.t 15), none⟩,
    ⟨some 87, .ld1 (.t 7), none⟩,
    ⟨some 88, .bslice 9 1 2 [.str []] [(0, 1, (.t 86)), (1, 1, (.t 87))], none⟩,
    ⟨some 89, .call 46 [(.t 88)], none⟩,
    ⟨none, .st 1 (.t 8) (.t 89), none⟩,
    ⟨none, .st 1 (.t 9) (.c (.bool true)), none⟩]
def A_link_Linked_leads_12 : List AOper := [⟨some 90, .bini .add (.t 43) (.c (.int .i64 (1))), none⟩,
    ⟨some 43, .mov (.t 90), none⟩]
def A_link_Linked_leads_13 : ACode := (.seq (.ops [⟨some 44, .bini .lss (.t 43) (.t 42), none⟩]) (.seq (.cond (.t 44) .skip (.exit 2)) (.seq (.block 3 (.seq (.ops A_link_Linked_leads_7) (.seq (.ops A_link_Linked_leads_8) (.seq (.ops A_link_Linked_leads_9) (.seq (.ops A_link_Linked_leads_10) (.cond (.t 85) (.seq (.ops A_link_Linked_leads_11) .ret) .skip)))))) (.ops A_link_Linked_leads_12))))
def A_link_Linked_leads_14 : List AOper := [⟨none, .st 1 (.t 8) (.c (.str [])), none⟩,
    ⟨none, .st 1 (.t 9) (.c (.bool false)), none⟩]
def A_link_Linked_leads : ACode := (.seq (.ops A_link_Linked_leads_0) (.seq (.seq (.ops A_link_Linked_leads_1) (.seq (.ops [⟨some 26, .mov (.t 11), none⟩]) (.cond (.t 26) (.seq (.ops A_link_Linked_leads_2) .ret) .skip))) (.seq (.ops A_link_Linked_leads_3) (.seq (.seq (.ops A_link_Linked_leads_4) (.block 0 (.rngf (.t 35) [36] (.ops [⟨some 15, .mov (.t 36), none⟩]) (.block 1 (.seq (.ops A_link_Linked_leads_5) (.seq (.ops A_link_Linked_leads_6) (.block 2 (.loop A_link_Linked_leads_13)))))))) (.seq (.ops A_link_Linked_leads_14) .ret)))))
def R_link_Linked_leads : List ARes := [.cell1 8, .cell1 9]
def T_link_Linked_leads : FC := ⟨91, A_link_Linked_leads, R_link_Linked_leads⟩

-- lexicon/link.sort
abbrev F_link_sort : Nat := 164
def A_link_sort_0 : List AOper := [⟨some 8, .mov (.t 0), none⟩,
    ⟨some 9, .lenl (.t 8), none⟩,
    ⟨some 10, .mov (.c (.int .i64 (0))), none⟩]
def A_link_sort_1 : List AOper := [⟨some 12, .iaddr 86 1 (.t 8) (.t 10), none⟩,
    ⟨some 13, .ld1 (.t 12), none⟩,
    ⟨some 6, .mov (.t 13), none⟩]
def A_link_sort_2 : List AOper := [⟨some 14, .mov (.t 6), none⟩,
    ⟨some 15, .nilc (.t 14), none⟩,
    ⟨some 16, .faddr 6 (.t 15), none⟩,
    ⟨some 17, .ld1 (.t 16), none⟩,
    ⟨some 18, .mov (.t 1), none⟩,
    ⟨some 19, .mlook .s (.int .u8 (0)) false (.t 17) (.t 18), none⟩,
    ⟨some 7, .mov (.t 19), none⟩]
def A_link_sort_3 : List AOper := [⟨some 20, .mov (.t 7), none⟩,
    ⟨some 21, .bini .neq (.t 20) (.c (.int .u8 (0))), none⟩]
def A_link_sort_4 : List AOper := [⟨some 22, .mov (.t 7), none⟩,
    ⟨some 4, .mov (.t 22), none⟩]
def A_link_sort_5 : List AOper := [⟨some 23, .bini .add (.t 10) (.c (.int .i64 (1))), none⟩,
    ⟨some 10, .mov (.t 23), none⟩]
def A_link_sort_6 : ACode := (.seq (.ops [⟨some 11, .bini .lss (.t 10) (.t 9), none⟩]) (.seq (.cond (.t 11) .skip (.exit 0)) (.seq (.block 1 (.seq (.ops A_link_sort_1) (.seq (.ops A_link_sort_2) (.seq (.ops A_link_sort_3) (.cond (.t 21) (.seq (.ops A_link_sort_4) .ret) .skip))))) (.ops A_link_sort_5))))
def A_link_sort : ACode := (.seq (.ops [⟨some 4, .mov (.c (.int .u8 (0))), none⟩]) (.seq (.seq (.ops A_link_sort_0) (.block 0 (.loop A_link_sort_6))) (.seq (.ops [⟨some 4, .mov (.c (.int .u8 (0))), none⟩]) .ret)))
def R_link_sort : List ARes := [.tmp 4]
def T_link_sort : FC := ⟨24, A_link_sort, R_link_sort⟩

-- (*lexicon/dyn.checker).unknown
abbrev F_dyn_checker_unknown : Nat := 177
def A_dyn_checker_unknown_0 : List AOper := [⟨some 6, .box 111 1 (.t 1), none⟩,
    ⟨some 8, .box 9 1 (.t 3), none⟩,
    ⟨some 10, .box 246 1 (.c (.nilp)), none⟩]
def A_dyn_checker_unknown_1 : List AOper := [⟨some 17, .mov (.t 2), none⟩,
    ⟨some 18, .mov (.t 4), none⟩,
    ⟨some 19, .bini .sub (.c (.int .i64 (100))) (.t 18), none⟩,
    ⟨some 20, .call 234 [(.t 17), (.t 19)], none⟩,
    ⟨some 16, .mov (.t 20), none⟩,
    ⟨some 21, .ext 0 (.t 16), none⟩,
    ⟨some 22, .ext 1 (.t 16), none⟩,
    ⟨some 11, .mov (.t 21), none⟩,
    ⟨some 12, .mov (.t 22), none⟩]
def A_dyn_checker_unknown_2 : List AOper := [⟨some 23, .mov (.t 11), none⟩,
    ⟨some 24, .bini .neq (.t 23) (.c (.int .i64 (0))), none⟩]
def A_dyn_checker_unknown_3 : List AOper := [⟨some 25, .ld1 (.t 8), none⟩,
    ⟨some 26, .build [.int .i64 (0), .str []] [(0, 1, (.c (.int .i64 (106)))), (1, 1, (.t 25))], none⟩,
    ⟨some 27, .box 249 2 (.t 26), none⟩,
    ⟨none, .st 1 (.t 10) (.t 27), none⟩]
def A_dyn_checker_unknown_4 : List AOper := [⟨some 28, .mov (.t 2), none⟩,
    ⟨some 29, .mov (.t 4), none⟩,
    ⟨some 30, .bini .sub (.c (.int .i64 (100))) (.t 29), none⟩,
    ⟨some 31, .call 235 [(.t 28), (.t 30)], none⟩]
def A_dyn_checker_unknown_5 : List AOper := [⟨some 13, .box 367 5 (.c (.agg [.int .i32 (0), .int .u8 (0), .int .i64 (0), .int .u64 (0), .nils])), none⟩,
    ⟨none, .st 5 (.t 13) (.t 32), none⟩]
def A_dyn_checker_unknown_6 : List AOper := [⟨some 34, .ld1 (.t 6), none⟩,
    ⟨some 35, .faddr 0 (.t 13), none⟩,
    ⟨some 36, .ld1 (.t 35), none⟩,
    ⟨some 37, .call 70 [(.t 34), (.t 36)], none⟩,
    ⟨some 33, .mov (.t 37), none⟩,
    ⟨some 38, .ext 0 (.t 33), none⟩,
    ⟨some 39, .ext 1 (.t 33), none⟩,
    ⟨some 14, .box 170 9 (.c (.agg [.int .i32 (0), .str [], .str [], .int .u8 (0), .int .u8 (0), .int .u8 (0), .bool false, .int .i64 (0), .str []])), none⟩,
    ⟨none, .st 9 (.t 14) (.t 38), none⟩,
    ⟨some 15, .mov (.t 39), none⟩]
def A_dyn_checker_unknown_7 : List AOper := [⟨some 40, .mov (.t 15), none⟩,
    ⟨some 41, .mov (.t 40), none⟩,
    ⟨some 42, .lda 9 (.t 14), some (41, true)⟩,
    ⟨some 43, .faddr 1 (.t 13), some (41, true)⟩,
    ⟨some 44, .ld1 (.t 43), some (41, true)⟩,
    ⟨some 45, .call 236 [(.t 42), (.t 44)], some (41, true)⟩,
    ⟨some 46, .pick (.t 41) (.t 45) (.c (.bool false)), none⟩]
def A_dyn_checker_unknown_8 : List AOper := [⟨some 47, .ld1 (.t 8), none⟩,
    ⟨some 48, .build [.int .i64 (0), .str []] [(0, 1, (.c (.int .i64 (106)))), (1, 1, (.t 47))], none⟩,
    ⟨some 49, .box 249 2 (.t 48), none⟩,
    ⟨none, .st 1 (.t 10) (.t 49), none⟩]
def A_dyn_checker_unknown : ACode := (.seq (.ops A_dyn_checker_unknown_0) (.seq (.seq (.ops A_dyn_checker_unknown_1) (.seq (.ops A_dyn_checker_unknown_2) (.cond (.t 24) (.seq (.ops A_dyn_checker_unknown_3) .ret) .skip))) (.seq (.seq (.ops A_dyn_checker_unknown_4) (.block 0 (.rngf (.t 31) [32] (.ops A_dyn_checker_unknown_5) (.block 1 (.seq (.ops A_dyn_checker_unknown_6) (.seq (.ops A_dyn_checker_unknown_7) (.cond (.t 46) (.seq (.ops A_dyn_checker_unknown_8) .ret) .skip))))))) (.seq (.ops [⟨none, .st 1 (.t 10) (.c (.nilp)), none⟩]) .ret))))
def R_dyn_checker_unknown : List ARes := [.cell1 10]
def T_dyn_checker_unknown : FC := ⟨50, A_dyn_checker_unknown, R_dyn_checker_unknown⟩

-- (*lexicon/wire.Reader).Part
abbrev F_wire_Reader_Part : Nat := 183
def A_wire_Reader_Part_0 : List AOper := [⟨some 7, .mov (.t 0), none⟩,
    ⟨some 8, .call 189 [(.t 7)], none⟩,
    ⟨some 6, .mov (.t 8), none⟩,
    ⟨some 9, .ext 0 (.t 6), none⟩,
    ⟨some 10, .ext 1 (.t 6), none⟩,
    ⟨some 11, .ext 2 (.t 6), none⟩,
    ⟨some 3, .mov (.t 9), none⟩,
    ⟨some 4, .mov (.t 10), none⟩,
    ⟨some 5, .mov (.t 11), none⟩]
def A_wire_Reader_Part_1 : List AOper := [⟨some 12, .mov (.t 5), none⟩,
    ⟨some 13, .not (.t 12), none⟩]
def A_wire_Reader_Part_2 : List AOper := [⟨some 14, .mov (.t 0), none⟩,
    ⟨some 15, .call 240 [(.t 14)], none⟩,
    ⟨some 2, .mov (.t 15), none⟩]
def A_wire_Reader_Part_3 : List AOper := [⟨some 16, .mov (.t 0), none⟩,
    ⟨some 17, .nilc (.t 16), none⟩,
    ⟨some 18, .faddr 0 (.t 17), none⟩,
    ⟨some 19, .ld1 (.t 18), none⟩,
    ⟨some 20, .mov (.t 3), none⟩,
    ⟨some 21, .mov (.t 4), none⟩,
    ⟨some 22, .build [.nils, .int .i64 (0), .int .i64 (0), .int .i64 (0), .int .i64 (0)] [(0, 1, (.t 19)), (1, 1, (.t 20)), (2, 1, (.t 21))], none⟩,
    ⟨some 23, .box 204 5 (.t 22), none⟩,
    ⟨some 2, .mov (.t 23), none⟩]
def A_wire_Reader_Part : ACode := (.seq (.ops [⟨some 2, .mov (.c (.nilp)), none⟩]) (.seq (.ops A_wire_Reader_Part_0) (.seq (.seq (.ops A_wire_Reader_Part_1) (.cond (.t 13) (.seq (.ops A_wire_Reader_Part_2) .ret) .skip)) (.seq (.ops A_wire_Reader_Part_3) .ret))))
def R_wire_Reader_Part : List ARes := [.tmp 2]
def T_wire_Reader_Part : FC := ⟨24, A_wire_Reader_Part, R_wire_Reader_Part⟩

-- lexicon/nums.Narrow
abbrev F_nums_Narrow : Nat := 187
def A_nums_Narrow_0 : List AOper := [⟨some 8, .bini .eql (.t 6) (.c (.int .u8 (5))), none⟩,
    ⟨some 7, .mov (.t 8), none⟩]
def A_nums_Narrow_1 : List AOper := [⟨some 9, .bini .eql (.t 6) (.c (.int .u8 (14))), none⟩,
    ⟨some 7, .mov (.t 9), none⟩]
def A_nums_Narrow_2 : List AOper := [⟨some 10, .mov (.t 1), none⟩,
    ⟨some 11, .conv .i32 (.t 10), none⟩,
    ⟨some 12, .conv .i64 (.t 11), none⟩,
    ⟨some 13, .conv .u64 (.t 12), none⟩,
    ⟨some 4, .mov (.t 13), none⟩]
def A_nums_Narrow_3 : List AOper := [⟨some 15, .bini .eql (.t 6) (.c (.int .u8 (13))), none⟩,
    ⟨some 14, .mov (.t 15), none⟩]
def A_nums_Narrow_4 : List AOper := [⟨some 16, .mov (.t 1), none⟩,
    ⟨some 17, .bini .and (.t 16) (.c (.int .u64 (4294967295))), none⟩,
    ⟨some 4, .mov (.t 17), none⟩]
def A_nums_Narrow_5 : List AOper := [⟨some 19, .bini .eql (.t 6) (.c (.int .u8 (3))), none⟩,
    ⟨some 18, .mov (.t 19), none⟩]
def A_nums_Narrow_6 : List AOper := [⟨some 20, .bini .eql (.t 6) (.c (.int .u8 (4))), none⟩,
    ⟨some 18, .mov (.t 20), none⟩]
def A_nums_Narrow_7 : List AOper := [⟨some 21, .mov (.t 1), none⟩,
    ⟨some 4, .mov (.t 21), none⟩]
def A_nums_Narrow_8 : List AOper := [⟨some 23, .bini .eql (.t 6) (.c (.int .u8 (8))), none⟩,
    ⟨some 22, .mov (.t 23), none⟩]
def A_nums_Narrow_9 : List AOper := [⟨some 24, .mov (.t 1), none⟩,
    ⟨some 25, .bini .neq (.t 24) (.c (.int .u64 (0))), none⟩]
def A_nums_Narrow_10 : List AOper := [⟨some 27, .bini .eql (.t 6) (.c (.int .u8 (17))), none⟩,
    ⟨some 26, .mov (.t 27), none⟩]
def A_nums_Narrow_11 : List AOper := [⟨some 28, .mov (.t 5), none⟩,
    ⟨some 29, .mov (.t 1), none⟩,
    ⟨some 30, .bini .and (.t 29) (.c (.int .u64 (4294967295))), none⟩,
    ⟨some 31, .callv (.t 28) [(.t 30)], none⟩,
    ⟨some 32, .conv .u64 (.t 31), none⟩,
    ⟨some 4, .mov (.t 32), none⟩]
def A_nums_Narrow_12 : List AOper := [⟨some 34, .bini .eql (.t 6) (.c (.int .u8 (18))), none⟩,
    ⟨some 33, .mov (.t 34), none⟩]
def A_nums_Narrow_13 : List AOper := [⟨some 35, .mov (.t 5), none⟩,
    ⟨some 36, .mov (.t 1), none⟩,
    ⟨some 37, .callv (.t 35) [(.t 36)], none⟩,
    ⟨some 38, .conv .u64 (.t 37), none⟩,
    ⟨some 4, .mov (.t 38), none⟩]
def A_nums_Narrow : ACode := (.seq (.ops [⟨some 4, .mov (.c (.int .u64 (0))), none⟩]) (.seq (.ops [⟨some 5, .mov (.f 245), none⟩]) (.seq (.seq (.ops [⟨some 6, .mov (.t 0), none⟩]) (.block 0 (.seq (.seq (.ops A_nums_Narrow_0) (.cond (.t 7) .skip (.ops A_nums_Narrow_1))) (.cond (.t 7) (.seq (.ops A_nums_Narrow_2) .ret) (.seq (.ops A_nums_Narrow_3) (.cond (.t 14) (.seq (.ops A_nums_Narrow_4) .ret) (.seq (.seq (.ops A_nums_Narrow_5) (.cond (.t 18) .skip (.ops A_nums_Narrow_6))) (.cond (.t 18) (.seq (.ops A_nums_Narrow_7) .ret) (.seq (.ops A_nums_Narrow_8) (.cond (.t 22) (.seq (.ops A_nums_Narrow_9) (.cond (.t 25) (.seq (.ops [⟨some 4, .mov (.c (.int .u64 (1))), none⟩]) .ret) .skip)) (.seq (.ops A_nums_Narrow_10) (.cond (.t 26) (.seq (.ops A_nums_Narrow_11) .ret) (.seq (.ops A_nums_Narrow_12) (.cond (.t 33) (.seq (.ops A_nums_Narrow_13) .ret) .skip)))))))))))))) (.seq (.ops [⟨some 4, .mov (.c (.int .u64 (0))), none⟩]) .ret))))
def R_nums_Narrow : List ARes := [.tmp 4]
def T_nums_Narrow : FC := ⟨39, A_nums_Narrow, R_nums_Narrow⟩

-- (*lexicon/wire.Reader).Varint
abbrev F_wire_Reader_Varint : Nat := 188
def A_wire_Reader_Varint_0 : List AOper := [⟨some 6, .mov (.t 0), none⟩,
    ⟨some 7, .nilc (.t 6), none⟩,
    ⟨some 8, .faddr 3 (.t 7), none⟩,
    ⟨some 9, .ld1 (.t 8), none⟩,
    ⟨some 10, .bini .neq (.t 9) (.c (.int .i64 (0))), none⟩]
def A_wire_Reader_Varint_1 : List AOper := [⟨some 11, .mov (.t 4), none⟩,
    ⟨some 12, .bini .lss (.t 11) (.c (.int .i64 (10))), none⟩]
def A_wire_Reader_Varint_2 : List AOper := [⟨some 15, .mov (.t 0), none⟩,
    ⟨some 16, .nilc (.t 15), none⟩,
    ⟨some 17, .faddr 1 (.t 16), none⟩,
    ⟨some 18, .ld1 (.t 17), none⟩,
    ⟨some 19, .mov (.t 4), none⟩,
    ⟨some 20, .bini .add (.t 18) (.t 19), none⟩,
    ⟨some 21, .mov (.t 0), none⟩,
    ⟨some 22, .nilc (.t 21), none⟩,
    ⟨some 23, .faddr 2 (.t 22), none⟩,
    ⟨some 24, .ld1 (.t 23), none⟩,
    ⟨some 25, .bini .geq (.t 20) (.t 24), none⟩]
def A_wire_Reader_Varint_3 : List AOper := [⟨some 26, .mov (.t 0), none⟩,
    ⟨some 27, .mov (.t 0), none⟩,
    ⟨some 28, .nilc (.t 27), none⟩,
    ⟨some 29, .faddr 1 (.t 28), none⟩,
    ⟨some 30, .ld1 (.t 29), none⟩,
    ⟨some 31, .call 130 [(.t 26), (.c (.int .i64 (10))), (.t 30)], none⟩]
def A_wire_Reader_Varint_4 : List AOper := [⟨some 32, .mov (.t 0), none⟩,
    ⟨some 33, .nilc (.t 32), none⟩,
    ⟨some 34, .faddr 0 (.t 33), none⟩,
    ⟨some 35, .ld1 (.t 34), none⟩,
    ⟨some 36, .mov (.t 0), none⟩,
    ⟨some 37, .nilc (.t 36), none⟩,
    ⟨some 38, .faddr 1 (.t 37), none⟩,
    ⟨some 39, .ld1 (.t 38), none⟩,
    ⟨some 40, .mov (.t 4), none⟩,
    ⟨some 41, .bini .add (.t 39) (.t 40), none⟩,
    ⟨some 42, .iaddr 5 1 (.t 35) (.t 41), none⟩,
    ⟨some 43, .ld1 (.t 42), none⟩,
    ⟨some 5, .mov (.t 43), none⟩]
def A_wire_Reader_Varint_5 : List AOper := [⟨some 44, .mov (.t 4), none⟩,
    ⟨some 45, .bini .eql (.t 44) (.c (.int .i64 (9))), none⟩,
    ⟨some 46, .mov (.t 45), none⟩,
    ⟨some 47, .mov (.t 5), some (46, true)⟩,
    ⟨some 48, .bini .gtr (.t 47) (.c (.int .u8 (1))), some (46, true)⟩,
    ⟨some 49, .pick (.t 46) (.t 48) (.c (.bool false)), none⟩]
def A_wire_Reader_Varint_6 : List AOper := [⟨some 50, .mov (.t 3), none⟩,
    ⟨some 51, .mov (.t 5), none⟩,
    ⟨some 52, .bini .and (.t 51) (.c (.int .u8 (127))), none⟩,
    ⟨some 53, .conv .u64 (.t 52), none⟩,
    ⟨some 54, .mov (.t 4), none⟩,
    ⟨some 55, .bini .mul (.c (.int .i64 (7))) (.t 54), none⟩,
    ⟨some 56, .bini .shl (.t 53) (.t 55), none⟩,
    ⟨some 57, .bini .or (.t 50) (.t 56), none⟩,
    ⟨some 3, .mov (.t 57), none⟩]
def A_wire_Reader_Varint_7 : List AOper := [⟨some 58, .mov (.t 5), none⟩,
    ⟨some 59, .bini .lss (.t 58) (.c (.int .u8 (128))), none⟩]
def A_wire_Reader_Varint_8 : List AOper := [⟨some 60, .mov (.t 0), none⟩,
    ⟨some 61, .nilc (.t 60), none⟩,
    ⟨some 62, .faddr 1 (.t 61), none⟩,
    ⟨some 63, .ld1 (.t 62), none⟩,
    ⟨some 64, .mov (.t 4), none⟩,
    ⟨some 65, .bini .add (.t 64) (.c (.int .i64 (1))), none⟩,
    ⟨some 66, .bini .add (.t 63) (.t 65), none⟩,
    ⟨some 67, .nilc (.t 60), none⟩,
    ⟨some 68, .faddr 1 (.t 67), none⟩,
    ⟨none, .st 1 (.t 68) (.t 66), none⟩]
def A_wire_Reader_Varint_9 : List AOper := [⟨some 69, .mov (.t 3), none⟩,
    ⟨some 2, .mov (.t 69), none⟩]
def A_wire_Reader_Varint_10 : List AOper := [⟨some 13, .mov (.t 4), none⟩,
    ⟨some 14, .bini .add (.t 13) (.c (.int .i64 (1))), none⟩,
    ⟨some 4, .mov (.t 14), none⟩]
def A_wire_Reader_Varint_11 : ACode := (.seq (.seq (.ops A_wire_Reader_Varint_1) (.cond (.t 12) .skip (.exit 0))) (.seq (.block 1 (.seq (.seq (.alts [15, 16, 17, 18, 19, 20, 21, 22, 23, 24, 25] [A_wire_Reader_Varint_2]) (.cond (.t 25) (.seq (.ops A_wire_Reader_Varint_3) (.seq (.ops [⟨some 2, .mov (.c (.int .u64 (0))), none⟩]) .ret)) .skip)) (.seq (.alts [32, 33, 34, 35, 36, 37, 38, 39, 40, 41, 42, 43, 5] [A_wire_Reader_Varint_4]) (.seq (.seq (.ops A_wire_Reader_Varint_5) (.cond (.t 49) (.exit 0) .skip)) (.seq (.ops A_wire_Reader_Varint_6) (.seq (.ops A_wire_Reader_Varint_7) (.cond (.t 59) (.seq (.ops A_wire_Reader_Varint_8) (.seq (.ops A_wire_Reader_Varint_9) .ret)) .skip))))))) (.ops A_wire_Reader_Varint_10)))
def A_wire_Reader_Varint_12 : List AOper := [⟨some 70, .mov (.t 0), none⟩,
    ⟨some 71, .mov (.t 0), none⟩,
    ⟨some 72, .nilc (.t 71), none⟩,
    ⟨some 73, .faddr 1 (.t 72), none⟩,
    ⟨some 74, .ld1 (.t 73), none⟩,
    ⟨some 75, .call 130 [(.t 70), (.c (.int .i64 (11))), (.t 74)], none⟩]
def A_wire_Reader_Varint : ACode := (.seq (.ops [⟨some 2, .mov (.c (.int .u64 (0))), none⟩]) (.seq (.ops [⟨some 3, .mov (.c (.int .u64 (0))), none⟩]) (.seq (.seq (.ops A_wire_Reader_Varint_0) (.cond (.t 10) (.seq (.ops [⟨some 2, .mov (.c (.int .u64 (0))), none⟩]) .ret) .skip)) (.seq (.seq (.ops [⟨some 4, .mov (.c (.int .i64 (0))), none⟩]) (.block 0 (.loop A_wire_Reader_Varint_11))) (.seq (.ops A_wire_Reader_Varint_12) (.seq (.ops [⟨some 2, .mov (.c (.int .u64 (0))), none⟩]) .ret))))))
def R_wire_Reader_Varint : List ARes := [.tmp 2]
def T_wire_Reader_Varint : FC := ⟨76, A_wire_Reader_Varint, R_wire_Reader_Varint⟩

-- (*lexicon/wire.Reader).span
abbrev F_wire_Reader_span : Nat := 189
def A_wire_Reader_span_0 : List AOper := [⟨some 2, .mov (.c (.int .i64 (0))), none⟩,
    ⟨some 3, .mov (.c (.int .i64 (0))), none⟩,
    ⟨some 4, .mov (.c (.bool false)), none⟩]
def A_wire_Reader_span_1 : List AOper := [⟨some 8, .mov (.t 0), none⟩,
    ⟨some 9, .nilc (.t 8), none⟩,
    ⟨some 10, .faddr 1 (.t 9), none⟩,
    ⟨some 11, .ld1 (.t 10), none⟩,
    ⟨some 5, .mov (.t 11), none⟩]
def A_wire_Reader_span_2 : List AOper := [⟨some 12, .mov (.t 0), none⟩,
    ⟨some 13, .call 188 [(.t 12)], none⟩,
    ⟨some 6, .mov (.t 13), none⟩]
def A_wire_Reader_span_3 : List AOper := [⟨some 14, .mov (.t 0), none⟩,
    ⟨some 15, .nilc (.t 14), none⟩,
    ⟨some 16, .faddr 3 (.t 15), none⟩,
    ⟨some 17, .ld1 (.t 16), none⟩,
    ⟨some 18, .bini .eql (.t 17) (.c (.int .i64 (0))), none⟩,
    ⟨some 19, .mov (.t 18), none⟩,
    ⟨some 20, .mov (.t 6), some (19, true)⟩,
    ⟨some 21, .mov (.t 0), some (19, true)⟩,
    ⟨some 22, .nilc (.t 21), some (19, true)⟩,
    ⟨some 23, .faddr 2 (.t 22), some (19, true)⟩,
    ⟨some 24, .ld1 (.t 23), some (19, true)⟩,
    ⟨some 25, .mov (.t 0), some (19, true)⟩,
    ⟨some 26, .nilc (.t 25), some (19, true)⟩,
    ⟨some 27, .faddr 1 (.t 26), some (19, true)⟩,
    ⟨some 28, .ld1 (.t 27), some (19, true)⟩,
    ⟨some 29, .bini .sub (.t 24) (.t 28), some (19, true)⟩,
    ⟨some 30, .conv .u64 (.t 29), some (19, true)⟩,
    ⟨some 31, .bini .gtr (.t 20) (.t 30), some (19, true)⟩,
    ⟨some 32, .pick (.t 19) (.t 31) (.c (.bool false)), none⟩]
def A_wire_Reader_span_4 : List AOper := [⟨some 33, .mov (.t 0), none⟩,
    ⟨some 34, .mov (.t 5), none⟩,
    ⟨some 35, .nilc (.t 33), none⟩,
    ⟨some 36, .faddr 1 (.t 35), none⟩,
    ⟨none, .st 1 (.t 36) (.t 34), none⟩]
def A_wire_Reader_span_5 : List AOper := [⟨some 37, .mov (.t 0), none⟩,
    ⟨some 38, .mov (.t 5), none⟩,
    ⟨some 39, .call 130 [(.t 37), (.c (.int .i64 (10))), (.t 38)], none⟩]
def A_wire_Reader_span_6 : List AOper := [⟨some 40, .mov (.t 0), none⟩,
    ⟨some 41, .nilc (.t 40), none⟩,
    ⟨some 42, .faddr 3 (.t 41), none⟩,
    ⟨some 43, .ld1 (.t 42), none⟩,
    ⟨some 44, .bini .neq (.t 43) (.c (.int .i64 (0))), none⟩]
def A_wire_Reader_span_7 : List AOper := [⟨some 2, .mov (.c (.int .i64 (0))), none⟩,
    ⟨some 3, .mov (.c (.int .i64 (0))), none⟩,
    ⟨some 4, .mov (.c (.bool false)), none⟩]
def A_wire_Reader_span_8 : List AOper := [⟨some 45, .mov (.t 0), none⟩,
    ⟨some 46, .nilc (.t 45), none⟩,
    ⟨some 47, .faddr 1 (.t 46), none⟩,
    ⟨some 48, .ld1 (.t 47), none⟩,
    ⟨some 7, .mov (.t 48), none⟩]
def A_wire_Reader_span_9 : List AOper := [⟨some 49, .mov (.t 0), none⟩,
    ⟨some 50, .nilc (.t 49), none⟩,
    ⟨some 51, .faddr 1 (.t 50), none⟩,
    ⟨some 52, .ld1 (.t 51), none⟩,
    ⟨some 53, .mov (.t 6), none⟩,
    ⟨some 54, .conv .i64 (.t 53), none⟩,
    ⟨some 55, .bini .add (.t 52) (.t 54), none⟩,
    ⟨some 56, .nilc (.t 49), none⟩,
    ⟨some 57, .faddr 1 (.t 56), none⟩,
    ⟨none, .st 1 (.t 57) (.t 55), none⟩]
def A_wire_Reader_span_10 : List AOper := [⟨some 58, .mov (.t 7), none⟩,
    ⟨some 59, .mov (.t 0), none⟩,
    ⟨some 60, .nilc (.t 59), none⟩,
    ⟨some 61, .faddr 1 (.t 60), none⟩,
    ⟨some 62, .ld1 (.t 61), none⟩,
    ⟨some 2, .mov (.t 58), none⟩,
    ⟨some 3, .mov (.t 62), none⟩,
    ⟨some 4, .mov (.c (.bool true)), none⟩]
def A_wire_Reader_span : ACode := (.seq (.ops A_wire_Reader_span_0) (.seq (.ops A_wire_Reader_span_1) (.seq (.ops A_wire_Reader_span_2) (.seq (.seq (.alts [14, 15, 16, 17, 18, 19, 20, 21, 22, 23, 24, 25, 26, 27, 28, 29, 30, 31, 32] [A_wire_Reader_span_3]) (.cond (.t 32) (.seq (.ops A_wire_Reader_span_4) (.ops A_wire_Reader_span_5)) .skip)) (.seq (.seq (.ops A_wire_Reader_span_6) (.cond (.t 44) (.seq (.ops A_wire_Reader_span_7) .ret) .skip)) (.seq (.ops A_wire_Reader_span_8) (.seq (.ops A_wire_Reader_span_9) (.seq (.alts [58, 59, 60, 61, 62, 2, 3, 4] [A_wire_Reader_span_10]) .ret))))))))
def R_wire_Reader_span : List ARes := [.tmp 2, .tmp 3, .tmp 4]
def T_wire_Reader_span : FC := ⟨63, A_wire_Reader_span, R_wire_Reader_span⟩

-- slices.AppendSeq[[]int32,int32]
abbrev F_slices_AppendSeq_int32_int32 : Nat := 191
def A_slices_AppendSeq_int32_int32_0 : List AOper := [⟨some 2, .box 206 1 (.t 0), none⟩,
    ⟨some 4, .mov (.c (.nils)), none⟩]
def A_slices_AppendSeq_int32_int32_1 : List AOper := [⟨some 8, .ld1 (.t 2), none⟩,
    ⟨some 9, .mov (.t 5), none⟩,
    ⟨some 10, .bslice 21 1 1 [.int .i32 (0)] [(0, 1, (.t 9))], none⟩,
    ⟨some 11, .app 21 1 4 (.t 8) (.t 10), none⟩,
    ⟨none, .st 1 (.t 2) (.t 11), none⟩]
def A_slices_AppendSeq_int32_int32_2 : List AOper := [⟨some 12, .ld1 (.t 2), none⟩,
    ⟨some 4, .mov (.t 12), none⟩]
def A_slices_AppendSeq_int32_int32 : ACode := (.seq (.ops A_slices_AppendSeq_int32_int32_0) (.seq (.seq (.ops [⟨some 6, .mov (.t 1), none⟩]) (.block 0 (.rngf (.t 6) [7] (.ops [⟨some 5, .mov (.t 7), none⟩]) (.block 1 (.ops A_slices_AppendSeq_int32_int32_1))))) (.seq (.ops A_slices_AppendSeq_int32_int32_2) .ret)))
def R_slices_AppendSeq_int32_int32 : List ARes := [.tmp 4]
def T_slices_AppendSeq_int32_int32 : FC := ⟨13, A_slices_AppendSeq_int32_int32, R_slices_AppendSeq_int32_int32⟩

-- slices.pdqsortOrdered[int32]
abbrev F_slices_pdqsortOrdered_int32 : Nat := 192
def A_slices_pdqsortOrdered_int32_0 : List AOper := [⟨some 19, .mov (.t 2), none⟩,
    ⟨some 20, .mov (.t 1), none⟩,
    ⟨some 21, .bini .sub (.t 19) (.t 20), none⟩,
    ⟨some 10, .mov (.t 21), none⟩]
def A_slices_pdqsortOrdered_int32_1 : List AOper := [⟨some 22, .mov (.t 10), none⟩,
    ⟨some 23, .bini .leq (.t 22) (.c (.int .i64 (12))), none⟩]
def A_slices_pdqsortOrdered_int32_2 : List AOper := [⟨some 24, .mov (.t 0), none⟩,
    ⟨some 25, .mov (.t 1), none⟩,
    ⟨some 26, .mov (.t 2), none⟩,
    ⟨some 27, .call 246 [(.t 24), (.t 25), (.t 26)], none⟩]
def A_slices_pdqsortOrdered_int32_3 : List AOper := [⟨some 28, .mov (.t 3), none⟩,
    ⟨some 29, .bini .eql (.t 28) (.c (.int .i64 (0))), none⟩]
def A_slices_pdqsortOrdered_int32_4 : List AOper := [⟨some 30, .mov (.t 0), none⟩,
    ⟨some 31, .mov (.t 1), none⟩,
    ⟨some 32, .mov (.t 2), none⟩,
    ⟨some 33, .call 247 [(.t 30), (.t 31), (.t 32)], none⟩]
def A_slices_pdqsortOrdered_int32_5 : List AOper := [⟨some 34, .mov (.t 8), none⟩,
    ⟨some 35, .not (.t 34), none⟩]
def A_slices_pdqsortOrdered_int32_6 : List AOper := [⟨some 36, .mov (.t 0), none⟩,
    ⟨some 37, .mov (.t 1), none⟩,
    ⟨some 38, .mov (.t 2), none⟩,
    ⟨some 39, .call 248 [(.t 36), (.t 37), (.t 38)], none⟩]
def A_slices_pdqsortOrdered_int32_7 : List AOper := [⟨some 40, .mov (.t 3), none⟩,
    ⟨some 41, .bini .sub (.t 40) (.c (.int .i64 (1))), none⟩,
    ⟨some 3, .mov (.t 41), none⟩]
def A_slices_pdqsortOrdered_int32_8 : List AOper := [⟨some 43, .mov (.t 0), none⟩,
    ⟨some 44, .mov (.t 1), none⟩,
    ⟨some 45, .mov (.t 2), none⟩,
    ⟨some 46, .call 249 [(.t 43), (.t 44), (.t 45)], none⟩,
    ⟨some 42, .mov (.t 46), none⟩,
    ⟨some 47, .ext 0 (.t 42), none⟩,
    ⟨some 48, .ext 1 (.t 42), none⟩,
    ⟨some 11, .mov (.t 47), none⟩,
    ⟨some 12, .mov (.t 48), none⟩]
def A_slices_pdqsortOrdered_int32_9 : List AOper := [⟨some 49, .mov (.t 12), none⟩,
    ⟨some 50, .bini .eql (.t 49) (.c (.int .i64 (2))), none⟩]
def A_slices_pdqsortOrdered_int32_10 : List AOper := [⟨some 51, .mov (.t 0), none⟩,
    ⟨some 52, .mov (.t 1), none⟩,
    ⟨some 53, .mov (.t 2), none⟩,
    ⟨some 54, .call 250 [(.t 51), (.t 52), (.t 53)], none⟩]
def A_slices_pdqsortOrdered_int32_11 : List AOper := [⟨some 55, .mov (.t 2), none⟩,
    ⟨some 56, .bini .sub (.t 55) (.c (.int .i64 (1))), none⟩,
    ⟨some 57, .mov (.t 11), none⟩,
    ⟨some 58, .mov (.t 1), none⟩,
    ⟨some 59, .bini .sub (.t 57) (.t 58), none⟩,
    ⟨some 60, .bini .sub (.t 56) (.t 59), none⟩,
    ⟨some 11, .mov (.t 60), none⟩]
def A_slices_pdqsortOrdered_int32_12 : List AOper := [⟨some 61, .mov (.t 8), none⟩,
    ⟨some 62, .mov (.t 61), none⟩,
    ⟨some 63, .mov (.t 9), some (62, true)⟩,
    ⟨some 64, .pick (.t 62) (.t 63) (.c (.bool false)), none⟩,
    ⟨some 65, .mov (.t 64), none⟩,
    ⟨some 66, .mov (.t 12), some (65, true)⟩,
    ⟨some 67, .bini .eql (.t 66) (.c (.int .i64 (1))), some (65, true)⟩,
    ⟨some 68, .pick (.t 65) (.t 67) (.c (.bool false)), none⟩]
def A_slices_pdqsortOrdered_int32_13 : List AOper := [⟨some 69, .mov (.t 0), none⟩,
    ⟨some 70, .mov (.t 1), none⟩,
    ⟨some 71, .mov (.t 2), none⟩,
    ⟨some 72, .call 251 [(.t 69), (.t 70), (.t 71)], none⟩]
def A_slices_pdqsortOrdered_int32_14 : List AOper := [⟨some 73, .mov (.t 1), none⟩,
    ⟨some 74, .bini .gtr (.t 73) (.c (.int .i64 (0))), none⟩,
    ⟨some 75, .mov (.t 74), none⟩,
    ⟨some 76, .mov (.t 0), some (75, true)⟩,
    ⟨some 77, .mov (.t 1), some (75, true)⟩,
    ⟨some 78, .bini .sub (.t 77) (.c (.int .i64 (1))), some (75, true)⟩,
    ⟨some 79, .iaddr 21 1 (.t 76) (.t 78), some (75, true)⟩,
    ⟨some 80, .ld1 (.t 79), some (75, true)⟩,
    ⟨some 81, .mov (.t 0), some (75, true)⟩,
    ⟨some 82, .mov (.t 11), some (75, true)⟩,
    ⟨some 83, .iaddr 21 1 (.t 81) (.t 82), some (75, true)⟩,
    ⟨some 84, .ld1 (.t 83), some (75, true)⟩,
    ⟨some 85, .call 252 [(.t 80), (.t 84)], some (75, true)⟩,
    ⟨some 86, .not (.t 85), some (75, true)⟩,
    ⟨some 87, .pick (.t 75) (.t 86) (.c (.bool false)), none⟩]
def A_slices_pdqsortOrdered_int32_15 : List AOper := [⟨some 88, .mov (.t 0), none⟩,
    ⟨some 89, .mov (.t 1), none⟩,
    ⟨some 90, .mov (.t 2), none⟩,
    ⟨some 91, .mov (.t 11), none⟩,
    ⟨some 92, .call 253 [(.t 88), (.t 89), (.t 90), (.t 91)], none⟩,
    ⟨some 13, .mov (.t 92), none⟩]
def A_slices_pdqsortOrdered_int32_16 : List AOper := [⟨some 93, .mov (.t 13), none⟩,
    ⟨some 1, .mov (.t 93), none⟩]
def A_slices_pdqsortOrdered_int32_17 : List AOper := [⟨some 95, .mov (.t 0), none⟩,
    ⟨some 96, .mov (.t 1), none⟩,
    ⟨some 97, .mov (.t 2), none⟩,
    ⟨some 98, .mov (.t 11), none⟩,
    ⟨some 99, .call 254 [(.t 95), (.t 96), (.t 97), (.t 98)], none⟩,
    ⟨some 94, .mov (.t 99), none⟩,
    ⟨some 100, .ext 0 (.t 94), none⟩,
    ⟨some 101, .ext 1 (.t 94), none⟩,
    ⟨some 14, .mov (.t 100), none⟩,
    ⟨some 15, .mov (.t 101), none⟩]
def A_slices_pdqsortOrdered_int32_18 : List AOper := [⟨some 102, .mov (.t 15), none⟩,
    ⟨some 9, .mov (.t 102), none⟩]
def A_slices_pdqsortOrdered_int32_19 : List AOper := [⟨some 103, .mov (.t 14), none⟩,
    ⟨some 104, .mov (.t 1), none⟩,
    ⟨some 105, .bini .sub (.t 103) (.t 104), none⟩,
    ⟨some 106, .mov (.t 2), none⟩,
    ⟨some 107, .mov (.t 14), none⟩,
    ⟨some 108, .bini .sub (.t 106) (.t 107), none⟩,
    ⟨some 16, .mov (.t 105), none⟩,
    ⟨some 17, .mov (.t 108), none⟩]
def A_slices_pdqsortOrdered_int32_20 : List AOper := [⟨some 109, .mov (.t 10), none⟩,
    ⟨some 110, .bini .quo (.t 109) (.c (.int .i64 (8))), none⟩,
    ⟨some 18, .mov (.t 110), none⟩]
def A_slices_pdqsortOrdered_int32_21 : List AOper := [⟨some 111, .mov (.t 16), none⟩,
    ⟨some 112, .mov (.t 17), none⟩,
    ⟨some 113, .bini .lss (.t 111) (.t 112), none⟩]
def A_slices_pdqsortOrdered_int32_22 : List AOper := [⟨some 114, .mov (.t 16), none⟩,
    ⟨some 115, .mov (.t 18), none⟩,
    ⟨some 116, .bini .geq (.t 114) (.t 115), none⟩,
    ⟨some 8, .mov (.t 116), none⟩]
def A_slices_pdqsortOrdered_int32_23 : List AOper := [⟨some 117, .mov (.t 0), none⟩,
    ⟨some 118, .mov (.t 1), none⟩,
    ⟨some 119, .mov (.t 14), none⟩,
    ⟨some 120, .mov (.t 3), none⟩,
    ⟨some 121, .call 192 [(.t 117), (.t 118), (.t 119), (.t 120)], none⟩]
def A_slices_pdqsortOrdered_int32_24 : List AOper := [⟨some 122, .mov (.t 14), none⟩,
    ⟨some 123, .bini .add (.t 122) (.c (.int .i64 (1))), none⟩,
    ⟨some 1, .mov (.t 123), none⟩]
def A_slices_pdqsortOrdered_int32_25 : List AOper := [⟨some 124, .mov (.t 17), none⟩,
    ⟨some 125, .mov (.t 18), none⟩,
    ⟨some 126, .bini .geq (.t 124) (.t 125), none⟩,
    ⟨some 8, .mov (.t 126), none⟩]
def A_slices_pdqsortOrdered_int32_26 : List AOper := [⟨some 127, .mov (.t 0), none⟩,
    ⟨some 128, .mov (.t 14), none⟩,
    ⟨some 129, .bini .add (.t 128) (.c (.int .i64 (1))), none⟩,
    ⟨some 130, .mov (.t 2), none⟩,
    ⟨some 131, .mov (.t 3), none⟩,
    ⟨some 132, .call 192 [(.t 127), (.t 129), (.t 130), (.t 131)], none⟩]
def A_slices_pdqsortOrdered_int32_27 : List AOper := [⟨some 133, .mov (.t 14), none⟩,
    ⟨some 2, .mov (.t 133), none⟩]
def A_slices_pdqsortOrdered_int32_28 : ACode := (.block 1 (.seq (.ops A_slices_pdqsortOrdered_int32_0) (.seq (.seq (.ops A_slices_pdqsortOrdered_int32_1) (.cond (.t 23) (.seq (.ops A_slices_pdqsortOrdered_int32_2) .ret) .skip)) (.seq (.seq (.ops A_slices_pdqsortOrdered_int32_3) (.cond (.t 29) (.seq (.ops A_slices_pdqsortOrdered_int32_4) .ret) .skip)) (.seq (.seq (.ops A_slices_pdqsortOrdered_int32_5) (.cond (.t 35) (.seq (.ops A_slices_pdqsortOrdered_int32_6) (.ops A_slices_pdqsortOrdered_int32_7)) .skip)) (.seq (.ops A_slices_pdqsortOrdered_int32_8) (.seq (.seq (.ops A_slices_pdqsortOrdered_int32_9) (.cond (.t 50) (.seq (.ops A_slices_pdqsortOrdered_int32_10) (.seq (.ops A_slices_pdqsortOrdered_int32_11) (.ops [⟨some 12, .mov (.c (.int .i64 (1))), none⟩]))) .skip)) (.seq (.seq (.ops A_slices_pdqsortOrdered_int32_12) (.cond (.t 68) (.seq (.ops A_slices_pdqsortOrdered_int32_13) (.cond (.t 72) .ret .skip)) .skip)) (.seq (.seq (.alts [73, 74, 75, 76, 77, 78, 79, 80, 81, 82, 83, 84, 85, 86, 87] [A_slices_pdqsortOrdered_int32_14]) (.cond (.t 87) (.seq (.ops A_slices_pdqsortOrdered_int32_15) (.seq (.ops A_slices_pdqsortOrdered_int32_16) (.exit 1))) .skip)) (.seq (.ops A_slices_pdqsortOrdered_int32_17) (.seq (.ops A_slices_pdqsortOrdered_int32_18) (.seq (.ops A_slices_pdqsortOrdered_int32_19) (.seq (.ops A_slices_pdqsortOrdered_int32_20) (.seq (.ops A_slices_pdqsortOrdered_int32_21) (.cond (.t 113) (.seq (.ops A_slices_pdqsortOrdered_int32_22) (.seq (.ops A_slices_pdqsortOrdered_int32_23) (.ops A_slices_pdqsortOrdered_int32_24))) (.seq (.ops A_slices_pdqsortOrdered_int32_25) (.seq (.ops A_slices_pdqsortOrdered_int32_26) (.ops A_slices_pdqsortOrdered_int32_27))))))))))))))))))
def A_slices_pdqsortOrdered_int32 : ACode := (.seq (.ops [⟨some 8, .mov (.c (.bool true)), none⟩]) (.seq (.ops [⟨some 9, .mov (.c (.bool true)), none⟩]) (.block 0 (.loop A_slices_pdqsortOrdered_int32_28))))
def R_slices_pdqsortOrdered_int32 : List ARes := []
def T_slices_pdqsortOrdered_int32 : FC := ⟨134, A_slices_pdqsortOrdered_int32, R_slices_pdqsortOrdered_int32⟩

-- strings.genSplit
abbrev F_strings_genSplit : Nat := 205
def A_strings_genSplit_0 : List AOper := [⟨some 12, .mov (.t 3), none⟩,
    ⟨some 13, .bini .eql (.t 12) (.c (.int .i64 (0))), none⟩]
def A_strings_genSplit_1 : List AOper := [⟨some 14, .mov (.t 1), none⟩,
    ⟨some 15, .bins .eql (.t 14) (.c (.str [])), none⟩]
def A_strings_genSplit_2 : List AOper := [⟨some 16, .mov (.t 0), none⟩,
    ⟨some 17, .mov (.t 3), none⟩,
    ⟨some 18, .call 258 [(.t 16), (.t 17)], none⟩,
    ⟨some 8, .mov (.t 18), none⟩]
def A_strings_genSplit_3 : List AOper := [⟨some 19, .mov (.t 3), none⟩,
    ⟨some 20, .bini .lss (.t 19) (.c (.int .i64 (0))), none⟩]
def A_strings_genSplit_4 : List AOper := [⟨some 21, .mov (.t 0), none⟩,
    ⟨some 22, .mov (.t 1), none⟩,
    ⟨some 23, .call 259 [(.t 21), (.t 22)], none⟩,
    ⟨some 24, .bini .add (.t 23) (.c (.int .i64 (1))), none⟩,
    ⟨some 3, .mov (.t 24), none⟩]
def A_strings_genSplit_5 : List AOper := [⟨some 25, .mov (.t 3), none⟩,
    ⟨some 26, .mov (.t 0), none⟩,
    ⟨some 27, .lens (.t 26), none⟩,
    ⟨some 28, .bini .add (.t 27) (.c (.int .i64 (1))), none⟩,
    ⟨some 29, .mn (.t 25) (.t 28), none⟩,
    ⟨some 3, .mov (.t 29), none⟩]
def A_strings_genSplit_6 : List AOper := [⟨some 30, .mov (.t 3), none⟩,
    ⟨some 31, .mkslice 9 1 16 [.str []] (.t 30) (.t 30), none⟩,
    ⟨some 9, .mov (.t 31), none⟩]
def A_strings_genSplit_7 : List AOper := [⟨some 32, .mov (.t 3), none⟩,
    ⟨some 33, .bini .sub (.t 32) (.c (.int .i64 (1))), none⟩,
    ⟨some 3, .mov (.t 33), none⟩]
def A_strings_genSplit_8 : List AOper := [⟨some 34, .mov (.t 10), none⟩,
    ⟨some 35, .mov (.t 3), none⟩,
    ⟨some 36, .bini .lss (.t 34) (.t 35), none⟩]
def A_strings_genSplit_9 : List AOper := [⟨some 37, .mov (.t 0), none⟩,
    ⟨some 38, .mov (.t 1), none⟩,
    ⟨some 39, .call 260 [(.t 37), (.t 38)], none⟩,
    ⟨some 11, .mov (.t 39), none⟩]
def A_strings_genSplit_10 : List AOper := [⟨some 40, .mov (.t 11), none⟩,
    ⟨some 41, .bini .lss (.t 40) (.c (.int .i64 (0))), none⟩]
def A_strings_genSplit_11 : List AOper := [⟨some 42, .mov (.t 9), none⟩,
    ⟨some 43, .mov (.t 10), none⟩,
    ⟨some 44, .mov (.t 0), none⟩,
    ⟨some 45, .mov (.t 11), none⟩,
    ⟨some 46, .mov (.t 2), none⟩,
    ⟨some 47, .bini .add (.t 45) (.t 46), none⟩,
    ⟨some 48, .slcs (.t 44) none (some (.t 47)), none⟩,
    ⟨some 49, .iaddr 9 1 (.t 42) (.t 43), none⟩,
    ⟨none, .st 1 (.t 49) (.t 48), none⟩]
def A_strings_genSplit_12 : List AOper := [⟨some 50, .mov (.t 0), none⟩,
    ⟨some 51, .mov (.t 11), none⟩,
    ⟨some 52, .mov (.t 1), none⟩,
    ⟨some 53, .lens (.t 52), none⟩,
    ⟨some 54, .bini .add (.t 51) (.t 53), none⟩,
    ⟨some 55, .slcs (.t 50) (some (.t 54)) none, none⟩,
    ⟨some 0, .mov (.t 55), none⟩]
def A_strings_genSplit_13 : List AOper := [⟨some 56, .mov (.t 10), none⟩,
    ⟨some 57, .bini .add (.t 56) (.c (.int .i64 (1))), none⟩,
    ⟨some 10, .mov (.t 57), none⟩]
def A_strings_genSplit_14 : ACode := (.seq (.seq (.ops A_strings_genSplit_8) (.cond (.t 36) .skip (.exit 0))) (.block 1 (.seq (.ops A_strings_genSplit_9) (.seq (.seq (.ops A_strings_genSplit_10) (.cond (.t 41) (.exit 0) .skip)) (.seq (.ops A_strings_genSplit_11) (.seq (.ops A_strings_genSplit_12) (.ops A_strings_genSplit_13)))))))
def A_strings_genSplit_15 : List AOper := [⟨some 58, .mov (.t 9), none⟩,
    ⟨some 59, .mov (.t 10), none⟩,
    ⟨some 60, .mov (.t 0), none⟩,
    ⟨some 61, .iaddr 9 1 (.t 58) (.t 59), none⟩,
    ⟨none, .st 1 (.t 61) (.t 60), none⟩]
def A_strings_genSplit_16 : List AOper := [⟨some 62, .mov (.t 9), none⟩,
    ⟨some 63, .mov (.t 10), none⟩,
    ⟨some 64, .bini .add (.t 63) (.c (.int .i64 (1))), none⟩,
    ⟨some 65, .slcl 9 1 (.t 62) none (some (.t 64)) none, none⟩,
    ⟨some 8, .mov (.t 65), none⟩]
def A_strings_genSplit : ACode := (.seq (.ops [⟨some 8, .mov (.c (.nils)), none⟩]) (.seq (.seq (.ops A_strings_genSplit_0) (.cond (.t 13) (.seq (.ops [⟨some 8, .mov (.c (.nils)), none⟩]) .ret) .skip)) (.seq (.seq (.ops A_strings_genSplit_1) (.cond (.t 15) (.seq (.ops A_strings_genSplit_2) .ret) .skip)) (.seq (.seq (.ops A_strings_genSplit_3) (.cond (.t 20) (.ops A_strings_genSplit_4) .skip)) (.seq (.ops A_strings_genSplit_5) (.seq (.ops A_strings_genSplit_6) (.seq (.ops A_strings_genSplit_7) (.seq (.ops [⟨some 10, .mov (.c (.int .i64 (0))), none⟩]) (.seq (.block 0 (.loop A_strings_genSplit_14)) (.seq (.ops A_strings_genSplit_15) (.seq (.ops A_strings_genSplit_16) .ret)))))))))))
def R_strings_genSplit : List ARes := [.tmp 8]
def T_strings_genSplit : FC := ⟨66, A_strings_genSplit, R_strings_genSplit⟩

-- lexicon/texts.digit
abbrev F_texts_digit : Nat := 206
def A_texts_digit_0 : List AOper := [⟨some 3, .mov (.t 0), none⟩,
    ⟨some 4, .bini .geq (.t 3) (.c (.int .u8 (48))), none⟩,
    ⟨some 5, .mov (.t 4), none⟩,
    ⟨some 6, .mov (.t 0), some (5, true)⟩,
    ⟨some 7, .bini .leq (.t 6) (.c (.int .u8 (57))), some (5, true)⟩,
    ⟨some 8, .pick (.t 5) (.t 7) (.c (.bool false)), none⟩,
    ⟨some 2, .mov (.t 8), none⟩]
def A_texts_digit : ACode := (.seq (.ops [⟨some 2, .mov (.c (.bool false)), none⟩]) (.seq (.ops A_texts_digit_0) .ret))
def R_texts_digit : List ARes := [.tmp 2]
def T_texts_digit : FC := ⟨9, A_texts_digit, R_texts_digit⟩

-- lexicon/texts.small
abbrev F_texts_small : Nat := 207
def A_texts_small_0 : List AOper := [⟨some 3, .mov (.t 0), none⟩,
    ⟨some 4, .bini .geq (.t 3) (.c (.int .u8 (97))), none⟩,
    ⟨some 5, .mov (.t 4), none⟩,
    ⟨some 6, .mov (.t 0), some (5, true)⟩,
    ⟨some 7, .bini .leq (.t 6) (.c (.int .u8 (122))), some (5, true)⟩,
    ⟨some 8, .pick (.t 5) (.t 7) (.c (.bool false)), none⟩,
    ⟨some 2, .mov (.t 8), none⟩]
def A_texts_small : ACode := (.seq (.ops [⟨some 2, .mov (.c (.bool false)), none⟩]) (.seq (.ops A_texts_small_0) .ret))
def R_texts_small : List ARes := [.tmp 2]
def T_texts_small : FC := ⟨9, A_texts_small, R_texts_small⟩

-- lexicon/texts.capital
abbrev F_texts_capital : Nat := 208
def A_texts_capital_0 : List AOper := [⟨some 3, .mov (.t 0), none⟩,
    ⟨some 4, .bini .geq (.t 3) (.c (.int .u8 (65))), none⟩,
    ⟨some 5, .mov (.t 4), none⟩,
    ⟨some 6, .mov (.t 0), some (5, true)⟩,
    ⟨some 7, .bini .leq (.t 6) (.c (.int .u8 (90))), some (5, true)⟩,
    ⟨some 8, .pick (.t 5) (.t 7) (.c (.bool false)), none⟩,
    ⟨some 2, .mov (.t 8), none⟩]
def A_texts_capital : ACode := (.seq (.ops [⟨some 2, .mov (.c (.bool false)), none⟩]) (.seq (.ops A_texts_capital_0) .ret))
def R_texts_capital : List ARes := [.tmp 2]
def T_texts_capital : FC := ⟨9, A_texts_capital, R_texts_capital⟩

-- lexicon/check.may
abbrev F_check_may : Nat := 209
def A_check_may_0 : List AOper := [⟨some 3, .mov (.t 0), none⟩,
    ⟨some 4, .bini .geq (.t 3) (.c (.int .i32 (1))), none⟩,
    ⟨some 5, .mov (.t 4), none⟩,
    ⟨some 6, .mov (.t 0), some (5, true)⟩,
    ⟨some 7, .bini .leq (.t 6) (.c (.int .i32 (536870911))), some (5, true)⟩,
    ⟨some 8, .pick (.t 5) (.t 7) (.c (.bool false)), none⟩,
    ⟨some 9, .mov (.t 8), none⟩,
    ⟨some 10, .mov (.t 0), some (9, true)⟩,
    ⟨some 11, .bini .lss (.t 10) (.c (.int .i32 (19000))), some (9, true)⟩,
    ⟨some 12, .mov (.t 11), some (9, true)⟩,
    ⟨some 13, .mov (.t 0), some (12, false)⟩,
    ⟨some 14, .bini .gtr (.t 13) (.c (.int .i32 (19999))), some (12, false)⟩,
    ⟨some 15, .pick (.t 12) (.c (.bool true)) (.t 14), some (9, true)⟩,
    ⟨some 16, .pick (.t 9) (.t 15) (.c (.bool false)), none⟩,
    ⟨some 2, .mov (.t 16), none⟩]
def A_check_may : ACode := (.seq (.ops [⟨some 2, .mov (.c (.bool false)), none⟩]) (.seq (.ops A_check_may_0) .ret))
def R_check_may : List ARes := [.tmp 2]
def T_check_may : FC := ⟨17, A_check_may, R_check_may⟩

-- (*lexicon/check.reader).field$1
abbrev F_check_reader_field_c1 : Nat := 210
def A_check_reader_field_c1_0 : List AOper := [⟨some 2, .box 68 9 (.t 0), none⟩,
    ⟨some 3, .mov (.c (.bool false)), none⟩]
def A_check_reader_field_c1_1 : List AOper := [⟨some 4, .faddr 1 (.t 2), none⟩,
    ⟨some 5, .ld1 (.t 4), none⟩,
    ⟨some 6, .faddr 1 (.t 1), none⟩,
    ⟨some 7, .ld1 (.t 6), none⟩,
    ⟨some 8, .bini .eql (.t 5) (.t 7), none⟩,
    ⟨some 3, .mov (.t 8), none⟩]
def A_check_reader_field_c1 : ACode := (.seq (.ops A_check_reader_field_c1_0) (.seq (.ops A_check_reader_field_c1_1) .ret))
def R_check_reader_field_c1 : List ARes := [.tmp 3]
def T_check_reader_field_c1 : FC := ⟨9, A_check_reader_field_c1, R_check_reader_field_c1⟩

-- lexicon/check.kind
abbrev F_check_kind : Nat := 211
def A_check_kind_0 : List AOper := [⟨some 3, .mov (.t 0), none⟩,
    ⟨some 4, .bini .geq (.t 3) (.c (.int .u8 (1))), none⟩,
    ⟨some 5, .mov (.t 4), none⟩,
    ⟨some 6, .mov (.t 0), some (5, true)⟩,
    ⟨some 7, .bini .leq (.t 6) (.c (.int .u8 (18))), some (5, true)⟩,
    ⟨some 8, .pick (.t 5) (.t 7) (.c (.bool false)), none⟩,
    ⟨some 9, .mov (.t 8), none⟩,
    ⟨some 10, .mov (.t 0), some (9, true)⟩,
    ⟨some 11, .bini .neq (.t 10) (.c (.int .u8 (10))), some (9, true)⟩,
    ⟨some 12, .pick (.t 9) (.t 11) (.c (.bool false)), none⟩,
    ⟨some 2, .mov (.t 12), none⟩]
def A_check_kind : ACode := (.seq (.ops [⟨some 2, .mov (.c (.bool false)), none⟩]) (.seq (.ops A_check_kind_0) .ret))
def R_check_kind : List ARes := [.tmp 2]
def T_check_kind : FC := ⟨13, A_check_kind, R_check_kind⟩

-- lexicon/check.named
abbrev F_check_named : Nat := 212
def A_check_named_0 : List AOper := [⟨some 3, .mov (.t 0), none⟩,
    ⟨some 4, .bini .eql (.t 3) (.c (.int .u8 (0))), none⟩,
    ⟨some 5, .mov (.t 4), none⟩,
    ⟨some 6, .mov (.t 0), some (5, false)⟩,
    ⟨some 7, .bini .eql (.t 6) (.c (.int .u8 (11))), some (5, false)⟩,
    ⟨some 8, .pick (.t 5) (.c (.bool true)) (.t 7), none⟩,
    ⟨some 9, .mov (.t 8), none⟩,
    ⟨some 10, .mov (.t 0), some (9, false)⟩,
    ⟨some 11, .bini .eql (.t 10) (.c (.int .u8 (14))), some (9, false)⟩,
    ⟨some 12, .pick (.t 9) (.c (.bool true)) (.t 11), none⟩,
    ⟨some 2, .mov (.t 12), none⟩]
def A_check_named : ACode := (.seq (.ops [⟨some 2, .mov (.c (.bool false)), none⟩]) (.seq (.ops A_check_named_0) .ret))
def R_check_named : List ARes := [.tmp 2]
def T_check_named : FC := ⟨13, A_check_named, R_check_named⟩

-- lexicon/check.reference
abbrev F_check_reference : Nat := 213
def A_check_reference_0 : List AOper := [⟨some 6, .mov (.t 0), none⟩,
    ⟨some 7, .call 228 [(.t 6), (.c (.str [46]))], none⟩,
    ⟨some 5, .mov (.t 7), none⟩,
    ⟨some 8, .ext 0 (.t 5), none⟩,
    ⟨some 9, .ext 1 (.t 5), none⟩,
    ⟨some 3, .mov (.t 8), none⟩,
    ⟨some 4, .mov (.t 9), none⟩]
def A_check_reference_1 : List AOper := [⟨some 11, .mov (.t 3), none⟩,
    ⟨some 12, .call 93 [(.t 11)], none⟩,
    ⟨some 13, .mov (.t 12), none⟩,
    ⟨some 14, .mov (.t 3), some (13, true)⟩,
    ⟨some 15, .lens (.t 14), some (13, true)⟩,
    ⟨some 16, .bini .lss (.t 15) (.c (.int .i64 (255))), some (13, true)⟩,
    ⟨some 17, .pick (.t 13) (.t 16) (.c (.bool false)), none⟩,
    ⟨some 2, .mov (.t 17), none⟩]
def A_check_reference_2 : List AOper := [⟨some 18, .mov (.t 0), none⟩,
    ⟨some 19, .call 93 [(.t 18)], none⟩,
    ⟨some 2, .mov (.t 19), none⟩]
def A_check_reference : ACode := (.seq (.ops [⟨some 2, .mov (.c (.bool false)), none⟩]) (.seq (.seq (.ops A_check_reference_0) (.seq (.ops [⟨some 10, .mov (.t 4), none⟩]) (.cond (.t 10) (.seq (.ops A_check_reference_1) .ret) .skip))) (.seq (.ops A_check_reference_2) .ret)))
def R_check_reference : List ARes := [.tmp 2]
def T_check_reference : FC := ⟨20, A_check_reference, R_check_reference⟩

-- lexicon/check.key
abbrev F_check_key : Nat := 214
def A_check_key_0 : List AOper := [⟨some 3, .mov (.t 0), none⟩,
    ⟨some 4, .call 211 [(.t 3)], none⟩,
    ⟨some 5, .mov (.t 4), none⟩,
    ⟨some 6, .mov (.t 0), some (5, true)⟩,
    ⟨some 7, .bini .neq (.t 6) (.c (.int .u8 (1))), some (5, true)⟩,
    ⟨some 8, .pick (.t 5) (.t 7) (.c (.bool false)), none⟩,
    ⟨some 9, .mov (.t 8), none⟩,
    ⟨some 10, .mov (.t 0), some (9, true)⟩,
    ⟨some 11, .bini .neq (.t 10) (.c (.int .u8 (2))), some (9, true)⟩,
    ⟨some 12, .pick (.t 9) (.t 11) (.c (.bool false)), none⟩,
    ⟨some 13, .mov (.t 12), none⟩,
    ⟨some 14, .mov (.t 0), some (13, true)⟩,
    ⟨some 15, .bini .neq (.t 14) (.c (.int .u8 (12))), some (13, true)⟩,
    ⟨some 16, .pick (.t 13) (.t 15) (.c (.bool false)), none⟩,
    ⟨some 17, .mov (.t 16), none⟩,
    ⟨some 18, .mov (.t 0), some (17, true)⟩,
    ⟨some 19, .bini .neq (.t 18) (.c (.int .u8 (11))), some (17, true)⟩,
    ⟨some 20, .pick (.t 17) (.t 19) (.c (.bool false)), none⟩,
    ⟨some 21, .mov (.t 20), none⟩,
    ⟨some 22, .mov (.t 0), some (21, true)⟩,
    ⟨some 23, .bini .neq (.t 22) (.c (.int .u8 (14))), some (21, true)⟩,
    ⟨some 24, .pick (.t 21) (.t 23) (.c (.bool false)), none⟩,
    ⟨some 2, .mov (.t 24), none⟩]
def A_check_key : ACode := (.seq (.ops [⟨some 2, .mov (.c (.bool false)), none⟩]) (.seq (.ops A_check_key_0) .ret))
def R_check_key : List ARes := [.tmp 2]
def T_check_key : FC := ⟨25, A_check_key, R_check_key⟩

-- lexicon/texts.Good[string]
abbrev F_texts_Good_string : Nat := 216
def A_texts_Good_string_0 : List AOper := [⟨some 7, .mov (.t 0), none⟩,
    ⟨some 8, .rngs (.t 7), none⟩]
def A_texts_Good_string_1 : List AOper := [⟨some 9, .nxs (.t 8), none⟩,
    ⟨some 10, .ext 0 (.t 9), none⟩]
def A_texts_Good_string_2 : List AOper := [⟨some 11, .ext 1 (.t 9), none⟩,
    ⟨some 12, .ext 2 (.t 9), none⟩,
    ⟨some 3, .mov (.t 11), none⟩,
    ⟨some 4, .mov (.t 12), none⟩]
def A_texts_Good_string_3 : List AOper := [⟨some 13, .mov (.t 4), none⟩,
    ⟨some 14, .bini .neq (.t 13) (.c (.int .i32 (65533))), none⟩]
def A_texts_Good_string_4 : List AOper := [⟨some 16, .mov (.t 0), none⟩,
    ⟨some 17, .mov (.t 3), none⟩,
    ⟨some 18, .slcs (.t 16) (some (.t 17)) none, none⟩,
    ⟨some 19, .call 261 [(.t 18)], none⟩,
    ⟨some 15, .mov (.t 19), none⟩,
    ⟨some 20, .ext 0 (.t 15), none⟩,
    ⟨some 21, .ext 1 (.t 15), none⟩,
    ⟨some 5, .mov (.t 20), none⟩,
    ⟨some 6, .mov (.t 21), none⟩]
def A_texts_Good_string_5 : List AOper := [⟨some 22, .mov (.t 6), none⟩,
    ⟨some 23, .bini .eql (.t 22) (.c (.int .i64 (1))), none⟩]
def A_texts_Good_string_6 : List AOper := [⟨some 24, .mov (.t 3), none⟩,
    ⟨some 2, .mov (.t 24), none⟩]
def A_texts_Good_string_7 : ACode := (.seq (.ops A_texts_Good_string_1) (.seq (.cond (.t 10) .skip (.exit 0)) (.block 1 (.seq (.ops A_texts_Good_string_2) (.seq (.seq (.ops A_texts_Good_string_3) (.cond (.t 14) (.exit 1) .skip)) (.seq (.ops A_texts_Good_string_4) (.seq (.ops A_texts_Good_string_5) (.cond (.t 23) (.seq (.ops A_texts_Good_string_6) .ret) .skip))))))))
def A_texts_Good_string : ACode := (.seq (.ops [⟨some 2, .mov (.c (.int .i64 (0))), none⟩]) (.seq (.seq (.ops A_texts_Good_string_0) (.block 0 (.loop A_texts_Good_string_7))) (.seq (.ops [⟨some 2, .mov (.c (.int .i64 (-1))), none⟩]) .ret)))
def R_texts_Good_string : List ARes := [.tmp 2]
def T_texts_Good_string : FC := ⟨25, A_texts_Good_string, R_texts_Good_string⟩

-- strings.Contains
abbrev F_strings_Contains : Nat := 217
def A_strings_Contains_0 : List AOper := [⟨some 5, .mov (.t 0), none⟩,
    ⟨some 6, .mov (.t 1), none⟩,
    ⟨some 7, .call 260 [(.t 5), (.t 6)], none⟩,
    ⟨some 8, .bini .geq (.t 7) (.c (.int .i64 (0))), none⟩,
    ⟨some 4, .mov (.t 8), none⟩]
def A_strings_Contains : ACode := (.seq (.ops [⟨some 4, .mov (.c (.bool false)), none⟩]) (.seq (.ops A_strings_Contains_0) .ret))
def R_strings_Contains : List ARes := [.tmp 4]
def T_strings_Contains : FC := ⟨9, A_strings_Contains, R_strings_Contains⟩

-- lexicon/check.json
abbrev F_check_json : Nat := 218
def A_check_json_0 : List AOper := [⟨some 1, .box 68 9 (.t 0), none⟩,
    ⟨some 2, .mov (.c (.str [])), none⟩]
def A_check_json_1 : List AOper := [⟨some 3, .faddr 8 (.t 1), none⟩,
    ⟨some 4, .ld1 (.t 3), none⟩,
    ⟨some 5, .bins .neq (.t 4) (.c (.str [])), none⟩]
def A_check_json_2 : List AOper := [⟨some 6, .faddr 8 (.t 1), none⟩,
    ⟨some 7, .ld1 (.t 6), none⟩,
    ⟨some 2, .mov (.t 7), none⟩]
def A_check_json_3 : List AOper := [⟨some 8, .faddr 0 (.t 1), none⟩,
    ⟨some 9, .ld1 (.t 8), none⟩,
    ⟨some 10, .call 262 [(.t 9)], none⟩,
    ⟨some 2, .mov (.t 10), none⟩]
def A_check_json : ACode := (.seq (.ops A_check_json_0) (.seq (.seq (.ops A_check_json_1) (.cond (.t 5) (.seq (.ops A_check_json_2) .ret) .skip)) (.seq (.ops A_check_json_3) .ret)))
def R_check_json : List ARes := [.tmp 2]
def T_check_json : FC := ⟨11, A_check_json, R_check_json⟩

-- slices.IndexFunc[[]lexicon/api.FieldDef,lexicon/api.FieldDef]
abbrev F_slices_IndexFunc_api_FieldDef_api_FieldDef : Nat := 219
def A_slices_IndexFunc_api_FieldDef_api_FieldDef_0 : List AOper := [⟨some 6, .mov (.t 0), none⟩,
    ⟨some 7, .lenl (.t 6), none⟩,
    ⟨some 8, .mov (.c (.int .i64 (0))), none⟩]
def A_slices_IndexFunc_api_FieldDef_api_FieldDef_1 : List AOper := [⟨some 10, .mov (.t 8), none⟩,
    ⟨some 5, .mov (.t 10), none⟩]
def A_slices_IndexFunc_api_FieldDef_api_FieldDef_2 : List AOper := [⟨some 11, .mov (.t 1), none⟩,
    ⟨some 12, .mov (.t 0), none⟩,
    ⟨some 13, .mov (.t 5), none⟩,
    ⟨some 14, .iaddr 68 9 (.t 12) (.t 13), none⟩,
    ⟨some 15, .lda 9 (.t 14), none⟩,
    ⟨some 16, .callv (.t 11) [(.t 15)], none⟩]
def A_slices_IndexFunc_api_FieldDef_api_FieldDef_3 : List AOper := [⟨some 17, .mov (.t 5), none⟩,
    ⟨some 4, .mov (.t 17), none⟩]
def A_slices_IndexFunc_api_FieldDef_api_FieldDef_4 : List AOper := [⟨some 18, .bini .add (.t 8) (.c (.int .i64 (1))), none⟩,
    ⟨some 8, .mov (.t 18), none⟩]
def A_slices_IndexFunc_api_FieldDef_api_FieldDef_5 : ACode := (.seq (.ops [⟨some 9, .bini .lss (.t 8) (.t 7), none⟩]) (.seq (.cond (.t 9) .skip (.exit 0)) (.seq (.block 1 (.seq (.ops A_slices_IndexFunc_api_FieldDef_api_FieldDef_1) (.seq (.ops A_slices_IndexFunc_api_FieldDef_api_FieldDef_2) (.cond (.t 16) (.seq (.ops A_slices_IndexFunc_api_FieldDef_api_FieldDef_3) .ret) .skip)))) (.ops A_slices_IndexFunc_api_FieldDef_api_FieldDef_4))))
def A_slices_IndexFunc_api_FieldDef_api_FieldDef : ACode := (.seq (.ops [⟨some 4, .mov (.c (.int .i64 (0))), none⟩]) (.seq (.seq (.ops A_slices_IndexFunc_api_FieldDef_api_FieldDef_0) (.block 0 (.loop A_slices_IndexFunc_api_FieldDef_api_FieldDef_5))) (.seq (.ops [⟨some 4, .mov (.c (.int .i64 (-1))), none⟩]) .ret)))
def R_slices_IndexFunc_api_FieldDef_api_FieldDef : List ARes := [.tmp 4]
def T_slices_IndexFunc_api_FieldDef_api_FieldDef : FC := ⟨19, A_slices_IndexFunc_api_FieldDef_api_FieldDef, R_slices_IndexFunc_api_FieldDef_api_FieldDef⟩

-- slices.ContainsFunc[[]lexicon/api.Span,lexicon/api.Span]
abbrev F_slices_ContainsFunc_api_Span_api_Span : Nat := 220
def A_slices_ContainsFunc_api_Span_api_Span_0 : List AOper := [⟨some 5, .mov (.t 0), none⟩,
    ⟨some 6, .mov (.t 1), none⟩,
    ⟨some 7, .call 263 [(.t 5), (.t 6)], none⟩,
    ⟨some 8, .bini .geq (.t 7) (.c (.int .i64 (0))), none⟩,
    ⟨some 4, .mov (.t 8), none⟩]
def A_slices_ContainsFunc_api_Span_api_Span : ACode := (.seq (.ops [⟨some 4, .mov (.c (.bool false)), none⟩]) (.seq (.ops A_slices_ContainsFunc_api_Span_api_Span_0) .ret))
def R_slices_ContainsFunc_api_Span_api_Span : List ARes := [.tmp 4]
def T_slices_ContainsFunc_api_Span_api_Span : FC := ⟨9, A_slices_ContainsFunc_api_Span_api_Span, R_slices_ContainsFunc_api_Span_api_Span⟩

-- internal/bytealg.LastIndexByteString
abbrev F_internal_bytealg_LastIndexByteString : Nat := 223
def A_internal_bytealg_LastIndexByteString_0 : List AOper := [⟨some 6, .mov (.t 0), none⟩,
    ⟨some 7, .lens (.t 6), none⟩,
    ⟨some 8, .bini .sub (.t 7) (.c (.int .i64 (1))), none⟩,
    ⟨some 5, .mov (.t 8), none⟩]
def A_internal_bytealg_LastIndexByteString_1 : List AOper := [⟨some 9, .mov (.t 5), none⟩,
    ⟨some 10, .bini .geq (.t 9) (.c (.int .i64 (0))), none⟩]
def A_internal_bytealg_LastIndexByteString_2 : List AOper := [⟨some 13, .mov (.t 0), none⟩,
    ⟨some 14, .mov (.t 5), none⟩,
    ⟨some 15, .idxs (.t 13) (.t 14), none⟩,
    ⟨some 16, .mov (.t 1), none⟩,
    ⟨some 17, .bini .eql (.t 15) (.t 16), none⟩]
def A_internal_bytealg_LastIndexByteString_3 : List AOper := [⟨some 18, .mov (.t 5), none⟩,
    ⟨some 4, .mov (.t 18), none⟩]
def A_internal_bytealg_LastIndexByteString_4 : List AOper := [⟨some 11, .mov (.t 5), none⟩,
    ⟨some 12, .bini .sub (.t 11) (.c (.int .i64 (1))), none⟩,
    ⟨some 5, .mov (.t 12), none⟩]
def A_internal_bytealg_LastIndexByteString_5 : ACode := (.seq (.seq (.ops A_internal_bytealg_LastIndexByteString_1) (.cond (.t 10) .skip (.exit 0))) (.seq (.block 1 (.seq (.ops A_internal_bytealg_LastIndexByteString_2) (.cond (.t 17) (.seq (.ops A_internal_bytealg_LastIndexByteString_3) .ret) .skip))) (.ops A_internal_bytealg_LastIndexByteString_4)))
def A_internal_bytealg_LastIndexByteString : ACode := (.seq (.ops [⟨some 4, .mov (.c (.int .i64 (0))), none⟩]) (.seq (.seq (.ops A_internal_bytealg_LastIndexByteString_0) (.block 0 (.loop A_internal_bytealg_LastIndexByteString_5))) (.seq (.ops [⟨some 4, .mov (.c (.int .i64 (-1))), none⟩]) .ret)))
def R_internal_bytealg_LastIndexByteString : List ARes := [.tmp 4]
def T_internal_bytealg_LastIndexByteString : FC := ⟨19, A_internal_bytealg_LastIndexByteString, R_internal_bytealg_LastIndexByteString⟩

-- (*strings.Builder).copyCheck
abbrev F_strings_Builder_copyCheck : Nat := 224
def A_strings_Builder_copyCheck_0 : List AOper := [⟨some 2, .mov (.t 0), none⟩,
    ⟨some 3, .nilc (.t 2), none⟩,
    ⟨some 4, .faddr 0 (.t 3), none⟩,
    ⟨some 5, .ld1 (.t 4), none⟩,
    ⟨some 6, .isnil .pt false (.t 5), none⟩]
def A_strings_Builder_copyCheck_1 : List AOper := [⟨some 7, .mov (.t 0), none⟩,
    ⟨some 8, .mov (.t 0), none⟩,
    ⟨some 9, .upc (.t 8), none⟩,
    ⟨some 10, .mov (.t 9), none⟩,
    ⟨some 11, .upt 293 (.t 10), none⟩,
    ⟨some 12, .nilc (.t 7), none⟩,
    ⟨some 13, .faddr 0 (.t 12), none⟩,
    ⟨none, .st 1 (.t 13) (.t 11), none⟩]
def A_strings_Builder_copyCheck_2 : List AOper := [⟨some 14, .mov (.t 0), none⟩,
    ⟨some 15, .nilc (.t 14), none⟩,
    ⟨some 16, .faddr 0 (.t 15), none⟩,
    ⟨some 17, .ld1 (.t 16), none⟩,
    ⟨some 18, .mov (.t 0), none⟩,
    ⟨some 19, .peq true (.t 17) (.t 18), none⟩]
def A_strings_Builder_copyCheck : ACode := (.seq (.ops A_strings_Builder_copyCheck_0) (.cond (.t 6) (.ops A_strings_Builder_copyCheck_1) (.seq (.ops A_strings_Builder_copyCheck_2) (.cond (.t 19) .bad .skip))))
def R_strings_Builder_copyCheck : List ARes := []
def T_strings_Builder_copyCheck : FC := ⟨20, A_strings_Builder_copyCheck, R_strings_Builder_copyCheck⟩

-- (*strings.Builder).grow
abbrev F_strings_Builder_grow : Nat := 225
def A_strings_Builder_grow_0 : List AOper := [⟨some 5, .mov (.t 0), none⟩,
    ⟨some 6, .nilc (.t 5), none⟩,
    ⟨some 7, .faddr 1 (.t 6), none⟩,
    ⟨some 8, .ld1 (.t 7), none⟩,
    ⟨some 9, .capk (.t 8), none⟩,
    ⟨some 10, .bini .mul (.c (.int .i64 (2))) (.t 9), none⟩,
    ⟨some 11, .mov (.t 1), none⟩,
    ⟨some 12, .bini .add (.t 10) (.t 11), none⟩,
    ⟨some 14, .mov (.t 0), none⟩,
    ⟨some 15, .nilc (.t 14), none⟩,
    ⟨some 16, .faddr 1 (.t 15), none⟩,
    ⟨some 17, .ld1 (.t 16), none⟩,
    ⟨some 18, .lenl (.t 17), none⟩,
    ⟨some 13, .mnz 5 (.t 12), none⟩,
    ⟨some 19, .slcl 5 1 (.t 13) none (some (.t 18)) none, none⟩,
    ⟨some 4, .mov (.t 19), none⟩]
def A_strings_Builder_grow_1 : List AOper := [⟨some 20, .mov (.t 4), none⟩,
    ⟨some 21, .mov (.t 0), none⟩,
    ⟨some 22, .nilc (.t 21), none⟩,
    ⟨some 23, .faddr 1 (.t 22), none⟩,
    ⟨some 24, .ld1 (.t 23), none⟩,
    ⟨some 25, .cpy 5 1 (.t 20) (.t 24), none⟩]
def A_strings_Builder_grow_2 : List AOper := [⟨some 26, .mov (.t 0), none⟩,
    ⟨some 27, .mov (.t 4), none⟩,
    ⟨some 28, .nilc (.t 26), none⟩,
    ⟨some 29, .faddr 1 (.t 28), none⟩,
    ⟨none, .st 1 (.t 29) (.t 27), none⟩]
def A_strings_Builder_grow : ACode := (.seq (.alts [5, 6, 7, 8, 9, 10, 11, 12, 13, 14, 15, 16, 17, 18, 19, 4] [A_strings_Builder_grow_0]) (.seq (.ops A_strings_Builder_grow_1) (.ops A_strings_Builder_grow_2)))
def R_strings_Builder_grow : List ARes := []
def T_strings_Builder_grow : FC := ⟨30, A_strings_Builder_grow, R_strings_Builder_grow⟩

-- maps.Keys[map[string]bool,string,bool]$1
abbrev F_maps_Keys_map_string_bool_string_bool_c1 : Nat := 227
def A_maps_Keys_map_string_bool_string_bool_c1_0 : List AOper := [⟨some 4, .ld1 (.t 1), none⟩,
    ⟨some 5, .rngm (.t 4), none⟩]
def A_maps_Keys_map_string_bool_string_bool_c1_1 : List AOper := [⟨some 6, .nxm (.t 5), none⟩,
    ⟨some 7, .ext 0 (.t 6), none⟩]
def A_maps_Keys_map_string_bool_string_bool_c1_2 : List AOper := [⟨some 8, .entr (.t 5), none⟩,
    ⟨some 9, .ext 0 (.t 8), none⟩,
    ⟨some 3, .mov (.t 9), none⟩]
def A_maps_Keys_map_string_bool_string_bool_c1_3 : List AOper := [⟨some 10, .mov (.t 0), none⟩,
    ⟨some 11, .mov (.t 3), none⟩,
    ⟨some 12, .callv (.t 10) [(.t 11)], none⟩,
    ⟨some 13, .not (.t 12), none⟩]
def A_maps_Keys_map_string_bool_string_bool_c1_4 : ACode := (.seq (.ops A_maps_Keys_map_string_bool_string_bool_c1_1) (.seq (.cond (.t 7) .skip (.exit 0)) (.block 1 (.seq (.ops A_maps_Keys_map_string_bool_string_bool_c1_2) (.seq (.ops A_maps_Keys_map_string_bool_string_bool_c1_3) (.cond (.t 13) .ret .skip))))))
def A_maps_Keys_map_string_bool_string_bool_c1 : ACode := (.seq (.ops A_maps_Keys_map_string_bool_string_bool_c1_0) (.block 0 (.loop A_maps_Keys_map_string_bool_string_bool_c1_4)))
def R_maps_Keys_map_string_bool_string_bool_c1 : List ARes := []
def T_maps_Keys_map_string_bool_string_bool_c1 : FC := ⟨14, A_maps_Keys_map_string_bool_string_bool_c1, R_maps_Keys_map_string_bool_string_bool_c1⟩

-- strings.CutPrefix
abbrev F_strings_CutPrefix : Nat := 228
def A_strings_CutPrefix_0 : List AOper := [⟨some 4, .mov (.c (.str [])), none⟩,
    ⟨some 5, .mov (.c (.bool false)), none⟩]
def A_strings_CutPrefix_1 : List AOper := [⟨some 6, .mov (.t 0), none⟩,
    ⟨some 7, .mov (.t 1), none⟩,
    ⟨some 8, .call 267 [(.t 6), (.t 7)], none⟩,
    ⟨some 9, .ext 0 (.t 8), none⟩,
    ⟨some 10, .ext 1 (.t 8), none⟩,
    ⟨some 4, .mov (.t 9), none⟩,
    ⟨some 5, .mov (.t 10), none⟩]
def A_strings_CutPrefix : ACode := (.seq (.ops A_strings_CutPrefix_0) (.seq (.ops A_strings_CutPrefix_1) .ret))
def R_strings_CutPrefix : List ARes := [.tmp 4, .tmp 5]
def T_strings_CutPrefix : FC := ⟨11, A_strings_CutPrefix, R_strings_CutPrefix⟩

-- strings.Cut
abbrev F_strings_Cut : Nat := 229
def A_strings_Cut_0 : List AOper := [⟨some 4, .mov (.c (.str [])), none⟩,
    ⟨some 5, .mov (.c (.str [])), none⟩,
    ⟨some 6, .mov (.c (.bool false)), none⟩]
def A_strings_Cut_1 : List AOper := [⟨some 7, .mov (.t 0), none⟩,
    ⟨some 8, .mov (.t 1), none⟩,
    ⟨some 9, .call 268 [(.t 7), (.t 8)], none⟩,
    ⟨some 10, .ext 0 (.t 9), none⟩,
    ⟨some 11, .ext 1 (.t 9), none⟩,
    ⟨some 12, .ext 2 (.t 9), none⟩,
    ⟨some 4, .mov (.t 10), none⟩,
    ⟨some 5, .mov (.t 11), none⟩,
    ⟨some 6, .mov (.t 12), none⟩]
def A_strings_Cut : ACode := (.seq (.ops A_strings_Cut_0) (.seq (.ops A_strings_Cut_1) .ret))
def R_strings_Cut : List ARes := [.tmp 4, .tmp 5, .tmp 6]
def T_strings_Cut : FC := ⟨13, A_strings_Cut, R_strings_Cut⟩

-- lexicon/wire.Check
abbrev F_wire_Check : Nat := 234
def A_wire_Check_0 : List AOper := [⟨some 4, .mov (.c (.int .i64 (0))), none⟩,
    ⟨some 5, .mov (.c (.int .i64 (0))), none⟩]
def A_wire_Check_1 : List AOper := [⟨some 12, .mov (.t 0), none⟩,
    ⟨some 13, .call 36 [(.t 12)], none⟩,
    ⟨some 6, .mov (.t 13), none⟩]
def A_wire_Check_2 : List AOper := [⟨some 14, .mov (.t 6), none⟩,
    ⟨some 15, .call 73 [(.t 14)], none⟩,
    ⟨some 16, .bini .gtr (.t 15) (.c (.int .i64 (0))), none⟩]
def A_wire_Check_3 : List AOper := [⟨some 17, .mov (.t 6), none⟩,
    ⟨some 18, .call 79 [(.t 17)], none⟩,
    ⟨some 7, .mov (.t 18), none⟩]
def A_wire_Check_4 : List AOper := [⟨some 20, .mov (.t 6), none⟩,
    ⟨some 21, .call 129 [(.t 20)], none⟩,
    ⟨some 19, .mov (.t 21), none⟩,
    ⟨some 22, .ext 0 (.t 19), none⟩,
    ⟨some 23, .ext 1 (.t 19), none⟩,
    ⟨some 8, .mov (.t 22), none⟩,
    ⟨some 9, .mov (.t 23), none⟩]
def A_wire_Check_5 : List AOper := [⟨some 25, .mov (.t 6), none⟩,
    ⟨some 26, .call 132 [(.t 25)], none⟩,
    ⟨some 24, .mov (.t 26), none⟩,
    ⟨some 27, .ext 0 (.t 24), none⟩,
    ⟨some 28, .ext 1 (.t 24), none⟩,
    ⟨some 10, .mov (.t 27), none⟩,
    ⟨some 11, .mov (.t 28), none⟩]
def A_wire_Check_6 : List AOper := [⟨some 29, .mov (.t 10), none⟩,
    ⟨some 30, .bini .eql (.t 29) (.c (.int .i64 (0))), none⟩,
    ⟨some 31, .mov (.t 30), none⟩,
    ⟨some 32, .mov (.t 9), some (31, true)⟩,
    ⟨some 33, .bini .eql (.t 32) (.c (.int .u8 (4))), some (31, true)⟩,
    ⟨some 34, .pick (.t 31) (.t 33) (.c (.bool false)), none⟩]
def A_wire_Check_7 : List AOper := [⟨some 35, .mov (.t 7), none⟩,
    ⟨some 4, .mov (.c (.int .i64 (13))), none⟩,
    ⟨some 5, .mov (.t 35), none⟩]
def A_wire_Check_8 : List AOper := [⟨some 36, .mov (.t 6), none⟩,
    ⟨some 37, .mov (.t 8), none⟩,
    ⟨some 38, .mov (.t 9), none⟩,
    ⟨some 39, .mov (.t 1), none⟩,
    ⟨some 40, .call 77 [(.t 36), (.t 37), (.t 38), (.t 39)], none⟩]
def A_wire_Check_9 : ACode := (.seq (.seq (.ops A_wire_Check_2) (.cond (.t 16) .skip (.exit 0))) (.block 1 (.seq (.ops A_wire_Check_3) (.seq (.ops A_wire_Check_4) (.seq (.seq (.ops A_wire_Check_5) (.seq (.ops A_wire_Check_6) (.cond (.t 34) (.seq (.ops A_wire_Check_7) .ret) .skip))) (.ops A_wire_Check_8))))))
def A_wire_Check_10 : List AOper := [⟨some 41, .mov (.t 6), none⟩,
    ⟨some 42, .call 132 [(.t 41)], none⟩,
    ⟨some 43, .ext 0 (.t 42), none⟩,
    ⟨some 44, .ext 1 (.t 42), none⟩,
    ⟨some 4, .mov (.t 43), none⟩,
    ⟨some 5, .mov (.t 44), none⟩]
def A_wire_Check : ACode := (.seq (.ops A_wire_Check_0) (.seq (.ops A_wire_Check_1) (.seq (.block 0 (.loop A_wire_Check_9)) (.seq (.ops A_wire_Check_10) .ret))))
def R_wire_Check : List ARes := [.tmp 4, .tmp 5]
def T_wire_Check : FC := ⟨45, A_wire_Check, R_wire_Check⟩

-- lexicon/wire.Fields
abbrev F_wire_Fields : Nat := 235
def A_wire_Fields_0 : List AOper := [⟨some 3, .box 3 1 (.t 1), none⟩,
    ⟨some 4, .mov (.c (.nilf)), none⟩]
def A_wire_Fields_1 : List AOper := [⟨some 6, .mov (.t 0), none⟩,
    ⟨some 7, .call 69 [(.t 6)], none⟩,
    ⟨some 5, .box 38 1 (.c (.nils)), none⟩,
    ⟨none, .st 1 (.t 5) (.t 7), none⟩]
def A_wire_Fields_2 : List AOper := [⟨some 8, .mkfn 271 [] [(.t 5), (.t 3)], none⟩,
    ⟨some 4, .mov (.t 8), none⟩]
def A_wire_Fields : ACode := (.seq (.ops A_wire_Fields_0) (.seq (.ops A_wire_Fields_1) (.seq (.ops A_wire_Fields_2) .ret)))
def R_wire_Fields : List ARes := [.tmp 4]
def T_wire_Fields : FC := ⟨9, A_wire_Fields, R_wire_Fields⟩

-- slices.insertionSortOrdered[int32]
abbrev F_slices_insertionSortOrdered_int32 : Nat := 246
def A_slices_insertionSortOrdered_int32_0 : List AOper := [⟨some 8, .mov (.t 1), none⟩,
    ⟨some 9, .bini .add (.t 8) (.c (.int .i64 (1))), none⟩,
    ⟨some 6, .mov (.t 9), none⟩]
def A_slices_insertionSortOrdered_int32_1 : List AOper := [⟨some 10, .mov (.t 6), none⟩,
    ⟨some 11, .mov (.t 2), none⟩,
    ⟨some 12, .bini .lss (.t 10) (.t 11), none⟩]
def A_slices_insertionSortOrdered_int32_2 : List AOper := [⟨some 15, .mov (.t 6), none⟩,
    ⟨some 7, .mov (.t 15), none⟩]
def A_slices_insertionSortOrdered_int32_3 : List AOper := [⟨some 16, .mov (.t 7), none⟩,
    ⟨some 17, .mov (.t 1), none⟩,
    ⟨some 18, .bini .gtr (.t 16) (.t 17), none⟩,
    ⟨some 19, .mov (.t 18), none⟩,
    ⟨some 20, .mov (.t 0), some (19, true)⟩,
    ⟨some 21, .mov (.t 7), some (19, true)⟩,
    ⟨some 22, .iaddr 21 1 (.t 20) (.t 21), some (19, true)⟩,
    ⟨some 23, .ld1 (.t 22), some (19, true)⟩,
    ⟨some 24, .mov (.t 0), some (19, true)⟩,
    ⟨some 25, .mov (.t 7), some (19, true)⟩,
    ⟨some 26, .bini .sub (.t 25) (.c (.int .i64 (1))), some (19, true)⟩,
    ⟨some 27, .iaddr 21 1 (.t 24) (.t 26), some (19, true)⟩,
    ⟨some 28, .ld1 (.t 27), some (19, true)⟩,
    ⟨some 29, .call 252 [(.t 23), (.t 28)], some (19, true)⟩,
    ⟨some 30, .pick (.t 19) (.t 29) (.c (.bool false)), none⟩]
def A_slices_insertionSortOrdered_int32_4 : List AOper := [⟨some 33, .mov (.t 0), none⟩,
    ⟨some 34, .mov (.t 7), none⟩,
    ⟨some 35, .mov (.t 0), none⟩,
    ⟨some 36, .mov (.t 7), none⟩,
    ⟨some 37, .bini .sub (.t 36) (.c (.int .i64 (1))), none⟩,
    ⟨some 38, .mov (.t 0), none⟩,
    ⟨some 39, .mov (.t 7), none⟩,
    ⟨some 40, .bini .sub (.t 39) (.c (.int .i64 (1))), none⟩,
    ⟨some 41, .iaddr 21 1 (.t 38) (.t 40), none⟩,
    ⟨some 42, .ld1 (.t 41), none⟩,
    ⟨some 43, .mov (.t 0), none⟩,
    ⟨some 44, .mov (.t 7), none⟩,
    ⟨some 45, .iaddr 21 1 (.t 43) (.t 44), none⟩,
    ⟨some 46, .ld1 (.t 45), none⟩,
    ⟨some 47, .iaddr 21 1 (.t 33) (.t 34), none⟩,
    ⟨none, .st 1 (.t 47) (.t 42), none⟩,
    ⟨some 48, .iaddr 21 1 (.t 35) (.t 37), none⟩,
    ⟨none, .st 1 (.t 48) (.t 46), none⟩]
def A_slices_insertionSortOrdered_int32_5 : List AOper := [⟨some 31, .mov (.t 7), none⟩,
    ⟨some 32, .bini .sub (.t 31) (.c (.int .i64 (1))), none⟩,
    ⟨some 7, .mov (.t 32), none⟩]
def A_slices_insertionSortOrdered_int32_6 : ACode := (.seq (.seq (.alts [16, 17, 18, 19, 20, 21, 22, 23, 24, 25, 26, 27, 28, 29, 30] [A_slices_insertionSortOrdered_int32_3]) (.cond (.t 30) .skip (.exit 2))) (.seq (.block 3 (.alts [33, 34, 35, 36, 37, 38, 39, 40, 41, 42, 43, 44, 45, 46, 47, 48] [A_slices_insertionSortOrdered_int32_4])) (.ops A_slices_insertionSortOrdered_int32_5)))
def A_slices_insertionSortOrdered_int32_7 : List AOper := [⟨some 13, .mov (.t 6), none⟩,
    ⟨some 14, .bini .add (.t 13) (.c (.int .i64 (1))), none⟩,
    ⟨some 6, .mov (.t 14), none⟩]
def A_slices_insertionSortOrdered_int32_8 : ACode := (.seq (.seq (.ops A_slices_insertionSortOrdered_int32_1) (.cond (.t 12) .skip (.exit 0))) (.seq (.block 1 (.seq (.ops A_slices_insertionSortOrdered_int32_2) (.block 2 (.loop A_slices_insertionSortOrdered_int32_6)))) (.ops A_slices_insertionSortOrdered_int32_7)))
def A_slices_insertionSortOrdered_int32 : ACode := (.seq (.ops A_slices_insertionSortOrdered_int32_0) (.block 0 (.loop A_slices_insertionSortOrdered_int32_8)))
def R_slices_insertionSortOrdered_int32 : List ARes := []
def T_slices_insertionSortOrdered_int32 : FC := ⟨49, A_slices_insertionSortOrdered_int32, R_slices_insertionSortOrdered_int32⟩

-- cmp.Less[int32]
abbrev F_cmp_Less_int32 : Nat := 252
def A_cmp_Less_int32_0 : List AOper := [⟨some 5, .mov (.t 0), none⟩,
    ⟨some 6, .call 290 [(.t 5)], none⟩,
    ⟨some 7, .mov (.t 6), none⟩,
    ⟨some 8, .mov (.t 1), some (7, true)⟩,
    ⟨some 9, .call 290 [(.t 8)], some (7, true)⟩,
    ⟨some 10, .not (.t 9), some (7, true)⟩,
    ⟨some 11, .pick (.t 7) (.t 10) (.c (.bool false)), none⟩,
    ⟨some 12, .mov (.t 11), none⟩,
    ⟨some 13, .mov (.t 0), some (12, false)⟩,
    ⟨some 14, .mov (.t 1), some (12, false)⟩,
    ⟨some 15, .bini .lss (.t 13) (.t 14), some (12, false)⟩,
    ⟨some 16, .pick (.t 12) (.c (.bool true)) (.t 15), none⟩,
    ⟨some 4, .mov (.t 16), none⟩]
def A_cmp_Less_int32 : ACode := (.seq (.ops [⟨some 4, .mov (.c (.bool false)), none⟩]) (.seq (.ops A_cmp_Less_int32_0) .ret))
def R_cmp_Less_int32 : List ARes := [.tmp 4]
def T_cmp_Less_int32 : FC := ⟨17, A_cmp_Less_int32, R_cmp_Less_int32⟩

-- strings.Count
abbrev F_strings_Count : Nat := 259
def A_strings_Count_0 : List AOper := [⟨some 7, .mov (.t 1), none⟩,
    ⟨some 8, .lens (.t 7), none⟩,
    ⟨some 9, .bini .eql (.t 8) (.c (.int .i64 (0))), none⟩]
def A_strings_Count_1 : List AOper := [⟨some 10, .mov (.t 0), none⟩,
    ⟨some 11, .call 292 [(.t 10)], none⟩,
    ⟨some 12, .bini .add (.t 11) (.c (.int .i64 (1))), none⟩,
    ⟨some 4, .mov (.t 12), none⟩]
def A_strings_Count_2 : List AOper := [⟨some 13, .mov (.t 1), none⟩,
    ⟨some 14, .lens (.t 13), none⟩,
    ⟨some 15, .bini .eql (.t 14) (.c (.int .i64 (1))), none⟩]
def A_strings_Count_3 : List AOper := [⟨some 16, .mov (.t 0), none⟩,
    ⟨some 17, .mov (.t 1), none⟩,
    ⟨some 18, .idxs (.t 17) (.c (.int .i64 (0))), none⟩,
    ⟨some 19, .xcount (.t 16) (.t 18), none⟩,
    ⟨some 4, .mov (.t 19), none⟩]
def A_strings_Count_4 : List AOper := [⟨some 20, .mov (.t 0), none⟩,
    ⟨some 21, .mov (.t 1), none⟩,
    ⟨some 22, .call 260 [(.t 20), (.t 21)], none⟩,
    ⟨some 6, .mov (.t 22), none⟩]
def A_strings_Count_5 : List AOper := [⟨some 23, .mov (.t 6), none⟩,
    ⟨some 24, .bini .eql (.t 23) (.c (.int .i64 (-1))), none⟩]
def A_strings_Count_6 : List AOper := [⟨some 25, .mov (.t 5), none⟩,
    ⟨some 4, .mov (.t 25), none⟩]
def A_strings_Count_7 : List AOper := [⟨some 26, .mov (.t 5), none⟩,
    ⟨some 27, .bini .add (.t 26) (.c (.int .i64 (1))), none⟩,
    ⟨some 5, .mov (.t 27), none⟩]
def A_strings_Count_8 : List AOper := [⟨some 28, .mov (.t 0), none⟩,
    ⟨some 29, .mov (.t 6), none⟩,
    ⟨some 30, .mov (.t 1), none⟩,
    ⟨some 31, .lens (.t 30), none⟩,
    ⟨some 32, .bini .add (.t 29) (.t 31), none⟩,
    ⟨some 33, .slcs (.t 28) (some (.t 32)) none, none⟩,
    ⟨some 0, .mov (.t 33), none⟩]
def A_strings_Count_9 : ACode := (.block 1 (.seq (.ops A_strings_Count_4) (.seq (.seq (.ops A_strings_Count_5) (.cond (.t 24) (.seq (.ops A_strings_Count_6) .ret) .skip)) (.seq (.ops A_strings_Count_7) (.ops A_strings_Count_8)))))
def A_strings_Count : ACode := (.seq (.ops [⟨some 4, .mov (.c (.int .i64 (0))), none⟩]) (.seq (.seq (.ops A_strings_Count_0) (.cond (.t 9) (.seq (.ops A_strings_Count_1) .ret) .skip)) (.seq (.seq (.ops A_strings_Count_2) (.cond (.t 15) (.seq (.ops A_strings_Count_3) .ret) .skip)) (.seq (.ops [⟨some 5, .mov (.c (.int .i64 (0))), none⟩]) (.block 0 (.loop A_strings_Count_9))))))
def R_strings_Count : List ARes := [.tmp 4]
def T_strings_Count : FC := ⟨34, A_strings_Count, R_strings_Count⟩

-- strings.Index
abbrev F_strings_Index : Nat := 260
def A_strings_Index_0 : List AOper := [⟨some 5, .mov (.t 0), none⟩,
    ⟨some 6, .mov (.t 1), none⟩,
    ⟨some 7, .call 294 [(.t 5), (.t 6)], none⟩,
    ⟨some 4, .mov (.t 7), none⟩]
def A_strings_Index : ACode := (.seq (.ops [⟨some 4, .mov (.c (.int .i64 (0))), none⟩]) (.seq (.ops A_strings_Index_0) .ret))
def R_strings_Index : List ARes := [.tmp 4]
def T_strings_Index : FC := ⟨8, A_strings_Index, R_strings_Index⟩

-- lexicon/texts.Camel
abbrev F_texts_Camel : Nat := 262
def A_texts_Camel_0 : List AOper := [⟨some 7, .mov (.t 0), none⟩,
    ⟨some 8, .lens (.t 7), none⟩,
    ⟨some 9, .mov (.c (.int .i64 (0))), none⟩]
def A_texts_Camel_1 : List AOper := [⟨some 11, .mov (.t 9), none⟩,
    ⟨some 5, .mov (.t 11), none⟩]
def A_texts_Camel_2 : List AOper := [⟨some 12, .mov (.t 0), none⟩,
    ⟨some 13, .mov (.t 5), none⟩,
    ⟨some 14, .idxs (.t 12) (.t 13), none⟩,
    ⟨some 6, .mov (.t 14), none⟩]
def A_texts_Camel_3 : List AOper := [⟨some 15, .mov (.t 6), none⟩,
    ⟨some 16, .bini .eql (.t 15) (.c (.int .u8 (95))), none⟩]
def A_texts_Camel_4 : List AOper := [⟨some 17, .mov (.t 4), none⟩,
    ⟨some 18, .mov (.t 17), none⟩,
    ⟨some 19, .mov (.t 6), some (18, true)⟩,
    ⟨some 20, .call 207 [(.t 19)], some (18, true)⟩,
    ⟨some 21, .pick (.t 18) (.t 20) (.c (.bool false)), none⟩]
def A_texts_Camel_5 : List AOper := [⟨some 22, .mov (.t 6), none⟩,
    ⟨some 23, .bini .sub (.t 22) (.c (.int .u8 (32))), none⟩,
    ⟨some 6, .mov (.t 23), none⟩]
def A_texts_Camel_6 : List AOper := [⟨some 24, .mov (.t 6), none⟩,
    ⟨some 25, .call 296 [(.t 3), (.t 24)], none⟩]
def A_texts_Camel_7 : List AOper := [⟨some 26, .bini .add (.t 9) (.c (.int .i64 (1))), none⟩,
    ⟨some 9, .mov (.t 26), none⟩]
def A_texts_Camel_8 : ACode := (.seq (.ops [⟨some 10, .bini .lss (.t 9) (.t 8), none⟩]) (.seq (.cond (.t 10) .skip (.exit 0)) (.seq (.block 1 (.seq (.ops A_texts_Camel_1) (.seq (.ops A_texts_Camel_2) (.seq (.seq (.ops A_texts_Camel_3) (.cond (.t 16) (.seq (.ops [⟨some 4, .mov (.c (.bool true)), none⟩]) (.exit 1)) .skip)) (.seq (.seq (.ops A_texts_Camel_4) (.cond (.t 21) (.ops A_texts_Camel_5) .skip)) (.seq (.ops A_texts_Camel_6) (.ops [⟨some 4, .mov (.c (.bool false)), none⟩]))))))) (.ops A_texts_Camel_7))))
def A_texts_Camel_9 : List AOper := [⟨some 27, .call 157 [(.t 3)], none⟩,
    ⟨some 2, .mov (.t 27), none⟩]
def A_texts_Camel : ACode := (.seq (.ops [⟨some 2, .mov (.c (.str [])), none⟩]) (.seq (.ops [⟨some 3, .box 293 2 (.c (.agg [.nilp, .nils])), none⟩]) (.seq (.ops [⟨some 4, .mov (.c (.bool false)), none⟩]) (.seq (.seq (.ops A_texts_Camel_0) (.block 0 (.loop A_texts_Camel_8))) (.seq (.ops A_texts_Camel_9) .ret)))))
def R_texts_Camel : List ARes := [.tmp 2]
def T_texts_Camel : FC := ⟨28, A_texts_Camel, R_texts_Camel⟩

-- slices.IndexFunc[[]lexicon/api.Span,lexicon/api.Span]
abbrev F_slices_IndexFunc_api_Span_api_Span : Nat := 263
def A_slices_IndexFunc_api_Span_api_Span_0 : List AOper := [⟨some 6, .mov (.t 0), none⟩,
    ⟨some 7, .lenl (.t 6), none⟩,
    ⟨some 8, .mov (.c (.int .i64 (0))), none⟩]
def A_slices_IndexFunc_api_Span_api_Span_1 : List AOper := [⟨some 10, .mov (.t 8), none⟩,
    ⟨some 5, .mov (.t 10), none⟩]
def A_slices_IndexFunc_api_Span_api_Span_2 : List AOper := [⟨some 11, .mov (.t 1), none⟩,
    ⟨some 12, .mov (.t 0), none⟩,
    ⟨some 13, .mov (.t 5), none⟩,
    ⟨some 14, .iaddr 277 2 (.t 12) (.t 13), none⟩,
    ⟨some 15, .lda 2 (.t 14), none⟩,
    ⟨some 16, .callv (.t 11) [(.t 15)], none⟩]
def A_slices_IndexFunc_api_Span_api_Span_3 : List AOper := [⟨some 17, .mov (.t 5), none⟩,
    ⟨some 4, .mov (.t 17), none⟩]
def A_slices_IndexFunc_api_Span_api_Span_4 : List AOper := [⟨some 18, .bini .add (.t 8) (.c (.int .i64 (1))), none⟩,
    ⟨some 8, .mov (.t 18), none⟩]
def A_slices_IndexFunc_api_Span_api_Span_5 : ACode := (.seq (.ops [⟨some 9, .bini .lss (.t 8) (.t 7), none⟩]) (.seq (.cond (.t 9) .skip (.exit 0)) (.seq (.block 1 (.seq (.ops A_slices_IndexFunc_api_Span_api_Span_1) (.seq (.ops A_slices_IndexFunc_api_Span_api_Span_2) (.cond (.t 16) (.seq (.ops A_slices_IndexFunc_api_Span_api_Span_3) .ret) .skip)))) (.ops A_slices_IndexFunc_api_Span_api_Span_4))))
def A_slices_IndexFunc_api_Span_api_Span : ACode := (.seq (.ops [⟨some 4, .mov (.c (.int .i64 (0))), none⟩]) (.seq (.seq (.ops A_slices_IndexFunc_api_Span_api_Span_0) (.block 0 (.loop A_slices_IndexFunc_api_Span_api_Span_5))) (.seq (.ops [⟨some 4, .mov (.c (.int .i64 (-1))), none⟩]) .ret)))
def R_slices_IndexFunc_api_Span_api_Span : List ARes := [.tmp 4]
def T_slices_IndexFunc_api_Span_api_Span : FC := ⟨19, A_slices_IndexFunc_api_Span_api_Span, R_slices_IndexFunc_api_Span_api_Span⟩

-- internal/stringslite.CutPrefix
abbrev F_internal_stringslite_CutPrefix : Nat := 267
def A_internal_stringslite_CutPrefix_0 : List AOper := [⟨some 4, .mov (.c (.str [])), none⟩,
    ⟨some 5, .mov (.c (.bool false)), none⟩]
def A_internal_stringslite_CutPrefix_1 : List AOper := [⟨some 6, .mov (.t 0), none⟩,
    ⟨some 7, .mov (.t 1), none⟩,
    ⟨some 8, .call 269 [(.t 6), (.t 7)], none⟩,
    ⟨some 9, .not (.t 8), none⟩]
def A_internal_stringslite_CutPrefix_2 : List AOper := [⟨some 10, .mov (.t 0), none⟩,
    ⟨some 4, .mov (.t 10), none⟩,
    ⟨some 5, .mov (.c (.bool false)), none⟩]
def A_internal_stringslite_CutPrefix_3 : List AOper := [⟨some 11, .mov (.t 0), none⟩,
    ⟨some 12, .mov (.t 1), none⟩,
    ⟨some 13, .lens (.t 12), none⟩,
    ⟨some 14, .slcs (.t 11) (some (.t 13)) none, none⟩,
    ⟨some 4, .mov (.t 14), none⟩,
    ⟨some 5, .mov (.c (.bool true)), none⟩]
def A_internal_stringslite_CutPrefix : ACode := (.seq (.ops A_internal_stringslite_CutPrefix_0) (.seq (.seq (.ops A_internal_stringslite_CutPrefix_1) (.cond (.t 9) (.seq (.ops A_internal_stringslite_CutPrefix_2) .ret) .skip)) (.seq (.ops A_internal_stringslite_CutPrefix_3) .ret)))
def R_internal_stringslite_CutPrefix : List ARes := [.tmp 4, .tmp 5]
def T_internal_stringslite_CutPrefix : FC := ⟨15, A_internal_stringslite_CutPrefix, R_internal_stringslite_CutPrefix⟩

-- internal/stringslite.Cut
abbrev F_internal_stringslite_Cut : Nat := 268
def A_internal_stringslite_Cut_0 : List AOper := [⟨some 4, .mov (.c (.str [])), none⟩,
    ⟨some 5, .mov (.c (.str [])), none⟩,
    ⟨some 6, .mov (.c (.bool false)), none⟩]
def A_internal_stringslite_Cut_1 : List AOper := [⟨some 8, .mov (.t 0), none⟩,
    ⟨some 9, .mov (.t 1), none⟩,
    ⟨some 10, .call 294 [(.t 8), (.t 9)], none⟩,
    ⟨some 7, .mov (.t 10), none⟩]
def A_internal_stringslite_Cut_2 : List AOper := [⟨some 11, .mov (.t 7), none⟩,
    ⟨some 12, .bini .geq (.t 11) (.c (.int .i64 (0))), none⟩]
def A_internal_stringslite_Cut_3 : List AOper := [⟨some 13, .mov (.t 0), none⟩,
    ⟨some 14, .mov (.t 7), none⟩,
    ⟨some 15, .slcs (.t 13) none (some (.t 14)), none⟩,
    ⟨some 16, .mov (.t 0), none⟩,
    ⟨some 17, .mov (.t 7), none⟩,
    ⟨some 18, .mov (.t 1), none⟩,
    ⟨some 19, .lens (.t 18), none⟩,
    ⟨some 20, .bini .add (.t 17) (.t 19), none⟩,
    ⟨some 21, .slcs (.t 16) (some (.t 20)) none, none⟩,
    ⟨some 4, .mov (.t 15), none⟩,
    ⟨some 5, .mov (.t 21), none⟩,
    ⟨some 6, .mov (.c (.bool true)), none⟩]
def A_internal_stringslite_Cut_4 : List AOper := [⟨some 22, .mov (.t 0), none⟩,
    ⟨some 4, .mov (.t 22), none⟩,
    ⟨some 5, .mov (.c (.str [])), none⟩,
    ⟨some 6, .mov (.c (.bool false)), none⟩]
def A_internal_stringslite_Cut : ACode := (.seq (.ops A_internal_stringslite_Cut_0) (.seq (.seq (.ops A_internal_stringslite_Cut_1) (.seq (.ops A_internal_stringslite_Cut_2) (.cond (.t 12) (.seq (.alts [13, 14, 15, 16, 17, 18, 19, 20, 21, 4, 5, 6] [A_internal_stringslite_Cut_3]) .ret) .skip))) (.seq (.ops A_internal_stringslite_Cut_4) .ret)))
def R_internal_stringslite_Cut : List ARes := [.tmp 4, .tmp 5, .tmp 6]
def T_internal_stringslite_Cut : FC := ⟨23, A_internal_stringslite_Cut, R_internal_stringslite_Cut⟩

-- internal/stringslite.HasPrefix
abbrev F_internal_stringslite_HasPrefix : Nat := 269
def A_internal_stringslite_HasPrefix_0 : List AOper := [⟨some 5, .mov (.t 0), none⟩,
    ⟨some 6, .lens (.t 5), none⟩,
    ⟨some 7, .mov (.t 1), none⟩,
    ⟨some 8, .lens (.t 7), none⟩,
    ⟨some 9, .bini .geq (.t 6) (.t 8), none⟩,
    ⟨some 10, .mov (.t 9), none⟩,
    ⟨some 11, .mov (.t 0), some (10, true)⟩,
    ⟨some 12, .mov (.t 1), some (10, true)⟩,
    ⟨some 13, .lens (.t 12), some (10, true)⟩,
    ⟨some 14, .slcs (.t 11) none (some (.t 13)), some (10, true)⟩,
    ⟨some 15, .mov (.t 1), some (10, true)⟩,
    ⟨some 16, .bins .eql (.t 14) (.t 15), some (10, true)⟩,
    ⟨some 17, .pick (.t 10) (.t 16) (.c (.bool false)), none⟩,
    ⟨some 4, .mov (.t 17), none⟩]
def A_internal_stringslite_HasPrefix : ACode := (.seq (.ops [⟨some 4, .mov (.c (.bool false)), none⟩]) (.seq (.ops A_internal_stringslite_HasPrefix_0) .ret))
def R_internal_stringslite_HasPrefix : List ARes := [.tmp 4]
def T_internal_stringslite_HasPrefix : FC := ⟨18, A_internal_stringslite_HasPrefix, R_internal_stringslite_HasPrefix⟩

-- lexicon/wire.Fields$1
abbrev F_wire_Fields_c1 : Nat := 271
def A_wire_Fields_c1_0 : List AOper := [⟨some 7, .ld1 (.t 1), none⟩,
    ⟨some 8, .call 36 [(.t 7)], none⟩,
    ⟨some 4, .mov (.t 8), none⟩]
def A_wire_Fields_c1_1 : List AOper := [⟨some 9, .mov (.t 4), none⟩,
    ⟨some 10, .call 73 [(.t 9)], none⟩,
    ⟨some 11, .bini .gtr (.t 10) (.c (.int .i64 (0))), none⟩]
def A_wire_Fields_c1_2 : List AOper := [⟨some 13, .mov (.t 4), none⟩,
    ⟨some 14, .ld1 (.t 2), none⟩,
    ⟨some 15, .call 272 [(.t 13), (.t 14)], none⟩,
    ⟨some 12, .mov (.t 15), none⟩,
    ⟨some 16, .ext 0 (.t 12), none⟩,
    ⟨some 17, .ext 1 (.t 12), none⟩,
    ⟨some 5, .box 367 5 (.c (.agg [.int .i32 (0), .int .u8 (0), .int .i64 (0), .int .u64 (0), .nils])), none⟩,
    ⟨none, .st 5 (.t 5) (.t 16), none⟩,
    ⟨some 6, .mov (.t 17), none⟩]
def A_wire_Fields_c1_3 : List AOper := [⟨some 18, .mov (.t 6), none⟩,
    ⟨some 19, .not (.t 18), none⟩,
    ⟨some 20, .mov (.t 19), none⟩,
    ⟨some 21, .mov (.t 0), some (20, false)⟩,
    ⟨some 22, .lda 5 (.t 5), some (20, false)⟩,
    ⟨some 23, .callv (.t 21) [(.t 22)], some (20, false)⟩,
    ⟨some 24, .not (.t 23), some (20, false)⟩,
    ⟨some 25, .pick (.t 20) (.c (.bool true)) (.t 24), none⟩]
def A_wire_Fields_c1_4 : ACode := (.seq (.seq (.ops A_wire_Fields_c1_1) (.cond (.t 11) .skip (.exit 0))) (.block 1 (.seq (.ops A_wire_Fields_c1_2) (.seq (.ops A_wire_Fields_c1_3) (.cond (.t 25) .ret .skip)))))
def A_wire_Fields_c1 : ACode := (.seq (.ops A_wire_Fields_c1_0) (.block 0 (.loop A_wire_Fields_c1_4)))
def R_wire_Fields_c1 : List ARes := []
def T_wire_Fields_c1 : FC := ⟨26, A_wire_Fields_c1, R_wire_Fields_c1⟩

-- cmp.isNaN[int32]
abbrev F_cmp_isNaN_int32 : Nat := 290
def A_cmp_isNaN_int32_0 : List AOper := [⟨some 3, .mov (.t 0), none⟩,
    ⟨some 4, .mov (.t 0), none⟩,
    ⟨some 5, .bini .neq (.t 3) (.t 4), none⟩,
    ⟨some 2, .mov (.t 5), none⟩]
def A_cmp_isNaN_int32 : ACode := (.seq (.ops [⟨some 2, .mov (.c (.bool false)), none⟩]) (.seq (.ops A_cmp_isNaN_int32_0) .ret))
def R_cmp_isNaN_int32 : List ARes := [.tmp 2]
def T_cmp_isNaN_int32 : FC := ⟨6, A_cmp_isNaN_int32, R_cmp_isNaN_int32⟩

-- internal/stringslite.Index
abbrev F_internal_stringslite_Index : Nat := 294
def A_internal_stringslite_Index_0 : List AOper := [⟨some 14, .mov (.t 1), none⟩,
    ⟨some 15, .lens (.t 14), none⟩,
    ⟨some 5, .mov (.t 15), none⟩]
def A_internal_stringslite_Index_1 : List AOper := [⟨some 17, .mov (.t 5), none⟩,
    ⟨some 18, .bini .eql (.t 17) (.c (.int .i64 (0))), none⟩,
    ⟨some 19, .mov (.t 18), none⟩,
    ⟨some 20, .mov (.t 1), some (19, false)⟩,
    ⟨some 21, .mov (.t 0), some (19, false)⟩,
    ⟨some 22, .bins .eql (.t 20) (.t 21), some (19, false)⟩,
    ⟨some 23, .pick (.t 19) (.c (.bool true)) (.t 22), none⟩,
    ⟨some 16, .mov (.t 23), none⟩]
def A_internal_stringslite_Index_2 : List AOper := [⟨some 25, .mov (.t 5), none⟩,
    ⟨some 26, .bini .eql (.t 25) (.c (.int .i64 (1))), none⟩,
    ⟨some 24, .mov (.t 26), none⟩]
def A_internal_stringslite_Index_3 : List AOper := [⟨some 27, .mov (.t 0), none⟩,
    ⟨some 28, .mov (.t 1), none⟩,
    ⟨some 29, .idxs (.t 28) (.c (.int .i64 (0))), none⟩,
    ⟨some 30, .call 307 [(.t 27), (.t 29)], none⟩,
    ⟨some 4, .mov (.t 30), none⟩]
def A_internal_stringslite_Index_4 : List AOper := [⟨some 32, .mov (.t 5), none⟩,
    ⟨some 33, .mov (.t 0), none⟩,
    ⟨some 34, .lens (.t 33), none⟩,
    ⟨some 35, .bini .geq (.t 32) (.t 34), none⟩,
    ⟨some 31, .mov (.t 35), none⟩]
def A_internal_stringslite_Index_5 : List AOper := [⟨some 37, .mov (.t 5), none⟩,
    ⟨some 38, .bad, none⟩,
    ⟨some 39, .bini .leq (.t 37) (.t 38), none⟩,
    ⟨some 40, .mov (.t 39), none⟩,
    ⟨some 41, .mov (.t 0), some (40, true)⟩,
    ⟨some 42, .lens (.t 41), some (40, true)⟩,
    ⟨some 43, .bini .leq (.t 42) (.c (.int .i64 (64))), some (40, true)⟩,
    ⟨some 44, .pick (.t 40) (.t 43) (.c (.bool false)), none⟩,
    ⟨some 36, .mov (.t 44), none⟩]
def A_internal_stringslite_Index_6 : List AOper := [⟨some 45, .mov (.t 0), none⟩,
    ⟨some 46, .mov (.t 1), none⟩,
    ⟨some 47, .bad, none⟩,
    ⟨some 4, .mov (.t 47), none⟩]
def A_internal_stringslite_Index_7 : List AOper := [⟨some 48, .mov (.t 1), none⟩,
    ⟨some 49, .idxs (.t 48) (.c (.int .i64 (0))), none⟩,
    ⟨some 6, .mov (.t 49), none⟩]
def A_internal_stringslite_Index_8 : List AOper := [⟨some 50, .mov (.t 1), none⟩,
    ⟨some 51, .idxs (.t 50) (.c (.int .i64 (1))), none⟩,
    ⟨some 7, .mov (.t 51), none⟩]
def A_internal_stringslite_Index_9 : List AOper := [⟨some 52, .mov (.t 0), none⟩,
    ⟨some 53, .lens (.t 52), none⟩,
    ⟨some 54, .mov (.t 5), none⟩,
    ⟨some 55, .bini .sub (.t 53) (.t 54), none⟩,
    ⟨some 56, .bini .add (.t 55) (.c (.int .i64 (1))), none⟩,
    ⟨some 9, .mov (.t 56), none⟩]
def A_internal_stringslite_Index_10 : List AOper := [⟨some 57, .mov (.t 8), none⟩,
    ⟨some 58, .mov (.t 9), none⟩,
    ⟨some 59, .bini .lss (.t 57) (.t 58), none⟩]
def A_internal_stringslite_Index_11 : List AOper := [⟨some 60, .mov (.t 0), none⟩,
    ⟨some 61, .mov (.t 8), none⟩,
    ⟨some 62, .idxs (.t 60) (.t 61), none⟩,
    ⟨some 63, .mov (.t 6), none⟩,
    ⟨some 64, .bini .neq (.t 62) (.t 63), none⟩]
def A_internal_stringslite_Index_12 : List AOper := [⟨some 65, .mov (.t 0), none⟩,
    ⟨some 66, .mov (.t 8), none⟩,
    ⟨some 67, .bini .add (.t 66) (.c (.int .i64 (1))), none⟩,
    ⟨some 68, .mov (.t 9), none⟩,
    ⟨some 69, .slcs (.t 65) (some (.t 67)) (some (.t 68)), none⟩,
    ⟨some 70, .mov (.t 6), none⟩,
    ⟨some 71, .call 307 [(.t 69), (.t 70)], none⟩,
    ⟨some 11, .mov (.t 71), none⟩]
def A_internal_stringslite_Index_13 : List AOper := [⟨some 72, .mov (.t 11), none⟩,
    ⟨some 73, .bini .lss (.t 72) (.c (.int .i64 (0))), none⟩]
def A_internal_stringslite_Index_14 : List AOper := [⟨some 74, .mov (.t 8), none⟩,
    ⟨some 75, .mov (.t 11), none⟩,
    ⟨some 76, .bini .add (.t 75) (.c (.int .i64 (1))), none⟩,
    ⟨some 77, .bini .add (.t 74) (.t 76), none⟩,
    ⟨some 8, .mov (.t 77), none⟩]
def A_internal_stringslite_Index_15 : List AOper := [⟨some 78, .mov (.t 0), none⟩,
    ⟨some 79, .mov (.t 8), none⟩,
    ⟨some 80, .bini .add (.t 79) (.c (.int .i64 (1))), none⟩,
    ⟨some 81, .idxs (.t 78) (.t 80), none⟩,
    ⟨some 82, .mov (.t 7), none⟩,
    ⟨some 83, .bini .eql (.t 81) (.t 82), none⟩,
    ⟨some 84, .mov (.t 83), none⟩,
    ⟨some 85, .mov (.t 0), some (84, true)⟩,
    ⟨some 86, .mov (.t 8), some (84, true)⟩,
    ⟨some 87, .mov (.t 8), some (84, true)⟩,
    ⟨some 88, .mov (.t 5), some (84, true)⟩,
    ⟨some 89, .bini .add (.t 87) (.t 88), some (84, true)⟩,
    ⟨some 90, .slcs (.t 85) (some (.t 86)) (some (.t 89)), some (84, true)⟩,
    ⟨some 91, .mov (.t 1), some (84, true)⟩,
    ⟨some 92, .bins .eql (.t 90) (.t 91), some (84, true)⟩,
    ⟨some 93, .pick (.t 84) (.t 92) (.c (.bool false)), none⟩]
def A_internal_stringslite_Index_16 : List AOper := [⟨some 94, .mov (.t 8), none⟩,
    ⟨some 4, .mov (.t 94), none⟩]
def A_internal_stringslite_Index_17 : List AOper := [⟨some 95, .mov (.t 8), none⟩,
    ⟨some 96, .bini .add (.t 95) (.c (.int .i64 (1))), none⟩,
    ⟨some 8, .mov (.t 96), none⟩]
def A_internal_stringslite_Index_18 : List AOper := [⟨some 97, .mov (.t 10), none⟩,
    ⟨some 98, .bini .add (.t 97) (.c (.int .i64 (1))), none⟩,
    ⟨some 10, .mov (.t 98), none⟩]
def A_internal_stringslite_Index_19 : List AOper := [⟨some 99, .mov (.t 5), none⟩,
    ⟨some 100, .bad, none⟩,
    ⟨some 101, .bini .leq (.t 99) (.t 100), none⟩,
    ⟨some 102, .mov (.t 101), none⟩,
    ⟨some 103, .mov (.t 10), some (102, true)⟩,
    ⟨some 104, .mov (.t 8), some (102, true)⟩,
    ⟨some 105, .call 309 [(.t 104)], some (102, true)⟩,
    ⟨some 106, .bini .gtr (.t 103) (.t 105), some (102, true)⟩,
    ⟨some 107, .pick (.t 102) (.t 106) (.c (.bool false)), none⟩]
def A_internal_stringslite_Index_20 : List AOper := [⟨some 108, .mov (.t 0), none⟩,
    ⟨some 109, .mov (.t 8), none⟩,
    ⟨some 110, .slcs (.t 108) (some (.t 109)) none, none⟩,
    ⟨some 111, .mov (.t 1), none⟩,
    ⟨some 112, .bad, none⟩,
    ⟨some 12, .mov (.t 112), none⟩]
def A_internal_stringslite_Index_21 : List AOper := [⟨some 113, .mov (.t 12), none⟩,
    ⟨some 114, .bini .geq (.t 113) (.c (.int .i64 (0))), none⟩]
def A_internal_stringslite_Index_22 : List AOper := [⟨some 115, .mov (.t 12), none⟩,
    ⟨some 116, .mov (.t 8), none⟩,
    ⟨some 117, .bini .add (.t 115) (.t 116), none⟩,
    ⟨some 4, .mov (.t 117), none⟩]
def A_internal_stringslite_Index_23 : List AOper := [⟨some 118, .mov (.t 5), none⟩,
    ⟨some 119, .bad, none⟩,
    ⟨some 120, .bini .gtr (.t 118) (.t 119), none⟩,
    ⟨some 121, .mov (.t 120), none⟩,
    ⟨some 122, .mov (.t 10), some (121, true)⟩,
    ⟨some 123, .mov (.t 8), some (121, true)⟩,
    ⟨some 124, .bini .shr (.t 123) (.c (.int .u64 (4))), some (121, true)⟩,
    ⟨some 125, .bini .add (.c (.int .i64 (4))) (.t 124), some (121, true)⟩,
    ⟨some 126, .bini .geq (.t 122) (.t 125), some (121, true)⟩,
    ⟨some 127, .pick (.t 121) (.t 126) (.c (.bool false)), none⟩,
    ⟨some 128, .mov (.t 127), none⟩,
    ⟨some 129, .mov (.t 8), some (128, true)⟩,
    ⟨some 130, .mov (.t 9), some (128, true)⟩,
    ⟨some 131, .bini .lss (.t 129) (.t 130), some (128, true)⟩,
    ⟨some 132, .pick (.t 128) (.t 131) (.c (.bool false)), none⟩]
def A_internal_stringslite_Index_24 : List AOper := [⟨some 133, .mov (.t 0), none⟩,
    ⟨some 134, .mov (.t 8), none⟩,
    ⟨some 135, .slcs (.t 133) (some (.t 134)) none, none⟩,
    ⟨some 136, .mov (.t 1), none⟩,
    ⟨some 137, .call 310 [(.t 135), (.t 136)], none⟩,
    ⟨some 13, .mov (.t 137), none⟩]
def A_internal_stringslite_Index_25 : List AOper := [⟨some 138, .mov (.t 13), none⟩,
    ⟨some 139, .bini .lss (.t 138) (.c (.int .i64 (0))), none⟩]
def A_internal_stringslite_Index_26 : List AOper := [⟨some 140, .mov (.t 8), none⟩,
    ⟨some 141, .mov (.t 13), none⟩,
    ⟨some 142, .bini .add (.t 140) (.t 141), none⟩,
    ⟨some 4, .mov (.t 142), none⟩]
def A_internal_stringslite_Index_27 : ACode := (.seq (.seq (.ops A_internal_stringslite_Index_10) (.cond (.t 59) .skip (.exit 1))) (.block 2 (.seq (.seq (.ops A_internal_stringslite_Index_11) (.cond (.t 64) (.seq (.ops A_internal_stringslite_Index_12) (.seq (.seq (.ops A_internal_stringslite_Index_13) (.cond (.t 73) (.seq (.ops [⟨some 4, .mov (.c (.int .i64 (-1))), none⟩]) .ret) .skip)) (.ops A_internal_stringslite_Index_14))) .skip)) (.seq (.seq (.ops A_internal_stringslite_Index_15) (.cond (.t 93) (.seq (.ops A_internal_stringslite_Index_16) .ret) .skip)) (.seq (.ops A_internal_stringslite_Index_17) (.seq (.ops A_internal_stringslite_Index_18) (.seq (.ops A_internal_stringslite_Index_19) (.cond (.t 107) (.seq (.ops A_internal_stringslite_Index_20) (.seq (.seq (.ops A_internal_stringslite_Index_21) (.cond (.t 114) (.seq (.ops A_internal_stringslite_Index_22) .ret) .skip)) (.seq (.ops [⟨some 4, .mov (.c (.int .i64 (-1))), none⟩]) .ret))) (.seq (.ops A_internal_stringslite_Index_23) (.cond (.t 132) (.seq (.ops A_internal_stringslite_Index_24) (.seq (.seq (.ops A_internal_stringslite_Index_25) (.cond (.t 139) (.seq (.ops [⟨some 4, .mov (.c (.int .i64 (-1))), none⟩]) .ret) .skip)) (.seq (.ops A_internal_stringslite_Index_26) .ret))) .skip))))))))))
def A_internal_stringslite_Index : ACode := (.seq (.ops [⟨some 4, .mov (.c (.int .i64 (0))), none⟩]) (.seq (.ops A_internal_stringslite_Index_0) (.seq (.block 0 (.seq (.ops A_internal_stringslite_Index_1) (.cond (.t 16) (.seq (.ops [⟨some 4, .mov (.c (.int .i64 (0))), none⟩]) .ret) (.seq (.ops A_internal_stringslite_Index_2) (.cond (.t 24) (.seq (.ops A_internal_stringslite_Index_3) .ret) (.seq (.ops A_internal_stringslite_Index_4) (.cond (.t 31) (.seq (.ops [⟨some 4, .mov (.c (.int .i64 (-1))), none⟩]) .ret) (.seq (.ops A_internal_stringslite_Index_5) (.cond (.t 36) (.seq (.ops A_internal_stringslite_Index_6) .ret) .skip))))))))) (.seq (.ops A_internal_stringslite_Index_7) (.seq (.ops A_internal_stringslite_Index_8) (.seq (.ops [⟨some 8, .mov (.c (.int .i64 (0))), none⟩]) (.seq (.ops A_internal_stringslite_Index_9) (.seq (.ops [⟨some 10, .mov (.c (.int .i64 (0))), none⟩]) (.seq (.block 1 (.loop A_internal_stringslite_Index_27)) (.seq (.ops [⟨some 4, .mov (.c (.int .i64 (-1))), none⟩]) .ret))))))))))
def R_internal_stringslite_Index : List ARes := [.tmp 4]
def T_internal_stringslite_Index : FC := ⟨143, A_internal_stringslite_Index, R_internal_stringslite_Index⟩

-- (*strings.Builder).WriteByte
abbrev F_strings_Builder_WriteByte : Nat := 296
def A_strings_Builder_WriteByte_0 : List AOper := [⟨some 5, .mov (.t 0), none⟩,
    ⟨some 6, .call 224 [(.t 5)], none⟩]
def A_strings_Builder_WriteByte_1 : List AOper := [⟨some 7, .mov (.t 0), none⟩,
    ⟨some 8, .mov (.t 0), none⟩,
    ⟨some 9, .nilc (.t 8), none⟩,
    ⟨some 10, .faddr 1 (.t 9), none⟩,
    ⟨some 11, .ld1 (.t 10), none⟩,
    ⟨some 12, .mov (.t 1), none⟩,
    ⟨some 13, .bslice 5 1 1 [.int .u8 (0)] [(0, 1, (.t 12))], none⟩,
    ⟨some 14, .app 5 1 1 (.t 11) (.t 13), none⟩,
    ⟨some 15, .nilc (.t 7), none⟩,
    ⟨some 16, .faddr 1 (.t 15), none⟩,
    ⟨none, .st 1 (.t 16) (.t 14), none⟩]
def A_strings_Builder_WriteByte : ACode := (.seq (.ops [⟨some 4, .mov (.c (.nili)), none⟩]) (.seq (.ops A_strings_Builder_WriteByte_0) (.seq (.ops A_strings_Builder_WriteByte_1) (.seq (.ops [⟨some 4, .mov (.c (.nili)), none⟩]) .ret))))
def R_strings_Builder_WriteByte : List ARes := [.tmp 4]
def T_strings_Builder_WriteByte : FC := ⟨17, A_strings_Builder_WriteByte, R_strings_Builder_WriteByte⟩

-- internal/stringslite.IndexByte
abbrev F_internal_stringslite_IndexByte : Nat := 307
def A_internal_stringslite_IndexByte_0 : List AOper := [⟨some 5, .mov (.t 0), none⟩,
    ⟨some 6, .mov (.t 1), none⟩,
    ⟨some 7, .xindex (.t 5) (.t 6), none⟩,
    ⟨some 4, .mov (.t 7), none⟩]
def A_internal_stringslite_IndexByte : ACode := (.seq (.ops [⟨some 4, .mov (.c (.int .i64 (0))), none⟩]) (.seq (.ops A_internal_stringslite_IndexByte_0) .ret))
def R_internal_stringslite_IndexByte : List ARes := [.tmp 4]
def T_internal_stringslite_IndexByte : FC := ⟨8, A_internal_stringslite_IndexByte, R_internal_stringslite_IndexByte⟩

-- (*lexicon/table.Set).Table
abbrev F_table_Set_Table : Nat := 337
def A_table_Set_Table_0 : List AOper := [⟨some 4, .mov (.c (.nilp)), none⟩,
    ⟨some 5, .mov (.c (.int .i64 (0))), none⟩]
def A_table_Set_Table_1 : List AOper := [⟨some 9, .mov (.t 0), none⟩,
    ⟨some 10, .nilc (.t 9), none⟩,
    ⟨some 11, .faddr 0 (.t 10), none⟩,
    ⟨some 12, .call 338 [(.t 11)], none⟩]
def A_table_Set_Table_2 : List AOper := [⟨some 13, .mov (.t 0), none⟩,
    ⟨some 14, .nilc (.t 13), none⟩,
    ⟨some 15, .faddr 0 (.t 14), none⟩]
def A_table_Set_Table_3 : List AOper := [⟨some 16, .mov (.t 0), none⟩,
    ⟨some 17, .nilc (.t 16), none⟩,
    ⟨some 18, .faddr 3 (.t 17), none⟩,
    ⟨some 19, .ld1 (.t 18), none⟩,
    ⟨some 20, .mov (.t 1), none⟩,
    ⟨some 21, .mlook .s (.nilp) false (.t 19) (.t 20), none⟩,
    ⟨some 6, .mov (.t 21), none⟩]
def A_table_Set_Table_4 : List AOper := [⟨some 22, .mov (.t 6), none⟩,
    ⟨some 23, .isnil .pt true (.t 22), none⟩]
def A_table_Set_Table_5 : List AOper := [⟨some 24, .mov (.t 6), none⟩,
    ⟨some 4, .mov (.t 24), none⟩,
    ⟨some 5, .mov (.c (.int .i64 (0))), none⟩]
def A_table_Set_Table_6 : List AOper := [⟨some 26, .mov (.t 0), none⟩,
    ⟨some 27, .nilc (.t 26), none⟩,
    ⟨some 28, .faddr 2 (.t 27), none⟩,
    ⟨some 29, .ld1 (.t 28), none⟩,
    ⟨some 30, .mov (.t 1), none⟩,
    ⟨some 31, .call 340 [(.t 29), (.t 30)], none⟩,
    ⟨some 25, .mov (.t 31), none⟩,
    ⟨some 32, .ext 0 (.t 25), none⟩,
    ⟨some 33, .ext 1 (.t 25), none⟩,
    ⟨some 7, .mov (.t 32), none⟩,
    ⟨some 8, .mov (.t 33), none⟩]
def A_table_Set_Table_7 : List AOper := [⟨some 34, .mov (.t 8), none⟩,
    ⟨some 35, .bini .eql (.t 34) (.c (.int .i64 (0))), none⟩]
def A_table_Set_Table_8 : List AOper := [⟨some 36, .mov (.t 0), none⟩,
    ⟨some 37, .nilc (.t 36), none⟩,
    ⟨some 38, .faddr 3 (.t 37), none⟩,
    ⟨some 39, .ld1 (.t 38), none⟩,
    ⟨some 40, .mov (.t 1), none⟩,
    ⟨some 41, .mov (.t 7), none⟩,
    ⟨none, .mupd .s (.t 39) (.t 40) (.t 41), none⟩]
def A_table_Set_Table_9 : List AOper := [⟨some 42, .mov (.t 7), none⟩,
    ⟨some 43, .mov (.t 8), none⟩,
    ⟨some 4, .mov (.t 42), none⟩,
    ⟨some 5, .mov (.t 43), none⟩]
def A_table_Set_Table : ACode := (.seq (.ops A_table_Set_Table_0) (.seq (.ops A_table_Set_Table_1) (.seq (.seq (.ops A_table_Set_Table_2) (.dfr (.f 339) [(.t 15)])) (.seq (.seq (.ops A_table_Set_Table_3) (.seq (.ops A_table_Set_Table_4) (.cond (.t 23) (.seq (.ops A_table_Set_Table_5) .ret) .skip))) (.seq (.ops A_table_Set_Table_6) (.seq (.seq (.ops A_table_Set_Table_7) (.cond (.t 35) (.ops A_table_Set_Table_8) .skip)) (.seq (.ops A_table_Set_Table_9) .ret)))))))
def R_table_Set_Table : List ARes := [.tmp 4, .tmp 5]
def T_table_Set_Table : FC := ⟨44, A_table_Set_Table, R_table_Set_Table⟩

-- (*sync.Mutex).Lock
abbrev F_sync_Mutex_Lock : Nat := 338
def A_sync_Mutex_Lock_0 : List AOper := [⟨some 2, .mov (.t 0), none⟩,
    ⟨some 3, .nilc (.t 2), none⟩,
    ⟨some 4, .faddr 0 (.t 3), none⟩,
    ⟨some 5, .call 341 [(.t 4)], none⟩]
def A_sync_Mutex_Lock : ACode := (.ops A_sync_Mutex_Lock_0)
def R_sync_Mutex_Lock : List ARes := []
def T_sync_Mutex_Lock : FC := ⟨6, A_sync_Mutex_Lock, R_sync_Mutex_Lock⟩

-- (*sync.Mutex).Unlock
abbrev F_sync_Mutex_Unlock : Nat := 339
def A_sync_Mutex_Unlock_0 : List AOper := [⟨some 2, .mov (.t 0), none⟩,
    ⟨some 3, .nilc (.t 2), none⟩,
    ⟨some 4, .faddr 0 (.t 3), none⟩,
    ⟨some 5, .call 342 [(.t 4)], none⟩]
def A_sync_Mutex_Unlock : ACode := (.ops A_sync_Mutex_Unlock_0)
def R_sync_Mutex_Unlock : List ARes := []
def T_sync_Mutex_Unlock : FC := ⟨6, A_sync_Mutex_Unlock, R_sync_Mutex_Unlock⟩

-- lexicon/table.Build
abbrev F_table_Build : Nat := 340
def A_table_Build_0 : List AOper := [⟨some 4, .mov (.c (.nilp)), none⟩,
    ⟨some 5, .mov (.c (.int .i64 (0))), none⟩]
def A_table_Build_1 : List AOper := [⟨some 14, .mov (.t 0), none⟩,
    ⟨some 15, .mov (.t 1), none⟩,
    ⟨some 16, .call 343 [(.t 14), (.t 15)], none⟩,
    ⟨some 13, .mov (.t 16), none⟩,
    ⟨some 17, .ext 0 (.t 13), none⟩,
    ⟨some 18, .ext 1 (.t 13), none⟩,
    ⟨some 6, .box 72 7 (.c (.agg [.str [], .nils, .nils, .nils, .nils, .nils, .nils])), none⟩,
    ⟨none, .st 7 (.t 6) (.t 17), none⟩,
    ⟨some 7, .mov (.t 18), none⟩]
def A_table_Build_2 : List AOper := [⟨some 19, .mov (.t 7), none⟩,
    ⟨some 20, .not (.t 19), none⟩]
def A_table_Build_3 : List AOper := [⟨some 4, .mov (.c (.nilp)), none⟩,
    ⟨some 5, .mov (.c (.int .i64 (90))), none⟩]
def A_table_Build_4 : List AOper := [⟨some 21, .mov (.t 1), none⟩,
    ⟨some 22, .faddr 2 (.t 6), none⟩,
    ⟨some 23, .ld1 (.t 22), none⟩,
    ⟨some 24, .call 139 [(.t 23)], none⟩,
    ⟨some 25, .mkmap, none⟩,
    ⟨some 26, .mkmap, none⟩,
    ⟨some 27, .mkmap, none⟩,
    ⟨some 28, .build [.str [], .nils, .nils, .nilm, .nilm, .nilm] [(0, 1, (.t 21)), (1, 1, (.t 24)), (3, 1, (.t 25)), (4, 1, (.t 26)), (5, 1, (.t 27))], none⟩,
    ⟨some 29, .box 261 6 (.t 28), none⟩,
    ⟨some 8, .mov (.t 29), none⟩]
def A_table_Build_5 : List AOper := [⟨some 30, .faddr 1 (.t 6), none⟩,
    ⟨some 31, .ld1 (.t 30), none⟩,
    ⟨some 32, .lenl (.t 31), none⟩,
    ⟨some 33, .mov (.c (.int .i64 (0))), none⟩]
def A_table_Build_6 : List AOper := [⟨some 35, .iaddr 68 9 (.t 31) (.t 33), none⟩,
    ⟨some 36, .lda 9 (.t 35), none⟩,
    ⟨some 10, .box 68 9 (.c (.agg [.str [], .int .i32 (0), .int .u8 (0), .int .u8 (0), .str [], .int .u8 (0), .int .i64 (0), .int .u8 (0), .str []])), none⟩,
    ⟨none, .st 9 (.t 10) (.t 36), none⟩]
def A_table_Build_7 : List AOper := [⟨some 37, .mov (.t 8), none⟩,
    ⟨some 38, .mov (.t 8), none⟩,
    ⟨some 39, .nilc (.t 38), none⟩,
    ⟨some 40, .faddr 2 (.t 39), none⟩,
    ⟨some 41, .ld1 (.t 40), none⟩,
    ⟨some 42, .lda 9 (.t 10), none⟩,
    ⟨some 43, .acall 344 [(.t 42)], none⟩,
    ⟨some 44, .bslice 170 9 1 [.int .i32 (0), .str [], .str [], .int .u8 (0), .int .u8 (0), .int .u8 (0), .bool false, .int .i64 (0), .str []] [(0, 9, (.t 43))], none⟩,
    ⟨some 45, .app 170 9 72 (.t 41) (.t 44), none⟩,
    ⟨some 46, .nilc (.t 37), none⟩,
    ⟨some 47, .faddr 2 (.t 46), none⟩,
    ⟨none, .st 1 (.t 47) (.t 45), none⟩]
def A_table_Build_8 : List AOper := [⟨some 48, .bini .add (.t 33) (.c (.int .i64 (1))), none⟩,
    ⟨some 33, .mov (.t 48), none⟩]
def A_table_Build_9 : ACode := (.seq (.ops [⟨some 34, .bini .lss (.t 33) (.t 32), none⟩]) (.seq (.cond (.t 34) .skip (.exit 0)) (.seq (.block 1 (.seq (.ops A_table_Build_6) (.alts [37, 38, 39, 40, 41, 42, 43, 44, 45, 46, 47] [A_table_Build_7]))) (.ops A_table_Build_8))))
def A_table_Build_10 : List AOper := [⟨some 49, .mov (.t 8), none⟩,
    ⟨some 50, .nilc (.t 49), none⟩,
    ⟨some 51, .faddr 2 (.t 50), none⟩,
    ⟨some 52, .ld1 (.t 51), none⟩,
    ⟨some 53, .call 345 [(.t 52), (.f 346)], none⟩]
def A_table_Build_11 : List AOper := [⟨some 54, .mov (.t 8), none⟩,
    ⟨some 55, .nilc (.t 54), none⟩,
    ⟨some 56, .faddr 2 (.t 55), none⟩,
    ⟨some 57, .ld1 (.t 56), none⟩,
    ⟨some 58, .lenl (.t 57), none⟩,
    ⟨some 59, .mov (.c (.int .i64 (0))), none⟩]
def A_table_Build_12 : List AOper := [⟨some 61, .mov (.t 59), none⟩,
    ⟨some 62, .iaddr 170 9 (.t 57) (.t 59), none⟩,
    ⟨some 63, .lda 9 (.t 62), none⟩,
    ⟨some 12, .box 170 9 (.c (.agg [.int .i32 (0), .str [], .str [], .int .u8 (0), .int .u8 (0), .int .u8 (0), .bool false, .int .i64 (0), .str []])), none⟩,
    ⟨some 11, .mov (.t 61), none⟩,
    ⟨none, .st 9 (.t 12) (.t 63), none⟩]
def A_table_Build_13 : List AOper := [⟨some 64, .mov (.t 8), none⟩,
    ⟨some 65, .nilc (.t 64), none⟩,
    ⟨some 66, .faddr 3 (.t 65), none⟩,
    ⟨some 67, .ld1 (.t 66), none⟩,
    ⟨some 68, .faddr 0 (.t 12), none⟩,
    ⟨some 69, .ld1 (.t 68), none⟩,
    ⟨some 70, .mov (.t 8), none⟩,
    ⟨some 71, .nilc (.t 70), none⟩,
    ⟨some 72, .faddr 4 (.t 71), none⟩,
    ⟨some 73, .ld1 (.t 72), none⟩,
    ⟨some 74, .faddr 1 (.t 12), none⟩,
    ⟨some 76, .mov (.t 8), none⟩,
    ⟨some 77, .nilc (.t 76), none⟩,
    ⟨some 78, .faddr 5 (.t 77), none⟩,
    ⟨some 79, .ld1 (.t 78), none⟩,
    ⟨some 80, .faddr 2 (.t 12), none⟩,
    ⟨some 82, .mov (.t 11), none⟩,
    ⟨some 83, .mov (.t 11), none⟩,
    ⟨some 84, .mov (.t 11), none⟩,
    ⟨some 75, .ld1 (.t 74), none⟩,
    ⟨some 81, .ld1 (.t 80), none⟩,
    ⟨some 85, .ment .i (.int .i64 (0)) (.t 67) (.t 69), none⟩,
    ⟨some 86, .ext 1 (.t 85), none⟩,
    ⟨none, .mest (.t 67) (.t 86) (.t 82), none⟩,
    ⟨some 87, .ment .s (.int .i64 (0)) (.t 73) (.t 75), none⟩,
    ⟨some 88, .ext 1 (.t 87), none⟩,
    ⟨none, .mest (.t 73) (.t 88) (.t 83), none⟩,
    ⟨some 89, .ment .s (.int .i64 (0)) (.t 79) (.t 81), none⟩,
    ⟨some 90, .ext 1 (.t 89), none⟩,
    ⟨none, .mest (.t 79) (.t 90) (.t 84), none⟩]
def A_table_Build_14 : List AOper := [⟨some 64, .mov (.t 8), none⟩,
    ⟨some 65, .nilc (.t 64), none⟩,
    ⟨some 66, .faddr 3 (.t 65), none⟩,
    ⟨some 67, .ld1 (.t 66), none⟩,
    ⟨some 68, .faddr 0 (.t 12), none⟩,
    ⟨some 69, .ld1 (.t 68), none⟩,
    ⟨some 70, .mov (.t 8), none⟩,
    ⟨some 71, .nilc (.t 70), none⟩,
    ⟨some 72, .faddr 4 (.t 71), none⟩,
    ⟨some 73, .ld1 (.t 72), none⟩,
    ⟨some 74, .faddr 1 (.t 12), none⟩,
    ⟨some 76, .mov (.t 8), none⟩,
    ⟨some 77, .nilc (.t 76), none⟩,
    ⟨some 78, .faddr 5 (.t 77), none⟩,
    ⟨some 79, .ld1 (.t 78), none⟩,
    ⟨some 80, .faddr 2 (.t 12), none⟩,
    ⟨some 82, .mov (.t 11), none⟩,
    ⟨some 83, .mov (.t 11), none⟩,
    ⟨some 84, .mov (.t 11), none⟩,
    ⟨some 75, .ld1 (.t 74), none⟩,
    ⟨some 85, .ment .i (.int .i64 (0)) (.t 67) (.t 69), none⟩,
    ⟨some 86, .ext 1 (.t 85), none⟩,
    ⟨some 81, .ld1 (.t 80), none⟩,
    ⟨none, .mest (.t 67) (.t 86) (.t 82), none⟩,
    ⟨some 87, .ment .s (.int .i64 (0)) (.t 73) (.t 75), none⟩,
    ⟨some 88, .ext 1 (.t 87), none⟩,
    ⟨none, .mest (.t 73) (.t 88) (.t 83), none⟩,
    ⟨some 89, .ment .s (.int .i64 (0)) (.t 79) (.t 81), none⟩,
    ⟨some 90, .ext 1 (.t 89), none⟩,
    ⟨none, .mest (.t 79) (.t 90) (.t 84), none⟩]
def A_table_Build_15 : List AOper := [⟨some 64, .mov (.t 8), none⟩,
    ⟨some 65, .nilc (.t 64), none⟩,
    ⟨some 66, .faddr 3 (.t 65), none⟩,
    ⟨some 67, .ld1 (.t 66), none⟩,
    ⟨some 68, .faddr 0 (.t 12), none⟩,
    ⟨some 69, .ld1 (.t 68), none⟩,
    ⟨some 70, .mov (.t 8), none⟩,
    ⟨some 71, .nilc (.t 70), none⟩,
    ⟨some 72, .faddr 4 (.t 71), none⟩,
    ⟨some 73, .ld1 (.t 72), none⟩,
    ⟨some 74, .faddr 1 (.t 12), none⟩,
    ⟨some 76, .mov (.t 8), none⟩,
    ⟨some 77, .nilc (.t 76), none⟩,
    ⟨some 78, .faddr 5 (.t 77), none⟩,
    ⟨some 79, .ld1 (.t 78), none⟩,
    ⟨some 80, .faddr 2 (.t 12), none⟩,
    ⟨some 82, .mov (.t 11), none⟩,
    ⟨some 83, .mov (.t 11), none⟩,
    ⟨some 84, .mov (.t 11), none⟩,
    ⟨some 75, .ld1 (.t 74), none⟩,
    ⟨some 85, .ment .i (.int .i64 (0)) (.t 67) (.t 69), none⟩,
    ⟨some 86, .ext 1 (.t 85), none⟩,
    ⟨none, .mest (.t 67) (.t 86) (.t 82), none⟩,
    ⟨some 81, .ld1 (.t 80), none⟩,
    ⟨some 87, .ment .s (.int .i64 (0)) (.t 73) (.t 75), none⟩,
    ⟨some 88, .ext 1 (.t 87), none⟩,
    ⟨none, .mest (.t 73) (.t 88) (.t 83), none⟩,
    ⟨some 89, .ment .s (.int .i64 (0)) (.t 79) (.t 81), none⟩,
    ⟨some 90, .ext 1 (.t 89), none⟩,
    ⟨none, .mest (.t 79) (.t 90) (.t 84), none⟩]
def A_table_Build_16 : List AOper := [⟨some 64, .mov (.t 8), none⟩,
    ⟨some 65, .nilc (.t 64), none⟩,
    ⟨some 66, .faddr 3 (.t 65), none⟩,
    ⟨some 67, .ld1 (.t 66), none⟩,
    ⟨some 68, .faddr 0 (.t 12), none⟩,
    ⟨some 69, .ld1 (.t 68), none⟩,
    ⟨some 70, .mov (.t 8), none⟩,
    ⟨some 71, .nilc (.t 70), none⟩,
    ⟨some 72, .faddr 4 (.t 71), none⟩,
    ⟨some 73, .ld1 (.t 72), none⟩,
    ⟨some 74, .faddr 1 (.t 12), none⟩,
    ⟨some 76, .mov (.t 8), none⟩,
    ⟨some 77, .nilc (.t 76), none⟩,
    ⟨some 78, .faddr 5 (.t 77), none⟩,
    ⟨some 79, .ld1 (.t 78), none⟩,
    ⟨some 80, .faddr 2 (.t 12), none⟩,
    ⟨some 82, .mov (.t 11), none⟩,
    ⟨some 83, .mov (.t 11), none⟩,
    ⟨some 84, .mov (.t 11), none⟩,
    ⟨some 75, .ld1 (.t 74), none⟩,
    ⟨some 85, .ment .i (.int .i64 (0)) (.t 67) (.t 69), none⟩,
    ⟨some 86, .ext 1 (.t 85), none⟩,
    ⟨none, .mest (.t 67) (.t 86) (.t 82), none⟩,
    ⟨some 87, .ment .s (.int .i64 (0)) (.t 73) (.t 75), none⟩,
    ⟨some 88, .ext 1 (.t 87), none⟩,
    ⟨some 81, .ld1 (.t 80), none⟩,
    ⟨none, .mest (.t 73) (.t 88) (.t 83), none⟩,
    ⟨some 89, .ment .s (.int .i64 (0)) (.t 79) (.t 81), none⟩,
    ⟨some 90, .ext 1 (.t 89), none⟩,
    ⟨none, .mest (.t 79) (.t 90) (.t 84), none⟩]
def A_table_Build_17 : List AOper := [⟨some 64, .mov (.t 8), none⟩,
    ⟨some 65, .nilc (.t 64), none⟩,
    ⟨some 66, .faddr 3 (.t 65), none⟩,
    ⟨some 67, .ld1 (.t 66), none⟩,
    ⟨some 68, .faddr 0 (.t 12), none⟩,
    ⟨some 69, .ld1 (.t 68), none⟩,
    ⟨some 70, .mov (.t 8), none⟩,
    ⟨some 71, .nilc (.t 70), none⟩,
    ⟨some 72, .faddr 4 (.t 71), none⟩,
    ⟨some 73, .ld1 (.t 72), none⟩,
    ⟨some 74, .faddr 1 (.t 12), none⟩,
    ⟨some 76, .mov (.t 8), none⟩,
    ⟨some 77, .nilc (.t 76), none⟩,
    ⟨some 78, .faddr 5 (.t 77), none⟩,
    ⟨some 79, .ld1 (.t 78), none⟩,
    ⟨some 80, .faddr 2 (.t 12), none⟩,
    ⟨some 82, .mov (.t 11), none⟩,
    ⟨some 83, .mov (.t 11), none⟩,
    ⟨some 84, .mov (.t 11), none⟩,
    ⟨some 75, .ld1 (.t 74), none⟩,
    ⟨some 85, .ment .i (.int .i64 (0)) (.t 67) (.t 69), none⟩,
    ⟨some 86, .ext 1 (.t 85), none⟩,
    ⟨none, .mest (.t 67) (.t 86) (.t 82), none⟩,
    ⟨some 87, .ment .s (.int .i64 (0)) (.t 73) (.t 75), none⟩,
    ⟨some 88, .ext 1 (.t 87), none⟩,
    ⟨none, .mest (.t 73) (.t 88) (.t 83), none⟩,
    ⟨some 81, .ld1 (.t 80), none⟩,
    ⟨some 89, .ment .s (.int .i64 (0)) (.t 79) (.t 81), none⟩,
    ⟨some 90, .ext 1 (.t 89), none⟩,
    ⟨none, .mest (.t 79) (.t 90) (.t 84), none⟩]
def A_table_Build_18 : List AOper := [⟨some 64, .mov (.t 8), none⟩,
    ⟨some 65, .nilc (.t 64), none⟩,
    ⟨some 66, .faddr 3 (.t 65), none⟩,
    ⟨some 67, .ld1 (.t 66), none⟩,
    ⟨some 68, .faddr 0 (.t 12), none⟩,
    ⟨some 69, .ld1 (.t 68), none⟩,
    ⟨some 70, .mov (.t 8), none⟩,
    ⟨some 71, .nilc (.t 70), none⟩,
    ⟨some 72, .faddr 4 (.t 71), none⟩,
    ⟨some 73, .ld1 (.t 72), none⟩,
    ⟨some 74, .faddr 1 (.t 12), none⟩,
    ⟨some 76, .mov (.t 8), none⟩,
    ⟨some 77, .nilc (.t 76), none⟩,
    ⟨some 78, .faddr 5 (.t 77), none⟩,
    ⟨some 79, .ld1 (.t 78), none⟩,
    ⟨some 80, .faddr 2 (.t 12), none⟩,
    ⟨some 82, .mov (.t 11), none⟩,
    ⟨some 83, .mov (.t 11), none⟩,
    ⟨some 84, .mov (.t 11), none⟩,
    ⟨some 81, .ld1 (.t 80), none⟩,
    ⟨some 75, .ld1 (.t 74), none⟩,
    ⟨some 85, .ment .i (.int .i64 (0)) (.t 67) (.t 69), none⟩,
    ⟨some 86, .ext 1 (.t 85), none⟩,
    ⟨none, .mest (.t 67) (.t 86) (.t 82), none⟩,
    ⟨some 87, .ment .s (.int .i64 (0)) (.t 73) (.t 75), none⟩,
    ⟨some 88, .ext 1 (.t 87), none⟩,
    ⟨none, .mest (.t 73) (.t 88) (.t 83), none⟩,
    ⟨some 89, .ment .s (.int .i64 (0)) (.t 79) (.t 81), none⟩,
    ⟨some 90, .ext 1 (.t 89), none⟩,
    ⟨none, .mest (.t 79) (.t 90) (.t 84), none⟩]
def A_table_Build_19 : List AOper := [⟨some 64, .mov (.t 8), none⟩,
    ⟨some 65, .nilc (.t 64), none⟩,
    ⟨some 66, .faddr 3 (.t 65), none⟩,
    ⟨some 67, .ld1 (.t 66), none⟩,
    ⟨some 68, .faddr 0 (.t 12), none⟩,
    ⟨some 69, .ld1 (.t 68), none⟩,
    ⟨some 70, .mov (.t 8), none⟩,
    ⟨some 71, .nilc (.t 70), none⟩,
    ⟨some 72, .faddr 4 (.t 71), none⟩,
    ⟨some 73, .ld1 (.t 72), none⟩,
    ⟨some 74, .faddr 1 (.t 12), none⟩,
    ⟨some 76, .mov (.t 8), none⟩,
    ⟨some 77, .nilc (.t 76), none⟩,
    ⟨some 78, .faddr 5 (.t 77), none⟩,
    ⟨some 79, .ld1 (.t 78), none⟩,
    ⟨some 80, .faddr 2 (.t 12), none⟩,
    ⟨some 82, .mov (.t 11), none⟩,
    ⟨some 83, .mov (.t 11), none⟩,
    ⟨some 84, .mov (.t 11), none⟩,
    ⟨some 81, .ld1 (.t 80), none⟩,
    ⟨some 85, .ment .i (.int .i64 (0)) (.t 67) (.t 69), none⟩,
    ⟨some 86, .ext 1 (.t 85), none⟩,
    ⟨some 75, .ld1 (.t 74), none⟩,
    ⟨none, .mest (.t 67) (.t 86) (.t 82), none⟩,
    ⟨some 87, .ment .s (.int .i64 (0)) (.t 73) (.t 75), none⟩,
    ⟨some 88, .ext 1 (.t 87), none⟩,
    ⟨none, .mest (.t 73) (.t 88) (.t 83), none⟩,
    ⟨some 89, .ment .s (.int .i64 (0)) (.t 79) (.t 81), none⟩,
    ⟨some 90, .ext 1 (.t 89), none⟩,
    ⟨none, .mest (.t 79) (.t 90) (.t 84), none⟩]
def A_table_Build_20 : List AOper := [⟨some 64, .mov (.t 8), none⟩,
    ⟨some 65, .nilc (.t 64), none⟩,
    ⟨some 66, .faddr 3 (.t 65), none⟩,
    ⟨some 67, .ld1 (.t 66), none⟩,
    ⟨some 68, .faddr 0 (.t 12), none⟩,
    ⟨some 69, .ld1 (.t 68), none⟩,
    ⟨some 70, .mov (.t 8), none⟩,
    ⟨some 71, .nilc (.t 70), none⟩,
    ⟨some 72, .faddr 4 (.t 71), none⟩,
    ⟨some 73, .ld1 (.t 72), none⟩,
    ⟨some 74, .faddr 1 (.t 12), none⟩,
    ⟨some 76, .mov (.t 8), none⟩,
    ⟨some 77, .nilc (.t 76), none⟩,
    ⟨some 78, .faddr 5 (.t 77), none⟩,
    ⟨some 79, .ld1 (.t 78), none⟩,
    ⟨some 80, .faddr 2 (.t 12), none⟩,
    ⟨some 82, .mov (.t 11), none⟩,
    ⟨some 83, .mov (.t 11), none⟩,
    ⟨some 84, .mov (.t 11), none⟩,
    ⟨some 81, .ld1 (.t 80), none⟩,
    ⟨some 85, .ment .i (.int .i64 (0)) (.t 67) (.t 69), none⟩,
    ⟨some 86, .ext 1 (.t 85), none⟩,
    ⟨none, .mest (.t 67) (.t 86) (.t 82), none⟩,
    ⟨some 75, .ld1 (.t 74), none⟩,
    ⟨some 87, .ment .s (.int .i64 (0)) (.t 73) (.t 75), none⟩,
    ⟨some 88, .ext 1 (.t 87), none⟩,
    ⟨none, .mest (.t 73) (.t 88) (.t 83), none⟩,
    ⟨some 89, .ment .s (.int .i64 (0)) (.t 79) (.t 81), none⟩,
    ⟨some 90, .ext 1 (.t 89), none⟩,
    ⟨none, .mest (.t 79) (.t 90) (.t 84), none⟩]
def A_table_Build_21 : List AOper := [⟨some 64, .mov (.t 8), none⟩,
    ⟨some 65, .nilc (.t 64), none⟩,
    ⟨some 66, .faddr 3 (.t 65), none⟩,
    ⟨some 67, .ld1 (.t 66), none⟩,
    ⟨some 68, .faddr 0 (.t 12), none⟩,
    ⟨some 69, .ld1 (.t 68), none⟩,
    ⟨some 70, .mov (.t 8), none⟩,
    ⟨some 71, .nilc (.t 70), none⟩,
    ⟨some 72, .faddr 4 (.t 71), none⟩,
    ⟨some 73, .ld1 (.t 72), none⟩,
    ⟨some 74, .faddr 1 (.t 12), none⟩,
    ⟨some 76, .mov (.t 8), none⟩,
    ⟨some 77, .nilc (.t 76), none⟩,
    ⟨some 78, .faddr 5 (.t 77), none⟩,
    ⟨some 79, .ld1 (.t 78), none⟩,
    ⟨some 80, .faddr 2 (.t 12), none⟩,
    ⟨some 82, .mov (.t 11), none⟩,
    ⟨some 83, .mov (.t 11), none⟩,
    ⟨some 84, .mov (.t 11), none⟩,
    ⟨some 85, .ment .i (.int .i64 (0)) (.t 67) (.t 69), none⟩,
    ⟨some 86, .ext 1 (.t 85), none⟩,
    ⟨some 75, .ld1 (.t 74), none⟩,
    ⟨some 81, .ld1 (.t 80), none⟩,
    ⟨none, .mest (.t 67) (.t 86) (.t 82), none⟩,
    ⟨some 87, .ment .s (.int .i64 (0)) (.t 73) (.t 75), none⟩,
    ⟨some 88, .ext 1 (.t 87), none⟩,
    ⟨none, .mest (.t 73) (.t 88) (.t 83), none⟩,
    ⟨some 89, .ment .s (.int .i64 (0)) (.t 79) (.t 81), none⟩,
    ⟨some 90, .ext 1 (.t 89), none⟩,
    ⟨none, .mest (.t 79) (.t 90) (.t 84), none⟩]
def A_table_Build_22 : List AOper := [⟨some 64, .mov (.t 8), none⟩,
    ⟨some 65, .nilc (.t 64), none⟩,
    ⟨some 66, .faddr 3 (.t 65), none⟩,
    ⟨some 67, .ld1 (.t 66), none⟩,
    ⟨some 68, .faddr 0 (.t 12), none⟩,
    ⟨some 69, .ld1 (.t 68), none⟩,
    ⟨some 70, .mov (.t 8), none⟩,
    ⟨some 71, .nilc (.t 70), none⟩,
    ⟨some 72, .faddr 4 (.t 71), none⟩,
    ⟨some 73, .ld1 (.t 72), none⟩,
    ⟨some 74, .faddr 1 (.t 12), none⟩,
    ⟨some 76, .mov (.t 8), none⟩,
    ⟨some 77, .nilc (.t 76), none⟩,
    ⟨some 78, .faddr 5 (.t 77), none⟩,
    ⟨some 79, .ld1 (.t 78), none⟩,
    ⟨some 80, .faddr 2 (.t 12), none⟩,
    ⟨some 82, .mov (.t 11), none⟩,
    ⟨some 83, .mov (.t 11), none⟩,
    ⟨some 84, .mov (.t 11), none⟩,
    ⟨some 85, .ment .i (.int .i64 (0)) (.t 67) (.t 69), none⟩,
    ⟨some 86, .ext 1 (.t 85), none⟩,
    ⟨some 75, .ld1 (.t 74), none⟩,
    ⟨none, .mest (.t 67) (.t 86) (.t 82), none⟩,
    ⟨some 81, .ld1 (.t 80), none⟩,
    ⟨some 87, .ment .s (.int .i64 (0)) (.t 73) (.t 75), none⟩,
    ⟨some 88, .ext 1 (.t 87), none⟩,
    ⟨none, .mest (.t 73) (.t 88) (.t 83), none⟩,
    ⟨some 89, .ment .s (.int .i64 (0)) (.t 79) (.t 81), none⟩,
    ⟨some 90, .ext 1 (.t 89), none⟩,
    ⟨none, .mest (.t 79) (.t 90) (.t 84), none⟩]
def A_table_Build_23 : List AOper := [⟨some 64, .mov (.t 8), none⟩,
    ⟨some 65, .nilc (.t 64), none⟩,
    ⟨some 66, .faddr 3 (.t 65), none⟩,
    ⟨some 67, .ld1 (.t 66), none⟩,
    ⟨some 68, .faddr 0 (.t 12), none⟩,
    ⟨some 69, .ld1 (.t 68), none⟩,
    ⟨some 70, .mov (.t 8), none⟩,
    ⟨some 71, .nilc (.t 70), none⟩,
    ⟨some 72, .faddr 4 (.t 71), none⟩,
    ⟨some 73, .ld1 (.t 72), none⟩,
    ⟨some 74, .faddr 1 (.t 12), none⟩,
    ⟨some 76, .mov (.t 8), none⟩,
    ⟨some 77, .nilc (.t 76), none⟩,
    ⟨some 78, .faddr 5 (.t 77), none⟩,
    ⟨some 79, .ld1 (.t 78), none⟩,
    ⟨some 80, .faddr 2 (.t 12), none⟩,
    ⟨some 82, .mov (.t 11), none⟩,
    ⟨some 83, .mov (.t 11), none⟩,
    ⟨some 84, .mov (.t 11), none⟩,
    ⟨some 85, .ment .i (.int .i64 (0)) (.t 67) (.t 69), none⟩,
    ⟨some 86, .ext 1 (.t 85), none⟩,
    ⟨some 75, .ld1 (.t 74), none⟩,
    ⟨none, .mest (.t 67) (.t 86) (.t 82), none⟩,
    ⟨some 87, .ment .s (.int .i64 (0)) (.t 73) (.t 75), none⟩,
    ⟨some 88, .ext 1 (.t 87), none⟩,
    ⟨some 81, .ld1 (.t 80), none⟩,
    ⟨none, .mest (.t 73) (.t 88) (.t 83), none⟩,
    ⟨some 89, .ment .s (.int .i64 (0)) (.t 79) (.t 81), none⟩,
    ⟨some 90, .ext 1 (.t 89), none⟩,
    ⟨none, .mest (.t 79) (.t 90) (.t 84), none⟩]
def A_table_Build_24 : List AOper := [⟨some 64, .mov (.t 8), none⟩,
    ⟨some 65, .nilc (.t 64), none⟩,
    ⟨some 66, .faddr 3 (.t 65), none⟩,
    ⟨some 67, .ld1 (.t 66), none⟩,
    ⟨some 68, .faddr 0 (.t 12), none⟩,
    ⟨some 69, .ld1 (.t 68), none⟩,
    ⟨some 70, .mov (.t 8), none⟩,
    ⟨some 71, .nilc (.t 70), none⟩,
    ⟨some 72, .faddr 4 (.t 71), none⟩,
    ⟨some 73, .ld1 (.t 72), none⟩,
    ⟨some 74, .faddr 1 (.t 12), none⟩,
    ⟨some 76, .mov (.t 8), none⟩,
    ⟨some 77, .nilc (.t 76), none⟩,
    ⟨some 78, .faddr 5 (.t 77), none⟩,
    ⟨some 79, .ld1 (.t 78), none⟩,
    ⟨some 80, .faddr 2 (.t 12), none⟩,
    ⟨some 82, .mov (.t 11), none⟩,
    ⟨some 83, .mov (.t 11), none⟩,
    ⟨some 84, .mov (.t 11), none⟩,
    ⟨some 85, .ment .i (.int .i64 (0)) (.t 67) (.t 69), none⟩,
    ⟨some 86, .ext 1 (.t 85), none⟩,
    ⟨some 75, .ld1 (.t 74), none⟩,
    ⟨none, .mest (.t 67) (.t 86) (.t 82), none⟩,
    ⟨some 87, .ment .s (.int .i64 (0)) (.t 73) (.t 75), none⟩,
    ⟨some 88, .ext 1 (.t 87), none⟩,
    ⟨none, .mest (.t 73) (.t 88) (.t 83), none⟩,
    ⟨some 81, .ld1 (.t 80), none⟩,
    ⟨some 89, .ment .s (.int .i64 (0)) (.t 79) (.t 81), none⟩,
    ⟨some 90, .ext 1 (.t 89), none⟩,
    ⟨none, .mest (.t 79) (.t 90) (.t 84), none⟩]
def A_table_Build_25 : List AOper := [⟨some 64, .mov (.t 8), none⟩,
    ⟨some 65, .nilc (.t 64), none⟩,
    ⟨some 66, .faddr 3 (.t 65), none⟩,
    ⟨some 67, .ld1 (.t 66), none⟩,
    ⟨some 68, .faddr 0 (.t 12), none⟩,
    ⟨some 69, .ld1 (.t 68), none⟩,
    ⟨some 70, .mov (.t 8), none⟩,
    ⟨some 71, .nilc (.t 70), none⟩,
    ⟨some 72, .faddr 4 (.t 71), none⟩,
    ⟨some 73, .ld1 (.t 72), none⟩,
    ⟨some 74, .faddr 1 (.t 12), none⟩,
    ⟨some 76, .mov (.t 8), none⟩,
    ⟨some 77, .nilc (.t 76), none⟩,
    ⟨some 78, .faddr 5 (.t 77), none⟩,
    ⟨some 79, .ld1 (.t 78), none⟩,
    ⟨some 80, .faddr 2 (.t 12), none⟩,
    ⟨some 82, .mov (.t 11), none⟩,
    ⟨some 83, .mov (.t 11), none⟩,
    ⟨some 84, .mov (.t 11), none⟩,
    ⟨some 85, .ment .i (.int .i64 (0)) (.t 67) (.t 69), none⟩,
    ⟨some 86, .ext 1 (.t 85), none⟩,
    ⟨some 81, .ld1 (.t 80), none⟩,
    ⟨some 75, .ld1 (.t 74), none⟩,
    ⟨none, .mest (.t 67) (.t 86) (.t 82), none⟩,
    ⟨some 87, .ment .s (.int .i64 (0)) (.t 73) (.t 75), none⟩,
    ⟨some 88, .ext 1 (.t 87), none⟩,
    ⟨none, .mest (.t 73) (.t 88) (.t 83), none⟩,
    ⟨some 89, .ment .s (.int .i64 (0)) (.t 79) (.t 81), none⟩,
    ⟨some 90, .ext 1 (.t 89), none⟩,
    ⟨none, .mest (.t 79) (.t 90) (.t 84), none⟩]
def A_table_Build_26 : List AOper := [⟨some 64, .mov (.t 8), none⟩,
    ⟨some 65, .nilc (.t 64), none⟩,
    ⟨some 66, .faddr 3 (.t 65), none⟩,
    ⟨some 67, .ld1 (.t 66), none⟩,
    ⟨some 68, .faddr 0 (.t 12), none⟩,
    ⟨some 69, .ld1 (.t 68), none⟩,
    ⟨some 70, .mov (.t 8), none⟩,
    ⟨some 71, .nilc (.t 70), none⟩,
    ⟨some 72, .faddr 4 (.t 71), none⟩,
    ⟨some 73, .ld1 (.t 72), none⟩,
    ⟨some 74, .faddr 1 (.t 12), none⟩,
    ⟨some 76, .mov (.t 8), none⟩,
    ⟨some 77, .nilc (.t 76), none⟩,
    ⟨some 78, .faddr 5 (.t 77), none⟩,
    ⟨some 79, .ld1 (.t 78), none⟩,
    ⟨some 80, .faddr 2 (.t 12), none⟩,
    ⟨some 82, .mov (.t 11), none⟩,
    ⟨some 83, .mov (.t 11), none⟩,
    ⟨some 84, .mov (.t 11), none⟩,
    ⟨some 85, .ment .i (.int .i64 (0)) (.t 67) (.t 69), none⟩,
    ⟨some 86, .ext 1 (.t 85), none⟩,
    ⟨some 81, .ld1 (.t 80), none⟩,
    ⟨none, .mest (.t 67) (.t 86) (.t 82), none⟩,
    ⟨some 75, .ld1 (.t 74), none⟩,
    ⟨some 87, .ment .s (.int .i64 (0)) (.t 73) (.t 75), none⟩,
    ⟨some 88, .ext 1 (.t 87), none⟩,
    ⟨none, .mest (.t 73) (.t 88) (.t 83), none⟩,
    ⟨some 89, .ment .s (.int .i64 (0)) (.t 79) (.t 81), none⟩,
    ⟨some 90, .ext 1 (.t 89), none⟩,
    ⟨none, .mest (.t 79) (.t 90) (.t 84), none⟩]
def A_table_Build_27 : List AOper := [⟨some 64, .mov (.t 8), none⟩,
    ⟨some 65, .nilc (.t 64), none⟩,
    ⟨some 66, .faddr 3 (.t 65), none⟩,
    ⟨some 67, .ld1 (.t 66), none⟩,
    ⟨some 68, .faddr 0 (.t 12), none⟩,
    ⟨some 69, .ld1 (.t 68), none⟩,
    ⟨some 70, .mov (.t 8), none⟩,
    ⟨some 71, .nilc (.t 70), none⟩,
    ⟨some 72, .faddr 4 (.t 71), none⟩,
    ⟨some 73, .ld1 (.t 72), none⟩,
    ⟨some 74, .faddr 1 (.t 12), none⟩,
    ⟨some 76, .mov (.t 8), none⟩,
    ⟨some 77, .nilc (.t 76), none⟩,
    ⟨some 78, .faddr 5 (.t 77), none⟩,
    ⟨some 79, .ld1 (.t 78), none⟩,
    ⟨some 80, .faddr 2 (.t 12), none⟩,
    ⟨some 82, .mov (.t 11), none⟩,
    ⟨some 83, .mov (.t 11), none⟩,
    ⟨some 84, .mov (.t 11), none⟩,
    ⟨some 85, .ment .i (.int .i64 (0)) (.t 67) (.t 69), none⟩,
    ⟨some 86, .ext 1 (.t 85), none⟩,
    ⟨none, .mest (.t 67) (.t 86) (.t 82), none⟩,
    ⟨some 75, .ld1 (.t 74), none⟩,
    ⟨some 81, .ld1 (.t 80), none⟩,
    ⟨some 87, .ment .s (.int .i64 (0)) (.t 73) (.t 75), none⟩,
    ⟨some 88, .ext 1 (.t 87), none⟩,
    ⟨none, .mest (.t 73) (.t 88) (.t 83), none⟩,
    ⟨some 89, .ment .s (.int .i64 (0)) (.t 79) (.t 81), none⟩,
    ⟨some 90, .ext 1 (.t 89), none⟩,
    ⟨none, .mest (.t 79) (.t 90) (.t 84), none⟩]
def A_table_Build_28 : List AOper := [⟨some 64, .mov (.t 8), none⟩,
    ⟨some 65, .nilc (.t 64), none⟩,
    ⟨some 66, .faddr 3 (.t 65), none⟩,
    ⟨some 67, .ld1 (.t 66), none⟩,
    ⟨some 68, .faddr 0 (.t 12), none⟩,
    ⟨some 69, .ld1 (.t 68), none⟩,
    ⟨some 70, .mov (.t 8), none⟩,
    ⟨some 71, .nilc (.t 70), none⟩,
    ⟨some 72, .faddr 4 (.t 71), none⟩,
    ⟨some 73, .ld1 (.t 72), none⟩,
    ⟨some 74, .faddr 1 (.t 12), none⟩,
    ⟨some 76, .mov (.t 8), none⟩,
    ⟨some 77, .nilc (.t 76), none⟩,
    ⟨some 78, .faddr 5 (.t 77), none⟩,
    ⟨some 79, .ld1 (.t 78), none⟩,
    ⟨some 80, .faddr 2 (.t 12), none⟩,
    ⟨some 82, .mov (.t 11), none⟩,
    ⟨some 83, .mov (.t 11), none⟩,
    ⟨some 84, .mov (.t 11), none⟩,
    ⟨some 85, .ment .i (.int .i64 (0)) (.t 67) (.t 69), none⟩,
    ⟨some 86, .ext 1 (.t 85), none⟩,
    ⟨none, .mest (.t 67) (.t 86) (.t 82), none⟩,
    ⟨some 75, .ld1 (.t 74), none⟩,
    ⟨some 87, .ment .s (.int .i64 (0)) (.t 73) (.t 75), none⟩,
    ⟨some 88, .ext 1 (.t 87), none⟩,
    ⟨some 81, .ld1 (.t 80), none⟩,
    ⟨none, .mest (.t 73) (.t 88) (.t 83), none⟩,
    ⟨some 89, .ment .s (.int .i64 (0)) (.t 79) (.t 81), none⟩,
    ⟨some 90, .ext 1 (.t 89), none⟩,
    ⟨none, .mest (.t 79) (.t 90) (.t 84), none⟩]
def A_table_Build_29 : List AOper := [⟨some 64, .mov (.t 8), none⟩,
    ⟨some 65, .nilc (.t 64), none⟩,
    ⟨some 66, .faddr 3 (.t 65), none⟩,
    ⟨some 67, .ld1 (.t 66), none⟩,
    ⟨some 68, .faddr 0 (.t 12), none⟩,
    ⟨some 69, .ld1 (.t 68), none⟩,
    ⟨some 70, .mov (.t 8), none⟩,
    ⟨some 71, .nilc (.t 70), none⟩,
    ⟨some 72, .faddr 4 (.t 71), none⟩,
    ⟨some 73, .ld1 (.t 72), none⟩,
    ⟨some 74, .faddr 1 (.t 12), none⟩,
    ⟨some 76, .mov (.t 8), none⟩,
    ⟨some 77, .nilc (.t 76), none⟩,
    ⟨some 78, .faddr 5 (.t 77), none⟩,
    ⟨some 79, .ld1 (.t 78), none⟩,
    ⟨some 80, .faddr 2 (.t 12), none⟩,
    ⟨some 82, .mov (.t 11), none⟩,
    ⟨some 83, .mov (.t 11), none⟩,
    ⟨some 84, .mov (.t 11), none⟩,
    ⟨some 85, .ment .i (.int .i64 (0)) (.t 67) (.t 69), none⟩,
    ⟨some 86, .ext 1 (.t 85), none⟩,
    ⟨none, .mest (.t 67) (.t 86) (.t 82), none⟩,
    ⟨some 75, .ld1 (.t 74), none⟩,
    ⟨some 87, .ment .s (.int .i64 (0)) (.t 73) (.t 75), none⟩,
    ⟨some 88, .ext 1 (.t 87), none⟩,
    ⟨none, .mest (.t 73) (.t 88) (.t 83), none⟩,
    ⟨some 81, .ld1 (.t 80), none⟩,
    ⟨some 89, .ment .s (.int .i64 (0)) (.t 79) (.t 81), none⟩,
    ⟨some 90, .ext 1 (.t 89), none⟩,
    ⟨none, .mest (.t 79) (.t 90) (.t 84), none⟩]
def A_table_Build_30 : List AOper := [⟨some 91, .bini .add (.t 59) (.c (.int .i64 (1))), none⟩,
    ⟨some 59, .mov (.t 91), none⟩]
def A_table_Build_31 : ACode := (.seq (.ops [⟨some 60, .bini .lss (.t 59) (.t 58), none⟩]) (.seq (.cond (.t 60) .skip (.exit 2)) (.seq (.block 3 (.seq (.ops A_table_Build_12) (.alts [64, 65, 66, 67, 68, 69, 70, 71, 72, 73, 74, 75, 76, 77, 78, 79, 80, 81, 82, 83, 84, 85, 86, 87, 88, 89, 90] [A_table_Build_13, A_table_Build_14, A_table_Build_15, A_table_Build_16, A_table_Build_17, A_table_Build_18, A_table_Build_19, A_table_Build_20, A_table_Build_21, A_table_Build_22, A_table_Build_23, A_table_Build_24, A_table_Build_25, A_table_Build_26, A_table_Build_27, A_table_Build_28, A_table_Build_29]))) (.ops A_table_Build_30))))
def A_table_Build_32 : List AOper := [⟨some 92, .mov (.t 8), none⟩,
    ⟨some 4, .mov (.t 92), none⟩,
    ⟨some 5, .mov (.c (.int .i64 (0))), none⟩]
def A_table_Build : ACode := (.seq (.ops A_table_Build_0) (.seq (.ops A_table_Build_1) (.seq (.seq (.ops A_table_Build_2) (.cond (.t 20) (.seq (.ops A_table_Build_3) .ret) .skip)) (.seq (.ops A_table_Build_4) (.seq (.seq (.ops A_table_Build_5) (.block 0 (.loop A_table_Build_9))) (.seq (.ops A_table_Build_10) (.seq (.seq (.ops A_table_Build_11) (.block 2 (.loop A_table_Build_31))) (.seq (.ops A_table_Build_32) .ret))))))))
def R_table_Build : List ARes := [.tmp 4, .tmp 5]
def T_table_Build : FC := ⟨93, A_table_Build, R_table_Build⟩

-- (*internal/sync.Mutex).Lock
abbrev F_internal_sync_Mutex_Lock : Nat := 341
def A_internal_sync_Mutex_Lock_0 : List AOper := [⟨some 3, .mov (.t 0), none⟩,
    ⟨some 4, .nilc (.t 3), none⟩,
    ⟨some 5, .faddr 0 (.t 4), none⟩,
    ⟨some 6, .cas .i32 (.t 5) (.c (.int .i32 (0))) (.c (.int .i32 (1))), none⟩]
def A_internal_sync_Mutex_Lock_1 : List AOper := [⟨some 8, .mov (.t 0), none⟩,
    ⟨some 9, .upc (.t 8), none⟩,
    ⟨some 10, .rac (.t 9), none⟩]
def A_internal_sync_Mutex_Lock_2 : List AOper := [⟨some 11, .mov (.t 0), none⟩,
    ⟨some 12, .call 352 [(.t 11)], none⟩]
def A_internal_sync_Mutex_Lock : ACode := (.seq (.ops [⟨some 2, .mov (.c (.tup [])), none⟩]) (.seq (.seq (.ops A_internal_sync_Mutex_Lock_0) (.cond (.t 6) (.seq (.cond (.c (.bool true)) (.seq (.ops [⟨some 7, .mov (.c (.tup [])), none⟩]) (.ops A_internal_sync_Mutex_Lock_1)) .skip) .ret) .skip)) (.ops A_internal_sync_Mutex_Lock_2)))
def R_internal_sync_Mutex_Lock : List ARes := []
def T_internal_sync_Mutex_Lock : FC := ⟨13, A_internal_sync_Mutex_Lock, R_internal_sync_Mutex_Lock⟩

-- (*internal/sync.Mutex).Unlock
abbrev F_internal_sync_Mutex_Unlock : Nat := 342
def A_internal_sync_Mutex_Unlock_0 : List AOper := [⟨some 3, .mov (.t 0), none⟩,
    ⟨some 4, .nilc (.t 3), none⟩,
    ⟨some 5, .faddr 0 (.t 4), none⟩,
    ⟨some 6, .ld1 (.t 5), none⟩]
def A_internal_sync_Mutex_Unlock_1 : List AOper := [⟨some 7, .mov (.t 0), none⟩,
    ⟨some 8, .upc (.t 7), none⟩,
    ⟨some 9, .rac (.t 8), none⟩]
def A_internal_sync_Mutex_Unlock_2 : List AOper := [⟨some 11, .mov (.t 0), none⟩,
    ⟨some 12, .nilc (.t 11), none⟩,
    ⟨some 13, .faddr 0 (.t 12), none⟩,
    ⟨some 14, .xadd .i32 (.t 13) (.c (.int .i32 (-1))), none⟩,
    ⟨some 2, .mov (.t 14), none⟩]
def A_internal_sync_Mutex_Unlock_3 : List AOper := [⟨some 15, .mov (.t 2), none⟩,
    ⟨some 16, .bini .neq (.t 15) (.c (.int .i32 (0))), none⟩]
def A_internal_sync_Mutex_Unlock_4 : List AOper := [⟨some 17, .mov (.t 0), none⟩,
    ⟨some 18, .mov (.t 2), none⟩,
    ⟨some 19, .call 355 [(.t 17), (.t 18)], none⟩]
def A_internal_sync_Mutex_Unlock : ACode := (.seq (.cond (.c (.bool true)) (.seq (.ops A_internal_sync_Mutex_Unlock_0) (.seq (.ops A_internal_sync_Mutex_Unlock_1) (.ops [⟨some 10, .mov (.c (.tup [])), none⟩]))) .skip) (.seq (.ops A_internal_sync_Mutex_Unlock_2) (.seq (.seq (.ops A_internal_sync_Mutex_Unlock_3) (.cond (.t 16) (.ops A_internal_sync_Mutex_Unlock_4) .skip)) (.ops [⟨some 20, .mov (.c (.tup [])), none⟩]))))
def R_internal_sync_Mutex_Unlock : List ARes := []
def T_internal_sync_Mutex_Unlock : FC := ⟨21, A_internal_sync_Mutex_Unlock, R_internal_sync_Mutex_Unlock⟩

-- (*lexicon/link.Linked).Message
abbrev F_link_Linked_Message : Nat := 343
def A_link_Linked_Message_0 : List AOper := [⟨some 4, .box 72 7 (.c (.agg [.str [], .nils, .nils, .nils, .nils, .nils, .nils])), none⟩,
    ⟨some 5, .mov (.c (.bool false)), none⟩]
def A_link_Linked_Message_1 : List AOper := [⟨some 9, .mov (.t 0), none⟩,
    ⟨some 10, .nilc (.t 9), none⟩,
    ⟨some 11, .faddr 3 (.t 10), none⟩,
    ⟨some 12, .ld1 (.t 11), none⟩,
    ⟨some 13, .mov (.t 1), none⟩,
    ⟨some 14, .mlook .s (.agg [.str [], .nils, .nils, .nils, .nils, .nils, .nils]) true (.t 12) (.t 13), none⟩,
    ⟨some 8, .mov (.t 14), none⟩,
    ⟨some 15, .ext 0 (.t 8), none⟩,
    ⟨some 16, .ext 1 (.t 8), none⟩,
    ⟨some 6, .box 72 7 (.c (.agg [.str [], .nils, .nils, .nils, .nils, .nils, .nils])), none⟩,
    ⟨none, .st 7 (.t 6) (.t 15), none⟩,
    ⟨some 7, .mov (.t 16), none⟩]
def A_link_Linked_Message_2 : List AOper := [⟨some 17, .lda 7 (.t 6), none⟩,
    ⟨some 18, .call 87 [(.t 17)], none⟩,
    ⟨some 19, .mov (.t 7), none⟩,
    ⟨none, .st 7 (.t 4) (.t 18), none⟩,
    ⟨some 5, .mov (.t 19), none⟩]
def A_link_Linked_Message : ACode := (.seq (.ops A_link_Linked_Message_0) (.seq (.ops A_link_Linked_Message_1) (.seq (.ops A_link_Linked_Message_2) .ret)))
def R_link_Linked_Message : List ARes := [.cella 4 7, .tmp 5]
def T_link_Linked_Message : FC := ⟨20, A_link_Linked_Message, R_link_Linked_Message⟩

-- lexicon/table.row
abbrev F_table_row : Nat := 344
def A_table_row_0 : List AOper := [⟨some 1, .box 68 9 (.t 0), none⟩,
    ⟨some 2, .box 170 9 (.c (.agg [.int .i32 (0), .str [], .str [], .int .u8 (0), .int .u8 (0), .int .u8 (0), .bool false, .int .i64 (0), .str []])), none⟩]
def A_table_row_1 : List AOper := [⟨some 4, .faddr 1 (.t 1), none⟩,
    ⟨some 5, .ld1 (.t 4), none⟩,
    ⟨some 6, .faddr 0 (.t 1), none⟩,
    ⟨some 7, .ld1 (.t 6), none⟩,
    ⟨some 8, .faddr 8 (.t 1), none⟩,
    ⟨some 9, .ld1 (.t 8), none⟩,
    ⟨some 10, .faddr 0 (.t 1), none⟩,
    ⟨some 11, .ld1 (.t 10), none⟩,
    ⟨some 15, .faddr 2 (.t 1), none⟩,
    ⟨some 16, .ld1 (.t 15), none⟩,
    ⟨some 17, .faddr 3 (.t 1), none⟩,
    ⟨some 18, .ld1 (.t 17), none⟩,
    ⟨some 19, .faddr 5 (.t 1), none⟩,
    ⟨some 20, .ld1 (.t 19), none⟩,
    ⟨some 21, .faddr 2 (.t 1), none⟩,
    ⟨some 22, .ld1 (.t 21), none⟩,
    ⟨some 23, .bini .eql (.t 22) (.c (.int .u8 (3))), none⟩,
    ⟨some 34, .faddr 6 (.t 1), none⟩,
    ⟨some 35, .ld1 (.t 34), none⟩,
    ⟨some 12, .acall 262 [(.t 11)], none⟩,
    ⟨some 13, .bslice 9 1 2 [.str []] [(0, 1, (.t 9)), (1, 1, (.t 12))], none⟩,
    ⟨some 14, .acall 356 [(.t 13)], none⟩,
    ⟨some 24, .mov (.t 23), none⟩,
    ⟨some 25, .faddr 3 (.t 1), some (24, true)⟩,
    ⟨some 26, .ld1 (.t 25), some (24, true)⟩,
    ⟨some 27, .acall 357 [(.t 26)], some (24, true)⟩,
    ⟨some 28, .pick (.t 24) (.t 27) (.c (.bool false)), none⟩,
    ⟨some 29, .mov (.t 28), none⟩,
    ⟨some 30, .faddr 7 (.t 1), some (29, true)⟩,
    ⟨some 31, .ld1 (.t 30), some (29, true)⟩,
    ⟨some 32, .bini .neq (.t 31) (.c (.int .u8 (2))), some (29, true)⟩,
    ⟨some 33, .pick (.t 29) (.t 32) (.c (.bool false)), none⟩,
    ⟨some 36, .build [.int .i32 (0), .str [], .str [], .int .u8 (0), .int .u8 (0), .int .u8 (0), .bool false, .int .i64 (0), .str []] [(0, 1, (.t 5)), (1, 1, (.t 7)), (2, 1, (.t 14)), (3, 1, (.t 16)), (4, 1, (.t 18)), (5, 1, (.t 20)), (6, 1, (.t 33)), (7, 1, (.t 35))], none⟩,
    ⟨some 3, .box 170 9 (.c (.agg [.int .i32 (0), .str [], .str [], .int .u8 (0), .int .u8 (0), .int .u8 (0), .bool false, .int .i64 (0), .str []])), none⟩,
    ⟨none, .st 9 (.t 3) (.t 36), none⟩]
def A_table_row_2 : List AOper := [⟨some 37, .faddr 3 (.t 1), none⟩,
    ⟨some 38, .ld1 (.t 37), none⟩,
    ⟨some 39, .bini .eql (.t 38) (.c (.int .u8 (11))), none⟩,
    ⟨some 40, .mov (.t 39), none⟩,
    ⟨some 41, .faddr 3 (.t 1), some (40, false)⟩,
    ⟨some 42, .ld1 (.t 41), some (40, false)⟩,
    ⟨some 43, .bini .eql (.t 42) (.c (.int .u8 (14))), some (40, false)⟩,
    ⟨some 44, .pick (.t 40) (.c (.bool true)) (.t 43), none⟩]
def A_table_row_3 : List AOper := [⟨some 45, .faddr 4 (.t 1), none⟩,
    ⟨some 46, .ld1 (.t 45), none⟩,
    ⟨some 47, .faddr 8 (.t 3), none⟩,
    ⟨none, .st 1 (.t 47) (.t 46), none⟩]
def A_table_row_4 : List AOper := [⟨some 48, .lda 9 (.t 3), none⟩,
    ⟨none, .st 9 (.t 2) (.t 48), none⟩]
def A_table_row : ACode := (.seq (.ops A_table_row_0) (.seq (.alts [4, 5, 6, 7, 8, 9, 10, 11, 12, 13, 14, 15, 16, 17, 18, 19, 20, 21, 22, 23, 24, 25, 26, 27, 28, 29, 30, 31, 32, 33, 34, 35, 36, 3] [A_table_row_1]) (.seq (.seq (.ops A_table_row_2) (.cond (.t 44) (.ops A_table_row_3) .skip)) (.seq (.ops A_table_row_4) .ret))))
def R_table_row : List ARes := [.cella 2 9]
def T_table_row : FC := ⟨49, A_table_row, R_table_row⟩

-- slices.SortStableFunc[[]lexicon/api.Row,lexicon/api.Row]
abbrev F_slices_SortStableFunc_api_Row_api_Row : Nat := 345
def A_slices_SortStableFunc_api_Row_api_Row_0 : List AOper := [⟨some 4, .mov (.t 0), none⟩,
    ⟨some 5, .mov (.t 0), none⟩,
    ⟨some 6, .lenl (.t 5), none⟩,
    ⟨some 7, .mov (.t 1), none⟩,
    ⟨some 8, .call 358 [(.t 4), (.t 6), (.t 7)], none⟩]
def A_slices_SortStableFunc_api_Row_api_Row : ACode := (.ops A_slices_SortStableFunc_api_Row_api_Row_0)
def R_slices_SortStableFunc_api_Row_api_Row : List ARes := []
def T_slices_SortStableFunc_api_Row_api_Row : FC := ⟨9, A_slices_SortStableFunc_api_Row_api_Row, R_slices_SortStableFunc_api_Row_api_Row⟩

-- lexicon/table.Build$1
abbrev F_table_Build_c1 : Nat := 346
def A_table_Build_c1_0 : List AOper := [⟨some 2, .box 170 9 (.t 0), none⟩,
    ⟨some 3, .box 170 9 (.t 1), none⟩,
    ⟨some 4, .mov (.c (.int .i64 (0))), none⟩]
def A_table_Build_c1_1 : List AOper := [⟨some 5, .faddr 0 (.t 2), none⟩,
    ⟨some 6, .ld1 (.t 5), none⟩,
    ⟨some 7, .faddr 0 (.t 3), none⟩,
    ⟨some 8, .ld1 (.t 7), none⟩,
    ⟨some 9, .call 347 [(.t 6), (.t 8)], none⟩,
    ⟨some 4, .mov (.t 9), none⟩]
def A_table_Build_c1 : ACode := (.seq (.ops A_table_Build_c1_0) (.seq (.ops A_table_Build_c1_1) .ret))
def R_table_Build_c1 : List ARes := [.tmp 4]
def T_table_Build_c1 : FC := ⟨10, A_table_Build_c1, R_table_Build_c1⟩

-- cmp.Compare[int32]
abbrev F_cmp_Compare_int32 : Nat := 347
def A_cmp_Compare_int32_0 : List AOper := [⟨some 7, .mov (.t 0), none⟩,
    ⟨some 8, .call 290 [(.t 7)], none⟩,
    ⟨some 5, .mov (.t 8), none⟩]
def A_cmp_Compare_int32_1 : List AOper := [⟨some 9, .mov (.t 1), none⟩,
    ⟨some 10, .call 290 [(.t 9)], none⟩,
    ⟨some 6, .mov (.t 10), none⟩]
def A_cmp_Compare_int32_2 : List AOper := [⟨some 14, .mov (.t 0), none⟩,
    ⟨some 15, .mov (.t 1), none⟩,
    ⟨some 16, .bini .lss (.t 14) (.t 15), none⟩]
def A_cmp_Compare_int32_3 : List AOper := [⟨some 17, .mov (.t 0), none⟩,
    ⟨some 18, .mov (.t 1), none⟩,
    ⟨some 19, .bini .gtr (.t 17) (.t 18), none⟩]
def A_cmp_Compare_int32 : ACode := (.seq (.ops [⟨some 4, .mov (.c (.int .i64 (0))), none⟩]) (.seq (.ops A_cmp_Compare_int32_0) (.seq (.ops A_cmp_Compare_int32_1) (.seq (.seq (.ops [⟨some 11, .mov (.t 5), none⟩]) (.cond (.t 11) (.seq (.seq (.ops [⟨some 12, .mov (.t 6), none⟩]) (.cond (.t 12) (.seq (.ops [⟨some 4, .mov (.c (.int .i64 (0))), none⟩]) .ret) .skip)) (.seq (.ops [⟨some 4, .mov (.c (.int .i64 (-1))), none⟩]) .ret)) .skip)) (.seq (.seq (.ops [⟨some 13, .mov (.t 6), none⟩]) (.cond (.t 13) (.seq (.ops [⟨some 4, .mov (.c (.int .i64 (1))), none⟩]) .ret) .skip)) (.seq (.seq (.ops A_cmp_Compare_int32_2) (.cond (.t 16) (.seq (.ops [⟨some 4, .mov (.c (.int .i64 (-1))), none⟩]) .ret) .skip)) (.seq (.seq (.ops A_cmp_Compare_int32_3) (.cond (.t 19) (.seq (.ops [⟨some 4, .mov (.c (.int .i64 (1))), none⟩]) .ret) .skip)) (.seq (.ops [⟨some 4, .mov (.c (.int .i64 (0))), none⟩]) .ret))))))))
def R_cmp_Compare_int32 : List ARes := [.tmp 4]
def T_cmp_Compare_int32 : FC := ⟨20, A_cmp_Compare_int32, R_cmp_Compare_int32⟩

-- cmp.Or[string]
abbrev F_cmp_Or_string : Nat := 356
def A_cmp_Or_string_0 : List AOper := [⟨some 6, .mov (.t 0), none⟩,
    ⟨some 7, .lenl (.t 6), none⟩,
    ⟨some 8, .mov (.c (.int .i64 (0))), none⟩]
def A_cmp_Or_string_1 : List AOper := [⟨some 10, .iaddr 9 1 (.t 6) (.t 8), none⟩,
    ⟨some 11, .ld1 (.t 10), none⟩,
    ⟨some 5, .mov (.t 11), none⟩]
def A_cmp_Or_string_2 : List AOper := [⟨some 12, .mov (.t 5), none⟩,
    ⟨some 13, .mov (.t 3), none⟩,
    ⟨some 14, .bins .neq (.t 12) (.t 13), none⟩]
def A_cmp_Or_string_3 : List AOper := [⟨some 15, .mov (.t 5), none⟩,
    ⟨some 2, .mov (.t 15), none⟩]
def A_cmp_Or_string_4 : List AOper := [⟨some 16, .bini .add (.t 8) (.c (.int .i64 (1))), none⟩,
    ⟨some 8, .mov (.t 16), none⟩]
def A_cmp_Or_string_5 : ACode := (.seq (.ops [⟨some 9, .bini .lss (.t 8) (.t 7), none⟩]) (.seq (.cond (.t 9) .skip (.exit 0)) (.seq (.block 1 (.seq (.ops A_cmp_Or_string_1) (.seq (.ops A_cmp_Or_string_2) (.cond (.t 14) (.seq (.ops A_cmp_Or_string_3) .ret) .skip)))) (.ops A_cmp_Or_string_4))))
def A_cmp_Or_string_6 : List AOper := [⟨some 17, .mov (.t 3), none⟩,
    ⟨some 2, .mov (.t 17), none⟩]
def A_cmp_Or_string : ACode := (.seq (.ops [⟨some 2, .mov (.c (.str [])), none⟩]) (.seq (.ops [⟨some 3, .mov (.c (.str [])), none⟩]) (.seq (.seq (.ops A_cmp_Or_string_0) (.block 0 (.loop A_cmp_Or_string_5))) (.seq (.ops A_cmp_Or_string_6) .ret))))
def R_cmp_Or_string : List ARes := [.tmp 2]
def T_cmp_Or_string : FC := ⟨18, A_cmp_Or_string, R_cmp_Or_string⟩

-- lexicon/table.packs
abbrev F_table_packs : Nat := 357
def A_table_packs_0 : List AOper := [⟨some 3, .mov (.t 0), none⟩,
    ⟨some 4, .bini .neq (.t 3) (.c (.int .u8 (9))), none⟩,
    ⟨some 5, .mov (.t 4), none⟩,
    ⟨some 6, .mov (.t 0), some (5, true)⟩,
    ⟨some 7, .bini .neq (.t 6) (.c (.int .u8 (12))), some (5, true)⟩,
    ⟨some 8, .pick (.t 5) (.t 7) (.c (.bool false)), none⟩,
    ⟨some 9, .mov (.t 8), none⟩,
    ⟨some 10, .mov (.t 0), some (9, true)⟩,
    ⟨some 11, .bini .neq (.t 10) (.c (.int .u8 (11))), some (9, true)⟩,
    ⟨some 12, .pick (.t 9) (.t 11) (.c (.bool false)), none⟩,
    ⟨some 2, .mov (.t 12), none⟩]
def A_table_packs : ACode := (.seq (.ops [⟨some 2, .mov (.c (.bool false)), none⟩]) (.seq (.ops A_table_packs_0) .ret))
def R_table_packs : List ARes := [.tmp 2]
def T_table_packs : FC := ⟨13, A_table_packs, R_table_packs⟩

-- slices.stableCmpFunc[lexicon/api.Row]
abbrev F_slices_stableCmpFunc_api_Row : Nat := 358
def A_slices_stableCmpFunc_api_Row_0 : List AOper := [⟨some 10, .mov (.t 6), none⟩,
    ⟨some 7, .mov (.c (.int .i64 (0))), none⟩,
    ⟨some 8, .mov (.t 10), none⟩]
def A_slices_stableCmpFunc_api_Row_1 : List AOper := [⟨some 11, .mov (.t 8), none⟩,
    ⟨some 12, .mov (.t 1), none⟩,
    ⟨some 13, .bini .leq (.t 11) (.t 12), none⟩]
def A_slices_stableCmpFunc_api_Row_2 : List AOper := [⟨some 14, .mov (.t 0), none⟩,
    ⟨some 15, .mov (.t 7), none⟩,
    ⟨some 16, .mov (.t 8), none⟩,
    ⟨some 17, .mov (.t 2), none⟩,
    ⟨some 18, .call 366 [(.t 14), (.t 15), (.t 16), (.t 17)], none⟩]
def A_slices_stableCmpFunc_api_Row_3 : List AOper := [⟨some 19, .mov (.t 8), none⟩,
    ⟨some 7, .mov (.t 19), none⟩]
def A_slices_stableCmpFunc_api_Row_4 : List AOper := [⟨some 20, .mov (.t 8), none⟩,
    ⟨some 21, .mov (.t 6), none⟩,
    ⟨some 22, .bini .add (.t 20) (.t 21), none⟩,
    ⟨some 8, .mov (.t 22), none⟩]
def A_slices_stableCmpFunc_api_Row_5 : ACode := (.seq (.seq (.ops A_slices_stableCmpFunc_api_Row_1) (.cond (.t 13) .skip (.exit 0))) (.block 1 (.seq (.ops A_slices_stableCmpFunc_api_Row_2) (.seq (.ops A_slices_stableCmpFunc_api_Row_3) (.ops A_slices_stableCmpFunc_api_Row_4)))))
def A_slices_stableCmpFunc_api_Row_6 : List AOper := [⟨some 23, .mov (.t 0), none⟩,
    ⟨some 24, .mov (.t 7), none⟩,
    ⟨some 25, .mov (.t 1), none⟩,
    ⟨some 26, .mov (.t 2), none⟩,
    ⟨some 27, .call 366 [(.t 23), (.t 24), (.t 25), (.t 26)], none⟩]
def A_slices_stableCmpFunc_api_Row_7 : List AOper := [⟨some 28, .mov (.t 6), none⟩,
    ⟨some 29, .mov (.t 1), none⟩,
    ⟨some 30, .bini .lss (.t 28) (.t 29), none⟩]
def A_slices_stableCmpFunc_api_Row_8 : List AOper := [⟨some 31, .mov (.t 6), none⟩,
    ⟨some 32, .bini .mul (.c (.int .i64 (2))) (.t 31), none⟩,
    ⟨some 7, .mov (.c (.int .i64 (0))), none⟩,
    ⟨some 8, .mov (.t 32), none⟩]
def A_slices_stableCmpFunc_api_Row_9 : List AOper := [⟨some 33, .mov (.t 8), none⟩,
    ⟨some 34, .mov (.t 1), none⟩,
    ⟨some 35, .bini .leq (.t 33) (.t 34), none⟩]
def A_slices_stableCmpFunc_api_Row_10 : List AOper := [⟨some 36, .mov (.t 0), none⟩,
    ⟨some 37, .mov (.t 7), none⟩,
    ⟨some 38, .mov (.t 7), none⟩,
    ⟨some 39, .mov (.t 6), none⟩,
    ⟨some 40, .bini .add (.t 38) (.t 39), none⟩,
    ⟨some 41, .mov (.t 8), none⟩,
    ⟨some 42, .mov (.t 2), none⟩,
    ⟨some 43, .call 367 [(.t 36), (.t 37), (.t 40), (.t 41), (.t 42)], none⟩]
def A_slices_stableCmpFunc_api_Row_11 : List AOper := [⟨some 44, .mov (.t 8), none⟩,
    ⟨some 7, .mov (.t 44), none⟩]
def A_slices_stableCmpFunc_api_Row_12 : List AOper := [⟨some 45, .mov (.t 8), none⟩,
    ⟨some 46, .mov (.t 6), none⟩,
    ⟨some 47, .bini .mul (.c (.int .i64 (2))) (.t 46), none⟩,
    ⟨some 48, .bini .add (.t 45) (.t 47), none⟩,
    ⟨some 8, .mov (.t 48), none⟩]
def A_slices_stableCmpFunc_api_Row_13 : ACode := (.seq (.seq (.ops A_slices_stableCmpFunc_api_Row_9) (.cond (.t 35) .skip (.exit 4))) (.block 5 (.seq (.ops A_slices_stableCmpFunc_api_Row_10) (.seq (.ops A_slices_stableCmpFunc_api_Row_11) (.ops A_slices_stableCmpFunc_api_Row_12)))))
def A_slices_stableCmpFunc_api_Row_14 : List AOper := [⟨some 49, .mov (.t 7), none⟩,
    ⟨some 50, .mov (.t 6), none⟩,
    ⟨some 51, .bini .add (.t 49) (.t 50), none⟩,
    ⟨some 9, .mov (.t 51), none⟩]
def A_slices_stableCmpFunc_api_Row_15 : List AOper := [⟨some 52, .mov (.t 9), none⟩,
    ⟨some 53, .mov (.t 1), none⟩,
    ⟨some 54, .bini .lss (.t 52) (.t 53), none⟩]
def A_slices_stableCmpFunc_api_Row_16 : List AOper := [⟨some 55, .mov (.t 0), none⟩,
    ⟨some 56, .mov (.t 7), none⟩,
    ⟨some 57, .mov (.t 9), none⟩,
    ⟨some 58, .mov (.t 1), none⟩,
    ⟨some 59, .mov (.t 2), none⟩,
    ⟨some 60, .call 367 [(.t 55), (.t 56), (.t 57), (.t 58), (.t 59)], none⟩]
def A_slices_stableCmpFunc_api_Row_17 : List AOper := [⟨some 61, .mov (.t 6), none⟩,
    ⟨some 62, .bini .mul (.t 61) (.c (.int .i64 (2))), none⟩,
    ⟨some 6, .mov (.t 62), none⟩]
def A_slices_stableCmpFunc_api_Row_18 : ACode := (.seq (.seq (.ops A_slices_stableCmpFunc_api_Row_7) (.cond (.t 30) .skip (.exit 2))) (.block 3 (.seq (.ops A_slices_stableCmpFunc_api_Row_8) (.seq (.block 4 (.loop A_slices_stableCmpFunc_api_Row_13)) (.seq (.seq (.ops A_slices_stableCmpFunc_api_Row_14) (.seq (.ops A_slices_stableCmpFunc_api_Row_15) (.cond (.t 54) (.ops A_slices_stableCmpFunc_api_Row_16) .skip))) (.ops A_slices_stableCmpFunc_api_Row_17))))))
def A_slices_stableCmpFunc_api_Row : ACode := (.seq (.ops [⟨some 6, .mov (.c (.int .i64 (20))), none⟩]) (.seq (.ops A_slices_stableCmpFunc_api_Row_0) (.seq (.block 0 (.loop A_slices_stableCmpFunc_api_Row_5)) (.seq (.ops A_slices_stableCmpFunc_api_Row_6) (.block 2 (.loop A_slices_stableCmpFunc_api_Row_18))))))
def R_slices_stableCmpFunc_api_Row : List ARes := []
def T_slices_stableCmpFunc_api_Row : FC := ⟨63, A_slices_stableCmpFunc_api_Row, R_slices_stableCmpFunc_api_Row⟩

-- slices.insertionSortCmpFunc[lexicon/api.Row]
abbrev F_slices_insertionSortCmpFunc_api_Row : Nat := 366
def A_slices_insertionSortCmpFunc_api_Row_0 : List AOper := [⟨some 10, .mov (.t 1), none⟩,
    ⟨some 11, .bini .add (.t 10) (.c (.int .i64 (1))), none⟩,
    ⟨some 8, .mov (.t 11), none⟩]
def A_slices_insertionSortCmpFunc_api_Row_1 : List AOper := [⟨some 12, .mov (.t 8), none⟩,
    ⟨some 13, .mov (.t 2), none⟩,
    ⟨some 14, .bini .lss (.t 12) (.t 13), none⟩]
def A_slices_insertionSortCmpFunc_api_Row_2 : List AOper := [⟨some 17, .mov (.t 8), none⟩,
    ⟨some 9, .mov (.t 17), none⟩]
def A_slices_insertionSortCmpFunc_api_Row_3 : List AOper := [⟨some 18, .mov (.t 9), none⟩,
    ⟨some 19, .mov (.t 1), none⟩,
    ⟨some 20, .bini .gtr (.t 18) (.t 19), none⟩,
    ⟨some 21, .mov (.t 20), none⟩,
    ⟨some 22, .mov (.t 3), some (21, true)⟩,
    ⟨some 23, .mov (.t 0), some (21, true)⟩,
    ⟨some 24, .mov (.t 9), some (21, true)⟩,
    ⟨some 25, .iaddr 170 9 (.t 23) (.t 24), some (21, true)⟩,
    ⟨some 26, .lda 9 (.t 25), some (21, true)⟩,
    ⟨some 27, .mov (.t 0), some (21, true)⟩,
    ⟨some 28, .mov (.t 9), some (21, true)⟩,
    ⟨some 29, .bini .sub (.t 28) (.c (.int .i64 (1))), some (21, true)⟩,
    ⟨some 30, .iaddr 170 9 (.t 27) (.t 29), some (21, true)⟩,
    ⟨some 31, .lda 9 (.t 30), some (21, true)⟩,
    ⟨some 32, .callv (.t 22) [(.t 26), (.t 31)], some (21, true)⟩,
    ⟨some 33, .bini .lss (.t 32) (.c (.int .i64 (0))), some (21, true)⟩,
    ⟨some 34, .pick (.t 21) (.t 33) (.c (.bool false)), none⟩]
def A_slices_insertionSortCmpFunc_api_Row_4 : List AOper := [⟨some 37, .mov (.t 0), none⟩,
    ⟨some 38, .mov (.t 9), none⟩,
    ⟨some 39, .mov (.t 0), none⟩,
    ⟨some 40, .mov (.t 9), none⟩,
    ⟨some 41, .bini .sub (.t 40) (.c (.int .i64 (1))), none⟩,
    ⟨some 42, .mov (.t 0), none⟩,
    ⟨some 43, .mov (.t 9), none⟩,
    ⟨some 44, .bini .sub (.t 43) (.c (.int .i64 (1))), none⟩,
    ⟨some 45, .iaddr 170 9 (.t 42) (.t 44), none⟩,
    ⟨some 46, .lda 9 (.t 45), none⟩,
    ⟨some 47, .mov (.t 0), none⟩,
    ⟨some 48, .mov (.t 9), none⟩,
    ⟨some 49, .iaddr 170 9 (.t 47) (.t 48), none⟩,
    ⟨some 50, .lda 9 (.t 49), none⟩,
    ⟨some 51, .iaddr 170 9 (.t 37) (.t 38), none⟩,
    ⟨none, .st 9 (.t 51) (.t 46), none⟩,
    ⟨some 52, .iaddr 170 9 (.t 39) (.t 41), none⟩,
    ⟨none, .st 9 (.t 52) (.t 50), none⟩]
def A_slices_insertionSortCmpFunc_api_Row_5 : List AOper := [⟨some 35, .mov (.t 9), none⟩,
    ⟨some 36, .bini .sub (.t 35) (.c (.int .i64 (1))), none⟩,
    ⟨some 9, .mov (.t 36), none⟩]
def A_slices_insertionSortCmpFunc_api_Row_6 : ACode := (.seq (.seq (.alts [18, 19, 20, 21, 22, 23, 24, 25, 26, 27, 28, 29, 30, 31, 32, 33, 34] [A_slices_insertionSortCmpFunc_api_Row_3]) (.cond (.t 34) .skip (.exit 2))) (.seq (.block 3 (.alts [37, 38, 39, 40, 41, 42, 43, 44, 45, 46, 47, 48, 49, 50, 51, 52] [A_slices_insertionSortCmpFunc_api_Row_4])) (.ops A_slices_insertionSortCmpFunc_api_Row_5)))
def A_slices_insertionSortCmpFunc_api_Row_7 : List AOper := [⟨some 15, .mov (.t 8), none⟩,
    ⟨some 16, .bini .add (.t 15) (.c (.int .i64 (1))), none⟩,
    ⟨some 8, .mov (.t 16), none⟩]
def A_slices_insertionSortCmpFunc_api_Row_8 : ACode := (.seq (.seq (.ops A_slices_insertionSortCmpFunc_api_Row_1) (.cond (.t 14) .skip (.exit 0))) (.seq (.block 1 (.seq (.ops A_slices_insertionSortCmpFunc_api_Row_2) (.block 2 (.loop A_slices_insertionSortCmpFunc_api_Row_6)))) (.ops A_slices_insertionSortCmpFunc_api_Row_7)))
def A_slices_insertionSortCmpFunc_api_Row : ACode := (.seq (.ops A_slices_insertionSortCmpFunc_api_Row_0) (.block 0 (.loop A_slices_insertionSortCmpFunc_api_Row_8)))
def R_slices_insertionSortCmpFunc_api_Row : List ARes := []
def T_slices_insertionSortCmpFunc_api_Row : FC := ⟨53, A_slices_insertionSortCmpFunc_api_Row, R_slices_insertionSortCmpFunc_api_Row⟩
end Go.Proofs.YtmnhoegjccdkpadGreatDoor
