/- The codes of functions as the logic has them. Printed by program (gen_all.py). -/
import Derived.Test.YtmnhoegjccdkpadGreatDoorEc
namespace Go.Proofs.YtmnhoegjccdkpadGreatDoor
open Go.L

-- lexicon/lexiconlaw12.DecodeNumbers
abbrev F_lexiconlaw12_DecodeNumbers : Nat := 3
def A_lexiconlaw12_DecodeNumbers_0 : List AOper := [⟨some 2, .call 4 [], none⟩,
    ⟨some 1, .mov (.t 2), none⟩]
def A_lexiconlaw12_DecodeNumbers_1 : List AOper := [⟨some 3, .mov (.t 1), none⟩,
    ⟨some 4, .mov (.t 3), none⟩,
    ⟨some 5, .pick (.t 4) (.c (.bool true)) (.c (.bool false)), none⟩,
    ⟨some 6, .mov (.t 5), none⟩,
    ⟨some 7, .pick (.t 6) (.c (.bool true)) (.c (.bool false)), none⟩,
    ⟨some 8, .mov (.t 7), none⟩,
    ⟨some 9, .pick (.t 8) (.c (.bool true)) (.c (.bool false)), none⟩,
    ⟨some 10, .mov (.t 9), none⟩,
    ⟨some 11, .pick (.t 10) (.c (.bool true)) (.c (.bool false)), none⟩,
    ⟨some 12, .mov (.t 11), none⟩,
    ⟨some 13, .pick (.t 12) (.c (.bool true)) (.c (.bool false)), none⟩,
    ⟨some 14, .mov (.t 13), none⟩,
    ⟨some 15, .pick (.t 14) (.c (.bool true)) (.c (.bool false)), none⟩,
    ⟨some 0, .mov (.t 15), none⟩]
def A_lexiconlaw12_DecodeNumbers : ACode := (.seq (.ops [⟨some 0, .mov (.c (.bool false)), none⟩]) (.seq (.ops A_lexiconlaw12_DecodeNumbers_0) (.seq (.ops A_lexiconlaw12_DecodeNumbers_1) .ret)))
def R_lexiconlaw12_DecodeNumbers : List ARes := [.tmp 0]
def T_lexiconlaw12_DecodeNumbers : FC := ⟨16, A_lexiconlaw12_DecodeNumbers, R_lexiconlaw12_DecodeNumbers⟩

-- lexicon/lexiconlaw12.awake
abbrev F_lexiconlaw12_awake : Nat := 4
def A_lexiconlaw12_awake_0 : List AOper := [⟨some 15, .call 6 [], none⟩,
    ⟨some 16, .bslice 33 5 1 [.str [], .str [], .nils, .nils, .nils] [(0, 5, (.t 15))], none⟩,
    ⟨some 17, .call 5 [(.t 16)], none⟩,
    ⟨some 14, .mov (.t 17), none⟩,
    ⟨some 18, .ext 0 (.t 14), none⟩,
    ⟨some 19, .ext 1 (.t 14), none⟩,
    ⟨some 2, .box 26 2 (.c (.agg [.int .i64 (0), .str []])), none⟩,
    ⟨some 1, .mov (.t 18), none⟩,
    ⟨none, .st 2 (.t 2) (.t 19), none⟩]
def A_lexiconlaw12_awake_1 : List AOper := [⟨some 20, .mov (.t 1), none⟩,
    ⟨some 21, .isnil .pt false (.t 20), none⟩,
    ⟨some 22, .mov (.t 21), none⟩,
    ⟨some 23, .faddr 0 (.t 2), some (22, false)⟩,
    ⟨some 24, .ld1 (.t 23), some (22, false)⟩,
    ⟨some 25, .bini .neq (.t 24) (.c (.int .i64 (0))), some (22, false)⟩,
    ⟨some 26, .pick (.t 22) (.c (.bool true)) (.t 25), none⟩]
def A_lexiconlaw12_awake_2 : List AOper := [⟨some 27, .mov (.t 1), none⟩,
    ⟨some 28, .call 7 [(.t 27)], none⟩,
    ⟨some 3, .mov (.t 28), none⟩]
def A_lexiconlaw12_awake_3 : List AOper := [⟨some 29, .mov (.t 3), none⟩,
    ⟨some 30, .isnil .pt false (.t 29), none⟩]
def A_lexiconlaw12_awake_4 : List AOper := [⟨some 32, .mov (.t 3), none⟩,
    ⟨some 33, .mkifc 35 (.t 32), none⟩,
    ⟨some 34, .bslice 5 1 4 [.int .u8 (0)] [(0, 1, (.c (.int .u8 (8)))), (1, 1, (.c (.int .u8 (1)))), (2, 1, (.c (.int .u8 (8)))), (3, 1, (.c (.int .u8 (2))))], none⟩,
    ⟨some 35, .call 8 [(.t 33), (.c (.str [77])), (.t 34)], none⟩,
    ⟨some 31, .mov (.t 35), none⟩,
    ⟨some 36, .ext 0 (.t 31), none⟩,
    ⟨some 37, .ext 1 (.t 31), none⟩,
    ⟨some 38, .ext 2 (.t 31), none⟩,
    ⟨some 4, .box 40 3 (.c (.agg [.str [], .nils, .nils])), none⟩,
    ⟨none, .st 3 (.t 4) (.t 36), none⟩,
    ⟨some 5, .mov (.t 37), none⟩,
    ⟨some 6, .mov (.t 38), none⟩]
def A_lexiconlaw12_awake_5 : List AOper := [⟨some 40, .mov (.t 3), none⟩,
    ⟨some 41, .mkifc 35 (.t 40), none⟩,
    ⟨some 42, .bslice 5 1 13 [.int .u8 (0)] [(0, 1, (.c (.int .u8 (34)))), (1, 1, (.c (.int .u8 (2)))), (2, 1, (.c (.int .u8 (8)))), (3, 1, (.c (.int .u8 (1)))), (4, 1, (.c (.int .u8 (34)))), (5, 1, (.c (.int .u8 (3)))), (6, 1, (.c (.int .u8 (18)))), (7, 1, (.c (.int .u8 (1)))), (8, 1, (.c (.int .u8 (7)))), (9, 1, (.c (.int .u8 (48)))), (10, 1, (.c (.int .u8 (5)))), (11, 1, (.c (.int .u8 (58)))), (12, 1, (.c (.int .u8 (0))))], none⟩,
    ⟨some 43, .call 8 [(.t 41), (.c (.str [77])), (.t 42)], none⟩,
    ⟨some 39, .mov (.t 43), none⟩,
    ⟨some 44, .ext 0 (.t 39), none⟩,
    ⟨some 45, .ext 1 (.t 39), none⟩,
    ⟨some 46, .ext 2 (.t 39), none⟩,
    ⟨some 7, .box 40 3 (.c (.agg [.str [], .nils, .nils])), none⟩,
    ⟨none, .st 3 (.t 7) (.t 44), none⟩,
    ⟨some 8, .mov (.t 45), none⟩,
    ⟨some 9, .mov (.t 46), none⟩]
def A_lexiconlaw12_awake_6 : List AOper := [⟨some 48, .mov (.t 3), none⟩,
    ⟨some 49, .mkifc 35 (.t 48), none⟩,
    ⟨some 50, .bslice 5 1 1 [.int .u8 (0)] [(0, 1, (.c (.int .u8 (8))))], none⟩,
    ⟨some 51, .call 8 [(.t 49), (.c (.str [77])), (.t 50)], none⟩,
    ⟨some 47, .mov (.t 51), none⟩,
    ⟨some 52, .ext 0 (.t 47), none⟩,
    ⟨some 53, .ext 1 (.t 47), none⟩,
    ⟨some 54, .ext 2 (.t 47), none⟩,
    ⟨some 10, .box 40 3 (.c (.agg [.str [], .nils, .nils])), none⟩,
    ⟨none, .st 3 (.t 10) (.t 52), none⟩,
    ⟨some 11, .mov (.t 53), none⟩,
    ⟨some 12, .mov (.t 54), none⟩]
def A_lexiconlaw12_awake_7 : List AOper := [⟨some 55, .mov (.t 5), none⟩,
    ⟨some 56, .bini .neq (.t 55) (.c (.int .i64 (0))), none⟩,
    ⟨some 57, .mov (.t 56), none⟩,
    ⟨some 58, .mov (.t 8), some (57, false)⟩,
    ⟨some 59, .bini .neq (.t 58) (.c (.int .i64 (0))), some (57, false)⟩,
    ⟨some 60, .pick (.t 57) (.c (.bool true)) (.t 59), none⟩,
    ⟨some 61, .mov (.t 60), none⟩,
    ⟨some 62, .mov (.t 11), some (61, false)⟩,
    ⟨some 63, .bini .neq (.t 62) (.c (.int .i64 (10))), some (61, false)⟩,
    ⟨some 64, .pick (.t 61) (.c (.bool true)) (.t 63), none⟩,
    ⟨some 65, .mov (.t 64), none⟩,
    ⟨some 66, .mov (.t 12), some (65, false)⟩,
    ⟨some 67, .bini .neq (.t 66) (.c (.int .i64 (1))), some (65, false)⟩,
    ⟨some 68, .pick (.t 65) (.c (.bool true)) (.t 67), none⟩,
    ⟨some 69, .mov (.t 68), none⟩,
    ⟨some 70, .faddr 1 (.t 4), some (69, false)⟩,
    ⟨some 71, .ld1 (.t 70), some (69, false)⟩,
    ⟨some 72, .lenl (.t 71), some (69, false)⟩,
    ⟨some 73, .bini .neq (.t 72) (.c (.int .i64 (1))), some (69, false)⟩,
    ⟨some 74, .pick (.t 69) (.c (.bool true)) (.t 73), none⟩,
    ⟨some 75, .mov (.t 74), none⟩,
    ⟨some 76, .faddr 1 (.t 7), some (75, false)⟩,
    ⟨some 77, .ld1 (.t 76), some (75, false)⟩,
    ⟨some 78, .lenl (.t 77), some (75, false)⟩,
    ⟨some 79, .bini .neq (.t 78) (.c (.int .i64 (2))), some (75, false)⟩,
    ⟨some 80, .pick (.t 75) (.c (.bool true)) (.t 79), none⟩]
def A_lexiconlaw12_awake_8 : List AOper := [⟨some 81, .faddr 1 (.t 7), none⟩,
    ⟨some 82, .ld1 (.t 81), none⟩,
    ⟨some 83, .iaddr 49 3 (.t 82) (.c (.int .i64 (0))), none⟩,
    ⟨some 84, .faddr 2 (.t 83), none⟩,
    ⟨some 85, .ld1 (.t 84), none⟩,
    ⟨some 86, .iaddr 46 3 (.t 85) (.c (.int .i64 (0))), none⟩,
    ⟨some 87, .faddr 2 (.t 86), none⟩,
    ⟨some 88, .ld1 (.t 87), none⟩,
    ⟨some 13, .mov (.t 88), none⟩]
def A_lexiconlaw12_awake_9 : List AOper := [⟨some 89, .faddr 1 (.t 4), none⟩,
    ⟨some 90, .ld1 (.t 89), none⟩,
    ⟨some 91, .iaddr 49 3 (.t 90) (.c (.int .i64 (0))), none⟩,
    ⟨some 92, .faddr 2 (.t 91), none⟩,
    ⟨some 93, .ld1 (.t 92), none⟩,
    ⟨some 94, .lenl (.t 93), none⟩,
    ⟨some 95, .bini .eql (.t 94) (.c (.int .i64 (1))), none⟩,
    ⟨some 96, .mov (.t 95), none⟩,
    ⟨some 97, .faddr 1 (.t 4), some (96, true)⟩,
    ⟨some 98, .ld1 (.t 97), some (96, true)⟩,
    ⟨some 99, .iaddr 49 3 (.t 98) (.c (.int .i64 (0))), some (96, true)⟩,
    ⟨some 100, .faddr 2 (.t 99), some (96, true)⟩,
    ⟨some 101, .ld1 (.t 100), some (96, true)⟩,
    ⟨some 102, .iaddr 46 3 (.t 101) (.c (.int .i64 (0))), some (96, true)⟩,
    ⟨some 103, .faddr 0 (.t 102), some (96, true)⟩,
    ⟨some 104, .ld1 (.t 103), some (96, true)⟩,
    ⟨some 105, .bini .eql (.t 104) (.c (.int .u64 (2))), some (96, true)⟩,
    ⟨some 106, .pick (.t 96) (.t 105) (.c (.bool false)), none⟩,
    ⟨some 107, .mov (.t 106), none⟩,
    ⟨some 108, .mov (.t 13), some (107, true)⟩,
    ⟨some 109, .lenl (.t 108), some (107, true)⟩,
    ⟨some 110, .bini .eql (.t 109) (.c (.int .i64 (1))), some (107, true)⟩,
    ⟨some 111, .pick (.t 107) (.t 110) (.c (.bool false)), none⟩,
    ⟨some 112, .mov (.t 111), none⟩,
    ⟨some 113, .mov (.t 13), some (112, true)⟩,
    ⟨some 114, .iaddr 40 3 (.t 113) (.c (.int .i64 (0))), some (112, true)⟩,
    ⟨some 115, .faddr 1 (.t 114), some (112, true)⟩,
    ⟨some 116, .ld1 (.t 115), some (112, true)⟩,
    ⟨some 117, .lenl (.t 116), some (112, true)⟩,
    ⟨some 118, .bini .eql (.t 117) (.c (.int .i64 (2))), some (112, true)⟩,
    ⟨some 119, .pick (.t 112) (.t 118) (.c (.bool false)), none⟩,
    ⟨some 120, .mov (.t 119), none⟩,
    ⟨some 121, .faddr 1 (.t 7), some (120, true)⟩,
    ⟨some 122, .ld1 (.t 121), some (120, true)⟩,
    ⟨some 123, .iaddr 49 3 (.t 122) (.c (.int .i64 (1))), some (120, true)⟩,
    ⟨some 124, .faddr 0 (.t 123), some (120, true)⟩,
    ⟨some 125, .ld1 (.t 124), some (120, true)⟩,
    ⟨some 126, .bini .eql (.t 125) (.c (.int .i32 (7))), some (120, true)⟩,
    ⟨some 127, .pick (.t 120) (.t 126) (.c (.bool false)), none⟩,
    ⟨some 0, .mov (.t 127), none⟩]
def A_lexiconlaw12_awake : ACode := (.seq (.ops [⟨some 0, .mov (.c (.bool false)), none⟩]) (.seq (.ops A_lexiconlaw12_awake_0) (.seq (.seq (.ops A_lexiconlaw12_awake_1) (.cond (.t 26) (.seq (.ops [⟨some 0, .mov (.c (.bool false)), none⟩]) .ret) .skip)) (.seq (.ops A_lexiconlaw12_awake_2) (.seq (.seq (.ops A_lexiconlaw12_awake_3) (.cond (.t 30) (.seq (.ops [⟨some 0, .mov (.c (.bool false)), none⟩]) .ret) .skip)) (.seq (.ops A_lexiconlaw12_awake_4) (.seq (.ops A_lexiconlaw12_awake_5) (.seq (.ops A_lexiconlaw12_awake_6) (.seq (.seq (.ops A_lexiconlaw12_awake_7) (.cond (.t 80) (.seq (.ops [⟨some 0, .mov (.c (.bool false)), none⟩]) .ret) .skip)) (.seq (.ops A_lexiconlaw12_awake_8) (.seq (.ops A_lexiconlaw12_awake_9) .ret)))))))))))
def R_lexiconlaw12_awake : List ARes := [.tmp 0]
def T_lexiconlaw12_awake : FC := ⟨128, A_lexiconlaw12_awake, R_lexiconlaw12_awake⟩

-- lexicon/link.Of
abbrev F_link_Of : Nat := 5
def A_link_Of_0 : List AOper := [⟨some 2, .box 23 1 (.c (.nilp)), none⟩,
    ⟨some 3, .box 26 2 (.c (.agg [.int .i64 (0), .str []])), none⟩]
def A_link_Of_1 : List AOper := [⟨some 5, .mov (.t 0), none⟩,
    ⟨some 6, .lenl (.t 5), none⟩,
    ⟨some 7, .bini .gtr (.t 6) (.c (.int .i64 (256))), none⟩]
def A_link_Of_2 : List AOper := [⟨some 9, .mkmap, none⟩,
    ⟨some 10, .mkmap, none⟩,
    ⟨some 11, .mkmap, none⟩,
    ⟨some 12, .mkmap, none⟩,
    ⟨some 13, .mkmap, none⟩,
    ⟨some 14, .build [.nilm, .nils, .nilm, .nilm, .nilm, .nilm] [(0, 1, (.t 9)), (2, 1, (.t 10)), (3, 1, (.t 11)), (4, 1, (.t 12)), (5, 1, (.t 13))], none⟩,
    ⟨some 15, .box 62 6 (.t 14), none⟩,
    ⟨none, .st 1 (.t 2) (.t 15), none⟩]
def A_link_Of_3 : List AOper := [⟨some 16, .ld1 (.t 2), none⟩,
    ⟨some 17, .mov (.t 0), none⟩,
    ⟨some 18, .call 11 [(.t 16), (.t 17)], none⟩]
def A_link_Of_4 : List AOper := [⟨some 19, .ld1 (.t 2), none⟩,
    ⟨some 20, .call 12 [(.t 19)], none⟩]
def A_link_Of_5 : List AOper := [⟨some 21, .ld1 (.t 2), none⟩,
    ⟨some 22, .call 13 [(.t 21)], none⟩]
def A_link_Of_6 : List AOper := [⟨some 23, .ld1 (.t 2), none⟩,
    ⟨some 24, .call 14 [(.t 23)], none⟩]
def A_link_Of_7 : List AOper := [⟨some 25, .ld1 (.t 2), none⟩,
    ⟨some 26, .call 15 [(.t 25)], none⟩]
def A_link_Of_8 : List AOper := [⟨some 27, .ld1 (.t 2), none⟩,
    ⟨some 28, .call 16 [(.t 27)], none⟩]
def A_link_Of_9 : List AOper := [⟨some 29, .ld1 (.t 2), none⟩,
    ⟨some 30, .build [.int .i64 (0), .str []] [], none⟩,
    ⟨none, .st 1 (.t 2) (.t 29), none⟩,
    ⟨none, .st 2 (.t 3) (.t 30), none⟩]
def A_link_Of : ACode := (.seq (.ops A_link_Of_0) (.seq (.seq (.ops [⟨some 4, .mkfn 9 [] [(.t 2), (.t 3)], none⟩]) (.dfr (.t 4) [])) (.seq (.seq (.ops A_link_Of_1) (.cond (.t 7) (.ops [⟨some 8, .call 10 [(.c (.int .i64 (87))), (.c (.str []))], none⟩]) .skip)) (.seq (.ops A_link_Of_2) (.seq (.ops A_link_Of_3) (.seq (.ops A_link_Of_4) (.seq (.ops A_link_Of_5) (.seq (.ops A_link_Of_6) (.seq (.ops A_link_Of_7) (.seq (.ops A_link_Of_8) (.seq (.ops A_link_Of_9) .ret)))))))))))
def R_link_Of : List ARes := [.cell1 2, .cella 3 2]
def T_link_Of : FC := ⟨31, A_link_Of, R_link_Of⟩

-- lexicon/lexiconlaw12.little
abbrev F_lexiconlaw12_little : Nat := 6
def A_lexiconlaw12_little_0 : List AOper := [⟨some 2, .bslice 9 1 1 [.str []] [(0, 1, (.c (.str [111])))], none⟩,
    ⟨some 3, .build [.str [], .int .i32 (0), .int .u8 (0), .int .u8 (0), .str [], .int .u8 (0), .int .i64 (0), .int .u8 (0), .str []] [(0, 1, (.c (.str [97]))), (1, 1, (.c (.int .i32 (1)))), (2, 1, (.c (.int .u8 (1)))), (3, 1, (.c (.int .u8 (5))))], none⟩,
    ⟨some 4, .build [.str [], .int .i32 (0), .int .u8 (0), .int .u8 (0), .str [], .int .u8 (0), .int .i64 (0), .int .u8 (0), .str []] [(0, 1, (.c (.str [114]))), (1, 1, (.c (.int .i32 (2)))), (2, 1, (.c (.int .u8 (3)))), (3, 1, (.c (.int .u8 (5))))], none⟩,
    ⟨some 5, .build [.str [], .int .i32 (0), .int .u8 (0), .int .u8 (0), .str [], .int .u8 (0), .int .i64 (0), .int .u8 (0), .str []] [(0, 1, (.c (.str [109]))), (1, 1, (.c (.int .i32 (4)))), (2, 1, (.c (.int .u8 (1)))), (3, 1, (.c (.int .u8 (11)))), (4, 1, (.c (.str [77])))], none⟩,
    ⟨some 6, .build [.str [], .int .i32 (0), .int .u8 (0), .int .u8 (0), .str [], .int .u8 (0), .int .i64 (0), .int .u8 (0), .str []] [(0, 1, (.c (.str [120]))), (1, 1, (.c (.int .i32 (5)))), (2, 1, (.c (.int .u8 (4)))), (5, 1, (.c (.int .u8 (9)))), (3, 1, (.c (.int .u8 (5))))], none⟩,
    ⟨some 7, .build [.str [], .int .i32 (0), .int .u8 (0), .int .u8 (0), .str [], .int .u8 (0), .int .i64 (0), .int .u8 (0), .str []] [(0, 1, (.c (.str [112]))), (1, 1, (.c (.int .i32 (6)))), (2, 1, (.c (.int .u8 (1)))), (3, 1, (.c (.int .u8 (5)))), (6, 1, (.c (.int .i64 (1))))], none⟩,
    ⟨some 8, .build [.str [], .int .i32 (0), .int .u8 (0), .int .u8 (0), .str [], .int .u8 (0), .int .i64 (0), .int .u8 (0), .str []] [(0, 1, (.c (.str [113]))), (1, 1, (.c (.int .i32 (7)))), (2, 1, (.c (.int .u8 (1)))), (3, 1, (.c (.int .u8 (11)))), (4, 1, (.c (.str [77]))), (6, 1, (.c (.int .i64 (1))))], none⟩,
    ⟨some 9, .bslice 68 9 6 [.str [], .int .i32 (0), .int .u8 (0), .int .u8 (0), .str [], .int .u8 (0), .int .i64 (0), .int .u8 (0), .str []] [(0, 9, (.t 3)), (9, 9, (.t 4)), (18, 9, (.t 5)), (27, 9, (.t 6)), (36, 9, (.t 7)), (45, 9, (.t 8))], none⟩,
    ⟨some 10, .build [.str [], .nils, .nils, .nils, .nils, .nils, .nils] [(0, 1, (.c (.str [77]))), (2, 1, (.t 2)), (1, 1, (.t 9))], none⟩,
    ⟨some 1, .box 72 7 (.c (.agg [.str [], .nils, .nils, .nils, .nils, .nils, .nils])), none⟩,
    ⟨none, .st 7 (.t 1) (.t 10), none⟩]
def A_lexiconlaw12_little_1 : List AOper := [⟨some 11, .lda 7 (.t 1), none⟩,
    ⟨some 12, .build [.str [], .nils, .nils, .nils, .nils, .nils, .nils] [(0, 1, (.c (.str [78, 111, 110, 101])))], none⟩,
    ⟨some 13, .bslice 72 7 2 [.str [], .nils, .nils, .nils, .nils, .nils, .nils] [(0, 7, (.t 11)), (7, 7, (.t 12))], none⟩,
    ⟨some 14, .build [.str [], .str [], .nils, .nils, .nils] [(0, 1, (.c (.str [102]))), (3, 1, (.t 13))], none⟩,
    ⟨none, .st 5 (.t 0) (.t 14), none⟩]
def A_lexiconlaw12_little : ACode := (.seq (.ops [⟨some 0, .box 33 5 (.c (.agg [.str [], .str [], .nils, .nils, .nils])), none⟩]) (.seq (.ops A_lexiconlaw12_little_0) (.seq (.ops A_lexiconlaw12_little_1) .ret)))
def R_lexiconlaw12_little : List ARes := [.cella 0 5]
def T_lexiconlaw12_little : FC := ⟨15, A_lexiconlaw12_little, R_lexiconlaw12_little⟩

-- lexicon/table.Of
abbrev F_table_Of : Nat := 7
def A_table_Of_0 : List AOper := [⟨some 3, .mov (.t 0), none⟩,
    ⟨some 4, .mkmap, none⟩,
    ⟨some 5, .build [.int .i32 (0), .int .u32 (0), .nilp, .nilm] [(2, 1, (.t 3)), (3, 1, (.t 4))], none⟩,
    ⟨some 6, .box 82 4 (.t 5), none⟩,
    ⟨some 2, .mov (.t 6), none⟩]
def A_table_Of : ACode := (.seq (.ops [⟨some 2, .mov (.c (.nilp)), none⟩]) (.seq (.ops A_table_Of_0) .ret))
def R_table_Of : List ARes := [.tmp 2]
def T_table_Of : FC := ⟨7, A_table_Of, R_table_Of⟩

-- lexicon/decode.Decode
abbrev F_decode_Decode : Nat := 8
def A_decode_Decode_0 : List AOper := [⟨some 6, .box 40 3 (.c (.agg [.str [], .nils, .nils])), none⟩,
    ⟨some 7, .mov (.c (.int .i64 (0))), none⟩,
    ⟨some 8, .mov (.c (.int .i64 (0))), none⟩]
def A_decode_Decode_1 : List AOper := [⟨some 9, .mov (.t 0), none⟩,
    ⟨some 10, .mov (.t 1), none⟩,
    ⟨some 11, .build [.str [], .nils, .nils] [(0, 1, (.t 10))], none⟩,
    ⟨some 12, .mov (.t 2), none⟩,
    ⟨some 13, .call 17 [(.t 9), (.t 11), (.t 12)], none⟩,
    ⟨some 14, .ext 0 (.t 13), none⟩,
    ⟨some 15, .ext 1 (.t 13), none⟩,
    ⟨some 16, .ext 2 (.t 13), none⟩,
    ⟨none, .st 3 (.t 6) (.t 14), none⟩,
    ⟨some 7, .mov (.t 15), none⟩,
    ⟨some 8, .mov (.t 16), none⟩]
def A_decode_Decode : ACode := (.seq (.ops A_decode_Decode_0) (.seq (.ops A_decode_Decode_1) .ret))
def R_decode_Decode : List ARes := [.cella 6 3, .tmp 7, .tmp 8]
def T_decode_Decode : FC := ⟨17, A_decode_Decode, R_decode_Decode⟩

-- lexicon/link.Of$1
abbrev F_link_Of_c1 : Nat := 9
def A_link_Of_c1_0 : List AOper := [⟨some 6, .mov (.t 2), none⟩,
    ⟨some 7, .isnil .ic true (.t 6), none⟩]
def A_link_Of_c1_1 : List AOper := [⟨some 9, .mov (.t 2), none⟩,
    ⟨some 10, .tass 52 true (.agg [.int .i64 (0), .str []]) (.t 9), none⟩,
    ⟨some 8, .mov (.t 10), none⟩,
    ⟨some 11, .ext 0 (.t 8), none⟩,
    ⟨some 12, .ext 1 (.t 8), none⟩,
    ⟨some 3, .box 52 2 (.c (.agg [.int .i64 (0), .str []])), none⟩,
    ⟨none, .st 2 (.t 3) (.t 11), none⟩,
    ⟨some 4, .mov (.t 12), none⟩]
def A_link_Of_c1_2 : List AOper := [⟨some 13, .mov (.t 4), none⟩,
    ⟨some 14, .not (.t 13), none⟩]
def A_link_Of_c1_3 : List AOper := [⟨some 15, .mov (.t 2), none⟩,
    ⟨none, .pan (.t 15), none⟩]
def A_link_Of_c1_4 : List AOper := [⟨some 16, .faddr 0 (.t 3), none⟩,
    ⟨some 17, .lda 2 (.t 16), none⟩,
    ⟨none, .st 1 (.t 0) (.c (.nilp)), none⟩,
    ⟨none, .st 2 (.t 1) (.t 17), none⟩]
def A_link_Of_c1_5 : List AOper := [⟨some 16, .faddr 0 (.t 3), none⟩,
    ⟨none, .st 1 (.t 0) (.c (.nilp)), none⟩,
    ⟨some 17, .lda 2 (.t 16), none⟩,
    ⟨none, .st 2 (.t 1) (.t 17), none⟩]
def A_link_Of_c1 : ACode := (.seq (.recv (some 5) [(some 2, (.t 5))]) (.seq (.ops A_link_Of_c1_0) (.cond (.t 7) (.seq (.ops A_link_Of_c1_1) (.seq (.seq (.ops A_link_Of_c1_2) (.cond (.t 14) (.ops A_link_Of_c1_3) .skip)) (.alts [16, 17] [A_link_Of_c1_4, A_link_Of_c1_5]))) .skip)))
def R_link_Of_c1 : List ARes := []
def T_link_Of_c1 : FC := ⟨18, A_link_Of_c1, R_link_Of_c1⟩

-- (*lexicon/link.Linked).put
abbrev F_link_Linked_put : Nat := 11
def A_link_Linked_put_0 : List AOper := [⟨some 10, .mov (.t 1), none⟩,
    ⟨some 11, .lenl (.t 10), none⟩,
    ⟨some 12, .mov (.c (.int .i64 (0))), none⟩]
def A_link_Linked_put_1 : List AOper := [⟨some 14, .iaddr 33 5 (.t 10) (.t 12), none⟩,
    ⟨some 15, .lda 5 (.t 14), none⟩,
    ⟨some 6, .box 33 5 (.c (.agg [.str [], .str [], .nils, .nils, .nils])), none⟩,
    ⟨none, .st 5 (.t 6) (.t 15), none⟩]
def A_link_Linked_put_2 : List AOper := [⟨some 16, .mov (.t 0), none⟩,
    ⟨some 17, .nilc (.t 16), none⟩,
    ⟨some 18, .faddr 0 (.t 17), none⟩,
    ⟨some 19, .ld1 (.t 18), none⟩,
    ⟨some 20, .faddr 0 (.t 6), none⟩,
    ⟨some 21, .ld1 (.t 20), none⟩,
    ⟨some 22, .mlook .s (.nilp) false (.t 19) (.t 21), none⟩,
    ⟨some 23, .isnil .pt true (.t 22), none⟩]
def A_link_Linked_put_3 : List AOper := [⟨some 24, .mov (.t 4), none⟩,
    ⟨some 25, .faddr 0 (.t 6), none⟩,
    ⟨some 26, .ld1 (.t 25), none⟩,
    ⟨some 27, .bslice 9 1 1 [.str []] [(0, 1, (.t 26))], none⟩,
    ⟨some 28, .app 9 1 16 (.t 24) (.t 27), none⟩,
    ⟨some 4, .mov (.t 28), none⟩]
def A_link_Linked_put_4 : List AOper := [⟨some 29, .mov (.t 0), none⟩,
    ⟨some 30, .nilc (.t 29), none⟩,
    ⟨some 31, .faddr 0 (.t 30), none⟩,
    ⟨some 32, .ld1 (.t 31), none⟩,
    ⟨some 33, .faddr 0 (.t 6), none⟩,
    ⟨some 34, .ld1 (.t 33), none⟩,
    ⟨some 35, .lda 5 (.t 6), none⟩,
    ⟨some 36, .acall 18 [(.t 35)], none⟩,
    ⟨some 37, .mkmap, none⟩,
    ⟨some 38, .mkmap, none⟩,
    ⟨some 39, .build [.str [], .str [], .nils, .nils, .nils, .nilm, .nilm] [(0, 5, (.t 36)), (5, 1, (.t 37)), (6, 1, (.t 38))], none⟩,
    ⟨some 40, .box 91 7 (.t 39), none⟩,
    ⟨none, .mupd .s (.t 32) (.t 34) (.t 40), none⟩]
def A_link_Linked_put_5 : List AOper := [⟨some 41, .bini .add (.t 12) (.c (.int .i64 (1))), none⟩,
    ⟨some 12, .mov (.t 41), none⟩]
def A_link_Linked_put_6 : ACode := (.seq (.ops [⟨some 13, .bini .lss (.t 12) (.t 11), none⟩]) (.seq (.cond (.t 13) .skip (.exit 0)) (.seq (.block 1 (.seq (.ops A_link_Linked_put_1) (.seq (.seq (.alts [16, 17, 18, 19, 20, 21, 22, 23] [A_link_Linked_put_2]) (.cond (.t 23) (.ops A_link_Linked_put_3) .skip)) (.alts [29, 30, 31, 32, 33, 34, 35, 36, 37, 38, 39, 40] [A_link_Linked_put_4])))) (.ops A_link_Linked_put_5))))
def A_link_Linked_put_7 : List AOper := [⟨some 42, .mov (.t 4), none⟩,
    ⟨some 43, .lenl (.t 42), none⟩,
    ⟨some 44, .bini .gtr (.t 43) (.c (.int .i64 (0))), none⟩]
def A_link_Linked_put_8 : List AOper := [⟨some 45, .mov (.t 4), none⟩,
    ⟨some 46, .call 19 [(.t 45)], none⟩,
    ⟨some 47, .call 10 [(.c (.int .i64 (80))), (.t 46)], none⟩]
def A_link_Linked_put_9 : List AOper := [⟨some 48, .mov (.t 0), none⟩,
    ⟨some 49, .call 20 [(.t 48)], none⟩,
    ⟨some 50, .lenl (.t 49), none⟩,
    ⟨some 51, .mov (.c (.int .i64 (0))), none⟩]
def A_link_Linked_put_10 : List AOper := [⟨some 53, .iaddr 9 1 (.t 49) (.t 51), none⟩,
    ⟨some 54, .ld1 (.t 53), none⟩,
    ⟨some 8, .mov (.t 54), none⟩]
def A_link_Linked_put_11 : List AOper := [⟨some 55, .mov (.t 0), none⟩,
    ⟨some 56, .nilc (.t 55), none⟩,
    ⟨some 57, .faddr 0 (.t 56), none⟩,
    ⟨some 58, .ld1 (.t 57), none⟩,
    ⟨some 59, .mov (.t 8), none⟩,
    ⟨some 60, .mlook .s (.nilp) false (.t 58) (.t 59), none⟩,
    ⟨some 61, .nilc (.t 60), none⟩,
    ⟨some 62, .faddr 0 (.t 61), none⟩,
    ⟨some 63, .lda 5 (.t 62), none⟩,
    ⟨some 64, .call 21 [(.t 63)], none⟩,
    ⟨some 9, .box 26 2 (.c (.agg [.int .i64 (0), .str []])), none⟩,
    ⟨none, .st 2 (.t 9) (.t 64), none⟩]
def A_link_Linked_put_12 : List AOper := [⟨some 65, .faddr 0 (.t 9), none⟩,
    ⟨some 66, .ld1 (.t 65), none⟩,
    ⟨some 67, .bini .neq (.t 66) (.c (.int .i64 (0))), none⟩]
def A_link_Linked_put_13 : List AOper := [⟨some 68, .lda 2 (.t 9), none⟩,
    ⟨some 69, .build [.int .i64 (0), .str []] [(0, 2, (.t 68))], none⟩,
    ⟨some 70, .mkifc 52 (.t 69), none⟩,
    ⟨none, .pan (.t 70), none⟩]
def A_link_Linked_put_14 : List AOper := [⟨some 71, .bini .add (.t 51) (.c (.int .i64 (1))), none⟩,
    ⟨some 51, .mov (.t 71), none⟩]
def A_link_Linked_put_15 : ACode := (.seq (.ops [⟨some 52, .bini .lss (.t 51) (.t 50), none⟩]) (.seq (.cond (.t 52) .skip (.exit 2)) (.seq (.block 3 (.seq (.ops A_link_Linked_put_10) (.seq (.ops A_link_Linked_put_11) (.seq (.ops A_link_Linked_put_12) (.cond (.t 67) (.ops A_link_Linked_put_13) .skip))))) (.ops A_link_Linked_put_14))))
def A_link_Linked_put : ACode := (.seq (.ops [⟨some 4, .mov (.c (.nils)), none⟩]) (.seq (.seq (.ops A_link_Linked_put_0) (.block 0 (.loop A_link_Linked_put_6))) (.seq (.seq (.ops A_link_Linked_put_7) (.cond (.t 44) (.ops A_link_Linked_put_8) .skip)) (.seq (.ops A_link_Linked_put_9) (.block 2 (.loop A_link_Linked_put_15))))))
def R_link_Linked_put : List ARes := []
def T_link_Linked_put : FC := ⟨72, A_link_Linked_put, R_link_Linked_put⟩

-- (*lexicon/link.Linked).imports
abbrev F_link_Linked_imports : Nat := 12
def A_link_Linked_imports_0 : List AOper := [⟨some 6, .mov (.t 0), none⟩,
    ⟨some 7, .call 20 [(.t 6)], none⟩,
    ⟨some 8, .lenl (.t 7), none⟩,
    ⟨some 9, .mov (.c (.int .i64 (0))), none⟩]
def A_link_Linked_imports_1 : List AOper := [⟨some 11, .iaddr 9 1 (.t 7) (.t 9), none⟩,
    ⟨some 12, .ld1 (.t 11), none⟩,
    ⟨some 3, .mov (.t 12), none⟩]
def A_link_Linked_imports_2 : List AOper := [⟨some 13, .mov (.t 0), none⟩,
    ⟨some 14, .nilc (.t 13), none⟩,
    ⟨some 15, .faddr 0 (.t 14), none⟩,
    ⟨some 16, .ld1 (.t 15), none⟩,
    ⟨some 17, .mov (.t 3), none⟩,
    ⟨some 18, .mlook .s (.nilp) false (.t 16) (.t 17), none⟩,
    ⟨some 19, .nilc (.t 18), none⟩,
    ⟨some 20, .faddr 0 (.t 19), none⟩,
    ⟨some 21, .faddr 2 (.t 20), none⟩,
    ⟨some 22, .ld1 (.t 21), none⟩,
    ⟨some 23, .lenl (.t 22), none⟩,
    ⟨some 24, .mov (.c (.int .i64 (0))), none⟩]
def A_link_Linked_imports_3 : List AOper := [⟨some 26, .iaddr 96 2 (.t 22) (.t 24), none⟩,
    ⟨some 27, .lda 2 (.t 26), none⟩,
    ⟨some 5, .box 96 2 (.c (.agg [.str [], .bool false])), none⟩,
    ⟨none, .st 2 (.t 5) (.t 27), none⟩]
def A_link_Linked_imports_4 : List AOper := [⟨some 28, .mov (.t 0), none⟩,
    ⟨some 29, .nilc (.t 28), none⟩,
    ⟨some 30, .faddr 0 (.t 29), none⟩,
    ⟨some 31, .ld1 (.t 30), none⟩,
    ⟨some 32, .faddr 0 (.t 5), none⟩,
    ⟨some 33, .ld1 (.t 32), none⟩,
    ⟨some 34, .mlook .s (.nilp) false (.t 31) (.t 33), none⟩,
    ⟨some 35, .isnil .pt false (.t 34), none⟩]
def A_link_Linked_imports_5 : List AOper := [⟨some 36, .faddr 0 (.t 5), none⟩,
    ⟨some 37, .ld1 (.t 36), none⟩,
    ⟨some 38, .call 10 [(.c (.int .i64 (81))), (.t 37)], none⟩]
def A_link_Linked_imports_6 : List AOper := [⟨some 39, .bini .add (.t 24) (.c (.int .i64 (1))), none⟩,
    ⟨some 24, .mov (.t 39), none⟩]
def A_link_Linked_imports_7 : ACode := (.seq (.ops [⟨some 25, .bini .lss (.t 24) (.t 23), none⟩]) (.seq (.cond (.t 25) .skip (.exit 2)) (.seq (.block 3 (.seq (.ops A_link_Linked_imports_3) (.seq (.alts [28, 29, 30, 31, 32, 33, 34, 35] [A_link_Linked_imports_4]) (.cond (.t 35) (.ops A_link_Linked_imports_5) .skip)))) (.ops A_link_Linked_imports_6))))
def A_link_Linked_imports_8 : List AOper := [⟨some 40, .bini .add (.t 9) (.c (.int .i64 (1))), none⟩,
    ⟨some 9, .mov (.t 40), none⟩]
def A_link_Linked_imports_9 : ACode := (.seq (.ops [⟨some 10, .bini .lss (.t 9) (.t 8), none⟩]) (.seq (.cond (.t 10) .skip (.exit 0)) (.seq (.block 1 (.seq (.ops A_link_Linked_imports_1) (.seq (.ops A_link_Linked_imports_2) (.block 2 (.loop A_link_Linked_imports_7))))) (.ops A_link_Linked_imports_8))))
def A_link_Linked_imports : ACode := (.seq (.ops A_link_Linked_imports_0) (.block 0 (.loop A_link_Linked_imports_9)))
def R_link_Linked_imports : List ARes := []
def T_link_Linked_imports : FC := ⟨41, A_link_Linked_imports, R_link_Linked_imports⟩

-- (*lexicon/link.Linked).rings
abbrev F_link_Linked_rings : Nat := 13
def A_link_Linked_rings_0 : List AOper := [⟨some 8, .ld1 (.t 1), none⟩,
    ⟨some 9, .call 20 [(.t 8)], none⟩,
    ⟨some 10, .lenl (.t 9), none⟩,
    ⟨some 11, .mov (.c (.int .i64 (0))), none⟩]
def A_link_Linked_rings_1 : List AOper := [⟨some 13, .iaddr 9 1 (.t 9) (.t 11), none⟩,
    ⟨some 14, .ld1 (.t 13), none⟩,
    ⟨some 3, .box 9 1 (.c (.str [])), none⟩,
    ⟨none, .st 1 (.t 3) (.t 14), none⟩]
def A_link_Linked_rings_2 : List AOper := [⟨some 15, .mkmap, none⟩,
    ⟨some 4, .box 88 1 (.c (.nilm)), none⟩,
    ⟨none, .st 1 (.t 4) (.t 15), none⟩]
def A_link_Linked_rings_3 : List AOper := [⟨some 16, .mkfn 22 [] [(.t 1), (.t 3), (.t 4), (.t 5)], none⟩,
    ⟨none, .st 1 (.t 5) (.t 16), none⟩]
def A_link_Linked_rings_4 : List AOper := [⟨some 17, .ld1 (.t 5), none⟩,
    ⟨some 18, .ld1 (.t 3), none⟩,
    ⟨some 19, .callv (.t 17) [(.t 18)], none⟩]
def A_link_Linked_rings_5 : List AOper := [⟨some 20, .bini .add (.t 11) (.c (.int .i64 (1))), none⟩,
    ⟨some 11, .mov (.t 20), none⟩]
def A_link_Linked_rings_6 : ACode := (.seq (.ops [⟨some 12, .bini .lss (.t 11) (.t 10), none⟩]) (.seq (.cond (.t 12) .skip (.exit 0)) (.seq (.block 1 (.seq (.ops A_link_Linked_rings_1) (.seq (.ops A_link_Linked_rings_2) (.seq (.ops [⟨some 5, .box 97 1 (.c (.nilf)), none⟩]) (.seq (.ops A_link_Linked_rings_3) (.ops A_link_Linked_rings_4)))))) (.ops A_link_Linked_rings_5))))
def A_link_Linked_rings_7 : List AOper := [⟨some 21, .ld1 (.t 1), none⟩,
    ⟨some 22, .call 20 [(.t 21)], none⟩,
    ⟨some 23, .lenl (.t 22), none⟩,
    ⟨some 24, .mov (.c (.int .i64 (0))), none⟩]
def A_link_Linked_rings_8 : List AOper := [⟨some 26, .iaddr 9 1 (.t 22) (.t 24), none⟩,
    ⟨some 27, .ld1 (.t 26), none⟩,
    ⟨some 7, .mov (.t 27), none⟩]
def A_link_Linked_rings_9 : List AOper := [⟨some 28, .ld1 (.t 1), none⟩,
    ⟨some 29, .ld1 (.t 1), none⟩,
    ⟨some 30, .nilc (.t 29), none⟩,
    ⟨some 31, .faddr 0 (.t 30), none⟩,
    ⟨some 32, .ld1 (.t 31), none⟩,
    ⟨some 33, .mov (.t 7), none⟩,
    ⟨some 34, .mlook .s (.nilp) false (.t 32) (.t 33), none⟩,
    ⟨some 35, .nilc (.t 34), none⟩,
    ⟨some 36, .faddr 5 (.t 35), none⟩,
    ⟨some 37, .ld1 (.t 36), none⟩,
    ⟨some 38, .mov (.t 7), none⟩,
    ⟨some 39, .call 23 [(.t 28), (.t 37), (.t 38), (.c (.bool true))], none⟩]
def A_link_Linked_rings_10 : List AOper := [⟨some 40, .bini .add (.t 24) (.c (.int .i64 (1))), none⟩,
    ⟨some 24, .mov (.t 40), none⟩]
def A_link_Linked_rings_11 : ACode := (.seq (.ops [⟨some 25, .bini .lss (.t 24) (.t 23), none⟩]) (.seq (.cond (.t 25) .skip (.exit 2)) (.seq (.block 3 (.seq (.ops A_link_Linked_rings_8) (.alts [28, 29, 30, 31, 32, 33, 34, 35, 36, 37, 38, 39] [A_link_Linked_rings_9]))) (.ops A_link_Linked_rings_10))))
def A_link_Linked_rings : ACode := (.seq (.ops [⟨some 1, .box 23 1 (.t 0), none⟩]) (.seq (.seq (.ops A_link_Linked_rings_0) (.block 0 (.loop A_link_Linked_rings_6))) (.seq (.ops A_link_Linked_rings_7) (.block 2 (.loop A_link_Linked_rings_11)))))
def R_link_Linked_rings : List ARes := []
def T_link_Linked_rings : FC := ⟨41, A_link_Linked_rings, R_link_Linked_rings⟩

-- (*lexicon/link.Linked).once
abbrev F_link_Linked_once : Nat := 14
def A_link_Linked_once_0 : List AOper := [⟨some 15, .mkmap, none⟩,
    ⟨some 2, .mov (.t 15), none⟩]
def A_link_Linked_once_1 : List AOper := [⟨some 16, .mov (.t 0), none⟩,
    ⟨some 17, .nilc (.t 16), none⟩,
    ⟨some 18, .faddr 0 (.t 17), none⟩,
    ⟨some 19, .ld1 (.t 18), none⟩,
    ⟨some 20, .rngm (.t 19), none⟩]
def A_link_Linked_once_2 : List AOper := [⟨some 21, .nxm (.t 20), none⟩,
    ⟨some 22, .ext 0 (.t 21), none⟩]
def A_link_Linked_once_3 : List AOper := [⟨some 23, .entr (.t 20), none⟩,
    ⟨some 24, .ext 1 (.t 23), none⟩,
    ⟨some 4, .mov (.t 24), none⟩]
def A_link_Linked_once_4 : List AOper := [⟨some 25, .mov (.t 4), none⟩,
    ⟨some 26, .nilc (.t 25), none⟩,
    ⟨some 27, .faddr 0 (.t 26), none⟩,
    ⟨some 28, .faddr 1 (.t 27), none⟩,
    ⟨some 29, .ld1 (.t 28), none⟩,
    ⟨some 30, .call 24 [(.t 29)], none⟩,
    ⟨some 31, .lenl (.t 30), none⟩,
    ⟨some 32, .mov (.c (.int .i64 (0))), none⟩]
def A_link_Linked_once_5 : List AOper := [⟨some 34, .iaddr 9 1 (.t 30) (.t 32), none⟩,
    ⟨some 35, .ld1 (.t 34), none⟩,
    ⟨some 6, .mov (.t 35), none⟩]
def A_link_Linked_once_6 : List AOper := [⟨some 36, .mov (.t 2), none⟩,
    ⟨some 37, .mov (.t 6), none⟩,
    ⟨none, .mupd .s (.t 36) (.t 37) (.c (.bool true)), none⟩]
def A_link_Linked_once_7 : List AOper := [⟨some 38, .bini .add (.t 32) (.c (.int .i64 (1))), none⟩,
    ⟨some 32, .mov (.t 38), none⟩]
def A_link_Linked_once_8 : ACode := (.seq (.ops [⟨some 33, .bini .lss (.t 32) (.t 31), none⟩]) (.seq (.cond (.t 33) .skip (.exit 2)) (.seq (.block 3 (.seq (.ops A_link_Linked_once_5) (.ops A_link_Linked_once_6))) (.ops A_link_Linked_once_7))))
def A_link_Linked_once_9 : ACode := (.seq (.ops A_link_Linked_once_2) (.seq (.cond (.t 22) .skip (.exit 0)) (.block 1 (.seq (.ops A_link_Linked_once_3) (.seq (.ops A_link_Linked_once_4) (.block 2 (.loop A_link_Linked_once_8)))))))
def A_link_Linked_once_10 : List AOper := [⟨some 39, .mov (.t 0), none⟩,
    ⟨some 40, .call 20 [(.t 39)], none⟩,
    ⟨some 41, .lenl (.t 40), none⟩,
    ⟨some 42, .mov (.c (.int .i64 (0))), none⟩]
def A_link_Linked_once_11 : List AOper := [⟨some 44, .iaddr 9 1 (.t 40) (.t 42), none⟩,
    ⟨some 45, .ld1 (.t 44), none⟩,
    ⟨some 9, .mov (.t 45), none⟩]
def A_link_Linked_once_12 : List AOper := [⟨some 46, .mov (.t 0), none⟩,
    ⟨some 47, .nilc (.t 46), none⟩,
    ⟨some 48, .faddr 0 (.t 47), none⟩,
    ⟨some 49, .ld1 (.t 48), none⟩,
    ⟨some 50, .mov (.t 9), none⟩,
    ⟨some 51, .mlook .s (.nilp) false (.t 49) (.t 50), none⟩,
    ⟨some 10, .mov (.t 51), none⟩]
def A_link_Linked_once_13 : List AOper := [⟨some 52, .mov (.t 10), none⟩,
    ⟨some 53, .nilc (.t 52), none⟩,
    ⟨some 54, .faddr 0 (.t 53), none⟩,
    ⟨some 55, .lda 5 (.t 54), none⟩,
    ⟨some 56, .call 25 [(.t 55)], none⟩,
    ⟨some 57, .lenl (.t 56), none⟩,
    ⟨some 58, .mov (.c (.int .i64 (0))), none⟩]
def A_link_Linked_once_14 : List AOper := [⟨some 60, .iaddr 104 3 (.t 56) (.t 58), none⟩,
    ⟨some 61, .lda 3 (.t 60), none⟩,
    ⟨some 12, .box 104 3 (.c (.agg [.str [], .int .u8 (0), .str []])), none⟩,
    ⟨none, .st 3 (.t 12) (.t 61), none⟩]
def A_link_Linked_once_15 : List AOper := [⟨some 63, .mov (.t 0), none⟩,
    ⟨some 64, .nilc (.t 63), none⟩,
    ⟨some 65, .faddr 2 (.t 64), none⟩,
    ⟨some 66, .ld1 (.t 65), none⟩,
    ⟨some 67, .faddr 0 (.t 12), none⟩,
    ⟨some 68, .ld1 (.t 67), none⟩,
    ⟨some 69, .mlook .s (.str []) true (.t 66) (.t 68), none⟩,
    ⟨some 62, .mov (.t 69), none⟩,
    ⟨some 70, .ext 0 (.t 62), none⟩,
    ⟨some 71, .ext 1 (.t 62), none⟩,
    ⟨some 13, .mov (.t 70), none⟩,
    ⟨some 14, .mov (.t 71), none⟩]
def A_link_Linked_once_16 : List AOper := [⟨some 72, .mov (.t 14), none⟩,
    ⟨some 73, .mov (.t 72), none⟩,
    ⟨some 74, .mov (.t 2), some (73, false)⟩,
    ⟨some 75, .faddr 0 (.t 12), some (73, false)⟩,
    ⟨some 76, .ld1 (.t 75), some (73, false)⟩,
    ⟨some 77, .mlook .s (.bool false) false (.t 74) (.t 76), some (73, false)⟩,
    ⟨some 78, .pick (.t 73) (.c (.bool true)) (.t 77), none⟩]
def A_link_Linked_once_17 : List AOper := [⟨some 79, .mov (.t 7), none⟩,
    ⟨some 80, .faddr 0 (.t 12), none⟩,
    ⟨some 81, .ld1 (.t 80), none⟩,
    ⟨some 82, .bslice 9 1 1 [.str []] [(0, 1, (.t 81))], none⟩,
    ⟨some 83, .app 9 1 16 (.t 79) (.t 82), none⟩,
    ⟨some 7, .mov (.t 83), none⟩]
def A_link_Linked_once_18 : List AOper := [⟨some 84, .mov (.t 0), none⟩,
    ⟨some 85, .nilc (.t 84), none⟩,
    ⟨some 86, .faddr 2 (.t 85), none⟩,
    ⟨some 87, .ld1 (.t 86), none⟩,
    ⟨some 88, .faddr 0 (.t 12), none⟩,
    ⟨some 89, .ld1 (.t 88), none⟩,
    ⟨some 90, .mov (.t 9), none⟩,
    ⟨none, .mupd .s (.t 87) (.t 89) (.t 90), none⟩]
def A_link_Linked_once_19 : List AOper := [⟨some 91, .mov (.t 10), none⟩,
    ⟨some 92, .nilc (.t 91), none⟩,
    ⟨some 93, .faddr 6 (.t 92), none⟩,
    ⟨some 94, .ld1 (.t 93), none⟩,
    ⟨some 95, .faddr 0 (.t 12), none⟩,
    ⟨some 96, .ld1 (.t 95), none⟩,
    ⟨some 97, .faddr 1 (.t 12), none⟩,
    ⟨some 98, .ld1 (.t 97), none⟩,
    ⟨none, .mupd .s (.t 94) (.t 96) (.t 98), none⟩]
def A_link_Linked_once_20 : List AOper := [⟨some 99, .bini .add (.t 58) (.c (.int .i64 (1))), none⟩,
    ⟨some 58, .mov (.t 99), none⟩]
def A_link_Linked_once_21 : ACode := (.seq (.ops [⟨some 59, .bini .lss (.t 58) (.t 57), none⟩]) (.seq (.cond (.t 59) .skip (.exit 6)) (.seq (.block 7 (.seq (.ops A_link_Linked_once_14) (.seq (.seq (.alts [63, 64, 65, 66, 67, 68, 69, 62, 70, 71, 13, 14] [A_link_Linked_once_15]) (.seq (.ops A_link_Linked_once_16) (.cond (.t 78) (.ops A_link_Linked_once_17) .skip))) (.seq (.alts [84, 85, 86, 87, 88, 89, 90] [A_link_Linked_once_18]) (.alts [91, 92, 93, 94, 95, 96, 97, 98] [A_link_Linked_once_19]))))) (.ops A_link_Linked_once_20))))
def A_link_Linked_once_22 : List AOper := [⟨some 100, .bini .add (.t 42) (.c (.int .i64 (1))), none⟩,
    ⟨some 42, .mov (.t 100), none⟩]
def A_link_Linked_once_23 : ACode := (.seq (.ops [⟨some 43, .bini .lss (.t 42) (.t 41), none⟩]) (.seq (.cond (.t 43) .skip (.exit 4)) (.seq (.block 5 (.seq (.ops A_link_Linked_once_11) (.seq (.ops A_link_Linked_once_12) (.seq (.ops A_link_Linked_once_13) (.block 6 (.loop A_link_Linked_once_21)))))) (.ops A_link_Linked_once_22))))
def A_link_Linked_once_24 : List AOper := [⟨some 101, .mov (.t 7), none⟩,
    ⟨some 102, .lenl (.t 101), none⟩,
    ⟨some 103, .bini .gtr (.t 102) (.c (.int .i64 (0))), none⟩]
def A_link_Linked_once_25 : List AOper := [⟨some 104, .mov (.t 7), none⟩,
    ⟨some 105, .call 19 [(.t 104)], none⟩,
    ⟨some 106, .call 10 [(.c (.int .i64 (83))), (.t 105)], none⟩]
def A_link_Linked_once : ACode := (.seq (.ops A_link_Linked_once_0) (.seq (.seq (.ops A_link_Linked_once_1) (.block 0 (.loop A_link_Linked_once_9))) (.seq (.ops [⟨some 7, .mov (.c (.nils)), none⟩]) (.seq (.seq (.ops A_link_Linked_once_10) (.block 4 (.loop A_link_Linked_once_23))) (.seq (.ops A_link_Linked_once_24) (.cond (.t 103) (.ops A_link_Linked_once_25) .skip))))))
def R_link_Linked_once : List ARes := []
def T_link_Linked_once : FC := ⟨107, A_link_Linked_once, R_link_Linked_once⟩

-- (*lexicon/link.Linked).refer
abbrev F_link_Linked_refer : Nat := 15
def A_link_Linked_refer_0 : List AOper := [⟨some 5, .mov (.t 0), none⟩,
    ⟨some 6, .call 20 [(.t 5)], none⟩,
    ⟨some 7, .lenl (.t 6), none⟩,
    ⟨some 8, .mov (.c (.int .i64 (0))), none⟩]
def A_link_Linked_refer_1 : List AOper := [⟨some 10, .iaddr 9 1 (.t 6) (.t 8), none⟩,
    ⟨some 11, .ld1 (.t 10), none⟩,
    ⟨some 3, .mov (.t 11), none⟩]
def A_link_Linked_refer_2 : List AOper := [⟨some 12, .mov (.t 0), none⟩,
    ⟨some 13, .nilc (.t 12), none⟩,
    ⟨some 14, .faddr 0 (.t 13), none⟩,
    ⟨some 15, .ld1 (.t 14), none⟩,
    ⟨some 16, .mov (.t 3), none⟩,
    ⟨some 17, .mlook .s (.nilp) false (.t 15) (.t 16), none⟩,
    ⟨some 4, .mov (.t 17), none⟩]
def A_link_Linked_refer_3 : List AOper := [⟨some 18, .mov (.t 0), none⟩,
    ⟨some 19, .mov (.t 4), none⟩,
    ⟨some 20, .mov (.t 4), none⟩,
    ⟨some 21, .nilc (.t 20), none⟩,
    ⟨some 22, .faddr 0 (.t 21), none⟩,
    ⟨some 23, .faddr 1 (.t 22), none⟩,
    ⟨some 24, .ld1 (.t 23), none⟩,
    ⟨some 25, .mov (.t 4), none⟩,
    ⟨some 26, .nilc (.t 25), none⟩,
    ⟨some 27, .faddr 0 (.t 26), none⟩,
    ⟨some 28, .faddr 3 (.t 27), none⟩,
    ⟨some 29, .ld1 (.t 28), none⟩,
    ⟨some 30, .call 26 [(.t 18), (.t 19), (.t 24), (.t 29)], none⟩]
def A_link_Linked_refer_4 : List AOper := [⟨some 31, .bini .add (.t 8) (.c (.int .i64 (1))), none⟩,
    ⟨some 8, .mov (.t 31), none⟩]
def A_link_Linked_refer_5 : ACode := (.seq (.ops [⟨some 9, .bini .lss (.t 8) (.t 7), none⟩]) (.seq (.cond (.t 9) .skip (.exit 0)) (.seq (.block 1 (.seq (.ops A_link_Linked_refer_1) (.seq (.ops A_link_Linked_refer_2) (.alts [18, 19, 20, 21, 22, 23, 24, 25, 26, 27, 28, 29, 30] [A_link_Linked_refer_3])))) (.ops A_link_Linked_refer_4))))
def A_link_Linked_refer : ACode := (.seq (.ops A_link_Linked_refer_0) (.block 0 (.loop A_link_Linked_refer_5)))
def R_link_Linked_refer : List ARes := []
def T_link_Linked_refer : FC := ⟨32, A_link_Linked_refer, R_link_Linked_refer⟩

-- (*lexicon/link.Linked).lay
abbrev F_link_Linked_lay : Nat := 16
def A_link_Linked_lay_0 : List AOper := [⟨some 10, .mkmap, none⟩,
    ⟨some 2, .box 88 1 (.c (.nilm)), none⟩,
    ⟨none, .st 1 (.t 2) (.t 10), none⟩]
def A_link_Linked_lay_1 : List AOper := [⟨some 11, .mov (.t 0), none⟩,
    ⟨some 12, .nilc (.t 11), none⟩,
    ⟨some 13, .faddr 1 (.t 12), none⟩,
    ⟨some 14, .ld1 (.t 13), none⟩,
    ⟨some 15, .lenl (.t 14), none⟩,
    ⟨some 16, .mov (.t 0), none⟩,
    ⟨some 17, .nilc (.t 16), none⟩,
    ⟨some 18, .faddr 0 (.t 17), none⟩,
    ⟨some 19, .ld1 (.t 18), none⟩,
    ⟨some 20, .mlen (.t 19), none⟩,
    ⟨some 21, .bini .lss (.t 15) (.t 20), none⟩]
def A_link_Linked_lay_2 : List AOper := [⟨some 22, .mov (.t 0), none⟩,
    ⟨some 23, .call 20 [(.t 22)], none⟩,
    ⟨some 24, .lenl (.t 23), none⟩,
    ⟨some 25, .mov (.c (.int .i64 (0))), none⟩]
def A_link_Linked_lay_3 : List AOper := [⟨some 27, .iaddr 9 1 (.t 23) (.t 25), none⟩,
    ⟨some 28, .ld1 (.t 27), none⟩,
    ⟨some 4, .mov (.t 28), none⟩]
def A_link_Linked_lay_4 : List AOper := [⟨some 29, .mkfn 27 [] [(.t 2)], none⟩,
    ⟨some 5, .mov (.t 29), none⟩]
def A_link_Linked_lay_5 : List AOper := [⟨some 30, .ld1 (.t 2), none⟩,
    ⟨some 31, .mov (.t 4), none⟩,
    ⟨some 32, .mlook .s (.bool false) false (.t 30) (.t 31), none⟩,
    ⟨some 33, .not (.t 32), none⟩,
    ⟨some 34, .mov (.t 33), none⟩,
    ⟨some 35, .mov (.t 0), some (34, true)⟩,
    ⟨some 36, .nilc (.t 35), some (34, true)⟩,
    ⟨some 37, .faddr 0 (.t 36), some (34, true)⟩,
    ⟨some 38, .ld1 (.t 37), some (34, true)⟩,
    ⟨some 39, .mov (.t 4), some (34, true)⟩,
    ⟨some 40, .mlook .s (.nilp) false (.t 38) (.t 39), some (34, true)⟩,
    ⟨some 41, .nilc (.t 40), some (34, true)⟩,
    ⟨some 42, .faddr 0 (.t 41), some (34, true)⟩,
    ⟨some 43, .faddr 2 (.t 42), some (34, true)⟩,
    ⟨some 44, .ld1 (.t 43), some (34, true)⟩,
    ⟨some 45, .mov (.t 5), some (34, true)⟩,
    ⟨some 46, .call 28 [(.t 44), (.t 45)], some (34, true)⟩,
    ⟨some 47, .not (.t 46), some (34, true)⟩,
    ⟨some 48, .pick (.t 34) (.t 47) (.c (.bool false)), none⟩]
def A_link_Linked_lay_6 : List AOper := [⟨some 49, .ld1 (.t 2), none⟩,
    ⟨some 50, .mov (.t 4), none⟩,
    ⟨none, .mupd .s (.t 49) (.t 50) (.c (.bool true)), none⟩]
def A_link_Linked_lay_7 : List AOper := [⟨some 51, .mov (.t 0), none⟩,
    ⟨some 52, .mov (.t 0), none⟩,
    ⟨some 53, .nilc (.t 52), none⟩,
    ⟨some 54, .faddr 1 (.t 53), none⟩,
    ⟨some 55, .ld1 (.t 54), none⟩,
    ⟨some 56, .mov (.t 4), none⟩,
    ⟨some 57, .bslice 9 1 1 [.str []] [(0, 1, (.t 56))], none⟩,
    ⟨some 58, .app 9 1 16 (.t 55) (.t 57), none⟩,
    ⟨some 59, .nilc (.t 51), none⟩,
    ⟨some 60, .faddr 1 (.t 59), none⟩,
    ⟨none, .st 1 (.t 60) (.t 58), none⟩]
def A_link_Linked_lay_8 : List AOper := [⟨some 61, .bini .add (.t 25) (.c (.int .i64 (1))), none⟩,
    ⟨some 25, .mov (.t 61), none⟩]
def A_link_Linked_lay_9 : ACode := (.seq (.ops [⟨some 26, .bini .lss (.t 25) (.t 24), none⟩]) (.seq (.cond (.t 26) .skip (.exit 2)) (.seq (.block 3 (.seq (.ops A_link_Linked_lay_3) (.seq (.ops A_link_Linked_lay_4) (.seq (.ops A_link_Linked_lay_5) (.cond (.t 48) (.seq (.ops A_link_Linked_lay_6) (.seq (.ops A_link_Linked_lay_7) (.exit 2))) .skip))))) (.ops A_link_Linked_lay_8))))
def A_link_Linked_lay_10 : ACode := (.seq (.seq (.alts [11, 12, 13, 14, 15, 16, 17, 18, 19, 20, 21] [A_link_Linked_lay_1]) (.cond (.t 21) .skip (.exit 0))) (.block 1 (.seq (.ops A_link_Linked_lay_2) (.block 2 (.loop A_link_Linked_lay_9)))))
def A_link_Linked_lay_11 : List AOper := [⟨some 62, .mov (.t 0), none⟩,
    ⟨some 63, .nilc (.t 62), none⟩,
    ⟨some 64, .faddr 0 (.t 63), none⟩,
    ⟨some 65, .ld1 (.t 64), none⟩,
    ⟨some 66, .rngm (.t 65), none⟩]
def A_link_Linked_lay_12 : List AOper := [⟨some 67, .nxm (.t 66), none⟩,
    ⟨some 68, .ext 0 (.t 67), none⟩]
def A_link_Linked_lay_13 : List AOper := [⟨some 69, .entr (.t 66), none⟩,
    ⟨some 70, .ext 1 (.t 69), none⟩,
    ⟨some 7, .mov (.t 70), none⟩]
def A_link_Linked_lay_14 : List AOper := [⟨some 71, .mov (.t 0), none⟩,
    ⟨some 72, .mov (.t 7), none⟩,
    ⟨some 73, .nilc (.t 72), none⟩,
    ⟨some 74, .faddr 0 (.t 73), none⟩,
    ⟨some 75, .faddr 1 (.t 74), none⟩,
    ⟨some 76, .ld1 (.t 75), none⟩,
    ⟨some 77, .mov (.t 7), none⟩,
    ⟨some 78, .nilc (.t 77), none⟩,
    ⟨some 79, .faddr 0 (.t 78), none⟩,
    ⟨some 80, .faddr 3 (.t 79), none⟩,
    ⟨some 81, .ld1 (.t 80), none⟩,
    ⟨some 82, .mov (.t 7), none⟩,
    ⟨some 83, .nilc (.t 82), none⟩,
    ⟨some 84, .faddr 0 (.t 83), none⟩,
    ⟨some 85, .faddr 4 (.t 84), none⟩,
    ⟨some 86, .ld1 (.t 85), none⟩,
    ⟨some 87, .call 29 [(.t 71), (.t 76), (.t 81), (.t 86)], none⟩]
def A_link_Linked_lay_15 : ACode := (.seq (.ops A_link_Linked_lay_12) (.seq (.cond (.t 68) .skip (.exit 4)) (.block 5 (.seq (.ops A_link_Linked_lay_13) (.alts [71, 72, 73, 74, 75, 76, 77, 78, 79, 80, 81, 82, 83, 84, 85, 86, 87] [A_link_Linked_lay_14])))))
def A_link_Linked_lay_16 : List AOper := [⟨some 88, .mov (.t 0), none⟩,
    ⟨some 89, .nilc (.t 88), none⟩,
    ⟨some 90, .faddr 5 (.t 89), none⟩,
    ⟨some 91, .ld1 (.t 90), none⟩,
    ⟨some 92, .rngm (.t 91), none⟩]
def A_link_Linked_lay_17 : List AOper := [⟨some 93, .nxm (.t 92), none⟩,
    ⟨some 94, .ext 0 (.t 93), none⟩]
def A_link_Linked_lay_18 : List AOper := [⟨some 95, .entr (.t 92), none⟩,
    ⟨some 96, .ext 1 (.t 95), none⟩,
    ⟨some 9, .mov (.t 96), none⟩]
def A_link_Linked_lay_19 : List AOper := [⟨some 97, .mov (.t 9), none⟩,
    ⟨some 98, .call 30 [(.t 97)], none⟩]
def A_link_Linked_lay_20 : ACode := (.seq (.ops A_link_Linked_lay_17) (.seq (.cond (.t 94) .skip (.exit 6)) (.block 7 (.seq (.ops A_link_Linked_lay_18) (.ops A_link_Linked_lay_19)))))
def A_link_Linked_lay : ACode := (.seq (.ops A_link_Linked_lay_0) (.seq (.block 0 (.loop A_link_Linked_lay_10)) (.seq (.seq (.ops A_link_Linked_lay_11) (.block 4 (.loop A_link_Linked_lay_15))) (.seq (.ops A_link_Linked_lay_16) (.block 6 (.loop A_link_Linked_lay_20))))))
def R_link_Linked_lay : List ARes := []
def T_link_Linked_lay : FC := ⟨99, A_link_Linked_lay, R_link_Linked_lay⟩

-- lexicon/decode.Into
abbrev F_decode_Into : Nat := 17
def A_decode_Into_0 : List AOper := [⟨some 4, .box 40 3 (.t 1), none⟩,
    ⟨some 6, .box 40 3 (.c (.agg [.str [], .nils, .nils])), none⟩,
    ⟨some 7, .box 24 1 (.c (.int .i64 (0))), none⟩,
    ⟨some 8, .box 3 1 (.c (.int .i64 (0))), none⟩]
def A_decode_Into_1 : List AOper := [⟨some 16, .mov (.t 0), none⟩,
    ⟨some 17, .faddr 0 (.t 4), none⟩,
    ⟨some 18, .ld1 (.t 17), none⟩,
    ⟨some 19, .inv [(35, 337)] (.t 16) [(.t 18)], none⟩,
    ⟨some 15, .mov (.t 19), none⟩,
    ⟨some 20, .ext 0 (.t 15), none⟩,
    ⟨some 21, .ext 1 (.t 15), none⟩,
    ⟨some 9, .mov (.t 20), none⟩,
    ⟨some 10, .mov (.t 21), none⟩]
def A_decode_Into_2 : List AOper := [⟨some 22, .mov (.t 10), none⟩,
    ⟨some 23, .bini .neq (.t 22) (.c (.int .i64 (0))), none⟩]
def A_decode_Into_3 : List AOper := [⟨some 24, .build [.str [], .nils, .nils] [], none⟩,
    ⟨some 25, .mov (.t 10), none⟩,
    ⟨none, .st 3 (.t 6) (.t 24), none⟩,
    ⟨none, .st 1 (.t 7) (.t 25), none⟩,
    ⟨none, .st 1 (.t 8) (.c (.int .i64 (0))), none⟩]
def A_decode_Into_4 : List AOper := [⟨some 27, .mov (.t 0), none⟩,
    ⟨some 28, .lda 3 (.t 4), none⟩,
    ⟨some 29, .call 31 [(.t 27), (.t 28)], none⟩,
    ⟨some 26, .mov (.t 29), none⟩,
    ⟨some 30, .ext 0 (.t 26), none⟩,
    ⟨some 31, .ext 1 (.t 26), none⟩,
    ⟨some 11, .box 40 3 (.c (.agg [.str [], .nils, .nils])), none⟩,
    ⟨none, .st 3 (.t 11) (.t 30), none⟩,
    ⟨some 12, .mov (.t 31), none⟩]
def A_decode_Into_5 : List AOper := [⟨some 32, .mov (.t 12), none⟩,
    ⟨some 33, .bini .neq (.t 32) (.c (.int .i64 (0))), none⟩]
def A_decode_Into_6 : List AOper := [⟨some 34, .build [.str [], .nils, .nils] [], none⟩,
    ⟨some 35, .mov (.t 12), none⟩,
    ⟨none, .st 3 (.t 6) (.t 34), none⟩,
    ⟨none, .st 1 (.t 7) (.t 35), none⟩,
    ⟨none, .st 1 (.t 8) (.c (.int .i64 (0))), none⟩]
def A_decode_Into_7 : List AOper := [⟨some 36, .mov (.t 2), none⟩,
    ⟨some 37, .lenl (.t 36), none⟩,
    ⟨some 38, .bini .gtr (.t 37) (.c (.int .i64 (16777216))), none⟩]
def A_decode_Into_8 : List AOper := [⟨some 39, .build [.str [], .nils, .nils] [], none⟩,
    ⟨none, .st 3 (.t 6) (.t 39), none⟩,
    ⟨none, .st 1 (.t 7) (.c (.int .i64 (15))), none⟩,
    ⟨none, .st 1 (.t 8) (.c (.int .i64 (0))), none⟩]
def A_decode_Into_9 : List AOper := [⟨some 41, .mov (.t 0), none⟩,
    ⟨some 42, .mov (.t 2), none⟩,
    ⟨some 43, .call 33 [], none⟩,
    ⟨some 44, .build [.nili, .nils, .nils] [(0, 1, (.t 41)), (1, 1, (.t 42)), (2, 1, (.t 43))], none⟩,
    ⟨some 45, .box 122 3 (.t 44), none⟩,
    ⟨some 13, .mov (.t 45), none⟩]
def A_decode_Into_10 : List AOper := [⟨some 46, .mov (.t 13), none⟩,
    ⟨some 47, .lda 3 (.t 11), none⟩,
    ⟨some 48, .call 34 [(.t 46), (.t 47)], none⟩,
    ⟨some 14, .mov (.t 48), none⟩]
def A_decode_Into_11 : List AOper := [⟨some 49, .mov (.t 13), none⟩,
    ⟨some 50, .mov (.t 14), none⟩,
    ⟨some 51, .mov (.t 2), none⟩,
    ⟨some 52, .call 36 [(.t 51)], none⟩,
    ⟨some 53, .call 35 [(.t 49), (.t 50), (.t 52), (.c (.int .i64 (1)))], none⟩]
def A_decode_Into_12 : List AOper := [⟨some 54, .mov (.t 14), none⟩,
    ⟨some 55, .call 37 [(.t 54)], none⟩,
    ⟨none, .st 3 (.t 6) (.t 55), none⟩,
    ⟨none, .st 1 (.t 7) (.c (.int .i64 (0))), none⟩,
    ⟨none, .st 1 (.t 8) (.c (.int .i64 (0))), none⟩]
def A_decode_Into : ACode := (.seq (.ops A_decode_Into_0) (.seq (.seq (.ops A_decode_Into_1) (.seq (.ops A_decode_Into_2) (.cond (.t 23) (.seq (.ops A_decode_Into_3) .ret) .skip))) (.seq (.ops A_decode_Into_4) (.seq (.seq (.ops A_decode_Into_5) (.cond (.t 33) (.seq (.ops A_decode_Into_6) .ret) .skip)) (.seq (.seq (.ops A_decode_Into_7) (.cond (.t 38) (.seq (.ops A_decode_Into_8) .ret) .skip)) (.seq (.seq (.ops [⟨some 40, .mkfn 32 [] [(.t 6), (.t 7), (.t 8)], none⟩]) (.dfr (.t 40) [])) (.seq (.ops A_decode_Into_9) (.seq (.ops A_decode_Into_10) (.seq (.ops A_decode_Into_11) (.seq (.ops A_decode_Into_12) .ret))))))))))
def R_decode_Into : List ARes := [.cella 6 3, .cell1 7, .cell1 8]
def T_decode_Into : FC := ⟨56, A_decode_Into, R_decode_Into⟩

-- lexicon/link.cloneFile
abbrev F_link_cloneFile : Nat := 18
def A_link_cloneFile_0 : List AOper := [⟨some 1, .box 33 5 (.t 0), none⟩,
    ⟨some 2, .box 33 5 (.c (.agg [.str [], .str [], .nils, .nils, .nils])), none⟩]
def A_link_cloneFile_1 : List AOper := [⟨some 3, .faddr 2 (.t 1), none⟩,
    ⟨some 4, .ld1 (.t 3), none⟩,
    ⟨some 5, .call 38 [(.t 4)], none⟩,
    ⟨some 6, .faddr 2 (.t 1), none⟩,
    ⟨none, .st 1 (.t 6) (.t 5), none⟩]
def A_link_cloneFile_2 : List AOper := [⟨some 8, .faddr 3 (.t 1), none⟩,
    ⟨some 9, .ld1 (.t 8), none⟩,
    ⟨some 10, .faddr 4 (.t 1), none⟩,
    ⟨some 11, .ld1 (.t 10), none⟩,
    ⟨some 12, .call 39 [(.t 9), (.t 11)], none⟩,
    ⟨some 7, .mov (.t 12), none⟩,
    ⟨some 13, .ext 0 (.t 7), none⟩,
    ⟨some 14, .ext 1 (.t 7), none⟩,
    ⟨some 15, .faddr 3 (.t 1), none⟩,
    ⟨none, .st 1 (.t 15) (.t 13), none⟩,
    ⟨some 16, .faddr 4 (.t 1), none⟩,
    ⟨none, .st 1 (.t 16) (.t 14), none⟩]
def A_link_cloneFile_3 : List AOper := [⟨some 17, .lda 5 (.t 1), none⟩,
    ⟨none, .st 5 (.t 2) (.t 17), none⟩]
def A_link_cloneFile : ACode := (.seq (.ops A_link_cloneFile_0) (.seq (.ops A_link_cloneFile_1) (.seq (.ops A_link_cloneFile_2) (.seq (.ops A_link_cloneFile_3) .ret))))
def R_link_cloneFile : List ARes := [.cella 2 5]
def T_link_cloneFile : FC := ⟨18, A_link_cloneFile, R_link_cloneFile⟩

-- (*lexicon/link.Linked).paths
abbrev F_link_Linked_paths : Nat := 20
def A_link_Linked_paths_0 : List AOper := [⟨some 3, .mov (.t 0), none⟩,
    ⟨some 4, .nilc (.t 3), none⟩,
    ⟨some 5, .faddr 0 (.t 4), none⟩,
    ⟨some 6, .ld1 (.t 5), none⟩,
    ⟨some 7, .call 41 [(.t 6)], none⟩,
    ⟨some 8, .call 40 [(.t 7)], none⟩,
    ⟨some 2, .mov (.t 8), none⟩]
def A_link_Linked_paths : ACode := (.seq (.ops [⟨some 2, .mov (.c (.nils)), none⟩]) (.seq (.ops A_link_Linked_paths_0) .ret))
def R_link_Linked_paths : List ARes := [.tmp 2]
def T_link_Linked_paths : FC := ⟨9, A_link_Linked_paths, R_link_Linked_paths⟩

-- lexicon/check.Check
abbrev F_check_Check : Nat := 21
def A_check_Check_0 : List AOper := [⟨some 1, .box 33 5 (.t 0), none⟩,
    ⟨some 2, .box 26 2 (.c (.agg [.int .i64 (0), .str []])), none⟩]
def A_check_Check_1 : List AOper := [⟨some 5, .mkmap, none⟩,
    ⟨some 6, .build [.nilm] [(0, 1, (.t 5))], none⟩,
    ⟨some 7, .box 141 1 (.t 6), none⟩,
    ⟨some 3, .mov (.t 7), none⟩]
def A_check_Check_2 : List AOper := [⟨some 8, .mov (.t 3), none⟩,
    ⟨some 9, .lda 5 (.t 1), none⟩,
    ⟨some 10, .call 43 [(.t 8), (.t 9)], none⟩]
def A_check_Check_3 : List AOper := [⟨some 11, .build [.int .i64 (0), .str []] [], none⟩,
    ⟨none, .st 2 (.t 2) (.t 11), none⟩]
def A_check_Check : ACode := (.seq (.ops A_check_Check_0) (.seq (.seq (.ops [⟨some 4, .mkfn 42 [] [(.t 2)], none⟩]) (.dfr (.t 4) [])) (.seq (.ops A_check_Check_1) (.seq (.ops A_check_Check_2) (.seq (.ops A_check_Check_3) .ret)))))
def R_check_Check : List ARes := [.cella 2 2]
def T_check_Check : FC := ⟨12, A_check_Check, R_check_Check⟩

-- (*lexicon/link.Linked).rings$1
abbrev F_link_Linked_rings_c1 : Nat := 22
def A_link_Linked_rings_c1_0 : List AOper := [⟨some 8, .ld1 (.t 1), none⟩,
    ⟨some 9, .nilc (.t 8), none⟩,
    ⟨some 10, .faddr 0 (.t 9), none⟩,
    ⟨some 11, .ld1 (.t 10), none⟩,
    ⟨some 12, .mov (.t 0), none⟩,
    ⟨some 13, .mlook .s (.nilp) false (.t 11) (.t 12), none⟩,
    ⟨some 14, .nilc (.t 13), none⟩,
    ⟨some 15, .faddr 0 (.t 14), none⟩,
    ⟨some 16, .faddr 2 (.t 15), none⟩,
    ⟨some 17, .ld1 (.t 16), none⟩,
    ⟨some 18, .lenl (.t 17), none⟩,
    ⟨some 19, .mov (.c (.int .i64 (0))), none⟩]
def A_link_Linked_rings_c1_1 : List AOper := [⟨some 21, .iaddr 96 2 (.t 17) (.t 19), none⟩,
    ⟨some 22, .lda 2 (.t 21), none⟩,
    ⟨some 7, .box 96 2 (.c (.agg [.str [], .bool false])), none⟩,
    ⟨none, .st 2 (.t 7) (.t 22), none⟩]
def A_link_Linked_rings_c1_2 : List AOper := [⟨some 23, .faddr 0 (.t 7), none⟩,
    ⟨some 24, .ld1 (.t 23), none⟩,
    ⟨some 25, .ld1 (.t 2), none⟩,
    ⟨some 26, .bins .eql (.t 24) (.t 25), none⟩]
def A_link_Linked_rings_c1_3 : List AOper := [⟨some 27, .ld1 (.t 2), none⟩,
    ⟨some 28, .call 10 [(.c (.int .i64 (82))), (.t 27)], none⟩]
def A_link_Linked_rings_c1_4 : List AOper := [⟨some 29, .ld1 (.t 3), none⟩,
    ⟨some 30, .faddr 0 (.t 7), none⟩,
    ⟨some 31, .ld1 (.t 30), none⟩,
    ⟨some 32, .mlook .s (.bool false) false (.t 29) (.t 31), none⟩,
    ⟨some 33, .not (.t 32), none⟩]
def A_link_Linked_rings_c1_5 : List AOper := [⟨some 34, .ld1 (.t 3), none⟩,
    ⟨some 35, .faddr 0 (.t 7), none⟩,
    ⟨some 36, .ld1 (.t 35), none⟩,
    ⟨none, .mupd .s (.t 34) (.t 36) (.c (.bool true)), none⟩]
def A_link_Linked_rings_c1_6 : List AOper := [⟨some 37, .ld1 (.t 4), none⟩,
    ⟨some 38, .faddr 0 (.t 7), none⟩,
    ⟨some 39, .ld1 (.t 38), none⟩,
    ⟨some 40, .callv (.t 37) [(.t 39)], none⟩]
def A_link_Linked_rings_c1_7 : List AOper := [⟨some 41, .bini .add (.t 19) (.c (.int .i64 (1))), none⟩,
    ⟨some 19, .mov (.t 41), none⟩]
def A_link_Linked_rings_c1_8 : ACode := (.seq (.ops [⟨some 20, .bini .lss (.t 19) (.t 18), none⟩]) (.seq (.cond (.t 20) .skip (.exit 0)) (.seq (.block 1 (.seq (.ops A_link_Linked_rings_c1_1) (.seq (.seq (.ops A_link_Linked_rings_c1_2) (.cond (.t 26) (.ops A_link_Linked_rings_c1_3) .skip)) (.seq (.ops A_link_Linked_rings_c1_4) (.cond (.t 33) (.seq (.ops A_link_Linked_rings_c1_5) (.ops A_link_Linked_rings_c1_6)) .skip))))) (.ops A_link_Linked_rings_c1_7))))
def A_link_Linked_rings_c1 : ACode := (.seq (.ops A_link_Linked_rings_c1_0) (.block 0 (.loop A_link_Linked_rings_c1_8)))
def R_link_Linked_rings_c1 : List ARes := []
def T_link_Linked_rings_c1 : FC := ⟨42, A_link_Linked_rings_c1, R_link_Linked_rings_c1⟩

-- (*lexicon/link.Linked).look
abbrev F_link_Linked_look : Nat := 23
def A_link_Linked_look_0 : List AOper := [⟨some 10, .mov (.t 1), none⟩,
    ⟨some 11, .mov (.t 2), none⟩,
    ⟨some 12, .mlook .s (.bool false) false (.t 10) (.t 11), none⟩,
    ⟨some 13, .mov (.t 12), none⟩,
    ⟨some 14, .mov (.t 3), some (13, true)⟩,
    ⟨some 15, .not (.t 14), some (13, true)⟩,
    ⟨some 16, .pick (.t 13) (.t 15) (.c (.bool false)), none⟩]
def A_link_Linked_look_1 : List AOper := [⟨some 17, .mov (.t 1), none⟩,
    ⟨some 18, .mov (.t 2), none⟩,
    ⟨none, .mupd .s (.t 17) (.t 18) (.c (.bool true)), none⟩]
def A_link_Linked_look_2 : List AOper := [⟨some 19, .mov (.t 0), none⟩,
    ⟨some 20, .nilc (.t 19), none⟩,
    ⟨some 21, .faddr 0 (.t 20), none⟩,
    ⟨some 22, .ld1 (.t 21), none⟩,
    ⟨some 23, .mov (.t 2), none⟩,
    ⟨some 24, .mlook .s (.nilp) false (.t 22) (.t 23), none⟩,
    ⟨some 25, .nilc (.t 24), none⟩,
    ⟨some 26, .faddr 0 (.t 25), none⟩,
    ⟨some 27, .faddr 2 (.t 26), none⟩,
    ⟨some 28, .ld1 (.t 27), none⟩,
    ⟨some 29, .lenl (.t 28), none⟩,
    ⟨some 30, .mov (.c (.int .i64 (0))), none⟩]
def A_link_Linked_look_3 : List AOper := [⟨some 32, .iaddr 96 2 (.t 28) (.t 30), none⟩,
    ⟨some 33, .lda 2 (.t 32), none⟩,
    ⟨some 9, .box 96 2 (.c (.agg [.str [], .bool false])), none⟩,
    ⟨none, .st 2 (.t 9) (.t 33), none⟩]
def A_link_Linked_look_4 : List AOper := [⟨some 34, .mov (.t 3), none⟩,
    ⟨some 35, .mov (.t 34), none⟩,
    ⟨some 36, .faddr 1 (.t 9), some (35, false)⟩,
    ⟨some 37, .ld1 (.t 36), some (35, false)⟩,
    ⟨some 38, .pick (.t 35) (.c (.bool true)) (.t 37), none⟩]
def A_link_Linked_look_5 : List AOper := [⟨some 39, .mov (.t 0), none⟩,
    ⟨some 40, .mov (.t 1), none⟩,
    ⟨some 41, .faddr 0 (.t 9), none⟩,
    ⟨some 42, .ld1 (.t 41), none⟩,
    ⟨some 43, .call 23 [(.t 39), (.t 40), (.t 42), (.c (.bool false))], none⟩]
def A_link_Linked_look_6 : List AOper := [⟨some 44, .bini .add (.t 30) (.c (.int .i64 (1))), none⟩,
    ⟨some 30, .mov (.t 44), none⟩]
def A_link_Linked_look_7 : ACode := (.seq (.ops [⟨some 31, .bini .lss (.t 30) (.t 29), none⟩]) (.seq (.cond (.t 31) .skip (.exit 0)) (.seq (.block 1 (.seq (.ops A_link_Linked_look_3) (.seq (.ops A_link_Linked_look_4) (.cond (.t 38) (.ops A_link_Linked_look_5) .skip)))) (.ops A_link_Linked_look_6))))
def A_link_Linked_look : ACode := (.seq (.seq (.ops A_link_Linked_look_0) (.cond (.t 16) .ret .skip)) (.seq (.ops A_link_Linked_look_1) (.seq (.ops A_link_Linked_look_2) (.block 0 (.loop A_link_Linked_look_7)))))
def R_link_Linked_look : List ARes := []
def T_link_Linked_look : FC := ⟨45, A_link_Linked_look, R_link_Linked_look⟩

-- lexicon/link.packages
abbrev F_link_packages : Nat := 24
def A_link_packages_0 : List AOper := [⟨some 5, .mov (.t 0), none⟩,
    ⟨some 6, .call 44 [(.t 5)], none⟩]
def A_link_packages_1 : List AOper := [⟨some 8, .mov (.t 4), none⟩,
    ⟨some 9, .bins .neq (.t 8) (.c (.str [])), none⟩]
def A_link_packages_2 : List AOper := [⟨some 10, .ld1 (.t 3), none⟩,
    ⟨some 11, .mov (.t 4), none⟩,
    ⟨some 12, .bslice 9 1 1 [.str []] [(0, 1, (.t 11))], none⟩,
    ⟨some 13, .app 9 1 16 (.t 10) (.t 12), none⟩,
    ⟨none, .st 1 (.t 3) (.t 13), none⟩]
def A_link_packages_3 : List AOper := [⟨some 14, .ld1 (.t 3), none⟩,
    ⟨some 2, .mov (.t 14), none⟩]
def A_link_packages : ACode := (.seq (.ops [⟨some 2, .mov (.c (.nils)), none⟩]) (.seq (.ops [⟨some 3, .box 60 1 (.c (.nils)), none⟩]) (.seq (.seq (.ops A_link_packages_0) (.block 0 (.rngf (.t 6) [7] (.ops [⟨some 4, .mov (.t 7), none⟩]) (.block 1 (.seq (.ops A_link_packages_1) (.cond (.t 9) (.ops A_link_packages_2) .skip)))))) (.seq (.ops A_link_packages_3) .ret))))
def R_link_packages : List ARes := [.tmp 2]
def T_link_packages : FC := ⟨15, A_link_packages, R_link_packages⟩

-- lexicon/check.Symbols
abbrev F_check_Symbols : Nat := 25
def A_check_Symbols_0 : List AOper := [⟨some 1, .box 33 5 (.t 0), none⟩,
    ⟨some 2, .mov (.c (.nils)), none⟩]
def A_check_Symbols_1 : List AOper := [⟨some 11, .mkfn 45 [] [(.t 3), (.t 1)], none⟩,
    ⟨some 4, .box 145 1 (.c (.nilf)), none⟩,
    ⟨none, .st 1 (.t 4) (.t 11), none⟩]
def A_check_Symbols_2 : List AOper := [⟨some 12, .mkfn 47 [] [(.t 4)], none⟩,
    ⟨some 5, .box 151 1 (.c (.nilf)), none⟩,
    ⟨none, .st 1 (.t 5) (.t 12), none⟩]
def A_check_Symbols_3 : List AOper := [⟨some 13, .mkfn 48 [] [(.t 4), (.t 6), (.t 5)], none⟩,
    ⟨none, .st 1 (.t 6) (.t 13), none⟩]
def A_check_Symbols_4 : List AOper := [⟨some 14, .faddr 3 (.t 1), none⟩,
    ⟨some 15, .ld1 (.t 14), none⟩,
    ⟨some 16, .lenl (.t 15), none⟩,
    ⟨some 17, .mov (.c (.int .i64 (0))), none⟩]
def A_check_Symbols_5 : List AOper := [⟨some 19, .iaddr 72 7 (.t 15) (.t 17), none⟩,
    ⟨some 20, .lda 7 (.t 19), none⟩,
    ⟨some 8, .box 72 7 (.c (.agg [.str [], .nils, .nils, .nils, .nils, .nils, .nils])), none⟩,
    ⟨none, .st 7 (.t 8) (.t 20), none⟩]
def A_check_Symbols_6 : List AOper := [⟨some 21, .ld1 (.t 6), none⟩,
    ⟨some 22, .lda 7 (.t 8), none⟩,
    ⟨some 23, .faddr 1 (.t 1), none⟩,
    ⟨some 24, .ld1 (.t 23), none⟩,
    ⟨some 25, .callv (.t 21) [(.t 22), (.t 24)], none⟩]
def A_check_Symbols_7 : List AOper := [⟨some 26, .bini .add (.t 17) (.c (.int .i64 (1))), none⟩,
    ⟨some 17, .mov (.t 26), none⟩]
def A_check_Symbols_8 : ACode := (.seq (.ops [⟨some 18, .bini .lss (.t 17) (.t 16), none⟩]) (.seq (.cond (.t 18) .skip (.exit 0)) (.seq (.block 1 (.seq (.ops A_check_Symbols_5) (.ops A_check_Symbols_6))) (.ops A_check_Symbols_7))))
def A_check_Symbols_9 : List AOper := [⟨some 27, .faddr 4 (.t 1), none⟩,
    ⟨some 28, .ld1 (.t 27), none⟩,
    ⟨some 29, .lenl (.t 28), none⟩,
    ⟨some 30, .mov (.c (.int .i64 (0))), none⟩]
def A_check_Symbols_10 : List AOper := [⟨some 32, .iaddr 148 5 (.t 28) (.t 30), none⟩,
    ⟨some 33, .lda 5 (.t 32), none⟩,
    ⟨some 10, .box 148 5 (.c (.agg [.str [], .nils, .bool false, .nils, .nils])), none⟩,
    ⟨none, .st 5 (.t 10) (.t 33), none⟩]
def A_check_Symbols_11 : List AOper := [⟨some 34, .ld1 (.t 5), none⟩,
    ⟨some 35, .lda 5 (.t 10), none⟩,
    ⟨some 36, .faddr 1 (.t 1), none⟩,
    ⟨some 37, .ld1 (.t 36), none⟩,
    ⟨some 38, .callv (.t 34) [(.t 35), (.t 37)], none⟩]
def A_check_Symbols_12 : List AOper := [⟨some 39, .bini .add (.t 30) (.c (.int .i64 (1))), none⟩,
    ⟨some 30, .mov (.t 39), none⟩]
def A_check_Symbols_13 : ACode := (.seq (.ops [⟨some 31, .bini .lss (.t 30) (.t 29), none⟩]) (.seq (.cond (.t 31) .skip (.exit 2)) (.seq (.block 3 (.seq (.ops A_check_Symbols_10) (.ops A_check_Symbols_11))) (.ops A_check_Symbols_12))))
def A_check_Symbols_14 : List AOper := [⟨some 40, .ld1 (.t 3), none⟩,
    ⟨some 41, .call 49 [(.t 40), (.f 50)], none⟩]
def A_check_Symbols_15 : List AOper := [⟨some 42, .ld1 (.t 3), none⟩,
    ⟨some 2, .mov (.t 42), none⟩]
def A_check_Symbols : ACode := (.seq (.ops A_check_Symbols_0) (.seq (.ops [⟨some 3, .box 100 1 (.c (.nils)), none⟩]) (.seq (.ops A_check_Symbols_1) (.seq (.ops A_check_Symbols_2) (.seq (.ops [⟨some 6, .box 152 1 (.c (.nilf)), none⟩]) (.seq (.ops A_check_Symbols_3) (.seq (.seq (.ops A_check_Symbols_4) (.block 0 (.loop A_check_Symbols_8))) (.seq (.seq (.ops A_check_Symbols_9) (.block 2 (.loop A_check_Symbols_13))) (.seq (.ops A_check_Symbols_14) (.seq (.ops A_check_Symbols_15) .ret))))))))))
def R_check_Symbols : List ARes := [.tmp 2]
def T_check_Symbols : FC := ⟨43, A_check_Symbols, R_check_Symbols⟩

-- (*lexicon/link.Linked).members
abbrev F_link_Linked_members : Nat := 26
def A_link_Linked_members_0 : List AOper := [⟨some 12, .mov (.t 3), none⟩,
    ⟨some 13, .lenl (.t 12), none⟩,
    ⟨some 14, .mov (.c (.int .i64 (0))), none⟩]
def A_link_Linked_members_1 : List AOper := [⟨some 16, .mov (.t 14), none⟩,
    ⟨some 8, .mov (.t 16), none⟩]
def A_link_Linked_members_2 : List AOper := [⟨some 17, .mov (.t 3), none⟩,
    ⟨some 18, .mov (.t 8), none⟩,
    ⟨some 19, .iaddr 72 7 (.t 17) (.t 18), none⟩,
    ⟨some 9, .mov (.t 19), none⟩]
def A_link_Linked_members_3 : List AOper := [⟨some 20, .mov (.t 2), none⟩,
    ⟨some 21, .mov (.t 9), none⟩,
    ⟨some 22, .nilc (.t 21), none⟩,
    ⟨some 23, .faddr 0 (.t 22), none⟩,
    ⟨some 24, .ld1 (.t 23), none⟩,
    ⟨some 25, .bslice 9 1 2 [.str []] [(0, 1, (.t 20)), (1, 1, (.t 24))], none⟩,
    ⟨some 26, .call 46 [(.t 25)], none⟩,
    ⟨some 10, .mov (.t 26), none⟩]
def A_link_Linked_members_4 : List AOper := [⟨some 27, .mov (.t 9), none⟩,
    ⟨some 28, .nilc (.t 27), none⟩,
    ⟨some 29, .faddr 1 (.t 28), none⟩,
    ⟨some 30, .ld1 (.t 29), none⟩,
    ⟨some 31, .lenl (.t 30), none⟩,
    ⟨some 32, .mov (.c (.int .i64 (0))), none⟩]
def A_link_Linked_members_5 : List AOper := [⟨some 34, .mov (.t 32), none⟩,
    ⟨some 11, .mov (.t 34), none⟩]
def A_link_Linked_members_6 : List AOper := [⟨some 35, .mov (.t 0), none⟩,
    ⟨some 36, .mov (.t 1), none⟩,
    ⟨some 37, .mov (.t 10), none⟩,
    ⟨some 38, .mov (.t 9), none⟩,
    ⟨some 39, .nilc (.t 38), none⟩,
    ⟨some 40, .faddr 1 (.t 39), none⟩,
    ⟨some 41, .ld1 (.t 40), none⟩,
    ⟨some 42, .mov (.t 11), none⟩,
    ⟨some 43, .iaddr 68 9 (.t 41) (.t 42), none⟩,
    ⟨some 44, .call 54 [(.t 35), (.t 36), (.t 37), (.t 43)], none⟩]
def A_link_Linked_members_7 : List AOper := [⟨some 45, .bini .add (.t 32) (.c (.int .i64 (1))), none⟩,
    ⟨some 32, .mov (.t 45), none⟩]
def A_link_Linked_members_8 : ACode := (.seq (.ops [⟨some 33, .bini .lss (.t 32) (.t 31), none⟩]) (.seq (.cond (.t 33) .skip (.exit 2)) (.seq (.block 3 (.seq (.ops A_link_Linked_members_5) (.ops A_link_Linked_members_6))) (.ops A_link_Linked_members_7))))
def A_link_Linked_members_9 : List AOper := [⟨some 46, .mov (.t 0), none⟩,
    ⟨some 47, .mov (.t 1), none⟩,
    ⟨some 48, .mov (.t 10), none⟩,
    ⟨some 49, .mov (.t 9), none⟩,
    ⟨some 50, .nilc (.t 49), none⟩,
    ⟨some 51, .faddr 3 (.t 50), none⟩,
    ⟨some 52, .ld1 (.t 51), none⟩,
    ⟨some 53, .call 26 [(.t 46), (.t 47), (.t 48), (.t 52)], none⟩]
def A_link_Linked_members_10 : List AOper := [⟨some 54, .bini .add (.t 14) (.c (.int .i64 (1))), none⟩,
    ⟨some 14, .mov (.t 54), none⟩]
def A_link_Linked_members_11 : ACode := (.seq (.ops [⟨some 15, .bini .lss (.t 14) (.t 13), none⟩]) (.seq (.cond (.t 15) .skip (.exit 0)) (.seq (.block 1 (.seq (.ops A_link_Linked_members_1) (.seq (.ops A_link_Linked_members_2) (.seq (.ops A_link_Linked_members_3) (.seq (.seq (.ops A_link_Linked_members_4) (.block 2 (.loop A_link_Linked_members_8))) (.ops A_link_Linked_members_9)))))) (.ops A_link_Linked_members_10))))
def A_link_Linked_members : ACode := (.seq (.ops A_link_Linked_members_0) (.block 0 (.loop A_link_Linked_members_11)))
def R_link_Linked_members : List ARes := []
def T_link_Linked_members : FC := ⟨55, A_link_Linked_members, R_link_Linked_members⟩

-- slices.ContainsFunc[[]lexicon/api.Import,lexicon/api.Import]
abbrev F_slices_ContainsFunc_api_Import_api_Import : Nat := 28
def A_slices_ContainsFunc_api_Import_api_Import_0 : List AOper := [⟨some 5, .mov (.t 0), none⟩,
    ⟨some 6, .mov (.t 1), none⟩,
    ⟨some 7, .call 55 [(.t 5), (.t 6)], none⟩,
    ⟨some 8, .bini .geq (.t 7) (.c (.int .i64 (0))), none⟩,
    ⟨some 4, .mov (.t 8), none⟩]
def A_slices_ContainsFunc_api_Import_api_Import : ACode := (.seq (.ops [⟨some 4, .mov (.c (.bool false)), none⟩]) (.seq (.ops A_slices_ContainsFunc_api_Import_api_Import_0) .ret))
def R_slices_ContainsFunc_api_Import_api_Import : List ARes := [.tmp 4]
def T_slices_ContainsFunc_api_Import_api_Import : FC := ⟨9, A_slices_ContainsFunc_api_Import_api_Import, R_slices_ContainsFunc_api_Import_api_Import⟩

-- (*lexicon/link.Linked).declare
abbrev F_link_Linked_declare : Nat := 29
def A_link_Linked_declare_0 : List AOper := [⟨some 15, .mov (.t 3), none⟩,
    ⟨some 16, .lenl (.t 15), none⟩,
    ⟨some 17, .mov (.c (.int .i64 (0))), none⟩]
def A_link_Linked_declare_1 : List AOper := [⟨some 19, .iaddr 148 5 (.t 15) (.t 17), none⟩,
    ⟨some 20, .lda 5 (.t 19), none⟩,
    ⟨some 9, .box 148 5 (.c (.agg [.str [], .nils, .bool false, .nils, .nils])), none⟩,
    ⟨none, .st 5 (.t 9) (.t 20), none⟩]
def A_link_Linked_declare_2 : List AOper := [⟨some 21, .mov (.t 0), none⟩,
    ⟨some 22, .nilc (.t 21), none⟩,
    ⟨some 23, .faddr 4 (.t 22), none⟩,
    ⟨some 24, .ld1 (.t 23), none⟩,
    ⟨some 25, .mov (.t 1), none⟩,
    ⟨some 26, .faddr 0 (.t 9), none⟩,
    ⟨some 27, .ld1 (.t 26), none⟩,
    ⟨some 30, .lda 5 (.t 9), none⟩,
    ⟨some 28, .bslice 9 1 2 [.str []] [(0, 1, (.t 25)), (1, 1, (.t 27))], none⟩,
    ⟨some 29, .acall 46 [(.t 28)], none⟩,
    ⟨none, .mupd .s (.t 24) (.t 29) (.t 30), none⟩]
def A_link_Linked_declare_3 : List AOper := [⟨some 31, .bini .add (.t 17) (.c (.int .i64 (1))), none⟩,
    ⟨some 17, .mov (.t 31), none⟩]
def A_link_Linked_declare_4 : ACode := (.seq (.ops [⟨some 18, .bini .lss (.t 17) (.t 16), none⟩]) (.seq (.cond (.t 18) .skip (.exit 0)) (.seq (.block 1 (.seq (.ops A_link_Linked_declare_1) (.alts [21, 22, 23, 24, 25, 26, 27, 28, 29, 30] [A_link_Linked_declare_2]))) (.ops A_link_Linked_declare_3))))
def A_link_Linked_declare_5 : List AOper := [⟨some 32, .mov (.t 2), none⟩,
    ⟨some 33, .lenl (.t 32), none⟩,
    ⟨some 34, .mov (.c (.int .i64 (0))), none⟩]
def A_link_Linked_declare_6 : List AOper := [⟨some 36, .iaddr 72 7 (.t 32) (.t 34), none⟩,
    ⟨some 37, .lda 7 (.t 36), none⟩,
    ⟨some 11, .box 72 7 (.c (.agg [.str [], .nils, .nils, .nils, .nils, .nils, .nils])), none⟩,
    ⟨none, .st 7 (.t 11) (.t 37), none⟩]
def A_link_Linked_declare_7 : List AOper := [⟨some 38, .mov (.t 1), none⟩,
    ⟨some 39, .faddr 0 (.t 11), none⟩,
    ⟨some 40, .ld1 (.t 39), none⟩,
    ⟨some 41, .bslice 9 1 2 [.str []] [(0, 1, (.t 38)), (1, 1, (.t 40))], none⟩,
    ⟨some 42, .call 46 [(.t 41)], none⟩,
    ⟨some 12, .mov (.t 42), none⟩]
def A_link_Linked_declare_8 : List AOper := [⟨some 43, .mov (.t 0), none⟩,
    ⟨some 44, .nilc (.t 43), none⟩,
    ⟨some 45, .faddr 3 (.t 44), none⟩,
    ⟨some 46, .ld1 (.t 45), none⟩,
    ⟨some 47, .mov (.t 12), none⟩,
    ⟨some 48, .lda 7 (.t 11), none⟩,
    ⟨none, .mupd .s (.t 46) (.t 47) (.t 48), none⟩]
def A_link_Linked_declare_9 : List AOper := [⟨some 49, .faddr 1 (.t 11), none⟩,
    ⟨some 50, .ld1 (.t 49), none⟩,
    ⟨some 51, .lenl (.t 50), none⟩,
    ⟨some 52, .mov (.c (.int .i64 (0))), none⟩]
def A_link_Linked_declare_10 : List AOper := [⟨some 54, .iaddr 68 9 (.t 50) (.t 52), none⟩,
    ⟨some 55, .lda 9 (.t 54), none⟩,
    ⟨some 14, .box 68 9 (.c (.agg [.str [], .int .i32 (0), .int .u8 (0), .int .u8 (0), .str [], .int .u8 (0), .int .i64 (0), .int .u8 (0), .str []])), none⟩,
    ⟨none, .st 9 (.t 14) (.t 55), none⟩]
def A_link_Linked_declare_11 : List AOper := [⟨some 56, .faddr 4 (.t 14), none⟩,
    ⟨some 57, .ld1 (.t 56), none⟩,
    ⟨some 58, .bins .neq (.t 57) (.c (.str [])), none⟩,
    ⟨some 59, .mov (.t 58), none⟩,
    ⟨some 60, .mov (.t 0), some (59, true)⟩,
    ⟨some 61, .nilc (.t 60), some (59, true)⟩,
    ⟨some 62, .faddr 5 (.t 61), some (59, true)⟩,
    ⟨some 63, .ld1 (.t 62), some (59, true)⟩,
    ⟨some 64, .faddr 4 (.t 14), some (59, true)⟩,
    ⟨some 65, .ld1 (.t 64), some (59, true)⟩,
    ⟨some 66, .mlook .s (.nils) false (.t 63) (.t 65), some (59, true)⟩,
    ⟨some 67, .mov (.t 12), some (59, true)⟩,
    ⟨some 68, .call 56 [(.t 66), (.t 67)], some (59, true)⟩,
    ⟨some 69, .not (.t 68), some (59, true)⟩,
    ⟨some 70, .pick (.t 59) (.t 69) (.c (.bool false)), none⟩]
def A_link_Linked_declare_12 : List AOper := [⟨some 71, .mov (.t 0), none⟩,
    ⟨some 72, .nilc (.t 71), none⟩,
    ⟨some 73, .faddr 5 (.t 72), none⟩,
    ⟨some 75, .faddr 4 (.t 14), none⟩,
    ⟨some 77, .mov (.t 0), none⟩,
    ⟨some 78, .nilc (.t 77), none⟩,
    ⟨some 79, .faddr 5 (.t 78), none⟩,
    ⟨some 80, .ld1 (.t 79), none⟩,
    ⟨some 81, .faddr 4 (.t 14), none⟩,
    ⟨some 82, .ld1 (.t 81), none⟩,
    ⟨some 83, .mlook .s (.nils) false (.t 80) (.t 82), none⟩,
    ⟨some 84, .mov (.t 12), none⟩,
    ⟨some 85, .fslice 9 1 1 [.str []] [(0, 1, (.t 84))], none⟩,
    ⟨some 74, .ld1 (.t 73), none⟩,
    ⟨some 76, .ld1 (.t 75), none⟩,
    ⟨some 86, .app 9 1 16 (.t 83) (.t 85), none⟩,
    ⟨none, .mupd .s (.t 74) (.t 76) (.t 86), none⟩]
def A_link_Linked_declare_13 : List AOper := [⟨some 71, .mov (.t 0), none⟩,
    ⟨some 72, .nilc (.t 71), none⟩,
    ⟨some 73, .faddr 5 (.t 72), none⟩,
    ⟨some 75, .faddr 4 (.t 14), none⟩,
    ⟨some 77, .mov (.t 0), none⟩,
    ⟨some 78, .nilc (.t 77), none⟩,
    ⟨some 79, .faddr 5 (.t 78), none⟩,
    ⟨some 80, .ld1 (.t 79), none⟩,
    ⟨some 81, .faddr 4 (.t 14), none⟩,
    ⟨some 82, .ld1 (.t 81), none⟩,
    ⟨some 83, .mlook .s (.nils) false (.t 80) (.t 82), none⟩,
    ⟨some 84, .mov (.t 12), none⟩,
    ⟨some 85, .fslice 9 1 1 [.str []] [(0, 1, (.t 84))], none⟩,
    ⟨some 74, .ld1 (.t 73), none⟩,
    ⟨some 86, .app 9 1 16 (.t 83) (.t 85), none⟩,
    ⟨some 76, .ld1 (.t 75), none⟩,
    ⟨none, .mupd .s (.t 74) (.t 76) (.t 86), none⟩]
def A_link_Linked_declare_14 : List AOper := [⟨some 71, .mov (.t 0), none⟩,
    ⟨some 72, .nilc (.t 71), none⟩,
    ⟨some 73, .faddr 5 (.t 72), none⟩,
    ⟨some 75, .faddr 4 (.t 14), none⟩,
    ⟨some 77, .mov (.t 0), none⟩,
    ⟨some 78, .nilc (.t 77), none⟩,
    ⟨some 79, .faddr 5 (.t 78), none⟩,
    ⟨some 80, .ld1 (.t 79), none⟩,
    ⟨some 81, .faddr 4 (.t 14), none⟩,
    ⟨some 82, .ld1 (.t 81), none⟩,
    ⟨some 83, .mlook .s (.nils) false (.t 80) (.t 82), none⟩,
    ⟨some 84, .mov (.t 12), none⟩,
    ⟨some 85, .fslice 9 1 1 [.str []] [(0, 1, (.t 84))], none⟩,
    ⟨some 76, .ld1 (.t 75), none⟩,
    ⟨some 74, .ld1 (.t 73), none⟩,
    ⟨some 86, .app 9 1 16 (.t 83) (.t 85), none⟩,
    ⟨none, .mupd .s (.t 74) (.t 76) (.t 86), none⟩]
def A_link_Linked_declare_15 : List AOper := [⟨some 71, .mov (.t 0), none⟩,
    ⟨some 72, .nilc (.t 71), none⟩,
    ⟨some 73, .faddr 5 (.t 72), none⟩,
    ⟨some 75, .faddr 4 (.t 14), none⟩,
    ⟨some 77, .mov (.t 0), none⟩,
    ⟨some 78, .nilc (.t 77), none⟩,
    ⟨some 79, .faddr 5 (.t 78), none⟩,
    ⟨some 80, .ld1 (.t 79), none⟩,
    ⟨some 81, .faddr 4 (.t 14), none⟩,
    ⟨some 82, .ld1 (.t 81), none⟩,
    ⟨some 83, .mlook .s (.nils) false (.t 80) (.t 82), none⟩,
    ⟨some 84, .mov (.t 12), none⟩,
    ⟨some 85, .fslice 9 1 1 [.str []] [(0, 1, (.t 84))], none⟩,
    ⟨some 76, .ld1 (.t 75), none⟩,
    ⟨some 86, .app 9 1 16 (.t 83) (.t 85), none⟩,
    ⟨some 74, .ld1 (.t 73), none⟩,
    ⟨none, .mupd .s (.t 74) (.t 76) (.t 86), none⟩]
def A_link_Linked_declare_16 : List AOper := [⟨some 71, .mov (.t 0), none⟩,
    ⟨some 72, .nilc (.t 71), none⟩,
    ⟨some 73, .faddr 5 (.t 72), none⟩,
    ⟨some 75, .faddr 4 (.t 14), none⟩,
    ⟨some 77, .mov (.t 0), none⟩,
    ⟨some 78, .nilc (.t 77), none⟩,
    ⟨some 79, .faddr 5 (.t 78), none⟩,
    ⟨some 80, .ld1 (.t 79), none⟩,
    ⟨some 81, .faddr 4 (.t 14), none⟩,
    ⟨some 82, .ld1 (.t 81), none⟩,
    ⟨some 83, .mlook .s (.nils) false (.t 80) (.t 82), none⟩,
    ⟨some 84, .mov (.t 12), none⟩,
    ⟨some 85, .fslice 9 1 1 [.str []] [(0, 1, (.t 84))], none⟩,
    ⟨some 86, .app 9 1 16 (.t 83) (.t 85), none⟩,
    ⟨some 74, .ld1 (.t 73), none⟩,
    ⟨some 76, .ld1 (.t 75), none⟩,
    ⟨none, .mupd .s (.t 74) (.t 76) (.t 86), none⟩]
def A_link_Linked_declare_17 : List AOper := [⟨some 87, .bini .add (.t 52) (.c (.int .i64 (1))), none⟩,
    ⟨some 52, .mov (.t 87), none⟩]
def A_link_Linked_declare_18 : ACode := (.seq (.ops [⟨some 53, .bini .lss (.t 52) (.t 51), none⟩]) (.seq (.cond (.t 53) .skip (.exit 4)) (.seq (.block 5 (.seq (.ops A_link_Linked_declare_10) (.seq (.alts [56, 57, 58, 59, 60, 61, 62, 63, 64, 65, 66, 67, 68, 69, 70] [A_link_Linked_declare_11]) (.cond (.t 70) (.alts [71, 72, 73, 74, 75, 76, 77, 78, 79, 80, 81, 82, 83, 84, 85, 86] [A_link_Linked_declare_12, A_link_Linked_declare_13, A_link_Linked_declare_14, A_link_Linked_declare_15, A_link_Linked_declare_16]) .skip)))) (.ops A_link_Linked_declare_17))))
def A_link_Linked_declare_19 : List AOper := [⟨some 88, .mov (.t 0), none⟩,
    ⟨some 89, .mov (.t 12), none⟩,
    ⟨some 90, .faddr 3 (.t 11), none⟩,
    ⟨some 91, .ld1 (.t 90), none⟩,
    ⟨some 92, .faddr 4 (.t 11), none⟩,
    ⟨some 93, .ld1 (.t 92), none⟩,
    ⟨some 94, .call 29 [(.t 88), (.t 89), (.t 91), (.t 93)], none⟩]
def A_link_Linked_declare_20 : List AOper := [⟨some 95, .bini .add (.t 34) (.c (.int .i64 (1))), none⟩,
    ⟨some 34, .mov (.t 95), none⟩]
def A_link_Linked_declare_21 : ACode := (.seq (.ops [⟨some 35, .bini .lss (.t 34) (.t 33), none⟩]) (.seq (.cond (.t 35) .skip (.exit 2)) (.seq (.block 3 (.seq (.ops A_link_Linked_declare_6) (.seq (.ops A_link_Linked_declare_7) (.seq (.alts [43, 44, 45, 46, 47, 48] [A_link_Linked_declare_8]) (.seq (.seq (.ops A_link_Linked_declare_9) (.block 4 (.loop A_link_Linked_declare_18))) (.ops A_link_Linked_declare_19)))))) (.ops A_link_Linked_declare_20))))
def A_link_Linked_declare : ACode := (.seq (.seq (.ops A_link_Linked_declare_0) (.block 0 (.loop A_link_Linked_declare_4))) (.seq (.ops A_link_Linked_declare_5) (.block 2 (.loop A_link_Linked_declare_21))))
def R_link_Linked_declare : List ARes := []
def T_link_Linked_declare : FC := ⟨96, A_link_Linked_declare, R_link_Linked_declare⟩

-- slices.Sort[[]string,string]
abbrev F_slices_Sort_string_string : Nat := 30
def A_slices_Sort_string_string_0 : List AOper := [⟨some 3, .mov (.t 0), none⟩,
    ⟨some 4, .lenl (.t 3), none⟩,
    ⟨some 2, .mov (.t 4), none⟩]
def A_slices_Sort_string_string_1 : List AOper := [⟨some 5, .mov (.t 0), none⟩,
    ⟨some 6, .mov (.t 2), none⟩,
    ⟨some 7, .mov (.t 2), none⟩,
    ⟨some 8, .conv .u64 (.t 7), none⟩,
    ⟨some 9, .call 58 [(.t 8)], none⟩,
    ⟨some 10, .call 57 [(.t 5), (.c (.int .i64 (0))), (.t 6), (.t 9)], none⟩]
def A_slices_Sort_string_string : ACode := (.seq (.ops A_slices_Sort_string_string_0) (.ops A_slices_Sort_string_string_1))
def R_slices_Sort_string_string : List ARes := []
def T_slices_Sort_string_string : FC := ⟨11, A_slices_Sort_string_string, R_slices_Sort_string_string⟩

-- lexicon/dyn.Normal
abbrev F_dyn_Normal : Nat := 31
def A_dyn_Normal_0 : List AOper := [⟨some 3, .box 40 3 (.t 1), none⟩,
    ⟨some 4, .box 40 3 (.c (.agg [.str [], .nils, .nils])), none⟩,
    ⟨some 5, .mov (.c (.int .i64 (0))), none⟩]
def A_dyn_Normal_1 : List AOper := [⟨some 9, .mov (.t 0), none⟩,
    ⟨some 10, .lda 3 (.t 3), none⟩,
    ⟨some 11, .call 59 [(.t 9), (.t 10)], none⟩,
    ⟨some 8, .mov (.t 11), none⟩,
    ⟨some 12, .ext 0 (.t 8), none⟩,
    ⟨some 13, .ext 1 (.t 8), none⟩,
    ⟨some 6, .mov (.t 12), none⟩,
    ⟨some 7, .mov (.t 13), none⟩]
def A_dyn_Normal_2 : List AOper := [⟨some 14, .mov (.t 6), none⟩,
    ⟨some 15, .bini .neq (.t 14) (.c (.int .i64 (0))), none⟩]
def A_dyn_Normal_3 : List AOper := [⟨some 16, .build [.str [], .nils, .nils] [], none⟩,
    ⟨some 17, .mov (.t 6), none⟩,
    ⟨none, .st 3 (.t 4) (.t 16), none⟩,
    ⟨some 5, .mov (.t 17), none⟩]
def A_dyn_Normal_4 : List AOper := [⟨some 18, .mov (.t 0), none⟩,
    ⟨some 19, .lda 3 (.t 3), none⟩,
    ⟨some 20, .call 60 [(.t 18), (.t 19)], none⟩,
    ⟨none, .st 3 (.t 4) (.t 20), none⟩,
    ⟨some 5, .mov (.c (.int .i64 (0))), none⟩]
def A_dyn_Normal : ACode := (.seq (.ops A_dyn_Normal_0) (.seq (.seq (.ops A_dyn_Normal_1) (.seq (.ops A_dyn_Normal_2) (.cond (.t 15) (.seq (.ops A_dyn_Normal_3) .ret) .skip))) (.seq (.ops A_dyn_Normal_4) .ret)))
def R_dyn_Normal : List ARes := [.cella 4 3, .tmp 5]
def T_dyn_Normal : FC := ⟨21, A_dyn_Normal, R_dyn_Normal⟩

-- lexicon/decode.Into$1
abbrev F_decode_Into_c1 : Nat := 32
def A_decode_Into_c1_0 : List AOper := [⟨some 9, .tass 117 true (.agg [.int .i64 (0), .int .i64 (0)]) (.t 6), none⟩,
    ⟨some 10, .ext 1 (.t 9), none⟩,
    ⟨some 11, .ext 0 (.t 9), none⟩]
def A_decode_Into_c1_1 : List AOper := [⟨some 4, .box 117 2 (.c (.agg [.int .i64 (0), .int .i64 (0)])), none⟩,
    ⟨none, .st 2 (.t 4) (.t 11), none⟩]
def A_decode_Into_c1_2 : List AOper := [⟨some 12, .build [.str [], .nils, .nils] [], none⟩,
    ⟨some 13, .faddr 0 (.t 4), none⟩,
    ⟨some 15, .faddr 1 (.t 4), none⟩,
    ⟨some 14, .ld1 (.t 13), none⟩,
    ⟨some 16, .ld1 (.t 15), none⟩,
    ⟨none, .st 3 (.t 0) (.t 12), none⟩,
    ⟨none, .st 1 (.t 1) (.t 14), none⟩,
    ⟨none, .st 1 (.t 2) (.t 16), none⟩]
def A_decode_Into_c1_3 : List AOper := [⟨some 12, .build [.str [], .nils, .nils] [], none⟩,
    ⟨some 13, .faddr 0 (.t 4), none⟩,
    ⟨some 15, .faddr 1 (.t 4), none⟩,
    ⟨some 14, .ld1 (.t 13), none⟩,
    ⟨none, .st 3 (.t 0) (.t 12), none⟩,
    ⟨some 16, .ld1 (.t 15), none⟩,
    ⟨none, .st 1 (.t 1) (.t 14), none⟩,
    ⟨none, .st 1 (.t 2) (.t 16), none⟩]
def A_decode_Into_c1_4 : List AOper := [⟨some 12, .build [.str [], .nils, .nils] [], none⟩,
    ⟨some 13, .faddr 0 (.t 4), none⟩,
    ⟨some 15, .faddr 1 (.t 4), none⟩,
    ⟨some 14, .ld1 (.t 13), none⟩,
    ⟨none, .st 3 (.t 0) (.t 12), none⟩,
    ⟨none, .st 1 (.t 1) (.t 14), none⟩,
    ⟨some 16, .ld1 (.t 15), none⟩,
    ⟨none, .st 1 (.t 2) (.t 16), none⟩]
def A_decode_Into_c1_5 : List AOper := [⟨some 12, .build [.str [], .nils, .nils] [], none⟩,
    ⟨some 13, .faddr 0 (.t 4), none⟩,
    ⟨some 15, .faddr 1 (.t 4), none⟩,
    ⟨some 16, .ld1 (.t 15), none⟩,
    ⟨some 14, .ld1 (.t 13), none⟩,
    ⟨none, .st 3 (.t 0) (.t 12), none⟩,
    ⟨none, .st 1 (.t 1) (.t 14), none⟩,
    ⟨none, .st 1 (.t 2) (.t 16), none⟩]
def A_decode_Into_c1_6 : List AOper := [⟨some 12, .build [.str [], .nils, .nils] [], none⟩,
    ⟨some 13, .faddr 0 (.t 4), none⟩,
    ⟨some 15, .faddr 1 (.t 4), none⟩,
    ⟨some 16, .ld1 (.t 15), none⟩,
    ⟨none, .st 3 (.t 0) (.t 12), none⟩,
    ⟨some 14, .ld1 (.t 13), none⟩,
    ⟨none, .st 1 (.t 1) (.t 14), none⟩,
    ⟨none, .st 1 (.t 2) (.t 16), none⟩]
def A_decode_Into_c1_7 : List AOper := [⟨some 12, .build [.str [], .nils, .nils] [], none⟩,
    ⟨some 13, .faddr 0 (.t 4), none⟩,
    ⟨some 15, .faddr 1 (.t 4), none⟩,
    ⟨none, .st 3 (.t 0) (.t 12), none⟩,
    ⟨some 14, .ld1 (.t 13), none⟩,
    ⟨some 16, .ld1 (.t 15), none⟩,
    ⟨none, .st 1 (.t 1) (.t 14), none⟩,
    ⟨none, .st 1 (.t 2) (.t 16), none⟩]
def A_decode_Into_c1_8 : List AOper := [⟨some 12, .build [.str [], .nils, .nils] [], none⟩,
    ⟨some 13, .faddr 0 (.t 4), none⟩,
    ⟨some 15, .faddr 1 (.t 4), none⟩,
    ⟨none, .st 3 (.t 0) (.t 12), none⟩,
    ⟨some 14, .ld1 (.t 13), none⟩,
    ⟨none, .st 1 (.t 1) (.t 14), none⟩,
    ⟨some 16, .ld1 (.t 15), none⟩,
    ⟨none, .st 1 (.t 2) (.t 16), none⟩]
def A_decode_Into_c1_9 : List AOper := [⟨some 7, .mov (.t 5), none⟩,
    ⟨none, .pan (.t 7), none⟩]
def A_decode_Into_c1 : ACode := (.seq (.recv (some 6) []) (.block 0 (.seq (.ops [⟨some 8, .isnil .ic false (.t 6), none⟩]) (.cond (.t 8) (.ops [⟨some 3, .mov (.t 6), none⟩]) (.seq (.ops A_decode_Into_c1_0) (.cond (.t 10) (.seq (.ops A_decode_Into_c1_1) (.alts [12, 13, 14, 15, 16] [A_decode_Into_c1_2, A_decode_Into_c1_3, A_decode_Into_c1_4, A_decode_Into_c1_5, A_decode_Into_c1_6, A_decode_Into_c1_7, A_decode_Into_c1_8])) (.seq (.ops [⟨some 5, .mov (.t 6), none⟩]) (.ops A_decode_Into_c1_9))))))))
def R_decode_Into_c1 : List ARes := []
def T_decode_Into_c1 : FC := ⟨17, A_decode_Into_c1, R_decode_Into_c1⟩

-- lexicon/decode.ways
abbrev F_decode_ways : Nat := 33
def A_decode_ways_0 : List AOper := [⟨some 1, .build [.nilf, .nilf] [(0, 1, (.f 61)), (1, 1, (.f 62))], none⟩,
    ⟨some 2, .build [.nilf, .nilf] [(0, 1, (.f 63)), (1, 1, (.f 65))], none⟩,
    ⟨some 3, .build [.nilf, .nilf] [(0, 1, (.f 66)), (1, 1, (.f 67))], none⟩,
    ⟨some 4, .bslice 176 2 3 [.nilf, .nilf] [(0, 2, (.t 1)), (2, 2, (.t 2)), (4, 2, (.t 3))], none⟩,
    ⟨some 0, .mov (.t 4), none⟩]
def A_decode_ways : ACode := (.seq (.ops [⟨some 0, .mov (.c (.nils)), none⟩]) (.seq (.ops A_decode_ways_0) .ret))
def R_decode_ways : List ARes := [.tmp 0]
def T_decode_ways : FC := ⟨5, A_decode_ways, R_decode_ways⟩

-- (*lexicon/decode.decoder).node
abbrev F_decode_decoder_node : Nat := 34
def A_decode_decoder_node_0 : List AOper := [⟨some 3, .box 40 3 (.t 1), none⟩,
    ⟨some 4, .mov (.c (.nilp)), none⟩]
def A_decode_decoder_node_1 : List AOper := [⟨some 16, .mov (.t 0), none⟩,
    ⟨some 17, .faddr 0 (.t 3), none⟩,
    ⟨some 18, .ld1 (.t 17), none⟩,
    ⟨some 19, .call 68 [(.t 16), (.t 18), (.c (.int .i64 (0)))], none⟩,
    ⟨some 5, .mov (.t 19), none⟩]
def A_decode_decoder_node_2 : List AOper := [⟨some 20, .mov (.t 5), none⟩,
    ⟨some 21, .faddr 2 (.t 3), none⟩,
    ⟨some 22, .ld1 (.t 21), none⟩,
    ⟨some 23, .call 69 [(.t 22)], none⟩,
    ⟨some 24, .nilc (.t 20), none⟩,
    ⟨some 25, .faddr 2 (.t 24), none⟩,
    ⟨none, .st 1 (.t 25) (.t 23), none⟩]
def A_decode_decoder_node_3 : List AOper := [⟨some 26, .faddr 1 (.t 3), none⟩,
    ⟨some 27, .ld1 (.t 26), none⟩,
    ⟨some 28, .lenl (.t 27), none⟩,
    ⟨some 29, .mov (.c (.int .i64 (0))), none⟩]
def A_decode_decoder_node_4 : List AOper := [⟨some 31, .iaddr 49 3 (.t 27) (.t 29), none⟩,
    ⟨some 32, .lda 3 (.t 31), none⟩,
    ⟨some 7, .box 49 3 (.c (.agg [.int .i32 (0), .nils, .nils])), none⟩,
    ⟨none, .st 3 (.t 7) (.t 32), none⟩]
def A_decode_decoder_node_5 : List AOper := [⟨some 34, .mov (.t 5), none⟩,
    ⟨some 35, .nilc (.t 34), none⟩,
    ⟨some 36, .faddr 0 (.t 35), none⟩,
    ⟨some 37, .ld1 (.t 36), none⟩,
    ⟨some 38, .faddr 0 (.t 7), none⟩,
    ⟨some 39, .ld1 (.t 38), none⟩,
    ⟨some 40, .acall 70 [(.t 37), (.t 39)], none⟩,
    ⟨some 33, .mov (.t 40), none⟩,
    ⟨some 41, .ext 0 (.t 33), none⟩,
    ⟨some 42, .ext 1 (.t 33), none⟩,
    ⟨some 8, .box 170 9 (.c (.agg [.int .i32 (0), .str [], .str [], .int .u8 (0), .int .u8 (0), .int .u8 (0), .bool false, .int .i64 (0), .str []])), none⟩,
    ⟨none, .st 9 (.t 8) (.t 41), none⟩,
    ⟨some 9, .mov (.t 42), none⟩]
def A_decode_decoder_node_6 : List AOper := [⟨some 43, .mov (.t 5), none⟩,
    ⟨some 44, .lda 9 (.t 8), none⟩,
    ⟨some 45, .call 71 [(.t 43), (.t 44)], none⟩,
    ⟨some 10, .mov (.t 45), none⟩]
def A_decode_decoder_node_7 : List AOper := [⟨some 46, .mov (.t 10), none⟩,
    ⟨some 47, .faddr 1 (.t 7), none⟩,
    ⟨some 48, .ld1 (.t 47), none⟩,
    ⟨some 49, .call 72 [(.t 48)], none⟩,
    ⟨some 50, .nilc (.t 46), none⟩,
    ⟨some 51, .faddr 9 (.t 50), none⟩,
    ⟨none, .st 1 (.t 51) (.t 49), none⟩]
def A_decode_decoder_node_8 : List AOper := [⟨some 52, .faddr 1 (.t 7), none⟩,
    ⟨some 53, .ld1 (.t 52), none⟩,
    ⟨some 54, .lenl (.t 53), none⟩,
    ⟨some 55, .mov (.c (.int .i64 (0))), none⟩]
def A_decode_decoder_node_9 : List AOper := [⟨some 57, .mov (.t 55), none⟩,
    ⟨some 58, .iaddr 46 3 (.t 53) (.t 55), none⟩,
    ⟨some 59, .lda 3 (.t 58), none⟩,
    ⟨some 12, .box 46 3 (.c (.agg [.int .u64 (0), .str [], .nils])), none⟩,
    ⟨some 11, .mov (.t 57), none⟩,
    ⟨none, .st 3 (.t 12) (.t 59), none⟩]
def A_decode_decoder_node_10 : List AOper := [⟨some 60, .mov (.t 10), none⟩,
    ⟨some 61, .nilc (.t 60), none⟩,
    ⟨some 62, .faddr 11 (.t 61), none⟩,
    ⟨some 63, .ld1 (.t 62), none⟩,
    ⟨some 64, .faddr 0 (.t 12), none⟩,
    ⟨some 65, .ld1 (.t 64), none⟩,
    ⟨some 66, .faddr 1 (.t 12), none⟩,
    ⟨some 67, .ld1 (.t 66), none⟩,
    ⟨some 68, .build [.int .u64 (0), .str []] [(0, 1, (.t 65)), (1, 1, (.t 67))], none⟩,
    ⟨some 69, .mov (.t 11), none⟩,
    ⟨none, .mupd (.a 1 0) (.t 63) (.t 68) (.t 69), none⟩]
def A_decode_decoder_node_11 : List AOper := [⟨some 70, .bini .add (.t 55) (.c (.int .i64 (1))), none⟩,
    ⟨some 55, .mov (.t 70), none⟩]
def A_decode_decoder_node_12 : ACode := (.seq (.ops [⟨some 56, .bini .lss (.t 55) (.t 54), none⟩]) (.seq (.cond (.t 56) .skip (.exit 2)) (.seq (.block 3 (.seq (.ops A_decode_decoder_node_9) (.alts [60, 61, 62, 63, 64, 65, 66, 67, 68, 69] [A_decode_decoder_node_10]))) (.ops A_decode_decoder_node_11))))
def A_decode_decoder_node_13 : List AOper := [⟨some 71, .faddr 2 (.t 7), none⟩,
    ⟨some 72, .ld1 (.t 71), none⟩,
    ⟨some 73, .lenl (.t 72), none⟩,
    ⟨some 74, .mov (.c (.int .i64 (0))), none⟩]
def A_decode_decoder_node_14 : List AOper := [⟨some 76, .iaddr 46 3 (.t 72) (.t 74), none⟩,
    ⟨some 77, .lda 3 (.t 76), none⟩,
    ⟨some 14, .box 46 3 (.c (.agg [.int .u64 (0), .str [], .nils])), none⟩,
    ⟨none, .st 3 (.t 14) (.t 77), none⟩]
def A_decode_decoder_node_15 : List AOper := [⟨some 78, .lda 3 (.t 14), none⟩,
    ⟨some 79, .build [.int .u64 (0), .str [], .nils, .nilp] [(0, 3, (.t 78))], none⟩,
    ⟨some 15, .box 195 4 (.c (.agg [.int .u64 (0), .str [], .nils, .nilp])), none⟩,
    ⟨none, .st 4 (.t 15) (.t 79), none⟩]
def A_decode_decoder_node_16 : List AOper := [⟨some 80, .faddr 2 (.t 14), none⟩,
    ⟨some 81, .ld1 (.t 80), none⟩,
    ⟨some 82, .lenl (.t 81), none⟩,
    ⟨some 83, .bini .gtr (.t 82) (.c (.int .i64 (0))), none⟩]
def A_decode_decoder_node_17 : List AOper := [⟨some 84, .mov (.t 0), none⟩,
    ⟨some 85, .faddr 2 (.t 14), none⟩,
    ⟨some 86, .ld1 (.t 85), none⟩,
    ⟨some 87, .iaddr 40 3 (.t 86) (.c (.int .i64 (0))), none⟩,
    ⟨some 88, .lda 3 (.t 87), none⟩,
    ⟨some 89, .call 34 [(.t 84), (.t 88)], none⟩,
    ⟨some 90, .faddr 3 (.t 15), none⟩,
    ⟨none, .st 1 (.t 90) (.t 89), none⟩]
def A_decode_decoder_node_18 : List AOper := [⟨some 91, .mov (.t 10), none⟩,
    ⟨some 92, .mov (.t 10), none⟩,
    ⟨some 93, .nilc (.t 92), none⟩,
    ⟨some 94, .faddr 10 (.t 93), none⟩,
    ⟨some 95, .ld1 (.t 94), none⟩,
    ⟨some 96, .lda 4 (.t 15), none⟩,
    ⟨some 97, .bslice 195 4 1 [.int .u64 (0), .str [], .nils, .nilp] [(0, 4, (.t 96))], none⟩,
    ⟨some 98, .app 195 4 56 (.t 95) (.t 97), none⟩,
    ⟨some 99, .nilc (.t 91), none⟩,
    ⟨some 100, .faddr 10 (.t 99), none⟩,
    ⟨none, .st 1 (.t 100) (.t 98), none⟩]
def A_decode_decoder_node_19 : List AOper := [⟨some 101, .bini .add (.t 74) (.c (.int .i64 (1))), none⟩,
    ⟨some 74, .mov (.t 101), none⟩]
def A_decode_decoder_node_20 : ACode := (.seq (.ops [⟨some 75, .bini .lss (.t 74) (.t 73), none⟩]) (.seq (.cond (.t 75) .skip (.exit 4)) (.seq (.block 5 (.seq (.ops A_decode_decoder_node_14) (.seq (.ops A_decode_decoder_node_15) (.seq (.seq (.ops A_decode_decoder_node_16) (.cond (.t 83) (.ops A_decode_decoder_node_17) .skip)) (.alts [91, 92, 93, 94, 95, 96, 97, 98, 99, 100] [A_decode_decoder_node_18]))))) (.ops A_decode_decoder_node_19))))
def A_decode_decoder_node_21 : List AOper := [⟨some 102, .bini .add (.t 29) (.c (.int .i64 (1))), none⟩,
    ⟨some 29, .mov (.t 102), none⟩]
def A_decode_decoder_node_22 : ACode := (.seq (.ops [⟨some 30, .bini .lss (.t 29) (.t 28), none⟩]) (.seq (.cond (.t 30) .skip (.exit 0)) (.seq (.block 1 (.seq (.ops A_decode_decoder_node_4) (.seq (.alts [34, 35, 36, 37, 38, 39, 40, 33, 41, 42, 8, 9] [A_decode_decoder_node_5]) (.seq (.ops A_decode_decoder_node_6) (.seq (.ops A_decode_decoder_node_7) (.seq (.seq (.ops A_decode_decoder_node_8) (.block 2 (.loop A_decode_decoder_node_12))) (.seq (.ops A_decode_decoder_node_13) (.block 4 (.loop A_decode_decoder_node_20))))))))) (.ops A_decode_decoder_node_21))))
def A_decode_decoder_node_23 : List AOper := [⟨some 103, .mov (.t 5), none⟩,
    ⟨some 4, .mov (.t 103), none⟩]
def A_decode_decoder_node : ACode := (.seq (.ops A_decode_decoder_node_0) (.seq (.ops A_decode_decoder_node_1) (.seq (.ops A_decode_decoder_node_2) (.seq (.seq (.ops A_decode_decoder_node_3) (.block 0 (.loop A_decode_decoder_node_22))) (.seq (.ops A_decode_decoder_node_23) .ret)))))
def R_decode_decoder_node : List ARes := [.tmp 4]
def T_decode_decoder_node : FC := ⟨104, A_decode_decoder_node, R_decode_decoder_node⟩

-- (*lexicon/decode.decoder).records
abbrev F_decode_decoder_records : Nat := 35
def A_decode_decoder_records_0 : List AOper := [⟨some 14, .mov (.t 2), none⟩,
    ⟨some 15, .call 73 [(.t 14)], none⟩,
    ⟨some 16, .bini .gtr (.t 15) (.c (.int .i64 (0))), none⟩]
def A_decode_decoder_records_1 : List AOper := [⟨some 18, .mov (.t 2), none⟩,
    ⟨some 19, .call 74 [(.t 18)], none⟩,
    ⟨some 17, .mov (.t 19), none⟩,
    ⟨some 20, .ext 0 (.t 17), none⟩,
    ⟨some 21, .ext 1 (.t 17), none⟩,
    ⟨some 22, .ext 2 (.t 17), none⟩,
    ⟨some 9, .box 171 1 (.c (.int .u8 (0))), none⟩,
    ⟨some 8, .mov (.t 20), none⟩,
    ⟨none, .st 1 (.t 9) (.t 21), none⟩,
    ⟨some 10, .mov (.t 22), none⟩]
def A_decode_decoder_records_2 : List AOper := [⟨some 24, .mov (.t 1), none⟩,
    ⟨some 25, .nilc (.t 24), none⟩,
    ⟨some 26, .faddr 0 (.t 25), none⟩,
    ⟨some 27, .ld1 (.t 26), none⟩,
    ⟨some 28, .mov (.t 8), none⟩,
    ⟨some 29, .call 70 [(.t 27), (.t 28)], none⟩,
    ⟨some 23, .mov (.t 29), none⟩,
    ⟨some 30, .ext 0 (.t 23), none⟩,
    ⟨some 31, .ext 1 (.t 23), none⟩,
    ⟨some 11, .box 170 9 (.c (.agg [.int .i32 (0), .str [], .str [], .int .u8 (0), .int .u8 (0), .int .u8 (0), .bool false, .int .i64 (0), .str []])), none⟩,
    ⟨none, .st 9 (.t 11) (.t 30), none⟩,
    ⟨some 12, .mov (.t 31), none⟩]
def A_decode_decoder_records_3 : List AOper := [⟨some 33, .mov (.t 0), none⟩,
    ⟨some 34, .nilc (.t 33), none⟩,
    ⟨some 35, .faddr 2 (.t 34), none⟩,
    ⟨some 36, .ld1 (.t 35), none⟩,
    ⟨some 37, .mkfn 76 [] [(.t 11), (.t 9)], none⟩,
    ⟨some 38, .call 75 [(.t 36), (.t 37)], none⟩,
    ⟨some 13, .mov (.t 38), none⟩]
def A_decode_decoder_records_4 : List AOper := [⟨some 39, .mov (.t 13), none⟩,
    ⟨some 40, .bini .geq (.t 39) (.c (.int .i64 (0))), none⟩]
def A_decode_decoder_records_5 : List AOper := [⟨some 41, .mov (.t 0), none⟩,
    ⟨some 42, .nilc (.t 41), none⟩,
    ⟨some 43, .faddr 2 (.t 42), none⟩,
    ⟨some 44, .ld1 (.t 43), none⟩,
    ⟨some 45, .mov (.t 13), none⟩,
    ⟨some 46, .iaddr 176 2 (.t 44) (.t 45), none⟩,
    ⟨some 47, .faddr 1 (.t 46), none⟩,
    ⟨some 48, .ld1 (.t 47), none⟩,
    ⟨some 49, .mov (.t 0), none⟩,
    ⟨some 50, .mov (.t 1), none⟩,
    ⟨some 51, .lda 9 (.t 11), none⟩,
    ⟨some 52, .mov (.t 2), none⟩,
    ⟨some 53, .mov (.t 3), none⟩,
    ⟨some 54, .mov (.t 10), none⟩,
    ⟨some 55, .callv (.t 48) [(.t 49), (.t 50), (.t 51), (.t 52), (.t 53), (.t 54)], none⟩]
def A_decode_decoder_records_6 : List AOper := [⟨some 56, .mov (.t 2), none⟩,
    ⟨some 57, .mov (.t 8), none⟩,
    ⟨some 58, .ld1 (.t 9), none⟩,
    ⟨some 59, .mov (.t 3), none⟩,
    ⟨some 60, .bini .sub (.c (.int .i64 (100))) (.t 59), none⟩,
    ⟨some 61, .call 77 [(.t 56), (.t 57), (.t 58), (.t 60)], none⟩]
def A_decode_decoder_records_7 : List AOper := [⟨some 62, .mov (.t 2), none⟩,
    ⟨some 63, .call 78 [(.t 62)], none⟩]
def A_decode_decoder_records_8 : List AOper := [⟨some 64, .mov (.t 1), none⟩,
    ⟨some 65, .mov (.t 1), none⟩,
    ⟨some 66, .nilc (.t 65), none⟩,
    ⟨some 67, .faddr 2 (.t 66), none⟩,
    ⟨some 68, .ld1 (.t 67), none⟩,
    ⟨some 69, .mov (.t 0), none⟩,
    ⟨some 70, .nilc (.t 69), none⟩,
    ⟨some 71, .faddr 1 (.t 70), none⟩,
    ⟨some 72, .ld1 (.t 71), none⟩,
    ⟨some 73, .mov (.t 10), none⟩,
    ⟨some 74, .mov (.t 2), none⟩,
    ⟨some 75, .acall 79 [(.t 74)], none⟩,
    ⟨some 76, .slcl 5 1 (.t 72) (some (.t 73)) (some (.t 75)) none, none⟩,
    ⟨some 77, .app 5 1 1 (.t 68) (.t 76), none⟩,
    ⟨some 78, .nilc (.t 64), none⟩,
    ⟨some 79, .faddr 2 (.t 78), none⟩,
    ⟨none, .st 1 (.t 79) (.t 77), none⟩]
def A_decode_decoder_records_9 : ACode := (.seq (.seq (.ops A_decode_decoder_records_0) (.cond (.t 16) .skip (.exit 0))) (.block 1 (.seq (.ops A_decode_decoder_records_1) (.seq (.ops A_decode_decoder_records_2) (.seq (.ops [⟨some 13, .mov (.c (.int .i64 (-1))), none⟩]) (.seq (.seq (.ops [⟨some 32, .mov (.t 12), none⟩]) (.cond (.t 32) (.ops A_decode_decoder_records_3) .skip)) (.seq (.seq (.ops A_decode_decoder_records_4) (.cond (.t 40) (.seq (.alts [41, 42, 43, 44, 45, 46, 47, 48, 49, 50, 51, 52, 53, 54, 55] [A_decode_decoder_records_5]) (.exit 1)) .skip)) (.seq (.ops A_decode_decoder_records_6) (.seq (.ops A_decode_decoder_records_7) (.alts [64, 65, 66, 67, 68, 69, 70, 71, 72, 73, 74, 75, 76, 77, 78, 79] [A_decode_decoder_records_8]))))))))))
def A_decode_decoder_records : ACode := (.block 0 (.loop A_decode_decoder_records_9))
def R_decode_decoder_records : List ARes := []
def T_decode_decoder_records : FC := ⟨80, A_decode_decoder_records, R_decode_decoder_records⟩

-- lexicon/wire.NewReader
abbrev F_wire_NewReader : Nat := 36
def A_wire_NewReader_0 : List AOper := [⟨some 3, .mov (.t 0), none⟩,
    ⟨some 4, .call 69 [(.t 3)], none⟩,
    ⟨some 5, .mov (.t 0), none⟩,
    ⟨some 6, .lenl (.t 5), none⟩,
    ⟨some 7, .build [.nils, .int .i64 (0), .int .i64 (0), .int .i64 (0), .int .i64 (0)] [(0, 1, (.t 4)), (2, 1, (.t 6))], none⟩,
    ⟨some 8, .box 204 5 (.t 7), none⟩,
    ⟨some 2, .mov (.t 8), none⟩]
def A_wire_NewReader : ACode := (.seq (.ops [⟨some 2, .mov (.c (.nilp)), none⟩]) (.seq (.ops A_wire_NewReader_0) .ret))
def R_wire_NewReader : List ARes := [.tmp 2]
def T_wire_NewReader : FC := ⟨9, A_wire_NewReader, R_wire_NewReader⟩

-- (*lexicon/decode.node).msg
abbrev F_decode_node_msg : Nat := 37
def A_decode_node_msg_0 : List AOper := [⟨some 13, .mov (.t 0), none⟩,
    ⟨some 14, .nilc (.t 13), none⟩,
    ⟨some 15, .faddr 0 (.t 14), none⟩,
    ⟨some 16, .ld1 (.t 15), none⟩,
    ⟨some 18, .mov (.t 0), none⟩,
    ⟨some 19, .nilc (.t 18), none⟩,
    ⟨some 20, .faddr 2 (.t 19), none⟩,
    ⟨some 17, .call 80 [(.t 16)], none⟩,
    ⟨some 21, .ld1 (.t 20), none⟩,
    ⟨some 22, .build [.str [], .nils, .nils] [(0, 1, (.t 17)), (2, 1, (.t 21))], none⟩,
    ⟨some 3, .box 40 3 (.c (.agg [.str [], .nils, .nils])), none⟩,
    ⟨none, .st 3 (.t 3) (.t 22), none⟩]
def A_decode_node_msg_1 : List AOper := [⟨some 13, .mov (.t 0), none⟩,
    ⟨some 14, .nilc (.t 13), none⟩,
    ⟨some 15, .faddr 0 (.t 14), none⟩,
    ⟨some 16, .ld1 (.t 15), none⟩,
    ⟨some 18, .mov (.t 0), none⟩,
    ⟨some 19, .nilc (.t 18), none⟩,
    ⟨some 20, .faddr 2 (.t 19), none⟩,
    ⟨some 21, .ld1 (.t 20), none⟩,
    ⟨some 17, .call 80 [(.t 16)], none⟩,
    ⟨some 22, .build [.str [], .nils, .nils] [(0, 1, (.t 17)), (2, 1, (.t 21))], none⟩,
    ⟨some 3, .box 40 3 (.c (.agg [.str [], .nils, .nils])), none⟩,
    ⟨none, .st 3 (.t 3) (.t 22), none⟩]
def A_decode_node_msg_2 : List AOper := [⟨some 13, .mov (.t 0), none⟩,
    ⟨some 14, .nilc (.t 13), none⟩,
    ⟨some 15, .faddr 0 (.t 14), none⟩,
    ⟨some 16, .ld1 (.t 15), none⟩,
    ⟨some 18, .mov (.t 0), none⟩,
    ⟨some 19, .nilc (.t 18), none⟩,
    ⟨some 20, .faddr 2 (.t 19), none⟩,
    ⟨some 21, .ld1 (.t 20), none⟩,
    ⟨some 3, .box 40 3 (.c (.agg [.str [], .nils, .nils])), none⟩,
    ⟨some 17, .call 80 [(.t 16)], none⟩,
    ⟨some 22, .build [.str [], .nils, .nils] [(0, 1, (.t 17)), (2, 1, (.t 21))], none⟩,
    ⟨none, .st 3 (.t 3) (.t 22), none⟩]
def A_decode_node_msg_3 : List AOper := [⟨some 13, .mov (.t 0), none⟩,
    ⟨some 14, .nilc (.t 13), none⟩,
    ⟨some 15, .faddr 0 (.t 14), none⟩,
    ⟨some 16, .ld1 (.t 15), none⟩,
    ⟨some 18, .mov (.t 0), none⟩,
    ⟨some 19, .nilc (.t 18), none⟩,
    ⟨some 20, .faddr 2 (.t 19), none⟩,
    ⟨some 3, .box 40 3 (.c (.agg [.str [], .nils, .nils])), none⟩,
    ⟨some 17, .call 80 [(.t 16)], none⟩,
    ⟨some 21, .ld1 (.t 20), none⟩,
    ⟨some 22, .build [.str [], .nils, .nils] [(0, 1, (.t 17)), (2, 1, (.t 21))], none⟩,
    ⟨none, .st 3 (.t 3) (.t 22), none⟩]
def A_decode_node_msg_4 : List AOper := [⟨some 13, .mov (.t 0), none⟩,
    ⟨some 14, .nilc (.t 13), none⟩,
    ⟨some 15, .faddr 0 (.t 14), none⟩,
    ⟨some 16, .ld1 (.t 15), none⟩,
    ⟨some 18, .mov (.t 0), none⟩,
    ⟨some 19, .nilc (.t 18), none⟩,
    ⟨some 20, .faddr 2 (.t 19), none⟩,
    ⟨some 3, .box 40 3 (.c (.agg [.str [], .nils, .nils])), none⟩,
    ⟨some 21, .ld1 (.t 20), none⟩,
    ⟨some 17, .call 80 [(.t 16)], none⟩,
    ⟨some 22, .build [.str [], .nils, .nils] [(0, 1, (.t 17)), (2, 1, (.t 21))], none⟩,
    ⟨none, .st 3 (.t 3) (.t 22), none⟩]
def A_decode_node_msg_5 : List AOper := [⟨some 23, .mov (.t 0), none⟩,
    ⟨some 24, .nilc (.t 23), none⟩,
    ⟨some 25, .faddr 1 (.t 24), none⟩,
    ⟨some 26, .ld1 (.t 25), none⟩,
    ⟨some 27, .call 82 [(.t 26)], none⟩,
    ⟨some 28, .call 81 [(.t 27)], none⟩,
    ⟨some 29, .lenl (.t 28), none⟩,
    ⟨some 30, .mov (.c (.int .i64 (0))), none⟩]
def A_decode_node_msg_6 : List AOper := [⟨some 32, .iaddr 21 1 (.t 28) (.t 30), none⟩,
    ⟨some 33, .ld1 (.t 32), none⟩,
    ⟨some 5, .mov (.t 33), none⟩]
def A_decode_node_msg_7 : List AOper := [⟨some 34, .mov (.t 0), none⟩,
    ⟨some 35, .nilc (.t 34), none⟩,
    ⟨some 36, .faddr 1 (.t 35), none⟩,
    ⟨some 37, .ld1 (.t 36), none⟩,
    ⟨some 38, .mov (.t 5), none⟩,
    ⟨some 39, .mlook .i (.nilp) false (.t 37) (.t 38), none⟩,
    ⟨some 6, .box 185 1 (.c (.nilp)), none⟩,
    ⟨none, .st 1 (.t 6) (.t 39), none⟩]
def A_decode_node_msg_8 : List AOper := [⟨some 40, .ld1 (.t 6), none⟩,
    ⟨some 41, .nilc (.t 40), none⟩,
    ⟨some 42, .faddr 10 (.t 41), none⟩,
    ⟨some 43, .ld1 (.t 42), none⟩,
    ⟨some 44, .lenl (.t 43), none⟩,
    ⟨some 45, .mkslice 3 1 8 [.int .i64 (0)] (.t 44) (.t 44), none⟩,
    ⟨some 7, .mov (.t 45), none⟩]
def A_decode_node_msg_9 : List AOper := [⟨some 46, .mov (.t 7), none⟩,
    ⟨some 47, .lenl (.t 46), none⟩,
    ⟨some 48, .mov (.c (.int .i64 (0))), none⟩]
def A_decode_node_msg_10 : List AOper := [⟨some 50, .mov (.t 48), none⟩,
    ⟨some 8, .mov (.t 50), none⟩]
def A_decode_node_msg_11 : List AOper := [⟨some 51, .mov (.t 7), none⟩,
    ⟨some 52, .mov (.t 8), none⟩,
    ⟨some 53, .mov (.t 8), none⟩,
    ⟨some 54, .iaddr 3 1 (.t 51) (.t 52), none⟩,
    ⟨none, .st 1 (.t 54) (.t 53), none⟩]
def A_decode_node_msg_12 : List AOper := [⟨some 55, .bini .add (.t 48) (.c (.int .i64 (1))), none⟩,
    ⟨some 48, .mov (.t 55), none⟩]
def A_decode_node_msg_13 : ACode := (.seq (.ops [⟨some 49, .bini .lss (.t 48) (.t 47), none⟩]) (.seq (.cond (.t 49) .skip (.exit 2)) (.seq (.block 3 (.seq (.ops A_decode_node_msg_10) (.ops A_decode_node_msg_11))) (.ops A_decode_node_msg_12))))
def A_decode_node_msg_14 : List AOper := [⟨some 56, .ld1 (.t 6), none⟩,
    ⟨some 57, .nilc (.t 56), none⟩,
    ⟨some 58, .faddr 0 (.t 57), none⟩,
    ⟨some 59, .faddr 3 (.t 58), none⟩,
    ⟨some 60, .ld1 (.t 59), none⟩,
    ⟨some 61, .bini .eql (.t 60) (.c (.int .u8 (4))), none⟩]
def A_decode_node_msg_15 : List AOper := [⟨some 62, .mov (.t 7), none⟩,
    ⟨some 63, .mkfn 84 [] [(.t 6)], none⟩,
    ⟨some 64, .call 83 [(.t 62), (.t 63)], none⟩]
def A_decode_node_msg_16 : List AOper := [⟨some 65, .mov (.t 5), none⟩,
    ⟨some 66, .build [.int .i32 (0), .nils, .nils] [(0, 1, (.t 65))], none⟩,
    ⟨some 9, .box 49 3 (.c (.agg [.int .i32 (0), .nils, .nils])), none⟩,
    ⟨none, .st 3 (.t 9) (.t 66), none⟩]
def A_decode_node_msg_17 : List AOper := [⟨some 67, .mov (.t 7), none⟩,
    ⟨some 68, .lenl (.t 67), none⟩,
    ⟨some 69, .mov (.c (.int .i64 (0))), none⟩]
def A_decode_node_msg_18 : List AOper := [⟨some 71, .iaddr 3 1 (.t 67) (.t 69), none⟩,
    ⟨some 72, .ld1 (.t 71), none⟩,
    ⟨some 11, .mov (.t 72), none⟩]
def A_decode_node_msg_19 : List AOper := [⟨some 73, .ld1 (.t 6), none⟩,
    ⟨some 74, .nilc (.t 73), none⟩,
    ⟨some 75, .faddr 10 (.t 74), none⟩,
    ⟨some 76, .ld1 (.t 75), none⟩,
    ⟨some 77, .mov (.t 11), none⟩,
    ⟨some 78, .iaddr 195 4 (.t 76) (.t 77), none⟩,
    ⟨some 79, .faddr 0 (.t 78), none⟩,
    ⟨some 80, .lda 3 (.t 79), none⟩,
    ⟨some 12, .box 46 3 (.c (.agg [.int .u64 (0), .str [], .nils])), none⟩,
    ⟨none, .st 3 (.t 12) (.t 80), none⟩]
def A_decode_node_msg_20 : List AOper := [⟨some 81, .ld1 (.t 6), none⟩,
    ⟨some 82, .nilc (.t 81), none⟩,
    ⟨some 83, .faddr 10 (.t 82), none⟩,
    ⟨some 84, .ld1 (.t 83), none⟩,
    ⟨some 85, .mov (.t 11), none⟩,
    ⟨some 86, .iaddr 195 4 (.t 84) (.t 85), none⟩,
    ⟨some 87, .faddr 3 (.t 86), none⟩,
    ⟨some 88, .ld1 (.t 87), none⟩,
    ⟨some 89, .isnil .pt true (.t 88), none⟩]
def A_decode_node_msg_21 : List AOper := [⟨some 90, .ld1 (.t 6), none⟩,
    ⟨some 91, .nilc (.t 90), none⟩,
    ⟨some 92, .faddr 10 (.t 91), none⟩,
    ⟨some 93, .ld1 (.t 92), none⟩,
    ⟨some 94, .mov (.t 11), none⟩,
    ⟨some 95, .iaddr 195 4 (.t 93) (.t 94), none⟩,
    ⟨some 96, .faddr 3 (.t 95), none⟩,
    ⟨some 97, .ld1 (.t 96), none⟩,
    ⟨some 98, .call 37 [(.t 97)], none⟩,
    ⟨some 99, .bslice 40 3 1 [.str [], .nils, .nils] [(0, 3, (.t 98))], none⟩,
    ⟨some 100, .build [.int .u64 (0), .str [], .nils] [(2, 1, (.t 99))], none⟩,
    ⟨none, .st 3 (.t 12) (.t 100), none⟩]
def A_decode_node_msg_22 : List AOper := [⟨some 101, .faddr 2 (.t 9), none⟩,
    ⟨some 102, .ld1 (.t 101), none⟩,
    ⟨some 103, .lda 3 (.t 12), none⟩,
    ⟨some 104, .bslice 46 3 1 [.int .u64 (0), .str [], .nils] [(0, 3, (.t 103))], none⟩,
    ⟨some 105, .app 46 3 48 (.t 102) (.t 104), none⟩,
    ⟨some 106, .faddr 2 (.t 9), none⟩,
    ⟨none, .st 1 (.t 106) (.t 105), none⟩]
def A_decode_node_msg_23 : List AOper := [⟨some 107, .ld1 (.t 6), none⟩,
    ⟨some 108, .nilc (.t 107), none⟩,
    ⟨some 109, .faddr 0 (.t 108), none⟩,
    ⟨some 110, .faddr 3 (.t 109), none⟩,
    ⟨some 111, .ld1 (.t 110), none⟩,
    ⟨some 112, .bini .eql (.t 111) (.c (.int .u8 (4))), none⟩]
def A_decode_node_msg_24 : List AOper := [⟨some 113, .faddr 1 (.t 9), none⟩,
    ⟨some 114, .ld1 (.t 113), none⟩,
    ⟨some 115, .ld1 (.t 6), none⟩,
    ⟨some 116, .nilc (.t 115), none⟩,
    ⟨some 117, .faddr 9 (.t 116), none⟩,
    ⟨some 118, .ld1 (.t 117), none⟩,
    ⟨some 119, .mov (.t 11), none⟩,
    ⟨some 120, .iaddr 46 3 (.t 118) (.t 119), none⟩,
    ⟨some 121, .lda 3 (.t 120), none⟩,
    ⟨some 122, .bslice 46 3 1 [.int .u64 (0), .str [], .nils] [(0, 3, (.t 121))], none⟩,
    ⟨some 123, .app 46 3 48 (.t 114) (.t 122), none⟩,
    ⟨some 124, .faddr 1 (.t 9), none⟩,
    ⟨none, .st 1 (.t 124) (.t 123), none⟩]
def A_decode_node_msg_25 : List AOper := [⟨some 125, .bini .add (.t 69) (.c (.int .i64 (1))), none⟩,
    ⟨some 69, .mov (.t 125), none⟩]
def A_decode_node_msg_26 : ACode := (.seq (.ops [⟨some 70, .bini .lss (.t 69) (.t 68), none⟩]) (.seq (.cond (.t 70) .skip (.exit 4)) (.seq (.block 5 (.seq (.ops A_decode_node_msg_18) (.seq (.ops A_decode_node_msg_19) (.seq (.seq (.ops A_decode_node_msg_20) (.cond (.t 89) (.ops A_decode_node_msg_21) .skip)) (.seq (.ops A_decode_node_msg_22) (.seq (.ops A_decode_node_msg_23) (.cond (.t 112) (.alts [113, 114, 115, 116, 117, 118, 119, 120, 121, 122, 123, 124] [A_decode_node_msg_24]) .skip))))))) (.ops A_decode_node_msg_25))))
def A_decode_node_msg_27 : List AOper := [⟨some 126, .faddr 2 (.t 9), none⟩,
    ⟨some 127, .ld1 (.t 126), none⟩,
    ⟨some 128, .lenl (.t 127), none⟩,
    ⟨some 129, .bini .eql (.t 128) (.c (.int .i64 (0))), none⟩,
    ⟨some 130, .mov (.t 129), none⟩,
    ⟨some 131, .ld1 (.t 6), some (130, false)⟩,
    ⟨some 132, .nilc (.t 131), some (130, false)⟩,
    ⟨some 133, .faddr 0 (.t 132), some (130, false)⟩,
    ⟨some 134, .lda 9 (.t 133), some (130, false)⟩,
    ⟨some 135, .call 86 [(.t 134)], some (130, false)⟩,
    ⟨some 136, .mov (.t 135), some (130, false)⟩,
    ⟨some 137, .faddr 2 (.t 9), some (136, true)⟩,
    ⟨some 138, .ld1 (.t 137), some (136, true)⟩,
    ⟨some 139, .iaddr 46 3 (.t 138) (.c (.int .i64 (0))), some (136, true)⟩,
    ⟨some 140, .faddr 0 (.t 139), some (136, true)⟩,
    ⟨some 141, .ld1 (.t 140), some (136, true)⟩,
    ⟨some 142, .bini .eql (.t 141) (.c (.int .u64 (0))), some (136, true)⟩,
    ⟨some 143, .pick (.t 136) (.t 142) (.c (.bool false)), some (130, false)⟩,
    ⟨some 144, .mov (.t 143), some (130, false)⟩,
    ⟨some 145, .faddr 2 (.t 9), some (144, true)⟩,
    ⟨some 146, .ld1 (.t 145), some (144, true)⟩,
    ⟨some 147, .iaddr 46 3 (.t 146) (.c (.int .i64 (0))), some (144, true)⟩,
    ⟨some 148, .faddr 1 (.t 147), some (144, true)⟩,
    ⟨some 149, .ld1 (.t 148), some (144, true)⟩,
    ⟨some 150, .bins .eql (.t 149) (.c (.str [])), some (144, true)⟩,
    ⟨some 151, .pick (.t 144) (.t 150) (.c (.bool false)), some (130, false)⟩,
    ⟨some 152, .pick (.t 130) (.c (.bool true)) (.t 151), none⟩]
def A_decode_node_msg_28 : List AOper := [⟨some 153, .faddr 1 (.t 3), none⟩,
    ⟨some 154, .ld1 (.t 153), none⟩,
    ⟨some 155, .lda 3 (.t 9), none⟩,
    ⟨some 156, .bslice 49 3 1 [.int .i32 (0), .nils, .nils] [(0, 3, (.t 155))], none⟩,
    ⟨some 157, .app 49 3 56 (.t 154) (.t 156), none⟩,
    ⟨some 158, .faddr 1 (.t 3), none⟩,
    ⟨none, .st 1 (.t 158) (.t 157), none⟩]
def A_decode_node_msg_29 : List AOper := [⟨some 159, .bini .add (.t 30) (.c (.int .i64 (1))), none⟩,
    ⟨some 30, .mov (.t 159), none⟩]
def A_decode_node_msg_30 : ACode := (.seq (.ops [⟨some 31, .bini .lss (.t 30) (.t 29), none⟩]) (.seq (.cond (.t 31) .skip (.exit 0)) (.seq (.block 1 (.seq (.ops A_decode_node_msg_6) (.seq (.ops A_decode_node_msg_7) (.seq (.ops A_decode_node_msg_8) (.seq (.seq (.ops A_decode_node_msg_9) (.block 2 (.loop A_decode_node_msg_13))) (.seq (.seq (.ops A_decode_node_msg_14) (.cond (.t 61) (.ops A_decode_node_msg_15) .skip)) (.seq (.ops A_decode_node_msg_16) (.seq (.seq (.ops A_decode_node_msg_17) (.block 4 (.loop A_decode_node_msg_26))) (.seq (.seq (.ops A_decode_node_msg_27) (.cond (.t 152) (.exit 1) .skip)) (.ops A_decode_node_msg_28)))))))))) (.ops A_decode_node_msg_29))))
def A_decode_node_msg_31 : List AOper := [⟨some 160, .lda 3 (.t 3), none⟩,
    ⟨none, .st 3 (.t 2) (.t 160), none⟩]
def A_decode_node_msg : ACode := (.seq (.ops [⟨some 2, .box 40 3 (.c (.agg [.str [], .nils, .nils])), none⟩]) (.seq (.alts [13, 14, 15, 16, 17, 18, 19, 20, 21, 22, 3] [A_decode_node_msg_0, A_decode_node_msg_1, A_decode_node_msg_2, A_decode_node_msg_3, A_decode_node_msg_4]) (.seq (.seq (.ops A_decode_node_msg_5) (.block 0 (.loop A_decode_node_msg_30))) (.seq (.ops A_decode_node_msg_31) .ret))))
def R_decode_node_msg : List ARes := [.cella 2 3]
def T_decode_node_msg : FC := ⟨161, A_decode_node_msg, R_decode_node_msg⟩

-- slices.Clone[[]lexicon/api.Import,lexicon/api.Import]
abbrev F_slices_Clone_api_Import_api_Import : Nat := 38
def A_slices_Clone_api_Import_api_Import_0 : List AOper := [⟨some 3, .mov (.t 0), none⟩,
    ⟨some 4, .isnil .sl false (.t 3), none⟩]
def A_slices_Clone_api_Import_api_Import_1 : List AOper := [⟨some 5, .bslice0 96, none⟩,
    ⟨some 6, .mov (.t 0), none⟩,
    ⟨some 7, .app 96 2 24 (.t 5) (.t 6), none⟩,
    ⟨some 2, .mov (.t 7), none⟩]
def A_slices_Clone_api_Import_api_Import : ACode := (.seq (.ops [⟨some 2, .mov (.c (.nils)), none⟩]) (.seq (.seq (.ops A_slices_Clone_api_Import_api_Import_0) (.cond (.t 4) (.seq (.ops [⟨some 2, .mov (.c (.nils)), none⟩]) .ret) .skip)) (.seq (.ops A_slices_Clone_api_Import_api_Import_1) .ret)))
def R_slices_Clone_api_Import_api_Import : List ARes := [.tmp 2]
def T_slices_Clone_api_Import_api_Import : FC := ⟨8, A_slices_Clone_api_Import_api_Import, R_slices_Clone_api_Import_api_Import⟩

-- lexicon/link.cloneAll
abbrev F_link_cloneAll : Nat := 39
def A_link_cloneAll_0 : List AOper := [⟨some 4, .mov (.c (.nils)), none⟩,
    ⟨some 5, .mov (.c (.nils)), none⟩]
def A_link_cloneAll_1 : List AOper := [⟨some 12, .mov (.t 0), none⟩,
    ⟨some 13, .lenl (.t 12), none⟩,
    ⟨some 14, .mov (.c (.int .i64 (0))), none⟩]
def A_link_cloneAll_2 : List AOper := [⟨some 16, .iaddr 72 7 (.t 12) (.t 14), none⟩,
    ⟨some 17, .lda 7 (.t 16), none⟩,
    ⟨some 8, .box 72 7 (.c (.agg [.str [], .nils, .nils, .nils, .nils, .nils, .nils])), none⟩,
    ⟨none, .st 7 (.t 8) (.t 17), none⟩]
def A_link_cloneAll_3 : List AOper := [⟨some 18, .mov (.t 6), none⟩,
    ⟨some 19, .lda 7 (.t 8), none⟩,
    ⟨some 20, .call 87 [(.t 19)], none⟩,
    ⟨some 21, .bslice 72 7 1 [.str [], .nils, .nils, .nils, .nils, .nils, .nils] [(0, 7, (.t 20))], none⟩,
    ⟨some 22, .app 72 7 160 (.t 18) (.t 21), none⟩,
    ⟨some 6, .mov (.t 22), none⟩]
def A_link_cloneAll_4 : List AOper := [⟨some 23, .bini .add (.t 14) (.c (.int .i64 (1))), none⟩,
    ⟨some 14, .mov (.t 23), none⟩]
def A_link_cloneAll_5 : ACode := (.seq (.ops [⟨some 15, .bini .lss (.t 14) (.t 13), none⟩]) (.seq (.cond (.t 15) .skip (.exit 0)) (.seq (.block 1 (.seq (.ops A_link_cloneAll_2) (.ops A_link_cloneAll_3))) (.ops A_link_cloneAll_4))))
def A_link_cloneAll_6 : List AOper := [⟨some 24, .mov (.t 1), none⟩,
    ⟨some 25, .lenl (.t 24), none⟩,
    ⟨some 26, .mov (.c (.int .i64 (0))), none⟩]
def A_link_cloneAll_7 : List AOper := [⟨some 28, .iaddr 148 5 (.t 24) (.t 26), none⟩,
    ⟨some 29, .lda 5 (.t 28), none⟩,
    ⟨some 11, .box 148 5 (.c (.agg [.str [], .nils, .bool false, .nils, .nils])), none⟩,
    ⟨none, .st 5 (.t 11) (.t 29), none⟩]
def A_link_cloneAll_8 : List AOper := [⟨some 30, .mov (.t 9), none⟩,
    ⟨some 31, .lda 5 (.t 11), none⟩,
    ⟨some 32, .call 88 [(.t 31)], none⟩,
    ⟨some 33, .bslice 148 5 1 [.str [], .nils, .bool false, .nils, .nils] [(0, 5, (.t 32))], none⟩,
    ⟨some 34, .app 148 5 96 (.t 30) (.t 33), none⟩,
    ⟨some 9, .mov (.t 34), none⟩]
def A_link_cloneAll_9 : List AOper := [⟨some 35, .bini .add (.t 26) (.c (.int .i64 (1))), none⟩,
    ⟨some 26, .mov (.t 35), none⟩]
def A_link_cloneAll_10 : ACode := (.seq (.ops [⟨some 27, .bini .lss (.t 26) (.t 25), none⟩]) (.seq (.cond (.t 27) .skip (.exit 2)) (.seq (.block 3 (.seq (.ops A_link_cloneAll_7) (.ops A_link_cloneAll_8))) (.ops A_link_cloneAll_9))))
def A_link_cloneAll_11 : List AOper := [⟨some 36, .mov (.t 6), none⟩,
    ⟨some 37, .mov (.t 9), none⟩,
    ⟨some 4, .mov (.t 36), none⟩,
    ⟨some 5, .mov (.t 37), none⟩]
def A_link_cloneAll : ACode := (.seq (.ops A_link_cloneAll_0) (.seq (.ops [⟨some 6, .mov (.c (.nils)), none⟩]) (.seq (.seq (.ops A_link_cloneAll_1) (.block 0 (.loop A_link_cloneAll_5))) (.seq (.ops [⟨some 9, .mov (.c (.nils)), none⟩]) (.seq (.seq (.ops A_link_cloneAll_6) (.block 2 (.loop A_link_cloneAll_10))) (.seq (.ops A_link_cloneAll_11) .ret))))))
def R_link_cloneAll : List ARes := [.tmp 4, .tmp 5]
def T_link_cloneAll : FC := ⟨38, A_link_cloneAll, R_link_cloneAll⟩

-- slices.Sorted[string]
abbrev F_slices_Sorted_string : Nat := 40
def A_slices_Sorted_string_0 : List AOper := [⟨some 4, .mov (.t 0), none⟩,
    ⟨some 5, .call 89 [(.t 4)], none⟩,
    ⟨some 3, .mov (.t 5), none⟩]
def A_slices_Sorted_string_1 : List AOper := [⟨some 6, .mov (.t 3), none⟩,
    ⟨some 7, .call 30 [(.t 6)], none⟩]
def A_slices_Sorted_string_2 : List AOper := [⟨some 8, .mov (.t 3), none⟩,
    ⟨some 2, .mov (.t 8), none⟩]
def A_slices_Sorted_string : ACode := (.seq (.ops [⟨some 2, .mov (.c (.nils)), none⟩]) (.seq (.ops A_slices_Sorted_string_0) (.seq (.ops A_slices_Sorted_string_1) (.seq (.ops A_slices_Sorted_string_2) .ret))))
def R_slices_Sorted_string : List ARes := [.tmp 2]
def T_slices_Sorted_string : FC := ⟨9, A_slices_Sorted_string, R_slices_Sorted_string⟩

-- maps.Keys[map[string]*lexicon/link.file,string,*lexicon/link.file]
abbrev F_maps_Keys_map_string_link_file_string_link_file : Nat := 41
def A_maps_Keys_map_string_link_file_string_link_file_0 : List AOper := [⟨some 1, .box 55 1 (.t 0), none⟩,
    ⟨some 2, .mov (.c (.nilf)), none⟩]
def A_maps_Keys_map_string_link_file_string_link_file_1 : List AOper := [⟨some 3, .mkfn 90 [] [(.t 1)], none⟩,
    ⟨some 2, .mov (.t 3), none⟩]
def A_maps_Keys_map_string_link_file_string_link_file : ACode := (.seq (.ops A_maps_Keys_map_string_link_file_string_link_file_0) (.seq (.ops A_maps_Keys_map_string_link_file_string_link_file_1) .ret))
def R_maps_Keys_map_string_link_file_string_link_file : List ARes := [.tmp 2]
def T_maps_Keys_map_string_link_file_string_link_file : FC := ⟨4, A_maps_Keys_map_string_link_file_string_link_file, R_maps_Keys_map_string_link_file_string_link_file⟩

-- lexicon/check.Check$1
abbrev F_check_Check_c1 : Nat := 42
def A_check_Check_c1_0 : List AOper := [⟨some 7, .tass 137 true (.agg [.int .i64 (0), .str []]) (.t 4), none⟩,
    ⟨some 8, .ext 1 (.t 7), none⟩,
    ⟨some 9, .ext 0 (.t 7), none⟩]
def A_check_Check_c1_1 : List AOper := [⟨some 2, .box 137 2 (.c (.agg [.int .i64 (0), .str []])), none⟩,
    ⟨none, .st 2 (.t 2) (.t 9), none⟩]
def A_check_Check_c1_2 : List AOper := [⟨some 10, .faddr 0 (.t 2), none⟩,
    ⟨some 11, .lda 2 (.t 10), none⟩,
    ⟨none, .st 2 (.t 0) (.t 11), none⟩]
def A_check_Check_c1_3 : List AOper := [⟨some 5, .mov (.t 3), none⟩,
    ⟨none, .pan (.t 5), none⟩]
def A_check_Check_c1 : ACode := (.seq (.recv (some 4) []) (.block 0 (.seq (.ops [⟨some 6, .isnil .ic false (.t 4), none⟩]) (.cond (.t 6) (.ops [⟨some 1, .mov (.t 4), none⟩]) (.seq (.ops A_check_Check_c1_0) (.cond (.t 8) (.seq (.ops A_check_Check_c1_1) (.ops A_check_Check_c1_2)) (.seq (.ops [⟨some 3, .mov (.t 4), none⟩]) (.ops A_check_Check_c1_3))))))))
def R_check_Check_c1 : List ARes := []
def T_check_Check_c1 : FC := ⟨12, A_check_Check_c1, R_check_Check_c1⟩

-- (*lexicon/check.reader).file
abbrev F_check_reader_file : Nat := 43
def A_check_reader_file_0 : List AOper := [⟨some 11, .faddr 0 (.t 3), none⟩,
    ⟨some 12, .ld1 (.t 11), none⟩,
    ⟨some 14, .faddr 0 (.t 3), none⟩,
    ⟨some 15, .ld1 (.t 14), none⟩,
    ⟨some 13, .acall 92 [(.t 12)], none⟩,
    ⟨some 16, .acall 91 [(.t 13), (.c (.int .i64 (60))), (.t 15)], none⟩]
def A_check_reader_file_1 : List AOper := [⟨some 17, .faddr 1 (.t 3), none⟩,
    ⟨some 18, .ld1 (.t 17), none⟩,
    ⟨some 19, .bins .eql (.t 18) (.c (.str [])), none⟩,
    ⟨some 20, .mov (.t 19), none⟩,
    ⟨some 21, .faddr 1 (.t 3), some (20, false)⟩,
    ⟨some 22, .ld1 (.t 21), some (20, false)⟩,
    ⟨some 25, .faddr 1 (.t 3), none⟩,
    ⟨some 26, .ld1 (.t 25), none⟩,
    ⟨some 23, .acall 93 [(.t 22)], some (20, false)⟩,
    ⟨some 24, .pick (.t 20) (.c (.bool true)) (.t 23), none⟩,
    ⟨some 27, .acall 91 [(.t 24), (.c (.int .i64 (60))), (.t 26)], none⟩]
def A_check_reader_file_2 : List AOper := [⟨some 28, .faddr 2 (.t 3), none⟩,
    ⟨some 29, .ld1 (.t 28), none⟩,
    ⟨some 30, .lenl (.t 29), none⟩,
    ⟨some 31, .bini .leq (.t 30) (.c (.int .i64 (256))), none⟩,
    ⟨some 32, .faddr 0 (.t 3), none⟩,
    ⟨some 33, .ld1 (.t 32), none⟩,
    ⟨some 34, .call 91 [(.t 31), (.c (.int .i64 (68))), (.t 33)], none⟩]
def A_check_reader_file_3 : List AOper := [⟨some 35, .mkmap, none⟩,
    ⟨some 4, .mov (.t 35), none⟩]
def A_check_reader_file_4 : List AOper := [⟨some 36, .faddr 2 (.t 3), none⟩,
    ⟨some 37, .ld1 (.t 36), none⟩,
    ⟨some 38, .lenl (.t 37), none⟩,
    ⟨some 39, .mov (.c (.int .i64 (0))), none⟩]
def A_check_reader_file_5 : List AOper := [⟨some 41, .iaddr 96 2 (.t 37) (.t 39), none⟩,
    ⟨some 42, .lda 2 (.t 41), none⟩,
    ⟨some 6, .box 96 2 (.c (.agg [.str [], .bool false])), none⟩,
    ⟨none, .st 2 (.t 6) (.t 42), none⟩]
def A_check_reader_file_6 : List AOper := [⟨some 43, .faddr 0 (.t 6), none⟩,
    ⟨some 44, .ld1 (.t 43), none⟩,
    ⟨some 46, .faddr 0 (.t 6), none⟩,
    ⟨some 47, .ld1 (.t 46), none⟩,
    ⟨some 45, .acall 92 [(.t 44)], none⟩,
    ⟨some 48, .acall 91 [(.t 45), (.c (.int .i64 (60))), (.t 47)], none⟩]
def A_check_reader_file_7 : List AOper := [⟨some 49, .mov (.t 4), none⟩,
    ⟨some 50, .faddr 0 (.t 6), none⟩,
    ⟨some 51, .ld1 (.t 50), none⟩,
    ⟨some 52, .mlook .s (.int .i64 (0)) false (.t 49) (.t 51), none⟩,
    ⟨some 53, .bini .add (.t 52) (.c (.int .i64 (1))), none⟩,
    ⟨none, .mupd .s (.t 49) (.t 51) (.t 53), none⟩]
def A_check_reader_file_8 : List AOper := [⟨some 54, .mov (.t 4), none⟩,
    ⟨some 55, .faddr 0 (.t 6), none⟩,
    ⟨some 56, .ld1 (.t 55), none⟩,
    ⟨some 57, .mlook .s (.int .i64 (0)) false (.t 54) (.t 56), none⟩,
    ⟨some 58, .bini .eql (.t 57) (.c (.int .i64 (1))), none⟩,
    ⟨some 59, .faddr 0 (.t 6), none⟩,
    ⟨some 60, .ld1 (.t 59), none⟩,
    ⟨some 61, .call 91 [(.t 58), (.c (.int .i64 (61))), (.t 60)], none⟩]
def A_check_reader_file_9 : List AOper := [⟨some 62, .bini .add (.t 39) (.c (.int .i64 (1))), none⟩,
    ⟨some 39, .mov (.t 62), none⟩]
def A_check_reader_file_10 : ACode := (.seq (.ops [⟨some 40, .bini .lss (.t 39) (.t 38), none⟩]) (.seq (.cond (.t 40) .skip (.exit 0)) (.seq (.block 1 (.seq (.ops A_check_reader_file_5) (.seq (.alts [43, 44, 45, 46, 47, 48] [A_check_reader_file_6]) (.seq (.ops A_check_reader_file_7) (.ops A_check_reader_file_8))))) (.ops A_check_reader_file_9))))
def A_check_reader_file_11 : List AOper := [⟨some 63, .faddr 3 (.t 3), none⟩,
    ⟨some 64, .ld1 (.t 63), none⟩,
    ⟨some 65, .lenl (.t 64), none⟩,
    ⟨some 66, .mov (.c (.int .i64 (0))), none⟩]
def A_check_reader_file_12 : List AOper := [⟨some 68, .iaddr 72 7 (.t 64) (.t 66), none⟩,
    ⟨some 69, .lda 7 (.t 68), none⟩,
    ⟨some 8, .box 72 7 (.c (.agg [.str [], .nils, .nils, .nils, .nils, .nils, .nils])), none⟩,
    ⟨none, .st 7 (.t 8) (.t 69), none⟩]
def A_check_reader_file_13 : List AOper := [⟨some 70, .mov (.t 0), none⟩,
    ⟨some 71, .lda 7 (.t 8), none⟩,
    ⟨some 72, .faddr 1 (.t 3), none⟩,
    ⟨some 73, .ld1 (.t 72), none⟩,
    ⟨some 74, .call 94 [(.t 70), (.t 71), (.t 73), (.c (.int .i64 (0)))], none⟩]
def A_check_reader_file_14 : List AOper := [⟨some 75, .bini .add (.t 66) (.c (.int .i64 (1))), none⟩,
    ⟨some 66, .mov (.t 75), none⟩]
def A_check_reader_file_15 : ACode := (.seq (.ops [⟨some 67, .bini .lss (.t 66) (.t 65), none⟩]) (.seq (.cond (.t 67) .skip (.exit 2)) (.seq (.block 3 (.seq (.ops A_check_reader_file_12) (.ops A_check_reader_file_13))) (.ops A_check_reader_file_14))))
def A_check_reader_file_16 : List AOper := [⟨some 76, .faddr 4 (.t 3), none⟩,
    ⟨some 77, .ld1 (.t 76), none⟩,
    ⟨some 78, .lenl (.t 77), none⟩,
    ⟨some 79, .mov (.c (.int .i64 (0))), none⟩]
def A_check_reader_file_17 : List AOper := [⟨some 81, .iaddr 148 5 (.t 77) (.t 79), none⟩,
    ⟨some 82, .lda 5 (.t 81), none⟩,
    ⟨some 10, .box 148 5 (.c (.agg [.str [], .nils, .bool false, .nils, .nils])), none⟩,
    ⟨none, .st 5 (.t 10) (.t 82), none⟩]
def A_check_reader_file_18 : List AOper := [⟨some 83, .mov (.t 0), none⟩,
    ⟨some 84, .lda 5 (.t 10), none⟩,
    ⟨some 85, .faddr 1 (.t 3), none⟩,
    ⟨some 86, .ld1 (.t 85), none⟩,
    ⟨some 87, .call 95 [(.t 83), (.t 84), (.t 86)], none⟩]
def A_check_reader_file_19 : List AOper := [⟨some 88, .bini .add (.t 79) (.c (.int .i64 (1))), none⟩,
    ⟨some 79, .mov (.t 88), none⟩]
def A_check_reader_file_20 : ACode := (.seq (.ops [⟨some 80, .bini .lss (.t 79) (.t 78), none⟩]) (.seq (.cond (.t 80) .skip (.exit 4)) (.seq (.block 5 (.seq (.ops A_check_reader_file_17) (.ops A_check_reader_file_18))) (.ops A_check_reader_file_19))))
def A_check_reader_file : ACode := (.seq (.ops [⟨some 3, .box 33 5 (.t 1), none⟩]) (.seq (.alts [11, 12, 13, 14, 15, 16] [A_check_reader_file_0]) (.seq (.alts [17, 18, 19, 20, 21, 22, 23, 24, 25, 26, 27] [A_check_reader_file_1]) (.seq (.ops A_check_reader_file_2) (.seq (.ops A_check_reader_file_3) (.seq (.seq (.ops A_check_reader_file_4) (.block 0 (.loop A_check_reader_file_10))) (.seq (.seq (.ops A_check_reader_file_11) (.block 2 (.loop A_check_reader_file_15))) (.seq (.ops A_check_reader_file_16) (.block 4 (.loop A_check_reader_file_20))))))))))
def R_check_reader_file : List ARes := []
def T_check_reader_file : FC := ⟨89, A_check_reader_file, R_check_reader_file⟩

-- lexicon/texts.Scopes
abbrev F_texts_Scopes : Nat := 44
def A_texts_Scopes_0 : List AOper := [⟨some 1, .box 9 1 (.t 0), none⟩,
    ⟨some 2, .mov (.c (.nilf)), none⟩]
def A_texts_Scopes_1 : List AOper := [⟨some 3, .mkfn 96 [] [(.t 1)], none⟩,
    ⟨some 2, .mov (.t 3), none⟩]
def A_texts_Scopes : ACode := (.seq (.ops A_texts_Scopes_0) (.seq (.ops A_texts_Scopes_1) .ret))
def R_texts_Scopes : List ARes := [.tmp 2]
def T_texts_Scopes : FC := ⟨4, A_texts_Scopes, R_texts_Scopes⟩

-- lexicon/check.Symbols$1
abbrev F_check_Symbols_c1 : Nat := 45
def A_check_Symbols_c1_0 : List AOper := [⟨some 10, .mov (.t 0), none⟩,
    ⟨some 11, .mov (.t 1), none⟩,
    ⟨some 12, .bslice 9 1 2 [.str []] [(0, 1, (.t 10)), (1, 1, (.t 11))], none⟩,
    ⟨some 13, .call 46 [(.t 12)], none⟩,
    ⟨some 9, .mov (.t 13), none⟩]
def A_check_Symbols_c1_1 : List AOper := [⟨some 14, .ld1 (.t 3), none⟩,
    ⟨some 15, .mov (.t 9), none⟩,
    ⟨some 16, .mov (.t 2), none⟩,
    ⟨some 17, .faddr 0 (.t 4), none⟩,
    ⟨some 18, .ld1 (.t 17), none⟩,
    ⟨some 19, .build [.str [], .int .u8 (0), .str []] [(0, 1, (.t 15)), (1, 1, (.t 16)), (2, 1, (.t 18))], none⟩,
    ⟨some 20, .bslice 104 3 1 [.str [], .int .u8 (0), .str []] [(0, 3, (.t 19))], none⟩,
    ⟨some 21, .app 104 3 40 (.t 14) (.t 20), none⟩,
    ⟨none, .st 1 (.t 3) (.t 21), none⟩]
def A_check_Symbols_c1_2 : List AOper := [⟨some 22, .mov (.t 9), none⟩,
    ⟨some 8, .mov (.t 22), none⟩]
def A_check_Symbols_c1 : ACode := (.seq (.ops [⟨some 8, .mov (.c (.str [])), none⟩]) (.seq (.ops A_check_Symbols_c1_0) (.seq (.ops A_check_Symbols_c1_1) (.seq (.ops A_check_Symbols_c1_2) .ret))))
def R_check_Symbols_c1 : List ARes := [.tmp 8]
def T_check_Symbols_c1 : FC := ⟨23, A_check_Symbols_c1, R_check_Symbols_c1⟩

-- lexicon/texts.Join
abbrev F_texts_Join : Nat := 46
def A_texts_Join_0 : List AOper := [⟨some 6, .mov (.t 0), none⟩,
    ⟨some 7, .lenl (.t 6), none⟩,
    ⟨some 8, .mov (.c (.int .i64 (0))), none⟩]
def A_texts_Join_1 : List AOper := [⟨some 10, .iaddr 9 1 (.t 6) (.t 8), none⟩,
    ⟨some 11, .ld1 (.t 10), none⟩,
    ⟨some 5, .mov (.t 11), none⟩]
def A_texts_Join_2 : List AOper := [⟨some 12, .mov (.t 5), none⟩,
    ⟨some 13, .bins .neq (.t 12) (.c (.str [])), none⟩]
def A_texts_Join_3 : List AOper := [⟨some 14, .mov (.t 3), none⟩,
    ⟨some 15, .mov (.t 5), none⟩,
    ⟨some 16, .bslice 9 1 1 [.str []] [(0, 1, (.t 15))], none⟩,
    ⟨some 17, .app 9 1 16 (.t 14) (.t 16), none⟩,
    ⟨some 3, .mov (.t 17), none⟩]
def A_texts_Join_4 : List AOper := [⟨some 18, .bini .add (.t 8) (.c (.int .i64 (1))), none⟩,
    ⟨some 8, .mov (.t 18), none⟩]
def A_texts_Join_5 : ACode := (.seq (.ops [⟨some 9, .bini .lss (.t 8) (.t 7), none⟩]) (.seq (.cond (.t 9) .skip (.exit 0)) (.seq (.block 1 (.seq (.ops A_texts_Join_1) (.seq (.ops A_texts_Join_2) (.cond (.t 13) (.ops A_texts_Join_3) .skip)))) (.ops A_texts_Join_4))))
def A_texts_Join_6 : List AOper := [⟨some 19, .mov (.t 3), none⟩,
    ⟨some 20, .call 98 [(.t 19), (.c (.str [46]))], none⟩,
    ⟨some 2, .mov (.t 20), none⟩]
def A_texts_Join : ACode := (.seq (.ops [⟨some 2, .mov (.c (.str [])), none⟩]) (.seq (.ops [⟨some 3, .mov (.c (.nils)), none⟩]) (.seq (.seq (.ops A_texts_Join_0) (.block 0 (.loop A_texts_Join_5))) (.seq (.ops A_texts_Join_6) .ret))))
def R_texts_Join : List ARes := [.tmp 2]
def T_texts_Join : FC := ⟨21, A_texts_Join, R_texts_Join⟩

-- lexicon/check.Symbols$3
abbrev F_check_Symbols_c3 : Nat := 48
def A_check_Symbols_c3_0 : List AOper := [⟨some 16, .ld1 (.t 2), none⟩,
    ⟨some 17, .mov (.t 1), none⟩,
    ⟨some 18, .faddr 0 (.t 5), none⟩,
    ⟨some 19, .ld1 (.t 18), none⟩,
    ⟨some 20, .callv (.t 16) [(.t 17), (.t 19), (.c (.int .u8 (1)))], none⟩,
    ⟨some 7, .mov (.t 20), none⟩]
def A_check_Symbols_c3_1 : List AOper := [⟨some 21, .faddr 1 (.t 5), none⟩,
    ⟨some 22, .ld1 (.t 21), none⟩,
    ⟨some 23, .lenl (.t 22), none⟩,
    ⟨some 24, .mov (.c (.int .i64 (0))), none⟩]
def A_check_Symbols_c3_2 : List AOper := [⟨some 26, .iaddr 68 9 (.t 22) (.t 24), none⟩,
    ⟨some 27, .lda 9 (.t 26), none⟩,
    ⟨some 9, .box 68 9 (.c (.agg [.str [], .int .i32 (0), .int .u8 (0), .int .u8 (0), .str [], .int .u8 (0), .int .i64 (0), .int .u8 (0), .str []])), none⟩,
    ⟨none, .st 9 (.t 9) (.t 27), none⟩]
def A_check_Symbols_c3_3 : List AOper := [⟨some 28, .ld1 (.t 2), none⟩,
    ⟨some 29, .mov (.t 7), none⟩,
    ⟨some 30, .faddr 0 (.t 9), none⟩,
    ⟨some 31, .ld1 (.t 30), none⟩,
    ⟨some 32, .callv (.t 28) [(.t 29), (.t 31), (.c (.int .u8 (4)))], none⟩]
def A_check_Symbols_c3_4 : List AOper := [⟨some 33, .bini .add (.t 24) (.c (.int .i64 (1))), none⟩,
    ⟨some 24, .mov (.t 33), none⟩]
def A_check_Symbols_c3_5 : ACode := (.seq (.ops [⟨some 25, .bini .lss (.t 24) (.t 23), none⟩]) (.seq (.cond (.t 25) .skip (.exit 0)) (.seq (.block 1 (.seq (.ops A_check_Symbols_c3_2) (.ops A_check_Symbols_c3_3))) (.ops A_check_Symbols_c3_4))))
def A_check_Symbols_c3_6 : List AOper := [⟨some 34, .faddr 2 (.t 5), none⟩,
    ⟨some 35, .ld1 (.t 34), none⟩,
    ⟨some 36, .lenl (.t 35), none⟩,
    ⟨some 37, .mov (.c (.int .i64 (0))), none⟩]
def A_check_Symbols_c3_7 : List AOper := [⟨some 39, .iaddr 9 1 (.t 35) (.t 37), none⟩,
    ⟨some 40, .ld1 (.t 39), none⟩,
    ⟨some 11, .mov (.t 40), none⟩]
def A_check_Symbols_c3_8 : List AOper := [⟨some 41, .ld1 (.t 2), none⟩,
    ⟨some 42, .mov (.t 7), none⟩,
    ⟨some 43, .mov (.t 11), none⟩,
    ⟨some 44, .callv (.t 41) [(.t 42), (.t 43), (.c (.int .u8 (5)))], none⟩]
def A_check_Symbols_c3_9 : List AOper := [⟨some 45, .bini .add (.t 37) (.c (.int .i64 (1))), none⟩,
    ⟨some 37, .mov (.t 45), none⟩]
def A_check_Symbols_c3_10 : ACode := (.seq (.ops [⟨some 38, .bini .lss (.t 37) (.t 36), none⟩]) (.seq (.cond (.t 38) .skip (.exit 2)) (.seq (.block 3 (.seq (.ops A_check_Symbols_c3_7) (.ops A_check_Symbols_c3_8))) (.ops A_check_Symbols_c3_9))))
def A_check_Symbols_c3_11 : List AOper := [⟨some 46, .faddr 3 (.t 5), none⟩,
    ⟨some 47, .ld1 (.t 46), none⟩,
    ⟨some 48, .lenl (.t 47), none⟩,
    ⟨some 49, .mov (.c (.int .i64 (0))), none⟩]
def A_check_Symbols_c3_12 : List AOper := [⟨some 51, .iaddr 72 7 (.t 47) (.t 49), none⟩,
    ⟨some 52, .lda 7 (.t 51), none⟩,
    ⟨some 13, .box 72 7 (.c (.agg [.str [], .nils, .nils, .nils, .nils, .nils, .nils])), none⟩,
    ⟨none, .st 7 (.t 13) (.t 52), none⟩]
def A_check_Symbols_c3_13 : List AOper := [⟨some 53, .ld1 (.t 3), none⟩,
    ⟨some 54, .lda 7 (.t 13), none⟩,
    ⟨some 55, .mov (.t 7), none⟩,
    ⟨some 56, .callv (.t 53) [(.t 54), (.t 55)], none⟩]
def A_check_Symbols_c3_14 : List AOper := [⟨some 57, .bini .add (.t 49) (.c (.int .i64 (1))), none⟩,
    ⟨some 49, .mov (.t 57), none⟩]
def A_check_Symbols_c3_15 : ACode := (.seq (.ops [⟨some 50, .bini .lss (.t 49) (.t 48), none⟩]) (.seq (.cond (.t 50) .skip (.exit 4)) (.seq (.block 5 (.seq (.ops A_check_Symbols_c3_12) (.ops A_check_Symbols_c3_13))) (.ops A_check_Symbols_c3_14))))
def A_check_Symbols_c3_16 : List AOper := [⟨some 58, .faddr 4 (.t 5), none⟩,
    ⟨some 59, .ld1 (.t 58), none⟩,
    ⟨some 60, .lenl (.t 59), none⟩,
    ⟨some 61, .mov (.c (.int .i64 (0))), none⟩]
def A_check_Symbols_c3_17 : List AOper := [⟨some 63, .iaddr 148 5 (.t 59) (.t 61), none⟩,
    ⟨some 64, .lda 5 (.t 63), none⟩,
    ⟨some 15, .box 148 5 (.c (.agg [.str [], .nils, .bool false, .nils, .nils])), none⟩,
    ⟨none, .st 5 (.t 15) (.t 64), none⟩]
def A_check_Symbols_c3_18 : List AOper := [⟨some 65, .ld1 (.t 4), none⟩,
    ⟨some 66, .lda 5 (.t 15), none⟩,
    ⟨some 67, .mov (.t 7), none⟩,
    ⟨some 68, .callv (.t 65) [(.t 66), (.t 67)], none⟩]
def A_check_Symbols_c3_19 : List AOper := [⟨some 69, .bini .add (.t 61) (.c (.int .i64 (1))), none⟩,
    ⟨some 61, .mov (.t 69), none⟩]
def A_check_Symbols_c3_20 : ACode := (.seq (.ops [⟨some 62, .bini .lss (.t 61) (.t 60), none⟩]) (.seq (.cond (.t 62) .skip (.exit 6)) (.seq (.block 7 (.seq (.ops A_check_Symbols_c3_17) (.ops A_check_Symbols_c3_18))) (.ops A_check_Symbols_c3_19))))
def A_check_Symbols_c3 : ACode := (.seq (.ops [⟨some 5, .box 72 7 (.t 0), none⟩]) (.seq (.ops A_check_Symbols_c3_0) (.seq (.seq (.ops A_check_Symbols_c3_1) (.block 0 (.loop A_check_Symbols_c3_5))) (.seq (.seq (.ops A_check_Symbols_c3_6) (.block 2 (.loop A_check_Symbols_c3_10))) (.seq (.seq (.ops A_check_Symbols_c3_11) (.block 4 (.loop A_check_Symbols_c3_15))) (.seq (.ops A_check_Symbols_c3_16) (.block 6 (.loop A_check_Symbols_c3_20))))))))
def R_check_Symbols_c3 : List ARes := []
def T_check_Symbols_c3 : FC := ⟨70, A_check_Symbols_c3, R_check_Symbols_c3⟩

-- slices.SortStableFunc[[]lexicon/api.Symbol,lexicon/api.Symbol]
abbrev F_slices_SortStableFunc_api_Symbol_api_Symbol : Nat := 49
def A_slices_SortStableFunc_api_Symbol_api_Symbol_0 : List AOper := [⟨some 4, .mov (.t 0), none⟩,
    ⟨some 5, .mov (.t 0), none⟩,
    ⟨some 6, .lenl (.t 5), none⟩,
    ⟨some 7, .mov (.t 1), none⟩,
    ⟨some 8, .call 99 [(.t 4), (.t 6), (.t 7)], none⟩]
def A_slices_SortStableFunc_api_Symbol_api_Symbol : ACode := (.ops A_slices_SortStableFunc_api_Symbol_api_Symbol_0)
def R_slices_SortStableFunc_api_Symbol_api_Symbol : List ARes := []
def T_slices_SortStableFunc_api_Symbol_api_Symbol : FC := ⟨9, A_slices_SortStableFunc_api_Symbol_api_Symbol, R_slices_SortStableFunc_api_Symbol_api_Symbol⟩

-- lexicon/check.Symbols$4
abbrev F_check_Symbols_c4 : Nat := 50
def A_check_Symbols_c4_0 : List AOper := [⟨some 2, .box 104 3 (.t 0), none⟩,
    ⟨some 3, .box 104 3 (.t 1), none⟩,
    ⟨some 4, .mov (.c (.int .i64 (0))), none⟩]
def A_check_Symbols_c4_1 : List AOper := [⟨some 5, .faddr 0 (.t 2), none⟩,
    ⟨some 6, .ld1 (.t 5), none⟩,
    ⟨some 7, .faddr 0 (.t 3), none⟩,
    ⟨some 8, .ld1 (.t 7), none⟩,
    ⟨some 10, .faddr 1 (.t 2), none⟩,
    ⟨some 11, .ld1 (.t 10), none⟩,
    ⟨some 12, .faddr 1 (.t 3), none⟩,
    ⟨some 13, .ld1 (.t 12), none⟩,
    ⟨some 9, .acall 52 [(.t 6), (.t 8)], none⟩,
    ⟨some 14, .acall 53 [(.t 11), (.t 13)], none⟩,
    ⟨some 15, .bslice 3 1 2 [.int .i64 (0)] [(0, 1, (.t 9)), (1, 1, (.t 14))], none⟩,
    ⟨some 16, .acall 51 [(.t 15)], none⟩,
    ⟨some 4, .mov (.t 16), none⟩]
def A_check_Symbols_c4 : ACode := (.seq (.ops A_check_Symbols_c4_0) (.seq (.alts [5, 6, 7, 8, 9, 10, 11, 12, 13, 14, 15, 16, 4] [A_check_Symbols_c4_1]) .ret))
def R_check_Symbols_c4 : List ARes := [.tmp 4]
def T_check_Symbols_c4 : FC := ⟨17, A_check_Symbols_c4, R_check_Symbols_c4⟩

-- cmp.Or[int]
abbrev F_cmp_Or_int : Nat := 51
def A_cmp_Or_int_0 : List AOper := [⟨some 6, .mov (.t 0), none⟩,
    ⟨some 7, .lenl (.t 6), none⟩,
    ⟨some 8, .mov (.c (.int .i64 (0))), none⟩]
def A_cmp_Or_int_1 : List AOper := [⟨some 10, .iaddr 3 1 (.t 6) (.t 8), none⟩,
    ⟨some 11, .ld1 (.t 10), none⟩,
    ⟨some 5, .mov (.t 11), none⟩]
def A_cmp_Or_int_2 : List AOper := [⟨some 12, .mov (.t 5), none⟩,
    ⟨some 13, .mov (.t 3), none⟩,
    ⟨some 14, .bini .neq (.t 12) (.t 13), none⟩]
def A_cmp_Or_int_3 : List AOper := [⟨some 15, .mov (.t 5), none⟩,
    ⟨some 2, .mov (.t 15), none⟩]
def A_cmp_Or_int_4 : List AOper := [⟨some 16, .bini .add (.t 8) (.c (.int .i64 (1))), none⟩,
    ⟨some 8, .mov (.t 16), none⟩]
def A_cmp_Or_int_5 : ACode := (.seq (.ops [⟨some 9, .bini .lss (.t 8) (.t 7), none⟩]) (.seq (.cond (.t 9) .skip (.exit 0)) (.seq (.block 1 (.seq (.ops A_cmp_Or_int_1) (.seq (.ops A_cmp_Or_int_2) (.cond (.t 14) (.seq (.ops A_cmp_Or_int_3) .ret) .skip)))) (.ops A_cmp_Or_int_4))))
def A_cmp_Or_int_6 : List AOper := [⟨some 17, .mov (.t 3), none⟩,
    ⟨some 2, .mov (.t 17), none⟩]
def A_cmp_Or_int : ACode := (.seq (.ops [⟨some 2, .mov (.c (.int .i64 (0))), none⟩]) (.seq (.ops [⟨some 3, .mov (.c (.int .i64 (0))), none⟩]) (.seq (.seq (.ops A_cmp_Or_int_0) (.block 0 (.loop A_cmp_Or_int_5))) (.seq (.ops A_cmp_Or_int_6) .ret))))
def R_cmp_Or_int : List ARes := [.tmp 2]
def T_cmp_Or_int : FC := ⟨18, A_cmp_Or_int, R_cmp_Or_int⟩

-- cmp.Compare[string]
abbrev F_cmp_Compare_string : Nat := 52
def A_cmp_Compare_string_0 : List AOper := [⟨some 7, .mov (.t 0), none⟩,
    ⟨some 8, .call 100 [(.t 7)], none⟩,
    ⟨some 5, .mov (.t 8), none⟩]
def A_cmp_Compare_string_1 : List AOper := [⟨some 9, .mov (.t 1), none⟩,
    ⟨some 10, .call 100 [(.t 9)], none⟩,
    ⟨some 6, .mov (.t 10), none⟩]
def A_cmp_Compare_string_2 : List AOper := [⟨some 14, .mov (.t 0), none⟩,
    ⟨some 15, .mov (.t 1), none⟩,
    ⟨some 16, .bins .lss (.t 14) (.t 15), none⟩]
def A_cmp_Compare_string_3 : List AOper := [⟨some 17, .mov (.t 0), none⟩,
    ⟨some 18, .mov (.t 1), none⟩,
    ⟨some 19, .bins .gtr (.t 17) (.t 18), none⟩]
def A_cmp_Compare_string : ACode := (.seq (.ops [⟨some 4, .mov (.c (.int .i64 (0))), none⟩]) (.seq (.ops A_cmp_Compare_string_0) (.seq (.ops A_cmp_Compare_string_1) (.seq (.seq (.ops [⟨some 11, .mov (.t 5), none⟩]) (.cond (.t 11) (.seq (.seq (.ops [⟨some 12, .mov (.t 6), none⟩]) (.cond (.t 12) (.seq (.ops [⟨some 4, .mov (.c (.int .i64 (0))), none⟩]) .ret) .skip)) (.seq (.ops [⟨some 4, .mov (.c (.int .i64 (-1))), none⟩]) .ret)) .skip)) (.seq (.seq (.ops [⟨some 13, .mov (.t 6), none⟩]) (.cond (.t 13) (.seq (.ops [⟨some 4, .mov (.c (.int .i64 (1))), none⟩]) .ret) .skip)) (.seq (.seq (.ops A_cmp_Compare_string_2) (.cond (.t 16) (.seq (.ops [⟨some 4, .mov (.c (.int .i64 (-1))), none⟩]) .ret) .skip)) (.seq (.seq (.ops A_cmp_Compare_string_3) (.cond (.t 19) (.seq (.ops [⟨some 4, .mov (.c (.int .i64 (1))), none⟩]) .ret) .skip)) (.seq (.ops [⟨some 4, .mov (.c (.int .i64 (0))), none⟩]) .ret))))))))
def R_cmp_Compare_string : List ARes := [.tmp 4]
def T_cmp_Compare_string : FC := ⟨20, A_cmp_Compare_string, R_cmp_Compare_string⟩

-- cmp.Compare[lexicon/api.Sort]
abbrev F_cmp_Compare_api_Sort : Nat := 53
def A_cmp_Compare_api_Sort_0 : List AOper := [⟨some 7, .mov (.t 0), none⟩,
    ⟨some 8, .call 101 [(.t 7)], none⟩,
    ⟨some 5, .mov (.t 8), none⟩]
def A_cmp_Compare_api_Sort_1 : List AOper := [⟨some 9, .mov (.t 1), none⟩,
    ⟨some 10, .call 101 [(.t 9)], none⟩,
    ⟨some 6, .mov (.t 10), none⟩]
def A_cmp_Compare_api_Sort_2 : List AOper := [⟨some 14, .mov (.t 0), none⟩,
    ⟨some 15, .mov (.t 1), none⟩,
    ⟨some 16, .bini .lss (.t 14) (.t 15), none⟩]
def A_cmp_Compare_api_Sort_3 : List AOper := [⟨some 17, .mov (.t 0), none⟩,
    ⟨some 18, .mov (.t 1), none⟩,
    ⟨some 19, .bini .gtr (.t 17) (.t 18), none⟩]
def A_cmp_Compare_api_Sort : ACode := (.seq (.ops [⟨some 4, .mov (.c (.int .i64 (0))), none⟩]) (.seq (.ops A_cmp_Compare_api_Sort_0) (.seq (.ops A_cmp_Compare_api_Sort_1) (.seq (.seq (.ops [⟨some 11, .mov (.t 5), none⟩]) (.cond (.t 11) (.seq (.seq (.ops [⟨some 12, .mov (.t 6), none⟩]) (.cond (.t 12) (.seq (.ops [⟨some 4, .mov (.c (.int .i64 (0))), none⟩]) .ret) .skip)) (.seq (.ops [⟨some 4, .mov (.c (.int .i64 (-1))), none⟩]) .ret)) .skip)) (.seq (.seq (.ops [⟨some 13, .mov (.t 6), none⟩]) (.cond (.t 13) (.seq (.ops [⟨some 4, .mov (.c (.int .i64 (1))), none⟩]) .ret) .skip)) (.seq (.seq (.ops A_cmp_Compare_api_Sort_2) (.cond (.t 16) (.seq (.ops [⟨some 4, .mov (.c (.int .i64 (-1))), none⟩]) .ret) .skip)) (.seq (.seq (.ops A_cmp_Compare_api_Sort_3) (.cond (.t 19) (.seq (.ops [⟨some 4, .mov (.c (.int .i64 (1))), none⟩]) .ret) .skip)) (.seq (.ops [⟨some 4, .mov (.c (.int .i64 (0))), none⟩]) .ret))))))))
def R_cmp_Compare_api_Sort : List ARes := [.tmp 4]
def T_cmp_Compare_api_Sort : FC := ⟨20, A_cmp_Compare_api_Sort, R_cmp_Compare_api_Sort⟩

-- (*lexicon/link.Linked).field
abbrev F_link_Linked_field : Nat := 54
def A_link_Linked_field_0 : List AOper := [⟨some 13, .mov (.t 3), none⟩,
    ⟨some 14, .nilc (.t 13), none⟩,
    ⟨some 15, .faddr 3 (.t 14), none⟩,
    ⟨some 16, .ld1 (.t 15), none⟩,
    ⟨some 17, .bini .neq (.t 16) (.c (.int .u8 (0))), none⟩,
    ⟨some 18, .mov (.t 17), none⟩,
    ⟨some 19, .mov (.t 3), some (18, true)⟩,
    ⟨some 20, .nilc (.t 19), some (18, true)⟩,
    ⟨some 21, .faddr 3 (.t 20), some (18, true)⟩,
    ⟨some 22, .ld1 (.t 21), some (18, true)⟩,
    ⟨some 23, .bini .neq (.t 22) (.c (.int .u8 (11))), some (18, true)⟩,
    ⟨some 24, .pick (.t 18) (.t 23) (.c (.bool false)), none⟩,
    ⟨some 25, .mov (.t 24), none⟩,
    ⟨some 26, .mov (.t 3), some (25, true)⟩,
    ⟨some 27, .nilc (.t 26), some (25, true)⟩,
    ⟨some 28, .faddr 3 (.t 27), some (25, true)⟩,
    ⟨some 29, .ld1 (.t 28), some (25, true)⟩,
    ⟨some 30, .bini .neq (.t 29) (.c (.int .u8 (14))), some (25, true)⟩,
    ⟨some 31, .pick (.t 25) (.t 30) (.c (.bool false)), none⟩]
def A_link_Linked_field_1 : List AOper := [⟨some 32, .mov (.t 2), none⟩,
    ⟨some 33, .mov (.t 3), none⟩,
    ⟨some 34, .nilc (.t 33), none⟩,
    ⟨some 35, .faddr 0 (.t 34), none⟩,
    ⟨some 36, .ld1 (.t 35), none⟩,
    ⟨some 37, .bslice 9 1 2 [.str []] [(0, 1, (.t 32)), (1, 1, (.t 36))], none⟩,
    ⟨some 38, .call 46 [(.t 37)], none⟩,
    ⟨some 8, .mov (.t 38), none⟩]
def A_link_Linked_field_2 : List AOper := [⟨some 40, .mov (.t 0), none⟩,
    ⟨some 41, .mov (.t 1), none⟩,
    ⟨some 42, .mov (.t 2), none⟩,
    ⟨some 43, .mov (.t 3), none⟩,
    ⟨some 44, .nilc (.t 43), none⟩,
    ⟨some 45, .faddr 4 (.t 44), none⟩,
    ⟨some 46, .ld1 (.t 45), none⟩,
    ⟨some 47, .call 102 [(.t 40), (.t 41), (.t 42), (.t 46)], none⟩,
    ⟨some 39, .mov (.t 47), none⟩,
    ⟨some 48, .ext 0 (.t 39), none⟩,
    ⟨some 49, .ext 1 (.t 39), none⟩,
    ⟨some 50, .ext 2 (.t 39), none⟩,
    ⟨some 9, .mov (.t 48), none⟩,
    ⟨some 10, .mov (.t 49), none⟩,
    ⟨some 11, .mov (.t 50), none⟩]
def A_link_Linked_field_3 : List AOper := [⟨some 51, .mov (.t 11), none⟩,
    ⟨some 52, .bini .neq (.t 51) (.c (.int .i64 (0))), none⟩]
def A_link_Linked_field_4 : List AOper := [⟨some 53, .mov (.t 11), none⟩,
    ⟨some 54, .mov (.t 8), none⟩,
    ⟨some 55, .call 10 [(.t 53), (.t 54)], none⟩]
def A_link_Linked_field_5 : List AOper := [⟨some 56, .mov (.t 10), none⟩,
    ⟨some 57, .bini .eql (.t 56) (.c (.int .u8 (2))), none⟩]
def A_link_Linked_field_6 : List AOper := [⟨some 58, .mov (.t 3), none⟩,
    ⟨some 59, .nilc (.t 58), none⟩,
    ⟨some 60, .faddr 3 (.t 59), none⟩,
    ⟨some 61, .ld1 (.t 60), none⟩,
    ⟨some 62, .bini .neq (.t 61) (.c (.int .u8 (0))), none⟩,
    ⟨some 63, .mov (.t 62), none⟩,
    ⟨some 64, .mov (.t 3), some (63, true)⟩,
    ⟨some 65, .nilc (.t 64), some (63, true)⟩,
    ⟨some 66, .faddr 3 (.t 65), some (63, true)⟩,
    ⟨some 67, .ld1 (.t 66), some (63, true)⟩,
    ⟨some 68, .mov (.t 12), some (63, true)⟩,
    ⟨some 69, .bini .neq (.t 67) (.t 68), some (63, true)⟩,
    ⟨some 70, .pick (.t 63) (.t 69) (.c (.bool false)), none⟩,
    ⟨some 71, .mov (.t 70), none⟩,
    ⟨some 72, .mov (.t 3), some (71, false)⟩,
    ⟨some 73, .nilc (.t 72), some (71, false)⟩,
    ⟨some 74, .faddr 7 (.t 73), some (71, false)⟩,
    ⟨some 75, .ld1 (.t 74), some (71, false)⟩,
    ⟨some 76, .bini .eql (.t 75) (.c (.int .u8 (1))), some (71, false)⟩,
    ⟨some 77, .mov (.t 76), some (71, false)⟩,
    ⟨some 78, .mov (.t 12), some (77, true)⟩,
    ⟨some 79, .bini .eql (.t 78) (.c (.int .u8 (11))), some (77, true)⟩,
    ⟨some 80, .pick (.t 77) (.t 79) (.c (.bool false)), some (71, false)⟩,
    ⟨some 81, .pick (.t 71) (.c (.bool true)) (.t 80), none⟩]
def A_link_Linked_field_7 : List AOper := [⟨some 82, .mov (.t 8), none⟩,
    ⟨some 83, .call 10 [(.c (.int .i64 (86))), (.t 82)], none⟩]
def A_link_Linked_field_8 : List AOper := [⟨some 84, .mov (.t 3), none⟩,
    ⟨some 85, .mov (.t 3), none⟩,
    ⟨some 86, .mov (.t 12), none⟩,
    ⟨some 87, .mov (.t 9), none⟩,
    ⟨some 88, .nilc (.t 84), none⟩,
    ⟨some 89, .faddr 3 (.t 88), none⟩,
    ⟨none, .st 1 (.t 89) (.t 86), none⟩,
    ⟨some 90, .nilc (.t 85), none⟩,
    ⟨some 91, .faddr 4 (.t 90), none⟩,
    ⟨none, .st 1 (.t 91) (.t 87), none⟩]
def A_link_Linked_field : ACode := (.seq (.seq (.ops A_link_Linked_field_0) (.cond (.t 31) .ret .skip)) (.seq (.ops A_link_Linked_field_1) (.seq (.ops A_link_Linked_field_2) (.seq (.seq (.ops A_link_Linked_field_3) (.cond (.t 52) (.ops A_link_Linked_field_4) .skip)) (.seq (.ops [⟨some 12, .mov (.c (.int .u8 (11))), none⟩]) (.seq (.seq (.ops A_link_Linked_field_5) (.cond (.t 57) (.ops [⟨some 12, .mov (.c (.int .u8 (14))), none⟩]) .skip)) (.seq (.seq (.ops A_link_Linked_field_6) (.cond (.t 81) (.ops A_link_Linked_field_7) .skip)) (.ops A_link_Linked_field_8))))))))
def R_link_Linked_field : List ARes := []
def T_link_Linked_field : FC := ⟨92, A_link_Linked_field, R_link_Linked_field⟩

-- slices.IndexFunc[[]lexicon/api.Import,lexicon/api.Import]
abbrev F_slices_IndexFunc_api_Import_api_Import : Nat := 55
def A_slices_IndexFunc_api_Import_api_Import_0 : List AOper := [⟨some 6, .mov (.t 0), none⟩,
    ⟨some 7, .lenl (.t 6), none⟩,
    ⟨some 8, .mov (.c (.int .i64 (0))), none⟩]
def A_slices_IndexFunc_api_Import_api_Import_1 : List AOper := [⟨some 10, .mov (.t 8), none⟩,
    ⟨some 5, .mov (.t 10), none⟩]
def A_slices_IndexFunc_api_Import_api_Import_2 : List AOper := [⟨some 11, .mov (.t 1), none⟩,
    ⟨some 12, .mov (.t 0), none⟩,
    ⟨some 13, .mov (.t 5), none⟩,
    ⟨some 14, .iaddr 96 2 (.t 12) (.t 13), none⟩,
    ⟨some 15, .lda 2 (.t 14), none⟩,
    ⟨some 16, .callv (.t 11) [(.t 15)], none⟩]
def A_slices_IndexFunc_api_Import_api_Import_3 : List AOper := [⟨some 17, .mov (.t 5), none⟩,
    ⟨some 4, .mov (.t 17), none⟩]
def A_slices_IndexFunc_api_Import_api_Import_4 : List AOper := [⟨some 18, .bini .add (.t 8) (.c (.int .i64 (1))), none⟩,
    ⟨some 8, .mov (.t 18), none⟩]
def A_slices_IndexFunc_api_Import_api_Import_5 : ACode := (.seq (.ops [⟨some 9, .bini .lss (.t 8) (.t 7), none⟩]) (.seq (.cond (.t 9) .skip (.exit 0)) (.seq (.block 1 (.seq (.ops A_slices_IndexFunc_api_Import_api_Import_1) (.seq (.ops A_slices_IndexFunc_api_Import_api_Import_2) (.cond (.t 16) (.seq (.ops A_slices_IndexFunc_api_Import_api_Import_3) .ret) .skip)))) (.ops A_slices_IndexFunc_api_Import_api_Import_4))))
def A_slices_IndexFunc_api_Import_api_Import : ACode := (.seq (.ops [⟨some 4, .mov (.c (.int .i64 (0))), none⟩]) (.seq (.seq (.ops A_slices_IndexFunc_api_Import_api_Import_0) (.block 0 (.loop A_slices_IndexFunc_api_Import_api_Import_5))) (.seq (.ops [⟨some 4, .mov (.c (.int .i64 (-1))), none⟩]) .ret)))
def R_slices_IndexFunc_api_Import_api_Import : List ARes := [.tmp 4]
def T_slices_IndexFunc_api_Import_api_Import : FC := ⟨19, A_slices_IndexFunc_api_Import_api_Import, R_slices_IndexFunc_api_Import_api_Import⟩

-- slices.Contains[[]string,string]
abbrev F_slices_Contains_string_string : Nat := 56
def A_slices_Contains_string_string_0 : List AOper := [⟨some 5, .mov (.t 0), none⟩,
    ⟨some 6, .mov (.t 1), none⟩,
    ⟨some 7, .call 103 [(.t 5), (.t 6)], none⟩,
    ⟨some 8, .bini .geq (.t 7) (.c (.int .i64 (0))), none⟩,
    ⟨some 4, .mov (.t 8), none⟩]
def A_slices_Contains_string_string : ACode := (.seq (.ops [⟨some 4, .mov (.c (.bool false)), none⟩]) (.seq (.ops A_slices_Contains_string_string_0) .ret))
def R_slices_Contains_string_string : List ARes := [.tmp 4]
def T_slices_Contains_string_string : FC := ⟨9, A_slices_Contains_string_string, R_slices_Contains_string_string⟩

-- slices.pdqsortOrdered[string]
abbrev F_slices_pdqsortOrdered_string : Nat := 57
def A_slices_pdqsortOrdered_string_0 : List AOper := [⟨some 19, .mov (.t 2), none⟩,
    ⟨some 20, .mov (.t 1), none⟩,
    ⟨some 21, .bini .sub (.t 19) (.t 20), none⟩,
    ⟨some 10, .mov (.t 21), none⟩]
def A_slices_pdqsortOrdered_string_1 : List AOper := [⟨some 22, .mov (.t 10), none⟩,
    ⟨some 23, .bini .leq (.t 22) (.c (.int .i64 (12))), none⟩]
def A_slices_pdqsortOrdered_string_2 : List AOper := [⟨some 24, .mov (.t 0), none⟩,
    ⟨some 25, .mov (.t 1), none⟩,
    ⟨some 26, .mov (.t 2), none⟩,
    ⟨some 27, .call 104 [(.t 24), (.t 25), (.t 26)], none⟩]
def A_slices_pdqsortOrdered_string_3 : List AOper := [⟨some 28, .mov (.t 3), none⟩,
    ⟨some 29, .bini .eql (.t 28) (.c (.int .i64 (0))), none⟩]
def A_slices_pdqsortOrdered_string_4 : List AOper := [⟨some 30, .mov (.t 0), none⟩,
    ⟨some 31, .mov (.t 1), none⟩,
    ⟨some 32, .mov (.t 2), none⟩,
    ⟨some 33, .call 105 [(.t 30), (.t 31), (.t 32)], none⟩]
def A_slices_pdqsortOrdered_string_5 : List AOper := [⟨some 34, .mov (.t 8), none⟩,
    ⟨some 35, .not (.t 34), none⟩]
def A_slices_pdqsortOrdered_string_6 : List AOper := [⟨some 36, .mov (.t 0), none⟩,
    ⟨some 37, .mov (.t 1), none⟩,
    ⟨some 38, .mov (.t 2), none⟩,
    ⟨some 39, .call 106 [(.t 36), (.t 37), (.t 38)], none⟩]
def A_slices_pdqsortOrdered_string_7 : List AOper := [⟨some 40, .mov (.t 3), none⟩,
    ⟨some 41, .bini .sub (.t 40) (.c (.int .i64 (1))), none⟩,
    ⟨some 3, .mov (.t 41), none⟩]
def A_slices_pdqsortOrdered_string_8 : List AOper := [⟨some 43, .mov (.t 0), none⟩,
    ⟨some 44, .mov (.t 1), none⟩,
    ⟨some 45, .mov (.t 2), none⟩,
    ⟨some 46, .call 107 [(.t 43), (.t 44), (.t 45)], none⟩,
    ⟨some 42, .mov (.t 46), none⟩,
    ⟨some 47, .ext 0 (.t 42), none⟩,
    ⟨some 48, .ext 1 (.t 42), none⟩,
    ⟨some 11, .mov (.t 47), none⟩,
    ⟨some 12, .mov (.t 48), none⟩]
def A_slices_pdqsortOrdered_string_9 : List AOper := [⟨some 49, .mov (.t 12), none⟩,
    ⟨some 50, .bini .eql (.t 49) (.c (.int .i64 (2))), none⟩]
def A_slices_pdqsortOrdered_string_10 : List AOper := [⟨some 51, .mov (.t 0), none⟩,
    ⟨some 52, .mov (.t 1), none⟩,
    ⟨some 53, .mov (.t 2), none⟩,
    ⟨some 54, .call 108 [(.t 51), (.t 52), (.t 53)], none⟩]
def A_slices_pdqsortOrdered_string_11 : List AOper := [⟨some 55, .mov (.t 2), none⟩,
    ⟨some 56, .bini .sub (.t 55) (.c (.int .i64 (1))), none⟩,
    ⟨some 57, .mov (.t 11), none⟩,
    ⟨some 58, .mov (.t 1), none⟩,
    ⟨some 59, .bini .sub (.t 57) (.t 58), none⟩,
    ⟨some 60, .bini .sub (.t 56) (.t 59), none⟩,
    ⟨some 11, .mov (.t 60), none⟩]
def A_slices_pdqsortOrdered_string_12 : List AOper := [⟨some 61, .mov (.t 8), none⟩,
    ⟨some 62, .mov (.t 61), none⟩,
    ⟨some 63, .mov (.t 9), some (62, true)⟩,
    ⟨some 64, .pick (.t 62) (.t 63) (.c (.bool false)), none⟩,
    ⟨some 65, .mov (.t 64), none⟩,
    ⟨some 66, .mov (.t 12), some (65, true)⟩,
    ⟨some 67, .bini .eql (.t 66) (.c (.int .i64 (1))), some (65, true)⟩,
    ⟨some 68, .pick (.t 65) (.t 67) (.c (.bool false)), none⟩]
def A_slices_pdqsortOrdered_string_13 : List AOper := [⟨some 69, .mov (.t 0), none⟩,
    ⟨some 70, .mov (.t 1), none⟩,
    ⟨some 71, .mov (.t 2), none⟩,
    ⟨some 72, .call 109 [(.t 69), (.t 70), (.t 71)], none⟩]
def A_slices_pdqsortOrdered_string_14 : List AOper := [⟨some 73, .mov (.t 1), none⟩,
    ⟨some 74, .bini .gtr (.t 73) (.c (.int .i64 (0))), none⟩,
    ⟨some 75, .mov (.t 74), none⟩,
    ⟨some 76, .mov (.t 0), some (75, true)⟩,
    ⟨some 77, .mov (.t 1), some (75, true)⟩,
    ⟨some 78, .bini .sub (.t 77) (.c (.int .i64 (1))), some (75, true)⟩,
    ⟨some 79, .iaddr 9 1 (.t 76) (.t 78), some (75, true)⟩,
    ⟨some 80, .ld1 (.t 79), some (75, true)⟩,
    ⟨some 81, .mov (.t 0), some (75, true)⟩,
    ⟨some 82, .mov (.t 11), some (75, true)⟩,
    ⟨some 83, .iaddr 9 1 (.t 81) (.t 82), some (75, true)⟩,
    ⟨some 84, .ld1 (.t 83), some (75, true)⟩,
    ⟨some 85, .call 110 [(.t 80), (.t 84)], some (75, true)⟩,
    ⟨some 86, .not (.t 85), some (75, true)⟩,
    ⟨some 87, .pick (.t 75) (.t 86) (.c (.bool false)), none⟩]
def A_slices_pdqsortOrdered_string_15 : List AOper := [⟨some 88, .mov (.t 0), none⟩,
    ⟨some 89, .mov (.t 1), none⟩,
    ⟨some 90, .mov (.t 2), none⟩,
    ⟨some 91, .mov (.t 11), none⟩,
    ⟨some 92, .call 111 [(.t 88), (.t 89), (.t 90), (.t 91)], none⟩,
    ⟨some 13, .mov (.t 92), none⟩]
def A_slices_pdqsortOrdered_string_16 : List AOper := [⟨some 93, .mov (.t 13), none⟩,
    ⟨some 1, .mov (.t 93), none⟩]
def A_slices_pdqsortOrdered_string_17 : List AOper := [⟨some 95, .mov (.t 0), none⟩,
    ⟨some 96, .mov (.t 1), none⟩,
    ⟨some 97, .mov (.t 2), none⟩,
    ⟨some 98, .mov (.t 11), none⟩,
    ⟨some 99, .call 112 [(.t 95), (.t 96), (.t 97), (.t 98)], none⟩,
    ⟨some 94, .mov (.t 99), none⟩,
    ⟨some 100, .ext 0 (.t 94), none⟩,
    ⟨some 101, .ext 1 (.t 94), none⟩,
    ⟨some 14, .mov (.t 100), none⟩,
    ⟨some 15, .mov (.t 101), none⟩]
def A_slices_pdqsortOrdered_string_18 : List AOper := [⟨some 102, .mov (.t 15), none⟩,
    ⟨some 9, .mov (.t 102), none⟩]
def A_slices_pdqsortOrdered_string_19 : List AOper := [⟨some 103, .mov (.t 14), none⟩,
    ⟨some 104, .mov (.t 1), none⟩,
    ⟨some 105, .bini .sub (.t 103) (.t 104), none⟩,
    ⟨some 106, .mov (.t 2), none⟩,
    ⟨some 107, .mov (.t 14), none⟩,
    ⟨some 108, .bini .sub (.t 106) (.t 107), none⟩,
    ⟨some 16, .mov (.t 105), none⟩,
    ⟨some 17, .mov (.t 108), none⟩]
def A_slices_pdqsortOrdered_string_20 : List AOper := [⟨some 109, .mov (.t 10), none⟩,
    ⟨some 110, .bini .quo (.t 109) (.c (.int .i64 (8))), none⟩,
    ⟨some 18, .mov (.t 110), none⟩]
def A_slices_pdqsortOrdered_string_21 : List AOper := [⟨some 111, .mov (.t 16), none⟩,
    ⟨some 112, .mov (.t 17), none⟩,
    ⟨some 113, .bini .lss (.t 111) (.t 112), none⟩]
def A_slices_pdqsortOrdered_string_22 : List AOper := [⟨some 114, .mov (.t 16), none⟩,
    ⟨some 115, .mov (.t 18), none⟩,
    ⟨some 116, .bini .geq (.t 114) (.t 115), none⟩,
    ⟨some 8, .mov (.t 116), none⟩]
def A_slices_pdqsortOrdered_string_23 : List AOper := [⟨some 117, .mov (.t 0), none⟩,
    ⟨some 118, .mov (.t 1), none⟩,
    ⟨some 119, .mov (.t 14), none⟩,
    ⟨some 120, .mov (.t 3), none⟩,
    ⟨some 121, .call 57 [(.t 117), (.t 118), (.t 119), (.t 120)], none⟩]
def A_slices_pdqsortOrdered_string_24 : List AOper := [⟨some 122, .mov (.t 14), none⟩,
    ⟨some 123, .bini .add (.t 122) (.c (.int .i64 (1))), none⟩,
    ⟨some 1, .mov (.t 123), none⟩]
def A_slices_pdqsortOrdered_string_25 : List AOper := [⟨some 124, .mov (.t 17), none⟩,
    ⟨some 125, .mov (.t 18), none⟩,
    ⟨some 126, .bini .geq (.t 124) (.t 125), none⟩,
    ⟨some 8, .mov (.t 126), none⟩]
def A_slices_pdqsortOrdered_string_26 : List AOper := [⟨some 127, .mov (.t 0), none⟩,
    ⟨some 128, .mov (.t 14), none⟩,
    ⟨some 129, .bini .add (.t 128) (.c (.int .i64 (1))), none⟩,
    ⟨some 130, .mov (.t 2), none⟩,
    ⟨some 131, .mov (.t 3), none⟩,
    ⟨some 132, .call 57 [(.t 127), (.t 129), (.t 130), (.t 131)], none⟩]
def A_slices_pdqsortOrdered_string_27 : List AOper := [⟨some 133, .mov (.t 14), none⟩,
    ⟨some 2, .mov (.t 133), none⟩]
def A_slices_pdqsortOrdered_string_28 : ACode := (.block 1 (.seq (.ops A_slices_pdqsortOrdered_string_0) (.seq (.seq (.ops A_slices_pdqsortOrdered_string_1) (.cond (.t 23) (.seq (.ops A_slices_pdqsortOrdered_string_2) .ret) .skip)) (.seq (.seq (.ops A_slices_pdqsortOrdered_string_3) (.cond (.t 29) (.seq (.ops A_slices_pdqsortOrdered_string_4) .ret) .skip)) (.seq (.seq (.ops A_slices_pdqsortOrdered_string_5) (.cond (.t 35) (.seq (.ops A_slices_pdqsortOrdered_string_6) (.ops A_slices_pdqsortOrdered_string_7)) .skip)) (.seq (.ops A_slices_pdqsortOrdered_string_8) (.seq (.seq (.ops A_slices_pdqsortOrdered_string_9) (.cond (.t 50) (.seq (.ops A_slices_pdqsortOrdered_string_10) (.seq (.ops A_slices_pdqsortOrdered_string_11) (.ops [⟨some 12, .mov (.c (.int .i64 (1))), none⟩]))) .skip)) (.seq (.seq (.ops A_slices_pdqsortOrdered_string_12) (.cond (.t 68) (.seq (.ops A_slices_pdqsortOrdered_string_13) (.cond (.t 72) .ret .skip)) .skip)) (.seq (.seq (.alts [73, 74, 75, 76, 77, 78, 79, 80, 81, 82, 83, 84, 85, 86, 87] [A_slices_pdqsortOrdered_string_14]) (.cond (.t 87) (.seq (.ops A_slices_pdqsortOrdered_string_15) (.seq (.ops A_slices_pdqsortOrdered_string_16) (.exit 1))) .skip)) (.seq (.ops A_slices_pdqsortOrdered_string_17) (.seq (.ops A_slices_pdqsortOrdered_string_18) (.seq (.ops A_slices_pdqsortOrdered_string_19) (.seq (.ops A_slices_pdqsortOrdered_string_20) (.seq (.ops A_slices_pdqsortOrdered_string_21) (.cond (.t 113) (.seq (.ops A_slices_pdqsortOrdered_string_22) (.seq (.ops A_slices_pdqsortOrdered_string_23) (.ops A_slices_pdqsortOrdered_string_24))) (.seq (.ops A_slices_pdqsortOrdered_string_25) (.seq (.ops A_slices_pdqsortOrdered_string_26) (.ops A_slices_pdqsortOrdered_string_27))))))))))))))))))
def A_slices_pdqsortOrdered_string : ACode := (.seq (.ops [⟨some 8, .mov (.c (.bool true)), none⟩]) (.seq (.ops [⟨some 9, .mov (.c (.bool true)), none⟩]) (.block 0 (.loop A_slices_pdqsortOrdered_string_28))))
def R_slices_pdqsortOrdered_string : List ARes := []
def T_slices_pdqsortOrdered_string : FC := ⟨134, A_slices_pdqsortOrdered_string, R_slices_pdqsortOrdered_string⟩

-- math/bits.Len
abbrev F_math_bits_Len : Nat := 58
def A_math_bits_Len_0 : List AOper := [⟨some 3, .mov (.t 0), none⟩,
    ⟨some 4, .conv .u32 (.t 3), none⟩,
    ⟨some 5, .call 113 [(.t 4)], none⟩,
    ⟨some 2, .mov (.t 5), none⟩]
def A_math_bits_Len_1 : List AOper := [⟨some 6, .mov (.t 0), none⟩,
    ⟨some 7, .call 114 [(.t 6)], none⟩,
    ⟨some 2, .mov (.t 7), none⟩]
def A_math_bits_Len : ACode := (.seq (.ops [⟨some 2, .mov (.c (.int .i64 (0))), none⟩]) (.seq (.cond (.c (.bool false)) (.seq (.ops A_math_bits_Len_0) .ret) .skip) (.seq (.ops A_math_bits_Len_1) .ret)))
def R_math_bits_Len : List ARes := [.tmp 2]
def T_math_bits_Len : FC := ⟨8, A_math_bits_Len, R_math_bits_Len⟩

-- lexicon/dyn.Check
abbrev F_dyn_Check : Nat := 59
def A_dyn_Check_0 : List AOper := [⟨some 3, .box 40 3 (.t 1), none⟩,
    ⟨some 4, .mov (.c (.int .i64 (0))), none⟩,
    ⟨some 5, .mov (.c (.str [])), none⟩]
def A_dyn_Check_1 : List AOper := [⟨some 8, .mov (.t 0), none⟩,
    ⟨some 9, .call 115 [], none⟩,
    ⟨some 10, .build [.nili, .nilf, .nilf, .nilf, .nilf, .nilf, .nilf, .nilf, .nilf, .nilf, .nilf, .nilf, .nilf, .nilf, .nilf, .nilf, .nilf, .nilf, .nilf, .nilf] [(0, 1, (.t 8)), (1, 19, (.t 9))], none⟩,
    ⟨some 11, .box 245 20 (.t 10), none⟩,
    ⟨some 6, .mov (.t 11), none⟩]
def A_dyn_Check_2 : List AOper := [⟨some 12, .mov (.t 6), none⟩,
    ⟨some 13, .lda 3 (.t 3), none⟩,
    ⟨some 14, .call 116 [(.t 12), (.t 13), (.c (.str [])), (.c (.int .i64 (1)))], none⟩,
    ⟨some 7, .mov (.t 14), none⟩]
def A_dyn_Check_3 : List AOper := [⟨some 15, .mov (.t 7), none⟩,
    ⟨some 16, .isnil .pt true (.t 15), none⟩]
def A_dyn_Check_4 : List AOper := [⟨some 17, .mov (.t 7), none⟩,
    ⟨some 18, .nilc (.t 17), none⟩,
    ⟨some 19, .faddr 0 (.t 18), none⟩,
    ⟨some 20, .ld1 (.t 19), none⟩,
    ⟨some 21, .mov (.t 7), none⟩,
    ⟨some 22, .nilc (.t 21), none⟩,
    ⟨some 23, .faddr 1 (.t 22), none⟩,
    ⟨some 24, .ld1 (.t 23), none⟩,
    ⟨some 4, .mov (.t 20), none⟩,
    ⟨some 5, .mov (.t 24), none⟩]
def A_dyn_Check_5 : List AOper := [⟨some 4, .mov (.c (.int .i64 (0))), none⟩,
    ⟨some 5, .mov (.c (.str [])), none⟩]
def A_dyn_Check : ACode := (.seq (.ops A_dyn_Check_0) (.seq (.ops A_dyn_Check_1) (.seq (.seq (.ops A_dyn_Check_2) (.seq (.ops A_dyn_Check_3) (.cond (.t 16) (.seq (.alts [17, 18, 19, 20, 21, 22, 23, 24, 4, 5] [A_dyn_Check_4]) .ret) .skip))) (.seq (.ops A_dyn_Check_5) .ret))))
def R_dyn_Check : List ARes := [.tmp 4, .tmp 5]
def T_dyn_Check : FC := ⟨25, A_dyn_Check, R_dyn_Check⟩

-- lexicon/dyn.normal
abbrev F_dyn_normal : Nat := 60
def A_dyn_normal_0 : List AOper := [⟨some 3, .box 40 3 (.t 1), none⟩,
    ⟨some 4, .box 40 3 (.c (.agg [.str [], .nils, .nils])), none⟩]
def A_dyn_normal_1 : List AOper := [⟨some 16, .mov (.t 0), none⟩,
    ⟨some 17, .faddr 0 (.t 3), none⟩,
    ⟨some 18, .ld1 (.t 17), none⟩,
    ⟨some 19, .inv [(35, 337)] (.t 16) [(.t 18)], none⟩,
    ⟨some 15, .mov (.t 19), none⟩,
    ⟨some 20, .ext 0 (.t 15), none⟩,
    ⟨some 21, .ext 1 (.t 15), none⟩,
    ⟨some 5, .mov (.t 20), none⟩,
    ⟨some 6, .mov (.t 21), none⟩]
def A_dyn_normal_2 : List AOper := [⟨some 22, .faddr 0 (.t 3), none⟩,
    ⟨some 23, .ld1 (.t 22), none⟩,
    ⟨some 24, .faddr 2 (.t 3), none⟩,
    ⟨some 25, .ld1 (.t 24), none⟩,
    ⟨some 26, .acall 69 [(.t 25)], none⟩,
    ⟨some 27, .build [.str [], .nils, .nils] [(0, 1, (.t 23)), (2, 1, (.t 26))], none⟩,
    ⟨some 7, .box 40 3 (.c (.agg [.str [], .nils, .nils])), none⟩,
    ⟨none, .st 3 (.t 7) (.t 27), none⟩]
def A_dyn_normal_3 : List AOper := [⟨some 28, .faddr 1 (.t 3), none⟩,
    ⟨some 29, .ld1 (.t 28), none⟩,
    ⟨some 30, .lenl (.t 29), none⟩,
    ⟨some 31, .mov (.c (.int .i64 (0))), none⟩]
def A_dyn_normal_4 : List AOper := [⟨some 33, .iaddr 49 3 (.t 29) (.t 31), none⟩,
    ⟨some 34, .lda 3 (.t 33), none⟩,
    ⟨some 9, .box 49 3 (.c (.agg [.int .i32 (0), .nils, .nils])), none⟩,
    ⟨none, .st 3 (.t 9) (.t 34), none⟩]
def A_dyn_normal_5 : List AOper := [⟨some 36, .mov (.t 5), none⟩,
    ⟨some 37, .faddr 0 (.t 9), none⟩,
    ⟨some 38, .ld1 (.t 37), none⟩,
    ⟨some 39, .call 70 [(.t 36), (.t 38)], none⟩,
    ⟨some 35, .mov (.t 39), none⟩,
    ⟨some 40, .ext 0 (.t 35), none⟩,
    ⟨some 41, .ext 1 (.t 35), none⟩,
    ⟨some 10, .box 170 9 (.c (.agg [.int .i32 (0), .str [], .str [], .int .u8 (0), .int .u8 (0), .int .u8 (0), .bool false, .int .i64 (0), .str []])), none⟩,
    ⟨none, .st 9 (.t 10) (.t 40), none⟩,
    ⟨some 11, .mov (.t 41), none⟩]
def A_dyn_normal_6 : List AOper := [⟨some 42, .lda 9 (.t 10), none⟩,
    ⟨some 43, .call 117 [(.t 42)], none⟩,
    ⟨some 44, .mov (.t 43), none⟩,
    ⟨some 45, .faddr 2 (.t 9), some (44, true)⟩,
    ⟨some 46, .ld1 (.t 45), some (44, true)⟩,
    ⟨some 47, .iaddr 46 3 (.t 46) (.c (.int .i64 (0))), some (44, true)⟩,
    ⟨some 48, .lda 3 (.t 47), some (44, true)⟩,
    ⟨some 49, .call 118 [(.t 48)], some (44, true)⟩,
    ⟨some 50, .pick (.t 44) (.t 49) (.c (.bool false)), none⟩]
def A_dyn_normal_7 : List AOper := [⟨some 51, .faddr 0 (.t 9), none⟩,
    ⟨some 52, .ld1 (.t 51), none⟩,
    ⟨some 53, .faddr 1 (.t 9), none⟩,
    ⟨some 54, .ld1 (.t 53), none⟩,
    ⟨some 55, .acall 119 [(.t 54)], none⟩,
    ⟨some 56, .build [.int .i32 (0), .nils, .nils] [(0, 1, (.t 52)), (1, 1, (.t 55))], none⟩,
    ⟨some 12, .box 49 3 (.c (.agg [.int .i32 (0), .nils, .nils])), none⟩,
    ⟨none, .st 3 (.t 12) (.t 56), none⟩]
def A_dyn_normal_8 : List AOper := [⟨some 57, .faddr 2 (.t 9), none⟩,
    ⟨some 58, .ld1 (.t 57), none⟩,
    ⟨some 59, .lenl (.t 58), none⟩,
    ⟨some 60, .mov (.c (.int .i64 (0))), none⟩]
def A_dyn_normal_9 : List AOper := [⟨some 62, .iaddr 46 3 (.t 58) (.t 60), none⟩,
    ⟨some 63, .lda 3 (.t 62), none⟩,
    ⟨some 14, .box 46 3 (.c (.agg [.int .u64 (0), .str [], .nils])), none⟩,
    ⟨none, .st 3 (.t 14) (.t 63), none⟩]
def A_dyn_normal_10 : List AOper := [⟨some 64, .faddr 2 (.t 12), none⟩,
    ⟨some 65, .ld1 (.t 64), none⟩,
    ⟨some 66, .mov (.t 0), none⟩,
    ⟨some 67, .lda 3 (.t 14), none⟩,
    ⟨some 68, .acall 120 [(.t 66), (.t 67)], none⟩,
    ⟨some 69, .bslice 46 3 1 [.int .u64 (0), .str [], .nils] [(0, 3, (.t 68))], none⟩,
    ⟨some 70, .app 46 3 48 (.t 65) (.t 69), none⟩,
    ⟨some 71, .faddr 2 (.t 12), none⟩,
    ⟨none, .st 1 (.t 71) (.t 70), none⟩]
def A_dyn_normal_11 : List AOper := [⟨some 72, .bini .add (.t 60) (.c (.int .i64 (1))), none⟩,
    ⟨some 60, .mov (.t 72), none⟩]
def A_dyn_normal_12 : ACode := (.seq (.ops [⟨some 61, .bini .lss (.t 60) (.t 59), none⟩]) (.seq (.cond (.t 61) .skip (.exit 2)) (.seq (.block 3 (.seq (.ops A_dyn_normal_9) (.alts [64, 65, 66, 67, 68, 69, 70, 71] [A_dyn_normal_10]))) (.ops A_dyn_normal_11))))
def A_dyn_normal_13 : List AOper := [⟨some 73, .faddr 3 (.t 10), none⟩,
    ⟨some 74, .ld1 (.t 73), none⟩,
    ⟨some 75, .bini .eql (.t 74) (.c (.int .u8 (4))), none⟩]
def A_dyn_normal_14 : List AOper := [⟨some 76, .lda 9 (.t 10), none⟩,
    ⟨some 77, .lda 3 (.t 12), none⟩,
    ⟨some 78, .call 121 [(.t 76), (.t 77)], none⟩,
    ⟨none, .st 3 (.t 12) (.t 78), none⟩]
def A_dyn_normal_15 : List AOper := [⟨some 79, .faddr 1 (.t 7), none⟩,
    ⟨some 80, .ld1 (.t 79), none⟩,
    ⟨some 81, .lda 3 (.t 12), none⟩,
    ⟨some 82, .bslice 49 3 1 [.int .i32 (0), .nils, .nils] [(0, 3, (.t 81))], none⟩,
    ⟨some 83, .app 49 3 56 (.t 80) (.t 82), none⟩,
    ⟨some 84, .faddr 1 (.t 7), none⟩,
    ⟨none, .st 1 (.t 84) (.t 83), none⟩]
def A_dyn_normal_16 : List AOper := [⟨some 85, .bini .add (.t 31) (.c (.int .i64 (1))), none⟩,
    ⟨some 31, .mov (.t 85), none⟩]
def A_dyn_normal_17 : ACode := (.seq (.ops [⟨some 32, .bini .lss (.t 31) (.t 30), none⟩]) (.seq (.cond (.t 32) .skip (.exit 0)) (.seq (.block 1 (.seq (.ops A_dyn_normal_4) (.seq (.ops A_dyn_normal_5) (.seq (.seq (.ops A_dyn_normal_6) (.cond (.t 50) (.exit 1) .skip)) (.seq (.alts [51, 52, 53, 54, 55, 56, 12] [A_dyn_normal_7]) (.seq (.seq (.ops A_dyn_normal_8) (.block 2 (.loop A_dyn_normal_12))) (.seq (.seq (.ops A_dyn_normal_13) (.cond (.t 75) (.ops A_dyn_normal_14) .skip)) (.ops A_dyn_normal_15)))))))) (.ops A_dyn_normal_16))))
def A_dyn_normal_18 : List AOper := [⟨some 86, .lda 3 (.t 7), none⟩,
    ⟨none, .st 3 (.t 4) (.t 86), none⟩]
def A_dyn_normal : ACode := (.seq (.ops A_dyn_normal_0) (.seq (.ops A_dyn_normal_1) (.seq (.alts [22, 23, 24, 25, 26, 27, 7] [A_dyn_normal_2]) (.seq (.seq (.ops A_dyn_normal_3) (.block 0 (.loop A_dyn_normal_17))) (.seq (.ops A_dyn_normal_18) .ret)))))
def R_dyn_normal : List ARes := [.cella 4 3]
def T_dyn_normal : FC := ⟨87, A_dyn_normal, R_dyn_normal⟩

-- lexicon/decode.ways$1
abbrev F_decode_ways_c1 : Nat := 61
def A_decode_ways_c1_0 : List AOper := [⟨some 2, .box 170 9 (.t 0), none⟩,
    ⟨some 4, .mov (.c (.bool false)), none⟩]
def A_decode_ways_c1_1 : List AOper := [⟨some 5, .faddr 3 (.t 2), none⟩,
    ⟨some 6, .ld1 (.t 5), none⟩,
    ⟨some 7, .bini .eql (.t 6) (.c (.int .u8 (4))), none⟩,
    ⟨some 8, .mov (.t 7), none⟩,
    ⟨some 9, .mov (.t 1), some (8, true)⟩,
    ⟨some 10, .bini .eql (.t 9) (.c (.int .u8 (2))), some (8, true)⟩,
    ⟨some 11, .pick (.t 8) (.t 10) (.c (.bool false)), none⟩,
    ⟨some 4, .mov (.t 11), none⟩]
def A_decode_ways_c1 : ACode := (.seq (.ops A_decode_ways_c1_0) (.seq (.ops A_decode_ways_c1_1) .ret))
def R_decode_ways_c1 : List ARes := [.tmp 4]
def T_decode_ways_c1 : FC := ⟨12, A_decode_ways_c1, R_decode_ways_c1⟩

-- lexicon/decode.ways$2
abbrev F_decode_ways_c2 : Nat := 63
def A_decode_ways_c2_0 : List AOper := [⟨some 2, .box 170 9 (.t 0), none⟩,
    ⟨some 4, .mov (.c (.bool false)), none⟩]
def A_decode_ways_c2_1 : List AOper := [⟨some 5, .faddr 3 (.t 2), none⟩,
    ⟨some 6, .ld1 (.t 5), none⟩,
    ⟨some 7, .bini .neq (.t 6) (.c (.int .u8 (4))), none⟩,
    ⟨some 8, .mov (.t 7), none⟩,
    ⟨some 9, .mov (.t 1), some (8, true)⟩,
    ⟨some 10, .faddr 4 (.t 2), some (8, true)⟩,
    ⟨some 11, .ld1 (.t 10), some (8, true)⟩,
    ⟨some 12, .call 64 [(.t 11)], some (8, true)⟩,
    ⟨some 13, .bini .eql (.t 9) (.t 12), some (8, true)⟩,
    ⟨some 14, .pick (.t 8) (.t 13) (.c (.bool false)), none⟩,
    ⟨some 4, .mov (.t 14), none⟩]
def A_decode_ways_c2 : ACode := (.seq (.ops A_decode_ways_c2_0) (.seq (.ops A_decode_ways_c2_1) .ret))
def R_decode_ways_c2 : List ARes := [.tmp 4]
def T_decode_ways_c2 : FC := ⟨15, A_decode_ways_c2, R_decode_ways_c2⟩

-- lexicon/decode.own
abbrev F_decode_own : Nat := 64
def A_decode_own_0 : List AOper := [⟨some 5, .bini .eql (.t 3) (.c (.int .u8 (1))), none⟩,
    ⟨some 4, .mov (.t 5), none⟩]
def A_decode_own_1 : List AOper := [⟨some 6, .bini .eql (.t 3) (.c (.int .u8 (6))), none⟩,
    ⟨some 4, .mov (.t 6), none⟩]
def A_decode_own_2 : List AOper := [⟨some 7, .bini .eql (.t 3) (.c (.int .u8 (16))), none⟩,
    ⟨some 4, .mov (.t 7), none⟩]
def A_decode_own_3 : List AOper := [⟨some 9, .bini .eql (.t 3) (.c (.int .u8 (2))), none⟩,
    ⟨some 8, .mov (.t 9), none⟩]
def A_decode_own_4 : List AOper := [⟨some 10, .bini .eql (.t 3) (.c (.int .u8 (7))), none⟩,
    ⟨some 8, .mov (.t 10), none⟩]
def A_decode_own_5 : List AOper := [⟨some 11, .bini .eql (.t 3) (.c (.int .u8 (15))), none⟩,
    ⟨some 8, .mov (.t 11), none⟩]
def A_decode_own_6 : List AOper := [⟨some 13, .bini .eql (.t 3) (.c (.int .u8 (9))), none⟩,
    ⟨some 12, .mov (.t 13), none⟩]
def A_decode_own_7 : List AOper := [⟨some 14, .bini .eql (.t 3) (.c (.int .u8 (12))), none⟩,
    ⟨some 12, .mov (.t 14), none⟩]
def A_decode_own_8 : List AOper := [⟨some 15, .bini .eql (.t 3) (.c (.int .u8 (11))), none⟩,
    ⟨some 12, .mov (.t 15), none⟩]
def A_decode_own : ACode := (.seq (.ops [⟨some 2, .mov (.c (.int .u8 (0))), none⟩]) (.seq (.seq (.ops [⟨some 3, .mov (.t 0), none⟩]) (.block 0 (.seq (.seq (.ops A_decode_own_0) (.cond (.t 4) .skip (.seq (.ops A_decode_own_1) (.cond (.t 4) .skip (.ops A_decode_own_2))))) (.cond (.t 4) (.seq (.ops [⟨some 2, .mov (.c (.int .u8 (1))), none⟩]) .ret) (.seq (.seq (.ops A_decode_own_3) (.cond (.t 8) .skip (.seq (.ops A_decode_own_4) (.cond (.t 8) .skip (.ops A_decode_own_5))))) (.cond (.t 8) (.seq (.ops [⟨some 2, .mov (.c (.int .u8 (5))), none⟩]) .ret) (.seq (.seq (.ops A_decode_own_6) (.cond (.t 12) .skip (.seq (.ops A_decode_own_7) (.cond (.t 12) .skip (.ops A_decode_own_8))))) (.cond (.t 12) (.seq (.ops [⟨some 2, .mov (.c (.int .u8 (2))), none⟩]) .ret) .skip)))))))) (.seq (.ops [⟨some 2, .mov (.c (.int .u8 (0))), none⟩]) .ret)))
def R_decode_own : List ARes := [.tmp 2]
def T_decode_own : FC := ⟨16, A_decode_own, R_decode_own⟩

-- (*lexicon/decode.decoder).one
abbrev F_decode_decoder_one : Nat := 65
def A_decode_decoder_one_0 : List AOper := [⟨some 15, .faddr 4 (.t 8), none⟩,
    ⟨some 16, .ld1 (.t 15), none⟩,
    ⟨some 17, .bini .eql (.t 16) (.c (.int .u8 (11))), none⟩]
def A_decode_decoder_one_1 : List AOper := [⟨some 18, .mov (.t 0), none⟩,
    ⟨some 19, .faddr 8 (.t 8), none⟩,
    ⟨some 20, .ld1 (.t 19), none⟩,
    ⟨some 21, .mov (.t 4), none⟩,
    ⟨some 22, .mov (.t 5), none⟩,
    ⟨some 23, .call 122 [(.t 18), (.t 20), (.t 21), (.t 22)], none⟩,
    ⟨some 24, .faddr 3 (.t 12), none⟩,
    ⟨none, .st 1 (.t 24) (.t 23), none⟩]
def A_decode_decoder_one_2 : List AOper := [⟨some 25, .mov (.t 1), none⟩,
    ⟨some 26, .nilc (.t 25), none⟩,
    ⟨some 27, .faddr 1 (.t 26), none⟩,
    ⟨some 28, .ld1 (.t 27), none⟩,
    ⟨some 29, .faddr 0 (.t 8), none⟩,
    ⟨some 30, .ld1 (.t 29), none⟩,
    ⟨some 31, .mlook .i (.nilp) false (.t 28) (.t 30), none⟩,
    ⟨some 13, .mov (.t 31), none⟩]
def A_decode_decoder_one_3 : List AOper := [⟨some 32, .mov (.t 13), none⟩,
    ⟨some 33, .isnil .pt true (.t 32), none⟩,
    ⟨some 34, .mov (.t 33), none⟩,
    ⟨some 35, .faddr 3 (.t 8), some (34, true)⟩,
    ⟨some 36, .ld1 (.t 35), some (34, true)⟩,
    ⟨some 37, .bini .neq (.t 36) (.c (.int .u8 (3))), some (34, true)⟩,
    ⟨some 38, .pick (.t 34) (.t 37) (.c (.bool false)), none⟩]
def A_decode_decoder_one_4 : List AOper := [⟨some 39, .mov (.t 13), none⟩,
    ⟨some 40, .nilc (.t 39), none⟩,
    ⟨some 41, .faddr 10 (.t 40), none⟩,
    ⟨some 42, .ld1 (.t 41), none⟩,
    ⟨some 43, .iaddr 195 4 (.t 42) (.c (.int .i64 (0))), none⟩,
    ⟨some 44, .faddr 3 (.t 43), none⟩,
    ⟨some 45, .ld1 (.t 44), none⟩,
    ⟨some 46, .faddr 3 (.t 12), none⟩,
    ⟨none, .st 1 (.t 46) (.t 45), none⟩]
def A_decode_decoder_one_5 : List AOper := [⟨some 47, .mov (.t 0), none⟩,
    ⟨some 48, .faddr 3 (.t 12), none⟩,
    ⟨some 50, .mov (.t 3), none⟩,
    ⟨some 52, .mov (.t 4), none⟩,
    ⟨some 53, .bini .add (.t 52) (.c (.int .i64 (1))), none⟩,
    ⟨some 49, .ld1 (.t 48), none⟩,
    ⟨some 51, .call 123 [(.t 50)], none⟩,
    ⟨some 54, .call 35 [(.t 47), (.t 49), (.t 51), (.t 53)], none⟩]
def A_decode_decoder_one_6 : List AOper := [⟨some 47, .mov (.t 0), none⟩,
    ⟨some 48, .faddr 3 (.t 12), none⟩,
    ⟨some 50, .mov (.t 3), none⟩,
    ⟨some 52, .mov (.t 4), none⟩,
    ⟨some 53, .bini .add (.t 52) (.c (.int .i64 (1))), none⟩,
    ⟨some 51, .call 123 [(.t 50)], none⟩,
    ⟨some 49, .ld1 (.t 48), none⟩,
    ⟨some 54, .call 35 [(.t 47), (.t 49), (.t 51), (.t 53)], none⟩]
def A_decode_decoder_one_7 : List AOper := [⟨some 55, .faddr 4 (.t 8), none⟩,
    ⟨some 56, .ld1 (.t 55), none⟩,
    ⟨some 57, .mov (.t 3), none⟩,
    ⟨some 58, .call 124 [(.t 56), (.t 57)], none⟩,
    ⟨some 59, .faddr 0 (.t 12), none⟩,
    ⟨none, .st 3 (.t 59) (.t 58), none⟩]
def A_decode_decoder_one_8 : List AOper := [⟨some 60, .faddr 7 (.t 8), none⟩,
    ⟨some 61, .ld1 (.t 60), none⟩,
    ⟨some 62, .bini .neq (.t 61) (.c (.int .i64 (0))), none⟩]
def A_decode_decoder_one_9 : List AOper := [⟨some 63, .mov (.t 1), none⟩,
    ⟨some 64, .nilc (.t 63), none⟩,
    ⟨some 65, .faddr 1 (.t 64), none⟩,
    ⟨some 66, .ld1 (.t 65), none⟩,
    ⟨some 67, .mkfn 126 [] [(.t 8)], none⟩,
    ⟨some 68, .call 125 [(.t 66), (.t 67)], none⟩]
def A_decode_decoder_one_10 : List AOper := [⟨some 69, .mov (.t 1), none⟩,
    ⟨some 70, .lda 9 (.t 8), none⟩,
    ⟨some 71, .call 71 [(.t 69), (.t 70)], none⟩,
    ⟨some 14, .mov (.t 71), none⟩]
def A_decode_decoder_one_11 : List AOper := [⟨some 72, .faddr 3 (.t 8), none⟩,
    ⟨some 73, .ld1 (.t 72), none⟩,
    ⟨some 74, .bini .neq (.t 73) (.c (.int .u8 (3))), none⟩]
def A_decode_decoder_one_12 : List AOper := [⟨some 75, .mov (.t 14), none⟩,
    ⟨some 76, .nilc (.t 75), none⟩,
    ⟨some 77, .faddr 10 (.t 76), none⟩,
    ⟨none, .st 1 (.t 77) (.c (.nils)), none⟩]
def A_decode_decoder_one_13 : List AOper := [⟨some 78, .mov (.t 14), none⟩,
    ⟨some 79, .mov (.t 14), none⟩,
    ⟨some 80, .nilc (.t 79), none⟩,
    ⟨some 81, .faddr 10 (.t 80), none⟩,
    ⟨some 82, .ld1 (.t 81), none⟩,
    ⟨some 83, .lda 4 (.t 12), none⟩,
    ⟨some 84, .bslice 195 4 1 [.int .u64 (0), .str [], .nils, .nilp] [(0, 4, (.t 83))], none⟩,
    ⟨some 85, .app 195 4 56 (.t 82) (.t 84), none⟩,
    ⟨some 86, .nilc (.t 78), none⟩,
    ⟨some 87, .faddr 10 (.t 86), none⟩,
    ⟨none, .st 1 (.t 87) (.t 85), none⟩]
def A_decode_decoder_one : ACode := (.seq (.ops [⟨some 8, .box 170 9 (.t 2), none⟩]) (.seq (.ops [⟨some 12, .box 195 4 (.c (.agg [.int .u64 (0), .str [], .nils, .nilp])), none⟩]) (.seq (.seq (.ops A_decode_decoder_one_0) (.cond (.t 17) (.seq (.ops A_decode_decoder_one_1) (.seq (.seq (.alts [25, 26, 27, 28, 29, 30, 31, 13] [A_decode_decoder_one_2]) (.seq (.ops A_decode_decoder_one_3) (.cond (.t 38) (.ops A_decode_decoder_one_4) .skip))) (.alts [47, 48, 49, 50, 51, 52, 53, 54] [A_decode_decoder_one_5, A_decode_decoder_one_6]))) (.ops A_decode_decoder_one_7))) (.seq (.seq (.ops A_decode_decoder_one_8) (.cond (.t 62) (.ops A_decode_decoder_one_9) .skip)) (.seq (.ops A_decode_decoder_one_10) (.seq (.seq (.ops A_decode_decoder_one_11) (.cond (.t 74) (.ops A_decode_decoder_one_12) .skip)) (.alts [78, 79, 80, 81, 82, 83, 84, 85, 86, 87] [A_decode_decoder_one_13])))))))
def R_decode_decoder_one : List ARes := []
def T_decode_decoder_one : FC := ⟨88, A_decode_decoder_one, R_decode_decoder_one⟩

-- lexicon/decode.ways$3
abbrev F_decode_ways_c3 : Nat := 66
def A_decode_ways_c3_0 : List AOper := [⟨some 2, .box 170 9 (.t 0), none⟩,
    ⟨some 4, .mov (.c (.bool false)), none⟩]
def A_decode_ways_c3_1 : List AOper := [⟨some 5, .faddr 3 (.t 2), none⟩,
    ⟨some 6, .ld1 (.t 5), none⟩,
    ⟨some 7, .bini .eql (.t 6) (.c (.int .u8 (3))), none⟩,
    ⟨some 8, .mov (.t 7), none⟩,
    ⟨some 9, .mov (.t 1), some (8, true)⟩,
    ⟨some 10, .bini .eql (.t 9) (.c (.int .u8 (2))), some (8, true)⟩,
    ⟨some 11, .pick (.t 8) (.t 10) (.c (.bool false)), none⟩,
    ⟨some 4, .mov (.t 11), none⟩]
def A_decode_ways_c3 : ACode := (.seq (.ops A_decode_ways_c3_0) (.seq (.ops A_decode_ways_c3_1) .ret))
def R_decode_ways_c3 : List ARes := [.tmp 4]
def T_decode_ways_c3 : FC := ⟨12, A_decode_ways_c3, R_decode_ways_c3⟩

-- (*lexicon/decode.decoder).run
abbrev F_decode_decoder_run : Nat := 67
def A_decode_decoder_run_0 : List AOper := [⟨some 15, .mov (.t 3), none⟩,
    ⟨some 16, .call 123 [(.t 15)], none⟩,
    ⟨some 12, .mov (.t 16), none⟩]
def A_decode_decoder_run_1 : List AOper := [⟨some 17, .mov (.t 12), none⟩,
    ⟨some 18, .call 73 [(.t 17)], none⟩,
    ⟨some 19, .bini .gtr (.t 18) (.c (.int .i64 (0))), none⟩]
def A_decode_decoder_run_2 : List AOper := [⟨some 20, .faddr 4 (.t 8), none⟩,
    ⟨some 21, .ld1 (.t 20), none⟩,
    ⟨some 22, .mov (.t 12), none⟩,
    ⟨some 23, .call 127 [(.t 21), (.t 22)], none⟩,
    ⟨some 13, .box 46 3 (.c (.agg [.int .u64 (0), .str [], .nils])), none⟩,
    ⟨none, .st 3 (.t 13) (.t 23), none⟩]
def A_decode_decoder_run_3 : List AOper := [⟨some 24, .mov (.t 1), none⟩,
    ⟨some 25, .lda 9 (.t 8), none⟩,
    ⟨some 26, .call 71 [(.t 24), (.t 25)], none⟩,
    ⟨some 14, .mov (.t 26), none⟩]
def A_decode_decoder_run_4 : List AOper := [⟨some 27, .mov (.t 14), none⟩,
    ⟨some 28, .mov (.t 14), none⟩,
    ⟨some 29, .nilc (.t 28), none⟩,
    ⟨some 30, .faddr 10 (.t 29), none⟩,
    ⟨some 31, .ld1 (.t 30), none⟩,
    ⟨some 32, .lda 3 (.t 13), none⟩,
    ⟨some 33, .build [.int .u64 (0), .str [], .nils, .nilp] [(0, 3, (.t 32))], none⟩,
    ⟨some 34, .bslice 195 4 1 [.int .u64 (0), .str [], .nils, .nilp] [(0, 4, (.t 33))], none⟩,
    ⟨some 35, .app 195 4 56 (.t 31) (.t 34), none⟩,
    ⟨some 36, .nilc (.t 27), none⟩,
    ⟨some 37, .faddr 10 (.t 36), none⟩,
    ⟨none, .st 1 (.t 37) (.t 35), none⟩]
def A_decode_decoder_run_5 : ACode := (.seq (.seq (.ops A_decode_decoder_run_1) (.cond (.t 19) .skip (.exit 0))) (.block 1 (.seq (.ops A_decode_decoder_run_2) (.seq (.ops A_decode_decoder_run_3) (.alts [27, 28, 29, 30, 31, 32, 33, 34, 35, 36, 37] [A_decode_decoder_run_4])))))
def A_decode_decoder_run : ACode := (.seq (.ops [⟨some 8, .box 170 9 (.t 2), none⟩]) (.seq (.ops A_decode_decoder_run_0) (.block 0 (.loop A_decode_decoder_run_5))))
def R_decode_decoder_run : List ARes := []
def T_decode_decoder_run : FC := ⟨38, A_decode_decoder_run, R_decode_decoder_run⟩

-- (*lexicon/decode.decoder).empty
abbrev F_decode_decoder_empty : Nat := 68
def A_decode_decoder_empty_0 : List AOper := [⟨some 10, .mov (.t 0), none⟩,
    ⟨some 11, .nilc (.t 10), none⟩,
    ⟨some 12, .faddr 0 (.t 11), none⟩,
    ⟨some 13, .ld1 (.t 12), none⟩,
    ⟨some 14, .mov (.t 1), none⟩,
    ⟨some 15, .inv [(35, 337)] (.t 13) [(.t 14)], none⟩,
    ⟨some 9, .mov (.t 15), none⟩,
    ⟨some 16, .ext 0 (.t 9), none⟩,
    ⟨some 17, .ext 1 (.t 9), none⟩,
    ⟨some 7, .mov (.t 16), none⟩,
    ⟨some 8, .mov (.t 17), none⟩]
def A_decode_decoder_empty_1 : List AOper := [⟨some 18, .mov (.t 8), none⟩,
    ⟨some 19, .bini .neq (.t 18) (.c (.int .i64 (0))), none⟩]
def A_decode_decoder_empty_2 : List AOper := [⟨some 20, .mov (.t 8), none⟩,
    ⟨some 21, .mov (.t 2), none⟩,
    ⟨some 22, .build [.int .i64 (0), .int .i64 (0)] [(0, 1, (.t 20)), (1, 1, (.t 21))], none⟩,
    ⟨some 23, .mkifc 117 (.t 22), none⟩,
    ⟨none, .pan (.t 23), none⟩]
def A_decode_decoder_empty_3 : List AOper := [⟨some 24, .mov (.t 7), none⟩,
    ⟨some 25, .mkmap, none⟩,
    ⟨some 26, .build [.nilp, .nilm, .nils] [(0, 1, (.t 24)), (1, 1, (.t 25))], none⟩,
    ⟨some 27, .box 182 3 (.t 26), none⟩,
    ⟨some 6, .mov (.t 27), none⟩]
def A_decode_decoder_empty : ACode := (.seq (.ops [⟨some 6, .mov (.c (.nilp)), none⟩]) (.seq (.ops A_decode_decoder_empty_0) (.seq (.seq (.ops A_decode_decoder_empty_1) (.cond (.t 19) (.ops A_decode_decoder_empty_2) .skip)) (.seq (.ops A_decode_decoder_empty_3) .ret))))
def R_decode_decoder_empty : List ARes := [.tmp 6]
def T_decode_decoder_empty : FC := ⟨28, A_decode_decoder_empty, R_decode_decoder_empty⟩

-- slices.Clone[[]byte,byte]
abbrev F_slices_Clone_byte_byte : Nat := 69
def A_slices_Clone_byte_byte_0 : List AOper := [⟨some 3, .mov (.t 0), none⟩,
    ⟨some 4, .isnil .sl false (.t 3), none⟩]
def A_slices_Clone_byte_byte_1 : List AOper := [⟨some 5, .bslice0 5, none⟩,
    ⟨some 6, .mov (.t 0), none⟩,
    ⟨some 7, .app 5 1 1 (.t 5) (.t 6), none⟩,
    ⟨some 2, .mov (.t 7), none⟩]
def A_slices_Clone_byte_byte : ACode := (.seq (.ops [⟨some 2, .mov (.c (.nils)), none⟩]) (.seq (.seq (.ops A_slices_Clone_byte_byte_0) (.cond (.t 4) (.seq (.ops [⟨some 2, .mov (.c (.nils)), none⟩]) .ret) .skip)) (.seq (.ops A_slices_Clone_byte_byte_1) .ret)))
def R_slices_Clone_byte_byte : List ARes := [.tmp 2]
def T_slices_Clone_byte_byte : FC := ⟨8, A_slices_Clone_byte_byte, R_slices_Clone_byte_byte⟩

-- (*lexicon/table.Table).Find
abbrev F_table_Table_Find : Nat := 70
def A_table_Table_Find_0 : List AOper := [⟨some 4, .box 170 9 (.c (.agg [.int .i32 (0), .str [], .str [], .int .u8 (0), .int .u8 (0), .int .u8 (0), .bool false, .int .i64 (0), .str []])), none⟩,
    ⟨some 5, .mov (.c (.bool false)), none⟩]
def A_table_Table_Find_1 : List AOper := [⟨some 9, .mov (.t 0), none⟩,
    ⟨some 10, .nilc (.t 9), none⟩,
    ⟨some 11, .faddr 3 (.t 10), none⟩,
    ⟨some 12, .ld1 (.t 11), none⟩,
    ⟨some 13, .mov (.t 1), none⟩,
    ⟨some 14, .mlook .i (.int .i64 (0)) true (.t 12) (.t 13), none⟩,
    ⟨some 8, .mov (.t 14), none⟩,
    ⟨some 15, .ext 0 (.t 8), none⟩,
    ⟨some 16, .ext 1 (.t 8), none⟩,
    ⟨some 6, .mov (.t 15), none⟩,
    ⟨some 7, .mov (.t 16), none⟩]
def A_table_Table_Find_2 : List AOper := [⟨some 17, .mov (.t 0), none⟩,
    ⟨some 18, .mov (.t 6), none⟩,
    ⟨some 19, .mov (.t 7), none⟩,
    ⟨some 20, .call 128 [(.t 17), (.t 18), (.t 19)], none⟩,
    ⟨some 21, .ext 0 (.t 20), none⟩,
    ⟨some 22, .ext 1 (.t 20), none⟩,
    ⟨none, .st 9 (.t 4) (.t 21), none⟩,
    ⟨some 5, .mov (.t 22), none⟩]
def A_table_Table_Find : ACode := (.seq (.ops A_table_Table_Find_0) (.seq (.ops A_table_Table_Find_1) (.seq (.ops A_table_Table_Find_2) .ret)))
def R_table_Table_Find : List ARes := [.cella 4 9, .tmp 5]
def T_table_Table_Find : FC := ⟨23, A_table_Table_Find, R_table_Table_Find⟩

-- (*lexicon/decode.node).field
abbrev F_decode_node_field : Nat := 71
def A_decode_node_field_0 : List AOper := [⟨some 3, .box 170 9 (.t 1), none⟩,
    ⟨some 4, .mov (.c (.nilp)), none⟩]
def A_decode_node_field_1 : List AOper := [⟨some 6, .mov (.t 0), none⟩,
    ⟨some 7, .nilc (.t 6), none⟩,
    ⟨some 8, .faddr 1 (.t 7), none⟩,
    ⟨some 9, .ld1 (.t 8), none⟩,
    ⟨some 10, .faddr 0 (.t 3), none⟩,
    ⟨some 11, .ld1 (.t 10), none⟩,
    ⟨some 12, .mlook .i (.nilp) false (.t 9) (.t 11), none⟩,
    ⟨some 5, .mov (.t 12), none⟩]
def A_decode_node_field_2 : List AOper := [⟨some 13, .mov (.t 5), none⟩,
    ⟨some 14, .isnil .pt false (.t 13), none⟩]
def A_decode_node_field_3 : List AOper := [⟨some 15, .lda 9 (.t 3), none⟩,
    ⟨some 16, .mkmap, none⟩,
    ⟨some 17, .build [.int .i32 (0), .str [], .str [], .int .u8 (0), .int .u8 (0), .int .u8 (0), .bool false, .int .i64 (0), .str [], .nils, .nils, .nilm] [(0, 9, (.t 15)), (11, 1, (.t 16))], none⟩,
    ⟨some 18, .box 191 12 (.t 17), none⟩,
    ⟨some 5, .mov (.t 18), none⟩]
def A_decode_node_field_4 : List AOper := [⟨some 19, .mov (.t 0), none⟩,
    ⟨some 20, .nilc (.t 19), none⟩,
    ⟨some 21, .faddr 1 (.t 20), none⟩,
    ⟨some 22, .ld1 (.t 21), none⟩,
    ⟨some 23, .faddr 0 (.t 3), none⟩,
    ⟨some 24, .ld1 (.t 23), none⟩,
    ⟨some 25, .mov (.t 5), none⟩,
    ⟨none, .mupd .i (.t 22) (.t 24) (.t 25), none⟩]
def A_decode_node_field_5 : List AOper := [⟨some 26, .mov (.t 5), none⟩,
    ⟨some 4, .mov (.t 26), none⟩]
def A_decode_node_field : ACode := (.seq (.ops A_decode_node_field_0) (.seq (.alts [6, 7, 8, 9, 10, 11, 12, 5] [A_decode_node_field_1]) (.seq (.seq (.ops A_decode_node_field_2) (.cond (.t 14) (.seq (.ops A_decode_node_field_3) (.alts [19, 20, 21, 22, 23, 24, 25] [A_decode_node_field_4])) .skip)) (.seq (.ops A_decode_node_field_5) .ret))))
def R_decode_node_field : List ARes := [.tmp 4]
def T_decode_node_field : FC := ⟨27, A_decode_node_field, R_decode_node_field⟩

-- (*lexicon/wire.Reader).Left
abbrev F_wire_Reader_Left : Nat := 73
def A_wire_Reader_Left_0 : List AOper := [⟨some 3, .mov (.t 0), none⟩,
    ⟨some 4, .nilc (.t 3), none⟩,
    ⟨some 5, .faddr 3 (.t 4), none⟩,
    ⟨some 6, .ld1 (.t 5), none⟩,
    ⟨some 7, .bini .neq (.t 6) (.c (.int .i64 (0))), none⟩]
def A_wire_Reader_Left_1 : List AOper := [⟨some 8, .mov (.t 0), none⟩,
    ⟨some 9, .nilc (.t 8), none⟩,
    ⟨some 10, .faddr 2 (.t 9), none⟩,
    ⟨some 11, .ld1 (.t 10), none⟩,
    ⟨some 12, .mov (.t 0), none⟩,
    ⟨some 13, .nilc (.t 12), none⟩,
    ⟨some 14, .faddr 1 (.t 13), none⟩,
    ⟨some 15, .ld1 (.t 14), none⟩,
    ⟨some 16, .bini .sub (.t 11) (.t 15), none⟩,
    ⟨some 2, .mov (.t 16), none⟩]
def A_wire_Reader_Left : ACode := (.seq (.ops [⟨some 2, .mov (.c (.int .i64 (0))), none⟩]) (.seq (.seq (.ops A_wire_Reader_Left_0) (.cond (.t 7) (.seq (.ops [⟨some 2, .mov (.c (.int .i64 (0))), none⟩]) .ret) .skip)) (.seq (.alts [8, 9, 10, 11, 12, 13, 14, 15, 16, 2] [A_wire_Reader_Left_1]) .ret)))
def R_wire_Reader_Left : List ARes := [.tmp 2]
def T_wire_Reader_Left : FC := ⟨17, A_wire_Reader_Left, R_wire_Reader_Left⟩

-- lexicon/decode.tag
abbrev F_decode_tag : Nat := 74
def A_decode_tag_0 : List AOper := [⟨some 2, .mov (.c (.int .i32 (0))), none⟩,
    ⟨some 3, .mov (.c (.int .u8 (0))), none⟩,
    ⟨some 4, .mov (.c (.int .i64 (0))), none⟩]
def A_decode_tag_1 : List AOper := [⟨some 8, .mov (.t 0), none⟩,
    ⟨some 9, .call 79 [(.t 8)], none⟩,
    ⟨some 5, .mov (.t 9), none⟩]
def A_decode_tag_2 : List AOper := [⟨some 11, .mov (.t 0), none⟩,
    ⟨some 12, .call 129 [(.t 11)], none⟩,
    ⟨some 10, .mov (.t 12), none⟩,
    ⟨some 13, .ext 0 (.t 10), none⟩,
    ⟨some 14, .ext 1 (.t 10), none⟩,
    ⟨some 6, .mov (.t 13), none⟩,
    ⟨some 7, .mov (.t 14), none⟩]
def A_decode_tag_3 : List AOper := [⟨some 15, .mov (.t 0), none⟩,
    ⟨some 16, .call 78 [(.t 15)], none⟩]
def A_decode_tag_4 : List AOper := [⟨some 17, .mov (.t 7), none⟩,
    ⟨some 18, .bini .eql (.t 17) (.c (.int .u8 (4))), none⟩]
def A_decode_tag_5 : List AOper := [⟨some 19, .mov (.t 5), none⟩,
    ⟨some 20, .build [.int .i64 (0), .int .i64 (0)] [(0, 1, (.c (.int .i64 (13)))), (1, 1, (.t 19))], none⟩,
    ⟨some 21, .mkifc 117 (.t 20), none⟩,
    ⟨none, .pan (.t 21), none⟩]
def A_decode_tag_6 : List AOper := [⟨some 22, .mov (.t 6), none⟩,
    ⟨some 23, .mov (.t 7), none⟩,
    ⟨some 24, .mov (.t 5), none⟩,
    ⟨some 2, .mov (.t 22), none⟩,
    ⟨some 3, .mov (.t 23), none⟩,
    ⟨some 4, .mov (.t 24), none⟩]
def A_decode_tag : ACode := (.seq (.ops A_decode_tag_0) (.seq (.ops A_decode_tag_1) (.seq (.ops A_decode_tag_2) (.seq (.ops A_decode_tag_3) (.seq (.seq (.ops A_decode_tag_4) (.cond (.t 18) (.ops A_decode_tag_5) .skip)) (.seq (.ops A_decode_tag_6) .ret))))))
def R_decode_tag : List ARes := [.tmp 2, .tmp 3, .tmp 4]
def T_decode_tag : FC := ⟨25, A_decode_tag, R_decode_tag⟩

-- slices.IndexFunc[[]lexicon/decode.way,lexicon/decode.way]
abbrev F_slices_IndexFunc_decode_way_decode_way : Nat := 75
def A_slices_IndexFunc_decode_way_decode_way_0 : List AOper := [⟨some 6, .mov (.t 0), none⟩,
    ⟨some 7, .lenl (.t 6), none⟩,
    ⟨some 8, .mov (.c (.int .i64 (0))), none⟩]
def A_slices_IndexFunc_decode_way_decode_way_1 : List AOper := [⟨some 10, .mov (.t 8), none⟩,
    ⟨some 5, .mov (.t 10), none⟩]
def A_slices_IndexFunc_decode_way_decode_way_2 : List AOper := [⟨some 11, .mov (.t 1), none⟩,
    ⟨some 12, .mov (.t 0), none⟩,
    ⟨some 13, .mov (.t 5), none⟩,
    ⟨some 14, .iaddr 176 2 (.t 12) (.t 13), none⟩,
    ⟨some 15, .lda 2 (.t 14), none⟩,
    ⟨some 16, .callv (.t 11) [(.t 15)], none⟩]
def A_slices_IndexFunc_decode_way_decode_way_3 : List AOper := [⟨some 17, .mov (.t 5), none⟩,
    ⟨some 4, .mov (.t 17), none⟩]
def A_slices_IndexFunc_decode_way_decode_way_4 : List AOper := [⟨some 18, .bini .add (.t 8) (.c (.int .i64 (1))), none⟩,
    ⟨some 8, .mov (.t 18), none⟩]
def A_slices_IndexFunc_decode_way_decode_way_5 : ACode := (.seq (.ops [⟨some 9, .bini .lss (.t 8) (.t 7), none⟩]) (.seq (.cond (.t 9) .skip (.exit 0)) (.seq (.block 1 (.seq (.ops A_slices_IndexFunc_decode_way_decode_way_1) (.seq (.ops A_slices_IndexFunc_decode_way_decode_way_2) (.cond (.t 16) (.seq (.ops A_slices_IndexFunc_decode_way_decode_way_3) .ret) .skip)))) (.ops A_slices_IndexFunc_decode_way_decode_way_4))))
def A_slices_IndexFunc_decode_way_decode_way : ACode := (.seq (.ops [⟨some 4, .mov (.c (.int .i64 (0))), none⟩]) (.seq (.seq (.ops A_slices_IndexFunc_decode_way_decode_way_0) (.block 0 (.loop A_slices_IndexFunc_decode_way_decode_way_5))) (.seq (.ops [⟨some 4, .mov (.c (.int .i64 (-1))), none⟩]) .ret)))
def R_slices_IndexFunc_decode_way_decode_way : List ARes := [.tmp 4]
def T_slices_IndexFunc_decode_way_decode_way : FC := ⟨19, A_slices_IndexFunc_decode_way_decode_way, R_slices_IndexFunc_decode_way_decode_way⟩

-- (*lexicon/decode.decoder).records$1
abbrev F_decode_decoder_records_c1 : Nat := 76
def A_decode_decoder_records_c1_0 : List AOper := [⟨some 3, .box 176 2 (.t 0), none⟩,
    ⟨some 4, .mov (.c (.bool false)), none⟩]
def A_decode_decoder_records_c1_1 : List AOper := [⟨some 5, .faddr 0 (.t 3), none⟩,
    ⟨some 6, .ld1 (.t 5), none⟩,
    ⟨some 7, .lda 9 (.t 1), none⟩,
    ⟨some 8, .ld1 (.t 2), none⟩,
    ⟨some 9, .callv (.t 6) [(.t 7), (.t 8)], none⟩,
    ⟨some 4, .mov (.t 9), none⟩]
def A_decode_decoder_records_c1 : ACode := (.seq (.ops A_decode_decoder_records_c1_0) (.seq (.ops A_decode_decoder_records_c1_1) .ret))
def R_decode_decoder_records_c1 : List ARes := [.tmp 4]
def T_decode_decoder_records_c1 : FC := ⟨10, A_decode_decoder_records_c1, R_decode_decoder_records_c1⟩

-- lexicon/decode.right
abbrev F_decode_right : Nat := 78
def A_decode_right_0 : List AOper := [⟨some 5, .mov (.t 0), none⟩,
    ⟨some 6, .call 132 [(.t 5)], none⟩,
    ⟨some 4, .mov (.t 6), none⟩,
    ⟨some 7, .ext 0 (.t 4), none⟩,
    ⟨some 8, .ext 1 (.t 4), none⟩,
    ⟨some 2, .mov (.t 7), none⟩,
    ⟨some 3, .mov (.t 8), none⟩]
def A_decode_right_1 : List AOper := [⟨some 9, .mov (.t 2), none⟩,
    ⟨some 10, .bini .neq (.t 9) (.c (.int .i64 (0))), none⟩]
def A_decode_right_2 : List AOper := [⟨some 11, .mov (.t 2), none⟩,
    ⟨some 12, .mov (.t 3), none⟩,
    ⟨some 13, .build [.int .i64 (0), .int .i64 (0)] [(0, 1, (.t 11)), (1, 1, (.t 12))], none⟩,
    ⟨some 14, .mkifc 117 (.t 13), none⟩,
    ⟨none, .pan (.t 14), none⟩]
def A_decode_right : ACode := (.seq (.ops A_decode_right_0) (.seq (.ops A_decode_right_1) (.cond (.t 10) (.ops A_decode_right_2) .skip)))
def R_decode_right : List ARes := []
def T_decode_right : FC := ⟨15, A_decode_right, R_decode_right⟩

-- (*lexicon/wire.Reader).At
abbrev F_wire_Reader_At : Nat := 79
def A_wire_Reader_At_0 : List AOper := [⟨some 3, .mov (.t 0), none⟩,
    ⟨some 4, .nilc (.t 3), none⟩,
    ⟨some 5, .faddr 1 (.t 4), none⟩,
    ⟨some 6, .ld1 (.t 5), none⟩,
    ⟨some 2, .mov (.t 6), none⟩]
def A_wire_Reader_At : ACode := (.seq (.ops [⟨some 2, .mov (.c (.int .i64 (0))), none⟩]) (.seq (.ops A_wire_Reader_At_0) .ret))
def R_wire_Reader_At : List ARes := [.tmp 2]
def T_wire_Reader_At : FC := ⟨7, A_wire_Reader_At, R_wire_Reader_At⟩

-- (*lexicon/table.Table).Type
abbrev F_table_Table_Type : Nat := 80
def A_table_Table_Type_0 : List AOper := [⟨some 3, .mov (.t 0), none⟩,
    ⟨some 4, .nilc (.t 3), none⟩,
    ⟨some 5, .faddr 0 (.t 4), none⟩,
    ⟨some 6, .ld1 (.t 5), none⟩,
    ⟨some 2, .mov (.t 6), none⟩]
def A_table_Table_Type : ACode := (.seq (.ops [⟨some 2, .mov (.c (.str [])), none⟩]) (.seq (.ops A_table_Table_Type_0) .ret))
def R_table_Table_Type : List ARes := [.tmp 2]
def T_table_Table_Type : FC := ⟨7, A_table_Table_Type, R_table_Table_Type⟩

-- slices.Sorted[int32]
abbrev F_slices_Sorted_int32 : Nat := 81
def A_slices_Sorted_int32_0 : List AOper := [⟨some 4, .mov (.t 0), none⟩,
    ⟨some 5, .call 133 [(.t 4)], none⟩,
    ⟨some 3, .mov (.t 5), none⟩]
def A_slices_Sorted_int32_1 : List AOper := [⟨some 6, .mov (.t 3), none⟩,
    ⟨some 7, .call 134 [(.t 6)], none⟩]
def A_slices_Sorted_int32_2 : List AOper := [⟨some 8, .mov (.t 3), none⟩,
    ⟨some 2, .mov (.t 8), none⟩]
def A_slices_Sorted_int32 : ACode := (.seq (.ops [⟨some 2, .mov (.c (.nils)), none⟩]) (.seq (.ops A_slices_Sorted_int32_0) (.seq (.ops A_slices_Sorted_int32_1) (.seq (.ops A_slices_Sorted_int32_2) .ret))))
def R_slices_Sorted_int32 : List ARes := [.tmp 2]
def T_slices_Sorted_int32 : FC := ⟨9, A_slices_Sorted_int32, R_slices_Sorted_int32⟩

-- maps.Keys[map[int32]*lexicon/decode.field,int32,*lexicon/decode.field]
abbrev F_maps_Keys_map_int32_decode_field_int32_decode_field : Nat := 82
def A_maps_Keys_map_int32_decode_field_int32_decode_field_0 : List AOper := [⟨some 1, .box 180 1 (.t 0), none⟩,
    ⟨some 2, .mov (.c (.nilf)), none⟩]
def A_maps_Keys_map_int32_decode_field_int32_decode_field_1 : List AOper := [⟨some 3, .mkfn 135 [] [(.t 1)], none⟩,
    ⟨some 2, .mov (.t 3), none⟩]
def A_maps_Keys_map_int32_decode_field_int32_decode_field : ACode := (.seq (.ops A_maps_Keys_map_int32_decode_field_int32_decode_field_0) (.seq (.ops A_maps_Keys_map_int32_decode_field_int32_decode_field_1) .ret))
def R_maps_Keys_map_int32_decode_field_int32_decode_field : List ARes := [.tmp 2]
def T_maps_Keys_map_int32_decode_field_int32_decode_field : FC := ⟨4, A_maps_Keys_map_int32_decode_field_int32_decode_field, R_maps_Keys_map_int32_decode_field_int32_decode_field⟩

-- lexicon/decode.implicit
abbrev F_decode_implicit : Nat := 86
def A_decode_implicit_0 : List AOper := [⟨some 1, .box 170 9 (.t 0), none⟩,
    ⟨some 2, .mov (.c (.bool false)), none⟩]
def A_decode_implicit_1 : List AOper := [⟨some 3, .faddr 3 (.t 1), none⟩,
    ⟨some 4, .ld1 (.t 3), none⟩,
    ⟨some 5, .bini .eql (.t 4) (.c (.int .u8 (1))), none⟩,
    ⟨some 6, .mov (.t 5), none⟩,
    ⟨some 7, .faddr 4 (.t 1), some (6, true)⟩,
    ⟨some 8, .ld1 (.t 7), some (6, true)⟩,
    ⟨some 9, .bini .neq (.t 8) (.c (.int .u8 (11))), some (6, true)⟩,
    ⟨some 10, .pick (.t 6) (.t 9) (.c (.bool false)), none⟩,
    ⟨some 11, .mov (.t 10), none⟩,
    ⟨some 12, .faddr 7 (.t 1), some (11, true)⟩,
    ⟨some 13, .ld1 (.t 12), some (11, true)⟩,
    ⟨some 14, .bini .eql (.t 13) (.c (.int .i64 (0))), some (11, true)⟩,
    ⟨some 15, .pick (.t 11) (.t 14) (.c (.bool false)), none⟩,
    ⟨some 2, .mov (.t 15), none⟩]
def A_decode_implicit : ACode := (.seq (.ops A_decode_implicit_0) (.seq (.ops A_decode_implicit_1) .ret))
def R_decode_implicit : List ARes := [.tmp 2]
def T_decode_implicit : FC := ⟨16, A_decode_implicit, R_decode_implicit⟩

-- lexicon/link.cloneMessage
abbrev F_link_cloneMessage : Nat := 87
def A_link_cloneMessage_0 : List AOper := [⟨some 1, .box 72 7 (.t 0), none⟩,
    ⟨some 2, .box 72 7 (.c (.agg [.str [], .nils, .nils, .nils, .nils, .nils, .nils])), none⟩]
def A_link_cloneMessage_1 : List AOper := [⟨some 3, .faddr 1 (.t 1), none⟩,
    ⟨some 4, .ld1 (.t 3), none⟩,
    ⟨some 5, .call 138 [(.t 4)], none⟩,
    ⟨some 6, .faddr 1 (.t 1), none⟩,
    ⟨none, .st 1 (.t 6) (.t 5), none⟩]
def A_link_cloneMessage_2 : List AOper := [⟨some 7, .faddr 2 (.t 1), none⟩,
    ⟨some 8, .ld1 (.t 7), none⟩,
    ⟨some 9, .call 139 [(.t 8)], none⟩,
    ⟨some 10, .faddr 2 (.t 1), none⟩,
    ⟨none, .st 1 (.t 10) (.t 9), none⟩]
def A_link_cloneMessage_3 : List AOper := [⟨some 11, .faddr 5 (.t 1), none⟩,
    ⟨some 12, .ld1 (.t 11), none⟩,
    ⟨some 13, .call 140 [(.t 12)], none⟩,
    ⟨some 14, .faddr 5 (.t 1), none⟩,
    ⟨none, .st 1 (.t 14) (.t 13), none⟩]
def A_link_cloneMessage_4 : List AOper := [⟨some 15, .faddr 6 (.t 1), none⟩,
    ⟨some 16, .ld1 (.t 15), none⟩,
    ⟨some 17, .call 139 [(.t 16)], none⟩,
    ⟨some 18, .faddr 6 (.t 1), none⟩,
    ⟨none, .st 1 (.t 18) (.t 17), none⟩]
def A_link_cloneMessage_5 : List AOper := [⟨some 20, .faddr 3 (.t 1), none⟩,
    ⟨some 21, .ld1 (.t 20), none⟩,
    ⟨some 22, .faddr 4 (.t 1), none⟩,
    ⟨some 23, .ld1 (.t 22), none⟩,
    ⟨some 24, .call 39 [(.t 21), (.t 23)], none⟩,
    ⟨some 19, .mov (.t 24), none⟩,
    ⟨some 25, .ext 0 (.t 19), none⟩,
    ⟨some 26, .ext 1 (.t 19), none⟩,
    ⟨some 27, .faddr 3 (.t 1), none⟩,
    ⟨none, .st 1 (.t 27) (.t 25), none⟩,
    ⟨some 28, .faddr 4 (.t 1), none⟩,
    ⟨none, .st 1 (.t 28) (.t 26), none⟩]
def A_link_cloneMessage_6 : List AOper := [⟨some 29, .lda 7 (.t 1), none⟩,
    ⟨none, .st 7 (.t 2) (.t 29), none⟩]
def A_link_cloneMessage : ACode := (.seq (.ops A_link_cloneMessage_0) (.seq (.ops A_link_cloneMessage_1) (.seq (.ops A_link_cloneMessage_2) (.seq (.ops A_link_cloneMessage_3) (.seq (.ops A_link_cloneMessage_4) (.seq (.ops A_link_cloneMessage_5) (.seq (.ops A_link_cloneMessage_6) .ret)))))))
def R_link_cloneMessage : List ARes := [.cella 2 7]
def T_link_cloneMessage : FC := ⟨30, A_link_cloneMessage, R_link_cloneMessage⟩

-- slices.Collect[string]
abbrev F_slices_Collect_string : Nat := 89
def A_slices_Collect_string_0 : List AOper := [⟨some 3, .mov (.t 0), none⟩,
    ⟨some 4, .call 142 [(.c (.nils)), (.t 3)], none⟩,
    ⟨some 2, .mov (.t 4), none⟩]
def A_slices_Collect_string : ACode := (.seq (.ops [⟨some 2, .mov (.c (.nils)), none⟩]) (.seq (.ops A_slices_Collect_string_0) .ret))
def R_slices_Collect_string : List ARes := [.tmp 2]
def T_slices_Collect_string : FC := ⟨5, A_slices_Collect_string, R_slices_Collect_string⟩

-- maps.Keys[map[string]*lexicon/link.file,string,*lexicon/link.file]$1
abbrev F_maps_Keys_map_string_link_file_string_link_file_c1 : Nat := 90
def A_maps_Keys_map_string_link_file_string_link_file_c1_0 : List AOper := [⟨some 4, .ld1 (.t 1), none⟩,
    ⟨some 5, .rngm (.t 4), none⟩]
def A_maps_Keys_map_string_link_file_string_link_file_c1_1 : List AOper := [⟨some 6, .nxm (.t 5), none⟩,
    ⟨some 7, .ext 0 (.t 6), none⟩]
def A_maps_Keys_map_string_link_file_string_link_file_c1_2 : List AOper := [⟨some 8, .entr (.t 5), none⟩,
    ⟨some 9, .ext 0 (.t 8), none⟩,
    ⟨some 3, .mov (.t 9), none⟩]
def A_maps_Keys_map_string_link_file_string_link_file_c1_3 : List AOper := [⟨some 10, .mov (.t 0), none⟩,
    ⟨some 11, .mov (.t 3), none⟩,
    ⟨some 12, .callv (.t 10) [(.t 11)], none⟩,
    ⟨some 13, .not (.t 12), none⟩]
def A_maps_Keys_map_string_link_file_string_link_file_c1_4 : ACode := (.seq (.ops A_maps_Keys_map_string_link_file_string_link_file_c1_1) (.seq (.cond (.t 7) .skip (.exit 0)) (.block 1 (.seq (.ops A_maps_Keys_map_string_link_file_string_link_file_c1_2) (.seq (.ops A_maps_Keys_map_string_link_file_string_link_file_c1_3) (.cond (.t 13) .ret .skip))))))
def A_maps_Keys_map_string_link_file_string_link_file_c1 : ACode := (.seq (.ops A_maps_Keys_map_string_link_file_string_link_file_c1_0) (.block 0 (.loop A_maps_Keys_map_string_link_file_string_link_file_c1_4)))
def R_maps_Keys_map_string_link_file_string_link_file_c1 : List ARes := []
def T_maps_Keys_map_string_link_file_string_link_file_c1 : FC := ⟨14, A_maps_Keys_map_string_link_file_string_link_file_c1, R_maps_Keys_map_string_link_file_string_link_file_c1⟩

-- lexicon/check.must
abbrev F_check_must : Nat := 91
def A_check_must_0 : List AOper := [⟨some 6, .mov (.t 0), none⟩,
    ⟨some 7, .not (.t 6), none⟩]
def A_check_must_1 : List AOper := [⟨some 8, .mov (.t 1), none⟩,
    ⟨some 9, .mov (.t 2), none⟩,
    ⟨some 10, .build [.int .i64 (0), .str []] [(0, 1, (.t 8)), (1, 1, (.t 9))], none⟩,
    ⟨some 11, .build [.int .i64 (0), .str []] [(0, 2, (.t 10))], none⟩,
    ⟨some 12, .mkifc 137 (.t 11), none⟩,
    ⟨none, .pan (.t 12), none⟩]
def A_check_must : ACode := (.seq (.ops A_check_must_0) (.cond (.t 7) (.ops A_check_must_1) .skip))
def R_check_must : List ARes := []
def T_check_must : FC := ⟨13, A_check_must, R_check_must⟩

-- lexicon/check.path
abbrev F_check_path : Nat := 92
def A_check_path_0 : List AOper := [⟨some 5, .mov (.t 0), none⟩,
    ⟨some 6, .bins .eql (.t 5) (.c (.str [])), none⟩,
    ⟨some 7, .mov (.t 6), none⟩,
    ⟨some 8, .mov (.t 0), some (7, false)⟩,
    ⟨some 9, .lens (.t 8), some (7, false)⟩,
    ⟨some 10, .bini .gtr (.t 9) (.c (.int .i64 (255))), some (7, false)⟩,
    ⟨some 11, .pick (.t 7) (.c (.bool true)) (.t 10), none⟩]
def A_check_path_1 : List AOper := [⟨some 12, .mov (.t 0), none⟩,
    ⟨some 13, .lens (.t 12), none⟩,
    ⟨some 14, .mov (.c (.int .i64 (0))), none⟩]
def A_check_path_2 : List AOper := [⟨some 16, .mov (.t 14), none⟩,
    ⟨some 3, .mov (.t 16), none⟩]
def A_check_path_3 : List AOper := [⟨some 17, .mov (.t 0), none⟩,
    ⟨some 18, .mov (.t 3), none⟩,
    ⟨some 19, .idxs (.t 17) (.t 18), none⟩,
    ⟨some 4, .mov (.t 19), none⟩]
def A_check_path_4 : List AOper := [⟨some 20, .mov (.t 4), none⟩,
    ⟨some 21, .bini .lss (.t 20) (.c (.int .u8 (33))), none⟩,
    ⟨some 22, .mov (.t 21), none⟩,
    ⟨some 23, .mov (.t 4), some (22, false)⟩,
    ⟨some 24, .bini .gtr (.t 23) (.c (.int .u8 (126))), some (22, false)⟩,
    ⟨some 25, .pick (.t 22) (.c (.bool true)) (.t 24), none⟩,
    ⟨some 26, .mov (.t 25), none⟩,
    ⟨some 27, .mov (.t 4), some (26, false)⟩,
    ⟨some 28, .bini .eql (.t 27) (.c (.int .u8 (34))), some (26, false)⟩,
    ⟨some 29, .pick (.t 26) (.c (.bool true)) (.t 28), none⟩,
    ⟨some 30, .mov (.t 29), none⟩,
    ⟨some 31, .mov (.t 4), some (30, false)⟩,
    ⟨some 32, .bini .eql (.t 31) (.c (.int .u8 (92))), some (30, false)⟩,
    ⟨some 33, .pick (.t 30) (.c (.bool true)) (.t 32), none⟩]
def A_check_path_5 : List AOper := [⟨some 34, .bini .add (.t 14) (.c (.int .i64 (1))), none⟩,
    ⟨some 14, .mov (.t 34), none⟩]
def A_check_path_6 : ACode := (.seq (.ops [⟨some 15, .bini .lss (.t 14) (.t 13), none⟩]) (.seq (.cond (.t 15) .skip (.exit 0)) (.seq (.block 1 (.seq (.ops A_check_path_2) (.seq (.ops A_check_path_3) (.seq (.ops A_check_path_4) (.cond (.t 33) (.seq (.ops [⟨some 2, .mov (.c (.bool false)), none⟩]) .ret) .skip))))) (.ops A_check_path_5))))
def A_check_path : ACode := (.seq (.ops [⟨some 2, .mov (.c (.bool false)), none⟩]) (.seq (.seq (.ops A_check_path_0) (.cond (.t 11) (.seq (.ops [⟨some 2, .mov (.c (.bool false)), none⟩]) .ret) .skip)) (.seq (.seq (.ops A_check_path_1) (.block 0 (.loop A_check_path_6))) (.seq (.ops [⟨some 2, .mov (.c (.bool true)), none⟩]) .ret))))
def R_check_path : List ARes := [.tmp 2]
def T_check_path : FC := ⟨35, A_check_path, R_check_path⟩

-- lexicon/texts.Full
abbrev F_texts_Full : Nat := 93
def A_texts_Full_0 : List AOper := [⟨some 5, .mov (.t 0), none⟩,
    ⟨some 6, .lens (.t 5), none⟩,
    ⟨some 7, .bini .gtr (.t 6) (.c (.int .i64 (255))), none⟩]
def A_texts_Full_1 : List AOper := [⟨some 8, .mov (.t 0), none⟩,
    ⟨some 9, .call 143 [(.t 8), (.c (.str [46]))], none⟩,
    ⟨some 10, .lenl (.t 9), none⟩,
    ⟨some 11, .mov (.c (.int .i64 (0))), none⟩]
def A_texts_Full_2 : List AOper := [⟨some 13, .iaddr 9 1 (.t 9) (.t 11), none⟩,
    ⟨some 14, .ld1 (.t 13), none⟩,
    ⟨some 4, .mov (.t 14), none⟩]
def A_texts_Full_3 : List AOper := [⟨some 15, .mov (.t 4), none⟩,
    ⟨some 16, .call 144 [(.t 15)], none⟩,
    ⟨some 17, .not (.t 16), none⟩]
def A_texts_Full_4 : List AOper := [⟨some 18, .bini .add (.t 11) (.c (.int .i64 (1))), none⟩,
    ⟨some 11, .mov (.t 18), none⟩]
def A_texts_Full_5 : ACode := (.seq (.ops [⟨some 12, .bini .lss (.t 11) (.t 10), none⟩]) (.seq (.cond (.t 12) .skip (.exit 0)) (.seq (.block 1 (.seq (.ops A_texts_Full_2) (.seq (.ops A_texts_Full_3) (.cond (.t 17) (.seq (.ops [⟨some 2, .mov (.c (.bool false)), none⟩]) .ret) .skip)))) (.ops A_texts_Full_4))))
def A_texts_Full : ACode := (.seq (.ops [⟨some 2, .mov (.c (.bool false)), none⟩]) (.seq (.seq (.ops A_texts_Full_0) (.cond (.t 7) (.seq (.ops [⟨some 2, .mov (.c (.bool false)), none⟩]) .ret) .skip)) (.seq (.seq (.ops A_texts_Full_1) (.block 0 (.loop A_texts_Full_5))) (.seq (.ops [⟨some 2, .mov (.c (.bool true)), none⟩]) .ret))))
def R_texts_Full : List ARes := [.tmp 2]
def T_texts_Full : FC := ⟨19, A_texts_Full, R_texts_Full⟩

-- (*lexicon/check.reader).message
abbrev F_check_reader_message : Nat := 94
def A_check_reader_message_0 : List AOper := [⟨some 17, .mov (.t 2), none⟩,
    ⟨some 18, .faddr 0 (.t 5), none⟩,
    ⟨some 19, .ld1 (.t 18), none⟩,
    ⟨some 20, .bslice 9 1 2 [.str []] [(0, 1, (.t 17)), (1, 1, (.t 19))], none⟩,
    ⟨some 21, .call 46 [(.t 20)], none⟩,
    ⟨some 8, .mov (.t 21), none⟩]
def A_check_reader_message_1 : List AOper := [⟨some 22, .mov (.t 0), none⟩,
    ⟨some 23, .faddr 0 (.t 5), none⟩,
    ⟨some 24, .ld1 (.t 23), none⟩,
    ⟨some 25, .mov (.t 8), none⟩,
    ⟨some 26, .call 145 [(.t 22), (.t 24), (.t 25)], none⟩]
def A_check_reader_message_2 : List AOper := [⟨some 27, .mov (.t 3), none⟩,
    ⟨some 28, .bini .lss (.t 27) (.c (.int .i64 (16))), none⟩,
    ⟨some 29, .mov (.t 28), none⟩,
    ⟨some 30, .faddr 1 (.t 5), some (29, true)⟩,
    ⟨some 31, .ld1 (.t 30), some (29, true)⟩,
    ⟨some 32, .lenl (.t 31), some (29, true)⟩,
    ⟨some 33, .bini .leq (.t 32) (.c (.int .i64 (1000))), some (29, true)⟩,
    ⟨some 34, .pick (.t 29) (.t 33) (.c (.bool false)), none⟩,
    ⟨some 35, .mov (.t 8), none⟩,
    ⟨some 36, .call 91 [(.t 34), (.c (.int .i64 (68))), (.t 35)], none⟩]
def A_check_reader_message_3 : List AOper := [⟨some 37, .faddr 5 (.t 5), none⟩,
    ⟨some 38, .ld1 (.t 37), none⟩,
    ⟨some 39, .mov (.t 8), none⟩,
    ⟨some 40, .call 146 [(.t 38), (.c (.int .i32 (1))), (.c (.int .i32 (536870911))), (.t 39)], none⟩]
def A_check_reader_message_4 : List AOper := [⟨some 41, .faddr 6 (.t 5), none⟩,
    ⟨some 42, .ld1 (.t 41), none⟩,
    ⟨some 43, .mov (.t 8), none⟩,
    ⟨some 44, .call 147 [(.t 42), (.t 43)], none⟩]
def A_check_reader_message_5 : List AOper := [⟨some 45, .faddr 1 (.t 5), none⟩,
    ⟨some 46, .ld1 (.t 45), none⟩,
    ⟨some 47, .lenl (.t 46), none⟩,
    ⟨some 48, .mov (.c (.int .i64 (0))), none⟩]
def A_check_reader_message_6 : List AOper := [⟨some 50, .mov (.t 48), none⟩,
    ⟨some 9, .mov (.t 50), none⟩]
def A_check_reader_message_7 : List AOper := [⟨some 51, .mov (.t 0), none⟩,
    ⟨some 52, .lda 7 (.t 5), none⟩,
    ⟨some 53, .mov (.t 9), none⟩,
    ⟨some 54, .mov (.t 8), none⟩,
    ⟨some 55, .call 148 [(.t 51), (.t 52), (.t 53), (.t 54)], none⟩]
def A_check_reader_message_8 : List AOper := [⟨some 56, .bini .add (.t 48) (.c (.int .i64 (1))), none⟩,
    ⟨some 48, .mov (.t 56), none⟩]
def A_check_reader_message_9 : ACode := (.seq (.ops [⟨some 49, .bini .lss (.t 48) (.t 47), none⟩]) (.seq (.cond (.t 49) .skip (.exit 0)) (.seq (.block 1 (.seq (.ops A_check_reader_message_6) (.ops A_check_reader_message_7))) (.ops A_check_reader_message_8))))
def A_check_reader_message_10 : List AOper := [⟨some 57, .faddr 2 (.t 5), none⟩,
    ⟨some 58, .ld1 (.t 57), none⟩,
    ⟨some 59, .lenl (.t 58), none⟩,
    ⟨some 60, .mov (.c (.int .i64 (0))), none⟩]
def A_check_reader_message_11 : List AOper := [⟨some 62, .mov (.t 60), none⟩,
    ⟨some 63, .iaddr 9 1 (.t 58) (.t 60), none⟩,
    ⟨some 64, .ld1 (.t 63), none⟩,
    ⟨some 10, .box 3 1 (.c (.int .i64 (0))), none⟩,
    ⟨none, .st 1 (.t 10) (.t 62), none⟩,
    ⟨some 11, .mov (.t 64), none⟩]
def A_check_reader_message_12 : List AOper := [⟨some 65, .mov (.t 8), none⟩,
    ⟨some 66, .mov (.t 11), none⟩,
    ⟨some 67, .bslice 9 1 2 [.str []] [(0, 1, (.t 65)), (1, 1, (.t 66))], none⟩,
    ⟨some 68, .call 46 [(.t 67)], none⟩,
    ⟨some 12, .mov (.t 68), none⟩]
def A_check_reader_message_13 : List AOper := [⟨some 69, .mov (.t 0), none⟩,
    ⟨some 70, .mov (.t 11), none⟩,
    ⟨some 71, .mov (.t 12), none⟩,
    ⟨some 72, .call 145 [(.t 69), (.t 70), (.t 71)], none⟩]
def A_check_reader_message_14 : List AOper := [⟨some 73, .faddr 1 (.t 5), none⟩,
    ⟨some 74, .ld1 (.t 73), none⟩,
    ⟨some 75, .mkfn 150 [] [(.t 10)], none⟩,
    ⟨some 76, .call 149 [(.t 74), (.t 75)], none⟩,
    ⟨some 77, .mov (.t 12), none⟩,
    ⟨some 78, .call 91 [(.t 76), (.c (.int .i64 (64))), (.t 77)], none⟩]
def A_check_reader_message_15 : List AOper := [⟨some 79, .bini .add (.t 60) (.c (.int .i64 (1))), none⟩,
    ⟨some 60, .mov (.t 79), none⟩]
def A_check_reader_message_16 : ACode := (.seq (.ops [⟨some 61, .bini .lss (.t 60) (.t 59), none⟩]) (.seq (.cond (.t 61) .skip (.exit 2)) (.seq (.block 3 (.seq (.ops A_check_reader_message_11) (.seq (.ops A_check_reader_message_12) (.seq (.ops A_check_reader_message_13) (.ops A_check_reader_message_14))))) (.ops A_check_reader_message_15))))
def A_check_reader_message_17 : List AOper := [⟨some 80, .faddr 3 (.t 5), none⟩,
    ⟨some 81, .ld1 (.t 80), none⟩,
    ⟨some 82, .lenl (.t 81), none⟩,
    ⟨some 83, .mov (.c (.int .i64 (0))), none⟩]
def A_check_reader_message_18 : List AOper := [⟨some 85, .iaddr 72 7 (.t 81) (.t 83), none⟩,
    ⟨some 86, .lda 7 (.t 85), none⟩,
    ⟨some 14, .box 72 7 (.c (.agg [.str [], .nils, .nils, .nils, .nils, .nils, .nils])), none⟩,
    ⟨none, .st 7 (.t 14) (.t 86), none⟩]
def A_check_reader_message_19 : List AOper := [⟨some 87, .mov (.t 0), none⟩,
    ⟨some 88, .lda 7 (.t 14), none⟩,
    ⟨some 89, .mov (.t 8), none⟩,
    ⟨some 90, .mov (.t 3), none⟩,
    ⟨some 91, .bini .add (.t 90) (.c (.int .i64 (1))), none⟩,
    ⟨some 92, .call 94 [(.t 87), (.t 88), (.t 89), (.t 91)], none⟩]
def A_check_reader_message_20 : List AOper := [⟨some 93, .bini .add (.t 83) (.c (.int .i64 (1))), none⟩,
    ⟨some 83, .mov (.t 93), none⟩]
def A_check_reader_message_21 : ACode := (.seq (.ops [⟨some 84, .bini .lss (.t 83) (.t 82), none⟩]) (.seq (.cond (.t 84) .skip (.exit 4)) (.seq (.block 5 (.seq (.ops A_check_reader_message_18) (.ops A_check_reader_message_19))) (.ops A_check_reader_message_20))))
def A_check_reader_message_22 : List AOper := [⟨some 94, .faddr 4 (.t 5), none⟩,
    ⟨some 95, .ld1 (.t 94), none⟩,
    ⟨some 96, .lenl (.t 95), none⟩,
    ⟨some 97, .mov (.c (.int .i64 (0))), none⟩]
def A_check_reader_message_23 : List AOper := [⟨some 99, .iaddr 148 5 (.t 95) (.t 97), none⟩,
    ⟨some 100, .lda 5 (.t 99), none⟩,
    ⟨some 16, .box 148 5 (.c (.agg [.str [], .nils, .bool false, .nils, .nils])), none⟩,
    ⟨none, .st 5 (.t 16) (.t 100), none⟩]
def A_check_reader_message_24 : List AOper := [⟨some 101, .mov (.t 0), none⟩,
    ⟨some 102, .lda 5 (.t 16), none⟩,
    ⟨some 103, .mov (.t 8), none⟩,
    ⟨some 104, .call 95 [(.t 101), (.t 102), (.t 103)], none⟩]
def A_check_reader_message_25 : List AOper := [⟨some 105, .bini .add (.t 97) (.c (.int .i64 (1))), none⟩,
    ⟨some 97, .mov (.t 105), none⟩]
def A_check_reader_message_26 : ACode := (.seq (.ops [⟨some 98, .bini .lss (.t 97) (.t 96), none⟩]) (.seq (.cond (.t 98) .skip (.exit 6)) (.seq (.block 7 (.seq (.ops A_check_reader_message_23) (.ops A_check_reader_message_24))) (.ops A_check_reader_message_25))))
def A_check_reader_message : ACode := (.seq (.ops [⟨some 5, .box 72 7 (.t 1), none⟩]) (.seq (.ops A_check_reader_message_0) (.seq (.ops A_check_reader_message_1) (.seq (.ops A_check_reader_message_2) (.seq (.ops A_check_reader_message_3) (.seq (.ops A_check_reader_message_4) (.seq (.seq (.ops A_check_reader_message_5) (.block 0 (.loop A_check_reader_message_9))) (.seq (.seq (.ops A_check_reader_message_10) (.block 2 (.loop A_check_reader_message_16))) (.seq (.seq (.ops A_check_reader_message_17) (.block 4 (.loop A_check_reader_message_21))) (.seq (.ops A_check_reader_message_22) (.block 6 (.loop A_check_reader_message_26))))))))))))
def R_check_reader_message : List ARes := []
def T_check_reader_message : FC := ⟨106, A_check_reader_message, R_check_reader_message⟩

-- lexicon/texts.Scopes$1
abbrev F_texts_Scopes_c1 : Nat := 96
def A_texts_Scopes_c1_0 : List AOper := [⟨some 4, .ld1 (.t 1), none⟩,
    ⟨some 3, .mov (.t 4), none⟩]
def A_texts_Scopes_c1_1 : List AOper := [⟨some 5, .mov (.t 0), none⟩,
    ⟨some 6, .mov (.t 3), none⟩,
    ⟨some 7, .callv (.t 5) [(.t 6)], none⟩,
    ⟨some 8, .mov (.t 7), none⟩,
    ⟨some 9, .mov (.t 3), some (8, true)⟩,
    ⟨some 10, .bins .neq (.t 9) (.c (.str [])), some (8, true)⟩,
    ⟨some 11, .pick (.t 8) (.t 10) (.c (.bool false)), none⟩]
def A_texts_Scopes_c1_2 : List AOper := [⟨some 13, .mov (.t 3), none⟩,
    ⟨some 14, .call 97 [(.t 13)], none⟩,
    ⟨some 12, .mov (.t 14), none⟩,
    ⟨some 15, .ext 0 (.t 12), none⟩,
    ⟨some 16, .ext 1 (.t 12), none⟩,
    ⟨some 3, .mov (.t 15), none⟩]
def A_texts_Scopes_c1_3 : ACode := (.seq (.seq (.ops A_texts_Scopes_c1_1) (.cond (.t 11) .skip (.exit 0))) (.block 1 (.ops A_texts_Scopes_c1_2)))
def A_texts_Scopes_c1 : ACode := (.seq (.ops A_texts_Scopes_c1_0) (.block 0 (.loop A_texts_Scopes_c1_3)))
def R_texts_Scopes_c1 : List ARes := []
def T_texts_Scopes_c1 : FC := ⟨17, A_texts_Scopes_c1, R_texts_Scopes_c1⟩

-- lexicon/texts.Split
abbrev F_texts_Split : Nat := 97
def A_texts_Split_0 : List AOper := [⟨some 2, .mov (.c (.str [])), none⟩,
    ⟨some 3, .mov (.c (.str [])), none⟩]
def A_texts_Split_1 : List AOper := [⟨some 5, .mov (.t 0), none⟩,
    ⟨some 6, .call 154 [(.t 5), (.c (.int .u8 (46)))], none⟩,
    ⟨some 4, .mov (.t 6), none⟩]
def A_texts_Split_2 : List AOper := [⟨some 7, .mov (.t 4), none⟩,
    ⟨some 8, .bini .lss (.t 7) (.c (.int .i64 (0))), none⟩]
def A_texts_Split_3 : List AOper := [⟨some 9, .mov (.t 0), none⟩,
    ⟨some 2, .mov (.c (.str [])), none⟩,
    ⟨some 3, .mov (.t 9), none⟩]
def A_texts_Split_4 : List AOper := [⟨some 10, .mov (.t 0), none⟩,
    ⟨some 11, .mov (.t 4), none⟩,
    ⟨some 12, .slcs (.t 10) none (some (.t 11)), none⟩,
    ⟨some 13, .mov (.t 0), none⟩,
    ⟨some 14, .mov (.t 4), none⟩,
    ⟨some 15, .bini .add (.t 14) (.c (.int .i64 (1))), none⟩,
    ⟨some 16, .slcs (.t 13) (some (.t 15)) none, none⟩,
    ⟨some 2, .mov (.t 12), none⟩,
    ⟨some 3, .mov (.t 16), none⟩]
def A_texts_Split : ACode := (.seq (.ops A_texts_Split_0) (.seq (.ops A_texts_Split_1) (.seq (.seq (.ops A_texts_Split_2) (.cond (.t 8) (.seq (.ops A_texts_Split_3) .ret) .skip)) (.seq (.alts [10, 11, 12, 13, 14, 15, 16, 2, 3] [A_texts_Split_4]) .ret))))
def R_texts_Split : List ARes := [.tmp 2, .tmp 3]
def T_texts_Split : FC := ⟨17, A_texts_Split, R_texts_Split⟩

-- strings.Join
abbrev F_strings_Join : Nat := 98
def A_strings_Join_0 : List AOper := [⟨some 11, .mov (.t 0), none⟩,
    ⟨some 12, .lenl (.t 11), none⟩]
def A_strings_Join_1 : List AOper := [⟨some 14, .bini .eql (.t 12) (.c (.int .i64 (0))), none⟩,
    ⟨some 13, .mov (.t 14), none⟩]
def A_strings_Join_2 : List AOper := [⟨some 16, .bini .eql (.t 12) (.c (.int .i64 (1))), none⟩,
    ⟨some 15, .mov (.t 16), none⟩]
def A_strings_Join_3 : List AOper := [⟨some 17, .mov (.t 0), none⟩,
    ⟨some 18, .iaddr 9 1 (.t 17) (.c (.int .i64 (0))), none⟩,
    ⟨some 19, .ld1 (.t 18), none⟩,
    ⟨some 4, .mov (.t 19), none⟩]
def A_strings_Join_4 : List AOper := [⟨some 20, .mov (.t 1), none⟩,
    ⟨some 21, .lens (.t 20), none⟩,
    ⟨some 22, .bini .gtr (.t 21) (.c (.int .i64 (0))), none⟩]
def A_strings_Join_5 : List AOper := [⟨some 23, .mov (.t 1), none⟩,
    ⟨some 24, .lens (.t 23), none⟩,
    ⟨some 25, .mov (.t 0), none⟩,
    ⟨some 26, .lenl (.t 25), none⟩,
    ⟨some 27, .bini .sub (.t 26) (.c (.int .i64 (1))), none⟩,
    ⟨some 28, .bini .quo (.c (.int .i64 (9223372036854775807))) (.t 27), none⟩,
    ⟨some 29, .bini .geq (.t 24) (.t 28), none⟩]
def A_strings_Join_6 : List AOper := [⟨some 30, .mkifc 9 (.c (.str [115, 116, 114, 105, 110, 103, 115, 58, 32, 74, 111, 105, 110, 32, 111, 117, 116, 112, 117, 116, 32, 108, 101, 110, 103, 116, 104, 32, 111, 118, 101, 114, 102, 108, 111, 119])), none⟩,
    ⟨none, .pan (.t 30), none⟩]
def A_strings_Join_7 : List AOper := [⟨some 31, .mov (.t 5), none⟩,
    ⟨some 32, .mov (.t 1), none⟩,
    ⟨some 33, .lens (.t 32), none⟩,
    ⟨some 34, .mov (.t 0), none⟩,
    ⟨some 35, .lenl (.t 34), none⟩,
    ⟨some 36, .bini .sub (.t 35) (.c (.int .i64 (1))), none⟩,
    ⟨some 37, .bini .mul (.t 33) (.t 36), none⟩,
    ⟨some 38, .bini .add (.t 31) (.t 37), none⟩,
    ⟨some 5, .mov (.t 38), none⟩]
def A_strings_Join_8 : List AOper := [⟨some 39, .mov (.t 0), none⟩,
    ⟨some 40, .lenl (.t 39), none⟩,
    ⟨some 41, .mov (.c (.int .i64 (0))), none⟩]
def A_strings_Join_9 : List AOper := [⟨some 43, .iaddr 9 1 (.t 39) (.t 41), none⟩,
    ⟨some 44, .ld1 (.t 43), none⟩,
    ⟨some 7, .mov (.t 44), none⟩]
def A_strings_Join_10 : List AOper := [⟨some 45, .mov (.t 7), none⟩,
    ⟨some 46, .lens (.t 45), none⟩,
    ⟨some 47, .mov (.t 5), none⟩,
    ⟨some 48, .bini .sub (.c (.int .i64 (9223372036854775807))) (.t 47), none⟩,
    ⟨some 49, .bini .gtr (.t 46) (.t 48), none⟩]
def A_strings_Join_11 : List AOper := [⟨some 50, .mkifc 9 (.c (.str [115, 116, 114, 105, 110, 103, 115, 58, 32, 74, 111, 105, 110, 32, 111, 117, 116, 112, 117, 116, 32, 108, 101, 110, 103, 116, 104, 32, 111, 118, 101, 114, 102, 108, 111, 119])), none⟩,
    ⟨none, .pan (.t 50), none⟩]
def A_strings_Join_12 : List AOper := [⟨some 51, .mov (.t 5), none⟩,
    ⟨some 52, .mov (.t 7), none⟩,
    ⟨some 53, .lens (.t 52), none⟩,
    ⟨some 54, .bini .add (.t 51) (.t 53), none⟩,
    ⟨some 5, .mov (.t 54), none⟩]
def A_strings_Join_13 : List AOper := [⟨some 55, .bini .add (.t 41) (.c (.int .i64 (1))), none⟩,
    ⟨some 41, .mov (.t 55), none⟩]
def A_strings_Join_14 : ACode := (.seq (.ops [⟨some 42, .bini .lss (.t 41) (.t 40), none⟩]) (.seq (.cond (.t 42) .skip (.exit 1)) (.seq (.block 2 (.seq (.ops A_strings_Join_9) (.seq (.seq (.ops A_strings_Join_10) (.cond (.t 49) (.ops A_strings_Join_11) .skip)) (.ops A_strings_Join_12)))) (.ops A_strings_Join_13))))
def A_strings_Join_15 : List AOper := [⟨some 56, .mov (.t 5), none⟩,
    ⟨some 57, .call 155 [(.t 8), (.t 56)], none⟩]
def A_strings_Join_16 : List AOper := [⟨some 58, .mov (.t 0), none⟩,
    ⟨some 59, .iaddr 9 1 (.t 58) (.c (.int .i64 (0))), none⟩,
    ⟨some 60, .ld1 (.t 59), none⟩,
    ⟨some 61, .call 156 [(.t 8), (.t 60)], none⟩]
def A_strings_Join_17 : List AOper := [⟨some 62, .mov (.t 0), none⟩,
    ⟨some 63, .slcl 9 1 (.t 62) (some (.c (.int .i64 (1)))) none none, none⟩,
    ⟨some 64, .lenl (.t 63), none⟩,
    ⟨some 65, .mov (.c (.int .i64 (0))), none⟩]
def A_strings_Join_18 : List AOper := [⟨some 67, .iaddr 9 1 (.t 63) (.t 65), none⟩,
    ⟨some 68, .ld1 (.t 67), none⟩,
    ⟨some 10, .mov (.t 68), none⟩]
def A_strings_Join_19 : List AOper := [⟨some 69, .mov (.t 1), none⟩,
    ⟨some 70, .call 156 [(.t 8), (.t 69)], none⟩]
def A_strings_Join_20 : List AOper := [⟨some 71, .mov (.t 10), none⟩,
    ⟨some 72, .call 156 [(.t 8), (.t 71)], none⟩]
def A_strings_Join_21 : List AOper := [⟨some 73, .bini .add (.t 65) (.c (.int .i64 (1))), none⟩,
    ⟨some 65, .mov (.t 73), none⟩]
def A_strings_Join_22 : ACode := (.seq (.ops [⟨some 66, .bini .lss (.t 65) (.t 64), none⟩]) (.seq (.cond (.t 66) .skip (.exit 3)) (.seq (.block 4 (.seq (.ops A_strings_Join_18) (.seq (.ops A_strings_Join_19) (.ops A_strings_Join_20)))) (.ops A_strings_Join_21))))
def A_strings_Join_23 : List AOper := [⟨some 74, .call 157 [(.t 8)], none⟩,
    ⟨some 4, .mov (.t 74), none⟩]
def A_strings_Join : ACode := (.seq (.ops [⟨some 4, .mov (.c (.str [])), none⟩]) (.seq (.seq (.ops A_strings_Join_0) (.block 0 (.seq (.ops A_strings_Join_1) (.cond (.t 13) (.seq (.ops [⟨some 4, .mov (.c (.str [])), none⟩]) .ret) (.seq (.ops A_strings_Join_2) (.cond (.t 15) (.seq (.ops A_strings_Join_3) .ret) .skip)))))) (.seq (.ops [⟨some 5, .mov (.c (.int .i64 (0))), none⟩]) (.seq (.seq (.ops A_strings_Join_4) (.cond (.t 22) (.seq (.seq (.ops A_strings_Join_5) (.cond (.t 29) (.ops A_strings_Join_6) .skip)) (.ops A_strings_Join_7)) .skip)) (.seq (.seq (.ops A_strings_Join_8) (.block 1 (.loop A_strings_Join_14))) (.seq (.ops [⟨some 8, .box 293 2 (.c (.agg [.nilp, .nils])), none⟩]) (.seq (.ops A_strings_Join_15) (.seq (.ops A_strings_Join_16) (.seq (.seq (.ops A_strings_Join_17) (.block 3 (.loop A_strings_Join_22))) (.seq (.ops A_strings_Join_23) .ret))))))))))
def R_strings_Join : List ARes := [.tmp 4]
def T_strings_Join : FC := ⟨75, A_strings_Join, R_strings_Join⟩

-- slices.stableCmpFunc[lexicon/api.Symbol]
abbrev F_slices_stableCmpFunc_api_Symbol : Nat := 99
def A_slices_stableCmpFunc_api_Symbol_0 : List AOper := [⟨some 10, .mov (.t 6), none⟩,
    ⟨some 7, .mov (.c (.int .i64 (0))), none⟩,
    ⟨some 8, .mov (.t 10), none⟩]
def A_slices_stableCmpFunc_api_Symbol_1 : List AOper := [⟨some 11, .mov (.t 8), none⟩,
    ⟨some 12, .mov (.t 1), none⟩,
    ⟨some 13, .bini .leq (.t 11) (.t 12), none⟩]
def A_slices_stableCmpFunc_api_Symbol_2 : List AOper := [⟨some 14, .mov (.t 0), none⟩,
    ⟨some 15, .mov (.t 7), none⟩,
    ⟨some 16, .mov (.t 8), none⟩,
    ⟨some 17, .mov (.t 2), none⟩,
    ⟨some 18, .call 158 [(.t 14), (.t 15), (.t 16), (.t 17)], none⟩]
def A_slices_stableCmpFunc_api_Symbol_3 : List AOper := [⟨some 19, .mov (.t 8), none⟩,
    ⟨some 7, .mov (.t 19), none⟩]
def A_slices_stableCmpFunc_api_Symbol_4 : List AOper := [⟨some 20, .mov (.t 8), none⟩,
    ⟨some 21, .mov (.t 6), none⟩,
    ⟨some 22, .bini .add (.t 20) (.t 21), none⟩,
    ⟨some 8, .mov (.t 22), none⟩]
def A_slices_stableCmpFunc_api_Symbol_5 : ACode := (.seq (.seq (.ops A_slices_stableCmpFunc_api_Symbol_1) (.cond (.t 13) .skip (.exit 0))) (.block 1 (.seq (.ops A_slices_stableCmpFunc_api_Symbol_2) (.seq (.ops A_slices_stableCmpFunc_api_Symbol_3) (.ops A_slices_stableCmpFunc_api_Symbol_4)))))
def A_slices_stableCmpFunc_api_Symbol_6 : List AOper := [⟨some 23, .mov (.t 0), none⟩,
    ⟨some 24, .mov (.t 7), none⟩,
    ⟨some 25, .mov (.t 1), none⟩,
    ⟨some 26, .mov (.t 2), none⟩,
    ⟨some 27, .call 158 [(.t 23), (.t 24), (.t 25), (.t 26)], none⟩]
def A_slices_stableCmpFunc_api_Symbol_7 : List AOper := [⟨some 28, .mov (.t 6), none⟩,
    ⟨some 29, .mov (.t 1), none⟩,
    ⟨some 30, .bini .lss (.t 28) (.t 29), none⟩]
def A_slices_stableCmpFunc_api_Symbol_8 : List AOper := [⟨some 31, .mov (.t 6), none⟩,
    ⟨some 32, .bini .mul (.c (.int .i64 (2))) (.t 31), none⟩,
    ⟨some 7, .mov (.c (.int .i64 (0))), none⟩,
    ⟨some 8, .mov (.t 32), none⟩]
def A_slices_stableCmpFunc_api_Symbol_9 : List AOper := [⟨some 33, .mov (.t 8), none⟩,
    ⟨some 34, .mov (.t 1), none⟩,
    ⟨some 35, .bini .leq (.t 33) (.t 34), none⟩]
def A_slices_stableCmpFunc_api_Symbol_10 : List AOper := [⟨some 36, .mov (.t 0), none⟩,
    ⟨some 37, .mov (.t 7), none⟩,
    ⟨some 38, .mov (.t 7), none⟩,
    ⟨some 39, .mov (.t 6), none⟩,
    ⟨some 40, .bini .add (.t 38) (.t 39), none⟩,
    ⟨some 41, .mov (.t 8), none⟩,
    ⟨some 42, .mov (.t 2), none⟩,
    ⟨some 43, .call 159 [(.t 36), (.t 37), (.t 40), (.t 41), (.t 42)], none⟩]
def A_slices_stableCmpFunc_api_Symbol_11 : List AOper := [⟨some 44, .mov (.t 8), none⟩,
    ⟨some 7, .mov (.t 44), none⟩]
def A_slices_stableCmpFunc_api_Symbol_12 : List AOper := [⟨some 45, .mov (.t 8), none⟩,
    ⟨some 46, .mov (.t 6), none⟩,
    ⟨some 47, .bini .mul (.c (.int .i64 (2))) (.t 46), none⟩,
    ⟨some 48, .bini .add (.t 45) (.t 47), none⟩,
    ⟨some 8, .mov (.t 48), none⟩]
def A_slices_stableCmpFunc_api_Symbol_13 : ACode := (.seq (.seq (.ops A_slices_stableCmpFunc_api_Symbol_9) (.cond (.t 35) .skip (.exit 4))) (.block 5 (.seq (.ops A_slices_stableCmpFunc_api_Symbol_10) (.seq (.ops A_slices_stableCmpFunc_api_Symbol_11) (.ops A_slices_stableCmpFunc_api_Symbol_12)))))
def A_slices_stableCmpFunc_api_Symbol_14 : List AOper := [⟨some 49, .mov (.t 7), none⟩,
    ⟨some 50, .mov (.t 6), none⟩,
    ⟨some 51, .bini .add (.t 49) (.t 50), none⟩,
    ⟨some 9, .mov (.t 51), none⟩]
def A_slices_stableCmpFunc_api_Symbol_15 : List AOper := [⟨some 52, .mov (.t 9), none⟩,
    ⟨some 53, .mov (.t 1), none⟩,
    ⟨some 54, .bini .lss (.t 52) (.t 53), none⟩]
def A_slices_stableCmpFunc_api_Symbol_16 : List AOper := [⟨some 55, .mov (.t 0), none⟩,
    ⟨some 56, .mov (.t 7), none⟩,
    ⟨some 57, .mov (.t 9), none⟩,
    ⟨some 58, .mov (.t 1), none⟩,
    ⟨some 59, .mov (.t 2), none⟩,
    ⟨some 60, .call 159 [(.t 55), (.t 56), (.t 57), (.t 58), (.t 59)], none⟩]
def A_slices_stableCmpFunc_api_Symbol_17 : List AOper := [⟨some 61, .mov (.t 6), none⟩,
    ⟨some 62, .bini .mul (.t 61) (.c (.int .i64 (2))), none⟩,
    ⟨some 6, .mov (.t 62), none⟩]
def A_slices_stableCmpFunc_api_Symbol_18 : ACode := (.seq (.seq (.ops A_slices_stableCmpFunc_api_Symbol_7) (.cond (.t 30) .skip (.exit 2))) (.block 3 (.seq (.ops A_slices_stableCmpFunc_api_Symbol_8) (.seq (.block 4 (.loop A_slices_stableCmpFunc_api_Symbol_13)) (.seq (.seq (.ops A_slices_stableCmpFunc_api_Symbol_14) (.seq (.ops A_slices_stableCmpFunc_api_Symbol_15) (.cond (.t 54) (.ops A_slices_stableCmpFunc_api_Symbol_16) .skip))) (.ops A_slices_stableCmpFunc_api_Symbol_17))))))
def A_slices_stableCmpFunc_api_Symbol : ACode := (.seq (.ops [⟨some 6, .mov (.c (.int .i64 (20))), none⟩]) (.seq (.ops A_slices_stableCmpFunc_api_Symbol_0) (.seq (.block 0 (.loop A_slices_stableCmpFunc_api_Symbol_5)) (.seq (.ops A_slices_stableCmpFunc_api_Symbol_6) (.block 2 (.loop A_slices_stableCmpFunc_api_Symbol_18))))))
def R_slices_stableCmpFunc_api_Symbol : List ARes := []
def T_slices_stableCmpFunc_api_Symbol : FC := ⟨63, A_slices_stableCmpFunc_api_Symbol, R_slices_stableCmpFunc_api_Symbol⟩

-- cmp.isNaN[string]
abbrev F_cmp_isNaN_string : Nat := 100
def A_cmp_isNaN_string_0 : List AOper := [⟨some 3, .mov (.t 0), none⟩,
    ⟨some 4, .mov (.t 0), none⟩,
    ⟨some 5, .bins .neq (.t 3) (.t 4), none⟩,
    ⟨some 2, .mov (.t 5), none⟩]
def A_cmp_isNaN_string : ACode := (.seq (.ops [⟨some 2, .mov (.c (.bool false)), none⟩]) (.seq (.ops A_cmp_isNaN_string_0) .ret))
def R_cmp_isNaN_string : List ARes := [.tmp 2]
def T_cmp_isNaN_string : FC := ⟨6, A_cmp_isNaN_string, R_cmp_isNaN_string⟩

-- cmp.isNaN[lexicon/api.Sort]
abbrev F_cmp_isNaN_api_Sort : Nat := 101
def A_cmp_isNaN_api_Sort_0 : List AOper := [⟨some 3, .mov (.t 0), none⟩,
    ⟨some 4, .mov (.t 0), none⟩,
    ⟨some 5, .bini .neq (.t 3) (.t 4), none⟩,
    ⟨some 2, .mov (.t 5), none⟩]
def A_cmp_isNaN_api_Sort : ACode := (.seq (.ops [⟨some 2, .mov (.c (.bool false)), none⟩]) (.seq (.ops A_cmp_isNaN_api_Sort_0) .ret))
def R_cmp_isNaN_api_Sort : List ARes := [.tmp 2]
def T_cmp_isNaN_api_Sort : FC := ⟨6, A_cmp_isNaN_api_Sort, R_cmp_isNaN_api_Sort⟩

-- (*lexicon/link.Linked).means
abbrev F_link_Linked_means : Nat := 102
def A_link_Linked_means_0 : List AOper := [⟨some 8, .mov (.c (.str [])), none⟩,
    ⟨some 9, .mov (.c (.int .u8 (0))), none⟩,
    ⟨some 10, .mov (.c (.int .i64 (0))), none⟩]
def A_link_Linked_means_1 : List AOper := [⟨some 20, .mov (.t 0), none⟩,
    ⟨some 21, .mov (.t 1), none⟩,
    ⟨some 22, .nilc (.t 21), none⟩,
    ⟨some 23, .faddr 5 (.t 22), none⟩,
    ⟨some 24, .ld1 (.t 23), none⟩,
    ⟨some 25, .call 162 [(.t 24)], none⟩,
    ⟨some 26, .call 40 [(.t 25)], none⟩,
    ⟨some 27, .call 161 [(.t 20), (.t 26)], none⟩,
    ⟨some 28, .mov (.t 0), none⟩,
    ⟨some 29, .mov (.t 0), none⟩,
    ⟨some 30, .call 20 [(.t 29)], none⟩,
    ⟨some 31, .call 161 [(.t 28), (.t 30)], none⟩,
    ⟨some 12, .mov (.t 27), none⟩,
    ⟨some 13, .mov (.t 31), none⟩]
def A_link_Linked_means_2 : List AOper := [⟨some 33, .mov (.t 0), none⟩,
    ⟨some 34, .mov (.t 12), none⟩,
    ⟨some 35, .mov (.t 2), none⟩,
    ⟨some 36, .mov (.t 3), none⟩,
    ⟨some 37, .call 163 [(.t 33), (.t 34), (.t 35), (.t 36)], none⟩,
    ⟨some 32, .mov (.t 37), none⟩,
    ⟨some 38, .ext 0 (.t 32), none⟩,
    ⟨some 39, .ext 1 (.t 32), none⟩,
    ⟨some 14, .mov (.t 38), none⟩,
    ⟨some 15, .mov (.t 39), none⟩]
def A_link_Linked_means_3 : List AOper := [⟨some 40, .mov (.t 12), none⟩,
    ⟨some 41, .mov (.t 14), none⟩,
    ⟨some 42, .call 164 [(.t 40), (.t 41)], none⟩,
    ⟨some 16, .mov (.t 42), none⟩]
def A_link_Linked_means_4 : List AOper := [⟨some 43, .mov (.t 15), none⟩,
    ⟨some 44, .mov (.t 43), none⟩,
    ⟨some 45, .mov (.t 11), some (44, true)⟩,
    ⟨some 46, .mov (.t 16), some (44, true)⟩,
    ⟨some 47, .callv (.t 45) [(.t 46)], some (44, true)⟩,
    ⟨some 48, .pick (.t 44) (.t 47) (.c (.bool false)), none⟩]
def A_link_Linked_means_5 : List AOper := [⟨some 49, .mov (.t 14), none⟩,
    ⟨some 50, .mov (.t 16), none⟩,
    ⟨some 8, .mov (.t 49), none⟩,
    ⟨some 9, .mov (.t 50), none⟩,
    ⟨some 10, .mov (.c (.int .i64 (0))), none⟩]
def A_link_Linked_means_6 : List AOper := [⟨some 52, .mov (.t 0), none⟩,
    ⟨some 53, .mov (.t 13), none⟩,
    ⟨some 54, .mov (.t 2), none⟩,
    ⟨some 55, .mov (.t 3), none⟩,
    ⟨some 56, .call 163 [(.t 52), (.t 53), (.t 54), (.t 55)], none⟩,
    ⟨some 51, .mov (.t 56), none⟩,
    ⟨some 57, .ext 0 (.t 51), none⟩,
    ⟨some 58, .ext 1 (.t 51), none⟩,
    ⟨some 17, .mov (.t 57), none⟩,
    ⟨some 18, .mov (.t 58), none⟩]
def A_link_Linked_means_7 : List AOper := [⟨some 59, .mov (.t 13), none⟩,
    ⟨some 60, .mov (.t 17), none⟩,
    ⟨some 61, .call 164 [(.t 59), (.t 60)], none⟩,
    ⟨some 19, .mov (.t 61), none⟩]
def A_link_Linked_means_8 : List AOper := [⟨some 63, .mov (.t 18), none⟩,
    ⟨some 64, .mov (.t 63), none⟩,
    ⟨some 65, .mov (.t 11), some (64, true)⟩,
    ⟨some 66, .mov (.t 19), some (64, true)⟩,
    ⟨some 67, .callv (.t 65) [(.t 66)], some (64, true)⟩,
    ⟨some 68, .pick (.t 64) (.t 67) (.c (.bool false)), none⟩,
    ⟨some 62, .mov (.t 68), none⟩]
def A_link_Linked_means_9 : List AOper := [⟨some 8, .mov (.c (.str [])), none⟩,
    ⟨some 9, .mov (.c (.int .u8 (0))), none⟩,
    ⟨some 10, .mov (.c (.int .i64 (85))), none⟩]
def A_link_Linked_means_10 : List AOper := [⟨some 70, .mov (.t 15), none⟩,
    ⟨some 71, .mov (.t 70), none⟩,
    ⟨some 72, .mov (.t 16), some (71, true)⟩,
    ⟨some 73, .bini .neq (.t 72) (.c (.int .u8 (0))), some (71, true)⟩,
    ⟨some 74, .pick (.t 71) (.t 73) (.c (.bool false)), none⟩,
    ⟨some 75, .mov (.t 74), none⟩,
    ⟨some 76, .mov (.t 18), some (75, false)⟩,
    ⟨some 77, .mov (.t 76), some (75, false)⟩,
    ⟨some 78, .mov (.t 19), some (77, true)⟩,
    ⟨some 79, .bini .neq (.t 78) (.c (.int .u8 (0))), some (77, true)⟩,
    ⟨some 80, .pick (.t 77) (.t 79) (.c (.bool false)), some (75, false)⟩,
    ⟨some 81, .pick (.t 75) (.c (.bool true)) (.t 80), none⟩,
    ⟨some 69, .mov (.t 81), none⟩]
def A_link_Linked_means_11 : List AOper := [⟨some 8, .mov (.c (.str [])), none⟩,
    ⟨some 9, .mov (.c (.int .u8 (0))), none⟩,
    ⟨some 10, .mov (.c (.int .i64 (86))), none⟩]
def A_link_Linked_means_12 : List AOper := [⟨some 8, .mov (.c (.str [])), none⟩,
    ⟨some 9, .mov (.c (.int .u8 (0))), none⟩,
    ⟨some 10, .mov (.c (.int .i64 (84))), none⟩]
def A_link_Linked_means : ACode := (.seq (.ops A_link_Linked_means_0) (.seq (.ops [⟨some 11, .mov (.f 160), none⟩]) (.seq (.ops A_link_Linked_means_1) (.seq (.ops A_link_Linked_means_2) (.seq (.ops A_link_Linked_means_3) (.seq (.seq (.ops A_link_Linked_means_4) (.cond (.t 48) (.seq (.ops A_link_Linked_means_5) .ret) .skip)) (.seq (.ops A_link_Linked_means_6) (.seq (.ops A_link_Linked_means_7) (.seq (.block 0 (.seq (.ops A_link_Linked_means_8) (.cond (.t 62) (.seq (.ops A_link_Linked_means_9) .ret) (.seq (.ops A_link_Linked_means_10) (.cond (.t 69) (.seq (.ops A_link_Linked_means_11) .ret) .skip))))) (.seq (.ops A_link_Linked_means_12) .ret))))))))))
def R_link_Linked_means : List ARes := [.tmp 8, .tmp 9, .tmp 10]
def T_link_Linked_means : FC := ⟨82, A_link_Linked_means, R_link_Linked_means⟩

-- slices.Index[[]string,string]
abbrev F_slices_Index_string_string : Nat := 103
def A_slices_Index_string_string_0 : List AOper := [⟨some 6, .mov (.t 0), none⟩,
    ⟨some 7, .lenl (.t 6), none⟩,
    ⟨some 8, .mov (.c (.int .i64 (0))), none⟩]
def A_slices_Index_string_string_1 : List AOper := [⟨some 10, .mov (.t 8), none⟩,
    ⟨some 5, .mov (.t 10), none⟩]
def A_slices_Index_string_string_2 : List AOper := [⟨some 11, .mov (.t 1), none⟩,
    ⟨some 12, .mov (.t 0), none⟩,
    ⟨some 13, .mov (.t 5), none⟩,
    ⟨some 14, .iaddr 9 1 (.t 12) (.t 13), none⟩,
    ⟨some 15, .ld1 (.t 14), none⟩,
    ⟨some 16, .bins .eql (.t 11) (.t 15), none⟩]
def A_slices_Index_string_string_3 : List AOper := [⟨some 17, .mov (.t 5), none⟩,
    ⟨some 4, .mov (.t 17), none⟩]
def A_slices_Index_string_string_4 : List AOper := [⟨some 18, .bini .add (.t 8) (.c (.int .i64 (1))), none⟩,
    ⟨some 8, .mov (.t 18), none⟩]
def A_slices_Index_string_string_5 : ACode := (.seq (.ops [⟨some 9, .bini .lss (.t 8) (.t 7), none⟩]) (.seq (.cond (.t 9) .skip (.exit 0)) (.seq (.block 1 (.seq (.ops A_slices_Index_string_string_1) (.seq (.ops A_slices_Index_string_string_2) (.cond (.t 16) (.seq (.ops A_slices_Index_string_string_3) .ret) .skip)))) (.ops A_slices_Index_string_string_4))))
def A_slices_Index_string_string : ACode := (.seq (.ops [⟨some 4, .mov (.c (.int .i64 (0))), none⟩]) (.seq (.seq (.ops A_slices_Index_string_string_0) (.block 0 (.loop A_slices_Index_string_string_5))) (.seq (.ops [⟨some 4, .mov (.c (.int .i64 (-1))), none⟩]) .ret)))
def R_slices_Index_string_string : List ARes := [.tmp 4]
def T_slices_Index_string_string : FC := ⟨19, A_slices_Index_string_string, R_slices_Index_string_string⟩

-- slices.insertionSortOrdered[string]
abbrev F_slices_insertionSortOrdered_string : Nat := 104
def A_slices_insertionSortOrdered_string_0 : List AOper := [⟨some 8, .mov (.t 1), none⟩,
    ⟨some 9, .bini .add (.t 8) (.c (.int .i64 (1))), none⟩,
    ⟨some 6, .mov (.t 9), none⟩]
def A_slices_insertionSortOrdered_string_1 : List AOper := [⟨some 10, .mov (.t 6), none⟩,
    ⟨some 11, .mov (.t 2), none⟩,
    ⟨some 12, .bini .lss (.t 10) (.t 11), none⟩]
def A_slices_insertionSortOrdered_string_2 : List AOper := [⟨some 15, .mov (.t 6), none⟩,
    ⟨some 7, .mov (.t 15), none⟩]
def A_slices_insertionSortOrdered_string_3 : List AOper := [⟨some 16, .mov (.t 7), none⟩,
    ⟨some 17, .mov (.t 1), none⟩,
    ⟨some 18, .bini .gtr (.t 16) (.t 17), none⟩,
    ⟨some 19, .mov (.t 18), none⟩,
    ⟨some 20, .mov (.t 0), some (19, true)⟩,
    ⟨some 21, .mov (.t 7), some (19, true)⟩,
    ⟨some 22, .iaddr 9 1 (.t 20) (.t 21), some (19, true)⟩,
    ⟨some 23, .ld1 (.t 22), some (19, true)⟩,
    ⟨some 24, .mov (.t 0), some (19, true)⟩,
    ⟨some 25, .mov (.t 7), some (19, true)⟩,
    ⟨some 26, .bini .sub (.t 25) (.c (.int .i64 (1))), some (19, true)⟩,
    ⟨some 27, .iaddr 9 1 (.t 24) (.t 26), some (19, true)⟩,
    ⟨some 28, .ld1 (.t 27), some (19, true)⟩,
    ⟨some 29, .call 110 [(.t 23), (.t 28)], some (19, true)⟩,
    ⟨some 30, .pick (.t 19) (.t 29) (.c (.bool false)), none⟩]
def A_slices_insertionSortOrdered_string_4 : List AOper := [⟨some 33, .mov (.t 0), none⟩,
    ⟨some 34, .mov (.t 7), none⟩,
    ⟨some 35, .mov (.t 0), none⟩,
    ⟨some 36, .mov (.t 7), none⟩,
    ⟨some 37, .bini .sub (.t 36) (.c (.int .i64 (1))), none⟩,
    ⟨some 38, .mov (.t 0), none⟩,
    ⟨some 39, .mov (.t 7), none⟩,
    ⟨some 40, .bini .sub (.t 39) (.c (.int .i64 (1))), none⟩,
    ⟨some 41, .iaddr 9 1 (.t 38) (.t 40), none⟩,
    ⟨some 42, .ld1 (.t 41), none⟩,
    ⟨some 43, .mov (.t 0), none⟩,
    ⟨some 44, .mov (.t 7), none⟩,
    ⟨some 45, .iaddr 9 1 (.t 43) (.t 44), none⟩,
    ⟨some 46, .ld1 (.t 45), none⟩,
    ⟨some 47, .iaddr 9 1 (.t 33) (.t 34), none⟩,
    ⟨none, .st 1 (.t 47) (.t 42), none⟩,
    ⟨some 48, .iaddr 9 1 (.t 35) (.t 37), none⟩,
    ⟨none, .st 1 (.t 48) (.t 46), none⟩]
def A_slices_insertionSortOrdered_string_5 : List AOper := [⟨some 31, .mov (.t 7), none⟩,
    ⟨some 32, .bini .sub (.t 31) (.c (.int .i64 (1))), none⟩,
    ⟨some 7, .mov (.t 32), none⟩]
def A_slices_insertionSortOrdered_string_6 : ACode := (.seq (.seq (.alts [16, 17, 18, 19, 20, 21, 22, 23, 24, 25, 26, 27, 28, 29, 30] [A_slices_insertionSortOrdered_string_3]) (.cond (.t 30) .skip (.exit 2))) (.seq (.block 3 (.alts [33, 34, 35, 36, 37, 38, 39, 40, 41, 42, 43, 44, 45, 46, 47, 48] [A_slices_insertionSortOrdered_string_4])) (.ops A_slices_insertionSortOrdered_string_5)))
def A_slices_insertionSortOrdered_string_7 : List AOper := [⟨some 13, .mov (.t 6), none⟩,
    ⟨some 14, .bini .add (.t 13) (.c (.int .i64 (1))), none⟩,
    ⟨some 6, .mov (.t 14), none⟩]
def A_slices_insertionSortOrdered_string_8 : ACode := (.seq (.seq (.ops A_slices_insertionSortOrdered_string_1) (.cond (.t 12) .skip (.exit 0))) (.seq (.block 1 (.seq (.ops A_slices_insertionSortOrdered_string_2) (.block 2 (.loop A_slices_insertionSortOrdered_string_6)))) (.ops A_slices_insertionSortOrdered_string_7)))
def A_slices_insertionSortOrdered_string : ACode := (.seq (.ops A_slices_insertionSortOrdered_string_0) (.block 0 (.loop A_slices_insertionSortOrdered_string_8)))
def R_slices_insertionSortOrdered_string : List ARes := []
def T_slices_insertionSortOrdered_string : FC := ⟨49, A_slices_insertionSortOrdered_string, R_slices_insertionSortOrdered_string⟩
end Go.Proofs.YtmnhoegjccdkpadGreatDoor
