/- The codes of functions as the logic has them; each is what the logic makes of the given program (by the kernel). Printed by program (gen_all.py). -/
import Derived.Test.YtmnhoegjccdkpabGreatDoorEc
import Derived.Test.YtmnhoegjccdkpabGreatDoorProg
import Derived.KernelRfl
namespace Go.Proofs.YtmnhoegjccdkpabGreatDoor
open Go.L

-- lexicon/texts.Good[string]
abbrev F_texts_Good_string : Nat := 83
def A_texts_Good_string_0 : List AOper := [⟨some 7, .mov (.t 0), none⟩,
    ⟨some 8, .rngs (.t 7), none⟩]
def A_texts_Good_string_1 : List AOper := [⟨some 9, .nxs (.t 8), none⟩,
    ⟨some 10, .ext 0 (.t 9), none⟩]
def A_texts_Good_string_2 : List AOper := [⟨some 11, .ext 1 (.t 9), none⟩,
    ⟨some 12, .ext 2 (.t 9), none⟩,
    ⟨some 3, .mov (.t 11), none⟩,
    ⟨some 4, .mov (.t 12), none⟩]
def A_texts_Good_string_3 : List AOper := [⟨some 13, .mov (.t 4), none⟩,
    ⟨some 14, .bini .neq (.t 13) (.c (.int .i32 (65533))), none⟩]
def A_texts_Good_string_4 : List AOper := [⟨some 16, .mov (.t 0), none⟩,
    ⟨some 17, .mov (.t 3), none⟩,
    ⟨some 18, .slcs (.t 16) (some (.t 17)) none, none⟩,
    ⟨some 19, .call 116 [(.t 18)], none⟩,
    ⟨some 15, .mov (.t 19), none⟩,
    ⟨some 20, .ext 0 (.t 15), none⟩,
    ⟨some 21, .ext 1 (.t 15), none⟩,
    ⟨some 5, .mov (.t 20), none⟩,
    ⟨some 6, .mov (.t 21), none⟩]
def A_texts_Good_string_5 : List AOper := [⟨some 22, .mov (.t 6), none⟩,
    ⟨some 23, .bini .eql (.t 22) (.c (.int .i64 (1))), none⟩]
def A_texts_Good_string_6 : List AOper := [⟨some 24, .mov (.t 3), none⟩,
    ⟨some 2, .mov (.t 24), none⟩]
def A_texts_Good_string_7 : ACode := (.seq (.ops A_texts_Good_string_1) (.seq (.cond (.t 10) .skip (.exit 0)) (.block 1 (.seq (.ops A_texts_Good_string_2) (.seq (.seq (.ops A_texts_Good_string_3) (.cond (.t 14) (.exit 1) .skip)) (.seq (.ops A_texts_Good_string_4) (.seq (.ops A_texts_Good_string_5) (.cond (.t 23) (.seq (.ops A_texts_Good_string_6) .ret) .skip))))))))
def A_texts_Good_string : ACode := (.seq (.ops [⟨some 2, .mov (.c (.int .i64 (0))), none⟩]) (.seq (.seq (.ops A_texts_Good_string_0) (.block 0 (.loop A_texts_Good_string_7))) (.seq (.ops [⟨some 2, .mov (.c (.int .i64 (-1))), none⟩]) .ret)))
def R_texts_Good_string : List ARes := [.tmp 2]
theorem C_texts_Good_string : compF Tryz.prog Tryz.f83 = some (A_texts_Good_string, R_texts_Good_string) := by kernel_rfl
def T_texts_Good_string : FC := ⟨25, A_texts_Good_string, R_texts_Good_string⟩
theorem G_texts_Good_string : GoodFC Tryz.prog F_texts_Good_string T_texts_Good_string := ⟨Tryz.f83, Tryz.func83, Tryz.ntmps83, C_texts_Good_string, by kernel_rfl⟩

-- slices.Clone[[]byte,byte]
abbrev F_slices_Clone_byte_byte : Nat := 85
def A_slices_Clone_byte_byte_0 : List AOper := [⟨some 3, .mov (.t 0), none⟩,
    ⟨some 4, .isnil .sl false (.t 3), none⟩]
def A_slices_Clone_byte_byte_1 : List AOper := [⟨some 5, .bslice0 5, none⟩,
    ⟨some 6, .mov (.t 0), none⟩,
    ⟨some 7, .app 5 1 1 (.t 5) (.t 6), none⟩,
    ⟨some 2, .mov (.t 7), none⟩]
def A_slices_Clone_byte_byte : ACode := (.seq (.ops [⟨some 2, .mov (.c (.nils)), none⟩]) (.seq (.seq (.ops A_slices_Clone_byte_byte_0) (.cond (.t 4) (.seq (.ops [⟨some 2, .mov (.c (.nils)), none⟩]) .ret) .skip)) (.seq (.ops A_slices_Clone_byte_byte_1) .ret)))
def R_slices_Clone_byte_byte : List ARes := [.tmp 2]
theorem C_slices_Clone_byte_byte : compF Tryz.prog Tryz.f85 = some (A_slices_Clone_byte_byte, R_slices_Clone_byte_byte) := by kernel_rfl
def T_slices_Clone_byte_byte : FC := ⟨8, A_slices_Clone_byte_byte, R_slices_Clone_byte_byte⟩
theorem G_slices_Clone_byte_byte : GoodFC Tryz.prog F_slices_Clone_byte_byte T_slices_Clone_byte_byte := ⟨Tryz.f85, Tryz.func85, Tryz.ntmps85, C_slices_Clone_byte_byte, by kernel_rfl⟩

-- lexicon/link.cloneMessage
abbrev F_link_cloneMessage : Nat := 87
def A_link_cloneMessage_0 : List AOper := [⟨some 1, .box 76 7 (.t 0), none⟩,
    ⟨some 2, .box 76 7 (.c (.agg [.str [], .nils, .nils, .nils, .nils, .nils, .nils])), none⟩]
def A_link_cloneMessage_1 : List AOper := [⟨some 3, .faddr 1 (.t 1), none⟩,
    ⟨some 4, .ld1 (.t 3), none⟩,
    ⟨some 5, .call 120 [(.t 4)], none⟩,
    ⟨some 6, .faddr 1 (.t 1), none⟩,
    ⟨none, .st 1 (.t 6) (.t 5), none⟩]
def A_link_cloneMessage_2 : List AOper := [⟨some 7, .faddr 2 (.t 1), none⟩,
    ⟨some 8, .ld1 (.t 7), none⟩,
    ⟨some 9, .call 121 [(.t 8)], none⟩,
    ⟨some 10, .faddr 2 (.t 1), none⟩,
    ⟨none, .st 1 (.t 10) (.t 9), none⟩]
def A_link_cloneMessage_3 : List AOper := [⟨some 11, .faddr 5 (.t 1), none⟩,
    ⟨some 12, .ld1 (.t 11), none⟩,
    ⟨some 13, .call 122 [(.t 12)], none⟩,
    ⟨some 14, .faddr 5 (.t 1), none⟩,
    ⟨none, .st 1 (.t 14) (.t 13), none⟩]
def A_link_cloneMessage_4 : List AOper := [⟨some 15, .faddr 6 (.t 1), none⟩,
    ⟨some 16, .ld1 (.t 15), none⟩,
    ⟨some 17, .call 121 [(.t 16)], none⟩,
    ⟨some 18, .faddr 6 (.t 1), none⟩,
    ⟨none, .st 1 (.t 18) (.t 17), none⟩]
def A_link_cloneMessage_5 : List AOper := [⟨some 20, .faddr 3 (.t 1), none⟩,
    ⟨some 21, .ld1 (.t 20), none⟩,
    ⟨some 22, .faddr 4 (.t 1), none⟩,
    ⟨some 23, .ld1 (.t 22), none⟩,
    ⟨some 24, .call 61 [(.t 21), (.t 23)], none⟩,
    ⟨some 19, .mov (.t 24), none⟩,
    ⟨some 25, .ext 0 (.t 19), none⟩,
    ⟨some 26, .ext 1 (.t 19), none⟩,
    ⟨some 27, .faddr 3 (.t 1), none⟩,
    ⟨none, .st 1 (.t 27) (.t 25), none⟩,
    ⟨some 28, .faddr 4 (.t 1), none⟩,
    ⟨none, .st 1 (.t 28) (.t 26), none⟩]
def A_link_cloneMessage_6 : List AOper := [⟨some 29, .lda 7 (.t 1), none⟩,
    ⟨none, .st 7 (.t 2) (.t 29), none⟩]
def A_link_cloneMessage : ACode := (.seq (.ops A_link_cloneMessage_0) (.seq (.ops A_link_cloneMessage_1) (.seq (.ops A_link_cloneMessage_2) (.seq (.ops A_link_cloneMessage_3) (.seq (.ops A_link_cloneMessage_4) (.seq (.ops A_link_cloneMessage_5) (.seq (.ops A_link_cloneMessage_6) .ret)))))))
def R_link_cloneMessage : List ARes := [.cella 2 7]
theorem C_link_cloneMessage : compF Tryz.prog Tryz.f87 = some (A_link_cloneMessage, R_link_cloneMessage) := by kernel_rfl
def T_link_cloneMessage : FC := ⟨30, A_link_cloneMessage, R_link_cloneMessage⟩
theorem G_link_cloneMessage : GoodFC Tryz.prog F_link_cloneMessage T_link_cloneMessage := ⟨Tryz.f87, Tryz.func87, Tryz.ntmps87, C_link_cloneMessage, by kernel_rfl⟩

-- slices.Collect[string]
abbrev F_slices_Collect_string : Nat := 89
def A_slices_Collect_string_0 : List AOper := [⟨some 3, .mov (.t 0), none⟩,
    ⟨some 4, .call 124 [(.c (.nils)), (.t 3)], none⟩,
    ⟨some 2, .mov (.t 4), none⟩]
def A_slices_Collect_string : ACode := (.seq (.ops [⟨some 2, .mov (.c (.nils)), none⟩]) (.seq (.ops A_slices_Collect_string_0) .ret))
def R_slices_Collect_string : List ARes := [.tmp 2]
theorem C_slices_Collect_string : compF Tryz.prog Tryz.f89 = some (A_slices_Collect_string, R_slices_Collect_string) := by kernel_rfl
def T_slices_Collect_string : FC := ⟨5, A_slices_Collect_string, R_slices_Collect_string⟩
theorem G_slices_Collect_string : GoodFC Tryz.prog F_slices_Collect_string T_slices_Collect_string := ⟨Tryz.f89, Tryz.func89, Tryz.ntmps89, C_slices_Collect_string, by kernel_rfl⟩

-- maps.Keys[map[string]*lexicon/link.file,string,*lexicon/link.file]$1
abbrev F_maps_Keys_map_string_link_file_string_link_file_c1 : Nat := 90
def A_maps_Keys_map_string_link_file_string_link_file_c1_0 : List AOper := [⟨some 4, .ld1 (.t 1), none⟩,
    ⟨some 5, .rngm (.t 4), none⟩]
def A_maps_Keys_map_string_link_file_string_link_file_c1_1 : List AOper := [⟨some 6, .nxm (.t 5), none⟩,
    ⟨some 7, .ext 0 (.t 6), none⟩]
def A_maps_Keys_map_string_link_file_string_link_file_c1_2 : List AOper := [⟨some 8, .entr (.t 5), none⟩,
    ⟨some 9, .ext 0 (.t 8), none⟩,
    ⟨some 3, .mov (.t 9), none⟩]
def A_maps_Keys_map_string_link_file_string_link_file_c1_3 : List AOper := [⟨some 10, .mov (.t 0), none⟩,
    ⟨some 11, .mov (.t 3), none⟩,
    ⟨some 12, .callv (.t 10) [(.t 11)], none⟩,
    ⟨some 13, .not (.t 12), none⟩]
def A_maps_Keys_map_string_link_file_string_link_file_c1_4 : ACode := (.seq (.ops A_maps_Keys_map_string_link_file_string_link_file_c1_1) (.seq (.cond (.t 7) .skip (.exit 0)) (.block 1 (.seq (.ops A_maps_Keys_map_string_link_file_string_link_file_c1_2) (.seq (.ops A_maps_Keys_map_string_link_file_string_link_file_c1_3) (.cond (.t 13) .ret .skip))))))
def A_maps_Keys_map_string_link_file_string_link_file_c1 : ACode := (.seq (.ops A_maps_Keys_map_string_link_file_string_link_file_c1_0) (.block 0 (.loop A_maps_Keys_map_string_link_file_string_link_file_c1_4)))
def R_maps_Keys_map_string_link_file_string_link_file_c1 : List ARes := []
theorem C_maps_Keys_map_string_link_file_string_link_file_c1 : compF Tryz.prog Tryz.f90 = some (A_maps_Keys_map_string_link_file_string_link_file_c1, R_maps_Keys_map_string_link_file_string_link_file_c1) := by kernel_rfl
def T_maps_Keys_map_string_link_file_string_link_file_c1 : FC := ⟨14, A_maps_Keys_map_string_link_file_string_link_file_c1, R_maps_Keys_map_string_link_file_string_link_file_c1⟩
theorem G_maps_Keys_map_string_link_file_string_link_file_c1 : GoodFC Tryz.prog F_maps_Keys_map_string_link_file_string_link_file_c1 T_maps_Keys_map_string_link_file_string_link_file_c1 := ⟨Tryz.f90, Tryz.func90, Tryz.ntmps90, C_maps_Keys_map_string_link_file_string_link_file_c1, by kernel_rfl⟩

-- lexicon/check.must
abbrev F_check_must : Nat := 91
def A_check_must_0 : List AOper := [⟨some 6, .mov (.t 0), none⟩,
    ⟨some 7, .not (.t 6), none⟩]
def A_check_must_1 : List AOper := [⟨some 8, .mov (.t 1), none⟩,
    ⟨some 9, .mov (.t 2), none⟩,
    ⟨some 10, .build [.int .i64 (0), .str []] [(0, 1, (.t 8)), (1, 1, (.t 9))], none⟩,
    ⟨some 11, .build [.int .i64 (0), .str []] [(0, 2, (.t 10))], none⟩,
    ⟨some 12, .mkifc 166 (.t 11), none⟩,
    ⟨none, .pan (.t 12), none⟩]
def A_check_must : ACode := (.seq (.ops A_check_must_0) (.cond (.t 7) (.ops A_check_must_1) .skip))
def R_check_must : List ARes := []
theorem C_check_must : compF Tryz.prog Tryz.f91 = some (A_check_must, R_check_must) := by kernel_rfl
def T_check_must : FC := ⟨13, A_check_must, R_check_must⟩
theorem G_check_must : GoodFC Tryz.prog F_check_must T_check_must := ⟨Tryz.f91, Tryz.func91, Tryz.ntmps91, C_check_must, by kernel_rfl⟩

-- lexicon/check.path
abbrev F_check_path : Nat := 92
def A_check_path_0 : List AOper := [⟨some 5, .mov (.t 0), none⟩,
    ⟨some 6, .bins .eql (.t 5) (.c (.str [])), none⟩,
    ⟨some 7, .mov (.t 6), none⟩,
    ⟨some 8, .mov (.t 0), some (7, false)⟩,
    ⟨some 9, .lens (.t 8), some (7, false)⟩,
    ⟨some 10, .bini .gtr (.t 9) (.c (.int .i64 (255))), some (7, false)⟩,
    ⟨some 11, .pick (.t 7) (.c (.bool true)) (.t 10), none⟩]
def A_check_path_1 : List AOper := [⟨some 12, .mov (.t 0), none⟩,
    ⟨some 13, .lens (.t 12), none⟩,
    ⟨some 14, .mov (.c (.int .i64 (0))), none⟩]
def A_check_path_2 : List AOper := [⟨some 16, .mov (.t 14), none⟩,
    ⟨some 3, .mov (.t 16), none⟩]
def A_check_path_3 : List AOper := [⟨some 17, .mov (.t 0), none⟩,
    ⟨some 18, .mov (.t 3), none⟩,
    ⟨some 19, .idxs (.t 17) (.t 18), none⟩,
    ⟨some 4, .mov (.t 19), none⟩]
def A_check_path_4 : List AOper := [⟨some 20, .mov (.t 4), none⟩,
    ⟨some 21, .bini .lss (.t 20) (.c (.int .u8 (33))), none⟩,
    ⟨some 22, .mov (.t 21), none⟩,
    ⟨some 23, .mov (.t 4), some (22, false)⟩,
    ⟨some 24, .bini .gtr (.t 23) (.c (.int .u8 (126))), some (22, false)⟩,
    ⟨some 25, .pick (.t 22) (.c (.bool true)) (.t 24), none⟩,
    ⟨some 26, .mov (.t 25), none⟩,
    ⟨some 27, .mov (.t 4), some (26, false)⟩,
    ⟨some 28, .bini .eql (.t 27) (.c (.int .u8 (34))), some (26, false)⟩,
    ⟨some 29, .pick (.t 26) (.c (.bool true)) (.t 28), none⟩,
    ⟨some 30, .mov (.t 29), none⟩,
    ⟨some 31, .mov (.t 4), some (30, false)⟩,
    ⟨some 32, .bini .eql (.t 31) (.c (.int .u8 (92))), some (30, false)⟩,
    ⟨some 33, .pick (.t 30) (.c (.bool true)) (.t 32), none⟩]
def A_check_path_5 : List AOper := [⟨some 34, .bini .add (.t 14) (.c (.int .i64 (1))), none⟩,
    ⟨some 14, .mov (.t 34), none⟩]
def A_check_path_6 : ACode := (.seq (.ops [⟨some 15, .bini .lss (.t 14) (.t 13), none⟩]) (.seq (.cond (.t 15) .skip (.exit 0)) (.seq (.block 1 (.seq (.ops A_check_path_2) (.seq (.ops A_check_path_3) (.seq (.ops A_check_path_4) (.cond (.t 33) (.seq (.ops [⟨some 2, .mov (.c (.bool false)), none⟩]) .ret) .skip))))) (.ops A_check_path_5))))
def A_check_path : ACode := (.seq (.ops [⟨some 2, .mov (.c (.bool false)), none⟩]) (.seq (.seq (.ops A_check_path_0) (.cond (.t 11) (.seq (.ops [⟨some 2, .mov (.c (.bool false)), none⟩]) .ret) .skip)) (.seq (.seq (.ops A_check_path_1) (.block 0 (.loop A_check_path_6))) (.seq (.ops [⟨some 2, .mov (.c (.bool true)), none⟩]) .ret))))
def R_check_path : List ARes := [.tmp 2]
theorem C_check_path : compF Tryz.prog Tryz.f92 = some (A_check_path, R_check_path) := by kernel_rfl
def T_check_path : FC := ⟨35, A_check_path, R_check_path⟩
theorem G_check_path : GoodFC Tryz.prog F_check_path T_check_path := ⟨Tryz.f92, Tryz.func92, Tryz.ntmps92, C_check_path, by kernel_rfl⟩

-- (*lexicon/check.reader).message
abbrev F_check_reader_message : Nat := 94
def A_check_reader_message_0 : List AOper := [⟨some 17, .mov (.t 2), none⟩,
    ⟨some 18, .faddr 0 (.t 5), none⟩,
    ⟨some 19, .ld1 (.t 18), none⟩,
    ⟨some 20, .bslice 9 1 2 [.str []] [(0, 1, (.t 17)), (1, 1, (.t 19))], none⟩,
    ⟨some 21, .call 68 [(.t 20)], none⟩,
    ⟨some 8, .mov (.t 21), none⟩]
def A_check_reader_message_1 : List AOper := [⟨some 22, .mov (.t 0), none⟩,
    ⟨some 23, .faddr 0 (.t 5), none⟩,
    ⟨some 24, .ld1 (.t 23), none⟩,
    ⟨some 25, .mov (.t 8), none⟩,
    ⟨some 26, .call 127 [(.t 22), (.t 24), (.t 25)], none⟩]
def A_check_reader_message_2 : List AOper := [⟨some 27, .mov (.t 3), none⟩,
    ⟨some 28, .bini .lss (.t 27) (.c (.int .i64 (16))), none⟩,
    ⟨some 29, .mov (.t 28), none⟩,
    ⟨some 30, .faddr 1 (.t 5), some (29, true)⟩,
    ⟨some 31, .ld1 (.t 30), some (29, true)⟩,
    ⟨some 32, .lenl (.t 31), some (29, true)⟩,
    ⟨some 33, .bini .leq (.t 32) (.c (.int .i64 (1000))), some (29, true)⟩,
    ⟨some 34, .pick (.t 29) (.t 33) (.c (.bool false)), none⟩,
    ⟨some 35, .mov (.t 8), none⟩,
    ⟨some 36, .call 91 [(.t 34), (.c (.int .i64 (68))), (.t 35)], none⟩]
def A_check_reader_message_3 : List AOper := [⟨some 37, .faddr 5 (.t 5), none⟩,
    ⟨some 38, .ld1 (.t 37), none⟩,
    ⟨some 39, .mov (.t 8), none⟩,
    ⟨some 40, .call 128 [(.t 38), (.c (.int .i32 (1))), (.c (.int .i32 (536870911))), (.t 39)], none⟩]
def A_check_reader_message_4 : List AOper := [⟨some 41, .faddr 6 (.t 5), none⟩,
    ⟨some 42, .ld1 (.t 41), none⟩,
    ⟨some 43, .mov (.t 8), none⟩,
    ⟨some 44, .call 129 [(.t 42), (.t 43)], none⟩]
def A_check_reader_message_5 : List AOper := [⟨some 45, .faddr 1 (.t 5), none⟩,
    ⟨some 46, .ld1 (.t 45), none⟩,
    ⟨some 47, .lenl (.t 46), none⟩,
    ⟨some 48, .mov (.c (.int .i64 (0))), none⟩]
def A_check_reader_message_6 : List AOper := [⟨some 50, .mov (.t 48), none⟩,
    ⟨some 9, .mov (.t 50), none⟩]
def A_check_reader_message_7 : List AOper := [⟨some 51, .mov (.t 0), none⟩,
    ⟨some 52, .lda 7 (.t 5), none⟩,
    ⟨some 53, .mov (.t 9), none⟩,
    ⟨some 54, .mov (.t 8), none⟩,
    ⟨some 55, .call 130 [(.t 51), (.t 52), (.t 53), (.t 54)], none⟩]
def A_check_reader_message_8 : List AOper := [⟨some 56, .bini .add (.t 48) (.c (.int .i64 (1))), none⟩,
    ⟨some 48, .mov (.t 56), none⟩]
def A_check_reader_message_9 : ACode := (.seq (.ops [⟨some 49, .bini .lss (.t 48) (.t 47), none⟩]) (.seq (.cond (.t 49) .skip (.exit 0)) (.seq (.block 1 (.seq (.ops A_check_reader_message_6) (.ops A_check_reader_message_7))) (.ops A_check_reader_message_8))))
def A_check_reader_message_10 : List AOper := [⟨some 57, .faddr 2 (.t 5), none⟩,
    ⟨some 58, .ld1 (.t 57), none⟩,
    ⟨some 59, .lenl (.t 58), none⟩,
    ⟨some 60, .mov (.c (.int .i64 (0))), none⟩]
def A_check_reader_message_11 : List AOper := [⟨some 62, .mov (.t 60), none⟩,
    ⟨some 63, .iaddr 9 1 (.t 58) (.t 60), none⟩,
    ⟨some 64, .ld1 (.t 63), none⟩,
    ⟨some 10, .box 3 1 (.c (.int .i64 (0))), none⟩,
    ⟨none, .st 1 (.t 10) (.t 62), none⟩,
    ⟨some 11, .mov (.t 64), none⟩]
def A_check_reader_message_12 : List AOper := [⟨some 65, .mov (.t 8), none⟩,
    ⟨some 66, .mov (.t 11), none⟩,
    ⟨some 67, .bslice 9 1 2 [.str []] [(0, 1, (.t 65)), (1, 1, (.t 66))], none⟩,
    ⟨some 68, .call 68 [(.t 67)], none⟩,
    ⟨some 12, .mov (.t 68), none⟩]
def A_check_reader_message_13 : List AOper := [⟨some 69, .mov (.t 0), none⟩,
    ⟨some 70, .mov (.t 11), none⟩,
    ⟨some 71, .mov (.t 12), none⟩,
    ⟨some 72, .call 127 [(.t 69), (.t 70), (.t 71)], none⟩]
def A_check_reader_message_14 : List AOper := [⟨some 73, .faddr 1 (.t 5), none⟩,
    ⟨some 74, .ld1 (.t 73), none⟩,
    ⟨some 75, .mkfn 132 [] [(.t 10)], none⟩,
    ⟨some 76, .call 131 [(.t 74), (.t 75)], none⟩,
    ⟨some 77, .mov (.t 12), none⟩,
    ⟨some 78, .call 91 [(.t 76), (.c (.int .i64 (64))), (.t 77)], none⟩]
def A_check_reader_message_15 : List AOper := [⟨some 79, .bini .add (.t 60) (.c (.int .i64 (1))), none⟩,
    ⟨some 60, .mov (.t 79), none⟩]
def A_check_reader_message_16 : ACode := (.seq (.ops [⟨some 61, .bini .lss (.t 60) (.t 59), none⟩]) (.seq (.cond (.t 61) .skip (.exit 2)) (.seq (.block 3 (.seq (.ops A_check_reader_message_11) (.seq (.ops A_check_reader_message_12) (.seq (.ops A_check_reader_message_13) (.ops A_check_reader_message_14))))) (.ops A_check_reader_message_15))))
def A_check_reader_message_17 : List AOper := [⟨some 80, .faddr 3 (.t 5), none⟩,
    ⟨some 81, .ld1 (.t 80), none⟩,
    ⟨some 82, .lenl (.t 81), none⟩,
    ⟨some 83, .mov (.c (.int .i64 (0))), none⟩]
def A_check_reader_message_18 : List AOper := [⟨some 85, .iaddr 76 7 (.t 81) (.t 83), none⟩,
    ⟨some 86, .lda 7 (.t 85), none⟩,
    ⟨some 14, .box 76 7 (.c (.agg [.str [], .nils, .nils, .nils, .nils, .nils, .nils])), none⟩,
    ⟨none, .st 7 (.t 14) (.t 86), none⟩]
def A_check_reader_message_19 : List AOper := [⟨some 87, .mov (.t 0), none⟩,
    ⟨some 88, .lda 7 (.t 14), none⟩,
    ⟨some 89, .mov (.t 8), none⟩,
    ⟨some 90, .mov (.t 3), none⟩,
    ⟨some 91, .bini .add (.t 90) (.c (.int .i64 (1))), none⟩,
    ⟨some 92, .call 94 [(.t 87), (.t 88), (.t 89), (.t 91)], none⟩]
def A_check_reader_message_20 : List AOper := [⟨some 93, .bini .add (.t 83) (.c (.int .i64 (1))), none⟩,
    ⟨some 83, .mov (.t 93), none⟩]
def A_check_reader_message_21 : ACode := (.seq (.ops [⟨some 84, .bini .lss (.t 83) (.t 82), none⟩]) (.seq (.cond (.t 84) .skip (.exit 4)) (.seq (.block 5 (.seq (.ops A_check_reader_message_18) (.ops A_check_reader_message_19))) (.ops A_check_reader_message_20))))
def A_check_reader_message_22 : List AOper := [⟨some 94, .faddr 4 (.t 5), none⟩,
    ⟨some 95, .ld1 (.t 94), none⟩,
    ⟨some 96, .lenl (.t 95), none⟩,
    ⟨some 97, .mov (.c (.int .i64 (0))), none⟩]
def A_check_reader_message_23 : List AOper := [⟨some 99, .iaddr 176 5 (.t 95) (.t 97), none⟩,
    ⟨some 100, .lda 5 (.t 99), none⟩,
    ⟨some 16, .box 176 5 (.c (.agg [.str [], .nils, .bool false, .nils, .nils])), none⟩,
    ⟨none, .st 5 (.t 16) (.t 100), none⟩]
def A_check_reader_message_24 : List AOper := [⟨some 101, .mov (.t 0), none⟩,
    ⟨some 102, .lda 5 (.t 16), none⟩,
    ⟨some 103, .mov (.t 8), none⟩,
    ⟨some 104, .call 95 [(.t 101), (.t 102), (.t 103)], none⟩]
def A_check_reader_message_25 : List AOper := [⟨some 105, .bini .add (.t 97) (.c (.int .i64 (1))), none⟩,
    ⟨some 97, .mov (.t 105), none⟩]
def A_check_reader_message_26 : ACode := (.seq (.ops [⟨some 98, .bini .lss (.t 97) (.t 96), none⟩]) (.seq (.cond (.t 98) .skip (.exit 6)) (.seq (.block 7 (.seq (.ops A_check_reader_message_23) (.ops A_check_reader_message_24))) (.ops A_check_reader_message_25))))
def A_check_reader_message : ACode := (.seq (.ops [⟨some 5, .box 76 7 (.t 1), none⟩]) (.seq (.ops A_check_reader_message_0) (.seq (.ops A_check_reader_message_1) (.seq (.ops A_check_reader_message_2) (.seq (.ops A_check_reader_message_3) (.seq (.ops A_check_reader_message_4) (.seq (.seq (.ops A_check_reader_message_5) (.block 0 (.loop A_check_reader_message_9))) (.seq (.seq (.ops A_check_reader_message_10) (.block 2 (.loop A_check_reader_message_16))) (.seq (.seq (.ops A_check_reader_message_17) (.block 4 (.loop A_check_reader_message_21))) (.seq (.ops A_check_reader_message_22) (.block 6 (.loop A_check_reader_message_26))))))))))))
def R_check_reader_message : List ARes := []
theorem C_check_reader_message : compF Tryz.prog Tryz.f94 = some (A_check_reader_message, R_check_reader_message) := by kernel_rfl
def T_check_reader_message : FC := ⟨106, A_check_reader_message, R_check_reader_message⟩
theorem G_check_reader_message : GoodFC Tryz.prog F_check_reader_message T_check_reader_message := ⟨Tryz.f94, Tryz.func94, Tryz.ntmps94, C_check_reader_message, by kernel_rfl⟩

-- lexicon/texts.Scopes$1
abbrev F_texts_Scopes_c1 : Nat := 96
def A_texts_Scopes_c1_0 : List AOper := [⟨some 4, .ld1 (.t 1), none⟩,
    ⟨some 3, .mov (.t 4), none⟩]
def A_texts_Scopes_c1_1 : List AOper := [⟨some 5, .mov (.t 0), none⟩,
    ⟨some 6, .mov (.t 3), none⟩,
    ⟨some 7, .callv (.t 5) [(.t 6)], none⟩,
    ⟨some 8, .mov (.t 7), none⟩,
    ⟨some 9, .mov (.t 3), some (8, true)⟩,
    ⟨some 10, .bins .neq (.t 9) (.c (.str [])), some (8, true)⟩,
    ⟨some 11, .pick (.t 8) (.t 10) (.c (.bool false)), none⟩]
def A_texts_Scopes_c1_2 : List AOper := [⟨some 13, .mov (.t 3), none⟩,
    ⟨some 14, .call 97 [(.t 13)], none⟩,
    ⟨some 12, .mov (.t 14), none⟩,
    ⟨some 15, .ext 0 (.t 12), none⟩,
    ⟨some 16, .ext 1 (.t 12), none⟩,
    ⟨some 3, .mov (.t 15), none⟩]
def A_texts_Scopes_c1_3 : ACode := (.seq (.seq (.ops A_texts_Scopes_c1_1) (.cond (.t 11) .skip (.exit 0))) (.block 1 (.ops A_texts_Scopes_c1_2)))
def A_texts_Scopes_c1 : ACode := (.seq (.ops A_texts_Scopes_c1_0) (.block 0 (.loop A_texts_Scopes_c1_3)))
def R_texts_Scopes_c1 : List ARes := []
theorem C_texts_Scopes_c1 : compF Tryz.prog Tryz.f96 = some (A_texts_Scopes_c1, R_texts_Scopes_c1) := by kernel_rfl
def T_texts_Scopes_c1 : FC := ⟨17, A_texts_Scopes_c1, R_texts_Scopes_c1⟩
theorem G_texts_Scopes_c1 : GoodFC Tryz.prog F_texts_Scopes_c1 T_texts_Scopes_c1 := ⟨Tryz.f96, Tryz.func96, Tryz.ntmps96, C_texts_Scopes_c1, by kernel_rfl⟩

-- strings.Join
abbrev F_strings_Join : Nat := 98
def A_strings_Join_0 : List AOper := [⟨some 11, .mov (.t 0), none⟩,
    ⟨some 12, .lenl (.t 11), none⟩]
def A_strings_Join_1 : List AOper := [⟨some 14, .bini .eql (.t 12) (.c (.int .i64 (0))), none⟩,
    ⟨some 13, .mov (.t 14), none⟩]
def A_strings_Join_2 : List AOper := [⟨some 16, .bini .eql (.t 12) (.c (.int .i64 (1))), none⟩,
    ⟨some 15, .mov (.t 16), none⟩]
def A_strings_Join_3 : List AOper := [⟨some 17, .mov (.t 0), none⟩,
    ⟨some 18, .iaddr 9 1 (.t 17) (.c (.int .i64 (0))), none⟩,
    ⟨some 19, .ld1 (.t 18), none⟩,
    ⟨some 4, .mov (.t 19), none⟩]
def A_strings_Join_4 : List AOper := [⟨some 20, .mov (.t 1), none⟩,
    ⟨some 21, .lens (.t 20), none⟩,
    ⟨some 22, .bini .gtr (.t 21) (.c (.int .i64 (0))), none⟩]
def A_strings_Join_5 : List AOper := [⟨some 23, .mov (.t 1), none⟩,
    ⟨some 24, .lens (.t 23), none⟩,
    ⟨some 25, .mov (.t 0), none⟩,
    ⟨some 26, .lenl (.t 25), none⟩,
    ⟨some 27, .bini .sub (.t 26) (.c (.int .i64 (1))), none⟩,
    ⟨some 28, .bini .quo (.c (.int .i64 (9223372036854775807))) (.t 27), none⟩,
    ⟨some 29, .bini .geq (.t 24) (.t 28), none⟩]
def A_strings_Join_6 : List AOper := [⟨some 30, .mkifc 9 (.c (.str [115, 116, 114, 105, 110, 103, 115, 58, 32, 74, 111, 105, 110, 32, 111, 117, 116, 112, 117, 116, 32, 108, 101, 110, 103, 116, 104, 32, 111, 118, 101, 114, 102, 108, 111, 119])), none⟩,
    ⟨none, .pan (.t 30), none⟩]
def A_strings_Join_7 : List AOper := [⟨some 31, .mov (.t 5), none⟩,
    ⟨some 32, .mov (.t 1), none⟩,
    ⟨some 33, .lens (.t 32), none⟩,
    ⟨some 34, .mov (.t 0), none⟩,
    ⟨some 35, .lenl (.t 34), none⟩,
    ⟨some 36, .bini .sub (.t 35) (.c (.int .i64 (1))), none⟩,
    ⟨some 37, .bini .mul (.t 33) (.t 36), none⟩,
    ⟨some 38, .bini .add (.t 31) (.t 37), none⟩,
    ⟨some 5, .mov (.t 38), none⟩]
def A_strings_Join_8 : List AOper := [⟨some 39, .mov (.t 0), none⟩,
    ⟨some 40, .lenl (.t 39), none⟩,
    ⟨some 41, .mov (.c (.int .i64 (0))), none⟩]
def A_strings_Join_9 : List AOper := [⟨some 43, .iaddr 9 1 (.t 39) (.t 41), none⟩,
    ⟨some 44, .ld1 (.t 43), none⟩,
    ⟨some 7, .mov (.t 44), none⟩]
def A_strings_Join_10 : List AOper := [⟨some 45, .mov (.t 7), none⟩,
    ⟨some 46, .lens (.t 45), none⟩,
    ⟨some 47, .mov (.t 5), none⟩,
    ⟨some 48, .bini .sub (.c (.int .i64 (9223372036854775807))) (.t 47), none⟩,
    ⟨some 49, .bini .gtr (.t 46) (.t 48), none⟩]
def A_strings_Join_11 : List AOper := [⟨some 50, .mkifc 9 (.c (.str [115, 116, 114, 105, 110, 103, 115, 58, 32, 74, 111, 105, 110, 32, 111, 117, 116, 112, 117, 116, 32, 108, 101, 110, 103, 116, 104, 32, 111, 118, 101, 114, 102, 108, 111, 119])), none⟩,
    ⟨none, .pan (.t 50), none⟩]
def A_strings_Join_12 : List AOper := [⟨some 51, .mov (.t 5), none⟩,
    ⟨some 52, .mov (.t 7), none⟩,
    ⟨some 53, .lens (.t 52), none⟩,
    ⟨some 54, .bini .add (.t 51) (.t 53), none⟩,
    ⟨some 5, .mov (.t 54), none⟩]
def A_strings_Join_13 : List AOper := [⟨some 55, .bini .add (.t 41) (.c (.int .i64 (1))), none⟩,
    ⟨some 41, .mov (.t 55), none⟩]
def A_strings_Join_14 : ACode := (.seq (.ops [⟨some 42, .bini .lss (.t 41) (.t 40), none⟩]) (.seq (.cond (.t 42) .skip (.exit 1)) (.seq (.block 2 (.seq (.ops A_strings_Join_9) (.seq (.seq (.ops A_strings_Join_10) (.cond (.t 49) (.ops A_strings_Join_11) .skip)) (.ops A_strings_Join_12)))) (.ops A_strings_Join_13))))
def A_strings_Join_15 : List AOper := [⟨some 56, .mov (.t 5), none⟩,
    ⟨some 57, .call 137 [(.t 8), (.t 56)], none⟩]
def A_strings_Join_16 : List AOper := [⟨some 58, .mov (.t 0), none⟩,
    ⟨some 59, .iaddr 9 1 (.t 58) (.c (.int .i64 (0))), none⟩,
    ⟨some 60, .ld1 (.t 59), none⟩,
    ⟨some 61, .call 138 [(.t 8), (.t 60)], none⟩]
def A_strings_Join_17 : List AOper := [⟨some 62, .mov (.t 0), none⟩,
    ⟨some 63, .slcl 9 1 (.t 62) (some (.c (.int .i64 (1)))) none none, none⟩,
    ⟨some 64, .lenl (.t 63), none⟩,
    ⟨some 65, .mov (.c (.int .i64 (0))), none⟩]
def A_strings_Join_18 : List AOper := [⟨some 67, .iaddr 9 1 (.t 63) (.t 65), none⟩,
    ⟨some 68, .ld1 (.t 67), none⟩,
    ⟨some 10, .mov (.t 68), none⟩]
def A_strings_Join_19 : List AOper := [⟨some 69, .mov (.t 1), none⟩,
    ⟨some 70, .call 138 [(.t 8), (.t 69)], none⟩]
def A_strings_Join_20 : List AOper := [⟨some 71, .mov (.t 10), none⟩,
    ⟨some 72, .call 138 [(.t 8), (.t 71)], none⟩]
def A_strings_Join_21 : List AOper := [⟨some 73, .bini .add (.t 65) (.c (.int .i64 (1))), none⟩,
    ⟨some 65, .mov (.t 73), none⟩]
def A_strings_Join_22 : ACode := (.seq (.ops [⟨some 66, .bini .lss (.t 65) (.t 64), none⟩]) (.seq (.cond (.t 66) .skip (.exit 3)) (.seq (.block 4 (.seq (.ops A_strings_Join_18) (.seq (.ops A_strings_Join_19) (.ops A_strings_Join_20)))) (.ops A_strings_Join_21))))
def A_strings_Join_23 : List AOper := [⟨some 74, .call 139 [(.t 8)], none⟩,
    ⟨some 4, .mov (.t 74), none⟩]
def A_strings_Join : ACode := (.seq (.ops [⟨some 4, .mov (.c (.str [])), none⟩]) (.seq (.seq (.ops A_strings_Join_0) (.block 0 (.seq (.ops A_strings_Join_1) (.cond (.t 13) (.seq (.ops [⟨some 4, .mov (.c (.str [])), none⟩]) .ret) (.seq (.ops A_strings_Join_2) (.cond (.t 15) (.seq (.ops A_strings_Join_3) .ret) .skip)))))) (.seq (.ops [⟨some 5, .mov (.c (.int .i64 (0))), none⟩]) (.seq (.seq (.ops A_strings_Join_4) (.cond (.t 22) (.seq (.seq (.ops A_strings_Join_5) (.cond (.t 29) (.ops A_strings_Join_6) .skip)) (.ops A_strings_Join_7)) .skip)) (.seq (.seq (.ops A_strings_Join_8) (.block 1 (.loop A_strings_Join_14))) (.seq (.ops [⟨some 8, .box 250 2 (.c (.agg [.nilp, .nils])), none⟩]) (.seq (.ops A_strings_Join_15) (.seq (.ops A_strings_Join_16) (.seq (.seq (.ops A_strings_Join_17) (.block 3 (.loop A_strings_Join_22))) (.seq (.ops A_strings_Join_23) .ret))))))))))
def R_strings_Join : List ARes := [.tmp 4]
theorem C_strings_Join : compF Tryz.prog Tryz.f98 = some (A_strings_Join, R_strings_Join) := by kernel_rfl
def T_strings_Join : FC := ⟨75, A_strings_Join, R_strings_Join⟩
theorem G_strings_Join : GoodFC Tryz.prog F_strings_Join T_strings_Join := ⟨Tryz.f98, Tryz.func98, Tryz.ntmps98, C_strings_Join, by kernel_rfl⟩

-- slices.stableCmpFunc[lexicon/api.Symbol]
abbrev F_slices_stableCmpFunc_api_Symbol : Nat := 99
def A_slices_stableCmpFunc_api_Symbol_0 : List AOper := [⟨some 10, .mov (.t 6), none⟩,
    ⟨some 7, .mov (.c (.int .i64 (0))), none⟩,
    ⟨some 8, .mov (.t 10), none⟩]
def A_slices_stableCmpFunc_api_Symbol_1 : List AOper := [⟨some 11, .mov (.t 8), none⟩,
    ⟨some 12, .mov (.t 1), none⟩,
    ⟨some 13, .bini .leq (.t 11) (.t 12), none⟩]
def A_slices_stableCmpFunc_api_Symbol_2 : List AOper := [⟨some 14, .mov (.t 0), none⟩,
    ⟨some 15, .mov (.t 7), none⟩,
    ⟨some 16, .mov (.t 8), none⟩,
    ⟨some 17, .mov (.t 2), none⟩,
    ⟨some 18, .call 140 [(.t 14), (.t 15), (.t 16), (.t 17)], none⟩]
def A_slices_stableCmpFunc_api_Symbol_3 : List AOper := [⟨some 19, .mov (.t 8), none⟩,
    ⟨some 7, .mov (.t 19), none⟩]
def A_slices_stableCmpFunc_api_Symbol_4 : List AOper := [⟨some 20, .mov (.t 8), none⟩,
    ⟨some 21, .mov (.t 6), none⟩,
    ⟨some 22, .bini .add (.t 20) (.t 21), none⟩,
    ⟨some 8, .mov (.t 22), none⟩]
def A_slices_stableCmpFunc_api_Symbol_5 : ACode := (.seq (.seq (.ops A_slices_stableCmpFunc_api_Symbol_1) (.cond (.t 13) .skip (.exit 0))) (.block 1 (.seq (.ops A_slices_stableCmpFunc_api_Symbol_2) (.seq (.ops A_slices_stableCmpFunc_api_Symbol_3) (.ops A_slices_stableCmpFunc_api_Symbol_4)))))
def A_slices_stableCmpFunc_api_Symbol_6 : List AOper := [⟨some 23, .mov (.t 0), none⟩,
    ⟨some 24, .mov (.t 7), none⟩,
    ⟨some 25, .mov (.t 1), none⟩,
    ⟨some 26, .mov (.t 2), none⟩,
    ⟨some 27, .call 140 [(.t 23), (.t 24), (.t 25), (.t 26)], none⟩]
def A_slices_stableCmpFunc_api_Symbol_7 : List AOper := [⟨some 28, .mov (.t 6), none⟩,
    ⟨some 29, .mov (.t 1), none⟩,
    ⟨some 30, .bini .lss (.t 28) (.t 29), none⟩]
def A_slices_stableCmpFunc_api_Symbol_8 : List AOper := [⟨some 31, .mov (.t 6), none⟩,
    ⟨some 32, .bini .mul (.c (.int .i64 (2))) (.t 31), none⟩,
    ⟨some 7, .mov (.c (.int .i64 (0))), none⟩,
    ⟨some 8, .mov (.t 32), none⟩]
def A_slices_stableCmpFunc_api_Symbol_9 : List AOper := [⟨some 33, .mov (.t 8), none⟩,
    ⟨some 34, .mov (.t 1), none⟩,
    ⟨some 35, .bini .leq (.t 33) (.t 34), none⟩]
def A_slices_stableCmpFunc_api_Symbol_10 : List AOper := [⟨some 36, .mov (.t 0), none⟩,
    ⟨some 37, .mov (.t 7), none⟩,
    ⟨some 38, .mov (.t 7), none⟩,
    ⟨some 39, .mov (.t 6), none⟩,
    ⟨some 40, .bini .add (.t 38) (.t 39), none⟩,
    ⟨some 41, .mov (.t 8), none⟩,
    ⟨some 42, .mov (.t 2), none⟩,
    ⟨some 43, .call 141 [(.t 36), (.t 37), (.t 40), (.t 41), (.t 42)], none⟩]
def A_slices_stableCmpFunc_api_Symbol_11 : List AOper := [⟨some 44, .mov (.t 8), none⟩,
    ⟨some 7, .mov (.t 44), none⟩]
def A_slices_stableCmpFunc_api_Symbol_12 : List AOper := [⟨some 45, .mov (.t 8), none⟩,
    ⟨some 46, .mov (.t 6), none⟩,
    ⟨some 47, .bini .mul (.c (.int .i64 (2))) (.t 46), none⟩,
    ⟨some 48, .bini .add (.t 45) (.t 47), none⟩,
    ⟨some 8, .mov (.t 48), none⟩]
def A_slices_stableCmpFunc_api_Symbol_13 : ACode := (.seq (.seq (.ops A_slices_stableCmpFunc_api_Symbol_9) (.cond (.t 35) .skip (.exit 4))) (.block 5 (.seq (.ops A_slices_stableCmpFunc_api_Symbol_10) (.seq (.ops A_slices_stableCmpFunc_api_Symbol_11) (.ops A_slices_stableCmpFunc_api_Symbol_12)))))
def A_slices_stableCmpFunc_api_Symbol_14 : List AOper := [⟨some 49, .mov (.t 7), none⟩,
    ⟨some 50, .mov (.t 6), none⟩,
    ⟨some 51, .bini .add (.t 49) (.t 50), none⟩,
    ⟨some 9, .mov (.t 51), none⟩]
def A_slices_stableCmpFunc_api_Symbol_15 : List AOper := [⟨some 52, .mov (.t 9), none⟩,
    ⟨some 53, .mov (.t 1), none⟩,
    ⟨some 54, .bini .lss (.t 52) (.t 53), none⟩]
def A_slices_stableCmpFunc_api_Symbol_16 : List AOper := [⟨some 55, .mov (.t 0), none⟩,
    ⟨some 56, .mov (.t 7), none⟩,
    ⟨some 57, .mov (.t 9), none⟩,
    ⟨some 58, .mov (.t 1), none⟩,
    ⟨some 59, .mov (.t 2), none⟩,
    ⟨some 60, .call 141 [(.t 55), (.t 56), (.t 57), (.t 58), (.t 59)], none⟩]
def A_slices_stableCmpFunc_api_Symbol_17 : List AOper := [⟨some 61, .mov (.t 6), none⟩,
    ⟨some 62, .bini .mul (.t 61) (.c (.int .i64 (2))), none⟩,
    ⟨some 6, .mov (.t 62), none⟩]
def A_slices_stableCmpFunc_api_Symbol_18 : ACode := (.seq (.seq (.ops A_slices_stableCmpFunc_api_Symbol_7) (.cond (.t 30) .skip (.exit 2))) (.block 3 (.seq (.ops A_slices_stableCmpFunc_api_Symbol_8) (.seq (.block 4 (.loop A_slices_stableCmpFunc_api_Symbol_13)) (.seq (.seq (.ops A_slices_stableCmpFunc_api_Symbol_14) (.seq (.ops A_slices_stableCmpFunc_api_Symbol_15) (.cond (.t 54) (.ops A_slices_stableCmpFunc_api_Symbol_16) .skip))) (.ops A_slices_stableCmpFunc_api_Symbol_17))))))
def A_slices_stableCmpFunc_api_Symbol : ACode := (.seq (.ops [⟨some 6, .mov (.c (.int .i64 (20))), none⟩]) (.seq (.ops A_slices_stableCmpFunc_api_Symbol_0) (.seq (.block 0 (.loop A_slices_stableCmpFunc_api_Symbol_5)) (.seq (.ops A_slices_stableCmpFunc_api_Symbol_6) (.block 2 (.loop A_slices_stableCmpFunc_api_Symbol_18))))))
def R_slices_stableCmpFunc_api_Symbol : List ARes := []
theorem C_slices_stableCmpFunc_api_Symbol : compF Tryz.prog Tryz.f99 = some (A_slices_stableCmpFunc_api_Symbol, R_slices_stableCmpFunc_api_Symbol) := by kernel_rfl
def T_slices_stableCmpFunc_api_Symbol : FC := ⟨63, A_slices_stableCmpFunc_api_Symbol, R_slices_stableCmpFunc_api_Symbol⟩
theorem G_slices_stableCmpFunc_api_Symbol : GoodFC Tryz.prog F_slices_stableCmpFunc_api_Symbol T_slices_stableCmpFunc_api_Symbol := ⟨Tryz.f99, Tryz.func99, Tryz.ntmps99, C_slices_stableCmpFunc_api_Symbol, by kernel_rfl⟩

-- cmp.isNaN[string]
abbrev F_cmp_isNaN_string : Nat := 100
def A_cmp_isNaN_string_0 : List AOper := [⟨some 3, .mov (.t 0), none⟩,
    ⟨some 4, .mov (.t 0), none⟩,
    ⟨some 5, .bins .neq (.t 3) (.t 4), none⟩,
    ⟨some 2, .mov (.t 5), none⟩]
def A_cmp_isNaN_string : ACode := (.seq (.ops [⟨some 2, .mov (.c (.bool false)), none⟩]) (.seq (.ops A_cmp_isNaN_string_0) .ret))
def R_cmp_isNaN_string : List ARes := [.tmp 2]
theorem C_cmp_isNaN_string : compF Tryz.prog Tryz.f100 = some (A_cmp_isNaN_string, R_cmp_isNaN_string) := by kernel_rfl
def T_cmp_isNaN_string : FC := ⟨6, A_cmp_isNaN_string, R_cmp_isNaN_string⟩
theorem G_cmp_isNaN_string : GoodFC Tryz.prog F_cmp_isNaN_string T_cmp_isNaN_string := ⟨Tryz.f100, Tryz.func100, Tryz.ntmps100, C_cmp_isNaN_string, by kernel_rfl⟩

-- cmp.isNaN[lexicon/api.Sort]
abbrev F_cmp_isNaN_api_Sort : Nat := 101
def A_cmp_isNaN_api_Sort_0 : List AOper := [⟨some 3, .mov (.t 0), none⟩,
    ⟨some 4, .mov (.t 0), none⟩,
    ⟨some 5, .bini .neq (.t 3) (.t 4), none⟩,
    ⟨some 2, .mov (.t 5), none⟩]
def A_cmp_isNaN_api_Sort : ACode := (.seq (.ops [⟨some 2, .mov (.c (.bool false)), none⟩]) (.seq (.ops A_cmp_isNaN_api_Sort_0) .ret))
def R_cmp_isNaN_api_Sort : List ARes := [.tmp 2]
theorem C_cmp_isNaN_api_Sort : compF Tryz.prog Tryz.f101 = some (A_cmp_isNaN_api_Sort, R_cmp_isNaN_api_Sort) := by kernel_rfl
def T_cmp_isNaN_api_Sort : FC := ⟨6, A_cmp_isNaN_api_Sort, R_cmp_isNaN_api_Sort⟩
theorem G_cmp_isNaN_api_Sort : GoodFC Tryz.prog F_cmp_isNaN_api_Sort T_cmp_isNaN_api_Sort := ⟨Tryz.f101, Tryz.func101, Tryz.ntmps101, C_cmp_isNaN_api_Sort, by kernel_rfl⟩

-- slices.Index[[]string,string]
abbrev F_slices_Index_string_string : Nat := 103
def A_slices_Index_string_string_0 : List AOper := [⟨some 6, .mov (.t 0), none⟩,
    ⟨some 7, .lenl (.t 6), none⟩,
    ⟨some 8, .mov (.c (.int .i64 (0))), none⟩]
def A_slices_Index_string_string_1 : List AOper := [⟨some 10, .mov (.t 8), none⟩,
    ⟨some 5, .mov (.t 10), none⟩]
def A_slices_Index_string_string_2 : List AOper := [⟨some 11, .mov (.t 1), none⟩,
    ⟨some 12, .mov (.t 0), none⟩,
    ⟨some 13, .mov (.t 5), none⟩,
    ⟨some 14, .iaddr 9 1 (.t 12) (.t 13), none⟩,
    ⟨some 15, .ld1 (.t 14), none⟩,
    ⟨some 16, .bins .eql (.t 11) (.t 15), none⟩]
def A_slices_Index_string_string_3 : List AOper := [⟨some 17, .mov (.t 5), none⟩,
    ⟨some 4, .mov (.t 17), none⟩]
def A_slices_Index_string_string_4 : List AOper := [⟨some 18, .bini .add (.t 8) (.c (.int .i64 (1))), none⟩,
    ⟨some 8, .mov (.t 18), none⟩]
def A_slices_Index_string_string_5 : ACode := (.seq (.ops [⟨some 9, .bini .lss (.t 8) (.t 7), none⟩]) (.seq (.cond (.t 9) .skip (.exit 0)) (.seq (.block 1 (.seq (.ops A_slices_Index_string_string_1) (.seq (.ops A_slices_Index_string_string_2) (.cond (.t 16) (.seq (.ops A_slices_Index_string_string_3) .ret) .skip)))) (.ops A_slices_Index_string_string_4))))
def A_slices_Index_string_string : ACode := (.seq (.ops [⟨some 4, .mov (.c (.int .i64 (0))), none⟩]) (.seq (.seq (.ops A_slices_Index_string_string_0) (.block 0 (.loop A_slices_Index_string_string_5))) (.seq (.ops [⟨some 4, .mov (.c (.int .i64 (-1))), none⟩]) .ret)))
def R_slices_Index_string_string : List ARes := [.tmp 4]
theorem C_slices_Index_string_string : compF Tryz.prog Tryz.f103 = some (A_slices_Index_string_string, R_slices_Index_string_string) := by kernel_rfl
def T_slices_Index_string_string : FC := ⟨19, A_slices_Index_string_string, R_slices_Index_string_string⟩
theorem G_slices_Index_string_string : GoodFC Tryz.prog F_slices_Index_string_string T_slices_Index_string_string := ⟨Tryz.f103, Tryz.func103, Tryz.ntmps103, C_slices_Index_string_string, by kernel_rfl⟩

-- slices.insertionSortOrdered[string]
abbrev F_slices_insertionSortOrdered_string : Nat := 104
def A_slices_insertionSortOrdered_string_0 : List AOper := [⟨some 8, .mov (.t 1), none⟩,
    ⟨some 9, .bini .add (.t 8) (.c (.int .i64 (1))), none⟩,
    ⟨some 6, .mov (.t 9), none⟩]
def A_slices_insertionSortOrdered_string_1 : List AOper := [⟨some 10, .mov (.t 6), none⟩,
    ⟨some 11, .mov (.t 2), none⟩,
    ⟨some 12, .bini .lss (.t 10) (.t 11), none⟩]
def A_slices_insertionSortOrdered_string_2 : List AOper := [⟨some 15, .mov (.t 6), none⟩,
    ⟨some 7, .mov (.t 15), none⟩]
def A_slices_insertionSortOrdered_string_3 : List AOper := [⟨some 16, .mov (.t 7), none⟩,
    ⟨some 17, .mov (.t 1), none⟩,
    ⟨some 18, .bini .gtr (.t 16) (.t 17), none⟩,
    ⟨some 19, .mov (.t 18), none⟩,
    ⟨some 20, .mov (.t 0), some (19, true)⟩,
    ⟨some 21, .mov (.t 7), some (19, true)⟩,
    ⟨some 22, .iaddr 9 1 (.t 20) (.t 21), some (19, true)⟩,
    ⟨some 23, .ld1 (.t 22), some (19, true)⟩,
    ⟨some 24, .mov (.t 0), some (19, true)⟩,
    ⟨some 25, .mov (.t 7), some (19, true)⟩,
    ⟨some 26, .bini .sub (.t 25) (.c (.int .i64 (1))), some (19, true)⟩,
    ⟨some 27, .iaddr 9 1 (.t 24) (.t 26), some (19, true)⟩,
    ⟨some 28, .ld1 (.t 27), some (19, true)⟩,
    ⟨some 29, .call 110 [(.t 23), (.t 28)], some (19, true)⟩,
    ⟨some 30, .pick (.t 19) (.t 29) (.c (.bool false)), none⟩]
def A_slices_insertionSortOrdered_string_4 : List AOper := [⟨some 33, .mov (.t 0), none⟩,
    ⟨some 34, .mov (.t 7), none⟩,
    ⟨some 35, .mov (.t 0), none⟩,
    ⟨some 36, .mov (.t 7), none⟩,
    ⟨some 37, .bini .sub (.t 36) (.c (.int .i64 (1))), none⟩,
    ⟨some 38, .mov (.t 0), none⟩,
    ⟨some 39, .mov (.t 7), none⟩,
    ⟨some 40, .bini .sub (.t 39) (.c (.int .i64 (1))), none⟩,
    ⟨some 41, .iaddr 9 1 (.t 38) (.t 40), none⟩,
    ⟨some 42, .ld1 (.t 41), none⟩,
    ⟨some 43, .mov (.t 0), none⟩,
    ⟨some 44, .mov (.t 7), none⟩,
    ⟨some 45, .iaddr 9 1 (.t 43) (.t 44), none⟩,
    ⟨some 46, .ld1 (.t 45), none⟩,
    ⟨some 47, .iaddr 9 1 (.t 33) (.t 34), none⟩,
    ⟨none, .st 1 (.t 47) (.t 42), none⟩,
    ⟨some 48, .iaddr 9 1 (.t 35) (.t 37), none⟩,
    ⟨none, .st 1 (.t 48) (.t 46), none⟩]
def A_slices_insertionSortOrdered_string_5 : List AOper := [⟨some 31, .mov (.t 7), none⟩,
    ⟨some 32, .bini .sub (.t 31) (.c (.int .i64 (1))), none⟩,
    ⟨some 7, .mov (.t 32), none⟩]
def A_slices_insertionSortOrdered_string_6 : ACode := (.seq (.seq (.alts [16, 17, 18, 19, 20, 21, 22, 23, 24, 25, 26, 27, 28, 29, 30] [A_slices_insertionSortOrdered_string_3]) (.cond (.t 30) .skip (.exit 2))) (.seq (.block 3 (.alts [33, 34, 35, 36, 37, 38, 39, 40, 41, 42, 43, 44, 45, 46, 47, 48] [A_slices_insertionSortOrdered_string_4])) (.ops A_slices_insertionSortOrdered_string_5)))
def A_slices_insertionSortOrdered_string_7 : List AOper := [⟨some 13, .mov (.t 6), none⟩,
    ⟨some 14, .bini .add (.t 13) (.c (.int .i64 (1))), none⟩,
    ⟨some 6, .mov (.t 14), none⟩]
def A_slices_insertionSortOrdered_string_8 : ACode := (.seq (.seq (.ops A_slices_insertionSortOrdered_string_1) (.cond (.t 12) .skip (.exit 0))) (.seq (.block 1 (.seq (.ops A_slices_insertionSortOrdered_string_2) (.block 2 (.loop A_slices_insertionSortOrdered_string_6)))) (.ops A_slices_insertionSortOrdered_string_7)))
def A_slices_insertionSortOrdered_string : ACode := (.seq (.ops A_slices_insertionSortOrdered_string_0) (.block 0 (.loop A_slices_insertionSortOrdered_string_8)))
def R_slices_insertionSortOrdered_string : List ARes := []
theorem C_slices_insertionSortOrdered_string : compF Tryz.prog Tryz.f104 = some (A_slices_insertionSortOrdered_string, R_slices_insertionSortOrdered_string) := by kernel_rfl
def T_slices_insertionSortOrdered_string : FC := ⟨49, A_slices_insertionSortOrdered_string, R_slices_insertionSortOrdered_string⟩
theorem G_slices_insertionSortOrdered_string : GoodFC Tryz.prog F_slices_insertionSortOrdered_string T_slices_insertionSortOrdered_string := ⟨Tryz.f104, Tryz.func104, Tryz.ntmps104, C_slices_insertionSortOrdered_string, by kernel_rfl⟩

-- math/bits.Len64
abbrev F_math_bits_Len64 : Nat := 114
def A_math_bits_Len64_0 : List AOper := [⟨some 3, .mov (.t 0), none⟩,
    ⟨some 4, .bini .geq (.t 3) (.c (.int .u64 (4294967296))), none⟩]
def A_math_bits_Len64_1 : List AOper := [⟨some 5, .mov (.t 0), none⟩,
    ⟨some 6, .bini .shr (.t 5) (.c (.int .u64 (32))), none⟩,
    ⟨some 0, .mov (.t 6), none⟩]
def A_math_bits_Len64_2 : List AOper := [⟨some 7, .mov (.t 0), none⟩,
    ⟨some 8, .bini .geq (.t 7) (.c (.int .u64 (65536))), none⟩]
def A_math_bits_Len64_3 : List AOper := [⟨some 9, .mov (.t 0), none⟩,
    ⟨some 10, .bini .shr (.t 9) (.c (.int .u64 (16))), none⟩,
    ⟨some 0, .mov (.t 10), none⟩]
def A_math_bits_Len64_4 : List AOper := [⟨some 11, .mov (.t 2), none⟩,
    ⟨some 12, .bini .add (.t 11) (.c (.int .i64 (16))), none⟩,
    ⟨some 2, .mov (.t 12), none⟩]
def A_math_bits_Len64_5 : List AOper := [⟨some 13, .mov (.t 0), none⟩,
    ⟨some 14, .bini .geq (.t 13) (.c (.int .u64 (256))), none⟩]
def A_math_bits_Len64_6 : List AOper := [⟨some 15, .mov (.t 0), none⟩,
    ⟨some 16, .bini .shr (.t 15) (.c (.int .u64 (8))), none⟩,
    ⟨some 0, .mov (.t 16), none⟩]
def A_math_bits_Len64_7 : List AOper := [⟨some 17, .mov (.t 2), none⟩,
    ⟨some 18, .bini .add (.t 17) (.c (.int .i64 (8))), none⟩,
    ⟨some 2, .mov (.t 18), none⟩]
def A_math_bits_Len64_8 : List AOper := [⟨some 19, .mov (.t 2), none⟩,
    ⟨some 20, .mov (.t 0), none⟩,
    ⟨some 21, .conv .u8 (.t 20), none⟩,
    ⟨some 22, .idxs (.c (.str [0, 1, 2, 2, 3, 3, 3, 3, 4, 4, 4, 4, 4, 4, 4, 4, 5, 5, 5, 5, 5, 5, 5, 5, 5, 5, 5, 5, 5, 5, 5, 5, 6, 6, 6, 6, 6, 6, 6, 6, 6, 6, 6, 6, 6, 6, 6, 6, 6, 6, 6, 6, 6, 6, 6, 6, 6, 6, 6, 6, 6, 6, 6, 6, 7, 7, 7, 7, 7, 7, 7, 7, 7, 7, 7, 7, 7, 7, 7, 7, 7, 7, 7, 7, 7, 7, 7, 7, 7, 7, 7, 7, 7, 7, 7, 7, 7, 7, 7, 7, 7, 7, 7, 7, 7, 7, 7, 7, 7, 7, 7, 7, 7, 7, 7, 7, 7, 7, 7, 7, 7, 7, 7, 7, 7, 7, 7, 7, 8, 8, 8, 8, 8, 8, 8, 8, 8, 8, 8, 8, 8, 8, 8, 8, 8, 8, 8, 8, 8, 8, 8, 8, 8, 8, 8, 8, 8, 8, 8, 8, 8, 8, 8, 8, 8, 8, 8, 8, 8, 8, 8, 8, 8, 8, 8, 8, 8, 8, 8, 8, 8, 8, 8, 8, 8, 8, 8, 8, 8, 8, 8, 8, 8, 8, 8, 8, 8, 8, 8, 8, 8, 8, 8, 8, 8, 8, 8, 8, 8, 8, 8, 8, 8, 8, 8, 8, 8, 8, 8, 8, 8, 8, 8, 8, 8, 8, 8, 8, 8, 8, 8, 8, 8, 8, 8, 8, 8, 8, 8, 8, 8, 8, 8, 8, 8, 8, 8, 8, 8, 8, 8, 8, 8, 8, 8, 8])) (.t 21), none⟩,
    ⟨some 23, .conv .i64 (.t 22), none⟩,
    ⟨some 24, .bini .add (.t 19) (.t 23), none⟩,
    ⟨some 2, .mov (.t 24), none⟩]
def A_math_bits_Len64 : ACode := (.seq (.ops [⟨some 2, .mov (.c (.int .i64 (0))), none⟩]) (.seq (.seq (.ops A_math_bits_Len64_0) (.cond (.t 4) (.seq (.ops A_math_bits_Len64_1) (.ops [⟨some 2, .mov (.c (.int .i64 (32))), none⟩])) .skip)) (.seq (.seq (.ops A_math_bits_Len64_2) (.cond (.t 8) (.seq (.ops A_math_bits_Len64_3) (.ops A_math_bits_Len64_4)) .skip)) (.seq (.seq (.ops A_math_bits_Len64_5) (.cond (.t 14) (.seq (.ops A_math_bits_Len64_6) (.ops A_math_bits_Len64_7)) .skip)) (.seq (.ops A_math_bits_Len64_8) .ret)))))
def R_math_bits_Len64 : List ARes := [.tmp 2]
theorem C_math_bits_Len64 : compF Tryz.prog Tryz.f114 = some (A_math_bits_Len64, R_math_bits_Len64) := by kernel_rfl
def T_math_bits_Len64 : FC := ⟨25, A_math_bits_Len64, R_math_bits_Len64⟩
theorem G_math_bits_Len64 : GoodFC Tryz.prog F_math_bits_Len64 T_math_bits_Len64 := ⟨Tryz.f114, Tryz.func114, Tryz.ntmps114, C_math_bits_Len64, by kernel_rfl⟩

-- slices.Clone[[]lexicon/api.FieldDef,lexicon/api.FieldDef]
abbrev F_slices_Clone_api_FieldDef_api_FieldDef : Nat := 120
def A_slices_Clone_api_FieldDef_api_FieldDef_0 : List AOper := [⟨some 3, .mov (.t 0), none⟩,
    ⟨some 4, .isnil .sl false (.t 3), none⟩]
def A_slices_Clone_api_FieldDef_api_FieldDef_1 : List AOper := [⟨some 5, .bslice0 72, none⟩,
    ⟨some 6, .mov (.t 0), none⟩,
    ⟨some 7, .app 72 9 80 (.t 5) (.t 6), none⟩,
    ⟨some 2, .mov (.t 7), none⟩]
def A_slices_Clone_api_FieldDef_api_FieldDef : ACode := (.seq (.ops [⟨some 2, .mov (.c (.nils)), none⟩]) (.seq (.seq (.ops A_slices_Clone_api_FieldDef_api_FieldDef_0) (.cond (.t 4) (.seq (.ops [⟨some 2, .mov (.c (.nils)), none⟩]) .ret) .skip)) (.seq (.ops A_slices_Clone_api_FieldDef_api_FieldDef_1) .ret)))
def R_slices_Clone_api_FieldDef_api_FieldDef : List ARes := [.tmp 2]
theorem C_slices_Clone_api_FieldDef_api_FieldDef : compF Tryz.prog Tryz.f120 = some (A_slices_Clone_api_FieldDef_api_FieldDef, R_slices_Clone_api_FieldDef_api_FieldDef) := by kernel_rfl
def T_slices_Clone_api_FieldDef_api_FieldDef : FC := ⟨8, A_slices_Clone_api_FieldDef_api_FieldDef, R_slices_Clone_api_FieldDef_api_FieldDef⟩
theorem G_slices_Clone_api_FieldDef_api_FieldDef : GoodFC Tryz.prog F_slices_Clone_api_FieldDef_api_FieldDef T_slices_Clone_api_FieldDef_api_FieldDef := ⟨Tryz.f120, Tryz.func120, Tryz.ntmps120, C_slices_Clone_api_FieldDef_api_FieldDef, by kernel_rfl⟩

-- slices.Clone[[]string,string]
abbrev F_slices_Clone_string_string : Nat := 121
def A_slices_Clone_string_string_0 : List AOper := [⟨some 3, .mov (.t 0), none⟩,
    ⟨some 4, .isnil .sl false (.t 3), none⟩]
def A_slices_Clone_string_string_1 : List AOper := [⟨some 5, .bslice0 9, none⟩,
    ⟨some 6, .mov (.t 0), none⟩,
    ⟨some 7, .app 9 1 16 (.t 5) (.t 6), none⟩,
    ⟨some 2, .mov (.t 7), none⟩]
def A_slices_Clone_string_string : ACode := (.seq (.ops [⟨some 2, .mov (.c (.nils)), none⟩]) (.seq (.seq (.ops A_slices_Clone_string_string_0) (.cond (.t 4) (.seq (.ops [⟨some 2, .mov (.c (.nils)), none⟩]) .ret) .skip)) (.seq (.ops A_slices_Clone_string_string_1) .ret)))
def R_slices_Clone_string_string : List ARes := [.tmp 2]
theorem C_slices_Clone_string_string : compF Tryz.prog Tryz.f121 = some (A_slices_Clone_string_string, R_slices_Clone_string_string) := by kernel_rfl
def T_slices_Clone_string_string : FC := ⟨8, A_slices_Clone_string_string, R_slices_Clone_string_string⟩
theorem G_slices_Clone_string_string : GoodFC Tryz.prog F_slices_Clone_string_string T_slices_Clone_string_string := ⟨Tryz.f121, Tryz.func121, Tryz.ntmps121, C_slices_Clone_string_string, by kernel_rfl⟩

-- slices.Clone[[]lexicon/api.Span,lexicon/api.Span]
abbrev F_slices_Clone_api_Span_api_Span : Nat := 122
def A_slices_Clone_api_Span_api_Span_0 : List AOper := [⟨some 3, .mov (.t 0), none⟩,
    ⟨some 4, .isnil .sl false (.t 3), none⟩]
def A_slices_Clone_api_Span_api_Span_1 : List AOper := [⟨some 5, .bslice0 234, none⟩,
    ⟨some 6, .mov (.t 0), none⟩,
    ⟨some 7, .app 234 2 8 (.t 5) (.t 6), none⟩,
    ⟨some 2, .mov (.t 7), none⟩]
def A_slices_Clone_api_Span_api_Span : ACode := (.seq (.ops [⟨some 2, .mov (.c (.nils)), none⟩]) (.seq (.seq (.ops A_slices_Clone_api_Span_api_Span_0) (.cond (.t 4) (.seq (.ops [⟨some 2, .mov (.c (.nils)), none⟩]) .ret) .skip)) (.seq (.ops A_slices_Clone_api_Span_api_Span_1) .ret)))
def R_slices_Clone_api_Span_api_Span : List ARes := [.tmp 2]
theorem C_slices_Clone_api_Span_api_Span : compF Tryz.prog Tryz.f122 = some (A_slices_Clone_api_Span_api_Span, R_slices_Clone_api_Span_api_Span) := by kernel_rfl
def T_slices_Clone_api_Span_api_Span : FC := ⟨8, A_slices_Clone_api_Span_api_Span, R_slices_Clone_api_Span_api_Span⟩
theorem G_slices_Clone_api_Span_api_Span : GoodFC Tryz.prog F_slices_Clone_api_Span_api_Span T_slices_Clone_api_Span_api_Span := ⟨Tryz.f122, Tryz.func122, Tryz.ntmps122, C_slices_Clone_api_Span_api_Span, by kernel_rfl⟩

-- slices.AppendSeq[[]string,string]
abbrev F_slices_AppendSeq_string_string : Nat := 124
def A_slices_AppendSeq_string_string_0 : List AOper := [⟨some 2, .box 64 1 (.t 0), none⟩,
    ⟨some 4, .mov (.c (.nils)), none⟩]
def A_slices_AppendSeq_string_string_1 : List AOper := [⟨some 8, .ld1 (.t 2), none⟩,
    ⟨some 9, .mov (.t 5), none⟩,
    ⟨some 10, .bslice 9 1 1 [.str []] [(0, 1, (.t 9))], none⟩,
    ⟨some 11, .app 9 1 16 (.t 8) (.t 10), none⟩,
    ⟨none, .st 1 (.t 2) (.t 11), none⟩]
def A_slices_AppendSeq_string_string_2 : List AOper := [⟨some 12, .ld1 (.t 2), none⟩,
    ⟨some 4, .mov (.t 12), none⟩]
def A_slices_AppendSeq_string_string : ACode := (.seq (.ops A_slices_AppendSeq_string_string_0) (.seq (.seq (.ops [⟨some 6, .mov (.t 1), none⟩]) (.block 0 (.rngf (.t 6) [7] (.ops [⟨some 5, .mov (.t 7), none⟩]) (.block 1 (.ops A_slices_AppendSeq_string_string_1))))) (.seq (.ops A_slices_AppendSeq_string_string_2) .ret)))
def R_slices_AppendSeq_string_string : List ARes := [.tmp 4]
theorem C_slices_AppendSeq_string_string : compF Tryz.prog Tryz.f124 = some (A_slices_AppendSeq_string_string, R_slices_AppendSeq_string_string) := by kernel_rfl
def T_slices_AppendSeq_string_string : FC := ⟨13, A_slices_AppendSeq_string_string, R_slices_AppendSeq_string_string⟩
theorem G_slices_AppendSeq_string_string : GoodFC Tryz.prog F_slices_AppendSeq_string_string T_slices_AppendSeq_string_string := ⟨Tryz.f124, Tryz.func124, Tryz.ntmps124, C_slices_AppendSeq_string_string, by kernel_rfl⟩

-- lexicon/texts.Ident
abbrev F_texts_Ident : Nat := 126
def A_texts_Ident_0 : List AOper := [⟨some 5, .mov (.t 0), none⟩,
    ⟨some 6, .bins .eql (.t 5) (.c (.str [])), none⟩,
    ⟨some 7, .mov (.t 6), none⟩,
    ⟨some 8, .mov (.t 0), some (7, false)⟩,
    ⟨some 9, .lens (.t 8), some (7, false)⟩,
    ⟨some 10, .bini .gtr (.t 9) (.c (.int .i64 (255))), some (7, false)⟩,
    ⟨some 11, .pick (.t 7) (.c (.bool true)) (.t 10), none⟩,
    ⟨some 12, .mov (.t 11), none⟩,
    ⟨some 13, .mov (.t 0), some (12, false)⟩,
    ⟨some 14, .idxs (.t 13) (.c (.int .i64 (0))), some (12, false)⟩,
    ⟨some 15, .call 161 [(.t 14)], some (12, false)⟩,
    ⟨some 16, .pick (.t 12) (.c (.bool true)) (.t 15), none⟩]
def A_texts_Ident_1 : List AOper := [⟨some 17, .mov (.t 0), none⟩,
    ⟨some 18, .lens (.t 17), none⟩,
    ⟨some 19, .mov (.c (.int .i64 (0))), none⟩]
def A_texts_Ident_2 : List AOper := [⟨some 21, .mov (.t 19), none⟩,
    ⟨some 3, .mov (.t 21), none⟩]
def A_texts_Ident_3 : List AOper := [⟨some 22, .mov (.t 0), none⟩,
    ⟨some 23, .mov (.t 3), none⟩,
    ⟨some 24, .idxs (.t 22) (.t 23), none⟩,
    ⟨some 4, .mov (.t 24), none⟩]
def A_texts_Ident_4 : List AOper := [⟨some 25, .mov (.t 4), none⟩,
    ⟨some 26, .call 162 [(.t 25)], none⟩,
    ⟨some 27, .not (.t 26), none⟩,
    ⟨some 28, .mov (.t 27), none⟩,
    ⟨some 29, .mov (.t 4), some (28, true)⟩,
    ⟨some 30, .call 163 [(.t 29)], some (28, true)⟩,
    ⟨some 31, .not (.t 30), some (28, true)⟩,
    ⟨some 32, .pick (.t 28) (.t 31) (.c (.bool false)), none⟩,
    ⟨some 33, .mov (.t 32), none⟩,
    ⟨some 34, .mov (.t 4), some (33, true)⟩,
    ⟨some 35, .call 161 [(.t 34)], some (33, true)⟩,
    ⟨some 36, .not (.t 35), some (33, true)⟩,
    ⟨some 37, .pick (.t 33) (.t 36) (.c (.bool false)), none⟩,
    ⟨some 38, .mov (.t 37), none⟩,
    ⟨some 39, .mov (.t 4), some (38, true)⟩,
    ⟨some 40, .bini .neq (.t 39) (.c (.int .u8 (95))), some (38, true)⟩,
    ⟨some 41, .pick (.t 38) (.t 40) (.c (.bool false)), none⟩]
def A_texts_Ident_5 : List AOper := [⟨some 42, .bini .add (.t 19) (.c (.int .i64 (1))), none⟩,
    ⟨some 19, .mov (.t 42), none⟩]
def A_texts_Ident_6 : ACode := (.seq (.ops [⟨some 20, .bini .lss (.t 19) (.t 18), none⟩]) (.seq (.cond (.t 20) .skip (.exit 0)) (.seq (.block 1 (.seq (.ops A_texts_Ident_2) (.seq (.ops A_texts_Ident_3) (.seq (.ops A_texts_Ident_4) (.cond (.t 41) (.seq (.ops [⟨some 2, .mov (.c (.bool false)), none⟩]) .ret) .skip))))) (.ops A_texts_Ident_5))))
def A_texts_Ident : ACode := (.seq (.ops [⟨some 2, .mov (.c (.bool false)), none⟩]) (.seq (.seq (.ops A_texts_Ident_0) (.cond (.t 16) (.seq (.ops [⟨some 2, .mov (.c (.bool false)), none⟩]) .ret) .skip)) (.seq (.seq (.ops A_texts_Ident_1) (.block 0 (.loop A_texts_Ident_6))) (.seq (.ops [⟨some 2, .mov (.c (.bool true)), none⟩]) .ret))))
def R_texts_Ident : List ARes := [.tmp 2]
theorem C_texts_Ident : compF Tryz.prog Tryz.f126 = some (A_texts_Ident, R_texts_Ident) := by kernel_rfl
def T_texts_Ident : FC := ⟨43, A_texts_Ident, R_texts_Ident⟩
theorem G_texts_Ident : GoodFC Tryz.prog F_texts_Ident T_texts_Ident := ⟨Tryz.f126, Tryz.func126, Tryz.ntmps126, C_texts_Ident, by kernel_rfl⟩

-- (*lexicon/check.reader).give
abbrev F_check_reader_give : Nat := 127
def A_check_reader_give_0 : List AOper := [⟨some 6, .mov (.t 1), none⟩,
    ⟨some 7, .call 126 [(.t 6)], none⟩,
    ⟨some 8, .mov (.t 7), none⟩,
    ⟨some 9, .mov (.t 2), some (8, true)⟩,
    ⟨some 10, .lens (.t 9), some (8, true)⟩,
    ⟨some 11, .bini .leq (.t 10) (.c (.int .i64 (255))), some (8, true)⟩,
    ⟨some 12, .pick (.t 8) (.t 11) (.c (.bool false)), none⟩,
    ⟨some 13, .mov (.t 2), none⟩,
    ⟨some 14, .call 91 [(.t 12), (.c (.int .i64 (60))), (.t 13)], none⟩]
def A_check_reader_give_1 : List AOper := [⟨some 15, .mov (.t 0), none⟩,
    ⟨some 16, .nilc (.t 15), none⟩,
    ⟨some 17, .faddr 0 (.t 16), none⟩,
    ⟨some 18, .ld1 (.t 17), none⟩,
    ⟨some 19, .mov (.t 2), none⟩,
    ⟨some 20, .mlook .s (.int .i64 (0)) false (.t 18) (.t 19), none⟩,
    ⟨some 21, .bini .add (.t 20) (.c (.int .i64 (1))), none⟩,
    ⟨none, .mupd .s (.t 18) (.t 19) (.t 21), none⟩]
def A_check_reader_give_2 : List AOper := [⟨some 22, .mov (.t 0), none⟩,
    ⟨some 23, .nilc (.t 22), none⟩,
    ⟨some 24, .faddr 0 (.t 23), none⟩,
    ⟨some 25, .ld1 (.t 24), none⟩,
    ⟨some 26, .mov (.t 2), none⟩,
    ⟨some 27, .mlook .s (.int .i64 (0)) false (.t 25) (.t 26), none⟩,
    ⟨some 28, .bini .eql (.t 27) (.c (.int .i64 (1))), none⟩,
    ⟨some 29, .mov (.t 2), none⟩,
    ⟨some 30, .call 91 [(.t 28), (.c (.int .i64 (61))), (.t 29)], none⟩]
def A_check_reader_give : ACode := (.seq (.ops A_check_reader_give_0) (.seq (.ops A_check_reader_give_1) (.ops A_check_reader_give_2)))
def R_check_reader_give : List ARes := []
theorem C_check_reader_give : compF Tryz.prog Tryz.f127 = some (A_check_reader_give, R_check_reader_give) := by kernel_rfl
def T_check_reader_give : FC := ⟨31, A_check_reader_give, R_check_reader_give⟩
theorem G_check_reader_give : GoodFC Tryz.prog F_check_reader_give T_check_reader_give := ⟨Tryz.f127, Tryz.func127, Tryz.ntmps127, C_check_reader_give, by kernel_rfl⟩

-- lexicon/check.spans
abbrev F_check_spans : Nat := 128
def A_check_spans_0 : List AOper := [⟨some 12, .mov (.t 0), none⟩,
    ⟨some 13, .lenl (.t 12), none⟩,
    ⟨some 14, .mov (.c (.int .i64 (0))), none⟩]
def A_check_spans_1 : List AOper := [⟨some 16, .mov (.t 14), none⟩,
    ⟨some 17, .iaddr 234 2 (.t 12) (.t 14), none⟩,
    ⟨some 18, .lda 2 (.t 17), none⟩,
    ⟨some 9, .box 234 2 (.c (.agg [.int .i32 (0), .int .i32 (0)])), none⟩,
    ⟨some 8, .mov (.t 16), none⟩,
    ⟨none, .st 2 (.t 9) (.t 18), none⟩]
def A_check_spans_2 : List AOper := [⟨some 19, .faddr 0 (.t 9), none⟩,
    ⟨some 20, .ld1 (.t 19), none⟩,
    ⟨some 21, .mov (.t 1), none⟩,
    ⟨some 22, .bini .geq (.t 20) (.t 21), none⟩,
    ⟨some 23, .mov (.t 22), none⟩,
    ⟨some 24, .faddr 1 (.t 9), some (23, true)⟩,
    ⟨some 25, .ld1 (.t 24), some (23, true)⟩,
    ⟨some 26, .faddr 0 (.t 9), some (23, true)⟩,
    ⟨some 27, .ld1 (.t 26), some (23, true)⟩,
    ⟨some 28, .bini .geq (.t 25) (.t 27), some (23, true)⟩,
    ⟨some 29, .pick (.t 23) (.t 28) (.c (.bool false)), none⟩,
    ⟨some 30, .mov (.t 29), none⟩,
    ⟨some 31, .faddr 1 (.t 9), some (30, true)⟩,
    ⟨some 32, .ld1 (.t 31), some (30, true)⟩,
    ⟨some 33, .mov (.t 2), some (30, true)⟩,
    ⟨some 34, .bini .leq (.t 32) (.t 33), some (30, true)⟩,
    ⟨some 35, .pick (.t 30) (.t 34) (.c (.bool false)), none⟩,
    ⟨some 36, .mov (.t 3), none⟩,
    ⟨some 37, .call 91 [(.t 35), (.c (.int .i64 (63))), (.t 36)], none⟩]
def A_check_spans_3 : List AOper := [⟨some 38, .mov (.t 0), none⟩,
    ⟨some 39, .mov (.t 8), none⟩,
    ⟨some 40, .slcl 234 2 (.t 38) none (some (.t 39)) none, none⟩,
    ⟨some 41, .lenl (.t 40), none⟩,
    ⟨some 42, .mov (.c (.int .i64 (0))), none⟩]
def A_check_spans_4 : List AOper := [⟨some 44, .iaddr 234 2 (.t 40) (.t 42), none⟩,
    ⟨some 45, .lda 2 (.t 44), none⟩,
    ⟨some 11, .box 234 2 (.c (.agg [.int .i32 (0), .int .i32 (0)])), none⟩,
    ⟨none, .st 2 (.t 11) (.t 45), none⟩]
def A_check_spans_5 : List AOper := [⟨some 46, .faddr 1 (.t 9), none⟩,
    ⟨some 47, .ld1 (.t 46), none⟩,
    ⟨some 48, .faddr 0 (.t 11), none⟩,
    ⟨some 49, .ld1 (.t 48), none⟩,
    ⟨some 50, .bini .lss (.t 47) (.t 49), none⟩,
    ⟨some 51, .mov (.t 50), none⟩,
    ⟨some 52, .faddr 0 (.t 9), some (51, false)⟩,
    ⟨some 53, .ld1 (.t 52), some (51, false)⟩,
    ⟨some 54, .faddr 1 (.t 11), some (51, false)⟩,
    ⟨some 55, .ld1 (.t 54), some (51, false)⟩,
    ⟨some 56, .bini .gtr (.t 53) (.t 55), some (51, false)⟩,
    ⟨some 57, .pick (.t 51) (.c (.bool true)) (.t 56), none⟩,
    ⟨some 58, .mov (.t 3), none⟩,
    ⟨some 59, .call 91 [(.t 57), (.c (.int .i64 (63))), (.t 58)], none⟩]
def A_check_spans_6 : List AOper := [⟨some 60, .bini .add (.t 42) (.c (.int .i64 (1))), none⟩,
    ⟨some 42, .mov (.t 60), none⟩]
def A_check_spans_7 : ACode := (.seq (.ops [⟨some 43, .bini .lss (.t 42) (.t 41), none⟩]) (.seq (.cond (.t 43) .skip (.exit 2)) (.seq (.block 3 (.seq (.ops A_check_spans_4) (.ops A_check_spans_5))) (.ops A_check_spans_6))))
def A_check_spans_8 : List AOper := [⟨some 61, .bini .add (.t 14) (.c (.int .i64 (1))), none⟩,
    ⟨some 14, .mov (.t 61), none⟩]
def A_check_spans_9 : ACode := (.seq (.ops [⟨some 15, .bini .lss (.t 14) (.t 13), none⟩]) (.seq (.cond (.t 15) .skip (.exit 0)) (.seq (.block 1 (.seq (.ops A_check_spans_1) (.seq (.ops A_check_spans_2) (.seq (.ops A_check_spans_3) (.block 2 (.loop A_check_spans_7)))))) (.ops A_check_spans_8))))
def A_check_spans : ACode := (.seq (.ops A_check_spans_0) (.block 0 (.loop A_check_spans_9)))
def R_check_spans : List ARes := []
theorem C_check_spans : compF Tryz.prog Tryz.f128 = some (A_check_spans, R_check_spans) := by kernel_rfl
def T_check_spans : FC := ⟨62, A_check_spans, R_check_spans⟩
theorem G_check_spans : GoodFC Tryz.prog F_check_spans T_check_spans := ⟨Tryz.f128, Tryz.func128, Tryz.ntmps128, C_check_spans, by kernel_rfl⟩

-- lexicon/check.reserved
abbrev F_check_reserved : Nat := 129
def A_check_reserved_0 : List AOper := [⟨some 7, .mov (.t 0), none⟩,
    ⟨some 8, .lenl (.t 7), none⟩,
    ⟨some 9, .mov (.c (.int .i64 (0))), none⟩]
def A_check_reserved_1 : List AOper := [⟨some 11, .mov (.t 9), none⟩,
    ⟨some 12, .iaddr 9 1 (.t 7) (.t 9), none⟩,
    ⟨some 13, .ld1 (.t 12), none⟩,
    ⟨some 4, .mov (.t 11), none⟩,
    ⟨some 5, .mov (.t 13), none⟩]
def A_check_reserved_2 : List AOper := [⟨some 14, .mov (.t 1), none⟩,
    ⟨some 15, .mov (.t 5), none⟩,
    ⟨some 16, .bslice 9 1 2 [.str []] [(0, 1, (.t 14)), (1, 1, (.t 15))], none⟩,
    ⟨some 17, .call 68 [(.t 16)], none⟩,
    ⟨some 6, .mov (.t 17), none⟩]
def A_check_reserved_3 : List AOper := [⟨some 18, .mov (.t 5), none⟩,
    ⟨some 19, .call 126 [(.t 18)], none⟩,
    ⟨some 20, .mov (.t 6), none⟩,
    ⟨some 21, .call 91 [(.t 19), (.c (.int .i64 (60))), (.t 20)], none⟩]
def A_check_reserved_4 : List AOper := [⟨some 22, .mov (.t 0), none⟩,
    ⟨some 23, .mov (.t 4), none⟩,
    ⟨some 24, .slcl 9 1 (.t 22) none (some (.t 23)) none, none⟩,
    ⟨some 25, .mov (.t 5), none⟩,
    ⟨some 26, .call 78 [(.t 24), (.t 25)], none⟩,
    ⟨some 27, .not (.t 26), none⟩,
    ⟨some 28, .mov (.t 6), none⟩,
    ⟨some 29, .call 91 [(.t 27), (.c (.int .i64 (61))), (.t 28)], none⟩]
def A_check_reserved_5 : List AOper := [⟨some 30, .bini .add (.t 9) (.c (.int .i64 (1))), none⟩,
    ⟨some 9, .mov (.t 30), none⟩]
def A_check_reserved_6 : ACode := (.seq (.ops [⟨some 10, .bini .lss (.t 9) (.t 8), none⟩]) (.seq (.cond (.t 10) .skip (.exit 0)) (.seq (.block 1 (.seq (.ops A_check_reserved_1) (.seq (.ops A_check_reserved_2) (.seq (.ops A_check_reserved_3) (.ops A_check_reserved_4))))) (.ops A_check_reserved_5))))
def A_check_reserved : ACode := (.seq (.ops A_check_reserved_0) (.block 0 (.loop A_check_reserved_6)))
def R_check_reserved : List ARes := []
theorem C_check_reserved : compF Tryz.prog Tryz.f129 = some (A_check_reserved, R_check_reserved) := by kernel_rfl
def T_check_reserved : FC := ⟨31, A_check_reserved, R_check_reserved⟩
theorem G_check_reserved : GoodFC Tryz.prog F_check_reserved T_check_reserved := ⟨Tryz.f129, Tryz.func129, Tryz.ntmps129, C_check_reserved, by kernel_rfl⟩

-- (*lexicon/check.reader).field
abbrev F_check_reader_field : Nat := 130
def A_check_reader_field_0 : List AOper := [⟨some 13, .faddr 1 (.t 5), none⟩,
    ⟨some 14, .ld1 (.t 13), none⟩,
    ⟨some 15, .mov (.t 2), none⟩,
    ⟨some 16, .iaddr 72 9 (.t 14) (.t 15), none⟩,
    ⟨some 17, .lda 9 (.t 16), none⟩,
    ⟨some 18, .faddr 1 (.t 5), none⟩,
    ⟨some 20, .mov (.t 2), none⟩,
    ⟨some 19, .ld1 (.t 18), none⟩,
    ⟨some 21, .slcl 72 9 (.t 19) none (some (.t 20)) none, none⟩,
    ⟨some 8, .box 72 9 (.c (.agg [.str [], .int .i32 (0), .int .u8 (0), .int .u8 (0), .str [], .int .u8 (0), .int .i64 (0), .int .u8 (0), .str []])), none⟩,
    ⟨none, .st 9 (.t 8) (.t 17), none⟩,
    ⟨some 9, .mov (.t 21), none⟩]
def A_check_reader_field_1 : List AOper := [⟨some 13, .faddr 1 (.t 5), none⟩,
    ⟨some 14, .ld1 (.t 13), none⟩,
    ⟨some 15, .mov (.t 2), none⟩,
    ⟨some 16, .iaddr 72 9 (.t 14) (.t 15), none⟩,
    ⟨some 17, .lda 9 (.t 16), none⟩,
    ⟨some 18, .faddr 1 (.t 5), none⟩,
    ⟨some 20, .mov (.t 2), none⟩,
    ⟨some 19, .ld1 (.t 18), none⟩,
    ⟨some 8, .box 72 9 (.c (.agg [.str [], .int .i32 (0), .int .u8 (0), .int .u8 (0), .str [], .int .u8 (0), .int .i64 (0), .int .u8 (0), .str []])), none⟩,
    ⟨some 21, .slcl 72 9 (.t 19) none (some (.t 20)) none, none⟩,
    ⟨none, .st 9 (.t 8) (.t 17), none⟩,
    ⟨some 9, .mov (.t 21), none⟩]
def A_check_reader_field_2 : List AOper := [⟨some 13, .faddr 1 (.t 5), none⟩,
    ⟨some 14, .ld1 (.t 13), none⟩,
    ⟨some 15, .mov (.t 2), none⟩,
    ⟨some 16, .iaddr 72 9 (.t 14) (.t 15), none⟩,
    ⟨some 17, .lda 9 (.t 16), none⟩,
    ⟨some 18, .faddr 1 (.t 5), none⟩,
    ⟨some 20, .mov (.t 2), none⟩,
    ⟨some 19, .ld1 (.t 18), none⟩,
    ⟨some 8, .box 72 9 (.c (.agg [.str [], .int .i32 (0), .int .u8 (0), .int .u8 (0), .str [], .int .u8 (0), .int .i64 (0), .int .u8 (0), .str []])), none⟩,
    ⟨none, .st 9 (.t 8) (.t 17), none⟩,
    ⟨some 21, .slcl 72 9 (.t 19) none (some (.t 20)) none, none⟩,
    ⟨some 9, .mov (.t 21), none⟩]
def A_check_reader_field_3 : List AOper := [⟨some 13, .faddr 1 (.t 5), none⟩,
    ⟨some 14, .ld1 (.t 13), none⟩,
    ⟨some 15, .mov (.t 2), none⟩,
    ⟨some 16, .iaddr 72 9 (.t 14) (.t 15), none⟩,
    ⟨some 17, .lda 9 (.t 16), none⟩,
    ⟨some 18, .faddr 1 (.t 5), none⟩,
    ⟨some 20, .mov (.t 2), none⟩,
    ⟨some 8, .box 72 9 (.c (.agg [.str [], .int .i32 (0), .int .u8 (0), .int .u8 (0), .str [], .int .u8 (0), .int .i64 (0), .int .u8 (0), .str []])), none⟩,
    ⟨some 19, .ld1 (.t 18), none⟩,
    ⟨some 21, .slcl 72 9 (.t 19) none (some (.t 20)) none, none⟩,
    ⟨none, .st 9 (.t 8) (.t 17), none⟩,
    ⟨some 9, .mov (.t 21), none⟩]
def A_check_reader_field_4 : List AOper := [⟨some 13, .faddr 1 (.t 5), none⟩,
    ⟨some 14, .ld1 (.t 13), none⟩,
    ⟨some 15, .mov (.t 2), none⟩,
    ⟨some 16, .iaddr 72 9 (.t 14) (.t 15), none⟩,
    ⟨some 17, .lda 9 (.t 16), none⟩,
    ⟨some 18, .faddr 1 (.t 5), none⟩,
    ⟨some 20, .mov (.t 2), none⟩,
    ⟨some 8, .box 72 9 (.c (.agg [.str [], .int .i32 (0), .int .u8 (0), .int .u8 (0), .str [], .int .u8 (0), .int .i64 (0), .int .u8 (0), .str []])), none⟩,
    ⟨some 19, .ld1 (.t 18), none⟩,
    ⟨none, .st 9 (.t 8) (.t 17), none⟩,
    ⟨some 21, .slcl 72 9 (.t 19) none (some (.t 20)) none, none⟩,
    ⟨some 9, .mov (.t 21), none⟩]
def A_check_reader_field_5 : List AOper := [⟨some 13, .faddr 1 (.t 5), none⟩,
    ⟨some 14, .ld1 (.t 13), none⟩,
    ⟨some 15, .mov (.t 2), none⟩,
    ⟨some 16, .iaddr 72 9 (.t 14) (.t 15), none⟩,
    ⟨some 17, .lda 9 (.t 16), none⟩,
    ⟨some 18, .faddr 1 (.t 5), none⟩,
    ⟨some 20, .mov (.t 2), none⟩,
    ⟨some 8, .box 72 9 (.c (.agg [.str [], .int .i32 (0), .int .u8 (0), .int .u8 (0), .str [], .int .u8 (0), .int .i64 (0), .int .u8 (0), .str []])), none⟩,
    ⟨none, .st 9 (.t 8) (.t 17), none⟩,
    ⟨some 19, .ld1 (.t 18), none⟩,
    ⟨some 21, .slcl 72 9 (.t 19) none (some (.t 20)) none, none⟩,
    ⟨some 9, .mov (.t 21), none⟩]
def A_check_reader_field_6 : List AOper := [⟨some 13, .faddr 1 (.t 5), none⟩,
    ⟨some 14, .ld1 (.t 13), none⟩,
    ⟨some 15, .mov (.t 2), none⟩,
    ⟨some 16, .iaddr 72 9 (.t 14) (.t 15), none⟩,
    ⟨some 17, .lda 9 (.t 16), none⟩,
    ⟨some 18, .faddr 1 (.t 5), none⟩,
    ⟨some 20, .mov (.t 2), none⟩,
    ⟨some 19, .ld1 (.t 18), none⟩,
    ⟨some 21, .slcl 72 9 (.t 19) none (some (.t 20)) none, none⟩,
    ⟨some 8, .box 72 9 (.c (.agg [.str [], .int .i32 (0), .int .u8 (0), .int .u8 (0), .str [], .int .u8 (0), .int .i64 (0), .int .u8 (0), .str []])), none⟩,
    ⟨none, .st 9 (.t 8) (.t 17), none⟩,
    ⟨some 9, .mov (.t 21), none⟩]
def A_check_reader_field_7 : List AOper := [⟨some 13, .faddr 1 (.t 5), none⟩,
    ⟨some 14, .ld1 (.t 13), none⟩,
    ⟨some 15, .mov (.t 2), none⟩,
    ⟨some 16, .iaddr 72 9 (.t 14) (.t 15), none⟩,
    ⟨some 17, .lda 9 (.t 16), none⟩,
    ⟨some 18, .faddr 1 (.t 5), none⟩,
    ⟨some 20, .mov (.t 2), none⟩,
    ⟨some 19, .ld1 (.t 18), none⟩,
    ⟨some 8, .box 72 9 (.c (.agg [.str [], .int .i32 (0), .int .u8 (0), .int .u8 (0), .str [], .int .u8 (0), .int .i64 (0), .int .u8 (0), .str []])), none⟩,
    ⟨some 21, .slcl 72 9 (.t 19) none (some (.t 20)) none, none⟩,
    ⟨none, .st 9 (.t 8) (.t 17), none⟩,
    ⟨some 9, .mov (.t 21), none⟩]
def A_check_reader_field_8 : List AOper := [⟨some 13, .faddr 1 (.t 5), none⟩,
    ⟨some 14, .ld1 (.t 13), none⟩,
    ⟨some 15, .mov (.t 2), none⟩,
    ⟨some 16, .iaddr 72 9 (.t 14) (.t 15), none⟩,
    ⟨some 17, .lda 9 (.t 16), none⟩,
    ⟨some 18, .faddr 1 (.t 5), none⟩,
    ⟨some 20, .mov (.t 2), none⟩,
    ⟨some 19, .ld1 (.t 18), none⟩,
    ⟨some 8, .box 72 9 (.c (.agg [.str [], .int .i32 (0), .int .u8 (0), .int .u8 (0), .str [], .int .u8 (0), .int .i64 (0), .int .u8 (0), .str []])), none⟩,
    ⟨none, .st 9 (.t 8) (.t 17), none⟩,
    ⟨some 21, .slcl 72 9 (.t 19) none (some (.t 20)) none, none⟩,
    ⟨some 9, .mov (.t 21), none⟩]
def A_check_reader_field_9 : List AOper := [⟨some 13, .faddr 1 (.t 5), none⟩,
    ⟨some 14, .ld1 (.t 13), none⟩,
    ⟨some 15, .mov (.t 2), none⟩,
    ⟨some 16, .iaddr 72 9 (.t 14) (.t 15), none⟩,
    ⟨some 17, .lda 9 (.t 16), none⟩,
    ⟨some 18, .faddr 1 (.t 5), none⟩,
    ⟨some 20, .mov (.t 2), none⟩,
    ⟨some 8, .box 72 9 (.c (.agg [.str [], .int .i32 (0), .int .u8 (0), .int .u8 (0), .str [], .int .u8 (0), .int .i64 (0), .int .u8 (0), .str []])), none⟩,
    ⟨some 19, .ld1 (.t 18), none⟩,
    ⟨some 21, .slcl 72 9 (.t 19) none (some (.t 20)) none, none⟩,
    ⟨none, .st 9 (.t 8) (.t 17), none⟩,
    ⟨some 9, .mov (.t 21), none⟩]
def A_check_reader_field_10 : List AOper := [⟨some 13, .faddr 1 (.t 5), none⟩,
    ⟨some 14, .ld1 (.t 13), none⟩,
    ⟨some 15, .mov (.t 2), none⟩,
    ⟨some 16, .iaddr 72 9 (.t 14) (.t 15), none⟩,
    ⟨some 17, .lda 9 (.t 16), none⟩,
    ⟨some 18, .faddr 1 (.t 5), none⟩,
    ⟨some 20, .mov (.t 2), none⟩,
    ⟨some 8, .box 72 9 (.c (.agg [.str [], .int .i32 (0), .int .u8 (0), .int .u8 (0), .str [], .int .u8 (0), .int .i64 (0), .int .u8 (0), .str []])), none⟩,
    ⟨some 19, .ld1 (.t 18), none⟩,
    ⟨none, .st 9 (.t 8) (.t 17), none⟩,
    ⟨some 21, .slcl 72 9 (.t 19) none (some (.t 20)) none, none⟩,
    ⟨some 9, .mov (.t 21), none⟩]
def A_check_reader_field_11 : List AOper := [⟨some 13, .faddr 1 (.t 5), none⟩,
    ⟨some 14, .ld1 (.t 13), none⟩,
    ⟨some 15, .mov (.t 2), none⟩,
    ⟨some 16, .iaddr 72 9 (.t 14) (.t 15), none⟩,
    ⟨some 17, .lda 9 (.t 16), none⟩,
    ⟨some 18, .faddr 1 (.t 5), none⟩,
    ⟨some 20, .mov (.t 2), none⟩,
    ⟨some 8, .box 72 9 (.c (.agg [.str [], .int .i32 (0), .int .u8 (0), .int .u8 (0), .str [], .int .u8 (0), .int .i64 (0), .int .u8 (0), .str []])), none⟩,
    ⟨none, .st 9 (.t 8) (.t 17), none⟩,
    ⟨some 19, .ld1 (.t 18), none⟩,
    ⟨some 21, .slcl 72 9 (.t 19) none (some (.t 20)) none, none⟩,
    ⟨some 9, .mov (.t 21), none⟩]
def A_check_reader_field_12 : List AOper := [⟨some 22, .mov (.t 3), none⟩,
    ⟨some 23, .faddr 0 (.t 8), none⟩,
    ⟨some 24, .ld1 (.t 23), none⟩,
    ⟨some 25, .bslice 9 1 2 [.str []] [(0, 1, (.t 22)), (1, 1, (.t 24))], none⟩,
    ⟨some 26, .call 68 [(.t 25)], none⟩,
    ⟨some 10, .mov (.t 26), none⟩]
def A_check_reader_field_13 : List AOper := [⟨some 27, .mov (.t 0), none⟩,
    ⟨some 28, .faddr 0 (.t 8), none⟩,
    ⟨some 29, .ld1 (.t 28), none⟩,
    ⟨some 30, .mov (.t 10), none⟩,
    ⟨some 31, .call 127 [(.t 27), (.t 29), (.t 30)], none⟩]
def A_check_reader_field_14 : List AOper := [⟨some 32, .faddr 6 (.t 5), none⟩,
    ⟨some 33, .ld1 (.t 32), none⟩,
    ⟨some 34, .faddr 0 (.t 8), none⟩,
    ⟨some 35, .ld1 (.t 34), none⟩,
    ⟨some 36, .call 78 [(.t 33), (.t 35)], none⟩,
    ⟨some 37, .not (.t 36), none⟩,
    ⟨some 38, .mov (.t 10), none⟩,
    ⟨some 39, .call 91 [(.t 37), (.c (.int .i64 (63))), (.t 38)], none⟩]
def A_check_reader_field_15 : List AOper := [⟨some 40, .faddr 1 (.t 8), none⟩,
    ⟨some 41, .ld1 (.t 40), none⟩,
    ⟨some 42, .call 164 [(.t 41)], none⟩,
    ⟨some 43, .mov (.t 42), none⟩,
    ⟨some 44, .mov (.t 9), some (43, true)⟩,
    ⟨some 45, .mkfn 165 [] [(.t 8)], some (43, true)⟩,
    ⟨some 46, .call 131 [(.t 44), (.t 45)], some (43, true)⟩,
    ⟨some 47, .not (.t 46), some (43, true)⟩,
    ⟨some 48, .pick (.t 43) (.t 47) (.c (.bool false)), none⟩,
    ⟨some 49, .mov (.t 10), none⟩,
    ⟨some 50, .call 91 [(.t 48), (.c (.int .i64 (62))), (.t 49)], none⟩]
def A_check_reader_field_16 : List AOper := [⟨some 51, .faddr 5 (.t 5), none⟩,
    ⟨some 52, .ld1 (.t 51), none⟩,
    ⟨some 53, .faddr 1 (.t 8), none⟩,
    ⟨some 54, .ld1 (.t 53), none⟩,
    ⟨some 55, .call 133 [(.t 52), (.t 54)], none⟩,
    ⟨some 56, .not (.t 55), none⟩,
    ⟨some 57, .mov (.t 10), none⟩,
    ⟨some 58, .call 91 [(.t 56), (.c (.int .i64 (63))), (.t 57)], none⟩]
def A_check_reader_field_17 : List AOper := [⟨some 59, .faddr 2 (.t 8), none⟩,
    ⟨some 60, .ld1 (.t 59), none⟩,
    ⟨some 61, .bini .geq (.t 60) (.c (.int .u8 (1))), none⟩,
    ⟨some 62, .mov (.t 61), none⟩,
    ⟨some 63, .faddr 2 (.t 8), some (62, true)⟩,
    ⟨some 64, .ld1 (.t 63), some (62, true)⟩,
    ⟨some 65, .bini .leq (.t 64) (.c (.int .u8 (4))), some (62, true)⟩,
    ⟨some 66, .pick (.t 62) (.t 65) (.c (.bool false)), none⟩,
    ⟨some 67, .mov (.t 66), none⟩,
    ⟨some 68, .faddr 3 (.t 8), some (67, true)⟩,
    ⟨some 69, .ld1 (.t 68), some (67, true)⟩,
    ⟨some 70, .bini .eql (.t 69) (.c (.int .u8 (0))), some (67, true)⟩,
    ⟨some 71, .mov (.t 70), some (67, true)⟩,
    ⟨some 72, .faddr 3 (.t 8), some (71, false)⟩,
    ⟨some 73, .ld1 (.t 72), some (71, false)⟩,
    ⟨some 74, .call 166 [(.t 73)], some (71, false)⟩,
    ⟨some 75, .pick (.t 71) (.c (.bool true)) (.t 74), some (67, true)⟩,
    ⟨some 76, .pick (.t 67) (.t 75) (.c (.bool false)), none⟩,
    ⟨some 77, .mov (.t 10), none⟩,
    ⟨some 78, .call 91 [(.t 76), (.c (.int .i64 (69))), (.t 77)], none⟩]
def A_check_reader_field_18 : List AOper := [⟨some 79, .faddr 3 (.t 8), none⟩,
    ⟨some 80, .ld1 (.t 79), none⟩,
    ⟨some 81, .call 167 [(.t 80)], none⟩]
def A_check_reader_field_19 : List AOper := [⟨some 82, .faddr 4 (.t 8), none⟩,
    ⟨some 83, .ld1 (.t 82), none⟩,
    ⟨some 84, .call 168 [(.t 83)], none⟩,
    ⟨some 85, .mov (.t 10), none⟩,
    ⟨some 86, .call 91 [(.t 84), (.c (.int .i64 (69))), (.t 85)], none⟩]
def A_check_reader_field_20 : List AOper := [⟨some 87, .faddr 4 (.t 8), none⟩,
    ⟨some 88, .ld1 (.t 87), none⟩,
    ⟨some 89, .bins .eql (.t 88) (.c (.str [])), none⟩,
    ⟨some 90, .mov (.t 10), none⟩,
    ⟨some 91, .call 91 [(.t 89), (.c (.int .i64 (69))), (.t 90)], none⟩]
def A_check_reader_field_21 : List AOper := [⟨some 92, .faddr 2 (.t 8), none⟩,
    ⟨some 93, .ld1 (.t 92), none⟩,
    ⟨some 94, .bini .eql (.t 93) (.c (.int .u8 (4))), none⟩]
def A_check_reader_field_22 : List AOper := [⟨some 95, .faddr 5 (.t 8), none⟩,
    ⟨some 96, .ld1 (.t 95), none⟩,
    ⟨some 97, .call 169 [(.t 96)], none⟩,
    ⟨some 98, .mov (.t 10), none⟩,
    ⟨some 99, .call 91 [(.t 97), (.c (.int .i64 (65))), (.t 98)], none⟩]
def A_check_reader_field_23 : List AOper := [⟨some 100, .faddr 5 (.t 8), none⟩,
    ⟨some 101, .ld1 (.t 100), none⟩,
    ⟨some 102, .bini .eql (.t 101) (.c (.int .u8 (0))), none⟩,
    ⟨some 103, .mov (.t 10), none⟩,
    ⟨some 104, .call 91 [(.t 102), (.c (.int .i64 (65))), (.t 103)], none⟩]
def A_check_reader_field_24 : List AOper := [⟨some 105, .faddr 6 (.t 8), none⟩,
    ⟨some 106, .ld1 (.t 105), none⟩,
    ⟨some 107, .bini .geq (.t 106) (.c (.int .i64 (0))), none⟩,
    ⟨some 108, .mov (.t 107), none⟩,
    ⟨some 109, .faddr 6 (.t 8), some (108, true)⟩,
    ⟨some 110, .ld1 (.t 109), some (108, true)⟩,
    ⟨some 111, .faddr 2 (.t 5), some (108, true)⟩,
    ⟨some 112, .ld1 (.t 111), some (108, true)⟩,
    ⟨some 113, .lenl (.t 112), some (108, true)⟩,
    ⟨some 114, .bini .leq (.t 110) (.t 113), some (108, true)⟩,
    ⟨some 115, .pick (.t 108) (.t 114) (.c (.bool false)), none⟩,
    ⟨some 116, .mov (.t 115), none⟩,
    ⟨some 117, .faddr 6 (.t 8), some (116, true)⟩,
    ⟨some 118, .ld1 (.t 117), some (116, true)⟩,
    ⟨some 119, .bini .eql (.t 118) (.c (.int .i64 (0))), some (116, true)⟩,
    ⟨some 120, .mov (.t 119), some (116, true)⟩,
    ⟨some 121, .faddr 2 (.t 8), some (120, false)⟩,
    ⟨some 122, .ld1 (.t 121), some (120, false)⟩,
    ⟨some 123, .bini .eql (.t 122) (.c (.int .u8 (1))), some (120, false)⟩,
    ⟨some 124, .pick (.t 120) (.c (.bool true)) (.t 123), some (116, true)⟩,
    ⟨some 125, .pick (.t 116) (.t 124) (.c (.bool false)), none⟩,
    ⟨some 126, .mov (.t 10), none⟩,
    ⟨some 127, .call 91 [(.t 125), (.c (.int .i64 (64))), (.t 126)], none⟩]
def A_check_reader_field_25 : List AOper := [⟨some 128, .faddr 7 (.t 8), none⟩,
    ⟨some 129, .ld1 (.t 128), none⟩,
    ⟨some 130, .bini .leq (.t 129) (.c (.int .u8 (2))), none⟩,
    ⟨some 131, .mov (.t 130), none⟩,
    ⟨some 132, .faddr 7 (.t 8), some (131, true)⟩,
    ⟨some 133, .ld1 (.t 132), some (131, true)⟩,
    ⟨some 134, .bini .eql (.t 133) (.c (.int .u8 (0))), some (131, true)⟩,
    ⟨some 135, .mov (.t 134), some (131, true)⟩,
    ⟨some 136, .faddr 2 (.t 8), some (135, false)⟩,
    ⟨some 137, .ld1 (.t 136), some (135, false)⟩,
    ⟨some 138, .bini .eql (.t 137) (.c (.int .u8 (3))), some (135, false)⟩,
    ⟨some 139, .mov (.t 138), some (135, false)⟩,
    ⟨some 140, .faddr 3 (.t 8), some (139, true)⟩,
    ⟨some 141, .ld1 (.t 140), some (139, true)⟩,
    ⟨some 142, .call 170 [(.t 141)], some (139, true)⟩,
    ⟨some 143, .pick (.t 139) (.t 142) (.c (.bool false)), some (135, false)⟩,
    ⟨some 144, .pick (.t 135) (.c (.bool true)) (.t 143), some (131, true)⟩,
    ⟨some 145, .pick (.t 131) (.t 144) (.c (.bool false)), none⟩,
    ⟨some 146, .mov (.t 10), none⟩,
    ⟨some 147, .call 91 [(.t 145), (.c (.int .i64 (67))), (.t 146)], none⟩]
def A_check_reader_field_26 : List AOper := [⟨some 148, .faddr 8 (.t 8), none⟩,
    ⟨some 149, .ld1 (.t 148), none⟩,
    ⟨some 150, .call 83 [(.t 149)], none⟩,
    ⟨some 151, .bini .lss (.t 150) (.c (.int .i64 (0))), none⟩,
    ⟨some 152, .mov (.t 151), none⟩,
    ⟨some 153, .faddr 8 (.t 8), some (152, true)⟩,
    ⟨some 154, .ld1 (.t 153), some (152, true)⟩,
    ⟨some 155, .lens (.t 154), some (152, true)⟩,
    ⟨some 156, .bini .leq (.t 155) (.c (.int .i64 (255))), some (152, true)⟩,
    ⟨some 157, .pick (.t 152) (.t 156) (.c (.bool false)), none⟩,
    ⟨some 158, .mov (.t 157), none⟩,
    ⟨some 159, .faddr 8 (.t 8), some (158, true)⟩,
    ⟨some 160, .ld1 (.t 159), some (158, true)⟩,
    ⟨some 161, .call 171 [(.t 160), (.c (.str [64]))], some (158, true)⟩,
    ⟨some 162, .not (.t 161), some (158, true)⟩,
    ⟨some 163, .pick (.t 158) (.t 162) (.c (.bool false)), none⟩,
    ⟨some 164, .mov (.t 10), none⟩,
    ⟨some 165, .call 91 [(.t 163), (.c (.int .i64 (60))), (.t 164)], none⟩]
def A_check_reader_field_27 : List AOper := [⟨some 166, .mov (.t 9), none⟩,
    ⟨some 167, .lenl (.t 166), none⟩,
    ⟨some 168, .mov (.c (.int .i64 (0))), none⟩]
def A_check_reader_field_28 : List AOper := [⟨some 170, .iaddr 72 9 (.t 166) (.t 168), none⟩,
    ⟨some 171, .lda 9 (.t 170), none⟩,
    ⟨some 12, .box 72 9 (.c (.agg [.str [], .int .i32 (0), .int .u8 (0), .int .u8 (0), .str [], .int .u8 (0), .int .i64 (0), .int .u8 (0), .str []])), none⟩,
    ⟨none, .st 9 (.t 12) (.t 171), none⟩]
def A_check_reader_field_29 : List AOper := [⟨some 172, .lda 9 (.t 12), none⟩,
    ⟨some 174, .lda 9 (.t 8), none⟩,
    ⟨some 191, .mov (.t 10), none⟩,
    ⟨some 173, .acall 172 [(.t 172)], none⟩,
    ⟨some 175, .acall 172 [(.t 174)], none⟩,
    ⟨some 176, .bins .neq (.t 173) (.t 175), none⟩,
    ⟨some 177, .mov (.t 176), none⟩,
    ⟨some 178, .lda 9 (.t 12), some (177, true)⟩,
    ⟨some 180, .faddr 0 (.t 8), some (177, true)⟩,
    ⟨some 181, .ld1 (.t 180), some (177, true)⟩,
    ⟨some 179, .acall 172 [(.t 178)], some (177, true)⟩,
    ⟨some 182, .bins .neq (.t 179) (.t 181), some (177, true)⟩,
    ⟨some 183, .pick (.t 177) (.t 182) (.c (.bool false)), none⟩,
    ⟨some 184, .mov (.t 183), none⟩,
    ⟨some 185, .faddr 0 (.t 12), some (184, true)⟩,
    ⟨some 186, .ld1 (.t 185), some (184, true)⟩,
    ⟨some 187, .lda 9 (.t 8), some (184, true)⟩,
    ⟨some 188, .acall 172 [(.t 187)], some (184, true)⟩,
    ⟨some 189, .bins .neq (.t 186) (.t 188), some (184, true)⟩,
    ⟨some 190, .pick (.t 184) (.t 189) (.c (.bool false)), none⟩,
    ⟨some 192, .acall 91 [(.t 190), (.c (.int .i64 (61))), (.t 191)], none⟩]
def A_check_reader_field_30 : List AOper := [⟨some 172, .lda 9 (.t 12), none⟩,
    ⟨some 173, .pcall 172 [(.t 172)], none⟩,
    ⟨some 174, .lda 9 (.t 8), none⟩,
    ⟨some 175, .pcall 172 [(.t 174)], none⟩,
    ⟨some 176, .bins .neq (.t 173) (.t 175), none⟩,
    ⟨some 177, .mov (.t 176), none⟩,
    ⟨some 178, .lda 9 (.t 12), some (177, true)⟩,
    ⟨some 179, .pcall 172 [(.t 178)], some (177, true)⟩,
    ⟨some 180, .faddr 0 (.t 8), some (177, true)⟩,
    ⟨some 181, .ld1 (.t 180), some (177, true)⟩,
    ⟨some 182, .bins .neq (.t 179) (.t 181), some (177, true)⟩,
    ⟨some 183, .pick (.t 177) (.t 182) (.c (.bool false)), none⟩,
    ⟨some 184, .mov (.t 183), none⟩,
    ⟨some 185, .faddr 0 (.t 12), some (184, true)⟩,
    ⟨some 186, .ld1 (.t 185), some (184, true)⟩,
    ⟨some 187, .lda 9 (.t 8), some (184, true)⟩,
    ⟨some 188, .pcall 172 [(.t 187)], some (184, true)⟩,
    ⟨some 189, .bins .neq (.t 186) (.t 188), some (184, true)⟩,
    ⟨some 190, .pick (.t 184) (.t 189) (.c (.bool false)), none⟩,
    ⟨some 191, .mov (.t 10), none⟩,
    ⟨some 192, .pcall 91 [(.t 190), (.c (.int .i64 (61))), (.t 191)], none⟩]
def A_check_reader_field_31 : List AOper := [⟨some 172, .lda 9 (.t 12), none⟩,
    ⟨some 191, .mov (.t 10), none⟩,
    ⟨some 173, .call 172 [(.t 172)], none⟩,
    ⟨some 174, .lda 9 (.t 8), none⟩,
    ⟨some 175, .call 172 [(.t 174)], none⟩,
    ⟨some 176, .bins .neq (.t 173) (.t 175), none⟩,
    ⟨some 177, .mov (.t 176), none⟩,
    ⟨some 178, .lda 9 (.t 12), some (177, true)⟩,
    ⟨some 180, .faddr 0 (.t 8), some (177, true)⟩,
    ⟨some 179, .call 172 [(.t 178)], some (177, true)⟩,
    ⟨some 181, .ld1 (.t 180), some (177, true)⟩,
    ⟨some 182, .bins .neq (.t 179) (.t 181), some (177, true)⟩,
    ⟨some 183, .pick (.t 177) (.t 182) (.c (.bool false)), none⟩,
    ⟨some 184, .mov (.t 183), none⟩,
    ⟨some 185, .faddr 0 (.t 12), some (184, true)⟩,
    ⟨some 187, .lda 9 (.t 8), some (184, true)⟩,
    ⟨some 186, .ld1 (.t 185), some (184, true)⟩,
    ⟨some 188, .call 172 [(.t 187)], some (184, true)⟩,
    ⟨some 189, .bins .neq (.t 186) (.t 188), some (184, true)⟩,
    ⟨some 190, .pick (.t 184) (.t 189) (.c (.bool false)), none⟩,
    ⟨some 192, .call 91 [(.t 190), (.c (.int .i64 (61))), (.t 191)], none⟩]
def A_check_reader_field_32 : List AOper := [⟨some 172, .lda 9 (.t 12), none⟩,
    ⟨some 191, .mov (.t 10), none⟩,
    ⟨some 173, .call 172 [(.t 172)], none⟩,
    ⟨some 174, .lda 9 (.t 8), none⟩,
    ⟨some 175, .call 172 [(.t 174)], none⟩,
    ⟨some 176, .bins .neq (.t 173) (.t 175), none⟩,
    ⟨some 177, .mov (.t 176), none⟩,
    ⟨some 178, .lda 9 (.t 12), some (177, true)⟩,
    ⟨some 180, .faddr 0 (.t 8), some (177, true)⟩,
    ⟨some 179, .call 172 [(.t 178)], some (177, true)⟩,
    ⟨some 181, .ld1 (.t 180), some (177, true)⟩,
    ⟨some 182, .bins .neq (.t 179) (.t 181), some (177, true)⟩,
    ⟨some 183, .pick (.t 177) (.t 182) (.c (.bool false)), none⟩,
    ⟨some 184, .mov (.t 183), none⟩,
    ⟨some 185, .faddr 0 (.t 12), some (184, true)⟩,
    ⟨some 187, .lda 9 (.t 8), some (184, true)⟩,
    ⟨some 188, .call 172 [(.t 187)], some (184, true)⟩,
    ⟨some 186, .ld1 (.t 185), some (184, true)⟩,
    ⟨some 189, .bins .neq (.t 186) (.t 188), some (184, true)⟩,
    ⟨some 190, .pick (.t 184) (.t 189) (.c (.bool false)), none⟩,
    ⟨some 192, .call 91 [(.t 190), (.c (.int .i64 (61))), (.t 191)], none⟩]
def A_check_reader_field_33 : List AOper := [⟨some 172, .lda 9 (.t 12), none⟩,
    ⟨some 191, .mov (.t 10), none⟩,
    ⟨some 173, .call 172 [(.t 172)], none⟩,
    ⟨some 174, .lda 9 (.t 8), none⟩,
    ⟨some 175, .call 172 [(.t 174)], none⟩,
    ⟨some 176, .bins .neq (.t 173) (.t 175), none⟩,
    ⟨some 177, .mov (.t 176), none⟩,
    ⟨some 178, .lda 9 (.t 12), some (177, true)⟩,
    ⟨some 180, .faddr 0 (.t 8), some (177, true)⟩,
    ⟨some 181, .ld1 (.t 180), some (177, true)⟩,
    ⟨some 179, .call 172 [(.t 178)], some (177, true)⟩,
    ⟨some 182, .bins .neq (.t 179) (.t 181), some (177, true)⟩,
    ⟨some 183, .pick (.t 177) (.t 182) (.c (.bool false)), none⟩,
    ⟨some 184, .mov (.t 183), none⟩,
    ⟨some 185, .faddr 0 (.t 12), some (184, true)⟩,
    ⟨some 187, .lda 9 (.t 8), some (184, true)⟩,
    ⟨some 186, .ld1 (.t 185), some (184, true)⟩,
    ⟨some 188, .call 172 [(.t 187)], some (184, true)⟩,
    ⟨some 189, .bins .neq (.t 186) (.t 188), some (184, true)⟩,
    ⟨some 190, .pick (.t 184) (.t 189) (.c (.bool false)), none⟩,
    ⟨some 192, .call 91 [(.t 190), (.c (.int .i64 (61))), (.t 191)], none⟩]
def A_check_reader_field_34 : List AOper := [⟨some 172, .lda 9 (.t 12), none⟩,
    ⟨some 191, .mov (.t 10), none⟩,
    ⟨some 173, .call 172 [(.t 172)], none⟩,
    ⟨some 174, .lda 9 (.t 8), none⟩,
    ⟨some 175, .call 172 [(.t 174)], none⟩,
    ⟨some 176, .bins .neq (.t 173) (.t 175), none⟩,
    ⟨some 177, .mov (.t 176), none⟩,
    ⟨some 178, .lda 9 (.t 12), some (177, true)⟩,
    ⟨some 180, .faddr 0 (.t 8), some (177, true)⟩,
    ⟨some 181, .ld1 (.t 180), some (177, true)⟩,
    ⟨some 179, .call 172 [(.t 178)], some (177, true)⟩,
    ⟨some 182, .bins .neq (.t 179) (.t 181), some (177, true)⟩,
    ⟨some 183, .pick (.t 177) (.t 182) (.c (.bool false)), none⟩,
    ⟨some 184, .mov (.t 183), none⟩,
    ⟨some 185, .faddr 0 (.t 12), some (184, true)⟩,
    ⟨some 187, .lda 9 (.t 8), some (184, true)⟩,
    ⟨some 188, .call 172 [(.t 187)], some (184, true)⟩,
    ⟨some 186, .ld1 (.t 185), some (184, true)⟩,
    ⟨some 189, .bins .neq (.t 186) (.t 188), some (184, true)⟩,
    ⟨some 190, .pick (.t 184) (.t 189) (.c (.bool false)), none⟩,
    ⟨some 192, .call 91 [(.t 190), (.c (.int .i64 (61))), (.t 191)], none⟩]
def A_check_reader_field_35 : List AOper := [⟨some 172, .lda 9 (.t 12), none⟩,
    ⟨some 191, .mov (.t 10), none⟩,
    ⟨some 174, .lda 9 (.t 8), none⟩,
    ⟨some 173, .call 172 [(.t 172)], none⟩,
    ⟨some 175, .call 172 [(.t 174)], none⟩,
    ⟨some 176, .bins .neq (.t 173) (.t 175), none⟩,
    ⟨some 177, .mov (.t 176), none⟩,
    ⟨some 178, .lda 9 (.t 12), some (177, true)⟩,
    ⟨some 180, .faddr 0 (.t 8), some (177, true)⟩,
    ⟨some 179, .call 172 [(.t 178)], some (177, true)⟩,
    ⟨some 181, .ld1 (.t 180), some (177, true)⟩,
    ⟨some 182, .bins .neq (.t 179) (.t 181), some (177, true)⟩,
    ⟨some 183, .pick (.t 177) (.t 182) (.c (.bool false)), none⟩,
    ⟨some 184, .mov (.t 183), none⟩,
    ⟨some 185, .faddr 0 (.t 12), some (184, true)⟩,
    ⟨some 187, .lda 9 (.t 8), some (184, true)⟩,
    ⟨some 186, .ld1 (.t 185), some (184, true)⟩,
    ⟨some 188, .call 172 [(.t 187)], some (184, true)⟩,
    ⟨some 189, .bins .neq (.t 186) (.t 188), some (184, true)⟩,
    ⟨some 190, .pick (.t 184) (.t 189) (.c (.bool false)), none⟩,
    ⟨some 192, .call 91 [(.t 190), (.c (.int .i64 (61))), (.t 191)], none⟩]
def A_check_reader_field_36 : List AOper := [⟨some 172, .lda 9 (.t 12), none⟩,
    ⟨some 191, .mov (.t 10), none⟩,
    ⟨some 174, .lda 9 (.t 8), none⟩,
    ⟨some 173, .call 172 [(.t 172)], none⟩,
    ⟨some 175, .call 172 [(.t 174)], none⟩,
    ⟨some 176, .bins .neq (.t 173) (.t 175), none⟩,
    ⟨some 177, .mov (.t 176), none⟩,
    ⟨some 178, .lda 9 (.t 12), some (177, true)⟩,
    ⟨some 180, .faddr 0 (.t 8), some (177, true)⟩,
    ⟨some 179, .call 172 [(.t 178)], some (177, true)⟩,
    ⟨some 181, .ld1 (.t 180), some (177, true)⟩,
    ⟨some 182, .bins .neq (.t 179) (.t 181), some (177, true)⟩,
    ⟨some 183, .pick (.t 177) (.t 182) (.c (.bool false)), none⟩,
    ⟨some 184, .mov (.t 183), none⟩,
    ⟨some 185, .faddr 0 (.t 12), some (184, true)⟩,
    ⟨some 187, .lda 9 (.t 8), some (184, true)⟩,
    ⟨some 188, .call 172 [(.t 187)], some (184, true)⟩,
    ⟨some 186, .ld1 (.t 185), some (184, true)⟩,
    ⟨some 189, .bins .neq (.t 186) (.t 188), some (184, true)⟩,
    ⟨some 190, .pick (.t 184) (.t 189) (.c (.bool false)), none⟩,
    ⟨some 192, .call 91 [(.t 190), (.c (.int .i64 (61))), (.t 191)], none⟩]
def A_check_reader_field_37 : List AOper := [⟨some 172, .lda 9 (.t 12), none⟩,
    ⟨some 191, .mov (.t 10), none⟩,
    ⟨some 174, .lda 9 (.t 8), none⟩,
    ⟨some 173, .call 172 [(.t 172)], none⟩,
    ⟨some 175, .call 172 [(.t 174)], none⟩,
    ⟨some 176, .bins .neq (.t 173) (.t 175), none⟩,
    ⟨some 177, .mov (.t 176), none⟩,
    ⟨some 178, .lda 9 (.t 12), some (177, true)⟩,
    ⟨some 180, .faddr 0 (.t 8), some (177, true)⟩,
    ⟨some 181, .ld1 (.t 180), some (177, true)⟩,
    ⟨some 179, .call 172 [(.t 178)], some (177, true)⟩,
    ⟨some 182, .bins .neq (.t 179) (.t 181), some (177, true)⟩,
    ⟨some 183, .pick (.t 177) (.t 182) (.c (.bool false)), none⟩,
    ⟨some 184, .mov (.t 183), none⟩,
    ⟨some 185, .faddr 0 (.t 12), some (184, true)⟩,
    ⟨some 187, .lda 9 (.t 8), some (184, true)⟩,
    ⟨some 186, .ld1 (.t 185), some (184, true)⟩,
    ⟨some 188, .call 172 [(.t 187)], some (184, true)⟩,
    ⟨some 189, .bins .neq (.t 186) (.t 188), some (184, true)⟩,
    ⟨some 190, .pick (.t 184) (.t 189) (.c (.bool false)), none⟩,
    ⟨some 192, .call 91 [(.t 190), (.c (.int .i64 (61))), (.t 191)], none⟩]
def A_check_reader_field_38 : List AOper := [⟨some 172, .lda 9 (.t 12), none⟩,
    ⟨some 191, .mov (.t 10), none⟩,
    ⟨some 174, .lda 9 (.t 8), none⟩,
    ⟨some 173, .call 172 [(.t 172)], none⟩,
    ⟨some 175, .call 172 [(.t 174)], none⟩,
    ⟨some 176, .bins .neq (.t 173) (.t 175), none⟩,
    ⟨some 177, .mov (.t 176), none⟩,
    ⟨some 178, .lda 9 (.t 12), some (177, true)⟩,
    ⟨some 180, .faddr 0 (.t 8), some (177, true)⟩,
    ⟨some 181, .ld1 (.t 180), some (177, true)⟩,
    ⟨some 179, .call 172 [(.t 178)], some (177, true)⟩,
    ⟨some 182, .bins .neq (.t 179) (.t 181), some (177, true)⟩,
    ⟨some 183, .pick (.t 177) (.t 182) (.c (.bool false)), none⟩,
    ⟨some 184, .mov (.t 183), none⟩,
    ⟨some 185, .faddr 0 (.t 12), some (184, true)⟩,
    ⟨some 187, .lda 9 (.t 8), some (184, true)⟩,
    ⟨some 188, .call 172 [(.t 187)], some (184, true)⟩,
    ⟨some 186, .ld1 (.t 185), some (184, true)⟩,
    ⟨some 189, .bins .neq (.t 186) (.t 188), some (184, true)⟩,
    ⟨some 190, .pick (.t 184) (.t 189) (.c (.bool false)), none⟩,
    ⟨some 192, .call 91 [(.t 190), (.c (.int .i64 (61))), (.t 191)], none⟩]
def A_check_reader_field_39 : List AOper := [⟨some 193, .bini .add (.t 168) (.c (.int .i64 (1))), none⟩,
    ⟨some 168, .mov (.t 193), none⟩]
def A_check_reader_field_40 : ACode := (.seq (.ops [⟨some 169, .bini .lss (.t 168) (.t 167), none⟩]) (.seq (.cond (.t 169) .skip (.exit 0)) (.seq (.block 1 (.seq (.ops A_check_reader_field_28) (.orr (.alts [172, 173, 174, 175, 176, 177, 178, 179, 180, 181, 182, 183, 184, 185, 186, 187, 188, 189, 190, 191, 192] [A_check_reader_field_29]) (.orr (.alts [172, 173, 174, 175, 176, 177, 178, 179, 180, 181, 182, 183, 184, 185, 186, 187, 188, 189, 190, 191, 192] [A_check_reader_field_30]) (.alts [172, 173, 174, 175, 176, 177, 178, 179, 180, 181, 182, 183, 184, 185, 186, 187, 188, 189, 190, 191, 192] [A_check_reader_field_31, A_check_reader_field_32, A_check_reader_field_33, A_check_reader_field_34, A_check_reader_field_35, A_check_reader_field_36, A_check_reader_field_37, A_check_reader_field_38]))))) (.ops A_check_reader_field_39))))
def A_check_reader_field : ACode := (.seq (.ops [⟨some 5, .box 76 7 (.t 1), none⟩]) (.seq (.orr (.alts [13, 14, 15, 16, 17, 18, 19, 20, 21, 8, 9] [A_check_reader_field_0, A_check_reader_field_1, A_check_reader_field_2, A_check_reader_field_3, A_check_reader_field_4, A_check_reader_field_5]) (.alts [13, 14, 15, 16, 17, 18, 19, 20, 21, 8, 9] [A_check_reader_field_6, A_check_reader_field_7, A_check_reader_field_8, A_check_reader_field_9, A_check_reader_field_10, A_check_reader_field_11])) (.seq (.ops A_check_reader_field_12) (.seq (.ops A_check_reader_field_13) (.seq (.ops A_check_reader_field_14) (.seq (.ops A_check_reader_field_15) (.seq (.ops A_check_reader_field_16) (.seq (.ops A_check_reader_field_17) (.seq (.seq (.ops A_check_reader_field_18) (.cond (.t 81) (.ops A_check_reader_field_19) (.ops A_check_reader_field_20))) (.seq (.seq (.ops A_check_reader_field_21) (.cond (.t 94) (.ops A_check_reader_field_22) (.ops A_check_reader_field_23))) (.seq (.ops A_check_reader_field_24) (.seq (.ops A_check_reader_field_25) (.seq (.ops A_check_reader_field_26) (.seq (.ops A_check_reader_field_27) (.block 0 (.loop A_check_reader_field_40))))))))))))))))
def R_check_reader_field : List ARes := []
theorem C_check_reader_field : compF Tryz.prog Tryz.f130 = some (A_check_reader_field, R_check_reader_field) := by kernel_rfl
def T_check_reader_field : FC := ⟨194, A_check_reader_field, R_check_reader_field⟩
theorem G_check_reader_field : GoodFC Tryz.prog F_check_reader_field T_check_reader_field := ⟨Tryz.f130, Tryz.func130, Tryz.ntmps130, C_check_reader_field, by kernel_rfl⟩

-- slices.ContainsFunc[[]lexicon/api.FieldDef,lexicon/api.FieldDef]
abbrev F_slices_ContainsFunc_api_FieldDef_api_FieldDef : Nat := 131
def A_slices_ContainsFunc_api_FieldDef_api_FieldDef_0 : List AOper := [⟨some 5, .mov (.t 0), none⟩,
    ⟨some 6, .mov (.t 1), none⟩,
    ⟨some 7, .call 173 [(.t 5), (.t 6)], none⟩,
    ⟨some 8, .bini .geq (.t 7) (.c (.int .i64 (0))), none⟩,
    ⟨some 4, .mov (.t 8), none⟩]
def A_slices_ContainsFunc_api_FieldDef_api_FieldDef : ACode := (.seq (.ops [⟨some 4, .mov (.c (.bool false)), none⟩]) (.seq (.ops A_slices_ContainsFunc_api_FieldDef_api_FieldDef_0) .ret))
def R_slices_ContainsFunc_api_FieldDef_api_FieldDef : List ARes := [.tmp 4]
theorem C_slices_ContainsFunc_api_FieldDef_api_FieldDef : compF Tryz.prog Tryz.f131 = some (A_slices_ContainsFunc_api_FieldDef_api_FieldDef, R_slices_ContainsFunc_api_FieldDef_api_FieldDef) := by kernel_rfl
def T_slices_ContainsFunc_api_FieldDef_api_FieldDef : FC := ⟨9, A_slices_ContainsFunc_api_FieldDef_api_FieldDef, R_slices_ContainsFunc_api_FieldDef_api_FieldDef⟩
theorem G_slices_ContainsFunc_api_FieldDef_api_FieldDef : GoodFC Tryz.prog F_slices_ContainsFunc_api_FieldDef_api_FieldDef T_slices_ContainsFunc_api_FieldDef_api_FieldDef := ⟨Tryz.f131, Tryz.func131, Tryz.ntmps131, C_slices_ContainsFunc_api_FieldDef_api_FieldDef, by kernel_rfl⟩

-- lexicon/check.within
abbrev F_check_within : Nat := 133
def A_check_within_0 : List AOper := [⟨some 3, .box 21 1 (.t 1), none⟩,
    ⟨some 4, .mov (.c (.bool false)), none⟩]
def A_check_within_1 : List AOper := [⟨some 5, .mov (.t 0), none⟩,
    ⟨some 6, .mkfn 175 [] [(.t 3)], none⟩,
    ⟨some 7, .call 174 [(.t 5), (.t 6)], none⟩,
    ⟨some 4, .mov (.t 7), none⟩]
def A_check_within : ACode := (.seq (.ops A_check_within_0) (.seq (.ops A_check_within_1) .ret))
def R_check_within : List ARes := [.tmp 4]
theorem C_check_within : compF Tryz.prog Tryz.f133 = some (A_check_within, R_check_within) := by kernel_rfl
def T_check_within : FC := ⟨8, A_check_within, R_check_within⟩
theorem G_check_within : GoodFC Tryz.prog F_check_within T_check_within := ⟨Tryz.f133, Tryz.func133, Tryz.ntmps133, C_check_within, by kernel_rfl⟩

-- (*strings.Builder).Grow
abbrev F_strings_Builder_Grow : Nat := 137
def A_strings_Builder_Grow_0 : List AOper := [⟨some 4, .mov (.t 0), none⟩,
    ⟨some 5, .call 178 [(.t 4)], none⟩]
def A_strings_Builder_Grow_1 : List AOper := [⟨some 6, .mov (.t 1), none⟩,
    ⟨some 7, .bini .lss (.t 6) (.c (.int .i64 (0))), none⟩]
def A_strings_Builder_Grow_2 : List AOper := [⟨some 8, .mkifc 9 (.c (.str [115, 116, 114, 105, 110, 103, 115, 46, 66, 117, 105, 108, 100, 101, 114, 46, 71, 114, 111, 119, 58, 32, 110, 101, 103, 97, 116, 105, 118, 101, 32, 99, 111, 117, 110, 116])), none⟩,
    ⟨none, .pan (.t 8), none⟩]
def A_strings_Builder_Grow_3 : List AOper := [⟨some 9, .mov (.t 0), none⟩,
    ⟨some 10, .nilc (.t 9), none⟩,
    ⟨some 11, .faddr 1 (.t 10), none⟩,
    ⟨some 12, .ld1 (.t 11), none⟩,
    ⟨some 13, .capk (.t 12), none⟩,
    ⟨some 14, .mov (.t 0), none⟩,
    ⟨some 15, .nilc (.t 14), none⟩,
    ⟨some 16, .faddr 1 (.t 15), none⟩,
    ⟨some 17, .ld1 (.t 16), none⟩,
    ⟨some 18, .lenl (.t 17), none⟩,
    ⟨some 19, .bini .sub (.t 13) (.t 18), none⟩,
    ⟨some 20, .mov (.t 1), none⟩,
    ⟨some 21, .bini .lss (.t 19) (.t 20), none⟩]
def A_strings_Builder_Grow_4 : List AOper := [⟨some 22, .mov (.t 0), none⟩,
    ⟨some 23, .mov (.t 1), none⟩,
    ⟨some 24, .call 179 [(.t 22), (.t 23)], none⟩]
def A_strings_Builder_Grow : ACode := (.seq (.ops A_strings_Builder_Grow_0) (.seq (.seq (.ops A_strings_Builder_Grow_1) (.cond (.t 7) (.ops A_strings_Builder_Grow_2) .skip)) (.seq (.alts [9, 10, 11, 12, 13, 14, 15, 16, 17, 18, 19, 20, 21] [A_strings_Builder_Grow_3]) (.cond (.t 21) (.ops A_strings_Builder_Grow_4) .skip))))
def R_strings_Builder_Grow : List ARes := []
theorem C_strings_Builder_Grow : compF Tryz.prog Tryz.f137 = some (A_strings_Builder_Grow, R_strings_Builder_Grow) := by kernel_rfl
def T_strings_Builder_Grow : FC := ⟨25, A_strings_Builder_Grow, R_strings_Builder_Grow⟩
theorem G_strings_Builder_Grow : GoodFC Tryz.prog F_strings_Builder_Grow T_strings_Builder_Grow := ⟨Tryz.f137, Tryz.func137, Tryz.ntmps137, C_strings_Builder_Grow, by kernel_rfl⟩

-- (*strings.Builder).WriteString
abbrev F_strings_Builder_WriteString : Nat := 138
def A_strings_Builder_WriteString_0 : List AOper := [⟨some 4, .mov (.c (.int .i64 (0))), none⟩,
    ⟨some 5, .mov (.c (.nili)), none⟩]
def A_strings_Builder_WriteString_1 : List AOper := [⟨some 6, .mov (.t 0), none⟩,
    ⟨some 7, .call 178 [(.t 6)], none⟩]
def A_strings_Builder_WriteString_2 : List AOper := [⟨some 8, .mov (.t 0), none⟩,
    ⟨some 9, .mov (.t 0), none⟩,
    ⟨some 10, .nilc (.t 9), none⟩,
    ⟨some 11, .faddr 1 (.t 10), none⟩,
    ⟨some 12, .ld1 (.t 11), none⟩,
    ⟨some 13, .mov (.t 1), none⟩,
    ⟨some 14, .app 5 1 1 (.t 12) (.t 13), none⟩,
    ⟨some 15, .nilc (.t 8), none⟩,
    ⟨some 16, .faddr 1 (.t 15), none⟩,
    ⟨none, .st 1 (.t 16) (.t 14), none⟩]
def A_strings_Builder_WriteString_3 : List AOper := [⟨some 17, .mov (.t 1), none⟩,
    ⟨some 18, .lens (.t 17), none⟩,
    ⟨some 4, .mov (.t 18), none⟩,
    ⟨some 5, .mov (.c (.nili)), none⟩]
def A_strings_Builder_WriteString : ACode := (.seq (.ops A_strings_Builder_WriteString_0) (.seq (.ops A_strings_Builder_WriteString_1) (.seq (.ops A_strings_Builder_WriteString_2) (.seq (.ops A_strings_Builder_WriteString_3) .ret))))
def R_strings_Builder_WriteString : List ARes := [.tmp 4, .tmp 5]
theorem C_strings_Builder_WriteString : compF Tryz.prog Tryz.f138 = some (A_strings_Builder_WriteString, R_strings_Builder_WriteString) := by kernel_rfl
def T_strings_Builder_WriteString : FC := ⟨19, A_strings_Builder_WriteString, R_strings_Builder_WriteString⟩
theorem G_strings_Builder_WriteString : GoodFC Tryz.prog F_strings_Builder_WriteString T_strings_Builder_WriteString := ⟨Tryz.f138, Tryz.func138, Tryz.ntmps138, C_strings_Builder_WriteString, by kernel_rfl⟩

-- (*strings.Builder).String
abbrev F_strings_Builder_String : Nat := 139
def A_strings_Builder_String_0 : List AOper := [⟨some 3, .mov (.t 0), none⟩,
    ⟨some 4, .nilc (.t 3), none⟩,
    ⟨some 5, .faddr 1 (.t 4), none⟩,
    ⟨some 6, .ld1 (.t 5), none⟩,
    ⟨some 7, .usd (.t 6), none⟩,
    ⟨some 8, .mov (.t 0), none⟩,
    ⟨some 9, .nilc (.t 8), none⟩,
    ⟨some 10, .faddr 1 (.t 9), none⟩,
    ⟨some 11, .ld1 (.t 10), none⟩,
    ⟨some 12, .lenl (.t 11), none⟩,
    ⟨some 13, .ustr 5 (.t 7) (.t 12), none⟩,
    ⟨some 2, .mov (.t 13), none⟩]
def A_strings_Builder_String : ACode := (.seq (.ops [⟨some 2, .mov (.c (.str [])), none⟩]) (.seq (.alts [3, 4, 5, 6, 7, 8, 9, 10, 11, 12, 13, 2] [A_strings_Builder_String_0]) .ret))
def R_strings_Builder_String : List ARes := [.tmp 2]
theorem C_strings_Builder_String : compF Tryz.prog Tryz.f139 = some (A_strings_Builder_String, R_strings_Builder_String) := by kernel_rfl
def T_strings_Builder_String : FC := ⟨14, A_strings_Builder_String, R_strings_Builder_String⟩
theorem G_strings_Builder_String : GoodFC Tryz.prog F_strings_Builder_String T_strings_Builder_String := ⟨Tryz.f139, Tryz.func139, Tryz.ntmps139, C_strings_Builder_String, by kernel_rfl⟩

-- slices.insertionSortCmpFunc[lexicon/api.Symbol]
abbrev F_slices_insertionSortCmpFunc_api_Symbol : Nat := 140
def A_slices_insertionSortCmpFunc_api_Symbol_0 : List AOper := [⟨some 10, .mov (.t 1), none⟩,
    ⟨some 11, .bini .add (.t 10) (.c (.int .i64 (1))), none⟩,
    ⟨some 8, .mov (.t 11), none⟩]
def A_slices_insertionSortCmpFunc_api_Symbol_1 : List AOper := [⟨some 12, .mov (.t 8), none⟩,
    ⟨some 13, .mov (.t 2), none⟩,
    ⟨some 14, .bini .lss (.t 12) (.t 13), none⟩]
def A_slices_insertionSortCmpFunc_api_Symbol_2 : List AOper := [⟨some 17, .mov (.t 8), none⟩,
    ⟨some 9, .mov (.t 17), none⟩]
def A_slices_insertionSortCmpFunc_api_Symbol_3 : List AOper := [⟨some 18, .mov (.t 9), none⟩,
    ⟨some 19, .mov (.t 1), none⟩,
    ⟨some 20, .bini .gtr (.t 18) (.t 19), none⟩,
    ⟨some 21, .mov (.t 20), none⟩,
    ⟨some 22, .mov (.t 3), some (21, true)⟩,
    ⟨some 23, .mov (.t 0), some (21, true)⟩,
    ⟨some 24, .mov (.t 9), some (21, true)⟩,
    ⟨some 25, .iaddr 134 3 (.t 23) (.t 24), some (21, true)⟩,
    ⟨some 26, .lda 3 (.t 25), some (21, true)⟩,
    ⟨some 27, .mov (.t 0), some (21, true)⟩,
    ⟨some 28, .mov (.t 9), some (21, true)⟩,
    ⟨some 29, .bini .sub (.t 28) (.c (.int .i64 (1))), some (21, true)⟩,
    ⟨some 30, .iaddr 134 3 (.t 27) (.t 29), some (21, true)⟩,
    ⟨some 31, .lda 3 (.t 30), some (21, true)⟩,
    ⟨some 32, .callv (.t 22) [(.t 26), (.t 31)], some (21, true)⟩,
    ⟨some 33, .bini .lss (.t 32) (.c (.int .i64 (0))), some (21, true)⟩,
    ⟨some 34, .pick (.t 21) (.t 33) (.c (.bool false)), none⟩]
def A_slices_insertionSortCmpFunc_api_Symbol_4 : List AOper := [⟨some 37, .mov (.t 0), none⟩,
    ⟨some 38, .mov (.t 9), none⟩,
    ⟨some 39, .mov (.t 0), none⟩,
    ⟨some 40, .mov (.t 9), none⟩,
    ⟨some 41, .bini .sub (.t 40) (.c (.int .i64 (1))), none⟩,
    ⟨some 42, .mov (.t 0), none⟩,
    ⟨some 43, .mov (.t 9), none⟩,
    ⟨some 44, .bini .sub (.t 43) (.c (.int .i64 (1))), none⟩,
    ⟨some 45, .iaddr 134 3 (.t 42) (.t 44), none⟩,
    ⟨some 46, .lda 3 (.t 45), none⟩,
    ⟨some 47, .mov (.t 0), none⟩,
    ⟨some 48, .mov (.t 9), none⟩,
    ⟨some 49, .iaddr 134 3 (.t 47) (.t 48), none⟩,
    ⟨some 50, .lda 3 (.t 49), none⟩,
    ⟨some 51, .iaddr 134 3 (.t 37) (.t 38), none⟩,
    ⟨none, .st 3 (.t 51) (.t 46), none⟩,
    ⟨some 52, .iaddr 134 3 (.t 39) (.t 41), none⟩,
    ⟨none, .st 3 (.t 52) (.t 50), none⟩]
def A_slices_insertionSortCmpFunc_api_Symbol_5 : List AOper := [⟨some 35, .mov (.t 9), none⟩,
    ⟨some 36, .bini .sub (.t 35) (.c (.int .i64 (1))), none⟩,
    ⟨some 9, .mov (.t 36), none⟩]
def A_slices_insertionSortCmpFunc_api_Symbol_6 : ACode := (.seq (.seq (.alts [18, 19, 20, 21, 22, 23, 24, 25, 26, 27, 28, 29, 30, 31, 32, 33, 34] [A_slices_insertionSortCmpFunc_api_Symbol_3]) (.cond (.t 34) .skip (.exit 2))) (.seq (.block 3 (.alts [37, 38, 39, 40, 41, 42, 43, 44, 45, 46, 47, 48, 49, 50, 51, 52] [A_slices_insertionSortCmpFunc_api_Symbol_4])) (.ops A_slices_insertionSortCmpFunc_api_Symbol_5)))
def A_slices_insertionSortCmpFunc_api_Symbol_7 : List AOper := [⟨some 15, .mov (.t 8), none⟩,
    ⟨some 16, .bini .add (.t 15) (.c (.int .i64 (1))), none⟩,
    ⟨some 8, .mov (.t 16), none⟩]
def A_slices_insertionSortCmpFunc_api_Symbol_8 : ACode := (.seq (.seq (.ops A_slices_insertionSortCmpFunc_api_Symbol_1) (.cond (.t 14) .skip (.exit 0))) (.seq (.block 1 (.seq (.ops A_slices_insertionSortCmpFunc_api_Symbol_2) (.block 2 (.loop A_slices_insertionSortCmpFunc_api_Symbol_6)))) (.ops A_slices_insertionSortCmpFunc_api_Symbol_7)))
def A_slices_insertionSortCmpFunc_api_Symbol : ACode := (.seq (.ops A_slices_insertionSortCmpFunc_api_Symbol_0) (.block 0 (.loop A_slices_insertionSortCmpFunc_api_Symbol_8)))
def R_slices_insertionSortCmpFunc_api_Symbol : List ARes := []
theorem C_slices_insertionSortCmpFunc_api_Symbol : compF Tryz.prog Tryz.f140 = some (A_slices_insertionSortCmpFunc_api_Symbol, R_slices_insertionSortCmpFunc_api_Symbol) := by kernel_rfl
def T_slices_insertionSortCmpFunc_api_Symbol : FC := ⟨53, A_slices_insertionSortCmpFunc_api_Symbol, R_slices_insertionSortCmpFunc_api_Symbol⟩
theorem G_slices_insertionSortCmpFunc_api_Symbol : GoodFC Tryz.prog F_slices_insertionSortCmpFunc_api_Symbol T_slices_insertionSortCmpFunc_api_Symbol := ⟨Tryz.f140, Tryz.func140, Tryz.ntmps140, C_slices_insertionSortCmpFunc_api_Symbol, by kernel_rfl⟩

-- lexicon/texts.digit
abbrev F_texts_digit : Nat := 161
def A_texts_digit_0 : List AOper := [⟨some 3, .mov (.t 0), none⟩,
    ⟨some 4, .bini .geq (.t 3) (.c (.int .u8 (48))), none⟩,
    ⟨some 5, .mov (.t 4), none⟩,
    ⟨some 6, .mov (.t 0), some (5, true)⟩,
    ⟨some 7, .bini .leq (.t 6) (.c (.int .u8 (57))), some (5, true)⟩,
    ⟨some 8, .pick (.t 5) (.t 7) (.c (.bool false)), none⟩,
    ⟨some 2, .mov (.t 8), none⟩]
def A_texts_digit : ACode := (.seq (.ops [⟨some 2, .mov (.c (.bool false)), none⟩]) (.seq (.ops A_texts_digit_0) .ret))
def R_texts_digit : List ARes := [.tmp 2]
theorem C_texts_digit : compF Tryz.prog Tryz.f161 = some (A_texts_digit, R_texts_digit) := by kernel_rfl
def T_texts_digit : FC := ⟨9, A_texts_digit, R_texts_digit⟩
theorem G_texts_digit : GoodFC Tryz.prog F_texts_digit T_texts_digit := ⟨Tryz.f161, Tryz.func161, Tryz.ntmps161, C_texts_digit, by kernel_rfl⟩

-- lexicon/texts.small
abbrev F_texts_small : Nat := 162
def A_texts_small_0 : List AOper := [⟨some 3, .mov (.t 0), none⟩,
    ⟨some 4, .bini .geq (.t 3) (.c (.int .u8 (97))), none⟩,
    ⟨some 5, .mov (.t 4), none⟩,
    ⟨some 6, .mov (.t 0), some (5, true)⟩,
    ⟨some 7, .bini .leq (.t 6) (.c (.int .u8 (122))), some (5, true)⟩,
    ⟨some 8, .pick (.t 5) (.t 7) (.c (.bool false)), none⟩,
    ⟨some 2, .mov (.t 8), none⟩]
def A_texts_small : ACode := (.seq (.ops [⟨some 2, .mov (.c (.bool false)), none⟩]) (.seq (.ops A_texts_small_0) .ret))
def R_texts_small : List ARes := [.tmp 2]
theorem C_texts_small : compF Tryz.prog Tryz.f162 = some (A_texts_small, R_texts_small) := by kernel_rfl
def T_texts_small : FC := ⟨9, A_texts_small, R_texts_small⟩
theorem G_texts_small : GoodFC Tryz.prog F_texts_small T_texts_small := ⟨Tryz.f162, Tryz.func162, Tryz.ntmps162, C_texts_small, by kernel_rfl⟩

-- lexicon/texts.capital
abbrev F_texts_capital : Nat := 163
def A_texts_capital_0 : List AOper := [⟨some 3, .mov (.t 0), none⟩,
    ⟨some 4, .bini .geq (.t 3) (.c (.int .u8 (65))), none⟩,
    ⟨some 5, .mov (.t 4), none⟩,
    ⟨some 6, .mov (.t 0), some (5, true)⟩,
    ⟨some 7, .bini .leq (.t 6) (.c (.int .u8 (90))), some (5, true)⟩,
    ⟨some 8, .pick (.t 5) (.t 7) (.c (.bool false)), none⟩,
    ⟨some 2, .mov (.t 8), none⟩]
def A_texts_capital : ACode := (.seq (.ops [⟨some 2, .mov (.c (.bool false)), none⟩]) (.seq (.ops A_texts_capital_0) .ret))
def R_texts_capital : List ARes := [.tmp 2]
theorem C_texts_capital : compF Tryz.prog Tryz.f163 = some (A_texts_capital, R_texts_capital) := by kernel_rfl
def T_texts_capital : FC := ⟨9, A_texts_capital, R_texts_capital⟩
theorem G_texts_capital : GoodFC Tryz.prog F_texts_capital T_texts_capital := ⟨Tryz.f163, Tryz.func163, Tryz.ntmps163, C_texts_capital, by kernel_rfl⟩

-- lexicon/check.may
abbrev F_check_may : Nat := 164
def A_check_may_0 : List AOper := [⟨some 3, .mov (.t 0), none⟩,
    ⟨some 4, .bini .geq (.t 3) (.c (.int .i32 (1))), none⟩,
    ⟨some 5, .mov (.t 4), none⟩,
    ⟨some 6, .mov (.t 0), some (5, true)⟩,
    ⟨some 7, .bini .leq (.t 6) (.c (.int .i32 (536870911))), some (5, true)⟩,
    ⟨some 8, .pick (.t 5) (.t 7) (.c (.bool false)), none⟩,
    ⟨some 9, .mov (.t 8), none⟩,
    ⟨some 10, .mov (.t 0), some (9, true)⟩,
    ⟨some 11, .bini .lss (.t 10) (.c (.int .i32 (19000))), some (9, true)⟩,
    ⟨some 12, .mov (.t 11), some (9, true)⟩,
    ⟨some 13, .mov (.t 0), some (12, false)⟩,
    ⟨some 14, .bini .gtr (.t 13) (.c (.int .i32 (19999))), some (12, false)⟩,
    ⟨some 15, .pick (.t 12) (.c (.bool true)) (.t 14), some (9, true)⟩,
    ⟨some 16, .pick (.t 9) (.t 15) (.c (.bool false)), none⟩,
    ⟨some 2, .mov (.t 16), none⟩]
def A_check_may : ACode := (.seq (.ops [⟨some 2, .mov (.c (.bool false)), none⟩]) (.seq (.ops A_check_may_0) .ret))
def R_check_may : List ARes := [.tmp 2]
theorem C_check_may : compF Tryz.prog Tryz.f164 = some (A_check_may, R_check_may) := by kernel_rfl
def T_check_may : FC := ⟨17, A_check_may, R_check_may⟩
theorem G_check_may : GoodFC Tryz.prog F_check_may T_check_may := ⟨Tryz.f164, Tryz.func164, Tryz.ntmps164, C_check_may, by kernel_rfl⟩

-- lexicon/check.kind
abbrev F_check_kind : Nat := 166
def A_check_kind_0 : List AOper := [⟨some 3, .mov (.t 0), none⟩,
    ⟨some 4, .bini .geq (.t 3) (.c (.int .u8 (1))), none⟩,
    ⟨some 5, .mov (.t 4), none⟩,
    ⟨some 6, .mov (.t 0), some (5, true)⟩,
    ⟨some 7, .bini .leq (.t 6) (.c (.int .u8 (18))), some (5, true)⟩,
    ⟨some 8, .pick (.t 5) (.t 7) (.c (.bool false)), none⟩,
    ⟨some 9, .mov (.t 8), none⟩,
    ⟨some 10, .mov (.t 0), some (9, true)⟩,
    ⟨some 11, .bini .neq (.t 10) (.c (.int .u8 (10))), some (9, true)⟩,
    ⟨some 12, .pick (.t 9) (.t 11) (.c (.bool false)), none⟩,
    ⟨some 2, .mov (.t 12), none⟩]
def A_check_kind : ACode := (.seq (.ops [⟨some 2, .mov (.c (.bool false)), none⟩]) (.seq (.ops A_check_kind_0) .ret))
def R_check_kind : List ARes := [.tmp 2]
theorem C_check_kind : compF Tryz.prog Tryz.f166 = some (A_check_kind, R_check_kind) := by kernel_rfl
def T_check_kind : FC := ⟨13, A_check_kind, R_check_kind⟩
theorem G_check_kind : GoodFC Tryz.prog F_check_kind T_check_kind := ⟨Tryz.f166, Tryz.func166, Tryz.ntmps166, C_check_kind, by kernel_rfl⟩

-- lexicon/check.named
abbrev F_check_named : Nat := 167
def A_check_named_0 : List AOper := [⟨some 3, .mov (.t 0), none⟩,
    ⟨some 4, .bini .eql (.t 3) (.c (.int .u8 (0))), none⟩,
    ⟨some 5, .mov (.t 4), none⟩,
    ⟨some 6, .mov (.t 0), some (5, false)⟩,
    ⟨some 7, .bini .eql (.t 6) (.c (.int .u8 (11))), some (5, false)⟩,
    ⟨some 8, .pick (.t 5) (.c (.bool true)) (.t 7), none⟩,
    ⟨some 9, .mov (.t 8), none⟩,
    ⟨some 10, .mov (.t 0), some (9, false)⟩,
    ⟨some 11, .bini .eql (.t 10) (.c (.int .u8 (14))), some (9, false)⟩,
    ⟨some 12, .pick (.t 9) (.c (.bool true)) (.t 11), none⟩,
    ⟨some 2, .mov (.t 12), none⟩]
def A_check_named : ACode := (.seq (.ops [⟨some 2, .mov (.c (.bool false)), none⟩]) (.seq (.ops A_check_named_0) .ret))
def R_check_named : List ARes := [.tmp 2]
theorem C_check_named : compF Tryz.prog Tryz.f167 = some (A_check_named, R_check_named) := by kernel_rfl
def T_check_named : FC := ⟨13, A_check_named, R_check_named⟩
theorem G_check_named : GoodFC Tryz.prog F_check_named T_check_named := ⟨Tryz.f167, Tryz.func167, Tryz.ntmps167, C_check_named, by kernel_rfl⟩

-- strings.Contains
abbrev F_strings_Contains : Nat := 171
def A_strings_Contains_0 : List AOper := [⟨some 5, .mov (.t 0), none⟩,
    ⟨some 6, .mov (.t 1), none⟩,
    ⟨some 7, .call 201 [(.t 5), (.t 6)], none⟩,
    ⟨some 8, .bini .geq (.t 7) (.c (.int .i64 (0))), none⟩,
    ⟨some 4, .mov (.t 8), none⟩]
def A_strings_Contains : ACode := (.seq (.ops [⟨some 4, .mov (.c (.bool false)), none⟩]) (.seq (.ops A_strings_Contains_0) .ret))
def R_strings_Contains : List ARes := [.tmp 4]
theorem C_strings_Contains : compF Tryz.prog Tryz.f171 = some (A_strings_Contains, R_strings_Contains) := by kernel_rfl
def T_strings_Contains : FC := ⟨9, A_strings_Contains, R_strings_Contains⟩
theorem G_strings_Contains : GoodFC Tryz.prog F_strings_Contains T_strings_Contains := ⟨Tryz.f171, Tryz.func171, Tryz.ntmps171, C_strings_Contains, by kernel_rfl⟩

-- slices.IndexFunc[[]lexicon/api.FieldDef,lexicon/api.FieldDef]
abbrev F_slices_IndexFunc_api_FieldDef_api_FieldDef : Nat := 173
def A_slices_IndexFunc_api_FieldDef_api_FieldDef_0 : List AOper := [⟨some 6, .mov (.t 0), none⟩,
    ⟨some 7, .lenl (.t 6), none⟩,
    ⟨some 8, .mov (.c (.int .i64 (0))), none⟩]
def A_slices_IndexFunc_api_FieldDef_api_FieldDef_1 : List AOper := [⟨some 10, .mov (.t 8), none⟩,
    ⟨some 5, .mov (.t 10), none⟩]
def A_slices_IndexFunc_api_FieldDef_api_FieldDef_2 : List AOper := [⟨some 11, .mov (.t 1), none⟩,
    ⟨some 12, .mov (.t 0), none⟩,
    ⟨some 13, .mov (.t 5), none⟩,
    ⟨some 14, .iaddr 72 9 (.t 12) (.t 13), none⟩,
    ⟨some 15, .lda 9 (.t 14), none⟩,
    ⟨some 16, .callv (.t 11) [(.t 15)], none⟩]
def A_slices_IndexFunc_api_FieldDef_api_FieldDef_3 : List AOper := [⟨some 17, .mov (.t 5), none⟩,
    ⟨some 4, .mov (.t 17), none⟩]
def A_slices_IndexFunc_api_FieldDef_api_FieldDef_4 : List AOper := [⟨some 18, .bini .add (.t 8) (.c (.int .i64 (1))), none⟩,
    ⟨some 8, .mov (.t 18), none⟩]
def A_slices_IndexFunc_api_FieldDef_api_FieldDef_5 : ACode := (.seq (.ops [⟨some 9, .bini .lss (.t 8) (.t 7), none⟩]) (.seq (.cond (.t 9) .skip (.exit 0)) (.seq (.block 1 (.seq (.ops A_slices_IndexFunc_api_FieldDef_api_FieldDef_1) (.seq (.ops A_slices_IndexFunc_api_FieldDef_api_FieldDef_2) (.cond (.t 16) (.seq (.ops A_slices_IndexFunc_api_FieldDef_api_FieldDef_3) .ret) .skip)))) (.ops A_slices_IndexFunc_api_FieldDef_api_FieldDef_4))))
def A_slices_IndexFunc_api_FieldDef_api_FieldDef : ACode := (.seq (.ops [⟨some 4, .mov (.c (.int .i64 (0))), none⟩]) (.seq (.seq (.ops A_slices_IndexFunc_api_FieldDef_api_FieldDef_0) (.block 0 (.loop A_slices_IndexFunc_api_FieldDef_api_FieldDef_5))) (.seq (.ops [⟨some 4, .mov (.c (.int .i64 (-1))), none⟩]) .ret)))
def R_slices_IndexFunc_api_FieldDef_api_FieldDef : List ARes := [.tmp 4]
theorem C_slices_IndexFunc_api_FieldDef_api_FieldDef : compF Tryz.prog Tryz.f173 = some (A_slices_IndexFunc_api_FieldDef_api_FieldDef, R_slices_IndexFunc_api_FieldDef_api_FieldDef) := by kernel_rfl
def T_slices_IndexFunc_api_FieldDef_api_FieldDef : FC := ⟨19, A_slices_IndexFunc_api_FieldDef_api_FieldDef, R_slices_IndexFunc_api_FieldDef_api_FieldDef⟩
theorem G_slices_IndexFunc_api_FieldDef_api_FieldDef : GoodFC Tryz.prog F_slices_IndexFunc_api_FieldDef_api_FieldDef T_slices_IndexFunc_api_FieldDef_api_FieldDef := ⟨Tryz.f173, Tryz.func173, Tryz.ntmps173, C_slices_IndexFunc_api_FieldDef_api_FieldDef, by kernel_rfl⟩

-- slices.ContainsFunc[[]lexicon/api.Span,lexicon/api.Span]
abbrev F_slices_ContainsFunc_api_Span_api_Span : Nat := 174
def A_slices_ContainsFunc_api_Span_api_Span_0 : List AOper := [⟨some 5, .mov (.t 0), none⟩,
    ⟨some 6, .mov (.t 1), none⟩,
    ⟨some 7, .call 203 [(.t 5), (.t 6)], none⟩,
    ⟨some 8, .bini .geq (.t 7) (.c (.int .i64 (0))), none⟩,
    ⟨some 4, .mov (.t 8), none⟩]
def A_slices_ContainsFunc_api_Span_api_Span : ACode := (.seq (.ops [⟨some 4, .mov (.c (.bool false)), none⟩]) (.seq (.ops A_slices_ContainsFunc_api_Span_api_Span_0) .ret))
def R_slices_ContainsFunc_api_Span_api_Span : List ARes := [.tmp 4]
theorem C_slices_ContainsFunc_api_Span_api_Span : compF Tryz.prog Tryz.f174 = some (A_slices_ContainsFunc_api_Span_api_Span, R_slices_ContainsFunc_api_Span_api_Span) := by kernel_rfl
def T_slices_ContainsFunc_api_Span_api_Span : FC := ⟨9, A_slices_ContainsFunc_api_Span_api_Span, R_slices_ContainsFunc_api_Span_api_Span⟩
theorem G_slices_ContainsFunc_api_Span_api_Span : GoodFC Tryz.prog F_slices_ContainsFunc_api_Span_api_Span T_slices_ContainsFunc_api_Span_api_Span := ⟨Tryz.f174, Tryz.func174, Tryz.ntmps174, C_slices_ContainsFunc_api_Span_api_Span, by kernel_rfl⟩

-- (*strings.Builder).copyCheck
abbrev F_strings_Builder_copyCheck : Nat := 178
def A_strings_Builder_copyCheck_0 : List AOper := [⟨some 2, .mov (.t 0), none⟩,
    ⟨some 3, .nilc (.t 2), none⟩,
    ⟨some 4, .faddr 0 (.t 3), none⟩,
    ⟨some 5, .ld1 (.t 4), none⟩,
    ⟨some 6, .isnil .pt false (.t 5), none⟩]
def A_strings_Builder_copyCheck_1 : List AOper := [⟨some 7, .mov (.t 0), none⟩,
    ⟨some 8, .mov (.t 0), none⟩,
    ⟨some 9, .upc (.t 8), none⟩,
    ⟨some 10, .mov (.t 9), none⟩,
    ⟨some 11, .upt 250 (.t 10), none⟩,
    ⟨some 12, .nilc (.t 7), none⟩,
    ⟨some 13, .faddr 0 (.t 12), none⟩,
    ⟨none, .st 1 (.t 13) (.t 11), none⟩]
def A_strings_Builder_copyCheck_2 : List AOper := [⟨some 14, .mov (.t 0), none⟩,
    ⟨some 15, .nilc (.t 14), none⟩,
    ⟨some 16, .faddr 0 (.t 15), none⟩,
    ⟨some 17, .ld1 (.t 16), none⟩,
    ⟨some 18, .mov (.t 0), none⟩,
    ⟨some 19, .peq true (.t 17) (.t 18), none⟩]
def A_strings_Builder_copyCheck : ACode := (.seq (.ops A_strings_Builder_copyCheck_0) (.cond (.t 6) (.ops A_strings_Builder_copyCheck_1) (.seq (.ops A_strings_Builder_copyCheck_2) (.cond (.t 19) .bad .skip))))
def R_strings_Builder_copyCheck : List ARes := []
theorem C_strings_Builder_copyCheck : compF Tryz.prog Tryz.f178 = some (A_strings_Builder_copyCheck, R_strings_Builder_copyCheck) := by kernel_rfl
def T_strings_Builder_copyCheck : FC := ⟨20, A_strings_Builder_copyCheck, R_strings_Builder_copyCheck⟩
theorem G_strings_Builder_copyCheck : GoodFC Tryz.prog F_strings_Builder_copyCheck T_strings_Builder_copyCheck := ⟨Tryz.f178, Tryz.func178, Tryz.ntmps178, C_strings_Builder_copyCheck, by kernel_rfl⟩

-- (*strings.Builder).grow
abbrev F_strings_Builder_grow : Nat := 179
def A_strings_Builder_grow_0 : List AOper := [⟨some 5, .mov (.t 0), none⟩,
    ⟨some 6, .nilc (.t 5), none⟩,
    ⟨some 7, .faddr 1 (.t 6), none⟩,
    ⟨some 8, .ld1 (.t 7), none⟩,
    ⟨some 9, .capk (.t 8), none⟩,
    ⟨some 10, .bini .mul (.c (.int .i64 (2))) (.t 9), none⟩,
    ⟨some 11, .mov (.t 1), none⟩,
    ⟨some 12, .bini .add (.t 10) (.t 11), none⟩,
    ⟨some 14, .mov (.t 0), none⟩,
    ⟨some 15, .nilc (.t 14), none⟩,
    ⟨some 16, .faddr 1 (.t 15), none⟩,
    ⟨some 17, .ld1 (.t 16), none⟩,
    ⟨some 18, .lenl (.t 17), none⟩,
    ⟨some 13, .mnz 5 (.t 12), none⟩,
    ⟨some 19, .slcl 5 1 (.t 13) none (some (.t 18)) none, none⟩,
    ⟨some 4, .mov (.t 19), none⟩]
def A_strings_Builder_grow_1 : List AOper := [⟨some 20, .mov (.t 4), none⟩,
    ⟨some 21, .mov (.t 0), none⟩,
    ⟨some 22, .nilc (.t 21), none⟩,
    ⟨some 23, .faddr 1 (.t 22), none⟩,
    ⟨some 24, .ld1 (.t 23), none⟩,
    ⟨some 25, .cpy 5 1 (.t 20) (.t 24), none⟩]
def A_strings_Builder_grow_2 : List AOper := [⟨some 26, .mov (.t 0), none⟩,
    ⟨some 27, .mov (.t 4), none⟩,
    ⟨some 28, .nilc (.t 26), none⟩,
    ⟨some 29, .faddr 1 (.t 28), none⟩,
    ⟨none, .st 1 (.t 29) (.t 27), none⟩]
def A_strings_Builder_grow : ACode := (.seq (.alts [5, 6, 7, 8, 9, 10, 11, 12, 13, 14, 15, 16, 17, 18, 19, 4] [A_strings_Builder_grow_0]) (.seq (.ops A_strings_Builder_grow_1) (.ops A_strings_Builder_grow_2)))
def R_strings_Builder_grow : List ARes := []
theorem C_strings_Builder_grow : compF Tryz.prog Tryz.f179 = some (A_strings_Builder_grow, R_strings_Builder_grow) := by kernel_rfl
def T_strings_Builder_grow : FC := ⟨30, A_strings_Builder_grow, R_strings_Builder_grow⟩
theorem G_strings_Builder_grow : GoodFC Tryz.prog F_strings_Builder_grow T_strings_Builder_grow := ⟨Tryz.f179, Tryz.func179, Tryz.ntmps179, C_strings_Builder_grow, by kernel_rfl⟩

-- strings.Index
abbrev F_strings_Index : Nat := 201
def A_strings_Index_0 : List AOper := [⟨some 5, .mov (.t 0), none⟩,
    ⟨some 6, .mov (.t 1), none⟩,
    ⟨some 7, .call 222 [(.t 5), (.t 6)], none⟩,
    ⟨some 4, .mov (.t 7), none⟩]
def A_strings_Index : ACode := (.seq (.ops [⟨some 4, .mov (.c (.int .i64 (0))), none⟩]) (.seq (.ops A_strings_Index_0) .ret))
def R_strings_Index : List ARes := [.tmp 4]
theorem C_strings_Index : compF Tryz.prog Tryz.f201 = some (A_strings_Index, R_strings_Index) := by kernel_rfl
def T_strings_Index : FC := ⟨8, A_strings_Index, R_strings_Index⟩
theorem G_strings_Index : GoodFC Tryz.prog F_strings_Index T_strings_Index := ⟨Tryz.f201, Tryz.func201, Tryz.ntmps201, C_strings_Index, by kernel_rfl⟩

-- lexicon/texts.Camel
abbrev F_texts_Camel : Nat := 202
def A_texts_Camel_0 : List AOper := [⟨some 7, .mov (.t 0), none⟩,
    ⟨some 8, .lens (.t 7), none⟩,
    ⟨some 9, .mov (.c (.int .i64 (0))), none⟩]
def A_texts_Camel_1 : List AOper := [⟨some 11, .mov (.t 9), none⟩,
    ⟨some 5, .mov (.t 11), none⟩]
def A_texts_Camel_2 : List AOper := [⟨some 12, .mov (.t 0), none⟩,
    ⟨some 13, .mov (.t 5), none⟩,
    ⟨some 14, .idxs (.t 12) (.t 13), none⟩,
    ⟨some 6, .mov (.t 14), none⟩]
def A_texts_Camel_3 : List AOper := [⟨some 15, .mov (.t 6), none⟩,
    ⟨some 16, .bini .eql (.t 15) (.c (.int .u8 (95))), none⟩]
def A_texts_Camel_4 : List AOper := [⟨some 17, .mov (.t 4), none⟩,
    ⟨some 18, .mov (.t 17), none⟩,
    ⟨some 19, .mov (.t 6), some (18, true)⟩,
    ⟨some 20, .call 162 [(.t 19)], some (18, true)⟩,
    ⟨some 21, .pick (.t 18) (.t 20) (.c (.bool false)), none⟩]
def A_texts_Camel_5 : List AOper := [⟨some 22, .mov (.t 6), none⟩,
    ⟨some 23, .bini .sub (.t 22) (.c (.int .u8 (32))), none⟩,
    ⟨some 6, .mov (.t 23), none⟩]
def A_texts_Camel_6 : List AOper := [⟨some 24, .mov (.t 6), none⟩,
    ⟨some 25, .call 223 [(.t 3), (.t 24)], none⟩]
def A_texts_Camel_7 : List AOper := [⟨some 26, .bini .add (.t 9) (.c (.int .i64 (1))), none⟩,
    ⟨some 9, .mov (.t 26), none⟩]
def A_texts_Camel_8 : ACode := (.seq (.ops [⟨some 10, .bini .lss (.t 9) (.t 8), none⟩]) (.seq (.cond (.t 10) .skip (.exit 0)) (.seq (.block 1 (.seq (.ops A_texts_Camel_1) (.seq (.ops A_texts_Camel_2) (.seq (.seq (.ops A_texts_Camel_3) (.cond (.t 16) (.seq (.ops [⟨some 4, .mov (.c (.bool true)), none⟩]) (.exit 1)) .skip)) (.seq (.seq (.ops A_texts_Camel_4) (.cond (.t 21) (.ops A_texts_Camel_5) .skip)) (.seq (.ops A_texts_Camel_6) (.ops [⟨some 4, .mov (.c (.bool false)), none⟩]))))))) (.ops A_texts_Camel_7))))
def A_texts_Camel_9 : List AOper := [⟨some 27, .call 139 [(.t 3)], none⟩,
    ⟨some 2, .mov (.t 27), none⟩]
def A_texts_Camel : ACode := (.seq (.ops [⟨some 2, .mov (.c (.str [])), none⟩]) (.seq (.ops [⟨some 3, .box 250 2 (.c (.agg [.nilp, .nils])), none⟩]) (.seq (.ops [⟨some 4, .mov (.c (.bool false)), none⟩]) (.seq (.seq (.ops A_texts_Camel_0) (.block 0 (.loop A_texts_Camel_8))) (.seq (.ops A_texts_Camel_9) .ret)))))
def R_texts_Camel : List ARes := [.tmp 2]
theorem C_texts_Camel : compF Tryz.prog Tryz.f202 = some (A_texts_Camel, R_texts_Camel) := by kernel_rfl
def T_texts_Camel : FC := ⟨28, A_texts_Camel, R_texts_Camel⟩
theorem G_texts_Camel : GoodFC Tryz.prog F_texts_Camel T_texts_Camel := ⟨Tryz.f202, Tryz.func202, Tryz.ntmps202, C_texts_Camel, by kernel_rfl⟩

-- slices.IndexFunc[[]lexicon/api.Span,lexicon/api.Span]
abbrev F_slices_IndexFunc_api_Span_api_Span : Nat := 203
def A_slices_IndexFunc_api_Span_api_Span_0 : List AOper := [⟨some 6, .mov (.t 0), none⟩,
    ⟨some 7, .lenl (.t 6), none⟩,
    ⟨some 8, .mov (.c (.int .i64 (0))), none⟩]
def A_slices_IndexFunc_api_Span_api_Span_1 : List AOper := [⟨some 10, .mov (.t 8), none⟩,
    ⟨some 5, .mov (.t 10), none⟩]
def A_slices_IndexFunc_api_Span_api_Span_2 : List AOper := [⟨some 11, .mov (.t 1), none⟩,
    ⟨some 12, .mov (.t 0), none⟩,
    ⟨some 13, .mov (.t 5), none⟩,
    ⟨some 14, .iaddr 234 2 (.t 12) (.t 13), none⟩,
    ⟨some 15, .lda 2 (.t 14), none⟩,
    ⟨some 16, .callv (.t 11) [(.t 15)], none⟩]
def A_slices_IndexFunc_api_Span_api_Span_3 : List AOper := [⟨some 17, .mov (.t 5), none⟩,
    ⟨some 4, .mov (.t 17), none⟩]
def A_slices_IndexFunc_api_Span_api_Span_4 : List AOper := [⟨some 18, .bini .add (.t 8) (.c (.int .i64 (1))), none⟩,
    ⟨some 8, .mov (.t 18), none⟩]
def A_slices_IndexFunc_api_Span_api_Span_5 : ACode := (.seq (.ops [⟨some 9, .bini .lss (.t 8) (.t 7), none⟩]) (.seq (.cond (.t 9) .skip (.exit 0)) (.seq (.block 1 (.seq (.ops A_slices_IndexFunc_api_Span_api_Span_1) (.seq (.ops A_slices_IndexFunc_api_Span_api_Span_2) (.cond (.t 16) (.seq (.ops A_slices_IndexFunc_api_Span_api_Span_3) .ret) .skip)))) (.ops A_slices_IndexFunc_api_Span_api_Span_4))))
def A_slices_IndexFunc_api_Span_api_Span : ACode := (.seq (.ops [⟨some 4, .mov (.c (.int .i64 (0))), none⟩]) (.seq (.seq (.ops A_slices_IndexFunc_api_Span_api_Span_0) (.block 0 (.loop A_slices_IndexFunc_api_Span_api_Span_5))) (.seq (.ops [⟨some 4, .mov (.c (.int .i64 (-1))), none⟩]) .ret)))
def R_slices_IndexFunc_api_Span_api_Span : List ARes := [.tmp 4]
theorem C_slices_IndexFunc_api_Span_api_Span : compF Tryz.prog Tryz.f203 = some (A_slices_IndexFunc_api_Span_api_Span, R_slices_IndexFunc_api_Span_api_Span) := by kernel_rfl
def T_slices_IndexFunc_api_Span_api_Span : FC := ⟨19, A_slices_IndexFunc_api_Span_api_Span, R_slices_IndexFunc_api_Span_api_Span⟩
theorem G_slices_IndexFunc_api_Span_api_Span : GoodFC Tryz.prog F_slices_IndexFunc_api_Span_api_Span T_slices_IndexFunc_api_Span_api_Span := ⟨Tryz.f203, Tryz.func203, Tryz.ntmps203, C_slices_IndexFunc_api_Span_api_Span, by kernel_rfl⟩

-- internal/stringslite.Index
abbrev F_internal_stringslite_Index : Nat := 222
def A_internal_stringslite_Index_0 : List AOper := [⟨some 14, .mov (.t 1), none⟩,
    ⟨some 15, .lens (.t 14), none⟩,
    ⟨some 5, .mov (.t 15), none⟩]
def A_internal_stringslite_Index_1 : List AOper := [⟨some 17, .mov (.t 5), none⟩,
    ⟨some 18, .bini .eql (.t 17) (.c (.int .i64 (0))), none⟩,
    ⟨some 19, .mov (.t 18), none⟩,
    ⟨some 20, .mov (.t 1), some (19, false)⟩,
    ⟨some 21, .mov (.t 0), some (19, false)⟩,
    ⟨some 22, .bins .eql (.t 20) (.t 21), some (19, false)⟩,
    ⟨some 23, .pick (.t 19) (.c (.bool true)) (.t 22), none⟩,
    ⟨some 16, .mov (.t 23), none⟩]
def A_internal_stringslite_Index_2 : List AOper := [⟨some 25, .mov (.t 5), none⟩,
    ⟨some 26, .bini .eql (.t 25) (.c (.int .i64 (1))), none⟩,
    ⟨some 24, .mov (.t 26), none⟩]
def A_internal_stringslite_Index_3 : List AOper := [⟨some 27, .mov (.t 0), none⟩,
    ⟨some 28, .mov (.t 1), none⟩,
    ⟨some 29, .idxs (.t 28) (.c (.int .i64 (0))), none⟩,
    ⟨some 30, .call 229 [(.t 27), (.t 29)], none⟩,
    ⟨some 4, .mov (.t 30), none⟩]
def A_internal_stringslite_Index_4 : List AOper := [⟨some 32, .mov (.t 5), none⟩,
    ⟨some 33, .mov (.t 0), none⟩,
    ⟨some 34, .lens (.t 33), none⟩,
    ⟨some 35, .bini .geq (.t 32) (.t 34), none⟩,
    ⟨some 31, .mov (.t 35), none⟩]
def A_internal_stringslite_Index_5 : List AOper := [⟨some 37, .mov (.t 5), none⟩,
    ⟨some 38, .bad, none⟩,
    ⟨some 39, .bini .leq (.t 37) (.t 38), none⟩,
    ⟨some 40, .mov (.t 39), none⟩,
    ⟨some 41, .mov (.t 0), some (40, true)⟩,
    ⟨some 42, .lens (.t 41), some (40, true)⟩,
    ⟨some 43, .bini .leq (.t 42) (.c (.int .i64 (64))), some (40, true)⟩,
    ⟨some 44, .pick (.t 40) (.t 43) (.c (.bool false)), none⟩,
    ⟨some 36, .mov (.t 44), none⟩]
def A_internal_stringslite_Index_6 : List AOper := [⟨some 45, .mov (.t 0), none⟩,
    ⟨some 46, .mov (.t 1), none⟩,
    ⟨some 47, .bad, none⟩,
    ⟨some 4, .mov (.t 47), none⟩]
def A_internal_stringslite_Index_7 : List AOper := [⟨some 48, .mov (.t 1), none⟩,
    ⟨some 49, .idxs (.t 48) (.c (.int .i64 (0))), none⟩,
    ⟨some 6, .mov (.t 49), none⟩]
def A_internal_stringslite_Index_8 : List AOper := [⟨some 50, .mov (.t 1), none⟩,
    ⟨some 51, .idxs (.t 50) (.c (.int .i64 (1))), none⟩,
    ⟨some 7, .mov (.t 51), none⟩]
def A_internal_stringslite_Index_9 : List AOper := [⟨some 52, .mov (.t 0), none⟩,
    ⟨some 53, .lens (.t 52), none⟩,
    ⟨some 54, .mov (.t 5), none⟩,
    ⟨some 55, .bini .sub (.t 53) (.t 54), none⟩,
    ⟨some 56, .bini .add (.t 55) (.c (.int .i64 (1))), none⟩,
    ⟨some 9, .mov (.t 56), none⟩]
def A_internal_stringslite_Index_10 : List AOper := [⟨some 57, .mov (.t 8), none⟩,
    ⟨some 58, .mov (.t 9), none⟩,
    ⟨some 59, .bini .lss (.t 57) (.t 58), none⟩]
def A_internal_stringslite_Index_11 : List AOper := [⟨some 60, .mov (.t 0), none⟩,
    ⟨some 61, .mov (.t 8), none⟩,
    ⟨some 62, .idxs (.t 60) (.t 61), none⟩,
    ⟨some 63, .mov (.t 6), none⟩,
    ⟨some 64, .bini .neq (.t 62) (.t 63), none⟩]
def A_internal_stringslite_Index_12 : List AOper := [⟨some 65, .mov (.t 0), none⟩,
    ⟨some 66, .mov (.t 8), none⟩,
    ⟨some 67, .bini .add (.t 66) (.c (.int .i64 (1))), none⟩,
    ⟨some 68, .mov (.t 9), none⟩,
    ⟨some 69, .slcs (.t 65) (some (.t 67)) (some (.t 68)), none⟩,
    ⟨some 70, .mov (.t 6), none⟩,
    ⟨some 71, .call 229 [(.t 69), (.t 70)], none⟩,
    ⟨some 11, .mov (.t 71), none⟩]
def A_internal_stringslite_Index_13 : List AOper := [⟨some 72, .mov (.t 11), none⟩,
    ⟨some 73, .bini .lss (.t 72) (.c (.int .i64 (0))), none⟩]
def A_internal_stringslite_Index_14 : List AOper := [⟨some 74, .mov (.t 8), none⟩,
    ⟨some 75, .mov (.t 11), none⟩,
    ⟨some 76, .bini .add (.t 75) (.c (.int .i64 (1))), none⟩,
    ⟨some 77, .bini .add (.t 74) (.t 76), none⟩,
    ⟨some 8, .mov (.t 77), none⟩]
def A_internal_stringslite_Index_15 : List AOper := [⟨some 78, .mov (.t 0), none⟩,
    ⟨some 79, .mov (.t 8), none⟩,
    ⟨some 80, .bini .add (.t 79) (.c (.int .i64 (1))), none⟩,
    ⟨some 81, .idxs (.t 78) (.t 80), none⟩,
    ⟨some 82, .mov (.t 7), none⟩,
    ⟨some 83, .bini .eql (.t 81) (.t 82), none⟩,
    ⟨some 84, .mov (.t 83), none⟩,
    ⟨some 85, .mov (.t 0), some (84, true)⟩,
    ⟨some 86, .mov (.t 8), some (84, true)⟩,
    ⟨some 87, .mov (.t 8), some (84, true)⟩,
    ⟨some 88, .mov (.t 5), some (84, true)⟩,
    ⟨some 89, .bini .add (.t 87) (.t 88), some (84, true)⟩,
    ⟨some 90, .slcs (.t 85) (some (.t 86)) (some (.t 89)), some (84, true)⟩,
    ⟨some 91, .mov (.t 1), some (84, true)⟩,
    ⟨some 92, .bins .eql (.t 90) (.t 91), some (84, true)⟩,
    ⟨some 93, .pick (.t 84) (.t 92) (.c (.bool false)), none⟩]
def A_internal_stringslite_Index_16 : List AOper := [⟨some 94, .mov (.t 8), none⟩,
    ⟨some 4, .mov (.t 94), none⟩]
def A_internal_stringslite_Index_17 : List AOper := [⟨some 95, .mov (.t 8), none⟩,
    ⟨some 96, .bini .add (.t 95) (.c (.int .i64 (1))), none⟩,
    ⟨some 8, .mov (.t 96), none⟩]
def A_internal_stringslite_Index_18 : List AOper := [⟨some 97, .mov (.t 10), none⟩,
    ⟨some 98, .bini .add (.t 97) (.c (.int .i64 (1))), none⟩,
    ⟨some 10, .mov (.t 98), none⟩]
def A_internal_stringslite_Index_19 : List AOper := [⟨some 99, .mov (.t 5), none⟩,
    ⟨some 100, .bad, none⟩,
    ⟨some 101, .bini .leq (.t 99) (.t 100), none⟩,
    ⟨some 102, .mov (.t 101), none⟩,
    ⟨some 103, .mov (.t 10), some (102, true)⟩,
    ⟨some 104, .mov (.t 8), some (102, true)⟩,
    ⟨some 105, .call 231 [(.t 104)], some (102, true)⟩,
    ⟨some 106, .bini .gtr (.t 103) (.t 105), some (102, true)⟩,
    ⟨some 107, .pick (.t 102) (.t 106) (.c (.bool false)), none⟩]
def A_internal_stringslite_Index_20 : List AOper := [⟨some 108, .mov (.t 0), none⟩,
    ⟨some 109, .mov (.t 8), none⟩,
    ⟨some 110, .slcs (.t 108) (some (.t 109)) none, none⟩,
    ⟨some 111, .mov (.t 1), none⟩,
    ⟨some 112, .bad, none⟩,
    ⟨some 12, .mov (.t 112), none⟩]
def A_internal_stringslite_Index_21 : List AOper := [⟨some 113, .mov (.t 12), none⟩,
    ⟨some 114, .bini .geq (.t 113) (.c (.int .i64 (0))), none⟩]
def A_internal_stringslite_Index_22 : List AOper := [⟨some 115, .mov (.t 12), none⟩,
    ⟨some 116, .mov (.t 8), none⟩,
    ⟨some 117, .bini .add (.t 115) (.t 116), none⟩,
    ⟨some 4, .mov (.t 117), none⟩]
def A_internal_stringslite_Index_23 : List AOper := [⟨some 118, .mov (.t 5), none⟩,
    ⟨some 119, .bad, none⟩,
    ⟨some 120, .bini .gtr (.t 118) (.t 119), none⟩,
    ⟨some 121, .mov (.t 120), none⟩,
    ⟨some 122, .mov (.t 10), some (121, true)⟩,
    ⟨some 123, .mov (.t 8), some (121, true)⟩,
    ⟨some 124, .bini .shr (.t 123) (.c (.int .u64 (4))), some (121, true)⟩,
    ⟨some 125, .bini .add (.c (.int .i64 (4))) (.t 124), some (121, true)⟩,
    ⟨some 126, .bini .geq (.t 122) (.t 125), some (121, true)⟩,
    ⟨some 127, .pick (.t 121) (.t 126) (.c (.bool false)), none⟩,
    ⟨some 128, .mov (.t 127), none⟩,
    ⟨some 129, .mov (.t 8), some (128, true)⟩,
    ⟨some 130, .mov (.t 9), some (128, true)⟩,
    ⟨some 131, .bini .lss (.t 129) (.t 130), some (128, true)⟩,
    ⟨some 132, .pick (.t 128) (.t 131) (.c (.bool false)), none⟩]
def A_internal_stringslite_Index_24 : List AOper := [⟨some 133, .mov (.t 0), none⟩,
    ⟨some 134, .mov (.t 8), none⟩,
    ⟨some 135, .slcs (.t 133) (some (.t 134)) none, none⟩,
    ⟨some 136, .mov (.t 1), none⟩,
    ⟨some 137, .call 232 [(.t 135), (.t 136)], none⟩,
    ⟨some 13, .mov (.t 137), none⟩]
def A_internal_stringslite_Index_25 : List AOper := [⟨some 138, .mov (.t 13), none⟩,
    ⟨some 139, .bini .lss (.t 138) (.c (.int .i64 (0))), none⟩]
def A_internal_stringslite_Index_26 : List AOper := [⟨some 140, .mov (.t 8), none⟩,
    ⟨some 141, .mov (.t 13), none⟩,
    ⟨some 142, .bini .add (.t 140) (.t 141), none⟩,
    ⟨some 4, .mov (.t 142), none⟩]
def A_internal_stringslite_Index_27 : ACode := (.seq (.seq (.ops A_internal_stringslite_Index_10) (.cond (.t 59) .skip (.exit 1))) (.block 2 (.seq (.seq (.ops A_internal_stringslite_Index_11) (.cond (.t 64) (.seq (.ops A_internal_stringslite_Index_12) (.seq (.seq (.ops A_internal_stringslite_Index_13) (.cond (.t 73) (.seq (.ops [⟨some 4, .mov (.c (.int .i64 (-1))), none⟩]) .ret) .skip)) (.ops A_internal_stringslite_Index_14))) .skip)) (.seq (.seq (.ops A_internal_stringslite_Index_15) (.cond (.t 93) (.seq (.ops A_internal_stringslite_Index_16) .ret) .skip)) (.seq (.ops A_internal_stringslite_Index_17) (.seq (.ops A_internal_stringslite_Index_18) (.seq (.ops A_internal_stringslite_Index_19) (.cond (.t 107) (.seq (.ops A_internal_stringslite_Index_20) (.seq (.seq (.ops A_internal_stringslite_Index_21) (.cond (.t 114) (.seq (.ops A_internal_stringslite_Index_22) .ret) .skip)) (.seq (.ops [⟨some 4, .mov (.c (.int .i64 (-1))), none⟩]) .ret))) (.seq (.ops A_internal_stringslite_Index_23) (.cond (.t 132) (.seq (.ops A_internal_stringslite_Index_24) (.seq (.seq (.ops A_internal_stringslite_Index_25) (.cond (.t 139) (.seq (.ops [⟨some 4, .mov (.c (.int .i64 (-1))), none⟩]) .ret) .skip)) (.seq (.ops A_internal_stringslite_Index_26) .ret))) .skip))))))))))
def A_internal_stringslite_Index : ACode := (.seq (.ops [⟨some 4, .mov (.c (.int .i64 (0))), none⟩]) (.seq (.ops A_internal_stringslite_Index_0) (.seq (.block 0 (.seq (.ops A_internal_stringslite_Index_1) (.cond (.t 16) (.seq (.ops [⟨some 4, .mov (.c (.int .i64 (0))), none⟩]) .ret) (.seq (.ops A_internal_stringslite_Index_2) (.cond (.t 24) (.seq (.ops A_internal_stringslite_Index_3) .ret) (.seq (.ops A_internal_stringslite_Index_4) (.cond (.t 31) (.seq (.ops [⟨some 4, .mov (.c (.int .i64 (-1))), none⟩]) .ret) (.seq (.ops A_internal_stringslite_Index_5) (.cond (.t 36) (.seq (.ops A_internal_stringslite_Index_6) .ret) .skip))))))))) (.seq (.ops A_internal_stringslite_Index_7) (.seq (.ops A_internal_stringslite_Index_8) (.seq (.ops [⟨some 8, .mov (.c (.int .i64 (0))), none⟩]) (.seq (.ops A_internal_stringslite_Index_9) (.seq (.ops [⟨some 10, .mov (.c (.int .i64 (0))), none⟩]) (.seq (.block 1 (.loop A_internal_stringslite_Index_27)) (.seq (.ops [⟨some 4, .mov (.c (.int .i64 (-1))), none⟩]) .ret))))))))))
def R_internal_stringslite_Index : List ARes := [.tmp 4]
theorem C_internal_stringslite_Index : compF Tryz.prog Tryz.f222 = some (A_internal_stringslite_Index, R_internal_stringslite_Index) := by kernel_rfl
def T_internal_stringslite_Index : FC := ⟨143, A_internal_stringslite_Index, R_internal_stringslite_Index⟩
theorem G_internal_stringslite_Index : GoodFC Tryz.prog F_internal_stringslite_Index T_internal_stringslite_Index := ⟨Tryz.f222, Tryz.func222, Tryz.ntmps222, C_internal_stringslite_Index, by kernel_rfl⟩

-- (*strings.Builder).WriteByte
abbrev F_strings_Builder_WriteByte : Nat := 223
def A_strings_Builder_WriteByte_0 : List AOper := [⟨some 5, .mov (.t 0), none⟩,
    ⟨some 6, .call 178 [(.t 5)], none⟩]
def A_strings_Builder_WriteByte_1 : List AOper := [⟨some 7, .mov (.t 0), none⟩,
    ⟨some 8, .mov (.t 0), none⟩,
    ⟨some 9, .nilc (.t 8), none⟩,
    ⟨some 10, .faddr 1 (.t 9), none⟩,
    ⟨some 11, .ld1 (.t 10), none⟩,
    ⟨some 12, .mov (.t 1), none⟩,
    ⟨some 13, .bslice 5 1 1 [.int .u8 (0)] [(0, 1, (.t 12))], none⟩,
    ⟨some 14, .app 5 1 1 (.t 11) (.t 13), none⟩,
    ⟨some 15, .nilc (.t 7), none⟩,
    ⟨some 16, .faddr 1 (.t 15), none⟩,
    ⟨none, .st 1 (.t 16) (.t 14), none⟩]
def A_strings_Builder_WriteByte : ACode := (.seq (.ops [⟨some 4, .mov (.c (.nili)), none⟩]) (.seq (.ops A_strings_Builder_WriteByte_0) (.seq (.ops A_strings_Builder_WriteByte_1) (.seq (.ops [⟨some 4, .mov (.c (.nili)), none⟩]) .ret))))
def R_strings_Builder_WriteByte : List ARes := [.tmp 4]
theorem C_strings_Builder_WriteByte : compF Tryz.prog Tryz.f223 = some (A_strings_Builder_WriteByte, R_strings_Builder_WriteByte) := by kernel_rfl
def T_strings_Builder_WriteByte : FC := ⟨17, A_strings_Builder_WriteByte, R_strings_Builder_WriteByte⟩
theorem G_strings_Builder_WriteByte : GoodFC Tryz.prog F_strings_Builder_WriteByte T_strings_Builder_WriteByte := ⟨Tryz.f223, Tryz.func223, Tryz.ntmps223, C_strings_Builder_WriteByte, by kernel_rfl⟩

-- internal/stringslite.IndexByte
abbrev F_internal_stringslite_IndexByte : Nat := 229
def A_internal_stringslite_IndexByte_0 : List AOper := [⟨some 5, .mov (.t 0), none⟩,
    ⟨some 6, .mov (.t 1), none⟩,
    ⟨some 7, .xindex (.t 5) (.t 6), none⟩,
    ⟨some 4, .mov (.t 7), none⟩]
def A_internal_stringslite_IndexByte : ACode := (.seq (.ops [⟨some 4, .mov (.c (.int .i64 (0))), none⟩]) (.seq (.ops A_internal_stringslite_IndexByte_0) .ret))
def R_internal_stringslite_IndexByte : List ARes := [.tmp 4]
theorem C_internal_stringslite_IndexByte : compF Tryz.prog Tryz.f229 = some (A_internal_stringslite_IndexByte, R_internal_stringslite_IndexByte) := by kernel_rfl
def T_internal_stringslite_IndexByte : FC := ⟨8, A_internal_stringslite_IndexByte, R_internal_stringslite_IndexByte⟩
theorem G_internal_stringslite_IndexByte : GoodFC Tryz.prog F_internal_stringslite_IndexByte T_internal_stringslite_IndexByte := ⟨Tryz.f229, Tryz.func229, Tryz.ntmps229, C_internal_stringslite_IndexByte, by kernel_rfl⟩

-- (*lexicon/table.Set).Table
abbrev F_table_Set_Table : Nat := 256
def A_table_Set_Table_0 : List AOper := [⟨some 4, .mov (.c (.nilp)), none⟩,
    ⟨some 5, .mov (.c (.int .i64 (0))), none⟩]
def A_table_Set_Table_1 : List AOper := [⟨some 9, .mov (.t 0), none⟩,
    ⟨some 10, .nilc (.t 9), none⟩,
    ⟨some 11, .faddr 0 (.t 10), none⟩,
    ⟨some 12, .call 257 [(.t 11)], none⟩]
def A_table_Set_Table_2 : List AOper := [⟨some 13, .mov (.t 0), none⟩,
    ⟨some 14, .nilc (.t 13), none⟩,
    ⟨some 15, .faddr 0 (.t 14), none⟩]
def A_table_Set_Table_3 : List AOper := [⟨some 16, .mov (.t 0), none⟩,
    ⟨some 17, .nilc (.t 16), none⟩,
    ⟨some 18, .faddr 3 (.t 17), none⟩,
    ⟨some 19, .ld1 (.t 18), none⟩,
    ⟨some 20, .mov (.t 1), none⟩,
    ⟨some 21, .mlook .s (.nilp) false (.t 19) (.t 20), none⟩,
    ⟨some 6, .mov (.t 21), none⟩]
def A_table_Set_Table_4 : List AOper := [⟨some 22, .mov (.t 6), none⟩,
    ⟨some 23, .isnil .pt true (.t 22), none⟩]
def A_table_Set_Table_5 : List AOper := [⟨some 24, .mov (.t 6), none⟩,
    ⟨some 4, .mov (.t 24), none⟩,
    ⟨some 5, .mov (.c (.int .i64 (0))), none⟩]
def A_table_Set_Table_6 : List AOper := [⟨some 26, .mov (.t 0), none⟩,
    ⟨some 27, .nilc (.t 26), none⟩,
    ⟨some 28, .faddr 2 (.t 27), none⟩,
    ⟨some 29, .ld1 (.t 28), none⟩,
    ⟨some 30, .mov (.t 1), none⟩,
    ⟨some 31, .call 259 [(.t 29), (.t 30)], none⟩,
    ⟨some 25, .mov (.t 31), none⟩,
    ⟨some 32, .ext 0 (.t 25), none⟩,
    ⟨some 33, .ext 1 (.t 25), none⟩,
    ⟨some 7, .mov (.t 32), none⟩,
    ⟨some 8, .mov (.t 33), none⟩]
def A_table_Set_Table_7 : List AOper := [⟨some 34, .mov (.t 8), none⟩,
    ⟨some 35, .bini .eql (.t 34) (.c (.int .i64 (0))), none⟩]
def A_table_Set_Table_8 : List AOper := [⟨some 36, .mov (.t 0), none⟩,
    ⟨some 37, .nilc (.t 36), none⟩,
    ⟨some 38, .faddr 3 (.t 37), none⟩,
    ⟨some 39, .ld1 (.t 38), none⟩,
    ⟨some 40, .mov (.t 1), none⟩,
    ⟨some 41, .mov (.t 7), none⟩,
    ⟨none, .mupd .s (.t 39) (.t 40) (.t 41), none⟩]
def A_table_Set_Table_9 : List AOper := [⟨some 42, .mov (.t 7), none⟩,
    ⟨some 43, .mov (.t 8), none⟩,
    ⟨some 4, .mov (.t 42), none⟩,
    ⟨some 5, .mov (.t 43), none⟩]
def A_table_Set_Table : ACode := (.seq (.ops A_table_Set_Table_0) (.seq (.ops A_table_Set_Table_1) (.seq (.seq (.ops A_table_Set_Table_2) (.dfr (.f 258) [(.t 15)])) (.seq (.seq (.ops A_table_Set_Table_3) (.seq (.ops A_table_Set_Table_4) (.cond (.t 23) (.seq (.ops A_table_Set_Table_5) .ret) .skip))) (.seq (.ops A_table_Set_Table_6) (.seq (.seq (.ops A_table_Set_Table_7) (.cond (.t 35) (.ops A_table_Set_Table_8) .skip)) (.seq (.ops A_table_Set_Table_9) .ret)))))))
def R_table_Set_Table : List ARes := [.tmp 4, .tmp 5]
theorem C_table_Set_Table : compF Tryz.prog Tryz.f256 = some (A_table_Set_Table, R_table_Set_Table) := by kernel_rfl
def T_table_Set_Table : FC := ⟨44, A_table_Set_Table, R_table_Set_Table⟩
theorem G_table_Set_Table : GoodFC Tryz.prog F_table_Set_Table T_table_Set_Table := ⟨Tryz.f256, Tryz.func256, Tryz.ntmps256, C_table_Set_Table, by kernel_rfl⟩

-- (*sync.Mutex).Lock
abbrev F_sync_Mutex_Lock : Nat := 257
def A_sync_Mutex_Lock_0 : List AOper := [⟨some 2, .mov (.t 0), none⟩,
    ⟨some 3, .nilc (.t 2), none⟩,
    ⟨some 4, .faddr 0 (.t 3), none⟩,
    ⟨some 5, .call 260 [(.t 4)], none⟩]
def A_sync_Mutex_Lock : ACode := (.ops A_sync_Mutex_Lock_0)
def R_sync_Mutex_Lock : List ARes := []
theorem C_sync_Mutex_Lock : compF Tryz.prog Tryz.f257 = some (A_sync_Mutex_Lock, R_sync_Mutex_Lock) := by kernel_rfl
def T_sync_Mutex_Lock : FC := ⟨6, A_sync_Mutex_Lock, R_sync_Mutex_Lock⟩
theorem G_sync_Mutex_Lock : GoodFC Tryz.prog F_sync_Mutex_Lock T_sync_Mutex_Lock := ⟨Tryz.f257, Tryz.func257, Tryz.ntmps257, C_sync_Mutex_Lock, by kernel_rfl⟩

-- (*sync.Mutex).Unlock
abbrev F_sync_Mutex_Unlock : Nat := 258
def A_sync_Mutex_Unlock_0 : List AOper := [⟨some 2, .mov (.t 0), none⟩,
    ⟨some 3, .nilc (.t 2), none⟩,
    ⟨some 4, .faddr 0 (.t 3), none⟩,
    ⟨some 5, .call 261 [(.t 4)], none⟩]
def A_sync_Mutex_Unlock : ACode := (.ops A_sync_Mutex_Unlock_0)
def R_sync_Mutex_Unlock : List ARes := []
theorem C_sync_Mutex_Unlock : compF Tryz.prog Tryz.f258 = some (A_sync_Mutex_Unlock, R_sync_Mutex_Unlock) := by kernel_rfl
def T_sync_Mutex_Unlock : FC := ⟨6, A_sync_Mutex_Unlock, R_sync_Mutex_Unlock⟩
theorem G_sync_Mutex_Unlock : GoodFC Tryz.prog F_sync_Mutex_Unlock T_sync_Mutex_Unlock := ⟨Tryz.f258, Tryz.func258, Tryz.ntmps258, C_sync_Mutex_Unlock, by kernel_rfl⟩

-- lexicon/table.Build
abbrev F_table_Build : Nat := 259
def A_table_Build_0 : List AOper := [⟨some 4, .mov (.c (.nilp)), none⟩,
    ⟨some 5, .mov (.c (.int .i64 (0))), none⟩]
def A_table_Build_1 : List AOper := [⟨some 14, .mov (.t 0), none⟩,
    ⟨some 15, .mov (.t 1), none⟩,
    ⟨some 16, .call 262 [(.t 14), (.t 15)], none⟩,
    ⟨some 13, .mov (.t 16), none⟩,
    ⟨some 17, .ext 0 (.t 13), none⟩,
    ⟨some 18, .ext 1 (.t 13), none⟩,
    ⟨some 6, .box 76 7 (.c (.agg [.str [], .nils, .nils, .nils, .nils, .nils, .nils])), none⟩,
    ⟨none, .st 7 (.t 6) (.t 17), none⟩,
    ⟨some 7, .mov (.t 18), none⟩]
def A_table_Build_2 : List AOper := [⟨some 19, .mov (.t 7), none⟩,
    ⟨some 20, .not (.t 19), none⟩]
def A_table_Build_3 : List AOper := [⟨some 4, .mov (.c (.nilp)), none⟩,
    ⟨some 5, .mov (.c (.int .i64 (90))), none⟩]
def A_table_Build_4 : List AOper := [⟨some 21, .mov (.t 1), none⟩,
    ⟨some 22, .faddr 2 (.t 6), none⟩,
    ⟨some 23, .ld1 (.t 22), none⟩,
    ⟨some 24, .call 121 [(.t 23)], none⟩,
    ⟨some 25, .mkmap, none⟩,
    ⟨some 26, .mkmap, none⟩,
    ⟨some 27, .mkmap, none⟩,
    ⟨some 28, .build [.str [], .nils, .nils, .nilm, .nilm, .nilm] [(0, 1, (.t 21)), (1, 1, (.t 24)), (3, 1, (.t 25)), (4, 1, (.t 26)), (5, 1, (.t 27))], none⟩,
    ⟨some 29, .box 151 6 (.t 28), none⟩,
    ⟨some 8, .mov (.t 29), none⟩]
def A_table_Build_5 : List AOper := [⟨some 30, .faddr 1 (.t 6), none⟩,
    ⟨some 31, .ld1 (.t 30), none⟩,
    ⟨some 32, .lenl (.t 31), none⟩,
    ⟨some 33, .mov (.c (.int .i64 (0))), none⟩]
def A_table_Build_6 : List AOper := [⟨some 35, .iaddr 72 9 (.t 31) (.t 33), none⟩,
    ⟨some 36, .lda 9 (.t 35), none⟩,
    ⟨some 10, .box 72 9 (.c (.agg [.str [], .int .i32 (0), .int .u8 (0), .int .u8 (0), .str [], .int .u8 (0), .int .i64 (0), .int .u8 (0), .str []])), none⟩,
    ⟨none, .st 9 (.t 10) (.t 36), none⟩]
def A_table_Build_7 : List AOper := [⟨some 37, .mov (.t 8), none⟩,
    ⟨some 38, .mov (.t 8), none⟩,
    ⟨some 39, .nilc (.t 38), none⟩,
    ⟨some 40, .faddr 2 (.t 39), none⟩,
    ⟨some 41, .ld1 (.t 40), none⟩,
    ⟨some 42, .lda 9 (.t 10), none⟩,
    ⟨some 43, .acall 263 [(.t 42)], none⟩,
    ⟨some 44, .bslice 93 9 1 [.int .i32 (0), .str [], .str [], .int .u8 (0), .int .u8 (0), .int .u8 (0), .bool false, .int .i64 (0), .str []] [(0, 9, (.t 43))], none⟩,
    ⟨some 45, .app 93 9 72 (.t 41) (.t 44), none⟩,
    ⟨some 46, .nilc (.t 37), none⟩,
    ⟨some 47, .faddr 2 (.t 46), none⟩,
    ⟨none, .st 1 (.t 47) (.t 45), none⟩]
def A_table_Build_8 : List AOper := [⟨some 37, .mov (.t 8), none⟩,
    ⟨some 38, .mov (.t 8), none⟩,
    ⟨some 39, .nilc (.t 38), none⟩,
    ⟨some 40, .faddr 2 (.t 39), none⟩,
    ⟨some 41, .ld1 (.t 40), none⟩,
    ⟨some 42, .lda 9 (.t 10), none⟩,
    ⟨some 43, .pcall 263 [(.t 42)], none⟩,
    ⟨some 44, .fslice 93 9 1 [.int .i32 (0), .str [], .str [], .int .u8 (0), .int .u8 (0), .int .u8 (0), .bool false, .int .i64 (0), .str []] [(0, 9, (.t 43))], none⟩,
    ⟨some 45, .app 93 9 72 (.t 41) (.t 44), none⟩,
    ⟨some 46, .nilc (.t 37), none⟩,
    ⟨some 47, .faddr 2 (.t 46), none⟩,
    ⟨none, .st 1 (.t 47) (.t 45), none⟩]
def A_table_Build_9 : List AOper := [⟨some 37, .mov (.t 8), none⟩,
    ⟨some 38, .mov (.t 8), none⟩,
    ⟨some 39, .nilc (.t 38), none⟩,
    ⟨some 40, .faddr 2 (.t 39), none⟩,
    ⟨some 42, .lda 9 (.t 10), none⟩,
    ⟨some 41, .ld1 (.t 40), none⟩,
    ⟨some 43, .call 263 [(.t 42)], none⟩,
    ⟨some 44, .bslice 93 9 1 [.int .i32 (0), .str [], .str [], .int .u8 (0), .int .u8 (0), .int .u8 (0), .bool false, .int .i64 (0), .str []] [(0, 9, (.t 43))], none⟩,
    ⟨some 45, .app 93 9 72 (.t 41) (.t 44), none⟩,
    ⟨some 46, .nilc (.t 37), none⟩,
    ⟨some 47, .faddr 2 (.t 46), none⟩,
    ⟨none, .st 1 (.t 47) (.t 45), none⟩]
def A_table_Build_10 : List AOper := [⟨some 37, .mov (.t 8), none⟩,
    ⟨some 38, .mov (.t 8), none⟩,
    ⟨some 39, .nilc (.t 38), none⟩,
    ⟨some 40, .faddr 2 (.t 39), none⟩,
    ⟨some 42, .lda 9 (.t 10), none⟩,
    ⟨some 43, .call 263 [(.t 42)], none⟩,
    ⟨some 41, .ld1 (.t 40), none⟩,
    ⟨some 44, .bslice 93 9 1 [.int .i32 (0), .str [], .str [], .int .u8 (0), .int .u8 (0), .int .u8 (0), .bool false, .int .i64 (0), .str []] [(0, 9, (.t 43))], none⟩,
    ⟨some 45, .app 93 9 72 (.t 41) (.t 44), none⟩,
    ⟨some 46, .nilc (.t 37), none⟩,
    ⟨some 47, .faddr 2 (.t 46), none⟩,
    ⟨none, .st 1 (.t 47) (.t 45), none⟩]
def A_table_Build_11 : List AOper := [⟨some 48, .bini .add (.t 33) (.c (.int .i64 (1))), none⟩,
    ⟨some 33, .mov (.t 48), none⟩]
def A_table_Build_12 : ACode := (.seq (.ops [⟨some 34, .bini .lss (.t 33) (.t 32), none⟩]) (.seq (.cond (.t 34) .skip (.exit 0)) (.seq (.block 1 (.seq (.ops A_table_Build_6) (.orr (.alts [37, 38, 39, 40, 41, 42, 43, 44, 45, 46, 47] [A_table_Build_7]) (.orr (.alts [37, 38, 39, 40, 41, 42, 43, 44, 45, 46, 47] [A_table_Build_8]) (.alts [37, 38, 39, 40, 41, 42, 43, 44, 45, 46, 47] [A_table_Build_9, A_table_Build_10]))))) (.ops A_table_Build_11))))
def A_table_Build_13 : List AOper := [⟨some 49, .mov (.t 8), none⟩,
    ⟨some 50, .nilc (.t 49), none⟩,
    ⟨some 51, .faddr 2 (.t 50), none⟩,
    ⟨some 52, .ld1 (.t 51), none⟩,
    ⟨some 53, .call 264 [(.t 52), (.f 265)], none⟩]
def A_table_Build_14 : List AOper := [⟨some 54, .mov (.t 8), none⟩,
    ⟨some 55, .nilc (.t 54), none⟩,
    ⟨some 56, .faddr 2 (.t 55), none⟩,
    ⟨some 57, .ld1 (.t 56), none⟩,
    ⟨some 58, .lenl (.t 57), none⟩,
    ⟨some 59, .mov (.c (.int .i64 (0))), none⟩]
def A_table_Build_15 : List AOper := [⟨some 61, .mov (.t 59), none⟩,
    ⟨some 62, .iaddr 93 9 (.t 57) (.t 59), none⟩,
    ⟨some 63, .lda 9 (.t 62), none⟩,
    ⟨some 12, .box 93 9 (.c (.agg [.int .i32 (0), .str [], .str [], .int .u8 (0), .int .u8 (0), .int .u8 (0), .bool false, .int .i64 (0), .str []])), none⟩,
    ⟨some 11, .mov (.t 61), none⟩,
    ⟨none, .st 9 (.t 12) (.t 63), none⟩]
def A_table_Build_16 : List AOper := [⟨some 64, .mov (.t 8), none⟩,
    ⟨some 65, .nilc (.t 64), none⟩,
    ⟨some 66, .faddr 3 (.t 65), none⟩,
    ⟨some 67, .ld1 (.t 66), none⟩,
    ⟨some 68, .faddr 0 (.t 12), none⟩,
    ⟨some 69, .ld1 (.t 68), none⟩,
    ⟨some 70, .mov (.t 8), none⟩,
    ⟨some 71, .nilc (.t 70), none⟩,
    ⟨some 72, .faddr 4 (.t 71), none⟩,
    ⟨some 73, .ld1 (.t 72), none⟩,
    ⟨some 74, .faddr 1 (.t 12), none⟩,
    ⟨some 76, .mov (.t 8), none⟩,
    ⟨some 77, .nilc (.t 76), none⟩,
    ⟨some 78, .faddr 5 (.t 77), none⟩,
    ⟨some 79, .ld1 (.t 78), none⟩,
    ⟨some 80, .faddr 2 (.t 12), none⟩,
    ⟨some 82, .mov (.t 11), none⟩,
    ⟨some 83, .mov (.t 11), none⟩,
    ⟨some 84, .mov (.t 11), none⟩,
    ⟨some 75, .ld1 (.t 74), none⟩,
    ⟨some 81, .ld1 (.t 80), none⟩,
    ⟨some 85, .ment .i (.int .i64 (0)) (.t 67) (.t 69), none⟩,
    ⟨some 86, .ext 1 (.t 85), none⟩,
    ⟨none, .mest (.t 67) (.t 86) (.t 82), none⟩,
    ⟨some 87, .ment .s (.int .i64 (0)) (.t 73) (.t 75), none⟩,
    ⟨some 88, .ext 1 (.t 87), none⟩,
    ⟨none, .mest (.t 73) (.t 88) (.t 83), none⟩,
    ⟨some 89, .ment .s (.int .i64 (0)) (.t 79) (.t 81), none⟩,
    ⟨some 90, .ext 1 (.t 89), none⟩,
    ⟨none, .mest (.t 79) (.t 90) (.t 84), none⟩]
def A_table_Build_17 : List AOper := [⟨some 64, .mov (.t 8), none⟩,
    ⟨some 65, .nilc (.t 64), none⟩,
    ⟨some 66, .faddr 3 (.t 65), none⟩,
    ⟨some 67, .ld1 (.t 66), none⟩,
    ⟨some 68, .faddr 0 (.t 12), none⟩,
    ⟨some 69, .ld1 (.t 68), none⟩,
    ⟨some 70, .mov (.t 8), none⟩,
    ⟨some 71, .nilc (.t 70), none⟩,
    ⟨some 72, .faddr 4 (.t 71), none⟩,
    ⟨some 73, .ld1 (.t 72), none⟩,
    ⟨some 74, .faddr 1 (.t 12), none⟩,
    ⟨some 76, .mov (.t 8), none⟩,
    ⟨some 77, .nilc (.t 76), none⟩,
    ⟨some 78, .faddr 5 (.t 77), none⟩,
    ⟨some 79, .ld1 (.t 78), none⟩,
    ⟨some 80, .faddr 2 (.t 12), none⟩,
    ⟨some 82, .mov (.t 11), none⟩,
    ⟨some 83, .mov (.t 11), none⟩,
    ⟨some 84, .mov (.t 11), none⟩,
    ⟨some 75, .ld1 (.t 74), none⟩,
    ⟨some 85, .ment .i (.int .i64 (0)) (.t 67) (.t 69), none⟩,
    ⟨some 86, .ext 1 (.t 85), none⟩,
    ⟨some 81, .ld1 (.t 80), none⟩,
    ⟨none, .mest (.t 67) (.t 86) (.t 82), none⟩,
    ⟨some 87, .ment .s (.int .i64 (0)) (.t 73) (.t 75), none⟩,
    ⟨some 88, .ext 1 (.t 87), none⟩,
    ⟨none, .mest (.t 73) (.t 88) (.t 83), none⟩,
    ⟨some 89, .ment .s (.int .i64 (0)) (.t 79) (.t 81), none⟩,
    ⟨some 90, .ext 1 (.t 89), none⟩,
    ⟨none, .mest (.t 79) (.t 90) (.t 84), none⟩]
def A_table_Build_18 : List AOper := [⟨some 64, .mov (.t 8), none⟩,
    ⟨some 65, .nilc (.t 64), none⟩,
    ⟨some 66, .faddr 3 (.t 65), none⟩,
    ⟨some 67, .ld1 (.t 66), none⟩,
    ⟨some 68, .faddr 0 (.t 12), none⟩,
    ⟨some 69, .ld1 (.t 68), none⟩,
    ⟨some 70, .mov (.t 8), none⟩,
    ⟨some 71, .nilc (.t 70), none⟩,
    ⟨some 72, .faddr 4 (.t 71), none⟩,
    ⟨some 73, .ld1 (.t 72), none⟩,
    ⟨some 74, .faddr 1 (.t 12), none⟩,
    ⟨some 76, .mov (.t 8), none⟩,
    ⟨some 77, .nilc (.t 76), none⟩,
    ⟨some 78, .faddr 5 (.t 77), none⟩,
    ⟨some 79, .ld1 (.t 78), none⟩,
    ⟨some 80, .faddr 2 (.t 12), none⟩,
    ⟨some 82, .mov (.t 11), none⟩,
    ⟨some 83, .mov (.t 11), none⟩,
    ⟨some 84, .mov (.t 11), none⟩,
    ⟨some 75, .ld1 (.t 74), none⟩,
    ⟨some 85, .ment .i (.int .i64 (0)) (.t 67) (.t 69), none⟩,
    ⟨some 86, .ext 1 (.t 85), none⟩,
    ⟨none, .mest (.t 67) (.t 86) (.t 82), none⟩,
    ⟨some 81, .ld1 (.t 80), none⟩,
    ⟨some 87, .ment .s (.int .i64 (0)) (.t 73) (.t 75), none⟩,
    ⟨some 88, .ext 1 (.t 87), none⟩,
    ⟨none, .mest (.t 73) (.t 88) (.t 83), none⟩,
    ⟨some 89, .ment .s (.int .i64 (0)) (.t 79) (.t 81), none⟩,
    ⟨some 90, .ext 1 (.t 89), none⟩,
    ⟨none, .mest (.t 79) (.t 90) (.t 84), none⟩]
def A_table_Build_19 : List AOper := [⟨some 64, .mov (.t 8), none⟩,
    ⟨some 65, .nilc (.t 64), none⟩,
    ⟨some 66, .faddr 3 (.t 65), none⟩,
    ⟨some 67, .ld1 (.t 66), none⟩,
    ⟨some 68, .faddr 0 (.t 12), none⟩,
    ⟨some 69, .ld1 (.t 68), none⟩,
    ⟨some 70, .mov (.t 8), none⟩,
    ⟨some 71, .nilc (.t 70), none⟩,
    ⟨some 72, .faddr 4 (.t 71), none⟩,
    ⟨some 73, .ld1 (.t 72), none⟩,
    ⟨some 74, .faddr 1 (.t 12), none⟩,
    ⟨some 76, .mov (.t 8), none⟩,
    ⟨some 77, .nilc (.t 76), none⟩,
    ⟨some 78, .faddr 5 (.t 77), none⟩,
    ⟨some 79, .ld1 (.t 78), none⟩,
    ⟨some 80, .faddr 2 (.t 12), none⟩,
    ⟨some 82, .mov (.t 11), none⟩,
    ⟨some 83, .mov (.t 11), none⟩,
    ⟨some 84, .mov (.t 11), none⟩,
    ⟨some 75, .ld1 (.t 74), none⟩,
    ⟨some 85, .ment .i (.int .i64 (0)) (.t 67) (.t 69), none⟩,
    ⟨some 86, .ext 1 (.t 85), none⟩,
    ⟨none, .mest (.t 67) (.t 86) (.t 82), none⟩,
    ⟨some 87, .ment .s (.int .i64 (0)) (.t 73) (.t 75), none⟩,
    ⟨some 88, .ext 1 (.t 87), none⟩,
    ⟨some 81, .ld1 (.t 80), none⟩,
    ⟨none, .mest (.t 73) (.t 88) (.t 83), none⟩,
    ⟨some 89, .ment .s (.int .i64 (0)) (.t 79) (.t 81), none⟩,
    ⟨some 90, .ext 1 (.t 89), none⟩,
    ⟨none, .mest (.t 79) (.t 90) (.t 84), none⟩]
def A_table_Build_20 : List AOper := [⟨some 64, .mov (.t 8), none⟩,
    ⟨some 65, .nilc (.t 64), none⟩,
    ⟨some 66, .faddr 3 (.t 65), none⟩,
    ⟨some 67, .ld1 (.t 66), none⟩,
    ⟨some 68, .faddr 0 (.t 12), none⟩,
    ⟨some 69, .ld1 (.t 68), none⟩,
    ⟨some 70, .mov (.t 8), none⟩,
    ⟨some 71, .nilc (.t 70), none⟩,
    ⟨some 72, .faddr 4 (.t 71), none⟩,
    ⟨some 73, .ld1 (.t 72), none⟩,
    ⟨some 74, .faddr 1 (.t 12), none⟩,
    ⟨some 76, .mov (.t 8), none⟩,
    ⟨some 77, .nilc (.t 76), none⟩,
    ⟨some 78, .faddr 5 (.t 77), none⟩,
    ⟨some 79, .ld1 (.t 78), none⟩,
    ⟨some 80, .faddr 2 (.t 12), none⟩,
    ⟨some 82, .mov (.t 11), none⟩,
    ⟨some 83, .mov (.t 11), none⟩,
    ⟨some 84, .mov (.t 11), none⟩,
    ⟨some 75, .ld1 (.t 74), none⟩,
    ⟨some 85, .ment .i (.int .i64 (0)) (.t 67) (.t 69), none⟩,
    ⟨some 86, .ext 1 (.t 85), none⟩,
    ⟨none, .mest (.t 67) (.t 86) (.t 82), none⟩,
    ⟨some 87, .ment .s (.int .i64 (0)) (.t 73) (.t 75), none⟩,
    ⟨some 88, .ext 1 (.t 87), none⟩,
    ⟨none, .mest (.t 73) (.t 88) (.t 83), none⟩,
    ⟨some 81, .ld1 (.t 80), none⟩,
    ⟨some 89, .ment .s (.int .i64 (0)) (.t 79) (.t 81), none⟩,
    ⟨some 90, .ext 1 (.t 89), none⟩,
    ⟨none, .mest (.t 79) (.t 90) (.t 84), none⟩]
def A_table_Build_21 : List AOper := [⟨some 64, .mov (.t 8), none⟩,
    ⟨some 65, .nilc (.t 64), none⟩,
    ⟨some 66, .faddr 3 (.t 65), none⟩,
    ⟨some 67, .ld1 (.t 66), none⟩,
    ⟨some 68, .faddr 0 (.t 12), none⟩,
    ⟨some 69, .ld1 (.t 68), none⟩,
    ⟨some 70, .mov (.t 8), none⟩,
    ⟨some 71, .nilc (.t 70), none⟩,
    ⟨some 72, .faddr 4 (.t 71), none⟩,
    ⟨some 73, .ld1 (.t 72), none⟩,
    ⟨some 74, .faddr 1 (.t 12), none⟩,
    ⟨some 76, .mov (.t 8), none⟩,
    ⟨some 77, .nilc (.t 76), none⟩,
    ⟨some 78, .faddr 5 (.t 77), none⟩,
    ⟨some 79, .ld1 (.t 78), none⟩,
    ⟨some 80, .faddr 2 (.t 12), none⟩,
    ⟨some 82, .mov (.t 11), none⟩,
    ⟨some 83, .mov (.t 11), none⟩,
    ⟨some 84, .mov (.t 11), none⟩,
    ⟨some 81, .ld1 (.t 80), none⟩,
    ⟨some 75, .ld1 (.t 74), none⟩,
    ⟨some 85, .ment .i (.int .i64 (0)) (.t 67) (.t 69), none⟩,
    ⟨some 86, .ext 1 (.t 85), none⟩,
    ⟨none, .mest (.t 67) (.t 86) (.t 82), none⟩,
    ⟨some 87, .ment .s (.int .i64 (0)) (.t 73) (.t 75), none⟩,
    ⟨some 88, .ext 1 (.t 87), none⟩,
    ⟨none, .mest (.t 73) (.t 88) (.t 83), none⟩,
    ⟨some 89, .ment .s (.int .i64 (0)) (.t 79) (.t 81), none⟩,
    ⟨some 90, .ext 1 (.t 89), none⟩,
    ⟨none, .mest (.t 79) (.t 90) (.t 84), none⟩]
def A_table_Build_22 : List AOper := [⟨some 64, .mov (.t 8), none⟩,
    ⟨some 65, .nilc (.t 64), none⟩,
    ⟨some 66, .faddr 3 (.t 65), none⟩,
    ⟨some 67, .ld1 (.t 66), none⟩,
    ⟨some 68, .faddr 0 (.t 12), none⟩,
    ⟨some 69, .ld1 (.t 68), none⟩,
    ⟨some 70, .mov (.t 8), none⟩,
    ⟨some 71, .nilc (.t 70), none⟩,
    ⟨some 72, .faddr 4 (.t 71), none⟩,
    ⟨some 73, .ld1 (.t 72), none⟩,
    ⟨some 74, .faddr 1 (.t 12), none⟩,
    ⟨some 76, .mov (.t 8), none⟩,
    ⟨some 77, .nilc (.t 76), none⟩,
    ⟨some 78, .faddr 5 (.t 77), none⟩,
    ⟨some 79, .ld1 (.t 78), none⟩,
    ⟨some 80, .faddr 2 (.t 12), none⟩,
    ⟨some 82, .mov (.t 11), none⟩,
    ⟨some 83, .mov (.t 11), none⟩,
    ⟨some 84, .mov (.t 11), none⟩,
    ⟨some 81, .ld1 (.t 80), none⟩,
    ⟨some 85, .ment .i (.int .i64 (0)) (.t 67) (.t 69), none⟩,
    ⟨some 86, .ext 1 (.t 85), none⟩,
    ⟨some 75, .ld1 (.t 74), none⟩,
    ⟨none, .mest (.t 67) (.t 86) (.t 82), none⟩,
    ⟨some 87, .ment .s (.int .i64 (0)) (.t 73) (.t 75), none⟩,
    ⟨some 88, .ext 1 (.t 87), none⟩,
    ⟨none, .mest (.t 73) (.t 88) (.t 83), none⟩,
    ⟨some 89, .ment .s (.int .i64 (0)) (.t 79) (.t 81), none⟩,
    ⟨some 90, .ext 1 (.t 89), none⟩,
    ⟨none, .mest (.t 79) (.t 90) (.t 84), none⟩]
def A_table_Build_23 : List AOper := [⟨some 64, .mov (.t 8), none⟩,
    ⟨some 65, .nilc (.t 64), none⟩,
    ⟨some 66, .faddr 3 (.t 65), none⟩,
    ⟨some 67, .ld1 (.t 66), none⟩,
    ⟨some 68, .faddr 0 (.t 12), none⟩,
    ⟨some 69, .ld1 (.t 68), none⟩,
    ⟨some 70, .mov (.t 8), none⟩,
    ⟨some 71, .nilc (.t 70), none⟩,
    ⟨some 72, .faddr 4 (.t 71), none⟩,
    ⟨some 73, .ld1 (.t 72), none⟩,
    ⟨some 74, .faddr 1 (.t 12), none⟩,
    ⟨some 76, .mov (.t 8), none⟩,
    ⟨some 77, .nilc (.t 76), none⟩,
    ⟨some 78, .faddr 5 (.t 77), none⟩,
    ⟨some 79, .ld1 (.t 78), none⟩,
    ⟨some 80, .faddr 2 (.t 12), none⟩,
    ⟨some 82, .mov (.t 11), none⟩,
    ⟨some 83, .mov (.t 11), none⟩,
    ⟨some 84, .mov (.t 11), none⟩,
    ⟨some 81, .ld1 (.t 80), none⟩,
    ⟨some 85, .ment .i (.int .i64 (0)) (.t 67) (.t 69), none⟩,
    ⟨some 86, .ext 1 (.t 85), none⟩,
    ⟨none, .mest (.t 67) (.t 86) (.t 82), none⟩,
    ⟨some 75, .ld1 (.t 74), none⟩,
    ⟨some 87, .ment .s (.int .i64 (0)) (.t 73) (.t 75), none⟩,
    ⟨some 88, .ext 1 (.t 87), none⟩,
    ⟨none, .mest (.t 73) (.t 88) (.t 83), none⟩,
    ⟨some 89, .ment .s (.int .i64 (0)) (.t 79) (.t 81), none⟩,
    ⟨some 90, .ext 1 (.t 89), none⟩,
    ⟨none, .mest (.t 79) (.t 90) (.t 84), none⟩]
def A_table_Build_24 : List AOper := [⟨some 64, .mov (.t 8), none⟩,
    ⟨some 65, .nilc (.t 64), none⟩,
    ⟨some 66, .faddr 3 (.t 65), none⟩,
    ⟨some 67, .ld1 (.t 66), none⟩,
    ⟨some 68, .faddr 0 (.t 12), none⟩,
    ⟨some 69, .ld1 (.t 68), none⟩,
    ⟨some 70, .mov (.t 8), none⟩,
    ⟨some 71, .nilc (.t 70), none⟩,
    ⟨some 72, .faddr 4 (.t 71), none⟩,
    ⟨some 73, .ld1 (.t 72), none⟩,
    ⟨some 74, .faddr 1 (.t 12), none⟩,
    ⟨some 76, .mov (.t 8), none⟩,
    ⟨some 77, .nilc (.t 76), none⟩,
    ⟨some 78, .faddr 5 (.t 77), none⟩,
    ⟨some 79, .ld1 (.t 78), none⟩,
    ⟨some 80, .faddr 2 (.t 12), none⟩,
    ⟨some 82, .mov (.t 11), none⟩,
    ⟨some 83, .mov (.t 11), none⟩,
    ⟨some 84, .mov (.t 11), none⟩,
    ⟨some 85, .ment .i (.int .i64 (0)) (.t 67) (.t 69), none⟩,
    ⟨some 86, .ext 1 (.t 85), none⟩,
    ⟨some 75, .ld1 (.t 74), none⟩,
    ⟨some 81, .ld1 (.t 80), none⟩,
    ⟨none, .mest (.t 67) (.t 86) (.t 82), none⟩,
    ⟨some 87, .ment .s (.int .i64 (0)) (.t 73) (.t 75), none⟩,
    ⟨some 88, .ext 1 (.t 87), none⟩,
    ⟨none, .mest (.t 73) (.t 88) (.t 83), none⟩,
    ⟨some 89, .ment .s (.int .i64 (0)) (.t 79) (.t 81), none⟩,
    ⟨some 90, .ext 1 (.t 89), none⟩,
    ⟨none, .mest (.t 79) (.t 90) (.t 84), none⟩]
def A_table_Build_25 : List AOper := [⟨some 64, .mov (.t 8), none⟩,
    ⟨some 65, .nilc (.t 64), none⟩,
    ⟨some 66, .faddr 3 (.t 65), none⟩,
    ⟨some 67, .ld1 (.t 66), none⟩,
    ⟨some 68, .faddr 0 (.t 12), none⟩,
    ⟨some 69, .ld1 (.t 68), none⟩,
    ⟨some 70, .mov (.t 8), none⟩,
    ⟨some 71, .nilc (.t 70), none⟩,
    ⟨some 72, .faddr 4 (.t 71), none⟩,
    ⟨some 73, .ld1 (.t 72), none⟩,
    ⟨some 74, .faddr 1 (.t 12), none⟩,
    ⟨some 76, .mov (.t 8), none⟩,
    ⟨some 77, .nilc (.t 76), none⟩,
    ⟨some 78, .faddr 5 (.t 77), none⟩,
    ⟨some 79, .ld1 (.t 78), none⟩,
    ⟨some 80, .faddr 2 (.t 12), none⟩,
    ⟨some 82, .mov (.t 11), none⟩,
    ⟨some 83, .mov (.t 11), none⟩,
    ⟨some 84, .mov (.t 11), none⟩,
    ⟨some 85, .ment .i (.int .i64 (0)) (.t 67) (.t 69), none⟩,
    ⟨some 86, .ext 1 (.t 85), none⟩,
    ⟨some 75, .ld1 (.t 74), none⟩,
    ⟨none, .mest (.t 67) (.t 86) (.t 82), none⟩,
    ⟨some 81, .ld1 (.t 80), none⟩,
    ⟨some 87, .ment .s (.int .i64 (0)) (.t 73) (.t 75), none⟩,
    ⟨some 88, .ext 1 (.t 87), none⟩,
    ⟨none, .mest (.t 73) (.t 88) (.t 83), none⟩,
    ⟨some 89, .ment .s (.int .i64 (0)) (.t 79) (.t 81), none⟩,
    ⟨some 90, .ext 1 (.t 89), none⟩,
    ⟨none, .mest (.t 79) (.t 90) (.t 84), none⟩]
def A_table_Build_26 : List AOper := [⟨some 64, .mov (.t 8), none⟩,
    ⟨some 65, .nilc (.t 64), none⟩,
    ⟨some 66, .faddr 3 (.t 65), none⟩,
    ⟨some 67, .ld1 (.t 66), none⟩,
    ⟨some 68, .faddr 0 (.t 12), none⟩,
    ⟨some 69, .ld1 (.t 68), none⟩,
    ⟨some 70, .mov (.t 8), none⟩,
    ⟨some 71, .nilc (.t 70), none⟩,
    ⟨some 72, .faddr 4 (.t 71), none⟩,
    ⟨some 73, .ld1 (.t 72), none⟩,
    ⟨some 74, .faddr 1 (.t 12), none⟩,
    ⟨some 76, .mov (.t 8), none⟩,
    ⟨some 77, .nilc (.t 76), none⟩,
    ⟨some 78, .faddr 5 (.t 77), none⟩,
    ⟨some 79, .ld1 (.t 78), none⟩,
    ⟨some 80, .faddr 2 (.t 12), none⟩,
    ⟨some 82, .mov (.t 11), none⟩,
    ⟨some 83, .mov (.t 11), none⟩,
    ⟨some 84, .mov (.t 11), none⟩,
    ⟨some 85, .ment .i (.int .i64 (0)) (.t 67) (.t 69), none⟩,
    ⟨some 86, .ext 1 (.t 85), none⟩,
    ⟨some 75, .ld1 (.t 74), none⟩,
    ⟨none, .mest (.t 67) (.t 86) (.t 82), none⟩,
    ⟨some 87, .ment .s (.int .i64 (0)) (.t 73) (.t 75), none⟩,
    ⟨some 88, .ext 1 (.t 87), none⟩,
    ⟨some 81, .ld1 (.t 80), none⟩,
    ⟨none, .mest (.t 73) (.t 88) (.t 83), none⟩,
    ⟨some 89, .ment .s (.int .i64 (0)) (.t 79) (.t 81), none⟩,
    ⟨some 90, .ext 1 (.t 89), none⟩,
    ⟨none, .mest (.t 79) (.t 90) (.t 84), none⟩]
def A_table_Build_27 : List AOper := [⟨some 64, .mov (.t 8), none⟩,
    ⟨some 65, .nilc (.t 64), none⟩,
    ⟨some 66, .faddr 3 (.t 65), none⟩,
    ⟨some 67, .ld1 (.t 66), none⟩,
    ⟨some 68, .faddr 0 (.t 12), none⟩,
    ⟨some 69, .ld1 (.t 68), none⟩,
    ⟨some 70, .mov (.t 8), none⟩,
    ⟨some 71, .nilc (.t 70), none⟩,
    ⟨some 72, .faddr 4 (.t 71), none⟩,
    ⟨some 73, .ld1 (.t 72), none⟩,
    ⟨some 74, .faddr 1 (.t 12), none⟩,
    ⟨some 76, .mov (.t 8), none⟩,
    ⟨some 77, .nilc (.t 76), none⟩,
    ⟨some 78, .faddr 5 (.t 77), none⟩,
    ⟨some 79, .ld1 (.t 78), none⟩,
    ⟨some 80, .faddr 2 (.t 12), none⟩,
    ⟨some 82, .mov (.t 11), none⟩,
    ⟨some 83, .mov (.t 11), none⟩,
    ⟨some 84, .mov (.t 11), none⟩,
    ⟨some 85, .ment .i (.int .i64 (0)) (.t 67) (.t 69), none⟩,
    ⟨some 86, .ext 1 (.t 85), none⟩,
    ⟨some 75, .ld1 (.t 74), none⟩,
    ⟨none, .mest (.t 67) (.t 86) (.t 82), none⟩,
    ⟨some 87, .ment .s (.int .i64 (0)) (.t 73) (.t 75), none⟩,
    ⟨some 88, .ext 1 (.t 87), none⟩,
    ⟨none, .mest (.t 73) (.t 88) (.t 83), none⟩,
    ⟨some 81, .ld1 (.t 80), none⟩,
    ⟨some 89, .ment .s (.int .i64 (0)) (.t 79) (.t 81), none⟩,
    ⟨some 90, .ext 1 (.t 89), none⟩,
    ⟨none, .mest (.t 79) (.t 90) (.t 84), none⟩]
def A_table_Build_28 : List AOper := [⟨some 64, .mov (.t 8), none⟩,
    ⟨some 65, .nilc (.t 64), none⟩,
    ⟨some 66, .faddr 3 (.t 65), none⟩,
    ⟨some 67, .ld1 (.t 66), none⟩,
    ⟨some 68, .faddr 0 (.t 12), none⟩,
    ⟨some 69, .ld1 (.t 68), none⟩,
    ⟨some 70, .mov (.t 8), none⟩,
    ⟨some 71, .nilc (.t 70), none⟩,
    ⟨some 72, .faddr 4 (.t 71), none⟩,
    ⟨some 73, .ld1 (.t 72), none⟩,
    ⟨some 74, .faddr 1 (.t 12), none⟩,
    ⟨some 76, .mov (.t 8), none⟩,
    ⟨some 77, .nilc (.t 76), none⟩,
    ⟨some 78, .faddr 5 (.t 77), none⟩,
    ⟨some 79, .ld1 (.t 78), none⟩,
    ⟨some 80, .faddr 2 (.t 12), none⟩,
    ⟨some 82, .mov (.t 11), none⟩,
    ⟨some 83, .mov (.t 11), none⟩,
    ⟨some 84, .mov (.t 11), none⟩,
    ⟨some 85, .ment .i (.int .i64 (0)) (.t 67) (.t 69), none⟩,
    ⟨some 86, .ext 1 (.t 85), none⟩,
    ⟨some 81, .ld1 (.t 80), none⟩,
    ⟨some 75, .ld1 (.t 74), none⟩,
    ⟨none, .mest (.t 67) (.t 86) (.t 82), none⟩,
    ⟨some 87, .ment .s (.int .i64 (0)) (.t 73) (.t 75), none⟩,
    ⟨some 88, .ext 1 (.t 87), none⟩,
    ⟨none, .mest (.t 73) (.t 88) (.t 83), none⟩,
    ⟨some 89, .ment .s (.int .i64 (0)) (.t 79) (.t 81), none⟩,
    ⟨some 90, .ext 1 (.t 89), none⟩,
    ⟨none, .mest (.t 79) (.t 90) (.t 84), none⟩]
def A_table_Build_29 : List AOper := [⟨some 64, .mov (.t 8), none⟩,
    ⟨some 65, .nilc (.t 64), none⟩,
    ⟨some 66, .faddr 3 (.t 65), none⟩,
    ⟨some 67, .ld1 (.t 66), none⟩,
    ⟨some 68, .faddr 0 (.t 12), none⟩,
    ⟨some 69, .ld1 (.t 68), none⟩,
    ⟨some 70, .mov (.t 8), none⟩,
    ⟨some 71, .nilc (.t 70), none⟩,
    ⟨some 72, .faddr 4 (.t 71), none⟩,
    ⟨some 73, .ld1 (.t 72), none⟩,
    ⟨some 74, .faddr 1 (.t 12), none⟩,
    ⟨some 76, .mov (.t 8), none⟩,
    ⟨some 77, .nilc (.t 76), none⟩,
    ⟨some 78, .faddr 5 (.t 77), none⟩,
    ⟨some 79, .ld1 (.t 78), none⟩,
    ⟨some 80, .faddr 2 (.t 12), none⟩,
    ⟨some 82, .mov (.t 11), none⟩,
    ⟨some 83, .mov (.t 11), none⟩,
    ⟨some 84, .mov (.t 11), none⟩,
    ⟨some 85, .ment .i (.int .i64 (0)) (.t 67) (.t 69), none⟩,
    ⟨some 86, .ext 1 (.t 85), none⟩,
    ⟨some 81, .ld1 (.t 80), none⟩,
    ⟨none, .mest (.t 67) (.t 86) (.t 82), none⟩,
    ⟨some 75, .ld1 (.t 74), none⟩,
    ⟨some 87, .ment .s (.int .i64 (0)) (.t 73) (.t 75), none⟩,
    ⟨some 88, .ext 1 (.t 87), none⟩,
    ⟨none, .mest (.t 73) (.t 88) (.t 83), none⟩,
    ⟨some 89, .ment .s (.int .i64 (0)) (.t 79) (.t 81), none⟩,
    ⟨some 90, .ext 1 (.t 89), none⟩,
    ⟨none, .mest (.t 79) (.t 90) (.t 84), none⟩]
def A_table_Build_30 : List AOper := [⟨some 64, .mov (.t 8), none⟩,
    ⟨some 65, .nilc (.t 64), none⟩,
    ⟨some 66, .faddr 3 (.t 65), none⟩,
    ⟨some 67, .ld1 (.t 66), none⟩,
    ⟨some 68, .faddr 0 (.t 12), none⟩,
    ⟨some 69, .ld1 (.t 68), none⟩,
    ⟨some 70, .mov (.t 8), none⟩,
    ⟨some 71, .nilc (.t 70), none⟩,
    ⟨some 72, .faddr 4 (.t 71), none⟩,
    ⟨some 73, .ld1 (.t 72), none⟩,
    ⟨some 74, .faddr 1 (.t 12), none⟩,
    ⟨some 76, .mov (.t 8), none⟩,
    ⟨some 77, .nilc (.t 76), none⟩,
    ⟨some 78, .faddr 5 (.t 77), none⟩,
    ⟨some 79, .ld1 (.t 78), none⟩,
    ⟨some 80, .faddr 2 (.t 12), none⟩,
    ⟨some 82, .mov (.t 11), none⟩,
    ⟨some 83, .mov (.t 11), none⟩,
    ⟨some 84, .mov (.t 11), none⟩,
    ⟨some 85, .ment .i (.int .i64 (0)) (.t 67) (.t 69), none⟩,
    ⟨some 86, .ext 1 (.t 85), none⟩,
    ⟨none, .mest (.t 67) (.t 86) (.t 82), none⟩,
    ⟨some 75, .ld1 (.t 74), none⟩,
    ⟨some 81, .ld1 (.t 80), none⟩,
    ⟨some 87, .ment .s (.int .i64 (0)) (.t 73) (.t 75), none⟩,
    ⟨some 88, .ext 1 (.t 87), none⟩,
    ⟨none, .mest (.t 73) (.t 88) (.t 83), none⟩,
    ⟨some 89, .ment .s (.int .i64 (0)) (.t 79) (.t 81), none⟩,
    ⟨some 90, .ext 1 (.t 89), none⟩,
    ⟨none, .mest (.t 79) (.t 90) (.t 84), none⟩]
def A_table_Build_31 : List AOper := [⟨some 64, .mov (.t 8), none⟩,
    ⟨some 65, .nilc (.t 64), none⟩,
    ⟨some 66, .faddr 3 (.t 65), none⟩,
    ⟨some 67, .ld1 (.t 66), none⟩,
    ⟨some 68, .faddr 0 (.t 12), none⟩,
    ⟨some 69, .ld1 (.t 68), none⟩,
    ⟨some 70, .mov (.t 8), none⟩,
    ⟨some 71, .nilc (.t 70), none⟩,
    ⟨some 72, .faddr 4 (.t 71), none⟩,
    ⟨some 73, .ld1 (.t 72), none⟩,
    ⟨some 74, .faddr 1 (.t 12), none⟩,
    ⟨some 76, .mov (.t 8), none⟩,
    ⟨some 77, .nilc (.t 76), none⟩,
    ⟨some 78, .faddr 5 (.t 77), none⟩,
    ⟨some 79, .ld1 (.t 78), none⟩,
    ⟨some 80, .faddr 2 (.t 12), none⟩,
    ⟨some 82, .mov (.t 11), none⟩,
    ⟨some 83, .mov (.t 11), none⟩,
    ⟨some 84, .mov (.t 11), none⟩,
    ⟨some 85, .ment .i (.int .i64 (0)) (.t 67) (.t 69), none⟩,
    ⟨some 86, .ext 1 (.t 85), none⟩,
    ⟨none, .mest (.t 67) (.t 86) (.t 82), none⟩,
    ⟨some 75, .ld1 (.t 74), none⟩,
    ⟨some 87, .ment .s (.int .i64 (0)) (.t 73) (.t 75), none⟩,
    ⟨some 88, .ext 1 (.t 87), none⟩,
    ⟨some 81, .ld1 (.t 80), none⟩,
    ⟨none, .mest (.t 73) (.t 88) (.t 83), none⟩,
    ⟨some 89, .ment .s (.int .i64 (0)) (.t 79) (.t 81), none⟩,
    ⟨some 90, .ext 1 (.t 89), none⟩,
    ⟨none, .mest (.t 79) (.t 90) (.t 84), none⟩]
def A_table_Build_32 : List AOper := [⟨some 64, .mov (.t 8), none⟩,
    ⟨some 65, .nilc (.t 64), none⟩,
    ⟨some 66, .faddr 3 (.t 65), none⟩,
    ⟨some 67, .ld1 (.t 66), none⟩,
    ⟨some 68, .faddr 0 (.t 12), none⟩,
    ⟨some 69, .ld1 (.t 68), none⟩,
    ⟨some 70, .mov (.t 8), none⟩,
    ⟨some 71, .nilc (.t 70), none⟩,
    ⟨some 72, .faddr 4 (.t 71), none⟩,
    ⟨some 73, .ld1 (.t 72), none⟩,
    ⟨some 74, .faddr 1 (.t 12), none⟩,
    ⟨some 76, .mov (.t 8), none⟩,
    ⟨some 77, .nilc (.t 76), none⟩,
    ⟨some 78, .faddr 5 (.t 77), none⟩,
    ⟨some 79, .ld1 (.t 78), none⟩,
    ⟨some 80, .faddr 2 (.t 12), none⟩,
    ⟨some 82, .mov (.t 11), none⟩,
    ⟨some 83, .mov (.t 11), none⟩,
    ⟨some 84, .mov (.t 11), none⟩,
    ⟨some 85, .ment .i (.int .i64 (0)) (.t 67) (.t 69), none⟩,
    ⟨some 86, .ext 1 (.t 85), none⟩,
    ⟨none, .mest (.t 67) (.t 86) (.t 82), none⟩,
    ⟨some 75, .ld1 (.t 74), none⟩,
    ⟨some 87, .ment .s (.int .i64 (0)) (.t 73) (.t 75), none⟩,
    ⟨some 88, .ext 1 (.t 87), none⟩,
    ⟨none, .mest (.t 73) (.t 88) (.t 83), none⟩,
    ⟨some 81, .ld1 (.t 80), none⟩,
    ⟨some 89, .ment .s (.int .i64 (0)) (.t 79) (.t 81), none⟩,
    ⟨some 90, .ext 1 (.t 89), none⟩,
    ⟨none, .mest (.t 79) (.t 90) (.t 84), none⟩]
def A_table_Build_33 : List AOper := [⟨some 64, .mov (.t 8), none⟩,
    ⟨some 65, .nilc (.t 64), none⟩,
    ⟨some 66, .faddr 3 (.t 65), none⟩,
    ⟨some 67, .ld1 (.t 66), none⟩,
    ⟨some 68, .faddr 0 (.t 12), none⟩,
    ⟨some 69, .ld1 (.t 68), none⟩,
    ⟨some 70, .mov (.t 8), none⟩,
    ⟨some 71, .nilc (.t 70), none⟩,
    ⟨some 72, .faddr 4 (.t 71), none⟩,
    ⟨some 73, .ld1 (.t 72), none⟩,
    ⟨some 74, .faddr 1 (.t 12), none⟩,
    ⟨some 76, .mov (.t 8), none⟩,
    ⟨some 77, .nilc (.t 76), none⟩,
    ⟨some 78, .faddr 5 (.t 77), none⟩,
    ⟨some 79, .ld1 (.t 78), none⟩,
    ⟨some 80, .faddr 2 (.t 12), none⟩,
    ⟨some 82, .mov (.t 11), none⟩,
    ⟨some 83, .mov (.t 11), none⟩,
    ⟨some 84, .mov (.t 11), none⟩,
    ⟨some 75, .ld1 (.t 74), none⟩,
    ⟨some 81, .ld1 (.t 80), none⟩,
    ⟨some 85, .ment .i (.int .i64 (0)) (.t 67) (.t 69), none⟩,
    ⟨some 86, .ext 1 (.t 85), none⟩,
    ⟨none, .mest (.t 67) (.t 86) (.t 82), none⟩,
    ⟨some 87, .ment .s (.int .i64 (0)) (.t 73) (.t 75), none⟩,
    ⟨some 88, .ext 1 (.t 87), none⟩,
    ⟨none, .mest (.t 73) (.t 88) (.t 83), none⟩,
    ⟨some 89, .ment .s (.int .i64 (0)) (.t 79) (.t 81), none⟩,
    ⟨some 90, .ext 1 (.t 89), none⟩,
    ⟨none, .mest (.t 79) (.t 90) (.t 84), none⟩]
def A_table_Build_34 : List AOper := [⟨some 64, .mov (.t 8), none⟩,
    ⟨some 65, .nilc (.t 64), none⟩,
    ⟨some 66, .faddr 3 (.t 65), none⟩,
    ⟨some 67, .ld1 (.t 66), none⟩,
    ⟨some 68, .faddr 0 (.t 12), none⟩,
    ⟨some 69, .ld1 (.t 68), none⟩,
    ⟨some 70, .mov (.t 8), none⟩,
    ⟨some 71, .nilc (.t 70), none⟩,
    ⟨some 72, .faddr 4 (.t 71), none⟩,
    ⟨some 73, .ld1 (.t 72), none⟩,
    ⟨some 74, .faddr 1 (.t 12), none⟩,
    ⟨some 76, .mov (.t 8), none⟩,
    ⟨some 77, .nilc (.t 76), none⟩,
    ⟨some 78, .faddr 5 (.t 77), none⟩,
    ⟨some 79, .ld1 (.t 78), none⟩,
    ⟨some 80, .faddr 2 (.t 12), none⟩,
    ⟨some 82, .mov (.t 11), none⟩,
    ⟨some 83, .mov (.t 11), none⟩,
    ⟨some 84, .mov (.t 11), none⟩,
    ⟨some 75, .ld1 (.t 74), none⟩,
    ⟨some 85, .ment .i (.int .i64 (0)) (.t 67) (.t 69), none⟩,
    ⟨some 86, .ext 1 (.t 85), none⟩,
    ⟨some 81, .ld1 (.t 80), none⟩,
    ⟨none, .mest (.t 67) (.t 86) (.t 82), none⟩,
    ⟨some 87, .ment .s (.int .i64 (0)) (.t 73) (.t 75), none⟩,
    ⟨some 88, .ext 1 (.t 87), none⟩,
    ⟨none, .mest (.t 73) (.t 88) (.t 83), none⟩,
    ⟨some 89, .ment .s (.int .i64 (0)) (.t 79) (.t 81), none⟩,
    ⟨some 90, .ext 1 (.t 89), none⟩,
    ⟨none, .mest (.t 79) (.t 90) (.t 84), none⟩]
def A_table_Build_35 : List AOper := [⟨some 64, .mov (.t 8), none⟩,
    ⟨some 65, .nilc (.t 64), none⟩,
    ⟨some 66, .faddr 3 (.t 65), none⟩,
    ⟨some 67, .ld1 (.t 66), none⟩,
    ⟨some 68, .faddr 0 (.t 12), none⟩,
    ⟨some 69, .ld1 (.t 68), none⟩,
    ⟨some 70, .mov (.t 8), none⟩,
    ⟨some 71, .nilc (.t 70), none⟩,
    ⟨some 72, .faddr 4 (.t 71), none⟩,
    ⟨some 73, .ld1 (.t 72), none⟩,
    ⟨some 74, .faddr 1 (.t 12), none⟩,
    ⟨some 76, .mov (.t 8), none⟩,
    ⟨some 77, .nilc (.t 76), none⟩,
    ⟨some 78, .faddr 5 (.t 77), none⟩,
    ⟨some 79, .ld1 (.t 78), none⟩,
    ⟨some 80, .faddr 2 (.t 12), none⟩,
    ⟨some 82, .mov (.t 11), none⟩,
    ⟨some 83, .mov (.t 11), none⟩,
    ⟨some 84, .mov (.t 11), none⟩,
    ⟨some 75, .ld1 (.t 74), none⟩,
    ⟨some 85, .ment .i (.int .i64 (0)) (.t 67) (.t 69), none⟩,
    ⟨some 86, .ext 1 (.t 85), none⟩,
    ⟨none, .mest (.t 67) (.t 86) (.t 82), none⟩,
    ⟨some 81, .ld1 (.t 80), none⟩,
    ⟨some 87, .ment .s (.int .i64 (0)) (.t 73) (.t 75), none⟩,
    ⟨some 88, .ext 1 (.t 87), none⟩,
    ⟨none, .mest (.t 73) (.t 88) (.t 83), none⟩,
    ⟨some 89, .ment .s (.int .i64 (0)) (.t 79) (.t 81), none⟩,
    ⟨some 90, .ext 1 (.t 89), none⟩,
    ⟨none, .mest (.t 79) (.t 90) (.t 84), none⟩]
def A_table_Build_36 : List AOper := [⟨some 64, .mov (.t 8), none⟩,
    ⟨some 65, .nilc (.t 64), none⟩,
    ⟨some 66, .faddr 3 (.t 65), none⟩,
    ⟨some 67, .ld1 (.t 66), none⟩,
    ⟨some 68, .faddr 0 (.t 12), none⟩,
    ⟨some 69, .ld1 (.t 68), none⟩,
    ⟨some 70, .mov (.t 8), none⟩,
    ⟨some 71, .nilc (.t 70), none⟩,
    ⟨some 72, .faddr 4 (.t 71), none⟩,
    ⟨some 73, .ld1 (.t 72), none⟩,
    ⟨some 74, .faddr 1 (.t 12), none⟩,
    ⟨some 76, .mov (.t 8), none⟩,
    ⟨some 77, .nilc (.t 76), none⟩,
    ⟨some 78, .faddr 5 (.t 77), none⟩,
    ⟨some 79, .ld1 (.t 78), none⟩,
    ⟨some 80, .faddr 2 (.t 12), none⟩,
    ⟨some 82, .mov (.t 11), none⟩,
    ⟨some 83, .mov (.t 11), none⟩,
    ⟨some 84, .mov (.t 11), none⟩,
    ⟨some 75, .ld1 (.t 74), none⟩,
    ⟨some 85, .ment .i (.int .i64 (0)) (.t 67) (.t 69), none⟩,
    ⟨some 86, .ext 1 (.t 85), none⟩,
    ⟨none, .mest (.t 67) (.t 86) (.t 82), none⟩,
    ⟨some 87, .ment .s (.int .i64 (0)) (.t 73) (.t 75), none⟩,
    ⟨some 88, .ext 1 (.t 87), none⟩,
    ⟨some 81, .ld1 (.t 80), none⟩,
    ⟨none, .mest (.t 73) (.t 88) (.t 83), none⟩,
    ⟨some 89, .ment .s (.int .i64 (0)) (.t 79) (.t 81), none⟩,
    ⟨some 90, .ext 1 (.t 89), none⟩,
    ⟨none, .mest (.t 79) (.t 90) (.t 84), none⟩]
def A_table_Build_37 : List AOper := [⟨some 64, .mov (.t 8), none⟩,
    ⟨some 65, .nilc (.t 64), none⟩,
    ⟨some 66, .faddr 3 (.t 65), none⟩,
    ⟨some 67, .ld1 (.t 66), none⟩,
    ⟨some 68, .faddr 0 (.t 12), none⟩,
    ⟨some 69, .ld1 (.t 68), none⟩,
    ⟨some 70, .mov (.t 8), none⟩,
    ⟨some 71, .nilc (.t 70), none⟩,
    ⟨some 72, .faddr 4 (.t 71), none⟩,
    ⟨some 73, .ld1 (.t 72), none⟩,
    ⟨some 74, .faddr 1 (.t 12), none⟩,
    ⟨some 76, .mov (.t 8), none⟩,
    ⟨some 77, .nilc (.t 76), none⟩,
    ⟨some 78, .faddr 5 (.t 77), none⟩,
    ⟨some 79, .ld1 (.t 78), none⟩,
    ⟨some 80, .faddr 2 (.t 12), none⟩,
    ⟨some 82, .mov (.t 11), none⟩,
    ⟨some 83, .mov (.t 11), none⟩,
    ⟨some 84, .mov (.t 11), none⟩,
    ⟨some 75, .ld1 (.t 74), none⟩,
    ⟨some 85, .ment .i (.int .i64 (0)) (.t 67) (.t 69), none⟩,
    ⟨some 86, .ext 1 (.t 85), none⟩,
    ⟨none, .mest (.t 67) (.t 86) (.t 82), none⟩,
    ⟨some 87, .ment .s (.int .i64 (0)) (.t 73) (.t 75), none⟩,
    ⟨some 88, .ext 1 (.t 87), none⟩,
    ⟨none, .mest (.t 73) (.t 88) (.t 83), none⟩,
    ⟨some 81, .ld1 (.t 80), none⟩,
    ⟨some 89, .ment .s (.int .i64 (0)) (.t 79) (.t 81), none⟩,
    ⟨some 90, .ext 1 (.t 89), none⟩,
    ⟨none, .mest (.t 79) (.t 90) (.t 84), none⟩]
def A_table_Build_38 : List AOper := [⟨some 64, .mov (.t 8), none⟩,
    ⟨some 65, .nilc (.t 64), none⟩,
    ⟨some 66, .faddr 3 (.t 65), none⟩,
    ⟨some 67, .ld1 (.t 66), none⟩,
    ⟨some 68, .faddr 0 (.t 12), none⟩,
    ⟨some 69, .ld1 (.t 68), none⟩,
    ⟨some 70, .mov (.t 8), none⟩,
    ⟨some 71, .nilc (.t 70), none⟩,
    ⟨some 72, .faddr 4 (.t 71), none⟩,
    ⟨some 73, .ld1 (.t 72), none⟩,
    ⟨some 74, .faddr 1 (.t 12), none⟩,
    ⟨some 76, .mov (.t 8), none⟩,
    ⟨some 77, .nilc (.t 76), none⟩,
    ⟨some 78, .faddr 5 (.t 77), none⟩,
    ⟨some 79, .ld1 (.t 78), none⟩,
    ⟨some 80, .faddr 2 (.t 12), none⟩,
    ⟨some 82, .mov (.t 11), none⟩,
    ⟨some 83, .mov (.t 11), none⟩,
    ⟨some 84, .mov (.t 11), none⟩,
    ⟨some 81, .ld1 (.t 80), none⟩,
    ⟨some 75, .ld1 (.t 74), none⟩,
    ⟨some 85, .ment .i (.int .i64 (0)) (.t 67) (.t 69), none⟩,
    ⟨some 86, .ext 1 (.t 85), none⟩,
    ⟨none, .mest (.t 67) (.t 86) (.t 82), none⟩,
    ⟨some 87, .ment .s (.int .i64 (0)) (.t 73) (.t 75), none⟩,
    ⟨some 88, .ext 1 (.t 87), none⟩,
    ⟨none, .mest (.t 73) (.t 88) (.t 83), none⟩,
    ⟨some 89, .ment .s (.int .i64 (0)) (.t 79) (.t 81), none⟩,
    ⟨some 90, .ext 1 (.t 89), none⟩,
    ⟨none, .mest (.t 79) (.t 90) (.t 84), none⟩]
def A_table_Build_39 : List AOper := [⟨some 64, .mov (.t 8), none⟩,
    ⟨some 65, .nilc (.t 64), none⟩,
    ⟨some 66, .faddr 3 (.t 65), none⟩,
    ⟨some 67, .ld1 (.t 66), none⟩,
    ⟨some 68, .faddr 0 (.t 12), none⟩,
    ⟨some 69, .ld1 (.t 68), none⟩,
    ⟨some 70, .mov (.t 8), none⟩,
    ⟨some 71, .nilc (.t 70), none⟩,
    ⟨some 72, .faddr 4 (.t 71), none⟩,
    ⟨some 73, .ld1 (.t 72), none⟩,
    ⟨some 74, .faddr 1 (.t 12), none⟩,
    ⟨some 76, .mov (.t 8), none⟩,
    ⟨some 77, .nilc (.t 76), none⟩,
    ⟨some 78, .faddr 5 (.t 77), none⟩,
    ⟨some 79, .ld1 (.t 78), none⟩,
    ⟨some 80, .faddr 2 (.t 12), none⟩,
    ⟨some 82, .mov (.t 11), none⟩,
    ⟨some 83, .mov (.t 11), none⟩,
    ⟨some 84, .mov (.t 11), none⟩,
    ⟨some 81, .ld1 (.t 80), none⟩,
    ⟨some 85, .ment .i (.int .i64 (0)) (.t 67) (.t 69), none⟩,
    ⟨some 86, .ext 1 (.t 85), none⟩,
    ⟨some 75, .ld1 (.t 74), none⟩,
    ⟨none, .mest (.t 67) (.t 86) (.t 82), none⟩,
    ⟨some 87, .ment .s (.int .i64 (0)) (.t 73) (.t 75), none⟩,
    ⟨some 88, .ext 1 (.t 87), none⟩,
    ⟨none, .mest (.t 73) (.t 88) (.t 83), none⟩,
    ⟨some 89, .ment .s (.int .i64 (0)) (.t 79) (.t 81), none⟩,
    ⟨some 90, .ext 1 (.t 89), none⟩,
    ⟨none, .mest (.t 79) (.t 90) (.t 84), none⟩]
def A_table_Build_40 : List AOper := [⟨some 64, .mov (.t 8), none⟩,
    ⟨some 65, .nilc (.t 64), none⟩,
    ⟨some 66, .faddr 3 (.t 65), none⟩,
    ⟨some 67, .ld1 (.t 66), none⟩,
    ⟨some 68, .faddr 0 (.t 12), none⟩,
    ⟨some 69, .ld1 (.t 68), none⟩,
    ⟨some 70, .mov (.t 8), none⟩,
    ⟨some 71, .nilc (.t 70), none⟩,
    ⟨some 72, .faddr 4 (.t 71), none⟩,
    ⟨some 73, .ld1 (.t 72), none⟩,
    ⟨some 74, .faddr 1 (.t 12), none⟩,
    ⟨some 76, .mov (.t 8), none⟩,
    ⟨some 77, .nilc (.t 76), none⟩,
    ⟨some 78, .faddr 5 (.t 77), none⟩,
    ⟨some 79, .ld1 (.t 78), none⟩,
    ⟨some 80, .faddr 2 (.t 12), none⟩,
    ⟨some 82, .mov (.t 11), none⟩,
    ⟨some 83, .mov (.t 11), none⟩,
    ⟨some 84, .mov (.t 11), none⟩,
    ⟨some 81, .ld1 (.t 80), none⟩,
    ⟨some 85, .ment .i (.int .i64 (0)) (.t 67) (.t 69), none⟩,
    ⟨some 86, .ext 1 (.t 85), none⟩,
    ⟨none, .mest (.t 67) (.t 86) (.t 82), none⟩,
    ⟨some 75, .ld1 (.t 74), none⟩,
    ⟨some 87, .ment .s (.int .i64 (0)) (.t 73) (.t 75), none⟩,
    ⟨some 88, .ext 1 (.t 87), none⟩,
    ⟨none, .mest (.t 73) (.t 88) (.t 83), none⟩,
    ⟨some 89, .ment .s (.int .i64 (0)) (.t 79) (.t 81), none⟩,
    ⟨some 90, .ext 1 (.t 89), none⟩,
    ⟨none, .mest (.t 79) (.t 90) (.t 84), none⟩]
def A_table_Build_41 : List AOper := [⟨some 64, .mov (.t 8), none⟩,
    ⟨some 65, .nilc (.t 64), none⟩,
    ⟨some 66, .faddr 3 (.t 65), none⟩,
    ⟨some 67, .ld1 (.t 66), none⟩,
    ⟨some 68, .faddr 0 (.t 12), none⟩,
    ⟨some 69, .ld1 (.t 68), none⟩,
    ⟨some 70, .mov (.t 8), none⟩,
    ⟨some 71, .nilc (.t 70), none⟩,
    ⟨some 72, .faddr 4 (.t 71), none⟩,
    ⟨some 73, .ld1 (.t 72), none⟩,
    ⟨some 74, .faddr 1 (.t 12), none⟩,
    ⟨some 76, .mov (.t 8), none⟩,
    ⟨some 77, .nilc (.t 76), none⟩,
    ⟨some 78, .faddr 5 (.t 77), none⟩,
    ⟨some 79, .ld1 (.t 78), none⟩,
    ⟨some 80, .faddr 2 (.t 12), none⟩,
    ⟨some 82, .mov (.t 11), none⟩,
    ⟨some 83, .mov (.t 11), none⟩,
    ⟨some 84, .mov (.t 11), none⟩,
    ⟨some 85, .ment .i (.int .i64 (0)) (.t 67) (.t 69), none⟩,
    ⟨some 86, .ext 1 (.t 85), none⟩,
    ⟨some 75, .ld1 (.t 74), none⟩,
    ⟨some 81, .ld1 (.t 80), none⟩,
    ⟨none, .mest (.t 67) (.t 86) (.t 82), none⟩,
    ⟨some 87, .ment .s (.int .i64 (0)) (.t 73) (.t 75), none⟩,
    ⟨some 88, .ext 1 (.t 87), none⟩,
    ⟨none, .mest (.t 73) (.t 88) (.t 83), none⟩,
    ⟨some 89, .ment .s (.int .i64 (0)) (.t 79) (.t 81), none⟩,
    ⟨some 90, .ext 1 (.t 89), none⟩,
    ⟨none, .mest (.t 79) (.t 90) (.t 84), none⟩]
def A_table_Build_42 : List AOper := [⟨some 64, .mov (.t 8), none⟩,
    ⟨some 65, .nilc (.t 64), none⟩,
    ⟨some 66, .faddr 3 (.t 65), none⟩,
    ⟨some 67, .ld1 (.t 66), none⟩,
    ⟨some 68, .faddr 0 (.t 12), none⟩,
    ⟨some 69, .ld1 (.t 68), none⟩,
    ⟨some 70, .mov (.t 8), none⟩,
    ⟨some 71, .nilc (.t 70), none⟩,
    ⟨some 72, .faddr 4 (.t 71), none⟩,
    ⟨some 73, .ld1 (.t 72), none⟩,
    ⟨some 74, .faddr 1 (.t 12), none⟩,
    ⟨some 76, .mov (.t 8), none⟩,
    ⟨some 77, .nilc (.t 76), none⟩,
    ⟨some 78, .faddr 5 (.t 77), none⟩,
    ⟨some 79, .ld1 (.t 78), none⟩,
    ⟨some 80, .faddr 2 (.t 12), none⟩,
    ⟨some 82, .mov (.t 11), none⟩,
    ⟨some 83, .mov (.t 11), none⟩,
    ⟨some 84, .mov (.t 11), none⟩,
    ⟨some 85, .ment .i (.int .i64 (0)) (.t 67) (.t 69), none⟩,
    ⟨some 86, .ext 1 (.t 85), none⟩,
    ⟨some 75, .ld1 (.t 74), none⟩,
    ⟨none, .mest (.t 67) (.t 86) (.t 82), none⟩,
    ⟨some 81, .ld1 (.t 80), none⟩,
    ⟨some 87, .ment .s (.int .i64 (0)) (.t 73) (.t 75), none⟩,
    ⟨some 88, .ext 1 (.t 87), none⟩,
    ⟨none, .mest (.t 73) (.t 88) (.t 83), none⟩,
    ⟨some 89, .ment .s (.int .i64 (0)) (.t 79) (.t 81), none⟩,
    ⟨some 90, .ext 1 (.t 89), none⟩,
    ⟨none, .mest (.t 79) (.t 90) (.t 84), none⟩]
def A_table_Build_43 : List AOper := [⟨some 64, .mov (.t 8), none⟩,
    ⟨some 65, .nilc (.t 64), none⟩,
    ⟨some 66, .faddr 3 (.t 65), none⟩,
    ⟨some 67, .ld1 (.t 66), none⟩,
    ⟨some 68, .faddr 0 (.t 12), none⟩,
    ⟨some 69, .ld1 (.t 68), none⟩,
    ⟨some 70, .mov (.t 8), none⟩,
    ⟨some 71, .nilc (.t 70), none⟩,
    ⟨some 72, .faddr 4 (.t 71), none⟩,
    ⟨some 73, .ld1 (.t 72), none⟩,
    ⟨some 74, .faddr 1 (.t 12), none⟩,
    ⟨some 76, .mov (.t 8), none⟩,
    ⟨some 77, .nilc (.t 76), none⟩,
    ⟨some 78, .faddr 5 (.t 77), none⟩,
    ⟨some 79, .ld1 (.t 78), none⟩,
    ⟨some 80, .faddr 2 (.t 12), none⟩,
    ⟨some 82, .mov (.t 11), none⟩,
    ⟨some 83, .mov (.t 11), none⟩,
    ⟨some 84, .mov (.t 11), none⟩,
    ⟨some 85, .ment .i (.int .i64 (0)) (.t 67) (.t 69), none⟩,
    ⟨some 86, .ext 1 (.t 85), none⟩,
    ⟨some 75, .ld1 (.t 74), none⟩,
    ⟨none, .mest (.t 67) (.t 86) (.t 82), none⟩,
    ⟨some 87, .ment .s (.int .i64 (0)) (.t 73) (.t 75), none⟩,
    ⟨some 88, .ext 1 (.t 87), none⟩,
    ⟨some 81, .ld1 (.t 80), none⟩,
    ⟨none, .mest (.t 73) (.t 88) (.t 83), none⟩,
    ⟨some 89, .ment .s (.int .i64 (0)) (.t 79) (.t 81), none⟩,
    ⟨some 90, .ext 1 (.t 89), none⟩,
    ⟨none, .mest (.t 79) (.t 90) (.t 84), none⟩]
def A_table_Build_44 : List AOper := [⟨some 64, .mov (.t 8), none⟩,
    ⟨some 65, .nilc (.t 64), none⟩,
    ⟨some 66, .faddr 3 (.t 65), none⟩,
    ⟨some 67, .ld1 (.t 66), none⟩,
    ⟨some 68, .faddr 0 (.t 12), none⟩,
    ⟨some 69, .ld1 (.t 68), none⟩,
    ⟨some 70, .mov (.t 8), none⟩,
    ⟨some 71, .nilc (.t 70), none⟩,
    ⟨some 72, .faddr 4 (.t 71), none⟩,
    ⟨some 73, .ld1 (.t 72), none⟩,
    ⟨some 74, .faddr 1 (.t 12), none⟩,
    ⟨some 76, .mov (.t 8), none⟩,
    ⟨some 77, .nilc (.t 76), none⟩,
    ⟨some 78, .faddr 5 (.t 77), none⟩,
    ⟨some 79, .ld1 (.t 78), none⟩,
    ⟨some 80, .faddr 2 (.t 12), none⟩,
    ⟨some 82, .mov (.t 11), none⟩,
    ⟨some 83, .mov (.t 11), none⟩,
    ⟨some 84, .mov (.t 11), none⟩,
    ⟨some 85, .ment .i (.int .i64 (0)) (.t 67) (.t 69), none⟩,
    ⟨some 86, .ext 1 (.t 85), none⟩,
    ⟨some 75, .ld1 (.t 74), none⟩,
    ⟨none, .mest (.t 67) (.t 86) (.t 82), none⟩,
    ⟨some 87, .ment .s (.int .i64 (0)) (.t 73) (.t 75), none⟩,
    ⟨some 88, .ext 1 (.t 87), none⟩,
    ⟨none, .mest (.t 73) (.t 88) (.t 83), none⟩,
    ⟨some 81, .ld1 (.t 80), none⟩,
    ⟨some 89, .ment .s (.int .i64 (0)) (.t 79) (.t 81), none⟩,
    ⟨some 90, .ext 1 (.t 89), none⟩,
    ⟨none, .mest (.t 79) (.t 90) (.t 84), none⟩]
def A_table_Build_45 : List AOper := [⟨some 64, .mov (.t 8), none⟩,
    ⟨some 65, .nilc (.t 64), none⟩,
    ⟨some 66, .faddr 3 (.t 65), none⟩,
    ⟨some 67, .ld1 (.t 66), none⟩,
    ⟨some 68, .faddr 0 (.t 12), none⟩,
    ⟨some 69, .ld1 (.t 68), none⟩,
    ⟨some 70, .mov (.t 8), none⟩,
    ⟨some 71, .nilc (.t 70), none⟩,
    ⟨some 72, .faddr 4 (.t 71), none⟩,
    ⟨some 73, .ld1 (.t 72), none⟩,
    ⟨some 74, .faddr 1 (.t 12), none⟩,
    ⟨some 76, .mov (.t 8), none⟩,
    ⟨some 77, .nilc (.t 76), none⟩,
    ⟨some 78, .faddr 5 (.t 77), none⟩,
    ⟨some 79, .ld1 (.t 78), none⟩,
    ⟨some 80, .faddr 2 (.t 12), none⟩,
    ⟨some 82, .mov (.t 11), none⟩,
    ⟨some 83, .mov (.t 11), none⟩,
    ⟨some 84, .mov (.t 11), none⟩,
    ⟨some 85, .ment .i (.int .i64 (0)) (.t 67) (.t 69), none⟩,
    ⟨some 86, .ext 1 (.t 85), none⟩,
    ⟨some 81, .ld1 (.t 80), none⟩,
    ⟨some 75, .ld1 (.t 74), none⟩,
    ⟨none, .mest (.t 67) (.t 86) (.t 82), none⟩,
    ⟨some 87, .ment .s (.int .i64 (0)) (.t 73) (.t 75), none⟩,
    ⟨some 88, .ext 1 (.t 87), none⟩,
    ⟨none, .mest (.t 73) (.t 88) (.t 83), none⟩,
    ⟨some 89, .ment .s (.int .i64 (0)) (.t 79) (.t 81), none⟩,
    ⟨some 90, .ext 1 (.t 89), none⟩,
    ⟨none, .mest (.t 79) (.t 90) (.t 84), none⟩]
def A_table_Build_46 : List AOper := [⟨some 64, .mov (.t 8), none⟩,
    ⟨some 65, .nilc (.t 64), none⟩,
    ⟨some 66, .faddr 3 (.t 65), none⟩,
    ⟨some 67, .ld1 (.t 66), none⟩,
    ⟨some 68, .faddr 0 (.t 12), none⟩,
    ⟨some 69, .ld1 (.t 68), none⟩,
    ⟨some 70, .mov (.t 8), none⟩,
    ⟨some 71, .nilc (.t 70), none⟩,
    ⟨some 72, .faddr 4 (.t 71), none⟩,
    ⟨some 73, .ld1 (.t 72), none⟩,
    ⟨some 74, .faddr 1 (.t 12), none⟩,
    ⟨some 76, .mov (.t 8), none⟩,
    ⟨some 77, .nilc (.t 76), none⟩,
    ⟨some 78, .faddr 5 (.t 77), none⟩,
    ⟨some 79, .ld1 (.t 78), none⟩,
    ⟨some 80, .faddr 2 (.t 12), none⟩,
    ⟨some 82, .mov (.t 11), none⟩,
    ⟨some 83, .mov (.t 11), none⟩,
    ⟨some 84, .mov (.t 11), none⟩,
    ⟨some 85, .ment .i (.int .i64 (0)) (.t 67) (.t 69), none⟩,
    ⟨some 86, .ext 1 (.t 85), none⟩,
    ⟨some 81, .ld1 (.t 80), none⟩,
    ⟨none, .mest (.t 67) (.t 86) (.t 82), none⟩,
    ⟨some 75, .ld1 (.t 74), none⟩,
    ⟨some 87, .ment .s (.int .i64 (0)) (.t 73) (.t 75), none⟩,
    ⟨some 88, .ext 1 (.t 87), none⟩,
    ⟨none, .mest (.t 73) (.t 88) (.t 83), none⟩,
    ⟨some 89, .ment .s (.int .i64 (0)) (.t 79) (.t 81), none⟩,
    ⟨some 90, .ext 1 (.t 89), none⟩,
    ⟨none, .mest (.t 79) (.t 90) (.t 84), none⟩]
def A_table_Build_47 : List AOper := [⟨some 64, .mov (.t 8), none⟩,
    ⟨some 65, .nilc (.t 64), none⟩,
    ⟨some 66, .faddr 3 (.t 65), none⟩,
    ⟨some 67, .ld1 (.t 66), none⟩,
    ⟨some 68, .faddr 0 (.t 12), none⟩,
    ⟨some 69, .ld1 (.t 68), none⟩,
    ⟨some 70, .mov (.t 8), none⟩,
    ⟨some 71, .nilc (.t 70), none⟩,
    ⟨some 72, .faddr 4 (.t 71), none⟩,
    ⟨some 73, .ld1 (.t 72), none⟩,
    ⟨some 74, .faddr 1 (.t 12), none⟩,
    ⟨some 76, .mov (.t 8), none⟩,
    ⟨some 77, .nilc (.t 76), none⟩,
    ⟨some 78, .faddr 5 (.t 77), none⟩,
    ⟨some 79, .ld1 (.t 78), none⟩,
    ⟨some 80, .faddr 2 (.t 12), none⟩,
    ⟨some 82, .mov (.t 11), none⟩,
    ⟨some 83, .mov (.t 11), none⟩,
    ⟨some 84, .mov (.t 11), none⟩,
    ⟨some 85, .ment .i (.int .i64 (0)) (.t 67) (.t 69), none⟩,
    ⟨some 86, .ext 1 (.t 85), none⟩,
    ⟨none, .mest (.t 67) (.t 86) (.t 82), none⟩,
    ⟨some 75, .ld1 (.t 74), none⟩,
    ⟨some 81, .ld1 (.t 80), none⟩,
    ⟨some 87, .ment .s (.int .i64 (0)) (.t 73) (.t 75), none⟩,
    ⟨some 88, .ext 1 (.t 87), none⟩,
    ⟨none, .mest (.t 73) (.t 88) (.t 83), none⟩,
    ⟨some 89, .ment .s (.int .i64 (0)) (.t 79) (.t 81), none⟩,
    ⟨some 90, .ext 1 (.t 89), none⟩,
    ⟨none, .mest (.t 79) (.t 90) (.t 84), none⟩]
def A_table_Build_48 : List AOper := [⟨some 64, .mov (.t 8), none⟩,
    ⟨some 65, .nilc (.t 64), none⟩,
    ⟨some 66, .faddr 3 (.t 65), none⟩,
    ⟨some 67, .ld1 (.t 66), none⟩,
    ⟨some 68, .faddr 0 (.t 12), none⟩,
    ⟨some 69, .ld1 (.t 68), none⟩,
    ⟨some 70, .mov (.t 8), none⟩,
    ⟨some 71, .nilc (.t 70), none⟩,
    ⟨some 72, .faddr 4 (.t 71), none⟩,
    ⟨some 73, .ld1 (.t 72), none⟩,
    ⟨some 74, .faddr 1 (.t 12), none⟩,
    ⟨some 76, .mov (.t 8), none⟩,
    ⟨some 77, .nilc (.t 76), none⟩,
    ⟨some 78, .faddr 5 (.t 77), none⟩,
    ⟨some 79, .ld1 (.t 78), none⟩,
    ⟨some 80, .faddr 2 (.t 12), none⟩,
    ⟨some 82, .mov (.t 11), none⟩,
    ⟨some 83, .mov (.t 11), none⟩,
    ⟨some 84, .mov (.t 11), none⟩,
    ⟨some 85, .ment .i (.int .i64 (0)) (.t 67) (.t 69), none⟩,
    ⟨some 86, .ext 1 (.t 85), none⟩,
    ⟨none, .mest (.t 67) (.t 86) (.t 82), none⟩,
    ⟨some 75, .ld1 (.t 74), none⟩,
    ⟨some 87, .ment .s (.int .i64 (0)) (.t 73) (.t 75), none⟩,
    ⟨some 88, .ext 1 (.t 87), none⟩,
    ⟨some 81, .ld1 (.t 80), none⟩,
    ⟨none, .mest (.t 73) (.t 88) (.t 83), none⟩,
    ⟨some 89, .ment .s (.int .i64 (0)) (.t 79) (.t 81), none⟩,
    ⟨some 90, .ext 1 (.t 89), none⟩,
    ⟨none, .mest (.t 79) (.t 90) (.t 84), none⟩]
def A_table_Build_49 : List AOper := [⟨some 64, .mov (.t 8), none⟩,
    ⟨some 65, .nilc (.t 64), none⟩,
    ⟨some 66, .faddr 3 (.t 65), none⟩,
    ⟨some 67, .ld1 (.t 66), none⟩,
    ⟨some 68, .faddr 0 (.t 12), none⟩,
    ⟨some 69, .ld1 (.t 68), none⟩,
    ⟨some 70, .mov (.t 8), none⟩,
    ⟨some 71, .nilc (.t 70), none⟩,
    ⟨some 72, .faddr 4 (.t 71), none⟩,
    ⟨some 73, .ld1 (.t 72), none⟩,
    ⟨some 74, .faddr 1 (.t 12), none⟩,
    ⟨some 76, .mov (.t 8), none⟩,
    ⟨some 77, .nilc (.t 76), none⟩,
    ⟨some 78, .faddr 5 (.t 77), none⟩,
    ⟨some 79, .ld1 (.t 78), none⟩,
    ⟨some 80, .faddr 2 (.t 12), none⟩,
    ⟨some 82, .mov (.t 11), none⟩,
    ⟨some 83, .mov (.t 11), none⟩,
    ⟨some 84, .mov (.t 11), none⟩,
    ⟨some 85, .ment .i (.int .i64 (0)) (.t 67) (.t 69), none⟩,
    ⟨some 86, .ext 1 (.t 85), none⟩,
    ⟨none, .mest (.t 67) (.t 86) (.t 82), none⟩,
    ⟨some 75, .ld1 (.t 74), none⟩,
    ⟨some 87, .ment .s (.int .i64 (0)) (.t 73) (.t 75), none⟩,
    ⟨some 88, .ext 1 (.t 87), none⟩,
    ⟨none, .mest (.t 73) (.t 88) (.t 83), none⟩,
    ⟨some 81, .ld1 (.t 80), none⟩,
    ⟨some 89, .ment .s (.int .i64 (0)) (.t 79) (.t 81), none⟩,
    ⟨some 90, .ext 1 (.t 89), none⟩,
    ⟨none, .mest (.t 79) (.t 90) (.t 84), none⟩]
def A_table_Build_50 : List AOper := [⟨some 91, .bini .add (.t 59) (.c (.int .i64 (1))), none⟩,
    ⟨some 59, .mov (.t 91), none⟩]
def A_table_Build_51 : ACode := (.seq (.ops [⟨some 60, .bini .lss (.t 59) (.t 58), none⟩]) (.seq (.cond (.t 60) .skip (.exit 2)) (.seq (.block 3 (.seq (.ops A_table_Build_15) (.orr (.alts [64, 65, 66, 67, 68, 69, 70, 71, 72, 73, 74, 75, 76, 77, 78, 79, 80, 81, 82, 83, 84, 85, 86, 87, 88, 89, 90] [A_table_Build_16, A_table_Build_17, A_table_Build_18, A_table_Build_19, A_table_Build_20, A_table_Build_21, A_table_Build_22, A_table_Build_23, A_table_Build_24, A_table_Build_25, A_table_Build_26, A_table_Build_27, A_table_Build_28, A_table_Build_29, A_table_Build_30, A_table_Build_31, A_table_Build_32]) (.alts [64, 65, 66, 67, 68, 69, 70, 71, 72, 73, 74, 75, 76, 77, 78, 79, 80, 81, 82, 83, 84, 85, 86, 87, 88, 89, 90] [A_table_Build_33, A_table_Build_34, A_table_Build_35, A_table_Build_36, A_table_Build_37, A_table_Build_38, A_table_Build_39, A_table_Build_40, A_table_Build_41, A_table_Build_42, A_table_Build_43, A_table_Build_44, A_table_Build_45, A_table_Build_46, A_table_Build_47, A_table_Build_48, A_table_Build_49])))) (.ops A_table_Build_50))))
def A_table_Build_52 : List AOper := [⟨some 92, .mov (.t 8), none⟩,
    ⟨some 4, .mov (.t 92), none⟩,
    ⟨some 5, .mov (.c (.int .i64 (0))), none⟩]
def A_table_Build : ACode := (.seq (.ops A_table_Build_0) (.seq (.ops A_table_Build_1) (.seq (.seq (.ops A_table_Build_2) (.cond (.t 20) (.seq (.ops A_table_Build_3) .ret) .skip)) (.seq (.ops A_table_Build_4) (.seq (.seq (.ops A_table_Build_5) (.block 0 (.loop A_table_Build_12))) (.seq (.ops A_table_Build_13) (.seq (.seq (.ops A_table_Build_14) (.block 2 (.loop A_table_Build_51))) (.seq (.ops A_table_Build_52) .ret))))))))
def R_table_Build : List ARes := [.tmp 4, .tmp 5]
theorem C_table_Build : compF Tryz.prog Tryz.f259 = some (A_table_Build, R_table_Build) := by kernel_rfl
def T_table_Build : FC := ⟨93, A_table_Build, R_table_Build⟩
theorem G_table_Build : GoodFC Tryz.prog F_table_Build T_table_Build := ⟨Tryz.f259, Tryz.func259, Tryz.ntmps259, C_table_Build, by kernel_rfl⟩

-- (*internal/sync.Mutex).Lock
abbrev F_internal_sync_Mutex_Lock : Nat := 260
def A_internal_sync_Mutex_Lock_0 : List AOper := [⟨some 3, .mov (.t 0), none⟩,
    ⟨some 4, .nilc (.t 3), none⟩,
    ⟨some 5, .faddr 0 (.t 4), none⟩,
    ⟨some 6, .cas .i32 (.t 5) (.c (.int .i32 (0))) (.c (.int .i32 (1))), none⟩]
def A_internal_sync_Mutex_Lock_1 : List AOper := [⟨some 8, .mov (.t 0), none⟩,
    ⟨some 9, .upc (.t 8), none⟩,
    ⟨some 10, .rac (.t 9), none⟩]
def A_internal_sync_Mutex_Lock_2 : List AOper := [⟨some 11, .mov (.t 0), none⟩,
    ⟨some 12, .call 271 [(.t 11)], none⟩]
def A_internal_sync_Mutex_Lock : ACode := (.seq (.ops [⟨some 2, .mov (.c (.tup [])), none⟩]) (.seq (.seq (.ops A_internal_sync_Mutex_Lock_0) (.cond (.t 6) (.seq (.cond (.c (.bool true)) (.seq (.ops [⟨some 7, .mov (.c (.tup [])), none⟩]) (.ops A_internal_sync_Mutex_Lock_1)) .skip) .ret) .skip)) (.ops A_internal_sync_Mutex_Lock_2)))
def R_internal_sync_Mutex_Lock : List ARes := []
theorem C_internal_sync_Mutex_Lock : compF Tryz.prog Tryz.f260 = some (A_internal_sync_Mutex_Lock, R_internal_sync_Mutex_Lock) := by kernel_rfl
def T_internal_sync_Mutex_Lock : FC := ⟨13, A_internal_sync_Mutex_Lock, R_internal_sync_Mutex_Lock⟩
theorem G_internal_sync_Mutex_Lock : GoodFC Tryz.prog F_internal_sync_Mutex_Lock T_internal_sync_Mutex_Lock := ⟨Tryz.f260, Tryz.func260, Tryz.ntmps260, C_internal_sync_Mutex_Lock, by kernel_rfl⟩

-- (*internal/sync.Mutex).Unlock
abbrev F_internal_sync_Mutex_Unlock : Nat := 261
def A_internal_sync_Mutex_Unlock_0 : List AOper := [⟨some 3, .mov (.t 0), none⟩,
    ⟨some 4, .nilc (.t 3), none⟩,
    ⟨some 5, .faddr 0 (.t 4), none⟩,
    ⟨some 6, .ld1 (.t 5), none⟩]
def A_internal_sync_Mutex_Unlock_1 : List AOper := [⟨some 7, .mov (.t 0), none⟩,
    ⟨some 8, .upc (.t 7), none⟩,
    ⟨some 9, .rac (.t 8), none⟩]
def A_internal_sync_Mutex_Unlock_2 : List AOper := [⟨some 11, .mov (.t 0), none⟩,
    ⟨some 12, .nilc (.t 11), none⟩,
    ⟨some 13, .faddr 0 (.t 12), none⟩,
    ⟨some 14, .xadd .i32 (.t 13) (.c (.int .i32 (-1))), none⟩,
    ⟨some 2, .mov (.t 14), none⟩]
def A_internal_sync_Mutex_Unlock_3 : List AOper := [⟨some 15, .mov (.t 2), none⟩,
    ⟨some 16, .bini .neq (.t 15) (.c (.int .i32 (0))), none⟩]
def A_internal_sync_Mutex_Unlock_4 : List AOper := [⟨some 17, .mov (.t 0), none⟩,
    ⟨some 18, .mov (.t 2), none⟩,
    ⟨some 19, .call 274 [(.t 17), (.t 18)], none⟩]
def A_internal_sync_Mutex_Unlock : ACode := (.seq (.cond (.c (.bool true)) (.seq (.ops A_internal_sync_Mutex_Unlock_0) (.seq (.ops A_internal_sync_Mutex_Unlock_1) (.ops [⟨some 10, .mov (.c (.tup [])), none⟩]))) .skip) (.seq (.ops A_internal_sync_Mutex_Unlock_2) (.seq (.seq (.ops A_internal_sync_Mutex_Unlock_3) (.cond (.t 16) (.ops A_internal_sync_Mutex_Unlock_4) .skip)) (.ops [⟨some 20, .mov (.c (.tup [])), none⟩]))))
def R_internal_sync_Mutex_Unlock : List ARes := []
theorem C_internal_sync_Mutex_Unlock : compF Tryz.prog Tryz.f261 = some (A_internal_sync_Mutex_Unlock, R_internal_sync_Mutex_Unlock) := by kernel_rfl
def T_internal_sync_Mutex_Unlock : FC := ⟨21, A_internal_sync_Mutex_Unlock, R_internal_sync_Mutex_Unlock⟩
theorem G_internal_sync_Mutex_Unlock : GoodFC Tryz.prog F_internal_sync_Mutex_Unlock T_internal_sync_Mutex_Unlock := ⟨Tryz.f261, Tryz.func261, Tryz.ntmps261, C_internal_sync_Mutex_Unlock, by kernel_rfl⟩

-- (*lexicon/link.Linked).Message
abbrev F_link_Linked_Message : Nat := 262
def A_link_Linked_Message_0 : List AOper := [⟨some 4, .box 76 7 (.c (.agg [.str [], .nils, .nils, .nils, .nils, .nils, .nils])), none⟩,
    ⟨some 5, .mov (.c (.bool false)), none⟩]
def A_link_Linked_Message_1 : List AOper := [⟨some 9, .mov (.t 0), none⟩,
    ⟨some 10, .nilc (.t 9), none⟩,
    ⟨some 11, .faddr 3 (.t 10), none⟩,
    ⟨some 12, .ld1 (.t 11), none⟩,
    ⟨some 13, .mov (.t 1), none⟩,
    ⟨some 14, .mlook .s (.agg [.str [], .nils, .nils, .nils, .nils, .nils, .nils]) true (.t 12) (.t 13), none⟩,
    ⟨some 8, .mov (.t 14), none⟩,
    ⟨some 15, .ext 0 (.t 8), none⟩,
    ⟨some 16, .ext 1 (.t 8), none⟩,
    ⟨some 6, .box 76 7 (.c (.agg [.str [], .nils, .nils, .nils, .nils, .nils, .nils])), none⟩,
    ⟨none, .st 7 (.t 6) (.t 15), none⟩,
    ⟨some 7, .mov (.t 16), none⟩]
def A_link_Linked_Message_2 : List AOper := [⟨some 17, .lda 7 (.t 6), none⟩,
    ⟨some 18, .call 87 [(.t 17)], none⟩,
    ⟨some 19, .mov (.t 7), none⟩,
    ⟨none, .st 7 (.t 4) (.t 18), none⟩,
    ⟨some 5, .mov (.t 19), none⟩]
def A_link_Linked_Message : ACode := (.seq (.ops A_link_Linked_Message_0) (.seq (.ops A_link_Linked_Message_1) (.seq (.ops A_link_Linked_Message_2) .ret)))
def R_link_Linked_Message : List ARes := [.cella 4 7, .tmp 5]
theorem C_link_Linked_Message : compF Tryz.prog Tryz.f262 = some (A_link_Linked_Message, R_link_Linked_Message) := by kernel_rfl
def T_link_Linked_Message : FC := ⟨20, A_link_Linked_Message, R_link_Linked_Message⟩
theorem G_link_Linked_Message : GoodFC Tryz.prog F_link_Linked_Message T_link_Linked_Message := ⟨Tryz.f262, Tryz.func262, Tryz.ntmps262, C_link_Linked_Message, by kernel_rfl⟩

-- lexicon/table.row
abbrev F_table_row : Nat := 263
def A_table_row_0 : List AOper := [⟨some 1, .box 72 9 (.t 0), none⟩,
    ⟨some 2, .box 93 9 (.c (.agg [.int .i32 (0), .str [], .str [], .int .u8 (0), .int .u8 (0), .int .u8 (0), .bool false, .int .i64 (0), .str []])), none⟩]
def A_table_row_1 : List AOper := [⟨some 4, .faddr 1 (.t 1), none⟩,
    ⟨some 5, .ld1 (.t 4), none⟩,
    ⟨some 6, .faddr 0 (.t 1), none⟩,
    ⟨some 7, .ld1 (.t 6), none⟩,
    ⟨some 8, .faddr 8 (.t 1), none⟩,
    ⟨some 9, .ld1 (.t 8), none⟩,
    ⟨some 10, .faddr 0 (.t 1), none⟩,
    ⟨some 11, .ld1 (.t 10), none⟩,
    ⟨some 15, .faddr 2 (.t 1), none⟩,
    ⟨some 16, .ld1 (.t 15), none⟩,
    ⟨some 17, .faddr 3 (.t 1), none⟩,
    ⟨some 18, .ld1 (.t 17), none⟩,
    ⟨some 19, .faddr 5 (.t 1), none⟩,
    ⟨some 20, .ld1 (.t 19), none⟩,
    ⟨some 21, .faddr 2 (.t 1), none⟩,
    ⟨some 22, .ld1 (.t 21), none⟩,
    ⟨some 23, .bini .eql (.t 22) (.c (.int .u8 (3))), none⟩,
    ⟨some 34, .faddr 6 (.t 1), none⟩,
    ⟨some 35, .ld1 (.t 34), none⟩,
    ⟨some 12, .acall 202 [(.t 11)], none⟩,
    ⟨some 13, .bslice 9 1 2 [.str []] [(0, 1, (.t 9)), (1, 1, (.t 12))], none⟩,
    ⟨some 14, .acall 275 [(.t 13)], none⟩,
    ⟨some 24, .mov (.t 23), none⟩,
    ⟨some 25, .faddr 3 (.t 1), some (24, true)⟩,
    ⟨some 26, .ld1 (.t 25), some (24, true)⟩,
    ⟨some 27, .acall 276 [(.t 26)], some (24, true)⟩,
    ⟨some 28, .pick (.t 24) (.t 27) (.c (.bool false)), none⟩,
    ⟨some 29, .mov (.t 28), none⟩,
    ⟨some 30, .faddr 7 (.t 1), some (29, true)⟩,
    ⟨some 31, .ld1 (.t 30), some (29, true)⟩,
    ⟨some 32, .bini .neq (.t 31) (.c (.int .u8 (2))), some (29, true)⟩,
    ⟨some 33, .pick (.t 29) (.t 32) (.c (.bool false)), none⟩,
    ⟨some 36, .build [.int .i32 (0), .str [], .str [], .int .u8 (0), .int .u8 (0), .int .u8 (0), .bool false, .int .i64 (0), .str []] [(0, 1, (.t 5)), (1, 1, (.t 7)), (2, 1, (.t 14)), (3, 1, (.t 16)), (4, 1, (.t 18)), (5, 1, (.t 20)), (6, 1, (.t 33)), (7, 1, (.t 35))], none⟩,
    ⟨some 3, .box 93 9 (.c (.agg [.int .i32 (0), .str [], .str [], .int .u8 (0), .int .u8 (0), .int .u8 (0), .bool false, .int .i64 (0), .str []])), none⟩,
    ⟨none, .st 9 (.t 3) (.t 36), none⟩]
def A_table_row_2 : List AOper := [⟨some 4, .faddr 1 (.t 1), none⟩,
    ⟨some 5, .ld1 (.t 4), none⟩,
    ⟨some 6, .faddr 0 (.t 1), none⟩,
    ⟨some 7, .ld1 (.t 6), none⟩,
    ⟨some 8, .faddr 8 (.t 1), none⟩,
    ⟨some 9, .ld1 (.t 8), none⟩,
    ⟨some 10, .faddr 0 (.t 1), none⟩,
    ⟨some 11, .ld1 (.t 10), none⟩,
    ⟨some 12, .pcall 202 [(.t 11)], none⟩,
    ⟨some 13, .fslice 9 1 2 [.str []] [(0, 1, (.t 9)), (1, 1, (.t 12))], none⟩,
    ⟨some 14, .pcall 275 [(.t 13)], none⟩,
    ⟨some 15, .faddr 2 (.t 1), none⟩,
    ⟨some 16, .ld1 (.t 15), none⟩,
    ⟨some 17, .faddr 3 (.t 1), none⟩,
    ⟨some 18, .ld1 (.t 17), none⟩,
    ⟨some 19, .faddr 5 (.t 1), none⟩,
    ⟨some 20, .ld1 (.t 19), none⟩,
    ⟨some 21, .faddr 2 (.t 1), none⟩,
    ⟨some 22, .ld1 (.t 21), none⟩,
    ⟨some 23, .bini .eql (.t 22) (.c (.int .u8 (3))), none⟩,
    ⟨some 24, .mov (.t 23), none⟩,
    ⟨some 25, .faddr 3 (.t 1), some (24, true)⟩,
    ⟨some 26, .ld1 (.t 25), some (24, true)⟩,
    ⟨some 27, .pcall 276 [(.t 26)], some (24, true)⟩,
    ⟨some 28, .pick (.t 24) (.t 27) (.c (.bool false)), none⟩,
    ⟨some 29, .mov (.t 28), none⟩,
    ⟨some 30, .faddr 7 (.t 1), some (29, true)⟩,
    ⟨some 31, .ld1 (.t 30), some (29, true)⟩,
    ⟨some 32, .bini .neq (.t 31) (.c (.int .u8 (2))), some (29, true)⟩,
    ⟨some 33, .pick (.t 29) (.t 32) (.c (.bool false)), none⟩,
    ⟨some 34, .faddr 6 (.t 1), none⟩,
    ⟨some 35, .ld1 (.t 34), none⟩,
    ⟨some 36, .build [.int .i32 (0), .str [], .str [], .int .u8 (0), .int .u8 (0), .int .u8 (0), .bool false, .int .i64 (0), .str []] [(0, 1, (.t 5)), (1, 1, (.t 7)), (2, 1, (.t 14)), (3, 1, (.t 16)), (4, 1, (.t 18)), (5, 1, (.t 20)), (6, 1, (.t 33)), (7, 1, (.t 35))], none⟩,
    ⟨some 3, .box 93 9 (.c (.agg [.int .i32 (0), .str [], .str [], .int .u8 (0), .int .u8 (0), .int .u8 (0), .bool false, .int .i64 (0), .str []])), none⟩,
    ⟨none, .st 9 (.t 3) (.t 36), none⟩]
def A_table_row_3 : List AOper := [⟨some 37, .faddr 3 (.t 1), none⟩,
    ⟨some 38, .ld1 (.t 37), none⟩,
    ⟨some 39, .bini .eql (.t 38) (.c (.int .u8 (11))), none⟩,
    ⟨some 40, .mov (.t 39), none⟩,
    ⟨some 41, .faddr 3 (.t 1), some (40, false)⟩,
    ⟨some 42, .ld1 (.t 41), some (40, false)⟩,
    ⟨some 43, .bini .eql (.t 42) (.c (.int .u8 (14))), some (40, false)⟩,
    ⟨some 44, .pick (.t 40) (.c (.bool true)) (.t 43), none⟩]
def A_table_row_4 : List AOper := [⟨some 45, .faddr 4 (.t 1), none⟩,
    ⟨some 46, .ld1 (.t 45), none⟩,
    ⟨some 47, .faddr 8 (.t 3), none⟩,
    ⟨none, .st 1 (.t 47) (.t 46), none⟩]
def A_table_row_5 : List AOper := [⟨some 48, .lda 9 (.t 3), none⟩,
    ⟨none, .st 9 (.t 2) (.t 48), none⟩]
def A_table_row : ACode := (.seq (.ops A_table_row_0) (.seq (.orr (.alts [4, 5, 6, 7, 8, 9, 10, 11, 12, 13, 14, 15, 16, 17, 18, 19, 20, 21, 22, 23, 24, 25, 26, 27, 28, 29, 30, 31, 32, 33, 34, 35, 36, 3] [A_table_row_1]) (.orr (.alts [4, 5, 6, 7, 8, 9, 10, 11, 12, 13, 14, 15, 16, 17, 18, 19, 20, 21, 22, 23, 24, 25, 26, 27, 28, 29, 30, 31, 32, 33, 34, 35, 36, 3] [A_table_row_2]) .bad)) (.seq (.seq (.ops A_table_row_3) (.cond (.t 44) (.ops A_table_row_4) .skip)) (.seq (.ops A_table_row_5) .ret))))
def R_table_row : List ARes := [.cella 2 9]
theorem C_table_row : compF Tryz.prog Tryz.f263 = some (A_table_row, R_table_row) := by kernel_rfl
def T_table_row : FC := ⟨49, A_table_row, R_table_row⟩
theorem G_table_row : GoodFC Tryz.prog F_table_row T_table_row := ⟨Tryz.f263, Tryz.func263, Tryz.ntmps263, C_table_row, by kernel_rfl⟩

-- slices.SortStableFunc[[]lexicon/api.Row,lexicon/api.Row]
abbrev F_slices_SortStableFunc_api_Row_api_Row : Nat := 264
def A_slices_SortStableFunc_api_Row_api_Row_0 : List AOper := [⟨some 4, .mov (.t 0), none⟩,
    ⟨some 5, .mov (.t 0), none⟩,
    ⟨some 6, .lenl (.t 5), none⟩,
    ⟨some 7, .mov (.t 1), none⟩,
    ⟨some 8, .call 277 [(.t 4), (.t 6), (.t 7)], none⟩]
def A_slices_SortStableFunc_api_Row_api_Row : ACode := (.ops A_slices_SortStableFunc_api_Row_api_Row_0)
def R_slices_SortStableFunc_api_Row_api_Row : List ARes := []
theorem C_slices_SortStableFunc_api_Row_api_Row : compF Tryz.prog Tryz.f264 = some (A_slices_SortStableFunc_api_Row_api_Row, R_slices_SortStableFunc_api_Row_api_Row) := by kernel_rfl
def T_slices_SortStableFunc_api_Row_api_Row : FC := ⟨9, A_slices_SortStableFunc_api_Row_api_Row, R_slices_SortStableFunc_api_Row_api_Row⟩
theorem G_slices_SortStableFunc_api_Row_api_Row : GoodFC Tryz.prog F_slices_SortStableFunc_api_Row_api_Row T_slices_SortStableFunc_api_Row_api_Row := ⟨Tryz.f264, Tryz.func264, Tryz.ntmps264, C_slices_SortStableFunc_api_Row_api_Row, by kernel_rfl⟩

-- cmp.Or[string]
abbrev F_cmp_Or_string : Nat := 275
def A_cmp_Or_string_0 : List AOper := [⟨some 6, .mov (.t 0), none⟩,
    ⟨some 7, .lenl (.t 6), none⟩,
    ⟨some 8, .mov (.c (.int .i64 (0))), none⟩]
def A_cmp_Or_string_1 : List AOper := [⟨some 10, .iaddr 9 1 (.t 6) (.t 8), none⟩,
    ⟨some 11, .ld1 (.t 10), none⟩,
    ⟨some 5, .mov (.t 11), none⟩]
def A_cmp_Or_string_2 : List AOper := [⟨some 12, .mov (.t 5), none⟩,
    ⟨some 13, .mov (.t 3), none⟩,
    ⟨some 14, .bins .neq (.t 12) (.t 13), none⟩]
def A_cmp_Or_string_3 : List AOper := [⟨some 15, .mov (.t 5), none⟩,
    ⟨some 2, .mov (.t 15), none⟩]
def A_cmp_Or_string_4 : List AOper := [⟨some 16, .bini .add (.t 8) (.c (.int .i64 (1))), none⟩,
    ⟨some 8, .mov (.t 16), none⟩]
def A_cmp_Or_string_5 : ACode := (.seq (.ops [⟨some 9, .bini .lss (.t 8) (.t 7), none⟩]) (.seq (.cond (.t 9) .skip (.exit 0)) (.seq (.block 1 (.seq (.ops A_cmp_Or_string_1) (.seq (.ops A_cmp_Or_string_2) (.cond (.t 14) (.seq (.ops A_cmp_Or_string_3) .ret) .skip)))) (.ops A_cmp_Or_string_4))))
def A_cmp_Or_string_6 : List AOper := [⟨some 17, .mov (.t 3), none⟩,
    ⟨some 2, .mov (.t 17), none⟩]
def A_cmp_Or_string : ACode := (.seq (.ops [⟨some 2, .mov (.c (.str [])), none⟩]) (.seq (.ops [⟨some 3, .mov (.c (.str [])), none⟩]) (.seq (.seq (.ops A_cmp_Or_string_0) (.block 0 (.loop A_cmp_Or_string_5))) (.seq (.ops A_cmp_Or_string_6) .ret))))
def R_cmp_Or_string : List ARes := [.tmp 2]
theorem C_cmp_Or_string : compF Tryz.prog Tryz.f275 = some (A_cmp_Or_string, R_cmp_Or_string) := by kernel_rfl
def T_cmp_Or_string : FC := ⟨18, A_cmp_Or_string, R_cmp_Or_string⟩
theorem G_cmp_Or_string : GoodFC Tryz.prog F_cmp_Or_string T_cmp_Or_string := ⟨Tryz.f275, Tryz.func275, Tryz.ntmps275, C_cmp_Or_string, by kernel_rfl⟩

-- slices.stableCmpFunc[lexicon/api.Row]
abbrev F_slices_stableCmpFunc_api_Row : Nat := 277
def A_slices_stableCmpFunc_api_Row_0 : List AOper := [⟨some 10, .mov (.t 6), none⟩,
    ⟨some 7, .mov (.c (.int .i64 (0))), none⟩,
    ⟨some 8, .mov (.t 10), none⟩]
def A_slices_stableCmpFunc_api_Row_1 : List AOper := [⟨some 11, .mov (.t 8), none⟩,
    ⟨some 12, .mov (.t 1), none⟩,
    ⟨some 13, .bini .leq (.t 11) (.t 12), none⟩]
def A_slices_stableCmpFunc_api_Row_2 : List AOper := [⟨some 14, .mov (.t 0), none⟩,
    ⟨some 15, .mov (.t 7), none⟩,
    ⟨some 16, .mov (.t 8), none⟩,
    ⟨some 17, .mov (.t 2), none⟩,
    ⟨some 18, .call 286 [(.t 14), (.t 15), (.t 16), (.t 17)], none⟩]
def A_slices_stableCmpFunc_api_Row_3 : List AOper := [⟨some 19, .mov (.t 8), none⟩,
    ⟨some 7, .mov (.t 19), none⟩]
def A_slices_stableCmpFunc_api_Row_4 : List AOper := [⟨some 20, .mov (.t 8), none⟩,
    ⟨some 21, .mov (.t 6), none⟩,
    ⟨some 22, .bini .add (.t 20) (.t 21), none⟩,
    ⟨some 8, .mov (.t 22), none⟩]
def A_slices_stableCmpFunc_api_Row_5 : ACode := (.seq (.seq (.ops A_slices_stableCmpFunc_api_Row_1) (.cond (.t 13) .skip (.exit 0))) (.block 1 (.seq (.ops A_slices_stableCmpFunc_api_Row_2) (.seq (.ops A_slices_stableCmpFunc_api_Row_3) (.ops A_slices_stableCmpFunc_api_Row_4)))))
def A_slices_stableCmpFunc_api_Row_6 : List AOper := [⟨some 23, .mov (.t 0), none⟩,
    ⟨some 24, .mov (.t 7), none⟩,
    ⟨some 25, .mov (.t 1), none⟩,
    ⟨some 26, .mov (.t 2), none⟩,
    ⟨some 27, .call 286 [(.t 23), (.t 24), (.t 25), (.t 26)], none⟩]
def A_slices_stableCmpFunc_api_Row_7 : List AOper := [⟨some 28, .mov (.t 6), none⟩,
    ⟨some 29, .mov (.t 1), none⟩,
    ⟨some 30, .bini .lss (.t 28) (.t 29), none⟩]
def A_slices_stableCmpFunc_api_Row_8 : List AOper := [⟨some 31, .mov (.t 6), none⟩,
    ⟨some 32, .bini .mul (.c (.int .i64 (2))) (.t 31), none⟩,
    ⟨some 7, .mov (.c (.int .i64 (0))), none⟩,
    ⟨some 8, .mov (.t 32), none⟩]
def A_slices_stableCmpFunc_api_Row_9 : List AOper := [⟨some 33, .mov (.t 8), none⟩,
    ⟨some 34, .mov (.t 1), none⟩,
    ⟨some 35, .bini .leq (.t 33) (.t 34), none⟩]
def A_slices_stableCmpFunc_api_Row_10 : List AOper := [⟨some 36, .mov (.t 0), none⟩,
    ⟨some 37, .mov (.t 7), none⟩,
    ⟨some 38, .mov (.t 7), none⟩,
    ⟨some 39, .mov (.t 6), none⟩,
    ⟨some 40, .bini .add (.t 38) (.t 39), none⟩,
    ⟨some 41, .mov (.t 8), none⟩,
    ⟨some 42, .mov (.t 2), none⟩,
    ⟨some 43, .call 287 [(.t 36), (.t 37), (.t 40), (.t 41), (.t 42)], none⟩]
def A_slices_stableCmpFunc_api_Row_11 : List AOper := [⟨some 44, .mov (.t 8), none⟩,
    ⟨some 7, .mov (.t 44), none⟩]
def A_slices_stableCmpFunc_api_Row_12 : List AOper := [⟨some 45, .mov (.t 8), none⟩,
    ⟨some 46, .mov (.t 6), none⟩,
    ⟨some 47, .bini .mul (.c (.int .i64 (2))) (.t 46), none⟩,
    ⟨some 48, .bini .add (.t 45) (.t 47), none⟩,
    ⟨some 8, .mov (.t 48), none⟩]
def A_slices_stableCmpFunc_api_Row_13 : ACode := (.seq (.seq (.ops A_slices_stableCmpFunc_api_Row_9) (.cond (.t 35) .skip (.exit 4))) (.block 5 (.seq (.ops A_slices_stableCmpFunc_api_Row_10) (.seq (.ops A_slices_stableCmpFunc_api_Row_11) (.ops A_slices_stableCmpFunc_api_Row_12)))))
def A_slices_stableCmpFunc_api_Row_14 : List AOper := [⟨some 49, .mov (.t 7), none⟩,
    ⟨some 50, .mov (.t 6), none⟩,
    ⟨some 51, .bini .add (.t 49) (.t 50), none⟩,
    ⟨some 9, .mov (.t 51), none⟩]
def A_slices_stableCmpFunc_api_Row_15 : List AOper := [⟨some 52, .mov (.t 9), none⟩,
    ⟨some 53, .mov (.t 1), none⟩,
    ⟨some 54, .bini .lss (.t 52) (.t 53), none⟩]
def A_slices_stableCmpFunc_api_Row_16 : List AOper := [⟨some 55, .mov (.t 0), none⟩,
    ⟨some 56, .mov (.t 7), none⟩,
    ⟨some 57, .mov (.t 9), none⟩,
    ⟨some 58, .mov (.t 1), none⟩,
    ⟨some 59, .mov (.t 2), none⟩,
    ⟨some 60, .call 287 [(.t 55), (.t 56), (.t 57), (.t 58), (.t 59)], none⟩]
def A_slices_stableCmpFunc_api_Row_17 : List AOper := [⟨some 61, .mov (.t 6), none⟩,
    ⟨some 62, .bini .mul (.t 61) (.c (.int .i64 (2))), none⟩,
    ⟨some 6, .mov (.t 62), none⟩]
def A_slices_stableCmpFunc_api_Row_18 : ACode := (.seq (.seq (.ops A_slices_stableCmpFunc_api_Row_7) (.cond (.t 30) .skip (.exit 2))) (.block 3 (.seq (.ops A_slices_stableCmpFunc_api_Row_8) (.seq (.block 4 (.loop A_slices_stableCmpFunc_api_Row_13)) (.seq (.seq (.ops A_slices_stableCmpFunc_api_Row_14) (.seq (.ops A_slices_stableCmpFunc_api_Row_15) (.cond (.t 54) (.ops A_slices_stableCmpFunc_api_Row_16) .skip))) (.ops A_slices_stableCmpFunc_api_Row_17))))))
def A_slices_stableCmpFunc_api_Row : ACode := (.seq (.ops [⟨some 6, .mov (.c (.int .i64 (20))), none⟩]) (.seq (.ops A_slices_stableCmpFunc_api_Row_0) (.seq (.block 0 (.loop A_slices_stableCmpFunc_api_Row_5)) (.seq (.ops A_slices_stableCmpFunc_api_Row_6) (.block 2 (.loop A_slices_stableCmpFunc_api_Row_18))))))
def R_slices_stableCmpFunc_api_Row : List ARes := []
theorem C_slices_stableCmpFunc_api_Row : compF Tryz.prog Tryz.f277 = some (A_slices_stableCmpFunc_api_Row, R_slices_stableCmpFunc_api_Row) := by kernel_rfl
def T_slices_stableCmpFunc_api_Row : FC := ⟨63, A_slices_stableCmpFunc_api_Row, R_slices_stableCmpFunc_api_Row⟩
theorem G_slices_stableCmpFunc_api_Row : GoodFC Tryz.prog F_slices_stableCmpFunc_api_Row T_slices_stableCmpFunc_api_Row := ⟨Tryz.f277, Tryz.func277, Tryz.ntmps277, C_slices_stableCmpFunc_api_Row, by kernel_rfl⟩

-- slices.insertionSortCmpFunc[lexicon/api.Row]
abbrev F_slices_insertionSortCmpFunc_api_Row : Nat := 286
def A_slices_insertionSortCmpFunc_api_Row_0 : List AOper := [⟨some 10, .mov (.t 1), none⟩,
    ⟨some 11, .bini .add (.t 10) (.c (.int .i64 (1))), none⟩,
    ⟨some 8, .mov (.t 11), none⟩]
def A_slices_insertionSortCmpFunc_api_Row_1 : List AOper := [⟨some 12, .mov (.t 8), none⟩,
    ⟨some 13, .mov (.t 2), none⟩,
    ⟨some 14, .bini .lss (.t 12) (.t 13), none⟩]
def A_slices_insertionSortCmpFunc_api_Row_2 : List AOper := [⟨some 17, .mov (.t 8), none⟩,
    ⟨some 9, .mov (.t 17), none⟩]
def A_slices_insertionSortCmpFunc_api_Row_3 : List AOper := [⟨some 18, .mov (.t 9), none⟩,
    ⟨some 19, .mov (.t 1), none⟩,
    ⟨some 20, .bini .gtr (.t 18) (.t 19), none⟩,
    ⟨some 21, .mov (.t 20), none⟩,
    ⟨some 22, .mov (.t 3), some (21, true)⟩,
    ⟨some 23, .mov (.t 0), some (21, true)⟩,
    ⟨some 24, .mov (.t 9), some (21, true)⟩,
    ⟨some 25, .iaddr 93 9 (.t 23) (.t 24), some (21, true)⟩,
    ⟨some 26, .lda 9 (.t 25), some (21, true)⟩,
    ⟨some 27, .mov (.t 0), some (21, true)⟩,
    ⟨some 28, .mov (.t 9), some (21, true)⟩,
    ⟨some 29, .bini .sub (.t 28) (.c (.int .i64 (1))), some (21, true)⟩,
    ⟨some 30, .iaddr 93 9 (.t 27) (.t 29), some (21, true)⟩,
    ⟨some 31, .lda 9 (.t 30), some (21, true)⟩,
    ⟨some 32, .callv (.t 22) [(.t 26), (.t 31)], some (21, true)⟩,
    ⟨some 33, .bini .lss (.t 32) (.c (.int .i64 (0))), some (21, true)⟩,
    ⟨some 34, .pick (.t 21) (.t 33) (.c (.bool false)), none⟩]
def A_slices_insertionSortCmpFunc_api_Row_4 : List AOper := [⟨some 37, .mov (.t 0), none⟩,
    ⟨some 38, .mov (.t 9), none⟩,
    ⟨some 39, .mov (.t 0), none⟩,
    ⟨some 40, .mov (.t 9), none⟩,
    ⟨some 41, .bini .sub (.t 40) (.c (.int .i64 (1))), none⟩,
    ⟨some 42, .mov (.t 0), none⟩,
    ⟨some 43, .mov (.t 9), none⟩,
    ⟨some 44, .bini .sub (.t 43) (.c (.int .i64 (1))), none⟩,
    ⟨some 45, .iaddr 93 9 (.t 42) (.t 44), none⟩,
    ⟨some 46, .lda 9 (.t 45), none⟩,
    ⟨some 47, .mov (.t 0), none⟩,
    ⟨some 48, .mov (.t 9), none⟩,
    ⟨some 49, .iaddr 93 9 (.t 47) (.t 48), none⟩,
    ⟨some 50, .lda 9 (.t 49), none⟩,
    ⟨some 51, .iaddr 93 9 (.t 37) (.t 38), none⟩,
    ⟨none, .st 9 (.t 51) (.t 46), none⟩,
    ⟨some 52, .iaddr 93 9 (.t 39) (.t 41), none⟩,
    ⟨none, .st 9 (.t 52) (.t 50), none⟩]
def A_slices_insertionSortCmpFunc_api_Row_5 : List AOper := [⟨some 35, .mov (.t 9), none⟩,
    ⟨some 36, .bini .sub (.t 35) (.c (.int .i64 (1))), none⟩,
    ⟨some 9, .mov (.t 36), none⟩]
def A_slices_insertionSortCmpFunc_api_Row_6 : ACode := (.seq (.seq (.alts [18, 19, 20, 21, 22, 23, 24, 25, 26, 27, 28, 29, 30, 31, 32, 33, 34] [A_slices_insertionSortCmpFunc_api_Row_3]) (.cond (.t 34) .skip (.exit 2))) (.seq (.block 3 (.alts [37, 38, 39, 40, 41, 42, 43, 44, 45, 46, 47, 48, 49, 50, 51, 52] [A_slices_insertionSortCmpFunc_api_Row_4])) (.ops A_slices_insertionSortCmpFunc_api_Row_5)))
def A_slices_insertionSortCmpFunc_api_Row_7 : List AOper := [⟨some 15, .mov (.t 8), none⟩,
    ⟨some 16, .bini .add (.t 15) (.c (.int .i64 (1))), none⟩,
    ⟨some 8, .mov (.t 16), none⟩]
def A_slices_insertionSortCmpFunc_api_Row_8 : ACode := (.seq (.seq (.ops A_slices_insertionSortCmpFunc_api_Row_1) (.cond (.t 14) .skip (.exit 0))) (.seq (.block 1 (.seq (.ops A_slices_insertionSortCmpFunc_api_Row_2) (.block 2 (.loop A_slices_insertionSortCmpFunc_api_Row_6)))) (.ops A_slices_insertionSortCmpFunc_api_Row_7)))
def A_slices_insertionSortCmpFunc_api_Row : ACode := (.seq (.ops A_slices_insertionSortCmpFunc_api_Row_0) (.block 0 (.loop A_slices_insertionSortCmpFunc_api_Row_8)))
def R_slices_insertionSortCmpFunc_api_Row : List ARes := []
theorem C_slices_insertionSortCmpFunc_api_Row : compF Tryz.prog Tryz.f286 = some (A_slices_insertionSortCmpFunc_api_Row, R_slices_insertionSortCmpFunc_api_Row) := by kernel_rfl
def T_slices_insertionSortCmpFunc_api_Row : FC := ⟨53, A_slices_insertionSortCmpFunc_api_Row, R_slices_insertionSortCmpFunc_api_Row⟩
theorem G_slices_insertionSortCmpFunc_api_Row : GoodFC Tryz.prog F_slices_insertionSortCmpFunc_api_Row T_slices_insertionSortCmpFunc_api_Row := ⟨Tryz.f286, Tryz.func286, Tryz.ntmps286, C_slices_insertionSortCmpFunc_api_Row, by kernel_rfl⟩
end Go.Proofs.YtmnhoegjccdkpabGreatDoor
