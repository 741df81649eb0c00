/- Contracts of functions of the given program, in the logic L: texts put together; no conditions. -/
import Derived.Test.YtpldnmjdoogghaaGreatDoorY3
import Derived.Test.YtpldnmjdoogghaaGreatDoorProg
import Derived.KernelRfl
import Derived.Shelf.Unicode.DecodeAny
/- The codes of functions as the logic L has them; each is what the logic makes of the given program (by the kernel). Printed by program (gen_codes.py). -/
namespace Go.Proofs.YtpldnmjdoogghaaGreatDoor
open Go.L

-- internal/bytealg.LastIndexByteString
abbrev F_internal_bytealg_LastIndexByteString : Nat := 36
def A_internal_bytealg_LastIndexByteString_0 : List AOper := [mv 6 0, o_ 7 (.lens (.t 6)), o_ 8 (.bini .sub (.t 7) (i_ 1)), mv 5 8]
def A_internal_bytealg_LastIndexByteString_1 : List AOper := [mv 9 5, o_ 10 (.bini .geq (.t 9) (i_ 0))]
def A_internal_bytealg_LastIndexByteString_2 : List AOper := [mv 13 0, mv 14 5, o_ 15 (.idxs (.t 13) (.t 14)), mv 16 1, o_ 17 (.bini .eql (.t 15) (.t 16))]
def A_internal_bytealg_LastIndexByteString_3 : List AOper := [mv 18 5, mv 4 18]
def A_internal_bytealg_LastIndexByteString_4 : List AOper := [mv 11 5, o_ 12 (.bini .sub (.t 11) (i_ 1)), mv 5 12]
def A_internal_bytealg_LastIndexByteString_5 : ACode := (.seq (.seq (.ops A_internal_bytealg_LastIndexByteString_1) (.cond (.t 10) .skip (.exit 0))) (.seq (.block 1 (.seq (.ops A_internal_bytealg_LastIndexByteString_2) (.cond (.t 17) (.seq (.ops A_internal_bytealg_LastIndexByteString_3) .ret) .skip))) (.ops A_internal_bytealg_LastIndexByteString_4)))
def A_internal_bytealg_LastIndexByteString : ACode := (.seq (.ops [o_ 4 (.mov (i_ 0))]) (.seq (.seq (.ops A_internal_bytealg_LastIndexByteString_0) (.block 0 (.loop A_internal_bytealg_LastIndexByteString_5))) (.seq (.ops [o_ 4 (.mov (i_ (-1)))]) .ret)))
def R_internal_bytealg_LastIndexByteString : List ARes := [.tmp 4]
theorem C_internal_bytealg_LastIndexByteString : compF Tryz.prog Tryz.f36 = some (A_internal_bytealg_LastIndexByteString, R_internal_bytealg_LastIndexByteString) := by kernel_rfl
theorem K_internal_bytealg_LastIndexByteString {md : Bool} {args : List AV} {h : Hp} {Q : Res → Hp → Prop} (hl : LCode Tryz.prog md A_internal_bytealg_LastIndexByteString (EndQ R_internal_bytealg_LastIndexByteString Q) (env0 19 args) h) (hn : args.length ≤ 19 := by (simp; done)) : CallL Tryz.prog F_internal_bytealg_LastIndexByteString args h Q :=
  CallL.of (md := md) Tryz.func36 C_internal_bytealg_LastIndexByteString (by rw [Tryz.ntmps36]; exact hn) (by rw [Tryz.ntmps36]; exact hl)

-- strings.LastIndexByte
abbrev F_strings_LastIndexByte : Nat := 16
def A_strings_LastIndexByte_0 : List AOper := [mv 5 0, mv 6 1, o_ 7 (.call 36 [(.t 5), (.t 6)]), mv 4 7]
def A_strings_LastIndexByte : ACode := (.seq (.ops [o_ 4 (.mov (i_ 0))]) (.seq (.ops A_strings_LastIndexByte_0) .ret))
def R_strings_LastIndexByte : List ARes := [.tmp 4]
theorem C_strings_LastIndexByte : compF Tryz.prog Tryz.f16 = some (A_strings_LastIndexByte, R_strings_LastIndexByte) := by kernel_rfl
theorem K_strings_LastIndexByte {md : Bool} {args : List AV} {h : Hp} {Q : Res → Hp → Prop} (hl : LCode Tryz.prog md A_strings_LastIndexByte (EndQ R_strings_LastIndexByte Q) (env0 8 args) h) (hn : args.length ≤ 8 := by (simp; done)) : CallL Tryz.prog F_strings_LastIndexByte args h Q :=
  CallL.of (md := md) Tryz.func16 C_strings_LastIndexByte (by rw [Tryz.ntmps16]; exact hn) (by rw [Tryz.ntmps16]; exact hl)

-- lexicon/box.Split
abbrev F_box_Split : Nat := 5
def A_box_Split_0 : List AOper := [o_ 2 (.mov (.c (.str []))), o_ 3 (.mov (.c (.str []))), o_ 4 (.mov (i_ 0))]
def A_box_Split_1 : List AOper := [mv 6 0, o_ 7 (.call 16 [(.t 6), (.c (.int .u8 (47)))]), mv 5 7]
def A_box_Split_2 : List AOper := [mv 8 5, o_ 9 (.bini .lss (.t 8) (i_ 0)), mv 10 9, ⟨some 11, .mov (.t 0), some (10, false)⟩, ⟨some 12, .call 17 [(.t 11)], some (10, false)⟩, ⟨some 13, .bini .geq (.t 12) (i_ 0), some (10, false)⟩, o_ 14 (.pick (.t 10) (.c (.bool true)) (.t 13)), mv 15 14, ⟨some 16, .mov (.t 0), some (15, false)⟩, ⟨some 17, .mov (.t 5), some (15, false)⟩, ⟨some 18, .bini .add (.t 17) (i_ 1), some (15, false)⟩, ⟨some 19, .slcs (.t 16) (some (.t 18)) none, some (15, false)⟩, ⟨some 20, .call 18 [(.t 19)], some (15, false)⟩, ⟨some 21, .not (.t 20), some (15, false)⟩, o_ 22 (.pick (.t 15) (.c (.bool true)) (.t 21))]
def A_box_Split_3 : List AOper := [o_ 2 (.mov (.c (.str []))), o_ 3 (.mov (.c (.str []))), o_ 4 (.mov (i_ 130))]
def A_box_Split_4 : List AOper := [mv 23 0, mv 24 5, o_ 25 (.slcs (.t 23) none (some (.t 24))), mv 26 0, mv 27 5, o_ 28 (.bini .add (.t 27) (i_ 1)), o_ 29 (.slcs (.t 26) (some (.t 28)) none), mv 2 25, mv 3 29, o_ 4 (.mov (i_ 0))]
def A_box_Split : ACode := (.seq (.ops A_box_Split_0) (.seq (.ops A_box_Split_1) (.seq (.seq (.ops A_box_Split_2) (.cond (.t 22) (.seq (.ops A_box_Split_3) .ret) .skip)) (.seq (.alts [23, 24, 25, 26, 27, 28, 29, 2, 3, 4] [A_box_Split_4]) .ret))))
def R_box_Split : List ARes := [.tmp 2, .tmp 3, .tmp 4]
theorem C_box_Split : compF Tryz.prog Tryz.f5 = some (A_box_Split, R_box_Split) := by kernel_rfl
theorem K_box_Split {md : Bool} {args : List AV} {h : Hp} {Q : Res → Hp → Prop} (hl : LCode Tryz.prog md A_box_Split (EndQ R_box_Split Q) (env0 30 args) h) (hn : args.length ≤ 30 := by (simp; done)) : CallL Tryz.prog F_box_Split args h Q :=
  CallL.of (md := md) Tryz.func5 C_box_Split (by rw [Tryz.ntmps5]; exact hn) (by rw [Tryz.ntmps5]; exact hl)

-- lexicon/box.Join
abbrev F_box_Join : Nat := 7
def A_box_Join_0 : List AOper := [o_ 4 (.mov (.c (.str []))), o_ 5 (.mov (i_ 0))]
def A_box_Join_1 : List AOper := [mv 6 0, o_ 7 (.call 17 [(.t 6)]), o_ 8 (.bini .geq (.t 7) (i_ 0)), mv 9 8, ⟨some 10, .mov (.t 1), some (9, false)⟩, ⟨some 11, .call 18 [(.t 10)], some (9, false)⟩, ⟨some 12, .not (.t 11), some (9, false)⟩, o_ 13 (.pick (.t 9) (.c (.bool true)) (.t 12))]
def A_box_Join_2 : List AOper := [o_ 4 (.mov (.c (.str []))), o_ 5 (.mov (i_ 130))]
def A_box_Join_3 : List AOper := [mv 14 0, o_ 15 (.bins .add (.t 14) (.c (.str [47]))), mv 16 1, o_ 17 (.bins .add (.t 15) (.t 16)), mv 4 17, o_ 5 (.mov (i_ 0))]
def A_box_Join : ACode := (.seq (.ops A_box_Join_0) (.seq (.seq (.ops A_box_Join_1) (.cond (.t 13) (.seq (.ops A_box_Join_2) .ret) .skip)) (.seq (.ops A_box_Join_3) .ret)))
def R_box_Join : List ARes := [.tmp 4, .tmp 5]
theorem C_box_Join : compF Tryz.prog Tryz.f7 = some (A_box_Join, R_box_Join) := by kernel_rfl
theorem K_box_Join {md : Bool} {args : List AV} {h : Hp} {Q : Res → Hp → Prop} (hl : LCode Tryz.prog md A_box_Join (EndQ R_box_Join Q) (env0 18 args) h) (hn : args.length ≤ 18 := by (simp; done)) : CallL Tryz.prog F_box_Join args h Q :=
  CallL.of (md := md) Tryz.func7 C_box_Join (by rw [Tryz.ntmps7]; exact hn) (by rw [Tryz.ntmps7]; exact hl)

-- lexicon/lexiconref13.Split
abbrev F_lexiconref13_Split : Nat := 6
def A_lexiconref13_Split_0 : List AOper := [o_ 2 (.mov (.c (.str []))), o_ 3 (.mov (.c (.str []))), o_ 4 (.mov (i_ 0))]
def A_lexiconref13_Split_1 : List AOper := [mv 7 6, mv 8 0, o_ 9 (.lens (.t 8)), o_ 10 (.bini .lss (.t 7) (.t 9))]
def A_lexiconref13_Split_2 : List AOper := [mv 13 0, mv 14 6, o_ 15 (.idxs (.t 13) (.t 14)), o_ 16 (.bini .eql (.t 15) (.c (.int .u8 (47))))]
def A_lexiconref13_Split_3 : List AOper := [mv 17 6, mv 5 17]
def A_lexiconref13_Split_4 : List AOper := [mv 11 6, o_ 12 (.bini .add (.t 11) (i_ 1)), mv 6 12]
def A_lexiconref13_Split_5 : ACode := (.seq (.seq (.ops A_lexiconref13_Split_1) (.cond (.t 10) .skip (.exit 0))) (.seq (.block 1 (.seq (.ops A_lexiconref13_Split_2) (.cond (.t 16) (.ops A_lexiconref13_Split_3) .skip))) (.ops A_lexiconref13_Split_4)))
def A_lexiconref13_Split_6 : List AOper := [mv 18 5, o_ 19 (.bini .lss (.t 18) (i_ 0)), mv 20 19, ⟨some 21, .mov (.t 0), some (20, false)⟩, ⟨some 22, .call 19 [(.t 21)], some (20, false)⟩, ⟨some 23, .bini .geq (.t 22) (i_ 0), some (20, false)⟩, o_ 24 (.pick (.t 20) (.c (.bool true)) (.t 23)), mv 25 24, ⟨some 26, .mov (.t 0), some (25, false)⟩, ⟨some 27, .mov (.t 5), some (25, false)⟩, ⟨some 28, .bini .add (.t 27) (i_ 1), some (25, false)⟩, ⟨some 29, .slcs (.t 26) (some (.t 28)) none, some (25, false)⟩, ⟨some 30, .call 20 [(.t 29)], some (25, false)⟩, ⟨some 31, .not (.t 30), some (25, false)⟩, o_ 32 (.pick (.t 25) (.c (.bool true)) (.t 31))]
def A_lexiconref13_Split_7 : List AOper := [o_ 2 (.mov (.c (.str []))), o_ 3 (.mov (.c (.str []))), o_ 4 (.mov (i_ 130))]
def A_lexiconref13_Split_8 : List AOper := [mv 33 0, mv 34 5, o_ 35 (.slcs (.t 33) none (some (.t 34))), mv 36 0, mv 37 5, o_ 38 (.bini .add (.t 37) (i_ 1)), o_ 39 (.slcs (.t 36) (some (.t 38)) none), mv 2 35, mv 3 39, o_ 4 (.mov (i_ 0))]
def A_lexiconref13_Split : ACode := (.seq (.ops A_lexiconref13_Split_0) (.seq (.ops [o_ 5 (.mov (i_ (-1)))]) (.seq (.seq (.ops [o_ 6 (.mov (i_ 0))]) (.block 0 (.loop A_lexiconref13_Split_5))) (.seq (.seq (.ops A_lexiconref13_Split_6) (.cond (.t 32) (.seq (.ops A_lexiconref13_Split_7) .ret) .skip)) (.seq (.alts [33, 34, 35, 36, 37, 38, 39, 2, 3, 4] [A_lexiconref13_Split_8]) .ret)))))
def R_lexiconref13_Split : List ARes := [.tmp 2, .tmp 3, .tmp 4]
theorem C_lexiconref13_Split : compF Tryz.prog Tryz.f6 = some (A_lexiconref13_Split, R_lexiconref13_Split) := by kernel_rfl
theorem K_lexiconref13_Split {md : Bool} {args : List AV} {h : Hp} {Q : Res → Hp → Prop} (hl : LCode Tryz.prog md A_lexiconref13_Split (EndQ R_lexiconref13_Split Q) (env0 40 args) h) (hn : args.length ≤ 40 := by (simp; done)) : CallL Tryz.prog F_lexiconref13_Split args h Q :=
  CallL.of (md := md) Tryz.func6 C_lexiconref13_Split (by rw [Tryz.ntmps6]; exact hn) (by rw [Tryz.ntmps6]; exact hl)

-- lexicon/lexiconref13.Join
abbrev F_lexiconref13_Join : Nat := 8
def A_lexiconref13_Join_0 : List AOper := [o_ 4 (.mov (.c (.str []))), o_ 5 (.mov (i_ 0))]
def A_lexiconref13_Join_1 : List AOper := [mv 6 0, o_ 7 (.call 19 [(.t 6)]), o_ 8 (.bini .geq (.t 7) (i_ 0)), mv 9 8, ⟨some 10, .mov (.t 1), some (9, false)⟩, ⟨some 11, .call 20 [(.t 10)], some (9, false)⟩, ⟨some 12, .not (.t 11), some (9, false)⟩, o_ 13 (.pick (.t 9) (.c (.bool true)) (.t 12))]
def A_lexiconref13_Join_2 : List AOper := [o_ 4 (.mov (.c (.str []))), o_ 5 (.mov (i_ 130))]
def A_lexiconref13_Join_3 : List AOper := [mv 14 0, o_ 15 (.bins .add (.t 14) (.c (.str [47]))), mv 16 1, o_ 17 (.bins .add (.t 15) (.t 16)), mv 4 17, o_ 5 (.mov (i_ 0))]
def A_lexiconref13_Join : ACode := (.seq (.ops A_lexiconref13_Join_0) (.seq (.seq (.ops A_lexiconref13_Join_1) (.cond (.t 13) (.seq (.ops A_lexiconref13_Join_2) .ret) .skip)) (.seq (.ops A_lexiconref13_Join_3) .ret)))
def R_lexiconref13_Join : List ARes := [.tmp 4, .tmp 5]
theorem C_lexiconref13_Join : compF Tryz.prog Tryz.f8 = some (A_lexiconref13_Join, R_lexiconref13_Join) := by kernel_rfl
theorem K_lexiconref13_Join {md : Bool} {args : List AV} {h : Hp} {Q : Res → Hp → Prop} (hl : LCode Tryz.prog md A_lexiconref13_Join (EndQ R_lexiconref13_Join Q) (env0 18 args) h) (hn : args.length ≤ 18 := by (simp; done)) : CallL Tryz.prog F_lexiconref13_Join args h Q :=
  CallL.of (md := md) Tryz.func8 C_lexiconref13_Join (by rw [Tryz.ntmps8]; exact hn) (by rw [Tryz.ntmps8]; exact hl)

-- lexicon/lexiconlaw13.BoxURLs
abbrev F_lexiconlaw13_BoxURLs : Nat := 3
def A_lexiconlaw13_BoxURLs_0 : List AOper := [mv 23 0, o_ 24 (.lens (.t 23)), mv 25 1, o_ 26 (.lens (.t 25)), o_ 27 (.bini .add (.t 24) (.t 26)), mv 28 2, o_ 29 (.lens (.t 28)), o_ 30 (.bini .add (.t 27) (.t 29)), o_ 31 (.bini .gtr (.t 30) (i_ 4194304))]
def A_lexiconlaw13_BoxURLs_1 : List AOper := [o_ 32 (.call 4 []), mv 7 32]
def A_lexiconlaw13_BoxURLs_2 : List AOper := [mv 34 0, o_ 35 (.call 5 [(.t 34)]), mv 33 35, o_ 36 (.ext 0 (.t 33)), o_ 37 (.ext 1 (.t 33)), o_ 38 (.ext 2 (.t 33)), mv 8 36, mv 9 37, mv 10 38]
def A_lexiconlaw13_BoxURLs_3 : List AOper := [mv 40 0, o_ 41 (.call 6 [(.t 40)]), mv 39 41, o_ 42 (.ext 0 (.t 39)), o_ 43 (.ext 1 (.t 39)), o_ 44 (.ext 2 (.t 39)), mv 11 42, mv 12 43, mv 13 44]
def A_lexiconlaw13_BoxURLs_4 : List AOper := [mv 46 1, mv 47 2, o_ 48 (.call 7 [(.t 46), (.t 47)]), mv 45 48, o_ 49 (.ext 0 (.t 45)), o_ 50 (.ext 1 (.t 45)), mv 14 49, mv 15 50]
def A_lexiconlaw13_BoxURLs_5 : List AOper := [mv 52 1, mv 53 2, o_ 54 (.call 8 [(.t 52), (.t 53)]), mv 51 54, o_ 55 (.ext 0 (.t 51)), o_ 56 (.ext 1 (.t 51)), mv 16 55, mv 17 56]
def A_lexiconlaw13_BoxURLs_6 : List AOper := [mv 57 7, o_ 58 (.not (.t 57)), mv 59 58, ⟨some 60, .mov (.t 8), some (59, false)⟩, ⟨some 61, .mov (.t 11), some (59, false)⟩, ⟨some 62, .bins .neq (.t 60) (.t 61), some (59, false)⟩, o_ 63 (.pick (.t 59) (.c (.bool true)) (.t 62)), mv 64 63, ⟨some 65, .mov (.t 9), some (64, false)⟩, ⟨some 66, .mov (.t 12), some (64, false)⟩, ⟨some 67, .bins .neq (.t 65) (.t 66), some (64, false)⟩, o_ 68 (.pick (.t 64) (.c (.bool true)) (.t 67)), mv 69 68, ⟨some 70, .mov (.t 10), some (69, false)⟩, ⟨some 71, .mov (.t 13), some (69, false)⟩, ⟨some 72, .bini .neq (.t 70) (.t 71), some (69, false)⟩, o_ 73 (.pick (.t 69) (.c (.bool true)) (.t 72)), mv 74 73, ⟨some 75, .mov (.t 14), some (74, false)⟩, ⟨some 76, .mov (.t 16), some (74, false)⟩, ⟨some 77, .bins .neq (.t 75) (.t 76), some (74, false)⟩, o_ 78 (.pick (.t 74) (.c (.bool true)) (.t 77)), mv 79 78, ⟨some 80, .mov (.t 15), some (79, false)⟩, ⟨some 81, .mov (.t 17), some (79, false)⟩, ⟨some 82, .bini .neq (.t 80) (.t 81), some (79, false)⟩, o_ 83 (.pick (.t 79) (.c (.bool true)) (.t 82))]
def A_lexiconlaw13_BoxURLs_7 : List AOper := [mv 84 10, o_ 85 (.bini .eql (.t 84) (i_ 0))]
def A_lexiconlaw13_BoxURLs_8 : List AOper := [mv 87 8, mv 88 9, o_ 89 (.call 7 [(.t 87), (.t 88)]), mv 86 89, o_ 90 (.ext 0 (.t 86)), o_ 91 (.ext 1 (.t 86)), mv 18 90, mv 19 91]
def A_lexiconlaw13_BoxURLs_9 : List AOper := [mv 92 18, mv 93 0, o_ 94 (.bins .neq (.t 92) (.t 93)), mv 95 94, ⟨some 96, .mov (.t 19), some (95, false)⟩, ⟨some 97, .bini .neq (.t 96) (i_ 0), some (95, false)⟩, o_ 98 (.pick (.t 95) (.c (.bool true)) (.t 97))]
def A_lexiconlaw13_BoxURLs_10 : List AOper := [mv 99 15, o_ 100 (.bini .eql (.t 99) (i_ 0))]
def A_lexiconlaw13_BoxURLs_11 : List AOper := [mv 102 14, o_ 103 (.call 5 [(.t 102)]), mv 101 103, o_ 104 (.ext 0 (.t 101)), o_ 105 (.ext 1 (.t 101)), o_ 106 (.ext 2 (.t 101)), mv 20 104, mv 21 105, mv 22 106]
def A_lexiconlaw13_BoxURLs_12 : List AOper := [mv 107 20, mv 108 1, o_ 109 (.bins .eql (.t 107) (.t 108)), mv 110 109, g_ 111 (.mov (.t 21)) 110, g_ 112 (.mov (.t 2)) 110, g_ 113 (.bins .eql (.t 111) (.t 112)) 110, o_ 114 (.pick (.t 110) (.t 113) (.c (.bool false))), mv 115 114, g_ 116 (.mov (.t 22)) 115, g_ 117 (.bini .eql (.t 116) (i_ 0)) 115, o_ 118 (.pick (.t 115) (.t 117) (.c (.bool false))), mv 6 118]
def A_lexiconlaw13_BoxURLs : ACode := (.seq (.ops [o_ 6 (.mov (.c (.bool false)))]) (.seq (.seq (.ops A_lexiconlaw13_BoxURLs_0) (.cond (.t 31) (.seq (.ops [o_ 6 (.mov (.c (.bool true)))]) .ret) .skip)) (.seq (.ops A_lexiconlaw13_BoxURLs_1) (.seq (.ops A_lexiconlaw13_BoxURLs_2) (.seq (.ops A_lexiconlaw13_BoxURLs_3) (.seq (.ops A_lexiconlaw13_BoxURLs_4) (.seq (.ops A_lexiconlaw13_BoxURLs_5) (.seq (.seq (.ops A_lexiconlaw13_BoxURLs_6) (.cond (.t 83) (.seq (.ops [o_ 6 (.mov (.c (.bool false)))]) .ret) .skip)) (.seq (.seq (.ops A_lexiconlaw13_BoxURLs_7) (.cond (.t 85) (.seq (.ops A_lexiconlaw13_BoxURLs_8) (.seq (.ops A_lexiconlaw13_BoxURLs_9) (.cond (.t 98) (.seq (.ops [o_ 6 (.mov (.c (.bool false)))]) .ret) .skip))) .skip)) (.seq (.seq (.ops A_lexiconlaw13_BoxURLs_10) (.cond (.t 100) (.seq (.ops A_lexiconlaw13_BoxURLs_11) (.seq (.ops A_lexiconlaw13_BoxURLs_12) .ret)) .skip)) (.seq (.ops [o_ 6 (.mov (.c (.bool true)))]) .ret)))))))))))
def R_lexiconlaw13_BoxURLs : List ARes := [.tmp 6]
theorem C_lexiconlaw13_BoxURLs : compF Tryz.prog Tryz.f3 = some (A_lexiconlaw13_BoxURLs, R_lexiconlaw13_BoxURLs) := by kernel_rfl
theorem K_lexiconlaw13_BoxURLs {md : Bool} {args : List AV} {h : Hp} {Q : Res → Hp → Prop} (hl : LCode Tryz.prog md A_lexiconlaw13_BoxURLs (EndQ R_lexiconlaw13_BoxURLs Q) (env0 119 args) h) (hn : args.length ≤ 119 := by (simp; done)) : CallL Tryz.prog F_lexiconlaw13_BoxURLs args h Q :=
  CallL.of (md := md) Tryz.func3 C_lexiconlaw13_BoxURLs (by rw [Tryz.ntmps3]; exact hn) (by rw [Tryz.ntmps3]; exact hl)
end Go.Proofs.YtpldnmjdoogghaaGreatDoor

/- The codes of functions as the logic L has them; each is what the logic makes of the given program (by the kernel). Printed by program (gen_codes.py). -/
namespace Go.Proofs.YtpldnmjdoogghaaGreatDoor
open Go.L

-- lexicon/texts.small
abbrev F_texts_small : Nat := 74
def A_texts_small_0 : List AOper := [mv 3 0, o_ 4 (.bini .geq (.t 3) (.c (.int .u8 (97)))), mv 5 4, g_ 6 (.mov (.t 0)) 5, g_ 7 (.bini .leq (.t 6) (.c (.int .u8 (122)))) 5, o_ 8 (.pick (.t 5) (.t 7) (.c (.bool false))), mv 2 8]
def A_texts_small : ACode := (.seq (.ops [o_ 2 (.mov (.c (.bool false)))]) (.seq (.ops A_texts_small_0) .ret))
def R_texts_small : List ARes := [.tmp 2]
theorem C_texts_small : compF Tryz.prog Tryz.f74 = some (A_texts_small, R_texts_small) := by kernel_rfl
theorem K_texts_small {md : Bool} {args : List AV} {h : Hp} {Q : Res → Hp → Prop} (hl : LCode Tryz.prog md A_texts_small (EndQ R_texts_small Q) (env0 9 args) h) (hn : args.length ≤ 9 := by (simp; done)) : CallL Tryz.prog F_texts_small args h Q :=
  CallL.of (md := md) Tryz.func74 C_texts_small (by rw [Tryz.ntmps74]; exact hn) (by rw [Tryz.ntmps74]; exact hl)

-- lexicon/texts.digit
abbrev F_texts_digit : Nat := 73
def A_texts_digit_0 : List AOper := [mv 3 0, o_ 4 (.bini .geq (.t 3) (.c (.int .u8 (48)))), mv 5 4, g_ 6 (.mov (.t 0)) 5, g_ 7 (.bini .leq (.t 6) (.c (.int .u8 (57)))) 5, o_ 8 (.pick (.t 5) (.t 7) (.c (.bool false))), mv 2 8]
def A_texts_digit : ACode := (.seq (.ops [o_ 2 (.mov (.c (.bool false)))]) (.seq (.ops A_texts_digit_0) .ret))
def R_texts_digit : List ARes := [.tmp 2]
theorem C_texts_digit : compF Tryz.prog Tryz.f73 = some (A_texts_digit, R_texts_digit) := by kernel_rfl
theorem K_texts_digit {md : Bool} {args : List AV} {h : Hp} {Q : Res → Hp → Prop} (hl : LCode Tryz.prog md A_texts_digit (EndQ R_texts_digit Q) (env0 9 args) h) (hn : args.length ≤ 9 := by (simp; done)) : CallL Tryz.prog F_texts_digit args h Q :=
  CallL.of (md := md) Tryz.func73 C_texts_digit (by rw [Tryz.ntmps73]; exact hn) (by rw [Tryz.ntmps73]; exact hl)

-- lexicon/texts.capital
abbrev F_texts_capital : Nat := 75
def A_texts_capital_0 : List AOper := [mv 3 0, o_ 4 (.bini .geq (.t 3) (.c (.int .u8 (65)))), mv 5 4, g_ 6 (.mov (.t 0)) 5, g_ 7 (.bini .leq (.t 6) (.c (.int .u8 (90)))) 5, o_ 8 (.pick (.t 5) (.t 7) (.c (.bool false))), mv 2 8]
def A_texts_capital : ACode := (.seq (.ops [o_ 2 (.mov (.c (.bool false)))]) (.seq (.ops A_texts_capital_0) .ret))
def R_texts_capital : List ARes := [.tmp 2]
theorem C_texts_capital : compF Tryz.prog Tryz.f75 = some (A_texts_capital, R_texts_capital) := by kernel_rfl
theorem K_texts_capital {md : Bool} {args : List AV} {h : Hp} {Q : Res → Hp → Prop} (hl : LCode Tryz.prog md A_texts_capital (EndQ R_texts_capital Q) (env0 9 args) h) (hn : args.length ≤ 9 := by (simp; done)) : CallL Tryz.prog F_texts_capital args h Q :=
  CallL.of (md := md) Tryz.func75 C_texts_capital (by rw [Tryz.ntmps75]; exact hn) (by rw [Tryz.ntmps75]; exact hl)

-- lexicon/texts.Ident
abbrev F_texts_Ident : Nat := 39
def A_texts_Ident_0 : List AOper := [mv 5 0, o_ 6 (.bins .eql (.t 5) (.c (.str []))), mv 7 6, ⟨some 8, .mov (.t 0), some (7, false)⟩, ⟨some 9, .lens (.t 8), some (7, false)⟩, ⟨some 10, .bini .gtr (.t 9) (i_ 255), some (7, false)⟩, o_ 11 (.pick (.t 7) (.c (.bool true)) (.t 10)), mv 12 11, ⟨some 13, .mov (.t 0), some (12, false)⟩, ⟨some 14, .idxs (.t 13) (i_ 0), some (12, false)⟩, ⟨some 15, .call 73 [(.t 14)], some (12, false)⟩, o_ 16 (.pick (.t 12) (.c (.bool true)) (.t 15))]
def A_texts_Ident_1 : List AOper := [mv 17 0, o_ 18 (.lens (.t 17)), o_ 19 (.mov (i_ 0))]
def A_texts_Ident_2 : List AOper := [mv 21 19, mv 3 21]
def A_texts_Ident_3 : List AOper := [mv 22 0, mv 23 3, o_ 24 (.idxs (.t 22) (.t 23)), mv 4 24]
def A_texts_Ident_4 : List AOper := [mv 25 4, o_ 26 (.call 74 [(.t 25)]), o_ 27 (.not (.t 26)), mv 28 27, g_ 29 (.mov (.t 4)) 28, g_ 30 (.call 75 [(.t 29)]) 28, g_ 31 (.not (.t 30)) 28, o_ 32 (.pick (.t 28) (.t 31) (.c (.bool false))), mv 33 32, g_ 34 (.mov (.t 4)) 33, g_ 35 (.call 73 [(.t 34)]) 33, g_ 36 (.not (.t 35)) 33, o_ 37 (.pick (.t 33) (.t 36) (.c (.bool false))), mv 38 37, g_ 39 (.mov (.t 4)) 38, g_ 40 (.bini .neq (.t 39) (.c (.int .u8 (95)))) 38, o_ 41 (.pick (.t 38) (.t 40) (.c (.bool false)))]
def A_texts_Ident_5 : List AOper := [o_ 42 (.bini .add (.t 19) (i_ 1)), mv 19 42]
def A_texts_Ident_6 : ACode := (.seq (.ops [o_ 20 (.bini .lss (.t 19) (.t 18))]) (.seq (.cond (.t 20) .skip (.exit 0)) (.seq (.block 1 (.seq (.ops A_texts_Ident_2) (.seq (.ops A_texts_Ident_3) (.seq (.ops A_texts_Ident_4) (.cond (.t 41) (.seq (.ops [o_ 2 (.mov (.c (.bool false)))]) .ret) .skip))))) (.ops A_texts_Ident_5))))
def A_texts_Ident : ACode := (.seq (.ops [o_ 2 (.mov (.c (.bool false)))]) (.seq (.seq (.ops A_texts_Ident_0) (.cond (.t 16) (.seq (.ops [o_ 2 (.mov (.c (.bool false)))]) .ret) .skip)) (.seq (.seq (.ops A_texts_Ident_1) (.block 0 (.loop A_texts_Ident_6))) (.seq (.ops [o_ 2 (.mov (.c (.bool true)))]) .ret))))
def R_texts_Ident : List ARes := [.tmp 2]
theorem C_texts_Ident : compF Tryz.prog Tryz.f39 = some (A_texts_Ident, R_texts_Ident) := by kernel_rfl
theorem K_texts_Ident {md : Bool} {args : List AV} {h : Hp} {Q : Res → Hp → Prop} (hl : LCode Tryz.prog md A_texts_Ident (EndQ R_texts_Ident Q) (env0 43 args) h) (hn : args.length ≤ 43 := by (simp; done)) : CallL Tryz.prog F_texts_Ident args h Q :=
  CallL.of (md := md) Tryz.func39 C_texts_Ident (by rw [Tryz.ntmps39]; exact hn) (by rw [Tryz.ntmps39]; exact hl)

-- strings.Split
abbrev F_strings_Split : Nat := 38
def A_strings_Split_0 : List AOper := [mv 5 0, mv 6 1, o_ 7 (.call 72 [(.t 5), (.t 6), (i_ 0), (i_ (-1))]), mv 4 7]
def A_strings_Split : ACode := (.seq (.ops [o_ 4 (.mov (.c (.nils)))]) (.seq (.ops A_strings_Split_0) .ret))
def R_strings_Split : List ARes := [.tmp 4]
theorem C_strings_Split : compF Tryz.prog Tryz.f38 = some (A_strings_Split, R_strings_Split) := by kernel_rfl
theorem K_strings_Split {md : Bool} {args : List AV} {h : Hp} {Q : Res → Hp → Prop} (hl : LCode Tryz.prog md A_strings_Split (EndQ R_strings_Split Q) (env0 8 args) h) (hn : args.length ≤ 8 := by (simp; done)) : CallL Tryz.prog F_strings_Split args h Q :=
  CallL.of (md := md) Tryz.func38 C_strings_Split (by rw [Tryz.ntmps38]; exact hn) (by rw [Tryz.ntmps38]; exact hl)

-- strings.genSplit
abbrev F_strings_genSplit : Nat := 72
def A_strings_genSplit_0 : List AOper := [mv 12 3, o_ 13 (.bini .eql (.t 12) (i_ 0))]
def A_strings_genSplit_1 : List AOper := [mv 14 1, o_ 15 (.bins .eql (.t 14) (.c (.str [])))]
def A_strings_genSplit_2 : List AOper := [mv 16 0, mv 17 3, o_ 18 (.call 125 [(.t 16), (.t 17)]), mv 8 18]
def A_strings_genSplit_3 : List AOper := [mv 19 3, o_ 20 (.bini .lss (.t 19) (i_ 0))]
def A_strings_genSplit_4 : List AOper := [mv 21 0, mv 22 1, o_ 23 (.call 126 [(.t 21), (.t 22)]), o_ 24 (.bini .add (.t 23) (i_ 1)), mv 3 24]
def A_strings_genSplit_5 : List AOper := [mv 25 3, mv 26 0, o_ 27 (.lens (.t 26)), o_ 28 (.bini .add (.t 27) (i_ 1)), o_ 29 (.mn (.t 25) (.t 28)), mv 3 29]
def A_strings_genSplit_6 : List AOper := [mv 30 3, o_ 31 (.mkslice 9 1 16 [.str []] (.t 30) (.t 30)), mv 9 31]
def A_strings_genSplit_7 : List AOper := [mv 32 3, o_ 33 (.bini .sub (.t 32) (i_ 1)), mv 3 33]
def A_strings_genSplit_8 : List AOper := [mv 34 10, mv 35 3, o_ 36 (.bini .lss (.t 34) (.t 35))]
def A_strings_genSplit_9 : List AOper := [mv 37 0, mv 38 1, o_ 39 (.call 127 [(.t 37), (.t 38)]), mv 11 39]
def A_strings_genSplit_10 : List AOper := [mv 40 11, o_ 41 (.bini .lss (.t 40) (i_ 0))]
def A_strings_genSplit_11 : List AOper := [mv 42 9, mv 43 10, mv 44 0, mv 45 11, mv 46 2, o_ 47 (.bini .add (.t 45) (.t 46)), o_ 48 (.slcs (.t 44) none (some (.t 47))), o_ 49 (.iaddr 9 1 (.t 42) (.t 43)), n_ (.st 1 (.t 49) (.t 48))]
def A_strings_genSplit_12 : List AOper := [mv 50 0, mv 51 11, mv 52 1, o_ 53 (.lens (.t 52)), o_ 54 (.bini .add (.t 51) (.t 53)), o_ 55 (.slcs (.t 50) (some (.t 54)) none), mv 0 55]
def A_strings_genSplit_13 : List AOper := [mv 56 10, o_ 57 (.bini .add (.t 56) (i_ 1)), mv 10 57]
def A_strings_genSplit_14 : ACode := (.seq (.seq (.ops A_strings_genSplit_8) (.cond (.t 36) .skip (.exit 0))) (.block 1 (.seq (.ops A_strings_genSplit_9) (.seq (.seq (.ops A_strings_genSplit_10) (.cond (.t 41) (.exit 0) .skip)) (.seq (.ops A_strings_genSplit_11) (.seq (.ops A_strings_genSplit_12) (.ops A_strings_genSplit_13)))))))
def A_strings_genSplit_15 : List AOper := [mv 58 9, mv 59 10, mv 60 0, o_ 61 (.iaddr 9 1 (.t 58) (.t 59)), n_ (.st 1 (.t 61) (.t 60))]
def A_strings_genSplit_16 : List AOper := [mv 62 9, mv 63 10, o_ 64 (.bini .add (.t 63) (i_ 1)), o_ 65 (.slcl 9 1 (.t 62) none (some (.t 64)) none), mv 8 65]
def A_strings_genSplit : ACode := (.seq (.ops [o_ 8 (.mov (.c (.nils)))]) (.seq (.seq (.ops A_strings_genSplit_0) (.cond (.t 13) (.seq (.ops [o_ 8 (.mov (.c (.nils)))]) .ret) .skip)) (.seq (.seq (.ops A_strings_genSplit_1) (.cond (.t 15) (.seq (.ops A_strings_genSplit_2) .ret) .skip)) (.seq (.seq (.ops A_strings_genSplit_3) (.cond (.t 20) (.ops A_strings_genSplit_4) .skip)) (.seq (.ops A_strings_genSplit_5) (.seq (.ops A_strings_genSplit_6) (.seq (.ops A_strings_genSplit_7) (.seq (.ops [o_ 10 (.mov (i_ 0))]) (.seq (.block 0 (.loop A_strings_genSplit_14)) (.seq (.ops A_strings_genSplit_15) (.seq (.ops A_strings_genSplit_16) .ret)))))))))))
def R_strings_genSplit : List ARes := [.tmp 8]
theorem C_strings_genSplit : compF Tryz.prog Tryz.f72 = some (A_strings_genSplit, R_strings_genSplit) := by kernel_rfl
theorem K_strings_genSplit {md : Bool} {args : List AV} {h : Hp} {Q : Res → Hp → Prop} (hl : LCode Tryz.prog md A_strings_genSplit (EndQ R_strings_genSplit Q) (env0 66 args) h) (hn : args.length ≤ 66 := by (simp; done)) : CallL Tryz.prog F_strings_genSplit args h Q :=
  CallL.of (md := md) Tryz.func72 C_strings_genSplit (by rw [Tryz.ntmps72]; exact hn) (by rw [Tryz.ntmps72]; exact hl)

-- strings.Count
abbrev F_strings_Count : Nat := 126
def A_strings_Count_0 : List AOper := [mv 7 1, o_ 8 (.lens (.t 7)), o_ 9 (.bini .eql (.t 8) (i_ 0))]
def A_strings_Count_1 : List AOper := [mv 10 0, o_ 11 (.call 186 [(.t 10)]), o_ 12 (.bini .add (.t 11) (i_ 1)), mv 4 12]
def A_strings_Count_2 : List AOper := [mv 13 1, o_ 14 (.lens (.t 13)), o_ 15 (.bini .eql (.t 14) (i_ 1))]
def A_strings_Count_3 : List AOper := [mv 16 0, mv 17 1, o_ 18 (.idxs (.t 17) (i_ 0)), o_ 19 (.xcount (.t 16) (.t 18)), mv 4 19]
def A_strings_Count_4 : List AOper := [mv 20 0, mv 21 1, o_ 22 (.call 127 [(.t 20), (.t 21)]), mv 6 22]
def A_strings_Count_5 : List AOper := [mv 23 6, o_ 24 (.bini .eql (.t 23) (i_ (-1)))]
def A_strings_Count_6 : List AOper := [mv 25 5, mv 4 25]
def A_strings_Count_7 : List AOper := [mv 26 5, o_ 27 (.bini .add (.t 26) (i_ 1)), mv 5 27]
def A_strings_Count_8 : List AOper := [mv 28 0, mv 29 6, mv 30 1, o_ 31 (.lens (.t 30)), o_ 32 (.bini .add (.t 29) (.t 31)), o_ 33 (.slcs (.t 28) (some (.t 32)) none), mv 0 33]
def A_strings_Count_9 : ACode := (.block 1 (.seq (.ops A_strings_Count_4) (.seq (.seq (.ops A_strings_Count_5) (.cond (.t 24) (.seq (.ops A_strings_Count_6) .ret) .skip)) (.seq (.ops A_strings_Count_7) (.ops A_strings_Count_8)))))
def A_strings_Count : ACode := (.seq (.ops [o_ 4 (.mov (i_ 0))]) (.seq (.seq (.ops A_strings_Count_0) (.cond (.t 9) (.seq (.ops A_strings_Count_1) .ret) .skip)) (.seq (.seq (.ops A_strings_Count_2) (.cond (.t 15) (.seq (.ops A_strings_Count_3) .ret) .skip)) (.seq (.ops [o_ 5 (.mov (i_ 0))]) (.block 0 (.loop A_strings_Count_9))))))
def R_strings_Count : List ARes := [.tmp 4]
theorem C_strings_Count : compF Tryz.prog Tryz.f126 = some (A_strings_Count, R_strings_Count) := by kernel_rfl
theorem K_strings_Count {md : Bool} {args : List AV} {h : Hp} {Q : Res → Hp → Prop} (hl : LCode Tryz.prog md A_strings_Count (EndQ R_strings_Count Q) (env0 34 args) h) (hn : args.length ≤ 34 := by (simp; done)) : CallL Tryz.prog F_strings_Count args h Q :=
  CallL.of (md := md) Tryz.func126 C_strings_Count (by rw [Tryz.ntmps126]; exact hn) (by rw [Tryz.ntmps126]; exact hl)

-- strings.Index
abbrev F_strings_Index : Nat := 127
def A_strings_Index_0 : List AOper := [mv 5 0, mv 6 1, o_ 7 (.call 188 [(.t 5), (.t 6)]), mv 4 7]
def A_strings_Index : ACode := (.seq (.ops [o_ 4 (.mov (i_ 0))]) (.seq (.ops A_strings_Index_0) .ret))
def R_strings_Index : List ARes := [.tmp 4]
theorem C_strings_Index : compF Tryz.prog Tryz.f127 = some (A_strings_Index, R_strings_Index) := by kernel_rfl
theorem K_strings_Index {md : Bool} {args : List AV} {h : Hp} {Q : Res → Hp → Prop} (hl : LCode Tryz.prog md A_strings_Index (EndQ R_strings_Index Q) (env0 8 args) h) (hn : args.length ≤ 8 := by (simp; done)) : CallL Tryz.prog F_strings_Index args h Q :=
  CallL.of (md := md) Tryz.func127 C_strings_Index (by rw [Tryz.ntmps127]; exact hn) (by rw [Tryz.ntmps127]; exact hl)

-- internal/stringslite.Index
abbrev F_internal_stringslite_Index : Nat := 188
def A_internal_stringslite_Index_0 : List AOper := [mv 14 1, o_ 15 (.lens (.t 14)), mv 5 15]
def A_internal_stringslite_Index_1 : List AOper := [mv 17 5, o_ 18 (.bini .eql (.t 17) (i_ 0)), mv 19 18, ⟨some 20, .mov (.t 1), some (19, false)⟩, ⟨some 21, .mov (.t 0), some (19, false)⟩, ⟨some 22, .bins .eql (.t 20) (.t 21), some (19, false)⟩, o_ 23 (.pick (.t 19) (.c (.bool true)) (.t 22)), mv 16 23]
def A_internal_stringslite_Index_2 : List AOper := [mv 25 5, o_ 26 (.bini .eql (.t 25) (i_ 1)), mv 24 26]
def A_internal_stringslite_Index_3 : List AOper := [mv 27 0, mv 28 1, o_ 29 (.idxs (.t 28) (i_ 0)), o_ 30 (.call 261 [(.t 27), (.t 29)]), mv 4 30]
def A_internal_stringslite_Index_4 : List AOper := [mv 32 5, mv 33 0, o_ 34 (.lens (.t 33)), o_ 35 (.bini .geq (.t 32) (.t 34)), mv 31 35]
def A_internal_stringslite_Index_5 : List AOper := [mv 37 5, o_ 38 (.bad), o_ 39 (.bini .leq (.t 37) (.t 38)), mv 40 39, g_ 41 (.mov (.t 0)) 40, g_ 42 (.lens (.t 41)) 40, g_ 43 (.bini .leq (.t 42) (i_ 64)) 40, o_ 44 (.pick (.t 40) (.t 43) (.c (.bool false))), mv 36 44]
def A_internal_stringslite_Index_6 : List AOper := [mv 45 0, mv 46 1, o_ 47 (.bad), mv 4 47]
def A_internal_stringslite_Index_7 : List AOper := [mv 48 1, o_ 49 (.idxs (.t 48) (i_ 0)), mv 6 49]
def A_internal_stringslite_Index_8 : List AOper := [mv 50 1, o_ 51 (.idxs (.t 50) (i_ 1)), mv 7 51]
def A_internal_stringslite_Index_9 : List AOper := [mv 52 0, o_ 53 (.lens (.t 52)), mv 54 5, o_ 55 (.bini .sub (.t 53) (.t 54)), o_ 56 (.bini .add (.t 55) (i_ 1)), mv 9 56]
def A_internal_stringslite_Index_10 : List AOper := [mv 57 8, mv 58 9, o_ 59 (.bini .lss (.t 57) (.t 58))]
def A_internal_stringslite_Index_11 : List AOper := [mv 60 0, mv 61 8, o_ 62 (.idxs (.t 60) (.t 61)), mv 63 6, o_ 64 (.bini .neq (.t 62) (.t 63))]
def A_internal_stringslite_Index_12 : List AOper := [mv 65 0, mv 66 8, o_ 67 (.bini .add (.t 66) (i_ 1)), mv 68 9, o_ 69 (.slcs (.t 65) (some (.t 67)) (some (.t 68))), mv 70 6, o_ 71 (.call 261 [(.t 69), (.t 70)]), mv 11 71]
def A_internal_stringslite_Index_13 : List AOper := [mv 72 11, o_ 73 (.bini .lss (.t 72) (i_ 0))]
def A_internal_stringslite_Index_14 : List AOper := [mv 74 8, mv 75 11, o_ 76 (.bini .add (.t 75) (i_ 1)), o_ 77 (.bini .add (.t 74) (.t 76)), mv 8 77]
def A_internal_stringslite_Index_15 : List AOper := [mv 78 0, mv 79 8, o_ 80 (.bini .add (.t 79) (i_ 1)), o_ 81 (.idxs (.t 78) (.t 80)), mv 82 7, o_ 83 (.bini .eql (.t 81) (.t 82)), mv 84 83, g_ 85 (.mov (.t 0)) 84, g_ 86 (.mov (.t 8)) 84, g_ 87 (.mov (.t 8)) 84, g_ 88 (.mov (.t 5)) 84, g_ 89 (.bini .add (.t 87) (.t 88)) 84, g_ 90 (.slcs (.t 85) (some (.t 86)) (some (.t 89))) 84, g_ 91 (.mov (.t 1)) 84, g_ 92 (.bins .eql (.t 90) (.t 91)) 84, o_ 93 (.pick (.t 84) (.t 92) (.c (.bool false)))]
def A_internal_stringslite_Index_16 : List AOper := [mv 94 8, mv 4 94]
def A_internal_stringslite_Index_17 : List AOper := [mv 95 8, o_ 96 (.bini .add (.t 95) (i_ 1)), mv 8 96]
def A_internal_stringslite_Index_18 : List AOper := [mv 97 10, o_ 98 (.bini .add (.t 97) (i_ 1)), mv 10 98]
def A_internal_stringslite_Index_19 : List AOper := [mv 99 5, o_ 100 (.bad), o_ 101 (.bini .leq (.t 99) (.t 100)), mv 102 101, g_ 103 (.mov (.t 10)) 102, g_ 104 (.mov (.t 8)) 102, g_ 105 (.call 263 [(.t 104)]) 102, g_ 106 (.bini .gtr (.t 103) (.t 105)) 102, o_ 107 (.pick (.t 102) (.t 106) (.c (.bool false)))]
def A_internal_stringslite_Index_20 : List AOper := [mv 108 0, mv 109 8, o_ 110 (.slcs (.t 108) (some (.t 109)) none), mv 111 1, o_ 112 (.bad), mv 12 112]
def A_internal_stringslite_Index_21 : List AOper := [mv 113 12, o_ 114 (.bini .geq (.t 113) (i_ 0))]
def A_internal_stringslite_Index_22 : List AOper := [mv 115 12, mv 116 8, o_ 117 (.bini .add (.t 115) (.t 116)), mv 4 117]
def A_internal_stringslite_Index_23 : List AOper := [mv 118 5, o_ 119 (.bad), o_ 120 (.bini .gtr (.t 118) (.t 119)), mv 121 120, g_ 122 (.mov (.t 10)) 121, g_ 123 (.mov (.t 8)) 121, g_ 124 (.bini .shr (.t 123) (.c (.int .u64 (4)))) 121, g_ 125 (.bini .add (i_ 4) (.t 124)) 121, g_ 126 (.bini .geq (.t 122) (.t 125)) 121, o_ 127 (.pick (.t 121) (.t 126) (.c (.bool false))), mv 128 127, g_ 129 (.mov (.t 8)) 128, g_ 130 (.mov (.t 9)) 128, g_ 131 (.bini .lss (.t 129) (.t 130)) 128, o_ 132 (.pick (.t 128) (.t 131) (.c (.bool false)))]
def A_internal_stringslite_Index_24 : List AOper := [mv 133 0, mv 134 8, o_ 135 (.slcs (.t 133) (some (.t 134)) none), mv 136 1, o_ 137 (.call 264 [(.t 135), (.t 136)]), mv 13 137]
def A_internal_stringslite_Index_25 : List AOper := [mv 138 13, o_ 139 (.bini .lss (.t 138) (i_ 0))]
def A_internal_stringslite_Index_26 : List AOper := [mv 140 8, mv 141 13, o_ 142 (.bini .add (.t 140) (.t 141)), mv 4 142]
def A_internal_stringslite_Index_27 : ACode := (.seq (.seq (.ops A_internal_stringslite_Index_10) (.cond (.t 59) .skip (.exit 1))) (.block 2 (.seq (.seq (.ops A_internal_stringslite_Index_11) (.cond (.t 64) (.seq (.ops A_internal_stringslite_Index_12) (.seq (.seq (.ops A_internal_stringslite_Index_13) (.cond (.t 73) (.seq (.ops [o_ 4 (.mov (i_ (-1)))]) .ret) .skip)) (.ops A_internal_stringslite_Index_14))) .skip)) (.seq (.seq (.ops A_internal_stringslite_Index_15) (.cond (.t 93) (.seq (.ops A_internal_stringslite_Index_16) .ret) .skip)) (.seq (.ops A_internal_stringslite_Index_17) (.seq (.ops A_internal_stringslite_Index_18) (.seq (.ops A_internal_stringslite_Index_19) (.cond (.t 107) (.seq (.ops A_internal_stringslite_Index_20) (.seq (.seq (.ops A_internal_stringslite_Index_21) (.cond (.t 114) (.seq (.ops A_internal_stringslite_Index_22) .ret) .skip)) (.seq (.ops [o_ 4 (.mov (i_ (-1)))]) .ret))) (.seq (.ops A_internal_stringslite_Index_23) (.cond (.t 132) (.seq (.ops A_internal_stringslite_Index_24) (.seq (.seq (.ops A_internal_stringslite_Index_25) (.cond (.t 139) (.seq (.ops [o_ 4 (.mov (i_ (-1)))]) .ret) .skip)) (.seq (.ops A_internal_stringslite_Index_26) .ret))) .skip))))))))))
def A_internal_stringslite_Index : ACode := (.seq (.ops [o_ 4 (.mov (i_ 0))]) (.seq (.ops A_internal_stringslite_Index_0) (.seq (.block 0 (.seq (.ops A_internal_stringslite_Index_1) (.cond (.t 16) (.seq (.ops [o_ 4 (.mov (i_ 0))]) .ret) (.seq (.ops A_internal_stringslite_Index_2) (.cond (.t 24) (.seq (.ops A_internal_stringslite_Index_3) .ret) (.seq (.ops A_internal_stringslite_Index_4) (.cond (.t 31) (.seq (.ops [o_ 4 (.mov (i_ (-1)))]) .ret) (.seq (.ops A_internal_stringslite_Index_5) (.cond (.t 36) (.seq (.ops A_internal_stringslite_Index_6) .ret) .skip))))))))) (.seq (.ops A_internal_stringslite_Index_7) (.seq (.ops A_internal_stringslite_Index_8) (.seq (.ops [o_ 8 (.mov (i_ 0))]) (.seq (.ops A_internal_stringslite_Index_9) (.seq (.ops [o_ 10 (.mov (i_ 0))]) (.seq (.block 1 (.loop A_internal_stringslite_Index_27)) (.seq (.ops [o_ 4 (.mov (i_ (-1)))]) .ret))))))))))
def R_internal_stringslite_Index : List ARes := [.tmp 4]
theorem C_internal_stringslite_Index : compF Tryz.prog Tryz.f188 = some (A_internal_stringslite_Index, R_internal_stringslite_Index) := by kernel_rfl
theorem K_internal_stringslite_Index {md : Bool} {args : List AV} {h : Hp} {Q : Res → Hp → Prop} (hl : LCode Tryz.prog md A_internal_stringslite_Index (EndQ R_internal_stringslite_Index Q) (env0 143 args) h) (hn : args.length ≤ 143 := by (simp; done)) : CallL Tryz.prog F_internal_stringslite_Index args h Q :=
  CallL.of (md := md) Tryz.func188 C_internal_stringslite_Index (by rw [Tryz.ntmps188]; exact hn) (by rw [Tryz.ntmps188]; exact hl)

-- internal/stringslite.IndexByte
abbrev F_internal_stringslite_IndexByte : Nat := 261
def A_internal_stringslite_IndexByte_0 : List AOper := [mv 5 0, mv 6 1, o_ 7 (.xindex (.t 5) (.t 6)), mv 4 7]
def A_internal_stringslite_IndexByte : ACode := (.seq (.ops [o_ 4 (.mov (i_ 0))]) (.seq (.ops A_internal_stringslite_IndexByte_0) .ret))
def R_internal_stringslite_IndexByte : List ARes := [.tmp 4]
theorem C_internal_stringslite_IndexByte : compF Tryz.prog Tryz.f261 = some (A_internal_stringslite_IndexByte, R_internal_stringslite_IndexByte) := by kernel_rfl
theorem K_internal_stringslite_IndexByte {md : Bool} {args : List AV} {h : Hp} {Q : Res → Hp → Prop} (hl : LCode Tryz.prog md A_internal_stringslite_IndexByte (EndQ R_internal_stringslite_IndexByte Q) (env0 8 args) h) (hn : args.length ≤ 8 := by (simp; done)) : CallL Tryz.prog F_internal_stringslite_IndexByte args h Q :=
  CallL.of (md := md) Tryz.func261 C_internal_stringslite_IndexByte (by rw [Tryz.ntmps261]; exact hn) (by rw [Tryz.ntmps261]; exact hl)

-- lexicon/lexiconref02.in
abbrev F_lexiconref02_in : Nat := 77
def A_lexiconref02_in_0 : List AOper := [mv 7 0, mv 8 1, o_ 9 (.bini .geq (.t 7) (.t 8)), mv 10 9, g_ 11 (.mov (.t 0)) 10, g_ 12 (.mov (.t 2)) 10, g_ 13 (.bini .leq (.t 11) (.t 12)) 10, o_ 14 (.pick (.t 10) (.t 13) (.c (.bool false))), mv 6 14]
def A_lexiconref02_in : ACode := (.seq (.ops [o_ 6 (.mov (.c (.bool false)))]) (.seq (.ops A_lexiconref02_in_0) .ret))
def R_lexiconref02_in : List ARes := [.tmp 6]
theorem C_lexiconref02_in : compF Tryz.prog Tryz.f77 = some (A_lexiconref02_in, R_lexiconref02_in) := by kernel_rfl
theorem K_lexiconref02_in {md : Bool} {args : List AV} {h : Hp} {Q : Res → Hp → Prop} (hl : LCode Tryz.prog md A_lexiconref02_in (EndQ R_lexiconref02_in Q) (env0 15 args) h) (hn : args.length ≤ 15 := by (simp; done)) : CallL Tryz.prog F_lexiconref02_in args h Q :=
  CallL.of (md := md) Tryz.func77 C_lexiconref02_in (by rw [Tryz.ntmps77]; exact hn) (by rw [Tryz.ntmps77]; exact hl)

-- lexicon/lexiconref02.small
abbrev F_lexiconref02_small : Nat := 128
def A_lexiconref02_small_0 : List AOper := [mv 3 0, o_ 4 (.call 77 [(.t 3), (.c (.int .u8 (97))), (.c (.int .u8 (122)))]), mv 2 4]
def A_lexiconref02_small : ACode := (.seq (.ops [o_ 2 (.mov (.c (.bool false)))]) (.seq (.ops A_lexiconref02_small_0) .ret))
def R_lexiconref02_small : List ARes := [.tmp 2]
theorem C_lexiconref02_small : compF Tryz.prog Tryz.f128 = some (A_lexiconref02_small, R_lexiconref02_small) := by kernel_rfl
theorem K_lexiconref02_small {md : Bool} {args : List AV} {h : Hp} {Q : Res → Hp → Prop} (hl : LCode Tryz.prog md A_lexiconref02_small (EndQ R_lexiconref02_small Q) (env0 5 args) h) (hn : args.length ≤ 5 := by (simp; done)) : CallL Tryz.prog F_lexiconref02_small args h Q :=
  CallL.of (md := md) Tryz.func128 C_lexiconref02_small (by rw [Tryz.ntmps128]; exact hn) (by rw [Tryz.ntmps128]; exact hl)

-- lexicon/lexiconref02.capital
abbrev F_lexiconref02_capital : Nat := 129
def A_lexiconref02_capital_0 : List AOper := [mv 3 0, o_ 4 (.call 77 [(.t 3), (.c (.int .u8 (65))), (.c (.int .u8 (90)))]), mv 2 4]
def A_lexiconref02_capital : ACode := (.seq (.ops [o_ 2 (.mov (.c (.bool false)))]) (.seq (.ops A_lexiconref02_capital_0) .ret))
def R_lexiconref02_capital : List ARes := [.tmp 2]
theorem C_lexiconref02_capital : compF Tryz.prog Tryz.f129 = some (A_lexiconref02_capital, R_lexiconref02_capital) := by kernel_rfl
theorem K_lexiconref02_capital {md : Bool} {args : List AV} {h : Hp} {Q : Res → Hp → Prop} (hl : LCode Tryz.prog md A_lexiconref02_capital (EndQ R_lexiconref02_capital Q) (env0 5 args) h) (hn : args.length ≤ 5 := by (simp; done)) : CallL Tryz.prog F_lexiconref02_capital args h Q :=
  CallL.of (md := md) Tryz.func129 C_lexiconref02_capital (by rw [Tryz.ntmps129]; exact hn) (by rw [Tryz.ntmps129]; exact hl)

-- lexicon/lexiconref02.digit
abbrev F_lexiconref02_digit : Nat := 79
def A_lexiconref02_digit_0 : List AOper := [mv 3 0, o_ 4 (.call 77 [(.t 3), (.c (.int .u8 (48))), (.c (.int .u8 (57)))]), mv 2 4]
def A_lexiconref02_digit : ACode := (.seq (.ops [o_ 2 (.mov (.c (.bool false)))]) (.seq (.ops A_lexiconref02_digit_0) .ret))
def R_lexiconref02_digit : List ARes := [.tmp 2]
theorem C_lexiconref02_digit : compF Tryz.prog Tryz.f79 = some (A_lexiconref02_digit, R_lexiconref02_digit) := by kernel_rfl
theorem K_lexiconref02_digit {md : Bool} {args : List AV} {h : Hp} {Q : Res → Hp → Prop} (hl : LCode Tryz.prog md A_lexiconref02_digit (EndQ R_lexiconref02_digit Q) (env0 5 args) h) (hn : args.length ≤ 5 := by (simp; done)) : CallL Tryz.prog F_lexiconref02_digit args h Q :=
  CallL.of (md := md) Tryz.func79 C_lexiconref02_digit (by rw [Tryz.ntmps79]; exact hn) (by rw [Tryz.ntmps79]; exact hl)

-- lexicon/lexiconref02.letter
abbrev F_lexiconref02_letter : Nat := 78
def A_lexiconref02_letter_0 : List AOper := [mv 3 0, o_ 4 (.call 128 [(.t 3)]), mv 5 4, ⟨some 6, .mov (.t 0), some (5, false)⟩, ⟨some 7, .call 129 [(.t 6)], some (5, false)⟩, o_ 8 (.pick (.t 5) (.c (.bool true)) (.t 7)), mv 9 8, ⟨some 10, .mov (.t 0), some (9, false)⟩, ⟨some 11, .bini .eql (.t 10) (.c (.int .u8 (95))), some (9, false)⟩, o_ 12 (.pick (.t 9) (.c (.bool true)) (.t 11)), mv 2 12]
def A_lexiconref02_letter : ACode := (.seq (.ops [o_ 2 (.mov (.c (.bool false)))]) (.seq (.ops A_lexiconref02_letter_0) .ret))
def R_lexiconref02_letter : List ARes := [.tmp 2]
theorem C_lexiconref02_letter : compF Tryz.prog Tryz.f78 = some (A_lexiconref02_letter, R_lexiconref02_letter) := by kernel_rfl
theorem K_lexiconref02_letter {md : Bool} {args : List AV} {h : Hp} {Q : Res → Hp → Prop} (hl : LCode Tryz.prog md A_lexiconref02_letter (EndQ R_lexiconref02_letter Q) (env0 13 args) h) (hn : args.length ≤ 13 := by (simp; done)) : CallL Tryz.prog F_lexiconref02_letter args h Q :=
  CallL.of (md := md) Tryz.func78 C_lexiconref02_letter (by rw [Tryz.ntmps78]; exact hn) (by rw [Tryz.ntmps78]; exact hl)

-- lexicon/lexiconref02.Ident
abbrev F_lexiconref02_Ident : Nat := 42
def A_lexiconref02_Ident_0 : List AOper := [mv 6 0, o_ 7 (.lens (.t 6)), o_ 8 (.bini .eql (.t 7) (i_ 0)), mv 9 8, ⟨some 10, .mov (.t 0), some (9, false)⟩, ⟨some 11, .lens (.t 10), some (9, false)⟩, ⟨some 12, .bini .gtr (.t 11) (i_ 255), some (9, false)⟩, o_ 13 (.pick (.t 9) (.c (.bool true)) (.t 12))]
def A_lexiconref02_Ident_1 : List AOper := [mv 14 3, mv 15 0, o_ 16 (.lens (.t 15)), o_ 17 (.bini .lss (.t 14) (.t 16))]
def A_lexiconref02_Ident_2 : List AOper := [mv 20 0, mv 21 3, o_ 22 (.idxs (.t 20) (.t 21)), o_ 23 (.call 78 [(.t 22)]), mv 4 23]
def A_lexiconref02_Ident_3 : List AOper := [mv 24 0, mv 25 3, o_ 26 (.idxs (.t 24) (.t 25)), o_ 27 (.call 79 [(.t 26)]), mv 5 27]
def A_lexiconref02_Ident_4 : List AOper := [mv 28 4, o_ 29 (.not (.t 28)), mv 30 29, g_ 31 (.mov (.t 5)) 30, g_ 32 (.not (.t 31)) 30, g_ 33 (.mov (.t 32)) 30, ⟨some 34, .mov (.t 3), some (33, false)⟩, ⟨some 35, .bini .eql (.t 34) (i_ 0), some (33, false)⟩, g_ 36 (.pick (.t 33) (.c (.bool true)) (.t 35)) 30, o_ 37 (.pick (.t 30) (.t 36) (.c (.bool false)))]
def A_lexiconref02_Ident_5 : List AOper := [mv 18 3, o_ 19 (.bini .add (.t 18) (i_ 1)), mv 3 19]
def A_lexiconref02_Ident_6 : ACode := (.seq (.seq (.ops A_lexiconref02_Ident_1) (.cond (.t 17) .skip (.exit 0))) (.seq (.block 1 (.seq (.ops A_lexiconref02_Ident_2) (.seq (.ops A_lexiconref02_Ident_3) (.seq (.ops A_lexiconref02_Ident_4) (.cond (.t 37) (.seq (.ops [o_ 2 (.mov (.c (.bool false)))]) .ret) .skip))))) (.ops A_lexiconref02_Ident_5)))
def A_lexiconref02_Ident : ACode := (.seq (.ops [o_ 2 (.mov (.c (.bool false)))]) (.seq (.seq (.ops A_lexiconref02_Ident_0) (.cond (.t 13) (.seq (.ops [o_ 2 (.mov (.c (.bool false)))]) .ret) .skip)) (.seq (.seq (.ops [o_ 3 (.mov (i_ 0))]) (.block 0 (.loop A_lexiconref02_Ident_6))) (.seq (.ops [o_ 2 (.mov (.c (.bool true)))]) .ret))))
def R_lexiconref02_Ident : List ARes := [.tmp 2]
theorem C_lexiconref02_Ident : compF Tryz.prog Tryz.f42 = some (A_lexiconref02_Ident, R_lexiconref02_Ident) := by kernel_rfl
theorem K_lexiconref02_Ident {md : Bool} {args : List AV} {h : Hp} {Q : Res → Hp → Prop} (hl : LCode Tryz.prog md A_lexiconref02_Ident (EndQ R_lexiconref02_Ident Q) (env0 38 args) h) (hn : args.length ≤ 38 := by (simp; done)) : CallL Tryz.prog F_lexiconref02_Ident args h Q :=
  CallL.of (md := md) Tryz.func42 C_lexiconref02_Ident (by rw [Tryz.ntmps42]; exact hn) (by rw [Tryz.ntmps42]; exact hl)
end Go.Proofs.YtpldnmjdoogghaaGreatDoor

/- The codes of functions as the logic L has them; each is what the logic makes of the given program (by the kernel). Printed by program (gen_codes.py). -/
namespace Go.Proofs.YtpldnmjdoogghaaGreatDoor
open Go.L

-- lexicon/texts.Full
abbrev F_texts_Full : Nat := 18
def A_texts_Full_0 : List AOper := [mv 5 0, o_ 6 (.lens (.t 5)), o_ 7 (.bini .gtr (.t 6) (i_ 255))]
def A_texts_Full_1 : List AOper := [mv 8 0, o_ 9 (.call 38 [(.t 8), (.c (.str [46]))]), o_ 10 (.lenl (.t 9)), o_ 11 (.mov (i_ 0))]
def A_texts_Full_2 : List AOper := [o_ 13 (.iaddr 9 1 (.t 9) (.t 11)), o_ 14 (.ld1 (.t 13)), mv 4 14]
def A_texts_Full_3 : List AOper := [mv 15 4, o_ 16 (.call 39 [(.t 15)]), o_ 17 (.not (.t 16))]
def A_texts_Full_4 : List AOper := [o_ 18 (.bini .add (.t 11) (i_ 1)), mv 11 18]
def A_texts_Full_5 : ACode := (.seq (.ops [o_ 12 (.bini .lss (.t 11) (.t 10))]) (.seq (.cond (.t 12) .skip (.exit 0)) (.seq (.block 1 (.seq (.ops A_texts_Full_2) (.seq (.ops A_texts_Full_3) (.cond (.t 17) (.seq (.ops [o_ 2 (.mov (.c (.bool false)))]) .ret) .skip)))) (.ops A_texts_Full_4))))
def A_texts_Full : ACode := (.seq (.ops [o_ 2 (.mov (.c (.bool false)))]) (.seq (.seq (.ops A_texts_Full_0) (.cond (.t 7) (.seq (.ops [o_ 2 (.mov (.c (.bool false)))]) .ret) .skip)) (.seq (.seq (.ops A_texts_Full_1) (.block 0 (.loop A_texts_Full_5))) (.seq (.ops [o_ 2 (.mov (.c (.bool true)))]) .ret))))
def R_texts_Full : List ARes := [.tmp 2]
theorem C_texts_Full : compF Tryz.prog Tryz.f18 = some (A_texts_Full, R_texts_Full) := by kernel_rfl
theorem K_texts_Full {md : Bool} {args : List AV} {h : Hp} {Q : Res → Hp → Prop} (hl : LCode Tryz.prog md A_texts_Full (EndQ R_texts_Full Q) (env0 19 args) h) (hn : args.length ≤ 19 := by (simp; done)) : CallL Tryz.prog F_texts_Full args h Q :=
  CallL.of (md := md) Tryz.func18 C_texts_Full (by rw [Tryz.ntmps18]; exact hn) (by rw [Tryz.ntmps18]; exact hl)

-- lexicon/texts.Good[string]
abbrev F_texts_Good : Nat := 17
def A_texts_Good_0 : List AOper := [mv 7 0, o_ 8 (.rngs (.t 7))]
def A_texts_Good_1 : List AOper := [o_ 9 (.nxs (.t 8)), o_ 10 (.ext 0 (.t 9))]
def A_texts_Good_2 : List AOper := [o_ 11 (.ext 1 (.t 9)), o_ 12 (.ext 2 (.t 9)), mv 3 11, mv 4 12]
def A_texts_Good_3 : List AOper := [mv 13 4, o_ 14 (.bini .neq (.t 13) (.c (.int .i32 (65533))))]
def A_texts_Good_4 : List AOper := [mv 16 0, mv 17 3, o_ 18 (.slcs (.t 16) (some (.t 17)) none), o_ 19 (.call 37 [(.t 18)]), mv 15 19, o_ 20 (.ext 0 (.t 15)), o_ 21 (.ext 1 (.t 15)), mv 5 20, mv 6 21]
def A_texts_Good_5 : List AOper := [mv 22 6, o_ 23 (.bini .eql (.t 22) (i_ 1))]
def A_texts_Good_6 : List AOper := [mv 24 3, mv 2 24]
def A_texts_Good_7 : ACode := (.seq (.ops A_texts_Good_1) (.seq (.cond (.t 10) .skip (.exit 0)) (.block 1 (.seq (.ops A_texts_Good_2) (.seq (.seq (.ops A_texts_Good_3) (.cond (.t 14) (.exit 1) .skip)) (.seq (.ops A_texts_Good_4) (.seq (.ops A_texts_Good_5) (.cond (.t 23) (.seq (.ops A_texts_Good_6) .ret) .skip))))))))
def A_texts_Good : ACode := (.seq (.ops [o_ 2 (.mov (i_ 0))]) (.seq (.seq (.ops A_texts_Good_0) (.block 0 (.loop A_texts_Good_7))) (.seq (.ops [o_ 2 (.mov (i_ (-1)))]) .ret)))
def R_texts_Good : List ARes := [.tmp 2]
theorem C_texts_Good : compF Tryz.prog Tryz.f17 = some (A_texts_Good, R_texts_Good) := by kernel_rfl
theorem K_texts_Good {md : Bool} {args : List AV} {h : Hp} {Q : Res → Hp → Prop} (hl : LCode Tryz.prog md A_texts_Good (EndQ R_texts_Good Q) (env0 25 args) h) (hn : args.length ≤ 25 := by (simp; done)) : CallL Tryz.prog F_texts_Good args h Q :=
  CallL.of (md := md) Tryz.func17 C_texts_Good (by rw [Tryz.ntmps17]; exact hn) (by rw [Tryz.ntmps17]; exact hl)

-- lexicon/lexiconref02.Parts
abbrev F_lexiconref02_Parts : Nat := 41
def A_lexiconref02_Parts_0 : List AOper := [mv 6 5, mv 7 0, o_ 8 (.lens (.t 7)), o_ 9 (.bini .leq (.t 6) (.t 8))]
def A_lexiconref02_Parts_1 : List AOper := [mv 12 5, mv 13 0, o_ 14 (.lens (.t 13)), o_ 15 (.bini .eql (.t 12) (.t 14)), mv 16 15, ⟨some 17, .mov (.t 0), some (16, false)⟩, ⟨some 18, .mov (.t 5), some (16, false)⟩, ⟨some 19, .idxs (.t 17) (.t 18), some (16, false)⟩, ⟨some 20, .bini .eql (.t 19) (.c (.int .u8 (46))), some (16, false)⟩, o_ 21 (.pick (.t 16) (.c (.bool true)) (.t 20))]
def A_lexiconref02_Parts_2 : List AOper := [mv 22 3, mv 23 0, mv 24 4, mv 25 5, o_ 26 (.slcs (.t 23) (some (.t 24)) (some (.t 25))), o_ 27 (.bslice 9 1 1 [.str []] [(0, 1, (.t 26))]), o_ 28 (.app 9 1 16 (.t 22) (.t 27)), mv 3 28]
def A_lexiconref02_Parts_3 : List AOper := [mv 29 5, o_ 30 (.bini .add (.t 29) (i_ 1)), mv 4 30]
def A_lexiconref02_Parts_4 : List AOper := [mv 10 5, o_ 11 (.bini .add (.t 10) (i_ 1)), mv 5 11]
def A_lexiconref02_Parts_5 : ACode := (.seq (.seq (.ops A_lexiconref02_Parts_0) (.cond (.t 9) .skip (.exit 0))) (.seq (.block 1 (.seq (.ops A_lexiconref02_Parts_1) (.cond (.t 21) (.seq (.ops A_lexiconref02_Parts_2) (.ops A_lexiconref02_Parts_3)) .skip))) (.ops A_lexiconref02_Parts_4)))
def A_lexiconref02_Parts_6 : List AOper := [mv 31 3, mv 2 31]
def A_lexiconref02_Parts : ACode := (.seq (.ops [o_ 2 (.mov (.c (.nils)))]) (.seq (.ops [o_ 3 (.mov (.c (.nils)))]) (.seq (.ops [o_ 4 (.mov (i_ 0))]) (.seq (.seq (.ops [o_ 5 (.mov (i_ 0))]) (.block 0 (.loop A_lexiconref02_Parts_5))) (.seq (.ops A_lexiconref02_Parts_6) .ret)))))
def R_lexiconref02_Parts : List ARes := [.tmp 2]
theorem C_lexiconref02_Parts : compF Tryz.prog Tryz.f41 = some (A_lexiconref02_Parts, R_lexiconref02_Parts) := by kernel_rfl
theorem K_lexiconref02_Parts {md : Bool} {args : List AV} {h : Hp} {Q : Res → Hp → Prop} (hl : LCode Tryz.prog md A_lexiconref02_Parts (EndQ R_lexiconref02_Parts Q) (env0 32 args) h) (hn : args.length ≤ 32 := by (simp; done)) : CallL Tryz.prog F_lexiconref02_Parts args h Q :=
  CallL.of (md := md) Tryz.func41 C_lexiconref02_Parts (by rw [Tryz.ntmps41]; exact hn) (by rw [Tryz.ntmps41]; exact hl)

-- lexicon/lexiconref02.Full
abbrev F_lexiconref02_Full : Nat := 20
def A_lexiconref02_Full_0 : List AOper := [mv 6 0, o_ 7 (.lens (.t 6)), o_ 8 (.bini .gtr (.t 7) (i_ 255))]
def A_lexiconref02_Full_1 : List AOper := [mv 9 0, o_ 10 (.call 41 [(.t 9)]), mv 3 10]
def A_lexiconref02_Full_2 : List AOper := [mv 11 4, mv 12 3, o_ 13 (.lenl (.t 12)), o_ 14 (.bini .lss (.t 11) (.t 13))]
def A_lexiconref02_Full_3 : List AOper := [mv 17 3, mv 18 4, o_ 19 (.iaddr 9 1 (.t 17) (.t 18)), o_ 20 (.ld1 (.t 19)), o_ 21 (.call 42 [(.t 20)]), mv 5 21]
def A_lexiconref02_Full_4 : List AOper := [mv 22 5, o_ 23 (.not (.t 22))]
def A_lexiconref02_Full_5 : List AOper := [mv 15 4, o_ 16 (.bini .add (.t 15) (i_ 1)), mv 4 16]
def A_lexiconref02_Full_6 : ACode := (.seq (.seq (.ops A_lexiconref02_Full_2) (.cond (.t 14) .skip (.exit 0))) (.seq (.block 1 (.seq (.ops A_lexiconref02_Full_3) (.seq (.ops A_lexiconref02_Full_4) (.cond (.t 23) (.seq (.ops [o_ 2 (.mov (.c (.bool false)))]) .ret) .skip)))) (.ops A_lexiconref02_Full_5)))
def A_lexiconref02_Full : ACode := (.seq (.ops [o_ 2 (.mov (.c (.bool false)))]) (.seq (.seq (.ops A_lexiconref02_Full_0) (.cond (.t 8) (.seq (.ops [o_ 2 (.mov (.c (.bool false)))]) .ret) .skip)) (.seq (.ops A_lexiconref02_Full_1) (.seq (.seq (.ops [o_ 4 (.mov (i_ 0))]) (.block 0 (.loop A_lexiconref02_Full_6))) (.seq (.ops [o_ 2 (.mov (.c (.bool true)))]) .ret)))))
def R_lexiconref02_Full : List ARes := [.tmp 2]
theorem C_lexiconref02_Full : compF Tryz.prog Tryz.f20 = some (A_lexiconref02_Full, R_lexiconref02_Full) := by kernel_rfl
theorem K_lexiconref02_Full {md : Bool} {args : List AV} {h : Hp} {Q : Res → Hp → Prop} (hl : LCode Tryz.prog md A_lexiconref02_Full (EndQ R_lexiconref02_Full Q) (env0 24 args) h) (hn : args.length ≤ 24 := by (simp; done)) : CallL Tryz.prog F_lexiconref02_Full args h Q :=
  CallL.of (md := md) Tryz.func20 C_lexiconref02_Full (by rw [Tryz.ntmps20]; exact hn) (by rw [Tryz.ntmps20]; exact hl)

-- lexicon/lexiconref02.rest
abbrev F_lexiconref02_rest : Nat := 76
def A_lexiconref02_rest_0 : List AOper := [o_ 2 (.mov (i_ 0)), o_ 3 (.mov (.c (.int .u8 (0)))), o_ 4 (.mov (.c (.int .u8 (0))))]
def A_lexiconref02_rest_1 : List AOper := [mv 6 0, o_ 7 (.bini .lss (.t 6) (.c (.int .u8 (128)))), mv 5 7]
def A_lexiconref02_rest_2 : List AOper := [o_ 2 (.mov (i_ 0)), o_ 3 (.mov (.c (.int .u8 (0)))), o_ 4 (.mov (.c (.int .u8 (0))))]
def A_lexiconref02_rest_3 : List AOper := [mv 9 0, o_ 10 (.call 77 [(.t 9), (.c (.int .u8 (194))), (.c (.int .u8 (223)))]), mv 8 10]
def A_lexiconref02_rest_4 : List AOper := [o_ 2 (.mov (i_ 1)), o_ 3 (.mov (.c (.int .u8 (128)))), o_ 4 (.mov (.c (.int .u8 (191))))]
def A_lexiconref02_rest_5 : List AOper := [mv 12 0, o_ 13 (.bini .eql (.t 12) (.c (.int .u8 (224)))), mv 11 13]
def A_lexiconref02_rest_6 : List AOper := [o_ 2 (.mov (i_ 2)), o_ 3 (.mov (.c (.int .u8 (160)))), o_ 4 (.mov (.c (.int .u8 (191))))]
def A_lexiconref02_rest_7 : List AOper := [mv 15 0, o_ 16 (.bini .eql (.t 15) (.c (.int .u8 (237)))), mv 14 16]
def A_lexiconref02_rest_8 : List AOper := [o_ 2 (.mov (i_ 2)), o_ 3 (.mov (.c (.int .u8 (128)))), o_ 4 (.mov (.c (.int .u8 (159))))]
def A_lexiconref02_rest_9 : List AOper := [mv 18 0, o_ 19 (.call 77 [(.t 18), (.c (.int .u8 (225))), (.c (.int .u8 (239)))]), mv 17 19]
def A_lexiconref02_rest_10 : List AOper := [o_ 2 (.mov (i_ 2)), o_ 3 (.mov (.c (.int .u8 (128)))), o_ 4 (.mov (.c (.int .u8 (191))))]
def A_lexiconref02_rest_11 : List AOper := [mv 21 0, o_ 22 (.bini .eql (.t 21) (.c (.int .u8 (240)))), mv 20 22]
def A_lexiconref02_rest_12 : List AOper := [o_ 2 (.mov (i_ 3)), o_ 3 (.mov (.c (.int .u8 (144)))), o_ 4 (.mov (.c (.int .u8 (191))))]
def A_lexiconref02_rest_13 : List AOper := [mv 24 0, o_ 25 (.call 77 [(.t 24), (.c (.int .u8 (241))), (.c (.int .u8 (243)))]), mv 23 25]
def A_lexiconref02_rest_14 : List AOper := [o_ 2 (.mov (i_ 3)), o_ 3 (.mov (.c (.int .u8 (128)))), o_ 4 (.mov (.c (.int .u8 (191))))]
def A_lexiconref02_rest_15 : List AOper := [mv 27 0, o_ 28 (.bini .eql (.t 27) (.c (.int .u8 (244)))), mv 26 28]
def A_lexiconref02_rest_16 : List AOper := [o_ 2 (.mov (i_ 3)), o_ 3 (.mov (.c (.int .u8 (128)))), o_ 4 (.mov (.c (.int .u8 (143))))]
def A_lexiconref02_rest_17 : List AOper := [o_ 2 (.mov (i_ (-1))), o_ 3 (.mov (.c (.int .u8 (0)))), o_ 4 (.mov (.c (.int .u8 (0))))]
def A_lexiconref02_rest : ACode := (.seq (.ops A_lexiconref02_rest_0) (.seq (.block 0 (.seq (.ops A_lexiconref02_rest_1) (.cond (.t 5) (.seq (.ops A_lexiconref02_rest_2) .ret) (.seq (.ops A_lexiconref02_rest_3) (.cond (.t 8) (.seq (.ops A_lexiconref02_rest_4) .ret) (.seq (.ops A_lexiconref02_rest_5) (.cond (.t 11) (.seq (.ops A_lexiconref02_rest_6) .ret) (.seq (.ops A_lexiconref02_rest_7) (.cond (.t 14) (.seq (.ops A_lexiconref02_rest_8) .ret) (.seq (.ops A_lexiconref02_rest_9) (.cond (.t 17) (.seq (.ops A_lexiconref02_rest_10) .ret) (.seq (.ops A_lexiconref02_rest_11) (.cond (.t 20) (.seq (.ops A_lexiconref02_rest_12) .ret) (.seq (.ops A_lexiconref02_rest_13) (.cond (.t 23) (.seq (.ops A_lexiconref02_rest_14) .ret) (.seq (.ops A_lexiconref02_rest_15) (.cond (.t 26) (.seq (.ops A_lexiconref02_rest_16) .ret) .skip))))))))))))))))) (.seq (.ops A_lexiconref02_rest_17) .ret)))
def R_lexiconref02_rest : List ARes := [.tmp 2, .tmp 3, .tmp 4]
theorem C_lexiconref02_rest : compF Tryz.prog Tryz.f76 = some (A_lexiconref02_rest, R_lexiconref02_rest) := by kernel_rfl
theorem K_lexiconref02_rest {md : Bool} {args : List AV} {h : Hp} {Q : Res → Hp → Prop} (hl : LCode Tryz.prog md A_lexiconref02_rest (EndQ R_lexiconref02_rest Q) (env0 29 args) h) (hn : args.length ≤ 29 := by (simp; done)) : CallL Tryz.prog F_lexiconref02_rest args h Q :=
  CallL.of (md := md) Tryz.func76 C_lexiconref02_rest (by rw [Tryz.ntmps76]; exact hn) (by rw [Tryz.ntmps76]; exact hl)

-- lexicon/lexiconref02.Size
abbrev F_lexiconref02_Size : Nat := 40
def A_lexiconref02_Size_0 : List AOper := [mv 11 0, mv 12 1, o_ 13 (.idxs (.t 11) (.t 12)), o_ 14 (.call 76 [(.t 13)]), mv 10 14, o_ 15 (.ext 0 (.t 10)), o_ 16 (.ext 1 (.t 10)), o_ 17 (.ext 2 (.t 10)), mv 5 15, mv 6 16, mv 7 17]
def A_lexiconref02_Size_1 : List AOper := [mv 18 5, o_ 19 (.bini .lss (.t 18) (i_ 0)), mv 20 19, ⟨some 21, .mov (.t 1), some (20, false)⟩, ⟨some 22, .mov (.t 5), some (20, false)⟩, ⟨some 23, .bini .add (.t 21) (.t 22), some (20, false)⟩, ⟨some 24, .mov (.t 0), some (20, false)⟩, ⟨some 25, .lens (.t 24), some (20, false)⟩, ⟨some 26, .bini .geq (.t 23) (.t 25), some (20, false)⟩, o_ 27 (.pick (.t 20) (.c (.bool true)) (.t 26))]
def A_lexiconref02_Size_2 : List AOper := [mv 28 8, mv 29 5, o_ 30 (.bini .leq (.t 28) (.t 29))]
def A_lexiconref02_Size_3 : List AOper := [mv 33 0, mv 34 1, mv 35 8, o_ 36 (.bini .add (.t 34) (.t 35)), o_ 37 (.idxs (.t 33) (.t 36)), mv 38 6, mv 39 7, o_ 40 (.call 77 [(.t 37), (.t 38), (.t 39)]), mv 9 40]
def A_lexiconref02_Size_4 : List AOper := [mv 41 9, o_ 42 (.not (.t 41))]
def A_lexiconref02_Size_5 : List AOper := [mv 31 8, o_ 32 (.bini .add (.t 31) (i_ 1)), mv 8 32]
def A_lexiconref02_Size_6 : ACode := (.seq (.seq (.ops A_lexiconref02_Size_2) (.cond (.t 30) .skip (.exit 0))) (.seq (.block 1 (.seq (.ops A_lexiconref02_Size_3) (.seq (.seq (.ops A_lexiconref02_Size_4) (.cond (.t 42) (.seq (.ops [o_ 4 (.mov (i_ 0))]) .ret) .skip)) (.seq (.ops [o_ 6 (.mov (.c (.int .u8 (128))))]) (.ops [o_ 7 (.mov (.c (.int .u8 (191))))]))))) (.ops A_lexiconref02_Size_5)))
def A_lexiconref02_Size_7 : List AOper := [mv 43 5, o_ 44 (.bini .add (.t 43) (i_ 1)), mv 4 44]
def A_lexiconref02_Size : ACode := (.seq (.ops [o_ 4 (.mov (i_ 0))]) (.seq (.ops A_lexiconref02_Size_0) (.seq (.seq (.ops A_lexiconref02_Size_1) (.cond (.t 27) (.seq (.ops [o_ 4 (.mov (i_ 0))]) .ret) .skip)) (.seq (.seq (.ops [o_ 8 (.mov (i_ 1))]) (.block 0 (.loop A_lexiconref02_Size_6))) (.seq (.ops A_lexiconref02_Size_7) .ret)))))
def R_lexiconref02_Size : List ARes := [.tmp 4]
theorem C_lexiconref02_Size : compF Tryz.prog Tryz.f40 = some (A_lexiconref02_Size, R_lexiconref02_Size) := by kernel_rfl
theorem K_lexiconref02_Size {md : Bool} {args : List AV} {h : Hp} {Q : Res → Hp → Prop} (hl : LCode Tryz.prog md A_lexiconref02_Size (EndQ R_lexiconref02_Size Q) (env0 45 args) h) (hn : args.length ≤ 45 := by (simp; done)) : CallL Tryz.prog F_lexiconref02_Size args h Q :=
  CallL.of (md := md) Tryz.func40 C_lexiconref02_Size (by rw [Tryz.ntmps40]; exact hn) (by rw [Tryz.ntmps40]; exact hl)

-- lexicon/lexiconref02.Good
abbrev F_lexiconref02_Good : Nat := 19
def A_lexiconref02_Good_0 : List AOper := [mv 5 3, mv 6 0, o_ 7 (.lens (.t 6)), o_ 8 (.bini .lss (.t 5) (.t 7))]
def A_lexiconref02_Good_1 : List AOper := [mv 9 0, mv 10 3, o_ 11 (.call 40 [(.t 9), (.t 10)]), mv 4 11]
def A_lexiconref02_Good_2 : List AOper := [mv 12 4, o_ 13 (.bini .eql (.t 12) (i_ 0))]
def A_lexiconref02_Good_3 : List AOper := [mv 14 3, mv 2 14]
def A_lexiconref02_Good_4 : List AOper := [mv 15 3, mv 16 4, o_ 17 (.bini .add (.t 15) (.t 16)), mv 3 17]
def A_lexiconref02_Good_5 : ACode := (.seq (.seq (.ops A_lexiconref02_Good_0) (.cond (.t 8) .skip (.exit 0))) (.block 1 (.seq (.ops A_lexiconref02_Good_1) (.seq (.seq (.ops A_lexiconref02_Good_2) (.cond (.t 13) (.seq (.ops A_lexiconref02_Good_3) .ret) .skip)) (.ops A_lexiconref02_Good_4)))))
def A_lexiconref02_Good : ACode := (.seq (.ops [o_ 2 (.mov (i_ 0))]) (.seq (.ops [o_ 3 (.mov (i_ 0))]) (.seq (.block 0 (.loop A_lexiconref02_Good_5)) (.seq (.ops [o_ 2 (.mov (i_ (-1)))]) .ret))))
def R_lexiconref02_Good : List ARes := [.tmp 2]
theorem C_lexiconref02_Good : compF Tryz.prog Tryz.f19 = some (A_lexiconref02_Good, R_lexiconref02_Good) := by kernel_rfl
theorem K_lexiconref02_Good {md : Bool} {args : List AV} {h : Hp} {Q : Res → Hp → Prop} (hl : LCode Tryz.prog md A_lexiconref02_Good (EndQ R_lexiconref02_Good Q) (env0 18 args) h) (hn : args.length ≤ 18 := by (simp; done)) : CallL Tryz.prog F_lexiconref02_Good args h Q :=
  CallL.of (md := md) Tryz.func19 C_lexiconref02_Good (by rw [Tryz.ntmps19]; exact hn) (by rw [Tryz.ntmps19]; exact hl)
end Go.Proofs.YtpldnmjdoogghaaGreatDoor

/-
  Contracts: texts, names, texts that are cut; the document's names.
-/
namespace Go.Proofs.YtpldnmjdoogghaaGreatDoor
open Go.L

def el (s : Str) : List AV := [.str s]
abbrev tx (l : List Str) : List (List AV) := l.map el
theorem tx_len (l : List Str) : (tx l).length = l.length := List.length_map ..

theorem noidss_tx (p : Nat → Bool) (l : List Str) : noidss p (tx l) = true := by
  induction l with
  | nil => rfl
  | cons a l ih => simpa [noidss, noids, noid, el] using ih

abbrev Ts : TypeId := 9
theorem tx_get {l : List Str} {k : Nat} {x : Str} (h : l[k]? = some x) : (tx l)[k]? = some (el x) := by rw [List.getElem?_map, h]; rfl

theorem inR_t {a b : Nat} {c : UInt8} (h1 : (a : Int) ≤ c.toNat) (h2 : (c.toNat : Int) ≤ b) : true = inR a b c.toNat := by
  simp only [inR, Nat.ble_eq_true_of_le (show a ≤ c.toNat by omega), Nat.ble_eq_true_of_le (show c.toNat ≤ b by omega)]; rfl
theorem ble_f {a b : Nat} (h : b < a) : Nat.ble a b = false := by
  cases hb : Nat.ble a b with
  | false => rfl
  | true => exact absurd (Nat.le_of_ble_eq_true hb) (by omega)
theorem inR_f1 {a b : Nat} {c : UInt8} (h : (c.toNat : Int) < a) : false = inR a b c.toNat := by
  simp only [inR, ble_f (show c.toNat < a by omega)]; rfl
theorem inR_f2 {a b : Nat} {c : UInt8} (h : (b : Int) < c.toNat) : false = inR a b c.toNat := by
  simp only [inR, ble_f (show b < c.toNat by omega), Bool.and_false]

theorem small_L (c : UInt8) : PureL Tryz.prog F_texts_small [.int .u8 c.toNat] (.bool (smallC c)) := by
  intro h
  refine K_texts_small (md := false) ?_
  refine s_le (fun h1 => ?_) (fun h1 => ?_)
  · refine s_le (fun h2 => ?_) (fun h2 => ?_)
    · exact ⟨rfl, Res.bool_eq (inR_t h1 h2), rfl⟩
    · exact ⟨rfl, Res.bool_eq (inR_f2 h2), rfl⟩
  · exact ⟨rfl, Res.bool_eq (inR_f1 h1), rfl⟩
theorem capital_L (c : UInt8) : PureL Tryz.prog F_texts_capital [.int .u8 c.toNat] (.bool (capC c)) := by
  intro h
  refine K_texts_capital (md := false) ?_
  refine s_le (fun h1 => ?_) (fun h1 => ?_)
  · refine s_le (fun h2 => ?_) (fun h2 => ?_)
    · exact ⟨rfl, Res.bool_eq (inR_t h1 h2), rfl⟩
    · exact ⟨rfl, Res.bool_eq (inR_f2 h2), rfl⟩
  · exact ⟨rfl, Res.bool_eq (inR_f1 h1), rfl⟩
theorem digit_L (c : UInt8) : PureL Tryz.prog F_texts_digit [.int .u8 c.toNat] (.bool (digitC c)) := by
  intro h
  refine K_texts_digit (md := false) ?_
  refine s_le (fun h1 => ?_) (fun h1 => ?_)
  · refine s_le (fun h2 => ?_) (fun h2 => ?_)
    · exact ⟨rfl, Res.bool_eq (inR_t h1 h2), rfl⟩
    · exact ⟨rfl, Res.bool_eq (inR_f2 h2), rfl⟩
  · exact ⟨rfl, Res.bool_eq (inR_f1 h1), rfl⟩

theorem ident_long {s : Str} (h : (255 : Int) < (s.length : Nat)) : false = ident s := by
  cases s with
  | nil => simp at h
  | cons c r =>
    have : Nat.ble (c :: r).length 255 = false := ble_f (by omega)
    simp only [ident, this, Bool.false_and]
theorem ident_dig {s : Str} {c : UInt8} (h : s[0]? = some c) (hd : digitC c = true) : false = ident s := by
  cases s with
  | nil => cases h
  | cons d r =>
    have : d = c := by simpa using h
    subst this
    simp only [ident, hd, Bool.not_true, Bool.and_false, Bool.false_and]
theorem ident_bad {s : Str} {k : Nat} {x : UInt8} (h : s[k]? = some x) (hd : identC x = false) : false = ident s := by
  cases s with
  | nil => cases h
  | cons d r =>
    have : (d :: r).all identC = false := List.all_eq_false.2 ⟨x, List.mem_of_getElem? h, by simp [hd]⟩
    simp only [ident, this, Bool.and_false]
theorem ident_good {s : Str} {c : UInt8} (h : s[0]? = some c) (hl : (s.length : Nat) ≤ (255 : Int)) (hd : digitC c = false) {k : Nat} (hk : s.length ≤ k) (hall : ∀ (j : Nat) (x : UInt8), j < k → s[j]? = some x → identC x = true) : true = ident s := by
  cases s with
  | nil => cases h
  | cons d r =>
    have : d = c := by simpa using h
    subst this
    have h2 : (d :: r).all identC = true := List.all_eq_true.2 fun x hx => by
      obtain ⟨j, hj⟩ := List.getElem?_of_mem hx
      exact hall j x (by have := (List.getElem?_eq_some_iff.1 hj).1; omega) hj
    simp only [ident, hd, h2, Nat.ble_eq_true_of_le (show (d :: r).length ≤ 255 by omega)]; rfl
theorem all_step {s : Str} {p : UInt8 → Bool} {k : Nat} {x : UInt8} (hall : ∀ (j : Nat) (x : UInt8), j < k → s[j]? = some x → p x = true) (hx : s[k]? = some x) (hp : p x = true) :
    ∀ (j : Nat) (x : UInt8), j < k + 1 → s[j]? = some x → p x = true := fun j y hj hy => by
  by_cases e : j = k
  · subst e; rw [hx] at hy; cases hy; exact hp
  · exact hall j y (by omega) hy

theorem Ident_L (s : Str) (hs : s.length ≤ 1000000000000000) : PureL Tryz.prog F_texts_Ident [.str s] (.bool (ident s)) := by
  intro h
  refine K_texts_Ident (md := false) ?_
  refine s_seq (fun h1 => ?_) (fun h1 => ?_)
  · exact ⟨rfl, Res.bool_eq (by rw [h1]; rfl), rfl⟩
  refine s_lt (fun h2 => ?_) (fun h2 => ?_)
  · exact ⟨rfl, Res.bool_eq (ident_long h2), rfl⟩
  obtain ⟨c, hc⟩ : ∃ c, s[0]? = some c := by
    cases s with
    | nil => exact absurd rfl h1
    | cons c r => exact ⟨c, rfl⟩
  refine s_byte 0 c rfl hc ?_
  refine (digit_L c).useC (fun h3 => ?_) (fun h3 => ?_)
  · exact ⟨rfl, Res.bool_eq (ident_dig hc h3), rfl⟩
  refine s_loop s.length (fun k (_ : Unit) => k ≤ s.length ∧ ∀ (j : Nat) (x : UInt8), j < k → s[j]? = some x → identC x = true) (fun k _ => [(0, .str s), (18, .int .i64 s.length), (19, .int .i64 k)]) (fun _ _ => h) ()
    ⟨Nat.zero_le _, fun j x hj => by omega⟩ rfl rfl ⟨rfl, rfl, rfl, trivial⟩ (fun k s hI => hI.1) ?_
  intro k _ n0 g0 hk ⟨_, hall⟩
  refine s_lt (fun h4 => ?_) (fun h4 => ?_)
  · obtain ⟨x, hx⟩ := get_lt (l := s) (k := k) (by omega)
    refine s_byte k x rfl hx ?_
    refine (small_L x).useC (fun a1 => ?_) (fun a1 => ?_)
    · refine s_nat (k + 1) (by omega) (by omega) ?_
      exact ⟨(), by omega, ⟨by omega, all_step hall hx (by simp [identC, a1])⟩, rfl, rfl, rfl, rfl, rfl, trivial⟩
    refine (capital_L x).useC (fun a2 => ?_) (fun a2 => ?_)
    · refine s_nat (k + 1) (by omega) (by omega) ?_
      exact ⟨(), by omega, ⟨by omega, all_step hall hx (by simp [identC, a2])⟩, rfl, rfl, rfl, rfl, rfl, trivial⟩
    refine (digit_L x).useC (fun a3 => ?_) (fun a3 => ?_)
    · refine s_nat (k + 1) (by omega) (by omega) ?_
      exact ⟨(), by omega, ⟨by omega, all_step hall hx (by simp [identC, a3])⟩, rfl, rfl, rfl, rfl, rfl, trivial⟩
    refine s_ne (fun a4 => ?_) (fun a4 => ?_)
    · have h95 : (x == 95) = false := by
        rw [beq_eq_false_iff_ne]
        rintro rfl; exact a4 rfl
      exact ⟨rfl, Res.bool_eq (ident_bad hx (by simp [identC, a1, a2, a3, h95])), rfl⟩
    · have h95 : x = 95 := UInt8.toNat_inj.1 (show x.toNat = 95 by omega)
      refine s_nat (k + 1) (by omega) (by omega) ?_
      exact ⟨(), by omega, ⟨by omega, all_step hall hx (by simp [identC, h95])⟩, rfl, rfl, rfl, rfl, rfl, trivial⟩
  · exact ⟨rfl, Res.bool_eq (ident_good hc h2 h3 (by omega) hall), rfl⟩

/-! ### Parts of texts -/
theorem u8_back (c : UInt8) : ((c.toNat : Nat) : Int).toNat.toUInt8 = c := by
  rw [Int.toNat_natCast]; exact UInt8.ofNat_toNat
theorem indexByte_cut {c : UInt8} {r : Str} : ∀ {p : Str}, c ∉ p → Lib.indexByte (p ++ c :: r) c = (p.length : Nat)
  | [], _ => by simp [Lib.indexByte]
  | x :: p, h => by
    have h1 : (x == c) = false := by rw [beq_eq_false_iff_ne]; exact fun e => h (by rw [e]; exact List.mem_cons_self)
    have ih := indexByte_cut (r := r) (p := p) fun hc => h (List.mem_cons_of_mem _ hc)
    rw [List.cons_append, Lib.indexByte, ih, if_neg (by simp [h1]), if_neg (by simp)]
    simp
theorem cut_at {c : UInt8} : ∀ {s : Str}, c ∈ s → ∃ p r, s = p ++ c :: r ∧ c ∉ p
  | [], h => by cases h
  | x :: s, h => by
    by_cases e : x = c
    · exact ⟨[], s, by rw [e]; rfl, by simp⟩
    · rcases List.mem_cons.1 h with h | h
      · exact absurd h.symm e
      · obtain ⟨p, r, rfl, hp⟩ := cut_at h
        exact ⟨x :: p, r, rfl, fun hc => by
          rcases List.mem_cons.1 hc with h | h
          · exact e h.symm
          · exact hp h⟩

theorem lite_IndexByte_L (s : Str) (c : UInt8) : PureL Tryz.prog F_internal_stringslite_IndexByte [.str s, .int .u8 c.toNat] (.int .i64 (Lib.indexByte s c)) := by
  intro h
  refine K_internal_stringslite_IndexByte (md := false) ?_
  refine s_i ?_
  exact ⟨rfl, Res.int_eq (by rw [u8_back]), rfl⟩
theorem lite_Index1_L (s : Str) (c : UInt8) : PureL Tryz.prog F_internal_stringslite_Index [.str s, .str [c]] (.int .i64 (Lib.indexByte s c)) := by
  intro h
  refine K_internal_stringslite_Index (md := false) ?_
  refine s_eq (fun h1 => by simp at h1) (fun _ => ?_)
  refine s_seq (fun h1 => ?_) (fun _ => ?_)
  · subst h1
    exact ⟨rfl, Res.int_eq (by simp [Lib.indexByte]), rfl⟩
  refine s_eq (fun _ => ?_) (fun h1 => absurd rfl h1)
  refine s_byte 0 c rfl rfl ?_
  refine (lite_IndexByte_L s c).use ?_
  exact ⟨rfl, rfl, rfl⟩
theorem Index1_L (s : Str) (c : UInt8) : PureL Tryz.prog F_strings_Index [.str s, .str [c]] (.int .i64 (Lib.indexByte s c)) := by
  intro h
  refine K_strings_Index (md := false) ?_
  refine (lite_Index1_L s c).use ?_
  exact ⟨rfl, rfl, rfl⟩
theorem Count1_L (s : Str) (c : UInt8) : PureL Tryz.prog F_strings_Count [.str s, .str [c]] (.int .i64 (s.count c : Nat)) := by
  intro h
  refine K_strings_Count (md := false) ?_
  refine s_eq (fun h1 => by simp at h1) (fun _ => ?_)
  refine s_eq (fun _ => ?_) (fun h1 => absurd rfl h1)
  refine s_byte 0 c rfl rfl ?_
  exact ⟨rfl, Res.int_eq (by rw [u8_back]; rfl), rfl⟩

theorem s_mn {a b : Int} {M : Int → Prop} (h : a ≤ b) (k : M a) : genI (if b < a then b else a) M := by
  rintro _ rfl
  rw [if_neg (by omega)]; exact k
theorem set_parts {k m : Nat} {d : List Str} {p : Str} (hd : d.length = k) : (tx d ++ List.replicate (m + 1) [AV.str []]).set k [.str p] = tx (d ++ [p]) ++ List.replicate m [AV.str []] := by
  have h1 : (tx d).length = k := by rw [tx_len, hd]
  rw [List.set_append_right _ _ (by omega), h1, Nat.sub_self, List.replicate_succ, List.set_cons_zero]
  simp [tx, el]

/-- The parts so far, what is left. -/
structure Sp (c : UInt8) (s : Str) (k : Nat) (x : List Str × Str) : Prop where
  eq : splitC c s = x.1 ++ splitC c x.2
  len : x.1.length = k
  le : x.2.length ≤ s.length
theorem Sp.count {c : UInt8} {s : Str} {k : Nat} {x : List Str × Str} (h : Sp c s k x) : s.count c = k + x.2.count c := by
  have h1 := splitC_len c s
  rw [h.eq, List.length_append, h.len, splitC_len] at h1
  omega
theorem Sp.more {c : UInt8} {s : Str} {k : Nat} {x : List Str × Str} (h : Sp c s k x) (hk : k < s.count c) : ∃ p r, x.2 = p ++ c :: r ∧ c ∉ p ∧ Sp c s (k + 1) (x.1 ++ [p], r) := by
  have h1 := h.count
  obtain ⟨p, r, h2, h3⟩ := cut_at (c := c) (s := x.2) (List.count_pos_iff.1 (by omega))
  have h4 := h.le
  refine ⟨p, r, h2, h3, ?_, by simp [h.len], ?_⟩
  · rw [h.eq, h2, splitC_cut h3]; simp
  · rw [h2] at h4; simp at h4 ⊢; omega
theorem Sp.last {c : UInt8} {s : Str} {k : Nat} {x : List Str × Str} (h : Sp c s k x) (hk : s.count c ≤ k) : splitC c s = x.1 ++ [x.2] := by
  have h1 := h.count
  rw [h.eq, splitC_one (List.count_eq_zero.1 (by omega))]

theorem genSplit_L (s : Str) (c : UInt8) (h : Hp) (hs : s.length ≤ 1000000000000) : CallL Tryz.prog F_strings_genSplit [.str s, .str [c], .int .i64 0, .int .i64 (-1)] h fun r h' => OwnB Ts h h' r (tx (splitC c s)) := by
  have hcl : s.count c ≤ s.length := List.count_le_length
  have hsl := splitC_len c s
  obtain ⟨n, hn⟩ : ∃ n, n = s.count c := ⟨_, rfl⟩
  have hC := Count1_L s c
  rw [← hn] at hcl hsl hC
  refine K_strings_genSplit (md := false) ?_
  refine s_eq (fun h1 => absurd h1 (by decide)) (fun _ => ?_)
  refine s_seq (fun h1 => absurd h1 (by simp)) (fun _ => ?_)
  refine s_lt (fun _ => ?_) (fun h1 => absurd h1 (by decide))
  refine hC.use ?_
  refine s_nat (n + 1) (by omega) (by omega) ?_
  refine s_nat (s.length + 1) (by omega) (by omega) ?_
  refine s_mn (by omega) ?_
  refine ⟨n + 1, n + 1, rfl, rfl, Nat.le_refl _, by unfold capMax; omega, by unfold capMax; omega, fun i hi => ?_⟩
  refine s_nat n (by omega) (by omega) ?_
  refine s_blk (fun e' h' => ∃ x, Sp c s n x ∧ h' = h.set i (.row Ts (tx x.1 ++ List.replicate (n + 1 - n) [.str []])) ∧ e'.ds = [] ∧ Has e' [(0, .str x.2), (9, .slc i 0 (n + 1) (some (n + 1))), (10, .int .i64 (n : Nat))]) ?_ ?_
  · refine s_loop n (fun k (x : List Str × Str) => k ≤ n ∧ Sp c s k x)
      (fun k x => [(0, .str x.2), (1, .str [c]), (2, .int .i64 0), (3, .int .i64 (n : Nat)), (9, .slc i 0 (n + 1) (some (n + 1))), (10, .int .i64 k)])
      (fun k x => h.set i (.row Ts (tx x.1 ++ List.replicate (n + 1 - k) [.str []]))) ([], s) ⟨Nat.zero_le _, rfl, rfl, Nat.le_refl _⟩ rfl rfl ⟨rfl, rfl, rfl, rfl, rfl, rfl, trivial⟩ (fun k s hI => hI.1) ?_
    rintro k ⟨d, rest⟩ n0 g0 hk ⟨_, hsp⟩
    refine s_lt (fun h1 => ?_) (fun h1 => ?_)
    · obtain ⟨p, r, e2, hp, hsp'⟩ := hsp.more (by omega)
      obtain rfl : rest = p ++ c :: r := e2
      have hle : (p ++ c :: r).length ≤ s.length := hsp.le
      have hlen : (p ++ c :: r).length = p.length + 1 + r.length := by simp; omega
      have hI := Index1_L (p ++ c :: r) c
      rw [indexByte_cut hp] at hI
      have hdl : d.length = k := hsp.len
      have htd := tx_len d
      have hget : (tx d ++ List.replicate (n + 1 - k) [AV.str []])[0 + k]? = some [.str []] := by
        rw [Nat.zero_add, List.getElem?_append_right (by omega), List.getElem?_replicate, if_pos (by omega)]
      have e1 : ((p ++ c :: r).take (p ++ c :: r).length).drop (p.length + 1) = r := by
        rw [List.take_length, show p ++ c :: r = (p ++ [c]) ++ r by simp]
        exact List.drop_left' (by simp)
      have e3 : ((p ++ c :: r).take p.length).drop 0 = p := by rw [List.take_left, List.drop_zero]
      have hH : (h.set i (.row Ts (tx d ++ List.replicate (n + 1 - k) [.str []]))).set i (.row Ts ((tx d ++ List.replicate (n + 1 - k) [AV.str []]).set (0 + k) [.str (((p ++ c :: r).take p.length).drop 0)])) = h.set i (.row Ts (tx (d ++ [p]) ++ List.replicate (n + 1 - (k + 1)) [.str []])) := by
        rw [Hp.set_set, Nat.zero_add, e3, show n + 1 - k = (n - k) + 1 by omega, set_parts hdl, show n + 1 - (k + 1) = n - k by omega]
      refine hI.use ?_
      refine s_lt (fun h2 => by omega) (fun _ => ?_)
      refine s_nat p.length (by omega) (by omega) ?_
      refine ⟨p.length, rfl, Nat.zero_le _, (by show p.length ≤ (p ++ c :: r).length; omega), ?_⟩
      refine ⟨k, rfl, by omega, ⟨_, Hp.set_same _ _ _⟩, ?_⟩
      refine ⟨_, _, _, Hp.set_same _ _ _, hget, rfl, rfl, rfl, Nat.le_refl _, ?_⟩
      refine s_nat (p.length + 1) (by simp) (by omega) ?_
      refine ⟨p.length + 1, rfl, (by show p.length + 1 ≤ (p ++ c :: r).length; omega), Nat.le_refl _, ?_⟩
      refine s_nat (k + 1) (by omega) (by omega) ?_
      exact ⟨(d ++ [p], r), by omega, ⟨by omega, hsp'⟩, hH, rfl, congrArg AV.str e1, rfl, rfl, rfl, rfl, rfl, trivial⟩
    · obtain rfl : k = n := by omega
      exact ⟨(d, rest), hsp, rfl, rfl, rfl, rfl, rfl, trivial⟩
  · rintro e' h' ⟨⟨d, rest⟩, hsp, rfl, hd, hs⟩
    obtain ⟨n0, g0, rfl⟩ := hs.out hd
    have hdl : d.length = n := hsp.len
    have htd := tx_len d
    have hget : (tx d ++ List.replicate (n + 1 - n) [AV.str []])[0 + n]? = some [.str []] := by
      rw [Nat.zero_add, List.getElem?_append_right (by omega), List.getElem?_replicate, if_pos (by omega)]
    have hrow : (tx d ++ List.replicate (n + 1 - n) [AV.str []]).set (0 + n) [.str rest] = tx (splitC c s) ++ [] := by
      have hl : splitC c s = d ++ [rest] := hsp.last (by omega)
      rw [Nat.zero_add, show n + 1 - n = 0 + 1 by omega, set_parts hdl, hl]; rfl
    refine ⟨n, rfl, by omega, ⟨_, Hp.set_same _ _ _⟩, ?_⟩
    refine ⟨_, _, _, Hp.set_same _ _ _, hget, rfl, rfl, rfl, Nat.le_refl _, ?_⟩
    refine s_nat (n + 1) (by omega) (by omega) ?_
    refine ⟨⟨_, Hp.set_same _ _ _⟩, n + 1, rfl, Nat.zero_le _, Nat.le_refl _, ?_⟩
    refine ⟨rfl, ((Gr.refl h).set hi.1 _).set hi.1 _, .inr ⟨i, [], ?_, hi.1, ?_, rfl⟩⟩
    · rw [tx_len, hsl]; rfl
    · rw [Hp.set_same, ← hrow]; rfl

theorem Split_L (s : Str) (c : UInt8) (h : Hp) (hs : s.length ≤ 1000000000000) : CallL Tryz.prog F_strings_Split [.str s, .str [c]] h fun r h' => OwnB Ts h h' r (tx (splitC c s)) := by
  refine K_strings_Split (md := false) ?_
  refine (genSplit_L s c h hs).mono ?_
  rintro r h' hr
  have hr' := hr
  rcases hr.2 with ⟨rfl, _⟩ | ⟨_, _, rfl, _⟩
  · exact ⟨rfl, hr'⟩
  · exact ⟨rfl, hr'⟩

theorem in_L (c : UInt8) (a b : Nat) : PureL Tryz.prog F_lexiconref02_in [.int .u8 c.toNat, .int .u8 a, .int .u8 b] (.bool (inR a b c.toNat)) := by
  intro h
  refine K_lexiconref02_in (md := false) ?_
  refine s_le (fun h1 => ?_) (fun h1 => ?_)
  · refine s_le (fun h2 => ?_) (fun h2 => ?_)
    · exact ⟨rfl, Res.bool_eq (inR_t h1 h2), rfl⟩
    · exact ⟨rfl, Res.bool_eq (inR_f2 h2), rfl⟩
  · exact ⟨rfl, Res.bool_eq (inR_f1 h1), rfl⟩
theorem rsmall_L (c : UInt8) : PureL Tryz.prog F_lexiconref02_small [.int .u8 c.toNat] (.bool (smallC c)) := fun h =>
  K_lexiconref02_small (md := false) ((in_L c 97 122).use ⟨rfl, rfl, rfl⟩)
theorem rcap_L (c : UInt8) : PureL Tryz.prog F_lexiconref02_capital [.int .u8 c.toNat] (.bool (capC c)) := fun h =>
  K_lexiconref02_capital (md := false) ((in_L c 65 90).use ⟨rfl, rfl, rfl⟩)
theorem rdigit_L (c : UInt8) : PureL Tryz.prog F_lexiconref02_digit [.int .u8 c.toNat] (.bool (digitC c)) := fun h =>
  K_lexiconref02_digit (md := false) ((in_L c 48 57).use ⟨rfl, rfl, rfl⟩)
theorem letter_L (c : UInt8) : PureL Tryz.prog F_lexiconref02_letter [.int .u8 c.toNat] (.bool (smallC c || capC c || c == 95)) := by
  intro h
  refine K_lexiconref02_letter (md := false) ?_
  refine (rsmall_L c).useC (fun h1 => ?_) (fun h1 => ?_)
  · exact ⟨rfl, Res.bool_eq (by rw [h1]; rfl), rfl⟩
  refine (rcap_L c).useC (fun h2 => ?_) (fun h2 => ?_)
  · exact ⟨rfl, Res.bool_eq (by rw [h1, h2]; rfl), rfl⟩
  refine s_b ?_
  exact ⟨rfl, Res.bool_eq (by rw [h1, h2]; exact byte_eq c 95), rfl⟩

theorem rIdent_L (s : Str) (hs : s.length ≤ 1000000000000000) : PureL Tryz.prog F_lexiconref02_Ident [.str s] (.bool (ident s)) := by
  intro h
  refine K_lexiconref02_Ident (md := false) ?_
  refine s_eq (fun h1 => ?_) (fun h1 => ?_)
  · have : s = [] := List.eq_nil_of_length_eq_zero (by omega)
    exact ⟨rfl, Res.bool_eq (by rw [this]; rfl), rfl⟩
  refine s_lt (fun h2 => ?_) (fun h2 => ?_)
  · exact ⟨rfl, Res.bool_eq (ident_long h2), rfl⟩
  obtain ⟨c, hc⟩ := get_lt (l := s) (k := 0) (by omega)
  refine s_loop s.length (fun k (_ : Unit) => k ≤ s.length ∧ (∀ (j : Nat) (x : UInt8), j < k → s[j]? = some x → identC x = true) ∧ (0 < k → digitC c = false)) (fun k _ => [(0, .str s), (3, .int .i64 k)]) (fun _ _ => h) ()
    ⟨Nat.zero_le _, fun j x hj => by omega, fun h => by omega⟩ rfl rfl ⟨rfl, rfl, trivial⟩ (fun k s hI => hI.1) ?_
  intro k _ n0 g0 hk ⟨_, hall, hd⟩
  refine s_lt (fun h4 => ?_) (fun h4 => ?_)
  · obtain ⟨x, hx⟩ := get_lt (l := s) (k := k) (by omega)
    refine s_byte k x rfl hx ?_
    have first : k = 0 → x = c := fun e => by subst e; rw [hc] at hx; cases hx; rfl
    refine (letter_L x).useC (fun a1 => ?_) (fun a1 => ?_)
    · have hi : identC x = true := by
        simp only [identC]; revert a1
        cases smallC x <;> cases capC x <;> cases digitC x <;> simp
      refine s_byte k x rfl hx ?_
      have hdx : 0 < k + 1 → digitC c = false := fun _ => by
        by_cases e : k = 0
        · rw [← first e, Bool.eq_false_iff]
          intro hdig
          simp only [digitC, inR, smallC, capC, Bool.and_eq_true, Bool.or_eq_true, Nat.ble_eq, beq_iff_eq] at hdig a1
          rcases a1 with (a1 | a1) | a1
          · omega
          · omega
          · subst a1; exact absurd hdig.2 (by decide)
        · exact hd (by omega)
      refine (rdigit_L x).useC (fun a2 => ?_) (fun a2 => ?_)
      · refine s_nat (k + 1) (by omega) (by omega) ?_
        exact ⟨(), by omega, ⟨by omega, all_step hall hx hi, hdx⟩, rfl, rfl, rfl, rfl, trivial⟩
      · refine s_nat (k + 1) (by omega) (by omega) ?_
        exact ⟨(), by omega, ⟨by omega, all_step hall hx hi, hdx⟩, rfl, rfl, rfl, rfl, trivial⟩
    · refine s_byte k x rfl hx ?_
      refine (rdigit_L x).useC (fun a2 => ?_) (fun a2 => ?_)
      · refine s_eq (fun h5 => ?_) (fun h5 => ?_)
        · exact ⟨rfl, Res.bool_eq (ident_dig hc (by rw [← first (by omega)]; exact a2)), rfl⟩
        · refine s_nat (k + 1) (by omega) (by omega) ?_
          exact ⟨(), by omega, ⟨by omega, all_step hall hx (by simp [identC, a2]), fun _ => hd (by omega)⟩, rfl, rfl, rfl, rfl, trivial⟩
      · refine ⟨rfl, Res.bool_eq (ident_bad hx ?_), rfl⟩
        simp only [identC]; revert a1 a2
        cases smallC x <;> cases capC x <;> cases digitC x <;> simp
  · exact ⟨rfl, Res.bool_eq (ident_of hc (by omega) (hd (by omega)) fun j x hj => hall j x (by omega)).symm, rfl⟩

end Go.Proofs.YtpldnmjdoogghaaGreatDoor

/- The laying of utf8.DecodeRuneInString in the given program: the shelf's contract may be used; no conditions. Printed by program. -/
namespace Go.Proofs.YtpldnmjdoogghaaGreatDoor
open Go.Shelf
def decLaid_ren : Go.Shelf.Ren := ⟨fun | 197 => 37 | 260 => 71 | n => n, fun | 9 => 9 | 21 => 21 | 3 => 3 | 4 => 4 | 5 => 5 | 105 => 116 | 119 => 245 | 0 => 0 | 46 => 216 | 139 => 248 | 138 => 247 | n => n, fun | 3 => 1 | 4 => 2 | n => n⟩
theorem decLaid : Go.Proofs.Lays.n197 Tryz.prog decLaid_ren := {
  mixed := by kernel_rfl
  f197 := Tryz.func37.trans (congrArg some (by kernel_rfl))
  f260 := Tryz.func71.trans (congrArg some (by kernel_rfl))
  t0 := Tryz.underlying0
  a0 := Tryz.isAgg0
  z0 := Tryz.sizeOf0
  v0 := Tryz.zeroValue0
  t3 := Tryz.underlying3
  a3 := Tryz.isAgg3
  z3 := Tryz.sizeOf3
  v3 := Tryz.zeroValue3
  t4 := Tryz.underlying4
  a4 := Tryz.isAgg4
  z4 := Tryz.sizeOf4
  v4 := Tryz.zeroValue4
  t5 := Tryz.underlying5
  a5 := Tryz.isAgg5
  z5 := Tryz.sizeOf5
  v5 := Tryz.zeroValue5
  t9 := Tryz.underlying9
  a9 := Tryz.isAgg9
  z9 := Tryz.sizeOf9
  v9 := Tryz.zeroValue9
  t21 := Tryz.underlying21
  a21 := Tryz.isAgg21
  z21 := Tryz.sizeOf21
  v21 := Tryz.zeroValue21
  t46 := Tryz.underlying216
  a46 := Tryz.isAgg216
  z46 := Tryz.sizeOf216
  v46 := Tryz.zeroValue216
  t105 := Tryz.underlying116
  a105 := Tryz.isAgg116
  z105 := Tryz.sizeOf116
  v105 := Tryz.zeroValue116
  t119 := Tryz.underlying245
  a119 := Tryz.isAgg245
  z119 := Tryz.sizeOf245
  t138 := Tryz.underlying247
  a138 := Tryz.isAgg247
  z138 := Tryz.sizeOf247
  v138 := Tryz.zeroValue247
  t139 := Tryz.underlying248
  a139 := Tryz.isAgg248
  z139 := Tryz.sizeOf248
  v139 := Tryz.zeroValue248
  g3 := by kernel_rfl
  g4 := by kernel_rfl }
end Go.Proofs.YtpldnmjdoogghaaGreatDoor

/-
  A contract of utf8.DecodeRuneInString: the shelf's, in the logic's words.
-/
namespace Go.Proofs.YtpldnmjdoogghaaGreatDoor
open Go.L

theorem decode_L (s : Str) (hs : s ≠ []) : PureL Tryz.prog 37 [.str s] (.tup [.int .i32 (Utf8.decode ⟨s.toArray⟩ 0).1, .int .i64 (Utf8.decode ⟨s.toArray⟩ 0).2]) := by
  refine decode_bridge (g3 := 1) (g4 := 2) (by kernel_rfl) (by kernel_rfl) (fun b w h0 hT => ?_) s hs
  have := Any.utf8_DecodeRuneInString decLaid b w hT
  rw [Lib.decodeGo, if_neg h0] at this
  exact this
end Go.Proofs.YtpldnmjdoogghaaGreatDoor

/-
  Contracts: full names; texts that are UTF-8: the program's and the document's.
-/
namespace Go.Proofs.YtpldnmjdoogghaaGreatDoor
open Go.L

theorem tx_one (l : List Str) : ∀ cs ∈ tx l, cs.length = 1 := fun cs h => by
  obtain ⟨s, _, rfl⟩ := List.mem_map.1 h; rfl
theorem tx_flat (l : List Str) : ∀ cs ∈ tx l, flat cs = true := fun cs h => by
  obtain ⟨s, _, rfl⟩ := List.mem_map.1 h; rfl
theorem tx_app (l m : List Str) : tx (l ++ m) = tx l ++ tx m := List.map_append ..
theorem acc_slc {T : Nat} {h H : Hp} {v : AV} {es : List (List AV)} (a : Acc T h H v es) (h0 : es ≠ []) :
    ∃ j row, v = .slc j 0 es.length none ∧ h.u j = false ∧ H j = some (.row T row) ∧ es.length ≤ row.length ∧ ∀ k, k < es.length → row[0 + k]? = es[k]? := by
  obtain ⟨_, ⟨_, e⟩ | ⟨j, row, e1, e2, e3, e4, e5⟩⟩ := a
  · exact absurd e h0
  · refine ⟨j, row, e1, e2, e3, e5, fun k hk => ?_⟩
    rw [← e4, List.getElem?_take_of_lt hk, Nat.zero_add]
theorem own_slc {T : Nat} {h h' : Hp} {r : Res} {es : List (List AV)} (a : OwnB T h h' r es) (h0 : es ≠ []) :
    ∃ i row, r = .ret (.slc i 0 es.length (some es.length)) ∧ h.u i = false ∧ h' i = some (.row T row) ∧ es.length ≤ row.length ∧ ∀ k, k < es.length → row[0 + k]? = es[k]? := by
  obtain ⟨_, ⟨_, e⟩ | ⟨i, rest, e1, e2, e3, _⟩⟩ := a
  · exact absurd e h0
  · refine ⟨i, _, e1, e2, e3, by simp, fun k hk => ?_⟩
    rw [Nat.zero_add, List.getElem?_append_left hk]
theorem splitC_ne (c : UInt8) (s : Str) : tx (splitC c s) ≠ [] := by
  intro h
  have h1 := splitC_len c s
  have h2 : (tx (splitC c s)).length = 0 := by rw [h]; rfl
  rw [tx_len] at h2; omega

/-! ### Full names -/
theorem fullN_long {s : Str} (h : (255 : Int) < (s.length : Nat)) : false = fullN s := by
  rw [fullN, ble_f (show 255 < s.length by omega)]; rfl
theorem fullN_no {s : Str} {x : Str} (hx : x ∈ splitC 46 s) (h : ident x = false) : false = fullN s := by
  have : (splitC 46 s).all ident = false := List.all_eq_false.2 ⟨x, hx, by simp [h]⟩
  rw [fullN, this, Bool.and_false]
theorem fullN_yes {s : Str} (hl : (s.length : Nat) ≤ (255 : Int)) {k : Nat} (hk : (splitC 46 s).length ≤ k) (hall : ∀ (j : Nat) (x : Str), j < k → (splitC 46 s)[j]? = some x → ident x = true) : true = fullN s := by
  have : (splitC 46 s).all ident = true := List.all_eq_true.2 fun x hx => by
    obtain ⟨j, hj⟩ := List.getElem?_of_mem hx
    exact hall j x (by have := (List.getElem?_eq_some_iff.1 hj).1; omega) hj
  rw [fullN, this, Nat.ble_eq_true_of_le (show s.length ≤ 255 by omega)]; rfl

theorem Full_L (s : Str) (hs : s.length ≤ 1000000000000) : PureL Tryz.prog F_texts_Full [.str s] (.bool (fullN s)) := by
  refine PureL.nil rfl ?_
  refine K_texts_Full (md := false) ?_
  refine s_lt (fun h1 => ?_) (fun h1 => ?_)
  · exact ⟨rfl, _, rfl, by rw [← fullN_long h1]; exact .same _ rfl⟩
  refine (Split_L s 46 Hp.nil hs).mono ?_
  rintro r h' hr
  obtain ⟨i, row, rfl, _, hrow, hrl, hget⟩ := own_slc hr (splitC_ne 46 s)
  have htl := tx_len (splitC 46 s)
  have hsl := splitC_len 46 s
  have hcl : s.count 46 ≤ s.length := List.count_le_length
  refine s_loop (splitC 46 s).length (fun k (_ : Unit) => k ≤ (splitC 46 s).length ∧ ∀ (j : Nat) (x : Str), j < k → (splitC 46 s)[j]? = some x → ident x = true)
    (fun k _ => [(9, .slc i 0 (tx (splitC 46 s)).length (some (tx (splitC 46 s)).length)), (10, .int .i64 (tx (splitC 46 s)).length), (11, .int .i64 k)]) (fun _ _ => h') () ⟨Nat.zero_le _, fun j x hj => by omega⟩ rfl rfl ⟨rfl, rfl, rfl, trivial⟩ (fun k s hI => hI.1) ?_
  intro k _ n0 g0 hk ⟨_, hall⟩
  refine s_lt (fun h2 => ?_) (fun h2 => ?_)
  · obtain ⟨x, hx⟩ := get_lt (l := splitC 46 s) (k := k) (by omega)
    have hrk : row[0 + k]? = some (el x) := by rw [hget k (by omega)]; exact tx_get hx
    have hxl := splitC_mem_len (List.mem_of_getElem? hx)
    refine ⟨k, rfl, by omega, ⟨_, hrow⟩, ?_⟩
    refine ⟨_, _, _, _, hrow, hrk, rfl, ?_⟩
    refine (Ident_L x (by omega)).useC (fun h3 => ?_) (fun h3 => ?_)
    · refine s_nat (k + 1) (by omega) (by omega) ?_
      refine ⟨(), by omega, ⟨by omega, fun j y hj hy => ?_⟩, rfl, rfl, rfl, rfl, rfl, trivial⟩
      by_cases e : j = k
      · subst e; rw [hx] at hy; cases hy; exact h3
      · exact hall j y (by omega) hy
    · exact ⟨rfl, _, rfl, by rw [← fullN_no (List.mem_of_getElem? hx) h3]; exact .same _ rfl⟩
  · exact ⟨rfl, _, rfl, by rw [← fullN_yes h1 (by omega) hall]; exact .same _ rfl⟩

theorem Parts_L (s : Str) (h : Hp) (hs : s.length ≤ 100000000000) : CallL Tryz.prog F_lexiconref02_Parts [.str s] h fun r h' => ∃ v, r = .ret v ∧ Acc Ts h h' v (tx (splitC 46 s)) := by
  refine K_lexiconref02_Parts (md := false) ?_
  refine s_loop (s.length + 1) (fun k (st : Nat × List Str × Hp × AV) => (k ≤ s.length ∧ Cut 46 s st.1 k st.2.1 ∧ Acc Ts h st.2.2.1 st.2.2.2 (tx st.2.1)) ∨ (k = s.length + 1 ∧ Acc Ts h st.2.2.1 st.2.2.2 (tx (splitC 46 s))))
    (fun k st => [(0, .str s), (3, st.2.2.2), (4, .int .i64 st.1), (5, .int .i64 k)]) (fun _ st => st.2.2.1) (0, [], h, .nils)
    (.inl ⟨Nat.zero_le _, Cut.start _ _, Acc.nil _ _⟩) rfl rfl ⟨rfl, rfl, rfl, rfl, trivial⟩ (fun k s hI => by omega) ?_
  rintro k ⟨fr, d, H, v⟩ n0 g0 hk hI
  have seg := cut_len s fr k
  simp only at hI
  refine s_le (fun h2 => ?_) (fun h2 => ?_)
  · rcases hI with ⟨hk1, hc, ha⟩ | ⟨hk1, _⟩
    · have hle := hc.le
      have hdl := hc.len
      have app : ∀ (next : AV → Hp → Prop) (tb : Nat), Fresh H tb → (∀ v' H', Acc Ts h H' v' (tx (d ++ [(s.take k).drop fr])) → next v' H') → LApp false Ts 1 16 v (.slc tb 0 1 (some 1)) (H.set tb (.row Ts (tx [(s.take k).drop fr]))) next := fun next tb htb hn => by
        refine ⟨_, ⟨_, _, Hp.set_same _ _ _, Nat.le_refl _, rfl⟩, ?_⟩
        refine Acc.app (ha.set htb.1 _) (tx_one [_]) (tx_flat [_]) (by rw [tx_len]; unfold capMax; simp; omega) (by rw [tx_len]; unfold capMax; simp; omega) fun v' H' ha' _ _ => hn v' H' ?_
        rw [tx_app]; exact ha'
      refine s_eq (fun h3 => ?_) (fun h3 => ?_)
      · refine ⟨k, rfl, fr, rfl, hle, by omega, ?_⟩
        refine ⟨_, rfl, fun tb htb => ?_⟩
        refine app _ tb htb fun v' H' ha' => ?_
        refine s_nat (k + 1) (by omega) (by omega) ?_
        refine s_nat (k + 1) (by omega) (by omega) ?_
        rw [← hc.fin (by omega)] at ha'
        exact ⟨(k + 1, splitC 46 s, H', v'), by omega, .inr ⟨by omega, ha'⟩, rfl, rfl, rfl, rfl, rfl, rfl, trivial⟩
      · obtain ⟨x, hx⟩ := get_lt (l := s) (k := k) (by omega)
        refine s_byte k x rfl hx ?_
        refine s_eq (fun h4 => ?_) (fun h4 => ?_)
        · obtain rfl : x = 46 := byte_is h4
          refine ⟨k, rfl, fr, rfl, hle, by omega, ?_⟩
          refine ⟨_, rfl, fun tb htb => ?_⟩
          refine app _ tb htb fun v' H' ha' => ?_
          refine s_nat (k + 1) (by omega) (by omega) ?_
          refine s_nat (k + 1) (by omega) (by omega) ?_
          exact ⟨(k + 1, d ++ [(s.take k).drop fr], H', v'), by omega, .inl ⟨by omega, hc.cut hx, ha'⟩, rfl, rfl, rfl, rfl, rfl, rfl, trivial⟩
        · refine s_nat (k + 1) (by omega) (by omega) ?_
          exact ⟨(fr, d, H, v), by omega, .inl ⟨by omega, hc.step hx (byte_ne (d := 46) h4), ha⟩, rfl, rfl, rfl, rfl, rfl, rfl, trivial⟩
    · omega
  · rcases hI with ⟨hk1, _⟩ | ⟨_, ha⟩
    · omega
    · exact ⟨rfl, _, rfl, ha⟩

theorem rFull_L (s : Str) (hs : s.length ≤ 100000000000) : PureL Tryz.prog F_lexiconref02_Full [.str s] (.bool (fullN s)) := by
  refine PureL.nil rfl ?_
  refine K_lexiconref02_Full (md := false) ?_
  refine s_lt (fun h1 => ?_) (fun h1 => ?_)
  · exact ⟨rfl, _, rfl, by rw [← fullN_long h1]; exact .same _ rfl⟩
  refine (Parts_L s Hp.nil hs).mono ?_
  rintro r h' ⟨v, rfl, hr⟩
  obtain ⟨i, row, rfl, _, hrow, hrl, hget⟩ := acc_slc hr (splitC_ne 46 s)
  have htl := tx_len (splitC 46 s)
  have hsl := splitC_len 46 s
  have hcl : s.count 46 ≤ s.length := List.count_le_length
  refine s_loop (splitC 46 s).length (fun k (_ : Unit) => k ≤ (splitC 46 s).length ∧ ∀ (j : Nat) (x : Str), j < k → (splitC 46 s)[j]? = some x → ident x = true)
    (fun k _ => [(3, .slc i 0 (tx (splitC 46 s)).length none), (4, .int .i64 k)]) (fun _ _ => h') () ⟨Nat.zero_le _, fun j x hj => by omega⟩ rfl rfl ⟨rfl, rfl, trivial⟩ (fun k s hI => hI.1) ?_
  intro k _ n0 g0 hk ⟨_, hall⟩
  refine s_lt (fun h2 => ?_) (fun h2 => ?_)
  · obtain ⟨x, hx⟩ := get_lt (l := splitC 46 s) (k := k) (by omega)
    have hrk : row[0 + k]? = some (el x) := by rw [hget k (by omega)]; exact tx_get hx
    have hxl := splitC_mem_len (List.mem_of_getElem? hx)
    refine ⟨k, rfl, by omega, ⟨_, hrow⟩, ?_⟩
    refine ⟨_, _, _, _, hrow, hrk, rfl, ?_⟩
    refine (rIdent_L x (by omega)).useC (fun h3 => ?_) (fun h3 => ?_)
    · refine s_nat (k + 1) (by omega) (by omega) ?_
      refine ⟨(), by omega, ⟨by omega, fun j y hj hy => ?_⟩, rfl, rfl, rfl, rfl, trivial⟩
      by_cases e : j = k
      · subst e; rw [hx] at hy; cases hy; exact h3
      · exact hall j y (by omega) hy
    · exact ⟨rfl, _, rfl, by rw [← fullN_no (List.mem_of_getElem? hx) h3]; exact .same _ rfl⟩
  · exact ⟨rfl, _, rfl, by rw [← fullN_yes h1 (by omega) hall]; exact .same _ rfl⟩

/-! ### UTF-8 -/
theorem Good_L (s : Str) (hs : s.length ≤ 100000000000) : PureL Tryz.prog F_texts_Good [.str s] (.int .i64 (good s)) := by
  refine PureL.nil rfl ?_
  refine K_texts_Good (md := false) ?_
  intro i hi
  refine s_loop (s.length + 1) (fun k (p : Nat) => k ≤ p ∧ p ≤ s.length ∧ good s = goodF s (s.length + 1 - k) p) (fun k p => [(0, .str s), (8, .ptr i 0 0)]) (fun _ p => Hp.nil.set i (.strIter s p)) 0
    ⟨Nat.le_refl _, Nat.zero_le _, rfl⟩ rfl rfl ⟨rfl, rfl, trivial⟩ (fun k s hI => by omega) ?_
  intro k p n0 g0 hk ⟨hkp, hp, hg⟩
  refine ⟨s, p, Hp.set_same _ _ _, ?_⟩
  intro t ht
  by_cases hlt : p < s.length
  · rw [decide_eq_true hlt] at ht
    subst ht
    intro r hr
    have hle := sizeAt_le hlt
    obtain ⟨m, hm⟩ : ∃ m, s.length + 1 - k = m + 1 := ⟨s.length - k, by omega⟩
    rw [hm] at hg
    have hm2 : s.length + 1 - (k + 1) = m := by omega
    refine ⟨_, rfl, ?_⟩
    refine ⟨_, rfl, ?_⟩
    refine ⟨_, rfl, ?_⟩
    rcases size_cases s p with ⟨hz, hd⟩ | ⟨hz, hd2, hd1⟩
    · rw [hd] at hr; subst hr
      rw [goodF_bad hlt hz] at hg
      refine s_ne (fun h1 => absurd rfl h1) (fun _ => ?_)
      refine ⟨p, rfl, (by show p ≤ s.length; omega), Nat.le_refl _, ?_⟩
      have hne : (s.take s.length).drop p ≠ [] := by
        rw [List.take_length]
        intro e
        have := congrArg List.length e
        simp at this; omega
      refine (decode_L _ hne).use ?_
      have e1 : Utf8.decode ⟨((s.take s.length).drop p).toArray⟩ 0 = (65533, 1) := by rw [List.take_length, decode_drop, hd]
      rw [e1]
      refine ⟨_, rfl, ?_⟩
      refine ⟨_, rfl, ?_⟩
      refine s_eq (fun _ => ?_) (fun h1 => absurd rfl h1)
      exact ⟨rfl, _, rfl, by rw [hg]; exact .same _ rfl⟩
    · rw [goodF_step hlt hz] at hg
      have hnx : ∀ (r2 : Nat), r2 = sizeAt s p → (Hp.nil.set i (.strIter s p)).set i (.strIter s (p + r2)) = Hp.nil.set i (.strIter s (p + sizeAt s p)) := fun r2 h => by rw [Hp.set_set, h]
      have hr2 : r.2 = sizeAt s p := by rw [hr]; exact hd2
      refine s_ne (fun h1 => ?_) (fun h1 => ?_)
      · exact ⟨p + sizeAt s p, by omega, ⟨by omega, by omega, by rw [hm2]; exact hg⟩, hnx _ hr2, rfl, rfl, rfl, trivial⟩
      · have hr1 : (Utf8.decode ⟨s.toArray⟩ p).1 = 65533 := by rw [← hr]; omega
        have hz1 : sizeAt s p ≠ 1 := fun e => hd1 e hr1
        refine ⟨p, rfl, (by show p ≤ s.length; omega), Nat.le_refl _, ?_⟩
        have hne : (s.take s.length).drop p ≠ [] := by
          rw [List.take_length]
          intro e
          have := congrArg List.length e
          simp at this; omega
        refine (decode_L _ hne).use ?_
        have e1 : Utf8.decode ⟨((s.take s.length).drop p).toArray⟩ 0 = r := by rw [List.take_length, decode_drop, hr]
        rw [e1]
        refine ⟨_, rfl, ?_⟩
        refine ⟨_, rfl, ?_⟩
        refine s_eq (fun h2 => ?_) (fun h2 => ?_)
        · rw [hr2] at h2; omega
        · exact ⟨p + sizeAt s p, by omega, ⟨by omega, by omega, by rw [hm2]; exact hg⟩, hnx _ hr2, rfl, rfl, rfl, trivial⟩
  · rw [decide_eq_false hlt] at ht
    subst ht
    refine ⟨_, rfl, ?_⟩
    rw [goodF_end (by omega)] at hg
    exact ⟨rfl, _, rfl, by rw [hg]; exact .same _ rfl⟩

theorem rest_L (c : UInt8) : PureL Tryz.prog F_lexiconref02_rest [.int .u8 c.toNat] (match restN c.toNat with
    | some (m, lo, hi) => .tup [.int .i64 m, .int .u8 lo, .int .u8 hi]
    | none => .tup [.int .i64 (-1), .int .u8 0, .int .u8 0]) := by
  intro h
  refine K_lexiconref02_rest (md := false) ?_
  have hr : ∀ a b : Nat, (inR a b c.toNat = true ↔ a ≤ c.toNat ∧ c.toNat ≤ b) := fun a b => by simp [inR]
  have hf : ∀ a b : Nat, (inR a b c.toNat = false ↔ ¬ (a ≤ c.toNat ∧ c.toNat ≤ b)) := fun a b => by rw [← hr, Bool.not_eq_true]
  refine s_lt (fun h1 => ?_) (fun h1 => ?_)
  · have : restN c.toNat = some (0, 0, 0) := by rw [restN, if_pos (by omega)]
    rw [this]; exact ⟨rfl, rfl, rfl⟩
  refine (in_L c 194 223).useC (fun h2 => ?_) (fun h2 => ?_)
  · rw [hr] at h2
    have : restN c.toNat = some (1, 128, 191) := by rw [restN, if_neg (by omega), if_pos h2]
    rw [this]; exact ⟨rfl, rfl, rfl⟩
  rw [hf] at h2
  refine s_eq (fun h3 => ?_) (fun h3 => ?_)
  · have : restN c.toNat = some (2, 160, 191) := by rw [restN, if_neg (by omega), if_neg h2, if_pos (by omega)]
    rw [this]; exact ⟨rfl, rfl, rfl⟩
  refine s_eq (fun h4 => ?_) (fun h4 => ?_)
  · have : restN c.toNat = some (2, 128, 159) := by rw [restN, if_neg (by omega), if_neg h2, if_neg (by omega), if_pos (by omega)]
    rw [this]; exact ⟨rfl, rfl, rfl⟩
  refine (in_L c 225 239).useC (fun h5 => ?_) (fun h5 => ?_)
  · rw [hr] at h5
    have : restN c.toNat = some (2, 128, 191) := by rw [restN, if_neg (by omega), if_neg h2, if_neg (by omega), if_neg (by omega), if_pos h5]
    rw [this]; exact ⟨rfl, rfl, rfl⟩
  rw [hf] at h5
  refine s_eq (fun h6 => ?_) (fun h6 => ?_)
  · have : restN c.toNat = some (3, 144, 191) := by rw [restN, if_neg (by omega), if_neg h2, if_neg (by omega), if_neg (by omega), if_neg h5, if_pos (by omega)]
    rw [this]; exact ⟨rfl, rfl, rfl⟩
  refine (in_L c 241 243).useC (fun h7 => ?_) (fun h7 => ?_)
  · rw [hr] at h7
    have : restN c.toNat = some (3, 128, 191) := by rw [restN, if_neg (by omega), if_neg h2, if_neg (by omega), if_neg (by omega), if_neg h5, if_neg (by omega), if_pos h7]
    rw [this]; exact ⟨rfl, rfl, rfl⟩
  rw [hf] at h7
  refine s_eq (fun h8 => ?_) (fun h8 => ?_)
  · have : restN c.toNat = some (3, 128, 143) := by rw [restN, if_neg (by omega), if_neg h2, if_neg (by omega), if_neg (by omega), if_neg h5, if_neg (by omega), if_neg h7, if_pos (by omega)]
    rw [this]; exact ⟨rfl, rfl, rfl⟩
  · have : restN c.toNat = none := by rw [restN, if_neg (by omega), if_neg h2, if_neg (by omega), if_neg (by omega), if_neg h5, if_neg (by omega), if_neg h7, if_neg (by omega)]
    rw [this]; exact ⟨rfl, rfl, rfl⟩

theorem restN_lt {b m lo hi : Nat} (h : restN b = some (m, lo, hi)) : lo ≤ 191 ∧ hi ≤ 191 := by
  unfold restN at h
  repeat' (split at h; first | (cases h; omega) | skip)
  all_goals first | (cases h; omega) | cases h

theorem Size_L (s : Str) (i : Nat) (hi : i < s.length) (hs : s.length ≤ 100000000000) : PureL Tryz.prog F_lexiconref02_Size [.str s, .int .i64 i] (.int .i64 (sizeAt s i)) := by
  intro h
  refine K_lexiconref02_Size (md := false) ?_
  obtain ⟨c, hc⟩ := get_lt hi
  have hR := rest_L c
  rw [← at0_get hc] at hR
  refine s_byte i c rfl hc ?_
  cases hr : restN (at0 s i) with
  | none =>
    rw [hr] at hR
    rw [at0_get hc] at hR
    refine hR.use ?_
    refine ⟨_, rfl, ?_⟩
    refine ⟨_, rfl, ?_⟩
    refine ⟨_, rfl, ?_⟩
    refine s_lt (fun _ => ?_) (fun h1 => absurd h1 (by decide))
    rw [size_none hr]; exact ⟨rfl, rfl, rfl⟩
  | some x =>
    obtain ⟨m, lo, hi'⟩ := x
    rw [hr] at hR
    rw [at0_get hc] at hR
    have hm3 := restN_le hr
    refine hR.use ?_
    refine ⟨_, rfl, ?_⟩
    refine ⟨_, rfl, ?_⟩
    refine ⟨_, rfl, ?_⟩
    refine s_lt (fun h1 => by omega) (fun _ => ?_)
    refine s_nat (i + m) (by omega) (by omega) ?_
    refine s_le (fun h2 => ?_) (fun h2 => ?_)
    · rw [size_short hr (by omega) hi]; exact ⟨rfl, rfl, rfl⟩
    refine s_loop m (fun k (_ : Unit) => k ≤ m ∧ ∀ j, 1 ≤ j → j ≤ k → okB s i lo hi' j) (fun k _ => [(0, .str s), (1, .int .i64 i), (5, .int .i64 m), (6, .int .u8 ((if k = 0 then lo else 128 : Nat) : Int)), (7, .int .u8 ((if k = 0 then hi' else 191 : Nat) : Int)), (8, .int .i64 ((k + 1 : Nat) : Int))]) (fun _ _ => h) ()
      ⟨Nat.zero_le _, fun j h1 h2 => by omega⟩ rfl rfl ⟨rfl, rfl, rfl, rfl, rfl, rfl, trivial⟩ (fun k s hI => hI.1) ?_
    intro k _ n0 g0 hk ⟨_, hall⟩
    refine s_le (fun h3 => ?_) (fun h3 => ?_)
    · refine s_nat (i + (k + 1)) (by omega) (by omega) ?_
      obtain ⟨x, hx⟩ := get_lt (l := s) (k := i + (k + 1)) (by omega)
      refine s_byte (i + (k + 1)) x rfl hx ?_
      have hxv := at0_get hx
      have hok : inR (if k = 0 then lo else 128) (if k = 0 then hi' else 191) x.toNat = true ↔ okB s i lo hi' (k + 1) := by
        simp only [inR, Bool.and_eq_true, Nat.ble_eq, okB, hxv]
        by_cases e : k = 0
        · subst e; simp [← hxv]
        · rw [if_neg e, if_neg e, if_neg (by omega)]
      refine (in_L x _ _).useC (fun h4 => ?_) (fun h4 => ?_)
      · refine s_nat (k + 1 + 1) (by omega) (by omega) ?_
        refine ⟨(), by omega, ⟨by omega, fun j h5 h6 => ?_⟩, rfl, rfl, rfl, rfl, rfl, ?_, ?_, rfl, trivial⟩
        · by_cases e : j = k + 1
          · rw [e]; exact hok.1 h4
          · exact hall j h5 (by omega)
        · rw [if_neg (Nat.succ_ne_zero k)]; rfl
        · rw [if_neg (Nat.succ_ne_zero k)]; rfl
      · have hno : ¬ okB s i lo hi' (k + 1) := fun hh => by rw [hok.2 hh] at h4; cases h4
        rw [size_no hr (by omega) (by omega) hno]; exact ⟨rfl, rfl, rfl⟩
    · refine s_nat (m + 1) (by omega) (by omega) ?_
      rw [size_all hr (by omega) fun j h5 h6 => hall j h5 (by omega)]; exact ⟨rfl, rfl, rfl⟩

theorem rGood_L (s : Str) (hs : s.length ≤ 100000000000) : PureL Tryz.prog F_lexiconref02_Good [.str s] (.int .i64 (good s)) := by
  intro h
  refine K_lexiconref02_Good (md := false) ?_
  refine s_loop (s.length + 1) (fun k (p : Nat) => k ≤ p ∧ p ≤ s.length ∧ good s = goodF s (s.length + 1 - k) p) (fun k p => [(0, .str s), (3, .int .i64 p)]) (fun _ p => h) 0
    ⟨Nat.le_refl _, Nat.zero_le _, rfl⟩ rfl rfl ⟨rfl, rfl, trivial⟩ (fun k s hI => by omega) ?_
  intro k p n0 g0 hk ⟨hkp, hp, hg⟩
  refine s_lt (fun h1 => ?_) (fun h1 => ?_)
  · have hlt : p < s.length := by omega
    have hle := sizeAt_le hlt
    obtain ⟨m, hm⟩ : ∃ m, s.length + 1 - k = m + 1 := ⟨s.length - k, by omega⟩
    rw [hm] at hg
    have hm2 : s.length + 1 - (k + 1) = m := by omega
    refine (Size_L s p hlt hs).use ?_
    refine s_eq (fun h2 => ?_) (fun h2 => ?_)
    · rw [goodF_bad hlt (by omega)] at hg
      exact ⟨rfl, Res.int_eq hg.symm, rfl⟩
    · rw [goodF_step hlt (by omega)] at hg
      refine s_nat (p + sizeAt s p) (by omega) (by omega) ?_
      exact ⟨p + sizeAt s p, by omega, ⟨by omega, by omega, by rw [hm2]; exact hg⟩, rfl, rfl, rfl, rfl, trivial⟩
  · rw [goodF_end (by omega)] at hg
    exact ⟨rfl, Res.int_eq hg.symm, rfl⟩
end Go.Proofs.YtpldnmjdoogghaaGreatDoor

/-
  Contracts: URLs of types, the program's and the document's; the law of them.
-/
namespace Go.Proofs.YtpldnmjdoogghaaGreatDoor
open Go.L

theorem LastIndex_L (s : Str) (c : UInt8) (hs : s.length ≤ 100000000000) : PureL Tryz.prog F_internal_bytealg_LastIndexByteString [.str s, .int .u8 c.toNat] (.int .i64 (lastI c s)) := by
  intro h
  refine K_internal_bytealg_LastIndexByteString (md := false) ?_
  refine s_64 (by omega) (by omega) ?_
  refine s_loop s.length (fun k (_ : Unit) => k ≤ s.length ∧ lastI c s = lastF c s (s.length - k)) (fun k _ => [(0, .str s), (1, .int .u8 c.toNat), (5, .int .i64 ((s.length : Int) - 1 - k))]) (fun _ _ => h) ()
    ⟨Nat.zero_le _, rfl⟩ rfl rfl ⟨rfl, rfl, by show AV.int _ _ = AV.int _ _; congr 1; omega, trivial⟩ (fun k s hI => hI.1) ?_
  intro k _ n0 g0 hk ⟨_, hl⟩
  refine s_le (fun h1 => ?_) (fun h1 => ?_)
  · obtain ⟨n, hn⟩ : ∃ n, s.length - k = n + 1 := ⟨s.length - k - 1, by omega⟩
    have hn2 : s.length - (k + 1) = n := by omega
    obtain ⟨x, hx⟩ := get_lt (l := s) (k := n) (by omega)
    rw [hn, lastF] at hl
    refine s_byte n x (by omega) hx ?_
    refine s_eq (fun h2 => ?_) (fun h2 => ?_)
    · obtain rfl := byte_is h2
      rw [if_pos hx] at hl
      exact ⟨rfl, Res.int_eq (by rw [hl]; omega), rfl⟩
    · have hne : s[n]? ≠ some c := fun e => by rw [hx] at e; cases e; exact h2 rfl
      rw [if_neg hne] at hl
      refine s_64 (by omega) (by omega) ?_
      exact ⟨(), by omega, ⟨by omega, by rw [hn2]; exact hl⟩, rfl, rfl, rfl, rfl, by show AV.int _ _ = AV.int _ _; congr 1; omega, trivial⟩
  · have : s.length - k = 0 := by omega
    rw [this] at hl
    exact ⟨rfl, Res.int_eq hl.symm, rfl⟩
theorem LastIndexByte_L (s : Str) (c : UInt8) (hs : s.length ≤ 100000000000) : PureL Tryz.prog F_strings_LastIndexByte [.str s, .int .u8 c.toNat] (.int .i64 (lastI c s)) := by
  intro h
  refine K_strings_LastIndexByte (md := false) ?_
  refine (LastIndex_L s c hs).use ?_
  exact ⟨rfl, rfl, rfl⟩

def splitV (r : Str × Str × Int) : AV := .tup [.str r.1, .str r.2.1, .int .i64 r.2.2]
def joinV (r : Str × Int) : AV := .tup [.str r.1, .int .i64 r.2]

theorem urlBad1 {s : Str} (h : lastI 47 s < 0) : urlSplit s = ([], [], 130) := by
  have : urlBad s = true := by rw [urlBad, decide_eq_true h]; rfl
  rw [urlSplit, if_pos this]
theorem urlBad2 {s : Str} (h : 0 ≤ good s) : urlSplit s = ([], [], 130) := by
  have : urlBad s = true := by rw [urlBad, decide_eq_true h]; simp
  rw [urlSplit, if_pos this]
theorem urlBad3 {s : Str} (h : fullN (s.drop (lastI 47 s + 1).toNat) = false) : urlSplit s = ([], [], 130) := by
  have : urlBad s = true := by rw [urlBad, h]; simp
  rw [urlSplit, if_pos this]
theorem urlGood {s : Str} (h1 : 0 ≤ lastI 47 s) (h2 : good s < 0) (h : fullN (s.drop (lastI 47 s + 1).toNat) = true) : urlSplit s = (s.take (lastI 47 s).toNat, s.drop (lastI 47 s + 1).toNat, 0) := by
  have : urlBad s = false := by rw [urlBad, h, decide_eq_false (by omega), decide_eq_false (by omega)]; rfl
  rw [urlSplit, this]; rfl
theorem splitEq {s a b : Str} (h : urlSplit s = (a, b, 0)) : Res.ret (.tup [.str a, .str b, .int .i64 0]) = Res.ret (splitV (urlSplit s)) := by rw [h]; rfl
theorem lastI_lt (s : Str) : lastI 47 s < s.length := by
  rcases lastF_cases 47 s s.length with ⟨e, _⟩ | ⟨k, e, hk, _⟩
  · show lastF _ _ _ < _
    rw [e]; omega
  · show lastF _ _ _ < _
    rw [e]; omega

theorem Split_url_L (s : Str) (hs : s.length ≤ 10000000000) : PureL Tryz.prog F_box_Split [.str s] (splitV (urlSplit s)) := by
  intro h
  have hl := lastI_lt s
  refine K_box_Split (md := false) ?_
  refine (LastIndexByte_L s 47 (by omega)).use ?_
  refine s_lt (fun h1 => ?_) (fun h1 => ?_)
  · rw [urlBad1 h1]; exact ⟨rfl, rfl, rfl⟩
  refine (Good_L s (by omega)).use ?_
  refine s_le (fun h2 => ?_) (fun h2 => ?_)
  · rw [urlBad2 h2]; exact ⟨rfl, rfl, rfl⟩
  refine s_64 (by omega) (by omega) ?_
  have e : ((lastI 47 s + 1).toNat : Int) = lastI 47 s + 1 := by omega
  refine ⟨(lastI 47 s + 1).toNat, e.symm, (by show _ ≤ s.length; omega), Nat.le_refl _, ?_⟩
  have ht : (s.take s.length).drop (lastI 47 s + 1).toNat = s.drop (lastI 47 s + 1).toNat := by rw [List.take_length]
  have hF := Full_L ((s.take s.length).drop (lastI 47 s + 1).toNat) (by rw [ht, List.length_drop]; omega)
  refine hF.useC (fun h3 => ?_) (fun h3 => ?_)
  · rw [ht] at h3
    have hu : urlSplit s = ((s.take (lastI 47 s).toNat).drop 0, (s.take s.length).drop (lastI 47 s + 1).toNat, 0) := by rw [urlGood h1 h2 h3, ht, List.drop_zero]
    refine ⟨(lastI 47 s).toNat, (by omega), Nat.zero_le _, (by show _ ≤ s.length; omega), ?_⟩
    refine s_64 (by omega) (by omega) ?_
    refine ⟨(lastI 47 s + 1).toNat, e.symm, (by show _ ≤ s.length; omega), Nat.le_refl _, ?_⟩
    exact ⟨rfl, splitEq hu, rfl⟩
  · rw [ht] at h3
    rw [urlBad3 h3]; exact ⟨rfl, rfl, rfl⟩

theorem rSplit_url_L (s : Str) (hs : s.length ≤ 10000000000) : PureL Tryz.prog F_lexiconref13_Split [.str s] (splitV (urlSplit s)) := by
  intro h
  have hl := lastI_lt s
  refine K_lexiconref13_Split (md := false) ?_
  refine s_blk (id := 0) (fun e' h' => h' = h ∧ e'.ds = [] ∧ Has e' [(0, .str s), (2, .str []), (3, .str []), (4, .int .i64 0), (5, .int .i64 (lastI 47 s))]) ?_ ?_
  · refine s_loop s.length (fun k (_ : Unit) => k ≤ s.length) (fun k _ => [(0, .str s), (2, .str []), (3, .str []), (4, .int .i64 0), (5, .int .i64 (lastF 47 s k)), (6, .int .i64 k)]) (fun _ _ => h) ()
      (Nat.zero_le _) rfl rfl ⟨rfl, rfl, rfl, rfl, rfl, rfl, trivial⟩ (fun k s hI => hI) ?_
    intro k _ n0 g0 hk _
    refine s_lt (fun h1 => ?_) (fun h1 => ?_)
    · obtain ⟨x, hx⟩ := get_lt (l := s) (k := k) (by omega)
      refine s_byte k x rfl hx ?_
      refine s_eq (fun h2 => ?_) (fun h2 => ?_)
      · obtain rfl : x = 47 := byte_is h2
        refine s_nat (k + 1) (by omega) (by omega) ?_
        refine ⟨(), by omega, by omega, rfl, rfl, rfl, rfl, rfl, rfl, ?_, rfl, trivial⟩
        rw [lastF, if_pos hx]; rfl
      · refine s_nat (k + 1) (by omega) (by omega) ?_
        refine ⟨(), by omega, by omega, rfl, rfl, rfl, rfl, rfl, rfl, ?_, rfl, trivial⟩
        rw [lastF, if_neg (fun e => by rw [hx] at e; cases e; exact h2 rfl)]; rfl
    · obtain rfl : k = s.length := by omega
      exact ⟨rfl, rfl, rfl, rfl, rfl, rfl, rfl, trivial⟩
  rintro e' h' ⟨rfl, hd, hs'⟩
  obtain ⟨n0, g0, rfl⟩ := hs'.out hd
  refine s_lt (fun h1 => ?_) (fun h1 => ?_)
  · rw [urlBad1 h1]; exact ⟨rfl, rfl, rfl⟩
  refine (rGood_L s (by omega)).use ?_
  refine s_le (fun h2 => ?_) (fun h2 => ?_)
  · rw [urlBad2 h2]; exact ⟨rfl, rfl, rfl⟩
  refine s_64 (by omega) (by omega) ?_
  have e : ((lastI 47 s + 1).toNat : Int) = lastI 47 s + 1 := by omega
  refine ⟨(lastI 47 s + 1).toNat, e.symm, (by show _ ≤ s.length; omega), Nat.le_refl _, ?_⟩
  have ht : (s.take s.length).drop (lastI 47 s + 1).toNat = s.drop (lastI 47 s + 1).toNat := by rw [List.take_length]
  have hF := rFull_L ((s.take s.length).drop (lastI 47 s + 1).toNat) (by rw [ht, List.length_drop]; omega)
  refine hF.useC (fun h3 => ?_) (fun h3 => ?_)
  · rw [ht] at h3
    have hu : urlSplit s = ((s.take (lastI 47 s).toNat).drop 0, (s.take s.length).drop (lastI 47 s + 1).toNat, 0) := by rw [urlGood h1 h2 h3, ht, List.drop_zero]
    refine ⟨(lastI 47 s).toNat, (by omega), Nat.zero_le _, (by show _ ≤ s.length; omega), ?_⟩
    refine s_64 (by omega) (by omega) ?_
    refine ⟨(lastI 47 s + 1).toNat, e.symm, (by show _ ≤ s.length; omega), Nat.le_refl _, ?_⟩
    exact ⟨rfl, splitEq hu, rfl⟩
  · rw [ht] at h3
    rw [urlBad3 h3]; exact ⟨rfl, rfl, rfl⟩

theorem joinBad1 {a b : Str} (h : 0 ≤ good a) : urlJoin a b = ([], 130) := by
  have : joinBad a b = true := by rw [joinBad, decide_eq_true h]; rfl
  rw [urlJoin, if_pos this]
theorem joinBad2 {a b : Str} (h : fullN b = false) : urlJoin a b = ([], 130) := by
  have : joinBad a b = true := by rw [joinBad, h]; simp
  rw [urlJoin, if_pos this]
theorem joinGood {a b : Str} (h1 : good a < 0) (h : fullN b = true) : urlJoin a b = (a ++ [47] ++ b, 0) := by
  have : joinBad a b = false := by rw [joinBad, h, decide_eq_false (by omega)]; rfl
  rw [urlJoin, this]; rfl

theorem Join_url_L (a b : Str) (ha : a.length ≤ 10000000000) (hb : b.length ≤ 10000000000) : PureL Tryz.prog F_box_Join [.str a, .str b] (joinV (urlJoin a b)) := by
  intro h
  refine K_box_Join (md := false) ?_
  refine (Good_L a (by omega)).use ?_
  refine s_le (fun h2 => ?_) (fun h2 => ?_)
  · rw [joinBad1 h2]; exact ⟨rfl, rfl, rfl⟩
  refine (Full_L b (by omega)).useC (fun h3 => ?_) (fun h3 => ?_)
  · refine ⟨(by simp; omega), ?_⟩
    refine ⟨(by simp; omega), ?_⟩
    rw [joinGood h2 h3]; exact ⟨rfl, rfl, rfl⟩
  · rw [joinBad2 h3]; exact ⟨rfl, rfl, rfl⟩
theorem rJoin_url_L (a b : Str) (ha : a.length ≤ 10000000000) (hb : b.length ≤ 10000000000) : PureL Tryz.prog F_lexiconref13_Join [.str a, .str b] (joinV (urlJoin a b)) := by
  intro h
  refine K_lexiconref13_Join (md := false) ?_
  refine (rGood_L a (by omega)).use ?_
  refine s_le (fun h2 => ?_) (fun h2 => ?_)
  · rw [joinBad1 h2]; exact ⟨rfl, rfl, rfl⟩
  refine (rFull_L b (by omega)).useC (fun h3 => ?_) (fun h3 => ?_)
  · refine ⟨(by simp; omega), ?_⟩
    refine ⟨(by simp; omega), ?_⟩
    rw [joinGood h2 h3]; exact ⟨rfl, rfl, rfl⟩
  · rw [joinBad2 h3]; exact ⟨rfl, rfl, rfl⟩

theorem split_no {s : Str} (h : (urlSplit s).2.2 = 0) : urlBad s = false := by
  cases hb : urlBad s with
  | false => rfl
  | true => rw [urlSplit, if_pos hb] at h; exact absurd h (by decide)
theorem join_no {a b : Str} (h : (urlJoin a b).2 = 0) : joinBad a b = false := by
  cases hb : joinBad a b with
  | false => rfl
  | true => rw [urlJoin, if_pos hb] at h; exact absurd h (by decide)
theorem split_len (s : Str) : (urlSplit s).1.length ≤ s.length ∧ (urlSplit s).2.1.length ≤ s.length := by
  unfold urlSplit
  split
  · simp
  · simp only [List.length_take, List.length_drop]; omega
theorem join_len (a b : Str) : (urlJoin a b).1.length ≤ a.length + b.length + 1 := by
  unfold urlJoin
  split
  · simp
  · simp; omega

theorem BoxURLs_L (known_run : PureL Tryz.prog 4 [] (.bool true)) (url host full : Str) (h1 : url.length ≤ 1000000000000000) (h2 : host.length ≤ 1000000000000000) (h3 : full.length ≤ 1000000000000000) :
    PureL Tryz.prog F_lexiconlaw13_BoxURLs [.str url, .str host, .str full] (.bool true) := by
  intro h
  by_cases hroom : url.length + host.length + full.length ≤ 4194304
  rotate_left
  · refine K_lexiconlaw13_BoxURLs (md := false) ?_
    refine s_nat (url.length + host.length) (by omega) (by omega) ?_
    refine s_nat (url.length + host.length + full.length) (by omega) (by omega) ?_
    exact s_lt (fun _ => ⟨rfl, rfl, rfl⟩) (fun h => by omega)
  have sl := split_len url
  have jl := join_len host full
  have bA : (urlSplit url).2.2 = 0 → urlJoin (urlSplit url).1 (urlSplit url).2.1 = (url, 0) := fun h => by
    have hb := split_no h
    have : urlSplit url = (url.take (lastI 47 url).toNat, url.drop (lastI 47 url + 1).toNat, 0) := by rw [urlSplit, hb]; rfl
    rw [this]; exact url_back hb
  have bB : (urlJoin host full).2 = 0 → urlSplit (urlJoin host full).1 = (host, full, 0) := fun h => by
    have hb := join_no h
    have : urlJoin host full = (host ++ [47] ++ full, 0) := by rw [urlJoin, hb]; rfl
    rw [this]; exact url_there hb
  have cS := Split_url_L url (by omega)
  have cR := rSplit_url_L url (by omega)
  have cJ := Join_url_L host full (by omega) (by omega)
  have cK := rJoin_url_L host full (by omega) (by omega)
  have cA := Join_url_L (urlSplit url).1 (urlSplit url).2.1 (by omega) (by omega)
  have cB := Split_url_L (urlJoin host full).1 (by omega)
  generalize urlSplit url = r at *
  generalize urlJoin host full = q at *
  obtain ⟨a, b, e⟩ := r
  obtain ⟨s, g⟩ := q
  simp only at cA cB bA bB sl jl
  refine K_lexiconlaw13_BoxURLs (md := false) ?_
  refine s_nat (url.length + host.length) (by omega) (by omega) ?_
  refine s_nat (url.length + host.length + full.length) (by omega) (by omega) ?_
  refine s_lt (fun _ => ⟨rfl, rfl, rfl⟩) (fun _ => ?_)
  refine known_run.use ?_
  refine cS.use ?_
  refine ⟨_, rfl, ?_⟩
  refine ⟨_, rfl, ?_⟩
  refine ⟨_, rfl, ?_⟩
  refine cR.use ?_
  refine ⟨_, rfl, ?_⟩
  refine ⟨_, rfl, ?_⟩
  refine ⟨_, rfl, ?_⟩
  refine cJ.use ?_
  refine ⟨_, rfl, ?_⟩
  refine ⟨_, rfl, ?_⟩
  refine cK.use ?_
  refine ⟨_, rfl, ?_⟩
  refine ⟨_, rfl, ?_⟩
  refine s_sne (fun h => absurd rfl h) (fun _ => ?_)
  refine s_sne (fun h => absurd rfl h) (fun _ => ?_)
  refine s_ne (fun h => absurd rfl h) (fun _ => ?_)
  refine s_sne (fun h => absurd rfl h) (fun _ => ?_)
  refine s_ne (fun h => absurd rfl h) (fun _ => ?_)
  refine s_eq (fun h4 => ?_) (fun _ => ?_)
  · rw [bA h4] at cA
    refine cA.use ?_
    refine ⟨_, rfl, ?_⟩
    refine ⟨_, rfl, ?_⟩
    refine s_sne (fun h => absurd rfl h) (fun _ => ?_)
    refine s_ne (fun h => absurd rfl h) (fun _ => ?_)
    refine s_eq (fun h5 => ?_) (fun _ => ⟨rfl, rfl, rfl⟩)
    rw [bB h5] at cB
    refine cB.use ?_
    refine ⟨_, rfl, ?_⟩
    refine ⟨_, rfl, ?_⟩
    refine ⟨_, rfl, ?_⟩
    refine s_seq (fun _ => ?_) (fun h => absurd rfl h)
    refine s_seq (fun _ => ?_) (fun h => absurd rfl h)
    refine s_eq (fun _ => ?_) (fun h => absurd rfl h)
    exact ⟨rfl, rfl, rfl⟩
  · refine s_eq (fun h5 => ?_) (fun _ => ⟨rfl, rfl, rfl⟩)
    rw [bB h5] at cB
    refine cB.use ?_
    refine ⟨_, rfl, ?_⟩
    refine ⟨_, rfl, ?_⟩
    refine ⟨_, rfl, ?_⟩
    refine s_seq (fun _ => ?_) (fun h => absurd rfl h)
    refine s_seq (fun _ => ?_) (fun h => absurd rfl h)
    refine s_eq (fun _ => ?_) (fun h => absurd rfl h)
    exact ⟨rfl, rfl, rfl⟩
end Go.Proofs.YtpldnmjdoogghaaGreatDoor
