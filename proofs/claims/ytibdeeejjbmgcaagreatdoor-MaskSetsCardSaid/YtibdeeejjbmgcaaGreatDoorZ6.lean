/- Contracts of functions of the given program, in the logic L: texts put together; no conditions. -/
import Derived.Test.YtibdeeejjbmgcaaGreatDoorZ5
import Derived.Test.YtibdeeejjbmgcaaGreatDoorZ3
import Derived.Test.YtibdeeejjbmgcaaGreatDoorProg
import Derived.KernelRfl
/- The codes of functions as the logic L has them; each is what the logic makes of the given program (by the kernel). Printed by program (gen_codes.py). -/
namespace Go.Proofs.YtibdeeejjbmgcaaGreatDoor
open Go.L

-- lexicon/texts.small
abbrev F_texts_small : Nat := 93
def A_texts_small_0 : List AOper := [mv 3 0, o_ 4 (.bini .geq (.t 3) (.c (.int .u8 (97)))), mv 5 4, g_ 6 (.mov (.t 0)) 5, g_ 7 (.bini .leq (.t 6) (.c (.int .u8 (122)))) 5, o_ 8 (.pick (.t 5) (.t 7) (.c (.bool false))), mv 2 8]
def A_texts_small : ACode := (.seq (.ops [o_ 2 (.mov (.c (.bool false)))]) (.seq (.ops A_texts_small_0) .ret))
def R_texts_small : List ARes := [.tmp 2]
theorem C_texts_small : compF Tryz.prog Tryz.f93 = some (A_texts_small, R_texts_small) := by kernel_rfl
theorem K_texts_small {md : Bool} {args : List AV} {h : Hp} {Q : Res → Hp → Prop} (hl : LCode Tryz.prog md A_texts_small (EndQ R_texts_small Q) (env0 9 args) h) (hn : args.length ≤ 9 := by (simp; done)) : CallL Tryz.prog F_texts_small args h Q :=
  CallL.of (md := md) Tryz.func93 C_texts_small (by rw [Tryz.ntmps93]; exact hn) (by rw [Tryz.ntmps93]; exact hl)

-- lexicon/texts.digit
abbrev F_texts_digit : Nat := 92
def A_texts_digit_0 : List AOper := [mv 3 0, o_ 4 (.bini .geq (.t 3) (.c (.int .u8 (48)))), mv 5 4, g_ 6 (.mov (.t 0)) 5, g_ 7 (.bini .leq (.t 6) (.c (.int .u8 (57)))) 5, o_ 8 (.pick (.t 5) (.t 7) (.c (.bool false))), mv 2 8]
def A_texts_digit : ACode := (.seq (.ops [o_ 2 (.mov (.c (.bool false)))]) (.seq (.ops A_texts_digit_0) .ret))
def R_texts_digit : List ARes := [.tmp 2]
theorem C_texts_digit : compF Tryz.prog Tryz.f92 = some (A_texts_digit, R_texts_digit) := by kernel_rfl
theorem K_texts_digit {md : Bool} {args : List AV} {h : Hp} {Q : Res → Hp → Prop} (hl : LCode Tryz.prog md A_texts_digit (EndQ R_texts_digit Q) (env0 9 args) h) (hn : args.length ≤ 9 := by (simp; done)) : CallL Tryz.prog F_texts_digit args h Q :=
  CallL.of (md := md) Tryz.func92 C_texts_digit (by rw [Tryz.ntmps92]; exact hn) (by rw [Tryz.ntmps92]; exact hl)

-- lexicon/texts.capital
abbrev F_texts_capital : Nat := 94
def A_texts_capital_0 : List AOper := [mv 3 0, o_ 4 (.bini .geq (.t 3) (.c (.int .u8 (65)))), mv 5 4, g_ 6 (.mov (.t 0)) 5, g_ 7 (.bini .leq (.t 6) (.c (.int .u8 (90)))) 5, o_ 8 (.pick (.t 5) (.t 7) (.c (.bool false))), mv 2 8]
def A_texts_capital : ACode := (.seq (.ops [o_ 2 (.mov (.c (.bool false)))]) (.seq (.ops A_texts_capital_0) .ret))
def R_texts_capital : List ARes := [.tmp 2]
theorem C_texts_capital : compF Tryz.prog Tryz.f94 = some (A_texts_capital, R_texts_capital) := by kernel_rfl
theorem K_texts_capital {md : Bool} {args : List AV} {h : Hp} {Q : Res → Hp → Prop} (hl : LCode Tryz.prog md A_texts_capital (EndQ R_texts_capital Q) (env0 9 args) h) (hn : args.length ≤ 9 := by (simp; done)) : CallL Tryz.prog F_texts_capital args h Q :=
  CallL.of (md := md) Tryz.func94 C_texts_capital (by rw [Tryz.ntmps94]; exact hn) (by rw [Tryz.ntmps94]; exact hl)

-- lexicon/texts.Ident
abbrev F_texts_Ident : Nat := 72
def A_texts_Ident_0 : List AOper := [mv 5 0, o_ 6 (.bins .eql (.t 5) (.c (.str []))), mv 7 6, ⟨some 8, .mov (.t 0), some (7, false)⟩, ⟨some 9, .lens (.t 8), some (7, false)⟩, ⟨some 10, .bini .gtr (.t 9) (i_ 255), some (7, false)⟩, o_ 11 (.pick (.t 7) (.c (.bool true)) (.t 10)), mv 12 11, ⟨some 13, .mov (.t 0), some (12, false)⟩, ⟨some 14, .idxs (.t 13) (i_ 0), some (12, false)⟩, ⟨some 15, .call 92 [(.t 14)], some (12, false)⟩, o_ 16 (.pick (.t 12) (.c (.bool true)) (.t 15))]
def A_texts_Ident_1 : List AOper := [mv 17 0, o_ 18 (.lens (.t 17)), o_ 19 (.mov (i_ 0))]
def A_texts_Ident_2 : List AOper := [mv 21 19, mv 3 21]
def A_texts_Ident_3 : List AOper := [mv 22 0, mv 23 3, o_ 24 (.idxs (.t 22) (.t 23)), mv 4 24]
def A_texts_Ident_4 : List AOper := [mv 25 4, o_ 26 (.call 93 [(.t 25)]), o_ 27 (.not (.t 26)), mv 28 27, g_ 29 (.mov (.t 4)) 28, g_ 30 (.call 94 [(.t 29)]) 28, g_ 31 (.not (.t 30)) 28, o_ 32 (.pick (.t 28) (.t 31) (.c (.bool false))), mv 33 32, g_ 34 (.mov (.t 4)) 33, g_ 35 (.call 92 [(.t 34)]) 33, g_ 36 (.not (.t 35)) 33, o_ 37 (.pick (.t 33) (.t 36) (.c (.bool false))), mv 38 37, g_ 39 (.mov (.t 4)) 38, g_ 40 (.bini .neq (.t 39) (.c (.int .u8 (95)))) 38, o_ 41 (.pick (.t 38) (.t 40) (.c (.bool false)))]
def A_texts_Ident_5 : List AOper := [o_ 42 (.bini .add (.t 19) (i_ 1)), mv 19 42]
def A_texts_Ident_6 : ACode := (.seq (.ops [o_ 20 (.bini .lss (.t 19) (.t 18))]) (.seq (.cond (.t 20) .skip (.exit 0)) (.seq (.block 1 (.seq (.ops A_texts_Ident_2) (.seq (.ops A_texts_Ident_3) (.seq (.ops A_texts_Ident_4) (.cond (.t 41) (.seq (.ops [o_ 2 (.mov (.c (.bool false)))]) .ret) .skip))))) (.ops A_texts_Ident_5))))
def A_texts_Ident : ACode := (.seq (.ops [o_ 2 (.mov (.c (.bool false)))]) (.seq (.seq (.ops A_texts_Ident_0) (.cond (.t 16) (.seq (.ops [o_ 2 (.mov (.c (.bool false)))]) .ret) .skip)) (.seq (.seq (.ops A_texts_Ident_1) (.block 0 (.loop A_texts_Ident_6))) (.seq (.ops [o_ 2 (.mov (.c (.bool true)))]) .ret))))
def R_texts_Ident : List ARes := [.tmp 2]
theorem C_texts_Ident : compF Tryz.prog Tryz.f72 = some (A_texts_Ident, R_texts_Ident) := by kernel_rfl
theorem K_texts_Ident {md : Bool} {args : List AV} {h : Hp} {Q : Res → Hp → Prop} (hl : LCode Tryz.prog md A_texts_Ident (EndQ R_texts_Ident Q) (env0 43 args) h) (hn : args.length ≤ 43 := by (simp; done)) : CallL Tryz.prog F_texts_Ident args h Q :=
  CallL.of (md := md) Tryz.func72 C_texts_Ident (by rw [Tryz.ntmps72]; exact hn) (by rw [Tryz.ntmps72]; exact hl)

-- strings.Split
abbrev F_strings_Split : Nat := 59
def A_strings_Split_0 : List AOper := [mv 5 0, mv 6 1, o_ 7 (.call 71 [(.t 5), (.t 6), (i_ 0), (i_ (-1))]), mv 4 7]
def A_strings_Split : ACode := (.seq (.ops [o_ 4 (.mov (.c (.nils)))]) (.seq (.ops A_strings_Split_0) .ret))
def R_strings_Split : List ARes := [.tmp 4]
theorem C_strings_Split : compF Tryz.prog Tryz.f59 = some (A_strings_Split, R_strings_Split) := by kernel_rfl
theorem K_strings_Split {md : Bool} {args : List AV} {h : Hp} {Q : Res → Hp → Prop} (hl : LCode Tryz.prog md A_strings_Split (EndQ R_strings_Split Q) (env0 8 args) h) (hn : args.length ≤ 8 := by (simp; done)) : CallL Tryz.prog F_strings_Split args h Q :=
  CallL.of (md := md) Tryz.func59 C_strings_Split (by rw [Tryz.ntmps59]; exact hn) (by rw [Tryz.ntmps59]; exact hl)

-- strings.genSplit
abbrev F_strings_genSplit : Nat := 71
def A_strings_genSplit_0 : List AOper := [mv 12 3, o_ 13 (.bini .eql (.t 12) (i_ 0))]
def A_strings_genSplit_1 : List AOper := [mv 14 1, o_ 15 (.bins .eql (.t 14) (.c (.str [])))]
def A_strings_genSplit_2 : List AOper := [mv 16 0, mv 17 3, o_ 18 (.call 89 [(.t 16), (.t 17)]), mv 8 18]
def A_strings_genSplit_3 : List AOper := [mv 19 3, o_ 20 (.bini .lss (.t 19) (i_ 0))]
def A_strings_genSplit_4 : List AOper := [mv 21 0, mv 22 1, o_ 23 (.call 90 [(.t 21), (.t 22)]), o_ 24 (.bini .add (.t 23) (i_ 1)), mv 3 24]
def A_strings_genSplit_5 : List AOper := [mv 25 3, mv 26 0, o_ 27 (.lens (.t 26)), o_ 28 (.bini .add (.t 27) (i_ 1)), o_ 29 (.mn (.t 25) (.t 28)), mv 3 29]
def A_strings_genSplit_6 : List AOper := [mv 30 3, o_ 31 (.mkslice 9 1 16 [.str []] (.t 30) (.t 30)), mv 9 31]
def A_strings_genSplit_7 : List AOper := [mv 32 3, o_ 33 (.bini .sub (.t 32) (i_ 1)), mv 3 33]
def A_strings_genSplit_8 : List AOper := [mv 34 10, mv 35 3, o_ 36 (.bini .lss (.t 34) (.t 35))]
def A_strings_genSplit_9 : List AOper := [mv 37 0, mv 38 1, o_ 39 (.call 91 [(.t 37), (.t 38)]), mv 11 39]
def A_strings_genSplit_10 : List AOper := [mv 40 11, o_ 41 (.bini .lss (.t 40) (i_ 0))]
def A_strings_genSplit_11 : List AOper := [mv 42 9, mv 43 10, mv 44 0, mv 45 11, mv 46 2, o_ 47 (.bini .add (.t 45) (.t 46)), o_ 48 (.slcs (.t 44) none (some (.t 47))), o_ 49 (.iaddr 9 1 (.t 42) (.t 43)), n_ (.st 1 (.t 49) (.t 48))]
def A_strings_genSplit_12 : List AOper := [mv 50 0, mv 51 11, mv 52 1, o_ 53 (.lens (.t 52)), o_ 54 (.bini .add (.t 51) (.t 53)), o_ 55 (.slcs (.t 50) (some (.t 54)) none), mv 0 55]
def A_strings_genSplit_13 : List AOper := [mv 56 10, o_ 57 (.bini .add (.t 56) (i_ 1)), mv 10 57]
def A_strings_genSplit_14 : ACode := (.seq (.seq (.ops A_strings_genSplit_8) (.cond (.t 36) .skip (.exit 0))) (.block 1 (.seq (.ops A_strings_genSplit_9) (.seq (.seq (.ops A_strings_genSplit_10) (.cond (.t 41) (.exit 0) .skip)) (.seq (.ops A_strings_genSplit_11) (.seq (.ops A_strings_genSplit_12) (.ops A_strings_genSplit_13)))))))
def A_strings_genSplit_15 : List AOper := [mv 58 9, mv 59 10, mv 60 0, o_ 61 (.iaddr 9 1 (.t 58) (.t 59)), n_ (.st 1 (.t 61) (.t 60))]
def A_strings_genSplit_16 : List AOper := [mv 62 9, mv 63 10, o_ 64 (.bini .add (.t 63) (i_ 1)), o_ 65 (.slcl 9 1 (.t 62) none (some (.t 64)) none), mv 8 65]
def A_strings_genSplit : ACode := (.seq (.ops [o_ 8 (.mov (.c (.nils)))]) (.seq (.seq (.ops A_strings_genSplit_0) (.cond (.t 13) (.seq (.ops [o_ 8 (.mov (.c (.nils)))]) .ret) .skip)) (.seq (.seq (.ops A_strings_genSplit_1) (.cond (.t 15) (.seq (.ops A_strings_genSplit_2) .ret) .skip)) (.seq (.seq (.ops A_strings_genSplit_3) (.cond (.t 20) (.ops A_strings_genSplit_4) .skip)) (.seq (.ops A_strings_genSplit_5) (.seq (.ops A_strings_genSplit_6) (.seq (.ops A_strings_genSplit_7) (.seq (.ops [o_ 10 (.mov (i_ 0))]) (.seq (.block 0 (.loop A_strings_genSplit_14)) (.seq (.ops A_strings_genSplit_15) (.seq (.ops A_strings_genSplit_16) .ret)))))))))))
def R_strings_genSplit : List ARes := [.tmp 8]
theorem C_strings_genSplit : compF Tryz.prog Tryz.f71 = some (A_strings_genSplit, R_strings_genSplit) := by kernel_rfl
theorem K_strings_genSplit {md : Bool} {args : List AV} {h : Hp} {Q : Res → Hp → Prop} (hl : LCode Tryz.prog md A_strings_genSplit (EndQ R_strings_genSplit Q) (env0 66 args) h) (hn : args.length ≤ 66 := by (simp; done)) : CallL Tryz.prog F_strings_genSplit args h Q :=
  CallL.of (md := md) Tryz.func71 C_strings_genSplit (by rw [Tryz.ntmps71]; exact hn) (by rw [Tryz.ntmps71]; exact hl)

-- strings.Count
abbrev F_strings_Count : Nat := 90
def A_strings_Count_0 : List AOper := [mv 7 1, o_ 8 (.lens (.t 7)), o_ 9 (.bini .eql (.t 8) (i_ 0))]
def A_strings_Count_1 : List AOper := [mv 10 0, o_ 11 (.call 106 [(.t 10)]), o_ 12 (.bini .add (.t 11) (i_ 1)), mv 4 12]
def A_strings_Count_2 : List AOper := [mv 13 1, o_ 14 (.lens (.t 13)), o_ 15 (.bini .eql (.t 14) (i_ 1))]
def A_strings_Count_3 : List AOper := [mv 16 0, mv 17 1, o_ 18 (.idxs (.t 17) (i_ 0)), o_ 19 (.xcount (.t 16) (.t 18)), mv 4 19]
def A_strings_Count_4 : List AOper := [mv 20 0, mv 21 1, o_ 22 (.call 91 [(.t 20), (.t 21)]), mv 6 22]
def A_strings_Count_5 : List AOper := [mv 23 6, o_ 24 (.bini .eql (.t 23) (i_ (-1)))]
def A_strings_Count_6 : List AOper := [mv 25 5, mv 4 25]
def A_strings_Count_7 : List AOper := [mv 26 5, o_ 27 (.bini .add (.t 26) (i_ 1)), mv 5 27]
def A_strings_Count_8 : List AOper := [mv 28 0, mv 29 6, mv 30 1, o_ 31 (.lens (.t 30)), o_ 32 (.bini .add (.t 29) (.t 31)), o_ 33 (.slcs (.t 28) (some (.t 32)) none), mv 0 33]
def A_strings_Count_9 : ACode := (.block 1 (.seq (.ops A_strings_Count_4) (.seq (.seq (.ops A_strings_Count_5) (.cond (.t 24) (.seq (.ops A_strings_Count_6) .ret) .skip)) (.seq (.ops A_strings_Count_7) (.ops A_strings_Count_8)))))
def A_strings_Count : ACode := (.seq (.ops [o_ 4 (.mov (i_ 0))]) (.seq (.seq (.ops A_strings_Count_0) (.cond (.t 9) (.seq (.ops A_strings_Count_1) .ret) .skip)) (.seq (.seq (.ops A_strings_Count_2) (.cond (.t 15) (.seq (.ops A_strings_Count_3) .ret) .skip)) (.seq (.ops [o_ 5 (.mov (i_ 0))]) (.block 0 (.loop A_strings_Count_9))))))
def R_strings_Count : List ARes := [.tmp 4]
theorem C_strings_Count : compF Tryz.prog Tryz.f90 = some (A_strings_Count, R_strings_Count) := by kernel_rfl
theorem K_strings_Count {md : Bool} {args : List AV} {h : Hp} {Q : Res → Hp → Prop} (hl : LCode Tryz.prog md A_strings_Count (EndQ R_strings_Count Q) (env0 34 args) h) (hn : args.length ≤ 34 := by (simp; done)) : CallL Tryz.prog F_strings_Count args h Q :=
  CallL.of (md := md) Tryz.func90 C_strings_Count (by rw [Tryz.ntmps90]; exact hn) (by rw [Tryz.ntmps90]; exact hl)

-- strings.Index
abbrev F_strings_Index : Nat := 91
def A_strings_Index_0 : List AOper := [mv 5 0, mv 6 1, o_ 7 (.call 109 [(.t 5), (.t 6)]), mv 4 7]
def A_strings_Index : ACode := (.seq (.ops [o_ 4 (.mov (i_ 0))]) (.seq (.ops A_strings_Index_0) .ret))
def R_strings_Index : List ARes := [.tmp 4]
theorem C_strings_Index : compF Tryz.prog Tryz.f91 = some (A_strings_Index, R_strings_Index) := by kernel_rfl
theorem K_strings_Index {md : Bool} {args : List AV} {h : Hp} {Q : Res → Hp → Prop} (hl : LCode Tryz.prog md A_strings_Index (EndQ R_strings_Index Q) (env0 8 args) h) (hn : args.length ≤ 8 := by (simp; done)) : CallL Tryz.prog F_strings_Index args h Q :=
  CallL.of (md := md) Tryz.func91 C_strings_Index (by rw [Tryz.ntmps91]; exact hn) (by rw [Tryz.ntmps91]; exact hl)

-- internal/stringslite.Index
abbrev F_internal_stringslite_Index : Nat := 109
def A_internal_stringslite_Index_0 : List AOper := [mv 14 1, o_ 15 (.lens (.t 14)), mv 5 15]
def A_internal_stringslite_Index_1 : List AOper := [mv 17 5, o_ 18 (.bini .eql (.t 17) (i_ 0)), mv 19 18, ⟨some 20, .mov (.t 1), some (19, false)⟩, ⟨some 21, .mov (.t 0), some (19, false)⟩, ⟨some 22, .bins .eql (.t 20) (.t 21), some (19, false)⟩, o_ 23 (.pick (.t 19) (.c (.bool true)) (.t 22)), mv 16 23]
def A_internal_stringslite_Index_2 : List AOper := [mv 25 5, o_ 26 (.bini .eql (.t 25) (i_ 1)), mv 24 26]
def A_internal_stringslite_Index_3 : List AOper := [mv 27 0, mv 28 1, o_ 29 (.idxs (.t 28) (i_ 0)), o_ 30 (.call 117 [(.t 27), (.t 29)]), mv 4 30]
def A_internal_stringslite_Index_4 : List AOper := [mv 32 5, mv 33 0, o_ 34 (.lens (.t 33)), o_ 35 (.bini .geq (.t 32) (.t 34)), mv 31 35]
def A_internal_stringslite_Index_5 : List AOper := [mv 37 5, o_ 38 (.bad), o_ 39 (.bini .leq (.t 37) (.t 38)), mv 40 39, g_ 41 (.mov (.t 0)) 40, g_ 42 (.lens (.t 41)) 40, g_ 43 (.bini .leq (.t 42) (i_ 64)) 40, o_ 44 (.pick (.t 40) (.t 43) (.c (.bool false))), mv 36 44]
def A_internal_stringslite_Index_6 : List AOper := [mv 45 0, mv 46 1, o_ 47 (.bad), mv 4 47]
def A_internal_stringslite_Index_7 : List AOper := [mv 48 1, o_ 49 (.idxs (.t 48) (i_ 0)), mv 6 49]
def A_internal_stringslite_Index_8 : List AOper := [mv 50 1, o_ 51 (.idxs (.t 50) (i_ 1)), mv 7 51]
def A_internal_stringslite_Index_9 : List AOper := [mv 52 0, o_ 53 (.lens (.t 52)), mv 54 5, o_ 55 (.bini .sub (.t 53) (.t 54)), o_ 56 (.bini .add (.t 55) (i_ 1)), mv 9 56]
def A_internal_stringslite_Index_10 : List AOper := [mv 57 8, mv 58 9, o_ 59 (.bini .lss (.t 57) (.t 58))]
def A_internal_stringslite_Index_11 : List AOper := [mv 60 0, mv 61 8, o_ 62 (.idxs (.t 60) (.t 61)), mv 63 6, o_ 64 (.bini .neq (.t 62) (.t 63))]
def A_internal_stringslite_Index_12 : List AOper := [mv 65 0, mv 66 8, o_ 67 (.bini .add (.t 66) (i_ 1)), mv 68 9, o_ 69 (.slcs (.t 65) (some (.t 67)) (some (.t 68))), mv 70 6, o_ 71 (.call 117 [(.t 69), (.t 70)]), mv 11 71]
def A_internal_stringslite_Index_13 : List AOper := [mv 72 11, o_ 73 (.bini .lss (.t 72) (i_ 0))]
def A_internal_stringslite_Index_14 : List AOper := [mv 74 8, mv 75 11, o_ 76 (.bini .add (.t 75) (i_ 1)), o_ 77 (.bini .add (.t 74) (.t 76)), mv 8 77]
def A_internal_stringslite_Index_15 : List AOper := [mv 78 0, mv 79 8, o_ 80 (.bini .add (.t 79) (i_ 1)), o_ 81 (.idxs (.t 78) (.t 80)), mv 82 7, o_ 83 (.bini .eql (.t 81) (.t 82)), mv 84 83, g_ 85 (.mov (.t 0)) 84, g_ 86 (.mov (.t 8)) 84, g_ 87 (.mov (.t 8)) 84, g_ 88 (.mov (.t 5)) 84, g_ 89 (.bini .add (.t 87) (.t 88)) 84, g_ 90 (.slcs (.t 85) (some (.t 86)) (some (.t 89))) 84, g_ 91 (.mov (.t 1)) 84, g_ 92 (.bins .eql (.t 90) (.t 91)) 84, o_ 93 (.pick (.t 84) (.t 92) (.c (.bool false)))]
def A_internal_stringslite_Index_16 : List AOper := [mv 94 8, mv 4 94]
def A_internal_stringslite_Index_17 : List AOper := [mv 95 8, o_ 96 (.bini .add (.t 95) (i_ 1)), mv 8 96]
def A_internal_stringslite_Index_18 : List AOper := [mv 97 10, o_ 98 (.bini .add (.t 97) (i_ 1)), mv 10 98]
def A_internal_stringslite_Index_19 : List AOper := [mv 99 5, o_ 100 (.bad), o_ 101 (.bini .leq (.t 99) (.t 100)), mv 102 101, g_ 103 (.mov (.t 10)) 102, g_ 104 (.mov (.t 8)) 102, g_ 105 (.call 119 [(.t 104)]) 102, g_ 106 (.bini .gtr (.t 103) (.t 105)) 102, o_ 107 (.pick (.t 102) (.t 106) (.c (.bool false)))]
def A_internal_stringslite_Index_20 : List AOper := [mv 108 0, mv 109 8, o_ 110 (.slcs (.t 108) (some (.t 109)) none), mv 111 1, o_ 112 (.bad), mv 12 112]
def A_internal_stringslite_Index_21 : List AOper := [mv 113 12, o_ 114 (.bini .geq (.t 113) (i_ 0))]
def A_internal_stringslite_Index_22 : List AOper := [mv 115 12, mv 116 8, o_ 117 (.bini .add (.t 115) (.t 116)), mv 4 117]
def A_internal_stringslite_Index_23 : List AOper := [mv 118 5, o_ 119 (.bad), o_ 120 (.bini .gtr (.t 118) (.t 119)), mv 121 120, g_ 122 (.mov (.t 10)) 121, g_ 123 (.mov (.t 8)) 121, g_ 124 (.bini .shr (.t 123) (.c (.int .u64 (4)))) 121, g_ 125 (.bini .add (i_ 4) (.t 124)) 121, g_ 126 (.bini .geq (.t 122) (.t 125)) 121, o_ 127 (.pick (.t 121) (.t 126) (.c (.bool false))), mv 128 127, g_ 129 (.mov (.t 8)) 128, g_ 130 (.mov (.t 9)) 128, g_ 131 (.bini .lss (.t 129) (.t 130)) 128, o_ 132 (.pick (.t 128) (.t 131) (.c (.bool false)))]
def A_internal_stringslite_Index_24 : List AOper := [mv 133 0, mv 134 8, o_ 135 (.slcs (.t 133) (some (.t 134)) none), mv 136 1, o_ 137 (.call 120 [(.t 135), (.t 136)]), mv 13 137]
def A_internal_stringslite_Index_25 : List AOper := [mv 138 13, o_ 139 (.bini .lss (.t 138) (i_ 0))]
def A_internal_stringslite_Index_26 : List AOper := [mv 140 8, mv 141 13, o_ 142 (.bini .add (.t 140) (.t 141)), mv 4 142]
def A_internal_stringslite_Index_27 : ACode := (.seq (.seq (.ops A_internal_stringslite_Index_10) (.cond (.t 59) .skip (.exit 1))) (.block 2 (.seq (.seq (.ops A_internal_stringslite_Index_11) (.cond (.t 64) (.seq (.ops A_internal_stringslite_Index_12) (.seq (.seq (.ops A_internal_stringslite_Index_13) (.cond (.t 73) (.seq (.ops [o_ 4 (.mov (i_ (-1)))]) .ret) .skip)) (.ops A_internal_stringslite_Index_14))) .skip)) (.seq (.seq (.ops A_internal_stringslite_Index_15) (.cond (.t 93) (.seq (.ops A_internal_stringslite_Index_16) .ret) .skip)) (.seq (.ops A_internal_stringslite_Index_17) (.seq (.ops A_internal_stringslite_Index_18) (.seq (.ops A_internal_stringslite_Index_19) (.cond (.t 107) (.seq (.ops A_internal_stringslite_Index_20) (.seq (.seq (.ops A_internal_stringslite_Index_21) (.cond (.t 114) (.seq (.ops A_internal_stringslite_Index_22) .ret) .skip)) (.seq (.ops [o_ 4 (.mov (i_ (-1)))]) .ret))) (.seq (.ops A_internal_stringslite_Index_23) (.cond (.t 132) (.seq (.ops A_internal_stringslite_Index_24) (.seq (.seq (.ops A_internal_stringslite_Index_25) (.cond (.t 139) (.seq (.ops [o_ 4 (.mov (i_ (-1)))]) .ret) .skip)) (.seq (.ops A_internal_stringslite_Index_26) .ret))) .skip))))))))))
def A_internal_stringslite_Index : ACode := (.seq (.ops [o_ 4 (.mov (i_ 0))]) (.seq (.ops A_internal_stringslite_Index_0) (.seq (.block 0 (.seq (.ops A_internal_stringslite_Index_1) (.cond (.t 16) (.seq (.ops [o_ 4 (.mov (i_ 0))]) .ret) (.seq (.ops A_internal_stringslite_Index_2) (.cond (.t 24) (.seq (.ops A_internal_stringslite_Index_3) .ret) (.seq (.ops A_internal_stringslite_Index_4) (.cond (.t 31) (.seq (.ops [o_ 4 (.mov (i_ (-1)))]) .ret) (.seq (.ops A_internal_stringslite_Index_5) (.cond (.t 36) (.seq (.ops A_internal_stringslite_Index_6) .ret) .skip))))))))) (.seq (.ops A_internal_stringslite_Index_7) (.seq (.ops A_internal_stringslite_Index_8) (.seq (.ops [o_ 8 (.mov (i_ 0))]) (.seq (.ops A_internal_stringslite_Index_9) (.seq (.ops [o_ 10 (.mov (i_ 0))]) (.seq (.block 1 (.loop A_internal_stringslite_Index_27)) (.seq (.ops [o_ 4 (.mov (i_ (-1)))]) .ret))))))))))
def R_internal_stringslite_Index : List ARes := [.tmp 4]
theorem C_internal_stringslite_Index : compF Tryz.prog Tryz.f109 = some (A_internal_stringslite_Index, R_internal_stringslite_Index) := by kernel_rfl
theorem K_internal_stringslite_Index {md : Bool} {args : List AV} {h : Hp} {Q : Res → Hp → Prop} (hl : LCode Tryz.prog md A_internal_stringslite_Index (EndQ R_internal_stringslite_Index Q) (env0 143 args) h) (hn : args.length ≤ 143 := by (simp; done)) : CallL Tryz.prog F_internal_stringslite_Index args h Q :=
  CallL.of (md := md) Tryz.func109 C_internal_stringslite_Index (by rw [Tryz.ntmps109]; exact hn) (by rw [Tryz.ntmps109]; exact hl)

-- internal/stringslite.IndexByte
abbrev F_internal_stringslite_IndexByte : Nat := 117
def A_internal_stringslite_IndexByte_0 : List AOper := [mv 5 0, mv 6 1, o_ 7 (.xindex (.t 5) (.t 6)), mv 4 7]
def A_internal_stringslite_IndexByte : ACode := (.seq (.ops [o_ 4 (.mov (i_ 0))]) (.seq (.ops A_internal_stringslite_IndexByte_0) .ret))
def R_internal_stringslite_IndexByte : List ARes := [.tmp 4]
theorem C_internal_stringslite_IndexByte : compF Tryz.prog Tryz.f117 = some (A_internal_stringslite_IndexByte, R_internal_stringslite_IndexByte) := by kernel_rfl
theorem K_internal_stringslite_IndexByte {md : Bool} {args : List AV} {h : Hp} {Q : Res → Hp → Prop} (hl : LCode Tryz.prog md A_internal_stringslite_IndexByte (EndQ R_internal_stringslite_IndexByte Q) (env0 8 args) h) (hn : args.length ≤ 8 := by (simp; done)) : CallL Tryz.prog F_internal_stringslite_IndexByte args h Q :=
  CallL.of (md := md) Tryz.func117 C_internal_stringslite_IndexByte (by rw [Tryz.ntmps117]; exact hn) (by rw [Tryz.ntmps117]; exact hl)

-- lexicon/mask.isPath
abbrev F_mask_isPath : Nat := 61
def A_mask_isPath_0 : List AOper := [mv 5 0, o_ 6 (.call 59 [(.t 5), (.c (.str [46]))]), o_ 7 (.lenl (.t 6)), o_ 8 (.mov (i_ 0))]
def A_mask_isPath_1 : List AOper := [o_ 10 (.iaddr 9 1 (.t 6) (.t 8)), o_ 11 (.ld1 (.t 10)), mv 4 11]
def A_mask_isPath_2 : List AOper := [mv 12 4, o_ 13 (.call 72 [(.t 12)]), o_ 14 (.not (.t 13))]
def A_mask_isPath_3 : List AOper := [o_ 15 (.bini .add (.t 8) (i_ 1)), mv 8 15]
def A_mask_isPath_4 : ACode := (.seq (.ops [o_ 9 (.bini .lss (.t 8) (.t 7))]) (.seq (.cond (.t 9) .skip (.exit 0)) (.seq (.block 1 (.seq (.ops A_mask_isPath_1) (.seq (.ops A_mask_isPath_2) (.cond (.t 14) (.seq (.ops [o_ 2 (.mov (.c (.bool false)))]) .ret) .skip)))) (.ops A_mask_isPath_3))))
def A_mask_isPath : ACode := (.seq (.ops [o_ 2 (.mov (.c (.bool false)))]) (.seq (.seq (.ops A_mask_isPath_0) (.block 0 (.loop A_mask_isPath_4))) (.seq (.ops [o_ 2 (.mov (.c (.bool true)))]) .ret)))
def R_mask_isPath : List ARes := [.tmp 2]
theorem C_mask_isPath : compF Tryz.prog Tryz.f61 = some (A_mask_isPath, R_mask_isPath) := by kernel_rfl
theorem K_mask_isPath {md : Bool} {args : List AV} {h : Hp} {Q : Res → Hp → Prop} (hl : LCode Tryz.prog md A_mask_isPath (EndQ R_mask_isPath Q) (env0 16 args) h) (hn : args.length ≤ 16 := by (simp; done)) : CallL Tryz.prog F_mask_isPath args h Q :=
  CallL.of (md := md) Tryz.func61 C_mask_isPath (by rw [Tryz.ntmps61]; exact hn) (by rw [Tryz.ntmps61]; exact hl)

-- lexicon/mask.Parse$1
abbrev F_mask_Parse_c1 : Nat := 60
def A_mask_Parse_c1_0 : List AOper := [mv 3 0, o_ 4 (.call 61 [(.t 3)]), o_ 5 (.not (.t 4)), mv 2 5]
def A_mask_Parse_c1 : ACode := (.seq (.ops [o_ 2 (.mov (.c (.bool false)))]) (.seq (.ops A_mask_Parse_c1_0) .ret))
def R_mask_Parse_c1 : List ARes := [.tmp 2]
theorem C_mask_Parse_c1 : compF Tryz.prog Tryz.f60 = some (A_mask_Parse_c1, R_mask_Parse_c1) := by kernel_rfl
theorem K_mask_Parse_c1 {md : Bool} {args : List AV} {h : Hp} {Q : Res → Hp → Prop} (hl : LCode Tryz.prog md A_mask_Parse_c1 (EndQ R_mask_Parse_c1 Q) (env0 6 args) h) (hn : args.length ≤ 6 := by (simp; done)) : CallL Tryz.prog F_mask_Parse_c1 args h Q :=
  CallL.of (md := md) Tryz.func60 C_mask_Parse_c1 (by rw [Tryz.ntmps60]; exact hn) (by rw [Tryz.ntmps60]; exact hl)

-- lexicon/mask.Parse
abbrev F_mask_Parse : Nat := 21
def A_mask_Parse_0 : List AOper := [o_ 2 (.mov (.c (.nils))), o_ 3 (.mov (i_ 0))]
def A_mask_Parse_1 : List AOper := [mv 5 0, o_ 6 (.bins .eql (.t 5) (.c (.str [])))]
def A_mask_Parse_2 : List AOper := [o_ 2 (.mov (.c (.nils))), o_ 3 (.mov (i_ 0))]
def A_mask_Parse_3 : List AOper := [mv 7 0, o_ 8 (.call 59 [(.t 7), (.c (.str [44]))]), mv 4 8]
def A_mask_Parse_4 : List AOper := [mv 9 4, o_ 10 (.call 32 [(.t 9), (.f 60)]), o_ 11 (.not (.t 10))]
def A_mask_Parse_5 : List AOper := [mv 12 4, mv 2 12, o_ 3 (.mov (i_ 0))]
def A_mask_Parse_6 : List AOper := [o_ 2 (.mov (.c (.nils))), o_ 3 (.mov (i_ 160))]
def A_mask_Parse : ACode := (.seq (.ops A_mask_Parse_0) (.seq (.seq (.ops A_mask_Parse_1) (.cond (.t 6) (.seq (.ops A_mask_Parse_2) .ret) .skip)) (.seq (.ops A_mask_Parse_3) (.seq (.seq (.ops A_mask_Parse_4) (.cond (.t 11) (.seq (.ops A_mask_Parse_5) .ret) .skip)) (.seq (.ops A_mask_Parse_6) .ret)))))
def R_mask_Parse : List ARes := [.tmp 2, .tmp 3]
theorem C_mask_Parse : compF Tryz.prog Tryz.f21 = some (A_mask_Parse, R_mask_Parse) := by kernel_rfl
theorem K_mask_Parse {md : Bool} {args : List AV} {h : Hp} {Q : Res → Hp → Prop} (hl : LCode Tryz.prog md A_mask_Parse (EndQ R_mask_Parse Q) (env0 13 args) h) (hn : args.length ≤ 13 := by (simp; done)) : CallL Tryz.prog F_mask_Parse args h Q :=
  CallL.of (md := md) Tryz.func21 C_mask_Parse (by rw [Tryz.ntmps21]; exact hn) (by rw [Tryz.ntmps21]; exact hl)

-- lexicon/mask.Print$1
abbrev F_mask_Print_c1 : Nat := 63
def A_mask_Print_c1_0 : List AOper := [mv 3 0, o_ 4 (.call 61 [(.t 3)]), o_ 5 (.not (.t 4)), mv 2 5]
def A_mask_Print_c1 : ACode := (.seq (.ops [o_ 2 (.mov (.c (.bool false)))]) (.seq (.ops A_mask_Print_c1_0) .ret))
def R_mask_Print_c1 : List ARes := [.tmp 2]
theorem C_mask_Print_c1 : compF Tryz.prog Tryz.f63 = some (A_mask_Print_c1, R_mask_Print_c1) := by kernel_rfl
theorem K_mask_Print_c1 {md : Bool} {args : List AV} {h : Hp} {Q : Res → Hp → Prop} (hl : LCode Tryz.prog md A_mask_Print_c1 (EndQ R_mask_Print_c1 Q) (env0 6 args) h) (hn : args.length ≤ 6 := by (simp; done)) : CallL Tryz.prog F_mask_Print_c1 args h Q :=
  CallL.of (md := md) Tryz.func63 C_mask_Print_c1 (by rw [Tryz.ntmps63]; exact hn) (by rw [Tryz.ntmps63]; exact hl)

-- lexicon/mask.Print
abbrev F_mask_Print : Nat := 23
def A_mask_Print_0 : List AOper := [o_ 2 (.mov (.c (.str []))), o_ 3 (.mov (i_ 0))]
def A_mask_Print_1 : List AOper := [mv 4 0, o_ 5 (.call 32 [(.t 4), (.f 63)])]
def A_mask_Print_2 : List AOper := [o_ 2 (.mov (.c (.str []))), o_ 3 (.mov (i_ 160))]
def A_mask_Print_3 : List AOper := [mv 6 0, o_ 7 (.call 64 [(.t 6), (.c (.str [44]))]), mv 2 7, o_ 3 (.mov (i_ 0))]
def A_mask_Print : ACode := (.seq (.ops A_mask_Print_0) (.seq (.seq (.ops A_mask_Print_1) (.cond (.t 5) (.seq (.ops A_mask_Print_2) .ret) .skip)) (.seq (.ops A_mask_Print_3) .ret)))
def R_mask_Print : List ARes := [.tmp 2, .tmp 3]
theorem C_mask_Print : compF Tryz.prog Tryz.f23 = some (A_mask_Print, R_mask_Print) := by kernel_rfl
theorem K_mask_Print {md : Bool} {args : List AV} {h : Hp} {Q : Res → Hp → Prop} (hl : LCode Tryz.prog md A_mask_Print (EndQ R_mask_Print Q) (env0 8 args) h) (hn : args.length ≤ 8 := by (simp; done)) : CallL Tryz.prog F_mask_Print args h Q :=
  CallL.of (md := md) Tryz.func23 C_mask_Print (by rw [Tryz.ntmps23]; exact hn) (by rw [Tryz.ntmps23]; exact hl)

-- strings.Join
abbrev F_strings_Join : Nat := 64
def A_strings_Join_0 : List AOper := [mv 11 0, o_ 12 (.lenl (.t 11))]
def A_strings_Join_1 : List AOper := [o_ 14 (.bini .eql (.t 12) (i_ 0)), mv 13 14]
def A_strings_Join_2 : List AOper := [o_ 16 (.bini .eql (.t 12) (i_ 1)), mv 15 16]
def A_strings_Join_3 : List AOper := [mv 17 0, o_ 18 (.iaddr 9 1 (.t 17) (i_ 0)), o_ 19 (.ld1 (.t 18)), mv 4 19]
def A_strings_Join_4 : List AOper := [mv 20 1, o_ 21 (.lens (.t 20)), o_ 22 (.bini .gtr (.t 21) (i_ 0))]
def A_strings_Join_5 : List AOper := [mv 23 1, o_ 24 (.lens (.t 23)), mv 25 0, o_ 26 (.lenl (.t 25)), o_ 27 (.bini .sub (.t 26) (i_ 1)), o_ 28 (.bini .quo (i_ 9223372036854775807) (.t 27)), o_ 29 (.bini .geq (.t 24) (.t 28))]
def A_strings_Join_6 : List AOper := [o_ 30 (.mkifc 9 (.c (.str [115, 116, 114, 105, 110, 103, 115, 58, 32, 74, 111, 105, 110, 32, 111, 117, 116, 112, 117, 116, 32, 108, 101, 110, 103, 116, 104, 32, 111, 118, 101, 114, 102, 108, 111, 119]))), n_ (.pan (.t 30))]
def A_strings_Join_7 : List AOper := [mv 31 5, mv 32 1, o_ 33 (.lens (.t 32)), mv 34 0, o_ 35 (.lenl (.t 34)), o_ 36 (.bini .sub (.t 35) (i_ 1)), o_ 37 (.bini .mul (.t 33) (.t 36)), o_ 38 (.bini .add (.t 31) (.t 37)), mv 5 38]
def A_strings_Join_8 : List AOper := [mv 39 0, o_ 40 (.lenl (.t 39)), o_ 41 (.mov (i_ 0))]
def A_strings_Join_9 : List AOper := [o_ 43 (.iaddr 9 1 (.t 39) (.t 41)), o_ 44 (.ld1 (.t 43)), mv 7 44]
def A_strings_Join_10 : List AOper := [mv 45 7, o_ 46 (.lens (.t 45)), mv 47 5, o_ 48 (.bini .sub (i_ 9223372036854775807) (.t 47)), o_ 49 (.bini .gtr (.t 46) (.t 48))]
def A_strings_Join_11 : List AOper := [o_ 50 (.mkifc 9 (.c (.str [115, 116, 114, 105, 110, 103, 115, 58, 32, 74, 111, 105, 110, 32, 111, 117, 116, 112, 117, 116, 32, 108, 101, 110, 103, 116, 104, 32, 111, 118, 101, 114, 102, 108, 111, 119]))), n_ (.pan (.t 50))]
def A_strings_Join_12 : List AOper := [mv 51 5, mv 52 7, o_ 53 (.lens (.t 52)), o_ 54 (.bini .add (.t 51) (.t 53)), mv 5 54]
def A_strings_Join_13 : List AOper := [o_ 55 (.bini .add (.t 41) (i_ 1)), mv 41 55]
def A_strings_Join_14 : ACode := (.seq (.ops [o_ 42 (.bini .lss (.t 41) (.t 40))]) (.seq (.cond (.t 42) .skip (.exit 1)) (.seq (.block 2 (.seq (.ops A_strings_Join_9) (.seq (.seq (.ops A_strings_Join_10) (.cond (.t 49) (.ops A_strings_Join_11) .skip)) (.ops A_strings_Join_12)))) (.ops A_strings_Join_13))))
def A_strings_Join_15 : List AOper := [mv 56 5, o_ 57 (.call 74 [(.t 8), (.t 56)])]
def A_strings_Join_16 : List AOper := [mv 58 0, o_ 59 (.iaddr 9 1 (.t 58) (i_ 0)), o_ 60 (.ld1 (.t 59)), o_ 61 (.call 75 [(.t 8), (.t 60)])]
def A_strings_Join_17 : List AOper := [mv 62 0, o_ 63 (.slcl 9 1 (.t 62) (some (i_ 1)) none none), o_ 64 (.lenl (.t 63)), o_ 65 (.mov (i_ 0))]
def A_strings_Join_18 : List AOper := [o_ 67 (.iaddr 9 1 (.t 63) (.t 65)), o_ 68 (.ld1 (.t 67)), mv 10 68]
def A_strings_Join_19 : List AOper := [mv 69 1, o_ 70 (.call 75 [(.t 8), (.t 69)])]
def A_strings_Join_20 : List AOper := [mv 71 10, o_ 72 (.call 75 [(.t 8), (.t 71)])]
def A_strings_Join_21 : List AOper := [o_ 73 (.bini .add (.t 65) (i_ 1)), mv 65 73]
def A_strings_Join_22 : ACode := (.seq (.ops [o_ 66 (.bini .lss (.t 65) (.t 64))]) (.seq (.cond (.t 66) .skip (.exit 3)) (.seq (.block 4 (.seq (.ops A_strings_Join_18) (.seq (.ops A_strings_Join_19) (.ops A_strings_Join_20)))) (.ops A_strings_Join_21))))
def A_strings_Join_23 : List AOper := [o_ 74 (.call 76 [(.t 8)]), mv 4 74]
def A_strings_Join : ACode := (.seq (.ops [o_ 4 (.mov (.c (.str [])))]) (.seq (.seq (.ops A_strings_Join_0) (.block 0 (.seq (.ops A_strings_Join_1) (.cond (.t 13) (.seq (.ops [o_ 4 (.mov (.c (.str [])))]) .ret) (.seq (.ops A_strings_Join_2) (.cond (.t 15) (.seq (.ops A_strings_Join_3) .ret) .skip)))))) (.seq (.ops [o_ 5 (.mov (i_ 0))]) (.seq (.seq (.ops A_strings_Join_4) (.cond (.t 22) (.seq (.seq (.ops A_strings_Join_5) (.cond (.t 29) (.ops A_strings_Join_6) .skip)) (.ops A_strings_Join_7)) .skip)) (.seq (.seq (.ops A_strings_Join_8) (.block 1 (.loop A_strings_Join_14))) (.seq (.ops [o_ 8 (.box 177 2 (.c (.agg [.nilp, .nils])))]) (.seq (.ops A_strings_Join_15) (.seq (.ops A_strings_Join_16) (.seq (.seq (.ops A_strings_Join_17) (.block 3 (.loop A_strings_Join_22))) (.seq (.ops A_strings_Join_23) .ret))))))))))
def R_strings_Join : List ARes := [.tmp 4]
theorem C_strings_Join : compF Tryz.prog Tryz.f64 = some (A_strings_Join, R_strings_Join) := by kernel_rfl
theorem K_strings_Join {md : Bool} {args : List AV} {h : Hp} {Q : Res → Hp → Prop} (hl : LCode Tryz.prog md A_strings_Join (EndQ R_strings_Join Q) (env0 75 args) h) (hn : args.length ≤ 75 := by (simp; done)) : CallL Tryz.prog F_strings_Join args h Q :=
  CallL.of (md := md) Tryz.func64 C_strings_Join (by rw [Tryz.ntmps64]; exact hn) (by rw [Tryz.ntmps64]; exact hl)

-- lexicon/lexiconref02.Ident
abbrev F_lexiconref02_Ident : Nat := 73
def A_lexiconref02_Ident_0 : List AOper := [mv 6 0, o_ 7 (.lens (.t 6)), o_ 8 (.bini .eql (.t 7) (i_ 0)), mv 9 8, ⟨some 10, .mov (.t 0), some (9, false)⟩, ⟨some 11, .lens (.t 10), some (9, false)⟩, ⟨some 12, .bini .gtr (.t 11) (i_ 255), some (9, false)⟩, o_ 13 (.pick (.t 9) (.c (.bool true)) (.t 12))]
def A_lexiconref02_Ident_1 : List AOper := [mv 14 3, mv 15 0, o_ 16 (.lens (.t 15)), o_ 17 (.bini .lss (.t 14) (.t 16))]
def A_lexiconref02_Ident_2 : List AOper := [mv 20 0, mv 21 3, o_ 22 (.idxs (.t 20) (.t 21)), o_ 23 (.call 95 [(.t 22)]), mv 4 23]
def A_lexiconref02_Ident_3 : List AOper := [mv 24 0, mv 25 3, o_ 26 (.idxs (.t 24) (.t 25)), o_ 27 (.call 96 [(.t 26)]), mv 5 27]
def A_lexiconref02_Ident_4 : List AOper := [mv 28 4, o_ 29 (.not (.t 28)), mv 30 29, g_ 31 (.mov (.t 5)) 30, g_ 32 (.not (.t 31)) 30, g_ 33 (.mov (.t 32)) 30, ⟨some 34, .mov (.t 3), some (33, false)⟩, ⟨some 35, .bini .eql (.t 34) (i_ 0), some (33, false)⟩, g_ 36 (.pick (.t 33) (.c (.bool true)) (.t 35)) 30, o_ 37 (.pick (.t 30) (.t 36) (.c (.bool false)))]
def A_lexiconref02_Ident_5 : List AOper := [mv 18 3, o_ 19 (.bini .add (.t 18) (i_ 1)), mv 3 19]
def A_lexiconref02_Ident_6 : ACode := (.seq (.seq (.ops A_lexiconref02_Ident_1) (.cond (.t 17) .skip (.exit 0))) (.seq (.block 1 (.seq (.ops A_lexiconref02_Ident_2) (.seq (.ops A_lexiconref02_Ident_3) (.seq (.ops A_lexiconref02_Ident_4) (.cond (.t 37) (.seq (.ops [o_ 2 (.mov (.c (.bool false)))]) .ret) .skip))))) (.ops A_lexiconref02_Ident_5)))
def A_lexiconref02_Ident : ACode := (.seq (.ops [o_ 2 (.mov (.c (.bool false)))]) (.seq (.seq (.ops A_lexiconref02_Ident_0) (.cond (.t 13) (.seq (.ops [o_ 2 (.mov (.c (.bool false)))]) .ret) .skip)) (.seq (.seq (.ops [o_ 3 (.mov (i_ 0))]) (.block 0 (.loop A_lexiconref02_Ident_6))) (.seq (.ops [o_ 2 (.mov (.c (.bool true)))]) .ret))))
def R_lexiconref02_Ident : List ARes := [.tmp 2]
theorem C_lexiconref02_Ident : compF Tryz.prog Tryz.f73 = some (A_lexiconref02_Ident, R_lexiconref02_Ident) := by kernel_rfl
theorem K_lexiconref02_Ident {md : Bool} {args : List AV} {h : Hp} {Q : Res → Hp → Prop} (hl : LCode Tryz.prog md A_lexiconref02_Ident (EndQ R_lexiconref02_Ident Q) (env0 38 args) h) (hn : args.length ≤ 38 := by (simp; done)) : CallL Tryz.prog F_lexiconref02_Ident args h Q :=
  CallL.of (md := md) Tryz.func73 C_lexiconref02_Ident (by rw [Tryz.ntmps73]; exact hn) (by rw [Tryz.ntmps73]; exact hl)

-- lexicon/lexiconref16.Path
abbrev F_lexiconref16_Path : Nat := 62
def A_lexiconref16_Path_0 : List AOper := [mv 5 4, mv 6 0, o_ 7 (.lens (.t 6)), o_ 8 (.bini .leq (.t 5) (.t 7))]
def A_lexiconref16_Path_1 : List AOper := [mv 11 4, mv 12 0, o_ 13 (.lens (.t 12)), o_ 14 (.bini .lss (.t 11) (.t 13)), mv 15 14, g_ 16 (.mov (.t 0)) 15, g_ 17 (.mov (.t 4)) 15, g_ 18 (.idxs (.t 16) (.t 17)) 15, g_ 19 (.bini .neq (.t 18) (.c (.int .u8 (46)))) 15, o_ 20 (.pick (.t 15) (.t 19) (.c (.bool false)))]
def A_lexiconref16_Path_2 : List AOper := [mv 21 0, mv 22 3, mv 23 4, o_ 24 (.slcs (.t 21) (some (.t 22)) (some (.t 23))), o_ 25 (.call 73 [(.t 24)]), o_ 26 (.not (.t 25))]
def A_lexiconref16_Path_3 : List AOper := [mv 27 4, o_ 28 (.bini .add (.t 27) (i_ 1)), mv 3 28]
def A_lexiconref16_Path_4 : List AOper := [mv 9 4, o_ 10 (.bini .add (.t 9) (i_ 1)), mv 4 10]
def A_lexiconref16_Path_5 : ACode := (.seq (.seq (.ops A_lexiconref16_Path_0) (.cond (.t 8) .skip (.exit 0))) (.seq (.block 1 (.seq (.seq (.ops A_lexiconref16_Path_1) (.cond (.t 20) (.exit 1) .skip)) (.seq (.seq (.ops A_lexiconref16_Path_2) (.cond (.t 26) (.seq (.ops [o_ 2 (.mov (.c (.bool false)))]) .ret) .skip)) (.ops A_lexiconref16_Path_3)))) (.ops A_lexiconref16_Path_4)))
def A_lexiconref16_Path : ACode := (.seq (.ops [o_ 2 (.mov (.c (.bool false)))]) (.seq (.ops [o_ 3 (.mov (i_ 0))]) (.seq (.seq (.ops [o_ 4 (.mov (i_ 0))]) (.block 0 (.loop A_lexiconref16_Path_5))) (.seq (.ops [o_ 2 (.mov (.c (.bool true)))]) .ret))))
def R_lexiconref16_Path : List ARes := [.tmp 2]
theorem C_lexiconref16_Path : compF Tryz.prog Tryz.f62 = some (A_lexiconref16_Path, R_lexiconref16_Path) := by kernel_rfl
theorem K_lexiconref16_Path {md : Bool} {args : List AV} {h : Hp} {Q : Res → Hp → Prop} (hl : LCode Tryz.prog md A_lexiconref16_Path (EndQ R_lexiconref16_Path Q) (env0 29 args) h) (hn : args.length ≤ 29 := by (simp; done)) : CallL Tryz.prog F_lexiconref16_Path args h Q :=
  CallL.of (md := md) Tryz.func62 C_lexiconref16_Path (by rw [Tryz.ntmps62]; exact hn) (by rw [Tryz.ntmps62]; exact hl)

-- lexicon/lexiconref16.Covers1
abbrev F_lexiconref16_Covers1 : Nat := 35
def A_lexiconref16_Covers1_0 : List AOper := [mv 5 0, mv 6 1, o_ 7 (.bins .eql (.t 5) (.t 6)), mv 8 7, ⟨some 9, .mov (.t 1), some (8, false)⟩, ⟨some 10, .lens (.t 9), some (8, false)⟩, ⟨some 11, .mov (.t 0), some (8, false)⟩, ⟨some 12, .lens (.t 11), some (8, false)⟩, ⟨some 13, .bini .gtr (.t 10) (.t 12), some (8, false)⟩, ⟨some 14, .mov (.t 13), some (8, false)⟩, g_ 15 (.mov (.t 1)) 14, g_ 16 (.mov (.t 0)) 14, g_ 17 (.lens (.t 16)) 14, g_ 18 (.slcs (.t 15) none (some (.t 17))) 14, g_ 19 (.mov (.t 0)) 14, g_ 20 (.bins .eql (.t 18) (.t 19)) 14, ⟨some 21, .pick (.t 14) (.t 20) (.c (.bool false)), some (8, false)⟩, ⟨some 22, .mov (.t 21), some (8, false)⟩, g_ 23 (.mov (.t 1)) 22, g_ 24 (.mov (.t 0)) 22, g_ 25 (.lens (.t 24)) 22, g_ 26 (.idxs (.t 23) (.t 25)) 22, g_ 27 (.bini .eql (.t 26) (.c (.int .u8 (46)))) 22, ⟨some 28, .pick (.t 22) (.t 27) (.c (.bool false)), some (8, false)⟩, o_ 29 (.pick (.t 8) (.c (.bool true)) (.t 28)), mv 4 29]
def A_lexiconref16_Covers1 : ACode := (.seq (.ops [o_ 4 (.mov (.c (.bool false)))]) (.seq (.ops A_lexiconref16_Covers1_0) .ret))
def R_lexiconref16_Covers1 : List ARes := [.tmp 4]
theorem C_lexiconref16_Covers1 : compF Tryz.prog Tryz.f35 = some (A_lexiconref16_Covers1, R_lexiconref16_Covers1) := by kernel_rfl
theorem K_lexiconref16_Covers1 {md : Bool} {args : List AV} {h : Hp} {Q : Res → Hp → Prop} (hl : LCode Tryz.prog md A_lexiconref16_Covers1 (EndQ R_lexiconref16_Covers1 Q) (env0 30 args) h) (hn : args.length ≤ 30 := by (simp; done)) : CallL Tryz.prog F_lexiconref16_Covers1 args h Q :=
  CallL.of (md := md) Tryz.func35 C_lexiconref16_Covers1 (by rw [Tryz.ntmps35]; exact hn) (by rw [Tryz.ntmps35]; exact hl)

-- lexicon/lexiconref16.Covers
abbrev F_lexiconref16_Covers : Nat := 18
def A_lexiconref16_Covers_0 : List AOper := [mv 6 5, mv 7 0, o_ 8 (.lenl (.t 7)), o_ 9 (.bini .lss (.t 6) (.t 8))]
def A_lexiconref16_Covers_1 : List AOper := [mv 12 0, mv 13 5, o_ 14 (.iaddr 9 1 (.t 12) (.t 13)), o_ 15 (.ld1 (.t 14)), mv 16 1, o_ 17 (.call 35 [(.t 15), (.t 16)])]
def A_lexiconref16_Covers_2 : List AOper := [mv 10 5, o_ 11 (.bini .add (.t 10) (i_ 1)), mv 5 11]
def A_lexiconref16_Covers_3 : ACode := (.seq (.seq (.ops A_lexiconref16_Covers_0) (.cond (.t 9) .skip (.exit 0))) (.seq (.block 1 (.seq (.ops A_lexiconref16_Covers_1) (.cond (.t 17) (.seq (.ops [o_ 4 (.mov (.c (.bool true)))]) .ret) .skip))) (.ops A_lexiconref16_Covers_2)))
def A_lexiconref16_Covers : ACode := (.seq (.ops [o_ 4 (.mov (.c (.bool false)))]) (.seq (.seq (.ops [o_ 5 (.mov (i_ 0))]) (.block 0 (.loop A_lexiconref16_Covers_3))) (.seq (.ops [o_ 4 (.mov (.c (.bool false)))]) .ret)))
def R_lexiconref16_Covers : List ARes := [.tmp 4]
theorem C_lexiconref16_Covers : compF Tryz.prog Tryz.f18 = some (A_lexiconref16_Covers, R_lexiconref16_Covers) := by kernel_rfl
theorem K_lexiconref16_Covers {md : Bool} {args : List AV} {h : Hp} {Q : Res → Hp → Prop} (hl : LCode Tryz.prog md A_lexiconref16_Covers (EndQ R_lexiconref16_Covers Q) (env0 18 args) h) (hn : args.length ≤ 18 := by (simp; done)) : CallL Tryz.prog F_lexiconref16_Covers args h Q :=
  CallL.of (md := md) Tryz.func18 C_lexiconref16_Covers (by rw [Tryz.ntmps18]; exact hn) (by rw [Tryz.ntmps18]; exact hl)

-- lexicon/lexiconref16.Parse
abbrev F_lexiconref16_Parse : Nat := 22
def A_lexiconref16_Parse_0 : List AOper := [o_ 2 (.mov (.c (.nils))), o_ 3 (.mov (i_ 0))]
def A_lexiconref16_Parse_1 : List AOper := [mv 7 0, o_ 8 (.bins .eql (.t 7) (.c (.str [])))]
def A_lexiconref16_Parse_2 : List AOper := [o_ 2 (.mov (.c (.nils))), o_ 3 (.mov (i_ 0))]
def A_lexiconref16_Parse_3 : List AOper := [mv 9 6, mv 10 0, o_ 11 (.lens (.t 10)), o_ 12 (.bini .leq (.t 9) (.t 11))]
def A_lexiconref16_Parse_4 : List AOper := [mv 15 6, mv 16 0, o_ 17 (.lens (.t 16)), o_ 18 (.bini .lss (.t 15) (.t 17)), mv 19 18, g_ 20 (.mov (.t 0)) 19, g_ 21 (.mov (.t 6)) 19, g_ 22 (.idxs (.t 20) (.t 21)) 19, g_ 23 (.bini .neq (.t 22) (.c (.int .u8 (44)))) 19, o_ 24 (.pick (.t 19) (.t 23) (.c (.bool false)))]
def A_lexiconref16_Parse_5 : List AOper := [mv 25 0, mv 26 5, mv 27 6, o_ 28 (.slcs (.t 25) (some (.t 26)) (some (.t 27))), o_ 29 (.call 62 [(.t 28)]), o_ 30 (.not (.t 29))]
def A_lexiconref16_Parse_6 : List AOper := [o_ 2 (.mov (.c (.nils))), o_ 3 (.mov (i_ 160))]
def A_lexiconref16_Parse_7 : List AOper := [mv 31 4, mv 32 0, mv 33 5, mv 34 6, o_ 35 (.slcs (.t 32) (some (.t 33)) (some (.t 34))), o_ 36 (.bslice 9 1 1 [.str []] [(0, 1, (.t 35))]), o_ 37 (.app 9 1 16 (.t 31) (.t 36)), mv 4 37]
def A_lexiconref16_Parse_8 : List AOper := [mv 38 6, o_ 39 (.bini .add (.t 38) (i_ 1)), mv 5 39]
def A_lexiconref16_Parse_9 : List AOper := [mv 13 6, o_ 14 (.bini .add (.t 13) (i_ 1)), mv 6 14]
def A_lexiconref16_Parse_10 : ACode := (.seq (.seq (.ops A_lexiconref16_Parse_3) (.cond (.t 12) .skip (.exit 0))) (.seq (.block 1 (.seq (.seq (.ops A_lexiconref16_Parse_4) (.cond (.t 24) (.exit 1) .skip)) (.seq (.seq (.ops A_lexiconref16_Parse_5) (.cond (.t 30) (.seq (.ops A_lexiconref16_Parse_6) .ret) .skip)) (.seq (.ops A_lexiconref16_Parse_7) (.ops A_lexiconref16_Parse_8))))) (.ops A_lexiconref16_Parse_9)))
def A_lexiconref16_Parse_11 : List AOper := [mv 40 4, mv 2 40, o_ 3 (.mov (i_ 0))]
def A_lexiconref16_Parse : ACode := (.seq (.ops A_lexiconref16_Parse_0) (.seq (.seq (.ops A_lexiconref16_Parse_1) (.cond (.t 8) (.seq (.ops A_lexiconref16_Parse_2) .ret) .skip)) (.seq (.ops [o_ 4 (.mov (.c (.nils)))]) (.seq (.ops [o_ 5 (.mov (i_ 0))]) (.seq (.seq (.ops [o_ 6 (.mov (i_ 0))]) (.block 0 (.loop A_lexiconref16_Parse_10))) (.seq (.ops A_lexiconref16_Parse_11) .ret))))))
def R_lexiconref16_Parse : List ARes := [.tmp 2, .tmp 3]
theorem C_lexiconref16_Parse : compF Tryz.prog Tryz.f22 = some (A_lexiconref16_Parse, R_lexiconref16_Parse) := by kernel_rfl
theorem K_lexiconref16_Parse {md : Bool} {args : List AV} {h : Hp} {Q : Res → Hp → Prop} (hl : LCode Tryz.prog md A_lexiconref16_Parse (EndQ R_lexiconref16_Parse Q) (env0 41 args) h) (hn : args.length ≤ 41 := by (simp; done)) : CallL Tryz.prog F_lexiconref16_Parse args h Q :=
  CallL.of (md := md) Tryz.func22 C_lexiconref16_Parse (by rw [Tryz.ntmps22]; exact hn) (by rw [Tryz.ntmps22]; exact hl)

-- lexicon/lexiconref16.Print
abbrev F_lexiconref16_Print : Nat := 24
def A_lexiconref16_Print_0 : List AOper := [o_ 2 (.mov (.c (.str []))), o_ 3 (.mov (i_ 0))]
def A_lexiconref16_Print_1 : List AOper := [mv 6 5, mv 7 0, o_ 8 (.lenl (.t 7)), o_ 9 (.bini .lss (.t 6) (.t 8))]
def A_lexiconref16_Print_2 : List AOper := [mv 12 0, mv 13 5, o_ 14 (.iaddr 9 1 (.t 12) (.t 13)), o_ 15 (.ld1 (.t 14)), o_ 16 (.call 62 [(.t 15)]), o_ 17 (.not (.t 16))]
def A_lexiconref16_Print_3 : List AOper := [o_ 2 (.mov (.c (.str []))), o_ 3 (.mov (i_ 160))]
def A_lexiconref16_Print_4 : List AOper := [mv 18 5, o_ 19 (.bini .gtr (.t 18) (i_ 0))]
def A_lexiconref16_Print_5 : List AOper := [mv 20 4, o_ 21 (.bins .add (.t 20) (.c (.str [44]))), mv 4 21]
def A_lexiconref16_Print_6 : List AOper := [mv 22 4, mv 23 0, mv 24 5, o_ 25 (.iaddr 9 1 (.t 23) (.t 24)), o_ 26 (.ld1 (.t 25)), o_ 27 (.bins .add (.t 22) (.t 26)), mv 4 27]
def A_lexiconref16_Print_7 : List AOper := [mv 10 5, o_ 11 (.bini .add (.t 10) (i_ 1)), mv 5 11]
def A_lexiconref16_Print_8 : ACode := (.seq (.seq (.ops A_lexiconref16_Print_1) (.cond (.t 9) .skip (.exit 0))) (.seq (.block 1 (.seq (.seq (.ops A_lexiconref16_Print_2) (.cond (.t 17) (.seq (.ops A_lexiconref16_Print_3) .ret) .skip)) (.seq (.seq (.ops A_lexiconref16_Print_4) (.cond (.t 19) (.ops A_lexiconref16_Print_5) .skip)) (.ops A_lexiconref16_Print_6)))) (.ops A_lexiconref16_Print_7)))
def A_lexiconref16_Print_9 : List AOper := [mv 28 4, mv 2 28, o_ 3 (.mov (i_ 0))]
def A_lexiconref16_Print : ACode := (.seq (.ops A_lexiconref16_Print_0) (.seq (.ops [o_ 4 (.mov (.c (.str [])))]) (.seq (.seq (.ops [o_ 5 (.mov (i_ 0))]) (.block 0 (.loop A_lexiconref16_Print_8))) (.seq (.ops A_lexiconref16_Print_9) .ret))))
def R_lexiconref16_Print : List ARes := [.tmp 2, .tmp 3]
theorem C_lexiconref16_Print : compF Tryz.prog Tryz.f24 = some (A_lexiconref16_Print, R_lexiconref16_Print) := by kernel_rfl
theorem K_lexiconref16_Print {md : Bool} {args : List AV} {h : Hp} {Q : Res → Hp → Prop} (hl : LCode Tryz.prog md A_lexiconref16_Print (EndQ R_lexiconref16_Print Q) (env0 29 args) h) (hn : args.length ≤ 29 := by (simp; done)) : CallL Tryz.prog F_lexiconref16_Print args h Q :=
  CallL.of (md := md) Tryz.func24 C_lexiconref16_Print (by rw [Tryz.ntmps24]; exact hn) (by rw [Tryz.ntmps24]; exact hl)

-- lexicon/lexiconref16.Normal
abbrev F_lexiconref16_Normal : Nat := 15
def A_lexiconref16_Normal_0 : List AOper := [mv 9 4, mv 10 0, o_ 11 (.lenl (.t 10)), o_ 12 (.bini .lss (.t 9) (.t 11))]
def A_lexiconref16_Normal_1 : List AOper := [mv 15 6, mv 16 0, o_ 17 (.lenl (.t 16)), o_ 18 (.bini .lss (.t 15) (.t 17))]
def A_lexiconref16_Normal_2 : List AOper := [mv 21 0, mv 22 6, o_ 23 (.iaddr 9 1 (.t 21) (.t 22)), o_ 24 (.ld1 (.t 23)), mv 25 0, mv 26 4, o_ 27 (.iaddr 9 1 (.t 25) (.t 26)), o_ 28 (.ld1 (.t 27)), o_ 29 (.bins .neq (.t 24) (.t 28)), mv 30 29, g_ 31 (.mov (.t 0)) 30, g_ 32 (.mov (.t 6)) 30, g_ 33 (.iaddr 9 1 (.t 31) (.t 32)) 30, g_ 34 (.ld1 (.t 33)) 30, g_ 35 (.mov (.t 0)) 30, g_ 36 (.mov (.t 4)) 30, g_ 37 (.iaddr 9 1 (.t 35) (.t 36)) 30, g_ 38 (.ld1 (.t 37)) 30, g_ 39 (.call 35 [(.t 34), (.t 38)]) 30, o_ 40 (.pick (.t 30) (.t 39) (.c (.bool false))), mv 41 40, ⟨some 42, .mov (.t 6), some (41, false)⟩, ⟨some 43, .mov (.t 4), some (41, false)⟩, ⟨some 44, .bini .lss (.t 42) (.t 43), some (41, false)⟩, ⟨some 45, .mov (.t 44), some (41, false)⟩, g_ 46 (.mov (.t 0)) 45, g_ 47 (.mov (.t 6)) 45, g_ 48 (.iaddr 9 1 (.t 46) (.t 47)) 45, g_ 49 (.ld1 (.t 48)) 45, g_ 50 (.mov (.t 0)) 45, g_ 51 (.mov (.t 4)) 45, g_ 52 (.iaddr 9 1 (.t 50) (.t 51)) 45, g_ 53 (.ld1 (.t 52)) 45, g_ 54 (.bins .eql (.t 49) (.t 53)) 45, ⟨some 55, .pick (.t 45) (.t 54) (.c (.bool false)), some (41, false)⟩, o_ 56 (.pick (.t 41) (.c (.bool true)) (.t 55))]
def A_lexiconref16_Normal_3 : List AOper := [mv 19 6, o_ 20 (.bini .add (.t 19) (i_ 1)), mv 6 20]
def A_lexiconref16_Normal_4 : ACode := (.seq (.seq (.ops A_lexiconref16_Normal_1) (.cond (.t 18) .skip (.exit 2))) (.seq (.block 3 (.seq (.alts [21, 22, 23, 24, 25, 26, 27, 28, 29, 30, 31, 32, 33, 34, 35, 36, 37, 38, 39, 40, 41, 42, 43, 44, 45, 46, 47, 48, 49, 50, 51, 52, 53, 54, 55, 56] [A_lexiconref16_Normal_2]) (.cond (.t 56) (.ops [o_ 5 (.mov (.c (.bool false)))]) .skip))) (.ops A_lexiconref16_Normal_3)))
def A_lexiconref16_Normal_5 : List AOper := [mv 57 5, o_ 58 (.not (.t 57))]
def A_lexiconref16_Normal_6 : List AOper := [mv 59 3, mv 60 0, mv 61 4, o_ 62 (.iaddr 9 1 (.t 60) (.t 61)), o_ 63 (.ld1 (.t 62)), o_ 64 (.bslice 9 1 1 [.str []] [(0, 1, (.t 63))]), o_ 65 (.app 9 1 16 (.t 59) (.t 64)), mv 3 65]
def A_lexiconref16_Normal_7 : List AOper := [mv 66 3, o_ 67 (.lenl (.t 66)), o_ 68 (.bini .sub (.t 67) (i_ 1)), mv 7 68]
def A_lexiconref16_Normal_8 : List AOper := [mv 69 7, o_ 70 (.bini .gtr (.t 69) (i_ 0)), mv 71 70, g_ 72 (.mov (.t 3)) 71, g_ 73 (.mov (.t 7)) 71, g_ 74 (.iaddr 9 1 (.t 72) (.t 73)) 71, g_ 75 (.ld1 (.t 74)) 71, g_ 76 (.mov (.t 3)) 71, g_ 77 (.mov (.t 7)) 71, g_ 78 (.bini .sub (.t 77) (i_ 1)) 71, g_ 79 (.iaddr 9 1 (.t 76) (.t 78)) 71, g_ 80 (.ld1 (.t 79)) 71, g_ 81 (.bins .lss (.t 75) (.t 80)) 71, o_ 82 (.pick (.t 71) (.t 81) (.c (.bool false)))]
def A_lexiconref16_Normal_9 : List AOper := [mv 85 3, mv 86 7, o_ 87 (.iaddr 9 1 (.t 85) (.t 86)), o_ 88 (.ld1 (.t 87)), mv 8 88]
def A_lexiconref16_Normal_10 : List AOper := [mv 89 3, mv 90 7, mv 91 3, mv 92 7, o_ 93 (.bini .sub (.t 92) (i_ 1)), o_ 94 (.iaddr 9 1 (.t 91) (.t 93)), o_ 95 (.ld1 (.t 94)), o_ 96 (.iaddr 9 1 (.t 89) (.t 90)), n_ (.st 1 (.t 96) (.t 95))]
def A_lexiconref16_Normal_11 : List AOper := [mv 97 3, mv 98 7, o_ 99 (.bini .sub (.t 98) (i_ 1)), mv 100 8, o_ 101 (.iaddr 9 1 (.t 97) (.t 99)), n_ (.st 1 (.t 101) (.t 100))]
def A_lexiconref16_Normal_12 : List AOper := [mv 83 7, o_ 84 (.bini .sub (.t 83) (i_ 1)), mv 7 84]
def A_lexiconref16_Normal_13 : ACode := (.seq (.seq (.alts [69, 70, 71, 72, 73, 74, 75, 76, 77, 78, 79, 80, 81, 82] [A_lexiconref16_Normal_8]) (.cond (.t 82) .skip (.exit 4))) (.seq (.block 5 (.seq (.ops A_lexiconref16_Normal_9) (.seq (.ops A_lexiconref16_Normal_10) (.ops A_lexiconref16_Normal_11)))) (.ops A_lexiconref16_Normal_12)))
def A_lexiconref16_Normal_14 : List AOper := [mv 13 4, o_ 14 (.bini .add (.t 13) (i_ 1)), mv 4 14]
def A_lexiconref16_Normal_15 : ACode := (.seq (.seq (.ops A_lexiconref16_Normal_0) (.cond (.t 12) .skip (.exit 0))) (.seq (.block 1 (.seq (.ops [o_ 5 (.mov (.c (.bool true)))]) (.seq (.seq (.ops [o_ 6 (.mov (i_ 0))]) (.block 2 (.loop A_lexiconref16_Normal_4))) (.seq (.seq (.ops A_lexiconref16_Normal_5) (.cond (.t 58) (.exit 1) .skip)) (.seq (.ops A_lexiconref16_Normal_6) (.seq (.ops A_lexiconref16_Normal_7) (.block 4 (.loop A_lexiconref16_Normal_13)))))))) (.ops A_lexiconref16_Normal_14)))
def A_lexiconref16_Normal_16 : List AOper := [mv 102 3, mv 2 102]
def A_lexiconref16_Normal : ACode := (.seq (.ops [o_ 2 (.mov (.c (.nils)))]) (.seq (.ops [o_ 3 (.mov (.c (.nils)))]) (.seq (.seq (.ops [o_ 4 (.mov (i_ 0))]) (.block 0 (.loop A_lexiconref16_Normal_15))) (.seq (.ops A_lexiconref16_Normal_16) .ret))))
def R_lexiconref16_Normal : List ARes := [.tmp 2]
theorem C_lexiconref16_Normal : compF Tryz.prog Tryz.f15 = some (A_lexiconref16_Normal, R_lexiconref16_Normal) := by kernel_rfl
theorem K_lexiconref16_Normal {md : Bool} {args : List AV} {h : Hp} {Q : Res → Hp → Prop} (hl : LCode Tryz.prog md A_lexiconref16_Normal (EndQ R_lexiconref16_Normal Q) (env0 103 args) h) (hn : args.length ≤ 103 := by (simp; done)) : CallL Tryz.prog F_lexiconref16_Normal args h Q :=
  CallL.of (md := md) Tryz.func15 C_lexiconref16_Normal (by rw [Tryz.ntmps15]; exact hn) (by rw [Tryz.ntmps15]; exact hl)

-- lexicon/lexiconref16.Union
abbrev F_lexiconref16_Union : Nat := 16
def A_lexiconref16_Union_0 : List AOper := [mv 6 5, mv 7 0, o_ 8 (.app 9 1 16 (.t 6) (.t 7)), mv 5 8]
def A_lexiconref16_Union_1 : List AOper := [mv 9 5, mv 10 1, o_ 11 (.app 9 1 16 (.t 9) (.t 10)), o_ 12 (.call 15 [(.t 11)]), mv 4 12]
def A_lexiconref16_Union : ACode := (.seq (.ops [o_ 4 (.mov (.c (.nils)))]) (.seq (.ops [o_ 5 (.mov (.c (.nils)))]) (.seq (.ops A_lexiconref16_Union_0) (.seq (.ops A_lexiconref16_Union_1) .ret))))
def R_lexiconref16_Union : List ARes := [.tmp 4]
theorem C_lexiconref16_Union : compF Tryz.prog Tryz.f16 = some (A_lexiconref16_Union, R_lexiconref16_Union) := by kernel_rfl
theorem K_lexiconref16_Union {md : Bool} {args : List AV} {h : Hp} {Q : Res → Hp → Prop} (hl : LCode Tryz.prog md A_lexiconref16_Union (EndQ R_lexiconref16_Union Q) (env0 13 args) h) (hn : args.length ≤ 13 := by (simp; done)) : CallL Tryz.prog F_lexiconref16_Union args h Q :=
  CallL.of (md := md) Tryz.func16 C_lexiconref16_Union (by rw [Tryz.ntmps16]; exact hn) (by rw [Tryz.ntmps16]; exact hl)

-- lexicon/lexiconref16.Meet
abbrev F_lexiconref16_Meet : Nat := 17
def A_lexiconref16_Meet_0 : List AOper := [mv 8 6, mv 9 0, o_ 10 (.lenl (.t 9)), o_ 11 (.bini .lss (.t 8) (.t 10))]
def A_lexiconref16_Meet_1 : List AOper := [mv 14 1, mv 15 0, mv 16 6, o_ 17 (.iaddr 9 1 (.t 15) (.t 16)), o_ 18 (.ld1 (.t 17)), o_ 19 (.call 18 [(.t 14), (.t 18)])]
def A_lexiconref16_Meet_2 : List AOper := [mv 20 5, mv 21 0, mv 22 6, o_ 23 (.iaddr 9 1 (.t 21) (.t 22)), o_ 24 (.ld1 (.t 23)), o_ 25 (.bslice 9 1 1 [.str []] [(0, 1, (.t 24))]), o_ 26 (.app 9 1 16 (.t 20) (.t 25)), mv 5 26]
def A_lexiconref16_Meet_3 : List AOper := [mv 12 6, o_ 13 (.bini .add (.t 12) (i_ 1)), mv 6 13]
def A_lexiconref16_Meet_4 : ACode := (.seq (.seq (.ops A_lexiconref16_Meet_0) (.cond (.t 11) .skip (.exit 0))) (.seq (.block 1 (.seq (.ops A_lexiconref16_Meet_1) (.cond (.t 19) (.ops A_lexiconref16_Meet_2) .skip))) (.ops A_lexiconref16_Meet_3)))
def A_lexiconref16_Meet_5 : List AOper := [mv 27 7, mv 28 1, o_ 29 (.lenl (.t 28)), o_ 30 (.bini .lss (.t 27) (.t 29))]
def A_lexiconref16_Meet_6 : List AOper := [mv 33 0, mv 34 1, mv 35 7, o_ 36 (.iaddr 9 1 (.t 34) (.t 35)), o_ 37 (.ld1 (.t 36)), o_ 38 (.call 18 [(.t 33), (.t 37)])]
def A_lexiconref16_Meet_7 : List AOper := [mv 39 5, mv 40 1, mv 41 7, o_ 42 (.iaddr 9 1 (.t 40) (.t 41)), o_ 43 (.ld1 (.t 42)), o_ 44 (.bslice 9 1 1 [.str []] [(0, 1, (.t 43))]), o_ 45 (.app 9 1 16 (.t 39) (.t 44)), mv 5 45]
def A_lexiconref16_Meet_8 : List AOper := [mv 31 7, o_ 32 (.bini .add (.t 31) (i_ 1)), mv 7 32]
def A_lexiconref16_Meet_9 : ACode := (.seq (.seq (.ops A_lexiconref16_Meet_5) (.cond (.t 30) .skip (.exit 2))) (.seq (.block 3 (.seq (.ops A_lexiconref16_Meet_6) (.cond (.t 38) (.ops A_lexiconref16_Meet_7) .skip))) (.ops A_lexiconref16_Meet_8)))
def A_lexiconref16_Meet_10 : List AOper := [mv 46 5, o_ 47 (.call 15 [(.t 46)]), mv 4 47]
def A_lexiconref16_Meet : ACode := (.seq (.ops [o_ 4 (.mov (.c (.nils)))]) (.seq (.ops [o_ 5 (.mov (.c (.nils)))]) (.seq (.seq (.ops [o_ 6 (.mov (i_ 0))]) (.block 0 (.loop A_lexiconref16_Meet_4))) (.seq (.seq (.ops [o_ 7 (.mov (i_ 0))]) (.block 2 (.loop A_lexiconref16_Meet_9))) (.seq (.ops A_lexiconref16_Meet_10) .ret)))))
def R_lexiconref16_Meet : List ARes := [.tmp 4]
theorem C_lexiconref16_Meet : compF Tryz.prog Tryz.f17 = some (A_lexiconref16_Meet, R_lexiconref16_Meet) := by kernel_rfl
theorem K_lexiconref16_Meet {md : Bool} {args : List AV} {h : Hp} {Q : Res → Hp → Prop} (hl : LCode Tryz.prog md A_lexiconref16_Meet (EndQ R_lexiconref16_Meet Q) (env0 48 args) h) (hn : args.length ≤ 48 := by (simp; done)) : CallL Tryz.prog F_lexiconref16_Meet args h Q :=
  CallL.of (md := md) Tryz.func17 C_lexiconref16_Meet (by rw [Tryz.ntmps17]; exact hn) (by rw [Tryz.ntmps17]; exact hl)

-- lexicon/lexiconref00.SameTexts
abbrev F_lexiconref00_SameTexts : Nat := 14
def A_lexiconref00_SameTexts_0 : List AOper := [mv 6 0, o_ 7 (.lenl (.t 6)), mv 8 1, o_ 9 (.lenl (.t 8)), o_ 10 (.bini .neq (.t 7) (.t 9))]
def A_lexiconref00_SameTexts_1 : List AOper := [mv 11 5, mv 12 0, o_ 13 (.lenl (.t 12)), o_ 14 (.bini .lss (.t 11) (.t 13))]
def A_lexiconref00_SameTexts_2 : List AOper := [mv 17 0, mv 18 5, o_ 19 (.iaddr 9 1 (.t 17) (.t 18)), o_ 20 (.ld1 (.t 19)), mv 21 1, mv 22 5, o_ 23 (.iaddr 9 1 (.t 21) (.t 22)), o_ 24 (.ld1 (.t 23)), o_ 25 (.bins .neq (.t 20) (.t 24))]
def A_lexiconref00_SameTexts_3 : List AOper := [mv 15 5, o_ 16 (.bini .add (.t 15) (i_ 1)), mv 5 16]
def A_lexiconref00_SameTexts_4 : ACode := (.seq (.seq (.ops A_lexiconref00_SameTexts_1) (.cond (.t 14) .skip (.exit 0))) (.seq (.block 1 (.seq (.alts [17, 18, 19, 20, 21, 22, 23, 24, 25] [A_lexiconref00_SameTexts_2]) (.cond (.t 25) (.seq (.ops [o_ 4 (.mov (.c (.bool false)))]) .ret) .skip))) (.ops A_lexiconref00_SameTexts_3)))
def A_lexiconref00_SameTexts : ACode := (.seq (.ops [o_ 4 (.mov (.c (.bool false)))]) (.seq (.seq (.ops A_lexiconref00_SameTexts_0) (.cond (.t 10) (.seq (.ops [o_ 4 (.mov (.c (.bool false)))]) .ret) .skip)) (.seq (.seq (.ops [o_ 5 (.mov (i_ 0))]) (.block 0 (.loop A_lexiconref00_SameTexts_4))) (.seq (.ops [o_ 4 (.mov (.c (.bool true)))]) .ret))))
def R_lexiconref00_SameTexts : List ARes := [.tmp 4]
theorem C_lexiconref00_SameTexts : compF Tryz.prog Tryz.f14 = some (A_lexiconref00_SameTexts, R_lexiconref00_SameTexts) := by kernel_rfl
theorem K_lexiconref00_SameTexts {md : Bool} {args : List AV} {h : Hp} {Q : Res → Hp → Prop} (hl : LCode Tryz.prog md A_lexiconref00_SameTexts (EndQ R_lexiconref00_SameTexts Q) (env0 26 args) h) (hn : args.length ≤ 26 := by (simp; done)) : CallL Tryz.prog F_lexiconref00_SameTexts args h Q :=
  CallL.of (md := md) Tryz.func14 C_lexiconref00_SameTexts (by rw [Tryz.ntmps14]; exact hn) (by rw [Tryz.ntmps14]; exact hl)

-- lexicon/lexiconref00.LentTexts
abbrev F_lexiconref00_LentTexts : Nat := 7
def A_lexiconref00_LentTexts_0 : List AOper := [mv 5 0, o_ 6 (.lenl (.t 5)), o_ 7 (.bini .add (.t 6) (i_ 2)), o_ 8 (.mkslice 9 1 16 [.str []] (i_ 0) (.t 7)), mv 3 8]
def A_lexiconref00_LentTexts_1 : List AOper := [mv 9 3, mv 10 0, o_ 11 (.app 9 1 16 (.t 9) (.t 10)), mv 3 11]
def A_lexiconref00_LentTexts_2 : List AOper := [mv 12 3, o_ 13 (.bslice 9 1 2 [.str []] [(0, 1, (.c (.str [116, 104, 101, 32, 111, 119, 110, 101, 114, 39, 115]))), (1, 1, (.c (.str [116, 104, 101, 32, 111, 119, 110, 101, 114, 39, 115])))]), o_ 14 (.app 9 1 16 (.t 12) (.t 13)), mv 4 14]
def A_lexiconref00_LentTexts_3 : List AOper := [mv 15 4, mv 16 0, o_ 17 (.lenl (.t 16)), o_ 18 (.slcl 9 1 (.t 15) none (some (.t 17)) none), mv 2 18]
def A_lexiconref00_LentTexts : ACode := (.seq (.ops [o_ 2 (.mov (.c (.nils)))]) (.seq (.ops A_lexiconref00_LentTexts_0) (.seq (.ops A_lexiconref00_LentTexts_1) (.seq (.ops A_lexiconref00_LentTexts_2) (.seq (.ops A_lexiconref00_LentTexts_3) .ret)))))
def R_lexiconref00_LentTexts : List ARes := [.tmp 2]
theorem C_lexiconref00_LentTexts : compF Tryz.prog Tryz.f7 = some (A_lexiconref00_LentTexts, R_lexiconref00_LentTexts) := by kernel_rfl
theorem K_lexiconref00_LentTexts {md : Bool} {args : List AV} {h : Hp} {Q : Res → Hp → Prop} (hl : LCode Tryz.prog md A_lexiconref00_LentTexts (EndQ R_lexiconref00_LentTexts Q) (env0 19 args) h) (hn : args.length ≤ 19 := by (simp; done)) : CallL Tryz.prog F_lexiconref00_LentTexts args h Q :=
  CallL.of (md := md) Tryz.func7 C_lexiconref00_LentTexts (by rw [Tryz.ntmps7]; exact hn) (by rw [Tryz.ntmps7]; exact hl)

-- lexicon/lexiconref00.WholeTexts
abbrev F_lexiconref00_WholeTexts : Nat := 12
def A_lexiconref00_WholeTexts_0 : List AOper := [mv 6 0, o_ 7 (.capk (.t 6)), mv 8 0, o_ 9 (.lenl (.t 8)), o_ 10 (.bini .add (.t 9) (i_ 2)), o_ 11 (.bini .lss (.t 7) (.t 10))]
def A_lexiconref00_WholeTexts_1 : List AOper := [mv 12 0, mv 13 0, o_ 14 (.lenl (.t 13)), o_ 15 (.bini .add (.t 14) (i_ 2)), o_ 16 (.slcl 9 1 (.t 12) none (some (.t 15)) none), mv 5 16]
def A_lexiconref00_WholeTexts_2 : List AOper := [mv 17 5, mv 18 0, o_ 19 (.lenl (.t 18)), o_ 20 (.iaddr 9 1 (.t 17) (.t 19)), o_ 21 (.ld1 (.t 20)), o_ 22 (.bins .eql (.t 21) (.c (.str [116, 104, 101, 32, 111, 119, 110, 101, 114, 39, 115]))), mv 23 22, g_ 24 (.mov (.t 5)) 23, g_ 25 (.mov (.t 0)) 23, g_ 26 (.lenl (.t 25)) 23, g_ 27 (.bini .add (.t 26) (i_ 1)) 23, g_ 28 (.iaddr 9 1 (.t 24) (.t 27)) 23, g_ 29 (.ld1 (.t 28)) 23, g_ 30 (.bins .eql (.t 29) (.c (.str [116, 104, 101, 32, 111, 119, 110, 101, 114, 39, 115]))) 23, o_ 31 (.pick (.t 23) (.t 30) (.c (.bool false))), mv 32 31, g_ 33 (.mov (.t 0)) 32, g_ 34 (.mov (.t 1)) 32, g_ 35 (.call 14 [(.t 33), (.t 34)]) 32, o_ 36 (.pick (.t 32) (.t 35) (.c (.bool false))), mv 4 36]
def A_lexiconref00_WholeTexts : ACode := (.seq (.ops [o_ 4 (.mov (.c (.bool false)))]) (.seq (.seq (.ops A_lexiconref00_WholeTexts_0) (.cond (.t 11) (.seq (.ops [o_ 4 (.mov (.c (.bool false)))]) .ret) .skip)) (.seq (.ops A_lexiconref00_WholeTexts_1) (.seq (.ops A_lexiconref00_WholeTexts_2) .ret))))
def R_lexiconref00_WholeTexts : List ARes := [.tmp 4]
theorem C_lexiconref00_WholeTexts : compF Tryz.prog Tryz.f12 = some (A_lexiconref00_WholeTexts, R_lexiconref00_WholeTexts) := by kernel_rfl
theorem K_lexiconref00_WholeTexts {md : Bool} {args : List AV} {h : Hp} {Q : Res → Hp → Prop} (hl : LCode Tryz.prog md A_lexiconref00_WholeTexts (EndQ R_lexiconref00_WholeTexts Q) (env0 37 args) h) (hn : args.length ≤ 37 := by (simp; done)) : CallL Tryz.prog F_lexiconref00_WholeTexts args h Q :=
  CallL.of (md := md) Tryz.func12 C_lexiconref00_WholeTexts (by rw [Tryz.ntmps12]; exact hn) (by rw [Tryz.ntmps12]; exact hl)

-- lexicon/lexiconref00.SpoilTexts
abbrev F_lexiconref00_SpoilTexts : Nat := 13
def A_lexiconref00_SpoilTexts_0 : List AOper := [mv 4 0, mv 5 0, o_ 6 (.capk (.t 5)), o_ 7 (.slcl 9 1 (.t 4) none (some (.t 6)) none), mv 2 7]
def A_lexiconref00_SpoilTexts_1 : List AOper := [mv 8 3, mv 9 2, o_ 10 (.lenl (.t 9)), o_ 11 (.bini .lss (.t 8) (.t 10))]
def A_lexiconref00_SpoilTexts_2 : List AOper := [mv 14 2, mv 15 3, o_ 16 (.iaddr 9 1 (.t 14) (.t 15)), n_ (.st 1 (.t 16) (.c (.str [115, 112, 111, 105, 108, 116])))]
def A_lexiconref00_SpoilTexts_3 : List AOper := [mv 12 3, o_ 13 (.bini .add (.t 12) (i_ 1)), mv 3 13]
def A_lexiconref00_SpoilTexts_4 : ACode := (.seq (.seq (.ops A_lexiconref00_SpoilTexts_1) (.cond (.t 11) .skip (.exit 0))) (.seq (.block 1 (.ops A_lexiconref00_SpoilTexts_2)) (.ops A_lexiconref00_SpoilTexts_3)))
def A_lexiconref00_SpoilTexts : ACode := (.seq (.ops A_lexiconref00_SpoilTexts_0) (.seq (.ops [o_ 3 (.mov (i_ 0))]) (.block 0 (.loop A_lexiconref00_SpoilTexts_4))))
def R_lexiconref00_SpoilTexts : List ARes := []
theorem C_lexiconref00_SpoilTexts : compF Tryz.prog Tryz.f13 = some (A_lexiconref00_SpoilTexts, R_lexiconref00_SpoilTexts) := by kernel_rfl
theorem K_lexiconref00_SpoilTexts {md : Bool} {args : List AV} {h : Hp} {Q : Res → Hp → Prop} (hl : LCode Tryz.prog md A_lexiconref00_SpoilTexts (EndQ R_lexiconref00_SpoilTexts Q) (env0 17 args) h) (hn : args.length ≤ 17 := by (simp; done)) : CallL Tryz.prog F_lexiconref00_SpoilTexts args h Q :=
  CallL.of (md := md) Tryz.func13 C_lexiconref00_SpoilTexts (by rw [Tryz.ntmps13]; exact hn) (by rw [Tryz.ntmps13]; exact hl)

-- lexicon/lexiconref00.mark
abbrev F_lexiconref00_mark : Nat := 70
def A_lexiconref00_mark_0 : List AOper := [mv 5 0, o_ 6 (.bini .lss (.t 5) (i_ 0))]
def A_lexiconref00_mark_1 : List AOper := [mv 7 0, o_ 8 (.neg (.t 7)), mv 9 1, o_ 10 (.call 70 [(.t 8), (.t 9)]), o_ 11 (.bins .add (.c (.str [45])) (.t 10)), mv 4 11]
def A_lexiconref00_mark_2 : List AOper := [mv 12 0, o_ 13 (.bini .rem (.t 12) (i_ 26)), o_ 14 (.bini .add (i_ 97) (.t 13)), o_ 15 (.conv .u8 (.t 14)), mv 16 0, o_ 17 (.bini .quo (.t 16) (i_ 26)), o_ 18 (.bini .rem (.t 17) (i_ 26)), o_ 19 (.bini .add (i_ 97) (.t 18)), o_ 20 (.conv .u8 (.t 19)), mv 21 0, o_ 22 (.bini .quo (.t 21) (i_ 676)), o_ 23 (.bini .rem (.t 22) (i_ 26)), o_ 24 (.bini .add (i_ 97) (.t 23)), o_ 25 (.conv .u8 (.t 24)), mv 26 1, o_ 27 (.bini .rem (.t 26) (i_ 26)), o_ 28 (.bini .add (i_ 97) (.t 27)), o_ 29 (.conv .u8 (.t 28)), mv 30 1, o_ 31 (.bini .quo (.t 30) (i_ 26)), o_ 32 (.bini .rem (.t 31) (i_ 26)), o_ 33 (.bini .add (i_ 97) (.t 32)), o_ 34 (.conv .u8 (.t 33)), o_ 35 (.bslice 5 1 5 [.int .u8 (0)] [(0, 1, (.t 15)), (1, 1, (.t 20)), (2, 1, (.t 25)), (3, 1, (.t 29)), (4, 1, (.t 34))]), o_ 36 (.b2s (.t 35)), mv 4 36]
def A_lexiconref00_mark : ACode := (.seq (.ops [o_ 4 (.mov (.c (.str [])))]) (.seq (.seq (.ops A_lexiconref00_mark_0) (.cond (.t 6) (.seq (.ops A_lexiconref00_mark_1) .ret) .skip)) (.seq (.ops A_lexiconref00_mark_2) .ret)))
def R_lexiconref00_mark : List ARes := [.tmp 4]
theorem C_lexiconref00_mark : compF Tryz.prog Tryz.f70 = some (A_lexiconref00_mark, R_lexiconref00_mark) := by kernel_rfl
theorem K_lexiconref00_mark {md : Bool} {args : List AV} {h : Hp} {Q : Res → Hp → Prop} (hl : LCode Tryz.prog md A_lexiconref00_mark (EndQ R_lexiconref00_mark Q) (env0 37 args) h) (hn : args.length ≤ 37 := by (simp; done)) : CallL Tryz.prog F_lexiconref00_mark args h Q :=
  CallL.of (md := md) Tryz.func70 C_lexiconref00_mark (by rw [Tryz.ntmps70]; exact hn) (by rw [Tryz.ntmps70]; exact hl)

-- lexicon/lexiconref00.ownTexts
abbrev F_lexiconref00_ownTexts : Nat := 37
def A_lexiconref00_ownTexts_0 : List AOper := [mv 13 3, mv 14 0, o_ 15 (.lenl (.t 14)), o_ 16 (.bini .lss (.t 13) (.t 15))]
def A_lexiconref00_ownTexts_1 : List AOper := [mv 19 4, mv 20 0, mv 21 3, o_ 22 (.iaddr 22 1 (.t 20) (.t 21)), o_ 23 (.ld1 (.t 22)), o_ 24 (.lenl (.t 23)), o_ 25 (.bini .lss (.t 19) (.t 24))]
def A_lexiconref00_ownTexts_2 : List AOper := [mv 28 0, mv 29 3, o_ 30 (.iaddr 22 1 (.t 28) (.t 29)), o_ 31 (.ld1 (.t 30)), mv 32 4, mv 33 3, mv 34 4, o_ 35 (.acall 70 [(.t 33), (.t 34)]), o_ 36 (.iaddr 9 1 (.t 31) (.t 32)), n_ (.st 1 (.t 36) (.t 35))]
def A_lexiconref00_ownTexts_3 : List AOper := [mv 28 0, mv 29 3, o_ 30 (.iaddr 22 1 (.t 28) (.t 29)), o_ 31 (.ld1 (.t 30)), mv 32 4, mv 33 3, mv 34 4, o_ 35 (.pcall 70 [(.t 33), (.t 34)]), o_ 36 (.iaddr 9 1 (.t 31) (.t 32)), n_ (.st 1 (.t 36) (.t 35))]
def A_lexiconref00_ownTexts_4 : List AOper := [mv 28 0, mv 29 3, mv 32 4, mv 33 3, mv 34 4, o_ 30 (.iaddr 22 1 (.t 28) (.t 29)), o_ 31 (.ld1 (.t 30)), o_ 35 (.call 70 [(.t 33), (.t 34)]), o_ 36 (.iaddr 9 1 (.t 31) (.t 32)), n_ (.st 1 (.t 36) (.t 35))]
def A_lexiconref00_ownTexts_5 : List AOper := [mv 28 0, mv 29 3, mv 32 4, mv 33 3, mv 34 4, o_ 30 (.iaddr 22 1 (.t 28) (.t 29)), o_ 35 (.call 70 [(.t 33), (.t 34)]), o_ 31 (.ld1 (.t 30)), o_ 36 (.iaddr 9 1 (.t 31) (.t 32)), n_ (.st 1 (.t 36) (.t 35))]
def A_lexiconref00_ownTexts_6 : List AOper := [mv 28 0, mv 29 3, mv 32 4, mv 33 3, mv 34 4, o_ 35 (.call 70 [(.t 33), (.t 34)]), o_ 30 (.iaddr 22 1 (.t 28) (.t 29)), o_ 31 (.ld1 (.t 30)), o_ 36 (.iaddr 9 1 (.t 31) (.t 32)), n_ (.st 1 (.t 36) (.t 35))]
def A_lexiconref00_ownTexts_7 : List AOper := [mv 26 4, o_ 27 (.bini .add (.t 26) (i_ 1)), mv 4 27]
def A_lexiconref00_ownTexts_8 : ACode := (.seq (.seq (.ops A_lexiconref00_ownTexts_1) (.cond (.t 25) .skip (.exit 2))) (.seq (.block 3 (.orr (.alts [28, 29, 30, 31, 32, 33, 34, 35, 36] [A_lexiconref00_ownTexts_2]) (.orr (.alts [28, 29, 30, 31, 32, 33, 34, 35, 36] [A_lexiconref00_ownTexts_3]) (.alts [28, 29, 30, 31, 32, 33, 34, 35, 36] [A_lexiconref00_ownTexts_4, A_lexiconref00_ownTexts_5, A_lexiconref00_ownTexts_6])))) (.ops A_lexiconref00_ownTexts_7)))
def A_lexiconref00_ownTexts_9 : List AOper := [mv 17 3, o_ 18 (.bini .add (.t 17) (i_ 1)), mv 3 18]
def A_lexiconref00_ownTexts_10 : ACode := (.seq (.seq (.ops A_lexiconref00_ownTexts_0) (.cond (.t 16) .skip (.exit 0))) (.seq (.block 1 (.seq (.ops [o_ 4 (.mov (i_ 0))]) (.block 2 (.loop A_lexiconref00_ownTexts_8)))) (.ops A_lexiconref00_ownTexts_9)))
def A_lexiconref00_ownTexts_11 : List AOper := [mv 37 6, mv 38 0, o_ 39 (.lenl (.t 38)), o_ 40 (.bini .lss (.t 37) (.t 39))]
def A_lexiconref00_ownTexts_12 : List AOper := [mv 43 0, mv 44 6, o_ 45 (.iaddr 22 1 (.t 43) (.t 44)), o_ 46 (.ld1 (.t 45)), mv 7 46]
def A_lexiconref00_ownTexts_13 : List AOper := [mv 47 8, o_ 48 (.bini .lss (.t 47) (i_ 16))]
def A_lexiconref00_ownTexts_14 : List AOper := [mv 51 7, mv 52 6, o_ 53 (.bini .sub (i_ (-1)) (.t 52)), mv 54 8, o_ 55 (.call 70 [(.t 53), (.t 54)]), o_ 56 (.bslice 9 1 1 [.str []] [(0, 1, (.t 55))]), o_ 57 (.app 9 1 16 (.t 51) (.t 56)), mv 7 57]
def A_lexiconref00_ownTexts_15 : List AOper := [mv 49 8, o_ 50 (.bini .add (.t 49) (i_ 1)), mv 8 50]
def A_lexiconref00_ownTexts_16 : ACode := (.seq (.seq (.ops A_lexiconref00_ownTexts_13) (.cond (.t 48) .skip (.exit 6))) (.seq (.block 7 (.ops A_lexiconref00_ownTexts_14)) (.ops A_lexiconref00_ownTexts_15)))
def A_lexiconref00_ownTexts_17 : List AOper := [mv 58 5, mv 59 7, o_ 60 (.bslice 22 1 1 [.nils] [(0, 1, (.t 59))]), o_ 61 (.app 22 1 24 (.t 58) (.t 60)), mv 5 61]
def A_lexiconref00_ownTexts_18 : List AOper := [mv 41 6, o_ 42 (.bini .add (.t 41) (i_ 1)), mv 6 42]
def A_lexiconref00_ownTexts_19 : ACode := (.seq (.seq (.ops A_lexiconref00_ownTexts_11) (.cond (.t 40) .skip (.exit 4))) (.seq (.block 5 (.seq (.ops A_lexiconref00_ownTexts_12) (.seq (.seq (.ops [o_ 8 (.mov (i_ 0))]) (.block 6 (.loop A_lexiconref00_ownTexts_16))) (.ops A_lexiconref00_ownTexts_17)))) (.ops A_lexiconref00_ownTexts_18)))
def A_lexiconref00_ownTexts_20 : List AOper := [mv 62 9, mv 63 0, o_ 64 (.lenl (.t 63)), o_ 65 (.bini .lss (.t 62) (.t 64))]
def A_lexiconref00_ownTexts_21 : List AOper := [mv 68 0, mv 69 9, o_ 70 (.iaddr 22 1 (.t 68) (.t 69)), o_ 71 (.ld1 (.t 70)), o_ 72 (.lenl (.t 71)), mv 10 72]
def A_lexiconref00_ownTexts_22 : List AOper := [mv 73 11, mv 74 10, o_ 75 (.bini .lss (.t 73) (.t 74))]
def A_lexiconref00_ownTexts_23 : List AOper := [mv 78 0, mv 79 9, o_ 80 (.iaddr 22 1 (.t 78) (.t 79)), o_ 81 (.ld1 (.t 80)), mv 82 11, o_ 83 (.iaddr 9 1 (.t 81) (.t 82)), o_ 84 (.ld1 (.t 83)), mv 85 9, mv 86 11, o_ 87 (.acall 70 [(.t 85), (.t 86)]), o_ 88 (.bins .neq (.t 84) (.t 87)), mv 89 88, ⟨some 90, .mov (.t 5), some (89, false)⟩, ⟨some 91, .mov (.t 9), some (89, false)⟩, ⟨some 92, .iaddr 22 1 (.t 90) (.t 91), some (89, false)⟩, ⟨some 93, .ld1 (.t 92), some (89, false)⟩, ⟨some 94, .mov (.t 11), some (89, false)⟩, ⟨some 95, .iaddr 9 1 (.t 93) (.t 94), some (89, false)⟩, ⟨some 96, .ld1 (.t 95), some (89, false)⟩, ⟨some 97, .mov (.t 9), some (89, false)⟩, ⟨some 98, .mov (.t 11), some (89, false)⟩, ⟨some 99, .acall 70 [(.t 97), (.t 98)], some (89, false)⟩, ⟨some 100, .bins .neq (.t 96) (.t 99), some (89, false)⟩, o_ 101 (.pick (.t 89) (.c (.bool true)) (.t 100))]
def A_lexiconref00_ownTexts_24 : List AOper := [mv 78 0, mv 79 9, o_ 80 (.iaddr 22 1 (.t 78) (.t 79)), o_ 81 (.ld1 (.t 80)), mv 82 11, o_ 83 (.iaddr 9 1 (.t 81) (.t 82)), o_ 84 (.ld1 (.t 83)), mv 85 9, mv 86 11, o_ 87 (.pcall 70 [(.t 85), (.t 86)]), o_ 88 (.bins .neq (.t 84) (.t 87)), mv 89 88, ⟨some 90, .mov (.t 5), some (89, false)⟩, ⟨some 91, .mov (.t 9), some (89, false)⟩, ⟨some 92, .iaddr 22 1 (.t 90) (.t 91), some (89, false)⟩, ⟨some 93, .ld1 (.t 92), some (89, false)⟩, ⟨some 94, .mov (.t 11), some (89, false)⟩, ⟨some 95, .iaddr 9 1 (.t 93) (.t 94), some (89, false)⟩, ⟨some 96, .ld1 (.t 95), some (89, false)⟩, ⟨some 97, .mov (.t 9), some (89, false)⟩, ⟨some 98, .mov (.t 11), some (89, false)⟩, ⟨some 99, .pcall 70 [(.t 97), (.t 98)], some (89, false)⟩, ⟨some 100, .bins .neq (.t 96) (.t 99), some (89, false)⟩, o_ 101 (.pick (.t 89) (.c (.bool true)) (.t 100))]
def A_lexiconref00_ownTexts_25 : List AOper := [mv 76 11, o_ 77 (.bini .add (.t 76) (i_ 1)), mv 11 77]
def A_lexiconref00_ownTexts_26 : ACode := (.seq (.seq (.ops A_lexiconref00_ownTexts_22) (.cond (.t 75) .skip (.exit 10))) (.seq (.block 11 (.seq (.orr (.alts [78, 79, 80, 81, 82, 83, 84, 85, 86, 87, 88, 89, 90, 91, 92, 93, 94, 95, 96, 97, 98, 99, 100, 101] [A_lexiconref00_ownTexts_23]) (.orr (.alts [78, 79, 80, 81, 82, 83, 84, 85, 86, 87, 88, 89, 90, 91, 92, 93, 94, 95, 96, 97, 98, 99, 100, 101] [A_lexiconref00_ownTexts_24]) .bad)) (.cond (.t 101) (.seq (.ops [o_ 2 (.mov (.c (.bool false)))]) .ret) .skip))) (.ops A_lexiconref00_ownTexts_25)))
def A_lexiconref00_ownTexts_27 : List AOper := [mv 102 12, o_ 103 (.bini .lss (.t 102) (i_ 16))]
def A_lexiconref00_ownTexts_28 : List AOper := [mv 106 5, mv 107 9, o_ 108 (.iaddr 22 1 (.t 106) (.t 107)), o_ 109 (.ld1 (.t 108)), mv 110 10, mv 111 12, o_ 112 (.bini .add (.t 110) (.t 111)), o_ 113 (.iaddr 9 1 (.t 109) (.t 112)), o_ 114 (.ld1 (.t 113)), mv 115 9, o_ 116 (.bini .sub (i_ (-1)) (.t 115)), mv 117 12, o_ 118 (.acall 70 [(.t 116), (.t 117)]), o_ 119 (.bins .neq (.t 114) (.t 118))]
def A_lexiconref00_ownTexts_29 : List AOper := [mv 106 5, mv 107 9, o_ 108 (.iaddr 22 1 (.t 106) (.t 107)), o_ 109 (.ld1 (.t 108)), mv 110 10, mv 111 12, o_ 112 (.bini .add (.t 110) (.t 111)), o_ 113 (.iaddr 9 1 (.t 109) (.t 112)), o_ 114 (.ld1 (.t 113)), mv 115 9, o_ 116 (.bini .sub (i_ (-1)) (.t 115)), mv 117 12, o_ 118 (.pcall 70 [(.t 116), (.t 117)]), o_ 119 (.bins .neq (.t 114) (.t 118))]
def A_lexiconref00_ownTexts_30 : List AOper := [mv 106 5, mv 107 9, mv 110 10, mv 111 12, o_ 112 (.bini .add (.t 110) (.t 111)), mv 115 9, o_ 116 (.bini .sub (i_ (-1)) (.t 115)), mv 117 12, o_ 108 (.iaddr 22 1 (.t 106) (.t 107)), o_ 109 (.ld1 (.t 108)), o_ 113 (.iaddr 9 1 (.t 109) (.t 112)), o_ 114 (.ld1 (.t 113)), o_ 118 (.call 70 [(.t 116), (.t 117)]), o_ 119 (.bins .neq (.t 114) (.t 118))]
def A_lexiconref00_ownTexts_31 : List AOper := [mv 106 5, mv 107 9, mv 110 10, mv 111 12, o_ 112 (.bini .add (.t 110) (.t 111)), mv 115 9, o_ 116 (.bini .sub (i_ (-1)) (.t 115)), mv 117 12, o_ 108 (.iaddr 22 1 (.t 106) (.t 107)), o_ 109 (.ld1 (.t 108)), o_ 113 (.iaddr 9 1 (.t 109) (.t 112)), o_ 118 (.call 70 [(.t 116), (.t 117)]), o_ 114 (.ld1 (.t 113)), o_ 119 (.bins .neq (.t 114) (.t 118))]
def A_lexiconref00_ownTexts_32 : List AOper := [mv 106 5, mv 107 9, mv 110 10, mv 111 12, o_ 112 (.bini .add (.t 110) (.t 111)), mv 115 9, o_ 116 (.bini .sub (i_ (-1)) (.t 115)), mv 117 12, o_ 108 (.iaddr 22 1 (.t 106) (.t 107)), o_ 109 (.ld1 (.t 108)), o_ 118 (.call 70 [(.t 116), (.t 117)]), o_ 113 (.iaddr 9 1 (.t 109) (.t 112)), o_ 114 (.ld1 (.t 113)), o_ 119 (.bins .neq (.t 114) (.t 118))]
def A_lexiconref00_ownTexts_33 : List AOper := [mv 106 5, mv 107 9, mv 110 10, mv 111 12, o_ 112 (.bini .add (.t 110) (.t 111)), mv 115 9, o_ 116 (.bini .sub (i_ (-1)) (.t 115)), mv 117 12, o_ 108 (.iaddr 22 1 (.t 106) (.t 107)), o_ 118 (.call 70 [(.t 116), (.t 117)]), o_ 109 (.ld1 (.t 108)), o_ 113 (.iaddr 9 1 (.t 109) (.t 112)), o_ 114 (.ld1 (.t 113)), o_ 119 (.bins .neq (.t 114) (.t 118))]
def A_lexiconref00_ownTexts_34 : List AOper := [mv 106 5, mv 107 9, mv 110 10, mv 111 12, o_ 112 (.bini .add (.t 110) (.t 111)), mv 115 9, o_ 116 (.bini .sub (i_ (-1)) (.t 115)), mv 117 12, o_ 118 (.call 70 [(.t 116), (.t 117)]), o_ 108 (.iaddr 22 1 (.t 106) (.t 107)), o_ 109 (.ld1 (.t 108)), o_ 113 (.iaddr 9 1 (.t 109) (.t 112)), o_ 114 (.ld1 (.t 113)), o_ 119 (.bins .neq (.t 114) (.t 118))]
def A_lexiconref00_ownTexts_35 : List AOper := [mv 104 12, o_ 105 (.bini .add (.t 104) (i_ 1)), mv 12 105]
def A_lexiconref00_ownTexts_36 : ACode := (.seq (.seq (.ops A_lexiconref00_ownTexts_27) (.cond (.t 103) .skip (.exit 12))) (.seq (.block 13 (.seq (.orr (.alts [106, 107, 108, 109, 110, 111, 112, 113, 114, 115, 116, 117, 118, 119] [A_lexiconref00_ownTexts_28]) (.orr (.alts [106, 107, 108, 109, 110, 111, 112, 113, 114, 115, 116, 117, 118, 119] [A_lexiconref00_ownTexts_29]) (.alts [106, 107, 108, 109, 110, 111, 112, 113, 114, 115, 116, 117, 118, 119] [A_lexiconref00_ownTexts_30, A_lexiconref00_ownTexts_31, A_lexiconref00_ownTexts_32, A_lexiconref00_ownTexts_33, A_lexiconref00_ownTexts_34]))) (.cond (.t 119) (.seq (.ops [o_ 2 (.mov (.c (.bool false)))]) .ret) .skip))) (.ops A_lexiconref00_ownTexts_35)))
def A_lexiconref00_ownTexts_37 : List AOper := [mv 66 9, o_ 67 (.bini .add (.t 66) (i_ 1)), mv 9 67]
def A_lexiconref00_ownTexts_38 : ACode := (.seq (.seq (.ops A_lexiconref00_ownTexts_20) (.cond (.t 65) .skip (.exit 8))) (.seq (.block 9 (.seq (.ops A_lexiconref00_ownTexts_21) (.seq (.seq (.ops [o_ 11 (.mov (i_ 0))]) (.block 10 (.loop A_lexiconref00_ownTexts_26))) (.seq (.ops [o_ 12 (.mov (i_ 0))]) (.block 12 (.loop A_lexiconref00_ownTexts_36)))))) (.ops A_lexiconref00_ownTexts_37)))
def A_lexiconref00_ownTexts : ACode := (.seq (.ops [o_ 2 (.mov (.c (.bool false)))]) (.seq (.seq (.ops [o_ 3 (.mov (i_ 0))]) (.block 0 (.loop A_lexiconref00_ownTexts_10))) (.seq (.ops [o_ 5 (.mov (.c (.nils)))]) (.seq (.seq (.ops [o_ 6 (.mov (i_ 0))]) (.block 4 (.loop A_lexiconref00_ownTexts_19))) (.seq (.seq (.ops [o_ 9 (.mov (i_ 0))]) (.block 8 (.loop A_lexiconref00_ownTexts_38))) (.seq (.ops [o_ 2 (.mov (.c (.bool true)))]) .ret))))))
def R_lexiconref00_ownTexts : List ARes := [.tmp 2]
theorem C_lexiconref00_ownTexts : compF Tryz.prog Tryz.f37 = some (A_lexiconref00_ownTexts, R_lexiconref00_ownTexts) := by kernel_rfl
theorem K_lexiconref00_ownTexts {md : Bool} {args : List AV} {h : Hp} {Q : Res → Hp → Prop} (hl : LCode Tryz.prog md A_lexiconref00_ownTexts (EndQ R_lexiconref00_ownTexts Q) (env0 120 args) h) (hn : args.length ≤ 120 := by (simp; done)) : CallL Tryz.prog F_lexiconref00_ownTexts args h Q :=
  CallL.of (md := md) Tryz.func37 C_lexiconref00_ownTexts (by rw [Tryz.ntmps37]; exact hn) (by rw [Tryz.ntmps37]; exact hl)

-- (*lexicon/lexiconref00.Book).Texts
abbrev F_lexiconref00_Book_Texts : Nat := 19
def A_lexiconref00_Book_Texts_0 : List AOper := [mv 4 0, mv 5 0, o_ 6 (.nilc (.t 5)), o_ 7 (.faddr 1 (.t 6)), o_ 8 (.ld1 (.t 7)), mv 9 1, o_ 10 (.bslice 22 1 1 [.nils] [(0, 1, (.t 9))]), o_ 11 (.app 22 1 24 (.t 8) (.t 10)), o_ 12 (.nilc (.t 4)), o_ 13 (.faddr 1 (.t 12)), n_ (.st 1 (.t 13) (.t 11))]
def A_lexiconref00_Book_Texts : ACode := (.ops A_lexiconref00_Book_Texts_0)
def R_lexiconref00_Book_Texts : List ARes := []
theorem C_lexiconref00_Book_Texts : compF Tryz.prog Tryz.f19 = some (A_lexiconref00_Book_Texts, R_lexiconref00_Book_Texts) := by kernel_rfl
theorem K_lexiconref00_Book_Texts {md : Bool} {args : List AV} {h : Hp} {Q : Res → Hp → Prop} (hl : LCode Tryz.prog md A_lexiconref00_Book_Texts (EndQ R_lexiconref00_Book_Texts Q) (env0 14 args) h) (hn : args.length ≤ 14 := by (simp; done)) : CallL Tryz.prog F_lexiconref00_Book_Texts args h Q :=
  CallL.of (md := md) Tryz.func19 C_lexiconref00_Book_Texts (by rw [Tryz.ntmps19]; exact hn) (by rw [Tryz.ntmps19]; exact hl)

-- (*lexicon/lexiconref00.Book).Own
abbrev F_lexiconref00_Book_Own : Nat := 20
def A_lexiconref00_Book_Own_0 : List AOper := [mv 3 0, o_ 4 (.nilc (.t 3)), o_ 5 (.faddr 0 (.t 4)), o_ 6 (.ld1 (.t 5)), o_ 7 (.call 36 [(.t 6)]), mv 8 7, g_ 9 (.mov (.t 0)) 8, g_ 10 (.nilc (.t 9)) 8, g_ 11 (.faddr 1 (.t 10)) 8, g_ 12 (.ld1 (.t 11)) 8, g_ 13 (.call 37 [(.t 12)]) 8, o_ 14 (.pick (.t 8) (.t 13) (.c (.bool false))), mv 15 14, g_ 16 (.mov (.t 0)) 15, g_ 17 (.nilc (.t 16)) 15, g_ 18 (.faddr 2 (.t 17)) 15, g_ 19 (.ld1 (.t 18)) 15, g_ 20 (.call 38 [(.t 19)]) 15, o_ 21 (.pick (.t 15) (.t 20) (.c (.bool false))), mv 22 21, g_ 23 (.mov (.t 0)) 22, g_ 24 (.nilc (.t 23)) 22, g_ 25 (.faddr 3 (.t 24)) 22, g_ 26 (.ld1 (.t 25)) 22, g_ 27 (.call 39 [(.t 26)]) 22, o_ 28 (.pick (.t 22) (.t 27) (.c (.bool false))), mv 29 28, g_ 30 (.mov (.t 0)) 29, g_ 31 (.nilc (.t 30)) 29, g_ 32 (.faddr 4 (.t 31)) 29, g_ 33 (.ld1 (.t 32)) 29, g_ 34 (.call 40 [(.t 33)]) 29, o_ 35 (.pick (.t 29) (.t 34) (.c (.bool false))), mv 36 35, g_ 37 (.mov (.t 0)) 36, g_ 38 (.nilc (.t 37)) 36, g_ 39 (.faddr 5 (.t 38)) 36, g_ 40 (.ld1 (.t 39)) 36, g_ 41 (.call 41 [(.t 40)]) 36, o_ 42 (.pick (.t 36) (.t 41) (.c (.bool false))), mv 43 42, g_ 44 (.mov (.t 0)) 43, g_ 45 (.nilc (.t 44)) 43, g_ 46 (.faddr 6 (.t 45)) 43, g_ 47 (.ld1 (.t 46)) 43, g_ 48 (.call 42 [(.t 47)]) 43, o_ 49 (.pick (.t 43) (.t 48) (.c (.bool false))), mv 50 49, g_ 51 (.mov (.t 0)) 50, g_ 52 (.nilc (.t 51)) 50, g_ 53 (.faddr 7 (.t 52)) 50, g_ 54 (.ld1 (.t 53)) 50, g_ 55 (.call 43 [(.t 54)]) 50, o_ 56 (.pick (.t 50) (.t 55) (.c (.bool false))), mv 57 56, g_ 58 (.mov (.t 0)) 57, g_ 59 (.nilc (.t 58)) 57, g_ 60 (.faddr 8 (.t 59)) 57, g_ 61 (.ld1 (.t 60)) 57, g_ 62 (.call 44 [(.t 61)]) 57, o_ 63 (.pick (.t 57) (.t 62) (.c (.bool false))), mv 64 63, g_ 65 (.mov (.t 0)) 64, g_ 66 (.nilc (.t 65)) 64, g_ 67 (.faddr 9 (.t 66)) 64, g_ 68 (.ld1 (.t 67)) 64, g_ 69 (.call 45 [(.t 68)]) 64, o_ 70 (.pick (.t 64) (.t 69) (.c (.bool false))), mv 71 70, g_ 72 (.mov (.t 0)) 71, g_ 73 (.nilc (.t 72)) 71, g_ 74 (.faddr 10 (.t 73)) 71, g_ 75 (.ld1 (.t 74)) 71, g_ 76 (.call 46 [(.t 75)]) 71, o_ 77 (.pick (.t 71) (.t 76) (.c (.bool false))), mv 78 77, g_ 79 (.mov (.t 0)) 78, g_ 80 (.nilc (.t 79)) 78, g_ 81 (.faddr 11 (.t 80)) 78, g_ 82 (.ld1 (.t 81)) 78, g_ 83 (.call 47 [(.t 82)]) 78, o_ 84 (.pick (.t 78) (.t 83) (.c (.bool false))), mv 85 84, g_ 86 (.mov (.t 0)) 85, g_ 87 (.nilc (.t 86)) 85, g_ 88 (.faddr 12 (.t 87)) 85, g_ 89 (.ld1 (.t 88)) 85, g_ 90 (.call 48 [(.t 89)]) 85, o_ 91 (.pick (.t 85) (.t 90) (.c (.bool false))), mv 92 91, g_ 93 (.mov (.t 0)) 92, g_ 94 (.nilc (.t 93)) 92, g_ 95 (.faddr 13 (.t 94)) 92, g_ 96 (.ld1 (.t 95)) 92, g_ 97 (.call 49 [(.t 96)]) 92, o_ 98 (.pick (.t 92) (.t 97) (.c (.bool false))), mv 99 98, g_ 100 (.mov (.t 0)) 99, g_ 101 (.nilc (.t 100)) 99, g_ 102 (.faddr 14 (.t 101)) 99, g_ 103 (.ld1 (.t 102)) 99, g_ 104 (.call 50 [(.t 103)]) 99, o_ 105 (.pick (.t 99) (.t 104) (.c (.bool false))), mv 106 105, g_ 107 (.mov (.t 0)) 106, g_ 108 (.nilc (.t 107)) 106, g_ 109 (.faddr 15 (.t 108)) 106, g_ 110 (.ld1 (.t 109)) 106, g_ 111 (.call 51 [(.t 110)]) 106, o_ 112 (.pick (.t 106) (.t 111) (.c (.bool false))), mv 113 112, g_ 114 (.mov (.t 0)) 113, g_ 115 (.nilc (.t 114)) 113, g_ 116 (.faddr 16 (.t 115)) 113, g_ 117 (.ld1 (.t 116)) 113, g_ 118 (.call 52 [(.t 117)]) 113, o_ 119 (.pick (.t 113) (.t 118) (.c (.bool false))), mv 120 119, g_ 121 (.mov (.t 0)) 120, g_ 122 (.nilc (.t 121)) 120, g_ 123 (.faddr 17 (.t 122)) 120, g_ 124 (.ld1 (.t 123)) 120, g_ 125 (.call 53 [(.t 124)]) 120, o_ 126 (.pick (.t 120) (.t 125) (.c (.bool false))), mv 127 126, g_ 128 (.mov (.t 0)) 127, g_ 129 (.nilc (.t 128)) 127, g_ 130 (.faddr 18 (.t 129)) 127, g_ 131 (.ld1 (.t 130)) 127, g_ 132 (.call 54 [(.t 131)]) 127, o_ 133 (.pick (.t 127) (.t 132) (.c (.bool false))), mv 134 133, g_ 135 (.mov (.t 0)) 134, g_ 136 (.nilc (.t 135)) 134, g_ 137 (.faddr 19 (.t 136)) 134, g_ 138 (.ld1 (.t 137)) 134, g_ 139 (.call 55 [(.t 138)]) 134, o_ 140 (.pick (.t 134) (.t 139) (.c (.bool false))), mv 141 140, g_ 142 (.mov (.t 0)) 141, g_ 143 (.nilc (.t 142)) 141, g_ 144 (.faddr 20 (.t 143)) 141, g_ 145 (.ld1 (.t 144)) 141, g_ 146 (.call 56 [(.t 145)]) 141, o_ 147 (.pick (.t 141) (.t 146) (.c (.bool false))), mv 148 147, g_ 149 (.mov (.t 0)) 148, g_ 150 (.nilc (.t 149)) 148, g_ 151 (.faddr 21 (.t 150)) 148, g_ 152 (.ld1 (.t 151)) 148, g_ 153 (.call 57 [(.t 152)]) 148, o_ 154 (.pick (.t 148) (.t 153) (.c (.bool false))), mv 155 154, g_ 156 (.mov (.t 0)) 155, g_ 157 (.nilc (.t 156)) 155, g_ 158 (.faddr 22 (.t 157)) 155, g_ 159 (.ld1 (.t 158)) 155, g_ 160 (.call 58 [(.t 159)]) 155, o_ 161 (.pick (.t 155) (.t 160) (.c (.bool false))), mv 2 161]
def A_lexiconref00_Book_Own : ACode := (.seq (.ops [o_ 2 (.mov (.c (.bool false)))]) (.seq (.ops A_lexiconref00_Book_Own_0) .ret))
def R_lexiconref00_Book_Own : List ARes := [.tmp 2]
theorem C_lexiconref00_Book_Own : compF Tryz.prog Tryz.f20 = some (A_lexiconref00_Book_Own, R_lexiconref00_Book_Own) := by kernel_rfl
theorem K_lexiconref00_Book_Own {md : Bool} {args : List AV} {h : Hp} {Q : Res → Hp → Prop} (hl : LCode Tryz.prog md A_lexiconref00_Book_Own (EndQ R_lexiconref00_Book_Own Q) (env0 162 args) h) (hn : args.length ≤ 162 := by (simp; done)) : CallL Tryz.prog F_lexiconref00_Book_Own args h Q :=
  CallL.of (md := md) Tryz.func20 C_lexiconref00_Book_Own (by rw [Tryz.ntmps20]; exact hn) (by rw [Tryz.ntmps20]; exact hl)

-- lexicon/lexiconlaw16.MaskSets
abbrev F_lexiconlaw16_MaskSets : Nat := 3
def A_lexiconlaw16_MaskSets_0 : List AOper := [mv 18 2, o_ 19 (.lens (.t 18)), o_ 20 (.bini .gtr (.t 19) (i_ 120000)), mv 21 20, ⟨some 22, .mov (.t 0), some (21, false)⟩, ⟨some 23, .mov (.t 1), some (21, false)⟩, ⟨some 24, .call 5 [(.t 22), (.t 23)], some (21, false)⟩, o_ 25 (.pick (.t 21) (.c (.bool true)) (.t 24))]
def A_lexiconlaw16_MaskSets_1 : List AOper := [o_ 26 (.call 6 []), mv 7 26]
def A_lexiconlaw16_MaskSets_2 : List AOper := [mv 27 0, o_ 28 (.call 7 [(.t 27)]), mv 8 28]
def A_lexiconlaw16_MaskSets_3 : List AOper := [mv 29 1, o_ 30 (.call 7 [(.t 29)]), mv 9 30]
def A_lexiconlaw16_MaskSets_4 : List AOper := [mv 31 8, o_ 32 (.call 8 [(.t 31)]), mv 33 8, mv 34 9, o_ 35 (.call 9 [(.t 33), (.t 34)]), mv 36 8, mv 37 9, o_ 38 (.call 10 [(.t 36), (.t 37)]), mv 39 8, o_ 40 (.call 8 [(.t 39)]), mv 41 8, mv 42 9, o_ 43 (.call 9 [(.t 41), (.t 42)]), mv 44 8, mv 45 9, o_ 46 (.call 10 [(.t 44), (.t 45)]), o_ 47 (.bslice 22 1 6 [.nils] [(0, 1, (.t 32)), (1, 1, (.t 35)), (2, 1, (.t 38)), (3, 1, (.t 40)), (4, 1, (.t 43)), (5, 1, (.t 46))]), mv 10 47]
def A_lexiconlaw16_MaskSets_5 : List AOper := [mv 48 8, mv 49 2, o_ 50 (.call 11 [(.t 48), (.t 49)]), mv 11 50]
def A_lexiconlaw16_MaskSets_6 : List AOper := [mv 51 8, mv 52 0, o_ 53 (.call 12 [(.t 51), (.t 52)]), mv 54 53, g_ 55 (.mov (.t 9)) 54, g_ 56 (.mov (.t 1)) 54, g_ 57 (.call 12 [(.t 55), (.t 56)]) 54, o_ 58 (.pick (.t 54) (.t 57) (.c (.bool false))), mv 12 58]
def A_lexiconlaw16_MaskSets_7 : List AOper := [mv 59 8, o_ 60 (.call 13 [(.t 59)])]
def A_lexiconlaw16_MaskSets_8 : List AOper := [mv 61 9, o_ 62 (.call 13 [(.t 61)])]
def A_lexiconlaw16_MaskSets_9 : List AOper := [mv 63 8, o_ 64 (.call 8 [(.t 63)]), mv 65 8, o_ 66 (.call 15 [(.t 65)]), o_ 67 (.call 14 [(.t 64), (.t 66)]), mv 68 67, g_ 69 (.mov (.t 8)) 68, g_ 70 (.mov (.t 9)) 68, g_ 71 (.call 9 [(.t 69), (.t 70)]) 68, g_ 72 (.mov (.t 8)) 68, g_ 73 (.mov (.t 9)) 68, g_ 74 (.call 16 [(.t 72), (.t 73)]) 68, g_ 75 (.call 14 [(.t 71), (.t 74)]) 68, o_ 76 (.pick (.t 68) (.t 75) (.c (.bool false))), mv 77 76, g_ 78 (.mov (.t 8)) 77, g_ 79 (.mov (.t 9)) 77, g_ 80 (.call 10 [(.t 78), (.t 79)]) 77, g_ 81 (.mov (.t 8)) 77, g_ 82 (.mov (.t 9)) 77, g_ 83 (.call 17 [(.t 81), (.t 82)]) 77, g_ 84 (.call 14 [(.t 80), (.t 83)]) 77, o_ 85 (.pick (.t 77) (.t 84) (.c (.bool false))), mv 86 85, g_ 87 (.mov (.t 8)) 86, g_ 88 (.mov (.t 2)) 86, g_ 89 (.call 11 [(.t 87), (.t 88)]) 86, g_ 90 (.mov (.t 8)) 86, g_ 91 (.mov (.t 2)) 86, g_ 92 (.call 18 [(.t 90), (.t 91)]) 86, g_ 93 (.binb .eql (.t 89) (.t 92)) 86, o_ 94 (.pick (.t 86) (.t 93) (.c (.bool false))), mv 13 94]
def A_lexiconlaw16_MaskSets_10 : List AOper := [mv 95 0, o_ 96 (.call 15 [(.t 95)]), mv 97 0, mv 98 1, o_ 99 (.call 16 [(.t 97), (.t 98)]), mv 100 0, mv 101 1, o_ 102 (.call 17 [(.t 100), (.t 101)]), o_ 103 (.bslice 22 1 3 [.nils] [(0, 1, (.t 96)), (1, 1, (.t 99)), (2, 1, (.t 102))]), mv 14 103]
def A_lexiconlaw16_MaskSets_11 : List AOper := [o_ 104 (.build [.nils, .nils, .nils, .nils, .nils, .nils, .nils, .nils, .nils, .nils, .nils, .nils, .nils, .nils, .nils, .nils, .nils, .nils, .nils, .nils, .nils, .nils, .nils] []), o_ 105 (.box 54 23 (.t 104)), mv 15 105]
def A_lexiconlaw16_MaskSets_12 : List AOper := [mv 106 16, o_ 107 (.bini .lss (.t 106) (i_ 6))]
def A_lexiconlaw16_MaskSets_13 : List AOper := [mv 110 10, mv 111 16, o_ 112 (.iaddr 22 1 (.t 110) (.t 111)), o_ 113 (.ld1 (.t 112)), mv 114 14, mv 115 16, o_ 116 (.bini .rem (.t 115) (i_ 3)), o_ 117 (.iaddr 22 1 (.t 114) (.t 116)), o_ 118 (.ld1 (.t 117)), o_ 119 (.call 14 [(.t 113), (.t 118)]), mv 17 119]
def A_lexiconlaw16_MaskSets_14 : List AOper := [mv 120 17, o_ 121 (.not (.t 120))]
def A_lexiconlaw16_MaskSets_15 : List AOper := [mv 122 15, mv 123 10, mv 124 16, o_ 125 (.iaddr 22 1 (.t 123) (.t 124)), o_ 126 (.ld1 (.t 125)), o_ 127 (.call 19 [(.t 122), (.t 126)])]
def A_lexiconlaw16_MaskSets_16 : List AOper := [mv 108 16, o_ 109 (.bini .add (.t 108) (i_ 1)), mv 16 109]
def A_lexiconlaw16_MaskSets_17 : ACode := (.seq (.seq (.ops A_lexiconlaw16_MaskSets_12) (.cond (.t 107) .skip (.exit 0))) (.seq (.block 1 (.seq (.alts [110, 111, 112, 113, 114, 115, 116, 117, 118, 119, 17] [A_lexiconlaw16_MaskSets_13]) (.seq (.seq (.ops A_lexiconlaw16_MaskSets_14) (.cond (.t 121) (.seq (.ops [o_ 6 (.mov (.c (.bool false)))]) .ret) .skip)) (.ops A_lexiconlaw16_MaskSets_15)))) (.ops A_lexiconlaw16_MaskSets_16)))
def A_lexiconlaw16_MaskSets_18 : List AOper := [mv 128 7, mv 129 128, g_ 130 (.mov (.t 12)) 129, o_ 131 (.pick (.t 129) (.t 130) (.c (.bool false))), mv 132 131, g_ 133 (.mov (.t 13)) 132, o_ 134 (.pick (.t 132) (.t 133) (.c (.bool false))), mv 135 134, g_ 136 (.mov (.t 11)) 135, g_ 137 (.mov (.t 0)) 135, g_ 138 (.mov (.t 2)) 135, g_ 139 (.call 18 [(.t 137), (.t 138)]) 135, g_ 140 (.binb .eql (.t 136) (.t 139)) 135, o_ 141 (.pick (.t 135) (.t 140) (.c (.bool false))), mv 142 141, g_ 143 (.mov (.t 15)) 142, g_ 144 (.call 20 [(.t 143)]) 142, o_ 145 (.pick (.t 142) (.t 144) (.c (.bool false))), mv 6 145]
def A_lexiconlaw16_MaskSets : ACode := (.seq (.ops [o_ 6 (.mov (.c (.bool false)))]) (.seq (.seq (.ops A_lexiconlaw16_MaskSets_0) (.cond (.t 25) (.seq (.ops [o_ 6 (.mov (.c (.bool true)))]) .ret) .skip)) (.seq (.ops A_lexiconlaw16_MaskSets_1) (.seq (.ops A_lexiconlaw16_MaskSets_2) (.seq (.ops A_lexiconlaw16_MaskSets_3) (.seq (.ops A_lexiconlaw16_MaskSets_4) (.seq (.ops A_lexiconlaw16_MaskSets_5) (.seq (.ops A_lexiconlaw16_MaskSets_6) (.seq (.ops A_lexiconlaw16_MaskSets_7) (.seq (.ops A_lexiconlaw16_MaskSets_8) (.seq (.ops A_lexiconlaw16_MaskSets_9) (.seq (.ops A_lexiconlaw16_MaskSets_10) (.seq (.ops A_lexiconlaw16_MaskSets_11) (.seq (.seq (.ops [o_ 16 (.mov (i_ 0))]) (.block 0 (.loop A_lexiconlaw16_MaskSets_17))) (.seq (.ops A_lexiconlaw16_MaskSets_18) .ret)))))))))))))))
def R_lexiconlaw16_MaskSets : List ARes := [.tmp 6]
theorem C_lexiconlaw16_MaskSets : compF Tryz.prog Tryz.f3 = some (A_lexiconlaw16_MaskSets, R_lexiconlaw16_MaskSets) := by kernel_rfl
theorem K_lexiconlaw16_MaskSets {md : Bool} {args : List AV} {h : Hp} {Q : Res → Hp → Prop} (hl : LCode Tryz.prog md A_lexiconlaw16_MaskSets (EndQ R_lexiconlaw16_MaskSets Q) (env0 146 args) h) (hn : args.length ≤ 146 := by (simp; done)) : CallL Tryz.prog F_lexiconlaw16_MaskSets args h Q :=
  CallL.of (md := md) Tryz.func3 C_lexiconlaw16_MaskSets (by rw [Tryz.ntmps3]; exact hn) (by rw [Tryz.ntmps3]; exact hl)

-- lexicon/lexiconlaw16.MaskTexts
abbrev F_lexiconlaw16_MaskTexts : Nat := 4
def A_lexiconlaw16_MaskTexts_0 : List AOper := [mv 28 0, o_ 29 (.lens (.t 28)), o_ 30 (.bini .gtr (.t 29) (i_ 120000)), mv 31 30, ⟨some 32, .mov (.t 1), some (31, false)⟩, ⟨some 33, .call 5 [(.t 32), (.c (.nils))], some (31, false)⟩, o_ 34 (.pick (.t 31) (.c (.bool true)) (.t 33))]
def A_lexiconlaw16_MaskTexts_1 : List AOper := [o_ 35 (.call 6 []), mv 5 35]
def A_lexiconlaw16_MaskTexts_2 : List AOper := [mv 37 0, o_ 38 (.call 21 [(.t 37)]), mv 36 38, o_ 39 (.ext 0 (.t 36)), o_ 40 (.ext 1 (.t 36)), mv 6 39, mv 7 40]
def A_lexiconlaw16_MaskTexts_3 : List AOper := [mv 42 0, o_ 43 (.call 21 [(.t 42)]), mv 41 43, o_ 44 (.ext 0 (.t 41)), o_ 45 (.ext 1 (.t 41)), mv 8 44, mv 9 45]
def A_lexiconlaw16_MaskTexts_4 : List AOper := [mv 47 0, o_ 48 (.call 22 [(.t 47)]), mv 46 48, o_ 49 (.ext 0 (.t 46)), o_ 50 (.ext 1 (.t 46)), mv 10 49, mv 11 50]
def A_lexiconlaw16_MaskTexts_5 : List AOper := [mv 51 6, mv 52 10, o_ 53 (.call 14 [(.t 51), (.t 52)]), mv 12 53]
def A_lexiconlaw16_MaskTexts_6 : List AOper := [mv 54 8, mv 55 10, o_ 56 (.call 14 [(.t 54), (.t 55)]), mv 13 56]
def A_lexiconlaw16_MaskTexts_7 : List AOper := [mv 57 1, o_ 58 (.call 7 [(.t 57)]), mv 14 58]
def A_lexiconlaw16_MaskTexts_8 : List AOper := [mv 60 14, o_ 61 (.call 23 [(.t 60)]), mv 59 61, o_ 62 (.ext 0 (.t 59)), o_ 63 (.ext 1 (.t 59)), mv 15 62, mv 16 63]
def A_lexiconlaw16_MaskTexts_9 : List AOper := [mv 64 14, mv 65 1, o_ 66 (.call 12 [(.t 64), (.t 65)]), mv 17 66]
def A_lexiconlaw16_MaskTexts_10 : List AOper := [mv 68 1, o_ 69 (.call 24 [(.t 68)]), mv 67 69, o_ 70 (.ext 0 (.t 67)), o_ 71 (.ext 1 (.t 67)), mv 18 70, mv 19 71]
def A_lexiconlaw16_MaskTexts_11 : List AOper := [mv 72 14, o_ 73 (.call 13 [(.t 72)])]
def A_lexiconlaw16_MaskTexts_12 : List AOper := [mv 75 14, o_ 76 (.call 23 [(.t 75)]), mv 74 76, o_ 77 (.ext 0 (.t 74)), o_ 78 (.ext 1 (.t 74)), mv 20 77, mv 21 78]
def A_lexiconlaw16_MaskTexts_13 : List AOper := [mv 80 14, o_ 81 (.call 24 [(.t 80)]), mv 79 81, o_ 82 (.ext 0 (.t 79)), o_ 83 (.ext 1 (.t 79)), mv 22 82, mv 23 83]
def A_lexiconlaw16_MaskTexts_14 : List AOper := [mv 84 5, o_ 85 (.not (.t 84)), mv 86 85, ⟨some 87, .mov (.t 12), some (86, false)⟩, ⟨some 88, .not (.t 87), some (86, false)⟩, o_ 89 (.pick (.t 86) (.c (.bool true)) (.t 88)), mv 90 89, ⟨some 91, .mov (.t 13), some (90, false)⟩, ⟨some 92, .not (.t 91), some (90, false)⟩, o_ 93 (.pick (.t 90) (.c (.bool true)) (.t 92)), mv 94 93, ⟨some 95, .mov (.t 17), some (94, false)⟩, ⟨some 96, .not (.t 95), some (94, false)⟩, o_ 97 (.pick (.t 94) (.c (.bool true)) (.t 96)), mv 98 97, ⟨some 99, .mov (.t 7), some (98, false)⟩, ⟨some 100, .mov (.t 11), some (98, false)⟩, ⟨some 101, .bini .neq (.t 99) (.t 100), some (98, false)⟩, o_ 102 (.pick (.t 98) (.c (.bool true)) (.t 101)), mv 103 102, ⟨some 104, .mov (.t 15), some (103, false)⟩, ⟨some 105, .mov (.t 18), some (103, false)⟩, ⟨some 106, .bins .neq (.t 104) (.t 105), some (103, false)⟩, o_ 107 (.pick (.t 103) (.c (.bool true)) (.t 106)), mv 108 107, ⟨some 109, .mov (.t 16), some (108, false)⟩, ⟨some 110, .mov (.t 19), some (108, false)⟩, ⟨some 111, .bini .neq (.t 109) (.t 110), some (108, false)⟩, o_ 112 (.pick (.t 108) (.c (.bool true)) (.t 111)), mv 113 112, ⟨some 114, .mov (.t 20), some (113, false)⟩, ⟨some 115, .mov (.t 22), some (113, false)⟩, ⟨some 116, .bins .neq (.t 114) (.t 115), some (113, false)⟩, o_ 117 (.pick (.t 113) (.c (.bool true)) (.t 116)), mv 118 117, ⟨some 119, .mov (.t 21), some (118, false)⟩, ⟨some 120, .mov (.t 23), some (118, false)⟩, ⟨some 121, .bini .neq (.t 119) (.t 120), some (118, false)⟩, o_ 122 (.pick (.t 118) (.c (.bool true)) (.t 121))]
def A_lexiconlaw16_MaskTexts_15 : List AOper := [o_ 123 (.build [.nils, .nils, .nils, .nils, .nils, .nils, .nils, .nils, .nils, .nils, .nils, .nils, .nils, .nils, .nils, .nils, .nils, .nils, .nils, .nils, .nils, .nils, .nils] []), o_ 124 (.box 54 23 (.t 123)), mv 24 124]
def A_lexiconlaw16_MaskTexts_16 : List AOper := [mv 125 24, mv 126 6, o_ 127 (.call 19 [(.t 125), (.t 126)])]
def A_lexiconlaw16_MaskTexts_17 : List AOper := [mv 128 24, mv 129 8, o_ 130 (.call 19 [(.t 128), (.t 129)])]
def A_lexiconlaw16_MaskTexts_18 : List AOper := [mv 131 16, o_ 132 (.bini .eql (.t 131) (i_ 0))]
def A_lexiconlaw16_MaskTexts_19 : List AOper := [mv 134 15, o_ 135 (.call 21 [(.t 134)]), mv 133 135, o_ 136 (.ext 0 (.t 133)), o_ 137 (.ext 1 (.t 133)), mv 25 136, mv 26 137]
def A_lexiconlaw16_MaskTexts_20 : List AOper := [mv 138 25, mv 139 1, o_ 140 (.call 14 [(.t 138), (.t 139)]), mv 27 140]
def A_lexiconlaw16_MaskTexts_21 : List AOper := [mv 141 27, o_ 142 (.not (.t 141)), mv 143 142, ⟨some 144, .mov (.t 26), some (143, false)⟩, ⟨some 145, .bini .neq (.t 144) (i_ 0), some (143, false)⟩, o_ 146 (.pick (.t 143) (.c (.bool true)) (.t 145))]
def A_lexiconlaw16_MaskTexts_22 : List AOper := [mv 147 24, o_ 148 (.call 20 [(.t 147)]), mv 4 148]
def A_lexiconlaw16_MaskTexts : ACode := (.seq (.ops [o_ 4 (.mov (.c (.bool false)))]) (.seq (.seq (.ops A_lexiconlaw16_MaskTexts_0) (.cond (.t 34) (.seq (.ops [o_ 4 (.mov (.c (.bool true)))]) .ret) .skip)) (.seq (.ops A_lexiconlaw16_MaskTexts_1) (.seq (.ops A_lexiconlaw16_MaskTexts_2) (.seq (.ops A_lexiconlaw16_MaskTexts_3) (.seq (.ops A_lexiconlaw16_MaskTexts_4) (.seq (.ops A_lexiconlaw16_MaskTexts_5) (.seq (.ops A_lexiconlaw16_MaskTexts_6) (.seq (.ops A_lexiconlaw16_MaskTexts_7) (.seq (.ops A_lexiconlaw16_MaskTexts_8) (.seq (.ops A_lexiconlaw16_MaskTexts_9) (.seq (.ops A_lexiconlaw16_MaskTexts_10) (.seq (.ops A_lexiconlaw16_MaskTexts_11) (.seq (.ops A_lexiconlaw16_MaskTexts_12) (.seq (.ops A_lexiconlaw16_MaskTexts_13) (.seq (.seq (.ops A_lexiconlaw16_MaskTexts_14) (.cond (.t 122) (.seq (.ops [o_ 4 (.mov (.c (.bool false)))]) .ret) .skip)) (.seq (.ops A_lexiconlaw16_MaskTexts_15) (.seq (.ops A_lexiconlaw16_MaskTexts_16) (.seq (.ops A_lexiconlaw16_MaskTexts_17) (.seq (.seq (.ops A_lexiconlaw16_MaskTexts_18) (.cond (.t 132) (.seq (.ops A_lexiconlaw16_MaskTexts_19) (.seq (.ops A_lexiconlaw16_MaskTexts_20) (.seq (.ops A_lexiconlaw16_MaskTexts_21) (.cond (.t 146) (.seq (.ops [o_ 4 (.mov (.c (.bool false)))]) .ret) .skip)))) .skip)) (.seq (.ops A_lexiconlaw16_MaskTexts_22) .ret)))))))))))))))))))))
def R_lexiconlaw16_MaskTexts : List ARes := [.tmp 4]
theorem C_lexiconlaw16_MaskTexts : compF Tryz.prog Tryz.f4 = some (A_lexiconlaw16_MaskTexts, R_lexiconlaw16_MaskTexts) := by kernel_rfl
theorem K_lexiconlaw16_MaskTexts {md : Bool} {args : List AV} {h : Hp} {Q : Res → Hp → Prop} (hl : LCode Tryz.prog md A_lexiconlaw16_MaskTexts (EndQ R_lexiconlaw16_MaskTexts Q) (env0 149 args) h) (hn : args.length ≤ 149 := by (simp; done)) : CallL Tryz.prog F_lexiconlaw16_MaskTexts args h Q :=
  CallL.of (md := md) Tryz.func4 C_lexiconlaw16_MaskTexts (by rw [Tryz.ntmps4]; exact hn) (by rw [Tryz.ntmps4]; exact hl)

-- (*strings.Builder).Grow
abbrev F_strings_Builder_Grow : Nat := 74
def A_strings_Builder_Grow_0 : List AOper := [mv 4 0, o_ 5 (.call 97 [(.t 4)])]
def A_strings_Builder_Grow_1 : List AOper := [mv 6 1, o_ 7 (.bini .lss (.t 6) (i_ 0))]
def A_strings_Builder_Grow_2 : List AOper := [o_ 8 (.mkifc 9 (.c (.str [115, 116, 114, 105, 110, 103, 115, 46, 66, 117, 105, 108, 100, 101, 114, 46, 71, 114, 111, 119, 58, 32, 110, 101, 103, 97, 116, 105, 118, 101, 32, 99, 111, 117, 110, 116]))), n_ (.pan (.t 8))]
def A_strings_Builder_Grow_3 : List AOper := [mv 9 0, o_ 10 (.nilc (.t 9)), o_ 11 (.faddr 1 (.t 10)), o_ 12 (.ld1 (.t 11)), o_ 13 (.capk (.t 12)), mv 14 0, o_ 15 (.nilc (.t 14)), o_ 16 (.faddr 1 (.t 15)), o_ 17 (.ld1 (.t 16)), o_ 18 (.lenl (.t 17)), o_ 19 (.bini .sub (.t 13) (.t 18)), mv 20 1, o_ 21 (.bini .lss (.t 19) (.t 20))]
def A_strings_Builder_Grow_4 : List AOper := [mv 22 0, mv 23 1, o_ 24 (.call 98 [(.t 22), (.t 23)])]
def A_strings_Builder_Grow : ACode := (.seq (.ops A_strings_Builder_Grow_0) (.seq (.seq (.ops A_strings_Builder_Grow_1) (.cond (.t 7) (.ops A_strings_Builder_Grow_2) .skip)) (.seq (.alts [9, 10, 11, 12, 13, 14, 15, 16, 17, 18, 19, 20, 21] [A_strings_Builder_Grow_3]) (.cond (.t 21) (.ops A_strings_Builder_Grow_4) .skip))))
def R_strings_Builder_Grow : List ARes := []
theorem C_strings_Builder_Grow : compF Tryz.prog Tryz.f74 = some (A_strings_Builder_Grow, R_strings_Builder_Grow) := by kernel_rfl
theorem K_strings_Builder_Grow {md : Bool} {args : List AV} {h : Hp} {Q : Res → Hp → Prop} (hl : LCode Tryz.prog md A_strings_Builder_Grow (EndQ R_strings_Builder_Grow Q) (env0 25 args) h) (hn : args.length ≤ 25 := by (simp; done)) : CallL Tryz.prog F_strings_Builder_Grow args h Q :=
  CallL.of (md := md) Tryz.func74 C_strings_Builder_Grow (by rw [Tryz.ntmps74]; exact hn) (by rw [Tryz.ntmps74]; exact hl)

-- (*strings.Builder).grow
abbrev F_strings_Builder_grow : Nat := 98
def A_strings_Builder_grow_0 : List AOper := [mv 5 0, o_ 6 (.nilc (.t 5)), o_ 7 (.faddr 1 (.t 6)), o_ 8 (.ld1 (.t 7)), o_ 9 (.capk (.t 8)), o_ 10 (.bini .mul (i_ 2) (.t 9)), mv 11 1, o_ 12 (.bini .add (.t 10) (.t 11)), mv 14 0, o_ 15 (.nilc (.t 14)), o_ 16 (.faddr 1 (.t 15)), o_ 17 (.ld1 (.t 16)), o_ 18 (.lenl (.t 17)), o_ 13 (.mnz 5 (.t 12)), o_ 19 (.slcl 5 1 (.t 13) none (some (.t 18)) none), mv 4 19]
def A_strings_Builder_grow_1 : List AOper := [mv 20 4, mv 21 0, o_ 22 (.nilc (.t 21)), o_ 23 (.faddr 1 (.t 22)), o_ 24 (.ld1 (.t 23)), o_ 25 (.cpy 5 1 (.t 20) (.t 24))]
def A_strings_Builder_grow_2 : List AOper := [mv 26 0, mv 27 4, o_ 28 (.nilc (.t 26)), o_ 29 (.faddr 1 (.t 28)), n_ (.st 1 (.t 29) (.t 27))]
def A_strings_Builder_grow : ACode := (.seq (.alts [5, 6, 7, 8, 9, 10, 11, 12, 13, 14, 15, 16, 17, 18, 19, 4] [A_strings_Builder_grow_0]) (.seq (.ops A_strings_Builder_grow_1) (.ops A_strings_Builder_grow_2)))
def R_strings_Builder_grow : List ARes := []
theorem C_strings_Builder_grow : compF Tryz.prog Tryz.f98 = some (A_strings_Builder_grow, R_strings_Builder_grow) := by kernel_rfl
theorem K_strings_Builder_grow {md : Bool} {args : List AV} {h : Hp} {Q : Res → Hp → Prop} (hl : LCode Tryz.prog md A_strings_Builder_grow (EndQ R_strings_Builder_grow Q) (env0 30 args) h) (hn : args.length ≤ 30 := by (simp; done)) : CallL Tryz.prog F_strings_Builder_grow args h Q :=
  CallL.of (md := md) Tryz.func98 C_strings_Builder_grow (by rw [Tryz.ntmps98]; exact hn) (by rw [Tryz.ntmps98]; exact hl)

-- (*strings.Builder).copyCheck
abbrev F_strings_Builder_copyCheck : Nat := 97
def A_strings_Builder_copyCheck_0 : List AOper := [mv 2 0, o_ 3 (.nilc (.t 2)), o_ 4 (.faddr 0 (.t 3)), o_ 5 (.ld1 (.t 4)), o_ 6 (.isnil .pt false (.t 5))]
def A_strings_Builder_copyCheck_1 : List AOper := [mv 7 0, mv 8 0, o_ 9 (.upc (.t 8)), mv 10 9, o_ 11 (.upt 177 (.t 10)), o_ 12 (.nilc (.t 7)), o_ 13 (.faddr 0 (.t 12)), n_ (.st 1 (.t 13) (.t 11))]
def A_strings_Builder_copyCheck_2 : List AOper := [mv 14 0, o_ 15 (.nilc (.t 14)), o_ 16 (.faddr 0 (.t 15)), o_ 17 (.ld1 (.t 16)), mv 18 0, o_ 19 (.peq true (.t 17) (.t 18))]
def A_strings_Builder_copyCheck : ACode := (.seq (.ops A_strings_Builder_copyCheck_0) (.cond (.t 6) (.ops A_strings_Builder_copyCheck_1) (.seq (.ops A_strings_Builder_copyCheck_2) (.cond (.t 19) .bad .skip))))
def R_strings_Builder_copyCheck : List ARes := []
theorem C_strings_Builder_copyCheck : compF Tryz.prog Tryz.f97 = some (A_strings_Builder_copyCheck, R_strings_Builder_copyCheck) := by kernel_rfl
theorem K_strings_Builder_copyCheck {md : Bool} {args : List AV} {h : Hp} {Q : Res → Hp → Prop} (hl : LCode Tryz.prog md A_strings_Builder_copyCheck (EndQ R_strings_Builder_copyCheck Q) (env0 20 args) h) (hn : args.length ≤ 20 := by (simp; done)) : CallL Tryz.prog F_strings_Builder_copyCheck args h Q :=
  CallL.of (md := md) Tryz.func97 C_strings_Builder_copyCheck (by rw [Tryz.ntmps97]; exact hn) (by rw [Tryz.ntmps97]; exact hl)

-- (*strings.Builder).WriteString
abbrev F_strings_Builder_WriteString : Nat := 75
def A_strings_Builder_WriteString_0 : List AOper := [o_ 4 (.mov (i_ 0)), o_ 5 (.mov (.c (.nili)))]
def A_strings_Builder_WriteString_1 : List AOper := [mv 6 0, o_ 7 (.call 97 [(.t 6)])]
def A_strings_Builder_WriteString_2 : List AOper := [mv 8 0, mv 9 0, o_ 10 (.nilc (.t 9)), o_ 11 (.faddr 1 (.t 10)), o_ 12 (.ld1 (.t 11)), mv 13 1, o_ 14 (.app 5 1 1 (.t 12) (.t 13)), o_ 15 (.nilc (.t 8)), o_ 16 (.faddr 1 (.t 15)), n_ (.st 1 (.t 16) (.t 14))]
def A_strings_Builder_WriteString_3 : List AOper := [mv 17 1, o_ 18 (.lens (.t 17)), mv 4 18, o_ 5 (.mov (.c (.nili)))]
def A_strings_Builder_WriteString : ACode := (.seq (.ops A_strings_Builder_WriteString_0) (.seq (.ops A_strings_Builder_WriteString_1) (.seq (.ops A_strings_Builder_WriteString_2) (.seq (.ops A_strings_Builder_WriteString_3) .ret))))
def R_strings_Builder_WriteString : List ARes := [.tmp 4, .tmp 5]
theorem C_strings_Builder_WriteString : compF Tryz.prog Tryz.f75 = some (A_strings_Builder_WriteString, R_strings_Builder_WriteString) := by kernel_rfl
theorem K_strings_Builder_WriteString {md : Bool} {args : List AV} {h : Hp} {Q : Res → Hp → Prop} (hl : LCode Tryz.prog md A_strings_Builder_WriteString (EndQ R_strings_Builder_WriteString Q) (env0 19 args) h) (hn : args.length ≤ 19 := by (simp; done)) : CallL Tryz.prog F_strings_Builder_WriteString args h Q :=
  CallL.of (md := md) Tryz.func75 C_strings_Builder_WriteString (by rw [Tryz.ntmps75]; exact hn) (by rw [Tryz.ntmps75]; exact hl)

-- (*strings.Builder).String
abbrev F_strings_Builder_String : Nat := 76
def A_strings_Builder_String_0 : List AOper := [mv 3 0, o_ 4 (.nilc (.t 3)), o_ 5 (.faddr 1 (.t 4)), o_ 6 (.ld1 (.t 5)), o_ 7 (.usd (.t 6)), mv 8 0, o_ 9 (.nilc (.t 8)), o_ 10 (.faddr 1 (.t 9)), o_ 11 (.ld1 (.t 10)), o_ 12 (.lenl (.t 11)), o_ 13 (.ustr 5 (.t 7) (.t 12)), mv 2 13]
def A_strings_Builder_String : ACode := (.seq (.ops [o_ 2 (.mov (.c (.str [])))]) (.seq (.alts [3, 4, 5, 6, 7, 8, 9, 10, 11, 12, 13, 2] [A_strings_Builder_String_0]) .ret))
def R_strings_Builder_String : List ARes := [.tmp 2]
theorem C_strings_Builder_String : compF Tryz.prog Tryz.f76 = some (A_strings_Builder_String, R_strings_Builder_String) := by kernel_rfl
theorem K_strings_Builder_String {md : Bool} {args : List AV} {h : Hp} {Q : Res → Hp → Prop} (hl : LCode Tryz.prog md A_strings_Builder_String (EndQ R_strings_Builder_String Q) (env0 14 args) h) (hn : args.length ≤ 14 := by (simp; done)) : CallL Tryz.prog F_strings_Builder_String args h Q :=
  CallL.of (md := md) Tryz.func76 C_strings_Builder_String (by rw [Tryz.ntmps76]; exact hn) (by rw [Tryz.ntmps76]; exact hl)

-- lexicon/lexiconref02.letter
abbrev F_lexiconref02_letter : Nat := 95
def A_lexiconref02_letter_0 : List AOper := [mv 3 0, o_ 4 (.call 110 [(.t 3)]), mv 5 4, ⟨some 6, .mov (.t 0), some (5, false)⟩, ⟨some 7, .call 111 [(.t 6)], some (5, false)⟩, o_ 8 (.pick (.t 5) (.c (.bool true)) (.t 7)), mv 9 8, ⟨some 10, .mov (.t 0), some (9, false)⟩, ⟨some 11, .bini .eql (.t 10) (.c (.int .u8 (95))), some (9, false)⟩, o_ 12 (.pick (.t 9) (.c (.bool true)) (.t 11)), mv 2 12]
def A_lexiconref02_letter : ACode := (.seq (.ops [o_ 2 (.mov (.c (.bool false)))]) (.seq (.ops A_lexiconref02_letter_0) .ret))
def R_lexiconref02_letter : List ARes := [.tmp 2]
theorem C_lexiconref02_letter : compF Tryz.prog Tryz.f95 = some (A_lexiconref02_letter, R_lexiconref02_letter) := by kernel_rfl
theorem K_lexiconref02_letter {md : Bool} {args : List AV} {h : Hp} {Q : Res → Hp → Prop} (hl : LCode Tryz.prog md A_lexiconref02_letter (EndQ R_lexiconref02_letter Q) (env0 13 args) h) (hn : args.length ≤ 13 := by (simp; done)) : CallL Tryz.prog F_lexiconref02_letter args h Q :=
  CallL.of (md := md) Tryz.func95 C_lexiconref02_letter (by rw [Tryz.ntmps95]; exact hn) (by rw [Tryz.ntmps95]; exact hl)

-- lexicon/lexiconref02.digit
abbrev F_lexiconref02_digit : Nat := 96
def A_lexiconref02_digit_0 : List AOper := [mv 3 0, o_ 4 (.call 112 [(.t 3), (.c (.int .u8 (48))), (.c (.int .u8 (57)))]), mv 2 4]
def A_lexiconref02_digit : ACode := (.seq (.ops [o_ 2 (.mov (.c (.bool false)))]) (.seq (.ops A_lexiconref02_digit_0) .ret))
def R_lexiconref02_digit : List ARes := [.tmp 2]
theorem C_lexiconref02_digit : compF Tryz.prog Tryz.f96 = some (A_lexiconref02_digit, R_lexiconref02_digit) := by kernel_rfl
theorem K_lexiconref02_digit {md : Bool} {args : List AV} {h : Hp} {Q : Res → Hp → Prop} (hl : LCode Tryz.prog md A_lexiconref02_digit (EndQ R_lexiconref02_digit Q) (env0 5 args) h) (hn : args.length ≤ 5 := by (simp; done)) : CallL Tryz.prog F_lexiconref02_digit args h Q :=
  CallL.of (md := md) Tryz.func96 C_lexiconref02_digit (by rw [Tryz.ntmps96]; exact hn) (by rw [Tryz.ntmps96]; exact hl)

-- lexicon/lexiconref02.small
abbrev F_lexiconref02_small : Nat := 110
def A_lexiconref02_small_0 : List AOper := [mv 3 0, o_ 4 (.call 112 [(.t 3), (.c (.int .u8 (97))), (.c (.int .u8 (122)))]), mv 2 4]
def A_lexiconref02_small : ACode := (.seq (.ops [o_ 2 (.mov (.c (.bool false)))]) (.seq (.ops A_lexiconref02_small_0) .ret))
def R_lexiconref02_small : List ARes := [.tmp 2]
theorem C_lexiconref02_small : compF Tryz.prog Tryz.f110 = some (A_lexiconref02_small, R_lexiconref02_small) := by kernel_rfl
theorem K_lexiconref02_small {md : Bool} {args : List AV} {h : Hp} {Q : Res → Hp → Prop} (hl : LCode Tryz.prog md A_lexiconref02_small (EndQ R_lexiconref02_small Q) (env0 5 args) h) (hn : args.length ≤ 5 := by (simp; done)) : CallL Tryz.prog F_lexiconref02_small args h Q :=
  CallL.of (md := md) Tryz.func110 C_lexiconref02_small (by rw [Tryz.ntmps110]; exact hn) (by rw [Tryz.ntmps110]; exact hl)

-- lexicon/lexiconref02.capital
abbrev F_lexiconref02_capital : Nat := 111
def A_lexiconref02_capital_0 : List AOper := [mv 3 0, o_ 4 (.call 112 [(.t 3), (.c (.int .u8 (65))), (.c (.int .u8 (90)))]), mv 2 4]
def A_lexiconref02_capital : ACode := (.seq (.ops [o_ 2 (.mov (.c (.bool false)))]) (.seq (.ops A_lexiconref02_capital_0) .ret))
def R_lexiconref02_capital : List ARes := [.tmp 2]
theorem C_lexiconref02_capital : compF Tryz.prog Tryz.f111 = some (A_lexiconref02_capital, R_lexiconref02_capital) := by kernel_rfl
theorem K_lexiconref02_capital {md : Bool} {args : List AV} {h : Hp} {Q : Res → Hp → Prop} (hl : LCode Tryz.prog md A_lexiconref02_capital (EndQ R_lexiconref02_capital Q) (env0 5 args) h) (hn : args.length ≤ 5 := by (simp; done)) : CallL Tryz.prog F_lexiconref02_capital args h Q :=
  CallL.of (md := md) Tryz.func111 C_lexiconref02_capital (by rw [Tryz.ntmps111]; exact hn) (by rw [Tryz.ntmps111]; exact hl)

-- lexicon/lexiconref02.in
abbrev F_lexiconref02_in : Nat := 112
def A_lexiconref02_in_0 : List AOper := [mv 7 0, mv 8 1, o_ 9 (.bini .geq (.t 7) (.t 8)), mv 10 9, g_ 11 (.mov (.t 0)) 10, g_ 12 (.mov (.t 2)) 10, g_ 13 (.bini .leq (.t 11) (.t 12)) 10, o_ 14 (.pick (.t 10) (.t 13) (.c (.bool false))), mv 6 14]
def A_lexiconref02_in : ACode := (.seq (.ops [o_ 6 (.mov (.c (.bool false)))]) (.seq (.ops A_lexiconref02_in_0) .ret))
def R_lexiconref02_in : List ARes := [.tmp 6]
theorem C_lexiconref02_in : compF Tryz.prog Tryz.f112 = some (A_lexiconref02_in, R_lexiconref02_in) := by kernel_rfl
theorem K_lexiconref02_in {md : Bool} {args : List AV} {h : Hp} {Q : Res → Hp → Prop} (hl : LCode Tryz.prog md A_lexiconref02_in (EndQ R_lexiconref02_in Q) (env0 15 args) h) (hn : args.length ≤ 15 := by (simp; done)) : CallL Tryz.prog F_lexiconref02_in args h Q :=
  CallL.of (md := md) Tryz.func112 C_lexiconref02_in (by rw [Tryz.ntmps112]; exact hn) (by rw [Tryz.ntmps112]; exact hl)
end Go.Proofs.YtibdeeejjbmgcaaGreatDoor

/-
  Contracts: prefixes, functions over a list of texts.
-/
namespace Go.Proofs.YtibdeeejjbmgcaaGreatDoor
open Go.L

def el (s : Str) : List AV := [.str s]
abbrev tx (l : List Str) : List (List AV) := l.map el
theorem tx_len (l : List Str) : (tx l).length = l.length := List.length_map ..

theorem noidss_tx (p : Nat → Bool) (l : List Str) : noidss p (tx l) = true := by
  induction l with
  | nil => rfl
  | cons a l ih => simpa [noidss, noids, noid, el] using ih

theorem HasPrefix_L (s p : Str) : PureL Tryz.prog F_internal_stringslite_HasPrefix [.str s, .str p] (.bool (p.isPrefixOf s)) := by
  intro h
  refine K_internal_stringslite_HasPrefix (md := false) ?_
  refine s_le (fun h1 => ?_) (fun h1 => ?_)
  · refine ⟨p.length, rfl, Nat.zero_le _, by omega, ?_⟩
    refine s_b ?_
    refine ⟨rfl, Res.bool_eq ?_, rfl⟩
    rw [List.drop_zero, Bool.eq_iff_iff, beq_iff_eq, List.isPrefixOf_iff_prefix, List.prefix_iff_eq_take]
    exact eq_comm
  · refine ⟨rfl, Res.bool_eq ?_, rfl⟩
    symm
    rw [Bool.eq_false_iff]
    intro hp
    have := (List.isPrefixOf_iff_prefix.1 hp).length_le
    omega

/-- What CutPrefix gives. -/
def cutP (s p : Str) : AV := .tup [.str (bif p.isPrefixOf s then s.drop p.length else s), .bool (p.isPrefixOf s)]

theorem lite_CutPrefix_L (s p : Str) : PureL Tryz.prog F_internal_stringslite_CutPrefix [.str s, .str p] (cutP s p) := by
  intro h
  refine K_internal_stringslite_CutPrefix (md := false) ?_
  refine (HasPrefix_L s p).useC (fun h1 => ?_) (fun h1 => ?_)
  · have := (List.isPrefixOf_iff_prefix.1 h1).length_le
    refine ⟨p.length, rfl, this, Nat.le_refl _, ?_⟩
    refine ⟨rfl, ?_, rfl⟩
    rw [List.take_length, cutP, h1]; rfl
  · refine ⟨rfl, ?_, rfl⟩
    rw [cutP, h1]; rfl

theorem CutPrefix_L (s p : Str) : PureL Tryz.prog F_strings_CutPrefix [.str s, .str p] (cutP s p) := by
  intro h
  refine K_strings_CutPrefix (md := false) ?_
  refine (lite_CutPrefix_L s p).use ?_
  exact ⟨_, rfl, _, rfl, rfl, rfl, rfl⟩

theorem byte46 (c : UInt8) : ((c.toNat : Int) == 46) = (c == 46) := by
  rw [Bool.eq_iff_iff]
  simp only [beq_iff_eq]
  constructor
  · intro h
    have : c.toNat = 46 := by omega
    exact UInt8.toNat_inj.1 this
  · rintro rfl; rfl

theorem covers_L (p q : Str) : PureL Tryz.prog F_mask_covers [.str p, .str q] (.bool (covers p q)) := by
  intro h
  refine K_mask_covers (md := false) ?_
  refine (CutPrefix_L q p).use ?_
  refine ⟨_, rfl, _, rfl, ?_⟩
  cases hpq : p.isPrefixOf q
  · exact ⟨rfl, Res.bool_eq (by rw [covers, hpq]; rfl), rfl⟩
  refine s_seq (fun h1 => ?_) (fun h1 => ?_)
  · exact ⟨rfl, Res.bool_eq (by rw [covers, hpq, show q.drop p.length = [] from h1]; rfl), rfl⟩
  obtain ⟨c, r, hr⟩ : ∃ c r, q.drop p.length = c :: r := by
    cases hd : q.drop p.length with
    | nil => exact absurd hd h1
    | cons c r => exact ⟨c, r, rfl⟩
  refine ⟨0, c, rfl, by show (q.drop p.length)[0]? = _; rw [hr]; rfl, ?_⟩
  refine s_b ?_
  exact ⟨rfl, Res.bool_eq (by rw [covers, hpq, hr, byte46]; rfl), rfl⟩

/-- The first place. -/
def idxF (p : Str → Bool) (l : List Str) : Int := match l.findIdx? p with
  | some k => (k : Nat)
  | none => -1

theorem idx_step {p : Str → Bool} {l : List Str} {k : Nat} {x : Str} (hall : ∀ (j : Nat) (x : Str), j < k → l[j]? = some x → p x = false) (hx : l[k]? = some x) (hpx : p x = false) :
    ∀ (j : Nat) (x : Str), j < k + 1 → l[j]? = some x → p x = false := fun j y hj hy => by
  by_cases e : j = k
  · subst e; rw [hx] at hy; cases hy; exact hpx
  · exact hall j y (by omega) hy
theorem idxF_at {p : Str → Bool} {l : List Str} {k : Nat} {x : Str} (hall : ∀ (j : Nat) (x : Str), j < k → l[j]? = some x → p x = false) (hx : l[k]? = some x) (hpx : p x = true) : ((k : Nat) : Int) = idxF p l := by
  have : l.findIdx? p = some k := by
    rw [List.findIdx?_eq_some_iff_getElem]
    obtain ⟨hlt, hx'⟩ := List.getElem?_eq_some_iff.1 hx
    refine ⟨hlt, by rw [hx']; exact hpx, fun j hj => ?_⟩
    have := hall j l[j] hj (List.getElem?_eq_getElem _)
    simp [this]
  rw [idxF, this]
theorem idxF_end {p : Str → Bool} {l : List Str} {k : Nat} (hk : l.length ≤ k) (hall : ∀ (j : Nat) (x : Str), j < k → l[j]? = some x → p x = false) : (-1 : Int) = idxF p l := by
  have : l.findIdx? p = none := by
    rw [List.findIdx?_eq_none_iff]
    intro x hx
    obtain ⟨j, hj⟩ := List.getElem?_of_mem hx
    have hjl : j < l.length := (List.getElem?_eq_some_iff.1 hj).1
    exact hall j x (by omega) hj
  rw [idxF, this]

theorem IndexFunc_L (g : Nat) (l : List Str) (F : FuncId) (first cap : List AV) (p : Str → Bool) (hb : HasBody Tryz.prog F) (h : Hp)
    (hp : ∀ s ∈ l, CallL Tryz.prog F (first ++ [.str s] ++ cap) h fun r h' => r = .ret (.bool (p s)) ∧ h' = h) (hl : l.length ≤ 1000000000000) :
    CallL Tryz.prog F_slices_IndexFunc [.isl g (tx l), .func (.func F) first cap] h fun r h' => r = .ret (.int .i64 (idxF p l)) ∧ h' = h := by
  refine K_slices_IndexFunc (md := false) ?_
  refine s_loop l.length (fun k (_ : Unit) => k ≤ l.length ∧ ∀ (j : Nat) (x : Str), j < k → l[j]? = some x → p x = false) (fun k _ => [(0, .isl g (tx l)), (1, .func (.func F) first cap), (7, .int .i64 (tx l).length), (8, .int .i64 k)]) (fun _ _ => h) ()
    ⟨Nat.zero_le _, fun j x hj => by omega⟩ rfl rfl ⟨rfl, rfl, rfl, rfl, trivial⟩ (fun k s hI => hI.1) ?_
  intro k _ n0 g0 hk ⟨_, hall⟩
  have htl := tx_len l
  refine s_lt (fun h1 => ?_) (fun h1 => ?_)
  · obtain ⟨x, hx⟩ := get_lt (l := l) (k := k) (by omega)
    refine s_at k x rfl hx rfl (by decide) ?_
    refine ⟨_, rfl, ?_⟩
    refine ⟨hb, (hp x (List.mem_of_getElem? hx)).mono ?_⟩
    rintro r h' ⟨rfl, rfl⟩
    cases hpx : p x
    · refine s_nat (k + 1) (by omega) (by omega) ?_
      exact ⟨(), by omega, ⟨by omega, idx_step hall hx hpx⟩, rfl, rfl, rfl, rfl, rfl, rfl, trivial⟩
    · exact ⟨rfl, Res.int_eq (idxF_at hall hx hpx), rfl⟩
  · exact ⟨rfl, Res.int_eq (idxF_end (by omega) hall), rfl⟩

theorem idxF_any (p : Str → Bool) (l : List Str) : decide ((0 : Int) ≤ idxF p l) = l.any p := by
  unfold idxF
  cases h : l.findIdx? p with
  | some k =>
    have : l.any p = true := by
      obtain ⟨hlt, h1, _⟩ := List.findIdx?_eq_some_iff_getElem.1 h
      exact List.any_eq_true.2 ⟨_, List.getElem_mem _, h1⟩
    rw [this]; exact decide_eq_true (show (0 : Int) ≤ (k : Nat) by omega)
  | none =>
    have : l.any p = false := by
      rw [List.any_eq_false]
      intro x hx
      simp [List.findIdx?_eq_none_iff.1 h x hx]
    rw [this]; rfl

theorem ContainsFunc_L (g : Nat) (l : List Str) (F : FuncId) (first cap : List AV) (p : Str → Bool) (hb : HasBody Tryz.prog F) (h : Hp)
    (hp : ∀ s ∈ l, CallL Tryz.prog F (first ++ [.str s] ++ cap) h fun r h' => r = .ret (.bool (p s)) ∧ h' = h) (hl : l.length ≤ 1000000000000) :
    CallL Tryz.prog F_slices_ContainsFunc [.isl g (tx l), .func (.func F) first cap] h fun r h' => r = .ret (.bool (l.any p)) ∧ h' = h := by
  refine K_slices_ContainsFunc (md := false) ?_
  refine (IndexFunc_L g l F first cap p hb h hp hl).mono ?_
  rintro r h' ⟨rfl, rfl⟩
  refine s_b ?_
  exact ⟨rfl, Res.bool_eq (idxF_any p l), rfl⟩

theorem HasBody.covers1 : HasBody Tryz.prog F_mask_Covers_c1 := ⟨_, Tryz.func33, by kernel_rfl, by kernel_rfl⟩

theorem Covers_L (g : Nat) (l : List Str) (q : Str) (hl : l.length ≤ 1000000000000) : PureL Tryz.prog F_mask_Covers [.isl g (tx l), .str q] (.bool (l.any fun p => covers p q)) := by
  refine PureL.nil (by simp [noids, noid, anyMark, noidss_tx]) ?_
  refine K_mask_Covers (md := false) ?_
  refine ⟨rfl, rfl, fun i hi => ?_⟩
  refine (ContainsFunc_L g l F_mask_Covers_c1 [] [.ptr i 0 0] (fun p => covers p q) HasBody.covers1 _ (fun s _ => ?_) hl).mono ?_
  · refine K_mask_Covers_c1 (md := false) ?_
    refine ⟨_, _, _, _, Hp.set_same _ _ _, rfl, rfl, ?_⟩
    refine (covers_L s q).use ?_
    exact ⟨rfl, rfl, rfl⟩
  · rintro r h' ⟨rfl, rfl⟩
    exact ⟨rfl, _, rfl, .same _ rfl⟩
end Go.Proofs.YtibdeeejjbmgcaaGreatDoor
