/- Contracts of functions of the given program, in the logic L: texts put together; no conditions. -/
import Derived.Test.YtibdeeejjbmgcaaGreatDoorZ3
import Derived.Test.YtibdeeejjbmgcaaGreatDoorProg
import Derived.KernelRfl
/- The codes of functions as the logic L has them; each is what the logic makes of the given program (by the kernel). Printed by program (gen_codes.py). -/
namespace Go.Proofs.YtibdeeejjbmgcaaGreatDoor
open Go.L

-- internal/stringslite.HasPrefix
abbrev F_internal_stringslite_HasPrefix : Nat := 105
def A_internal_stringslite_HasPrefix_0 : List AOper := [mv 5 0, o_ 6 (.lens (.t 5)), mv 7 1, o_ 8 (.lens (.t 7)), o_ 9 (.bini .geq (.t 6) (.t 8)), mv 10 9, g_ 11 (.mov (.t 0)) 10, g_ 12 (.mov (.t 1)) 10, g_ 13 (.lens (.t 12)) 10, g_ 14 (.slcs (.t 11) none (some (.t 13))) 10, g_ 15 (.mov (.t 1)) 10, g_ 16 (.bins .eql (.t 14) (.t 15)) 10, o_ 17 (.pick (.t 10) (.t 16) (.c (.bool false))), mv 4 17]
def A_internal_stringslite_HasPrefix : ACode := (.seq (.ops [o_ 4 (.mov (.c (.bool false)))]) (.seq (.ops A_internal_stringslite_HasPrefix_0) .ret))
def R_internal_stringslite_HasPrefix : List ARes := [.tmp 4]
theorem C_internal_stringslite_HasPrefix : compF Tryz.prog Tryz.f105 = some (A_internal_stringslite_HasPrefix, R_internal_stringslite_HasPrefix) := by kernel_rfl
theorem K_internal_stringslite_HasPrefix {md : Bool} {args : List AV} {h : Hp} {Q : Res → Hp → Prop} (hl : LCode Tryz.prog md A_internal_stringslite_HasPrefix (EndQ R_internal_stringslite_HasPrefix Q) (env0 18 args) h) (hn : args.length ≤ 18 := by (simp; done)) : CallL Tryz.prog F_internal_stringslite_HasPrefix args h Q :=
  CallL.of (md := md) Tryz.func105 C_internal_stringslite_HasPrefix (by rw [Tryz.ntmps105]; exact hn) (by rw [Tryz.ntmps105]; exact hl)

-- internal/stringslite.CutPrefix
abbrev F_internal_stringslite_CutPrefix : Nat := 88
def A_internal_stringslite_CutPrefix_0 : List AOper := [o_ 4 (.mov (.c (.str []))), o_ 5 (.mov (.c (.bool false)))]
def A_internal_stringslite_CutPrefix_1 : List AOper := [mv 6 0, mv 7 1, o_ 8 (.call 105 [(.t 6), (.t 7)]), o_ 9 (.not (.t 8))]
def A_internal_stringslite_CutPrefix_2 : List AOper := [mv 10 0, mv 4 10, o_ 5 (.mov (.c (.bool false)))]
def A_internal_stringslite_CutPrefix_3 : List AOper := [mv 11 0, mv 12 1, o_ 13 (.lens (.t 12)), o_ 14 (.slcs (.t 11) (some (.t 13)) none), mv 4 14, o_ 5 (.mov (.c (.bool true)))]
def A_internal_stringslite_CutPrefix : ACode := (.seq (.ops A_internal_stringslite_CutPrefix_0) (.seq (.seq (.ops A_internal_stringslite_CutPrefix_1) (.cond (.t 9) (.seq (.ops A_internal_stringslite_CutPrefix_2) .ret) .skip)) (.seq (.ops A_internal_stringslite_CutPrefix_3) .ret)))
def R_internal_stringslite_CutPrefix : List ARes := [.tmp 4, .tmp 5]
theorem C_internal_stringslite_CutPrefix : compF Tryz.prog Tryz.f88 = some (A_internal_stringslite_CutPrefix, R_internal_stringslite_CutPrefix) := by kernel_rfl
theorem K_internal_stringslite_CutPrefix {md : Bool} {args : List AV} {h : Hp} {Q : Res → Hp → Prop} (hl : LCode Tryz.prog md A_internal_stringslite_CutPrefix (EndQ R_internal_stringslite_CutPrefix Q) (env0 15 args) h) (hn : args.length ≤ 15 := by (simp; done)) : CallL Tryz.prog F_internal_stringslite_CutPrefix args h Q :=
  CallL.of (md := md) Tryz.func88 C_internal_stringslite_CutPrefix (by rw [Tryz.ntmps88]; exact hn) (by rw [Tryz.ntmps88]; exact hl)

-- strings.CutPrefix
abbrev F_strings_CutPrefix : Nat := 69
def A_strings_CutPrefix_0 : List AOper := [o_ 4 (.mov (.c (.str []))), o_ 5 (.mov (.c (.bool false)))]
def A_strings_CutPrefix_1 : List AOper := [mv 6 0, mv 7 1, o_ 8 (.call 88 [(.t 6), (.t 7)]), o_ 9 (.ext 0 (.t 8)), o_ 10 (.ext 1 (.t 8)), mv 4 9, mv 5 10]
def A_strings_CutPrefix : ACode := (.seq (.ops A_strings_CutPrefix_0) (.seq (.ops A_strings_CutPrefix_1) .ret))
def R_strings_CutPrefix : List ARes := [.tmp 4, .tmp 5]
theorem C_strings_CutPrefix : compF Tryz.prog Tryz.f69 = some (A_strings_CutPrefix, R_strings_CutPrefix) := by kernel_rfl
theorem K_strings_CutPrefix {md : Bool} {args : List AV} {h : Hp} {Q : Res → Hp → Prop} (hl : LCode Tryz.prog md A_strings_CutPrefix (EndQ R_strings_CutPrefix Q) (env0 11 args) h) (hn : args.length ≤ 11 := by (simp; done)) : CallL Tryz.prog F_strings_CutPrefix args h Q :=
  CallL.of (md := md) Tryz.func69 C_strings_CutPrefix (by rw [Tryz.ntmps69]; exact hn) (by rw [Tryz.ntmps69]; exact hl)

-- lexicon/mask.covers
abbrev F_mask_covers : Nat := 34
def A_mask_covers_0 : List AOper := [mv 8 1, mv 9 0, o_ 10 (.call 69 [(.t 8), (.t 9)]), mv 7 10, o_ 11 (.ext 0 (.t 7)), o_ 12 (.ext 1 (.t 7)), mv 5 11, mv 6 12]
def A_mask_covers_1 : List AOper := [mv 13 6, mv 14 13, g_ 15 (.mov (.t 5)) 14, g_ 16 (.bins .eql (.t 15) (.c (.str []))) 14, g_ 17 (.mov (.t 16)) 14, ⟨some 18, .mov (.t 5), some (17, false)⟩, ⟨some 19, .idxs (.t 18) (i_ 0), some (17, false)⟩, ⟨some 20, .bini .eql (.t 19) (.c (.int .u8 (46))), some (17, false)⟩, g_ 21 (.pick (.t 17) (.c (.bool true)) (.t 20)) 14, o_ 22 (.pick (.t 14) (.t 21) (.c (.bool false))), mv 4 22]
def A_mask_covers : ACode := (.seq (.ops [o_ 4 (.mov (.c (.bool false)))]) (.seq (.ops A_mask_covers_0) (.seq (.ops A_mask_covers_1) .ret)))
def R_mask_covers : List ARes := [.tmp 4]
theorem C_mask_covers : compF Tryz.prog Tryz.f34 = some (A_mask_covers, R_mask_covers) := by kernel_rfl
theorem K_mask_covers {md : Bool} {args : List AV} {h : Hp} {Q : Res → Hp → Prop} (hl : LCode Tryz.prog md A_mask_covers (EndQ R_mask_covers Q) (env0 23 args) h) (hn : args.length ≤ 23 := by (simp; done)) : CallL Tryz.prog F_mask_covers args h Q :=
  CallL.of (md := md) Tryz.func34 C_mask_covers (by rw [Tryz.ntmps34]; exact hn) (by rw [Tryz.ntmps34]; exact hl)

-- lexicon/mask.Covers$1
abbrev F_mask_Covers_c1 : Nat := 33
def A_mask_Covers_c1_0 : List AOper := [mv 4 0, o_ 5 (.ld1 (.t 1)), o_ 6 (.call 34 [(.t 4), (.t 5)]), mv 3 6]
def A_mask_Covers_c1 : ACode := (.seq (.ops [o_ 3 (.mov (.c (.bool false)))]) (.seq (.ops A_mask_Covers_c1_0) .ret))
def R_mask_Covers_c1 : List ARes := [.tmp 3]
theorem C_mask_Covers_c1 : compF Tryz.prog Tryz.f33 = some (A_mask_Covers_c1, R_mask_Covers_c1) := by kernel_rfl
theorem K_mask_Covers_c1 {md : Bool} {args : List AV} {h : Hp} {Q : Res → Hp → Prop} (hl : LCode Tryz.prog md A_mask_Covers_c1 (EndQ R_mask_Covers_c1 Q) (env0 7 args) h) (hn : args.length ≤ 7 := by (simp; done)) : CallL Tryz.prog F_mask_Covers_c1 args h Q :=
  CallL.of (md := md) Tryz.func33 C_mask_Covers_c1 (by rw [Tryz.ntmps33]; exact hn) (by rw [Tryz.ntmps33]; exact hl)

-- slices.IndexFunc[[]string,string]
abbrev F_slices_IndexFunc : Nat := 67
def A_slices_IndexFunc_0 : List AOper := [mv 6 0, o_ 7 (.lenl (.t 6)), o_ 8 (.mov (i_ 0))]
def A_slices_IndexFunc_1 : List AOper := [mv 10 8, mv 5 10]
def A_slices_IndexFunc_2 : List AOper := [mv 11 1, mv 12 0, mv 13 5, o_ 14 (.iaddr 9 1 (.t 12) (.t 13)), o_ 15 (.ld1 (.t 14)), o_ 16 (.callv (.t 11) [(.t 15)])]
def A_slices_IndexFunc_3 : List AOper := [mv 17 5, mv 4 17]
def A_slices_IndexFunc_4 : List AOper := [o_ 18 (.bini .add (.t 8) (i_ 1)), mv 8 18]
def A_slices_IndexFunc_5 : ACode := (.seq (.ops [o_ 9 (.bini .lss (.t 8) (.t 7))]) (.seq (.cond (.t 9) .skip (.exit 0)) (.seq (.block 1 (.seq (.ops A_slices_IndexFunc_1) (.seq (.ops A_slices_IndexFunc_2) (.cond (.t 16) (.seq (.ops A_slices_IndexFunc_3) .ret) .skip)))) (.ops A_slices_IndexFunc_4))))
def A_slices_IndexFunc : ACode := (.seq (.ops [o_ 4 (.mov (i_ 0))]) (.seq (.seq (.ops A_slices_IndexFunc_0) (.block 0 (.loop A_slices_IndexFunc_5))) (.seq (.ops [o_ 4 (.mov (i_ (-1)))]) .ret)))
def R_slices_IndexFunc : List ARes := [.tmp 4]
theorem C_slices_IndexFunc : compF Tryz.prog Tryz.f67 = some (A_slices_IndexFunc, R_slices_IndexFunc) := by kernel_rfl
theorem K_slices_IndexFunc {md : Bool} {args : List AV} {h : Hp} {Q : Res → Hp → Prop} (hl : LCode Tryz.prog md A_slices_IndexFunc (EndQ R_slices_IndexFunc Q) (env0 19 args) h) (hn : args.length ≤ 19 := by (simp; done)) : CallL Tryz.prog F_slices_IndexFunc args h Q :=
  CallL.of (md := md) Tryz.func67 C_slices_IndexFunc (by rw [Tryz.ntmps67]; exact hn) (by rw [Tryz.ntmps67]; exact hl)

-- slices.ContainsFunc[[]string,string]
abbrev F_slices_ContainsFunc : Nat := 32
def A_slices_ContainsFunc_0 : List AOper := [mv 5 0, mv 6 1, o_ 7 (.call 67 [(.t 5), (.t 6)]), o_ 8 (.bini .geq (.t 7) (i_ 0)), mv 4 8]
def A_slices_ContainsFunc : ACode := (.seq (.ops [o_ 4 (.mov (.c (.bool false)))]) (.seq (.ops A_slices_ContainsFunc_0) .ret))
def R_slices_ContainsFunc : List ARes := [.tmp 4]
theorem C_slices_ContainsFunc : compF Tryz.prog Tryz.f32 = some (A_slices_ContainsFunc, R_slices_ContainsFunc) := by kernel_rfl
theorem K_slices_ContainsFunc {md : Bool} {args : List AV} {h : Hp} {Q : Res → Hp → Prop} (hl : LCode Tryz.prog md A_slices_ContainsFunc (EndQ R_slices_ContainsFunc Q) (env0 9 args) h) (hn : args.length ≤ 9 := by (simp; done)) : CallL Tryz.prog F_slices_ContainsFunc args h Q :=
  CallL.of (md := md) Tryz.func32 C_slices_ContainsFunc (by rw [Tryz.ntmps32]; exact hn) (by rw [Tryz.ntmps32]; exact hl)

-- lexicon/mask.Covers
abbrev F_mask_Covers : Nat := 11
def A_mask_Covers_0 : List AOper := [o_ 3 (.box 9 1 (.t 1)), o_ 4 (.mov (.c (.bool false)))]
def A_mask_Covers_1 : List AOper := [mv 5 0, o_ 6 (.mkfn 33 [] [(.t 3)]), o_ 7 (.call 32 [(.t 5), (.t 6)]), mv 4 7]
def A_mask_Covers : ACode := (.seq (.ops A_mask_Covers_0) (.seq (.ops A_mask_Covers_1) .ret))
def R_mask_Covers : List ARes := [.tmp 4]
theorem C_mask_Covers : compF Tryz.prog Tryz.f11 = some (A_mask_Covers, R_mask_Covers) := by kernel_rfl
theorem K_mask_Covers {md : Bool} {args : List AV} {h : Hp} {Q : Res → Hp → Prop} (hl : LCode Tryz.prog md A_mask_Covers (EndQ R_mask_Covers Q) (env0 8 args) h) (hn : args.length ≤ 8 := by (simp; done)) : CallL Tryz.prog F_mask_Covers args h Q :=
  CallL.of (md := md) Tryz.func11 C_mask_Covers (by rw [Tryz.ntmps11]; exact hn) (by rw [Tryz.ntmps11]; exact hl)

-- slices.Clone[[]string,string]
abbrev F_slices_Clone : Nat := 25
def A_slices_Clone_0 : List AOper := [mv 3 0, o_ 4 (.isnilu false (.t 3))]
def A_slices_Clone_1 : List AOper := [o_ 5 (.bslice0 9), mv 6 0, o_ 7 (.app 9 1 16 (.t 5) (.t 6)), mv 2 7]
def A_slices_Clone : ACode := (.seq (.ops [o_ 2 (.mov (.c (.nils)))]) (.seq (.seq (.ops A_slices_Clone_0) (.cond (.t 4) (.seq (.ops [o_ 2 (.mov (.c (.nils)))]) .ret) .skip)) (.seq (.ops A_slices_Clone_1) .ret)))
def R_slices_Clone : List ARes := [.tmp 2]
theorem C_slices_Clone : compF Tryz.prog Tryz.f25 = some (A_slices_Clone, R_slices_Clone) := by kernel_rfl
theorem K_slices_Clone {md : Bool} {args : List AV} {h : Hp} {Q : Res → Hp → Prop} (hl : LCode Tryz.prog md A_slices_Clone (EndQ R_slices_Clone Q) (env0 8 args) h) (hn : args.length ≤ 8 := by (simp; done)) : CallL Tryz.prog F_slices_Clone args h Q :=
  CallL.of (md := md) Tryz.func25 C_slices_Clone (by rw [Tryz.ntmps25]; exact hn) (by rw [Tryz.ntmps25]; exact hl)

-- slices.Compact[[]string,string]
abbrev F_slices_Compact : Nat := 27
def A_slices_Compact_0 : List AOper := [mv 6 0, o_ 7 (.lenl (.t 6)), o_ 8 (.bini .lss (.t 7) (i_ 2))]
def A_slices_Compact_1 : List AOper := [mv 9 0, mv 2 9]
def A_slices_Compact_2 : List AOper := [mv 10 3, mv 11 0, o_ 12 (.lenl (.t 11)), o_ 13 (.bini .lss (.t 10) (.t 12))]
def A_slices_Compact_3 : List AOper := [mv 16 0, mv 17 3, o_ 18 (.iaddr 9 1 (.t 16) (.t 17)), o_ 19 (.ld1 (.t 18)), mv 20 0, mv 21 3, o_ 22 (.bini .sub (.t 21) (i_ 1)), o_ 23 (.iaddr 9 1 (.t 20) (.t 22)), o_ 24 (.ld1 (.t 23)), o_ 25 (.bins .eql (.t 19) (.t 24))]
def A_slices_Compact_4 : List AOper := [mv 26 0, mv 27 3, o_ 28 (.slcl 9 1 (.t 26) (some (.t 27)) none none), mv 4 28]
def A_slices_Compact_5 : List AOper := [mv 29 5, mv 30 4, o_ 31 (.lenl (.t 30)), o_ 32 (.bini .lss (.t 29) (.t 31))]
def A_slices_Compact_6 : List AOper := [mv 35 4, mv 36 5, o_ 37 (.iaddr 9 1 (.t 35) (.t 36)), o_ 38 (.ld1 (.t 37)), mv 39 4, mv 40 5, o_ 41 (.bini .sub (.t 40) (i_ 1)), o_ 42 (.iaddr 9 1 (.t 39) (.t 41)), o_ 43 (.ld1 (.t 42)), o_ 44 (.bins .neq (.t 38) (.t 43))]
def A_slices_Compact_7 : List AOper := [mv 45 0, mv 46 3, mv 47 4, mv 48 5, o_ 49 (.iaddr 9 1 (.t 47) (.t 48)), o_ 50 (.ld1 (.t 49)), o_ 51 (.iaddr 9 1 (.t 45) (.t 46)), n_ (.st 1 (.t 51) (.t 50))]
def A_slices_Compact_8 : List AOper := [mv 52 3, o_ 53 (.bini .add (.t 52) (i_ 1)), mv 3 53]
def A_slices_Compact_9 : List AOper := [mv 33 5, o_ 34 (.bini .add (.t 33) (i_ 1)), mv 5 34]
def A_slices_Compact_10 : ACode := (.seq (.seq (.ops A_slices_Compact_5) (.cond (.t 32) .skip (.exit 2))) (.seq (.block 3 (.seq (.alts [35, 36, 37, 38, 39, 40, 41, 42, 43, 44] [A_slices_Compact_6]) (.cond (.t 44) (.seq (.ops A_slices_Compact_7) (.ops A_slices_Compact_8)) .skip))) (.ops A_slices_Compact_9)))
def A_slices_Compact_11 : List AOper := [mv 54 0, mv 55 3, o_ 56 (.slcl 9 1 (.t 54) (some (.t 55)) none none), n_ (.clr 9 [.str []] (.t 56))]
def A_slices_Compact_12 : List AOper := [mv 57 0, mv 58 3, o_ 59 (.slcl 9 1 (.t 57) none (some (.t 58)) none), mv 2 59]
def A_slices_Compact_13 : List AOper := [mv 14 3, o_ 15 (.bini .add (.t 14) (i_ 1)), mv 3 15]
def A_slices_Compact_14 : ACode := (.seq (.seq (.ops A_slices_Compact_2) (.cond (.t 13) .skip (.exit 0))) (.seq (.block 1 (.seq (.alts [16, 17, 18, 19, 20, 21, 22, 23, 24, 25] [A_slices_Compact_3]) (.cond (.t 25) (.seq (.ops A_slices_Compact_4) (.seq (.seq (.ops [o_ 5 (.mov (i_ 1))]) (.block 2 (.loop A_slices_Compact_10))) (.seq (.ops A_slices_Compact_11) (.seq (.ops A_slices_Compact_12) .ret)))) .skip))) (.ops A_slices_Compact_13)))
def A_slices_Compact_15 : List AOper := [mv 60 0, mv 2 60]
def A_slices_Compact : ACode := (.seq (.ops [o_ 2 (.mov (.c (.nils)))]) (.seq (.seq (.ops A_slices_Compact_0) (.cond (.t 8) (.seq (.ops A_slices_Compact_1) .ret) .skip)) (.seq (.seq (.ops [o_ 3 (.mov (i_ 1))]) (.block 0 (.loop A_slices_Compact_14))) (.seq (.ops A_slices_Compact_15) .ret))))
def R_slices_Compact : List ARes := [.tmp 2]
theorem C_slices_Compact : compF Tryz.prog Tryz.f27 = some (A_slices_Compact, R_slices_Compact) := by kernel_rfl
theorem K_slices_Compact {md : Bool} {args : List AV} {h : Hp} {Q : Res → Hp → Prop} (hl : LCode Tryz.prog md A_slices_Compact (EndQ R_slices_Compact Q) (env0 61 args) h) (hn : args.length ≤ 61 := by (simp; done)) : CallL Tryz.prog F_slices_Compact args h Q :=
  CallL.of (md := md) Tryz.func27 C_slices_Compact (by rw [Tryz.ntmps27]; exact hn) (by rw [Tryz.ntmps27]; exact hl)

-- slices.Clip[[]string,string]
abbrev F_slices_Clip : Nat := 28
def A_slices_Clip_0 : List AOper := [mv 3 0, mv 4 0, o_ 5 (.lenl (.t 4)), mv 6 0, o_ 7 (.lenl (.t 6)), o_ 8 (.slcl 9 1 (.t 3) none (some (.t 5)) (some (.t 7))), mv 2 8]
def A_slices_Clip : ACode := (.seq (.ops [o_ 2 (.mov (.c (.nils)))]) (.seq (.ops A_slices_Clip_0) .ret))
def R_slices_Clip : List ARes := [.tmp 2]
theorem C_slices_Clip : compF Tryz.prog Tryz.f28 = some (A_slices_Clip, R_slices_Clip) := by kernel_rfl
theorem K_slices_Clip {md : Bool} {args : List AV} {h : Hp} {Q : Res → Hp → Prop} (hl : LCode Tryz.prog md A_slices_Clip (EndQ R_slices_Clip Q) (env0 9 args) h) (hn : args.length ≤ 9 := by (simp; done)) : CallL Tryz.prog F_slices_Clip args h Q :=
  CallL.of (md := md) Tryz.func28 C_slices_Clip (by rw [Tryz.ntmps28]; exact hn) (by rw [Tryz.ntmps28]; exact hl)

-- slices.DeleteFunc[[]string,string]
abbrev F_slices_DeleteFunc : Nat := 29
def A_slices_DeleteFunc_0 : List AOper := [mv 8 0, mv 9 1, o_ 10 (.call 67 [(.t 8), (.t 9)]), mv 5 10]
def A_slices_DeleteFunc_1 : List AOper := [mv 11 5, o_ 12 (.bini .eql (.t 11) (i_ (-1)))]
def A_slices_DeleteFunc_2 : List AOper := [mv 13 0, mv 4 13]
def A_slices_DeleteFunc_3 : List AOper := [mv 14 5, o_ 15 (.bini .add (.t 14) (i_ 1)), mv 6 15]
def A_slices_DeleteFunc_4 : List AOper := [mv 16 6, mv 17 0, o_ 18 (.lenl (.t 17)), o_ 19 (.bini .lss (.t 16) (.t 18))]
def A_slices_DeleteFunc_5 : List AOper := [mv 22 0, mv 23 6, o_ 24 (.iaddr 9 1 (.t 22) (.t 23)), o_ 25 (.ld1 (.t 24)), mv 7 25]
def A_slices_DeleteFunc_6 : List AOper := [mv 26 1, mv 27 7, o_ 28 (.callv (.t 26) [(.t 27)]), o_ 29 (.not (.t 28))]
def A_slices_DeleteFunc_7 : List AOper := [mv 30 0, mv 31 5, mv 32 7, o_ 33 (.iaddr 9 1 (.t 30) (.t 31)), n_ (.st 1 (.t 33) (.t 32))]
def A_slices_DeleteFunc_8 : List AOper := [mv 34 5, o_ 35 (.bini .add (.t 34) (i_ 1)), mv 5 35]
def A_slices_DeleteFunc_9 : List AOper := [mv 20 6, o_ 21 (.bini .add (.t 20) (i_ 1)), mv 6 21]
def A_slices_DeleteFunc_10 : ACode := (.seq (.seq (.ops A_slices_DeleteFunc_4) (.cond (.t 19) .skip (.exit 0))) (.seq (.block 1 (.seq (.ops A_slices_DeleteFunc_5) (.seq (.ops A_slices_DeleteFunc_6) (.cond (.t 29) (.seq (.ops A_slices_DeleteFunc_7) (.ops A_slices_DeleteFunc_8)) .skip)))) (.ops A_slices_DeleteFunc_9)))
def A_slices_DeleteFunc_11 : List AOper := [mv 36 0, mv 37 5, o_ 38 (.slcl 9 1 (.t 36) (some (.t 37)) none none), n_ (.clr 9 [.str []] (.t 38))]
def A_slices_DeleteFunc_12 : List AOper := [mv 39 0, mv 40 5, o_ 41 (.slcl 9 1 (.t 39) none (some (.t 40)) none), mv 4 41]
def A_slices_DeleteFunc : ACode := (.seq (.ops [o_ 4 (.mov (.c (.nils)))]) (.seq (.ops A_slices_DeleteFunc_0) (.seq (.seq (.ops A_slices_DeleteFunc_1) (.cond (.t 12) (.seq (.ops A_slices_DeleteFunc_2) .ret) .skip)) (.seq (.seq (.ops A_slices_DeleteFunc_3) (.block 0 (.loop A_slices_DeleteFunc_10))) (.seq (.ops A_slices_DeleteFunc_11) (.seq (.ops A_slices_DeleteFunc_12) .ret))))))
def R_slices_DeleteFunc : List ARes := [.tmp 4]
theorem C_slices_DeleteFunc : compF Tryz.prog Tryz.f29 = some (A_slices_DeleteFunc, R_slices_DeleteFunc) := by kernel_rfl
theorem K_slices_DeleteFunc {md : Bool} {args : List AV} {h : Hp} {Q : Res → Hp → Prop} (hl : LCode Tryz.prog md A_slices_DeleteFunc (EndQ R_slices_DeleteFunc Q) (env0 42 args) h) (hn : args.length ≤ 42 := by (simp; done)) : CallL Tryz.prog F_slices_DeleteFunc args h Q :=
  CallL.of (md := md) Tryz.func29 C_slices_DeleteFunc (by rw [Tryz.ntmps29]; exact hn) (by rw [Tryz.ntmps29]; exact hl)

-- slices.Grow[[]string,string]
abbrev F_slices_Grow : Nat := 68
def A_slices_Grow_0 : List AOper := [mv 5 1, o_ 6 (.bini .lss (.t 5) (i_ 0))]
def A_slices_Grow_1 : List AOper := [o_ 7 (.mkifc 9 (.c (.str [99, 97, 110, 110, 111, 116, 32, 98, 101, 32, 110, 101, 103, 97, 116, 105, 118, 101]))), n_ (.pan (.t 7))]
def A_slices_Grow_2 : List AOper := [mv 8 1, mv 9 0, o_ 10 (.capk (.t 9)), mv 11 0, o_ 12 (.lenl (.t 11)), o_ 13 (.bini .sub (.t 10) (.t 12)), o_ 14 (.bini .sub (.t 8) (.t 13)), mv 1 14]
def A_slices_Grow_3 : List AOper := [mv 15 1, o_ 16 (.bini .gtr (.t 15) (i_ 0))]
def A_slices_Grow_4 : List AOper := [mv 17 0, mv 18 0, o_ 19 (.capk (.t 18)), o_ 20 (.slcl 9 1 (.t 17) none (some (.t 19)) none), mv 21 1, o_ 22 (.appz 9 1 16 [.str []] (.t 20) (.t 21)), mv 23 0, o_ 24 (.lenl (.t 23)), o_ 25 (.slcl 9 1 (.t 22) none (some (.t 24)) none), mv 0 25]
def A_slices_Grow_5 : List AOper := [mv 26 0, mv 4 26]
def A_slices_Grow : ACode := (.seq (.ops [o_ 4 (.mov (.c (.nils)))]) (.seq (.seq (.ops A_slices_Grow_0) (.cond (.t 6) (.ops A_slices_Grow_1) .skip)) (.seq (.seq (.ops A_slices_Grow_2) (.seq (.ops A_slices_Grow_3) (.cond (.t 16) (.ops A_slices_Grow_4) .skip))) (.seq (.ops A_slices_Grow_5) .ret))))
def R_slices_Grow : List ARes := [.tmp 4]
theorem C_slices_Grow : compF Tryz.prog Tryz.f68 = some (A_slices_Grow, R_slices_Grow) := by kernel_rfl
theorem K_slices_Grow {md : Bool} {args : List AV} {h : Hp} {Q : Res → Hp → Prop} (hl : LCode Tryz.prog md A_slices_Grow (EndQ R_slices_Grow Q) (env0 27 args) h) (hn : args.length ≤ 27 := by (simp; done)) : CallL Tryz.prog F_slices_Grow args h Q :=
  CallL.of (md := md) Tryz.func68 C_slices_Grow (by rw [Tryz.ntmps68]; exact hn) (by rw [Tryz.ntmps68]; exact hl)

-- slices.Concat[[]string,string]
abbrev F_slices_Concat : Nat := 31
def A_slices_Concat_0 : List AOper := [mv 9 0, o_ 10 (.lenl (.t 9)), o_ 11 (.mov (i_ 0))]
def A_slices_Concat_1 : List AOper := [o_ 13 (.iaddr 22 1 (.t 9) (.t 11)), o_ 14 (.ld1 (.t 13)), mv 5 14]
def A_slices_Concat_2 : List AOper := [mv 15 3, mv 16 5, o_ 17 (.lenl (.t 16)), o_ 18 (.bini .add (.t 15) (.t 17)), mv 3 18]
def A_slices_Concat_3 : List AOper := [mv 19 3, o_ 20 (.bini .lss (.t 19) (i_ 0))]
def A_slices_Concat_4 : List AOper := [o_ 21 (.mkifc 9 (.c (.str [108, 101, 110, 32, 111, 117, 116, 32, 111, 102, 32, 114, 97, 110, 103, 101]))), n_ (.pan (.t 21))]
def A_slices_Concat_5 : List AOper := [o_ 22 (.bini .add (.t 11) (i_ 1)), mv 11 22]
def A_slices_Concat_6 : ACode := (.seq (.ops [o_ 12 (.bini .lss (.t 11) (.t 10))]) (.seq (.cond (.t 12) .skip (.exit 0)) (.seq (.block 1 (.seq (.ops A_slices_Concat_1) (.seq (.ops A_slices_Concat_2) (.seq (.ops A_slices_Concat_3) (.cond (.t 20) (.ops A_slices_Concat_4) .skip))))) (.ops A_slices_Concat_5))))
def A_slices_Concat_7 : List AOper := [mv 23 3, o_ 24 (.call 68 [(.c (.nils)), (.t 23)]), mv 6 24]
def A_slices_Concat_8 : List AOper := [mv 25 0, o_ 26 (.lenl (.t 25)), o_ 27 (.mov (i_ 0))]
def A_slices_Concat_9 : List AOper := [o_ 29 (.iaddr 22 1 (.t 25) (.t 27)), o_ 30 (.ld1 (.t 29)), mv 8 30]
def A_slices_Concat_10 : List AOper := [mv 31 6, mv 32 8, o_ 33 (.app 9 1 16 (.t 31) (.t 32)), mv 6 33]
def A_slices_Concat_11 : List AOper := [o_ 34 (.bini .add (.t 27) (i_ 1)), mv 27 34]
def A_slices_Concat_12 : ACode := (.seq (.ops [o_ 28 (.bini .lss (.t 27) (.t 26))]) (.seq (.cond (.t 28) .skip (.exit 2)) (.seq (.block 3 (.seq (.ops A_slices_Concat_9) (.ops A_slices_Concat_10))) (.ops A_slices_Concat_11))))
def A_slices_Concat_13 : List AOper := [mv 35 6, mv 2 35]
def A_slices_Concat : ACode := (.seq (.ops [o_ 2 (.mov (.c (.nils)))]) (.seq (.ops [o_ 3 (.mov (i_ 0))]) (.seq (.seq (.ops A_slices_Concat_0) (.block 0 (.loop A_slices_Concat_6))) (.seq (.ops A_slices_Concat_7) (.seq (.seq (.ops A_slices_Concat_8) (.block 2 (.loop A_slices_Concat_12))) (.seq (.ops A_slices_Concat_13) .ret))))))
def R_slices_Concat : List ARes := [.tmp 2]
theorem C_slices_Concat : compF Tryz.prog Tryz.f31 = some (A_slices_Concat, R_slices_Concat) := by kernel_rfl
theorem K_slices_Concat {md : Bool} {args : List AV} {h : Hp} {Q : Res → Hp → Prop} (hl : LCode Tryz.prog md A_slices_Concat (EndQ R_slices_Concat Q) (env0 36 args) h) (hn : args.length ≤ 36 := by (simp; done)) : CallL Tryz.prog F_slices_Concat args h Q :=
  CallL.of (md := md) Tryz.func31 C_slices_Concat (by rw [Tryz.ntmps31]; exact hn) (by rw [Tryz.ntmps31]; exact hl)

-- slices.Sort[[]string,string]
abbrev F_slices_Sort : Nat := 26
def A_slices_Sort_0 : List AOper := [mv 3 0, o_ 4 (.lenl (.t 3)), mv 2 4]
def A_slices_Sort_1 : List AOper := [mv 5 0, mv 6 2, mv 7 2, o_ 8 (.conv .u64 (.t 7)), o_ 9 (.call 66 [(.t 8)]), o_ 10 (.call 65 [(.t 5), (i_ 0), (.t 6), (.t 9)])]
def A_slices_Sort : ACode := (.seq (.ops A_slices_Sort_0) (.ops A_slices_Sort_1))
def R_slices_Sort : List ARes := []
theorem C_slices_Sort : compF Tryz.prog Tryz.f26 = some (A_slices_Sort, R_slices_Sort) := by kernel_rfl
theorem K_slices_Sort {md : Bool} {args : List AV} {h : Hp} {Q : Res → Hp → Prop} (hl : LCode Tryz.prog md A_slices_Sort (EndQ R_slices_Sort Q) (env0 11 args) h) (hn : args.length ≤ 11 := by (simp; done)) : CallL Tryz.prog F_slices_Sort args h Q :=
  CallL.of (md := md) Tryz.func26 C_slices_Sort (by rw [Tryz.ntmps26]; exact hn) (by rw [Tryz.ntmps26]; exact hl)

-- lexicon/mask.Normal$1
abbrev F_mask_Normal_c1 : Nat := 30
def A_mask_Normal_c1_0 : List AOper := [mv 5 0, o_ 6 (.lens (.t 5)), o_ 7 (.mov (i_ 0))]
def A_mask_Normal_c1_1 : List AOper := [mv 9 7, mv 4 9]
def A_mask_Normal_c1_2 : List AOper := [mv 10 0, mv 11 4, o_ 12 (.idxs (.t 10) (.t 11)), o_ 13 (.bini .eql (.t 12) (.c (.int .u8 (46)))), mv 14 13, g_ 15 (.ld1 (.t 1)) 14, g_ 16 (.mov (.t 0)) 14, g_ 17 (.mov (.t 4)) 14, g_ 18 (.slcs (.t 16) none (some (.t 17))) 14, g_ 19 (.mlook .s (.int .i64 (0)) false (.t 15) (.t 18)) 14, g_ 20 (.bini .gtr (.t 19) (i_ 0)) 14, o_ 21 (.pick (.t 14) (.t 20) (.c (.bool false)))]
def A_mask_Normal_c1_3 : List AOper := [o_ 22 (.bini .add (.t 7) (i_ 1)), mv 7 22]
def A_mask_Normal_c1_4 : ACode := (.seq (.ops [o_ 8 (.bini .lss (.t 7) (.t 6))]) (.seq (.cond (.t 8) .skip (.exit 0)) (.seq (.block 1 (.seq (.ops A_mask_Normal_c1_1) (.seq (.alts [10, 11, 12, 13, 14, 15, 16, 17, 18, 19, 20, 21] [A_mask_Normal_c1_2]) (.cond (.t 21) (.seq (.ops [o_ 3 (.mov (.c (.bool true)))]) .ret) .skip)))) (.ops A_mask_Normal_c1_3))))
def A_mask_Normal_c1 : ACode := (.seq (.ops [o_ 3 (.mov (.c (.bool false)))]) (.seq (.seq (.ops A_mask_Normal_c1_0) (.block 0 (.loop A_mask_Normal_c1_4))) (.seq (.ops [o_ 3 (.mov (.c (.bool false)))]) .ret)))
def R_mask_Normal_c1 : List ARes := [.tmp 3]
theorem C_mask_Normal_c1 : compF Tryz.prog Tryz.f30 = some (A_mask_Normal_c1, R_mask_Normal_c1) := by kernel_rfl
theorem K_mask_Normal_c1 {md : Bool} {args : List AV} {h : Hp} {Q : Res → Hp → Prop} (hl : LCode Tryz.prog md A_mask_Normal_c1 (EndQ R_mask_Normal_c1 Q) (env0 23 args) h) (hn : args.length ≤ 23 := by (simp; done)) : CallL Tryz.prog F_mask_Normal_c1 args h Q :=
  CallL.of (md := md) Tryz.func30 C_mask_Normal_c1 (by rw [Tryz.ntmps30]; exact hn) (by rw [Tryz.ntmps30]; exact hl)

-- lexicon/mask.Normal
abbrev F_mask_Normal : Nat := 8
def A_mask_Normal_0 : List AOper := [o_ 7 (.mkmap), o_ 3 (.box 62 1 (.c (.nilm))), n_ (.st 1 (.t 3) (.t 7))]
def A_mask_Normal_1 : List AOper := [mv 8 0, o_ 9 (.lenl (.t 8)), o_ 10 (.mov (i_ 0))]
def A_mask_Normal_2 : List AOper := [o_ 12 (.iaddr 9 1 (.t 8) (.t 10)), o_ 13 (.ld1 (.t 12)), mv 5 13]
def A_mask_Normal_3 : List AOper := [o_ 14 (.ld1 (.t 3)), mv 15 5, o_ 16 (.mlook .s (.int .i64 (0)) false (.t 14) (.t 15)), o_ 17 (.bini .add (.t 16) (i_ 1)), n_ (.mupd .s (.t 14) (.t 15) (.t 17))]
def A_mask_Normal_4 : List AOper := [o_ 18 (.bini .add (.t 10) (i_ 1)), mv 10 18]
def A_mask_Normal_5 : ACode := (.seq (.ops [o_ 11 (.bini .lss (.t 10) (.t 9))]) (.seq (.cond (.t 11) .skip (.exit 0)) (.seq (.block 1 (.seq (.ops A_mask_Normal_2) (.ops A_mask_Normal_3))) (.ops A_mask_Normal_4))))
def A_mask_Normal_6 : List AOper := [mv 19 0, o_ 20 (.call 25 [(.t 19)]), mv 6 20]
def A_mask_Normal_7 : List AOper := [mv 21 6, o_ 22 (.call 26 [(.t 21)])]
def A_mask_Normal_8 : List AOper := [mv 23 6, o_ 24 (.call 27 [(.t 23)]), mv 6 24]
def A_mask_Normal_9 : List AOper := [mv 25 6, o_ 26 (.mkfn 30 [] [(.t 3)]), o_ 27 (.call 29 [(.t 25), (.t 26)]), o_ 28 (.call 28 [(.t 27)]), mv 2 28]
def A_mask_Normal : ACode := (.seq (.ops [o_ 2 (.mov (.c (.nils)))]) (.seq (.ops A_mask_Normal_0) (.seq (.seq (.ops A_mask_Normal_1) (.block 0 (.loop A_mask_Normal_5))) (.seq (.ops A_mask_Normal_6) (.seq (.ops A_mask_Normal_7) (.seq (.ops A_mask_Normal_8) (.seq (.ops A_mask_Normal_9) .ret)))))))
def R_mask_Normal : List ARes := [.tmp 2]
theorem C_mask_Normal : compF Tryz.prog Tryz.f8 = some (A_mask_Normal, R_mask_Normal) := by kernel_rfl
theorem K_mask_Normal {md : Bool} {args : List AV} {h : Hp} {Q : Res → Hp → Prop} (hl : LCode Tryz.prog md A_mask_Normal (EndQ R_mask_Normal Q) (env0 29 args) h) (hn : args.length ≤ 29 := by (simp; done)) : CallL Tryz.prog F_mask_Normal args h Q :=
  CallL.of (md := md) Tryz.func8 C_mask_Normal (by rw [Tryz.ntmps8]; exact hn) (by rw [Tryz.ntmps8]; exact hl)

-- lexicon/mask.Union
abbrev F_mask_Union : Nat := 9
def A_mask_Union_0 : List AOper := [mv 5 0, mv 6 1, o_ 7 (.bslice 22 1 2 [.nils] [(0, 1, (.t 5)), (1, 1, (.t 6))]), o_ 8 (.call 31 [(.t 7)]), o_ 9 (.call 8 [(.t 8)]), mv 4 9]
def A_mask_Union : ACode := (.seq (.ops [o_ 4 (.mov (.c (.nils)))]) (.seq (.ops A_mask_Union_0) .ret))
def R_mask_Union : List ARes := [.tmp 4]
theorem C_mask_Union : compF Tryz.prog Tryz.f9 = some (A_mask_Union, R_mask_Union) := by kernel_rfl
theorem K_mask_Union {md : Bool} {args : List AV} {h : Hp} {Q : Res → Hp → Prop} (hl : LCode Tryz.prog md A_mask_Union (EndQ R_mask_Union Q) (env0 10 args) h) (hn : args.length ≤ 10 := by (simp; done)) : CallL Tryz.prog F_mask_Union args h Q :=
  CallL.of (md := md) Tryz.func9 C_mask_Union (by rw [Tryz.ntmps9]; exact hn) (by rw [Tryz.ntmps9]; exact hl)

-- lexicon/mask.Meet
abbrev F_mask_Meet : Nat := 10
def A_mask_Meet_0 : List AOper := [mv 10 0, o_ 11 (.lenl (.t 10)), o_ 12 (.mov (i_ 0))]
def A_mask_Meet_1 : List AOper := [o_ 14 (.iaddr 9 1 (.t 10) (.t 12)), o_ 15 (.ld1 (.t 14)), mv 7 15]
def A_mask_Meet_2 : List AOper := [mv 16 1, mv 17 7, o_ 18 (.call 11 [(.t 16), (.t 17)])]
def A_mask_Meet_3 : List AOper := [mv 19 5, mv 20 7, o_ 21 (.bslice 9 1 1 [.str []] [(0, 1, (.t 20))]), o_ 22 (.app 9 1 16 (.t 19) (.t 21)), mv 5 22]
def A_mask_Meet_4 : List AOper := [o_ 23 (.bini .add (.t 12) (i_ 1)), mv 12 23]
def A_mask_Meet_5 : ACode := (.seq (.ops [o_ 13 (.bini .lss (.t 12) (.t 11))]) (.seq (.cond (.t 13) .skip (.exit 0)) (.seq (.block 1 (.seq (.ops A_mask_Meet_1) (.seq (.ops A_mask_Meet_2) (.cond (.t 18) (.ops A_mask_Meet_3) .skip)))) (.ops A_mask_Meet_4))))
def A_mask_Meet_6 : List AOper := [mv 24 1, o_ 25 (.lenl (.t 24)), o_ 26 (.mov (i_ 0))]
def A_mask_Meet_7 : List AOper := [o_ 28 (.iaddr 9 1 (.t 24) (.t 26)), o_ 29 (.ld1 (.t 28)), mv 9 29]
def A_mask_Meet_8 : List AOper := [mv 30 0, mv 31 9, o_ 32 (.call 11 [(.t 30), (.t 31)])]
def A_mask_Meet_9 : List AOper := [mv 33 5, mv 34 9, o_ 35 (.bslice 9 1 1 [.str []] [(0, 1, (.t 34))]), o_ 36 (.app 9 1 16 (.t 33) (.t 35)), mv 5 36]
def A_mask_Meet_10 : List AOper := [o_ 37 (.bini .add (.t 26) (i_ 1)), mv 26 37]
def A_mask_Meet_11 : ACode := (.seq (.ops [o_ 27 (.bini .lss (.t 26) (.t 25))]) (.seq (.cond (.t 27) .skip (.exit 2)) (.seq (.block 3 (.seq (.ops A_mask_Meet_7) (.seq (.ops A_mask_Meet_8) (.cond (.t 32) (.ops A_mask_Meet_9) .skip)))) (.ops A_mask_Meet_10))))
def A_mask_Meet_12 : List AOper := [mv 38 5, o_ 39 (.call 8 [(.t 38)]), mv 4 39]
def A_mask_Meet : ACode := (.seq (.ops [o_ 4 (.mov (.c (.nils)))]) (.seq (.ops [o_ 5 (.mov (.c (.nils)))]) (.seq (.seq (.ops A_mask_Meet_0) (.block 0 (.loop A_mask_Meet_5))) (.seq (.seq (.ops A_mask_Meet_6) (.block 2 (.loop A_mask_Meet_11))) (.seq (.ops A_mask_Meet_12) .ret)))))
def R_mask_Meet : List ARes := [.tmp 4]
theorem C_mask_Meet : compF Tryz.prog Tryz.f10 = some (A_mask_Meet, R_mask_Meet) := by kernel_rfl
theorem K_mask_Meet {md : Bool} {args : List AV} {h : Hp} {Q : Res → Hp → Prop} (hl : LCode Tryz.prog md A_mask_Meet (EndQ R_mask_Meet Q) (env0 40 args) h) (hn : args.length ≤ 40 := by (simp; done)) : CallL Tryz.prog F_mask_Meet args h Q :=
  CallL.of (md := md) Tryz.func10 C_mask_Meet (by rw [Tryz.ntmps10]; exact hn) (by rw [Tryz.ntmps10]; exact hl)

-- lexicon/lexiconlaw16.many
abbrev F_lexiconlaw16_many : Nat := 5
def A_lexiconlaw16_many_0 : List AOper := [mv 8 6, mv 9 0, o_ 10 (.lenl (.t 9)), o_ 11 (.bini .lss (.t 8) (.t 10)), mv 12 11, g_ 13 (.mov (.t 5)) 12, g_ 14 (.bini .leq (.t 13) (i_ 4194304)) 12, o_ 15 (.pick (.t 12) (.t 14) (.c (.bool false)))]
def A_lexiconlaw16_many_1 : List AOper := [mv 18 5, o_ 19 (.bini .add (.t 18) (i_ 16)), mv 20 0, mv 21 6, o_ 22 (.iaddr 9 1 (.t 20) (.t 21)), o_ 23 (.ld1 (.t 22)), o_ 24 (.lens (.t 23)), o_ 25 (.bini .add (.t 19) (.t 24)), mv 5 25]
def A_lexiconlaw16_many_2 : List AOper := [mv 26 0, mv 27 6, o_ 28 (.iaddr 9 1 (.t 26) (.t 27)), o_ 29 (.ld1 (.t 28)), o_ 30 (.lens (.t 29)), o_ 31 (.bini .gtr (.t 30) (i_ 120000))]
def A_lexiconlaw16_many_3 : List AOper := [mv 16 6, o_ 17 (.bini .add (.t 16) (i_ 1)), mv 6 17]
def A_lexiconlaw16_many_4 : ACode := (.seq (.seq (.ops A_lexiconlaw16_many_0) (.cond (.t 15) .skip (.exit 0))) (.seq (.block 1 (.seq (.ops A_lexiconlaw16_many_1) (.seq (.ops A_lexiconlaw16_many_2) (.cond (.t 31) (.ops [o_ 5 (.mov (i_ 4194305))]) .skip)))) (.ops A_lexiconlaw16_many_3)))
def A_lexiconlaw16_many_5 : List AOper := [mv 32 7, mv 33 1, o_ 34 (.lenl (.t 33)), o_ 35 (.bini .lss (.t 32) (.t 34)), mv 36 35, g_ 37 (.mov (.t 5)) 36, g_ 38 (.bini .leq (.t 37) (i_ 4194304)) 36, o_ 39 (.pick (.t 36) (.t 38) (.c (.bool false)))]
def A_lexiconlaw16_many_6 : List AOper := [mv 42 5, o_ 43 (.bini .add (.t 42) (i_ 16)), mv 44 1, mv 45 7, o_ 46 (.iaddr 9 1 (.t 44) (.t 45)), o_ 47 (.ld1 (.t 46)), o_ 48 (.lens (.t 47)), o_ 49 (.bini .add (.t 43) (.t 48)), mv 5 49]
def A_lexiconlaw16_many_7 : List AOper := [mv 50 1, mv 51 7, o_ 52 (.iaddr 9 1 (.t 50) (.t 51)), o_ 53 (.ld1 (.t 52)), o_ 54 (.lens (.t 53)), o_ 55 (.bini .gtr (.t 54) (i_ 120000))]
def A_lexiconlaw16_many_8 : List AOper := [mv 40 7, o_ 41 (.bini .add (.t 40) (i_ 1)), mv 7 41]
def A_lexiconlaw16_many_9 : ACode := (.seq (.seq (.ops A_lexiconlaw16_many_5) (.cond (.t 39) .skip (.exit 2))) (.seq (.block 3 (.seq (.ops A_lexiconlaw16_many_6) (.seq (.ops A_lexiconlaw16_many_7) (.cond (.t 55) (.ops [o_ 5 (.mov (i_ 4194305))]) .skip)))) (.ops A_lexiconlaw16_many_8)))
def A_lexiconlaw16_many_10 : List AOper := [mv 56 5, o_ 57 (.bini .gtr (.t 56) (i_ 4194304)), mv 58 57, ⟨some 59, .mov (.t 0), some (58, false)⟩, ⟨some 60, .lenl (.t 59), some (58, false)⟩, ⟨some 61, .bini .gtr (.t 60) (i_ 400), some (58, false)⟩, o_ 62 (.pick (.t 58) (.c (.bool true)) (.t 61)), mv 63 62, ⟨some 64, .mov (.t 1), some (63, false)⟩, ⟨some 65, .lenl (.t 64), some (63, false)⟩, ⟨some 66, .bini .gtr (.t 65) (i_ 400), some (63, false)⟩, o_ 67 (.pick (.t 63) (.c (.bool true)) (.t 66)), mv 4 67]
def A_lexiconlaw16_many : ACode := (.seq (.ops [o_ 4 (.mov (.c (.bool false)))]) (.seq (.ops [o_ 5 (.mov (i_ 0))]) (.seq (.seq (.ops [o_ 6 (.mov (i_ 0))]) (.block 0 (.loop A_lexiconlaw16_many_4))) (.seq (.seq (.ops [o_ 7 (.mov (i_ 0))]) (.block 2 (.loop A_lexiconlaw16_many_9))) (.seq (.ops A_lexiconlaw16_many_10) .ret)))))
def R_lexiconlaw16_many : List ARes := [.tmp 4]
theorem C_lexiconlaw16_many : compF Tryz.prog Tryz.f5 = some (A_lexiconlaw16_many, R_lexiconlaw16_many) := by kernel_rfl
theorem K_lexiconlaw16_many {md : Bool} {args : List AV} {h : Hp} {Q : Res → Hp → Prop} (hl : LCode Tryz.prog md A_lexiconlaw16_many (EndQ R_lexiconlaw16_many Q) (env0 68 args) h) (hn : args.length ≤ 68 := by (simp; done)) : CallL Tryz.prog F_lexiconlaw16_many args h Q :=
  CallL.of (md := md) Tryz.func5 C_lexiconlaw16_many (by rw [Tryz.ntmps5]; exact hn) (by rw [Tryz.ntmps5]; exact hl)
end Go.Proofs.YtibdeeejjbmgcaaGreatDoor
