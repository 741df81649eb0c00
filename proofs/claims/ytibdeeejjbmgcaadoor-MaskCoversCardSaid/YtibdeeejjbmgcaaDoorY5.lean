/- Contracts of functions of the given program, in the logic L: texts put together; no conditions. -/
import Derived.Test.YtibdeeejjbmgcaaDoorY3
import Derived.Test.YtibdeeejjbmgcaaDoorProg
import Derived.KernelRfl
import Derived.Shelf.SortM.Plain
import Derived.Shelf.SortM.SortNone
import Derived.Ground.SlgmProg
import Derived.Sort.Walk0
import Derived.Test.YtibdeeejjbmgcaaDoorY4
/- The codes of functions as the logic L has them; each is what the logic makes of the given program (by the kernel). Printed by program (gen_codes.py). -/
namespace Go.Proofs.YtibdeeejjbmgcaaDoor
open Go.L

-- internal/stringslite.HasPrefix
abbrev F_internal_stringslite_HasPrefix : Nat := 56
def A_internal_stringslite_HasPrefix_0 : List AOper := [mv 5 0, o_ 6 (.lens (.t 5)), mv 7 1, o_ 8 (.lens (.t 7)), o_ 9 (.bini .geq (.t 6) (.t 8)), mv 10 9, g_ 11 (.mov (.t 0)) 10, g_ 12 (.mov (.t 1)) 10, g_ 13 (.lens (.t 12)) 10, g_ 14 (.slcs (.t 11) none (some (.t 13))) 10, g_ 15 (.mov (.t 1)) 10, g_ 16 (.bins .eql (.t 14) (.t 15)) 10, o_ 17 (.pick (.t 10) (.t 16) (.c (.bool false))), mv 4 17]
def A_internal_stringslite_HasPrefix : ACode := (.seq (.ops [o_ 4 (.mov (.c (.bool false)))]) (.seq (.ops A_internal_stringslite_HasPrefix_0) .ret))
def R_internal_stringslite_HasPrefix : List ARes := [.tmp 4]
theorem C_internal_stringslite_HasPrefix : compF Tryd.prog Tryd.f56 = some (A_internal_stringslite_HasPrefix, R_internal_stringslite_HasPrefix) := by kernel_rfl
theorem K_internal_stringslite_HasPrefix {md : Bool} {args : List AV} {h : Hp} {Q : Res → Hp → Prop} (hl : LCode Tryd.prog md A_internal_stringslite_HasPrefix (EndQ R_internal_stringslite_HasPrefix Q) (env0 18 args) h) (hn : args.length ≤ 18 := by (simp; done)) : CallL Tryd.prog F_internal_stringslite_HasPrefix args h Q :=
  CallL.of (md := md) Tryd.func56 C_internal_stringslite_HasPrefix (by rw [Tryd.ntmps56]; exact hn) (by rw [Tryd.ntmps56]; exact hl)

-- internal/stringslite.CutPrefix
abbrev F_internal_stringslite_CutPrefix : Nat := 43
def A_internal_stringslite_CutPrefix_0 : List AOper := [o_ 4 (.mov (.c (.str []))), o_ 5 (.mov (.c (.bool false)))]
def A_internal_stringslite_CutPrefix_1 : List AOper := [mv 6 0, mv 7 1, o_ 8 (.call 56 [(.t 6), (.t 7)]), o_ 9 (.not (.t 8))]
def A_internal_stringslite_CutPrefix_2 : List AOper := [mv 10 0, mv 4 10, o_ 5 (.mov (.c (.bool false)))]
def A_internal_stringslite_CutPrefix_3 : List AOper := [mv 11 0, mv 12 1, o_ 13 (.lens (.t 12)), o_ 14 (.slcs (.t 11) (some (.t 13)) none), mv 4 14, o_ 5 (.mov (.c (.bool true)))]
def A_internal_stringslite_CutPrefix : ACode := (.seq (.ops A_internal_stringslite_CutPrefix_0) (.seq (.seq (.ops A_internal_stringslite_CutPrefix_1) (.cond (.t 9) (.seq (.ops A_internal_stringslite_CutPrefix_2) .ret) .skip)) (.seq (.ops A_internal_stringslite_CutPrefix_3) .ret)))
def R_internal_stringslite_CutPrefix : List ARes := [.tmp 4, .tmp 5]
theorem C_internal_stringslite_CutPrefix : compF Tryd.prog Tryd.f43 = some (A_internal_stringslite_CutPrefix, R_internal_stringslite_CutPrefix) := by kernel_rfl
theorem K_internal_stringslite_CutPrefix {md : Bool} {args : List AV} {h : Hp} {Q : Res → Hp → Prop} (hl : LCode Tryd.prog md A_internal_stringslite_CutPrefix (EndQ R_internal_stringslite_CutPrefix Q) (env0 15 args) h) (hn : args.length ≤ 15 := by (simp; done)) : CallL Tryd.prog F_internal_stringslite_CutPrefix args h Q :=
  CallL.of (md := md) Tryd.func43 C_internal_stringslite_CutPrefix (by rw [Tryd.ntmps43]; exact hn) (by rw [Tryd.ntmps43]; exact hl)

-- strings.CutPrefix
abbrev F_strings_CutPrefix : Nat := 29
def A_strings_CutPrefix_0 : List AOper := [o_ 4 (.mov (.c (.str []))), o_ 5 (.mov (.c (.bool false)))]
def A_strings_CutPrefix_1 : List AOper := [mv 6 0, mv 7 1, o_ 8 (.call 43 [(.t 6), (.t 7)]), o_ 9 (.ext 0 (.t 8)), o_ 10 (.ext 1 (.t 8)), mv 4 9, mv 5 10]
def A_strings_CutPrefix : ACode := (.seq (.ops A_strings_CutPrefix_0) (.seq (.ops A_strings_CutPrefix_1) .ret))
def R_strings_CutPrefix : List ARes := [.tmp 4, .tmp 5]
theorem C_strings_CutPrefix : compF Tryd.prog Tryd.f29 = some (A_strings_CutPrefix, R_strings_CutPrefix) := by kernel_rfl
theorem K_strings_CutPrefix {md : Bool} {args : List AV} {h : Hp} {Q : Res → Hp → Prop} (hl : LCode Tryd.prog md A_strings_CutPrefix (EndQ R_strings_CutPrefix Q) (env0 11 args) h) (hn : args.length ≤ 11 := by (simp; done)) : CallL Tryd.prog F_strings_CutPrefix args h Q :=
  CallL.of (md := md) Tryd.func29 C_strings_CutPrefix (by rw [Tryd.ntmps29]; exact hn) (by rw [Tryd.ntmps29]; exact hl)

-- lexicon/mask.covers
abbrev F_mask_covers : Nat := 21
def A_mask_covers_0 : List AOper := [mv 8 1, mv 9 0, o_ 10 (.call 29 [(.t 8), (.t 9)]), mv 7 10, o_ 11 (.ext 0 (.t 7)), o_ 12 (.ext 1 (.t 7)), mv 5 11, mv 6 12]
def A_mask_covers_1 : List AOper := [mv 13 6, mv 14 13, g_ 15 (.mov (.t 5)) 14, g_ 16 (.bins .eql (.t 15) (.c (.str []))) 14, g_ 17 (.mov (.t 16)) 14, ⟨some 18, .mov (.t 5), some (17, false)⟩, ⟨some 19, .idxs (.t 18) (i_ 0), some (17, false)⟩, ⟨some 20, .bini .eql (.t 19) (.c (.int .u8 (46))), some (17, false)⟩, g_ 21 (.pick (.t 17) (.c (.bool true)) (.t 20)) 14, o_ 22 (.pick (.t 14) (.t 21) (.c (.bool false))), mv 4 22]
def A_mask_covers : ACode := (.seq (.ops [o_ 4 (.mov (.c (.bool false)))]) (.seq (.ops A_mask_covers_0) (.seq (.ops A_mask_covers_1) .ret)))
def R_mask_covers : List ARes := [.tmp 4]
theorem C_mask_covers : compF Tryd.prog Tryd.f21 = some (A_mask_covers, R_mask_covers) := by kernel_rfl
theorem K_mask_covers {md : Bool} {args : List AV} {h : Hp} {Q : Res → Hp → Prop} (hl : LCode Tryd.prog md A_mask_covers (EndQ R_mask_covers Q) (env0 23 args) h) (hn : args.length ≤ 23 := by (simp; done)) : CallL Tryd.prog F_mask_covers args h Q :=
  CallL.of (md := md) Tryd.func21 C_mask_covers (by rw [Tryd.ntmps21]; exact hn) (by rw [Tryd.ntmps21]; exact hl)

-- lexicon/mask.Covers$1
abbrev F_mask_Covers_c1 : Nat := 20
def A_mask_Covers_c1_0 : List AOper := [mv 4 0, o_ 5 (.ld1 (.t 1)), o_ 6 (.call 21 [(.t 4), (.t 5)]), mv 3 6]
def A_mask_Covers_c1 : ACode := (.seq (.ops [o_ 3 (.mov (.c (.bool false)))]) (.seq (.ops A_mask_Covers_c1_0) .ret))
def R_mask_Covers_c1 : List ARes := [.tmp 3]
theorem C_mask_Covers_c1 : compF Tryd.prog Tryd.f20 = some (A_mask_Covers_c1, R_mask_Covers_c1) := by kernel_rfl
theorem K_mask_Covers_c1 {md : Bool} {args : List AV} {h : Hp} {Q : Res → Hp → Prop} (hl : LCode Tryd.prog md A_mask_Covers_c1 (EndQ R_mask_Covers_c1 Q) (env0 7 args) h) (hn : args.length ≤ 7 := by (simp; done)) : CallL Tryd.prog F_mask_Covers_c1 args h Q :=
  CallL.of (md := md) Tryd.func20 C_mask_Covers_c1 (by rw [Tryd.ntmps20]; exact hn) (by rw [Tryd.ntmps20]; exact hl)

-- slices.IndexFunc[[]string,string]
abbrev F_slices_IndexFunc : Nat := 28
def A_slices_IndexFunc_0 : List AOper := [mv 6 0, o_ 7 (.lenl (.t 6)), o_ 8 (.mov (i_ 0))]
def A_slices_IndexFunc_1 : List AOper := [mv 10 8, mv 5 10]
def A_slices_IndexFunc_2 : List AOper := [mv 11 1, mv 12 0, mv 13 5, o_ 14 (.iaddr 9 1 (.t 12) (.t 13)), o_ 15 (.ld1 (.t 14)), o_ 16 (.callv (.t 11) [(.t 15)])]
def A_slices_IndexFunc_3 : List AOper := [mv 17 5, mv 4 17]
def A_slices_IndexFunc_4 : List AOper := [o_ 18 (.bini .add (.t 8) (i_ 1)), mv 8 18]
def A_slices_IndexFunc_5 : ACode := (.seq (.ops [o_ 9 (.bini .lss (.t 8) (.t 7))]) (.seq (.cond (.t 9) .skip (.exit 0)) (.seq (.block 1 (.seq (.ops A_slices_IndexFunc_1) (.seq (.ops A_slices_IndexFunc_2) (.cond (.t 16) (.seq (.ops A_slices_IndexFunc_3) .ret) .skip)))) (.ops A_slices_IndexFunc_4))))
def A_slices_IndexFunc : ACode := (.seq (.ops [o_ 4 (.mov (i_ 0))]) (.seq (.seq (.ops A_slices_IndexFunc_0) (.block 0 (.loop A_slices_IndexFunc_5))) (.seq (.ops [o_ 4 (.mov (i_ (-1)))]) .ret)))
def R_slices_IndexFunc : List ARes := [.tmp 4]
theorem C_slices_IndexFunc : compF Tryd.prog Tryd.f28 = some (A_slices_IndexFunc, R_slices_IndexFunc) := by kernel_rfl
theorem K_slices_IndexFunc {md : Bool} {args : List AV} {h : Hp} {Q : Res → Hp → Prop} (hl : LCode Tryd.prog md A_slices_IndexFunc (EndQ R_slices_IndexFunc Q) (env0 19 args) h) (hn : args.length ≤ 19 := by (simp; done)) : CallL Tryd.prog F_slices_IndexFunc args h Q :=
  CallL.of (md := md) Tryd.func28 C_slices_IndexFunc (by rw [Tryd.ntmps28]; exact hn) (by rw [Tryd.ntmps28]; exact hl)

-- slices.ContainsFunc[[]string,string]
abbrev F_slices_ContainsFunc : Nat := 19
def A_slices_ContainsFunc_0 : List AOper := [mv 5 0, mv 6 1, o_ 7 (.call 28 [(.t 5), (.t 6)]), o_ 8 (.bini .geq (.t 7) (i_ 0)), mv 4 8]
def A_slices_ContainsFunc : ACode := (.seq (.ops [o_ 4 (.mov (.c (.bool false)))]) (.seq (.ops A_slices_ContainsFunc_0) .ret))
def R_slices_ContainsFunc : List ARes := [.tmp 4]
theorem C_slices_ContainsFunc : compF Tryd.prog Tryd.f19 = some (A_slices_ContainsFunc, R_slices_ContainsFunc) := by kernel_rfl
theorem K_slices_ContainsFunc {md : Bool} {args : List AV} {h : Hp} {Q : Res → Hp → Prop} (hl : LCode Tryd.prog md A_slices_ContainsFunc (EndQ R_slices_ContainsFunc Q) (env0 9 args) h) (hn : args.length ≤ 9 := by (simp; done)) : CallL Tryd.prog F_slices_ContainsFunc args h Q :=
  CallL.of (md := md) Tryd.func19 C_slices_ContainsFunc (by rw [Tryd.ntmps19]; exact hn) (by rw [Tryd.ntmps19]; exact hl)

-- lexicon/mask.Covers
abbrev F_mask_Covers : Nat := 10
def A_mask_Covers_0 : List AOper := [o_ 3 (.box 9 1 (.t 1)), o_ 4 (.mov (.c (.bool false)))]
def A_mask_Covers_1 : List AOper := [mv 5 0, o_ 6 (.mkfn 20 [] [(.t 3)]), o_ 7 (.call 19 [(.t 5), (.t 6)]), mv 4 7]
def A_mask_Covers : ACode := (.seq (.ops A_mask_Covers_0) (.seq (.ops A_mask_Covers_1) .ret))
def R_mask_Covers : List ARes := [.tmp 4]
theorem C_mask_Covers : compF Tryd.prog Tryd.f10 = some (A_mask_Covers, R_mask_Covers) := by kernel_rfl
theorem K_mask_Covers {md : Bool} {args : List AV} {h : Hp} {Q : Res → Hp → Prop} (hl : LCode Tryd.prog md A_mask_Covers (EndQ R_mask_Covers Q) (env0 8 args) h) (hn : args.length ≤ 8 := by (simp; done)) : CallL Tryd.prog F_mask_Covers args h Q :=
  CallL.of (md := md) Tryd.func10 C_mask_Covers (by rw [Tryd.ntmps10]; exact hn) (by rw [Tryd.ntmps10]; exact hl)

-- slices.Clone[[]string,string]
abbrev F_slices_Clone : Nat := 13
def A_slices_Clone_0 : List AOper := [mv 3 0, o_ 4 (.isnilu false (.t 3))]
def A_slices_Clone_1 : List AOper := [o_ 5 (.bslice0 9), mv 6 0, o_ 7 (.app 9 1 16 (.t 5) (.t 6)), mv 2 7]
def A_slices_Clone : ACode := (.seq (.ops [o_ 2 (.mov (.c (.nils)))]) (.seq (.seq (.ops A_slices_Clone_0) (.cond (.t 4) (.seq (.ops [o_ 2 (.mov (.c (.nils)))]) .ret) .skip)) (.seq (.ops A_slices_Clone_1) .ret)))
def R_slices_Clone : List ARes := [.tmp 2]
theorem C_slices_Clone : compF Tryd.prog Tryd.f13 = some (A_slices_Clone, R_slices_Clone) := by kernel_rfl
theorem K_slices_Clone {md : Bool} {args : List AV} {h : Hp} {Q : Res → Hp → Prop} (hl : LCode Tryd.prog md A_slices_Clone (EndQ R_slices_Clone Q) (env0 8 args) h) (hn : args.length ≤ 8 := by (simp; done)) : CallL Tryd.prog F_slices_Clone args h Q :=
  CallL.of (md := md) Tryd.func13 C_slices_Clone (by rw [Tryd.ntmps13]; exact hn) (by rw [Tryd.ntmps13]; exact hl)

-- slices.Compact[[]string,string]
abbrev F_slices_Compact : Nat := 15
def A_slices_Compact_0 : List AOper := [mv 6 0, o_ 7 (.lenl (.t 6)), o_ 8 (.bini .lss (.t 7) (i_ 2))]
def A_slices_Compact_1 : List AOper := [mv 9 0, mv 2 9]
def A_slices_Compact_2 : List AOper := [mv 10 3, mv 11 0, o_ 12 (.lenl (.t 11)), o_ 13 (.bini .lss (.t 10) (.t 12))]
def A_slices_Compact_3 : List AOper := [mv 16 0, mv 17 3, o_ 18 (.iaddr 9 1 (.t 16) (.t 17)), o_ 19 (.ld1 (.t 18)), mv 20 0, mv 21 3, o_ 22 (.bini .sub (.t 21) (i_ 1)), o_ 23 (.iaddr 9 1 (.t 20) (.t 22)), o_ 24 (.ld1 (.t 23)), o_ 25 (.bins .eql (.t 19) (.t 24))]
def A_slices_Compact_4 : List AOper := [mv 26 0, mv 27 3, o_ 28 (.slcl 9 1 (.t 26) (some (.t 27)) none none), mv 4 28]
def A_slices_Compact_5 : List AOper := [mv 29 5, mv 30 4, o_ 31 (.lenl (.t 30)), o_ 32 (.bini .lss (.t 29) (.t 31))]
def A_slices_Compact_6 : List AOper := [mv 35 4, mv 36 5, o_ 37 (.iaddr 9 1 (.t 35) (.t 36)), o_ 38 (.ld1 (.t 37)), mv 39 4, mv 40 5, o_ 41 (.bini .sub (.t 40) (i_ 1)), o_ 42 (.iaddr 9 1 (.t 39) (.t 41)), o_ 43 (.ld1 (.t 42)), o_ 44 (.bins .neq (.t 38) (.t 43))]
def A_slices_Compact_7 : List AOper := [mv 45 0, mv 46 3, mv 47 4, mv 48 5, o_ 49 (.iaddr 9 1 (.t 47) (.t 48)), o_ 50 (.ld1 (.t 49)), o_ 51 (.iaddr 9 1 (.t 45) (.t 46)), n_ (.st 1 (.t 51) (.t 50))]
def A_slices_Compact_8 : List AOper := [mv 52 3, o_ 53 (.bini .add (.t 52) (i_ 1)), mv 3 53]
def A_slices_Compact_9 : List AOper := [mv 33 5, o_ 34 (.bini .add (.t 33) (i_ 1)), mv 5 34]
def A_slices_Compact_10 : ACode := (.seq (.seq (.ops A_slices_Compact_5) (.cond (.t 32) .skip (.exit 2))) (.seq (.block 3 (.seq (.alts [35, 36, 37, 38, 39, 40, 41, 42, 43, 44] [A_slices_Compact_6]) (.cond (.t 44) (.seq (.ops A_slices_Compact_7) (.ops A_slices_Compact_8)) .skip))) (.ops A_slices_Compact_9)))
def A_slices_Compact_11 : List AOper := [mv 54 0, mv 55 3, o_ 56 (.slcl 9 1 (.t 54) (some (.t 55)) none none), n_ (.clr 9 [.str []] (.t 56))]
def A_slices_Compact_12 : List AOper := [mv 57 0, mv 58 3, o_ 59 (.slcl 9 1 (.t 57) none (some (.t 58)) none), mv 2 59]
def A_slices_Compact_13 : List AOper := [mv 14 3, o_ 15 (.bini .add (.t 14) (i_ 1)), mv 3 15]
def A_slices_Compact_14 : ACode := (.seq (.seq (.ops A_slices_Compact_2) (.cond (.t 13) .skip (.exit 0))) (.seq (.block 1 (.seq (.alts [16, 17, 18, 19, 20, 21, 22, 23, 24, 25] [A_slices_Compact_3]) (.cond (.t 25) (.seq (.ops A_slices_Compact_4) (.seq (.seq (.ops [o_ 5 (.mov (i_ 1))]) (.block 2 (.loop A_slices_Compact_10))) (.seq (.ops A_slices_Compact_11) (.seq (.ops A_slices_Compact_12) .ret)))) .skip))) (.ops A_slices_Compact_13)))
def A_slices_Compact_15 : List AOper := [mv 60 0, mv 2 60]
def A_slices_Compact : ACode := (.seq (.ops [o_ 2 (.mov (.c (.nils)))]) (.seq (.seq (.ops A_slices_Compact_0) (.cond (.t 8) (.seq (.ops A_slices_Compact_1) .ret) .skip)) (.seq (.seq (.ops [o_ 3 (.mov (i_ 1))]) (.block 0 (.loop A_slices_Compact_14))) (.seq (.ops A_slices_Compact_15) .ret))))
def R_slices_Compact : List ARes := [.tmp 2]
theorem C_slices_Compact : compF Tryd.prog Tryd.f15 = some (A_slices_Compact, R_slices_Compact) := by kernel_rfl
theorem K_slices_Compact {md : Bool} {args : List AV} {h : Hp} {Q : Res → Hp → Prop} (hl : LCode Tryd.prog md A_slices_Compact (EndQ R_slices_Compact Q) (env0 61 args) h) (hn : args.length ≤ 61 := by (simp; done)) : CallL Tryd.prog F_slices_Compact args h Q :=
  CallL.of (md := md) Tryd.func15 C_slices_Compact (by rw [Tryd.ntmps15]; exact hn) (by rw [Tryd.ntmps15]; exact hl)

-- slices.Clip[[]string,string]
abbrev F_slices_Clip : Nat := 16
def A_slices_Clip_0 : List AOper := [mv 3 0, mv 4 0, o_ 5 (.lenl (.t 4)), mv 6 0, o_ 7 (.lenl (.t 6)), o_ 8 (.slcl 9 1 (.t 3) none (some (.t 5)) (some (.t 7))), mv 2 8]
def A_slices_Clip : ACode := (.seq (.ops [o_ 2 (.mov (.c (.nils)))]) (.seq (.ops A_slices_Clip_0) .ret))
def R_slices_Clip : List ARes := [.tmp 2]
theorem C_slices_Clip : compF Tryd.prog Tryd.f16 = some (A_slices_Clip, R_slices_Clip) := by kernel_rfl
theorem K_slices_Clip {md : Bool} {args : List AV} {h : Hp} {Q : Res → Hp → Prop} (hl : LCode Tryd.prog md A_slices_Clip (EndQ R_slices_Clip Q) (env0 9 args) h) (hn : args.length ≤ 9 := by (simp; done)) : CallL Tryd.prog F_slices_Clip args h Q :=
  CallL.of (md := md) Tryd.func16 C_slices_Clip (by rw [Tryd.ntmps16]; exact hn) (by rw [Tryd.ntmps16]; exact hl)

-- slices.DeleteFunc[[]string,string]
abbrev F_slices_DeleteFunc : Nat := 17
def A_slices_DeleteFunc_0 : List AOper := [mv 8 0, mv 9 1, o_ 10 (.call 28 [(.t 8), (.t 9)]), mv 5 10]
def A_slices_DeleteFunc_1 : List AOper := [mv 11 5, o_ 12 (.bini .eql (.t 11) (i_ (-1)))]
def A_slices_DeleteFunc_2 : List AOper := [mv 13 0, mv 4 13]
def A_slices_DeleteFunc_3 : List AOper := [mv 14 5, o_ 15 (.bini .add (.t 14) (i_ 1)), mv 6 15]
def A_slices_DeleteFunc_4 : List AOper := [mv 16 6, mv 17 0, o_ 18 (.lenl (.t 17)), o_ 19 (.bini .lss (.t 16) (.t 18))]
def A_slices_DeleteFunc_5 : List AOper := [mv 22 0, mv 23 6, o_ 24 (.iaddr 9 1 (.t 22) (.t 23)), o_ 25 (.ld1 (.t 24)), mv 7 25]
def A_slices_DeleteFunc_6 : List AOper := [mv 26 1, mv 27 7, o_ 28 (.callv (.t 26) [(.t 27)]), o_ 29 (.not (.t 28))]
def A_slices_DeleteFunc_7 : List AOper := [mv 30 0, mv 31 5, mv 32 7, o_ 33 (.iaddr 9 1 (.t 30) (.t 31)), n_ (.st 1 (.t 33) (.t 32))]
def A_slices_DeleteFunc_8 : List AOper := [mv 34 5, o_ 35 (.bini .add (.t 34) (i_ 1)), mv 5 35]
def A_slices_DeleteFunc_9 : List AOper := [mv 20 6, o_ 21 (.bini .add (.t 20) (i_ 1)), mv 6 21]
def A_slices_DeleteFunc_10 : ACode := (.seq (.seq (.ops A_slices_DeleteFunc_4) (.cond (.t 19) .skip (.exit 0))) (.seq (.block 1 (.seq (.ops A_slices_DeleteFunc_5) (.seq (.ops A_slices_DeleteFunc_6) (.cond (.t 29) (.seq (.ops A_slices_DeleteFunc_7) (.ops A_slices_DeleteFunc_8)) .skip)))) (.ops A_slices_DeleteFunc_9)))
def A_slices_DeleteFunc_11 : List AOper := [mv 36 0, mv 37 5, o_ 38 (.slcl 9 1 (.t 36) (some (.t 37)) none none), n_ (.clr 9 [.str []] (.t 38))]
def A_slices_DeleteFunc_12 : List AOper := [mv 39 0, mv 40 5, o_ 41 (.slcl 9 1 (.t 39) none (some (.t 40)) none), mv 4 41]
def A_slices_DeleteFunc : ACode := (.seq (.ops [o_ 4 (.mov (.c (.nils)))]) (.seq (.ops A_slices_DeleteFunc_0) (.seq (.seq (.ops A_slices_DeleteFunc_1) (.cond (.t 12) (.seq (.ops A_slices_DeleteFunc_2) .ret) .skip)) (.seq (.seq (.ops A_slices_DeleteFunc_3) (.block 0 (.loop A_slices_DeleteFunc_10))) (.seq (.ops A_slices_DeleteFunc_11) (.seq (.ops A_slices_DeleteFunc_12) .ret))))))
def R_slices_DeleteFunc : List ARes := [.tmp 4]
theorem C_slices_DeleteFunc : compF Tryd.prog Tryd.f17 = some (A_slices_DeleteFunc, R_slices_DeleteFunc) := by kernel_rfl
theorem K_slices_DeleteFunc {md : Bool} {args : List AV} {h : Hp} {Q : Res → Hp → Prop} (hl : LCode Tryd.prog md A_slices_DeleteFunc (EndQ R_slices_DeleteFunc Q) (env0 42 args) h) (hn : args.length ≤ 42 := by (simp; done)) : CallL Tryd.prog F_slices_DeleteFunc args h Q :=
  CallL.of (md := md) Tryd.func17 C_slices_DeleteFunc (by rw [Tryd.ntmps17]; exact hn) (by rw [Tryd.ntmps17]; exact hl)

-- slices.Grow[[]string,string]
abbrev F_slices_Grow : Nat := 25
def A_slices_Grow_0 : List AOper := [mv 5 1, o_ 6 (.bini .lss (.t 5) (i_ 0))]
def A_slices_Grow_1 : List AOper := [o_ 7 (.mkifc 9 (.c (.str [99, 97, 110, 110, 111, 116, 32, 98, 101, 32, 110, 101, 103, 97, 116, 105, 118, 101]))), n_ (.pan (.t 7))]
def A_slices_Grow_2 : List AOper := [mv 8 1, mv 9 0, o_ 10 (.capk (.t 9)), mv 11 0, o_ 12 (.lenl (.t 11)), o_ 13 (.bini .sub (.t 10) (.t 12)), o_ 14 (.bini .sub (.t 8) (.t 13)), mv 1 14]
def A_slices_Grow_3 : List AOper := [mv 15 1, o_ 16 (.bini .gtr (.t 15) (i_ 0))]
def A_slices_Grow_4 : List AOper := [mv 17 0, mv 18 0, o_ 19 (.capk (.t 18)), o_ 20 (.slcl 9 1 (.t 17) none (some (.t 19)) none), mv 21 1, o_ 22 (.appz 9 1 16 [.str []] (.t 20) (.t 21)), mv 23 0, o_ 24 (.lenl (.t 23)), o_ 25 (.slcl 9 1 (.t 22) none (some (.t 24)) none), mv 0 25]
def A_slices_Grow_5 : List AOper := [mv 26 0, mv 4 26]
def A_slices_Grow : ACode := (.seq (.ops [o_ 4 (.mov (.c (.nils)))]) (.seq (.seq (.ops A_slices_Grow_0) (.cond (.t 6) (.ops A_slices_Grow_1) .skip)) (.seq (.seq (.ops A_slices_Grow_2) (.seq (.ops A_slices_Grow_3) (.cond (.t 16) (.ops A_slices_Grow_4) .skip))) (.seq (.ops A_slices_Grow_5) .ret))))
def R_slices_Grow : List ARes := [.tmp 4]
theorem C_slices_Grow : compF Tryd.prog Tryd.f25 = some (A_slices_Grow, R_slices_Grow) := by kernel_rfl
theorem K_slices_Grow {md : Bool} {args : List AV} {h : Hp} {Q : Res → Hp → Prop} (hl : LCode Tryd.prog md A_slices_Grow (EndQ R_slices_Grow Q) (env0 27 args) h) (hn : args.length ≤ 27 := by (simp; done)) : CallL Tryd.prog F_slices_Grow args h Q :=
  CallL.of (md := md) Tryd.func25 C_slices_Grow (by rw [Tryd.ntmps25]; exact hn) (by rw [Tryd.ntmps25]; exact hl)

-- slices.Concat[[]string,string]
abbrev F_slices_Concat : Nat := 12
def A_slices_Concat_0 : List AOper := [mv 9 0, o_ 10 (.lenl (.t 9)), o_ 11 (.mov (i_ 0))]
def A_slices_Concat_1 : List AOper := [o_ 13 (.iaddr 23 1 (.t 9) (.t 11)), o_ 14 (.ld1 (.t 13)), mv 5 14]
def A_slices_Concat_2 : List AOper := [mv 15 3, mv 16 5, o_ 17 (.lenl (.t 16)), o_ 18 (.bini .add (.t 15) (.t 17)), mv 3 18]
def A_slices_Concat_3 : List AOper := [mv 19 3, o_ 20 (.bini .lss (.t 19) (i_ 0))]
def A_slices_Concat_4 : List AOper := [o_ 21 (.mkifc 9 (.c (.str [108, 101, 110, 32, 111, 117, 116, 32, 111, 102, 32, 114, 97, 110, 103, 101]))), n_ (.pan (.t 21))]
def A_slices_Concat_5 : List AOper := [o_ 22 (.bini .add (.t 11) (i_ 1)), mv 11 22]
def A_slices_Concat_6 : ACode := (.seq (.ops [o_ 12 (.bini .lss (.t 11) (.t 10))]) (.seq (.cond (.t 12) .skip (.exit 0)) (.seq (.block 1 (.seq (.ops A_slices_Concat_1) (.seq (.ops A_slices_Concat_2) (.seq (.ops A_slices_Concat_3) (.cond (.t 20) (.ops A_slices_Concat_4) .skip))))) (.ops A_slices_Concat_5))))
def A_slices_Concat_7 : List AOper := [mv 23 3, o_ 24 (.call 25 [(.c (.nils)), (.t 23)]), mv 6 24]
def A_slices_Concat_8 : List AOper := [mv 25 0, o_ 26 (.lenl (.t 25)), o_ 27 (.mov (i_ 0))]
def A_slices_Concat_9 : List AOper := [o_ 29 (.iaddr 23 1 (.t 25) (.t 27)), o_ 30 (.ld1 (.t 29)), mv 8 30]
def A_slices_Concat_10 : List AOper := [mv 31 6, mv 32 8, o_ 33 (.app 9 1 16 (.t 31) (.t 32)), mv 6 33]
def A_slices_Concat_11 : List AOper := [o_ 34 (.bini .add (.t 27) (i_ 1)), mv 27 34]
def A_slices_Concat_12 : ACode := (.seq (.ops [o_ 28 (.bini .lss (.t 27) (.t 26))]) (.seq (.cond (.t 28) .skip (.exit 2)) (.seq (.block 3 (.seq (.ops A_slices_Concat_9) (.ops A_slices_Concat_10))) (.ops A_slices_Concat_11))))
def A_slices_Concat_13 : List AOper := [mv 35 6, mv 2 35]
def A_slices_Concat : ACode := (.seq (.ops [o_ 2 (.mov (.c (.nils)))]) (.seq (.ops [o_ 3 (.mov (i_ 0))]) (.seq (.seq (.ops A_slices_Concat_0) (.block 0 (.loop A_slices_Concat_6))) (.seq (.ops A_slices_Concat_7) (.seq (.seq (.ops A_slices_Concat_8) (.block 2 (.loop A_slices_Concat_12))) (.seq (.ops A_slices_Concat_13) .ret))))))
def R_slices_Concat : List ARes := [.tmp 2]
theorem C_slices_Concat : compF Tryd.prog Tryd.f12 = some (A_slices_Concat, R_slices_Concat) := by kernel_rfl
theorem K_slices_Concat {md : Bool} {args : List AV} {h : Hp} {Q : Res → Hp → Prop} (hl : LCode Tryd.prog md A_slices_Concat (EndQ R_slices_Concat Q) (env0 36 args) h) (hn : args.length ≤ 36 := by (simp; done)) : CallL Tryd.prog F_slices_Concat args h Q :=
  CallL.of (md := md) Tryd.func12 C_slices_Concat (by rw [Tryd.ntmps12]; exact hn) (by rw [Tryd.ntmps12]; exact hl)

-- slices.Sort[[]string,string]
abbrev F_slices_Sort : Nat := 14
def A_slices_Sort_0 : List AOper := [mv 3 0, o_ 4 (.lenl (.t 3)), mv 2 4]
def A_slices_Sort_1 : List AOper := [mv 5 0, mv 6 2, mv 7 2, o_ 8 (.conv .u64 (.t 7)), o_ 9 (.call 27 [(.t 8)]), o_ 10 (.call 26 [(.t 5), (i_ 0), (.t 6), (.t 9)])]
def A_slices_Sort : ACode := (.seq (.ops A_slices_Sort_0) (.ops A_slices_Sort_1))
def R_slices_Sort : List ARes := []
theorem C_slices_Sort : compF Tryd.prog Tryd.f14 = some (A_slices_Sort, R_slices_Sort) := by kernel_rfl
theorem K_slices_Sort {md : Bool} {args : List AV} {h : Hp} {Q : Res → Hp → Prop} (hl : LCode Tryd.prog md A_slices_Sort (EndQ R_slices_Sort Q) (env0 11 args) h) (hn : args.length ≤ 11 := by (simp; done)) : CallL Tryd.prog F_slices_Sort args h Q :=
  CallL.of (md := md) Tryd.func14 C_slices_Sort (by rw [Tryd.ntmps14]; exact hn) (by rw [Tryd.ntmps14]; exact hl)

-- lexicon/mask.Normal$1
abbrev F_mask_Normal_c1 : Nat := 18
def A_mask_Normal_c1_0 : List AOper := [mv 5 0, o_ 6 (.lens (.t 5)), o_ 7 (.mov (i_ 0))]
def A_mask_Normal_c1_1 : List AOper := [mv 9 7, mv 4 9]
def A_mask_Normal_c1_2 : List AOper := [mv 10 0, mv 11 4, o_ 12 (.idxs (.t 10) (.t 11)), o_ 13 (.bini .eql (.t 12) (.c (.int .u8 (46)))), mv 14 13, g_ 15 (.ld1 (.t 1)) 14, g_ 16 (.mov (.t 0)) 14, g_ 17 (.mov (.t 4)) 14, g_ 18 (.slcs (.t 16) none (some (.t 17))) 14, g_ 19 (.mlook .s (.int .i64 (0)) false (.t 15) (.t 18)) 14, g_ 20 (.bini .gtr (.t 19) (i_ 0)) 14, o_ 21 (.pick (.t 14) (.t 20) (.c (.bool false)))]
def A_mask_Normal_c1_3 : List AOper := [o_ 22 (.bini .add (.t 7) (i_ 1)), mv 7 22]
def A_mask_Normal_c1_4 : ACode := (.seq (.ops [o_ 8 (.bini .lss (.t 7) (.t 6))]) (.seq (.cond (.t 8) .skip (.exit 0)) (.seq (.block 1 (.seq (.ops A_mask_Normal_c1_1) (.seq (.alts [10, 11, 12, 13, 14, 15, 16, 17, 18, 19, 20, 21] [A_mask_Normal_c1_2]) (.cond (.t 21) (.seq (.ops [o_ 3 (.mov (.c (.bool true)))]) .ret) .skip)))) (.ops A_mask_Normal_c1_3))))
def A_mask_Normal_c1 : ACode := (.seq (.ops [o_ 3 (.mov (.c (.bool false)))]) (.seq (.seq (.ops A_mask_Normal_c1_0) (.block 0 (.loop A_mask_Normal_c1_4))) (.seq (.ops [o_ 3 (.mov (.c (.bool false)))]) .ret)))
def R_mask_Normal_c1 : List ARes := [.tmp 3]
theorem C_mask_Normal_c1 : compF Tryd.prog Tryd.f18 = some (A_mask_Normal_c1, R_mask_Normal_c1) := by kernel_rfl
theorem K_mask_Normal_c1 {md : Bool} {args : List AV} {h : Hp} {Q : Res → Hp → Prop} (hl : LCode Tryd.prog md A_mask_Normal_c1 (EndQ R_mask_Normal_c1 Q) (env0 23 args) h) (hn : args.length ≤ 23 := by (simp; done)) : CallL Tryd.prog F_mask_Normal_c1 args h Q :=
  CallL.of (md := md) Tryd.func18 C_mask_Normal_c1 (by rw [Tryd.ntmps18]; exact hn) (by rw [Tryd.ntmps18]; exact hl)

-- lexicon/mask.Normal
abbrev F_mask_Normal : Nat := 9
def A_mask_Normal_0 : List AOper := [o_ 7 (.mkmap), o_ 3 (.box 33 1 (.c (.nilm))), n_ (.st 1 (.t 3) (.t 7))]
def A_mask_Normal_1 : List AOper := [mv 8 0, o_ 9 (.lenl (.t 8)), o_ 10 (.mov (i_ 0))]
def A_mask_Normal_2 : List AOper := [o_ 12 (.iaddr 9 1 (.t 8) (.t 10)), o_ 13 (.ld1 (.t 12)), mv 5 13]
def A_mask_Normal_3 : List AOper := [o_ 14 (.ld1 (.t 3)), mv 15 5, o_ 16 (.mlook .s (.int .i64 (0)) false (.t 14) (.t 15)), o_ 17 (.bini .add (.t 16) (i_ 1)), n_ (.mupd .s (.t 14) (.t 15) (.t 17))]
def A_mask_Normal_4 : List AOper := [o_ 18 (.bini .add (.t 10) (i_ 1)), mv 10 18]
def A_mask_Normal_5 : ACode := (.seq (.ops [o_ 11 (.bini .lss (.t 10) (.t 9))]) (.seq (.cond (.t 11) .skip (.exit 0)) (.seq (.block 1 (.seq (.ops A_mask_Normal_2) (.ops A_mask_Normal_3))) (.ops A_mask_Normal_4))))
def A_mask_Normal_6 : List AOper := [mv 19 0, o_ 20 (.call 13 [(.t 19)]), mv 6 20]
def A_mask_Normal_7 : List AOper := [mv 21 6, o_ 22 (.call 14 [(.t 21)])]
def A_mask_Normal_8 : List AOper := [mv 23 6, o_ 24 (.call 15 [(.t 23)]), mv 6 24]
def A_mask_Normal_9 : List AOper := [mv 25 6, o_ 26 (.mkfn 18 [] [(.t 3)]), o_ 27 (.call 17 [(.t 25), (.t 26)]), o_ 28 (.call 16 [(.t 27)]), mv 2 28]
def A_mask_Normal : ACode := (.seq (.ops [o_ 2 (.mov (.c (.nils)))]) (.seq (.ops A_mask_Normal_0) (.seq (.seq (.ops A_mask_Normal_1) (.block 0 (.loop A_mask_Normal_5))) (.seq (.ops A_mask_Normal_6) (.seq (.ops A_mask_Normal_7) (.seq (.ops A_mask_Normal_8) (.seq (.ops A_mask_Normal_9) .ret)))))))
def R_mask_Normal : List ARes := [.tmp 2]
theorem C_mask_Normal : compF Tryd.prog Tryd.f9 = some (A_mask_Normal, R_mask_Normal) := by kernel_rfl
theorem K_mask_Normal {md : Bool} {args : List AV} {h : Hp} {Q : Res → Hp → Prop} (hl : LCode Tryd.prog md A_mask_Normal (EndQ R_mask_Normal Q) (env0 29 args) h) (hn : args.length ≤ 29 := by (simp; done)) : CallL Tryd.prog F_mask_Normal args h Q :=
  CallL.of (md := md) Tryd.func9 C_mask_Normal (by rw [Tryd.ntmps9]; exact hn) (by rw [Tryd.ntmps9]; exact hl)

-- lexicon/mask.Union
abbrev F_mask_Union : Nat := 7
def A_mask_Union_0 : List AOper := [mv 5 0, mv 6 1, o_ 7 (.bslice 23 1 2 [.nils] [(0, 1, (.t 5)), (1, 1, (.t 6))]), o_ 8 (.call 12 [(.t 7)]), o_ 9 (.call 9 [(.t 8)]), mv 4 9]
def A_mask_Union : ACode := (.seq (.ops [o_ 4 (.mov (.c (.nils)))]) (.seq (.ops A_mask_Union_0) .ret))
def R_mask_Union : List ARes := [.tmp 4]
theorem C_mask_Union : compF Tryd.prog Tryd.f7 = some (A_mask_Union, R_mask_Union) := by kernel_rfl
theorem K_mask_Union {md : Bool} {args : List AV} {h : Hp} {Q : Res → Hp → Prop} (hl : LCode Tryd.prog md A_mask_Union (EndQ R_mask_Union Q) (env0 10 args) h) (hn : args.length ≤ 10 := by (simp; done)) : CallL Tryd.prog F_mask_Union args h Q :=
  CallL.of (md := md) Tryd.func7 C_mask_Union (by rw [Tryd.ntmps7]; exact hn) (by rw [Tryd.ntmps7]; exact hl)

-- lexicon/mask.Meet
abbrev F_mask_Meet : Nat := 8
def A_mask_Meet_0 : List AOper := [mv 10 0, o_ 11 (.lenl (.t 10)), o_ 12 (.mov (i_ 0))]
def A_mask_Meet_1 : List AOper := [o_ 14 (.iaddr 9 1 (.t 10) (.t 12)), o_ 15 (.ld1 (.t 14)), mv 7 15]
def A_mask_Meet_2 : List AOper := [mv 16 1, mv 17 7, o_ 18 (.call 10 [(.t 16), (.t 17)])]
def A_mask_Meet_3 : List AOper := [mv 19 5, mv 20 7, o_ 21 (.bslice 9 1 1 [.str []] [(0, 1, (.t 20))]), o_ 22 (.app 9 1 16 (.t 19) (.t 21)), mv 5 22]
def A_mask_Meet_4 : List AOper := [o_ 23 (.bini .add (.t 12) (i_ 1)), mv 12 23]
def A_mask_Meet_5 : ACode := (.seq (.ops [o_ 13 (.bini .lss (.t 12) (.t 11))]) (.seq (.cond (.t 13) .skip (.exit 0)) (.seq (.block 1 (.seq (.ops A_mask_Meet_1) (.seq (.ops A_mask_Meet_2) (.cond (.t 18) (.ops A_mask_Meet_3) .skip)))) (.ops A_mask_Meet_4))))
def A_mask_Meet_6 : List AOper := [mv 24 1, o_ 25 (.lenl (.t 24)), o_ 26 (.mov (i_ 0))]
def A_mask_Meet_7 : List AOper := [o_ 28 (.iaddr 9 1 (.t 24) (.t 26)), o_ 29 (.ld1 (.t 28)), mv 9 29]
def A_mask_Meet_8 : List AOper := [mv 30 0, mv 31 9, o_ 32 (.call 10 [(.t 30), (.t 31)])]
def A_mask_Meet_9 : List AOper := [mv 33 5, mv 34 9, o_ 35 (.bslice 9 1 1 [.str []] [(0, 1, (.t 34))]), o_ 36 (.app 9 1 16 (.t 33) (.t 35)), mv 5 36]
def A_mask_Meet_10 : List AOper := [o_ 37 (.bini .add (.t 26) (i_ 1)), mv 26 37]
def A_mask_Meet_11 : ACode := (.seq (.ops [o_ 27 (.bini .lss (.t 26) (.t 25))]) (.seq (.cond (.t 27) .skip (.exit 2)) (.seq (.block 3 (.seq (.ops A_mask_Meet_7) (.seq (.ops A_mask_Meet_8) (.cond (.t 32) (.ops A_mask_Meet_9) .skip)))) (.ops A_mask_Meet_10))))
def A_mask_Meet_12 : List AOper := [mv 38 5, o_ 39 (.call 9 [(.t 38)]), mv 4 39]
def A_mask_Meet : ACode := (.seq (.ops [o_ 4 (.mov (.c (.nils)))]) (.seq (.ops [o_ 5 (.mov (.c (.nils)))]) (.seq (.seq (.ops A_mask_Meet_0) (.block 0 (.loop A_mask_Meet_5))) (.seq (.seq (.ops A_mask_Meet_6) (.block 2 (.loop A_mask_Meet_11))) (.seq (.ops A_mask_Meet_12) .ret)))))
def R_mask_Meet : List ARes := [.tmp 4]
theorem C_mask_Meet : compF Tryd.prog Tryd.f8 = some (A_mask_Meet, R_mask_Meet) := by kernel_rfl
theorem K_mask_Meet {md : Bool} {args : List AV} {h : Hp} {Q : Res → Hp → Prop} (hl : LCode Tryd.prog md A_mask_Meet (EndQ R_mask_Meet Q) (env0 40 args) h) (hn : args.length ≤ 40 := by (simp; done)) : CallL Tryd.prog F_mask_Meet args h Q :=
  CallL.of (md := md) Tryd.func8 C_mask_Meet (by rw [Tryd.ntmps8]; exact hn) (by rw [Tryd.ntmps8]; exact hl)

-- lexicon/lexiconlaw16.many
abbrev F_lexiconlaw16_many : Nat := 6
def A_lexiconlaw16_many_0 : List AOper := [mv 8 6, mv 9 0, o_ 10 (.lenl (.t 9)), o_ 11 (.bini .lss (.t 8) (.t 10)), mv 12 11, g_ 13 (.mov (.t 5)) 12, g_ 14 (.bini .leq (.t 13) (i_ 4194304)) 12, o_ 15 (.pick (.t 12) (.t 14) (.c (.bool false)))]
def A_lexiconlaw16_many_1 : List AOper := [mv 18 5, o_ 19 (.bini .add (.t 18) (i_ 16)), mv 20 0, mv 21 6, o_ 22 (.iaddr 9 1 (.t 20) (.t 21)), o_ 23 (.ld1 (.t 22)), o_ 24 (.lens (.t 23)), o_ 25 (.bini .add (.t 19) (.t 24)), mv 5 25]
def A_lexiconlaw16_many_2 : List AOper := [mv 26 0, mv 27 6, o_ 28 (.iaddr 9 1 (.t 26) (.t 27)), o_ 29 (.ld1 (.t 28)), o_ 30 (.lens (.t 29)), o_ 31 (.bini .gtr (.t 30) (i_ 120000))]
def A_lexiconlaw16_many_3 : List AOper := [mv 16 6, o_ 17 (.bini .add (.t 16) (i_ 1)), mv 6 17]
def A_lexiconlaw16_many_4 : ACode := (.seq (.seq (.ops A_lexiconlaw16_many_0) (.cond (.t 15) .skip (.exit 0))) (.seq (.block 1 (.seq (.ops A_lexiconlaw16_many_1) (.seq (.ops A_lexiconlaw16_many_2) (.cond (.t 31) (.ops [o_ 5 (.mov (i_ 4194305))]) .skip)))) (.ops A_lexiconlaw16_many_3)))
def A_lexiconlaw16_many_5 : List AOper := [mv 32 7, mv 33 1, o_ 34 (.lenl (.t 33)), o_ 35 (.bini .lss (.t 32) (.t 34)), mv 36 35, g_ 37 (.mov (.t 5)) 36, g_ 38 (.bini .leq (.t 37) (i_ 4194304)) 36, o_ 39 (.pick (.t 36) (.t 38) (.c (.bool false)))]
def A_lexiconlaw16_many_6 : List AOper := [mv 42 5, o_ 43 (.bini .add (.t 42) (i_ 16)), mv 44 1, mv 45 7, o_ 46 (.iaddr 9 1 (.t 44) (.t 45)), o_ 47 (.ld1 (.t 46)), o_ 48 (.lens (.t 47)), o_ 49 (.bini .add (.t 43) (.t 48)), mv 5 49]
def A_lexiconlaw16_many_7 : List AOper := [mv 50 1, mv 51 7, o_ 52 (.iaddr 9 1 (.t 50) (.t 51)), o_ 53 (.ld1 (.t 52)), o_ 54 (.lens (.t 53)), o_ 55 (.bini .gtr (.t 54) (i_ 120000))]
def A_lexiconlaw16_many_8 : List AOper := [mv 40 7, o_ 41 (.bini .add (.t 40) (i_ 1)), mv 7 41]
def A_lexiconlaw16_many_9 : ACode := (.seq (.seq (.ops A_lexiconlaw16_many_5) (.cond (.t 39) .skip (.exit 2))) (.seq (.block 3 (.seq (.ops A_lexiconlaw16_many_6) (.seq (.ops A_lexiconlaw16_many_7) (.cond (.t 55) (.ops [o_ 5 (.mov (i_ 4194305))]) .skip)))) (.ops A_lexiconlaw16_many_8)))
def A_lexiconlaw16_many_10 : List AOper := [mv 56 5, o_ 57 (.bini .gtr (.t 56) (i_ 4194304)), mv 58 57, ⟨some 59, .mov (.t 0), some (58, false)⟩, ⟨some 60, .lenl (.t 59), some (58, false)⟩, ⟨some 61, .bini .gtr (.t 60) (i_ 400), some (58, false)⟩, o_ 62 (.pick (.t 58) (.c (.bool true)) (.t 61)), mv 63 62, ⟨some 64, .mov (.t 1), some (63, false)⟩, ⟨some 65, .lenl (.t 64), some (63, false)⟩, ⟨some 66, .bini .gtr (.t 65) (i_ 400), some (63, false)⟩, o_ 67 (.pick (.t 63) (.c (.bool true)) (.t 66)), mv 4 67]
def A_lexiconlaw16_many : ACode := (.seq (.ops [o_ 4 (.mov (.c (.bool false)))]) (.seq (.ops [o_ 5 (.mov (i_ 0))]) (.seq (.seq (.ops [o_ 6 (.mov (i_ 0))]) (.block 0 (.loop A_lexiconlaw16_many_4))) (.seq (.seq (.ops [o_ 7 (.mov (i_ 0))]) (.block 2 (.loop A_lexiconlaw16_many_9))) (.seq (.ops A_lexiconlaw16_many_10) .ret)))))
def R_lexiconlaw16_many : List ARes := [.tmp 4]
theorem C_lexiconlaw16_many : compF Tryd.prog Tryd.f6 = some (A_lexiconlaw16_many, R_lexiconlaw16_many) := by kernel_rfl
theorem K_lexiconlaw16_many {md : Bool} {args : List AV} {h : Hp} {Q : Res → Hp → Prop} (hl : LCode Tryd.prog md A_lexiconlaw16_many (EndQ R_lexiconlaw16_many Q) (env0 68 args) h) (hn : args.length ≤ 68 := by (simp; done)) : CallL Tryd.prog F_lexiconlaw16_many args h Q :=
  CallL.of (md := md) Tryd.func6 C_lexiconlaw16_many (by rw [Tryd.ntmps6]; exact hn) (by rw [Tryd.ntmps6]; exact hl)

-- lexicon/lexiconlaw16.MaskCovers
abbrev F_lexiconlaw16_MaskCovers : Nat := 4
def A_lexiconlaw16_MaskCovers_0 : List AOper := [mv 17 0, mv 18 1, o_ 19 (.call 6 [(.t 17), (.t 18)]), mv 20 19, ⟨some 21, .mov (.t 2), some (20, false)⟩, ⟨some 22, .call 6 [(.t 21), (.c (.nils))], some (20, false)⟩, o_ 23 (.pick (.t 20) (.c (.bool true)) (.t 22))]
def A_lexiconlaw16_MaskCovers_1 : List AOper := [o_ 24 (.call 5 []), mv 7 24]
def A_lexiconlaw16_MaskCovers_2 : List AOper := [mv 25 0, mv 26 1, o_ 27 (.call 7 [(.t 25), (.t 26)]), mv 8 27]
def A_lexiconlaw16_MaskCovers_3 : List AOper := [mv 28 0, mv 29 1, o_ 30 (.call 8 [(.t 28), (.t 29)]), mv 9 30]
def A_lexiconlaw16_MaskCovers_4 : List AOper := [mv 31 0, o_ 32 (.call 9 [(.t 31)]), mv 10 32]
def A_lexiconlaw16_MaskCovers_5 : List AOper := [mv 33 11, mv 34 2, o_ 35 (.app 9 1 16 (.t 33) (.t 34)), mv 11 35]
def A_lexiconlaw16_MaskCovers_6 : List AOper := [mv 36 11, mv 37 0, o_ 38 (.app 9 1 16 (.t 36) (.t 37)), mv 11 38]
def A_lexiconlaw16_MaskCovers_7 : List AOper := [mv 39 11, mv 40 1, o_ 41 (.app 9 1 16 (.t 39) (.t 40)), mv 11 41]
def A_lexiconlaw16_MaskCovers_8 : List AOper := [mv 42 12, mv 43 11, o_ 44 (.lenl (.t 43)), o_ 45 (.bini .lss (.t 42) (.t 44))]
def A_lexiconlaw16_MaskCovers_9 : List AOper := [mv 48 0, mv 49 11, mv 50 12, o_ 51 (.iaddr 9 1 (.t 49) (.t 50)), o_ 52 (.ld1 (.t 51)), o_ 53 (.call 10 [(.t 48), (.t 52)]), mv 13 53]
def A_lexiconlaw16_MaskCovers_10 : List AOper := [mv 54 1, mv 55 11, mv 56 12, o_ 57 (.iaddr 9 1 (.t 55) (.t 56)), o_ 58 (.ld1 (.t 57)), o_ 59 (.call 10 [(.t 54), (.t 58)]), mv 14 59]
def A_lexiconlaw16_MaskCovers_11 : List AOper := [mv 60 8, mv 61 11, mv 62 12, o_ 63 (.iaddr 9 1 (.t 61) (.t 62)), o_ 64 (.ld1 (.t 63)), o_ 65 (.call 10 [(.t 60), (.t 64)]), mv 66 13, mv 67 66, ⟨some 68, .mov (.t 14), some (67, false)⟩, o_ 69 (.pick (.t 67) (.c (.bool true)) (.t 68)), o_ 70 (.binb .neq (.t 65) (.t 69)), mv 71 70, ⟨some 72, .mov (.t 9), some (71, false)⟩, ⟨some 73, .mov (.t 11), some (71, false)⟩, ⟨some 74, .mov (.t 12), some (71, false)⟩, ⟨some 75, .iaddr 9 1 (.t 73) (.t 74), some (71, false)⟩, ⟨some 76, .ld1 (.t 75), some (71, false)⟩, ⟨some 77, .call 10 [(.t 72), (.t 76)], some (71, false)⟩, ⟨some 78, .mov (.t 13), some (71, false)⟩, ⟨some 79, .mov (.t 78), some (71, false)⟩, g_ 80 (.mov (.t 14)) 79, ⟨some 81, .pick (.t 79) (.t 80) (.c (.bool false)), some (71, false)⟩, ⟨some 82, .binb .neq (.t 77) (.t 81), some (71, false)⟩, o_ 83 (.pick (.t 71) (.c (.bool true)) (.t 82)), mv 84 83, ⟨some 85, .mov (.t 10), some (84, false)⟩, ⟨some 86, .mov (.t 11), some (84, false)⟩, ⟨some 87, .mov (.t 12), some (84, false)⟩, ⟨some 88, .iaddr 9 1 (.t 86) (.t 87), some (84, false)⟩, ⟨some 89, .ld1 (.t 88), some (84, false)⟩, ⟨some 90, .call 10 [(.t 85), (.t 89)], some (84, false)⟩, ⟨some 91, .mov (.t 13), some (84, false)⟩, ⟨some 92, .binb .neq (.t 90) (.t 91), some (84, false)⟩, o_ 93 (.pick (.t 84) (.c (.bool true)) (.t 92))]
def A_lexiconlaw16_MaskCovers_12 : List AOper := [mv 46 12, o_ 47 (.bini .add (.t 46) (i_ 1)), mv 12 47]
def A_lexiconlaw16_MaskCovers_13 : ACode := (.seq (.seq (.ops A_lexiconlaw16_MaskCovers_8) (.cond (.t 45) .skip (.exit 0))) (.seq (.block 1 (.seq (.ops A_lexiconlaw16_MaskCovers_9) (.seq (.ops A_lexiconlaw16_MaskCovers_10) (.seq (.ops A_lexiconlaw16_MaskCovers_11) (.cond (.t 93) (.seq (.ops [o_ 6 (.mov (.c (.bool false)))]) .ret) .skip))))) (.ops A_lexiconlaw16_MaskCovers_12)))
def A_lexiconlaw16_MaskCovers_14 : List AOper := [mv 94 15, mv 95 8, o_ 96 (.lenl (.t 95)), o_ 97 (.bini .lss (.t 94) (.t 96))]
def A_lexiconlaw16_MaskCovers_15 : List AOper := [mv 100 16, mv 101 8, o_ 102 (.lenl (.t 101)), o_ 103 (.bini .lss (.t 100) (.t 102))]
def A_lexiconlaw16_MaskCovers_16 : List AOper := [mv 106 15, mv 107 16, o_ 108 (.bini .neq (.t 106) (.t 107)), mv 109 108, g_ 110 (.mov (.t 8)) 109, g_ 111 (.mov (.t 15)) 109, g_ 112 (.iaddr 9 1 (.t 110) (.t 111)) 109, g_ 113 (.ld1 (.t 112)) 109, g_ 115 (.mov (.t 8)) 109, g_ 116 (.mov (.t 16)) 109, g_ 117 (.iaddr 9 1 (.t 115) (.t 116)) 109, g_ 118 (.ld1 (.t 117)) 109, g_ 114 (.bslice 9 1 1 [.str []] [(0, 1, (.t 113))]) 109, g_ 119 (.call 10 [(.t 114), (.t 118)]) 109, o_ 120 (.pick (.t 109) (.t 119) (.c (.bool false))), mv 121 120, ⟨some 122, .mov (.t 15), some (121, false)⟩, ⟨some 123, .mov (.t 16), some (121, false)⟩, ⟨some 124, .bini .lss (.t 122) (.t 123), some (121, false)⟩, ⟨some 125, .mov (.t 124), some (121, false)⟩, g_ 126 (.mov (.t 8)) 125, g_ 127 (.mov (.t 15)) 125, g_ 128 (.iaddr 9 1 (.t 126) (.t 127)) 125, g_ 129 (.ld1 (.t 128)) 125, g_ 130 (.mov (.t 8)) 125, g_ 131 (.mov (.t 16)) 125, g_ 132 (.iaddr 9 1 (.t 130) (.t 131)) 125, g_ 133 (.ld1 (.t 132)) 125, g_ 134 (.bins .geq (.t 129) (.t 133)) 125, ⟨some 135, .pick (.t 125) (.t 134) (.c (.bool false)), some (121, false)⟩, o_ 136 (.pick (.t 121) (.c (.bool true)) (.t 135))]
def A_lexiconlaw16_MaskCovers_17 : List AOper := [mv 104 16, o_ 105 (.bini .add (.t 104) (i_ 1)), mv 16 105]
def A_lexiconlaw16_MaskCovers_18 : ACode := (.seq (.seq (.ops A_lexiconlaw16_MaskCovers_15) (.cond (.t 103) .skip (.exit 4))) (.seq (.block 5 (.seq (.alts [106, 107, 108, 109, 110, 111, 112, 113, 114, 115, 116, 117, 118, 119, 120, 121, 122, 123, 124, 125, 126, 127, 128, 129, 130, 131, 132, 133, 134, 135, 136] [A_lexiconlaw16_MaskCovers_16]) (.cond (.t 136) (.seq (.ops [o_ 6 (.mov (.c (.bool false)))]) .ret) .skip))) (.ops A_lexiconlaw16_MaskCovers_17)))
def A_lexiconlaw16_MaskCovers_19 : List AOper := [mv 98 15, o_ 99 (.bini .add (.t 98) (i_ 1)), mv 15 99]
def A_lexiconlaw16_MaskCovers_20 : ACode := (.seq (.seq (.ops A_lexiconlaw16_MaskCovers_14) (.cond (.t 97) .skip (.exit 2))) (.seq (.block 3 (.seq (.ops [o_ 16 (.mov (i_ 0))]) (.block 4 (.loop A_lexiconlaw16_MaskCovers_18)))) (.ops A_lexiconlaw16_MaskCovers_19)))
def A_lexiconlaw16_MaskCovers_21 : List AOper := [mv 137 7, mv 6 137]
def A_lexiconlaw16_MaskCovers : ACode := (.seq (.ops [o_ 6 (.mov (.c (.bool false)))]) (.seq (.seq (.ops A_lexiconlaw16_MaskCovers_0) (.cond (.t 23) (.seq (.ops [o_ 6 (.mov (.c (.bool true)))]) .ret) .skip)) (.seq (.ops A_lexiconlaw16_MaskCovers_1) (.seq (.ops A_lexiconlaw16_MaskCovers_2) (.seq (.ops A_lexiconlaw16_MaskCovers_3) (.seq (.ops A_lexiconlaw16_MaskCovers_4) (.seq (.ops [o_ 11 (.mov (.c (.nils)))]) (.seq (.ops A_lexiconlaw16_MaskCovers_5) (.seq (.ops A_lexiconlaw16_MaskCovers_6) (.seq (.ops A_lexiconlaw16_MaskCovers_7) (.seq (.seq (.ops [o_ 12 (.mov (i_ 0))]) (.block 0 (.loop A_lexiconlaw16_MaskCovers_13))) (.seq (.seq (.ops [o_ 15 (.mov (i_ 0))]) (.block 2 (.loop A_lexiconlaw16_MaskCovers_20))) (.seq (.ops A_lexiconlaw16_MaskCovers_21) .ret)))))))))))))
def R_lexiconlaw16_MaskCovers : List ARes := [.tmp 6]
theorem C_lexiconlaw16_MaskCovers : compF Tryd.prog Tryd.f4 = some (A_lexiconlaw16_MaskCovers, R_lexiconlaw16_MaskCovers) := by kernel_rfl
theorem K_lexiconlaw16_MaskCovers {md : Bool} {args : List AV} {h : Hp} {Q : Res → Hp → Prop} (hl : LCode Tryd.prog md A_lexiconlaw16_MaskCovers (EndQ R_lexiconlaw16_MaskCovers Q) (env0 138 args) h) (hn : args.length ≤ 138 := by (simp; done)) : CallL Tryd.prog F_lexiconlaw16_MaskCovers args h Q :=
  CallL.of (md := md) Tryd.func4 C_lexiconlaw16_MaskCovers (by rw [Tryd.ntmps4]; exact hn) (by rw [Tryd.ntmps4]; exact hl)
end Go.Proofs.YtibdeeejjbmgcaaDoor

/-
  Contracts: prefixes, functions over a list of texts.
-/
namespace Go.Proofs.YtibdeeejjbmgcaaDoor
open Go.L

def el (s : Str) : List AV := [.str s]
abbrev tx (l : List Str) : List (List AV) := l.map el
theorem tx_len (l : List Str) : (tx l).length = l.length := List.length_map ..

theorem noidss_tx (p : Nat → Bool) (l : List Str) : noidss p (tx l) = true := by
  induction l with
  | nil => rfl
  | cons a l ih => simpa [noidss, noids, noid, el] using ih

theorem HasPrefix_L (s p : Str) : PureL Tryd.prog F_internal_stringslite_HasPrefix [.str s, .str p] (.bool (p.isPrefixOf s)) := by
  intro h
  refine K_internal_stringslite_HasPrefix (md := false) ?_
  refine s_le (fun h1 => ?_) (fun h1 => ?_)
  · refine ⟨p.length, rfl, Nat.zero_le _, by omega, ?_⟩
    refine s_b ?_
    refine ⟨rfl, Res.bool_eq ?_, rfl⟩
    rw [List.drop_zero, Bool.eq_iff_iff, beq_iff_eq, List.isPrefixOf_iff_prefix, List.prefix_iff_eq_take]
    exact eq_comm
  · refine ⟨rfl, Res.bool_eq ?_, rfl⟩
    symm
    rw [Bool.eq_false_iff]
    intro hp
    have := (List.isPrefixOf_iff_prefix.1 hp).length_le
    omega

/-- What CutPrefix gives. -/
def cutP (s p : Str) : AV := .tup [.str (bif p.isPrefixOf s then s.drop p.length else s), .bool (p.isPrefixOf s)]

theorem lite_CutPrefix_L (s p : Str) : PureL Tryd.prog F_internal_stringslite_CutPrefix [.str s, .str p] (cutP s p) := by
  intro h
  refine K_internal_stringslite_CutPrefix (md := false) ?_
  refine (HasPrefix_L s p).useC (fun h1 => ?_) (fun h1 => ?_)
  · have := (List.isPrefixOf_iff_prefix.1 h1).length_le
    refine ⟨p.length, rfl, this, Nat.le_refl _, ?_⟩
    refine ⟨rfl, ?_, rfl⟩
    rw [List.take_length, cutP, h1]; rfl
  · refine ⟨rfl, ?_, rfl⟩
    rw [cutP, h1]; rfl

theorem CutPrefix_L (s p : Str) : PureL Tryd.prog F_strings_CutPrefix [.str s, .str p] (cutP s p) := by
  intro h
  refine K_strings_CutPrefix (md := false) ?_
  refine (lite_CutPrefix_L s p).use ?_
  exact ⟨_, rfl, _, rfl, rfl, rfl, rfl⟩

theorem byte46 (c : UInt8) : ((c.toNat : Int) == 46) = (c == 46) := by
  rw [Bool.eq_iff_iff]
  simp only [beq_iff_eq]
  constructor
  · intro h
    have : c.toNat = 46 := by omega
    exact UInt8.toNat_inj.1 this
  · rintro rfl; rfl

theorem covers_L (p q : Str) : PureL Tryd.prog F_mask_covers [.str p, .str q] (.bool (covers p q)) := by
  intro h
  refine K_mask_covers (md := false) ?_
  refine (CutPrefix_L q p).use ?_
  refine ⟨_, rfl, _, rfl, ?_⟩
  cases hpq : p.isPrefixOf q
  · exact ⟨rfl, Res.bool_eq (by rw [covers, hpq]; rfl), rfl⟩
  refine s_seq (fun h1 => ?_) (fun h1 => ?_)
  · exact ⟨rfl, Res.bool_eq (by rw [covers, hpq, show q.drop p.length = [] from h1]; rfl), rfl⟩
  obtain ⟨c, r, hr⟩ : ∃ c r, q.drop p.length = c :: r := by
    cases hd : q.drop p.length with
    | nil => exact absurd hd h1
    | cons c r => exact ⟨c, r, rfl⟩
  refine ⟨0, c, rfl, by show (q.drop p.length)[0]? = _; rw [hr]; rfl, ?_⟩
  refine s_b ?_
  exact ⟨rfl, Res.bool_eq (by rw [covers, hpq, hr, byte46]; rfl), rfl⟩

/-- The first place. -/
def idxF (p : Str → Bool) (l : List Str) : Int := match l.findIdx? p with
  | some k => (k : Nat)
  | none => -1

theorem idx_step {p : Str → Bool} {l : List Str} {k : Nat} {x : Str} (hall : ∀ (j : Nat) (x : Str), j < k → l[j]? = some x → p x = false) (hx : l[k]? = some x) (hpx : p x = false) :
    ∀ (j : Nat) (x : Str), j < k + 1 → l[j]? = some x → p x = false := fun j y hj hy => by
  by_cases e : j = k
  · subst e; rw [hx] at hy; cases hy; exact hpx
  · exact hall j y (by omega) hy
theorem idxF_at {p : Str → Bool} {l : List Str} {k : Nat} {x : Str} (hall : ∀ (j : Nat) (x : Str), j < k → l[j]? = some x → p x = false) (hx : l[k]? = some x) (hpx : p x = true) : ((k : Nat) : Int) = idxF p l := by
  have : l.findIdx? p = some k := by
    rw [List.findIdx?_eq_some_iff_getElem]
    obtain ⟨hlt, hx'⟩ := List.getElem?_eq_some_iff.1 hx
    refine ⟨hlt, by rw [hx']; exact hpx, fun j hj => ?_⟩
    have := hall j l[j] hj (List.getElem?_eq_getElem _)
    simp [this]
  rw [idxF, this]
theorem idxF_end {p : Str → Bool} {l : List Str} {k : Nat} (hk : l.length ≤ k) (hall : ∀ (j : Nat) (x : Str), j < k → l[j]? = some x → p x = false) : (-1 : Int) = idxF p l := by
  have : l.findIdx? p = none := by
    rw [List.findIdx?_eq_none_iff]
    intro x hx
    obtain ⟨j, hj⟩ := List.getElem?_of_mem hx
    have hjl : j < l.length := (List.getElem?_eq_some_iff.1 hj).1
    exact hall j x (by omega) hj
  rw [idxF, this]

theorem IndexFunc_L (g : Nat) (l : List Str) (F : FuncId) (first cap : List AV) (p : Str → Bool) (hb : HasBody Tryd.prog F) (h : Hp)
    (hp : ∀ s ∈ l, CallL Tryd.prog F (first ++ [.str s] ++ cap) h fun r h' => r = .ret (.bool (p s)) ∧ h' = h) (hl : l.length ≤ 1000000000000) :
    CallL Tryd.prog F_slices_IndexFunc [.isl g (tx l), .func (.func F) first cap] h fun r h' => r = .ret (.int .i64 (idxF p l)) ∧ h' = h := by
  refine K_slices_IndexFunc (md := false) ?_
  refine s_loop l.length (fun k (_ : Unit) => k ≤ l.length ∧ ∀ (j : Nat) (x : Str), j < k → l[j]? = some x → p x = false) (fun k _ => [(0, .isl g (tx l)), (1, .func (.func F) first cap), (7, .int .i64 (tx l).length), (8, .int .i64 k)]) (fun _ _ => h) ()
    ⟨Nat.zero_le _, fun j x hj => by omega⟩ rfl rfl ⟨rfl, rfl, rfl, rfl, trivial⟩ (fun k s hI => hI.1) ?_
  intro k _ n0 g0 hk ⟨_, hall⟩
  have htl := tx_len l
  refine s_lt (fun h1 => ?_) (fun h1 => ?_)
  · obtain ⟨x, hx⟩ := get_lt (l := l) (k := k) (by omega)
    refine s_at k x rfl hx rfl (by decide) ?_
    refine ⟨_, rfl, ?_⟩
    refine ⟨hb, (hp x (List.mem_of_getElem? hx)).mono ?_⟩
    rintro r h' ⟨rfl, rfl⟩
    cases hpx : p x
    · refine s_nat (k + 1) (by omega) (by omega) ?_
      exact ⟨(), by omega, ⟨by omega, idx_step hall hx hpx⟩, rfl, rfl, rfl, rfl, rfl, rfl, trivial⟩
    · exact ⟨rfl, Res.int_eq (idxF_at hall hx hpx), rfl⟩
  · exact ⟨rfl, Res.int_eq (idxF_end (by omega) hall), rfl⟩

theorem idxF_any (p : Str → Bool) (l : List Str) : decide ((0 : Int) ≤ idxF p l) = l.any p := by
  unfold idxF
  cases h : l.findIdx? p with
  | some k =>
    have : l.any p = true := by
      obtain ⟨hlt, h1, _⟩ := List.findIdx?_eq_some_iff_getElem.1 h
      exact List.any_eq_true.2 ⟨_, List.getElem_mem _, h1⟩
    rw [this]; exact decide_eq_true (show (0 : Int) ≤ (k : Nat) by omega)
  | none =>
    have : l.any p = false := by
      rw [List.any_eq_false]
      intro x hx
      simp [List.findIdx?_eq_none_iff.1 h x hx]
    rw [this]; rfl

theorem ContainsFunc_L (g : Nat) (l : List Str) (F : FuncId) (first cap : List AV) (p : Str → Bool) (hb : HasBody Tryd.prog F) (h : Hp)
    (hp : ∀ s ∈ l, CallL Tryd.prog F (first ++ [.str s] ++ cap) h fun r h' => r = .ret (.bool (p s)) ∧ h' = h) (hl : l.length ≤ 1000000000000) :
    CallL Tryd.prog F_slices_ContainsFunc [.isl g (tx l), .func (.func F) first cap] h fun r h' => r = .ret (.bool (l.any p)) ∧ h' = h := by
  refine K_slices_ContainsFunc (md := false) ?_
  refine (IndexFunc_L g l F first cap p hb h hp hl).mono ?_
  rintro r h' ⟨rfl, rfl⟩
  refine s_b ?_
  exact ⟨rfl, Res.bool_eq (idxF_any p l), rfl⟩

theorem HasBody.covers1 : HasBody Tryd.prog F_mask_Covers_c1 := ⟨_, Tryd.func20, by kernel_rfl, by kernel_rfl⟩

theorem Covers_L (g : Nat) (l : List Str) (q : Str) (hl : l.length ≤ 1000000000000) : PureL Tryd.prog F_mask_Covers [.isl g (tx l), .str q] (.bool (l.any fun p => covers p q)) := by
  refine PureL.nil (by simp [noids, noid, anyMark, noidss_tx]) ?_
  refine K_mask_Covers (md := false) ?_
  refine ⟨rfl, rfl, fun i hi => ?_⟩
  refine (ContainsFunc_L g l F_mask_Covers_c1 [] [.ptr i 0 0] (fun p => covers p q) HasBody.covers1 _ (fun s _ => ?_) hl).mono ?_
  · refine K_mask_Covers_c1 (md := false) ?_
    refine ⟨_, _, _, _, Hp.set_same _ _ _, rfl, rfl, ?_⟩
    refine (covers_L s q).use ?_
    exact ⟨rfl, rfl, rfl⟩
  · rintro r h' ⟨rfl, rfl⟩
    exact ⟨rfl, _, rfl, .same _ rfl⟩
end Go.Proofs.YtibdeeejjbmgcaaDoor

/- The laying of slices.Sort over texts in the given program: the shelf's contract may be used; no conditions. Printed by program. -/
namespace Go.Proofs.YtibdeeejjbmgcaaDoor
open Go.Shelf
def sortLaid_ren : Go.Shelf.Ren := ⟨fun | 6 => 14 | 8 => 27 | 9 => 26 | 19 => 41 | 20 => 42 | 21 => 32 | 22 => 33 | 23 => 34 | 24 => 35 | 25 => 36 | 26 => 37 | 27 => 38 | 28 => 39 | 29 => 40 | 36 => 50 | 31 => 51 | 32 => 52 | 37 => 53 | 38 => 54 | 39 => 55 | 41 => 61 | n => n, fun | 27 => 23 | 29 => 9 | 3 => 3 | 32 => 44 | 26 => 23 | 0 => 0 | 44 => 58 | 46 => 60 | 4 => 4 | 36 => 51 | 35 => 50 | 41 => 55 | 5 => 5 | 9 => 9 | 53 => 64 | 57 => 68 | 63 => 74 | 64 => 75 | n => n, fun | n => n⟩
theorem sortLaid : Go.Proofs.SlLaysM.n6 Tryd.prog sortLaid_ren := {
  mixed := by kernel_rfl
  f6 := ⟨Tryd.f14.name, by decide, Tryd.func14.trans (congrArg some (by kernel_rfl))⟩
  f8 := Tryd.func27.trans (congrArg some (by kernel_rfl))
  f9 := ⟨Tryd.f26.name, by decide, Tryd.func26.trans (congrArg some (by kernel_rfl))⟩
  f19 := Tryd.func41.trans (congrArg some (by kernel_rfl))
  f20 := Tryd.func42.trans (congrArg some (by kernel_rfl))
  f21 := ⟨Tryd.f32.name, by decide, Tryd.func32.trans (congrArg some (by kernel_rfl))⟩
  f22 := ⟨Tryd.f33.name, by decide, Tryd.func33.trans (congrArg some (by kernel_rfl))⟩
  f23 := ⟨Tryd.f34.name, by decide, Tryd.func34.trans (congrArg some (by kernel_rfl))⟩
  f24 := ⟨Tryd.f35.name, by decide, Tryd.func35.trans (congrArg some (by kernel_rfl))⟩
  f25 := ⟨Tryd.f36.name, by decide, Tryd.func36.trans (congrArg some (by kernel_rfl))⟩
  f26 := ⟨Tryd.f37.name, by decide, Tryd.func37.trans (congrArg some (by kernel_rfl))⟩
  f27 := ⟨Tryd.f38.name, by decide, Tryd.func38.trans (congrArg some (by kernel_rfl))⟩
  f28 := ⟨Tryd.f39.name, by decide, Tryd.func39.trans (congrArg some (by kernel_rfl))⟩
  f29 := ⟨Tryd.f40.name, by decide, Tryd.func40.trans (congrArg some (by kernel_rfl))⟩
  f31 := Tryd.func51.trans (congrArg some (by kernel_rfl))
  f32 := Tryd.func52.trans (congrArg some (by kernel_rfl))
  f36 := ⟨Tryd.f50.name, by decide, Tryd.func50.trans (congrArg some (by kernel_rfl))⟩
  f37 := ⟨Tryd.f53.name, by decide, Tryd.func53.trans (congrArg some (by kernel_rfl))⟩
  f38 := ⟨Tryd.f54.name, by decide, Tryd.func54.trans (congrArg some (by kernel_rfl))⟩
  f39 := ⟨Tryd.f55.name, by decide, Tryd.func55.trans (congrArg some (by kernel_rfl))⟩
  f41 := ⟨Tryd.f61.name, by decide, Tryd.func61.trans (congrArg some (by kernel_rfl))⟩
  t0 := Tryd.underlying0
  a0 := Tryd.isAgg0
  z0 := Tryd.sizeOf0
  v0 := Tryd.zeroValue0
  t3 := Tryd.underlying3
  a3 := Tryd.isAgg3
  z3 := Tryd.sizeOf3
  v3 := Tryd.zeroValue3
  t4 := Tryd.underlying4
  a4 := Tryd.isAgg4
  z4 := Tryd.sizeOf4
  v4 := Tryd.zeroValue4
  t5 := Tryd.underlying5
  a5 := Tryd.isAgg5
  z5 := Tryd.sizeOf5
  v5 := Tryd.zeroValue5
  t9 := Tryd.underlying9
  a9 := Tryd.isAgg9
  z9 := Tryd.sizeOf9
  v9 := Tryd.zeroValue9
  t26 := Tryd.underlying23
  a26 := Tryd.isAgg23
  z26 := Tryd.sizeOf23
  v26 := Tryd.zeroValue23
  t27 := Tryd.underlying23
  a27 := Tryd.isAgg23
  z27 := Tryd.sizeOf23
  v27 := Tryd.zeroValue23
  t29 := Tryd.underlying9
  a29 := Tryd.isAgg9
  z29 := Tryd.sizeOf9
  v29 := Tryd.zeroValue9
  t32 := Tryd.underlying44
  a32 := Tryd.isAgg44
  z32 := Tryd.sizeOf44
  v32 := Tryd.zeroValue44
  t35 := Tryd.underlying50
  a35 := Tryd.isAgg50
  z35 := Tryd.sizeOf50
  v35 := Tryd.zeroValue50
  t36 := Tryd.underlying51
  a36 := Tryd.isAgg51
  z36 := Tryd.sizeOf51
  v36 := Tryd.zeroValue51
  t41 := Tryd.underlying55
  a41 := Tryd.isAgg55
  z41 := Tryd.sizeOf55
  v41 := Tryd.zeroValue55
  t44 := Tryd.underlying58
  a44 := Tryd.isAgg58
  z44 := Tryd.sizeOf58
  v44 := Tryd.zeroValue58
  t46 := Tryd.underlying60
  a46 := Tryd.isAgg60
  z46 := Tryd.sizeOf60
  v46 := Tryd.zeroValue60
  t53 := Tryd.underlying64
  a53 := Tryd.isAgg64
  z53 := Tryd.sizeOf64
  v53 := Tryd.zeroValue64
  t57 := Tryd.underlying68
  a57 := Tryd.isAgg68
  z57 := Tryd.sizeOf68
  v57 := Tryd.zeroValue68
  t63 := Tryd.underlying74
  a63 := Tryd.isAgg74
  z63 := Tryd.sizeOf74
  v63 := Tryd.zeroValue74
  t64 := Tryd.underlying75
  a64 := Tryd.isAgg75
  z64 := Tryd.sizeOf75
  v64 := Tryd.zeroValue75 }
end Go.Proofs.YtibdeeejjbmgcaaDoor

/-
  Contracts: slices of texts.
-/
namespace Go.Proofs.YtibdeeejjbmgcaaDoor
open Go.L

abbrev Ts : TypeId := 9

theorem Clone_L (g : Nat) (l : List Str) (h : Hp) (hl : l.length ≤ 1000000000000) : CallL Tryd.prog F_slices_Clone [.isl g (tx l)] h fun r h' => OwnR Ts h h' r (tx l) := by
  refine K_slices_Clone (md := false) ?_
  have fin : LCode Tryd.prog false (.seq (.ops A_slices_Clone_1) .ret) (EndQ R_slices_Clone fun r h' => OwnR Ts h h' r (tx l)) (puts (env0 13 [.isl g (tx l)]) []) h → True := fun _ => trivial
  clear fin
  have app : ∀ i, Fresh h i → ∀ (N : AV → Hp → Prop), (∀ c, (∀ x, c = some x → (tx l).length ≤ x) → ∀ j h', h.u j = false → Gr h h' → h' j = some (.row Ts (tx l)) → N (.slc j 0 (tx l).length c) h') →
      LApp false Ts 1 16 (.slc i 0 0 (some 0)) (.isl g (tx l)) (h.set i (.row Ts [])) N := by
    intro i hi N hN
    refine ⟨tx l, rfl, fun cs hcs => ?_, ?_⟩
    · obtain ⟨s, _, rfl⟩ := List.mem_map.1 hcs; rfl
    have htl := tx_len l
    refine ⟨[], Hp.set_same _ _ _, Nat.le_refl _, fun cs hcs => ?_, ?_⟩
    · obtain ⟨s, _, rfl⟩ := List.mem_map.1 hcs; rfl
    by_cases h0 : l = []
    · subst h0
      refine .inl ⟨Nat.le_refl _, Nat.le_refl _, ?_⟩
      exact hN _ (fun x hx => by cases hx; exact Nat.le_refl _) _ _ hi.1 (((Gr.refl h).set hi.1 _).set hi.1 _) (Hp.set_same _ _ _)
    · have : 0 < l.length := List.length_pos_iff.2 h0
      refine .inr ⟨by omega, by unfold capMax; omega, by unfold capMax; omega, fun j hj => ?_⟩
      have hj1 : h.u j = false := ((Gr.refl h).set hi.1 (.row Ts [])).new hj.1
      have := hN none (fun x hx => by cases hx) j ((h.set i (.row Ts [])).set j (.row Ts (tx l))) hj1 (((Gr.refl h).set hi.1 _).set hj1 _) (Hp.set_same _ _ _)
      simpa using this
  cases l with
  | nil =>
    intro b
    cases b
    · refine .inr fun i hi => ?_
      refine app i hi _ fun c hc j h' hj hg hb => ?_
      exact ⟨rfl, .inr ⟨j, c, rfl, hc, hj, hg, hb⟩⟩
    · exact ⟨rfl, .inl ⟨rfl, rfl, rfl⟩⟩
  | cons a l =>
    refine .inr fun i hi => ?_
    refine app i hi _ fun c hc j h' hj hg hb => ?_
    exact ⟨rfl, .inr ⟨j, c, rfl, hc, hj, hg, hb⟩⟩

/-- An owned row: its block, how many cells stand. -/
theorem Clip_L (i n : Nat) (c : Option Nat) (es : List (List AV)) (h : Hp) (hi : h i = some (.row Ts es)) (hc : ∀ x, c = some x → n ≤ x) :
    CallL Tryd.prog F_slices_Clip [.slc i 0 n c] h fun r h' => r = .ret (.slc i 0 n (some n)) ∧ h' = h := by
  refine K_slices_Clip (md := false) ?_
  refine ⟨⟨es, hi⟩, n, rfl, ?_⟩
  refine ⟨n, rfl, Nat.zero_le _, Nat.le_refl _, ?_, ?_⟩
  · cases c with
    | none => exact Nat.le_refl _
    | some x => exact hc x rfl
  · exact ⟨rfl, rfl, rfl⟩

theorem Clip_nil_L (h : Hp) : CallL Tryd.prog F_slices_Clip [.nils] h fun r h' => r = .ret .nils ∧ h' = h := by
  refine K_slices_Clip (md := false) ?_
  refine ⟨0, rfl, 0, rfl, rfl, rfl, rfl, ?_⟩
  exact ⟨rfl, rfl, rfl⟩

theorem tx_get {l : List Str} {k : Nat} {x : Str} (h : l[k]? = some x) : (tx l)[k]? = some (el x) := by rw [List.getElem?_map, h]; rfl

theorem tx_take (l : List Str) (k : Nat) : tx (l.take k) = (tx l).take k := List.map_take
theorem tx_get2 {l : List Str} {rest : List (List AV)} {k : Nat} {x : Str} (h : l[k]? = some x) : (tx l ++ rest)[k]? = some (el x) := by
  rw [List.getElem?_append_left (by rw [tx_len]; exact (List.getElem?_eq_some_iff.1 h).1)]; exact tx_get h

/-- The cells behind what stands. -/
abbrev blank (k : Nat) : List (List AV) := List.replicate k (el [])

theorem Compact_L (i : Nat) (c : Option Nat) (l : List Str) (h : Hp) (hi : h i = some (.row Ts (tx l))) (hc : ∀ x, c = some x → l.length ≤ x) (hl : l.length ≤ 1000000000000) :
    CallL Tryd.prog F_slices_Compact [.slc i 0 l.length c] h fun r h' => r = .ret (.slc i 0 (ddS l).length c) ∧ h' = h.set i (.row Ts (tx (ddS l) ++ blank (l.length - (ddS l).length))) := by
  have htl := tx_len l
  refine K_slices_Compact (md := false) ?_
  have same : ddS l = l → h = h.set i (.row Ts (tx (ddS l) ++ blank (l.length - (ddS l).length))) := fun e => by
    rw [e, Nat.sub_self]
    show h = h.set i (.row Ts (tx l ++ []))
    rw [List.append_nil, Hp.set_self hi]
  refine s_lt (fun h1 => ?_) (fun h1 => ?_)
  · have e : ddS l = l := ddS_short (by omega)
    exact ⟨rfl, by rw [e]; rfl, same e⟩
  refine s_loop l.length (fun k (_ : Unit) => k + 1 ≤ l.length ∧ ddS (l.take (k + 1)) = l.take (k + 1)) (fun k _ => [(0, .slc i 0 l.length c), (3, .int .i64 ((k + 1 : Nat) : Int))]) (fun _ _ => h) () ⟨by omega, ddS_short (by simp; omega)⟩ rfl rfl ⟨rfl, rfl, trivial⟩ (fun k s hI => by omega) ?_
  intro k _ n0 g0 hk ⟨hk1, hdd⟩
  refine s_lt (fun h2 => ?_) (fun h2 => ?_)
  · obtain ⟨x, hx⟩ := get_lt (l := l) (k := k + 1) (by omega)
    obtain ⟨y, hy⟩ := get_lt (l := l) (k := k) (by omega)
    refine ⟨k + 1, rfl, by omega, ⟨_, hi⟩, ?_⟩
    refine ⟨_, _, _, _, hi, by rw [Nat.zero_add]; exact tx_get hx, rfl, ?_⟩
    refine s_nat k (by omega) (by omega) ?_
    refine ⟨k, rfl, by omega, ⟨_, hi⟩, ?_⟩
    refine ⟨_, _, _, _, hi, by rw [Nat.zero_add]; exact tx_get hy, rfl, ?_⟩
    have hlast : (ddS (l.take (k + 1))).getLast? = some y := by rw [ddS_last, List.getLast?_take_succ hy]
    have hstep : ddS (l.take (k + 2)) = if some y = some x then ddS (l.take (k + 1)) else ddS (l.take (k + 1)) ++ [x] := by
      rw [List.take_succ_of_get hx, ddS_snoc, hlast]
    refine s_seq (fun h3 => ?_) (fun h3 => ?_)
    · -- one that is like the one ahead: from here on they are moved
      subst h3
      rw [if_pos rfl] at hstep
      refine ⟨⟨_, hi⟩, k + 1, rfl, by omega, ?_, ?_⟩
      · cases c with
        | none => exact Nat.le_refl _
        | some z => exact hc z rfl
      refine s_loop l.length (fun j (_ : Unit) => k + 1 + (j + 1) ≤ l.length ∧ (ddS (l.take (k + 1 + (j + 1)))).length ≤ k + 1 + j) (fun j _ => [(0, .slc i 0 l.length c), (3, .int .i64 (ddS (l.take (k + 1 + (j + 1)))).length), (4, .slc i (0 + (k + 1)) (l.length - (k + 1)) (c.map (· - (k + 1)))), (5, .int .i64 ((j + 1 : Nat) : Int))])
        (fun j _ => h.set i (.row Ts (tx (ddS (l.take (k + 1 + (j + 1)))) ++ (tx l).drop (ddS (l.take (k + 1 + (j + 1)))).length))) () ⟨by omega, by rw [hstep, hdd, List.length_take]; omega⟩ ?_ rfl ⟨rfl, ?_, rfl, rfl, trivial⟩ (fun j s hI => by omega) ?_
      · rw [hstep, hdd]
        have e : tx (l.take (k + 1)) ++ (tx l).drop (l.take (k + 1)).length = tx l := by
          rw [List.length_take, Nat.min_eq_left (by omega), tx_take, List.take_append_drop]
        rw [e, Hp.set_self hi]
      · show AV.int _ _ = _
        rw [hstep, hdd, List.length_take, Nat.min_eq_left (by omega)]
      intro j _ n1 g1 hj ⟨hj1, hja⟩
      obtain ⟨A, hA⟩ : ∃ A, A = ddS (l.take (k + 1 + (j + 1))) := ⟨_, rfl⟩
      rw [← hA] at hja ⊢
      have hset : (h.set i (.row Ts (tx A ++ (tx l).drop A.length))).m i = some (.row Ts (tx A ++ (tx l).drop A.length)) := Hp.set_same _ _ _
      have htA := tx_len A
      have rd : ∀ (p : Nat) (z : Str), A.length ≤ p → l[p]? = some z → (tx A ++ (tx l).drop A.length)[p]? = some (el z) := fun p z hp hz => by
        rw [List.getElem?_append_right (by omega), List.getElem?_drop, htA]
        rw [show A.length + (p - A.length) = p by omega]; exact tx_get hz
      refine s_lt (fun h4 => ?_) (fun h4 => ?_)
      · obtain ⟨u, hu⟩ := get_lt (l := l) (k := k + 1 + (j + 1)) (by omega)
        obtain ⟨v, hv⟩ := get_lt (l := l) (k := k + 1 + j) (by omega)
        have hlast2 : A.getLast? = some v := by rw [hA, ddS_last, show k + 1 + (j + 1) = k + 1 + j + 1 by omega, List.getLast?_take_succ hv]
        have hstep2 : ddS (l.take (k + 1 + (j + 1 + 1))) = if some v = some u then A else A ++ [u] := by
          rw [show k + 1 + (j + 1 + 1) = k + 1 + (j + 1) + 1 by omega, List.take_succ_of_get hu, ddS_snoc, ← hA, hlast2]
        refine ⟨j + 1, rfl, by omega, ⟨_, hset⟩, ?_⟩
        refine ⟨_, _, _, _, hset, rd _ u (by omega) (by rw [show 0 + (k + 1) + (j + 1) = k + 1 + (j + 1) by omega]; exact hu), rfl, ?_⟩
        refine s_nat j (by omega) (by omega) ?_
        refine ⟨j, rfl, by omega, ⟨_, hset⟩, ?_⟩
        refine ⟨_, _, _, _, hset, rd _ v (by omega) (by rw [show 0 + (k + 1) + j = k + 1 + j by omega]; exact hv), rfl, ?_⟩
        refine s_sne (fun h5 => ?_) (fun h5 => ?_)
        · rw [if_neg (fun e => h5 (by cases e; rfl))] at hstep2
          refine ⟨j + 1, rfl, by omega, ⟨_, hset⟩, ?_⟩
          refine ⟨_, _, _, _, hset, rd _ u (by omega) (by rw [show 0 + (k + 1) + (j + 1) = k + 1 + (j + 1) by omega]; exact hu), rfl, ?_⟩
          refine ⟨A.length, rfl, by omega, ⟨_, hset⟩, ?_⟩
          obtain ⟨w, hw⟩ := get_lt (l := l) (k := A.length) (by omega)
          refine ⟨_, _, _, hset, rd _ w (by omega) (by rw [Nat.zero_add]; exact hw), rfl, rfl, rfl, Nat.le_refl _, ?_⟩
          refine s_nat (A.length + 1) (by omega) (by omega) ?_
          refine s_nat (j + 1 + 1) (by omega) (by omega) ?_
          refine ⟨(), by omega, ⟨by omega, by rw [hstep2]; simp; omega⟩, ?_, rfl, rfl, ?_, rfl, rfl, trivial⟩
          · rw [hstep2, Hp.set_set]
            have e : (tx A ++ (tx l).drop A.length).set (0 + A.length) (el u) = tx (A ++ [u]) ++ (tx l).drop (A ++ [u]).length := by
              rw [Nat.zero_add, List.set_append_right _ _ (by omega), htA, Nat.sub_self]
              have h7 : (tx l).drop A.length = (el w) :: (tx l).drop (A.length + 1) := by
                rw [List.drop_eq_getElem_cons (by omega)]
                have := tx_get hw
                rw [List.getElem?_eq_getElem (by omega)] at this
                rw [Option.some.inj this]
              rw [h7, List.set_cons_zero]
              simp
            exact congrArg (fun es => h.set i (.row Ts es)) e
          · show AV.int _ _ = _
            rw [hstep2]; simp
        · subst h5
          rw [if_pos rfl] at hstep2
          refine s_nat (j + 1 + 1) (by omega) (by omega) ?_
          refine ⟨(), by omega, ⟨by omega, by rw [hstep2]; omega⟩, by rw [hstep2], rfl, rfl, ?_, rfl, rfl, trivial⟩
          show AV.int _ _ = _
          rw [hstep2]
      · -- behind the moving
        have hend : l.take (k + 1 + (j + 1)) = l := List.take_of_length_le (by omega)
        rw [hend] at hA
        have hdl : A.length ≤ l.length := by omega
        refine ⟨⟨_, hset⟩, A.length, rfl, hdl, ?_, ?_⟩
        · cases c with
          | none => exact Nat.le_refl _
          | some z => exact hc z rfl
        refine ⟨_, hset, by simp <;> omega, rfl, ?_⟩
        refine ⟨⟨_, Hp.set_same _ _ _⟩, A.length, rfl, Nat.zero_le _, ?_, ?_⟩
        · cases c with
          | none => exact hdl
          | some z => exact Nat.le_trans hdl (hc z rfl)
        refine ⟨rfl, ?_, ?_⟩
        · rw [← hA]
          cases c <;> rfl
        · rw [Hp.set_set, ← hA]
          refine congrArg (fun es => h.set i (.row Ts es)) ?_
          have e1 : (tx A ++ (tx l).drop A.length).take (0 + A.length) = tx A := by rw [Nat.zero_add, ← htA, List.take_left]
          have e2 : (tx A ++ (tx l).drop A.length).drop (0 + A.length + (l.length - A.length)) = [] := List.drop_of_length_le (by simp <;> omega)
          rw [e1, e2, List.append_nil]; rfl
    · rw [if_neg (fun e => h3 (by cases e; rfl))] at hstep
      refine s_nat (k + 1 + 1) (by omega) (by omega) ?_
      refine ⟨(), by omega, ⟨by omega, ?_⟩, rfl, rfl, rfl, rfl, trivial⟩
      rw [hstep, hdd, List.take_succ_of_get hx]
  · have e : ddS l = l := by
      have h4 : l.take (k + 1) = l := List.take_of_length_le (by omega)
      rw [h4] at hdd; exact hdd
    exact ⟨rfl, by rw [e]; rfl, same e⟩

/-- IndexFunc over a row of one's own. -/
theorem IndexFunc_slc_L (i : Nat) (c : Option Nat) (l : List Str) (F : FuncId) (first cap : List AV) (p : Str → Bool) (hb : HasBody Tryd.prog F) (rest : List (List AV)) (h : Hp) (hi : h i = some (.row Ts (tx l ++ rest)))
    (hp : ∀ s ∈ l, CallL Tryd.prog F (first ++ [.str s] ++ cap) h fun r h' => r = .ret (.bool (p s)) ∧ h' = h) (hl : l.length ≤ 1000000000000) :
    CallL Tryd.prog F_slices_IndexFunc [.slc i 0 l.length c, .func (.func F) first cap] h fun r h' => r = .ret (.int .i64 (idxF p l)) ∧ h' = h := by
  refine K_slices_IndexFunc (md := false) ?_
  refine s_loop l.length (fun k (_ : Unit) => k ≤ l.length ∧ ∀ (j : Nat) (x : Str), j < k → l[j]? = some x → p x = false) (fun k _ => [(0, .slc i 0 l.length c), (1, .func (.func F) first cap), (7, .int .i64 l.length), (8, .int .i64 k)]) (fun _ _ => h) ()
    ⟨Nat.zero_le _, fun j x hj => by omega⟩ rfl rfl ⟨rfl, rfl, rfl, rfl, trivial⟩ (fun k s hI => hI.1) ?_
  intro k _ n0 g0 hk ⟨_, hall⟩
  refine s_lt (fun h1 => ?_) (fun h1 => ?_)
  · obtain ⟨x, hx⟩ := get_lt (l := l) (k := k) (by omega)
    refine ⟨k, rfl, by omega, ⟨_, hi⟩, ?_⟩
    refine ⟨_, _, _, _, hi, by rw [Nat.zero_add]; exact tx_get2 hx, rfl, ?_⟩
    refine ⟨hb, (hp x (List.mem_of_getElem? hx)).mono ?_⟩
    rintro r h' ⟨rfl, rfl⟩
    cases hpx : p x
    · refine s_nat (k + 1) (by omega) (by omega) ?_
      exact ⟨(), by omega, ⟨by omega, idx_step hall hx hpx⟩, rfl, rfl, rfl, rfl, rfl, rfl, trivial⟩
    · exact ⟨rfl, Res.int_eq (idxF_at hall hx hpx), rfl⟩
  · exact ⟨rfl, Res.int_eq (idxF_end (by omega) hall), rfl⟩

theorem DeleteFunc_L (i : Nat) (c : Option Nat) (l : List Str) (F : FuncId) (first cap : List AV) (p : Str → Bool) (hb : HasBody Tryd.prog F) (rest : List (List AV)) (h : Hp) (hi : h i = some (.row Ts (tx l ++ rest))) (hc : ∀ x, c = some x → l.length ≤ x)
    (hp : ∀ b, ∀ s ∈ l, CallL Tryd.prog F (first ++ [.str s] ++ cap) (h.set i b) fun r h' => r = .ret (.bool (p s)) ∧ h' = h.set i b) (hl : l.length ≤ 1000000000000) :
    CallL Tryd.prog F_slices_DeleteFunc [.slc i 0 l.length c, .func (.func F) first cap] h fun r h' => r = .ret (.slc i 0 (l.filter fun x => !p x).length c) ∧
      h' = h.set i (.row Ts (tx (l.filter fun x => !p x) ++ blank (l.length - (l.filter fun x => !p x).length) ++ rest)) := by
  have htl := tx_len l
  refine K_slices_DeleteFunc (md := false) ?_
  refine (IndexFunc_slc_L i c l F first cap p hb rest h hi (fun s hs => by have := hp (.row Ts (tx l ++ rest)) s hs; rw [Hp.set_self hi] at this; exact this) hl).mono ?_
  rintro r h' ⟨rfl, rfl⟩
  cases hf : l.findIdx? p with
  | none =>
    have e : l.filter (fun x => !p x) = l := by
      rw [List.filter_eq_self]
      intro x hx
      simp [List.findIdx?_eq_none_iff.1 hf x hx]
    have : idxF p l = -1 := by rw [idxF, hf]
    refine s_eq (fun h1 => ?_) (fun h1 => ?_)
    · refine ⟨rfl, by rw [e]; rfl, ?_⟩
      rw [e, Nat.sub_self]
      show h' = h'.set i (.row Ts (tx l ++ [] ++ rest))
      rw [List.append_nil, Hp.set_self hi]
    · exact absurd this h1
  | some k =>
    obtain ⟨hkl, hpk, hall⟩ := List.findIdx?_eq_some_iff_getElem.1 hf
    have hix : idxF p l = (k : Nat) := by rw [idxF, hf]
    have e0 : (l.take k).filter (fun x => !p x) = l.take k := by
      rw [List.filter_eq_self]
      intro x hx
      obtain ⟨j, hj⟩ := List.getElem?_of_mem hx
      have hjk : j < k := by have := (List.getElem?_eq_some_iff.1 hj).1; simp at this; omega
      rw [List.getElem?_take_of_lt hjk, List.getElem?_eq_getElem (by omega)] at hj
      have := hall j hjk
      rw [← Option.some.inj hj]; simpa using this
    have e1 : (l.take (k + 1)).filter (fun x => !p x) = l.take k := by
      rw [List.take_succ_of_get (List.getElem?_eq_getElem hkl), List.filter_append, e0]
      simp [hpk]
    rw [hix]
    refine s_eq (fun h1 => by omega) (fun h1 => ?_)
    refine s_nat (k + 1) (by omega) (by omega) ?_
    refine s_loop l.length (fun j (_ : Unit) => k + 1 + j ≤ l.length ∧ ((l.take (k + 1 + j)).filter fun x => !p x).length ≤ k + j)
      (fun j _ => [(0, .slc i 0 l.length c), (1, .func (.func F) first cap), (5, .int .i64 ((l.take (k + 1 + j)).filter fun x => !p x).length), (6, .int .i64 ((k + 1 + j : Nat) : Int))])
      (fun j _ => h'.set i (.row Ts (tx ((l.take (k + 1 + j)).filter fun x => !p x) ++ (tx l ++ rest).drop ((l.take (k + 1 + j)).filter fun x => !p x).length))) () ⟨by omega, by rw [Nat.add_zero, e1]; simp; omega⟩ ?_ rfl ⟨rfl, rfl, ?_, rfl, trivial⟩ (fun j s hI => by omega) ?_
    · rw [Nat.add_zero, e1]
      have e : tx (l.take k) ++ (tx l ++ rest).drop (l.take k).length = tx l ++ rest := by
        rw [List.length_take, Nat.min_eq_left (by omega), List.drop_append_of_le_length (by omega), ← List.append_assoc, tx_take, List.take_append_drop]
      rw [e, Hp.set_self hi]
    · show AV.int _ _ = _
      rw [Nat.add_zero, e1, List.length_take, Nat.min_eq_left (by omega)]
    intro j _ n0 g0 hj ⟨hj1, hja⟩
    obtain ⟨A, hA⟩ : ∃ A, A = (l.take (k + 1 + j)).filter fun x => !p x := ⟨_, rfl⟩
    rw [← hA] at hja ⊢
    have hset : (h'.set i (.row Ts (tx A ++ (tx l ++ rest).drop A.length))).m i = some (.row Ts (tx A ++ (tx l ++ rest).drop A.length)) := Hp.set_same _ _ _
    have htA := tx_len A
    have rd : ∀ (p : Nat) (z : Str), A.length ≤ p → l[p]? = some z → (tx A ++ (tx l ++ rest).drop A.length)[p]? = some (el z) := fun p z hp hz => by
      rw [List.getElem?_append_right (by omega), List.getElem?_drop, htA]
      rw [show A.length + (p - A.length) = p by omega]; exact tx_get2 hz
    refine s_lt (fun h2 => ?_) (fun h2 => ?_)
    · obtain ⟨x, hx⟩ := get_lt (l := l) (k := k + 1 + j) (by omega)
      have hstep : (l.take (k + 1 + (j + 1))).filter (fun x => !p x) = if p x = true then A else A ++ [x] := by
        rw [show k + 1 + (j + 1) = k + 1 + j + 1 by omega, List.take_succ_of_get hx, List.filter_append, ← hA]
        cases hpx : p x <;> simp [hpx]
      refine ⟨k + 1 + j, rfl, by omega, ⟨_, hset⟩, ?_⟩
      refine ⟨_, _, _, _, hset, rd _ x (by omega) (by rw [Nat.zero_add]; exact hx), rfl, ?_⟩
      refine ⟨hb, (hp _ x (List.mem_of_getElem? hx)).mono ?_⟩
      rintro r h2' ⟨rfl, rfl⟩
      cases hpx : p x
      · rw [hpx, if_neg (by simp)] at hstep
        refine ⟨A.length, rfl, by omega, ⟨_, hset⟩, ?_⟩
        obtain ⟨w, hw⟩ := get_lt (l := l) (k := A.length) (by omega)
        refine ⟨_, _, _, hset, rd _ w (by omega) (by rw [Nat.zero_add]; exact hw), rfl, rfl, rfl, Nat.le_refl _, ?_⟩
        refine s_nat (A.length + 1) (by omega) (by omega) ?_
        refine s_nat (k + 1 + (j + 1)) (by omega) (by omega) ?_
        refine ⟨(), by omega, ⟨by omega, by rw [hstep]; simp; omega⟩, ?_, rfl, rfl, rfl, ?_, rfl, trivial⟩
        · rw [hstep, Hp.set_set]
          have e : (tx A ++ (tx l ++ rest).drop A.length).set (0 + A.length) (el x) = tx (A ++ [x]) ++ (tx l ++ rest).drop (A ++ [x]).length := by
            rw [Nat.zero_add, List.set_append_right _ _ (by omega), htA, Nat.sub_self]
            have h7 : (tx l ++ rest).drop A.length = (el w) :: (tx l ++ rest).drop (A.length + 1) := by
              rw [List.drop_eq_getElem_cons (by simp; omega)]
              have := tx_get2 (rest := rest) hw
              rw [List.getElem?_eq_getElem (by simp; omega)] at this
              rw [Option.some.inj this]
            rw [h7, List.set_cons_zero]
            simp
          exact congrArg (fun es => h'.set i (.row Ts es)) e
        · show AV.int _ _ = _
          rw [hstep]; simp
      · rw [hpx, if_pos rfl] at hstep
        refine s_nat (k + 1 + (j + 1)) (by omega) (by omega) ?_
        refine ⟨(), by omega, ⟨by omega, by rw [hstep]; omega⟩, by rw [hstep], rfl, rfl, rfl, ?_, rfl, trivial⟩
        show AV.int _ _ = _
        rw [hstep]
    · have hend : l.take (k + 1 + j) = l := List.take_of_length_le (by omega)
      rw [hend] at hA
      have hdl : A.length ≤ l.length := by omega
      refine ⟨⟨_, hset⟩, A.length, rfl, hdl, ?_, ?_⟩
      · cases c with
        | none => exact Nat.le_refl _
        | some z => exact hc z rfl
      refine ⟨_, hset, by simp <;> omega, rfl, ?_⟩
      refine ⟨⟨_, Hp.set_same _ _ _⟩, A.length, rfl, Nat.zero_le _, ?_, ?_⟩
      · cases c with
        | none => exact hdl
        | some z => exact Nat.le_trans hdl (hc z rfl)
      refine ⟨rfl, ?_, ?_⟩
      · rw [← hA]
        cases c <;> rfl
      · rw [Hp.set_set, ← hA]
        refine congrArg (fun es => h'.set i (.row Ts es)) ?_
        have e1 : (tx A ++ (tx l ++ rest).drop A.length).take (0 + A.length) = tx A := by rw [Nat.zero_add, ← htA, List.take_left]
        have e2 : (tx A ++ (tx l ++ rest).drop A.length).drop (0 + A.length + (l.length - A.length)) = rest := by
          rw [Nat.zero_add, List.drop_append, List.drop_drop, List.drop_of_length_le (l := tx A) (by omega), List.nil_append, show A.length + (A.length + (l.length - A.length) - (tx A).length) = (tx l).length by omega, List.drop_left]
        rw [e1, e2]; rfl

theorem DeleteFunc_nil_L (F : FuncId) (first cap : List AV) (h : Hp) : CallL Tryd.prog F_slices_DeleteFunc [.nils, .func (.func F) first cap] h fun r h' => r = .ret .nils ∧ h' = h := by
  have ix : CallL Tryd.prog F_slices_IndexFunc [.nils, .func (.func F) first cap] h fun r h' => r = .ret (.int .i64 (-1)) ∧ h' = h := by
    refine K_slices_IndexFunc (md := false) ?_
    refine s_loop 0 (fun k (_ : Unit) => k = 0) (fun k _ => [(0, .nils), (1, .func (.func F) first cap), (7, .int .i64 0), (8, .int .i64 k)]) (fun _ _ => h) () rfl rfl rfl ⟨rfl, rfl, rfl, rfl, trivial⟩ (fun k s hI => by omega) ?_
    rintro k _ n0 g0 hk rfl
    exact s_lt (fun h1 => absurd h1 (by decide)) (fun _ => ⟨rfl, rfl, rfl⟩)
  refine K_slices_DeleteFunc (md := false) ?_
  refine ix.mono ?_
  rintro r h' ⟨rfl, rfl⟩
  exact s_eq (fun _ => ⟨rfl, rfl, rfl⟩) (fun h1 => absurd rfl h1)
theorem Compact_nil_L (h : Hp) : CallL Tryd.prog F_slices_Compact [.nils] h fun r h' => r = .ret .nils ∧ h' = h := by
  refine K_slices_Compact (md := false) ?_
  exact s_lt (fun _ => ⟨rfl, rfl, rfl⟩) (fun h1 => absurd h1 (by decide))

theorem Sort_L (i : Nat) (c : Option Nat) (l : List Str) (h : Hp) (hi : h i = some (.row Ts (tx l))) (hl : l.length ≤ 1000000000000) :
    CallL Tryd.prog F_slices_Sort [.slc i 0 l.length c] h fun r h' => r = .ret (.tup []) ∧ h' = h.set i (.row Ts (tx (sortS l))) :=
  sort_bridge (fun blk off cap ss w hH hb hs => AnyM.slices_Sort_string sortLaid blk off cap ss w hH hb hs) (fun p cap w => AnyM.slices_Sort_string_none sortLaid p cap w) hi (by omega)
theorem Sort_nil_L (h : Hp) : CallL Tryd.prog F_slices_Sort [.nils] h fun r h' => r = .ret (.tup []) ∧ h' = h :=
  sort_bridge_nil (fun p cap w => AnyM.slices_Sort_string_none sortLaid p cap w) h
end Go.Proofs.YtibdeeejjbmgcaaDoor

/-
  Contracts: masks.
-/
namespace Go.Proofs.YtibdeeejjbmgcaaDoor
open Go.L

/-- The map counts. -/
structure CntM (es : MapL) (l : List Str) : Prop where
  keys : SKeys es
  get : ∀ s, sget es s = if l.count s = 0 then none else some (.int .i64 (l.count s : Nat))

theorem CntM.nil : CntM [] [] := ⟨SKeys.nil, fun s => rfl⟩
theorem CntM.step {es : MapL} {l : List Str} (k : CntM es l) (x : Str) (c : Nat) :
    (sget es x = none → CntM (es ++ [(.str x, .int .i64 (((l.count x : Nat) : Int) + 1), c)]) (l ++ [x])) ∧ (sget es x ≠ none → CntM (mmod (.str x) (.int .i64 (((l.count x : Nat) : Int) + 1)) es) (l ++ [x])) := by
  have cnt : ∀ s, (l ++ [x]).count s = if s = x then l.count x + 1 else l.count s := fun s => by
    rw [List.count_append]
    by_cases e : s = x
    · subst e; simp
    · rw [if_neg e, List.count_eq_zero_of_not_mem (a := s) (l := [x]) (by simpa using e)]; rfl
  constructor
  · intro h
    refine ⟨k.keys.snoc _ _ _, fun s => ?_⟩
    rw [sget_snoc k.keys, cnt]
    by_cases e : s = x
    · subst e; rw [h]; simp
    · simp only [if_neg e]
      rw [← k.get s]
      cases sget es s <;> rfl
  · intro h
    refine ⟨k.keys.mmod _ _, fun s => ?_⟩
    rw [sget_mmod k.keys _ _ h, cnt]
    by_cases e : s = x
    · subst e; simp
    · rw [if_neg e, if_neg e, k.get s]

theorem delP_at {l : List Str} {p : Str} {k : Nat} (h1 : p[k]? = some 46) (h2 : p.take k ∈ l) : delP l p = true := by
  refine delP_iff.2 ⟨_, h2, ?_⟩
  rw [← List.take_succ_of_get h1]; exact List.take_prefix _ _
theorem delP_end {l : List Str} {p : Str} (h : ∀ j, j < p.length → p[j]? = some 46 → p.take j ∉ l) : delP l p = false := by
  rw [Bool.eq_false_iff]
  intro hd
  obtain ⟨q, hq, ⟨r, rfl⟩⟩ := delP_iff.1 hd
  refine h q.length (by simp <;> omega) ?_ ?_
  · rw [List.append_assoc, List.getElem?_append_right (Nat.le_refl _)]; simp
  · rw [List.append_assoc, List.take_left]; exact hq

theorem Normal1_L (bx m c T : Nat) (es : MapL) (l : List Str) (p : Str) (h : Hp) (hb : h bx = some (.row T [[.map m]])) (hm : h m = some (.map es c)) (hk : CntM es l) (hp : p.length ≤ 1000000000000000) :
    CallL Tryd.prog F_mask_Normal_c1 [.str p, .ptr bx 0 0] h fun r h' => r = .ret (.bool (delP l p)) ∧ h' = h := by
  refine K_mask_Normal_c1 (md := false) ?_
  refine s_loop p.length (fun k (_ : Unit) => k ≤ p.length ∧ ∀ j, j < k → p[j]? = some 46 → p.take j ∉ l) (fun k _ => [(0, .str p), (1, .ptr bx 0 0), (6, .int .i64 p.length), (7, .int .i64 k)]) (fun _ _ => h) () ⟨Nat.zero_le _, fun j hj => by omega⟩ rfl rfl ⟨rfl, rfl, rfl, rfl, trivial⟩ (fun k s hI => hI.1) ?_
  intro k _ n0 g0 hk' ⟨_, hall⟩
  refine s_lt (fun h1 => ?_) (fun h1 => ?_)
  · obtain ⟨x, hx⟩ := get_lt (l := p) (k := k) (by omega)
    refine s_byte k x rfl hx ?_
    have next : (p[k]? = some 46 → p.take k ∉ l) → ∀ j, j < k + 1 → p[j]? = some 46 → p.take j ∉ l := fun hn j hj => by
      by_cases e : j = k
      · subst e; exact hn
      · exact hall j (by omega)
    refine s_eq (fun h2 => ?_) (fun h2 => ?_)
    · have hx46 : x = 46 := UInt8.toNat_inj.1 (show x.toNat = 46 by omega)
      subst hx46
      refine ⟨_, _, _, _, hb, rfl, rfl, ?_⟩
      refine ⟨k, rfl, Nat.zero_le _, by omega, ?_⟩
      refine ⟨es, c, hm, rfl, hk.keys.like _, fun r hr => ?_⟩
      rw [List.drop_zero] at hr
      have hr := hr.trans (hk.get (p.take k))
      by_cases hc : l.count (p.take k) = 0
      · rw [if_pos hc] at hr
        subst hr
        refine s_lt (fun h3 => absurd h3 (by decide)) (fun _ => ?_)
        refine s_nat (k + 1) (by omega) (by omega) ?_
        exact ⟨(), by omega, ⟨by omega, next fun _ => List.count_eq_zero.1 hc⟩, rfl, rfl, rfl, rfl, rfl, rfl, trivial⟩
      · rw [if_neg hc] at hr
        subst hr
        refine s_lt (fun h3 => ?_) (fun h3 => by omega)
        refine ⟨rfl, Res.bool_eq (delP_at hx ?_).symm, rfl⟩
        exact List.count_pos_iff.1 (by omega)
    · refine s_nat (k + 1) (by omega) (by omega) ?_
      exact ⟨(), by omega, ⟨by omega, next fun h46 => by rw [hx] at h46; cases h46; exact absurd rfl h2⟩, rfl, rfl, rfl, rfl, rfl, rfl, trivial⟩
  · refine ⟨rfl, Res.bool_eq (delP_end fun j hj => hall j (by omega)).symm, rfl⟩

theorem HasBody.normal1 : HasBody Tryd.prog F_mask_Normal_c1 := ⟨_, Tryd.func18, by kernel_rfl, by kernel_rfl⟩

theorem m0ss_blank (k : Nat) : m0ss (blank k) = true := by
  induction k with
  | zero => rfl
  | succ k ih => exact ih
theorem m0ss_tx (l : List Str) : m0ss (tx l) = true := by
  induction l with
  | nil => rfl
  | cons a l ih => exact ih

theorem Normal_L (g : Nat) (l : List Str) (h : Hp) (hl : l.length ≤ 1000000000000) (hp : ∀ p ∈ l, p.length ≤ 1000000000000000) :
    CallL Tryd.prog F_mask_Normal [.isl g (tx l)] h fun r h' => OwnB Ts h h' r (tx (normal l)) := by
  have htl := tx_len l
  refine K_mask_Normal (md := false) ?_
  intro m hm
  refine ⟨rfl, rfl, fun bx hbx => ?_⟩
  have hbx1 : h.u bx = false := ((Gr.refl h).set hm.1 _).new hbx.1
  have hne : m ≠ bx := ne_of_u (h := h.set m (.map [] 0)) (by rw [Hp.set_u, if_pos rfl]) hbx.1
  refine ⟨_, _, _, Hp.set_same _ _ _, rfl, rfl, rfl, rfl, Nat.le_refl _, ?_⟩
  refine s_loop l.length (fun k (s : Hp × MapL × Nat) => k ≤ l.length ∧ Gr h s.1 ∧ s.1 m = some (.map s.2.1 s.2.2) ∧ (∃ T, s.1 bx = some (.row T [[.map m]])) ∧ CntM s.2.1 (l.take k))
    (fun k _ => [(0, .isl g (tx l)), (3, .ptr bx 0 0), (8, .isl g (tx l)), (9, .int .i64 (tx l).length), (10, .int .i64 k)]) (fun _ s => s.1) (_, [], 0) ⟨Nat.zero_le _, ?_, ?_, ⟨_, Hp.set_same _ _ _⟩, CntM.nil⟩ rfl rfl ⟨rfl, rfl, rfl, rfl, rfl, trivial⟩ (fun k s hI => hI.1) ?_
  · exact (((Gr.refl h).set hm.1 _).set hbx1 _).set hbx1 _
  · exact (Hp.set_ne hne).trans ((Hp.set_ne hne).trans (Hp.set_same _ _ _))
  rintro k ⟨H, es, c⟩ n0 g0 hk ⟨_, hgr, hmm, ⟨T, hb⟩, hcnt⟩
  simp only at hgr hmm hb hcnt
  refine s_lt (fun h1 => ?_) (fun h1 => ?_)
  · obtain ⟨x, hx⟩ := get_lt (l := l) (k := k) (by omega)
    refine s_at k x rfl hx rfl (by decide) ?_
    refine ⟨_, rfl, ?_⟩
    refine ⟨_, _, _, _, hb, rfl, rfl, ?_⟩
    refine ⟨es, c, hmm, rfl, hcnt.keys.like _, fun r hr => ?_⟩
    have hg := hcnt.get x
    have hr : r = sget es x := hr
    have hcl : (l.take k).count x ≤ l.length := Nat.le_trans List.count_le_length (by rw [List.length_take]; omega)
    obtain ⟨st1, st2⟩ := hcnt.step x c
    rw [← List.take_succ_of_get hx] at st1 st2
    have hgr' : ∀ b, Gr h (H.set m b) := fun b => hgr.set hm.1 b
    have hb' : ∀ b, (H.set m b).m bx = some (.row T [[.map m]]) := fun b => (Hp.set_ne (Ne.symm hne)).trans hb
    by_cases hc : (l.take k).count x = 0
    · rw [if_pos hc] at hg
      rw [hg] at hr
      subst hr
      refine s_64 (by decide) (by decide) ?_
      refine ⟨es, c, hmm, rfl, hcnt.keys.like _, fun r2 hr2 => ?_⟩
      have hr2 : r2 = sget es x := hr2
      rw [hg] at hr2
      subst hr2
      refine s_nat (k + 1) (by omega) (by omega) ?_
      refine ⟨(H.set m (.map (es ++ [(.str x, .int .i64 1, c)]) (c + 1)), es ++ [(.str x, .int .i64 1, c)], c + 1), by omega, ⟨by omega, hgr' _, Hp.set_same _ _ _, ⟨T, hb' _⟩, ?_⟩, rfl, rfl, rfl, rfl, rfl, rfl, rfl, trivial⟩
      have := st1 hg
      rw [hc] at this
      exact this
    · rw [if_neg hc] at hg
      rw [hg] at hr
      subst hr
      refine s_64 (by omega) (by omega) ?_
      refine ⟨es, c, hmm, rfl, hcnt.keys.like _, fun r2 hr2 => ?_⟩
      have hr2 : r2 = sget es x := hr2
      have hn : sget es x ≠ none := by rw [hg]; simp
      rw [hg] at hr2
      subst hr2
      refine s_nat (k + 1) (by omega) (by omega) ?_
      exact ⟨(H.set m (.map (mmod (.str x) (.int .i64 (((l.take k).count x : Nat) + 1)) es) c), mmod (.str x) (.int .i64 (((l.take k).count x : Nat) + 1)) es, c), by omega, ⟨by omega, hgr' _, Hp.set_same _ _ _, ⟨T, hb' _⟩, st2 hn⟩, rfl, rfl, rfl, rfl, rfl, rfl, rfl, trivial⟩
  · have hkl : l.take k = l := List.take_of_length_le (by omega)
    rw [hkl] at hcnt
    refine (Clone_L g l H hl).mono ?_
    rintro r h' (⟨rfl, he, rfl⟩ | ⟨i, ci, rfl, hci, hiu, hg2, hi⟩)
    · have hl0 : l = [] := List.map_eq_nil_iff.1 he
      subst hl0
      refine (Sort_nil_L h').mono ?_
      rintro r h2 ⟨rfl, rfl⟩
      refine (Compact_nil_L h2).mono ?_
      rintro r h3 ⟨rfl, rfl⟩
      refine (DeleteFunc_nil_L _ _ _ h3).mono ?_
      rintro r h4 ⟨rfl, rfl⟩
      refine (Clip_nil_L h4).mono ?_
      rintro r h5 ⟨rfl, rfl⟩
      exact ⟨rfl, hgr, .inl ⟨rfl, by simp [normal, sortS, ddS]⟩⟩
    · obtain ⟨L, hL⟩ : ∃ L, L = sortS l := ⟨_, rfl⟩
      have hLl : L.length = l.length := by rw [hL]; exact List.length_mergeSort ..
      have htL : (tx l).length = L.length := by rw [tx_len, hLl]
      rw [tx_len] at hci ⊢
      have iu : h'.u i = true := Hp.used hi
      have hib : bx ≠ i := ne_of_u (Hp.used hb) hiu
      have him : m ≠ i := ne_of_u (Hp.used hmm) hiu
      refine (Sort_L i ci l h' hi hl).mono ?_
      rintro r h2 ⟨rfl, rfl⟩
      rw [← hL, ← hLl]
      refine (Compact_L i ci L _ (Hp.set_same _ _ _) (fun x hx => by rw [hLl]; exact hci x hx) (by omega)).mono ?_
      rintro r h3 ⟨rfl, rfl⟩
      rw [Hp.set_set]
      have hdl : (ddS L).length ≤ L.length := ddS_len L
      refine (DeleteFunc_L i ci (ddS L) F_mask_Normal_c1 [] [.ptr bx 0 0] (delP l) HasBody.normal1 _ _ (Hp.set_same _ _ _) (fun x hx => by have := hci x hx; omega) (fun b s hs => ?_) (by omega)).mono ?_
      · refine Normal1_L bx m c T es l s _ ((Hp.set_ne hib).trans ((Hp.set_ne hib).trans (hg2.blk hb))) ((Hp.set_ne him).trans ((Hp.set_ne him).trans (hg2.blk hmm))) hcnt (hp s ?_)
        exact List.mem_mergeSort.1 (by rw [hL] at hs; exact ddS_mem hs)
      · rintro r h4 ⟨rfl, rfl⟩
        rw [Hp.set_set]
        have hfl : ((ddS L).filter fun x => !delP l x).length ≤ (ddS L).length := List.length_filter_le _ _
        refine (Clip_L i _ ci _ _ (Hp.set_same _ _ _) (fun x hx => by have := hci x hx; omega)).mono ?_
        rintro r h5 ⟨rfl, rfl⟩
        refine ⟨rfl, ?_, .inr ⟨i, blank ((ddS L).length - ((ddS L).filter fun x => !delP l x).length) ++ blank (L.length - (ddS L).length), ?_, ?_, ?_, ?_⟩⟩
        · exact (hgr.trans hg2).set (hgr.new hiu) _
        · rw [tx_len, normal, ← hL]; rfl
        · exact hgr.new hiu
        · rw [normal, ← hL, Hp.set_same, List.append_assoc]
        · rw [m0ss_append, m0ss_blank, m0ss_blank]; rfl
end Go.Proofs.YtibdeeejjbmgcaaDoor

/-
  Contracts: masks joined and met.
-/
namespace Go.Proofs.YtibdeeejjbmgcaaDoor
open Go.L

theorem tx_app (a b : List Str) : tx (a ++ b) = tx a ++ tx b := List.map_append
theorem tx_one (l : List Str) : ∀ cs ∈ tx l, cs.length = 1 := fun cs hcs => by obtain ⟨s, _, rfl⟩ := List.mem_map.1 hcs; rfl
theorem tx_flat (l : List Str) : ∀ cs ∈ tx l, flat cs = true := fun cs hcs => by obtain ⟨s, _, rfl⟩ := List.mem_map.1 hcs; rfl
theorem tx_ren (l : List Str) (b : Nat) : ∀ cs ∈ tx l, ∀ v ∈ cs, v.ren b = v := fun cs hcs v hv => by
  obtain ⟨s, _, rfl⟩ := List.mem_map.1 hcs
  rw [List.mem_singleton.1 hv]; rfl
theorem noid_isl (p : Nat → Bool) (g : Nat) (l : List Str) (hg : p g = true) : noid p (.isl g (tx l)) = true := by simp [noid, hg, noidss_tx]

theorem Grow_nil_L (n : Nat) (h : Hp) (hn : n ≤ 1000000000000) : CallL Tryd.prog F_slices_Grow [.nils, .int .i64 n] h fun r h' => ∃ v, r = .ret v ∧ Acc Ts h h' v [] := by
  refine K_slices_Grow (md := false) ?_
  refine s_lt (fun h1 => by omega) (fun _ => ?_)
  refine s_nat 0 (by omega) (by omega) ?_
  refine s_nat n (by omega) (by omega) ?_
  refine s_lt (fun h1 => ?_) (fun h1 => ?_)
  · refine ⟨0, rfl, rfl, rfl, rfl, ?_⟩
    refine ⟨n, rfl, by unfold capMax; omega, by unfold capMax; omega, ?_⟩
    refine ⟨fun cs hcs => by rw [List.eq_of_mem_replicate hcs]; rfl, .inr ⟨fun e => ?_, ?_, ?_, fun j hj => ?_⟩⟩
    · have := congrArg List.length e; simp at this <;> omega
    · rw [List.length_replicate]; unfold capMax; omega
    · rw [List.length_replicate]; unfold capMax; omega
    refine ⟨⟨_, Hp.set_same _ _ _⟩, 0, rfl, Nat.le_refl _, Nat.zero_le _, ?_⟩
    refine ⟨rfl, _, rfl, (Gr.refl h).set hj.1 _, .inr ⟨j, _, rfl, hj.1, Hp.set_same _ _ _, rfl, Nat.zero_le _⟩⟩
  · exact ⟨rfl, _, rfl, Acc.nil _ _⟩

def tot (ll : List (Nat × List Str)) : Nat := (ll.map fun p => p.2.length).sum
theorem tot_step {ll : List (Nat × List Str)} {k : Nat} {x : Nat × List Str} (hx : ll[k]? = some x) : tot (ll.take (k + 1)) = tot (ll.take k) + x.2.length := by
  rw [List.take_succ_of_get hx]; simp [tot]
theorem tot_app (a b : List (Nat × List Str)) : tot (a ++ b) = tot a + tot b := by simp [tot]
theorem tot_le (ll : List (Nat × List Str)) (k : Nat) : tot (ll.take k) ≤ tot ll := by
  have := tot_app (ll.take k) (ll.drop k)
  rw [List.take_append_drop] at this
  omega
theorem flat_len (ll : List (Nat × List Str)) : (ll.flatMap (·.2)).length = tot ll := by simp [tot, List.length_flatMap]

theorem Concat_L (g0 : Nat) (ll : List (Nat × List Str)) (hl : tot ll ≤ 1000000000000) (hll : ll.length ≤ 1000000000000) (hg : ∀ p ∈ ll, anyMark p.1 = true) :
    PureL Tryd.prog F_slices_Concat [.isl g0 (ll.map fun p => [.isl p.1 (tx p.2)])] (.isl 0 (tx (ll.flatMap (·.2)))) := by
  have hlen : (ll.map fun p => [AV.isl p.1 (tx p.2)]).length = ll.length := List.length_map ..
  refine PureL.nil ?_ ?_
  · have : ∀ l : List (Nat × List Str), noidss anyMark (l.map fun p => [.isl p.1 (tx p.2)]) = true := fun l => by
      induction l with
      | nil => rfl
      | cons p l ih => simpa [noidss, noids, noid, anyMark, noidss_tx] using ih
    simp [noids, noid, anyMark, this]
  refine K_slices_Concat (md := false) ?_
  refine s_loop ll.length (fun k (_ : Unit) => k ≤ ll.length) (fun k _ => [(0, .isl g0 (ll.map fun p => [.isl p.1 (tx p.2)])), (3, .int .i64 (tot (ll.take k) : Nat)), (9, .isl g0 (ll.map fun p => [.isl p.1 (tx p.2)])), (10, .int .i64 (ll.map fun p => [AV.isl p.1 (tx p.2)]).length), (11, .int .i64 k)])
    (fun _ _ => Hp.nil) () (Nat.zero_le _) rfl rfl ⟨rfl, rfl, rfl, rfl, rfl, trivial⟩ (fun k s hI => hI) ?_
  intro k _ n0 g0' hk _
  refine s_lt (fun h1 => ?_) (fun h1 => ?_)
  · obtain ⟨x, hx⟩ := get_lt (l := ll) (k := k) (by omega)
    have ht := tot_step hx
    have ht2 := tot_le ll (k + 1)
    refine s_at k x rfl hx rfl (by decide) ?_
    refine ⟨_, rfl, ?_⟩
    have htx := tx_len x.2
    refine s_nat (tot (ll.take (k + 1))) (by rw [htx]; omega) (by omega) ?_
    refine s_lt (fun h2 => by omega) (fun _ => ?_)
    refine s_nat (k + 1) (by omega) (by omega) ?_
    exact ⟨(), by omega, by omega, rfl, rfl, rfl, rfl, rfl, rfl, rfl, trivial⟩
  have hkl : ll.take k = ll := List.take_of_length_le (by omega)
  rw [hkl]
  refine (Grow_nil_L (tot ll) Hp.nil hl).mono ?_
  rintro r h' ⟨v, rfl, hacc⟩
  refine s_loop ll.length (fun k (s : Hp × AV) => k ≤ ll.length ∧ Acc Ts Hp.nil s.1 s.2 (tx ((ll.take k).flatMap (·.2)))) (fun k s => [(6, s.2), (25, .isl g0 (ll.map fun p => [.isl p.1 (tx p.2)])), (26, .int .i64 (ll.map fun p => [AV.isl p.1 (tx p.2)]).length), (27, .int .i64 k)])
    (fun _ s => s.1) (h', v) ⟨Nat.zero_le _, hacc⟩ rfl rfl ⟨rfl, rfl, rfl, rfl, trivial⟩ (fun k s hI => hI.1) ?_
  rintro k ⟨H, u⟩ n1 g1 hk ⟨_, ha⟩
  simp only at ha
  refine s_lt (fun h2 => ?_) (fun h2 => ?_)
  · obtain ⟨x, hx⟩ := get_lt (l := ll) (k := k) (by omega)
    have ht := tot_step hx
    have ht2 := tot_le ll (k + 1)
    refine s_at k x rfl hx rfl (by decide) ?_
    refine ⟨_, rfl, ?_⟩
    have hb : (tx ((ll.take k).flatMap (·.2))).length + (tx x.2).length ≤ 1000000000000 := by rw [tx_len, tx_len, flat_len]; omega
    refine ⟨tx x.2, rfl, ?_⟩
    refine Acc.app ha (tx_one _) (tx_flat _) (by unfold capMax; omega) (by unfold capMax; omega) fun v' H' ha' _ _ => ?_
    refine s_nat (k + 1) (by omega) (by omega) ?_
    refine ⟨(H', v'), by omega, ⟨by omega, ?_⟩, rfl, rfl, rfl, rfl, rfl, rfl, trivial⟩
    rw [List.take_succ_of_get hx]
    simpa using ha'
  · have hkl2 : ll.take k = ll := List.take_of_length_le (by omega)
    rw [hkl2] at ha
    exact ⟨rfl, _, rfl, ha.fz (noidss_tx _ _)⟩

theorem Union_L (ga gb : Nat) (a b : List Str) (h : Hp) (ha : a.length ≤ 1000) (hb : b.length ≤ 1000) (hp : ∀ p ∈ a ++ b, p.length ≤ 1000000000000000) :
    CallL Tryd.prog F_mask_Union [.isl ga (tx a), .isl gb (tx b)] h fun r h' => OwnB Ts h h' r (tx (normal (a ++ b))) := by
  refine K_mask_Union (md := false) ?_
  refine ⟨_, rfl, fun i hi => ?_⟩
  have hf : FzL anyMark 1 (h.set i (.row 23 [[.isl ga (tx a)], [.isl gb (tx b)]])) [.slc i 0 2 (some 2)] [.isl 1 ([(ga, a), (gb, b)].map fun p => [.isl p.1 (tx p.2)])] := by
    refine ⟨rfl, fun q v v' h1 h2 => ?_⟩
    cases q with
    | succ q => simp at h1
    | zero =>
      cases h1; cases h2
      refine .slc i 0 2 (some 2) _ _ _ (Hp.set_same _ _ _) (Nat.le_refl _) rfl (fun j cs cs' h1 h2 => ?_) (fun j cs cs' q u u' h1 h2 h3 h4 => ?_)
      · match j with
        | 0 => cases h1; cases h2; rfl
        | 1 => cases h1; cases h2; rfl
        | j + 2 => simp at h2
      · have same : cs = cs' := by
          match j with
          | 0 => cases h1; cases h2; rfl
          | 1 => cases h1; cases h2; rfl
          | j + 2 => simp at h2
        subst same
        rw [h3] at h4; cases h4
        refine .same u ?_
        match j with
        | 0 => cases h1; cases q with
          | zero => cases h3; exact noid_isl _ _ _ rfl
          | succ q => simp at h3
        | 1 => cases h1; cases q with
          | zero => cases h3; exact noid_isl _ _ _ rfl
          | succ q => simp at h3
        | j + 2 => simp at h2
  refine CallL.lentP (Concat_L 1 [(ga, a), (gb, b)] (by simp [tot]; omega) (by simp) (fun _ _ => rfl)) hf (noid_isl _ _ _ rfl) ?_
  have e : [(ga, a), (gb, b)].flatMap (·.2) = a ++ b := by simp
  rw [e]
  refine (Normal_L 0 (a ++ b) _ (by simp; omega) hp).mono ?_
  rintro r h' hr
  have hr' := hr.after ((Gr.refl h).set hi.1 _)
  rcases hr.2 with ⟨rfl, _⟩ | ⟨_, _, rfl, _⟩
  · exact ⟨rfl, hr'⟩
  · exact ⟨rfl, hr'⟩

theorem Meet_L (ga gb : Nat) (a b : List Str) (h : Hp) (hal : a.length ≤ 1000) (hbl : b.length ≤ 1000) (hp : ∀ p ∈ a ++ b, p.length ≤ 1000000000000000) :
    CallL Tryd.prog F_mask_Meet [.isl ga (tx a), .isl gb (tx b)] h fun r h' => OwnB Ts h h' r (tx (normal (a.filter (cov b) ++ b.filter (cov a)))) := by
  have hta := tx_len a
  have htb := tx_len b
  refine K_mask_Meet (md := false) ?_
  refine s_loop a.length (fun k (s : Hp × AV) => k ≤ a.length ∧ Acc Ts h s.1 s.2 (tx ((a.take k).filter (cov b)))) (fun k s => [(0, .isl ga (tx a)), (1, .isl gb (tx b)), (5, s.2), (10, .isl ga (tx a)), (11, .int .i64 (tx a).length), (12, .int .i64 k)])
    (fun _ s => s.1) (h, .nils) ⟨Nat.zero_le _, Acc.nil _ _⟩ rfl rfl ⟨rfl, rfl, rfl, rfl, rfl, rfl, trivial⟩ (fun k s hI => hI.1) ?_
  rintro k ⟨H, v⟩ n0 g0 hk ⟨_, hacc⟩
  simp only at hacc
  have hfl : ((a.take k).filter (cov b)).length ≤ a.length := Nat.le_trans (List.length_filter_le _ _) (by rw [List.length_take]; omega)
  refine s_lt (fun h1 => ?_) (fun h1 => ?_)
  · obtain ⟨x, hx⟩ := get_lt (l := a) (k := k) (by omega)
    refine s_at k x rfl hx rfl (by decide) ?_
    refine ⟨_, rfl, ?_⟩
    have st : (a.take (k + 1)).filter (cov b) = (a.take k).filter (cov b) ++ if cov b x = true then [x] else [] := by
      rw [List.take_succ_of_get hx, List.filter_append]; cases h : cov b x <;> simp [h]
    refine (Covers_L gb b x (by omega)).useC (fun h2 => ?_) (fun h2 => ?_)
    · rw [if_pos (show cov _ x = true from h2)] at st
      refine ⟨_, rfl, fun tb htb' => ?_⟩
      refine ⟨_, ⟨_, _, Hp.set_same _ _ _, Nat.le_refl _, rfl⟩, ?_⟩
      refine Acc.app (hacc.set htb'.1 _) (tx_one [x]) (tx_flat [x]) (by rw [tx_len]; unfold capMax; simp; omega) (by rw [tx_len]; unfold capMax; simp; omega) fun v' H' ha' _ _ => ?_
      refine s_nat (k + 1) (by omega) (by omega) ?_
      refine ⟨(H', v'), by omega, ⟨by omega, ?_⟩, rfl, rfl, rfl, rfl, rfl, rfl, rfl, rfl, trivial⟩
      have ha2 : Acc Ts h H' v' (tx ((a.take k).filter (cov b)) ++ tx [x]) := ha'
      rw [st, tx_app]; exact ha2
    · rw [if_neg (by rw [show cov b x = false from h2]; simp), List.append_nil] at st
      refine s_nat (k + 1) (by omega) (by omega) ?_
      refine ⟨(H, v), by omega, ⟨by omega, ?_⟩, rfl, rfl, rfl, rfl, rfl, rfl, rfl, rfl, trivial⟩
      rw [st]; exact hacc
  have hka : a.take k = a := List.take_of_length_le (by omega)
  rw [hka] at hacc
  clear hfl h1 hk hka
  refine s_loop b.length (fun k (s : Hp × AV) => k ≤ b.length ∧ Acc Ts h s.1 s.2 (tx (a.filter (cov b) ++ (b.take k).filter (cov a)))) (fun k s => [(0, .isl ga (tx a)), (1, .isl gb (tx b)), (5, s.2), (24, .isl gb (tx b)), (25, .int .i64 (tx b).length), (26, .int .i64 k)])
    (fun _ s => s.1) (H, v) ⟨Nat.zero_le _, by simpa using hacc⟩ rfl rfl ⟨rfl, rfl, rfl, rfl, rfl, rfl, trivial⟩ (fun k s hI => hI.1) ?_
  clear hacc
  rintro k ⟨H, v⟩ n0 g0 hk ⟨_, hacc⟩
  simp only at hacc
  have hfl1 : (a.filter (cov b)).length ≤ a.length := List.length_filter_le _ _
  have hfl : ((b.take k).filter (cov a)).length ≤ b.length := Nat.le_trans (List.length_filter_le _ _) (by rw [List.length_take]; omega)
  refine s_lt (fun h1 => ?_) (fun h1 => ?_)
  · obtain ⟨x, hx⟩ := get_lt (l := b) (k := k) (by omega)
    refine s_at k x rfl hx rfl (by decide) ?_
    refine ⟨_, rfl, ?_⟩
    have st : (b.take (k + 1)).filter (cov a) = (b.take k).filter (cov a) ++ if cov a x = true then [x] else [] := by
      rw [List.take_succ_of_get hx, List.filter_append]; cases h : cov a x <;> simp [h]
    refine (Covers_L ga a x (by omega)).useC (fun h2 => ?_) (fun h2 => ?_)
    · rw [if_pos (show cov _ x = true from h2)] at st
      refine ⟨_, rfl, fun tb htb' => ?_⟩
      refine ⟨_, ⟨_, _, Hp.set_same _ _ _, Nat.le_refl _, rfl⟩, ?_⟩
      refine Acc.app (hacc.set htb'.1 _) (tx_one [x]) (tx_flat [x]) (by rw [tx_len]; unfold capMax; simp; omega) (by rw [tx_len]; unfold capMax; simp; omega) fun v' H' ha' _ _ => ?_
      refine s_nat (k + 1) (by omega) (by omega) ?_
      refine ⟨(H', v'), by omega, ⟨by omega, ?_⟩, rfl, rfl, rfl, rfl, rfl, rfl, rfl, rfl, trivial⟩
      have ha2 : Acc Ts h H' v' (tx (a.filter (cov b) ++ (b.take k).filter (cov a)) ++ tx [x]) := ha'
      rw [st, ← List.append_assoc, tx_app]; exact ha2
    · rw [if_neg (by rw [show cov a x = false from h2]; simp), List.append_nil] at st
      refine s_nat (k + 1) (by omega) (by omega) ?_
      refine ⟨(H, v), by omega, ⟨by omega, ?_⟩, rfl, rfl, rfl, rfl, rfl, rfl, rfl, rfl, trivial⟩
      rw [st]; exact hacc
  have hkb : b.take k = b := List.take_of_length_le (by omega)
  rw [hkb] at hacc
  obtain ⟨both, hboth⟩ : ∃ both, both = a.filter (cov b) ++ b.filter (cov a) := ⟨_, rfl⟩
  have hbl2 : both.length ≤ 2000 := by
    rw [hboth, List.length_append]
    have := List.length_filter_le (cov a) b
    omega
  rw [← hboth] at hacc ⊢
  have hgr := hacc.1
  refine (CallL.lentOwn (args := [v]) (h := H) (args' := [.isl 1 (tx both)]) ⟨rfl, fun q u u' h1 h2 => ?_⟩ (Normal_L 1 both Hp.nil (by omega) fun p hpm => ?_) (fun b => tx_ren _ b) (m0ss_tx _)).mono ?_
  · cases q with
    | zero => cases h1; cases h2; exact hacc.fz (noidss_tx _ _)
    | succ q => simp at h1
  · rw [hboth] at hpm
    rcases List.mem_append.1 hpm with hm | hm
    · exact hp p (List.mem_append_left _ (List.mem_filter.1 hm).1)
    · exact hp p (List.mem_append_right _ (List.mem_filter.1 hm).1)
  rintro r h' hr
  have hr' := hr.after hgr
  rcases hr.2 with ⟨rfl, _⟩ | ⟨_, _, rfl, _⟩
  · exact ⟨rfl, hr'⟩
  · exact ⟨rfl, hr'⟩
end Go.Proofs.YtibdeeejjbmgcaaDoor

/-
  Contracts: how much texts are; masks' functions as pure ones.
-/
namespace Go.Proofs.YtibdeeejjbmgcaaDoor
open Go.L

/-- How much texts are. -/
def mstep (n : Int) (s : Str) : Int := if 120000 < s.length then 4194305 else n + 16 + s.length
def msum : List Str → Int → Int
  | [], n => n
  | s :: r, n => if n ≤ 4194304 then msum r (mstep n s) else n
def manyB (a b : List Str) : Bool := decide (4194304 < msum b (msum a 0)) || decide (400 < a.length) || decide (400 < b.length)

theorem msum_big : ∀ (l : List Str) (n : Int), 4194304 < n → msum l n = n
  | [], _, _ => rfl
  | s :: r, n, h => by rw [msum, if_neg (by omega)]
theorem msum_nonneg : ∀ (l : List Str) (n : Int), 0 ≤ n → 0 ≤ msum l n
  | [], _, h => h
  | s :: r, n, h => by
    rw [msum]; split
    · exact msum_nonneg r _ (by unfold mstep; split <;> omega)
    · exact h
theorem msum_small : ∀ (l : List Str) (n : Int), msum l n ≤ 4194304 → n ≤ 4194304 ∧ ∀ s ∈ l, s.length ≤ 120000
  | [], n, h => ⟨h, fun _ h => by cases h⟩
  | s :: r, n, h => by
    rw [msum] at h
    split at h
    · rename_i hn
      obtain ⟨h1, h2⟩ := msum_small r _ h
      refine ⟨hn, fun t ht => ?_⟩
      rcases List.mem_cons.1 ht with rfl | ht
      · unfold mstep at h1
        split at h1 <;> omega
      · exact h2 t ht
    · omega
theorem many_small {a b : List Str} (h : manyB a b = false) : (a.length ≤ 400 ∧ ∀ s ∈ a, s.length ≤ 120000) ∧ (b.length ≤ 400 ∧ ∀ s ∈ b, s.length ≤ 120000) := by
  simp only [manyB, Bool.or_eq_false_iff, decide_eq_false_iff_not] at h
  obtain ⟨h1, h2⟩ := msum_small b (msum a 0) (by omega)
  obtain ⟨_, h3⟩ := msum_small a _ h1
  exact ⟨⟨by omega, h3⟩, by omega, h2⟩

theorem drop_get {α : Type} {l : List α} {k : Nat} {x : α} (h : l[k]? = some x) : l.drop k = x :: l.drop (k + 1) := by
  obtain ⟨h1, h2⟩ := List.getElem?_eq_some_iff.1 h
  rw [List.drop_eq_getElem_cons h1, h2]

theorem many_L (ga gb : Nat) (a b : List Str) (ha : a.length ≤ 1000000000000000) (hb : b.length ≤ 1000000000000000) (hal : ∀ s ∈ a, s.length ≤ 1000000000000000) (hbl : ∀ s ∈ b, s.length ≤ 1000000000000000) :
    PureL Tryd.prog F_lexiconlaw16_many [.isl ga (tx a), .isl gb (tx b)] (.bool (manyB a b)) := by
  intro h
  have hta := tx_len a
  have htb := tx_len b
  refine K_lexiconlaw16_many (md := false) ?_
  refine s_blk (fun e' h' => ∃ n : Int, 0 ≤ n ∧ n ≤ 5000000000000000 ∧ n = msum a 0 ∧ h' = h ∧ e'.ds = [] ∧ Has e' [(0, .isl ga (tx a)), (1, .isl gb (tx b)), (5, .int .i64 n)]) ?_ ?_
  · refine s_loop a.length (fun k (n : Int) => k ≤ a.length ∧ 0 ≤ n ∧ n ≤ 5000000000000000 ∧ msum (a.drop k) n = msum a 0) (fun k n => [(0, .isl ga (tx a)), (1, .isl gb (tx b)), (5, .int .i64 n), (6, .int .i64 k)]) (fun _ _ => h) 0 ⟨Nat.zero_le _, by decide, by decide, rfl⟩ rfl rfl ⟨rfl, rfl, rfl, rfl, trivial⟩ (fun k s hI => hI.1) ?_
    rintro k n n0 g0 hk ⟨_, hn0, hn1, hm⟩
    refine s_lt (fun h1 => ?_) (fun h1 => ?_)
    · obtain ⟨x, hx⟩ := get_lt (l := a) (k := k) (by omega)
      have hxl := hal x (List.mem_of_getElem? hx)
      refine s_le (fun h2 => ?_) (fun h2 => ?_)
      · rw [drop_get hx, msum, if_pos h2] at hm
        refine s_64 (by omega) (by omega) ?_
        refine s_at k x rfl hx rfl (by decide) ?_
        refine ⟨_, rfl, ?_⟩
        refine s_64 (by omega) (by omega) ?_
        refine s_at k x rfl hx rfl (by decide) ?_
        refine ⟨_, rfl, ?_⟩
        refine s_lt (fun h3 => ?_) (fun h3 => ?_)
        · refine s_nat (k + 1) (by omega) (by omega) ?_
          rw [mstep, if_pos (by omega)] at hm
          exact ⟨4194305, by omega, ⟨by omega, by decide, by decide, hm⟩, rfl, rfl, rfl, rfl, rfl, rfl, trivial⟩
        · refine s_nat (k + 1) (by omega) (by omega) ?_
          rw [mstep, if_neg (by omega)] at hm
          exact ⟨n + 16 + x.length, by omega, ⟨by omega, by omega, by omega, hm⟩, rfl, rfl, rfl, rfl, rfl, rfl, trivial⟩
      · rw [msum_big _ _ h2] at hm
        exact ⟨n, hn0, hn1, hm, rfl, rfl, rfl, rfl, rfl, trivial⟩
    · rw [List.drop_of_length_le (by omega)] at hm
      exact ⟨n, hn0, hn1, hm, rfl, rfl, rfl, rfl, rfl, trivial⟩
  rintro e' h' ⟨m1, hm0, hm1, hma, rfl, hd, hs⟩
  obtain ⟨n0, g0, rfl⟩ := hs.out hd
  refine s_blk (fun e' h2 => ∃ n : Int, n = msum b m1 ∧ h2 = h' ∧ e'.ds = [] ∧ Has e' [(0, .isl ga (tx a)), (1, .isl gb (tx b)), (5, .int .i64 n)]) ?_ ?_
  · refine s_loop b.length (fun k (n : Int) => k ≤ b.length ∧ 0 ≤ n ∧ n ≤ 5000000000000000 ∧ msum (b.drop k) n = msum b m1) (fun k n => [(0, .isl ga (tx a)), (1, .isl gb (tx b)), (5, .int .i64 n), (7, .int .i64 k)]) (fun _ _ => h') m1 ⟨Nat.zero_le _, hm0, hm1, rfl⟩ rfl rfl ⟨rfl, rfl, rfl, rfl, trivial⟩ (fun k s hI => hI.1) ?_
    rintro k n n0 g0 hk ⟨_, hn0, hn1, hm⟩
    refine s_lt (fun h1 => ?_) (fun h1 => ?_)
    · obtain ⟨x, hx⟩ := get_lt (l := b) (k := k) (by omega)
      have hxl := hbl x (List.mem_of_getElem? hx)
      refine s_le (fun h2 => ?_) (fun h2 => ?_)
      · rw [drop_get hx, msum, if_pos h2] at hm
        refine s_64 (by omega) (by omega) ?_
        refine s_at k x rfl hx rfl (by decide) ?_
        refine ⟨_, rfl, ?_⟩
        refine s_64 (by omega) (by omega) ?_
        refine s_at k x rfl hx rfl (by decide) ?_
        refine ⟨_, rfl, ?_⟩
        refine s_lt (fun h3 => ?_) (fun h3 => ?_)
        · refine s_nat (k + 1) (by omega) (by omega) ?_
          rw [mstep, if_pos (by omega)] at hm
          exact ⟨4194305, by omega, ⟨by omega, by decide, by decide, hm⟩, rfl, rfl, rfl, rfl, rfl, rfl, trivial⟩
        · refine s_nat (k + 1) (by omega) (by omega) ?_
          rw [mstep, if_neg (by omega)] at hm
          exact ⟨n + 16 + x.length, by omega, ⟨by omega, by omega, by omega, hm⟩, rfl, rfl, rfl, rfl, rfl, rfl, trivial⟩
      · rw [msum_big _ _ h2] at hm
        exact ⟨n, hm, rfl, rfl, rfl, rfl, rfl, trivial⟩
    · rw [List.drop_of_length_le (by omega)] at hm
      exact ⟨n, hm, rfl, rfl, rfl, rfl, rfl, trivial⟩
  rintro e' h2 ⟨n, rfl, rfl, hd, hs⟩
  obtain ⟨n0, g0, rfl⟩ := hs.out hd
  have fin : ∀ t : Bool, t = manyB a b → Res.ret (.bool t) = .ret (.bool (manyB a b)) := fun t ht => by rw [ht]
  refine s_lt (fun h1 => ?_) (fun h1 => ?_)
  · exact ⟨rfl, fin _ (by rw [manyB, ← hma, decide_eq_true h1]; rfl), rfl⟩
  refine s_lt (fun h3 => ?_) (fun h3 => ?_)
  · exact ⟨rfl, fin _ (by rw [manyB, decide_eq_true (show 400 < a.length by omega)]; simp), rfl⟩
  refine s_b ?_
  refine ⟨rfl, fin _ ?_, rfl⟩
  rw [manyB, ← hma, decide_eq_false (show ¬ (4194304 : Int) < msum b m1 by omega), decide_eq_false (show ¬ 400 < a.length by omega)]
  show _ = decide (400 < b.length)
  rw [decide_eq_decide]
  show (400 : Int) < ((tx b).length : Nat) ↔ _
  omega

theorem Fz.one {g tb : Nat} {h : Hp} {T : Nat} {x : Str} (hb : h tb = some (.row T [el x])) : Fz anyMark g h (.slc tb 0 1 (some 1)) (.isl g (tx [x])) := by
  refine .slc tb 0 1 _ T _ _ hb (Nat.le_refl _) rfl (fun k cs cs' h1 h2 => ?_) (fun k cs cs' q u u' h1 h2 h3 h4 => ?_)
  · match k with
    | 0 => cases h1; cases h2; rfl
    | k + 1 => simp at h2
  · match k with
    | 0 =>
      cases h1; cases h2; rw [h3] at h4; cases h4
      match q with
      | 0 => cases h3; exact .same _ rfl
      | q + 1 => simp [el] at h3
    | k + 1 => simp at h2

theorem noids_texts (p : Nat → Bool) (hp : ∀ g, p g = true) : ∀ l : List (Nat × List Str), noids p (l.map fun x => .isl x.1 (tx x.2)) = true
  | [] => rfl
  | x :: l => by
    have := noids_texts p hp l
    show (noid p (.isl x.1 (tx x.2)) && noids p (l.map fun x => .isl x.1 (tx x.2))) = true
    rw [noid_isl p x.1 x.2 (hp _), this]; rfl
theorem OwnB.pure {f : FuncId} {args : List AV} {l : List Str} (ha : noids anyMark args = true) (k : CallL Tryd.prog f args Hp.nil fun r h' => OwnB Ts Hp.nil h' r (tx l)) : PureL Tryd.prog f args (.isl 0 (tx l)) :=
  PureL.nil ha (k.mono fun r h1 hr => by
    obtain ⟨u, rfl⟩ := hr.ret
    exact ⟨u, rfl, hr.fz (noidss_tx _ _)⟩)
theorem Union_P (ga gb : Nat) (a b : List Str) (ha : a.length ≤ 1000) (hb : b.length ≤ 1000) (hp : ∀ p ∈ a ++ b, p.length ≤ 1000000000000000) : PureL Tryd.prog F_mask_Union [.isl ga (tx a), .isl gb (tx b)] (.isl 0 (tx (normal (a ++ b)))) :=
  OwnB.pure (noids_texts anyMark (fun _ => rfl) [(ga, a), (gb, b)]) (Union_L ga gb a b Hp.nil ha hb hp)
theorem Meet_P (ga gb : Nat) (a b : List Str) (ha : a.length ≤ 1000) (hb : b.length ≤ 1000) (hp : ∀ p ∈ a ++ b, p.length ≤ 1000000000000000) : PureL Tryd.prog F_mask_Meet [.isl ga (tx a), .isl gb (tx b)] (.isl 0 (tx (normal (a.filter (cov b) ++ b.filter (cov a))))) :=
  OwnB.pure (noids_texts anyMark (fun _ => rfl) [(ga, a), (gb, b)]) (Meet_L ga gb a b Hp.nil ha hb hp)
theorem Normal_P (g : Nat) (l : List Str) (hl : l.length ≤ 1000000000000) (hp : ∀ p ∈ l, p.length ≤ 1000000000000000) : PureL Tryd.prog F_mask_Normal [.isl g (tx l)] (.isl 0 (tx (normal l))) :=
  OwnB.pure (noids_texts anyMark (fun _ => rfl) [(g, l)]) (Normal_L g l Hp.nil hl hp)

end Go.Proofs.YtibdeeejjbmgcaaDoor

/-
  Contracts: the law MaskCovers.
-/
namespace Go.Proofs.YtibdeeejjbmgcaaDoor
open Go.L

/-- The first loop: what the masks cover. -/
theorem covLoop1 (a b all : List Str) (sa : a.length ≤ 400) (sb : b.length ≤ 400) (hallL : all.length ≤ 1200) (H : Hp) (v : AV) (ha : Acc Ts Hp.nil H v (tx all)) (Q : Xit → Env → Hp → Prop) (e : Env) (hd : e.ds = [])
    (hs : Has e [(0, .isl 0 (tx a)), (1, .isl 0 (tx b)), (7, .bool true), (8, .isl 0 (tx (normal (a ++ b)))), (9, .isl 0 (tx (normal (a.filter (cov b) ++ b.filter (cov a))))), (10, .isl 0 (tx (normal a))), (11, v), (12, .int .i64 (0 : Nat))])
    (hQ : ∀ e', e'.ds = [] → Has e' [(7, .bool true), (8, .isl 0 (tx (normal (a ++ b))))] → Q (.exit 0) e' H) : LCode Tryd.prog false (.loop A_lexiconlaw16_MaskCovers_13) Q e H := by
  have lu : (normal (a ++ b)).length ≤ 1000 := by have := normal_len (a ++ b); simp at this; omega
  have lm : (normal (a.filter (cov b) ++ b.filter (cov a))).length ≤ 1000 := by
    have := normal_len (a.filter (cov b) ++ b.filter (cov a))
    have h3 := List.length_filter_le (cov b) a
    have h4 := List.length_filter_le (cov a) b
    simp only [List.length_append] at this; omega
  have ln : (normal a).length ≤ 1000 := by have := normal_len a; omega
  obtain ⟨s0, s1, s7, s8, s9, s10, s11, s12, _⟩ := hs
  obtain ⟨_, ⟨rfl, h0⟩ | ⟨j, row, rfl, _, hrow, hrt, hrl⟩⟩ := ha
  · refine s_loop 0 (fun k (_ : Unit) => k = 0) (fun k _ => [(7, .bool true), (8, .isl 0 (tx (normal (a ++ b)))), (11, .nils), (12, .int .i64 k)]) (fun _ _ => H) () rfl rfl hd ⟨s7, s8, s11, s12, trivial⟩ (fun k s hI => by omega) ?_
    rintro k _ n0 g0 hk rfl
    exact s_lt (fun h1 => absurd h1 (by decide)) (fun _ => hQ _ rfl ⟨rfl, rfl, trivial⟩)
  · have hal2 : (tx all).length = all.length := tx_len all
    refine s_loop all.length (fun k (_ : Unit) => k ≤ all.length) (fun k _ => [(0, .isl 0 (tx a)), (1, .isl 0 (tx b)), (7, .bool true), (8, .isl 0 (tx (normal (a ++ b)))), (9, .isl 0 (tx (normal (a.filter (cov b) ++ b.filter (cov a))))), (10, .isl 0 (tx (normal a))), (11, .slc j 0 (tx all).length none), (12, .int .i64 k)]) (fun _ _ => H) () (Nat.zero_le _) rfl hd
      ⟨s0, s1, s7, s8, s9, s10, s11, s12, trivial⟩ (fun k s hI => hI) ?_
    intro k _ n0 g0 hk _
    refine s_lt (fun h3 => ?_) (fun _ => hQ _ rfl ⟨rfl, rfl, trivial⟩)
    obtain ⟨q, hq⟩ := get_lt (l := all) (k := k) (by omega)
    have hrk : row[0 + k]? = some (el q) := by
      have : ((tx all))[k]? = some (el q) := tx_get hq
      rw [← hrt, List.getElem?_take_of_lt (by omega)] at this
      rw [Nat.zero_add]; exact this
    have pu := Covers_L 0 (normal (a ++ b)) q (by omega)
    have pm := Covers_L 0 (normal (a.filter (cov b) ++ b.filter (cov a))) q (by omega)
    have pn := Covers_L 0 (normal a) q (by omega)
    have px := Covers_L 0 a q (by omega)
    have py := Covers_L 0 b q (by omega)
    have eu : ((normal (a ++ b)).any fun p => covers p q) = ((a.any fun p => covers p q) || (b.any fun p => covers p q)) := (cov_normal (a ++ b) q).trans (cov_append a b q)
    have em : ((normal (a.filter (cov b) ++ b.filter (cov a))).any fun p => covers p q) = ((a.any fun p => covers p q) && (b.any fun p => covers p q)) := (cov_normal _ q).trans (cov_meet a b q)
    have en : ((normal a).any fun p => covers p q) = (a.any fun p => covers p q) := cov_normal a q
    rw [eu] at pu
    rw [em] at pm
    rw [en] at pn
    clear eu em en
    generalize normal (a ++ b) = U at pu ⊢
    generalize normal (a.filter (cov b) ++ b.filter (cov a)) = V at pm ⊢
    generalize normal a = W at pn ⊢
    generalize (a.any fun p => covers p q) = x at pu pm pn px ⊢
    generalize (b.any fun p => covers p q) = y at pu pm py ⊢
    refine ⟨k, rfl, by omega, ⟨_, hrow⟩, ?_⟩
    refine ⟨_, _, _, _, hrow, hrk, rfl, ?_⟩
    refine px.use ?_
    refine ⟨k, rfl, by omega, ⟨_, hrow⟩, ?_⟩
    refine ⟨_, _, _, _, hrow, hrk, rfl, ?_⟩
    refine py.use ?_
    refine s_cut (fun e' h' => h' = H ∧ e'.ds = [] ∧ e'.t 93 = .bool false ∧ Has e' [(0, .isl 0 (tx a)), (1, .isl 0 (tx b)), (7, .bool true), (8, .isl 0 (tx U)), (9, .isl 0 (tx V)), (10, .isl 0 (tx W)), (11, .slc j 0 (tx all).length none), (12, .int .i64 k)]) ?_ ?_
    · refine ⟨k, rfl, by omega, ⟨_, hrow⟩, ?_⟩
      refine ⟨_, _, _, _, hrow, hrk, rfl, ?_⟩
      refine pu.use ?_
      cases x <;> cases y
      all_goals
        refine s_c (fun h5 => absurd h5 (by decide)) (fun _ => ?_)
        refine ⟨k, rfl, by omega, ⟨_, hrow⟩, ?_⟩
        refine ⟨_, _, _, _, hrow, hrk, rfl, ?_⟩
        refine pm.use ?_
        refine s_c (fun h5 => absurd h5 (by decide)) (fun _ => ?_)
        refine ⟨k, rfl, by omega, ⟨_, hrow⟩, ?_⟩
        refine ⟨_, _, _, _, hrow, hrk, rfl, ?_⟩
        refine pn.use ?_
        refine s_c (fun h5 => absurd h5 (by decide)) (fun _ => ?_)
        exact ⟨rfl, rfl, rfl, rfl, rfl, rfl, rfl, rfl, rfl, rfl, rfl, trivial⟩
    · rintro e' h' ⟨rfl, hd', h93, hs'⟩
      obtain ⟨n1, g1, rfl⟩ := Has.out (l := (93, .bool false) :: _) ⟨h93, hs'⟩ hd'
      refine s_nat (k + 1) (by omega) (by omega) ?_
      exact ⟨(), by omega, by omega, rfl, rfl, rfl, rfl, rfl, rfl, rfl, rfl, rfl, rfl, trivial⟩

/-- The second loop: what stands in a normal mask. -/
theorem covLoop2 (a b U : List Str) (hU : U = normal (a ++ b)) (lu : U.length ≤ 1000) (h : Hp) (Q : Xit → Env → Hp → Prop) (e : Env) (hd : e.ds = [])
    (hs : Has e [(7, .bool true), (8, .isl 0 (tx U)), (15, .int .i64 (0 : Nat))]) (hQ : ∀ e' h', e'.ds = [] → Has e' [(7, .bool true)] → Q (.exit 2) e' h') : LCode Tryd.prog false (.loop A_lexiconlaw16_MaskCovers_20) Q e h := by
  have hlU : (tx U).length = U.length := tx_len U
  refine s_loop U.length (fun k (_ : Hp) => k ≤ U.length) (fun k _ => [(7, .bool true), (8, .isl 0 (tx U)), (15, .int .i64 k)]) (fun _ s => s) h (Nat.zero_le _) rfl hd hs (fun k s hI => hI) ?_
  rintro i H n1 g1 hi _
  refine s_lt (fun h3 => ?_) (fun _ => hQ _ _ rfl ⟨rfl, trivial⟩)
  obtain ⟨x, hx⟩ := get_lt (l := U) (k := i) (by omega)
  refine s_loop U.length (fun k (_ : Hp) => k ≤ U.length) (fun k _ => [(7, .bool true), (8, .isl 0 (tx U)), (15, .int .i64 i), (16, .int .i64 k)]) (fun _ s => s) H (Nat.zero_le _) rfl rfl ⟨rfl, rfl, rfl, rfl, trivial⟩ (fun k s hI => hI) ?_
  rintro k H n2 g2 hk _
  refine s_lt (fun h4 => ?_) (fun h4 => ?_)
  · obtain ⟨y, hy⟩ := get_lt (l := U) (k := k) (by omega)
    have apart : i ≠ k → ([x].any fun p => covers p y) = false := fun hne => by
      have hxy : x ≠ y := by
        rw [hU] at hx hy
        rcases Nat.lt_or_gt_of_ne hne with h | h
        · exact fun e => str_lt_irrefl x (by have := pw_get (normal_pw (a ++ b)) h hx hy; rwa [← e] at this)
        · exact fun e => str_lt_irrefl x (by have := pw_get (normal_pw (a ++ b)) h hy hx; rwa [← e] at this)
      have := normal_apart (l := a ++ b) (p := x) (q := y) (by rw [← hU]; exact List.mem_of_getElem? hx) (by rw [← hU]; exact List.mem_of_getElem? hy) hxy
      simp [this]
    have less : i < k → (!(Op.bytesLess x y)) = false := fun h => by
      rw [Go.Proofs.bytesLess_eq]
      have := pw_get (normal_pw (a ++ b)) h (by rw [← hU]; exact hx) (by rw [← hU]; exact hy)
      simp [this]
    have rx : ∀ {next : List AV → Prop}, next (el x) → ∃ (k : Nat) (cs : List AV), ((i : Nat) : Int) = k ∧ (tx U)[k]? = some cs ∧ cs.length = 1 ∧ 1 ≠ 0 ∧ next cs := fun h => s_at i x rfl hx rfl (by decide) h
    have ry : ∀ {next : List AV → Prop}, next (el y) → ∃ (j : Nat) (cs : List AV), ((k : Nat) : Int) = j ∧ (tx U)[j]? = some cs ∧ cs.length = 1 ∧ 1 ≠ 0 ∧ next cs := fun h => s_at k y rfl hy rfl (by decide) h
    refine s_blk (fun e' h' => e'.ds = [] ∧ Has e' [(7, .bool true), (8, .isl 0 (tx U)), (15, .int .i64 i), (16, .int .i64 k)]) ?_ ?_
    · refine s_ne (fun hne => ?_) (fun heq => ?_)
      · refine rx ⟨_, rfl, ?_⟩
        refine ry ⟨_, rfl, ?_⟩
        refine ⟨_, rfl, fun tb htb => ?_⟩
        refine CallL.lentP (Covers_L 1 [x] y (by simp)) (FzL.two (Fz.one (Hp.set_same _ _ _)) (.same _ rfl)) rfl ?_
        rw [apart (by omega)]
        refine s_lt (fun hlt => ?_) (fun hge => ?_)
        · refine rx ⟨_, rfl, ?_⟩
          refine ry ⟨_, rfl, ?_⟩
          refine s_c (fun h5 => by rw [less (by omega)] at h5; cases h5) (fun _ => ?_)
          exact ⟨rfl, rfl, rfl, rfl, rfl, trivial⟩
        · exact ⟨rfl, rfl, rfl, rfl, rfl, trivial⟩
      · refine s_lt (fun hlt => by omega) (fun hge => ?_)
        exact ⟨rfl, rfl, rfl, rfl, rfl, trivial⟩
    · rintro e' h' ⟨hd', hs'⟩
      obtain ⟨n3, g3, rfl⟩ := hs'.out hd'
      refine s_nat (k + 1) (by omega) (by omega) ?_
      exact ⟨_, by omega, by omega, rfl, rfl, rfl, rfl, rfl, rfl, trivial⟩
  · refine s_nat (i + 1) (by omega) (by omega) ?_
    exact ⟨_, by omega, by omega, rfl, rfl, rfl, rfl, rfl, trivial⟩

theorem MaskCovers_L (a b paths : List Str) (ha : a.length ≤ 1000000000000000) (hal : ∀ s ∈ a, s.length ≤ 1000000000000000) (hb : b.length ≤ 1000000000000000) (hbl : ∀ s ∈ b, s.length ≤ 1000000000000000) (hp : paths.length ≤ 1000000000000000)
    (hpl : ∀ s ∈ paths, s.length ≤ 1000000000000000) (known : PureL Tryd.prog 5 [] (.bool true)) :
    CallL Tryd.prog F_lexiconlaw16_MaskCovers [.isl 0 (tx a), .isl 0 (tx b), .isl 0 (tx paths)] Hp.nil fun r _ => r = .ret (.bool true) := by
  refine K_lexiconlaw16_MaskCovers (md := false) ?_
  refine (many_L 0 0 a b ha hb hal hbl).useC (fun h1 => ⟨rfl, rfl⟩) (fun h1 => ?_)
  refine CallL.lentP (many_L 0 1 paths [] hp (by simp) hpl (by simp)) (FzL.two (.same _ (noid_isl _ _ _ rfl)) (.nilsI 1)) rfl ?_
  cases h2 : manyB paths []
  case true => exact ⟨rfl, rfl⟩
  obtain ⟨⟨sa, sal⟩, sb, sbl⟩ := many_small h1
  obtain ⟨⟨sp, spl⟩, _⟩ := many_small h2
  have hab : ∀ p ∈ a ++ b, p.length ≤ 1000000000000000 := fun p hp => by
    rcases List.mem_append.1 hp with h | h
    · exact hal p h
    · exact hbl p h
  refine known.use ?_
  refine (Union_P 0 0 a b (by omega) (by omega) hab).use ?_
  refine (Meet_P 0 0 a b (by omega) (by omega) hab).use ?_
  refine (Normal_P 0 a (by omega) hal).use ?_
  have lu : (normal (a ++ b)).length ≤ 1000 := by have := normal_len (a ++ b); simp at this; omega
  have cm : capMax = 140737488355328 := rfl
  have tpl := tx_len paths
  have tal := tx_len a
  have tbl := tx_len b
  refine ⟨tx paths, rfl, ?_⟩
  refine Acc.app (Acc.nil Ts Hp.nil) (tx_one _) (tx_flat _) (by rw [List.length_nil]; omega) (by rw [List.length_nil]; omega) fun v1 H4 a1 _ _ => ?_
  refine ⟨tx a, rfl, ?_⟩
  refine Acc.app a1 (tx_one _) (tx_flat _) (by rw [List.length_append, List.length_nil]; omega) (by rw [List.length_append, List.length_nil]; omega) fun v2 H5 a2 _ _ => ?_
  refine ⟨tx b, rfl, ?_⟩
  refine Acc.app a2 (tx_one _) (tx_flat _) (by rw [List.length_append, List.length_append, List.length_nil]; omega) (by rw [List.length_append, List.length_append, List.length_nil]; omega) fun v3 H6 a3 _ _ => ?_
  have eall : ([] : List (List AV)) ++ tx paths ++ tx a ++ tx b = tx (paths ++ a ++ b) := by rw [tx_app, tx_app]; rfl
  rw [eall] at a3
  refine s_blk (fun e' h' => h' = H6 ∧ e'.ds = [] ∧ Has e' [(7, .bool true), (8, .isl 0 (tx (normal (a ++ b))))]) ?_ ?_
  · exact covLoop1 a b (paths ++ a ++ b) sa sb (by simp only [List.length_append]; omega) H6 v3 a3 _ _ rfl ⟨rfl, rfl, rfl, rfl, rfl, rfl, rfl, rfl, trivial⟩ fun e' hd hs => ⟨rfl, hd, hs⟩
  clear a1 a2 a3
  rintro e' h' ⟨rfl, hd, hs⟩
  obtain ⟨n0, g0, rfl⟩ := hs.out hd
  clear hd hs
  exact covLoop2 a b _ rfl lu h' _ _ rfl ⟨rfl, rfl, rfl, trivial⟩ fun e' h' hd h7 => by
    obtain ⟨n1, g1, rfl⟩ := h7.out hd
    exact ⟨rfl, rfl⟩
end Go.Proofs.YtibdeeejjbmgcaaDoor

/- Each code is what the logic makes of the given program (by the kernel). Printed by program (gen_all.py). -/
namespace Go.Proofs.YtibdeeejjbmgcaaDoor
open Go.L
theorem C_lexiconlaw16_known : cutF [] (compF Tryd.prog Tryd.f5) = some (A_lexiconlaw16_known, R_lexiconlaw16_known) := by kernel_rfl
theorem G_lexiconlaw16_known : GoodFC Tryd.prog F_lexiconlaw16_known T_lexiconlaw16_known := ⟨Tryd.f5, [], Tryd.func5, Tryd.ntmps5, C_lexiconlaw16_known, by kernel_rfl⟩
theorem C_q7 : cutF [] (compF Tryd.prog Tryd.f7) = some (A_q7, R_q7) := by kernel_rfl
theorem G_q7 : GoodFC Tryd.prog F_q7 T_q7 := ⟨Tryd.f7, [], Tryd.func7, Tryd.ntmps7, C_q7, by kernel_rfl⟩
theorem C_q8 : cutF [0, 0, 0, 2] (compF Tryd.prog Tryd.f8) = some (A_q8, R_q8) := by kernel_rfl
theorem G_q8 : GoodFC Tryd.prog F_q8 T_q8 := ⟨Tryd.f8, [0, 0, 0, 2], Tryd.func8, Tryd.ntmps8, C_q8, by kernel_rfl⟩
theorem C_q9 : cutF [0] (compF Tryd.prog Tryd.f9) = some (A_q9, R_q9) := by kernel_rfl
theorem G_q9 : GoodFC Tryd.prog F_q9 T_q9 := ⟨Tryd.f9, [0], Tryd.func9, Tryd.ntmps9, C_q9, by kernel_rfl⟩
theorem C_q10 : cutF [] (compF Tryd.prog Tryd.f10) = some (A_q10, R_q10) := by kernel_rfl
theorem G_q10 : GoodFC Tryd.prog F_q10 T_q10 := ⟨Tryd.f10, [], Tryd.func10, Tryd.ntmps10, C_q10, by kernel_rfl⟩
theorem C_q11 : cutF [2, 0] (compF Tryd.prog Tryd.f11) = some (A_q11, R_q11) := by kernel_rfl
theorem G_q11 : GoodFC Tryd.prog F_q11 T_q11 := ⟨Tryd.f11, [2, 0], Tryd.func11, Tryd.ntmps11, C_q11, by kernel_rfl⟩
theorem C_q12 : cutF [0, 2, 0] (compF Tryd.prog Tryd.f12) = some (A_q12, R_q12) := by kernel_rfl
theorem G_q12 : GoodFC Tryd.prog F_q12 T_q12 := ⟨Tryd.f12, [0, 2, 0], Tryd.func12, Tryd.ntmps12, C_q12, by kernel_rfl⟩
theorem C_q13 : cutF [2] (compF Tryd.prog Tryd.f13) = some (A_q13, R_q13) := by kernel_rfl
theorem G_q13 : GoodFC Tryd.prog F_q13 T_q13 := ⟨Tryd.f13, [2], Tryd.func13, Tryd.ntmps13, C_q13, by kernel_rfl⟩
theorem C_q14 : cutF [] (compF Tryd.prog Tryd.f14) = some (A_q14, R_q14) := by kernel_rfl
theorem G_q14 : GoodFC Tryd.prog F_q14 T_q14 := ⟨Tryd.f14, [], Tryd.func14, Tryd.ntmps14, C_q14, by kernel_rfl⟩
theorem C_q15 : cutF [0, 0, 2] (compF Tryd.prog Tryd.f15) = some (A_q15, R_q15) := by kernel_rfl
theorem G_q15 : GoodFC Tryd.prog F_q15 T_q15 := ⟨Tryd.f15, [0, 0, 2], Tryd.func15, Tryd.ntmps15, C_q15, by kernel_rfl⟩
theorem C_q16 : cutF [] (compF Tryd.prog Tryd.f16) = some (A_q16, R_q16) := by kernel_rfl
theorem G_q16 : GoodFC Tryd.prog F_q16 T_q16 := ⟨Tryd.f16, [], Tryd.func16, Tryd.ntmps16, C_q16, by kernel_rfl⟩
theorem C_q17 : cutF [0, 2, 3] (compF Tryd.prog Tryd.f17) = some (A_q17, R_q17) := by kernel_rfl
theorem G_q17 : GoodFC Tryd.prog F_q17 T_q17 := ⟨Tryd.f17, [0, 2, 3], Tryd.func17, Tryd.ntmps17, C_q17, by kernel_rfl⟩
theorem C_q18 : cutF [0, 0] (compF Tryd.prog Tryd.f18) = some (A_q18, R_q18) := by kernel_rfl
theorem G_q18 : GoodFC Tryd.prog F_q18 T_q18 := ⟨Tryd.f18, [0, 0], Tryd.func18, Tryd.ntmps18, C_q18, by kernel_rfl⟩
theorem C_q19 : cutF [] (compF Tryd.prog Tryd.f19) = some (A_q19, R_q19) := by kernel_rfl
theorem G_q19 : GoodFC Tryd.prog F_q19 T_q19 := ⟨Tryd.f19, [], Tryd.func19, Tryd.ntmps19, C_q19, by kernel_rfl⟩
theorem C_q20 : cutF [] (compF Tryd.prog Tryd.f20) = some (A_q20, R_q20) := by kernel_rfl
theorem G_q20 : GoodFC Tryd.prog F_q20 T_q20 := ⟨Tryd.f20, [], Tryd.func20, Tryd.ntmps20, C_q20, by kernel_rfl⟩
theorem C_q21 : cutF [] (compF Tryd.prog Tryd.f21) = some (A_q21, R_q21) := by kernel_rfl
theorem G_q21 : GoodFC Tryd.prog F_q21 T_q21 := ⟨Tryd.f21, [], Tryd.func21, Tryd.ntmps21, C_q21, by kernel_rfl⟩
theorem C_q22 : cutF [] (compF Tryd.prog Tryd.f22) = some (A_q22, R_q22) := by kernel_rfl
theorem G_q22 : GoodFC Tryd.prog F_q22 T_q22 := ⟨Tryd.f22, [], Tryd.func22, Tryd.ntmps22, C_q22, by kernel_rfl⟩
theorem C_q23 : cutF [] (compF Tryd.prog Tryd.f23) = some (A_q23, R_q23) := by kernel_rfl
theorem G_q23 : GoodFC Tryd.prog F_q23 T_q23 := ⟨Tryd.f23, [], Tryd.func23, Tryd.ntmps23, C_q23, by kernel_rfl⟩
theorem C_q24 : cutF [0, 0] (compF Tryd.prog Tryd.f24) = some (A_q24, R_q24) := by kernel_rfl
theorem G_q24 : GoodFC Tryd.prog F_q24 T_q24 := ⟨Tryd.f24, [0, 0], Tryd.func24, Tryd.ntmps24, C_q24, by kernel_rfl⟩
theorem C_q25 : cutF [2, 1] (compF Tryd.prog Tryd.f25) = some (A_q25, R_q25) := by kernel_rfl
theorem G_q25 : GoodFC Tryd.prog F_q25 T_q25 := ⟨Tryd.f25, [2, 1], Tryd.func25, Tryd.ntmps25, C_q25, by kernel_rfl⟩
theorem C_q26 : cutF [1, 3, 3, 3, 3, 3, 3] (compF Tryd.prog Tryd.f26) = some (A_q26, R_q26) := by kernel_rfl
theorem G_q26 : GoodFC Tryd.prog F_q26 T_q26 := ⟨Tryd.f26, [1, 3, 3, 3, 3, 3, 3], Tryd.func26, Tryd.ntmps26, C_q26, by kernel_rfl⟩
theorem C_q27 : cutF [2] (compF Tryd.prog Tryd.f27) = some (A_q27, R_q27) := by kernel_rfl
theorem G_q27 : GoodFC Tryd.prog F_q27 T_q27 := ⟨Tryd.f27, [2], Tryd.func27, Tryd.ntmps27, C_q27, by kernel_rfl⟩
theorem C_q28 : cutF [0, 0] (compF Tryd.prog Tryd.f28) = some (A_q28, R_q28) := by kernel_rfl
theorem G_q28 : GoodFC Tryd.prog F_q28 T_q28 := ⟨Tryd.f28, [0, 0], Tryd.func28, Tryd.ntmps28, C_q28, by kernel_rfl⟩
theorem C_q29 : cutF [] (compF Tryd.prog Tryd.f29) = some (A_q29, R_q29) := by kernel_rfl
theorem G_q29 : GoodFC Tryd.prog F_q29 T_q29 := ⟨Tryd.f29, [], Tryd.func29, Tryd.ntmps29, C_q29, by kernel_rfl⟩
theorem C_q30 : cutF [2, 2, 1, 0, 2] (compF Tryd.prog Tryd.f30) = some (A_q30, R_q30) := by kernel_rfl
theorem G_q30 : GoodFC Tryd.prog F_q30 T_q30 := ⟨Tryd.f30, [2, 2, 1, 0, 2], Tryd.func30, Tryd.ntmps30, C_q30, by kernel_rfl⟩
theorem C_q31 : cutF [0, 0, 2] (compF Tryd.prog Tryd.f31) = some (A_q31, R_q31) := by kernel_rfl
theorem G_q31 : GoodFC Tryd.prog F_q31 T_q31 := ⟨Tryd.f31, [0, 0, 2], Tryd.func31, Tryd.ntmps31, C_q31, by kernel_rfl⟩
theorem C_q32 : cutF [0, 0] (compF Tryd.prog Tryd.f32) = some (A_q32, R_q32) := by kernel_rfl
theorem G_q32 : GoodFC Tryd.prog F_q32 T_q32 := ⟨Tryd.f32, [0, 0], Tryd.func32, Tryd.ntmps32, C_q32, by kernel_rfl⟩
theorem C_q38 : cutF [] (compF Tryd.prog Tryd.f38) = some (A_q38, R_q38) := by kernel_rfl
theorem G_q38 : GoodFC Tryd.prog F_q38 T_q38 := ⟨Tryd.f38, [], Tryd.func38, Tryd.ntmps38, C_q38, by kernel_rfl⟩
theorem C_q42 : cutF [2, 2, 2] (compF Tryd.prog Tryd.f42) = some (A_q42, R_q42) := by kernel_rfl
theorem G_q42 : GoodFC Tryd.prog F_q42 T_q42 := ⟨Tryd.f42, [2, 2, 2], Tryd.func42, Tryd.ntmps42, C_q42, by kernel_rfl⟩
theorem C_q43 : cutF [0] (compF Tryd.prog Tryd.f43) = some (A_q43, R_q43) := by kernel_rfl
theorem G_q43 : GoodFC Tryd.prog F_q43 T_q43 := ⟨Tryd.f43, [0], Tryd.func43, Tryd.ntmps43, C_q43, by kernel_rfl⟩
theorem C_q45 : cutF [2, 1, 3] (compF Tryd.prog Tryd.f45) = some (A_q45, R_q45) := by kernel_rfl
theorem G_q45 : GoodFC Tryd.prog F_q45 T_q45 := ⟨Tryd.f45, [2, 1, 3], Tryd.func45, Tryd.ntmps45, C_q45, by kernel_rfl⟩
theorem C_q46 : cutF [] (compF Tryd.prog Tryd.f46) = some (A_q46, R_q46) := by kernel_rfl
theorem G_q46 : GoodFC Tryd.prog F_q46 T_q46 := ⟨Tryd.f46, [], Tryd.func46, Tryd.ntmps46, C_q46, by kernel_rfl⟩
theorem C_q47 : cutF [] (compF Tryd.prog Tryd.f47) = some (A_q47, R_q47) := by kernel_rfl
theorem G_q47 : GoodFC Tryd.prog F_q47 T_q47 := ⟨Tryd.f47, [], Tryd.func47, Tryd.ntmps47, C_q47, by kernel_rfl⟩
theorem C_q48 : cutF [] (compF Tryd.prog Tryd.f48) = some (A_q48, R_q48) := by kernel_rfl
theorem G_q48 : GoodFC Tryd.prog F_q48 T_q48 := ⟨Tryd.f48, [], Tryd.func48, Tryd.ntmps48, C_q48, by kernel_rfl⟩
theorem C_q55 : cutF [] (compF Tryd.prog Tryd.f55) = some (A_q55, R_q55) := by kernel_rfl
theorem G_q55 : GoodFC Tryd.prog F_q55 T_q55 := ⟨Tryd.f55, [], Tryd.func55, Tryd.ntmps55, C_q55, by kernel_rfl⟩
theorem C_q56 : cutF [] (compF Tryd.prog Tryd.f56) = some (A_q56, R_q56) := by kernel_rfl
theorem G_q56 : GoodFC Tryd.prog F_q56 T_q56 := ⟨Tryd.f56, [], Tryd.func56, Tryd.ntmps56, C_q56, by kernel_rfl⟩
theorem C_q60 : cutF [2, 1, 3, 3, 3, 3] (compF Tryd.prog Tryd.f60) = some (A_q60, R_q60) := by kernel_rfl
theorem G_q60 : GoodFC Tryd.prog F_q60 T_q60 := ⟨Tryd.f60, [2, 1, 3, 3, 3, 3], Tryd.func60, Tryd.ntmps60, C_q60, by kernel_rfl⟩
theorem C_q63 : cutF [] (compF Tryd.prog Tryd.f63) = some (A_q63, R_q63) := by kernel_rfl
theorem G_q63 : GoodFC Tryd.prog F_q63 T_q63 := ⟨Tryd.f63, [], Tryd.func63, Tryd.ntmps63, C_q63, by kernel_rfl⟩
end Go.Proofs.YtibdeeejjbmgcaaDoor

/- The table of the codes is of the given program. Printed by program (gen_all.py). -/
namespace Go.Proofs.YtibdeeejjbmgcaaDoor
open Go.L
set_option maxRecDepth 100000
theorem codes_ok : trOK (GoodFC Tryd.prog) Codes id := ⟨trivial, ⟨trivial, ⟨trivial, ⟨G_q7, ⟨G_q15, ⟨G_q31, ⟨G_q63, trivial, trivial⟩, trivial⟩, ⟨G_q47, trivial, trivial⟩⟩, ⟨G_q23, trivial, ⟨G_q55, trivial, trivial⟩⟩⟩, ⟨G_q11, ⟨G_q19, trivial, trivial⟩, ⟨G_q27, ⟨G_q43, trivial, trivial⟩, trivial⟩⟩⟩, ⟨G_lexiconlaw16_known, ⟨G_q9, ⟨G_q17, trivial, trivial⟩, ⟨G_q25, trivial, trivial⟩⟩, ⟨G_q13, ⟨G_q21, trivial, trivial⟩, ⟨G_q29, ⟨G_q45, trivial, trivial⟩, trivial⟩⟩⟩⟩, ⟨trivial, ⟨trivial, ⟨G_q8, ⟨G_q16, ⟨G_q32, trivial, trivial⟩, ⟨G_q48, trivial, trivial⟩⟩, ⟨G_q24, trivial, ⟨G_q56, trivial, trivial⟩⟩⟩, ⟨G_q12, ⟨G_q20, trivial, trivial⟩, ⟨G_q28, trivial, ⟨G_q60, trivial, trivial⟩⟩⟩⟩, ⟨trivial, ⟨G_q10, ⟨G_q18, trivial, trivial⟩, ⟨G_q26, ⟨G_q42, trivial, trivial⟩, trivial⟩⟩, ⟨G_q14, ⟨G_q22, ⟨G_q38, trivial, trivial⟩, trivial⟩, ⟨G_q30, ⟨G_q46, trivial, trivial⟩, trivial⟩⟩⟩⟩⟩
end Go.Proofs.YtibdeeejjbmgcaaDoor

/-
  The closed head of the laws of masks, computed.
-/
namespace Go.Proofs.YtibdeeejjbmgcaaDoor
open Go.L
set_option maxRecDepth 100000 in
theorem known_run : PureL Tryd.prog 5 [] (.bool true) := CallL.ofRun codes_ok (loops := 1000) (d := 60) rfl rfl (by kernel_rfl)
end Go.Proofs.YtibdeeejjbmgcaaDoor
