/- Contracts of functions of the given program, in the logic L: texts put together; no conditions. -/
import Derived.Test.YtgjjbfhamlecoacGreatDoorZ2
import Derived.Test.YtgjjbfhamlecoacGreatDoorZ3
import Derived.Test.YtgjjbfhamlecoacGreatDoorProg
import Derived.KernelRfl
import Derived.Test.YtgjjbfhamlecoacGreatDoorZ10
namespace Go.Proofs.YtgjjbfhamlecoacGreatDoor
open Go.L
abbrev F_cmp_isNaN : Nat := 291
def A_cmp_isNaN_0 : LA := [mv 3 0, mv 4 0, Wb 5 .neq 3 4, mv 2 5]
def A_cmp_isNaN : ACode := (.seq (.ops [Wo 2 false]) (.seq (.ops A_cmp_isNaN_0) .ret))
def R_cmp_isNaN : List ARes := [.tmp 2]
theorem C_cmp_isNaN : compF Tryz.prog Tryz.f291 = some (A_cmp_isNaN, R_cmp_isNaN) := by kernel_rfl
theorem K_cmp_isNaN {md : Bool} {args : List AV} {h : Hp} {Q : Res → Hp → Prop} (hl : LCode Tryz.prog md A_cmp_isNaN (EndQ R_cmp_isNaN Q) (env0 6 args) h) (hn : args.length ≤ 6 := by (simp; done)) : CallL Tryz.prog F_cmp_isNaN args h Q :=
 CallL.of (md := md) Tryz.func291 C_cmp_isNaN (by rw [Tryz.ntmps291]; exact hn) (by rw [Tryz.ntmps291]; exact hl)
abbrev F_cmp_Less : Nat := 253
def A_cmp_Less_0 : LA := [mv 5 0, o_ 6 (.call 291 [(.t 5)]), mv 7 6, Wgm 8 1 7, g_ 9 (.call 291 [(.t 8)]) 7, g_ 10 (.not (.t 9)) 7, Wp 11 7 10, mv 12 11, Whm 13 0 12, Whm 14 1 12, Wh 15 (.bini .lss (.t 13) (.t 14)) 12, Wq 16 12 15, mv 4 16]
def A_cmp_Less : ACode := (.seq (.ops [Wo 4 false]) (.seq (.ops A_cmp_Less_0) .ret))
def R_cmp_Less : List ARes := [.tmp 4]
theorem C_cmp_Less : compF Tryz.prog Tryz.f253 = some (A_cmp_Less, R_cmp_Less) := by kernel_rfl
theorem K_cmp_Less {md : Bool} {args : List AV} {h : Hp} {Q : Res → Hp → Prop} (hl : LCode Tryz.prog md A_cmp_Less (EndQ R_cmp_Less Q) (env0 17 args) h) (hn : args.length ≤ 17 := by (simp; done)) : CallL Tryz.prog F_cmp_Less args h Q :=
 CallL.of (md := md) Tryz.func253 C_cmp_Less (by rw [Tryz.ntmps253]; exact hn) (by rw [Tryz.ntmps253]; exact hl)
abbrev F_slices_insertionSortOrdered : Nat := 247
def A_slices_insertionSortOrdered_0 : LA := [mv 8 1, Wi 9 .add 8 1, mv 6 9]
def A_slices_insertionSortOrdered_1 : LA := [mv 10 6, mv 11 2, Wb 12 .lss 10 11]
def A_slices_insertionSortOrdered_2 : LA := [mv 15 6, mv 7 15]
def A_slices_insertionSortOrdered_3 : LA := [mv 16 7, mv 17 1, Wb 18 .gtr 16 17, mv 19 18, Wgm 20 0 19, Wgm 21 7 19, g_ 22 (.iaddr 21 1 (.t 20) (.t 21)) 19, Wgl 23 22 19, Wgm 24 0 19, Wgm 25 7 19, g_ 26 (.bini .sub (.t 25) (i_ 1)) 19, g_ 27 (.iaddr 21 1 (.t 24) (.t 26)) 19, Wgl 28 27 19, g_ 29 (.call 253 [(.t 23), (.t 28)]) 19, Wp 30 19 29]
def A_slices_insertionSortOrdered_4 : LA := [mv 33 0, mv 34 7, mv 35 0, mv 36 7, Wi 37 .sub 36 1, mv 38 0, mv 39 7, Wi 40 .sub 39 1, Wa 41 21 1 38 40, Wl 42 41, mv 43 0, mv 44 7, Wa 45 21 1 43 44, Wl 46 45, Wa 47 21 1 33 34, Ws 1 47 42, Wa 48 21 1 35 37, Ws 1 48 46]
def A_slices_insertionSortOrdered_5 : LA := [mv 31 7, Wi 32 .sub 31 1, mv 7 32]
def A_slices_insertionSortOrdered_6 : ACode := (.seq (.seq (.alts [16, 17, 18, 19, 20, 21, 22, 23, 24, 25, 26, 27, 28, 29, 30] [A_slices_insertionSortOrdered_3]) (.cond (.t 30) .skip (.exit 2))) (.seq (.block 3 (.alts [33, 34, 35, 36, 37, 38, 39, 40, 41, 42, 43, 44, 45, 46, 47, 48] [A_slices_insertionSortOrdered_4])) (.ops A_slices_insertionSortOrdered_5)))
def A_slices_insertionSortOrdered_7 : LA := [mv 13 6, Wi 14 .add 13 1, mv 6 14]
def A_slices_insertionSortOrdered_8 : ACode := (.seq (.seq (.ops A_slices_insertionSortOrdered_1) (.cond (.t 12) .skip (.exit 0))) (.seq (.block 1 (.seq (.ops A_slices_insertionSortOrdered_2) (.block 2 (.loop A_slices_insertionSortOrdered_6)))) (.ops A_slices_insertionSortOrdered_7)))
def A_slices_insertionSortOrdered : ACode := (.seq (.ops A_slices_insertionSortOrdered_0) (.block 0 (.loop A_slices_insertionSortOrdered_8)))
def R_slices_insertionSortOrdered : List ARes := []
theorem C_slices_insertionSortOrdered : compF Tryz.prog Tryz.f247 = some (A_slices_insertionSortOrdered, R_slices_insertionSortOrdered) := by kernel_rfl
theorem K_slices_insertionSortOrdered {md : Bool} {args : List AV} {h : Hp} {Q : Res → Hp → Prop} (hl : LCode Tryz.prog md A_slices_insertionSortOrdered (EndQ R_slices_insertionSortOrdered Q) (env0 49 args) h) (hn : args.length ≤ 49 := by (simp; done)) : CallL Tryz.prog F_slices_insertionSortOrdered args h Q :=
 CallL.of (md := md) Tryz.func247 C_slices_insertionSortOrdered (by rw [Tryz.ntmps247]; exact hn) (by rw [Tryz.ntmps247]; exact hl)
abbrev F_slices_pdqsortOrdered : Nat := 193
def A_slices_pdqsortOrdered_0 : LA := [mv 19 2, mv 20 1, Wb 21 .sub 19 20, mv 10 21]
def A_slices_pdqsortOrdered_1 : LA := [mv 22 10, Wi 23 .leq 22 12]
def A_slices_pdqsortOrdered_2 : LA := [mv 24 0, mv 25 1, mv 26 2, o_ 27 (.call 247 [(.t 24), (.t 25), (.t 26)])]
def A_slices_pdqsortOrdered_3 : LA := [mv 28 3, Wi 29 .eql 28 0]
def A_slices_pdqsortOrdered_4 : LA := [mv 30 0, mv 31 1, mv 32 2, o_ 33 (.call 248 [(.t 30), (.t 31), (.t 32)])]
def A_slices_pdqsortOrdered_5 : LA := [mv 34 8, o_ 35 (.not (.t 34))]
def A_slices_pdqsortOrdered_6 : LA := [mv 36 0, mv 37 1, mv 38 2, o_ 39 (.call 249 [(.t 36), (.t 37), (.t 38)])]
def A_slices_pdqsortOrdered_7 : LA := [mv 40 3, Wi 41 .sub 40 1, mv 3 41]
def A_slices_pdqsortOrdered_8 : LA := [mv 43 0, mv 44 1, mv 45 2, o_ 46 (.call 250 [(.t 43), (.t 44), (.t 45)]), mv 42 46, Wx 47 0 42, Wx 48 1 42, mv 11 47, mv 12 48]
def A_slices_pdqsortOrdered_9 : LA := [mv 49 12, Wi 50 .eql 49 2]
def A_slices_pdqsortOrdered_10 : LA := [mv 51 0, mv 52 1, mv 53 2, o_ 54 (.call 251 [(.t 51), (.t 52), (.t 53)])]
def A_slices_pdqsortOrdered_11 : LA := [mv 55 2, Wi 56 .sub 55 1, mv 57 11, mv 58 1, Wb 59 .sub 57 58, Wb 60 .sub 56 59, mv 11 60]
def A_slices_pdqsortOrdered_12 : LA := [mv 61 8, mv 62 61, Wgm 63 9 62, Wp 64 62 63, mv 65 64, Wgm 66 12 65, g_ 67 (.bini .eql (.t 66) (i_ 1)) 65, Wp 68 65 67]
def A_slices_pdqsortOrdered_13 : LA := [mv 69 0, mv 70 1, mv 71 2, o_ 72 (.call 252 [(.t 69), (.t 70), (.t 71)])]
def A_slices_pdqsortOrdered_14 : LA := [mv 73 1, Wi 74 .gtr 73 0, mv 75 74, Wgm 76 0 75, Wgm 77 1 75, g_ 78 (.bini .sub (.t 77) (i_ 1)) 75, g_ 79 (.iaddr 21 1 (.t 76) (.t 78)) 75, Wgl 80 79 75, Wgm 81 0 75, Wgm 82 11 75, g_ 83 (.iaddr 21 1 (.t 81) (.t 82)) 75, Wgl 84 83 75, g_ 85 (.call 253 [(.t 80), (.t 84)]) 75, g_ 86 (.not (.t 85)) 75, Wp 87 75 86]
def A_slices_pdqsortOrdered_15 : LA := [mv 88 0, mv 89 1, mv 90 2, mv 91 11, o_ 92 (.call 254 [(.t 88), (.t 89), (.t 90), (.t 91)]), mv 13 92]
def A_slices_pdqsortOrdered_16 : LA := [mv 93 13, mv 1 93]
def A_slices_pdqsortOrdered_17 : LA := [mv 95 0, mv 96 1, mv 97 2, mv 98 11, o_ 99 (.call 255 [(.t 95), (.t 96), (.t 97), (.t 98)]), mv 94 99, Wx 100 0 94, Wx 101 1 94, mv 14 100, mv 15 101]
def A_slices_pdqsortOrdered_18 : LA := [mv 102 15, mv 9 102]
def A_slices_pdqsortOrdered_19 : LA := [mv 103 14, mv 104 1, Wb 105 .sub 103 104, mv 106 2, mv 107 14, Wb 108 .sub 106 107, mv 16 105, mv 17 108]
def A_slices_pdqsortOrdered_20 : LA := [mv 109 10, Wi 110 .quo 109 8, mv 18 110]
def A_slices_pdqsortOrdered_21 : LA := [mv 111 16, mv 112 17, Wb 113 .lss 111 112]
def A_slices_pdqsortOrdered_22 : LA := [mv 114 16, mv 115 18, Wb 116 .geq 114 115, mv 8 116]
def A_slices_pdqsortOrdered_23 : LA := [mv 117 0, mv 118 1, mv 119 14, mv 120 3, o_ 121 (.call 193 [(.t 117), (.t 118), (.t 119), (.t 120)])]
def A_slices_pdqsortOrdered_24 : LA := [mv 122 14, Wi 123 .add 122 1, mv 1 123]
def A_slices_pdqsortOrdered_25 : LA := [mv 124 17, mv 125 18, Wb 126 .geq 124 125, mv 8 126]
def A_slices_pdqsortOrdered_26 : LA := [mv 127 0, mv 128 14, Wi 129 .add 128 1, mv 130 2, mv 131 3, o_ 132 (.call 193 [(.t 127), (.t 129), (.t 130), (.t 131)])]
def A_slices_pdqsortOrdered_27 : LA := [mv 133 14, mv 2 133]
def A_slices_pdqsortOrdered_28 : ACode := (.block 1 (.seq (.ops A_slices_pdqsortOrdered_0) (.seq (.seq (.ops A_slices_pdqsortOrdered_1) (.cond (.t 23) (.seq (.ops A_slices_pdqsortOrdered_2) .ret) .skip)) (.seq (.seq (.ops A_slices_pdqsortOrdered_3) (.cond (.t 29) (.seq (.ops A_slices_pdqsortOrdered_4) .ret) .skip)) (.seq (.seq (.ops A_slices_pdqsortOrdered_5) (.cond (.t 35) (.seq (.ops A_slices_pdqsortOrdered_6) (.ops A_slices_pdqsortOrdered_7)) .skip)) (.seq (.ops A_slices_pdqsortOrdered_8) (.seq (.seq (.ops A_slices_pdqsortOrdered_9) (.cond (.t 50) (.seq (.ops A_slices_pdqsortOrdered_10) (.seq (.ops A_slices_pdqsortOrdered_11) (.ops [Wm 12 1]))) .skip)) (.seq (.seq (.ops A_slices_pdqsortOrdered_12) (.cond (.t 68) (.seq (.ops A_slices_pdqsortOrdered_13) (.cond (.t 72) .ret .skip)) .skip)) (.seq (.seq (.alts [73, 74, 75, 76, 77, 78, 79, 80, 81, 82, 83, 84, 85, 86, 87] [A_slices_pdqsortOrdered_14]) (.cond (.t 87) (.seq (.ops A_slices_pdqsortOrdered_15) (.seq (.ops A_slices_pdqsortOrdered_16) (.exit 1))) .skip)) (.seq (.ops A_slices_pdqsortOrdered_17) (.seq (.ops A_slices_pdqsortOrdered_18) (.seq (.ops A_slices_pdqsortOrdered_19) (.seq (.ops A_slices_pdqsortOrdered_20) (.seq (.ops A_slices_pdqsortOrdered_21) (.cond (.t 113) (.seq (.ops A_slices_pdqsortOrdered_22) (.seq (.ops A_slices_pdqsortOrdered_23) (.ops A_slices_pdqsortOrdered_24))) (.seq (.ops A_slices_pdqsortOrdered_25) (.seq (.ops A_slices_pdqsortOrdered_26) (.ops A_slices_pdqsortOrdered_27))))))))))))))))))
def A_slices_pdqsortOrdered : ACode := (.seq (.ops [Wo 8 true]) (.seq (.ops [Wo 9 true]) (.block 0 (.loop A_slices_pdqsortOrdered_28))))
def R_slices_pdqsortOrdered : List ARes := []
theorem C_slices_pdqsortOrdered : compF Tryz.prog Tryz.f193 = some (A_slices_pdqsortOrdered, R_slices_pdqsortOrdered) := by kernel_rfl
theorem K_slices_pdqsortOrdered {md : Bool} {args : List AV} {h : Hp} {Q : Res → Hp → Prop} (hl : LCode Tryz.prog md A_slices_pdqsortOrdered (EndQ R_slices_pdqsortOrdered Q) (env0 134 args) h) (hn : args.length ≤ 134 := by (simp; done)) : CallL Tryz.prog F_slices_pdqsortOrdered args h Q :=
 CallL.of (md := md) Tryz.func193 C_slices_pdqsortOrdered (by rw [Tryz.ntmps193]; exact hn) (by rw [Tryz.ntmps193]; exact hl)
abbrev F_slices_Sort : Nat := 135
def A_slices_Sort_0 : LA := [mv 3 0, We 4 3, mv 2 4]
def A_slices_Sort_1 : LA := [mv 5 0, mv 6 2, mv 7 2, o_ 8 (.conv .u64 (.t 7)), o_ 9 (.call 59 [(.t 8)]), o_ 10 (.call 193 [(.t 5), (i_ 0), (.t 6), (.t 9)])]
def A_slices_Sort : ACode := (.seq (.ops A_slices_Sort_0) (.ops A_slices_Sort_1))
def R_slices_Sort : List ARes := []
theorem C_slices_Sort : compF Tryz.prog Tryz.f135 = some (A_slices_Sort, R_slices_Sort) := by kernel_rfl
theorem K_slices_Sort {md : Bool} {args : List AV} {h : Hp} {Q : Res → Hp → Prop} (hl : LCode Tryz.prog md A_slices_Sort (EndQ R_slices_Sort Q) (env0 11 args) h) (hn : args.length ≤ 11 := by (simp; done)) : CallL Tryz.prog F_slices_Sort args h Q :=
 CallL.of (md := md) Tryz.func135 C_slices_Sort (by rw [Tryz.ntmps135]; exact hn) (by rw [Tryz.ntmps135]; exact hl)
abbrev F_maps_Keys_F : Nat := 83
def A_maps_Keys_F_0 : LA := [o_ 1 (.box 184 1 (.t 0)), o_ 2 (.mov (.c (.nilf)))]
def A_maps_Keys_F_1 : LA := [o_ 3 (.mkfn 136 [] [(.t 1)]), mv 2 3]
def A_maps_Keys_F : ACode := (.seq (.ops A_maps_Keys_F_0) (.seq (.ops A_maps_Keys_F_1) .ret))
def R_maps_Keys_F : List ARes := [.tmp 2]
theorem C_maps_Keys_F : compF Tryz.prog Tryz.f83 = some (A_maps_Keys_F, R_maps_Keys_F) := by kernel_rfl
theorem K_maps_Keys_F {md : Bool} {args : List AV} {h : Hp} {Q : Res → Hp → Prop} (hl : LCode Tryz.prog md A_maps_Keys_F (EndQ R_maps_Keys_F Q) (env0 4 args) h) (hn : args.length ≤ 4 := by (simp; done)) : CallL Tryz.prog F_maps_Keys_F args h Q :=
 CallL.of (md := md) Tryz.func83 C_maps_Keys_F (by rw [Tryz.ntmps83]; exact hn) (by rw [Tryz.ntmps83]; exact hl)
abbrev F_maps_Keys_F1 : Nat := 136
def A_maps_Keys_F1_0 : LA := [Wl 4 1, o_ 5 (.rngm (.t 4))]
def A_maps_Keys_F1_1 : LA := [o_ 6 (.nxm (.t 5)), Wx 7 0 6]
def A_maps_Keys_F1_2 : LA := [o_ 8 (.entr (.t 5)), Wx 9 0 8, mv 3 9]
def A_maps_Keys_F1_3 : LA := [mv 10 0, mv 11 3, o_ 12 (.callv (.t 10) [(.t 11)]), o_ 13 (.not (.t 12))]
def A_maps_Keys_F1_4 : ACode := (.seq (.ops A_maps_Keys_F1_1) (.seq (.cond (.t 7) .skip (.exit 0)) (.block 1 (.seq (.ops A_maps_Keys_F1_2) (.seq (.ops A_maps_Keys_F1_3) (.cond (.t 13) .ret .skip))))))
def A_maps_Keys_F1 : ACode := (.seq (.ops A_maps_Keys_F1_0) (.block 0 (.loop A_maps_Keys_F1_4)))
def R_maps_Keys_F1 : List ARes := []
theorem C_maps_Keys_F1 : compF Tryz.prog Tryz.f136 = some (A_maps_Keys_F1, R_maps_Keys_F1) := by kernel_rfl
theorem K_maps_Keys_F1 {md : Bool} {args : List AV} {h : Hp} {Q : Res → Hp → Prop} (hl : LCode Tryz.prog md A_maps_Keys_F1 (EndQ R_maps_Keys_F1 Q) (env0 14 args) h) (hn : args.length ≤ 14 := by (simp; done)) : CallL Tryz.prog F_maps_Keys_F1 args h Q :=
 CallL.of (md := md) Tryz.func136 C_maps_Keys_F1 (by rw [Tryz.ntmps136]; exact hn) (by rw [Tryz.ntmps136]; exact hl)
abbrev F_slices_AppendSeq : Nat := 192
def A_slices_AppendSeq_0 : LA := [o_ 2 (.box 210 1 (.t 0)), Wn 4]
def A_slices_AppendSeq_1 : LA := [Wl 8 2, mv 9 5, o_ 10 (.bslice 21 1 1 [.int .i32 0] [(0, 1, (.t 9))]), o_ 11 (.app 21 1 4 (.t 8) (.t 10)), Ws 1 2 11]
def A_slices_AppendSeq_2 : LA := [Wl 12 2, mv 4 12]
def A_slices_AppendSeq : ACode := (.seq (.ops A_slices_AppendSeq_0) (.seq (.seq (.ops [mv 6 1]) (.block 0 (.rngf (.t 6) [7] (.ops [mv 5 7]) (.block 1 (.ops A_slices_AppendSeq_1))))) (.seq (.ops A_slices_AppendSeq_2) .ret)))
def R_slices_AppendSeq : List ARes := [.tmp 4]
theorem C_slices_AppendSeq : compF Tryz.prog Tryz.f192 = some (A_slices_AppendSeq, R_slices_AppendSeq) := by kernel_rfl
abbrev F_slices_Collect : Nat := 134
def A_slices_Collect_0 : LA := [mv 3 0, o_ 4 (.call 192 [(.c (.nils)), (.t 3)]), mv 2 4]
def A_slices_Collect : ACode := (.seq (.ops [Wn 2]) (.seq (.ops A_slices_Collect_0) .ret))
def R_slices_Collect : List ARes := [.tmp 2]
theorem C_slices_Collect : compF Tryz.prog Tryz.f134 = some (A_slices_Collect, R_slices_Collect) := by kernel_rfl
theorem K_slices_Collect {md : Bool} {args : List AV} {h : Hp} {Q : Res → Hp → Prop} (hl : LCode Tryz.prog md A_slices_Collect (EndQ R_slices_Collect Q) (env0 5 args) h) (hn : args.length ≤ 5 := by (simp; done)) : CallL Tryz.prog F_slices_Collect args h Q :=
 CallL.of (md := md) Tryz.func134 C_slices_Collect (by rw [Tryz.ntmps134]; exact hn) (by rw [Tryz.ntmps134]; exact hl)
abbrev F_slices_Sorted : Nat := 82
def A_slices_Sorted_0 : LA := [mv 4 0, o_ 5 (.call 134 [(.t 4)]), mv 3 5]
def A_slices_Sorted_1 : LA := [mv 6 3, o_ 7 (.call 135 [(.t 6)])]
def A_slices_Sorted_2 : LA := [mv 8 3, mv 2 8]
def A_slices_Sorted : ACode := (.seq (.ops [Wn 2]) (.seq (.ops A_slices_Sorted_0) (.seq (.ops A_slices_Sorted_1) (.seq (.ops A_slices_Sorted_2) .ret))))
def R_slices_Sorted : List ARes := [.tmp 2]
theorem C_slices_Sorted : compF Tryz.prog Tryz.f82 = some (A_slices_Sorted, R_slices_Sorted) := by kernel_rfl
theorem K_slices_Sorted {md : Bool} {args : List AV} {h : Hp} {Q : Res → Hp → Prop} (hl : LCode Tryz.prog md A_slices_Sorted (EndQ R_slices_Sorted Q) (env0 9 args) h) (hn : args.length ≤ 9 := by (simp; done)) : CallL Tryz.prog F_slices_Sorted args h Q :=
 CallL.of (md := md) Tryz.func82 C_slices_Sorted (by rw [Tryz.ntmps82]; exact hn) (by rw [Tryz.ntmps82]; exact hl)
abbrev F_math_bits_Len : Nat := 59
def A_math_bits_Len_0 : LA := [mv 3 0, o_ 4 (.conv .u32 (.t 3)), o_ 5 (.call 114 [(.t 4)]), mv 2 5]
def A_math_bits_Len_1 : LA := [mv 6 0, o_ 7 (.call 115 [(.t 6)]), mv 2 7]
def A_math_bits_Len : ACode := (.seq (.ops [Wm 2 0]) (.seq (.cond (.c (.bool false)) (.seq (.ops A_math_bits_Len_0) .ret) .skip) (.seq (.ops A_math_bits_Len_1) .ret)))
def R_math_bits_Len : List ARes := [.tmp 2]
theorem C_math_bits_Len : compF Tryz.prog Tryz.f59 = some (A_math_bits_Len, R_math_bits_Len) := by kernel_rfl
theorem K_math_bits_Len {md : Bool} {args : List AV} {h : Hp} {Q : Res → Hp → Prop} (hl : LCode Tryz.prog md A_math_bits_Len (EndQ R_math_bits_Len Q) (env0 8 args) h) (hn : args.length ≤ 8 := by (simp; done)) : CallL Tryz.prog F_math_bits_Len args h Q :=
 CallL.of (md := md) Tryz.func59 C_math_bits_Len (by rw [Tryz.ntmps59]; exact hn) (by rw [Tryz.ntmps59]; exact hl)
end Go.Proofs.YtgjjbfhamlecoacGreatDoor

namespace Go.Proofs.YtgjjbfhamlecoacGreatDoor
open Go.L
theorem Len_L (v : Nat) (hv : v < 18446744073709551616) (h : Hp) : CallL Tryz.prog F_math_bits_Len [.int .u64 v] h fun r h' => (∃ n : Nat, n ≤ 64 ∧ r = .ret (.int .i64 n)) ∧ h' = h := by
 refine K_math_bits_Len (md := false) ?_
 refine (Len64_L v hv h).mono ?_
 rintro r h' ⟨⟨n, hn, rfl⟩, rfl⟩
 exact ⟨rfl, ⟨n, hn, rfl⟩, rfl⟩
theorem insert0_L (h : Hp) : CallL Tryz.prog F_slices_insertionSortOrdered [.nils, .int .i64 0, .int .i64 0] h fun r h' => r = .ret (.tup []) ∧ h' = h := by
 refine K_slices_insertionSortOrdered (md := false) ?_
 refine s_nat 1 rfl (by decide) ?_
 refine s_blk (id := 0) (fun e' h' => h' = h ∧ e'.ds = []) ?_ ?_
 ·refine s_loop 0 (fun q (_ : Unit) => q ≤ 0) (fun _ _ => [(2, .int .i64 0), (6, .int .i64 1)]) (fun _ _ => h) () (Nat.le_refl _) rfl rfl ⟨rfl, rfl, trivial⟩ (fun _ _ h => h) ?_
  rintro q _ n0 g0 _ _
  refine s_lt (fun h1 => absurd h1 (by decide)) (fun _ => ?_)
  exact ⟨rfl, rfl⟩
 ·rintro e' h' ⟨rfl, hd⟩
  exact ⟨hd, rfl, rfl⟩
theorem pdq0_L (h : Hp) (q : Int) : CallL Tryz.prog F_slices_pdqsortOrdered [.nils, .int .i64 0, .int .i64 0, .int .i64 q] h fun r h' => r = .ret (.tup []) ∧ h' = h := by
 refine K_slices_pdqsortOrdered (md := false) ?_
 refine ⟨fun _ e h' => h' = h ∧ e.ds = [] ∧ Has e [(0, .nils), (1, .int .i64 0), (2, .int .i64 0), (3, .int .i64 q)], ⟨0, rfl, rfl, rfl, rfl, rfl, rfl, trivial⟩, ?_⟩
 rintro n' e h' ⟨rfl, hd, hh⟩
 obtain ⟨n0, g, rfl⟩ := hh.out hd
 clear hh hd
 refine s_nat 0 rfl (by decide) ?_
 refine s_le (fun _ => ?_) (fun h1 => absurd h1 (by decide))
 refine (insert0_L h').mono ?_
 rintro r h2 ⟨rfl, rfl⟩
 exact ⟨rfl, rfl, rfl⟩
theorem Sort0_L (h : Hp) : CallL Tryz.prog F_slices_Sort [.nils] h fun r h' => r = .ret (.tup []) ∧ h' = h := by
 refine K_slices_Sort (md := false) ?_
 refine s_ie (u64_nat (v := 0) (by decide)) ?_
 refine (Len_L 0 (by decide) h).mono ?_
 rintro r h' ⟨⟨n, hn, rfl⟩, rfl⟩
 refine (pdq0_L h' n).mono ?_
 rintro r h2 ⟨rfl, rfl⟩
 exact ⟨rfl, rfl, rfl⟩
theorem Has_KeysF : HasBody Tryz.prog F_maps_Keys_F1 := ⟨_, Tryz.func136, by kernel_rfl, by kernel_rfl⟩
theorem keys0_L {c m clk Tc j : Nat} {h : Hp} (hc : h c = some (.row Tc [[.map m]])) (hm : h m = some (.map [] clk)) :
  CallL Tryz.prog F_maps_Keys_F1 [.yld j, .ptr c 0 0] h fun r h' => (∃ v, r = .ret v) ∧ Gr h h' := by
 refine K_maps_Keys_F1 (md := false) ?_
 refine ⟨Tc, _, _, _, hc, rfl, rfl, ?_⟩
 refine ⟨[], clk, hm, fun it hit => ?_⟩
 have dm : m ≠ it := ne_of_u (Hp.used hm) hit.1
 refine s_blk (id := 0) (fun e' h' => e'.ds = [] ∧ Gr h h') ?_ ?_
 ·refine s_loop 0 (fun q (_ : Unit) => q ≤ 0) (fun _ _ => [(5, .ptr it 0 0)]) (fun _ _ => h.set it (.mapIter (some m) clk [] clk)) () (Nat.le_refl _) rfl rfl ⟨rfl, trivial⟩ (fun _ _ h => h) ?_
  rintro q _ n0 g0 _ _
  refine ⟨some m, clk, _, clk, Hp.set_same _ _ _, [], clk, (Hp.set_ne dm).trans hm, .inl rfl, fun _ => .inl ?_, fun kk v b hin => by cases hin⟩
  exact ⟨_, rfl, rfl, (Gr.refl h).set hit.1 _⟩
 ·rintro e' h' ⟨hd, g⟩
  exact ⟨hd, ⟨_, rfl⟩, g⟩
theorem AppendSeq0_L {c m clk Tc : Nat} {h : Hp} (hc : h c = some (.row Tc [[.map m]])) (hm : h m = some (.map [] clk)) :
  CallL Tryz.prog F_slices_AppendSeq [.nils, .func (.func F_maps_Keys_F1) [] [.ptr c 0 0]] h fun r h' => r = .ret .nils ∧ Gr h h' := by
 refine CallL.ofD (md := false) Tryz.func192 C_slices_AppendSeq (by rw [Tryz.ntmps192]; exact (show 2 ≤ 13 by decide)) (by
  rw [Tryz.ntmps192]
  refine ⟨rfl, rfl, fun ib hib => ?_⟩
  refine ⟨Has_KeysF, fun id hid j hj => ?_⟩
  have gb := (Gr.refl h).set hib.1 (.row 210 [[.nils]])
  have gd := gb.set (gb.new hid.1) .dfr
  have nj : ib ≠ j := ne_of_u (by rw [Hp.set_u, Hp.set_u]; simp) hj.1
  have nd : ib ≠ id := ne_of_u (by rw [Hp.set_u]; simp) hid.1
  have ndj : id ≠ j := ne_of_u (by rw [Hp.set_u]; simp) hj.1
  refine (keys0_L (j := j) ((Hp.set_ne ?_).trans (gd.blk hc)) ((Hp.set_ne ?_).trans (gd.blk hm))).mono ?_
  ·exact ne_of_u (gd.u _ (Hp.used hc)) hj.1
  ·exact ne_of_u (gd.u _ (Hp.used hm)) hj.1
  ·rintro r H ⟨⟨v, rfl⟩, g⟩
   have hjH := g.blk (Hp.set_same _ _ _)
   refine ⟨none, _, _, _, _, _, _, hjH, ⟨by simp, rfl⟩, .inl ?_⟩
   have hib2 := g.blk ((Hp.set_ne nj).trans ((Hp.set_ne nd).trans (Hp.set_same h ib (.row 210 [[.nils]]))))
   refine ⟨_, _, _, _, (Hp.set_ne nj).trans hib2, rfl, rfl, ?_⟩
   have hid2 := g.blk ((Hp.set_ne ndj).trans (Hp.set_same _ id .dfr))
   refine ⟨(Hp.set_ne ndj).trans hid2, ?_⟩
   have g2 := (gd.set (gd.new hj.1) (.dfr)).trans (Gr.refl _)
   have hju : h.u j = false := gd.new hj.1
   have hidu : h.u id = false := gb.new hid.1
   refine ⟨rfl, ?_⟩
   refine Gr.del (Gr.set (Gr.trans (gd.set hju _) g) hju _) hidu)
theorem Sorted0_L {c m clk Tc : Nat} {h : Hp} (hc : h c = some (.row Tc [[.map m]])) (hm : h m = some (.map [] clk)) :
  CallL Tryz.prog F_slices_Sorted [.func (.func F_maps_Keys_F1) [] [.ptr c 0 0]] h fun r h' => r = .ret .nils ∧ Gr h h' := by
 refine K_slices_Sorted (md := false) ?_
 refine CallL.mono (Q := fun r h' => r = .ret .nils ∧ Gr h h') ?_ ?_
 ·refine K_slices_Collect (md := false) ?_
  refine (AppendSeq0_L hc hm).mono ?_
  rintro r h' ⟨rfl, g⟩
  exact ⟨rfl, rfl, g⟩
 ·rintro r h' ⟨rfl, g⟩
  refine (Sort0_L h').mono ?_
  rintro r h2 ⟨rfl, rfl⟩
  exact ⟨rfl, rfl, g⟩
theorem KeysF_L (m : Nat) (h : Hp) : CallL Tryz.prog F_maps_Keys_F [.map m] h fun r h' => ∃ c, r = .ret (.func (.func F_maps_Keys_F1) [] [.ptr c 0 0]) ∧ h.u c = false ∧ ∃ Tc, h' = h.set c (.row Tc [[.map m]]) := by
 refine K_maps_Keys_F (md := false) ?_
 refine ⟨rfl, rfl, fun c hc => ?_⟩
 exact ⟨rfl, c, rfl, hc.1, _, rfl⟩
end Go.Proofs.YtgjjbfhamlecoacGreatDoor

namespace Go.Proofs.YtgjjbfhamlecoacGreatDoor
open Go.L
theorem Type_L {Tt : Nat} {full : Str} {os rs nm nv jv : AV} {h : Hp} (hT : h Tt = some (.row TTab [TabC (.str full) os rs nm nv jv])) : CallL Tryz.prog F_table_Table_Type [.ptr Tt 0 0] h fun r h' => r = .ret (.str full) ∧ h' = h := by
 refine K_table_Table_Type (md := false) ?_
 refine ⟨_, _, _, _, hT, rfl, rfl, ?_⟩
 exact ⟨rfl, rfl, rfl⟩
abbrev TM : TypeId := 44
def MsgC (full : Str) (fs un : AV) : List AV := [.str full, fs, un]
theorem Msg_lay {full : Str} {u : AV} (hv : notTup u = true ∧ u.cells = [u] ∧ flat [u] = true) {e : Env} {x y : AOpd} (hx : ev e x = .str full) (hy : ev e y = u) : lay e [.str [], .nils, .nils] [(0, 1, x), (2, 1, y)] = some (MsgC full .nils u) := by
 rw [lay, hx]
 show lay e _ _ = _
 rw [lay, hy, hv.1, hv.2.1]
 rfl
theorem MsgC_len (full : Str) (fs un : AV) : (MsgC full fs un).length = 3 := rfl
theorem Msg_flat {full : Str} {u : AV} (hv : flat [u] = true) : flat (MsgC full .nils u) = true := by
 simp only [flat, MsgC, List.all_cons, List.all_nil, Bool.and_true, Bool.and_eq_true] at hv ⊢
 exact ⟨rfl, rfl, hv⟩
set_option maxHeartbeats 1000000 in
theorem msg0_L {h : Hp} {N Tt FM cF : Nat} {full : Str} {os rs nm nv jv u : AV} (hN : h N = some (.row TN [[.ptr Tt 0 0, .map FM, u]])) (hT : h Tt = some (.row TTab [TabC (.str full) os rs nm nv jv])) (hF : h FM = some (.map [] cF))
  (hu : notTup u = true ∧ u.cells = [u] ∧ flat [u] = true) : CallL Tryz.prog F_decode_node_msg [.ptr N 0 0] h fun r h' => r = .ret (.agg (MsgC full .nils u)) ∧ Gr h h' := by
 refine K_decode_node_msg (md := false) ?_
 refine ⟨rfl, rfl, fun B hB => ?_⟩
 have g1 := (Gr.refl h).set hB.1 (.row TM [[.str [], .nils, .nils]])
 refine .inr (.inl ?_)
 refine ⟨_, _, _, _, g1.blk hN, rfl, rfl, ?_⟩
 refine ⟨.str full, fun h' hle => Type_L (hle _ _ (g1.blk hT)), ?_⟩
 refine ⟨_, _, _, _, g1.blk hN, rfl, rfl, ?_⟩
 refine ⟨_, Msg_lay hu rfl rfl, ?_⟩
 refine ⟨rfl, rfl, fun B2 hB2 => ?_⟩
 refine ⟨_, _, _, Hp.set_same _ _ _, rfl, rfl, MsgC_len _ _ _, Msg_flat hu.2.2, by show 3 ≤ 3; decide, ?_⟩
 have g3 := (g1.set (g1.new hB2.1) (.row TM [[.str [], .nils, .nils]])).set (g1.new hB2.1) (.row TM [MsgC full .nils u])
 have hBu : ((h.set B (.row TM [[.str [], .nils, .nils]])).u B) = true := by rw [Hp.set_u]; simp
 have hBB : B ≠ B2 := ne_of_u hBu hB2.1
 refine ⟨_, _, _, _, g3.blk hN, rfl, rfl, ?_⟩
 refine (KeysF_L FM _).mono ?_
 rintro r h4 ⟨c, rfl, hc, Tc, rfl⟩
 have g4 := g3.set (g3.new hc) (.row Tc [[.map FM]])
 refine (Sorted0_L (Hp.set_same _ _ _) (g4.blk hF)).mono ?_
 rintro r h5 ⟨rfl, g5⟩
 have hB2' := g5.blk ((Hp.set_ne (ne_of_u (by rw [Hp.set_u]; simp) hc)).trans (Hp.set_same ((h.set B (.row TM [[.str [], .nils, .nils]])).set B2 (.row TM [[.str [], .nils, .nils]])) B2 (.row TM [MsgC full .nils u])))
 have hB' := g5.blk ((Hp.set_ne (ne_of_u (by rw [Hp.set_u, Hp.set_u, Hp.set_u]; simp) hc)).trans ((Hp.set_ne hBB).trans ((Hp.set_ne hBB).trans (Hp.set_same h B (.row TM [[.str [], .nils, .nils]])))))
 refine s_blk (id := 0) (fun e' h' => h' = h5 ∧ e'.ds = [] ∧ Has e' [(2, .ptr B 0 0), (3, .ptr B2 0 0)]) ?_ ?_
 ·refine s_loop 0 (fun q (_ : Unit) => q ≤ 0) (fun _ _ => [(2, .ptr B 0 0), (3, .ptr B2 0 0), (29, .int .i64 0), (30, .int .i64 0)]) (fun _ _ => h5) () (Nat.le_refl _) rfl rfl ⟨rfl, rfl, rfl, rfl, trivial⟩ (fun _ _ h => h) ?_
  rintro q _ n0 g0 _ _
  refine s_lt (fun h1 => absurd h1 (by decide)) (fun _ => ?_)
  exact ⟨rfl, rfl, rfl, rfl, trivial⟩
 rintro e' h' ⟨rfl, hd, hh⟩
 obtain ⟨n0, g0, rfl⟩ := hh.out hd
 refine ⟨_, _, _, hB2', rfl, by show 3 ≤ 3; decide, ?_⟩
 refine ⟨_, _, _, hB', rfl, rfl, rfl, Msg_flat hu.2.2, by show 3 ≤ 3; decide, ?_⟩
 refine ⟨rfl, ?_⟩
 refine ⟨_, _, _, Hp.set_same _ _ _, rfl, by show 3 ≤ 3; decide, ?_⟩
 exact ⟨rfl, (g4.trans g5).set hB.1 _⟩
theorem CloneNil_L (h : Hp) : CallL Tryz.prog F_slices_Clone [.nils] h fun r h' => r = .ret .nils ∧ h' = h := by
 refine K_slices_Clone (md := false) ?_
 exact ⟨rfl, rfl, rfl⟩
def NewN (Tt : Nat) (h : Hp) (r : Res) (h' : Hp) : Prop := ∃ N FM, r = .ret (.ptr N 0 0) ∧ h.u N = false ∧ h.u FM = false ∧ Gr h h' ∧ h' N = some (.row TN [[.ptr Tt 0 0, .map FM, .nils]]) ∧ h' FM = some (.map [] 0)
theorem empty_L {D S Tt : Nat} {full : Str} {h : Hp} {bv wv : AV} {a : Int} (hD : h D = some (.row TD [[.ifc 37 (.ptr S 0 0), bv, wv]]))
  (hTab : CallL Tryz.prog F_table_Set_Table [.ptr S 0 0, .str full] h fun r h' => r = .ret (.tup [.ptr Tt 0 0, .int .i64 0]) ∧ h' = h) :
  CallL Tryz.prog F_decode_decoder_empty [.ptr D 0 0, .str full, .int .i64 a] h (NewN Tt h) := by
 refine K_decode_decoder_empty (md := false) ?_
 refine ⟨_, _, _, _, hD, rfl, rfl, ?_⟩
 refine hTab.mono ?_
 rintro r h' ⟨rfl, rfl⟩
 refine ⟨_, rfl, _, rfl, ?_⟩
 refine s_ne (fun h1 => absurd rfl h1) (fun _ => ?_)
 intro FM hFM
 refine ⟨_, rfl, ?_⟩
 refine ⟨rfl, rfl, fun N hN => ?_⟩
 have hFN : FM ≠ N := ne_of_u (by rw [Hp.set_u]; simp) hN.1
 have g1 := (Gr.refl h').set hFM.1 (.map [] 0)
 exact ⟨rfl, N, FM, rfl, g1.new hN.1, hFM.1, g1.set (g1.new hN.1) _, Hp.set_same _ _ _, (Hp.set_ne hFN).trans (Hp.set_same _ _ _)⟩
theorem node0_L {D S Tt : Nat} {full : Str} {h : Hp} {bv wv : AV} (hD : h D = some (.row TD [[.ifc 37 (.ptr S 0 0), bv, wv]]))
  (hTab : ∀ h', Gr h h' → CallL Tryz.prog F_table_Set_Table [.ptr S 0 0, .str full] h' fun r h'' => r = .ret (.tup [.ptr Tt 0 0, .int .i64 0]) ∧ h'' = h') :
  CallL Tryz.prog F_decode_decoder_node [.ptr D 0 0, .agg (MsgC full .nils .nils)] h (NewN Tt h) := by
 refine K_decode_decoder_node (md := false) ?_
 refine ⟨rfl, rfl, fun B hB => ?_⟩
 have g1 := (Gr.refl h).set hB.1 (.row TM [MsgC full .nils .nils])
 refine ⟨_, _, _, _, Hp.set_same _ _ _, rfl, rfl, ?_⟩
 refine (empty_L (g1.blk hD) (hTab _ g1)).mono ?_
 rintro r h2 ⟨N, FM, rfl, hN, hFM, g2, k1, k2⟩
 have hB2 := g2.blk (Hp.set_same h B (.row TM [MsgC full .nils .nils]))
 refine ⟨_, _, _, _, hB2, rfl, rfl, ?_⟩
 refine (CloneNil_L h2).mono ?_
 rintro r h3 ⟨rfl, rfl⟩
 refine ⟨_, _, _, k1, rfl, rfl, rfl, rfl, by show 3 ≤ 3; decide, ?_⟩
 have hNB : B ≠ N := ne_of_u (by rw [Hp.set_u]; simp) hN
 have hFN : FM ≠ N := fun e => by rw [e, k1] at k2; cases k2
 have g3 := (g1.trans g2).set (g1.new hN) (.row TN [[.ptr Tt 0 0, .map FM, .nils]])
 refine ⟨_, _, _, _, (Hp.set_ne hNB).trans hB2, rfl, rfl, ?_⟩
 refine s_blk (id := 0) (fun e' h' => h' = h3.set N (.row TN [[.ptr Tt 0 0, .map FM, .nils]]) ∧ e'.ds = [] ∧ Has e' [(5, .ptr N 0 0)]) ?_ ?_
 ·refine s_loop 0 (fun q (_ : Unit) => q ≤ 0) (fun _ _ => [(5, .ptr N 0 0), (28, .int .i64 0), (29, .int .i64 0)]) (fun _ _ => h3.set N (.row TN [[.ptr Tt 0 0, .map FM, .nils]])) () (Nat.le_refl _) rfl rfl ⟨rfl, rfl, rfl, trivial⟩ (fun _ _ h => h) ?_
  rintro q _ n0 g0 _ _
  refine s_lt (fun h1 => absurd h1 (by decide)) (fun _ => ?_)
  exact ⟨rfl, rfl, rfl, trivial⟩
 rintro e' h' ⟨rfl, hd, hh⟩
 obtain ⟨n0, g0, rfl⟩ := hh.out hd
 exact ⟨rfl, N, FM, rfl, g1.new hN, g1.new hFM, g3, Hp.set_same _ _ _, (Hp.set_ne hFN).trans k2⟩
end Go.Proofs.YtgjjbfhamlecoacGreatDoor

namespace Go.Proofs.YtgjjbfhamlecoacGreatDoor
open Go.L
def el (z : Int) : List AV := [.int .i32 z]
def rwI (zs : List Int) : Blk := .row 21 (zs.map el)
theorem isNaN_L (n : Int) : PureL Tryz.prog F_cmp_isNaN [.int .i32 n] (.bool false) := by
 intro h
 refine K_cmp_isNaN (md := false) ?_
 intro t ht
 exact ⟨rfl, Res.bool_eq (by rw [ht]; simp), rfl⟩
theorem Less_L (a b : Int) : PureL Tryz.prog F_cmp_Less [.int .i32 a, .int .i32 b] (.bool (decide (a < b))) := by
 intro h
 refine K_cmp_Less (md := false) ?_
 refine (isNaN_L _).useB fun t ht => ?_
 subst ht
 intro t ht
 exact ⟨rfl, Res.bool_eq ht, rfl⟩
def But (j k : Nat) (ys : List Int) : Prop := ∀ (p q : Nat) (x y : Int), p < q → q ≤ k → q ≠ j → ys[p]? = some x → ys[q]? = some y → x ≤ y
def SortedTo (k : Nat) (ys : List Int) : Prop := ∀ (p q : Nat) (x y : Int), p < q → q < k → ys[p]? = some x → ys[q]? = some y → x ≤ y
theorem two_at {ys : List Int} {j : Nat} (h1 : 0 < j) (h2 : j < ys.length) : ∃ l a b r, ys = l ++ a :: b :: r ∧ l.length + 1 = j := by
 refine ⟨ys.take (j - 1), ys[j - 1], ys[j], ys.drop (j + 1), ?_, by simp; omega⟩
 have e1 : ys.drop (j - 1) = ys[j - 1] :: ys.drop j := by
  have := List.drop_eq_getElem_cons (l := ys) (i := j - 1) (by omega)
  rw [show j - 1 + 1 = j by omega] at this; exact this
 have e2 : ys.drop j = ys[j] :: ys.drop (j + 1) := List.drop_eq_getElem_cons h2
 rw [← e2, ← e1, List.take_append_drop]
theorem But.step {l r : List Int} {a b : Int} {k : Nat} (hb : But (l.length + 1) k (l ++ a :: b :: r)) (hk : l.length + 1 ≤ k) (hab : b < a) : But l.length k (l ++ b :: a :: r) := by
 have g1 : ∀ (c d : Int), (l ++ c :: d :: r)[l.length]? = some c := fun c d => by simp
 have g2 : ∀ (c d : Int), (l ++ c :: d :: r)[l.length + 1]? = some d := fun c d => by
  rw [List.getElem?_append_right (by omega)]; simp
 have g3 : ∀ (p : Nat), p ≠ l.length → p ≠ l.length + 1 → (l ++ b :: a :: r)[p]? = (l ++ a :: b :: r)[p]? := fun p h1 h2 => by
  rcases Nat.lt_or_ge p l.length with h | h
  ·rw [List.getElem?_append_left h, List.getElem?_append_left h]
  ·rw [List.getElem?_append_right h, List.getElem?_append_right h]
   obtain ⟨n, hn⟩ : ∃ n, p - l.length = n + 2 := ⟨p - l.length - 2, by omega⟩
   rw [hn]; simp
 intro p q x y hpq hq hne hx hy
 by_cases q1 : q = l.length + 1
 ·subst q1
  rw [g2] at hy; cases hy
  by_cases p1 : p = l.length
  ·subst p1; rw [g1] at hx; cases hx; omega
  ·rw [g3 p p1 (by omega)] at hx
   exact hb p l.length x a (by omega) (by omega) (by omega) hx (g1 a b)
 ·rw [g3 q hne q1] at hy
  by_cases p1 : p = l.length
  ·subst p1; rw [g1] at hx; cases hx
   exact hb (l.length + 1) q _ y (by omega) hq q1 (g2 a b) hy
  ·by_cases p2 : p = l.length + 1
   ·subst p2; rw [g2] at hx; cases hx
    exact hb l.length q _ y (by omega) hq q1 (g1 a b) hy
   ·rw [g3 p p1 p2] at hx
    exact hb p q x y hpq hq q1 hx hy
theorem But.done {l r : List Int} {a b : Int} {k : Nat} (hb : But (l.length + 1) k (l ++ a :: b :: r)) (hk : l.length + 1 ≤ k) (hab : ¬ b < a) : SortedTo (k + 1) (l ++ a :: b :: r) := by
 intro p q x y hpq hq hx hy
 by_cases q1 : q = l.length + 1
 ·subst q1
  have hy' : y = b := by
   rw [List.getElem?_append_right (by omega)] at hy; simp at hy; exact hy.symm
  subst hy'
  have ga : (l ++ a :: y :: r)[l.length]? = some a := by simp
  by_cases p1 : p = l.length
  ·subst p1; rw [ga] at hx; cases hx; omega
  ·have := hb p l.length x a (by omega) (by omega) (by omega) hx ga
   omega
 ·exact hb p q x y hpq (by omega) q1 hx hy
set_option maxHeartbeats 1000000 in
theorem insertionSort_L (h : Hp) (i : Nat) (c : Option Nat) (zs : List Int) (hz : zs ≠ []) (hlen : zs.length ≤ 1000) (hi : h i = some (rwI zs)) (n : Int) (hn : n = zs.length) :
  CallL Tryz.prog F_slices_insertionSortOrdered [.slc i 0 zs.length c, .int .i64 0, .int .i64 n] h fun r h' => r = .ret (.tup []) ∧ ∃ ys, ys.Perm zs ∧ SortedTo zs.length ys ∧ h' = h.set i (rwI ys) := by
 have hz1 : 0 < zs.length := List.length_pos_iff.2 hz
 refine K_slices_insertionSortOrdered (md := false) ?_
 intro m hm
 obtain rfl : m = (1 : Nat) := by rw [hm]; rfl
 refine ⟨fun n' e h' => ∃ (k : Nat) (ys : List Int), n' = zs.length - k ∧ 1 ≤ k ∧ k ≤ zs.length ∧ ys.Perm zs ∧ SortedTo k ys ∧ h' = h.set i (rwI ys) ∧ e.ds = [] ∧
   Has e [(0, .slc i 0 zs.length c), (1, .int .i64 0), (2, .int .i64 n), (6, .int .i64 k)], ⟨_, 1, zs, rfl, Nat.le_refl _, hz1, .refl _, fun p q x y hpq hq => by omega, ?_, rfl, rfl, rfl, rfl, rfl, trivial⟩, ?_⟩
 ·refine Hp.ext (fun x => ?_) (fun x => ?_)
  ·by_cases e : x = i
   ·subst e; rw [Hp.set_same, hi]
   ·rw [Hp.set_ne e]
  ·rw [Hp.set_u]; split
   ·rename_i e; subst e
    cases hu : h.u x with
    | true => rfl
    | false => rw [h.ok x hu] at hi; cases hi
   ·rfl
 rintro n' e h' ⟨k, ys, rfl, hk1, hk2, hp, hs, rfl, hd, hh⟩
 obtain ⟨n0, g, rfl⟩ := hh.out hd
 clear hh hd
 have hyl : ys.length = zs.length := hp.length_eq
 intro t ht
 cases t
 case false =>
  have hk : k = zs.length := by have := of_decide_eq_false ht.symm; omega
  exact ⟨rfl, rfl, ys, hp, by rw [← hk]; exact hs, rfl⟩
 have hk : k < zs.length := by have := of_decide_eq_true ht.symm; omega
 clear ht
 refine ⟨fun n' e h' => ∃ (j : Nat) (ys : List Int), n' = j ∧ j ≤ k ∧ ys.Perm zs ∧ But j k ys ∧ h' = h.set i (rwI ys) ∧ e.ds = [] ∧
   Has e [(0, .slc i 0 zs.length c), (1, .int .i64 0), (2, .int .i64 n), (6, .int .i64 k), (7, .int .i64 j)], ⟨_, k, ys, rfl, Nat.le_refl _, hp, fun p q x y hpq hq hne => hs p q x y hpq (by omega), rfl, rfl, rfl, rfl, rfl, rfl, rfl, trivial⟩, ?_⟩
 clear hp hs hyl
 rintro n' e h' ⟨j, ys, hn', hj, hp, hb, rfl, hd, hh⟩
 obtain ⟨n1, g1, rfl⟩ := hh.out hd
 clear hh hd
 have hyl : ys.length = zs.length := hp.length_eq
 have fin : SortedTo (k + 1) ys → ∀ m : Int, m = IntKind.i64.wrap (k + 1) → ∃ q, q < zs.length - k ∧ ∃ (k' : Nat) (ys' : List Int), q = zs.length - k' ∧ 1 ≤ k' ∧ k' ≤ zs.length ∧ ys'.Perm zs ∧ SortedTo k' ys' ∧ h.set i (rwI ys) = h.set i (rwI ys') ∧ m = k' := fun hs m hm =>
  ⟨_, by omega, k + 1, ys, rfl, by omega, by omega, hp, hs, rfl, by rw [hm, wrap_i64 (by omega) (by omega)]; rfl⟩
 intro t ht
 cases t
 case false =>
  have hj0 : j = 0 := by have := of_decide_eq_false ht.symm; omega
  subst hj0
  intro m hm
  obtain ⟨q, q1, k', ys', q2, q3, q4, q5, q6, q7, rfl⟩ := fin (fun p q x y hpq hq => hb p q x y hpq (by omega) (by omega)) m hm
  exact ⟨q, q1, k', ys', q2, q3, q4, q5, q6, q7, rfl, rfl, rfl, rfl, rfl, trivial⟩
 have hj0 : 0 < j := by have := of_decide_eq_true ht.symm; omega
 clear ht
 obtain ⟨l, a, b, r, rfl, hl⟩ := two_at (ys := ys) hj0 (by omega)
 have ga : ((l ++ a :: b :: r).map el)[0 + l.length]? = some (el a) := by rw [Nat.zero_add]; simp
 have gb : ((l ++ a :: b :: r).map el)[0 + j]? = some (el b) := by
  rw [Nat.zero_add, ← hl, List.getElem?_map, List.getElem?_append_right (by omega)]; simp
 have hset : (h.set i (rwI (l ++ a :: b :: r))).m i = some (rwI (l ++ a :: b :: r)) := Hp.set_same _ _ _
 have hjw : IntKind.i64.wrap ((j : Int) - 1) = (l.length : Nat) := by rw [wrap_i64 (by omega) (by omega)]; omega
 refine ⟨j, rfl, by omega, ⟨_, hset⟩, ?_⟩
 refine ⟨21, _, _, _, hset, gb, rfl, ?_⟩
 intro m hm
 obtain rfl : m = (l.length : Nat) := hm.trans hjw
 refine ⟨l.length, rfl, by omega, ⟨_, hset⟩, ?_⟩
 refine ⟨21, _, _, _, hset, ga, rfl, ?_⟩
 refine (Less_L _ _).useB fun t ht => ?_
 cases t
 case false =>
  intro m hm
  obtain ⟨q, q1, k', ys', q2, q3, q4, q5, q6, q7, rfl⟩ := fin (But.done (l := l) (r := r) (a := a) (b := b) (k := k) (by rw [hl]; exact hb) (by omega) (of_decide_eq_false ht.symm)) m hm
  exact ⟨q, q1, k', ys', q2, q3, q4, q5, q6, q7, rfl, rfl, rfl, rfl, rfl, trivial⟩
 have hba := of_decide_eq_true ht.symm
 clear ht
 intro m hm
 obtain rfl : m = (l.length : Nat) := hm.trans hjw
 intro m hm
 obtain rfl : m = (l.length : Nat) := hm.trans hjw
 refine ⟨l.length, rfl, by omega, ⟨_, hset⟩, ?_⟩
 refine ⟨21, _, _, _, hset, ga, rfl, ?_⟩
 refine ⟨j, rfl, by omega, ⟨_, hset⟩, ?_⟩
 refine ⟨21, _, _, _, hset, gb, rfl, ?_⟩
 refine ⟨j, rfl, by omega, ⟨_, hset⟩, ?_⟩
 refine ⟨21, _, _, hset, gb, rfl, rfl, rfl, Nat.le_refl _, ?_⟩
 refine ⟨l.length, rfl, by omega, ⟨_, Hp.set_same _ _ _⟩, ?_⟩
 have ga' : (((l ++ a :: b :: r).map el).set (0 + j) (el a))[0 + l.length]? = some (el a) := by
  rw [List.getElem?_set, if_neg (by omega)]; exact ga
 refine ⟨21, _, _, Hp.set_same _ _ _, ga', rfl, rfl, rfl, Nat.le_refl _, ?_⟩
 intro m hm
 obtain rfl : m = (l.length : Nat) := hm.trans hjw
 have hE : (((l ++ a :: b :: r).map el).set (0 + j) (el a)).set (0 + l.length) (el b) = (l ++ b :: a :: r).map el := by
  have e1 : 0 + j = l.length + 1 := by omega
  rw [e1, Nat.zero_add]
  simp [List.set_append]
 refine ⟨l.length, by omega, l.length, l ++ b :: a :: r, rfl, by omega, ?_, But.step (by rw [hl]; exact hb) (by omega) hba, ?_, rfl, rfl, rfl, rfl, rfl, rfl, trivial⟩
 ·exact (List.Perm.append_left l (List.Perm.swap a b r)).trans hp
 ·rw [Hp.set_set, Hp.set_set]
  exact congrArg (fun x => h.set i (.row 21 x)) hE
theorem pdq_L (h : Hp) (i : Nat) (c : Option Nat) (zs : List Int) (hz : zs ≠ []) (hlen : zs.length ≤ 12) (hi : h i = some (rwI zs)) (n : Int) (hn : n = zs.length) (q : Int) :
  CallL Tryz.prog F_slices_pdqsortOrdered [.slc i 0 zs.length c, .int .i64 0, .int .i64 n, .int .i64 q] h fun r h' => r = .ret (.tup []) ∧ ∃ ys, ys.Perm zs ∧ SortedTo zs.length ys ∧ h' = h.set i (rwI ys) := by
 refine K_slices_pdqsortOrdered (md := false) ?_
 refine ⟨fun _ e h' => h' = h ∧ e.ds = [] ∧ Has e [(0, .slc i 0 zs.length c), (1, .int .i64 0), (2, .int .i64 n), (3, .int .i64 q)], ⟨0, rfl, rfl, rfl, rfl, rfl, rfl, trivial⟩, ?_⟩
 rintro n' e h' ⟨rfl, hd, hh⟩
 obtain ⟨n0, g, rfl⟩ := hh.out hd
 clear hh hd
 intro m hm
 obtain rfl : m = n := by rw [hm, Int.sub_zero]; exact wrap_i64 (by omega) (by omega)
 intro t ht
 cases t
 case false => exact absurd (of_decide_eq_false ht.symm) (by omega)
 refine (insertionSort_L h' i c zs hz (by omega) hi m hn).mono ?_
 rintro r h2 ⟨rfl, ys, h3, h4, rfl⟩
 exact ⟨rfl, rfl, ys, h3, h4, rfl⟩
theorem Sort_L (h : Hp) (i : Nat) (c : Option Nat) (zs : List Int) (hz : zs ≠ []) (hlen : zs.length ≤ 12) (hi : h i = some (rwI zs)) :
  CallL Tryz.prog F_slices_Sort [.slc i 0 zs.length c] h fun r h' => r = .ret (.tup []) ∧ ∃ ys, ys.Perm zs ∧ SortedTo zs.length ys ∧ h' = h.set i (rwI ys) := by
 refine K_slices_Sort (md := false) ?_
 intro m hm
 obtain rfl : m = (zs.length : Nat) := by
  rw [hm]
  show IntKind.wrap .u64 (zs.length : Int) = _
  exact IntWalk.u64_in _ ⟨by omega, by omega⟩
 refine (Len_L zs.length (by omega) h).mono ?_
 rintro r h9 ⟨⟨q, _, rfl⟩, rfl⟩
 refine (pdq_L h9 i c zs hz hlen hi _ rfl q).mono ?_
 rintro r h2 ⟨rfl, ys, h3, h4, rfl⟩
 exact ⟨rfl, rfl, ys, h3, h4, rfl⟩
abbrev Ent := AV × AV × Nat
def keyI (x : Ent) : Int := match x.1 with | .int _ z => z | _ => 0
structure GoodM (es : MapL) (clk : Nat) : Prop where
 key : ∀ x ∈ es, x.1 = .int .i32 (keyI x)
 old : ∀ x ∈ es, x.2.2 < clk
 nodup : (es.map fun x => x.2.2).Nodup
theorem find_of {es : MapL} (hn : (es.map fun x => x.2.2).Nodup) {x : Ent} (hx : x ∈ es) : (es.find? fun y => y.2.2 == x.2.2) = some x := by
 induction es with
 | nil => cases hx
 | cons y es ih =>
  simp only [List.map_cons, List.nodup_cons] at hn
  rcases List.mem_cons.1 hx with rfl | hx
  ·simp
  ·have : (y.2.2 == x.2.2) = false := by
    simp only [beq_eq_false_iff_ne, ne_eq]
    intro e; exact hn.1 (by rw [e]; exact List.mem_map_of_mem hx)
   rw [List.find?_cons, this]; exact ih hn.2 hx
theorem HasBody.keys : HasBody Tryz.prog F_maps_Keys_F1 := ⟨_, Tryz.func136, by kernel_rfl, by kernel_rfl⟩
structure K0 (h0 : Hp) (n : Nat) (t : Nat → AV) (a b : ACode) (ib id j : Nat) (l : List Ent) (hh : Hp) : Prop where
 base : ∀ x, h0.u x = true → hh x = h0 x
 mono : ∀ x, h0.u x = true → hh.u x = true
 jj : hh j = some (loopB Tryz.prog n t [7] a b .ready none)
 dd : hh id = some .dfr
 new : h0.u ib = false ∧ h0.u id = false ∧ h0.u j = false
 ne : ib ≠ id ∧ ib ≠ j ∧ id ≠ j
 box : ∃ T sv, hh ib = some (.row T [[sv]]) ∧ ((l = [] ∧ sv = .nils) ∨ ∃ is, l ≠ [] ∧ sv = .slc is 0 l.length none ∧ hh is = some (rwI (l.map keyI)) ∧ h0.u is = false ∧ is ≠ ib ∧ is ≠ id ∧ is ≠ j)
def NotS (hh : Hp) (ib y : Nat) : Prop := ∀ T n, hh ib ≠ some (.row T [[.slc y 0 n none]])
theorem used {h : Hp} {i : Nat} {b : Blk} (hi : h i = some b) : h.u i = true := by
 cases hu : h.u i with
 | true => rfl
 | false => rw [h.ok i hu] at hi; cases hi
theorem ne_new {h : Hp} {x y : Nat} (hx : h.u x = true) (hy : h.u y = false) : x ≠ y := fun e => by subst e; rw [hx] at hy; cases hy
theorem NotS.of {H : Hp} {ib y T is n : Nat} (hb : H ib = some (.row T [[.slc is 0 n none]])) (hne : y ≠ is) : NotS H ib y := fun T' n' e => by
 rw [hb] at e; cases e; exact hne rfl
theorem K0.next {h0 : Hp} {n : Nat} {t : Nat → AV} {a b : ACode} {ib id j : Nat} {l : List Ent} {hh H : Hp} (k : K0 h0 n t a b ib id j l hh) {x : Ent} {is T : Nat} (hf : hh.u is = false)
  (hk : ∀ y, hh.u y = true → y ≠ ib → y ≠ j → NotS hh ib y → H y = hh y) (hu : ∀ y, hh.u y = true → H.u y = true)
  (hj : H j = some (loopB Tryz.prog n t [7] a b .ready none)) (hb : H ib = some (.row T [[.slc is 0 (l.length + 1) none]])) (hs : H is = some (rwI (l.map keyI ++ [keyI x]))) : K0 h0 n t a b ib id j (l ++ [x]) H := by
 have notS : ∀ y, (∀ z, h0.u z = false → z ≠ ib → z ≠ id → z ≠ j → y ≠ z) → NotS hh ib y := fun y hy T n e => by
  obtain ⟨T', sv, h1, h2⟩ := k.box
  rw [h1] at e; cases e
  rcases h2 with ⟨_, h2⟩ | ⟨is', _, h2, _, h3, h4, h5, h6⟩
  ·cases h2
  ·cases h2; exact hy _ h3 h4 h5 h6 rfl
 refine ⟨fun y hy => ?_, fun y hy => hu y (k.mono y hy), hj, ?_, k.new, k.ne, T, _, hb, .inr ⟨is, by simp, by simp, by rw [List.map_append]; exact hs, ?_, ?_, ?_, ?_⟩⟩
 ·rw [hk y (k.mono y hy) (ne_new hy k.new.1) (ne_new hy k.new.2.2) (notS y fun z hz _ _ _ => ne_new hy hz)]; exact k.base y hy
 ·rw [hk id (used k.dd) (Ne.symm k.ne.1) k.ne.2.2 (notS id fun z _ _ hz _ => Ne.symm hz)]; exact k.dd
 ·cases hz : h0.u is with
  | false => rfl
  | true => rw [k.mono is hz] at hf; cases hf
 ·obtain ⟨T', sv, h1, _⟩ := k.box
  exact Ne.symm (ne_new (used h1) hf)
 ·exact Ne.symm (ne_new (used k.dd) hf)
 ·exact Ne.symm (ne_new (used k.jj) hf)
abbrev bodyA : ACode := .block 1 (.ops A_slices_AppendSeq_1)
abbrev asgA : ACode := .ops [mv 5 7]
theorem round_L {h0 : Hp} {t : Nat → AV} {ib id j : Nat} {l : List Ent} {hh : Hp} (ht : t 2 = .ptr ib 0 0) (k : K0 h0 13 t asgA bodyA ib id j l hh) {x : Ent} (hx : x.1 = .int .i32 (keyI x)) (hl : l.length < 12) :
  RoundL Tryz.prog j [x.1] hh fun v H => v = .bool true ∧ K0 h0 13 t asgA bodyA ib id j (l ++ [x]) H ∧ (∀ y, hh.u y = true → y ≠ ib → y ≠ j → NotS hh ib y → H y = hh y) ∧ ∀ y, hh.u y = true → H.u y = true ∧ (y ≠ ib → NotS H ib y) := by
 obtain ⟨g, rfl⟩ : ∃ g, t = (puts ⟨13, g, []⟩ [(2, .ptr ib 0 0)]).t := ⟨t, by
  have := Has.puts_eq (e := ⟨13, t, []⟩) (l := [(2, .ptr ib 0 0)]) ⟨ht, trivial⟩
  rw [this]⟩
 rw [hx]
 have hjb : j ≠ ib := Ne.symm k.ne.2.1
 refine RoundL.of (md := false) k.jj rfl ?_
 refine ⟨_, _, _, _, _, k.jj, ?_⟩
 obtain ⟨T, sv, hb, hsv⟩ := k.box
 have hb1 : ∀ b', (hh.set j b').m ib = some (.row T [[sv]]) := fun b' => (Hp.set_ne (Ne.symm hjb)).trans hb
 have uj := used k.jj
 have ub := used hb
 rcases hsv with ⟨rfl, rfl⟩ | ⟨is0, hl0, rfl, his0, q1, q2, q3, q4⟩
 ·refine ⟨T, _, _, _, hb1 _, rfl, rfl, ?_⟩
  refine ⟨_, rfl, fun tb htb => ?_⟩
  refine ⟨_, ⟨21, _, Hp.set_same _ _ _, Nat.le_refl _, rfl⟩, ?_⟩
  refine ⟨fun cs hcs => by rw [List.mem_singleton.1 hcs]; rfl, Or.inr ⟨List.cons_ne_nil _ _, (show 1 * 4 ≤ capMax by decide), (show 1 ≤ capMax by decide), fun is his => ?_⟩⟩
  have htb1 : hh.u tb = false := by have := htb.1; rw [Hp.set_u] at this; split at this <;> first | cases this | exact this
  have his1 : hh.u is = false ∧ is ≠ tb := by
   have := his.1; rw [Hp.set_u] at this; split at this
   ·cases this
   ·rename_i e; rw [Hp.set_u] at this; split at this <;> first | cases this | exact ⟨this, e⟩
  have n1 := ne_new ub htb1
  have n2 := ne_new ub his1.1
  have n3 := ne_new uj htb1
  have n4 := ne_new uj his1.1
  refine ⟨T, [[.nils]], [.nils], ?_, rfl, rfl, rfl, rfl, Nat.le_refl _, ?_⟩
  ·exact (Hp.set_ne n2).trans ((Hp.set_ne n1).trans (hb1 _))
  have hjj : ∀ b', (((((hh.set j (.loop 13 (puts ⟨13, g, []⟩ [(2, .ptr ib 0 0)]).t [7] (LoopCodes Tryz.prog 13 [7] asgA bodyA) .busy none)).set tb (.row 21 [[.int .i32 (keyI x)]])).set is (.row 21 [[.int .i32 (keyI x)]])).set ib b')).m j = some (.loop 13 (puts ⟨13, g, []⟩ [(2, .ptr ib 0 0)]).t [7] (LoopCodes Tryz.prog 13 [7] asgA bodyA) .busy none) := fun b' =>
   (Hp.set_ne hjb).trans ((Hp.set_ne n4).trans ((Hp.set_ne n3).trans (Hp.set_same _ _ _)))
  refine ⟨_, _, _, _, _, _, hjj _, trivial, Or.inl ⟨rfl, ?_, ?_, ?_⟩⟩
  ·refine k.next (is := is) (T := T) his1.1 (fun y hy h1 h2 _ => ?_) (fun y hy => ?_) (Hp.set_same _ _ _) ?_ ?_
   ·exact (Hp.set_ne h2).trans ((Hp.set_ne h1).trans ((Hp.set_ne (ne_new hy his1.1)).trans ((Hp.set_ne (ne_new hy htb1)).trans (Hp.set_ne h2))))
   ·simp only [Hp.set_u, hy]; simp
   ·exact (Hp.set_ne (Ne.symm hjb)).trans (Hp.set_same _ _ _)
   ·exact (Hp.set_ne (Ne.symm n4)).trans ((Hp.set_ne (Ne.symm n2)).trans (Hp.set_same _ _ _))
  ·intro y hy h1 h2 _
   exact (Hp.set_ne h2).trans ((Hp.set_ne h1).trans ((Hp.set_ne (ne_new hy his1.1)).trans ((Hp.set_ne (ne_new hy htb1)).trans (Hp.set_ne h2))))
  ·intro y hy
   refine ⟨by simp only [Hp.set_u, hy]; simp, fun _ => NotS.of (T := T) (n := 1) ((Hp.set_ne (Ne.symm hjb)).trans (Hp.set_same _ _ _)) (ne_new hy his1.1)⟩
 ·have n5 : is0 ≠ ib := q2
  have us0 := used his0
  have his1 : ∀ b', (hh.set j b').m is0 = some (rwI (l.map keyI)) := fun b' => (Hp.set_ne q4).trans his0
  have hlen : ((l.map keyI).map el).length = l.length := by simp
  refine ⟨T, _, _, _, hb1 _, rfl, rfl, ?_⟩
  refine ⟨_, rfl, fun tb htb => ?_⟩
  have htb1 : hh.u tb = false := by have := htb.1; rw [Hp.set_u] at this; split at this <;> first | cases this | exact this
  have n1 := ne_new ub htb1
  have n3 := ne_new uj htb1
  have n6 := ne_new us0 htb1
  refine ⟨_, ⟨21, _, Hp.set_same _ _ _, Nat.le_refl _, rfl⟩, ?_⟩
  refine ⟨fun cs hcs => by rw [List.mem_singleton.1 hcs]; rfl, _, (Hp.set_ne n6).trans (his1 _), by rw [hlen]; omega, fun cs hcs => by rw [List.mem_singleton.1 hcs]; rfl, Or.inr ⟨List.cons_ne_nil _ _, ?_, ?_, fun is his => ?_⟩⟩
  ·show (l.length + 1) * 4 ≤ 140737488355328
   omega
  ·show l.length + 1 ≤ 140737488355328
   omega
  have his2 : hh.u is = false ∧ is ≠ tb := by
   have := his.1; rw [Hp.set_u] at this; split at this
   ·cases this
   ·rename_i e; rw [Hp.set_u] at this; split at this <;> first | cases this | exact ⟨this, e⟩
  have n2 := ne_new ub his2.1
  have n4 := ne_new uj his2.1
  refine ⟨T, [[.slc is0 0 l.length none]], [.slc is0 0 l.length none], ?_, rfl, rfl, rfl, rfl, Nat.le_refl _, ?_⟩
  ·exact (Hp.set_ne n2).trans ((Hp.del_ne (Ne.symm n5)).trans ((Hp.set_ne n1).trans (hb1 _)))
  refine ⟨_, _, _, _, _, _, (Hp.set_ne hjb).trans ((Hp.set_ne n4).trans ((Hp.del_ne (Ne.symm q4)).trans ((Hp.set_ne n3).trans (Hp.set_same _ _ _)))), trivial, Or.inl ⟨rfl, ?_, ?_, ?_⟩⟩
  ·refine k.next (is := is) (T := T) his2.1 (fun y hy h1 h2 h3 => ?_) (fun y hy => ?_) (Hp.set_same _ _ _) ?_ ?_
   ·have h4 : y ≠ is0 := fun e => h3 T l.length (by rw [e]; exact hb)
    exact (Hp.set_ne h2).trans ((Hp.set_ne h1).trans ((Hp.set_ne (ne_new hy his2.1)).trans ((Hp.del_ne h4).trans ((Hp.set_ne (ne_new hy htb1)).trans (Hp.set_ne h2)))))
   ·simp only [Hp.set_u, Hp.del_u, hy]; simp
   ·exact (Hp.set_ne (Ne.symm hjb)).trans (Hp.set_same _ _ _)
   ·refine (Hp.set_ne (Ne.symm n4)).trans ((Hp.set_ne (Ne.symm n2)).trans ((Hp.set_same _ _ _).trans ?_))
    have e1 : (((l.map keyI).map el).drop 0).take l.length = (l.map keyI).map el := by rw [List.drop_zero, ← hlen]; exact List.take_length
    show some (Blk.row 21 ((((l.map keyI).map el).drop 0).take l.length ++ [el (keyI x)])) = _
    rw [e1]
    show _ = some (Blk.row 21 ((l.map keyI ++ [keyI x]).map el))
    rw [List.map_append]; rfl
  ·intro y hy h1 h2 h3
   have h4 : y ≠ is0 := fun e => h3 T l.length (by rw [e]; exact hb)
   exact (Hp.set_ne h2).trans ((Hp.set_ne h1).trans ((Hp.set_ne (ne_new hy his2.1)).trans ((Hp.del_ne h4).trans ((Hp.set_ne (ne_new hy htb1)).trans (Hp.set_ne h2)))))
  ·intro y hy
   refine ⟨by simp only [Hp.set_u, Hp.del_u, hy]; simp, fun _ => NotS.of (T := T) (n := l.length + 1) ((Hp.set_ne (Ne.symm hjb)).trans (Hp.set_same _ _ _)) (ne_new hy his2.1)⟩
structure KI (h0 : Hp) (t : Nat → AV) (ib id j it m clk : Nat) (l : List Ent) (hh : Hp) : Prop where
 k : K0 h0 13 t asgA bodyA ib id j l hh
 itr : hh it = some (.mapIter (some m) clk (l.map fun x => x.2.2) clk)
 new : h0.u it = false
 ne : it ≠ ib ∧ it ≠ id ∧ it ≠ j
 ns : NotS hh ib it
theorem keys_L {h0 : Hp} {t : Nat → AV} {ib id j c m clk Tc : Nat} {es : MapL} {hh : Hp} (ht : t 2 = .ptr ib 0 0) (k : K0 h0 13 t asgA bodyA ib id j [] hh) (hc : h0 c = some (.row Tc [[.map m]])) (hm : h0 m = some (.map es clk)) (hg : GoodM es clk) (hlen : es.length ≤ 12) (hes : es ≠ []) :
  CallL Tryz.prog F_maps_Keys_F1 [.yld j, .ptr c 0 0] hh fun r H => (∃ v, r = .ret v) ∧ ∃ l : List Ent, l.Perm es ∧ K0 h0 13 t asgA bodyA ib id j l H := by
 have uc := used hc
 have um := used hm
 refine K_maps_Keys_F1 (md := false) ?_
 refine ⟨Tc, _, _, _, (k.base c uc).trans hc, rfl, rfl, ?_⟩
 refine ⟨es, clk, (k.base m um).trans hm, fun it hit => ?_⟩
 have dj := ne_new (used k.jj) hit.1
 have di := ne_new (used k.dd) hit.1
 obtain ⟨Tb, svb, hb0, _⟩ := k.box
 have db := ne_new (used hb0) hit.1
 refine ⟨fun n' e H => ∃ (l rest : List Ent), n' = rest.length ∧ (l ++ rest).Perm es ∧ KI h0 t ib id j it m clk l H ∧ e.ds = [] ∧ Has e [(0, .yld j), (1, .ptr c 0 0), (5, .ptr it 0 0)],
  ⟨_, [], es, rfl, .refl _, ⟨?_, Hp.set_same _ _ _, ?_, ⟨Ne.symm db, Ne.symm di, Ne.symm dj⟩, ?_⟩, rfl, rfl, rfl, rfl, trivial⟩, ?_⟩
 ·refine ⟨fun x hx => ?_, fun x hx => ?_, (Hp.set_ne dj).trans k.jj, (Hp.set_ne di).trans k.dd, k.new, k.ne, ?_⟩
  ·exact (Hp.set_ne (ne_new (k.mono x hx) hit.1)).trans (k.base x hx)
  ·rw [Hp.set_u, k.mono x hx]; simp
  ·obtain ⟨T, sv, h1, h2⟩ := k.box
   refine ⟨T, sv, (Hp.set_ne db).trans h1, ?_⟩
   rcases h2 with h2 | ⟨is, h2, _⟩
   ·exact .inl h2
   ·exact absurd rfl h2
 ·cases hz : h0.u it with
  | false => rfl
  | true => have := k.mono it hz; rw [hit.1] at this; cases this
 ·intro T n e
  rw [Hp.set_ne db] at e
  obtain ⟨T', sv, h1, h2⟩ := k.box
  rw [h1] at e; cases e
  rcases h2 with ⟨_, h2⟩ | ⟨is, h2, _⟩
  ·cases h2
  ·exact absurd rfl h2
 clear k hb0
 rintro n' e H ⟨l, rest, rfl, hp, k, hd, hh'⟩
 obtain ⟨n0, g, rfl⟩ := hh'.out hd
 clear hh' hd
 have hm' := (k.k.base m um).trans hm
 refine ⟨some m, clk, _, clk, k.itr, es, clk, hm', ?_, fun hall => .inl ?_, fun kk v b hin hns => ?_⟩
 ·obtain ⟨x, es', rfl⟩ : ∃ x es', es = x :: es' := by cases es with
   | nil => exact absurd rfl hes
   | cons x es' => exact ⟨x, es', rfl⟩
  exact .inr (.inr ⟨x, List.mem_cons_self, hg.old x List.mem_cons_self⟩)
 ·
  have hrest : rest = [] := by
   cases rest with
   | nil => rfl
   | cons x rest =>
    have hx : x ∈ es := hp.mem_iff.1 (by simp)
    have h1 := hg.old x hx
    have h2 := hall x hx
    have hn : ((l ++ x :: rest).map fun x => x.2.2).Nodup := (hp.map _).nodup_iff.2 hg.nodup
    rw [List.map_append, List.nodup_append] at hn
    have h3 : x.2.2 ∉ l.map fun x => x.2.2 := fun hx' => hn.2.2 _ hx' _ (by simp) rfl
    have := h2 h3
    omega
  subst hrest
  rw [List.append_nil] at hp
  exact ⟨_, rfl, rfl, ⟨_, rfl⟩, l, hp, k.k⟩
 ·have hx : ((kk, v, b) : Ent) ∈ l ++ rest := hp.mem_iff.2 hin
  have hr : ((kk, v, b) : Ent) ∈ rest := by
   rcases List.mem_append.1 hx with h | h
   ·exact absurd (List.mem_map_of_mem (f := fun x : Ent => x.2.2) h) hns
   ·exact h
  obtain ⟨r1, r2, rfl⟩ := List.append_of_mem hr
  have hkk := hg.key _ hin
  obtain ⟨z, hz⟩ : ∃ z, z = keyI (kk, v, b) := ⟨_, rfl⟩
  rw [← hz] at hkk
  have hkk : kk = .int .i32 z := hkk
  subst hkk
  have dm : m ≠ it := ne_new um k.new
  have djt := k.ne.2.2
  refine ⟨_, rfl, m, clk, _, clk, es, clk, .int .i32 z, v, b, Hp.set_same _ _ _, (Hp.set_ne dm).trans hm', rfl, by simp, find_of hg.nodup hin, _, rfl, ?_⟩
  have hlen2 : l.length < 12 := by
   have := hp.length_eq; simp at this; omega
  have k1 : K0 h0 13 t asgA bodyA ib id j l (H.set it (.mapIter (some m) clk (l.map (fun x => x.2.2) ++ [b]) clk)) := by
   have kk := k.k
   refine ⟨fun x hx => (Hp.set_ne (ne_new hx k.new)).trans (kk.base x hx), fun x hx => by rw [Hp.set_u, kk.mono x hx]; simp, (Hp.set_ne (Ne.symm k.ne.2.2)).trans kk.jj, (Hp.set_ne (Ne.symm k.ne.2.1)).trans kk.dd, kk.new, kk.ne, ?_⟩
   obtain ⟨T, sv, h1, h2⟩ := kk.box
   refine ⟨T, sv, (Hp.set_ne (Ne.symm k.ne.1)).trans h1, ?_⟩
   rcases h2 with h2 | ⟨is, q0, q1, q2, q3⟩
   ·exact .inl h2
   ·subst q1
    exact .inr ⟨is, q0, rfl, (Hp.set_ne (fun e => k.ns T _ (by rw [← e]; exact h1))).trans q2, q3⟩
  refine (round_L ht k1 (x := (.int .i32 z, v, b)) rfl hlen2).mono ?_
  rintro v2 H2 ⟨rfl, k2, k3, k4⟩
  have ui : (H.set it (.mapIter (some m) clk (l.map (fun x => x.2.2) ++ [b]) clk)).u it = true := by rw [Hp.set_u]; simp
  refine ⟨r1.length + r2.length, by simp, l ++ [(.int .i32 z, v, b)], r1 ++ r2, by simp, ?_, ⟨k2, ?_, k.new, k.ne, (k4 it ui).2 k.ne.1⟩, rfl, rfl, rfl, rfl, trivial⟩
  ·refine List.Perm.trans ?_ hp
   rw [List.append_assoc]
   exact List.Perm.append_left l (by simpa using (List.perm_middle (a := ((.int .i32 z, v, b) : Ent)) (l₁ := r1) (l₂ := r2)).symm)
  ·rw [k3 it ui k.ne.1 k.ne.2.2 (fun T n e => k.ns T n (by rw [← e, Hp.set_ne (Ne.symm k.ne.1)])), Hp.set_same, List.map_append]; rfl
structure Got (h0 : Hp) (is : Nat) (zs : List Int) (H : Hp) : Prop where
 row : H is = some (rwI zs)
 new : h0.u is = false
 base : ∀ x, h0.u x = true → H x = h0 x
 mono : ∀ x, h0.u x = true → H.u x = true
theorem AppendSeq_L {h0 : Hp} {c m clk Tc : Nat} {es : MapL} (hc : h0 c = some (.row Tc [[.map m]])) (hm : h0 m = some (.map es clk)) (hg : GoodM es clk) (hlen : es.length ≤ 12) (hes : es ≠ []) :
  CallL Tryz.prog F_slices_AppendSeq [.nils, .func (.func F_maps_Keys_F1) [] [.ptr c 0 0]] h0 fun r H => ∃ is zs, r = .ret (.slc is 0 es.length none) ∧ zs.Perm (es.map keyI) ∧ Got h0 is zs H := by
 refine CallL.ofD (md := false) Tryz.func192 C_slices_AppendSeq (by rw [Tryz.ntmps192]; exact (show 2 ≤ 13 by decide)) (by
  rw [Tryz.ntmps192]
  refine ⟨rfl, rfl, fun ib hib => ?_⟩
  refine ⟨HasBody.keys, fun id hid j hj => ?_⟩
  have hid1 : h0.u id = false ∧ id ≠ ib := by
   have := hid.1; rw [Hp.set_u] at this; split at this
   ·cases this
   ·rename_i e; exact ⟨this, e⟩
  have hj1 : h0.u j = false ∧ j ≠ ib ∧ j ≠ id := by
   have := hj.1; rw [Hp.set_u] at this; split at this
   ·cases this
   ·rename_i e; rw [Hp.set_u] at this; split at this
    ·cases this
    ·rename_i e2; exact ⟨this, e2, e⟩
  refine (keys_L (h0 := h0) (ib := ib) (id := id) (j := j) (m := m) (clk := clk) (Tc := Tc) (t := ((((env0 13 [.nils, .func (.func F_maps_Keys_F1) [] [.ptr c 0 0]]).put (some 2) (.ptr ib 0 0)).put (some 4) .nils).put (some 6) (.func (.func F_maps_Keys_F1) [] [.ptr c 0 0])).t) rfl ?_ hc hm hg hlen hes).mono ?_
  ·refine ⟨fun x hx => ?_, fun x hx => ?_, Hp.set_same _ _ _, (Hp.set_ne (Ne.symm hj1.2.2)).trans (Hp.set_same _ _ _), ⟨hib.1, hid1.1, hj1.1⟩, ⟨Ne.symm hid1.2, Ne.symm hj1.2.1, Ne.symm hj1.2.2⟩, 210, .nils, ?_, .inl ⟨rfl, rfl⟩⟩
   ·exact (Hp.set_ne (ne_new hx hj1.1)).trans ((Hp.set_ne (ne_new hx hid1.1)).trans (Hp.set_ne (ne_new hx hib.1)))
   ·simp only [Hp.set_u, hx]; simp
   ·exact (Hp.set_ne (Ne.symm hj1.2.1)).trans ((Hp.set_ne (Ne.symm hid1.2)).trans (Hp.set_same _ _ _))
  ·rintro r H ⟨⟨v, rfl⟩, l, hl, k⟩
   refine ⟨none, _, _, _, _, _, _, k.jj, ⟨by simp, rfl⟩, .inl ?_⟩
   obtain ⟨T, sv, h1, h2⟩ := k.box
   rcases h2 with ⟨rfl, _⟩ | ⟨is, q0, rfl, q2, q3, q4, q5, q6⟩
   ·have := hl.length_eq
    cases es with
    | nil => exact absurd rfl hes
    | cons x es => simp at this
   have hbj : ib ≠ j := Ne.symm hj1.2.1
   refine ⟨T, _, _, _, (Hp.set_ne hbj).trans h1, rfl, rfl, ?_⟩
   refine ⟨(Hp.set_ne (Ne.symm hj1.2.2)).trans k.dd, ?_⟩
   refine ⟨is, l.map keyI, by rw [← hl.length_eq]; rfl, hl.map _, ?_⟩
   refine ⟨(Hp.del_ne q5).trans ((Hp.set_ne q6).trans q2), q3, fun x hx => ?_, fun x hx => ?_⟩
   ·exact (Hp.del_ne (ne_new hx hid1.1)).trans ((Hp.set_ne (ne_new hx hj1.1)).trans (k.base x hx))
   ·rw [Hp.del_u, Hp.set_u, k.mono x hx]; simp)
theorem Collect_L {h0 : Hp} {c m clk Tc : Nat} {es : MapL} (hc : h0 c = some (.row Tc [[.map m]])) (hm : h0 m = some (.map es clk)) (hg : GoodM es clk) (hlen : es.length ≤ 12) (hes : es ≠ []) :
  CallL Tryz.prog F_slices_Collect [.func (.func F_maps_Keys_F1) [] [.ptr c 0 0]] h0 fun r H => ∃ is zs, r = .ret (.slc is 0 es.length none) ∧ zs.Perm (es.map keyI) ∧ Got h0 is zs H := by
 refine K_slices_Collect (md := false) ?_
 refine (AppendSeq_L hc hm hg hlen hes).mono ?_
 rintro r H ⟨is, zs, rfl, hz, hH⟩
 exact ⟨rfl, is, zs, rfl, hz, hH⟩
theorem Sorted_L {h0 : Hp} {c m clk Tc : Nat} {es : MapL} (hc : h0 c = some (.row Tc [[.map m]])) (hm : h0 m = some (.map es clk)) (hg : GoodM es clk) (hlen : es.length ≤ 12) (hes : es ≠ []) :
  CallL Tryz.prog F_slices_Sorted [.func (.func F_maps_Keys_F1) [] [.ptr c 0 0]] h0 fun r H => ∃ is ys, r = .ret (.slc is 0 es.length none) ∧ ys.Perm (es.map keyI) ∧ SortedTo es.length ys ∧ Got h0 is ys H := by
 refine K_slices_Sorted (md := false) ?_
 refine (Collect_L hc hm hg hlen hes).mono ?_
 rintro r H ⟨is, zs, rfl, hz, hH⟩
 have hl : zs.length = es.length := by rw [hz.length_eq, List.length_map]
 rw [← hl]
 refine (Sort_L H is none zs (fun e => hes (by rw [e] at hl; exact List.length_eq_zero_iff.1 hl.symm)) (by omega) hH.row).mono ?_
 rintro r H2 ⟨rfl, ys, h1, h2, rfl⟩
 refine ⟨rfl, is, ys, rfl, h1.trans hz, h2, Hp.set_same _ _ _, hH.new, fun x hx => (Hp.set_ne (ne_new hx hH.new)).trans (hH.base x hx), fun x hx => by rw [Hp.set_u, hH.mono x hx]; simp⟩
end Go.Proofs.YtgjjbfhamlecoacGreatDoor

namespace Go.Proofs.YtgjjbfhamlecoacGreatDoor
open Go.L
abbrev F_IndexFunc_way : Nat := 76
def A_IndexFunc_way_0 : LA := [mv 6 0, We 7 6, Wm 8 0]
def A_IndexFunc_way_1 : LA := [mv 10 8, mv 5 10]
def A_IndexFunc_way_2 : LA := [mv 11 1, mv 12 0, mv 13 5, Wa 14 180 2 12 13, Wd 15 2 14, o_ 16 (.callv (.t 11) [(.t 15)])]
def A_IndexFunc_way_3 : LA := [mv 17 5, mv 4 17]
def A_IndexFunc_way_4 : LA := [Wi 18 .add 8 1, mv 8 18]
def A_IndexFunc_way_5 : ACode := (.seq (.ops [Wb 9 .lss 8 7]) (.seq (.cond (.t 9) .skip (.exit 0)) (.seq (.block 1 (.seq (.ops A_IndexFunc_way_1) (.seq (.ops A_IndexFunc_way_2) (.cond (.t 16) (.seq (.ops A_IndexFunc_way_3) .ret) .skip)))) (.ops A_IndexFunc_way_4))))
def A_IndexFunc_way : ACode := (.seq (.ops [Wm 4 0]) (.seq (.seq (.ops A_IndexFunc_way_0) (.block 0 (.loop A_IndexFunc_way_5))) (.seq (.ops [Wm 4 (-1)]) .ret)))
def R_IndexFunc_way : List ARes := [.tmp 4]
theorem C_IndexFunc_way : compF Tryz.prog Tryz.f76 = some (A_IndexFunc_way, R_IndexFunc_way) := by kernel_rfl
theorem K_IndexFunc_way {md : Bool} {args : List AV} {h : Hp} {Q : Res → Hp → Prop} (hl : LCode Tryz.prog md A_IndexFunc_way (EndQ R_IndexFunc_way Q) (env0 19 args) h) (hn : args.length ≤ 19 := by (simp; done)) : CallL Tryz.prog F_IndexFunc_way args h Q :=
 CallL.of (md := md) Tryz.func76 C_IndexFunc_way (by rw [Tryz.ntmps76]; exact hn) (by rw [Tryz.ntmps76]; exact hl)
abbrev F_records_c1 : Nat := 77
def A_records_c1_0 : LA := [o_ 3 (.box 180 2 (.t 0)), Wo 4 false]
def A_records_c1_1 : LA := [Wf 5 0 3, Wl 6 5, Wd 7 9 1, Wl 8 2, o_ 9 (.callv (.t 6) [(.t 7), (.t 8)]), mv 4 9]
def A_records_c1 : ACode := (.seq (.ops A_records_c1_0) (.seq (.ops A_records_c1_1) .ret))
def R_records_c1 : List ARes := [.tmp 4]
theorem C_records_c1 : compF Tryz.prog Tryz.f77 = some (A_records_c1, R_records_c1) := by kernel_rfl
theorem K_records_c1 {md : Bool} {args : List AV} {h : Hp} {Q : Res → Hp → Prop} (hl : LCode Tryz.prog md A_records_c1 (EndQ R_records_c1 Q) (env0 10 args) h) (hn : args.length ≤ 10 := by (simp; done)) : CallL Tryz.prog F_records_c1 args h Q :=
 CallL.of (md := md) Tryz.func77 C_records_c1 (by rw [Tryz.ntmps77]; exact hn) (by rw [Tryz.ntmps77]; exact hl)
abbrev F_ways_c1 : Nat := 62
def A_ways_c1_0 : LA := [o_ 2 (.box 174 9 (.t 0)), Wo 4 false]
def A_ways_c1_1 : LA := [Wf 5 3 2, Wl 6 5, o_ 7 (.bini .eql (.t 6) (.c (.int .u8 4))), mv 8 7, Wgm 9 1 8, g_ 10 (.bini .eql (.t 9) (.c (.int .u8 2))) 8, Wp 11 8 10, mv 4 11]
def A_ways_c1 : ACode := (.seq (.ops A_ways_c1_0) (.seq (.ops A_ways_c1_1) .ret))
def R_ways_c1 : List ARes := [.tmp 4]
theorem C_ways_c1 : compF Tryz.prog Tryz.f62 = some (A_ways_c1, R_ways_c1) := by kernel_rfl
theorem K_ways_c1 {md : Bool} {args : List AV} {h : Hp} {Q : Res → Hp → Prop} (hl : LCode Tryz.prog md A_ways_c1 (EndQ R_ways_c1 Q) (env0 12 args) h) (hn : args.length ≤ 12 := by (simp; done)) : CallL Tryz.prog F_ways_c1 args h Q :=
 CallL.of (md := md) Tryz.func62 C_ways_c1 (by rw [Tryz.ntmps62]; exact hn) (by rw [Tryz.ntmps62]; exact hl)
abbrev F_ways_c2 : Nat := 64
def A_ways_c2_0 : LA := [o_ 2 (.box 174 9 (.t 0)), Wo 4 false]
def A_ways_c2_1 : LA := [Wf 5 3 2, Wl 6 5, o_ 7 (.bini .neq (.t 6) (.c (.int .u8 4))), mv 8 7, Wgm 9 1 8, Wgf 10 4 2 8, Wgl 11 10 8, g_ 12 (.call 65 [(.t 11)]) 8, g_ 13 (.bini .eql (.t 9) (.t 12)) 8, Wp 14 8 13, mv 4 14]
def A_ways_c2 : ACode := (.seq (.ops A_ways_c2_0) (.seq (.ops A_ways_c2_1) .ret))
def R_ways_c2 : List ARes := [.tmp 4]
theorem C_ways_c2 : compF Tryz.prog Tryz.f64 = some (A_ways_c2, R_ways_c2) := by kernel_rfl
theorem K_ways_c2 {md : Bool} {args : List AV} {h : Hp} {Q : Res → Hp → Prop} (hl : LCode Tryz.prog md A_ways_c2 (EndQ R_ways_c2 Q) (env0 15 args) h) (hn : args.length ≤ 15 := by (simp; done)) : CallL Tryz.prog F_ways_c2 args h Q :=
 CallL.of (md := md) Tryz.func64 C_ways_c2 (by rw [Tryz.ntmps64]; exact hn) (by rw [Tryz.ntmps64]; exact hl)
abbrev F_ways_c3 : Nat := 67
def A_ways_c3_0 : LA := [o_ 2 (.box 174 9 (.t 0)), Wo 4 false]
def A_ways_c3_1 : LA := [Wf 5 3 2, Wl 6 5, o_ 7 (.bini .eql (.t 6) (.c (.int .u8 3))), mv 8 7, Wgm 9 1 8, g_ 10 (.bini .eql (.t 9) (.c (.int .u8 2))) 8, Wp 11 8 10, mv 4 11]
def A_ways_c3 : ACode := (.seq (.ops A_ways_c3_0) (.seq (.ops A_ways_c3_1) .ret))
def R_ways_c3 : List ARes := [.tmp 4]
theorem C_ways_c3 : compF Tryz.prog Tryz.f67 = some (A_ways_c3, R_ways_c3) := by kernel_rfl
theorem K_ways_c3 {md : Bool} {args : List AV} {h : Hp} {Q : Res → Hp → Prop} (hl : LCode Tryz.prog md A_ways_c3 (EndQ R_ways_c3 Q) (env0 12 args) h) (hn : args.length ≤ 12 := by (simp; done)) : CallL Tryz.prog F_ways_c3 args h Q :=
 CallL.of (md := md) Tryz.func67 C_ways_c3 (by rw [Tryz.ntmps67]; exact hn) (by rw [Tryz.ntmps67]; exact hl)
abbrev F_decode_own : Nat := 65
def A_decode_own_0 : LA := [o_ 5 (.bini .eql (.t 3) (.c (.int .u8 1))), mv 4 5]
def A_decode_own_1 : LA := [o_ 6 (.bini .eql (.t 3) (.c (.int .u8 6))), mv 4 6]
def A_decode_own_2 : LA := [o_ 7 (.bini .eql (.t 3) (.c (.int .u8 16))), mv 4 7]
def A_decode_own_3 : LA := [o_ 9 (.bini .eql (.t 3) (.c (.int .u8 2))), mv 8 9]
def A_decode_own_4 : LA := [o_ 10 (.bini .eql (.t 3) (.c (.int .u8 7))), mv 8 10]
def A_decode_own_5 : LA := [o_ 11 (.bini .eql (.t 3) (.c (.int .u8 15))), mv 8 11]
def A_decode_own_6 : LA := [o_ 13 (.bini .eql (.t 3) (.c (.int .u8 9))), mv 12 13]
def A_decode_own_7 : LA := [o_ 14 (.bini .eql (.t 3) (.c (.int .u8 12))), mv 12 14]
def A_decode_own_8 : LA := [o_ 15 (.bini .eql (.t 3) (.c (.int .u8 11))), mv 12 15]
def A_decode_own : ACode := (.seq (.ops [o_ 2 (.mov (.c (.int .u8 0)))]) (.seq (.seq (.ops [mv 3 0]) (.block 0 (.seq (.seq (.ops A_decode_own_0) (.cond (.t 4) .skip (.seq (.ops A_decode_own_1) (.cond (.t 4) .skip (.ops A_decode_own_2))))) (.cond (.t 4) (.seq (.ops [o_ 2 (.mov (.c (.int .u8 1)))]) .ret) (.seq (.seq (.ops A_decode_own_3) (.cond (.t 8) .skip (.seq (.ops A_decode_own_4) (.cond (.t 8) .skip (.ops A_decode_own_5))))) (.cond (.t 8) (.seq (.ops [o_ 2 (.mov (.c (.int .u8 5)))]) .ret) (.seq (.seq (.ops A_decode_own_6) (.cond (.t 12) .skip (.seq (.ops A_decode_own_7) (.cond (.t 12) .skip (.ops A_decode_own_8))))) (.cond (.t 12) (.seq (.ops [o_ 2 (.mov (.c (.int .u8 2)))]) .ret) .skip)))))))) (.seq (.ops [o_ 2 (.mov (.c (.int .u8 0)))]) .ret)))
def R_decode_own : List ARes := [.tmp 2]
theorem C_decode_own : compF Tryz.prog Tryz.f65 = some (A_decode_own, R_decode_own) := by kernel_rfl
theorem K_decode_own {md : Bool} {args : List AV} {h : Hp} {Q : Res → Hp → Prop} (hl : LCode Tryz.prog md A_decode_own (EndQ R_decode_own Q) (env0 16 args) h) (hn : args.length ≤ 16 := by (simp; done)) : CallL Tryz.prog F_decode_own args h Q :=
 CallL.of (md := md) Tryz.func65 C_decode_own (by rw [Tryz.ntmps65]; exact hn) (by rw [Tryz.ntmps65]; exact hl)
abbrev F_decode_decoder_one : Nat := 66
def A_decode_decoder_one_0 : LA := [Wf 15 4 8, Wl 16 15, o_ 17 (.bini .eql (.t 16) (.c (.int .u8 11)))]
def A_decode_decoder_one_1 : LA := [mv 18 0, Wf 19 8 8, Wl 20 19, mv 21 4, mv 22 5, o_ 23 (.call 123 [(.t 18), (.t 20), (.t 21), (.t 22)]), Wf 24 3 12, Ws 1 24 23]
def A_decode_decoder_one_2 : LA := [mv 25 1, Wc 26 25, Wf 27 1 26, Wl 28 27, Wf 29 0 8, Wl 30 29, o_ 31 (.mlook .i (.nilp) false (.t 28) (.t 30)), mv 13 31]
def A_decode_decoder_one_3 : LA := [mv 32 13, o_ 33 (.isnil .pt true (.t 32)), mv 34 33, Wgf 35 3 8 34, Wgl 36 35 34, g_ 37 (.bini .neq (.t 36) (.c (.int .u8 3))) 34, Wp 38 34 37]
def A_decode_decoder_one_4 : LA := [mv 39 13, Wc 40 39, Wf 41 10 40, Wl 42 41, o_ 43 (.iaddr 199 4 (.t 42) (i_ 0)), Wf 44 3 43, Wl 45 44, Wf 46 3 12, Ws 1 46 45]
def A_decode_decoder_one_5 : LA := [mv 47 0, Wf 48 3 12, Wl 49 48, mv 50 3, mv 52 4, Wi 53 .add 52 1, o_ 51 (.acall 124 [(.t 50)]), o_ 54 (.acall 36 [(.t 47), (.t 49), (.t 51), (.t 53)])]
def A_decode_decoder_one_6 : LA := [mv 47 0, Wf 48 3 12, Wl 49 48, mv 50 3, o_ 51 (.pcall 124 [(.t 50)]), mv 52 4, Wi 53 .add 52 1, o_ 54 (.pcall 36 [(.t 47), (.t 49), (.t 51), (.t 53)])]
def A_decode_decoder_one_7 : LA := [mv 47 0, Wf 48 3 12, mv 50 3, mv 52 4, Wi 53 .add 52 1, Wl 49 48, o_ 51 (.call 124 [(.t 50)]), o_ 54 (.call 36 [(.t 47), (.t 49), (.t 51), (.t 53)])]
def A_decode_decoder_one_8 : LA := [mv 47 0, Wf 48 3 12, mv 50 3, mv 52 4, Wi 53 .add 52 1, o_ 51 (.call 124 [(.t 50)]), Wl 49 48, o_ 54 (.call 36 [(.t 47), (.t 49), (.t 51), (.t 53)])]
def A_decode_decoder_one_9 : LA := [Wf 55 4 8, Wl 56 55, mv 57 3, o_ 58 (.call 125 [(.t 56), (.t 57)]), Wf 59 0 12, Ws 3 59 58]
def A_decode_decoder_one_10 : LA := [Wf 60 7 8, Wl 61 60, Wi 62 .neq 61 0]
def A_decode_decoder_one_11 : LA := [mv 63 1, Wc 64 63, Wf 65 1 64, Wl 66 65, o_ 67 (.mkfn 127 [] [(.t 8)]), o_ 68 (.call 126 [(.t 66), (.t 67)])]
def A_decode_decoder_one_12 : LA := [mv 69 1, Wd 70 9 8, o_ 71 (.call 72 [(.t 69), (.t 70)]), mv 14 71]
def A_decode_decoder_one_13 : LA := [Wf 72 3 8, Wl 73 72, o_ 74 (.bini .neq (.t 73) (.c (.int .u8 3)))]
def A_decode_decoder_one_14 : LA := [mv 75 14, Wc 76 75, Wf 77 10 76, n_ (.st 1 (.t 77) (.c (.nils)))]
def A_decode_decoder_one_15 : LA := [mv 78 14, mv 79 14, Wc 80 79, Wf 81 10 80, Wl 82 81, Wd 83 4 12, o_ 84 (.bslice 199 4 1 [.int .u64 (0), .str [], .nils, .nilp] [(0, 4, (.t 83))]), o_ 85 (.app 199 4 56 (.t 82) (.t 84)), Wc 86 78, Wf 87 10 86, Ws 1 87 85]
def A_decode_decoder_one : ACode := (.seq (.ops [o_ 8 (.box 174 9 (.t 2))]) (.seq (.ops [o_ 12 (.box 199 4 (.c (.agg [.int .u64 (0), .str [], .nils, .nilp])))]) (.seq (.seq (.ops A_decode_decoder_one_0) (.cond (.t 17) (.seq (.ops A_decode_decoder_one_1) (.seq (.seq (.alts [25, 26, 27, 28, 29, 30, 31, 13] [A_decode_decoder_one_2]) (.seq (.ops A_decode_decoder_one_3) (.cond (.t 38) (.ops A_decode_decoder_one_4) .skip))) (.orr (.alts [47, 48, 49, 50, 51, 52, 53, 54] [A_decode_decoder_one_5]) (.orr (.alts [47, 48, 49, 50, 51, 52, 53, 54] [A_decode_decoder_one_6]) (.alts [47, 48, 49, 50, 51, 52, 53, 54] [A_decode_decoder_one_7, A_decode_decoder_one_8]))))) (.ops A_decode_decoder_one_9))) (.seq (.seq (.ops A_decode_decoder_one_10) (.cond (.t 62) (.ops A_decode_decoder_one_11) .skip)) (.seq (.ops A_decode_decoder_one_12) (.seq (.seq (.ops A_decode_decoder_one_13) (.cond (.t 74) (.ops A_decode_decoder_one_14) .skip)) (.alts [78, 79, 80, 81, 82, 83, 84, 85, 86, 87] [A_decode_decoder_one_15])))))))
def R_decode_decoder_one : List ARes := []
theorem C_decode_decoder_one : compF Tryz.prog Tryz.f66 = some (A_decode_decoder_one, R_decode_decoder_one) := by kernel_rfl
theorem K_decode_decoder_one {md : Bool} {args : List AV} {h : Hp} {Q : Res → Hp → Prop} (hl : LCode Tryz.prog md A_decode_decoder_one (EndQ R_decode_decoder_one Q) (env0 88 args) h) (hn : args.length ≤ 88 := by (simp; done)) : CallL Tryz.prog F_decode_decoder_one args h Q :=
 CallL.of (md := md) Tryz.func66 C_decode_decoder_one (by rw [Tryz.ntmps66]; exact hn) (by rw [Tryz.ntmps66]; exact hl)
abbrev F_decode_decoder_run : Nat := 68
def A_decode_decoder_run_0 : LA := [mv 15 3, o_ 16 (.call 124 [(.t 15)]), mv 12 16]
def A_decode_decoder_run_1 : LA := [mv 17 12, o_ 18 (.call 74 [(.t 17)]), Wi 19 .gtr 18 0]
def A_decode_decoder_run_2 : LA := [Wf 20 4 8, Wl 21 20, mv 22 12, o_ 23 (.call 128 [(.t 21), (.t 22)]), o_ 13 (.box 52 3 (.c (.agg [.int .u64 (0), .str [], .nils]))), Ws 3 13 23]
def A_decode_decoder_run_3 : LA := [mv 24 1, Wd 25 9 8, o_ 26 (.call 72 [(.t 24), (.t 25)]), mv 14 26]
def A_decode_decoder_run_4 : LA := [mv 27 14, mv 28 14, Wc 29 28, Wf 30 10 29, Wl 31 30, Wd 32 3 13, o_ 33 (.build [.int .u64 (0), .str [], .nils, .nilp] [(0, 3, (.t 32))]), o_ 34 (.bslice 199 4 1 [.int .u64 (0), .str [], .nils, .nilp] [(0, 4, (.t 33))]), o_ 35 (.app 199 4 56 (.t 31) (.t 34)), Wc 36 27, Wf 37 10 36, Ws 1 37 35]
def A_decode_decoder_run_5 : ACode := (.seq (.seq (.ops A_decode_decoder_run_1) (.cond (.t 19) .skip (.exit 0))) (.block 1 (.seq (.ops A_decode_decoder_run_2) (.seq (.ops A_decode_decoder_run_3) (.alts [27, 28, 29, 30, 31, 32, 33, 34, 35, 36, 37] [A_decode_decoder_run_4])))))
def A_decode_decoder_run : ACode := (.seq (.ops [o_ 8 (.box 174 9 (.t 2))]) (.seq (.ops A_decode_decoder_run_0) (.block 0 (.loop A_decode_decoder_run_5))))
def R_decode_decoder_run : List ARes := []
theorem C_decode_decoder_run : compF Tryz.prog Tryz.f68 = some (A_decode_decoder_run, R_decode_decoder_run) := by kernel_rfl
theorem K_decode_decoder_run {md : Bool} {args : List AV} {h : Hp} {Q : Res → Hp → Prop} (hl : LCode Tryz.prog md A_decode_decoder_run (EndQ R_decode_decoder_run Q) (env0 38 args) h) (hn : args.length ≤ 38 := by (simp; done)) : CallL Tryz.prog F_decode_decoder_run args h Q :=
 CallL.of (md := md) Tryz.func68 C_decode_decoder_run (by rw [Tryz.ntmps68]; exact hn) (by rw [Tryz.ntmps68]; exact hl)
abbrev F_decode_part : Nat := 124
def A_decode_part_0 : LA := [mv 4 0, o_ 5 (.call 184 [(.t 4)]), mv 3 5]
def A_decode_part_1 : LA := [mv 6 0, o_ 7 (.call 79 [(.t 6)])]
def A_decode_part_2 : LA := [mv 8 3, mv 2 8]
def A_decode_part : ACode := (.seq (.ops [o_ 2 (.mov (.c (.nilp)))]) (.seq (.ops A_decode_part_0) (.seq (.ops A_decode_part_1) (.seq (.ops A_decode_part_2) .ret))))
def R_decode_part : List ARes := [.tmp 2]
theorem C_decode_part : compF Tryz.prog Tryz.f124 = some (A_decode_part, R_decode_part) := by kernel_rfl
theorem K_decode_part {md : Bool} {args : List AV} {h : Hp} {Q : Res → Hp → Prop} (hl : LCode Tryz.prog md A_decode_part (EndQ R_decode_part Q) (env0 9 args) h) (hn : args.length ≤ 9 := by (simp; done)) : CallL Tryz.prog F_decode_part args h Q :=
 CallL.of (md := md) Tryz.func124 C_decode_part (by rw [Tryz.ntmps124]; exact hn) (by rw [Tryz.ntmps124]; exact hl)
abbrev F_decode_plain : Nat := 125
def A_decode_plain_0 : LA := [mv 5 0, o_ 6 (.bini .eql (.t 5) (.c (.int .u8 9))), mv 7 6, Whm 8 0 7, Wh 9 (.bini .eql (.t 8) (.c (.int .u8 12))) 7, Wq 10 7 9]
def A_decode_plain_1 : LA := [mv 11 0, mv 12 1, o_ 13 (.call 185 [(.t 11), (.t 12)]), Ws 3 4 13]
def A_decode_plain_2 : LA := [mv 14 0, mv 15 1, o_ 16 (.call 128 [(.t 14), (.t 15)]), Ws 3 4 16]
def A_decode_plain : ACode := (.seq (.ops [o_ 4 (.box 52 3 (.c (.agg [.int .u64 (0), .str [], .nils])))]) (.seq (.seq (.ops A_decode_plain_0) (.cond (.t 10) (.seq (.ops A_decode_plain_1) .ret) .skip)) (.seq (.ops A_decode_plain_2) .ret)))
def R_decode_plain : List ARes := [.cella 4 3]
theorem C_decode_plain : compF Tryz.prog Tryz.f125 = some (A_decode_plain, R_decode_plain) := by kernel_rfl
theorem K_decode_plain {md : Bool} {args : List AV} {h : Hp} {Q : Res → Hp → Prop} (hl : LCode Tryz.prog md A_decode_plain (EndQ R_decode_plain Q) (env0 17 args) h) (hn : args.length ≤ 17 := by (simp; done)) : CallL Tryz.prog F_decode_plain args h Q :=
 CallL.of (md := md) Tryz.func125 C_decode_plain (by rw [Tryz.ntmps125]; exact hn) (by rw [Tryz.ntmps125]; exact hl)
abbrev F_decode_number : Nat := 128
def A_decode_number_0 : LA := [mv 7 0, o_ 8 (.call 65 [(.t 7)])]
def A_decode_number_1 : LA := [o_ 14 (.bini .eql (.t 8) (.c (.int .u8 1))), mv 13 14]
def A_decode_number_2 : LA := [mv 15 1, o_ 16 (.call 186 [(.t 15)]), mv 5 16]
def A_decode_number_3 : LA := [o_ 18 (.bini .eql (.t 8) (.c (.int .u8 5))), mv 17 18]
def A_decode_number_4 : LA := [mv 19 1, o_ 20 (.call 187 [(.t 19)]), mv 6 20]
def A_decode_number_5 : LA := [mv 21 6, o_ 22 (.conv .u64 (.t 21)), mv 5 22]
def A_decode_number_6 : LA := [mv 23 0, o_ 24 (.bini .eql (.t 23) (.c (.int .u8 15)))]
def A_decode_number_7 : LA := [mv 25 6, o_ 26 (.conv .i32 (.t 25)), o_ 27 (.conv .i64 (.t 26)), o_ 28 (.conv .u64 (.t 27)), mv 5 28]
def A_decode_number_8 : LA := [mv 9 0, mv 10 1, o_ 11 (.call 189 [(.t 10)]), o_ 12 (.call 188 [(.t 9), (.t 11)]), mv 5 12]
def A_decode_number_9 : LA := [mv 29 1, o_ 30 (.call 79 [(.t 29)])]
def A_decode_number_10 : LA := [mv 31 5, o_ 32 (.build [.int .u64 (0), .str [], .nils] [(0, 1, (.t 31))]), Ws 3 4 32]
def A_decode_number : ACode := (.seq (.ops [o_ 4 (.box 52 3 (.c (.agg [.int .u64 (0), .str [], .nils])))]) (.seq (.ops [o_ 5 (.mov (.c (.int .u64 0)))]) (.seq (.seq (.ops A_decode_number_0) (.block 0 (.seq (.ops A_decode_number_1) (.cond (.t 13) (.ops A_decode_number_2) (.seq (.ops A_decode_number_3) (.cond (.t 17) (.seq (.ops A_decode_number_4) (.seq (.ops A_decode_number_5) (.seq (.ops A_decode_number_6) (.cond (.t 24) (.ops A_decode_number_7) .skip)))) (.ops A_decode_number_8))))))) (.seq (.ops A_decode_number_9) (.seq (.ops A_decode_number_10) .ret)))))
def R_decode_number : List ARes := [.cella 4 3]
theorem C_decode_number : compF Tryz.prog Tryz.f128 = some (A_decode_number, R_decode_number) := by kernel_rfl
theorem K_decode_number {md : Bool} {args : List AV} {h : Hp} {Q : Res → Hp → Prop} (hl : LCode Tryz.prog md A_decode_number (EndQ R_decode_number Q) (env0 33 args) h) (hn : args.length ≤ 33 := by (simp; done)) : CallL Tryz.prog F_decode_number args h Q :=
 CallL.of (md := md) Tryz.func128 C_decode_number (by rw [Tryz.ntmps128]; exact hn) (by rw [Tryz.ntmps128]; exact hl)
abbrev F_nums_Narrow : Nat := 188
def A_nums_Narrow_0 : LA := [o_ 8 (.bini .eql (.t 6) (.c (.int .u8 5))), mv 7 8]
def A_nums_Narrow_1 : LA := [o_ 9 (.bini .eql (.t 6) (.c (.int .u8 14))), mv 7 9]
def A_nums_Narrow_2 : LA := [mv 10 1, o_ 11 (.conv .i32 (.t 10)), o_ 12 (.conv .i64 (.t 11)), o_ 13 (.conv .u64 (.t 12)), mv 4 13]
def A_nums_Narrow_3 : LA := [o_ 15 (.bini .eql (.t 6) (.c (.int .u8 13))), mv 14 15]
def A_nums_Narrow_4 : LA := [mv 16 1, o_ 17 (.bini .and (.t 16) (.c (.int .u64 4294967295))), mv 4 17]
def A_nums_Narrow_5 : LA := [o_ 19 (.bini .eql (.t 6) (.c (.int .u8 3))), mv 18 19]
def A_nums_Narrow_6 : LA := [o_ 20 (.bini .eql (.t 6) (.c (.int .u8 4))), mv 18 20]
def A_nums_Narrow_7 : LA := [mv 21 1, mv 4 21]
def A_nums_Narrow_8 : LA := [o_ 23 (.bini .eql (.t 6) (.c (.int .u8 8))), mv 22 23]
def A_nums_Narrow_9 : LA := [mv 24 1, o_ 25 (.bini .neq (.t 24) (.c (.int .u64 0)))]
def A_nums_Narrow_10 : LA := [o_ 27 (.bini .eql (.t 6) (.c (.int .u8 17))), mv 26 27]
def A_nums_Narrow_11 : LA := [mv 28 5, mv 29 1, o_ 30 (.bini .and (.t 29) (.c (.int .u64 4294967295))), o_ 31 (.callv (.t 28) [(.t 30)]), o_ 32 (.conv .u64 (.t 31)), mv 4 32]
def A_nums_Narrow_12 : LA := [o_ 34 (.bini .eql (.t 6) (.c (.int .u8 18))), mv 33 34]
def A_nums_Narrow_13 : LA := [mv 35 5, mv 36 1, o_ 37 (.callv (.t 35) [(.t 36)]), o_ 38 (.conv .u64 (.t 37)), mv 4 38]
def A_nums_Narrow : ACode := (.seq (.ops [o_ 4 (.mov (.c (.int .u64 0)))]) (.seq (.ops [o_ 5 (.mov (.f 246))]) (.seq (.seq (.ops [mv 6 0]) (.block 0 (.seq (.seq (.ops A_nums_Narrow_0) (.cond (.t 7) .skip (.ops A_nums_Narrow_1))) (.cond (.t 7) (.seq (.ops A_nums_Narrow_2) .ret) (.seq (.ops A_nums_Narrow_3) (.cond (.t 14) (.seq (.ops A_nums_Narrow_4) .ret) (.seq (.seq (.ops A_nums_Narrow_5) (.cond (.t 18) .skip (.ops A_nums_Narrow_6))) (.cond (.t 18) (.seq (.ops A_nums_Narrow_7) .ret) (.seq (.ops A_nums_Narrow_8) (.cond (.t 22) (.seq (.ops A_nums_Narrow_9) (.cond (.t 25) (.seq (.ops [o_ 4 (.mov (.c (.int .u64 1)))]) .ret) .skip)) (.seq (.ops A_nums_Narrow_10) (.cond (.t 26) (.seq (.ops A_nums_Narrow_11) .ret) (.seq (.ops A_nums_Narrow_12) (.cond (.t 33) (.seq (.ops A_nums_Narrow_13) .ret) .skip)))))))))))))) (.seq (.ops [o_ 4 (.mov (.c (.int .u64 0)))]) .ret))))
def R_nums_Narrow : List ARes := [.tmp 4]
theorem C_nums_Narrow : compF Tryz.prog Tryz.f188 = some (A_nums_Narrow, R_nums_Narrow) := by kernel_rfl
theorem K_nums_Narrow {md : Bool} {args : List AV} {h : Hp} {Q : Res → Hp → Prop} (hl : LCode Tryz.prog md A_nums_Narrow (EndQ R_nums_Narrow Q) (env0 39 args) h) (hn : args.length ≤ 39 := by (simp; done)) : CallL Tryz.prog F_nums_Narrow args h Q :=
 CallL.of (md := md) Tryz.func188 C_nums_Narrow (by rw [Tryz.ntmps188]; exact hn) (by rw [Tryz.ntmps188]; exact hl)
abbrev F_decode_node_field : Nat := 72
def A_decode_node_field_0 : LA := [o_ 3 (.box 174 9 (.t 1)), o_ 4 (.mov (.c (.nilp)))]
def A_decode_node_field_1 : LA := [mv 6 0, Wc 7 6, Wf 8 1 7, Wl 9 8, Wf 10 0 3, Wl 11 10, o_ 12 (.mlook .i (.nilp) false (.t 9) (.t 11)), mv 5 12]
def A_decode_node_field_2 : LA := [mv 13 5, o_ 14 (.isnil .pt false (.t 13))]
def A_decode_node_field_3 : LA := [Wd 15 9 3, o_ 16 (.mkmap), o_ 17 (.build [.int .i32 (0), .str [], .str [], .int .u8 (0), .int .u8 (0), .int .u8 (0), .bool false, .int .i64 (0), .str [], .nils, .nils, .nilm] [(0, 9, (.t 15)), (11, 1, (.t 16))]), o_ 18 (.box 195 12 (.t 17)), mv 5 18]
def A_decode_node_field_4 : LA := [mv 19 0, Wc 20 19, Wf 21 1 20, Wl 22 21, Wf 23 0 3, Wl 24 23, mv 25 5, n_ (.mupd .i (.t 22) (.t 24) (.t 25))]
def A_decode_node_field_5 : LA := [mv 26 5, mv 4 26]
def A_decode_node_field : ACode := (.seq (.ops A_decode_node_field_0) (.seq (.alts [6, 7, 8, 9, 10, 11, 12, 5] [A_decode_node_field_1]) (.seq (.seq (.ops A_decode_node_field_2) (.cond (.t 14) (.seq (.ops A_decode_node_field_3) (.alts [19, 20, 21, 22, 23, 24, 25] [A_decode_node_field_4])) .skip)) (.seq (.ops A_decode_node_field_5) .ret))))
def R_decode_node_field : List ARes := [.tmp 4]
theorem C_decode_node_field : compF Tryz.prog Tryz.f72 = some (A_decode_node_field, R_decode_node_field) := by kernel_rfl
theorem K_decode_node_field {md : Bool} {args : List AV} {h : Hp} {Q : Res → Hp → Prop} (hl : LCode Tryz.prog md A_decode_node_field (EndQ R_decode_node_field Q) (env0 27 args) h) (hn : args.length ≤ 27 := by (simp; done)) : CallL Tryz.prog F_decode_node_field args h Q :=
 CallL.of (md := md) Tryz.func72 C_decode_node_field (by rw [Tryz.ntmps72]; exact hn) (by rw [Tryz.ntmps72]; exact hl)
abbrev F_decode_implicit : Nat := 87
def A_decode_implicit_0 : LA := [o_ 1 (.box 174 9 (.t 0)), Wo 2 false]
def A_decode_implicit_1 : LA := [Wf 3 3 1, Wl 4 3, o_ 5 (.bini .eql (.t 4) (.c (.int .u8 1))), mv 6 5, Wgf 7 4 1 6, Wgl 8 7 6, g_ 9 (.bini .neq (.t 8) (.c (.int .u8 11))) 6, Wp 10 6 9, mv 11 10, Wgf 12 7 1 11, Wgl 13 12 11, g_ 14 (.bini .eql (.t 13) (i_ 0)) 11, Wp 15 11 14, mv 2 15]
def A_decode_implicit : ACode := (.seq (.ops A_decode_implicit_0) (.seq (.ops A_decode_implicit_1) .ret))
def R_decode_implicit : List ARes := [.tmp 2]
theorem C_decode_implicit : compF Tryz.prog Tryz.f87 = some (A_decode_implicit, R_decode_implicit) := by kernel_rfl
theorem K_decode_implicit {md : Bool} {args : List AV} {h : Hp} {Q : Res → Hp → Prop} (hl : LCode Tryz.prog md A_decode_implicit (EndQ R_decode_implicit Q) (env0 16 args) h) (hn : args.length ≤ 16 := by (simp; done)) : CallL Tryz.prog F_decode_implicit args h Q :=
 CallL.of (md := md) Tryz.func87 C_decode_implicit (by rw [Tryz.ntmps87]; exact hn) (by rw [Tryz.ntmps87]; exact hl)
end Go.Proofs.YtgjjbfhamlecoacGreatDoor

namespace Go.Proofs.YtgjjbfhamlecoacGreatDoor
open Go.L
abbrev TI : TypeId := 199
abbrev TF : TypeId := 195
abbrev TWay : TypeId := 180
abbrev TV : TypeId := 52
abbrev TWk : TypeId := 175
def rowR : List AV := [.int .i32 2, .str [114], .str [114], .int .u8 3, .int .u8 5, .int .u8 0, .bool true, .int .i64 0, .str []]
def fldC (v : AV) (AM : Nat) : List AV := rowR ++ [.nils, v, .map AM]
def narI (v : Int) : Int := IntKind.u64.wrap (IntKind.i64.wrap (IntKind.i32.wrap v))
def itC (x : Nat) : List AV := [.int .u64 (narI x), .str [], .nils, .nilp]
abbrev items (xs : List Nat) : List (List AV) := xs.map itC
theorem items_len (xs : List Nat) : (items xs).length = xs.length := List.length_map ..
structure Rec1 (h0 : Hp) (Tt N FM R : Nat) (cv : AV) (b : Str) (ep : Option (Nat × List AV)) (fs : Option (Nat × AV)) (o : Nat) (xs : List Nat) (H : Hp) : Prop where
 g : Gr h0 H
 nd : H N = some (.row TN [[.ptr Tt 0 0, .map FM, .nils]])
 rd : RdOK R cv b o b.length 0 H
 nN : h0.u N = false
 nF : h0.u FM = false
 nR : h0.u R = false
 pr : ∀ P rw, ep = some (P, rw) → H P = some (.row TR [rw]) ∧ P ≠ R ∧ h0.u P = false
 f0 : fs = none → H FM = some (.map [] 0) ∧ xs = []
 f1 : ∀ F v, fs = some (F, v) → H FM = some (.map [(.int .i32 2, .ptr F 0 0, 0)] 1) ∧ (∃ AM, H F = some (.row TF [fldC v AM])) ∧ h0.u F = false ∧ AccE TI h0 H v (items xs)
section
variable {h0 H : Hp} {Tt N FM R : Nat} {cv : AV} {b : Str} {o : Nat} {ep : Option (Nat × List AV)} {fs : Option (Nat × AV)} {xs : List Nat}
theorem Rec1.fm (k : Rec1 h0 Tt N FM R cv b ep fs o xs H) : ∃ es c, H FM = some (.map es c) := by
 cases fs with
 | none => exact ⟨_, _, (k.f0 rfl).1⟩
 | some q => exact ⟨_, _, (k.f1 q.1 q.2 rfl).1⟩
theorem Rec1.NR (k : Rec1 h0 Tt N FM R cv b ep fs o xs H) : N ≠ R := row_ne k.nd k.rd.row (by decide)
theorem Rec1.NF (k : Rec1 h0 Tt N FM R cv b ep fs o xs H) : N ≠ FM := let ⟨_, _, h⟩ := k.fm; map_ne k.nd h
theorem Rec1.RF (k : Rec1 h0 Tt N FM R cv b ep fs o xs H) : R ≠ FM := let ⟨_, _, h⟩ := k.fm; map_ne k.rd.row h
theorem Rec1.cN (k : Rec1 h0 Tt N FM R cv b ep fs o xs H) : blkOf cv ≠ some N := fun e => let ⟨_, h⟩ := OwnX.blk k.rd.own e; row_ne h k.nd (by decide) rfl
theorem Rec1.cF (k : Rec1 h0 Tt N FM R cv b ep fs o xs H) : blkOf cv ≠ some FM := fun e => let ⟨_, h⟩ := OwnX.blk k.rd.own e; let ⟨_, _, h2⟩ := k.fm; map_ne h h2 rfl
theorem Rec1.frame (k : Rec1 h0 Tt N FM R cv b ep fs o xs H) {H' : Hp} (g : Gr h0 H') (hN : H' N = H N) (hR : H' R = H R) (hF : H' FM = H FM) (hc : ∀ B, blkOf cv = some B → H' B = H B) (hP : ∀ P rw, ep = some (P, rw) → H' P = H P)
  (hf : ∀ F v, fs = some (F, v) → H' F = H F ∧ ∀ B, blkOf v = some B → H' B = H B) : Rec1 h0 Tt N FM R cv b ep fs o xs H' := by
 refine ⟨g, hN.trans k.nd, ⟨hR.trans k.rd.row, ?_, k.rd.ne, k.rd.le, k.rd.len, k.rd.big⟩, k.nN, k.nF, k.nR, fun P rw e => ⟨(hP P rw e).trans (k.pr P rw e).1, (k.pr P rw e).2⟩, fun e => ⟨hF.trans (k.f0 e).1, (k.f0 e).2⟩, fun F v e => ?_⟩
 ·rcases k.rd.own with ⟨rfl, h⟩ | ⟨B, row, q, rfl, h1, h2⟩
  ·exact .inl ⟨rfl, h⟩
  ·exact .inr ⟨B, row, q, rfl, (hc B rfl).trans h1, h2⟩
 ·obtain ⟨h1, ⟨AM, h2⟩, h3, h4⟩ := k.f1 F v e
  refine ⟨hF.trans h1, ⟨AM, (hf F v e).1.trans h2⟩, h3, g, ?_⟩
  rcases h4.2 with ⟨rfl, h⟩ | ⟨j, rfl, h5, h6⟩
  ·exact .inl ⟨rfl, h⟩
  ·exact .inr ⟨j, rfl, h5, ((hf F _ e).2 j rfl).trans h6⟩
theorem Rec1.gr (k : Rec1 h0 Tt N FM R cv b ep fs o xs H) {H' : Hp} (g : Gr H H') : Rec1 h0 Tt N FM R cv b ep fs o xs H' := by
 refine k.frame (k.g.trans g) (g.m _ (Hp.used k.nd)) (g.m _ (Hp.used k.rd.row)) ?_ (fun B hB => g.m _ (k.rd.own.used hB)) (fun P rw e => g.m _ (Hp.used (k.pr P rw e).1)) fun F v e => ?_
 ·obtain ⟨_, _, h⟩ := k.fm; exact g.m _ (Hp.used h)
 ·obtain ⟨_, ⟨AM, h2⟩, _, h4⟩ := k.f1 F v e
  exact ⟨g.m _ (Hp.used h2), fun B hB => g.m _ (AccE.used h4 hB).2⟩
theorem Rec1.read (k : Rec1 h0 Tt N FM R cv b ep fs o xs H) {o' : Nat} (ho : o' ≤ b.length) : Rec1 h0 Tt N FM R cv b ep fs o' xs (H.set R (.row TR [RdC cv o' b.length 0 0])) := by
 have hF : ∀ F v, fs = some (F, v) → F ≠ R := fun F v e => by obtain ⟨_, ⟨AM, h2⟩, _⟩ := k.f1 F v e; exact row_ne h2 k.rd.row (by decide)
 have hv : ∀ F v, fs = some (F, v) → blkOf v ≠ some R := fun F v e e2 => by obtain ⟨_, _, _, h4⟩ := k.f1 F v e; obtain ⟨_, h5⟩ := AccE.blk h4 e2; exact row_ne h5 k.rd.row (by decide) rfl
 refine ⟨k.g.set k.nR _, (Hp.set_ne k.NR).trans k.nd, k.rd.put 0 ho, k.nN, k.nF, k.nR, fun P rw e => ⟨(Hp.set_ne (k.pr P rw e).2.1).trans (k.pr P rw e).1, (k.pr P rw e).2⟩, fun e => ⟨(Hp.set_ne k.RF.symm).trans (k.f0 e).1, (k.f0 e).2⟩, fun F v e => ?_⟩
 obtain ⟨h1, ⟨AM, h2⟩, h3, h4⟩ := k.f1 F v e
 exact ⟨(Hp.set_ne k.RF.symm).trans h1, ⟨AM, (Hp.set_ne (hF F v e)).trans h2⟩, h3, AccE.put h4 k.nR (hv F v e) _⟩
theorem Rec1.setP (k : Rec1 h0 Tt N FM R cv b ep fs o xs H) {P : Nat} (hP : h0.u P = false) (hPR : P ≠ R) (hr : (∃ rw, H P = some (.row TR rw)) ∨ H.u P = false) (rw : List AV) : Rec1 h0 Tt N FM R cv b (some (P, rw)) fs o xs (H.set P (.row TR [rw])) := by
 have key : ∀ {x T : Nat} {es : List (List AV)}, H x = some (.row T es) → T ≠ TR → x ≠ P := fun {x T es} hx hT => by
  rcases hr with ⟨rw', h⟩ | h
  ·exact row_ne hx h hT
  ·exact ne_of_u (Hp.used hx) h
 have keyM : ∀ {x c : Nat} {es : MapL}, H x = some (.map es c) → x ≠ P := fun {x c es} hx => by
  rcases hr with ⟨rw', h⟩ | h
  ·exact (map_ne h hx).symm
  ·exact ne_of_u (Hp.used hx) h
 obtain ⟨_, _, hFM⟩ := k.fm
 have hcP : blkOf cv ≠ some P := fun e => by obtain ⟨_, h⟩ := OwnX.blk k.rd.own e; exact key h (by decide) rfl
 have kk : Rec1 h0 Tt N FM R cv b none fs o xs (H.set P (.row TR [rw])) := by
  have k0 : Rec1 h0 Tt N FM R cv b none fs o xs H := ⟨k.g, k.nd, k.rd, k.nN, k.nF, k.nR, (fun _ _ e => by cases e), k.f0, k.f1⟩
  refine k0.frame (k.g.set hP _) (Hp.set_ne (key k.nd (by decide))) (Hp.set_ne hPR.symm) (Hp.set_ne (keyM hFM)) (fun B hB => Hp.set_ne fun e => hcP (by rw [← e]; exact hB)) (fun _ _ e => by cases e) fun F v e => ?_
  obtain ⟨_, ⟨AM, h2⟩, _, h4⟩ := k.f1 F v e
  exact ⟨Hp.set_ne (key h2 (by decide)), fun B hB => by obtain ⟨_, h⟩ := AccE.blk h4 hB; exact Hp.set_ne (key h (by decide))⟩
 exact ⟨kk.g, kk.nd, kk.rd, kk.nN, kk.nF, kk.nR, (fun P' rw' e => by cases e; exact ⟨Hp.set_same _ _ _, hPR, hP⟩), kk.f0, kk.f1⟩
theorem Rec1.noP (k : Rec1 h0 Tt N FM R cv b ep fs o xs H) : Rec1 h0 Tt N FM R cv b none fs o xs H := ⟨k.g, k.nd, k.rd, k.nN, k.nF, k.nR, (fun _ _ e => by cases e), k.f0, k.f1⟩
theorem Rec1.part {P p e : Nat} (k : Rec1 h0 Tt N FM R cv b (some (P, RdC cv p e 0 0)) fs o xs H) (h1 : p ≤ e) (h2 : e ≤ b.length) : RdOK P cv b p e 0 H :=
 ⟨(k.pr P _ rfl).1, k.rd.own, fun h => by obtain ⟨_, h3⟩ := OwnX.blk k.rd.own h; exact row_ne h3 (k.pr P _ rfl).1 (by decide) rfl, h1, h2, k.rd.big⟩
theorem Rec1.mkF (k : Rec1 h0 Tt N FM R cv b ep none o xs H) {F AM : Nat} (hF : H F = some (.row TF [fldC .nils AM])) (hn : h0.u F = false) : Rec1 h0 Tt N FM R cv b ep (some (F, .nils)) o [] (H.set FM (.map [(.int .i32 2, .ptr F 0 0, 0)] 1)) := by
 have hFM := (k.f0 rfl).1
 refine ⟨k.g.set k.nF _, (Hp.set_ne k.NF).trans k.nd, ⟨(Hp.set_ne k.RF).trans k.rd.row, OwnX.setne k.rd.own k.cF _, k.rd.ne, k.rd.le, k.rd.len, k.rd.big⟩, k.nN, k.nF, k.nR, fun P rw e => ⟨(Hp.set_ne (map_ne (k.pr P rw e).1 hFM)).trans (k.pr P rw e).1, (k.pr P rw e).2⟩, (fun e => by cases e), fun F' v e => ?_⟩
 cases e
 exact ⟨Hp.set_same _ _ _, ⟨AM, (Hp.set_ne (map_ne hF hFM)).trans hF⟩, hn, k.g.set k.nF _, .inl ⟨rfl, rfl⟩⟩
theorem Rec1.push {F : Nat} {v : AV} (k : Rec1 h0 Tt N FM R cv b ep (some (F, v)) o xs H) {AM : Nat} {H' : Hp} {v' : AV} {ys : List Nat} (ha : AccE TI h0 H' v' (items ys)) (hf : ∀ x, H.u x = true → blkOf v ≠ some x → H' x = H x)
  (hb : ∀ x, blkOf v' = some x → blkOf v = some x ∨ H.u x = false) : Rec1 h0 Tt N FM R cv b ep (some (F, v')) o ys (H'.set F (.row TF [fldC v' AM])) := by
 obtain ⟨h1, ⟨AM', h2⟩, h3, h4⟩ := k.f1 F v rfl
 have vt : ∀ {x T : Nat} {es : List (List AV)}, H x = some (.row T es) → T ≠ TI → blkOf v ≠ some x := fun {x T es} hx hT e => by obtain ⟨_, h⟩ := AccE.blk h4 e; exact row_ne hx h hT rfl
 have vm : ∀ {x c : Nat} {es : MapL}, H x = some (.map es c) → blkOf v ≠ some x := fun {x c es} hx e => by obtain ⟨_, h⟩ := AccE.blk h4 e; exact map_ne h hx rfl
 have hv'F : blkOf v' ≠ some F := fun e => by
  rcases hb F e with h | h
  ·exact vt h2 (by decide) h
  ·rw [Hp.used h2] at h; cases h
 have keep : ∀ {x T : Nat} {es : List (List AV)}, H x = some (.row T es) → T ≠ TI → x ≠ F → (H'.set F (.row TF [fldC v' AM])) x = H x := fun {x T es} hx hT hn => (Hp.set_ne hn).trans (hf x (Hp.used hx) (vt hx hT))
 refine ⟨ha.1.set h3 _, (keep k.nd (by decide) (row_ne k.nd h2 (by decide))).trans k.nd, ⟨(keep k.rd.row (by decide) (row_ne k.rd.row h2 (by decide))).trans k.rd.row, ?_, k.rd.ne, k.rd.le, k.rd.len, k.rd.big⟩, k.nN, k.nF, k.nR,
  fun P rw e => ⟨(keep (k.pr P rw e).1 (by decide) (row_ne (k.pr P rw e).1 h2 (by decide))).trans (k.pr P rw e).1, (k.pr P rw e).2⟩, (fun e => by cases e), fun F' v'' e => ?_⟩
 ·rcases k.rd.own with ⟨rfl, h⟩ | ⟨B, row, q, rfl, h5, h6⟩
  ·exact .inl ⟨rfl, h⟩
  ·exact .inr ⟨B, row, q, rfl, (keep h5 (by decide) (row_ne h5 h2 (by decide))).trans h5, h6⟩
 ·cases e
  exact ⟨(Hp.set_ne (map_ne h2 h1).symm).trans ((hf FM (Hp.used h1) (vm h1)).trans h1), ⟨AM, Hp.set_same _ _ _⟩, h3, AccE.put ha h3 hv'F _⟩
end
end Go.Proofs.YtgjjbfhamlecoacGreatDoor

namespace Go.Proofs.YtgjjbfhamlecoacGreatDoor
open Go.L
theorem own5_L (h : Hp) : CallL Tryz.prog F_decode_own [.int .u8 5] h fun r h' => r = .ret (.int .u8 0) ∧ h' = h := by
 refine K_decode_own (md := false) ?_
 refine s_eq (fun h1 => absurd h1 (by decide)) (fun _ => ?_)
 refine s_eq (fun h1 => absurd h1 (by decide)) (fun _ => ?_)
 refine s_eq (fun h1 => absurd h1 (by decide)) (fun _ => ?_)
 refine s_eq (fun h1 => absurd h1 (by decide)) (fun _ => ?_)
 refine s_eq (fun h1 => absurd h1 (by decide)) (fun _ => ?_)
 refine s_eq (fun h1 => absurd h1 (by decide)) (fun _ => ?_)
 refine s_eq (fun h1 => absurd h1 (by decide)) (fun _ => ?_)
 refine s_eq (fun h1 => absurd h1 (by decide)) (fun _ => ?_)
 refine s_eq (fun h1 => absurd h1 (by decide)) (fun _ => ?_)
 exact ⟨rfl, rfl, rfl⟩
def WayQ (h : Hp) (t : Bool) (r : Res) (h' : Hp) : Prop := r = .ret (.bool t) ∧ Gr h h'
theorem way1_L (k : Nat) (h : Hp) : CallL Tryz.prog F_ways_c1 [.agg rowR, .int .u8 k] h (WayQ h false) := by
 refine K_ways_c1 (md := false) ?_
 refine ⟨rfl, rfl, fun B hB => ?_⟩
 refine ⟨_, _, _, _, Hp.set_same _ _ _, rfl, rfl, ?_⟩
 refine s_eq (fun h1 => absurd h1 (by decide)) (fun _ => ?_)
 exact ⟨rfl, rfl, (Gr.refl h).set hB.1 _⟩
theorem way2_L (k : Nat) (h : Hp) : CallL Tryz.prog F_ways_c2 [.agg rowR, .int .u8 k] h (WayQ h (decide (k = 0))) := by
 refine K_ways_c2 (md := false) ?_
 refine ⟨rfl, rfl, fun B hB => ?_⟩
 have g := (Gr.refl h).set hB.1 (.row TRow [rowR])
 refine ⟨_, _, _, _, Hp.set_same _ _ _, rfl, rfl, ?_⟩
 refine s_ne (fun _ => ?_) (fun h1 => absurd h1 (by decide))
 refine ⟨_, _, _, _, Hp.set_same _ _ _, rfl, rfl, ?_⟩
 refine (own5_L _).mono ?_
 rintro r h' ⟨rfl, rfl⟩
 refine s_eq (fun (h1 : (k : Int) = 0) => ?_) (fun (h1 : (k : Int) ≠ 0) => ?_)
 ·exact ⟨rfl, Res.bool_eq (decide_eq_true (show k = 0 by omega)).symm, g⟩
 ·exact ⟨rfl, Res.bool_eq (decide_eq_false (show ¬ k = 0 by omega)).symm, g⟩
theorem way3_L (k : Nat) (h : Hp) : CallL Tryz.prog F_ways_c3 [.agg rowR, .int .u8 k] h (WayQ h (decide (k = 2))) := by
 refine K_ways_c3 (md := false) ?_
 refine ⟨rfl, rfl, fun B hB => ?_⟩
 have g := (Gr.refl h).set hB.1 (.row TRow [rowR])
 refine ⟨_, _, _, _, Hp.set_same _ _ _, rfl, rfl, ?_⟩
 refine s_eq (fun _ => ?_) (fun h1 => absurd rfl h1)
 refine s_eq (fun (h1 : (k : Int) = 2) => ?_) (fun (h1 : (k : Int) ≠ 2) => ?_)
 ·exact ⟨rfl, Res.bool_eq (decide_eq_true (show k = 2 by omega)).symm, g⟩
 ·exact ⟨rfl, Res.bool_eq (decide_eq_false (show ¬ k = 2 by omega)).symm, g⟩
theorem Has_way1 : HasBody Tryz.prog F_ways_c1 := ⟨_, Tryz.func62, by kernel_rfl, by kernel_rfl⟩
theorem Has_way2 : HasBody Tryz.prog F_ways_c2 := ⟨_, Tryz.func64, by kernel_rfl, by kernel_rfl⟩
theorem Has_way3 : HasBody Tryz.prog F_ways_c3 := ⟨_, Tryz.func67, by kernel_rfl, by kernel_rfl⟩
theorem Has_rec1 : HasBody Tryz.prog F_records_c1 := ⟨_, Tryz.func77, by kernel_rfl, by kernel_rfl⟩
abbrev fnV (f : Nat) : AV := .func (.func f) [] []
theorem rec1_L {f g B1 B9 k : Nat} {t : Bool} {h : Hp} (h1 : h B1 = some (.row TRow [rowR])) (h9 : h B9 = some (.row TWk [[.int .u8 k]])) (hf : HasBody Tryz.prog f) (hc : ∀ h', CallL Tryz.prog f [.agg rowR, .int .u8 k] h' (WayQ h' t)) :
  CallL Tryz.prog F_records_c1 [.agg [fnV f, fnV g], .ptr B1 0 0, .ptr B9 0 0] h (WayQ h t) := by
 refine K_records_c1 (md := false) ?_
 refine ⟨rfl, rfl, fun B hB => ?_⟩
 have gb := (Gr.refl h).set hB.1 (.row TWay [[fnV f, fnV g]])
 refine ⟨_, _, _, _, Hp.set_same _ _ _, rfl, rfl, ?_⟩
 refine ⟨_, _, _, gb.blk h1, rfl, by show 9 ≤ 9; decide, ?_⟩
 refine ⟨_, _, _, _, gb.blk h9, rfl, rfl, ?_⟩
 refine ⟨hf, (hc _).mono ?_⟩
 rintro r h' ⟨rfl, g'⟩
 exact ⟨rfl, rfl, gb.trans g'⟩
def waysR : List (List AV) := [[fnV F_ways_c1, fnV 63], [fnV F_ways_c2, fnV F_decode_decoder_one], [fnV F_ways_c3, fnV F_decode_decoder_run]]
theorem ways_at {q : Nat} (hq : q < 3) (k : Nat) : ∃ f g t, waysR[q]? = some [fnV f, fnV g] ∧ HasBody Tryz.prog f ∧ (∀ h', CallL Tryz.prog f [.agg rowR, .int .u8 k] h' (WayQ h' t)) ∧ (t = true ↔ (q = 1 ∧ k = 0) ∨ (q = 2 ∧ k = 2)) := by
 match q, hq with
 | 0, _ => exact ⟨_, _, _, rfl, Has_way1, way1_L k, by simp⟩
 | 1, _ => exact ⟨_, _, _, rfl, Has_way2, way2_L k, by simp⟩
 | 2, _ => exact ⟨_, _, _, rfl, Has_way3, way3_L k, by simp⟩
theorem IndexFunc_L {W B1 B9 k : Nat} {h : Hp} (hW : h W = some (.row TWay waysR)) (h1 : h B1 = some (.row TRow [rowR])) (h9 : h B9 = some (.row TWk [[.int .u8 k]])) (hk : k = 0 ∨ k = 2) :
  CallL Tryz.prog F_IndexFunc_way [.slc W 0 3 (some 3), .func (.func F_records_c1) [] [.ptr B1 0 0, .ptr B9 0 0]] h fun r h' => r = .ret (.int .i64 (if k = 0 then 1 else 2)) ∧ Gr h h' := by
 refine K_IndexFunc_way (md := false) ?_
 refine s_blk (id := 0) (fun _ _ => False) ?_ (fun _ _ h => h.elim)
 refine s_loop 3 (fun q (H : Hp) => q ≤ 3 ∧ Gr h H ∧ (k = 0 → q ≤ 1) ∧ (k = 2 → q ≤ 2)) (fun q _ => [(0, .slc W 0 3 (some 3)), (1, .func (.func F_records_c1) [] [.ptr B1 0 0, .ptr B9 0 0]), (7, .int .i64 3), (8, .int .i64 (q : Nat))]) (fun _ H => H) h ⟨Nat.zero_le _, Gr.refl h, fun _ => Nat.zero_le _, fun _ => Nat.zero_le _⟩ rfl rfl ⟨rfl, rfl, rfl, rfl, trivial⟩ (fun _ _ h => h.1) ?_
 rintro q H n0 g0 hq ⟨_, g, q1, q2⟩
 have hq3 : q < 3 := by
  rcases hk with e | e
  ·have := q1 e; omega
  ·have := q2 e; omega
 refine s_lt (fun _ => ?_) (fun (h2 : (3 : Int) ≤ q) => by omega)
 obtain ⟨f, g1, t, e1, e2, e3, e4⟩ := ways_at hq3 k
 refine ⟨q, rfl, hq3, ⟨_, g.blk hW⟩, ?_⟩
 refine ⟨_, _, _, g.blk hW, (show waysR[0 + q]? = _ by rw [Nat.zero_add]; exact e1), by show 2 ≤ 2; decide, ?_⟩
 refine ⟨Has_rec1, (rec1_L (g.blk h1) (g.blk h9) e2 e3).mono ?_⟩
 rintro r h' ⟨rfl, g'⟩
 cases t with
 | true =>
  have hh := e4.1 rfl
  refine ⟨rfl, ?_, g.trans g'⟩
  have : (q : Int) = if k = 0 then 1 else 2 := by
   rcases hh with ⟨rfl, rfl⟩ | ⟨rfl, rfl⟩ <;> rfl
  exact congrArg (fun z => Res.ret (.int .i64 z)) this
 | false =>
  have hh : ¬ ((q = 1 ∧ k = 0) ∨ (q = 2 ∧ k = 2)) := fun e => by have := e4.2 e; cases this
  refine s_nat (q + 1) (by omega) (by omega) ?_
  exact ⟨h', by omega, ⟨by omega, g.trans g', fun e => by have := q1 e; omega, fun e => by have := q2 e; omega⟩, rfl, rfl, rfl, rfl, rfl, rfl, trivial⟩
theorem Narrow5_L (v : Int) (h : Hp) : CallL Tryz.prog F_nums_Narrow [.int .u8 5, .int .u64 v] h fun r h' => r = .ret (.int .u64 (narI v)) ∧ h' = h := by
 refine K_nums_Narrow (md := false) ?_
 refine s_eq (fun _ => ?_) (fun h1 => absurd rfl h1)
 refine s_i (s_i (s_i ?_))
 exact ⟨rfl, rfl, rfl⟩
theorem Gr.put {h h1 : Hp} (g : Gr h h1) {P : Nat} (hP : h.u P = true) (x : Blk) : Gr (h.set P x) (h1.set P x) := by
 refine ⟨fun y hy => ?_, fun y hy => ?_⟩
 ·by_cases e : y = P
  ·subst e; rw [Hp.set_same, Hp.set_same]
  ·rw [Hp.set_ne e, Hp.set_ne e]
   rw [Hp.set_u, if_neg e] at hy
   exact g.m y hy
 ·by_cases e : y = P
  ·subst e; rw [Hp.set_u, if_pos rfl]
  ·rw [Hp.set_u, if_neg e] at hy ⊢
   exact g.u y hy
theorem val_lay {v : Int} {e : Env} {x : AOpd} (hx : ev e x = .int .u64 v) : lay e [.int .u64 0, .str [], .nils] [(0, 1, x)] = some [.int .u64 v, .str [], .nils] := by
 rw [lay, hx]; rfl
theorem number5_L {P : Nat} {cv : AV} {b : Str} {o en : Nat} {h : Hp} {v n : Nat} (k : RdOK P cv b o en 0 h) (hx : rdV (rest b o en) = .ok v n) :
  CallL Tryz.prog F_decode_number [.int .u8 5, .ptr P 0 0] h fun r h' => r = .ret (.agg [.int .u64 (narI v), .str [], .nils]) ∧ Gr (h.set P (.row TR [RdC cv (o + n : Nat) en 0 0])) h' := by
 refine K_decode_number (md := false) ?_
 refine ⟨rfl, rfl, fun B hB => ?_⟩
 have g1 := (Gr.refl h).set hB.1 (.row TV [[.int .u64 0, .str [], .nils]])
 have hPB : P ≠ B := ne_of_u (Hp.used k.row) hB.1
 refine (own5_L _).mono ?_
 rintro r h' ⟨rfl, rfl⟩
 refine s_eq (fun h1 => absurd h1 (by decide)) (fun _ => ?_)
 refine s_eq (fun h1 => absurd h1 (by decide)) (fun _ => ?_)
 refine ((k.gr g1).varint).mono ?_
 rintro r h2 hq
 unfold VarQ at hq
 rw [hx] at hq
 obtain ⟨rfl, rfl⟩ := hq
 refine (Narrow5_L v _).mono ?_
 rintro r h3 ⟨rfl, rfl⟩
 refine (dright_L (Hp.set_same _ _ _)).mono ?_
 rintro r h4 ⟨rfl, rfl⟩
 refine ⟨_, val_lay rfl, ?_⟩
 have hB' : ((h.set B (.row TV [[.int .u64 0, .str [], .nils]])).set P (.row TR [RdC cv (o + n : Nat) en 0 0])) B = some (.row TV [[.int .u64 0, .str [], .nils]]) := (Hp.set_ne hPB.symm).trans (Hp.set_same _ _ _)
 refine ⟨_, _, _, hB', rfl, rfl, rfl, rfl, by show 3 ≤ 3; decide, ?_⟩
 refine ⟨rfl, ?_⟩
 refine ⟨_, _, _, Hp.set_same _ _ _, rfl, by show 3 ≤ 3; decide, ?_⟩
 have gp := Gr.put g1 (Hp.used k.row) (.row TR [RdC cv (o + n : Nat) en 0 0])
 have hBn : (h.set P (.row TR [RdC cv (o + n : Nat) en 0 0])).u B = false := by rw [Hp.set_u, if_neg hPB.symm]; exact hB.1
 exact ⟨rfl, gp.set hBn _⟩
theorem Part_L {R : Nat} {cv : AV} {b : Str} {o en : Nat} {h : Hp} {v n : Nat} (k : RdOK R cv b o en 0 h) (hx : spanR (rest b o en) = .ok v n) :
  CallL Tryz.prog F_wire_Reader_Part [.ptr R 0 0] h fun r h' => ∃ P, r = .ret (.ptr P 0 0) ∧ h.u P = false ∧ h' = (h.set R (.row TR [RdC cv (o + n : Nat) en 0 0])).set P (.row TR [RdC cv (o + v : Nat) (o + n : Nat) 0 0]) := by
 refine K_wire_Reader_Part (md := false) ?_
 refine (span_L k).mono ?_
 rintro r h' hq
 rw [hx] at hq
 obtain ⟨rfl, rfl⟩ := hq
 refine ⟨_, rfl, _, rfl, _, rfl, ?_⟩
 refine ⟨_, _, _, _, Hp.set_same _ _ _, rfl, rfl, ?_⟩
 have ho := OwnX.one k.own
 have hlay : ∀ (e : Env) (x y z : AOpd), ev e x = cv → ev e y = .int .i64 (o + v : Nat) → ev e z = .int .i64 (o + n : Nat) → lay e [.nils, .int .i64 0, .int .i64 0, .int .i64 0, .int .i64 0] [(0, 1, x), (1, 1, y), (2, 1, z)] = some (RdC cv (o + v : Nat) (o + n : Nat) 0 0) := by
  intro e x y z hx hy hz
  rw [lay, hx, ho.1, ho.2.1]
  simp only [List.length_cons, List.length_nil, Nat.reduceAdd, Bool.true_and, Nat.beq_eq, Nat.ble_eq]
  show lay e _ _ = _
  rw [lay, hy]
  show lay e _ _ = _
  rw [lay, hz]
  rfl
 refine ⟨_, hlay _ _ _ _ rfl rfl rfl, ?_⟩
 refine ⟨rfl, rfl, fun P hP => ?_⟩
 have hPu := hP.1
 rw [Hp.set_u] at hPu
 split at hPu
 ·cases hPu
 ·exact ⟨rfl, P, rfl, hPu, rfl⟩
theorem dpart_L {R : Nat} {cv : AV} {b : Str} {o en : Nat} {h : Hp} {v n : Nat} (k : RdOK R cv b o en 0 h) (hx : spanR (rest b o en) = .ok v n) :
  CallL Tryz.prog F_decode_part [.ptr R 0 0] h fun r h' => ∃ P, r = .ret (.ptr P 0 0) ∧ h.u P = false ∧ h' = (h.set R (.row TR [RdC cv (o + n : Nat) en 0 0])).set P (.row TR [RdC cv (o + v : Nat) (o + n : Nat) 0 0]) := by
 refine K_decode_part (md := false) ?_
 refine (Part_L k hx).mono ?_
 rintro r h' ⟨P, rfl, hP, rfl⟩
 have hRP : R ≠ P := ne_of_u (Hp.used k.row) hP
 refine (dright_L ((Hp.set_ne hRP).trans (Hp.set_same _ _ _))).mono ?_
 rintro r h' ⟨rfl, rfl⟩
 exact ⟨rfl, P, rfl, hP, rfl⟩
end Go.Proofs.YtgjjbfhamlecoacGreatDoor

namespace Go.Proofs.YtgjjbfhamlecoacGreatDoor
open Go.L
theorem key2_like (v : AV) : KeysLike (.int .i32 2) [((.int .i32 2 : AV), v, 0)] := fun x hx => by
 rw [List.mem_singleton.1 hx]; rfl
theorem fld_lay {AM : Nat} {e : Env} {x y : AOpd} (hx : ev e x = .agg rowR) (hy : ev e y = .map AM) : lay e [.int .i32 0, .str [], .str [], .int .u8 0, .int .u8 0, .int .u8 0, .bool false, .int .i64 0, .str [], .nils, .nils, .nilm] [(0, 9, x), (11, 1, y)] = some (fldC .nils AM) := by
 rw [lay, hx]
 show lay e _ _ = _
 rw [lay, hy]
 rfl
theorem field_L {h0 h : Hp} {Tt N FM R : Nat} {cv : AV} {b : Str} {o : Nat} {ep : Option (Nat × List AV)} {fs : Option (Nat × AV)} {xs : List Nat} (k : Rec1 h0 Tt N FM R cv b ep fs o xs h) :
  CallL Tryz.prog F_decode_node_field [.ptr N 0 0, .agg rowR] h fun r h' => ∃ F v, r = .ret (.ptr F 0 0) ∧ Rec1 h0 Tt N FM R cv b ep (some (F, v)) o xs h' ∧ GrX FM h h' := by
 refine K_decode_node_field (md := false) ?_
 refine ⟨rfl, rfl, fun B hB => ?_⟩
 have g1 := (Gr.refl h).set hB.1 (.row TRow [rowR])
 have x1 : GrX FM h (h.set B (.row TRow [rowR])) := (GrX.refl FM h).new hB.1 _
 have k1 := k.gr g1
 refine ⟨_, _, _, _, k1.nd, rfl, rfl, ?_⟩
 refine ⟨_, _, _, _, Hp.set_same _ _ _, rfl, rfl, ?_⟩
 cases fs with
 | none =>
  have hFM := (k1.f0 rfl).1
  obtain rfl := (k1.f0 rfl).2
  refine ⟨_, _, hFM, rfl, fun x hx => (by cases hx), fun r hr => ?_⟩
  obtain rfl : r = none := hr
  refine ⟨_, _, _, Hp.set_same _ _ _, rfl, by show 9 ≤ 9; decide, ?_⟩
  intro AM hAM
  have g2 := (Gr.refl _).set hAM.1 (.map [] 0)
  have hBA : B ≠ AM := ne_of_u (by rw [Hp.set_u]; simp) hAM.1
  refine ⟨_, fld_lay rfl rfl, ?_⟩
  refine ⟨rfl, rfl, fun F hF => ?_⟩
  have hFu := g2.new hF.1
  have g3 := g2.set hFu (.row TF [fldC .nils AM])
  have k3 := k1.gr g3
  have hBF : B ≠ F := ne_of_u (by rw [Hp.set_u, Hp.set_u]; simp) hF.1
  refine ⟨_, _, _, _, k3.nd, rfl, rfl, ?_⟩
  refine ⟨_, _, _, _, (Hp.set_ne hBF).trans ((Hp.set_ne hBA).trans (Hp.set_same h B (.row TRow [rowR]))), rfl, rfl, ?_⟩
  refine ⟨_, _, (k3.f0 rfl).1, rfl, fun x hx => (by cases hx), fun r hr => ?_⟩
  obtain rfl : r = none := hr
  have hF0 : h0.u F = false := (k.g.trans g1).new hFu
  have x3 : GrX FM h _ := ((x1.new hAM.1 (.map [] 0)).new hF.1 (.row TF [fldC .nils AM])).set (.map [(.int .i32 2, .ptr F 0 0, 0)] 1)
  exact ⟨rfl, F, .nils, rfl, k3.mkF (Hp.set_same _ _ _) hF0, x3⟩
 | some q =>
  obtain ⟨F, v⟩ := q
  have hFM := (k1.f1 F v rfl).1
  refine ⟨_, _, hFM, rfl, key2_like _, fun r hr => ?_⟩
  obtain rfl : r = some (.ptr F 0 0) := hr
  exact ⟨rfl, F, v, rfl, k1, x1⟩
theorem GrX.blk {i : Nat} {h h' : Hp} (g : GrX i h h') {x : Nat} {b : Blk} (hx : h x = some b) (hn : x ≠ i) : h' x = some b := (g.m x (Hp.used hx) hn).trans hx
theorem one_L {h0 h : Hp} {D Tt N FM R : Nat} {cv : AV} {b : Str} {o n v : Nat} {fs : Option (Nat × AV)} {xs : List Nat} {deep at_ : Int} (k : Rec1 h0 Tt N FM R cv b none fs o xs h) (hx : rdV (b.drop o) = .ok v n) (hxs : xs.length ≤ 100000000) :
  CallL Tryz.prog F_decode_decoder_one [.ptr D 0 0, .ptr N 0 0, .agg rowR, .ptr R 0 0, .int .i64 deep, .int .i64 at_] h fun r h' => r = .ret (.tup []) ∧ ∃ F v', Rec1 h0 Tt N FM R cv b none (some (F, v')) (o + n) (xs ++ [v]) h' := by
 have hn := rdV_ok hx
 rw [List.length_drop] at hn
 refine K_decode_decoder_one (md := false) ?_
 refine ⟨rfl, rfl, fun B8 hB8 => ?_⟩
 have g1 := (Gr.refl h).set hB8.1 (.row TRow [rowR])
 refine ⟨rfl, rfl, fun B12 hB12 => ?_⟩
 have g2 := g1.set (g1.new hB12.1) (.row TI [[.int .u64 0, .str [], .nils, .nilp]])
 have h812 : B8 ≠ B12 := ne_of_u (by rw [Hp.set_u]; simp) hB12.1
 have hb8 : ∀ b', ((h.set B8 (.row TRow [rowR])).set B12 b').m B8 = some (.row TRow [rowR]) := fun b' => (Hp.set_ne h812).trans (Hp.set_same _ _ _)
 refine ⟨_, _, _, _, hb8 _, rfl, rfl, ?_⟩
 refine s_eq (fun h1 => absurd h1 (by decide)) (fun _ => ?_)
 refine ⟨_, _, _, _, hb8 _, rfl, rfl, ?_⟩
 have k2 := k.gr g2
 refine CallL.mono (Q := fun r h' => r = .ret (.agg [.int .u64 (narI v), .str [], .nils]) ∧ Gr (((h.set B8 (.row TRow [rowR])).set B12 (.row TI [[.int .u64 0, .str [], .nils, .nilp]])).set R (.row TR [RdC cv (o + n : Nat) b.length 0 0])) h') ?_ ?_
 ·refine K_decode_plain (md := false) ?_
  refine ⟨rfl, rfl, fun B4 hB4 => ?_⟩
  have g4 := (Gr.refl _).set hB4.1 (.row TV [[.int .u64 0, .str [], .nils]])
  refine s_eq (fun h1 => absurd h1 (by decide)) (fun _ => ?_)
  refine s_eq (fun h1 => absurd h1 (by decide)) (fun _ => ?_)
  refine (number5_L (k2.gr g4).rd (by rw [rest_all]; exact hx)).mono ?_
  rintro r h5 ⟨rfl, g5⟩
  have hR4 : R ≠ B4 := ne_of_u (Hp.used k2.rd.row) hB4.1
  have hb4 := g5.blk ((Hp.set_ne hR4.symm).trans (Hp.set_same ((h.set B8 (.row TRow [rowR])).set B12 (.row TI [[.int .u64 0, .str [], .nils, .nilp]])) B4 (.row TV [[.int .u64 0, .str [], .nils]])))
  refine ⟨_, _, _, hb4, rfl, rfl, rfl, rfl, by show 3 ≤ 3; decide, ?_⟩
  refine ⟨rfl, ?_⟩
  refine ⟨_, _, _, Hp.set_same _ _ _, rfl, by show 3 ≤ 3; decide, ?_⟩
  have gp := (Gr.put g4 (Hp.used k2.rd.row) (.row TR [RdC cv (o + n : Nat) b.length 0 0])).trans g5
  have hBn : (((h.set B8 (.row TRow [rowR])).set B12 (.row TI [[.int .u64 0, .str [], .nils, .nilp]])).set R (.row TR [RdC cv (o + n : Nat) b.length 0 0])).u B4 = false := by rw [Hp.set_u, if_neg hR4.symm]; exact hB4.1
  exact ⟨rfl, gp.set hBn _⟩
 rintro r h6 ⟨rfl, g6⟩
 have hR12 : R ≠ B12 := ne_of_u (g1.u _ (Hp.used k.rd.row)) hB12.1
 have hR8 : R ≠ B8 := ne_of_u (Hp.used k.rd.row) hB8.1
 have k3 := k2.read (o' := o + n) (by omega)
 have k6 := k3.gr g6
 have b12 := g6.blk ((Hp.set_ne hR12.symm).trans (Hp.set_same (h.set B8 (.row TRow [rowR])) B12 (.row TI [[.int .u64 0, .str [], .nils, .nilp]])))
 have b8 := g6.blk ((Hp.set_ne hR8.symm).trans (hb8 (.row TI [[.int .u64 0, .str [], .nils, .nilp]])))
 have n12 : h0.u B12 = false := (k.g.trans g1).new hB12.1
 refine ⟨_, _, _, b12, rfl, rfl, rfl, rfl, by show 3 ≤ 4; decide, ?_⟩
 have k7 : Rec1 h0 Tt N FM R cv b none fs (o + n) xs (h6.set B12 (.row TI [itC v])) := by
  obtain ⟨_, _, hFM⟩ := k6.fm
  refine k6.frame (k6.g.set n12 _) (Hp.set_ne (row_ne k6.nd b12 (by decide))) (Hp.set_ne (row_ne k6.rd.row b12 (by decide))) (Hp.set_ne (map_ne b12 hFM).symm) (fun B hB => ?_) (fun _ _ e => by cases e) fun F v' e => ?_
  ·obtain ⟨_, h⟩ := OwnX.blk k6.rd.own hB; exact Hp.set_ne (row_ne h b12 (by decide))
  ·obtain ⟨_, ⟨AM, q2⟩, _, q4⟩ := k.f1 F v' e
   obtain ⟨_, ⟨AM', q2'⟩, _, q4'⟩ := k6.f1 F v' e
   refine ⟨Hp.set_ne (row_ne q2' b12 (by decide)), fun B hB => Hp.set_ne ?_⟩
   exact ne_of_u (g1.u _ (AccE.used q4 hB).2) hB12.1
 have b8' : (h6.set B12 (.row TI [itC v])) B8 = some (.row TRow [rowR]) := (Hp.set_ne h812).trans b8
 refine ⟨_, _, _, _, b8', rfl, rfl, ?_⟩
 refine s_ne (fun h1 => absurd rfl h1) (fun _ => ?_)
 refine ⟨_, _, _, b8', rfl, by show 9 ≤ 9; decide, ?_⟩
 obtain ⟨_, _, hFM7⟩ := k7.fm
 have b12' : (h6.set B12 (.row TI [itC v])) B12 = some (.row TI [itC v]) := Hp.set_same _ _ _
 have m8 : B8 ≠ FM := map_ne b8' hFM7
 have m12 : B12 ≠ FM := map_ne b12' hFM7
 refine (field_L k7).mono ?_
 rintro r h9 ⟨F, v', rfl, k9, x9⟩
 have c8 := GrX.blk x9 b8' m8
 have c12 := GrX.blk x9 b12' m12
 obtain ⟨hFM9, ⟨AM, hF9⟩, hnF, hacc⟩ := k9.f1 F v' rfl
 refine ⟨_, _, _, _, c8, rfl, rfl, ?_⟩
 refine s_ne (fun h1 => absurd rfl h1) (fun _ => ?_)
 refine ⟨_, _, _, _, hF9, rfl, rfl, ?_⟩
 refine ⟨_, _, _, c12, rfl, by show 4 ≤ 4; decide, ?_⟩
 refine ⟨_, rfl, fun tb htb => ?_⟩
 refine ⟨[itC v], ⟨_, _, Hp.set_same _ _ _, Nat.le_refl _, rfl⟩, ?_⟩
 have hil := items_len xs
 refine AccE.app (hacc.set htb.1 _) (fun cs hcs => by rw [List.mem_singleton.1 hcs]; rfl) (fun cs hcs => by rw [List.mem_singleton.1 hcs]; rfl) (by rw [hil, List.length_singleton]; unfold capMax; omega) (by rw [hil, List.length_singleton]; unfold capMax; omega) fun v2 H5 ha hf hu hb => ?_
 have gt := (Gr.refl h9).set htb.1 (.row TI [itC v])
 have k10 := k9.gr gt
 have hap : items xs ++ [itC v] = items (xs ++ [v]) := by simp
 rw [hap] at ha
 have kk := k10.push (AM := AM) ha hf hb
 have hFt := gt.blk hF9
 have hvF : blkOf v' ≠ some F := fun e => by obtain ⟨_, q⟩ := AccE.blk hacc e; exact row_ne q hF9 (by decide) rfl
 have hF5 := (hf F (Hp.used hFt) hvF).trans hFt
 have hone := AccE.one ha
 refine ⟨_, _, _, hF5, rfl, hone.1, by show v2.cells.length = 1; rw [hone.2.1]; rfl, by show flat v2.cells = true; rw [hone.2.1]; exact hone.2.2, by show 11 ≤ 12; decide, ?_⟩
 have hset : (Blk.row TF [(fldC v' AM).take 10 ++ v2.cells ++ (fldC v' AM).drop 11]) = .row TF [fldC v2 AM] := by rw [hone.2.1]; rfl
 refine ⟨rfl, rfl, F, v2, ?_⟩
 rw [← hset] at kk
 exact kk
end Go.Proofs.YtgjjbfhamlecoacGreatDoor
