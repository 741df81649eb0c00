/- Contracts of functions of the given program, in the logic L: texts put together; no conditions. -/
import Derived.Test.YtcpjeocepolecaaGreatDoorY3
import Derived.Test.YtcpjeocepolecaaGreatDoorProg
import Derived.KernelRfl
import Derived.Test.YtcpjeocepolecaaGreatDoorY4
/- The codes of functions as the logic L has them; each is what the logic makes of the given program (by the kernel). Printed by program (gen_codes.py). -/
namespace Go.Proofs.YtcpjeocepolecaaGreatDoor
open Go.L

-- cmp.isNaN[int32]
abbrev F_cmp_isNaN : Nat := 156
def A_cmp_isNaN_0 : List AOper := [mv 3 0, mv 4 0, o_ 5 (.bini .neq (.t 3) (.t 4)), mv 2 5]
def A_cmp_isNaN : ACode := (.seq (.ops [o_ 2 (.mov (.c (.bool false)))]) (.seq (.ops A_cmp_isNaN_0) .ret))
def R_cmp_isNaN : List ARes := [.tmp 2]
theorem C_cmp_isNaN : compF Tryz.prog Tryz.f156 = some (A_cmp_isNaN, R_cmp_isNaN) := by kernel_rfl
theorem K_cmp_isNaN {md : Bool} {args : List AV} {h : Hp} {Q : Res → Hp → Prop} (hl : LCode Tryz.prog md A_cmp_isNaN (EndQ R_cmp_isNaN Q) (env0 6 args) h) (hn : args.length ≤ 6 := by (simp; done)) : CallL Tryz.prog F_cmp_isNaN args h Q :=
  CallL.of (md := md) Tryz.func156 C_cmp_isNaN (by rw [Tryz.ntmps156]; exact hn) (by rw [Tryz.ntmps156]; exact hl)

-- cmp.Less[int32]
abbrev F_cmp_Less : Nat := 117
def A_cmp_Less_0 : List AOper := [mv 5 0, o_ 6 (.call 156 [(.t 5)]), mv 7 6, g_ 8 (.mov (.t 1)) 7, g_ 9 (.call 156 [(.t 8)]) 7, g_ 10 (.not (.t 9)) 7, o_ 11 (.pick (.t 7) (.t 10) (.c (.bool false))), mv 12 11, ⟨some 13, .mov (.t 0), some (12, false)⟩, ⟨some 14, .mov (.t 1), some (12, false)⟩, ⟨some 15, .bini .lss (.t 13) (.t 14), some (12, false)⟩, o_ 16 (.pick (.t 12) (.c (.bool true)) (.t 15)), mv 4 16]
def A_cmp_Less : ACode := (.seq (.ops [o_ 4 (.mov (.c (.bool false)))]) (.seq (.ops A_cmp_Less_0) .ret))
def R_cmp_Less : List ARes := [.tmp 4]
theorem C_cmp_Less : compF Tryz.prog Tryz.f117 = some (A_cmp_Less, R_cmp_Less) := by kernel_rfl
theorem K_cmp_Less {md : Bool} {args : List AV} {h : Hp} {Q : Res → Hp → Prop} (hl : LCode Tryz.prog md A_cmp_Less (EndQ R_cmp_Less Q) (env0 17 args) h) (hn : args.length ≤ 17 := by (simp; done)) : CallL Tryz.prog F_cmp_Less args h Q :=
  CallL.of (md := md) Tryz.func117 C_cmp_Less (by rw [Tryz.ntmps117]; exact hn) (by rw [Tryz.ntmps117]; exact hl)

-- slices.insertionSortOrdered[int32]
abbrev F_slices_insertionSortOrdered : Nat := 111
def A_slices_insertionSortOrdered_0 : List AOper := [mv 8 1, o_ 9 (.bini .add (.t 8) (i_ 1)), mv 6 9]
def A_slices_insertionSortOrdered_1 : List AOper := [mv 10 6, mv 11 2, o_ 12 (.bini .lss (.t 10) (.t 11))]
def A_slices_insertionSortOrdered_2 : List AOper := [mv 15 6, mv 7 15]
def A_slices_insertionSortOrdered_3 : List AOper := [mv 16 7, mv 17 1, o_ 18 (.bini .gtr (.t 16) (.t 17)), mv 19 18, g_ 20 (.mov (.t 0)) 19, g_ 21 (.mov (.t 7)) 19, g_ 22 (.iaddr 21 1 (.t 20) (.t 21)) 19, g_ 23 (.ld1 (.t 22)) 19, g_ 24 (.mov (.t 0)) 19, g_ 25 (.mov (.t 7)) 19, g_ 26 (.bini .sub (.t 25) (i_ 1)) 19, g_ 27 (.iaddr 21 1 (.t 24) (.t 26)) 19, g_ 28 (.ld1 (.t 27)) 19, g_ 29 (.call 117 [(.t 23), (.t 28)]) 19, o_ 30 (.pick (.t 19) (.t 29) (.c (.bool false)))]
def A_slices_insertionSortOrdered_4 : List AOper := [mv 33 0, mv 34 7, mv 35 0, mv 36 7, o_ 37 (.bini .sub (.t 36) (i_ 1)), mv 38 0, mv 39 7, o_ 40 (.bini .sub (.t 39) (i_ 1)), o_ 41 (.iaddr 21 1 (.t 38) (.t 40)), o_ 42 (.ld1 (.t 41)), mv 43 0, mv 44 7, o_ 45 (.iaddr 21 1 (.t 43) (.t 44)), o_ 46 (.ld1 (.t 45)), o_ 47 (.iaddr 21 1 (.t 33) (.t 34)), n_ (.st 1 (.t 47) (.t 42)), o_ 48 (.iaddr 21 1 (.t 35) (.t 37)), n_ (.st 1 (.t 48) (.t 46))]
def A_slices_insertionSortOrdered_5 : List AOper := [mv 31 7, o_ 32 (.bini .sub (.t 31) (i_ 1)), mv 7 32]
def A_slices_insertionSortOrdered_6 : ACode := (.seq (.seq (.alts [16, 17, 18, 19, 20, 21, 22, 23, 24, 25, 26, 27, 28, 29, 30] [A_slices_insertionSortOrdered_3]) (.cond (.t 30) .skip (.exit 2))) (.seq (.block 3 (.alts [33, 34, 35, 36, 37, 38, 39, 40, 41, 42, 43, 44, 45, 46, 47, 48] [A_slices_insertionSortOrdered_4])) (.ops A_slices_insertionSortOrdered_5)))
def A_slices_insertionSortOrdered_7 : List AOper := [mv 13 6, o_ 14 (.bini .add (.t 13) (i_ 1)), mv 6 14]
def A_slices_insertionSortOrdered_8 : ACode := (.seq (.seq (.ops A_slices_insertionSortOrdered_1) (.cond (.t 12) .skip (.exit 0))) (.seq (.block 1 (.seq (.ops A_slices_insertionSortOrdered_2) (.block 2 (.loop A_slices_insertionSortOrdered_6)))) (.ops A_slices_insertionSortOrdered_7)))
def A_slices_insertionSortOrdered : ACode := (.seq (.ops A_slices_insertionSortOrdered_0) (.block 0 (.loop A_slices_insertionSortOrdered_8)))
def R_slices_insertionSortOrdered : List ARes := []
theorem C_slices_insertionSortOrdered : compF Tryz.prog Tryz.f111 = some (A_slices_insertionSortOrdered, R_slices_insertionSortOrdered) := by kernel_rfl
theorem K_slices_insertionSortOrdered {md : Bool} {args : List AV} {h : Hp} {Q : Res → Hp → Prop} (hl : LCode Tryz.prog md A_slices_insertionSortOrdered (EndQ R_slices_insertionSortOrdered Q) (env0 49 args) h) (hn : args.length ≤ 49 := by (simp; done)) : CallL Tryz.prog F_slices_insertionSortOrdered args h Q :=
  CallL.of (md := md) Tryz.func111 C_slices_insertionSortOrdered (by rw [Tryz.ntmps111]; exact hn) (by rw [Tryz.ntmps111]; exact hl)

-- slices.pdqsortOrdered[int32]
abbrev F_slices_pdqsortOrdered : Nat := 80
def A_slices_pdqsortOrdered_0 : List AOper := [mv 19 2, mv 20 1, o_ 21 (.bini .sub (.t 19) (.t 20)), mv 10 21]
def A_slices_pdqsortOrdered_1 : List AOper := [mv 22 10, o_ 23 (.bini .leq (.t 22) (i_ 12))]
def A_slices_pdqsortOrdered_2 : List AOper := [mv 24 0, mv 25 1, mv 26 2, o_ 27 (.call 111 [(.t 24), (.t 25), (.t 26)])]
def A_slices_pdqsortOrdered_3 : List AOper := [mv 28 3, o_ 29 (.bini .eql (.t 28) (i_ 0))]
def A_slices_pdqsortOrdered_4 : List AOper := [mv 30 0, mv 31 1, mv 32 2, o_ 33 (.call 112 [(.t 30), (.t 31), (.t 32)])]
def A_slices_pdqsortOrdered_5 : List AOper := [mv 34 8, o_ 35 (.not (.t 34))]
def A_slices_pdqsortOrdered_6 : List AOper := [mv 36 0, mv 37 1, mv 38 2, o_ 39 (.call 113 [(.t 36), (.t 37), (.t 38)])]
def A_slices_pdqsortOrdered_7 : List AOper := [mv 40 3, o_ 41 (.bini .sub (.t 40) (i_ 1)), mv 3 41]
def A_slices_pdqsortOrdered_8 : List AOper := [mv 43 0, mv 44 1, mv 45 2, o_ 46 (.call 114 [(.t 43), (.t 44), (.t 45)]), mv 42 46, o_ 47 (.ext 0 (.t 42)), o_ 48 (.ext 1 (.t 42)), mv 11 47, mv 12 48]
def A_slices_pdqsortOrdered_9 : List AOper := [mv 49 12, o_ 50 (.bini .eql (.t 49) (i_ 2))]
def A_slices_pdqsortOrdered_10 : List AOper := [mv 51 0, mv 52 1, mv 53 2, o_ 54 (.call 115 [(.t 51), (.t 52), (.t 53)])]
def A_slices_pdqsortOrdered_11 : List AOper := [mv 55 2, o_ 56 (.bini .sub (.t 55) (i_ 1)), mv 57 11, mv 58 1, o_ 59 (.bini .sub (.t 57) (.t 58)), o_ 60 (.bini .sub (.t 56) (.t 59)), mv 11 60]
def A_slices_pdqsortOrdered_12 : List AOper := [mv 61 8, mv 62 61, g_ 63 (.mov (.t 9)) 62, o_ 64 (.pick (.t 62) (.t 63) (.c (.bool false))), mv 65 64, g_ 66 (.mov (.t 12)) 65, g_ 67 (.bini .eql (.t 66) (i_ 1)) 65, o_ 68 (.pick (.t 65) (.t 67) (.c (.bool false)))]
def A_slices_pdqsortOrdered_13 : List AOper := [mv 69 0, mv 70 1, mv 71 2, o_ 72 (.call 116 [(.t 69), (.t 70), (.t 71)])]
def A_slices_pdqsortOrdered_14 : List AOper := [mv 73 1, o_ 74 (.bini .gtr (.t 73) (i_ 0)), mv 75 74, g_ 76 (.mov (.t 0)) 75, g_ 77 (.mov (.t 1)) 75, g_ 78 (.bini .sub (.t 77) (i_ 1)) 75, g_ 79 (.iaddr 21 1 (.t 76) (.t 78)) 75, g_ 80 (.ld1 (.t 79)) 75, g_ 81 (.mov (.t 0)) 75, g_ 82 (.mov (.t 11)) 75, g_ 83 (.iaddr 21 1 (.t 81) (.t 82)) 75, g_ 84 (.ld1 (.t 83)) 75, g_ 85 (.call 117 [(.t 80), (.t 84)]) 75, g_ 86 (.not (.t 85)) 75, o_ 87 (.pick (.t 75) (.t 86) (.c (.bool false)))]
def A_slices_pdqsortOrdered_15 : List AOper := [mv 88 0, mv 89 1, mv 90 2, mv 91 11, o_ 92 (.call 118 [(.t 88), (.t 89), (.t 90), (.t 91)]), mv 13 92]
def A_slices_pdqsortOrdered_16 : List AOper := [mv 93 13, mv 1 93]
def A_slices_pdqsortOrdered_17 : List AOper := [mv 95 0, mv 96 1, mv 97 2, mv 98 11, o_ 99 (.call 119 [(.t 95), (.t 96), (.t 97), (.t 98)]), mv 94 99, o_ 100 (.ext 0 (.t 94)), o_ 101 (.ext 1 (.t 94)), mv 14 100, mv 15 101]
def A_slices_pdqsortOrdered_18 : List AOper := [mv 102 15, mv 9 102]
def A_slices_pdqsortOrdered_19 : List AOper := [mv 103 14, mv 104 1, o_ 105 (.bini .sub (.t 103) (.t 104)), mv 106 2, mv 107 14, o_ 108 (.bini .sub (.t 106) (.t 107)), mv 16 105, mv 17 108]
def A_slices_pdqsortOrdered_20 : List AOper := [mv 109 10, o_ 110 (.bini .quo (.t 109) (i_ 8)), mv 18 110]
def A_slices_pdqsortOrdered_21 : List AOper := [mv 111 16, mv 112 17, o_ 113 (.bini .lss (.t 111) (.t 112))]
def A_slices_pdqsortOrdered_22 : List AOper := [mv 114 16, mv 115 18, o_ 116 (.bini .geq (.t 114) (.t 115)), mv 8 116]
def A_slices_pdqsortOrdered_23 : List AOper := [mv 117 0, mv 118 1, mv 119 14, mv 120 3, o_ 121 (.call 80 [(.t 117), (.t 118), (.t 119), (.t 120)])]
def A_slices_pdqsortOrdered_24 : List AOper := [mv 122 14, o_ 123 (.bini .add (.t 122) (i_ 1)), mv 1 123]
def A_slices_pdqsortOrdered_25 : List AOper := [mv 124 17, mv 125 18, o_ 126 (.bini .geq (.t 124) (.t 125)), mv 8 126]
def A_slices_pdqsortOrdered_26 : List AOper := [mv 127 0, mv 128 14, o_ 129 (.bini .add (.t 128) (i_ 1)), mv 130 2, mv 131 3, o_ 132 (.call 80 [(.t 127), (.t 129), (.t 130), (.t 131)])]
def A_slices_pdqsortOrdered_27 : List AOper := [mv 133 14, mv 2 133]
def A_slices_pdqsortOrdered_28 : ACode := (.block 1 (.seq (.ops A_slices_pdqsortOrdered_0) (.seq (.seq (.ops A_slices_pdqsortOrdered_1) (.cond (.t 23) (.seq (.ops A_slices_pdqsortOrdered_2) .ret) .skip)) (.seq (.seq (.ops A_slices_pdqsortOrdered_3) (.cond (.t 29) (.seq (.ops A_slices_pdqsortOrdered_4) .ret) .skip)) (.seq (.seq (.ops A_slices_pdqsortOrdered_5) (.cond (.t 35) (.seq (.ops A_slices_pdqsortOrdered_6) (.ops A_slices_pdqsortOrdered_7)) .skip)) (.seq (.ops A_slices_pdqsortOrdered_8) (.seq (.seq (.ops A_slices_pdqsortOrdered_9) (.cond (.t 50) (.seq (.ops A_slices_pdqsortOrdered_10) (.seq (.ops A_slices_pdqsortOrdered_11) (.ops [o_ 12 (.mov (i_ 1))]))) .skip)) (.seq (.seq (.ops A_slices_pdqsortOrdered_12) (.cond (.t 68) (.seq (.ops A_slices_pdqsortOrdered_13) (.cond (.t 72) .ret .skip)) .skip)) (.seq (.seq (.alts [73, 74, 75, 76, 77, 78, 79, 80, 81, 82, 83, 84, 85, 86, 87] [A_slices_pdqsortOrdered_14]) (.cond (.t 87) (.seq (.ops A_slices_pdqsortOrdered_15) (.seq (.ops A_slices_pdqsortOrdered_16) (.exit 1))) .skip)) (.seq (.ops A_slices_pdqsortOrdered_17) (.seq (.ops A_slices_pdqsortOrdered_18) (.seq (.ops A_slices_pdqsortOrdered_19) (.seq (.ops A_slices_pdqsortOrdered_20) (.seq (.ops A_slices_pdqsortOrdered_21) (.cond (.t 113) (.seq (.ops A_slices_pdqsortOrdered_22) (.seq (.ops A_slices_pdqsortOrdered_23) (.ops A_slices_pdqsortOrdered_24))) (.seq (.ops A_slices_pdqsortOrdered_25) (.seq (.ops A_slices_pdqsortOrdered_26) (.ops A_slices_pdqsortOrdered_27))))))))))))))))))
def A_slices_pdqsortOrdered : ACode := (.seq (.ops [o_ 8 (.mov (.c (.bool true)))]) (.seq (.ops [o_ 9 (.mov (.c (.bool true)))]) (.block 0 (.loop A_slices_pdqsortOrdered_28))))
def R_slices_pdqsortOrdered : List ARes := []
theorem C_slices_pdqsortOrdered : compF Tryz.prog Tryz.f80 = some (A_slices_pdqsortOrdered, R_slices_pdqsortOrdered) := by kernel_rfl
theorem K_slices_pdqsortOrdered {md : Bool} {args : List AV} {h : Hp} {Q : Res → Hp → Prop} (hl : LCode Tryz.prog md A_slices_pdqsortOrdered (EndQ R_slices_pdqsortOrdered Q) (env0 134 args) h) (hn : args.length ≤ 134 := by (simp; done)) : CallL Tryz.prog F_slices_pdqsortOrdered args h Q :=
  CallL.of (md := md) Tryz.func80 C_slices_pdqsortOrdered (by rw [Tryz.ntmps80]; exact hn) (by rw [Tryz.ntmps80]; exact hl)

-- slices.Sort[[]int32,int32]
abbrev F_slices_Sort : Nat := 52
def A_slices_Sort_0 : List AOper := [mv 3 0, o_ 4 (.lenl (.t 3)), mv 2 4]
def A_slices_Sort_1 : List AOper := [mv 5 0, mv 6 2, mv 7 2, o_ 8 (.conv .u64 (.t 7)), o_ 9 (.call 78 [(.t 8)]), o_ 10 (.call 80 [(.t 5), (i_ 0), (.t 6), (.t 9)])]
def A_slices_Sort : ACode := (.seq (.ops A_slices_Sort_0) (.ops A_slices_Sort_1))
def R_slices_Sort : List ARes := []
theorem C_slices_Sort : compF Tryz.prog Tryz.f52 = some (A_slices_Sort, R_slices_Sort) := by kernel_rfl
theorem K_slices_Sort {md : Bool} {args : List AV} {h : Hp} {Q : Res → Hp → Prop} (hl : LCode Tryz.prog md A_slices_Sort (EndQ R_slices_Sort Q) (env0 11 args) h) (hn : args.length ≤ 11 := by (simp; done)) : CallL Tryz.prog F_slices_Sort args h Q :=
  CallL.of (md := md) Tryz.func52 C_slices_Sort (by rw [Tryz.ntmps52]; exact hn) (by rw [Tryz.ntmps52]; exact hl)

-- maps.Keys[map[int32]bool,int32,bool]$1
abbrev F_maps_Keys_c1 : Nat := 53
def A_maps_Keys_c1_0 : List AOper := [o_ 4 (.ld1 (.t 1)), o_ 5 (.rngm (.t 4))]
def A_maps_Keys_c1_1 : List AOper := [o_ 6 (.nxm (.t 5)), o_ 7 (.ext 0 (.t 6))]
def A_maps_Keys_c1_2 : List AOper := [o_ 8 (.entr (.t 5)), o_ 9 (.ext 0 (.t 8)), mv 3 9]
def A_maps_Keys_c1_3 : List AOper := [mv 10 0, mv 11 3, o_ 12 (.callv (.t 10) [(.t 11)]), o_ 13 (.not (.t 12))]
def A_maps_Keys_c1_4 : ACode := (.seq (.ops A_maps_Keys_c1_1) (.seq (.cond (.t 7) .skip (.exit 0)) (.block 1 (.seq (.ops A_maps_Keys_c1_2) (.seq (.ops A_maps_Keys_c1_3) (.cond (.t 13) .ret .skip))))))
def A_maps_Keys_c1 : ACode := (.seq (.ops A_maps_Keys_c1_0) (.block 0 (.loop A_maps_Keys_c1_4)))
def R_maps_Keys_c1 : List ARes := []
theorem C_maps_Keys_c1 : compF Tryz.prog Tryz.f53 = some (A_maps_Keys_c1, R_maps_Keys_c1) := by kernel_rfl
theorem K_maps_Keys_c1 {md : Bool} {args : List AV} {h : Hp} {Q : Res → Hp → Prop} (hl : LCode Tryz.prog md A_maps_Keys_c1 (EndQ R_maps_Keys_c1 Q) (env0 14 args) h) (hn : args.length ≤ 14 := by (simp; done)) : CallL Tryz.prog F_maps_Keys_c1 args h Q :=
  CallL.of (md := md) Tryz.func53 C_maps_Keys_c1 (by rw [Tryz.ntmps53]; exact hn) (by rw [Tryz.ntmps53]; exact hl)

-- slices.AppendSeq[[]int32,int32]
abbrev F_slices_AppendSeq : Nat := 79
def A_slices_AppendSeq_0 : List AOper := [o_ 2 (.box 104 1 (.t 0)), o_ 4 (.mov (.c (.nils)))]
def A_slices_AppendSeq_1 : List AOper := [o_ 8 (.ld1 (.t 2)), mv 9 5, o_ 10 (.bslice 21 1 1 [.int .i32 (0)] [(0, 1, (.t 9))]), o_ 11 (.app 21 1 4 (.t 8) (.t 10)), n_ (.st 1 (.t 2) (.t 11))]
def A_slices_AppendSeq_2 : List AOper := [o_ 12 (.ld1 (.t 2)), mv 4 12]
def A_slices_AppendSeq : ACode := (.seq (.ops A_slices_AppendSeq_0) (.seq (.seq (.ops [mv 6 1]) (.block 0 (.rngf (.t 6) [7] (.ops [mv 5 7]) (.block 1 (.ops A_slices_AppendSeq_1))))) (.seq (.ops A_slices_AppendSeq_2) .ret)))
def R_slices_AppendSeq : List ARes := [.tmp 4]
theorem C_slices_AppendSeq : compF Tryz.prog Tryz.f79 = some (A_slices_AppendSeq, R_slices_AppendSeq) := by kernel_rfl
theorem K_slices_AppendSeq {md : Bool} {args : List AV} {h : Hp} {Q : Res → Hp → Prop} (hl : LCode Tryz.prog md A_slices_AppendSeq (EndQ R_slices_AppendSeq Q) (env0 13 args) h) (hn : args.length ≤ 13 := by (simp; done)) : CallL Tryz.prog F_slices_AppendSeq args h Q :=
  CallL.of (md := md) Tryz.func79 C_slices_AppendSeq (by rw [Tryz.ntmps79]; exact hn) (by rw [Tryz.ntmps79]; exact hl)

-- slices.Collect[int32]
abbrev F_slices_Collect : Nat := 51
def A_slices_Collect_0 : List AOper := [mv 3 0, o_ 4 (.call 79 [(.c (.nils)), (.t 3)]), mv 2 4]
def A_slices_Collect : ACode := (.seq (.ops [o_ 2 (.mov (.c (.nils)))]) (.seq (.ops A_slices_Collect_0) .ret))
def R_slices_Collect : List ARes := [.tmp 2]
theorem C_slices_Collect : compF Tryz.prog Tryz.f51 = some (A_slices_Collect, R_slices_Collect) := by kernel_rfl
theorem K_slices_Collect {md : Bool} {args : List AV} {h : Hp} {Q : Res → Hp → Prop} (hl : LCode Tryz.prog md A_slices_Collect (EndQ R_slices_Collect Q) (env0 5 args) h) (hn : args.length ≤ 5 := by (simp; done)) : CallL Tryz.prog F_slices_Collect args h Q :=
  CallL.of (md := md) Tryz.func51 C_slices_Collect (by rw [Tryz.ntmps51]; exact hn) (by rw [Tryz.ntmps51]; exact hl)

-- slices.Sorted[int32]
abbrev F_slices_Sorted : Nat := 30
def A_slices_Sorted_0 : List AOper := [mv 4 0, o_ 5 (.call 51 [(.t 4)]), mv 3 5]
def A_slices_Sorted_1 : List AOper := [mv 6 3, o_ 7 (.call 52 [(.t 6)])]
def A_slices_Sorted_2 : List AOper := [mv 8 3, mv 2 8]
def A_slices_Sorted : ACode := (.seq (.ops [o_ 2 (.mov (.c (.nils)))]) (.seq (.ops A_slices_Sorted_0) (.seq (.ops A_slices_Sorted_1) (.seq (.ops A_slices_Sorted_2) .ret))))
def R_slices_Sorted : List ARes := [.tmp 2]
theorem C_slices_Sorted : compF Tryz.prog Tryz.f30 = some (A_slices_Sorted, R_slices_Sorted) := by kernel_rfl
theorem K_slices_Sorted {md : Bool} {args : List AV} {h : Hp} {Q : Res → Hp → Prop} (hl : LCode Tryz.prog md A_slices_Sorted (EndQ R_slices_Sorted Q) (env0 9 args) h) (hn : args.length ≤ 9 := by (simp; done)) : CallL Tryz.prog F_slices_Sorted args h Q :=
  CallL.of (md := md) Tryz.func30 C_slices_Sorted (by rw [Tryz.ntmps30]; exact hn) (by rw [Tryz.ntmps30]; exact hl)
end Go.Proofs.YtcpjeocepolecaaGreatDoor

/-
  Contracts: slices.Sorted of a map's keys that are int32: not more than twelve.
-/
namespace Go.Proofs.YtcpjeocepolecaaGreatDoor
open Go.L

def el (z : Int) : List AV := [.int .i32 z]
def rwI (zs : List Int) : Blk := .row 21 (zs.map el)

theorem isNaN_L (n : Int) : PureL Tryz.prog F_cmp_isNaN [.int .i32 n] (.bool false) := by
  intro h
  refine K_cmp_isNaN (md := false) ?_
  intro t ht
  exact ⟨rfl, Res.bool_eq (by rw [ht]; simp), rfl⟩

theorem Less_L (a b : Int) : PureL Tryz.prog F_cmp_Less [.int .i32 a, .int .i32 b] (.bool (decide (a < b))) := by
  intro h
  refine K_cmp_Less (md := false) ?_
  refine (isNaN_L _).useB fun t ht => ?_
  subst ht
  intro t ht
  exact ⟨rfl, Res.bool_eq ht, rfl⟩

/-- Sorted, but for the one at j. -/
def But (j k : Nat) (ys : List Int) : Prop := ∀ (p q : Nat) (x y : Int), p < q → q ≤ k → q ≠ j → ys[p]? = some x → ys[q]? = some y → x ≤ y
def SortedTo (k : Nat) (ys : List Int) : Prop := ∀ (p q : Nat) (x y : Int), p < q → q < k → ys[p]? = some x → ys[q]? = some y → x ≤ y

theorem two_at {ys : List Int} {j : Nat} (h1 : 0 < j) (h2 : j < ys.length) : ∃ l a b r, ys = l ++ a :: b :: r ∧ l.length + 1 = j := by
  refine ⟨ys.take (j - 1), ys[j - 1], ys[j], ys.drop (j + 1), ?_, by simp; omega⟩
  have e1 : ys.drop (j - 1) = ys[j - 1] :: ys.drop j := by
    have := List.drop_eq_getElem_cons (l := ys) (i := j - 1) (by omega)
    rw [show j - 1 + 1 = j by omega] at this; exact this
  have e2 : ys.drop j = ys[j] :: ys.drop (j + 1) := List.drop_eq_getElem_cons h2
  rw [← e2, ← e1, List.take_append_drop]

theorem But.step {l r : List Int} {a b : Int} {k : Nat} (hb : But (l.length + 1) k (l ++ a :: b :: r)) (hk : l.length + 1 ≤ k) (hab : b < a) : But l.length k (l ++ b :: a :: r) := by
  have g1 : ∀ (c d : Int), (l ++ c :: d :: r)[l.length]? = some c := fun c d => by simp
  have g2 : ∀ (c d : Int), (l ++ c :: d :: r)[l.length + 1]? = some d := fun c d => by
    rw [List.getElem?_append_right (by omega)]; simp
  have g3 : ∀ (p : Nat), p ≠ l.length → p ≠ l.length + 1 → (l ++ b :: a :: r)[p]? = (l ++ a :: b :: r)[p]? := fun p h1 h2 => by
    rcases Nat.lt_or_ge p l.length with h | h
    · rw [List.getElem?_append_left h, List.getElem?_append_left h]
    · rw [List.getElem?_append_right h, List.getElem?_append_right h]
      obtain ⟨n, hn⟩ : ∃ n, p - l.length = n + 2 := ⟨p - l.length - 2, by omega⟩
      rw [hn]; simp
  intro p q x y hpq hq hne hx hy
  by_cases q1 : q = l.length + 1
  · subst q1
    rw [g2] at hy; cases hy
    by_cases p1 : p = l.length
    · subst p1; rw [g1] at hx; cases hx; omega
    · rw [g3 p p1 (by omega)] at hx
      exact hb p l.length x a (by omega) (by omega) (by omega) hx (g1 a b)
  · rw [g3 q hne q1] at hy
    by_cases p1 : p = l.length
    · subst p1; rw [g1] at hx; cases hx
      exact hb (l.length + 1) q _ y (by omega) hq q1 (g2 a b) hy
    · by_cases p2 : p = l.length + 1
      · subst p2; rw [g2] at hx; cases hx
        exact hb l.length q _ y (by omega) hq q1 (g1 a b) hy
      · rw [g3 p p1 p2] at hx
        exact hb p q x y hpq hq q1 hx hy

theorem But.done {l r : List Int} {a b : Int} {k : Nat} (hb : But (l.length + 1) k (l ++ a :: b :: r)) (hk : l.length + 1 ≤ k) (hab : ¬ b < a) : SortedTo (k + 1) (l ++ a :: b :: r) := by
  intro p q x y hpq hq hx hy
  by_cases q1 : q = l.length + 1
  · subst q1
    have hy' : y = b := by
      rw [List.getElem?_append_right (by omega)] at hy; simp at hy; exact hy.symm
    subst hy'
    have ga : (l ++ a :: y :: r)[l.length]? = some a := by simp
    by_cases p1 : p = l.length
    · subst p1; rw [ga] at hx; cases hx; omega
    · have := hb p l.length x a (by omega) (by omega) (by omega) hx ga
      omega
  · exact hb p q x y hpq (by omega) q1 hx hy

set_option maxHeartbeats 1000000 in
theorem insertionSort_L (h : Hp) (i : Nat) (c : Option Nat) (zs : List Int) (hz : zs ≠ []) (hlen : zs.length ≤ 1000) (hi : h i = some (rwI zs)) (n : Int) (hn : n = zs.length) :
    CallL Tryz.prog F_slices_insertionSortOrdered [.slc i 0 zs.length c, .int .i64 0, .int .i64 n] h fun r h' => r = .ret (.tup []) ∧ ∃ ys, ys.Perm zs ∧ SortedTo zs.length ys ∧ h' = h.set i (rwI ys) := by
  have hz1 : 0 < zs.length := List.length_pos_iff.2 hz
  refine K_slices_insertionSortOrdered (md := false) ?_
  intro m hm
  obtain rfl : m = (1 : Nat) := by rw [hm]; rfl
  refine ⟨fun n' e h' => ∃ (k : Nat) (ys : List Int), n' = zs.length - k ∧ 1 ≤ k ∧ k ≤ zs.length ∧ ys.Perm zs ∧ SortedTo k ys ∧ h' = h.set i (rwI ys) ∧ e.ds = [] ∧
      Has e [(0, .slc i 0 zs.length c), (1, .int .i64 0), (2, .int .i64 n), (6, .int .i64 k)], ⟨_, 1, zs, rfl, Nat.le_refl _, hz1, .refl _, fun p q x y hpq hq => by omega, ?_, rfl, rfl, rfl, rfl, rfl, trivial⟩, ?_⟩
  · refine Hp.ext (fun x => ?_) (fun x => ?_)
    · by_cases e : x = i
      · subst e; rw [Hp.set_same, hi]
      · rw [Hp.set_ne e]
    · rw [Hp.set_u]; split
      · rename_i e; subst e
        cases hu : h.u x with
        | true => rfl
        | false => rw [h.ok x hu] at hi; cases hi
      · rfl
  rintro n' e h' ⟨k, ys, rfl, hk1, hk2, hp, hs, rfl, hd, hh⟩
  obtain ⟨n0, g, rfl⟩ := hh.out hd
  clear hh hd
  have hyl : ys.length = zs.length := hp.length_eq
  intro t ht
  cases t
  case false =>
    have hk : k = zs.length := by have := of_decide_eq_false ht.symm; omega
    exact ⟨rfl, rfl, ys, hp, by rw [← hk]; exact hs, rfl⟩
  have hk : k < zs.length := by have := of_decide_eq_true ht.symm; omega
  clear ht
  -- the inner loop
  refine ⟨fun n' e h' => ∃ (j : Nat) (ys : List Int), n' = j ∧ j ≤ k ∧ ys.Perm zs ∧ But j k ys ∧ h' = h.set i (rwI ys) ∧ e.ds = [] ∧
      Has e [(0, .slc i 0 zs.length c), (1, .int .i64 0), (2, .int .i64 n), (6, .int .i64 k), (7, .int .i64 j)], ⟨_, k, ys, rfl, Nat.le_refl _, hp, fun p q x y hpq hq hne => hs p q x y hpq (by omega), rfl, rfl, rfl, rfl, rfl, rfl, rfl, trivial⟩, ?_⟩
  clear hp hs hyl
  rintro n' e h' ⟨j, ys, hn', hj, hp, hb, rfl, hd, hh⟩
  obtain ⟨n1, g1, rfl⟩ := hh.out hd
  clear hh hd
  have hyl : ys.length = zs.length := hp.length_eq
  -- behind the inner loop
  have fin : SortedTo (k + 1) ys → ∀ m : Int, m = IntKind.i64.wrap (k + 1) → ∃ q, q < zs.length - k ∧ ∃ (k' : Nat) (ys' : List Int), q = zs.length - k' ∧ 1 ≤ k' ∧ k' ≤ zs.length ∧ ys'.Perm zs ∧ SortedTo k' ys' ∧ h.set i (rwI ys) = h.set i (rwI ys') ∧ m = k' := fun hs m hm =>
    ⟨_, by omega, k + 1, ys, rfl, by omega, by omega, hp, hs, rfl, by rw [hm, wrap_i64 (by omega) (by omega)]; rfl⟩
  intro t ht
  cases t
  case false =>
    have hj0 : j = 0 := by have := of_decide_eq_false ht.symm; omega
    subst hj0
    intro m hm
    obtain ⟨q, q1, k', ys', q2, q3, q4, q5, q6, q7, rfl⟩ := fin (fun p q x y hpq hq => hb p q x y hpq (by omega) (by omega)) m hm
    exact ⟨q, q1, k', ys', q2, q3, q4, q5, q6, q7, rfl, rfl, rfl, rfl, rfl, trivial⟩
  have hj0 : 0 < j := by have := of_decide_eq_true ht.symm; omega
  clear ht
  obtain ⟨l, a, b, r, rfl, hl⟩ := two_at (ys := ys) hj0 (by omega)
  have ga : ((l ++ a :: b :: r).map el)[0 + l.length]? = some (el a) := by rw [Nat.zero_add]; simp
  have gb : ((l ++ a :: b :: r).map el)[0 + j]? = some (el b) := by
    rw [Nat.zero_add, ← hl, List.getElem?_map, List.getElem?_append_right (by omega)]; simp
  have hset : (h.set i (rwI (l ++ a :: b :: r))).m i = some (rwI (l ++ a :: b :: r)) := Hp.set_same _ _ _
  have hjw : IntKind.i64.wrap ((j : Int) - 1) = (l.length : Nat) := by rw [wrap_i64 (by omega) (by omega)]; omega
  refine ⟨j, rfl, by omega, ⟨_, hset⟩, ?_⟩
  refine ⟨21, _, _, _, hset, gb, rfl, ?_⟩
  intro m hm
  obtain rfl : m = (l.length : Nat) := hm.trans hjw
  refine ⟨l.length, rfl, by omega, ⟨_, hset⟩, ?_⟩
  refine ⟨21, _, _, _, hset, ga, rfl, ?_⟩
  refine (Less_L _ _).useB fun t ht => ?_
  cases t
  case false =>
    intro m hm
    obtain ⟨q, q1, k', ys', q2, q3, q4, q5, q6, q7, rfl⟩ := fin (But.done (l := l) (r := r) (a := a) (b := b) (k := k) (by rw [hl]; exact hb) (by omega) (of_decide_eq_false ht.symm)) m hm
    exact ⟨q, q1, k', ys', q2, q3, q4, q5, q6, q7, rfl, rfl, rfl, rfl, rfl, trivial⟩
  have hba := of_decide_eq_true ht.symm
  clear ht
  -- the two change places
  intro m hm
  obtain rfl : m = (l.length : Nat) := hm.trans hjw
  intro m hm
  obtain rfl : m = (l.length : Nat) := hm.trans hjw
  refine ⟨l.length, rfl, by omega, ⟨_, hset⟩, ?_⟩
  refine ⟨21, _, _, _, hset, ga, rfl, ?_⟩
  refine ⟨j, rfl, by omega, ⟨_, hset⟩, ?_⟩
  refine ⟨21, _, _, _, hset, gb, rfl, ?_⟩
  refine ⟨j, rfl, by omega, ⟨_, hset⟩, ?_⟩
  refine ⟨21, _, _, hset, gb, rfl, rfl, rfl, Nat.le_refl _, ?_⟩
  refine ⟨l.length, rfl, by omega, ⟨_, Hp.set_same _ _ _⟩, ?_⟩
  have ga' : (((l ++ a :: b :: r).map el).set (0 + j) (el a))[0 + l.length]? = some (el a) := by
    rw [List.getElem?_set, if_neg (by omega)]; exact ga
  refine ⟨21, _, _, Hp.set_same _ _ _, ga', rfl, rfl, rfl, Nat.le_refl _, ?_⟩
  intro m hm
  obtain rfl : m = (l.length : Nat) := hm.trans hjw
  have hE : (((l ++ a :: b :: r).map el).set (0 + j) (el a)).set (0 + l.length) (el b) = (l ++ b :: a :: r).map el := by
    have e1 : 0 + j = l.length + 1 := by omega
    rw [e1, Nat.zero_add]
    simp [List.set_append]
  refine ⟨l.length, by omega, l.length, l ++ b :: a :: r, rfl, by omega, ?_, But.step (by rw [hl]; exact hb) (by omega) hba, ?_, rfl, rfl, rfl, rfl, rfl, rfl, trivial⟩
  · exact (List.Perm.append_left l (List.Perm.swap a b r)).trans hp
  · rw [Hp.set_set, Hp.set_set]
    exact congrArg (fun x => h.set i (.row 21 x)) hE

theorem pdq_L (h : Hp) (i : Nat) (c : Option Nat) (zs : List Int) (hz : zs ≠ []) (hlen : zs.length ≤ 12) (hi : h i = some (rwI zs)) (n : Int) (hn : n = zs.length) (q : Int) :
    CallL Tryz.prog F_slices_pdqsortOrdered [.slc i 0 zs.length c, .int .i64 0, .int .i64 n, .int .i64 q] h fun r h' => r = .ret (.tup []) ∧ ∃ ys, ys.Perm zs ∧ SortedTo zs.length ys ∧ h' = h.set i (rwI ys) := by
  refine K_slices_pdqsortOrdered (md := false) ?_
  refine ⟨fun _ e h' => h' = h ∧ e.ds = [] ∧ Has e [(0, .slc i 0 zs.length c), (1, .int .i64 0), (2, .int .i64 n), (3, .int .i64 q)], ⟨0, rfl, rfl, rfl, rfl, rfl, rfl, trivial⟩, ?_⟩
  rintro n' e h' ⟨rfl, hd, hh⟩
  obtain ⟨n0, g, rfl⟩ := hh.out hd
  clear hh hd
  intro m hm
  obtain rfl : m = n := by rw [hm, Int.sub_zero]; exact wrap_i64 (by omega) (by omega)
  intro t ht
  cases t
  case false => exact absurd (of_decide_eq_false ht.symm) (by omega)
  refine (insertionSort_L h' i c zs hz (by omega) hi m hn).mono ?_
  rintro r h2 ⟨rfl, ys, h3, h4, rfl⟩
  exact ⟨rfl, rfl, ys, h3, h4, rfl⟩

theorem Sort_L (h : Hp) (i : Nat) (c : Option Nat) (zs : List Int) (hz : zs ≠ []) (hlen : zs.length ≤ 12) (hi : h i = some (rwI zs)) {q : Int}
    (hL : PureL Tryz.prog 78 [.int .u64 zs.length] (.int .i64 q)) :
    CallL Tryz.prog F_slices_Sort [.slc i 0 zs.length c] h fun r h' => r = .ret (.tup []) ∧ ∃ ys, ys.Perm zs ∧ SortedTo zs.length ys ∧ h' = h.set i (rwI ys) := by
  refine K_slices_Sort (md := false) ?_
  intro m hm
  obtain rfl : m = (zs.length : Nat) := by
    rw [hm]
    show IntKind.wrap .u64 (zs.length : Int) = _
    exact IntWalk.u64_in _ ⟨by omega, by omega⟩
  refine hL.use ?_
  refine (pdq_L h i c zs hz hlen hi _ rfl q).mono ?_
  rintro r h2 ⟨rfl, ys, h3, h4, rfl⟩
  exact ⟨rfl, rfl, ys, h3, h4, rfl⟩

/-! ### The keys, collected -/

abbrev Ent := AV × AV × Nat
def keyI (x : Ent) : Int := match x.1 with | .int _ z => z | _ => 0

/-- A map's entries: their keys are numbers, their stamps differ and are old. -/
structure GoodM (es : MapL) (clk : Nat) : Prop where
  key : ∀ x ∈ es, x.1 = .int .i32 (keyI x)
  old : ∀ x ∈ es, x.2.2 < clk
  nodup : (es.map fun x => x.2.2).Nodup

theorem find_of {es : MapL} (hn : (es.map fun x => x.2.2).Nodup) {x : Ent} (hx : x ∈ es) : (es.find? fun y => y.2.2 == x.2.2) = some x := by
  induction es with
  | nil => cases hx
  | cons y es ih =>
    simp only [List.map_cons, List.nodup_cons] at hn
    rcases List.mem_cons.1 hx with rfl | hx
    · simp
    · have : (y.2.2 == x.2.2) = false := by
        simp only [beq_eq_false_iff_ne, ne_eq]
        intro e; exact hn.1 (by rw [e]; exact List.mem_map_of_mem hx)
      rw [List.find?_cons, this]; exact ih hn.2 hx

theorem HasBody.keys : HasBody Tryz.prog F_maps_Keys_c1 := ⟨_, Tryz.func53, by kernel_rfl, by kernel_rfl⟩

/-- While the keys are collected: all but the iterator. -/
structure K0 (h0 : Hp) (n : Nat) (t : Nat → AV) (a b : ACode) (ib id j : Nat) (l : List Ent) (hh : Hp) : Prop where
  base : ∀ x, h0.u x = true → hh x = h0 x
  mono : ∀ x, h0.u x = true → hh.u x = true
  jj : hh j = some (loopB Tryz.prog n t [7] a b .ready none)
  dd : hh id = some .dfr
  new : h0.u ib = false ∧ h0.u id = false ∧ h0.u j = false
  ne : ib ≠ id ∧ ib ≠ j ∧ id ≠ j
  box : ∃ T sv, hh ib = some (.row T [[sv]]) ∧ ((l = [] ∧ sv = .nils) ∨ ∃ is, l ≠ [] ∧ sv = .slc is 0 l.length none ∧ hh is = some (rwI (l.map keyI)) ∧ h0.u is = false ∧ is ≠ ib ∧ is ≠ id ∧ is ≠ j)

/-- Not the block of the slice so far. -/
def NotS (hh : Hp) (ib y : Nat) : Prop := ∀ T n, hh ib ≠ some (.row T [[.slc y 0 n none]])

theorem used {h : Hp} {i : Nat} {b : Blk} (hi : h i = some b) : h.u i = true := by
  cases hu : h.u i with
  | true => rfl
  | false => rw [h.ok i hu] at hi; cases hi
theorem ne_new {h : Hp} {x y : Nat} (hx : h.u x = true) (hy : h.u y = false) : x ≠ y := fun e => by subst e; rw [hx] at hy; cases hy

theorem NotS.of {H : Hp} {ib y T is n : Nat} (hb : H ib = some (.row T [[.slc is 0 n none]])) (hne : y ≠ is) : NotS H ib y := fun T' n' e => by
  rw [hb] at e; cases e; exact hne rfl

theorem K0.next {h0 : Hp} {n : Nat} {t : Nat → AV} {a b : ACode} {ib id j : Nat} {l : List Ent} {hh H : Hp} (k : K0 h0 n t a b ib id j l hh) {x : Ent} {is T : Nat} (hf : hh.u is = false)
    (hk : ∀ y, hh.u y = true → y ≠ ib → y ≠ j → NotS hh ib y → H y = hh y) (hu : ∀ y, hh.u y = true → H.u y = true)
    (hj : H j = some (loopB Tryz.prog n t [7] a b .ready none)) (hb : H ib = some (.row T [[.slc is 0 (l.length + 1) none]])) (hs : H is = some (rwI (l.map keyI ++ [keyI x]))) : K0 h0 n t a b ib id j (l ++ [x]) H := by
  have notS : ∀ y, (∀ z, h0.u z = false → z ≠ ib → z ≠ id → z ≠ j → y ≠ z) → NotS hh ib y := fun y hy T n e => by
    obtain ⟨T', sv, h1, h2⟩ := k.box
    rw [h1] at e; cases e
    rcases h2 with ⟨_, h2⟩ | ⟨is', _, h2, _, h3, h4, h5, h6⟩
    · cases h2
    · cases h2; exact hy _ h3 h4 h5 h6 rfl
  refine ⟨fun y hy => ?_, fun y hy => hu y (k.mono y hy), hj, ?_, k.new, k.ne, T, _, hb, .inr ⟨is, by simp, by simp, by rw [List.map_append]; exact hs, ?_, ?_, ?_, ?_⟩⟩
  · rw [hk y (k.mono y hy) (ne_new hy k.new.1) (ne_new hy k.new.2.2) (notS y fun z hz _ _ _ => ne_new hy hz)]; exact k.base y hy
  · rw [hk id (used k.dd) (Ne.symm k.ne.1) k.ne.2.2 (notS id fun z _ _ hz _ => Ne.symm hz)]; exact k.dd
  · cases hz : h0.u is with
    | false => rfl
    | true => rw [k.mono is hz] at hf; cases hf
  · obtain ⟨T', sv, h1, _⟩ := k.box
    exact Ne.symm (ne_new (used h1) hf)
  · exact Ne.symm (ne_new (used k.dd) hf)
  · exact Ne.symm (ne_new (used k.jj) hf)

abbrev bodyA : ACode := .block 1 (.ops A_slices_AppendSeq_1)
abbrev asgA : ACode := .ops [mv 5 7]

theorem round_L {h0 : Hp} {t : Nat → AV} {ib id j : Nat} {l : List Ent} {hh : Hp} (ht : t 2 = .ptr ib 0 0) (k : K0 h0 13 t asgA bodyA ib id j l hh) {x : Ent} (hx : x.1 = .int .i32 (keyI x)) (hl : l.length < 12) :
    RoundL Tryz.prog j [x.1] hh fun v H => v = .bool true ∧ K0 h0 13 t asgA bodyA ib id j (l ++ [x]) H ∧ (∀ y, hh.u y = true → y ≠ ib → y ≠ j → NotS hh ib y → H y = hh y) ∧ ∀ y, hh.u y = true → H.u y = true ∧ (y ≠ ib → NotS H ib y) := by
  obtain ⟨g, rfl⟩ : ∃ g, t = (puts ⟨13, g, []⟩ [(2, .ptr ib 0 0)]).t := ⟨t, by
    have := Has.puts_eq (e := ⟨13, t, []⟩) (l := [(2, .ptr ib 0 0)]) ⟨ht, trivial⟩
    rw [this]⟩
  rw [hx]
  have hjb : j ≠ ib := Ne.symm k.ne.2.1
  refine RoundL.of (md := false) k.jj rfl ?_
  refine ⟨_, _, _, _, _, k.jj, ?_⟩
  obtain ⟨T, sv, hb, hsv⟩ := k.box
  have hb1 : ∀ b', (hh.set j b').m ib = some (.row T [[sv]]) := fun b' => (Hp.set_ne (Ne.symm hjb)).trans hb
  have uj := used k.jj
  have ub := used hb
  rcases hsv with ⟨rfl, rfl⟩ | ⟨is0, hl0, rfl, his0, q1, q2, q3, q4⟩
  · refine ⟨T, _, _, _, hb1 _, rfl, rfl, ?_⟩
    refine ⟨_, rfl, fun tb htb => ?_⟩
    refine ⟨_, ⟨21, _, Hp.set_same _ _ _, Nat.le_refl _, rfl⟩, ?_⟩
    refine ⟨fun cs hcs => by rw [List.mem_singleton.1 hcs]; rfl, Or.inr ⟨List.cons_ne_nil _ _, (show 1 * 4 ≤ capMax by decide), (show 1 ≤ capMax by decide), fun is his => ?_⟩⟩
    have htb1 : hh.u tb = false := by have := htb.1; rw [Hp.set_u] at this; split at this <;> first | cases this | exact this
    have his1 : hh.u is = false ∧ is ≠ tb := by
      have := his.1; rw [Hp.set_u] at this; split at this
      · cases this
      · rename_i e; rw [Hp.set_u] at this; split at this <;> first | cases this | exact ⟨this, e⟩
    have n1 := ne_new ub htb1
    have n2 := ne_new ub his1.1
    have n3 := ne_new uj htb1
    have n4 := ne_new uj his1.1
    refine ⟨T, [[.nils]], [.nils], ?_, rfl, rfl, rfl, rfl, Nat.le_refl _, ?_⟩
    · exact (Hp.set_ne n2).trans ((Hp.set_ne n1).trans (hb1 _))
    have hjj : ∀ b', (((((hh.set j (.loop 13 (puts ⟨13, g, []⟩ [(2, .ptr ib 0 0)]).t [7] (LoopCodes Tryz.prog 13 [7] asgA bodyA) .busy none)).set tb (.row 21 [[.int .i32 (keyI x)]])).set is (.row 21 [[.int .i32 (keyI x)]])).set ib b')).m j = some (.loop 13 (puts ⟨13, g, []⟩ [(2, .ptr ib 0 0)]).t [7] (LoopCodes Tryz.prog 13 [7] asgA bodyA) .busy none) := fun b' =>
      (Hp.set_ne hjb).trans ((Hp.set_ne n4).trans ((Hp.set_ne n3).trans (Hp.set_same _ _ _)))
    refine ⟨_, _, _, _, _, _, hjj _, trivial, Or.inl ⟨rfl, ?_, ?_, ?_⟩⟩
    · refine k.next (is := is) (T := T) his1.1 (fun y hy h1 h2 _ => ?_) (fun y hy => ?_) (Hp.set_same _ _ _) ?_ ?_
      · exact (Hp.set_ne h2).trans ((Hp.set_ne h1).trans ((Hp.set_ne (ne_new hy his1.1)).trans ((Hp.set_ne (ne_new hy htb1)).trans (Hp.set_ne h2))))
      · simp only [Hp.set_u, hy]; simp
      · exact (Hp.set_ne (Ne.symm hjb)).trans (Hp.set_same _ _ _)
      · exact (Hp.set_ne (Ne.symm n4)).trans ((Hp.set_ne (Ne.symm n2)).trans (Hp.set_same _ _ _))
    · intro y hy h1 h2 _
      exact (Hp.set_ne h2).trans ((Hp.set_ne h1).trans ((Hp.set_ne (ne_new hy his1.1)).trans ((Hp.set_ne (ne_new hy htb1)).trans (Hp.set_ne h2))))
    · intro y hy
      refine ⟨by simp only [Hp.set_u, hy]; simp, fun _ => NotS.of (T := T) (n := 1) ((Hp.set_ne (Ne.symm hjb)).trans (Hp.set_same _ _ _)) (ne_new hy his1.1)⟩
  · have n5 : is0 ≠ ib := q2
    have us0 := used his0
    have his1 : ∀ b', (hh.set j b').m is0 = some (rwI (l.map keyI)) := fun b' => (Hp.set_ne q4).trans his0
    have hlen : ((l.map keyI).map el).length = l.length := by simp
    refine ⟨T, _, _, _, hb1 _, rfl, rfl, ?_⟩
    refine ⟨_, rfl, fun tb htb => ?_⟩
    have htb1 : hh.u tb = false := by have := htb.1; rw [Hp.set_u] at this; split at this <;> first | cases this | exact this
    have n1 := ne_new ub htb1
    have n3 := ne_new uj htb1
    have n6 := ne_new us0 htb1
    refine ⟨_, ⟨21, _, Hp.set_same _ _ _, Nat.le_refl _, rfl⟩, ?_⟩
    refine ⟨fun cs hcs => by rw [List.mem_singleton.1 hcs]; rfl, _, (Hp.set_ne n6).trans (his1 _), by rw [hlen]; omega, fun cs hcs => by rw [List.mem_singleton.1 hcs]; rfl, Or.inr ⟨List.cons_ne_nil _ _, ?_, ?_, fun is his => ?_⟩⟩
    · show (l.length + 1) * 4 ≤ 140737488355328
      omega
    · show l.length + 1 ≤ 140737488355328
      omega
    have his2 : hh.u is = false ∧ is ≠ tb := by
      have := his.1; rw [Hp.set_u] at this; split at this
      · cases this
      · rename_i e; rw [Hp.set_u] at this; split at this <;> first | cases this | exact ⟨this, e⟩
    have n2 := ne_new ub his2.1
    have n4 := ne_new uj his2.1
    refine ⟨T, [[.slc is0 0 l.length none]], [.slc is0 0 l.length none], ?_, rfl, rfl, rfl, rfl, Nat.le_refl _, ?_⟩
    · exact (Hp.set_ne n2).trans ((Hp.del_ne (Ne.symm n5)).trans ((Hp.set_ne n1).trans (hb1 _)))
    refine ⟨_, _, _, _, _, _, (Hp.set_ne hjb).trans ((Hp.set_ne n4).trans ((Hp.del_ne (Ne.symm q4)).trans ((Hp.set_ne n3).trans (Hp.set_same _ _ _)))), trivial, Or.inl ⟨rfl, ?_, ?_, ?_⟩⟩
    · refine k.next (is := is) (T := T) his2.1 (fun y hy h1 h2 h3 => ?_) (fun y hy => ?_) (Hp.set_same _ _ _) ?_ ?_
      · have h4 : y ≠ is0 := fun e => h3 T l.length (by rw [e]; exact hb)
        exact (Hp.set_ne h2).trans ((Hp.set_ne h1).trans ((Hp.set_ne (ne_new hy his2.1)).trans ((Hp.del_ne h4).trans ((Hp.set_ne (ne_new hy htb1)).trans (Hp.set_ne h2)))))
      · simp only [Hp.set_u, Hp.del_u, hy]; simp
      · exact (Hp.set_ne (Ne.symm hjb)).trans (Hp.set_same _ _ _)
      · refine (Hp.set_ne (Ne.symm n4)).trans ((Hp.set_ne (Ne.symm n2)).trans ((Hp.set_same _ _ _).trans ?_))
        have e1 : (((l.map keyI).map el).drop 0).take l.length = (l.map keyI).map el := by rw [List.drop_zero, ← hlen]; exact List.take_length
        show some (Blk.row 21 ((((l.map keyI).map el).drop 0).take l.length ++ [el (keyI x)])) = _
        rw [e1]
        show _ = some (Blk.row 21 ((l.map keyI ++ [keyI x]).map el))
        rw [List.map_append]; rfl
    · intro y hy h1 h2 h3
      have h4 : y ≠ is0 := fun e => h3 T l.length (by rw [e]; exact hb)
      exact (Hp.set_ne h2).trans ((Hp.set_ne h1).trans ((Hp.set_ne (ne_new hy his2.1)).trans ((Hp.del_ne h4).trans ((Hp.set_ne (ne_new hy htb1)).trans (Hp.set_ne h2)))))
    · intro y hy
      refine ⟨by simp only [Hp.set_u, Hp.del_u, hy]; simp, fun _ => NotS.of (T := T) (n := l.length + 1) ((Hp.set_ne (Ne.symm hjb)).trans (Hp.set_same _ _ _)) (ne_new hy his2.1)⟩

/-- An iterator beside it. -/
structure KI (h0 : Hp) (t : Nat → AV) (ib id j it m clk : Nat) (l : List Ent) (hh : Hp) : Prop where
  k : K0 h0 13 t asgA bodyA ib id j l hh
  itr : hh it = some (.mapIter (some m) clk (l.map fun x => x.2.2) clk)
  new : h0.u it = false
  ne : it ≠ ib ∧ it ≠ id ∧ it ≠ j
  ns : NotS hh ib it

theorem keys_L {h0 : Hp} {t : Nat → AV} {ib id j c m clk Tc : Nat} {es : MapL} {hh : Hp} (ht : t 2 = .ptr ib 0 0) (k : K0 h0 13 t asgA bodyA ib id j [] hh) (hc : h0 c = some (.row Tc [[.map m]])) (hm : h0 m = some (.map es clk)) (hg : GoodM es clk) (hlen : es.length ≤ 12) (hes : es ≠ []) :
    CallL Tryz.prog F_maps_Keys_c1 [.yld j, .ptr c 0 0] hh fun r H => (∃ v, r = .ret v) ∧ ∃ l : List Ent, l.Perm es ∧ K0 h0 13 t asgA bodyA ib id j l H := by
  have uc := used hc
  have um := used hm
  refine K_maps_Keys_c1 (md := false) ?_
  refine ⟨Tc, _, _, _, (k.base c uc).trans hc, rfl, rfl, ?_⟩
  refine ⟨es, clk, (k.base m um).trans hm, fun it hit => ?_⟩
  have dj := ne_new (used k.jj) hit.1
  have di := ne_new (used k.dd) hit.1
  obtain ⟨Tb, svb, hb0, _⟩ := k.box
  have db := ne_new (used hb0) hit.1
  refine ⟨fun n' e H => ∃ (l rest : List Ent), n' = rest.length ∧ (l ++ rest).Perm es ∧ KI h0 t ib id j it m clk l H ∧ e.ds = [] ∧ Has e [(0, .yld j), (1, .ptr c 0 0), (5, .ptr it 0 0)],
    ⟨_, [], es, rfl, .refl _, ⟨?_, Hp.set_same _ _ _, ?_, ⟨Ne.symm db, Ne.symm di, Ne.symm dj⟩, ?_⟩, rfl, rfl, rfl, rfl, trivial⟩, ?_⟩
  · refine ⟨fun x hx => ?_, fun x hx => ?_, (Hp.set_ne dj).trans k.jj, (Hp.set_ne di).trans k.dd, k.new, k.ne, ?_⟩
    · exact (Hp.set_ne (ne_new (k.mono x hx) hit.1)).trans (k.base x hx)
    · rw [Hp.set_u, k.mono x hx]; simp
    · obtain ⟨T, sv, h1, h2⟩ := k.box
      refine ⟨T, sv, (Hp.set_ne db).trans h1, ?_⟩
      rcases h2 with h2 | ⟨is, h2, _⟩
      · exact .inl h2
      · exact absurd rfl h2
  · cases hz : h0.u it with
    | false => rfl
    | true => have := k.mono it hz; rw [hit.1] at this; cases this
  · intro T n e
    rw [Hp.set_ne db] at e
    obtain ⟨T', sv, h1, h2⟩ := k.box
    rw [h1] at e; cases e
    rcases h2 with ⟨_, h2⟩ | ⟨is, h2, _⟩
    · cases h2
    · exact absurd rfl h2
  clear k hb0
  rintro n' e H ⟨l, rest, rfl, hp, k, hd, hh'⟩
  obtain ⟨n0, g, rfl⟩ := hh'.out hd
  clear hh' hd
  have hm' := (k.k.base m um).trans hm
  refine ⟨some m, clk, _, clk, k.itr, es, clk, hm', ?_, fun hall => .inl ?_, fun kk v b hin hns => ?_⟩
  · obtain ⟨x, es', rfl⟩ : ∃ x es', es = x :: es' := by cases es with
      | nil => exact absurd rfl hes
      | cons x es' => exact ⟨x, es', rfl⟩
    exact .inr (.inr ⟨x, List.mem_cons_self, hg.old x List.mem_cons_self⟩)
  · -- the end
    have hrest : rest = [] := by
      cases rest with
      | nil => rfl
      | cons x rest =>
        have hx : x ∈ es := hp.mem_iff.1 (by simp)
        have h1 := hg.old x hx
        have h2 := hall x hx
        have hn : ((l ++ x :: rest).map fun x => x.2.2).Nodup := (hp.map _).nodup_iff.2 hg.nodup
        rw [List.map_append, List.nodup_append] at hn
        have h3 : x.2.2 ∉ l.map fun x => x.2.2 := fun hx' => hn.2.2 _ hx' _ (by simp) rfl
        have := h2 h3
        omega
    subst hrest
    rw [List.append_nil] at hp
    exact ⟨_, rfl, rfl, ⟨_, rfl⟩, l, hp, k.k⟩
  · have hx : ((kk, v, b) : Ent) ∈ l ++ rest := hp.mem_iff.2 hin
    have hr : ((kk, v, b) : Ent) ∈ rest := by
      rcases List.mem_append.1 hx with h | h
      · exact absurd (List.mem_map_of_mem (f := fun x : Ent => x.2.2) h) hns
      · exact h
    obtain ⟨r1, r2, rfl⟩ := List.append_of_mem hr
    have hkk := hg.key _ hin
    obtain ⟨z, hz⟩ : ∃ z, z = keyI (kk, v, b) := ⟨_, rfl⟩
    rw [← hz] at hkk
    have hkk : kk = .int .i32 z := hkk
    subst hkk
    have dm : m ≠ it := ne_new um k.new
    have djt := k.ne.2.2
    refine ⟨_, rfl, m, clk, _, clk, es, clk, .int .i32 z, v, b, Hp.set_same _ _ _, (Hp.set_ne dm).trans hm', rfl, by simp, find_of hg.nodup hin, _, rfl, ?_⟩
    have hlen2 : l.length < 12 := by
      have := hp.length_eq; simp at this; omega
    have k1 : K0 h0 13 t asgA bodyA ib id j l (H.set it (.mapIter (some m) clk (l.map (fun x => x.2.2) ++ [b]) clk)) := by
      have kk := k.k
      refine ⟨fun x hx => (Hp.set_ne (ne_new hx k.new)).trans (kk.base x hx), fun x hx => by rw [Hp.set_u, kk.mono x hx]; simp, (Hp.set_ne (Ne.symm k.ne.2.2)).trans kk.jj, (Hp.set_ne (Ne.symm k.ne.2.1)).trans kk.dd, kk.new, kk.ne, ?_⟩
      obtain ⟨T, sv, h1, h2⟩ := kk.box
      refine ⟨T, sv, (Hp.set_ne (Ne.symm k.ne.1)).trans h1, ?_⟩
      rcases h2 with h2 | ⟨is, q0, q1, q2, q3⟩
      · exact .inl h2
      · subst q1
        exact .inr ⟨is, q0, rfl, (Hp.set_ne (fun e => k.ns T _ (by rw [← e]; exact h1))).trans q2, q3⟩
    refine (round_L ht k1 (x := (.int .i32 z, v, b)) rfl hlen2).mono ?_
    rintro v2 H2 ⟨rfl, k2, k3, k4⟩
    have ui : (H.set it (.mapIter (some m) clk (l.map (fun x => x.2.2) ++ [b]) clk)).u it = true := by rw [Hp.set_u]; simp
    refine ⟨r1.length + r2.length, by simp, l ++ [(.int .i32 z, v, b)], r1 ++ r2, by simp, ?_, ⟨k2, ?_, k.new, k.ne, (k4 it ui).2 k.ne.1⟩, rfl, rfl, rfl, rfl, trivial⟩
    · refine List.Perm.trans ?_ hp
      rw [List.append_assoc]
      exact List.Perm.append_left l (by simpa using (List.perm_middle (a := ((.int .i32 z, v, b) : Ent)) (l₁ := r1) (l₂ := r2)).symm)
    · rw [k3 it ui k.ne.1 k.ne.2.2 (fun T n e => k.ns T n (by rw [← e, Hp.set_ne (Ne.symm k.ne.1)])), Hp.set_same, List.map_append]; rfl

/-- What lies in the heap behind it: a new slice of the keys; what was there is as it was. -/
structure Got (h0 : Hp) (is : Nat) (zs : List Int) (H : Hp) : Prop where
  row : H is = some (rwI zs)
  new : h0.u is = false
  base : ∀ x, h0.u x = true → H x = h0 x
  mono : ∀ x, h0.u x = true → H.u x = true

theorem AppendSeq_L {h0 : Hp} {c m clk Tc : Nat} {es : MapL} (hc : h0 c = some (.row Tc [[.map m]])) (hm : h0 m = some (.map es clk)) (hg : GoodM es clk) (hlen : es.length ≤ 12) (hes : es ≠ []) :
    CallL Tryz.prog F_slices_AppendSeq [.nils, .func (.func F_maps_Keys_c1) [] [.ptr c 0 0]] h0 fun r H => ∃ is zs, r = .ret (.slc is 0 es.length none) ∧ zs.Perm (es.map keyI) ∧ Got h0 is zs H := by
  refine CallL.ofD (md := false) Tryz.func79 C_slices_AppendSeq (by rw [Tryz.ntmps79]; exact (show 2 ≤ 13 by decide)) (by
    rw [Tryz.ntmps79]
    refine ⟨rfl, rfl, fun ib hib => ?_⟩
    refine ⟨HasBody.keys, fun id hid j hj => ?_⟩
    have hid1 : h0.u id = false ∧ id ≠ ib := by
      have := hid.1; rw [Hp.set_u] at this; split at this
      · cases this
      · rename_i e; exact ⟨this, e⟩
    have hj1 : h0.u j = false ∧ j ≠ ib ∧ j ≠ id := by
      have := hj.1; rw [Hp.set_u] at this; split at this
      · cases this
      · rename_i e; rw [Hp.set_u] at this; split at this
        · cases this
        · rename_i e2; exact ⟨this, e2, e⟩
    refine (keys_L (h0 := h0) (ib := ib) (id := id) (j := j) (m := m) (clk := clk) (Tc := Tc) (t := ((((env0 13 [.nils, .func (.func F_maps_Keys_c1) [] [.ptr c 0 0]]).put (some 2) (.ptr ib 0 0)).put (some 4) .nils).put (some 6) (.func (.func F_maps_Keys_c1) [] [.ptr c 0 0])).t) rfl ?_ hc hm hg hlen hes).mono ?_
    · refine ⟨fun x hx => ?_, fun x hx => ?_, Hp.set_same _ _ _, (Hp.set_ne (Ne.symm hj1.2.2)).trans (Hp.set_same _ _ _), ⟨hib.1, hid1.1, hj1.1⟩, ⟨Ne.symm hid1.2, Ne.symm hj1.2.1, Ne.symm hj1.2.2⟩, 104, .nils, ?_, .inl ⟨rfl, rfl⟩⟩
      · exact (Hp.set_ne (ne_new hx hj1.1)).trans ((Hp.set_ne (ne_new hx hid1.1)).trans (Hp.set_ne (ne_new hx hib.1)))
      · simp only [Hp.set_u, hx]; simp
      · exact (Hp.set_ne (Ne.symm hj1.2.1)).trans ((Hp.set_ne (Ne.symm hid1.2)).trans (Hp.set_same _ _ _))
    · rintro r H ⟨⟨v, rfl⟩, l, hl, k⟩
      refine ⟨none, _, _, _, _, _, _, k.jj, ⟨by simp, rfl⟩, .inl ?_⟩
      obtain ⟨T, sv, h1, h2⟩ := k.box
      rcases h2 with ⟨rfl, _⟩ | ⟨is, q0, rfl, q2, q3, q4, q5, q6⟩
      · have := hl.length_eq
        cases es with
        | nil => exact absurd rfl hes
        | cons x es => simp at this
      have hbj : ib ≠ j := Ne.symm hj1.2.1
      refine ⟨T, _, _, _, (Hp.set_ne hbj).trans h1, rfl, rfl, ?_⟩
      refine ⟨(Hp.set_ne (Ne.symm hj1.2.2)).trans k.dd, ?_⟩
      refine ⟨is, l.map keyI, by rw [← hl.length_eq]; rfl, hl.map _, ?_⟩
      refine ⟨(Hp.del_ne q5).trans ((Hp.set_ne q6).trans q2), q3, fun x hx => ?_, fun x hx => ?_⟩
      · exact (Hp.del_ne (ne_new hx hid1.1)).trans ((Hp.set_ne (ne_new hx hj1.1)).trans (k.base x hx))
      · rw [Hp.del_u, Hp.set_u, k.mono x hx]; simp)

theorem Collect_L {h0 : Hp} {c m clk Tc : Nat} {es : MapL} (hc : h0 c = some (.row Tc [[.map m]])) (hm : h0 m = some (.map es clk)) (hg : GoodM es clk) (hlen : es.length ≤ 12) (hes : es ≠ []) :
    CallL Tryz.prog F_slices_Collect [.func (.func F_maps_Keys_c1) [] [.ptr c 0 0]] h0 fun r H => ∃ is zs, r = .ret (.slc is 0 es.length none) ∧ zs.Perm (es.map keyI) ∧ Got h0 is zs H := by
  refine K_slices_Collect (md := false) ?_
  refine (AppendSeq_L hc hm hg hlen hes).mono ?_
  rintro r H ⟨is, zs, rfl, hz, hH⟩
  exact ⟨rfl, is, zs, rfl, hz, hH⟩

theorem Sorted_L {h0 : Hp} {c m clk Tc : Nat} {es : MapL} (hc : h0 c = some (.row Tc [[.map m]])) (hm : h0 m = some (.map es clk)) (hg : GoodM es clk) (hlen : es.length ≤ 12) (hes : es ≠ []) {q : Int}
    (hL : PureL Tryz.prog 78 [.int .u64 es.length] (.int .i64 q)) :
    CallL Tryz.prog F_slices_Sorted [.func (.func F_maps_Keys_c1) [] [.ptr c 0 0]] h0 fun r H => ∃ is ys, r = .ret (.slc is 0 es.length none) ∧ ys.Perm (es.map keyI) ∧ SortedTo es.length ys ∧ Got h0 is ys H := by
  refine K_slices_Sorted (md := false) ?_
  refine (Collect_L hc hm hg hlen hes).mono ?_
  rintro r H ⟨is, zs, rfl, hz, hH⟩
  have hl : zs.length = es.length := by rw [hz.length_eq, List.length_map]
  rw [← hl] at hL ⊢
  refine (Sort_L H is none zs (fun e => hes (by rw [e] at hl; exact List.length_eq_zero_iff.1 hl.symm)) (by omega) hH.row hL).mono ?_
  rintro r H2 ⟨rfl, ys, h1, h2, rfl⟩
  refine ⟨rfl, is, ys, rfl, h1.trans hz, h2, Hp.set_same _ _ _, hH.new, fun x hx => (Hp.set_ne (ne_new hx hH.new)).trans (hH.base x hx), fun x hx => by rw [Hp.set_u, hH.mono x hx]; simp⟩

end Go.Proofs.YtcpjeocepolecaaGreatDoor

/-
  A computed run's call of slices.Sorted over a map's keys, by its contract.
-/
namespace Go.L

/-- The one new block of a call's outcome under a number of one's own; all else that is new is forgotten. -/
theorem CallL.named {P : Program} {f : FuncId} {args : List AV} {h : Hp} {T n : Nat} {es : List (List AV)} {i0 : Nat} (h0 : h.u i0 = false) (hes : idUss h.u es = true) (hcl : ∀ j b, h j = some b → blkU h.u b = true)
    (k : CallL P f args h fun r h1 => ∃ i, r = .ret (.slc i 0 n none) ∧ h.u i = false ∧ h1 i = some (.row T es) ∧ ∀ x, h.u x = true → h1 x = h x) :
    CallL P f args h fun r h1 => r = .ret (.slc i0 0 n none) ∧ h1 = h.set i0 (.row T es) := by
  refine ⟨fun σ M w args' hR hA => (k.run σ M w args' hR hA).mono fun e w' ⟨σ', M', h1, hE, hR1, hend⟩ => ?_⟩
  cases e with
  | panicked ch => obtain ⟨v, v', _, _, i, e1, _⟩ := hend; cases e1
  | outgrown => exact hend.elim
  | returned v' =>
    obtain ⟨v0, hv, i, e1, hi, hrow, hbase⟩ := hend
    cases e1
    let σ2 : Emb := fun j => if j = i0 then σ' i else σ'.cut h.u j
    have used : ∀ {j : Nat} {b : Blk}, h j = some b → h.u j = true := fun {j b} hj => by
      cases hu : h.u j with
      | true => rfl
      | false => rw [h.ok j hu] at hj; cases hj
    have hcut : (σ'.cut h.u).le σ2 := fun j L hj => by
      have := (Emb.cut_inv hj).1
      have hne : j ≠ i0 := fun e => by rw [e, h0] at this; cases this
      simp only [σ2]; rw [if_neg hne]; exact hj
    have hσ2 : σ2 i0 = σ' i := if_pos rfl
    have key : ∀ j b L, (h.set i0 (.row T es)) j = some b → σ2 j = some L → ∃ p, h1 p = some b ∧ σ' p = some L ∧ blkU h.u b = true ∧ ((j = i0 ∧ p = i) ∨ (p = j ∧ h.u j = true)) := by
      intro j b L hj hL
      by_cases e : j = i0
      · subst e
        rw [Hp.set_same] at hj; cases hj
        rw [hσ2] at hL
        exact ⟨i, hrow, hL, hes, .inl ⟨rfl, rfl⟩⟩
      · rw [Hp.set_ne e] at hj
        simp only [σ2, if_neg e] at hL
        obtain ⟨hu, hL'⟩ := Emb.cut_inv hL
        exact ⟨j, (hbase j hu).trans hj, hL', hcl j b hj, .inr ⟨rfl, hu⟩⟩
    refine ⟨σ2, M', h.set i0 (.row T es), ⟨fun j L hj => ?_, hE.m, hE.size, hE.os, hE.tape, hE.output⟩, ⟨fun j hj => ?_, fun j b hj => ?_, hR1.mem, fun j b L hj hL => ?_, fun j1 j2 b1 b2 L1 L2 hj1 hj2 hL1 hL2 hb => ?_, fun j b L hj hL => ?_, fun j b L hj hL => ?_⟩, .slc i0 0 n none, ?_, rfl, rfl⟩
    · have hu0 : h.u j = true := by
        cases hh : h.u j with
        | true => rfl
        | false => rw [hR.fin j hh] at hj; cases hj
      exact hcut j L (Emb.cut_some hu0 (hE.s j L hj))
    · rw [Hp.set_u] at hj
      split at hj
      · cases hj
      · rename_i e
        simp only [σ2, if_neg e, Emb.cut, hj]
    · by_cases e : j = i0
      · subst e
        obtain ⟨L, hL⟩ := hR1.dom i _ hrow
        exact ⟨L, hσ2.trans hL⟩
      · rw [Hp.set_ne e] at hj
        obtain ⟨L, hL⟩ := hR1.dom j b ((hbase j (used hj)).trans hj)
        exact ⟨L, hcut j L (Emb.cut_some (used hj) hL)⟩
    · obtain ⟨p, q1, q2, _⟩ := key j b L hj hL
      exact hR1.sep p b L q1 q2
    · obtain ⟨p1, a1, a2, _, a3⟩ := key j1 b1 L1 hj1 hL1
      obtain ⟨p2, c1, c2, _, c3⟩ := key j2 b2 L2 hj2 hL2
      have hp := hR1.inj p1 p2 b1 b2 L1 L2 a1 c1 a2 c2 hb
      rcases a3 with ⟨e1, e2⟩ | ⟨e1, e2⟩ <;> rcases c3 with ⟨g1, g2⟩ | ⟨g1, g2⟩
      · rw [e1, g1]
      · rw [e2, g1] at hp; rw [← hp, hi] at g2; cases g2
      · rw [e1, g2] at hp; rw [hp, hi] at e2; cases e2
      · rw [← e1, ← g1]; exact hp
    · obtain ⟨p, q1, q2, q3, _⟩ := key j b L hj hL
      exact ((hR1.blk p b L q1 q2).cut q3).mono hcut M'.le_refl rfl
    · obtain ⟨p, q1, q2, _⟩ := key j b L hj hL
      exact hR1.al p b L q1 q2
    · cases hv with
      | slc _ _ _ _ L a c' h ha hn hk hu => exact .slc i0 0 n none L a c' (hσ2.trans h) ha hn hk hu

theorem int_sorted_eq : ∀ {l m : List Int}, l.Pairwise (· ≤ ·) → m.Pairwise (· ≤ ·) → l.Perm m → l = m
  | [], m, _, _, h => h.nil_eq
  | a :: l, [], _, _, h => h.eq_nil
  | a :: l, b :: m, hl, hm, h => by
    rw [List.pairwise_cons] at hl hm
    have e : a = b := by
      rcases List.mem_cons.1 (h.mem_iff.1 List.mem_cons_self) with e | ha
      · exact e
      · rcases List.mem_cons.1 (h.mem_iff.2 (List.mem_cons_self (a := b))) with e | hb
        · exact e.symm
        · exact Int.le_antisymm (hl.1 b hb) (hm.1 a ha)
    subst e
    rw [int_sorted_eq hl.2 hm.2 (List.Perm.cons_inv h)]

def ascB : List Int → Bool
  | a :: b :: r => decide (a < b) && ascB (b :: r)
  | _ => true
theorem ascB_pw : ∀ {l : List Int}, ascB l = true → l.Pairwise (· ≤ ·)
  | [], _ => .nil
  | [a], _ => List.pairwise_singleton _ _
  | a :: b :: r, h => by
    simp only [ascB, Bool.and_eq_true, decide_eq_true_eq] at h
    have ih := ascB_pw h.2
    refine List.pairwise_cons.2 ⟨fun x hx => ?_, ih⟩
    rcases List.mem_cons.1 hx with rfl | hx
    · omega
    · have := (List.pairwise_cons.1 ih).1 x hx; omega

/-- All numbers within a heap are taken ones. -/
def closedT (h : HT) : Bool := allT (fun _ o => match o with
  | some (.b b) => blkU (uT h) b
  | some _ => false
  | none => true) h.t 0 1
theorem closedT_ok {P : Program} {h : HT} (hc : closedT h = true) : ∀ j b, (h.hp P) j = some b → blkU (h.hp P).u b = true := by
  intro j b hj
  have hj' : jn P (h.t.get j) = some b := hj
  cases hg : h.t.get j with
  | none => rw [hg] at hj'; cases hj'
  | some o =>
    have hq := allT_get hc hg
    cases o with
    | none => rw [hg] at hj'; cases hj'
    | some eb =>
      rw [hg] at hj'
      cases eb with
      | l n t ps c d st pend => cases hq
      | b x => cases hj'; exact hq
theorem HT.hp_upd1 {P : Program} (s : HT) (i n : Nat) (b : EB) : (HT.upd s [(i, some b)] n).hp P = (s.hp P).set i (b.bk P) := by
  refine Hp.ext (fun j => ?_) (fun j => ?_)
  · show jn P ((s.t.set i (some (some b))).get j) = if j = i then some (b.bk P) else jn P (s.t.get j)
    rw [Tr.get_set]; split <;> rfl
  · show ((s.t.set i (some (some b))).get j).isSome = if j = i then true else (s.t.get j).isSome
    rw [Tr.get_set]; split <;> rfl
end Go.L
namespace Go.Proofs.YtcpjeocepolecaaGreatDoor
open Go.L

def goodMB (es : MapL) (clk : Nat) : Bool :=
  es.all (fun x => match x.1 with | .int .i32 _ => Nat.blt x.2.2 clk | _ => false) && decide (es.map fun x => x.2.2).Nodup
theorem goodMB_ok {es : MapL} {clk : Nat} (h : goodMB es clk = true) : GoodM es clk := by
  simp only [goodMB, Bool.and_eq_true, decide_eq_true_eq] at h
  have each : ∀ x ∈ es, ∃ z, x.1 = .int .i32 z ∧ x.2.2 < clk := fun x hx => by
    have := List.all_eq_true.1 h.1 x hx
    split at this
    · rename_i z hz; exact ⟨z, hz, Nat.le_of_ble_eq_true this⟩
    · cases this
  refine ⟨fun x hx => ?_, fun x hx => ?_, h.2⟩
  · obtain ⟨z, hz, _⟩ := each x hx
    simp only [keyI, hz]
  · obtain ⟨z, _, hz⟩ := each x hx; exact hz

theorem sorted_sm {s : Sm} {c m clk is Tc n : Nat} {es : MapL} {zs : List Int} {q : Int} (hf : s.f = F_slices_Sorted) (ha : s.args = [.func (.func F_maps_Keys_c1) [] [.ptr c 0 0]])
    (hc : s.h.t.get c = some (some (.b (.row Tc [[.map m]])))) (hm : s.h.t.get m = some (some (.b (.map es clk)))) (hg : goodMB es clk = true) (hlen : es.length ≤ 12) (hes : es ≠ [])
    (hv : s.v = .slc is 0 es.length none) (hh : s.h' = HT.upd s.h [(is, some (.b (rwI zs)))] n) (hi : s.h.t.get is = none) (hz : zs.isPerm (es.map keyI) = true) (hasc : ascB zs = true) (hcl : closedT s.h = true)
    (hL : PureL Tryz.prog 78 [.int .u64 es.length] (.int .i64 q)) : SmOK Tryz.prog s := by
  intro Q hQ
  have hu : (s.h.hp Tryz.prog).u is = false := by
    show (s.h.t.get is).isSome = false
    rw [hi]; rfl
  rw [hf, ha]
  rw [hv, hh, HT.hp_upd1] at hQ
  refine (CallL.named (T := 21) (n := es.length) (es := zs.map el) hu ?_ (closedT_ok hcl) ((Sorted_L (hp_at hc) (hp_at hm) (goodMB_ok hg) hlen hes hL).mono ?_)).mono ?_
  · clear hh hz hasc hQ
    induction zs with
    | nil => rfl
    | cons z zs ih => exact ih
  · rintro r H ⟨i, ys, rfl, hp, hs, hgot⟩
    have hys : ys = zs := by
      refine int_sorted_eq ?_ (ascB_pw hasc) (hp.trans (List.isPerm_iff.1 hz).symm)
      refine List.pairwise_iff_getElem.2 fun a b ha hb hab => ?_
      have hl : ys.length = es.length := by rw [hp.length_eq, List.length_map]
      exact hs a b _ _ hab (by omega) (List.getElem?_eq_getElem ha) (List.getElem?_eq_getElem hb)
    subst hys
    exact ⟨i, rfl, hgot.new, hgot.row, hgot.base⟩
  · rintro r h' ⟨rfl, rfl⟩
    exact hQ
end Go.Proofs.YtcpjeocepolecaaGreatDoor
