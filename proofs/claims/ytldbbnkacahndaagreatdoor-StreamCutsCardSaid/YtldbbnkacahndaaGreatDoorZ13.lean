/- Contracts of functions of the given program, in the logic L: texts put together; no conditions. -/
import Derived.Test.YtldbbnkacahndaaGreatDoorZ2
import Derived.Test.YtldbbnkacahndaaGreatDoorZ3
import Derived.Test.YtldbbnkacahndaaGreatDoorProg
import Derived.KernelRfl
namespace Go.Proofs.YtldbbnkacahndaaGreatDoor
open Go.L
abbrev qL : Nat := 27
def zCT : LA := [mv 6 0, We 7 6, mv 8 1, We 9 8, Wb 10 .neq 7 9]
def zCS : LA := [mv 11 5, mv 12 0, We 13 12, Wb 14 .lss 11 13]
def zCR : LA := [mv 17 0, mv 18 5, Wa 19 5 1 17 18, Wl 20 19, mv 21 1, mv 22 5, Wa 23 5 1 21 22, Wl 24 23, Wb 25 .neq 20 24]
def zCQ : LA := [mv 15 5, Wi 16 .add 15 1, mv 5 16]
def zCP : ACode := (.seq (.seq (.ops zCS) (.cond (.t 14) .skip (.exit 0))) (.seq (.block 1 (.seq (.alts [17, 18, 19, 20, 21, 22, 23, 24, 25] [zCR]) (.cond (.t 25) (.seq (.ops [Wo 4 false]) .ret) .skip))) (.ops zCQ)))
def zAH : ACode := (.seq (.ops [Wo 4 false]) (.seq (.seq (.ops zCT) (.cond (.t 10) (.seq (.ops [Wo 4 false]) .ret) .skip)) (.seq (.seq (.ops [Wm 5 0]) (.block 0 (.loop zCP))) (.seq (.ops [Wo 4 true]) .ret))))
def zAF : List ARes := [.tmp 4]
theorem zDO : zS Tryz.prog Tryz.f27 = some (zAH, zAF) := by kernel_rfl
theorem zDK {md : Bool} {args : List AV} {h : Hp} {Q : Res → Hp → Prop} (hl : zD Tryz.prog md zAH (EndQ zAF Q) (env0 26 args) h) (hn : args.length ≤ 26 := by (simp; done)) : CallL Tryz.prog qL args h Q :=
 CallL.of (md := md) Tryz.func27 zDO (by rw [Tryz.ntmps27]; exact hn) (by rw [Tryz.ntmps27]; exact hl)
abbrev qM : Nat := 21
def zCX : LA := [mv 5 0, We 6 5, Wi 7 .add 6 8, o_ 8 (.mkslice 5 1 1 [.int .u8 0] (i_ 0) (.t 7)), mv 3 8]
def zCW : LA := [mv 9 3, mv 10 0, o_ 11 (.app 5 1 1 (.t 9) (.t 10)), mv 3 11]
def zCV : LA := [mv 12 3, o_ 13 (.bslice 5 1 8 [.int .u8 0] [(0, 1, (.c (.int .u8 91))), (1, 1, (.c (.int .u8 92))), (2, 1, (.c (.int .u8 93))), (3, 1, (.c (.int .u8 94))), (4, 1, (.c (.int .u8 95))), (5, 1, (.c (.int .u8 96))), (6, 1, (.c (.int .u8 97))), (7, 1, (.c (.int .u8 98)))]), o_ 14 (.app 5 1 1 (.t 12) (.t 13)), mv 4 14]
def zCU : LA := [mv 15 4, mv 16 0, We 17 16, o_ 18 (.slcl 5 1 (.t 15) none (some (.t 17)) none), mv 2 18]
def zAI : ACode := (.seq (.ops [Wn 2]) (.seq (.ops zCX) (.seq (.ops zCW) (.seq (.ops zCV) (.seq (.ops zCU) .ret)))))
def zAG : List ARes := [.tmp 2]
theorem zDP : zS Tryz.prog Tryz.f21 = some (zAI, zAG) := by kernel_rfl
theorem zDL {md : Bool} {args : List AV} {h : Hp} {Q : Res → Hp → Prop} (hl : zD Tryz.prog md zAI (EndQ zAG Q) (env0 19 args) h) (hn : args.length ≤ 19 := by (simp; done)) : CallL Tryz.prog qM args h Q :=
 CallL.of (md := md) Tryz.func21 zDP (by rw [Tryz.ntmps21]; exact hn) (by rw [Tryz.ntmps21]; exact hl)
abbrev jS : Nat := 22
def zBl : LA := [mv 7 0, o_ 8 (.capk (.t 7)), mv 9 0, We 10 9, Wi 11 .add 10 8, Wb 12 .lss 8 11]
def zBk : LA := [mv 13 0, mv 14 0, We 15 14, Wi 16 .add 15 8, o_ 17 (.slcl 5 1 (.t 13) none (some (.t 16)) none), mv 5 17]
def zBj : LA := [mv 18 6, Wi 19 .lss 18 8]
def zBi : LA := [mv 22 5, mv 23 0, We 24 23, mv 25 6, Wb 26 .add 24 25, Wa 27 5 1 22 26, Wl 28 27, mv 29 6, o_ 30 (.bini .add (i_ 91) (.t 29)), o_ 31 (.conv .u8 (.t 30)), Wb 32 .neq 28 31]
def zBh : LA := [mv 20 6, Wi 21 .add 20 1, mv 6 21]
def zBg : ACode := (.seq (.seq (.ops zBj) (.cond (.t 19) .skip (.exit 0))) (.seq (.block 1 (.seq (.ops zBi) (.cond (.t 32) (.seq (.ops [Wo 4 false]) .ret) .skip))) (.ops zBh)))
def zBf : LA := [mv 33 0, mv 34 1, o_ 35 (.call 27 [(.t 33), (.t 34)]), mv 4 35]
def jX : ACode := (.seq (.ops [Wo 4 false]) (.seq (.seq (.ops zBl) (.cond (.t 12) (.seq (.ops [Wo 4 false]) .ret) .skip)) (.seq (.ops zBk) (.seq (.seq (.ops [Wm 6 0]) (.block 0 (.loop zBg))) (.seq (.ops zBf) .ret)))))
def jP : List ARes := [.tmp 4]
theorem zCq : zS Tryz.prog Tryz.f22 = some (jX, jP) := by kernel_rfl
theorem zCm {md : Bool} {args : List AV} {h : Hp} {Q : Res → Hp → Prop} (hl : zD Tryz.prog md jX (EndQ jP Q) (env0 36 args) h) (hn : args.length ≤ 36 := by (simp; done)) : CallL Tryz.prog jS args h Q :=
 CallL.of (md := md) Tryz.func22 zCq (by rw [Tryz.ntmps22]; exact hn) (by rw [Tryz.ntmps22]; exact hl)
abbrev jT : Nat := 23
def zBq : LA := [mv 4 0, mv 5 0, o_ 6 (.capk (.t 5)), o_ 7 (.slcl 5 1 (.t 4) none (some (.t 6)) none), mv 2 7]
def zBp : LA := [mv 8 3, mv 9 2, We 10 9, Wb 11 .lss 8 10]
def zBo : LA := [mv 14 2, mv 15 3, Wa 16 5 1 14 15, n_ (.st 1 (.t 16) (.c (.int .u8 238)))]
def zBn : LA := [mv 12 3, Wi 13 .add 12 1, mv 3 13]
def zBm : ACode := (.seq (.seq (.ops zBp) (.cond (.t 11) .skip (.exit 0))) (.seq (.block 1 (.ops zBo)) (.ops zBn)))
def jY : ACode := (.seq (.ops zBq) (.seq (.ops [Wm 3 0]) (.block 0 (.loop zBm))))
def jQ : List ARes := []
theorem zCr : zS Tryz.prog Tryz.f23 = some (jY, jQ) := by kernel_rfl
theorem zCn {md : Bool} {args : List AV} {h : Hp} {Q : Res → Hp → Prop} (hl : zD Tryz.prog md jY (EndQ jQ Q) (env0 17 args) h) (hn : args.length ≤ 17 := by (simp; done)) : CallL Tryz.prog jT args h Q :=
 CallL.of (md := md) Tryz.func23 zCr (by rw [Tryz.ntmps23]; exact hn) (by rw [Tryz.ntmps23]; exact hl)
abbrev jU : Nat := 28
def zBr : LA := [mv 4 0, mv 5 0, Wc 6 5, Wf 7 0 6, Wl 8 7, mv 9 1, o_ 10 (.bslice 24 1 1 [.nils] [(0, 1, (.t 9))]), o_ 11 (.app 24 1 24 (.t 8) (.t 10)), Wc 12 4, Wf 13 0 12, Ws 1 13 11]
def jZ : ACode := (.ops zBr)
def jR : List ARes := []
theorem zCs : zS Tryz.prog Tryz.f28 = some (jZ, jR) := by kernel_rfl
theorem zCo {md : Bool} {args : List AV} {h : Hp} {Q : Res → Hp → Prop} (hl : zD Tryz.prog md jZ (EndQ jR Q) (env0 14 args) h) (hn : args.length ≤ 14 := by (simp; done)) : CallL Tryz.prog jU args h Q :=
 CallL.of (md := md) Tryz.func28 zCs (by rw [Tryz.ntmps28]; exact hn) (by rw [Tryz.ntmps28]; exact hl)
abbrev zT : Nat := 9
def zDD : LA := [mv 3 0, Wc 4 3, Wf 5 0 4, Wl 6 5, o_ 7 (.call 34 [(.t 6)]), mv 8 7, Wgm 9 0 8, g_ 10 (.nilc (.t 9)) 8, Wgf 11 1 10 8, Wgl 12 11 8, g_ 13 (.call 35 [(.t 12)]) 8, Wp 14 8 13, mv 15 14, Wgm 16 0 15, g_ 17 (.nilc (.t 16)) 15, Wgf 18 2 17 15, Wgl 19 18 15, g_ 20 (.call 36 [(.t 19)]) 15, Wp 21 15 20, mv 22 21, Wgm 23 0 22, g_ 24 (.nilc (.t 23)) 22, Wgf 25 3 24 22, Wgl 26 25 22, g_ 27 (.call 37 [(.t 26)]) 22, Wp 28 22 27, mv 29 28, Wgm 30 0 29, g_ 31 (.nilc (.t 30)) 29, Wgf 32 4 31 29, Wgl 33 32 29, g_ 34 (.call 38 [(.t 33)]) 29, Wp 35 29 34, mv 36 35, Wgm 37 0 36, g_ 38 (.nilc (.t 37)) 36, Wgf 39 5 38 36, Wgl 40 39 36, g_ 41 (.call 39 [(.t 40)]) 36, Wp 42 36 41, mv 43 42, Wgm 44 0 43, g_ 45 (.nilc (.t 44)) 43, Wgf 46 6 45 43, Wgl 47 46 43, g_ 48 (.call 40 [(.t 47)]) 43, Wp 49 43 48, mv 50 49, Wgm 51 0 50, g_ 52 (.nilc (.t 51)) 50, Wgf 53 7 52 50, Wgl 54 53 50, g_ 55 (.call 41 [(.t 54)]) 50, Wp 56 50 55, mv 57 56, Wgm 58 0 57, g_ 59 (.nilc (.t 58)) 57, Wgf 60 8 59 57, Wgl 61 60 57, g_ 62 (.call 42 [(.t 61)]) 57, Wp 63 57 62, mv 64 63, Wgm 65 0 64, g_ 66 (.nilc (.t 65)) 64, Wgf 67 9 66 64, Wgl 68 67 64, g_ 69 (.call 43 [(.t 68)]) 64, Wp 70 64 69, mv 71 70, Wgm 72 0 71, g_ 73 (.nilc (.t 72)) 71, Wgf 74 10 73 71, Wgl 75 74 71, g_ 76 (.call 44 [(.t 75)]) 71, Wp 77 71 76, mv 78 77, Wgm 79 0 78, g_ 80 (.nilc (.t 79)) 78, Wgf 81 11 80 78, Wgl 82 81 78, g_ 83 (.call 45 [(.t 82)]) 78, Wp 84 78 83, mv 85 84, Wgm 86 0 85, g_ 87 (.nilc (.t 86)) 85, Wgf 88 12 87 85, Wgl 89 88 85, g_ 90 (.call 46 [(.t 89)]) 85, Wp 91 85 90, mv 92 91, Wgm 93 0 92, g_ 94 (.nilc (.t 93)) 92, Wgf 95 13 94 92, Wgl 96 95 92, g_ 97 (.call 47 [(.t 96)]) 92, Wp 98 92 97, mv 99 98, Wgm 100 0 99, g_ 101 (.nilc (.t 100)) 99, Wgf 102 14 101 99, Wgl 103 102 99, g_ 104 (.call 48 [(.t 103)]) 99, Wp 105 99 104, mv 106 105, Wgm 107 0 106, g_ 108 (.nilc (.t 107)) 106, Wgf 109 15 108 106, Wgl 110 109 106, g_ 111 (.call 49 [(.t 110)]) 106, Wp 112 106 111, mv 113 112, Wgm 114 0 113, g_ 115 (.nilc (.t 114)) 113, Wgf 116 16 115 113, Wgl 117 116 113, g_ 118 (.call 50 [(.t 117)]) 113, Wp 119 113 118, mv 120 119, Wgm 121 0 120, g_ 122 (.nilc (.t 121)) 120, Wgf 123 17 122 120, Wgl 124 123 120, g_ 125 (.call 51 [(.t 124)]) 120, Wp 126 120 125, mv 127 126, Wgm 128 0 127, g_ 129 (.nilc (.t 128)) 127, Wgf 130 18 129 127, Wgl 131 130 127, g_ 132 (.call 52 [(.t 131)]) 127, Wp 133 127 132, mv 134 133, Wgm 135 0 134, g_ 136 (.nilc (.t 135)) 134, Wgf 137 19 136 134, Wgl 138 137 134, g_ 139 (.call 53 [(.t 138)]) 134, Wp 140 134 139, mv 141 140, Wgm 142 0 141, g_ 143 (.nilc (.t 142)) 141, Wgf 144 20 143 141, Wgl 145 144 141, g_ 146 (.call 54 [(.t 145)]) 141, Wp 147 141 146, mv 148 147, Wgm 149 0 148, g_ 150 (.nilc (.t 149)) 148, Wgf 151 21 150 148, Wgl 152 151 148, g_ 153 (.call 55 [(.t 152)]) 148, Wp 154 148 153, mv 155 154, Wgm 156 0 155, g_ 157 (.nilc (.t 156)) 155, Wgf 158 22 157 155, Wgl 159 158 155, g_ 160 (.call 56 [(.t 159)]) 155, Wp 161 155 160, mv 2 161]
def zAc : ACode := (.seq (.ops [Wo 2 false]) (.seq (.ops zDD) .ret))
def zAY : List ARes := [.tmp 2]
theorem zDv : zS Tryz.prog Tryz.f9 = some (zAc, zAY) := by kernel_rfl
theorem zAZ {md : Bool} {args : List AV} {h : Hp} {Q : Res → Hp → Prop} (hl : zD Tryz.prog md zAc (EndQ zAY Q) (env0 162 args) h) (hn : args.length ≤ 162 := by (simp; done)) : CallL Tryz.prog zT args h Q :=
 CallL.of (md := md) Tryz.func9 zDv (by rw [Tryz.ntmps9]; exact hn) (by rw [Tryz.ntmps9]; exact hl)
abbrev zAa : Nat := 34
def zDC : LA := [mv 13 3, mv 14 0, We 15 14, Wb 16 .lss 13 15]
def zDB : LA := [mv 19 4, mv 20 0, mv 21 3, Wa 22 24 1 20 21, Wl 23 22, We 24 23, Wb 25 .lss 19 24]
def zDA : LA := [mv 28 0, mv 29 3, Wa 30 24 1 28 29, Wl 31 30, mv 32 4, mv 33 3, Wi 34 .mul 33 97, mv 35 4, Wi 36 .mul 35 13, Wb 37 .add 34 36, o_ 38 (.conv .u8 (.t 37)), Wa 39 5 1 31 32, Ws 1 39 38]
def zCz : LA := [mv 26 4, Wi 27 .add 26 1, mv 4 27]
def zCy : ACode := (.seq (.seq (.ops zDB) (.cond (.t 25) .skip (.exit 2))) (.seq (.block 3 (.ops zDA)) (.ops zCz)))
def zCx : LA := [mv 17 3, Wi 18 .add 17 1, mv 3 18]
def jW : ACode := (.seq (.seq (.ops zDC) (.cond (.t 16) .skip (.exit 0))) (.seq (.block 1 (.seq (.ops [Wm 4 0]) (.block 2 (.loop zCy)))) (.ops zCx)))
def zCw : LA := [mv 40 6, mv 41 0, We 42 41, Wb 43 .lss 40 42]
def zCv : LA := [mv 46 0, mv 47 6, Wa 48 24 1 46 47, Wl 49 48, mv 7 49]
def zCu : LA := [mv 50 8, Wi 51 .lss 50 16]
def zCO : LA := [mv 54 7, mv 55 6, o_ 56 (.bini .sub (i_ (-1)) (.t 55)), Wi 57 .mul 56 97, mv 58 8, Wi 59 .mul 58 13, Wb 60 .add 57 59, o_ 61 (.conv .u8 (.t 60)), o_ 62 (.bslice 5 1 1 [.int .u8 0] [(0, 1, (.t 61))]), o_ 63 (.app 5 1 1 (.t 54) (.t 62)), mv 7 63]
def zCN : LA := [mv 52 8, Wi 53 .add 52 1, mv 8 53]
def zCM : ACode := (.seq (.seq (.ops zCu) (.cond (.t 51) .skip (.exit 6))) (.seq (.block 7 (.ops zCO)) (.ops zCN)))
def zCL : LA := [mv 64 5, mv 65 7, o_ 66 (.bslice 24 1 1 [.nils] [(0, 1, (.t 65))]), o_ 67 (.app 24 1 24 (.t 64) (.t 66)), mv 5 67]
def zCK : LA := [mv 44 6, Wi 45 .add 44 1, mv 6 45]
def jM : ACode := (.seq (.seq (.ops zCw) (.cond (.t 43) .skip (.exit 4))) (.seq (.block 5 (.seq (.ops zCv) (.seq (.seq (.ops [Wm 8 0]) (.block 6 (.loop zCM))) (.ops zCL)))) (.ops zCK)))
def zCJ : LA := [mv 68 9, mv 69 0, We 70 69, Wb 71 .lss 68 70]
def zCI : LA := [mv 74 0, mv 75 9, Wa 76 24 1 74 75, Wl 77 76, We 78 77, mv 10 78]
def zCH : LA := [mv 79 11, mv 80 10, Wb 81 .lss 79 80]
def zCG : LA := [mv 84 0, mv 85 9, Wa 86 24 1 84 85, Wl 87 86, mv 88 11, Wa 89 5 1 87 88, Wl 90 89, mv 91 9, Wi 92 .mul 91 97, mv 93 11, Wi 94 .mul 93 13, Wb 95 .add 92 94, o_ 96 (.conv .u8 (.t 95)), Wb 97 .neq 90 96, mv 98 97, Whm 99 5 98, Whm 100 9 98, Wh 101 (.iaddr 24 1 (.t 99) (.t 100)) 98, Wh 102 (.ld1 (.t 101)) 98, Whm 103 11 98, Wh 104 (.iaddr 5 1 (.t 102) (.t 103)) 98, Wh 105 (.ld1 (.t 104)) 98, Whm 106 9 98, Wh 107 (.bini .mul (.t 106) (i_ 97)) 98, Whm 108 11 98, Wh 109 (.bini .mul (.t 108) (i_ 13)) 98, Wh 110 (.bini .add (.t 107) (.t 109)) 98, Wh 111 (.conv .u8 (.t 110)) 98, Wh 112 (.bini .neq (.t 105) (.t 111)) 98, Wq 113 98 112]
def zCF : LA := [mv 82 11, Wi 83 .add 82 1, mv 11 83]
def qF : ACode := (.seq (.seq (.ops zCH) (.cond (.t 81) .skip (.exit 10))) (.seq (.block 11 (.seq (.ops zCG) (.cond (.t 113) (.seq (.ops [Wo 2 false]) .ret) .skip))) (.ops zCF)))
def zCE : LA := [mv 114 12, Wi 115 .lss 114 16]
def zCD : LA := [mv 118 5, mv 119 9, Wa 120 24 1 118 119, Wl 121 120, mv 122 10, mv 123 12, Wb 124 .add 122 123, Wa 125 5 1 121 124, Wl 126 125, mv 127 9, o_ 128 (.bini .sub (i_ (-1)) (.t 127)), Wi 129 .mul 128 97, mv 130 12, Wi 131 .mul 130 13, Wb 132 .add 129 131, o_ 133 (.conv .u8 (.t 132)), Wb 134 .neq 126 133]
def zCC : LA := [mv 116 12, Wi 117 .add 116 1, mv 12 117]
def qE : ACode := (.seq (.seq (.ops zCE) (.cond (.t 115) .skip (.exit 12))) (.seq (.block 13 (.seq (.ops zCD) (.cond (.t 134) (.seq (.ops [Wo 2 false]) .ret) .skip))) (.ops zCC)))
def zCB : LA := [mv 72 9, Wi 73 .add 72 1, mv 9 73]
def jL : ACode := (.seq (.seq (.ops zCJ) (.cond (.t 71) .skip (.exit 8))) (.seq (.block 9 (.seq (.ops zCI) (.seq (.seq (.ops [Wm 11 0]) (.block 10 (.loop qF))) (.seq (.ops [Wm 12 0]) (.block 12 (.loop qE)))))) (.ops zCB)))
def zAb : ACode := (.seq (.ops [Wo 2 false]) (.seq (.seq (.ops [Wm 3 0]) (.block 0 (.loop jW))) (.seq (.ops [Wn 5]) (.seq (.seq (.ops [Wm 6 0]) (.block 4 (.loop jM))) (.seq (.seq (.ops [Wm 9 0]) (.block 8 (.loop jL))) (.seq (.ops [Wo 2 true]) .ret))))))
def zAX : List ARes := [.tmp 2]
theorem zDu : zS Tryz.prog Tryz.f34 = some (zAb, zAX) := by kernel_rfl
theorem zDt {md : Bool} {args : List AV} {h : Hp} {Q : Res → Hp → Prop} (hl : zD Tryz.prog md zAb (EndQ zAX Q) (env0 135 args) h) (hn : args.length ≤ 135 := by (simp; done)) : CallL Tryz.prog zAa args h Q :=
 CallL.of (md := md) Tryz.func34 zDu (by rw [Tryz.ntmps34]; exact hn) (by rw [Tryz.ntmps34]; exact hl)
end Go.Proofs.YtldbbnkacahndaaGreatDoor

namespace Go.Proofs.YtldbbnkacahndaaGreatDoor
open Go.L
abbrev Tb : TypeId := 5
abbrev Tbl : TypeId := 24
def eb (n : Int) : List AV := [.int .u8 n]
abbrev bx (l : List Int) : List (List AV) := l.map eb
def bt (l : Str) : List (List AV) := l.map fun b => [.int .u8 (b.toNat : Int)]
theorem zP (l : Str) : (bt l).length = l.length := List.length_map ..
theorem zNJ (l m : Str) : bt (l ++ m) = bt l ++ bt m := List.map_append ..
theorem zMT (l : Str) (n : Nat) : bt (l.take n) = (bt l).take n := List.map_take ..
theorem zOS (l : Str) (n : Nat) : bt (l.drop n) = (bt l).drop n := List.map_drop ..
theorem zNI {l : Str} {k : Nat} {x : UInt8} (h : l[k]? = some x) : (bt l)[k]? = some [.int .u8 (x.toNat : Int)] := by rw [bt, List.getElem?_map, h]; rfl
theorem zLl (l : Str) : ∀ cs ∈ bt l, cs.length = 1 := fun cs h => by obtain ⟨s, _, rfl⟩ := List.mem_map.1 h; rfl
theorem zKQ (l : Str) : ∀ cs ∈ bt l, flat cs = true := fun cs h => by obtain ⟨s, _, rfl⟩ := List.mem_map.1 h; rfl
theorem zEV (l : List Int) : (bx l).length = l.length := List.length_map ..
theorem qZj (l m : List Int) : bx (l ++ m) = bx l ++ bx m := List.map_append ..
theorem zRp {l : List Int} {k : Nat} {x : Int} (h : l[k]? = some x) : (bx l)[k]? = some (eb x) := by rw [List.getElem?_map, h]; rfl
theorem zOR {l : List Int} {rest : List (List AV)} {k : Nat} {x : Int} (h : l[k]? = some x) : (bx l ++ rest)[k]? = some (eb x) := by
 rw [List.getElem?_append_left (by rw [zEV]; exact (List.getElem?_eq_some_iff.1 h).1)]; exact zRp h
theorem qZi (l : List Int) : ∀ cs ∈ bx l, cs.length = 1 := fun cs h => by obtain ⟨s, _, rfl⟩ := List.mem_map.1 h; rfl
theorem qRJ (l : List Int) : ∀ cs ∈ bx l, flat cs = true := fun cs h => by obtain ⟨s, _, rfl⟩ := List.mem_map.1 h; rfl
def ints (l : Str) : List Int := l.map fun b => (b.toNat : Int)
theorem jLl (l : Str) : bt l = bx (ints l) := by simp [bt, bx, ints, eb]
theorem zMw (p : Nat → Bool) (l : Str) : zFN p (bt l) = true := by
 induction l with
 | nil => rfl
 | cons a l ih => simpa [bt, zFN, zHv, noid] using ih
theorem qQc (l : Str) : m0ss (bt l) = true := by
 induction l with
 | nil => rfl
 | cons a l ih => simpa [bt, m0ss, m0s, m0] using ih
theorem qYt (b : Nat) (l : Str) : ∀ cs ∈ bt l, ∀ v ∈ cs, v.ren b = v := fun cs h v hv => by
 obtain ⟨s, _, rfl⟩ := List.mem_map.1 h
 rw [List.mem_singleton.1 hv]; rfl
theorem zWM (p : Nat → Bool) (g : Nat) (l : Str) (hg : p g = true) : noid p (.isl g (bt l)) = true := by simp [noid, hg, zMw]
theorem zWn {x y : UInt8} (h : (x.toNat : Int) = (y.toNat : Int)) : x = y := UInt8.toNat_inj.1 (by omega)
theorem jEa {g i T k n : Nat} {h : Hp} {es ds : List (List AV)} {c : Option Nat} (hi : h i = some (.row T es)) (hk : k + n ≤ es.length) (hs : (es.drop k).take n = ds) (hn : zFN qP ds = true) : Fz qP g h (.slc i k n c) (.isl g ds) := by
 have hl : ds.length = n := by rw [← hs, List.length_take, List.length_drop]; omega
 have get : ∀ (j : Nat) (cs cs' : List AV), es[k + j]? = some cs → ds[j]? = some cs' → cs' = cs := fun j cs cs' h1 h2 => by
  have hj := (List.getElem?_eq_some_iff.1 h2).1
  rw [← hs, List.getElem?_take_of_lt (by omega), List.getElem?_drop, h1] at h2; cases h2; rfl
 refine .slc i k n _ T _ _ hi hk hl (fun j cs cs' h1 h2 => by rw [get j cs cs' h1 h2]) (fun j cs cs' q u u' h1 h2 h3 h4 => ?_)
 obtain rfl := get j cs cs' h1 h2
 rw [h3] at h4; cases h4
 exact .same _ (zDF hn j cs' q u h2 h3)
theorem qRl {g i T k : Nat} {h : Hp} {es : List (List AV)} {l : Str} {c : Option Nat} (hi : h i = some (.row T es)) (hk : k + l.length ≤ es.length) (hs : (es.drop k).take l.length = bt l) : Fz qP g h (.slc i k l.length c) (.isl g (bt l)) := jEa hi hk hs (zMw _ _)
theorem jEb {g i T : Nat} {h : Hp} {l : Str} {rest : List (List AV)} {c : Option Nat} (hi : h i = some (.row T (bt l ++ rest))) : Fz qP g h (.slc i 0 l.length c) (.isl g (bt l)) := by
 have hl := zP l
 exact qRl hi (by rw [List.length_append]; omega) (by rw [List.drop_zero, ← hl, List.take_left])
theorem qLl (ga gb : Nat) (a b : Str) (ha : a.length ≤ 1000000000000) (hb : b.length ≤ 1000000000000) : PureL Tryz.prog qL [.isl ga (bt a), .isl gb (bt b)] (.bool (a == b)) := by
 intro h
 have hta := zP a
 have htb := zP b
 refine zDK (md := false) ?_
 have no : a ≠ b → false = (a == b) := fun h => by symm; rw [beq_eq_false_iff_ne]; exact h
 refine s_ne (fun h1 => ?_) (fun h1 => ?_)
 ·exact ⟨rfl, Res.bool_eq (no fun e => h1 (by rw [e])), rfl⟩
 refine zAo a.length (fun k (_ : Unit) => k ≤ a.length ∧ ∀ (j : Nat), j < k → a[j]? = b[j]?) (fun k _ => [(0, .isl ga (bt a)), (1, .isl gb (bt b)), (5, .int .i64 k)]) (fun _ _ => h) ()
  ⟨Nat.zero_le _, fun j hj => by omega⟩ rfl rfl ⟨rfl, rfl, rfl, trivial⟩ (fun k s hI => hI.1) ?_
 intro k _ n0 g0 hk ⟨_, hall⟩
 refine s_lt (fun h2 => ?_) (fun h2 => ?_)
 ·obtain ⟨x, hx⟩ := zR (l := a) (k := k) (by omega)
  obtain ⟨y, hy⟩ := zR (l := b) (k := k) (by omega)
  refine s_at k x rfl hx rfl (by decide) ?_
  refine ⟨_, rfl, ?_⟩
  refine s_at k y rfl hy rfl (by decide) ?_
  refine ⟨_, rfl, ?_⟩
  refine s_ne (fun h3 => ?_) (fun h3 => ?_)
  ·refine ⟨rfl, Res.bool_eq (no fun e => h3 ?_), rfl⟩
   subst e; rw [hx] at hy; cases hy; rfl
  ·refine zN (k + 1) (by omega) (by omega) ?_
   refine ⟨(), by omega, ⟨by omega, fun j hj => ?_⟩, rfl, rfl, rfl, rfl, rfl, trivial⟩
   by_cases e : j = k
   ·subst e; rw [hx, hy, zWn h3]
   ·exact hall j (by omega)
 ·refine ⟨rfl, Res.bool_eq ?_, rfl⟩
  symm; rw [beq_iff_eq]
  refine List.ext_getElem? fun j => ?_
  rcases Nat.lt_or_ge j k with hj | hj
  ·exact hall j hj
  ·rw [List.getElem?_eq_none (by omega), List.getElem?_eq_none (by omega)]
def zFv : Str := [91, 92, 93, 94, 95, 96, 97, 98]
set_option maxHeartbeats 2000000 in
theorem zOW (g : Nat) (l : Str) (h : Hp) (hl : l.length ≤ 1000000000) :
  CallL Tryz.prog qM [.isl g (bt l)] h fun r h' => ∃ i, r = .ret (.slc i 0 l.length (some (l.length + 8))) ∧ h.u i = false ∧ Gr h h' ∧ h' i = some (.row Tb (bt (l ++ zFv))) := by
 have htl := zP l
 refine zDL (md := false) ?_
 refine zN (l.length + 8) (by omega) (by omega) ?_
 refine ⟨0, l.length + 8, rfl, rfl, Nat.zero_le _, by unfold zJ; omega, by unfold zJ; omega, fun i hi => ?_⟩
 have hrep : (List.replicate (l.length + 8) [AV.int .u8 0]).length = l.length + 8 := List.length_replicate
 refine ⟨bt l, rfl, zLl _, _, Hp.set_same _ _ _, Nat.zero_le _, zKQ _, .inl ⟨by omega, by rw [hrep]; omega, ?_⟩⟩
 refine ⟨_, rfl, fun tb htb => ?_⟩
 have hne : i ≠ tb := fun e => by
  have := htb.1
  rw [← e, Hp.set_u, if_pos rfl] at this; cases this
 have e1 : (List.replicate (l.length + 8) [AV.int .u8 0]).take (0 + 0) ++ bt l ++ (List.replicate (l.length + 8) [AV.int .u8 0]).drop (0 + 0 + (bt l).length) = bt l ++ List.replicate 8 [AV.int .u8 0] := by
  rw [htl, List.drop_replicate, show l.length + 8 - (0 + 0 + l.length) = 8 by omega]; rfl
 refine ⟨bt zFv, ⟨_, _, Hp.set_same _ _ _, Nat.le_refl _, rfl⟩, zLl _, _, (Hp.set_ne hne).trans (Hp.set_same _ _ _), by rw [e1, List.length_append]; omega, zKQ _, .inl ⟨?_, ?_, ?_⟩⟩
 ·rw [Nat.zero_add, htl]; exact Nat.le_refl _
 ·rw [e1, List.length_append, Nat.zero_add, Nat.zero_add]; exact Nat.le_refl _
 have e2 : (bt l ++ List.replicate 8 [AV.int .u8 0]).take (0 + (0 + (bt l).length)) ++ bt zFv ++ (bt l ++ List.replicate 8 [AV.int .u8 0]).drop (0 + (0 + (bt l).length) + (bt zFv).length) = bt (l ++ zFv) := by
  rw [Nat.zero_add, Nat.zero_add, List.take_left, List.drop_of_length_le (by rw [List.length_append]; exact Nat.le_refl _), List.append_nil, zNJ]
 rw [e1, e2]
 refine ⟨⟨_, Hp.set_same _ _ _⟩, (bt l).length, rfl, Nat.zero_le _, by rw [htl]; exact Nat.le_add_right _ _, ?_⟩
 refine ⟨rfl, i, ?_, hi.1, ?_, Hp.set_same _ _ _⟩
 ·show Res.ret (.slc i (0 + 0) ((bt l).length - 0) (some (l.length + 8 - 0))) = _
  rw [htl]; rfl
 ·exact ((((Gr.refl h).set hi.1 _).set hi.1 _).set ((((Gr.refl h).set hi.1 _).set hi.1 _).new htb.1) _).set hi.1 _
theorem zNN (i n c : Nat) (l : List (List AV)) (h : Hp) (hi : h i = some (.row Tb l)) (hl : l.length = c) (hn : n ≤ c) (hc : c ≤ 1000000000000) (h1 : ∀ cs ∈ l, cs.length = 1) :
  CallL Tryz.prog jT [.slc i 0 n (some c)] h fun r h' => r = .ret (.tup []) ∧ ∃ l', l'.length = c ∧ h' = h.set i (.row Tb l') := by
 refine zCn (md := false) ?_
 refine ⟨⟨_, hi⟩, c, rfl, Nat.zero_le _, Nat.le_refl _, ?_⟩
 refine zAo c (fun k (s : List (List AV)) => k ≤ c ∧ s.length = c ∧ ∀ cs ∈ s, cs.length = 1) (fun k _ => [(2, .slc i 0 c (some c)), (3, .int .i64 k)]) (fun _ s => h.set i (.row Tb s)) l ⟨Nat.zero_le _, hl, h1⟩ (Hp.set_self hi).symm rfl ⟨rfl, rfl, trivial⟩ (fun k s hI => hI.1) ?_
 rintro k s n0 g0 hk ⟨_, hsl, hs1⟩
 refine s_lt (fun h1 => ?_) (fun h1 => ?_)
 ·obtain ⟨x, hx⟩ := zR (l := s) (k := k) (by omega)
  have hx1 := hs1 x (List.mem_of_getElem? hx)
  refine ⟨k, rfl, by omega, ⟨_, Hp.set_same _ _ _⟩, ?_⟩
  refine ⟨_, _, _, Hp.set_same _ _ _, (by rw [Nat.zero_add]; exact hx), rfl, rfl, rfl, by omega, ?_⟩
  refine zN (k + 1) (by omega) (by omega) ?_
  refine ⟨s.set (0 + k) (x.take 0 ++ [.int .u8 238] ++ x.drop (0 + 1)), by omega, ⟨by omega, by rw [List.length_set, hsl], fun cs hcs => ?_⟩, Hp.set_set _ _ _ _, rfl, rfl, rfl, trivial⟩
  rcases List.mem_or_eq_of_mem_set hcs with h2 | rfl
  ·exact hs1 cs h2
  ·rw [List.drop_of_length_le (by omega)]; rfl
 ·exact ⟨rfl, rfl, s, hsl, rfl⟩
end Go.Proofs.YtldbbnkacahndaaGreatDoor

namespace Go.Proofs.YtldbbnkacahndaaGreatDoor
open Go.L
abbrev zGY : Nat := 80
def zJH : LA := [mv 3 0, o_ 4 (.isnilu false (.t 3))]
def zJG : LA := [o_ 5 (.bslice0 5), mv 6 0, o_ 7 (.app 5 1 1 (.t 5) (.t 6)), mv 2 7]
def zGe : ACode := (.seq (.ops [Wn 2]) (.seq (.seq (.ops zJH) (.cond (.t 4) (.seq (.ops [Wn 2]) .ret) .skip)) (.seq (.ops zJG) .ret)))
def zGS : List ARes := [.tmp 2]
theorem zLG : zS Tryz.prog Tryz.f80 = some (zGe, zGS) := by kernel_rfl
theorem zKz {md : Bool} {args : List AV} {h : Hp} {Q : Res → Hp → Prop} (hl : zD Tryz.prog md zGe (EndQ zGS Q) (env0 8 args) h) (hn : args.length ≤ 8 := by (simp; done)) : CallL Tryz.prog zGY args h Q :=
 CallL.of (md := md) Tryz.func80 zLG (by rw [Tryz.ntmps80]; exact hn) (by rw [Tryz.ntmps80]; exact hl)
abbrev zGU : Nat := 19
def zJA : LA := [mv 3 0, Wi 4 .geq 3 0, mv 5 4, Wgm 6 0 5, g_ 7 (.bini .leq (.t 6) (i_ 16777216)) 5, Wp 8 5 7, mv 2 8]
def zGa : ACode := (.seq (.ops [Wo 2 false]) (.seq (.ops zJA) .ret))
def zGO : List ARes := [.tmp 2]
theorem zLC : zS Tryz.prog Tryz.f19 = some (zGa, zGO) := by kernel_rfl
theorem zKv {md : Bool} {args : List AV} {h : Hp} {Q : Res → Hp → Prop} (hl : zD Tryz.prog md zGa (EndQ zGO Q) (env0 9 args) h) (hn : args.length ≤ 9 := by (simp; done)) : CallL Tryz.prog zGU args h Q :=
 CallL.of (md := md) Tryz.func19 zLC (by rw [Tryz.ntmps19]; exact hn) (by rw [Tryz.ntmps19]; exact hl)
end Go.Proofs.YtldbbnkacahndaaGreatDoor

namespace Go.Proofs.YtldbbnkacahndaaGreatDoor
open Go.L
theorem zNV (i k T : Nat) (c : Option Nat) (es : List (List AV)) (l : Str) (h : Hp) (hi : h i = some (.row T es)) (hk : k + l.length ≤ es.length) (hs : (es.drop k).take l.length = bt l) (hl : l.length ≤ 1000000000000) :
  CallL Tryz.prog zGY [.slc i k l.length c] h fun r h' => ∃ v, r = .ret v ∧ NewX Tb h h' v (bt l) := by
 have htl := zP l
 refine zKz (md := false) ?_
 refine .inr fun j hj => ?_
 have hne : i ≠ j := qN (Hp.used hi) hj.1
 refine ⟨bt l, ⟨T, es, (Hp.set_ne hne).trans hi, hk, hs.symm⟩, zLl _, _, Hp.set_same _ _ _, Nat.le_refl _, zKQ _, ?_⟩
 by_cases h0 : l = []
 ·subst h0
  refine .inl ⟨Nat.le_refl _, Nat.le_refl _, ?_⟩
  refine ⟨rfl, _, rfl, .inr ⟨j, _, _, rfl, Hp.set_same _ _ _, rfl, Nat.le_refl _, .inr rfl⟩, ((Gr.refl h).set hj.1 _).set hj.1 _, fun b hb => by cases hb; exact hj.1⟩
 ·have hpos := List.length_pos_iff.2 h0
  refine .inr ⟨by omega, by rw [htl]; unfold zJ; omega, by rw [htl]; unfold zJ; omega, fun q hq => ?_⟩
  refine ⟨rfl, .slc q 0 (0 + (bt l).length) none, rfl, .inr ⟨q, bt l, none, by rw [Nat.zero_add], Hp.set_same _ _ _, List.take_length, Nat.le_refl _, .inl rfl⟩, ((Gr.refl h).set hj.1 _).set (((Gr.refl h).set hj.1 _).new hq.1) _, fun b hb => by cases hb; exact ((Gr.refl h).set hj.1 _).new hq.1⟩
theorem qQE (n : Int) : PureL Tryz.prog zGU [.int .i64 n] (.bool (decide (0 ≤ n ∧ n ≤ 16777216))) := by
 intro h
 refine zKv (md := false) ?_
 refine s_le (fun h1 => ?_) (fun h1 => ?_)
 ·refine s_le (fun h2 => ?_) (fun h2 => ?_)
  ·exact ⟨rfl, Res.bool_eq (decide_eq_true ⟨h1, h2⟩).symm, rfl⟩
  ·exact ⟨rfl, Res.bool_eq (decide_eq_false fun h => by omega).symm, rfl⟩
 ·exact ⟨rfl, Res.bool_eq (decide_eq_false fun h => by omega).symm, rfl⟩
end Go.Proofs.YtldbbnkacahndaaGreatDoor

namespace Go.Proofs.YtldbbnkacahndaaGreatDoor
open Go.L
abbrev zEZ : Nat := 85
def zHj : LA := [mv 3 0, o_ 4 (.call 80 [(.t 3)]), mv 5 0, We 6 5, o_ 7 (.build [.nils, .int .i64 (0), .int .i64 (0), .int .i64 (0), .int .i64 0] [(0, 1, (.t 4)), (2, 1, (.t 6))]), o_ 8 (.box 287 5 (.t 7)), mv 2 8]
def zEd : ACode := (.seq (.ops [o_ 2 (.mov (.c (.nilp)))]) (.seq (.ops zHj) .ret))
def zEW : List ARes := [.tmp 2]
theorem zIx : zS Tryz.prog Tryz.f85 = some (zEd, zEW) := by kernel_rfl
theorem zIu {md : Bool} {args : List AV} {h : Hp} {Q : Res → Hp → Prop} (hl : zD Tryz.prog md zEd (EndQ zEW Q) (env0 9 args) h) (hn : args.length ≤ 9 := by (simp; done)) : CallL Tryz.prog zEZ args h Q :=
 CallL.of (md := md) Tryz.func85 zIx (by rw [Tryz.ntmps85]; exact hn) (by rw [Tryz.ntmps85]; exact hl)
abbrev zBc : Nat := 113
def zFg : LA := [mv 6 0, Wc 7 6, Wf 8 3 7, Wl 9 8, Wi 10 .eql 9 0]
def zFf : LA := [mv 11 0, mv 12 0, mv 13 1, mv 14 2, Wc 15 11, Wf 16 3 15, Ws 1 16 13, Wc 17 12, Wf 18 4 17, Ws 1 18 14]
def zBe : ACode := (.seq (.ops zFg) (.cond (.t 10) (.ops zFf) .skip))
def zBY : List ARes := []
theorem zGs : zS Tryz.prog Tryz.f113 = some (zBe, zBY) := by kernel_rfl
theorem zGp {md : Bool} {args : List AV} {h : Hp} {Q : Res → Hp → Prop} (hl : zD Tryz.prog md zBe (EndQ zBY Q) (env0 19 args) h) (hn : args.length ≤ 19 := by (simp; done)) : CallL Tryz.prog zBc args h Q :=
 CallL.of (md := md) Tryz.func113 zGs (by rw [Tryz.ntmps113]; exact hn) (by rw [Tryz.ntmps113]; exact hl)
abbrev zDM : Nat := 87
def zGx : LA := [Wm 2 0, Wm 3 0]
def zGw : LA := [mv 4 0, Wc 5 4, Wf 6 3 5, Wl 7 6, Wi 8 .eql 7 0]
def zGv : LA := [Wm 2 0, Wm 3 0]
def zGu : LA := [mv 9 0, Wc 10 9, Wf 11 3 10, Wl 12 11, mv 13 0, Wc 14 13, Wf 15 4 14, Wl 16 15, mv 2 12, mv 3 16]
def zDQ : ACode := (.seq (.ops zGx) (.seq (.seq (.ops zGw) (.cond (.t 8) (.seq (.ops zGv) .ret) .skip)) (.seq (.alts [9, 10, 11, 12, 13, 14, 15, 16, 2, 3] [zGu]) .ret)))
def zDI : List ARes := [.tmp 2, .tmp 3]
theorem zII : zS Tryz.prog Tryz.f87 = some (zDQ, zDI) := by kernel_rfl
theorem zIG {md : Bool} {args : List AV} {h : Hp} {Q : Res → Hp → Prop} (hl : zD Tryz.prog md zDQ (EndQ zDI Q) (env0 17 args) h) (hn : args.length ≤ 17 := by (simp; done)) : CallL Tryz.prog zDM args h Q :=
 CallL.of (md := md) Tryz.func87 zII (by rw [Tryz.ntmps87]; exact hn) (by rw [Tryz.ntmps87]; exact hl)
abbrev zBE : Nat := 86
def zEs : LA := [mv 6 0, Wc 7 6, Wf 8 3 7, Wl 9 8, Wi 10 .neq 9 0]
def zEr : LA := [mv 11 4, Wi 12 .lss 11 10]
def zEq : LA := [mv 15 0, Wc 16 15, Wf 17 1 16, Wl 18 17, mv 19 4, Wb 20 .add 18 19, mv 21 0, Wc 22 21, Wf 23 2 22, Wl 24 23, Wb 25 .geq 20 24]
def zEp : LA := [mv 26 0, mv 27 0, Wc 28 27, Wf 29 1 28, Wl 30 29, o_ 31 (.call 113 [(.t 26), (i_ 10), (.t 30)])]
def zEo : LA := [mv 32 0, Wc 33 32, Wf 34 0 33, Wl 35 34, mv 36 0, Wc 37 36, Wf 38 1 37, Wl 39 38, mv 40 4, Wb 41 .add 39 40, Wa 42 5 1 35 41, Wl 43 42, mv 5 43]
def zEn : LA := [mv 44 4, Wi 45 .eql 44 9, mv 46 45, Wgm 47 5 46, g_ 48 (.bini .gtr (.t 47) (.c (.int .u8 1))) 46, Wp 49 46 48]
def zEm : LA := [mv 50 3, mv 51 5, o_ 52 (.bini .and (.t 51) (.c (.int .u8 127))), o_ 53 (.conv .u64 (.t 52)), mv 54 4, o_ 55 (.bini .mul (i_ 7) (.t 54)), Wb 56 .shl 53 55, Wb 57 .or 50 56, mv 3 57]
def zEl : LA := [mv 58 5, o_ 59 (.bini .lss (.t 58) (.c (.int .u8 128)))]
def zEk : LA := [mv 60 0, Wc 61 60, Wf 62 1 61, Wl 63 62, mv 64 4, Wi 65 .add 64 1, Wb 66 .add 63 65, Wc 67 60, Wf 68 1 67, Ws 1 68 66]
def zEj : LA := [mv 69 3, mv 2 69]
def zDy : LA := [mv 13 4, Wi 14 .add 13 1, mv 4 14]
def zDx : ACode := (.seq (.seq (.ops zEr) (.cond (.t 12) .skip (.exit 0))) (.seq (.block 1 (.seq (.seq (.alts [15, 16, 17, 18, 19, 20, 21, 22, 23, 24, 25] [zEq]) (.cond (.t 25) (.seq (.ops zEp) (.seq (.ops [o_ 2 (.mov (.c (.int .u64 0)))]) .ret)) .skip)) (.seq (.alts [32, 33, 34, 35, 36, 37, 38, 39, 40, 41, 42, 43, 5] [zEo]) (.seq (.seq (.ops zEn) (.cond (.t 49) (.exit 0) .skip)) (.seq (.ops zEm) (.seq (.ops zEl) (.cond (.t 59) (.seq (.ops zEk) (.seq (.ops zEj) .ret)) .skip))))))) (.ops zDy)))
def zDw : LA := [mv 70 0, mv 71 0, Wc 72 71, Wf 73 1 72, Wl 74 73, o_ 75 (.call 113 [(.t 70), (i_ 11), (.t 74)])]
def zBH : ACode := (.seq (.ops [o_ 2 (.mov (.c (.int .u64 0)))]) (.seq (.ops [o_ 3 (.mov (.c (.int .u64 0)))]) (.seq (.seq (.ops zEs) (.cond (.t 10) (.seq (.ops [o_ 2 (.mov (.c (.int .u64 0)))]) .ret) .skip)) (.seq (.seq (.ops [Wm 4 0]) (.block 0 (.loop zDx))) (.seq (.ops zDw) (.seq (.ops [o_ 2 (.mov (.c (.int .u64 0)))]) .ret))))))
def zBB : List ARes := [.tmp 2]
theorem zGC : zS Tryz.prog Tryz.f86 = some (zBH, zBB) := by kernel_rfl
theorem zFx {md : Bool} {args : List AV} {h : Hp} {Q : Res → Hp → Prop} (hl : zD Tryz.prog md zBH (EndQ zBB Q) (env0 76 args) h) (hn : args.length ≤ 76 := by (simp; done)) : CallL Tryz.prog zBE args h Q :=
 CallL.of (md := md) Tryz.func86 zGC (by rw [Tryz.ntmps86]; exact hn) (by rw [Tryz.ntmps86]; exact hl)
end Go.Proofs.YtldbbnkacahndaaGreatDoor

namespace Go.Proofs.YtldbbnkacahndaaGreatDoor
open Go.L
abbrev TR : TypeId := 287
def RdC (v : AV) (at_ en e w : Int) : List AV := [v, .int .i64 at_, .int .i64 en, .int .i64 e, .int .i64 w]
theorem zOV (i k T : Nat) (c : Option Nat) (es : List (List AV)) (l : Str) (h : Hp) (hi : h i = some (.row T es)) (hk : k + l.length ≤ es.length) (hs : (es.drop k).take l.length = bt l) (hl : l.length ≤ 1000000000000) :
  CallL Tryz.prog zEZ [.slc i k l.length c] h fun r h' => ∃ R cv, r = .ret (.ptr R 0 0) ∧ h.u R = false ∧ Gr h h' ∧ h' R = some (.row TR [RdC cv 0 l.length 0 0]) ∧ OwnX Tb h' cv (bt l) ∧ zG cv ≠ some R := by
 refine zIu (md := false) ?_
 refine (zNV i k T c es l h hi hk hs hl).mono ?_
 rintro r h1 ⟨v, rfl, ho, hg, hn⟩
 have h1v := ho.one
 have hlay : ∀ e : Env, ∀ x y : AOpd, ev e x = v → ev e y = .int .i64 l.length → lay e [.nils, .int .i64 0, .int .i64 0, .int .i64 0, .int .i64 0] [(0, 1, x), (2, 1, y)] = some (RdC v 0 l.length 0 0) := by
  intro e x y hx hy
  rw [lay, hx, h1v.1, h1v.2.1]
  simp only [List.length_cons, List.length_nil, Nat.reduceAdd, Bool.true_and, Nat.beq_eq, Nat.ble_eq]
  show lay e _ _ = _
  rw [lay, hy]
  rfl
 refine ⟨_, hlay _ _ _ rfl rfl, ?_⟩
 refine ⟨rfl, rfl, fun R hR => ?_⟩
 have hne : zG v ≠ some R := fun e => by have := ho.used e; rw [hR.1] at this; cases this
 exact ⟨rfl, R, v, rfl, hg.new hR.1, hg.set (hg.new hR.1) _, Hp.set_same _ _ _, ho.gr (Gr.new1 _ hR.1 _), hne⟩
theorem zOl (R : Nat) (cv : AV) (at_ en w e p : Int) (h : Hp) (hR : h R = some (.row TR [RdC cv at_ en 0 w])) :
  CallL Tryz.prog zBc [.ptr R 0 0, .int .i64 e, .int .i64 p] h fun r h' => r = .ret (.tup []) ∧ h' = h.set R (.row TR [RdC cv at_ en e p]) := by
 refine zGp (md := false) ?_
 refine ⟨_, _, _, _, hR, rfl, rfl, ?_⟩
 refine s_eq (fun _ => ?_) (fun h1 => absurd rfl h1)
 refine ⟨_, _, _, hR, rfl, rfl, rfl, rfl, by show 4 ≤ 5; decide, ?_⟩
 refine ⟨_, _, _, Hp.set_same _ _ _, rfl, rfl, rfl, rfl, by show 5 ≤ 5; decide, ?_⟩
 exact ⟨rfl, rfl, Hp.set_set _ _ _ _⟩
theorem zQY (R : Nat) (cv : AV) (at_ en e w : Int) (h : Hp) (hR : h R = some (.row TR [RdC cv at_ en e w])) :
  CallL Tryz.prog zDM [.ptr R 0 0] h fun r h' => r = .ret (.tup [.int .i64 e, .int .i64 (if e = 0 then 0 else w)]) ∧ h' = h := by
 refine zIG (md := false) ?_
 refine ⟨_, _, _, _, hR, rfl, rfl, ?_⟩
 refine s_eq (fun (h1 : e = 0) => ?_) (fun (h1 : e ≠ 0) => ?_)
 ·subst h1; exact ⟨rfl, rfl, rfl⟩
 ·refine ⟨_, _, _, _, hR, rfl, rfl, ?_⟩
  refine ⟨_, _, _, _, hR, rfl, rfl, ?_⟩
  exact ⟨rfl, by rw [if_neg h1]; rfl, rfl⟩
set_option maxRecDepth 20000 in
theorem qRQ : ∀ x : Fin 256, (BitVec.ofNat 8 x.val &&& 127#8).toNat = x.val % 128 := by decide
theorem qMG (c : UInt8) : zFw .and .u8 (c.toNat : Int) 127 = ((c.toNat % 128 : Nat) : Int) := by
 have hc := c.toNat_lt
 have h1 := qRQ ⟨c.toNat, by omega⟩
 have e : BitVec.ofInt IntKind.u8.bits ((c.toNat : Nat) : Int) = BitVec.ofNat 8 c.toNat := BitVec.ofInt_natCast 8 _
 have e2 : BitVec.ofInt IntKind.u8.bits 127 = 127#8 := rfl
 rw [zFw, e, e2]
 show IntKind.u8.wrap ((BitVec.ofNat 8 c.toNat &&& 127#8).toNat : Int) = _
 rw [h1, qYk]
 show (((c.toNat % 128) % 256 : Nat) : Int) = _
 omega
theorem qLr {a y i : Nat} (ha : a < 2 ^ (7 * i)) (x : Nat) (hy : y = x * 2 ^ (7 * i)) (hb : a + y < 18446744073709551616) : zFw .or .u64 (a : Int) (y : Int) = ((a + y : Nat) : Int) := by
 have e : ∀ n : Nat, BitVec.ofInt IntKind.u64.bits (n : Int) = BitVec.ofNat 64 n := fun n => BitVec.ofInt_natCast 64 n
 rw [zFw, e, e]
 show IntKind.u64.wrap ((BitVec.ofNat 64 a ||| BitVec.ofNat 64 y).toNat : Int) = _
 have h1 : (BitVec.ofNat 64 a ||| BitVec.ofNat 64 y).toNat = a + y := by
  rw [BitVec.toNat_or, BitVec.toNat_ofNat, BitVec.toNat_ofNat, Nat.mod_eq_of_lt (by omega), Nat.mod_eq_of_lt (by omega), Nat.or_comm, hy, Nat.mul_comm, ← Nat.two_pow_add_eq_or_of_lt ha]
  omega
 rw [h1, zAj hb]
theorem shl7 {x i : Nat} (h : x * 2 ^ (7 * i) < 18446744073709551616) (hi : i ≤ 9) : IntKind.u64.wrap ((x : Int) * 2 ^ (min ((7 * i : Nat) : Int).toNat IntKind.u64.bits)) = ((x * 2 ^ (7 * i) : Nat) : Int) := by
 rw [show min ((7 * i : Nat) : Int).toNat IntKind.u64.bits = 7 * i from Nat.min_eq_left (by show 7 * i ≤ 64; omega)]
 have e : (x : Int) * 2 ^ (7 * i) = ((x * 2 ^ (7 * i) : Nat) : Int) := by simp
 rw [e, zAj h]
theorem p128 (i : Nat) : 128 ^ i = 2 ^ (7 * i) := by rw [Nat.pow_mul]
def VarQ (R : Nat) (cv : AV) (at_ en : Nat) (w : Int) (rest : Str) (h : Hp) (r : Res) (h' : Hp) : Prop := match rdV rest with
 | .ok v n => r = .ret (.int .u64 v) ∧ h' = h.set R (.row TR [RdC cv (at_ + n : Nat) en 0 w])
 | .short => r = .ret (.int .u64 0) ∧ h' = h.set R (.row TR [RdC cv at_ en 10 at_])
 | .long => r = .ret (.int .u64 0) ∧ h' = h.set R (.row TR [RdC cv at_ en 11 at_])
theorem VarQ.ok {R : Nat} {cv : AV} {at_ en : Nat} {w : Int} {rest : Str} {h : Hp} {v n : Nat} (e : rdV rest = .ok v n) : VarQ R cv at_ en w rest h (.ret (.int .u64 v)) (h.set R (.row TR [RdC cv (at_ + n : Nat) en 0 w])) := by
 unfold VarQ; rw [e]; exact ⟨rfl, rfl⟩
theorem VarQ.short {R : Nat} {cv : AV} {at_ en : Nat} {w : Int} {rest : Str} {h : Hp} (e : rdV rest = .short) : VarQ R cv at_ en w rest h (.ret (.int .u64 0)) (h.set R (.row TR [RdC cv at_ en 10 at_])) := by
 unfold VarQ; rw [e]; exact ⟨rfl, rfl⟩
theorem VarQ.long {R : Nat} {cv : AV} {at_ en : Nat} {w : Int} {rest : Str} {h : Hp} (e : rdV rest = .long) : VarQ R cv at_ en w rest h (.ret (.int .u64 0)) (h.set R (.row TR [RdC cv at_ en 11 at_])) := by
 unfold VarQ; rw [e]; exact ⟨rfl, rfl⟩
theorem qLp : ∀ (f i acc : Nat) (b : Str) (v n : Nat), f + i ≤ 10 → acc < 128 ^ i → rdN f i acc b = .ok v n → n ≤ i + b.length ∧ i < n ∧ v < 18446744073709551616
 | 0, _, _, _, _, _, _, _, h => by cases h
 | f + 1, i, acc, [], _, _, _, _, h => by cases h
 | f + 1, i, acc, c :: r, v, n, hf, ha, h => by
  rw [rdN] at h
  have hp : acc + c.toNat % 128 * 128 ^ i < 128 ^ (i + 1) := by
   have h1 : c.toNat % 128 * 128 ^ i ≤ 127 * 128 ^ i := Nat.mul_le_mul_right _ (by omega)
   rw [Nat.pow_succ']; omega
  split at h
  ·cases h
  ·rename_i h9
   split at h
   ·rename_i h8
    cases h
    refine ⟨by rw [List.length_cons]; omega, by omega, ?_⟩
    by_cases e : i = 9
    ·subst e
     have hc1 : c.toNat ≤ 1 := by
      rcases Nat.lt_or_ge 1 c.toNat with h | h
      ·exact absurd ⟨rfl, h⟩ h9
      ·exact h
     have : c.toNat % 128 * 128 ^ 9 ≤ 1 * 128 ^ 9 := Nat.mul_le_mul_right _ (by omega)
     omega
    ·have : 128 ^ (i + 1) ≤ 128 ^ 9 := Nat.pow_le_pow_right (by decide) (by omega)
     omega
   ·have := qLp f (i + 1) _ r v n (by omega) hp h
    rw [List.length_cons]; omega
theorem zJr {b : Str} {v n : Nat} (h : rdV b = .ok v n) : n ≤ b.length ∧ 0 < n ∧ v < 18446744073709551616 := by
 have := qLp 10 0 0 b v n (by decide) (by decide) h
 omega
set_option maxHeartbeats 2000000 in
theorem zQX (R : Nat) (cv : AV) (at_ en : Nat) (w : Int) (b : Str) (h : Hp) (hR : h R = some (.row TR [RdC cv at_ en 0 w])) (ho : OwnX Tb h cv (bt b)) (hcR : zG cv ≠ some R) (h1 : at_ ≤ en) (h2 : en ≤ b.length) (hb : b.length ≤ 1000000000000) :
  CallL Tryz.prog zBE [.ptr R 0 0] h (VarQ R cv at_ en w ((b.take en).drop at_) h) := by
 refine zFx (md := false) ?_
 refine ⟨_, _, _, _, hR, rfl, rfl, ?_⟩
 refine s_ne (fun h3 => absurd rfl h3) (fun _ => ?_)
 have hrl : ((b.take en).drop at_).length = en - at_ := by rw [List.length_drop, List.length_take]; omega
 have hset : h.set R (.row TR [RdC cv at_ en 0 w]) = h := Hp.set_self hR
 refine zEg (id := 0) (fun e' h' => h' = h ∧ e'.ds = [] ∧ rdV ((b.take en).drop at_) = .long ∧ Has e' [(0, .ptr R 0 0)]) ?_ ?_
 ·refine zAo 10 (fun k (s : Nat) => k ≤ 10 ∧ s < 128 ^ k ∧ rdV ((b.take en).drop at_) = rdN (10 - k) k s (((b.take en).drop at_).drop k)) (fun k s => [(0, .ptr R 0 0), (3, .int .u64 (s : Nat)), (4, .int .i64 k)]) (fun _ _ => h) 0 ⟨Nat.zero_le _, by decide, rfl⟩ rfl rfl ⟨rfl, rfl, rfl, trivial⟩ (fun k s hI => hI.1) ?_
  rintro k acc n0 g0 hk ⟨_, hacc, hrd⟩
  refine s_lt (fun (h3 : (k : Int) < 10) => ?_) (fun (h3 : (10 : Int) ≤ k) => ?_)
  ·have hf : 10 - k = (9 - k) + 1 := by omega
   rw [hf] at hrd
   refine ⟨_, _, _, _, hR, rfl, rfl, ?_⟩
   refine zN (at_ + k) (by omega) (by omega) ?_
   refine ⟨_, _, _, _, hR, rfl, rfl, ?_⟩
   refine s_le (fun (h4 : (en : Int) ≤ (at_ + k : Nat)) => ?_) (fun (h4 : ((at_ + k : Nat) : Int) < en) => ?_)
   ·have e0 : ((b.take en).drop at_).drop k = [] := List.drop_of_length_le (by omega)
    rw [e0, rdN] at hrd
    refine ⟨_, _, _, _, hR, rfl, rfl, ?_⟩
    refine (zOl R cv at_ en w 10 at_ h hR).mono ?_
    rintro r h' ⟨rfl, rfl⟩
    exact ⟨rfl, VarQ.short hrd⟩
   ·obtain ⟨c, hc⟩ := zR (l := (b.take en).drop at_) (k := k) (by omega)
    have hcb : b[at_ + k]? = some c := by
     rw [List.getElem?_drop, List.getElem?_take_of_lt (by omega)] at hc; exact hc
    rw [zHa hc, rdN] at hrd
    refine ⟨_, _, _, _, hR, rfl, rfl, ?_⟩
    refine ⟨_, _, _, _, hR, rfl, rfl, ?_⟩
    refine zN (at_ + k) (by omega) (by omega) ?_
    rcases ho with ⟨rfl, h0⟩ | ⟨B, row, q, rfl, hB, hrow, hrl2, _⟩
    ·have hb0 : b.length = 0 := by have := congrArg List.length h0; rwa [zP] at this
     have := (List.getElem?_eq_some_iff.1 hcb).1
     omega
    have hbl := zP b
    have hg : row[0 + (at_ + k)]? = some [.int .u8 (c.toNat : Int)] := by
     have := zNI hcb
     rw [← hrow, List.getElem?_take_of_lt (by omega)] at this
     rw [Nat.zero_add]; exact this
    refine ⟨at_ + k, rfl, by omega, ⟨_, hB⟩, ?_⟩
    refine ⟨_, _, _, _, hB, hg, rfl, ?_⟩
    have hcl := c.toNat_lt
    have more : ∀ (n1 : Nat) (g1 : Nat → AV), ¬ (k = 9 ∧ 1 < c.toNat) → True := fun _ _ _ => trivial
    refine s_eq (fun (h5 : (k : Int) = 9) => ?_) (fun (h5 : (k : Int) ≠ 9) => ?_)
    ·refine s_lt (fun (h6 : (1 : Int) < c.toNat) => ?_) (fun (h6 : (c.toNat : Int) ≤ 1) => ?_)
     ·rw [if_pos ⟨by omega, by omega⟩] at hrd
      exact ⟨rfl, rfl, hrd, rfl, trivial⟩
     ·rw [if_neg (by omega), if_pos (by omega)] at hrd
      have hx : c.toNat % 128 * 2 ^ (7 * k) < 18446744073709551616 := by
       obtain rfl : k = 9 := by omega
       have : c.toNat % 128 * 2 ^ (7 * 9) ≤ 1 * 2 ^ (7 * 9) := Nat.mul_le_mul_right _ (by omega)
       omega
      have hx2 : acc + c.toNat % 128 * 2 ^ (7 * k) < 18446744073709551616 := by
       obtain rfl : k = 9 := by omega
       have : c.toNat % 128 * 2 ^ (7 * 9) ≤ 1 * 2 ^ (7 * 9) := Nat.mul_le_mul_right _ (by omega)
       omega
      refine s_ie (qMG c) (s_ie (zAj (by omega)) ?_)
      refine zN (7 * k) (by omega) (by omega) ?_
      refine ⟨by omega, s_ie (shl7 hx (by omega)) ?_⟩
      refine s_ie (qLr (by rw [← p128]; exact hacc) _ rfl hx2) ?_
      refine s_lt (fun _ => ?_) (fun (h7 : (128 : Int) ≤ c.toNat) => by omega)
      refine ⟨_, _, _, _, hR, rfl, rfl, ?_⟩
      refine zN (k + 1) (by omega) (by omega) ?_
      refine zN (at_ + (k + 1)) (by omega) (by omega) ?_
      refine ⟨_, _, _, hR, rfl, rfl, rfl, rfl, by show 2 ≤ 5; decide, ?_⟩
      exact ⟨rfl, VarQ.ok (hrd.trans (by rw [p128]))⟩
    ·rw [if_neg (by omega)] at hrd
     have hx1 : c.toNat % 128 * 2 ^ (7 * k) ≤ 127 * 2 ^ (7 * k) := Nat.mul_le_mul_right _ (by omega)
     have hx3 : 2 ^ (7 * k) ≤ 2 ^ 56 := Nat.pow_le_pow_right (by decide) (by omega)
     have hacc2 : acc < 2 ^ (7 * k) := by rw [← p128]; exact hacc
     refine s_ie (qMG c) (s_ie (zAj (by omega)) ?_)
     refine zN (7 * k) (by omega) (by omega) ?_
     refine ⟨by omega, s_ie (shl7 (by omega) (by omega)) ?_⟩
     refine s_ie (qLr hacc2 _ rfl (by omega)) ?_
     refine s_lt (fun (h7 : (c.toNat : Int) < 128) => ?_) (fun (h7 : (128 : Int) ≤ c.toNat) => ?_)
     ·rw [if_pos (by omega)] at hrd
      refine ⟨_, _, _, _, hR, rfl, rfl, ?_⟩
      refine zN (k + 1) (by omega) (by omega) ?_
      refine zN (at_ + (k + 1)) (by omega) (by omega) ?_
      refine ⟨_, _, _, hR, rfl, rfl, rfl, rfl, by show 2 ≤ 5; decide, ?_⟩
      exact ⟨rfl, VarQ.ok (hrd.trans (by rw [p128]))⟩
     ·rw [if_neg (by omega)] at hrd
      refine zN (k + 1) (by omega) (by omega) ?_
      refine ⟨acc + c.toNat % 128 * 2 ^ (7 * k), by omega, ⟨by omega, ?_, ?_⟩, rfl, rfl, rfl, rfl, rfl, trivial⟩
      ·rw [p128, show 7 * (k + 1) = 7 * k + 7 by omega, Nat.pow_add]; omega
      ·rw [hrd, p128, show 10 - (k + 1) = 9 - k by omega]
  ·obtain rfl : k = 10 := by omega
   exact ⟨rfl, rfl, by rw [hrd]; rfl, rfl, trivial⟩
 ·rintro e' h' ⟨rfl, hd, hl, hs⟩
  obtain ⟨n0, g0, rfl⟩ := hs.out hd
  refine ⟨_, _, _, _, hR, rfl, rfl, ?_⟩
  refine (zOl R cv at_ en w 11 at_ h' hR).mono ?_
  rintro r h'' ⟨rfl, rfl⟩
  exact ⟨rfl, VarQ.long hl⟩
end Go.Proofs.YtldbbnkacahndaaGreatDoor

namespace Go.Proofs.YtldbbnkacahndaaGreatDoor
open Go.L
def mk8 (a b : Int) : Int := IntKind.u8.wrap (IntKind.i64.wrap (IntKind.i64.wrap (a * 97) + IntKind.i64.wrap (b * 13)))
def zEh (i : Int) (n : Nat) : List Int := (List.range n).map fun k : Nat => mk8 i k
def jN (ds : List (List Int)) : List (List Int) := (List.range ds.length).map fun i : Nat => zEh i ((ds[i]?).getD []).length
theorem zHV (i : Int) (n : Nat) : (zEh i n).length = n := by rw [zEh, List.length_map, List.length_range]
theorem zJz {i : Int} {n k : Nat} (h : k < n) : (zEh i n)[k]? = some (mk8 i k) := by rw [zEh, List.getElem?_map, List.getElem?_range h]; rfl
theorem zLd (i : Int) (n : Nat) : zEh i (n + 1) = zEh i n ++ [mk8 i (n : Nat)] := by rw [zEh, List.range_succ, List.map_append]; rfl
abbrev bxx (ds : List (List Int)) : List (List (List AV)) := ds.map bx
abbrev one (us : List AV) : List (List AV) := us.map fun u => [u]
theorem zIE {ds : List (List Int)} {i : Nat} {d : List Int} (h : ds[i]? = some d) : (bxx ds)[i]? = some (bx d) := by rw [List.getElem?_map, h]; rfl
theorem zQg {us : List AV} {i : Nat} {u : AV} (h : us[i]? = some u) : (one us)[i]? = some [u] := by rw [List.getElem?_map, h]; rfl
theorem zCj (us : List AV) : (one us).length = us.length := List.length_map _
structure Row1 (H : Hp) (j : Nat) (us : List AV) : Prop where
 row : ∃ row, H j = some (.row Tbl row) ∧ ∀ (i : Nat) (u : AV), us[i]? = some u → row[0 + i]? = some [u]
theorem jLf (us : List AV) (ds : List (List Int)) (h0 H : Hp) (j : Nat) (hr : Row1 h0 j us) (hj : ∀ u ∈ us, zG u ≠ some j) (ho : OwnCC Tb h0 us (bxx ds)) (hlen : us.length ≤ 1000000) (hd : ∀ d ∈ ds, d.length ≤ 1000000000) (e : Env) (hh : H = h0) (hds : e.ds = [])
  (hs : Has e [(0, .slc j 0 us.length none), (3, .int .i64 (0 : Nat))]) (Q : Xit → Env → Hp → Prop)
  (hQ : ∀ e' H', e'.ds = [] → Has e' [(0, .slc j 0 us.length none)] → Fr us h0 H' → OwnCC Tb H' us (bxx (jN ds)) → Q (.exit 0) e' H') :
  zD Tryz.prog false (.loop jW) Q e H := by
 subst hh
 have hdl : ds.length = us.length := by have := ho.len; rwa [List.length_map] at this
 have rd : ∀ {H' : Hp}, Fr us H H' → Row1 H' j us := fun f => by
  obtain ⟨row, h1, h2⟩ := hr.row
  exact ⟨row, (f.m j (Hp.used h1) hj).trans h1, h2⟩
 refine zAo us.length (fun i (s : Hp × List (List Int)) => i ≤ us.length ∧ Fr us H s.1 ∧ OwnCC Tb s.1 us (bxx s.2) ∧ (∀ a, i ≤ a → s.2[a]? = ds[a]?) ∧ ∀ (a : Nat) (d : List Int), a < i → ds[a]? = some d → s.2[a]? = some (zEh a d.length))
  (fun i _ => [(0, .slc j 0 us.length none), (3, .int .i64 i)]) (fun _ s => s.1) (H, ds) ⟨Nat.zero_le _, Fr.refl _ _, ho, fun _ _ => rfl, fun a d ha => by omega⟩ rfl hds hs (fun k s hI => hI.1) ?_
 rintro i ⟨H', es⟩ n0 g0 hi ⟨_, hF, hO, hE1, hE2⟩
 simp only at hF hO hE1 hE2
 have hel : es.length = us.length := by have := hO.len; rwa [List.length_map] at this
 refine s_lt (fun h1 => ?_) (fun h1 => ?_)
 ·obtain ⟨u, hu⟩ := zR (l := us) (k := i) (by omega)
  obtain ⟨d, hd'⟩ := zR (l := ds) (k := i) (by omega)
  have hdm := hd d (List.mem_of_getElem? hd')
  refine zAo d.length (fun k (s : Hp × List (List Int)) => k ≤ d.length ∧ Fr us H s.1 ∧ OwnCC Tb s.1 us (bxx s.2) ∧ (∀ a, a ≠ i → s.2[a]? = es[a]?) ∧ ∃ x, s.2[i]? = some x ∧ x.length = d.length ∧ x.take k = zEh i k)
   (fun k _ => [(0, .slc j 0 us.length none), (3, .int .i64 i), (4, .int .i64 k)]) (fun _ s => s.1) (H', es) ⟨Nat.zero_le _, hF, hO, fun _ _ => rfl, d, by rw [hE1 i (Nat.le_refl _), hd'], rfl, rfl⟩ rfl rfl ⟨rfl, rfl, rfl, trivial⟩ (fun k s hI => hI.1) ?_
  rintro k ⟨H2, fs⟩ n1 g1 hk ⟨_, hF2, hO2, hE3, x, hx, hxl, hxt⟩
  simp only at hF2 hO2 hE3 hx
  obtain ⟨row, hr1, hr2⟩ := (rd hF2).row
  have hru := hr2 i u hu
  refine ⟨i, rfl, by omega, ⟨_, hr1⟩, ?_⟩
  refine ⟨_, _, _, _, hr1, hru, rfl, ?_⟩
  have fin : d.length ≤ k → i + 1 ≤ us.length ∧ Fr us H H2 ∧ OwnCC Tb H2 us (bxx fs) ∧ (∀ a, i + 1 ≤ a → fs[a]? = ds[a]?) ∧ ∀ (a : Nat) (d : List Int), a < i + 1 → ds[a]? = some d → fs[a]? = some (zEh a d.length) := fun h2 => by
   obtain rfl : k = d.length := by omega
   refine ⟨by omega, hF2, hO2, fun a ha => (hE3 a (by omega)).trans (hE1 a (by omega)), fun a d' ha hda => ?_⟩
   by_cases e : a = i
   ·subst e
    rw [hd'] at hda; cases hda
    rw [hx, ← hxt, List.take_of_length_le (by omega)]
   ·exact (hE3 a e).trans (hE2 a d' (by omega) hda)
  rcases hO2.own i u (bx x) hu (zIE hx) with ⟨rfl, h0⟩ | ⟨b, rest, rfl, hb⟩
  ·have h00 : x = [] := List.map_eq_nil_iff.1 h0
   subst h00
   refine s_lt (fun h2 => by omega) (fun h2 => ?_)
   refine zN (i + 1) (by omega) (by omega) ?_
   exact ⟨(H2, fs), by omega, fin (by simp at hxl; omega), rfl, rfl, rfl, rfl, trivial⟩
  have htx := zEV x
  refine s_lt (fun h2 => ?_) (fun h2 => ?_)
  ·obtain ⟨y, hy⟩ := zR (l := x) (k := k) (by omega)
   obtain ⟨b', rest', hub, hb, hO3⟩ := hO2.write (c := eb (mk8 i k)) (zIE hx) (zRp hy)
   rw [hu] at hub
   obtain rfl : b = b' := by
    injection hub with hub
    injection hub
   refine ⟨i, rfl, by omega, ⟨_, hr1⟩, ?_⟩
   refine ⟨_, _, _, _, hr1, hru, rfl, ?_⟩
   refine s_i (s_i (s_i (s_i ?_)))
   refine ⟨k, rfl, by omega, ⟨_, hb⟩, ?_⟩
   refine ⟨_, _, _, hb, (by rw [Nat.zero_add]; exact zOR hy), rfl, rfl, rfl, Nat.le_refl _, ?_⟩
   refine zN (k + 1) (by omega) (by omega) ?_
   refine ⟨(_, fs.set i (x.set k (mk8 i k))), by omega, ⟨by omega, hF2.set (List.mem_of_getElem? hu) rfl, ?_, fun a ha => ?_, x.set k (mk8 i k), ?_, by rw [List.length_set, hxl], ?_⟩, rfl, rfl, rfl, rfl, rfl, trivial⟩
   ·have e : bxx (fs.set i (x.set k (mk8 i k))) = (bxx fs).set i ((bx x).set k (eb (mk8 i k))) := by
     simp only [bxx, List.map_set]
    show OwnCC _ _ us (bxx (fs.set i (x.set k (mk8 i k))))
    rw [e]; exact hO3
   ·show (fs.set i _)[a]? = _
    rw [List.getElem?_set, if_neg (Ne.symm ha)]; exact hE3 a ha
   ·show (fs.set i _)[i]? = _
    rw [List.getElem?_set, if_pos rfl, if_pos (List.getElem?_eq_some_iff.1 hx).1]
   ·rw [zLd, ← hxt, List.take_succ_of_get (x := mk8 i k) (by rw [List.getElem?_set, if_pos rfl, if_pos (by omega)]), List.take_set_of_le (Nat.le_refl _)]
  ·refine zN (i + 1) (by omega) (by omega) ?_
   exact ⟨(H2, fs), by omega, fin (by omega), rfl, rfl, rfl, rfl, trivial⟩
 ·obtain rfl : i = us.length := by omega
  refine hQ _ _ rfl ⟨rfl, trivial⟩ hF ?_
  have e : es = jN ds := by
   refine List.ext_getElem? fun a => ?_
   rcases Nat.lt_or_ge a ds.length with ha | ha
   ·obtain ⟨d, hda⟩ := zR (l := ds) (k := a) ha
    rw [hE2 a d (by omega) hda, jN, List.getElem?_map, List.getElem?_range ha]
    simp [hda]
   ·rw [List.getElem?_eq_none (by omega), List.getElem?_eq_none (by rw [jN, List.length_map, List.length_range]; exact ha)]
  rw [← e]; exact hO
theorem zRu : Tb ≠ Tbl := by decide
def XOK (H : Hp) (us : List AV) (a : Nat) (d : List Int) (x : AV) : Prop := ∃ c row q, x = .slc c 0 (d.length + 16) q ∧ H c = some (.row Tb row) ∧ (∀ (u : AV) (b : Nat), us[b]? = some u → zG u = some c → b = a) ∧ ∀ (q : Nat) (s : Int), (d ++ zEh (-1 - (a : Int)) 16)[q]? = some s → row[0 + q]? = some (eb s)
theorem qZN {h H : Hp} {w : AV} {es : List (List AV)} (a : Acc Tbl h H w es) {c : Nat} {row : List (List AV)} (hc : H c = some (.row Tb row)) : zG w ≠ some c := fun e => by
 rcases a.2 with ⟨rfl, _⟩ | ⟨j, r, rfl, _, h2, _⟩
 ·cases e
 ·cases e
  rw [h2] at hc
  injection hc with hc
  injection hc with hc _
  exact zRu hc.symm
theorem Acc.same {T : Nat} {h H H' : Hp} {v : AV} {es : List (List AV)} (a : Acc T h H v es) (g : Gr h H') (k : ∀ b, zG v = some b → H.u b = true → H' b = H b) : Acc T h H' v es := by
 rcases a.2 with k2 | ⟨j, row, rfl, h2, h3, h4⟩
 ·exact ⟨g, .inl k2⟩
 ·exact ⟨g, .inr ⟨j, row, rfl, h2, (k j rfl (Hp.used h3)).trans h3, h4⟩⟩
def inU (us : List AV) (x : Nat) : Bool := us.any fun u => zG u == some x
theorem qQi {us : List AV} {x : Nat} : inU us x = false ↔ ∀ u ∈ us, zG u ≠ some x := by
 simp [inU]
def hpO (us : List AV) (H : Hp) : Hp := ⟨fun x => cond (inU us x) none (H x), fun x => cond (inU us x) false (H.u x), fun x hx => by
 cases h : inU us x <;> rw [h] at hx
 ·exact H.ok x hx
 ·rfl, let ⟨n, hn⟩ := H.cof; ⟨n, fun x hx => by cases inU us x <;> simp [hn x hx]⟩⟩
theorem zMI {us : List AV} {H : Hp} {x : Nat} (h : ∀ u ∈ us, zG u ≠ some x) : hpO us H x = H x ∧ (hpO us H).u x = H.u x := by
 have := qQi.2 h
 exact ⟨by show cond (inU us x) _ _ = _; rw [this]; rfl, by show cond (inU us x) _ _ = _; rw [this]; rfl⟩
theorem zOv {us : List AV} {H : Hp} {x : Nat} (h : (hpO us H).u x = true) : (∀ u ∈ us, zG u ≠ some x) ∧ H.u x = true := by
 have h' : cond (inU us x) false (H.u x) = true := h
 cases e : inU us x <;> rw [e] at h'
 ·exact ⟨qQi.1 e, h'⟩
 ·cases h'
theorem qLv (us : List AV) (H : Hp) : Gr (hpO us H) H := ⟨fun x hx => (zMI (zOv hx).1).1.symm, fun x hx => (zOv hx).2⟩
theorem qZV {us : List AV} {H H' : Hp} (g : Gr (hpO us H) H') (h : ∀ u ∈ us, ∀ b, zG u = some b → H'.u b = true) : Fr us H H' := by
 refine ⟨fun x h1 h2 => ?_, fun x h1 => ?_⟩
 ·have := zMI (H := H) h2
  rw [← this.1]; exact g.m x (this.2.trans h1)
 ·by_cases e : inU us x = true
  ·simp only [inU, List.any_eq_true, beq_iff_eq] at e
   obtain ⟨u, hu, hb⟩ := e
   exact h u hu x hb
  ·have := zMI (H := H) (qQi.1 (by simpa using e))
   exact g.u x (this.2.trans h1)
theorem OwnC.row {T : Nat} {H H' : Hp} {u : AV} {d : List (List AV)} (g : ∀ b r, zG u = some b → H b = some (.row T r) → H' b = some (.row T r)) (k : OwnC T H u d) : OwnC T H' u d := by
 rcases k with k | ⟨b, rest, rfl, h2⟩
 ·exact .inl k
 ·exact .inr ⟨b, rest, rfl, g b _ rfl h2⟩
theorem Fr.trans {us : List AV} {H H1 H2 : Hp} (a : Fr us H H1) (b : Fr us H1 H2) : Fr us H H2 := ⟨fun x h1 h2 => (b.m x (a.u x h1) h2).trans (a.m x h1 h2), fun x h => b.u x (a.u x h)⟩
theorem jLe (us : List AV) (es : List (List Int)) (H : Hp) (j : Nat) (row : List (List AV)) (hrow : H j = some (.row Tbl row)) (hr2 : ∀ (i : Nat) (u : AV), us[i]? = some u → row[0 + i]? = some [u]) (hj : ∀ u ∈ us, zG u ≠ some j) (ho : OwnCC Tb H us (bxx es)) (hlen : us.length ≤ 1000000) (hd : ∀ d ∈ es, d.length ≤ 1000000000) (e : Env) (hds : e.ds = [])
  (hs : Has e [(0, .slc j 0 us.length none), (5, .nils), (6, .int .i64 (0 : Nat))]) (Q : Xit → Env → Hp → Prop)
  (hQ : ∀ e' H' w xs, e'.ds = [] → Has e' [(0, .slc j 0 us.length none), (5, w)] → xs.length = us.length → Acc Tbl (hpO us H) H' w (one xs) → Fr us H H' → OwnCC Tb H' us (bxx es) → (∀ (a : Nat) (x : AV) (d : List Int), xs[a]? = some x → es[a]? = some d → XOK H' us a d x) → Q (.exit 4) e' H') :
  zD Tryz.prog false (.loop jM) Q e H := by
 have hel : es.length = us.length := by have := ho.len; rwa [List.length_map] at this
 refine zAo us.length (fun i (s : Hp × AV × List AV) => i ≤ us.length ∧ s.2.2.length = i ∧ Acc Tbl (hpO us H) s.1 s.2.1 (one s.2.2) ∧ OwnCC Tb s.1 us (bxx es) ∧ ∀ (a : Nat) (x : AV) (d : List Int), s.2.2[a]? = some x → es[a]? = some d → XOK s.1 us a d x)
  (fun i s => [(0, .slc j 0 us.length none), (5, s.2.1), (6, .int .i64 i)]) (fun _ s => s.1) (H, .nils, []) ⟨Nat.zero_le _, rfl, ⟨qLv us H, .inl ⟨rfl, rfl⟩⟩, ho, fun a x d hx => by simp at hx⟩ rfl hds hs (fun k s hI => hI.1) ?_
 rintro i ⟨Hb, w, xs⟩ n0 g0 hi ⟨_, hxl, hw, hO, hX⟩
 simp only at hxl hw hX hO
 have hrb : ∀ {H' : Hp}, Gr (hpO us H) H' → H' j = some (.row Tbl row) := fun g => g.blk ((zMI hj).1.trans hrow)
 refine s_lt (fun h1 => ?_) (fun h1 => ?_)
 ·obtain ⟨u, hu⟩ := zR (l := us) (k := i) (by omega)
  obtain ⟨d, hd'⟩ := zR (l := es) (k := i) (by omega)
  have hdm := hd d (List.mem_of_getElem? hd')
  have hown := hO.own i u (bx d) hu (zIE hd')
  have hbl := zEV d
  refine ⟨i, rfl, by omega, ⟨_, hrb hw.1⟩, ?_⟩
  refine ⟨_, _, _, _, hrb hw.1, hr2 i u hu, rfl, ?_⟩
  refine zEg (id := 6) (fun e' H2 => e'.ds = [] ∧ ∃ x, Gw Tb Hb H2 u x (bx d) (bx (d ++ zEh (-1 - (i : Int)) 16)) ∧ Has e' [(0, .slc j 0 us.length none), (5, w), (6, .int .i64 i), (7, x)]) ?_ ?_
  ·refine zAo 16 (fun k (s : Hp × AV) => k ≤ 16 ∧ Gw Tb Hb s.1 u s.2 (bx d) (bx (d ++ zEh (-1 - (i : Int)) k))) (fun k s => [(0, .slc j 0 us.length none), (5, w), (6, .int .i64 i), (7, s.2), (8, .int .i64 k)]) (fun _ s => s.1) (Hb, u)
    ⟨Nat.zero_le _, by rw [show zEh (-1 - (i : Int)) 0 = [] from rfl, List.append_nil]; exact Gw.start hown⟩ rfl rfl ⟨rfl, rfl, rfl, rfl, rfl, trivial⟩ (fun k s hI => hI.1) ?_
   rintro k ⟨H2, x⟩ n1 g1 hk ⟨_, hst⟩
   simp only at hst
   refine s_lt (fun h2 => ?_) (fun h2 => ?_)
   ·refine s_64 (by omega) (by omega) ?_
    refine s_i (s_i (s_i (s_i ?_)))
    refine ⟨_, rfl, fun tb htb => ?_⟩
    refine ⟨bx [mk8 (-1 - (i : Int)) k], ⟨_, _, Hp.set_same _ _ _, Nat.le_refl _, rfl⟩, ?_⟩
    have hml := zHV (-1 - (i : Int)) k
    refine Gw.app (hst.new htb.1 _) (by simp) (qZi _) (qRJ _) (by rw [zEV, zEV, List.length_append]; unfold zJ; simp; omega) (by rw [zEV, zEV, List.length_append]; unfold zJ; simp; omega) fun v' H3 ha => ?_
    refine zN (k + 1) (by omega) (by omega) ?_
    refine ⟨(H3, v'), by omega, ⟨by omega, ?_⟩, rfl, rfl, rfl, rfl, rfl, rfl, rfl, trivial⟩
    show Gw Tb Hb H3 u v' _ _
    rw [zLd, ← List.append_assoc, qZj]; exact ha
   ·obtain rfl : k = 16 := by omega
    exact ⟨rfl, x, hst, rfl, rfl, rfl, rfl, trivial⟩
  ·rintro e' H2 ⟨hd2, x, hg, hs2⟩
   obtain ⟨n1, g1, rfl⟩ := hs2.out hd2
   clear hs2 hd2
   have hml := zHV (-1 - (i : Int)) 16
   have hbl2 : (bx (d ++ zEh (-1 - (i : Int)) 16)).length = d.length + 16 := by rw [zEV, List.length_append, hml]
   have ap : ∀ (a : Nat) (v : AV) (b : Nat), us[a]? = some v → zG v = some b → a ≠ i → zG u ≠ some b := fun a v b h1 h2 h3 h4 => h3 (hO.apart a i v u b h1 hu h2 h4)
   obtain ⟨c, crow, q, rfl, hc2, hc3, hc4⟩ : ∃ c crow q, x = .slc c 0 (d.length + 16) q ∧ H2 c = some (.row Tb crow) ∧ (∀ (v : AV) (b : Nat), us[b]? = some v → zG v = some c → b = i) ∧ ∀ (q : Nat) (s : Int), (d ++ zEh (-1 - (i : Int)) 16)[q]? = some s → crow[0 + q]? = some (eb s) := by
    rcases hg.x_ with ⟨_, _, h⟩ | ⟨c, r, h2, h3, h4, h5, h6⟩ | ⟨b, rest, h2, h3, h4, h5⟩
    ·rw [h] at hbl2; simp at hbl2
    ·rw [hbl2] at h2 h5
     refine ⟨c, r, none, h2, h4, fun v b hv hb => ?_, fun q s hq => ?_⟩
     ·have := hO.used (List.mem_of_getElem? hv) hb
      rw [h3] at this; cases this
     ·have hql := (List.getElem?_eq_some_iff.1 hq).1
      rw [List.length_append, hml] at hql
      have := zRp hq
      rw [← h5, List.getElem?_take_of_lt hql] at this
      rw [Nat.zero_add]; exact this
    ·rw [hbl2] at h3
     refine ⟨b, _, _, h3, h4, fun v b' hv hb => ?_, fun q s hq => ?_⟩
     ·exact hO.apart b' i v u b hv hu hb (by rw [h2]; rfl)
     ·rw [Nat.zero_add]; exact zOR hq
   have hwk : Acc Tbl (hpO us H) H2 w (one xs) := by
    refine Acc.same hw ⟨fun x hx => ?_, fun x hx => hg.us x (hw.1.u x hx)⟩ fun b hb hbu => hg.fr b hbu fun e2 => ?_
    ·rw [hg.fr x (hw.1.u x hx) ((zOv hx).1 u (List.mem_of_getElem? hu))]; exact hw.1.m x hx
    ·rcases hown with ⟨rfl, _⟩ | ⟨b', rest, rfl, h2⟩
     ·cases e2
     ·cases e2; exact qZN hw h2 hb
   refine ⟨_, rfl, fun tb htb => ?_⟩
   refine ⟨one [_], ⟨_, _, Hp.set_same _ _ _, Nat.le_refl _, rfl⟩, ?_⟩
   refine Acc.app (hwk.set htb.1 _) (fun cs hcs => by rw [List.mem_singleton.1 hcs]; rfl) (fun cs hcs => by rw [List.mem_singleton.1 hcs]; rfl) (by rw [zCj, zCj]; unfold zJ; simp; omega) (by rw [zCj, zCj]; unfold zJ; simp; omega) fun w' H3 ha hfr hu3 => ?_
   refine zN (i + 1) (by omega) (by omega) ?_
   have hfr2 : ∀ y, H2.u y = true → zG w ≠ some y → H3 y = H2 y := fun y hy hb => by
    have hne : y ≠ tb := qN hy htb.1
    rw [hfr y (by rw [Hp.set_u, hy]; simp) hb, Hp.set_ne hne]
   have hu32 : ∀ y, H2.u y = true → H3.u y = true := fun y hy => hu3 y (by rw [Hp.set_u, hy]; simp)
   have rowB : ∀ {y : Nat} {r : List (List AV)}, H2 y = some (.row Tb r) → H3 y = some (.row Tb r) := fun hy => (hfr2 _ (Hp.used hy) (qZN hwk hy)).trans hy
   have hO3 : OwnCC Tb H3 us (bxx es) := by
    refine ⟨ho.len, fun a v dd hv hdd => ?_, ho.apart⟩
    by_cases ea : a = i
    ·subst ea
     rw [hu] at hv; cases hv
     rw [zIE hd'] at hdd; cases hdd
     exact OwnC.row (fun b r _ hb => rowB hb) hg.own
    ·exact OwnC.row (fun b r hb hbu => rowB ((hg.fr b (Hp.used hbu) (ap a v b hv hb ea)).trans hbu)) (hO.own a v dd hv hdd)
   refine ⟨(H3, w', xs ++ [.slc c 0 (d.length + 16) q]), by omega, ⟨by omega, by simp [hxl], ?_, hO3, fun a y d2 hy hd2 => ?_⟩, rfl, rfl, rfl, rfl, rfl, trivial⟩
   ·show Acc Tbl (hpO us H) H3 w' (one (xs ++ _))
    rw [one, List.map_append]; exact ha
   ·show XOK H3 us a d2 y
    have hy' : (xs ++ [.slc c 0 (d.length + 16) q])[a]? = some y := hy
    rcases Nat.lt_trichotomy a i with h | h | h
    ·rw [List.getElem?_append_left (by omega)] at hy'
     obtain ⟨c2, row2, q2, rfl, q1, q3, q4⟩ := hX a y d2 hy' hd2
     have hne : zG u ≠ some c2 := fun e2 => by have := q3 u i hu e2; omega
     have q5 : H2 c2 = some (.row Tb row2) := (hg.fr c2 (Hp.used q1) hne).trans q1
     exact ⟨c2, row2, q2, rfl, rowB q5, q3, q4⟩
    ·subst h
     rw [List.getElem?_append_right (by omega), hxl, Nat.sub_self] at hy'
     cases hy'
     rw [hd'] at hd2; cases hd2
     exact ⟨c, crow, q, rfl, rowB hc2, hc3, hc4⟩
    ·rw [List.getElem?_eq_none (by simp; omega)] at hy'; cases hy'
 ·obtain rfl : i = us.length := by omega
  exact hQ _ _ w xs rfl ⟨rfl, rfl, trivial⟩ hxl hw (qZV hw.1 fun u hu b hb => hO.used hu hb) hO hX
theorem jLd (us xs : List AV) (ds : List (List Int)) (H1 H : Hp) (j : Nat) (w : AV) (hr : Row1 H j us) (ho : OwnCC Tb H us (bxx (jN ds))) (hw : Acc Tbl H1 H w (one xs)) (hxl : xs.length = us.length) (hX : ∀ (a : Nat) (x : AV) (d : List Int), xs[a]? = some x → (jN ds)[a]? = some d → XOK H us a d x)
  (hlen : us.length ≤ 1000000) (hd : ∀ d ∈ ds, d.length ≤ 1000000000) (hdl : ds.length = us.length) (e : Env) (hds : e.ds = [])
  (hs : Has e [(0, .slc j 0 us.length none), (5, w), (9, .int .i64 (0 : Nat))]) (Q : Xit → Env → Hp → Prop) (hQ : ∀ e', e'.ds = [] → Q (.exit 8) e' H) :
  zD Tryz.prog false (.loop jL) Q e H := by
 refine zAo us.length (fun i (_ : Unit) => i ≤ us.length) (fun i _ => [(0, .slc j 0 us.length none), (5, w), (9, .int .i64 i)]) (fun _ _ => H) () (Nat.zero_le _) rfl hds hs (fun k s hI => hI) ?_
 intro i _ n0 g0 hi _
 refine s_lt (fun h1 => ?_) (fun h1 => hQ _ rfl)
 obtain ⟨u, hu⟩ := zR (l := us) (k := i) (by omega)
 obtain ⟨x, hx⟩ := zR (l := xs) (k := i) (by omega)
 obtain ⟨d, hd'⟩ := zR (l := ds) (k := i) (by omega)
 have hdm := hd d (List.mem_of_getElem? hd')
 have hm : (jN ds)[i]? = some (zEh i d.length) := by
  rw [jN, List.getElem?_map, List.getElem?_range (by omega)]; simp [hd']
 have hml := zHV i d.length
 obtain ⟨row, hr1, hr2⟩ := hr.row
 have hru := hr2 i u hu
 obtain ⟨c, crow, q, rfl, hc1, _, hc3⟩ := hX i x _ hx hm
 obtain ⟨jw, wrow, rfl, _, hw1, hw2⟩ := hw.get (zQg hx)
 rw [hml] at hw2
 have hol : (one xs).length = us.length := by rw [zCj, hxl]
 refine ⟨i, rfl, by omega, ⟨_, hr1⟩, ?_⟩
 refine ⟨_, _, _, _, hr1, hru, rfl, ?_⟩
 have rd : ∀ {k : Nat}, k < d.length → ∃ b urow q, u = .slc b 0 d.length q ∧ H b = some (.row Tb urow) ∧ urow[0 + k]? = some (eb (mk8 i k)) := fun {k} hk => by
  rcases ho.own i u _ hu (zIE hm) with ⟨_, h⟩ | ⟨b, rest, h, hb⟩
  ·have : d.length = 0 := by rw [← hml, ← zEV, h]; rfl
   omega
  ·rw [zEV, hml] at h
   exact ⟨b, _, _, h, hb, by rw [Nat.zero_add]; exact zOR (zJz hk)⟩
 have xr1 : ∀ {k : Nat}, k < d.length → crow[0 + k]? = some (eb (mk8 i k)) := fun {k} hk => hc3 k _ (by rw [List.getElem?_append_left (by omega)]; exact zJz hk)
 have xr2 : ∀ {k : Nat}, k < 16 → crow[0 + (d.length + k)]? = some (eb (mk8 (-1 - (i : Int)) k)) := fun {k} hk => hc3 _ _ (by rw [List.getElem?_append_right (by omega), hml, Nat.add_sub_cancel_left]; exact zJz hk)
 have go : ∀ (e : Env) (Q : Xit → Env → Hp → Prop), e.ds = [] → Has e [(0, .slc j 0 us.length none), (5, .slc jw 0 (one xs).length none), (9, .int .i64 i), (10, .int .i64 d.length), (11, .int .i64 (0 : Nat))] → (∀ e', e'.ds = [] → Has e' [(0, .slc j 0 us.length none), (5, .slc jw 0 (one xs).length none), (9, .int .i64 i), (10, .int .i64 d.length)] → Q (.exit 10) e' H) →
   zD Tryz.prog false (.loop qF) Q e H := by
  intro e Q hd0 hs0 hQ
  refine zAo d.length (fun k (_ : Unit) => k ≤ d.length) (fun k _ => [(0, .slc j 0 us.length none), (5, .slc jw 0 (one xs).length none), (9, .int .i64 i), (10, .int .i64 d.length), (11, .int .i64 k)]) (fun _ _ => H) () (Nat.zero_le _) rfl hd0 hs0 (fun k s hI => hI) ?_
  intro k _ n1 g1 hk _
  refine s_lt (fun h2 => ?_) (fun h2 => hQ _ rfl ⟨rfl, rfl, rfl, rfl, trivial⟩)
  obtain ⟨b, urow, q2, rfl, hb1, hb2⟩ := rd (k := k) (by omega)
  refine zEg (id := 11) (fun e' h' => h' = H ∧ e'.ds = [] ∧ Has e' [(0, .slc j 0 us.length none), (5, .slc jw 0 (one xs).length none), (9, .int .i64 i), (10, .int .i64 d.length), (11, .int .i64 k)]) ?_ ?_
  ·refine ⟨i, rfl, by omega, ⟨_, hr1⟩, ?_⟩
   refine ⟨_, _, _, _, hr1, hru, rfl, ?_⟩
   refine ⟨k, rfl, by omega, ⟨_, hb1⟩, ?_⟩
   refine ⟨_, _, _, _, hb1, hb2, rfl, ?_⟩
   refine s_i (s_i (s_i (s_i ?_)))
   refine s_ne (fun h3 => absurd rfl h3) (fun _ => ?_)
   refine ⟨i, rfl, by omega, ⟨_, hw1⟩, ?_⟩
   refine ⟨_, _, _, _, hw1, hw2, rfl, ?_⟩
   refine ⟨k, rfl, by omega, ⟨_, hc1⟩, ?_⟩
   refine ⟨_, _, _, _, hc1, xr1 (by omega), rfl, ?_⟩
   refine s_i (s_i (s_i (s_i ?_)))
   refine s_ne (fun h3 => absurd rfl h3) (fun _ => ?_)
   exact ⟨rfl, rfl, rfl, rfl, rfl, rfl, rfl, trivial⟩
  ·rintro e' h' ⟨rfl, hd3, hs3⟩
   obtain ⟨n3, g3, rfl⟩ := hs3.out hd3
   refine zN (k + 1) (by omega) (by omega) ?_
   exact ⟨(), by omega, by omega, rfl, rfl, rfl, rfl, rfl, rfl, rfl, trivial⟩
 have go2 : ∀ (e : Env) (Q : Xit → Env → Hp → Prop), e.ds = [] → Has e [(0, .slc j 0 us.length none), (5, .slc jw 0 (one xs).length none), (9, .int .i64 i), (10, .int .i64 d.length), (12, .int .i64 (0 : Nat))] → (∀ e', e'.ds = [] → Has e' [(0, .slc j 0 us.length none), (5, .slc jw 0 (one xs).length none), (9, .int .i64 i)] → Q (.exit 12) e' H) →
   zD Tryz.prog false (.loop qE) Q e H := by
  intro e Q hd0 hs0 hQ
  refine zAo 16 (fun k (_ : Unit) => k ≤ 16) (fun k _ => [(0, .slc j 0 us.length none), (5, .slc jw 0 (one xs).length none), (9, .int .i64 i), (10, .int .i64 d.length), (12, .int .i64 k)]) (fun _ _ => H) () (Nat.zero_le _) rfl hd0 hs0 (fun k s hI => hI) ?_
  intro k _ n1 g1 hk _
  refine s_lt (fun h2 => ?_) (fun h2 => hQ _ rfl ⟨rfl, rfl, rfl, trivial⟩)
  refine zEg (id := 13) (fun e' h' => h' = H ∧ e'.ds = [] ∧ Has e' [(0, .slc j 0 us.length none), (5, .slc jw 0 (one xs).length none), (9, .int .i64 i), (10, .int .i64 d.length), (12, .int .i64 k)]) ?_ ?_
  ·refine ⟨i, rfl, by omega, ⟨_, hw1⟩, ?_⟩
   refine ⟨_, _, _, _, hw1, hw2, rfl, ?_⟩
   refine zN (d.length + k) (by omega) (by omega) ?_
   refine ⟨d.length + k, rfl, by omega, ⟨_, hc1⟩, ?_⟩
   refine ⟨_, _, _, _, hc1, xr2 (by omega), rfl, ?_⟩
   refine s_64 (by omega) (by omega) ?_
   refine s_i (s_i (s_i (s_i ?_)))
   refine s_ne (fun h3 => absurd rfl h3) (fun _ => ?_)
   exact ⟨rfl, rfl, rfl, rfl, rfl, rfl, rfl, trivial⟩
  ·rintro e' h' ⟨rfl, hd3, hs3⟩
   obtain ⟨n3, g3, rfl⟩ := hs3.out hd3
   refine zN (k + 1) (by omega) (by omega) ?_
   exact ⟨(), by omega, by omega, rfl, rfl, rfl, rfl, rfl, rfl, rfl, trivial⟩
 have fin : ∀ (e : Env) (Q : Xit → Env → Hp → Prop), e.ds = [] → Has e [(0, .slc j 0 us.length none), (5, .slc jw 0 (one xs).length none), (9, .int .i64 i), (10, .int .i64 d.length)] →
   (∀ e', e'.ds = [] → Has e' [(0, .slc j 0 us.length none), (5, .slc jw 0 (one xs).length none), (9, .int .i64 i)] → Q .normal e' H) →
   zD Tryz.prog false (.seq (.seq (.ops [o_ 11 (.mov (i_ 0))]) (.block 10 (.loop qF))) (.seq (.ops [o_ 12 (.mov (i_ 0))]) (.block 12 (.loop qE)))) Q e H := by
  intro e Q hd hs hQ
  obtain ⟨n1, g1, rfl⟩ := hs.out hd
  refine zEg (id := 10) (fun e' H' => H' = H ∧ e'.ds = [] ∧ Has e' [(0, .slc j 0 us.length none), (5, .slc jw 0 (one xs).length none), (9, .int .i64 i), (10, .int .i64 d.length)]) ?_ ?_
  ·exact go _ _ rfl ⟨rfl, rfl, rfl, rfl, rfl, trivial⟩ fun e' h1 h2 => ⟨rfl, h1, h2⟩
  ·rintro e' H' ⟨rfl, hd2, hs2⟩
   obtain ⟨n2, g2, rfl⟩ := hs2.out hd2
   refine zEg (id := 12) (fun e' h' => h' = H' ∧ e'.ds = [] ∧ Has e' [(0, .slc j 0 us.length none), (5, .slc jw 0 (one xs).length none), (9, .int .i64 i)]) ?_ ?_
   ·exact go2 _ _ rfl ⟨rfl, rfl, rfl, rfl, rfl, trivial⟩ fun e' h1 h2 => ⟨rfl, h1, h2⟩
   ·rintro e' h' ⟨rfl, hd3, hs3⟩
    exact hQ e' hd3 hs3
 rcases ho.own i u _ hu (zIE hm) with ⟨rfl, h⟩ | ⟨b, rest, rfl, hb⟩
 ·have h0 := congrArg List.length h
  rw [zEV, hml] at h0
  have h0 : d.length = 0 := h0
  refine fin _ _ rfl ⟨rfl, rfl, rfl, by rw [h0]; rfl, trivial⟩ fun e' hd3 hs3 => ?_
  obtain ⟨n3, g3, rfl⟩ := hs3.out hd3
  refine zN (i + 1) (by omega) (by omega) ?_
  exact ⟨(), by omega, by omega, rfl, rfl, rfl, rfl, rfl, trivial⟩
 ·refine fin _ _ rfl ⟨rfl, rfl, rfl, by rw [zEV, hml]; rfl, trivial⟩ fun e' hd3 hs3 => ?_
  obtain ⟨n3, g3, rfl⟩ := hs3.out hd3
  refine zN (i + 1) (by omega) (by omega) ?_
  exact ⟨(), by omega, by omega, rfl, rfl, rfl, rfl, rfl, trivial⟩
theorem zNl (ds : List (List Int)) : (jN ds).length = ds.length := by rw [jN, List.length_map, List.length_range]
theorem zPY (us : List AV) (ds : List (List Int)) (h0 : Hp) (j : Nat) (hr : Row1 h0 j us) (hj : ∀ u ∈ us, zG u ≠ some j) (ho : OwnCC Tb h0 us (bxx ds)) (hlen : us.length ≤ 1000000) (hd : ∀ d ∈ ds, d.length ≤ 1000000000) :
  CallL Tryz.prog zAa [.slc j 0 us.length none] h0 fun r H => r = .ret (.bool true) ∧ Fr us h0 H := by
 have hdl : ds.length = us.length := by have := ho.len; rwa [List.length_map] at this
 refine zDt (md := false) ?_
 refine zEg (id := 0) (fun e' H => e'.ds = [] ∧ Has e' [(0, .slc j 0 us.length none)] ∧ Fr us h0 H ∧ OwnCC Tb H us (bxx (jN ds))) ?_ ?_
 ·exact jLf us ds h0 h0 j hr hj ho hlen hd _ rfl rfl ⟨rfl, rfl, trivial⟩ _ fun e' H' h1 h2 h3 h4 => ⟨h1, h2, h3, h4⟩
 rintro e' H1 ⟨hd1, hs1, hF1, hO1⟩
 obtain ⟨n1, g1, rfl⟩ := hs1.out hd1
 clear hd1 hs1
 obtain ⟨row, hrow, hr2⟩ := hr.row
 have hrow1 := (hF1.m j (Hp.used hrow) hj).trans hrow
 have hd2 : ∀ d ∈ jN ds, d.length ≤ 1000000000 := fun d hdm => by
  obtain ⟨i, hi⟩ := List.getElem?_of_mem hdm
  have hil : i < ds.length := by have := (List.getElem?_eq_some_iff.1 hi).1; rwa [zNl] at this
  rw [jN, List.getElem?_map, List.getElem?_range hil] at hi
  obtain ⟨d0, hd0⟩ := zR hil
  simp [hd0] at hi
  rw [← hi, zHV]; exact hd d0 (List.mem_of_getElem? hd0)
 refine zEg (id := 4) (fun e' H => e'.ds = [] ∧ ∃ w xs, Has e' [(0, .slc j 0 us.length none), (5, w)] ∧ xs.length = us.length ∧ Acc Tbl (hpO us H1) H w (one xs) ∧ Fr us H1 H ∧ OwnCC Tb H us (bxx (jN ds)) ∧ ∀ (a : Nat) (x : AV) (d : List Int), xs[a]? = some x → (jN ds)[a]? = some d → XOK H us a d x) ?_ ?_
 ·exact jLe us (jN ds) H1 j row hrow1 hr2 hj hO1 hlen hd2 _ rfl ⟨rfl, rfl, rfl, trivial⟩ _ fun e' H' w xs h1 h2 h3 h4 h5 h6 h7 => ⟨h1, w, xs, h2, h3, h4, h5, h6, h7⟩
 rintro e' H2 ⟨hd3, w, xs, hs3, hxl, hw, hF2, hO2, hX⟩
 obtain ⟨n2, g2, rfl⟩ := hs3.out hd3
 clear hd3 hs3
 refine zEg (id := 8) (fun e' H => e'.ds = [] ∧ H = H2) ?_ ?_
 ·exact jLd us xs ds (hpO us H1) H2 j w ⟨row, (hF2.m j (Hp.used hrow1) hj).trans hrow1, hr2⟩ hO2 hw hxl hX hlen hd hdl _ rfl ⟨rfl, rfl, rfl, trivial⟩ _ fun e' h1 => ⟨h1, rfl⟩
 ·rintro e' H ⟨hd4, rfl⟩
  exact ⟨hd4, rfl, Fr.trans hF1 hF2⟩
end Go.Proofs.YtldbbnkacahndaaGreatDoor

namespace Go.Proofs.YtldbbnkacahndaaGreatDoor
open Go.L
abbrev zAu : Nat := 161
def zEN : LA := [o_ 6 (.mov (.c (.int .u64 0))), Wm 7 0, Wm 8 0]
def zEM : LA := [mv 12 10, Wi 13 .lss 12 10]
def zEL : LA := [mv 16 1, mv 17 10, Wb 18 .add 16 17, mv 19 2, Wb 20 .geq 18 19]
def zEK : LA := [mv 21 1, o_ 6 (.mov (.c (.int .u64 0))), mv 7 21, Wm 8 10]
def zEJ : LA := [mv 22 0, mv 23 1, mv 24 10, Wb 25 .add 23 24, Wa 26 5 1 22 25, Wl 27 26, mv 11 27]
def zEI : LA := [mv 28 10, Wi 29 .eql 28 9, mv 30 29, Wgm 31 11 30, g_ 32 (.bini .gtr (.t 31) (.c (.int .u8 1))) 30, Wp 33 30 32]
def zEH : LA := [mv 34 1, o_ 6 (.mov (.c (.int .u64 0))), mv 7 34, Wm 8 11]
def zEG : LA := [mv 35 9, mv 36 11, o_ 37 (.bini .rem (.t 36) (.c (.int .u8 128))), o_ 38 (.conv .u64 (.t 37)), mv 39 10, o_ 40 (.bini .mul (i_ 7) (.t 39)), o_ 41 (.conv .u64 (.t 40)), Wb 42 .shl 38 41, Wb 43 .add 35 42, mv 9 43]
def zEF : LA := [mv 44 11, o_ 45 (.bini .lss (.t 44) (.c (.int .u8 128)))]
def zEE : LA := [mv 46 9, mv 47 1, mv 48 10, Wb 49 .add 47 48, Wi 50 .add 49 1, mv 6 46, mv 7 50, Wm 8 0]
def zDb : LA := [mv 14 10, Wi 15 .add 14 1, mv 10 15]
def zDa : ACode := (.seq (.seq (.ops zEM) (.cond (.t 13) .skip (.exit 0))) (.seq (.block 1 (.seq (.seq (.ops zEL) (.cond (.t 20) (.seq (.ops zEK) .ret) .skip)) (.seq (.ops zEJ) (.seq (.seq (.ops zEI) (.cond (.t 33) (.seq (.ops zEH) .ret) .skip)) (.seq (.ops zEG) (.seq (.ops zEF) (.cond (.t 45) (.seq (.ops zEE) .ret) .skip))))))) (.ops zDb)))
def zDZ : LA := [mv 51 1, o_ 6 (.mov (.c (.int .u64 0))), mv 7 51, Wm 8 11]
def zAx : ACode := (.seq (.ops zEN) (.seq (.ops [o_ 9 (.mov (.c (.int .u64 0)))]) (.seq (.seq (.ops [Wm 10 0]) (.block 0 (.loop zDa))) (.seq (.ops zDZ) .ret))))
def zAs : List ARes := [.tmp 6, .tmp 7, .tmp 8]
theorem zFd : zS Tryz.prog Tryz.f161 = some (zAx, zAs) := by kernel_rfl
theorem zFW {md : Bool} {args : List AV} {h : Hp} {Q : Res → Hp → Prop} (hl : zD Tryz.prog md zAx (EndQ zAs Q) (env0 52 args) h) (hn : args.length ≤ 52 := by (simp; done)) : CallL Tryz.prog zAu args h Q :=
 CallL.of (md := md) Tryz.func161 zFd (by rw [Tryz.ntmps161]; exact hn) (by rw [Tryz.ntmps161]; exact hl)
abbrev zBF : Nat := 162
def zEv : LA := [mv 6 0, Wc 7 6, Wf 8 3 7, Wl 9 8, Wi 10 .eql 9 0, mv 11 10, Wgm 12 1 11, g_ 13 (.bini .neq (.t 12) (i_ 0)) 11, Wp 14 11 13]
def zEu : LA := [mv 15 0, mv 16 1, Wc 17 15, Wf 18 3 17, Ws 1 18 16]
def zEt : LA := [mv 19 0, mv 20 2, Wc 21 19, Wf 22 4 21, Ws 1 22 20]
def zBI : ACode := (.seq (.ops zEv) (.cond (.t 14) (.seq (.ops zEu) (.ops zEt)) .skip))
def zBC : List ARes := []
theorem zGD : zS Tryz.prog Tryz.f162 = some (zBI, zBC) := by kernel_rfl
theorem zFy {md : Bool} {args : List AV} {h : Hp} {Q : Res → Hp → Prop} (hl : zD Tryz.prog md zBI (EndQ zBC Q) (env0 23 args) h) (hn : args.length ≤ 23 := by (simp; done)) : CallL Tryz.prog zBF args h Q :=
 CallL.of (md := md) Tryz.func162 zGD (by rw [Tryz.ntmps162]; exact hn) (by rw [Tryz.ntmps162]; exact hl)
abbrev zAt : Nat := 111
def zED : LA := [mv 6 0, Wc 7 6, Wf 8 3 7, Wl 9 8, Wi 10 .neq 9 0]
def zEC : LA := [mv 12 0, Wc 13 12, Wf 14 0 13, Wl 15 14, mv 16 0, Wc 17 16, Wf 18 1 17, Wl 19 18, mv 20 0, Wc 21 20, Wf 22 2 21, Wl 23 22, o_ 24 (.call 161 [(.t 15), (.t 19), (.t 23)]), mv 11 24, Wx 25 0 11, Wx 26 1 11, Wx 27 2 11, mv 3 25, mv 4 26, mv 5 27]
def zEB : LA := [mv 28 0, mv 29 5, mv 30 0, Wc 31 30, Wf 32 1 31, Wl 33 32, o_ 34 (.call 162 [(.t 28), (.t 29), (.t 33)])]
def zEA : LA := [mv 35 0, mv 36 4, Wc 37 35, Wf 38 1 37, Ws 1 38 36]
def zDz : LA := [mv 39 3, mv 2 39]
def zAw : ACode := (.seq (.ops [o_ 2 (.mov (.c (.int .u64 0)))]) (.seq (.seq (.ops zED) (.cond (.t 10) (.seq (.ops [o_ 2 (.mov (.c (.int .u64 0)))]) .ret) .skip)) (.seq (.alts [12, 13, 14, 15, 16, 17, 18, 19, 20, 21, 22, 23, 24, 11, 25, 26, 27, 3, 4, 5] [zEC]) (.seq (.ops zEB) (.seq (.ops zEA) (.seq (.ops zDz) .ret))))))
def zAr : List ARes := [.tmp 2]
theorem zFc : zS Tryz.prog Tryz.f111 = some (zAw, zAr) := by kernel_rfl
theorem zFV {md : Bool} {args : List AV} {h : Hp} {Q : Res → Hp → Prop} (hl : zD Tryz.prog md zAw (EndQ zAr Q) (env0 40 args) h) (hn : args.length ≤ 40 := by (simp; done)) : CallL Tryz.prog zAt args h Q :=
 CallL.of (md := md) Tryz.func111 zFc (by rw [Tryz.ntmps111]; exact hn) (by rw [Tryz.ntmps111]; exact hl)
abbrev zBG : Nat := 20
def zEw : LA := [mv 3 0, Wi 4 .geq 3 0, mv 5 4, Wgm 6 0 5, g_ 7 (.bini .leq (.t 6) (i_ 16777216)) 5, Wp 8 5 7, mv 2 8]
def zBJ : ACode := (.seq (.ops [Wo 2 false]) (.seq (.ops zEw) .ret))
def zBD : List ARes := [.tmp 2]
theorem zGE : zS Tryz.prog Tryz.f20 = some (zBJ, zBD) := by kernel_rfl
theorem zFz {md : Bool} {args : List AV} {h : Hp} {Q : Res → Hp → Prop} (hl : zD Tryz.prog md zBJ (EndQ zBD Q) (env0 9 args) h) (hn : args.length ≤ 9 := by (simp; done)) : CallL Tryz.prog zBG args h Q :=
 CallL.of (md := md) Tryz.func20 zGE (by rw [Tryz.ntmps20]; exact hn) (by rw [Tryz.ntmps20]; exact hl)
abbrev zKe : Nat := 6
def zMb : LA := [mv 3 0, o_ 4 (.call 20 [(.t 3)]), o_ 5 (.not (.t 4))]
def zMa : LA := [mv 6 0, o_ 7 (.build [.int .i64 (0), .nils, .int .i64 (0), .int .i64 0] [(0, 1, (.t 6))]), o_ 8 (.box 102 4 (.t 7)), mv 2 8]
def zKn : ACode := (.seq (.ops [o_ 2 (.mov (.c (.nilp)))]) (.seq (.seq (.ops zMb) (.cond (.t 5) (.seq (.ops [o_ 2 (.mov (.c (.nilp)))]) .ret) .skip)) (.seq (.ops zMa) .ret)))
def zKV : List ARes := [.tmp 2]
theorem zOb : zS Tryz.prog Tryz.f6 = some (zKn, zKV) := by kernel_rfl
theorem zOZ {md : Bool} {args : List AV} {h : Hp} {Q : Res → Hp → Prop} (hl : zD Tryz.prog md zKn (EndQ zKV Q) (env0 9 args) h) (hn : args.length ≤ 9 := by (simp; done)) : CallL Tryz.prog zKe args h Q :=
 CallL.of (md := md) Tryz.func6 zOb (by rw [Tryz.ntmps6]; exact hn) (by rw [Tryz.ntmps6]; exact hl)
abbrev zGZ : Nat := 79
def zJR : LA := [Wm 6 0, Wm 7 0, Wm 8 0]
def zJQ : LA := [mv 11 0, mv 12 1, mv 13 0, We 14 13, o_ 15 (.build [.nils, .int .i64 (0), .int .i64 (0), .int .i64 (0), .int .i64 0] [(0, 1, (.t 11)), (1, 1, (.t 12)), (2, 1, (.t 14))]), o_ 16 (.box 284 5 (.t 15)), mv 9 16]
def zJP : LA := [mv 17 9, o_ 18 (.call 111 [(.t 17)]), mv 10 18]
def zJO : LA := [mv 19 9, Wc 20 19, Wf 21 3 20, Wl 22 21, Wi 23 .neq 22 0]
def zJN : LA := [mv 24 9, Wc 25 24, Wf 26 3 25, Wl 27 26, Wm 6 0, Wm 7 0, mv 8 27]
def zJM : LA := [mv 28 10, mv 29 2, o_ 30 (.conv .u64 (.t 29)), Wb 31 .gtr 28 30]
def zJL : LA := [Wm 6 0, Wm 7 0, Wm 8 230]
def zJK : LA := [mv 32 10, mv 33 0, We 34 33, mv 35 9, Wc 36 35, Wf 37 1 36, Wl 38 37, Wb 39 .sub 34 38, o_ 40 (.conv .u64 (.t 39)), Wb 41 .gtr 32 40]
def zJJ : LA := [Wm 6 0, Wm 7 0, Wm 8 10]
def zJI : LA := [mv 42 9, Wc 43 42, Wf 44 1 43, Wl 45 44, mv 46 9, Wc 47 46, Wf 48 1 47, Wl 49 48, mv 50 10, o_ 51 (.conv .i64 (.t 50)), Wb 52 .add 49 51, mv 6 45, mv 7 52, Wm 8 0]
def zGf : ACode := (.seq (.ops zJR) (.seq (.ops zJQ) (.seq (.ops zJP) (.seq (.seq (.ops zJO) (.cond (.t 23) (.seq (.alts [24, 25, 26, 27, 6, 7, 8] [zJN]) .ret) .skip)) (.seq (.seq (.ops zJM) (.cond (.t 31) (.seq (.ops zJL) .ret) .skip)) (.seq (.seq (.ops zJK) (.cond (.t 41) (.seq (.ops zJJ) .ret) .skip)) (.seq (.alts [42, 43, 44, 45, 46, 47, 48, 49, 50, 51, 52, 6, 7, 8] [zJI]) .ret)))))))
def zGT : List ARes := [.tmp 6, .tmp 7, .tmp 8]
theorem zLH : zS Tryz.prog Tryz.f79 = some (zGf, zGT) := by kernel_rfl
theorem zLA {md : Bool} {args : List AV} {h : Hp} {Q : Res → Hp → Prop} (hl : zD Tryz.prog md zGf (EndQ zGT Q) (env0 53 args) h) (hn : args.length ≤ 53 := by (simp; done)) : CallL Tryz.prog zGZ args h Q :=
 CallL.of (md := md) Tryz.func79 zLH (by rw [Tryz.ntmps79]; exact hn) (by rw [Tryz.ntmps79]; exact hl)
abbrev zHi : Nat := 33
def zKm : LA := [mv 6 0, Wc 7 6, Wf 8 3 7, Wl 9 8, Wi 10 .neq 9 0, mv 11 10, Whm 12 0 11, Wh 13 (.nilc (.t 12)) 11, Wh 14 (.faddr 1 (.t 13)) 11, Wh 15 (.ld1 (.t 14)) 11, Wh 16 (.lenl (.t 15)) 11, Wh 17 (.bini .eql (.t 16) (i_ 0)) 11, Wq 18 11 17]
def zKl : LA := [mv 20 0, Wc 21 20, Wf 22 1 21, Wl 23 22, mv 24 0, Wc 25 24, Wf 26 0 25, Wl 27 26, o_ 28 (.call 79 [(.t 23), (i_ 0), (.t 27)]), mv 19 28, Wx 29 0 19, Wx 30 1 19, Wx 31 2 19, mv 3 29, mv 4 30, mv 5 31]
def zKk : LA := [mv 32 5, Wi 33 .eql 32 0, mv 2 33]
def zHn : ACode := (.seq (.ops [Wo 2 false]) (.seq (.seq (.ops zKm) (.cond (.t 18) (.seq (.ops [Wo 2 false]) .ret) .skip)) (.seq (.alts [20, 21, 22, 23, 24, 25, 26, 27, 28, 19, 29, 30, 31, 3, 4, 5] [zKl]) (.seq (.ops zKk) .ret))))
def zHf : List ARes := [.tmp 2]
theorem zMZ : zS Tryz.prog Tryz.f33 = some (zHn, zHf) := by kernel_rfl
theorem zMX {md : Bool} {args : List AV} {h : Hp} {Q : Res → Hp → Prop} (hl : zD Tryz.prog md zHn (EndQ zHf Q) (env0 34 args) h) (hn : args.length ≤ 34 := by (simp; done)) : CallL Tryz.prog zHi args h Q :=
 CallL.of (md := md) Tryz.func33 zMZ (by rw [Tryz.ntmps33]; exact hn) (by rw [Tryz.ntmps33]; exact hl)
abbrev zIn : Nat := 24
def zLU : LA := [mv 9 5, mv 10 1, We 11 10, Wb 12 .lss 9 11, mv 13 12, Wgm 14 0 13, g_ 15 (.nilc (.t 14)) 13, Wgf 16 3 15 13, Wgl 17 16 13, g_ 18 (.bini .eql (.t 17) (i_ 0)) 13, Wp 19 13 18, mv 20 19, Wgm 21 0 20, g_ 22 (.call 33 [(.t 21)]) 20, g_ 23 (.not (.t 22)) 20, Wp 24 20 23]
def zGk : LA := [mv 25 0, mv 26 0, Wc 27 26, Wf 28 1 27, Wl 29 28, mv 30 1, mv 31 5, Wa 32 5 1 30 31, Wl 33 32, o_ 34 (.bslice 5 1 1 [.int .u8 0] [(0, 1, (.t 33))]), o_ 35 (.app 5 1 1 (.t 29) (.t 34)), Wc 36 25, Wf 37 1 36, Ws 1 37 35]
def zGj : LA := [mv 38 5, Wi 39 .add 38 1, mv 5 39]
def zGi : LA := [mv 41 0, Wc 42 41, Wf 43 1 42, Wl 44 43, mv 45 0, Wc 46 45, Wf 47 0 46, Wl 48 47, o_ 49 (.call 79 [(.t 44), (i_ 0), (.t 48)]), mv 40 49, Wx 50 0 40, Wx 51 1 40, Wx 52 2 40, mv 6 50, mv 7 51, mv 8 52]
def zGh : LA := [mv 53 8, Wi 54 .neq 53 0, mv 55 54, Wgm 56 8 55, g_ 57 (.bini .neq (.t 56) (i_ 10)) 55, Wp 58 55 57]
def zGg : LA := [mv 59 0, mv 60 8, Wc 61 59, Wf 62 3 61, Ws 1 62 60]
def zLT : ACode := (.seq (.seq (.ops zLU) (.cond (.t 24) .skip (.exit 0))) (.block 1 (.seq (.alts [25, 26, 27, 28, 29, 30, 31, 32, 33, 34, 35, 36, 37] [zGk]) (.seq (.ops zGj) (.seq (.alts [41, 42, 43, 44, 45, 46, 47, 48, 49, 40, 50, 51, 52, 6, 7, 8] [zGi]) (.seq (.ops zGh) (.cond (.t 58) (.ops zGg) .skip)))))))
def zLS : LA := [mv 63 5, mv 4 63]
def zIr : ACode := (.seq (.ops [Wm 4 0]) (.seq (.ops [Wm 5 0]) (.seq (.block 0 (.loop zLT)) (.seq (.ops zLS) .ret))))
def zIj : List ARes := [.tmp 4]
theorem zNY : zS Tryz.prog Tryz.f24 = some (zIr, zIj) := by kernel_rfl
theorem zNT {md : Bool} {args : List AV} {h : Hp} {Q : Res → Hp → Prop} (hl : zD Tryz.prog md zIr (EndQ zIj Q) (env0 64 args) h) (hn : args.length ≤ 64 := by (simp; done)) : CallL Tryz.prog zIn args h Q :=
 CallL.of (md := md) Tryz.func24 zNY (by rw [Tryz.ntmps24]; exact hn) (by rw [Tryz.ntmps24]; exact hl)
abbrev zIm : Nat := 26
def zLR : LA := [Wn 2, Wo 3 false]
def zLQ : LA := [mv 8 0, o_ 9 (.call 33 [(.t 8)]), o_ 10 (.not (.t 9))]
def zLP : LA := [Wn 2, Wo 3 false]
def zLO : LA := [mv 12 0, Wc 13 12, Wf 14 1 13, Wl 15 14, mv 16 0, Wc 17 16, Wf 18 0 17, Wl 19 18, o_ 20 (.call 79 [(.t 15), (i_ 0), (.t 19)]), mv 11 20, Wx 21 0 11, Wx 22 1 11, Wx 23 2 11, mv 4 21, mv 5 22, mv 6 23]
def zLN : LA := [mv 24 7, mv 25 0, Wc 26 25, Wf 27 1 26, Wl 28 27, mv 29 4, mv 30 5, o_ 31 (.slcl 5 1 (.t 28) (some (.t 29)) (some (.t 30)) none), o_ 32 (.app 5 1 1 (.t 24) (.t 31)), mv 7 32]
def zLM : LA := [mv 33 0, mv 34 0, Wc 35 34, Wf 36 2 35, Wl 37 36, mv 38 0, Wc 39 38, Wf 40 1 39, Wl 41 40, We 42 41, Wb 43 .add 37 42, Wc 44 33, Wf 45 2 44, Ws 1 45 43]
def zLL : LA := [mv 46 0, Wc 47 46, Wf 48 1 47, n_ (.st 1 (.t 48) (.c (.nils)))]
def zLK : LA := [mv 49 7, mv 2 49, Wo 3 true]
def zIq : ACode := (.seq (.ops zLR) (.seq (.seq (.ops zLQ) (.cond (.t 10) (.seq (.ops zLP) .ret) .skip)) (.seq (.alts [12, 13, 14, 15, 16, 17, 18, 19, 20, 11, 21, 22, 23, 4, 5, 6] [zLO]) (.seq (.ops [Wn 7]) (.seq (.ops zLN) (.seq (.alts [33, 34, 35, 36, 37, 38, 39, 40, 41, 42, 43, 44, 45] [zLM]) (.seq (.ops zLL) (.seq (.ops zLK) .ret))))))))
def zIi : List ARes := [.tmp 2, .tmp 3]
theorem zNX : zS Tryz.prog Tryz.f26 = some (zIq, zIi) := by kernel_rfl
theorem zNS {md : Bool} {args : List AV} {h : Hp} {Q : Res → Hp → Prop} (hl : zD Tryz.prog md zIq (EndQ zIi Q) (env0 50 args) h) (hn : args.length ≤ 50 := by (simp; done)) : CallL Tryz.prog zIm args h Q :=
 CallL.of (md := md) Tryz.func26 zNX (by rw [Tryz.ntmps26]; exact hn) (by rw [Tryz.ntmps26]; exact hl)
abbrev zIo : Nat := 32
def zLY : LA := [Wm 2 0, Wm 3 0]
def zLX : LA := [mv 4 0, Wc 5 4, Wf 6 3 5, Wl 7 6, Wi 8 .eql 7 0]
def zLW : LA := [Wm 2 0, Wm 3 0]
def zLV : LA := [mv 9 0, Wc 10 9, Wf 11 3 10, Wl 12 11, mv 13 0, Wc 14 13, Wf 15 2 14, Wl 16 15, mv 2 12, mv 3 16]
def zIs : ACode := (.seq (.ops zLY) (.seq (.seq (.ops zLX) (.cond (.t 8) (.seq (.ops zLW) .ret) .skip)) (.seq (.alts [9, 10, 11, 12, 13, 14, 15, 16, 2, 3] [zLV]) .ret)))
def zIk : List ARes := [.tmp 2, .tmp 3]
theorem zNZ : zS Tryz.prog Tryz.f32 = some (zIs, zIk) := by kernel_rfl
theorem zNU {md : Bool} {args : List AV} {h : Hp} {Q : Res → Hp → Prop} (hl : zD Tryz.prog md zIs (EndQ zIk Q) (env0 17 args) h) (hn : args.length ≤ 17 := by (simp; done)) : CallL Tryz.prog zIo args h Q :=
 CallL.of (md := md) Tryz.func32 zNZ (by rw [Tryz.ntmps32]; exact hn) (by rw [Tryz.ntmps32]; exact hl)
abbrev zKf : Nat := 30
def zMe : LA := [mv 4 0, o_ 5 (.call 33 [(.t 4)]), mv 3 5]
def zMd : LA := [mv 6 0, Wc 7 6, Wf 8 3 7, Wl 9 8, Wi 10 .eql 9 0, mv 11 10, Wgm 12 0 11, g_ 13 (.nilc (.t 12)) 11, Wgf 14 1 13 11, Wgl 15 14 11, g_ 16 (.lenl (.t 15)) 11, g_ 17 (.bini .gtr (.t 16) (i_ 0)) 11, Wp 18 11 17, mv 19 18, Wgm 20 3 19, g_ 21 (.not (.t 20)) 19, Wp 22 19 21]
def zMc : LA := [mv 23 0, Wc 24 23, Wf 25 3 24, Wl 26 25, mv 2 26]
def zKo : ACode := (.seq (.ops [Wm 2 0]) (.seq (.ops zMe) (.seq (.seq (.ops zMd) (.cond (.t 22) (.seq (.ops [Wm 2 231]) .ret) .skip)) (.seq (.ops zMc) .ret))))
def zKW : List ARes := [.tmp 2]
theorem zOc : zS Tryz.prog Tryz.f30 = some (zKo, zKW) := by kernel_rfl
theorem zOa {md : Bool} {args : List AV} {h : Hp} {Q : Res → Hp → Prop} (hl : zD Tryz.prog md zKo (EndQ zKW Q) (env0 27 args) h) (hn : args.length ≤ 27 := by (simp; done)) : CallL Tryz.prog zKf args h Q :=
 CallL.of (md := md) Tryz.func30 zOc (by rw [Tryz.ntmps30]; exact hn) (by rw [Tryz.ntmps30]; exact hl)
end Go.Proofs.YtldbbnkacahndaaGreatDoor

namespace Go.Proofs.YtldbbnkacahndaaGreatDoor
open Go.L
abbrev TR2 : TypeId := 284
abbrev TS2 : TypeId := 102
def NumR (at_ : Nat) (rest : Str) : Res := match rdV rest with
 | .ok v n => .ret (.tup [.int .u64 v, .int .i64 (at_ + n : Nat), .int .i64 0])
 | .short => .ret (.tup [.int .u64 0, .int .i64 at_, .int .i64 10])
 | .long => .ret (.tup [.int .u64 0, .int .i64 at_, .int .i64 11])
theorem zOU {at_ : Nat} {rest : Str} {v n : Nat} (e : rdV rest = .ok v n) : NumR at_ rest = .ret (.tup [.int .u64 v, .int .i64 (at_ + n : Nat), .int .i64 0]) := by unfold NumR; rw [e]
theorem zLm {at_ : Nat} {rest : Str} (e : rdV rest = .short) : NumR at_ rest = .ret (.tup [.int .u64 0, .int .i64 at_, .int .i64 10]) := by unfold NumR; rw [e]
theorem zKX {at_ : Nat} {rest : Str} (e : rdV rest = .long) : NumR at_ rest = .ret (.tup [.int .u64 0, .int .i64 at_, .int .i64 11]) := by unfold NumR; rw [e]
theorem qLo (c : UInt8) : Int.tmod (c.toNat : Int) 128 = ((c.toNat % 128 : Nat) : Int) := by rw [Int.tmod_eq_emod_of_nonneg (by omega)]; omega
theorem qYn {x i : Nat} (h : x * 2 ^ (7 * i) < 18446744073709551616) (hi : i ≤ 9) : IntKind.u64.wrap ((x : Int) * 2 ^ (min ((7 * i : Nat) : Int).toNat IntKind.u64.bits)) = ((x * 2 ^ (7 * i) : Nat) : Int) := shl7 h hi
set_option maxHeartbeats 2000000 in
theorem zWL (cv : AV) (at_ en : Nat) (b : Str) (h : Hp) (ho : OwnX Tb h cv (bt b)) (h1 : at_ ≤ en) (h2 : en ≤ b.length) (hb : b.length ≤ 1000000000000) :
  CallL Tryz.prog zAu [cv, .int .i64 at_, .int .i64 en] h fun r h' => r = NumR at_ ((b.take en).drop at_) ∧ h' = h := by
 refine zFW (md := false) ?_
 have hrl : ((b.take en).drop at_).length = en - at_ := by rw [List.length_drop, List.length_take]; omega
 refine zEg (id := 0) (fun e' h' => h' = h ∧ e'.ds = [] ∧ rdV ((b.take en).drop at_) = .long ∧ Has e' [(1, .int .i64 at_)]) ?_ ?_
 ·refine zAo 10 (fun k (s : Nat) => k ≤ 10 ∧ s < 128 ^ k ∧ rdV ((b.take en).drop at_) = rdN (10 - k) k s (((b.take en).drop at_).drop k)) (fun k s => [(0, cv), (1, .int .i64 at_), (2, .int .i64 en), (9, .int .u64 (s : Nat)), (10, .int .i64 k)]) (fun _ _ => h) 0 ⟨Nat.zero_le _, by decide, rfl⟩ rfl rfl ⟨rfl, rfl, rfl, rfl, rfl, trivial⟩ (fun k s hI => hI.1) ?_
  rintro k acc n0 g0 hk ⟨_, hacc, hrd⟩
  refine s_lt (fun (h3 : (k : Int) < 10) => ?_) (fun (h3 : (10 : Int) ≤ k) => ?_)
  ·have hf : 10 - k = (9 - k) + 1 := by omega
   rw [hf] at hrd
   refine zN (at_ + k) (by omega) (by omega) ?_
   refine s_le (fun (h4 : (en : Int) ≤ (at_ + k : Nat)) => ?_) (fun (h4 : ((at_ + k : Nat) : Int) < en) => ?_)
   ·have e0 : ((b.take en).drop at_).drop k = [] := List.drop_of_length_le (by omega)
    rw [e0, rdN] at hrd
    exact ⟨rfl, (zLm hrd).symm, rfl⟩
   ·obtain ⟨c, hc⟩ := zR (l := (b.take en).drop at_) (k := k) (by omega)
    have hcb : b[at_ + k]? = some c := by
     rw [List.getElem?_drop, List.getElem?_take_of_lt (by omega)] at hc; exact hc
    rw [zHa hc, rdN] at hrd
    refine zN (at_ + k) (by omega) (by omega) ?_
    rcases ho with ⟨rfl, h0⟩ | ⟨B, row, q, rfl, hB, hrow, hrl2, _⟩
    ·have hb0 : b.length = 0 := by have := congrArg List.length h0; rwa [zP] at this
     have := (List.getElem?_eq_some_iff.1 hcb).1
     omega
    have hbl := zP b
    have hg : row[0 + (at_ + k)]? = some [.int .u8 (c.toNat : Int)] := by
     have := zNI hcb
     rw [← hrow, List.getElem?_take_of_lt (by omega)] at this
     rw [Nat.zero_add]; exact this
    refine ⟨at_ + k, rfl, by omega, ⟨_, hB⟩, ?_⟩
    refine ⟨_, _, _, _, hB, hg, rfl, ?_⟩
    have hcl := c.toNat_lt
    have hp := p128 k
    refine s_eq (fun (h5 : (k : Int) = 9) => ?_) (fun (h5 : (k : Int) ≠ 9) => ?_)
    ·refine s_lt (fun (h6 : (1 : Int) < c.toNat) => ?_) (fun (h6 : (c.toNat : Int) ≤ 1) => ?_)
     ·rw [if_pos ⟨by omega, by omega⟩] at hrd
      exact ⟨rfl, (zKX hrd).symm, rfl⟩
     ·rw [if_neg (by omega), if_pos (by omega)] at hrd
      have hx0 : c.toNat % 128 * 2 ^ (7 * k) ≤ 1 * 2 ^ (7 * k) := Nat.mul_le_mul_right _ (by omega)
      have h63 : 2 ^ (7 * k) = 9223372036854775808 := by
       obtain rfl : k = 9 := by omega
       rfl
      refine ⟨by decide, s_ie (qLo c) (s_ie (zAj (by omega)) ?_)⟩
      refine zN (7 * k) (by omega) (by omega) ?_
      refine s_ie (zAj (by omega)) ?_
      refine ⟨by omega, s_ie (qYn (by omega) (by omega)) ?_⟩
      refine s_ie (d := ((acc + c.toNat % 128 * 2 ^ (7 * k) : Nat) : Int)) (by rw [← Int.natCast_add, zAj (by omega)]) ?_
      refine s_lt (fun _ => ?_) (fun (h7 : (128 : Int) ≤ c.toNat) => by omega)
      refine zN (at_ + k) (by omega) (by omega) ?_
      refine zN (at_ + k + 1) (by omega) (by omega) ?_
      rw [hp] at hrd
      exact ⟨rfl, (zOU hrd).symm, rfl⟩
    ·rw [if_neg (by omega)] at hrd
     have hx1 : c.toNat % 128 * 2 ^ (7 * k) ≤ 127 * 2 ^ (7 * k) := Nat.mul_le_mul_right _ (by omega)
     have hx3 : 2 ^ (7 * k) ≤ 2 ^ 56 := Nat.pow_le_pow_right (by decide) (by omega)
     refine ⟨by decide, s_ie (qLo c) (s_ie (zAj (by omega)) ?_)⟩
     refine zN (7 * k) (by omega) (by omega) ?_
     refine s_ie (zAj (by omega)) ?_
     refine ⟨by omega, s_ie (qYn (by omega) (by omega)) ?_⟩
     refine s_ie (d := ((acc + c.toNat % 128 * 2 ^ (7 * k) : Nat) : Int)) (by rw [← Int.natCast_add, zAj (by omega)]) ?_
     refine s_lt (fun (h7 : (c.toNat : Int) < 128) => ?_) (fun (h7 : (128 : Int) ≤ c.toNat) => ?_)
     ·rw [if_pos (by omega), hp] at hrd
      refine zN (at_ + k) (by omega) (by omega) ?_
      refine zN (at_ + k + 1) (by omega) (by omega) ?_
      exact ⟨rfl, (zOU hrd).symm, rfl⟩
     ·rw [if_neg (by omega), hp] at hrd
      refine zN (k + 1) (by omega) (by omega) ?_
      refine ⟨acc + c.toNat % 128 * 2 ^ (7 * k), by omega, ⟨by omega, ?_, ?_⟩, rfl, rfl, rfl, rfl, rfl, rfl, rfl, trivial⟩
      ·rw [p128, show 7 * (k + 1) = 7 * k + 7 by omega, Nat.pow_add]; omega
      ·rw [hrd, show 10 - (k + 1) = 9 - k by omega]
  ·obtain rfl : k = 10 := by omega
   exact ⟨rfl, rfl, by rw [hrd]; rfl, rfl, trivial⟩
 ·rintro e' h' ⟨rfl, hd, hl, hs⟩
  obtain ⟨n0, g0, rfl⟩ := hs.out hd
  exact ⟨rfl, (zKX hl).symm, rfl⟩
theorem zJn (R : Nat) (cv : AV) (at_ en w e p : Int) (h : Hp) (hR : h R = some (.row TR2 [RdC cv at_ en 0 w])) :
  CallL Tryz.prog zBF [.ptr R 0 0, .int .i64 e, .int .i64 p] h fun r h' => r = .ret (.tup []) ∧ h' = if e = 0 then h else h.set R (.row TR2 [RdC cv at_ en e p]) := by
 refine zFy (md := false) ?_
 refine ⟨_, _, _, _, hR, rfl, rfl, ?_⟩
 refine s_eq (fun _ => ?_) (fun h1 => absurd rfl h1)
 refine s_ne (fun (h1 : e ≠ 0) => ?_) (fun (h1 : e = 0) => ?_)
 ·refine ⟨_, _, _, hR, rfl, rfl, rfl, rfl, by show 4 ≤ 5; decide, ?_⟩
  refine ⟨_, _, _, Hp.set_same _ _ _, rfl, rfl, rfl, rfl, by show 5 ≤ 5; decide, ?_⟩
  refine ⟨rfl, rfl, ?_⟩
  rw [if_neg h1]; exact Hp.set_set _ _ _ _
 ·exact ⟨rfl, rfl, by rw [if_pos h1]⟩
theorem zNL (R : Nat) (cv : AV) (b : Str) (h : Hp) (hR : h R = some (.row TR2 [RdC cv 0 b.length 0 0])) (ho : OwnX Tb h cv (bt b)) (hb : b.length ≤ 1000000000000) :
  CallL Tryz.prog zAt [.ptr R 0 0] h fun r h' => match rdV b with
   | .ok v n => r = .ret (.int .u64 v) ∧ h' = h.set R (.row TR2 [RdC cv n b.length 0 0])
   | .short => r = .ret (.int .u64 0) ∧ h' = h.set R (.row TR2 [RdC cv 0 b.length 10 0])
   | .long => r = .ret (.int .u64 0) ∧ h' = h.set R (.row TR2 [RdC cv 0 b.length 11 0]) := by
 refine zFV (md := false) ?_
 refine ⟨_, _, _, _, hR, rfl, rfl, ?_⟩
 refine s_ne (fun h3 => absurd rfl h3) (fun _ => ?_)
 refine ⟨_, _, _, _, hR, rfl, rfl, ?_⟩
 refine ⟨_, _, _, _, hR, rfl, rfl, ?_⟩
 refine ⟨_, _, _, _, hR, rfl, rfl, ?_⟩
 refine (zWL cv 0 b.length b h ho (Nat.zero_le _) (Nat.le_refl _) hb).mono ?_
 have e0 : (b.take b.length).drop 0 = b := by rw [List.drop_zero, List.take_length]
 rw [e0]
 rintro r h' ⟨rfl, rfl⟩
 cases hrd : rdV b with
 | short =>
  rw [zLm hrd]
  refine ⟨_, rfl, _, rfl, _, rfl, ?_⟩
  refine ⟨_, _, _, _, hR, rfl, rfl, ?_⟩
  refine (zJn R cv 0 b.length 0 10 0 h' hR).mono ?_
  rintro r h'' ⟨rfl, rfl⟩
  refine ⟨_, _, _, Hp.set_same _ _ _, rfl, rfl, rfl, rfl, by show 2 ≤ 5; decide, ?_⟩
  exact ⟨rfl, rfl, Hp.set_set _ _ _ _⟩
 | long =>
  rw [zKX hrd]
  refine ⟨_, rfl, _, rfl, _, rfl, ?_⟩
  refine ⟨_, _, _, _, hR, rfl, rfl, ?_⟩
  refine (zJn R cv 0 b.length 0 11 0 h' hR).mono ?_
  rintro r h'' ⟨rfl, rfl⟩
  refine ⟨_, _, _, Hp.set_same _ _ _, rfl, rfl, rfl, rfl, by show 2 ≤ 5; decide, ?_⟩
  exact ⟨rfl, rfl, Hp.set_set _ _ _ _⟩
 | ok v n =>
  rw [zOU hrd, Nat.zero_add]
  refine ⟨_, rfl, _, rfl, _, rfl, ?_⟩
  refine ⟨_, _, _, _, hR, rfl, rfl, ?_⟩
  refine (zJn R cv 0 b.length 0 0 0 h' hR).mono ?_
  rintro r h'' ⟨rfl, rfl⟩
  refine ⟨_, _, _, hR, rfl, rfl, rfl, rfl, by show 2 ≤ 5; decide, ?_⟩
  exact ⟨rfl, rfl, rfl⟩
def trip (x : Int × Int × Int) : Res := .ret (.tup [.int .i64 x.1, .int .i64 x.2.1, .int .i64 x.2.2])
theorem qQk {us : List AV} {H : Hp} {x : Nat} {u : AV} (hu : u ∈ us) (hb : zG u = some x) : (hpO us H).u x = false := by
 cases h : (hpO us H).u x with
 | false => rfl
 | true => exact absurd hb ((zOv h).1 u hu)
def HandOk (H : Hp) (u : AV) (l : Str) : Prop := (u = .nils ∧ l = []) ∨ ∃ j, u = .slc j 0 l.length none ∧ H j = some (.row Tb (bt l))
theorem HandOk.own {H : Hp} {u : AV} {l : Str} (k : HandOk H u l) : OwnX Tb H u (bt l) := by
 rcases k with ⟨rfl, rfl⟩ | ⟨j, rfl, h⟩
 ·exact .inl ⟨rfl, rfl⟩
 ·exact .inr ⟨j, bt l, none, by rw [zP], h, List.take_length, Nat.le_refl _, .inl rfl⟩
theorem HandOk.gr {H H' : Hp} {u : AV} {l : Str} (g : Gr H H') (k : HandOk H u l) : HandOk H' u l := by
 rcases k with k | ⟨j, h1, h2⟩
 ·exact .inl k
 ·exact .inr ⟨j, h1, g.blk h2⟩
theorem HandOk.row {H H' : Hp} {u : AV} {l : Str} (g : ∀ b r, zG u = some b → H b = some (.row Tb r) → H' b = some (.row Tb r)) (k : HandOk H u l) : HandOk H' u l := by
 rcases k with k | ⟨j, rfl, h2⟩
 ·exact .inl k
 ·exact .inr ⟨j, rfl, g j _ rfl h2⟩
theorem HandOk.one {H : Hp} {u : AV} {l : Str} (k : HandOk H u l) : zCd u = true ∧ u.cells = [u] ∧ flat [u] = true := by
 rcases k with ⟨rfl, _⟩ | ⟨j, rfl, _⟩ <;> exact ⟨rfl, rfl, rfl⟩
theorem HandOk.lenl {H : Hp} {u : AV} {l : Str} (k : HandOk H u l) : (u = .nils ∧ l = []) ∨ ∃ j, u = .slc j 0 l.length none := k.imp (fun h => h) fun ⟨j, h, _⟩ => ⟨j, h⟩
structure FrS (S : Nat) (u0 u : AV) (H0 H : Hp) : Prop where
 m : ∀ x, H0.u x = true → x ≠ S → zG u0 ≠ some x → H x = H0 x
 um : ∀ x, H0.u x = true → H.u x = true
 b : ∀ x, zG u = some x → zG u0 = some x ∨ H0.u x = false
theorem FrS.refl (S : Nat) (u : AV) (H : Hp) : FrS S u u H H := ⟨fun _ _ _ _ => rfl, fun _ h => h, fun _ h => .inl h⟩
theorem FrS.gr {S : Nat} {u0 u : AV} {H0 H H' : Hp} (k : FrS S u0 u H0 H) (g : Gr H H') : FrS S u0 u H0 H' :=
 ⟨fun x h1 h2 h3 => (g.m x (k.um x h1)).trans (k.m x h1 h2 h3), fun x h => g.u x (k.um x h), k.b⟩
theorem FrS.set {S : Nat} {u0 u : AV} {H0 H : Hp} (k : FrS S u0 u H0 H) (b : Blk) : FrS S u0 u H0 (H.set S b) :=
 ⟨fun x h1 h2 h3 => (Hp.set_ne h2).trans (k.m x h1 h2 h3), fun x h => by rw [Hp.set_u, k.um x h]; simp, k.b⟩
theorem FrS.nil {S : Nat} {u0 u : AV} {H0 H : Hp} (k : FrS S u0 u H0 H) : FrS S u0 .nils H0 H := ⟨k.m, k.um, fun x h => by cases h⟩
theorem HandOk.app {S : Nat} {u0 u : AV} {H0 H : Hp} {l x : Str} {next : AV → Hp → Prop} (k : HandOk H u l) (f : FrS S u0 u H0 H) (hl : l.length + x.length ≤ 1000000000000)
  (hn : ∀ v' H', HandOk H' v' (l ++ x) → FrS S u0 v' H0 H' → (∀ y b, H y = some b → (∀ r, b ≠ .row Tb r) → H' y = some b) → (∀ y, H.u y = true → zG u ≠ some y → H' y = H y) → (∀ y, H.u y = true → H'.u y = true) → next v' H') : zIF false Tb 1 1 u (bt x) H next := by
 have hb1 := zP l
 have hb2 := zP x
 have a : AccE Tb (hpO [u] H) H u (bt l) := by
  refine ⟨qLv _ _, ?_⟩
  rcases k with ⟨rfl, rfl⟩ | ⟨j, rfl, h⟩
  ·exact .inl ⟨rfl, rfl⟩
  ·exact .inr ⟨j, by rw [hb1], qQk (u := .slc j 0 l.length none) (by simp) rfl, h⟩
 refine AccE.app a (zLl _) (zKQ _) (by rw [hb1, hb2]; unfold zJ; omega) (by rw [hb1, hb2]; unfold zJ; omega) fun v' H' ha hf hu hb => ?_
 refine hn v' H' ?_ ⟨fun y h1 h2 h3 => ?_, fun y h => hu y (f.um y h), fun y hy => ?_⟩ (fun y b hy hr => ?_) hf hu
 ·rcases ha.2 with ⟨h1, h2⟩ | ⟨j, h1, _, h2⟩
  ·rw [← zNJ] at h2
   exact .inl ⟨h1, List.map_eq_nil_iff.1 h2⟩
  ·rw [← zNJ] at h1 h2
   exact .inr ⟨j, by rw [h1, zP], h2⟩
 ·refine (hf y (f.um y h1) fun e => ?_).trans (f.m y h1 h2 h3)
  rcases f.b y e with h | h
  ·exact h3 h
  ·rw [h1] at h; cases h
 ·rcases hb y hy with h | h
  ·exact f.b y h
  ·cases hc : H0.u y with
   | false => exact .inr rfl
   | true => rw [f.um y hc] at h; cases h
 ·refine (hf y (Hp.used hy) fun e => ?_).trans hy
  rcases k with ⟨rfl, _⟩ | ⟨j, rfl, h⟩
  ·cases e
  ·cases e; rw [h] at hy; cases hy; exact hr _ rfl
def SpC2 (lim : Nat) (u : AV) (ahead : Nat) (bad : Int) : List AV := [.int .i64 lim, u, .int .i64 ahead, .int .i64 bad]
theorem zJt (u : AV) (l : Str) (lim : Nat) (H : Hp) (k : HandOk H u l) (hl : l.length ≤ 1000000000000) (hlim : lim ≤ 16777216) :
  CallL Tryz.prog zGZ [u, .int .i64 0, .int .i64 lim] H fun r H' => r = trip (zAk lim l) ∧ Gr H H' := by
 refine zLA (md := false) ?_
 have gs : ∀ {R : Nat} (b b'), Fresh H R → Gr H ((H.set R b).set R b') := fun b b' hR => by rw [Hp.set_set]; exact Gr.new1 _ hR.1 _
 rcases k.lenl with ⟨rfl, rfl⟩ | ⟨j, rfl⟩
 ·refine ⟨_, rfl, ?_⟩
  refine ⟨rfl, rfl, fun R hR => ?_⟩
  refine (zNL R .nils [] _ (Hp.set_same _ _ _) (.inl ⟨rfl, rfl⟩) (by decide)).mono ?_
  rintro r h' ⟨rfl, rfl⟩
  refine ⟨_, _, _, _, Hp.set_same _ _ _, rfl, rfl, ?_⟩
  refine s_ne (fun _ => ?_) (fun h => absurd h (by decide))
  refine ⟨_, _, _, _, Hp.set_same _ _ _, rfl, rfl, ?_⟩
  exact ⟨rfl, rfl, gs _ _ hR⟩
 refine ⟨_, rfl, ?_⟩
 refine ⟨rfl, rfl, fun R hR => ?_⟩
 have g1 : Gr H (H.set R (.row TR2 [RdC (.slc j 0 l.length none) 0 l.length 0 0])) := Gr.new1 _ hR.1 _
 refine (zNL R (.slc j 0 l.length none) l _ (Hp.set_same _ _ _) (k.gr g1).own hl).mono ?_
 intro r h' hq
 cases hrd : rdV l with
 | short =>
  rw [hrd] at hq
  obtain ⟨rfl, rfl⟩ := hq
  refine ⟨_, _, _, _, Hp.set_same _ _ _, rfl, rfl, ?_⟩
  refine s_ne (fun _ => ?_) (fun h => absurd h (by decide))
  refine ⟨_, _, _, _, Hp.set_same _ _ _, rfl, rfl, ?_⟩
  exact ⟨rfl, Eq.trans (b := trip (0, 0, 10)) rfl (congrArg trip (jH hrd).symm), gs _ _ hR⟩
 | long =>
  rw [hrd] at hq
  obtain ⟨rfl, rfl⟩ := hq
  refine ⟨_, _, _, _, Hp.set_same _ _ _, rfl, rfl, ?_⟩
  refine s_ne (fun _ => ?_) (fun h => absurd h (by decide))
  refine ⟨_, _, _, _, Hp.set_same _ _ _, rfl, rfl, ?_⟩
  exact ⟨rfl, Eq.trans (b := trip (0, 0, 11)) rfl (congrArg trip (zCc hrd).symm), gs _ _ hR⟩
 | ok v n =>
  rw [hrd] at hq
  obtain ⟨rfl, rfl⟩ := hq
  have hvn := zJr hrd
  have hRR := Hp.set_same (H.set R (.row TR2 [RdC (.slc j 0 l.length none) 0 l.length 0 0])) R (.row TR2 [RdC (.slc j 0 l.length none) n l.length 0 0])
  refine ⟨_, _, _, _, hRR, rfl, rfl, ?_⟩
  refine s_ne (fun h => absurd rfl h) (fun _ => ?_)
  refine s_ie (zAj (by omega)) ?_
  refine s_lt (fun h5 => ?_) (fun h5 => ?_)
  ·exact ⟨rfl, Eq.trans (b := trip (0, 0, 230)) rfl (congrArg trip (zDk hrd (by omega)).symm), gs _ _ hR⟩
  ·refine ⟨_, _, _, _, hRR, rfl, rfl, ?_⟩
   refine zN (l.length - n) (by omega) (by omega) ?_
   refine s_ie (zAj (by omega)) ?_
   refine s_lt (fun h6 => ?_) (fun h6 => ?_)
   ·exact ⟨rfl, Eq.trans (b := trip (0, 0, 10)) rfl (congrArg trip (qY hrd (by omega) (by omega)).symm), gs _ _ hR⟩
   ·refine ⟨_, _, _, _, hRR, rfl, rfl, ?_⟩
    refine ⟨_, _, _, _, hRR, rfl, rfl, ?_⟩
    refine zN v rfl (by omega) ?_
    refine zN (n + v) (by omega) (by omega) ?_
    exact ⟨rfl, Eq.trans (b := trip (((n : Nat) : Int), ((n + v : Nat) : Int), (0 : Int))) rfl (congrArg trip (zBW hrd (by omega) (by omega)).symm), gs _ _ hR⟩
end Go.Proofs.YtldbbnkacahndaaGreatDoor

namespace Go.Proofs.YtldbbnkacahndaaGreatDoor
open Go.L
theorem zX {T T' : TypeId} {r r' : List (List AV)} (h : T ≠ T') : Blk.row T r ≠ .row T' r' := fun e => by injection e with e _; exact h e
theorem zMh (lim : Nat) (bad : Int) : false = jK lim bad [] := (decide_eq_false fun h => by have := h.2; exact absurd this (by rw [errX, jH rfl]; decide)).symm
theorem zJc (R : Nat) (u : AV) (l : Str) (lim ahead : Nat) (bad : Int) (H : Hp) (hR : H R = some (.row TS2 [SpC2 lim u ahead bad])) (k : HandOk H u l) (hl : l.length ≤ 1000000000000) (hlim : lim ≤ 16777216) :
  CallL Tryz.prog zHi [.ptr R 0 0] H fun r H' => r = .ret (.bool (jK lim bad l)) ∧ Gr H H' := by
 refine zMX (md := false) ?_
 refine ⟨_, _, _, _, hR, rfl, rfl, ?_⟩
 refine s_ne (fun (h1 : bad ≠ 0) => ?_) (fun (h1 : bad = 0) => ?_)
 ·exact ⟨rfl, Res.bool_eq (decide_eq_false fun h => h1 h.1).symm, Gr.refl H⟩
 subst h1
 refine ⟨_, _, _, _, hR, rfl, rfl, ?_⟩
 rcases k.lenl with ⟨rfl, rfl⟩ | ⟨j, rfl⟩
 ·refine s_eq (fun _ => ?_) (fun h => absurd rfl h)
  exact ⟨rfl, Res.bool_eq (zMh _ _), Gr.refl H⟩
 ·refine s_eq (fun h2 => ?_) (fun h2 => ?_)
  ·have h0 : l = [] := List.eq_nil_of_length_eq_zero (by omega)
   subst h0
   exact ⟨rfl, Res.bool_eq (zMh _ _), Gr.refl H⟩
  ·refine ⟨_, _, _, _, hR, rfl, rfl, ?_⟩
   refine ⟨_, _, _, _, hR, rfl, rfl, ?_⟩
   refine (zJt _ l lim H k hl hlim).mono ?_
   rintro r H' ⟨rfl, g⟩
   refine ⟨_, rfl, _, rfl, _, rfl, ?_⟩
   refine s_eq (fun (h3 : errX lim l = 0) => ?_) (fun (h3 : errX lim l ≠ 0) => ?_)
   ·exact ⟨rfl, Res.bool_eq (decide_eq_true ⟨rfl, h3⟩).symm, g⟩
   ·exact ⟨rfl, Res.bool_eq (decide_eq_false fun h => h3 h.2).symm, g⟩
def Src (H : Hp) (v : AV) (b : Str) : Prop := (∃ g, v = .isl g (bt b)) ∨ OwnX Tb H v (bt b)
theorem Src.row {H H' : Hp} {v : AV} {b : Str} (g : ∀ x r, zG v = some x → H x = some (.row Tb r) → H' x = some (.row Tb r)) (k : Src H v b) : Src H' v b := by
 rcases k with k | ⟨rfl, h⟩ | ⟨x, row, q, rfl, h2, h3⟩
 ·exact .inl k
 ·exact .inr (.inl ⟨rfl, h⟩)
 ·exact .inr (.inr ⟨x, row, q, rfl, g x _ rfl h2, h3⟩)
theorem Src.used {H : Hp} {v : AV} {b : Str} (k : Src H v b) {x : Nat} (hx : zG v = some x) : ∃ r, H x = some (.row Tb r) := by
 rcases k with ⟨g, rfl⟩ | ⟨rfl, h⟩ | ⟨x', row, q, rfl, h2, h3⟩
 ·cases hx
 ·cases hx
 ·cases hx; exact ⟨_, h2⟩
theorem zQz (R : Nat) (u0 u1 v : AV) (hand b : Str) (lim ahead k : Nat) (H0 H1 : Hp) (c : UInt8) (hc : b[k]? = some c) (hR : H1 R = some (.row TS2 [SpC2 lim u1 ahead 0])) (ho : HandOk H1 u1 hand) (hf : FrS R u0 u1 H0 H1) (hs : Src H1 v b) (hl : hand.length ≤ 100000000) (hk : b.length ≤ 100000000)
  (e : Env) (hd : e.ds = []) (hh : Has e [(0, .ptr R 0 0), (1, v), (5, .int .i64 k)]) (Q : Xit → Env → Hp → Prop) :
  zD Tryz.prog false (.alts [25, 26, 27, 28, 29, 30, 31, 32, 33, 34, 35, 36, 37] [zGk]) (zCY (fun e' H' => ∃ u', e'.ds = [] ∧ Has e' [(0, .ptr R 0 0), (1, v), (5, .int .i64 k)] ∧ H' R = some (.row TS2 [SpC2 lim u' ahead 0]) ∧ HandOk H' u' (hand ++ [c]) ∧ FrS R u0 u' H0 H' ∧ (∀ y, H1.u y = true → y ≠ R → zG u1 ≠ some y → H' y = H1 y)) Q) e H1 := by
 obtain ⟨n0, g0, rfl⟩ := hh.out hd
 have hbl := zP b
 have hkl := (List.getElem?_eq_some_iff.1 hc).1
 have go : ∀ (tb : Nat) (b' : Blk), Fresh H1 tb → b' = .row Tb (bt [c]) → ∀ (next : AV → Hp → Prop), (∀ u2 H3, HandOk H3 u2 (hand ++ [c]) → FrS R u0 u2 H0 H3 → H3 R = some (.row TS2 [SpC2 lim u1 ahead 0]) → (∀ y, H1.u y = true → zG u1 ≠ some y → H3 y = H1 y) → next u2 H3) → zIF false Tb 1 1 u1 (bt [c]) (H1.set tb b') next := by
  intro tb b' htb hb' next hn
  have g1 := Gr.new1 H1 htb.1 b'
  refine HandOk.app (ho.gr g1) (hf.gr g1) (by simp; omega) fun u2 H3 h1 h2 h3 h4 h5 => hn u2 H3 h1 h2 (h3 R _ (g1.blk hR) fun r => zX (by decide)) fun y hy hyb => (h4 y (g1.u y hy) hyb).trans (g1.m y hy)
 have ret : ∀ (u2 : AV) (H3 : Hp), HandOk H3 u2 (hand ++ [c]) → FrS R u0 u2 H0 H3 → H3 R = some (.row TS2 [SpC2 lim u1 ahead 0]) → (∀ y, H1.u y = true → zG u1 ≠ some y → H3 y = H1 y) → ∀ X : Hp, X = H3.set R (.row TS2 [SpC2 lim u2 ahead 0]) →
   X R = some (.row TS2 [SpC2 lim u2 ahead 0]) ∧ HandOk X u2 (hand ++ [c]) ∧ FrS R u0 u2 H0 X ∧ (∀ y, H1.u y = true → y ≠ R → zG u1 ≠ some y → X y = H1 y) := by
  rintro u2 H3 h1 h2 h3 h4 _ rfl
  refine ⟨Hp.set_same _ _ _, h1.row fun x r _ hx => (Hp.set_ne fun e => ?_).trans hx, h2.set _, fun y hy hyR hyb => (Hp.set_ne hyR).trans (h4 y hy hyb)⟩
  rw [e, h3] at hx; injection hx with hx; exact zX (by decide) hx
 have ho1 := ho.one
 refine ⟨_, _, _, _, hR, rfl, rfl, ?_⟩
 rcases hs with ⟨g, rfl⟩ | ⟨rfl, h0⟩ | ⟨x, row, q, rfl, hx, hrow, hrl, _⟩
 rotate_left
 ·have : b = [] := List.map_eq_nil_iff.1 h0
  subst this; cases hc
 ·rw [hbl] at *
  have hg : row[0 + k]? = some [.int .u8 (c.toNat : Int)] := by
   have := zNI hc
   rw [← hrow, List.getElem?_take_of_lt (by omega)] at this
   rw [Nat.zero_add]; exact this
  refine ⟨k, rfl, by omega, ⟨_, hx⟩, ?_⟩
  refine ⟨_, _, _, _, hx, hg, rfl, ?_⟩
  refine ⟨_, rfl, fun tb htb => ?_⟩
  refine ⟨bt [c], ⟨_, _, Hp.set_same _ _ _, Nat.le_refl _, rfl⟩, ?_⟩
  refine go tb _ htb rfl _ fun u2 H3 h1 h2 h3 h4 => ?_
  have o2 := h1.one
  refine ⟨_, _, _, h3, rfl, o2.1, by show u2.cells.length = 1; rw [o2.2.1]; rfl, by show flat u2.cells = true; rw [o2.2.1]; exact o2.2.2, by show 2 ≤ 4; decide, ?_⟩
  exact ⟨u2, rfl, ⟨rfl, rfl, rfl, trivial⟩, ret u2 H3 h1 h2 h3 h4 _ (by show H3.set R (.row TS2 ([SpC2 lim u1 ahead 0].set 0 ((SpC2 lim u1 ahead 0).take 1 ++ u2.cells ++ (SpC2 lim u1 ahead 0).drop 2))) = _; rw [o2.2.1]; rfl)⟩
 ·refine s_at k c rfl hc rfl (by decide) ?_
  refine ⟨_, rfl, ?_⟩
  refine ⟨_, rfl, fun tb htb => ?_⟩
  refine ⟨bt [c], ⟨_, _, Hp.set_same _ _ _, Nat.le_refl _, rfl⟩, ?_⟩
  refine go tb _ htb rfl _ fun u2 H3 h1 h2 h3 h4 => ?_
  have o2 := h1.one
  refine ⟨_, _, _, h3, rfl, o2.1, by show u2.cells.length = 1; rw [o2.2.1]; rfl, by show flat u2.cells = true; rw [o2.2.1]; exact o2.2.2, by show 2 ≤ 4; decide, ?_⟩
  exact ⟨u2, rfl, ⟨rfl, rfl, rfl, trivial⟩, ret u2 H3 h1 h2 h3 h4 _ (by show H3.set R (.row TS2 ([SpC2 lim u1 ahead 0].set 0 ((SpC2 lim u1 ahead 0).take 1 ++ u2.cells ++ (SpC2 lim u1 ahead 0).drop 2))) = _; rw [o2.2.1]; rfl)⟩
theorem zRA (R : Nat) (u0 u1 v : AV) (hand : Str) (lim ahead k : Nat) (H0 H1 : Hp) (hR : H1 R = some (.row TS2 [SpC2 lim u1 ahead 0])) (ho : HandOk H1 u1 hand) (hf : FrS R u0 u1 H0 H1) (hl : hand.length ≤ 1000000000) (hk : k ≤ 1000000000) (hlim : lim ≤ 16777216)
  (e : Env) (hd : e.ds = []) (hh : Has e [(0, .ptr R 0 0), (1, v), (5, .int .i64 k)]) (Q : Xit → Env → Hp → Prop) :
  zD Tryz.prog false (.seq (.ops zGj) (.seq (.alts [41, 42, 43, 44, 45, 46, 47, 48, 49, 40, 50, 51, 52, 6, 7, 8] [zGi]) (.seq (.ops zGh) (.cond (.t 58) (.ops zGg) .skip)))) (zCY (fun e' H' => e'.ds = [] ∧ Has e' [(0, .ptr R 0 0), (1, v), (5, .int .i64 (k + 1 : Nat))] ∧ H' R = some (.row TS2 [SpC2 lim u1 ahead (badX lim hand)]) ∧ HandOk H' u1 hand ∧ FrS R u0 u1 H0 H' ∧ ∀ y, H1.u y = true → y ≠ R → H' y = H1 y) Q) e H1 := by
 obtain ⟨n0, g0, rfl⟩ := hh.out hd
 refine zN (k + 1) (by omega) (by omega) ?_
 refine ⟨_, _, _, _, hR, rfl, rfl, ?_⟩
 refine ⟨_, _, _, _, hR, rfl, rfl, ?_⟩
 refine (zJt u1 hand lim H1 ho (by omega) hlim).mono ?_
 rintro r H2 ⟨rfl, g⟩
 refine ⟨_, rfl, _, rfl, _, rfl, ?_⟩
 have hR2 := g.blk hR
 have fr : ∀ {bad : Int} {y : Nat}, H1.u y = true → y ≠ R → (H2.set R (.row TS2 [SpC2 lim u1 ahead bad])) y = H1 y := fun hy hyR => (Hp.set_ne hyR).trans (g.m _ hy)
 have plain : errX lim hand = 0 ∨ errX lim hand = 10 → badX lim hand = 0 := fun h => by
  rw [badX]; rcases h with h | h <;> rw [h] <;> rfl
 refine s_ne (fun (h1 : errX lim hand ≠ 0) => ?_) (fun (h1 : errX lim hand = 0) => ?_)
 ·refine s_ne (fun (h2 : errX lim hand ≠ 10) => ?_) (fun (h2 : errX lim hand = 10) => ?_)
  ·refine ⟨_, _, _, hR2, rfl, rfl, rfl, rfl, by show 4 ≤ 4; decide, ?_⟩
   have e1 : badX lim hand = errX lim hand := by rw [badX, if_neg h2]
   rw [e1]
   refine ⟨rfl, ⟨rfl, rfl, rfl, trivial⟩, Hp.set_same _ _ _, (ho.gr g).row fun x r _ hx => (Hp.set_ne fun e => ?_).trans hx, (hf.gr g).set _, fun y hy hyR => fr hy hyR⟩
   rw [e, hR2] at hx; injection hx with hx; exact zX (by decide) hx
  ·rw [plain (.inr h2)]
   exact ⟨rfl, ⟨rfl, rfl, rfl, trivial⟩, hR2, ho.gr g, hf.gr g, fun y hy _ => g.m y hy⟩
 ·rw [plain (.inl h1)]
  exact ⟨rfl, ⟨rfl, rfl, rfl, trivial⟩, hR2, ho.gr g, hf.gr g, fun y hy _ => g.m y hy⟩
theorem qYq {P : Program} {md : Bool} {Q : Xit → Env → Hp → Prop} {e : Env} {h : Hp} {a : ACode} (Post : Env → Hp → Prop) (k1 : zD P md a (zCY Post Q) e h) (k2 : ∀ e' h', Post e' h' → Q .normal e' h') : zD P md a Q e h := by
 refine qS a k1 ?_
 intro y e' h' hy
 cases y with
 | normal => exact k2 _ _ hy
 | ret => exact hy
 | pan v => exact hy
 | exit j => exact hy
theorem zKD {R k lim ahead : Nat} {u u1 : AV} {hand : Str} {bad1 : Int} {H H1 : Hp} {X : Nat × Str × Int} {e : Env} (h1 : X.1 = 0 + k) (h2 : X.2 = (hand, bad1)) (hR : H1 R = some (.row TS2 [SpC2 lim u1 ahead bad1])) (ho : HandOk H1 u1 hand) (hf : FrS R u u1 H H1) (hd : e.ds = []) (hh : Has e [(5, .int .i64 k)]) :
  e.ds = [] ∧ Has e [(5, .int .i64 X.1)] ∧ ∃ u', H1 R = some (.row TS2 [SpC2 lim u' ahead X.2.2]) ∧ HandOk H1 u' X.2.1 ∧ FrS R u u' H H1 := by
 refine ⟨hd, by rw [h1, Nat.zero_add]; exact hh, u1, ?_, ?_, hf⟩
 ·rw [h2]; exact hR
 ·rw [h2]; exact ho
set_option maxHeartbeats 1000000 in
theorem qRm (R : Nat) (u v : AV) (l b : Str) (lim ahead : Nat) (bad : Int) (H : Hp) (hR : H R = some (.row TS2 [SpC2 lim u ahead bad])) (ho : HandOk H u l) (hs : Src H v b) (hv : ∀ x, zG v = some x → zG u ≠ some x) (hl : l.length + b.length ≤ 100000000) (hlim : lim ≤ 16777216) :
  CallL Tryz.prog zIn [.ptr R 0 0, v] H fun r H' => r = .ret (.int .i64 (zQ lim l bad b).1) ∧ ∃ u', H' R = some (.row TS2 [SpC2 lim u' ahead (zQ lim l bad b).2.2]) ∧ HandOk H' u' (zQ lim l bad b).2.1 ∧ FrS R u u' H H' := by
 have hbl := zP b
 refine zNT (md := false) ?_
 have hv3 : (∃ g, v = .isl g (bt b)) ∨ (v = .nils ∧ b.length = 0) ∨ ∃ x q, v = .slc x 0 b.length q := by
  rcases hs with h | ⟨rfl, h⟩ | ⟨x, row, q, rfl, _⟩
  ·exact .inl h
  ·exact .inr (.inl ⟨rfl, by rw [List.map_eq_nil_iff.1 h]; rfl⟩)
  ·exact .inr (.inr ⟨x, q, by rw [hbl]⟩)
 refine zEg (id := 0) (fun e' H' => e'.ds = [] ∧ Has e' [(5, .int .i64 (zQ lim l bad b).1)] ∧ ∃ u', H' R = some (.row TS2 [SpC2 lim u' ahead (zQ lim l bad b).2.2]) ∧ HandOk H' u' (zQ lim l bad b).2.1 ∧ FrS R u u' H H') ?_ ?_
 ·refine zAo b.length (fun k (s : Hp × AV × Str × Int) => k ≤ b.length ∧ s.1 R = some (.row TS2 [SpC2 lim s.2.1 ahead s.2.2.2]) ∧ HandOk s.1 s.2.1 s.2.2.1 ∧ FrS R u s.2.1 H s.1 ∧ Src s.1 v b ∧ s.2.2.1.length = l.length + k ∧ (zQ lim l bad b).1 = (zQ lim s.2.2.1 s.2.2.2 (b.drop k)).1 + k ∧ (zQ lim l bad b).2 = (zQ lim s.2.2.1 s.2.2.2 (b.drop k)).2)
   (fun k _ => [(0, .ptr R 0 0), (1, v), (5, .int .i64 k)]) (fun _ s => s.1) (H, u, l, bad) ⟨Nat.zero_le _, hR, ho, FrS.refl _ _ _, hs, rfl, rfl, rfl⟩ rfl rfl ⟨rfl, rfl, rfl, trivial⟩ (fun k s hI => hI.1) ?_
  rintro k ⟨H1, u1, hand, bad1⟩ n0 g0 hk ⟨_, hR1, ho1, hf1, hs1, hln, hx1, hx2⟩
  simp only at hR1 ho1 hf1 hs1 hln hx1 hx2
  obtain ⟨w, hw0⟩ : ∃ w, w = v := ⟨v, rfl⟩
  rcases hv3 with ⟨gz, rfl⟩ | ⟨rfl, hb0⟩ | ⟨x, q, rfl⟩
  all_goals
   refine s_lt (fun h1 => ?_) (fun h1 => ?_)
   ·have hkb : k < b.length := by omega
    obtain ⟨c, hc⟩ := zR (l := b) (k := k) hkb
    rw [zHa hc] at hx1 hx2
    refine ⟨_, _, _, _, hR1, rfl, rfl, ?_⟩
    refine s_eq (fun (h2 : bad1 = 0) => ?_) (fun (h2 : bad1 ≠ 0) => ?_)
    ·subst h2
     refine (zJc R u1 hand lim ahead 0 H1 hR1 ho1 (by omega) hlim).mono ?_
     rintro r H2 ⟨hr, g⟩
     cases hw : jK lim 0 hand with
     | true =>
      rw [hw] at hr
      subst hr
      have hst := zDG (lim := lim) (h := hand) (bad := 0) (c :: b.drop (k + 1)) (fun h => h.2 (of_decide_eq_true hw).2)
      rw [hst] at hx1 hx2
      exact zKD hx1 hx2 (g.blk hR1) (ho1.gr g) (hf1.gr g) rfl ⟨rfl, trivial⟩
     | false =>
      rw [hw] at hr
      subst hr
      have hgo := zJW (lim := lim) (h := hand) (bad := 0) (c := c) (r := b.drop (k + 1)) ⟨rfl, fun h => by rw [jK, h] at hw; cases hw⟩
      rw [hgo] at hx1 hx2
      refine zEg (id := 1) (fun e' H' => ∃ u', e'.ds = [] ∧ Has e' [(0, .ptr R 0 0), (1, w), (5, .int .i64 (k + 1 : Nat))] ∧ H' R = some (.row TS2 [SpC2 lim u' ahead (badX lim (hand ++ [c]))]) ∧ HandOk H' u' (hand ++ [c]) ∧ FrS R u u' H H' ∧ Src H' w b) ?_ ?_
      ·subst hw0
       refine qX _ (zQz R u u1 _ hand b lim ahead k H H2 c hc (g.blk hR1) (ho1.gr g) (hf1.gr g) (Src.row (fun x r _ hx => g.blk hx) hs1) (by omega) (by omega) _ rfl ⟨rfl, rfl, rfl, trivial⟩ _) ?_
       rintro e3 H3 ⟨u3, hd3, hh3, q1, q2, q3, q4⟩
       refine qYq _ (zRA R u u3 _ (hand ++ [c]) lim ahead k H H3 q1 q2 q3 (by rw [List.length_append, List.length_singleton]; omega) (by omega) hlim e3 hd3 hh3 _) ?_
       rintro e4 H4 ⟨hd4, hh4, p1, p2, p3, p4⟩
       refine ⟨u3, hd4, hh4, p1, p2, p3, Src.row (fun x r hx hx1 => ?_) hs1⟩
       obtain ⟨r0, hr0⟩ := hs.used hx
       have hxR : x ≠ R := fun e => by rw [e, hR1] at hx1; injection hx1 with hx1; exact zX (by decide) hx1
       have hu1 : zG u1 ≠ some x := fun e => by
        rcases hf1.b x e with h | h
        ·exact hv x hx h
        ·rw [Hp.used hr0] at h; cases h
       exact (p4 x (q3.um x (Hp.used hr0)) hxR).trans ((q4 x (g.u x (Hp.used hx1)) hxR hu1).trans (g.blk hx1))
      ·subst hw0
       rintro e' H' ⟨u', hd, hh, q1, q2, q3, q4⟩
       refine ⟨(H', u', hand ++ [c], badX lim (hand ++ [c])), by omega, ⟨by omega, q1, q2, q3, q4, by rw [List.length_append, hln, List.length_singleton]; omega, ?_, hx2⟩, rfl, hd, hh⟩
       refine hx1.trans ?_
       show (zQ lim (hand ++ [c]) (badX lim (hand ++ [c])) (List.drop (k + 1) b)).1 + 1 + k = (zQ lim (hand ++ [c]) (badX lim (hand ++ [c])) (List.drop (k + 1) b)).1 + (k + 1)
       omega
    ·have hst := zDG (lim := lim) (h := hand) (bad := bad1) (c :: b.drop (k + 1)) (fun h => h2 h.1)
     rw [hst] at hx1 hx2
     exact zKD hx1 hx2 hR1 ho1 hf1 rfl ⟨rfl, trivial⟩
   ·have hkb : k = b.length := by omega
    have hx1' : (zQ lim l bad b).1 = 0 + k := by rw [hx1, hkb, List.drop_length]; rfl
    have hx1' : (zQ lim l bad b).1 = 0 + k := by rw [hx1, hkb, List.drop_length, Nat.zero_add]; show 0 + b.length = b.length; omega
    rw [hkb, List.drop_length] at hx2
    exact zKD hx1' hx2 hR1 ho1 hf1 rfl ⟨rfl, trivial⟩
 ·rintro e' H' ⟨hd, hh, u', h1, h2, h3⟩
  obtain ⟨n0, g0, rfl⟩ := hh.out hd
  exact ⟨rfl, rfl, u', h1, h2, h3⟩
end Go.Proofs.YtldbbnkacahndaaGreatDoor
