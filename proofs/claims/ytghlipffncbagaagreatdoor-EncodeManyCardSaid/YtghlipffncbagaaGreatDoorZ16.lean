/- Contracts of functions of the given program, in the logic L: texts put together; no conditions. -/
import Derived.Test.YtghlipffncbagaaGreatDoorProg
import Derived.Test.YtghlipffncbagaaGreatDoorZ2
import Derived.Test.YtghlipffncbagaaGreatDoorZ3
import Derived.KernelRfl
import Derived.Shelf.LaysM
import Derived.Shelf.Strconv.Itoa3
import Derived.Lib.ItoaLen
import Derived.Test.YtghlipffncbagaaGreatDoorZ4
namespace Go.Proofs.YtghlipffncbagaaGreatDoor
open Go.L
abbrev Tb : TypeId := 5
def eb (n : Int) : List AV := [.int .u8 n]
abbrev bx (l : List Int) : List (List AV) := l.map eb
def bt (l : Str) : List (List AV) := l.map fun b => [.int .u8 (b.toNat : Int)]
theorem bt_len (l : Str) : (bt l).length = l.length := List.length_map ..
theorem bt_app (l m : Str) : bt (l ++ m) = bt l ++ bt m := List.map_append ..
theorem bt_take (l : Str) (n : Nat) : bt (l.take n) = (bt l).take n := List.map_take ..
theorem bt_drop (l : Str) (n : Nat) : bt (l.drop n) = (bt l).drop n := List.map_drop ..
theorem bt_get {l : Str} {k : Nat} {x : UInt8} (h : l[k]? = some x) : (bt l)[k]? = some [.int .u8 (x.toNat : Int)] := by rw [bt, List.getElem?_map, h]; rfl
theorem bt_one (l : Str) : ∀ cs ∈ bt l, cs.length = 1 := fun cs h => by obtain ⟨s, _, rfl⟩ := List.mem_map.1 h; rfl
theorem bt_flat (l : Str) : ∀ cs ∈ bt l, flat cs = true := fun cs h => by obtain ⟨s, _, rfl⟩ := List.mem_map.1 h; rfl
end Go.Proofs.YtghlipffncbagaaGreatDoor

namespace Go.Proofs.YtghlipffncbagaaGreatDoor
open Go.L
abbrev F_slices_Clone : Nat := 38
def A_slices_Clone_0 : LA := [mv 3 0, o_ 4 (.isnilu false (.t 3))]
def A_slices_Clone_1 : LA := [o_ 5 (.bslice0 5), mv 6 0, o_ 7 (.app 5 1 1 (.t 5) (.t 6)), mv 2 7]
def A_slices_Clone : ACode := (.seq (.ops [Wn 2]) (.seq (.seq (.ops A_slices_Clone_0) (.cond (.t 4) (.seq (.ops [Wn 2]) .ret) .skip)) (.seq (.ops A_slices_Clone_1) .ret)))
def R_slices_Clone : List ARes := [.tmp 2]
theorem C_slices_Clone : compF Tryz.prog Tryz.f38 = some (A_slices_Clone, R_slices_Clone) := by kernel_rfl
theorem K_slices_Clone {md : Bool} {args : List AV} {h : Hp} {Q : Res → Hp → Prop} (hl : LCode Tryz.prog md A_slices_Clone (EndQ R_slices_Clone Q) (env0 8 args) h) (hn : args.length ≤ 8 := by (simp; done)) : CallL Tryz.prog F_slices_Clone args h Q :=
 CallL.of (md := md) Tryz.func38 C_slices_Clone (by rw [Tryz.ntmps38]; exact hn) (by rw [Tryz.ntmps38]; exact hl)
abbrev F_math_bits_Len64 : Nat := 17
def A_math_bits_Len64_0 : LA := [mv 3 0, o_ 4 (.bini .geq (.t 3) (.c (.int .u64 4294967296)))]
def A_math_bits_Len64_1 : LA := [mv 5 0, o_ 6 (.bini .shr (.t 5) (.c (.int .u64 32))), mv 0 6]
def A_math_bits_Len64_2 : LA := [mv 7 0, o_ 8 (.bini .geq (.t 7) (.c (.int .u64 65536)))]
def A_math_bits_Len64_3 : LA := [mv 9 0, o_ 10 (.bini .shr (.t 9) (.c (.int .u64 16))), mv 0 10]
def A_math_bits_Len64_4 : LA := [mv 11 2, Wi 12 .add 11 16, mv 2 12]
def A_math_bits_Len64_5 : LA := [mv 13 0, o_ 14 (.bini .geq (.t 13) (.c (.int .u64 256)))]
def A_math_bits_Len64_6 : LA := [mv 15 0, o_ 16 (.bini .shr (.t 15) (.c (.int .u64 8))), mv 0 16]
def A_math_bits_Len64_7 : LA := [mv 17 2, Wi 18 .add 17 8, mv 2 18]
def A_math_bits_Len64_8 : LA := [mv 19 2, mv 20 0, o_ 21 (.conv .u8 (.t 20)), o_ 22 (.idxs (.c (.str [0, 1, 2, 2, 3, 3, 3, 3, 4, 4, 4, 4, 4, 4, 4, 4, 5, 5, 5, 5, 5, 5, 5, 5, 5, 5, 5, 5, 5, 5, 5, 5, 6, 6, 6, 6, 6, 6, 6, 6, 6, 6, 6, 6, 6, 6, 6, 6, 6, 6, 6, 6, 6, 6, 6, 6, 6, 6, 6, 6, 6, 6, 6, 6, 7, 7, 7, 7, 7, 7, 7, 7, 7, 7, 7, 7, 7, 7, 7, 7, 7, 7, 7, 7, 7, 7, 7, 7, 7, 7, 7, 7, 7, 7, 7, 7, 7, 7, 7, 7, 7, 7, 7, 7, 7, 7, 7, 7, 7, 7, 7, 7, 7, 7, 7, 7, 7, 7, 7, 7, 7, 7, 7, 7, 7, 7, 7, 7, 8, 8, 8, 8, 8, 8, 8, 8, 8, 8, 8, 8, 8, 8, 8, 8, 8, 8, 8, 8, 8, 8, 8, 8, 8, 8, 8, 8, 8, 8, 8, 8, 8, 8, 8, 8, 8, 8, 8, 8, 8, 8, 8, 8, 8, 8, 8, 8, 8, 8, 8, 8, 8, 8, 8, 8, 8, 8, 8, 8, 8, 8, 8, 8, 8, 8, 8, 8, 8, 8, 8, 8, 8, 8, 8, 8, 8, 8, 8, 8, 8, 8, 8, 8, 8, 8, 8, 8, 8, 8, 8, 8, 8, 8, 8, 8, 8, 8, 8, 8, 8, 8, 8, 8, 8, 8, 8, 8, 8, 8, 8, 8, 8, 8, 8, 8, 8, 8, 8, 8, 8, 8, 8, 8, 8, 8, 8, 8])) (.t 21)), o_ 23 (.conv .i64 (.t 22)), Wb 24 .add 19 23, mv 2 24]
def A_math_bits_Len64 : ACode := (.seq (.ops [Wm 2 0]) (.seq (.seq (.ops A_math_bits_Len64_0) (.cond (.t 4) (.seq (.ops A_math_bits_Len64_1) (.ops [Wm 2 32])) .skip)) (.seq (.seq (.ops A_math_bits_Len64_2) (.cond (.t 8) (.seq (.ops A_math_bits_Len64_3) (.ops A_math_bits_Len64_4)) .skip)) (.seq (.seq (.ops A_math_bits_Len64_5) (.cond (.t 14) (.seq (.ops A_math_bits_Len64_6) (.ops A_math_bits_Len64_7)) .skip)) (.seq (.ops A_math_bits_Len64_8) .ret)))))
def R_math_bits_Len64 : List ARes := [.tmp 2]
theorem C_math_bits_Len64 : compF Tryz.prog Tryz.f17 = some (A_math_bits_Len64, R_math_bits_Len64) := by kernel_rfl
theorem K_math_bits_Len64 {md : Bool} {args : List AV} {h : Hp} {Q : Res → Hp → Prop} (hl : LCode Tryz.prog md A_math_bits_Len64 (EndQ R_math_bits_Len64 Q) (env0 25 args) h) (hn : args.length ≤ 25 := by (simp; done)) : CallL Tryz.prog F_math_bits_Len64 args h Q :=
 CallL.of (md := md) Tryz.func17 C_math_bits_Len64 (by rw [Tryz.ntmps17]; exact hn) (by rw [Tryz.ntmps17]; exact hl)
end Go.Proofs.YtghlipffncbagaaGreatDoor

namespace Go.Proofs.YtghlipffncbagaaGreatDoor
open Go.L
theorem Clone_slc (i k T : Nat) (c : Option Nat) (es : List (List AV)) (l : Str) (h : Hp) (hi : h i = some (.row T es)) (hk : k + l.length ≤ es.length) (hs : (es.drop k).take l.length = bt l) (hl : l.length ≤ 1000000000000) :
  CallL Tryz.prog F_slices_Clone [.slc i k l.length c] h fun r h' => ∃ v, r = .ret v ∧ NewX Tb h h' v (bt l) := by
 have htl := bt_len l
 refine K_slices_Clone (md := false) ?_
 refine .inr fun j hj => ?_
 have hne : i ≠ j := ne_of_u (Hp.used hi) hj.1
 refine ⟨bt l, ⟨T, es, (Hp.set_ne hne).trans hi, hk, hs.symm⟩, bt_one _, _, Hp.set_same _ _ _, Nat.le_refl _, bt_flat _, ?_⟩
 by_cases h0 : l = []
 ·subst h0
  refine .inl ⟨Nat.le_refl _, Nat.le_refl _, ?_⟩
  refine ⟨rfl, _, rfl, .inr ⟨j, _, _, rfl, Hp.set_same _ _ _, rfl, Nat.le_refl _, .inr rfl⟩, ((Gr.refl h).set hj.1 _).set hj.1 _, fun b hb => by cases hb; exact hj.1⟩
 ·have hpos := List.length_pos_iff.2 h0
  refine .inr ⟨by omega, by rw [htl]; unfold capMax; omega, by rw [htl]; unfold capMax; omega, fun q hq => ?_⟩
  refine ⟨rfl, .slc q 0 (0 + (bt l).length) none, rfl, .inr ⟨q, bt l, none, by rw [Nat.zero_add], Hp.set_same _ _ _, List.take_length, Nat.le_refl _, .inl rfl⟩, ((Gr.refl h).set hj.1 _).set (((Gr.refl h).set hj.1 _).new hq.1) _, fun b hb => by cases hb; exact ((Gr.refl h).set hj.1 _).new hq.1⟩
theorem Clone_own {T : Nat} {v : AV} {l : Str} {h : Hp} (o : OwnX T h v (bt l)) (hl : l.length ≤ 1000000000000) :
  CallL Tryz.prog F_slices_Clone [v] h fun r h' => ∃ v, r = .ret v ∧ NewX Tb h h' v (bt l) := by
 have htl := bt_len l
 rcases o with ⟨rfl, e⟩ | ⟨b, row, q, rfl, h1, h2, h3, _⟩
 ·refine K_slices_Clone (md := false) ?_
  exact ⟨rfl, .nils, rfl, .inl ⟨rfl, e⟩, Gr.refl h, fun b hb => by cases hb⟩
 ·rw [htl] at *
  exact Clone_slc b 0 T q row l h h1 (by omega) h2 hl
def lenTab : Str := [0, 1] ++ List.replicate 2 2 ++ List.replicate 4 3 ++ List.replicate 8 4 ++ List.replicate 16 5 ++ List.replicate 32 6 ++ List.replicate 64 7 ++ List.replicate 128 8
theorem shrN {v : Nat} {b : Int} {k : Nat} (hb : b.toNat = k) (hk : k ≤ 64) : Int.fdiv (v : Int) (2 ^ (min b.toNat IntKind.u64.bits)) = ((v / 2 ^ k : Nat) : Int) := by
 rw [hb, show min k IntKind.u64.bits = k from Nat.min_eq_left hk, Int.fdiv_eq_ediv_of_nonneg _ (Int.pow_nonneg (by decide))]
 simp
end Go.Proofs.YtghlipffncbagaaGreatDoor

namespace Go.Proofs.YtghlipffncbagaaGreatDoor
open Go.L
abbrev F_wire_Size : Nat := 7
def A_wire_Size_0 : LA := [mv 3 0, o_ 4 (.bini .or (.t 3) (.c (.int .u64 1))), o_ 5 (.call 17 [(.t 4)]), Wi 6 .add 5 6, Wi 7 .quo 6 7, mv 2 7]
def A_wire_Size : ACode := (.seq (.ops [Wm 2 0]) (.seq (.ops A_wire_Size_0) .ret))
def R_wire_Size : List ARes := [.tmp 2]
theorem C_wire_Size : compF Tryz.prog Tryz.f7 = some (A_wire_Size, R_wire_Size) := by kernel_rfl
theorem K_wire_Size {md : Bool} {args : List AV} {h : Hp} {Q : Res → Hp → Prop} (hl : LCode Tryz.prog md A_wire_Size (EndQ R_wire_Size Q) (env0 8 args) h) (hn : args.length ≤ 8 := by (simp; done)) : CallL Tryz.prog F_wire_Size args h Q :=
 CallL.of (md := md) Tryz.func7 C_wire_Size (by rw [Tryz.ntmps7]; exact hn) (by rw [Tryz.ntmps7]; exact hl)
abbrev F_wire_varint : Nat := 107
def A_wire_varint_0 : LA := [mv 5 1, o_ 6 (.bini .geq (.t 5) (.c (.int .u64 128)))]
def A_wire_varint_1 : LA := [mv 7 0, mv 8 1, o_ 9 (.conv .u8 (.t 8)), o_ 10 (.bini .or (.t 9) (.c (.int .u8 128))), o_ 11 (.bslice 5 1 1 [.int .u8 0] [(0, 1, (.t 10))]), o_ 12 (.app 5 1 1 (.t 7) (.t 11)), mv 0 12]
def A_wire_varint_2 : LA := [mv 13 1, o_ 14 (.bini .shr (.t 13) (.c (.int .u64 7))), mv 1 14]
def A_wire_varint_3 : ACode := (.seq (.seq (.ops A_wire_varint_0) (.cond (.t 6) .skip (.exit 0))) (.block 1 (.seq (.ops A_wire_varint_1) (.ops A_wire_varint_2))))
def A_wire_varint_4 : LA := [mv 15 0, mv 16 1, o_ 17 (.conv .u8 (.t 16)), o_ 18 (.bslice 5 1 1 [.int .u8 0] [(0, 1, (.t 17))]), o_ 19 (.app 5 1 1 (.t 15) (.t 18)), mv 4 19]
def A_wire_varint : ACode := (.seq (.ops [Wn 4]) (.seq (.block 0 (.loop A_wire_varint_3)) (.seq (.ops A_wire_varint_4) .ret)))
def R_wire_varint : List ARes := [.tmp 4]
theorem C_wire_varint : compF Tryz.prog Tryz.f107 = some (A_wire_varint, R_wire_varint) := by kernel_rfl
theorem K_wire_varint {md : Bool} {args : List AV} {h : Hp} {Q : Res → Hp → Prop} (hl : LCode Tryz.prog md A_wire_varint (EndQ R_wire_varint Q) (env0 20 args) h) (hn : args.length ≤ 20 := by (simp; done)) : CallL Tryz.prog F_wire_varint args h Q :=
 CallL.of (md := md) Tryz.func107 C_wire_varint (by rw [Tryz.ntmps107]; exact hn) (by rw [Tryz.ntmps107]; exact hl)
abbrev F_wire_NewWriter : Nat := 13
def A_wire_NewWriter_0 : LA := [o_ 2 (.mov (.c (.nilp))), Wm 3 0]
def A_wire_NewWriter_1 : LA := [mv 4 0, Wi 5 .lss 4 0, mv 6 5, Whm 7 0 6, Wh 8 (.bini .gtr (.t 7) (i_ 16777216)) 6, Wq 9 6 8]
def A_wire_NewWriter_2 : LA := [o_ 2 (.mov (.c (.nilp))), Wm 3 1]
def A_wire_NewWriter_3 : LA := [mv 10 0, o_ 11 (.build [.nils, .int .i64 (0), .nils, .int .i64 0] [(1, 1, (.t 10))]), o_ 12 (.box 108 4 (.t 11)), mv 2 12, Wm 3 0]
def A_wire_NewWriter : ACode := (.seq (.ops A_wire_NewWriter_0) (.seq (.seq (.ops A_wire_NewWriter_1) (.cond (.t 9) (.seq (.ops A_wire_NewWriter_2) .ret) .skip)) (.seq (.ops A_wire_NewWriter_3) .ret)))
def R_wire_NewWriter : List ARes := [.tmp 2, .tmp 3]
theorem C_wire_NewWriter : compF Tryz.prog Tryz.f13 = some (A_wire_NewWriter, R_wire_NewWriter) := by kernel_rfl
theorem K_wire_NewWriter {md : Bool} {args : List AV} {h : Hp} {Q : Res → Hp → Prop} (hl : LCode Tryz.prog md A_wire_NewWriter (EndQ R_wire_NewWriter Q) (env0 13 args) h) (hn : args.length ≤ 13 := by (simp; done)) : CallL Tryz.prog F_wire_NewWriter args h Q :=
 CallL.of (md := md) Tryz.func13 C_wire_NewWriter (by rw [Tryz.ntmps13]; exact hn) (by rw [Tryz.ntmps13]; exact hl)
abbrev F_wire_Writer_room : Nat := 71
def A_wire_Writer_room_0 : LA := [mv 5 0, Wc 6 5, Wf 7 3 6, Wl 8 7, Wi 9 .eql 8 0, mv 10 9, Wgm 11 1 10, Wgm 12 0 10, g_ 13 (.nilc (.t 12)) 10, Wgf 14 1 13 10, Wgl 15 14 10, Wgm 16 0 10, g_ 17 (.nilc (.t 16)) 10, Wgf 18 0 17 10, Wgl 19 18 10, g_ 20 (.lenl (.t 19)) 10, g_ 21 (.bini .sub (.t 15) (.t 20)) 10, g_ 22 (.bini .gtr (.t 11) (.t 21)) 10, Wp 23 10 22]
def A_wire_Writer_room_1 : LA := [mv 24 0, Wc 25 24, Wf 26 3 25, n_ (.st 1 (.t 26) (i_ 15))]
def A_wire_Writer_room_2 : LA := [mv 27 0, Wc 28 27, Wf 29 3 28, Wl 30 29, Wi 31 .eql 30 0, mv 4 31]
def A_wire_Writer_room : ACode := (.seq (.ops [Wo 4 false]) (.seq (.seq (.alts [5, 6, 7, 8, 9, 10, 11, 12, 13, 14, 15, 16, 17, 18, 19, 20, 21, 22, 23] [A_wire_Writer_room_0]) (.cond (.t 23) (.ops A_wire_Writer_room_1) .skip)) (.seq (.ops A_wire_Writer_room_2) .ret)))
def R_wire_Writer_room : List ARes := [.tmp 4]
theorem C_wire_Writer_room : compF Tryz.prog Tryz.f71 = some (A_wire_Writer_room, R_wire_Writer_room) := by kernel_rfl
theorem K_wire_Writer_room {md : Bool} {args : List AV} {h : Hp} {Q : Res → Hp → Prop} (hl : LCode Tryz.prog md A_wire_Writer_room (EndQ R_wire_Writer_room Q) (env0 32 args) h) (hn : args.length ≤ 32 := by (simp; done)) : CallL Tryz.prog F_wire_Writer_room args h Q :=
 CallL.of (md := md) Tryz.func71 C_wire_Writer_room (by rw [Tryz.ntmps71]; exact hn) (by rw [Tryz.ntmps71]; exact hl)
abbrev F_wire_Writer_Varint : Nat := 59
def A_wire_Writer_Varint_0 : LA := [mv 4 0, mv 5 1, o_ 6 (.call 7 [(.t 5)]), o_ 7 (.call 71 [(.t 4), (.t 6)])]
def A_wire_Writer_Varint_1 : LA := [mv 8 0, mv 9 0, Wc 10 9, Wf 11 0 10, Wl 12 11, mv 13 1, o_ 14 (.call 107 [(.t 12), (.t 13)]), Wc 15 8, Wf 16 0 15, Wt 1 16 14]
def A_wire_Writer_Varint : ACode := (.seq (.ops A_wire_Writer_Varint_0) (.cond (.t 7) (.ops A_wire_Writer_Varint_1) .skip))
def R_wire_Writer_Varint : List ARes := []
theorem C_wire_Writer_Varint : compF Tryz.prog Tryz.f59 = some (A_wire_Writer_Varint, R_wire_Writer_Varint) := by kernel_rfl
theorem K_wire_Writer_Varint {md : Bool} {args : List AV} {h : Hp} {Q : Res → Hp → Prop} (hl : LCode Tryz.prog md A_wire_Writer_Varint (EndQ R_wire_Writer_Varint Q) (env0 17 args) h) (hn : args.length ≤ 17 := by (simp; done)) : CallL Tryz.prog F_wire_Writer_Varint args h Q :=
 CallL.of (md := md) Tryz.func59 C_wire_Writer_Varint (by rw [Tryz.ntmps59]; exact hn) (by rw [Tryz.ntmps59]; exact hl)
abbrev F_wire_Writer_Done : Nat := 16
def A_wire_Writer_Done_0 : LA := [Wn 2, Wm 3 0]
def A_wire_Writer_Done_1 : LA := [mv 5 0, Wc 6 5, Wf 7 3 6, Wl 8 7, Wi 9 .neq 8 0, mv 4 9]
def A_wire_Writer_Done_2 : LA := [mv 10 0, Wc 11 10, Wf 12 3 11, Wl 13 12, Wn 2, mv 3 13]
def A_wire_Writer_Done_3 : LA := [mv 15 0, Wc 16 15, Wf 17 2 16, Wl 18 17, We 19 18, Wi 20 .gtr 19 0, mv 14 20]
def A_wire_Writer_Done_4 : LA := [Wn 2, Wm 3 1]
def A_wire_Writer_Done_5 : LA := [mv 21 0, Wc 22 21, Wf 23 0 22, Wl 24 23, o_ 25 (.call 38 [(.t 24)]), mv 2 25, Wm 3 0]
def A_wire_Writer_Done : ACode := (.seq (.ops A_wire_Writer_Done_0) (.seq (.block 0 (.seq (.ops A_wire_Writer_Done_1) (.cond (.t 4) (.seq (.alts [10, 11, 12, 13, 2, 3] [A_wire_Writer_Done_2]) .ret) (.seq (.ops A_wire_Writer_Done_3) (.cond (.t 14) (.seq (.ops A_wire_Writer_Done_4) .ret) .skip))))) (.seq (.ops A_wire_Writer_Done_5) .ret)))
def R_wire_Writer_Done : List ARes := [.tmp 2, .tmp 3]
theorem C_wire_Writer_Done : compF Tryz.prog Tryz.f16 = some (A_wire_Writer_Done, R_wire_Writer_Done) := by kernel_rfl
theorem K_wire_Writer_Done {md : Bool} {args : List AV} {h : Hp} {Q : Res → Hp → Prop} (hl : LCode Tryz.prog md A_wire_Writer_Done (EndQ R_wire_Writer_Done Q) (env0 26 args) h) (hn : args.length ≤ 26 := by (simp; done)) : CallL Tryz.prog F_wire_Writer_Done args h Q :=
 CallL.of (md := md) Tryz.func16 C_wire_Writer_Done (by rw [Tryz.ntmps16]; exact hn) (by rw [Tryz.ntmps16]; exact hl)
end Go.Proofs.YtghlipffncbagaaGreatDoor

namespace Go.Proofs.YtghlipffncbagaaGreatDoor
open Go.L
abbrev TW : TypeId := 108
theorem variN_size : ∀ (f v k : Nat), 1 ≤ f → v < 128 ^ f → 1 ≤ k → v < 128 ^ k → (k = 1 ∨ 128 ^ (k - 1) ≤ v) → (variN f v).length = k
 | f, v, k, hf, hv, hk, h1, h2 => by
  obtain ⟨f, rfl⟩ : ∃ g, f = g + 1 := ⟨f - 1, by omega⟩
  rw [variN]
  split
  ·rename_i h
   rcases h2 with rfl | h2
   ·rfl
   ·have hk1 : k = 1 := by
     rcases Nat.lt_or_ge 1 k with h3 | h3
     ·have : 128 ^ 1 ≤ 128 ^ (k - 1) := Nat.pow_le_pow_right (by decide) (by omega)
      omega
     ·omega
    subst hk1; rfl
  ·rename_i h
   have hk2 : 2 ≤ k := by
    rcases Nat.lt_or_ge 1 k with h3 | h3
    ·exact h3
    ·have : k = 1 := by omega
     subst this; omega
   have e1 : 128 ^ (f + 1) = 128 * 128 ^ f := by rw [Nat.pow_succ, Nat.mul_comm]
   have e2 : 128 ^ k = 128 * 128 ^ (k - 1) := by rw [← Nat.pow_succ']; congr 1; omega
   have ih := variN_size f (v / 128) (k - 1) (by
    rcases Nat.eq_zero_or_pos f with h0 | h0
    ·subst h0; simp at hv; omega
    ·exact h0) (by omega) (by omega) (by omega) (by
    rcases Nat.lt_or_ge 2 k with h3 | h3
    ·right
     have e3 : 128 ^ (k - 1) = 128 * 128 ^ (k - 1 - 1) := by rw [← Nat.pow_succ']; congr 1; omega
     rcases h2 with h2 | h2
     ·omega
     ·omega
    ·left; omega)
   rw [List.length_cons, ih]; omega
 termination_by f => f
structure Bits (v n : Nat) : Prop where
 lt : v < 2 ^ n
 le : 0 < v → 0 < n ∧ 2 ^ (n - 1) ≤ v
theorem size_of {v n : Nat} (hv : v < 18446744073709551616) (hn : n ≤ 64) (b : Bits (2 * (v / 2) + 1) n) : (vari v).length = (n + 6) / 7 := by
 obtain ⟨h1, h2⟩ := b.le (by omega)
 have hlt := b.lt
 have p7 : ∀ q, 128 ^ q = 2 ^ (7 * q) := fun q => by rw [Nat.pow_mul]
 refine variN_size 10 v ((n + 6) / 7) (by decide) (Nat.lt_of_lt_of_le hv (by decide)) (by omega) ?_ ?_
 ·have : 2 ^ n ≤ 128 ^ ((n + 6) / 7) := by rw [p7]; exact Nat.pow_le_pow_right (by decide) (by omega)
  omega
 ·rcases Nat.lt_or_ge 1 ((n + 6) / 7) with h3 | h3
  ·right
   have e1 : 128 ^ ((n + 6) / 7 - 1) ≤ 2 ^ (n - 1) := by rw [p7]; exact Nat.pow_le_pow_right (by decide) (by omega)
   have e2 : 128 ^ ((n + 6) / 7 - 1) = 128 * 128 ^ ((n + 6) / 7 - 1 - 1) := by rw [← Nat.pow_succ']; congr 1; omega
   omega
  ·left; omega
theorem lenTab_bits {n : Nat} (h : n < 256) : ∃ c, lenTab[n]? = some c ∧ c.toNat ≤ 8 ∧ Bits n c.toNat := by
 have hl : lenTab.length = 256 := by kernel_rfl
 obtain ⟨c, hc⟩ := get_lt (l := lenTab) (k := n) (by omega)
 have ha : (List.range 256).all (fun n => match lenTab[n]? with | some c => decide (c.toNat ≤ 8) && decide (n < 2 ^ c.toNat) && (decide (n = 0) || (decide (0 < c.toNat) && decide (2 ^ (c.toNat - 1) ≤ n))) | none => false) = true := by kernel_rfl
 have hb := List.all_eq_true.1 ha n (List.mem_range.2 h)
 simp only [hc, Bool.and_eq_true, Bool.or_eq_true, decide_eq_true_eq] at hb
 exact ⟨c, hc, hb.1.1, hb.1.2, fun h0 => hb.2.resolve_left (by omega)⟩
theorem bits_up {v x n t : Nat} (hx : x = v / 2 ^ n) (h0 : n = 0 ∨ 0 < x) (b : Bits x t) : Bits v (n + t) := by
 have hp : 0 < 2 ^ n := Nat.pow_pos (by decide)
 have hv : v < 2 ^ n * (x + 1) := by rw [hx]; exact Nat.lt_mul_div_succ v hp
 refine ⟨Nat.lt_of_lt_of_le hv (by rw [Nat.pow_add]; exact Nat.mul_le_mul_left _ b.lt), fun hv0 => ?_⟩
 have hx0 : 0 < x := by
  rcases h0 with rfl | h0
  ·rw [hx, Nat.pow_zero, Nat.div_one]; exact hv0
  ·exact h0
 obtain ⟨h1, h2⟩ := b.le hx0
 refine ⟨by omega, ?_⟩
 rw [show n + t - 1 = n + (t - 1) by omega, Nat.pow_add]
 refine Nat.le_trans (Nat.mul_le_mul_left _ h2) ?_
 rw [hx]; exact Nat.mul_div_le v _
theorem shr_more {v n m : Nat} : v / 2 ^ n / 2 ^ m = v / 2 ^ (n + m) := by rw [Nat.div_div_eq_div_mul, ← Nat.pow_add]
set_option maxRecDepth 20000 in
theorem Len64x_L (v : Nat) (hv : v < 18446744073709551616) (h : Hp) : CallL Tryz.prog F_math_bits_Len64 [.int .u64 v] h fun r h' => (∃ n : Nat, n ≤ 64 ∧ Bits v n ∧ r = .ret (.int .i64 n)) ∧ h' = h := by
 refine K_math_bits_Len64 (md := false) ?_
 refine s_then2 (fun e' h' => h' = h ∧ e'.ds = [] ∧ ∃ x n : Nat, x < 4294967296 ∧ n ≤ 32 ∧ x = v / 2 ^ n ∧ (n = 0 ∨ 0 < x) ∧ Has e' [(0, .int .u64 x), (2, .int .i64 n)]) ?_ ?_
 ·refine s_le (fun (h1 : (4294967296 : Int) ≤ (v : Nat)) => ?_) (fun (h1 : ((v : Nat) : Int) < 4294967296) => ?_)
  ·refine ⟨by decide, s_ie (shrN (k := 32) rfl (by decide)) ?_⟩
   exact ⟨rfl, rfl, v / 2 ^ 32, 32, by omega, by omega, rfl, .inr (by omega), rfl, rfl, trivial⟩
  ·exact ⟨rfl, rfl, v, 0, by omega, by omega, by simp, .inl rfl, rfl, rfl, trivial⟩
 rintro e' h' ⟨rfl, hd, x, n, hx, hn, hxn, h0, hs⟩
 obtain ⟨n0, g0, rfl⟩ := hs.out hd
 clear hd hs
 refine s_then (fun e' h'' => h'' = h' ∧ e'.ds = [] ∧ ∃ x n : Nat, x < 65536 ∧ n ≤ 48 ∧ x = v / 2 ^ n ∧ (n = 0 ∨ 0 < x) ∧ Has e' [(0, .int .u64 x), (2, .int .i64 n)]) ?_ ?_
 ·refine s_le (fun (h1 : (65536 : Int) ≤ (x : Nat)) => ?_) (fun (h1 : ((x : Nat) : Int) < 65536) => ?_)
  ·refine ⟨by decide, s_ie (shrN (k := 16) rfl (by decide)) ?_⟩
   refine s_nat (n + 16) (by omega) (by omega) ?_
   exact ⟨rfl, rfl, x / 2 ^ 16, n + 16, by omega, by omega, by rw [hxn, shr_more], .inr (by omega), rfl, rfl, trivial⟩
  ·exact ⟨rfl, rfl, x, n, by omega, by omega, hxn, h0, rfl, rfl, trivial⟩
 rintro e' h'' ⟨rfl, hd, x, n, hx, hn, hxn, h0, hs⟩
 obtain ⟨n0, g0, rfl⟩ := hs.out hd
 clear hd hs
 refine s_then (fun e' h' => h' = h'' ∧ e'.ds = [] ∧ ∃ x n : Nat, x < 256 ∧ n ≤ 56 ∧ x = v / 2 ^ n ∧ (n = 0 ∨ 0 < x) ∧ Has e' [(0, .int .u64 x), (2, .int .i64 n)]) ?_ ?_
 ·refine s_le (fun (h1 : (256 : Int) ≤ (x : Nat)) => ?_) (fun (h1 : ((x : Nat) : Int) < 256) => ?_)
  ·refine ⟨by decide, s_ie (shrN (k := 8) rfl (by decide)) ?_⟩
   refine s_nat (n + 8) (by omega) (by omega) ?_
   exact ⟨rfl, rfl, x / 2 ^ 8, n + 8, by omega, by omega, by rw [hxn, shr_more], .inr (by omega), rfl, rfl, trivial⟩
  ·exact ⟨rfl, rfl, x, n, by omega, by omega, hxn, h0, rfl, rfl, trivial⟩
 rintro e' h' ⟨rfl, hd, x, n, hx, hn, hxn, h0, hs⟩
 obtain ⟨n0, g0, rfl⟩ := hs.out hd
 clear hd hs
 obtain ⟨c, hc, hc8, hcb⟩ := lenTab_bits hx
 refine s_ie ((u8_nat x).trans (by rw [Nat.mod_eq_of_lt hx])) ?_
 refine ⟨x, c, rfl, hc, ?_⟩
 refine s_nat c.toNat rfl (by omega) ?_
 refine s_nat (n + c.toNat) (by omega) (by omega) ?_
 exact ⟨rfl, ⟨_, by omega, bits_up hxn h0 hcb, rfl⟩, rfl⟩
theorem or1 {v : Nat} (h : v < 18446744073709551616) : ibits .or .u64 (v : Int) 1 = ((2 * (v / 2) + 1 : Nat) : Int) := by
 have e : BitVec.ofInt IntKind.u64.bits (v : Int) = BitVec.ofNat 64 v := BitVec.ofInt_natCast 64 _
 have e2 : BitVec.ofInt IntKind.u64.bits 1 = 1#64 := rfl
 have hor : (BitVec.ofNat 64 v ||| 1#64).toNat = 2 * (v / 2) + 1 := by
  rw [BitVec.toNat_or, BitVec.toNat_ofNat, Nat.mod_eq_of_lt (show v < 2 ^ 64 from h)]
  show v ||| 1 = _
  have h1 := Nat.or_div_two (a := v) (b := 1)
  have h2 := (Nat.or_mod_two_eq_one (a := v) (b := 1)).2 (.inr rfl)
  rw [show v / 2 ||| 1 / 2 = v / 2 from Nat.or_zero _] at h1
  omega
 show IntKind.u64.wrap ((BitVec.ofInt IntKind.u64.bits (v : Int) ||| BitVec.ofInt IntKind.u64.bits 1).toNat : Int) = _
 rw [e, e2]
 exact (congrArg (fun n : Nat => IntKind.u64.wrap (n : Int)) hor).trans (u64_nat (by omega))
theorem Size_L (v : Nat) (hv : v < 18446744073709551616) (h : Hp) : CallL Tryz.prog F_wire_Size [.int .u64 v] h fun r h' => r = .ret (.int .i64 (vari v).length) ∧ h' = h := by
 refine K_wire_Size (md := false) ?_
 refine s_ie (or1 hv) ?_
 refine (Len64x_L _ (by omega) h).mono ?_
 rintro r h' ⟨⟨n, hn, hb, rfl⟩, rfl⟩
 refine s_nat (n + 6) (by omega) (by omega) ?_
 refine ⟨by decide, s_nat ((n + 6) / 7) (by rw [Int.tdiv_eq_ediv_of_nonneg (by omega)]; omega) (by omega) ?_⟩
 exact ⟨rfl, congrArg (fun n : Nat => Res.ret (AV.int .i64 (n : Int))) (size_of hv hn hb).symm, rfl⟩
theorem bt_hi (w : Nat) : bt [(w % 128 + 128).toUInt8] = [[.int .u8 ((w % 128 + 128 : Nat) : Int)]] := by
 show [[AV.int .u8 _]] = _
 rw [byte_hi]
theorem bt_lo (w : Nat) : bt [w.toUInt8] = [[.int .u8 ((w % 256 : Nat) : Int)]] := by
 show [[AV.int .u8 _]] = _
 rw [byte_lo]
theorem varint_L (h0 H : Hp) (u : AV) (es : List (List AV)) (v : Nat) (hv : v < 18446744073709551616) (a : AccE Tb h0 H u es) (hl : es.length ≤ 1000000000000) :
  CallL Tryz.prog F_wire_varint [u, .int .u64 v] H fun r H' => ∃ u', r = .ret u' ∧ AccE Tb h0 H' u' (es ++ bt (vari v)) ∧ (∀ x, H.u x = true → blkOf u ≠ some x → H' x = H x) ∧ (∀ x, H.u x = true → H'.u x = true) ∧ ∀ x, blkOf u' = some x → blkOf u = some x ∨ H.u x = false := by
 refine K_wire_varint (md := false) ?_
 refine s_blk (id := 0) (fun e' H' => e'.ds = [] ∧ ∃ u' acc w, w < 128 ∧ acc ++ [w.toUInt8] = vari v ∧ AccE Tb h0 H' u' (es ++ bt acc) ∧ (∀ x, H.u x = true → blkOf u ≠ some x → H' x = H x) ∧ (∀ x, H.u x = true → H'.u x = true) ∧ (∀ x, blkOf u' = some x → blkOf u = some x ∨ H.u x = false) ∧ Has e' [(0, u'), (1, .int .u64 (w : Nat))]) ?_ ?_
 ·refine s_loop 9 (fun k (s : Hp × AV × Str × Nat) => k ≤ 9 ∧ s.2.2.2 * 128 ^ k ≤ v ∧ s.2.2.1.length = k ∧ s.2.2.1 ++ variN (10 - k) s.2.2.2 = vari v ∧ AccE Tb h0 s.1 s.2.1 (es ++ bt s.2.2.1) ∧ (∀ x, H.u x = true → blkOf u ≠ some x → s.1 x = H x) ∧ (∀ x, H.u x = true → s.1.u x = true) ∧ (∀ x, blkOf s.2.1 = some x → blkOf u = some x ∨ H.u x = false))
   (fun k s => [(0, s.2.1), (1, .int .u64 (s.2.2.2 : Nat))]) (fun _ s => s.1) (H, u, [], v) ⟨Nat.zero_le _, by simp, rfl, rfl, by simpa [bt] using a, fun _ _ _ => rfl, fun _ h => h, fun _ h => .inl h⟩ rfl rfl ⟨rfl, rfl, trivial⟩ (fun k s hI => hI.1) ?_
  rintro k ⟨H1, u1, acc, w⟩ n0 g0 hk ⟨_, hw, hal, hacc, ha, hf, hu, hb⟩
  simp only at hw hal hacc ha hf hu hb
  have hw2 : k = 9 → w < 128 := fun e => by subst e; omega
  have hw3 : w ≤ v := Nat.le_trans (Nat.le_mul_of_pos_right _ (Nat.pow_pos (by decide))) hw
  have hbl := bt_len acc
  refine s_le (fun (h1 : (128 : Int) ≤ (w : Nat)) => ?_) (fun (h1 : ((w : Nat) : Int) < 128) => ?_)
  ·have hk9 : k < 9 := by
    rcases Nat.lt_or_ge k 9 with h | h
    ·exact h
    ·have := hw2 (by omega); omega
   refine s_i (s_ie (or128 w) ?_)
   refine ⟨_, rfl, fun tb htb => ?_⟩
   refine ⟨bt [(w % 128 + 128).toUInt8], ⟨_, _, Hp.set_same _ _ _, Nat.le_refl _, bt_hi w⟩, ?_⟩
   refine AccE.app (ha.set htb.1 _) (bt_one _) (bt_flat _) (by rw [bt_len, List.length_append]; unfold capMax; simp; omega) (by rw [bt_len, List.length_append]; unfold capMax; simp; omega) fun v' H3 ha3 hf3 hu3 hb3 => ?_
   refine ⟨by decide, s_ie (shr7 w) ?_⟩
   have hvn : variN (10 - k) w = (w % 128 + 128).toUInt8 :: variN (10 - (k + 1)) (w / 128) := by
    rw [show 10 - k = (10 - (k + 1)) + 1 by omega, variN, if_neg (by omega)]
   refine ⟨(H3, v', acc ++ [(w % 128 + 128).toUInt8], w / 128), by omega, ⟨by omega, ?_, by simp [hal], ?_, ?_, fun x hx hx2 => ?_, fun x hx => hu3 x (by rw [Hp.set_u, hu x hx]; simp), fun x hx => ?_⟩, rfl, rfl, rfl, rfl, trivial⟩
   ·show w / 128 * 128 ^ (k + 1) ≤ v
    refine Nat.le_trans ?_ hw
    rw [Nat.pow_succ', ← Nat.mul_assoc]
    exact Nat.mul_le_mul_right _ (by omega)
   ·show (acc ++ [_]) ++ variN (10 - (k + 1)) (w / 128) = _
    rw [List.append_assoc, List.singleton_append, ← hvn]; exact hacc
   ·show AccE Tb h0 H3 v' (es ++ bt (acc ++ [_]))
    rw [bt_app, ← List.append_assoc]; exact ha3
   ·have hne : x ≠ tb := ne_of_u (hu x hx) htb.1
    refine (hf3 x (by rw [Hp.set_u, hu x hx]; simp) fun e => ?_).trans ((Hp.set_ne hne).trans (hf x hx hx2))
    rcases hb x e with h5 | h5
    ·exact hx2 h5
    ·rw [hx] at h5; cases h5
   ·rcases hb3 x hx with h5 | h5
    ·exact hb x h5
    ·refine .inr ?_
     cases hc : H.u x with
     | false => rfl
     | true => rw [Hp.set_u, hu x hc] at h5; simp at h5
  ·have hvn : variN (10 - k) w = [w.toUInt8] := by
    rw [show 10 - k = (9 - k) + 1 by omega, variN, if_pos (by omega)]
   rw [hvn] at hacc
   exact ⟨rfl, u1, acc, w, by omega, hacc, ha, hf, hu, hb, rfl, rfl, trivial⟩
 ·rintro e' H1 ⟨hd, u1, acc, w, hw, hacc, ha, hf, hu, hb, hs⟩
  obtain ⟨n0, g0, rfl⟩ := hs.out hd
  have hbl := bt_len acc
  have hal : acc.length ≤ 10 := by
   have := congrArg List.length hacc
   have h10 := vari_len v
   rw [List.length_append] at this; omega
  refine s_ie (u8_nat w) ?_
  refine ⟨_, rfl, fun tb htb => ?_⟩
  refine ⟨bt [w.toUInt8], ⟨_, _, Hp.set_same _ _ _, Nat.le_refl _, bt_lo w⟩, ?_⟩
  refine AccE.app (ha.set htb.1 _) (bt_one _) (bt_flat _) (by rw [bt_len, List.length_append]; unfold capMax; simp; omega) (by rw [bt_len, List.length_append]; unfold capMax; simp; omega) fun v' H3 ha3 hf3 hu3 hb3 => ?_
  refine ⟨rfl, v', rfl, ?_, fun x hx hx2 => ?_, fun x hx => hu3 x (by rw [Hp.set_u, hu x hx]; simp), fun x hx => ?_⟩
  ·rw [← hacc, bt_app, ← List.append_assoc]; exact ha3
  ·have hne : x ≠ tb := ne_of_u (hu x hx) htb.1
   refine (hf3 x (by rw [Hp.set_u, hu x hx]; simp) fun e => ?_).trans ((Hp.set_ne hne).trans (hf x hx hx2))
   rcases hb x e with h5 | h5
   ·exact hx2 h5
   ·rw [hx] at h5; cases h5
  ·rcases hb3 x hx with h5 | h5
   ·exact hb x h5
   ·refine .inr ?_
    cases hc : H.u x with
    | false => rfl
    | true => rw [Hp.set_u, hu x hc] at h5; simp at h5
def WrC (u : AV) (lim : Nat) (op : AV := .nils) : List AV := [u, .int .i64 lim, op, .int .i64 0]
theorem NewWriter_L (lim : Nat) (hl : lim ≤ 16777216) (h : Hp) : CallL Tryz.prog F_wire_NewWriter [.int .i64 lim] h fun r h' => ∃ W, r = .ret (.tup [.ptr W 0 0, .int .i64 0]) ∧ h.u W = false ∧ h' = h.set W (.row TW [WrC .nils lim]) := by
 refine K_wire_NewWriter (md := false) ?_
 refine s_lt (fun h1 => by omega) (fun _ => ?_)
 refine s_lt (fun h1 => by omega) (fun _ => ?_)
 refine ⟨_, rfl, rfl, rfl, fun W hW => ?_⟩
 exact ⟨rfl, W, rfl, hW.1, rfl⟩
theorem room_L (W : Nat) (u op : AV) (es : List (List AV)) (lim n : Nat) (h0 h : Hp) (hW : h W = some (.row TW [WrC u lim op])) (a : AccE Tb h0 h u es) (hn : es.length + n ≤ lim) (hl : lim ≤ 16777216) :
  CallL Tryz.prog F_wire_Writer_room [.ptr W 0 0, .int .i64 n] h fun r h' => r = .ret (.bool true) ∧ h' = h := by
 refine K_wire_Writer_room (md := false) ?_
 refine ⟨_, _, _, _, hW, rfl, rfl, ?_⟩
 refine s_eq (fun _ => ?_) (fun h1 => absurd rfl h1)
 refine ⟨_, _, _, _, hW, rfl, rfl, ?_⟩
 refine ⟨_, _, _, _, hW, rfl, rfl, ?_⟩
 obtain ⟨_, ⟨rfl, rfl⟩ | ⟨j, rfl, _, hr⟩⟩ := a
 ·refine s_nat lim (by omega) (by omega) ?_
  refine s_lt (fun h1 => by simp at hn; omega) (fun _ => ?_)
  refine ⟨_, _, _, _, hW, rfl, rfl, ?_⟩
  refine s_eq (fun _ => ?_) (fun h1 => absurd rfl h1)
  exact ⟨rfl, rfl, rfl⟩
 ·refine s_nat (lim - es.length) (by omega) (by omega) ?_
  refine s_lt (fun h1 => by omega) (fun _ => ?_)
  refine ⟨_, _, _, _, hW, rfl, rfl, ?_⟩
  refine s_eq (fun _ => ?_) (fun h1 => absurd rfl h1)
  exact ⟨rfl, rfl, rfl⟩
theorem Varint_L (W : Nat) (u op : AV) (es : List (List AV)) (lim v : Nat) (h0 h : Hp) (hW : h W = some (.row TW [WrC u lim op])) (hWu : blkOf u ≠ some W) (h0W : h0.u W = false) (a : AccE Tb h0 h u es) (hv : v < 18446744073709551616) (hop : notTup op = true) (hof : flat [op] = true) (hn : es.length + (vari v).length ≤ lim) (hl : lim ≤ 16777216) :
  CallL Tryz.prog F_wire_Writer_Varint [.ptr W 0 0, .int .u64 v] h fun r h' => r = .ret (.tup []) ∧ ∃ u', h' W = some (.row TW [WrC u' lim op]) ∧ blkOf u' ≠ some W ∧ AccE Tb h0 h' u' (es ++ bt (vari v)) ∧ (∀ x, h.u x = true → blkOf u ≠ some x → x ≠ W → h' x = h x) ∧ (∀ x, h.u x = true → h'.u x = true) := by
 refine K_wire_Writer_Varint (md := false) ?_
 refine (Size_L v hv h).mono ?_
 rintro r h' ⟨rfl, rfl⟩
 refine (room_L W u op es lim (vari v).length h0 h' hW a (by omega) hl).mono ?_
 rintro r h'' ⟨rfl, rfl⟩
 refine ⟨_, _, _, _, hW, rfl, rfl, ?_⟩
 refine (varint_L h0 h'' u es v hv a (by omega)).mono ?_
 rintro r H' ⟨u', rfl, ha, hf, hu, hb⟩
 have hWH : H' W = some (.row TW [WrC u lim op]) := (hf W (Hp.used hW) hWu).trans hW
 have hWu' : blkOf u' ≠ some W := fun e => by
  rcases hb W e with h1 | h1
  ·exact hWu h1
  ·rw [Hp.used hW] at h1; cases h1
 have ho := ha.one
 refine ⟨_, _, _, hWH, rfl, ho.1, by show u'.cells.length = 1; rw [ho.2.1]; rfl, by show flat u'.cells = true; rw [ho.2.1]; exact ho.2.2, by show 1 ≤ 4; decide, ?_⟩
 refine ⟨rfl, rfl, u', ?_, hWu', ?_, fun x h1 h2 h3 => (Hp.set_ne h3).trans (hf x h1 h2), fun x h1 => by rw [Hp.set_u, hu x h1]; simp⟩
 ·rw [Hp.set_same]
  show some (Blk.row TW [(WrC u lim op).take 0 ++ u'.cells ++ (WrC u lim op).drop 1]) = _
  rw [ho.2.1]; rfl
 ·obtain ⟨g, k⟩ := ha
  refine ⟨g.set h0W _, k.imp (fun h => h) ?_⟩
  rintro ⟨j, rfl, h1, h2⟩
  exact ⟨j, rfl, h1, (Hp.set_ne fun e => hWu' (by rw [e]; rfl)).trans h2⟩
theorem Done_L (W : Nat) (u op : AV) (l : Str) (lim : Nat) (h0 h : Hp) (hW : h W = some (.row TW [WrC u lim op])) (a : AccE Tb h0 h u (bt l)) (hop : op = .nils ∨ ∃ j c, op = .slc j 0 0 c) (hl : l.length ≤ 16777216) :
  CallL Tryz.prog F_wire_Writer_Done [.ptr W 0 0] h fun r h' => ∃ v, r = .ret (.tup [v, .int .i64 0]) ∧ NewX Tb h h' v (bt l) := by
 refine K_wire_Writer_Done (md := false) ?_
 refine ⟨_, _, _, _, hW, rfl, rfl, ?_⟩
 refine s_ne (fun h1 => absurd rfl h1) (fun _ => ?_)
 refine ⟨_, _, _, _, hW, rfl, rfl, ?_⟩
 rcases hop with rfl | ⟨jo, co, rfl⟩
 ·refine s_lt (fun (h1 : (0 : Int) < 0) => absurd h1 (by decide)) (fun _ => ?_)
  refine ⟨_, _, _, _, hW, rfl, rfl, ?_⟩
  refine (Clone_own a.acc.ownX.1 (by omega)).mono ?_
  rintro r h' ⟨v, rfl, hv⟩
  exact ⟨rfl, v, rfl, hv⟩
 ·refine s_lt (fun (h1 : (0 : Int) < 0) => absurd h1 (by decide)) (fun _ => ?_)
  refine ⟨_, _, _, _, hW, rfl, rfl, ?_⟩
  refine (Clone_own a.acc.ownX.1 (by omega)).mono ?_
  rintro r h' ⟨v, rfl, hv⟩
  exact ⟨rfl, v, rfl, hv⟩
end Go.Proofs.YtghlipffncbagaaGreatDoor

namespace Go.Proofs.YtghlipffncbagaaGreatDoor
open Go.L
abbrev F_table_Table_Find : Nat := 35
def A_table_Table_Find_0 : LA := [o_ 4 (.box 120 9 (.c (.agg [.int .i32 (0), .str [], .str [], .int .u8 (0), .int .u8 (0), .int .u8 (0), .bool false, .int .i64 (0), .str []]))), Wo 5 false]
def A_table_Table_Find_1 : LA := [mv 9 0, Wc 10 9, Wf 11 3 10, Wl 12 11, mv 13 1, o_ 14 (.mlook .i (.int .i64 0) true (.t 12) (.t 13)), mv 8 14, Wx 15 0 8, Wx 16 1 8, mv 6 15, mv 7 16]
def A_table_Table_Find_2 : LA := [mv 17 0, mv 18 6, mv 19 7, o_ 20 (.call 66 [(.t 17), (.t 18), (.t 19)]), Wx 21 0 20, Wx 22 1 20, Wt 9 4 21, mv 5 22]
def A_table_Table_Find : ACode := (.seq (.ops A_table_Table_Find_0) (.seq (.ops A_table_Table_Find_1) (.seq (.ops A_table_Table_Find_2) .ret)))
def R_table_Table_Find : List ARes := [.cella 4 9, .tmp 5]
theorem C_table_Table_Find : compF Tryz.prog Tryz.f35 = some (A_table_Table_Find, R_table_Table_Find) := by kernel_rfl
theorem K_table_Table_Find {md : Bool} {args : List AV} {h : Hp} {Q : Res → Hp → Prop} (hl : LCode Tryz.prog md A_table_Table_Find (EndQ R_table_Table_Find Q) (env0 23 args) h) (hn : args.length ≤ 23 := by (simp; done)) : CallL Tryz.prog F_table_Table_Find args h Q :=
 CallL.of (md := md) Tryz.func35 C_table_Table_Find (by rw [Tryz.ntmps35]; exact hn) (by rw [Tryz.ntmps35]; exact hl)
abbrev F_table_Table_at : Nat := 66
def A_table_Table_at_0 : LA := [o_ 6 (.box 120 9 (.c (.agg [.int .i32 (0), .str [], .str [], .int .u8 (0), .int .u8 (0), .int .u8 (0), .bool false, .int .i64 (0), .str []]))), Wo 7 false]
def A_table_Table_at_1 : LA := [mv 8 2, o_ 9 (.not (.t 8))]
def A_table_Table_at_2 : LA := [o_ 10 (.build [.int .i32 (0), .str [], .str [], .int .u8 (0), .int .u8 (0), .int .u8 (0), .bool false, .int .i64 (0), .str []] []), Wt 9 6 10, Wo 7 false]
def A_table_Table_at_3 : LA := [mv 11 0, Wc 12 11, Wf 13 2 12, Wl 14 13, mv 15 1, Wa 16 120 9 14 15, Wd 17 9 16, Wt 9 6 17, Wo 7 true]
def A_table_Table_at : ACode := (.seq (.ops A_table_Table_at_0) (.seq (.seq (.ops A_table_Table_at_1) (.cond (.t 9) (.seq (.ops A_table_Table_at_2) .ret) .skip)) (.seq (.ops A_table_Table_at_3) .ret)))
def R_table_Table_at : List ARes := [.cella 6 9, .tmp 7]
theorem C_table_Table_at : compF Tryz.prog Tryz.f66 = some (A_table_Table_at, R_table_Table_at) := by kernel_rfl
theorem K_table_Table_at {md : Bool} {args : List AV} {h : Hp} {Q : Res → Hp → Prop} (hl : LCode Tryz.prog md A_table_Table_at (EndQ R_table_Table_at Q) (env0 18 args) h) (hn : args.length ≤ 18 := by (simp; done)) : CallL Tryz.prog F_table_Table_at args h Q :=
 CallL.of (md := md) Tryz.func66 C_table_Table_at (by rw [Tryz.ntmps66]; exact hn) (by rw [Tryz.ntmps66]; exact hl)
abbrev F_nums_sortOf : Nat := 139
def A_nums_sortOf_0 : LA := [o_ 5 (.bini .eql (.t 3) (.c (.int .u8 8))), mv 4 5]
def A_nums_sortOf_1 : LA := [o_ 7 (.bini .eql (.t 3) (.c (.int .u8 5))), mv 6 7]
def A_nums_sortOf_2 : LA := [o_ 9 (.bini .eql (.t 3) (.c (.int .u8 17))), mv 8 9]
def A_nums_sortOf_3 : LA := [o_ 11 (.bini .eql (.t 3) (.c (.int .u8 15))), mv 10 11]
def A_nums_sortOf_4 : LA := [o_ 13 (.bini .eql (.t 3) (.c (.int .u8 14))), mv 12 13]
def A_nums_sortOf_5 : LA := [o_ 15 (.bini .eql (.t 3) (.c (.int .u8 3))), mv 14 15]
def A_nums_sortOf_6 : LA := [o_ 16 (.bini .eql (.t 3) (.c (.int .u8 18))), mv 14 16]
def A_nums_sortOf_7 : LA := [o_ 17 (.bini .eql (.t 3) (.c (.int .u8 16))), mv 14 17]
def A_nums_sortOf_8 : LA := [o_ 19 (.bini .eql (.t 3) (.c (.int .u8 13))), mv 18 19]
def A_nums_sortOf_9 : LA := [o_ 20 (.bini .eql (.t 3) (.c (.int .u8 7))), mv 18 20]
def A_nums_sortOf_10 : LA := [o_ 22 (.bini .eql (.t 3) (.c (.int .u8 4))), mv 21 22]
def A_nums_sortOf_11 : LA := [o_ 23 (.bini .eql (.t 3) (.c (.int .u8 6))), mv 21 23]
def A_nums_sortOf_12 : LA := [o_ 25 (.bini .eql (.t 3) (.c (.int .u8 2))), mv 24 25]
def A_nums_sortOf_13 : LA := [o_ 27 (.bini .eql (.t 3) (.c (.int .u8 1))), mv 26 27]
def A_nums_sortOf : ACode := (.seq (.ops [Wm 2 0]) (.seq (.seq (.ops [mv 3 0]) (.block 0 (.seq (.block 10 (.seq (.block 9 (.seq (.block 8 (.seq (.block 7 (.seq (.block 6 (.seq (.block 5 (.block 4 (.block 3 (.block 2 (.seq (.block 1 (.seq (.seq (.seq (.ops A_nums_sortOf_0) (.cond (.t 4) (.exit 1) .skip)) (.seq (.seq (.ops A_nums_sortOf_1) (.cond (.t 6) (.exit 2) .skip)) (.seq (.seq (.ops A_nums_sortOf_2) (.cond (.t 8) (.exit 3) .skip)) (.seq (.seq (.ops A_nums_sortOf_3) (.cond (.t 10) (.exit 4) .skip)) (.seq (.seq (.ops A_nums_sortOf_4) (.cond (.t 12) (.exit 5) .skip)) (.seq (.seq (.seq (.ops A_nums_sortOf_5) (.cond (.t 14) .skip (.seq (.ops A_nums_sortOf_6) (.cond (.t 14) .skip (.ops A_nums_sortOf_7))))) (.cond (.t 14) (.exit 6) .skip)) (.seq (.seq (.seq (.ops A_nums_sortOf_8) (.cond (.t 18) .skip (.ops A_nums_sortOf_9))) (.cond (.t 18) (.exit 7) .skip)) (.seq (.seq (.seq (.ops A_nums_sortOf_10) (.cond (.t 21) .skip (.ops A_nums_sortOf_11))) (.cond (.t 21) (.exit 8) .skip)) (.seq (.seq (.ops A_nums_sortOf_12) (.cond (.t 24) (.exit 9) .skip)) (.seq (.ops A_nums_sortOf_13) (.cond (.t 26) (.exit 10) .skip))))))))))) (.exit 0))) (.seq (.seq (.ops [Wm 2 1]) .ret) (.exit 0))))))) (.seq (.seq (.ops [Wm 2 2]) .ret) (.exit 0)))) (.seq (.seq (.ops [Wm 2 3]) .ret) (.exit 0)))) (.seq (.seq (.ops [Wm 2 4]) .ret) (.exit 0)))) (.seq (.seq (.ops [Wm 2 5]) .ret) (.exit 0)))) (.seq (.seq (.ops [Wm 2 6]) .ret) (.exit 0)))) (.seq (.seq (.ops [Wm 2 7]) .ret) (.exit 0))))) (.seq (.ops [Wm 2 0]) .ret)))
def R_nums_sortOf : List ARes := [.tmp 2]
theorem C_nums_sortOf : compF Tryz.prog Tryz.f139 = some (A_nums_sortOf, R_nums_sortOf) := by kernel_rfl
theorem K_nums_sortOf {md : Bool} {args : List AV} {h : Hp} {Q : Res → Hp → Prop} (hl : LCode Tryz.prog md A_nums_sortOf (EndQ R_nums_sortOf Q) (env0 28 args) h) (hn : args.length ≤ 28 := by (simp; done)) : CallL Tryz.prog F_nums_sortOf args h Q :=
 CallL.of (md := md) Tryz.func139 C_nums_sortOf (by rw [Tryz.ntmps139]; exact hn) (by rw [Tryz.ntmps139]; exact hl)
abbrev F_nums_Fits : Nat := 94
def A_nums_Fits_0 : LA := [mv 5 0, o_ 6 (.call 139 [(.t 5)])]
def A_nums_Fits_1 : LA := [Wi 8 .eql 6 0, mv 7 8]
def A_nums_Fits_2 : LA := [Wi 10 .eql 6 1, mv 9 10]
def A_nums_Fits_3 : LA := [mv 11 1, o_ 12 (.bini .leq (.t 11) (.c (.int .u64 1))), mv 4 12]
def A_nums_Fits_4 : LA := [Wi 14 .eql 6 2, mv 13 14]
def A_nums_Fits_5 : LA := [mv 15 1, o_ 16 (.conv .i64 (.t 15)), mv 17 1, o_ 18 (.conv .i32 (.t 17)), o_ 19 (.conv .i64 (.t 18)), Wb 20 .eql 16 19, mv 4 20]
def A_nums_Fits_6 : LA := [Wi 22 .eql 6 4, mv 21 22]
def A_nums_Fits_7 : LA := [Wi 23 .eql 6 6, mv 21 23]
def A_nums_Fits_8 : LA := [mv 24 1, o_ 25 (.bini .leq (.t 24) (.c (.int .u64 4294967295))), mv 4 25]
def A_nums_Fits : ACode := (.seq (.ops [Wo 4 false]) (.seq (.seq (.ops A_nums_Fits_0) (.block 0 (.seq (.ops A_nums_Fits_1) (.cond (.t 7) (.seq (.ops [Wo 4 false]) .ret) (.seq (.ops A_nums_Fits_2) (.cond (.t 9) (.seq (.ops A_nums_Fits_3) .ret) (.seq (.ops A_nums_Fits_4) (.cond (.t 13) (.seq (.ops A_nums_Fits_5) .ret) (.seq (.seq (.ops A_nums_Fits_6) (.cond (.t 21) .skip (.ops A_nums_Fits_7))) (.cond (.t 21) (.seq (.ops A_nums_Fits_8) .ret) .skip)))))))))) (.seq (.ops [Wo 4 true]) .ret)))
def R_nums_Fits : List ARes := [.tmp 4]
theorem C_nums_Fits : compF Tryz.prog Tryz.f94 = some (A_nums_Fits, R_nums_Fits) := by kernel_rfl
theorem K_nums_Fits {md : Bool} {args : List AV} {h : Hp} {Q : Res → Hp → Prop} (hl : LCode Tryz.prog md A_nums_Fits (EndQ R_nums_Fits Q) (env0 26 args) h) (hn : args.length ≤ 26 := by (simp; done)) : CallL Tryz.prog F_nums_Fits args h Q :=
 CallL.of (md := md) Tryz.func94 C_nums_Fits (by rw [Tryz.ntmps94]; exact hn) (by rw [Tryz.ntmps94]; exact hl)
abbrev F_dyn_kinds_c1 : Nat := 93
def A_dyn_kinds_c1_0 : LA := [o_ 2 (.box 46 3 (.t 0)), Wo 4 false]
def A_dyn_kinds_c1_1 : LA := [mv 5 1, Wf 6 0 2, Wl 7 6, o_ 8 (.call 94 [(.t 5), (.t 7)]), mv 9 8, Wgf 10 1 2 9, Wgl 11 10 9, g_ 12 (.bins .eql (.t 11) (.c (.str []))) 9, Wp 13 9 12, mv 14 13, Wgf 15 2 2 14, Wgl 16 15 14, g_ 17 (.lenl (.t 16)) 14, g_ 18 (.bini .eql (.t 17) (i_ 0)) 14, Wp 19 14 18, mv 4 19]
def A_dyn_kinds_c1 : ACode := (.seq (.ops A_dyn_kinds_c1_0) (.seq (.ops A_dyn_kinds_c1_1) .ret))
def R_dyn_kinds_c1 : List ARes := [.tmp 4]
theorem C_dyn_kinds_c1 : compF Tryz.prog Tryz.f93 = some (A_dyn_kinds_c1, R_dyn_kinds_c1) := by kernel_rfl
theorem K_dyn_kinds_c1 {md : Bool} {args : List AV} {h : Hp} {Q : Res → Hp → Prop} (hl : LCode Tryz.prog md A_dyn_kinds_c1 (EndQ R_dyn_kinds_c1 Q) (env0 20 args) h) (hn : args.length ≤ 20 := by (simp; done)) : CallL Tryz.prog F_dyn_kinds_c1 args h Q :=
 CallL.of (md := md) Tryz.func93 C_dyn_kinds_c1 (by rw [Tryz.ntmps93]; exact hn) (by rw [Tryz.ntmps93]; exact hl)
abbrev F_dyn_below : Nat := 97
def A_dyn_below_0 : LA := [mv 5 0, o_ 6 (.bins .eql (.t 5) (.c (.str [])))]
def A_dyn_below_1 : LA := [mv 7 1, mv 4 7]
def A_dyn_below_2 : LA := [mv 8 0, o_ 9 (.bins .add (.t 8) (.c (.str [46]))), mv 10 1, o_ 11 (.bins .add (.t 9) (.t 10)), mv 4 11]
def A_dyn_below : ACode := (.seq (.ops [o_ 4 (.mov (.c (.str [])))]) (.seq (.seq (.ops A_dyn_below_0) (.cond (.t 6) (.seq (.ops A_dyn_below_1) .ret) .skip)) (.seq (.ops A_dyn_below_2) .ret)))
def R_dyn_below : List ARes := [.tmp 4]
theorem C_dyn_below : compF Tryz.prog Tryz.f97 = some (A_dyn_below, R_dyn_below) := by kernel_rfl
theorem K_dyn_below {md : Bool} {args : List AV} {h : Hp} {Q : Res → Hp → Prop} (hl : LCode Tryz.prog md A_dyn_below (EndQ R_dyn_below Q) (env0 12 args) h) (hn : args.length ≤ 12 := by (simp; done)) : CallL Tryz.prog F_dyn_below args h Q :=
 CallL.of (md := md) Tryz.func97 C_dyn_below (by rw [Tryz.ntmps97]; exact hn) (by rw [Tryz.ntmps97]; exact hl)
abbrev F_dyn_checker_value : Nat := 141
def A_dyn_checker_value_0 : LA := [o_ 9 (.box 46 3 (.t 3)), o_ 12 (.mov (.c (.nilp)))]
def A_dyn_checker_value_1 : LA := [mv 14 1, o_ 15 (.conv .i64 (.t 14)), Wi 16 .geq 15 19, mv 17 16, Whm 18 0 17, Whm 19 1 17, Wh 20 (.nilc (.t 18)) 17, Wh 21 (.faddr 1 (.t 20)) 17, Wh 22 (.adr 19 1 (.t 21) (.t 19)) 17, Wh 23 (.ld1 (.t 22)) 17, Wh 24 (.lda 3 (.t 9)) 17, Whm 25 1 17, Wh 26 (.callv (.t 23) [(.t 24), (.t 25)]) 17, Wh 27 (.not (.t 26)) 17, Wq 28 17 27, mv 29 28, Whm 30 1 29, Wh 31 (.bini .eql (.t 30) (.c (.int .u8 11))) 29, Whm 32 31 29, Wgf 33 2 9 32, Wgl 34 33 32, g_ 35 (.iaddr 55 3 (.t 34) (i_ 0)) 32, Wgf 36 0 35 32, Wgl 37 36 32, Wgm 38 2 32, g_ 39 (.bins .neq (.t 37) (.t 38)) 32, Wh 40 (.pick (.t 32) (.t 39) (.c (.bool false))) 29, Wq 41 29 40, mv 13 41]
def A_dyn_checker_value_2 : LA := [mv 42 4, o_ 43 (.build [.int .i64 (0), .str []] [(0, 1, (i_ 102)), (1, 1, (.t 42))]), o_ 44 (.box 160 2 (.t 43)), mv 12 44]
def A_dyn_checker_value_3 : LA := [mv 46 1, o_ 47 (.bini .eql (.t 46) (.c (.int .u8 9))), mv 48 47, Wgf 49 1 9 48, Wgl 50 49 48, g_ 51 (.call 189 [(.t 50)]) 48, g_ 52 (.bini .geq (.t 51) (i_ 0)) 48, Wp 53 48 52, mv 45 53]
def A_dyn_checker_value_4 : LA := [mv 54 4, o_ 55 (.build [.int .i64 (0), .str []] [(0, 1, (i_ 103)), (1, 1, (.t 54))]), o_ 56 (.box 160 2 (.t 55)), mv 12 56]
def A_dyn_checker_value_5 : LA := [mv 58 1, o_ 59 (.bini .eql (.t 58) (.c (.int .u8 11))), mv 57 59]
def A_dyn_checker_value_6 : LA := [mv 60 0, Wf 61 2 9, Wl 62 61, o_ 63 (.iaddr 55 3 (.t 62) (i_ 0)), Wd 64 3 63, mv 65 4, mv 66 5, Wi 67 .add 66 1, o_ 68 (.call 53 [(.t 60), (.t 64), (.t 65), (.t 67)]), mv 12 68]
def A_dyn_checker_value : ACode := (.seq (.ops A_dyn_checker_value_0) (.seq (.block 0 (.seq (.alts [14, 15, 16, 17, 18, 19, 20, 21, 22, 23, 24, 25, 26, 27, 28, 29, 30, 31, 32, 33, 34, 35, 36, 37, 38, 39, 40, 41, 13] [A_dyn_checker_value_1]) (.cond (.t 13) (.seq (.ops A_dyn_checker_value_2) .ret) (.seq (.ops A_dyn_checker_value_3) (.cond (.t 45) (.seq (.ops A_dyn_checker_value_4) .ret) (.seq (.ops A_dyn_checker_value_5) (.cond (.t 57) (.seq (.ops A_dyn_checker_value_6) .ret) .skip))))))) (.seq (.ops [o_ 12 (.mov (.c (.nilp)))]) .ret)))
def R_dyn_checker_value : List ARes := [.tmp 12]
theorem C_dyn_checker_value : compF Tryz.prog Tryz.f141 = some (A_dyn_checker_value, R_dyn_checker_value) := by kernel_rfl
theorem K_dyn_checker_value {md : Bool} {args : List AV} {h : Hp} {Q : Res → Hp → Prop} (hl : LCode Tryz.prog md A_dyn_checker_value (EndQ R_dyn_checker_value Q) (env0 69 args) h) (hn : args.length ≤ 69 := by (simp; done)) : CallL Tryz.prog F_dyn_checker_value args h Q :=
 CallL.of (md := md) Tryz.func141 C_dyn_checker_value (by rw [Tryz.ntmps141]; exact hn) (by rw [Tryz.ntmps141]; exact hl)
abbrev F_dyn_checker_field : Nat := 99
def A_dyn_checker_field_0 : LA := [o_ 6 (.box 120 9 (.t 1)), o_ 7 (.box 52 3 (.t 2)), o_ 10 (.mov (.c (.nilp)))]
def A_dyn_checker_field_1 : LA := [Wf 18 3 6, Wl 19 18, o_ 20 (.bini .eql (.t 19) (.c (.int .u8 3))), mv 21 20, Wh 22 (.faddr 3 (.t 6)) 21, Wh 23 (.ld1 (.t 22)) 21, Wh 24 (.bini .eql (.t 23) (.c (.int .u8 4))) 21, Wq 25 21 24, mv 11 25]
def A_dyn_checker_field_2 : LA := [Wf 26 3 6, Wl 27 26, o_ 28 (.bini .eql (.t 27) (.c (.int .u8 4)))]
def A_dyn_checker_field_3 : LA := [Wf 29 2 7, Wl 30 29, We 31 30, mv 12 31]
def A_dyn_checker_field_4 : LA := [Wf 32 2 7, Wl 33 32, We 34 33, Wi 35 .eql 34 0, mv 36 35, Whm 37 11 36, Wh 38 (.not (.t 37)) 36, Whm 39 38 36, Wgf 40 2 7 39, Wgl 41 40 39, g_ 42 (.lenl (.t 41)) 39, g_ 43 (.bini .gtr (.t 42) (i_ 1)) 39, Wh 44 (.pick (.t 39) (.t 43) (.c (.bool false))) 36, Wq 45 36 44, mv 46 45, Wh 47 (.faddr 1 (.t 7)) 46, Wh 48 (.ld1 (.t 47)) 46, Wh 49 (.lenl (.t 48)) 46, Whm 50 12 46, Wh 51 (.bini .neq (.t 49) (.t 50)) 46, Wq 52 46 51]
def A_dyn_checker_field_5 : LA := [mv 53 3, o_ 54 (.build [.int .i64 (0), .str []] [(0, 1, (i_ 102)), (1, 1, (.t 53))]), o_ 55 (.box 160 2 (.t 54)), mv 10 55]
def A_dyn_checker_field_6 : LA := [Wf 56 2 7, Wl 57 56, We 58 57, Wm 59 0]
def A_dyn_checker_field_7 : LA := [mv 61 59, Wa 62 46 3 57 59, Wd 63 3 62, o_ 14 (.box 46 3 (.c (.agg [.int .u64 (0), .str [], .nils]))), mv 13 61, Wt 3 14 63]
def A_dyn_checker_field_8 : LA := [mv 64 3, mv 15 64]
def A_dyn_checker_field_9 : LA := [mv 66 15, mv 67 13, o_ 68 (.call 98 [(.t 67)]), o_ 69 (.bins .add (.c (.str [91])) (.t 68)), o_ 70 (.bins .add (.t 69) (.c (.str [93]))), o_ 71 (.bins .add (.t 66) (.t 70)), mv 15 71]
def A_dyn_checker_field_10 : LA := [Wf 72 3 6, Wl 73 72, o_ 74 (.bini .eql (.t 73) (.c (.int .u8 4)))]
def A_dyn_checker_field_11 : LA := [mv 75 0, Wf 76 5 6, Wl 77 76, Wf 78 1 7, Wl 79 78, mv 80 13, Wa 81 46 3 79 80, Wd 82 3 81, mv 83 15, mv 84 4, o_ 85 (.call 141 [(.t 75), (.t 77), (.c (.str [])), (.t 82), (.t 83), (.t 84)]), mv 16 85]
def A_dyn_checker_field_12 : LA := [mv 86 16, o_ 87 (.isnil .pt true (.t 86))]
def A_dyn_checker_field_13 : LA := [mv 88 16, mv 10 88]
def A_dyn_checker_field_14 : LA := [mv 89 0, Wf 90 4 6, Wl 91 90, Wf 92 8 6, Wl 93 92, Wd 94 3 14, mv 95 15, mv 96 4, o_ 97 (.call 141 [(.t 89), (.t 91), (.t 93), (.t 94), (.t 95), (.t 96)]), mv 17 97]
def A_dyn_checker_field_15 : LA := [mv 98 17, o_ 99 (.isnil .pt true (.t 98))]
def A_dyn_checker_field_16 : LA := [mv 100 17, mv 10 100]
def A_dyn_checker_field_17 : LA := [Wi 101 .add 59 1, mv 59 101]
def A_dyn_checker_field_18 : ACode := (.seq (.ops [Wb 60 .lss 59 58]) (.seq (.cond (.t 60) .skip (.exit 0)) (.seq (.block 1 (.seq (.ops A_dyn_checker_field_7) (.seq (.ops A_dyn_checker_field_8) (.seq (.seq (.ops [mv 65 11]) (.cond (.t 65) (.ops A_dyn_checker_field_9) .skip)) (.seq (.seq (.ops A_dyn_checker_field_10) (.cond (.t 74) (.seq (.alts [75, 76, 77, 78, 79, 80, 81, 82, 83, 84, 85, 16] [A_dyn_checker_field_11]) (.seq (.ops A_dyn_checker_field_12) (.cond (.t 87) (.seq (.ops A_dyn_checker_field_13) .ret) .skip))) .skip)) (.seq (.ops A_dyn_checker_field_14) (.seq (.ops A_dyn_checker_field_15) (.cond (.t 99) (.seq (.ops A_dyn_checker_field_16) .ret) .skip)))))))) (.ops A_dyn_checker_field_17))))
def A_dyn_checker_field : ACode := (.seq (.ops A_dyn_checker_field_0) (.seq (.ops A_dyn_checker_field_1) (.seq (.ops [Wm 12 0]) (.seq (.seq (.ops A_dyn_checker_field_2) (.cond (.t 28) (.ops A_dyn_checker_field_3) .skip)) (.seq (.seq (.ops A_dyn_checker_field_4) (.cond (.t 52) (.seq (.ops A_dyn_checker_field_5) .ret) .skip)) (.seq (.seq (.ops A_dyn_checker_field_6) (.block 0 (.loop A_dyn_checker_field_18))) (.seq (.ops [o_ 10 (.mov (.c (.nilp)))]) .ret)))))))
def R_dyn_checker_field : List ARes := [.tmp 10]
theorem C_dyn_checker_field : compF Tryz.prog Tryz.f99 = some (A_dyn_checker_field, R_dyn_checker_field) := by kernel_rfl
theorem K_dyn_checker_field {md : Bool} {args : List AV} {h : Hp} {Q : Res → Hp → Prop} (hl : LCode Tryz.prog md A_dyn_checker_field (EndQ R_dyn_checker_field Q) (env0 102 args) h) (hn : args.length ≤ 102 := by (simp; done)) : CallL Tryz.prog F_dyn_checker_field args h Q :=
 CallL.of (md := md) Tryz.func99 C_dyn_checker_field (by rw [Tryz.ntmps99]; exact hn) (by rw [Tryz.ntmps99]; exact hl)
end Go.Proofs.YtghlipffncbagaaGreatDoor

namespace Go.Proofs.YtghlipffncbagaaGreatDoor
open Go.Shelf
def itoLaid_ren : Go.Shelf.Ren := ⟨fun | 171 => 98 | 243 => 140 | 246 => 188 | 283 => 236 | 284 => 237 | 285 => 238 | 286 => 239 | 129 => 17 | 317 => 264 | 318 => 265 | 319 => 266 | 320 => 267 | 337 => 280 | 338 => 281 | n => n, fun | 3 => 3 | 9 => 9 | 2 => 2 | 4 => 4 | 171 => 350 | 0 => 0 | 53 => 22 | 37 => 47 | 5 => 5 | 173 => 352 | 212 => 373 | 51 => 96 | 20 => 20 | 213 => 374 | 46 => 43 | 232 => 389 | 233 => 390 | n => n, fun | 17 => 1 | 18 => 4 | 19 => 5 | n => n⟩
theorem itoLaid : Go.Proofs.LaysM.n171 Tryz.prog itoLaid_ren := {
 mixed := by kernel_rfl
 f129 := Tryz.func17.trans (congrArg some (by kernel_rfl))
 f171 := Tryz.func98.trans (congrArg some (by kernel_rfl))
 f243 := Tryz.func140.trans (congrArg some (by kernel_rfl))
 f246 := Tryz.func188.trans (congrArg some (by kernel_rfl))
 f283 := Tryz.func236.trans (congrArg some (by kernel_rfl))
 f284 := Tryz.func237.trans (congrArg some (by kernel_rfl))
 f285 := Tryz.func238.trans (congrArg some (by kernel_rfl))
 f286 := Tryz.func239.trans (congrArg some (by kernel_rfl))
 f317 := Tryz.func264.trans (congrArg some (by kernel_rfl))
 f318 := Tryz.func265.trans (congrArg some (by kernel_rfl))
 f319 := Tryz.func266.trans (congrArg some (by kernel_rfl))
 f320 := Tryz.func267.trans (congrArg some (by kernel_rfl))
 f337 := Tryz.func280.trans (congrArg some (by kernel_rfl))
 f338 := Tryz.func281.trans (congrArg some (by kernel_rfl))
 t0 := Tryz.underlying0
 a0 := Tryz.isAgg0
 z0 := Tryz.sizeOf0
 v0 := Tryz.zeroValue0
 t2 := Tryz.underlying2
 a2 := Tryz.isAgg2
 z2 := Tryz.sizeOf2
 v2 := Tryz.zeroValue2
 t3 := Tryz.underlying3
 a3 := Tryz.isAgg3
 z3 := Tryz.sizeOf3
 v3 := Tryz.zeroValue3
 t4 := Tryz.underlying4
 a4 := Tryz.isAgg4
 z4 := Tryz.sizeOf4
 v4 := Tryz.zeroValue4
 t5 := Tryz.underlying5
 a5 := Tryz.isAgg5
 z5 := Tryz.sizeOf5
 v5 := Tryz.zeroValue5
 t9 := Tryz.underlying9
 a9 := Tryz.isAgg9
 z9 := Tryz.sizeOf9
 v9 := Tryz.zeroValue9
 t20 := Tryz.underlying20
 a20 := Tryz.isAgg20
 z20 := Tryz.sizeOf20
 v20 := Tryz.zeroValue20
 t37 := Tryz.underlying47
 a37 := Tryz.isAgg47
 z37 := Tryz.sizeOf47
 v37 := Tryz.zeroValue47
 t46 := Tryz.underlying43
 a46 := Tryz.isAgg43
 z46 := Tryz.sizeOf43
 v46 := Tryz.zeroValue43
 t51 := Tryz.underlying96
 a51 := Tryz.isAgg96
 z51 := Tryz.sizeOf96
 v51 := Tryz.zeroValue96
 t53 := Tryz.underlying22
 a53 := Tryz.isAgg22
 z53 := Tryz.sizeOf22
 v53 := Tryz.zeroValue22
 t171 := Tryz.underlying350
 a171 := Tryz.isAgg350
 z171 := Tryz.sizeOf350
 v171 := Tryz.zeroValue350
 t173 := Tryz.underlying352
 a173 := Tryz.isAgg352
 z173 := Tryz.sizeOf352
 v173 := Tryz.zeroValue352
 t212 := Tryz.underlying373
 a212 := Tryz.isAgg373
 z212 := Tryz.sizeOf373
 v212 := Tryz.zeroValue373
 t213 := Tryz.underlying374
 a213 := Tryz.isAgg374
 z213 := Tryz.sizeOf374
 t232 := Tryz.underlying389
 a232 := Tryz.isAgg389
 z232 := Tryz.sizeOf389
 v232 := Tryz.zeroValue389
 t233 := Tryz.underlying390
 a233 := Tryz.isAgg390
 z233 := Tryz.sizeOf390
 v233 := Tryz.zeroValue390
 g17 := by kernel_rfl
 g18 := by kernel_rfl
 g19 := by kernel_rfl
 i0 := by kernel_rfl
 i2 := by kernel_rfl
 i3 := by kernel_rfl
 i4 := by kernel_rfl
 i5 := by kernel_rfl
 i9 := by kernel_rfl
 i20 := by kernel_rfl
 i37 := by kernel_rfl
 i46 := by kernel_rfl
 i51 := by kernel_rfl
 i53 := by kernel_rfl
 i171 := by kernel_rfl
 i173 := by kernel_rfl
 i212 := by kernel_rfl
 i232 := by kernel_rfl
 i233 := by kernel_rfl
 m17 := by kernel_rfl
 m18 := by kernel_rfl
 m19 := by kernel_rfl }
end Go.Proofs.YtghlipffncbagaaGreatDoor

namespace Go.Proofs.YtghlipffncbagaaGreatDoor
open Go.L
theorem pow10_is : Tryz.prog.globalNamed "internal/strconv.uint64pow10" = some 1 := by kernel_rfl
theorem Itoa_L (n : Int) (h0 : -9223372036854775808 ≤ n) (h1 : n ≤ 9223372036854775807) : PureL Tryz.prog 98 [.int .i64 n] (.str (Lib.itoa n)) :=
 itoa_bridge (by rw [pow10_is]; exact fun h => by cases h) (fun n w h0 h1 ht => Any.strconv_Itoa itoLaid n h0 h1 w ht) n h0 h1
end Go.Proofs.YtghlipffncbagaaGreatDoor

namespace Go.Proofs.YtghlipffncbagaaGreatDoor
open Go.L
abbrev TV : TypeId := 46
abbrev TFV : TypeId := 52
abbrev TMsg : TypeId := 55
abbrev TCk : TypeId := 156
abbrev TTab : TypeId := 175
abbrev TRow : TypeId := 120
abbrev TabC (full os rs nm nv jv : AV) : List AV := [full, os, rs, nm, nv, jv]
abbrev row0 : List AV := [.int .i32 0, .str [], .str [], .int .u8 0, .int .u8 0, .int .u8 0, .bool false, .int .i64 0, .str []]
abbrev rowF (p : Bool) : List AV := [.int .i32 16, .str [102], .str [102], .int .u8 3, .int .u8 4, .int .u8 0, .bool p, .int .i64 0, .str []]
abbrev vC (x : Nat) : List AV := [.int .u64 x, .str [], .nils]
abbrev vsC (xs : List Nat) : List (List AV) := xs.map vC
abbrev fC (lv : AV) : List AV := [.int .i32 16, .nils, lv]
theorem vsC_len (xs : List Nat) : (vsC xs).length = xs.length := List.length_map ..
theorem vsC_get {xs : List Nat} {k x : Nat} (h : xs[k]? = some x) : (vsC xs)[0 + k]? = some (vC x) := by rw [Nat.zero_add, vsC, List.getElem?_map, h]; rfl
theorem at1_L {Tt RW : Nat} {full os nm nv jv : AV} {rows : List (List AV)} {i n : Nat} {rw_ : List AV} {h : Hp} (hT : h Tt = some (.row TTab [TabC full os (.slc RW 0 n none) nm nv jv])) (hR : h RW = some (.row TRow rows)) (hi : rows[i]? = some rw_) (hn : i < n) (hl : rw_.length = 9) (hf : flat rw_ = true) :
  CallL Tryz.prog F_table_Table_at [.ptr Tt 0 0, .int .i64 i, .bool true] h fun r h' => r = .ret (.tup [.agg rw_, .bool true]) ∧ Gr h h' := by
 obtain ⟨a, b, c, d, e, f, g, j, k, rfl⟩ : ∃ a b c d e f g j k, rw_ = [a, b, c, d, e, f, g, j, k] := by
  match rw_, hl with
  | [a, b, c, d, e, f, g, j, k], _ => exact ⟨a, b, c, d, e, f, g, j, k, rfl⟩
 refine K_table_Table_at (md := false) ?_
 refine ⟨rfl, rfl, fun B hB => ?_⟩
 have g1 := (Gr.refl h).set hB.1 (.row TRow [row0])
 refine ⟨_, _, _, _, g1.blk hT, rfl, rfl, ?_⟩
 refine ⟨i, rfl, hn, ⟨_, g1.blk hR⟩, ?_⟩
 refine ⟨_, _, _, g1.blk hR, (show rows[0 + i]? = _ by rw [Nat.zero_add]; exact hi), by show 9 ≤ 9; decide, ?_⟩
 refine ⟨_, _, _, Hp.set_same _ _ _, rfl, rfl, rfl, hf, by show 9 ≤ 9; decide, ?_⟩
 refine ⟨rfl, ?_⟩
 refine ⟨_, _, _, Hp.set_same _ _ _, rfl, by show 9 ≤ 9; decide, ?_⟩
 exact ⟨rfl, g1.set hB.1 _⟩
theorem Find1_L {Tt RW NM clk : Nat} {full os nv jv : AV} {rows : List (List AV)} {i n : Nat} {z : Int} {es : MapL} {rw_ : List AV} {h : Hp} (hT : h Tt = some (.row TTab [TabC full os (.slc RW 0 n none) (.map NM) nv jv])) (hR : h RW = some (.row TRow rows)) (hN : h NM = some (.map es clk))
  (hk : KeysLike (.int .i32 z) es) (hg : mget (.int .i32 z) es = some (.int .i64 i)) (hi : rows[i]? = some rw_) (hn : i < n) (hl : rw_.length = 9) (hf : flat rw_ = true) :
  CallL Tryz.prog F_table_Table_Find [.ptr Tt 0 0, .int .i32 z] h fun r h' => r = .ret (.tup [.agg rw_, .bool true]) ∧ Gr h h' := by
 refine K_table_Table_Find (md := false) ?_
 refine ⟨rfl, rfl, fun B hB => ?_⟩
 have g1 := (Gr.refl h).set hB.1 (.row TRow [row0])
 refine ⟨_, _, _, _, g1.blk hT, rfl, rfl, ?_⟩
 refine ⟨_, _, g1.blk hN, rfl, hk, fun r hr => ?_⟩
 obtain rfl : r = some (.int .i64 i) := hr.trans hg
 refine ⟨_, rfl, _, rfl, ?_⟩
 refine (at1_L (g1.blk hT) (g1.blk hR) hi hn hl hf).mono ?_
 rintro r h2 ⟨rfl, g2⟩
 refine ⟨_, rfl, _, rfl, ?_⟩
 have hB2 := g2.blk (Hp.set_same _ _ _)
 obtain ⟨a, b, c, d, e, f, g, j, k, rfl⟩ : ∃ a b c d e f g j k, rw_ = [a, b, c, d, e, f, g, j, k] := by
  match rw_, hl with
  | [a, b, c, d, e, f, g, j, k], _ => exact ⟨a, b, c, d, e, f, g, j, k, rfl⟩
 refine ⟨_, _, _, hB2, rfl, rfl, rfl, hf, by show 9 ≤ 9; decide, ?_⟩
 refine ⟨rfl, ?_⟩
 refine ⟨_, _, _, Hp.set_same _ _ _, rfl, by show 9 ≤ 9; decide, ?_⟩
 exact ⟨rfl, (g1.trans g2).set hB.1 _⟩
theorem sortOf4_L (h : Hp) : CallL Tryz.prog F_nums_sortOf [.int .u8 4] h fun r h' => r = .ret (.int .i64 5) ∧ h' = h := by
 refine K_nums_sortOf (md := false) ?_
 refine s_eq (fun (h1 : (4 : Int) = 8) => absurd h1 (by decide)) (fun _ => ?_)
 refine s_eq (fun (h1 : (4 : Int) = 5) => absurd h1 (by decide)) (fun _ => ?_)
 refine s_eq (fun (h1 : (4 : Int) = 17) => absurd h1 (by decide)) (fun _ => ?_)
 refine s_eq (fun (h1 : (4 : Int) = 15) => absurd h1 (by decide)) (fun _ => ?_)
 refine s_eq (fun (h1 : (4 : Int) = 14) => absurd h1 (by decide)) (fun _ => ?_)
 refine s_eq (fun (h1 : (4 : Int) = 3) => absurd h1 (by decide)) (fun _ => ?_)
 refine s_eq (fun (h1 : (4 : Int) = 18) => absurd h1 (by decide)) (fun _ => ?_)
 refine s_eq (fun (h1 : (4 : Int) = 16) => absurd h1 (by decide)) (fun _ => ?_)
 refine s_eq (fun (h1 : (4 : Int) = 13) => absurd h1 (by decide)) (fun _ => ?_)
 refine s_eq (fun (h1 : (4 : Int) = 7) => absurd h1 (by decide)) (fun _ => ?_)
 refine s_eq (fun _ => ?_) (fun h1 => absurd rfl h1)
 exact ⟨rfl, rfl, rfl⟩
theorem Fits4_L (x : Nat) (h : Hp) : CallL Tryz.prog F_nums_Fits [.int .u8 4, .int .u64 x] h fun r h' => r = .ret (.bool true) ∧ h' = h := by
 refine K_nums_Fits (md := false) ?_
 refine (sortOf4_L h).mono ?_
 rintro r h' ⟨rfl, rfl⟩
 refine s_eq (fun (h1 : (5 : Int) = 0) => absurd h1 (by decide)) (fun _ => ?_)
 refine s_eq (fun (h1 : (5 : Int) = 1) => absurd h1 (by decide)) (fun _ => ?_)
 refine s_eq (fun (h1 : (5 : Int) = 2) => absurd h1 (by decide)) (fun _ => ?_)
 refine s_eq (fun (h1 : (5 : Int) = 4) => absurd h1 (by decide)) (fun _ => ?_)
 refine s_eq (fun (h1 : (5 : Int) = 6) => absurd h1 (by decide)) (fun _ => ?_)
 exact ⟨rfl, rfl, rfl⟩
theorem Has_kinds1 : HasBody Tryz.prog F_dyn_kinds_c1 := ⟨_, Tryz.func93, by kernel_rfl, by kernel_rfl⟩
theorem kinds1_L (x : Nat) (h : Hp) : CallL Tryz.prog F_dyn_kinds_c1 [.agg (vC x), .int .u8 4] h fun r h' => r = .ret (.bool true) ∧ Gr h h' := by
 refine K_dyn_kinds_c1 (md := false) ?_
 refine ⟨rfl, rfl, fun B hB => ?_⟩
 refine ⟨_, _, _, _, Hp.set_same _ _ _, rfl, rfl, ?_⟩
 refine (Fits4_L x _).mono ?_
 rintro r h' ⟨rfl, rfl⟩
 refine ⟨_, _, _, _, Hp.set_same _ _ _, rfl, rfl, ?_⟩
 refine s_seq (fun _ => ?_) (fun h1 => absurd rfl h1)
 refine ⟨_, _, _, _, Hp.set_same _ _ _, rfl, rfl, ?_⟩
 refine s_eq (fun _ => ?_) (fun h1 => absurd rfl h1)
 exact ⟨rfl, rfl, (Gr.refl h).set hB.1 _⟩
theorem below_L (s : Str) : PureL Tryz.prog F_dyn_below [.str [], .str s] (.str s) := by
 intro h
 refine K_dyn_below (md := false) ?_
 refine s_seq (fun _ => ?_) (fun h1 => absurd rfl h1)
 exact ⟨rfl, rfl, rfl⟩
set_option maxHeartbeats 1000000 in
theorem value_L {c : Nat} {tv : AV} {fs : List AV} {path : Str} (x : Nat) {h : Hp} (hc : h c = some (.row TCk [tv :: fs])) (hf : (tv :: fs)[5]? = some (.func (.func F_dyn_kinds_c1) [] [])) :
  CallL Tryz.prog F_dyn_checker_value [.ptr c 0 0, .int .u8 4, .str [], .agg (vC x), .str path, .int .i64 1] h fun r h' => r = .ret .nilp ∧ Gr h h' := by
 refine K_dyn_checker_value (md := false) ?_
 refine ⟨rfl, rfl, fun B hB => ?_⟩
 have g1 := (Gr.refl h).set hB.1 (.row TV [vC x])
 refine s_ie (d := 4) (wrap_i64 (by decide) (by decide)) ?_
 refine s_le (fun (h1 : (19 : Int) ≤ 4) => absurd h1 (by decide)) (fun _ => ?_)
 refine ⟨4, rfl, by decide, ?_⟩
 refine ⟨_, _, _, _, g1.blk hc, rfl, hf, ?_⟩
 refine ⟨_, _, _, Hp.set_same _ _ _, rfl, by show 3 ≤ 3; decide, ?_⟩
 refine ⟨Has_kinds1, (kinds1_L x _).mono ?_⟩
 rintro r h2 ⟨rfl, g⟩
 refine s_eq (fun (h1 : (4 : Int) = 11) => absurd h1 (by decide)) (fun _ => ?_)
 refine s_eq (fun (h1 : (4 : Int) = 9) => absurd h1 (by decide)) (fun _ => ?_)
 refine s_eq (fun (h1 : (4 : Int) = 11) => absurd h1 (by decide)) (fun _ => ?_)
 exact ⟨rfl, rfl, g1.trans g⟩
set_option maxHeartbeats 2000000 in
theorem cfield_L {c lb : Nat} {tv : AV} {fs : List AV} {path : Str} {p : Bool} {xs : List Nat} {h : Hp} (hc : h c = some (.row TCk [tv :: fs])) (hf : (tv :: fs)[5]? = some (.func (.func F_dyn_kinds_c1) [] [])) (hl : h lb = some (.row TV (vsC xs))) (h1 : 1 ≤ xs.length) (h2 : xs.length ≤ 1000000) (hp : path.length ≤ 1000) :
  CallL Tryz.prog F_dyn_checker_field [.ptr c 0 0, .agg (rowF p), .agg (fC (.slc lb 0 xs.length none)), .str path, .int .i64 1] h fun r h' => r = .ret .nilp ∧ Gr h h' := by
 have hvl := vsC_len xs
 refine K_dyn_checker_field (md := false) ?_
 refine ⟨rfl, rfl, fun b6 hb6 => ?_⟩
 refine ⟨rfl, rfl, fun b7 hb7 => ?_⟩
 have g1 := (Gr.refl h).set hb6.1 (.row TRow [rowF p])
 have g2 := g1.set (g1.new hb7.1) (.row TFV [fC (.slc lb 0 xs.length none)])
 have hn67 : b6 ≠ b7 := ne_of_u (by simp) hb7.1
 generalize hH2 : (h.set b6 (.row TRow [rowF p])).set b7 (.row TFV [fC (.slc lb 0 xs.length none)]) = H2 at g2
 have r6 : H2 b6 = some (.row TRow [rowF p]) := by rw [← hH2]; exact (Hp.set_ne hn67).trans (Hp.set_same _ _ _)
 have r7 : H2 b7 = some (.row TFV [fC (.slc lb 0 xs.length none)]) := by rw [← hH2]; exact Hp.set_same _ _ _
 have rl := g2.blk hl
 have rc := g2.blk hc
 refine ⟨_, _, _, _, (congrArg (fun X : Hp => X.m b6) hH2).trans r6, rfl, rfl, ?_⟩
 refine s_eq (fun _ => ?_) (fun h3 => absurd rfl h3)
 refine ⟨_, _, _, _, (congrArg (fun X : Hp => X.m b6) hH2).trans r6, rfl, rfl, ?_⟩
 refine s_eq (fun (h3 : (3 : Int) = 4) => absurd h3 (by decide)) (fun _ => ?_)
 refine ⟨_, _, _, _, (congrArg (fun X : Hp => X.m b7) hH2).trans r7, rfl, rfl, ?_⟩
 refine s_eq (fun (h3 : ((xs.length : Nat) : Int) = 0) => by omega) (fun _ => ?_)
 refine ⟨_, _, _, _, (congrArg (fun X : Hp => X.m b7) hH2).trans r7, rfl, rfl, ?_⟩
 refine s_ne (fun h3 => absurd rfl h3) (fun _ => ?_)
 refine ⟨_, _, _, _, (congrArg (fun X : Hp => X.m b7) hH2).trans r7, rfl, rfl, ?_⟩
 refine s_blk (id := 0) (fun e' h' => e'.ds = [] ∧ Gr H2 h') ?_ ?_
 ·refine s_loop xs.length (fun k (H : Hp) => k ≤ xs.length ∧ Gr H2 H) (fun k _ => [(0, .ptr c 0 0), (3, .str path), (4, .int .i64 1), (6, .ptr b6 0 0), (7, .ptr b7 0 0), (11, .bool true), (57, .slc lb 0 xs.length none), (58, .int .i64 (xs.length : Nat)), (59, .int .i64 (k : Nat))]) (fun _ H => H) H2
   ⟨Nat.zero_le _, Gr.refl _⟩ hH2 rfl ⟨rfl, rfl, rfl, rfl, rfl, rfl, rfl, rfl, rfl, trivial⟩ (fun k H hI => hI.1) ?_
  rintro k H n1 g1' hk ⟨_, g⟩
  refine s_lt (fun (h3 : ((k : Nat) : Int) < (xs.length : Nat)) => ?_) (fun (h3 : ((xs.length : Nat) : Int) ≤ (k : Nat)) => ?_)
  ·obtain ⟨x, hx⟩ := get_lt (l := xs) (k := k) (by omega)
   have rlH := g.blk rl
   refine ⟨k, rfl, by omega, ⟨_, rlH⟩, ?_⟩
   refine ⟨_, _, _, rlH, vsC_get hx, by show 3 ≤ 3; decide, ?_⟩
   refine ⟨rfl, rfl, fun b14 hb14 => ?_⟩
   refine ⟨_, _, _, Hp.set_same _ _ _, rfl, rfl, rfl, rfl, by show 3 ≤ 3; decide, ?_⟩
   have g3 := ((Gr.refl H).set hb14.1 (.row TV [[.int .u64 0, .str [], .nils]])).set hb14.1 (.row TV [vC x])
   have g4 := g.trans g3
   refine (Itoa_L k (by omega) (by omega)).use ?_
   have hil := Lib.itoa_length_le (k : Int) (by omega) (by omega)
   refine ⟨by show 1 + _ ≤ _; omega, ?_⟩
   refine ⟨by show ([91] ++ Lib.itoa (k : Int)).length + 1 ≤ _; rw [List.length_append]; show 1 + _ + 1 ≤ _; omega, ?_⟩
   refine ⟨by show path.length + ([91] ++ Lib.itoa (k : Int) ++ [93]).length ≤ _; rw [List.length_append, List.length_append]; show path.length + (1 + _ + 1) ≤ _; omega, ?_⟩
   refine ⟨_, _, _, _, g4.blk r6, rfl, rfl, ?_⟩
   refine s_eq (fun (h3 : (3 : Int) = 4) => absurd h3 (by decide)) (fun _ => ?_)
   refine ⟨_, _, _, _, g4.blk r6, rfl, rfl, ?_⟩
   refine ⟨_, _, _, _, g4.blk r6, rfl, rfl, ?_⟩
   refine ⟨_, _, _, Hp.set_same _ _ _, rfl, by show 3 ≤ 3; decide, ?_⟩
   refine (value_L x (g4.blk rc) hf).mono ?_
   rintro r H' ⟨rfl, g5⟩
   refine s_nat (k + 1) (by omega) (by omega) ?_
   exact ⟨H', by omega, ⟨by omega, g4.trans g5⟩, rfl, rfl, rfl, rfl, rfl, rfl, rfl, rfl, rfl, rfl, rfl, trivial⟩
  ·exact ⟨rfl, g⟩
 ·rintro e' h' ⟨hd, g⟩
  obtain ⟨n9, g9, d9⟩ := e'
  cases hd
  exact ⟨rfl, rfl, g2.trans g⟩
end Go.Proofs.YtghlipffncbagaaGreatDoor

namespace Go.Proofs.YtghlipffncbagaaGreatDoor
open Go.L
abbrev F_wire_Check : Nat := 142
def A_wire_Check_0 : LA := [Wm 4 0, Wm 5 0]
def A_wire_Check_1 : LA := [mv 12 0, o_ 13 (.call 190 [(.t 12)]), mv 6 13]
def A_wire_Check_2 : LA := [mv 14 6, o_ 15 (.call 191 [(.t 14)]), Wi 16 .gtr 15 0]
def A_wire_Check_3 : LA := [mv 17 6, o_ 18 (.call 192 [(.t 17)]), mv 7 18]
def A_wire_Check_4 : LA := [mv 20 6, o_ 21 (.call 193 [(.t 20)]), mv 19 21, Wx 22 0 19, Wx 23 1 19, mv 8 22, mv 9 23]
def A_wire_Check_5 : LA := [mv 25 6, o_ 26 (.call 194 [(.t 25)]), mv 24 26, Wx 27 0 24, Wx 28 1 24, mv 10 27, mv 11 28]
def A_wire_Check_6 : LA := [mv 29 10, Wi 30 .eql 29 0, mv 31 30, Wgm 32 9 31, g_ 33 (.bini .eql (.t 32) (.c (.int .u8 4))) 31, Wp 34 31 33]
def A_wire_Check_7 : LA := [mv 35 7, Wm 4 13, mv 5 35]
def A_wire_Check_8 : LA := [mv 36 6, mv 37 8, mv 38 9, mv 39 1, o_ 40 (.call 195 [(.t 36), (.t 37), (.t 38), (.t 39)])]
def A_wire_Check_9 : ACode := (.seq (.seq (.ops A_wire_Check_2) (.cond (.t 16) .skip (.exit 0))) (.block 1 (.seq (.ops A_wire_Check_3) (.seq (.ops A_wire_Check_4) (.seq (.seq (.ops A_wire_Check_5) (.seq (.ops A_wire_Check_6) (.cond (.t 34) (.seq (.ops A_wire_Check_7) .ret) .skip))) (.ops A_wire_Check_8))))))
def A_wire_Check_10 : LA := [mv 41 6, o_ 42 (.call 194 [(.t 41)]), Wx 43 0 42, Wx 44 1 42, mv 4 43, mv 5 44]
def A_wire_Check : ACode := (.seq (.ops A_wire_Check_0) (.seq (.ops A_wire_Check_1) (.seq (.block 0 (.loop A_wire_Check_9)) (.seq (.ops A_wire_Check_10) .ret))))
def R_wire_Check : List ARes := [.tmp 4, .tmp 5]
theorem C_wire_Check : compF Tryz.prog Tryz.f142 = some (A_wire_Check, R_wire_Check) := by kernel_rfl
theorem K_wire_Check {md : Bool} {args : List AV} {h : Hp} {Q : Res → Hp → Prop} (hl : LCode Tryz.prog md A_wire_Check (EndQ R_wire_Check Q) (env0 45 args) h) (hn : args.length ≤ 45 := by (simp; done)) : CallL Tryz.prog F_wire_Check args h Q :=
 CallL.of (md := md) Tryz.func142 C_wire_Check (by rw [Tryz.ntmps142]; exact hn) (by rw [Tryz.ntmps142]; exact hl)
abbrev F_wire_NewReader : Nat := 190
def A_wire_NewReader_0 : LA := [mv 3 0, o_ 4 (.call 38 [(.t 3)]), mv 5 0, We 6 5, o_ 7 (.build [.nils, .int .i64 (0), .int .i64 (0), .int .i64 (0), .int .i64 0] [(0, 1, (.t 4)), (2, 1, (.t 6))]), o_ 8 (.box 357 5 (.t 7)), mv 2 8]
def A_wire_NewReader : ACode := (.seq (.ops [o_ 2 (.mov (.c (.nilp)))]) (.seq (.ops A_wire_NewReader_0) .ret))
def R_wire_NewReader : List ARes := [.tmp 2]
theorem C_wire_NewReader : compF Tryz.prog Tryz.f190 = some (A_wire_NewReader, R_wire_NewReader) := by kernel_rfl
theorem K_wire_NewReader {md : Bool} {args : List AV} {h : Hp} {Q : Res → Hp → Prop} (hl : LCode Tryz.prog md A_wire_NewReader (EndQ R_wire_NewReader Q) (env0 9 args) h) (hn : args.length ≤ 9 := by (simp; done)) : CallL Tryz.prog F_wire_NewReader args h Q :=
 CallL.of (md := md) Tryz.func190 C_wire_NewReader (by rw [Tryz.ntmps190]; exact hn) (by rw [Tryz.ntmps190]; exact hl)
abbrev F_wire_Reader_Left : Nat := 191
def A_wire_Reader_Left_0 : LA := [mv 3 0, Wc 4 3, Wf 5 3 4, Wl 6 5, Wi 7 .neq 6 0]
def A_wire_Reader_Left_1 : LA := [mv 8 0, Wc 9 8, Wf 10 2 9, Wl 11 10, mv 12 0, Wc 13 12, Wf 14 1 13, Wl 15 14, Wb 16 .sub 11 15, mv 2 16]
def A_wire_Reader_Left : ACode := (.seq (.ops [Wm 2 0]) (.seq (.seq (.ops A_wire_Reader_Left_0) (.cond (.t 7) (.seq (.ops [Wm 2 0]) .ret) .skip)) (.seq (.alts [8, 9, 10, 11, 12, 13, 14, 15, 16, 2] [A_wire_Reader_Left_1]) .ret)))
def R_wire_Reader_Left : List ARes := [.tmp 2]
theorem C_wire_Reader_Left : compF Tryz.prog Tryz.f191 = some (A_wire_Reader_Left, R_wire_Reader_Left) := by kernel_rfl
theorem K_wire_Reader_Left {md : Bool} {args : List AV} {h : Hp} {Q : Res → Hp → Prop} (hl : LCode Tryz.prog md A_wire_Reader_Left (EndQ R_wire_Reader_Left Q) (env0 17 args) h) (hn : args.length ≤ 17 := by (simp; done)) : CallL Tryz.prog F_wire_Reader_Left args h Q :=
 CallL.of (md := md) Tryz.func191 C_wire_Reader_Left (by rw [Tryz.ntmps191]; exact hn) (by rw [Tryz.ntmps191]; exact hl)
abbrev F_wire_Reader_Err : Nat := 194
def A_wire_Reader_Err_0 : LA := [Wm 2 0, Wm 3 0]
def A_wire_Reader_Err_1 : LA := [mv 4 0, Wc 5 4, Wf 6 3 5, Wl 7 6, Wi 8 .eql 7 0]
def A_wire_Reader_Err_2 : LA := [Wm 2 0, Wm 3 0]
def A_wire_Reader_Err_3 : LA := [mv 9 0, Wc 10 9, Wf 11 3 10, Wl 12 11, mv 13 0, Wc 14 13, Wf 15 4 14, Wl 16 15, mv 2 12, mv 3 16]
def A_wire_Reader_Err : ACode := (.seq (.ops A_wire_Reader_Err_0) (.seq (.seq (.ops A_wire_Reader_Err_1) (.cond (.t 8) (.seq (.ops A_wire_Reader_Err_2) .ret) .skip)) (.seq (.alts [9, 10, 11, 12, 13, 14, 15, 16, 2, 3] [A_wire_Reader_Err_3]) .ret)))
def R_wire_Reader_Err : List ARes := [.tmp 2, .tmp 3]
theorem C_wire_Reader_Err : compF Tryz.prog Tryz.f194 = some (A_wire_Reader_Err, R_wire_Reader_Err) := by kernel_rfl
theorem K_wire_Reader_Err {md : Bool} {args : List AV} {h : Hp} {Q : Res → Hp → Prop} (hl : LCode Tryz.prog md A_wire_Reader_Err (EndQ R_wire_Reader_Err Q) (env0 17 args) h) (hn : args.length ≤ 17 := by (simp; done)) : CallL Tryz.prog F_wire_Reader_Err args h Q :=
 CallL.of (md := md) Tryz.func194 C_wire_Reader_Err (by rw [Tryz.ntmps194]; exact hn) (by rw [Tryz.ntmps194]; exact hl)
abbrev F_wire_Fields : Nat := 143
def A_wire_Fields_0 : LA := [o_ 3 (.box 3 1 (.t 1)), o_ 4 (.mov (.c (.nilf)))]
def A_wire_Fields_1 : LA := [mv 6 0, o_ 7 (.call 38 [(.t 6)]), o_ 5 (.box 47 1 (.c (.nils))), Wt 1 5 7]
def A_wire_Fields_2 : LA := [o_ 8 (.mkfn 196 [] [(.t 5), (.t 3)]), mv 4 8]
def A_wire_Fields : ACode := (.seq (.ops A_wire_Fields_0) (.seq (.ops A_wire_Fields_1) (.seq (.ops A_wire_Fields_2) .ret)))
def R_wire_Fields : List ARes := [.tmp 4]
theorem C_wire_Fields : compF Tryz.prog Tryz.f143 = some (A_wire_Fields, R_wire_Fields) := by kernel_rfl
theorem K_wire_Fields {md : Bool} {args : List AV} {h : Hp} {Q : Res → Hp → Prop} (hl : LCode Tryz.prog md A_wire_Fields (EndQ R_wire_Fields Q) (env0 9 args) h) (hn : args.length ≤ 9 := by (simp; done)) : CallL Tryz.prog F_wire_Fields args h Q :=
 CallL.of (md := md) Tryz.func143 C_wire_Fields (by rw [Tryz.ntmps143]; exact hn) (by rw [Tryz.ntmps143]; exact hl)
abbrev F_wire_Fields_c1 : Nat := 196
def A_wire_Fields_c1_0 : LA := [Wl 7 1, o_ 8 (.call 190 [(.t 7)]), mv 4 8]
def A_wire_Fields_c1_1 : LA := [mv 9 4, o_ 10 (.call 191 [(.t 9)]), Wi 11 .gtr 10 0]
def A_wire_Fields_c1_2 : LA := [mv 13 4, Wl 14 2, o_ 15 (.call 197 [(.t 13), (.t 14)]), mv 12 15, Wx 16 0 12, Wx 17 1 12, o_ 5 (.box 267 5 (.c (.agg [.int .i32 (0), .int .u8 (0), .int .i64 (0), .int .u64 (0), .nils]))), Wt 5 5 16, mv 6 17]
def A_wire_Fields_c1_3 : LA := [mv 18 6, o_ 19 (.not (.t 18)), mv 20 19, Whm 21 0 20, Wh 22 (.lda 5 (.t 5)) 20, Wh 23 (.callv (.t 21) [(.t 22)]) 20, Wh 24 (.not (.t 23)) 20, Wq 25 20 24]
def A_wire_Fields_c1_4 : ACode := (.seq (.seq (.ops A_wire_Fields_c1_1) (.cond (.t 11) .skip (.exit 0))) (.block 1 (.seq (.ops A_wire_Fields_c1_2) (.seq (.ops A_wire_Fields_c1_3) (.cond (.t 25) .ret .skip)))))
def A_wire_Fields_c1 : ACode := (.seq (.ops A_wire_Fields_c1_0) (.block 0 (.loop A_wire_Fields_c1_4)))
def R_wire_Fields_c1 : List ARes := []
theorem C_wire_Fields_c1 : compF Tryz.prog Tryz.f196 = some (A_wire_Fields_c1, R_wire_Fields_c1) := by kernel_rfl
theorem K_wire_Fields_c1 {md : Bool} {args : List AV} {h : Hp} {Q : Res → Hp → Prop} (hl : LCode Tryz.prog md A_wire_Fields_c1 (EndQ R_wire_Fields_c1 Q) (env0 26 args) h) (hn : args.length ≤ 26 := by (simp; done)) : CallL Tryz.prog F_wire_Fields_c1 args h Q :=
 CallL.of (md := md) Tryz.func196 C_wire_Fields_c1 (by rw [Tryz.ntmps196]; exact hn) (by rw [Tryz.ntmps196]; exact hl)
abbrev F_dyn_checker_unknown : Nat := 100
def A_dyn_checker_unknown_0 : LA := [o_ 6 (.box 116 1 (.t 1)), o_ 8 (.box 9 1 (.t 3)), o_ 10 (.box 157 1 (.c (.nilp)))]
def A_dyn_checker_unknown_1 : LA := [mv 17 2, mv 18 4, o_ 19 (.bini .sub (i_ 100) (.t 18)), o_ 20 (.call 142 [(.t 17), (.t 19)]), mv 16 20, Wx 21 0 16, Wx 22 1 16, mv 11 21, mv 12 22]
def A_dyn_checker_unknown_2 : LA := [mv 23 11, Wi 24 .neq 23 0]
def A_dyn_checker_unknown_3 : LA := [Wl 25 8, o_ 26 (.build [.int .i64 (0), .str []] [(0, 1, (i_ 106)), (1, 1, (.t 25))]), o_ 27 (.box 160 2 (.t 26)), Wt 1 10 27]
def A_dyn_checker_unknown_4 : LA := [mv 28 2, mv 29 4, o_ 30 (.bini .sub (i_ 100) (.t 29)), o_ 31 (.call 143 [(.t 28), (.t 30)])]
def A_dyn_checker_unknown_5 : LA := [o_ 13 (.box 267 5 (.c (.agg [.int .i32 (0), .int .u8 (0), .int .i64 (0), .int .u64 (0), .nils]))), Wt 5 13 32]
def A_dyn_checker_unknown_6 : LA := [Wl 34 6, Wf 35 0 13, Wl 36 35, o_ 37 (.call 35 [(.t 34), (.t 36)]), mv 33 37, Wx 38 0 33, Wx 39 1 33, o_ 14 (.box 120 9 (.c (.agg [.int .i32 (0), .str [], .str [], .int .u8 (0), .int .u8 (0), .int .u8 (0), .bool false, .int .i64 (0), .str []]))), Wt 9 14 38, mv 15 39]
def A_dyn_checker_unknown_7 : LA := [mv 40 15, mv 41 40, g_ 42 (.lda 9 (.t 14)) 41, Wgf 43 1 13 41, Wgl 44 43 41, g_ 45 (.call 144 [(.t 42), (.t 44)]) 41, Wp 46 41 45]
def A_dyn_checker_unknown_8 : LA := [Wl 47 8, o_ 48 (.build [.int .i64 (0), .str []] [(0, 1, (i_ 106)), (1, 1, (.t 47))]), o_ 49 (.box 160 2 (.t 48)), Wt 1 10 49]
def A_dyn_checker_unknown : ACode := (.seq (.ops A_dyn_checker_unknown_0) (.seq (.seq (.ops A_dyn_checker_unknown_1) (.seq (.ops A_dyn_checker_unknown_2) (.cond (.t 24) (.seq (.ops A_dyn_checker_unknown_3) .ret) .skip))) (.seq (.seq (.ops A_dyn_checker_unknown_4) (.block 0 (.rngf (.t 31) [32] (.ops A_dyn_checker_unknown_5) (.block 1 (.seq (.ops A_dyn_checker_unknown_6) (.seq (.ops A_dyn_checker_unknown_7) (.cond (.t 46) (.seq (.ops A_dyn_checker_unknown_8) .ret) .skip))))))) (.seq (.ops [n_ (.st 1 (.t 10) (.c (.nilp)))]) .ret))))
def R_dyn_checker_unknown : List ARes := [.cell1 10]
theorem C_dyn_checker_unknown : compF Tryz.prog Tryz.f100 = some (A_dyn_checker_unknown, R_dyn_checker_unknown) := by kernel_rfl
end Go.Proofs.YtghlipffncbagaaGreatDoor

namespace Go.Proofs.YtghlipffncbagaaGreatDoor
open Go.L
abbrev TR : TypeId := 357
abbrev rd0 : List AV := [.nils, .int .i64 0, .int .i64 0, .int .i64 0, .int .i64 0]
theorem gr_del {h H : Hp} {i : Nat} (g : Gr h H) (hi : h.u i = false) : Gr h (H.del i) := ⟨fun x hx => (Hp.del_ne (ne_of_u hx hi)).trans (g.m x hx), fun x hx => by rw [Hp.del_u]; exact g.u x hx⟩
theorem Clone0_L (h : Hp) : CallL Tryz.prog F_slices_Clone [.nils] h fun r h' => r = .ret .nils ∧ h' = h := by
 refine K_slices_Clone (md := false) ?_
 exact ⟨rfl, rfl, rfl⟩
theorem NewRd0_L (h : Hp) : CallL Tryz.prog F_wire_NewReader [.nils] h fun r h' => ∃ R, r = .ret (.ptr R 0 0) ∧ h.u R = false ∧ h' = h.set R (.row TR [rd0]) := by
 refine K_wire_NewReader (md := false) ?_
 refine (Clone0_L h).mono ?_
 rintro r h' ⟨rfl, rfl⟩
 refine ⟨_, rfl, ?_⟩
 refine ⟨rfl, rfl, fun R hR => ?_⟩
 exact ⟨rfl, R, rfl, hR.1, rfl⟩
theorem Left0_L {R : Nat} {h : Hp} (hR : h R = some (.row TR [rd0])) : CallL Tryz.prog F_wire_Reader_Left [.ptr R 0 0] h fun r h' => r = .ret (.int .i64 0) ∧ h' = h := by
 refine K_wire_Reader_Left (md := false) ?_
 refine ⟨_, _, _, _, hR, rfl, rfl, ?_⟩
 refine s_ne (fun h3 => absurd rfl h3) (fun _ => ?_)
 refine ⟨_, _, _, _, hR, rfl, rfl, ?_⟩
 refine ⟨_, _, _, _, hR, rfl, rfl, ?_⟩
 refine s_nat 0 rfl (by omega) ?_
 exact ⟨rfl, rfl, rfl⟩
theorem Err0_L {R : Nat} {h : Hp} (hR : h R = some (.row TR [rd0])) : CallL Tryz.prog F_wire_Reader_Err [.ptr R 0 0] h fun r h' => r = .ret (.tup [.int .i64 0, .int .i64 0]) ∧ h' = h := by
 refine K_wire_Reader_Err (md := false) ?_
 refine ⟨_, _, _, _, hR, rfl, rfl, ?_⟩
 refine s_eq (fun _ => ?_) (fun h3 => absurd rfl h3)
 exact ⟨rfl, rfl, rfl⟩
theorem Check0_L (n : Int) (h : Hp) : CallL Tryz.prog F_wire_Check [.nils, .int .i64 n] h fun r h' => r = .ret (.tup [.int .i64 0, .int .i64 0]) ∧ Gr h h' := by
 refine K_wire_Check (md := false) ?_
 refine (NewRd0_L h).mono ?_
 rintro r h1 ⟨R, rfl, hR, rfl⟩
 have hr : (h.set R (.row TR [rd0])) R = some (.row TR [rd0]) := Hp.set_same _ _ _
 have g := (Gr.refl h).set hR (.row TR [rd0])
 generalize h.set R (.row TR [rd0]) = h1 at hr g
 refine s_blk (id := 0) (fun e' h' => h' = h1 ∧ e'.ds = [] ∧ Has e' [(6, .ptr R 0 0)]) ?_ ?_
 ·refine s_loop 0 (fun k (_ : Unit) => k ≤ 0) (fun _ _ => [(6, .ptr R 0 0)]) (fun _ _ => h1) () (Nat.le_refl _) rfl rfl ⟨rfl, trivial⟩ (fun k _ hI => hI) ?_
  rintro k ⟨⟩ n1 g1 hk _
  refine (Left0_L hr).mono ?_
  rintro r h' ⟨rfl, rfl⟩
  refine s_lt (fun (h3 : (0 : Int) < 0) => absurd h3 (by decide)) (fun _ => ?_)
  exact ⟨rfl, rfl, rfl, trivial⟩
 ·rintro e' h' ⟨rfl, hd, hh⟩
  obtain ⟨n1, g1, rfl⟩ := hh.out hd
  refine (Err0_L hr).mono ?_
  rintro r h' ⟨rfl, rfl⟩
  refine ⟨_, rfl, _, rfl, ?_⟩
  exact ⟨rfl, rfl, g⟩
theorem Has_Fields1 : HasBody Tryz.prog F_wire_Fields_c1 := ⟨_, Tryz.func196, by kernel_rfl, by kernel_rfl⟩
theorem Fields0_L (n : Int) (h : Hp) : CallL Tryz.prog F_wire_Fields [.nils, .int .i64 n] h fun r h' => ∃ a b, r = .ret (.func (.func F_wire_Fields_c1) [] [.ptr a 0 0, .ptr b 0 0]) ∧ h' a = some (.row 47 [[.nils]]) ∧ Gr h h' := by
 refine K_wire_Fields (md := false) ?_
 refine ⟨rfl, rfl, fun b hb => ?_⟩
 refine (Clone0_L _).mono ?_
 rintro r h' ⟨rfl, rfl⟩
 refine ⟨rfl, rfl, fun a ha => ?_⟩
 refine ⟨_, _, _, Hp.set_same _ _ _, rfl, rfl, rfl, rfl, by show 1 ≤ 1; decide, ?_⟩
 have g1 := (Gr.refl h).set hb.1 (.row 3 [[.int .i64 n]])
 exact ⟨rfl, a, b, rfl, Hp.set_same _ _ _, (g1.set (g1.new ha.1) _).set (g1.new ha.1) _⟩
theorem Fields1_L (j : Nat) {a b : Nat} {h : Hp} (ha : h a = some (.row 47 [[.nils]])) : CallL Tryz.prog F_wire_Fields_c1 [.yld j, .ptr a 0 0, .ptr b 0 0] h fun r h' => r = .ret (.tup []) ∧ Gr h h' := by
 refine K_wire_Fields_c1 (md := false) ?_
 refine ⟨_, _, _, _, ha, rfl, rfl, ?_⟩
 refine (NewRd0_L h).mono ?_
 rintro r h1 ⟨R, rfl, hR, rfl⟩
 have hr : (h.set R (.row TR [rd0])) R = some (.row TR [rd0]) := Hp.set_same _ _ _
 have g := (Gr.refl h).set hR (.row TR [rd0])
 generalize h.set R (.row TR [rd0]) = h1 at hr g
 refine s_blk (id := 0) (fun e' h' => h' = h1 ∧ e'.ds = []) ?_ ?_
 ·refine s_loop 0 (fun k (_ : Unit) => k ≤ 0) (fun _ _ => [(4, .ptr R 0 0)]) (fun _ _ => h1) () (Nat.le_refl _) rfl rfl ⟨rfl, trivial⟩ (fun k _ hI => hI) ?_
  rintro k ⟨⟩ n1 g1 hk _
  refine (Left0_L hr).mono ?_
  rintro r h' ⟨rfl, rfl⟩
  refine s_lt (fun (h3 : (0 : Int) < 0) => absurd h3 (by decide)) (fun _ => ?_)
  exact ⟨rfl, rfl⟩
 ·rintro e' h' ⟨rfl, hd⟩
  exact ⟨hd, rfl, g⟩
set_option maxHeartbeats 1000000 in
theorem unknown0_L (c t : Nat) (h : Hp) : CallL Tryz.prog F_dyn_checker_unknown [.ptr c 0 0, .ptr t 0 0, .nils, .str [], .int .i64 1] h fun r h' => r = .ret .nilp ∧ Gr h h' := by
 refine CallL.ofD (md := false) Tryz.func100 C_dyn_checker_unknown (by rw [Tryz.ntmps100]; exact (show 5 ≤ 50 by decide)) ?_
 rw [Tryz.ntmps100]
 refine ⟨rfl, rfl, fun b6 h6 => ?_⟩
 refine ⟨rfl, rfl, fun b8 h8 => ?_⟩
 refine ⟨rfl, rfl, fun b10 h10 => ?_⟩
 have g1 := (Gr.refl h).set h6.1 (.row 116 [[.ptr t 0 0]])
 have g2 := g1.set (g1.new h8.1) (.row 9 [[.str []]])
 have g3 := g2.set (g2.new h10.1) (.row 157 [[.nilp]])
 have n10 := g2.new h10.1
 have r10 : (((h.set b6 (.row 116 [[.ptr t 0 0]])).set b8 (.row 9 [[.str []]])).set b10 (.row 157 [[.nilp]])) b10 = some (.row 157 [[.nilp]]) := Hp.set_same _ _ _
 refine s_nat 99 rfl (by decide) ?_
 refine (Check0_L 99 _).mono ?_
 rintro r h1 ⟨rfl, ga⟩
 refine ⟨_, rfl, _, rfl, ?_⟩
 refine s_ne (fun h3 => absurd rfl h3) (fun _ => ?_)
 refine s_nat 99 rfl (by decide) ?_
 refine (Fields0_L 99 _).mono ?_
 rintro r h2 ⟨a, b, rfl, ha, gb⟩
 refine ⟨Has_Fields1, fun i hi => fun j hj => ?_⟩
 have gc := (Gr.refl h2).set hi.1 .dfr
 have q10 : h2 b10 = some (.row 157 [[.nilp]]) := gb.blk (ga.blk r10)
 have g32 := g3.trans (ga.trans gb)
 have hij : i ≠ j := ne_of_u (by simp) hj.1
 have nj := gc.new hj.1
 refine (Fields1_L j ((Hp.set_ne (ne_of_u (gc.u _ (Hp.used ha)) hj.1)).trans (gc.blk ha))).mono ?_
 rintro r h3 ⟨rfl, gd⟩
 refine ⟨none, _, _, _, _, _, _, gd.blk (Hp.set_same _ _ _), ⟨by simp, rfl⟩, .inl ?_⟩
 have gj := (gc.set nj _).trans gd
 have e10 : ∀ b, (h3.set j b) b10 = some (.row 157 [[.nilp]]) := fun b => (Hp.set_ne (ne_of_u (Hp.used q10) nj)).trans (gj.blk q10)
 refine ⟨_, _, _, e10 _, rfl, rfl, rfl, rfl, by show 1 ≤ 1; decide, ?_⟩
 have hib : i ≠ b10 := (ne_of_u (Hp.used q10) hi.1).symm
 refine ⟨(Hp.set_ne hib).trans ((Hp.set_ne hij).trans (gd.blk ((Hp.set_ne hij).trans (Hp.set_same _ _ _)))), ?_⟩
 refine ⟨_, _, _, _, (Hp.del_ne hib.symm).trans (Hp.set_same _ _ _), rfl, rfl, ?_⟩
 exact ⟨rfl, gr_del ((g32.trans (gj.set nj _)).set n10 _) (g32.new hi.1)⟩
end Go.Proofs.YtghlipffncbagaaGreatDoor

namespace Go.Proofs.YtghlipffncbagaaGreatDoor
open Go.L
abbrev F_dyn_kinds : Nat := 52
abbrev F_table_Set_Table : Nat := 306
abbrev F_dyn_checker_message : Nat := 53
def A_dyn_checker_message_0 : LA := [o_ 5 (.box 55 3 (.t 1)), o_ 8 (.mov (.c (.nilp)))]
def A_dyn_checker_message_1 : LA := [mv 18 3, Wi 19 .gtr 18 100]
def A_dyn_checker_message_2 : LA := [mv 20 2, o_ 21 (.build [.int .i64 (0), .str []] [(0, 1, (i_ 104)), (1, 1, (.t 20))]), o_ 22 (.box 160 2 (.t 21)), mv 8 22]
def A_dyn_checker_message_3 : LA := [mv 24 0, Wc 25 24, Wf 26 0 25, Wl 27 26, Wf 28 0 5, Wl 29 28, o_ 30 (.inv [(29, 306)] (.t 27) [(.t 29)]), mv 23 30, Wx 31 0 23, Wx 32 1 23, mv 9 31, mv 10 32]
def A_dyn_checker_message_4 : LA := [mv 33 10, Wi 34 .neq 33 0]
def A_dyn_checker_message_5 : LA := [mv 35 2, o_ 36 (.build [.int .i64 (0), .str []] [(0, 1, (i_ 100)), (1, 1, (.t 35))]), o_ 37 (.box 160 2 (.t 36)), mv 8 37]
def A_dyn_checker_message_6 : LA := [o_ 38 (.mkmap), mv 11 38]
def A_dyn_checker_message_7 : LA := [Wf 39 1 5, Wl 40 39, We 41 40, Wm 42 0]
def A_dyn_checker_message_8 : LA := [mv 44 42, Wa 45 52 3 40 42, Wd 46 3 45, o_ 13 (.box 52 3 (.c (.agg [.int .i32 (0), .nils, .nils]))), mv 12 44, Wt 3 13 46]
def A_dyn_checker_message_9 : LA := [mv 48 9, Wf 49 0 13, Wl 50 49, o_ 51 (.call 35 [(.t 48), (.t 50)]), mv 47 51, Wx 52 0 47, Wx 53 1 47, o_ 14 (.box 120 9 (.c (.agg [.int .i32 (0), .str [], .str [], .int .u8 (0), .int .u8 (0), .int .u8 (0), .bool false, .int .i64 (0), .str []]))), Wt 9 14 52, mv 15 53]
def A_dyn_checker_message_10 : LA := [mv 54 2, Wf 55 1 14, Wl 56 55, o_ 57 (.call 97 [(.t 54), (.t 56)]), mv 16 57]
def A_dyn_checker_message_11 : LA := [mv 58 15, o_ 59 (.not (.t 58))]
def A_dyn_checker_message_12 : LA := [mv 60 2, Wf 61 0 13, Wl 62 61, o_ 63 (.conv .i64 (.t 62)), o_ 64 (.call 98 [(.t 63)]), o_ 65 (.bins .add (.c (.str [35])) (.t 64)), o_ 66 (.call 97 [(.t 60), (.t 65)]), mv 16 66]
def A_dyn_checker_message_13 : LA := [mv 68 12, Wi 69 .gtr 68 0, mv 70 69, Wgf 71 0 13 70, Wgl 72 71 70, Wgf 73 1 5 70, Wgl 74 73 70, Wgm 75 12 70, g_ 76 (.bini .sub (.t 75) (i_ 1)) 70, g_ 77 (.iaddr 52 3 (.t 74) (.t 76)) 70, Wgf 78 0 77 70, Wgl 79 78 70, g_ 80 (.bini .leq (.t 72) (.t 79)) 70, Wp 81 70 80, mv 67 81]
def A_dyn_checker_message_14 : LA := [mv 82 16, o_ 83 (.build [.int .i64 (0), .str []] [(0, 1, (i_ 106)), (1, 1, (.t 82))]), o_ 84 (.box 160 2 (.t 83)), mv 8 84]
def A_dyn_checker_message_15 : LA := [mv 86 15, o_ 87 (.not (.t 86)), mv 85 87]
def A_dyn_checker_message_16 : LA := [mv 88 16, o_ 89 (.build [.int .i64 (0), .str []] [(0, 1, (i_ 101)), (1, 1, (.t 88))]), o_ 90 (.box 160 2 (.t 89)), mv 8 90]
def A_dyn_checker_message_17 : LA := [Wf 92 7 14, Wl 93 92, Wi 94 .gtr 93 0, mv 95 94, Wgm 96 11 95, Wgf 97 7 14 95, Wgl 98 97 95, g_ 99 (.mlook .i (.int .i32 0) false (.t 96) (.t 98)) 95, g_ 100 (.bini .gtr (.t 99) (.c (.int .i32 0))) 95, Wp 101 95 100, mv 91 101]
def A_dyn_checker_message_18 : LA := [mv 102 16, o_ 103 (.build [.int .i64 (0), .str []] [(0, 1, (i_ 105)), (1, 1, (.t 102))]), o_ 104 (.box 160 2 (.t 103)), mv 8 104]
def A_dyn_checker_message_19 : LA := [mv 105 11, Wf 106 7 14, Wl 107 106, Wf 108 0 13, Wl 109 108, n_ (.mupd .i (.t 105) (.t 107) (.t 109))]
def A_dyn_checker_message_20 : LA := [mv 110 0, Wd 111 9 14, Wd 112 3 13, mv 113 16, mv 114 3, o_ 115 (.call 99 [(.t 110), (.t 111), (.t 112), (.t 113), (.t 114)]), mv 17 115]
def A_dyn_checker_message_21 : LA := [mv 116 17, o_ 117 (.isnil .pt true (.t 116))]
def A_dyn_checker_message_22 : LA := [mv 118 17, mv 8 118]
def A_dyn_checker_message_23 : LA := [Wi 119 .add 42 1, mv 42 119]
def A_dyn_checker_message_24 : ACode := (.seq (.ops [Wb 43 .lss 42 41]) (.seq (.cond (.t 43) .skip (.exit 0)) (.seq (.block 1 (.seq (.ops A_dyn_checker_message_8) (.seq (.ops A_dyn_checker_message_9) (.seq (.ops A_dyn_checker_message_10) (.seq (.seq (.ops A_dyn_checker_message_11) (.cond (.t 59) (.ops A_dyn_checker_message_12) .skip)) (.seq (.block 2 (.seq (.alts [68, 69, 70, 71, 72, 73, 74, 75, 76, 77, 78, 79, 80, 81, 67] [A_dyn_checker_message_13]) (.cond (.t 67) (.seq (.ops A_dyn_checker_message_14) .ret) (.seq (.ops A_dyn_checker_message_15) (.cond (.t 85) (.seq (.ops A_dyn_checker_message_16) .ret) (.seq (.ops A_dyn_checker_message_17) (.cond (.t 91) (.seq (.ops A_dyn_checker_message_18) .ret) .skip))))))) (.seq (.ops A_dyn_checker_message_19) (.seq (.ops A_dyn_checker_message_20) (.seq (.ops A_dyn_checker_message_21) (.cond (.t 117) (.seq (.ops A_dyn_checker_message_22) .ret) .skip)))))))))) (.ops A_dyn_checker_message_23))))
def A_dyn_checker_message_25 : LA := [mv 120 0, mv 121 9, Wf 122 2 5, Wl 123 122, mv 124 2, mv 125 3, o_ 126 (.call 100 [(.t 120), (.t 121), (.t 123), (.t 124), (.t 125)]), mv 8 126]
def A_dyn_checker_message : ACode := (.seq (.ops A_dyn_checker_message_0) (.seq (.seq (.ops A_dyn_checker_message_1) (.cond (.t 19) (.seq (.ops A_dyn_checker_message_2) .ret) .skip)) (.seq (.alts [24, 25, 26, 27, 28, 29, 30, 23, 31, 32, 9, 10] [A_dyn_checker_message_3]) (.seq (.seq (.ops A_dyn_checker_message_4) (.cond (.t 34) (.seq (.ops A_dyn_checker_message_5) .ret) .skip)) (.seq (.ops A_dyn_checker_message_6) (.seq (.seq (.ops A_dyn_checker_message_7) (.block 0 (.loop A_dyn_checker_message_24))) (.seq (.ops A_dyn_checker_message_25) .ret)))))))
def R_dyn_checker_message : List ARes := [.tmp 8]
theorem C_dyn_checker_message : compF Tryz.prog Tryz.f53 = some (A_dyn_checker_message, R_dyn_checker_message) := by kernel_rfl
theorem K_dyn_checker_message {md : Bool} {args : List AV} {h : Hp} {Q : Res → Hp → Prop} (hl : LCode Tryz.prog md A_dyn_checker_message (EndQ R_dyn_checker_message Q) (env0 127 args) h) (hn : args.length ≤ 127 := by (simp; done)) : CallL Tryz.prog F_dyn_checker_message args h Q :=
 CallL.of (md := md) Tryz.func53 C_dyn_checker_message (by rw [Tryz.ntmps53]; exact hn) (by rw [Tryz.ntmps53]; exact hl)
abbrev F_dyn_Check : Nat := 26
def A_dyn_Check_0 : LA := [o_ 3 (.box 55 3 (.t 1)), Wm 4 0, o_ 5 (.mov (.c (.str [])))]
def A_dyn_Check_1 : LA := [mv 8 0, o_ 9 (.call 52 []), o_ 10 (.build [.nili, .nilf, .nilf, .nilf, .nilf, .nilf, .nilf, .nilf, .nilf, .nilf, .nilf, .nilf, .nilf, .nilf, .nilf, .nilf, .nilf, .nilf, .nilf, .nilf] [(0, 1, (.t 8)), (1, 19, (.t 9))]), o_ 11 (.box 156 20 (.t 10)), mv 6 11]
def A_dyn_Check_2 : LA := [mv 12 6, Wd 13 3 3, o_ 14 (.call 53 [(.t 12), (.t 13), (.c (.str [])), (i_ 1)]), mv 7 14]
def A_dyn_Check_3 : LA := [mv 15 7, o_ 16 (.isnil .pt true (.t 15))]
def A_dyn_Check_4 : LA := [mv 17 7, Wc 18 17, Wf 19 0 18, Wl 20 19, mv 21 7, Wc 22 21, Wf 23 1 22, Wl 24 23, mv 4 20, mv 5 24]
def A_dyn_Check_5 : LA := [Wm 4 0, o_ 5 (.mov (.c (.str [])))]
def A_dyn_Check : ACode := (.seq (.ops A_dyn_Check_0) (.seq (.ops A_dyn_Check_1) (.seq (.seq (.ops A_dyn_Check_2) (.seq (.ops A_dyn_Check_3) (.cond (.t 16) (.seq (.alts [17, 18, 19, 20, 21, 22, 23, 24, 4, 5] [A_dyn_Check_4]) .ret) .skip))) (.seq (.ops A_dyn_Check_5) .ret))))
def R_dyn_Check : List ARes := [.tmp 4, .tmp 5]
theorem C_dyn_Check : compF Tryz.prog Tryz.f26 = some (A_dyn_Check, R_dyn_Check) := by kernel_rfl
theorem K_dyn_Check {md : Bool} {args : List AV} {h : Hp} {Q : Res → Hp → Prop} (hl : LCode Tryz.prog md A_dyn_Check (EndQ R_dyn_Check Q) (env0 25 args) h) (hn : args.length ≤ 25 := by (simp; done)) : CallL Tryz.prog F_dyn_Check args h Q :=
 CallL.of (md := md) Tryz.func26 C_dyn_Check (by rw [Tryz.ntmps26]; exact hn) (by rw [Tryz.ntmps26]; exact hl)
end Go.Proofs.YtghlipffncbagaaGreatDoor

namespace Go.Proofs.YtghlipffncbagaaGreatDoor
open Go.L
abbrev tvC (S : Nat) : AV := .ifc 29 (.ptr S 0 0)
abbrev kf (f : Nat) : AV := .func (.func f) [] []
abbrev kindsF : List AV := [kf 93, kf 93, kf 93, kf 93, kf 93, kf 93, kf 93, kf 93, kf 93,
 kf 95, kf 93, kf 96, kf 95, kf 93, kf 93, kf 93, kf 93, kf 93, kf 93]
abbrev esE : MapL := [(.int .i32 16, .int .i64 0, 0)]
structure GrdE (p : Bool) (s0 t0 rw0 nm0 : Nat) (os nv jv : AV) (X1 X2 : Hp) : Prop where
 tab1 : ∀ ρ H, Img ρ X1 H → CallL Tryz.prog F_table_Set_Table (mps ρ [.ptr s0 0 0, .str [78]]) H (FrQ ρ X1 X2 (.tup [.ptr t0 0 0, .int .i64 0]) H)
 tab2 : ∀ ρ H, Img ρ X2 H → CallL Tryz.prog F_table_Set_Table (mps ρ [.ptr s0 0 0, .str [78]]) H (FrQ ρ X2 X2 (.tup [.ptr t0 0 0, .int .i64 0]) H)
 u1 : X1.u s0 = true
 u2 : X2.u s0 = true
 ut : X2.u t0 = true
 t : X2 t0 = some (.row TTab [TabC (.str [78]) os (.slc rw0 0 1 none) (.map nm0) nv jv])
 rw : X2 rw0 = some (.row TRow [rowF p])
 nm : X2 nm0 = some (.map esE 1)
 kinds : ∀ H, CallL Tryz.prog F_dyn_kinds [] H fun r H' => r = .ret (.agg kindsF) ∧ Gr H H'
structure Mv (X X' : Hp) (ρ : Nat → Nat) (H : Hp) (ρ' : Nat → Nat) (H' : Hp) : Prop where
 img : Img ρ' X' H'
 same : ∀ i, X.u i = true → ρ' i = ρ i
 out : ∀ B, Out ρ X H B → H' B = H B ∧ Out ρ' X' H' B
 used : ∀ j, H.u j = true → H'.u j = true
theorem Mv.gr {X : Hp} {ρ : Nat → Nat} {H H' : Hp} (hI : Img ρ X H) (g : Gr H H') : Mv X X ρ H ρ H' := ⟨hI.gr g, fun _ _ => rfl, fun B k => ⟨g.m B k.used, k.gr g⟩, g.u⟩
theorem Mv.trans {X X1 X2 : Hp} {ρ ρ1 ρ2 : Nat → Nat} {H H1 H2 : Hp} (a : Mv X X1 ρ H ρ1 H1) (b : Mv X1 X2 ρ1 H1 ρ2 H2) (hx : ∀ i, X.u i = true → X1.u i = true) : Mv X X2 ρ H ρ2 H2 :=
 ⟨b.img, fun i hi => (b.same i (hx i hi)).trans (a.same i hi), fun B k => ⟨(b.out B (a.out B k).2).1.trans (a.out B k).1, (b.out B (a.out B k).2).2⟩, fun j h => b.used j (a.used j h)⟩
theorem frQ_mv {X X' : Hp} {ρ : Nat → Nat} {H H' : Hp} {v : AV} {r : Res} (k : FrQ ρ X X' v H r H') : ∃ ρ', r = .ret (v.mp ρ') ∧ Mv X X' ρ H ρ' H' := by
 obtain ⟨ρ', e1, e2, I, n, f, u⟩ := k
 exact ⟨ρ', e2, I, e1, fun B kB => kB.step e1 n f u, u⟩
theorem Mv.blk {X X' : Hp} {ρ ρ' : Nat → Nat} {H H' : Hp} (k : Mv X X' ρ H ρ' H') {B : Nat} (o : Out ρ X H B) {b : Blk} (hb : H B = some b) : H' B = some b := (k.out B o).1.trans hb
theorem rm_ne {h : Hp} {x y T c : Nat} {es : List (List AV)} {es' : MapL} (a : h x = some (.row T es)) (b : h y = some (.map es' c)) : x ≠ y := fun e => by subst e; rw [a] at b; cases b
section
variable {p : Bool} {s0 t0 rw0 nm0 : Nat} {os nv jv : AV} {X1 X2 : Hp}
theorem esE_like : KeysLike (.int .i32 16) esE := fun x hx => by rw [List.mem_singleton.1 hx]; rfl
theorem GrdE.find (k : GrdE p s0 t0 rw0 nm0 os nv jv X1 X2) {ρ : Nat → Nat} {H : Hp} (hI : Img ρ X2 H) : CallL Tryz.prog F_table_Table_Find [.ptr (ρ t0) 0 0, .int .i32 16] H fun r h' => r = .ret (.tup [.agg (rowF p), .bool true]) ∧ Gr H h' :=
 Find1_L (i := 0) (n := 1) (hI.blk t0 _ k.t) (hI.blk rw0 _ k.rw) (hI.blk nm0 _ k.nm) esE_like rfl rfl (by decide) rfl rfl
set_option maxHeartbeats 4000000 in
theorem cmessage_L (k : GrdE p s0 t0 rw0 nm0 os nv jv X1 X2) (hx : ∀ i, X1.u i = true → X2.u i = true) {ρ : Nat → Nat} {H : Hp} {c fb lb : Nat} {q : Option Nat} {xs : List Nat} (hI : Img ρ X1 H) (hc : H c = some (.row TCk [tvC (ρ s0) :: kindsF])) (oc : Out ρ X1 H c)
  (hf : H fb = some (.row TFV [fC (.slc lb 0 xs.length none)])) (of_ : Out ρ X1 H fb) (hl : H lb = some (.row TV (vsC xs))) (ol : Out ρ X1 H lb) (h1 : 1 ≤ xs.length) (h2 : xs.length ≤ 1000000) :
  CallL Tryz.prog F_dyn_checker_message [.ptr c 0 0, .agg [.str [78], .slc fb 0 1 q, .nils], .str [], .int .i64 1] H fun r H' => r = .ret .nilp ∧ ∃ ρ', Mv X1 X2 ρ H ρ' H' := by
 refine K_dyn_checker_message (md := false) ?_
 refine ⟨rfl, rfl, fun b5 h5 => ?_⟩
 have g1 := (Gr.refl H).set h5.1 (.row TMsg [[.str [78], .slc fb 0 1 q, .nils]])
 have r5 : (H.set b5 (.row TMsg [[.str [78], .slc fb 0 1 q, .nils]])) b5 = some (.row TMsg [[.str [78], .slc fb 0 1 q, .nils]]) := Hp.set_same _ _ _
 have o5 : Out ρ X1 (H.set b5 (.row TMsg [[.str [78], .slc fb 0 1 q, .nils]])) b5 := Out.new hI h5.1 (Hp.used r5)
 refine s_lt (fun (h3 : (100 : Int) < 1) => absurd h3 (by decide)) (fun _ => ?_)
 refine ⟨_, _, _, _, g1.blk hc, rfl, rfl, ?_⟩
 refine ⟨_, _, _, _, r5, rfl, rfl, ?_⟩
 refine (k.tab1 ρ _ (hI.gr g1)).mono ?_
 rintro r H1 hq
 obtain ⟨ρ1, rfl, m1⟩ := frQ_mv hq
 refine ⟨_, rfl, _, rfl, ?_⟩
 refine s_ne (fun h3 => absurd rfl h3) (fun _ => ?_)
 have m01 := (Mv.gr hI g1).trans m1 (fun _ h => h)
 have r5' := m1.blk o5 r5
 have rc := m01.blk oc hc
 have rf := m01.blk of_ hf
 have rl := m01.blk ol hl
 refine fun mp hmp => ?_
 have gm := (Gr.refl H1).set hmp.1 (.map [] 0)
 refine ⟨_, _, _, _, gm.blk r5', rfl, rfl, ?_⟩
 refine s_blk (id := 0) (fun e' h' => Gr H1 h' ∧ e'.ds = [] ∧ Has e' [(0, .ptr c 0 0), (2, .str []), (3, .int .i64 1), (5, .ptr b5 0 0), (9, .ptr (ρ1 t0) 0 0)]) ?_ ?_
 ·refine s_loop 1 (fun k (s : Hp) => k ≤ 1 ∧ Gr H1 s ∧ (k = 0 → s mp = some (.map [] 0))) (fun k _ => [(0, .ptr c 0 0), (2, .str []), (3, .int .i64 1), (5, .ptr b5 0 0), (9, .ptr (ρ1 t0) 0 0), (11, .map mp), (40, .slc fb 0 1 q), (41, .int .i64 1), (42, .int .i64 (k : Nat))]) (fun _ s => s) (H1.set mp (.map [] 0))
   ⟨by decide, gm, fun _ => Hp.set_same _ _ _⟩ rfl rfl ⟨rfl, rfl, rfl, rfl, rfl, rfl, rfl, rfl, rfl, trivial⟩ (fun k s hI => hI.1) ?_
  rintro k0 s n1 g0 hk ⟨_, gs, hmap⟩
  refine s_lt (fun (h3 : ((k0 : Nat) : Int) < 1) => ?_) (fun (h3 : (1 : Int) ≤ (k0 : Nat)) => ?_)
  ·obtain rfl : k0 = 0 := by omega
   have rm := hmap rfl
   refine ⟨0, rfl, by decide, ⟨_, gs.blk rf⟩, ?_⟩
   refine ⟨_, _, _, gs.blk rf, rfl, by show 3 ≤ 3; decide, ?_⟩
   refine ⟨rfl, rfl, fun b13 h13 => ?_⟩
   refine ⟨_, _, _, Hp.set_same _ _ _, rfl, rfl, rfl, rfl, by show 3 ≤ 3; decide, ?_⟩
   have g13 := ((Gr.refl s).set h13.1 (.row TFV [[.int .i32 0, .nils, .nils]])).set h13.1 (.row TFV [fC (.slc lb 0 xs.length none)])
   have r13 : ((s.set b13 (.row TFV [[.int .i32 0, .nils, .nils]])).set b13 (.row TFV [fC (.slc lb 0 xs.length none)])) b13 = some (.row TFV [fC (.slc lb 0 xs.length none)]) := Hp.set_same _ _ _
   refine ⟨_, _, _, _, r13, rfl, rfl, ?_⟩
   refine (k.find (m1.img.gr (gs.trans g13))).mono ?_
   rintro r s2 ⟨rfl, g2⟩
   refine ⟨_, rfl, _, rfl, ?_⟩
   refine ⟨rfl, rfl, fun b14 h14 => ?_⟩
   refine ⟨_, _, _, Hp.set_same _ _ _, rfl, rfl, rfl, rfl, by show 9 ≤ 9; decide, ?_⟩
   have g14 := ((Gr.refl s2).set h14.1 (.row TRow [row0])).set h14.1 (.row TRow [rowF p])
   have r14 : ((s2.set b14 (.row TRow [row0])).set b14 (.row TRow [rowF p])) b14 = some (.row TRow [rowF p]) := Hp.set_same _ _ _
   have r13' := g14.blk (g2.blk r13)
   have rm' := g14.blk (g2.blk (g13.blk rm))
   have ga := gs.trans (g13.trans (g2.trans g14))
   refine ⟨_, _, _, _, r14, rfl, rfl, ?_⟩
   refine (below_L [102]).use ?_
   refine s_lt (fun (h4 : (0 : Int) < 0) => absurd h4 (by decide)) (fun _ => ?_)
   refine ⟨_, _, _, _, r14, rfl, rfl, ?_⟩
   refine s_lt (fun (h4 : (0 : Int) < 0) => absurd h4 (by decide)) (fun _ => ?_)
   refine ⟨_, _, _, _, r14, rfl, rfl, ?_⟩
   refine ⟨_, _, _, _, r13', rfl, rfl, ?_⟩
   refine ⟨[], 0, rm', rfl, (fun x hx => by cases hx), fun r hr => ?_⟩
   obtain rfl : r = none := hr
   have nmp : H1.u mp = false := hmp.1
   have gb := ga.set nmp (.map ([] ++ [(.int .i64 0, .int .i32 16, 0)]) (0 + 1))
   have hm14 : b14 ≠ mp := rm_ne r14 rm'
   have hm13 : b13 ≠ mp := rm_ne r13' rm'
   refine ⟨_, _, _, (Hp.set_ne hm14).trans r14, rfl, by show 9 ≤ 9; decide, ?_⟩
   refine ⟨_, _, _, (Hp.set_ne hm13).trans r13', rfl, by show 3 ≤ 3; decide, ?_⟩
   refine (cfield_L (gb.blk rc) rfl (gb.blk rl) h1 h2 (by decide)).mono ?_
   rintro r s3 ⟨rfl, g3⟩
   refine s_nat 1 rfl (by decide) ?_
   exact ⟨s3, by decide, ⟨by decide, gb.trans g3, fun h => by cases h⟩, rfl, rfl, rfl, rfl, rfl, rfl, rfl, rfl, rfl, rfl, rfl, trivial⟩
  ·exact ⟨gs, rfl, rfl, rfl, rfl, rfl, rfl, trivial⟩
 ·rintro e' h' ⟨g, hd, hh⟩
  obtain ⟨n1, g0, rfl⟩ := hh.out hd
  refine ⟨_, _, _, _, g.blk r5', rfl, rfl, ?_⟩
  refine (unknown0_L c (ρ1 t0) _).mono ?_
  rintro r H3 ⟨rfl, g3⟩
  exact ⟨rfl, rfl, ρ1, m01.trans (Mv.gr m1.img (g.trans g3)) hx⟩
end
end Go.Proofs.YtghlipffncbagaaGreatDoor

namespace Go.Proofs.YtghlipffncbagaaGreatDoor
open Go.L
abbrev F_dyn_implicit : Nat := 54
def A_dyn_implicit_0 : LA := [o_ 1 (.box 120 9 (.t 0)), Wo 2 false]
def A_dyn_implicit_1 : LA := [Wf 3 3 1, Wl 4 3, o_ 5 (.bini .eql (.t 4) (.c (.int .u8 1))), mv 6 5, Wgf 7 4 1 6, Wgl 8 7 6, g_ 9 (.bini .neq (.t 8) (.c (.int .u8 11))) 6, Wp 10 6 9, mv 11 10, Wgf 12 7 1 11, Wgl 13 12 11, g_ 14 (.bini .eql (.t 13) (i_ 0)) 11, Wp 15 11 14, mv 2 15]
def A_dyn_implicit : ACode := (.seq (.ops A_dyn_implicit_0) (.seq (.ops A_dyn_implicit_1) .ret))
def R_dyn_implicit : List ARes := [.tmp 2]
theorem C_dyn_implicit : compF Tryz.prog Tryz.f54 = some (A_dyn_implicit, R_dyn_implicit) := by kernel_rfl
theorem K_dyn_implicit {md : Bool} {args : List AV} {h : Hp} {Q : Res → Hp → Prop} (hl : LCode Tryz.prog md A_dyn_implicit (EndQ R_dyn_implicit Q) (env0 16 args) h) (hn : args.length ≤ 16 := by (simp; done)) : CallL Tryz.prog F_dyn_implicit args h Q :=
 CallL.of (md := md) Tryz.func54 C_dyn_implicit (by rw [Tryz.ntmps54]; exact hn) (by rw [Tryz.ntmps54]; exact hl)
abbrev F_dyn_values : Nat := 56
def A_dyn_values_0 : LA := [mv 9 0, We 10 9, Wm 11 0]
def A_dyn_values_1 : LA := [Wa 13 46 3 9 11, Wd 14 3 13, o_ 5 (.box 46 3 (.c (.agg [.int .u64 (0), .str [], .nils]))), Wt 3 5 14]
def A_dyn_values_2 : LA := [Wf 15 0 5, Wl 16 15, Wf 17 1 5, Wl 18 17, o_ 19 (.build [.int .u64 (0), .str [], .nils] [(0, 1, (.t 16)), (1, 1, (.t 18))]), o_ 6 (.box 46 3 (.c (.agg [.int .u64 (0), .str [], .nils]))), Wt 3 6 19]
def A_dyn_values_3 : LA := [Wf 20 2 5, Wl 21 20, We 22 21, Wm 23 0]
def A_dyn_values_4 : LA := [Wa 25 55 3 21 23, Wd 26 3 25, o_ 8 (.box 55 3 (.c (.agg [.str [], .nils, .nils]))), Wt 3 8 26]
def A_dyn_values_5 : LA := [Wf 27 2 6, Wl 28 27, Wd 29 3 8, o_ 30 (.acall 101 [(.t 29)]), o_ 31 (.bslice 55 3 1 [.str [], .nils, .nils] [(0, 3, (.t 30))]), o_ 32 (.app 55 3 64 (.t 28) (.t 31)), Wf 33 2 6, Wt 1 33 32]
def A_dyn_values_6 : LA := [Wf 27 2 6, Wl 28 27, Wd 29 3 8, o_ 30 (.pcall 101 [(.t 29)]), o_ 31 (.fslice 55 3 1 [.str [], .nils, .nils] [(0, 3, (.t 30))]), o_ 32 (.app 55 3 64 (.t 28) (.t 31)), Wf 33 2 6, Wt 1 33 32]
def A_dyn_values_7 : LA := [Wf 27 2 6, Wd 29 3 8, Wl 28 27, o_ 30 (.call 101 [(.t 29)]), o_ 31 (.bslice 55 3 1 [.str [], .nils, .nils] [(0, 3, (.t 30))]), o_ 32 (.app 55 3 64 (.t 28) (.t 31)), Wf 33 2 6, Wt 1 33 32]
def A_dyn_values_8 : LA := [Wf 27 2 6, Wd 29 3 8, o_ 30 (.call 101 [(.t 29)]), Wl 28 27, o_ 31 (.bslice 55 3 1 [.str [], .nils, .nils] [(0, 3, (.t 30))]), o_ 32 (.app 55 3 64 (.t 28) (.t 31)), Wf 33 2 6, Wt 1 33 32]
def A_dyn_values_9 : LA := [Wi 34 .add 23 1, mv 23 34]
def A_dyn_values_10 : ACode := (.seq (.ops [Wb 24 .lss 23 22]) (.seq (.cond (.t 24) .skip (.exit 2)) (.seq (.block 3 (.seq (.ops A_dyn_values_4) (.orr (.alts [27, 28, 29, 30, 31, 32, 33] [A_dyn_values_5]) (.orr (.alts [27, 28, 29, 30, 31, 32, 33] [A_dyn_values_6]) (.alts [27, 28, 29, 30, 31, 32, 33] [A_dyn_values_7, A_dyn_values_8]))))) (.ops A_dyn_values_9))))
def A_dyn_values_11 : LA := [mv 35 3, Wd 36 3 6, o_ 37 (.bslice 46 3 1 [.int .u64 (0), .str [], .nils] [(0, 3, (.t 36))]), o_ 38 (.app 46 3 48 (.t 35) (.t 37)), mv 3 38]
def A_dyn_values_12 : LA := [Wi 39 .add 11 1, mv 11 39]
def A_dyn_values_13 : ACode := (.seq (.ops [Wb 12 .lss 11 10]) (.seq (.cond (.t 12) .skip (.exit 0)) (.seq (.block 1 (.seq (.ops A_dyn_values_1) (.seq (.ops A_dyn_values_2) (.seq (.seq (.ops A_dyn_values_3) (.block 2 (.loop A_dyn_values_10))) (.ops A_dyn_values_11))))) (.ops A_dyn_values_12))))
def A_dyn_values_14 : LA := [mv 40 3, mv 2 40]
def A_dyn_values : ACode := (.seq (.ops [Wn 2]) (.seq (.ops [Wn 3]) (.seq (.seq (.ops A_dyn_values_0) (.block 0 (.loop A_dyn_values_13))) (.seq (.ops A_dyn_values_14) .ret))))
def R_dyn_values : List ARes := [.tmp 2]
theorem C_dyn_values : compF Tryz.prog Tryz.f56 = some (A_dyn_values, R_dyn_values) := by kernel_rfl
theorem K_dyn_values {md : Bool} {args : List AV} {h : Hp} {Q : Res → Hp → Prop} (hl : LCode Tryz.prog md A_dyn_values (EndQ R_dyn_values Q) (env0 41 args) h) (hn : args.length ≤ 41 := by (simp; done)) : CallL Tryz.prog F_dyn_values args h Q :=
 CallL.of (md := md) Tryz.func56 C_dyn_values (by rw [Tryz.ntmps56]; exact hn) (by rw [Tryz.ntmps56]; exact hl)
abbrev F_dyn_normalValue : Nat := 57
def A_dyn_normalValue_0 : LA := [o_ 3 (.box 46 3 (.t 1)), o_ 4 (.box 46 3 (.c (.agg [.int .u64 (0), .str [], .nils])))]
def A_dyn_normalValue_1 : LA := [Wf 8 0 3, Wl 9 8, Wf 10 1 3, Wl 11 10, o_ 12 (.build [.int .u64 (0), .str [], .nils] [(0, 1, (.t 9)), (1, 1, (.t 11))]), o_ 5 (.box 46 3 (.c (.agg [.int .u64 (0), .str [], .nils]))), Wt 3 5 12]
def A_dyn_normalValue_2 : LA := [Wf 13 2 3, Wl 14 13, We 15 14, Wm 16 0]
def A_dyn_normalValue_3 : LA := [Wa 18 55 3 14 16, Wd 19 3 18, o_ 7 (.box 55 3 (.c (.agg [.str [], .nils, .nils]))), Wt 3 7 19]
def A_dyn_normalValue_4 : LA := [Wf 20 2 5, Wl 21 20, mv 22 0, Wd 23 3 7, o_ 24 (.acall 27 [(.t 22), (.t 23)]), o_ 25 (.bslice 55 3 1 [.str [], .nils, .nils] [(0, 3, (.t 24))]), o_ 26 (.app 55 3 64 (.t 21) (.t 25)), Wf 27 2 5, Wt 1 27 26]
def A_dyn_normalValue_5 : LA := [Wf 20 2 5, Wl 21 20, mv 22 0, Wd 23 3 7, o_ 24 (.pcall 27 [(.t 22), (.t 23)]), o_ 25 (.fslice 55 3 1 [.str [], .nils, .nils] [(0, 3, (.t 24))]), o_ 26 (.app 55 3 64 (.t 21) (.t 25)), Wf 27 2 5, Wt 1 27 26]
def A_dyn_normalValue_6 : LA := [Wf 20 2 5, mv 22 0, Wd 23 3 7, Wl 21 20, o_ 24 (.call 27 [(.t 22), (.t 23)]), o_ 25 (.bslice 55 3 1 [.str [], .nils, .nils] [(0, 3, (.t 24))]), o_ 26 (.app 55 3 64 (.t 21) (.t 25)), Wf 27 2 5, Wt 1 27 26]
def A_dyn_normalValue_7 : LA := [Wf 20 2 5, mv 22 0, Wd 23 3 7, o_ 24 (.call 27 [(.t 22), (.t 23)]), Wl 21 20, o_ 25 (.bslice 55 3 1 [.str [], .nils, .nils] [(0, 3, (.t 24))]), o_ 26 (.app 55 3 64 (.t 21) (.t 25)), Wf 27 2 5, Wt 1 27 26]
def A_dyn_normalValue_8 : LA := [Wi 28 .add 16 1, mv 16 28]
def A_dyn_normalValue_9 : ACode := (.seq (.ops [Wb 17 .lss 16 15]) (.seq (.cond (.t 17) .skip (.exit 0)) (.seq (.block 1 (.seq (.ops A_dyn_normalValue_3) (.orr (.alts [20, 21, 22, 23, 24, 25, 26, 27] [A_dyn_normalValue_4]) (.orr (.alts [20, 21, 22, 23, 24, 25, 26, 27] [A_dyn_normalValue_5]) (.alts [20, 21, 22, 23, 24, 25, 26, 27] [A_dyn_normalValue_6, A_dyn_normalValue_7]))))) (.ops A_dyn_normalValue_8))))
def A_dyn_normalValue_10 : LA := [Wd 29 3 5, Wt 3 4 29]
def A_dyn_normalValue : ACode := (.seq (.ops A_dyn_normalValue_0) (.seq (.ops A_dyn_normalValue_1) (.seq (.seq (.ops A_dyn_normalValue_2) (.block 0 (.loop A_dyn_normalValue_9))) (.seq (.ops A_dyn_normalValue_10) .ret))))
def R_dyn_normalValue : List ARes := [.cella 4 3]
theorem C_dyn_normalValue : compF Tryz.prog Tryz.f57 = some (A_dyn_normalValue, R_dyn_normalValue) := by kernel_rfl
theorem K_dyn_normalValue {md : Bool} {args : List AV} {h : Hp} {Q : Res → Hp → Prop} (hl : LCode Tryz.prog md A_dyn_normalValue (EndQ R_dyn_normalValue Q) (env0 30 args) h) (hn : args.length ≤ 30 := by (simp; done)) : CallL Tryz.prog F_dyn_normalValue args h Q :=
 CallL.of (md := md) Tryz.func57 C_dyn_normalValue (by rw [Tryz.ntmps57]; exact hn) (by rw [Tryz.ntmps57]; exact hl)
abbrev F_dyn_normal : Nat := 27
def A_dyn_normal_0 : LA := [o_ 3 (.box 55 3 (.t 1)), o_ 4 (.box 55 3 (.c (.agg [.str [], .nils, .nils])))]
def A_dyn_normal_1 : LA := [mv 16 0, Wf 17 0 3, Wl 18 17, o_ 19 (.inv [(29, 306)] (.t 16) [(.t 18)]), mv 15 19, Wx 20 0 15, Wx 21 1 15, mv 5 20, mv 6 21]
def A_dyn_normal_2 : LA := [Wf 22 0 3, Wl 23 22, Wf 24 2 3, Wl 25 24, o_ 26 (.acall 38 [(.t 25)]), o_ 27 (.build [.str [], .nils, .nils] [(0, 1, (.t 23)), (2, 1, (.t 26))]), o_ 7 (.box 55 3 (.c (.agg [.str [], .nils, .nils]))), Wt 3 7 27]
def A_dyn_normal_3 : LA := [Wf 22 0 3, Wl 23 22, Wf 24 2 3, Wl 25 24, o_ 26 (.pcall 38 [(.t 25)]), o_ 27 (.build [.str [], .nils, .nils] [(0, 1, (.t 23)), (2, 1, (.t 26))]), o_ 7 (.box 55 3 (.c (.agg [.str [], .nils, .nils]))), Wt 3 7 27]
def A_dyn_normal_4 : LA := [Wf 22 0 3, Wf 24 2 3, Wl 25 24, Wl 23 22, o_ 26 (.call 38 [(.t 25)]), o_ 27 (.build [.str [], .nils, .nils] [(0, 1, (.t 23)), (2, 1, (.t 26))]), o_ 7 (.box 55 3 (.c (.agg [.str [], .nils, .nils]))), Wt 3 7 27]
def A_dyn_normal_5 : LA := [Wf 22 0 3, Wf 24 2 3, Wl 25 24, Wl 23 22, o_ 7 (.box 55 3 (.c (.agg [.str [], .nils, .nils]))), o_ 26 (.call 38 [(.t 25)]), o_ 27 (.build [.str [], .nils, .nils] [(0, 1, (.t 23)), (2, 1, (.t 26))]), Wt 3 7 27]
def A_dyn_normal_6 : LA := [Wf 22 0 3, Wf 24 2 3, Wl 25 24, o_ 26 (.call 38 [(.t 25)]), Wl 23 22, o_ 27 (.build [.str [], .nils, .nils] [(0, 1, (.t 23)), (2, 1, (.t 26))]), o_ 7 (.box 55 3 (.c (.agg [.str [], .nils, .nils]))), Wt 3 7 27]
def A_dyn_normal_7 : LA := [Wf 22 0 3, Wf 24 2 3, Wl 25 24, o_ 7 (.box 55 3 (.c (.agg [.str [], .nils, .nils]))), Wl 23 22, o_ 26 (.call 38 [(.t 25)]), o_ 27 (.build [.str [], .nils, .nils] [(0, 1, (.t 23)), (2, 1, (.t 26))]), Wt 3 7 27]
def A_dyn_normal_8 : LA := [Wf 22 0 3, Wf 24 2 3, Wl 25 24, o_ 7 (.box 55 3 (.c (.agg [.str [], .nils, .nils]))), o_ 26 (.call 38 [(.t 25)]), Wl 23 22, o_ 27 (.build [.str [], .nils, .nils] [(0, 1, (.t 23)), (2, 1, (.t 26))]), Wt 3 7 27]
def A_dyn_normal_9 : LA := [Wf 28 1 3, Wl 29 28, We 30 29, Wm 31 0]
def A_dyn_normal_10 : LA := [Wa 33 52 3 29 31, Wd 34 3 33, o_ 9 (.box 52 3 (.c (.agg [.int .i32 (0), .nils, .nils]))), Wt 3 9 34]
def A_dyn_normal_11 : LA := [mv 36 5, Wf 37 0 9, Wl 38 37, o_ 39 (.call 35 [(.t 36), (.t 38)]), mv 35 39, Wx 40 0 35, Wx 41 1 35, o_ 10 (.box 120 9 (.c (.agg [.int .i32 (0), .str [], .str [], .int .u8 (0), .int .u8 (0), .int .u8 (0), .bool false, .int .i64 (0), .str []]))), Wt 9 10 40, mv 11 41]
def A_dyn_normal_12 : LA := [Wd 42 9 10, o_ 43 (.call 54 [(.t 42)]), mv 44 43, Wgf 45 2 9 44, Wgl 46 45 44, g_ 47 (.iaddr 46 3 (.t 46) (i_ 0)) 44, g_ 48 (.lda 3 (.t 47)) 44, g_ 49 (.call 55 [(.t 48)]) 44, Wp 50 44 49]
def A_dyn_normal_13 : LA := [Wf 51 0 9, Wl 52 51, Wf 53 1 9, Wl 54 53, o_ 55 (.acall 56 [(.t 54)]), o_ 56 (.build [.int .i32 (0), .nils, .nils] [(0, 1, (.t 52)), (1, 1, (.t 55))]), o_ 12 (.box 52 3 (.c (.agg [.int .i32 (0), .nils, .nils]))), Wt 3 12 56]
def A_dyn_normal_14 : LA := [Wf 51 0 9, Wl 52 51, Wf 53 1 9, Wl 54 53, o_ 55 (.pcall 56 [(.t 54)]), o_ 56 (.build [.int .i32 (0), .nils, .nils] [(0, 1, (.t 52)), (1, 1, (.t 55))]), o_ 12 (.box 52 3 (.c (.agg [.int .i32 (0), .nils, .nils]))), Wt 3 12 56]
def A_dyn_normal_15 : LA := [Wf 51 0 9, Wf 53 1 9, Wl 54 53, Wl 52 51, o_ 55 (.call 56 [(.t 54)]), o_ 56 (.build [.int .i32 (0), .nils, .nils] [(0, 1, (.t 52)), (1, 1, (.t 55))]), o_ 12 (.box 52 3 (.c (.agg [.int .i32 (0), .nils, .nils]))), Wt 3 12 56]
def A_dyn_normal_16 : LA := [Wf 51 0 9, Wf 53 1 9, Wl 54 53, Wl 52 51, o_ 12 (.box 52 3 (.c (.agg [.int .i32 (0), .nils, .nils]))), o_ 55 (.call 56 [(.t 54)]), o_ 56 (.build [.int .i32 (0), .nils, .nils] [(0, 1, (.t 52)), (1, 1, (.t 55))]), Wt 3 12 56]
def A_dyn_normal_17 : LA := [Wf 51 0 9, Wf 53 1 9, Wl 54 53, o_ 55 (.call 56 [(.t 54)]), Wl 52 51, o_ 56 (.build [.int .i32 (0), .nils, .nils] [(0, 1, (.t 52)), (1, 1, (.t 55))]), o_ 12 (.box 52 3 (.c (.agg [.int .i32 (0), .nils, .nils]))), Wt 3 12 56]
def A_dyn_normal_18 : LA := [Wf 51 0 9, Wf 53 1 9, Wl 54 53, o_ 12 (.box 52 3 (.c (.agg [.int .i32 (0), .nils, .nils]))), Wl 52 51, o_ 55 (.call 56 [(.t 54)]), o_ 56 (.build [.int .i32 (0), .nils, .nils] [(0, 1, (.t 52)), (1, 1, (.t 55))]), Wt 3 12 56]
def A_dyn_normal_19 : LA := [Wf 51 0 9, Wf 53 1 9, Wl 54 53, o_ 12 (.box 52 3 (.c (.agg [.int .i32 (0), .nils, .nils]))), o_ 55 (.call 56 [(.t 54)]), Wl 52 51, o_ 56 (.build [.int .i32 (0), .nils, .nils] [(0, 1, (.t 52)), (1, 1, (.t 55))]), Wt 3 12 56]
def A_dyn_normal_20 : LA := [Wf 57 2 9, Wl 58 57, We 59 58, Wm 60 0]
def A_dyn_normal_21 : LA := [Wa 62 46 3 58 60, Wd 63 3 62, o_ 14 (.box 46 3 (.c (.agg [.int .u64 (0), .str [], .nils]))), Wt 3 14 63]
def A_dyn_normal_22 : LA := [Wf 64 2 12, Wl 65 64, mv 66 0, Wd 67 3 14, o_ 68 (.acall 57 [(.t 66), (.t 67)]), o_ 69 (.bslice 46 3 1 [.int .u64 (0), .str [], .nils] [(0, 3, (.t 68))]), o_ 70 (.app 46 3 48 (.t 65) (.t 69)), Wf 71 2 12, Wt 1 71 70]
def A_dyn_normal_23 : LA := [Wf 64 2 12, Wl 65 64, mv 66 0, Wd 67 3 14, o_ 68 (.pcall 57 [(.t 66), (.t 67)]), o_ 69 (.fslice 46 3 1 [.int .u64 (0), .str [], .nils] [(0, 3, (.t 68))]), o_ 70 (.app 46 3 48 (.t 65) (.t 69)), Wf 71 2 12, Wt 1 71 70]
def A_dyn_normal_24 : LA := [Wf 64 2 12, mv 66 0, Wd 67 3 14, Wl 65 64, o_ 68 (.call 57 [(.t 66), (.t 67)]), o_ 69 (.bslice 46 3 1 [.int .u64 (0), .str [], .nils] [(0, 3, (.t 68))]), o_ 70 (.app 46 3 48 (.t 65) (.t 69)), Wf 71 2 12, Wt 1 71 70]
def A_dyn_normal_25 : LA := [Wf 64 2 12, mv 66 0, Wd 67 3 14, o_ 68 (.call 57 [(.t 66), (.t 67)]), Wl 65 64, o_ 69 (.bslice 46 3 1 [.int .u64 (0), .str [], .nils] [(0, 3, (.t 68))]), o_ 70 (.app 46 3 48 (.t 65) (.t 69)), Wf 71 2 12, Wt 1 71 70]
def A_dyn_normal_26 : LA := [Wi 72 .add 60 1, mv 60 72]
def A_dyn_normal_27 : ACode := (.seq (.ops [Wb 61 .lss 60 59]) (.seq (.cond (.t 61) .skip (.exit 2)) (.seq (.block 3 (.seq (.ops A_dyn_normal_21) (.orr (.alts [64, 65, 66, 67, 68, 69, 70, 71] [A_dyn_normal_22]) (.orr (.alts [64, 65, 66, 67, 68, 69, 70, 71] [A_dyn_normal_23]) (.alts [64, 65, 66, 67, 68, 69, 70, 71] [A_dyn_normal_24, A_dyn_normal_25]))))) (.ops A_dyn_normal_26))))
def A_dyn_normal_28 : LA := [Wf 73 3 10, Wl 74 73, o_ 75 (.bini .eql (.t 74) (.c (.int .u8 4)))]
def A_dyn_normal_29 : LA := [Wd 76 9 10, Wd 77 3 12, o_ 78 (.call 58 [(.t 76), (.t 77)]), Wt 3 12 78]
def A_dyn_normal_30 : LA := [Wf 79 1 7, Wl 80 79, Wd 81 3 12, o_ 82 (.bslice 52 3 1 [.int .i32 (0), .nils, .nils] [(0, 3, (.t 81))]), o_ 83 (.app 52 3 56 (.t 80) (.t 82)), Wf 84 1 7, Wt 1 84 83]
def A_dyn_normal_31 : LA := [Wi 85 .add 31 1, mv 31 85]
def A_dyn_normal_32 : ACode := (.seq (.ops [Wb 32 .lss 31 30]) (.seq (.cond (.t 32) .skip (.exit 0)) (.seq (.block 1 (.seq (.ops A_dyn_normal_10) (.seq (.ops A_dyn_normal_11) (.seq (.seq (.ops A_dyn_normal_12) (.cond (.t 50) (.exit 1) .skip)) (.seq (.orr (.alts [51, 52, 53, 54, 55, 56, 12] [A_dyn_normal_13]) (.orr (.alts [51, 52, 53, 54, 55, 56, 12] [A_dyn_normal_14]) (.alts [51, 52, 53, 54, 55, 56, 12] [A_dyn_normal_15, A_dyn_normal_16, A_dyn_normal_17, A_dyn_normal_18, A_dyn_normal_19]))) (.seq (.seq (.ops A_dyn_normal_20) (.block 2 (.loop A_dyn_normal_27))) (.seq (.seq (.ops A_dyn_normal_28) (.cond (.t 75) (.ops A_dyn_normal_29) .skip)) (.ops A_dyn_normal_30)))))))) (.ops A_dyn_normal_31))))
def A_dyn_normal_33 : LA := [Wd 86 3 7, Wt 3 4 86]
def A_dyn_normal : ACode := (.seq (.ops A_dyn_normal_0) (.seq (.ops A_dyn_normal_1) (.seq (.orr (.alts [22, 23, 24, 25, 26, 27, 7] [A_dyn_normal_2]) (.orr (.alts [22, 23, 24, 25, 26, 27, 7] [A_dyn_normal_3]) (.alts [22, 23, 24, 25, 26, 27, 7] [A_dyn_normal_4, A_dyn_normal_5, A_dyn_normal_6, A_dyn_normal_7, A_dyn_normal_8]))) (.seq (.seq (.ops A_dyn_normal_9) (.block 0 (.loop A_dyn_normal_32))) (.seq (.ops A_dyn_normal_33) .ret)))))
def R_dyn_normal : List ARes := [.cella 4 3]
theorem C_dyn_normal : compF Tryz.prog Tryz.f27 = some (A_dyn_normal, R_dyn_normal) := by kernel_rfl
theorem K_dyn_normal {md : Bool} {args : List AV} {h : Hp} {Q : Res → Hp → Prop} (hl : LCode Tryz.prog md A_dyn_normal (EndQ R_dyn_normal Q) (env0 87 args) h) (hn : args.length ≤ 87 := by (simp; done)) : CallL Tryz.prog F_dyn_normal args h Q :=
 CallL.of (md := md) Tryz.func27 C_dyn_normal (by rw [Tryz.ntmps27]; exact hn) (by rw [Tryz.ntmps27]; exact hl)
abbrev F_dyn_Normal : Nat := 12
def A_dyn_Normal_0 : LA := [o_ 3 (.box 55 3 (.t 1)), o_ 4 (.box 55 3 (.c (.agg [.str [], .nils, .nils]))), Wm 5 0]
def A_dyn_Normal_1 : LA := [mv 9 0, Wd 10 3 3, o_ 11 (.call 26 [(.t 9), (.t 10)]), mv 8 11, Wx 12 0 8, Wx 13 1 8, mv 6 12, mv 7 13]
def A_dyn_Normal_2 : LA := [mv 14 6, Wi 15 .neq 14 0]
def A_dyn_Normal_3 : LA := [o_ 16 (.build [.str [], .nils, .nils] []), mv 17 6, Wt 3 4 16, mv 5 17]
def A_dyn_Normal_4 : LA := [mv 18 0, Wd 19 3 3, o_ 20 (.call 27 [(.t 18), (.t 19)]), Wt 3 4 20, Wm 5 0]
def A_dyn_Normal : ACode := (.seq (.ops A_dyn_Normal_0) (.seq (.seq (.ops A_dyn_Normal_1) (.seq (.ops A_dyn_Normal_2) (.cond (.t 15) (.seq (.ops A_dyn_Normal_3) .ret) .skip))) (.seq (.ops A_dyn_Normal_4) .ret)))
def R_dyn_Normal : List ARes := [.cella 4 3, .tmp 5]
theorem C_dyn_Normal : compF Tryz.prog Tryz.f12 = some (A_dyn_Normal, R_dyn_Normal) := by kernel_rfl
theorem K_dyn_Normal {md : Bool} {args : List AV} {h : Hp} {Q : Res → Hp → Prop} (hl : LCode Tryz.prog md A_dyn_Normal (EndQ R_dyn_Normal Q) (env0 21 args) h) (hn : args.length ≤ 21 := by (simp; done)) : CallL Tryz.prog F_dyn_Normal args h Q :=
 CallL.of (md := md) Tryz.func12 C_dyn_Normal (by rw [Tryz.ntmps12]; exact hn) (by rw [Tryz.ntmps12]; exact hl)
end Go.Proofs.YtghlipffncbagaaGreatDoor
