/- Contracts of functions of the given program, in the logic L: texts put together; no conditions. -/
import Derived.Test.YtgjjbfhamlecoacGreatDoorProg
import Derived.Test.YtgjjbfhamlecoacGreatDoorZ2
import Derived.Test.YtgjjbfhamlecoacGreatDoorZ3
import Derived.KernelRfl
namespace Go.Proofs.YtgjjbfhamlecoacGreatDoor
open Go.L
abbrev Tb : TypeId := 5
def eb (n : Int) : List AV := [.int .u8 n]
abbrev bx (l : List Int) : List (List AV) := l.map eb
def bt (l : Str) : List (List AV) := l.map fun b => [.int .u8 (b.toNat : Int)]
theorem bt_len (l : Str) : (bt l).length = l.length := List.length_map ..
theorem bt_app (l m : Str) : bt (l ++ m) = bt l ++ bt m := List.map_append ..
theorem bt_get {l : Str} {k : Nat} {x : UInt8} (h : l[k]? = some x) : (bt l)[k]? = some [.int .u8 (x.toNat : Int)] := by rw [bt, List.getElem?_map, h]; rfl
theorem bt_one (l : Str) : ∀ cs ∈ bt l, cs.length = 1 := fun cs h => by obtain ⟨s, _, rfl⟩ := List.mem_map.1 h; rfl
theorem bt_flat (l : Str) : ∀ cs ∈ bt l, flat cs = true := fun cs h => by obtain ⟨s, _, rfl⟩ := List.mem_map.1 h; rfl
end Go.Proofs.YtgjjbfhamlecoacGreatDoor

namespace Go.Proofs.YtgjjbfhamlecoacGreatDoor
open Go.L
abbrev F_slices_Clone : Nat := 70
def A_slices_Clone_0 : LA := [mv 3 0, o_ 4 (.isnilu false (.t 3))]
def A_slices_Clone_1 : LA := [o_ 5 (.bslice0 5), mv 6 0, o_ 7 (.app 5 1 1 (.t 5) (.t 6)), mv 2 7]
def A_slices_Clone : ACode := (.seq (.ops [Wn 2]) (.seq (.seq (.ops A_slices_Clone_0) (.cond (.t 4) (.seq (.ops [Wn 2]) .ret) .skip)) (.seq (.ops A_slices_Clone_1) .ret)))
def R_slices_Clone : List ARes := [.tmp 2]
theorem C_slices_Clone : compF Tryz.prog Tryz.f70 = some (A_slices_Clone, R_slices_Clone) := by kernel_rfl
theorem K_slices_Clone {md : Bool} {args : List AV} {h : Hp} {Q : Res → Hp → Prop} (hl : LCode Tryz.prog md A_slices_Clone (EndQ R_slices_Clone Q) (env0 8 args) h) (hn : args.length ≤ 8 := by (simp; done)) : CallL Tryz.prog F_slices_Clone args h Q :=
 CallL.of (md := md) Tryz.func70 C_slices_Clone (by rw [Tryz.ntmps70]; exact hn) (by rw [Tryz.ntmps70]; exact hl)
abbrev F_math_bits_Len64 : Nat := 115
def A_math_bits_Len64_0 : LA := [mv 3 0, o_ 4 (.bini .geq (.t 3) (.c (.int .u64 4294967296)))]
def A_math_bits_Len64_1 : LA := [mv 5 0, o_ 6 (.bini .shr (.t 5) (.c (.int .u64 32))), mv 0 6]
def A_math_bits_Len64_2 : LA := [mv 7 0, o_ 8 (.bini .geq (.t 7) (.c (.int .u64 65536)))]
def A_math_bits_Len64_3 : LA := [mv 9 0, o_ 10 (.bini .shr (.t 9) (.c (.int .u64 16))), mv 0 10]
def A_math_bits_Len64_4 : LA := [mv 11 2, Wi 12 .add 11 16, mv 2 12]
def A_math_bits_Len64_5 : LA := [mv 13 0, o_ 14 (.bini .geq (.t 13) (.c (.int .u64 256)))]
def A_math_bits_Len64_6 : LA := [mv 15 0, o_ 16 (.bini .shr (.t 15) (.c (.int .u64 8))), mv 0 16]
def A_math_bits_Len64_7 : LA := [mv 17 2, Wi 18 .add 17 8, mv 2 18]
def A_math_bits_Len64_8 : LA := [mv 19 2, mv 20 0, o_ 21 (.conv .u8 (.t 20)), o_ 22 (.idxs (.c (.str [0, 1, 2, 2, 3, 3, 3, 3, 4, 4, 4, 4, 4, 4, 4, 4, 5, 5, 5, 5, 5, 5, 5, 5, 5, 5, 5, 5, 5, 5, 5, 5, 6, 6, 6, 6, 6, 6, 6, 6, 6, 6, 6, 6, 6, 6, 6, 6, 6, 6, 6, 6, 6, 6, 6, 6, 6, 6, 6, 6, 6, 6, 6, 6, 7, 7, 7, 7, 7, 7, 7, 7, 7, 7, 7, 7, 7, 7, 7, 7, 7, 7, 7, 7, 7, 7, 7, 7, 7, 7, 7, 7, 7, 7, 7, 7, 7, 7, 7, 7, 7, 7, 7, 7, 7, 7, 7, 7, 7, 7, 7, 7, 7, 7, 7, 7, 7, 7, 7, 7, 7, 7, 7, 7, 7, 7, 7, 7, 8, 8, 8, 8, 8, 8, 8, 8, 8, 8, 8, 8, 8, 8, 8, 8, 8, 8, 8, 8, 8, 8, 8, 8, 8, 8, 8, 8, 8, 8, 8, 8, 8, 8, 8, 8, 8, 8, 8, 8, 8, 8, 8, 8, 8, 8, 8, 8, 8, 8, 8, 8, 8, 8, 8, 8, 8, 8, 8, 8, 8, 8, 8, 8, 8, 8, 8, 8, 8, 8, 8, 8, 8, 8, 8, 8, 8, 8, 8, 8, 8, 8, 8, 8, 8, 8, 8, 8, 8, 8, 8, 8, 8, 8, 8, 8, 8, 8, 8, 8, 8, 8, 8, 8, 8, 8, 8, 8, 8, 8, 8, 8, 8, 8, 8, 8, 8, 8, 8, 8, 8, 8, 8, 8, 8, 8, 8, 8])) (.t 21)), o_ 23 (.conv .i64 (.t 22)), Wb 24 .add 19 23, mv 2 24]
def A_math_bits_Len64 : ACode := (.seq (.ops [Wm 2 0]) (.seq (.seq (.ops A_math_bits_Len64_0) (.cond (.t 4) (.seq (.ops A_math_bits_Len64_1) (.ops [Wm 2 32])) .skip)) (.seq (.seq (.ops A_math_bits_Len64_2) (.cond (.t 8) (.seq (.ops A_math_bits_Len64_3) (.ops A_math_bits_Len64_4)) .skip)) (.seq (.seq (.ops A_math_bits_Len64_5) (.cond (.t 14) (.seq (.ops A_math_bits_Len64_6) (.ops A_math_bits_Len64_7)) .skip)) (.seq (.ops A_math_bits_Len64_8) .ret)))))
def R_math_bits_Len64 : List ARes := [.tmp 2]
theorem C_math_bits_Len64 : compF Tryz.prog Tryz.f115 = some (A_math_bits_Len64, R_math_bits_Len64) := by kernel_rfl
theorem K_math_bits_Len64 {md : Bool} {args : List AV} {h : Hp} {Q : Res → Hp → Prop} (hl : LCode Tryz.prog md A_math_bits_Len64 (EndQ R_math_bits_Len64 Q) (env0 25 args) h) (hn : args.length ≤ 25 := by (simp; done)) : CallL Tryz.prog F_math_bits_Len64 args h Q :=
 CallL.of (md := md) Tryz.func115 C_math_bits_Len64 (by rw [Tryz.ntmps115]; exact hn) (by rw [Tryz.ntmps115]; exact hl)
end Go.Proofs.YtgjjbfhamlecoacGreatDoor

namespace Go.Proofs.YtgjjbfhamlecoacGreatDoor
open Go.L
theorem Clone_slc (i k T : Nat) (c : Option Nat) (es : List (List AV)) (l : Str) (h : Hp) (hi : h i = some (.row T es)) (hk : k + l.length ≤ es.length) (hs : (es.drop k).take l.length = bt l) (hl : l.length ≤ 1000000000000) :
  CallL Tryz.prog F_slices_Clone [.slc i k l.length c] h fun r h' => ∃ v, r = .ret v ∧ NewX Tb h h' v (bt l) := by
 have htl := bt_len l
 refine K_slices_Clone (md := false) ?_
 refine .inr fun j hj => ?_
 have hne : i ≠ j := ne_of_u (Hp.used hi) hj.1
 refine ⟨bt l, ⟨T, es, (Hp.set_ne hne).trans hi, hk, hs.symm⟩, bt_one _, _, Hp.set_same _ _ _, Nat.le_refl _, bt_flat _, ?_⟩
 by_cases h0 : l = []
 ·subst h0
  refine .inl ⟨Nat.le_refl _, Nat.le_refl _, ?_⟩
  refine ⟨rfl, _, rfl, .inr ⟨j, _, _, rfl, Hp.set_same _ _ _, rfl, Nat.le_refl _, .inr rfl⟩, ((Gr.refl h).set hj.1 _).set hj.1 _, fun b hb => by cases hb; exact hj.1⟩
 ·have hpos := List.length_pos_iff.2 h0
  refine .inr ⟨by omega, by rw [htl]; unfold capMax; omega, by rw [htl]; unfold capMax; omega, fun q hq => ?_⟩
  refine ⟨rfl, .slc q 0 (0 + (bt l).length) none, rfl, .inr ⟨q, bt l, none, by rw [Nat.zero_add], Hp.set_same _ _ _, List.take_length, Nat.le_refl _, .inl rfl⟩, ((Gr.refl h).set hj.1 _).set (((Gr.refl h).set hj.1 _).new hq.1) _, fun b hb => by cases hb; exact ((Gr.refl h).set hj.1 _).new hq.1⟩
def lenTab : Str := [0, 1] ++ List.replicate 2 2 ++ List.replicate 4 3 ++ List.replicate 8 4 ++ List.replicate 16 5 ++ List.replicate 32 6 ++ List.replicate 64 7 ++ List.replicate 128 8
theorem lenTab_get {n : Nat} (h : n < 256) : ∃ c, lenTab[n]? = some c ∧ c.toNat ≤ 8 := by
 have hl : lenTab.length = 256 := by kernel_rfl
 obtain ⟨c, hc⟩ := get_lt (l := lenTab) (k := n) (by omega)
 have ha : lenTab.all (fun c => decide (c.toNat ≤ 8)) = true := by kernel_rfl
 exact ⟨c, hc, of_decide_eq_true (List.all_eq_true.1 ha c (List.mem_of_getElem? hc))⟩
theorem shrN {v : Nat} {b : Int} {k : Nat} (hb : b.toNat = k) (hk : k ≤ 64) : Int.fdiv (v : Int) (2 ^ (min b.toNat IntKind.u64.bits)) = ((v / 2 ^ k : Nat) : Int) := by
 rw [hb, show min k IntKind.u64.bits = k from Nat.min_eq_left hk, Int.fdiv_eq_ediv_of_nonneg _ (Int.pow_nonneg (by decide))]
 simp
set_option maxRecDepth 20000 in
theorem Len64_L (v : Nat) (hv : v < 18446744073709551616) (h : Hp) : CallL Tryz.prog F_math_bits_Len64 [.int .u64 v] h fun r h' => (∃ n : Nat, n ≤ 64 ∧ r = .ret (.int .i64 n)) ∧ h' = h := by
 refine K_math_bits_Len64 (md := false) ?_
 refine s_then2 (fun e' h' => h' = h ∧ e'.ds = [] ∧ ∃ x n : Nat, x < 4294967296 ∧ n ≤ 32 ∧ Has e' [(0, .int .u64 x), (2, .int .i64 n)]) ?_ ?_
 ·refine s_le (fun h1 => ?_) (fun h1 => ?_)
  ·refine ⟨by decide, s_ie (shrN (k := 32) rfl (by decide)) ?_⟩
   exact ⟨rfl, rfl, v / 2 ^ 32, 32, by omega, by omega, rfl, rfl, trivial⟩
  ·exact ⟨rfl, rfl, v, 0, by omega, by omega, rfl, rfl, trivial⟩
 rintro e' h' ⟨rfl, hd, x, n, hx, hn, hs⟩
 obtain ⟨n0, g0, rfl⟩ := hs.out hd
 clear hd hs
 refine s_then (fun e' h'' => h'' = h' ∧ e'.ds = [] ∧ ∃ x n : Nat, x < 65536 ∧ n ≤ 48 ∧ Has e' [(0, .int .u64 x), (2, .int .i64 n)]) ?_ ?_
 ·refine s_le (fun h1 => ?_) (fun h1 => ?_)
  ·refine ⟨by decide, s_ie (shrN (k := 16) rfl (by decide)) ?_⟩
   refine s_nat (n + 16) (by omega) (by omega) ?_
   exact ⟨rfl, rfl, x / 2 ^ 16, n + 16, by omega, by omega, rfl, rfl, trivial⟩
  ·exact ⟨rfl, rfl, x, n, by omega, by omega, rfl, rfl, trivial⟩
 rintro e' h'' ⟨rfl, hd, x, n, hx, hn, hs⟩
 obtain ⟨n0, g0, rfl⟩ := hs.out hd
 clear hd hs
 refine s_then (fun e' h' => h' = h'' ∧ e'.ds = [] ∧ ∃ x n : Nat, x < 256 ∧ n ≤ 56 ∧ Has e' [(0, .int .u64 x), (2, .int .i64 n)]) ?_ ?_
 ·refine s_le (fun h1 => ?_) (fun h1 => ?_)
  ·refine ⟨by decide, s_ie (shrN (k := 8) rfl (by decide)) ?_⟩
   refine s_nat (n + 8) (by omega) (by omega) ?_
   exact ⟨rfl, rfl, x / 2 ^ 8, n + 8, by omega, by omega, rfl, rfl, trivial⟩
  ·exact ⟨rfl, rfl, x, n, by omega, by omega, rfl, rfl, trivial⟩
 rintro e' h' ⟨rfl, hd, x, n, hx, hn, hs⟩
 obtain ⟨n0, g0, rfl⟩ := hs.out hd
 clear hd hs
 obtain ⟨c, hc, hc8⟩ := lenTab_get hx
 refine s_ie ((u8_nat x).trans (by rw [Nat.mod_eq_of_lt hx])) ?_
 refine ⟨x, c, rfl, hc, ?_⟩
 refine s_nat c.toNat rfl (by omega) ?_
 refine s_nat (n + c.toNat) (by omega) (by omega) ?_
 exact ⟨rfl, ⟨_, by omega, rfl⟩, rfl⟩
end Go.Proofs.YtgjjbfhamlecoacGreatDoor

namespace Go.Proofs.YtgjjbfhamlecoacGreatDoor
open Go.L
abbrev F_wire_NewReader : Nat := 37
def A_wire_NewReader_0 : LA := [mv 3 0, o_ 4 (.call 70 [(.t 3)]), mv 5 0, We 6 5, o_ 7 (.build [.nils, .int .i64 (0), .int .i64 (0), .int .i64 (0), .int .i64 0] [(0, 1, (.t 4)), (2, 1, (.t 6))]), o_ 8 (.box 208 5 (.t 7)), mv 2 8]
def A_wire_NewReader : ACode := (.seq (.ops [o_ 2 (.mov (.c (.nilp)))]) (.seq (.ops A_wire_NewReader_0) .ret))
def R_wire_NewReader : List ARes := [.tmp 2]
theorem C_wire_NewReader : compF Tryz.prog Tryz.f37 = some (A_wire_NewReader, R_wire_NewReader) := by kernel_rfl
theorem K_wire_NewReader {md : Bool} {args : List AV} {h : Hp} {Q : Res → Hp → Prop} (hl : LCode Tryz.prog md A_wire_NewReader (EndQ R_wire_NewReader Q) (env0 9 args) h) (hn : args.length ≤ 9 := by (simp; done)) : CallL Tryz.prog F_wire_NewReader args h Q :=
 CallL.of (md := md) Tryz.func37 C_wire_NewReader (by rw [Tryz.ntmps37]; exact hn) (by rw [Tryz.ntmps37]; exact hl)
abbrev F_wire_Reader_wrong : Nat := 131
def A_wire_Reader_wrong_0 : LA := [mv 6 0, Wc 7 6, Wf 8 3 7, Wl 9 8, Wi 10 .eql 9 0]
def A_wire_Reader_wrong_1 : LA := [mv 11 0, mv 12 0, mv 13 1, mv 14 2, Wc 15 11, Wf 16 3 15, Ws 1 16 13, Wc 17 12, Wf 18 4 17, Ws 1 18 14]
def A_wire_Reader_wrong : ACode := (.seq (.ops A_wire_Reader_wrong_0) (.cond (.t 10) (.ops A_wire_Reader_wrong_1) .skip))
def R_wire_Reader_wrong : List ARes := []
theorem C_wire_Reader_wrong : compF Tryz.prog Tryz.f131 = some (A_wire_Reader_wrong, R_wire_Reader_wrong) := by kernel_rfl
theorem K_wire_Reader_wrong {md : Bool} {args : List AV} {h : Hp} {Q : Res → Hp → Prop} (hl : LCode Tryz.prog md A_wire_Reader_wrong (EndQ R_wire_Reader_wrong Q) (env0 19 args) h) (hn : args.length ≤ 19 := by (simp; done)) : CallL Tryz.prog F_wire_Reader_wrong args h Q :=
 CallL.of (md := md) Tryz.func131 C_wire_Reader_wrong (by rw [Tryz.ntmps131]; exact hn) (by rw [Tryz.ntmps131]; exact hl)
abbrev F_wire_Reader_Err : Nat := 133
def A_wire_Reader_Err_0 : LA := [Wm 2 0, Wm 3 0]
def A_wire_Reader_Err_1 : LA := [mv 4 0, Wc 5 4, Wf 6 3 5, Wl 7 6, Wi 8 .eql 7 0]
def A_wire_Reader_Err_2 : LA := [Wm 2 0, Wm 3 0]
def A_wire_Reader_Err_3 : LA := [mv 9 0, Wc 10 9, Wf 11 3 10, Wl 12 11, mv 13 0, Wc 14 13, Wf 15 4 14, Wl 16 15, mv 2 12, mv 3 16]
def A_wire_Reader_Err : ACode := (.seq (.ops A_wire_Reader_Err_0) (.seq (.seq (.ops A_wire_Reader_Err_1) (.cond (.t 8) (.seq (.ops A_wire_Reader_Err_2) .ret) .skip)) (.seq (.alts [9, 10, 11, 12, 13, 14, 15, 16, 2, 3] [A_wire_Reader_Err_3]) .ret)))
def R_wire_Reader_Err : List ARes := [.tmp 2, .tmp 3]
theorem C_wire_Reader_Err : compF Tryz.prog Tryz.f133 = some (A_wire_Reader_Err, R_wire_Reader_Err) := by kernel_rfl
theorem K_wire_Reader_Err {md : Bool} {args : List AV} {h : Hp} {Q : Res → Hp → Prop} (hl : LCode Tryz.prog md A_wire_Reader_Err (EndQ R_wire_Reader_Err Q) (env0 17 args) h) (hn : args.length ≤ 17 := by (simp; done)) : CallL Tryz.prog F_wire_Reader_Err args h Q :=
 CallL.of (md := md) Tryz.func133 C_wire_Reader_Err (by rw [Tryz.ntmps133]; exact hn) (by rw [Tryz.ntmps133]; exact hl)
abbrev F_wire_Reader_Varint : Nat := 189
def A_wire_Reader_Varint_0 : LA := [mv 6 0, Wc 7 6, Wf 8 3 7, Wl 9 8, Wi 10 .neq 9 0]
def A_wire_Reader_Varint_1 : LA := [mv 11 4, Wi 12 .lss 11 10]
def A_wire_Reader_Varint_2 : LA := [mv 15 0, Wc 16 15, Wf 17 1 16, Wl 18 17, mv 19 4, Wb 20 .add 18 19, mv 21 0, Wc 22 21, Wf 23 2 22, Wl 24 23, Wb 25 .geq 20 24]
def A_wire_Reader_Varint_3 : LA := [mv 26 0, mv 27 0, Wc 28 27, Wf 29 1 28, Wl 30 29, o_ 31 (.call 131 [(.t 26), (i_ 10), (.t 30)])]
def A_wire_Reader_Varint_4 : LA := [mv 32 0, Wc 33 32, Wf 34 0 33, Wl 35 34, mv 36 0, Wc 37 36, Wf 38 1 37, Wl 39 38, mv 40 4, Wb 41 .add 39 40, Wa 42 5 1 35 41, Wl 43 42, mv 5 43]
def A_wire_Reader_Varint_5 : LA := [mv 44 4, Wi 45 .eql 44 9, mv 46 45, Wgm 47 5 46, g_ 48 (.bini .gtr (.t 47) (.c (.int .u8 1))) 46, Wp 49 46 48]
def A_wire_Reader_Varint_6 : LA := [mv 50 3, mv 51 5, o_ 52 (.bini .and (.t 51) (.c (.int .u8 127))), o_ 53 (.conv .u64 (.t 52)), mv 54 4, o_ 55 (.bini .mul (i_ 7) (.t 54)), Wb 56 .shl 53 55, Wb 57 .or 50 56, mv 3 57]
def A_wire_Reader_Varint_7 : LA := [mv 58 5, o_ 59 (.bini .lss (.t 58) (.c (.int .u8 128)))]
def A_wire_Reader_Varint_8 : LA := [mv 60 0, Wc 61 60, Wf 62 1 61, Wl 63 62, mv 64 4, Wi 65 .add 64 1, Wb 66 .add 63 65, Wc 67 60, Wf 68 1 67, Ws 1 68 66]
def A_wire_Reader_Varint_9 : LA := [mv 69 3, mv 2 69]
def A_wire_Reader_Varint_10 : LA := [mv 13 4, Wi 14 .add 13 1, mv 4 14]
def A_wire_Reader_Varint_11 : ACode := (.seq (.seq (.ops A_wire_Reader_Varint_1) (.cond (.t 12) .skip (.exit 0))) (.seq (.block 1 (.seq (.seq (.alts [15, 16, 17, 18, 19, 20, 21, 22, 23, 24, 25] [A_wire_Reader_Varint_2]) (.cond (.t 25) (.seq (.ops A_wire_Reader_Varint_3) (.seq (.ops [o_ 2 (.mov (.c (.int .u64 0)))]) .ret)) .skip)) (.seq (.alts [32, 33, 34, 35, 36, 37, 38, 39, 40, 41, 42, 43, 5] [A_wire_Reader_Varint_4]) (.seq (.seq (.ops A_wire_Reader_Varint_5) (.cond (.t 49) (.exit 0) .skip)) (.seq (.ops A_wire_Reader_Varint_6) (.seq (.ops A_wire_Reader_Varint_7) (.cond (.t 59) (.seq (.ops A_wire_Reader_Varint_8) (.seq (.ops A_wire_Reader_Varint_9) .ret)) .skip))))))) (.ops A_wire_Reader_Varint_10)))
def A_wire_Reader_Varint_12 : LA := [mv 70 0, mv 71 0, Wc 72 71, Wf 73 1 72, Wl 74 73, o_ 75 (.call 131 [(.t 70), (i_ 11), (.t 74)])]
def A_wire_Reader_Varint : ACode := (.seq (.ops [o_ 2 (.mov (.c (.int .u64 0)))]) (.seq (.ops [o_ 3 (.mov (.c (.int .u64 0)))]) (.seq (.seq (.ops A_wire_Reader_Varint_0) (.cond (.t 10) (.seq (.ops [o_ 2 (.mov (.c (.int .u64 0)))]) .ret) .skip)) (.seq (.seq (.ops [Wm 4 0]) (.block 0 (.loop A_wire_Reader_Varint_11))) (.seq (.ops A_wire_Reader_Varint_12) (.seq (.ops [o_ 2 (.mov (.c (.int .u64 0)))]) .ret))))))
def R_wire_Reader_Varint : List ARes := [.tmp 2]
theorem C_wire_Reader_Varint : compF Tryz.prog Tryz.f189 = some (A_wire_Reader_Varint, R_wire_Reader_Varint) := by kernel_rfl
theorem K_wire_Reader_Varint {md : Bool} {args : List AV} {h : Hp} {Q : Res → Hp → Prop} (hl : LCode Tryz.prog md A_wire_Reader_Varint (EndQ R_wire_Reader_Varint Q) (env0 76 args) h) (hn : args.length ≤ 76 := by (simp; done)) : CallL Tryz.prog F_wire_Reader_Varint args h Q :=
 CallL.of (md := md) Tryz.func189 C_wire_Reader_Varint (by rw [Tryz.ntmps189]; exact hn) (by rw [Tryz.ntmps189]; exact hl)
abbrev F_wire_Reader_At : Nat := 80
def A_wire_Reader_At_0 : LA := [mv 3 0, Wc 4 3, Wf 5 1 4, Wl 6 5, mv 2 6]
def A_wire_Reader_At : ACode := (.seq (.ops [Wm 2 0]) (.seq (.ops A_wire_Reader_At_0) .ret))
def R_wire_Reader_At : List ARes := [.tmp 2]
theorem C_wire_Reader_At : compF Tryz.prog Tryz.f80 = some (A_wire_Reader_At, R_wire_Reader_At) := by kernel_rfl
theorem K_wire_Reader_At {md : Bool} {args : List AV} {h : Hp} {Q : Res → Hp → Prop} (hl : LCode Tryz.prog md A_wire_Reader_At (EndQ R_wire_Reader_At Q) (env0 7 args) h) (hn : args.length ≤ 7 := by (simp; done)) : CallL Tryz.prog F_wire_Reader_At args h Q :=
 CallL.of (md := md) Tryz.func80 C_wire_Reader_At (by rw [Tryz.ntmps80]; exact hn) (by rw [Tryz.ntmps80]; exact hl)
end Go.Proofs.YtgjjbfhamlecoacGreatDoor

namespace Go.Proofs.YtgjjbfhamlecoacGreatDoor
open Go.L
abbrev TR : TypeId := 208
def RdC (v : AV) (at_ en e w : Int) : List AV := [v, .int .i64 at_, .int .i64 en, .int .i64 e, .int .i64 w]
theorem rwrong_L (R : Nat) (cv : AV) (at_ en w e p : Int) (h : Hp) (hR : h R = some (.row TR [RdC cv at_ en 0 w])) :
  CallL Tryz.prog F_wire_Reader_wrong [.ptr R 0 0, .int .i64 e, .int .i64 p] h fun r h' => r = .ret (.tup []) ∧ h' = h.set R (.row TR [RdC cv at_ en e p]) := by
 refine K_wire_Reader_wrong (md := false) ?_
 refine ⟨_, _, _, _, hR, rfl, rfl, ?_⟩
 refine s_eq (fun _ => ?_) (fun h1 => absurd rfl h1)
 refine ⟨_, _, _, hR, rfl, rfl, rfl, rfl, by show 4 ≤ 5; decide, ?_⟩
 refine ⟨_, _, _, Hp.set_same _ _ _, rfl, rfl, rfl, rfl, by show 5 ≤ 5; decide, ?_⟩
 exact ⟨rfl, rfl, Hp.set_set _ _ _ _⟩
theorem rErr_L (R : Nat) (cv : AV) (at_ en e w : Int) (h : Hp) (hR : h R = some (.row TR [RdC cv at_ en e w])) :
  CallL Tryz.prog F_wire_Reader_Err [.ptr R 0 0] h fun r h' => r = .ret (.tup [.int .i64 e, .int .i64 (if e = 0 then 0 else w)]) ∧ h' = h := by
 refine K_wire_Reader_Err (md := false) ?_
 refine ⟨_, _, _, _, hR, rfl, rfl, ?_⟩
 refine s_eq (fun (h1 : e = 0) => ?_) (fun (h1 : e ≠ 0) => ?_)
 ·subst h1; exact ⟨rfl, rfl, rfl⟩
 ·refine ⟨_, _, _, _, hR, rfl, rfl, ?_⟩
  refine ⟨_, _, _, _, hR, rfl, rfl, ?_⟩
  exact ⟨rfl, by rw [if_neg h1]; rfl, rfl⟩
theorem rAt_L (R : Nat) (cv : AV) (at_ en e w : Int) (h : Hp) (hR : h R = some (.row TR [RdC cv at_ en e w])) :
  CallL Tryz.prog F_wire_Reader_At [.ptr R 0 0] h fun r h' => r = .ret (.int .i64 at_) ∧ h' = h := by
 refine K_wire_Reader_At (md := false) ?_
 refine ⟨_, _, _, _, hR, rfl, rfl, ?_⟩
 exact ⟨rfl, rfl, rfl⟩
set_option maxRecDepth 20000 in
theorem and127' : ∀ x : Fin 256, (BitVec.ofNat 8 x.val &&& 127#8).toNat = x.val % 128 := by decide
theorem and127 (c : UInt8) : ibits .and .u8 (c.toNat : Int) 127 = ((c.toNat % 128 : Nat) : Int) := by
 have hc := c.toNat_lt
 have h1 := and127' ⟨c.toNat, by omega⟩
 have e : BitVec.ofInt IntKind.u8.bits ((c.toNat : Nat) : Int) = BitVec.ofNat 8 c.toNat := BitVec.ofInt_natCast 8 _
 have e2 : BitVec.ofInt IntKind.u8.bits 127 = 127#8 := rfl
 rw [ibits, e, e2]
 show IntKind.u8.wrap ((BitVec.ofNat 8 c.toNat &&& 127#8).toNat : Int) = _
 rw [h1, u8_nat]
 show (((c.toNat % 128) % 256 : Nat) : Int) = _
 omega
theorem or_add {a y i : Nat} (ha : a < 2 ^ (7 * i)) (x : Nat) (hy : y = x * 2 ^ (7 * i)) (hb : a + y < 18446744073709551616) : ibits .or .u64 (a : Int) (y : Int) = ((a + y : Nat) : Int) := by
 have e : ∀ n : Nat, BitVec.ofInt IntKind.u64.bits (n : Int) = BitVec.ofNat 64 n := fun n => BitVec.ofInt_natCast 64 n
 rw [ibits, e, e]
 show IntKind.u64.wrap ((BitVec.ofNat 64 a ||| BitVec.ofNat 64 y).toNat : Int) = _
 have h1 : (BitVec.ofNat 64 a ||| BitVec.ofNat 64 y).toNat = a + y := by
  rw [BitVec.toNat_or, BitVec.toNat_ofNat, BitVec.toNat_ofNat, Nat.mod_eq_of_lt (by omega), Nat.mod_eq_of_lt (by omega), Nat.or_comm, hy, Nat.mul_comm, ← Nat.two_pow_add_eq_or_of_lt ha]
  omega
 rw [h1, u64_nat hb]
theorem shl7 {x i : Nat} (h : x * 2 ^ (7 * i) < 18446744073709551616) (hi : i ≤ 9) : IntKind.u64.wrap ((x : Int) * 2 ^ (min ((7 * i : Nat) : Int).toNat IntKind.u64.bits)) = ((x * 2 ^ (7 * i) : Nat) : Int) := by
 rw [show min ((7 * i : Nat) : Int).toNat IntKind.u64.bits = 7 * i from Nat.min_eq_left (by show 7 * i ≤ 64; omega)]
 have e : (x : Int) * 2 ^ (7 * i) = ((x * 2 ^ (7 * i) : Nat) : Int) := by simp
 rw [e, u64_nat h]
theorem p128 (i : Nat) : 128 ^ i = 2 ^ (7 * i) := by rw [Nat.pow_mul]
def VarQ (R : Nat) (cv : AV) (at_ en : Nat) (w : Int) (rest : Str) (h : Hp) (r : Res) (h' : Hp) : Prop := match rdV rest with
 | .ok v n => r = .ret (.int .u64 v) ∧ h' = h.set R (.row TR [RdC cv (at_ + n : Nat) en 0 w])
 | .short => r = .ret (.int .u64 0) ∧ h' = h.set R (.row TR [RdC cv at_ en 10 at_])
 | .long => r = .ret (.int .u64 0) ∧ h' = h.set R (.row TR [RdC cv at_ en 11 at_])
theorem VarQ.ok {R : Nat} {cv : AV} {at_ en : Nat} {w : Int} {rest : Str} {h : Hp} {v n : Nat} (e : rdV rest = .ok v n) : VarQ R cv at_ en w rest h (.ret (.int .u64 v)) (h.set R (.row TR [RdC cv (at_ + n : Nat) en 0 w])) := by
 unfold VarQ; rw [e]; exact ⟨rfl, rfl⟩
theorem VarQ.short {R : Nat} {cv : AV} {at_ en : Nat} {w : Int} {rest : Str} {h : Hp} (e : rdV rest = .short) : VarQ R cv at_ en w rest h (.ret (.int .u64 0)) (h.set R (.row TR [RdC cv at_ en 10 at_])) := by
 unfold VarQ; rw [e]; exact ⟨rfl, rfl⟩
theorem VarQ.long {R : Nat} {cv : AV} {at_ en : Nat} {w : Int} {rest : Str} {h : Hp} (e : rdV rest = .long) : VarQ R cv at_ en w rest h (.ret (.int .u64 0)) (h.set R (.row TR [RdC cv at_ en 11 at_])) := by
 unfold VarQ; rw [e]; exact ⟨rfl, rfl⟩
theorem rdN_lt : ∀ (f i acc : Nat) (b : Str) (v n : Nat), f + i ≤ 10 → acc < 128 ^ i → rdN f i acc b = .ok v n → n ≤ i + b.length ∧ i < n ∧ v < 18446744073709551616
 | 0, _, _, _, _, _, _, _, h => by cases h
 | f + 1, i, acc, [], _, _, _, _, h => by cases h
 | f + 1, i, acc, c :: r, v, n, hf, ha, h => by
  rw [rdN] at h
  have hp : acc + c.toNat % 128 * 128 ^ i < 128 ^ (i + 1) := by
   have h1 : c.toNat % 128 * 128 ^ i ≤ 127 * 128 ^ i := Nat.mul_le_mul_right _ (by omega)
   rw [Nat.pow_succ']; omega
  split at h
  ·cases h
  ·rename_i h9
   split at h
   ·rename_i h8
    cases h
    refine ⟨by rw [List.length_cons]; omega, by omega, ?_⟩
    by_cases e : i = 9
    ·subst e
     have hc1 : c.toNat ≤ 1 := by
      rcases Nat.lt_or_ge 1 c.toNat with h | h
      ·exact absurd ⟨rfl, h⟩ h9
      ·exact h
     have : c.toNat % 128 * 128 ^ 9 ≤ 1 * 128 ^ 9 := Nat.mul_le_mul_right _ (by omega)
     omega
    ·have : 128 ^ (i + 1) ≤ 128 ^ 9 := Nat.pow_le_pow_right (by decide) (by omega)
     omega
   ·have := rdN_lt f (i + 1) _ r v n (by omega) hp h
    rw [List.length_cons]; omega
theorem rdV_lt {b : Str} {v n : Nat} (h : rdV b = .ok v n) : n ≤ b.length ∧ 0 < n ∧ v < 18446744073709551616 := by
 have := rdN_lt 10 0 0 b v n (by decide) (by decide) h
 omega
set_option maxHeartbeats 2000000 in
theorem rVarint_L (R : Nat) (cv : AV) (at_ en : Nat) (w : Int) (b : Str) (h : Hp) (hR : h R = some (.row TR [RdC cv at_ en 0 w])) (ho : OwnX Tb h cv (bt b)) (hcR : blkOf cv ≠ some R) (h1 : at_ ≤ en) (h2 : en ≤ b.length) (hb : b.length ≤ 1000000000000) :
  CallL Tryz.prog F_wire_Reader_Varint [.ptr R 0 0] h (VarQ R cv at_ en w ((b.take en).drop at_) h) := by
 refine K_wire_Reader_Varint (md := false) ?_
 refine ⟨_, _, _, _, hR, rfl, rfl, ?_⟩
 refine s_ne (fun h3 => absurd rfl h3) (fun _ => ?_)
 have hrl : ((b.take en).drop at_).length = en - at_ := by rw [List.length_drop, List.length_take]; omega
 have hset : h.set R (.row TR [RdC cv at_ en 0 w]) = h := Hp.set_self hR
 refine s_blk (id := 0) (fun e' h' => h' = h ∧ e'.ds = [] ∧ rdV ((b.take en).drop at_) = .long ∧ Has e' [(0, .ptr R 0 0)]) ?_ ?_
 ·refine s_loop 10 (fun k (s : Nat) => k ≤ 10 ∧ s < 128 ^ k ∧ rdV ((b.take en).drop at_) = rdN (10 - k) k s (((b.take en).drop at_).drop k)) (fun k s => [(0, .ptr R 0 0), (3, .int .u64 (s : Nat)), (4, .int .i64 k)]) (fun _ _ => h) 0 ⟨Nat.zero_le _, by decide, rfl⟩ rfl rfl ⟨rfl, rfl, rfl, trivial⟩ (fun k s hI => hI.1) ?_
  rintro k acc n0 g0 hk ⟨_, hacc, hrd⟩
  refine s_lt (fun (h3 : (k : Int) < 10) => ?_) (fun (h3 : (10 : Int) ≤ k) => ?_)
  ·have hf : 10 - k = (9 - k) + 1 := by omega
   rw [hf] at hrd
   refine ⟨_, _, _, _, hR, rfl, rfl, ?_⟩
   refine s_nat (at_ + k) (by omega) (by omega) ?_
   refine ⟨_, _, _, _, hR, rfl, rfl, ?_⟩
   refine s_le (fun (h4 : (en : Int) ≤ (at_ + k : Nat)) => ?_) (fun (h4 : ((at_ + k : Nat) : Int) < en) => ?_)
   ·have e0 : ((b.take en).drop at_).drop k = [] := List.drop_of_length_le (by omega)
    rw [e0, rdN] at hrd
    refine ⟨_, _, _, _, hR, rfl, rfl, ?_⟩
    refine (rwrong_L R cv at_ en w 10 at_ h hR).mono ?_
    rintro r h' ⟨rfl, rfl⟩
    exact ⟨rfl, VarQ.short hrd⟩
   ·obtain ⟨c, hc⟩ := get_lt (l := (b.take en).drop at_) (k := k) (by omega)
    have hcb : b[at_ + k]? = some c := by
     rw [List.getElem?_drop, List.getElem?_take_of_lt (by omega)] at hc; exact hc
    rw [drop_cons hc, rdN] at hrd
    refine ⟨_, _, _, _, hR, rfl, rfl, ?_⟩
    refine ⟨_, _, _, _, hR, rfl, rfl, ?_⟩
    refine s_nat (at_ + k) (by omega) (by omega) ?_
    rcases ho with ⟨rfl, h0⟩ | ⟨B, row, q, rfl, hB, hrow, hrl2, _⟩
    ·have hb0 : b.length = 0 := by have := congrArg List.length h0; rwa [bt_len] at this
     have := (List.getElem?_eq_some_iff.1 hcb).1
     omega
    have hbl := bt_len b
    have hg : row[0 + (at_ + k)]? = some [.int .u8 (c.toNat : Int)] := by
     have := bt_get hcb
     rw [← hrow, List.getElem?_take_of_lt (by omega)] at this
     rw [Nat.zero_add]; exact this
    refine ⟨at_ + k, rfl, by omega, ⟨_, hB⟩, ?_⟩
    refine ⟨_, _, _, _, hB, hg, rfl, ?_⟩
    have hcl := c.toNat_lt
    have more : ∀ (n1 : Nat) (g1 : Nat → AV), ¬ (k = 9 ∧ 1 < c.toNat) → True := fun _ _ _ => trivial
    refine s_eq (fun (h5 : (k : Int) = 9) => ?_) (fun (h5 : (k : Int) ≠ 9) => ?_)
    ·refine s_lt (fun (h6 : (1 : Int) < c.toNat) => ?_) (fun (h6 : (c.toNat : Int) ≤ 1) => ?_)
     ·rw [if_pos ⟨by omega, by omega⟩] at hrd
      exact ⟨rfl, rfl, hrd, rfl, trivial⟩
     ·rw [if_neg (by omega), if_pos (by omega)] at hrd
      have hx : c.toNat % 128 * 2 ^ (7 * k) < 18446744073709551616 := by
       obtain rfl : k = 9 := by omega
       have : c.toNat % 128 * 2 ^ (7 * 9) ≤ 1 * 2 ^ (7 * 9) := Nat.mul_le_mul_right _ (by omega)
       omega
      have hx2 : acc + c.toNat % 128 * 2 ^ (7 * k) < 18446744073709551616 := by
       obtain rfl : k = 9 := by omega
       have : c.toNat % 128 * 2 ^ (7 * 9) ≤ 1 * 2 ^ (7 * 9) := Nat.mul_le_mul_right _ (by omega)
       omega
      refine s_ie (and127 c) (s_ie (u64_nat (by omega)) ?_)
      refine s_nat (7 * k) (by omega) (by omega) ?_
      refine ⟨by omega, s_ie (shl7 hx (by omega)) ?_⟩
      refine s_ie (or_add (by rw [← p128]; exact hacc) _ rfl hx2) ?_
      refine s_lt (fun _ => ?_) (fun (h7 : (128 : Int) ≤ c.toNat) => by omega)
      refine ⟨_, _, _, _, hR, rfl, rfl, ?_⟩
      refine s_nat (k + 1) (by omega) (by omega) ?_
      refine s_nat (at_ + (k + 1)) (by omega) (by omega) ?_
      refine ⟨_, _, _, hR, rfl, rfl, rfl, rfl, by show 2 ≤ 5; decide, ?_⟩
      exact ⟨rfl, VarQ.ok (hrd.trans (by rw [p128]))⟩
    ·rw [if_neg (by omega)] at hrd
     have hx1 : c.toNat % 128 * 2 ^ (7 * k) ≤ 127 * 2 ^ (7 * k) := Nat.mul_le_mul_right _ (by omega)
     have hx3 : 2 ^ (7 * k) ≤ 2 ^ 56 := Nat.pow_le_pow_right (by decide) (by omega)
     have hacc2 : acc < 2 ^ (7 * k) := by rw [← p128]; exact hacc
     refine s_ie (and127 c) (s_ie (u64_nat (by omega)) ?_)
     refine s_nat (7 * k) (by omega) (by omega) ?_
     refine ⟨by omega, s_ie (shl7 (by omega) (by omega)) ?_⟩
     refine s_ie (or_add hacc2 _ rfl (by omega)) ?_
     refine s_lt (fun (h7 : (c.toNat : Int) < 128) => ?_) (fun (h7 : (128 : Int) ≤ c.toNat) => ?_)
     ·rw [if_pos (by omega)] at hrd
      refine ⟨_, _, _, _, hR, rfl, rfl, ?_⟩
      refine s_nat (k + 1) (by omega) (by omega) ?_
      refine s_nat (at_ + (k + 1)) (by omega) (by omega) ?_
      refine ⟨_, _, _, hR, rfl, rfl, rfl, rfl, by show 2 ≤ 5; decide, ?_⟩
      exact ⟨rfl, VarQ.ok (hrd.trans (by rw [p128]))⟩
     ·rw [if_neg (by omega)] at hrd
      refine s_nat (k + 1) (by omega) (by omega) ?_
      refine ⟨acc + c.toNat % 128 * 2 ^ (7 * k), by omega, ⟨by omega, ?_, ?_⟩, rfl, rfl, rfl, rfl, rfl, trivial⟩
      ·rw [p128, show 7 * (k + 1) = 7 * k + 7 by omega, Nat.pow_add]; omega
      ·rw [hrd, p128, show 10 - (k + 1) = 9 - k by omega]
  ·obtain rfl : k = 10 := by omega
   exact ⟨rfl, rfl, by rw [hrd]; rfl, rfl, trivial⟩
 ·rintro e' h' ⟨rfl, hd, hl, hs⟩
  obtain ⟨n0, g0, rfl⟩ := hs.out hd
  refine ⟨_, _, _, _, hR, rfl, rfl, ?_⟩
  refine (rwrong_L R cv at_ en w 11 at_ h' hR).mono ?_
  rintro r h'' ⟨rfl, rfl⟩
  exact ⟨rfl, VarQ.long hl⟩
end Go.Proofs.YtgjjbfhamlecoacGreatDoor

namespace Go.Proofs.YtgjjbfhamlecoacGreatDoor
open Go.L
abbrev F_wire_Reader_Left : Nat := 74
def A_wire_Reader_Left_0 : LA := [mv 3 0, Wc 4 3, Wf 5 3 4, Wl 6 5, Wi 7 .neq 6 0]
def A_wire_Reader_Left_1 : LA := [mv 8 0, Wc 9 8, Wf 10 2 9, Wl 11 10, mv 12 0, Wc 13 12, Wf 14 1 13, Wl 15 14, Wb 16 .sub 11 15, mv 2 16]
def A_wire_Reader_Left : ACode := (.seq (.ops [Wm 2 0]) (.seq (.seq (.ops A_wire_Reader_Left_0) (.cond (.t 7) (.seq (.ops [Wm 2 0]) .ret) .skip)) (.seq (.alts [8, 9, 10, 11, 12, 13, 14, 15, 16, 2] [A_wire_Reader_Left_1]) .ret)))
def R_wire_Reader_Left : List ARes := [.tmp 2]
theorem C_wire_Reader_Left : compF Tryz.prog Tryz.f74 = some (A_wire_Reader_Left, R_wire_Reader_Left) := by kernel_rfl
theorem K_wire_Reader_Left {md : Bool} {args : List AV} {h : Hp} {Q : Res → Hp → Prop} (hl : LCode Tryz.prog md A_wire_Reader_Left (EndQ R_wire_Reader_Left Q) (env0 17 args) h) (hn : args.length ≤ 17 := by (simp; done)) : CallL Tryz.prog F_wire_Reader_Left args h Q :=
 CallL.of (md := md) Tryz.func74 C_wire_Reader_Left (by rw [Tryz.ntmps74]; exact hn) (by rw [Tryz.ntmps74]; exact hl)
abbrev F_wire_Reader_Tag : Nat := 130
def A_wire_Reader_Tag_0 : LA := [o_ 2 (.mov (.c (.int .i32 0))), o_ 3 (.mov (.c (.int .u8 0)))]
def A_wire_Reader_Tag_1 : LA := [mv 7 0, Wc 8 7, Wf 9 1 8, Wl 10 9, mv 4 10]
def A_wire_Reader_Tag_2 : LA := [mv 11 0, o_ 12 (.call 189 [(.t 11)]), mv 5 12]
def A_wire_Reader_Tag_3 : LA := [mv 13 0, Wc 14 13, Wf 15 3 14, Wl 16 15, Wi 17 .neq 16 0]
def A_wire_Reader_Tag_4 : LA := [o_ 2 (.mov (.c (.int .i32 0))), o_ 3 (.mov (.c (.int .u8 0)))]
def A_wire_Reader_Tag_5 : LA := [mv 18 5, o_ 19 (.bini .and (.t 18) (.c (.int .u64 7))), o_ 20 (.conv .u8 (.t 19)), mv 6 20]
def A_wire_Reader_Tag_6 : LA := [mv 21 5, o_ 22 (.bini .gtr (.t 21) (.c (.int .u64 4294967295))), mv 23 22, Whm 24 5 23, Wh 25 (.bini .shr (.t 24) (.c (.int .u64 3))) 23, Wh 26 (.bini .eql (.t 25) (.c (.int .u64 0))) 23, Wq 27 23 26, mv 28 27, Whm 29 6 28, Wh 30 (.bini .gtr (.t 29) (.c (.int .u8 5))) 28, Wq 31 28 30]
def A_wire_Reader_Tag_7 : LA := [mv 32 0, mv 33 4, Wc 34 32, Wf 35 1 34, Ws 1 35 33]
def A_wire_Reader_Tag_8 : LA := [mv 36 0, mv 37 4, o_ 38 (.call 131 [(.t 36), (i_ 12), (.t 37)])]
def A_wire_Reader_Tag_9 : LA := [o_ 2 (.mov (.c (.int .i32 0))), o_ 3 (.mov (.c (.int .u8 0)))]
def A_wire_Reader_Tag_10 : LA := [mv 39 5, o_ 40 (.bini .shr (.t 39) (.c (.int .u64 3))), o_ 41 (.conv .i32 (.t 40)), mv 42 6, mv 2 41, mv 3 42]
def A_wire_Reader_Tag : ACode := (.seq (.ops A_wire_Reader_Tag_0) (.seq (.ops A_wire_Reader_Tag_1) (.seq (.ops A_wire_Reader_Tag_2) (.seq (.seq (.ops A_wire_Reader_Tag_3) (.cond (.t 17) (.seq (.ops A_wire_Reader_Tag_4) .ret) .skip)) (.seq (.ops A_wire_Reader_Tag_5) (.seq (.seq (.ops A_wire_Reader_Tag_6) (.cond (.t 31) (.seq (.ops A_wire_Reader_Tag_7) (.seq (.ops A_wire_Reader_Tag_8) (.seq (.ops A_wire_Reader_Tag_9) .ret))) .skip)) (.seq (.ops A_wire_Reader_Tag_10) .ret)))))))
def R_wire_Reader_Tag : List ARes := [.tmp 2, .tmp 3]
theorem C_wire_Reader_Tag : compF Tryz.prog Tryz.f130 = some (A_wire_Reader_Tag, R_wire_Reader_Tag) := by kernel_rfl
theorem K_wire_Reader_Tag {md : Bool} {args : List AV} {h : Hp} {Q : Res → Hp → Prop} (hl : LCode Tryz.prog md A_wire_Reader_Tag (EndQ R_wire_Reader_Tag Q) (env0 43 args) h) (hn : args.length ≤ 43 := by (simp; done)) : CallL Tryz.prog F_wire_Reader_Tag args h Q :=
 CallL.of (md := md) Tryz.func130 C_wire_Reader_Tag (by rw [Tryz.ntmps130]; exact hn) (by rw [Tryz.ntmps130]; exact hl)
abbrev F_wire_Reader_span : Nat := 190
def A_wire_Reader_span_0 : LA := [Wm 2 0, Wm 3 0, Wo 4 false]
def A_wire_Reader_span_1 : LA := [mv 8 0, Wc 9 8, Wf 10 1 9, Wl 11 10, mv 5 11]
def A_wire_Reader_span_2 : LA := [mv 12 0, o_ 13 (.call 189 [(.t 12)]), mv 6 13]
def A_wire_Reader_span_3 : LA := [mv 14 0, Wc 15 14, Wf 16 3 15, Wl 17 16, Wi 18 .eql 17 0, mv 19 18, Wgm 20 6 19, Wgm 21 0 19, g_ 22 (.nilc (.t 21)) 19, Wgf 23 2 22 19, Wgl 24 23 19, Wgm 25 0 19, g_ 26 (.nilc (.t 25)) 19, Wgf 27 1 26 19, Wgl 28 27 19, g_ 29 (.bini .sub (.t 24) (.t 28)) 19, g_ 30 (.conv .u64 (.t 29)) 19, g_ 31 (.bini .gtr (.t 20) (.t 30)) 19, Wp 32 19 31]
def A_wire_Reader_span_4 : LA := [mv 33 0, mv 34 5, Wc 35 33, Wf 36 1 35, Ws 1 36 34]
def A_wire_Reader_span_5 : LA := [mv 37 0, mv 38 5, o_ 39 (.call 131 [(.t 37), (i_ 10), (.t 38)])]
def A_wire_Reader_span_6 : LA := [mv 40 0, Wc 41 40, Wf 42 3 41, Wl 43 42, Wi 44 .neq 43 0]
def A_wire_Reader_span_7 : LA := [Wm 2 0, Wm 3 0, Wo 4 false]
def A_wire_Reader_span_8 : LA := [mv 45 0, Wc 46 45, Wf 47 1 46, Wl 48 47, mv 7 48]
def A_wire_Reader_span_9 : LA := [mv 49 0, Wc 50 49, Wf 51 1 50, Wl 52 51, mv 53 6, o_ 54 (.conv .i64 (.t 53)), Wb 55 .add 52 54, Wc 56 49, Wf 57 1 56, Ws 1 57 55]
def A_wire_Reader_span_10 : LA := [mv 58 7, mv 59 0, Wc 60 59, Wf 61 1 60, Wl 62 61, mv 2 58, mv 3 62, Wo 4 true]
def A_wire_Reader_span : ACode := (.seq (.ops A_wire_Reader_span_0) (.seq (.ops A_wire_Reader_span_1) (.seq (.ops A_wire_Reader_span_2) (.seq (.seq (.alts [14, 15, 16, 17, 18, 19, 20, 21, 22, 23, 24, 25, 26, 27, 28, 29, 30, 31, 32] [A_wire_Reader_span_3]) (.cond (.t 32) (.seq (.ops A_wire_Reader_span_4) (.ops A_wire_Reader_span_5)) .skip)) (.seq (.seq (.ops A_wire_Reader_span_6) (.cond (.t 44) (.seq (.ops A_wire_Reader_span_7) .ret) .skip)) (.seq (.ops A_wire_Reader_span_8) (.seq (.ops A_wire_Reader_span_9) (.seq (.alts [58, 59, 60, 61, 62, 2, 3, 4] [A_wire_Reader_span_10]) .ret))))))))
def R_wire_Reader_span : List ARes := [.tmp 2, .tmp 3, .tmp 4]
theorem C_wire_Reader_span : compF Tryz.prog Tryz.f190 = some (A_wire_Reader_span, R_wire_Reader_span) := by kernel_rfl
theorem K_wire_Reader_span {md : Bool} {args : List AV} {h : Hp} {Q : Res → Hp → Prop} (hl : LCode Tryz.prog md A_wire_Reader_span (EndQ R_wire_Reader_span Q) (env0 63 args) h) (hn : args.length ≤ 63 := by (simp; done)) : CallL Tryz.prog F_wire_Reader_span args h Q :=
 CallL.of (md := md) Tryz.func190 C_wire_Reader_span (by rw [Tryz.ntmps190]; exact hn) (by rw [Tryz.ntmps190]; exact hl)
abbrev F_wire_Reader_Part : Nat := 184
def A_wire_Reader_Part_0 : LA := [mv 7 0, o_ 8 (.call 190 [(.t 7)]), mv 6 8, Wx 9 0 6, Wx 10 1 6, Wx 11 2 6, mv 3 9, mv 4 10, mv 5 11]
def A_wire_Reader_Part_1 : LA := [mv 12 5, o_ 13 (.not (.t 12))]
def A_wire_Reader_Part_2 : LA := [mv 14 0, o_ 15 (.call 241 [(.t 14)]), mv 2 15]
def A_wire_Reader_Part_3 : LA := [mv 16 0, Wc 17 16, Wf 18 0 17, Wl 19 18, mv 20 3, mv 21 4, o_ 22 (.build [.nils, .int .i64 (0), .int .i64 (0), .int .i64 (0), .int .i64 0] [(0, 1, (.t 19)), (1, 1, (.t 20)), (2, 1, (.t 21))]), o_ 23 (.box 208 5 (.t 22)), mv 2 23]
def A_wire_Reader_Part : ACode := (.seq (.ops [o_ 2 (.mov (.c (.nilp)))]) (.seq (.ops A_wire_Reader_Part_0) (.seq (.seq (.ops A_wire_Reader_Part_1) (.cond (.t 13) (.seq (.ops A_wire_Reader_Part_2) .ret) .skip)) (.seq (.ops A_wire_Reader_Part_3) .ret))))
def R_wire_Reader_Part : List ARes := [.tmp 2]
theorem C_wire_Reader_Part : compF Tryz.prog Tryz.f184 = some (A_wire_Reader_Part, R_wire_Reader_Part) := by kernel_rfl
theorem K_wire_Reader_Part {md : Bool} {args : List AV} {h : Hp} {Q : Res → Hp → Prop} (hl : LCode Tryz.prog md A_wire_Reader_Part (EndQ R_wire_Reader_Part Q) (env0 24 args) h) (hn : args.length ≤ 24 := by (simp; done)) : CallL Tryz.prog F_wire_Reader_Part args h Q :=
 CallL.of (md := md) Tryz.func184 C_wire_Reader_Part (by rw [Tryz.ntmps184]; exact hn) (by rw [Tryz.ntmps184]; exact hl)
end Go.Proofs.YtgjjbfhamlecoacGreatDoor

namespace Go.Proofs.YtgjjbfhamlecoacGreatDoor
open Go.L
structure RdOK (R : Nat) (cv : AV) (b : Str) (at_ en : Nat) (w : Int) (h : Hp) : Prop where
 row : h R = some (.row TR [RdC cv at_ en 0 w])
 own : OwnX Tb h cv (bt b)
 ne : blkOf cv ≠ some R
 le : at_ ≤ en
 len : en ≤ b.length
 big : b.length ≤ 1000000000000
theorem OwnX.setne {T : TypeId} {h : Hp} {u : AV} {d : List (List AV)} (o : OwnX T h u d) {R : Nat} (hn : blkOf u ≠ some R) (x : Blk) : OwnX T (h.set R x) u d := by
 rcases o with ⟨rfl, rfl⟩ | ⟨b, row, q, rfl, h1, h2⟩
 ·exact .inl ⟨rfl, rfl⟩
 ·exact .inr ⟨b, row, q, rfl, (Hp.set_ne fun e => hn (by rw [← e]; rfl)).trans h1, h2⟩
theorem RdOK.put {R : Nat} {cv : AV} {b : Str} {at_ en : Nat} {w : Int} {h : Hp} (k : RdOK R cv b at_ en w h) {a : Nat} (w' : Int) (ha : a ≤ en) : RdOK R cv b a en w' (h.set R (.row TR [RdC cv a en 0 w'])) :=
 ⟨Hp.set_same _ _ _, OwnX.setne k.own k.ne _, k.ne, ha, k.len, k.big⟩
theorem RdOK.gr {R : Nat} {cv : AV} {b : Str} {at_ en : Nat} {w : Int} {h h' : Hp} (k : RdOK R cv b at_ en w h) (g : Gr h h') : RdOK R cv b at_ en w h' :=
 ⟨g.blk k.row, k.own.gr g, k.ne, k.le, k.len, k.big⟩
def rest (b : Str) (at_ en : Nat) : Str := (b.take en).drop at_
theorem rest_len {b : Str} {at_ en : Nat} (h : en ≤ b.length) : (rest b at_ en).length = en - at_ := by
 rw [rest, List.length_drop, List.length_take]; omega
theorem rest_drop (b : Str) (at_ en n : Nat) : (rest b at_ en).drop n = rest b (at_ + n) en := List.drop_drop ..
theorem RdOK.varint {R : Nat} {cv : AV} {b : Str} {at_ en : Nat} {w : Int} {h : Hp} (k : RdOK R cv b at_ en w h) : CallL Tryz.prog F_wire_Reader_Varint [.ptr R 0 0] h (VarQ R cv at_ en w (rest b at_ en) h) :=
 rVarint_L R cv at_ en w b h k.row k.own k.ne k.le k.len k.big
def RdQ {α : Type} (R : Nat) (cv : AV) (at_ en : Nat) (w : Int) (h : Hp) (f : α → AV) (z : AV) (x : WR α) (r : Res) (h' : Hp) : Prop := match x with
 | .ok v n => r = .ret (f v) ∧ h' = h.set R (.row TR [RdC cv (at_ + n : Nat) en 0 w])
 | .bad e p => r = .ret z ∧ ∃ a : Nat, h' = h.set R (.row TR [RdC cv a en e (at_ + p : Nat)])
theorem RdQ.good {α : Type} {R : Nat} {cv : AV} {at_ en : Nat} {w : Int} {h : Hp} {f : α → AV} {z : AV} {x : WR α} {v : α} {n : Nat} (e : x = .ok v n) {r : Res} {h' : Hp} (hr : r = .ret (f v)) (hh : h' = h.set R (.row TR [RdC cv (at_ + n : Nat) en 0 w])) : RdQ R cv at_ en w h f z x r h' := by
 subst e; exact ⟨hr, hh⟩
theorem RdQ.wrong {α : Type} {R : Nat} {cv : AV} {at_ en : Nat} {w : Int} {h : Hp} {f : α → AV} {z : AV} {x : WR α} {e p : Nat} (hx : x = .bad e p) {h' : Hp} (a : Nat) (hh : h' = h.set R (.row TR [RdC cv a en e (at_ + p : Nat)])) : RdQ R cv at_ en w h f z x (.ret z) h' := by
 subst hx; exact ⟨rfl, a, hh⟩
def SpanQ (R : Nat) (cv : AV) (at_ en : Nat) (w : Int) (h : Hp) (x : WR Nat) (r : Res) (h' : Hp) : Prop := match x with
 | .ok v n => r = .ret (.tup [.int .i64 (at_ + v : Nat), .int .i64 (at_ + n : Nat), .bool true]) ∧ h' = h.set R (.row TR [RdC cv (at_ + n : Nat) en 0 w])
 | .bad e p => r = .ret (.tup [.int .i64 0, .int .i64 0, .bool false]) ∧ ∃ a : Nat, h' = h.set R (.row TR [RdC cv a en e (at_ + p : Nat)])
theorem SpanQ.good {R : Nat} {cv : AV} {at_ en : Nat} {w : Int} {h : Hp} {x : WR Nat} {v n : Nat} (e : x = .ok v n) {r : Res} {h' : Hp} (hr : r = .ret (.tup [.int .i64 (at_ + v : Nat), .int .i64 (at_ + n : Nat), .bool true])) (hh : h' = h.set R (.row TR [RdC cv (at_ + n : Nat) en 0 w])) : SpanQ R cv at_ en w h x r h' := by
 subst e; exact ⟨hr, hh⟩
theorem SpanQ.wrong {R : Nat} {cv : AV} {at_ en : Nat} {w : Int} {h : Hp} {x : WR Nat} {e p : Nat} (hx : x = .bad e p) {h' : Hp} (a : Nat) (hh : h' = h.set R (.row TR [RdC cv a en e (at_ + p : Nat)])) : SpanQ R cv at_ en w h x (.ret (.tup [.int .i64 0, .int .i64 0, .bool false])) h' := by
 subst hx; exact ⟨rfl, a, hh⟩
theorem Left_L (R : Nat) (cv : AV) (at_ en : Nat) (w : Int) (h : Hp) (hR : h R = some (.row TR [RdC cv at_ en 0 w])) (h1 : at_ ≤ en) (h2 : en ≤ 1000000000000) :
  CallL Tryz.prog F_wire_Reader_Left [.ptr R 0 0] h fun r h' => r = .ret (.int .i64 (en - at_ : Nat)) ∧ h' = h := by
 refine K_wire_Reader_Left (md := false) ?_
 refine ⟨_, _, _, _, hR, rfl, rfl, ?_⟩
 refine s_ne (fun h3 => absurd rfl h3) (fun _ => ?_)
 refine ⟨_, _, _, _, hR, rfl, rfl, ?_⟩
 refine ⟨_, _, _, _, hR, rfl, rfl, ?_⟩
 refine s_nat (en - at_) (by omega) (by omega) ?_
 exact ⟨rfl, rfl, rfl⟩
theorem and7 (v : Nat) (hv : v < 18446744073709551616) : ibits .and .u64 (v : Int) 7 = ((v % 8 : Nat) : Int) := by
 have e : BitVec.ofInt IntKind.u64.bits ((v : Nat) : Int) = BitVec.ofNat 64 v := BitVec.ofInt_natCast 64 _
 have e2 : BitVec.ofInt IntKind.u64.bits 7 = 7#64 := rfl
 rw [ibits, e, e2]
 show IntKind.u64.wrap ((BitVec.ofNat 64 v &&& 7#64).toNat : Int) = _
 have h1 : (BitVec.ofNat 64 v &&& 7#64).toNat = v % 8 := by
  rw [BitVec.toNat_and, BitVec.toNat_ofNat, Nat.mod_eq_of_lt (by omega)]
  exact Nat.and_two_pow_sub_one_eq_mod v 3
 rw [h1, u64_nat (by omega)]
theorem i32_nat {v : Nat} (h : v < 2147483648) : IntKind.i32.wrap (v : Int) = (v : Int) := by rw [IntKind.wrap_i32]; omega
theorem Tag_L {R : Nat} {cv : AV} {b : Str} {at_ en : Nat} {w : Int} {h : Hp} (k : RdOK R cv b at_ en w h) :
  CallL Tryz.prog F_wire_Reader_Tag [.ptr R 0 0] h (RdQ R cv at_ en w h (fun x : Nat × Nat => .tup [.int .i32 x.1, .int .u8 x.2]) (.tup [.int .i32 0, .int .u8 0]) (tagR (rest b at_ en))) := by
 refine K_wire_Reader_Tag (md := false) ?_
 refine ⟨_, _, _, _, k.row, rfl, rfl, ?_⟩
 refine k.varint.mono ?_
 rintro r h' hq
 unfold VarQ at hq
 rcases hx : rdV (rest b at_ en) with ⟨v, n⟩ | _ | _
 ·rw [hx] at hq
  obtain ⟨rfl, rfl⟩ := hq
  have hv := (rdV_lt hx).2.2
  have hs := Hp.set_same h R (.row TR [RdC cv (at_ + n : Nat) en 0 w])
  have hbad : (4294967295 < v ∨ v / 8 = 0 ∨ 5 < v % 8) → tagR (rest b at_ en) = .bad 12 0 := fun hc => by rw [tagR, hx]; exact if_pos hc
  have hgood : ¬ (4294967295 < v ∨ v / 8 = 0 ∨ 5 < v % 8) → tagR (rest b at_ en) = .ok (v / 8, v % 8) n := fun hc => by rw [tagR, hx]; exact if_neg hc
  refine ⟨_, _, _, _, hs, rfl, rfl, ?_⟩
  refine s_ne (fun h3 => absurd rfl h3) (fun _ => ?_)
  refine s_ie (and7 v hv) ?_
  refine s_ie ((u8_nat (v % 8)).trans (by rw [Nat.mod_eq_of_lt (show v % 8 < 256 by omega)])) ?_
  refine s_lt (fun (h4 : (4294967295 : Int) < (v : Nat)) => ?_) (fun (h4 : ((v : Nat) : Int) ≤ 4294967295) => ?_)
  ·refine ⟨_, _, _, hs, rfl, rfl, rfl, rfl, by show 2 ≤ 5; decide, ?_⟩
   refine (rwrong_L R cv at_ en w 12 at_ _ (Hp.set_same _ _ _)).mono ?_
   rintro r h' ⟨rfl, rfl⟩
   exact ⟨rfl, RdQ.wrong (hbad (by omega)) at_ ((Hp.set_set _ _ _ _).trans (Hp.set_set _ _ _ _))⟩
  ·refine ⟨by decide, s_ie (shrN (k := 3) rfl (by decide)) ?_⟩
   refine s_eq (fun (h5 : ((v / 2 ^ 3 : Nat) : Int) = 0) => ?_) (fun (h5 : ((v / 2 ^ 3 : Nat) : Int) ≠ 0) => ?_)
   ·refine ⟨_, _, _, hs, rfl, rfl, rfl, rfl, by show 2 ≤ 5; decide, ?_⟩
    refine (rwrong_L R cv at_ en w 12 at_ _ (Hp.set_same _ _ _)).mono ?_
    rintro r h' ⟨rfl, rfl⟩
    exact ⟨rfl, RdQ.wrong (hbad (by omega)) at_ ((Hp.set_set _ _ _ _).trans (Hp.set_set _ _ _ _))⟩
   ·refine s_lt (fun (h6 : (5 : Int) < (v % 8 : Nat)) => ?_) (fun (h6 : ((v % 8 : Nat) : Int) ≤ 5) => ?_)
    ·refine ⟨_, _, _, hs, rfl, rfl, rfl, rfl, by show 2 ≤ 5; decide, ?_⟩
     refine (rwrong_L R cv at_ en w 12 at_ _ (Hp.set_same _ _ _)).mono ?_
     rintro r h' ⟨rfl, rfl⟩
     exact ⟨rfl, RdQ.wrong (hbad (by omega)) at_ ((Hp.set_set _ _ _ _).trans (Hp.set_set _ _ _ _))⟩
    ·refine ⟨by decide, s_ie (shrN (k := 3) rfl (by decide)) ?_⟩
     refine s_ie (i32_nat (v := v / 2 ^ 3) (by omega)) ?_
     exact ⟨rfl, RdQ.good (hgood (by omega)) rfl rfl⟩
 ·rw [hx] at hq
  obtain ⟨rfl, rfl⟩ := hq
  have hs := Hp.set_same h R (.row TR [RdC cv at_ en 10 at_])
  refine ⟨_, _, _, _, hs, rfl, rfl, ?_⟩
  refine s_ne (fun _ => ?_) (fun h3 => absurd h3 (by decide))
  exact ⟨rfl, RdQ.wrong (p := 0) (show tagR _ = .bad 10 0 by rw [tagR, hx]) at_ rfl⟩
 ·rw [hx] at hq
  obtain ⟨rfl, rfl⟩ := hq
  have hs := Hp.set_same h R (.row TR [RdC cv at_ en 11 at_])
  refine ⟨_, _, _, _, hs, rfl, rfl, ?_⟩
  refine s_ne (fun _ => ?_) (fun h3 => absurd h3 (by decide))
  exact ⟨rfl, RdQ.wrong (p := 0) (show tagR _ = .bad 11 0 by rw [tagR, hx]) at_ rfl⟩
theorem span_L {R : Nat} {cv : AV} {b : Str} {at_ en : Nat} {w : Int} {h : Hp} (k : RdOK R cv b at_ en w h) :
  CallL Tryz.prog F_wire_Reader_span [.ptr R 0 0] h (SpanQ R cv at_ en w h (spanR (rest b at_ en))) := by
 have hrl := rest_len (at_ := at_) k.len
 have hle := k.le
 have hlen := k.len
 have hbig := k.big
 refine K_wire_Reader_span (md := false) ?_
 refine ⟨_, _, _, _, k.row, rfl, rfl, ?_⟩
 refine k.varint.mono ?_
 rintro r h' hq
 unfold VarQ at hq
 rcases hx : rdV (rest b at_ en) with ⟨v, n⟩ | _ | _
 ·rw [hx] at hq
  obtain ⟨rfl, rfl⟩ := hq
  have hv := rdV_lt hx
  have e1 : at_ + n + v = at_ + (n + v) := Nat.add_assoc _ _ _
  have hbad : (rest b at_ en).length - n < v → spanR (rest b at_ en) = .bad 10 0 := fun hc => by rw [spanR, hx]; exact if_pos hc
  have hgood : ¬ (rest b at_ en).length - n < v → spanR (rest b at_ en) = .ok n (n + v) := fun hc => by rw [spanR, hx]; exact if_neg hc
  have hs := Hp.set_same h R (.row TR [RdC cv (at_ + n : Nat) en 0 w])
  refine ⟨_, _, _, _, hs, rfl, rfl, ?_⟩
  refine s_eq (fun _ => ?_) (fun h3 => absurd rfl h3)
  refine ⟨_, _, _, _, hs, rfl, rfl, ?_⟩
  refine ⟨_, _, _, _, hs, rfl, rfl, ?_⟩
  refine s_nat (en - (at_ + n)) (by omega) (by omega) ?_
  refine s_ie (u64_nat (v := en - (at_ + n)) (by omega)) ?_
  refine s_lt (fun (h4 : ((en - (at_ + n) : Nat) : Int) < (v : Nat)) => ?_) (fun (h4 : ((v : Nat) : Int) ≤ (en - (at_ + n) : Nat)) => ?_)
  ·refine ⟨_, _, _, hs, rfl, rfl, rfl, rfl, by show 2 ≤ 5; decide, ?_⟩
   refine (rwrong_L R cv at_ en w 10 at_ _ (Hp.set_same _ _ _)).mono ?_
   rintro r h' ⟨rfl, rfl⟩
   refine ⟨_, _, _, _, Hp.set_same _ _ _, rfl, rfl, ?_⟩
   refine s_ne (fun _ => ?_) (fun h3 => absurd h3 (by decide))
   exact ⟨rfl, SpanQ.wrong (hbad (by omega)) at_ ((Hp.set_set _ _ _ _).trans (Hp.set_set _ _ _ _))⟩
  ·refine ⟨_, _, _, _, hs, rfl, rfl, ?_⟩
   refine s_ne (fun h3 => absurd rfl h3) (fun _ => ?_)
   refine ⟨_, _, _, _, hs, rfl, rfl, ?_⟩
   refine ⟨_, _, _, _, hs, rfl, rfl, ?_⟩
   refine s_nat v rfl (by omega) ?_
   refine s_nat (at_ + n + v) (by omega) (by omega) ?_
   refine ⟨_, _, _, hs, rfl, rfl, rfl, rfl, by show 2 ≤ 5; decide, ?_⟩
   refine ⟨_, _, _, _, Hp.set_same _ _ _, rfl, rfl, ?_⟩
   exact ⟨rfl, SpanQ.good (hgood (by omega)) (congrArg (fun z : Nat => Res.ret (.tup [.int .i64 (at_ + n : Nat), .int .i64 z, .bool true])) e1) ((Hp.set_set _ _ _ _).trans (congrArg (fun z : Nat => h.set R (.row TR [RdC cv z en 0 w])) e1))⟩
 ·rw [hx] at hq
  obtain ⟨rfl, rfl⟩ := hq
  have hs := Hp.set_same h R (.row TR [RdC cv at_ en 10 at_])
  refine ⟨_, _, _, _, hs, rfl, rfl, ?_⟩
  refine s_eq (fun h3 => absurd h3 (by decide)) (fun _ => ?_)
  refine ⟨_, _, _, _, hs, rfl, rfl, ?_⟩
  refine s_ne (fun _ => ?_) (fun h3 => absurd h3 (by decide))
  exact ⟨rfl, SpanQ.wrong (p := 0) (show spanR _ = .bad 10 0 by rw [spanR, hx]) at_ rfl⟩
 ·rw [hx] at hq
  obtain ⟨rfl, rfl⟩ := hq
  have hs := Hp.set_same h R (.row TR [RdC cv at_ en 11 at_])
  refine ⟨_, _, _, _, hs, rfl, rfl, ?_⟩
  refine s_eq (fun h3 => absurd h3 (by decide)) (fun _ => ?_)
  refine ⟨_, _, _, _, hs, rfl, rfl, ?_⟩
  refine s_ne (fun _ => ?_) (fun h3 => absurd h3 (by decide))
  exact ⟨rfl, SpanQ.wrong (p := 0) (show spanR _ = .bad 11 0 by rw [spanR, hx]) at_ rfl⟩
end Go.Proofs.YtgjjbfhamlecoacGreatDoor

namespace Go.Proofs.YtgjjbfhamlecoacGreatDoor
open Go.L
end Go.Proofs.YtgjjbfhamlecoacGreatDoor

namespace Go.Proofs.YtgjjbfhamlecoacGreatDoor
open Go.L
theorem tagR_bad {s : Str} {e p : Nat} (h : tagR s = .bad e p) : e ≠ 0 := by
 unfold tagR at h
 split at h
 ·split at h <;> cases h; decide
 ·cases h; decide
 ·cases h; decide
abbrev EndW (R : Nat) (cv : AV) (at_ en : Nat) (h : Hp) (e p : Nat) (h' : Hp) : Prop := ∃ a : Nat, h' = h.set R (.row TR [RdC cv a en e (at_ + p : Nat)])
def ConQ (R : Nat) (cv : AV) (at_ en : Nat) (w : Int) (h : Hp) (x : WR Unit) (r : Res) (h' : Hp) : Prop := RdQ R cv at_ en w h (fun _ => .tup []) (.tup []) x r h'
theorem ConQ.unit {α : Type} {R : Nat} {cv : AV} {at_ en : Nat} {w : Int} {h h' : Hp} {x : WR α} (k : (∃ v n, x = .ok v n ∧ h' = h.set R (.row TR [RdC cv (at_ + n : Nat) en 0 w])) ∨ ∃ e p, x = .bad e p ∧ EndW R cv at_ en h e p h') :
  ConQ R cv at_ en w h x.unit (.ret (.tup [])) h' := by
 rcases k with ⟨v, n, rfl, rfl⟩ | ⟨e, p, rfl, a, rfl⟩
 ·exact ⟨rfl, rfl⟩
 ·exact ⟨rfl, a, rfl⟩
inductive GS where
 | on (o : Nat)
 | bad (e p a : Nat)
def GS.hp (R : Nat) (cv : AV) (at_ en : Nat) (w : Int) (h : Hp) : GS → Hp
 | .on o => h.set R (.row TR [RdC cv (at_ + o : Nat) en 0 w])
 | .bad e p a => h.set R (.row TR [RdC cv a en e (at_ + p : Nat)])
def GS.ok (len k : Nat) (x : WR Nat) (f : Nat → Nat → WR Nat) : GS → Prop
 | .on o => k ≤ o ∧ o ≤ len ∧ ∀ g, len < g + o → x = f g o
 | .bad e p _ => k ≤ len + 1 ∧ e ≠ 0 ∧ x = .bad e p
end Go.Proofs.YtgjjbfhamlecoacGreatDoor

namespace Go.Proofs.YtgjjbfhamlecoacGreatDoor
open Go.L
end Go.Proofs.YtgjjbfhamlecoacGreatDoor

namespace Go.Proofs.YtgjjbfhamlecoacGreatDoor
open Go.L
def NewRd (b : Str) (h : Hp) (r : Res) (h' : Hp) : Prop := ∃ R cv, r = .ret (.ptr R 0 0) ∧ h.u R = false ∧ Gr h h' ∧ RdOK R cv b 0 b.length 0 h' ∧ ∀ B, blkOf cv = some B → h.u B = false
theorem RdC_lay {v : AV} (hv : notTup v = true ∧ v.cells = [v] ∧ flat [v] = true) {n : Int} {e : Env} {x y : AOpd} (hx : ev e x = v) (hy : ev e y = .int .i64 n) : lay e [.nils, .int .i64 0, .int .i64 0, .int .i64 0, .int .i64 0] [(0, 1, x), (2, 1, y)] = some (RdC v 0 n 0 0) := by
 rw [lay, hx, hv.1, hv.2.1]
 simp only [List.length_cons, List.length_nil, Nat.reduceAdd, Bool.true_and, Nat.beq_eq, Nat.ble_eq]
 show lay e _ _ = _
 rw [lay, hy]
 rfl
theorem NewRd_slc (i k T : Nat) (c : Option Nat) (es : List (List AV)) (l : Str) (h : Hp) (hi : h i = some (.row T es)) (hk : k + l.length ≤ es.length) (hs : (es.drop k).take l.length = bt l) (hl : l.length ≤ 1000000000000) :
  CallL Tryz.prog F_wire_NewReader [.slc i k l.length c] h (NewRd l h) := by
 refine K_wire_NewReader (md := false) ?_
 refine (Clone_slc i k T c es l h hi hk hs hl).mono ?_
 rintro r h1 ⟨v, rfl, ho, hg, hn⟩
 refine ⟨_, RdC_lay ho.one rfl rfl, ?_⟩
 refine ⟨rfl, rfl, fun R hR => ?_⟩
 have hne : blkOf v ≠ some R := fun e => by have := ho.used e; rw [hR.1] at this; cases this
 exact ⟨rfl, R, v, rfl, hg.new hR.1, hg.set (hg.new hR.1) _, ⟨Hp.set_same _ _ _, ho.gr (Gr.new1 _ hR.1 _), hne, Nat.zero_le _, Nat.le_refl _, hl⟩, hn⟩
theorem rest_all (b : Str) (o : Nat) : rest b o b.length = b.drop o := by rw [rest, List.take_length]
inductive CS where
 | on (o : Nat) (H : Hp)
 | bad (e p a : Nat) (H : Hp)
def CS.hp : CS → Hp
 | .on _ H => H
 | .bad _ _ _ H => H
def CS.ok (R : Nat) (cv : AV) (b : Str) (d : Nat) (h : Hp) (k : Nat) (X : Nat × Nat) : CS → Prop
 | .on o H => k ≤ o ∧ o ≤ b.length ∧ RdOK R cv b o b.length 0 H ∧ Gr h H ∧ ∀ g, b.length < g + o → X = fldR d b g o
 | .bad e p a H => k ≤ b.length + 1 ∧ e ≠ 0 ∧ X = (e, p) ∧ H R = some (.row TR [RdC cv a b.length e p]) ∧ Gr h H
end Go.Proofs.YtgjjbfhamlecoacGreatDoor

namespace Go.Proofs.YtgjjbfhamlecoacGreatDoor
open Go.L
abbrev F_table_Set_Table : Nat := 338
def A_table_Set_Table_0 : LA := [o_ 4 (.mov (.c (.nilp))), Wm 5 0]
def A_table_Set_Table_1 : LA := [mv 9 0, Wc 10 9, Wf 11 0 10, o_ 12 (.call 339 [(.t 11)])]
def A_table_Set_Table_2 : LA := [mv 13 0, Wc 14 13, Wf 15 0 14]
def A_table_Set_Table_3 : LA := [mv 16 0, Wc 17 16, Wf 18 3 17, Wl 19 18, mv 20 1, o_ 21 (.mlook .s (.nilp) false (.t 19) (.t 20)), mv 6 21]
def A_table_Set_Table_4 : LA := [mv 22 6, o_ 23 (.isnil .pt true (.t 22))]
def A_table_Set_Table_5 : LA := [mv 24 6, mv 4 24, Wm 5 0]
def A_table_Set_Table_6 : LA := [mv 26 0, Wc 27 26, Wf 28 2 27, Wl 29 28, mv 30 1, o_ 31 (.call 341 [(.t 29), (.t 30)]), mv 25 31, Wx 32 0 25, Wx 33 1 25, mv 7 32, mv 8 33]
def A_table_Set_Table_7 : LA := [mv 34 8, Wi 35 .eql 34 0]
def A_table_Set_Table_8 : LA := [mv 36 0, Wc 37 36, Wf 38 3 37, Wl 39 38, mv 40 1, mv 41 7, n_ (.mupd .s (.t 39) (.t 40) (.t 41))]
def A_table_Set_Table_9 : LA := [mv 42 7, mv 43 8, mv 4 42, mv 5 43]
def A_table_Set_Table : ACode := (.seq (.ops A_table_Set_Table_0) (.seq (.ops A_table_Set_Table_1) (.seq (.seq (.ops A_table_Set_Table_2) (.dfr (.f 340) [(.t 15)])) (.seq (.seq (.ops A_table_Set_Table_3) (.seq (.ops A_table_Set_Table_4) (.cond (.t 23) (.seq (.ops A_table_Set_Table_5) .ret) .skip))) (.seq (.ops A_table_Set_Table_6) (.seq (.seq (.ops A_table_Set_Table_7) (.cond (.t 35) (.ops A_table_Set_Table_8) .skip)) (.seq (.ops A_table_Set_Table_9) .ret)))))))
def R_table_Set_Table : List ARes := [.tmp 4, .tmp 5]
theorem C_table_Set_Table : compF Tryz.prog Tryz.f338 = some (A_table_Set_Table, R_table_Set_Table) := by kernel_rfl
abbrev F_sync_Mutex_Lock : Nat := 339
def A_sync_Mutex_Lock_0 : LA := [mv 2 0, Wc 3 2, Wf 4 0 3, o_ 5 (.call 342 [(.t 4)])]
def A_sync_Mutex_Lock : ACode := (.ops A_sync_Mutex_Lock_0)
def R_sync_Mutex_Lock : List ARes := []
theorem C_sync_Mutex_Lock : compF Tryz.prog Tryz.f339 = some (A_sync_Mutex_Lock, R_sync_Mutex_Lock) := by kernel_rfl
theorem K_sync_Mutex_Lock {md : Bool} {args : List AV} {h : Hp} {Q : Res → Hp → Prop} (hl : LCode Tryz.prog md A_sync_Mutex_Lock (EndQ R_sync_Mutex_Lock Q) (env0 6 args) h) (hn : args.length ≤ 6 := by (simp; done)) : CallL Tryz.prog F_sync_Mutex_Lock args h Q :=
 CallL.of (md := md) Tryz.func339 C_sync_Mutex_Lock (by rw [Tryz.ntmps339]; exact hn) (by rw [Tryz.ntmps339]; exact hl)
abbrev F_sync_Mutex_Unlock : Nat := 340
def A_sync_Mutex_Unlock_0 : LA := [mv 2 0, Wc 3 2, Wf 4 0 3, o_ 5 (.call 343 [(.t 4)])]
def A_sync_Mutex_Unlock : ACode := (.ops A_sync_Mutex_Unlock_0)
def R_sync_Mutex_Unlock : List ARes := []
theorem C_sync_Mutex_Unlock : compF Tryz.prog Tryz.f340 = some (A_sync_Mutex_Unlock, R_sync_Mutex_Unlock) := by kernel_rfl
abbrev F_isync_Lock : Nat := 342
def A_isync_Lock_0 : LA := [mv 3 0, Wc 4 3, Wf 5 0 4, o_ 6 (.cas .i32 (.t 5) (.c (.int .i32 0)) (.c (.int .i32 1)))]
def A_isync_Lock_1 : LA := [mv 8 0, o_ 9 (.upc (.t 8)), o_ 10 (.rac (.t 9))]
def A_isync_Lock_2 : LA := [mv 11 0, o_ 12 (.call 353 [(.t 11)])]
def A_isync_Lock : ACode := (.seq (.ops [o_ 2 (.mov (.c (.tup [])))]) (.seq (.seq (.ops A_isync_Lock_0) (.cond (.t 6) (.seq (.cond (.c (.bool true)) (.seq (.ops [o_ 7 (.mov (.c (.tup [])))]) (.ops A_isync_Lock_1)) .skip) .ret) .skip)) (.ops A_isync_Lock_2)))
def R_isync_Lock : List ARes := []
theorem C_isync_Lock : compF Tryz.prog Tryz.f342 = some (A_isync_Lock, R_isync_Lock) := by kernel_rfl
theorem K_isync_Lock {md : Bool} {args : List AV} {h : Hp} {Q : Res → Hp → Prop} (hl : LCode Tryz.prog md A_isync_Lock (EndQ R_isync_Lock Q) (env0 13 args) h) (hn : args.length ≤ 13 := by (simp; done)) : CallL Tryz.prog F_isync_Lock args h Q :=
 CallL.of (md := md) Tryz.func342 C_isync_Lock (by rw [Tryz.ntmps342]; exact hn) (by rw [Tryz.ntmps342]; exact hl)
abbrev F_isync_Unlock : Nat := 343
def A_isync_Unlock_0 : LA := [mv 3 0, Wc 4 3, Wf 5 0 4, Wl 6 5]
def A_isync_Unlock_1 : LA := [mv 7 0, o_ 8 (.upc (.t 7)), o_ 9 (.rac (.t 8))]
def A_isync_Unlock_2 : LA := [mv 11 0, Wc 12 11, Wf 13 0 12, o_ 14 (.xadd .i32 (.t 13) (.c (.int .i32 (-1)))), mv 2 14]
def A_isync_Unlock_3 : LA := [mv 15 2, o_ 16 (.bini .neq (.t 15) (.c (.int .i32 0)))]
def A_isync_Unlock_4 : LA := [mv 17 0, mv 18 2, o_ 19 (.call 356 [(.t 17), (.t 18)])]
def A_isync_Unlock : ACode := (.seq (.cond (.c (.bool true)) (.seq (.ops A_isync_Unlock_0) (.seq (.ops A_isync_Unlock_1) (.ops [o_ 10 (.mov (.c (.tup [])))]))) .skip) (.seq (.ops A_isync_Unlock_2) (.seq (.seq (.ops A_isync_Unlock_3) (.cond (.t 16) (.ops A_isync_Unlock_4) .skip)) (.ops [o_ 20 (.mov (.c (.tup [])))]))))
def R_isync_Unlock : List ARes := []
theorem C_isync_Unlock : compF Tryz.prog Tryz.f343 = some (A_isync_Unlock, R_isync_Unlock) := by kernel_rfl
theorem K_isync_Unlock {md : Bool} {args : List AV} {h : Hp} {Q : Res → Hp → Prop} (hl : LCode Tryz.prog md A_isync_Unlock (EndQ R_isync_Unlock Q) (env0 21 args) h) (hn : args.length ≤ 21 := by (simp; done)) : CallL Tryz.prog F_isync_Unlock args h Q :=
 CallL.of (md := md) Tryz.func343 C_isync_Unlock (by rw [Tryz.ntmps343]; exact hn) (by rw [Tryz.ntmps343]; exact hl)
abbrev F_table_Table_Find : Nat := 71
def A_table_Table_Find_0 : LA := [o_ 4 (.box 174 9 (.c (.agg [.int .i32 (0), .str [], .str [], .int .u8 (0), .int .u8 (0), .int .u8 (0), .bool false, .int .i64 (0), .str []]))), Wo 5 false]
def A_table_Table_Find_1 : LA := [mv 9 0, Wc 10 9, Wf 11 3 10, Wl 12 11, mv 13 1, o_ 14 (.mlook .i (.int .i64 0) true (.t 12) (.t 13)), mv 8 14, Wx 15 0 8, Wx 16 1 8, mv 6 15, mv 7 16]
def A_table_Table_Find_2 : LA := [mv 17 0, mv 18 6, mv 19 7, o_ 20 (.call 129 [(.t 17), (.t 18), (.t 19)]), Wx 21 0 20, Wx 22 1 20, Ws 9 4 21, mv 5 22]
def A_table_Table_Find : ACode := (.seq (.ops A_table_Table_Find_0) (.seq (.ops A_table_Table_Find_1) (.seq (.ops A_table_Table_Find_2) .ret)))
def R_table_Table_Find : List ARes := [.cella 4 9, .tmp 5]
theorem C_table_Table_Find : compF Tryz.prog Tryz.f71 = some (A_table_Table_Find, R_table_Table_Find) := by kernel_rfl
theorem K_table_Table_Find {md : Bool} {args : List AV} {h : Hp} {Q : Res → Hp → Prop} (hl : LCode Tryz.prog md A_table_Table_Find (EndQ R_table_Table_Find Q) (env0 23 args) h) (hn : args.length ≤ 23 := by (simp; done)) : CallL Tryz.prog F_table_Table_Find args h Q :=
 CallL.of (md := md) Tryz.func71 C_table_Table_Find (by rw [Tryz.ntmps71]; exact hn) (by rw [Tryz.ntmps71]; exact hl)
abbrev F_table_Table_at : Nat := 129
def A_table_Table_at_0 : LA := [o_ 6 (.box 174 9 (.c (.agg [.int .i32 (0), .str [], .str [], .int .u8 (0), .int .u8 (0), .int .u8 (0), .bool false, .int .i64 (0), .str []]))), Wo 7 false]
def A_table_Table_at_1 : LA := [mv 8 2, o_ 9 (.not (.t 8))]
def A_table_Table_at_2 : LA := [o_ 10 (.build [.int .i32 (0), .str [], .str [], .int .u8 (0), .int .u8 (0), .int .u8 (0), .bool false, .int .i64 (0), .str []] []), Ws 9 6 10, Wo 7 false]
def A_table_Table_at_3 : LA := [mv 11 0, Wc 12 11, Wf 13 2 12, Wl 14 13, mv 15 1, Wa 16 174 9 14 15, Wd 17 9 16, Ws 9 6 17, Wo 7 true]
def A_table_Table_at : ACode := (.seq (.ops A_table_Table_at_0) (.seq (.seq (.ops A_table_Table_at_1) (.cond (.t 9) (.seq (.ops A_table_Table_at_2) .ret) .skip)) (.seq (.ops A_table_Table_at_3) .ret)))
def R_table_Table_at : List ARes := [.cella 6 9, .tmp 7]
theorem C_table_Table_at : compF Tryz.prog Tryz.f129 = some (A_table_Table_at, R_table_Table_at) := by kernel_rfl
theorem K_table_Table_at {md : Bool} {args : List AV} {h : Hp} {Q : Res → Hp → Prop} (hl : LCode Tryz.prog md A_table_Table_at (EndQ R_table_Table_at Q) (env0 18 args) h) (hn : args.length ≤ 18 := by (simp; done)) : CallL Tryz.prog F_table_Table_at args h Q :=
 CallL.of (md := md) Tryz.func129 C_table_Table_at (by rw [Tryz.ntmps129]; exact hn) (by rw [Tryz.ntmps129]; exact hl)
abbrev F_table_Table_Type : Nat := 81
def A_table_Table_Type_0 : LA := [mv 3 0, Wc 4 3, Wf 5 0 4, Wl 6 5, mv 2 6]
def A_table_Table_Type : ACode := (.seq (.ops [o_ 2 (.mov (.c (.str [])))]) (.seq (.ops A_table_Table_Type_0) .ret))
def R_table_Table_Type : List ARes := [.tmp 2]
theorem C_table_Table_Type : compF Tryz.prog Tryz.f81 = some (A_table_Table_Type, R_table_Table_Type) := by kernel_rfl
theorem K_table_Table_Type {md : Bool} {args : List AV} {h : Hp} {Q : Res → Hp → Prop} (hl : LCode Tryz.prog md A_table_Table_Type (EndQ R_table_Table_Type Q) (env0 7 args) h) (hn : args.length ≤ 7 := by (simp; done)) : CallL Tryz.prog F_table_Table_Type args h Q :=
 CallL.of (md := md) Tryz.func81 C_table_Table_Type (by rw [Tryz.ntmps81]; exact hn) (by rw [Tryz.ntmps81]; exact hl)
abbrev F_decode_Decode : Nat := 9
def A_decode_Decode_0 : LA := [o_ 6 (.box 44 3 (.c (.agg [.str [], .nils, .nils]))), Wm 7 0, Wm 8 0]
def A_decode_Decode_1 : LA := [mv 9 0, mv 10 1, o_ 11 (.build [.str [], .nils, .nils] [(0, 1, (.t 10))]), mv 12 2, o_ 13 (.call 18 [(.t 9), (.t 11), (.t 12)]), Wx 14 0 13, Wx 15 1 13, Wx 16 2 13, Ws 3 6 14, mv 7 15, mv 8 16]
def A_decode_Decode : ACode := (.seq (.ops A_decode_Decode_0) (.seq (.ops A_decode_Decode_1) .ret))
def R_decode_Decode : List ARes := [.cella 6 3, .tmp 7, .tmp 8]
theorem C_decode_Decode : compF Tryz.prog Tryz.f9 = some (A_decode_Decode, R_decode_Decode) := by kernel_rfl
theorem K_decode_Decode {md : Bool} {args : List AV} {h : Hp} {Q : Res → Hp → Prop} (hl : LCode Tryz.prog md A_decode_Decode (EndQ R_decode_Decode Q) (env0 17 args) h) (hn : args.length ≤ 17 := by (simp; done)) : CallL Tryz.prog F_decode_Decode args h Q :=
 CallL.of (md := md) Tryz.func9 C_decode_Decode (by rw [Tryz.ntmps9]; exact hn) (by rw [Tryz.ntmps9]; exact hl)
abbrev F_decode_Into : Nat := 18
def A_decode_Into_0 : LA := [o_ 4 (.box 44 3 (.t 1)), o_ 6 (.box 44 3 (.c (.agg [.str [], .nils, .nils]))), o_ 7 (.box 26 1 (i_ 0)), o_ 8 (.box 3 1 (i_ 0))]
def A_decode_Into_1 : LA := [mv 16 0, Wf 17 0 4, Wl 18 17, o_ 19 (.inv [(37, 338)] (.t 16) [(.t 18)]), mv 15 19, Wx 20 0 15, Wx 21 1 15, mv 9 20, mv 10 21]
def A_decode_Into_2 : LA := [mv 22 10, Wi 23 .neq 22 0]
def A_decode_Into_3 : LA := [o_ 24 (.build [.str [], .nils, .nils] []), mv 25 10, Ws 3 6 24, Ws 1 7 25, n_ (.st 1 (.t 8) (i_ 0))]
def A_decode_Into_4 : LA := [mv 27 0, Wd 28 3 4, o_ 29 (.call 32 [(.t 27), (.t 28)]), mv 26 29, Wx 30 0 26, Wx 31 1 26, o_ 11 (.box 44 3 (.c (.agg [.str [], .nils, .nils]))), Ws 3 11 30, mv 12 31]
def A_decode_Into_5 : LA := [mv 32 12, Wi 33 .neq 32 0]
def A_decode_Into_6 : LA := [o_ 34 (.build [.str [], .nils, .nils] []), mv 35 12, Ws 3 6 34, Ws 1 7 35, n_ (.st 1 (.t 8) (i_ 0))]
def A_decode_Into_7 : LA := [mv 36 2, We 37 36, Wi 38 .gtr 37 16777216]
def A_decode_Into_8 : LA := [o_ 39 (.build [.str [], .nils, .nils] []), Ws 3 6 39, n_ (.st 1 (.t 7) (i_ 15)), n_ (.st 1 (.t 8) (i_ 0))]
def A_decode_Into_9 : LA := [mv 41 0, mv 42 2, o_ 43 (.call 34 []), o_ 44 (.build [.nili, .nils, .nils] [(0, 1, (.t 41)), (1, 1, (.t 42)), (2, 1, (.t 43))]), o_ 45 (.box 126 3 (.t 44)), mv 13 45]
def A_decode_Into_10 : LA := [mv 46 13, Wd 47 3 11, o_ 48 (.call 35 [(.t 46), (.t 47)]), mv 14 48]
def A_decode_Into_11 : LA := [mv 49 13, mv 50 14, mv 51 2, o_ 52 (.call 37 [(.t 51)]), o_ 53 (.call 36 [(.t 49), (.t 50), (.t 52), (i_ 1)])]
def A_decode_Into_12 : LA := [mv 54 14, o_ 55 (.call 38 [(.t 54)]), Ws 3 6 55, n_ (.st 1 (.t 7) (i_ 0)), n_ (.st 1 (.t 8) (i_ 0))]
def A_decode_Into : ACode := (.seq (.ops A_decode_Into_0) (.seq (.seq (.ops A_decode_Into_1) (.seq (.ops A_decode_Into_2) (.cond (.t 23) (.seq (.ops A_decode_Into_3) .ret) .skip))) (.seq (.ops A_decode_Into_4) (.seq (.seq (.ops A_decode_Into_5) (.cond (.t 33) (.seq (.ops A_decode_Into_6) .ret) .skip)) (.seq (.seq (.ops A_decode_Into_7) (.cond (.t 38) (.seq (.ops A_decode_Into_8) .ret) .skip)) (.seq (.seq (.ops [o_ 40 (.mkfn 33 [] [(.t 6), (.t 7), (.t 8)])]) (.dfr (.t 40) [])) (.seq (.ops A_decode_Into_9) (.seq (.ops A_decode_Into_10) (.seq (.ops A_decode_Into_11) (.seq (.ops A_decode_Into_12) .ret))))))))))
def R_decode_Into : List ARes := [.cella 6 3, .cell1 7, .cell1 8]
theorem C_decode_Into : compF Tryz.prog Tryz.f18 = some (A_decode_Into, R_decode_Into) := by kernel_rfl
abbrev F_decode_Into_c1 : Nat := 33
def A_decode_Into_c1_0 : LA := [o_ 9 (.tass 121 true (.agg [.int .i64 (0), .int .i64 0]) (.t 6)), Wx 10 1 9, Wx 11 0 9]
def A_decode_Into_c1_1 : LA := [o_ 4 (.box 121 2 (.c (.agg [.int .i64 (0), .int .i64 0]))), Ws 2 4 11]
def A_decode_Into_c1_2 : LA := [o_ 12 (.build [.str [], .nils, .nils] []), Wf 13 0 4, Wf 15 1 4, Wl 14 13, Wl 16 15, Ws 3 0 12, Ws 1 1 14, Ws 1 2 16]
def A_decode_Into_c1_3 : LA := [o_ 12 (.build [.str [], .nils, .nils] []), Wf 13 0 4, Wf 15 1 4, Wl 14 13, Ws 3 0 12, Wl 16 15, Ws 1 1 14, Ws 1 2 16]
def A_decode_Into_c1_4 : LA := [o_ 12 (.build [.str [], .nils, .nils] []), Wf 13 0 4, Wf 15 1 4, Wl 14 13, Ws 3 0 12, Ws 1 1 14, Wl 16 15, Ws 1 2 16]
def A_decode_Into_c1_5 : LA := [o_ 12 (.build [.str [], .nils, .nils] []), Wf 13 0 4, Wf 15 1 4, Wl 16 15, Wl 14 13, Ws 3 0 12, Ws 1 1 14, Ws 1 2 16]
def A_decode_Into_c1_6 : LA := [o_ 12 (.build [.str [], .nils, .nils] []), Wf 13 0 4, Wf 15 1 4, Wl 16 15, Ws 3 0 12, Wl 14 13, Ws 1 1 14, Ws 1 2 16]
def A_decode_Into_c1_7 : LA := [o_ 12 (.build [.str [], .nils, .nils] []), Wf 13 0 4, Wf 15 1 4, Ws 3 0 12, Wl 14 13, Wl 16 15, Ws 1 1 14, Ws 1 2 16]
def A_decode_Into_c1_8 : LA := [o_ 12 (.build [.str [], .nils, .nils] []), Wf 13 0 4, Wf 15 1 4, Ws 3 0 12, Wl 14 13, Ws 1 1 14, Wl 16 15, Ws 1 2 16]
def A_decode_Into_c1_9 : LA := [o_ 12 (.build [.str [], .nils, .nils] []), Wf 13 0 4, Wf 15 1 4, Wl 14 13, Wl 16 15, Ws 3 0 12, Ws 1 1 14, Ws 1 2 16]
def A_decode_Into_c1_10 : LA := [o_ 12 (.build [.str [], .nils, .nils] []), Wf 13 0 4, Wf 15 1 4, Wl 14 13, Ws 3 0 12, Wl 16 15, Ws 1 1 14, Ws 1 2 16]
def A_decode_Into_c1_11 : LA := [o_ 12 (.build [.str [], .nils, .nils] []), Wf 13 0 4, Wf 15 1 4, Wl 14 13, Ws 3 0 12, Ws 1 1 14, Wl 16 15, Ws 1 2 16]
def A_decode_Into_c1_12 : LA := [o_ 12 (.build [.str [], .nils, .nils] []), Wf 13 0 4, Wf 15 1 4, Wl 16 15, Wl 14 13, Ws 3 0 12, Ws 1 1 14, Ws 1 2 16]
def A_decode_Into_c1_13 : LA := [o_ 12 (.build [.str [], .nils, .nils] []), Wf 13 0 4, Wf 15 1 4, Wl 16 15, Ws 3 0 12, Wl 14 13, Ws 1 1 14, Ws 1 2 16]
def A_decode_Into_c1_14 : LA := [o_ 12 (.build [.str [], .nils, .nils] []), Wf 13 0 4, Wf 15 1 4, Ws 3 0 12, Wl 14 13, Wl 16 15, Ws 1 1 14, Ws 1 2 16]
def A_decode_Into_c1_15 : LA := [o_ 12 (.build [.str [], .nils, .nils] []), Wf 13 0 4, Wf 15 1 4, Ws 3 0 12, Wl 14 13, Ws 1 1 14, Wl 16 15, Ws 1 2 16]
def A_decode_Into_c1_16 : LA := [mv 7 5, n_ (.pan (.t 7))]
def A_decode_Into_c1 : ACode := (.seq (.recv (some 6) []) (.block 0 (.seq (.ops [o_ 8 (.isnil .ic false (.t 6))]) (.cond (.t 8) (.ops [mv 3 6]) (.seq (.ops A_decode_Into_c1_0) (.cond (.t 10) (.seq (.ops A_decode_Into_c1_1) (.orr (.alts [12, 13, 14, 15, 16] [A_decode_Into_c1_2, A_decode_Into_c1_3, A_decode_Into_c1_4, A_decode_Into_c1_5, A_decode_Into_c1_6, A_decode_Into_c1_7, A_decode_Into_c1_8]) (.alts [12, 13, 14, 15, 16] [A_decode_Into_c1_9, A_decode_Into_c1_10, A_decode_Into_c1_11, A_decode_Into_c1_12, A_decode_Into_c1_13, A_decode_Into_c1_14, A_decode_Into_c1_15]))) (.seq (.ops [mv 5 6]) (.ops A_decode_Into_c1_16))))))))
def R_decode_Into_c1 : List ARes := []
theorem C_decode_Into_c1 : compF Tryz.prog Tryz.f33 = some (A_decode_Into_c1, R_decode_Into_c1) := by kernel_rfl
abbrev F_decode_ways : Nat := 34
def A_decode_ways_0 : LA := [o_ 1 (.build [.nilf, .nilf] [(0, 1, (.f 62)), (1, 1, (.f 63))]), o_ 2 (.build [.nilf, .nilf] [(0, 1, (.f 64)), (1, 1, (.f 66))]), o_ 3 (.build [.nilf, .nilf] [(0, 1, (.f 67)), (1, 1, (.f 68))]), o_ 4 (.bslice 180 2 3 [.nilf, .nilf] [(0, 2, (.t 1)), (2, 2, (.t 2)), (4, 2, (.t 3))]), mv 0 4]
def A_decode_ways : ACode := (.seq (.ops [Wn 0]) (.seq (.ops A_decode_ways_0) .ret))
def R_decode_ways : List ARes := [.tmp 0]
theorem C_decode_ways : compF Tryz.prog Tryz.f34 = some (A_decode_ways, R_decode_ways) := by kernel_rfl
theorem K_decode_ways {md : Bool} {args : List AV} {h : Hp} {Q : Res → Hp → Prop} (hl : LCode Tryz.prog md A_decode_ways (EndQ R_decode_ways Q) (env0 5 args) h) (hn : args.length ≤ 5 := by (simp; done)) : CallL Tryz.prog F_decode_ways args h Q :=
 CallL.of (md := md) Tryz.func34 C_decode_ways (by rw [Tryz.ntmps34]; exact hn) (by rw [Tryz.ntmps34]; exact hl)
abbrev F_decode_decoder_node : Nat := 35
def A_decode_decoder_node_0 : LA := [o_ 3 (.box 44 3 (.t 1)), o_ 4 (.mov (.c (.nilp)))]
def A_decode_decoder_node_1 : LA := [mv 16 0, Wf 17 0 3, Wl 18 17, o_ 19 (.call 69 [(.t 16), (.t 18), (i_ 0)]), mv 5 19]
def A_decode_decoder_node_2 : LA := [mv 20 5, Wf 21 2 3, Wl 22 21, o_ 23 (.call 70 [(.t 22)]), Wc 24 20, Wf 25 2 24, Ws 1 25 23]
def A_decode_decoder_node_3 : LA := [Wf 26 1 3, Wl 27 26, We 28 27, Wm 29 0]
def A_decode_decoder_node_4 : LA := [Wa 31 49 3 27 29, Wd 32 3 31, o_ 7 (.box 49 3 (.c (.agg [.int .i32 (0), .nils, .nils]))), Ws 3 7 32]
def A_decode_decoder_node_5 : LA := [mv 34 5, Wc 35 34, Wf 36 0 35, Wl 37 36, Wf 38 0 7, Wl 39 38, o_ 40 (.acall 71 [(.t 37), (.t 39)]), mv 33 40, Wx 41 0 33, Wx 42 1 33, o_ 8 (.box 174 9 (.c (.agg [.int .i32 (0), .str [], .str [], .int .u8 (0), .int .u8 (0), .int .u8 (0), .bool false, .int .i64 (0), .str []]))), Ws 9 8 41, mv 9 42]
def A_decode_decoder_node_6 : LA := [mv 34 5, Wc 35 34, Wf 36 0 35, Wl 37 36, Wf 38 0 7, Wl 39 38, o_ 40 (.pcall 71 [(.t 37), (.t 39)]), mv 33 40, Wx 41 0 33, Wx 42 1 33, o_ 8 (.box 174 9 (.c (.agg [.int .i32 (0), .str [], .str [], .int .u8 (0), .int .u8 (0), .int .u8 (0), .bool false, .int .i64 (0), .str []]))), Ws 9 8 41, mv 9 42]
def A_decode_decoder_node_7 : LA := [mv 34 5, Wc 35 34, Wf 36 0 35, Wl 37 36, Wf 38 0 7, Wl 39 38, o_ 40 (.call 71 [(.t 37), (.t 39)]), mv 33 40, Wx 41 0 33, Wx 42 1 33, o_ 8 (.box 174 9 (.c (.agg [.int .i32 (0), .str [], .str [], .int .u8 (0), .int .u8 (0), .int .u8 (0), .bool false, .int .i64 (0), .str []]))), Ws 9 8 41, mv 9 42]
def A_decode_decoder_node_8 : LA := [mv 34 5, Wc 35 34, Wf 36 0 35, Wl 37 36, Wf 38 0 7, Wl 39 38, o_ 8 (.box 174 9 (.c (.agg [.int .i32 (0), .str [], .str [], .int .u8 (0), .int .u8 (0), .int .u8 (0), .bool false, .int .i64 (0), .str []]))), o_ 40 (.call 71 [(.t 37), (.t 39)]), mv 33 40, Wx 41 0 33, Wx 42 1 33, Ws 9 8 41, mv 9 42]
def A_decode_decoder_node_9 : LA := [mv 43 5, Wd 44 9 8, o_ 45 (.call 72 [(.t 43), (.t 44)]), mv 10 45]
def A_decode_decoder_node_10 : LA := [mv 46 10, Wf 47 1 7, Wl 48 47, o_ 49 (.call 73 [(.t 48)]), Wc 50 46, Wf 51 9 50, Ws 1 51 49]
def A_decode_decoder_node_11 : LA := [Wf 52 1 7, Wl 53 52, We 54 53, Wm 55 0]
def A_decode_decoder_node_12 : LA := [mv 57 55, Wa 58 52 3 53 55, Wd 59 3 58, o_ 12 (.box 52 3 (.c (.agg [.int .u64 (0), .str [], .nils]))), mv 11 57, Ws 3 12 59]
def A_decode_decoder_node_13 : LA := [mv 60 10, Wc 61 60, Wf 62 11 61, Wl 63 62, Wf 64 0 12, Wl 65 64, Wf 66 1 12, Wl 67 66, o_ 68 (.build [.int .u64 (0), .str []] [(0, 1, (.t 65)), (1, 1, (.t 67))]), mv 69 11, n_ (.mupd (.a 1 0) (.t 63) (.t 68) (.t 69))]
def A_decode_decoder_node_14 : LA := [Wi 70 .add 55 1, mv 55 70]
def A_decode_decoder_node_15 : ACode := (.seq (.ops [Wb 56 .lss 55 54]) (.seq (.cond (.t 56) .skip (.exit 2)) (.seq (.block 3 (.seq (.ops A_decode_decoder_node_12) (.alts [60, 61, 62, 63, 64, 65, 66, 67, 68, 69] [A_decode_decoder_node_13]))) (.ops A_decode_decoder_node_14))))
def A_decode_decoder_node_16 : LA := [Wf 71 2 7, Wl 72 71, We 73 72, Wm 74 0]
def A_decode_decoder_node_17 : LA := [Wa 76 52 3 72 74, Wd 77 3 76, o_ 14 (.box 52 3 (.c (.agg [.int .u64 (0), .str [], .nils]))), Ws 3 14 77]
def A_decode_decoder_node_18 : LA := [Wd 78 3 14, o_ 79 (.build [.int .u64 (0), .str [], .nils, .nilp] [(0, 3, (.t 78))]), o_ 15 (.box 199 4 (.c (.agg [.int .u64 (0), .str [], .nils, .nilp]))), Ws 4 15 79]
def A_decode_decoder_node_19 : LA := [Wf 80 2 14, Wl 81 80, We 82 81, Wi 83 .gtr 82 0]
def A_decode_decoder_node_20 : LA := [mv 84 0, Wf 85 2 14, Wl 86 85, o_ 87 (.iaddr 44 3 (.t 86) (i_ 0)), Wd 88 3 87, o_ 89 (.call 35 [(.t 84), (.t 88)]), Wf 90 3 15, Ws 1 90 89]
def A_decode_decoder_node_21 : LA := [mv 91 10, mv 92 10, Wc 93 92, Wf 94 10 93, Wl 95 94, Wd 96 4 15, o_ 97 (.bslice 199 4 1 [.int .u64 (0), .str [], .nils, .nilp] [(0, 4, (.t 96))]), o_ 98 (.app 199 4 56 (.t 95) (.t 97)), Wc 99 91, Wf 100 10 99, Ws 1 100 98]
def A_decode_decoder_node_22 : LA := [Wi 101 .add 74 1, mv 74 101]
def A_decode_decoder_node_23 : ACode := (.seq (.ops [Wb 75 .lss 74 73]) (.seq (.cond (.t 75) .skip (.exit 4)) (.seq (.block 5 (.seq (.ops A_decode_decoder_node_17) (.seq (.ops A_decode_decoder_node_18) (.seq (.seq (.ops A_decode_decoder_node_19) (.cond (.t 83) (.ops A_decode_decoder_node_20) .skip)) (.alts [91, 92, 93, 94, 95, 96, 97, 98, 99, 100] [A_decode_decoder_node_21]))))) (.ops A_decode_decoder_node_22))))
def A_decode_decoder_node_24 : LA := [Wi 102 .add 29 1, mv 29 102]
def A_decode_decoder_node_25 : ACode := (.seq (.ops [Wb 30 .lss 29 28]) (.seq (.cond (.t 30) .skip (.exit 0)) (.seq (.block 1 (.seq (.ops A_decode_decoder_node_4) (.seq (.orr (.alts [34, 35, 36, 37, 38, 39, 40, 33, 41, 42, 8, 9] [A_decode_decoder_node_5]) (.orr (.alts [34, 35, 36, 37, 38, 39, 40, 33, 41, 42, 8, 9] [A_decode_decoder_node_6]) (.alts [34, 35, 36, 37, 38, 39, 40, 33, 41, 42, 8, 9] [A_decode_decoder_node_7, A_decode_decoder_node_8]))) (.seq (.ops A_decode_decoder_node_9) (.seq (.ops A_decode_decoder_node_10) (.seq (.seq (.ops A_decode_decoder_node_11) (.block 2 (.loop A_decode_decoder_node_15))) (.seq (.ops A_decode_decoder_node_16) (.block 4 (.loop A_decode_decoder_node_23))))))))) (.ops A_decode_decoder_node_24))))
def A_decode_decoder_node_26 : LA := [mv 103 5, mv 4 103]
def A_decode_decoder_node : ACode := (.seq (.ops A_decode_decoder_node_0) (.seq (.ops A_decode_decoder_node_1) (.seq (.ops A_decode_decoder_node_2) (.seq (.seq (.ops A_decode_decoder_node_3) (.block 0 (.loop A_decode_decoder_node_25))) (.seq (.ops A_decode_decoder_node_26) .ret)))))
def R_decode_decoder_node : List ARes := [.tmp 4]
theorem C_decode_decoder_node : compF Tryz.prog Tryz.f35 = some (A_decode_decoder_node, R_decode_decoder_node) := by kernel_rfl
theorem K_decode_decoder_node {md : Bool} {args : List AV} {h : Hp} {Q : Res → Hp → Prop} (hl : LCode Tryz.prog md A_decode_decoder_node (EndQ R_decode_decoder_node Q) (env0 104 args) h) (hn : args.length ≤ 104 := by (simp; done)) : CallL Tryz.prog F_decode_decoder_node args h Q :=
 CallL.of (md := md) Tryz.func35 C_decode_decoder_node (by rw [Tryz.ntmps35]; exact hn) (by rw [Tryz.ntmps35]; exact hl)
abbrev F_decode_decoder_empty : Nat := 69
def A_decode_decoder_empty_0 : LA := [mv 10 0, Wc 11 10, Wf 12 0 11, Wl 13 12, mv 14 1, o_ 15 (.inv [(37, 338)] (.t 13) [(.t 14)]), mv 9 15, Wx 16 0 9, Wx 17 1 9, mv 7 16, mv 8 17]
def A_decode_decoder_empty_1 : LA := [mv 18 8, Wi 19 .neq 18 0]
def A_decode_decoder_empty_2 : LA := [mv 20 8, mv 21 2, o_ 22 (.build [.int .i64 (0), .int .i64 0] [(0, 1, (.t 20)), (1, 1, (.t 21))]), o_ 23 (.mkifc 121 (.t 22)), n_ (.pan (.t 23))]
def A_decode_decoder_empty_3 : LA := [mv 24 7, o_ 25 (.mkmap), o_ 26 (.build [.nilp, .nilm, .nils] [(0, 1, (.t 24)), (1, 1, (.t 25))]), o_ 27 (.box 186 3 (.t 26)), mv 6 27]
def A_decode_decoder_empty : ACode := (.seq (.ops [o_ 6 (.mov (.c (.nilp)))]) (.seq (.ops A_decode_decoder_empty_0) (.seq (.seq (.ops A_decode_decoder_empty_1) (.cond (.t 19) (.ops A_decode_decoder_empty_2) .skip)) (.seq (.ops A_decode_decoder_empty_3) .ret))))
def R_decode_decoder_empty : List ARes := [.tmp 6]
theorem C_decode_decoder_empty : compF Tryz.prog Tryz.f69 = some (A_decode_decoder_empty, R_decode_decoder_empty) := by kernel_rfl
theorem K_decode_decoder_empty {md : Bool} {args : List AV} {h : Hp} {Q : Res → Hp → Prop} (hl : LCode Tryz.prog md A_decode_decoder_empty (EndQ R_decode_decoder_empty Q) (env0 28 args) h) (hn : args.length ≤ 28 := by (simp; done)) : CallL Tryz.prog F_decode_decoder_empty args h Q :=
 CallL.of (md := md) Tryz.func69 C_decode_decoder_empty (by rw [Tryz.ntmps69]; exact hn) (by rw [Tryz.ntmps69]; exact hl)
abbrev F_decode_decoder_records : Nat := 36
def A_decode_decoder_records_0 : LA := [mv 14 2, o_ 15 (.call 74 [(.t 14)]), Wi 16 .gtr 15 0]
def A_decode_decoder_records_1 : LA := [mv 18 2, o_ 19 (.call 75 [(.t 18)]), mv 17 19, Wx 20 0 17, Wx 21 1 17, Wx 22 2 17, o_ 9 (.box 175 1 (.c (.int .u8 0))), mv 8 20, Ws 1 9 21, mv 10 22]
def A_decode_decoder_records_2 : LA := [mv 24 1, Wc 25 24, Wf 26 0 25, Wl 27 26, mv 28 8, o_ 29 (.call 71 [(.t 27), (.t 28)]), mv 23 29, Wx 30 0 23, Wx 31 1 23, o_ 11 (.box 174 9 (.c (.agg [.int .i32 (0), .str [], .str [], .int .u8 (0), .int .u8 (0), .int .u8 (0), .bool false, .int .i64 (0), .str []]))), Ws 9 11 30, mv 12 31]
def A_decode_decoder_records_3 : LA := [mv 33 0, Wc 34 33, Wf 35 2 34, Wl 36 35, o_ 37 (.mkfn 77 [] [(.t 11), (.t 9)]), o_ 38 (.call 76 [(.t 36), (.t 37)]), mv 13 38]
def A_decode_decoder_records_4 : LA := [mv 39 13, Wi 40 .geq 39 0]
def A_decode_decoder_records_5 : LA := [mv 41 0, Wc 42 41, Wf 43 2 42, Wl 44 43, mv 45 13, Wa 46 180 2 44 45, Wf 47 1 46, Wl 48 47, mv 49 0, mv 50 1, Wd 51 9 11, mv 52 2, mv 53 3, mv 54 10, o_ 55 (.callv (.t 48) [(.t 49), (.t 50), (.t 51), (.t 52), (.t 53), (.t 54)])]
def A_decode_decoder_records_6 : LA := [mv 56 2, mv 57 8, Wl 58 9, mv 59 3, o_ 60 (.bini .sub (i_ 100) (.t 59)), o_ 61 (.call 78 [(.t 56), (.t 57), (.t 58), (.t 60)])]
def A_decode_decoder_records_7 : LA := [mv 62 2, o_ 63 (.call 79 [(.t 62)])]
def A_decode_decoder_records_8 : LA := [mv 64 1, mv 65 1, Wc 66 65, Wf 67 2 66, Wl 68 67, mv 69 0, Wc 70 69, Wf 71 1 70, Wl 72 71, mv 73 10, mv 74 2, o_ 75 (.acall 80 [(.t 74)]), o_ 76 (.slcl 5 1 (.t 72) (some (.t 73)) (some (.t 75)) none), o_ 77 (.app 5 1 1 (.t 68) (.t 76)), Wc 78 64, Wf 79 2 78, Ws 1 79 77]
def A_decode_decoder_records_9 : LA := [mv 64 1, mv 65 1, Wc 66 65, Wf 67 2 66, Wl 68 67, mv 69 0, Wc 70 69, Wf 71 1 70, Wl 72 71, mv 73 10, mv 74 2, o_ 75 (.pcall 80 [(.t 74)]), o_ 76 (.slcl 5 1 (.t 72) (some (.t 73)) (some (.t 75)) none), o_ 77 (.app 5 1 1 (.t 68) (.t 76)), Wc 78 64, Wf 79 2 78, Ws 1 79 77]
def A_decode_decoder_records_10 : LA := [mv 64 1, mv 65 1, Wc 66 65, Wf 67 2 66, mv 69 0, Wc 70 69, Wf 71 1 70, mv 73 10, mv 74 2, Wl 68 67, Wl 72 71, o_ 75 (.call 80 [(.t 74)]), o_ 76 (.slcl 5 1 (.t 72) (some (.t 73)) (some (.t 75)) none), o_ 77 (.app 5 1 1 (.t 68) (.t 76)), Wc 78 64, Wf 79 2 78, Ws 1 79 77]
def A_decode_decoder_records_11 : LA := [mv 64 1, mv 65 1, Wc 66 65, Wf 67 2 66, mv 69 0, Wc 70 69, Wf 71 1 70, mv 73 10, mv 74 2, Wl 68 67, o_ 75 (.call 80 [(.t 74)]), Wl 72 71, o_ 76 (.slcl 5 1 (.t 72) (some (.t 73)) (some (.t 75)) none), o_ 77 (.app 5 1 1 (.t 68) (.t 76)), Wc 78 64, Wf 79 2 78, Ws 1 79 77]
def A_decode_decoder_records_12 : LA := [mv 64 1, mv 65 1, Wc 66 65, Wf 67 2 66, mv 69 0, Wc 70 69, Wf 71 1 70, mv 73 10, mv 74 2, Wl 72 71, Wl 68 67, o_ 75 (.call 80 [(.t 74)]), o_ 76 (.slcl 5 1 (.t 72) (some (.t 73)) (some (.t 75)) none), o_ 77 (.app 5 1 1 (.t 68) (.t 76)), Wc 78 64, Wf 79 2 78, Ws 1 79 77]
def A_decode_decoder_records_13 : LA := [mv 64 1, mv 65 1, Wc 66 65, Wf 67 2 66, mv 69 0, Wc 70 69, Wf 71 1 70, mv 73 10, mv 74 2, Wl 72 71, o_ 75 (.call 80 [(.t 74)]), Wl 68 67, o_ 76 (.slcl 5 1 (.t 72) (some (.t 73)) (some (.t 75)) none), o_ 77 (.app 5 1 1 (.t 68) (.t 76)), Wc 78 64, Wf 79 2 78, Ws 1 79 77]
def A_decode_decoder_records_14 : LA := [mv 64 1, mv 65 1, Wc 66 65, Wf 67 2 66, mv 69 0, Wc 70 69, Wf 71 1 70, mv 73 10, mv 74 2, o_ 75 (.call 80 [(.t 74)]), Wl 68 67, Wl 72 71, o_ 76 (.slcl 5 1 (.t 72) (some (.t 73)) (some (.t 75)) none), o_ 77 (.app 5 1 1 (.t 68) (.t 76)), Wc 78 64, Wf 79 2 78, Ws 1 79 77]
def A_decode_decoder_records_15 : ACode := (.seq (.seq (.ops A_decode_decoder_records_0) (.cond (.t 16) .skip (.exit 0))) (.block 1 (.seq (.ops A_decode_decoder_records_1) (.seq (.ops A_decode_decoder_records_2) (.seq (.ops [Wm 13 (-1)]) (.seq (.seq (.ops [mv 32 12]) (.cond (.t 32) (.ops A_decode_decoder_records_3) .skip)) (.seq (.seq (.ops A_decode_decoder_records_4) (.cond (.t 40) (.seq (.alts [41, 42, 43, 44, 45, 46, 47, 48, 49, 50, 51, 52, 53, 54, 55] [A_decode_decoder_records_5]) (.exit 1)) .skip)) (.seq (.ops A_decode_decoder_records_6) (.seq (.ops A_decode_decoder_records_7) (.orr (.alts [64, 65, 66, 67, 68, 69, 70, 71, 72, 73, 74, 75, 76, 77, 78, 79] [A_decode_decoder_records_8]) (.orr (.alts [64, 65, 66, 67, 68, 69, 70, 71, 72, 73, 74, 75, 76, 77, 78, 79] [A_decode_decoder_records_9]) (.alts [64, 65, 66, 67, 68, 69, 70, 71, 72, 73, 74, 75, 76, 77, 78, 79] [A_decode_decoder_records_10, A_decode_decoder_records_11, A_decode_decoder_records_12, A_decode_decoder_records_13, A_decode_decoder_records_14]))))))))))))
def A_decode_decoder_records : ACode := (.block 0 (.loop A_decode_decoder_records_15))
def R_decode_decoder_records : List ARes := []
theorem C_decode_decoder_records : compF Tryz.prog Tryz.f36 = some (A_decode_decoder_records, R_decode_decoder_records) := by kernel_rfl
theorem K_decode_decoder_records {md : Bool} {args : List AV} {h : Hp} {Q : Res → Hp → Prop} (hl : LCode Tryz.prog md A_decode_decoder_records (EndQ R_decode_decoder_records Q) (env0 80 args) h) (hn : args.length ≤ 80 := by (simp; done)) : CallL Tryz.prog F_decode_decoder_records args h Q :=
 CallL.of (md := md) Tryz.func36 C_decode_decoder_records (by rw [Tryz.ntmps36]; exact hn) (by rw [Tryz.ntmps36]; exact hl)
abbrev F_decode_tag : Nat := 75
def A_decode_tag_0 : LA := [o_ 2 (.mov (.c (.int .i32 0))), o_ 3 (.mov (.c (.int .u8 0))), Wm 4 0]
def A_decode_tag_1 : LA := [mv 8 0, o_ 9 (.call 80 [(.t 8)]), mv 5 9]
def A_decode_tag_2 : LA := [mv 11 0, o_ 12 (.call 130 [(.t 11)]), mv 10 12, Wx 13 0 10, Wx 14 1 10, mv 6 13, mv 7 14]
def A_decode_tag_3 : LA := [mv 15 0, o_ 16 (.call 79 [(.t 15)])]
def A_decode_tag_4 : LA := [mv 17 7, o_ 18 (.bini .eql (.t 17) (.c (.int .u8 4)))]
def A_decode_tag_5 : LA := [mv 19 5, o_ 20 (.build [.int .i64 (0), .int .i64 0] [(0, 1, (i_ 13)), (1, 1, (.t 19))]), o_ 21 (.mkifc 121 (.t 20)), n_ (.pan (.t 21))]
def A_decode_tag_6 : LA := [mv 22 6, mv 23 7, mv 24 5, mv 2 22, mv 3 23, mv 4 24]
def A_decode_tag : ACode := (.seq (.ops A_decode_tag_0) (.seq (.ops A_decode_tag_1) (.seq (.ops A_decode_tag_2) (.seq (.ops A_decode_tag_3) (.seq (.seq (.ops A_decode_tag_4) (.cond (.t 18) (.ops A_decode_tag_5) .skip)) (.seq (.ops A_decode_tag_6) .ret))))))
def R_decode_tag : List ARes := [.tmp 2, .tmp 3, .tmp 4]
theorem C_decode_tag : compF Tryz.prog Tryz.f75 = some (A_decode_tag, R_decode_tag) := by kernel_rfl
theorem K_decode_tag {md : Bool} {args : List AV} {h : Hp} {Q : Res → Hp → Prop} (hl : LCode Tryz.prog md A_decode_tag (EndQ R_decode_tag Q) (env0 25 args) h) (hn : args.length ≤ 25 := by (simp; done)) : CallL Tryz.prog F_decode_tag args h Q :=
 CallL.of (md := md) Tryz.func75 C_decode_tag (by rw [Tryz.ntmps75]; exact hn) (by rw [Tryz.ntmps75]; exact hl)
abbrev F_decode_right : Nat := 79
def A_decode_right_0 : LA := [mv 5 0, o_ 6 (.call 133 [(.t 5)]), mv 4 6, Wx 7 0 4, Wx 8 1 4, mv 2 7, mv 3 8]
def A_decode_right_1 : LA := [mv 9 2, Wi 10 .neq 9 0]
def A_decode_right_2 : LA := [mv 11 2, mv 12 3, o_ 13 (.build [.int .i64 (0), .int .i64 0] [(0, 1, (.t 11)), (1, 1, (.t 12))]), o_ 14 (.mkifc 121 (.t 13)), n_ (.pan (.t 14))]
def A_decode_right : ACode := (.seq (.ops A_decode_right_0) (.seq (.ops A_decode_right_1) (.cond (.t 10) (.ops A_decode_right_2) .skip)))
def R_decode_right : List ARes := []
theorem C_decode_right : compF Tryz.prog Tryz.f79 = some (A_decode_right, R_decode_right) := by kernel_rfl
theorem K_decode_right {md : Bool} {args : List AV} {h : Hp} {Q : Res → Hp → Prop} (hl : LCode Tryz.prog md A_decode_right (EndQ R_decode_right Q) (env0 15 args) h) (hn : args.length ≤ 15 := by (simp; done)) : CallL Tryz.prog F_decode_right args h Q :=
 CallL.of (md := md) Tryz.func79 C_decode_right (by rw [Tryz.ntmps79]; exact hn) (by rw [Tryz.ntmps79]; exact hl)
abbrev F_decode_node_msg : Nat := 38
def A_decode_node_msg_0 : LA := [mv 13 0, Wc 14 13, Wf 15 0 14, Wl 16 15, mv 18 0, Wc 19 18, Wf 20 2 19, Wl 21 20, o_ 17 (.acall 81 [(.t 16)]), o_ 22 (.build [.str [], .nils, .nils] [(0, 1, (.t 17)), (2, 1, (.t 21))]), o_ 3 (.box 44 3 (.c (.agg [.str [], .nils, .nils]))), Ws 3 3 22]
def A_decode_node_msg_1 : LA := [mv 13 0, Wc 14 13, Wf 15 0 14, Wl 16 15, o_ 17 (.pcall 81 [(.t 16)]), mv 18 0, Wc 19 18, Wf 20 2 19, Wl 21 20, o_ 22 (.build [.str [], .nils, .nils] [(0, 1, (.t 17)), (2, 1, (.t 21))]), o_ 3 (.box 44 3 (.c (.agg [.str [], .nils, .nils]))), Ws 3 3 22]
def A_decode_node_msg_2 : LA := [mv 13 0, Wc 14 13, Wf 15 0 14, Wl 16 15, mv 18 0, Wc 19 18, Wf 20 2 19, o_ 17 (.call 81 [(.t 16)]), Wl 21 20, o_ 22 (.build [.str [], .nils, .nils] [(0, 1, (.t 17)), (2, 1, (.t 21))]), o_ 3 (.box 44 3 (.c (.agg [.str [], .nils, .nils]))), Ws 3 3 22]
def A_decode_node_msg_3 : LA := [mv 13 0, Wc 14 13, Wf 15 0 14, Wl 16 15, mv 18 0, Wc 19 18, Wf 20 2 19, Wl 21 20, o_ 17 (.call 81 [(.t 16)]), o_ 22 (.build [.str [], .nils, .nils] [(0, 1, (.t 17)), (2, 1, (.t 21))]), o_ 3 (.box 44 3 (.c (.agg [.str [], .nils, .nils]))), Ws 3 3 22]
def A_decode_node_msg_4 : LA := [mv 13 0, Wc 14 13, Wf 15 0 14, Wl 16 15, mv 18 0, Wc 19 18, Wf 20 2 19, Wl 21 20, o_ 3 (.box 44 3 (.c (.agg [.str [], .nils, .nils]))), o_ 17 (.call 81 [(.t 16)]), o_ 22 (.build [.str [], .nils, .nils] [(0, 1, (.t 17)), (2, 1, (.t 21))]), Ws 3 3 22]
def A_decode_node_msg_5 : LA := [mv 13 0, Wc 14 13, Wf 15 0 14, Wl 16 15, mv 18 0, Wc 19 18, Wf 20 2 19, o_ 3 (.box 44 3 (.c (.agg [.str [], .nils, .nils]))), o_ 17 (.call 81 [(.t 16)]), Wl 21 20, o_ 22 (.build [.str [], .nils, .nils] [(0, 1, (.t 17)), (2, 1, (.t 21))]), Ws 3 3 22]
def A_decode_node_msg_6 : LA := [mv 13 0, Wc 14 13, Wf 15 0 14, Wl 16 15, mv 18 0, Wc 19 18, Wf 20 2 19, o_ 3 (.box 44 3 (.c (.agg [.str [], .nils, .nils]))), Wl 21 20, o_ 17 (.call 81 [(.t 16)]), o_ 22 (.build [.str [], .nils, .nils] [(0, 1, (.t 17)), (2, 1, (.t 21))]), Ws 3 3 22]
def A_decode_node_msg_7 : LA := [mv 23 0, Wc 24 23, Wf 25 1 24, Wl 26 25, o_ 27 (.call 83 [(.t 26)]), o_ 28 (.call 82 [(.t 27)]), We 29 28, Wm 30 0]
def A_decode_node_msg_8 : LA := [Wa 32 21 1 28 30, Wl 33 32, mv 5 33]
def A_decode_node_msg_9 : LA := [mv 34 0, Wc 35 34, Wf 36 1 35, Wl 37 36, mv 38 5, o_ 39 (.mlook .i (.nilp) false (.t 37) (.t 38)), o_ 6 (.box 189 1 (.c (.nilp))), Ws 1 6 39]
def A_decode_node_msg_10 : LA := [Wl 40 6, Wc 41 40, Wf 42 10 41, Wl 43 42, We 44 43, o_ 45 (.mkslice 3 1 8 [.int .i64 0] (.t 44) (.t 44)), mv 7 45]
def A_decode_node_msg_11 : LA := [mv 46 7, We 47 46, Wm 48 0]
def A_decode_node_msg_12 : LA := [mv 50 48, mv 8 50]
def A_decode_node_msg_13 : LA := [mv 51 7, mv 52 8, mv 53 8, Wa 54 3 1 51 52, Ws 1 54 53]
def A_decode_node_msg_14 : LA := [Wi 55 .add 48 1, mv 48 55]
def A_decode_node_msg_15 : ACode := (.seq (.ops [Wb 49 .lss 48 47]) (.seq (.cond (.t 49) .skip (.exit 2)) (.seq (.block 3 (.seq (.ops A_decode_node_msg_12) (.ops A_decode_node_msg_13))) (.ops A_decode_node_msg_14))))
def A_decode_node_msg_16 : LA := [Wl 56 6, Wc 57 56, Wf 58 0 57, Wf 59 3 58, Wl 60 59, o_ 61 (.bini .eql (.t 60) (.c (.int .u8 4)))]
def A_decode_node_msg_17 : LA := [mv 62 7, o_ 63 (.mkfn 85 [] [(.t 6)]), o_ 64 (.call 84 [(.t 62), (.t 63)])]
def A_decode_node_msg_18 : LA := [mv 65 5, o_ 66 (.build [.int .i32 (0), .nils, .nils] [(0, 1, (.t 65))]), o_ 9 (.box 49 3 (.c (.agg [.int .i32 (0), .nils, .nils]))), Ws 3 9 66]
def A_decode_node_msg_19 : LA := [mv 67 7, We 68 67, Wm 69 0]
def A_decode_node_msg_20 : LA := [Wa 71 3 1 67 69, Wl 72 71, mv 11 72]
def A_decode_node_msg_21 : LA := [Wl 73 6, Wc 74 73, Wf 75 10 74, Wl 76 75, mv 77 11, Wa 78 199 4 76 77, Wf 79 0 78, Wd 80 3 79, o_ 12 (.box 52 3 (.c (.agg [.int .u64 (0), .str [], .nils]))), Ws 3 12 80]
def A_decode_node_msg_22 : LA := [Wl 81 6, Wc 82 81, Wf 83 10 82, Wl 84 83, mv 85 11, Wa 86 199 4 84 85, Wf 87 3 86, Wl 88 87, o_ 89 (.isnil .pt true (.t 88))]
def A_decode_node_msg_23 : LA := [Wl 90 6, Wc 91 90, Wf 92 10 91, Wl 93 92, mv 94 11, Wa 95 199 4 93 94, Wf 96 3 95, Wl 97 96, o_ 98 (.call 38 [(.t 97)]), o_ 99 (.bslice 44 3 1 [.str [], .nils, .nils] [(0, 3, (.t 98))]), o_ 100 (.build [.int .u64 (0), .str [], .nils] [(2, 1, (.t 99))]), Ws 3 12 100]
def A_decode_node_msg_24 : LA := [Wf 101 2 9, Wl 102 101, Wd 103 3 12, o_ 104 (.bslice 52 3 1 [.int .u64 (0), .str [], .nils] [(0, 3, (.t 103))]), o_ 105 (.app 52 3 48 (.t 102) (.t 104)), Wf 106 2 9, Ws 1 106 105]
def A_decode_node_msg_25 : LA := [Wl 107 6, Wc 108 107, Wf 109 0 108, Wf 110 3 109, Wl 111 110, o_ 112 (.bini .eql (.t 111) (.c (.int .u8 4)))]
def A_decode_node_msg_26 : LA := [Wf 113 1 9, Wl 114 113, Wl 115 6, Wc 116 115, Wf 117 9 116, Wl 118 117, mv 119 11, Wa 120 52 3 118 119, Wd 121 3 120, o_ 122 (.bslice 52 3 1 [.int .u64 (0), .str [], .nils] [(0, 3, (.t 121))]), o_ 123 (.app 52 3 48 (.t 114) (.t 122)), Wf 124 1 9, Ws 1 124 123]
def A_decode_node_msg_27 : LA := [Wi 125 .add 69 1, mv 69 125]
def A_decode_node_msg_28 : ACode := (.seq (.ops [Wb 70 .lss 69 68]) (.seq (.cond (.t 70) .skip (.exit 4)) (.seq (.block 5 (.seq (.ops A_decode_node_msg_20) (.seq (.ops A_decode_node_msg_21) (.seq (.seq (.ops A_decode_node_msg_22) (.cond (.t 89) (.ops A_decode_node_msg_23) .skip)) (.seq (.ops A_decode_node_msg_24) (.seq (.ops A_decode_node_msg_25) (.cond (.t 112) (.alts [113, 114, 115, 116, 117, 118, 119, 120, 121, 122, 123, 124] [A_decode_node_msg_26]) .skip))))))) (.ops A_decode_node_msg_27))))
def A_decode_node_msg_29 : LA := [Wf 126 2 9, Wl 127 126, We 128 127, Wi 129 .eql 128 0, mv 130 129, Wh 131 (.ld1 (.t 6)) 130, Wh 132 (.nilc (.t 131)) 130, Wh 133 (.faddr 0 (.t 132)) 130, Wh 134 (.lda 9 (.t 133)) 130, Wh 135 (.call 87 [(.t 134)]) 130, Whm 136 135 130, Wgf 137 2 9 136, Wgl 138 137 136, g_ 139 (.iaddr 52 3 (.t 138) (i_ 0)) 136, Wgf 140 0 139 136, Wgl 141 140 136, g_ 142 (.bini .eql (.t 141) (.c (.int .u64 0))) 136, Wh 143 (.pick (.t 136) (.t 142) (.c (.bool false))) 130, Whm 144 143 130, Wgf 145 2 9 144, Wgl 146 145 144, g_ 147 (.iaddr 52 3 (.t 146) (i_ 0)) 144, Wgf 148 1 147 144, Wgl 149 148 144, g_ 150 (.bins .eql (.t 149) (.c (.str []))) 144, Wh 151 (.pick (.t 144) (.t 150) (.c (.bool false))) 130, Wq 152 130 151]
def A_decode_node_msg_30 : LA := [Wf 153 1 3, Wl 154 153, Wd 155 3 9, o_ 156 (.bslice 49 3 1 [.int .i32 (0), .nils, .nils] [(0, 3, (.t 155))]), o_ 157 (.app 49 3 56 (.t 154) (.t 156)), Wf 158 1 3, Ws 1 158 157]
def A_decode_node_msg_31 : LA := [Wi 159 .add 30 1, mv 30 159]
def A_decode_node_msg_32 : ACode := (.seq (.ops [Wb 31 .lss 30 29]) (.seq (.cond (.t 31) .skip (.exit 0)) (.seq (.block 1 (.seq (.ops A_decode_node_msg_8) (.seq (.ops A_decode_node_msg_9) (.seq (.ops A_decode_node_msg_10) (.seq (.seq (.ops A_decode_node_msg_11) (.block 2 (.loop A_decode_node_msg_15))) (.seq (.seq (.ops A_decode_node_msg_16) (.cond (.t 61) (.ops A_decode_node_msg_17) .skip)) (.seq (.ops A_decode_node_msg_18) (.seq (.seq (.ops A_decode_node_msg_19) (.block 4 (.loop A_decode_node_msg_28))) (.seq (.seq (.ops A_decode_node_msg_29) (.cond (.t 152) (.exit 1) .skip)) (.ops A_decode_node_msg_30)))))))))) (.ops A_decode_node_msg_31))))
def A_decode_node_msg_33 : LA := [Wd 160 3 3, Ws 3 2 160]
def A_decode_node_msg : ACode := (.seq (.ops [o_ 2 (.box 44 3 (.c (.agg [.str [], .nils, .nils])))]) (.seq (.orr (.alts [13, 14, 15, 16, 17, 18, 19, 20, 21, 22, 3] [A_decode_node_msg_0]) (.orr (.alts [13, 14, 15, 16, 17, 18, 19, 20, 21, 22, 3] [A_decode_node_msg_1]) (.alts [13, 14, 15, 16, 17, 18, 19, 20, 21, 22, 3] [A_decode_node_msg_2, A_decode_node_msg_3, A_decode_node_msg_4, A_decode_node_msg_5, A_decode_node_msg_6]))) (.seq (.seq (.ops A_decode_node_msg_7) (.block 0 (.loop A_decode_node_msg_32))) (.seq (.ops A_decode_node_msg_33) .ret))))
def R_decode_node_msg : List ARes := [.cella 2 3]
theorem C_decode_node_msg : compF Tryz.prog Tryz.f38 = some (A_decode_node_msg, R_decode_node_msg) := by kernel_rfl
theorem K_decode_node_msg {md : Bool} {args : List AV} {h : Hp} {Q : Res → Hp → Prop} (hl : LCode Tryz.prog md A_decode_node_msg (EndQ R_decode_node_msg Q) (env0 161 args) h) (hn : args.length ≤ 161 := by (simp; done)) : CallL Tryz.prog F_decode_node_msg args h Q :=
 CallL.of (md := md) Tryz.func38 C_decode_node_msg (by rw [Tryz.ntmps38]; exact hn) (by rw [Tryz.ntmps38]; exact hl)
end Go.Proofs.YtgjjbfhamlecoacGreatDoor

namespace Go.Proofs.YtgjjbfhamlecoacGreatDoor
open Go.L
theorem isync_Lock_L {S T : Nat} {cs : List AV} {h : Hp} (hS : h S = some (.row T [.int .i32 0 :: cs])) : CallL Tryz.prog F_isync_Lock [.ptr S 0 0] h fun r h' => r = .ret (.tup []) ∧ h' = h.set S (.row T [.int .i32 1 :: cs]) := by
 refine K_isync_Lock (md := false) ?_
 refine ⟨rfl, rfl, _, _, _, _, hS, rfl, rfl, ?_⟩
 refine s_eq (fun _ => ?_) (fun h1 => absurd rfl h1)
 refine ⟨_, _, _, Hp.set_same _ _ _, rfl, by show 0 < _ + 1; omega, ?_⟩
 exact ⟨rfl, rfl, rfl⟩
theorem Lock_L {S T : Nat} {cs : List AV} {h : Hp} (hS : h S = some (.row T [.int .i32 0 :: cs])) : CallL Tryz.prog F_sync_Mutex_Lock [.ptr S 0 0] h fun r h' => r = .ret (.tup []) ∧ h' = h.set S (.row T [.int .i32 1 :: cs]) := by
 refine K_sync_Mutex_Lock (md := false) ?_
 refine (isync_Lock_L hS).mono ?_
 rintro r h' ⟨rfl, rfl⟩
 exact ⟨rfl, rfl, rfl⟩
theorem isync_Unlock_L {S T : Nat} {cs : List AV} {h : Hp} (hS : h S = some (.row T [.int .i32 1 :: cs])) : CallL Tryz.prog F_isync_Unlock [.ptr S 0 0] h fun r h' => r = .ret (.tup []) ∧ h' = h.set S (.row T [.int .i32 0 :: cs]) := by
 refine K_isync_Unlock (md := false) ?_
 refine ⟨_, _, _, _, hS, rfl, rfl, ?_⟩
 refine ⟨_, _, _, hS, rfl, by show 0 < _ + 1; omega, ?_⟩
 refine ⟨rfl, _, _, _, _, hS, rfl, rfl, ?_⟩
 refine s_ie (d := 0) (by decide) ?_
 refine s_ne (fun h1 => absurd rfl h1) (fun _ => ?_)
 exact ⟨rfl, rfl, rfl⟩
theorem Unlock_D {S T : Nat} {cs : List AV} {h : Hp} {u : Um} (hS : h S = some (.row T [.int .i32 1 :: cs])) : DefL Tryz.prog F_sync_Mutex_Unlock [.ptr S 0 0] u h fun r u' h' => r = .ret (.tup []) ∧ u' = u ∧ h' = h.set S (.row T [.int .i32 0 :: cs]) := by
 refine DefL.of (md := false) Tryz.func340 C_sync_Mutex_Unlock (by rw [Tryz.ntmps340]; exact (show 1 ≤ 6 by decide)) (by
  rw [Tryz.ntmps340]
  refine (isync_Unlock_L hS).mono ?_
  rintro r h' ⟨rfl, rfl⟩
  exact ⟨rfl, rfl, rfl, rfl⟩)
abbrev TSet : TypeId := 86
abbrev SetC (z l md : AV) : List AV := [.int .i32 0, z, l, md]
theorem Has_Unlock : HasBody Tryz.prog F_sync_Mutex_Unlock := ⟨_, Tryz.func340, by kernel_rfl, by kernel_rfl⟩
theorem TableHit_L {S MD Tt clk : Nat} {z l : AV} {es : MapL} {full : Str} {h : Hp} (hS : h S = some (.row TSet [SetC z l (.map MD)])) (hM : h MD = some (.map es clk)) (hk : SKeys es) (hg : sget es full = some (.ptr Tt 0 0)) :
  CallL Tryz.prog F_table_Set_Table [.ptr S 0 0, .str full] h fun r h' => r = .ret (.tup [.ptr Tt 0 0, .int .i64 0]) ∧ h' = h := by
 have hne : MD ≠ S := fun e => by rw [e, hS] at hM; cases hM
 refine CallL.ofD (md := false) Tryz.func338 C_table_Set_Table (by rw [Tryz.ntmps338]; exact (show 2 ≤ 44 by decide)) (by
  rw [Tryz.ntmps338]
  refine (Lock_L hS).mono ?_
  rintro r h' ⟨rfl, rfl⟩
  refine ⟨_, _, _, _, Hp.set_same _ _ _, rfl, rfl, ?_⟩
  refine ⟨_, _, (Hp.set_ne hne).trans hM, rfl, hk.like full, fun r hr => ?_⟩
  obtain rfl : r = some (.ptr Tt 0 0) := hr.trans hg
  refine ⟨Has_Unlock, (Unlock_D (Hp.set_same _ _ _)).mono ?_⟩
  rintro r u h' ⟨rfl, rfl, rfl⟩
  exact ⟨rfl, (Hp.set_set _ _ _ _).trans (Hp.set_self hS)⟩)
end Go.Proofs.YtgjjbfhamlecoacGreatDoor

namespace Go.Proofs.YtgjjbfhamlecoacGreatDoor
open Go.L
abbrev wrongV (e p : Int) : AV := .ifc 121 (.agg [.int .i64 e, .int .i64 p])
theorem dright_L {R : Nat} {cv : AV} {at_ en w : Int} {h : Hp} (hR : h R = some (.row TR [RdC cv at_ en 0 w])) : CallL Tryz.prog F_decode_right [.ptr R 0 0] h fun r h' => r = .ret (.tup []) ∧ h' = h := by
 refine K_decode_right (md := false) ?_
 refine (rErr_L R cv at_ en 0 w h hR).mono ?_
 rintro r h' ⟨rfl, rfl⟩
 refine ⟨_, rfl, _, rfl, ?_⟩
 refine s_ne (fun h1 => absurd rfl h1) (fun _ => ?_)
 exact ⟨rfl, rfl, rfl⟩
theorem drightE_L {R : Nat} {cv : AV} {at_ en e w : Int} {h : Hp} (hR : h R = some (.row TR [RdC cv at_ en e w])) (he : e ≠ 0) : CallL Tryz.prog F_decode_right [.ptr R 0 0] h fun r h' => r = .pan (wrongV e w) ∧ h' = h := by
 refine K_decode_right (md := false) ?_
 have e1 : (if e = 0 then 0 else w) = w := if_neg he
 have k := rErr_L R cv at_ en e w h hR
 rw [e1] at k
 refine k.mono ?_
 rintro r h' ⟨rfl, rfl⟩
 refine ⟨_, rfl, _, rfl, ?_⟩
 refine s_ne (fun _ => ?_) (fun h1 => absurd h1 he)
 exact ⟨_, rfl, rfl, rfl, rfl⟩
def DTagQ (R : Nat) (cv : AV) (at_ en : Nat) (w : Int) (h : Hp) (x : WR (Nat × Nat)) (r : Res) (h' : Hp) : Prop := match x with
 | .ok (n, k) m => h' = h.set R (.row TR [RdC cv (at_ + m : Nat) en 0 w]) ∧ ((k = 4 ∧ r = .pan (wrongV 13 at_)) ∨ (k ≠ 4 ∧ r = .ret (.tup [.int .i32 n, .int .u8 k, .int .i64 at_])))
 | .bad e p => r = .pan (wrongV e (at_ + p : Nat)) ∧ ∃ a : Nat, h' = h.set R (.row TR [RdC cv a en e (at_ + p : Nat)])
theorem dtag_L {R : Nat} {cv : AV} {b : Str} {at_ en : Nat} {w : Int} {h : Hp} (k : RdOK R cv b at_ en w h) :
  CallL Tryz.prog F_decode_tag [.ptr R 0 0] h (DTagQ R cv at_ en w h (tagR (rest b at_ en))) := by
 refine K_decode_tag (md := false) ?_
 refine (rAt_L R cv at_ en 0 w _ k.row).mono ?_
 rintro r h' ⟨rfl, rfl⟩
 refine (Tag_L k).mono ?_
 rintro r h2 hq
 cases hx : tagR (rest b at_ en) with
 | bad e p =>
  rw [hx] at hq
  obtain ⟨rfl, a, rfl⟩ := hq
  have he := tagR_bad hx
  refine ⟨_, rfl, _, rfl, ?_⟩
  refine (drightE_L (Hp.set_same _ _ _) (by omega)).mono ?_
  rintro r h3 ⟨rfl, rfl⟩
  exact ⟨rfl, rfl, a, rfl⟩
 | ok x m =>
  obtain ⟨n, c⟩ := x
  rw [hx] at hq
  obtain ⟨rfl, rfl⟩ := hq
  refine ⟨_, rfl, _, rfl, ?_⟩
  refine (dright_L (Hp.set_same _ _ _)).mono ?_
  rintro r h3 ⟨rfl, rfl⟩
  refine s_eq (fun (h1 : (c : Int) = 4) => ?_) (fun (h1 : (c : Int) ≠ 4) => ?_)
  ·exact ⟨_, rfl, rfl, rfl, .inl ⟨by omega, rfl⟩⟩
  ·exact ⟨rfl, rfl, .inr ⟨by omega, rfl⟩⟩
abbrev TTab : TypeId := 264
abbrev TRow : TypeId := 174
abbrev TabC (full os rs nm nv jv : AV) : List AV := [full, os, rs, nm, nv, jv]
abbrev row0 : List AV := [.int .i32 0, .str [], .str [], .int .u8 0, .int .u8 0, .int .u8 0, .bool false, .int .i64 0, .str []]
end Go.Proofs.YtgjjbfhamlecoacGreatDoor

namespace Go.Proofs.YtgjjbfhamlecoacGreatDoor
open Go.L
abbrev TN : TypeId := 186
abbrev TD : TypeId := 126
theorem row_ne {H : Hp} {i j T U : Nat} {es fs : List (List AV)} (hi : H i = some (.row T es)) (hj : H j = some (.row U fs)) (hn : T ≠ U) : i ≠ j := fun e => by
 rw [e, hj] at hi
 injection hi with hi
 injection hi with h1 _
 exact hn h1.symm
theorem map_ne {H : Hp} {i j T c : Nat} {es : List (List AV)} {ms : MapL} (hi : H i = some (.row T es)) (hj : H j = some (.map ms c)) : i ≠ j := fun e => by
 rw [e, hj] at hi; cases hi
theorem AccE.put {T : TypeId} {h0 H : Hp} {u : AV} {es : List (List AV)} (a : AccE T h0 H u es) {R : Nat} (hR : h0.u R = false) (hn : blkOf u ≠ some R) (x : Blk) : AccE T h0 (H.set R x) u es := by
 obtain ⟨g, ⟨rfl, rfl⟩ | ⟨j, rfl, h1, h2⟩⟩ := a
 ·exact ⟨g.set hR _, .inl ⟨rfl, rfl⟩⟩
 ·exact ⟨g.set hR _, .inr ⟨j, rfl, h1, (Hp.set_ne fun e => hn (by rw [← e]; rfl)).trans h2⟩⟩
theorem AccE.blk {T : TypeId} {h0 H : Hp} {u : AV} {es : List (List AV)} (a : AccE T h0 H u es) {B : Nat} (hb : blkOf u = some B) : ∃ row, H B = some (.row T row) := by
 obtain ⟨_, ⟨rfl, rfl⟩ | ⟨j, rfl, h1, h2⟩⟩ := a
 ·cases hb
 ·cases hb; exact ⟨_, h2⟩
theorem OwnX.blk {T : TypeId} {H : Hp} {u : AV} {es : List (List AV)} (a : OwnX T H u es) {B : Nat} (hb : blkOf u = some B) : ∃ row, H B = some (.row T row) := by
 rcases a with ⟨rfl, rfl⟩ | ⟨b, row, q, rfl, h1, _⟩
 ·cases hb
 ·cases hb; exact ⟨_, h1⟩
structure Rec0 (h0 : Hp) (Tt N FM cF R : Nat) (cv : AV) (b : Str) (u : AV) (o : Nat) (l : Str) (H : Hp) : Prop where
 g : Gr h0 H
 nd : H N = some (.row TN [[.ptr Tt 0 0, .map FM, u]])
 fm : H FM = some (.map [] cF)
 rd : RdOK R cv b o b.length 0 H
 ac : AccE Tb h0 H u (bt l)
 nN : h0.u N = false
 nF : h0.u FM = false
 nR : h0.u R = false
 cu : ∀ B, blkOf cv = some B → blkOf u ≠ some B
section
variable {h0 H : Hp} {Tt N FM cF R : Nat} {cv u : AV} {b l : Str} {o : Nat}
theorem Rec0.NR (k : Rec0 h0 Tt N FM cF R cv b u o l H) : N ≠ R := row_ne k.nd k.rd.row (by decide)
theorem Rec0.NF (k : Rec0 h0 Tt N FM cF R cv b u o l H) : N ≠ FM := map_ne k.nd k.fm
theorem Rec0.RF (k : Rec0 h0 Tt N FM cF R cv b u o l H) : R ≠ FM := map_ne k.rd.row k.fm
theorem Rec0.uN (k : Rec0 h0 Tt N FM cF R cv b u o l H) : blkOf u ≠ some N := fun e => let ⟨_, h⟩ := AccE.blk k.ac e; row_ne h k.nd (by decide) rfl
theorem Rec0.uR (k : Rec0 h0 Tt N FM cF R cv b u o l H) : blkOf u ≠ some R := fun e => let ⟨_, h⟩ := AccE.blk k.ac e; row_ne h k.rd.row (by decide) rfl
theorem Rec0.uF (k : Rec0 h0 Tt N FM cF R cv b u o l H) : blkOf u ≠ some FM := fun e => let ⟨_, h⟩ := AccE.blk k.ac e; map_ne h k.fm rfl
theorem Rec0.cN (k : Rec0 h0 Tt N FM cF R cv b u o l H) : blkOf cv ≠ some N := fun e => let ⟨_, h⟩ := OwnX.blk k.rd.own e; row_ne h k.nd (by decide) rfl
theorem Rec0.gr (k : Rec0 h0 Tt N FM cF R cv b u o l H) {H' : Hp} (g : Gr H H') : Rec0 h0 Tt N FM cF R cv b u o l H' :=
 ⟨k.g.trans g, g.blk k.nd, g.blk k.fm, k.rd.gr g, k.ac.keep g, k.nN, k.nF, k.nR, k.cu⟩
theorem Rec0.read (k : Rec0 h0 Tt N FM cF R cv b u o l H) {o' : Nat} (ho : o' ≤ b.length) : Rec0 h0 Tt N FM cF R cv b u o' l (H.set R (.row TR [RdC cv o' b.length 0 0])) :=
 ⟨k.g.set k.nR _, (Hp.set_ne k.NR).trans k.nd, (Hp.set_ne k.RF.symm).trans k.fm, k.rd.put 0 ho, AccE.put k.ac k.nR k.uR _, k.nN, k.nF, k.nR, k.cu⟩
theorem Rec0.app (k : Rec0 h0 Tt N FM cF R cv b u o l H) {H' : Hp} {v : AV} {l' : Str} (ha : AccE Tb h0 H' v (bt l')) (hf : ∀ x, H.u x = true → blkOf u ≠ some x → H' x = H x)
  (hb : ∀ x, blkOf v = some x → blkOf u = some x ∨ H.u x = false) : Rec0 h0 Tt N FM cF R cv b v o l' (H'.set N (.row TN [[.ptr Tt 0 0, .map FM, v]])) := by
 have hR : H' R = some (.row TR [RdC cv o b.length 0 0]) := (hf R (Hp.used k.rd.row) k.uR).trans k.rd.row
 have hF : H' FM = some (.map [] cF) := (hf FM (Hp.used k.fm) k.uF).trans k.fm
 have vN : blkOf v ≠ some N := fun e => by
  rcases hb N e with h | h
  ·exact k.uN h
  ·rw [Hp.used k.nd] at h; cases h
 have hcu : ∀ B, blkOf cv = some B → blkOf v ≠ some B := fun B hB e => by
  rcases hb B e with h | h
  ·exact k.cu B hB h
  ·rw [k.rd.own.used hB] at h; cases h
 have own : OwnX Tb H' cv (bt b) := by
  rcases k.rd.own with ⟨rfl, h⟩ | ⟨B, row, q, rfl, h1, h2⟩
  ·exact .inl ⟨rfl, h⟩
  ·exact .inr ⟨B, row, q, rfl, (hf B (Hp.used h1) (k.cu B rfl)).trans h1, h2⟩
 exact ⟨ha.1.set k.nN _, Hp.set_same _ _ _, (Hp.set_ne k.NF.symm).trans hF, ⟨(Hp.set_ne k.NR.symm).trans hR, OwnX.setne own k.cN _, k.rd.ne, k.rd.le, k.rd.len, k.rd.big⟩, AccE.put ha k.nN vN _, k.nN, k.nF, k.nR, hcu⟩
end
def Recs0Q (h0 : Hp) (Tt N FM cF R : Nat) (cv : AV) (b : Str) (x : Nat × Nat) (r : Res) (h' : Hp) : Prop :=
 (x.1 = 0 ∧ r = .ret (.tup []) ∧ ∃ u, Rec0 h0 Tt N FM cF R cv b u b.length b h') ∨ (x.1 ≠ 0 ∧ r = .pan (wrongV x.1 x.2) ∧ Gr h0 h')
theorem Recs0Q.bad {h0 : Hp} {Tt N FM cF R : Nat} {cv : AV} {b : Str} {x : Nat × Nat} {e p : Nat} (hx : x = (e, p)) (he : e ≠ 0) {h' : Hp} (g : Gr h0 h') : Recs0Q h0 Tt N FM cF R cv b x (.pan (wrongV e p)) h' := by
 subst hx; exact .inr ⟨he, rfl, g⟩
end Go.Proofs.YtgjjbfhamlecoacGreatDoor
