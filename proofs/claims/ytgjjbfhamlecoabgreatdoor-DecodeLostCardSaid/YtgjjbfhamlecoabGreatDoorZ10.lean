/- Contracts of functions of the given program, in the logic L: texts put together; no conditions. -/
import Derived.Test.YtgjjbfhamlecoabGreatDoorZ2
import Derived.Test.YtgjjbfhamlecoabGreatDoorZ3
import Derived.Test.YtgjjbfhamlecoabGreatDoorProg
import Derived.KernelRfl
namespace Go.Proofs.YtgjjbfhamlecoabGreatDoor
open Go.L
abbrev F_lexiconref00_SameBytes : Nat := 10
def A_lexiconref00_SameBytes_0 : LA := [mv 6 0, We 7 6, mv 8 1, We 9 8, Wb 10 .neq 7 9]
def A_lexiconref00_SameBytes_1 : LA := [mv 11 5, mv 12 0, We 13 12, Wb 14 .lss 11 13]
def A_lexiconref00_SameBytes_2 : LA := [mv 17 0, mv 18 5, Wa 19 5 1 17 18, Wl 20 19, mv 21 1, mv 22 5, Wa 23 5 1 21 22, Wl 24 23, Wb 25 .neq 20 24]
def A_lexiconref00_SameBytes_3 : LA := [mv 15 5, Wi 16 .add 15 1, mv 5 16]
def A_lexiconref00_SameBytes_4 : ACode := (.seq (.seq (.ops A_lexiconref00_SameBytes_1) (.cond (.t 14) .skip (.exit 0))) (.seq (.block 1 (.seq (.alts [17, 18, 19, 20, 21, 22, 23, 24, 25] [A_lexiconref00_SameBytes_2]) (.cond (.t 25) (.seq (.ops [Wo 4 false]) .ret) .skip))) (.ops A_lexiconref00_SameBytes_3)))
def A_lexiconref00_SameBytes : ACode := (.seq (.ops [Wo 4 false]) (.seq (.seq (.ops A_lexiconref00_SameBytes_0) (.cond (.t 10) (.seq (.ops [Wo 4 false]) .ret) .skip)) (.seq (.seq (.ops [Wm 5 0]) (.block 0 (.loop A_lexiconref00_SameBytes_4))) (.seq (.ops [Wo 4 true]) .ret))))
def R_lexiconref00_SameBytes : List ARes := [.tmp 4]
theorem C_lexiconref00_SameBytes : compF Tryz.prog Tryz.f10 = some (A_lexiconref00_SameBytes, R_lexiconref00_SameBytes) := by kernel_rfl
theorem K_lexiconref00_SameBytes {md : Bool} {args : List AV} {h : Hp} {Q : Res → Hp → Prop} (hl : LCode Tryz.prog md A_lexiconref00_SameBytes (EndQ R_lexiconref00_SameBytes Q) (env0 26 args) h) (hn : args.length ≤ 26 := by (simp; done)) : CallL Tryz.prog F_lexiconref00_SameBytes args h Q :=
 CallL.of (md := md) Tryz.func10 C_lexiconref00_SameBytes (by rw [Tryz.ntmps10]; exact hn) (by rw [Tryz.ntmps10]; exact hl)
end Go.Proofs.YtgjjbfhamlecoabGreatDoor

namespace Go.Proofs.YtgjjbfhamlecoabGreatDoor
open Go.L
abbrev Tb : TypeId := 5
def eb (n : Int) : List AV := [.int .u8 n]
abbrev bx (l : List Int) : List (List AV) := l.map eb
def bt (l : Str) : List (List AV) := l.map fun b => [.int .u8 (b.toNat : Int)]
theorem bt_len (l : Str) : (bt l).length = l.length := List.length_map ..
theorem bt_app (l m : Str) : bt (l ++ m) = bt l ++ bt m := List.map_append ..
theorem bt_take (l : Str) (n : Nat) : bt (l.take n) = (bt l).take n := List.map_take ..
theorem bt_drop (l : Str) (n : Nat) : bt (l.drop n) = (bt l).drop n := List.map_drop ..
theorem bt_get {l : Str} {k : Nat} {x : UInt8} (h : l[k]? = some x) : (bt l)[k]? = some [.int .u8 (x.toNat : Int)] := by rw [bt, List.getElem?_map, h]; rfl
theorem bt_one (l : Str) : ∀ cs ∈ bt l, cs.length = 1 := fun cs h => by obtain ⟨s, _, rfl⟩ := List.mem_map.1 h; rfl
theorem bt_flat (l : Str) : ∀ cs ∈ bt l, flat cs = true := fun cs h => by obtain ⟨s, _, rfl⟩ := List.mem_map.1 h; rfl
theorem noidss_bt (p : Nat → Bool) (l : Str) : noidss p (bt l) = true := by
 induction l with
 | nil => rfl
 | cons a l ih => simpa [bt, noidss, noids, noid] using ih
theorem noid_isl (p : Nat → Bool) (g : Nat) (l : Str) (hg : p g = true) : noid p (.isl g (bt l)) = true := by simp [noid, hg, noidss_bt]
theorem byte_inj {x y : UInt8} (h : (x.toNat : Int) = (y.toNat : Int)) : x = y := UInt8.toNat_inj.1 (by omega)
theorem same_L (ga gb : Nat) (a b : Str) (ha : a.length ≤ 1000000000000) (hb : b.length ≤ 1000000000000) : PureL Tryz.prog F_lexiconref00_SameBytes [.isl ga (bt a), .isl gb (bt b)] (.bool (a == b)) := by
 intro h
 have hta := bt_len a
 have htb := bt_len b
 refine K_lexiconref00_SameBytes (md := false) ?_
 have no : a ≠ b → false = (a == b) := fun h => by symm; rw [beq_eq_false_iff_ne]; exact h
 refine s_ne (fun h1 => ?_) (fun h1 => ?_)
 ·exact ⟨rfl, Res.bool_eq (no fun e => h1 (by rw [e])), rfl⟩
 refine s_loop a.length (fun k (_ : Unit) => k ≤ a.length ∧ ∀ (j : Nat), j < k → a[j]? = b[j]?) (fun k _ => [(0, .isl ga (bt a)), (1, .isl gb (bt b)), (5, .int .i64 k)]) (fun _ _ => h) ()
  ⟨Nat.zero_le _, fun j hj => by omega⟩ rfl rfl ⟨rfl, rfl, rfl, trivial⟩ (fun k s hI => hI.1) ?_
 intro k _ n0 g0 hk ⟨_, hall⟩
 refine s_lt (fun h2 => ?_) (fun h2 => ?_)
 ·obtain ⟨x, hx⟩ := get_lt (l := a) (k := k) (by omega)
  obtain ⟨y, hy⟩ := get_lt (l := b) (k := k) (by omega)
  refine s_at k x rfl hx rfl (by decide) ?_
  refine ⟨_, rfl, ?_⟩
  refine s_at k y rfl hy rfl (by decide) ?_
  refine ⟨_, rfl, ?_⟩
  refine s_ne (fun h3 => ?_) (fun h3 => ?_)
  ·refine ⟨rfl, Res.bool_eq (no fun e => h3 ?_), rfl⟩
   subst e; rw [hx] at hy; cases hy; rfl
  ·refine s_nat (k + 1) (by omega) (by omega) ?_
   refine ⟨(), by omega, ⟨by omega, fun j hj => ?_⟩, rfl, rfl, rfl, rfl, rfl, trivial⟩
   by_cases e : j = k
   ·subst e; rw [hx, hy, byte_inj h3]
   ·exact hall j (by omega)
 ·refine ⟨rfl, Res.bool_eq ?_, rfl⟩
  symm; rw [beq_iff_eq]
  refine List.ext_getElem? fun j => ?_
  rcases Nat.lt_or_ge j k with hj | hj
  ·exact hall j hj
  ·rw [List.getElem?_eq_none (by omega), List.getElem?_eq_none (by omega)]
end Go.Proofs.YtgjjbfhamlecoabGreatDoor

namespace Go.Proofs.YtgjjbfhamlecoabGreatDoor
open Go.L
abbrev F_slices_Clone : Nat := 45
def A_slices_Clone_0 : LA := [mv 3 0, o_ 4 (.isnilu false (.t 3))]
def A_slices_Clone_1 : LA := [o_ 5 (.bslice0 5), mv 6 0, o_ 7 (.app 5 1 1 (.t 5) (.t 6)), mv 2 7]
def A_slices_Clone : ACode := (.seq (.ops [Wn 2]) (.seq (.seq (.ops A_slices_Clone_0) (.cond (.t 4) (.seq (.ops [Wn 2]) .ret) .skip)) (.seq (.ops A_slices_Clone_1) .ret)))
def R_slices_Clone : List ARes := [.tmp 2]
theorem C_slices_Clone : compF Tryz.prog Tryz.f45 = some (A_slices_Clone, R_slices_Clone) := by kernel_rfl
theorem K_slices_Clone {md : Bool} {args : List AV} {h : Hp} {Q : Res → Hp → Prop} (hl : LCode Tryz.prog md A_slices_Clone (EndQ R_slices_Clone Q) (env0 8 args) h) (hn : args.length ≤ 8 := by (simp; done)) : CallL Tryz.prog F_slices_Clone args h Q :=
 CallL.of (md := md) Tryz.func45 C_slices_Clone (by rw [Tryz.ntmps45]; exact hn) (by rw [Tryz.ntmps45]; exact hl)
abbrev F_math_bits_Len64 : Nat := 125
def A_math_bits_Len64_0 : LA := [mv 3 0, o_ 4 (.bini .geq (.t 3) (.c (.int .u64 4294967296)))]
def A_math_bits_Len64_1 : LA := [mv 5 0, o_ 6 (.bini .shr (.t 5) (.c (.int .u64 32))), mv 0 6]
def A_math_bits_Len64_2 : LA := [mv 7 0, o_ 8 (.bini .geq (.t 7) (.c (.int .u64 65536)))]
def A_math_bits_Len64_3 : LA := [mv 9 0, o_ 10 (.bini .shr (.t 9) (.c (.int .u64 16))), mv 0 10]
def A_math_bits_Len64_4 : LA := [mv 11 2, Wi 12 .add 11 16, mv 2 12]
def A_math_bits_Len64_5 : LA := [mv 13 0, o_ 14 (.bini .geq (.t 13) (.c (.int .u64 256)))]
def A_math_bits_Len64_6 : LA := [mv 15 0, o_ 16 (.bini .shr (.t 15) (.c (.int .u64 8))), mv 0 16]
def A_math_bits_Len64_7 : LA := [mv 17 2, Wi 18 .add 17 8, mv 2 18]
def A_math_bits_Len64_8 : LA := [mv 19 2, mv 20 0, o_ 21 (.conv .u8 (.t 20)), o_ 22 (.idxs (.c (.str [0, 1, 2, 2, 3, 3, 3, 3, 4, 4, 4, 4, 4, 4, 4, 4, 5, 5, 5, 5, 5, 5, 5, 5, 5, 5, 5, 5, 5, 5, 5, 5, 6, 6, 6, 6, 6, 6, 6, 6, 6, 6, 6, 6, 6, 6, 6, 6, 6, 6, 6, 6, 6, 6, 6, 6, 6, 6, 6, 6, 6, 6, 6, 6, 7, 7, 7, 7, 7, 7, 7, 7, 7, 7, 7, 7, 7, 7, 7, 7, 7, 7, 7, 7, 7, 7, 7, 7, 7, 7, 7, 7, 7, 7, 7, 7, 7, 7, 7, 7, 7, 7, 7, 7, 7, 7, 7, 7, 7, 7, 7, 7, 7, 7, 7, 7, 7, 7, 7, 7, 7, 7, 7, 7, 7, 7, 7, 7, 8, 8, 8, 8, 8, 8, 8, 8, 8, 8, 8, 8, 8, 8, 8, 8, 8, 8, 8, 8, 8, 8, 8, 8, 8, 8, 8, 8, 8, 8, 8, 8, 8, 8, 8, 8, 8, 8, 8, 8, 8, 8, 8, 8, 8, 8, 8, 8, 8, 8, 8, 8, 8, 8, 8, 8, 8, 8, 8, 8, 8, 8, 8, 8, 8, 8, 8, 8, 8, 8, 8, 8, 8, 8, 8, 8, 8, 8, 8, 8, 8, 8, 8, 8, 8, 8, 8, 8, 8, 8, 8, 8, 8, 8, 8, 8, 8, 8, 8, 8, 8, 8, 8, 8, 8, 8, 8, 8, 8, 8, 8, 8, 8, 8, 8, 8, 8, 8, 8, 8, 8, 8, 8, 8, 8, 8, 8, 8])) (.t 21)), o_ 23 (.conv .i64 (.t 22)), Wb 24 .add 19 23, mv 2 24]
def A_math_bits_Len64 : ACode := (.seq (.ops [Wm 2 0]) (.seq (.seq (.ops A_math_bits_Len64_0) (.cond (.t 4) (.seq (.ops A_math_bits_Len64_1) (.ops [Wm 2 32])) .skip)) (.seq (.seq (.ops A_math_bits_Len64_2) (.cond (.t 8) (.seq (.ops A_math_bits_Len64_3) (.ops A_math_bits_Len64_4)) .skip)) (.seq (.seq (.ops A_math_bits_Len64_5) (.cond (.t 14) (.seq (.ops A_math_bits_Len64_6) (.ops A_math_bits_Len64_7)) .skip)) (.seq (.ops A_math_bits_Len64_8) .ret)))))
def R_math_bits_Len64 : List ARes := [.tmp 2]
theorem C_math_bits_Len64 : compF Tryz.prog Tryz.f125 = some (A_math_bits_Len64, R_math_bits_Len64) := by kernel_rfl
theorem K_math_bits_Len64 {md : Bool} {args : List AV} {h : Hp} {Q : Res → Hp → Prop} (hl : LCode Tryz.prog md A_math_bits_Len64 (EndQ R_math_bits_Len64 Q) (env0 25 args) h) (hn : args.length ≤ 25 := by (simp; done)) : CallL Tryz.prog F_math_bits_Len64 args h Q :=
 CallL.of (md := md) Tryz.func125 C_math_bits_Len64 (by rw [Tryz.ntmps125]; exact hn) (by rw [Tryz.ntmps125]; exact hl)
end Go.Proofs.YtgjjbfhamlecoabGreatDoor

namespace Go.Proofs.YtgjjbfhamlecoabGreatDoor
open Go.L
theorem Clone_slc (i k T : Nat) (c : Option Nat) (es : List (List AV)) (l : Str) (h : Hp) (hi : h i = some (.row T es)) (hk : k + l.length ≤ es.length) (hs : (es.drop k).take l.length = bt l) (hl : l.length ≤ 1000000000000) :
  CallL Tryz.prog F_slices_Clone [.slc i k l.length c] h fun r h' => ∃ v, r = .ret v ∧ NewX Tb h h' v (bt l) := by
 have htl := bt_len l
 refine K_slices_Clone (md := false) ?_
 refine .inr fun j hj => ?_
 have hne : i ≠ j := ne_of_u (Hp.used hi) hj.1
 refine ⟨bt l, ⟨T, es, (Hp.set_ne hne).trans hi, hk, hs.symm⟩, bt_one _, _, Hp.set_same _ _ _, Nat.le_refl _, bt_flat _, ?_⟩
 by_cases h0 : l = []
 ·subst h0
  refine .inl ⟨Nat.le_refl _, Nat.le_refl _, ?_⟩
  refine ⟨rfl, _, rfl, .inr ⟨j, _, _, rfl, Hp.set_same _ _ _, rfl, Nat.le_refl _, .inr rfl⟩, ((Gr.refl h).set hj.1 _).set hj.1 _, fun b hb => by cases hb; exact hj.1⟩
 ·have hpos := List.length_pos_iff.2 h0
  refine .inr ⟨by omega, by rw [htl]; unfold capMax; omega, by rw [htl]; unfold capMax; omega, fun q hq => ?_⟩
  refine ⟨rfl, .slc q 0 (0 + (bt l).length) none, rfl, .inr ⟨q, bt l, none, by rw [Nat.zero_add], Hp.set_same _ _ _, List.take_length, Nat.le_refl _, .inl rfl⟩, ((Gr.refl h).set hj.1 _).set (((Gr.refl h).set hj.1 _).new hq.1) _, fun b hb => by cases hb; exact ((Gr.refl h).set hj.1 _).new hq.1⟩
theorem Clone_isl (g : Nat) (l : Str) (h : Hp) (hl : l.length ≤ 1000000000000) :
  CallL Tryz.prog F_slices_Clone [.isl g (bt l)] h fun r h' => ∃ v, r = .ret v ∧ NewX Tb h h' v (bt l) := by
 have htl := bt_len l
 refine K_slices_Clone (md := false) ?_
 refine s_then2 (fun e' h' => h' = h ∧ e'.ds = [] ∧ Has e' [(0, .isl g (bt l))]) ?_ ?_
 ·cases l with
  | nil =>
   intro b
   cases b
   ·exact ⟨rfl, rfl, rfl, trivial⟩
   ·exact ⟨rfl, .nils, rfl, .inl ⟨rfl, rfl⟩, Gr.refl h, fun b hb => by cases hb⟩
  | cons x l => exact ⟨rfl, rfl, rfl, trivial⟩
 ·rintro e' h' ⟨rfl, hd, hs⟩
  obtain ⟨n0, g0, rfl⟩ := hs.out hd
  refine .inr fun j hj => ?_
  refine ⟨bt l, rfl, bt_one _, _, Hp.set_same _ _ _, Nat.le_refl _, bt_flat _, ?_⟩
  by_cases h0 : l = []
  ·subst h0
   refine .inl ⟨Nat.le_refl _, Nat.le_refl _, ?_⟩
   refine ⟨rfl, _, rfl, .inr ⟨j, _, _, rfl, Hp.set_same _ _ _, rfl, Nat.le_refl _, .inr rfl⟩, ((Gr.refl _).set hj.1 _).set hj.1 _, fun b hb => by cases hb; exact hj.1⟩
  ·have hpos := List.length_pos_iff.2 h0
   refine .inr ⟨by omega, by rw [htl]; unfold capMax; omega, by rw [htl]; unfold capMax; omega, fun q hq => ?_⟩
   refine ⟨rfl, .slc q 0 (0 + (bt l).length) none, rfl, .inr ⟨q, bt l, none, by rw [Nat.zero_add], Hp.set_same _ _ _, List.take_length, Nat.le_refl _, .inl rfl⟩, ((Gr.refl _).set hj.1 _).set (((Gr.refl _).set hj.1 _).new hq.1) _, fun b hb => by cases hb; exact ((Gr.refl _).set hj.1 _).new hq.1⟩
def lenTab : Str := [0, 1] ++ List.replicate 2 2 ++ List.replicate 4 3 ++ List.replicate 8 4 ++ List.replicate 16 5 ++ List.replicate 32 6 ++ List.replicate 64 7 ++ List.replicate 128 8
theorem lenTab_get {n : Nat} (h : n < 256) : ∃ c, lenTab[n]? = some c ∧ c.toNat ≤ 8 := by
 have hl : lenTab.length = 256 := by kernel_rfl
 obtain ⟨c, hc⟩ := get_lt (l := lenTab) (k := n) (by omega)
 have ha : lenTab.all (fun c => decide (c.toNat ≤ 8)) = true := by kernel_rfl
 exact ⟨c, hc, of_decide_eq_true (List.all_eq_true.1 ha c (List.mem_of_getElem? hc))⟩
theorem shrN {v : Nat} {b : Int} {k : Nat} (hb : b.toNat = k) (hk : k ≤ 64) : Int.fdiv (v : Int) (2 ^ (min b.toNat IntKind.u64.bits)) = ((v / 2 ^ k : Nat) : Int) := by
 rw [hb, show min k IntKind.u64.bits = k from Nat.min_eq_left hk, Int.fdiv_eq_ediv_of_nonneg _ (Int.pow_nonneg (by decide))]
 simp
set_option maxRecDepth 20000 in
theorem Len64_L (v : Nat) (hv : v < 18446744073709551616) (h : Hp) : CallL Tryz.prog F_math_bits_Len64 [.int .u64 v] h fun r h' => (∃ n : Nat, n ≤ 64 ∧ r = .ret (.int .i64 n)) ∧ h' = h := by
 refine K_math_bits_Len64 (md := false) ?_
 refine s_then2 (fun e' h' => h' = h ∧ e'.ds = [] ∧ ∃ x n : Nat, x < 4294967296 ∧ n ≤ 32 ∧ Has e' [(0, .int .u64 x), (2, .int .i64 n)]) ?_ ?_
 ·refine s_le (fun h1 => ?_) (fun h1 => ?_)
  ·refine ⟨by decide, s_ie (shrN (k := 32) rfl (by decide)) ?_⟩
   exact ⟨rfl, rfl, v / 2 ^ 32, 32, by omega, by omega, rfl, rfl, trivial⟩
  ·exact ⟨rfl, rfl, v, 0, by omega, by omega, rfl, rfl, trivial⟩
 rintro e' h' ⟨rfl, hd, x, n, hx, hn, hs⟩
 obtain ⟨n0, g0, rfl⟩ := hs.out hd
 clear hd hs
 refine s_then (fun e' h'' => h'' = h' ∧ e'.ds = [] ∧ ∃ x n : Nat, x < 65536 ∧ n ≤ 48 ∧ Has e' [(0, .int .u64 x), (2, .int .i64 n)]) ?_ ?_
 ·refine s_le (fun h1 => ?_) (fun h1 => ?_)
  ·refine ⟨by decide, s_ie (shrN (k := 16) rfl (by decide)) ?_⟩
   refine s_nat (n + 16) (by omega) (by omega) ?_
   exact ⟨rfl, rfl, x / 2 ^ 16, n + 16, by omega, by omega, rfl, rfl, trivial⟩
  ·exact ⟨rfl, rfl, x, n, by omega, by omega, rfl, rfl, trivial⟩
 rintro e' h'' ⟨rfl, hd, x, n, hx, hn, hs⟩
 obtain ⟨n0, g0, rfl⟩ := hs.out hd
 clear hd hs
 refine s_then (fun e' h' => h' = h'' ∧ e'.ds = [] ∧ ∃ x n : Nat, x < 256 ∧ n ≤ 56 ∧ Has e' [(0, .int .u64 x), (2, .int .i64 n)]) ?_ ?_
 ·refine s_le (fun h1 => ?_) (fun h1 => ?_)
  ·refine ⟨by decide, s_ie (shrN (k := 8) rfl (by decide)) ?_⟩
   refine s_nat (n + 8) (by omega) (by omega) ?_
   exact ⟨rfl, rfl, x / 2 ^ 8, n + 8, by omega, by omega, rfl, rfl, trivial⟩
  ·exact ⟨rfl, rfl, x, n, by omega, by omega, rfl, rfl, trivial⟩
 rintro e' h' ⟨rfl, hd, x, n, hx, hn, hs⟩
 obtain ⟨n0, g0, rfl⟩ := hs.out hd
 clear hd hs
 obtain ⟨c, hc, hc8⟩ := lenTab_get hx
 refine s_ie ((u8_nat x).trans (by rw [Nat.mod_eq_of_lt hx])) ?_
 refine ⟨x, c, rfl, hc, ?_⟩
 refine s_nat c.toNat rfl (by omega) ?_
 refine s_nat (n + c.toNat) (by omega) (by omega) ?_
 exact ⟨rfl, ⟨_, by omega, rfl⟩, rfl⟩
end Go.Proofs.YtgjjbfhamlecoabGreatDoor

namespace Go.Proofs.YtgjjbfhamlecoabGreatDoor
open Go.L
abbrev F_wire_NewReader : Nat := 20
def A_wire_NewReader_0 : LA := [mv 3 0, o_ 4 (.call 45 [(.t 3)]), mv 5 0, We 6 5, o_ 7 (.build [.nils, .int .i64 (0), .int .i64 (0), .int .i64 (0), .int .i64 0] [(0, 1, (.t 4)), (2, 1, (.t 6))]), o_ 8 (.box 141 5 (.t 7)), mv 2 8]
def A_wire_NewReader : ACode := (.seq (.ops [o_ 2 (.mov (.c (.nilp)))]) (.seq (.ops A_wire_NewReader_0) .ret))
def R_wire_NewReader : List ARes := [.tmp 2]
theorem C_wire_NewReader : compF Tryz.prog Tryz.f20 = some (A_wire_NewReader, R_wire_NewReader) := by kernel_rfl
theorem K_wire_NewReader {md : Bool} {args : List AV} {h : Hp} {Q : Res → Hp → Prop} (hl : LCode Tryz.prog md A_wire_NewReader (EndQ R_wire_NewReader Q) (env0 9 args) h) (hn : args.length ≤ 9 := by (simp; done)) : CallL Tryz.prog F_wire_NewReader args h Q :=
 CallL.of (md := md) Tryz.func20 C_wire_NewReader (by rw [Tryz.ntmps20]; exact hn) (by rw [Tryz.ntmps20]; exact hl)
abbrev F_wire_Reader_wrong : Nat := 47
def A_wire_Reader_wrong_0 : LA := [mv 6 0, Wc 7 6, Wf 8 3 7, Wl 9 8, Wi 10 .eql 9 0]
def A_wire_Reader_wrong_1 : LA := [mv 11 0, mv 12 0, mv 13 1, mv 14 2, Wc 15 11, Wf 16 3 15, Ws 1 16 13, Wc 17 12, Wf 18 4 17, Ws 1 18 14]
def A_wire_Reader_wrong : ACode := (.seq (.ops A_wire_Reader_wrong_0) (.cond (.t 10) (.ops A_wire_Reader_wrong_1) .skip))
def R_wire_Reader_wrong : List ARes := []
theorem C_wire_Reader_wrong : compF Tryz.prog Tryz.f47 = some (A_wire_Reader_wrong, R_wire_Reader_wrong) := by kernel_rfl
theorem K_wire_Reader_wrong {md : Bool} {args : List AV} {h : Hp} {Q : Res → Hp → Prop} (hl : LCode Tryz.prog md A_wire_Reader_wrong (EndQ R_wire_Reader_wrong Q) (env0 19 args) h) (hn : args.length ≤ 19 := by (simp; done)) : CallL Tryz.prog F_wire_Reader_wrong args h Q :=
 CallL.of (md := md) Tryz.func47 C_wire_Reader_wrong (by rw [Tryz.ntmps47]; exact hn) (by rw [Tryz.ntmps47]; exact hl)
abbrev F_wire_Reader_Err : Nat := 24
def A_wire_Reader_Err_0 : LA := [Wm 2 0, Wm 3 0]
def A_wire_Reader_Err_1 : LA := [mv 4 0, Wc 5 4, Wf 6 3 5, Wl 7 6, Wi 8 .eql 7 0]
def A_wire_Reader_Err_2 : LA := [Wm 2 0, Wm 3 0]
def A_wire_Reader_Err_3 : LA := [mv 9 0, Wc 10 9, Wf 11 3 10, Wl 12 11, mv 13 0, Wc 14 13, Wf 15 4 14, Wl 16 15, mv 2 12, mv 3 16]
def A_wire_Reader_Err : ACode := (.seq (.ops A_wire_Reader_Err_0) (.seq (.seq (.ops A_wire_Reader_Err_1) (.cond (.t 8) (.seq (.ops A_wire_Reader_Err_2) .ret) .skip)) (.seq (.alts [9, 10, 11, 12, 13, 14, 15, 16, 2, 3] [A_wire_Reader_Err_3]) .ret)))
def R_wire_Reader_Err : List ARes := [.tmp 2, .tmp 3]
theorem C_wire_Reader_Err : compF Tryz.prog Tryz.f24 = some (A_wire_Reader_Err, R_wire_Reader_Err) := by kernel_rfl
theorem K_wire_Reader_Err {md : Bool} {args : List AV} {h : Hp} {Q : Res → Hp → Prop} (hl : LCode Tryz.prog md A_wire_Reader_Err (EndQ R_wire_Reader_Err Q) (env0 17 args) h) (hn : args.length ≤ 17 := by (simp; done)) : CallL Tryz.prog F_wire_Reader_Err args h Q :=
 CallL.of (md := md) Tryz.func24 C_wire_Reader_Err (by rw [Tryz.ntmps24]; exact hn) (by rw [Tryz.ntmps24]; exact hl)
abbrev F_wire_Reader_Varint : Nat := 46
def A_wire_Reader_Varint_0 : LA := [mv 6 0, Wc 7 6, Wf 8 3 7, Wl 9 8, Wi 10 .neq 9 0]
def A_wire_Reader_Varint_1 : LA := [mv 11 4, Wi 12 .lss 11 10]
def A_wire_Reader_Varint_2 : LA := [mv 15 0, Wc 16 15, Wf 17 1 16, Wl 18 17, mv 19 4, Wb 20 .add 18 19, mv 21 0, Wc 22 21, Wf 23 2 22, Wl 24 23, Wb 25 .geq 20 24]
def A_wire_Reader_Varint_3 : LA := [mv 26 0, mv 27 0, Wc 28 27, Wf 29 1 28, Wl 30 29, o_ 31 (.call 47 [(.t 26), (i_ 10), (.t 30)])]
def A_wire_Reader_Varint_4 : LA := [mv 32 0, Wc 33 32, Wf 34 0 33, Wl 35 34, mv 36 0, Wc 37 36, Wf 38 1 37, Wl 39 38, mv 40 4, Wb 41 .add 39 40, Wa 42 5 1 35 41, Wl 43 42, mv 5 43]
def A_wire_Reader_Varint_5 : LA := [mv 44 4, Wi 45 .eql 44 9, mv 46 45, Wgm 47 5 46, g_ 48 (.bini .gtr (.t 47) (.c (.int .u8 1))) 46, Wp 49 46 48]
def A_wire_Reader_Varint_6 : LA := [mv 50 3, mv 51 5, o_ 52 (.bini .and (.t 51) (.c (.int .u8 127))), o_ 53 (.conv .u64 (.t 52)), mv 54 4, o_ 55 (.bini .mul (i_ 7) (.t 54)), Wb 56 .shl 53 55, Wb 57 .or 50 56, mv 3 57]
def A_wire_Reader_Varint_7 : LA := [mv 58 5, o_ 59 (.bini .lss (.t 58) (.c (.int .u8 128)))]
def A_wire_Reader_Varint_8 : LA := [mv 60 0, Wc 61 60, Wf 62 1 61, Wl 63 62, mv 64 4, Wi 65 .add 64 1, Wb 66 .add 63 65, Wc 67 60, Wf 68 1 67, Ws 1 68 66]
def A_wire_Reader_Varint_9 : LA := [mv 69 3, mv 2 69]
def A_wire_Reader_Varint_10 : LA := [mv 13 4, Wi 14 .add 13 1, mv 4 14]
def A_wire_Reader_Varint_11 : ACode := (.seq (.seq (.ops A_wire_Reader_Varint_1) (.cond (.t 12) .skip (.exit 0))) (.seq (.block 1 (.seq (.seq (.alts [15, 16, 17, 18, 19, 20, 21, 22, 23, 24, 25] [A_wire_Reader_Varint_2]) (.cond (.t 25) (.seq (.ops A_wire_Reader_Varint_3) (.seq (.ops [o_ 2 (.mov (.c (.int .u64 0)))]) .ret)) .skip)) (.seq (.alts [32, 33, 34, 35, 36, 37, 38, 39, 40, 41, 42, 43, 5] [A_wire_Reader_Varint_4]) (.seq (.seq (.ops A_wire_Reader_Varint_5) (.cond (.t 49) (.exit 0) .skip)) (.seq (.ops A_wire_Reader_Varint_6) (.seq (.ops A_wire_Reader_Varint_7) (.cond (.t 59) (.seq (.ops A_wire_Reader_Varint_8) (.seq (.ops A_wire_Reader_Varint_9) .ret)) .skip))))))) (.ops A_wire_Reader_Varint_10)))
def A_wire_Reader_Varint_12 : LA := [mv 70 0, mv 71 0, Wc 72 71, Wf 73 1 72, Wl 74 73, o_ 75 (.call 47 [(.t 70), (i_ 11), (.t 74)])]
def A_wire_Reader_Varint : ACode := (.seq (.ops [o_ 2 (.mov (.c (.int .u64 0)))]) (.seq (.ops [o_ 3 (.mov (.c (.int .u64 0)))]) (.seq (.seq (.ops A_wire_Reader_Varint_0) (.cond (.t 10) (.seq (.ops [o_ 2 (.mov (.c (.int .u64 0)))]) .ret) .skip)) (.seq (.seq (.ops [Wm 4 0]) (.block 0 (.loop A_wire_Reader_Varint_11))) (.seq (.ops A_wire_Reader_Varint_12) (.seq (.ops [o_ 2 (.mov (.c (.int .u64 0)))]) .ret))))))
def R_wire_Reader_Varint : List ARes := [.tmp 2]
theorem C_wire_Reader_Varint : compF Tryz.prog Tryz.f46 = some (A_wire_Reader_Varint, R_wire_Reader_Varint) := by kernel_rfl
theorem K_wire_Reader_Varint {md : Bool} {args : List AV} {h : Hp} {Q : Res → Hp → Prop} (hl : LCode Tryz.prog md A_wire_Reader_Varint (EndQ R_wire_Reader_Varint Q) (env0 76 args) h) (hn : args.length ≤ 76 := by (simp; done)) : CallL Tryz.prog F_wire_Reader_Varint args h Q :=
 CallL.of (md := md) Tryz.func46 C_wire_Reader_Varint (by rw [Tryz.ntmps46]; exact hn) (by rw [Tryz.ntmps46]; exact hl)
abbrev F_wire_Reader_At : Nat := 22
def A_wire_Reader_At_0 : LA := [mv 3 0, Wc 4 3, Wf 5 1 4, Wl 6 5, mv 2 6]
def A_wire_Reader_At : ACode := (.seq (.ops [Wm 2 0]) (.seq (.ops A_wire_Reader_At_0) .ret))
def R_wire_Reader_At : List ARes := [.tmp 2]
theorem C_wire_Reader_At : compF Tryz.prog Tryz.f22 = some (A_wire_Reader_At, R_wire_Reader_At) := by kernel_rfl
theorem K_wire_Reader_At {md : Bool} {args : List AV} {h : Hp} {Q : Res → Hp → Prop} (hl : LCode Tryz.prog md A_wire_Reader_At (EndQ R_wire_Reader_At Q) (env0 7 args) h) (hn : args.length ≤ 7 := by (simp; done)) : CallL Tryz.prog F_wire_Reader_At args h Q :=
 CallL.of (md := md) Tryz.func22 C_wire_Reader_At (by rw [Tryz.ntmps22]; exact hn) (by rw [Tryz.ntmps22]; exact hl)
end Go.Proofs.YtgjjbfhamlecoabGreatDoor

namespace Go.Proofs.YtgjjbfhamlecoabGreatDoor
open Go.L
abbrev TR : TypeId := 141
def RdC (v : AV) (at_ en e w : Int) : List AV := [v, .int .i64 at_, .int .i64 en, .int .i64 e, .int .i64 w]
theorem rwrong_L (R : Nat) (cv : AV) (at_ en w e p : Int) (h : Hp) (hR : h R = some (.row TR [RdC cv at_ en 0 w])) :
  CallL Tryz.prog F_wire_Reader_wrong [.ptr R 0 0, .int .i64 e, .int .i64 p] h fun r h' => r = .ret (.tup []) ∧ h' = h.set R (.row TR [RdC cv at_ en e p]) := by
 refine K_wire_Reader_wrong (md := false) ?_
 refine ⟨_, _, _, _, hR, rfl, rfl, ?_⟩
 refine s_eq (fun _ => ?_) (fun h1 => absurd rfl h1)
 refine ⟨_, _, _, hR, rfl, rfl, rfl, rfl, by show 4 ≤ 5; decide, ?_⟩
 refine ⟨_, _, _, Hp.set_same _ _ _, rfl, rfl, rfl, rfl, by show 5 ≤ 5; decide, ?_⟩
 exact ⟨rfl, rfl, Hp.set_set _ _ _ _⟩
theorem rErr_L (R : Nat) (cv : AV) (at_ en e w : Int) (h : Hp) (hR : h R = some (.row TR [RdC cv at_ en e w])) :
  CallL Tryz.prog F_wire_Reader_Err [.ptr R 0 0] h fun r h' => r = .ret (.tup [.int .i64 e, .int .i64 (if e = 0 then 0 else w)]) ∧ h' = h := by
 refine K_wire_Reader_Err (md := false) ?_
 refine ⟨_, _, _, _, hR, rfl, rfl, ?_⟩
 refine s_eq (fun (h1 : e = 0) => ?_) (fun (h1 : e ≠ 0) => ?_)
 ·subst h1; exact ⟨rfl, rfl, rfl⟩
 ·refine ⟨_, _, _, _, hR, rfl, rfl, ?_⟩
  refine ⟨_, _, _, _, hR, rfl, rfl, ?_⟩
  exact ⟨rfl, by rw [if_neg h1]; rfl, rfl⟩
theorem rAt_L (R : Nat) (cv : AV) (at_ en e w : Int) (h : Hp) (hR : h R = some (.row TR [RdC cv at_ en e w])) :
  CallL Tryz.prog F_wire_Reader_At [.ptr R 0 0] h fun r h' => r = .ret (.int .i64 at_) ∧ h' = h := by
 refine K_wire_Reader_At (md := false) ?_
 refine ⟨_, _, _, _, hR, rfl, rfl, ?_⟩
 exact ⟨rfl, rfl, rfl⟩
set_option maxRecDepth 20000 in
theorem and127' : ∀ x : Fin 256, (BitVec.ofNat 8 x.val &&& 127#8).toNat = x.val % 128 := by decide
theorem and127 (c : UInt8) : ibits .and .u8 (c.toNat : Int) 127 = ((c.toNat % 128 : Nat) : Int) := by
 have hc := c.toNat_lt
 have h1 := and127' ⟨c.toNat, by omega⟩
 have e : BitVec.ofInt IntKind.u8.bits ((c.toNat : Nat) : Int) = BitVec.ofNat 8 c.toNat := BitVec.ofInt_natCast 8 _
 have e2 : BitVec.ofInt IntKind.u8.bits 127 = 127#8 := rfl
 rw [ibits, e, e2]
 show IntKind.u8.wrap ((BitVec.ofNat 8 c.toNat &&& 127#8).toNat : Int) = _
 rw [h1, u8_nat]
 show (((c.toNat % 128) % 256 : Nat) : Int) = _
 omega
theorem or_add {a y i : Nat} (ha : a < 2 ^ (7 * i)) (x : Nat) (hy : y = x * 2 ^ (7 * i)) (hb : a + y < 18446744073709551616) : ibits .or .u64 (a : Int) (y : Int) = ((a + y : Nat) : Int) := by
 have e : ∀ n : Nat, BitVec.ofInt IntKind.u64.bits (n : Int) = BitVec.ofNat 64 n := fun n => BitVec.ofInt_natCast 64 n
 rw [ibits, e, e]
 show IntKind.u64.wrap ((BitVec.ofNat 64 a ||| BitVec.ofNat 64 y).toNat : Int) = _
 have h1 : (BitVec.ofNat 64 a ||| BitVec.ofNat 64 y).toNat = a + y := by
  rw [BitVec.toNat_or, BitVec.toNat_ofNat, BitVec.toNat_ofNat, Nat.mod_eq_of_lt (by omega), Nat.mod_eq_of_lt (by omega), Nat.or_comm, hy, Nat.mul_comm, ← Nat.two_pow_add_eq_or_of_lt ha]
  omega
 rw [h1, u64_nat hb]
theorem shl7 {x i : Nat} (h : x * 2 ^ (7 * i) < 18446744073709551616) (hi : i ≤ 9) : IntKind.u64.wrap ((x : Int) * 2 ^ (min ((7 * i : Nat) : Int).toNat IntKind.u64.bits)) = ((x * 2 ^ (7 * i) : Nat) : Int) := by
 rw [show min ((7 * i : Nat) : Int).toNat IntKind.u64.bits = 7 * i from Nat.min_eq_left (by show 7 * i ≤ 64; omega)]
 have e : (x : Int) * 2 ^ (7 * i) = ((x * 2 ^ (7 * i) : Nat) : Int) := by simp
 rw [e, u64_nat h]
theorem p128 (i : Nat) : 128 ^ i = 2 ^ (7 * i) := by rw [Nat.pow_mul]
def VarQ (R : Nat) (cv : AV) (at_ en : Nat) (w : Int) (rest : Str) (h : Hp) (r : Res) (h' : Hp) : Prop := match rdV rest with
 | .ok v n => r = .ret (.int .u64 v) ∧ h' = h.set R (.row TR [RdC cv (at_ + n : Nat) en 0 w])
 | .short => r = .ret (.int .u64 0) ∧ h' = h.set R (.row TR [RdC cv at_ en 10 at_])
 | .long => r = .ret (.int .u64 0) ∧ h' = h.set R (.row TR [RdC cv at_ en 11 at_])
theorem VarQ.ok {R : Nat} {cv : AV} {at_ en : Nat} {w : Int} {rest : Str} {h : Hp} {v n : Nat} (e : rdV rest = .ok v n) : VarQ R cv at_ en w rest h (.ret (.int .u64 v)) (h.set R (.row TR [RdC cv (at_ + n : Nat) en 0 w])) := by
 unfold VarQ; rw [e]; exact ⟨rfl, rfl⟩
theorem VarQ.short {R : Nat} {cv : AV} {at_ en : Nat} {w : Int} {rest : Str} {h : Hp} (e : rdV rest = .short) : VarQ R cv at_ en w rest h (.ret (.int .u64 0)) (h.set R (.row TR [RdC cv at_ en 10 at_])) := by
 unfold VarQ; rw [e]; exact ⟨rfl, rfl⟩
theorem VarQ.long {R : Nat} {cv : AV} {at_ en : Nat} {w : Int} {rest : Str} {h : Hp} (e : rdV rest = .long) : VarQ R cv at_ en w rest h (.ret (.int .u64 0)) (h.set R (.row TR [RdC cv at_ en 11 at_])) := by
 unfold VarQ; rw [e]; exact ⟨rfl, rfl⟩
theorem rdN_lt : ∀ (f i acc : Nat) (b : Str) (v n : Nat), f + i ≤ 10 → acc < 128 ^ i → rdN f i acc b = .ok v n → n ≤ i + b.length ∧ i < n ∧ v < 18446744073709551616
 | 0, _, _, _, _, _, _, _, h => by cases h
 | f + 1, i, acc, [], _, _, _, _, h => by cases h
 | f + 1, i, acc, c :: r, v, n, hf, ha, h => by
  rw [rdN] at h
  have hp : acc + c.toNat % 128 * 128 ^ i < 128 ^ (i + 1) := by
   have h1 : c.toNat % 128 * 128 ^ i ≤ 127 * 128 ^ i := Nat.mul_le_mul_right _ (by omega)
   rw [Nat.pow_succ']; omega
  split at h
  ·cases h
  ·rename_i h9
   split at h
   ·rename_i h8
    cases h
    refine ⟨by rw [List.length_cons]; omega, by omega, ?_⟩
    by_cases e : i = 9
    ·subst e
     have hc1 : c.toNat ≤ 1 := by
      rcases Nat.lt_or_ge 1 c.toNat with h | h
      ·exact absurd ⟨rfl, h⟩ h9
      ·exact h
     have : c.toNat % 128 * 128 ^ 9 ≤ 1 * 128 ^ 9 := Nat.mul_le_mul_right _ (by omega)
     omega
    ·have : 128 ^ (i + 1) ≤ 128 ^ 9 := Nat.pow_le_pow_right (by decide) (by omega)
     omega
   ·have := rdN_lt f (i + 1) _ r v n (by omega) hp h
    rw [List.length_cons]; omega
theorem rdV_lt {b : Str} {v n : Nat} (h : rdV b = .ok v n) : n ≤ b.length ∧ 0 < n ∧ v < 18446744073709551616 := by
 have := rdN_lt 10 0 0 b v n (by decide) (by decide) h
 omega
set_option maxHeartbeats 2000000 in
theorem rVarint_L (R : Nat) (cv : AV) (at_ en : Nat) (w : Int) (b : Str) (h : Hp) (hR : h R = some (.row TR [RdC cv at_ en 0 w])) (ho : OwnX Tb h cv (bt b)) (hcR : blkOf cv ≠ some R) (h1 : at_ ≤ en) (h2 : en ≤ b.length) (hb : b.length ≤ 1000000000000) :
  CallL Tryz.prog F_wire_Reader_Varint [.ptr R 0 0] h (VarQ R cv at_ en w ((b.take en).drop at_) h) := by
 refine K_wire_Reader_Varint (md := false) ?_
 refine ⟨_, _, _, _, hR, rfl, rfl, ?_⟩
 refine s_ne (fun h3 => absurd rfl h3) (fun _ => ?_)
 have hrl : ((b.take en).drop at_).length = en - at_ := by rw [List.length_drop, List.length_take]; omega
 have hset : h.set R (.row TR [RdC cv at_ en 0 w]) = h := Hp.set_self hR
 refine s_blk (id := 0) (fun e' h' => h' = h ∧ e'.ds = [] ∧ rdV ((b.take en).drop at_) = .long ∧ Has e' [(0, .ptr R 0 0)]) ?_ ?_
 ·refine s_loop 10 (fun k (s : Nat) => k ≤ 10 ∧ s < 128 ^ k ∧ rdV ((b.take en).drop at_) = rdN (10 - k) k s (((b.take en).drop at_).drop k)) (fun k s => [(0, .ptr R 0 0), (3, .int .u64 (s : Nat)), (4, .int .i64 k)]) (fun _ _ => h) 0 ⟨Nat.zero_le _, by decide, rfl⟩ rfl rfl ⟨rfl, rfl, rfl, trivial⟩ (fun k s hI => hI.1) ?_
  rintro k acc n0 g0 hk ⟨_, hacc, hrd⟩
  refine s_lt (fun (h3 : (k : Int) < 10) => ?_) (fun (h3 : (10 : Int) ≤ k) => ?_)
  ·have hf : 10 - k = (9 - k) + 1 := by omega
   rw [hf] at hrd
   refine ⟨_, _, _, _, hR, rfl, rfl, ?_⟩
   refine s_nat (at_ + k) (by omega) (by omega) ?_
   refine ⟨_, _, _, _, hR, rfl, rfl, ?_⟩
   refine s_le (fun (h4 : (en : Int) ≤ (at_ + k : Nat)) => ?_) (fun (h4 : ((at_ + k : Nat) : Int) < en) => ?_)
   ·have e0 : ((b.take en).drop at_).drop k = [] := List.drop_of_length_le (by omega)
    rw [e0, rdN] at hrd
    refine ⟨_, _, _, _, hR, rfl, rfl, ?_⟩
    refine (rwrong_L R cv at_ en w 10 at_ h hR).mono ?_
    rintro r h' ⟨rfl, rfl⟩
    exact ⟨rfl, VarQ.short hrd⟩
   ·obtain ⟨c, hc⟩ := get_lt (l := (b.take en).drop at_) (k := k) (by omega)
    have hcb : b[at_ + k]? = some c := by
     rw [List.getElem?_drop, List.getElem?_take_of_lt (by omega)] at hc; exact hc
    rw [drop_cons hc, rdN] at hrd
    refine ⟨_, _, _, _, hR, rfl, rfl, ?_⟩
    refine ⟨_, _, _, _, hR, rfl, rfl, ?_⟩
    refine s_nat (at_ + k) (by omega) (by omega) ?_
    rcases ho with ⟨rfl, h0⟩ | ⟨B, row, q, rfl, hB, hrow, hrl2, _⟩
    ·have hb0 : b.length = 0 := by have := congrArg List.length h0; rwa [bt_len] at this
     have := (List.getElem?_eq_some_iff.1 hcb).1
     omega
    have hbl := bt_len b
    have hg : row[0 + (at_ + k)]? = some [.int .u8 (c.toNat : Int)] := by
     have := bt_get hcb
     rw [← hrow, List.getElem?_take_of_lt (by omega)] at this
     rw [Nat.zero_add]; exact this
    refine ⟨at_ + k, rfl, by omega, ⟨_, hB⟩, ?_⟩
    refine ⟨_, _, _, _, hB, hg, rfl, ?_⟩
    have hcl := c.toNat_lt
    have more : ∀ (n1 : Nat) (g1 : Nat → AV), ¬ (k = 9 ∧ 1 < c.toNat) → True := fun _ _ _ => trivial
    refine s_eq (fun (h5 : (k : Int) = 9) => ?_) (fun (h5 : (k : Int) ≠ 9) => ?_)
    ·refine s_lt (fun (h6 : (1 : Int) < c.toNat) => ?_) (fun (h6 : (c.toNat : Int) ≤ 1) => ?_)
     ·rw [if_pos ⟨by omega, by omega⟩] at hrd
      exact ⟨rfl, rfl, hrd, rfl, trivial⟩
     ·rw [if_neg (by omega), if_pos (by omega)] at hrd
      have hx : c.toNat % 128 * 2 ^ (7 * k) < 18446744073709551616 := by
       obtain rfl : k = 9 := by omega
       have : c.toNat % 128 * 2 ^ (7 * 9) ≤ 1 * 2 ^ (7 * 9) := Nat.mul_le_mul_right _ (by omega)
       omega
      have hx2 : acc + c.toNat % 128 * 2 ^ (7 * k) < 18446744073709551616 := by
       obtain rfl : k = 9 := by omega
       have : c.toNat % 128 * 2 ^ (7 * 9) ≤ 1 * 2 ^ (7 * 9) := Nat.mul_le_mul_right _ (by omega)
       omega
      refine s_ie (and127 c) (s_ie (u64_nat (by omega)) ?_)
      refine s_nat (7 * k) (by omega) (by omega) ?_
      refine ⟨by omega, s_ie (shl7 hx (by omega)) ?_⟩
      refine s_ie (or_add (by rw [← p128]; exact hacc) _ rfl hx2) ?_
      refine s_lt (fun _ => ?_) (fun (h7 : (128 : Int) ≤ c.toNat) => by omega)
      refine ⟨_, _, _, _, hR, rfl, rfl, ?_⟩
      refine s_nat (k + 1) (by omega) (by omega) ?_
      refine s_nat (at_ + (k + 1)) (by omega) (by omega) ?_
      refine ⟨_, _, _, hR, rfl, rfl, rfl, rfl, by show 2 ≤ 5; decide, ?_⟩
      exact ⟨rfl, VarQ.ok (hrd.trans (by rw [p128]))⟩
    ·rw [if_neg (by omega)] at hrd
     have hx1 : c.toNat % 128 * 2 ^ (7 * k) ≤ 127 * 2 ^ (7 * k) := Nat.mul_le_mul_right _ (by omega)
     have hx3 : 2 ^ (7 * k) ≤ 2 ^ 56 := Nat.pow_le_pow_right (by decide) (by omega)
     have hacc2 : acc < 2 ^ (7 * k) := by rw [← p128]; exact hacc
     refine s_ie (and127 c) (s_ie (u64_nat (by omega)) ?_)
     refine s_nat (7 * k) (by omega) (by omega) ?_
     refine ⟨by omega, s_ie (shl7 (by omega) (by omega)) ?_⟩
     refine s_ie (or_add hacc2 _ rfl (by omega)) ?_
     refine s_lt (fun (h7 : (c.toNat : Int) < 128) => ?_) (fun (h7 : (128 : Int) ≤ c.toNat) => ?_)
     ·rw [if_pos (by omega)] at hrd
      refine ⟨_, _, _, _, hR, rfl, rfl, ?_⟩
      refine s_nat (k + 1) (by omega) (by omega) ?_
      refine s_nat (at_ + (k + 1)) (by omega) (by omega) ?_
      refine ⟨_, _, _, hR, rfl, rfl, rfl, rfl, by show 2 ≤ 5; decide, ?_⟩
      exact ⟨rfl, VarQ.ok (hrd.trans (by rw [p128]))⟩
     ·rw [if_neg (by omega)] at hrd
      refine s_nat (k + 1) (by omega) (by omega) ?_
      refine ⟨acc + c.toNat % 128 * 2 ^ (7 * k), by omega, ⟨by omega, ?_, ?_⟩, rfl, rfl, rfl, rfl, rfl, trivial⟩
      ·rw [p128, show 7 * (k + 1) = 7 * k + 7 by omega, Nat.pow_add]; omega
      ·rw [hrd, p128, show 10 - (k + 1) = 9 - k by omega]
  ·obtain rfl : k = 10 := by omega
   exact ⟨rfl, rfl, by rw [hrd]; rfl, rfl, trivial⟩
 ·rintro e' h' ⟨rfl, hd, hl, hs⟩
  obtain ⟨n0, g0, rfl⟩ := hs.out hd
  refine ⟨_, _, _, _, hR, rfl, rfl, ?_⟩
  refine (rwrong_L R cv at_ en w 11 at_ h' hR).mono ?_
  rintro r h'' ⟨rfl, rfl⟩
  exact ⟨rfl, VarQ.long hl⟩
end Go.Proofs.YtgjjbfhamlecoabGreatDoor

namespace Go.Proofs.YtgjjbfhamlecoabGreatDoor
open Go.L
abbrev F_wire_Reader_Left : Nat := 21
def A_wire_Reader_Left_0 : LA := [mv 3 0, Wc 4 3, Wf 5 3 4, Wl 6 5, Wi 7 .neq 6 0]
def A_wire_Reader_Left_1 : LA := [mv 8 0, Wc 9 8, Wf 10 2 9, Wl 11 10, mv 12 0, Wc 13 12, Wf 14 1 13, Wl 15 14, Wb 16 .sub 11 15, mv 2 16]
def A_wire_Reader_Left : ACode := (.seq (.ops [Wm 2 0]) (.seq (.seq (.ops A_wire_Reader_Left_0) (.cond (.t 7) (.seq (.ops [Wm 2 0]) .ret) .skip)) (.seq (.alts [8, 9, 10, 11, 12, 13, 14, 15, 16, 2] [A_wire_Reader_Left_1]) .ret)))
def R_wire_Reader_Left : List ARes := [.tmp 2]
theorem C_wire_Reader_Left : compF Tryz.prog Tryz.f21 = some (A_wire_Reader_Left, R_wire_Reader_Left) := by kernel_rfl
theorem K_wire_Reader_Left {md : Bool} {args : List AV} {h : Hp} {Q : Res → Hp → Prop} (hl : LCode Tryz.prog md A_wire_Reader_Left (EndQ R_wire_Reader_Left Q) (env0 17 args) h) (hn : args.length ≤ 17 := by (simp; done)) : CallL Tryz.prog F_wire_Reader_Left args h Q :=
 CallL.of (md := md) Tryz.func21 C_wire_Reader_Left (by rw [Tryz.ntmps21]; exact hn) (by rw [Tryz.ntmps21]; exact hl)
abbrev F_wire_Reader_Tag : Nat := 23
def A_wire_Reader_Tag_0 : LA := [o_ 2 (.mov (.c (.int .i32 0))), o_ 3 (.mov (.c (.int .u8 0)))]
def A_wire_Reader_Tag_1 : LA := [mv 7 0, Wc 8 7, Wf 9 1 8, Wl 10 9, mv 4 10]
def A_wire_Reader_Tag_2 : LA := [mv 11 0, o_ 12 (.call 46 [(.t 11)]), mv 5 12]
def A_wire_Reader_Tag_3 : LA := [mv 13 0, Wc 14 13, Wf 15 3 14, Wl 16 15, Wi 17 .neq 16 0]
def A_wire_Reader_Tag_4 : LA := [o_ 2 (.mov (.c (.int .i32 0))), o_ 3 (.mov (.c (.int .u8 0)))]
def A_wire_Reader_Tag_5 : LA := [mv 18 5, o_ 19 (.bini .and (.t 18) (.c (.int .u64 7))), o_ 20 (.conv .u8 (.t 19)), mv 6 20]
def A_wire_Reader_Tag_6 : LA := [mv 21 5, o_ 22 (.bini .gtr (.t 21) (.c (.int .u64 4294967295))), mv 23 22, Whm 24 5 23, Wh 25 (.bini .shr (.t 24) (.c (.int .u64 3))) 23, Wh 26 (.bini .eql (.t 25) (.c (.int .u64 0))) 23, Wq 27 23 26, mv 28 27, Whm 29 6 28, Wh 30 (.bini .gtr (.t 29) (.c (.int .u8 5))) 28, Wq 31 28 30]
def A_wire_Reader_Tag_7 : LA := [mv 32 0, mv 33 4, Wc 34 32, Wf 35 1 34, Ws 1 35 33]
def A_wire_Reader_Tag_8 : LA := [mv 36 0, mv 37 4, o_ 38 (.call 47 [(.t 36), (i_ 12), (.t 37)])]
def A_wire_Reader_Tag_9 : LA := [o_ 2 (.mov (.c (.int .i32 0))), o_ 3 (.mov (.c (.int .u8 0)))]
def A_wire_Reader_Tag_10 : LA := [mv 39 5, o_ 40 (.bini .shr (.t 39) (.c (.int .u64 3))), o_ 41 (.conv .i32 (.t 40)), mv 42 6, mv 2 41, mv 3 42]
def A_wire_Reader_Tag : ACode := (.seq (.ops A_wire_Reader_Tag_0) (.seq (.ops A_wire_Reader_Tag_1) (.seq (.ops A_wire_Reader_Tag_2) (.seq (.seq (.ops A_wire_Reader_Tag_3) (.cond (.t 17) (.seq (.ops A_wire_Reader_Tag_4) .ret) .skip)) (.seq (.ops A_wire_Reader_Tag_5) (.seq (.seq (.ops A_wire_Reader_Tag_6) (.cond (.t 31) (.seq (.ops A_wire_Reader_Tag_7) (.seq (.ops A_wire_Reader_Tag_8) (.seq (.ops A_wire_Reader_Tag_9) .ret))) .skip)) (.seq (.ops A_wire_Reader_Tag_10) .ret)))))))
def R_wire_Reader_Tag : List ARes := [.tmp 2, .tmp 3]
theorem C_wire_Reader_Tag : compF Tryz.prog Tryz.f23 = some (A_wire_Reader_Tag, R_wire_Reader_Tag) := by kernel_rfl
theorem K_wire_Reader_Tag {md : Bool} {args : List AV} {h : Hp} {Q : Res → Hp → Prop} (hl : LCode Tryz.prog md A_wire_Reader_Tag (EndQ R_wire_Reader_Tag Q) (env0 43 args) h) (hn : args.length ≤ 43 := by (simp; done)) : CallL Tryz.prog F_wire_Reader_Tag args h Q :=
 CallL.of (md := md) Tryz.func23 C_wire_Reader_Tag (by rw [Tryz.ntmps23]; exact hn) (by rw [Tryz.ntmps23]; exact hl)
abbrev F_wire_Reader_span : Nat := 95
def A_wire_Reader_span_0 : LA := [Wm 2 0, Wm 3 0, Wo 4 false]
def A_wire_Reader_span_1 : LA := [mv 8 0, Wc 9 8, Wf 10 1 9, Wl 11 10, mv 5 11]
def A_wire_Reader_span_2 : LA := [mv 12 0, o_ 13 (.call 46 [(.t 12)]), mv 6 13]
def A_wire_Reader_span_3 : LA := [mv 14 0, Wc 15 14, Wf 16 3 15, Wl 17 16, Wi 18 .eql 17 0, mv 19 18, Wgm 20 6 19, Wgm 21 0 19, g_ 22 (.nilc (.t 21)) 19, Wgf 23 2 22 19, Wgl 24 23 19, Wgm 25 0 19, g_ 26 (.nilc (.t 25)) 19, Wgf 27 1 26 19, Wgl 28 27 19, g_ 29 (.bini .sub (.t 24) (.t 28)) 19, g_ 30 (.conv .u64 (.t 29)) 19, g_ 31 (.bini .gtr (.t 20) (.t 30)) 19, Wp 32 19 31]
def A_wire_Reader_span_4 : LA := [mv 33 0, mv 34 5, Wc 35 33, Wf 36 1 35, Ws 1 36 34]
def A_wire_Reader_span_5 : LA := [mv 37 0, mv 38 5, o_ 39 (.call 47 [(.t 37), (i_ 10), (.t 38)])]
def A_wire_Reader_span_6 : LA := [mv 40 0, Wc 41 40, Wf 42 3 41, Wl 43 42, Wi 44 .neq 43 0]
def A_wire_Reader_span_7 : LA := [Wm 2 0, Wm 3 0, Wo 4 false]
def A_wire_Reader_span_8 : LA := [mv 45 0, Wc 46 45, Wf 47 1 46, Wl 48 47, mv 7 48]
def A_wire_Reader_span_9 : LA := [mv 49 0, Wc 50 49, Wf 51 1 50, Wl 52 51, mv 53 6, o_ 54 (.conv .i64 (.t 53)), Wb 55 .add 52 54, Wc 56 49, Wf 57 1 56, Ws 1 57 55]
def A_wire_Reader_span_10 : LA := [mv 58 7, mv 59 0, Wc 60 59, Wf 61 1 60, Wl 62 61, mv 2 58, mv 3 62, Wo 4 true]
def A_wire_Reader_span : ACode := (.seq (.ops A_wire_Reader_span_0) (.seq (.ops A_wire_Reader_span_1) (.seq (.ops A_wire_Reader_span_2) (.seq (.seq (.alts [14, 15, 16, 17, 18, 19, 20, 21, 22, 23, 24, 25, 26, 27, 28, 29, 30, 31, 32] [A_wire_Reader_span_3]) (.cond (.t 32) (.seq (.ops A_wire_Reader_span_4) (.ops A_wire_Reader_span_5)) .skip)) (.seq (.seq (.ops A_wire_Reader_span_6) (.cond (.t 44) (.seq (.ops A_wire_Reader_span_7) .ret) .skip)) (.seq (.ops A_wire_Reader_span_8) (.seq (.ops A_wire_Reader_span_9) (.seq (.alts [58, 59, 60, 61, 62, 2, 3, 4] [A_wire_Reader_span_10]) .ret))))))))
def R_wire_Reader_span : List ARes := [.tmp 2, .tmp 3, .tmp 4]
theorem C_wire_Reader_span : compF Tryz.prog Tryz.f95 = some (A_wire_Reader_span, R_wire_Reader_span) := by kernel_rfl
theorem K_wire_Reader_span {md : Bool} {args : List AV} {h : Hp} {Q : Res → Hp → Prop} (hl : LCode Tryz.prog md A_wire_Reader_span (EndQ R_wire_Reader_span Q) (env0 63 args) h) (hn : args.length ≤ 63 := by (simp; done)) : CallL Tryz.prog F_wire_Reader_span args h Q :=
 CallL.of (md := md) Tryz.func95 C_wire_Reader_span (by rw [Tryz.ntmps95]; exact hn) (by rw [Tryz.ntmps95]; exact hl)
abbrev F_wire_Reader_Fixed32 : Nat := 97
def A_wire_Reader_Fixed32_0 : LA := [mv 3 0, o_ 4 (.call 146 [(.t 3)]), mv 2 4]
def A_wire_Reader_Fixed32 : ACode := (.seq (.ops [o_ 2 (.mov (.c (.int .u32 0)))]) (.seq (.ops A_wire_Reader_Fixed32_0) .ret))
def R_wire_Reader_Fixed32 : List ARes := [.tmp 2]
theorem C_wire_Reader_Fixed32 : compF Tryz.prog Tryz.f97 = some (A_wire_Reader_Fixed32, R_wire_Reader_Fixed32) := by kernel_rfl
theorem K_wire_Reader_Fixed32 {md : Bool} {args : List AV} {h : Hp} {Q : Res → Hp → Prop} (hl : LCode Tryz.prog md A_wire_Reader_Fixed32 (EndQ R_wire_Reader_Fixed32 Q) (env0 5 args) h) (hn : args.length ≤ 5 := by (simp; done)) : CallL Tryz.prog F_wire_Reader_Fixed32 args h Q :=
 CallL.of (md := md) Tryz.func97 C_wire_Reader_Fixed32 (by rw [Tryz.ntmps97]; exact hn) (by rw [Tryz.ntmps97]; exact hl)
abbrev F_wire_Reader_Fixed64 : Nat := 94
def A_wire_Reader_Fixed64_0 : LA := [mv 3 0, o_ 4 (.call 145 [(.t 3)]), mv 2 4]
def A_wire_Reader_Fixed64 : ACode := (.seq (.ops [o_ 2 (.mov (.c (.int .u64 0)))]) (.seq (.ops A_wire_Reader_Fixed64_0) .ret))
def R_wire_Reader_Fixed64 : List ARes := [.tmp 2]
theorem C_wire_Reader_Fixed64 : compF Tryz.prog Tryz.f94 = some (A_wire_Reader_Fixed64, R_wire_Reader_Fixed64) := by kernel_rfl
theorem K_wire_Reader_Fixed64 {md : Bool} {args : List AV} {h : Hp} {Q : Res → Hp → Prop} (hl : LCode Tryz.prog md A_wire_Reader_Fixed64 (EndQ R_wire_Reader_Fixed64 Q) (env0 5 args) h) (hn : args.length ≤ 5 := by (simp; done)) : CallL Tryz.prog F_wire_Reader_Fixed64 args h Q :=
 CallL.of (md := md) Tryz.func94 C_wire_Reader_Fixed64 (by rw [Tryz.ntmps94]; exact hn) (by rw [Tryz.ntmps94]; exact hl)
abbrev F_get32 : Nat := 146
def A_get32_0 : LA := [o_ 5 (.call 211 []), mv 3 5]
def A_get32_1 : LA := [mv 6 0, Wc 7 6, Wf 8 3 7, Wl 9 8, Wi 10 .eql 9 0, mv 11 10, Wgm 12 0 11, g_ 13 (.nilc (.t 12)) 11, Wgf 14 2 13 11, Wgl 15 14 11, Wgm 16 0 11, g_ 17 (.nilc (.t 16)) 11, Wgf 18 1 17 11, Wgl 19 18 11, g_ 20 (.bini .sub (.t 15) (.t 19)) 11, Wgm 21 3 11, g_ 22 (.bini .lss (.t 20) (.t 21)) 11, Wp 23 11 22]
def A_get32_2 : LA := [mv 24 0, mv 25 0, Wc 26 25, Wf 27 1 26, Wl 28 27, o_ 29 (.call 47 [(.t 24), (i_ 10), (.t 28)])]
def A_get32_3 : LA := [mv 30 0, Wc 31 30, Wf 32 3 31, Wl 33 32, Wi 34 .neq 33 0]
def A_get32_4 : LA := [mv 35 0, Wc 36 35, Wf 37 0 36, Wl 38 37, mv 39 0, Wc 40 39, Wf 41 1 40, Wl 42 41, o_ 43 (.slcl 5 1 (.t 38) (some (.t 42)) none none), o_ 44 (.call 212 [(.t 43)]), mv 4 44]
def A_get32_5 : LA := [mv 45 0, Wc 46 45, Wf 47 1 46, Wl 48 47, mv 49 3, Wb 50 .add 48 49, Wc 51 45, Wf 52 1 51, Ws 1 52 50]
def A_get32_6 : LA := [mv 53 4, mv 2 53]
def A_get32 : ACode := (.seq (.ops [o_ 2 (.mov (.c (.int .u32 0)))]) (.seq (.ops A_get32_0) (.seq (.seq (.alts [6, 7, 8, 9, 10, 11, 12, 13, 14, 15, 16, 17, 18, 19, 20, 21, 22, 23] [A_get32_1]) (.cond (.t 23) (.ops A_get32_2) .skip)) (.seq (.seq (.ops A_get32_3) (.cond (.t 34) (.seq (.ops [o_ 2 (.mov (.c (.int .u32 0)))]) .ret) .skip)) (.seq (.alts [35, 36, 37, 38, 39, 40, 41, 42, 43, 44, 4] [A_get32_4]) (.seq (.ops A_get32_5) (.seq (.ops A_get32_6) .ret)))))))
def R_get32 : List ARes := [.tmp 2]
theorem C_get32 : compF Tryz.prog Tryz.f146 = some (A_get32, R_get32) := by kernel_rfl
theorem K_get32 {md : Bool} {args : List AV} {h : Hp} {Q : Res → Hp → Prop} (hl : LCode Tryz.prog md A_get32 (EndQ R_get32 Q) (env0 54 args) h) (hn : args.length ≤ 54 := by (simp; done)) : CallL Tryz.prog F_get32 args h Q :=
 CallL.of (md := md) Tryz.func146 C_get32 (by rw [Tryz.ntmps146]; exact hn) (by rw [Tryz.ntmps146]; exact hl)
abbrev F_get64 : Nat := 145
def A_get64_0 : LA := [o_ 5 (.call 209 []), mv 3 5]
def A_get64_1 : LA := [mv 6 0, Wc 7 6, Wf 8 3 7, Wl 9 8, Wi 10 .eql 9 0, mv 11 10, Wgm 12 0 11, g_ 13 (.nilc (.t 12)) 11, Wgf 14 2 13 11, Wgl 15 14 11, Wgm 16 0 11, g_ 17 (.nilc (.t 16)) 11, Wgf 18 1 17 11, Wgl 19 18 11, g_ 20 (.bini .sub (.t 15) (.t 19)) 11, Wgm 21 3 11, g_ 22 (.bini .lss (.t 20) (.t 21)) 11, Wp 23 11 22]
def A_get64_2 : LA := [mv 24 0, mv 25 0, Wc 26 25, Wf 27 1 26, Wl 28 27, o_ 29 (.call 47 [(.t 24), (i_ 10), (.t 28)])]
def A_get64_3 : LA := [mv 30 0, Wc 31 30, Wf 32 3 31, Wl 33 32, Wi 34 .neq 33 0]
def A_get64_4 : LA := [mv 35 0, Wc 36 35, Wf 37 0 36, Wl 38 37, mv 39 0, Wc 40 39, Wf 41 1 40, Wl 42 41, o_ 43 (.slcl 5 1 (.t 38) (some (.t 42)) none none), o_ 44 (.call 210 [(.t 43)]), mv 4 44]
def A_get64_5 : LA := [mv 45 0, Wc 46 45, Wf 47 1 46, Wl 48 47, mv 49 3, Wb 50 .add 48 49, Wc 51 45, Wf 52 1 51, Ws 1 52 50]
def A_get64_6 : LA := [mv 53 4, mv 2 53]
def A_get64 : ACode := (.seq (.ops [o_ 2 (.mov (.c (.int .u64 0)))]) (.seq (.ops A_get64_0) (.seq (.seq (.alts [6, 7, 8, 9, 10, 11, 12, 13, 14, 15, 16, 17, 18, 19, 20, 21, 22, 23] [A_get64_1]) (.cond (.t 23) (.ops A_get64_2) .skip)) (.seq (.seq (.ops A_get64_3) (.cond (.t 34) (.seq (.ops [o_ 2 (.mov (.c (.int .u64 0)))]) .ret) .skip)) (.seq (.alts [35, 36, 37, 38, 39, 40, 41, 42, 43, 44, 4] [A_get64_4]) (.seq (.ops A_get64_5) (.seq (.ops A_get64_6) .ret)))))))
def R_get64 : List ARes := [.tmp 2]
theorem C_get64 : compF Tryz.prog Tryz.f145 = some (A_get64, R_get64) := by kernel_rfl
theorem K_get64 {md : Bool} {args : List AV} {h : Hp} {Q : Res → Hp → Prop} (hl : LCode Tryz.prog md A_get64 (EndQ R_get64 Q) (env0 54 args) h) (hn : args.length ≤ 54 := by (simp; done)) : CallL Tryz.prog F_get64 args h Q :=
 CallL.of (md := md) Tryz.func145 C_get64 (by rw [Tryz.ntmps145]; exact hn) (by rw [Tryz.ntmps145]; exact hl)
abbrev F_width32 : Nat := 211
def A_width32_0 : LA := [o_ 1 (.conv .u32 (i_ 0)), o_ 2 (.cpl (.t 1)), o_ 3 (.bini .shr (.t 2) (.c (.int .u64 31))), o_ 4 (.bini .eql (.t 3) (.c (.int .u32 1)))]
def A_width32 : ACode := (.seq (.ops [Wm 0 0]) (.seq (.seq (.ops A_width32_0) (.cond (.t 4) (.seq (.ops [Wm 0 4]) .ret) .skip)) (.seq (.ops [Wm 0 8]) .ret)))
def R_width32 : List ARes := [.tmp 0]
theorem C_width32 : compF Tryz.prog Tryz.f211 = some (A_width32, R_width32) := by kernel_rfl
theorem K_width32 {md : Bool} {args : List AV} {h : Hp} {Q : Res → Hp → Prop} (hl : LCode Tryz.prog md A_width32 (EndQ R_width32 Q) (env0 5 args) h) (hn : args.length ≤ 5 := by (simp; done)) : CallL Tryz.prog F_width32 args h Q :=
 CallL.of (md := md) Tryz.func211 C_width32 (by rw [Tryz.ntmps211]; exact hn) (by rw [Tryz.ntmps211]; exact hl)
abbrev F_width64 : Nat := 209
def A_width64_0 : LA := [o_ 1 (.conv .u64 (i_ 0)), o_ 2 (.cpl (.t 1)), o_ 3 (.bini .shr (.t 2) (.c (.int .u64 31))), o_ 4 (.bini .eql (.t 3) (.c (.int .u64 1)))]
def A_width64 : ACode := (.seq (.ops [Wm 0 0]) (.seq (.seq (.ops A_width64_0) (.cond (.t 4) (.seq (.ops [Wm 0 4]) .ret) .skip)) (.seq (.ops [Wm 0 8]) .ret)))
def R_width64 : List ARes := [.tmp 0]
theorem C_width64 : compF Tryz.prog Tryz.f209 = some (A_width64, R_width64) := by kernel_rfl
theorem K_width64 {md : Bool} {args : List AV} {h : Hp} {Q : Res → Hp → Prop} (hl : LCode Tryz.prog md A_width64 (EndQ R_width64 Q) (env0 5 args) h) (hn : args.length ≤ 5 := by (simp; done)) : CallL Tryz.prog F_width64 args h Q :=
 CallL.of (md := md) Tryz.func209 C_width64 (by rw [Tryz.ntmps209]; exact hn) (by rw [Tryz.ntmps209]; exact hl)
abbrev F_taken32 : Nat := 212
def A_taken32_0 : LA := [o_ 5 (.call 211 []), Wi 6 .sub 5 1, mv 4 6]
def A_taken32_1 : LA := [mv 7 4, Wi 8 .geq 7 0]
def A_taken32_2 : LA := [mv 11 3, o_ 12 (.bini .shl (.t 11) (.c (.int .u64 8))), mv 13 0, mv 14 4, Wa 15 5 1 13 14, Wl 16 15, o_ 17 (.conv .u32 (.t 16)), Wb 18 .or 12 17, mv 3 18]
def A_taken32_3 : LA := [mv 9 4, Wi 10 .sub 9 1, mv 4 10]
def A_taken32_4 : ACode := (.seq (.seq (.ops A_taken32_1) (.cond (.t 8) .skip (.exit 0))) (.seq (.block 1 (.ops A_taken32_2)) (.ops A_taken32_3)))
def A_taken32_5 : LA := [mv 19 3, mv 2 19]
def A_taken32 : ACode := (.seq (.ops [o_ 2 (.mov (.c (.int .u32 0)))]) (.seq (.ops [o_ 3 (.mov (.c (.int .u32 0)))]) (.seq (.seq (.ops A_taken32_0) (.block 0 (.loop A_taken32_4))) (.seq (.ops A_taken32_5) .ret))))
def R_taken32 : List ARes := [.tmp 2]
theorem C_taken32 : compF Tryz.prog Tryz.f212 = some (A_taken32, R_taken32) := by kernel_rfl
theorem K_taken32 {md : Bool} {args : List AV} {h : Hp} {Q : Res → Hp → Prop} (hl : LCode Tryz.prog md A_taken32 (EndQ R_taken32 Q) (env0 20 args) h) (hn : args.length ≤ 20 := by (simp; done)) : CallL Tryz.prog F_taken32 args h Q :=
 CallL.of (md := md) Tryz.func212 C_taken32 (by rw [Tryz.ntmps212]; exact hn) (by rw [Tryz.ntmps212]; exact hl)
abbrev F_taken64 : Nat := 210
def A_taken64_0 : LA := [o_ 5 (.call 209 []), Wi 6 .sub 5 1, mv 4 6]
def A_taken64_1 : LA := [mv 7 4, Wi 8 .geq 7 0]
def A_taken64_2 : LA := [mv 11 3, o_ 12 (.bini .shl (.t 11) (.c (.int .u64 8))), mv 13 0, mv 14 4, Wa 15 5 1 13 14, Wl 16 15, o_ 17 (.conv .u64 (.t 16)), Wb 18 .or 12 17, mv 3 18]
def A_taken64_3 : LA := [mv 9 4, Wi 10 .sub 9 1, mv 4 10]
def A_taken64_4 : ACode := (.seq (.seq (.ops A_taken64_1) (.cond (.t 8) .skip (.exit 0))) (.seq (.block 1 (.ops A_taken64_2)) (.ops A_taken64_3)))
def A_taken64_5 : LA := [mv 19 3, mv 2 19]
def A_taken64 : ACode := (.seq (.ops [o_ 2 (.mov (.c (.int .u64 0)))]) (.seq (.ops [o_ 3 (.mov (.c (.int .u64 0)))]) (.seq (.seq (.ops A_taken64_0) (.block 0 (.loop A_taken64_4))) (.seq (.ops A_taken64_5) .ret))))
def R_taken64 : List ARes := [.tmp 2]
theorem C_taken64 : compF Tryz.prog Tryz.f210 = some (A_taken64, R_taken64) := by kernel_rfl
theorem K_taken64 {md : Bool} {args : List AV} {h : Hp} {Q : Res → Hp → Prop} (hl : LCode Tryz.prog md A_taken64 (EndQ R_taken64 Q) (env0 20 args) h) (hn : args.length ≤ 20 := by (simp; done)) : CallL Tryz.prog F_taken64 args h Q :=
 CallL.of (md := md) Tryz.func210 C_taken64 (by rw [Tryz.ntmps210]; exact hn) (by rw [Tryz.ntmps210]; exact hl)
abbrev F_wire_Reader_group : Nat := 96
def A_wire_Reader_group_0 : LA := [mv 10 2, Wi 11 .lss 10 1]
def A_wire_Reader_group_1 : LA := [mv 12 0, mv 13 0, Wc 14 13, Wf 15 1 14, Wl 16 15, o_ 17 (.call 47 [(.t 12), (i_ 14), (.t 16)])]
def A_wire_Reader_group_2 : LA := [mv 18 0, Wc 19 18, Wf 20 3 19, Wl 21 20, Wi 22 .eql 21 0]
def A_wire_Reader_group_3 : LA := [mv 23 0, Wc 24 23, Wf 25 1 24, Wl 26 25, mv 7 26]
def A_wire_Reader_group_4 : LA := [mv 28 0, o_ 29 (.call 23 [(.t 28)]), mv 27 29, Wx 30 0 27, Wx 31 1 27, mv 8 30, mv 9 31]
def A_wire_Reader_group_5 : LA := [mv 36 0, Wc 37 36, Wf 38 3 37, Wl 39 38, Wi 40 .neq 39 0, mv 35 40]
def A_wire_Reader_group_6 : LA := [mv 42 9, o_ 43 (.bini .neq (.t 42) (.c (.int .u8 4))), mv 41 43]
def A_wire_Reader_group_7 : LA := [mv 44 0, mv 45 8, mv 46 9, mv 47 2, Wi 48 .sub 47 1, o_ 49 (.call 48 [(.t 44), (.t 45), (.t 46), (.t 48)])]
def A_wire_Reader_group_8 : LA := [mv 51 8, mv 52 1, Wb 53 .eql 51 52, mv 50 53]
def A_wire_Reader_group_9 : LA := [mv 54 7, mv 6 54]
def A_wire_Reader_group_10 : LA := [mv 32 0, mv 33 7, o_ 34 (.call 47 [(.t 32), (i_ 13), (.t 33)])]
def A_wire_Reader_group_11 : ACode := (.seq (.seq (.ops A_wire_Reader_group_2) (.cond (.t 22) .skip (.exit 0))) (.block 1 (.seq (.ops A_wire_Reader_group_3) (.seq (.ops A_wire_Reader_group_4) (.block 2 (.seq (.ops A_wire_Reader_group_5) (.cond (.t 35) .skip (.seq (.ops A_wire_Reader_group_6) (.cond (.t 41) (.ops A_wire_Reader_group_7) (.seq (.ops A_wire_Reader_group_8) (.cond (.t 50) (.seq (.ops A_wire_Reader_group_9) .ret) (.ops A_wire_Reader_group_10))))))))))))
def A_wire_Reader_group : ACode := (.seq (.ops [Wm 6 0]) (.seq (.seq (.ops A_wire_Reader_group_0) (.cond (.t 11) (.ops A_wire_Reader_group_1) .skip)) (.seq (.block 0 (.loop A_wire_Reader_group_11)) (.seq (.ops [Wm 6 0]) .ret))))
def R_wire_Reader_group : List ARes := [.tmp 6]
theorem C_wire_Reader_group : compF Tryz.prog Tryz.f96 = some (A_wire_Reader_group, R_wire_Reader_group) := by kernel_rfl
theorem K_wire_Reader_group {md : Bool} {args : List AV} {h : Hp} {Q : Res → Hp → Prop} (hl : LCode Tryz.prog md A_wire_Reader_group (EndQ R_wire_Reader_group Q) (env0 55 args) h) (hn : args.length ≤ 55 := by (simp; done)) : CallL Tryz.prog F_wire_Reader_group args h Q :=
 CallL.of (md := md) Tryz.func96 C_wire_Reader_group (by rw [Tryz.ntmps96]; exact hn) (by rw [Tryz.ntmps96]; exact hl)
abbrev F_wire_Reader_content : Nat := 48
def A_wire_Reader_content_0 : LA := [o_ 10 (.bini .eql (.t 8) (.c (.int .u8 0))), mv 9 10]
def A_wire_Reader_content_1 : LA := [mv 11 0, o_ 12 (.call 46 [(.t 11)])]
def A_wire_Reader_content_2 : LA := [o_ 14 (.bini .eql (.t 8) (.c (.int .u8 1))), mv 13 14]
def A_wire_Reader_content_3 : LA := [mv 15 0, o_ 16 (.call 94 [(.t 15)])]
def A_wire_Reader_content_4 : LA := [o_ 18 (.bini .eql (.t 8) (.c (.int .u8 2))), mv 17 18]
def A_wire_Reader_content_5 : LA := [mv 19 0, o_ 20 (.call 95 [(.t 19)])]
def A_wire_Reader_content_6 : LA := [o_ 22 (.bini .eql (.t 8) (.c (.int .u8 3))), mv 21 22]
def A_wire_Reader_content_7 : LA := [mv 23 0, mv 24 1, mv 25 3, o_ 26 (.call 96 [(.t 23), (.t 24), (.t 25)])]
def A_wire_Reader_content_8 : LA := [o_ 28 (.bini .eql (.t 8) (.c (.int .u8 5))), mv 27 28]
def A_wire_Reader_content_9 : LA := [mv 29 0, o_ 30 (.call 97 [(.t 29)])]
def A_wire_Reader_content : ACode := (.seq (.ops [mv 8 2]) (.block 0 (.seq (.ops A_wire_Reader_content_0) (.cond (.t 9) (.ops A_wire_Reader_content_1) (.seq (.ops A_wire_Reader_content_2) (.cond (.t 13) (.ops A_wire_Reader_content_3) (.seq (.ops A_wire_Reader_content_4) (.cond (.t 17) (.ops A_wire_Reader_content_5) (.seq (.ops A_wire_Reader_content_6) (.cond (.t 21) (.ops A_wire_Reader_content_7) (.seq (.ops A_wire_Reader_content_8) (.cond (.t 27) (.ops A_wire_Reader_content_9) .skip))))))))))))
def R_wire_Reader_content : List ARes := []
theorem C_wire_Reader_content : compF Tryz.prog Tryz.f48 = some (A_wire_Reader_content, R_wire_Reader_content) := by kernel_rfl
theorem K_wire_Reader_content {md : Bool} {args : List AV} {h : Hp} {Q : Res → Hp → Prop} (hl : LCode Tryz.prog md A_wire_Reader_content (EndQ R_wire_Reader_content Q) (env0 31 args) h) (hn : args.length ≤ 31 := by (simp; done)) : CallL Tryz.prog F_wire_Reader_content args h Q :=
 CallL.of (md := md) Tryz.func48 C_wire_Reader_content (by rw [Tryz.ntmps48]; exact hn) (by rw [Tryz.ntmps48]; exact hl)
abbrev F_wire_Reader_Skip : Nat := 25
def A_wire_Reader_Skip_0 : LA := [mv 10 0, Wc 11 10, Wf 12 1 11, Wl 13 12, mv 9 13]
def A_wire_Reader_Skip_1 : LA := [mv 15 1, o_ 16 (.bini .lss (.t 15) (.c (.int .i32 1))), mv 17 16, Whm 18 1 17, Wh 19 (.bini .gtr (.t 18) (.c (.int .i32 536870911))) 17, Wq 20 17 19, mv 21 20, Whm 22 2 21, Wh 23 (.bini .gtr (.t 22) (.c (.int .u8 5))) 21, Wq 24 21 23, mv 14 24]
def A_wire_Reader_Skip_2 : LA := [mv 25 0, mv 26 0, Wc 27 26, Wf 28 1 27, Wl 29 28, o_ 30 (.call 47 [(.t 25), (i_ 1), (.t 29)])]
def A_wire_Reader_Skip_3 : LA := [mv 32 2, o_ 33 (.bini .eql (.t 32) (.c (.int .u8 4))), mv 31 33]
def A_wire_Reader_Skip_4 : LA := [mv 34 0, mv 35 0, Wc 36 35, Wf 37 1 36, Wl 38 37, o_ 39 (.call 47 [(.t 34), (i_ 13), (.t 38)])]
def A_wire_Reader_Skip_5 : LA := [mv 40 0, Wc 41 40, Wf 42 3 41, Wl 43 42, Wi 44 .eql 43 0]
def A_wire_Reader_Skip_6 : LA := [mv 45 0, mv 46 1, mv 47 2, mv 48 3, o_ 49 (.call 48 [(.t 45), (.t 46), (.t 47), (.t 48)])]
def A_wire_Reader_Skip_7 : LA := [mv 50 0, Wc 51 50, Wf 52 3 51, Wl 53 52, Wi 54 .neq 53 0]
def A_wire_Reader_Skip_8 : LA := [mv 55 0, mv 56 9, Wc 57 55, Wf 58 1 57, Ws 1 58 56]
def A_wire_Reader_Skip_9 : LA := [mv 59 0, Wc 60 59, Wf 61 0 60, Wl 62 61, mv 63 9, mv 64 0, Wc 65 64, Wf 66 1 65, Wl 67 66, o_ 68 (.slcl 5 1 (.t 62) (some (.t 63)) (some (.t 67)) none), o_ 69 (.call 45 [(.t 68)]), mv 8 69]
def A_wire_Reader_Skip : ACode := (.seq (.ops [Wn 8]) (.seq (.ops A_wire_Reader_Skip_0) (.seq (.block 0 (.seq (.ops A_wire_Reader_Skip_1) (.cond (.t 14) (.ops A_wire_Reader_Skip_2) (.seq (.ops A_wire_Reader_Skip_3) (.cond (.t 31) (.ops A_wire_Reader_Skip_4) .skip))))) (.seq (.seq (.ops A_wire_Reader_Skip_5) (.cond (.t 44) (.ops A_wire_Reader_Skip_6) .skip)) (.seq (.seq (.ops A_wire_Reader_Skip_7) (.cond (.t 54) (.seq (.ops A_wire_Reader_Skip_8) (.seq (.ops [Wn 8]) .ret)) .skip)) (.seq (.alts [59, 60, 61, 62, 63, 64, 65, 66, 67, 68, 69, 8] [A_wire_Reader_Skip_9]) .ret))))))
def R_wire_Reader_Skip : List ARes := [.tmp 8]
theorem C_wire_Reader_Skip : compF Tryz.prog Tryz.f25 = some (A_wire_Reader_Skip, R_wire_Reader_Skip) := by kernel_rfl
theorem K_wire_Reader_Skip {md : Bool} {args : List AV} {h : Hp} {Q : Res → Hp → Prop} (hl : LCode Tryz.prog md A_wire_Reader_Skip (EndQ R_wire_Reader_Skip Q) (env0 70 args) h) (hn : args.length ≤ 70 := by (simp; done)) : CallL Tryz.prog F_wire_Reader_Skip args h Q :=
 CallL.of (md := md) Tryz.func25 C_wire_Reader_Skip (by rw [Tryz.ntmps25]; exact hn) (by rw [Tryz.ntmps25]; exact hl)
abbrev F_wire_Check : Nat := 9
def A_wire_Check_0 : LA := [Wm 4 0, Wm 5 0]
def A_wire_Check_1 : LA := [mv 12 0, o_ 13 (.call 20 [(.t 12)]), mv 6 13]
def A_wire_Check_2 : LA := [mv 14 6, o_ 15 (.call 21 [(.t 14)]), Wi 16 .gtr 15 0]
def A_wire_Check_3 : LA := [mv 17 6, o_ 18 (.call 22 [(.t 17)]), mv 7 18]
def A_wire_Check_4 : LA := [mv 20 6, o_ 21 (.call 23 [(.t 20)]), mv 19 21, Wx 22 0 19, Wx 23 1 19, mv 8 22, mv 9 23]
def A_wire_Check_5 : LA := [mv 25 6, o_ 26 (.call 24 [(.t 25)]), mv 24 26, Wx 27 0 24, Wx 28 1 24, mv 10 27, mv 11 28]
def A_wire_Check_6 : LA := [mv 29 10, Wi 30 .eql 29 0, mv 31 30, Wgm 32 9 31, g_ 33 (.bini .eql (.t 32) (.c (.int .u8 4))) 31, Wp 34 31 33]
def A_wire_Check_7 : LA := [mv 35 7, Wm 4 13, mv 5 35]
def A_wire_Check_8 : LA := [mv 36 6, mv 37 8, mv 38 9, mv 39 1, o_ 40 (.call 25 [(.t 36), (.t 37), (.t 38), (.t 39)])]
def A_wire_Check_9 : ACode := (.seq (.seq (.ops A_wire_Check_2) (.cond (.t 16) .skip (.exit 0))) (.block 1 (.seq (.ops A_wire_Check_3) (.seq (.ops A_wire_Check_4) (.seq (.seq (.ops A_wire_Check_5) (.seq (.ops A_wire_Check_6) (.cond (.t 34) (.seq (.ops A_wire_Check_7) .ret) .skip))) (.ops A_wire_Check_8))))))
def A_wire_Check_10 : LA := [mv 41 6, o_ 42 (.call 24 [(.t 41)]), Wx 43 0 42, Wx 44 1 42, mv 4 43, mv 5 44]
def A_wire_Check : ACode := (.seq (.ops A_wire_Check_0) (.seq (.ops A_wire_Check_1) (.seq (.block 0 (.loop A_wire_Check_9)) (.seq (.ops A_wire_Check_10) .ret))))
def R_wire_Check : List ARes := [.tmp 4, .tmp 5]
theorem C_wire_Check : compF Tryz.prog Tryz.f9 = some (A_wire_Check, R_wire_Check) := by kernel_rfl
theorem K_wire_Check {md : Bool} {args : List AV} {h : Hp} {Q : Res → Hp → Prop} (hl : LCode Tryz.prog md A_wire_Check (EndQ R_wire_Check Q) (env0 45 args) h) (hn : args.length ≤ 45 := by (simp; done)) : CallL Tryz.prog F_wire_Check args h Q :=
 CallL.of (md := md) Tryz.func9 C_wire_Check (by rw [Tryz.ntmps9]; exact hn) (by rw [Tryz.ntmps9]; exact hl)
end Go.Proofs.YtgjjbfhamlecoabGreatDoor

namespace Go.Proofs.YtgjjbfhamlecoabGreatDoor
open Go.L
structure RdOK (R : Nat) (cv : AV) (b : Str) (at_ en : Nat) (w : Int) (h : Hp) : Prop where
 row : h R = some (.row TR [RdC cv at_ en 0 w])
 own : OwnX Tb h cv (bt b)
 ne : blkOf cv ≠ some R
 le : at_ ≤ en
 len : en ≤ b.length
 big : b.length ≤ 1000000000000
theorem OwnX.setne {T : TypeId} {h : Hp} {u : AV} {d : List (List AV)} (o : OwnX T h u d) {R : Nat} (hn : blkOf u ≠ some R) (x : Blk) : OwnX T (h.set R x) u d := by
 rcases o with ⟨rfl, rfl⟩ | ⟨b, row, q, rfl, h1, h2⟩
 ·exact .inl ⟨rfl, rfl⟩
 ·exact .inr ⟨b, row, q, rfl, (Hp.set_ne fun e => hn (by rw [← e]; rfl)).trans h1, h2⟩
theorem RdOK.put {R : Nat} {cv : AV} {b : Str} {at_ en : Nat} {w : Int} {h : Hp} (k : RdOK R cv b at_ en w h) {a : Nat} (w' : Int) (ha : a ≤ en) : RdOK R cv b a en w' (h.set R (.row TR [RdC cv a en 0 w'])) :=
 ⟨Hp.set_same _ _ _, OwnX.setne k.own k.ne _, k.ne, ha, k.len, k.big⟩
theorem RdOK.gr {R : Nat} {cv : AV} {b : Str} {at_ en : Nat} {w : Int} {h h' : Hp} (k : RdOK R cv b at_ en w h) (g : Gr h h') : RdOK R cv b at_ en w h' :=
 ⟨g.blk k.row, k.own.gr g, k.ne, k.le, k.len, k.big⟩
def rest (b : Str) (at_ en : Nat) : Str := (b.take en).drop at_
theorem rest_len {b : Str} {at_ en : Nat} (h : en ≤ b.length) : (rest b at_ en).length = en - at_ := by
 rw [rest, List.length_drop, List.length_take]; omega
theorem rest_drop (b : Str) (at_ en n : Nat) : (rest b at_ en).drop n = rest b (at_ + n) en := List.drop_drop ..
theorem RdOK.varint {R : Nat} {cv : AV} {b : Str} {at_ en : Nat} {w : Int} {h : Hp} (k : RdOK R cv b at_ en w h) : CallL Tryz.prog F_wire_Reader_Varint [.ptr R 0 0] h (VarQ R cv at_ en w (rest b at_ en) h) :=
 rVarint_L R cv at_ en w b h k.row k.own k.ne k.le k.len k.big
def RdQ {α : Type} (R : Nat) (cv : AV) (at_ en : Nat) (w : Int) (h : Hp) (f : α → AV) (z : AV) (x : WR α) (r : Res) (h' : Hp) : Prop := match x with
 | .ok v n => r = .ret (f v) ∧ h' = h.set R (.row TR [RdC cv (at_ + n : Nat) en 0 w])
 | .bad e p => r = .ret z ∧ ∃ a : Nat, h' = h.set R (.row TR [RdC cv a en e (at_ + p : Nat)])
theorem RdQ.good {α : Type} {R : Nat} {cv : AV} {at_ en : Nat} {w : Int} {h : Hp} {f : α → AV} {z : AV} {x : WR α} {v : α} {n : Nat} (e : x = .ok v n) {r : Res} {h' : Hp} (hr : r = .ret (f v)) (hh : h' = h.set R (.row TR [RdC cv (at_ + n : Nat) en 0 w])) : RdQ R cv at_ en w h f z x r h' := by
 subst e; exact ⟨hr, hh⟩
theorem RdQ.wrong {α : Type} {R : Nat} {cv : AV} {at_ en : Nat} {w : Int} {h : Hp} {f : α → AV} {z : AV} {x : WR α} {e p : Nat} (hx : x = .bad e p) {h' : Hp} (a : Nat) (hh : h' = h.set R (.row TR [RdC cv a en e (at_ + p : Nat)])) : RdQ R cv at_ en w h f z x (.ret z) h' := by
 subst hx; exact ⟨rfl, a, hh⟩
def SpanQ (R : Nat) (cv : AV) (at_ en : Nat) (w : Int) (h : Hp) (x : WR Nat) (r : Res) (h' : Hp) : Prop := match x with
 | .ok v n => r = .ret (.tup [.int .i64 (at_ + v : Nat), .int .i64 (at_ + n : Nat), .bool true]) ∧ h' = h.set R (.row TR [RdC cv (at_ + n : Nat) en 0 w])
 | .bad e p => r = .ret (.tup [.int .i64 0, .int .i64 0, .bool false]) ∧ ∃ a : Nat, h' = h.set R (.row TR [RdC cv a en e (at_ + p : Nat)])
theorem SpanQ.good {R : Nat} {cv : AV} {at_ en : Nat} {w : Int} {h : Hp} {x : WR Nat} {v n : Nat} (e : x = .ok v n) {r : Res} {h' : Hp} (hr : r = .ret (.tup [.int .i64 (at_ + v : Nat), .int .i64 (at_ + n : Nat), .bool true])) (hh : h' = h.set R (.row TR [RdC cv (at_ + n : Nat) en 0 w])) : SpanQ R cv at_ en w h x r h' := by
 subst e; exact ⟨hr, hh⟩
theorem SpanQ.wrong {R : Nat} {cv : AV} {at_ en : Nat} {w : Int} {h : Hp} {x : WR Nat} {e p : Nat} (hx : x = .bad e p) {h' : Hp} (a : Nat) (hh : h' = h.set R (.row TR [RdC cv a en e (at_ + p : Nat)])) : SpanQ R cv at_ en w h x (.ret (.tup [.int .i64 0, .int .i64 0, .bool false])) h' := by
 subst hx; exact ⟨rfl, a, hh⟩
theorem Left_L (R : Nat) (cv : AV) (at_ en : Nat) (w : Int) (h : Hp) (hR : h R = some (.row TR [RdC cv at_ en 0 w])) (h1 : at_ ≤ en) (h2 : en ≤ 1000000000000) :
  CallL Tryz.prog F_wire_Reader_Left [.ptr R 0 0] h fun r h' => r = .ret (.int .i64 (en - at_ : Nat)) ∧ h' = h := by
 refine K_wire_Reader_Left (md := false) ?_
 refine ⟨_, _, _, _, hR, rfl, rfl, ?_⟩
 refine s_ne (fun h3 => absurd rfl h3) (fun _ => ?_)
 refine ⟨_, _, _, _, hR, rfl, rfl, ?_⟩
 refine ⟨_, _, _, _, hR, rfl, rfl, ?_⟩
 refine s_nat (en - at_) (by omega) (by omega) ?_
 exact ⟨rfl, rfl, rfl⟩
theorem LeftE_L (R : Nat) (cv : AV) (at_ en e w : Int) (h : Hp) (hR : h R = some (.row TR [RdC cv at_ en e w])) (he : e ≠ 0) :
  CallL Tryz.prog F_wire_Reader_Left [.ptr R 0 0] h fun r h' => r = .ret (.int .i64 0) ∧ h' = h := by
 refine K_wire_Reader_Left (md := false) ?_
 refine ⟨_, _, _, _, hR, rfl, rfl, ?_⟩
 refine s_ne (fun _ => ?_) (fun h3 => absurd h3 he)
 exact ⟨rfl, rfl, rfl⟩
theorem and7 (v : Nat) (hv : v < 18446744073709551616) : ibits .and .u64 (v : Int) 7 = ((v % 8 : Nat) : Int) := by
 have e : BitVec.ofInt IntKind.u64.bits ((v : Nat) : Int) = BitVec.ofNat 64 v := BitVec.ofInt_natCast 64 _
 have e2 : BitVec.ofInt IntKind.u64.bits 7 = 7#64 := rfl
 rw [ibits, e, e2]
 show IntKind.u64.wrap ((BitVec.ofNat 64 v &&& 7#64).toNat : Int) = _
 have h1 : (BitVec.ofNat 64 v &&& 7#64).toNat = v % 8 := by
  rw [BitVec.toNat_and, BitVec.toNat_ofNat, Nat.mod_eq_of_lt (by omega)]
  exact Nat.and_two_pow_sub_one_eq_mod v 3
 rw [h1, u64_nat (by omega)]
theorem i32_nat {v : Nat} (h : v < 2147483648) : IntKind.i32.wrap (v : Int) = (v : Int) := by rw [IntKind.wrap_i32]; omega
theorem Tag_L {R : Nat} {cv : AV} {b : Str} {at_ en : Nat} {w : Int} {h : Hp} (k : RdOK R cv b at_ en w h) :
  CallL Tryz.prog F_wire_Reader_Tag [.ptr R 0 0] h (RdQ R cv at_ en w h (fun x : Nat × Nat => .tup [.int .i32 x.1, .int .u8 x.2]) (.tup [.int .i32 0, .int .u8 0]) (tagR (rest b at_ en))) := by
 refine K_wire_Reader_Tag (md := false) ?_
 refine ⟨_, _, _, _, k.row, rfl, rfl, ?_⟩
 refine k.varint.mono ?_
 rintro r h' hq
 unfold VarQ at hq
 rcases hx : rdV (rest b at_ en) with ⟨v, n⟩ | _ | _
 ·rw [hx] at hq
  obtain ⟨rfl, rfl⟩ := hq
  have hv := (rdV_lt hx).2.2
  have hs := Hp.set_same h R (.row TR [RdC cv (at_ + n : Nat) en 0 w])
  have hbad : (4294967295 < v ∨ v / 8 = 0 ∨ 5 < v % 8) → tagR (rest b at_ en) = .bad 12 0 := fun hc => by rw [tagR, hx]; exact if_pos hc
  have hgood : ¬ (4294967295 < v ∨ v / 8 = 0 ∨ 5 < v % 8) → tagR (rest b at_ en) = .ok (v / 8, v % 8) n := fun hc => by rw [tagR, hx]; exact if_neg hc
  refine ⟨_, _, _, _, hs, rfl, rfl, ?_⟩
  refine s_ne (fun h3 => absurd rfl h3) (fun _ => ?_)
  refine s_ie (and7 v hv) ?_
  refine s_ie ((u8_nat (v % 8)).trans (by rw [Nat.mod_eq_of_lt (show v % 8 < 256 by omega)])) ?_
  refine s_lt (fun (h4 : (4294967295 : Int) < (v : Nat)) => ?_) (fun (h4 : ((v : Nat) : Int) ≤ 4294967295) => ?_)
  ·refine ⟨_, _, _, hs, rfl, rfl, rfl, rfl, by show 2 ≤ 5; decide, ?_⟩
   refine (rwrong_L R cv at_ en w 12 at_ _ (Hp.set_same _ _ _)).mono ?_
   rintro r h' ⟨rfl, rfl⟩
   exact ⟨rfl, RdQ.wrong (hbad (by omega)) at_ ((Hp.set_set _ _ _ _).trans (Hp.set_set _ _ _ _))⟩
  ·refine ⟨by decide, s_ie (shrN (k := 3) rfl (by decide)) ?_⟩
   refine s_eq (fun (h5 : ((v / 2 ^ 3 : Nat) : Int) = 0) => ?_) (fun (h5 : ((v / 2 ^ 3 : Nat) : Int) ≠ 0) => ?_)
   ·refine ⟨_, _, _, hs, rfl, rfl, rfl, rfl, by show 2 ≤ 5; decide, ?_⟩
    refine (rwrong_L R cv at_ en w 12 at_ _ (Hp.set_same _ _ _)).mono ?_
    rintro r h' ⟨rfl, rfl⟩
    exact ⟨rfl, RdQ.wrong (hbad (by omega)) at_ ((Hp.set_set _ _ _ _).trans (Hp.set_set _ _ _ _))⟩
   ·refine s_lt (fun (h6 : (5 : Int) < (v % 8 : Nat)) => ?_) (fun (h6 : ((v % 8 : Nat) : Int) ≤ 5) => ?_)
    ·refine ⟨_, _, _, hs, rfl, rfl, rfl, rfl, by show 2 ≤ 5; decide, ?_⟩
     refine (rwrong_L R cv at_ en w 12 at_ _ (Hp.set_same _ _ _)).mono ?_
     rintro r h' ⟨rfl, rfl⟩
     exact ⟨rfl, RdQ.wrong (hbad (by omega)) at_ ((Hp.set_set _ _ _ _).trans (Hp.set_set _ _ _ _))⟩
    ·refine ⟨by decide, s_ie (shrN (k := 3) rfl (by decide)) ?_⟩
     refine s_ie (i32_nat (v := v / 2 ^ 3) (by omega)) ?_
     exact ⟨rfl, RdQ.good (hgood (by omega)) rfl rfl⟩
 ·rw [hx] at hq
  obtain ⟨rfl, rfl⟩ := hq
  have hs := Hp.set_same h R (.row TR [RdC cv at_ en 10 at_])
  refine ⟨_, _, _, _, hs, rfl, rfl, ?_⟩
  refine s_ne (fun _ => ?_) (fun h3 => absurd h3 (by decide))
  exact ⟨rfl, RdQ.wrong (p := 0) (show tagR _ = .bad 10 0 by rw [tagR, hx]) at_ rfl⟩
 ·rw [hx] at hq
  obtain ⟨rfl, rfl⟩ := hq
  have hs := Hp.set_same h R (.row TR [RdC cv at_ en 11 at_])
  refine ⟨_, _, _, _, hs, rfl, rfl, ?_⟩
  refine s_ne (fun _ => ?_) (fun h3 => absurd h3 (by decide))
  exact ⟨rfl, RdQ.wrong (p := 0) (show tagR _ = .bad 11 0 by rw [tagR, hx]) at_ rfl⟩
theorem span_L {R : Nat} {cv : AV} {b : Str} {at_ en : Nat} {w : Int} {h : Hp} (k : RdOK R cv b at_ en w h) :
  CallL Tryz.prog F_wire_Reader_span [.ptr R 0 0] h (SpanQ R cv at_ en w h (spanR (rest b at_ en))) := by
 have hrl := rest_len (at_ := at_) k.len
 have hle := k.le
 have hlen := k.len
 have hbig := k.big
 refine K_wire_Reader_span (md := false) ?_
 refine ⟨_, _, _, _, k.row, rfl, rfl, ?_⟩
 refine k.varint.mono ?_
 rintro r h' hq
 unfold VarQ at hq
 rcases hx : rdV (rest b at_ en) with ⟨v, n⟩ | _ | _
 ·rw [hx] at hq
  obtain ⟨rfl, rfl⟩ := hq
  have hv := rdV_lt hx
  have e1 : at_ + n + v = at_ + (n + v) := Nat.add_assoc _ _ _
  have hbad : (rest b at_ en).length - n < v → spanR (rest b at_ en) = .bad 10 0 := fun hc => by rw [spanR, hx]; exact if_pos hc
  have hgood : ¬ (rest b at_ en).length - n < v → spanR (rest b at_ en) = .ok n (n + v) := fun hc => by rw [spanR, hx]; exact if_neg hc
  have hs := Hp.set_same h R (.row TR [RdC cv (at_ + n : Nat) en 0 w])
  refine ⟨_, _, _, _, hs, rfl, rfl, ?_⟩
  refine s_eq (fun _ => ?_) (fun h3 => absurd rfl h3)
  refine ⟨_, _, _, _, hs, rfl, rfl, ?_⟩
  refine ⟨_, _, _, _, hs, rfl, rfl, ?_⟩
  refine s_nat (en - (at_ + n)) (by omega) (by omega) ?_
  refine s_ie (u64_nat (v := en - (at_ + n)) (by omega)) ?_
  refine s_lt (fun (h4 : ((en - (at_ + n) : Nat) : Int) < (v : Nat)) => ?_) (fun (h4 : ((v : Nat) : Int) ≤ (en - (at_ + n) : Nat)) => ?_)
  ·refine ⟨_, _, _, hs, rfl, rfl, rfl, rfl, by show 2 ≤ 5; decide, ?_⟩
   refine (rwrong_L R cv at_ en w 10 at_ _ (Hp.set_same _ _ _)).mono ?_
   rintro r h' ⟨rfl, rfl⟩
   refine ⟨_, _, _, _, Hp.set_same _ _ _, rfl, rfl, ?_⟩
   refine s_ne (fun _ => ?_) (fun h3 => absurd h3 (by decide))
   exact ⟨rfl, SpanQ.wrong (hbad (by omega)) at_ ((Hp.set_set _ _ _ _).trans (Hp.set_set _ _ _ _))⟩
  ·refine ⟨_, _, _, _, hs, rfl, rfl, ?_⟩
   refine s_ne (fun h3 => absurd rfl h3) (fun _ => ?_)
   refine ⟨_, _, _, _, hs, rfl, rfl, ?_⟩
   refine ⟨_, _, _, _, hs, rfl, rfl, ?_⟩
   refine s_nat v rfl (by omega) ?_
   refine s_nat (at_ + n + v) (by omega) (by omega) ?_
   refine ⟨_, _, _, hs, rfl, rfl, rfl, rfl, by show 2 ≤ 5; decide, ?_⟩
   refine ⟨_, _, _, _, Hp.set_same _ _ _, rfl, rfl, ?_⟩
   exact ⟨rfl, SpanQ.good (hgood (by omega)) (congrArg (fun z : Nat => Res.ret (.tup [.int .i64 (at_ + n : Nat), .int .i64 z, .bool true])) e1) ((Hp.set_set _ _ _ _).trans (congrArg (fun z : Nat => h.set R (.row TR [RdC cv z en 0 w])) e1))⟩
 ·rw [hx] at hq
  obtain ⟨rfl, rfl⟩ := hq
  have hs := Hp.set_same h R (.row TR [RdC cv at_ en 10 at_])
  refine ⟨_, _, _, _, hs, rfl, rfl, ?_⟩
  refine s_eq (fun h3 => absurd h3 (by decide)) (fun _ => ?_)
  refine ⟨_, _, _, _, hs, rfl, rfl, ?_⟩
  refine s_ne (fun _ => ?_) (fun h3 => absurd h3 (by decide))
  exact ⟨rfl, SpanQ.wrong (p := 0) (show spanR _ = .bad 10 0 by rw [spanR, hx]) at_ rfl⟩
 ·rw [hx] at hq
  obtain ⟨rfl, rfl⟩ := hq
  have hs := Hp.set_same h R (.row TR [RdC cv at_ en 11 at_])
  refine ⟨_, _, _, _, hs, rfl, rfl, ?_⟩
  refine s_eq (fun h3 => absurd h3 (by decide)) (fun _ => ?_)
  refine ⟨_, _, _, _, hs, rfl, rfl, ?_⟩
  refine s_ne (fun _ => ?_) (fun h3 => absurd h3 (by decide))
  exact ⟨rfl, SpanQ.wrong (p := 0) (show spanR _ = .bad 11 0 by rw [spanR, hx]) at_ rfl⟩
end Go.Proofs.YtgjjbfhamlecoabGreatDoor

namespace Go.Proofs.YtgjjbfhamlecoabGreatDoor
open Go.L
theorem leN_lt : ∀ s : Str, leN s < 256 ^ s.length
 | [] => by decide
 | c :: s => by
  have := leN_lt s
  have := c.toNat_lt
  rw [leN, List.length_cons, Nat.pow_succ']
  omega
theorem width32_L (h : Hp) : CallL Tryz.prog F_width32 [] h fun r h' => r = .ret (.int .i64 4) ∧ h' = h := by
 refine K_width32 (md := false) ?_
 refine s_ie (d := 0) ?H ?_
 case H => decide
 refine ⟨by decide, s_ie (d := 1) (by decide) ?_⟩
 refine s_eq (fun _ => ?_) (fun h1 => absurd rfl h1)
 exact ⟨rfl, rfl, rfl⟩
theorem u32_nat' {v : Nat} (h : v < 4294967296) : IntKind.u32.wrap (v : Int) = (v : Int) := by rw [IntKind.wrap_u32]; omega
theorem or_add_u32 {a y : Nat} (ha : a < 4294967040 / 256 + 1) (hy : y < 256) : ibits .or .u32 ((a * 256 : Nat) : Int) (y : Int) = ((y + 256 * a : Nat) : Int) := by
 have e : ∀ n : Nat, BitVec.ofInt IntKind.u32.bits (n : Int) = BitVec.ofNat 32 n := fun n => BitVec.ofInt_natCast 32 n
 rw [ibits, e, e]
 show IntKind.u32.wrap ((BitVec.ofNat 32 (a * 256) ||| BitVec.ofNat 32 y).toNat : Int) = _
 have h1 : (BitVec.ofNat 32 (a * 256) ||| BitVec.ofNat 32 y).toNat = y + 256 * a := by
  rw [BitVec.toNat_or, BitVec.toNat_ofNat, BitVec.toNat_ofNat, Nat.mod_eq_of_lt (by omega), Nat.mod_eq_of_lt (by omega), Nat.mul_comm, show (256 : Nat) = 2 ^ 8 from rfl, ← Nat.two_pow_add_eq_or_of_lt (show y < 2 ^ 8 from hy)]
  omega
 rw [h1, u32_nat' (by omega)]
theorem shl8_u32 {a : Nat} (h : a * 256 < 4294967296) : IntKind.u32.wrap ((a : Int) * 2 ^ (min (8 : Int).toNat IntKind.u32.bits)) = ((a * 256 : Nat) : Int) := by
 rw [show min (8 : Int).toNat IntKind.u32.bits = 8 from rfl]
 have e : (a : Int) * 2 ^ 8 = ((a * 256 : Nat) : Int) := by simp
 rw [e, u32_nat' h]
theorem taken32_L {i k n : Nat} {c : Option Nat} {es : List (List AV)} {h : Hp} {s : Str} (hi : h i = some (.row Tb es)) (hs : ∀ (j : Nat) (x : UInt8), s[j]? = some x → es[k + j]? = some [.int .u8 (x.toNat : Int)]) (hl : s.length = 4) (hn : 4 ≤ n) :
  CallL Tryz.prog F_taken32 [.slc i k n c] h fun r h' => r = .ret (.int .u32 (leN s)) ∧ h' = h := by
 refine K_taken32 (md := false) ?_
 refine (width32_L h).mono ?_
 rintro r h' ⟨rfl, rfl⟩
 refine s_nat 3 rfl (by decide) ?_
 refine s_blk (id := 0) (fun e' h'' => h'' = h' ∧ e'.ds = [] ∧ Has e' [(3, .int .u32 (leN s))]) ?_ ?_
 ·refine s_loop 4 (fun q (v : Nat) => q ≤ 4 ∧ v = leN (s.drop (4 - q))) (fun q v => [(0, .slc i k n c), (3, .int .u32 v), (4, .int .i64 (3 - q : Int))]) (fun _ _ => h') 0 ⟨Nat.zero_le _, by rw [List.drop_of_length_le (by omega)]; rfl⟩ rfl rfl ⟨rfl, rfl, rfl, trivial⟩ (fun q v hI => hI.1) ?_
  rintro q v n0 g0 hq ⟨_, hv⟩
  refine s_le (fun (h3 : (0 : Int) ≤ 3 - q) => ?_) (fun (h3 : (3 - q : Int) < 0) => ?_)
  ·obtain ⟨x, hx⟩ := get_lt (l := s) (k := 3 - q) (by omega)
   have hxl := x.toNat_lt
   have hvl : v < 256 ^ q := by
    rw [hv]
    have := leN_lt (s.drop (4 - q))
    rwa [List.length_drop, hl, show 4 - (4 - q) = q by omega] at this
   have hvl2 : v < 256 ^ 3 := Nat.lt_of_lt_of_le hvl (Nat.pow_le_pow_right (by decide) (by omega))
   refine ⟨by decide, s_ie (shl8_u32 (by omega)) ?_⟩
   refine ⟨3 - q, (by omega : (3 - q : Int) = ((3 - q : Nat) : Int)), by omega, ⟨_, hi⟩, ?_⟩
   refine ⟨_, _, _, _, hi, hs _ _ hx, rfl, ?_⟩
   refine s_ie (u32_nat' (v := x.toNat) (by omega)) ?_
   refine s_ie (or_add_u32 (by omega) (by omega)) ?_
   refine s_64 (by omega) (by omega) ?_
   refine ⟨x.toNat + 256 * v, by omega, ⟨by omega, ?_⟩, rfl, rfl, rfl, rfl, ?_, trivial⟩
   ·rw [show 4 - (q + 1) = 3 - q by omega, drop_cons hx, leN, hv, show 3 - q + 1 = 4 - q by omega]
   ·exact congrArg (AV.int .i64) (by omega)
  ·obtain rfl : q = 4 := by omega
   exact ⟨rfl, rfl, by rw [hv]; rfl, trivial⟩
 ·rintro e' h'' ⟨rfl, hd, hh⟩
  obtain ⟨n0, g0, rfl⟩ := hh.out hd
  exact ⟨rfl, rfl, rfl⟩
theorem get32_L {R : Nat} {cv : AV} {b : Str} {at_ en : Nat} {w : Int} {h : Hp} (k : RdOK R cv b at_ en w h) :
  CallL Tryz.prog F_get32 [.ptr R 0 0] h (RdQ R cv at_ en w h (fun x : Nat => .int .u32 x) (.int .u32 0) (fixR 4 (rest b at_ en))) := by
 have hrl := rest_len (at_ := at_) k.len
 have hle := k.le
 have hlen := k.len
 have hbig := k.big
 refine K_get32 (md := false) ?_
 refine (width32_L h).mono ?_
 rintro r h' ⟨rfl, rfl⟩
 refine ⟨_, _, _, _, k.row, rfl, rfl, ?_⟩
 refine s_eq (fun _ => ?_) (fun h3 => absurd rfl h3)
 refine ⟨_, _, _, _, k.row, rfl, rfl, ?_⟩
 refine ⟨_, _, _, _, k.row, rfl, rfl, ?_⟩
 refine s_nat (en - at_) (by omega) (by omega) ?_
 refine s_lt (fun (h4 : ((en - at_ : Nat) : Int) < 4) => ?_) (fun (h4 : (4 : Int) ≤ (en - at_ : Nat)) => ?_)
 ·refine ⟨_, _, _, _, k.row, rfl, rfl, ?_⟩
  refine (rwrong_L R cv at_ en w 10 at_ _ k.row).mono ?_
  rintro r h' ⟨rfl, rfl⟩
  refine ⟨_, _, _, _, Hp.set_same _ _ _, rfl, rfl, ?_⟩
  refine s_ne (fun _ => ?_) (fun h3 => absurd h3 (by decide))
  exact ⟨rfl, RdQ.wrong (p := 0) (show fixR 4 _ = .bad 10 0 from if_pos (by omega)) at_ rfl⟩
 ·refine ⟨_, _, _, _, k.row, rfl, rfl, ?_⟩
  refine s_ne (fun h3 => absurd rfl h3) (fun _ => ?_)
  refine ⟨_, _, _, _, k.row, rfl, rfl, ?_⟩
  refine ⟨_, _, _, _, k.row, rfl, rfl, ?_⟩
  have hbl := bt_len b
  rcases k.own with ⟨rfl, h0⟩ | ⟨B, row, q, rfl, hB, hrow, hrl2, hq⟩
  ·have hb0 : b.length = 0 := by have := congrArg List.length h0; rwa [bt_len] at this
   omega
  have hc : (bt b).length ≤ q.getD (bt b).length := by
   rcases hq with rfl | rfl
   ·exact Nat.le_refl _
   ·exact hrl2
  have e : (rest b at_ en).take 4 = (b.drop at_).take 4 := by
   rw [rest, List.drop_take, List.take_take, Nat.min_eq_left (by omega)]
  have hgood : fixR 4 (rest b at_ en) = .ok (leN ((b.drop at_).take 4)) 4 := by rw [← e]; exact if_neg (by omega)
  refine ⟨⟨_, hB⟩, at_, rfl, by omega, hc, ?_⟩
  refine (taken32_L (s := (b.drop at_).take 4) hB (fun j x hx => ?_) (by rw [List.length_take, List.length_drop]; omega) (by omega)).mono ?_
  ·have hj : j < 4 := by have := (List.getElem?_eq_some_iff.1 hx).1; rw [List.length_take] at this; omega
   rw [List.getElem?_take_of_lt hj, List.getElem?_drop] at hx
   have hjl := (List.getElem?_eq_some_iff.1 hx).1
   have := bt_get hx
   rw [← hrow, List.getElem?_take_of_lt (by omega)] at this
   rw [Nat.zero_add]; exact this
  rintro r h' ⟨rfl, rfl⟩
  refine ⟨_, _, _, _, k.row, rfl, rfl, ?_⟩
  refine s_nat (at_ + 4) (by omega) (by omega) ?_
  refine ⟨_, _, _, k.row, rfl, rfl, rfl, rfl, by show 2 ≤ 5; decide, ?_⟩
  exact ⟨rfl, RdQ.good hgood rfl rfl⟩
theorem width64_L (h : Hp) : CallL Tryz.prog F_width64 [] h fun r h' => r = .ret (.int .i64 8) ∧ h' = h := by
 refine K_width64 (md := false) ?_
 refine s_ie (d := 0) ?H ?_
 case H => decide
 refine ⟨by decide, s_ie (d := 8589934591) (by decide) ?_⟩
 refine s_eq (fun h1 => absurd h1 (by decide)) (fun _ => ?_)
 exact ⟨rfl, rfl, rfl⟩
theorem u64_nat' {v : Nat} (h : v < 18446744073709551616) : IntKind.u64.wrap (v : Int) = (v : Int) := by rw [IntKind.wrap_u64]; omega
theorem or_add_u64 {a y : Nat} (ha : a < 18446744073709551360 / 256 + 1) (hy : y < 256) : ibits .or .u64 ((a * 256 : Nat) : Int) (y : Int) = ((y + 256 * a : Nat) : Int) := by
 have e : ∀ n : Nat, BitVec.ofInt IntKind.u64.bits (n : Int) = BitVec.ofNat 64 n := fun n => BitVec.ofInt_natCast 64 n
 rw [ibits, e, e]
 show IntKind.u64.wrap ((BitVec.ofNat 64 (a * 256) ||| BitVec.ofNat 64 y).toNat : Int) = _
 have h1 : (BitVec.ofNat 64 (a * 256) ||| BitVec.ofNat 64 y).toNat = y + 256 * a := by
  rw [BitVec.toNat_or, BitVec.toNat_ofNat, BitVec.toNat_ofNat, Nat.mod_eq_of_lt (by omega), Nat.mod_eq_of_lt (by omega), Nat.mul_comm, show (256 : Nat) = 2 ^ 8 from rfl, ← Nat.two_pow_add_eq_or_of_lt (show y < 2 ^ 8 from hy)]
  omega
 rw [h1, u64_nat' (by omega)]
theorem shl8_u64 {a : Nat} (h : a * 256 < 18446744073709551616) : IntKind.u64.wrap ((a : Int) * 2 ^ (min (8 : Int).toNat IntKind.u64.bits)) = ((a * 256 : Nat) : Int) := by
 rw [show min (8 : Int).toNat IntKind.u64.bits = 8 from rfl]
 have e : (a : Int) * 2 ^ 8 = ((a * 256 : Nat) : Int) := by simp
 rw [e, u64_nat' h]
theorem taken64_L {i k n : Nat} {c : Option Nat} {es : List (List AV)} {h : Hp} {s : Str} (hi : h i = some (.row Tb es)) (hs : ∀ (j : Nat) (x : UInt8), s[j]? = some x → es[k + j]? = some [.int .u8 (x.toNat : Int)]) (hl : s.length = 8) (hn : 8 ≤ n) :
  CallL Tryz.prog F_taken64 [.slc i k n c] h fun r h' => r = .ret (.int .u64 (leN s)) ∧ h' = h := by
 refine K_taken64 (md := false) ?_
 refine (width64_L h).mono ?_
 rintro r h' ⟨rfl, rfl⟩
 refine s_nat 7 rfl (by decide) ?_
 refine s_blk (id := 0) (fun e' h'' => h'' = h' ∧ e'.ds = [] ∧ Has e' [(3, .int .u64 (leN s))]) ?_ ?_
 ·refine s_loop 8 (fun q (v : Nat) => q ≤ 8 ∧ v = leN (s.drop (8 - q))) (fun q v => [(0, .slc i k n c), (3, .int .u64 v), (4, .int .i64 (7 - q : Int))]) (fun _ _ => h') 0 ⟨Nat.zero_le _, by rw [List.drop_of_length_le (by omega)]; rfl⟩ rfl rfl ⟨rfl, rfl, rfl, trivial⟩ (fun q v hI => hI.1) ?_
  rintro q v n0 g0 hq ⟨_, hv⟩
  refine s_le (fun (h3 : (0 : Int) ≤ 7 - q) => ?_) (fun (h3 : (7 - q : Int) < 0) => ?_)
  ·obtain ⟨x, hx⟩ := get_lt (l := s) (k := 7 - q) (by omega)
   have hxl := x.toNat_lt
   have hvl : v < 256 ^ q := by
    rw [hv]
    have := leN_lt (s.drop (8 - q))
    rwa [List.length_drop, hl, show 8 - (8 - q) = q by omega] at this
   have hvl2 : v < 256 ^ 7 := Nat.lt_of_lt_of_le hvl (Nat.pow_le_pow_right (by decide) (by omega))
   refine ⟨by decide, s_ie (shl8_u64 (by omega)) ?_⟩
   refine ⟨7 - q, (by omega : (7 - q : Int) = ((7 - q : Nat) : Int)), by omega, ⟨_, hi⟩, ?_⟩
   refine ⟨_, _, _, _, hi, hs _ _ hx, rfl, ?_⟩
   refine s_ie (u64_nat' (v := x.toNat) (by omega)) ?_
   refine s_ie (or_add_u64 (by omega) (by omega)) ?_
   refine s_64 (by omega) (by omega) ?_
   refine ⟨x.toNat + 256 * v, by omega, ⟨by omega, ?_⟩, rfl, rfl, rfl, rfl, ?_, trivial⟩
   ·rw [show 8 - (q + 1) = 7 - q by omega, drop_cons hx, leN, hv, show 7 - q + 1 = 8 - q by omega]
   ·exact congrArg (AV.int .i64) (by omega)
  ·obtain rfl : q = 8 := by omega
   exact ⟨rfl, rfl, by rw [hv]; rfl, trivial⟩
 ·rintro e' h'' ⟨rfl, hd, hh⟩
  obtain ⟨n0, g0, rfl⟩ := hh.out hd
  exact ⟨rfl, rfl, rfl⟩
theorem get64_L {R : Nat} {cv : AV} {b : Str} {at_ en : Nat} {w : Int} {h : Hp} (k : RdOK R cv b at_ en w h) :
  CallL Tryz.prog F_get64 [.ptr R 0 0] h (RdQ R cv at_ en w h (fun x : Nat => .int .u64 x) (.int .u64 0) (fixR 8 (rest b at_ en))) := by
 have hrl := rest_len (at_ := at_) k.len
 have hle := k.le
 have hlen := k.len
 have hbig := k.big
 refine K_get64 (md := false) ?_
 refine (width64_L h).mono ?_
 rintro r h' ⟨rfl, rfl⟩
 refine ⟨_, _, _, _, k.row, rfl, rfl, ?_⟩
 refine s_eq (fun _ => ?_) (fun h3 => absurd rfl h3)
 refine ⟨_, _, _, _, k.row, rfl, rfl, ?_⟩
 refine ⟨_, _, _, _, k.row, rfl, rfl, ?_⟩
 refine s_nat (en - at_) (by omega) (by omega) ?_
 refine s_lt (fun (h4 : ((en - at_ : Nat) : Int) < 8) => ?_) (fun (h4 : (8 : Int) ≤ (en - at_ : Nat)) => ?_)
 ·refine ⟨_, _, _, _, k.row, rfl, rfl, ?_⟩
  refine (rwrong_L R cv at_ en w 10 at_ _ k.row).mono ?_
  rintro r h' ⟨rfl, rfl⟩
  refine ⟨_, _, _, _, Hp.set_same _ _ _, rfl, rfl, ?_⟩
  refine s_ne (fun _ => ?_) (fun h3 => absurd h3 (by decide))
  exact ⟨rfl, RdQ.wrong (p := 0) (show fixR 8 _ = .bad 10 0 from if_pos (by omega)) at_ rfl⟩
 ·refine ⟨_, _, _, _, k.row, rfl, rfl, ?_⟩
  refine s_ne (fun h3 => absurd rfl h3) (fun _ => ?_)
  refine ⟨_, _, _, _, k.row, rfl, rfl, ?_⟩
  refine ⟨_, _, _, _, k.row, rfl, rfl, ?_⟩
  have hbl := bt_len b
  rcases k.own with ⟨rfl, h0⟩ | ⟨B, row, q, rfl, hB, hrow, hrl2, hq⟩
  ·have hb0 : b.length = 0 := by have := congrArg List.length h0; rwa [bt_len] at this
   omega
  have hc : (bt b).length ≤ q.getD (bt b).length := by
   rcases hq with rfl | rfl
   ·exact Nat.le_refl _
   ·exact hrl2
  have e : (rest b at_ en).take 8 = (b.drop at_).take 8 := by
   rw [rest, List.drop_take, List.take_take, Nat.min_eq_left (by omega)]
  have hgood : fixR 8 (rest b at_ en) = .ok (leN ((b.drop at_).take 8)) 8 := by rw [← e]; exact if_neg (by omega)
  refine ⟨⟨_, hB⟩, at_, rfl, by omega, hc, ?_⟩
  refine (taken64_L (s := (b.drop at_).take 8) hB (fun j x hx => ?_) (by rw [List.length_take, List.length_drop]; omega) (by omega)).mono ?_
  ·have hj : j < 8 := by have := (List.getElem?_eq_some_iff.1 hx).1; rw [List.length_take] at this; omega
   rw [List.getElem?_take_of_lt hj, List.getElem?_drop] at hx
   have hjl := (List.getElem?_eq_some_iff.1 hx).1
   have := bt_get hx
   rw [← hrow, List.getElem?_take_of_lt (by omega)] at this
   rw [Nat.zero_add]; exact this
  rintro r h' ⟨rfl, rfl⟩
  refine ⟨_, _, _, _, k.row, rfl, rfl, ?_⟩
  refine s_nat (at_ + 8) (by omega) (by omega) ?_
  refine ⟨_, _, _, k.row, rfl, rfl, rfl, rfl, by show 2 ≤ 5; decide, ?_⟩
  exact ⟨rfl, RdQ.good hgood rfl rfl⟩
end Go.Proofs.YtgjjbfhamlecoabGreatDoor

namespace Go.Proofs.YtgjjbfhamlecoabGreatDoor
open Go.L
theorem tagR_bad {s : Str} {e p : Nat} (h : tagR s = .bad e p) : e ≠ 0 := by
 unfold tagR at h
 split at h
 ·split at h <;> cases h; decide
 ·cases h; decide
 ·cases h; decide
theorem unit_bad {α : Type} {x : WR α} {e p : Nat} (h : x.unit = .bad e p) : x = .bad e p := by cases x <;> cases h; rfl
theorem varR_bad {s : Str} {e p : Nat} (h : varR s = .bad e p) : e ≠ 0 := by
 unfold varR at h; split at h <;> cases h <;> decide
theorem spanR_bad {s : Str} {e p : Nat} (h : spanR s = .bad e p) : e ≠ 0 := by
 unfold spanR at h
 split at h
 ·split at h <;> cases h; decide
 ·cases h; decide
 ·cases h; decide
theorem fixR_bad {k : Nat} {s : Str} {e p : Nat} (h : fixR k s = .bad e p) : e ≠ 0 := by
 unfold fixR at h; split at h <;> cases h; decide
theorem grpR_bad {cont : Nat → Nat → Str → WR Unit} {num : Nat} {s : Str} (hc : ∀ n k t e p, cont n k t = .bad e p → e ≠ 0) : ∀ (f o e p : Nat), grpR cont num s f o = .bad e p → e ≠ 0
 | 0, _, _, _, h => by cases h; decide
 | f + 1, o, e, p, h => by
  rw [grpR] at h
  split at h
  ·rename_i e1; cases h; exact tagR_bad e1
  ·split at h
   ·split at h
    ·rename_i e2; cases h; exact hc _ _ _ _ _ e2
    ·exact grpR_bad hc f _ _ _ h
   ·split at h <;> cases h; decide
theorem conB_bad {g : Nat → Str → WR Unit} (hg : ∀ num s e p, g num s = .bad e p → e ≠ 0) {num k : Nat} {s : Str} {e p : Nat} (h : conB g num k s = .bad e p) : e ≠ 0 := by
 unfold conB at h
 split at h
 ·exact varR_bad (unit_bad h)
 ·split at h
  ·exact fixR_bad (unit_bad h)
  ·split at h
   ·exact spanR_bad (unit_bad h)
   ·split at h
    ·exact hg _ _ _ _ h
    ·split at h
     ·exact fixR_bad (unit_bad h)
     ·cases h
theorem conR_bad : ∀ (d num k : Nat) (s : Str) (e p : Nat), conR d num k s = .bad e p → e ≠ 0
 | 0, num, k, s, e, p, h => conB_bad (fun _ _ _ _ h => by cases h; decide) h
 | d + 1, num, k, s, e, p, h => conB_bad (fun num s e p h => grpR_bad (fun n k t e p h => conR_bad d n k t e p h) _ _ _ _ (unit_bad h)) h
abbrev EndW (R : Nat) (cv : AV) (at_ en : Nat) (h : Hp) (e p : Nat) (h' : Hp) : Prop := ∃ a : Nat, h' = h.set R (.row TR [RdC cv a en e (at_ + p : Nat)])
def ConQ (R : Nat) (cv : AV) (at_ en : Nat) (w : Int) (h : Hp) (x : WR Unit) (r : Res) (h' : Hp) : Prop := RdQ R cv at_ en w h (fun _ => .tup []) (.tup []) x r h'
def GroupP (d : Nat) : Prop := ∀ {R : Nat} {cv : AV} {b : Str} {at_ en : Nat} {w : Int} {h : Hp} (num : Nat), d ≤ 1000000 → RdOK R cv b at_ en w h →
 CallL Tryz.prog F_wire_Reader_group [.ptr R 0 0, .int .i32 num, .int .i64 d] h (RdQ R cv at_ en w h (fun v : Nat => .int .i64 (at_ + v : Nat)) (.int .i64 0) (groupR d num (rest b at_ en)))
def ContentP (d : Nat) : Prop := ∀ {R : Nat} {cv : AV} {b : Str} {at_ en : Nat} {w : Int} {h : Hp} (num k : Nat), d ≤ 1000000 → RdOK R cv b at_ en w h →
 CallL Tryz.prog F_wire_Reader_content [.ptr R 0 0, .int .i32 num, .int .u8 k, .int .i64 d] h (ConQ R cv at_ en w h (conR d num k (rest b at_ en)))
theorem Fixed32_L {R : Nat} {cv : AV} {b : Str} {at_ en : Nat} {w : Int} {h : Hp} (k : RdOK R cv b at_ en w h) :
  CallL Tryz.prog F_wire_Reader_Fixed32 [.ptr R 0 0] h (RdQ R cv at_ en w h (fun x : Nat => .int .u32 x) (.int .u32 0) (fixR 4 (rest b at_ en))) := by
 refine K_wire_Reader_Fixed32 (md := false) ?_
 refine (get32_L k).mono ?_
 intro r h' hq
 cases hx : fixR 4 (rest b at_ en) with
 | ok v n => rw [hx] at hq; obtain ⟨rfl, rfl⟩ := hq; exact ⟨rfl, rfl, rfl⟩
 | bad e p => rw [hx] at hq; obtain ⟨rfl, a, rfl⟩ := hq; exact ⟨rfl, rfl, a, rfl⟩
theorem Fixed64_L {R : Nat} {cv : AV} {b : Str} {at_ en : Nat} {w : Int} {h : Hp} (k : RdOK R cv b at_ en w h) :
  CallL Tryz.prog F_wire_Reader_Fixed64 [.ptr R 0 0] h (RdQ R cv at_ en w h (fun x : Nat => .int .u64 x) (.int .u64 0) (fixR 8 (rest b at_ en))) := by
 refine K_wire_Reader_Fixed64 (md := false) ?_
 refine (get64_L k).mono ?_
 intro r h' hq
 cases hx : fixR 8 (rest b at_ en) with
 | ok v n => rw [hx] at hq; obtain ⟨rfl, rfl⟩ := hq; exact ⟨rfl, rfl, rfl⟩
 | bad e p => rw [hx] at hq; obtain ⟨rfl, a, rfl⟩ := hq; exact ⟨rfl, rfl, a, rfl⟩
theorem ConQ.unit {α : Type} {R : Nat} {cv : AV} {at_ en : Nat} {w : Int} {h h' : Hp} {x : WR α} (k : (∃ v n, x = .ok v n ∧ h' = h.set R (.row TR [RdC cv (at_ + n : Nat) en 0 w])) ∨ ∃ e p, x = .bad e p ∧ EndW R cv at_ en h e p h') :
  ConQ R cv at_ en w h x.unit (.ret (.tup [])) h' := by
 rcases k with ⟨v, n, rfl, rfl⟩ | ⟨e, p, rfl, a, rfl⟩
 ·exact ⟨rfl, rfl⟩
 ·exact ⟨rfl, a, rfl⟩
theorem RdQ.cases' {α : Type} {R : Nat} {cv : AV} {at_ en : Nat} {w : Int} {h h' : Hp} {f : α → AV} {z : AV} {x : WR α} {r : Res} (k : RdQ R cv at_ en w h f z x r h') :
  (∃ v, r = .ret v) ∧ ((∃ v n, x = .ok v n ∧ h' = h.set R (.row TR [RdC cv (at_ + n : Nat) en 0 w])) ∨ ∃ e p, x = .bad e p ∧ EndW R cv at_ en h e p h') := by
 cases x with
 | ok v n => obtain ⟨rfl, rfl⟩ := k; exact ⟨⟨_, rfl⟩, .inl ⟨v, n, rfl, rfl⟩⟩
 | bad e p => obtain ⟨rfl, a, rfl⟩ := k; exact ⟨⟨_, rfl⟩, .inr ⟨e, p, rfl, a, rfl⟩⟩
theorem content_of {d : Nat} (hg : GroupP d) : ContentP d := by
 intro R cv b at_ en w h num k hd kk
 refine K_wire_Reader_content (md := false) ?_
 rw [conR_eq]
 unfold conB
 refine s_eq (fun (h1 : (k : Int) = 0) => ?_) (fun (h1 : (k : Int) ≠ 0) => ?_)
 ·rw [if_pos (by omega)]
  refine kk.varint.mono ?_
  rintro r h' hq
  unfold VarQ at hq
  rw [varR]
  rcases hx : rdV (rest b at_ en) with ⟨v, n⟩ | _ | _
  ·rw [hx] at hq; obtain ⟨rfl, rfl⟩ := hq; exact ⟨rfl, rfl, rfl⟩
  ·rw [hx] at hq; obtain ⟨rfl, rfl⟩ := hq; exact ⟨rfl, rfl, at_, rfl⟩
  ·rw [hx] at hq; obtain ⟨rfl, rfl⟩ := hq; exact ⟨rfl, rfl, at_, rfl⟩
 ·rw [if_neg (by omega)]
  refine s_eq (fun (h2 : (k : Int) = 1) => ?_) (fun (h2 : (k : Int) ≠ 1) => ?_)
  ·rw [if_pos (by omega)]
   refine (Fixed64_L kk).mono ?_
   rintro r h' hq
   obtain ⟨⟨v, rfl⟩, hq2⟩ := RdQ.cases' hq
   exact ⟨rfl, ConQ.unit hq2⟩
  ·rw [if_neg (by omega)]
   refine s_eq (fun (h3 : (k : Int) = 2) => ?_) (fun (h3 : (k : Int) ≠ 2) => ?_)
   ·rw [if_pos (by omega)]
    refine (span_L kk).mono ?_
    rintro r h' hq
    cases hx : spanR (rest b at_ en) with
    | ok v n => rw [hx] at hq; obtain ⟨rfl, rfl⟩ := hq; exact ⟨rfl, ConQ.unit (.inl ⟨v, n, rfl, rfl⟩)⟩
    | bad e p => rw [hx] at hq; obtain ⟨rfl, hq⟩ := hq; exact ⟨rfl, ConQ.unit (.inr ⟨e, p, rfl, hq⟩)⟩
   ·rw [if_neg (by omega)]
    refine s_eq (fun (h4 : (k : Int) = 3) => ?_) (fun (h4 : (k : Int) ≠ 3) => ?_)
    ·rw [if_pos (by omega)]
     refine (hg num hd kk).mono ?_
     rintro r h' hq
     obtain ⟨⟨v, rfl⟩, hq2⟩ := RdQ.cases' hq
     exact ⟨rfl, ConQ.unit hq2⟩
    ·rw [if_neg (by omega)]
     refine s_eq (fun (h5 : (k : Int) = 5) => ?_) (fun (h5 : (k : Int) ≠ 5) => ?_)
     ·rw [if_pos (by omega)]
      refine (Fixed32_L kk).mono ?_
      rintro r h' hq
      obtain ⟨⟨v, rfl⟩, hq2⟩ := RdQ.cases' hq
      exact ⟨rfl, ConQ.unit hq2⟩
     ·rw [if_neg (by omega)]
      exact ⟨rfl, rfl, (Hp.set_self kk.row).symm⟩
inductive GS where
 | on (o : Nat)
 | bad (e p a : Nat)
def GS.hp (R : Nat) (cv : AV) (at_ en : Nat) (w : Int) (h : Hp) : GS → Hp
 | .on o => h.set R (.row TR [RdC cv (at_ + o : Nat) en 0 w])
 | .bad e p a => h.set R (.row TR [RdC cv a en e (at_ + p : Nat)])
def GS.ok (len k : Nat) (x : WR Nat) (f : Nat → Nat → WR Nat) : GS → Prop
 | .on o => k ≤ o ∧ o ≤ len ∧ ∀ g, len < g + o → x = f g o
 | .bad e p _ => k ≤ len + 1 ∧ e ≠ 0 ∧ x = .bad e p
theorem group0 : GroupP 0 := by
 intro R cv b at_ en w h num hd kk
 refine K_wire_Reader_group (md := false) ?_
 refine s_lt (fun _ => ?_) (fun h1 => absurd h1 (by decide))
 refine ⟨_, _, _, _, kk.row, rfl, rfl, ?_⟩
 refine (rwrong_L R cv at_ en w 14 at_ _ kk.row).mono ?_
 rintro r h' ⟨rfl, rfl⟩
 refine s_blk (id := 0) (fun e' h' => h' = h.set R (.row TR [RdC cv at_ en 14 at_]) ∧ e'.ds = [] ∧ Has e' []) ?_ ?_
 ·refine s_loop 0 (fun q (_ : Unit) => q ≤ 0) (fun _ _ => [(0, .ptr R 0 0)]) (fun _ _ => h.set R (.row TR [RdC cv at_ en 14 at_])) () (Nat.le_refl _) rfl rfl ⟨rfl, trivial⟩ (fun _ _ h => h) ?_
  rintro q _ n0 g0 _ _
  refine ⟨_, _, _, _, Hp.set_same _ _ _, rfl, rfl, ?_⟩
  refine s_eq (fun h1 => absurd h1 (by decide)) (fun _ => ?_)
  exact ⟨rfl, rfl, trivial⟩
 ·rintro e' h' ⟨rfl, hd2, hh⟩
  obtain ⟨n0, g0, rfl⟩ := hh.out hd2
  exact ⟨rfl, rfl, at_, rfl⟩
theorem group_of {d : Nat} (hc : ContentP d) : GroupP (d + 1) := by
 intro R cv b at_ en w h num hd kk
 have hrl := rest_len (at_ := at_) kk.len
 have hle := kk.le
 have hlen := kk.len
 have hbig := kk.big
 refine K_wire_Reader_group (md := false) ?_
 refine s_lt (fun (h1 : ((d + 1 : Nat) : Int) < 1) => by omega) (fun _ => ?_)
 generalize hX : groupR (d + 1) num (rest b at_ en) = X
 refine s_blk (id := 0) (fun e' h' => ∃ e p, X = .bad e p ∧ EndW R cv at_ en h e p h' ∧ e'.ds = [] ∧ Has e' []) ?_ ?_
 ·refine s_loop (rest b at_ en).length.succ (fun q s => GS.ok (rest b at_ en).length q X (fun g o => grpR (conR d) num (rest b at_ en) g o) s) (fun _ _ => [(0, .ptr R 0 0), (1, .int .i32 num), (2, .int .i64 (d + 1 : Nat))]) (fun _ s => GS.hp R cv at_ en w h s) (.on 0) ⟨Nat.zero_le _, Nat.zero_le _, ?_⟩ (Hp.set_self kk.row).symm rfl ⟨rfl, rfl, rfl, trivial⟩ ?_ ?_
  ·intro g hg
   rw [← hX]
   exact grpR_fuel (fun n k t v q h => conR_ok d n k t v q h) _ _ _ (by omega) hg
  ·intro q s hs
   cases s with
   | on o => exact Nat.le_trans hs.1 (Nat.le_succ_of_le hs.2.1)
   | bad e p a => exact hs.1
  rintro q s n0 g0 hq hs
  cases s with
  | bad e p a =>
   obtain ⟨h1, h2, h3⟩ := hs
   refine ⟨_, _, _, _, Hp.set_same _ _ _, rfl, rfl, ?_⟩
   refine s_eq (fun (h4 : (e : Int) = 0) => by omega) (fun _ => ?_)
   exact ⟨e, p, h3, ⟨a, rfl⟩, rfl, trivial⟩
  | on o =>
   obtain ⟨h1, h2, h3⟩ := hs
   have ko : RdOK R cv b (at_ + o) en w (h.set R (.row TR [RdC cv (at_ + o : Nat) en 0 w])) := kk.put w (by omega)
   refine ⟨_, _, _, _, Hp.set_same _ _ _, rfl, rfl, ?_⟩
   refine s_eq (fun _ => ?_) (fun h4 => absurd rfl h4)
   refine ⟨_, _, _, _, Hp.set_same _ _ _, rfl, rfl, ?_⟩
   refine (Tag_L ko).mono ?_
   rintro r h' hq'
   have hX3 : X = grpR (conR d) num (rest b at_ en) ((rest b at_ en).length + 1) o := h3 _ (by omega)
   rw [grpR, rest_drop] at hX3
   cases hx : tagR (rest b (at_ + o) en) with
   | bad e p =>
    rw [hx] at hq' hX3
    obtain ⟨rfl, a, rfl⟩ := hq'
    have he := tagR_bad hx
    refine ⟨_, rfl, _, rfl, ?_⟩
    refine ⟨_, _, _, _, Hp.set_same _ _ _, rfl, rfl, ?_⟩
    refine s_ne (fun _ => ?_) (fun (h4 : (e : Int) = 0) => by omega)
    exact ⟨.bad e (o + p) a, by omega, ⟨by omega, he, hX3⟩, by rw [Hp.set_set, Nat.add_assoc]; rfl, rfl, rfl, rfl, rfl, trivial⟩
   | ok x m =>
    obtain ⟨n, k⟩ := x
    rw [hx] at hq' hX3
    obtain ⟨rfl, rfl⟩ := hq'
    have hm := tagR_ok hx
    have hrl2 := rest_len (at_ := at_ + o) kk.len
    have ko2 : RdOK R cv b (at_ + o + m) en w ((h.set R (.row TR [RdC cv (at_ + o : Nat) en 0 w])).set R (.row TR [RdC cv (at_ + o + m : Nat) en 0 w])) := ko.put w (by omega)
    refine ⟨_, rfl, _, rfl, ?_⟩
    refine ⟨_, _, _, _, Hp.set_same _ _ _, rfl, rfl, ?_⟩
    refine s_ne (fun h4 => absurd rfl h4) (fun _ => ?_)
    refine s_ne (fun (h5 : (k : Int) ≠ 4) => ?_) (fun (h5 : (k : Int) = 4) => ?_)
    ·have hk4 : k ≠ 4 := by omega
     refine s_nat d (by omega) (by omega) ?_
     refine (hc n k (by omega) ko2).mono ?_
     rintro r h' hq2
     cases hy : conR d n k (rest b (at_ + o + m) en) with
     | bad e p =>
      have hX4 : X = .bad e (o + m + p) := by
       rw [hX3]
       show (if k ≠ 4 then _ else _) = _
       rw [if_pos hk4, rest_drop, ← Nat.add_assoc at_ o m, hy]
      rw [hy] at hq2
      obtain ⟨rfl, a, rfl⟩ := hq2
      exact ⟨.bad e (o + m + p) a, by omega, ⟨by omega, conR_bad _ _ _ _ _ _ hy, hX4⟩, by rw [Hp.set_set, Hp.set_set, show at_ + o + m + p = at_ + (o + m + p) by omega]; rfl, rfl, rfl, rfl, rfl, trivial⟩
     | ok u z =>
      have hX4 : X = grpR (conR d) num (rest b at_ en) (rest b at_ en).length (o + m + z) := by
       rw [hX3]
       show (if k ≠ 4 then _ else _) = _
       rw [if_pos hk4, rest_drop, ← Nat.add_assoc at_ o m, hy]
      rw [hy] at hq2
      obtain ⟨rfl, rfl⟩ := hq2
      have hz := conR_ok _ _ _ _ _ _ hy
      have hrl3 := rest_len (at_ := at_ + o + m) kk.len
      refine ⟨.on (o + m + z), by omega, ⟨by omega, by omega, fun g hg => ?_⟩, by rw [Hp.set_set, Hp.set_set, show at_ + o + m + z = at_ + (o + m + z) by omega]; rfl, rfl, rfl, rfl, rfl, trivial⟩
      rw [hX4]
      exact grpR_fuel (fun n k t v q h => conR_ok d n k t v q h) _ _ _ (by omega) hg
    ·have hX4 : X = if n = num then .ok o (o + m) else .bad 13 o := by
      rw [hX3]
      show (if k ≠ 4 then _ else _) = _
      rw [if_neg (by omega)]
     refine s_eq (fun (h6 : (n : Int) = num) => ?_) (fun (h6 : (n : Int) ≠ num) => ?_)
     ·rw [if_pos (by omega)] at hX4
      exact ⟨rfl, RdQ.good hX4 rfl ((Hp.set_set _ _ _ _).trans (congrArg (fun z : Nat => h.set R (.row TR [RdC cv z en 0 w])) (Nat.add_assoc at_ o m)))⟩
     ·rw [if_neg (by omega)] at hX4
      refine (rwrong_L R cv (at_ + o + m : Nat) en w 13 (at_ + o : Nat) _ (Hp.set_same _ _ _)).mono ?_
      rintro r h' ⟨rfl, rfl⟩
      exact ⟨.bad 13 o (at_ + o + m), by omega, ⟨by omega, by decide, hX4⟩, by rw [Hp.set_set, Hp.set_set]; rfl, rfl, rfl, rfl, rfl, trivial⟩
 ·rintro e' h' ⟨e, p, rfl, hw, hd2, hh⟩
  obtain ⟨n0, g0, rfl⟩ := hh.out hd2
  exact ⟨rfl, rfl, hw⟩
theorem group_L : ∀ d, GroupP d
 | 0 => group0
 | d + 1 => group_of (content_of (group_L d))
theorem content_L (d : Nat) : ContentP d := content_of (group_L d)
end Go.Proofs.YtgjjbfhamlecoabGreatDoor

namespace Go.Proofs.YtgjjbfhamlecoabGreatDoor
open Go.L
theorem CloneSeg_L {cv : AV} {b : Str} {h : Hp} {lo hi : Nat} (o : OwnX Tb h cv (bt b)) (h1 : lo ≤ hi) (h2 : hi ≤ b.length) (hb : b.length ≤ 1000000000000) (hh : b ≠ []) {B : Nat} {q : Option Nat} (hc : cv = .slc B 0 (bt b).length q) :
  CallL Tryz.prog F_slices_Clone [.slc B (0 + lo) (hi - lo) (q.map (· - lo))] h fun r h' => ∃ v, r = .ret v ∧ NewX Tb h h' v (bt ((b.take hi).drop lo)) := by
 rcases o with ⟨h0, _⟩ | ⟨B', row, q', h0, hB, hrow, hrl2, hq⟩
 ·rw [h0] at hc; cases hc
 ·rw [hc] at h0
  cases h0
  have hbl := bt_len b
  have hl : ((b.take hi).drop lo).length = hi - lo := by rw [List.length_drop, List.length_take]; omega
  rw [← hl]
  refine Clone_slc B (0 + lo) Tb _ row ((b.take hi).drop lo) h hB (by rw [hl]; omega) ?_ (by omega)
  rw [hl, Nat.zero_add, bt_drop, bt_take, ← hrow, List.drop_take, List.drop_take, List.take_take]
  congr 1
  omega
theorem OwnX.slc_ne {b : Str} {h : Hp} {cv : AV} (o : OwnX Tb h cv (bt b)) (hb : b ≠ []) : ∃ B q, cv = .slc B 0 (bt b).length q ∧ (∃ row, h B = some (.row Tb row)) ∧ (bt b).length ≤ q.getD (bt b).length := by
 rcases o with ⟨_, h0⟩ | ⟨B, row, q, rfl, hB, hrow, hrl2, hq⟩
 ·have := congrArg List.length h0
  rw [bt_len] at this
  exact absurd (List.length_eq_zero_iff.1 this) hb
 ·refine ⟨B, q, rfl, ⟨row, hB⟩, ?_⟩
  rcases hq with rfl | rfl
  ·exact Nat.le_refl _
  ·exact hrl2
def SkipQ (R : Nat) (cv : AV) (b : Str) (at_ en : Nat) (w : Int) (h : Hp) (x : WR Unit) (r : Res) (h' : Hp) : Prop := match x with
 | .ok _ n => ∃ v, r = .ret v ∧ NewX Tb (h.set R (.row TR [RdC cv (at_ + n : Nat) en 0 w])) h' v (bt ((rest b at_ en).take n))
 | .bad e p => r = .ret .nils ∧ h' = h.set R (.row TR [RdC cv at_ en e (at_ + p : Nat)])
theorem Skip_L {R : Nat} {cv : AV} {b : Str} {at_ en : Nat} {w : Int} {h : Hp} {num k d : Nat} (kk : RdOK R cv b at_ en w h) (h1 : 1 ≤ num) (h2 : num ≤ 536870911) (h3 : k ≤ 5) (h4 : k ≠ 4) (hd : d ≤ 1000000) (hpos : b ≠ []) :
  CallL Tryz.prog F_wire_Reader_Skip [.ptr R 0 0, .int .i32 num, .int .u8 k, .int .i64 d] h (SkipQ R cv b at_ en w h (conR d num k (rest b at_ en))) := by
 have hrl := rest_len (at_ := at_) kk.len
 have hle := kk.le
 have hlen := kk.len
 have hbig := kk.big
 refine K_wire_Reader_Skip (md := false) ?_
 refine s_then3 (fun e' h' => h' = h ∧ e'.ds = [] ∧ Has e' [(0, .ptr R 0 0), (1, .int .i32 num), (2, .int .u8 k), (3, .int .i64 d), (9, .int .i64 at_)]) ?_ ?_
 ·refine ⟨_, _, _, _, kk.row, rfl, rfl, ?_⟩
  refine s_lt (fun (h5 : (num : Int) < 1) => by omega) (fun _ => ?_)
  refine s_lt (fun (h5 : (536870911 : Int) < num) => by omega) (fun _ => ?_)
  refine s_lt (fun (h5 : (5 : Int) < k) => by omega) (fun _ => ?_)
  refine s_eq (fun (h5 : (k : Int) = 4) => by omega) (fun _ => ?_)
  exact ⟨rfl, rfl, rfl, rfl, rfl, rfl, rfl, trivial⟩
 rintro e' h' ⟨rfl, hd1, hh⟩
 obtain ⟨n0, g0, rfl⟩ := hh.out hd1
 refine ⟨_, _, _, _, kk.row, rfl, rfl, ?_⟩
 refine s_eq (fun _ => ?_) (fun h5 => absurd rfl h5)
 refine (content_L d num k hd kk).mono ?_
 rintro r h1' hq
 cases hx : conR d num k (rest b at_ en) with
 | bad e p =>
  unfold ConQ RdQ at hq
  rw [hx] at hq
  obtain ⟨rfl, a, rfl⟩ := hq
  have he := conR_bad _ _ _ _ _ _ hx
  refine ⟨_, _, _, _, Hp.set_same _ _ _, rfl, rfl, ?_⟩
  refine s_ne (fun _ => ?_) (fun (h5 : (e : Int) = 0) => by omega)
  refine ⟨_, _, _, Hp.set_same _ _ _, rfl, rfl, rfl, rfl, by show 2 ≤ 5; decide, ?_⟩
  exact ⟨rfl, rfl, Hp.set_set _ _ _ _⟩
 | ok u n =>
  unfold ConQ RdQ at hq
  rw [hx] at hq
  obtain ⟨rfl, rfl⟩ := hq
  have hn := conR_ok _ _ _ _ _ _ hx
  have kn := kk.put w (a := at_ + n) (by omega)
  obtain ⟨B, q, rfl, hB, hc⟩ := OwnX.slc_ne kn.own hpos
  have hbl := bt_len b
  refine ⟨_, _, _, _, Hp.set_same _ _ _, rfl, rfl, ?_⟩
  refine s_ne (fun h5 => absurd rfl h5) (fun _ => ?_)
  refine ⟨_, _, _, _, Hp.set_same _ _ _, rfl, rfl, ?_⟩
  refine ⟨_, _, _, _, Hp.set_same _ _ _, rfl, rfl, ?_⟩
  refine ⟨hB, at_ + n, rfl, at_, rfl, by omega, by omega, ?_⟩
  refine (CloneSeg_L kn.own (lo := at_) (hi := at_ + n) (by omega) (by omega) hbig hpos rfl).mono ?_
  rintro r h2' ⟨v, rfl, hv⟩
  have e : (b.take (at_ + n)).drop at_ = (rest b at_ en).take n := by
   rw [rest, List.drop_take, List.drop_take, List.take_take]
   congr 1
   omega
  rw [e] at hv
  exact ⟨rfl, v, rfl, hv⟩
theorem rwrongE_L (R : Nat) (cv : AV) (at_ en e w c p : Int) (h : Hp) (hR : h R = some (.row TR [RdC cv at_ en e w])) (he : e ≠ 0) :
  CallL Tryz.prog F_wire_Reader_wrong [.ptr R 0 0, .int .i64 c, .int .i64 p] h fun r h' => r = .ret (.tup []) ∧ h' = h := by
 refine K_wire_Reader_wrong (md := false) ?_
 refine ⟨_, _, _, _, hR, rfl, rfl, ?_⟩
 refine s_eq (fun h1 => absurd h1 he) (fun _ => ?_)
 exact ⟨rfl, rfl, rfl⟩
theorem SkipE_L {R : Nat} {cv : AV} {at_ en e w : Int} {h : Hp} {d : Int} (hR : h R = some (.row TR [RdC cv at_ en e w])) (he : e ≠ 0) :
  CallL Tryz.prog F_wire_Reader_Skip [.ptr R 0 0, .int .i32 0, .int .u8 0, .int .i64 d] h fun r h' => r = .ret .nils ∧ h' = h := by
 refine K_wire_Reader_Skip (md := false) ?_
 refine s_then3 (fun e' h' => h' = h ∧ e'.ds = [] ∧ Has e' [(0, .ptr R 0 0), (1, .int .i32 0), (2, .int .u8 0), (3, .int .i64 d), (9, .int .i64 at_)]) ?_ ?_
 ·refine ⟨_, _, _, _, hR, rfl, rfl, ?_⟩
  refine s_lt (fun _ => ?_) (fun h5 => absurd h5 (by decide))
  refine ⟨_, _, _, _, hR, rfl, rfl, ?_⟩
  refine (rwrongE_L R cv at_ en e w 1 at_ h hR he).mono ?_
  rintro r h' ⟨rfl, rfl⟩
  exact ⟨rfl, rfl, rfl, rfl, rfl, rfl, rfl, trivial⟩
 rintro e' h' ⟨rfl, hd1, hh⟩
 obtain ⟨n0, g0, rfl⟩ := hh.out hd1
 refine ⟨_, _, _, _, hR, rfl, rfl, ?_⟩
 refine s_eq (fun h5 => absurd h5 he) (fun _ => ?_)
 refine ⟨_, _, _, _, hR, rfl, rfl, ?_⟩
 refine s_ne (fun _ => ?_) (fun h5 => absurd h5 he)
 refine ⟨_, _, _, hR, rfl, rfl, rfl, rfl, by show 2 ≤ 5; decide, ?_⟩
 exact ⟨rfl, rfl, Hp.set_self hR⟩
end Go.Proofs.YtgjjbfhamlecoabGreatDoor

namespace Go.Proofs.YtgjjbfhamlecoabGreatDoor
open Go.L
def NewRd (b : Str) (h : Hp) (r : Res) (h' : Hp) : Prop := ∃ R cv, r = .ret (.ptr R 0 0) ∧ h.u R = false ∧ Gr h h' ∧ RdOK R cv b 0 b.length 0 h' ∧ ∀ B, blkOf cv = some B → h.u B = false
theorem RdC_lay {v : AV} (hv : notTup v = true ∧ v.cells = [v] ∧ flat [v] = true) {n : Int} {e : Env} {x y : AOpd} (hx : ev e x = v) (hy : ev e y = .int .i64 n) : lay e [.nils, .int .i64 0, .int .i64 0, .int .i64 0, .int .i64 0] [(0, 1, x), (2, 1, y)] = some (RdC v 0 n 0 0) := by
 rw [lay, hx, hv.1, hv.2.1]
 simp only [List.length_cons, List.length_nil, Nat.reduceAdd, Bool.true_and, Nat.beq_eq, Nat.ble_eq]
 show lay e _ _ = _
 rw [lay, hy]
 rfl
theorem NewRd_isl (g : Nat) (l : Str) (h : Hp) (hl : l.length ≤ 1000000000000) :
  CallL Tryz.prog F_wire_NewReader [.isl g (bt l)] h (NewRd l h) := by
 refine K_wire_NewReader (md := false) ?_
 refine (Clone_isl g l h hl).mono ?_
 rintro r h1 ⟨v, rfl, ho, hg, hn⟩
 refine ⟨_, RdC_lay ho.one rfl (show _ = AV.int .i64 (l.length : Nat) from congrArg (fun n : Nat => AV.int .i64 n) (bt_len l)), ?_⟩
 refine ⟨rfl, rfl, fun R hR => ?_⟩
 have hne : blkOf v ≠ some R := fun e => by have := ho.used e; rw [hR.1] at this; cases this
 exact ⟨rfl, R, v, rfl, hg.new hR.1, hg.set (hg.new hR.1) _, ⟨Hp.set_same _ _ _, ho.gr (Gr.new1 _ hR.1 _), hne, Nat.zero_le _, Nat.le_refl _, hl⟩, hn⟩
theorem rest_all (b : Str) (o : Nat) : rest b o b.length = b.drop o := by rw [rest, List.take_length]
inductive CS where
 | on (o : Nat) (H : Hp)
 | bad (e p a : Nat) (H : Hp)
def CS.hp : CS → Hp
 | .on _ H => H
 | .bad _ _ _ H => H
def CS.ok (R : Nat) (cv : AV) (b : Str) (d : Nat) (h : Hp) (k : Nat) (X : Nat × Nat) : CS → Prop
 | .on o H => k ≤ o ∧ o ≤ b.length ∧ RdOK R cv b o b.length 0 H ∧ Gr h H ∧ ∀ g, b.length < g + o → X = fldR d b g o
 | .bad e p a H => k ≤ b.length + 1 ∧ e ≠ 0 ∧ X = (e, p) ∧ H R = some (.row TR [RdC cv a b.length e p]) ∧ Gr h H
set_option maxHeartbeats 2000000 in
theorem Check_L {v : AV} {b : Str} {h : Hp} {d : Nat} (hN : CallL Tryz.prog F_wire_NewReader [v] h (NewRd b h)) (hb : b.length ≤ 1000000000000) (hd : d ≤ 1000000) :
  CallL Tryz.prog F_wire_Check [v, .int .i64 d] h fun r h' => r = .ret (.tup [.int .i64 (checkR d b).1, .int .i64 (checkR d b).2]) ∧ Gr h h' := by
 refine K_wire_Check (md := false) ?_
 refine hN.mono ?_
 rintro r h1 ⟨R, cv, rfl, hRn, g1, k1, _⟩
 generalize hX : checkR d b = X
 refine s_blk (id := 0) (fun e' h' => e'.ds = [] ∧ Gr h h' ∧ (∃ a w : Int, h' R = some (.row TR [RdC cv a b.length X.1 w]) ∧ ((X.2 : Nat) : Int) = if ((X.1 : Nat) : Int) = 0 then 0 else w) ∧ Has e' [(6, .ptr R 0 0)]) ?_ ?_
 ·refine s_loop b.length.succ (fun q s => CS.ok R cv b d h q X s) (fun _ _ => [(6, .ptr R 0 0), (1, .int .i64 d)]) (fun _ s => s.hp) (.on 0 h1) ⟨Nat.zero_le _, Nat.zero_le _, k1, g1, fun g hg => ?_⟩ rfl rfl ⟨rfl, rfl, trivial⟩ ?_ ?_
  ·rw [← hX]; exact fldR_fuel _ _ _ (by omega) hg
  ·intro q s hs
   cases s with
   | on o H => exact Nat.le_trans hs.1 (Nat.le_succ_of_le hs.2.1)
   | bad e p a H => exact hs.1
  rintro q s n0 g0 hq hs
  cases s with
  | bad e p a H =>
   obtain ⟨q1, q2, q3, q4, q5⟩ := hs
   refine (LeftE_L R cv a b.length e p H q4 (by omega)).mono ?_
   rintro r h' ⟨rfl, rfl⟩
   refine s_lt (fun h2 => absurd h2 (by decide)) (fun _ => ?_)
   exact ⟨rfl, q5, ⟨a, p, by rw [q3]; exact q4, by rw [q3]; exact (if_neg (show ¬ ((e : Nat) : Int) = 0 by omega)).symm⟩, rfl, trivial⟩
  | on o H =>
   obtain ⟨q1, q2, ko, q4, q5⟩ := hs
   refine (Left_L R cv o b.length 0 H ko.row q2 hb).mono ?_
   rintro r h' ⟨rfl, rfl⟩
   refine s_lt (fun (h2 : (0 : Int) < (b.length - o : Nat)) => ?_) (fun (h2 : ((b.length - o : Nat) : Int) ≤ 0) => ?_)
   ·have hpos : b ≠ [] := fun e => by rw [e] at h2; simp at h2
    have hX1 := q5 (b.length + 1) (by omega)
    rw [fldR, if_neg (by omega)] at hX1
    refine (rAt_L R cv o b.length 0 0 _ ko.row).mono ?_
    rintro r h' ⟨rfl, rfl⟩
    refine (Tag_L ko).mono ?_
    rintro r h2' hq2
    rw [rest_all] at hq2
    cases hx : tagR (b.drop o) with
    | bad e p =>
     rw [hx] at hq2 hX1
     obtain ⟨rfl, a, rfl⟩ := hq2
     have he := tagR_bad hx
     have hs := Hp.set_same h' R (.row TR [RdC cv a b.length e (o + p : Nat)])
     refine ⟨_, rfl, _, rfl, ?_⟩
     refine (rErr_L R cv a b.length e (o + p : Nat) _ hs).mono ?_
     rintro r h3' ⟨rfl, rfl⟩
     refine ⟨_, rfl, _, rfl, ?_⟩
     refine s_eq (fun (h3 : (e : Int) = 0) => by omega) (fun _ => ?_)
     refine (SkipE_L hs (by omega)).mono ?_
     rintro r h4' ⟨rfl, rfl⟩
     exact ⟨.bad e (o + p) a _, by omega, ⟨by omega, he, hX1, hs, q4.set hRn _⟩, rfl, rfl, rfl, rfl, trivial⟩
    | ok x m =>
     obtain ⟨n, k⟩ := x
     rw [hx] at hq2 hX1
     obtain ⟨rfl, rfl⟩ := hq2
     have hm := tagR_ok hx
     rw [List.length_drop] at hm
     have kn := ko.put 0 (a := o + m) (by omega)
     refine ⟨_, rfl, _, rfl, ?_⟩
     refine (rErr_L R cv (o + m : Nat) b.length 0 0 _ kn.row).mono ?_
     rintro r h3' ⟨rfl, rfl⟩
     refine ⟨_, rfl, _, rfl, ?_⟩
     refine s_eq (fun _ => ?_) (fun h3 => absurd rfl h3)
     refine s_eq (fun (h3 : (k : Int) = 4) => ?_) (fun (h3 : (k : Int) ≠ 4) => ?_)
     ·have hX2 : X = (13, o) := hX1.trans (if_pos (show k = 4 by omega))
      have er : Res.ret (.tup [.int .i64 13, .int .i64 o]) = Res.ret (.tup [.int .i64 (X.1 : Nat), .int .i64 (X.2 : Nat)]) := by rw [hX2]; rfl
      exact ⟨rfl, er, q4.set hRn _⟩
     ·refine (Skip_L kn hm.2.2.1 hm.2.2.2.1 hm.2.2.2.2 (by omega) hd hpos).mono ?_
      rintro r h4' hq3
      rw [rest_all] at hq3
      unfold SkipQ at hq3
      cases hy : conR d n k (b.drop (o + m)) with
      | bad e p =>
       have hX2 : X = (e, o + m + p) := by rw [hX1]; show (if k = 4 then _ else _) = _; rw [if_neg (by omega), hy]
       rw [hy] at hq3
       obtain ⟨rfl, rfl⟩ := hq3
       exact ⟨.bad e (o + m + p) (o + m) _, by omega, ⟨by omega, conR_bad _ _ _ _ _ _ hy, hX2, Hp.set_same _ _ _, (q4.set hRn _).set hRn _⟩, rfl, rfl, rfl, rfl, trivial⟩
      | ok u z =>
       have hX2 : X = fldR d b b.length (o + m + z) := by rw [hX1]; show (if k = 4 then _ else _) = _; rw [if_neg (by omega), hy]
       rw [hy] at hq3
       obtain ⟨v', rfl, _, gz, _⟩ := hq3
       have hz := conR_ok _ _ _ _ _ _ hy
       rw [List.length_drop] at hz
       have kz := (kn.put 0 (a := o + m + z) (by omega)).gr gz
       refine ⟨.on (o + m + z) h4', by omega, ⟨by omega, by omega, kz, ((q4.set hRn _).set hRn _).trans gz, fun g hg => ?_⟩, rfl, rfl, rfl, rfl, trivial⟩
       rw [hX2]
       exact fldR_fuel _ _ _ (by omega) hg
   ·have hX1 := q5 (b.length + 1) (by omega)
    rw [fldR, if_pos (by omega)] at hX1
    exact ⟨rfl, q4, ⟨o, 0, by rw [hX1]; exact ko.row, by rw [hX1]; rfl⟩, rfl, trivial⟩
 ·rintro e' h' ⟨hd2, hg, ⟨a, w, hrow, hw⟩, hh⟩
  obtain ⟨n0, g0, rfl⟩ := hh.out hd2
  refine (rErr_L R cv a b.length X.1 w _ hrow).mono ?_
  rintro r h2' ⟨rfl, rfl⟩
  refine ⟨_, rfl, _, rfl, ?_⟩
  refine ⟨rfl, ?_, hg⟩
  exact (congrArg (fun z : Int => Res.ret (.tup [.int .i64 (X.1 : Nat), .int .i64 z])) hw).symm
end Go.Proofs.YtgjjbfhamlecoabGreatDoor
