/- Contracts of functions of the given program, in the logic L: texts put together; no conditions. -/
import Derived.Test.YtbnfeedomchfdaaGreatDoorY3
import Derived.Test.YtbnfeedomchfdaaGreatDoorProg
import Derived.KernelRfl
import Derived.Test.YtbnfeedomchfdaaGreatDoorY8
import Derived.Test.YtbnfeedomchfdaaGreatDoorY5
/- The codes of functions as the logic L has them; each is what the logic makes of the given program (by the kernel). Printed by program (gen_codes.py). -/
namespace Go.Proofs.YtbnfeedomchfdaaGreatDoor
open Go.L

-- slices.Reverse[[]byte,byte]
abbrev F_slices_Reverse : Nat := 275
def A_slices_Reverse_0 : List AOper := [mv 4 0, o_ 5 (.lenl (.t 4)), o_ 6 (.bini .sub (.t 5) (i_ 1)), o_ 2 (.mov (i_ 0)), mv 3 6]
def A_slices_Reverse_1 : List AOper := [mv 7 2, mv 8 3, o_ 9 (.bini .lss (.t 7) (.t 8))]
def A_slices_Reverse_2 : List AOper := [mv 14 0, mv 15 2, mv 16 0, mv 17 3, mv 18 0, mv 19 3, o_ 20 (.iaddr 5 1 (.t 18) (.t 19)), o_ 21 (.ld1 (.t 20)), mv 22 0, mv 23 2, o_ 24 (.iaddr 5 1 (.t 22) (.t 23)), o_ 25 (.ld1 (.t 24)), o_ 26 (.iaddr 5 1 (.t 14) (.t 15)), n_ (.st 1 (.t 26) (.t 21)), o_ 27 (.iaddr 5 1 (.t 16) (.t 17)), n_ (.st 1 (.t 27) (.t 25))]
def A_slices_Reverse_3 : List AOper := [mv 10 2, o_ 11 (.bini .add (.t 10) (i_ 1)), mv 12 3, o_ 13 (.bini .sub (.t 12) (i_ 1)), mv 2 11, mv 3 13]
def A_slices_Reverse_4 : ACode := (.seq (.seq (.ops A_slices_Reverse_1) (.cond (.t 9) .skip (.exit 0))) (.seq (.block 1 (.alts [14, 15, 16, 17, 18, 19, 20, 21, 22, 23, 24, 25, 26, 27] [A_slices_Reverse_2])) (.ops A_slices_Reverse_3)))
def A_slices_Reverse : ACode := (.seq (.ops A_slices_Reverse_0) (.block 0 (.loop A_slices_Reverse_4)))
def R_slices_Reverse : List ARes := []
theorem C_slices_Reverse : compF Tryz.prog Tryz.f275 = some (A_slices_Reverse, R_slices_Reverse) := by kernel_rfl
theorem K_slices_Reverse {md : Bool} {args : List AV} {h : Hp} {Q : Res → Hp → Prop} (hl : LCode Tryz.prog md A_slices_Reverse (EndQ R_slices_Reverse Q) (env0 28 args) h) (hn : args.length ≤ 28 := by (simp; done)) : CallL Tryz.prog F_slices_Reverse args h Q :=
  CallL.of (md := md) Tryz.func275 C_slices_Reverse (by rw [Tryz.ntmps275]; exact hn) (by rw [Tryz.ntmps275]; exact hl)

-- slices.rotateLeft[byte]
abbrev F_slices_rotateLeft : Nat := 252
def A_slices_rotateLeft_0 : List AOper := [mv 4 0, mv 5 1, o_ 6 (.slcl 5 1 (.t 4) none (some (.t 5)) none), o_ 7 (.call 275 [(.t 6)])]
def A_slices_rotateLeft_1 : List AOper := [mv 8 0, mv 9 1, o_ 10 (.slcl 5 1 (.t 8) (some (.t 9)) none none), o_ 11 (.call 275 [(.t 10)])]
def A_slices_rotateLeft_2 : List AOper := [mv 12 0, o_ 13 (.call 275 [(.t 12)])]
def A_slices_rotateLeft : ACode := (.seq (.ops A_slices_rotateLeft_0) (.seq (.ops A_slices_rotateLeft_1) (.ops A_slices_rotateLeft_2)))
def R_slices_rotateLeft : List ARes := []
theorem C_slices_rotateLeft : compF Tryz.prog Tryz.f252 = some (A_slices_rotateLeft, R_slices_rotateLeft) := by kernel_rfl
theorem K_slices_rotateLeft {md : Bool} {args : List AV} {h : Hp} {Q : Res → Hp → Prop} (hl : LCode Tryz.prog md A_slices_rotateLeft (EndQ R_slices_rotateLeft Q) (env0 14 args) h) (hn : args.length ≤ 14 := by (simp; done)) : CallL Tryz.prog F_slices_rotateLeft args h Q :=
  CallL.of (md := md) Tryz.func252 C_slices_rotateLeft (by rw [Tryz.ntmps252]; exact hn) (by rw [Tryz.ntmps252]; exact hl)

-- slices.rotateRight[byte]
abbrev F_slices_rotateRight : Nat := 209
def A_slices_rotateRight_0 : List AOper := [mv 4 0, mv 5 0, o_ 6 (.lenl (.t 5)), mv 7 1, o_ 8 (.bini .sub (.t 6) (.t 7)), o_ 9 (.call 252 [(.t 4), (.t 8)])]
def A_slices_rotateRight : ACode := (.ops A_slices_rotateRight_0)
def R_slices_rotateRight : List ARes := []
theorem C_slices_rotateRight : compF Tryz.prog Tryz.f209 = some (A_slices_rotateRight, R_slices_rotateRight) := by kernel_rfl
theorem K_slices_rotateRight {md : Bool} {args : List AV} {h : Hp} {Q : Res → Hp → Prop} (hl : LCode Tryz.prog md A_slices_rotateRight (EndQ R_slices_rotateRight Q) (env0 10 args) h) (hn : args.length ≤ 10 := by (simp; done)) : CallL Tryz.prog F_slices_rotateRight args h Q :=
  CallL.of (md := md) Tryz.func209 C_slices_rotateRight (by rw [Tryz.ntmps209]; exact hn) (by rw [Tryz.ntmps209]; exact hl)

-- slices.Insert[[]byte,byte]
abbrev F_slices_Insert : Nat := 155
def A_slices_Insert_0 : List AOper := [mv 10 0, mv 11 1, o_ 12 (.slcl 5 1 (.t 10) (some (.t 11)) none none)]
def A_slices_Insert_1 : List AOper := [mv 13 2, o_ 14 (.lenl (.t 13)), mv 7 14]
def A_slices_Insert_2 : List AOper := [mv 15 7, o_ 16 (.bini .eql (.t 15) (i_ 0))]
def A_slices_Insert_3 : List AOper := [mv 17 0, mv 6 17]
def A_slices_Insert_4 : List AOper := [mv 18 0, o_ 19 (.lenl (.t 18)), mv 8 19]
def A_slices_Insert_5 : List AOper := [mv 20 1, mv 21 8, o_ 22 (.bini .eql (.t 20) (.t 21))]
def A_slices_Insert_6 : List AOper := [mv 23 0, mv 24 2, o_ 25 (.app 5 1 1 (.t 23) (.t 24)), mv 6 25]
def A_slices_Insert_7 : List AOper := [mv 26 8, mv 27 7, o_ 28 (.bini .add (.t 26) (.t 27)), mv 29 0, o_ 30 (.capk (.t 29)), o_ 31 (.bini .gtr (.t 28) (.t 30))]
def A_slices_Insert_8 : List AOper := [mv 32 0, mv 33 1, o_ 34 (.slcl 5 1 (.t 32) none (some (.t 33)) none), mv 35 8, mv 36 7, o_ 37 (.bini .add (.t 35) (.t 36)), mv 38 1, o_ 39 (.bini .sub (.t 37) (.t 38)), o_ 40 (.appz 5 1 1 [.int .u8 (0)] (.t 34) (.t 39)), mv 9 40]
def A_slices_Insert_9 : List AOper := [mv 41 9, mv 42 1, o_ 43 (.slcl 5 1 (.t 41) (some (.t 42)) none none), mv 44 2, o_ 45 (.cpy 5 1 (.t 43) (.t 44))]
def A_slices_Insert_10 : List AOper := [mv 46 9, mv 47 1, mv 48 7, o_ 49 (.bini .add (.t 47) (.t 48)), o_ 50 (.slcl 5 1 (.t 46) (some (.t 49)) none none), mv 51 0, mv 52 1, o_ 53 (.slcl 5 1 (.t 51) (some (.t 52)) none none), o_ 54 (.cpy 5 1 (.t 50) (.t 53))]
def A_slices_Insert_11 : List AOper := [mv 55 9, mv 6 55]
def A_slices_Insert_12 : List AOper := [mv 56 0, mv 57 8, mv 58 7, o_ 59 (.bini .add (.t 57) (.t 58)), o_ 60 (.slcl 5 1 (.t 56) none (some (.t 59)) none), mv 0 60]
def A_slices_Insert_13 : List AOper := [mv 61 2, mv 62 0, mv 63 1, mv 64 7, o_ 65 (.bini .add (.t 63) (.t 64)), o_ 66 (.slcl 5 1 (.t 62) (some (.t 65)) none none), o_ 67 (.ovl (.t 61) (.t 66)), o_ 68 (.not (.t 67))]
def A_slices_Insert_14 : List AOper := [mv 69 0, mv 70 1, mv 71 7, o_ 72 (.bini .add (.t 70) (.t 71)), o_ 73 (.slcl 5 1 (.t 69) (some (.t 72)) none none), mv 74 0, mv 75 1, o_ 76 (.slcl 5 1 (.t 74) (some (.t 75)) none none), o_ 77 (.cpy 5 1 (.t 73) (.t 76))]
def A_slices_Insert_15 : List AOper := [mv 78 0, mv 79 1, o_ 80 (.slcl 5 1 (.t 78) (some (.t 79)) none none), mv 81 2, o_ 82 (.cpy 5 1 (.t 80) (.t 81))]
def A_slices_Insert_16 : List AOper := [mv 83 0, mv 6 83]
def A_slices_Insert_17 : List AOper := [mv 84 0, mv 85 8, o_ 86 (.slcl 5 1 (.t 84) (some (.t 85)) none none), mv 87 2, o_ 88 (.cpy 5 1 (.t 86) (.t 87))]
def A_slices_Insert_18 : List AOper := [mv 89 0, mv 90 1, o_ 91 (.slcl 5 1 (.t 89) (some (.t 90)) none none), mv 92 7, o_ 93 (.call 209 [(.t 91), (.t 92)])]
def A_slices_Insert_19 : List AOper := [mv 94 0, mv 6 94]
def A_slices_Insert : ACode := (.seq (.ops [o_ 6 (.mov (.c (.nils)))]) (.seq (.ops A_slices_Insert_0) (.seq (.ops A_slices_Insert_1) (.seq (.seq (.ops A_slices_Insert_2) (.cond (.t 16) (.seq (.ops A_slices_Insert_3) .ret) .skip)) (.seq (.ops A_slices_Insert_4) (.seq (.seq (.ops A_slices_Insert_5) (.cond (.t 22) (.seq (.ops A_slices_Insert_6) .ret) .skip)) (.seq (.seq (.ops A_slices_Insert_7) (.cond (.t 31) (.seq (.ops A_slices_Insert_8) (.seq (.ops A_slices_Insert_9) (.seq (.alts [46, 47, 48, 49, 50, 51, 52, 53, 54] [A_slices_Insert_10]) (.seq (.ops A_slices_Insert_11) .ret)))) .skip)) (.seq (.ops A_slices_Insert_12) (.seq (.seq (.ops A_slices_Insert_13) (.cond (.t 68) (.seq (.alts [69, 70, 71, 72, 73, 74, 75, 76, 77] [A_slices_Insert_14]) (.seq (.ops A_slices_Insert_15) (.seq (.ops A_slices_Insert_16) .ret))) .skip)) (.seq (.ops A_slices_Insert_17) (.seq (.ops A_slices_Insert_18) (.seq (.ops A_slices_Insert_19) .ret))))))))))))
def R_slices_Insert : List ARes := [.tmp 6]
theorem C_slices_Insert : compF Tryz.prog Tryz.f155 = some (A_slices_Insert, R_slices_Insert) := by kernel_rfl
theorem K_slices_Insert {md : Bool} {args : List AV} {h : Hp} {Q : Res → Hp → Prop} (hl : LCode Tryz.prog md A_slices_Insert (EndQ R_slices_Insert Q) (env0 95 args) h) (hn : args.length ≤ 95 := by (simp; done)) : CallL Tryz.prog F_slices_Insert args h Q :=
  CallL.of (md := md) Tryz.func155 C_slices_Insert (by rw [Tryz.ntmps155]; exact hn) (by rw [Tryz.ntmps155]; exact hl)
end Go.Proofs.YtbnfeedomchfdaaGreatDoor

/-
  Contracts: bytes put into a row of bytes.
-/
namespace Go.Proofs.YtbnfeedomchfdaaGreatDoor
open Go.L

abbrev Tb : TypeId := 5
def bt (l : List UInt8) : List (List AV) := l.map fun b => [.int .u8 (b.toNat : Int)]
theorem bt_len (l : List UInt8) : (bt l).length = l.length := List.length_map ..
theorem bt_app (l m : List UInt8) : bt (l ++ m) = bt l ++ bt m := List.map_append ..
theorem bt_take (l : List UInt8) (n : Nat) : bt (l.take n) = (bt l).take n := List.map_take ..
theorem bt_drop (l : List UInt8) (n : Nat) : bt (l.drop n) = (bt l).drop n := List.map_drop ..
theorem bt_get {l : List UInt8} {k : Nat} {x : UInt8} (h : l[k]? = some x) : (bt l)[k]? = some [.int .u8 (x.toNat : Int)] := by rw [bt, List.getElem?_map, h]; rfl
theorem bt_one (l : List UInt8) : ∀ cs ∈ bt l, cs.length = 1 := fun cs h => by obtain ⟨s, _, rfl⟩ := List.mem_map.1 h; rfl
theorem bt_flat (l : List UInt8) : ∀ cs ∈ bt l, flat cs = true := fun cs h => by obtain ⟨s, _, rfl⟩ := List.mem_map.1 h; rfl
theorem bt_set (A B : List (List AV)) (l : List UInt8) (k : Nat) (x : UInt8) (hk : k < l.length) : (A ++ bt l ++ B).set (A.length + k) [.int .u8 (x.toNat : Int)] = A ++ bt (l.set k x) ++ B := by
  have h1 := bt_len l
  rw [List.append_assoc, List.set_append_right _ _ (by omega), show A.length + k - A.length = k by omega, List.set_append_left _ _ (by omega), ← List.append_assoc]
  congr 2
  rw [bt, bt, List.map_set]
theorem seg_get (A B : List (List AV)) (l : List UInt8) {k : Nat} {x : UInt8} (h : l[k]? = some x) : (A ++ bt l ++ B)[A.length + k]? = some [.int .u8 (x.toNat : Int)] := by
  have h1 := bt_len l
  have h2 := (List.getElem?_eq_some_iff.1 h).1
  rw [List.append_assoc, List.getElem?_append_right (by omega), show A.length + k - A.length = k by omega, List.getElem?_append_left (by omega)]
  exact bt_get h

/-- So many bytes at either end have changed places. -/
structure Sw (l : List UInt8) (t : Nat) (s : List UInt8) : Prop where
  len : s.length = l.length
  get : ∀ q, q < l.length → s[q]? = if q < t ∨ l.length - t ≤ q then l[l.length - 1 - q]? else l[q]?
theorem Sw.start (l : List UInt8) : Sw l 0 l := ⟨rfl, fun q hq => by rw [if_neg (by omega)]⟩
theorem Sw.fin {l s : List UInt8} {t : Nat} (h : Sw l t s) (ht : l.length ≤ 2 * t + 1) : s = l.reverse := by
  apply List.ext_getElem?
  intro q
  by_cases hq : q < l.length
  · rw [h.get q hq, List.getElem?_reverse hq]
    by_cases e : q < t ∨ l.length - t ≤ q
    · rw [if_pos e]
    · rw [if_neg e, show l.length - 1 - q = q by omega]
  · rw [List.getElem?_eq_none (by have := h.len; omega), List.getElem?_eq_none (by rw [List.length_reverse]; omega)]
theorem Sw.step {l s : List UInt8} {t : Nat} {x y : UInt8} (h : Sw l t s) (ht : 2 * t + 1 < l.length) (hx : s[l.length - 1 - t]? = some x) (hy : s[t]? = some y) : Sw l (t + 1) ((s.set t x).set (l.length - 1 - t) y) := by
  have hl := h.len
  refine ⟨by simp [hl], fun q hq => ?_⟩
  rw [h.get _ (by omega), if_neg (by omega)] at hx hy
  rw [List.getElem?_set, List.getElem?_set]
  by_cases e1 : l.length - 1 - t = q
  · rw [if_pos e1, if_pos (by rw [List.length_set]; omega), if_pos (by omega), ← e1, show l.length - 1 - (l.length - 1 - t) = t by omega, hy]
  · rw [if_neg e1]
    by_cases e2 : t = q
    · rw [if_pos e2, if_pos (by omega), if_pos (by omega), ← e2, hx]
    · rw [if_neg e2, h.get q hq]
      by_cases e3 : q < t ∨ l.length - t ≤ q
      · rw [if_pos e3, if_pos (by omega)]
      · rw [if_neg e3, if_neg (by omega)]

theorem Reverse_L (A B : List (List AV)) (l : List UInt8) (i : Nat) (c : Option Nat) (h : Hp) (hi : h i = some (.row Tb (A ++ bt l ++ B))) (hl : l.length ≤ 1000000000000) :
    CallL Tryz.prog F_slices_Reverse [.slc i A.length l.length c] h fun r h' => r = .ret (.tup []) ∧ h' = h.set i (.row Tb (A ++ bt l.reverse ++ B)) := by
  refine K_slices_Reverse (md := false) ?_
  refine s_64 (by omega) (by omega) ?_
  refine s_loop l.length (fun t (s : List UInt8) => t ≤ l.length ∧ Sw l t s) (fun t _ => [(0, .slc i A.length l.length c), (2, .int .i64 t), (3, .int .i64 ((l.length : Int) - 1 - t))]) (fun _ s => h.set i (.row Tb (A ++ bt s ++ B))) l
    ⟨Nat.zero_le _, Sw.start l⟩ (Hp.set_self hi).symm rfl ⟨rfl, rfl, by show AV.int _ _ = AV.int _ _; congr 1; omega, trivial⟩ (fun k s hI => hI.1) ?_
  intro t s n0 g0 ht ⟨_, hs⟩
  have hsl := hs.len
  refine s_lt (fun h1 => ?_) (fun h1 => ?_)
  · obtain ⟨x, hx⟩ := get_lt (l := s) (k := l.length - 1 - t) (by omega)
    obtain ⟨y, hy⟩ := get_lt (l := s) (k := t) (by omega)
    have gx := seg_get A B s hx
    have gy := seg_get A B s hy
    have gy2 : (A ++ bt s ++ B).set (A.length + t) [.int .u8 (x.toNat : Int)] = A ++ bt (s.set t x) ++ B := bt_set A B s t x (by omega)
    obtain ⟨x2, hx2⟩ := get_lt (l := s.set t x) (k := l.length - 1 - t) (by rw [List.length_set]; omega)
    have gx2 := seg_get A B (s.set t x) hx2
    have gs2 : (A ++ bt (s.set t x) ++ B).set (A.length + (l.length - 1 - t)) [.int .u8 (y.toNat : Int)] = A ++ bt ((s.set t x).set (l.length - 1 - t) y) ++ B := bt_set A B _ _ y (by rw [List.length_set]; omega)
    have hH : (((h.set i (.row Tb (A ++ bt s ++ B))).set i (.row Tb ((A ++ bt s ++ B).set (A.length + t) [.int .u8 (x.toNat : Int)]))).set i (.row Tb ((A ++ bt (s.set t x) ++ B).set (A.length + (l.length - 1 - t)) [.int .u8 (y.toNat : Int)]))) = h.set i (.row Tb (A ++ bt ((s.set t x).set (l.length - 1 - t) y) ++ B)) := by
      rw [Hp.set_set, Hp.set_set, gs2]
    have h3 : ((h.set i (.row Tb (A ++ bt s ++ B))).set i (.row Tb ((A ++ bt s ++ B).set (A.length + t) [.int .u8 (x.toNat : Int)]))) i = some (.row Tb (A ++ bt (s.set t x) ++ B)) := by rw [Hp.set_same, gy2]
    refine ⟨l.length - 1 - t, by omega, by omega, ⟨_, Hp.set_same _ _ _⟩, ?_⟩
    refine ⟨_, _, _, _, Hp.set_same _ _ _, gx, rfl, ?_⟩
    refine ⟨t, rfl, by omega, ⟨_, Hp.set_same _ _ _⟩, ?_⟩
    refine ⟨_, _, _, _, Hp.set_same _ _ _, gy, rfl, ?_⟩
    refine ⟨t, rfl, by omega, ⟨_, Hp.set_same _ _ _⟩, ?_⟩
    refine ⟨_, _, _, Hp.set_same _ _ _, gy, rfl, rfl, rfl, Nat.le_refl _, ?_⟩
    refine ⟨l.length - 1 - t, by omega, by omega, ⟨_, h3⟩, ?_⟩
    refine ⟨_, _, _, h3, gx2, rfl, rfl, rfl, Nat.le_refl _, ?_⟩
    refine s_nat (t + 1) (by omega) (by omega) ?_
    refine s_64 (by omega) (by omega) ?_
    exact ⟨(s.set t x).set (l.length - 1 - t) y, by omega, ⟨by omega, hs.step (by omega) hx hy⟩, hH, rfl, rfl, rfl, by show AV.int _ _ = AV.int _ _; congr 1; omega, trivial⟩
  · refine ⟨rfl, rfl, ?_⟩
    rw [hs.fin (by omega)]

theorem rotLeft_L (A B : List (List AV)) (l : List UInt8) (r : Nat) (i : Nat) (c : Nat) (h : Hp) (hi : h i = some (.row Tb (A ++ bt l ++ B))) (hr : r ≤ l.length) (hc : l.length ≤ c) (hl : l.length ≤ 1000000000000) :
    CallL Tryz.prog F_slices_rotateLeft [.slc i A.length l.length (some c), .int .i64 r] h fun q h' => q = .ret (.tup []) ∧ h' = h.set i (.row Tb (A ++ bt (l.drop r ++ l.take r) ++ B)) := by
  have hl1 : (l.take r).length = r := by rw [List.length_take]; omega
  have hl2 : (l.drop r).length = l.length - r := List.length_drop ..
  refine K_slices_rotateLeft (md := false) ?_
  refine ⟨⟨_, hi⟩, r, rfl, Nat.zero_le _, (by show r ≤ c; omega), ?_⟩
  have r1 : h i = some (.row Tb (A ++ bt (l.take r) ++ (bt (l.drop r) ++ B))) := by
    have e0 : bt l = bt (l.take r) ++ bt (l.drop r) := by rw [← bt_app, List.take_append_drop]
    rw [hi, e0]; simp only [List.append_assoc]
  have k1 := Reverse_L A (bt (l.drop r) ++ B) (l.take r) i (some (c - 0)) h r1 (by omega)
  rw [hl1] at k1
  refine (show CallL Tryz.prog F_slices_Reverse [.slc i (A.length + 0) (r - 0) (some (c - 0))] h _ from k1).mono ?_
  rintro q h1 ⟨rfl, rfl⟩
  refine ⟨⟨_, Hp.set_same _ _ _⟩, r, rfl, hr, (by show l.length ≤ c; omega), ?_⟩
  have r2 : (h.set i (.row Tb (A ++ bt (l.take r).reverse ++ (bt (l.drop r) ++ B)))) i = some (.row Tb ((A ++ bt (l.take r).reverse) ++ bt (l.drop r) ++ B)) := by rw [Hp.set_same]; simp only [List.append_assoc]
  have k2 := Reverse_L (A ++ bt (l.take r).reverse) B (l.drop r) i (some (c - r)) _ r2 (by omega)
  rw [show (A ++ bt (l.take r).reverse).length = A.length + r by rw [List.length_append, bt_len, List.length_reverse, hl1], hl2] at k2
  refine k2.mono ?_
  rintro q h2 ⟨rfl, rfl⟩
  have r3 : ((h.set i (.row Tb (A ++ bt (l.take r).reverse ++ (bt (l.drop r) ++ B)))).set i (.row Tb ((A ++ bt (l.take r).reverse) ++ bt (l.drop r).reverse ++ B))) i = some (.row Tb (A ++ bt ((l.take r).reverse ++ (l.drop r).reverse) ++ B)) := by
    rw [Hp.set_same, bt_app]; simp only [List.append_assoc]
  have k3 := Reverse_L A B ((l.take r).reverse ++ (l.drop r).reverse) i (some c) _ r3 (by simp; omega)
  rw [show ((l.take r).reverse ++ (l.drop r).reverse).length = l.length by simp; omega] at k3
  refine k3.mono ?_
  rintro q h3 ⟨rfl, rfl⟩
  refine ⟨rfl, rfl, ?_⟩
  rw [Hp.set_set, Hp.set_set, List.reverse_append, List.reverse_reverse, List.reverse_reverse]

theorem rotRight_L (A B : List (List AV)) (l v : List UInt8) (i : Nat) (c n : Nat) (h : Hp) (hi : h i = some (.row Tb (A ++ bt (l ++ v) ++ B))) (hn : n = l.length + v.length) (hc : n ≤ c) (hl : n ≤ 1000000000000) :
    CallL Tryz.prog F_slices_rotateRight [.slc i A.length n (some c), .int .i64 v.length] h fun q h' => q = .ret (.tup []) ∧ h' = h.set i (.row Tb (A ++ bt (v ++ l) ++ B)) := by
  have hlen : (l ++ v).length = n := by rw [List.length_append, hn]
  refine K_slices_rotateRight (md := false) ?_
  refine s_nat l.length (by omega) (by omega) ?_
  have k := rotLeft_L A B (l ++ v) l.length i c h hi (by omega) (by omega) (by omega)
  rw [hlen] at k
  refine k.mono ?_
  rintro q h' ⟨rfl, rfl⟩
  refine ⟨rfl, rfl, ?_⟩
  rw [List.drop_left, List.take_left]
end Go.Proofs.YtbnfeedomchfdaaGreatDoor

/-
  Contracts: slices.Insert at bytes, whatever the capacity.
-/
namespace Go.Proofs.YtbnfeedomchfdaaGreatDoor
open Go.L

def insL (bs vs : List UInt8) (p : Nat) : List UInt8 := bs.take p ++ vs ++ bs.drop p
theorem insL_len (bs vs : List UInt8) (p : Nat) : (insL bs vs p).length = bs.length + vs.length := by
  simp only [insL, List.length_append, List.length_take, List.length_drop]; omega

theorem dropA {α : Type} (l m : List α) (k : Nat) : (l ++ m).drop (l.length + k) = m.drop k := by
  rw [List.drop_append, List.drop_of_length_le (by omega), List.nil_append, Nat.add_sub_cancel_left]
theorem slcEq {i a b : Nat} {c : Option Nat} (h : a = b) : Res.ret (.slc i 0 a c) = Res.ret (.slc i 0 b c) := by rw [h]

theorem appGrow {h : Hp} {next : AV → Hp → Prop} {i k n c N : Nat} {es xs R : List (List AV)} (hi : h i = some (.row Tb es)) (hk : k + n ≤ es.length) (hx1 : ∀ cs ∈ xs, cs.length = 1) (hxf : ∀ cs ∈ xs, flat cs = true) (hc : c < n + xs.length) (hb : n + xs.length ≤ capMax)
    (hN : n + xs.length = N) (hR : (es.drop k).take n ++ xs = R) (g : ∀ j, Fresh h j → next (.slc j 0 N none) (h.set j (.row Tb R))) : LAppE false Tb 1 1 (.slc i k n (some c)) xs h next := by
  subst hN; subst hR
  exact ⟨hx1, es, hi, hk, hxf, .inr ⟨hc, by omega, hb, g⟩⟩

/-- How a call of Insert ends, at a capacity. -/
def InsE (i c : Nat) (h : Hp) (es' : List (List AV)) (r : Res) (h' : Hp) : Prop :=
  (∃ sp, r = .ret (.slc i 0 es'.length (some c)) ∧ es'.length ≤ c ∧ h' i = some (.row Tb (es' ++ sp)) ∧ GrX i h h') ∨
  (∃ j, r = .ret (.slc j 0 es'.length none) ∧ h.u j = false ∧ h' j = some (.row Tb es') ∧ GrX i h h')

/-- The row behind the bytes. -/
theorem row_pre {bs : List UInt8} {X : List (List AV)} {p n : Nat} (hp : p ≤ n) (hn : n = bs.length) (m : Nat) (hm : n - p ≤ m) : ((bt bs ++ X).drop p).take (n - p) = bt (bs.drop p) := by
  subst hn
  have h1 := bt_len bs
  rw [List.drop_append_of_le_length (by omega), List.take_append_of_le_length (by rw [List.length_drop]; omega), bt_drop, List.take_of_length_le (by rw [List.length_drop]; omega)]

theorem ins_row {bs vs : List UInt8} {X : List (List AV)} {p n m : Nat} (hp : p ≤ n) (hn : n = bs.length) (hm : m = vs.length) (hX : m ≤ X.length) :
    let r1 := (bt bs ++ X).take (p + m) ++ bt (bs.drop p) ++ (bt bs ++ X).drop (p + m + (n - p))
    r1.take p ++ bt vs ++ r1.drop (p + m) = bt (insL bs vs p) ++ X.drop m := by
  intro r1
  subst hn; subst hm
  have h1 := bt_len bs
  have hl1 : ((bt bs ++ X).take (p + vs.length)).length = p + vs.length := by rw [List.length_take, List.length_append, h1]; omega
  have e1 : r1.take p = bt (bs.take p) := by
    show List.take p (_ ++ _ ++ _) = _
    rw [List.append_assoc, List.take_append_of_le_length (by omega), List.take_take, Nat.min_eq_left (by omega), List.take_append_of_le_length (by omega), bt_take]
  have e2 : r1.drop (p + vs.length) = bt (bs.drop p) ++ X.drop vs.length := by
    show List.drop (p + vs.length) (_ ++ _ ++ _) = _
    rw [List.append_assoc, List.drop_left' hl1]
    congr 1
    rw [show p + vs.length + (bs.length - p) = (bt bs).length + vs.length by rw [h1]; omega, dropA]
  rw [e1, e2, insL, bt_app, bt_app]; simp only [List.append_assoc]

set_option maxHeartbeats 4000000 in
theorem Insert_c (bs vs : List UInt8) (p i j c : Nat) (cv : Option Nat) (X rv : List (List AV)) (h : Hp) (hi : h i = some (.row Tb (bt bs ++ X))) (hX : X.length = c - bs.length) (hX1 : ∀ cs ∈ X, cs.length = 1) (hc : bs.length ≤ c) (hj : h j = some (.row Tb (bt vs ++ rv))) (hij : i ≠ j)
    (hp : p ≤ bs.length) (hl : bs.length + vs.length ≤ 1000000000000) :
    CallL Tryz.prog F_slices_Insert [.slc i 0 bs.length (some c), .int .i64 p, .slc j 0 vs.length cv] h (InsE i c h (bt (insL bs vs p))) := by
  have lb := bt_len bs
  have lv := bt_len vs
  have li := insL_len bs vs p
  have lbi : (bt (insL bs vs p)).length = bs.length + vs.length := by rw [bt_len, li]
  have srcV : ∀ (H : Hp), H j = some (.row Tb (bt vs ++ rv)) → srcEls H (.slc j 0 vs.length cv) (bt vs) := fun H hH => by
    refine ⟨Tb, bt vs ++ rv, hH, by rw [List.length_append]; omega, ?_⟩
    rw [List.drop_zero, ← lv, List.take_left]
  refine K_slices_Insert (md := false) ?_
  refine ⟨⟨_, hi⟩, p, rfl, hp, hc, ?_⟩
  refine s_eq (fun h1 => ?_) (fun h1 => ?_)
  · obtain rfl : vs = [] := List.eq_nil_of_length_eq_zero (by omega)
    have e : insL bs [] p = bs := by simp [insL]
    rw [e]
    exact ⟨rfl, .inl ⟨X, slcEq lb.symm, by rw [lb]; exact hc, hi, GrX.refl i h⟩⟩
  have hm0 : 0 < vs.length := by omega
  refine s_eq (fun h2 => ?_) (fun h2 => ?_)
  · have hpn : p = bs.length := by omega
    have e : insL bs vs p = bs ++ vs := by rw [insL, hpn, List.take_length, List.drop_length, List.append_nil]
    rw [e] at lbi ⊢
    refine ⟨bt vs, srcV h hj, bt_one vs, ?_⟩
    refine ⟨_, hi, by rw [List.length_append]; omega, bt_flat vs, ?_⟩
    by_cases hroom : bs.length + vs.length ≤ c
    · refine .inl ⟨by omega, by rw [List.length_append]; omega, ?_⟩
      refine ⟨rfl, .inl ⟨X.drop vs.length, slcEq (by rw [lbi, lv]), by omega, ?_, (GrX.refl i h).set _⟩⟩
      rw [Hp.set_same, bt_app, lv, Nat.zero_add, ← lb, List.take_left, dropA]
    · refine .inr ⟨by omega, by unfold capMax; omega, by unfold capMax; omega, fun j2 hj2 => ?_⟩
      refine ⟨rfl, .inr ⟨j2, slcEq (by rw [lbi, lv]), hj2.1, ?_, (GrX.refl i h).new hj2.1 _⟩⟩
      rw [Hp.set_same, List.drop_zero, ← lb, List.take_left, bt_app]
  have hpn : p < bs.length := by omega
  refine s_nat (bs.length + vs.length) (by omega) (by omega) ?_
  refine s_lt (fun h3 => ?_) (fun h3 => ?_)
  · refine ⟨⟨_, hi⟩, p, rfl, Nat.zero_le _, (by show p ≤ c; omega), ?_⟩
    refine s_nat (bs.length + vs.length) (by omega) (by omega) ?_
    refine s_nat (bs.length + vs.length - p) (by omega) (by omega) ?_
    have lt : (bt (bs.take p)).length = p := by rw [bt_len, List.length_take]; omega
    have row0 : ((bt bs ++ X).drop (0 + 0)).take (p - 0) = bt (bs.take p) := by rw [Nat.add_zero, List.drop_zero, Nat.sub_zero, List.take_append_of_le_length (by omega), bt_take]
    obtain ⟨Z, hZ⟩ : ∃ Z, List.replicate (bs.length + vs.length - p) [AV.int .u8 0] = Z := ⟨_, rfl⟩
    have lz : Z.length = bs.length + vs.length - p := by rw [← hZ]; exact List.length_replicate
    have hz1 : ∀ cs ∈ Z, cs.length = 1 ∧ flat cs = true := fun cs hcs => by rw [← hZ] at hcs; rw [List.eq_of_mem_replicate hcs]; exact ⟨rfl, rfl⟩
    obtain ⟨R0, hR1⟩ : ∃ R0, R0 = bt (bs.take p) ++ Z := ⟨_, rfl⟩
    have lR : R0.length = bs.length + vs.length := by rw [hR1, List.length_append, lt, lz]; omega
    refine ⟨bs.length + vs.length - p, rfl, by unfold capMax; omega, by unfold capMax; omega, ?_⟩
    refine (show LAppE false Tb 1 1 (.slc i (0 + 0) (p - 0) (some (c - 0))) (List.replicate (bs.length + vs.length - p) [AV.int .u8 0]) h _ from
      appGrow (N := bs.length + vs.length) (R := R0) hi (by rw [List.length_append]; omega) (by rw [hZ]; exact fun cs h => (hz1 cs h).1) (by rw [hZ]; exact fun cs h => (hz1 cs h).2) (by rw [hZ, lz]; omega) (by rw [hZ, lz]; unfold capMax; omega) (by rw [hZ, lz]; omega) (by rw [hZ, row0, hR1]) fun j2 hj2 => ?_)
    have hj2i : i ≠ j2 := ne_of_u (Hp.used hi) hj2.1
    have hj2j : j ≠ j2 := ne_of_u (Hp.used hj) hj2.1
    refine ⟨⟨_, Hp.set_same _ _ _⟩, p, rfl, (by show p ≤ bs.length + vs.length; omega), Nat.le_refl _, ?_⟩
    refine ⟨_, bt vs, Hp.set_same _ _ _, .all (srcV _ ((Hp.set_ne hj2j).trans hj)) (by show _ ≤ bs.length + vs.length - p; omega), (by show _ ≤ bs.length + vs.length - p; omega), bt_one vs, bt_flat vs, (by show 0 + p ≤ _; omega), .inr rfl, ?_⟩
    refine s_nat (p + vs.length) (by omega) (by omega) ?_
    refine ⟨⟨_, Hp.set_same _ _ _⟩, p + vs.length, rfl, (by show p + vs.length ≤ bs.length + vs.length; omega), Nat.le_refl _, ?_⟩
    have hi3 : ((h.set j2 (.row Tb R0)).set j2 (.row Tb (R0.take (0 + p) ++ bt vs ++ R0.drop (0 + p + (bt vs).length)))) i = some (.row Tb (bt bs ++ X)) := (Hp.set_ne hj2i).trans ((Hp.set_ne hj2i).trans hi)
    refine ⟨⟨_, hi3⟩, p, rfl, hp, hc, ?_⟩
    have srcS : srcPre ((h.set j2 (.row Tb R0)).set j2 (.row Tb (R0.take (0 + p) ++ bt vs ++ R0.drop (0 + p + (bt vs).length)))) (.slc i (0 + p) (bs.length - p) ((some c).map (· - p))) (bs.length + vs.length - (p + vs.length)) (bt (bs.drop p)) := by
      have e : bs.length + vs.length - (p + vs.length) = bs.length - p := by omega
      rw [e]
      refine .all ⟨Tb, _, hi3, by rw [List.length_append]; omega, ?_⟩ (by rw [bt_len, List.length_drop]; omega)
      rw [Nat.zero_add, row_pre hp rfl (bs.length - p) (Nat.le_refl _)]
    have ld : (bt (bs.drop p)).length = bs.length - p := by rw [bt_len, List.length_drop]
    have a1 : R0.take (0 + p) = bt (bs.take p) := by rw [hR1, Nat.zero_add]; exact List.take_left' lt
    have a2 : R0.drop (0 + p + (bt vs).length) = Z.drop vs.length := by
      rw [hR1, show 0 + p + (bt vs).length = (bt (bs.take p)).length + vs.length by rw [lt, lv]; omega, dropA]
    have lh : (bt (bs.take p) ++ bt vs).length = 0 + (p + vs.length) := by rw [List.length_append, lt, lv]; omega
    have lZ : (Z.drop vs.length).length = bs.length - p := by rw [List.length_drop, lz]; omega
    have rowN : (R0.take (0 + p) ++ bt vs ++ R0.drop (0 + p + (bt vs).length)).take (0 + (p + vs.length)) ++ bt (bs.drop p) ++ (R0.take (0 + p) ++ bt vs ++ R0.drop (0 + p + (bt vs).length)).drop (0 + (p + vs.length) + (bt (bs.drop p)).length) = bt (insL bs vs p) := by
      rw [a1, a2, List.take_left' lh, show 0 + (p + vs.length) + (bt (bs.drop p)).length = (bt (bs.take p) ++ bt vs).length + (bs.length - p) by rw [lh, ld], dropA, show (Z.drop vs.length).drop (bs.length - p) = [] from List.drop_of_length_le (by omega), List.append_nil, insL, bt_app, bt_app]
    have lN : (R0.take (0 + p) ++ bt vs ++ R0.drop (0 + p + (bt vs).length)).length = bs.length + vs.length := by
      rw [a1, a2, List.length_append, lh, lZ]; omega
    refine ⟨_, bt (bs.drop p), Hp.set_same _ _ _, srcS, (by show _ ≤ bs.length + vs.length - (p + vs.length); omega), bt_one _, bt_flat _, (by show 0 + (p + vs.length) ≤ List.length _; rw [lN]; omega), .inr rfl, ?_⟩
    refine ⟨rfl, .inr ⟨j2, slcEq lbi.symm, hj2.1, ?_, ?_⟩⟩
    · rw [Hp.set_same, rowN]
    · exact (((GrX.refl i h).new hj2.1 _).old hj2.1 _).old hj2.1 _
  · refine s_nat (bs.length + vs.length) (by omega) (by omega) ?_
    refine ⟨⟨_, hi⟩, bs.length + vs.length, rfl, Nat.zero_le _, (by show bs.length + vs.length ≤ c; omega), ?_⟩
    refine s_nat (p + vs.length) (by omega) (by omega) ?_
    refine ⟨⟨_, hi⟩, p + vs.length, rfl, (by show p + vs.length ≤ bs.length + vs.length; omega), (by show bs.length + vs.length ≤ c; omega), ?_⟩
    have rowL : (bt bs ++ X).length = c := by rw [List.length_append]; omega
    obtain ⟨v0, hv0⟩ := get_lt (l := vs) (k := 0) hm0
    have hvs0 : (bt vs ++ rv)[0]? = some [.int .u8 (v0.toNat : Int)] := by rw [List.getElem?_append_left (by omega)]; exact bt_get hv0
    obtain ⟨x0, hx0⟩ := get_lt (l := bt bs ++ X) (k := p + vs.length) (by omega)
    have hx1 : x0.length ≠ 0 := by
      rcases List.mem_append.1 (List.mem_of_getElem? hx0) with hh | hh
      · rw [bt_one bs _ hh]; decide
      · rw [hX1 _ hh]; decide
    have hji : Nat.beq j i = false := by
      cases hb : Nat.beq j i with
      | false => rfl
      | true => exact absurd (Nat.eq_of_beq_eq_true hb).symm hij
    have zK : 0 + 0 + (p + vs.length) = p + vs.length := by omega
    have zP : 0 + 0 + p = p := by omega
    have zN : 0 + 0 + bs.length = bs.length := by omega
    refine ⟨hji, hm0, (by show 0 < bs.length + vs.length - 0 - (p + vs.length); omega), ⟨_, _, _, hj, by rw [List.length_append]; omega, hvs0, Nat.one_ne_zero⟩,
      ⟨_, _, _, hi, (by show 0 + 0 + (p + vs.length) + (bs.length + vs.length - 0 - (p + vs.length)) ≤ (bt bs ++ X).length; omega), (by show (bt bs ++ X)[0 + 0 + (p + vs.length)]? = some x0; rw [zK]; exact hx0), hx1⟩, fun b => ?_⟩
    have hjH : ∀ b, (h.set i b) j = some (.row Tb (bt vs ++ rv)) := fun b => (Hp.set_ne hij.symm).trans hj
    cases b with
    | false =>
      refine s_nat (p + vs.length) (by omega) (by omega) ?_
      refine ⟨⟨_, hi⟩, p + vs.length, rfl, (by show p + vs.length ≤ bs.length + vs.length - 0; omega), (by show bs.length + vs.length - 0 ≤ c - 0; omega), ?_⟩
      refine ⟨⟨_, hi⟩, p, rfl, (by show p ≤ bs.length + vs.length - 0; omega), (by show bs.length + vs.length - 0 ≤ c - 0; omega), ?_⟩
      have src1 : srcPre h (.slc i (0 + 0 + p) (bs.length + vs.length - 0 - p) (some (c - 0 - p))) (bs.length + vs.length - 0 - (p + vs.length)) (bt (bs.drop p)) := by
        refine ⟨_, ⟨Tb, _, hi, by omega, rfl⟩, ?_, .inr fun s hs => by cases hs⟩
        rw [List.take_take, show min (bs.length + vs.length - 0 - (p + vs.length)) (bs.length + vs.length - 0 - p) = bs.length - p by omega, zP, row_pre hp rfl (bs.length - p) (Nat.le_refl _)]
      have ld : (bt (bs.drop p)).length = bs.length - p := by rw [bt_len, List.length_drop]
      have lr1 : ((bt bs ++ X).take (0 + 0 + (p + vs.length)) ++ bt (bs.drop p) ++ (bt bs ++ X).drop (0 + 0 + (p + vs.length) + (bt (bs.drop p)).length)).length = c := by
        simp only [List.length_append, List.length_take, List.length_drop, ld] at rowL ⊢; omega
      have rowI : ((bt bs ++ X).take (0 + 0 + (p + vs.length)) ++ bt (bs.drop p) ++ (bt bs ++ X).drop (0 + 0 + (p + vs.length) + (bt (bs.drop p)).length)).take (0 + 0 + p) ++ bt vs ++ ((bt bs ++ X).take (0 + 0 + (p + vs.length)) ++ bt (bs.drop p) ++ (bt bs ++ X).drop (0 + 0 + (p + vs.length) + (bt (bs.drop p)).length)).drop (0 + 0 + p + (bt vs).length) = bt (insL bs vs p) ++ X.drop vs.length := by
        have := ins_row (X := X) hp rfl rfl (show vs.length ≤ X.length by omega)
        simp only at this
        rw [zK, zP, ld, lv]; exact this
      refine ⟨_, bt (bs.drop p), hi, src1, (by show _ ≤ bs.length + vs.length - 0 - (p + vs.length); omega), bt_one _, bt_flat _, (by show 0 + 0 + (p + vs.length) ≤ _; omega), .inl (by show 0 + 0 + (p + vs.length) + (bt (bs.drop p)).length ≤ _; omega), ?_⟩
      refine ⟨⟨_, Hp.set_same _ _ _⟩, p, rfl, (by show p ≤ bs.length + vs.length - 0; omega), (by show bs.length + vs.length - 0 ≤ c - 0; omega), ?_⟩
      refine ⟨_, bt vs, Hp.set_same _ _ _, .all (srcV _ (hjH _)) (by show _ ≤ bs.length + vs.length - 0 - p; omega), (by show _ ≤ bs.length + vs.length - 0 - p; omega), bt_one vs, bt_flat vs, (by show 0 + 0 + p ≤ List.length _; rw [lr1]; omega), .inl (by show 0 + 0 + p + (bt vs).length ≤ List.length _; rw [lr1, lv]; omega), ?_⟩
      refine ⟨rfl, .inl ⟨X.drop vs.length, slcEq lbi.symm, by omega, ?_, ((GrX.refl i h).set _).set _⟩⟩
      rw [Hp.set_same, rowI]
    | true =>
      refine ⟨⟨_, hi⟩, bs.length, rfl, (by show bs.length ≤ bs.length + vs.length - 0; omega), (by show bs.length + vs.length - 0 ≤ c - 0; omega), ?_⟩
      refine ⟨_, bt vs, hi, .all (srcV h hj) (by show _ ≤ bs.length + vs.length - 0 - bs.length; omega), (by show _ ≤ bs.length + vs.length - 0 - bs.length; omega), bt_one vs, bt_flat vs, (by show 0 + 0 + bs.length ≤ _; omega), .inl (by show 0 + 0 + bs.length + (bt vs).length ≤ _; omega), ?_⟩
      refine ⟨⟨_, Hp.set_same _ _ _⟩, p, rfl, (by show p ≤ bs.length + vs.length - 0; omega), (by show bs.length + vs.length - 0 ≤ c - 0; omega), ?_⟩
      have lt : (bt (bs.take p)).length = p := by rw [bt_len, List.length_take]; omega
      have hrow : (h.set i (.row Tb ((bt bs ++ X).take (0 + 0 + bs.length) ++ bt vs ++ (bt bs ++ X).drop (0 + 0 + bs.length + (bt vs).length)))) i = some (.row Tb (bt (bs.take p) ++ bt (bs.drop p ++ vs) ++ X.drop vs.length)) := by
        rw [Hp.set_same]
        congr 2
        have e1 : (bt bs ++ X).take (0 + 0 + bs.length) = bt bs := by rw [zN]; exact List.take_left' lb
        have e2 : (bt bs ++ X).drop (0 + 0 + bs.length + (bt vs).length) = X.drop vs.length := by rw [zN, lv, ← lb, dropA]
        have e3 : bt bs = bt (bs.take p) ++ bt (bs.drop p) := by rw [← bt_app, List.take_append_drop]
        rw [e1, e2, bt_app]
        conv => lhs; rw [e3]
        simp only [List.append_assoc]
      have k := rotRight_L (bt (bs.take p)) (X.drop vs.length) (bs.drop p) vs i (c - p) (bs.length + vs.length - p) _ hrow (by rw [List.length_drop]; omega) (by omega) (by omega)
      rw [lt] at k
      refine (show CallL Tryz.prog F_slices_rotateRight [.slc i (0 + 0 + p) (bs.length + vs.length - 0 - p) (some (c - 0 - p)), .int .i64 vs.length] _ _ from by rw [zP]; exact k).mono ?_
      rintro q h' ⟨rfl, rfl⟩
      refine ⟨rfl, .inl ⟨X.drop vs.length, slcEq lbi.symm, by omega, ?_, ((GrX.refl i h).set _).set _⟩⟩
      rw [Hp.set_same, insL, bt_app, bt_app, bt_app]; simp only [List.append_assoc]

theorem Insert_L (bs vs : List UInt8) (p i j : Nat) (cv : Option Nat) (X rv : List (List AV)) (h : Hp) (hi : h i = some (.row Tb (bt bs ++ X))) (hj : h j = some (.row Tb (bt vs ++ rv))) (hij : i ≠ j) (hp : p ≤ bs.length) (hl : bs.length + vs.length ≤ 1000000000000) :
    CallL Tryz.prog F_slices_Insert [.slc i 0 bs.length none, .int .i64 p, .slc j 0 vs.length cv] h (InsQ Tb i h (bt (insL bs vs p))) := by
  have lb := bt_len bs
  refine CallL.openCap (by kernel_rfl) hi (by rw [List.length_append]; omega) fun c hc => ?_
  have e : (bt bs ++ X).take bs.length = bt bs := List.take_left' lb
  rw [e]
  have hi2 : (h.set i (.row Tb (bt bs ++ List.replicate (c - bs.length) [AV.any]))) i = some (.row Tb (bt bs ++ List.replicate (c - bs.length) [AV.any])) := Hp.set_same _ _ _
  have hj2 : (h.set i (.row Tb (bt bs ++ List.replicate (c - bs.length) [AV.any]))) j = some (.row Tb (bt vs ++ rv)) := (Hp.set_ne hij.symm).trans hj
  refine (Insert_c bs vs p i j c cv _ rv _ hi2 (by rw [List.length_replicate]) (fun cs hcs => by rw [List.eq_of_mem_replicate hcs]; rfl) hc hj2 hij hp hl).mono ?_
  have g0 : GrX i h (h.set i (.row Tb (bt bs ++ List.replicate (c - bs.length) [AV.any]))) := (GrX.refl i h).set _
  rintro r h' (⟨sp, e1, e2, e3, e4⟩ | ⟨j2, e1, e2, e3, e4⟩)
  · exact .inl ⟨sp, e1, e2, e3, g0.trans e4⟩
  · refine .inr ⟨j2, e1, ?_, e3, g0.trans e4⟩
    rw [Hp.set_u] at e2
    split at e2
    · cases e2
    · exact e2
end Go.Proofs.YtbnfeedomchfdaaGreatDoor

/-
  A computed run's call of slices.Insert at bytes, by its contract.
-/
namespace Go.L

/-- The one new block of a call's outcome under a number of one's own; block d is lost; all else that is new is forgotten. -/
theorem CallL.namedX {P : Program} {f : FuncId} {args : List AV} {h : Hp} {T n d : Nat} {es : List (List AV)} {i0 : Nat} (h0 : h.u i0 = false) (hes : idUss h.u es = true) (hcl : ∀ j b, h j = some b → blkU h.u b = true)
    (k : CallL P f args h fun r h1 => ∃ i, r = .ret (.slc i 0 n none) ∧ h.u i = false ∧ h1 i = some (.row T es) ∧ GrX d h h1) :
    CallL P f args h fun r h1 => r = .ret (.slc i0 0 n none) ∧ h1 = (h.del d).set i0 (.row T es) := by
  refine ⟨fun σ M w args' hR hA => (k.run σ M w args' hR hA).mono fun e w' ⟨σ', M', h1, hE, hR1, hend⟩ => ?_⟩
  cases e with
  | panicked ch => obtain ⟨v, v', _, _, i, e1, _⟩ := hend; cases e1
  | outgrown => exact hend.elim
  | returned v' =>
    obtain ⟨v0, hv, i, e1, hi, hrow, hbase⟩ := hend
    cases e1
    let σ2 : Emb := fun j => if j = i0 then σ' i else σ'.cut h.u j
    have hcut : (σ'.cut h.u).le σ2 := fun j L hj => by
      have := (Emb.cut_inv hj).1
      have hne : j ≠ i0 := fun e => by rw [e, h0] at this; cases this
      simp only [σ2]; rw [if_neg hne]; exact hj
    have hσ2 : σ2 i0 = σ' i := if_pos rfl
    have old : ∀ {j : Nat} {b : Blk}, j ≠ i0 → ((h.del d).set i0 (.row T es)) j = some b → j ≠ d ∧ h j = some b := fun {j b} e hj => by
      rw [Hp.set_ne e] at hj
      by_cases e2 : j = d
      · subst e2; simp at hj
      · rw [Hp.del_ne e2] at hj; exact ⟨e2, hj⟩
    have key : ∀ j b L, ((h.del d).set i0 (.row T es)) j = some b → σ2 j = some L → ∃ p, h1 p = some b ∧ σ' p = some L ∧ blkU h.u b = true ∧ ((j = i0 ∧ p = i) ∨ (p = j ∧ h.u j = true)) := by
      intro j b L hj hL
      by_cases e : j = i0
      · subst e
        rw [Hp.set_same] at hj; cases hj
        rw [hσ2] at hL
        exact ⟨i, hrow, hL, hes, .inl ⟨rfl, rfl⟩⟩
      · obtain ⟨e2, hj'⟩ := old e hj
        simp only [σ2, if_neg e] at hL
        obtain ⟨hu, hL'⟩ := Emb.cut_inv hL
        exact ⟨j, (hbase.m j hu e2).trans hj', hL', hcl j b hj', .inr ⟨rfl, hu⟩⟩
    refine ⟨σ2, M', (h.del d).set i0 (.row T es), ⟨fun j L hj => ?_, hE.m, hE.size, hE.os, hE.tape, hE.output⟩, ⟨fun j hj => ?_, fun j b hj => ?_, hR1.mem, fun j b L hj hL => ?_, fun j1 j2 b1 b2 L1 L2 hj1 hj2 hL1 hL2 hb => ?_, fun j b L hj hL => ?_, fun j b L hj hL => ?_, hR1.glb⟩, .slc i0 0 n none, ?_, rfl, rfl⟩
    · have hu0 : h.u j = true := by
        cases hh : h.u j with
        | true => rfl
        | false => rw [hR.fin j hh] at hj; cases hj
      exact hcut j L (Emb.cut_some hu0 (hE.s j L hj))
    · rw [Hp.set_u, Hp.del_u] at hj
      split at hj
      · cases hj
      · rename_i e
        simp only [σ2, if_neg e, Emb.cut, hj]
    · by_cases e : j = i0
      · subst e
        obtain ⟨L, hL⟩ := hR1.dom i _ hrow
        exact ⟨L, hσ2.trans hL⟩
      · obtain ⟨e2, hj'⟩ := old e hj
        obtain ⟨L, hL⟩ := hR1.dom j b ((hbase.m j (Hp.used hj') e2).trans hj')
        exact ⟨L, hcut j L (Emb.cut_some (Hp.used hj') hL)⟩
    · obtain ⟨p, q1, q2, _⟩ := key j b L hj hL
      exact hR1.sep p b L q1 q2
    · obtain ⟨p1, a1, a2, _, a3⟩ := key j1 b1 L1 hj1 hL1
      obtain ⟨p2, c1, c2, _, c3⟩ := key j2 b2 L2 hj2 hL2
      have hp := hR1.inj p1 p2 b1 b2 L1 L2 a1 c1 a2 c2 hb
      rcases a3 with ⟨e1, e2⟩ | ⟨e1, e2⟩ <;> rcases c3 with ⟨g1, g2⟩ | ⟨g1, g2⟩
      · rw [e1, g1]
      · rw [e2, g1] at hp; rw [← hp, hi] at g2; cases g2
      · rw [e1, g2] at hp; rw [hp, hi] at e2; cases e2
      · rw [← e1, ← g1]; exact hp
    · obtain ⟨p, q1, q2, q3, _⟩ := key j b L hj hL
      exact ((hR1.blk p b L q1 q2).cut q3).mono hcut M'.le_refl rfl
    · obtain ⟨p, q1, q2, _⟩ := key j b L hj hL
      exact hR1.al p b L q1 q2
    · obtain ⟨L, a, c', e1, hL, ha, hn, hk, hu⟩ := hv.slc_inv
      rw [e1]
      exact .slc i0 0 n none L a c' (hσ2.trans hL) ha hn hk hu

/-- All numbers within a heap are taken ones. -/
def closedX (h : HT) : Bool := allT (fun _ o => match o with
  | some (.b b) => blkU (uT h) b
  | some _ => false
  | none => true) h.t 0 1
theorem closedX_ok {P : Program} {h : HT} (hc : closedX h = true) : ∀ j b, (h.hp P) j = some b → blkU (h.hp P).u b = true := by
  intro j b hj
  have hj' : jn P (h.t.get j) = some b := hj
  cases hg : h.t.get j with
  | none => rw [hg] at hj'; cases hj'
  | some o =>
    have hq := allT_get hc hg
    cases o with
    | none => rw [hg] at hj'; cases hj'
    | some eb =>
      rw [hg] at hj'
      cases eb with
      | l n t ps c d st pend => cases hq
      | b x => cases hj'; exact hq
theorem HT.hp_updX {P : Program} (s : HT) (d i n : Nat) (b : EB) (hd : (s.t.get d).isSome = true) : (HT.upd s [(d, none), (i, some b)] n).hp P = ((s.hp P).del d).set i (b.bk P) := by
  refine Hp.ext (fun j => ?_) (fun j => ?_)
  · show jn P (((s.t.set d (some none)).set i (some (some b))).get j) = if j = i then some (b.bk P) else if j = d then none else jn P (s.t.get j)
    rw [Tr.get_set]; split
    · rfl
    · rw [Tr.get_set]; split <;> rfl
  · show (((s.t.set d (some none)).set i (some (some b))).get j).isSome = if j = i then true else (s.t.get j).isSome
    rw [Tr.get_set]; split
    · rfl
    · rw [Tr.get_set]; split
      · rename_i e; rw [e, hd]; rfl
      · rfl
end Go.L
namespace Go.Proofs.YtbnfeedomchfdaaGreatDoor
open Go.L

theorem insert_sm {s : Sm} {i j is p n : Nat} {cv : Option Nat} {bs vs : List UInt8} {X rv : List (List AV)} (hf : s.f = F_slices_Insert) (ha : s.args = [.slc i 0 bs.length none, .int .i64 p, .slc j 0 vs.length cv])
    (hi : s.h.t.get i = some (some (.b (.row Tb (bt bs ++ X))))) (hj : s.h.t.get j = some (some (.b (.row Tb (bt vs ++ rv))))) (hij : i ≠ j) (hp : p ≤ bs.length) (hl : bs.length + vs.length ≤ 1000000000000)
    (hv : s.v = .slc is 0 (bs.length + vs.length) none) (hh : s.h' = HT.upd s.h [(i, none), (is, some (.b (.row Tb (bt (insL bs vs p)))))] n) (hn : s.h.t.get is = none) (hcl : closedX s.h = true) : SmOK Tryz.prog s := by
  intro Q hQ
  have hu : (s.h.hp Tryz.prog).u is = false := by
    show (s.h.t.get is).isSome = false
    rw [hn]; rfl
  have at' : ∀ {k : Nat} {b : Blk}, s.h.t.get k = some (some (.b b)) → (s.h.hp Tryz.prog) k = some b := fun {k b} hk => by
    show jn Tryz.prog (s.h.t.get k) = some b
    rw [hk]; rfl
  have lb : (bt (insL bs vs p)).length = bs.length + vs.length := by rw [bt_len, insL_len]
  rw [hf, ha]
  rw [hv, hh, HT.hp_updX _ _ _ _ _ (by rw [hi]; rfl)] at hQ
  refine (CallL.namedX (T := Tb) (d := i) (n := bs.length + vs.length) (es := bt (insL bs vs p)) hu ?_ (closedX_ok hcl) ((Insert_L bs vs p i j cv X rv _ (at' hi) (at' hj) hij hp hl).mono ?_)).mono ?_
  · generalize insL bs vs p = l
    induction l with
    | nil => rfl
    | cons z zs ih => exact ih
  · rintro r H ⟨i2, rfl, h1, h2, h3⟩
    exact ⟨i2, by rw [lb], h1, h2, h3⟩
  · rintro r h' ⟨rfl, rfl⟩
    exact hQ
end Go.Proofs.YtbnfeedomchfdaaGreatDoor
