/- Contracts of functions of the given program, in the logic L: texts put together; no conditions. -/
import Derived.Test.YtldbbnkacahndaaGreatDoorZ13
import Derived.Test.YtldbbnkacahndaaGreatDoorZ2
import Derived.Test.YtldbbnkacahndaaGreatDoorZ3
import Derived.Test.YtldbbnkacahndaaGreatDoorProg
import Derived.KernelRfl
namespace Go.Proofs.YtldbbnkacahndaaGreatDoor
open Go.L
theorem zJg {lim : Nat} {bad : Int} {l : Str} (h : jK lim bad l = true) : bad = 0 ∧ ∃ v n, rdV l = .ok v n ∧ v ≤ lim ∧ v ≤ l.length - n ∧ n ≤ l.length ∧ zAk lim l = (((n : Nat) : Int), ((n + v : Nat) : Int), (0 : Int)) := by
 have h2 := of_decide_eq_true h
 refine ⟨h2.1, ?_⟩
 cases e : rdV l with
 | short => exact absurd h2.2 (by rw [errX, jH e]; decide)
 | long => exact absurd h2.2 (by rw [errX, zCc e]; decide)
 | ok v n =>
  have hl := zJr e
  by_cases h3 : lim < v
  ·exact absurd h2.2 (by rw [errX, zDk e h3]; decide)
  ·by_cases h4 : l.length - n < v
   ·exact absurd h2.2 (by rw [errX, qY e h3 h4]; decide)
   ·exact ⟨v, n, rfl, by omega, by omega, by omega, zBW e h3 h4⟩
theorem HandOk.acc {H H' : Hp} {x : AV} {l : Str} (a : AccE Tb H H' x (bt l)) : HandOk H' x l ∧ ∀ b, zG x = some b → H.u b = false := by
 refine ⟨?_, fun b hb => (AccE.used a hb).1⟩
 rcases a.2 with ⟨h1, h2⟩ | ⟨j, h1, _, h2⟩
 ·exact .inl ⟨h1, List.map_eq_nil_iff.1 h2⟩
 ·exact .inr ⟨j, by rw [h1, zP], h2⟩
def jLn (R lim ahead : Nat) (bad : Int) (l : Str) (H : Hp) (r : Res) (H' : Hp) : Prop :=
 (jK lim bad l = false ∧ r = .ret (.tup [.nils, .bool false]) ∧ Gr H H') ∨
 (jK lim bad l = true ∧ ∃ v n x, rdV l = .ok v n ∧ v ≤ lim ∧ v ≤ l.length - n ∧ n ≤ l.length ∧ r = .ret (.tup [x, .bool true]) ∧ HandOk H' x ((l.drop n).take v) ∧ (∀ b, zG x = some b → H.u b = false) ∧ H' R = some (.row TS2 [SpC2 lim .nils (ahead + l.length) 0]) ∧ (∀ y, H.u y = true → y ≠ R → H' y = H y) ∧ ∀ y, H.u y = true → H'.u y = true)
set_option maxHeartbeats 1000000 in
theorem zRx (R : Nat) (u : AV) (l : Str) (lim ahead : Nat) (bad : Int) (H : Hp) (hR : H R = some (.row TS2 [SpC2 lim u ahead bad])) (k : HandOk H u l) (hl : l.length ≤ 1000000000) (hlim : lim ≤ 16777216) (hah : ahead ≤ 1000000000000) :
  CallL Tryz.prog zIm [.ptr R 0 0] H (jLn R lim ahead bad l H) := by
 refine zNS (md := false) ?_
 refine (zJc R u l lim ahead bad H hR k (by omega) hlim).mono ?_
 rintro r H1 ⟨hr, g⟩
 cases hw : jK lim bad l with
 | false =>
  rw [hw] at hr
  subst hr
  exact ⟨rfl, .inl ⟨hw, rfl, g⟩⟩
 | true =>
  rw [hw] at hr
  subst hr
  obtain ⟨rfl, v, n, e1, h1, h2, h3, e2⟩ := zJg hw
  rcases k with ⟨rfl, rfl⟩ | ⟨j, rfl, hj⟩
  ·cases e1
  have hR1 := g.blk hR
  have hbl := zP l
  refine ⟨_, _, _, _, hR1, rfl, rfl, ?_⟩
  refine ⟨_, _, _, _, hR1, rfl, rfl, ?_⟩
  refine (zJt _ l lim H1 (HandOk.gr g (.inr ⟨j, rfl, hj⟩)) (by omega) hlim).mono ?_
  rintro r H2 ⟨hr, g2⟩
  rw [e2] at hr
  subst hr
  refine ⟨_, rfl, _, rfl, _, rfl, ?_⟩
  have hR2 := g2.blk hR1
  have hj2 := g2.blk (g.blk hj)
  refine ⟨_, _, _, _, hR2, rfl, rfl, ?_⟩
  refine ⟨⟨_, hj2⟩, _, rfl, _, rfl, Nat.le_add_right _ _, by show n + v ≤ l.length; omega, ?_⟩
  refine ⟨bt ((l.drop n).take v), ⟨_, _, hj2, by rw [hbl]; omega, ?_⟩, ?_⟩
  ·rw [Nat.zero_add, show n + v - n = v by omega, zMT, zOS]
  have hxl : ((l.drop n).take v).length = v := by rw [List.length_take, List.length_drop]; omega
  refine AccE.app (AccE.nil Tb H2) (zLl _) (zKQ _) (by rw [zP, hxl]; unfold zJ; simp; omega) (by rw [zP, hxl]; unfold zJ; simp; omega) fun x H3 ha hf hu hb => ?_
  rw [List.nil_append] at ha
  have hR3 := ha.1.blk hR2
  obtain ⟨a1, a2⟩ := HandOk.acc ha
  refine ⟨_, _, _, _, hR3, rfl, rfl, ?_⟩
  refine ⟨_, _, _, _, hR3, rfl, rfl, ?_⟩
  refine zN (ahead + l.length) (by omega) (by omega) ?_
  refine ⟨_, _, _, hR3, rfl, rfl, rfl, rfl, by show 3 ≤ 4; decide, ?_⟩
  refine ⟨_, _, _, Hp.set_same _ _ _, rfl, rfl, rfl, rfl, by show 2 ≤ 4; decide, ?_⟩
  have o := HandOk.one a1
  have gg := (g.trans g2).trans ha.1
  refine ⟨rfl, .inr ⟨hw, v, n, x, e1, h1, h2, h3, rfl, ?_, fun b hb => ?_, ?_, fun y hy hyR => ?_, fun y hy => ?_⟩⟩
  ·refine HandOk.row (fun b r _ hx => ?_) a1
   have : b ≠ R := fun e => by rw [e, hR3] at hx; injection hx with hx; exact zX (by decide) hx
   rw [Hp.set_ne this, Hp.set_ne this]; exact hx
  ·exact (g.trans g2).new (a2 b hb)
  ·exact Hp.set_same _ _ _
  ·rw [Hp.set_ne hyR, Hp.set_ne hyR]; exact gg.m y hy
  ·rw [Hp.set_u, Hp.set_u, gg.u y hy]; simp
theorem qRn (R : Nat) (u : AV) (lim ahead : Nat) (bad : Int) (H : Hp) (hR : H R = some (.row TS2 [SpC2 lim u ahead bad])) :
  CallL Tryz.prog zIo [.ptr R 0 0] H fun r H' => r = .ret (.tup [.int .i64 bad, .int .i64 (if bad = 0 then 0 else (ahead : Int))]) ∧ H' = H := by
 refine zNU (md := false) ?_
 refine ⟨_, _, _, _, hR, rfl, rfl, ?_⟩
 refine s_eq (fun (h1 : bad = 0) => ?_) (fun (h1 : bad ≠ 0) => ?_)
 ·subst h1
  exact ⟨rfl, rfl, rfl⟩
 ·refine ⟨_, _, _, _, hR, rfl, rfl, ?_⟩
  refine ⟨_, _, _, _, hR, rfl, rfl, ?_⟩
  refine ⟨rfl, ?_, rfl⟩
  rw [if_neg h1]; rfl
def endX (lim : Nat) (bad : Int) (l : Str) : Int := if bad = 0 ∧ 0 < l.length ∧ jK lim bad l = false then 231 else bad
theorem jHt (R : Nat) (u : AV) (l : Str) (lim ahead : Nat) (bad : Int) (H : Hp) (hR : H R = some (.row TS2 [SpC2 lim u ahead bad])) (k : HandOk H u l) (hl : l.length ≤ 1000000000) (hlim : lim ≤ 16777216) :
  CallL Tryz.prog zKf [.ptr R 0 0] H fun r H' => r = .ret (.int .i64 (endX lim bad l)) ∧ Gr H H' := by
 refine zOa (md := false) ?_
 refine (zJc R u l lim ahead bad H hR k (by omega) hlim).mono ?_
 rintro r H1 ⟨hr, g⟩
 have hR1 := g.blk hR
 have fin : ∀ {x : Int}, x = endX lim bad l → Res.ret (.int .i64 x) = .ret (.int .i64 (endX lim bad l)) := fun h => by rw [h]
 cases hw : jK lim bad l with
 | false =>
  rw [hw] at hr
  subst hr
  refine ⟨_, _, _, _, hR1, rfl, rfl, ?_⟩
  refine s_eq (fun (h1 : bad = 0) => ?_) (fun (h1 : bad ≠ 0) => ?_)
  ·subst h1
   refine ⟨_, _, _, _, hR1, rfl, rfl, ?_⟩
   rcases k.lenl with ⟨rfl, rfl⟩ | ⟨j, rfl⟩
   ·refine s_lt (fun h => absurd h (by decide)) (fun _ => ?_)
    refine ⟨_, _, _, _, hR1, rfl, rfl, ?_⟩
    exact ⟨rfl, fin (by rw [endX, if_neg (fun h => absurd h.2.1 (by decide))]), g⟩
   ·refine s_lt (fun h => ?_) (fun h => ?_)
    ·exact ⟨rfl, fin (by rw [endX, if_pos ⟨rfl, by omega, hw⟩]), g⟩
    ·refine ⟨_, _, _, _, hR1, rfl, rfl, ?_⟩
     exact ⟨rfl, fin (by rw [endX, if_neg (fun h2 => by have := h2.2.1; omega)]), g⟩
  ·refine ⟨_, _, _, _, hR1, rfl, rfl, ?_⟩
   exact ⟨rfl, fin (by rw [endX, if_neg (fun h2 => h1 h2.1)]), g⟩
 | true =>
  rw [hw] at hr
  subst hr
  obtain ⟨rfl, v, n, e1, _⟩ := zJg hw
  have hex : endX lim 0 l = 0 := by rw [endX, if_neg (fun h2 => by rw [hw] at h2; cases h2.2.2)]
  refine ⟨_, _, _, _, hR1, rfl, rfl, ?_⟩
  refine s_eq (fun _ => ?_) (fun h => absurd rfl h)
  refine ⟨_, _, _, _, hR1, rfl, rfl, ?_⟩
  rcases k.lenl with ⟨rfl, rfl⟩ | ⟨j, rfl⟩
  ·cases e1
  ·refine s_lt (fun h => ?_) (fun h => ?_)
   ·refine ⟨_, _, _, _, hR1, rfl, rfl, ?_⟩
    exact ⟨rfl, fin hex.symm, g⟩
   ·refine ⟨_, _, _, _, hR1, rfl, rfl, ?_⟩
    exact ⟨rfl, fin hex.symm, g⟩
theorem zWv (n : Int) : PureL Tryz.prog zBG [.int .i64 n] (.bool (decide (0 ≤ n ∧ n ≤ 16777216))) := by
 intro h
 refine zFz (md := false) ?_
 refine s_le (fun h1 => ?_) (fun h1 => ?_)
 ·refine s_le (fun h2 => ?_) (fun h2 => ?_)
  ·exact ⟨rfl, Res.bool_eq (decide_eq_true ⟨h1, h2⟩).symm, rfl⟩
  ·exact ⟨rfl, Res.bool_eq (decide_eq_false fun h => by omega).symm, rfl⟩
 ·exact ⟨rfl, Res.bool_eq (decide_eq_false fun h => by omega).symm, rfl⟩
theorem qPW (lim : Int) (H : Hp) : CallL Tryz.prog zKe [.int .i64 lim] H fun r H' => (¬ (0 ≤ lim ∧ lim ≤ 16777216) ∧ r = .ret .nilp ∧ H' = H) ∨ ((0 ≤ lim ∧ lim ≤ 16777216) ∧ ∃ R, H.u R = false ∧ r = .ret (.ptr R 0 0) ∧ H' = H.set R (.row TS2 [SpC2 lim.toNat .nils 0 0])) := by
 refine zOZ (md := false) ?_
 refine (zWv lim).useC (fun hr => ?_) (fun hr => ?_)
 ·have h := of_decide_eq_true hr
  obtain ⟨n, rfl⟩ : ∃ n : Nat, lim = n := ⟨lim.toNat, by omega⟩
  refine ⟨_, rfl, ?_⟩
  refine ⟨rfl, rfl, fun R hR => ?_⟩
  exact ⟨rfl, .inr ⟨h, R, hR.1, rfl, rfl⟩⟩
 ·exact ⟨rfl, .inl ⟨of_decide_eq_false hr, rfl, rfl⟩⟩
end Go.Proofs.YtldbbnkacahndaaGreatDoor

namespace Go.Proofs.YtldbbnkacahndaaGreatDoor
open Go.L
abbrev zIl : Nat := 5
def zLJ : LA := [mv 3 0, o_ 4 (.call 19 [(.t 3)]), o_ 5 (.not (.t 4))]
def zLI : LA := [mv 6 0, o_ 7 (.build [.nils, .int .i64 (0), .int .i64 (0), .int .i64 (0), .int .i64 (0), .int .i64 (0), .int .i64 0] [(1, 1, (.t 6))]), o_ 8 (.box 100 7 (.t 7)), mv 2 8]
def zIp : ACode := (.seq (.ops [o_ 2 (.mov (.c (.nilp)))]) (.seq (.seq (.ops zLJ) (.cond (.t 5) (.seq (.ops [o_ 2 (.mov (.c (.nilp)))]) .ret) .skip)) (.seq (.ops zLI) .ret)))
def zIh : List ARes := [.tmp 2]
theorem zNW : zS Tryz.prog Tryz.f5 = some (zIp, zIh) := by kernel_rfl
theorem zNR {md : Bool} {args : List AV} {h : Hp} {Q : Res → Hp → Prop} (hl : zD Tryz.prog md zIp (EndQ zIh Q) (env0 9 args) h) (hn : args.length ≤ 9 := by (simp; done)) : CallL Tryz.prog zIl args h Q :=
 CallL.of (md := md) Tryz.func5 zNW (by rw [Tryz.ntmps5]; exact hn) (by rw [Tryz.ntmps5]; exact hl)
abbrev zEa : Nat := 60
def zHk : LA := [mv 3 0, Wc 4 3, Wf 5 5 4, Wl 6 5, Wi 7 .eql 6 0, mv 8 7, Wgm 9 0 8, g_ 10 (.nilc (.t 9)) 8, Wgf 11 3 10 8, Wgl 12 11 8, g_ 13 (.bini .gtr (.t 12) (i_ 0)) 8, Wp 14 8 13, mv 15 14, Wgm 16 0 15, g_ 17 (.nilc (.t 16)) 15, Wgf 18 0 17 15, Wgf 19 0 18 15, Wgl 20 19 15, g_ 21 (.lenl (.t 20)) 15, Wgm 22 0 15, g_ 23 (.nilc (.t 22)) 15, Wgf 24 4 23 15, Wgl 25 24 15, g_ 26 (.bini .eql (.t 21) (.t 25)) 15, Wp 27 15 26, mv 2 27]
def zEe : ACode := (.seq (.ops [Wo 2 false]) (.seq (.alts [3, 4, 5, 6, 7, 8, 9, 10, 11, 12, 13, 14, 15, 16, 17, 18, 19, 20, 21, 22, 23, 24, 25, 26, 27, 2] [zHk]) .ret))
def zEX : List ARes := [.tmp 2]
theorem zIy : zS Tryz.prog Tryz.f60 = some (zEe, zEX) := by kernel_rfl
theorem zIv {md : Bool} {args : List AV} {h : Hp} {Q : Res → Hp → Prop} (hl : zD Tryz.prog md zEe (EndQ zEX Q) (env0 28 args) h) (hn : args.length ≤ 28 := by (simp; done)) : CallL Tryz.prog zEa args h Q :=
 CallL.of (md := md) Tryz.func60 zIy (by rw [Tryz.ntmps60]; exact hn) (by rw [Tryz.ntmps60]; exact hl)
abbrev zEb : Nat := 12
def zHl : LA := [mv 3 0, o_ 4 (.call 60 [(.t 3)]), mv 2 4]
def zEf : ACode := (.seq (.ops [Wo 2 false]) (.seq (.ops zHl) .ret))
def zEY : List ARes := [.tmp 2]
theorem zIz : zS Tryz.prog Tryz.f12 = some (zEf, zEY) := by kernel_rfl
theorem zIw {md : Bool} {args : List AV} {h : Hp} {Q : Res → Hp → Prop} (hl : zD Tryz.prog md zEf (EndQ zEY Q) (env0 5 args) h) (hn : args.length ≤ 5 := by (simp; done)) : CallL Tryz.prog zEb args h Q :=
 CallL.of (md := md) Tryz.func12 zIz (by rw [Tryz.ntmps12]; exact hn) (by rw [Tryz.ntmps12]; exact hl)
abbrev zGV : Nat := 61
def zJB : LA := [mv 4 0, mv 5 0, Wc 6 5, Wf 7 0 6, Wl 8 7, mv 9 1, o_ 10 (.app 5 1 1 (.t 8) (.t 9)), Wc 11 4, Wf 12 0 11, Ws 1 12 10]
def zGb : ACode := (.ops zJB)
def zGP : List ARes := []
theorem zLD : zS Tryz.prog Tryz.f61 = some (zGb, zGP) := by kernel_rfl
theorem zKw {md : Bool} {args : List AV} {h : Hp} {Q : Res → Hp → Prop} (hl : zD Tryz.prog md zGb (EndQ zGP Q) (env0 13 args) h) (hn : args.length ≤ 13 := by (simp; done)) : CallL Tryz.prog zGV args h Q :=
 CallL.of (md := md) Tryz.func61 zLD (by rw [Tryz.ntmps61]; exact hn) (by rw [Tryz.ntmps61]; exact hl)
abbrev zFY : Nat := 77
def zIK : LA := [mv 3 0, Wc 4 3, Wf 5 0 4, Wl 6 5, We 7 6, Wi 8 .gtr 7 0, mv 2 8]
def zFh : ACode := (.seq (.ops [Wo 2 false]) (.seq (.ops zIK) .ret))
def zFR : List ARes := [.tmp 2]
theorem zKg : zS Tryz.prog Tryz.f77 = some (zFh, zFR) := by kernel_rfl
theorem zKa {md : Bool} {args : List AV} {h : Hp} {Q : Res → Hp → Prop} (hl : zD Tryz.prog md zFh (EndQ zFR Q) (env0 9 args) h) (hn : args.length ≤ 9 := by (simp; done)) : CallL Tryz.prog zFY args h Q :=
 CallL.of (md := md) Tryz.func77 zKg (by rw [Tryz.ntmps77]; exact hn) (by rw [Tryz.ntmps77]; exact hl)
abbrev zGW : Nat := 88
def zJC : LA := [mv 4 0, mv 5 0, mv 6 1, mv 7 0, Wc 8 7, Wf 9 2 8, Wl 10 9, mv 11 0, Wc 12 11, Wf 13 0 12, Wf 14 0 13, Wl 15 14, We 16 15, Wb 17 .sub 10 16, Wc 18 4, Wf 19 5 18, Ws 1 19 6, Wc 20 5, Wf 21 6 20, Ws 1 21 17]
def zGc : ACode := (.alts [4, 5, 6, 7, 8, 9, 10, 11, 12, 13, 14, 15, 16, 17, 18, 19, 20, 21] [zJC])
def zGQ : List ARes := []
theorem zLE : zS Tryz.prog Tryz.f88 = some (zGc, zGQ) := by kernel_rfl
theorem zKx {md : Bool} {args : List AV} {h : Hp} {Q : Res → Hp → Prop} (hl : zD Tryz.prog md zGc (EndQ zGQ Q) (env0 22 args) h) (hn : args.length ≤ 22 := by (simp; done)) : CallL Tryz.prog zGW args h Q :=
 CallL.of (md := md) Tryz.func88 zLE (by rw [Tryz.ntmps88]; exact hn) (by rw [Tryz.ntmps88]; exact hl)
abbrev zDN : Nat := 62
def zHH : LA := [mv 6 0, Wc 7 6, Wf 8 0 7, Wf 9 0 8, Wl 10 9, o_ 11 (.call 85 [(.t 10)]), mv 2 11]
def zHG : LA := [mv 12 2, o_ 13 (.call 86 [(.t 12)]), mv 3 13]
def zHF : LA := [mv 15 2, o_ 16 (.call 87 [(.t 15)]), mv 14 16, Wx 17 0 14, Wx 18 1 14, mv 4 17, mv 5 18]
def zHE : LA := [mv 39 4, Wi 40 .eql 39 10, mv 38 40]
def zHD : LA := [mv 42 4, Wi 43 .neq 42 0, mv 41 43]
def zHC : LA := [mv 44 0, mv 45 4, o_ 46 (.call 88 [(.t 44), (.t 45)])]
def zHB : LA := [mv 48 3, mv 49 0, Wc 50 49, Wf 51 1 50, Wl 52 51, o_ 53 (.conv .u64 (.t 52)), Wb 54 .gtr 48 53, mv 47 54]
def zHA : LA := [mv 55 0, o_ 56 (.call 88 [(.t 55), (i_ 230)])]
def zGz : LA := [mv 19 0, mv 20 0, Wc 21 20, Wf 22 0 21, Wf 23 0 22, Wl 24 23, We 25 24, Wc 26 19, Wf 27 3 26, Ws 1 27 25]
def zGy : LA := [mv 28 0, mv 29 0, Wc 30 29, Wf 31 3 30, Wl 32 31, mv 33 3, o_ 34 (.conv .i64 (.t 33)), Wb 35 .add 32 34, Wc 36 28, Wf 37 4 36, Ws 1 37 35]
def zDR : ACode := (.seq (.ops zHH) (.seq (.ops zHG) (.seq (.ops zHF) (.block 0 (.seq (.ops zHE) (.cond (.t 38) .skip (.seq (.ops zHD) (.cond (.t 41) (.ops zHC) (.seq (.ops zHB) (.cond (.t 47) (.ops zHA) (.seq (.ops zGz) (.ops zGy))))))))))))
def zDJ : List ARes := []
theorem zIJ : zS Tryz.prog Tryz.f62 = some (zDR, zDJ) := by kernel_rfl
theorem zIH {md : Bool} {args : List AV} {h : Hp} {Q : Res → Hp → Prop} (hl : zD Tryz.prog md zDR (EndQ zDJ Q) (env0 57 args) h) (hn : args.length ≤ 57 := by (simp; done)) : CallL Tryz.prog zDN args h Q :=
 CallL.of (md := md) Tryz.func62 zIJ (by rw [Tryz.ntmps62]; exact hn) (by rw [Tryz.ntmps62]; exact hl)
abbrev zFa : Nat := 11
def zIT : LA := [mv 7 5, mv 8 1, We 9 8, Wb 10 .lss 7 9, mv 11 10, Wgm 12 0 11, g_ 13 (.call 60 [(.t 12)]) 11, g_ 14 (.not (.t 13)) 11, Wp 15 11 14, mv 16 15, Wgm 17 0 16, g_ 18 (.nilc (.t 17)) 16, Wgf 19 5 18 16, Wgl 20 19 16, g_ 21 (.bini .eql (.t 20) (i_ 0)) 16, Wp 22 16 21]
def zIS : LA := [mv 23 0, Wc 24 23, Wf 25 3 24, Wl 26 25, Wi 27 .gtr 26 0]
def zDY : LA := [mv 28 0, Wc 29 28, Wf 30 4 29, Wl 31 30, mv 32 0, Wc 33 32, Wf 34 0 33, Wf 35 0 34, Wl 36 35, We 37 36, Wb 38 .sub 31 37, mv 39 1, We 40 39, mv 41 5, Wb 42 .sub 40 41, o_ 43 (.mn (.t 38) (.t 42)), mv 6 43]
def zDX : LA := [mv 44 0, Wc 45 44, Wf 46 0 45, mv 47 1, mv 48 5, mv 49 5, mv 50 6, Wb 51 .add 49 50, o_ 52 (.slcl 5 1 (.t 47) (some (.t 48)) (some (.t 51)) none), o_ 53 (.call 61 [(.t 46), (.t 52)])]
def zDW : LA := [mv 54 0, mv 55 5, mv 56 6, Wb 57 .add 55 56, mv 58 0, Wc 59 58, Wf 60 2 59, Wl 61 60, mv 62 6, Wb 63 .add 61 62, mv 5 57, Wc 64 54, Wf 65 2 64, Ws 1 65 63]
def zDV : LA := [mv 66 0, Wc 67 66, Wf 68 0 67, mv 69 1, mv 70 5, Wa 71 5 1 69 70, Wl 72 71, o_ 73 (.bslice 5 1 1 [.int .u8 0] [(0, 1, (.t 72))]), o_ 74 (.call 61 [(.t 68), (.t 73)])]
def zDU : LA := [mv 75 5, Wi 76 .add 75 1, mv 5 76]
def zDT : LA := [mv 77 0, Wc 78 77, Wf 79 2 78, Wl 80 79, Wi 81 .add 80 1, Wc 82 77, Wf 83 2 82, Ws 1 83 81]
def zDS : LA := [mv 84 0, o_ 85 (.call 62 [(.t 84)])]
def zIR : ACode := (.seq (.seq (.ops zIT) (.cond (.t 22) .skip (.exit 0))) (.block 1 (.seq (.seq (.ops zIS) (.cond (.t 27) (.seq (.alts [28, 29, 30, 31, 32, 33, 34, 35, 36, 37, 38, 39, 40, 41, 42, 43, 6] [zDY]) (.seq (.alts [44, 45, 46, 47, 48, 49, 50, 51, 52, 53] [zDX]) (.seq (.alts [54, 55, 56, 57, 58, 59, 60, 61, 62, 63, 5, 64, 65] [zDW]) (.exit 1)))) .skip)) (.seq (.alts [66, 67, 68, 69, 70, 71, 72, 73, 74] [zDV]) (.seq (.ops zDU) (.seq (.ops zDT) (.ops zDS)))))))
def zHm : LA := [mv 86 5, mv 4 86]
def zFj : ACode := (.seq (.ops [Wm 4 0]) (.seq (.ops [Wm 5 0]) (.seq (.block 0 (.loop zIR)) (.seq (.ops zHm) .ret))))
def zFT : List ARes := [.tmp 4]
theorem zKi : zS Tryz.prog Tryz.f11 = some (zFj, zFT) := by kernel_rfl
theorem zKc {md : Bool} {args : List AV} {h : Hp} {Q : Res → Hp → Prop} (hl : zD Tryz.prog md zFj (EndQ zFT Q) (env0 87 args) h) (hn : args.length ≤ 87 := by (simp; done)) : CallL Tryz.prog zFa args h Q :=
 CallL.of (md := md) Tryz.func11 zKi (by rw [Tryz.ntmps11]; exact hn) (by rw [Tryz.ntmps11]; exact hl)
abbrev zFZ : Nat := 25
def zIQ : LA := [Wn 2, Wo 3 false]
def zIP : LA := [mv 5 0, o_ 6 (.call 60 [(.t 5)]), o_ 7 (.not (.t 6))]
def zIO : LA := [Wn 2, Wo 3 false]
def zIN : LA := [mv 8 0, Wc 9 8, Wf 10 0 9, Wf 11 0 10, Wl 12 11, mv 13 0, Wc 14 13, Wf 15 3 14, Wl 16 15, o_ 17 (.slcl 5 1 (.t 12) (some (.t 16)) none none), o_ 18 (.call 80 [(.t 17)]), mv 4 18]
def zIM : LA := [mv 19 0, mv 20 0, mv 21 0, Wc 22 19, Wf 23 0 22, Wf 24 0 23, n_ (.st 1 (.t 24) (.c (.nils))), Wc 25 20, Wf 26 3 25, n_ (.st 1 (.t 26) (i_ 0)), Wc 27 21, Wf 28 4 27, n_ (.st 1 (.t 28) (i_ 0))]
def zIL : LA := [mv 29 4, mv 2 29, Wo 3 true]
def zFi : ACode := (.seq (.ops zIQ) (.seq (.seq (.ops zIP) (.cond (.t 7) (.seq (.ops zIO) .ret) .skip)) (.seq (.alts [8, 9, 10, 11, 12, 13, 14, 15, 16, 17, 18, 4] [zIN]) (.seq (.ops zIM) (.seq (.ops zIL) .ret)))))
def zFS : List ARes := [.tmp 2, .tmp 3]
theorem zKh : zS Tryz.prog Tryz.f25 = some (zFi, zFS) := by kernel_rfl
theorem zKb {md : Bool} {args : List AV} {h : Hp} {Q : Res → Hp → Prop} (hl : zD Tryz.prog md zFi (EndQ zFS Q) (env0 30 args) h) (hn : args.length ≤ 30 := by (simp; done)) : CallL Tryz.prog zFZ args h Q :=
 CallL.of (md := md) Tryz.func25 zKh (by rw [Tryz.ntmps25]; exact hn) (by rw [Tryz.ntmps25]; exact hl)
abbrev zFb : Nat := 31
def zIV : LA := [Wm 2 0, Wm 3 0]
def zIU : LA := [mv 4 0, Wc 5 4, Wf 6 5 5, Wl 7 6, mv 8 0, Wc 9 8, Wf 10 6 9, Wl 11 10, mv 2 7, mv 3 11]
def zFk : ACode := (.seq (.ops zIV) (.seq (.alts [4, 5, 6, 7, 8, 9, 10, 11, 2, 3] [zIU]) .ret))
def zFU : List ARes := [.tmp 2, .tmp 3]
theorem zKj : zS Tryz.prog Tryz.f31 = some (zFk, zFU) := by kernel_rfl
theorem zKd {md : Bool} {args : List AV} {h : Hp} {Q : Res → Hp → Prop} (hl : zD Tryz.prog md zFk (EndQ zFU Q) (env0 12 args) h) (hn : args.length ≤ 12 := by (simp; done)) : CallL Tryz.prog zFb args h Q :=
 CallL.of (md := md) Tryz.func31 zKj (by rw [Tryz.ntmps31]; exact hn) (by rw [Tryz.ntmps31]; exact hl)
abbrev zGX : Nat := 29
def zJF : LA := [mv 4 0, Wc 5 4, Wf 6 5 5, Wl 7 6, Wi 8 .neq 7 0, mv 3 8]
def zJE : LA := [mv 9 0, Wc 10 9, Wf 11 5 10, Wl 12 11, mv 2 12]
def zJD : LA := [mv 14 0, Wc 15 14, Wf 16 0 15, o_ 17 (.call 77 [(.t 16)]), mv 18 17, Wgm 19 0 18, g_ 20 (.call 60 [(.t 19)]) 18, g_ 21 (.not (.t 20)) 18, Wp 22 18 21, mv 13 22]
def zGd : ACode := (.seq (.ops [Wm 2 0]) (.seq (.block 0 (.seq (.ops zJF) (.cond (.t 3) (.seq (.ops zJE) .ret) (.seq (.ops zJD) (.cond (.t 13) (.seq (.ops [Wm 2 231]) .ret) .skip))))) (.seq (.ops [Wm 2 0]) .ret)))
def zGR : List ARes := [.tmp 2]
theorem zLF : zS Tryz.prog Tryz.f29 = some (zGd, zGR) := by kernel_rfl
theorem zKy {md : Bool} {args : List AV} {h : Hp} {Q : Res → Hp → Prop} (hl : zD Tryz.prog md zGd (EndQ zGR Q) (env0 23 args) h) (hn : args.length ≤ 23 := by (simp; done)) : CallL Tryz.prog zGX args h Q :=
 CallL.of (md := md) Tryz.func29 zLF (by rw [Tryz.ntmps29]; exact hn) (by rw [Tryz.ntmps29]; exact hl)
end Go.Proofs.YtldbbnkacahndaaGreatDoor

namespace Go.Proofs.YtldbbnkacahndaaGreatDoor
open Go.L
abbrev TS : TypeId := 100
def SpC (u : AV) (lim taken : Nat) (head want dead place : Int) : List AV := [u, .int .i64 lim, .int .i64 taken, .int .i64 head, .int .i64 want, .int .i64 dead, .int .i64 place]
def PrS (lim ahead : Nat) (l : Str) (bad head want place : Int) : Prop :=
 (rdV l = .short ∧ bad = 0 ∧ head = 0 ∧ want = 0 ∧ place = 0) ∨
 (∃ v n : Nat, rdV l = .ok v n ∧ v ≤ lim ∧ l.length ≤ n + v ∧ bad = 0 ∧ head = (n : Int) ∧ want = ((n + v : Nat) : Int) ∧ place = 0) ∨
 (bad ≠ 0 ∧ head = 0 ∧ want = 0 ∧ place = ahead)
theorem FrS.trans {S : Nat} {u0 u u' : AV} {H0 H H' : Hp} (f : FrS S u0 u H0 H) (g : FrS S u u' H H') : FrS S u0 u' H0 H' := by
 refine ⟨fun x h1 h2 h3 => (g.m x (f.um x h1) h2 fun e => ?_).trans (f.m x h1 h2 h3), fun x h => g.um x (f.um x h), fun x hx => ?_⟩
 ·rcases f.b x e with h | h
  ·exact h3 h
  ·rw [h1] at h; cases h
 ·rcases g.b x hx with h | h
  ·exact f.b x h
  ·cases hc : H0.u x with
   | false => exact .inr rfl
   | true => rw [f.um x hc] at h; cases h
theorem zMi {lim : Nat} {bad : Int} {l : Str} (e : rdV l = .short) : jK lim bad l = false := decide_eq_false fun h => absurd h.2 (by rw [errX, jH e]; decide)
theorem zPH {lim : Nat} {bad : Int} {l : Str} (h : bad ≠ 0) : jK lim bad l = false := decide_eq_false fun h2 => h h2.1
theorem zHp {lim v n : Nat} {l : Str} (e : rdV l = .ok v n) (h1 : v ≤ lim) (h2 : l.length ≤ n + v) : jK lim 0 l = decide (l.length = n + v) := by
 have h3 := zJr e
 by_cases h4 : l.length - n < v
 ·rw [decide_eq_false (show ¬ l.length = n + v by omega)]
  exact decide_eq_false fun h => absurd h.2 (by rw [errX, qY e (by omega) h4]; decide)
 ·rw [decide_eq_true (show l.length = n + v by omega)]
  exact decide_eq_true ⟨rfl, by rw [errX, zBW e (by omega) h4]⟩
theorem zLq (R : Nat) (u : AV) (l : Str) (lim ahead taken : Nat) (bad head want place : Int) (H : Hp) (hR : H R = some (.row TS [SpC u lim taken head want bad place])) (k : HandOk H u l) (hs : PrS lim ahead l bad head want place) :
  CallL Tryz.prog zEa [.ptr R 0 0] H fun r H' => r = .ret (.bool (jK lim bad l)) ∧ H' = H := by
 refine zIv (md := false) ?_
 refine ⟨_, _, _, _, hR, rfl, rfl, ?_⟩
 rcases hs with ⟨e, rfl, rfl, rfl, rfl⟩ | ⟨v, n, e, h1, h2, rfl, rfl, rfl, rfl⟩ | ⟨hb, rfl, rfl, rfl⟩
 ·refine s_eq (fun _ => ?_) (fun h => absurd rfl h)
  refine ⟨_, _, _, _, hR, rfl, rfl, ?_⟩
  refine s_lt (fun h => absurd h (by decide)) (fun _ => ?_)
  exact ⟨rfl, Res.bool_eq (zMi e).symm, rfl⟩
 ·have h3 := zJr e
  refine s_eq (fun _ => ?_) (fun h => absurd rfl h)
  refine ⟨_, _, _, _, hR, rfl, rfl, ?_⟩
  refine s_lt (fun _ => ?_) (fun h => by omega)
  refine ⟨_, _, _, _, hR, rfl, rfl, ?_⟩
  rcases k.lenl with ⟨rfl, rfl⟩ | ⟨j, rfl⟩
  ·cases e
  ·refine ⟨_, _, _, _, hR, rfl, rfl, ?_⟩
   refine s_eq (fun h4 => ?_) (fun h4 => ?_)
   ·exact ⟨rfl, Res.bool_eq ((zHp e h1 h2).trans (decide_eq_true (by omega))).symm, rfl⟩
   ·exact ⟨rfl, Res.bool_eq ((zHp e h1 h2).trans (decide_eq_false (by omega))).symm, rfl⟩
 ·refine s_eq (fun h => absurd h hb) (fun _ => ?_)
  exact ⟨rfl, Res.bool_eq (zPH hb).symm, rfl⟩
theorem qRT (R : Nat) (u : AV) (l : Str) (lim ahead taken : Nat) (bad head want place : Int) (H : Hp) (hR : H R = some (.row TS [SpC u lim taken head want bad place])) (k : HandOk H u l) (hs : PrS lim ahead l bad head want place) :
  CallL Tryz.prog zEb [.ptr R 0 0] H fun r H' => r = .ret (.bool (jK lim bad l)) ∧ H' = H := by
 refine zIw (md := false) ?_
 refine (zLq R u l lim ahead taken bad head want place H hR k hs).mono ?_
 rintro r H' ⟨rfl, rfl⟩
 exact ⟨rfl, rfl, rfl⟩
theorem qYy (R : Nat) (u : AV) (l : Str) (lim taken : Nat) (bad head want place : Int) (H : Hp) (hR : H R = some (.row TS [SpC u lim taken head want bad place])) (k : HandOk H u l) :
  CallL Tryz.prog zFY [.ptr R 0 0] H fun r H' => r = .ret (.bool (decide (0 < l.length))) ∧ H' = H := by
 refine zKa (md := false) ?_
 refine ⟨_, _, _, _, hR, rfl, rfl, ?_⟩
 rcases k.lenl with ⟨rfl, rfl⟩ | ⟨j, rfl⟩
 ·refine s_lt (fun h => absurd h (by decide)) (fun _ => ?_)
  exact ⟨rfl, Res.bool_eq rfl, rfl⟩
 ·refine s_lt (fun h => ?_) (fun h => ?_)
  ·exact ⟨rfl, Res.bool_eq (decide_eq_true (by omega)).symm, rfl⟩
  ·exact ⟨rfl, Res.bool_eq (decide_eq_false (by omega)).symm, rfl⟩
theorem qZd (R : Nat) (u : AV) (l : Str) (lim ahead : Nat) (e head want bad place : Int) (H : Hp) (hR : H R = some (.row TS [SpC u lim (ahead + l.length) head want bad place])) (k : HandOk H u l) (hb : ahead + l.length ≤ 1000000000000000) :
  CallL Tryz.prog zGW [.ptr R 0 0, .int .i64 e] H fun r H' => r = .ret (.tup []) ∧ H' = H.set R (.row TS [SpC u lim (ahead + l.length) head want e ahead]) := by
 refine zKx (md := false) ?_
 refine ⟨_, _, _, _, hR, rfl, rfl, ?_⟩
 refine ⟨_, _, _, _, hR, rfl, rfl, ?_⟩
 rcases k.lenl with ⟨rfl, rfl⟩ | ⟨j, rfl⟩
 ·refine zN ahead (by simp) (by omega) ?_
  refine ⟨_, _, _, hR, rfl, rfl, rfl, rfl, by show 6 ≤ 7; decide, ?_⟩
  refine ⟨_, _, _, Hp.set_same _ _ _, rfl, rfl, rfl, rfl, by show 7 ≤ 7; decide, ?_⟩
  exact ⟨rfl, rfl, Hp.set_set _ _ _ _⟩
 ·refine zN ahead (by omega) (by omega) ?_
  refine ⟨_, _, _, hR, rfl, rfl, rfl, rfl, by show 6 ≤ 7; decide, ?_⟩
  refine ⟨_, _, _, Hp.set_same _ _ _, rfl, rfl, rfl, rfl, by show 7 ≤ 7; decide, ?_⟩
  exact ⟨rfl, rfl, Hp.set_set _ _ _ _⟩
theorem qZS (R : Nat) (u w : AV) (l x : Str) (lim taken : Nat) (bad head want place : Int) (H : Hp) (hR : H R = some (.row TS [SpC u lim taken head want bad place])) (k : HandOk H u l) (hx : zAz H w (bt x)) (hl : l.length + x.length ≤ 1000000000000) :
  CallL Tryz.prog zGV [.ptr R 0 0, w] H fun r H' => r = .ret (.tup []) ∧ ∃ u', H' R = some (.row TS [SpC u' lim taken head want bad place]) ∧ HandOk H' u' (l ++ x) ∧ FrS R u u' H H' := by
 refine zKw (md := false) ?_
 refine ⟨_, _, _, _, hR, rfl, rfl, ?_⟩
 refine ⟨bt x, hx, ?_⟩
 refine HandOk.app k (FrS.refl R u H) hl fun u2 H3 h1 h2 h3 h4 h5 => ?_
 have hR3 := h3 R _ hR fun r => zX (by decide)
 have o2 := h1.one
 have ret : ∀ X : Hp, X = H3.set R (.row TS [SpC u2 lim taken head want bad place]) → X R = some (.row TS [SpC u2 lim taken head want bad place]) ∧ HandOk X u2 (l ++ x) ∧ FrS R u u2 H X := by
  rintro _ rfl
  refine ⟨Hp.set_same _ _ _, HandOk.row (fun y r _ hy => (Hp.set_ne fun e => ?_).trans hy) h1, h2.set _⟩
  rw [e, hR3] at hy; injection hy with hy; exact zX (by decide) hy
 refine ⟨_, _, _, hR3, rfl, o2.1, by show u2.cells.length = 1; rw [o2.2.1]; rfl, by show flat u2.cells = true; rw [o2.2.1]; exact o2.2.2, by show 1 ≤ 7; decide, ?_⟩
 exact ⟨rfl, rfl, u2, ret _ (by show H3.set R (.row TS ([SpC u lim taken head want bad place].set 0 ((SpC u lim taken head want bad place).take 0 ++ u2.cells ++ (SpC u lim taken head want bad place).drop 1))) = _; rw [o2.2.1]; rfl)⟩
end Go.Proofs.YtldbbnkacahndaaGreatDoor

namespace Go.Proofs.YtldbbnkacahndaaGreatDoor
open Go.L
theorem zPu {lim : Nat} {l : Str} (e : rdV l = .short) : badX lim l = 0 := by rw [badX, errX, jH e]; rfl
theorem zRq {lim : Nat} {l : Str} (e : rdV l = .long) : badX lim l = 11 := by rw [badX, errX, zCc e]; rfl
theorem zWr {lim v n : Nat} {l : Str} (e : rdV l = .ok v n) (h : lim < v) : badX lim l = 230 := by rw [badX, errX, zDk e h]; rfl
theorem qRO {lim v n : Nat} {l : Str} (e : rdV l = .ok v n) (h : ¬ lim < v) : badX lim l = 0 := by
 by_cases h2 : l.length - n < v
 ·rw [badX, errX, qY e h h2]; rfl
 ·rw [badX, errX, zBW e h h2]; rfl
def LenQ (R lim ahead : Nat) (u : AV) (l : Str) (H H' : Hp) : Prop :=
 (∃ head want place, H' R = some (.row TS [SpC u lim (ahead + l.length) head want (badX lim l) place]) ∧ PrS lim ahead l (badX lim l) head want place) ∧ (∀ y, H.u y = true → y ≠ R → H' y = H y) ∧ ∀ y, H.u y = true → H'.u y = true
theorem LenQ.of {R lim ahead : Nat} {u : AV} {l : Str} {H H2 : Hp} {head want place : Int} (g : Gr H H2) (p : PrS lim ahead l (badX lim l) head want place) {X : Hp} (hX : X = H2.set R (.row TS [SpC u lim (ahead + l.length) head want (badX lim l) place])) : LenQ R lim ahead u l H X := by
 subst hX
 exact ⟨⟨head, want, place, Hp.set_same _ _ _, p⟩, fun y hy hyR => (Hp.set_ne hyR).trans (g.m y hy), fun y hy => by rw [Hp.set_u, g.u y hy]; simp⟩
set_option maxHeartbeats 1000000 in
theorem zWS (R : Nat) (u : AV) (l0 : Str) (c : UInt8) (lim ahead : Nat) (H : Hp) (hR : H R = some (.row TS [SpC u lim (ahead + (l0 ++ [c]).length) 0 0 0 0])) (k : HandOk H u (l0 ++ [c])) (h0 : rdV l0 = .short) (hb : ahead + (l0 ++ [c]).length ≤ 1000000000000) (hlim : lim ≤ 16777216) :
  CallL Tryz.prog zDN [.ptr R 0 0] H fun r H' => r = .ret (.tup []) ∧ LenQ R lim ahead u (l0 ++ [c]) H H' := by
 obtain ⟨l, hl⟩ : ∃ l, l = l0 ++ [c] := ⟨_, rfl⟩
 have hend : ∀ {v n}, rdV l = .ok v n → n = l.length := fun e => by rw [hl] at e ⊢; exact zQT h0 e
 have hpos : 0 < l.length := by rw [hl]; simp
 rw [← hl] at hR k hb ⊢
 clear hl h0
 refine zIH (md := false) ?_
 have k0 := k
 rcases k with ⟨rfl, rfl⟩ | ⟨j, rfl, hj⟩
 ·cases hpos
 refine ⟨_, _, _, _, hR, rfl, rfl, ?_⟩
 refine (zOV j 0 Tb none (bt l) l H hj (by rw [zP]; omega) (by rw [List.drop_zero, ← zMT, List.take_length]) (by omega)).mono ?_
 rintro r h1 ⟨W, cv, rfl, hW0, hg, hW, ho, hcW⟩
 refine (zQX W cv 0 l.length 0 l h1 hW ho hcW (Nat.zero_le _) (Nat.le_refl _) (by omega)).mono ?_
 have e1 : (l.take l.length).drop 0 = l := by rw [List.drop_zero, List.take_length]
 rw [e1]
 intro r h2 hq
 have gs : ∀ b, Gr H (h1.set W b) := fun b => hg.set hW0 b
 unfold VarQ at hq
 cases hrd : rdV l with
 | short =>
  rw [hrd] at hq
  obtain ⟨rfl, rfl⟩ := hq
  refine (zQY W cv _ _ 10 _ _ (Hp.set_same h1 W (.row TR [RdC cv (0 : Nat) l.length 10 (0 : Nat)]))).mono ?_
  rintro r h' ⟨rfl, rfl⟩
  refine ⟨_, rfl, _, rfl, ?_⟩
  refine s_eq (fun _ => ?_) (fun h5 => absurd rfl h5)
  have hb0 := zPu (lim := lim) hrd
  refine ⟨rfl, rfl, LenQ.of (head := 0) (want := 0) (place := 0) (gs (.row TR [RdC cv (0 : Nat) l.length 10 (0 : Nat)])) (by rw [hb0]; exact .inl ⟨hrd, rfl, rfl, rfl, rfl⟩) ?_⟩
  rw [hb0]
  exact (Hp.set_self ((gs (.row TR [RdC cv (0 : Nat) l.length 10 (0 : Nat)])).blk hR)).symm
 | long =>
  rw [hrd] at hq
  obtain ⟨rfl, rfl⟩ := hq
  refine (zQY W cv _ _ 11 _ _ (Hp.set_same h1 W (.row TR [RdC cv (0 : Nat) l.length 11 (0 : Nat)]))).mono ?_
  rintro r h' ⟨rfl, rfl⟩
  refine ⟨_, rfl, _, rfl, ?_⟩
  refine s_eq (fun h5 => absurd h5 (by decide)) (fun _ => ?_)
  refine s_ne (fun _ => ?_) (fun h5 => absurd h5 (by decide))
  refine (qZd R _ l lim ahead 11 0 0 0 0 _ ((gs _).blk hR) (k0.gr (gs _)) (by omega)).mono ?_
  rintro r H3 ⟨rfl, rfl⟩
  have hb0 := zRq (lim := lim) hrd
  exact ⟨rfl, rfl, LenQ.of (head := 0) (want := 0) (place := ahead) (gs _) (by rw [hb0]; exact .inr (.inr ⟨by decide, rfl, rfl, rfl⟩)) (by rw [hb0])⟩
 | ok v n =>
  rw [hrd] at hq
  obtain ⟨rfl, rfl⟩ := hq
  have hn := hend hrd
  have hvn := zJr hrd
  refine (zQY W cv _ _ 0 _ _ (Hp.set_same h1 W (.row TR [RdC cv (0 + n : Nat) l.length 0 0]))).mono ?_
  rintro r h' ⟨rfl, rfl⟩
  refine ⟨_, rfl, _, rfl, ?_⟩
  refine s_eq (fun h5 => absurd h5 (by decide)) (fun _ => ?_)
  refine s_ne (fun h5 => absurd rfl h5) (fun _ => ?_)
  have hR2 := (gs (.row TR [RdC cv (0 + n : Nat) l.length 0 0])).blk hR
  refine ⟨_, _, _, _, hR2, rfl, rfl, ?_⟩
  refine s_ie (zAj (by omega)) ?_
  refine s_lt (fun (h5 : (lim : Int) < v) => ?_) (fun (h5 : (v : Int) ≤ lim) => ?_)
  ·refine (qZd R _ l lim ahead 230 0 0 0 0 _ hR2 (k0.gr (gs _)) (by omega)).mono ?_
   rintro r H3 ⟨rfl, rfl⟩
   have hb0 := zWr (lim := lim) hrd (by omega)
   exact ⟨rfl, rfl, LenQ.of (head := 0) (want := 0) (place := ahead) (gs _) (by rw [hb0]; exact .inr (.inr ⟨by decide, rfl, rfl, rfl⟩)) (by rw [hb0])⟩
  ·have hb0 := qRO (lim := lim) hrd (by omega)
   have p5 : PrS lim ahead l (badX lim l) (l.length : Nat) (l.length + v : Nat) 0 := by rw [hb0]; exact .inr (.inl ⟨v, n, hrd, by omega, by omega, rfl, by rw [hn], by rw [hn], rfl⟩)
   have hfin : ∀ X, X = (h1.set W (.row TR [RdC cv (0 + n : Nat) l.length 0 0])).set R (.row TS [SpC (.slc j 0 l.length none) lim (ahead + l.length) (l.length : Nat) (l.length + v : Nat) 0 0]) → LenQ R lim ahead (.slc j 0 l.length none) l H X := fun X hX => LenQ.of (gs _) p5 (by rw [hb0]; exact hX)
   have e5 := Hp.set_set (h1.set W (.row TR [RdC cv (0 + n : Nat) l.length 0 0])) R (.row TS [SpC (.slc j 0 l.length none) lim (ahead + l.length) (l.length : Nat) 0 0 0]) (.row TS [SpC (.slc j 0 l.length none) lim (ahead + l.length) (l.length : Nat) (l.length + v : Nat) 0 0])
   refine ⟨_, _, _, _, hR2, rfl, rfl, ?_⟩
   refine ⟨_, _, _, hR2, rfl, rfl, rfl, rfl, by show 4 ≤ 7; decide, ?_⟩
   refine ⟨_, _, _, _, Hp.set_same _ _ _, rfl, rfl, ?_⟩
   refine zN v rfl (by omega) ?_
   refine zN (l.length + v) (by omega) (by omega) ?_
   refine ⟨_, _, _, Hp.set_same _ _ _, rfl, rfl, rfl, rfl, by show 5 ≤ 7; decide, ?_⟩
   refine ⟨rfl, rfl, hfin _ ?_⟩
   exact e5
theorem jLp (lim : Int) (H : Hp) : CallL Tryz.prog zIl [.int .i64 lim] H fun r H' => (¬ (0 ≤ lim ∧ lim ≤ 16777216) ∧ r = .ret .nilp ∧ H' = H) ∨ ((0 ≤ lim ∧ lim ≤ 16777216) ∧ ∃ R, H.u R = false ∧ r = .ret (.ptr R 0 0) ∧ H' = H.set R (.row TS [SpC .nils lim.toNat 0 0 0 0 0])) := by
 refine zNR (md := false) ?_
 refine (qQE lim).useC (fun hr => ?_) (fun hr => ?_)
 ·have h := of_decide_eq_true hr
  obtain ⟨n, rfl⟩ : ∃ n : Nat, lim = n := ⟨lim.toNat, by omega⟩
  refine ⟨_, rfl, ?_⟩
  refine ⟨rfl, rfl, fun R hR => ?_⟩
  exact ⟨rfl, .inr ⟨h, R, hR.1, rfl, rfl⟩⟩
 ·exact ⟨rfl, .inl ⟨of_decide_eq_false hr, rfl, rfl⟩⟩
theorem jHu (R : Nat) (u : AV) (lim taken : Nat) (bad head want place : Int) (H : Hp) (hR : H R = some (.row TS [SpC u lim taken head want bad place])) :
  CallL Tryz.prog zFb [.ptr R 0 0] H fun r H' => r = .ret (.tup [.int .i64 bad, .int .i64 place]) ∧ H' = H := by
 refine zKd (md := false) ?_
 refine ⟨_, _, _, _, hR, rfl, rfl, ?_⟩
 refine ⟨_, _, _, _, hR, rfl, rfl, ?_⟩
 exact ⟨rfl, rfl, rfl⟩
theorem jOc (R : Nat) (u : AV) (l : Str) (lim ahead taken : Nat) (bad head want place : Int) (H : Hp) (hR : H R = some (.row TS [SpC u lim taken head want bad place])) (k : HandOk H u l) (hs : PrS lim ahead l bad head want place) :
  CallL Tryz.prog zGX [.ptr R 0 0] H fun r H' => r = .ret (.int .i64 (endX lim bad l)) ∧ H' = H := by
 refine zKy (md := false) ?_
 have fin : ∀ {x : Int}, x = endX lim bad l → Res.ret (.int .i64 x) = .ret (.int .i64 (endX lim bad l)) := fun h => by rw [h]
 refine ⟨_, _, _, _, hR, rfl, rfl, ?_⟩
 refine s_ne (fun (h1 : bad ≠ 0) => ?_) (fun (h1 : bad = 0) => ?_)
 ·refine ⟨_, _, _, _, hR, rfl, rfl, ?_⟩
  exact ⟨rfl, fin (by rw [endX, if_neg (fun h2 => h1 h2.1)]), rfl⟩
 ·subst h1
  refine (qYy R u l lim taken 0 head want place H hR k).mono ?_
  rintro r H1 ⟨hr, rfl⟩
  by_cases ho : 0 < l.length
  ·rw [decide_eq_true ho] at hr
   subst hr
   refine (zLq R u l lim ahead taken 0 head want place H1 hR k hs).mono ?_
   rintro r H2 ⟨hr, rfl⟩
   cases hw : jK lim 0 l with
   | false =>
    rw [hw] at hr
    subst hr
    exact ⟨rfl, fin (by rw [endX, if_pos ⟨rfl, ho, hw⟩]), rfl⟩
   | true =>
    rw [hw] at hr
    subst hr
    exact ⟨rfl, fin (by rw [endX, if_neg (fun h2 => by rw [hw] at h2; cases h2.2.2)]), rfl⟩
  ·rw [decide_eq_false ho] at hr
   subst hr
   exact ⟨rfl, fin (by rw [endX, if_neg (fun h2 => ho h2.2.1)]), rfl⟩
theorem zHg {T : Nat} {H H' : Hp} {u : AV} {d : List (List AV)} (g : ∀ b r, zG u = some b → H b = some (.row T r) → H' b = some (.row T r)) (k : OwnX T H u d) : OwnX T H' u d := by
 rcases k with k | ⟨b, row, q, rfl, h2, h3⟩
 ·exact .inl k
 ·exact .inr ⟨b, row, q, rfl, g b _ rfl h2, h3⟩
def jLo (R lim ahead : Nat) (bad : Int) (l : Str) (H : Hp) (r : Res) (H' : Hp) : Prop :=
 (jK lim bad l = false ∧ r = .ret (.tup [.nils, .bool false]) ∧ H' = H) ∨
 (jK lim bad l = true ∧ ∃ v n x, rdV l = .ok v n ∧ v ≤ lim ∧ v ≤ l.length - n ∧ n ≤ l.length ∧ r = .ret (.tup [x, .bool true]) ∧ OwnX Tb H' x (bt ((l.drop n).take v)) ∧ (∀ b, zG x = some b → H.u b = false) ∧ H' R = some (.row TS [SpC .nils lim (ahead + l.length) 0 0 0 0]) ∧ (∀ y, H.u y = true → y ≠ R → H' y = H y) ∧ ∀ y, H.u y = true → H'.u y = true)
set_option maxHeartbeats 1000000 in
theorem jBG (R : Nat) (u : AV) (l : Str) (lim ahead : Nat) (bad head want place : Int) (H : Hp) (hR : H R = some (.row TS [SpC u lim (ahead + l.length) head want bad place])) (k : HandOk H u l) (hs : PrS lim ahead l bad head want place) (hl : l.length ≤ 1000000000) :
  CallL Tryz.prog zFZ [.ptr R 0 0] H (jLo R lim ahead bad l H) := by
 refine zKb (md := false) ?_
 refine (zLq R u l lim ahead _ bad head want place H hR k hs).mono ?_
 rintro r H1 ⟨hr, rfl⟩
 cases hw : jK lim bad l with
 | false =>
  rw [hw] at hr
  subst hr
  exact ⟨rfl, .inl ⟨hw, rfl, rfl⟩⟩
 | true =>
  rw [hw] at hr
  subst hr
  obtain ⟨rfl, v, n, e1, h1, h2, h3, e2⟩ := zJg hw
  rcases hs with ⟨e, _⟩ | ⟨v', n', e, q1, q2, _, rfl, rfl, rfl⟩ | ⟨hb, _⟩
  ·rw [e] at e1; cases e1
  rotate_left
  ·exact absurd rfl hb
  obtain ⟨rfl, rfl⟩ : v' = v ∧ n' = n := by rw [e] at e1; cases e1; exact ⟨rfl, rfl⟩
  rcases k with ⟨rfl, rfl⟩ | ⟨j, rfl, hj⟩
  ·cases e1
  have hbl := zP l
  have hxl : (l.drop n').length = l.length - n' := List.length_drop
  refine ⟨_, _, _, _, hR, rfl, rfl, ?_⟩
  refine ⟨_, _, _, _, hR, rfl, rfl, ?_⟩
  refine ⟨⟨_, hj⟩, n', rfl, h3, Nat.le_refl _, ?_⟩
  have hclone := zNV j (0 + n') Tb none (bt l) (l.drop n') H1 hj (by omega) (by rw [Nat.zero_add, hxl, ← zOS, ← zMT, ← hxl, List.take_length]) (by omega)
  rw [hxl] at hclone
  refine hclone.mono ?_
  rintro r H2 ⟨x, rfl, ho, hg, hn⟩
  have hR2 := hg.blk hR
  refine ⟨_, _, _, hR2, rfl, rfl, rfl, rfl, by show 1 ≤ 7; decide, ?_⟩
  refine ⟨_, _, _, Hp.set_same _ _ _, rfl, rfl, rfl, rfl, by show 4 ≤ 7; decide, ?_⟩
  refine ⟨_, _, _, Hp.set_same _ _ _, rfl, rfl, rfl, rfl, by show 5 ≤ 7; decide, ?_⟩
  have hx2 : (l.drop n').take v' = l.drop n' := List.take_of_length_le (by omega)
  have hxR : ∀ b, zG x = some b → b ≠ R := fun b hb e => by have := hn b hb; rw [e, Hp.used hR] at this; cases this
  refine ⟨rfl, .inr ⟨hw, v', n', x, e1, h1, h2, h3, rfl, ?_, hn, ?_, fun y hy hyR => ?_, fun y hy => ?_⟩⟩
  ·rw [hx2, Hp.set_set, Hp.set_set]
   exact zHg (fun b r hb hx => (Hp.set_ne (hxR b hb)).trans hx) ho
  ·exact Hp.set_same _ _ _
  ·rw [Hp.set_set, Hp.set_set, Hp.set_ne hyR]; exact hg.m y hy
  ·rw [Hp.set_set, Hp.set_set, Hp.set_u, hg.u y hy]; simp
end Go.Proofs.YtldbbnkacahndaaGreatDoor

namespace Go.Proofs.YtldbbnkacahndaaGreatDoor
open Go.L
def zLB (R lim ahead : Nat) (u0 : AV) (H0 : Hp) (hand : Str) (bad : Int) (H : Hp) : Prop :=
 ∃ u, (∃ head want place, H R = some (.row TS [SpC u lim (ahead + hand.length) head want bad place]) ∧ PrS lim ahead hand bad head want place) ∧ HandOk H u hand ∧ FrS R u0 u H0 H
theorem qYw {R : Nat} {u0 u v : AV} {H0 H : Hp} {r : List (List AV)} {d : List (List AV)} (k : OwnX Tb H0 v d) (hR : H0 R = some (.row TS r)) (hv : ∀ x, zG v = some x → zG u0 ≠ some x) (f : FrS R u0 u H0 H) : OwnX Tb H v d :=
 zHg (fun b r hb hx => (f.m b (Hp.used hx) (fun e => by rw [e, hR] at hx; injection hx with hx; exact zX (by decide) hx) (hv b hb)).trans hx) k
theorem src1 (H : Hp) (tb : Nat) (x : Str) : zAz (H.set tb (.row Tb (bt x))) (.slc tb 0 (bt x).length (some (bt x).length)) (bt x) := ⟨_, _, Hp.set_same _ _ _, by rw [Nat.zero_add]; exact Nat.le_refl _, by rw [List.drop_zero, List.take_length]⟩
theorem zWb (R : Nat) (u0 u1 v : AV) (hand b : Str) (lim ahead n : Nat) (H0 H1 : Hp) (c : UInt8) (hc : b[n]? = some c) (hR : H1 R = some (.row TS [SpC u1 lim (ahead + hand.length) 0 0 0 0])) (h0 : rdV hand = .short) (ho : HandOk H1 u1 hand) (hf : FrS R u0 u1 H0 H1) (hs : OwnX Tb H1 v (bt b)) (hl : hand.length ≤ 100000000) (hk : b.length ≤ 100000000) (hah : ahead ≤ 100000000000) (hlim : lim ≤ 16777216)
  (e : Env) (hd : e.ds = []) (hh : Has e [(0, .ptr R 0 0), (1, v), (5, .int .i64 n)]) (Q : Xit → Env → Hp → Prop) :
  zD Tryz.prog false (.seq (.alts [66, 67, 68, 69, 70, 71, 72, 73, 74] [zDV]) (.seq (.ops zDU) (.seq (.ops zDT) (.ops zDS)))) (zCY (fun e' H' => e'.ds = [] ∧ Has e' [(0, .ptr R 0 0), (1, v), (5, .int .i64 (n + 1 : Nat))] ∧ zLB R lim ahead u0 H0 (hand ++ [c]) (badX lim (hand ++ [c])) H') Q) e H1 := by
 have hbl := zP b
 have hkl := (List.getElem?_eq_some_iff.1 hc).1
 have hcl : (hand ++ [c]).length = hand.length + 1 := by simp
 refine qX (fun e' H' => ∃ u2, e'.ds = [] ∧ Has e' [(0, .ptr R 0 0), (1, v), (5, .int .i64 n)] ∧ H' R = some (.row TS [SpC u2 lim (ahead + hand.length) 0 0 0 0]) ∧ HandOk H' u2 (hand ++ [c]) ∧ FrS R u0 u2 H0 H') ?_ ?_
 ·obtain ⟨n0, g0, rfl⟩ := hh.out hd
  rcases hs with ⟨rfl, h1⟩ | ⟨x, row, q, rfl, hx, hrow, hrl, _⟩
  ·have : b = [] := List.map_eq_nil_iff.1 h1
   subst this; cases hc
  rw [hbl] at *
  have hg : row[0 + n]? = some [.int .u8 (c.toNat : Int)] := by
   have := zNI hc
   rw [← hrow, List.getElem?_take_of_lt (by omega)] at this
   rw [Nat.zero_add]; exact this
  refine ⟨n, rfl, by omega, ⟨_, hx⟩, ?_⟩
  refine ⟨_, _, _, _, hx, hg, rfl, ?_⟩
  refine ⟨_, rfl, fun tb htb => ?_⟩
  have g1 := Gr.new1 H1 htb.1 (.row Tb (bt [c]))
  refine (qZS R u1 _ hand [c] lim _ 0 0 0 0 (H1.set tb (.row Tb (bt [c]))) (g1.blk hR) (ho.gr g1) (src1 H1 tb [c]) (by simp; omega)).mono ?_
  rintro r H3 ⟨rfl, u2, h1, h2, h3⟩
  exact ⟨u2, rfl, ⟨rfl, rfl, rfl, trivial⟩, h1, h2, (hf.gr g1).trans h3⟩
 ·rintro e2 H2 ⟨u2, hd2, hh2, hR2, ho2, hf2⟩
  refine qX (fun e' H' => e'.ds = [] ∧ Has e' [(0, .ptr R 0 0), (1, v), (5, .int .i64 (n + 1 : Nat))] ∧ H' = H2) ?_ ?_
  ·obtain ⟨n0, g0, rfl⟩ := hh2.out hd2
   refine zN (n + 1) (by omega) (by omega) ?_
   exact ⟨rfl, ⟨rfl, rfl, rfl, trivial⟩, rfl⟩
  rintro e3 H3 ⟨hd3, hh3, rfl⟩
  refine qX (fun e' H' => e'.ds = [] ∧ Has e' [(0, .ptr R 0 0), (1, v), (5, .int .i64 (n + 1 : Nat))] ∧ H' = H3.set R (.row TS [SpC u2 lim (ahead + (hand ++ [c]).length) 0 0 0 0])) ?_ ?_
  ·obtain ⟨n0, g0, rfl⟩ := hh3.out hd3
   refine ⟨_, _, _, _, hR2, rfl, rfl, ?_⟩
   refine zN (ahead + (hand ++ [c]).length) (by rw [hcl]; omega) (by omega) ?_
   refine ⟨_, _, _, hR2, rfl, rfl, rfl, rfl, by show 3 ≤ 7; decide, ?_⟩
   exact ⟨rfl, ⟨rfl, rfl, rfl, trivial⟩, rfl⟩
  rintro e4 H4 ⟨hd4, hh4, rfl⟩
  obtain ⟨n0, g0, rfl⟩ := hh4.out hd4
  have ho4 : HandOk (H3.set R (.row TS [SpC u2 lim (ahead + (hand ++ [c]).length) 0 0 0 0])) u2 (hand ++ [c]) := by
   refine HandOk.row (fun y r _ hy => (Hp.set_ne fun e => ?_).trans hy) ho2
   rw [e, hR2] at hy; injection hy with hy; exact zX (by decide) hy
  have hf4 := hf2.set (.row TS [SpC u2 lim (ahead + (hand ++ [c]).length) 0 0 0 0])
  refine (zWS R u2 hand c lim ahead _ (Hp.set_same _ _ _) ho4 h0 (by omega) hlim).mono ?_
  rintro r H5 ⟨rfl, ⟨head, want, place, q1, q2⟩, q3, q4⟩
  refine ⟨rfl, ⟨rfl, rfl, rfl, trivial⟩, u2, ⟨head, want, place, q1, q2⟩, ?_, ?_⟩
  ·refine HandOk.row (fun y r _ hy => (q3 y (Hp.used hy) fun e => ?_).trans hy) ho4
   rw [e, Hp.set_same] at hy; injection hy with hy; exact zX (by decide) hy
  ·exact ⟨fun x h1 h2 h3 => (q3 x (hf4.um x h1) h2).trans (hf4.m x h1 h2 h3), fun x h => q4 x (hf4.um x h), hf4.b⟩
theorem zQy (R : Nat) (u0 u1 v : AV) (hand b : Str) (lim ahead n vv nn k : Nat) (H0 H1 : Hp) (hk : k = min (nn + vv - hand.length) (b.length - n)) (hnb : n < b.length) (hlt : hand.length < nn + vv) (hR : H1 R = some (.row TS [SpC u1 lim (ahead + hand.length) nn (nn + vv : Nat) 0 0])) (h0 : rdV hand = .ok vv nn) (hvl : vv ≤ lim) (ho : HandOk H1 u1 hand) (hf : FrS R u0 u1 H0 H1) (hs : OwnX Tb H1 v (bt b)) (hl : hand.length ≤ 100000000) (hbk : b.length ≤ 100000000) (hah : ahead ≤ 100000000000) (hlim : lim ≤ 16777216)
  (e : Env) (hd : e.ds = []) (hh : Has e [(0, .ptr R 0 0), (1, v), (5, .int .i64 n)]) (Q : Xit → Env → Hp → Prop) :
  zD Tryz.prog false (.seq (.alts [28, 29, 30, 31, 32, 33, 34, 35, 36, 37, 38, 39, 40, 41, 42, 43, 6] [zDY]) (.seq (.alts [44, 45, 46, 47, 48, 49, 50, 51, 52, 53] [zDX]) (.alts [54, 55, 56, 57, 58, 59, 60, 61, 62, 63, 5, 64, 65] [zDW]))) (zCY (fun e' H' => e'.ds = [] ∧ Has e' [(0, .ptr R 0 0), (1, v), (5, .int .i64 (n + k : Nat))] ∧ zLB R lim ahead u0 H0 (hand ++ (b.drop n).take k) 0 H') Q) e H1 := by
 have hbl := zP b
 have hvn := zJr h0
 have hxl : ((b.drop n).take k).length = k := by rw [List.length_take, List.length_drop]; omega
 have hml : (hand ++ (b.drop n).take k).length = hand.length + k := by rw [List.length_append, hxl]
 rcases hs with ⟨rfl, h1⟩ | ⟨x, row, q, rfl, hx, hrow, hrl, hq⟩
 ·have : b = [] := List.map_eq_nil_iff.1 h1
  subst this; cases hnb
 rw [hbl] at *
 refine qX (fun e' H' => e'.ds = [] ∧ Has e' [(0, .ptr R 0 0), (1, .slc x 0 b.length q), (5, .int .i64 n), (6, .int .i64 k)] ∧ H' = H1) ?_ ?_
 ·obtain ⟨n0, g0, rfl⟩ := hh.out hd
  refine ⟨_, _, _, _, hR, rfl, rfl, ?_⟩
  refine ⟨_, _, _, _, hR, rfl, rfl, ?_⟩
  rcases ho.lenl with ⟨rfl, rfl⟩ | ⟨j, rfl⟩
  ·cases h0
  refine zN (nn + vv - hand.length) (by omega) (by omega) ?_
  refine zN (b.length - n) (by omega) (by omega) ?_
  refine s_ie (d := ((k : Nat) : Int)) (by split <;> omega) ?_
  exact ⟨rfl, ⟨rfl, rfl, rfl, rfl, trivial⟩, rfl⟩
 rintro e2 H2 ⟨hd2, hh2, rfl⟩
 refine qX (fun e' H' => ∃ u2, e'.ds = [] ∧ Has e' [(0, .ptr R 0 0), (1, .slc x 0 b.length q), (5, .int .i64 n), (6, .int .i64 k)] ∧ H' R = some (.row TS [SpC u2 lim (ahead + hand.length) nn (nn + vv : Nat) 0 0]) ∧ HandOk H' u2 (hand ++ (b.drop n).take k) ∧ FrS R u0 u2 H0 H') ?_ ?_
 ·obtain ⟨n0, g0, rfl⟩ := hh2.out hd2
  refine zN (n + k) (by omega) (by omega) ?_
  have hqd : n + k ≤ q.getD b.length := by
   rcases hq with rfl | rfl
   ·show n + k ≤ b.length; omega
   ·show n + k ≤ row.length; omega
  refine ⟨⟨_, hx⟩, _, rfl, _, rfl, Nat.le_add_right _ _, hqd, ?_⟩
  have hsrc : zAz H2 (.slc x (0 + n) (n + k - n) (q.map (· - n))) (bt ((b.drop n).take k)) := by
   refine ⟨_, _, hx, by omega, ?_⟩
   rw [Nat.zero_add, show n + k - n = k by omega, zMT, zOS, ← hrow, List.drop_take, List.take_take, Nat.min_eq_left (by omega)]
  refine (qZS R u1 _ hand ((b.drop n).take k) lim _ 0 nn _ 0 H2 hR ho hsrc (by omega)).mono ?_
  rintro r H3 ⟨rfl, u2, h1, h2, h3⟩
  exact ⟨u2, rfl, ⟨rfl, rfl, rfl, rfl, trivial⟩, h1, h2, hf.trans h3⟩
 rintro e3 H3 ⟨u2, hd3, hh3, hR3, ho3, hf3⟩
 obtain ⟨n0, g0, rfl⟩ := hh3.out hd3
 have hfin : ∀ X, X = H3.set R (.row TS [SpC u2 lim (ahead + (hand ++ (b.drop n).take k).length) nn (nn + vv : Nat) 0 0]) → zLB R lim ahead u0 H0 (hand ++ (b.drop n).take k) 0 X := by
  rintro _ rfl
  refine ⟨u2, ⟨_, _, _, Hp.set_same _ _ _, .inr (.inl ⟨vv, nn, zQU _ h0, hvl, by omega, rfl, rfl, rfl, rfl⟩)⟩, ?_, hf3.set _⟩
  refine HandOk.row (fun y r _ hy => (Hp.set_ne fun e => ?_).trans hy) ho3
  rw [e, hR3] at hy; injection hy with hy; exact zX (by decide) hy
 refine zN (n + k) (by omega) (by omega) ?_
 refine ⟨_, _, _, _, hR3, rfl, rfl, ?_⟩
 refine zN (ahead + (hand ++ (b.drop n).take k).length) (by omega) (by omega) ?_
 refine ⟨_, _, _, hR3, rfl, rfl, rfl, rfl, by show 3 ≤ 7; decide, ?_⟩
 exact ⟨rfl, ⟨rfl, rfl, rfl, trivial⟩, hfin _ rfl⟩
end Go.Proofs.YtldbbnkacahndaaGreatDoor

namespace Go.Proofs.YtldbbnkacahndaaGreatDoor
open Go.L
theorem zLz {P : Program} {md : Bool} {c : AOpd} {a b : ACode} {e : Env} {h : Hp} {Q : Xit → Env → Hp → Prop} (hc : ev e c = .bool true) (k : zD P md a Q e h) : zD P md (.cond c a b) Q e h := by
 show match ev e c with
  | .bool t => zHd t true (zD P md a Q e h) (zD P md b Q e h)
  | _ => False
 rw [hc]; exact k
theorem zMM {R k lim ahead : Nat} {u : AV} {hand : Str} {bad1 : Int} {H H1 : Hp} {X : Nat × Str × Int} {e : Env} (h1 : X.1 = 0 + k) (h2 : X.2 = (hand, bad1)) (hf : zLB R lim ahead u H hand bad1 H1) (hd : e.ds = []) (hh : Has e [(5, .int .i64 k)]) :
  e.ds = [] ∧ Has e [(5, .int .i64 X.1)] ∧ zLB R lim ahead u H X.2.1 X.2.2 H1 := by
 refine ⟨hd, by rw [h1, Nat.zero_add]; exact hh, ?_⟩
 rw [h2]; exact hf
set_option maxHeartbeats 1000000 in
theorem jEc (R : Nat) (u v : AV) (l b : Str) (lim ahead : Nat) (bad : Int) (H : Hp) (hR0 : ∃ head want place, H R = some (.row TS [SpC u lim (ahead + l.length) head want bad place]) ∧ PrS lim ahead l bad head want place) (ho : HandOk H u l) (hs : OwnX Tb H v (bt b)) (hv : ∀ x, zG v = some x → zG u ≠ some x) (hl : l.length + b.length ≤ 100000000) (hah : ahead ≤ 100000000000) (hlim : lim ≤ 16777216) :
  CallL Tryz.prog zFa [.ptr R 0 0, v] H fun r H' => r = .ret (.int .i64 (zQ lim l bad b).1) ∧ zLB R lim ahead u H (zQ lim l bad b).2.1 (zQ lim l bad b).2.2 H' := by
 have hbl := zP b
 have hRr : ∃ r, H R = some (.row TS r) := let ⟨_, _, _, h, _⟩ := hR0; ⟨_, h⟩
 obtain ⟨rr, hRr⟩ := hRr
 refine zKc (md := false) ?_
 have hv3 : (v = .nils ∧ b.length = 0) ∨ ∃ x q, v = .slc x 0 b.length q := by
  rcases hs with ⟨rfl, h⟩ | ⟨x, row, q, rfl, _⟩
  ·exact .inl ⟨rfl, by rw [List.map_eq_nil_iff.1 h]; rfl⟩
  ·exact .inr ⟨x, q, by rw [hbl]⟩
 refine zEg (id := 0) (fun e' H' => e'.ds = [] ∧ Has e' [(5, .int .i64 (zQ lim l bad b).1)] ∧ zLB R lim ahead u H (zQ lim l bad b).2.1 (zQ lim l bad b).2.2 H') ?_ ?_
 ·refine zAo b.length (fun k (s : Hp × Str × Int × Nat) => k ≤ s.2.2.2 ∧ s.2.2.2 ≤ b.length ∧ zLB R lim ahead u H s.2.1 s.2.2.1 s.1 ∧ s.2.1.length = l.length + s.2.2.2 ∧ (zQ lim l bad b).1 = (zQ lim s.2.1 s.2.2.1 (b.drop s.2.2.2)).1 + s.2.2.2 ∧ (zQ lim l bad b).2 = (zQ lim s.2.1 s.2.2.1 (b.drop s.2.2.2)).2)
   (fun _ s => [(0, .ptr R 0 0), (1, v), (5, .int .i64 (s.2.2.2 : Nat))]) (fun _ s => s.1) (H, l, bad, 0) ⟨Nat.le_refl _, Nat.zero_le _, ⟨u, hR0, ho, FrS.refl _ _ _⟩, rfl, rfl, rfl⟩ rfl rfl ⟨rfl, rfl, rfl, trivial⟩ (fun k s hI => Nat.le_trans hI.1 hI.2.1) ?_
  rintro k ⟨H1, hand, bad1, n⟩ n0 g0 hk ⟨hkn, hnb, hF, hln, hx1, hx2⟩
  simp only at hkn hnb hF hln hx1 hx2
  obtain ⟨w, hw0⟩ : ∃ w, w = v := ⟨v, rfl⟩
  have hF0 := hF
  obtain ⟨u1, ⟨head, want, place, hR1, hp⟩, ho1, hf1⟩ := hF
  have hs1 := qYw hs hRr hv hf1
  rcases hv3 with ⟨rfl, hb0⟩ | ⟨x, q, rfl⟩
  all_goals
   refine s_lt (fun h1 => ?_) (fun h1 => ?_) <;> simp only at h1
   ·have hkb : n < b.length := by omega
    obtain ⟨c, hc⟩ := zR (l := b) (k := n) hkb
    refine (zLq R u1 hand lim ahead _ bad1 head want place H1 hR1 ho1 hp).mono ?_
    rintro r H2 ⟨hr, rfl⟩
    cases hw : jK lim bad1 hand with
    | true =>
     rw [hw] at hr
     subst hr
     have hst := zDG (lim := lim) (h := hand) (bad := bad1) (b.drop n) (fun h => h.2 (of_decide_eq_true hw).2)
     rw [hst] at hx1 hx2
     exact zMM hx1 hx2 hF0 rfl ⟨rfl, trivial⟩
    | false =>
     rw [hw] at hr
     subst hr
     refine ⟨_, _, _, _, hR1, rfl, rfl, ?_⟩
     refine s_eq (fun (h2 : bad1 = 0) => ?_) (fun (h2 : bad1 ≠ 0) => ?_)
     ·subst h2
      refine zEg (id := 1) (fun e' H' => ∃ hand' bad' n', k < b.length ∧ n < n' ∧ n' ≤ b.length ∧ e'.ds = [] ∧ Has e' [(0, .ptr R 0 0), (1, w), (5, .int .i64 (n' : Nat))] ∧ zLB R lim ahead u H hand' bad' H' ∧ hand'.length = l.length + n' ∧ (zQ lim l bad b).1 = (zQ lim hand' bad' (b.drop n')).1 + n' ∧ (zQ lim l bad b).2 = (zQ lim hand' bad' (b.drop n')).2) ?_ ?_
      ·have hs1w : OwnX Tb H2 w (bt b) := by rw [hw0]; exact hs1
       rcases hp with ⟨e0, _, rfl, rfl, rfl⟩ | ⟨vv, nn, e0, hvl, hle, _, rfl, rfl, rfl⟩ | ⟨hb, _⟩
       ·rw [zHa hc] at hx1 hx2
        have hgo := zJW (lim := lim) (h := hand) (bad := 0) (c := c) (r := b.drop (n + 1)) ⟨rfl, fun h => by rw [jK, h] at hw; cases hw⟩
        rw [hgo] at hx1 hx2
        refine qX (fun e' H' => e'.ds = [] ∧ Has e' [(0, .ptr R 0 0), (1, w), (5, .int .i64 n)] ∧ H' = H2) ?_ ?_
        ·subst hw0
         refine ⟨_, _, _, _, hR1, rfl, rfl, ?_⟩
         refine s_lt (fun h => absurd h (by decide)) (fun _ => ?_)
         exact ⟨rfl, ⟨rfl, rfl, rfl, trivial⟩, rfl⟩
        ·rintro e2 H3 ⟨hd2, hh2, rfl⟩
         refine qYq _ (zWb R u u1 w hand b lim ahead n H H3 c hc hR1 e0 ho1 hf1 hs1w (by omega) (by omega) hah hlim e2 hd2 hh2 _) ?_
         rintro e4 H4 ⟨hd4, hh4, hf4⟩
         exact ⟨hand ++ [c], badX lim (hand ++ [c]), n + 1, by omega, by omega, by omega, hd4, hh4, hf4, by rw [List.length_append, hln, List.length_singleton]; omega, hx1.trans (by show _ + 1 + n = _ + (n + 1); omega), hx2⟩
       ·have hne : ¬ hand.length = nn + vv := of_decide_eq_false ((zHp e0 hvl hle).symm.trans hw)
        have hvn := zJr e0
        obtain ⟨k', hk'⟩ : ∃ k', k' = min (nn + vv - hand.length) (b.length - n) := ⟨_, rfl⟩
        have hxl : ((b.drop n).take k').length = k' := by rw [List.length_take, List.length_drop]; omega
        have hmany := zLg (lim := lim) ((b.drop n).take k') ((b.drop n).drop k') hand e0 hvl (by omega) hvn.1
        rw [List.take_append_drop, List.drop_drop, hxl] at hmany
        rw [hmany] at hx1 hx2
        refine qX (fun _ _ => False) ?_ (fun _ _ h => h.elim)
        refine qX (fun e' H' => e'.ds = [] ∧ Has e' [(0, .ptr R 0 0), (1, w), (5, .int .i64 n), (27, .bool true)] ∧ H' = H2) ?_ ?_
        ·subst hw0
         refine ⟨_, _, _, _, hR1, rfl, rfl, ?_⟩
         refine s_lt (fun _ => ?_) (fun h => by omega)
         exact ⟨rfl, ⟨rfl, rfl, rfl, rfl, trivial⟩, rfl⟩
        ·rintro e3 H3 ⟨hd3, hh3, rfl⟩
         refine zLz hh3.2.2.2.1 ?_
         refine zNc _ (zQy R u u1 w hand b lim ahead n vv nn k' H H3 hk' hkb (by omega) hR1 e0 hvl ho1 hf1 hs1w (by omega) (by omega) hah hlim e3 hd3 ⟨hh3.1, hh3.2.1, hh3.2.2.1, trivial⟩ _) ?_
         rintro e4 H4 ⟨hd4, hh4, hf4⟩
         exact ⟨hand ++ (b.drop n).take k', 0, n + k', by omega, by omega, by omega, hd4, hh4, hf4, by rw [List.length_append, hln, hxl]; omega, hx1.trans (by show _ + k' + n = _ + (n + k'); omega), hx2⟩
       ·exact absurd rfl hb
      ·subst hw0
       rintro e' H' ⟨hand', bad', n', q1, q2, q3, hd, hh, q4, q5, q6, q7⟩
       exact ⟨(H', hand', bad', n'), q1, ⟨by show k + 1 ≤ n'; omega, q3, q4, q5, q6, q7⟩, rfl, hd, hh⟩
     ·have hst := zDG (lim := lim) (h := hand) (bad := bad1) (b.drop n) (fun h => h2 h.1)
      rw [hst] at hx1 hx2
      exact zMM hx1 hx2 hF0 rfl ⟨rfl, trivial⟩
   ·have hkb : n = b.length := by omega
    have hx1' : (zQ lim l bad b).1 = 0 + n := by rw [hx1, hkb, List.drop_length, Nat.zero_add]; show 0 + b.length = b.length; omega
    rw [hkb, List.drop_length] at hx2
    exact zMM hx1' hx2 hF0 rfl ⟨rfl, trivial⟩
 ·rintro e' H' ⟨hd, hh, h3⟩
  obtain ⟨n0, g0, rfl⟩ := hh.out hd
  exact ⟨rfl, rfl, h3⟩
end Go.Proofs.YtldbbnkacahndaaGreatDoor
