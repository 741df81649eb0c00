/- Contracts of functions of the given program, in the logic L: texts put together; no conditions. -/
import Derived.Test.YtgjjbfhamlecoabGreatDoorZ11
import Derived.Test.YtgjjbfhamlecoabGreatDoorZ2
import Derived.Test.YtgjjbfhamlecoabGreatDoorZ3
import Derived.Test.YtgjjbfhamlecoabGreatDoorProg
import Derived.KernelRfl
namespace Go.Proofs.YtgjjbfhamlecoabGreatDoor
open Go.L
abbrev TErr : TypeId := 25
abbrev tvC (S : Nat) : AV := .ifc 36 (.ptr S 0 0)
abbrev intoT2 : ACode := .seq (.ops A_decode_Into_10) (.seq (.ops A_decode_Into_11) (.seq (.ops A_decode_Into_12) .ret))
abbrev intoT : ACode := .seq (.seq (.ops A_decode_Into_7) (.cond (.t 38) (.seq (.ops A_decode_Into_8) .ret) .skip)) (.seq (.seq (.ops [o_ 40 (.mkfn F_decode_Into_c1 [] [(.t 6), (.t 7), (.t 8)])]) (.dfr (.t 40) [])) (.seq (.ops A_decode_Into_9) intoT2))
structure DecH (S MD Tt O E A M11 clk : Nat) (z l : AV) (es : MapL) (full : Str) (os rs nm nv jv : AV) (r0 : Nat) (h : Hp) : Prop where
 s : h S = some (.row TSet [SetC z l (.map MD)])
 md : h MD = some (.map es clk)
 sk : SKeys es
 sg : sget es full = some (.ptr Tt 0 0)
 t : h Tt = some (.row TTab [TabC (.str full) os rs nm nv jv])
 o : h O = some (.row TM [MsgC [] .nils .nils])
 e : h E = some (.row TErr [eC 0])
 a : h A = some (.row Tint [eC 0])
 m : h M11 = some (.row TM [MsgC full .nils .nils])
 r : h r0 = some (.row TM [MsgC [] .nils .nils])
 ro : r0 ≠ O
section
variable {h : Hp} {S MD Tt O E A M11 clk : Nat} {z l : AV} {es : MapL} {full : Str} {os rs nm nv jv : AV} {r0 : Nat}
theorem DecH.gr (k : DecH S MD Tt O E A M11 clk z l es full os rs nm nv jv r0 h) {h' : Hp} (g : Gr h h') : DecH S MD Tt O E A M11 clk z l es full os rs nm nv jv r0 h' :=
 ⟨g.blk k.s, g.blk k.md, k.sk, k.sg, g.blk k.t, g.blk k.o, g.blk k.e, g.blk k.a, g.blk k.m, g.blk k.r, k.ro⟩
theorem DecH.OE (k : DecH S MD Tt O E A M11 clk z l es full os rs nm nv jv r0 h) : O ≠ E := row_ne k.o k.e (by decide)
theorem DecH.OA (k : DecH S MD Tt O E A M11 clk z l es full os rs nm nv jv r0 h) : O ≠ A := row_ne k.o k.a (by decide)
theorem DecH.EA (k : DecH S MD Tt O E A M11 clk z l es full os rs nm nv jv r0 h) : E ≠ A := row_ne k.e k.a (by decide)
theorem DecH.rE (k : DecH S MD Tt O E A M11 clk z l es full os rs nm nv jv r0 h) : r0 ≠ E := row_ne k.r k.e (by decide)
theorem DecH.rA (k : DecH S MD Tt O E A M11 clk z l es full os rs nm nv jv r0 h) : r0 ≠ A := row_ne k.r k.a (by decide)
theorem DecH.tab (k : DecH S MD Tt O E A M11 clk z l es full os rs nm nv jv r0 h) : ∀ h', Gr h h' → CallL Tryz.prog F_table_Set_Table [.ptr S 0 0, .str full] h' fun r h'' => r = .ret (.tup [.ptr Tt 0 0, .int .i64 0]) ∧ h'' = h' :=
 fun _ g => TableHit_L (g.blk k.s) (g.blk k.md) k.sk k.sg
theorem into_res {e : Env} {h : Hp} {O E A : Nat} {m : List AV} {n p : Int} {N : List AV → Prop} (hO : h O = some (.row TM [m])) (hm : m.length = 3) (hE : h E = some (.row TErr [eC n])) (hA : h A = some (.row Tint [eC p])) (h6 : e.t 6 = .ptr O 0 0) (h7 : e.t 7 = .ptr E 0 0) (h8 : e.t 8 = .ptr A 0 0)
  (hN : N [.agg m, .int .i64 n, .int .i64 p]) : resL e h R_decode_Into N := by
 have hv : ∀ x, ev e (.t x) = e.t x := fun _ => rfl
 have e1 : (m.drop 0).take 3 = m := by rw [List.drop_zero, ← hm, List.take_length]
 show LN (.lda 3 (.t 6)) e h _
 simp only [LN, hv, h6]
 refine ⟨_, _, _, hO, rfl, by omega, ?_⟩
 show LN (.ld1 (.t 7)) e h _
 simp only [LN, hv, h7]
 refine ⟨_, _, _, _, hE, rfl, rfl, ?_⟩
 show LN (.ld1 (.t 8)) e h _
 simp only [LN, hv, h8]
 refine ⟨_, _, _, _, hA, rfl, rfl, ?_⟩
 show N _
 rw [e1]; exact hN
abbrev dfrC (O E A : Nat) : ADef := .call (.func F_decode_Into_c1) [.ptr O 0 0, .ptr E 0 0, .ptr A 0 0] []
theorem leaves_ret {Q : Res → Hp → Prop} {e : Env} {h : Hp} {O E A : Nat} {m : List AV} {c p : Int} (hO : h O = some (.row TM [m])) (hm : m.length = 3) (hE : h E = some (.row TErr [eC c])) (hA : h A = some (.row Tint [eC p])) (h6 : e.t 6 = .ptr O 0 0) (h7 : e.t 7 = .ptr E 0 0) (h8 : e.t 8 = .ptr A 0 0)
  (hQ : Q (.ret (.tup [.agg m, .int .i64 c, .int .i64 p])) h) : LeavesL Tryz.prog R_decode_Into Q [dfrC O E A] .ret e h := by
 refine ⟨Has_Into1, (IntoD_ret _ _ _ h).mono ?_⟩
 rintro r u h' ⟨rfl, rfl, rfl⟩
 exact into_res hO hm hE hA h6 h7 h8 hQ
theorem leaves_pan {Q : Res → Hp → Prop} {e : Env} {h : Hp} {O E A : Nat} {m ec ac : List AV} {c p : Int} (hO : h O = some (.row TM [m])) (hm : m.length = 3) (hE : h E = some (.row TErr [ec])) (hec : ec.length = 1) (hA : h A = some (.row Tint [ac])) (hac : ac.length = 1) (h6 : e.t 6 = .ptr O 0 0) (h7 : e.t 7 = .ptr E 0 0) (h8 : e.t 8 = .ptr A 0 0)
  (hQ : ∀ h' : Hp, (∀ x, h.u x = true → x ≠ O → x ≠ E → x ≠ A → h' x = h x) → Q (.ret (.tup [.agg (MsgC [] .nils .nils), .int .i64 c, .int .i64 p])) h') : LeavesL Tryz.prog R_decode_Into Q [dfrC O E A] (.pan (wrongV c p)) e h := by
 refine ⟨Has_Into1, (IntoD_pan hO hm hE hec hA hac (row_ne hO hE (by decide)) (row_ne hO hA (by decide)) (row_ne hE hA (by decide))).mono ?_⟩
 rintro r u h' ⟨rfl, hu, q1, q2, q3, q4⟩
 show LeavesL _ _ _ [] (settleU u) _ _
 rw [hu]
 exact into_res q1 rfl q2 q3 h6 h7 h8 (hQ h' q4)
end
def Dec0Q (r0 : Nat) (full : Str) (b : Str) (r : Res) (h' : Hp) : Prop := h' r0 = some (.row TM [MsgC [] .nils .nils]) ∧
 ((16777216 < b.length ∧ r = .ret (.tup [.agg (MsgC [] .nils .nils), .int .i64 15, .int .i64 0])) ∨
 (b.length ≤ 16777216 ∧ (checkR 99 b).1 ≠ 0 ∧ r = .ret (.tup [.agg (MsgC [] .nils .nils), .int .i64 (checkR 99 b).1, .int .i64 (checkR 99 b).2])) ∨
 (b.length ≤ 16777216 ∧ (checkR 99 b).1 = 0 ∧ ∃ u hb, r = .ret (.tup [.agg (MsgC full .nils u), .int .i64 0, .int .i64 0]) ∧ AccE Tb hb h' u (bt b)))
set_option maxHeartbeats 2000000 in
theorem intoT0_L {h : Hp} {S MD Tt O E A M11 clk NM c gb : Nat} {z l : AV} {es : MapL} {full : Str} {os rs nv jv : AV} {r0 : Nat} {b : Str} (k : DecH S MD Tt O E A M11 clk z l es full os rs (.map NM) nv jv r0 h) (hNM : h NM = some (.map [] c)) (e : Env) (hd : e.ds = [])
  (hh : Has e [(0, tvC S), (2, .isl gb (bt b)), (6, .ptr O 0 0), (7, .ptr E 0 0), (8, .ptr A 0 0), (11, .ptr M11 0 0)]) : LCode Tryz.prog true intoT (EndQD Tryz.prog R_decode_Into (Dec0Q r0 full b)) e h := by
 obtain ⟨n0, g0, rfl⟩ := hh.out hd
 have hbl := bt_len b
 refine s_lt (fun (h1 : (16777216 : Int) < ((bt b).length : Nat)) => ?_) (fun (h1 : (((bt b).length : Nat) : Int) ≤ 16777216) => ?_)
 ·refine ⟨_, rfl, ?_⟩
  refine ⟨_, _, _, k.o, rfl, rfl, rfl, rfl, by show 3 ≤ 3; decide, ?_⟩
  refine ⟨_, _, _, (Hp.set_ne k.OE.symm).trans k.e, rfl, rfl, rfl, rfl, by show 1 ≤ 1; decide, ?_⟩
  refine ⟨_, _, _, (Hp.set_ne k.EA.symm).trans ((Hp.set_ne k.OA.symm).trans k.a), rfl, rfl, rfl, rfl, by show 1 ≤ 1; decide, ?_⟩
  refine ⟨_, _, _, (Hp.set_ne k.OA).trans ((Hp.set_ne k.OE).trans (Hp.set_same _ _ _)), rfl, by show 3 ≤ 3; decide, ?_⟩
  refine ⟨_, _, _, _, (Hp.set_ne k.EA).trans (Hp.set_same _ _ _), rfl, rfl, ?_⟩
  refine ⟨_, _, _, _, Hp.set_same _ _ _, rfl, rfl, ?_⟩
  exact ⟨(Hp.set_ne k.rA).trans ((Hp.set_ne k.rE).trans ((Hp.set_ne k.ro).trans k.r)), .inl ⟨by omega, rfl⟩⟩
 have hb16 : b.length ≤ 16777216 := by omega
 refine (ways_L h).mono ?_
 rintro r h1' ⟨W, rfl, hW, rfl⟩
 refine ⟨_, rfl, ?_⟩
 obtain ⟨D, hDf⟩ := (h.set W (.row TWay waysR)).free
 refine ⟨rfl, rfl, D, hDf, ?_⟩
 have g1 := ((Gr.refl h).set hW (.row TWay waysR))
 have g2 := g1.set (g1.new hDf.1) (.row TD [[tvC S, .isl gb (bt b), .slc W 0 3 (some 3)]])
 have k2 := k.gr g2
 have hD : ((h.set W (.row TWay waysR)).set D (.row TD [[tvC S, .isl gb (bt b), .slc W 0 3 (some 3)]])) D = some (.row TD [[tvC S, .isl gb (bt b), .slc W 0 3 (some 3)]]) := Hp.set_same _ _ _
 refine ⟨_, _, _, k2.m, rfl, by show 3 ≤ 3; decide, ?_⟩
 refine (node0_L hD k2.tab).mono ?_
 rintro r h3 ⟨N, FM, rfl, hN, hFM, gN, kN, kFM⟩
 refine (NewRd_isl gb b h3 (by omega)).mono ?_
 rintro r h4 ⟨R, cv, rfl, hR, g4, kR, hcv⟩
 have gg := gN.trans g4
 refine (records0_L hD k2.t (g2.blk hNM) ⟨gg, g4.blk kN, g4.blk kFM, kR, ⟨gg, .inl ⟨rfl, rfl⟩⟩, hN, hFM, gN.new hR, fun B _ e => by cases e⟩).mono ?_
 rintro r h5 hq
 rcases hq with ⟨hx, rfl, u, ku⟩ | ⟨hx, rfl, g5⟩
 ·have k5 := k2.gr ku.g
  have hu := AccE.one ku.ac
  refine (msg0_L ku.nd k5.t ku.fm hu).mono ?_
  rintro r h6 ⟨rfl, g6⟩
  have k6 := k5.gr g6
  have ac6 := AccE.keep ku.ac g6
  have uO : blkOf u ≠ some O := fun e => by obtain ⟨_, w⟩ := AccE.blk ac6 e; exact row_ne w k6.o (by decide) rfl
  have uE : blkOf u ≠ some E := fun e => by obtain ⟨_, w⟩ := AccE.blk ac6 e; exact row_ne w k6.e (by decide) rfl
  have uA : blkOf u ≠ some A := fun e => by obtain ⟨_, w⟩ := AccE.blk ac6 e; exact row_ne w k6.a (by decide) rfl
  refine ⟨_, _, _, k6.o, rfl, rfl, rfl, Msg_flat hu.2.2, by show 3 ≤ 3; decide, ?_⟩
  refine ⟨_, _, _, (Hp.set_ne k.OE.symm).trans k6.e, rfl, rfl, rfl, rfl, by show 1 ≤ 1; decide, ?_⟩
  refine ⟨_, _, _, (Hp.set_ne k.EA.symm).trans ((Hp.set_ne k.OA.symm).trans k6.a), rfl, rfl, rfl, rfl, by show 1 ≤ 1; decide, ?_⟩
  refine leaves_ret (O := O) (E := E) (A := A) (m := MsgC full .nils u) (c := 0) (p := 0) ((Hp.set_ne k.OA).trans ((Hp.set_ne k.OE).trans (Hp.set_same _ _ _))) rfl ((Hp.set_ne k.EA).trans (Hp.set_same _ _ _)) (Hp.set_same _ _ _) rfl rfl rfl ?_
  refine ⟨(Hp.set_ne k.rA).trans ((Hp.set_ne k.rE).trans ((Hp.set_ne k.ro).trans k6.r)), .inr (.inr ⟨hb16, hx, u, Hp.nil, rfl, ?_⟩)⟩
  obtain ⟨_, hac⟩ := ac6
  refine ⟨⟨fun x hx => (by cases hx), fun x hx => (by cases hx)⟩, ?_⟩
  rcases hac with ⟨rfl, e0⟩ | ⟨j, rfl, _, e2⟩
  ·exact .inl ⟨rfl, e0⟩
  ·exact .inr ⟨j, rfl, rfl, (Hp.set_ne fun e => uA (by rw [← e]; rfl)).trans ((Hp.set_ne fun e => uE (by rw [← e]; rfl)).trans ((Hp.set_ne fun e => uO (by rw [← e]; rfl)).trans e2))⟩
 ·have k5 := k2.gr g5
  exact leaves_pan (O := O) (E := E) (A := A) k5.o rfl k5.e rfl k5.a rfl rfl rfl rfl fun h' hf => ⟨(hf r0 (Hp.used k5.r) k.ro k.rE k.rA).trans k5.r, .inr (.inl ⟨hb16, hx, rfl⟩)⟩
end Go.Proofs.YtgjjbfhamlecoabGreatDoor

namespace Go.Proofs.YtgjjbfhamlecoabGreatDoor
open Go.L
abbrev TFile : TypeId := 34
abbrev TFault : TypeId := 27
abbrev HI (H3 : Hp) (full : Str) (r0 m0 o0 e0 a0 : Nat) : Hp := ((((H3.set r0 (.row TM [MsgC [] .nils .nils])).set m0 (.row TM [MsgC full .nils .nils])).set o0 (.row TM [MsgC [] .nils .nils])).set e0 (.row TErr [eC 0])).set a0 (.row Tint [eC 0])
structure Grd (full : Str) (a4 L i5 i7 S Tt r0 m0 o0 e0 a0 : Nat) (H1 H2 H3 H4 H5 : Hp) : Prop where
 little : ∀ Q : Res → Hp → Prop, Q (.ret (.agg [.str [102], .str [], .nils, .slc a4 0 2 (some 2), .nils])) H1 → CallL Tryz.prog 6 [] Hp.nil Q
 f5 : Fresh H1 i5
 of_ : ∀ Q : Res → Hp → Prop, Q (.ret (.tup [.ptr L 0 0, .agg [.int .i64 0, .str []]])) H2 → CallL Tryz.prog 5 [.slc i5 0 1 (some 1)] (H1.set i5 (.row TFile [[.str [102], .str [], .nils, .slc a4 0 2 (some 2), .nils]])) Q
 f7 : Fresh H2 i7
 tabs : ∀ Q : Res → Hp → Prop, Q (.ret (.ptr S 0 0)) H3 → CallL Tryz.prog 7 [.ptr L 0 0] (H2.set i7 (.row TFault [[.int .i64 0, .str []]])) Q
 fr : Fresh H3 r0
 fm : Fresh (H3.set r0 (.row TM [MsgC [] .nils .nils])) m0
 fo : Fresh ((H3.set r0 (.row TM [MsgC [] .nils .nils])).set m0 (.row TM [MsgC full .nils .nils])) o0
 fe : Fresh (((H3.set r0 (.row TM [MsgC [] .nils .nils])).set m0 (.row TM [MsgC full .nils .nils])).set o0 (.row TM [MsgC [] .nils .nils])) e0
 fa : Fresh ((((H3.set r0 (.row TM [MsgC [] .nils .nils])).set m0 (.row TM [MsgC full .nils .nils])).set o0 (.row TM [MsgC [] .nils .nils])).set e0 (.row TErr [eC 0])) a0
 tab : ∀ Q : Res → Hp → Prop, Q (.ret (.tup [.ptr Tt 0 0, .int .i64 0])) H4 → CallL Tryz.prog F_table_Set_Table [.ptr S 0 0, .str full] (HI H3 full r0 m0 o0 e0 a0) Q
 norm : ∀ Q : Res → Hp → Prop, Q (.ret (.tup [.agg (MsgC full .nils .nils), .int .i64 0])) H5 → CallL Tryz.prog 39 [tvC S, .agg (MsgC full .nils .nils)] H4 Q
 h4m : H4 m0 = some (.row TM [MsgC full .nils .nils])
structure DecB (S MD Tt O E A clk : Nat) (z l : AV) (es : MapL) (full : Str) (os rs nm nv jv : AV) (r0 : Nat) (h : Hp) : Prop where
 s : h S = some (.row TSet [SetC z l (.map MD)])
 md : h MD = some (.map es clk)
 sk : SKeys es
 sg : sget es full = some (.ptr Tt 0 0)
 t : h Tt = some (.row TTab [TabC (.str full) os rs nm nv jv])
 o : h O = some (.row TM [MsgC [] .nils .nils])
 e : h E = some (.row TErr [eC 0])
 a : h A = some (.row Tint [eC 0])
 r : h r0 = some (.row TM [MsgC [] .nils .nils])
 ro : r0 ≠ O
theorem DecB.withM {S MD Tt O E A M11 clk : Nat} {z l : AV} {es : MapL} {full : Str} {os rs nm nv jv : AV} {r0 : Nat} {h h' : Hp} (k : DecB S MD Tt O E A clk z l es full os rs nm nv jv r0 h) (g : Gr h h') (hM : h' M11 = some (.row TM [MsgC full .nils .nils])) :
  DecH S MD Tt O E A M11 clk z l es full os rs nm nv jv r0 h' := ⟨g.blk k.s, g.blk k.md, k.sk, k.sg, g.blk k.t, g.blk k.o, g.blk k.e, g.blk k.a, hM, g.blk k.r, k.ro⟩
set_option maxHeartbeats 1000000 in
theorem Into_L {full : Str} {a4 L i5 i7 S Tt r0 m0 o0 e0 a0 : Nat} {H1 H2 H3 H4 H5 : Hp} (k : Grd full a4 L i5 i7 S Tt r0 m0 o0 e0 a0 H1 H2 H3 H4 H5) {bv : AV} {Q : Res → Hp → Prop}
  (hT : ∀ (M11 : Nat) (h : Hp) (e : Env), Gr H5 h → h M11 = some (.row TM [MsgC full .nils .nils]) → e.ds = [] → Has e [(0, tvC S), (2, bv), (6, .ptr o0 0 0), (7, .ptr e0 0 0), (8, .ptr a0 0 0), (11, .ptr M11 0 0)] → LCode Tryz.prog true intoT (EndQD Tryz.prog R_decode_Into Q) e h) :
  CallL Tryz.prog F_decode_Into [tvC S, .agg (MsgC full .nils .nils), bv] (H3.set r0 (.row TM [MsgC [] .nils .nils])) Q := by
 refine CallL.ofD (md := true) Tryz.func19 C_decode_Into (by rw [Tryz.ntmps19]; exact (show 3 ≤ 56 by decide)) (by
  rw [Tryz.ntmps19]
  show LCode Tryz.prog true (.seq (.ops A_decode_Into_0) (.seq (.seq (.ops A_decode_Into_1) (.seq (.ops A_decode_Into_2) (.cond (.t 23) (.seq (.ops A_decode_Into_3) .ret) .skip))) (.seq (.ops A_decode_Into_4) (.seq (.seq (.ops A_decode_Into_5) (.cond (.t 33) (.seq (.ops A_decode_Into_6) .ret) .skip)) intoT)))) _ _ _
  refine s_then4 (fun e' h' => e'.ds = [] ∧ ∃ M11, Gr H5 h' ∧ h' M11 = some (.row TM [MsgC full .nils .nils]) ∧ Has e' [(0, tvC S), (2, bv), (6, .ptr o0 0 0), (7, .ptr e0 0 0), (8, .ptr a0 0 0), (11, .ptr M11 0 0)]) ?_ ?_
  ·refine ⟨rfl, rfl, m0, k.fm, ?_⟩
   refine ⟨rfl, rfl, o0, k.fo, ?_⟩
   refine ⟨rfl, rfl, e0, k.fe, ?_⟩
   refine ⟨rfl, rfl, a0, k.fa, ?_⟩
   have hme : m0 ≠ e0 := ne_of_u (by rw [Hp.set_u, Hp.set_u]; simp) k.fe.1
   have hma : m0 ≠ a0 := ne_of_u (by rw [Hp.set_u, Hp.set_u, Hp.set_u]; simp) k.fa.1
   have hmo : m0 ≠ o0 := ne_of_u (by rw [Hp.set_u]; simp) k.fo.1
   refine ⟨_, _, _, _, (Hp.set_ne hma).trans ((Hp.set_ne hme).trans ((Hp.set_ne hmo).trans (Hp.set_same _ _ _))), rfl, rfl, ?_⟩
   refine k.tab _ ?_
   refine ⟨_, rfl, _, rfl, ?_⟩
   refine s_ne (fun h1 => absurd rfl h1) (fun _ => ?_)
   refine ⟨_, _, _, k.h4m, rfl, by show 3 ≤ 3; decide, ?_⟩
   refine k.norm _ ?_
   refine ⟨_, rfl, _, rfl, ?_⟩
   obtain ⟨M11, hM⟩ := H5.free
   refine ⟨rfl, rfl, M11, hM, ?_⟩
   refine ⟨_, _, _, Hp.set_same _ _ _, rfl, rfl, rfl, rfl, by show 3 ≤ 3; decide, ?_⟩
   refine s_ne (fun h1 => absurd rfl h1) (fun _ => ?_)
   exact ⟨rfl, M11, ((Gr.refl H5).set hM.1 _).set hM.1 _, Hp.set_same _ _ _, rfl, rfl, rfl, rfl, rfl, rfl, trivial⟩
  ·rintro e' h' ⟨hd, M11, g, hM, hh⟩
   exact hT M11 h' e' g hM hd hh)
theorem Decode_L {full : Str} {a4 L i5 i7 S Tt r0 m0 o0 e0 a0 : Nat} {H1 H2 H3 H4 H5 : Hp} (k : Grd full a4 L i5 i7 S Tt r0 m0 o0 e0 a0 H1 H2 H3 H4 H5) {gb : Nat} {bs : List (List AV)} {QI Q : Res → Hp → Prop} (hI : CallL Tryz.prog F_decode_Into [tvC S, .agg (MsgC full .nils .nils), .isl gb bs] (H3.set r0 (.row TM [MsgC [] .nils .nils])) QI)
  (hQ : ∀ r h', QI r h' → ∃ m e p, r = .ret (.tup [.agg m, .int .i64 e, .int .i64 p]) ∧ m.length = 3 ∧ flat m = true ∧ h' r0 = some (.row TM [MsgC [] .nils .nils]) ∧ Q (.ret (.tup [.agg m, .int .i64 e, .int .i64 p])) (h'.set r0 (.row TM [m]))) :
  CallL Tryz.prog F_decode_Decode [tvC S, .str full, .isl gb bs] H3 Q := by
 refine K_decode_Decode (md := true) ?_
 refine ⟨rfl, rfl, r0, k.fr, ?_⟩
 refine ⟨_, rfl, ?_⟩
 refine hI.mono ?_
 rintro r h' hq
 obtain ⟨m, e, p, rfl, hm, hf, hr, hq⟩ := hQ r h' hq
 refine ⟨_, rfl, _, rfl, _, rfl, ?_⟩
 obtain ⟨x, y, w, rfl⟩ : ∃ x y w, m = [x, y, w] := by
  match m, hm with
  | [x, y, w], _ => exact ⟨x, y, w, rfl⟩
 refine ⟨_, _, _, hr, rfl, rfl, rfl, hf, by show 3 ≤ 3; decide, ?_⟩
 refine ⟨rfl, ?_⟩
 refine ⟨_, _, _, Hp.set_same _ _ _, rfl, by show 3 ≤ 3; decide, ?_⟩
 exact hq
end Go.Proofs.YtgjjbfhamlecoabGreatDoor

namespace Go.Proofs.YtgjjbfhamlecoabGreatDoor
open Go.L
abbrev F_lexiconlaw12_DecodeLost : Nat := 3
def A_lexiconlaw12_DecodeLost_0 : LA := [o_ 12 (.call 4 []), mv 3 12]
def A_lexiconlaw12_DecodeLost_1 : LA := [o_ 14 (.call 6 []), o_ 15 (.bslice 34 5 1 [.str [], .str [], .nils, .nils, .nils] [(0, 5, (.t 14))]), o_ 16 (.call 5 [(.t 15)]), mv 13 16, Wx 17 0 13, Wx 18 1 13, o_ 5 (.box 27 2 (.c (.agg [.int .i64 (0), .str []]))), mv 4 17, Ws 2 5 18]
def A_lexiconlaw12_DecodeLost_2 : LA := [mv 19 3, o_ 20 (.not (.t 19)), mv 21 20, Whm 22 0 21, Wh 23 (.lenl (.t 22)) 21, Wh 24 (.bini .gtr (.t 23) (i_ 33554432)) 21, Wq 25 21 24, mv 26 25, Whm 27 4 26, Wh 28 (.isnil .pt false (.t 27)) 26, Wq 29 26 28, mv 30 29, Wh 31 (.faddr 0 (.t 5)) 30, Wh 32 (.ld1 (.t 31)) 30, Wh 33 (.bini .neq (.t 32) (i_ 0)) 30, Wq 34 30 33]
def A_lexiconlaw12_DecodeLost_3 : LA := [mv 35 3, mv 2 35]
def A_lexiconlaw12_DecodeLost_4 : LA := [mv 36 4, o_ 37 (.call 7 [(.t 36)]), mv 6 37]
def A_lexiconlaw12_DecodeLost_5 : LA := [mv 39 6, o_ 40 (.mkifc 36 (.t 39)), mv 41 0, o_ 42 (.call 8 [(.t 40), (.c (.str [78, 111, 110, 101])), (.t 41)]), mv 38 42, Wx 43 0 38, Wx 44 1 38, Wx 45 2 38, o_ 7 (.box 40 3 (.c (.agg [.str [], .nils, .nils]))), Ws 3 7 43, mv 8 44, mv 9 45]
def A_lexiconlaw12_DecodeLost_6 : LA := [mv 46 0, We 47 46, Wi 48 .gtr 47 16777216]
def A_lexiconlaw12_DecodeLost_7 : LA := [mv 49 8, Wi 50 .eql 49 15, mv 51 50, Wgm 52 9 51, g_ 53 (.bini .eql (.t 52) (i_ 0)) 51, Wp 54 51 53, mv 2 54]
def A_lexiconlaw12_DecodeLost_8 : LA := [mv 56 0, o_ 57 (.call 9 [(.t 56), (i_ 99)]), mv 55 57, Wx 58 0 55, Wx 59 1 55, mv 10 58, mv 11 59]
def A_lexiconlaw12_DecodeLost_9 : LA := [mv 60 8, Wi 61 .neq 60 0]
def A_lexiconlaw12_DecodeLost_10 : LA := [mv 62 8, mv 63 10, Wb 64 .eql 62 63, mv 65 64, Wgm 66 9 65, Wgm 67 11 65, g_ 68 (.bini .eql (.t 66) (.t 67)) 65, Wp 69 65 68, mv 2 69]
def A_lexiconlaw12_DecodeLost_11 : LA := [mv 70 10, Wi 71 .eql 70 0, mv 72 71, Wgf 73 1 7 72, Wgl 74 73 72, g_ 75 (.lenl (.t 74)) 72, g_ 76 (.bini .eql (.t 75) (i_ 0)) 72, Wp 77 72 76, mv 78 77, Wgf 79 0 7 78, Wgl 80 79 78, g_ 81 (.bins .eql (.t 80) (.c (.str [78, 111, 110, 101]))) 78, Wp 82 78 81, mv 83 82, Wgf 84 2 7 83, Wgl 85 84 83, Wgm 86 0 83, g_ 87 (.call 10 [(.t 85), (.t 86)]) 83, Wp 88 83 87, mv 2 88]
def A_lexiconlaw12_DecodeLost : ACode := (.seq (.ops [Wo 2 false]) (.seq (.ops A_lexiconlaw12_DecodeLost_0) (.seq (.ops A_lexiconlaw12_DecodeLost_1) (.seq (.seq (.ops A_lexiconlaw12_DecodeLost_2) (.cond (.t 34) (.seq (.ops A_lexiconlaw12_DecodeLost_3) .ret) .skip)) (.seq (.ops A_lexiconlaw12_DecodeLost_4) (.seq (.ops A_lexiconlaw12_DecodeLost_5) (.seq (.seq (.ops A_lexiconlaw12_DecodeLost_6) (.cond (.t 48) (.seq (.ops A_lexiconlaw12_DecodeLost_7) .ret) .skip)) (.seq (.ops A_lexiconlaw12_DecodeLost_8) (.seq (.seq (.ops A_lexiconlaw12_DecodeLost_9) (.cond (.t 61) (.seq (.ops A_lexiconlaw12_DecodeLost_10) .ret) .skip)) (.seq (.ops A_lexiconlaw12_DecodeLost_11) .ret))))))))))
def R_lexiconlaw12_DecodeLost : List ARes := [.tmp 2]
theorem C_lexiconlaw12_DecodeLost : compF Tryz.prog Tryz.f3 = some (A_lexiconlaw12_DecodeLost, R_lexiconlaw12_DecodeLost) := by kernel_rfl
theorem K_lexiconlaw12_DecodeLost {md : Bool} {args : List AV} {h : Hp} {Q : Res → Hp → Prop} (hl : LCode Tryz.prog md A_lexiconlaw12_DecodeLost (EndQ R_lexiconlaw12_DecodeLost Q) (env0 89 args) h) (hn : args.length ≤ 89 := by (simp; done)) : CallL Tryz.prog F_lexiconlaw12_DecodeLost args h Q :=
 CallL.of (md := md) Tryz.func3 C_lexiconlaw12_DecodeLost (by rw [Tryz.ntmps3]; exact hn) (by rw [Tryz.ntmps3]; exact hl)
end Go.Proofs.YtgjjbfhamlecoabGreatDoor

namespace Go.Proofs.YtgjjbfhamlecoabGreatDoor
open Go.L
theorem callL_at {f : FuncId} {a : List AV} {h h' : Hp} {Q : Res → Hp → Prop} (e : h = h') (k : CallL Tryz.prog f a h' Q) : CallL Tryz.prog f a h Q := e ▸ k
abbrev none4 : Str := [78, 111, 110, 101]
theorem DecodeNone_L {a4 L i5 i7 S MD Tt r0 m0 o0 e0 a0 clk NM c : Nat} {z l : AV} {es : MapL} {os rs nv jv : AV} {H1 H2 H3 H4 H5 : Hp} (k : Grd none4 a4 L i5 i7 S Tt r0 m0 o0 e0 a0 H1 H2 H3 H4 H5)
  (k5 : DecB S MD Tt o0 e0 a0 clk z l es none4 os rs (.map NM) nv jv r0 H5) (hNM : H5 NM = some (.map [] c)) (gb : Nat) (b : Str) :
  CallL Tryz.prog F_decode_Decode [tvC S, .str none4, .isl gb (bt b)] H3 fun r h' =>
   (16777216 < b.length ∧ r = .ret (.tup [.agg (MsgC [] .nils .nils), .int .i64 15, .int .i64 0])) ∨
   (b.length ≤ 16777216 ∧ (checkR 99 b).1 ≠ 0 ∧ r = .ret (.tup [.agg (MsgC [] .nils .nils), .int .i64 (checkR 99 b).1, .int .i64 (checkR 99 b).2])) ∨
   (b.length ≤ 16777216 ∧ (checkR 99 b).1 = 0 ∧ ∃ u hb, r = .ret (.tup [.agg (MsgC none4 .nils u), .int .i64 0, .int .i64 0]) ∧ AccE Tb hb h' u (bt b)) := by
 refine Decode_L k (Into_L k (Q := Dec0Q r0 none4 b) fun M11 h e g hM hd hh => intoT0_L (k5.withM g hM) (g.blk hNM) e hd hh) ?_
 rintro r h' ⟨hr, hq⟩
 rcases hq with ⟨h1, rfl⟩ | ⟨h1, h2, rfl⟩ | ⟨h1, h2, u, hb, rfl, ha⟩
 ·exact ⟨_, _, _, rfl, rfl, rfl, hr, .inl ⟨h1, rfl⟩⟩
 ·exact ⟨_, _, _, rfl, rfl, rfl, hr, .inr (.inl ⟨h1, h2, rfl⟩)⟩
 ·have hu := AccE.one ha
  refine ⟨_, _, _, rfl, rfl, Msg_flat hu.2.2, hr, .inr (.inr ⟨h1, h2, u, Hp.nil, rfl, ?_⟩)⟩
  obtain ⟨_, hac⟩ := ha
  refine ⟨⟨fun x hx => (by cases hx), fun x hx => (by cases hx)⟩, ?_⟩
  rcases hac with ⟨rfl, e0⟩ | ⟨j, rfl, _, e2⟩
  ·exact .inl ⟨rfl, e0⟩
  ·exact .inr ⟨j, rfl, rfl, (Hp.set_ne (row_ne e2 hr (by decide))).trans e2⟩
set_option maxHeartbeats 2000000 in
theorem DecodeLost_L {a4 L i5 i7 S MD Tt r0 m0 o0 e0 a0 clk NM c : Nat} {z l : AV} {es : MapL} {os rs nv jv : AV} {H1 H2 H3 H4 H5 : Hp} (k : Grd none4 a4 L i5 i7 S Tt r0 m0 o0 e0 a0 H1 H2 H3 H4 H5)
  (k5 : DecB S MD Tt o0 e0 a0 clk z l es none4 os rs (.map NM) nv jv r0 H5) (hNM : H5 NM = some (.map [] c)) (kr : PureL Tryz.prog 4 [] (.bool true)) (b : Str) (hb : b.length ≤ 1000000000000000) :
  CallL Tryz.prog F_lexiconlaw12_DecodeLost [.isl 0 (bt b)] Hp.nil fun r _ => r = .ret (.bool true) := by
 have hbl := bt_len b
 refine K_lexiconlaw12_DecodeLost (md := true) ?_
 refine kr.use ?_
 refine k.little _ ?_
 refine ⟨_, rfl, i5, k.f5, ?_⟩
 refine k.of_ _ ?_
 refine ⟨_, rfl, _, rfl, ?_⟩
 refine ⟨rfl, rfl, i7, k.f7, ?_⟩
 refine ⟨_, _, _, Hp.set_same _ _ _, rfl, rfl, rfl, rfl, by show 2 ≤ 2; decide, ?_⟩
 refine s_lt (fun (h1 : (33554432 : Int) < ((bt b).length : Nat)) => ?_) (fun (h1 : (((bt b).length : Nat) : Int) ≤ 33554432) => ?_)
 ·exact ⟨rfl, rfl⟩
 refine ⟨_, _, _, _, Hp.set_same _ _ _, rfl, rfl, ?_⟩
 refine s_ne (fun h2 => absurd rfl h2) (fun _ => ?_)
 refine callL_at (Hp.set_set _ _ _ _) (k.tabs _ ?_)
 refine (DecodeNone_L k k5 hNM 0 b).mono ?_
 rintro r h' hq
 obtain ⟨i, hi⟩ := h'.free
 rcases hq with ⟨h3, rfl⟩ | ⟨h3, h4, rfl⟩ | ⟨h3, h4, u, hB, rfl, ha⟩
 ·refine ⟨_, rfl, _, rfl, _, rfl, ?_⟩
  refine ⟨rfl, rfl, i, hi, ?_⟩
  refine ⟨_, _, _, Hp.set_same _ _ _, rfl, rfl, rfl, rfl, by show 3 ≤ 3; decide, ?_⟩
  refine s_lt (fun _ => ?_) (fun (h5 : (((bt b).length : Nat) : Int) ≤ 16777216) => by omega)
  refine s_eq (fun _ => ?_) (fun h6 => absurd rfl h6)
  refine s_eq (fun _ => ?_) (fun h6 => absurd rfl h6)
  exact ⟨rfl, rfl⟩
 ·refine ⟨_, rfl, _, rfl, _, rfl, ?_⟩
  refine ⟨rfl, rfl, i, hi, ?_⟩
  refine ⟨_, _, _, Hp.set_same _ _ _, rfl, rfl, rfl, rfl, by show 3 ≤ 3; decide, ?_⟩
  refine s_lt (fun (h5 : (16777216 : Int) < ((bt b).length : Nat)) => by omega) (fun _ => ?_)
  refine (Check_L (NewRd_isl 0 b _ (by omega)) (by omega) (d := 99) (by decide)).mono ?_
  rintro r h2 ⟨rfl, g⟩
  refine ⟨_, rfl, _, rfl, ?_⟩
  refine s_ne (fun _ => ?_) (fun (h6 : ((checkR 99 b).1 : Int) = 0) => by omega)
  refine s_eq (fun _ => ?_) (fun h6 => absurd rfl h6)
  refine s_eq (fun _ => ?_) (fun h6 => absurd rfl h6)
  exact ⟨rfl, rfl⟩
 ·refine ⟨_, rfl, _, rfl, _, rfl, ?_⟩
  refine ⟨rfl, rfl, i, hi, ?_⟩
  have hu := AccE.one ha
  have hac := ha.2
  have hsame := same_L 1 0 b b (by omega) (by omega)
  refine ⟨_, _, _, Hp.set_same _ _ _, rfl, rfl, rfl, Msg_flat hu.2.2, by show 3 ≤ 3; decide, ?_⟩
  have hrow : ((h'.set i (.row TM [MsgC [] .nils .nils])).set i (.row TM [MsgC none4 .nils u])) i = some (.row TM [MsgC none4 .nils u]) := Hp.set_same _ _ _
  refine s_lt (fun (h5 : (16777216 : Int) < ((bt b).length : Nat)) => by omega) (fun _ => ?_)
  refine (Check_L (NewRd_isl 0 b _ (by omega)) (by omega) (d := 99) (by decide)).mono ?_
  rintro r h2 ⟨rfl, g⟩
  have hrow2 := g.blk hrow
  refine ⟨_, rfl, _, rfl, ?_⟩
  refine s_ne (fun h6 => absurd rfl h6) (fun _ => ?_)
  refine s_eq (fun _ => ?_) (fun (h6 : ((checkR 99 b).1 : Int) ≠ 0) => by omega)
  refine ⟨_, _, _, _, hrow2, rfl, rfl, ?_⟩
  refine s_eq (fun _ => ?_) (fun h6 => absurd rfl h6)
  refine ⟨_, _, _, _, hrow2, rfl, rfl, ?_⟩
  refine s_seq (fun _ => ?_) (fun h6 => absurd rfl h6)
  have e2 : (b == b) = true := by simp
  rw [e2] at hsame
  have fz : Fz anyMark 1 h2 u (.isl 1 (bt b)) := Fz.gr ((((Gr.refl h').set hi.1 (.row TM [MsgC [] .nils .nils])).set hi.1 (.row TM [MsgC none4 .nils u])).trans g) ((AccE.acc ha).fz (noidss_bt _ _))
  rcases hac with ⟨rfl, e0⟩ | ⟨j, rfl, _, hj⟩
  ·refine ⟨_, _, _, _, hrow2, rfl, rfl, ?_⟩
   refine CallL.lentP hsame (FzL.two fz (.same _ (noid_isl _ _ _ rfl))) rfl ?_
   exact ⟨rfl, rfl⟩
  ·refine ⟨_, _, _, _, hrow2, rfl, rfl, ?_⟩
   refine CallL.lentP hsame (FzL.two fz (.same _ (noid_isl _ _ _ rfl))) rfl ?_
   exact ⟨rfl, rfl⟩
end Go.Proofs.YtgjjbfhamlecoabGreatDoor
