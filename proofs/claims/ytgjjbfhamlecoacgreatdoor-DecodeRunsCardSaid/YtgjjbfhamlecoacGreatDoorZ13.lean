/- Contracts of functions of the given program, in the logic L: texts put together; no conditions. -/
import Derived.Test.YtgjjbfhamlecoacGreatDoorZ12
namespace Go.Proofs.YtgjjbfhamlecoacGreatDoor
open Go.L
theorem NewRd_nils {rs : List Rn} (hrs : rs = []) (h : Hp) : CallL Tryz.prog F_wire_NewReader [.nils] h (NewRd (recB rs) h) := by
 subst hrs
 refine K_wire_NewReader (md := false) ?_
 refine CallL.mono (Q := fun r h1 => ∃ v, r = .ret v ∧ NewX Tb h h1 v (bt [])) ?_ ?_
 ·refine K_slices_Clone (md := false) ?_
  exact ⟨rfl, .nils, rfl, .inl ⟨rfl, rfl⟩, Gr.refl h, fun b hb => by cases hb⟩
 rintro r h1 ⟨v, rfl, ho, hg, hn⟩
 refine ⟨_, RdC_lay ho.one rfl rfl, ?_⟩
 refine ⟨rfl, rfl, fun R hR => ?_⟩
 have hne : blkOf v ≠ some R := fun e => by have := ho.used e; rw [hR.1] at this; cases this
 exact ⟨rfl, R, v, rfl, hg.new hR.1, hg.set (hg.new hR.1) _, ⟨Hp.set_same _ _ _, ho.gr (Gr.new1 _ hR.1 _), hne, Nat.zero_le _, Nat.le_refl _, (by decide)⟩, hn⟩
set_option maxHeartbeats 2000000 in
theorem intoTM0_L {h : Hp} {S MD Tt O E A M11 clk NM c RW r0 : Nat} {z l os nv jv : AV} {es : MapL} {rs : List Rn} (k : DecH S MD Tt O E A M11 clk z l es fullM os (.slc RW 0 6 none) (.map NM) nv jv r0 h) (hRW : h RW = some (.row TRow rowsM)) (hNM : h NM = some (.map esM c))
  (hrs : rs = []) (hok : ∀ p ∈ rs, p.ok) (hxs : (recV rs).length ≤ 100000000) (e : Env) (hd : e.ds = [])
  (hh : Has e [(0, tvC S), (2, .nils), (6, .ptr O 0 0), (7, .ptr E 0 0), (8, .ptr A 0 0), (11, .ptr M11 0 0)]) : LCode Tryz.prog false intoT (EndQD Tryz.prog R_decode_Into (DecMQ r0 (recV rs))) e h := by
 obtain ⟨n0, g0, rfl⟩ := hh.out hd
 have hbl := bt_len (recB rs)
 refine s_lt (fun (h1 : (16777216 : Int) < 0) => by omega) (fun _ => ?_)
 refine (ways_L h).mono ?_
 rintro r h1' ⟨W, rfl, hW, rfl⟩
 refine ⟨_, rfl, ?_⟩
 refine ⟨rfl, rfl, fun D hDf => ?_⟩
 have g1 := ((Gr.refl h).set hW (.row TWay waysR))
 have g2 := g1.set (g1.new hDf.1) (.row TD [[tvC S, .nils, .slc W 0 3 (some 3)]])
 have k2 := k.gr g2
 have hD : ((h.set W (.row TWay waysR)).set D (.row TD [[tvC S, .nils, .slc W 0 3 (some 3)]])) D = some (.row TD [[tvC S, .nils, .slc W 0 3 (some 3)]]) := Hp.set_same _ _ _
 have hWD : W ≠ D := ne_of_u (by rw [Hp.set_u]; simp) hDf.1
 have hW2 : ((h.set W (.row TWay waysR)).set D (.row TD [[tvC S, .nils, .slc W 0 3 (some 3)]])) W = some (.row TWay waysR) := (Hp.set_ne hWD).trans (Hp.set_same _ _ _)
 refine ⟨_, _, _, k2.m, rfl, by show 3 ≤ 3; decide, ?_⟩
 refine (node0_L hD k2.tab).mono ?_
 rintro r h3 ⟨N, FM, rfl, hN, hFM, gN, kN, kFM⟩
 refine (NewRd_nils hrs _).mono ?_
 rintro r h4 ⟨R, cv, rfl, hR, g4, kR, hcv⟩
 have gg := gN.trans g4
 have hFind : ∀ H, Gr ((h.set W (.row TWay waysR)).set D (.row TD [[tvC S, .nils, .slc W 0 3 (some 3)]])) H → CallL Tryz.prog F_table_Table_Find [.ptr Tt 0 0, .int .i32 2] H fun r h' => r = .ret (.tup [.agg rowR, .bool true]) ∧ Gr H h' :=
  fun H g => Find1_L (g.blk k2.t) (g.blk (g2.blk hRW)) (g.blk (g2.blk hNM)) esM_like rfl (i := 1) rfl (by decide) rfl rfl
 refine (records1_L hD hW2 hFind hok hxs ⟨gg, g4.blk kN, kR, hN, hFM, gN.new hR, (fun P rw e => by cases e), fun _ => ⟨g4.blk kFM, rfl⟩, fun F v e => by cases e⟩).mono ?_
 rintro r h5 ⟨rfl, fs, ku, hfs⟩
 have k5 := k2.gr ku.g
 have fin : ∀ (h6 : Hp) (fv : AV), DecH S MD Tt O E A M11 clk z l es fullM os (.slc RW 0 6 none) (.map NM) nv jv r0 h6 → ((recV rs = [] ∧ fv = .nils) ∨ (recV rs ≠ [] ∧ ∃ fb lb, fv = .slc fb 0 1 none ∧ h6 fb = some (.row TFV [fvC (.slc lb 0 (recV rs).length none)]) ∧ h6 lb = some (.row TV (valsC (recV rs))))) →
   ((((h6.set O (.row TM [MsgC fullM fv .nils])).set E (.row TErr [eC 0])).set A (.row Tint [eC 0])) O = some (.row TM [MsgC fullM fv .nils]) ∧ (((h6.set O (.row TM [MsgC fullM fv .nils])).set E (.row TErr [eC 0])).set A (.row Tint [eC 0])) E = some (.row TErr [eC 0]) ∧
   (((h6.set O (.row TM [MsgC fullM fv .nils])).set E (.row TErr [eC 0])).set A (.row Tint [eC 0])) A = some (.row Tint [eC 0]) ∧ DecMQ r0 (recV rs) (.ret (.tup [.agg (MsgC fullM fv .nils), .int .i64 0, .int .i64 0])) (((h6.set O (.row TM [MsgC fullM fv .nils])).set E (.row TErr [eC 0])).set A (.row Tint [eC 0]))) := by
  intro h6 fv k6 hfv
  refine ⟨(Hp.set_ne k.OA).trans ((Hp.set_ne k.OE).trans (Hp.set_same _ _ _)), (Hp.set_ne k.EA).trans (Hp.set_same _ _ _), Hp.set_same _ _ _, (Hp.set_ne k.rA).trans ((Hp.set_ne k.rE).trans ((Hp.set_ne k.ro).trans k6.r)), fv, rfl, ?_⟩
  refine hfv.imp (fun h => h) ?_
  rintro ⟨h1, fb, lb, rfl, q1, q2⟩
  exact ⟨h1, fb, lb, rfl, (Hp.set_ne (row_ne q1 k6.a (by decide))).trans ((Hp.set_ne (row_ne q1 k6.e (by decide))).trans ((Hp.set_ne (row_ne q1 k6.o (by decide))).trans q1)), (Hp.set_ne (row_ne q2 k6.a (by decide))).trans ((Hp.set_ne (row_ne q2 k6.e (by decide))).trans ((Hp.set_ne (row_ne q2 k6.o (by decide))).trans q2))⟩
 by_cases hx : recV rs = []
 ·obtain rfl := hfs hx
  refine (msg0_L ku.nd k5.t (ku.f0 rfl).1 ⟨rfl, rfl, rfl⟩).mono ?_
  rintro r h6 ⟨rfl, g6⟩
  have k6 := k5.gr g6
  obtain ⟨q1, q2, q3, q4⟩ := fin h6 .nils k6 (.inl ⟨hx, rfl⟩)
  refine ⟨_, _, _, k6.o, rfl, rfl, rfl, rfl, by show 3 ≤ 3; decide, ?_⟩
  refine ⟨_, _, _, (Hp.set_ne k.OE.symm).trans k6.e, rfl, rfl, rfl, rfl, by show 1 ≤ 1; decide, ?_⟩
  refine ⟨_, _, _, (Hp.set_ne k.EA.symm).trans ((Hp.set_ne k.OA.symm).trans k6.a), rfl, rfl, rfl, rfl, by show 1 ≤ 1; decide, ?_⟩
  exact leaves_ret (O := O) (E := E) (A := A) (m := MsgC fullM .nils .nils) (c := 0) (p := 0) q1 rfl q2 q3 rfl rfl rfl q4
 ·obtain ⟨F, v, rfl⟩ : ∃ F v, fs = some (F, v) := by
   cases fs with
   | none => exact absurd (ku.f0 rfl).2 hx
   | some q => exact ⟨q.1, q.2, rfl⟩
  obtain ⟨q1, ⟨AM, q2⟩, q3, q4, q5⟩ := ku.f1 F v rfl
  have hil := items_len (recV rs)
  obtain ⟨j, rfl, hj⟩ : ∃ j, v = .slc j 0 (recV rs).length none ∧ h5 j = some (.row TI (items (recV rs))) := by
   rcases q5 with ⟨_, e0⟩ | ⟨j, e1, _, e3⟩
   ·rw [e0] at hil; exact absurd (List.length_eq_zero_iff.1 hil.symm) hx
   ·exact ⟨j, by rw [e1, hil], e3⟩
  refine (msg1_L ku.nd k5.t q1 q2 hj hx hxs).mono ?_
  rintro r h6 ⟨g6, fv, rfl, fb, lb, rfl, _, f2, f3, _⟩
  have k6 := k5.gr g6
  obtain ⟨q1, q2, q3, q4⟩ := fin h6 (.slc fb 0 1 none) k6 (.inr ⟨hx, fb, lb, rfl, f2, f3⟩)
  refine ⟨_, _, _, k6.o, rfl, rfl, rfl, rfl, by show 3 ≤ 3; decide, ?_⟩
  refine ⟨_, _, _, (Hp.set_ne k.OE.symm).trans k6.e, rfl, rfl, rfl, rfl, by show 1 ≤ 1; decide, ?_⟩
  refine ⟨_, _, _, (Hp.set_ne k.EA.symm).trans ((Hp.set_ne k.OA.symm).trans k6.a), rfl, rfl, rfl, rfl, by show 1 ≤ 1; decide, ?_⟩
  exact leaves_ret (O := O) (E := E) (A := A) (m := MsgC fullM (.slc fb 0 1 none) .nils) (c := 0) (p := 0) q1 rfl q2 q3 rfl rfl rfl q4
section
variable {s0 md0 t0 rw0 nm0 l0 os0 nv0 jv0 : Nat} {X3 X4 X5 : Hp}
set_option maxHeartbeats 1000000 in
theorem IntoM0_L (k : GrdM s0 md0 t0 rw0 nm0 l0 os0 nv0 jv0 X3 X4 X5) {ρ : Nat → Nat} {H : Hp} {r0 : Nat} {rs : List Rn} (hI : Img ρ X3 H) (hr : H r0 = some (.row TM [MsgC [] .nils .nils])) (or : Out ρ X3 H r0) (hrs : rs = [])
  (hok : ∀ p ∈ rs, p.ok) (hxs : (recV rs).length ≤ 100000000) :
  CallL Tryz.prog F_decode_Into [tvC (ρ s0), .agg (MsgC fullM .nils .nils), .nils] H (DecMQ r0 (recV rs)) := by
 refine CallL.ofD (md := false) Tryz.func18 C_decode_Into (by rw [Tryz.ntmps18]; exact (show 3 ≤ 56 by decide)) (by
  rw [Tryz.ntmps18]
  show LCode Tryz.prog false (.seq (.ops A_decode_Into_0) (.seq (.seq (.ops A_decode_Into_1) (.seq (.ops A_decode_Into_2) (.cond (.t 23) (.seq (.ops A_decode_Into_3) .ret) .skip))) (.seq (.ops A_decode_Into_4) (.seq (.seq (.ops A_decode_Into_5) (.cond (.t 33) (.seq (.ops A_decode_Into_6) .ret) .skip)) intoT)))) _ _ _
  refine s_then4 (fun e' h' => e'.ds = [] ∧ ∃ MD Tt O E A M11 RW NM os nv jv l es, DecH (ρ s0) MD Tt O E A M11 1 (.int .u32 0) l es fullM os (.slc RW 0 6 none) (.map NM) nv jv r0 h' ∧ h' RW = some (.row TRow rowsM) ∧ h' NM = some (.map esM 6) ∧
   Has e' [(0, tvC (ρ s0)), (2, .nils), (6, .ptr O 0 0), (7, .ptr E 0 0), (8, .ptr A 0 0), (11, .ptr M11 0 0)]) ?_ ?_
  ·refine ⟨rfl, rfl, fun m0 hm0 => ?_⟩
   refine ⟨rfl, rfl, fun o0 ho0 => ?_⟩
   refine ⟨rfl, rfl, fun e0 he0 => ?_⟩
   refine ⟨rfl, rfl, fun a0 ha0 => ?_⟩
   have g1 := (Gr.refl H).set hm0.1 (.row TM [MsgC fullM .nils .nils])
   have g2 := g1.set (g1.new ho0.1) (.row TM [MsgC [] .nils .nils])
   have g3 := g2.set (g2.new he0.1) (.row TErr [eC 0])
   have g4 := g3.set (g3.new ha0.1) (.row Tint [eC 0])
   have um := Hp.used (Hp.set_same H m0 (.row TM [MsgC fullM .nils .nils]))
   have hmo : m0 ≠ o0 := ne_of_u um ho0.1
   have hme : m0 ≠ e0 := ne_of_u (by simp) he0.1
   have hma : m0 ≠ a0 := ne_of_u (by simp) ha0.1
   have uo := Hp.used (Hp.set_same (H.set m0 (.row TM [MsgC fullM .nils .nils])) o0 (.row TM [MsgC [] .nils .nils]))
   have hoe : o0 ≠ e0 := ne_of_u uo he0.1
   have hoa : o0 ≠ a0 := ne_of_u (by simp) ha0.1
   have ue := Hp.used (Hp.set_same ((H.set m0 (.row TM [MsgC fullM .nils .nils])).set o0 (.row TM [MsgC [] .nils .nils])) e0 (.row TErr [eC 0]))
   have hea : e0 ≠ a0 := ne_of_u ue ha0.1
   generalize hH4 : (((H.set m0 (.row TM [MsgC fullM .nils .nils])).set o0 (.row TM [MsgC [] .nils .nils])).set e0 (.row TErr [eC 0])).set a0 (.row Tint [eC 0]) = H4 at g4
   have km : H4 m0 = some (.row TM [MsgC fullM .nils .nils]) := by rw [← hH4]; exact (Hp.set_ne hma).trans ((Hp.set_ne hme).trans ((Hp.set_ne hmo).trans (Hp.set_same _ _ _)))
   have ko : H4 o0 = some (.row TM [MsgC [] .nils .nils]) := by rw [← hH4]; exact (Hp.set_ne hoa).trans ((Hp.set_ne hoe).trans (Hp.set_same _ _ _))
   have ke : H4 e0 = some (.row TErr [eC 0]) := by rw [← hH4]; exact (Hp.set_ne hea).trans (Hp.set_same _ _ _)
   have ka : H4 a0 = some (.row Tint [eC 0]) := by rw [← hH4]; exact Hp.set_same _ _ _
   have I4 := hI.gr g4
   have Om : Out ρ X3 H4 m0 := Out.new hI hm0.1 (Hp.used km)
   have Oo : Out ρ X3 H4 o0 := Out.new hI (g1.new ho0.1) (Hp.used ko)
   have Oe : Out ρ X3 H4 e0 := Out.new hI (g2.new he0.1) (Hp.used ke)
   have Oa : Out ρ X3 H4 a0 := Out.new hI (g3.new ha0.1) (Hp.used ka)
   have Or := or.gr g4
   refine ⟨_, _, _, _, ((congrArg (fun X : Hp => X.m m0) hH4).trans km), rfl, rfl, ?_⟩
   refine callL_at hH4 ?_
   refine (k.tab ρ H4 I4).mono ?_
   rintro r H5 ⟨ρ1, e1, rfl, I5, n1, f1, u1⟩
   obtain ⟨m5, Om5⟩ := Om.step e1 n1 f1 u1
   obtain ⟨o5, Oo5⟩ := Oo.step e1 n1 f1 u1
   obtain ⟨e5, Oe5⟩ := Oe.step e1 n1 f1 u1
   obtain ⟨a5, Oa5⟩ := Oa.step e1 n1 f1 u1
   obtain ⟨r5, Or5⟩ := Or.step e1 n1 f1 u1
   refine ⟨_, rfl, _, rfl, ?_⟩
   refine s_ne (fun h1 => absurd rfl h1) (fun _ => ?_)
   refine ⟨_, _, _, m5.trans km, rfl, by show 3 ≤ 3; decide, ?_⟩
   have hN := k.norm ρ1 H5 I5
   have hs1 : ρ1 s0 = ρ s0 := e1 s0 k.u3
   have hargs : mps ρ1 [tvC s0, .agg (MsgC fullM .nils .nils)] = [tvC (ρ s0), .agg (MsgC fullM .nils .nils)] := by rw [← hs1]; rfl
   rw [hargs] at hN
   refine hN.mono ?_
   rintro r H6 ⟨ρ2, e2, rfl, I6, n2, f2, u2⟩
   obtain ⟨o6, _⟩ := Oo5.step e2 n2 f2 u2
   obtain ⟨e6, _⟩ := Oe5.step e2 n2 f2 u2
   obtain ⟨a6, _⟩ := Oa5.step e2 n2 f2 u2
   obtain ⟨r6, _⟩ := Or5.step e2 n2 f2 u2
   refine ⟨_, rfl, _, rfl, ?_⟩
   refine ⟨rfl, rfl, fun M11 hM => ?_⟩
   refine ⟨_, _, _, Hp.set_same _ _ _, rfl, rfl, rfl, rfl, by show 3 ≤ 3; decide, ?_⟩
   refine s_ne (fun h1 => absurd rfl h1) (fun _ => ?_)
   have gM := ((Gr.refl H6).set hM.1 (.row TM [MsgC [] .nils .nils])).set hM.1 (.row TM [MsgC fullM .nils .nils])
   have hs2 : ρ2 s0 = ρ s0 := (e2 s0 k.u4).trans hs1
   have ks := I6.blk s0 _ k.s
   rw [hs2] at ks
   refine ⟨rfl, ρ2 md0, ρ2 t0, o0, e0, a0, M11, ρ2 rw0, ρ2 nm0, .slc (ρ2 os0) 0 1 none, .map (ρ2 nv0), .map (ρ2 jv0), .ptr (ρ2 l0) 0 0, [(.str fullM, .ptr (ρ2 t0) 0 0, 0)],
    ⟨gM.blk ks, gM.blk (I6.blk md0 _ k.md), fun x hx => ⟨fullM, by rw [List.mem_singleton.1 hx]⟩, rfl, gM.blk (I6.blk t0 _ k.t), gM.blk (o6.trans (o5.trans ko)), gM.blk (e6.trans (e5.trans ke)), gM.blk (a6.trans (a5.trans ka)), Hp.set_same _ _ _, gM.blk (r6.trans (r5.trans (g4.blk hr))), ?_⟩,
    gM.blk (I6.blk rw0 _ k.rw), gM.blk (I6.blk nm0 _ k.nm), rfl, rfl, rfl, rfl, rfl, rfl, trivial⟩
   exact ne_of_u (g1.u _ (Hp.used hr)) ho0.1
  ·rintro e' h' ⟨hd, MD, Tt, O, E, A, M11, RW, NM, os, nv, jv, l, es, kd, q1, q2, hh⟩
   exact intoTM0_L kd q1 q2 hrs hok hxs e' hd hh)
theorem DecodeM0_L (k : GrdM s0 md0 t0 rw0 nm0 l0 os0 nv0 jv0 X3 X4 X5) {ρ : Nat → Nat} {H : Hp} {rs : List Rn} (hI : Img ρ X3 H) (hrs : rs = []) (hok : ∀ p ∈ rs, p.ok) (hxs : (recV rs).length ≤ 100000000) :
  CallL Tryz.prog F_decode_Decode [tvC (ρ s0), .str fullM, .nils] H fun r h' =>
   ∃ fv, r = .ret (.tup [.agg (MsgC fullM fv .nils), .int .i64 0, .int .i64 0]) ∧ ((recV rs = [] ∧ fv = .nils) ∨ (recV rs ≠ [] ∧ ∃ fb lb, fv = .slc fb 0 1 none ∧ h' fb = some (.row TFV [fvC (.slc lb 0 (recV rs).length none)]) ∧ h' lb = some (.row TV (valsC (recV rs))))) := by
 refine K_decode_Decode (md := false) ?_
 refine ⟨rfl, rfl, fun r0 hr0 => ?_⟩
 have g1 := (Gr.refl H).set hr0.1 (.row TM [MsgC [] .nils .nils])
 refine ⟨_, rfl, ?_⟩
 refine (IntoM0_L k (hI.gr g1) (Hp.set_same _ _ _) (Out.new hI hr0.1 (Hp.used (Hp.set_same _ _ _))) hrs hok hxs).mono ?_
 rintro r h' ⟨hr, fv, rfl, hfv⟩
 refine ⟨_, rfl, _, rfl, _, rfl, ?_⟩
 rcases hfv with ⟨hx, rfl⟩ | ⟨hx, fb, lb, rfl, q1, q2⟩
 ·refine ⟨_, _, _, hr, rfl, rfl, rfl, rfl, by show 3 ≤ 3; decide, ?_⟩
  refine ⟨rfl, ?_⟩
  refine ⟨_, _, _, Hp.set_same _ _ _, rfl, by show 3 ≤ 3; decide, ?_⟩
  exact ⟨_, rfl, .inl ⟨hx, rfl⟩⟩
 ·refine ⟨_, _, _, hr, rfl, rfl, rfl, rfl, by show 3 ≤ 3; decide, ?_⟩
  refine ⟨rfl, ?_⟩
  refine ⟨_, _, _, Hp.set_same _ _ _, rfl, by show 3 ≤ 3; decide, ?_⟩
  exact ⟨_, rfl, .inr ⟨hx, fb, lb, rfl, (Hp.set_ne (row_ne q1 hr (by decide))).trans q1, (Hp.set_ne (row_ne q2 hr (by decide))).trans q2⟩⟩
end
end Go.Proofs.YtgjjbfhamlecoacGreatDoor

namespace Go.Proofs.YtgjjbfhamlecoacGreatDoor
open Go.L
abbrev TFile : TypeId := 35
abbrev TFault : TypeId := 28
end Go.Proofs.YtgjjbfhamlecoacGreatDoor

namespace Go.Proofs.YtgjjbfhamlecoacGreatDoor
open Go.L
abbrev runsT : ACode := .seq (.block 0 (.loop A_lexiconlaw12_DecodeRuns_21)) (.seq (.ops A_lexiconlaw12_DecodeRuns_22) (.seq (.seq (.ops A_lexiconlaw12_DecodeRuns_23) (.cond (.t 121) (.seq (.ops [o_ 4 (.mov (.c (.bool false)))]) .ret) .skip)) (.seq (.seq (.ops A_lexiconlaw12_DecodeRuns_24) (.cond (.t 124) (.seq (.ops A_lexiconlaw12_DecodeRuns_25) .ret) .skip)) (.seq (.seq (.ops A_lexiconlaw12_DecodeRuns_26) (.cond (.t 151) (.seq (.ops [o_ 4 (.mov (.c (.bool false)))]) .ret) .skip)) (.seq (.seq (.ops [o_ 18 (.mov (i_ 0))]) (.block 4 (.loop A_lexiconlaw12_DecodeRuns_30))) (.seq (.ops A_lexiconlaw12_DecodeRuns_31) .ret))))))
abbrev QT : Xit → Env → Hp → Prop := EndQ R_lexiconlaw12_DecodeRuns fun r _ => r = .ret (.bool true)
section
variable {s0 md0 t0 rw0 nm0 l0 os0 nv0 jv0 : Nat} {X3 X4 X5 : Hp}
set_option maxHeartbeats 1000000 in
theorem vals_loop {ls : List Nat} {i15 fb lb : Nat} {H : Hp} (hls : ls.length ≤ 100000) (hrow : H i15 = some (.row TM [MsgC fullM (.slc fb 0 1 none) .nils])) (hfb : H fb = some (.row TFV [fvC (.slc lb 0 ls.length none)])) (hlb : H lb = some (.row TV (valsC ls)))
  (e : Env) (hd : e.ds = []) (hh : Has e [(0, .isl 0 (ux ls)), (15, .ptr i15 0 0)]) :
  LCode Tryz.prog false (.seq (.seq (.ops [o_ 18 (.mov (i_ 0))]) (.block 4 (.loop A_lexiconlaw12_DecodeRuns_30))) (.seq (.ops A_lexiconlaw12_DecodeRuns_31) .ret)) QT e H := by
 obtain ⟨n0, g0, rfl⟩ := hh.out hd
 have hul := ux_len ls
 have hvl : (valsC ls).length = ls.length := List.length_map ..
 refine s_then (fun e' h' => h' = H ∧ e'.ds = [] ∧ Has e' [(0, .isl 0 (ux ls)), (15, .ptr i15 0 0)]) ?_ ?_
 ·refine s_blk (id := 4) (fun e' h' => h' = H ∧ e'.ds = [] ∧ Has e' [(0, .isl 0 (ux ls)), (15, .ptr i15 0 0)]) ?_ (fun _ _ h => h)
  refine s_loop ls.length (fun k (_ : Unit) => k ≤ ls.length) (fun k _ => [(0, .isl 0 (ux ls)), (15, .ptr i15 0 0), (18, .int .i64 (k : Nat))]) (fun _ _ => H) () (Nat.zero_le _) rfl rfl ⟨rfl, rfl, rfl, trivial⟩ (fun k _ hI => hI) ?_
  rintro k ⟨⟩ n1 g1 hk _
  refine s_lt (fun (h1 : ((k : Nat) : Int) < ((ux ls).length : Nat)) => ?_) (fun (h1 : (((ux ls).length : Nat) : Int) ≤ (k : Nat)) => ?_)
  ·obtain ⟨v, hv⟩ := get_lt (l := ls) (k := k) (by omega)
   refine ⟨_, _, _, _, hrow, rfl, rfl, ?_⟩
   refine ⟨0, rfl, by decide, ⟨_, hfb⟩, ?_⟩
   refine ⟨_, _, _, _, hfb, rfl, rfl, ?_⟩
   refine ⟨k, rfl, by omega, ⟨_, hlb⟩, ?_⟩
   have hget : (valsC ls)[0 + k]? = some (vlC v) := by rw [Nat.zero_add, List.getElem?_map, hv]; rfl
   refine ⟨_, _, _, _, hlb, hget, rfl, ?_⟩
   refine s_at (f := fun v : Nat => [AV.int .u64 (v : Nat)]) k v rfl hv rfl (by decide) ?_
   refine ⟨_, rfl, ?_⟩
   refine s_ie (d := IntKind.i32.wrap (v : Int)) rfl ?_
   refine s_ie (d := IntKind.i64.wrap (IntKind.i32.wrap (v : Int))) rfl ?_
   refine s_ie (d := narI v) rfl ?_
   refine s_ne (fun h2 => absurd rfl h2) (fun _ => ?_)
   refine s_nat (k + 1) (by omega) (by omega) ?_
   exact ⟨(), by omega, by omega, rfl, rfl, rfl, rfl, rfl, trivial⟩
  ·exact ⟨rfl, rfl, rfl, rfl, trivial⟩
 ·rintro e' h' ⟨rfl, hd', hh'⟩
  obtain ⟨n1, g1, rfl⟩ := hh'.out hd'
  refine ⟨_, _, _, _, hrow, rfl, rfl, ?_⟩
  refine s_eq (fun _ => ?_) (fun h2 => absurd rfl h2)
  exact ⟨rfl, rfl⟩
set_option maxHeartbeats 1000000 in
theorem tail_L (k : GrdM s0 md0 t0 rw0 nm0 l0 os0 nv0 jv0 X3 X4 X5) {ρ : Nat → Nat} {H : Hp} (hI : Img ρ X3 H) {ls : List Nat} {cs : List Int} (hls : ls.length ≤ 100000) (hcs : cs.length ≤ 1000000000000000) (h64 : ∀ v ∈ ls, v < 18446744073709551616)
  (e : Env) (hd : e.ds = []) (hh : Has e (EL ls cs (.ptr (ρ s0) 0 0) .nils 0 0)) : LCode Tryz.prog false runsT QT e H := by
 refine s_then _ (runs_loop hls hcs h64 rfl e hd hh _) ?_
 rintro e1 H1 ⟨hd1, rs, u, kb, hh1⟩
 obtain ⟨n0, g0, rfl⟩ := hh1.out hd1
 have hul := ux_len ls
 have hrv : recV rs = ls := kb.val.trans List.take_length
 have hI1 : Img ρ X3 H1 := hI.gr kb.ac.1
 have hdec : CallL Tryz.prog F_decode_Decode [tvC (ρ s0), .str fullM, u] H1 fun r h' =>
   ∃ fv, r = .ret (.tup [.agg (MsgC fullM fv .nils), .int .i64 0, .int .i64 0]) ∧ ((recV rs = [] ∧ fv = .nils) ∨ (recV rs ≠ [] ∧ ∃ fb lb, fv = .slc fb 0 1 none ∧ h' fb = some (.row TFV [fvC (.slc lb 0 (recV rs).length none)]) ∧ h' lb = some (.row TV (valsC (recV rs))))) := by
  have hlen := kb.len
  obtain ⟨g, ⟨rfl, e0⟩ | ⟨j, rfl, hj, hjr⟩⟩ := kb.ac
  ·have hrs : rs = [] := by
    cases rs with
    | nil => rfl
    | cons p rs =>
     exfalso
     have := congrArg List.length e0
     rw [bt_len, recB_cons, List.length_append, List.length_nil] at this
     have := p.pos
     omega
   exact DecodeM0_L k hI1 hrs kb.ok (by rw [hrv]; omega)
  ·exact DecodeM_L k hI1 hjr (Out.new hI hj (Hp.used hjr)) (by omega) kb.ok (by rw [hrv]; omega)
 rw [hrv] at hdec
 refine hdec.mono ?_
 rintro r H2 ⟨fv, rfl, ⟨h0, rfl⟩ | ⟨h0, fb, lb, rfl, q1, q2⟩⟩
 ·refine ⟨_, rfl, _, rfl, _, rfl, ?_⟩
  refine ⟨rfl, rfl, fun i15 hi => ?_⟩
  refine ⟨_, _, _, Hp.set_same _ _ _, rfl, rfl, rfl, rfl, by show 3 ≤ 3; decide, ?_⟩
  refine s_ne (fun h1 => absurd rfl h1) (fun _ => ?_)
  refine s_eq (fun _ => ?_) (fun (h1 : (((ux ls).length : Nat) : Int) ≠ 0) => absurd (by rw [hul, h0]; rfl) h1)
  refine ⟨_, _, _, _, Hp.set_same _ _ _, rfl, rfl, ?_⟩
  refine s_eq (fun _ => ?_) (fun h2 => absurd rfl h2)
  exact ⟨rfl, rfl⟩
 ·have hpos := List.length_pos_iff.2 h0
  refine ⟨_, rfl, _, rfl, _, rfl, ?_⟩
  refine ⟨rfl, rfl, fun i15 hi => ?_⟩
  refine ⟨_, _, _, Hp.set_same _ _ _, rfl, rfl, rfl, rfl, by show 3 ≤ 3; decide, ?_⟩
  have g2 := ((Gr.refl H2).set hi.1 (.row TM [MsgC [] .nils .nils])).set hi.1 (.row TM [MsgC fullM (.slc fb 0 1 none) .nils])
  generalize hH3 : (H2.set i15 (.row TM [MsgC [] .nils .nils])).set i15 (.row TM [MsgC fullM (.slc fb 0 1 none) .nils]) = H3 at g2
  have hrow : H3 i15 = some (.row TM [MsgC fullM (.slc fb 0 1 none) .nils]) := by rw [← hH3]; exact Hp.set_same _ _ _
  have hfb := g2.blk q1
  have hlb := g2.blk q2
  refine s_ne (fun h1 => absurd rfl h1) (fun _ => ?_)
  refine s_eq (fun (h1 : (((ux ls).length : Nat) : Int) = 0) => by omega) (fun _ => ?_)
  refine ⟨_, _, _, _, (congrArg (fun X : Hp => X.m i15) hH3).trans hrow, rfl, rfl, ?_⟩
  refine s_ne (fun h1 => absurd rfl h1) (fun _ => ?_)
  refine ⟨_, _, _, _, (congrArg (fun X : Hp => X.m i15) hH3).trans hrow, rfl, rfl, ?_⟩
  refine ⟨0, rfl, by decide, ⟨_, (congrArg (fun X : Hp => X.m fb) hH3).trans hfb⟩, ?_⟩
  refine ⟨_, _, _, _, (congrArg (fun X : Hp => X.m fb) hH3).trans hfb, rfl, rfl, ?_⟩
  refine s_ne (fun h1 => absurd rfl h1) (fun _ => ?_)
  refine ⟨_, _, _, _, (congrArg (fun X : Hp => X.m i15) hH3).trans hrow, rfl, rfl, ?_⟩
  refine ⟨0, rfl, by decide, ⟨_, (congrArg (fun X : Hp => X.m fb) hH3).trans hfb⟩, ?_⟩
  refine ⟨_, _, _, _, (congrArg (fun X : Hp => X.m fb) hH3).trans hfb, rfl, rfl, ?_⟩
  refine s_ne (fun (h1 : ((ls.length : Nat) : Int) ≠ ((ux ls).length : Nat)) => by omega) (fun _ => ?_)
  exact vals_loop hls ((congrArg (fun X : Hp => X.m i15) hH3).trans hrow) ((congrArg (fun X : Hp => X.m fb) hH3).trans hfb) ((congrArg (fun X : Hp => X.m lb) hH3).trans hlb) _ rfl ⟨rfl, rfl, trivial⟩
end
end Go.Proofs.YtgjjbfhamlecoacGreatDoor

namespace Go.Proofs.YtgjjbfhamlecoacGreatDoor
open Go.L
abbrev fileR (a4 : Nat) : Blk := .row TFile [[.str [102], .str [], .nils, .slc a4 0 2 (some 2), .nils]]
set_option maxHeartbeats 1000000 in
theorem DecodeRuns_L {a4 a5 L s0 md0 t0 rw0 nm0 l0 os0 nv0 jv0 : Nat} {X1 X2 X3 X4 X5 : Hp} (kr : PureL Tryz.prog 4 [] (.bool true))
  (kl : ∀ ρ H, Img ρ Hp.nil H → CallL Tryz.prog 6 (mps ρ []) H (FrQ ρ Hp.nil X1 (.agg [.str [102], .str [], .nils, .slc a4 0 2 (some 2), .nils]) H))
  (u5 : X1.u a5 = false) (ok1 : ∀ i c, X1 i = some c → blkU X1.u c = true) (okb : blkU X1.u (fileR a4) = true)
  (ko : ∀ ρ H, Img ρ (X1.set a5 (fileR a4)) H → CallL Tryz.prog 5 (mps ρ [.slc a5 0 1 (some 1)]) H (FrQ ρ (X1.set a5 (fileR a4)) X2 (.tup [.ptr L 0 0, .agg [.int .i64 0, .str []]]) H))
  (kt : ∀ ρ H, Img ρ X2 H → CallL Tryz.prog 7 (mps ρ [.ptr L 0 0]) H (FrQ ρ X2 X3 (.ptr s0 0 0) H))
  (kg : GrdM s0 md0 t0 rw0 nm0 l0 os0 nv0 jv0 X3 X4 X5) (ls : List Nat) (cs : List Int) (hl : ls.length ≤ 1000000000000000) (hcs : cs.length ≤ 1000000000000000) (h64 : ∀ v ∈ ls, v < 18446744073709551616) :
  CallL Tryz.prog F_lexiconlaw12_DecodeRuns [.isl 0 (ux ls), .isl 0 (cx cs)] Hp.nil fun r _ => r = .ret (.bool true) := by
 have hul := ux_len ls
 refine K_lexiconlaw12_DecodeRuns (md := false) ?_
 refine kr.use ?_
 refine (kl id Hp.nil (Img.nil _ _)).mono ?_
 rintro r H1 ⟨ρ1, _, rfl, I1, _, _, _⟩
 refine ⟨_, rfl, fun j5 h5 => ?_⟩
 have I1' := I1.set (i0 := a5) (j := j5) u5 h5.1 ok1 okb
 have ho := ko _ _ I1'
 rw [show mps (fun i => if i = a5 then j5 else ρ1 i) [.slc a5 0 1 (some 1)] = [.slc j5 0 1 (some 1)] from by show [AV.slc (if a5 = a5 then j5 else ρ1 a5) 0 1 (some 1)] = _; rw [if_pos rfl]] at ho
 refine CallL.mono ho ?_
 rintro r H2 ⟨ρ2, _, rfl, I2, _, _, _⟩
 refine ⟨_, rfl, _, rfl, ?_⟩
 refine ⟨rfl, rfl, fun i7 h7 => ?_⟩
 refine ⟨_, _, _, Hp.set_same _ _ _, rfl, rfl, rfl, rfl, by show 2 ≤ 2; decide, ?_⟩
 refine s_lt (fun (h1 : (100000 : Int) < ((ux ls).length : Nat)) => ?_) (fun (h1 : (((ux ls).length : Nat) : Int) ≤ 100000) => ?_)
 ·exact ⟨rfl, rfl⟩
 refine ⟨_, _, _, _, Hp.set_same _ _ _, rfl, rfl, ?_⟩
 refine s_ne (fun h2 => absurd rfl h2) (fun _ => ?_)
 have g2 := ((Gr.refl H2).set h7.1 (.row TFault [[.int .i64 0, .str []]])).set h7.1 (.row TFault [[.int .i64 0, .str []]])
 have ht := kt ρ2 _ (I2.gr g2)
 refine CallL.mono ht ?_
 rintro r H3 ⟨ρ3, _, rfl, I3, _, _, _⟩
 exact tail_L kg I3 (by omega) hcs h64 _ rfl ⟨rfl, rfl, rfl, rfl, rfl, rfl, trivial⟩
end Go.Proofs.YtgjjbfhamlecoacGreatDoor
