/- Contracts of functions of the given program, in the logic L: texts put together; no conditions. -/
import Derived.Test.YtghlipffncbagaaGreatDoorZ16
import Derived.Test.YtghlipffncbagaaGreatDoorZ2
import Derived.Test.YtghlipffncbagaaGreatDoorZ3
import Derived.Test.YtghlipffncbagaaGreatDoorProg
import Derived.KernelRfl
import Derived.Test.YtghlipffncbagaaGreatDoorZ4
namespace Go.Proofs.YtghlipffncbagaaGreatDoor
open Go.L
section
variable {p : Bool} {s0 t0 rw0 nm0 : Nat} {os nv jv : AV} {X1 X2 : Hp}
theorem Check_L (k : GrdE p s0 t0 rw0 nm0 os nv jv X1 X2) (hx : ∀ i, X1.u i = true → X2.u i = true) {ρ : Nat → Nat} {H : Hp} {fb lb : Nat} {q : Option Nat} {xs : List Nat} (hI : Img ρ X1 H)
  (hf : H fb = some (.row TFV [fC (.slc lb 0 xs.length none)])) (of_ : Out ρ X1 H fb) (hl : H lb = some (.row TV (vsC xs))) (ol : Out ρ X1 H lb) (h1 : 1 ≤ xs.length) (h2 : xs.length ≤ 1000000) :
  CallL Tryz.prog F_dyn_Check [tvC (ρ s0), .agg [.str [78], .slc fb 0 1 q, .nils]] H fun r H' => r = .ret (.tup [.int .i64 0, .str []]) ∧ ∃ ρ', Mv X1 X2 ρ H ρ' H' := by
 refine K_dyn_Check (md := false) ?_
 refine ⟨rfl, rfl, fun b3 h3 => ?_⟩
 have g1 := (Gr.refl H).set h3.1 (.row TMsg [[.str [78], .slc fb 0 1 q, .nils]])
 have r3 : (H.set b3 (.row TMsg [[.str [78], .slc fb 0 1 q, .nils]])) b3 = some (.row TMsg [[.str [78], .slc fb 0 1 q, .nils]]) := Hp.set_same _ _ _
 refine (k.kinds _).mono ?_
 rintro r H1 ⟨rfl, gk⟩
 refine ⟨_, rfl, ?_⟩
 refine ⟨rfl, rfl, fun c hc => ?_⟩
 have g2 := g1.trans gk
 have g3 := g2.set (g2.new hc.1) (.row TCk [tvC (ρ s0) :: kindsF])
 have rc : (H1.set c (.row TCk [tvC (ρ s0) :: kindsF])) c = some (.row TCk [tvC (ρ s0) :: kindsF]) := Hp.set_same _ _ _
 have r3' := (Hp.set_ne (b := .row TCk [tvC (ρ s0) :: kindsF]) (ne_of_u (Hp.used (gk.blk r3)) hc.1)).trans (gk.blk r3)
 refine ⟨_, _, _, r3', rfl, by show 3 ≤ 3; decide, ?_⟩
 refine (cmessage_L k hx (hI.gr g3) rc (Out.new hI (g2.new hc.1) (Hp.used rc)) (g3.blk hf) (of_.gr g3) (g3.blk hl) (ol.gr g3) h1 h2).mono ?_
 rintro r H2 ⟨rfl, ρ', m⟩
 exact ⟨rfl, rfl, ρ', (Mv.gr hI g3).trans m (fun _ h => h)⟩
end
theorem row_ne' {H : Hp} {i j T U : Nat} {es fs : List (List AV)} (hi : H i = some (.row T es)) (hj : H j = some (.row U fs)) (hn : T ≠ U) : i ≠ j := fun e => by
 subst e; rw [hi] at hj; injection hj with hj; injection hj with h1 _; exact hn h1
theorem implicit_L (p : Bool) (h : Hp) : CallL Tryz.prog F_dyn_implicit [.agg (rowF p)] h fun r h' => r = .ret (.bool false) ∧ Gr h h' := by
 refine K_dyn_implicit (md := false) ?_
 refine ⟨rfl, rfl, fun b hb => ?_⟩
 refine ⟨_, _, _, _, Hp.set_same _ _ _, rfl, rfl, ?_⟩
 refine s_eq (fun (h3 : (3 : Int) = 1) => absurd h3 (by decide)) (fun _ => ?_)
 exact ⟨rfl, rfl, (Gr.refl h).set hb.1 _⟩
theorem values0_L : PureL Tryz.prog F_dyn_values [.nils] .nils := by
 intro h
 refine K_dyn_values (md := false) ?_
 refine s_blk (id := 0) (fun e' h' => h' = h ∧ e'.ds = [] ∧ Has e' [(3, .nils)]) ?_ ?_
 ·refine s_loop 0 (fun k (_ : Unit) => k ≤ 0) (fun _ _ => [(3, .nils), (10, .int .i64 0), (11, .int .i64 0)]) (fun _ _ => h) () (Nat.le_refl _) rfl rfl ⟨rfl, rfl, rfl, trivial⟩ (fun k _ hI => hI) ?_
  rintro k ⟨⟩ n1 g1 hk _
  refine s_lt (fun (h3 : (0 : Int) < 0) => absurd h3 (by decide)) (fun _ => ?_)
  exact ⟨rfl, rfl, rfl, trivial⟩
 ·rintro e' h' ⟨rfl, hd, hh⟩
  obtain ⟨n1, g1, rfl⟩ := hh.out hd
  exact ⟨rfl, rfl, rfl⟩
theorem Clone0_P : PureL Tryz.prog F_slices_Clone [.nils] .nils := fun h => Clone0_L h
theorem nval_L (tv : AV) (x : Nat) (h : Hp) : CallL Tryz.prog F_dyn_normalValue [tv, .agg (vC x)] h fun r h' => r = .ret (.agg (vC x)) ∧ Gr h h' := by
 refine K_dyn_normalValue (md := false) ?_
 refine ⟨rfl, rfl, fun b3 h3 => ?_⟩
 refine ⟨rfl, rfl, fun b4 h4 => ?_⟩
 have g1 := (Gr.refl h).set h3.1 (.row TV [vC x])
 have g2 := g1.set (g1.new h4.1) (.row TV [[.int .u64 0, .str [], .nils]])
 have r4 : ((h.set b3 (.row TV [vC x])).set b4 (.row TV [[.int .u64 0, .str [], .nils]])) b4 = some (.row TV [[.int .u64 0, .str [], .nils]]) := Hp.set_same _ _ _
 have h34 : b3 ≠ b4 := ne_of_u (by simp) h4.1
 have r3 : ((h.set b3 (.row TV [vC x])).set b4 (.row TV [[.int .u64 0, .str [], .nils]])) b3 = some (.row TV [vC x]) := (Hp.set_ne h34).trans (Hp.set_same _ _ _)
 refine ⟨_, _, _, _, r3, rfl, rfl, ?_⟩
 refine ⟨_, _, _, _, r3, rfl, rfl, ?_⟩
 refine ⟨_, rfl, ?_⟩
 refine ⟨rfl, rfl, fun b5 h5 => ?_⟩
 refine ⟨_, _, _, Hp.set_same _ _ _, rfl, rfl, rfl, rfl, by show 3 ≤ 3; decide, ?_⟩
 have g3 := (g2.set (g2.new h5.1) (.row TV [[.int .u64 0, .str [], .nils]])).set (g2.new h5.1) (.row TV [vC x])
 have r5 : (((((h.set b3 (.row TV [vC x])).set b4 (.row TV [[.int .u64 0, .str [], .nils]])).set b5 (.row TV [[.int .u64 0, .str [], .nils]])).set b5 (.row TV [vC x]))) b5 = some (.row TV [vC x]) := Hp.set_same _ _ _
 have h35 : b3 ≠ b5 := ne_of_u (Hp.used r3) h5.1
 have h45 : b4 ≠ b5 := ne_of_u (Hp.used r4) h5.1
 generalize hH5 : ((((h.set b3 (.row TV [vC x])).set b4 (.row TV [[.int .u64 0, .str [], .nils]])).set b5 (.row TV [[.int .u64 0, .str [], .nils]])).set b5 (.row TV [vC x])) = H5 at g3 r5
 have r3' : H5 b3 = some (.row TV [vC x]) := by rw [← hH5]; exact (Hp.set_ne h35).trans ((Hp.set_ne h35).trans r3)
 have r4' : H5 b4 = some (.row TV [[.int .u64 0, .str [], .nils]]) := by rw [← hH5]; exact (Hp.set_ne h45).trans ((Hp.set_ne h45).trans r4)
 refine ⟨_, _, _, _, (congrArg (fun X : Hp => X.m b3) hH5).trans r3', rfl, rfl, ?_⟩
 refine s_blk (id := 0) (fun e' h' => h' = H5 ∧ e'.ds = [] ∧ Has e' [(4, .ptr b4 0 0), (5, .ptr b5 0 0)]) ?_ ?_
 ·refine s_loop 0 (fun k (_ : Unit) => k ≤ 0) (fun _ _ => [(4, .ptr b4 0 0), (5, .ptr b5 0 0), (15, .int .i64 0), (16, .int .i64 0)]) (fun _ _ => H5) () (Nat.le_refl _) hH5 rfl ⟨rfl, rfl, rfl, rfl, trivial⟩ (fun k _ hI => hI) ?_
  rintro k ⟨⟩ n1 g1 hk _
  refine s_lt (fun (h3 : (0 : Int) < 0) => absurd h3 (by decide)) (fun _ => ?_)
  exact ⟨rfl, rfl, rfl, rfl, trivial⟩
 ·rintro e' h' ⟨rfl, hd, hh⟩
  obtain ⟨n1, g1', rfl⟩ := hh.out hd
  refine ⟨_, _, _, r5, rfl, by show 3 ≤ 3; decide, ?_⟩
  refine ⟨_, _, _, r4', rfl, rfl, rfl, rfl, by show 3 ≤ 3; decide, ?_⟩
  refine ⟨rfl, ?_⟩
  refine ⟨_, _, _, Hp.set_same _ _ _, rfl, by show 3 ≤ 3; decide, ?_⟩
  exact ⟨rfl, g3.set (g1.new h4.1) _⟩
abbrev EV (tv v5 v29 : AV) (t4 t7 t9 t10 b12 : Nat) : List (Nat × AV) := [(0, tv), (4, .ptr t4 0 0), (5, v5), (7, .ptr t7 0 0), (9, .ptr t9 0 0), (10, .ptr t10 0 0), (12, .ptr b12 0 0), (29, v29), (30, .int .i64 1), (31, .int .i64 0)]
abbrev EV2 (tv v5 v29 : AV) (t4 t7 t9 t10 b12 lb n k : Nat) : List (Nat × AV) := [(0, tv), (4, .ptr t4 0 0), (5, v5), (7, .ptr t7 0 0), (9, .ptr t9 0 0), (10, .ptr t10 0 0), (12, .ptr b12 0 0), (29, v29), (30, .int .i64 1), (31, .int .i64 0), (58, .slc lb 0 n none), (59, .int .i64 (n : Nat)), (60, .int .i64 (k : Nat))]
theorem vsC_snoc {xs : List Nat} {k x : Nat} (h : xs[k]? = some x) : vsC (xs.take k) ++ [vC x] = vsC (xs.take (k + 1)) := by rw [List.take_add_one, h]; simp
theorem acc_ne {T U b : Nat} {h0 H : Hp} {u : AV} {es fs : List (List AV)} (a : AccE T h0 H u es) (hb : H b = some (.row U fs)) (hn : T ≠ U) : blkOf u ≠ some b := fun e => by
 obtain ⟨_, ⟨rfl, _⟩ | ⟨j, rfl, _, hj⟩⟩ := a
 ·cases e
 ·exact row_ne' hj hb hn (Option.some.inj e)
set_option maxHeartbeats 2000000 in
theorem nvals_L {tv : AV} {xs : List Nat} {lb t4 t7 t9 t10 b12 : Nat} {v5 v29 : AV} {h0 h : Hp} (hg : Gr h0 h) (h12 : h0.u b12 = false) (r12 : h b12 = some (.row TFV [fC .nils])) (rl : h0 lb = some (.row TV (vsC xs))) (r9 : h0 t9 = some (.row TFV [fC (.slc lb 0 xs.length none)])) (hn : 1 ≤ xs.length) (hm : xs.length ≤ 1000000)
  (e : Env) (hd : e.ds = []) (hh : Has e (EV tv v5 v29 t4 t7 t9 t10 b12)) (Q : Xit → Env → Hp → Prop) :
  LCode Tryz.prog false (.seq (.ops A_dyn_normal_20) (.block 2 (.loop A_dyn_normal_27)))
   (toPost (fun e' h' => e'.ds = [] ∧ ∃ lb2, Gr h0 h' ∧ h' b12 = some (.row TFV [fC (.slc lb2 0 xs.length none)]) ∧ h' lb2 = some (.row TV (vsC xs)) ∧ h0.u lb2 = false ∧ Has e' (EV tv v5 v29 t4 t7 t9 t10 b12)) Q) e h := by
 obtain ⟨n0, g0, rfl⟩ := hh.out hd
 have hvl := vsC_len xs
 refine ⟨_, _, _, _, hg.blk r9, rfl, rfl, ?_⟩
 refine s_blk (id := 2) (fun e' h' => e'.ds = [] ∧ ∃ lb2, Gr h0 h' ∧ h' b12 = some (.row TFV [fC (.slc lb2 0 xs.length none)]) ∧ h' lb2 = some (.row TV (vsC xs)) ∧ h0.u lb2 = false ∧ Has e' (EV tv v5 v29 t4 t7 t9 t10 b12)) ?_ (fun _ _ h => h)
 refine s_loop xs.length (fun k (s : AV × Hp) => k ≤ xs.length ∧ AccE TV h0 s.2 s.1 (vsC (xs.take k)) ∧ s.2 b12 = some (.row TFV [fC s.1])) (fun k _ => EV2 tv v5 v29 t4 t7 t9 t10 b12 lb xs.length k) (fun _ s => s.2) (.nils, h)
  ⟨Nat.zero_le _, ⟨hg, .inl ⟨rfl, rfl⟩⟩, r12⟩ rfl rfl ⟨rfl, rfl, rfl, rfl, rfl, rfl, rfl, rfl, rfl, rfl, rfl, rfl, rfl, trivial⟩ (fun k s hI => hI.1) ?_
 rintro k ⟨u, s⟩ n1 g1 hk ⟨_, ac, rb⟩
 simp only at ac rb
 refine s_lt (fun (h3 : ((k : Nat) : Int) < (xs.length : Nat)) => ?_) (fun (h3 : ((xs.length : Nat) : Int) ≤ (k : Nat)) => ?_)
 ·obtain ⟨x, hx⟩ := get_lt (l := xs) (k := k) (by omega)
  have rlS := ac.1.blk rl
  have hkl : (vsC (xs.take k)).length = k := by rw [vsC_len, List.length_take]; omega
  refine ⟨k, rfl, by omega, ⟨_, rlS⟩, ?_⟩
  refine ⟨_, _, _, rlS, vsC_get hx, by show 3 ≤ 3; decide, ?_⟩
  refine ⟨rfl, rfl, fun b14 h14 => ?_⟩
  refine ⟨_, _, _, Hp.set_same _ _ _, rfl, rfl, rfl, rfl, by show 3 ≤ 3; decide, ?_⟩
  have gs := ((Gr.refl s).set h14.1 (.row TV [[.int .u64 0, .str [], .nils]])).set h14.1 (.row TV [vC x])
  have r14 : ((s.set b14 (.row TV [[.int .u64 0, .str [], .nils]])).set b14 (.row TV [vC x])) b14 = some (.row TV [vC x]) := Hp.set_same _ _ _
  have acs := ac.keep gs
  have rbs := gs.blk rb
  have fin : ∀ (tb : Nat) (s2 : Hp), Gr s s2 → Fresh s2 tb → ∀ v' H3, AccE TV h0 H3 v' (vsC (xs.take k) ++ [vC x]) → (∀ y, (s2.set tb (.row TV [vC x])).u y = true → blkOf u ≠ some y → H3 y = (s2.set tb (.row TV [vC x])) y) → (∀ y, blkOf v' = some y → blkOf u = some y ∨ (s2.set tb (.row TV [vC x])).u y = false) →
    H3 b12 = some (.row TFV [fC u]) ∧ notTup v' = true ∧ v'.cells.length = 1 ∧ flat v'.cells = true ∧ AccE TV h0 (H3.set b12 (.row TFV [fC v'])) v' (vsC (xs.take (k + 1))) ∧ (fC u).take 2 ++ v'.cells ++ (fC u).drop 3 = fC v' := by
   intro tb s2 g2 htb v' H3 ha hf hb
   have q1 := g2.blk rb
   have q2 : (s2.set tb (.row TV [vC x])) b12 = some (.row TFV [fC u]) := (Hp.set_ne (ne_of_u (Hp.used q1) htb.1)).trans q1
   have hne : blkOf u ≠ some b12 := acc_ne ac rb (by decide)
   have q3 : H3 b12 = some (.row TFV [fC u]) := (hf b12 (Hp.used q2) hne).trans q2
   have ho := ha.one
   refine ⟨q3, ho.1, by rw [ho.2.1]; rfl, by rw [ho.2.1]; exact ho.2.2, ?_, by rw [ho.2.1]; rfl⟩
   rw [← vsC_snoc hx]
   have hne2 : blkOf v' ≠ some b12 := acc_ne ha q3 (by decide)
   obtain ⟨g, kk⟩ := ha
   refine ⟨g.set h12 _, kk.imp (fun h => h) ?_⟩
   rintro ⟨j, rfl, h1, h2⟩
   exact ⟨j, rfl, h1, (Hp.set_ne fun e => hne2 (by rw [e]; rfl)).trans h2⟩
  refine .inr (.inr ⟨?_, ?_⟩)
  ·refine ⟨_, _, _, r14, rfl, by show 3 ≤ 3; decide, ?_⟩
   refine ⟨_, _, _, _, rbs, rfl, rfl, ?_⟩
   refine (nval_L tv x _).mono ?_
   rintro r s2 ⟨rfl, g2⟩
   refine ⟨_, rfl, fun tb htb => ?_⟩
   refine ⟨[vC x], ⟨_, _, Hp.set_same _ _ _, Nat.le_refl _, rfl⟩, ?_⟩
   refine AccE.app ((acs.keep g2).set htb.1 _) (fun cs h => by rw [List.mem_singleton.1 h]; rfl) (fun cs h => by rw [List.mem_singleton.1 h]; rfl) (by rw [hkl]; unfold capMax; simp; omega) (by rw [hkl]; unfold capMax; simp; omega) fun v' H3 ha hf hu hb => ?_
   obtain ⟨q1, q2, q3, q4, q5, q6⟩ := fin tb s2 (gs.trans g2) htb v' H3 ha hf hb
   refine ⟨_, _, _, q1, rfl, q2, q3, q4, by show 3 ≤ 3; decide, ?_⟩
   refine s_nat (k + 1) (by omega) (by omega) ?_
   refine ⟨(v', H3.set b12 (.row TFV [fC v'])), by omega, ⟨by omega, q5, Hp.set_same _ _ _⟩, congrArg (fun r => H3.set b12 (.row TFV [r])) q6, rfl, rfl, rfl, rfl, rfl, rfl, rfl, rfl, rfl, rfl, rfl, rfl, rfl, rfl, trivial⟩
  ·refine ⟨_, _, _, r14, rfl, by show 3 ≤ 3; decide, ?_⟩
   refine (nval_L tv x _).mono ?_
   rintro r s2 ⟨rfl, g2⟩
   refine ⟨_, _, _, _, g2.blk rbs, rfl, rfl, ?_⟩
   refine ⟨_, rfl, fun tb htb => ?_⟩
   refine ⟨[vC x], ⟨_, _, Hp.set_same _ _ _, Nat.le_refl _, rfl⟩, ?_⟩
   refine AccE.app ((acs.keep g2).set htb.1 _) (fun cs h => by rw [List.mem_singleton.1 h]; rfl) (fun cs h => by rw [List.mem_singleton.1 h]; rfl) (by rw [hkl]; unfold capMax; simp; omega) (by rw [hkl]; unfold capMax; simp; omega) fun v' H3 ha hf hu hb => ?_
   obtain ⟨q1, q2, q3, q4, q5, q6⟩ := fin tb s2 (gs.trans g2) htb v' H3 ha hf hb
   refine ⟨_, _, _, q1, rfl, q2, q3, q4, by show 3 ≤ 3; decide, ?_⟩
   refine s_nat (k + 1) (by omega) (by omega) ?_
   refine ⟨(v', H3.set b12 (.row TFV [fC v'])), by omega, ⟨by omega, q5, Hp.set_same _ _ _⟩, congrArg (fun r => H3.set b12 (.row TFV [r])) q6, rfl, rfl, rfl, rfl, rfl, rfl, rfl, rfl, rfl, rfl, rfl, rfl, rfl, rfl, trivial⟩
 ·obtain rfl : k = xs.length := by omega
  rw [List.take_length] at ac
  obtain ⟨g, ⟨_, e0⟩ | ⟨j, rfl, hj, hjr⟩⟩ := ac
  ·have := congrArg List.length e0
   rw [hvl, List.length_nil] at this; omega
  ·rw [hvl] at rb
   exact ⟨rfl, j, g, rb, hjr, hj, rfl, rfl, rfl, rfl, rfl, rfl, rfl, rfl, rfl, rfl, trivial⟩
end Go.Proofs.YtghlipffncbagaaGreatDoor

namespace Go.Proofs.YtghlipffncbagaaGreatDoor
open Go.L
theorem Mv.setOut {X X' : Hp} {ρ ρ' : Nat → Nat} {H H' : Hp} (m : Mv X X' ρ H ρ' H') {b : Nat} (hb : H.u b = false) (o : Out ρ' X' H' b) (x : Blk) : Mv X X' ρ H ρ' (H'.set b x) :=
 ⟨m.img.keep (fun i hi => Hp.set_ne (o.no i hi)) (fun j hj => by rw [Hp.set_u, hj]; simp), m.same, fun B k => ⟨(Hp.set_ne (ne_of_u k.used hb)).trans (m.out B k).1, by rw [Hp.set_u, (m.out B k).2.used]; simp, (m.out B k).2.no⟩, fun j hj => by rw [Hp.set_u, m.used j hj]; simp⟩
section
variable {p : Bool} {s0 t0 rw0 nm0 : Nat} {os nv jv : AV} {X1 X2 : Hp}
def MsgQ (X X' : Hp) (ρ : Nat → Nat) (H : Hp) (xs : List Nat) (m : AV) (H' : Hp) : Prop := ∃ ρ' fb lb, m = .agg [.str [78], .slc fb 0 1 none, .nils] ∧ H' fb = some (.row TFV [fC (.slc lb 0 xs.length none)]) ∧ H' lb = some (.row TV (vsC xs)) ∧ Mv X X' ρ H ρ' H' ∧ Out ρ' X' H' fb ∧ Out ρ' X' H' lb
set_option maxHeartbeats 4000000 in
theorem normal_L (k : GrdE p s0 t0 rw0 nm0 os nv jv X1 X2) {ρ : Nat → Nat} {H : Hp} {fb lb : Nat} {q : Option Nat} {xs : List Nat} (hI : Img ρ X2 H)
  (hf : H fb = some (.row TFV [fC (.slc lb 0 xs.length none)])) (of_ : Out ρ X2 H fb) (hl : H lb = some (.row TV (vsC xs))) (ol : Out ρ X2 H lb) (h1 : 1 ≤ xs.length) (h2 : xs.length ≤ 1000000) :
  CallL Tryz.prog F_dyn_normal [tvC (ρ s0), .agg [.str [78], .slc fb 0 1 q, .nils]] H fun r H' => ∃ m, r = .ret m ∧ MsgQ X2 X2 ρ H xs m H' := by
 refine K_dyn_normal (md := false) ?_
 refine ⟨rfl, rfl, fun b3 h3 => ?_⟩
 refine ⟨rfl, rfl, fun b4 h4 => ?_⟩
 have g1 := (Gr.refl H).set h3.1 (.row TMsg [[.str [78], .slc fb 0 1 q, .nils]])
 have g2 := g1.set (g1.new h4.1) (.row TMsg [[.str [], .nils, .nils]])
 have h34 : b3 ≠ b4 := ne_of_u (by simp) h4.1
 have r3 : ((H.set b3 (.row TMsg [[.str [78], .slc fb 0 1 q, .nils]])).set b4 (.row TMsg [[.str [], .nils, .nils]])) b3 = some (.row TMsg [[.str [78], .slc fb 0 1 q, .nils]]) := (Hp.set_ne h34).trans (Hp.set_same _ _ _)
 have r4 : ((H.set b3 (.row TMsg [[.str [78], .slc fb 0 1 q, .nils]])).set b4 (.row TMsg [[.str [], .nils, .nils]])) b4 = some (.row TMsg [[.str [], .nils, .nils]]) := Hp.set_same _ _ _
 have o3 := Out.new (B := b3) hI h3.1 (Hp.used r3)
 have o4 := Out.new (B := b4) hI (g1.new h4.1) (Hp.used r4)
 refine ⟨_, _, _, _, r3, rfl, rfl, ?_⟩
 refine (k.tab2 ρ _ (hI.gr g2)).mono ?_
 rintro r H2 hq
 obtain ⟨ρ2, rfl, m2⟩ := frQ_mv hq
 have m02 := (Mv.gr hI g2).trans m2 (fun _ h => h)
 have r3' := m2.blk o3 r3
 have r4' := m2.blk o4 r4
 have rf := m02.blk of_ hf
 have rl := m02.blk ol hl
 refine ⟨_, rfl, _, rfl, ?_⟩
 refine .inr (.inl ?_)
 refine ⟨_, _, _, _, r3', rfl, rfl, ?_⟩
 refine ⟨_, _, _, _, r3', rfl, rfl, ?_⟩
 refine ⟨.nils, Clone0_P.at _, ?_⟩
 refine ⟨_, rfl, ?_⟩
 refine ⟨rfl, rfl, fun b7 h7 => ?_⟩
 refine ⟨_, _, _, Hp.set_same _ _ _, rfl, rfl, rfl, rfl, by show 3 ≤ 3; decide, ?_⟩
 have g7 := ((Gr.refl H2).set h7.1 (.row TMsg [[.str [], .nils, .nils]])).set h7.1 (.row TMsg [[.str [78], .nils, .nils]])
 refine ⟨_, _, _, _, g7.blk r3', rfl, rfl, ?_⟩
 refine s_blk (id := 0) (fun e' h' => e'.ds = [] ∧ Gr H2 h' ∧ (∃ ofb lb2, h' b7 = some (.row TMsg [[.str [78], .slc ofb 0 1 none, .nils]]) ∧ h' ofb = some (.row TFV [fC (.slc lb2 0 xs.length none)]) ∧ h' lb2 = some (.row TV (vsC xs)) ∧ H2.u ofb = false ∧ H2.u lb2 = false) ∧ Has e' [(4, .ptr b4 0 0), (7, .ptr b7 0 0)]) ?_ ?_
 ·refine s_loop 1 (fun k0 (s : Hp) => k0 ≤ 1 ∧ Gr H2 s ∧ (k0 = 0 → s b7 = some (.row TMsg [[.str [78], .nils, .nils]])) ∧ (k0 = 1 → ∃ ofb lb2, s b7 = some (.row TMsg [[.str [78], .slc ofb 0 1 none, .nils]]) ∧ s ofb = some (.row TFV [fC (.slc lb2 0 xs.length none)]) ∧ s lb2 = some (.row TV (vsC xs)) ∧ H2.u ofb = false ∧ H2.u lb2 = false))
   (fun k0 _ => [(0, tvC (ρ s0)), (4, .ptr b4 0 0), (5, .ptr (ρ2 t0) 0 0), (7, .ptr b7 0 0), (29, .slc fb 0 1 q), (30, .int .i64 1), (31, .int .i64 (k0 : Nat))]) (fun _ s => s) ((H2.set b7 (.row TMsg [[.str [], .nils, .nils]])).set b7 (.row TMsg [[.str [78], .nils, .nils]]))
   ⟨by decide, g7, fun _ => Hp.set_same _ _ _, fun h => by cases h⟩ rfl rfl ⟨rfl, rfl, rfl, rfl, rfl, rfl, rfl, trivial⟩ (fun k s hI => hI.1) ?_
  rintro k0 s n1 g0 hk ⟨_, gs, hz, hone⟩
  refine s_lt (fun (h5 : ((k0 : Nat) : Int) < 1) => ?_) (fun (h5 : (1 : Int) ≤ (k0 : Nat)) => ?_)
  ·obtain rfl : k0 = 0 := by omega
   have r7 := hz rfl
   refine ⟨0, rfl, by decide, ⟨_, gs.blk rf⟩, ?_⟩
   refine ⟨_, _, _, gs.blk rf, rfl, by show 3 ≤ 3; decide, ?_⟩
   refine ⟨rfl, rfl, fun b9 h9 => ?_⟩
   refine ⟨_, _, _, Hp.set_same _ _ _, rfl, rfl, rfl, rfl, by show 3 ≤ 3; decide, ?_⟩
   have g9 := ((Gr.refl s).set h9.1 (.row TFV [[.int .i32 0, .nils, .nils]])).set h9.1 (.row TFV [fC (.slc lb 0 xs.length none)])
   have r9 : ((s.set b9 (.row TFV [[.int .i32 0, .nils, .nils]])).set b9 (.row TFV [fC (.slc lb 0 xs.length none)])) b9 = some (.row TFV [fC (.slc lb 0 xs.length none)]) := Hp.set_same _ _ _
   refine ⟨_, _, _, _, r9, rfl, rfl, ?_⟩
   refine (k.find (m2.img.gr (gs.trans g9))).mono ?_
   rintro r s2 ⟨rfl, ga⟩
   refine ⟨_, rfl, _, rfl, ?_⟩
   refine ⟨rfl, rfl, fun b10 h10 => ?_⟩
   refine ⟨_, _, _, Hp.set_same _ _ _, rfl, rfl, rfl, rfl, by show 9 ≤ 9; decide, ?_⟩
   have g10 := ((Gr.refl s2).set h10.1 (.row TRow [row0])).set h10.1 (.row TRow [rowF p])
   have r10 : ((s2.set b10 (.row TRow [row0])).set b10 (.row TRow [rowF p])) b10 = some (.row TRow [rowF p]) := Hp.set_same _ _ _
   refine ⟨_, _, _, r10, rfl, by show 9 ≤ 9; decide, ?_⟩
   refine (implicit_L p _).mono ?_
   rintro r s3 ⟨rfl, gb⟩
   have r9' := gb.blk (g10.blk (ga.blk r9))
   have r10' := gb.blk r10
   have r7' := gb.blk (g10.blk (ga.blk (g9.blk r7)))
   have gs3 := gs.trans (g9.trans (ga.trans (g10.trans gb)))
   refine .inr (.inl ?_)
   refine ⟨_, _, _, _, r9', rfl, rfl, ?_⟩
   refine ⟨_, _, _, _, r9', rfl, rfl, ?_⟩
   refine ⟨.nils, values0_L.at _, ?_⟩
   refine ⟨_, rfl, ?_⟩
   refine ⟨rfl, rfl, fun b12 h12 => ?_⟩
   refine ⟨_, _, _, Hp.set_same _ _ _, rfl, rfl, rfl, rfl, by show 3 ≤ 3; decide, ?_⟩
   have g12 := ((Gr.refl s3).set h12.1 (.row TFV [[.int .i32 0, .nils, .nils]])).set h12.1 (.row TFV [fC .nils])
   refine s_then _ (nvals_L (tv := tvC (ρ s0)) (xs := xs) (lb := lb) (t4 := b4) (t7 := b7) (t9 := b9) (t10 := b10) (b12 := b12) (v5 := .ptr (ρ2 t0) 0 0) (v29 := .slc fb 0 1 q) g12 h12.1 (Hp.set_same _ _ _) (gs3.blk rl) r9' h1 h2 _ rfl ⟨rfl, rfl, rfl, rfl, rfl, rfl, rfl, rfl, rfl, rfl, trivial⟩ _) ?_
   rintro e4 s4 ⟨hd4, lb2, g4, q12, ql2, nl2, hh4⟩
   obtain ⟨n4, gg4, rfl⟩ := hh4.out hd4
   refine ⟨_, _, _, _, g4.blk r10', rfl, rfl, ?_⟩
   refine s_eq (fun (h6 : (3 : Int) = 4) => absurd h6 (by decide)) (fun _ => ?_)
   refine ⟨_, _, _, _, g4.blk r7', rfl, rfl, ?_⟩
   refine ⟨_, _, _, q12, rfl, by show 3 ≤ 3; decide, ?_⟩
   refine ⟨_, rfl, fun tb htb => ?_⟩
   refine ⟨[fC (.slc lb2 0 xs.length none)], ⟨_, _, Hp.set_same _ _ _, Nat.le_refl _, rfl⟩, ?_⟩
   refine AccE.app (AccE.nil TFV _) (fun cs h => by rw [List.mem_singleton.1 h]; rfl) (fun cs h => by rw [List.mem_singleton.1 h]; rfl) (by unfold capMax; simp) (by unfold capMax; simp) fun v' H6 ha hf6 hu6 hb6 => ?_
   have ho := ha.one
   obtain ⟨g6, ⟨_, e0⟩ | ⟨ofb, rfl, hofb, rofb⟩⟩ := ha
   ·cases e0
   have gt := (Gr.refl s4).set htb.1 (.row TFV [fC (.slc lb2 0 xs.length none)])
   have q7 := g6.blk (gt.blk (g4.blk r7'))
   refine ⟨_, _, _, q7, rfl, rfl, rfl, rfl, by show 2 ≤ 3; decide, ?_⟩
   refine s_nat 1 rfl (by decide) ?_
   have n7 : H2.u b7 = false := h7.1
   have gall := gs3.trans (g4.trans (gt.trans g6))
   have nofb : H2.u ofb = false := (gs3.trans (g4.trans gt)).new hofb
   have nlb2 : H2.u lb2 = false := gs3.new nl2
   refine ⟨_, by decide, ⟨by decide, gall.set n7 _, fun h => (by cases h), fun _ => ⟨ofb, lb2, Hp.set_same _ _ _, (Hp.set_ne (row_ne' rofb q7 (by decide))).trans rofb, ?_, nofb, nlb2⟩⟩, rfl, rfl, rfl, rfl, rfl, rfl, rfl, rfl, rfl, trivial⟩
   have ql := g6.blk (gt.blk ql2)
   exact (Hp.set_ne (row_ne' ql q7 (by decide))).trans ql
  ·obtain rfl : k0 = 1 := by omega
   exact ⟨rfl, gs, hone rfl, rfl, rfl, trivial⟩
 ·rintro e' h' ⟨hd, g, ⟨ofb, lb2, q7, qo, ql, no, nl⟩, hh⟩
  obtain ⟨n1, g0, rfl⟩ := hh.out hd
  refine ⟨_, _, _, q7, rfl, by show 3 ≤ 3; decide, ?_⟩
  refine ⟨_, _, _, g.blk r4', rfl, rfl, rfl, rfl, by show 3 ≤ 3; decide, ?_⟩
  refine ⟨rfl, ?_⟩
  refine ⟨_, _, _, Hp.set_same _ _ _, rfl, by show 3 ≤ 3; decide, ?_⟩
  have o4' := (m2.out b4 o4).2
  have hb4 := g.blk r4'
  have hne4 : ∀ {y T : Nat} {es : List (List AV)}, h' y = some (.row T es) → T ≠ TMsg → y ≠ b4 := fun hy hT => row_ne' hy hb4 hT
  refine ⟨_, rfl, ρ2, ofb, lb2, rfl, (Hp.set_ne (hne4 qo (by decide))).trans qo, (Hp.set_ne (hne4 ql (by decide))).trans ql, ?_, ?_, ?_⟩
  ·exact ((m02.trans (Mv.gr m2.img g) (fun _ h => h)).setOut (g1.new h4.1) (o4'.gr g) _)
  ·exact Out.new m2.img no (by rw [Hp.set_u, Hp.used qo]; simp)
  ·exact Out.new m2.img nl (by rw [Hp.set_u, Hp.used ql]; simp)
set_option maxHeartbeats 1000000 in
theorem Normal_L (k : GrdE p s0 t0 rw0 nm0 os nv jv X1 X2) (hx : ∀ i, X1.u i = true → X2.u i = true) {ρ : Nat → Nat} {H : Hp} {fb lb : Nat} {q : Option Nat} {xs : List Nat} (hI : Img ρ X1 H)
  (hf : H fb = some (.row TFV [fC (.slc lb 0 xs.length none)])) (of_ : Out ρ X1 H fb) (hl : H lb = some (.row TV (vsC xs))) (ol : Out ρ X1 H lb) (h1 : 1 ≤ xs.length) (h2 : xs.length ≤ 1000000) :
  CallL Tryz.prog F_dyn_Normal [tvC (ρ s0), .agg [.str [78], .slc fb 0 1 q, .nils]] H fun r H' => ∃ m, r = .ret (.tup [m, .int .i64 0]) ∧ MsgQ X1 X2 ρ H xs m H' := by
 refine K_dyn_Normal (md := false) ?_
 refine ⟨rfl, rfl, fun b3 h3 => ?_⟩
 refine ⟨rfl, rfl, fun b4 h4 => ?_⟩
 have g1 := (Gr.refl H).set h3.1 (.row TMsg [[.str [78], .slc fb 0 1 q, .nils]])
 have g2 := g1.set (g1.new h4.1) (.row TMsg [[.str [], .nils, .nils]])
 have h34 : b3 ≠ b4 := ne_of_u (by simp) h4.1
 have r3 : ((H.set b3 (.row TMsg [[.str [78], .slc fb 0 1 q, .nils]])).set b4 (.row TMsg [[.str [], .nils, .nils]])) b3 = some (.row TMsg [[.str [78], .slc fb 0 1 q, .nils]]) := (Hp.set_ne h34).trans (Hp.set_same _ _ _)
 have r4 : ((H.set b3 (.row TMsg [[.str [78], .slc fb 0 1 q, .nils]])).set b4 (.row TMsg [[.str [], .nils, .nils]])) b4 = some (.row TMsg [[.str [], .nils, .nils]]) := Hp.set_same _ _ _
 have o3 := Out.new (B := b3) hI h3.1 (Hp.used r3)
 have o4 := Out.new (B := b4) hI (g1.new h4.1) (Hp.used r4)
 refine ⟨_, _, _, r3, rfl, by show 3 ≤ 3; decide, ?_⟩
 refine (Check_L k hx (hI.gr g2) (g2.blk hf) (of_.gr g2) (g2.blk hl) (ol.gr g2) h1 h2).mono ?_
 rintro r H1 ⟨rfl, ρ1, m1⟩
 refine ⟨_, rfl, _, rfl, ?_⟩
 refine s_ne (fun h3 => absurd rfl h3) (fun _ => ?_)
 have r3' := m1.blk o3 r3
 have r4' := m1.blk o4 r4
 have hs : ρ1 s0 = ρ s0 := m1.same s0 k.u1
 refine ⟨_, _, _, r3', rfl, by show 3 ≤ 3; decide, ?_⟩
 have hn := normal_L k (xs := xs) (q := q) m1.img (m1.blk (of_.gr g2) (g2.blk hf)) (m1.out _ (of_.gr g2)).2 (m1.blk (ol.gr g2) (g2.blk hl)) (m1.out _ (ol.gr g2)).2 h1 h2
 rw [hs] at hn
 refine hn.mono ?_
 rintro r H2 ⟨m, rfl, ρ2, fb2, lb2, rfl, qf, ql, m2, of2, ol2⟩
 have o4' := (m1.out b4 o4).2
 have r4'' := m2.blk o4' r4'
 refine ⟨_, _, _, r4'', rfl, rfl, rfl, rfl, by show 3 ≤ 3; decide, ?_⟩
 refine ⟨rfl, ?_⟩
 refine ⟨_, _, _, Hp.set_same _ _ _, rfl, by show 3 ≤ 3; decide, ?_⟩
 have o4'' := (m2.out b4 o4').2
 have m12 := ((Mv.gr hI g2).trans m1 (fun _ h => h)).trans m2 hx
 refine ⟨_, rfl, ρ2, fb2, lb2, rfl, (Hp.set_ne (row_ne' qf r4'' (by decide))).trans qf, (Hp.set_ne (row_ne' ql r4'' (by decide))).trans ql, m12.setOut (g1.new h4.1) o4'' _, ?_, ?_⟩
 ·exact ⟨by rw [Hp.set_u, of2.used]; simp, of2.no⟩
 ·exact ⟨by rw [Hp.set_u, ol2.used]; simp, ol2.no⟩
end
end Go.Proofs.YtghlipffncbagaaGreatDoor

namespace Go.Proofs.YtghlipffncbagaaGreatDoor
open Go.L
abbrev F_wire_Writer_Raw : Nat := 37
def A_wire_Writer_Raw_0 : LA := [mv 4 0, mv 5 1, We 6 5, o_ 7 (.call 71 [(.t 4), (.t 6)])]
def A_wire_Writer_Raw_1 : LA := [mv 8 0, mv 9 0, Wc 10 9, Wf 11 0 10, Wl 12 11, mv 13 1, o_ 14 (.app 5 1 1 (.t 12) (.t 13)), Wc 15 8, Wf 16 0 15, Wt 1 16 14]
def A_wire_Writer_Raw : ACode := (.seq (.ops A_wire_Writer_Raw_0) (.cond (.t 7) (.ops A_wire_Writer_Raw_1) .skip))
def R_wire_Writer_Raw : List ARes := []
theorem C_wire_Writer_Raw : compF Tryz.prog Tryz.f37 = some (A_wire_Writer_Raw, R_wire_Writer_Raw) := by kernel_rfl
theorem K_wire_Writer_Raw {md : Bool} {args : List AV} {h : Hp} {Q : Res → Hp → Prop} (hl : LCode Tryz.prog md A_wire_Writer_Raw (EndQ R_wire_Writer_Raw Q) (env0 17 args) h) (hn : args.length ≤ 17 := by (simp; done)) : CallL Tryz.prog F_wire_Writer_Raw args h Q :=
 CallL.of (md := md) Tryz.func37 C_wire_Writer_Raw (by rw [Tryz.ntmps37]; exact hn) (by rw [Tryz.ntmps37]; exact hl)
abbrev F_wire_Writer_Tag : Nat := 67
def A_wire_Writer_Tag_0 : LA := [mv 6 0, Wc 7 6, Wf 8 3 7, Wl 9 8, Wi 10 .eql 9 0, mv 11 10, Wgm 12 1 11, g_ 13 (.bini .lss (.t 12) (.c (.int .i32 1))) 11, Wgm 14 13 11, Whm 15 1 14, Wh 16 (.bini .gtr (.t 15) (.c (.int .i32 536870911))) 14, g_ 17 (.pick (.t 14) (.c (.bool true)) (.t 16)) 11, Wgm 18 17 11, Whm 19 2 18, Wh 20 (.bini .gtr (.t 19) (.c (.int .u8 5))) 18, g_ 21 (.pick (.t 18) (.c (.bool true)) (.t 20)) 11, Wp 22 11 21]
def A_wire_Writer_Tag_1 : LA := [mv 23 0, Wc 24 23, Wf 25 3 24, n_ (.st 1 (.t 25) (i_ 12))]
def A_wire_Writer_Tag_2 : LA := [mv 26 0, mv 27 1, o_ 28 (.conv .u64 (.t 27)), o_ 29 (.bini .shl (.t 28) (.c (.int .u64 3))), mv 30 2, o_ 31 (.conv .u64 (.t 30)), Wb 32 .or 29 31, o_ 33 (.call 59 [(.t 26), (.t 32)])]
def A_wire_Writer_Tag : ACode := (.seq (.seq (.ops A_wire_Writer_Tag_0) (.cond (.t 22) (.ops A_wire_Writer_Tag_1) .skip)) (.ops A_wire_Writer_Tag_2))
def R_wire_Writer_Tag : List ARes := []
theorem C_wire_Writer_Tag : compF Tryz.prog Tryz.f67 = some (A_wire_Writer_Tag, R_wire_Writer_Tag) := by kernel_rfl
theorem K_wire_Writer_Tag {md : Bool} {args : List AV} {h : Hp} {Q : Res → Hp → Prop} (hl : LCode Tryz.prog md A_wire_Writer_Tag (EndQ R_wire_Writer_Tag Q) (env0 34 args) h) (hn : args.length ≤ 34 := by (simp; done)) : CallL Tryz.prog F_wire_Writer_Tag args h Q :=
 CallL.of (md := md) Tryz.func67 C_wire_Writer_Tag (by rw [Tryz.ntmps67]; exact hn) (by rw [Tryz.ntmps67]; exact hl)
abbrev F_wire_Writer_Open : Nat := 110
def A_wire_Writer_Open_0 : LA := [mv 3 0, Wc 4 3, Wf 5 3 4, Wl 6 5, Wi 7 .neq 6 0]
def A_wire_Writer_Open_1 : LA := [mv 8 0, mv 9 0, Wc 10 9, Wf 11 2 10, Wl 12 11, mv 13 0, Wc 14 13, Wf 15 0 14, Wl 16 15, We 17 16, o_ 18 (.bslice 3 1 1 [.int .i64 0] [(0, 1, (.t 17))]), o_ 19 (.app 3 1 8 (.t 12) (.t 18)), Wc 20 8, Wf 21 2 20, Wt 1 21 19]
def A_wire_Writer_Open_2 : LA := [mv 22 0, Wc 23 22, Wf 24 0 23, Wl 25 24, We 26 25, mv 2 26]
def A_wire_Writer_Open : ACode := (.seq (.ops [Wm 2 0]) (.seq (.seq (.ops A_wire_Writer_Open_0) (.cond (.t 7) (.seq (.ops [Wm 2 0]) .ret) .skip)) (.seq (.alts [8, 9, 10, 11, 12, 13, 14, 15, 16, 17, 18, 19, 20, 21] [A_wire_Writer_Open_1]) (.seq (.ops A_wire_Writer_Open_2) .ret))))
def R_wire_Writer_Open : List ARes := [.tmp 2]
theorem C_wire_Writer_Open : compF Tryz.prog Tryz.f110 = some (A_wire_Writer_Open, R_wire_Writer_Open) := by kernel_rfl
theorem K_wire_Writer_Open {md : Bool} {args : List AV} {h : Hp} {Q : Res → Hp → Prop} (hl : LCode Tryz.prog md A_wire_Writer_Open (EndQ R_wire_Writer_Open Q) (env0 27 args) h) (hn : args.length ≤ 27 := by (simp; done)) : CallL Tryz.prog F_wire_Writer_Open args h Q :=
 CallL.of (md := md) Tryz.func110 C_wire_Writer_Open (by rw [Tryz.ntmps110]; exact hn) (by rw [Tryz.ntmps110]; exact hl)
abbrev F_wire_Writer_Shut : Nat := 111
def A_wire_Writer_Shut_0 : LA := [mv 6 0, Wc 7 6, Wf 8 2 7, Wl 9 8, We 10 9, mv 4 10]
def A_wire_Writer_Shut_1 : LA := [mv 11 0, Wc 12 11, Wf 13 3 12, Wl 14 13, Wi 15 .neq 14 0]
def A_wire_Writer_Shut_2 : LA := [mv 16 4, Wi 17 .eql 16 0, mv 18 17, Whm 19 0 18, Wh 20 (.nilc (.t 19)) 18, Wh 21 (.faddr 2 (.t 20)) 18, Wh 22 (.ld1 (.t 21)) 18, Whm 23 4 18, Wh 24 (.bini .sub (.t 23) (i_ 1)) 18, Wh 25 (.iaddr 3 1 (.t 22) (.t 24)) 18, Wh 26 (.ld1 (.t 25)) 18, Whm 27 1 18, Wh 28 (.bini .neq (.t 26) (.t 27)) 18, Wq 29 18 28]
def A_wire_Writer_Shut_3 : LA := [mv 30 0, Wc 31 30, Wf 32 3 31, n_ (.st 1 (.t 32) (i_ 1))]
def A_wire_Writer_Shut_4 : LA := [mv 33 0, Wc 34 33, Wf 35 0 34, Wl 36 35, We 37 36, mv 38 1, Wb 39 .sub 37 38, o_ 40 (.conv .u64 (.t 39)), o_ 41 (.call 107 [(.c (.nils)), (.t 40)]), mv 5 41]
def A_wire_Writer_Shut_5 : LA := [mv 42 0, mv 43 5, We 44 43, o_ 45 (.call 71 [(.t 42), (.t 44)])]
def A_wire_Writer_Shut_6 : LA := [mv 46 0, mv 47 0, Wc 48 47, Wf 49 0 48, Wl 50 49, mv 51 1, mv 52 5, o_ 53 (.call 155 [(.t 50), (.t 51), (.t 52)]), Wc 54 46, Wf 55 0 54, Wt 1 55 53]
def A_wire_Writer_Shut_7 : LA := [mv 56 0, mv 57 0, Wc 58 57, Wf 59 2 58, Wl 60 59, mv 61 4, Wi 62 .sub 61 1, o_ 63 (.slcl 3 1 (.t 60) none (some (.t 62)) none), Wc 64 56, Wf 65 2 64, Wt 1 65 63]
def A_wire_Writer_Shut : ACode := (.seq (.ops A_wire_Writer_Shut_0) (.seq (.seq (.ops A_wire_Writer_Shut_1) (.cond (.t 15) .ret .skip)) (.seq (.seq (.ops A_wire_Writer_Shut_2) (.cond (.t 29) (.seq (.ops A_wire_Writer_Shut_3) .ret) .skip)) (.seq (.ops A_wire_Writer_Shut_4) (.seq (.ops A_wire_Writer_Shut_5) (.cond (.t 45) (.seq (.ops A_wire_Writer_Shut_6) (.ops A_wire_Writer_Shut_7)) .skip))))))
def R_wire_Writer_Shut : List ARes := []
theorem C_wire_Writer_Shut : compF Tryz.prog Tryz.f111 = some (A_wire_Writer_Shut, R_wire_Writer_Shut) := by kernel_rfl
theorem K_wire_Writer_Shut {md : Bool} {args : List AV} {h : Hp} {Q : Res → Hp → Prop} (hl : LCode Tryz.prog md A_wire_Writer_Shut (EndQ R_wire_Writer_Shut Q) (env0 66 args) h) (hn : args.length ≤ 66 := by (simp; done)) : CallL Tryz.prog F_wire_Writer_Shut args h Q :=
 CallL.of (md := md) Tryz.func111 C_wire_Writer_Shut (by rw [Tryz.ntmps111]; exact hn) (by rw [Tryz.ntmps111]; exact hl)
end Go.Proofs.YtghlipffncbagaaGreatDoor

namespace Go.Proofs.YtghlipffncbagaaGreatDoor
open Go.L
structure Wr (W lim : Nat) (op u : AV) (l : Str) (h : Hp) : Prop where
 row : h W = some (.row TW [WrC u lim op])
 bl : (u = .nils ∧ l = []) ∨ ∃ j, u = .slc j 0 l.length none ∧ j ≠ W ∧ h j = some (.row Tb (bt l))
def Off (W : Nat) (u : AV) (h : Hp) (x : Nat) : Prop := h.u x = true ∧ x ≠ W ∧ blkOf u ≠ some x
def Stp (W : Nat) (u : AV) (h : Hp) (u' : AV) (h' : Hp) : Prop := ∀ x, Off W u h x → h' x = h x ∧ Off W u' h' x
theorem Stp.refl (W : Nat) (u : AV) (h : Hp) : Stp W u h u h := fun _ hx => ⟨rfl, hx⟩
theorem Stp.trans {W : Nat} {u u1 u2 : AV} {h h1 h2 : Hp} (a : Stp W u h u1 h1) (b : Stp W u1 h1 u2 h2) : Stp W u h u2 h2 := fun x hx =>
 ⟨(b x (a x hx).2).1.trans (a x hx).1, (b x (a x hx).2).2⟩
def baseW (W : Nat) (u : AV) (h : Hp) : Hp where
 m := fun j => if j = W ∨ blkOf u = some j then none else h.m j
 u := fun j => if j = W ∨ blkOf u = some j then false else h.u j
 ok := fun j hj => by
  by_cases e : j = W ∨ blkOf u = some j
  ·rw [if_pos e]
  ·rw [if_neg e] at hj ⊢; exact h.ok j hj
 cof := let ⟨n, hn⟩ := h.cof; ⟨n, fun x hx => by
  by_cases e : x = W ∨ blkOf u = some x
  ·rw [if_pos e]
  ·rw [if_neg e]; exact hn x hx⟩
theorem baseW_off {W : Nat} {u : AV} {h : Hp} {x : Nat} : (baseW W u h).u x = true ↔ Off W u h x := by
 show (if x = W ∨ blkOf u = some x then false else h.u x) = true ↔ _
 by_cases e : x = W ∨ blkOf u = some x
 ·rw [if_pos e]; exact ⟨fun h => (by cases h), fun h => (e.elim h.2.1 h.2.2).elim⟩
 ·rw [if_neg e]; exact ⟨fun h => ⟨h, fun e1 => e (.inl e1), fun e1 => e (.inr e1)⟩, fun h => h.1⟩
theorem baseW_m {W : Nat} {u : AV} {h : Hp} {x : Nat} (k : Off W u h x) : (baseW W u h) x = h x := if_neg (fun e => e.elim k.2.1 k.2.2)
theorem baseW_W (W : Nat) (u : AV) (h : Hp) : (baseW W u h).u W = false := if_pos (.inl rfl)
section
variable {W lim : Nat} {op u : AV} {l : Str} {h : Hp}
theorem Wr.acc (k : Wr W lim op u l h) : AccE Tb (baseW W u h) h u (bt l) := by
 refine ⟨⟨fun x hx => (baseW_m (baseW_off.1 hx)).symm, fun x hx => (baseW_off.1 hx).1⟩, ?_⟩
 rcases k.bl with ⟨rfl, rfl⟩ | ⟨j, rfl, hj, hr⟩
 ·exact .inl ⟨rfl, rfl⟩
 ·exact .inr ⟨j, by rw [bt_len], if_pos (.inr rfl), hr⟩
theorem Wr.ne (k : Wr W lim op u l h) : blkOf u ≠ some W := by
 rcases k.bl with ⟨rfl, _⟩ | ⟨j, rfl, hj, _⟩
 ·exact fun e => by cases e
 ·exact fun e => hj (Option.some.inj e)
theorem Wr.step {u' op' : AV} {l' : Str} {h' : Hp} (a : AccE Tb (baseW W u h) h' u' (bt l')) (hr : h' W = some (.row TW [WrC u' lim op'])) (hn : blkOf u' ≠ some W) : Wr W lim op' u' l' h' ∧ Stp W u h u' h' := by
 refine ⟨⟨hr, ?_⟩, fun x hx => ⟨(a.1.m x (baseW_off.2 hx)).trans (baseW_m hx), a.1.u x (baseW_off.2 hx), hx.2.1, fun e => ?_⟩⟩
 ·rcases a.2 with ⟨rfl, e⟩ | ⟨j, rfl, _, hj⟩
  ·refine .inl ⟨rfl, ?_⟩
   have := congrArg List.length e
   rw [bt_len] at this
   exact List.length_eq_zero_iff.1 this
  ·exact .inr ⟨j, by rw [bt_len], fun e => hn (by rw [e]; rfl), hj⟩
 ·have := (a.used e).1
  rw [baseW_off.2 hx] at this; cases this
theorem VarintW_L (k : Wr W lim op u l h) (hop : notTup op = true) (hof : flat [op] = true) {v : Nat} (hv : v < 18446744073709551616) (hn : l.length + (vari v).length ≤ lim) (hl : lim ≤ 16777216) :
  CallL Tryz.prog F_wire_Writer_Varint [.ptr W 0 0, .int .u64 v] h fun r h' => r = .ret (.tup []) ∧ ∃ u', Wr W lim op u' (l ++ vari v) h' ∧ Stp W u h u' h' := by
 refine (Varint_L W u op (bt l) lim v (baseW W u h) h k.row k.ne (baseW_W W u h) k.acc hv hop hof (by rw [bt_len]; exact hn) hl).mono ?_
 rintro r h' ⟨rfl, u', hr, hne, ha, _, _⟩
 rw [← bt_app] at ha
 exact ⟨rfl, u', Wr.step ha hr hne⟩
theorem Raw0_L (k : Wr W lim op u l h) (hn : l.length ≤ lim) (hl : lim ≤ 16777216) :
  CallL Tryz.prog F_wire_Writer_Raw [.ptr W 0 0, .nils] h fun r h' => r = .ret (.tup []) ∧ ∃ u', Wr W lim op u' l h' ∧ Stp W u h u' h' := by
 have hbl := bt_len l
 refine K_wire_Writer_Raw (md := false) ?_
 refine (room_L W u op (bt l) lim 0 (baseW W u h) h k.row k.acc (by omega) hl).mono ?_
 rintro r h'' ⟨rfl, rfl⟩
 refine ⟨_, _, _, _, k.row, rfl, rfl, ?_⟩
 refine ⟨[], rfl, ?_⟩
 refine AccE.app k.acc (fun cs h => by cases h) (fun cs h => by cases h) (by rw [hbl]; unfold capMax; simp; omega) (by rw [hbl]; unfold capMax; simp; omega) fun v1 H1 ha1 hf1 hu1 hb1 => ?_
 rw [List.append_nil] at ha1
 have hW1 : H1 W = some (.row TW [WrC u lim op]) := (hf1 W (Hp.used k.row) k.ne).trans k.row
 have hne : blkOf v1 ≠ some W := fun e => (hb1 W e).elim k.ne (fun h => by rw [Hp.used k.row] at h; cases h)
 have ho := ha1.one
 refine ⟨_, _, _, hW1, rfl, ho.1, by show v1.cells.length = 1; rw [ho.2.1]; rfl, by show flat v1.cells = true; rw [ho.2.1]; exact ho.2.2, by show 1 ≤ 4; decide, ?_⟩
 refine ⟨rfl, rfl, v1, ?_⟩
 have hrow : (H1.set W (.row TW [(WrC u lim op).take 0 ++ v1.cells ++ (WrC u lim op).drop 1])) W = some (.row TW [WrC v1 lim op]) := by
  rw [Hp.set_same, ho.2.1]; rfl
 refine Wr.step ?_ hrow hne
 obtain ⟨g, kk⟩ := ha1
 refine ⟨g.set (baseW_W W u h'') _, kk.imp (fun h => h) ?_⟩
 rintro ⟨j, rfl, h1, h2⟩
 exact ⟨j, rfl, h1, (Hp.set_ne fun e => hne (by rw [e]; rfl)).trans h2⟩
theorem Tag_L (k : Wr W lim op u l h) (hop : notTup op = true) (hof : flat [op] = true) {kk : Nat} (hk : kk = 0 ∨ kk = 2) (hn : l.length + 2 ≤ lim) (hl : lim ≤ 16777216) :
  CallL Tryz.prog F_wire_Writer_Tag [.ptr W 0 0, .int .i32 16, .int .u8 kk] h fun r h' => r = .ret (.tup []) ∧ ∃ u', Wr W lim op u' (l ++ vari (128 + kk)) h' ∧ Stp W u h u' h' := by
 have hvl : (vari (128 + kk)).length = 2 := by rcases hk with rfl | rfl <;> rfl
 have hlast := VarintW_L k hop hof (v := 128 + kk) (by omega) (by omega) hl
 refine K_wire_Writer_Tag (md := false) ?_
 rcases hk with rfl | rfl
 ·refine ⟨_, _, _, _, k.row, rfl, rfl, ?_⟩
  refine s_eq (fun _ => ?_) (fun h1 => absurd rfl h1)
  refine s_lt (fun (h1 : (16 : Int) < 1) => absurd h1 (by decide)) (fun _ => ?_)
  refine s_lt (fun (h1 : (536870911 : Int) < 16) => absurd h1 (by decide)) (fun _ => ?_)
  refine s_lt (fun (h1 : (5 : Int) < 0) => absurd h1 (by decide)) (fun _ => ?_)
  refine s_ie (d := 16) (by rw [IntKind.wrap_u64]; rfl) ?_
  refine ⟨by decide, s_ie (d := 128) (by rw [IntKind.wrap_u64]; rfl) ?_⟩
  refine s_ie (d := 0) (by rw [IntKind.wrap_u64]; rfl) ?_
  refine s_ie (d := ((128 + 0 : Nat) : Int)) rfl ?_
  refine hlast.mono ?_
  rintro r h' ⟨rfl, hq⟩
  exact ⟨rfl, rfl, hq⟩
 ·refine ⟨_, _, _, _, k.row, rfl, rfl, ?_⟩
  refine s_eq (fun _ => ?_) (fun h1 => absurd rfl h1)
  refine s_lt (fun (h1 : (16 : Int) < 1) => absurd h1 (by decide)) (fun _ => ?_)
  refine s_lt (fun (h1 : (536870911 : Int) < 16) => absurd h1 (by decide)) (fun _ => ?_)
  refine s_lt (fun (h1 : (5 : Int) < 2) => absurd h1 (by decide)) (fun _ => ?_)
  refine s_ie (d := 16) (by rw [IntKind.wrap_u64]; rfl) ?_
  refine ⟨by decide, s_ie (d := 128) (by rw [IntKind.wrap_u64]; rfl) ?_⟩
  refine s_ie (d := 2) (by rw [IntKind.wrap_u64]; rfl) ?_
  refine s_ie (d := ((128 + 2 : Nat) : Int)) rfl ?_
  refine hlast.mono ?_
  rintro r h' ⟨rfl, hq⟩
  exact ⟨rfl, rfl, hq⟩
end
end Go.Proofs.YtghlipffncbagaaGreatDoor

namespace Go.Proofs.YtghlipffncbagaaGreatDoor
open Go.L
abbrev F_encode_writer_varint : Nat := 29
def A_encode_writer_varint_0 : LA := [mv 6 0, Wc 7 6, Wf 8 0 7, Wl 9 8, Wf 10 0 5, Wl 11 10, o_ 12 (.call 59 [(.t 9), (.t 11)])]
def A_encode_writer_varint : ACode := (.seq (.ops [o_ 5 (.box 46 3 (.t 2))]) (.alts [6, 7, 8, 9, 10, 11, 12] [A_encode_writer_varint_0]))
def R_encode_writer_varint : List ARes := []
theorem C_encode_writer_varint : compF Tryz.prog Tryz.f29 = some (A_encode_writer_varint, R_encode_writer_varint) := by kernel_rfl
theorem K_encode_writer_varint {md : Bool} {args : List AV} {h : Hp} {Q : Res → Hp → Prop} (hl : LCode Tryz.prog md A_encode_writer_varint (EndQ R_encode_writer_varint Q) (env0 13 args) h) (hn : args.length ≤ 13 := by (simp; done)) : CallL Tryz.prog F_encode_writer_varint args h Q :=
 CallL.of (md := md) Tryz.func29 C_encode_writer_varint (by rw [Tryz.ntmps29]; exact hn) (by rw [Tryz.ntmps29]; exact hl)
abbrev F_encode_writer_record : Nat := 69
def A_encode_writer_record_0 : LA := [mv 9 0, Wc 10 9, Wf 11 2 10, Wl 12 11, mv 13 2, o_ 14 (.mlook .i (.agg [.int .u8 (0), .nilf]) false (.t 12) (.t 13)), o_ 8 (.box 112 2 (.c (.agg [.int .u8 (0), .nilf]))), Wt 2 8 14]
def A_encode_writer_record_1 : LA := [mv 15 0, Wc 16 15, Wf 17 0 16, Wl 18 17, mv 19 1, Wf 20 0 8, Wl 21 20, o_ 22 (.call 67 [(.t 18), (.t 19), (.t 21)])]
def A_encode_writer_record_2 : LA := [Wf 23 1 8, Wl 24 23, mv 25 0, mv 26 2, Wd 27 3 7, o_ 28 (.callv (.t 24) [(.t 25), (.t 26), (.t 27)])]
def A_encode_writer_record : ACode := (.seq (.ops [o_ 7 (.box 46 3 (.t 3))]) (.seq (.ops A_encode_writer_record_0) (.seq (.alts [15, 16, 17, 18, 19, 20, 21, 22] [A_encode_writer_record_1]) (.ops A_encode_writer_record_2))))
def R_encode_writer_record : List ARes := []
theorem C_encode_writer_record : compF Tryz.prog Tryz.f69 = some (A_encode_writer_record, R_encode_writer_record) := by kernel_rfl
theorem K_encode_writer_record {md : Bool} {args : List AV} {h : Hp} {Q : Res → Hp → Prop} (hl : LCode Tryz.prog md A_encode_writer_record (EndQ R_encode_writer_record Q) (env0 29 args) h) (hn : args.length ≤ 29 := by (simp; done)) : CallL Tryz.prog F_encode_writer_record args h Q :=
 CallL.of (md := md) Tryz.func69 C_encode_writer_record (by rw [Tryz.ntmps69]; exact hn) (by rw [Tryz.ntmps69]; exact hl)
abbrev F_encode_writer_field : Nat := 36
def A_encode_writer_field_0 : LA := [o_ 3 (.box 74 1 (.t 0)), o_ 4 (.box 120 9 (.t 1)), o_ 5 (.box 52 3 (.t 2))]
def A_encode_writer_field_1 : LA := [Wf 26 3 4, Wl 27 26, o_ 28 (.bini .eql (.t 27) (.c (.int .u8 4))), mv 25 28]
def A_encode_writer_field_2 : LA := [Wf 29 2 5, Wl 30 29, We 31 30, Wm 32 0]
def A_encode_writer_field_3 : LA := [mv 34 32, Wa 35 46 3 30 32, Wd 36 3 35, o_ 6 (.box 3 1 (i_ 0)), o_ 7 (.box 46 3 (.c (.agg [.int .u64 (0), .str [], .nils]))), Wt 1 6 34, Wt 3 7 36]
def A_encode_writer_field_4 : LA := [Wl 37 3, Wc 38 37, Wf 39 0 38, Wl 40 39, Wf 41 0 4, Wl 42 41, o_ 43 (.call 67 [(.t 40), (.t 42), (.c (.int .u8 2))])]
def A_encode_writer_field_5 : LA := [Wl 44 3, o_ 45 (.mkfn 68 [] [(.t 3), (.t 4), (.t 5), (.t 6), (.t 7)]), o_ 46 (.call 64 [(.t 44), (.t 45)])]
def A_encode_writer_field_6 : LA := [Wi 47 .add 32 1, mv 32 47]
def A_encode_writer_field_7 : ACode := (.seq (.ops [Wb 33 .lss 32 31]) (.seq (.cond (.t 33) .skip (.exit 3)) (.seq (.block 4 (.seq (.ops A_encode_writer_field_3) (.seq (.alts [37, 38, 39, 40, 41, 42, 43] [A_encode_writer_field_4]) (.ops A_encode_writer_field_5)))) (.ops A_encode_writer_field_6))))
def A_encode_writer_field_8 : LA := [Wf 49 6 4, Wl 50 49, mv 48 50]
def A_encode_writer_field_9 : LA := [Wl 51 3, Wc 52 51, Wf 53 0 52, Wl 54 53, Wf 55 0 4, Wl 56 55, o_ 57 (.call 67 [(.t 54), (.t 56), (.c (.int .u8 2))])]
def A_encode_writer_field_10 : LA := [Wl 58 3, o_ 59 (.mkfn 70 [] [(.t 5), (.t 3), (.t 4)]), o_ 60 (.call 64 [(.t 58), (.t 59)])]
def A_encode_writer_field_11 : LA := [Wf 10 2 5, Wl 11 10, We 12 11, Wm 13 0]
def A_encode_writer_field_12 : LA := [Wa 15 46 3 11 13, Wd 16 3 15, o_ 9 (.box 46 3 (.c (.agg [.int .u64 (0), .str [], .nils]))), Wt 3 9 16]
def A_encode_writer_field_13 : LA := [Wl 17 3, Wf 18 0 4, Wl 19 18, Wf 20 4 4, Wl 21 20, Wd 22 3 9, o_ 23 (.call 69 [(.t 17), (.t 19), (.t 21), (.t 22)])]
def A_encode_writer_field_14 : LA := [Wi 24 .add 13 1, mv 13 24]
def A_encode_writer_field_15 : ACode := (.seq (.ops [Wb 14 .lss 13 12]) (.seq (.cond (.t 14) .skip (.exit 1)) (.seq (.block 2 (.seq (.ops A_encode_writer_field_12) (.ops A_encode_writer_field_13))) (.ops A_encode_writer_field_14))))
def A_encode_writer_field : ACode := (.seq (.ops A_encode_writer_field_0) (.block 0 (.seq (.ops A_encode_writer_field_1) (.cond (.t 25) (.seq (.ops A_encode_writer_field_2) (.block 3 (.loop A_encode_writer_field_7))) (.seq (.ops A_encode_writer_field_8) (.cond (.t 48) (.seq (.alts [51, 52, 53, 54, 55, 56, 57] [A_encode_writer_field_9]) (.ops A_encode_writer_field_10)) (.seq (.ops A_encode_writer_field_11) (.block 1 (.loop A_encode_writer_field_15)))))))))
def R_encode_writer_field : List ARes := []
theorem C_encode_writer_field : compF Tryz.prog Tryz.f36 = some (A_encode_writer_field, R_encode_writer_field) := by kernel_rfl
theorem K_encode_writer_field {md : Bool} {args : List AV} {h : Hp} {Q : Res → Hp → Prop} (hl : LCode Tryz.prog md A_encode_writer_field (EndQ R_encode_writer_field Q) (env0 61 args) h) (hn : args.length ≤ 61 := by (simp; done)) : CallL Tryz.prog F_encode_writer_field args h Q :=
 CallL.of (md := md) Tryz.func36 C_encode_writer_field (by rw [Tryz.ntmps36]; exact hn) (by rw [Tryz.ntmps36]; exact hl)
abbrev F_encode_writer_field_c2 : Nat := 70
def A_encode_writer_field_c2_0 : LA := [Wf 5 2 0, Wl 6 5, We 7 6, Wm 8 0]
def A_encode_writer_field_c2_1 : LA := [Wa 10 46 3 6 8, Wd 11 3 10, o_ 4 (.box 46 3 (.c (.agg [.int .u64 (0), .str [], .nils]))), Wt 3 4 11]
def A_encode_writer_field_c2_2 : LA := [Wl 12 1, Wc 13 12, Wf 14 2 13, Wl 15 14, Wf 16 4 2, Wl 17 16, o_ 18 (.mlook .i (.agg [.int .u8 (0), .nilf]) false (.t 15) (.t 17)), o_ 19 (.fld 1 (.t 18)), Wl 20 1, Wf 21 4 2, Wl 22 21, Wd 23 3 4, o_ 24 (.callv (.t 19) [(.t 20), (.t 22), (.t 23)])]
def A_encode_writer_field_c2_3 : LA := [Wi 25 .add 8 1, mv 8 25]
def A_encode_writer_field_c2_4 : ACode := (.seq (.ops [Wb 9 .lss 8 7]) (.seq (.cond (.t 9) .skip (.exit 0)) (.seq (.block 1 (.seq (.ops A_encode_writer_field_c2_1) (.alts [12, 13, 14, 15, 16, 17, 18, 19, 20, 21, 22, 23, 24] [A_encode_writer_field_c2_2]))) (.ops A_encode_writer_field_c2_3))))
def A_encode_writer_field_c2 : ACode := (.seq (.ops A_encode_writer_field_c2_0) (.block 0 (.loop A_encode_writer_field_c2_4)))
def R_encode_writer_field_c2 : List ARes := []
theorem C_encode_writer_field_c2 : compF Tryz.prog Tryz.f70 = some (A_encode_writer_field_c2, R_encode_writer_field_c2) := by kernel_rfl
theorem K_encode_writer_field_c2 {md : Bool} {args : List AV} {h : Hp} {Q : Res → Hp → Prop} (hl : LCode Tryz.prog md A_encode_writer_field_c2 (EndQ R_encode_writer_field_c2 Q) (env0 26 args) h) (hn : args.length ≤ 26 := by (simp; done)) : CallL Tryz.prog F_encode_writer_field_c2 args h Q :=
 CallL.of (md := md) Tryz.func70 C_encode_writer_field_c2 (by rw [Tryz.ntmps70]; exact hn) (by rw [Tryz.ntmps70]; exact hl)
abbrev F_encode_writer_part : Nat := 64
def A_encode_writer_part_0 : LA := [mv 5 0, Wc 6 5, Wf 7 0 6, Wl 8 7, o_ 9 (.call 110 [(.t 8)]), mv 4 9]
def A_encode_writer_part_1 : LA := [mv 10 1, o_ 11 (.callv (.t 10) [])]
def A_encode_writer_part_2 : LA := [mv 12 0, Wc 13 12, Wf 14 0 13, Wl 15 14, mv 16 4, o_ 17 (.call 111 [(.t 15), (.t 16)])]
def A_encode_writer_part : ACode := (.seq (.ops A_encode_writer_part_0) (.seq (.ops A_encode_writer_part_1) (.ops A_encode_writer_part_2)))
def R_encode_writer_part : List ARes := []
theorem C_encode_writer_part : compF Tryz.prog Tryz.f64 = some (A_encode_writer_part, R_encode_writer_part) := by kernel_rfl
theorem K_encode_writer_part {md : Bool} {args : List AV} {h : Hp} {Q : Res → Hp → Prop} (hl : LCode Tryz.prog md A_encode_writer_part (EndQ R_encode_writer_part Q) (env0 18 args) h) (hn : args.length ≤ 18 := by (simp; done)) : CallL Tryz.prog F_encode_writer_part args h Q :=
 CallL.of (md := md) Tryz.func64 C_encode_writer_part (by rw [Tryz.ntmps64]; exact hn) (by rw [Tryz.ntmps64]; exact hl)
abbrev F_encode_writer_message : Nat := 15
def A_encode_writer_message_0 : LA := [mv 11 0, Wc 12 11, Wf 13 1 12, Wl 14 13, Wf 15 0 3, Wl 16 15, o_ 17 (.inv [(29, 306)] (.t 14) [(.t 16)]), mv 10 17, Wx 18 0 10, Wx 19 1 10, mv 4 18, mv 5 19]
def A_encode_writer_message_1 : LA := [Wf 20 1 3, Wl 21 20, We 22 21, Wm 23 0]
def A_encode_writer_message_2 : LA := [Wa 25 52 3 21 23, Wd 26 3 25, o_ 7 (.box 52 3 (.c (.agg [.int .i32 (0), .nils, .nils]))), Wt 3 7 26]
def A_encode_writer_message_3 : LA := [mv 28 4, Wf 29 0 7, Wl 30 29, o_ 31 (.call 35 [(.t 28), (.t 30)]), mv 27 31, Wx 32 0 27, Wx 33 1 27, o_ 8 (.box 120 9 (.c (.agg [.int .i32 (0), .str [], .str [], .int .u8 (0), .int .u8 (0), .int .u8 (0), .bool false, .int .i64 (0), .str []]))), Wt 9 8 32, mv 9 33]
def A_encode_writer_message_4 : LA := [mv 34 0, Wd 35 9 8, Wd 36 3 7, o_ 37 (.call 36 [(.t 34), (.t 35), (.t 36)])]
def A_encode_writer_message_5 : LA := [Wi 38 .add 23 1, mv 23 38]
def A_encode_writer_message_6 : ACode := (.seq (.ops [Wb 24 .lss 23 22]) (.seq (.cond (.t 24) .skip (.exit 0)) (.seq (.block 1 (.seq (.ops A_encode_writer_message_2) (.seq (.ops A_encode_writer_message_3) (.ops A_encode_writer_message_4)))) (.ops A_encode_writer_message_5))))
def A_encode_writer_message_7 : LA := [mv 39 0, Wc 40 39, Wf 41 0 40, Wl 42 41, Wf 43 2 3, Wl 44 43, o_ 45 (.call 37 [(.t 42), (.t 44)])]
def A_encode_writer_message : ACode := (.seq (.ops [o_ 3 (.box 55 3 (.t 1))]) (.seq (.alts [11, 12, 13, 14, 15, 16, 17, 10, 18, 19, 4, 5] [A_encode_writer_message_0]) (.seq (.seq (.ops A_encode_writer_message_1) (.block 0 (.loop A_encode_writer_message_6))) (.alts [39, 40, 41, 42, 43, 44, 45] [A_encode_writer_message_7]))))
def R_encode_writer_message : List ARes := []
theorem C_encode_writer_message : compF Tryz.prog Tryz.f15 = some (A_encode_writer_message, R_encode_writer_message) := by kernel_rfl
theorem K_encode_writer_message {md : Bool} {args : List AV} {h : Hp} {Q : Res → Hp → Prop} (hl : LCode Tryz.prog md A_encode_writer_message (EndQ R_encode_writer_message Q) (env0 46 args) h) (hn : args.length ≤ 46 := by (simp; done)) : CallL Tryz.prog F_encode_writer_message args h Q :=
 CallL.of (md := md) Tryz.func15 C_encode_writer_message (by rw [Tryz.ntmps15]; exact hn) (by rw [Tryz.ntmps15]; exact hl)
abbrev F_encode_Encode : Nat := 6
def A_encode_Encode_0 : LA := [o_ 3 (.box 55 3 (.t 1)), Wn 4, Wm 5 0]
def A_encode_Encode_1 : LA := [mv 12 0, Wd 13 3 3, o_ 14 (.call 12 [(.t 12), (.t 13)]), mv 11 14, Wx 15 0 11, Wx 16 1 11, o_ 6 (.box 55 3 (.c (.agg [.str [], .nils, .nils]))), Wt 3 6 15, mv 7 16]
def A_encode_Encode_2 : LA := [mv 17 7, Wi 18 .neq 17 0]
def A_encode_Encode_3 : LA := [mv 19 7, Wn 4, mv 5 19]
def A_encode_Encode_4 : LA := [o_ 21 (.call 13 [(i_ 16777216)]), mv 20 21, Wx 22 0 20, Wx 23 1 20, mv 8 22, mv 9 23]
def A_encode_Encode_5 : LA := [mv 24 8, mv 25 0, Wd 29 3 6, o_ 26 (.acall 14 []), o_ 27 (.build [.nilp, .nili, .nilm] [(0, 1, (.t 24)), (1, 1, (.t 25)), (2, 1, (.t 26))]), o_ 28 (.box 78 3 (.t 27)), o_ 30 (.acall 15 [(.t 28), (.t 29)])]
def A_encode_Encode_6 : LA := [mv 24 8, mv 25 0, o_ 26 (.pcall 14 []), o_ 27 (.build [.nilp, .nili, .nilm] [(0, 1, (.t 24)), (1, 1, (.t 25)), (2, 1, (.t 26))]), Wd 29 3 6, o_ 28 (.box 78 3 (.t 27)), o_ 30 (.pcall 15 [(.t 28), (.t 29)])]
def A_encode_Encode_7 : LA := [mv 24 8, mv 25 0, o_ 26 (.call 14 []), o_ 27 (.build [.nilp, .nili, .nilm] [(0, 1, (.t 24)), (1, 1, (.t 25)), (2, 1, (.t 26))]), Wd 29 3 6, o_ 28 (.box 78 3 (.t 27)), o_ 30 (.call 15 [(.t 28), (.t 29)])]
def A_encode_Encode_8 : LA := [mv 24 8, mv 25 0, Wd 29 3 6, o_ 26 (.call 14 []), o_ 27 (.build [.nilp, .nili, .nilm] [(0, 1, (.t 24)), (1, 1, (.t 25)), (2, 1, (.t 26))]), o_ 28 (.box 78 3 (.t 27)), o_ 30 (.call 15 [(.t 28), (.t 29)])]
def A_encode_Encode_9 : LA := [mv 32 8, o_ 33 (.call 16 [(.t 32)]), mv 31 33, Wx 34 0 31, Wx 35 1 31, mv 10 34, mv 7 35]
def A_encode_Encode_10 : LA := [mv 36 7, Wi 37 .neq 36 0]
def A_encode_Encode_11 : LA := [Wn 4, Wm 5 110]
def A_encode_Encode_12 : LA := [mv 38 10, mv 4 38, Wm 5 0]
def A_encode_Encode : ACode := (.seq (.ops A_encode_Encode_0) (.seq (.ops A_encode_Encode_1) (.seq (.seq (.ops A_encode_Encode_2) (.cond (.t 18) (.seq (.ops A_encode_Encode_3) .ret) .skip)) (.seq (.ops A_encode_Encode_4) (.seq (.orr (.alts [24, 25, 26, 27, 28, 29, 30] [A_encode_Encode_5]) (.orr (.alts [24, 25, 26, 27, 28, 29, 30] [A_encode_Encode_6]) (.alts [24, 25, 26, 27, 28, 29, 30] [A_encode_Encode_7, A_encode_Encode_8]))) (.seq (.ops A_encode_Encode_9) (.seq (.seq (.ops A_encode_Encode_10) (.cond (.t 37) (.seq (.ops A_encode_Encode_11) .ret) .skip)) (.seq (.ops A_encode_Encode_12) .ret))))))))
def R_encode_Encode : List ARes := [.tmp 4, .tmp 5]
theorem C_encode_Encode : compF Tryz.prog Tryz.f6 = some (A_encode_Encode, R_encode_Encode) := by kernel_rfl
theorem K_encode_Encode {md : Bool} {args : List AV} {h : Hp} {Q : Res → Hp → Prop} (hl : LCode Tryz.prog md A_encode_Encode (EndQ R_encode_Encode Q) (env0 39 args) h) (hn : args.length ≤ 39 := by (simp; done)) : CallL Tryz.prog F_encode_Encode args h Q :=
 CallL.of (md := md) Tryz.func6 C_encode_Encode (by rw [Tryz.ntmps6]; exact hn) (by rw [Tryz.ntmps6]; exact hl)
abbrev F_encode_forms : Nat := 14
end Go.Proofs.YtghlipffncbagaaGreatDoor

namespace Go.Proofs.YtghlipffncbagaaGreatDoor
open Go.L
abbrev TWr : TypeId := 78
abbrev TForm : TypeId := 112
section
variable {W lim : Nat} {op u : AV} {l : Str} {h h' : Hp}
theorem Wr.gr (k : Wr W lim op u l h) (g : Gr h h') : Wr W lim op u l h' := ⟨g.blk k.row, k.bl.imp (fun h => h) fun ⟨j, a, b, c⟩ => ⟨j, a, b, g.blk c⟩⟩
theorem Stp.gr {W : Nat} {u : AV} {h h' : Hp} (g : Gr h h') : Stp W u h u h' := fun x hx => ⟨g.m x hx.1, g.u x hx.1, hx.2⟩
theorem Off.gr {x : Nat} (o : Off W u h x) (g : Gr h h') : Off W u h' x := ⟨g.u x o.1, o.2⟩
theorem Stp.blk {u' : AV} {x : Nat} {b : Blk} (k : Stp W u h u' h') (o : Off W u h x) (hb : h x = some b) : h' x = some b := (k x o).1.trans hb
theorem Wr.offNew (k : Wr W lim op u l h) {b : Nat} (hb : h.u b = false) (hu : h'.u b = true) : Off W u h' b := by
 refine ⟨hu, (ne_of_u (Hp.used k.row) hb).symm, fun e => ?_⟩
 rcases k.bl with ⟨rfl, _⟩ | ⟨j, rfl, _, hj⟩
 ·cases e
 ·cases e; have := Hp.used hj; rw [hb] at this; cases this
structure Ws (W w K : Nat) (tv : AV) (esK : MapL) (cK : Nat) (u : AV) (h : Hp) : Prop where
 hw : h w = some (.row TWr [[.ptr W 0 0, tv, .map K]])
 ow : Off W u h w
 hK : h K = some (.map esK cK)
 oK : Off W u h K
structure KindsOK (esK : MapL) : Prop where
 like : KeysLike (.int .u8 4) esK
 get : mget (.int .u8 4) esK = some (.agg [.int .u8 0, kf F_encode_writer_varint])
theorem Ws.gr {w K : Nat} {tv : AV} {esK : MapL} {cK : Nat} (k : Ws W w K tv esK cK u h) (g : Gr h h') : Ws W w K tv esK cK u h' := ⟨g.blk k.hw, k.ow.gr g, g.blk k.hK, k.oK.gr g⟩
theorem Ws.stp {w K : Nat} {tv : AV} {esK : MapL} {cK : Nat} {u' : AV} (k : Ws W w K tv esK cK u h) (s : Stp W u h u' h') : Ws W w K tv esK cK u' h' := ⟨s.blk k.ow k.hw, (s _ k.ow).2, s.blk k.oK k.hK, (s _ k.oK).2⟩
variable {w K cK : Nat} {tv : AV} {esK : MapL}
theorem Has_wvarint : HasBody Tryz.prog F_encode_writer_varint := ⟨_, Tryz.func29, by kernel_rfl, by kernel_rfl⟩
theorem wvarint_L (k : Wr W lim op u l h) (ks : Ws W w K tv esK cK u h) (hop : notTup op = true) (hof : flat [op] = true) {x : Nat} (hx : x < 18446744073709551616) (hn : l.length + (vari x).length ≤ lim) (hl : lim ≤ 16777216) :
  CallL Tryz.prog F_encode_writer_varint [.ptr w 0 0, .int .u8 4, .agg (vC x)] h fun r h' => r = .ret (.tup []) ∧ ∃ u', Wr W lim op u' (l ++ vari x) h' ∧ Stp W u h u' h' := by
 refine K_encode_writer_varint (md := false) ?_
 refine ⟨rfl, rfl, fun b hb => ?_⟩
 have g := (Gr.refl h).set hb.1 (.row TV [vC x])
 refine ⟨_, _, _, _, g.blk ks.hw, rfl, rfl, ?_⟩
 refine ⟨_, _, _, _, Hp.set_same _ _ _, rfl, rfl, ?_⟩
 refine (VarintW_L (k.gr g) hop hof hx hn hl).mono ?_
 rintro r h2 ⟨rfl, u', k', s⟩
 exact ⟨rfl, rfl, u', k', (Stp.gr g).trans s⟩
theorem record_L (k : Wr W lim op u l h) (ks : Ws W w K tv esK cK u h) (kk : KindsOK esK) (hop : notTup op = true) (hof : flat [op] = true) {x : Nat} (hx : x < 18446744073709551616) (hn : l.length + 12 ≤ lim) (hl : lim ≤ 16777216) :
  CallL Tryz.prog F_encode_writer_record [.ptr w 0 0, .int .i32 16, .int .u8 4, .agg (vC x)] h fun r h' => r = .ret (.tup []) ∧ ∃ u', Wr W lim op u' (l ++ vari 128 ++ vari x) h' ∧ Stp W u h u' h' := by
 have hv := vari_len x
 refine K_encode_writer_record (md := false) ?_
 refine ⟨rfl, rfl, fun b7 h7 => ?_⟩
 have g1 := (Gr.refl h).set h7.1 (.row TV [vC x])
 have r7 : (h.set b7 (.row TV [vC x])) b7 = some (.row TV [vC x]) := Hp.set_same _ _ _
 refine ⟨_, _, _, _, g1.blk ks.hw, rfl, rfl, ?_⟩
 refine ⟨_, _, g1.blk ks.hK, rfl, kk.like, fun r hr => ?_⟩
 obtain rfl : r = some (.agg [.int .u8 0, kf F_encode_writer_varint]) := hr.trans kk.get
 refine ⟨rfl, rfl, fun b8 h8 => ?_⟩
 refine ⟨_, _, _, Hp.set_same _ _ _, rfl, rfl, rfl, rfl, by show 2 ≤ 2; decide, ?_⟩
 have g8 := ((Gr.refl (h.set b7 (.row TV [vC x]))).set h8.1 (.row TForm [[.int .u8 0, .nilf]])).set h8.1 (.row TForm [[.int .u8 0, kf F_encode_writer_varint]])
 have r8 : (((h.set b7 (.row TV [vC x])).set b8 (.row TForm [[.int .u8 0, .nilf]])).set b8 (.row TForm [[.int .u8 0, kf F_encode_writer_varint]])) b8 = some (.row TForm [[.int .u8 0, kf F_encode_writer_varint]]) := Hp.set_same _ _ _
 have g := g1.trans g8
 have r7' := g8.blk r7
 generalize hH : (((h.set b7 (.row TV [vC x])).set b8 (.row TForm [[.int .u8 0, .nilf]])).set b8 (.row TForm [[.int .u8 0, kf F_encode_writer_varint]])) = H1 at g r8 r7'
 refine ⟨_, _, _, _, (congrArg (fun X : Hp => X.m w) hH).trans (g.blk ks.hw), rfl, rfl, ?_⟩
 refine ⟨_, _, _, _, (congrArg (fun X : Hp => X.m b8) hH).trans r8, rfl, rfl, ?_⟩
 have k1 := k.gr g
 have o7 : Off W u H1 b7 := k.offNew h7.1 (Hp.used r7')
 have o8 : Off W u H1 b8 := k.offNew (g1.new h8.1) (Hp.used r8)
 have ks1 := ks.gr g
 have hT := Tag_L k1 hop hof (kk := 0) (.inl rfl) (by omega) hl
 refine CallL.mono (h := _) (by rw [← hH] at hT; exact hT) ?_
 rintro r h2 ⟨rfl, u2, k2, s2⟩
 have s2' : Stp W u H1 u2 h2 := by rw [← hH]; exact s2
 refine ⟨_, _, _, _, s2'.blk o8 r8, rfl, rfl, ?_⟩
 refine ⟨_, _, _, s2'.blk o7 r7', rfl, by show 3 ≤ 3; decide, ?_⟩
 have e128 : (vari (128 + 0)).length = 2 := rfl
 refine ⟨Has_wvarint, (wvarint_L k2 (ks1.stp s2') hop hof hx (by rw [List.length_append, e128]; omega) hl).mono ?_⟩
 rintro r h3 ⟨rfl, u3, k3, s3⟩
 exact ⟨rfl, rfl, u3, k3, (Stp.gr g).trans (s2'.trans s3)⟩
end
end Go.Proofs.YtghlipffncbagaaGreatDoor

namespace Go.Proofs.YtghlipffncbagaaGreatDoor
open Go.L
def encR (xs : List Nat) : Str := xs.flatMap fun x => vari 128 ++ vari x
def encP (xs : List Nat) : Str := xs.flatMap vari
theorem encR_snoc {xs : List Nat} {k x : Nat} (h : xs[k]? = some x) : encR (xs.take (k + 1)) = encR (xs.take k) ++ (vari 128 ++ vari x) := by
 rw [List.take_add_one, h, encR, encR, List.flatMap_append]; simp
theorem encP_snoc {xs : List Nat} {k x : Nat} (h : xs[k]? = some x) : encP (xs.take (k + 1)) = encP (xs.take k) ++ vari x := by
 rw [List.take_add_one, h, encP, encP, List.flatMap_append]; simp
theorem encR_len (xs : List Nat) : (encR xs).length ≤ 12 * xs.length := by
 induction xs with
 | nil => exact Nat.le_refl _
 | cons x xs ih =>
  have e : encR (x :: xs) = vari 128 ++ vari x ++ encR xs := List.flatMap_cons ..
  have h1 : (vari 128).length = 2 := rfl
  have h2 := vari_len x
  rw [e, List.length_append, List.length_append, List.length_cons]; omega
theorem encP_len (xs : List Nat) : (encP xs).length ≤ 10 * xs.length := by
 induction xs with
 | nil => exact Nat.le_refl _
 | cons x xs ih =>
  have e : encP (x :: xs) = vari x ++ encP xs := List.flatMap_cons ..
  have h2 := vari_len x
  rw [e, List.length_append, List.length_cons]; omega
section
variable {W lim w K cK : Nat} {u : AV} {l : Str} {h : Hp} {tv : AV} {esK : MapL}
set_option maxHeartbeats 2000000 in
theorem wfieldN_L (k : Wr W lim .nils u l h) (ks : Ws W w K tv esK cK u h) (kk : KindsOK esK) {lb : Nat} {xs : List Nat} (hlb : h lb = some (.row TV (vsC xs))) (olb : Off W u h lb) (hx : ∀ x ∈ xs, x < 18446744073709551616) (hm : xs.length ≤ 10000) (hn : l.length + 12 * xs.length ≤ lim) (hl : lim ≤ 16777216) :
  CallL Tryz.prog F_encode_writer_field [.ptr w 0 0, .agg (rowF false), .agg (fC (.slc lb 0 xs.length none))] h fun r h' => r = .ret (.tup []) ∧ ∃ u', Wr W lim .nils u' (l ++ encR xs) h' ∧ Stp W u h u' h' := by
 have hvl := vsC_len xs
 refine K_encode_writer_field (md := false) ?_
 refine ⟨rfl, rfl, fun b3 h3 => ?_⟩
 refine ⟨rfl, rfl, fun b4 h4 => ?_⟩
 refine ⟨rfl, rfl, fun b5 h5 => ?_⟩
 have g3 := (Gr.refl h).set h3.1 (.row 74 [[.ptr w 0 0]])
 have g4 := g3.set (g3.new h4.1) (.row TRow [rowF false])
 have g := g4.set (g4.new h5.1) (.row TFV [fC (.slc lb 0 xs.length none)])
 have h34 : b3 ≠ b4 := ne_of_u (by simp) h4.1
 have h35 : b3 ≠ b5 := ne_of_u (by simp) h5.1
 have h45 : b4 ≠ b5 := ne_of_u (by simp) h5.1
 generalize hH : ((h.set b3 (.row 74 [[.ptr w 0 0]])).set b4 (.row TRow [rowF false])).set b5 (.row TFV [fC (.slc lb 0 xs.length none)]) = H at g
 have r3 : H b3 = some (.row 74 [[.ptr w 0 0]]) := by rw [← hH]; exact (Hp.set_ne h35).trans ((Hp.set_ne h34).trans (Hp.set_same _ _ _))
 have r4 : H b4 = some (.row TRow [rowF false]) := by rw [← hH]; exact (Hp.set_ne h45).trans (Hp.set_same _ _ _)
 have r5 : H b5 = some (.row TFV [fC (.slc lb 0 xs.length none)]) := by rw [← hH]; exact Hp.set_same _ _ _
 have o3 : Off W u H b3 := k.offNew h3.1 (Hp.used r3)
 have o4 : Off W u H b4 := k.offNew (g3.new h4.1) (Hp.used r4)
 have k0 := k.gr g
 have ks0 := ks.gr g
 have rl := g.blk hlb
 have ol := olb.gr g
 refine ⟨_, _, _, _, (congrArg (fun X : Hp => X.m b4) hH).trans r4, rfl, rfl, ?_⟩
 refine s_eq (fun (h6 : (3 : Int) = 4) => absurd h6 (by decide)) (fun _ => ?_)
 refine ⟨_, _, _, _, (congrArg (fun X : Hp => X.m b4) hH).trans r4, rfl, rfl, ?_⟩
 refine ⟨_, _, _, _, (congrArg (fun X : Hp => X.m b5) hH).trans r5, rfl, rfl, ?_⟩
 refine s_blk (id := 1) (fun e' h' => e'.ds = [] ∧ ∃ u', Wr W lim .nils u' (l ++ encR xs) h' ∧ Stp W u H u' h') ?_ ?_
 ·refine s_loop xs.length (fun q (s : AV × Hp) => q ≤ xs.length ∧ Wr W lim .nils s.1 (l ++ encR (xs.take q)) s.2 ∧ Stp W u H s.1 s.2) (fun q _ => [(3, .ptr b3 0 0), (4, .ptr b4 0 0), (11, .slc lb 0 xs.length none), (12, .int .i64 (xs.length : Nat)), (13, .int .i64 (q : Nat))]) (fun _ s => s.2) (u, H)
   ⟨Nat.zero_le _, by show Wr _ _ _ _ (l ++ []) _; rw [List.append_nil]; exact k0, Stp.refl _ _ _⟩ hH rfl ⟨rfl, rfl, rfl, rfl, rfl, trivial⟩ (fun q s hI => hI.1) ?_
  rintro q ⟨u1, s⟩ n1 g1 hq ⟨_, kq, sq⟩
  simp only at kq sq
  refine s_lt (fun (h6 : ((q : Nat) : Int) < (xs.length : Nat)) => ?_) (fun (h6 : ((xs.length : Nat) : Int) ≤ (q : Nat)) => ?_)
  ·obtain ⟨x, hxq⟩ := get_lt (l := xs) (k := q) (by omega)
   have rlS := sq.blk ol rl
   have htl : (encR (xs.take q)).length ≤ 12 * q := by have := encR_len (xs.take q); rw [List.length_take] at this; omega
   refine ⟨q, rfl, by omega, ⟨_, rlS⟩, ?_⟩
   refine ⟨_, _, _, rlS, vsC_get hxq, by show 3 ≤ 3; decide, ?_⟩
   refine ⟨rfl, rfl, fun b9 h9 => ?_⟩
   refine ⟨_, _, _, Hp.set_same _ _ _, rfl, rfl, rfl, rfl, by show 3 ≤ 3; decide, ?_⟩
   have g9 := ((Gr.refl s).set h9.1 (.row TV [[.int .u64 0, .str [], .nils]])).set h9.1 (.row TV [vC x])
   refine ⟨_, _, _, _, g9.blk (sq.blk o3 r3), rfl, rfl, ?_⟩
   refine ⟨_, _, _, _, g9.blk (sq.blk o4 r4), rfl, rfl, ?_⟩
   refine ⟨_, _, _, _, g9.blk (sq.blk o4 r4), rfl, rfl, ?_⟩
   refine ⟨_, _, _, Hp.set_same _ _ _, rfl, by show 3 ≤ 3; decide, ?_⟩
   refine (record_L (kq.gr g9) ((ks0.stp sq).gr g9) kk rfl rfl (hx x (List.mem_of_getElem? hxq)) (by rw [List.length_append]; omega) hl).mono ?_
   rintro r s2 ⟨rfl, u2, k2, s2'⟩
   refine s_nat (q + 1) (by omega) (by omega) ?_
   refine ⟨(u2, s2), by omega, ⟨by omega, ?_, sq.trans ((Stp.gr g9).trans s2')⟩, rfl, rfl, rfl, rfl, rfl, rfl, rfl, trivial⟩
   show Wr W lim .nils u2 (l ++ encR (xs.take (q + 1))) s2
   rw [encR_snoc hxq, ← List.append_assoc, ← List.append_assoc]; exact k2
  ·obtain rfl : q = xs.length := by omega
   rw [List.take_length] at kq
   exact ⟨rfl, u1, kq, sq⟩
 ·rintro e' h' ⟨hd, u', k', s'⟩
  exact ⟨hd, rfl, u', k', (Stp.gr g).trans s'⟩
end
end Go.Proofs.YtghlipffncbagaaGreatDoor

namespace Go.Proofs.YtghlipffncbagaaGreatDoor
open Go.L
abbrev F_slices_Reverse : Nat := 275
def A_slices_Reverse_0 : LA := [mv 4 0, We 5 4, Wi 6 .sub 5 1, Wm 2 0, mv 3 6]
def A_slices_Reverse_1 : LA := [mv 7 2, mv 8 3, Wb 9 .lss 7 8]
def A_slices_Reverse_2 : LA := [mv 14 0, mv 15 2, mv 16 0, mv 17 3, mv 18 0, mv 19 3, Wa 20 5 1 18 19, Wl 21 20, mv 22 0, mv 23 2, Wa 24 5 1 22 23, Wl 25 24, Wa 26 5 1 14 15, Wt 1 26 21, Wa 27 5 1 16 17, Wt 1 27 25]
def A_slices_Reverse_3 : LA := [mv 10 2, Wi 11 .add 10 1, mv 12 3, Wi 13 .sub 12 1, mv 2 11, mv 3 13]
def A_slices_Reverse_4 : ACode := (.seq (.seq (.ops A_slices_Reverse_1) (.cond (.t 9) .skip (.exit 0))) (.seq (.block 1 (.alts [14, 15, 16, 17, 18, 19, 20, 21, 22, 23, 24, 25, 26, 27] [A_slices_Reverse_2])) (.ops A_slices_Reverse_3)))
def A_slices_Reverse : ACode := (.seq (.ops A_slices_Reverse_0) (.block 0 (.loop A_slices_Reverse_4)))
def R_slices_Reverse : List ARes := []
theorem C_slices_Reverse : compF Tryz.prog Tryz.f275 = some (A_slices_Reverse, R_slices_Reverse) := by kernel_rfl
theorem K_slices_Reverse {md : Bool} {args : List AV} {h : Hp} {Q : Res → Hp → Prop} (hl : LCode Tryz.prog md A_slices_Reverse (EndQ R_slices_Reverse Q) (env0 28 args) h) (hn : args.length ≤ 28 := by (simp; done)) : CallL Tryz.prog F_slices_Reverse args h Q :=
 CallL.of (md := md) Tryz.func275 C_slices_Reverse (by rw [Tryz.ntmps275]; exact hn) (by rw [Tryz.ntmps275]; exact hl)
abbrev F_slices_rotateLeft : Nat := 252
def A_slices_rotateLeft_0 : LA := [mv 4 0, mv 5 1, o_ 6 (.slcl 5 1 (.t 4) none (some (.t 5)) none), o_ 7 (.call 275 [(.t 6)])]
def A_slices_rotateLeft_1 : LA := [mv 8 0, mv 9 1, o_ 10 (.slcl 5 1 (.t 8) (some (.t 9)) none none), o_ 11 (.call 275 [(.t 10)])]
def A_slices_rotateLeft_2 : LA := [mv 12 0, o_ 13 (.call 275 [(.t 12)])]
def A_slices_rotateLeft : ACode := (.seq (.ops A_slices_rotateLeft_0) (.seq (.ops A_slices_rotateLeft_1) (.ops A_slices_rotateLeft_2)))
def R_slices_rotateLeft : List ARes := []
theorem C_slices_rotateLeft : compF Tryz.prog Tryz.f252 = some (A_slices_rotateLeft, R_slices_rotateLeft) := by kernel_rfl
theorem K_slices_rotateLeft {md : Bool} {args : List AV} {h : Hp} {Q : Res → Hp → Prop} (hl : LCode Tryz.prog md A_slices_rotateLeft (EndQ R_slices_rotateLeft Q) (env0 14 args) h) (hn : args.length ≤ 14 := by (simp; done)) : CallL Tryz.prog F_slices_rotateLeft args h Q :=
 CallL.of (md := md) Tryz.func252 C_slices_rotateLeft (by rw [Tryz.ntmps252]; exact hn) (by rw [Tryz.ntmps252]; exact hl)
abbrev F_slices_rotateRight : Nat := 209
def A_slices_rotateRight_0 : LA := [mv 4 0, mv 5 0, We 6 5, mv 7 1, Wb 8 .sub 6 7, o_ 9 (.call 252 [(.t 4), (.t 8)])]
def A_slices_rotateRight : ACode := (.ops A_slices_rotateRight_0)
def R_slices_rotateRight : List ARes := []
theorem C_slices_rotateRight : compF Tryz.prog Tryz.f209 = some (A_slices_rotateRight, R_slices_rotateRight) := by kernel_rfl
theorem K_slices_rotateRight {md : Bool} {args : List AV} {h : Hp} {Q : Res → Hp → Prop} (hl : LCode Tryz.prog md A_slices_rotateRight (EndQ R_slices_rotateRight Q) (env0 10 args) h) (hn : args.length ≤ 10 := by (simp; done)) : CallL Tryz.prog F_slices_rotateRight args h Q :=
 CallL.of (md := md) Tryz.func209 C_slices_rotateRight (by rw [Tryz.ntmps209]; exact hn) (by rw [Tryz.ntmps209]; exact hl)
abbrev F_slices_Insert : Nat := 155
def A_slices_Insert_0 : LA := [mv 10 0, mv 11 1, o_ 12 (.slcl 5 1 (.t 10) (some (.t 11)) none none)]
def A_slices_Insert_1 : LA := [mv 13 2, We 14 13, mv 7 14]
def A_slices_Insert_2 : LA := [mv 15 7, Wi 16 .eql 15 0]
def A_slices_Insert_3 : LA := [mv 17 0, mv 6 17]
def A_slices_Insert_4 : LA := [mv 18 0, We 19 18, mv 8 19]
def A_slices_Insert_5 : LA := [mv 20 1, mv 21 8, Wb 22 .eql 20 21]
def A_slices_Insert_6 : LA := [mv 23 0, mv 24 2, o_ 25 (.app 5 1 1 (.t 23) (.t 24)), mv 6 25]
def A_slices_Insert_7 : LA := [mv 26 8, mv 27 7, Wb 28 .add 26 27, mv 29 0, o_ 30 (.capk (.t 29)), Wb 31 .gtr 28 30]
def A_slices_Insert_8 : LA := [mv 32 0, mv 33 1, o_ 34 (.slcl 5 1 (.t 32) none (some (.t 33)) none), mv 35 8, mv 36 7, Wb 37 .add 35 36, mv 38 1, Wb 39 .sub 37 38, o_ 40 (.appz 5 1 1 [.int .u8 0] (.t 34) (.t 39)), mv 9 40]
def A_slices_Insert_9 : LA := [mv 41 9, mv 42 1, o_ 43 (.slcl 5 1 (.t 41) (some (.t 42)) none none), mv 44 2, o_ 45 (.cpy 5 1 (.t 43) (.t 44))]
def A_slices_Insert_10 : LA := [mv 46 9, mv 47 1, mv 48 7, Wb 49 .add 47 48, o_ 50 (.slcl 5 1 (.t 46) (some (.t 49)) none none), mv 51 0, mv 52 1, o_ 53 (.slcl 5 1 (.t 51) (some (.t 52)) none none), o_ 54 (.cpy 5 1 (.t 50) (.t 53))]
def A_slices_Insert_11 : LA := [mv 55 9, mv 6 55]
def A_slices_Insert_12 : LA := [mv 56 0, mv 57 8, mv 58 7, Wb 59 .add 57 58, o_ 60 (.slcl 5 1 (.t 56) none (some (.t 59)) none), mv 0 60]
def A_slices_Insert_13 : LA := [mv 61 2, mv 62 0, mv 63 1, mv 64 7, Wb 65 .add 63 64, o_ 66 (.slcl 5 1 (.t 62) (some (.t 65)) none none), o_ 67 (.ovl (.t 61) (.t 66)), o_ 68 (.not (.t 67))]
def A_slices_Insert_14 : LA := [mv 69 0, mv 70 1, mv 71 7, Wb 72 .add 70 71, o_ 73 (.slcl 5 1 (.t 69) (some (.t 72)) none none), mv 74 0, mv 75 1, o_ 76 (.slcl 5 1 (.t 74) (some (.t 75)) none none), o_ 77 (.cpy 5 1 (.t 73) (.t 76))]
def A_slices_Insert_15 : LA := [mv 78 0, mv 79 1, o_ 80 (.slcl 5 1 (.t 78) (some (.t 79)) none none), mv 81 2, o_ 82 (.cpy 5 1 (.t 80) (.t 81))]
def A_slices_Insert_16 : LA := [mv 83 0, mv 6 83]
def A_slices_Insert_17 : LA := [mv 84 0, mv 85 8, o_ 86 (.slcl 5 1 (.t 84) (some (.t 85)) none none), mv 87 2, o_ 88 (.cpy 5 1 (.t 86) (.t 87))]
def A_slices_Insert_18 : LA := [mv 89 0, mv 90 1, o_ 91 (.slcl 5 1 (.t 89) (some (.t 90)) none none), mv 92 7, o_ 93 (.call 209 [(.t 91), (.t 92)])]
def A_slices_Insert_19 : LA := [mv 94 0, mv 6 94]
def A_slices_Insert : ACode := (.seq (.ops [Wn 6]) (.seq (.ops A_slices_Insert_0) (.seq (.ops A_slices_Insert_1) (.seq (.seq (.ops A_slices_Insert_2) (.cond (.t 16) (.seq (.ops A_slices_Insert_3) .ret) .skip)) (.seq (.ops A_slices_Insert_4) (.seq (.seq (.ops A_slices_Insert_5) (.cond (.t 22) (.seq (.ops A_slices_Insert_6) .ret) .skip)) (.seq (.seq (.ops A_slices_Insert_7) (.cond (.t 31) (.seq (.ops A_slices_Insert_8) (.seq (.ops A_slices_Insert_9) (.seq (.alts [46, 47, 48, 49, 50, 51, 52, 53, 54] [A_slices_Insert_10]) (.seq (.ops A_slices_Insert_11) .ret)))) .skip)) (.seq (.ops A_slices_Insert_12) (.seq (.seq (.ops A_slices_Insert_13) (.cond (.t 68) (.seq (.alts [69, 70, 71, 72, 73, 74, 75, 76, 77] [A_slices_Insert_14]) (.seq (.ops A_slices_Insert_15) (.seq (.ops A_slices_Insert_16) .ret))) .skip)) (.seq (.ops A_slices_Insert_17) (.seq (.ops A_slices_Insert_18) (.seq (.ops A_slices_Insert_19) .ret))))))))))))
def R_slices_Insert : List ARes := [.tmp 6]
theorem C_slices_Insert : compF Tryz.prog Tryz.f155 = some (A_slices_Insert, R_slices_Insert) := by kernel_rfl
theorem K_slices_Insert {md : Bool} {args : List AV} {h : Hp} {Q : Res → Hp → Prop} (hl : LCode Tryz.prog md A_slices_Insert (EndQ R_slices_Insert Q) (env0 95 args) h) (hn : args.length ≤ 95 := by (simp; done)) : CallL Tryz.prog F_slices_Insert args h Q :=
 CallL.of (md := md) Tryz.func155 C_slices_Insert (by rw [Tryz.ntmps155]; exact hn) (by rw [Tryz.ntmps155]; exact hl)
end Go.Proofs.YtghlipffncbagaaGreatDoor

namespace Go.Proofs.YtghlipffncbagaaGreatDoor
open Go.L
theorem bt_set (A B : List (List AV)) (l : List UInt8) (k : Nat) (x : UInt8) (hk : k < l.length) : (A ++ bt l ++ B).set (A.length + k) [.int .u8 (x.toNat : Int)] = A ++ bt (l.set k x) ++ B := by
 have h1 := bt_len l
 rw [List.append_assoc, List.set_append_right _ _ (by omega), show A.length + k - A.length = k by omega, List.set_append_left _ _ (by omega), ← List.append_assoc]
 congr 2
 rw [bt, bt, List.map_set]
theorem seg_get (A B : List (List AV)) (l : List UInt8) {k : Nat} {x : UInt8} (h : l[k]? = some x) : (A ++ bt l ++ B)[A.length + k]? = some [.int .u8 (x.toNat : Int)] := by
 have h1 := bt_len l
 have h2 := (List.getElem?_eq_some_iff.1 h).1
 rw [List.append_assoc, List.getElem?_append_right (by omega), show A.length + k - A.length = k by omega, List.getElem?_append_left (by omega)]
 exact bt_get h
structure Sw (l : List UInt8) (t : Nat) (s : List UInt8) : Prop where
 len : s.length = l.length
 get : ∀ q, q < l.length → s[q]? = if q < t ∨ l.length - t ≤ q then l[l.length - 1 - q]? else l[q]?
theorem Sw.start (l : List UInt8) : Sw l 0 l := ⟨rfl, fun q hq => by rw [if_neg (by omega)]⟩
theorem Sw.fin {l s : List UInt8} {t : Nat} (h : Sw l t s) (ht : l.length ≤ 2 * t + 1) : s = l.reverse := by
 apply List.ext_getElem?
 intro q
 by_cases hq : q < l.length
 ·rw [h.get q hq, List.getElem?_reverse hq]
  by_cases e : q < t ∨ l.length - t ≤ q
  ·rw [if_pos e]
  ·rw [if_neg e, show l.length - 1 - q = q by omega]
 ·rw [List.getElem?_eq_none (by have := h.len; omega), List.getElem?_eq_none (by rw [List.length_reverse]; omega)]
theorem Sw.step {l s : List UInt8} {t : Nat} {x y : UInt8} (h : Sw l t s) (ht : 2 * t + 1 < l.length) (hx : s[l.length - 1 - t]? = some x) (hy : s[t]? = some y) : Sw l (t + 1) ((s.set t x).set (l.length - 1 - t) y) := by
 have hl := h.len
 refine ⟨by simp [hl], fun q hq => ?_⟩
 rw [h.get _ (by omega), if_neg (by omega)] at hx hy
 rw [List.getElem?_set, List.getElem?_set]
 by_cases e1 : l.length - 1 - t = q
 ·rw [if_pos e1, if_pos (by rw [List.length_set]; omega), if_pos (by omega), ← e1, show l.length - 1 - (l.length - 1 - t) = t by omega, hy]
 ·rw [if_neg e1]
  by_cases e2 : t = q
  ·rw [if_pos e2, if_pos (by omega), if_pos (by omega), ← e2, hx]
  ·rw [if_neg e2, h.get q hq]
   by_cases e3 : q < t ∨ l.length - t ≤ q
   ·rw [if_pos e3, if_pos (by omega)]
   ·rw [if_neg e3, if_neg (by omega)]
theorem Reverse_L (A B : List (List AV)) (l : List UInt8) (i : Nat) (c : Option Nat) (h : Hp) (hi : h i = some (.row Tb (A ++ bt l ++ B))) (hl : l.length ≤ 1000000000000) :
  CallL Tryz.prog F_slices_Reverse [.slc i A.length l.length c] h fun r h' => r = .ret (.tup []) ∧ h' = h.set i (.row Tb (A ++ bt l.reverse ++ B)) := by
 refine K_slices_Reverse (md := false) ?_
 refine s_64 (by omega) (by omega) ?_
 refine s_loop l.length (fun t (s : List UInt8) => t ≤ l.length ∧ Sw l t s) (fun t _ => [(0, .slc i A.length l.length c), (2, .int .i64 t), (3, .int .i64 ((l.length : Int) - 1 - t))]) (fun _ s => h.set i (.row Tb (A ++ bt s ++ B))) l
  ⟨Nat.zero_le _, Sw.start l⟩ (Hp.set_self hi).symm rfl ⟨rfl, rfl, by show AV.int _ _ = AV.int _ _; congr 1; omega, trivial⟩ (fun k s hI => hI.1) ?_
 intro t s n0 g0 ht ⟨_, hs⟩
 have hsl := hs.len
 refine s_lt (fun h1 => ?_) (fun h1 => ?_)
 ·obtain ⟨x, hx⟩ := get_lt (l := s) (k := l.length - 1 - t) (by omega)
  obtain ⟨y, hy⟩ := get_lt (l := s) (k := t) (by omega)
  have gx := seg_get A B s hx
  have gy := seg_get A B s hy
  have gy2 : (A ++ bt s ++ B).set (A.length + t) [.int .u8 (x.toNat : Int)] = A ++ bt (s.set t x) ++ B := bt_set A B s t x (by omega)
  obtain ⟨x2, hx2⟩ := get_lt (l := s.set t x) (k := l.length - 1 - t) (by rw [List.length_set]; omega)
  have gx2 := seg_get A B (s.set t x) hx2
  have gs2 : (A ++ bt (s.set t x) ++ B).set (A.length + (l.length - 1 - t)) [.int .u8 (y.toNat : Int)] = A ++ bt ((s.set t x).set (l.length - 1 - t) y) ++ B := bt_set A B _ _ y (by rw [List.length_set]; omega)
  have hH : (((h.set i (.row Tb (A ++ bt s ++ B))).set i (.row Tb ((A ++ bt s ++ B).set (A.length + t) [.int .u8 (x.toNat : Int)]))).set i (.row Tb ((A ++ bt (s.set t x) ++ B).set (A.length + (l.length - 1 - t)) [.int .u8 (y.toNat : Int)]))) = h.set i (.row Tb (A ++ bt ((s.set t x).set (l.length - 1 - t) y) ++ B)) := by
   rw [Hp.set_set, Hp.set_set, gs2]
  have h3 : ((h.set i (.row Tb (A ++ bt s ++ B))).set i (.row Tb ((A ++ bt s ++ B).set (A.length + t) [.int .u8 (x.toNat : Int)]))) i = some (.row Tb (A ++ bt (s.set t x) ++ B)) := by rw [Hp.set_same, gy2]
  refine ⟨l.length - 1 - t, by omega, by omega, ⟨_, Hp.set_same _ _ _⟩, ?_⟩
  refine ⟨_, _, _, _, Hp.set_same _ _ _, gx, rfl, ?_⟩
  refine ⟨t, rfl, by omega, ⟨_, Hp.set_same _ _ _⟩, ?_⟩
  refine ⟨_, _, _, _, Hp.set_same _ _ _, gy, rfl, ?_⟩
  refine ⟨t, rfl, by omega, ⟨_, Hp.set_same _ _ _⟩, ?_⟩
  refine ⟨_, _, _, Hp.set_same _ _ _, gy, rfl, rfl, rfl, Nat.le_refl _, ?_⟩
  refine ⟨l.length - 1 - t, by omega, by omega, ⟨_, h3⟩, ?_⟩
  refine ⟨_, _, _, h3, gx2, rfl, rfl, rfl, Nat.le_refl _, ?_⟩
  refine s_nat (t + 1) (by omega) (by omega) ?_
  refine s_64 (by omega) (by omega) ?_
  exact ⟨(s.set t x).set (l.length - 1 - t) y, by omega, ⟨by omega, hs.step (by omega) hx hy⟩, hH, rfl, rfl, rfl, by show AV.int _ _ = AV.int _ _; congr 1; omega, trivial⟩
 ·refine ⟨rfl, rfl, ?_⟩
  rw [hs.fin (by omega)]
theorem rotLeft_L (A B : List (List AV)) (l : List UInt8) (r : Nat) (i : Nat) (c : Nat) (h : Hp) (hi : h i = some (.row Tb (A ++ bt l ++ B))) (hr : r ≤ l.length) (hc : l.length ≤ c) (hl : l.length ≤ 1000000000000) :
  CallL Tryz.prog F_slices_rotateLeft [.slc i A.length l.length (some c), .int .i64 r] h fun q h' => q = .ret (.tup []) ∧ h' = h.set i (.row Tb (A ++ bt (l.drop r ++ l.take r) ++ B)) := by
 have hl1 : (l.take r).length = r := by rw [List.length_take]; omega
 have hl2 : (l.drop r).length = l.length - r := List.length_drop ..
 refine K_slices_rotateLeft (md := false) ?_
 refine ⟨⟨_, hi⟩, r, rfl, Nat.zero_le _, (by show r ≤ c; omega), ?_⟩
 have r1 : h i = some (.row Tb (A ++ bt (l.take r) ++ (bt (l.drop r) ++ B))) := by
  have e0 : bt l = bt (l.take r) ++ bt (l.drop r) := by rw [← bt_app, List.take_append_drop]
  rw [hi, e0]; simp only [List.append_assoc]
 have k1 := Reverse_L A (bt (l.drop r) ++ B) (l.take r) i (some (c - 0)) h r1 (by omega)
 rw [hl1] at k1
 refine (show CallL Tryz.prog F_slices_Reverse [.slc i (A.length + 0) (r - 0) (some (c - 0))] h _ from k1).mono ?_
 rintro q h1 ⟨rfl, rfl⟩
 refine ⟨⟨_, Hp.set_same _ _ _⟩, r, rfl, hr, (by show l.length ≤ c; omega), ?_⟩
 have r2 : (h.set i (.row Tb (A ++ bt (l.take r).reverse ++ (bt (l.drop r) ++ B)))) i = some (.row Tb ((A ++ bt (l.take r).reverse) ++ bt (l.drop r) ++ B)) := by rw [Hp.set_same]; simp only [List.append_assoc]
 have k2 := Reverse_L (A ++ bt (l.take r).reverse) B (l.drop r) i (some (c - r)) _ r2 (by omega)
 rw [show (A ++ bt (l.take r).reverse).length = A.length + r by rw [List.length_append, bt_len, List.length_reverse, hl1], hl2] at k2
 refine k2.mono ?_
 rintro q h2 ⟨rfl, rfl⟩
 have r3 : ((h.set i (.row Tb (A ++ bt (l.take r).reverse ++ (bt (l.drop r) ++ B)))).set i (.row Tb ((A ++ bt (l.take r).reverse) ++ bt (l.drop r).reverse ++ B))) i = some (.row Tb (A ++ bt ((l.take r).reverse ++ (l.drop r).reverse) ++ B)) := by
  rw [Hp.set_same, bt_app]; simp only [List.append_assoc]
 have k3 := Reverse_L A B ((l.take r).reverse ++ (l.drop r).reverse) i (some c) _ r3 (by simp; omega)
 rw [show ((l.take r).reverse ++ (l.drop r).reverse).length = l.length by simp; omega] at k3
 refine k3.mono ?_
 rintro q h3 ⟨rfl, rfl⟩
 refine ⟨rfl, rfl, ?_⟩
 rw [Hp.set_set, Hp.set_set, List.reverse_append, List.reverse_reverse, List.reverse_reverse]
theorem rotRight_L (A B : List (List AV)) (l v : List UInt8) (i : Nat) (c n : Nat) (h : Hp) (hi : h i = some (.row Tb (A ++ bt (l ++ v) ++ B))) (hn : n = l.length + v.length) (hc : n ≤ c) (hl : n ≤ 1000000000000) :
  CallL Tryz.prog F_slices_rotateRight [.slc i A.length n (some c), .int .i64 v.length] h fun q h' => q = .ret (.tup []) ∧ h' = h.set i (.row Tb (A ++ bt (v ++ l) ++ B)) := by
 have hlen : (l ++ v).length = n := by rw [List.length_append, hn]
 refine K_slices_rotateRight (md := false) ?_
 refine s_nat l.length (by omega) (by omega) ?_
 have k := rotLeft_L A B (l ++ v) l.length i c h hi (by omega) (by omega) (by omega)
 rw [hlen] at k
 refine k.mono ?_
 rintro q h' ⟨rfl, rfl⟩
 refine ⟨rfl, rfl, ?_⟩
 rw [List.drop_left, List.take_left]
end Go.Proofs.YtghlipffncbagaaGreatDoor

namespace Go.Proofs.YtghlipffncbagaaGreatDoor
open Go.L
def insL (bs vs : List UInt8) (p : Nat) : List UInt8 := bs.take p ++ vs ++ bs.drop p
theorem insL_len (bs vs : List UInt8) (p : Nat) : (insL bs vs p).length = bs.length + vs.length := by
 simp only [insL, List.length_append, List.length_take, List.length_drop]; omega
theorem dropA {α : Type} (l m : List α) (k : Nat) : (l ++ m).drop (l.length + k) = m.drop k := by
 rw [List.drop_append, List.drop_of_length_le (by omega), List.nil_append, Nat.add_sub_cancel_left]
theorem slcEq {i a b : Nat} {c : Option Nat} (h : a = b) : Res.ret (.slc i 0 a c) = Res.ret (.slc i 0 b c) := by rw [h]
theorem appGrow {h : Hp} {next : AV → Hp → Prop} {i k n c N : Nat} {es xs R : List (List AV)} (hi : h i = some (.row Tb es)) (hk : k + n ≤ es.length) (hx1 : ∀ cs ∈ xs, cs.length = 1) (hxf : ∀ cs ∈ xs, flat cs = true) (hc : c < n + xs.length) (hb : n + xs.length ≤ capMax)
  (hN : n + xs.length = N) (hR : (es.drop k).take n ++ xs = R) (g : ∀ j, Fresh h j → next (.slc j 0 N none) (h.set j (.row Tb R))) : LAppE false Tb 1 1 (.slc i k n (some c)) xs h next := by
 subst hN; subst hR
 exact ⟨hx1, es, hi, hk, hxf, .inr ⟨hc, by omega, hb, g⟩⟩
def InsE (i c : Nat) (h : Hp) (es' : List (List AV)) (r : Res) (h' : Hp) : Prop :=
 (∃ sp, r = .ret (.slc i 0 es'.length (some c)) ∧ es'.length ≤ c ∧ h' i = some (.row Tb (es' ++ sp)) ∧ GrX i h h') ∨
 (∃ j, r = .ret (.slc j 0 es'.length none) ∧ h.u j = false ∧ h' j = some (.row Tb es') ∧ GrX i h h')
theorem row_pre {bs : List UInt8} {X : List (List AV)} {p n : Nat} (hp : p ≤ n) (hn : n = bs.length) (m : Nat) (hm : n - p ≤ m) : ((bt bs ++ X).drop p).take (n - p) = bt (bs.drop p) := by
 subst hn
 have h1 := bt_len bs
 rw [List.drop_append_of_le_length (by omega), List.take_append_of_le_length (by rw [List.length_drop]; omega), bt_drop, List.take_of_length_le (by rw [List.length_drop]; omega)]
theorem ins_row {bs vs : List UInt8} {X : List (List AV)} {p n m : Nat} (hp : p ≤ n) (hn : n = bs.length) (hm : m = vs.length) (hX : m ≤ X.length) :
  let r1 := (bt bs ++ X).take (p + m) ++ bt (bs.drop p) ++ (bt bs ++ X).drop (p + m + (n - p))
  r1.take p ++ bt vs ++ r1.drop (p + m) = bt (insL bs vs p) ++ X.drop m := by
 intro r1
 subst hn; subst hm
 have h1 := bt_len bs
 have hl1 : ((bt bs ++ X).take (p + vs.length)).length = p + vs.length := by rw [List.length_take, List.length_append, h1]; omega
 have e1 : r1.take p = bt (bs.take p) := by
  show List.take p (_ ++ _ ++ _) = _
  rw [List.append_assoc, List.take_append_of_le_length (by omega), List.take_take, Nat.min_eq_left (by omega), List.take_append_of_le_length (by omega), bt_take]
 have e2 : r1.drop (p + vs.length) = bt (bs.drop p) ++ X.drop vs.length := by
  show List.drop (p + vs.length) (_ ++ _ ++ _) = _
  rw [List.append_assoc, List.drop_left' hl1]
  congr 1
  rw [show p + vs.length + (bs.length - p) = (bt bs).length + vs.length by rw [h1]; omega, dropA]
 rw [e1, e2, insL, bt_app, bt_app]; simp only [List.append_assoc]
set_option maxHeartbeats 4000000 in
theorem Insert_c (bs vs : List UInt8) (p i j c : Nat) (cv : Option Nat) (X rv : List (List AV)) (h : Hp) (hi : h i = some (.row Tb (bt bs ++ X))) (hX : X.length = c - bs.length) (hX1 : ∀ cs ∈ X, cs.length = 1) (hc : bs.length ≤ c) (hj : h j = some (.row Tb (bt vs ++ rv))) (hij : i ≠ j)
  (hp : p ≤ bs.length) (hl : bs.length + vs.length ≤ 1000000000000) :
  CallL Tryz.prog F_slices_Insert [.slc i 0 bs.length (some c), .int .i64 p, .slc j 0 vs.length cv] h (InsE i c h (bt (insL bs vs p))) := by
 have lb := bt_len bs
 have lv := bt_len vs
 have li := insL_len bs vs p
 have lbi : (bt (insL bs vs p)).length = bs.length + vs.length := by rw [bt_len, li]
 have srcV : ∀ (H : Hp), H j = some (.row Tb (bt vs ++ rv)) → srcEls H (.slc j 0 vs.length cv) (bt vs) := fun H hH => by
  refine ⟨Tb, bt vs ++ rv, hH, by rw [List.length_append]; omega, ?_⟩
  rw [List.drop_zero, ← lv, List.take_left]
 refine K_slices_Insert (md := false) ?_
 refine ⟨⟨_, hi⟩, p, rfl, hp, hc, ?_⟩
 refine s_eq (fun h1 => ?_) (fun h1 => ?_)
 ·obtain rfl : vs = [] := List.eq_nil_of_length_eq_zero (by omega)
  have e : insL bs [] p = bs := by simp [insL]
  rw [e]
  exact ⟨rfl, .inl ⟨X, slcEq lb.symm, by rw [lb]; exact hc, hi, GrX.refl i h⟩⟩
 have hm0 : 0 < vs.length := by omega
 refine s_eq (fun h2 => ?_) (fun h2 => ?_)
 ·have hpn : p = bs.length := by omega
  have e : insL bs vs p = bs ++ vs := by rw [insL, hpn, List.take_length, List.drop_length, List.append_nil]
  rw [e] at lbi ⊢
  refine ⟨bt vs, srcV h hj, bt_one vs, ?_⟩
  refine ⟨_, hi, by rw [List.length_append]; omega, bt_flat vs, ?_⟩
  by_cases hroom : bs.length + vs.length ≤ c
  ·refine .inl ⟨by omega, by rw [List.length_append]; omega, ?_⟩
   refine ⟨rfl, .inl ⟨X.drop vs.length, slcEq (by rw [lbi, lv]), by omega, ?_, (GrX.refl i h).set _⟩⟩
   rw [Hp.set_same, bt_app, lv, Nat.zero_add, ← lb, List.take_left, dropA]
  ·refine .inr ⟨by omega, by unfold capMax; omega, by unfold capMax; omega, fun j2 hj2 => ?_⟩
   refine ⟨rfl, .inr ⟨j2, slcEq (by rw [lbi, lv]), hj2.1, ?_, (GrX.refl i h).new hj2.1 _⟩⟩
   rw [Hp.set_same, List.drop_zero, ← lb, List.take_left, bt_app]
 have hpn : p < bs.length := by omega
 refine s_nat (bs.length + vs.length) (by omega) (by omega) ?_
 refine s_lt (fun h3 => ?_) (fun h3 => ?_)
 ·refine ⟨⟨_, hi⟩, p, rfl, Nat.zero_le _, (by show p ≤ c; omega), ?_⟩
  refine s_nat (bs.length + vs.length) (by omega) (by omega) ?_
  refine s_nat (bs.length + vs.length - p) (by omega) (by omega) ?_
  have lt : (bt (bs.take p)).length = p := by rw [bt_len, List.length_take]; omega
  have row0 : ((bt bs ++ X).drop (0 + 0)).take (p - 0) = bt (bs.take p) := by rw [Nat.add_zero, List.drop_zero, Nat.sub_zero, List.take_append_of_le_length (by omega), bt_take]
  obtain ⟨Z, hZ⟩ : ∃ Z, List.replicate (bs.length + vs.length - p) [AV.int .u8 0] = Z := ⟨_, rfl⟩
  have lz : Z.length = bs.length + vs.length - p := by rw [← hZ]; exact List.length_replicate
  have hz1 : ∀ cs ∈ Z, cs.length = 1 ∧ flat cs = true := fun cs hcs => by rw [← hZ] at hcs; rw [List.eq_of_mem_replicate hcs]; exact ⟨rfl, rfl⟩
  obtain ⟨R0, hR1⟩ : ∃ R0, R0 = bt (bs.take p) ++ Z := ⟨_, rfl⟩
  have lR : R0.length = bs.length + vs.length := by rw [hR1, List.length_append, lt, lz]; omega
  refine ⟨bs.length + vs.length - p, rfl, by unfold capMax; omega, by unfold capMax; omega, ?_⟩
  refine (show LAppE false Tb 1 1 (.slc i (0 + 0) (p - 0) (some (c - 0))) (List.replicate (bs.length + vs.length - p) [AV.int .u8 0]) h _ from
   appGrow (N := bs.length + vs.length) (R := R0) hi (by rw [List.length_append]; omega) (by rw [hZ]; exact fun cs h => (hz1 cs h).1) (by rw [hZ]; exact fun cs h => (hz1 cs h).2) (by rw [hZ, lz]; omega) (by rw [hZ, lz]; unfold capMax; omega) (by rw [hZ, lz]; omega) (by rw [hZ, row0, hR1]) fun j2 hj2 => ?_)
  have hj2i : i ≠ j2 := ne_of_u (Hp.used hi) hj2.1
  have hj2j : j ≠ j2 := ne_of_u (Hp.used hj) hj2.1
  refine ⟨⟨_, Hp.set_same _ _ _⟩, p, rfl, (by show p ≤ bs.length + vs.length; omega), Nat.le_refl _, ?_⟩
  refine ⟨_, bt vs, Hp.set_same _ _ _, .all (srcV _ ((Hp.set_ne hj2j).trans hj)) (by show _ ≤ bs.length + vs.length - p; omega), (by show _ ≤ bs.length + vs.length - p; omega), bt_one vs, bt_flat vs, (by show 0 + p ≤ _; omega), .inr rfl, ?_⟩
  refine s_nat (p + vs.length) (by omega) (by omega) ?_
  refine ⟨⟨_, Hp.set_same _ _ _⟩, p + vs.length, rfl, (by show p + vs.length ≤ bs.length + vs.length; omega), Nat.le_refl _, ?_⟩
  have hi3 : ((h.set j2 (.row Tb R0)).set j2 (.row Tb (R0.take (0 + p) ++ bt vs ++ R0.drop (0 + p + (bt vs).length)))) i = some (.row Tb (bt bs ++ X)) := (Hp.set_ne hj2i).trans ((Hp.set_ne hj2i).trans hi)
  refine ⟨⟨_, hi3⟩, p, rfl, hp, hc, ?_⟩
  have srcS : srcPre ((h.set j2 (.row Tb R0)).set j2 (.row Tb (R0.take (0 + p) ++ bt vs ++ R0.drop (0 + p + (bt vs).length)))) (.slc i (0 + p) (bs.length - p) ((some c).map (· - p))) (bs.length + vs.length - (p + vs.length)) (bt (bs.drop p)) := by
   have e : bs.length + vs.length - (p + vs.length) = bs.length - p := by omega
   rw [e]
   refine .all ⟨Tb, _, hi3, by rw [List.length_append]; omega, ?_⟩ (by rw [bt_len, List.length_drop]; omega)
   rw [Nat.zero_add, row_pre hp rfl (bs.length - p) (Nat.le_refl _)]
  have ld : (bt (bs.drop p)).length = bs.length - p := by rw [bt_len, List.length_drop]
  have a1 : R0.take (0 + p) = bt (bs.take p) := by rw [hR1, Nat.zero_add]; exact List.take_left' lt
  have a2 : R0.drop (0 + p + (bt vs).length) = Z.drop vs.length := by
   rw [hR1, show 0 + p + (bt vs).length = (bt (bs.take p)).length + vs.length by rw [lt, lv]; omega, dropA]
  have lh : (bt (bs.take p) ++ bt vs).length = 0 + (p + vs.length) := by rw [List.length_append, lt, lv]; omega
  have lZ : (Z.drop vs.length).length = bs.length - p := by rw [List.length_drop, lz]; omega
  have rowN : (R0.take (0 + p) ++ bt vs ++ R0.drop (0 + p + (bt vs).length)).take (0 + (p + vs.length)) ++ bt (bs.drop p) ++ (R0.take (0 + p) ++ bt vs ++ R0.drop (0 + p + (bt vs).length)).drop (0 + (p + vs.length) + (bt (bs.drop p)).length) = bt (insL bs vs p) := by
   rw [a1, a2, List.take_left' lh, show 0 + (p + vs.length) + (bt (bs.drop p)).length = (bt (bs.take p) ++ bt vs).length + (bs.length - p) by rw [lh, ld], dropA, show (Z.drop vs.length).drop (bs.length - p) = [] from List.drop_of_length_le (by omega), List.append_nil, insL, bt_app, bt_app]
  have lN : (R0.take (0 + p) ++ bt vs ++ R0.drop (0 + p + (bt vs).length)).length = bs.length + vs.length := by
   rw [a1, a2, List.length_append, lh, lZ]; omega
  refine ⟨_, bt (bs.drop p), Hp.set_same _ _ _, srcS, (by show _ ≤ bs.length + vs.length - (p + vs.length); omega), bt_one _, bt_flat _, (by show 0 + (p + vs.length) ≤ List.length _; rw [lN]; omega), .inr rfl, ?_⟩
  refine ⟨rfl, .inr ⟨j2, slcEq lbi.symm, hj2.1, ?_, ?_⟩⟩
  ·rw [Hp.set_same, rowN]
  ·exact (((GrX.refl i h).new hj2.1 _).old hj2.1 _).old hj2.1 _
 ·refine s_nat (bs.length + vs.length) (by omega) (by omega) ?_
  refine ⟨⟨_, hi⟩, bs.length + vs.length, rfl, Nat.zero_le _, (by show bs.length + vs.length ≤ c; omega), ?_⟩
  refine s_nat (p + vs.length) (by omega) (by omega) ?_
  refine ⟨⟨_, hi⟩, p + vs.length, rfl, (by show p + vs.length ≤ bs.length + vs.length; omega), (by show bs.length + vs.length ≤ c; omega), ?_⟩
  have rowL : (bt bs ++ X).length = c := by rw [List.length_append]; omega
  obtain ⟨v0, hv0⟩ := get_lt (l := vs) (k := 0) hm0
  have hvs0 : (bt vs ++ rv)[0]? = some [.int .u8 (v0.toNat : Int)] := by rw [List.getElem?_append_left (by omega)]; exact bt_get hv0
  obtain ⟨x0, hx0⟩ := get_lt (l := bt bs ++ X) (k := p + vs.length) (by omega)
  have hx1 : x0.length ≠ 0 := by
   rcases List.mem_append.1 (List.mem_of_getElem? hx0) with hh | hh
   ·rw [bt_one bs _ hh]; decide
   ·rw [hX1 _ hh]; decide
  have hji : Nat.beq j i = false := by
   cases hb : Nat.beq j i with
   | false => rfl
   | true => exact absurd (Nat.eq_of_beq_eq_true hb).symm hij
  have zK : 0 + 0 + (p + vs.length) = p + vs.length := by omega
  have zP : 0 + 0 + p = p := by omega
  have zN : 0 + 0 + bs.length = bs.length := by omega
  refine ⟨hji, hm0, (by show 0 < bs.length + vs.length - 0 - (p + vs.length); omega), ⟨_, _, _, hj, by rw [List.length_append]; omega, hvs0, Nat.one_ne_zero⟩,
   ⟨_, _, _, hi, (by show 0 + 0 + (p + vs.length) + (bs.length + vs.length - 0 - (p + vs.length)) ≤ (bt bs ++ X).length; omega), (by show (bt bs ++ X)[0 + 0 + (p + vs.length)]? = some x0; rw [zK]; exact hx0), hx1⟩, fun b => ?_⟩
  have hjH : ∀ b, (h.set i b) j = some (.row Tb (bt vs ++ rv)) := fun b => (Hp.set_ne hij.symm).trans hj
  cases b with
  | false =>
   refine s_nat (p + vs.length) (by omega) (by omega) ?_
   refine ⟨⟨_, hi⟩, p + vs.length, rfl, (by show p + vs.length ≤ bs.length + vs.length - 0; omega), (by show bs.length + vs.length - 0 ≤ c - 0; omega), ?_⟩
   refine ⟨⟨_, hi⟩, p, rfl, (by show p ≤ bs.length + vs.length - 0; omega), (by show bs.length + vs.length - 0 ≤ c - 0; omega), ?_⟩
   have src1 : srcPre h (.slc i (0 + 0 + p) (bs.length + vs.length - 0 - p) (some (c - 0 - p))) (bs.length + vs.length - 0 - (p + vs.length)) (bt (bs.drop p)) := by
    refine ⟨_, ⟨Tb, _, hi, by omega, rfl⟩, ?_, .inr fun s hs => by cases hs⟩
    rw [List.take_take, show min (bs.length + vs.length - 0 - (p + vs.length)) (bs.length + vs.length - 0 - p) = bs.length - p by omega, zP, row_pre hp rfl (bs.length - p) (Nat.le_refl _)]
   have ld : (bt (bs.drop p)).length = bs.length - p := by rw [bt_len, List.length_drop]
   have lr1 : ((bt bs ++ X).take (0 + 0 + (p + vs.length)) ++ bt (bs.drop p) ++ (bt bs ++ X).drop (0 + 0 + (p + vs.length) + (bt (bs.drop p)).length)).length = c := by
    simp only [List.length_append, List.length_take, List.length_drop, ld] at rowL ⊢; omega
   have rowI : ((bt bs ++ X).take (0 + 0 + (p + vs.length)) ++ bt (bs.drop p) ++ (bt bs ++ X).drop (0 + 0 + (p + vs.length) + (bt (bs.drop p)).length)).take (0 + 0 + p) ++ bt vs ++ ((bt bs ++ X).take (0 + 0 + (p + vs.length)) ++ bt (bs.drop p) ++ (bt bs ++ X).drop (0 + 0 + (p + vs.length) + (bt (bs.drop p)).length)).drop (0 + 0 + p + (bt vs).length) = bt (insL bs vs p) ++ X.drop vs.length := by
    have := ins_row (X := X) hp rfl rfl (show vs.length ≤ X.length by omega)
    simp only at this
    rw [zK, zP, ld, lv]; exact this
   refine ⟨_, bt (bs.drop p), hi, src1, (by show _ ≤ bs.length + vs.length - 0 - (p + vs.length); omega), bt_one _, bt_flat _, (by show 0 + 0 + (p + vs.length) ≤ _; omega), .inl (by show 0 + 0 + (p + vs.length) + (bt (bs.drop p)).length ≤ _; omega), ?_⟩
   refine ⟨⟨_, Hp.set_same _ _ _⟩, p, rfl, (by show p ≤ bs.length + vs.length - 0; omega), (by show bs.length + vs.length - 0 ≤ c - 0; omega), ?_⟩
   refine ⟨_, bt vs, Hp.set_same _ _ _, .all (srcV _ (hjH _)) (by show _ ≤ bs.length + vs.length - 0 - p; omega), (by show _ ≤ bs.length + vs.length - 0 - p; omega), bt_one vs, bt_flat vs, (by show 0 + 0 + p ≤ List.length _; rw [lr1]; omega), .inl (by show 0 + 0 + p + (bt vs).length ≤ List.length _; rw [lr1, lv]; omega), ?_⟩
   refine ⟨rfl, .inl ⟨X.drop vs.length, slcEq lbi.symm, by omega, ?_, ((GrX.refl i h).set _).set _⟩⟩
   rw [Hp.set_same, rowI]
  | true =>
   refine ⟨⟨_, hi⟩, bs.length, rfl, (by show bs.length ≤ bs.length + vs.length - 0; omega), (by show bs.length + vs.length - 0 ≤ c - 0; omega), ?_⟩
   refine ⟨_, bt vs, hi, .all (srcV h hj) (by show _ ≤ bs.length + vs.length - 0 - bs.length; omega), (by show _ ≤ bs.length + vs.length - 0 - bs.length; omega), bt_one vs, bt_flat vs, (by show 0 + 0 + bs.length ≤ _; omega), .inl (by show 0 + 0 + bs.length + (bt vs).length ≤ _; omega), ?_⟩
   refine ⟨⟨_, Hp.set_same _ _ _⟩, p, rfl, (by show p ≤ bs.length + vs.length - 0; omega), (by show bs.length + vs.length - 0 ≤ c - 0; omega), ?_⟩
   have lt : (bt (bs.take p)).length = p := by rw [bt_len, List.length_take]; omega
   have hrow : (h.set i (.row Tb ((bt bs ++ X).take (0 + 0 + bs.length) ++ bt vs ++ (bt bs ++ X).drop (0 + 0 + bs.length + (bt vs).length)))) i = some (.row Tb (bt (bs.take p) ++ bt (bs.drop p ++ vs) ++ X.drop vs.length)) := by
    rw [Hp.set_same]
    congr 2
    have e1 : (bt bs ++ X).take (0 + 0 + bs.length) = bt bs := by rw [zN]; exact List.take_left' lb
    have e2 : (bt bs ++ X).drop (0 + 0 + bs.length + (bt vs).length) = X.drop vs.length := by rw [zN, lv, ← lb, dropA]
    have e3 : bt bs = bt (bs.take p) ++ bt (bs.drop p) := by rw [← bt_app, List.take_append_drop]
    rw [e1, e2, bt_app]
    conv => lhs; rw [e3]
    simp only [List.append_assoc]
   have k := rotRight_L (bt (bs.take p)) (X.drop vs.length) (bs.drop p) vs i (c - p) (bs.length + vs.length - p) _ hrow (by rw [List.length_drop]; omega) (by omega) (by omega)
   rw [lt] at k
   refine (show CallL Tryz.prog F_slices_rotateRight [.slc i (0 + 0 + p) (bs.length + vs.length - 0 - p) (some (c - 0 - p)), .int .i64 vs.length] _ _ from by rw [zP]; exact k).mono ?_
   rintro q h' ⟨rfl, rfl⟩
   refine ⟨rfl, .inl ⟨X.drop vs.length, slcEq lbi.symm, by omega, ?_, ((GrX.refl i h).set _).set _⟩⟩
   rw [Hp.set_same, insL, bt_app, bt_app, bt_app]; simp only [List.append_assoc]
theorem Insert_L (bs vs : List UInt8) (p i j : Nat) (cv : Option Nat) (X rv : List (List AV)) (h : Hp) (hi : h i = some (.row Tb (bt bs ++ X))) (hj : h j = some (.row Tb (bt vs ++ rv))) (hij : i ≠ j) (hp : p ≤ bs.length) (hl : bs.length + vs.length ≤ 1000000000000) :
  CallL Tryz.prog F_slices_Insert [.slc i 0 bs.length none, .int .i64 p, .slc j 0 vs.length cv] h (InsQ Tb i h (bt (insL bs vs p))) := by
 have lb := bt_len bs
 refine CallL.openCap (by kernel_rfl) hi (by rw [List.length_append]; omega) fun c hc => ?_
 have e : (bt bs ++ X).take bs.length = bt bs := List.take_left' lb
 rw [e]
 have hi2 : (h.set i (.row Tb (bt bs ++ List.replicate (c - bs.length) [AV.any]))) i = some (.row Tb (bt bs ++ List.replicate (c - bs.length) [AV.any])) := Hp.set_same _ _ _
 have hj2 : (h.set i (.row Tb (bt bs ++ List.replicate (c - bs.length) [AV.any]))) j = some (.row Tb (bt vs ++ rv)) := (Hp.set_ne hij.symm).trans hj
 refine (Insert_c bs vs p i j c cv _ rv _ hi2 (by rw [List.length_replicate]) (fun cs hcs => by rw [List.eq_of_mem_replicate hcs]; rfl) hc hj2 hij hp hl).mono ?_
 have g0 : GrX i h (h.set i (.row Tb (bt bs ++ List.replicate (c - bs.length) [AV.any]))) := (GrX.refl i h).set _
 rintro r h' (⟨sp, e1, e2, e3, e4⟩ | ⟨j2, e1, e2, e3, e4⟩)
 ·exact .inl ⟨sp, e1, e2, e3, g0.trans e4⟩
 ·refine .inr ⟨j2, e1, ?_, e3, g0.trans e4⟩
  rw [Hp.set_u] at e2
  split at e2
  ·cases e2
  ·exact e2
end Go.Proofs.YtghlipffncbagaaGreatDoor

namespace Go.Proofs.YtghlipffncbagaaGreatDoor
open Go.L
abbrev Tint : TypeId := 3
section
variable {W lim : Nat} {u : AV} {l : Str} {h : Hp}
set_option maxHeartbeats 1000000 in
theorem Open_L (k : Wr W lim .nils u l h) (hl : l.length ≤ 16777216) : CallL Tryz.prog F_wire_Writer_Open [.ptr W 0 0] h fun r h' => r = .ret (.int .i64 l.length) ∧ ∃ jo, Wr W lim (.slc jo 0 1 none) u l h' ∧ h' jo = some (.row Tint [[.int .i64 l.length]]) ∧ Off W u h' jo ∧ Stp W u h u h' := by
 refine K_wire_Writer_Open (md := false) ?_
 have fin : ∀ (tb : Nat) (b : Blk) (jo : Nat) (H3 : Hp), Fresh h tb → Gr (h.set tb b) H3 → (h.set tb b).u jo = false → H3 jo = some (.row Tint [[.int .i64 l.length]]) →
   H3 W = some (.row TW [WrC u lim]) ∧ Wr W lim (.slc jo 0 1 none) u l (H3.set W (.row TW [WrC u lim (.slc jo 0 1 none)])) ∧ (H3.set W (.row TW [WrC u lim (.slc jo 0 1 none)])) jo = some (.row Tint [[.int .i64 l.length]]) ∧ Off W u (H3.set W (.row TW [WrC u lim (.slc jo 0 1 none)])) jo ∧ Stp W u h u (H3.set W (.row TW [WrC u lim (.slc jo 0 1 none)])) := by
  intro tb b jo H3 htb g3 njo rjo
  have g1 := (Gr.refl h).set htb.1 b
  have g := g1.trans g3
  have rW := g.blk k.row
  have hjW : jo ≠ W := (ne_of_u (g1.u _ (Hp.used k.row)) njo).symm
  have oj : Off W u H3 jo := (k.gr g1).offNew njo (Hp.used rjo)
  refine ⟨rW, ⟨Hp.set_same _ _ _, k.bl.imp (fun h => h) fun ⟨j, a, b, c⟩ => ⟨j, a, b, (Hp.set_ne b).trans (g.blk c)⟩⟩, (Hp.set_ne hjW).trans rjo, ⟨by rw [Hp.set_u, oj.1]; simp, oj.2⟩, fun x hx => ?_⟩
  exact ⟨(Hp.set_ne hx.2.1).trans (g.m x hx.1), by rw [Hp.set_u, g.u x hx.1]; simp, hx.2⟩
 rcases k.bl with ⟨rfl, rfl⟩ | ⟨j, rfl, hj, hr⟩
 ·refine ⟨_, _, _, _, k.row, rfl, rfl, ?_⟩
  refine s_ne (fun h1 => absurd rfl h1) (fun _ => ?_)
  refine ⟨_, _, _, _, k.row, rfl, rfl, ?_⟩
  refine ⟨_, _, _, _, k.row, rfl, rfl, ?_⟩
  refine ⟨_, rfl, fun tb htb => ?_⟩
  refine ⟨[[.int .i64 (([] : Str).length : Nat)]], ⟨_, _, Hp.set_same _ _ _, Nat.le_refl _, rfl⟩, ?_⟩
  refine AccE.app (AccE.nil Tint _) (fun cs h => by rw [List.mem_singleton.1 h]; rfl) (fun cs h => by rw [List.mem_singleton.1 h]; rfl) (by unfold capMax; simp) (by unfold capMax; simp) fun v' H3 ha _ _ _ => ?_
  obtain ⟨g3, ⟨_, e0⟩ | ⟨jo, rfl, njo, rjo⟩⟩ := ha
  ·cases e0
  obtain ⟨q1, q2, q3, q4, q5⟩ := fin tb _ jo H3 htb g3 njo rjo
  refine ⟨_, _, _, q1, rfl, rfl, rfl, rfl, by show 3 ≤ 4; decide, ?_⟩
  refine ⟨_, _, _, _, Hp.set_same _ _ _, rfl, rfl, ?_⟩
  exact ⟨rfl, rfl, jo, q2, q3, q4, q5⟩
 ·refine ⟨_, _, _, _, k.row, rfl, rfl, ?_⟩
  refine s_ne (fun h1 => absurd rfl h1) (fun _ => ?_)
  refine ⟨_, _, _, _, k.row, rfl, rfl, ?_⟩
  refine ⟨_, _, _, _, k.row, rfl, rfl, ?_⟩
  refine ⟨_, rfl, fun tb htb => ?_⟩
  refine ⟨[[.int .i64 (l.length : Nat)]], ⟨_, _, Hp.set_same _ _ _, Nat.le_refl _, rfl⟩, ?_⟩
  refine AccE.app (AccE.nil Tint _) (fun cs h => by rw [List.mem_singleton.1 h]; rfl) (fun cs h => by rw [List.mem_singleton.1 h]; rfl) (by unfold capMax; simp) (by unfold capMax; simp) fun v' H3 ha _ _ _ => ?_
  obtain ⟨g3, ⟨_, e0⟩ | ⟨jo, rfl, njo, rjo⟩⟩ := ha
  ·cases e0
  obtain ⟨q1, q2, q3, q4, q5⟩ := fin tb _ jo H3 htb g3 njo rjo
  refine ⟨_, _, _, q1, rfl, rfl, rfl, rfl, by show 3 ≤ 4; decide, ?_⟩
  refine ⟨_, _, _, _, Hp.set_same _ _ _, rfl, rfl, ?_⟩
  exact ⟨rfl, rfl, jo, q2, q3, q4, q5⟩
set_option maxHeartbeats 4000000 in
theorem Shut_L {jo j p : Nat} (k : Wr W lim (.slc jo 0 1 none) (.slc j 0 l.length none) l h) (hj : h j = some (.row Tb (bt l))) (rjo : h jo = some (.row Tint [[.int .i64 p]])) (oo : Off W (.slc j 0 l.length none) h jo) (hp : p ≤ l.length) (hn : l.length + 10 ≤ lim) (hl : lim ≤ 16777216) :
  CallL Tryz.prog F_wire_Writer_Shut [.ptr W 0 0, .int .i64 p] h fun r h' => r = .ret (.tup []) ∧ ∃ u' c, Wr W lim (.slc jo 0 0 c) u' (insL l (vari (l.length - p)) p) h' ∧ Stp W (.slc j 0 l.length none) h u' h' := by
 have hbl := bt_len l
 have hvl := vari_len (l.length - p)
 have hvp := vari_pos (l.length - p)
 have hjW : j ≠ W := fun e => k.ne (by rw [e]; rfl)
 have hjoj : jo ≠ j := fun e => oo.2.2 (by rw [e]; rfl)
 refine K_wire_Writer_Shut (md := false) ?_
 refine ⟨_, _, _, _, k.row, rfl, rfl, ?_⟩
 refine ⟨_, _, _, _, k.row, rfl, rfl, ?_⟩
 refine s_ne (fun h1 => absurd rfl h1) (fun _ => ?_)
 refine s_eq (fun (h1 : (1 : Int) = 0) => absurd h1 (by decide)) (fun _ => ?_)
 refine ⟨_, _, _, _, k.row, rfl, rfl, ?_⟩
 refine s_nat 0 rfl (by decide) ?_
 refine ⟨0, rfl, by decide, ⟨_, rjo⟩, ?_⟩
 refine ⟨_, _, _, _, rjo, rfl, rfl, ?_⟩
 refine s_ne (fun h1 => absurd rfl h1) (fun _ => ?_)
 refine ⟨_, _, _, _, k.row, rfl, rfl, ?_⟩
 refine s_nat (l.length - p) (by omega) (by omega) ?_
 refine s_ie (d := ((l.length - p : Nat) : Int)) (by rw [IntKind.wrap_u64]; omega) ?_
 refine (varint_L h h .nils [] (l.length - p) (by omega) (AccE.nil Tb h) (by simp)).mono ?_
 rintro r h2 ⟨u2, rfl, a2, _, _, _⟩
 rw [List.nil_append] at a2
 have hbv := bt_len (vari (l.length - p))
 obtain ⟨g2, ⟨_, e0⟩ | ⟨j2, rfl, nj2, rj2⟩⟩ := a2
 ·have := congrArg List.length e0; rw [hbv, List.length_nil] at this; omega
 have k2 := k.gr g2
 refine (room_L W _ _ (bt l) lim (bt (vari (l.length - p))).length _ h2 k2.row k2.acc (by rw [hbl, hbv]; omega) hl).mono ?_
 rintro r h3 ⟨rfl, rfl⟩
 refine ⟨_, _, _, _, k2.row, rfl, rfl, ?_⟩
 have hjj : j ≠ j2 := ne_of_u (Hp.used hj) nj2
 have hI := Insert_L l (vari (l.length - p)) p j j2 none [] [] h3 (by rw [List.append_nil]; exact g2.blk hj) (by rw [List.append_nil]; exact rj2) hjj hp (by omega)
 rw [← hbv] at hI
 refine hI.mono ?_
 rintro r h4 ⟨j3, rfl, nj3, rj3, gx⟩
 rw [bt_len]
 have keep : ∀ x, h3.u x = true → x ≠ j → h4 x = h3 x := fun x hx hne => gx.m x hx hne
 have rW4 := (keep W (Hp.used k2.row) hjW.symm).trans k2.row
 have rjo2 := g2.blk rjo
 have rjo4 := (keep jo (Hp.used rjo2) hjoj).trans rjo2
 refine ⟨_, _, _, rW4, rfl, rfl, rfl, rfl, by show 1 ≤ 4; decide, ?_⟩
 have hj3W : j3 ≠ W := (ne_of_u (Hp.used k2.row) nj3).symm
 have hjoW : jo ≠ W := oo.2.1
 refine ⟨_, _, _, _, Hp.set_same _ _ _, rfl, rfl, ?_⟩
 refine s_nat 0 rfl (by decide) ?_
 refine ⟨⟨_, (Hp.set_ne hjoW).trans rjo4⟩, 0, rfl, by decide, by decide, ?_⟩
 refine ⟨_, _, _, Hp.set_same _ _ _, rfl, rfl, rfl, rfl, by show 3 ≤ 4; decide, ?_⟩
 refine ⟨rfl, rfl, _, _, ⟨Hp.set_same _ _ _, .inr ⟨j3, rfl, hj3W, (Hp.set_ne hj3W).trans ((Hp.set_ne hj3W).trans rj3)⟩⟩, fun x hx => ?_⟩
 have hxj : x ≠ j := fun e => hx.2.2 (by rw [e]; rfl)
 have hx3 := g2.u x hx.1
 refine ⟨(Hp.set_ne hx.2.1).trans ((Hp.set_ne hx.2.1).trans ((keep x hx3 hxj).trans (g2.m x hx.1))), by rw [Hp.set_u, Hp.set_u, gx.u x hx3]; simp, hx.2.1, fun e => ?_⟩
 have : j3 = x := Option.some.inj e
 rw [this] at nj3; rw [nj3] at hx3; cases hx3
end
end Go.Proofs.YtghlipffncbagaaGreatDoor

namespace Go.Proofs.YtghlipffncbagaaGreatDoor
open Go.L
section
variable {W lim w K cK : Nat} {op u : AV} {l : Str} {h : Hp} {tv : AV} {esK : MapL}
structure Cl (W w lb b3 b4 b5 : Nat) (xs : List Nat) (p : Bool) (u : AV) (h : Hp) : Prop where
 r3 : h b3 = some (.row 74 [[.ptr w 0 0]])
 o3 : Off W u h b3
 r4 : h b4 = some (.row TRow [rowF p])
 o4 : Off W u h b4
 r5 : h b5 = some (.row TFV [fC (.slc lb 0 xs.length none)])
 o5 : Off W u h b5
 rl : h lb = some (.row TV (vsC xs))
 ol : Off W u h lb
theorem Cl.stp {lb b3 b4 b5 : Nat} {xs : List Nat} {p : Bool} {u' : AV} {h' : Hp} (k : Cl W w lb b3 b4 b5 xs p u h) (s : Stp W u h u' h') : Cl W w lb b3 b4 b5 xs p u' h' :=
 ⟨s.blk k.o3 k.r3, (s _ k.o3).2, s.blk k.o4 k.r4, (s _ k.o4).2, s.blk k.o5 k.r5, (s _ k.o5).2, s.blk k.ol k.rl, (s _ k.ol).2⟩
set_option maxHeartbeats 2000000 in
theorem field2_L {lb b3 b4 b5 : Nat} {xs : List Nat} {p : Bool} (k : Wr W lim op u l h) (ks : Ws W w K tv esK cK u h) (kk : KindsOK esK) (kc : Cl W w lb b3 b4 b5 xs p u h) (hop : notTup op = true) (hof : flat [op] = true) (hx : ∀ x ∈ xs, x < 18446744073709551616) (hm : xs.length ≤ 10000) (hn : l.length + 10 * xs.length ≤ lim) (hl : lim ≤ 16777216) :
  CallL Tryz.prog F_encode_writer_field_c2 [.ptr b5 0 0, .ptr b3 0 0, .ptr b4 0 0] h fun r h' => r = .ret (.tup []) ∧ ∃ u', Wr W lim op u' (l ++ encP xs) h' ∧ Stp W u h u' h' := by
 have hvl := vsC_len xs
 refine K_encode_writer_field_c2 (md := false) ?_
 refine ⟨_, _, _, _, kc.r5, rfl, rfl, ?_⟩
 refine s_blk (id := 0) (fun e' h' => e'.ds = [] ∧ ∃ u', Wr W lim op u' (l ++ encP xs) h' ∧ Stp W u h u' h') ?_ ?_
 ·refine s_loop xs.length (fun q (s : AV × Hp) => q ≤ xs.length ∧ Wr W lim op s.1 (l ++ encP (xs.take q)) s.2 ∧ Stp W u h s.1 s.2) (fun q _ => [(1, .ptr b3 0 0), (2, .ptr b4 0 0), (6, .slc lb 0 xs.length none), (7, .int .i64 (xs.length : Nat)), (8, .int .i64 (q : Nat))]) (fun _ s => s.2) (u, h)
   ⟨Nat.zero_le _, by show Wr _ _ _ _ (l ++ []) _; rw [List.append_nil]; exact k, Stp.refl _ _ _⟩ rfl rfl ⟨rfl, rfl, rfl, rfl, rfl, trivial⟩ (fun q s hI => hI.1) ?_
  rintro q ⟨u1, s⟩ n1 g1 hq ⟨_, kq, sq⟩
  simp only at kq sq
  refine s_lt (fun (h6 : ((q : Nat) : Int) < (xs.length : Nat)) => ?_) (fun (h6 : ((xs.length : Nat) : Int) ≤ (q : Nat)) => ?_)
  ·obtain ⟨x, hxq⟩ := get_lt (l := xs) (k := q) (by omega)
   have kcS := kc.stp sq
   have ksS := ks.stp sq
   have htl : (encP (xs.take q)).length ≤ 10 * q := by have := encP_len (xs.take q); rw [List.length_take] at this; omega
   have hvx := vari_len x
   refine ⟨q, rfl, by omega, ⟨_, kcS.rl⟩, ?_⟩
   refine ⟨_, _, _, kcS.rl, vsC_get hxq, by show 3 ≤ 3; decide, ?_⟩
   refine ⟨rfl, rfl, fun b9 h9 => ?_⟩
   refine ⟨_, _, _, Hp.set_same _ _ _, rfl, rfl, rfl, rfl, by show 3 ≤ 3; decide, ?_⟩
   have g9 := ((Gr.refl s).set h9.1 (.row TV [[.int .u64 0, .str [], .nils]])).set h9.1 (.row TV [vC x])
   refine ⟨_, _, _, _, g9.blk kcS.r3, rfl, rfl, ?_⟩
   refine ⟨_, _, _, _, g9.blk ksS.hw, rfl, rfl, ?_⟩
   refine ⟨_, _, _, _, g9.blk kcS.r4, rfl, rfl, ?_⟩
   refine ⟨_, _, g9.blk ksS.hK, rfl, kk.like, fun r hr => ?_⟩
   obtain rfl : r = some (.agg [.int .u8 0, kf F_encode_writer_varint]) := hr.trans kk.get
   refine ⟨_, rfl, ?_⟩
   refine ⟨_, _, _, _, g9.blk kcS.r3, rfl, rfl, ?_⟩
   refine ⟨_, _, _, _, g9.blk kcS.r4, rfl, rfl, ?_⟩
   refine ⟨_, _, _, Hp.set_same _ _ _, rfl, by show 3 ≤ 3; decide, ?_⟩
   refine ⟨Has_wvarint, (wvarint_L (kq.gr g9) (ksS.gr g9) hop hof (hx x (List.mem_of_getElem? hxq)) (by rw [List.length_append]; omega) hl).mono ?_⟩
   rintro r s2 ⟨rfl, u2, k2, s2'⟩
   refine s_nat (q + 1) (by omega) (by omega) ?_
   refine ⟨(u2, s2), by omega, ⟨by omega, ?_, sq.trans ((Stp.gr g9).trans s2')⟩, rfl, rfl, rfl, rfl, rfl, rfl, rfl, trivial⟩
   show Wr W lim op u2 (l ++ encP (xs.take (q + 1))) s2
   rw [encP_snoc hxq, ← List.append_assoc]; exact k2
  ·obtain rfl : q = xs.length := by omega
   rw [List.take_length] at kq
   exact ⟨rfl, u1, kq, sq⟩
 ·rintro e' h' ⟨hd, u', k', s'⟩
  exact ⟨hd, rfl, u', k', s'⟩
theorem Has_field2 : HasBody Tryz.prog F_encode_writer_field_c2 := ⟨_, Tryz.func70, by kernel_rfl, by kernel_rfl⟩
theorem insL_end (l e v : Str) : insL (l ++ e) v l.length = l ++ v ++ e := by rw [insL, List.take_left, List.drop_left]
set_option maxHeartbeats 2000000 in
theorem part_L {lb b3 b4 b5 : Nat} {xs : List Nat} {p : Bool} (k : Wr W lim .nils u l h) (ks : Ws W w K tv esK cK u h) (kk : KindsOK esK) (kc : Cl W w lb b3 b4 b5 xs p u h) (hl0 : l ≠ []) (hx : ∀ x ∈ xs, x < 18446744073709551616) (hm : xs.length ≤ 10000) (hn : l.length + 10 * xs.length + 20 ≤ lim) (hl : lim ≤ 16777216) :
  CallL Tryz.prog F_encode_writer_part [.ptr w 0 0, .func (.func F_encode_writer_field_c2) [] [.ptr b5 0 0, .ptr b3 0 0, .ptr b4 0 0]] h fun r h' => r = .ret (.tup []) ∧ ∃ u' jo c, Wr W lim (.slc jo 0 0 c) u' (l ++ vari (encP xs).length ++ encP xs) h' ∧ Stp W u h u' h' := by
 have hel := encP_len xs
 have hpos := List.length_pos_iff.2 hl0
 refine K_encode_writer_part (md := false) ?_
 refine ⟨_, _, _, _, ks.hw, rfl, rfl, ?_⟩
 refine (Open_L k (by omega)).mono ?_
 rintro r h1 ⟨rfl, jo, k1, rjo, oo, s1⟩
 refine ⟨Has_field2, (field2_L k1 (ks.stp s1) kk (kc.stp s1) rfl rfl hx hm (by omega) hl).mono ?_⟩
 rintro r h2 ⟨rfl, u2, k2, s2⟩
 have ks2 := (ks.stp s1).stp s2
 refine ⟨_, _, _, _, ks2.hw, rfl, rfl, ?_⟩
 have hll : (l ++ encP xs).length = l.length + (encP xs).length := List.length_append ..
 rcases k2.bl with ⟨_, e0⟩ | ⟨j, rfl, hjW, rj⟩
 ·have := congrArg List.length e0; rw [hll, List.length_nil] at this; omega
 refine (Shut_L k2 rj (s2.blk oo rjo) (s2 _ oo).2 (by omega) (by omega) hl).mono ?_
 rintro r h3 ⟨rfl, u3, c, k3, s3⟩
 rw [show (l ++ encP xs).length - l.length = (encP xs).length by omega, insL_end] at k3
 exact ⟨rfl, rfl, u3, jo, c, k3, s1.trans (s2.trans s3)⟩
set_option maxHeartbeats 2000000 in
theorem wfieldP_L (k : Wr W lim .nils u l h) (ks : Ws W w K tv esK cK u h) (kk : KindsOK esK) {lb : Nat} {xs : List Nat} (hlb : h lb = some (.row TV (vsC xs))) (olb : Off W u h lb) (hx : ∀ x ∈ xs, x < 18446744073709551616) (hm : xs.length ≤ 10000) (hn : l.length + 10 * xs.length + 22 ≤ lim) (hl : lim ≤ 16777216) :
  CallL Tryz.prog F_encode_writer_field [.ptr w 0 0, .agg (rowF true), .agg (fC (.slc lb 0 xs.length none))] h fun r h' => r = .ret (.tup []) ∧ ∃ u' jo c, Wr W lim (.slc jo 0 0 c) u' (l ++ vari 130 ++ vari (encP xs).length ++ encP xs) h' ∧ Stp W u h u' h' := by
 refine K_encode_writer_field (md := false) ?_
 refine ⟨rfl, rfl, fun b3 h3 => ?_⟩
 refine ⟨rfl, rfl, fun b4 h4 => ?_⟩
 refine ⟨rfl, rfl, fun b5 h5 => ?_⟩
 have g3 := (Gr.refl h).set h3.1 (.row 74 [[.ptr w 0 0]])
 have g4 := g3.set (g3.new h4.1) (.row TRow [rowF true])
 have g := g4.set (g4.new h5.1) (.row TFV [fC (.slc lb 0 xs.length none)])
 have h34 : b3 ≠ b4 := ne_of_u (by simp) h4.1
 have h35 : b3 ≠ b5 := ne_of_u (by simp) h5.1
 have h45 : b4 ≠ b5 := ne_of_u (by simp) h5.1
 generalize hH : ((h.set b3 (.row 74 [[.ptr w 0 0]])).set b4 (.row TRow [rowF true])).set b5 (.row TFV [fC (.slc lb 0 xs.length none)]) = H at g
 have r3 : H b3 = some (.row 74 [[.ptr w 0 0]]) := by rw [← hH]; exact (Hp.set_ne h35).trans ((Hp.set_ne h34).trans (Hp.set_same _ _ _))
 have r4 : H b4 = some (.row TRow [rowF true]) := by rw [← hH]; exact (Hp.set_ne h45).trans (Hp.set_same _ _ _)
 have r5 : H b5 = some (.row TFV [fC (.slc lb 0 xs.length none)]) := by rw [← hH]; exact Hp.set_same _ _ _
 have kc : Cl W w lb b3 b4 b5 xs true u H := ⟨r3, k.offNew h3.1 (Hp.used r3), r4, k.offNew (g3.new h4.1) (Hp.used r4), r5, k.offNew (g4.new h5.1) (Hp.used r5), g.blk hlb, olb.gr g⟩
 have k0 := k.gr g
 have ks0 := ks.gr g
 refine ⟨_, _, _, _, (congrArg (fun X : Hp => X.m b4) hH).trans r4, rfl, rfl, ?_⟩
 refine s_eq (fun (h6 : (3 : Int) = 4) => absurd h6 (by decide)) (fun _ => ?_)
 refine ⟨_, _, _, _, (congrArg (fun X : Hp => X.m b4) hH).trans r4, rfl, rfl, ?_⟩
 refine ⟨_, _, _, _, (congrArg (fun X : Hp => X.m b3) hH).trans r3, rfl, rfl, ?_⟩
 refine ⟨_, _, _, _, (congrArg (fun X : Hp => X.m w) hH).trans ks0.hw, rfl, rfl, ?_⟩
 refine ⟨_, _, _, _, (congrArg (fun X : Hp => X.m b4) hH).trans r4, rfl, rfl, ?_⟩
 have hT := Tag_L k0 rfl rfl (kk := 2) (.inr rfl) (by omega) hl
 refine CallL.mono (h := _) (by rw [← hH] at hT; exact hT) ?_
 rintro r h2 ⟨rfl, u2, k2, s2⟩
 have s2' : Stp W u H u2 h2 := by rw [← hH]; exact s2
 have kc2 := kc.stp s2'
 refine ⟨_, _, _, _, kc2.r3, rfl, rfl, ?_⟩
 have e130 : (vari (128 + 2)).length = 2 := rfl
 refine (part_L k2 (ks0.stp s2') kk kc2 (fun e => by have := congrArg List.length e; rw [List.length_append, e130, List.length_nil] at this; omega) hx hm (by rw [List.length_append, e130]; omega) hl).mono ?_
 rintro r h4 ⟨rfl, u4, jo, c, k4, s4⟩
 exact ⟨rfl, rfl, u4, jo, c, k4, (Stp.gr g).trans (s2'.trans s4)⟩
end
end Go.Proofs.YtghlipffncbagaaGreatDoor
