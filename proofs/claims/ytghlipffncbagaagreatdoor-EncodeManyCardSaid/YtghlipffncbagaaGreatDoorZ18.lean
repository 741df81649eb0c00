/- Contracts of functions of the given program, in the logic L: texts put together; no conditions. -/
import Derived.Test.YtghlipffncbagaaGreatDoorZ17
import Derived.Test.YtghlipffncbagaaGreatDoorZ2
import Derived.Test.YtghlipffncbagaaGreatDoorZ3
import Derived.Test.YtghlipffncbagaaGreatDoorProg
import Derived.KernelRfl
import Derived.Test.YtghlipffncbagaaGreatDoorZ4
namespace Go.Proofs.YtghlipffncbagaaGreatDoor
open Go.L
def encA (p : Bool) (xs : List Nat) : Str := if p then vari 130 ++ vari (encP xs).length ++ encP xs else encR xs
def opOK (op : AV) : Prop := op = .nils ∨ ∃ j c, op = .slc j 0 0 c
theorem encA_len (p : Bool) (xs : List Nat) : (encA p xs).length ≤ 12 * xs.length + 12 := by
 unfold encA
 have h1 := encR_len xs
 have h2 := encP_len xs
 have h3 := vari_len (encP xs).length
 have h4 : (vari 130).length = 2 := rfl
 split
 ·rw [List.length_append, List.length_append]; omega
 ·omega
section
variable {p : Bool} {s0 t0 rw0 nm0 : Nat} {os nv jv : AV} {X1 X2 : Hp} {W lim w K cK : Nat} {esK : MapL}
theorem wfield_L {u tv : AV} {h : Hp} (k : Wr W lim .nils u [] h) (ks : Ws W w K tv esK cK u h) (kk : KindsOK esK) {lb : Nat} {xs : List Nat} (hlb : h lb = some (.row TV (vsC xs))) (olb : Off W u h lb) (hx : ∀ x ∈ xs, x < 18446744073709551616) (hm : xs.length ≤ 10000) (hl : lim = 16777216) :
  CallL Tryz.prog F_encode_writer_field [.ptr w 0 0, .agg (rowF p), .agg (fC (.slc lb 0 xs.length none))] h fun r h' => r = .ret (.tup []) ∧ ∃ u' op, opOK op ∧ Wr W lim op u' (encA p xs) h' ∧ Stp W u h u' h' := by
 cases p with
 | false =>
  refine (wfieldN_L k ks kk hlb olb hx hm (by simp; omega) (by omega)).mono ?_
  rintro r h' ⟨rfl, u', k', s⟩
  exact ⟨rfl, u', .nils, .inl rfl, k', s⟩
 | true =>
  refine (wfieldP_L k ks kk hlb olb hx hm (by simp; omega) (by omega)).mono ?_
  rintro r h' ⟨rfl, u', jo, c, k', s⟩
  exact ⟨rfl, u', _, .inr ⟨jo, c, rfl⟩, k', s⟩
set_option maxHeartbeats 2000000 in
theorem wmessage_L (k : GrdE p s0 t0 rw0 nm0 os nv jv X1 X2) {ρ : Nat → Nat} {H : Hp} (hI : Img ρ X2 H) (kw : Wr W lim .nils .nils [] H) (ks : Ws W w K (tvC (ρ s0)) esK cK .nils H) (kk : KindsOK esK) (oW : Out ρ X2 H W) (ow : Out ρ X2 H w) (oK : Out ρ X2 H K)
  {fb lb : Nat} {xs : List Nat} (hf : H fb = some (.row TFV [fC (.slc lb 0 xs.length none)])) (of_ : Out ρ X2 H fb) (hl : H lb = some (.row TV (vsC xs))) (ol : Out ρ X2 H lb) (hx : ∀ x ∈ xs, x < 18446744073709551616) (hm : xs.length ≤ 10000) (hlim : lim = 16777216) :
  CallL Tryz.prog F_encode_writer_message [.ptr w 0 0, .agg [.str [78], .slc fb 0 1 none, .nils]] H fun r H' => r = .ret (.tup []) ∧ ∃ u' op, opOK op ∧ Wr W lim op u' (encA p xs) H' ∧ ∀ B b', Out ρ X2 H B → B ≠ W → H B = some b' → H' B = some b' := by
 refine K_encode_writer_message (md := false) ?_
 refine ⟨rfl, rfl, fun b3 h3 => ?_⟩
 have g1 := (Gr.refl H).set h3.1 (.row TMsg [[.str [78], .slc fb 0 1 none, .nils]])
 have r3 : (H.set b3 (.row TMsg [[.str [78], .slc fb 0 1 none, .nils]])) b3 = some (.row TMsg [[.str [78], .slc fb 0 1 none, .nils]]) := Hp.set_same _ _ _
 have o3 := Out.new (B := b3) hI h3.1 (Hp.used r3)
 refine ⟨_, _, _, _, g1.blk ks.hw, rfl, rfl, ?_⟩
 refine ⟨_, _, _, _, r3, rfl, rfl, ?_⟩
 refine (k.tab2 ρ _ (hI.gr g1)).mono ?_
 rintro r H2 hq
 obtain ⟨ρ2, rfl, m2⟩ := frQ_mv hq
 have m02 := (Mv.gr hI g1).trans m2 (fun _ h => h)
 refine ⟨_, rfl, _, rfl, ?_⟩
 have r3' := m2.blk o3 r3
 have rf := m02.blk of_ hf
 have rl := m02.blk ol hl
 have kw2 : Wr W lim .nils .nils [] H2 := ⟨m02.blk oW kw.row, .inl ⟨rfl, rfl⟩⟩
 have offS : ∀ {x : Nat} {b : Blk}, H2 x = some b → x ≠ W → Off W .nils H2 x := fun hb hn => ⟨Hp.used hb, hn, fun e => by cases e⟩
 have rw2 := m02.blk ow ks.hw
 have rK2 := m02.blk oK ks.hK
 have ks2 : Ws W w K (tvC (ρ s0)) esK cK .nils H2 := ⟨rw2, offS rw2 ks.ow.2.1, rK2, offS rK2 ks.oK.2.1⟩
 have off3 := offS r3' (ne_of_u (Hp.used kw.row) h3.1).symm
 have offl := offS rl (row_ne' rl kw2.row (by decide))
 have offf := offS rf (row_ne' rf kw2.row (by decide))
 refine ⟨_, _, _, _, r3', rfl, rfl, ?_⟩
 refine s_blk (id := 0) (fun e' h' => e'.ds = [] ∧ (∃ u' op, opOK op ∧ Wr W lim op u' (encA p xs) h' ∧ Stp W .nils H2 u' h') ∧ Has e' [(0, .ptr w 0 0), (3, .ptr b3 0 0)]) ?_ ?_
 ·refine s_loop 1 (fun k0 (s : AV × AV × Hp) => k0 ≤ 1 ∧ (k0 = 0 → s = (.nils, .nils, H2)) ∧ (k0 = 1 → opOK s.2.1 ∧ Wr W lim s.2.1 s.1 (encA p xs) s.2.2 ∧ Stp W .nils H2 s.1 s.2.2)) (fun k0 _ => [(0, .ptr w 0 0), (3, .ptr b3 0 0), (4, .ptr (ρ2 t0) 0 0), (21, .slc fb 0 1 none), (22, .int .i64 1), (23, .int .i64 (k0 : Nat))]) (fun _ s => s.2.2) (.nils, .nils, H2)
   ⟨by decide, fun _ => rfl, fun h => by cases h⟩ rfl rfl ⟨rfl, rfl, rfl, rfl, rfl, rfl, trivial⟩ (fun k s hI => hI.1) ?_
  rintro k0 s n1 g0 hk ⟨_, hz, hone⟩
  refine s_lt (fun (h5 : ((k0 : Nat) : Int) < 1) => ?_) (fun (h5 : (1 : Int) ≤ (k0 : Nat)) => ?_)
  ·obtain rfl : k0 = 0 := by omega
   obtain rfl := hz rfl
   refine ⟨0, rfl, by decide, ⟨_, rf⟩, ?_⟩
   refine ⟨_, _, _, rf, rfl, by show 3 ≤ 3; decide, ?_⟩
   refine ⟨rfl, rfl, fun b7 h7 => ?_⟩
   refine ⟨_, _, _, Hp.set_same _ _ _, rfl, rfl, rfl, rfl, by show 3 ≤ 3; decide, ?_⟩
   have g7 := ((Gr.refl H2).set h7.1 (.row TFV [[.int .i32 0, .nils, .nils]])).set h7.1 (.row TFV [fC (.slc lb 0 xs.length none)])
   have r7 : ((H2.set b7 (.row TFV [[.int .i32 0, .nils, .nils]])).set b7 (.row TFV [fC (.slc lb 0 xs.length none)])) b7 = some (.row TFV [fC (.slc lb 0 xs.length none)]) := Hp.set_same _ _ _
   refine ⟨_, _, _, _, r7, rfl, rfl, ?_⟩
   refine (k.find (m2.img.gr g7)).mono ?_
   rintro r H3 ⟨rfl, g3⟩
   refine ⟨_, rfl, _, rfl, ?_⟩
   refine ⟨rfl, rfl, fun b8 h8 => ?_⟩
   refine ⟨_, _, _, Hp.set_same _ _ _, rfl, rfl, rfl, rfl, by show 9 ≤ 9; decide, ?_⟩
   have g8 := ((Gr.refl H3).set h8.1 (.row TRow [row0])).set h8.1 (.row TRow [rowF p])
   have r8 : ((H3.set b8 (.row TRow [row0])).set b8 (.row TRow [rowF p])) b8 = some (.row TRow [rowF p]) := Hp.set_same _ _ _
   have g := g7.trans (g3.trans g8)
   refine ⟨_, _, _, r8, rfl, by show 9 ≤ 9; decide, ?_⟩
   refine ⟨_, _, _, g8.blk (g3.blk r7), rfl, by show 3 ≤ 3; decide, ?_⟩
   refine (wfield_L (p := p) (kw2.gr g) (ks2.gr g) kk (g.blk rl) (offl.gr g) hx hm hlim).mono ?_
   rintro r H4 ⟨rfl, u', op, hop, k', s'⟩
   refine s_nat 1 rfl (by decide) ?_
   exact ⟨(u', op, H4), by decide, ⟨by decide, fun h => (by cases h), fun _ => ⟨hop, k', (Stp.gr g).trans s'⟩⟩, rfl, rfl, rfl, rfl, rfl, rfl, rfl, rfl, trivial⟩
  ·obtain rfl : k0 = 1 := by omega
   obtain ⟨a, b, c⟩ := hone rfl
   exact ⟨rfl, ⟨_, _, a, b, c⟩, rfl, rfl, trivial⟩
 ·rintro e' h' ⟨hd, ⟨u', op, hop, k', s'⟩, hh⟩
  obtain ⟨n1, g0, rfl⟩ := hh.out hd
  have hlen := encA_len p xs
  refine ⟨_, _, _, _, s'.blk ks2.ow ks2.hw, rfl, rfl, ?_⟩
  refine ⟨_, _, _, _, s'.blk off3 r3', rfl, rfl, ?_⟩
  refine (Raw0_L k' (by omega) (by omega)).mono ?_
  rintro r h4 ⟨rfl, u4, k4, s4⟩
  refine ⟨rfl, rfl, u4, op, hop, k4, fun B b' oB hn hb => ?_⟩
  have hb2 := m02.blk oB hb
  have off := offS hb2 hn
  exact s4.blk ((s' _ off).2) (s'.blk off hb2)
end
end Go.Proofs.YtghlipffncbagaaGreatDoor

namespace Go.Proofs.YtghlipffncbagaaGreatDoor
open Go.L
structure GrdF (esK : MapL) (cK : Nat) : Prop where
 forms : ∀ H, CallL Tryz.prog F_encode_forms [] H fun r H' => ∃ K, r = .ret (.map K) ∧ H.u K = false ∧ H' K = some (.map esK cK) ∧ Gr H H'
 ok : KindsOK esK
theorem callL_at {f : FuncId} {a : List AV} {h h' : Hp} {Q : Res → Hp → Prop} (e : h = h') (k : CallL Tryz.prog f a h' Q) : CallL Tryz.prog f a h Q := e ▸ k
section
variable {p : Bool} {s0 t0 rw0 nm0 : Nat} {os nv jv : AV} {X1 X2 : Hp} {cK : Nat} {esK : MapL}
set_option maxHeartbeats 2000000 in
theorem Encode_L (k : GrdE p s0 t0 rw0 nm0 os nv jv X1 X2) (kf : GrdF esK cK) (hx12 : ∀ i, X1.u i = true → X2.u i = true) {ρ : Nat → Nat} {H : Hp} {fb lb : Nat} {q : Option Nat} {xs : List Nat} (hI : Img ρ X1 H)
  (hf : H fb = some (.row TFV [fC (.slc lb 0 xs.length none)])) (of_ : Out ρ X1 H fb) (hl : H lb = some (.row TV (vsC xs))) (ol : Out ρ X1 H lb) (h1 : 1 ≤ xs.length) (hm : xs.length ≤ 10000) (hx : ∀ x ∈ xs, x < 18446744073709551616) :
  CallL Tryz.prog F_encode_Encode [tvC (ρ s0), .agg [.str [78], .slc fb 0 1 q, .nils]] H fun r H' => ∃ b, r = .ret (.tup [b, .int .i64 0]) ∧ OwnX Tb H' b (bt (encA p xs)) ∧ ∀ B b', Out ρ X1 H B → H B = some b' → H' B = some b' := by
 have hlen := encA_len p xs
 refine K_encode_Encode (md := false) ?_
 refine ⟨rfl, rfl, fun b3 h3 => ?_⟩
 have g1 := (Gr.refl H).set h3.1 (.row TMsg [[.str [78], .slc fb 0 1 q, .nils]])
 have r3 : (H.set b3 (.row TMsg [[.str [78], .slc fb 0 1 q, .nils]])) b3 = some (.row TMsg [[.str [78], .slc fb 0 1 q, .nils]]) := Hp.set_same _ _ _
 refine ⟨_, _, _, r3, rfl, by show 3 ≤ 3; decide, ?_⟩
 refine (Normal_L k hx12 (hI.gr g1) (g1.blk hf) (of_.gr g1) (g1.blk hl) (ol.gr g1) h1 (by omega)).mono ?_
 rintro r H1 ⟨m, rfl, ρ1, fb1, lb1, rfl, qf, ql, m1, of1, ol1⟩
 have m01 := (Mv.gr hI g1).trans m1 (fun _ h => h)
 have hs : ρ1 s0 = ρ s0 := m1.same s0 k.u1
 refine ⟨_, rfl, _, rfl, ?_⟩
 refine ⟨rfl, rfl, fun b6 h6 => ?_⟩
 refine ⟨_, _, _, Hp.set_same _ _ _, rfl, rfl, rfl, rfl, by show 3 ≤ 3; decide, ?_⟩
 have g6 := ((Gr.refl H1).set h6.1 (.row TMsg [[.str [], .nils, .nils]])).set h6.1 (.row TMsg [[.str [78], .slc fb1 0 1 none, .nils]])
 have r6 : ((H1.set b6 (.row TMsg [[.str [], .nils, .nils]])).set b6 (.row TMsg [[.str [78], .slc fb1 0 1 none, .nils]])) b6 = some (.row TMsg [[.str [78], .slc fb1 0 1 none, .nils]]) := Hp.set_same _ _ _
 refine s_ne (fun h3 => absurd rfl h3) (fun _ => ?_)
 refine (NewWriter_L 16777216 (by decide) _).mono ?_
 rintro r H2 ⟨W, rfl, hW, rfl⟩
 refine ⟨_, rfl, _, rfl, ?_⟩
 have gW := g6.set (g6.new hW) (.row TW [WrC .nils 16777216])
 have rW : ((((H1.set b6 (.row TMsg [[.str [], .nils, .nils]])).set b6 (.row TMsg [[.str [78], .slc fb1 0 1 none, .nils]]))).set W (.row TW [WrC .nils 16777216])) W = some (.row TW [WrC .nils 16777216]) := Hp.set_same _ _ _
 have r6' : ((((H1.set b6 (.row TMsg [[.str [], .nils, .nils]])).set b6 (.row TMsg [[.str [78], .slc fb1 0 1 none, .nils]]))).set W (.row TW [WrC .nils 16777216])) b6 = some (.row TMsg [[.str [78], .slc fb1 0 1 none, .nils]]) := (Hp.set_ne (ne_of_u (Hp.used r6) hW)).trans r6
 have nW : H1.u W = false := g6.new hW
 generalize hH2 : (((H1.set b6 (.row TMsg [[.str [], .nils, .nils]])).set b6 (.row TMsg [[.str [78], .slc fb1 0 1 none, .nils]]))).set W (.row TW [WrC .nils 16777216]) = H2 at gW rW r6'
 have tail : ∀ (K : Nat) (H3 : Hp), Gr H2 H3 → H2.u K = false → H3 K = some (.map esK cK) → ∀ w, Fresh H3 w → CallL Tryz.prog F_encode_writer_message [.ptr w 0 0, .agg [.str [78], .slc fb1 0 1 none, .nils]] (H3.set w (.row TWr [[.ptr W 0 0, tvC (ρ s0), .map K]])) fun r H' => r = .ret (.tup []) ∧ ∃ u' op, opOK op ∧ Wr W 16777216 op u' (encA p xs) H' ∧ ∀ B b', Out ρ X1 H B → H B = some b' → H' B = some b' := by
  intro K H3 g3 nK rK w hw
  have gw := (Gr.refl H3).set hw.1 (.row TWr [[.ptr W 0 0, tvC (ρ s0), .map K]])
  have g := gW.trans (g3.trans gw)
  have gw2 := g3.trans gw
  have rW' := gw2.blk rW
  have I2 := m1.img.gr g
  have rw : (H3.set w (.row TWr [[.ptr W 0 0, tvC (ρ s0), .map K]])) w = some (.row TWr [[.ptr W 0 0, tvC (ρ s0), .map K]]) := Hp.set_same _ _ _
  have rK' := gw.blk rK
  have nw : H1.u w = false := (gW.trans g3).new hw.1
  have nK1 : H1.u K = false := gW.new nK
  have off : ∀ {x : Nat} {b : Blk}, (H3.set w (.row TWr [[.ptr W 0 0, tvC (ρ s0), .map K]])) x = some b → x ≠ W → Off W .nils (H3.set w (.row TWr [[.ptr W 0 0, tvC (ρ s0), .map K]])) x := fun hb hn => ⟨Hp.used hb, hn, fun e => by cases e⟩
  have hKW : K ≠ W := (ne_of_u (Hp.used rW) nK).symm
  have ks : Ws W w K (tvC (ρ1 s0)) esK cK .nils (H3.set w (.row TWr [[.ptr W 0 0, tvC (ρ s0), .map K]])) := ⟨by rw [hs]; exact rw, off rw (row_ne' rw rW' (by decide)), rK', off rK' hKW⟩
  refine (wmessage_L k I2 ⟨rW', .inl ⟨rfl, rfl⟩⟩ ks kf.ok (Out.new m1.img nW (Hp.used rW')) (Out.new m1.img nw (Hp.used rw)) (Out.new m1.img nK1 (Hp.used rK')) (g.blk qf) (of1.gr g) (g.blk ql) (ol1.gr g) hx hm rfl).mono ?_
  rintro r h' ⟨rfl, u', op, hop, k', hB⟩
  exact ⟨rfl, u', op, hop, k', fun B b' oB hb => hB B b' ((m01.out B oB).2.gr g) (ne_of_u (m01.out B oB).2.used nW) (g.blk (m01.blk oB hb))⟩
 refine .inr (.inr ⟨?_, ?_⟩)
 ·refine callL_at hH2 ((kf.forms H2).mono ?_)
  rintro r H3 ⟨K, rfl, nK, rK, gK⟩
  refine ⟨_, rfl, ?_⟩
  refine ⟨_, _, _, gK.blk r6', rfl, by show 3 ≤ 3; decide, ?_⟩
  refine ⟨rfl, rfl, fun w hw => ?_⟩
  refine (tail K H3 gK nK rK w hw).mono ?_
  rintro r H4 ⟨rfl, u', op, hop, k4, hB⟩
  refine (Done_L W u' op (encA p xs) 16777216 _ H4 k4.row k4.acc hop (by omega)).mono ?_
  rintro r H5 ⟨v, rfl, ho, hg, _⟩
  refine ⟨_, rfl, _, rfl, ?_⟩
  refine s_ne (fun h3 => absurd rfl h3) (fun _ => ?_)
  exact ⟨rfl, v, rfl, ho, fun B b' oB hb => hg.blk (hB B b' oB hb)⟩
 ·refine ⟨_, _, _, (congrArg (fun X : Hp => X.m b6) hH2).trans r6', rfl, by show 3 ≤ 3; decide, ?_⟩
  refine callL_at hH2 ((kf.forms H2).mono ?_)
  rintro r H3 ⟨K, rfl, nK, rK, gK⟩
  refine ⟨_, rfl, ?_⟩
  refine ⟨rfl, rfl, fun w hw => ?_⟩
  refine (tail K H3 gK nK rK w hw).mono ?_
  rintro r H4 ⟨rfl, u', op, hop, k4, hB⟩
  refine (Done_L W u' op (encA p xs) 16777216 _ H4 k4.row k4.acc hop (by omega)).mono ?_
  rintro r H5 ⟨v, rfl, ho, hg, _⟩
  refine ⟨_, rfl, _, rfl, ?_⟩
  refine s_ne (fun h3 => absurd rfl h3) (fun _ => ?_)
  exact ⟨rfl, v, rfl, ho, fun B b' oB hb => hg.blk (hB B b' oB hb)⟩
end
end Go.Proofs.YtghlipffncbagaaGreatDoor

namespace Go.Proofs.YtghlipffncbagaaGreatDoor
open Go.L
abbrev F_lexiconlaw11_EncodeMany : Nat := 3
def A_lexiconlaw11_EncodeMany_0 : LA := [o_ 18 (.call 4 []), mv 7 18]
def A_lexiconlaw11_EncodeMany_1 : LA := [o_ 19 (.build [.str [], .int .i32 (0), .int .u8 (0), .int .u8 (0), .str [], .int .u8 (0), .int .i64 (0), .int .u8 (0), .str []] [(0, 1, (.c (.str [102]))), (1, 1, (.c (.int .i32 16))), (2, 1, (.c (.int .u8 3))), (3, 1, (.c (.int .u8 4))), (7, 1, (.c (.int .u8 2)))]), o_ 8 (.box 28 9 (.c (.agg [.str [], .int .i32 (0), .int .u8 (0), .int .u8 (0), .str [], .int .u8 (0), .int .i64 (0), .int .u8 (0), .str []]))), Wt 9 8 19]
def A_lexiconlaw11_EncodeMany_2 : LA := [Wf 21 7 8, n_ (.st 1 (.t 21) (.c (.int .u8 1)))]
def A_lexiconlaw11_EncodeMany_3 : LA := [Wd 22 9 8, o_ 23 (.bslice 28 9 1 [.str [], .int .i32 (0), .int .u8 (0), .int .u8 (0), .str [], .int .u8 (0), .int .i64 (0), .int .u8 (0), .str []] [(0, 9, (.t 22))]), o_ 24 (.build [.str [], .nils, .nils, .nils, .nils, .nils, .nils] [(0, 1, (.c (.str [78]))), (1, 1, (.t 23))]), o_ 25 (.bslice 37 7 1 [.str [], .nils, .nils, .nils, .nils, .nils, .nils] [(0, 7, (.t 24))]), o_ 26 (.build [.str [], .str [], .nils, .nils, .nils] [(0, 1, (.c (.str [112]))), (3, 1, (.t 25))]), o_ 27 (.bslice 40 5 1 [.str [], .str [], .nils, .nils, .nils] [(0, 5, (.t 26))]), o_ 28 (.call 5 [(.t 27)]), mv 9 28]
def A_lexiconlaw11_EncodeMany_4 : LA := [mv 29 9, o_ 30 (.isnil .pt false (.t 29))]
def A_lexiconlaw11_EncodeMany_5 : LA := [mv 31 1, Wi 32 .rem 31 3000, mv 10 32]
def A_lexiconlaw11_EncodeMany_6 : LA := [mv 33 10, Wi 34 .lss 33 0]
def A_lexiconlaw11_EncodeMany_7 : LA := [mv 35 10, o_ 36 (.neg (.t 35)), mv 10 36]
def A_lexiconlaw11_EncodeMany_8 : LA := [mv 37 12, mv 38 10, Wb 39 .leq 37 38]
def A_lexiconlaw11_EncodeMany_9 : LA := [mv 42 11, mv 43 2, mv 44 12, Wi 45 .rem 44 64, o_ 46 (.conv .u64 (.t 45)), Wb 47 .shr 43 46, o_ 48 (.build [.int .u64 (0), .str [], .nils] [(0, 1, (.t 47))]), o_ 49 (.bslice 46 3 1 [.int .u64 (0), .str [], .nils] [(0, 3, (.t 48))]), o_ 50 (.app 46 3 48 (.t 42) (.t 49)), mv 11 50]
def A_lexiconlaw11_EncodeMany_10 : LA := [mv 40 12, Wi 41 .add 40 1, mv 12 41]
def A_lexiconlaw11_EncodeMany_11 : ACode := (.seq (.seq (.ops A_lexiconlaw11_EncodeMany_8) (.cond (.t 39) .skip (.exit 0))) (.seq (.block 1 (.ops A_lexiconlaw11_EncodeMany_9)) (.ops A_lexiconlaw11_EncodeMany_10)))
def A_lexiconlaw11_EncodeMany_12 : LA := [mv 52 9, o_ 53 (.mkifc 29 (.t 52)), mv 54 11, o_ 55 (.build [.int .i32 (0), .nils, .nils] [(0, 1, (.c (.int .i32 16))), (2, 1, (.t 54))]), o_ 56 (.bslice 52 3 1 [.int .i32 (0), .nils, .nils] [(0, 3, (.t 55))]), o_ 57 (.build [.str [], .nils, .nils] [(0, 1, (.c (.str [78]))), (1, 1, (.t 56))]), o_ 58 (.call 6 [(.t 53), (.t 57)]), mv 51 58, Wx 59 0 51, Wx 60 1 51, mv 13 59, mv 14 60]
def A_lexiconlaw11_EncodeMany_13 : LA := [mv 61 16, mv 62 10, Wb 63 .leq 61 62]
def A_lexiconlaw11_EncodeMany_14 : LA := [mv 66 15, mv 67 11, mv 68 16, Wa 69 46 3 67 68, Wf 70 0 69, Wl 71 70, o_ 72 (.call 7 [(.t 71)]), Wb 73 .add 66 72, mv 15 73]
def A_lexiconlaw11_EncodeMany_15 : LA := [mv 64 16, Wi 65 .add 64 1, mv 16 65]
def A_lexiconlaw11_EncodeMany_16 : ACode := (.seq (.seq (.ops A_lexiconlaw11_EncodeMany_13) (.cond (.t 63) .skip (.exit 2))) (.seq (.block 3 (.ops A_lexiconlaw11_EncodeMany_14)) (.ops A_lexiconlaw11_EncodeMany_15)))
def A_lexiconlaw11_EncodeMany_17 : LA := [mv 74 15, mv 75 10, Wi 76 .add 75 1, o_ 77 (.bini .mul (i_ 2) (.t 76)), Wb 78 .add 74 77, mv 17 78]
def A_lexiconlaw11_EncodeMany_18 : LA := [mv 80 15, Wi 81 .add 80 2, mv 82 15, o_ 83 (.conv .u64 (.t 82)), o_ 84 (.call 7 [(.t 83)]), Wb 85 .add 81 84, mv 17 85]
def A_lexiconlaw11_EncodeMany_19 : LA := [mv 86 7, mv 87 86, Wgm 88 14 87, g_ 89 (.bini .eql (.t 88) (i_ 0)) 87, Wp 90 87 89, mv 91 90, Wgm 92 13 91, g_ 93 (.lenl (.t 92)) 91, Wgm 94 17 91, g_ 95 (.bini .eql (.t 93) (.t 94)) 91, Wp 96 91 95, mv 6 96]
def A_lexiconlaw11_EncodeMany : ACode := (.seq (.ops [Wo 6 false]) (.seq (.ops A_lexiconlaw11_EncodeMany_0) (.seq (.ops A_lexiconlaw11_EncodeMany_1) (.seq (.seq (.ops [mv 20 0]) (.cond (.t 20) (.ops A_lexiconlaw11_EncodeMany_2) .skip)) (.seq (.ops A_lexiconlaw11_EncodeMany_3) (.seq (.seq (.ops A_lexiconlaw11_EncodeMany_4) (.cond (.t 30) (.seq (.ops [Wo 6 false]) .ret) .skip)) (.seq (.ops A_lexiconlaw11_EncodeMany_5) (.seq (.seq (.ops A_lexiconlaw11_EncodeMany_6) (.cond (.t 34) (.ops A_lexiconlaw11_EncodeMany_7) .skip)) (.seq (.ops [Wn 11]) (.seq (.seq (.ops [Wm 12 0]) (.block 0 (.loop A_lexiconlaw11_EncodeMany_11))) (.seq (.ops A_lexiconlaw11_EncodeMany_12) (.seq (.ops [Wm 15 0]) (.seq (.seq (.ops [Wm 16 0]) (.block 2 (.loop A_lexiconlaw11_EncodeMany_16))) (.seq (.ops A_lexiconlaw11_EncodeMany_17) (.seq (.seq (.ops [mv 79 0]) (.cond (.t 79) (.ops A_lexiconlaw11_EncodeMany_18) .skip)) (.seq (.ops A_lexiconlaw11_EncodeMany_19) .ret))))))))))))))))
def R_lexiconlaw11_EncodeMany : List ARes := [.tmp 6]
theorem C_lexiconlaw11_EncodeMany : compF Tryz.prog Tryz.f3 = some (A_lexiconlaw11_EncodeMany, R_lexiconlaw11_EncodeMany) := by kernel_rfl
theorem K_lexiconlaw11_EncodeMany {md : Bool} {args : List AV} {h : Hp} {Q : Res → Hp → Prop} (hl : LCode Tryz.prog md A_lexiconlaw11_EncodeMany (EndQ R_lexiconlaw11_EncodeMany Q) (env0 97 args) h) (hn : args.length ≤ 97 := by (simp; done)) : CallL Tryz.prog F_lexiconlaw11_EncodeMany args h Q :=
 CallL.of (md := md) Tryz.func3 C_lexiconlaw11_EncodeMany (by rw [Tryz.ntmps3]; exact hn) (by rw [Tryz.ntmps3]; exact hl)
abbrev F_works11 : Nat := 4
abbrev F_lexiconlaw11_types : Nat := 5
end Go.Proofs.YtghlipffncbagaaGreatDoor

namespace Go.Proofs.YtghlipffncbagaaGreatDoor
open Go.L
def sumV (xs : List Nat) : Nat := (xs.map fun x => (vari x).length).sum
theorem sumV_cons (x : Nat) (xs : List Nat) : sumV (x :: xs) = (vari x).length + sumV xs := by rw [sumV, List.map_cons, List.sum_cons]; rfl
theorem sumV_snoc {xs : List Nat} {k x : Nat} (h : xs[k]? = some x) : sumV (xs.take (k + 1)) = sumV (xs.take k) + (vari x).length := by
 rw [List.take_add_one, h, sumV, sumV, List.map_append, List.sum_append]; simp
theorem encP_sum (xs : List Nat) : (encP xs).length = sumV xs := by
 induction xs with
 | nil => rfl
 | cons x xs ih =>
  have e : encP (x :: xs) = vari x ++ encP xs := List.flatMap_cons ..
  rw [e, List.length_append, ih, sumV_cons]
theorem encR_sum (xs : List Nat) : (encR xs).length = sumV xs + 2 * xs.length := by
 induction xs with
 | nil => rfl
 | cons x xs ih =>
  have e : encR (x :: xs) = vari 128 ++ vari x ++ encR xs := List.flatMap_cons ..
  have h1 : (vari 128).length = 2 := rfl
  rw [e, List.length_append, List.length_append, ih, sumV_cons, List.length_cons]; omega
theorem encA_sum (p : Bool) (xs : List Nat) : (encA p xs).length = if p then sumV xs + 2 + (vari (sumV xs)).length else sumV xs + 2 * xs.length := by
 cases p with
 | false => exact encR_sum xs
 | true =>
  show (vari 130 ++ vari (encP xs).length ++ encP xs).length = sumV xs + 2 + (vari (sumV xs)).length
  have h1 : (vari 130).length = 2 := rfl
  rw [List.length_append, List.length_append, encP_sum]; omega
def numsV (v n : Nat) : List Nat := (List.range (n + 1)).map fun i => v / 2 ^ (i % 64)
theorem numsV_len (v n : Nat) : (numsV v n).length = n + 1 := by rw [numsV, List.length_map, List.length_range]
theorem numsV_get {v n i : Nat} (h : i < n + 1) : (numsV v n)[i]? = some (v / 2 ^ (i % 64)) := by rw [numsV, List.getElem?_map, List.getElem?_range h]; rfl
theorem numsV_lt {v n x : Nat} (hv : v < 18446744073709551616) (h : x ∈ numsV v n) : x < 18446744073709551616 := by
 obtain ⟨i, _, rfl⟩ := List.mem_map.1 h
 exact Nat.lt_of_le_of_lt (Nat.div_le_self _ _) hv
theorem sumV_len (xs : List Nat) : sumV xs ≤ 10 * xs.length := by rw [← encP_sum]; exact encP_len xs
section
variable {n v lb : Nat} {t7 t0 u13 u14 : AV} {H : Hp}
abbrev ES (t0 t7 u13 u14 : AV) (n lb z : Nat) : List (Nat × AV) := [(0, t0), (7, t7), (10, .int .i64 (n : Nat)), (11, .slc lb 0 (n + 1) none), (13, u13), (14, u14), (15, .int .i64 (z : Nat))]
theorem sizes_L (hv : v < 18446744073709551616) (hn : n ≤ 3000) (hl : H lb = some (.row TV (vsC (numsV v n)))) (e : Env) (hd : e.ds = []) (hh : Has e (ES t0 t7 u13 u14 n lb 0)) (Q : Xit → Env → Hp → Prop) :
  LCode Tryz.prog false (.seq (.ops [o_ 16 (.mov (i_ 0))]) (.block 2 (.loop A_lexiconlaw11_EncodeMany_16)))
   (toPost (fun e' h' => h' = H ∧ e'.ds = [] ∧ Has e' (ES t0 t7 u13 u14 n lb (sumV (numsV v n)))) Q) e H := by
 obtain ⟨n0, g0, rfl⟩ := hh.out hd
 have hnl := numsV_len v n
 refine s_blk (id := 2) (fun e' h' => h' = H ∧ e'.ds = [] ∧ Has e' (ES t0 t7 u13 u14 n lb (sumV (numsV v n)))) ?_ (fun _ _ h => h)
 refine s_loop (n + 1) (fun k (_ : Unit) => k ≤ n + 1) (fun k _ => [(0, t0), (7, t7), (10, .int .i64 (n : Nat)), (11, .slc lb 0 (n + 1) none), (13, u13), (14, u14), (15, .int .i64 (sumV ((numsV v n).take k) : Nat)), (16, .int .i64 (k : Nat))]) (fun _ _ => H) ()
  (Nat.zero_le _) rfl rfl ⟨rfl, rfl, rfl, rfl, rfl, rfl, rfl, rfl, trivial⟩ (fun k _ hI => hI) ?_
 rintro k ⟨⟩ n1 g1 hk _
 refine s_le (fun (h1 : ((k : Nat) : Int) ≤ (n : Nat)) => ?_) (fun (h1 : ((n : Nat) : Int) < (k : Nat)) => ?_)
 ·have hg := numsV_get (v := v) (n := n) (i := k) (by omega)
  have hx := numsV_lt hv (List.mem_of_getElem? hg)
  have hs := sumV_snoc hg
  have hb := sumV_len ((numsV v n).take k)
  rw [List.length_take] at hb
  have hvl := vari_len (v / 2 ^ (k % 64))
  refine ⟨k, rfl, by omega, ⟨_, hl⟩, ?_⟩
  refine ⟨_, _, _, _, hl, vsC_get hg, rfl, ?_⟩
  refine (Size_L _ hx H).mono ?_
  rintro r h' ⟨rfl, rfl⟩
  refine s_nat (sumV ((numsV v n).take (k + 1))) (by rw [hs]; omega) (by omega) ?_
  refine s_nat (k + 1) (by omega) (by omega) ?_
  exact ⟨(), by omega, by omega, rfl, rfl, rfl, rfl, rfl, rfl, rfl, rfl, rfl, rfl, trivial⟩
 ·obtain rfl : k = n + 1 := by omega
  rw [show (numsV v n).take (n + 1) = numsV v n from List.take_of_length_le (by omega)]
  exact ⟨rfl, rfl, rfl, rfl, rfl, rfl, rfl, rfl, rfl, trivial⟩
set_option maxHeartbeats 1000000 in
theorem makes_L {t9 : AV} (hv : v < 18446744073709551616) (hn : n ≤ 3000) (e : Env) (hd : e.ds = []) (hh : Has e [(0, t0), (2, .int .u64 v), (7, t7), (9, t9), (10, .int .i64 (n : Nat)), (11, .nils)]) (Q : Xit → Env → Hp → Prop) :
  LCode Tryz.prog false (.seq (.ops [o_ 12 (.mov (i_ 0))]) (.block 0 (.loop A_lexiconlaw11_EncodeMany_11)))
   (toPost (fun e' h' => e'.ds = [] ∧ ∃ lb, Gr H h' ∧ H.u lb = false ∧ h' lb = some (.row TV (vsC (numsV v n))) ∧ Has e' [(0, t0), (7, t7), (9, t9), (10, .int .i64 (n : Nat)), (11, .slc lb 0 (n + 1) none)]) Q) e H := by
 obtain ⟨n0, g0, rfl⟩ := hh.out hd
 have hnl := numsV_len v n
 refine s_blk (id := 0) (fun e' h' => e'.ds = [] ∧ ∃ lb, Gr H h' ∧ H.u lb = false ∧ h' lb = some (.row TV (vsC (numsV v n))) ∧ Has e' [(0, t0), (7, t7), (9, t9), (10, .int .i64 (n : Nat)), (11, .slc lb 0 (n + 1) none)]) ?_ (fun _ _ h => h)
 refine s_loop (n + 1) (fun k (s : AV × Hp) => k ≤ n + 1 ∧ AccE TV H s.2 s.1 (vsC ((numsV v n).take k))) (fun k s => [(0, t0), (2, .int .u64 v), (7, t7), (9, t9), (10, .int .i64 (n : Nat)), (11, s.1), (12, .int .i64 (k : Nat))]) (fun _ s => s.2) (.nils, H)
  ⟨Nat.zero_le _, AccE.nil TV H⟩ rfl rfl ⟨rfl, rfl, rfl, rfl, rfl, rfl, rfl, trivial⟩ (fun k s hI => hI.1) ?_
 rintro k ⟨u, s⟩ n1 g1 hk ⟨_, ac⟩
 simp only at ac
 refine s_le (fun (h1 : ((k : Nat) : Int) ≤ (n : Nat)) => ?_) (fun (h1 : ((n : Nat) : Int) < (k : Nat)) => ?_)
 ·have hg := numsV_get (v := v) (n := n) (i := k) (by omega)
  have hkl : (vsC ((numsV v n).take k)).length = k := by rw [vsC_len, List.length_take]; omega
  refine ⟨by decide, s_ie (d := ((k % 64 : Nat) : Int)) (by rw [Int.tmod_eq_emod_of_nonneg (by omega)]; omega) ?_⟩
  refine s_ie (d := ((k % 64 : Nat) : Int)) (by rw [IntKind.wrap_u64]; omega) ?_
  refine ⟨by omega, s_ie (shrN (v := v) (k := k % 64) rfl (by omega)) ?_⟩
  refine ⟨_, rfl, ?_⟩
  refine ⟨_, rfl, fun tb htb => ?_⟩
  refine ⟨[vC (v / 2 ^ (k % 64))], ⟨_, _, Hp.set_same _ _ _, Nat.le_refl _, rfl⟩, ?_⟩
  refine AccE.app (ac.set htb.1 _) (fun cs h => by rw [List.mem_singleton.1 h]; rfl) (fun cs h => by rw [List.mem_singleton.1 h]; rfl) (by rw [hkl]; unfold capMax; simp; omega) (by rw [hkl]; unfold capMax; simp; omega) fun v' H3 ha hf hu hb => ?_
  rw [vsC_snoc hg] at ha
  refine s_nat (k + 1) (by omega) (by omega) ?_
  exact ⟨(v', H3), by omega, ⟨by omega, ha⟩, rfl, rfl, rfl, rfl, rfl, rfl, rfl, rfl, rfl, trivial⟩
 ·obtain rfl : k = n + 1 := by omega
  rw [show (numsV v n).take (n + 1) = numsV v n from List.take_of_length_le (by omega)] at ac
  have hvl := vsC_len (numsV v n)
  obtain ⟨g, ⟨_, e0⟩ | ⟨j, rfl, hj, hjr⟩⟩ := ac
  ·have := congrArg List.length e0; rw [hvl, hnl, List.length_nil] at this; omega
  ·rw [hvl, hnl]
   exact ⟨rfl, j, g, hj, hjr, rfl, rfl, rfl, rfl, rfl, trivial⟩
end
end Go.Proofs.YtghlipffncbagaaGreatDoor

namespace Go.Proofs.YtghlipffncbagaaGreatDoor
open Go.L
theorem tmod_b (x : Int) (m : Int) (hm : 0 < m) : -m < Int.tmod x m ∧ Int.tmod x m < m := ⟨Int.lt_tmod_of_pos x hm, Int.tmod_lt_of_pos x hm⟩
abbrev manyT : ACode := .seq (.ops A_lexiconlaw11_EncodeMany_5) (.seq (.seq (.ops A_lexiconlaw11_EncodeMany_6) (.cond (.t 34) (.ops A_lexiconlaw11_EncodeMany_7) .skip)) (.seq (.ops [o_ 11 (.mov (.c (.nils)))]) (.seq (.seq (.ops [o_ 12 (.mov (i_ 0))]) (.block 0 (.loop A_lexiconlaw11_EncodeMany_11))) (.seq (.ops A_lexiconlaw11_EncodeMany_12) (.seq (.ops [o_ 15 (.mov (i_ 0))]) (.seq (.seq (.ops [o_ 16 (.mov (i_ 0))]) (.block 2 (.loop A_lexiconlaw11_EncodeMany_16))) (.seq (.ops A_lexiconlaw11_EncodeMany_17) (.seq (.seq (.ops [mv 79 0]) (.cond (.t 79) (.ops A_lexiconlaw11_EncodeMany_18) .skip)) (.seq (.ops A_lexiconlaw11_EncodeMany_19) .ret)))))))))
abbrev QT : Xit → Env → Hp → Prop := EndQ R_lexiconlaw11_EncodeMany fun r _ => r = .ret (.bool true)
section
variable {p : Bool} {s0 t0 rw0 nm0 : Nat} {os nv jv : AV} {X1 X2 : Hp} {cK : Nat} {esK : MapL}
theorem want_L {n v lb : Nat} {b : AV} {H : Hp} (hv : v < 18446744073709551616) (hn : n ≤ 3000) (ho : OwnX Tb H b (bt (encA p (numsV v n)))) (e : Env) (hd : e.ds = []) (hh : Has e (ES (.bool p) (.bool true) b (.int .i64 0) n lb (sumV (numsV v n)))) :
  LCode Tryz.prog false (.seq (.ops A_lexiconlaw11_EncodeMany_17) (.seq (.seq (.ops [mv 79 0]) (.cond (.t 79) (.ops A_lexiconlaw11_EncodeMany_18) .skip)) (.seq (.ops A_lexiconlaw11_EncodeMany_19) .ret))) QT e H := by
 obtain ⟨n0, g0, rfl⟩ := hh.out hd
 have hs := sumV_len (numsV v n)
 have hnl := numsV_len v n
 have hA := encA_sum p (numsV v n)
 have hbl := bt_len (encA p (numsV v n))
 have hne : bt (encA p (numsV v n)) ≠ [] := fun e => by
  have := congrArg List.length e
  rw [hbl, hA, List.length_nil] at this
  split at this <;> omega
 obtain ⟨B, row, q, rfl, hB, _, _, _⟩ := ho.resolve_left (fun h => hne h.2)
 refine s_nat (n + 1) (by omega) (by omega) ?_
 refine s_nat (2 * (n + 1)) (by omega) (by omega) ?_
 refine s_nat (sumV (numsV v n) + 2 * (n + 1)) (by omega) (by omega) ?_
 cases p with
 | false =>
  refine s_eq (fun _ => ?_) (fun h1 => absurd rfl h1)
  refine s_eq (fun _ => ?_) (fun h1 => ?_)
  ·exact ⟨rfl, rfl⟩
  ·exact absurd (show (((bt (encA false (numsV v n))).length : Nat) : Int) = ((sumV (numsV v n) + 2 * (n + 1) : Nat) : Int) by rw [hbl, hA, hnl]; rfl) h1
 | true =>
  refine s_nat (sumV (numsV v n) + 2) (by omega) (by omega) ?_
  refine s_ie (d := ((sumV (numsV v n) : Nat) : Int)) (by rw [IntKind.wrap_u64]; omega) ?_
  refine (Size_L _ (by omega) H).mono ?_
  rintro r h' ⟨rfl, rfl⟩
  have hv2 := vari_len (sumV (numsV v n))
  refine s_nat (sumV (numsV v n) + 2 + (vari (sumV (numsV v n))).length) (by omega) (by omega) ?_
  refine s_eq (fun _ => ?_) (fun h1 => absurd rfl h1)
  refine s_eq (fun _ => ?_) (fun h1 => ?_)
  ·exact ⟨rfl, rfl⟩
  ·exact absurd (show (((bt (encA true (numsV v n))).length : Nat) : Int) = ((sumV (numsV v n) + 2 + (vari (sumV (numsV v n))).length : Nat) : Int) by rw [hbl, hA]; rfl) h1
set_option maxHeartbeats 2000000 in
theorem manyT_L (k : GrdE p s0 t0 rw0 nm0 os nv jv X1 X2) (kf : GrdF esK cK) (hx12 : ∀ i, X1.u i = true → X2.u i = true) {ρ : Nat → Nat} {H : Hp} (hI : Img ρ X1 H) {many : Int} {v : Nat} (hv : v < 18446744073709551616)
  (e : Env) (hd : e.ds = []) (hh : Has e [(0, .bool p), (1, .int .i64 many), (2, .int .u64 v), (7, .bool true), (9, .ptr (ρ s0) 0 0)]) : LCode Tryz.prog false manyT QT e H := by
 refine s_then2 (fun e' h' => h' = H ∧ e'.ds = [] ∧ ∃ n : Nat, n ≤ 3000 ∧ Has e' [(0, .bool p), (2, .int .u64 v), (7, .bool true), (9, .ptr (ρ s0) 0 0), (10, .int .i64 (n : Nat))]) ?_ ?_
 ·obtain ⟨n0, g0, rfl⟩ := hh.out hd
  have hb := tmod_b many 3000 (by decide)
  refine ⟨by decide, ?_⟩
  intro m hm
  have hm2 : m = Int.tmod many 3000 := hm
  refine s_lt (fun (h1 : m < 0) => ?_) (fun (h1 : (0 : Int) ≤ m) => ?_)
  ·obtain ⟨n, hn⟩ := Int.eq_ofNat_of_zero_le (show 0 ≤ -m by omega)
   refine s_ie (d := ((n : Nat) : Int)) (by rw [wrap_i64 (by omega) (by omega)]; omega) ?_
   exact ⟨rfl, rfl, n, by omega, rfl, rfl, rfl, rfl, rfl, trivial⟩
  ·obtain ⟨n, rfl⟩ := Int.eq_ofNat_of_zero_le h1
   exact ⟨rfl, rfl, n, by omega, rfl, rfl, rfl, rfl, rfl, trivial⟩
 rintro e1 h1 ⟨rfl, hd1, n, hn, hh1⟩
 obtain ⟨n0, g0, rfl⟩ := hh1.out hd1
 refine s_then (fun e' h' => h' = h1 ∧ e'.ds = [] ∧ Has e' [(0, .bool p), (2, .int .u64 v), (7, .bool true), (9, .ptr (ρ s0) 0 0), (10, .int .i64 (n : Nat)), (11, .nils)]) ⟨rfl, rfl, rfl, rfl, rfl, rfl, rfl, rfl, trivial⟩ ?_
 rintro ea ha ⟨rfl, hda, hha⟩
 refine s_then _ (makes_L (t0 := .bool p) (t7 := .bool true) (t9 := .ptr (ρ s0) 0 0) hv hn ea hda hha _) ?_
 rintro e2 h2 ⟨hd2, lb, g2, nlb, rlb, hh2⟩
 obtain ⟨n2, g2', rfl⟩ := hh2.out hd2
 have hnl := numsV_len v n
 refine ⟨_, rfl, ?_⟩
 refine ⟨_, rfl, fun fb hfb => ?_⟩
 refine ⟨_, rfl, ?_⟩
 have g3 := (Gr.refl h2).set hfb.1 (.row TFV [fC (.slc lb 0 (n + 1) none)])
 have rf : (h2.set fb (.row TFV [fC (.slc lb 0 (n + 1) none)])) fb = some (.row TFV [fC (.slc lb 0 (n + 1) none)]) := Hp.set_same _ _ _
 have g := g2.trans g3
 have rl := g3.blk rlb
 have olb : Out ρ X1 (h2.set fb (.row TFV [fC (.slc lb 0 (n + 1) none)])) lb := Out.new hI nlb (Hp.used rl)
 have hE := Encode_L k kf hx12 (xs := numsV v n) (q := some 1) (hI.gr g) (by rw [hnl]; exact rf) (Out.new hI (g2.new hfb.1) (Hp.used rf)) rl olb (by omega) (by omega) (fun x hx => numsV_lt hv hx)
 refine hE.mono ?_
 rintro r h4 ⟨b, rfl, ho, hB⟩
 refine ⟨_, rfl, _, rfl, ?_⟩
 refine s_then (fun e' h' => h' = h4 ∧ e'.ds = [] ∧ Has e' (ES (.bool p) (.bool true) b (.int .i64 0) n lb 0)) ⟨rfl, rfl, rfl, rfl, rfl, rfl, rfl, rfl, rfl, trivial⟩ ?_
 rintro eb hb' ⟨rfl, hdb, hhb⟩
 refine s_then _ (sizes_L (t0 := .bool p) (t7 := .bool true) (u13 := b) (u14 := .int .i64 0) hv hn (hB lb _ olb rl) eb hdb hhb _) ?_
 rintro e5 h5 ⟨rfl, hd5, hh5⟩
 exact want_L hv hn ho e5 hd5 hh5
end
end Go.Proofs.YtghlipffncbagaaGreatDoor

namespace Go.Proofs.YtghlipffncbagaaGreatDoor
open Go.L
abbrev TFd : TypeId := 28
abbrev TMd : TypeId := 37
abbrev TFl : TypeId := 40
abbrev fdC (k : Int) : List AV := [.str [102], .int .i32 16, .int .u8 3, .int .u8 4, .str [], .int .u8 0, .int .i64 0, .int .u8 k, .str []]
abbrev mdC (i : Nat) : List AV := [.str [78], .slc i 0 1 (some 1), .nils, .nils, .nils, .nils, .nils]
abbrev flC (i : Nat) : List AV := [.str [112], .str [], .nils, .slc i 0 1 (some 1), .nils]
def pk (p : Bool) : Int := if p then 1 else 2
def XT (k : Int) : Hp := ((Hp.nil.set 1 (.row TFd [fdC k])).set 2 (.row TMd [mdC 1])).set 3 (.row TFl [flC 2])
theorem img_file (k : Int) {H : Hp} {i1 i2 i3 : Nat} (h1 : H.u i1 = false) (h2 : (H.set i1 (.row TFd [fdC k])).u i2 = false) (h3 : ((H.set i1 (.row TFd [fdC k])).set i2 (.row TMd [mdC i1])).u i3 = false) :
  ∃ ρ : Nat → Nat, ρ 3 = i3 ∧ Img ρ (XT k) (((H.set i1 (.row TFd [fdC k])).set i2 (.row TMd [mdC i1])).set i3 (.row TFl [flC i2])) := by
 have a1 := (Img.nil id H).set (i0 := 1) (j := i1) (b := .row TFd [fdC k]) rfl h1 (fun i c hi => by cases hi) rfl
 have x1 : ∀ i c, (Hp.nil.set 1 (.row TFd [fdC k])) i = some c → blkU (Hp.nil.set 1 (.row TFd [fdC k])).u c = true := fun i c hi => by
  by_cases e : i = 1
  ·subst e; rw [Hp.set_same] at hi; cases hi; rfl
  ·rw [Hp.set_ne e] at hi; cases hi
 have a2 := a1.set (i0 := 2) (j := i2) (b := .row TMd [mdC 1]) rfl h2 x1 rfl
 have x2 : ∀ i c, ((Hp.nil.set 1 (.row TFd [fdC k])).set 2 (.row TMd [mdC 1])) i = some c → blkU ((Hp.nil.set 1 (.row TFd [fdC k])).set 2 (.row TMd [mdC 1])).u c = true := fun i c hi => by
  by_cases e2 : i = 2
  ·subst e2; rw [Hp.set_same] at hi; cases hi; rfl
  ·rw [Hp.set_ne e2] at hi
   by_cases e : i = 1
   ·subst e; rw [Hp.set_same] at hi; cases hi; rfl
   ·rw [Hp.set_ne e] at hi; cases hi
 have a3 := a2.set (i0 := 3) (j := i3) (b := .row TFl [flC 2]) rfl h3 x2 rfl
 exact ⟨_, rfl, a3⟩
section
variable {s0 t0 rw0 nm0 : Nat} {os nv jv : AV} {cK : Nat} {esK : MapL}
set_option maxHeartbeats 2000000 in
theorem EncodeMany_L {p : Bool} {X1 X2 : Hp} (k : GrdE p s0 t0 rw0 nm0 os nv jv X1 X2) (kf : GrdF esK cK) (hx12 : ∀ i, X1.u i = true → X2.u i = true) (kw : ∀ H, CallL Tryz.prog F_works11 [] H fun r H' => r = .ret (.bool true) ∧ Gr H H')
  (kt : ∀ ρ H, Img ρ (XT (pk p)) H → CallL Tryz.prog F_lexiconlaw11_types (mps ρ [.slc 3 0 1 (some 1)]) H (FrQ ρ (XT (pk p)) X1 (.ptr s0 0 0) H)) (many : Int) (v : Nat) (hv : v < 18446744073709551616) :
  CallL Tryz.prog F_lexiconlaw11_EncodeMany [.bool p, .int .i64 many, .int .u64 v] Hp.nil fun r _ => r = .ret (.bool true) := by
 have tail : ∀ (H : Hp) (i1 i2 i3 : Nat), H.u i1 = false → (H.set i1 (.row TFd [fdC (pk p)])).u i2 = false → ((H.set i1 (.row TFd [fdC (pk p)])).set i2 (.row TMd [mdC i1])).u i3 = false →
   CallL Tryz.prog F_lexiconlaw11_types [.slc i3 0 1 (some 1)] (((H.set i1 (.row TFd [fdC (pk p)])).set i2 (.row TMd [mdC i1])).set i3 (.row TFl [flC i2])) fun r H' => ∃ ρ, r = .ret (.ptr (ρ s0) 0 0) ∧ Img ρ X1 H' := by
  intro H i1 i2 i3 h1 h2 h3
  obtain ⟨ρ, e3, I⟩ := img_file (pk p) h1 h2 h3
  have h := kt ρ _ I
  rw [show mps ρ [.slc 3 0 1 (some 1)] = [.slc i3 0 1 (some 1)] from by rw [← e3]; rfl] at h
  refine h.mono ?_
  rintro r H' ⟨ρ', _, rfl, I', _⟩
  exact ⟨ρ', rfl, I'⟩
 refine K_lexiconlaw11_EncodeMany (md := false) ?_
 refine s_then2 (fun e' h' => e'.ds = [] ∧ Has e' [(0, .bool p), (1, .int .i64 many), (2, .int .u64 v), (7, .bool true)]) ?_ ?_
 ·refine (kw _).mono ?_
  rintro r H0 ⟨rfl, g0⟩
  exact ⟨rfl, rfl, rfl, rfl, rfl, trivial⟩
 rintro e1 hp1 ⟨hd1, hh1⟩
 obtain ⟨n1, g1, rfl⟩ := hh1.out hd1
 refine s_then3 (fun e' h' => e'.ds = [] ∧ ∃ ρ, Img ρ X1 h' ∧ Has e' [(0, .bool p), (1, .int .i64 many), (2, .int .u64 v), (7, .bool true), (9, .ptr (ρ s0) 0 0)]) ?_ ?_
 ·refine ⟨_, rfl, ?_⟩
  refine ⟨rfl, rfl, fun b8 h8 => ?_⟩
  refine ⟨_, _, _, Hp.set_same _ _ _, rfl, rfl, rfl, rfl, by show 9 ≤ 9; decide, ?_⟩
  cases p with
  | false =>
   refine ⟨_, _, _, Hp.set_same _ _ _, rfl, by show 9 ≤ 9; decide, ?_⟩
   refine ⟨_, rfl, fun i1 h1 => ?_⟩
   refine ⟨_, rfl, ?_⟩
   refine ⟨_, rfl, fun i2 h2 => ?_⟩
   refine ⟨_, rfl, ?_⟩
   refine ⟨_, rfl, fun i3 h3 => ?_⟩
   refine CallL.mono (tail _ i1 i2 i3 h1.1 h2.1 h3.1) ?_
   rintro r H' ⟨ρ, rfl, I⟩
   exact ⟨rfl, ρ, I, rfl, rfl, rfl, rfl, rfl, trivial⟩
  | true =>
   refine ⟨_, _, _, Hp.set_same _ _ _, rfl, rfl, rfl, rfl, by show 8 ≤ 9; decide, ?_⟩
   refine ⟨_, _, _, Hp.set_same _ _ _, rfl, by show 9 ≤ 9; decide, ?_⟩
   refine ⟨_, rfl, fun i1 h1 => ?_⟩
   refine ⟨_, rfl, ?_⟩
   refine ⟨_, rfl, fun i2 h2 => ?_⟩
   refine ⟨_, rfl, ?_⟩
   refine ⟨_, rfl, fun i3 h3 => ?_⟩
   refine CallL.mono (tail _ i1 i2 i3 h1.1 h2.1 h3.1) ?_
   rintro r H' ⟨ρ, rfl, I⟩
   exact ⟨rfl, ρ, I, rfl, rfl, rfl, rfl, rfl, trivial⟩
 rintro e2 hp2 ⟨hd2, ρ, I, hh2⟩
 obtain ⟨n2, g2, rfl⟩ := hh2.out hd2
 refine s_then (fun e' h' => h' = hp2 ∧ e'.ds = [] ∧ Has e' [(0, .bool p), (1, .int .i64 many), (2, .int .u64 v), (7, .bool true), (9, .ptr (ρ s0) 0 0)]) ⟨rfl, rfl, rfl, rfl, rfl, rfl, rfl, trivial⟩ ?_
 rintro e9 h9 ⟨rfl, hd9, hh9⟩
 exact manyT_L k kf hx12 I hv e9 hd9 hh9
end
end Go.Proofs.YtghlipffncbagaaGreatDoor

namespace Go.L
theorem CallL.namedX {P : Program} {f : FuncId} {args : List AV} {h : Hp} {T n d : Nat} {es : List (List AV)} {i0 : Nat} (h0 : h.u i0 = false) (hes : idUss h.u es = true) (hcl : ∀ j b, h j = some b → blkU h.u b = true)
  (k : CallL P f args h fun r h1 => ∃ i, r = .ret (.slc i 0 n none) ∧ h.u i = false ∧ h1 i = some (.row T es) ∧ GrX d h h1) :
  CallL P f args h fun r h1 => r = .ret (.slc i0 0 n none) ∧ h1 = (h.del d).set i0 (.row T es) := by
 refine ⟨fun σ M w args' hR hA => (k.run σ M w args' hR hA).mono fun e w' ⟨σ', M', h1, hE, hR1, hend⟩ => ?_⟩
 cases e with
 | panicked ch => obtain ⟨v, v', _, _, i, e1, _⟩ := hend; cases e1
 | outgrown => exact hend.elim
 | returned v' =>
  obtain ⟨v0, hv, i, e1, hi, hrow, hbase⟩ := hend
  cases e1
  let σ2 : Emb := fun j => if j = i0 then σ' i else σ'.cut h.u j
  have hcut : (σ'.cut h.u).le σ2 := fun j L hj => by
   have := (Emb.cut_inv hj).1
   have hne : j ≠ i0 := fun e => by rw [e, h0] at this; cases this
   simp only [σ2]; rw [if_neg hne]; exact hj
  have hσ2 : σ2 i0 = σ' i := if_pos rfl
  have old : ∀ {j : Nat} {b : Blk}, j ≠ i0 → ((h.del d).set i0 (.row T es)) j = some b → j ≠ d ∧ h j = some b := fun {j b} e hj => by
   rw [Hp.set_ne e] at hj
   by_cases e2 : j = d
   ·subst e2; simp at hj
   ·rw [Hp.del_ne e2] at hj; exact ⟨e2, hj⟩
  have key : ∀ j b L, ((h.del d).set i0 (.row T es)) j = some b → σ2 j = some L → ∃ p, h1 p = some b ∧ σ' p = some L ∧ blkU h.u b = true ∧ ((j = i0 ∧ p = i) ∨ (p = j ∧ h.u j = true)) := by
   intro j b L hj hL
   by_cases e : j = i0
   ·subst e
    rw [Hp.set_same] at hj; cases hj
    rw [hσ2] at hL
    exact ⟨i, hrow, hL, hes, .inl ⟨rfl, rfl⟩⟩
   ·obtain ⟨e2, hj'⟩ := old e hj
    simp only [σ2, if_neg e] at hL
    obtain ⟨hu, hL'⟩ := Emb.cut_inv hL
    exact ⟨j, (hbase.m j hu e2).trans hj', hL', hcl j b hj', .inr ⟨rfl, hu⟩⟩
  refine ⟨σ2, M', (h.del d).set i0 (.row T es), ⟨fun j L hj => ?_, hE.m, hE.size, hE.os, hE.tape, hE.output⟩, ⟨fun j hj => ?_, fun j b hj => ?_, hR1.mem, fun j b L hj hL => ?_, fun j1 j2 b1 b2 L1 L2 hj1 hj2 hL1 hL2 hb => ?_, fun j b L hj hL => ?_, fun j b L hj hL => ?_, hR1.glb⟩, .slc i0 0 n none, ?_, rfl, rfl⟩
  ·have hu0 : h.u j = true := by
    cases hh : h.u j with
    | true => rfl
    | false => rw [hR.fin j hh] at hj; cases hj
   exact hcut j L (Emb.cut_some hu0 (hE.s j L hj))
  ·rw [Hp.set_u, Hp.del_u] at hj
   split at hj
   ·cases hj
   ·rename_i e
    simp only [σ2, if_neg e, Emb.cut, hj]
  ·by_cases e : j = i0
   ·subst e
    obtain ⟨L, hL⟩ := hR1.dom i _ hrow
    exact ⟨L, hσ2.trans hL⟩
   ·obtain ⟨e2, hj'⟩ := old e hj
    obtain ⟨L, hL⟩ := hR1.dom j b ((hbase.m j (Hp.used hj') e2).trans hj')
    exact ⟨L, hcut j L (Emb.cut_some (Hp.used hj') hL)⟩
  ·obtain ⟨p, q1, q2, _⟩ := key j b L hj hL
   exact hR1.sep p b L q1 q2
  ·obtain ⟨p1, a1, a2, _, a3⟩ := key j1 b1 L1 hj1 hL1
   obtain ⟨p2, c1, c2, _, c3⟩ := key j2 b2 L2 hj2 hL2
   have hp := hR1.inj p1 p2 b1 b2 L1 L2 a1 c1 a2 c2 hb
   rcases a3 with ⟨e1, e2⟩ | ⟨e1, e2⟩ <;> rcases c3 with ⟨g1, g2⟩ | ⟨g1, g2⟩
   ·rw [e1, g1]
   ·rw [e2, g1] at hp; rw [← hp, hi] at g2; cases g2
   ·rw [e1, g2] at hp; rw [hp, hi] at e2; cases e2
   ·rw [← e1, ← g1]; exact hp
  ·obtain ⟨p, q1, q2, q3, _⟩ := key j b L hj hL
   exact ((hR1.blk p b L q1 q2).cut q3).mono hcut M'.le_refl rfl
  ·obtain ⟨p, q1, q2, _⟩ := key j b L hj hL
   exact hR1.al p b L q1 q2
  ·obtain ⟨L, a, c', e1, hL, ha, hn, hk, hu⟩ := hv.slc_inv
   rw [e1]
   exact .slc i0 0 n none L a c' (hσ2.trans hL) ha hn hk hu
def closedX (h : HT) : Bool := allT (fun _ o => match o with
 | some (.b b) => blkU (uT h) b
 | some _ => false
 | none => true) h.t 0 1
theorem closedX_ok {P : Program} {h : HT} (hc : closedX h = true) : ∀ j b, (h.hp P) j = some b → blkU (h.hp P).u b = true := by
 intro j b hj
 have hj' : jn P (h.t.get j) = some b := hj
 cases hg : h.t.get j with
 | none => rw [hg] at hj'; cases hj'
 | some o =>
  have hq := allT_get hc hg
  cases o with
  | none => rw [hg] at hj'; cases hj'
  | some eb =>
   rw [hg] at hj'
   cases eb with
   | l n t ps c d st pend => cases hq
   | b x => cases hj'; exact hq
theorem HT.hp_updX {P : Program} (s : HT) (d i n : Nat) (b : EB) (hd : (s.t.get d).isSome = true) : (HT.upd s [(d, none), (i, some b)] n).hp P = ((s.hp P).del d).set i (b.bk P) := by
 refine Hp.ext (fun j => ?_) (fun j => ?_)
 ·show jn P (((s.t.set d (some none)).set i (some (some b))).get j) = if j = i then some (b.bk P) else if j = d then none else jn P (s.t.get j)
  rw [Tr.get_set]; split
  ·rfl
  ·rw [Tr.get_set]; split <;> rfl
 ·show (((s.t.set d (some none)).set i (some (some b))).get j).isSome = if j = i then true else (s.t.get j).isSome
  rw [Tr.get_set]; split
  ·rfl
  ·rw [Tr.get_set]; split
   ·rename_i e; rw [e, hd]; rfl
   ·rfl
end Go.L
namespace Go.Proofs.YtghlipffncbagaaGreatDoor
open Go.L
theorem insert_sm {s : Sm} {i j is p n : Nat} {cv : Option Nat} {bs vs : List UInt8} {X rv : List (List AV)} (hf : s.f = F_slices_Insert) (ha : s.args = [.slc i 0 bs.length none, .int .i64 p, .slc j 0 vs.length cv])
  (hi : s.h.t.get i = some (some (.b (.row Tb (bt bs ++ X))))) (hj : s.h.t.get j = some (some (.b (.row Tb (bt vs ++ rv))))) (hij : i ≠ j) (hp : p ≤ bs.length) (hl : bs.length + vs.length ≤ 1000000000000)
  (hv : s.v = .slc is 0 (bs.length + vs.length) none) (hh : s.h' = HT.upd s.h [(i, none), (is, some (.b (.row Tb (bt (insL bs vs p)))))] n) (hn : s.h.t.get is = none) (hcl : closedX s.h = true) : SmOK Tryz.prog s := by
 intro Q hQ
 have hu : (s.h.hp Tryz.prog).u is = false := by
  show (s.h.t.get is).isSome = false
  rw [hn]; rfl
 have at' : ∀ {k : Nat} {b : Blk}, s.h.t.get k = some (some (.b b)) → (s.h.hp Tryz.prog) k = some b := fun {k b} hk => by
  show jn Tryz.prog (s.h.t.get k) = some b
  rw [hk]; rfl
 have lb : (bt (insL bs vs p)).length = bs.length + vs.length := by rw [bt_len, insL_len]
 rw [hf, ha]
 rw [hv, hh, HT.hp_updX _ _ _ _ _ (by rw [hi]; rfl)] at hQ
 refine (CallL.namedX (T := Tb) (d := i) (n := bs.length + vs.length) (es := bt (insL bs vs p)) hu ?_ (closedX_ok hcl) ((Insert_L bs vs p i j cv X rv _ (at' hi) (at' hj) hij hp hl).mono ?_)).mono ?_
 ·generalize insL bs vs p = l
  induction l with
  | nil => rfl
  | cons z zs ih => exact ih
 ·rintro r H ⟨i2, rfl, h1, h2, h3⟩
  exact ⟨i2, by rw [lb], h1, h2, h3⟩
 ·rintro r h' ⟨rfl, rfl⟩
  exact hQ
end Go.Proofs.YtghlipffncbagaaGreatDoor
