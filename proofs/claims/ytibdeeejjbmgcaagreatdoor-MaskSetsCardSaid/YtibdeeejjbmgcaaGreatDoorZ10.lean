/- Contracts of functions of the given program, in the logic L: texts put together; no conditions. -/
import Derived.Test.YtibdeeejjbmgcaaGreatDoorZ4
import Derived.Test.YtibdeeejjbmgcaaGreatDoorZ9
import Derived.Test.YtibdeeejjbmgcaaGreatDoorZ8
/- The table of the codes is of the given program. Printed by program (gen_all.py). -/
namespace Go.Proofs.YtibdeeejjbmgcaaGreatDoor
open Go.L
set_option maxRecDepth 100000
theorem codes_ok : trOK (GoodFC Tryz.prog) Codes id := ⟨trivial, ⟨trivial, ⟨trivial, ⟨trivial, ⟨trivial, ⟨G_q31, trivial, trivial⟩, ⟨G_q47, trivial, trivial⟩⟩, ⟨trivial, ⟨G_q39, ⟨G_q71, trivial, trivial⟩, trivial⟩, ⟨G_q55, ⟨G_q87, trivial, trivial⟩, trivial⟩⟩⟩, ⟨G_q11, ⟨trivial, ⟨trivial, ⟨G_q67, trivial, trivial⟩, trivial⟩, ⟨G_q51, ⟨G_q83, trivial, trivial⟩, trivial⟩⟩, ⟨G_q27, ⟨G_q43, trivial, trivial⟩, ⟨G_q59, ⟨G_q91, trivial, trivial⟩, trivial⟩⟩⟩⟩, ⟨trivial, ⟨G_q9, ⟨trivial, ⟨G_q33, ⟨G_q65, trivial, trivial⟩, trivial⟩, ⟨G_q49, trivial, trivial⟩⟩, ⟨G_q25, ⟨G_q41, trivial, ⟨G_q105, trivial, trivial⟩⟩, ⟨G_q57, trivial, trivial⟩⟩⟩, ⟨trivial, ⟨G_q21, ⟨trivial, ⟨G_q69, trivial, trivial⟩, trivial⟩, ⟨G_q53, trivial, ⟨G_q117, trivial, trivial⟩⟩⟩, ⟨G_q29, ⟨G_q45, ⟨G_q77, trivial, trivial⟩, ⟨G_q109, trivial, trivial⟩⟩, ⟨G_q61, ⟨G_q93, trivial, trivial⟩, trivial⟩⟩⟩⟩⟩, ⟨trivial, ⟨trivial, ⟨G_q8, ⟨trivial, ⟨G_q32, trivial, trivial⟩, ⟨G_q48, trivial, trivial⟩⟩, ⟨trivial, ⟨G_q40, ⟨G_q72, trivial, trivial⟩, ⟨G_q104, trivial, trivial⟩⟩, ⟨G_q56, ⟨G_q88, trivial, trivial⟩, trivial⟩⟩⟩, ⟨trivial, ⟨trivial, ⟨G_q36, ⟨G_q68, trivial, trivial⟩, trivial⟩, ⟨G_q52, trivial, trivial⟩⟩, ⟨G_q28, ⟨G_q44, trivial, trivial⟩, ⟨G_q60, ⟨G_q92, trivial, trivial⟩, trivial⟩⟩⟩⟩, ⟨G_lexiconlaw16_known, ⟨G_q10, ⟨trivial, ⟨G_q34, ⟨G_q66, trivial, trivial⟩, trivial⟩, ⟨G_q50, trivial, trivial⟩⟩, ⟨G_q26, ⟨G_q42, trivial, trivial⟩, ⟨G_q58, ⟨G_q90, trivial, trivial⟩, trivial⟩⟩⟩, ⟨trivial, ⟨trivial, ⟨G_q38, trivial, trivial⟩, ⟨G_q54, trivial, trivial⟩⟩, ⟨G_q30, ⟨G_q46, trivial, trivial⟩, trivial⟩⟩⟩⟩⟩
end Go.Proofs.YtibdeeejjbmgcaaGreatDoor

/-
  The closed head of the laws of masks, and lists of which there are none: computed.
-/
namespace Go.Proofs.YtibdeeejjbmgcaaGreatDoor
open Go.L
set_option maxRecDepth 100000
theorem known_run : PureL Tryz.prog 6 [] (.bool true) := CallL.ofRun codes_ok (loops := 1000) (d := 60) rfl rfl (by kernel_rfl)
theorem ownBytes_nil : PureL Tryz.prog 36 [.nils] (.bool true) := CallL.ofRun codes_ok (loops := 10) (d := 60) rfl rfl (by kernel_rfl)
theorem ownInts_nil : PureL Tryz.prog 38 [.nils] (.bool true) := CallL.ofRun codes_ok (loops := 10) (d := 60) rfl rfl (by kernel_rfl)
theorem ownSpans_nil : PureL Tryz.prog 39 [.nils] (.bool true) := CallL.ofRun codes_ok (loops := 10) (d := 60) rfl rfl (by kernel_rfl)
theorem ownImports_nil : PureL Tryz.prog 40 [.nils] (.bool true) := CallL.ofRun codes_ok (loops := 10) (d := 60) rfl rfl (by kernel_rfl)
theorem ownEnumValues_nil : PureL Tryz.prog 41 [.nils] (.bool true) := CallL.ofRun codes_ok (loops := 10) (d := 60) rfl rfl (by kernel_rfl)
theorem ownFieldDefs_nil : PureL Tryz.prog 42 [.nils] (.bool true) := CallL.ofRun codes_ok (loops := 10) (d := 60) rfl rfl (by kernel_rfl)
theorem ownSymbols_nil : PureL Tryz.prog 43 [.nils] (.bool true) := CallL.ofRun codes_ok (loops := 10) (d := 60) rfl rfl (by kernel_rfl)
theorem ownRows_nil : PureL Tryz.prog 44 [.nils] (.bool true) := CallL.ofRun codes_ok (loops := 10) (d := 60) rfl rfl (by kernel_rfl)
theorem ownTokens_nil : PureL Tryz.prog 45 [.nils] (.bool true) := CallL.ofRun codes_ok (loops := 10) (d := 60) rfl rfl (by kernel_rfl)
theorem ownVerdicts_nil : PureL Tryz.prog 46 [.nils] (.bool true) := CallL.ofRun codes_ok (loops := 10) (d := 60) rfl rfl (by kernel_rfl)
theorem ownCached_nil : PureL Tryz.prog 47 [.nils] (.bool true) := CallL.ofRun codes_ok (loops := 10) (d := 60) rfl rfl (by kernel_rfl)
theorem ownPinned_nil : PureL Tryz.prog 48 [.nils] (.bool true) := CallL.ofRun codes_ok (loops := 10) (d := 60) rfl rfl (by kernel_rfl)
theorem ownRaws_nil : PureL Tryz.prog 49 [.nils] (.bool true) := CallL.ofRun codes_ok (loops := 10) (d := 60) rfl rfl (by kernel_rfl)
theorem ownEnums_nil : PureL Tryz.prog 50 [.nils] (.bool true) := CallL.ofRun codes_ok (loops := 10) (d := 60) rfl rfl (by kernel_rfl)
theorem ownMessages_nil : PureL Tryz.prog 51 [.nils] (.bool true) := CallL.ofRun codes_ok (loops := 10) (d := 60) rfl rfl (by kernel_rfl)
theorem ownFiles_nil : PureL Tryz.prog 52 [.nils] (.bool true) := CallL.ofRun codes_ok (loops := 10) (d := 60) rfl rfl (by kernel_rfl)
theorem ownValues_nil : PureL Tryz.prog 53 [.nils] (.bool true) := CallL.ofRun codes_ok (loops := 10) (d := 60) rfl rfl (by kernel_rfl)
theorem ownFields_nil : PureL Tryz.prog 54 [.nils] (.bool true) := CallL.ofRun codes_ok (loops := 10) (d := 60) rfl rfl (by kernel_rfl)
theorem ownMsgs_nil : PureL Tryz.prog 55 [.nils] (.bool true) := CallL.ofRun codes_ok (loops := 10) (d := 60) rfl rfl (by kernel_rfl)
theorem ownBoxes_nil : PureL Tryz.prog 56 [.nils] (.bool true) := CallL.ofRun codes_ok (loops := 10) (d := 60) rfl rfl (by kernel_rfl)
theorem ownResults_nil : PureL Tryz.prog 57 [.nils] (.bool true) := CallL.ofRun codes_ok (loops := 10) (d := 60) rfl rfl (by kernel_rfl)
theorem ownDones_nil : PureL Tryz.prog 58 [.nils] (.bool true) := CallL.ofRun codes_ok (loops := 10) (d := 60) rfl rfl (by kernel_rfl)
end Go.Proofs.YtibdeeejjbmgcaaGreatDoor

/-
  Contracts: the book; the law MaskTexts.
-/
namespace Go.Proofs.YtibdeeejjbmgcaaGreatDoor
open Go.L

/-! ### The book -/
abbrev TB : TypeId := 54
def bookC (v : AV) : List AV := [.nils, v, .nils, .nils, .nils, .nils, .nils, .nils, .nils, .nils, .nils, .nils, .nils, .nils, .nils, .nils, .nils, .nils, .nils, .nils, .nils, .nils, .nils]
/-- A book of lists of texts. -/
structure Bk (h0 : Hp) (B : Nat) (H : Hp) (us : List AV) : Prop where
  b0 : h0.u B = false
  at_ : ∃ v, H B = some (.row TB [bookC v]) ∧ blkOf v ≠ some B ∧ Acc Tl h0 H v (one us)

theorem Bk.keep {h0 : Hp} {B : Nat} {H H' : Hp} {us : List AV} (k : Bk h0 B H us) (g : Gr H H') : Bk h0 B H' us := by
  obtain ⟨v, h1, h2, h3⟩ := k.at_
  exact ⟨k.b0, v, g.blk h1, h2, h3.keep g⟩
theorem Book_Texts_L (h0 H : Hp) (B : Nat) (x : AV) (us : List AV) (k : Bk h0 B H us) (hx : x = .nils ∨ ∃ i n c, x = .slc i 0 n c) (hl : us.length ≤ 1000) :
    CallL Tryz.prog F_lexiconref00_Book_Texts [.ptr B 0 0, x] H fun r H' => r = .ret (.tup []) ∧ Bk h0 B H' (us ++ [x]) := by
  obtain ⟨hb0, v, hB, hv, ha⟩ := k
  have hxf : flat [x] = true := by rcases hx with rfl | ⟨i, n, c, rfl⟩ <;> rfl
  refine K_lexiconref00_Book_Texts (md := false) ?_
  refine ⟨_, _, _, _, hB, rfl, rfl, ?_⟩
  refine ⟨[x], by rcases hx with rfl | ⟨i, n, c, rfl⟩ <;> rfl, fun tb htb => ?_⟩
  have hne : B ≠ tb := ne_of_u (Hp.used hB) htb.1
  have hB1 : (H.set tb (.row Tl [[x]])).m B = some (.row TB [bookC v]) := (Hp.set_ne hne).trans hB
  refine ⟨one [x], ⟨_, _, Hp.set_same _ _ _, Nat.le_refl _, rfl⟩, ?_⟩
  refine Acc.app (ha.set htb.1 _) (fun cs hcs => by rw [List.mem_singleton.1 hcs]; rfl) (fun cs hcs => by rw [List.mem_singleton.1 hcs]; exact hxf) (by rw [one_len, one_len]; unfold capMax; simp; omega) (by rw [one_len, one_len]; unfold capMax; simp; omega) fun v' H' ha' hfr hu => ?_
  have hb' : H' B = some (.row TB [bookC v]) := (hfr B (Hp.used hB1) hv).trans hB1
  have hv' : blkOf v' ≠ some B := fun e => by
    rcases ha'.2 with ⟨rfl, _⟩ | ⟨j, row, rfl, h2, h3, _⟩
    · cases e
    · cases e
      rw [hb'] at h3
      injection h3 with h3
      injection h3 with h3 _
      exact absurd h3 (by decide)
  have hfl : flat [v'] = true := by rcases ha'.shape with rfl | ⟨j, n, rfl⟩ <;> rfl
  have hnt : notTup v' = true := by rcases ha'.shape with rfl | ⟨j, n, rfl⟩ <;> rfl
  have hc : v'.cells = [v'] := by rcases ha'.shape with rfl | ⟨j, n, rfl⟩ <;> rfl
  refine ⟨_, _, _, hb', rfl, hnt, by show v'.cells.length = 1; rw [hc]; rfl, by show flat v'.cells = true; rw [hc]; exact hfl, by show 2 ≤ 23; decide, ?_⟩
  refine ⟨rfl, rfl, hb0, v', ?_, hv', ?_⟩
  · rw [Hp.set_same]
    show some (Blk.row TB [(bookC v).take 1 ++ v'.cells ++ (bookC v).drop 2]) = _
    rw [hc]; rfl
  · have e : one (us ++ [x]) = one us ++ one [x] := List.map_append
    rw [e]
    refine ⟨ha'.1.set hb0 _, ?_⟩
    rcases ha'.2 with h | ⟨j, row, rfl, h2, h3, h4⟩
    · exact .inl h
    · exact .inr ⟨j, row, rfl, h2, (Hp.set_ne fun e => hv' (by rw [e]; rfl)).trans h3, h4⟩

theorem Book_Own_L (h0 H : Hp) (B : Nat) (us : List AV) (ds : List (List Str)) (k : Bk h0 B H us) (ho : OwnLL Ts h0 us (txx ds)) (hne : us ≠ []) (hlen : us.length ≤ 1000) (hd : ∀ d ∈ ds, d.length ≤ 1000000) :
    CallL Tryz.prog F_lexiconref00_Book_Own [.ptr B 0 0] H fun r _ => r = .ret (.bool true) := by
  obtain ⟨hb0, v, hB, hv, ha⟩ := k
  obtain ⟨j, row, rfl, hj, hrow, ht, hl⟩ := ha.slc (by cases us with
    | nil => exact absurd rfl hne
    | cons u us => simp [one])
  rw [one_len] at *
  have hr : Row1 H j us := ⟨row, hrow, fun i u hu => by
    have hi := (List.getElem?_eq_some_iff.1 hu).1
    have := one_get hu
    rw [← ht, List.getElem?_take_of_lt hi] at this
    rw [Nat.zero_add]; exact this⟩
  have hju : ∀ u ∈ us, blkOf u ≠ some j := fun u hu e => by
    have := ho.used hu e
    rw [hj] at this; cases this
  have hBu : ∀ u ∈ us, blkOf u ≠ some B := fun u hu e => by
    have := ho.used hu e
    rw [hb0] at this; cases this
  refine K_lexiconref00_Book_Own (md := false) ?_
  refine ⟨_, _, _, _, hB, rfl, rfl, ?_⟩
  refine ownBytes_nil.use ?_
  refine ⟨_, _, _, _, hB, rfl, rfl, ?_⟩
  refine (ownTexts_L us ds H j hr hju (ho.gr ha.1) hlen hd).mono ?_
  rintro r H2 ⟨rfl, hF⟩
  have hB2 : H2 B = some (.row TB [bookC (.slc j 0 us.length none)]) := (hF.m B (Hp.used hB) hBu).trans hB
  clear hF hr hju hBu ho hrow ht hl hj ha hv
  refine ⟨_, _, _, _, hB2, rfl, rfl, ?_⟩
  refine ownInts_nil.use ?_
  refine ⟨_, _, _, _, hB2, rfl, rfl, ?_⟩
  refine ownSpans_nil.use ?_
  refine ⟨_, _, _, _, hB2, rfl, rfl, ?_⟩
  refine ownImports_nil.use ?_
  refine ⟨_, _, _, _, hB2, rfl, rfl, ?_⟩
  refine ownEnumValues_nil.use ?_
  refine ⟨_, _, _, _, hB2, rfl, rfl, ?_⟩
  refine ownFieldDefs_nil.use ?_
  refine ⟨_, _, _, _, hB2, rfl, rfl, ?_⟩
  refine ownSymbols_nil.use ?_
  refine ⟨_, _, _, _, hB2, rfl, rfl, ?_⟩
  refine ownRows_nil.use ?_
  refine ⟨_, _, _, _, hB2, rfl, rfl, ?_⟩
  refine ownTokens_nil.use ?_
  refine ⟨_, _, _, _, hB2, rfl, rfl, ?_⟩
  refine ownVerdicts_nil.use ?_
  refine ⟨_, _, _, _, hB2, rfl, rfl, ?_⟩
  refine ownCached_nil.use ?_
  refine ⟨_, _, _, _, hB2, rfl, rfl, ?_⟩
  refine ownPinned_nil.use ?_
  refine ⟨_, _, _, _, hB2, rfl, rfl, ?_⟩
  refine ownRaws_nil.use ?_
  refine ⟨_, _, _, _, hB2, rfl, rfl, ?_⟩
  refine ownEnums_nil.use ?_
  refine ⟨_, _, _, _, hB2, rfl, rfl, ?_⟩
  refine ownMessages_nil.use ?_
  refine ⟨_, _, _, _, hB2, rfl, rfl, ?_⟩
  refine ownFiles_nil.use ?_
  refine ⟨_, _, _, _, hB2, rfl, rfl, ?_⟩
  refine ownValues_nil.use ?_
  refine ⟨_, _, _, _, hB2, rfl, rfl, ?_⟩
  refine ownFields_nil.use ?_
  refine ⟨_, _, _, _, hB2, rfl, rfl, ?_⟩
  refine ownMsgs_nil.use ?_
  refine ⟨_, _, _, _, hB2, rfl, rfl, ?_⟩
  refine ownBoxes_nil.use ?_
  refine ⟨_, _, _, _, hB2, rfl, rfl, ?_⟩
  refine ownResults_nil.use ?_
  refine ⟨_, _, _, _, hB2, rfl, rfl, ?_⟩
  refine ownDones_nil.use ?_
  exact ⟨rfl, rfl⟩
end Go.Proofs.YtibdeeejjbmgcaaGreatDoor

/-
  Contracts: the law MaskTexts.
-/
namespace Go.Proofs.YtibdeeejjbmgcaaGreatDoor
open Go.L

theorem Parse_L2 (s : Str) (hs : s.length ≤ 100000000000) (h : Hp) :
    CallL Tryz.prog F_mask_Parse [.str s] h fun r h' => ∃ v, OwnB Ts h h' (.ret v) (tx ((parseM s).getD [])) ∧ r = .ret (.tup [v, no160 (parseM s).isSome]) := by
  refine (Parse_L s hs h).mono ?_
  rintro r h' ⟨v, h1, rfl⟩
  refine ⟨v, h1, ?_⟩
  cases (parseM s).isSome <;> rfl

theorem rep_len (n : Nat) (s : Str) : (List.replicate n s).length = n := List.length_replicate
theorem rep_mem {n : Nat} {s x : Str} (h : x ∈ List.replicate n s) : x = s := List.eq_of_mem_replicate h
theorem splitC_parse_len (s : Str) : ((parseM s).getD []).length ≤ s.length + 1 := by
  unfold parseM
  split
  · exact Nat.zero_le _
  · split
    · have := splitC_len 44 s
      have h2 : s.count 44 ≤ s.length := List.count_le_length
      show (splitC 44 s).length ≤ _
      omega
    · exact Nat.zero_le _

theorem sameT_L (ga gb : Nat) (a : List Str) (ha : a.length ≤ 1000000000000) : PureL Tryz.prog F_lexiconref00_SameTexts [.isl ga (tx a), .isl gb (tx a)] (.bool true) := by
  have := same_L ga gb a a ha ha
  rwa [beq_self_eq_true] at this
theorem wholeT_L (g i : Nat) (l : List Str) (h : Hp) (hi : h i = some (.row Ts (tx (l ++ [own, own])))) (hl : l.length ≤ 1000000) :
    CallL Tryz.prog F_lexiconref00_WholeTexts [.slc i 0 l.length (some (l.length + 2)), .isl g (tx l)] h fun r h' => r = .ret (.bool true) ∧ h' = h := by
  have := WholeTexts_L g i l l h hi hl hl
  rwa [beq_self_eq_true] at this

/-- The end of the law: the book, and what Print made is read again. -/
theorem textsEnd (l P : List Str) (sl : l.length ≤ 400) (sll : ∀ s ∈ l, s.length ≤ 120000) (hPl : P.length ≤ 1000000) (H6 : Hp) (v1 v2 : AV) (hv1 : v1 = .nils ∨ ∃ i n c, v1 = .slc i 0 n c) (hv2 : v2 = .nils ∨ ∃ i n c, v2 = .slc i 0 n c) (own5 : OwnLL Ts H6 [v1, v2] [tx P, tx P])
    (e : Env) (hd : e.ds = []) (hs : Has e [(1, .isl 0 (tx l)), (6, v1), (8, v2), (15, .str (printS l)), (16, no160 (l.all isPath))]) :
    LCode Tryz.prog false (.seq (.ops A_lexiconlaw16_MaskTexts_15) (.seq (.ops A_lexiconlaw16_MaskTexts_16) (.seq (.ops A_lexiconlaw16_MaskTexts_17) (.seq (.seq (.ops A_lexiconlaw16_MaskTexts_18) (.cond (.t 132) (.seq (.ops A_lexiconlaw16_MaskTexts_19) (.seq (.ops A_lexiconlaw16_MaskTexts_20) (.seq (.ops A_lexiconlaw16_MaskTexts_21) (.cond (.t 146) (.seq (.ops [o_ 4 (.mov (.c (.bool false)))]) .ret) .skip)))) .skip)) (.seq (.ops A_lexiconlaw16_MaskTexts_22) .ret))))) (EndQ R_lexiconlaw16_MaskTexts fun r _ => r = .ret (.bool true)) e H6 := by
  obtain ⟨n6, g6, rfl⟩ := hs.out hd
  clear hd hs
  have pp := parse_print (l := l)
  refine ⟨_, rfl, rfl, rfl, fun B hB => ?_⟩
  have bk0 : Bk H6 B (H6.set B (.row TB [bookC .nils])) [] := ⟨hB.1, .nils, Hp.set_same _ _ _, (fun e => by cases e), (Gr.refl H6).set hB.1 _, .inl ⟨rfl, rfl⟩⟩
  refine (Book_Texts_L H6 _ B v1 [] bk0 hv1 (by simp)).mono ?_
  rintro r H7 ⟨rfl, bk1⟩
  refine (Book_Texts_L H6 _ B v2 [v1] bk1 hv2 (by simp)).mono ?_
  rintro r H8 ⟨rfl, bk2⟩
  have fin : ∀ H, Gr H8 H → CallL Tryz.prog F_lexiconref00_Book_Own [.ptr B 0 0] H fun r _ => r = .ret (.bool true) := fun H g =>
    Book_Own_L H6 H B [v1, v2] [P, P] (bk2.keep g) own5 (by simp) (by simp) fun d hd => by
      have : d = P := by simpa using hd
      rw [this]; omega
  cases hall : l.all isPath with
  | false =>
    refine s_eq (fun h => by cases h) (fun _ => ?_)
    refine (fin H8 (Gr.refl _)).mono ?_
    rintro r H9 rfl
    exact ⟨rfl, rfl⟩
  | true =>
    refine s_eq (fun _ => ?_) (fun h => absurd rfl h)
    have hps : printS l = joinC 44 l := by rw [printS, hall]; rfl
    have hjl := joinC_len (c := 44) (B := 120000) sll
    have hjm : (joinC 44 l).length ≤ 400 * 120001 := Nat.le_trans hjl (Nat.mul_le_mul_right _ sl)
    have ps : CallL Tryz.prog F_mask_Parse [.str (printS l)] H8 fun r h' => ∃ v, OwnB Ts H8 h' (.ret v) (tx l) ∧ r = .ret (.tup [v, no160 true]) := by
      have := Parse_L2 (printS l) (by rw [hps]; omega) H8
      rw [hps, pp hall] at this
      rw [hps]; exact this
    refine ps.mono ?_
    rintro r H9 ⟨v3, o3, rfl⟩
    refine ⟨_, rfl, _, rfl, ?_⟩
    refine CallL.lentP (sameT_L 1 0 l (by omega)) (FzL.two (o3.fz (noidss_tx _ _)) (.same _ (noid_isl _ _ _ rfl))) rfl ?_
    refine s_ne (fun h => absurd rfl h) (fun _ => ?_)
    refine (fin H9 o3.1).mono ?_
    rintro r H10 rfl
    exact ⟨rfl, rfl⟩

/-- All that is held against one another is the same. -/
theorem textsCmp (l P : List Str) (E : Bool) (V : List Str) (sl : l.length ≤ 400) (sll : ∀ s ∈ l, s.length ≤ 120000) (hPl : P.length ≤ 1000000) (H6 : Hp) (v1 v2 : AV) (hv1 : v1 = .nils ∨ ∃ i n c, v1 = .slc i 0 n c) (hv2 : v2 = .nils ∨ ∃ i n c, v2 = .slc i 0 n c) (own5 : OwnLL Ts H6 [v1, v2] [tx P, tx P])
    (e : Env) (hd : e.ds = []) (hs : Has e [(1, .isl 0 (tx l)), (5, .bool true), (6, v1), (7, no160 E), (8, v2), (11, no160 E), (12, .bool true), (13, .bool true), (15, .str (printS l)), (16, no160 (l.all isPath)), (17, .bool true), (18, .str (printS l)), (19, no160 (l.all isPath)), (20, .str (printS V)), (21, no160 (V.all isPath)), (22, .str (printS V)), (23, no160 (V.all isPath))]) :
    LCode Tryz.prog false (.seq (.seq (.ops A_lexiconlaw16_MaskTexts_14) (.cond (.t 122) (.seq (.ops [o_ 4 (.mov (.c (.bool false)))]) .ret) .skip)) (.seq (.ops A_lexiconlaw16_MaskTexts_15) (.seq (.ops A_lexiconlaw16_MaskTexts_16) (.seq (.ops A_lexiconlaw16_MaskTexts_17) (.seq (.seq (.ops A_lexiconlaw16_MaskTexts_18) (.cond (.t 132) (.seq (.ops A_lexiconlaw16_MaskTexts_19) (.seq (.ops A_lexiconlaw16_MaskTexts_20) (.seq (.ops A_lexiconlaw16_MaskTexts_21) (.cond (.t 146) (.seq (.ops [o_ 4 (.mov (.c (.bool false)))]) .ret) .skip)))) .skip)) (.seq (.ops A_lexiconlaw16_MaskTexts_22) .ret)))))) (EndQ R_lexiconlaw16_MaskTexts fun r _ => r = .ret (.bool true)) e H6 := by
  obtain ⟨n6, g6, rfl⟩ := hs.out hd
  clear hd hs
  refine s_then (fun e' h' => h' = H6 ∧ e'.ds = [] ∧ Has e' [(1, .isl 0 (tx l)), (6, v1), (8, v2), (15, .str (printS l)), (16, no160 (l.all isPath))]) ?_ ?_
  · refine s_ne (fun h => absurd rfl h) (fun _ => ?_)
    refine s_sne (fun h => absurd rfl h) (fun _ => ?_)
    refine s_ne (fun h => absurd rfl h) (fun _ => ?_)
    refine s_sne (fun h => absurd rfl h) (fun _ => ?_)
    refine s_ne (fun h => absurd rfl h) (fun _ => ?_)
    exact ⟨rfl, rfl, rfl, rfl, rfl, rfl, rfl, trivial⟩
  · rintro e' h' ⟨rfl, hd, hs⟩
    exact textsEnd l P sl sll hPl h' v1 v2 hv1 hv2 own5 e' hd hs

theorem spoilt_facts (l : List Str) (sl : l.length ≤ 400) (H2 H3 : Hp) (i : Nat) (hi : H2.u i = false) (g3 : Gr H2 H3) (hrow : H3 i = some (.row Ts (tx (l ++ [own, own])))) :
    ∃ V H5, H5 = H3.set i (.row Ts (tx (List.replicate (l.length + 2) spoilt))) ∧ PureL Tryz.prog F_mask_Print [.isl 1 (tx V)] (printV V) ∧ PureL Tryz.prog F_lexiconref16_Print [.isl 1 (tx V)] (printV V) ∧
      FzL anyMark 1 H5 [.slc i 0 l.length (some (l.length + 2))] [.isl 1 (tx V)] ∧ Gr H2 H5 := by
  have sp1 : ∀ x ∈ List.replicate l.length spoilt, x.length ≤ 1000000 := fun x hx => by rw [rep_mem hx]; decide
  have e5 : List.replicate (l.length + 2) spoilt = List.replicate l.length spoilt ++ [spoilt, spoilt] := by rw [← List.replicate_append_replicate]; rfl
  have hrow5 : (H3.set i (.row Ts (tx (List.replicate (l.length + 2) spoilt)))).m i = some (.row Ts (tx (List.replicate l.length spoilt) ++ tx [spoilt, spoilt])) := by
    rw [Hp.set_same, ← tx_app, e5]
  refine ⟨_, _, rfl, Print_L 1 (List.replicate l.length spoilt) (by rw [rep_len]; omega) sp1, rPrint_L 1 (List.replicate l.length spoilt) (by rw [rep_len]; omega) sp1, ?_, g3.set hi _⟩
  have := Fz_tx (g := 1) (c := some (l.length + 2)) hrow5
  rw [rep_len] at this
  exact FzL_one this

/-- The second half of the middle: what is spoilt is printed. -/
theorem textsMid2 (l P : List Str) (E : Bool) (sl : l.length ≤ 400) (sll : ∀ s ∈ l, s.length ≤ 120000) (hPl : P.length ≤ 1000000) (H2 H3 : Hp) (v1 v2 : AV) (hv1 : v1 = .nils ∨ ∃ i n c, v1 = .slc i 0 n c) (hv2 : v2 = .nils ∨ ∃ i n c, v2 = .slc i 0 n c) (own2 : OwnLL Ts H2 [v1, v2] [tx P, tx P])
    (i : Nat) (hi : H2.u i = false) (g3 : Gr H2 H3) (hrow : H3 i = some (.row Ts (tx (l ++ [own, own]))))
    (e : Env) (hd : e.ds = []) (hs : Has e [(1, .isl 0 (tx l)), (5, .bool true), (6, v1), (7, no160 E), (8, v2), (11, no160 E), (12, .bool true), (13, .bool true), (14, .slc i 0 l.length (some (l.length + 2))), (15, .str (printS l)), (16, no160 (l.all isPath)), (17, .bool true), (18, .str (printS l)), (19, no160 (l.all isPath))]) :
    LCode Tryz.prog false (.seq (.ops A_lexiconlaw16_MaskTexts_11) (.seq (.ops A_lexiconlaw16_MaskTexts_12) (.seq (.ops A_lexiconlaw16_MaskTexts_13) (.seq (.seq (.ops A_lexiconlaw16_MaskTexts_14) (.cond (.t 122) (.seq (.ops [o_ 4 (.mov (.c (.bool false)))]) .ret) .skip)) (.seq (.ops A_lexiconlaw16_MaskTexts_15) (.seq (.ops A_lexiconlaw16_MaskTexts_16) (.seq (.ops A_lexiconlaw16_MaskTexts_17) (.seq (.seq (.ops A_lexiconlaw16_MaskTexts_18) (.cond (.t 132) (.seq (.ops A_lexiconlaw16_MaskTexts_19) (.seq (.ops A_lexiconlaw16_MaskTexts_20) (.seq (.ops A_lexiconlaw16_MaskTexts_21) (.cond (.t 146) (.seq (.ops [o_ 4 (.mov (.c (.bool false)))]) .ret) .skip)))) .skip)) (.seq (.ops A_lexiconlaw16_MaskTexts_22) .ret))))))))) (EndQ R_lexiconlaw16_MaskTexts fun r _ => r = .ret (.bool true)) e H3 := by
  obtain ⟨n2, g2, rfl⟩ := hs.out hd
  clear hd hs
  obtain ⟨V, H5, hH5, pq, rq, fz5, g5⟩ := spoilt_facts l sl H2 H3 i hi g3 hrow
  refine s_then3 (fun e' h' => h' = H5 ∧ e'.ds = [] ∧ Has e' [(1, .isl 0 (tx l)), (5, .bool true), (6, v1), (7, no160 E), (8, v2), (11, no160 E), (12, .bool true), (13, .bool true), (14, .slc i 0 l.length (some (l.length + 2))), (15, .str (printS l)), (16, no160 (l.all isPath)), (17, .bool true), (18, .str (printS l)), (19, no160 (l.all isPath)), (20, .str (printS V)), (21, no160 (V.all isPath)), (22, .str (printS V)), (23, no160 (V.all isPath))]) ?_ ?_
  · refine (SpoilTexts_L i l.length (l.length + 2) (l ++ [own, own]) H3 hrow (by simp) (by omega) (by omega)).mono ?_
    rintro r H' ⟨rfl, h5⟩
    rw [← hH5] at h5
    subst h5
    refine CallL.lentP pq fz5 rfl ?_
    refine ⟨_, rfl, _, rfl, ?_⟩
    refine CallL.lentP rq fz5 rfl ?_
    refine ⟨_, rfl, _, rfl, ?_⟩
    exact ⟨rfl, rfl, rfl, rfl, rfl, rfl, rfl, rfl, rfl, rfl, rfl, rfl, rfl, rfl, rfl, rfl, rfl, rfl, rfl, rfl, trivial⟩
  · rintro e' h' ⟨rfl, hd, hs⟩
    obtain ⟨n3, g3, rfl⟩ := hs.out hd
    exact textsCmp l P E V (by omega) sll (by omega) _ v1 v2 hv1 hv2 (own2.gr g5) _ rfl ⟨rfl, rfl, rfl, rfl, rfl, rfl, rfl, rfl, rfl, rfl, rfl, rfl, rfl, rfl, rfl, rfl, rfl, trivial⟩

/-- The middle of the law: what is printed. -/
theorem textsMid (l P : List Str) (E : Bool) (sl : l.length ≤ 400) (sll : ∀ s ∈ l, s.length ≤ 120000) (hPl : P.length ≤ 1000000) (H2 : Hp) (v1 v2 : AV) (hv1 : v1 = .nils ∨ ∃ i n c, v1 = .slc i 0 n c) (hv2 : v2 = .nils ∨ ∃ i n c, v2 = .slc i 0 n c) (own2 : OwnLL Ts H2 [v1, v2] [tx P, tx P])
    (e : Env) (hd : e.ds = []) (hs : Has e [(1, .isl 0 (tx l)), (5, .bool true), (6, v1), (7, no160 E), (8, v2), (11, no160 E), (12, .bool true), (13, .bool true)]) :
    LCode Tryz.prog false (.seq (.ops A_lexiconlaw16_MaskTexts_7) (.seq (.ops A_lexiconlaw16_MaskTexts_8) (.seq (.ops A_lexiconlaw16_MaskTexts_9) (.seq (.ops A_lexiconlaw16_MaskTexts_10) (.seq (.ops A_lexiconlaw16_MaskTexts_11) (.seq (.ops A_lexiconlaw16_MaskTexts_12) (.seq (.ops A_lexiconlaw16_MaskTexts_13) (.seq (.seq (.ops A_lexiconlaw16_MaskTexts_14) (.cond (.t 122) (.seq (.ops [o_ 4 (.mov (.c (.bool false)))]) .ret) .skip)) (.seq (.ops A_lexiconlaw16_MaskTexts_15) (.seq (.ops A_lexiconlaw16_MaskTexts_16) (.seq (.ops A_lexiconlaw16_MaskTexts_17) (.seq (.seq (.ops A_lexiconlaw16_MaskTexts_18) (.cond (.t 132) (.seq (.ops A_lexiconlaw16_MaskTexts_19) (.seq (.ops A_lexiconlaw16_MaskTexts_20) (.seq (.ops A_lexiconlaw16_MaskTexts_21) (.cond (.t 146) (.seq (.ops [o_ 4 (.mov (.c (.bool false)))]) .ret) .skip)))) .skip)) (.seq (.ops A_lexiconlaw16_MaskTexts_22) .ret))))))))))))) (EndQ R_lexiconlaw16_MaskTexts fun r _ => r = .ret (.bool true)) e H2 := by
  obtain ⟨n2, g2, rfl⟩ := hs.out hd
  clear hd hs
  have pr := rPrint_L 0 l (by omega) fun x hx => by have := sll x hx; omega
  have pr1 := Print_L 1 l (by omega) fun x hx => by have := sll x hx; omega
  refine s_then4 (fun e' h' => ∃ i, H2.u i = false ∧ Gr H2 h' ∧ h' i = some (.row Ts (tx (l ++ [own, own]))) ∧ e'.ds = [] ∧ Has e' [(1, .isl 0 (tx l)), (5, .bool true), (6, v1), (7, no160 E), (8, v2), (11, no160 E), (12, .bool true), (13, .bool true), (14, .slc i 0 l.length (some (l.length + 2))), (15, .str (printS l)), (16, no160 (l.all isPath)), (17, .bool true), (18, .str (printS l)), (19, no160 (l.all isPath))]) ?_ ?_
  · refine (LentTexts_L 0 l H2 (by omega)).mono ?_
    rintro r H3 ⟨i, rfl, hi, g3, hrow⟩
    have hrow' : H3 i = some (.row Ts (tx l ++ tx [own, own])) := by rw [hrow, tx_app]
    refine CallL.lentP pr1 (FzL_one (Fz_tx hrow')) rfl ?_
    refine ⟨_, rfl, _, rfl, ?_⟩
    refine (wholeT_L 0 i l H3 hrow (by omega)).mono ?_
    rintro r H4 ⟨rfl, rfl⟩
    refine pr.use ?_
    refine ⟨_, rfl, _, rfl, ?_⟩
    exact ⟨i, hi, g3, hrow, rfl, rfl, rfl, rfl, rfl, rfl, rfl, rfl, rfl, rfl, rfl, rfl, rfl, rfl, rfl, trivial⟩
  · rintro e' h' ⟨i, hi, g3, hrow, hd, hs⟩
    exact textsMid2 l P E (by omega) sll (by omega) H2 h' v1 v2 hv1 hv2 own2 i hi g3 hrow e' hd hs

theorem MaskTexts_L (s : Str) (l : List Str) (hs : s.length ≤ 1000000000000000) (hl : l.length ≤ 1000000000000000) (hll : ∀ s ∈ l, s.length ≤ 1000000000000000) (known : PureL Tryz.prog 6 [] (.bool true)) :
    CallL Tryz.prog F_lexiconlaw16_MaskTexts [.str s, .isl 0 (tx l)] Hp.nil fun r _ => r = .ret (.bool true) := by
  refine K_lexiconlaw16_MaskTexts (md := false) ?_
  refine s_then2 (fun e' h' => h' = Hp.nil ∧ l.length ≤ 400 ∧ (∀ s ∈ l, s.length ≤ 120000) ∧ s.length ≤ 120000 ∧ e'.ds = [] ∧ Has e' [(0, .str s), (1, .isl 0 (tx l))]) ?_ ?_
  · refine s_lt (fun _ => ⟨rfl, rfl⟩) (fun h1 => ?_)
    refine CallL.lentP (many_L 0 1 l [] hl (by simp) hll (by simp)) (FzL.two (.same _ (noid_isl _ _ _ rfl)) (.nilsI 1)) rfl ?_
    cases h2 : manyB l []
    case true => exact ⟨rfl, rfl⟩
    obtain ⟨⟨sl, sll⟩, _⟩ := many_small h2
    exact ⟨rfl, sl, sll, by omega, rfl, rfl, rfl, trivial⟩
  rintro e' h' ⟨rfl, sl, sll, hs2, hd, hs⟩
  obtain ⟨n0, g0, rfl⟩ := hs.out hd
  clear hd hs
  have hPl := splitC_parse_len s
  have rp := rParse_L s (by omega)
  obtain ⟨P, hP⟩ : ∃ P, P = (parseM s).getD [] := ⟨_, rfl⟩
  obtain ⟨E, hE⟩ : ∃ E, E = (parseM s).isSome := ⟨_, rfl⟩
  rw [parseV, ← hP, ← hE] at rp
  have ps : ∀ h, CallL Tryz.prog F_mask_Parse [.str s] h fun r h' => ∃ v, OwnB Ts h h' (.ret v) (tx P) ∧ r = .ret (.tup [v, no160 E]) := fun h => by
    rw [hP, hE]; exact Parse_L2 s (by omega) h
  rw [← hP] at hPl
  clear hP hE
  refine s_then4 (fun e' h' => ∃ v1 v2, (v1 = .nils ∨ ∃ i n c, v1 = .slc i 0 n c) ∧ (v2 = .nils ∨ ∃ i n c, v2 = .slc i 0 n c) ∧ OwnLL Ts h' [v1, v2] [tx P, tx P] ∧ Fz anyMark 1 h' v1 (.isl 1 (tx P)) ∧ Fz anyMark 1 h' v2 (.isl 1 (tx P)) ∧
      e'.ds = [] ∧ Has e' [(1, .isl 0 (tx l)), (5, .bool true), (6, v1), (7, no160 E), (8, v2), (10, .isl 0 (tx P)), (11, no160 E)]) ?_ ?_
  · refine known.use ?_
    refine (ps _).mono ?_
    rintro r H1 ⟨v1, o1, rfl⟩
    refine ⟨_, rfl, _, rfl, ?_⟩
    refine (ps _).mono ?_
    rintro r H2 ⟨v2, o2, rfl⟩
    refine ⟨_, rfl, _, rfl, ?_⟩
    refine rp.use ?_
    refine ⟨_, rfl, _, rfl, ?_⟩
    exact ⟨v1, v2, o1.shape, o2.shape, ((OwnLL.nil Ts Hp.nil).snoc o1).snoc o2, Fz.gr o2.1 (o1.fz (noidss_tx _ _)), o2.fz (noidss_tx _ _), rfl, rfl, rfl, rfl, rfl, rfl, rfl, rfl, trivial⟩
  rintro e' h' ⟨v1, v2, hv1, hv2, own2, f1, f2, hd, hs⟩
  obtain ⟨n1, g1, rfl⟩ := hs.out hd
  clear hd hs
  refine s_then2 (fun e' h2 => h2 = h' ∧ e'.ds = [] ∧ Has e' [(1, .isl 0 (tx l)), (5, .bool true), (6, v1), (7, no160 E), (8, v2), (11, no160 E), (12, .bool true), (13, .bool true)]) ?_ ?_
  · refine CallL.lentP (sameT_L 1 0 P (by omega)) (FzL.two f1 (.same _ (noid_isl _ _ _ rfl))) rfl ?_
    refine CallL.lentP (sameT_L 1 0 P (by omega)) (FzL.two f2 (.same _ (noid_isl _ _ _ rfl))) rfl ?_
    exact ⟨rfl, rfl, rfl, rfl, rfl, rfl, rfl, rfl, rfl, rfl, trivial⟩
  rintro e' h2 ⟨rfl, hd, hs⟩
  exact textsMid l P E (by omega) sll (by omega) h2 v1 v2 hv1 hv2 own2 e' hd hs
end Go.Proofs.YtibdeeejjbmgcaaGreatDoor

/-
  Contracts: the law MaskSets.
-/
namespace Go.Proofs.YtibdeeejjbmgcaaGreatDoor
open Go.L

/-- A list that is lent, in whatever state. -/
structure Lnt (H : Hp) (i : Nat) (l : List Str) : Prop where
  row : ∃ w : List Str, w.length = 2 ∧ H i = some (.row Ts (tx (l ++ w)))
theorem Lnt.fz {H : Hp} {i : Nat} {l : List Str} (k : Lnt H i l) : Fz anyMark 1 H (.slc i 0 l.length (some (l.length + 2))) (.isl 1 (tx l)) := by
  obtain ⟨w, _, h⟩ := k.row
  exact Fz_tx (rest := tx w) (by rw [h, tx_app])
theorem Lnt.gr {H H' : Hp} {i : Nat} {l : List Str} (k : Lnt H i l) (g : Gr H H') : Lnt H' i l := by
  obtain ⟨w, hw, h⟩ := k.row
  exact ⟨w, hw, g.blk h⟩
theorem Lnt.used {H : Hp} {i : Nat} {l : List Str} (k : Lnt H i l) : H.u i = true := by
  obtain ⟨w, _, h⟩ := k.row
  exact Hp.used h

theorem NormalO (H : Hp) (i : Nat) (l : List Str) (k : Lnt H i l) (hl : l.length ≤ 1000) (hp : ∀ p ∈ l, p.length ≤ 1000000000000000) :
    CallL Tryz.prog F_mask_Normal [.slc i 0 l.length (some (l.length + 2))] H fun r h' => ∃ v, r = .ret v ∧ OwnB Ts H h' (.ret v) (tx (normal l)) := by
  refine (CallL.lentOwn (FzL_one k.fz) (Normal_L 1 l Hp.nil (by omega) hp) (fun b => tx_ren _ b) (m0ss_tx _)).mono fun r h' hr => ?_
  obtain ⟨v, rfl⟩ := hr.ret
  exact ⟨v, rfl, hr⟩
theorem UnionO (H : Hp) (i j : Nat) (a b : List Str) (k : Lnt H i a) (m : Lnt H j b) (hal : a.length ≤ 1000) (hbl : b.length ≤ 1000) (hp : ∀ p ∈ a ++ b, p.length ≤ 1000000000000000) :
    CallL Tryz.prog F_mask_Union [.slc i 0 a.length (some (a.length + 2)), .slc j 0 b.length (some (b.length + 2))] H fun r h' => ∃ v, r = .ret v ∧ OwnB Ts H h' (.ret v) (tx (normal (a ++ b))) := by
  refine (CallL.lentOwn (FzL.two k.fz m.fz) (Union_L 1 1 a b Hp.nil hal hbl hp) (fun b => tx_ren _ b) (m0ss_tx _)).mono fun r h' hr => ?_
  obtain ⟨v, rfl⟩ := hr.ret
  exact ⟨v, rfl, hr⟩
theorem MeetO (H : Hp) (i j : Nat) (a b : List Str) (k : Lnt H i a) (m : Lnt H j b) (hal : a.length ≤ 1000) (hbl : b.length ≤ 1000) (hp : ∀ p ∈ a ++ b, p.length ≤ 1000000000000000) :
    CallL Tryz.prog F_mask_Meet [.slc i 0 a.length (some (a.length + 2)), .slc j 0 b.length (some (b.length + 2))] H fun r h' => ∃ v, r = .ret v ∧ OwnB Ts H h' (.ret v) (tx (normal (a.filter (cov b) ++ b.filter (cov a)))) := by
  refine (CallL.lentOwn (FzL.two k.fz m.fz) (Meet_L 1 1 a b Hp.nil hal hbl hp) (fun b => tx_ren _ b) (m0ss_tx _)).mono fun r h' hr => ?_
  obtain ⟨v, rfl⟩ := hr.ret
  exact ⟨v, rfl, hr⟩

abbrev nN (a : List Str) : List Str := normal a
abbrev nU (a b : List Str) : List Str := normal (a ++ b)
abbrev nM (a b : List Str) : List Str := normal (a.filter (cov b) ++ b.filter (cov a))
def six (a b : List Str) : List (List Str) := [nN a, nU a b, nM a b, nN a, nU a b, nM a b]

theorem sets_len {a b : List Str} (ha : a.length ≤ 400) (hb : b.length ≤ 400) : ∀ d ∈ six a b, d.length ≤ 1000 := fun d hd => by
  have h1 : (nN a).length ≤ a.length := normal_len a
  have h2 : (nU a b).length ≤ (a ++ b).length := normal_len (a ++ b)
  have h3 : (nM a b).length ≤ (a.filter (cov b) ++ b.filter (cov a)).length := normal_len _
  have h4 := List.length_filter_le (cov b) a
  have h5 := List.length_filter_le (cov a) b
  rw [List.length_append] at h2 h3
  simp only [six, List.mem_cons, List.mem_nil_iff, or_false] at hd
  rcases hd with rfl | rfl | rfl | rfl | rfl | rfl <;> omega

theorem six_get {a b : List Str} {i : Nat} (hi : i < 6) : ∃ d, (six a b)[i]? = some d ∧ [nN a, nU a b, nM a b][i % 3]? = some d := by
  match i with
  | 0 => exact ⟨_, rfl, rfl⟩
  | 1 => exact ⟨_, rfl, rfl⟩
  | 2 => exact ⟨_, rfl, rfl⟩
  | 3 => exact ⟨_, rfl, rfl⟩
  | 4 => exact ⟨_, rfl, rfl⟩
  | 5 => exact ⟨_, rfl, rfl⟩
  | i + 6 => omega

/-- The loop: each is the document's; each comes into the book. -/
theorem setsLoop (a b : List Str) (ha : a.length ≤ 400) (hb : b.length ≤ 400) (H6 H : Hp) (us : List AV) (hus : us.length = 6) (ho : OwnLL Ts H6 us (txx (six a b))) (hsh : ∀ u ∈ us, u = .nils ∨ ∃ i n c, u = .slc i 0 n c) (L W B : Nat)
    (hL : H6 L = some (.row Tl (one us))) (hW : H6 W = some (.row Tl [[.isl 0 (tx (nN a))], [.isl 0 (tx (nU a b))], [.isl 0 (tx (nM a b))]])) (bk : Bk H6 B H []) (e : Env) (Q : Xit → Env → Hp → Prop) (hd : e.ds = [])
    (S : List (Nat × AV)) (hs : Has e ((10, .slc L 0 6 (some 6)) :: (14, .slc W 0 3 (some 3)) :: (15, .ptr B 0 0) :: (16, .int .i64 (0 : Nat)) :: [(0, .isl 0 (tx a)), (2, S.head!.2), (7, .bool true), (11, S.tail.head!.2), (12, .bool true), (13, .bool true)]))
    (hQ : ∀ e' H', e'.ds = [] → Has e' [(15, .ptr B 0 0), (0, .isl 0 (tx a)), (2, S.head!.2), (7, .bool true), (11, S.tail.head!.2), (12, .bool true), (13, .bool true)] → Bk H6 B H' us → Q (.exit 0) e' H') : LCode Tryz.prog false (.loop A_lexiconlaw16_MaskSets_17) Q e H := by
  generalize S.head!.2 = q2 at hs hQ
  generalize S.tail.head!.2 = q11 at hs hQ
  refine s_loop 6 (fun k (s : Hp) => k ≤ 6 ∧ Bk H6 B s (us.take k)) (fun k _ => [(10, .slc L 0 6 (some 6)), (14, .slc W 0 3 (some 3)), (15, .ptr B 0 0), (16, .int .i64 k), (0, .isl 0 (tx a)), (2, q2), (7, .bool true), (11, q11), (12, .bool true), (13, .bool true)]) (fun _ s => s) H ⟨Nat.zero_le _, bk⟩ rfl hd hs (fun k s hI => hI.1) ?_
  rintro k H1 n0 g0 hk ⟨_, hbk⟩
  have hg : Gr H6 H1 := by
    obtain ⟨v, _, _, h⟩ := hbk.at_
    exact h.1
  refine s_lt (fun h1 => ?_) (fun h1 => ?_)
  · have hk6 : k < 6 := by omega
    obtain ⟨u, hu⟩ := get_lt (l := us) (k := k) (by omega)
    obtain ⟨d, hd1, hd2⟩ := six_get (a := a) (b := b) hk6
    have hdl := sets_len ha hb d (List.mem_of_getElem? hd1)
    have hLr : (one us)[0 + k]? = some [u] := by rw [Nat.zero_add]; exact one_get hu
    have hWr : [[AV.isl 0 (tx (nN a))], [.isl 0 (tx (nU a b))], [.isl 0 (tx (nM a b))]][0 + k % 3]? = some [.isl 0 (tx d)] := by
      have : [[AV.isl 0 (tx (nN a))], [.isl 0 (tx (nU a b))], [.isl 0 (tx (nM a b))]] = [nN a, nU a b, nM a b].map fun d => [AV.isl 0 (tx d)] := rfl
      rw [this, Nat.zero_add, List.getElem?_map, hd2]; rfl
    have hfz := ((ho.own k u _ hu (txx_get hd1)).gr hg).fz (p := anyMark) (g := 1) (noidss_tx _ _)
    refine s_blk (id := 1) (fun e' h' => e'.ds = [] ∧ Bk H6 B h' (us.take (k + 1)) ∧ Has e' [(10, .slc L 0 6 (some 6)), (14, .slc W 0 3 (some 3)), (15, .ptr B 0 0), (16, .int .i64 k), (0, .isl 0 (tx a)), (2, q2), (7, .bool true), (11, q11), (12, .bool true), (13, .bool true)]) ?_ ?_
    · refine ⟨k, rfl, hk6, ⟨_, hg.blk hL⟩, ?_⟩
      refine ⟨_, _, _, _, hg.blk hL, hLr, rfl, ?_⟩
      refine ⟨by decide, s_i ?_⟩
      refine ⟨k % 3, Int.ofNat_tmod k 3 |>.symm, Nat.mod_lt _ (by decide), ⟨_, hg.blk hW⟩, ?_⟩
      refine ⟨_, _, _, _, hg.blk hW, hWr, rfl, ?_⟩
      refine CallL.lentP (sameT_L 1 0 d (by omega)) (FzL.two hfz (.same _ (noid_isl _ _ _ rfl))) rfl ?_
      refine ⟨k, rfl, hk6, ⟨_, hg.blk hL⟩, ?_⟩
      refine ⟨_, _, _, _, hg.blk hL, hLr, rfl, ?_⟩
      refine (Book_Texts_L H6 H1 B u (us.take k) hbk (hsh u (List.mem_of_getElem? hu)) (by rw [List.length_take]; omega)).mono ?_
      rintro r H2 ⟨rfl, hbk2⟩
      rw [← List.take_succ_of_get hu] at hbk2
      exact ⟨rfl, hbk2, rfl, rfl, rfl, rfl, rfl, rfl, rfl, rfl, rfl, rfl, trivial⟩
    · rintro e' h' ⟨hd3, hbk3, hs3⟩
      obtain ⟨n3, g3, rfl⟩ := hs3.out hd3
      refine s_nat (k + 1) (by omega) (by omega) ?_
      exact ⟨h', by omega, ⟨by omega, hbk3⟩, rfl, rfl, rfl, rfl, rfl, rfl, rfl, rfl, rfl, rfl, rfl, rfl, trivial⟩
  · obtain rfl : k = 6 := by omega
    rw [List.take_of_length_le (by omega)] at hbk
    exact hQ _ _ rfl ⟨rfl, rfl, rfl, rfl, rfl, rfl, rfl, trivial⟩ hbk
end Go.Proofs.YtibdeeejjbmgcaaGreatDoor

/-
  Contracts: the law MaskSets, put together.
-/
namespace Go.Proofs.YtibdeeejjbmgcaaGreatDoor
open Go.L

theorem Lnt.mk2 {H : Hp} {i : Nat} {l : List Str} {x y : Str} (h : H i = some (.row Ts (tx (l ++ [x, y])))) : Lnt H i l := ⟨[x, y], rfl, h⟩

theorem sets4 (a b : List Str) (q : Str) (ha : a.length ≤ 400) (hb : b.length ≤ 400) (hp : ∀ p ∈ a ++ b, p.length ≤ 1000000000000000) (H0 : Hp) (i j : Nat) (ki : Lnt H0 i a) (kj : Lnt H0 j b) (e : Env) (Q : Xit → Env → Hp → Prop) (hd : e.ds = [])
    (hs : Has e [(0, .isl 0 (tx a)), (1, .isl 0 (tx b)), (2, .str q), (7, .bool true), (8, .slc i 0 a.length (some (a.length + 2))), (9, .slc j 0 b.length (some (b.length + 2)))])
    (hQ : ∀ e' H us L, us.length = 6 → OwnN Ts H0 H us (txx (six a b)) → H L = some (.row Tl (one us)) → H0.u L = false → e'.ds = [] →
      Has e' [(0, .isl 0 (tx a)), (1, .isl 0 (tx b)), (2, .str q), (7, .bool true), (8, .slc i 0 a.length (some (a.length + 2))), (9, .slc j 0 b.length (some (b.length + 2))), (10, .slc L 0 6 (some 6))] → Q .normal e' H) :
    LCode Tryz.prog false (.ops A_lexiconlaw16_MaskSets_4) Q e H0 := by
  obtain ⟨n0, g0, rfl⟩ := hs.out hd
  clear hd hs
  have hpa : ∀ p ∈ a, p.length ≤ 1000000000000000 := fun p h => hp p (List.mem_append_left _ h)
  refine (NormalO H0 i a ki (by omega) hpa).mono ?_
  rintro r H1 ⟨v1, rfl, o1⟩
  have n1 := (OwnN.nil Ts H0).snoc o1
  refine (UnionO H1 i j a b (ki.gr n1.gr) (kj.gr n1.gr) (by omega) (by omega) hp).mono ?_
  rintro r H2 ⟨v2, rfl, o2⟩
  have n2 := n1.snoc o2
  refine (MeetO H2 i j a b (ki.gr n2.gr) (kj.gr n2.gr) (by omega) (by omega) hp).mono ?_
  rintro r H3 ⟨v3, rfl, o3⟩
  have n3 := n2.snoc o3
  refine (NormalO H3 i a (ki.gr n3.gr) (by omega) hpa).mono ?_
  rintro r H4 ⟨v4, rfl, o4⟩
  have n4 := n3.snoc o4
  refine (UnionO H4 i j a b (ki.gr n4.gr) (kj.gr n4.gr) (by omega) (by omega) hp).mono ?_
  rintro r H5 ⟨v5, rfl, o5⟩
  have n5 := n4.snoc o5
  refine (MeetO H5 i j a b (ki.gr n5.gr) (kj.gr n5.gr) (by omega) (by omega) hp).mono ?_
  rintro r H6 ⟨v6, rfl, o6⟩
  have n6 : OwnN Ts H0 H6 [v1, v2, v3, v4, v5, v6] (txx (six a b)) := n5.snoc o6
  clear n1 n2 n3 n4 n5 o1 o2 o3 o4 o5 o6
  refine ⟨_, lay_six rfl rfl rfl rfl rfl rfl n6.shape, fun L hL => ?_⟩
  have g7 : Gr H6 (H6.set L (.row Tl (one [v1, v2, v3, v4, v5, v6]))) := (Gr.refl H6).set hL.1 _
  exact hQ _ _ [v1, v2, v3, v4, v5, v6] L rfl ⟨n6.ll.gr g7, n6.gr.trans g7, n6.new, n6.shape⟩ (Hp.set_same _ _ _) (n6.gr.new hL.1) rfl ⟨rfl, rfl, rfl, rfl, rfl, rfl, rfl, trivial⟩

theorem sets9 (V W : List Str) (q : Str) (hv : V.length ≤ 400) (hw : W.length ≤ 400) (hp : ∀ p ∈ V ++ W, p.length ≤ 1000000000000000) (hq : q.length ≤ 1000000) (H0 : Hp) (i j : Nat) (ki : Lnt H0 i V) (kj : Lnt H0 j W) (x0 x1 x10 x11 : AV) (e : Env) (Q : Xit → Env → Hp → Prop) (hd : e.ds = [])
    (hs : Has e [(0, x0), (1, x1), (2, .str q), (7, .bool true), (8, .slc i 0 V.length (some (V.length + 2))), (9, .slc j 0 W.length (some (W.length + 2))), (10, x10), (11, x11), (12, .bool true)])
    (hQ : ∀ e' H, Gr H0 H → e'.ds = [] → Has e' [(0, x0), (1, x1), (2, .str q), (7, .bool true), (10, x10), (11, x11), (12, .bool true), (13, .bool true)] → Q .normal e' H) :
    LCode Tryz.prog false (.ops A_lexiconlaw16_MaskSets_9) Q e H0 := by
  obtain ⟨n0, g0, rfl⟩ := hs.out hd
  clear hd hs
  have hpv : ∀ p ∈ V, p.length ≤ 1000000000000000 := fun p h => hp p (List.mem_append_left _ h)
  have sl := sets_len (a := V) (b := W) hv hw
  have l1 := sl (nN V) (by simp [six])
  have l2 := sl (nU V W) (by simp [six])
  have l3 := sl (nM V W) (by simp [six])
  refine (NormalO H0 i V ki (by omega) hpv).mono ?_
  rintro r H1 ⟨v1, rfl, o1⟩
  refine CallL.lentP (rNormal_L 1 V (by omega) hpv) (FzL_one (ki.gr o1.1).fz) (noid_isl mark0 0 _ rfl) ?_
  refine CallL.lentP (sameT_L 1 0 (nN V) (by omega)) (FzL.two (o1.fz (noidss_tx _ _)) (.same _ (noid_isl _ _ _ rfl))) rfl ?_
  refine (UnionO H1 i j V W (ki.gr o1.1) (kj.gr o1.1) (by omega) (by omega) hp).mono ?_
  rintro r H2 ⟨v2, rfl, o2⟩
  have g2 := o1.1.trans o2.1
  refine CallL.lentP (rUnion_L 1 1 V W (by omega) (by omega) hp) (FzL.two (ki.gr g2).fz (kj.gr g2).fz) (noid_isl mark0 0 _ rfl) ?_
  refine CallL.lentP (sameT_L 1 0 (nU V W) (by omega)) (FzL.two (o2.fz (noidss_tx _ _)) (.same _ (noid_isl _ _ _ rfl))) rfl ?_
  refine (MeetO H2 i j V W (ki.gr g2) (kj.gr g2) (by omega) (by omega) hp).mono ?_
  rintro r H3 ⟨v3, rfl, o3⟩
  have g3 := g2.trans o3.1
  refine CallL.lentP (rMeet_L 1 1 V W (by omega) (by omega) hp) (FzL.two (ki.gr g3).fz (kj.gr g3).fz) (noid_isl mark0 0 _ rfl) ?_
  refine CallL.lentP (sameT_L 1 0 (nM V W) (by omega)) (FzL.two (o3.fz (noidss_tx _ _)) (.same _ (noid_isl _ _ _ rfl))) rfl ?_
  have c1 : PureL Tryz.prog F_mask_Covers [.isl 1 (tx V), .str q] (.bool (cov V q)) := Covers_L 1 V q (by omega)
  refine CallL.lentP c1 (FzL.two (ki.gr g3).fz (.same _ rfl)) rfl ?_
  refine CallL.lentP (rCovers_L 1 V q (by omega) hpv (by omega)) (FzL.two (ki.gr g3).fz (.same _ rfl)) rfl ?_
  refine s_c (fun _ => ?_) (fun h => by simp at h)
  exact hQ _ H3 g3 rfl ⟨rfl, rfl, rfl, rfl, rfl, rfl, rfl, rfl, trivial⟩

theorem setsEnd (a b : List Str) (q : Str) (ha : a.length ≤ 400) (hb : b.length ≤ 400) (hp : ∀ p ∈ a ++ b, p.length ≤ 1000000000000000) (hq : q.length ≤ 1000000) (H0 : Hp) (us : List AV) (hus : us.length = 6) (ho : OwnLL Ts H0 us (txx (six a b))) (hsh : ∀ u ∈ us, u = .nils ∨ ∃ i n c, u = .slc i 0 n c) (L : Nat)
    (hL : H0 L = some (.row Tl (one us))) (e : Env) (hd : e.ds = [])
    (hs : Has e [(0, .isl 0 (tx a)), (1, .isl 0 (tx b)), (2, .str q), (7, .bool true), (10, .slc L 0 6 (some 6)), (11, .bool (cov a q)), (12, .bool true), (13, .bool true)]) :
    LCode Tryz.prog false (.seq (.ops A_lexiconlaw16_MaskSets_10) (.seq (.ops A_lexiconlaw16_MaskSets_11) (.seq (.seq (.ops [o_ 16 (.mov (i_ 0))]) (.block 0 (.loop A_lexiconlaw16_MaskSets_17))) (.seq (.ops A_lexiconlaw16_MaskSets_18) .ret)))) (EndQ R_lexiconlaw16_MaskSets fun r _ => r = .ret (.bool true)) e H0 := by
  obtain ⟨n0, g0, rfl⟩ := hs.out hd
  clear hd hs
  have hpa : ∀ p ∈ a, p.length ≤ 1000000000000000 := fun p h => hp p (List.mem_append_left _ h)
  have r1 := rNormal_L 0 a (by omega) hpa
  have r2 := rUnion_L 0 0 a b (by omega) (by omega) hp
  have r3 := rMeet_L 0 0 a b (by omega) (by omega) hp
  have rc := rCovers_L 0 a q (by omega) hpa (by omega)
  refine s_then2 (fun e' h' => ∃ W B h6, Gr H0 h6 ∧ h6 W = some (.row Tl [[.isl 0 (tx (nN a))], [.isl 0 (tx (nU a b))], [.isl 0 (tx (nM a b))]]) ∧ Bk h6 B h' [] ∧ e'.ds = [] ∧
      Has e' [(0, .isl 0 (tx a)), (2, .str q), (7, .bool true), (10, .slc L 0 6 (some 6)), (11, .bool (cov a q)), (12, .bool true), (13, .bool true), (14, .slc W 0 3 (some 3)), (15, .ptr B 0 0)]) ?_ ?_
  · refine r1.use ?_
    refine r2.use ?_
    refine r3.use ?_
    refine ⟨_, rfl, fun W hW => ?_⟩
    refine ⟨_, rfl, rfl, rfl, fun B hB => ?_⟩
    exact ⟨W, B, _, (Gr.refl H0).set hW.1 _, Hp.set_same _ _ _, ⟨hB.1, .nils, Hp.set_same _ _ _, (fun e => by cases e), (Gr.refl _).set hB.1 _, .inl ⟨rfl, rfl⟩⟩, rfl, rfl, rfl, rfl, rfl, rfl, rfl, rfl, rfl, rfl, trivial⟩
  rintro e' h' ⟨W, B, h6, g6, hW, bk, hd, hs⟩
  obtain ⟨n1, g1, rfl⟩ := hs.out hd
  clear hd hs
  refine s_then (fun e' h' => Bk h6 B h' us ∧ e'.ds = [] ∧ Has e' [(15, .ptr B 0 0), (0, .isl 0 (tx a)), (2, .str q), (7, .bool true), (11, .bool (cov a q)), (12, .bool true), (13, .bool true)]) ?_ ?_
  · refine s_blk (id := 0) (fun e' h' => Bk h6 B h' us ∧ e'.ds = [] ∧ Has e' [(15, .ptr B 0 0), (0, .isl 0 (tx a)), (2, .str q), (7, .bool true), (11, .bool (cov a q)), (12, .bool true), (13, .bool true)]) ?_ (fun e' h' h => h)
    exact setsLoop a b ha hb h6 h' us hus (ho.gr g6) hsh L W B (g6.blk hL) hW bk _ _ rfl [(2, .str q), (11, .bool (cov a q))] ⟨rfl, rfl, rfl, rfl, rfl, rfl, rfl, rfl, rfl, rfl, trivial⟩ fun e' H' h1 h2 h3 => ⟨h3, h1, h2⟩
  rintro e' h7 ⟨bk7, hd, hs⟩
  obtain ⟨n2, g2, rfl⟩ := hs.out hd
  clear hd hs
  refine rc.use ?_
  refine s_c (fun _ => ?_) (fun h => by simp at h)
  refine (Book_Own_L h6 h7 B us (six a b) bk7 (ho.gr g6) (fun e => by rw [e] at hus; cases hus) (by omega) (fun d hd => by have := sets_len ha hb d hd; omega)).mono ?_
  rintro r H8 rfl
  exact ⟨rfl, rfl⟩

/-- What is spoilt, as a list that is lent. -/
theorem spoilt_lnt (n : Nat) (H : Hp) (i : Nat) : ∃ V : List Str, V.length = n ∧ (∀ p ∈ V, p.length ≤ 1000000) ∧ Lnt (H.set i (.row Ts (tx (List.replicate (n + 2) spoilt)))) i V := by
  refine ⟨List.replicate n spoilt, rep_len _ _, fun p hp => by rw [rep_mem hp]; decide, [spoilt, spoilt], rfl, ?_⟩
  have e : List.replicate (n + 2) spoilt = List.replicate n spoilt ++ [spoilt, spoilt] := by rw [← List.replicate_append_replicate]; rfl
  rw [Hp.set_same, e]
theorem Lnt.other {H : Hp} {i j : Nat} {l : List Str} (k : Lnt H i l) (h : i ≠ j) (x : Blk) : Lnt (H.set j x) i l := by
  obtain ⟨w, hw, hr⟩ := k.row
  exact ⟨w, hw, (Hp.set_ne h).trans hr⟩

theorem sets58 (a b : List Str) (q : Str) (ha : a.length ≤ 400) (hb : b.length ≤ 400) (H0 H : Hp) (i j : Nat) (hij : i ≠ j) (hi : H0 i = some (.row Ts (tx (a ++ [own, own])))) (hj : H0 j = some (.row Ts (tx (b ++ [own, own])))) (us : List AV) (L : Nat) (hn : OwnN Ts H0 H us (txx (six a b))) (hL : H L = some (.row Tl (one us))) (hL0 : H0.u L = false)
    (e : Env) (Q : Xit → Env → Hp → Prop) (hd : e.ds = [])
    (hs : Has e [(0, .isl 0 (tx a)), (1, .isl 0 (tx b)), (2, .str q), (7, .bool true), (8, .slc i 0 a.length (some (a.length + 2))), (9, .slc j 0 b.length (some (b.length + 2))), (10, .slc L 0 6 (some 6))])
    (hQ : ∀ e' H' V W, V.length = a.length → W.length = b.length → (∀ p ∈ V ++ W, p.length ≤ 1000000) → Lnt H' i V → Lnt H' j W → OwnLL Ts H' us (txx (six a b)) → H' L = some (.row Tl (one us)) → e'.ds = [] →
      Has e' [(0, .isl 0 (tx a)), (1, .isl 0 (tx b)), (2, .str q), (7, .bool true), (8, .slc i 0 a.length (some (a.length + 2))), (9, .slc j 0 b.length (some (b.length + 2))), (10, .slc L 0 6 (some 6)), (11, .bool (cov a q)), (12, .bool true)] → Q .normal e' H') :
    LCode Tryz.prog false (.seq (.ops A_lexiconlaw16_MaskSets_5) (.seq (.ops A_lexiconlaw16_MaskSets_6) (.seq (.ops A_lexiconlaw16_MaskSets_7) (.ops A_lexiconlaw16_MaskSets_8)))) Q e H := by
  obtain ⟨n0, g0, rfl⟩ := hs.out hd
  clear hd hs
  have hi' := hn.gr.blk hi
  have hj' := hn.gr.blk hj
  have ki : Lnt H i a := .mk2 hi'
  have c1 : PureL Tryz.prog F_mask_Covers [.isl 1 (tx a), .str q] (.bool (cov a q)) := Covers_L 1 a q (by omega)
  refine CallL.lentP c1 (FzL.two ki.fz (.same _ rfl)) rfl ?_
  refine (wholeT_L 0 i a H hi' (by omega)).mono ?_
  rintro r H1 ⟨rfl, rfl⟩
  refine (wholeT_L 0 j b H1 hj' (by omega)).mono ?_
  rintro r H2 ⟨rfl, rfl⟩
  obtain ⟨V, hV, hVp, kV⟩ := spoilt_lnt a.length H2 i
  refine (SpoilTexts_L i a.length (a.length + 2) (a ++ [own, own]) H2 hi' (by simp) (by omega) (by omega)).mono ?_
  rintro r H3 ⟨rfl, e3⟩
  rw [← e3] at kV
  have hj3 : H3 j = some (.row Ts (tx (b ++ [own, own]))) := by rw [e3]; exact (Hp.set_ne (Ne.symm hij)).trans hj'
  have ui : ∀ u ∈ us, blkOf u ≠ some i := fun u hu e => by
    have := hn.new u hu i e
    rw [Hp.used hi] at this; cases this
  have uj : ∀ u ∈ us, blkOf u ≠ some j := fun u hu e => by
    have := hn.new u hu j e
    rw [Hp.used hj] at this; cases this
  have o3 : OwnLL Ts H3 us (txx (six a b)) := by rw [e3]; exact hn.ll.set ui _
  have hLi : L ≠ i := fun e => by rw [e, Hp.used hi] at hL0; cases hL0
  have hLj : L ≠ j := fun e => by rw [e, Hp.used hj] at hL0; cases hL0
  have l3 : H3 L = some (.row Tl (one us)) := by rw [e3]; exact (Hp.set_ne hLi).trans hL
  clear e3
  obtain ⟨W, hW, hWp, kW⟩ := spoilt_lnt b.length H3 j
  refine (SpoilTexts_L j b.length (b.length + 2) (b ++ [own, own]) H3 hj3 (by simp) (by omega) (by omega)).mono ?_
  rintro r H4 ⟨rfl, e4⟩
  rw [← e4] at kW
  have kV4 : Lnt H4 i V := by rw [e4]; exact kV.other hij _
  have o4 : OwnLL Ts H4 us (txx (six a b)) := by rw [e4]; exact o3.set uj _
  have l4 : H4 L = some (.row Tl (one us)) := by rw [e4]; exact (Hp.set_ne hLj).trans l3
  refine hQ _ H4 V W hV hW (fun p hp => ?_) kV4 kW o4 l4 rfl ⟨rfl, rfl, rfl, rfl, rfl, rfl, rfl, rfl, rfl, trivial⟩
  rcases List.mem_append.1 hp with h | h
  · exact hVp p h
  · exact hWp p h

theorem MaskSets_L (a b : List Str) (q : Str) (ha : a.length ≤ 1000000000000000) (hal : ∀ s ∈ a, s.length ≤ 1000000000000000) (hb : b.length ≤ 1000000000000000) (hbl : ∀ s ∈ b, s.length ≤ 1000000000000000) (hq : q.length ≤ 1000000000000000) (known : PureL Tryz.prog 6 [] (.bool true)) :
    CallL Tryz.prog F_lexiconlaw16_MaskSets [.isl 0 (tx a), .isl 0 (tx b), .str q] Hp.nil fun r _ => r = .ret (.bool true) := by
  refine K_lexiconlaw16_MaskSets (md := false) ?_
  refine s_then2 (fun e' h' => h' = Hp.nil ∧ a.length ≤ 400 ∧ b.length ≤ 400 ∧ q.length ≤ 120000 ∧ e'.ds = [] ∧ Has e' [(0, .isl 0 (tx a)), (1, .isl 0 (tx b)), (2, .str q)]) ?_ ?_
  · refine s_lt (fun _ => ⟨rfl, rfl⟩) (fun h1 => ?_)
    refine (many_L 0 0 a b ha hb hal hbl).useC (fun _ => ⟨rfl, rfl⟩) (fun h2 => ?_)
    obtain ⟨⟨sa, _⟩, sb, _⟩ := many_small h2
    exact ⟨rfl, sa, sb, by omega, rfl, rfl, rfl, rfl, trivial⟩
  rintro e' h' ⟨rfl, sa, sb, hq2, hd, hs⟩
  obtain ⟨n0, g0, rfl⟩ := hs.out hd
  clear hd hs
  have hp : ∀ p ∈ a ++ b, p.length ≤ 1000000000000000 := fun p h => by
    rcases List.mem_append.1 h with h | h
    · exact hal p h
    · exact hbl p h
  refine s_then3 (fun e' h' => ∃ i j, i ≠ j ∧ h' i = some (.row Ts (tx (a ++ [own, own]))) ∧ h' j = some (.row Ts (tx (b ++ [own, own]))) ∧ e'.ds = [] ∧
      Has e' [(0, .isl 0 (tx a)), (1, .isl 0 (tx b)), (2, .str q), (7, .bool true), (8, .slc i 0 a.length (some (a.length + 2))), (9, .slc j 0 b.length (some (b.length + 2)))]) ?_ ?_
  · refine known.use ?_
    refine (LentTexts_L 0 a Hp.nil (by omega)).mono ?_
    rintro r H1 ⟨i, rfl, _, g1, hi⟩
    refine (LentTexts_L 0 b H1 (by omega)).mono ?_
    rintro r H2 ⟨j, rfl, hj0, g2, hj⟩
    exact ⟨i, j, ne_of_u (Hp.used hi) hj0, g2.blk hi, hj, rfl, rfl, rfl, rfl, rfl, rfl, rfl, trivial⟩
  rintro e' H0 ⟨i, j, hij, hi, hj, hd, hs⟩
  refine s_then (fun e' H => ∃ us L, us.length = 6 ∧ OwnN Ts H0 H us (txx (six a b)) ∧ H L = some (.row Tl (one us)) ∧ H0.u L = false ∧ e'.ds = [] ∧
      Has e' [(0, .isl 0 (tx a)), (1, .isl 0 (tx b)), (2, .str q), (7, .bool true), (8, .slc i 0 a.length (some (a.length + 2))), (9, .slc j 0 b.length (some (b.length + 2))), (10, .slc L 0 6 (some 6))]) ?_ ?_
  · exact sets4 a b q sa sb hp H0 i j (.mk2 hi) (.mk2 hj) e' _ hd hs fun e' H us L h1 h2 h3 h4 h5 h6 => ⟨us, L, h1, h2, h3, h4, h5, h6⟩
  rintro e' H ⟨us, L, hus, hn, hL, hL0, hd, hs⟩
  have hsh := hn.shape
  refine s_then4 (fun e' H' => ∃ V W, V.length = a.length ∧ W.length = b.length ∧ (∀ p ∈ V ++ W, p.length ≤ 1000000) ∧ Lnt H' i V ∧ Lnt H' j W ∧ OwnLL Ts H' us (txx (six a b)) ∧ H' L = some (.row Tl (one us)) ∧ e'.ds = [] ∧
      Has e' [(0, .isl 0 (tx a)), (1, .isl 0 (tx b)), (2, .str q), (7, .bool true), (8, .slc i 0 a.length (some (a.length + 2))), (9, .slc j 0 b.length (some (b.length + 2))), (10, .slc L 0 6 (some 6)), (11, .bool (cov a q)), (12, .bool true)]) ?_ ?_
  · exact sets58 a b q sa sb H0 H i j hij hi hj us L hn hL hL0 e' _ hd hs fun e' H' V W h1 h2 h3 h4 h5 h6 h7 h8 h9 => ⟨V, W, h1, h2, h3, h4, h5, h6, h7, h8, h9⟩
  rintro e' H4 ⟨V, W, hV, hW, hVW, kV, kW, o4, l4, hd, hs⟩
  rw [← hV, ← hW] at hs
  refine s_then (fun e' H' => Gr H4 H' ∧ e'.ds = [] ∧ Has e' [(0, .isl 0 (tx a)), (1, .isl 0 (tx b)), (2, .str q), (7, .bool true), (10, .slc L 0 6 (some 6)), (11, .bool (cov a q)), (12, .bool true), (13, .bool true)]) ?_ ?_
  · exact sets9 V W q (by omega) (by omega) (fun p h => by have := hVW p h; omega) (by omega) H4 i j kV kW _ _ _ _ e' _ hd hs fun e' H' h1 h2 h3 => ⟨h1, h2, h3⟩
  rintro e' H5 ⟨g5, hd, hs⟩
  exact setsEnd a b q sa sb hp (by omega) H5 us hus (o4.gr g5) hsh L (g5.blk l4) e' hd hs
end Go.Proofs.YtibdeeejjbmgcaaGreatDoor
