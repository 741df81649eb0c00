/- Contracts of functions of the given program, in the logic L: texts put together; no conditions. -/
import Derived.Test.YtibdeeejjbmgcaaGreatDoorY4
import Derived.Test.YtibdeeejjbmgcaaGreatDoorY9
import Derived.Test.YtibdeeejjbmgcaaGreatDoorY8
/- The table of the codes is of the given program. Printed by program (gen_all.py). -/
namespace Go.Proofs.YtibdeeejjbmgcaaGreatDoor
open Go.L
set_option maxRecDepth 100000
theorem codes_ok : trOK (GoodFC Tryz.prog) Codes id := ⟨trivial, ⟨trivial, ⟨trivial, ⟨trivial, ⟨trivial, ⟨G_q31, trivial, trivial⟩, ⟨G_q47, trivial, trivial⟩⟩, ⟨trivial, ⟨G_q39, ⟨G_q71, trivial, trivial⟩, trivial⟩, ⟨G_q55, ⟨G_q87, trivial, trivial⟩, trivial⟩⟩⟩, ⟨G_q11, ⟨trivial, ⟨trivial, ⟨G_q67, trivial, trivial⟩, trivial⟩, ⟨G_q51, ⟨G_q83, trivial, trivial⟩, trivial⟩⟩, ⟨G_q27, ⟨G_q43, trivial, trivial⟩, ⟨G_q59, ⟨G_q91, trivial, trivial⟩, trivial⟩⟩⟩⟩, ⟨trivial, ⟨G_q9, ⟨trivial, ⟨G_q33, ⟨G_q65, trivial, trivial⟩, trivial⟩, ⟨G_q49, trivial, trivial⟩⟩, ⟨G_q25, ⟨G_q41, trivial, ⟨G_q105, trivial, trivial⟩⟩, ⟨G_q57, trivial, trivial⟩⟩⟩, ⟨trivial, ⟨G_q21, ⟨trivial, ⟨G_q69, trivial, trivial⟩, trivial⟩, ⟨G_q53, trivial, ⟨G_q117, trivial, trivial⟩⟩⟩, ⟨G_q29, ⟨G_q45, ⟨G_q77, trivial, trivial⟩, ⟨G_q109, trivial, trivial⟩⟩, ⟨G_q61, ⟨G_q93, trivial, trivial⟩, trivial⟩⟩⟩⟩⟩, ⟨trivial, ⟨trivial, ⟨G_q8, ⟨trivial, ⟨G_q32, trivial, trivial⟩, ⟨G_q48, trivial, trivial⟩⟩, ⟨trivial, ⟨G_q40, ⟨G_q72, trivial, trivial⟩, ⟨G_q104, trivial, trivial⟩⟩, ⟨G_q56, ⟨G_q88, trivial, trivial⟩, trivial⟩⟩⟩, ⟨trivial, ⟨trivial, ⟨G_q36, ⟨G_q68, trivial, trivial⟩, trivial⟩, ⟨G_q52, trivial, trivial⟩⟩, ⟨G_q28, ⟨G_q44, trivial, trivial⟩, ⟨G_q60, ⟨G_q92, trivial, trivial⟩, trivial⟩⟩⟩⟩, ⟨G_lexiconlaw16_known, ⟨G_q10, ⟨trivial, ⟨G_q34, ⟨G_q66, trivial, trivial⟩, trivial⟩, ⟨G_q50, trivial, trivial⟩⟩, ⟨G_q26, ⟨G_q42, trivial, trivial⟩, ⟨G_q58, ⟨G_q90, trivial, trivial⟩, trivial⟩⟩⟩, ⟨trivial, ⟨trivial, ⟨G_q38, trivial, trivial⟩, ⟨G_q54, trivial, trivial⟩⟩, ⟨G_q30, ⟨G_q46, trivial, trivial⟩, trivial⟩⟩⟩⟩⟩
end Go.Proofs.YtibdeeejjbmgcaaGreatDoor

/-
  The closed head of the laws of masks, and lists of which there are none: computed.
-/
namespace Go.Proofs.YtibdeeejjbmgcaaGreatDoor
open Go.L
set_option maxRecDepth 100000
theorem known_run : PureL Tryz.prog 6 [] (.bool true) := CallL.ofRun codes_ok (loops := 1000) (d := 60) rfl rfl (by kernel_rfl)
theorem ownBytes_nil : PureL Tryz.prog 36 [.nils] (.bool true) := CallL.ofRun codes_ok (loops := 10) (d := 60) rfl rfl (by kernel_rfl)
theorem ownInts_nil : PureL Tryz.prog 38 [.nils] (.bool true) := CallL.ofRun codes_ok (loops := 10) (d := 60) rfl rfl (by kernel_rfl)
theorem ownSpans_nil : PureL Tryz.prog 39 [.nils] (.bool true) := CallL.ofRun codes_ok (loops := 10) (d := 60) rfl rfl (by kernel_rfl)
theorem ownImports_nil : PureL Tryz.prog 40 [.nils] (.bool true) := CallL.ofRun codes_ok (loops := 10) (d := 60) rfl rfl (by kernel_rfl)
theorem ownEnumValues_nil : PureL Tryz.prog 41 [.nils] (.bool true) := CallL.ofRun codes_ok (loops := 10) (d := 60) rfl rfl (by kernel_rfl)
theorem ownFieldDefs_nil : PureL Tryz.prog 42 [.nils] (.bool true) := CallL.ofRun codes_ok (loops := 10) (d := 60) rfl rfl (by kernel_rfl)
theorem ownSymbols_nil : PureL Tryz.prog 43 [.nils] (.bool true) := CallL.ofRun codes_ok (loops := 10) (d := 60) rfl rfl (by kernel_rfl)
theorem ownRows_nil : PureL Tryz.prog 44 [.nils] (.bool true) := CallL.ofRun codes_ok (loops := 10) (d := 60) rfl rfl (by kernel_rfl)
theorem ownTokens_nil : PureL Tryz.prog 45 [.nils] (.bool true) := CallL.ofRun codes_ok (loops := 10) (d := 60) rfl rfl (by kernel_rfl)
theorem ownVerdicts_nil : PureL Tryz.prog 46 [.nils] (.bool true) := CallL.ofRun codes_ok (loops := 10) (d := 60) rfl rfl (by kernel_rfl)
theorem ownCached_nil : PureL Tryz.prog 47 [.nils] (.bool true) := CallL.ofRun codes_ok (loops := 10) (d := 60) rfl rfl (by kernel_rfl)
theorem ownPinned_nil : PureL Tryz.prog 48 [.nils] (.bool true) := CallL.ofRun codes_ok (loops := 10) (d := 60) rfl rfl (by kernel_rfl)
theorem ownRaws_nil : PureL Tryz.prog 49 [.nils] (.bool true) := CallL.ofRun codes_ok (loops := 10) (d := 60) rfl rfl (by kernel_rfl)
theorem ownEnums_nil : PureL Tryz.prog 50 [.nils] (.bool true) := CallL.ofRun codes_ok (loops := 10) (d := 60) rfl rfl (by kernel_rfl)
theorem ownMessages_nil : PureL Tryz.prog 51 [.nils] (.bool true) := CallL.ofRun codes_ok (loops := 10) (d := 60) rfl rfl (by kernel_rfl)
theorem ownFiles_nil : PureL Tryz.prog 52 [.nils] (.bool true) := CallL.ofRun codes_ok (loops := 10) (d := 60) rfl rfl (by kernel_rfl)
theorem ownValues_nil : PureL Tryz.prog 53 [.nils] (.bool true) := CallL.ofRun codes_ok (loops := 10) (d := 60) rfl rfl (by kernel_rfl)
theorem ownFields_nil : PureL Tryz.prog 54 [.nils] (.bool true) := CallL.ofRun codes_ok (loops := 10) (d := 60) rfl rfl (by kernel_rfl)
theorem ownMsgs_nil : PureL Tryz.prog 55 [.nils] (.bool true) := CallL.ofRun codes_ok (loops := 10) (d := 60) rfl rfl (by kernel_rfl)
theorem ownBoxes_nil : PureL Tryz.prog 56 [.nils] (.bool true) := CallL.ofRun codes_ok (loops := 10) (d := 60) rfl rfl (by kernel_rfl)
theorem ownResults_nil : PureL Tryz.prog 57 [.nils] (.bool true) := CallL.ofRun codes_ok (loops := 10) (d := 60) rfl rfl (by kernel_rfl)
theorem ownDones_nil : PureL Tryz.prog 58 [.nils] (.bool true) := CallL.ofRun codes_ok (loops := 10) (d := 60) rfl rfl (by kernel_rfl)
end Go.Proofs.YtibdeeejjbmgcaaGreatDoor

/-
  Contracts: the book; the law MaskTexts.
-/
namespace Go.Proofs.YtibdeeejjbmgcaaGreatDoor
open Go.L

/-! ### The book -/
abbrev TB : TypeId := 54
def bookC (v : AV) : List AV := [.nils, v, .nils, .nils, .nils, .nils, .nils, .nils, .nils, .nils, .nils, .nils, .nils, .nils, .nils, .nils, .nils, .nils, .nils, .nils, .nils, .nils, .nils]
/-- A book of lists of texts. -/
structure Bk (h0 : Hp) (B : Nat) (H : Hp) (us : List AV) : Prop where
  b0 : h0.u B = false
  at_ : ∃ v, H B = some (.row TB [bookC v]) ∧ blkOf v ≠ some B ∧ Acc Tl h0 H v (one us)

theorem Bk.keep {h0 : Hp} {B : Nat} {H H' : Hp} {us : List AV} (k : Bk h0 B H us) (g : Gr H H') : Bk h0 B H' us := by
  obtain ⟨v, h1, h2, h3⟩ := k.at_
  exact ⟨k.b0, v, g.blk h1, h2, h3.keep g⟩
theorem Book_Texts_L (h0 H : Hp) (B : Nat) (x : AV) (us : List AV) (k : Bk h0 B H us) (hx : x = .nils ∨ ∃ i n c, x = .slc i 0 n c) (hl : us.length ≤ 1000) :
    CallL Tryz.prog F_lexiconref00_Book_Texts [.ptr B 0 0, x] H fun r H' => r = .ret (.tup []) ∧ Bk h0 B H' (us ++ [x]) := by
  obtain ⟨hb0, v, hB, hv, ha⟩ := k
  have hxf : flat [x] = true := by rcases hx with rfl | ⟨i, n, c, rfl⟩ <;> rfl
  refine K_lexiconref00_Book_Texts (md := false) ?_
  refine ⟨_, _, _, _, hB, rfl, rfl, ?_⟩
  refine ⟨[x], by rcases hx with rfl | ⟨i, n, c, rfl⟩ <;> rfl, fun tb htb => ?_⟩
  have hne : B ≠ tb := ne_of_u (Hp.used hB) htb.1
  have hB1 : (H.set tb (.row Tl [[x]])).m B = some (.row TB [bookC v]) := (Hp.set_ne hne).trans hB
  refine ⟨one [x], ⟨_, _, Hp.set_same _ _ _, Nat.le_refl _, rfl⟩, ?_⟩
  refine Acc.app (ha.set htb.1 _) (fun cs hcs => by rw [List.mem_singleton.1 hcs]; rfl) (fun cs hcs => by rw [List.mem_singleton.1 hcs]; exact hxf) (by rw [one_len, one_len]; unfold capMax; simp; omega) (by rw [one_len, one_len]; unfold capMax; simp; omega) fun v' H' ha' hfr hu => ?_
  have hb' : H' B = some (.row TB [bookC v]) := (hfr B (Hp.used hB1) hv).trans hB1
  have hv' : blkOf v' ≠ some B := fun e => by
    rcases ha'.2 with ⟨rfl, _⟩ | ⟨j, row, rfl, h2, h3, _⟩
    · cases e
    · cases e
      rw [hb'] at h3
      injection h3 with h3
      injection h3 with h3 _
      exact absurd h3 (by decide)
  have hfl : flat [v'] = true := by rcases ha'.shape with rfl | ⟨j, n, rfl⟩ <;> rfl
  have hnt : notTup v' = true := by rcases ha'.shape with rfl | ⟨j, n, rfl⟩ <;> rfl
  have hc : v'.cells = [v'] := by rcases ha'.shape with rfl | ⟨j, n, rfl⟩ <;> rfl
  refine ⟨_, _, _, hb', rfl, hnt, by show v'.cells.length = 1; rw [hc]; rfl, by show flat v'.cells = true; rw [hc]; exact hfl, by show 2 ≤ 23; decide, ?_⟩
  refine ⟨rfl, rfl, hb0, v', ?_, hv', ?_⟩
  · rw [Hp.set_same]
    show some (Blk.row TB [(bookC v).take 1 ++ v'.cells ++ (bookC v).drop 2]) = _
    rw [hc]; rfl
  · have e : one (us ++ [x]) = one us ++ one [x] := List.map_append
    rw [e]
    refine ⟨ha'.1.set hb0 _, ?_⟩
    rcases ha'.2 with h | ⟨j, row, rfl, h2, h3, h4⟩
    · exact .inl h
    · exact .inr ⟨j, row, rfl, h2, (Hp.set_ne fun e => hv' (by rw [e]; rfl)).trans h3, h4⟩

theorem Book_Own_L (h0 H : Hp) (B : Nat) (us : List AV) (ds : List (List Str)) (k : Bk h0 B H us) (ho : OwnLL Ts h0 us (txx ds)) (hne : us ≠ []) (hlen : us.length ≤ 1000) (hd : ∀ d ∈ ds, d.length ≤ 1000000) :
    CallL Tryz.prog F_lexiconref00_Book_Own [.ptr B 0 0] H fun r _ => r = .ret (.bool true) := by
  obtain ⟨hb0, v, hB, hv, ha⟩ := k
  obtain ⟨j, row, rfl, hj, hrow, ht, hl⟩ := ha.slc (by cases us with
    | nil => exact absurd rfl hne
    | cons u us => simp [one])
  rw [one_len] at *
  have hr : Row1 H j us := ⟨row, hrow, fun i u hu => by
    have hi := (List.getElem?_eq_some_iff.1 hu).1
    have := one_get hu
    rw [← ht, List.getElem?_take_of_lt hi] at this
    rw [Nat.zero_add]; exact this⟩
  have hju : ∀ u ∈ us, blkOf u ≠ some j := fun u hu e => by
    have := ho.used hu e
    rw [hj] at this; cases this
  have hBu : ∀ u ∈ us, blkOf u ≠ some B := fun u hu e => by
    have := ho.used hu e
    rw [hb0] at this; cases this
  refine K_lexiconref00_Book_Own (md := false) ?_
  refine ⟨_, _, _, _, hB, rfl, rfl, ?_⟩
  refine ownBytes_nil.use ?_
  refine ⟨_, _, _, _, hB, rfl, rfl, ?_⟩
  refine (ownTexts_L us ds H j hr hju (ho.gr ha.1) hlen hd).mono ?_
  rintro r H2 ⟨rfl, hF⟩
  have hB2 : H2 B = some (.row TB [bookC (.slc j 0 us.length none)]) := (hF.m B (Hp.used hB) hBu).trans hB
  clear hF hr hju hBu ho hrow ht hl hj ha hv
  refine ⟨_, _, _, _, hB2, rfl, rfl, ?_⟩
  refine ownInts_nil.use ?_
  refine ⟨_, _, _, _, hB2, rfl, rfl, ?_⟩
  refine ownSpans_nil.use ?_
  refine ⟨_, _, _, _, hB2, rfl, rfl, ?_⟩
  refine ownImports_nil.use ?_
  refine ⟨_, _, _, _, hB2, rfl, rfl, ?_⟩
  refine ownEnumValues_nil.use ?_
  refine ⟨_, _, _, _, hB2, rfl, rfl, ?_⟩
  refine ownFieldDefs_nil.use ?_
  refine ⟨_, _, _, _, hB2, rfl, rfl, ?_⟩
  refine ownSymbols_nil.use ?_
  refine ⟨_, _, _, _, hB2, rfl, rfl, ?_⟩
  refine ownRows_nil.use ?_
  refine ⟨_, _, _, _, hB2, rfl, rfl, ?_⟩
  refine ownTokens_nil.use ?_
  refine ⟨_, _, _, _, hB2, rfl, rfl, ?_⟩
  refine ownVerdicts_nil.use ?_
  refine ⟨_, _, _, _, hB2, rfl, rfl, ?_⟩
  refine ownCached_nil.use ?_
  refine ⟨_, _, _, _, hB2, rfl, rfl, ?_⟩
  refine ownPinned_nil.use ?_
  refine ⟨_, _, _, _, hB2, rfl, rfl, ?_⟩
  refine ownRaws_nil.use ?_
  refine ⟨_, _, _, _, hB2, rfl, rfl, ?_⟩
  refine ownEnums_nil.use ?_
  refine ⟨_, _, _, _, hB2, rfl, rfl, ?_⟩
  refine ownMessages_nil.use ?_
  refine ⟨_, _, _, _, hB2, rfl, rfl, ?_⟩
  refine ownFiles_nil.use ?_
  refine ⟨_, _, _, _, hB2, rfl, rfl, ?_⟩
  refine ownValues_nil.use ?_
  refine ⟨_, _, _, _, hB2, rfl, rfl, ?_⟩
  refine ownFields_nil.use ?_
  refine ⟨_, _, _, _, hB2, rfl, rfl, ?_⟩
  refine ownMsgs_nil.use ?_
  refine ⟨_, _, _, _, hB2, rfl, rfl, ?_⟩
  refine ownBoxes_nil.use ?_
  refine ⟨_, _, _, _, hB2, rfl, rfl, ?_⟩
  refine ownResults_nil.use ?_
  refine ⟨_, _, _, _, hB2, rfl, rfl, ?_⟩
  refine ownDones_nil.use ?_
  exact ⟨rfl, rfl⟩
end Go.Proofs.YtibdeeejjbmgcaaGreatDoor

/-
  Contracts: the law MaskTexts.
-/
namespace Go.Proofs.YtibdeeejjbmgcaaGreatDoor
open Go.L

theorem Parse_L2 (s : Str) (hs : s.length ≤ 100000000000) (h : Hp) :
    CallL Tryz.prog F_mask_Parse [.str s] h fun r h' => ∃ v, OwnB Ts h h' (.ret v) (tx ((parseM s).getD [])) ∧ r = .ret (.tup [v, no160 (parseM s).isSome]) := by
  refine (Parse_L s hs h).mono ?_
  rintro r h' ⟨v, h1, rfl⟩
  refine ⟨v, h1, ?_⟩
  cases (parseM s).isSome <;> rfl

theorem rep_len (n : Nat) (s : Str) : (List.replicate n s).length = n := List.length_replicate
theorem rep_mem {n : Nat} {s x : Str} (h : x ∈ List.replicate n s) : x = s := List.eq_of_mem_replicate h
theorem splitC_parse_len (s : Str) : ((parseM s).getD []).length ≤ s.length + 1 := by
  unfold parseM
  split
  · exact Nat.zero_le _
  · split
    · have := splitC_len 44 s
      have h2 : s.count 44 ≤ s.length := List.count_le_length
      show (splitC 44 s).length ≤ _
      omega
    · exact Nat.zero_le _

theorem sameT_L (ga gb : Nat) (a : List Str) (ha : a.length ≤ 1000000000000) : PureL Tryz.prog F_lexiconref00_SameTexts [.isl ga (tx a), .isl gb (tx a)] (.bool true) := by
  have := same_L ga gb a a ha ha
  rwa [beq_self_eq_true] at this
theorem wholeT_L (g i : Nat) (l : List Str) (h : Hp) (hi : h i = some (.row Ts (tx (l ++ [own, own])))) (hl : l.length ≤ 1000000) :
    CallL Tryz.prog F_lexiconref00_WholeTexts [.slc i 0 l.length (some (l.length + 2)), .isl g (tx l)] h fun r h' => r = .ret (.bool true) ∧ h' = h := by
  have := WholeTexts_L g i l l h hi hl hl
  rwa [beq_self_eq_true] at this

/-- The end of the law: the book, and what Print made is read again. -/
theorem textsEnd (l P : List Str) (sl : l.length ≤ 400) (sll : ∀ s ∈ l, s.length ≤ 120000) (hPl : P.length ≤ 1000000) (H6 : Hp) (v1 v2 : AV) (hv1 : v1 = .nils ∨ ∃ i n c, v1 = .slc i 0 n c) (hv2 : v2 = .nils ∨ ∃ i n c, v2 = .slc i 0 n c) (own5 : OwnLL Ts H6 [v1, v2] [tx P, tx P])
    (e : Env) (hd : e.ds = []) (hs : Has e [(1, .isl 0 (tx l)), (6, v1), (8, v2), (15, .str (printS l)), (16, no160 (l.all isPath))]) :
    LCode Tryz.prog false (.seq (.ops A_lexiconlaw16_MaskTexts_15) (.seq (.ops A_lexiconlaw16_MaskTexts_16) (.seq (.ops A_lexiconlaw16_MaskTexts_17) (.seq (.seq (.ops A_lexiconlaw16_MaskTexts_18) (.cond (.t 132) (.seq (.ops A_lexiconlaw16_MaskTexts_19) (.seq (.ops A_lexiconlaw16_MaskTexts_20) (.seq (.ops A_lexiconlaw16_MaskTexts_21) (.cond (.t 146) (.seq (.ops [o_ 4 (.mov (.c (.bool false)))]) .ret) .skip)))) .skip)) (.seq (.ops A_lexiconlaw16_MaskTexts_22) .ret))))) (EndQ R_lexiconlaw16_MaskTexts fun r _ => r = .ret (.bool true)) e H6 := by
  obtain ⟨n6, g6, rfl⟩ := hs.out hd
  clear hd hs
  have pp := parse_print (l := l)
  refine ⟨_, rfl, rfl, rfl, fun B hB => ?_⟩
  have bk0 : Bk H6 B (H6.set B (.row TB [bookC .nils])) [] := ⟨hB.1, .nils, Hp.set_same _ _ _, (fun e => by cases e), (Gr.refl H6).set hB.1 _, .inl ⟨rfl, rfl⟩⟩
  refine (Book_Texts_L H6 _ B v1 [] bk0 hv1 (by simp)).mono ?_
  rintro r H7 ⟨rfl, bk1⟩
  refine (Book_Texts_L H6 _ B v2 [v1] bk1 hv2 (by simp)).mono ?_
  rintro r H8 ⟨rfl, bk2⟩
  have fin : ∀ H, Gr H8 H → CallL Tryz.prog F_lexiconref00_Book_Own [.ptr B 0 0] H fun r _ => r = .ret (.bool true) := fun H g =>
    Book_Own_L H6 H B [v1, v2] [P, P] (bk2.keep g) own5 (by simp) (by simp) fun d hd => by
      have : d = P := by simpa using hd
      rw [this]; omega
  cases hall : l.all isPath with
  | false =>
    refine s_eq (fun h => by cases h) (fun _ => ?_)
    refine (fin H8 (Gr.refl _)).mono ?_
    rintro r H9 rfl
    exact ⟨rfl, rfl⟩
  | true =>
    refine s_eq (fun _ => ?_) (fun h => absurd rfl h)
    have hps : printS l = joinC 44 l := by rw [printS, hall]; rfl
    have hjl := joinC_len (c := 44) (B := 120000) sll
    have hjm : (joinC 44 l).length ≤ 400 * 120001 := Nat.le_trans hjl (Nat.mul_le_mul_right _ sl)
    have ps : CallL Tryz.prog F_mask_Parse [.str (printS l)] H8 fun r h' => ∃ v, OwnB Ts H8 h' (.ret v) (tx l) ∧ r = .ret (.tup [v, no160 true]) := by
      have := Parse_L2 (printS l) (by rw [hps]; omega) H8
      rw [hps, pp hall] at this
      rw [hps]; exact this
    refine ps.mono ?_
    rintro r H9 ⟨v3, o3, rfl⟩
    refine ⟨_, rfl, _, rfl, ?_⟩
    refine CallL.lentP (sameT_L 1 0 l (by omega)) (FzL.two (o3.fz (noidss_tx _ _)) (.same _ (noid_isl _ _ _ rfl))) rfl ?_
    refine s_ne (fun h => absurd rfl h) (fun _ => ?_)
    refine (fin H9 o3.1).mono ?_
    rintro r H10 rfl
    exact ⟨rfl, rfl⟩

/-- All that is held against one another is the same. -/
theorem textsCmp (l P : List Str) (E : Bool) (V : List Str) (sl : l.length ≤ 400) (sll : ∀ s ∈ l, s.length ≤ 120000) (hPl : P.length ≤ 1000000) (H6 : Hp) (v1 v2 : AV) (hv1 : v1 = .nils ∨ ∃ i n c, v1 = .slc i 0 n c) (hv2 : v2 = .nils ∨ ∃ i n c, v2 = .slc i 0 n c) (own5 : OwnLL Ts H6 [v1, v2] [tx P, tx P])
    (e : Env) (hd : e.ds = []) (hs : Has e [(1, .isl 0 (tx l)), (5, .bool true), (6, v1), (7, no160 E), (8, v2), (11, no160 E), (12, .bool true), (13, .bool true), (15, .str (printS l)), (16, no160 (l.all isPath)), (17, .bool true), (18, .str (printS l)), (19, no160 (l.all isPath)), (20, .str (printS V)), (21, no160 (V.all isPath)), (22, .str (printS V)), (23, no160 (V.all isPath))]) :
    LCode Tryz.prog false (.seq (.seq (.ops A_lexiconlaw16_MaskTexts_14) (.cond (.t 122) (.seq (.ops [o_ 4 (.mov (.c (.bool false)))]) .ret) .skip)) (.seq (.ops A_lexiconlaw16_MaskTexts_15) (.seq (.ops A_lexiconlaw16_MaskTexts_16) (.seq (.ops A_lexiconlaw16_MaskTexts_17) (.seq (.seq (.ops A_lexiconlaw16_MaskTexts_18) (.cond (.t 132) (.seq (.ops A_lexiconlaw16_MaskTexts_19) (.seq (.ops A_lexiconlaw16_MaskTexts_20) (.seq (.ops A_lexiconlaw16_MaskTexts_21) (.cond (.t 146) (.seq (.ops [o_ 4 (.mov (.c (.bool false)))]) .ret) .skip)))) .skip)) (.seq (.ops A_lexiconlaw16_MaskTexts_22) .ret)))))) (EndQ R_lexiconlaw16_MaskTexts fun r _ => r = .ret (.bool true)) e H6 := by
  obtain ⟨n6, g6, rfl⟩ := hs.out hd
  clear hd hs
  refine s_then (fun e' h' => h' = H6 ∧ e'.ds = [] ∧ Has e' [(1, .isl 0 (tx l)), (6, v1), (8, v2), (15, .str (printS l)), (16, no160 (l.all isPath))]) ?_ ?_
  · refine s_ne (fun h => absurd rfl h) (fun _ => ?_)
    refine s_sne (fun h => absurd rfl h) (fun _ => ?_)
    refine s_ne (fun h => absurd rfl h) (fun _ => ?_)
    refine s_sne (fun h => absurd rfl h) (fun _ => ?_)
    refine s_ne (fun h => absurd rfl h) (fun _ => ?_)
    exact ⟨rfl, rfl, rfl, rfl, rfl, rfl, rfl, trivial⟩
  · rintro e' h' ⟨rfl, hd, hs⟩
    exact textsEnd l P sl sll hPl h' v1 v2 hv1 hv2 own5 e' hd hs

theorem spoilt_facts (l : List Str) (sl : l.length ≤ 400) (H2 H3 : Hp) (i : Nat) (hi : H2.u i = false) (g3 : Gr H2 H3) (hrow : H3 i = some (.row Ts (tx (l ++ [own, own])))) :
    ∃ V H5, H5 = H3.set i (.row Ts (tx (List.replicate (l.length + 2) spoilt))) ∧ PureL Tryz.prog F_mask_Print [.isl 1 (tx V)] (printV V) ∧ PureL Tryz.prog F_lexiconref16_Print [.isl 1 (tx V)] (printV V) ∧
      FzL anyMark 1 H5 [.slc i 0 l.length (some (l.length + 2))] [.isl 1 (tx V)] ∧ Gr H2 H5 := by
  have sp1 : ∀ x ∈ List.replicate l.length spoilt, x.length ≤ 1000000 := fun x hx => by rw [rep_mem hx]; decide
  have e5 : List.replicate (l.length + 2) spoilt = List.replicate l.length spoilt ++ [spoilt, spoilt] := by rw [← List.replicate_append_replicate]; rfl
  have hrow5 : (H3.set i (.row Ts (tx (List.replicate (l.length + 2) spoilt)))).m i = some (.row Ts (tx (List.replicate l.length spoilt) ++ tx [spoilt, spoilt])) := by
    rw [Hp.set_same, ← tx_app, e5]
  refine ⟨_, _, rfl, Print_L 1 (List.replicate l.length spoilt) (by rw [rep_len]; omega) sp1, rPrint_L 1 (List.replicate l.length spoilt) (by rw [rep_len]; omega) sp1, ?_, g3.set hi _⟩
  have := Fz_tx (g := 1) (c := some (l.length + 2)) hrow5
  rw [rep_len] at this
  exact FzL_one this

/-- The second half of the middle: what is spoilt is printed. -/
theorem textsMid2 (l P : List Str) (E : Bool) (sl : l.length ≤ 400) (sll : ∀ s ∈ l, s.length ≤ 120000) (hPl : P.length ≤ 1000000) (H2 H3 : Hp) (v1 v2 : AV) (hv1 : v1 = .nils ∨ ∃ i n c, v1 = .slc i 0 n c) (hv2 : v2 = .nils ∨ ∃ i n c, v2 = .slc i 0 n c) (own2 : OwnLL Ts H2 [v1, v2] [tx P, tx P])
    (i : Nat) (hi : H2.u i = false) (g3 : Gr H2 H3) (hrow : H3 i = some (.row Ts (tx (l ++ [own, own]))))
    (e : Env) (hd : e.ds = []) (hs : Has e [(1, .isl 0 (tx l)), (5, .bool true), (6, v1), (7, no160 E), (8, v2), (11, no160 E), (12, .bool true), (13, .bool true), (14, .slc i 0 l.length (some (l.length + 2))), (15, .str (printS l)), (16, no160 (l.all isPath)), (17, .bool true), (18, .str (printS l)), (19, no160 (l.all isPath))]) :
    LCode Tryz.prog false (.seq (.ops A_lexiconlaw16_MaskTexts_11) (.seq (.ops A_lexiconlaw16_MaskTexts_12) (.seq (.ops A_lexiconlaw16_MaskTexts_13) (.seq (.seq (.ops A_lexiconlaw16_MaskTexts_14) (.cond (.t 122) (.seq (.ops [o_ 4 (.mov (.c (.bool false)))]) .ret) .skip)) (.seq (.ops A_lexiconlaw16_MaskTexts_15) (.seq (.ops A_lexiconlaw16_MaskTexts_16) (.seq (.ops A_lexiconlaw16_MaskTexts_17) (.seq (.seq (.ops A_lexiconlaw16_MaskTexts_18) (.cond (.t 132) (.seq (.ops A_lexiconlaw16_MaskTexts_19) (.seq (.ops A_lexiconlaw16_MaskTexts_20) (.seq (.ops A_lexiconlaw16_MaskTexts_21) (.cond (.t 146) (.seq (.ops [o_ 4 (.mov (.c (.bool false)))]) .ret) .skip)))) .skip)) (.seq (.ops A_lexiconlaw16_MaskTexts_22) .ret))))))))) (EndQ R_lexiconlaw16_MaskTexts fun r _ => r = .ret (.bool true)) e H3 := by
  obtain ⟨n2, g2, rfl⟩ := hs.out hd
  clear hd hs
  obtain ⟨V, H5, hH5, pq, rq, fz5, g5⟩ := spoilt_facts l sl H2 H3 i hi g3 hrow
  refine s_then3 (fun e' h' => h' = H5 ∧ e'.ds = [] ∧ Has e' [(1, .isl 0 (tx l)), (5, .bool true), (6, v1), (7, no160 E), (8, v2), (11, no160 E), (12, .bool true), (13, .bool true), (14, .slc i 0 l.length (some (l.length + 2))), (15, .str (printS l)), (16, no160 (l.all isPath)), (17, .bool true), (18, .str (printS l)), (19, no160 (l.all isPath)), (20, .str (printS V)), (21, no160 (V.all isPath)), (22, .str (printS V)), (23, no160 (V.all isPath))]) ?_ ?_
  · refine (SpoilTexts_L i l.length (l.length + 2) (l ++ [own, own]) H3 hrow (by simp) (by omega) (by omega)).mono ?_
    rintro r H' ⟨rfl, h5⟩
    rw [← hH5] at h5
    subst h5
    refine CallL.lentP pq fz5 rfl ?_
    refine ⟨_, rfl, _, rfl, ?_⟩
    refine CallL.lentP rq fz5 rfl ?_
    refine ⟨_, rfl, _, rfl, ?_⟩
    exact ⟨rfl, rfl, rfl, rfl, rfl, rfl, rfl, rfl, rfl, rfl, rfl, rfl, rfl, rfl, rfl, rfl, rfl, rfl, rfl, rfl, trivial⟩
  · rintro e' h' ⟨rfl, hd, hs⟩
    obtain ⟨n3, g3, rfl⟩ := hs.out hd
    exact textsCmp l P E V (by omega) sll (by omega) _ v1 v2 hv1 hv2 (own2.gr g5) _ rfl ⟨rfl, rfl, rfl, rfl, rfl, rfl, rfl, rfl, rfl, rfl, rfl, rfl, rfl, rfl, rfl, rfl, rfl, trivial⟩

/-- The middle of the law: what is printed. -/
theorem textsMid (l P : List Str) (E : Bool) (sl : l.length ≤ 400) (sll : ∀ s ∈ l, s.length ≤ 120000) (hPl : P.length ≤ 1000000) (H2 : Hp) (v1 v2 : AV) (hv1 : v1 = .nils ∨ ∃ i n c, v1 = .slc i 0 n c) (hv2 : v2 = .nils ∨ ∃ i n c, v2 = .slc i 0 n c) (own2 : OwnLL Ts H2 [v1, v2] [tx P, tx P])
    (e : Env) (hd : e.ds = []) (hs : Has e [(1, .isl 0 (tx l)), (5, .bool true), (6, v1), (7, no160 E), (8, v2), (11, no160 E), (12, .bool true), (13, .bool true)]) :
    LCode Tryz.prog false (.seq (.ops A_lexiconlaw16_MaskTexts_7) (.seq (.ops A_lexiconlaw16_MaskTexts_8) (.seq (.ops A_lexiconlaw16_MaskTexts_9) (.seq (.ops A_lexiconlaw16_MaskTexts_10) (.seq (.ops A_lexiconlaw16_MaskTexts_11) (.seq (.ops A_lexiconlaw16_MaskTexts_12) (.seq (.ops A_lexiconlaw16_MaskTexts_13) (.seq (.seq (.ops A_lexiconlaw16_MaskTexts_14) (.cond (.t 122) (.seq (.ops [o_ 4 (.mov (.c (.bool false)))]) .ret) .skip)) (.seq (.ops A_lexiconlaw16_MaskTexts_15) (.seq (.ops A_lexiconlaw16_MaskTexts_16) (.seq (.ops A_lexiconlaw16_MaskTexts_17) (.seq (.seq (.ops A_lexiconlaw16_MaskTexts_18) (.cond (.t 132) (.seq (.ops A_lexiconlaw16_MaskTexts_19) (.seq (.ops A_lexiconlaw16_MaskTexts_20) (.seq (.ops A_lexiconlaw16_MaskTexts_21) (.cond (.t 146) (.seq (.ops [o_ 4 (.mov (.c (.bool false)))]) .ret) .skip)))) .skip)) (.seq (.ops A_lexiconlaw16_MaskTexts_22) .ret))))))))))))) (EndQ R_lexiconlaw16_MaskTexts fun r _ => r = .ret (.bool true)) e H2 := by
  obtain ⟨n2, g2, rfl⟩ := hs.out hd
  clear hd hs
  have pr := rPrint_L 0 l (by omega) fun x hx => by have := sll x hx; omega
  have pr1 := Print_L 1 l (by omega) fun x hx => by have := sll x hx; omega
  refine s_then4 (fun e' h' => ∃ i, H2.u i = false ∧ Gr H2 h' ∧ h' i = some (.row Ts (tx (l ++ [own, own]))) ∧ e'.ds = [] ∧ Has e' [(1, .isl 0 (tx l)), (5, .bool true), (6, v1), (7, no160 E), (8, v2), (11, no160 E), (12, .bool true), (13, .bool true), (14, .slc i 0 l.length (some (l.length + 2))), (15, .str (printS l)), (16, no160 (l.all isPath)), (17, .bool true), (18, .str (printS l)), (19, no160 (l.all isPath))]) ?_ ?_
  · refine (LentTexts_L 0 l H2 (by omega)).mono ?_
    rintro r H3 ⟨i, rfl, hi, g3, hrow⟩
    have hrow' : H3 i = some (.row Ts (tx l ++ tx [own, own])) := by rw [hrow, tx_app]
    refine CallL.lentP pr1 (FzL_one (Fz_tx hrow')) rfl ?_
    refine ⟨_, rfl, _, rfl, ?_⟩
    refine (wholeT_L 0 i l H3 hrow (by omega)).mono ?_
    rintro r H4 ⟨rfl, rfl⟩
    refine pr.use ?_
    refine ⟨_, rfl, _, rfl, ?_⟩
    exact ⟨i, hi, g3, hrow, rfl, rfl, rfl, rfl, rfl, rfl, rfl, rfl, rfl, rfl, rfl, rfl, rfl, rfl, rfl, trivial⟩
  · rintro e' h' ⟨i, hi, g3, hrow, hd, hs⟩
    exact textsMid2 l P E (by omega) sll (by omega) H2 h' v1 v2 hv1 hv2 own2 i hi g3 hrow e' hd hs

theorem MaskTexts_L (s : Str) (l : List Str) (hs : s.length ≤ 1000000000000000) (hl : l.length ≤ 1000000000000000) (hll : ∀ s ∈ l, s.length ≤ 1000000000000000) (known : PureL Tryz.prog 6 [] (.bool true)) :
    CallL Tryz.prog F_lexiconlaw16_MaskTexts [.str s, .isl 0 (tx l)] Hp.nil fun r _ => r = .ret (.bool true) := by
  refine K_lexiconlaw16_MaskTexts (md := false) ?_
  refine s_then2 (fun e' h' => h' = Hp.nil ∧ l.length ≤ 400 ∧ (∀ s ∈ l, s.length ≤ 120000) ∧ s.length ≤ 120000 ∧ e'.ds = [] ∧ Has e' [(0, .str s), (1, .isl 0 (tx l))]) ?_ ?_
  · refine s_lt (fun _ => ⟨rfl, rfl⟩) (fun h1 => ?_)
    refine CallL.lentP (many_L 0 1 l [] hl (by simp) hll (by simp)) (FzL.two (.same _ (noid_isl _ _ _ rfl)) (.nilsI 1)) rfl ?_
    cases h2 : manyB l []
    case true => exact ⟨rfl, rfl⟩
    obtain ⟨⟨sl, sll⟩, _⟩ := many_small h2
    exact ⟨rfl, sl, sll, by omega, rfl, rfl, rfl, trivial⟩
  rintro e' h' ⟨rfl, sl, sll, hs2, hd, hs⟩
  obtain ⟨n0, g0, rfl⟩ := hs.out hd
  clear hd hs
  have hPl := splitC_parse_len s
  have rp := rParse_L s (by omega)
  obtain ⟨P, hP⟩ : ∃ P, P = (parseM s).getD [] := ⟨_, rfl⟩
  obtain ⟨E, hE⟩ : ∃ E, E = (parseM s).isSome := ⟨_, rfl⟩
  rw [parseV, ← hP, ← hE] at rp
  have ps : ∀ h, CallL Tryz.prog F_mask_Parse [.str s] h fun r h' => ∃ v, OwnB Ts h h' (.ret v) (tx P) ∧ r = .ret (.tup [v, no160 E]) := fun h => by
    rw [hP, hE]; exact Parse_L2 s (by omega) h
  rw [← hP] at hPl
  clear hP hE
  refine s_then4 (fun e' h' => ∃ v1 v2, (v1 = .nils ∨ ∃ i n c, v1 = .slc i 0 n c) ∧ (v2 = .nils ∨ ∃ i n c, v2 = .slc i 0 n c) ∧ OwnLL Ts h' [v1, v2] [tx P, tx P] ∧ Fz anyMark 1 h' v1 (.isl 1 (tx P)) ∧ Fz anyMark 1 h' v2 (.isl 1 (tx P)) ∧
      e'.ds = [] ∧ Has e' [(1, .isl 0 (tx l)), (5, .bool true), (6, v1), (7, no160 E), (8, v2), (10, .isl 0 (tx P)), (11, no160 E)]) ?_ ?_
  · refine known.use ?_
    refine (ps _).mono ?_
    rintro r H1 ⟨v1, o1, rfl⟩
    refine ⟨_, rfl, _, rfl, ?_⟩
    refine (ps _).mono ?_
    rintro r H2 ⟨v2, o2, rfl⟩
    refine ⟨_, rfl, _, rfl, ?_⟩
    refine rp.use ?_
    refine ⟨_, rfl, _, rfl, ?_⟩
    exact ⟨v1, v2, o1.shape, o2.shape, ((OwnLL.nil Ts Hp.nil).snoc o1).snoc o2, Fz.gr o2.1 (o1.fz (noidss_tx _ _)), o2.fz (noidss_tx _ _), rfl, rfl, rfl, rfl, rfl, rfl, rfl, rfl, trivial⟩
  rintro e' h' ⟨v1, v2, hv1, hv2, own2, f1, f2, hd, hs⟩
  obtain ⟨n1, g1, rfl⟩ := hs.out hd
  clear hd hs
  refine s_then2 (fun e' h2 => h2 = h' ∧ e'.ds = [] ∧ Has e' [(1, .isl 0 (tx l)), (5, .bool true), (6, v1), (7, no160 E), (8, v2), (11, no160 E), (12, .bool true), (13, .bool true)]) ?_ ?_
  · refine CallL.lentP (sameT_L 1 0 P (by omega)) (FzL.two f1 (.same _ (noid_isl _ _ _ rfl))) rfl ?_
    refine CallL.lentP (sameT_L 1 0 P (by omega)) (FzL.two f2 (.same _ (noid_isl _ _ _ rfl))) rfl ?_
    exact ⟨rfl, rfl, rfl, rfl, rfl, rfl, rfl, rfl, rfl, rfl, trivial⟩
  rintro e' h2 ⟨rfl, hd, hs⟩
  exact textsMid l P E (by omega) sll (by omega) h2 v1 v2 hv1 hv2 own2 e' hd hs
end Go.Proofs.YtibdeeejjbmgcaaGreatDoor
