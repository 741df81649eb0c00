/- Contracts of functions of the given program, in the logic L: texts put together; no conditions. -/
import Derived.Test.YtldbbnkacahndabGreatDoorZ4
import Derived.Test.YtldbbnkacahndabGreatDoorZ15
import Derived.Test.YtldbbnkacahndabGreatDoorZ16
import Derived.Test.YtldbbnkacahndabGreatDoorZ14
import Derived.KernelRfl
import Derived.Test.YtldbbnkacahndabGreatDoorZ2
import Derived.Test.YtldbbnkacahndabGreatDoorZ3
import Derived.Test.YtldbbnkacahndabGreatDoorProg
import Derived.Test.YtldbbnkacahndabGreatDoorZ13
import Derived.Shelf.Unicode.DecodeAny
import Derived.Test.YtldbbnkacahndabGreatDoorRows
import Derived.Lib.LaidU8T
import Derived.LaidMore
import Derived.PinnedBridge
namespace Go.Proofs.YtldbbnkacahndabGreatDoor
open Go.L
set_option maxRecDepth 100000
theorem codes_ok : trOK (GoodFC Tryz.prog) Codes id := ⟨trivial, ⟨trivial, ⟨trivial, ⟨G_q7, ⟨G_q15, ⟨trivial, ⟨G_q63, ⟨G_q127, ⟨G_q255, trivial, trivial⟩, trivial⟩, trivial⟩, ⟨G_q95, ⟨G_q159, ⟨G_q287, trivial, trivial⟩, trivial⟩, ⟨G_q223, trivial, trivial⟩⟩⟩, ⟨G_q47, ⟨G_q79, ⟨G_q143, ⟨G_q271, trivial, trivial⟩, ⟨G_q399, trivial, trivial⟩⟩, ⟨G_q207, trivial, trivial⟩⟩, ⟨G_q111, trivial, trivial⟩⟩⟩, ⟨G_q23, ⟨G_q39, ⟨G_q71, ⟨G_q135, trivial, trivial⟩, ⟨G_q199, ⟨G_q327, trivial, trivial⟩, trivial⟩⟩, ⟨G_q103, ⟨G_q167, trivial, trivial⟩, trivial⟩⟩, ⟨G_q55, ⟨G_q87, ⟨trivial, ⟨G_q279, trivial, trivial⟩, trivial⟩, ⟨G_q215, trivial, trivial⟩⟩, ⟨G_q119, ⟨trivial, ⟨G_q311, trivial, trivial⟩, trivial⟩, trivial⟩⟩⟩⟩, ⟨trivial, ⟨G_q19, ⟨G_q35, ⟨G_q67, ⟨G_q131, trivial, trivial⟩, trivial⟩, ⟨G_q99, ⟨G_q163, ⟨G_q291, trivial, trivial⟩, ⟨G_q419, trivial, trivial⟩⟩, ⟨G_q227, ⟨G_q355, trivial, trivial⟩, trivial⟩⟩⟩, ⟨G_q51, ⟨trivial, ⟨G_q147, ⟨G_q275, trivial, trivial⟩, ⟨G_q403, trivial, trivial⟩⟩, ⟨G_q211, trivial, trivial⟩⟩, ⟨G_q115, trivial, trivial⟩⟩⟩, ⟨G_q27, ⟨G_q43, ⟨G_q75, ⟨G_q139, trivial, trivial⟩, ⟨trivial, ⟨G_q331, trivial, trivial⟩, trivial⟩⟩, ⟨G_q107, ⟨G_q171, trivial, ⟨G_q427, trivial, trivial⟩⟩, trivial⟩⟩, ⟨G_q59, ⟨G_q91, ⟨G_q155, ⟨G_q283, trivial, trivial⟩, trivial⟩, trivial⟩, ⟨G_q123, ⟨G_q187, trivial, trivial⟩, trivial⟩⟩⟩⟩⟩, ⟨G_lexiconlaw23_known, ⟨trivial, ⟨G_q17, ⟨trivial, ⟨G_q65, ⟨G_q129, trivial, trivial⟩, trivial⟩, ⟨G_q97, ⟨G_q161, ⟨G_q289, trivial, trivial⟩, ⟨G_q417, trivial, trivial⟩⟩, ⟨G_q225, trivial, trivial⟩⟩⟩, ⟨G_q49, ⟨G_q81, ⟨G_q145, ⟨G_q273, trivial, trivial⟩, ⟨G_q401, trivial, trivial⟩⟩, ⟨G_q209, trivial, trivial⟩⟩, ⟨G_q113, ⟨G_q177, trivial, trivial⟩, trivial⟩⟩⟩, ⟨G_q25, ⟨G_q41, ⟨G_q73, trivial, ⟨G_q201, trivial, trivial⟩⟩, ⟨G_q105, ⟨G_q169, trivial, trivial⟩, trivial⟩⟩, ⟨G_q57, ⟨G_q89, ⟨G_q153, ⟨G_q281, trivial, trivial⟩, trivial⟩, ⟨G_q217, trivial, trivial⟩⟩, ⟨G_q121, ⟨G_q185, trivial, trivial⟩, trivial⟩⟩⟩⟩, ⟨trivial, ⟨G_q21, ⟨G_q37, ⟨G_q69, ⟨G_q133, trivial, trivial⟩, ⟨trivial, ⟨G_q325, trivial, trivial⟩, trivial⟩⟩, ⟨G_q101, ⟨G_q165, trivial, trivial⟩, ⟨G_q229, ⟨G_q357, trivial, trivial⟩, trivial⟩⟩⟩, ⟨G_q53, ⟨trivial, ⟨G_q149, ⟨G_q277, trivial, trivial⟩, ⟨G_q405, trivial, trivial⟩⟩, ⟨G_q213, trivial, trivial⟩⟩, ⟨G_q117, ⟨trivial, ⟨G_q309, trivial, trivial⟩, trivial⟩, ⟨G_q245, trivial, trivial⟩⟩⟩⟩, ⟨trivial, ⟨G_q45, ⟨G_q77, ⟨G_q141, ⟨G_q269, trivial, trivial⟩, trivial⟩, ⟨G_q205, ⟨G_q333, trivial, trivial⟩, trivial⟩⟩, ⟨G_q109, ⟨trivial, ⟨G_q301, trivial, trivial⟩, trivial⟩, trivial⟩⟩, ⟨G_q61, ⟨trivial, ⟨G_q157, ⟨G_q285, trivial, trivial⟩, trivial⟩, ⟨G_q221, trivial, trivial⟩⟩, ⟨G_q125, ⟨G_q189, trivial, trivial⟩, trivial⟩⟩⟩⟩⟩⟩, ⟨trivial, ⟨trivial, ⟨trivial, ⟨G_q16, ⟨trivial, ⟨G_q64, ⟨G_q128, trivial, trivial⟩, trivial⟩, ⟨G_q96, ⟨G_q160, ⟨G_q288, trivial, trivial⟩, trivial⟩, ⟨G_q224, trivial, trivial⟩⟩⟩, ⟨G_q48, ⟨G_q80, ⟨G_q144, ⟨G_q272, trivial, trivial⟩, ⟨G_q400, trivial, trivial⟩⟩, ⟨G_q208, ⟨G_q336, trivial, trivial⟩, trivial⟩⟩, ⟨G_q112, trivial, ⟨G_q240, ⟨G_q368, trivial, trivial⟩, trivial⟩⟩⟩⟩, ⟨G_q24, ⟨G_q40, ⟨G_q72, trivial, ⟨G_q200, ⟨G_q328, trivial, trivial⟩, trivial⟩⟩, ⟨G_q104, ⟨G_q168, trivial, trivial⟩, trivial⟩⟩, ⟨G_q56, ⟨G_q88, ⟨trivial, ⟨G_q280, trivial, trivial⟩, trivial⟩, ⟨G_q216, trivial, trivial⟩⟩, ⟨G_q120, trivial, trivial⟩⟩⟩⟩, ⟨trivial, ⟨G_q20, ⟨G_q36, ⟨G_q68, trivial, ⟨trivial, ⟨G_q324, trivial, trivial⟩, trivial⟩⟩, ⟨G_q100, ⟨G_q164, ⟨G_q292, trivial, trivial⟩, trivial⟩, ⟨G_q228, trivial, trivial⟩⟩⟩, ⟨G_q52, ⟨G_q84, ⟨G_q148, ⟨G_q276, trivial, trivial⟩, ⟨G_q404, trivial, trivial⟩⟩, ⟨G_q212, trivial, trivial⟩⟩, ⟨G_q116, ⟨trivial, ⟨G_q308, trivial, trivial⟩, trivial⟩, ⟨G_q244, trivial, trivial⟩⟩⟩⟩, ⟨trivial, ⟨G_q44, ⟨G_q76, ⟨G_q140, ⟨G_q268, trivial, trivial⟩, trivial⟩, ⟨G_q204, ⟨G_q332, trivial, trivial⟩, trivial⟩⟩, ⟨G_q108, ⟨trivial, ⟨G_q300, trivial, trivial⟩, trivial⟩, trivial⟩⟩, ⟨trivial, ⟨G_q92, ⟨G_q156, trivial, trivial⟩, ⟨G_q220, trivial, trivial⟩⟩, ⟨G_q124, ⟨G_q188, trivial, trivial⟩, ⟨G_q252, trivial, trivial⟩⟩⟩⟩⟩⟩, ⟨trivial, ⟨trivial, ⟨G_q18, ⟨G_q34, ⟨G_q66, ⟨G_q130, trivial, trivial⟩, ⟨G_q194, trivial, trivial⟩⟩, ⟨G_q98, ⟨G_q162, ⟨G_q290, trivial, trivial⟩, trivial⟩, ⟨G_q226, trivial, trivial⟩⟩⟩, ⟨G_q50, ⟨trivial, ⟨G_q146, ⟨G_q274, trivial, trivial⟩, ⟨G_q402, trivial, trivial⟩⟩, ⟨G_q210, trivial, trivial⟩⟩, ⟨G_q114, trivial, ⟨G_q242, trivial, trivial⟩⟩⟩⟩, ⟨G_q26, ⟨G_q42, ⟨G_q74, ⟨G_q138, trivial, trivial⟩, trivial⟩, ⟨G_q106, ⟨G_q170, trivial, trivial⟩, trivial⟩⟩, ⟨G_q58, ⟨G_q90, ⟨G_q154, ⟨G_q282, trivial, trivial⟩, trivial⟩, ⟨G_q218, trivial, trivial⟩⟩, ⟨G_q122, ⟨G_q186, trivial, trivial⟩, trivial⟩⟩⟩⟩, ⟨trivial, ⟨G_q22, ⟨G_q38, ⟨G_q70, ⟨G_q134, trivial, trivial⟩, ⟨G_q198, trivial, trivial⟩⟩, ⟨G_q102, ⟨G_q166, trivial, trivial⟩, ⟨G_q230, trivial, trivial⟩⟩⟩, ⟨G_q54, ⟨G_q86, ⟨trivial, trivial, ⟨G_q406, trivial, trivial⟩⟩, ⟨G_q214, trivial, trivial⟩⟩, ⟨G_q118, ⟨G_q182, trivial, trivial⟩, trivial⟩⟩⟩, ⟨G_q30, ⟨G_q46, ⟨G_q78, ⟨G_q142, ⟨G_q270, trivial, trivial⟩, ⟨G_q398, trivial, trivial⟩⟩, ⟨G_q206, ⟨G_q334, trivial, trivial⟩, trivial⟩⟩, ⟨G_q110, ⟨trivial, ⟨G_q302, trivial, trivial⟩, trivial⟩, trivial⟩⟩, ⟨G_q62, ⟨G_q94, ⟨G_q158, ⟨G_q286, trivial, trivial⟩, trivial⟩, ⟨G_q222, trivial, trivial⟩⟩, ⟨G_q126, ⟨G_q190, trivial, trivial⟩, ⟨G_q254, trivial, trivial⟩⟩⟩⟩⟩⟩⟩⟩
end Go.Proofs.YtldbbnkacahndabGreatDoor

namespace Go.Proofs.YtldbbnkacahndabGreatDoor
open Go.L
set_option maxRecDepth 100000
theorem ownTexts_nil : PureL Tryz.prog 34 [.nils] (.bool true) := CallL.ofRun codes_ok (loops := 10) (d := 60) rfl rfl (by kernel_rfl)
theorem ownInts_nil : PureL Tryz.prog 35 [.nils] (.bool true) := CallL.ofRun codes_ok (loops := 10) (d := 60) rfl rfl (by kernel_rfl)
theorem ownSpans_nil : PureL Tryz.prog 36 [.nils] (.bool true) := CallL.ofRun codes_ok (loops := 10) (d := 60) rfl rfl (by kernel_rfl)
theorem ownImports_nil : PureL Tryz.prog 37 [.nils] (.bool true) := CallL.ofRun codes_ok (loops := 10) (d := 60) rfl rfl (by kernel_rfl)
theorem ownEnumValues_nil : PureL Tryz.prog 38 [.nils] (.bool true) := CallL.ofRun codes_ok (loops := 10) (d := 60) rfl rfl (by kernel_rfl)
theorem ownFieldDefs_nil : PureL Tryz.prog 39 [.nils] (.bool true) := CallL.ofRun codes_ok (loops := 10) (d := 60) rfl rfl (by kernel_rfl)
theorem ownSymbols_nil : PureL Tryz.prog 40 [.nils] (.bool true) := CallL.ofRun codes_ok (loops := 10) (d := 60) rfl rfl (by kernel_rfl)
theorem ownRows_nil : PureL Tryz.prog 41 [.nils] (.bool true) := CallL.ofRun codes_ok (loops := 10) (d := 60) rfl rfl (by kernel_rfl)
theorem ownTokens_nil : PureL Tryz.prog 42 [.nils] (.bool true) := CallL.ofRun codes_ok (loops := 10) (d := 60) rfl rfl (by kernel_rfl)
theorem ownVerdicts_nil : PureL Tryz.prog 43 [.nils] (.bool true) := CallL.ofRun codes_ok (loops := 10) (d := 60) rfl rfl (by kernel_rfl)
theorem ownCached_nil : PureL Tryz.prog 44 [.nils] (.bool true) := CallL.ofRun codes_ok (loops := 10) (d := 60) rfl rfl (by kernel_rfl)
theorem ownPinned_nil : PureL Tryz.prog 45 [.nils] (.bool true) := CallL.ofRun codes_ok (loops := 10) (d := 60) rfl rfl (by kernel_rfl)
theorem ownRaws_nil : PureL Tryz.prog 46 [.nils] (.bool true) := CallL.ofRun codes_ok (loops := 10) (d := 60) rfl rfl (by kernel_rfl)
theorem ownEnums_nil : PureL Tryz.prog 47 [.nils] (.bool true) := CallL.ofRun codes_ok (loops := 10) (d := 60) rfl rfl (by kernel_rfl)
theorem ownMessages_nil : PureL Tryz.prog 48 [.nils] (.bool true) := CallL.ofRun codes_ok (loops := 10) (d := 60) rfl rfl (by kernel_rfl)
theorem ownFiles_nil : PureL Tryz.prog 49 [.nils] (.bool true) := CallL.ofRun codes_ok (loops := 10) (d := 60) rfl rfl (by kernel_rfl)
theorem ownValues_nil : PureL Tryz.prog 50 [.nils] (.bool true) := CallL.ofRun codes_ok (loops := 10) (d := 60) rfl rfl (by kernel_rfl)
theorem ownFields_nil : PureL Tryz.prog 51 [.nils] (.bool true) := CallL.ofRun codes_ok (loops := 10) (d := 60) rfl rfl (by kernel_rfl)
theorem ownMsgs_nil : PureL Tryz.prog 52 [.nils] (.bool true) := CallL.ofRun codes_ok (loops := 10) (d := 60) rfl rfl (by kernel_rfl)
theorem ownBoxes_nil : PureL Tryz.prog 53 [.nils] (.bool true) := CallL.ofRun codes_ok (loops := 10) (d := 60) rfl rfl (by kernel_rfl)
theorem ownResults_nil : PureL Tryz.prog 54 [.nils] (.bool true) := CallL.ofRun codes_ok (loops := 10) (d := 60) rfl rfl (by kernel_rfl)
theorem ownDones_nil : PureL Tryz.prog 55 [.nils] (.bool true) := CallL.ofRun codes_ok (loops := 10) (d := 60) rfl rfl (by kernel_rfl)
end Go.Proofs.YtldbbnkacahndabGreatDoor

namespace Go.Proofs.YtldbbnkacahndabGreatDoor
open Go.L
abbrev TB : TypeId := 57
def bookC (v : AV) : List AV := [v, .nils, .nils, .nils, .nils, .nils, .nils, .nils, .nils, .nils, .nils, .nils, .nils, .nils, .nils, .nils, .nils, .nils, .nils, .nils, .nils, .nils, .nils]
structure Bk (h0 : Hp) (B : Nat) (H : Hp) (us : List AV) : Prop where
 b0 : h0.u B = false
 at_ : ∃ v, H B = some (.row TB [bookC v]) ∧ blkOf v ≠ some B ∧ Acc Tbl h0 H v (one us)
theorem Bk.keep {h0 : Hp} {B : Nat} {H H' : Hp} {us : List AV} (k : Bk h0 B H us) (g : Gr H H') : Bk h0 B H' us := by
 obtain ⟨v, h1, h2, h3⟩ := k.at_
 exact ⟨k.b0, v, g.blk h1, h2, h3.keep g⟩
theorem Book_Bytes_L (h0 H : Hp) (B : Nat) (x : AV) (us : List AV) (k : Bk h0 B H us) (hx : x = .nils ∨ ∃ i n c, x = .slc i 0 n c) (hl : us.length ≤ 1000000) :
  CallL Tryz.prog F_lexiconref00_Book_Bytes [.ptr B 0 0, x] H fun r H' => r = .ret (.tup []) ∧ Bk h0 B H' (us ++ [x]) ∧ (∀ y b, H y = some b → y ≠ B → (∀ row, b ≠ .row Tbl row) → H' y = some b) ∧ (∀ y, H.u y = true → H'.u y = true) := by
 obtain ⟨hb0, v, hB, hv, ha⟩ := k
 have hxf : flat [x] = true := by rcases hx with rfl | ⟨i, n, c, rfl⟩ <;> rfl
 refine K_lexiconref00_Book_Bytes (md := false) ?_
 refine ⟨_, _, _, _, hB, rfl, rfl, ?_⟩
 refine ⟨[x], by rcases hx with rfl | ⟨i, n, c, rfl⟩ <;> rfl, fun tb htb => ?_⟩
 have hne : B ≠ tb := ne_of_u (Hp.used hB) htb.1
 have hB1 : (H.set tb (.row Tbl [[x]])).m B = some (.row TB [bookC v]) := (Hp.set_ne hne).trans hB
 refine ⟨one [x], ⟨_, _, Hp.set_same _ _ _, Nat.le_refl _, rfl⟩, ?_⟩
 refine Acc.app (ha.set htb.1 _) (fun cs hcs => by rw [List.mem_singleton.1 hcs]; rfl) (fun cs hcs => by rw [List.mem_singleton.1 hcs]; exact hxf) (by rw [one_len, one_len]; unfold capMax; simp; omega) (by rw [one_len, one_len]; unfold capMax; simp; omega) fun v' H' ha' hfr hu => ?_
 have hb' : H' B = some (.row TB [bookC v]) := (hfr B (Hp.used hB1) hv).trans hB1
 have hv' : blkOf v' ≠ some B := fun e => by
  rcases ha'.2 with ⟨rfl, _⟩ | ⟨j, row, rfl, h2, h3, _⟩
  ·cases e
  ·cases e
   rw [hb'] at h3
   injection h3 with h3
   injection h3 with h3 _
   exact absurd h3 (by decide)
 have hfl : flat [v'] = true := by rcases ha'.shape with rfl | ⟨j, n, rfl⟩ <;> rfl
 have hnt : notTup v' = true := by rcases ha'.shape with rfl | ⟨j, n, rfl⟩ <;> rfl
 have hc : v'.cells = [v'] := by rcases ha'.shape with rfl | ⟨j, n, rfl⟩ <;> rfl
 refine ⟨_, _, _, hb', rfl, hnt, by show v'.cells.length = 1; rw [hc]; rfl, by show flat v'.cells = true; rw [hc]; exact hfl, by show 1 ≤ 23; decide, ?_⟩
 refine ⟨rfl, rfl, ⟨hb0, v', ?_, hv', ?_⟩, fun y b hy hyB hrow => ?_, fun y hy => ?_⟩
 ·rw [Hp.set_same]
  show some (Blk.row TB [(bookC v).take 0 ++ v'.cells ++ (bookC v).drop 1]) = _
  rw [hc]; rfl
 ·have e : one (us ++ [x]) = one us ++ one [x] := List.map_append
  rw [e]
  refine ⟨ha'.1.set hb0 _, ?_⟩
  rcases ha'.2 with h | ⟨j, row, rfl, h2, h3, h4⟩
  ·exact .inl h
  ·exact .inr ⟨j, row, rfl, h2, (Hp.set_ne fun e => hv' (by rw [e]; rfl)).trans h3, h4⟩
 ·have hyt : y ≠ tb := ne_of_u (Hp.used hy) htb.1
  refine (Hp.set_ne hyB).trans ((hfr y (by rw [Hp.set_u, Hp.used hy]; simp) fun e => ?_).trans ((Hp.set_ne hyt).trans hy))
  rcases ha.2 with ⟨rfl, _⟩ | ⟨j, row, rfl, _, h3, _⟩
  ·cases e
  ·cases e
   rw [h3] at hy; cases hy
   exact hrow row rfl
 ·rw [Hp.set_u, hu y (by rw [Hp.set_u, hy]; simp)]; simp
theorem Book_Own_L (h0 H : Hp) (B : Nat) (us : List AV) (ds : List (List Int)) (k : Bk h0 B H us) (ho : OwnXX Tb H us (bxx ds)) (hBu : ∀ u ∈ us, blkOf u ≠ some B) (hne : us ≠ []) (hlen : us.length ≤ 1000000) (hd : ∀ d ∈ ds, d.length ≤ 1000000000) :
  CallL Tryz.prog F_lexiconref00_Book_Own [.ptr B 0 0] H fun r H' => r = .ret (.bool true) ∧ ∀ y b, H y = some b → (∀ row, b ≠ .row Tbl row) → (∀ u ∈ us, blkOf u ≠ some y) → H' y = some b := by
 obtain ⟨hb0, v, hB, hv, ha⟩ := k
 obtain ⟨j, row, rfl, hj, hrow, ht, hl⟩ := ha.slc (by cases us with
  | nil => exact absurd rfl hne
  | cons u us => simp [one])
 rw [one_len] at *
 have hju : ∀ u ∈ us, blkOf u ≠ some j := fun u hu e => by
  obtain ⟨i, hi⟩ := List.getElem?_of_mem hu
  obtain ⟨d, hd'⟩ := get_lt (l := bxx ds) (k := i) (by rw [ho.len]; exact (List.getElem?_eq_some_iff.1 hi).1)
  rcases ho.own i u d hi hd' with ⟨rfl, _⟩ | ⟨b, r, q, rfl, h2, _⟩
  ·cases e
  ·cases e
   rw [hrow] at h2
   injection h2 with h2
   injection h2 with h2 _
   exact absurd h2 (by decide)
 have hjB : B ≠ j := fun e => hv (by rw [e]; rfl)
 refine open_all (z := 1) (by kernel_rfl) hju (fun us' H' row' h1 h2 h3 h4 h5 h6 h7 => ?_) us.length us H row (Nat.le_refl _) rfl hrow (fun i u hu => ?_) ho (fun i u d hi => by omega) (fun i u hu => ⟨u, hu, rfl⟩) (fun _ _ _ => rfl)
 ·have hB' : H' B = some (.row TB [bookC (.slc j 0 us.length none)]) := (h7 B hjB hBu).trans hB
  have hBu' : ∀ u ∈ us', blkOf u ≠ some B := fun u hu e => by
   obtain ⟨w, hw, hw2⟩ := h6 u hu B e
   exact hBu w hw hw2
  rw [← h4] at hB' hlen
  refine K_lexiconref00_Book_Own (md := false) ?_
  refine ⟨_, _, _, _, hB', rfl, rfl, ?_⟩
  refine (ownBytes_L us' ds H' j ⟨row', h1, h2⟩ h5 h3 hlen hd).mono ?_
  rintro r H2 ⟨rfl, hF⟩
  have hB2 : H2 B = some (.row TB [bookC (.slc j 0 us'.length none)]) := (hF.m B (Hp.used hB') hBu').trans hB'
  have hfin : ∀ y b, H y = some b → (∀ row, b ≠ .row Tbl row) → (∀ u ∈ us, blkOf u ≠ some y) → H2 y = some b := fun y b hy hty hyu => by
   have hyj : y ≠ j := fun e => by rw [e, hrow] at hy; cases hy; exact hty row rfl
   have hy' : H' y = some b := (h7 y hyj hyu).trans hy
   exact (hF.m y (Hp.used hy') fun u hu e => let ⟨w, hw, hw2⟩ := h6 u hu y e; hyu w hw hw2).trans hy'
  clear hF hju hBu ho hrow ht hl hj ha hv hB' hBu' h1 h2 h3 h4 h5 h6 h7
  refine ⟨_, _, _, _, hB2, rfl, rfl, ?_⟩
  refine ownTexts_nil.use ?_
  refine ⟨_, _, _, _, hB2, rfl, rfl, ?_⟩
  refine ownInts_nil.use ?_
  refine ⟨_, _, _, _, hB2, rfl, rfl, ?_⟩
  refine ownSpans_nil.use ?_
  refine ⟨_, _, _, _, hB2, rfl, rfl, ?_⟩
  refine ownImports_nil.use ?_
  refine ⟨_, _, _, _, hB2, rfl, rfl, ?_⟩
  refine ownEnumValues_nil.use ?_
  refine ⟨_, _, _, _, hB2, rfl, rfl, ?_⟩
  refine ownFieldDefs_nil.use ?_
  refine ⟨_, _, _, _, hB2, rfl, rfl, ?_⟩
  refine ownSymbols_nil.use ?_
  refine ⟨_, _, _, _, hB2, rfl, rfl, ?_⟩
  refine ownRows_nil.use ?_
  refine ⟨_, _, _, _, hB2, rfl, rfl, ?_⟩
  refine ownTokens_nil.use ?_
  refine ⟨_, _, _, _, hB2, rfl, rfl, ?_⟩
  refine ownVerdicts_nil.use ?_
  refine ⟨_, _, _, _, hB2, rfl, rfl, ?_⟩
  refine ownCached_nil.use ?_
  refine ⟨_, _, _, _, hB2, rfl, rfl, ?_⟩
  refine ownPinned_nil.use ?_
  refine ⟨_, _, _, _, hB2, rfl, rfl, ?_⟩
  refine ownRaws_nil.use ?_
  refine ⟨_, _, _, _, hB2, rfl, rfl, ?_⟩
  refine ownEnums_nil.use ?_
  refine ⟨_, _, _, _, hB2, rfl, rfl, ?_⟩
  refine ownMessages_nil.use ?_
  refine ⟨_, _, _, _, hB2, rfl, rfl, ?_⟩
  refine ownFiles_nil.use ?_
  refine ⟨_, _, _, _, hB2, rfl, rfl, ?_⟩
  refine ownValues_nil.use ?_
  refine ⟨_, _, _, _, hB2, rfl, rfl, ?_⟩
  refine ownFields_nil.use ?_
  refine ⟨_, _, _, _, hB2, rfl, rfl, ?_⟩
  refine ownMsgs_nil.use ?_
  refine ⟨_, _, _, _, hB2, rfl, rfl, ?_⟩
  refine ownBoxes_nil.use ?_
  refine ⟨_, _, _, _, hB2, rfl, rfl, ?_⟩
  refine ownResults_nil.use ?_
  refine ⟨_, _, _, _, hB2, rfl, rfl, ?_⟩
  refine ownDones_nil.use ?_
  exact ⟨rfl, rfl, hfin⟩
 ·have hi := (List.getElem?_eq_some_iff.1 hu).1
  have := one_get hu
  rw [← ht, List.getElem?_take_of_lt hi] at this
  rw [Nat.zero_add]; exact this
end Go.Proofs.YtldbbnkacahndabGreatDoor

namespace Go.Proofs.YtldbbnkacahndabGreatDoor
open Go.L
abbrev F_lexiconlaw23_lists : Nat := 4
def A_lexiconlaw23_lists_0 : LA := [mv 5 4, mv 6 0, We 7 6, Wb 8 .lss 5 7, mv 9 8, Wgm 10 3 9, g_ 11 (.bini .leq (.t 10) (i_ 4194304)) 9, Wp 12 9 11]
def A_lexiconlaw23_lists_1 : LA := [mv 15 3, Wi 16 .add 15 16, mv 17 0, mv 18 4, Wa 19 25 1 17 18, Wl 20 19, We 21 20, Wb 22 .add 16 21, mv 3 22]
def A_lexiconlaw23_lists_2 : LA := [mv 13 4, Wi 14 .add 13 1, mv 4 14]
def A_lexiconlaw23_lists_3 : ACode := (.seq (.seq (.ops A_lexiconlaw23_lists_0) (.cond (.t 12) .skip (.exit 0))) (.seq (.block 1 (.ops A_lexiconlaw23_lists_1)) (.ops A_lexiconlaw23_lists_2)))
def A_lexiconlaw23_lists_4 : LA := [mv 23 3, Wi 24 .gtr 23 4194304, mv 2 24]
def A_lexiconlaw23_lists : ACode := (.seq (.ops [Wo 2 false]) (.seq (.ops [Wm 3 0]) (.seq (.seq (.ops [Wm 4 0]) (.block 0 (.loop A_lexiconlaw23_lists_3))) (.seq (.ops A_lexiconlaw23_lists_4) .ret))))
def R_lexiconlaw23_lists : List ARes := [.tmp 2]
theorem C_lexiconlaw23_lists : compF Tryz.prog Tryz.f4 = some (A_lexiconlaw23_lists, R_lexiconlaw23_lists) := by kernel_rfl
theorem K_lexiconlaw23_lists {md : Bool} {args : List AV} {h : Hp} {Q : Res → Hp → Prop} (hl : LCode Tryz.prog md A_lexiconlaw23_lists (EndQ R_lexiconlaw23_lists Q) (env0 25 args) h) (hn : args.length ≤ 25 := by (simp; done)) : CallL Tryz.prog F_lexiconlaw23_lists args h Q :=
 CallL.of (md := md) Tryz.func4 C_lexiconlaw23_lists (by rw [Tryz.ntmps4]; exact hn) (by rw [Tryz.ntmps4]; exact hl)
end Go.Proofs.YtldbbnkacahndabGreatDoor

namespace Go.Proofs.YtldbbnkacahndabGreatDoor
open Go.L
theorem AccE.adopt {T K b : Nat} {h1 h' : Hp} {v : AV} {es : List (List AV)} (a : AccE T Hp.nil h1 v es) (hK : ∀ i, h1.u i = true → i < K) (hf : ∀ i, i < K → Fresh h' (b + i)) (hr : ∀ cs ∈ es, ∀ v ∈ cs, v.ren b = v) (hm : m0ss es = true) :
  AccE T h' (h'.adopt b K fun i => renB b (h1 i)) (v.ren b) es := by
 refine ⟨Gr.adopt hf, ?_⟩
 rcases a.2 with ⟨rfl, rfl⟩ | ⟨j, rfl, _, hj⟩
 ·exact .inl ⟨rfl, rfl⟩
 ·have hjK := hK j (Hp.used hj)
  refine .inr ⟨b + j, rfl, (hf j hjK).1, ?_⟩
  rw [Hp.adopt_in ⟨by omega, by omega⟩, show b + j - b = j by omega, hj]
  show cond (m0ss es) (some (Blk.row T (renss b es))) none = some (Blk.row T es)
  rw [hm, renss_id hr]; rfl
theorem Pack_lent (x : AV) (lim : Int) (ls : List Str) (h : Hp) (hx : Fz anyMark 1 h x (.isl 1 (lb 1 ls))) (hn : ls.length ≤ 1000000) (hb : bulk ls ≤ 1000000000) :
  CallL Tryz.prog F_stream_Pack [.int .i64 lim, x] h fun r h' => ∃ v, r = .ret (.tup [v, .int .i64 (packR lim ls).2.1, .int .i64 (packR lim ls).2.2]) ∧ AccE Tb h h' v (bt (packR lim ls).1) := by
 refine (CallL.lentE (Q := fun v h1 => ∃ w, v = .tup [w, .int .i64 (packR lim ls).2.1, .int .i64 (packR lim ls).2.2] ∧ AccE Tb Hp.nil h1 w (bt (packR lim ls).1)) (FzL.two (.same _ rfl) hx) ((Pack_L 1 1 lim ls Hp.nil hn hb).mono ?_)).mono ?_
 ·rintro r h1 ⟨v, rfl, ha⟩
  refine ⟨_, rfl, ?_, v, rfl, ha⟩
  rcases ha.2 with ⟨rfl, _⟩ | ⟨j, rfl, _⟩ <;> rfl
 ·rintro r h2 ⟨v, h1, b, K, rfl, ⟨w, rfl, ha⟩, hK, hf, rfl⟩
  exact ⟨w.ren b, rfl, AccE.adopt ha hK hf (ren_bt b _) (m0ss_bt _)⟩
theorem bulk_succ {ls : List Str} {k : Nat} {s : Str} (h : ls[k]? = some s) : bulk (ls.take (k + 1)) = bulk (ls.take k) + s.length := by
 rw [List.take_succ_of_get h]
 generalize ls.take k = l
 induction l with
 | nil => simp [bulk]
 | cons t l ih => simp only [List.cons_append, bulk, List.map_cons, List.foldr_cons] at ih ⊢; omega
theorem lists_L (g g' : Nat) (ls : List Str) (h : Hp) (hn : ls.length ≤ 1000000000000000) (hs : ∀ s ∈ ls, s.length ≤ 1000000000000000) :
  CallL Tryz.prog F_lexiconlaw23_lists [.isl g (lb g' ls)] h fun r h' => h' = h ∧ ∃ t, r = .ret (.bool t) ∧ (t = false → 16 * ls.length + bulk ls ≤ 4194304) := by
 have hll := lb_len g' ls
 refine K_lexiconlaw23_lists (md := false) ?_
 refine s_blk (id := 0) (fun e' h' => h' = h ∧ e'.ds = [] ∧ ∃ n : Nat, n ≤ 2000000000000000 ∧ (n ≤ 4194304 → 16 * ls.length + bulk ls ≤ 4194304) ∧ Has e' [(3, .int .i64 n)]) ?_ ?_
 ·refine s_loop ls.length (fun k (s : Nat) => k ≤ ls.length ∧ s = 16 * k + bulk (ls.take k) ∧ (s ≤ 2000000000000000)) (fun k s => [(0, .isl g (lb g' ls)), (3, .int .i64 (s : Nat)), (4, .int .i64 k)]) (fun _ _ => h) 0 ⟨Nat.zero_le _, by simp [bulk], by omega⟩ rfl rfl ⟨rfl, rfl, rfl, trivial⟩ (fun k s hI => hI.1) ?_
  rintro k n n0 g0 hk ⟨_, hn1, hn2⟩
  refine s_lt (fun h1 => ?_) (fun h1 => ?_)
  ·refine s_le (fun (h2 : (n : Int) ≤ 4194304) => ?_) (fun (h2 : (4194304 : Int) < n) => ?_)
   ·obtain ⟨s, hk2⟩ := get_lt (l := ls) (k := k) (by omega)
    have hsl := bt_len s
    have hs2 := hs s (List.mem_of_getElem? hk2)
    refine s_nat (n + 16) (by omega) (by omega) ?_
    refine s_at k s rfl hk2 rfl (by decide) ?_
    refine ⟨_, rfl, ?_⟩
    refine s_nat (n + 16 + s.length) (by rw [hsl]; omega) (by omega) ?_
    refine s_nat (k + 1) (by omega) (by omega) ?_
    refine ⟨n + 16 + s.length, by omega, ⟨by omega, ?_, by omega⟩, rfl, rfl, rfl, rfl, rfl, trivial⟩
    rw [bulk_succ hk2]; omega
   ·exact ⟨rfl, rfl, n, hn2, fun h => by omega, rfl, trivial⟩
  ·refine ⟨rfl, rfl, n, hn2, fun h => ?_, rfl, trivial⟩
   rw [hll] at h1
   rw [List.take_of_length_le (by omega)] at hn1; omega
 ·rintro e' h' ⟨rfl, hd, n, hn2, hq, hs2⟩
  obtain ⟨n0, g0, rfl⟩ := hs2.out hd
  refine s_lt (fun h1 => ?_) (fun h1 => ?_)
  ·exact ⟨rfl, rfl, _, rfl, fun h => by cases h⟩
  ·exact ⟨rfl, rfl, _, rfl, fun _ => hq (by omega)⟩
structure LentU (h0 H : Hp) (us : List AV) (ls : List Str) : Prop where
 len : us.length = ls.length
 own : ∀ (i : Nat) (u : AV) (s : Str), us[i]? = some u → ls[i]? = some s → ∃ b, u = .slc b 0 s.length (some (s.length + 8)) ∧ H b = some (.row Tb (bt (s ++ marks))) ∧ h0.u b = false
 apart : ∀ (i j : Nat) (u v : AV) (b : Nat), us[i]? = some u → us[j]? = some v → blkOf u = some b → blkOf v = some b → i = j
theorem LentU.nil (h0 H : Hp) : LentU h0 H [] [] := ⟨rfl, fun i u d h => by simp at h, fun i j u v b h => by simp at h⟩
theorem LentU.gr {h0 H H' : Hp} {us : List AV} {ls : List Str} (g : Gr H H') (k : LentU h0 H us ls) : LentU h0 H' us ls :=
 ⟨k.len, fun i u s h1 h2 => let ⟨b, e1, e2, e3⟩ := k.own i u s h1 h2; ⟨b, e1, g.blk e2, e3⟩, k.apart⟩
theorem LentU.blk {h0 H : Hp} {us : List AV} {ls : List Str} (k : LentU h0 H us ls) {u : AV} (hu : u ∈ us) {b : Nat} (hb : blkOf u = some b) : H.u b = true ∧ h0.u b = false := by
 obtain ⟨i, hi⟩ := List.getElem?_of_mem hu
 obtain ⟨s, hs⟩ := get_lt (l := ls) (k := i) (by rw [← k.len]; exact (List.getElem?_eq_some_iff.1 hi).1)
 obtain ⟨b', rfl, h2, h3⟩ := k.own i u s hi hs
 cases hb; exact ⟨Hp.used h2, h3⟩
theorem LentU.snoc {h0 H H' : Hp} {us : List AV} {ls : List Str} {s : Str} {b : Nat} (k : LentU h0 H us ls) (g : Gr H H') (hb : H.u b = false) (hb0 : h0.u b = false) (hH : H' b = some (.row Tb (bt (s ++ marks)))) : LentU h0 H' (us ++ [.slc b 0 s.length (some (s.length + 8))]) (ls ++ [s]) := by
 have hlen := k.len
 refine ⟨by simp [hlen], fun i u t hu ht => ?_, fun i j u v x hu hv hx hy => ?_⟩
 ·rcases snoc_get hu with ⟨h1, h2⟩ | ⟨h1, rfl⟩ <;> rcases snoc_get ht with ⟨h3, h4⟩ | ⟨h3, rfl⟩
  ·exact (k.gr g).own i u t h2 h4
  ·omega
  ·omega
  ·exact ⟨b, rfl, hH, hb0⟩
 ·rcases snoc_get hu with ⟨h1, h2⟩ | ⟨h1, rfl⟩ <;> rcases snoc_get hv with ⟨h3, h4⟩ | ⟨h3, rfl⟩
  ·exact k.apart i j u v x h2 h4 hx hy
  ·cases hy
   have := (k.blk (List.mem_of_getElem? h2) hx).1
   rw [hb] at this; cases this
  ·cases hx
   have := (k.blk (List.mem_of_getElem? h4) hy).1
   rw [hb] at this; cases this
  ·omega
theorem LentU.fz {h0 H : Hp} {us : List AV} {ls : List Str} (k : LentU h0 H us ls) {j : Nat} {row : List (List AV)} {c : Option Nat} (hj : H j = some (.row Tbl row)) (hr : ∀ (i : Nat) (u : AV), us[i]? = some u → row[0 + i]? = some [u]) (hl : us.length ≤ row.length) : Fz anyMark 1 H (.slc j 0 us.length c) (.isl 1 (lb 1 ls)) := by
 have hll := lb_len 1 ls
 refine .slc j 0 us.length c Tbl row (lb 1 ls) hj (by omega) (by rw [hll, k.len]) (fun i cs cs' h1 h2 => ?_) (fun i cs cs' q v v' h1 h2 h3 h4 => ?_)
 ·have hi := (List.getElem?_eq_some_iff.1 h2).1
  obtain ⟨u, hu⟩ := get_lt (l := us) (k := i) (by rw [k.len, ← hll]; exact hi)
  rw [hr i u hu] at h1; cases h1
  rw [lb, List.getElem?_map] at h2
  obtain ⟨s, _, rfl⟩ := Option.map_eq_some_iff.1 h2
  rfl
 ·rw [lb, List.getElem?_map] at h2
  obtain ⟨s, hs, rfl⟩ := Option.map_eq_some_iff.1 h2
  obtain ⟨u, hu⟩ := get_lt (l := us) (k := i) (by rw [k.len]; exact (List.getElem?_eq_some_iff.1 hs).1)
  rw [hr i u hu] at h1; cases h1
  match q with
  | 0 =>
   cases h3; cases h4
   obtain ⟨b, rfl, hb, _⟩ := k.own i _ s hu hs
   exact Fz_bt0 (rest := bt marks) (by rw [hb, bt_app])
  | q + 1 => simp at h3
theorem HasBody.all : HasBody Tryz.prog F_stream_All_c1 := ⟨_, Tryz.func31, by kernel_rfl, by kernel_rfl⟩
theorem All_L (v : AV) (lim : Nat) (l : Str) (h : Hp) (hv : OwnX Tb h v (bt l)) (hl : l.length ≤ 1000000000000) :
  CallL Tryz.prog F_stream_All [v, .int .i64 lim] h fun r h' => ∃ Bc Lc cv, r = .ret (.func (.func F_stream_All_c1) [] [.ptr Bc 0 0, .ptr Lc 0 0]) ∧ Gr h h' ∧ h' Bc = some (.row Tbl [[cv]]) ∧ h' Lc = some (.row TI [[.int .i64 lim]]) ∧ OwnX Tb h' cv (bt l) ∧ h.u Bc = false ∧ h.u Lc = false ∧ (∀ b, blkOf cv = some b → h.u b = false) := by
 have ho := hv.one
 refine K_stream_All (md := false) ?_
 refine ⟨ho.1, by show v.cells.length = 1; rw [ho.2.1]; rfl, fun Bc hBc => ?_⟩
 refine ⟨rfl, rfl, fun Lc hLc => ?_⟩
 have g1 : Gr h (h.set Bc (.row Tbl [v.cells])) := Gr.new1 h hBc.1 _
 have g2 : Gr h ((h.set Bc (.row Tbl [v.cells])).set Lc (.row TI [[.int .i64 lim]])) := g1.set (g1.new hLc.1) _
 have hne : Bc ≠ Lc := fun e => by
  have := hLc.1
  rw [← e, Hp.set_u, if_pos rfl] at this; cases this
 have hB2 : ((h.set Bc (.row Tbl [v.cells])).set Lc (.row TI [[.int .i64 lim]])) Bc = some (.row Tbl [v.cells]) := (Hp.set_ne hne).trans (Hp.set_same _ _ _)
 refine ⟨Tbl, _, v.cells, v, hB2, rfl, by rw [ho.2.1]; rfl, ?_⟩
 refine (Clone_own (hv.gr g2) hl).mono ?_
 rintro r h3 ⟨cv, rfl, hcv, hg3, hn3⟩
 have hc1 := hcv.one
 refine ⟨Tbl, _, v.cells, hg3.blk hB2, rfl, hc1.1, by show cv.cells.length = 1; rw [hc1.2.1]; rfl, by show flat cv.cells = true; rw [hc1.2.1]; exact hc1.2.2, by show 1 ≤ v.cells.length; rw [ho.2.1]; exact Nat.le_refl 1, ?_⟩
 have hbc : blkOf cv ≠ some Bc := fun e => by
  have := hn3 Bc e
  rw [Hp.used hB2] at this; cases this
 refine ⟨rfl, Bc, Lc, cv, rfl, (g2.trans hg3).set hBc.1 _, ?_, (Hp.set_ne (Ne.symm hne)).trans (hg3.blk (Hp.set_same _ _ _)), ?_, hBc.1, g1.new hLc.1, fun b hb => g2.new (hn3 b hb)⟩
 ·rw [Hp.set_same]
  show some (Blk.row Tbl [v.cells.take 0 ++ cv.cells ++ v.cells.drop 1]) = _
  rw [ho.2.1, hc1.2.1]; rfl
 ·rcases hcv with ⟨rfl, h⟩ | ⟨b, row, q, rfl, h1, h2⟩
  ·exact .inl ⟨rfl, h⟩
  ·exact .inr ⟨b, row, q, rfl, (Hp.set_ne fun e => hbc (by rw [e]; rfl)).trans h1, h2⟩
end Go.Proofs.YtldbbnkacahndabGreatDoor

namespace Go.Proofs.YtldbbnkacahndabGreatDoor
open Go.L
abbrev F_lexiconlaw23_StreamPacks : Nat := 3
def A_lexiconlaw23_StreamPacks_0 : LA := [o_ 3 (.box 22 1 (.t 1)), o_ 4 (.box 4 1 (.c (.bool false)))]
def A_lexiconlaw23_StreamPacks_1 : LA := [Wl 26 3, o_ 27 (.call 4 [(.t 26)])]
def A_lexiconlaw23_StreamPacks_2 : LA := [o_ 28 (.call 5 []), mv 5 28]
def A_lexiconlaw23_StreamPacks_3 : LA := [mv 29 7, Wl 30 3, We 31 30, Wb 32 .lss 29 31]
def A_lexiconlaw23_StreamPacks_4 : LA := [mv 35 6, Wl 36 3, mv 37 7, Wa 38 25 1 36 37, Wl 39 38, o_ 40 (.call 6 [(.t 39)]), o_ 41 (.bslice 25 1 1 [.nils] [(0, 1, (.t 40))]), o_ 42 (.app 25 1 24 (.t 35) (.t 41)), mv 6 42]
def A_lexiconlaw23_StreamPacks_5 : LA := [mv 33 7, Wi 34 .add 33 1, mv 7 34]
def A_lexiconlaw23_StreamPacks_6 : ACode := (.seq (.seq (.ops A_lexiconlaw23_StreamPacks_3) (.cond (.t 32) .skip (.exit 0))) (.seq (.block 1 (.ops A_lexiconlaw23_StreamPacks_4)) (.ops A_lexiconlaw23_StreamPacks_5)))
def A_lexiconlaw23_StreamPacks_7 : LA := [mv 43 8, mv 44 6, o_ 45 (.app 25 1 24 (.t 43) (.t 44)), mv 8 45]
def A_lexiconlaw23_StreamPacks_8 : LA := [mv 46 8, o_ 47 (.bslice 5 1 1 [.int .u8 0] [(0, 1, (.c (.int .u8 99)))]), o_ 48 (.bslice 25 1 1 [.nils] [(0, 1, (.t 47))]), o_ 49 (.app 25 1 24 (.t 46) (.t 48)), mv 8 49]
def A_lexiconlaw23_StreamPacks_9 : LA := [mv 51 0, mv 52 8, Wl 53 3, We 54 53, o_ 55 (.slcl 25 1 (.t 52) none (some (.t 54)) none), o_ 56 (.call 7 [(.t 51), (.t 55)]), mv 50 56, Wx 57 0 50, Wx 58 1 50, Wx 59 2 50, mv 9 57, mv 10 58, mv 11 59]
def A_lexiconlaw23_StreamPacks_10 : LA := [mv 61 0, mv 62 8, Wl 63 3, We 64 63, o_ 65 (.slcl 25 1 (.t 62) none (some (.t 64)) none), o_ 66 (.call 7 [(.t 61), (.t 65)]), mv 60 66, Wx 67 0 60, Wx 68 1 60, Wx 69 2 60, mv 12 67, mv 13 68, mv 14 69]
def A_lexiconlaw23_StreamPacks_11 : LA := [mv 70 8, Wl 71 3, We 72 71, Wa 73 25 1 70 72, Wl 74 73, We 75 74, Wi 76 .eql 75 1, mv 77 76, Wgm 78 8 77, Wgl 79 3 77, g_ 80 (.lenl (.t 79)) 77, g_ 81 (.iaddr 25 1 (.t 78) (.t 80)) 77, Wgl 82 81 77, g_ 83 (.iaddr 5 1 (.t 82) (i_ 0)) 77, Wgl 84 83 77, g_ 85 (.bini .eql (.t 84) (.c (.int .u8 99))) 77, Wp 86 77 85, mv 15 86]
def A_lexiconlaw23_StreamPacks_12 : LA := [mv 87 16, Wl 88 3, We 89 88, Wb 90 .lss 87 89]
def A_lexiconlaw23_StreamPacks_13 : LA := [mv 93 15, mv 94 93, Wgm 95 6 94, Wgm 96 16 94, g_ 97 (.iaddr 25 1 (.t 95) (.t 96)) 94, Wgl 98 97 94, Wgl 99 3 94, Wgm 100 16 94, g_ 101 (.iaddr 25 1 (.t 99) (.t 100)) 94, Wgl 102 101 94, g_ 103 (.call 8 [(.t 98), (.t 102)]) 94, Wp 104 94 103, mv 105 104, Wgm 106 8 105, Wgm 107 16 105, g_ 108 (.iaddr 25 1 (.t 106) (.t 107)) 105, Wgl 109 108 105, g_ 110 (.lenl (.t 109)) 105, Wgl 111 3 105, Wgm 112 16 105, g_ 113 (.iaddr 25 1 (.t 111) (.t 112)) 105, Wgl 114 113 105, g_ 115 (.lenl (.t 114)) 105, g_ 116 (.bini .eql (.t 110) (.t 115)) 105, Wp 117 105 116, mv 15 117]
def A_lexiconlaw23_StreamPacks_14 : LA := [mv 118 6, mv 119 16, Wa 120 25 1 118 119, Wl 121 120, o_ 122 (.call 9 [(.t 121)])]
def A_lexiconlaw23_StreamPacks_15 : LA := [mv 91 16, Wi 92 .add 91 1, mv 16 92]
def A_lexiconlaw23_StreamPacks_16 : ACode := (.seq (.seq (.ops A_lexiconlaw23_StreamPacks_12) (.cond (.t 90) .skip (.exit 2))) (.seq (.block 3 (.seq (.alts [93, 94, 95, 96, 97, 98, 99, 100, 101, 102, 103, 104, 105, 106, 107, 108, 109, 110, 111, 112, 113, 114, 115, 116, 117, 15] [A_lexiconlaw23_StreamPacks_13]) (.ops A_lexiconlaw23_StreamPacks_14))) (.ops A_lexiconlaw23_StreamPacks_15)))
def A_lexiconlaw23_StreamPacks_17 : LA := [mv 124 0, Wl 125 3, o_ 126 (.call 10 [(.t 124), (.t 125)]), mv 123 126, Wx 127 0 123, Wx 128 1 123, Wx 129 2 123, mv 17 127, mv 18 128, mv 19 129]
def A_lexiconlaw23_StreamPacks_18 : LA := [mv 130 9, mv 131 17, o_ 132 (.call 11 [(.t 130), (.t 131)]), mv 20 132]
def A_lexiconlaw23_StreamPacks_19 : LA := [mv 133 12, mv 134 17, o_ 135 (.call 11 [(.t 133), (.t 134)]), mv 21 135]
def A_lexiconlaw23_StreamPacks_20 : LA := [mv 136 5, o_ 137 (.not (.t 136)), mv 138 137, Whm 139 15 138, Wh 140 (.not (.t 139)) 138, Wq 141 138 140, mv 142 141, Whm 143 20 142, Wh 144 (.not (.t 143)) 142, Wq 145 142 144, mv 146 145, Whm 147 21 146, Wh 148 (.not (.t 147)) 146, Wq 149 146 148, mv 150 149, Whm 151 10 150, Whm 152 18 150, Wh 153 (.bini .neq (.t 151) (.t 152)) 150, Wq 154 150 153, mv 155 154, Whm 156 11 155, Whm 157 19 155, Wh 158 (.bini .neq (.t 156) (.t 157)) 155, Wq 159 155 158]
def A_lexiconlaw23_StreamPacks_21 : LA := [o_ 160 (.build [.nils, .nils, .nils, .nils, .nils, .nils, .nils, .nils, .nils, .nils, .nils, .nils, .nils, .nils, .nils, .nils, .nils, .nils, .nils, .nils, .nils, .nils, .nils] []), o_ 161 (.box 57 23 (.t 160)), o_ 22 (.box 33 1 (.c (.nilp))), Ws 1 22 161]
def A_lexiconlaw23_StreamPacks_22 : LA := [mv 162 10, Wi 163 .eql 162 0]
def A_lexiconlaw23_StreamPacks_23 : LA := [o_ 23 (.box 3 1 (i_ 0)), n_ (.st 1 (.t 23) (i_ 0))]
def A_lexiconlaw23_StreamPacks_24 : LA := [mv 164 17, mv 165 0, o_ 166 (.call 12 [(.t 164), (.t 165)])]
def A_lexiconlaw23_StreamPacks_25 : LA := [Wl 168 23, Wl 169 3, We 170 169, Wb 171 .geq 168 170]
def A_lexiconlaw23_StreamPacks_26 : LA := [mv 172 24, Wl 173 3, Wl 174 23, Wa 175 25 1 173 174, Wl 176 175, o_ 177 (.call 11 [(.t 172), (.t 176)]), mv 25 177]
def A_lexiconlaw23_StreamPacks_27 : LA := [mv 178 25, o_ 179 (.not (.t 178))]
def A_lexiconlaw23_StreamPacks_28 : LA := [Wl 180 22, mv 181 24, o_ 182 (.call 13 [(.t 180), (.t 181)])]
def A_lexiconlaw23_StreamPacks_29 : LA := [Wl 183 23, Wi 184 .add 183 1, Ws 1 23 184]
def A_lexiconlaw23_StreamPacks_30 : LA := [Wl 185 23, Wl 186 3, We 187 186, Wb 188 .neq 185 187]
def A_lexiconlaw23_StreamPacks_31 : LA := [Wl 189 22, mv 190 9, o_ 191 (.call 13 [(.t 189), (.t 190)])]
def A_lexiconlaw23_StreamPacks_32 : LA := [Wl 192 22, mv 193 12, o_ 194 (.call 13 [(.t 192), (.t 193)])]
def A_lexiconlaw23_StreamPacks_33 : LA := [Wl 195 22, o_ 196 (.call 14 [(.t 195)]), Ws 1 4 196]
def A_lexiconlaw23_StreamPacks : ACode := (.seq (.ops A_lexiconlaw23_StreamPacks_0) (.seq (.seq (.ops A_lexiconlaw23_StreamPacks_1) (.cond (.t 27) (.seq (.ops [n_ (.st 1 (.t 4) (.c (.bool true)))]) .ret) .skip)) (.seq (.ops A_lexiconlaw23_StreamPacks_2) (.seq (.ops [Wn 6]) (.seq (.seq (.ops [Wm 7 0]) (.block 0 (.loop A_lexiconlaw23_StreamPacks_6))) (.seq (.ops [Wn 8]) (.seq (.ops A_lexiconlaw23_StreamPacks_7) (.seq (.ops A_lexiconlaw23_StreamPacks_8) (.seq (.ops A_lexiconlaw23_StreamPacks_9) (.seq (.ops A_lexiconlaw23_StreamPacks_10) (.seq (.ops A_lexiconlaw23_StreamPacks_11) (.seq (.seq (.ops [Wm 16 0]) (.block 2 (.loop A_lexiconlaw23_StreamPacks_16))) (.seq (.ops A_lexiconlaw23_StreamPacks_17) (.seq (.ops A_lexiconlaw23_StreamPacks_18) (.seq (.ops A_lexiconlaw23_StreamPacks_19) (.seq (.seq (.ops A_lexiconlaw23_StreamPacks_20) (.cond (.t 159) (.seq (.ops [n_ (.st 1 (.t 4) (.c (.bool false)))]) .ret) .skip)) (.seq (.ops A_lexiconlaw23_StreamPacks_21) (.seq (.seq (.ops A_lexiconlaw23_StreamPacks_22) (.cond (.t 163) (.seq (.ops A_lexiconlaw23_StreamPacks_23) (.seq (.seq (.ops A_lexiconlaw23_StreamPacks_24) (.block 4 (.rngf (.t 166) [167] (.ops [mv 24 167]) (.block 5 (.seq (.seq (.ops A_lexiconlaw23_StreamPacks_25) (.cond (.t 171) (.seq (.ops [n_ (.st 1 (.t 4) (.c (.bool false)))]) .ret) .skip)) (.seq (.ops A_lexiconlaw23_StreamPacks_26) (.seq (.seq (.ops A_lexiconlaw23_StreamPacks_27) (.cond (.t 179) (.seq (.ops [n_ (.st 1 (.t 4) (.c (.bool false)))]) .ret) .skip)) (.seq (.ops A_lexiconlaw23_StreamPacks_28) (.ops A_lexiconlaw23_StreamPacks_29))))))))) (.seq (.ops A_lexiconlaw23_StreamPacks_30) (.cond (.t 188) (.seq (.ops [n_ (.st 1 (.t 4) (.c (.bool false)))]) .ret) .skip)))) .skip)) (.seq (.ops A_lexiconlaw23_StreamPacks_31) (.seq (.ops A_lexiconlaw23_StreamPacks_32) (.seq (.ops A_lexiconlaw23_StreamPacks_33) .ret)))))))))))))))))))))
def R_lexiconlaw23_StreamPacks : List ARes := [.cell1 4]
theorem C_lexiconlaw23_StreamPacks : compF Tryz.prog Tryz.f3 = some (A_lexiconlaw23_StreamPacks, R_lexiconlaw23_StreamPacks) := by kernel_rfl
end Go.Proofs.YtldbbnkacahndabGreatDoor

namespace Go.Proofs.YtldbbnkacahndabGreatDoor
open Go.L
theorem OwnX.row {T : Nat} {H H' : Hp} {u : AV} {d : List (List AV)} (g : ∀ b r, blkOf u = some b → H b = some (.row T r) → H' b = some (.row T r)) (k : OwnX T H u d) : OwnX T H' u d := by
 rcases k with k | ⟨b, row, q, rfl, h2, h3⟩
 ·exact .inl k
 ·exact .inr ⟨b, row, q, rfl, g b _ rfl h2, h3⟩
theorem OwnXX.row {T : Nat} {H H' : Hp} {us : List AV} {ds : List (List (List AV))} (g : ∀ b r, H b = some (.row T r) → H' b = some (.row T r)) (k : OwnXX T H us ds) : OwnXX T H' us ds :=
 ⟨k.len, fun i u d h1 h2 => OwnX.row (fun b r _ => g b r) (k.own i u d h1 h2), k.apart⟩
theorem OwnXX.add {T : Nat} {H : Hp} {us : List AV} {ds : List (List (List AV))} {v : AV} {d : List (List AV)} (k : OwnXX T H us ds) (o : OwnX T H v d) (hn : ∀ u ∈ us, ∀ b, blkOf u = some b → blkOf v ≠ some b) : OwnXX T H (us ++ [v]) (ds ++ [d]) := by
 have hlen := k.len
 refine ⟨by simp [hlen], fun i u e hu he => ?_, fun i j u w b hu hw hbu hbw => ?_⟩
 ·rcases snoc_get hu with ⟨h1, h2⟩ | ⟨h1, rfl⟩ <;> rcases snoc_get he with ⟨h3, h4⟩ | ⟨h3, rfl⟩
  ·exact k.own i u e h2 h4
  ·omega
  ·omega
  ·exact o
 ·rcases snoc_get hu with ⟨h1, h2⟩ | ⟨h1, rfl⟩ <;> rcases snoc_get hw with ⟨h3, h4⟩ | ⟨h3, rfl⟩
  ·exact k.apart i j u w b h2 h4 hbu hbw
  ·exact absurd hbw (hn u (List.mem_of_getElem? h2) b hbu)
  ·exact absurd hbu (hn w (List.mem_of_getElem? h4) b hbw)
  ·omega
theorem LentU.row {h0 H H' : Hp} {us : List AV} {ls : List Str} (g : ∀ b r, H b = some (.row Tb r) → H' b = some (.row Tb r)) (k : LentU h0 H us ls) : LentU h0 H' us ls :=
 ⟨k.len, fun i u s h1 h2 => let ⟨b, e1, e2, e3⟩ := k.own i u s h1 h2; ⟨b, e1, g b _ e2, e3⟩, k.apart⟩
theorem AccE.tb {h H : Hp} {v : AV} {es : List (List AV)} (a : AccE Tbl h H v es) {b : Nat} {x : Blk} (hb : H b = some x) (hx : ∀ r, x ≠ .row Tbl r) : blkOf v ≠ some b := fun e => by
 rcases a.2 with ⟨rfl, _⟩ | ⟨j, rfl, _, h2⟩
 ·cases e
 ·cases e; rw [h2] at hb; cases hb; exact hx _ rfl
theorem Tb_row (r : List (List AV)) : ∀ r', Blk.row Tb r ≠ .row Tbl r' := fun r' e => by
 injection e with e _
 exact absurd e (by decide)
theorem sp_in (ls : List Str) (lim : Int) (A Rr : Nat) (TA : TypeId) (H : Hp) (hA : H A = some (.row TA [[.isl 0 (lb 0 ls)]])) (hn : 16 * ls.length + bulk ls ≤ 4194304) (e : Env) (hd : e.ds = [])
  (hs : Has e [(0, .int .i64 lim), (3, .ptr A 0 0), (4, .ptr Rr 0 0), (5, .bool true), (6, .nils), (7, .int .i64 (0 : Nat))]) (Q : Xit → Env → Hp → Prop)
  (hQ : ∀ e' H' v us, e'.ds = [] → Has e' [(0, .int .i64 lim), (3, .ptr A 0 0), (4, .ptr Rr 0 0), (5, .bool true), (6, v)] → AccE Tbl H H' v (one us) → LentU H H' us ls → Q (.exit 0) e' H') :
  LCode Tryz.prog false (.loop A_lexiconlaw23_StreamPacks_6) Q e H := by
 have hll := lb_len 0 ls
 refine s_loop ls.length (fun k (s : Hp × AV × List AV) => k ≤ ls.length ∧ AccE Tbl H s.1 s.2.1 (one s.2.2) ∧ LentU H s.1 s.2.2 (ls.take k)) (fun k s => [(0, .int .i64 lim), (3, .ptr A 0 0), (4, .ptr Rr 0 0), (5, .bool true), (6, s.2.1), (7, .int .i64 k)]) (fun _ s => s.1) (H, .nils, []) ⟨Nat.zero_le _, AccE.nil _ _, LentU.nil _ _⟩ rfl hd hs (fun k s hI => hI.1) ?_
 rintro k ⟨H1, v, us⟩ n0 g0 hk ⟨_, ha, hu⟩
 simp only at ha hu
 have hA1 := ha.1.blk hA
 refine ⟨_, _, _, _, hA1, rfl, rfl, ?_⟩
 refine s_lt (fun h1 => ?_) (fun h1 => ?_)
 ·obtain ⟨s, hs'⟩ := get_lt (l := ls) (k := k) (by omega)
  refine ⟨_, _, _, _, hA1, rfl, rfl, ?_⟩
  refine s_at k s rfl hs' rfl (by decide) ?_
  refine ⟨_, rfl, ?_⟩
  have hbk := bulk_get hs'
  have hul : us.length = k := by rw [hu.len, List.length_take]; omega
  refine (LentBytes_L 0 s H1 (by omega)).mono ?_
  rintro r H2 ⟨b, rfl, hb, hg, hrow⟩
  refine ⟨_, rfl, fun tb htb => ?_⟩
  refine ⟨one [.slc b 0 s.length (some (s.length + 8))], ⟨_, _, Hp.set_same _ _ _, Nat.le_refl _, rfl⟩, ?_⟩
  refine AccE.app ((ha.keep hg).set htb.1 _) (fun cs hcs => by rw [List.mem_singleton.1 hcs]; rfl) (fun cs hcs => by rw [List.mem_singleton.1 hcs]; rfl) (by rw [one_len, one_len]; unfold capMax; simp; omega) (by rw [one_len, one_len]; unfold capMax; simp; omega) fun v' H3 ha3 hf3 hu3 hb3 => ?_
  refine s_nat (k + 1) (by omega) (by omega) ?_
  refine ⟨(H3, v', us ++ [.slc b 0 s.length (some (s.length + 8))]), by omega, ⟨by omega, ?_, ?_⟩, rfl, rfl, rfl, rfl, rfl, rfl, rfl, rfl, trivial⟩
  ·show AccE Tbl H H3 v' (one (us ++ _))
   rw [one, List.map_append]; exact ha3
  ·show LentU H H3 (us ++ _) (ls.take (k + 1))
   rw [List.take_succ_of_get hs']
   refine LentU.row (H := H2) (fun y r hy => ?_) (hu.snoc hg hb (ha.1.new hb) hrow)
   have hyt : y ≠ tb := ne_of_u (Hp.used hy) htb.1
   refine (hf3 y ?_ ?_).trans ?_
   ·rw [Hp.set_u, Hp.used hy]; simp
   ·exact AccE.tb (ha.keep hg) hy (Tb_row _)
   ·exact (Hp.set_ne hyt).trans hy
 ·rw [hll] at h1
  obtain rfl : k = ls.length := by omega
  rw [List.take_length] at hu
  exact hQ _ _ v us rfl ⟨rfl, rfl, rfl, rfl, rfl, trivial⟩ ha hu
theorem sp_whole (ls : List Str) (lim : Int) (A Rr j c99 : Nat) (TA : TypeId) (va vb : AV) (e1 a1 : Int) (h0 H : Hp) (v : AV) (us : List AV) (w : AV) (rowc : List AV) (hA0 : h0.u A = true) (hA : H A = some (.row TA [[.isl 0 (lb 0 ls)]])) (hn : 16 * ls.length + bulk ls ≤ 4194304)
  (hv : AccE Tbl h0 H v (one us)) (hu : LentU h0 H us ls) (hj : H j = some (.row Tbl (one us ++ [rowc]))) (e : Env) (hd : e.ds = [])
  (hs : Has e [(0, .int .i64 lim), (3, .ptr A 0 0), (4, .ptr Rr 0 0), (5, .bool true), (6, v), (8, .slc j 0 (us.length + 1) none), (9, va), (10, .int .i64 e1), (11, .int .i64 a1), (12, vb), (15, .bool true), (16, .int .i64 (0 : Nat))]) (Q : Xit → Env → Hp → Prop)
  (hQ : ∀ e' H', e'.ds = [] → Has e' [(0, .int .i64 lim), (3, .ptr A 0 0), (4, .ptr Rr 0 0), (5, .bool true), (9, va), (10, .int .i64 e1), (11, .int .i64 a1), (12, vb), (15, .bool true)] → Fr us H H' → Q (.exit 2) e' H') :
  LCode Tryz.prog false (.loop A_lexiconlaw23_StreamPacks_16) Q e H := by
 have hll := lb_len 0 ls
 have hul := hu.len
 have hAu : ∀ u ∈ us, blkOf u ≠ some A := fun u hu' e => by have := (hu.blk hu' e).2; rw [hA0] at this; cases this
 have hju : ∀ u ∈ us, blkOf u ≠ some j := fun u hu' e => by
  obtain ⟨i, hi⟩ := List.getElem?_of_mem hu'
  obtain ⟨s, hs⟩ := get_lt (l := ls) (k := i) (by rw [← hul]; exact (List.getElem?_eq_some_iff.1 hi).1)
  obtain ⟨b, rfl, h2, _⟩ := hu.own i u s hi hs
  cases e; rw [hj] at h2
  injection h2 with h2
  exact Tb_row _ _ h2.symm
 refine s_loop ls.length (fun k (s : Hp) => k ≤ ls.length ∧ Fr us H s ∧ ∀ (a : Nat) (u : AV) (t : Str), k ≤ a → us[a]? = some u → ls[a]? = some t → ∃ b, u = .slc b 0 t.length (some (t.length + 8)) ∧ s b = some (.row Tb (bt (t ++ marks))))
  (fun k _ => [(0, .int .i64 lim), (3, .ptr A 0 0), (4, .ptr Rr 0 0), (5, .bool true), (6, v), (8, .slc j 0 (us.length + 1) none), (9, va), (10, .int .i64 e1), (11, .int .i64 a1), (12, vb), (15, .bool true), (16, .int .i64 k)]) (fun _ s => s) H ⟨Nat.zero_le _, Fr.refl _ _, fun a u t _ h1 h2 => let ⟨b, q1, q2, _⟩ := hu.own a u t h1 h2; ⟨b, q1, q2⟩⟩ rfl hd hs (fun k s hI => hI.1) ?_
 rintro k H1 n0 g0 hk ⟨_, hF, hI⟩
 have hA1 : H1 A = some (.row TA [[.isl 0 (lb 0 ls)]]) := (hF.m A (Hp.used hA) hAu).trans hA
 have hj1 : H1 j = some (.row Tbl (one us ++ [rowc])) := (hF.m j (Hp.used hj) hju).trans hj
 refine ⟨_, _, _, _, hA1, rfl, rfl, ?_⟩
 refine s_lt (fun h1 => ?_) (fun h1 => ?_)
 ·obtain ⟨s, hs'⟩ := get_lt (l := ls) (k := k) (by omega)
  obtain ⟨u, hu'⟩ := get_lt (l := us) (k := k) (by omega)
  have hbk := bulk_get hs'
  have hsl := bt_len s
  obtain ⟨b, rfl, hb⟩ := hI k u s (Nat.le_refl _) hu' hs'
  obtain ⟨jv, rfl, hjv⟩ : ∃ jv, v = .slc jv 0 us.length none ∧ H1 jv = some (.row Tbl (one us)) := by
   rcases hv.2 with ⟨_, h⟩ | ⟨jv, h2, _, h3⟩
   ·have h5 := congrArg List.length h
    rw [one_len] at h5
    have h6 : us.length = 0 := h5
    have := (List.getElem?_eq_some_iff.1 hu').1
    omega
   ·rw [one_len] at h2
    refine ⟨jv, h2, (hF.m jv (Hp.used h3) fun w hw e => ?_).trans h3⟩
    obtain ⟨i, hi⟩ := List.getElem?_of_mem hw
    obtain ⟨t, ht⟩ := get_lt (l := ls) (k := i) (by rw [← hul]; exact (List.getElem?_eq_some_iff.1 hi).1)
    obtain ⟨b', rfl, h5, _⟩ := hu.own i w t hi ht
    cases e; rw [h3] at h5
    injection h5 with h5
    exact Tb_row _ _ h5.symm
  have r1 : (one us)[0 + k]? = some [.slc b 0 s.length (some (s.length + 8))] := by rw [Nat.zero_add]; exact one_get hu'
  have r2 : (one us ++ [rowc])[0 + k]? = some [.slc b 0 s.length (some (s.length + 8))] := by
   rw [Nat.zero_add, List.getElem?_append_left (by rw [one_len]; omega)]; exact one_get hu'
  refine ⟨k, rfl, by omega, ⟨_, hjv⟩, ?_⟩
  refine ⟨_, _, _, _, hjv, r1, rfl, ?_⟩
  refine ⟨_, _, _, _, hA1, rfl, rfl, ?_⟩
  refine s_at k s rfl hs' rfl (by decide) ?_
  refine ⟨_, rfl, ?_⟩
  have hw := WholeBytes_L 0 b s s H1 hb (by omega) (by omega)
  rw [beq_self_eq_true] at hw
  refine hw.mono ?_
  rintro r H1' ⟨rfl, rfl⟩
  refine ⟨k, rfl, by omega, ⟨_, hj1⟩, ?_⟩
  refine ⟨_, _, _, _, hj1, r2, rfl, ?_⟩
  refine ⟨_, _, _, _, hA1, rfl, rfl, ?_⟩
  refine s_at k s rfl hs' rfl (by decide) ?_
  refine ⟨_, rfl, ?_⟩
  refine s_eq (fun _ => ?_) (fun h2 => absurd (by rw [hsl]) h2)
  refine ⟨k, rfl, by omega, ⟨_, hjv⟩, ?_⟩
  refine ⟨_, _, _, _, hjv, r1, rfl, ?_⟩
  have hml : (bt (s ++ marks)).length = s.length + 8 := by rw [bt_len, List.length_append]; rfl
  refine (SpoilBytes_L b s.length (s.length + 8) (bt (s ++ marks)) _ hb hml (by omega) (by omega) (bt_one _)).mono ?_
  rintro r H2 ⟨rfl, l', hl', rfl⟩
  refine s_nat (k + 1) (by omega) (by omega) ?_
  refine ⟨_, by omega, ⟨by omega, hF.set (List.mem_of_getElem? hu') rfl, fun a u' t ha h2 h3 => ?_⟩, rfl, rfl, rfl, rfl, rfl, rfl, rfl, rfl, rfl, rfl, rfl, rfl, rfl, rfl, trivial⟩
  obtain ⟨b', rfl, hb'⟩ := hI a u' t (by omega) h2 h3
  refine ⟨b', rfl, (Hp.set_ne fun e => ?_).trans hb'⟩
  have := hu.apart a k _ _ b h2 hu' (by rw [← e]; rfl) rfl
  omega
 ·exact hQ _ _ rfl ⟨rfl, rfl, rfl, rfl, rfl, rfl, rfl, rfl, rfl, trivial⟩ hF
theorem Bk.same {h0 : Hp} {B : Nat} {H H' : Hp} {us : List AV} (k : Bk h0 B H us) (g : Gr h0 H') (hB : H' B = H B) (hr : ∀ y row, H y = some (.row Tbl row) → H' y = some (.row Tbl row)) : Bk h0 B H' us := by
 obtain ⟨v, h1, h2, h3⟩ := k.at_
 refine ⟨k.b0, v, hB.trans h1, h2, g, ?_⟩
 rcases h3.2 with h | ⟨j, row, rfl, h4, h5, h6⟩
 ·exact .inl h
 ·exact .inr ⟨j, row, rfl, h4, hr j row h5, h6⟩
theorem packR_ok {lim : Int} {ls : List Str} (h : (packR lim ls).2.1 = 0) : (0 ≤ lim ∧ lim ≤ 16777216) ∧ (∀ s ∈ ls, (s.length : Int) ≤ lim) ∧ packR lim ls = (packS ls, 0, 0) := by
 unfold packR at h ⊢
 by_cases hr : 0 ≤ lim ∧ lim ≤ 16777216
 ·rw [if_pos hr] at h ⊢
  cases hf : ls.findIdx? fun s => decide (lim < (s.length : Int)) with
  | some i => rw [hf] at h; cases h
  | none =>
   refine ⟨hr, fun s hs => ?_, rfl⟩
   rw [List.findIdx?_eq_none_iff] at hf
   have := hf s hs
   simp at this; omega
 ·rw [if_neg hr] at h; cases h
def bodyS : ACode := .block 5 (.seq (.seq (.ops A_lexiconlaw23_StreamPacks_25) (.cond (.t 171) (.seq (.ops [n_ (.st 1 (.t 4) (.c (.bool false)))]) .ret) .skip)) (.seq (.ops A_lexiconlaw23_StreamPacks_26) (.seq (.seq (.ops A_lexiconlaw23_StreamPacks_27) (.cond (.t 179) (.seq (.ops [n_ (.st 1 (.t 4) (.c (.bool false)))]) .ret) .skip)) (.seq (.ops A_lexiconlaw23_StreamPacks_28) (.ops A_lexiconlaw23_StreamPacks_29)))))
structure KS (h0 : Hp) (B c23 j : Nat) (tn : Nat) (t : Nat → AV) (ls : List Str) (n : Nat) (H : Hp) : Prop where
 bk : ∃ xs, Bk h0 B H xs ∧ OwnXX Tb H xs (bxx ((ls.take n).map ints)) ∧ ∀ u ∈ xs, ∀ b, blkOf u = some b → h0.u b = false
 c23 : H c23 = some (.row TI [[.int .i64 n]])
 jj : H j = some (loopB Tryz.prog tn t [167] (.ops [mv 24 167]) bodyS .ready none)
theorem KS.gr {h0 : Hp} {B c23 j : Nat} {tn : Nat} {t : Nat → AV} {ls : List Str} {n : Nat} {H H' : Hp} (k : KS h0 B c23 j tn t ls n H) (g : Gr H H') : KS h0 B c23 j tn t ls n H' := by
 obtain ⟨xs, h1, h2, h3⟩ := k.bk
 exact ⟨⟨xs, h1.keep g, h2.gr g, h3⟩, g.blk k.c23, g.blk k.jj⟩
theorem sp_round {h0 : Hp} {B c22 c23 j A : Nat} {TA T22 : TypeId} {tn : Nat} {t : Nat → AV} {ls : List Str} {n : Nat} {s : Str} {x : AV} {H' H'' : Hp}
  (hA : h0 A = some (.row TA [[.isl 0 (lb 0 ls)]])) (h22 : h0 c22 = some (.row T22 [[.ptr B 0 0]])) (hB0 : h0.u B = false) (hc0 : h0.u c23 = false) (hj0 : h0.u j = false) (hcB : c23 ≠ B) (hjB : j ≠ B) (hjc : j ≠ c23)
  (hn : 16 * ls.length + bulk ls ≤ 4194304) (hs : ls[n]? = some s) (ht : Has ⟨tn, t, []⟩ [(3, .ptr A 0 0), (22, .ptr c22 0 0), (23, .ptr c23 0 0)]) (k : KS h0 B c23 j tn t ls n H') (hx : NewX Tb H' H'' x (bt s)) :
  RoundL Tryz.prog j [x] H'' fun r H3 => r = .bool true ∧ KS h0 B c23 j tn t ls (n + 1) H3 := by
 obtain ⟨g0, rfl⟩ : ∃ g, t = (puts ⟨tn, g, []⟩ [(3, .ptr A 0 0), (22, .ptr c22 0 0), (23, .ptr c23 0 0)]).t := ⟨t, by rw [ht.puts_eq]⟩
 have hnl := (List.getElem?_eq_some_iff.1 hs).1
 have hll := lb_len 0 ls
 have hbk := bulk_get hs
 obtain ⟨ox, gx, nx⟩ := hx
 obtain ⟨⟨xs, hbk0, hxs0, hxn⟩, k23', kj'⟩ := k
 have hbk1 := hbk0.keep gx
 have k23 := gx.blk k23'
 have kj := gx.blk kj'
 have g0H' : Gr h0 H' := let ⟨_, _, _, a⟩ := hbk0.at_; a.1
 have g0H := g0H'.trans gx
 have hxs1 := hxs0.snoc gx ox nx
 have hxl : xs.length ≤ 1000000 := by
  have := hxs0.len
  simp only [List.length_map, List.length_take] at this; omega
 have us := fun {y : Nat} (h : h0.u y = true) => (g0H.u y h)
 have ujj := Hp.used kj
 have hAj : A ≠ j := ne_of_u (Hp.used hA) hj0
 have h22j : c22 ≠ j := ne_of_u (Hp.used h22) hj0
 have hA1 := g0H.blk hA
 have h221 := g0H.blk h22
 refine RoundL.of (md := false) kj rfl ?_
 refine ⟨_, _, _, _, _, kj, ?_⟩
 have st : ∀ {y : Nat} {b : Blk} (b' : Blk), y ≠ j → H'' y = some b → (H''.set j b') y = some b := fun b' hy h => (Hp.set_ne hy).trans h
 have hBe : ∀ b', Bk h0 B (H''.set j b') xs := fun b' => hbk1.same (g0H.set hj0 _) (Hp.set_ne (Ne.symm hjB)) fun y row hy => (Hp.set_ne fun e => by rw [e, kj] at hy; cases hy).trans hy
 refine ⟨_, _, _, _, st _ (Ne.symm hjc) k23, rfl, rfl, ?_⟩
 refine ⟨_, _, _, _, st _ hAj hA1, rfl, rfl, ?_⟩
 refine s_le (fun h1 => by omega) (fun _ => ?_)
 refine ⟨_, _, _, _, st _ hAj hA1, rfl, rfl, ?_⟩
 refine ⟨_, _, _, _, st _ (Ne.symm hjc) k23, rfl, rfl, ?_⟩
 refine s_at n s rfl hs rfl (by decide) ?_
 refine ⟨_, rfl, ?_⟩
 have hsame := same_L 1 0 s s (by omega) (by omega)
 rw [beq_self_eq_true] at hsame
 have oxj : ∀ b', Fz anyMark 1 (H''.set j b') x (.isl 1 (bt s)) := fun b' => by
  rcases ox with ⟨rfl, h⟩ | ⟨b, row, q, rfl, h1, h2, h3, _⟩
  ·rw [h]; exact .nilsI 1
  ·rw [bt_len] at *
   exact Fz_bt (st _ (fun e => by rw [e, kj] at h1; cases h1) h1) (by omega) (by rw [List.drop_zero]; exact h2)
 refine CallL.lentP hsame (FzL.two (oxj _) (.same _ (noid_isl _ _ _ rfl))) rfl ?_
 refine ⟨_, _, _, _, st _ h22j h221, rfl, rfl, ?_⟩
 have hxsh : x = .nils ∨ ∃ i n c, x = .slc i 0 n c := by
  rcases ox with ⟨rfl, _⟩ | ⟨b, row, q, rfl, _⟩
  ·exact .inl rfl
  ·exact .inr ⟨_, _, _, rfl⟩
 refine (Book_Bytes_L h0 _ B x xs (hBe _) hxsh hxl).mono ?_
 rintro r H2 ⟨rfl, hbk2, hf2, hu2⟩
 have f2 : ∀ {y : Nat} {b : Blk}, y ≠ j → H'' y = some b → y ≠ B → (∀ row, b ≠ .row Tbl row) → H2 y = some b := fun hy h hB hr => hf2 _ _ (st _ hy h) hB hr
 have k232 := f2 (Ne.symm hjc) k23 hcB (fun row e => by injection e with e _; exact absurd e (by decide))
 have kj2 := hf2 j _ (Hp.set_same _ _ _) hjB (fun row e => by cases e)
 refine ⟨_, _, _, _, k232, rfl, rfl, ?_⟩
 refine s_nat (n + 1) (by omega) (by omega) ?_
 refine ⟨_, _, _, k232, rfl, rfl, rfl, rfl, Nat.le_refl _, ?_⟩
 refine ⟨_, _, _, _, _, _, (Hp.set_ne hjc).trans kj2, trivial, Or.inl ⟨rfl, ⟨xs ++ [x], ?_, ?_, ?_⟩, ?_, ?_⟩⟩
 ·refine hbk2.same (((let ⟨_, _, _, a⟩ := hbk2.at_; a.1).set hc0 _).set hj0 _) ((Hp.set_ne (Ne.symm hjB)).trans (Hp.set_ne (Ne.symm hcB))) fun y row hy => (Hp.set_ne fun e => by rw [e, kj2] at hy; cases hy).trans ((Hp.set_ne fun e => by
   rw [e, k232] at hy
   injection hy with hy
   injection hy with hy _
   exact absurd hy (by decide)).trans hy)
 ·rw [List.take_succ_of_get hs, List.map_append]
  have : bxx ((ls.take n).map ints ++ [s].map ints) = bxx ((ls.take n).map ints) ++ [bt s] := by rw [bxx, List.map_append, bt_bx]; rfl
  rw [this]
  refine OwnXX.row (fun b r hb => ?_) hxs1
  have hbj : b ≠ j := fun e => by rw [e, kj] at hb; cases hb
  have hbc : b ≠ c23 := fun e => by
   rw [e, k23] at hb
   injection hb with hb
   injection hb with hb _
   exact absurd hb (by decide)
  have hbB : b ≠ B := fun e => by
   obtain ⟨v, hv, _⟩ := hbk1.at_
   rw [e, hv] at hb
   injection hb with hb
   injection hb with hb _
   exact absurd hb (by decide)
  exact (Hp.set_ne hbj).trans ((Hp.set_ne hbc).trans (f2 hbj hb hbB (Tb_row _)))
 ·intro u hu b hb
  rcases List.mem_append.1 hu with hu | hu
  ·exact hxn u hu b hb
  ·rw [List.mem_singleton.1 hu] at hb; exact g0H'.new (nx b hb)
 ·exact (Hp.set_ne (Ne.symm hjc)).trans (Hp.set_same _ _ _)
 ·exact Hp.set_same _ _ _
theorem OwnX.shape {T : Nat} {H : Hp} {v : AV} {d : List (List AV)} (k : OwnX T H v d) : v = .nils ∨ ∃ i n c, v = .slc i 0 n c := by
 rcases k with ⟨rfl, _⟩ | ⟨b, row, q, rfl, _⟩
 ·exact .inl rfl
 ·exact .inr ⟨_, _, _, rfl⟩
theorem Bk.gr {h0 : Hp} {B : Nat} {H : Hp} {us : List AV} (k : Bk h0 B H us) : Gr h0 H := let ⟨_, _, _, a⟩ := k.at_; a.1
theorem Bk.at {h0 : Hp} {B : Nat} {H : Hp} {us : List AV} (k : Bk h0 B H us) : ∃ c, H B = some (.row TB [c]) := let ⟨_, a, _⟩ := k.at_; ⟨_, a⟩
theorem row_ne {T T' : TypeId} {r r' : List (List AV)} (h : T ≠ T') : Blk.row T r ≠ .row T' r' := fun e => by injection e with e _; exact h e
set_option maxHeartbeats 1000000 in
theorem sp_end {h0 H : Hp} {B c22 Rr : Nat} {T22 : TypeId} {ds : List ADef} {va vb : AV} {xs : List AV} {dx : List (List Int)} {out : Str} (k : Bk h0 B H xs) (hxs : OwnXX Tb H xs (bxx dx)) (hxn : ∀ u ∈ xs, ∀ b, blkOf u = some b → h0.u b = false)
  (h22 : h0 c22 = some (.row T22 [[.ptr B 0 0]])) (hRr : h0 Rr = some (.row 4 [[.bool false]])) (hva : OwnX Tb H va (bt out)) (hvb : OwnX Tb H vb (bt out)) (hva0 : ∀ b, blkOf va = some b → h0.u b = true) (hvb0 : ∀ b, blkOf vb = some b → h0.u b = true) (hab : ∀ b, blkOf va = some b → blkOf vb ≠ some b)
  (hxl : xs.length ≤ 500000) (hdx : ∀ d ∈ dx, d.length ≤ 1000000000) (hout : out.length ≤ 1000000000) (e : Env) (he : e.ds = ds) (hs : Has e [(4, .ptr Rr 0 0), (9, va), (12, vb), (22, .ptr c22 0 0)]) (hds : ds = [] ∨ ∃ id, ds = [.mark id] ∧ H id = some .dfr) :
  LCode Tryz.prog false (.seq (.ops A_lexiconlaw23_StreamPacks_31) (.seq (.ops A_lexiconlaw23_StreamPacks_32) (.seq (.ops A_lexiconlaw23_StreamPacks_33) .ret))) (EndQD Tryz.prog R_lexiconlaw23_StreamPacks fun r _ => r = .ret (.bool true))
   e H := by
 obtain ⟨n, g0, rfl⟩ : ∃ n g0, e = ⟨n, (puts ⟨n, g0, []⟩ [(4, .ptr Rr 0 0), (9, va), (12, vb), (22, .ptr c22 0 0)]).t, ds⟩ := ⟨e.n, e.t, by
  have h2 := Has.puts_eq (e := ⟨e.n, e.t, []⟩) (l := [(4, .ptr Rr 0 0), (9, va), (12, vb), (22, .ptr c22 0 0)]) hs
  rw [h2, ← he]⟩
 refine ⟨_, _, _, _, k.gr.blk h22, rfl, rfl, ?_⟩
 refine (Book_Bytes_L h0 H B va xs k (OwnX.shape hva) (by omega)).mono ?_
 rintro r H2 ⟨rfl, k2, f2, u2⟩
 refine ⟨_, _, _, _, k2.gr.blk h22, rfl, rfl, ?_⟩
 refine (Book_Bytes_L h0 H2 B vb (xs ++ [va]) k2 (OwnX.shape hvb) (by simp; omega)).mono ?_
 rintro r H3 ⟨rfl, k3, f3, u3⟩
 refine ⟨_, _, _, _, k3.gr.blk h22, rfl, rfl, ?_⟩
 obtain ⟨c1, hB1⟩ := k.at
 obtain ⟨c2, hB2⟩ := k2.at
 obtain ⟨c3, hB3⟩ := k3.at
 have hTB : TB ≠ Tb := by decide
 have fr : ∀ b r, H b = some (.row Tb r) → H3 b = some (.row Tb r) := fun b r hb => by
  have hbB : b ≠ B := fun e => by rw [e, hB1] at hb; injection hb with hb; exact row_ne hTB hb
  exact f3 b _ (f2 b _ hb hbB (Tb_row _)) hbB (Tb_row _)
 have hall : OwnXX Tb H3 ((xs ++ [va]) ++ [vb]) (bxx (dx ++ [ints out] ++ [ints out])) := by
  have e : bxx (dx ++ [ints out] ++ [ints out]) = bxx dx ++ [bt out] ++ [bt out] := by rw [bxx, List.map_append, List.map_append, bt_bx]; rfl
  rw [e]
  refine OwnXX.row fr (OwnXX.add (OwnXX.add hxs hva fun u hu b hb e => ?_) hvb fun u hu b hb e => ?_)
  ·have := hxn u hu b hb; rw [hva0 b e] at this; cases this
  ·rcases List.mem_append.1 hu with hu | hu
   ·have := hxn u hu b hb; rw [hvb0 b e] at this; cases this
   ·rw [List.mem_singleton.1 hu] at hb; exact hab b hb e
 have rowOf : ∀ u ∈ (xs ++ [va]) ++ [vb], ∀ b, blkOf u = some b → ∃ r, H3 b = some (.row Tb r) := fun u hu b hb => by
  obtain ⟨i, hi⟩ := List.getElem?_of_mem hu
  obtain ⟨d, hd⟩ := get_lt (l := bxx (dx ++ [ints out] ++ [ints out])) (k := i) (by rw [hall.len]; exact (List.getElem?_eq_some_iff.1 hi).1)
  rcases hall.own i u d hi hd with ⟨rfl, _⟩ | ⟨b', row, q, rfl, h2, _⟩
  ·cases hb
  ·cases hb; exact ⟨_, h2⟩
 refine (Book_Own_L h0 H3 B _ (dx ++ [ints out] ++ [ints out]) k3 hall (fun u hu e => ?_) (by simp) (by simp; omega) (fun d hd => ?_)).mono ?_
 ·obtain ⟨r, hr⟩ := rowOf u hu B e
  rw [hB3] at hr; injection hr with hr; exact row_ne hTB hr
 ·rcases List.mem_append.1 hd with hd | hd
  ·rcases List.mem_append.1 hd with hd | hd
   ·exact hdx d hd
   ·rw [List.mem_singleton.1 hd, ints, List.length_map]; exact hout
  ·rw [List.mem_singleton.1 hd, ints, List.length_map]; exact hout
 rintro r H4 ⟨rfl, f4⟩
 have hR3 := k3.gr.blk hRr
 have hR4 : H4 Rr = some (.row 4 [[.bool false]]) := f4 Rr _ hR3 (fun row => row_ne (by decide)) fun u hu e => by
  obtain ⟨r, hr⟩ := rowOf u hu Rr e
  rw [hR3] at hr; injection hr with hr; exact row_ne (by decide) hr
 refine ⟨_, _, _, hR4, rfl, rfl, rfl, rfl, Nat.le_refl _, ?_⟩
 rcases hds with rfl | ⟨id, rfl, hid⟩
 ·exact ⟨_, _, _, _, Hp.set_same _ _ _, rfl, rfl, rfl⟩
 ·have hidB : id ≠ B := fun e => by rw [e, hB1] at hid; cases hid
  have hid3 : H3 id = some .dfr := f3 id _ (f2 id _ hid hidB (fun row e => by cases e)) hidB (fun row e => by cases e)
  have hid4 : H4 id = some .dfr := f4 id _ hid3 (fun row e => by cases e) fun u hu e => by
   obtain ⟨r, hr⟩ := rowOf u hu id e
   rw [hid3] at hr; cases hr
  have hne : id ≠ Rr := fun e => by rw [e, hR4] at hid4; cases hid4
  refine ⟨(Hp.set_ne hne).trans hid4, ?_⟩
  exact ⟨_, _, _, _, (Hp.del_ne (Ne.symm hne)).trans (Hp.set_same _ _ _), rfl, rfl, rfl⟩
theorem hpO_three {H : Hp} {a b c x : Nat} (h1 : x ≠ a) (h2 : x ≠ b) (h3 : x ≠ c) : hpO [.slc a 0 0 none, .slc b 0 0 none, .slc c 0 0 none] H x = H x ∧ (hpO [.slc a 0 0 none, .slc b 0 0 none, .slc c 0 0 none] H).u x = H.u x := hpO_out fun u hu e => by
 simp only [List.mem_cons, List.not_mem_nil, or_false] at hu
 rcases hu with rfl | rfl | rfl <;> cases e
 ·exact h1 rfl
 ·exact h2 rfl
 ·exact h3 rfl
theorem hpO_not {us : List AV} {H : Hp} {x : Nat} {u : AV} (hu : u ∈ us) (hb : blkOf u = some x) : (hpO us H).u x = false := by
 cases h : (hpO us H).u x with
 | false => rfl
 | true => exact absurd hb ((hpO_in h).1 u hu)
set_option maxHeartbeats 1000000 in
theorem sp_all {H : Hp} {B A Rr c22 : Nat} {TA T22 : TypeId} {ls : List Str} {lim : Nat} {va vb want : AV} {n0 : Nat} {g0 : Nat → AV} {Q : Xit → Env → Hp → Prop} (hA : H A = some (.row TA [[.isl 0 (lb 0 ls)]])) (hB : H B = some (.row TB [bookC .nils])) (h22 : H c22 = some (.row T22 [[.ptr B 0 0]])) (hAB : A ≠ B) (h22B : c22 ≠ B)
  (hn : 16 * ls.length + bulk ls ≤ 4194304) (hlim : lim ≤ 16777216) (hle : ∀ s ∈ ls, s.length ≤ lim) (hw : OwnX Tb H want (bt (packS ls)))
  (hQ : ∀ (h0 H' : Hp) (e' : Env) (id : Nat) (xs : List AV), e'.ds = [.mark id] → Has e' [(4, .ptr Rr 0 0), (9, va), (12, vb), (22, .ptr c22 0 0)] → (∀ y b, H y = some b → y ≠ B → h0 y = some b) → Bk h0 B H' xs → OwnXX Tb H' xs (bxx (ls.map ints)) → (∀ u ∈ xs, ∀ b, blkOf u = some b → h0.u b = false) → H' id = some .dfr →
   Q .normal e' H') :
  LCode Tryz.prog false (.seq (.ops A_lexiconlaw23_StreamPacks_23) (.seq (.seq (.ops A_lexiconlaw23_StreamPacks_24) (.block 4 (.rngf (.t 166) [167] (.ops [mv 24 167]) bodyS))) (.seq (.ops A_lexiconlaw23_StreamPacks_30) (.cond (.t 188) (.seq (.ops [n_ (.st 1 (.t 4) (.c (.bool false)))]) .ret) .skip))))
   Q (puts ⟨n0, g0, []⟩ [(0, .int .i64 (lim : Nat)), (3, .ptr A 0 0), (4, .ptr Rr 0 0), (9, va), (12, vb), (17, want), (22, .ptr c22 0 0)]) H := by
 have hll := lb_len 0 ls
 have hpl := packS_len ls
 refine ⟨rfl, rfl, fun c23 hc23 => ?_⟩
 refine ⟨_, _, _, Hp.set_same _ _ _, rfl, rfl, rfl, rfl, Nat.le_refl _, ?_⟩
 have hc23' := hc23.1
 have hcA : A ≠ c23 := ne_of_u (Hp.used hA) hc23.1
 have hc22 : c22 ≠ c23 := ne_of_u (Hp.used h22) hc23.1
 have e6 : (H.set c23 (.row TI [[.int .i64 0]])).set c23 (.row TI [[.int .i64 0]]) = H.set c23 (.row TI [[.int .i64 (0 : Nat)]]) := Hp.set_set _ _ _ _
 refine (show LCode Tryz.prog false _ _ _ ((H.set c23 (.row TI [[.int .i64 0]])).set c23 (.row TI [[.int .i64 0]])) from ?_)
 rw [e6]
 have g6 : Gr H (H.set c23 (.row TI [[.int .i64 (0 : Nat)]])) := Gr.new1 _ hc23.1 _
 have h6 : (H.set c23 (.row TI [[.int .i64 (0 : Nat)]])) c23 = some (.row TI [[.int .i64 (0 : Nat)]]) := Hp.set_same _ _ _
 generalize H.set c23 (.row TI [[.int .i64 (0 : Nat)]]) = H6 at g6 h6
 refine (All_L want lim (packS ls) H6 (hw.gr g6) (by omega)).mono ?_
 rintro r H7 ⟨Bc, Lc, cv, rfl, g7, hBc, hLc, hcv, nBc, nLc, ncv⟩
 have hA7 := (g6.trans g7).blk hA
 have hB7 := (g6.trans g7).blk hB
 have h227 := (g6.trans g7).blk h22
 have h67 := g7.blk h6
 refine ⟨HasBody.all, fun id hid j hj => ?_⟩
 have hid7 := hid.1
 have hj7 : H7.u j = false ∧ j ≠ id := by
  have := hj.1
  rw [Hp.set_u] at this
  split at this
  ·cases this
  ·rename_i e; exact ⟨this, e⟩
 have hne : ∀ {y : Nat} {b : Blk}, H7 y = some b → y ≠ id ∧ y ≠ j := fun hy => ⟨ne_of_u (Hp.used hy) hid7, ne_of_u (Hp.used hy) hj7.1⟩
 have key : ∀ (tn : Nat) (t : Nat → AV), Has ⟨tn, t, []⟩ [(3, .ptr A 0 0), (22, .ptr c22 0 0), (23, .ptr c23 0 0)] →
   CallL Tryz.prog F_stream_All_c1 [.yld j, .ptr Bc 0 0, .ptr Lc 0 0] ((H7.set id .dfr).set j (loopB Tryz.prog tn t [167] (.ops [mv 24 167]) bodyS .ready none)) fun r H' => r = .ret (.tup []) ∧
    KS (hpO [.slc B 0 0 none, .slc c23 0 0 none, .slc j 0 0 none] ((H7.set id .dfr).set j (loopB Tryz.prog tn t [167] (.ops [mv 24 167]) bodyS .ready none))) B c23 j tn t ls ls.length H' := by
  intro tn t ht
  have st : ∀ {y : Nat} {b : Blk}, H7 y = some b → ((H7.set id .dfr).set j (loopB Tryz.prog tn t [167] (.ops [mv 24 167]) bodyS .ready none)) y = some b := fun hy => (Hp.set_ne (hne hy).2).trans ((Hp.set_ne (hne hy).1).trans hy)
  have hH8 : ((H7.set id .dfr).set j (loopB Tryz.prog tn t [167] (.ops [mv 24 167]) bodyS .ready none)) j = some (loopB Tryz.prog tn t [167] (.ops [mv 24 167]) bodyS .ready none) := Hp.set_same _ _ _
  generalize (H7.set id .dfr).set j (loopB Tryz.prog tn t [167] (.ops [mv 24 167]) bodyS .ready none) = H8 at st hH8
  have h0of : ∀ {y : Nat} {b : Blk}, H8 y = some b → y ≠ B → y ≠ c23 → y ≠ j → hpO [.slc B 0 0 none, .slc c23 0 0 none, .slc j 0 0 none] H8 y = some b := fun hy a b c => (hpO_three a b c).1.trans hy
  have cB : c23 ≠ B := fun e => by rw [e, hB7] at h67; injection h67 with h67; exact row_ne (by decide) h67
  have uB6 : H6.u B = true := g6.u B (Hp.used hB)
  have uc6 := Hp.used h6
  have hBc0 := h0of (st hBc) (Ne.symm (ne_of_u uB6 nBc)) (Ne.symm (ne_of_u uc6 nBc)) (hne hBc).2
  have hLc0 := h0of (st hLc) (Ne.symm (ne_of_u uB6 nLc)) (Ne.symm (ne_of_u uc6 nLc)) (hne hLc).2
  have hcv0 : OwnX Tb (hpO [.slc B 0 0 none, .slc c23 0 0 none, .slc j 0 0 none] H8) cv (bt (packS ls)) := OwnX.row (fun b r hb hr => h0of (st hr) (Ne.symm (ne_of_u uB6 (ncv b hb))) (Ne.symm (ne_of_u uc6 (ncv b hb))) (hne hr).2) hcv
  have hA0 := h0of (st hA7) hAB hcA (hne hA7).2
  have h220 := h0of (st h227) h22B hc22 (hne h227).2
  have nB : (hpO [.slc B 0 0 none, .slc c23 0 0 none, .slc j 0 0 none] H8).u B = false := hpO_not (u := .slc B 0 0 none) (by simp) rfl
  have nc : (hpO [.slc B 0 0 none, .slc c23 0 0 none, .slc j 0 0 none] H8).u c23 = false := hpO_not (u := .slc c23 0 0 none) (by simp) rfl
  have nj : (hpO [.slc B 0 0 none, .slc c23 0 0 none, .slc j 0 0 none] H8).u j = false := hpO_not (u := .slc j 0 0 none) (by simp) rfl
  refine All1_L j Bc Lc cv lim ls (fun n H' => KS (hpO [.slc B 0 0 none, .slc c23 0 0 none, .slc j 0 0 none] H8) B c23 j tn t ls n H') H8 (st hBc) (OwnX.row (fun b r _ hr => st hr) hcv) (st hLc) ⟨⟨[], ⟨nB, .nils, st hB7, (fun e => by cases e), hpO_gr _ _, .inl ⟨rfl, rfl⟩⟩, OwnXX.nil _ _, fun u hu => by cases hu⟩, st h67, hH8⟩ (fun n H' k => ?_) (fun n H' H'' k g => k.gr g) (fun n s x H' H'' hs k hx => ?_) (by omega) (by omega) hlim hle
  ·obtain ⟨xs, kb, _⟩ := k.bk
   exact ⟨kb.gr.blk hBc0, kb.gr.blk hLc0, hcv0.gr kb.gr⟩
  ·exact sp_round hA0 h220 nB nc nj cB (Ne.symm (hne hB7).2) (Ne.symm (hne h67).2) hn hs ht k hx
 refine (key _ _ ?_).mono ?_
 ·exact ⟨rfl, rfl, rfl, trivial⟩
 rintro r H' ⟨rfl, k⟩
 refine ⟨none, _, _, _, _, _, _, k.jj, ⟨by simp, rfl⟩, .inl ?_⟩
 obtain ⟨⟨xs, kb, hxs, hxn⟩, k23, kj⟩ := k
 rw [List.take_length] at hxs
 generalize hh0 : hpO [.slc B 0 0 none, .slc c23 0 0 none, .slc j 0 0 none] _ = h0 at kb hxn
 have h0of : ∀ {y : Nat} {b : Blk}, H7 y = some b → y ≠ B → y ≠ c23 → h0 y = some b := fun {y b} hy hyB hyc => by
  rw [← hh0]
  exact (hpO_three hyB hyc (hne hy).2).1.trans ((Hp.set_ne (hne hy).2).trans ((Hp.set_ne (hne hy).1).trans hy))
 have hj0 : h0.u j = false := by rw [← hh0]; exact hpO_not (u := .slc j 0 0 none) (by simp) rfl
 have hid0 : h0 id = some .dfr := by
  rw [← hh0]
  have hiB : id ≠ B := Ne.symm (hne hB7).1
  have hic : id ≠ c23 := Ne.symm (hne h67).1
  exact (hpO_three hiB hic (Ne.symm hj7.2)).1.trans ((Hp.set_ne (Ne.symm hj7.2)).trans (Hp.set_same _ _ _))
 have hA0 := h0of hA7 hAB hcA
 have hAj : A ≠ j := (hne hA7).2
 have hcj : c23 ≠ j := (hne h67).2
 refine ⟨_, _, _, _, (Hp.set_ne hcj).trans k23, rfl, rfl, ?_⟩
 refine ⟨_, _, _, _, (Hp.set_ne hAj).trans (kb.gr.blk hA0), rfl, rfl, ?_⟩
 refine s_ne (fun h => absurd (by rw [hll]) h) (fun _ => ?_)
 refine hQ h0 _ _ id xs rfl ⟨rfl, rfl, rfl, rfl, trivial⟩ (fun y b hy hyB => ?_) (kb.same (kb.gr.set hj0 _) (Hp.set_ne (hne hB7).2) fun y row hy => (Hp.set_ne fun e => by rw [e, kj] at hy; cases hy).trans hy) (OwnXX.row (fun b r hb => (Hp.set_ne fun e => by rw [e, kj] at hb; cases hb).trans hb) hxs) hxn ((Hp.set_ne (Ne.symm hj7.2)).trans (kb.gr.blk hid0))
 exact h0of ((g6.trans g7).blk hy) hyB (ne_of_u (Hp.used hy) hc23')
end Go.Proofs.YtldbbnkacahndabGreatDoor

namespace Go.Proofs.YtldbbnkacahndabGreatDoor
open Go.L
theorem OwnX.fz {H : Hp} {v : AV} {l : Str} (k : OwnX Tb H v (bt l)) (g : Nat) : Fz anyMark g H v (.isl g (bt l)) := by
 rcases k with ⟨rfl, h⟩ | ⟨b, row, q, rfl, h1, h2, h3, _⟩
 ·rw [h]; exact .nilsI g
 ·rw [bt_len] at *
  exact Fz_bt h1 (by omega) (by rw [List.drop_zero]; exact h2)
theorem one_row {es : List (List AV)} {v : AV} (h : es = [[v]]) (hf : flat [v] = true) : (∀ cs ∈ es, cs.length = 1) ∧ ∀ cs ∈ es, flat cs = true := by
 subst h
 exact ⟨fun cs hcs => by rw [List.mem_singleton.1 hcs]; rfl, fun cs hcs => by rw [List.mem_singleton.1 hcs]; exact hf⟩
theorem one_all {h0 H : Hp} {us : List AV} {ls : List Str} (k : LentU h0 H us ls) : (∀ cs ∈ one us, cs.length = 1) ∧ ∀ cs ∈ one us, flat cs = true := by
 refine ⟨fun cs hcs => ?_, fun cs hcs => ?_⟩ <;> obtain ⟨u, hu, rfl⟩ := List.mem_map.1 hcs
 ·rfl
 ·obtain ⟨i, hi⟩ := List.getElem?_of_mem hu
  obtain ⟨s, hs⟩ := get_lt (l := ls) (k := i) (by rw [← k.len]; exact (List.getElem?_eq_some_iff.1 hi).1)
  obtain ⟨b, rfl, _⟩ := k.own i u s hi hs
  rfl
theorem sp_row {h0 H : Hp} {ls : List Str} {us : List AV} {v : AV} {lim : Int} {A Rr : Nat} {e : Env} {Q : Xit → Env → Hp → Prop} (hn : 16 * ls.length + bulk ls ≤ 4194304) (ha : AccE Tbl h0 H v (one us)) (hu : LentU h0 H us ls)
  (hd : e.ds = []) (hs : Has e [(0, .int .i64 lim), (3, .ptr A 0 0), (4, .ptr Rr 0 0), (5, .bool true), (6, v)]) :
  LCode Tryz.prog false (.seq (.ops [o_ 8 (.mov (.c (.nils)))]) (.seq (.ops A_lexiconlaw23_StreamPacks_7) (.ops A_lexiconlaw23_StreamPacks_8))) (toPost (fun e' H' => ∃ j c99, e'.ds = [] ∧ Has e' [(0, .int .i64 lim), (3, .ptr A 0 0), (4, .ptr Rr 0 0), (5, .bool true), (6, v), (8, .slc j 0 (us.length + 1) none)] ∧
   Gr H H' ∧ H' j = some (.row Tbl (one us ++ [[.slc c99 0 1 (some 1)]])) ∧ H' c99 = some (.row Tb [[.int .u8 99]])) Q) e H := by
 obtain ⟨n0, g0, rfl⟩ := hs.out hd
 have hul := hu.len
 have h1 := one_all hu
 have hol := one_len us
 refine ⟨one us, ha.src, ?_⟩
 refine AccE.app (z := 1) (AccE.nil Tbl H) h1.1 h1.2 (by rw [hol]; unfold capMax; simp; omega) (by rw [hol]; unfold capMax; simp; omega) fun v8 H4 ha8 hf8 hu8 hb8 => ?_
 rw [List.nil_append] at ha8
 refine ⟨_, rfl, fun c99 hc99 => ?_⟩
 refine ⟨_, rfl, fun tb htb => ?_⟩
 have h2 := one_row (es := one [.slc c99 0 1 (some 1)]) rfl rfl
 refine ⟨one [.slc c99 0 1 (some 1)], ⟨_, _, Hp.set_same _ _ _, Nat.le_refl _, rfl⟩, ?_⟩
 have hct : c99 ≠ tb := fun e => by
  have := htb.1
  rw [← e, Hp.set_u, if_pos rfl] at this; cases this
 refine AccE.app ((ha8.set hc99.1 _).set htb.1 _) h2.1 h2.2 (by rw [hol, one_len]; unfold capMax; simp; omega) (by rw [hol, one_len]; unfold capMax; simp; omega) fun v9 H5 ha9 hf9 hu9 hb9 => ?_
 rcases ha9.2 with ⟨_, h⟩ | ⟨j, rfl, _, hj⟩
 ·have := congrArg List.length h
  rw [List.length_append, one_len, one_len] at this
  simp at this
 ·have hl : (one us ++ one [AV.slc c99 0 1 (some 1)]).length = us.length + 1 := by rw [List.length_append, one_len, one_len]; rfl
  rw [hl]
  refine ⟨j, c99, rfl, ⟨rfl, rfl, rfl, rfl, rfl, rfl, trivial⟩, ha9.1, hj, ?_⟩
  refine (hf9 c99 ?_ fun e => ?_).trans ((Hp.set_ne hct).trans (Hp.set_same _ _ _))
  ·rw [Hp.set_u, if_neg hct, Hp.set_u, if_pos rfl]
  ·have := (ha8.used e).2
   rw [hc99.1] at this; cases this
theorem sp_packs {h0 H : Hp} {ls : List Str} {us : List AV} {v : AV} {lim : Int} {A Rr j c99 : Nat} {TA : TypeId} {e : Env} {Q : Xit → Env → Hp → Prop} (hn : 16 * ls.length + bulk ls ≤ 4194304) (hA : H A = some (.row TA [[.isl 0 (lb 0 ls)]])) (hu : LentU h0 H us ls) (hj : H j = some (.row Tbl (one us ++ [[.slc c99 0 1 (some 1)]]))) (hc : H c99 = some (.row Tb [[.int .u8 99]]))
  (hd : e.ds = []) (hs : Has e [(0, .int .i64 lim), (3, .ptr A 0 0), (4, .ptr Rr 0 0), (5, .bool true), (6, v), (8, .slc j 0 (us.length + 1) none)]) :
  LCode Tryz.prog false (.seq (.ops A_lexiconlaw23_StreamPacks_9) (.seq (.ops A_lexiconlaw23_StreamPacks_10) (.ops A_lexiconlaw23_StreamPacks_11))) (toPost (fun e' H' => ∃ va vb H1, e'.ds = [] ∧ Has e' [(0, .int .i64 lim), (3, .ptr A 0 0), (4, .ptr Rr 0 0), (5, .bool true), (6, v), (8, .slc j 0 (us.length + 1) none), (9, va), (10, .int .i64 (packR lim ls).2.1), (11, .int .i64 (packR lim ls).2.2), (12, vb), (15, .bool true)] ∧
   AccE Tb H H1 va (bt (packR lim ls).1) ∧ AccE Tb H1 H' vb (bt (packR lim ls).1)) Q) e H := by
 obtain ⟨n0, g0, rfl⟩ := hs.out hd
 have hul := hu.len
 have hll := lb_len 0 ls
 have hrl : (one us ++ [[AV.slc c99 0 1 (some 1)]]).length = us.length + 1 := by rw [List.length_append, one_len]; rfl
 have hfz : ∀ {H' : Hp} {c : Option Nat}, Gr H H' → Fz anyMark 1 H' (.slc j 0 us.length c) (.isl 1 (lb 1 ls)) := fun g => (hu.gr g).fz (g.blk hj) (fun i u hi => by
  rw [Nat.zero_add, List.getElem?_append_left (by rw [one_len]; exact (List.getElem?_eq_some_iff.1 hi).1)]; exact one_get hi) (by rw [hrl]; omega)
 have hle : (lb 0 ls).length = us.length := by rw [hll, hul]
 refine ⟨_, _, _, _, hA, rfl, rfl, ?_⟩
 refine ⟨⟨_, hj⟩, us.length, by rw [hle], Nat.zero_le _, by show us.length ≤ us.length + 1; omega, ?_⟩
 refine (Pack_lent _ lim ls H (hfz (Gr.refl H)) (by omega) (by omega)).mono ?_
 rintro r H1 ⟨va, rfl, hva⟩
 refine ⟨_, rfl, _, rfl, _, rfl, ?_⟩
 refine ⟨_, _, _, _, hva.1.blk hA, rfl, rfl, ?_⟩
 refine ⟨⟨_, hva.1.blk hj⟩, us.length, by rw [hle], Nat.zero_le _, by show us.length ≤ us.length + 1; omega, ?_⟩
 refine (Pack_lent _ lim ls H1 (hfz hva.1) (by omega) (by omega)).mono ?_
 rintro r H2 ⟨vb, rfl, hvb⟩
 refine ⟨_, rfl, _, rfl, _, rfl, ?_⟩
 have g2 := hva.1.trans hvb.1
 have hA2 := g2.blk hA
 have hj2 := g2.blk hj
 have hc2 := g2.blk hc
 have hr : (one us ++ [[AV.slc c99 0 1 (some 1)]])[0 + us.length]? = some [.slc c99 0 1 (some 1)] := by
  rw [Nat.zero_add, List.getElem?_append_right (by rw [one_len]; exact Nat.le_refl _), one_len, Nat.sub_self]; rfl
 refine ⟨_, _, _, _, hA2, rfl, rfl, ?_⟩
 refine ⟨us.length, by rw [hle], by omega, ⟨_, hj2⟩, ?_⟩
 refine ⟨_, _, _, _, hj2, hr, rfl, ?_⟩
 refine s_eq (fun _ => ?_) (fun h => absurd rfl h)
 refine ⟨_, _, _, _, hA2, rfl, rfl, ?_⟩
 refine ⟨us.length, by rw [hle], by omega, ⟨_, hj2⟩, ?_⟩
 refine ⟨_, _, _, _, hj2, hr, rfl, ?_⟩
 refine ⟨0, rfl, by decide, ⟨_, hc2⟩, ?_⟩
 refine ⟨_, _, _, _, hc2, rfl, rfl, ?_⟩
 refine s_eq (fun _ => ?_) (fun h => absurd rfl h)
 exact ⟨va, vb, H1, rfl, ⟨rfl, rfl, rfl, rfl, rfl, rfl, rfl, rfl, rfl, rfl, rfl, trivial⟩, hva, hvb⟩
theorem sp_want {H : Hp} {ls : List Str} {va vb : AV} {lim : Int} {A Rr : Nat} {TA : TypeId} {e : Env} {Q : Xit → Env → Hp → Prop} (hn : 16 * ls.length + bulk ls ≤ 4194304) (hA : H A = some (.row TA [[.isl 0 (lb 0 ls)]])) (hva : OwnX Tb H va (bt (packR lim ls).1)) (hvb : OwnX Tb H vb (bt (packR lim ls).1)) (hout : (packR lim ls).1.length ≤ 1000000000)
  (hd : e.ds = []) (hs : Has e [(0, .int .i64 lim), (3, .ptr A 0 0), (4, .ptr Rr 0 0), (5, .bool true), (9, va), (10, .int .i64 (packR lim ls).2.1), (11, .int .i64 (packR lim ls).2.2), (12, vb), (15, .bool true)]) :
  LCode Tryz.prog false (.seq (.ops A_lexiconlaw23_StreamPacks_17) (.seq (.ops A_lexiconlaw23_StreamPacks_18) (.seq (.ops A_lexiconlaw23_StreamPacks_19) (.seq (.ops A_lexiconlaw23_StreamPacks_20) (.cond (.t 159) (.seq (.ops [n_ (.st 1 (.t 4) (.c (.bool false)))]) .ret) .skip))))) (toPost (fun e' H' => ∃ want, e'.ds = [] ∧ Has e' [(0, .int .i64 lim), (3, .ptr A 0 0), (4, .ptr Rr 0 0), (9, va), (10, .int .i64 (packR lim ls).2.1), (12, vb), (17, want)] ∧ Gr H H' ∧ OwnX Tb H' want (bt (packR lim ls).1)) Q) e H := by
 obtain ⟨n0, g0, rfl⟩ := hs.out hd
 refine ⟨_, _, _, _, hA, rfl, rfl, ?_⟩
 refine (Pack2_L 0 0 lim ls H (by omega) (by omega)).mono ?_
 rintro r H1 ⟨want, rfl, hw⟩
 refine ⟨_, rfl, _, rfl, _, rfl, ?_⟩
 have hsame := same_L 1 1 (packR lim ls).1 (packR lim ls).1 (by omega) (by omega)
 rw [beq_self_eq_true] at hsame
 have hw2 := hw.acc.ownX.1
 refine CallL.lentP hsame (FzL.two (OwnX.fz (hva.gr hw.1) 1) (OwnX.fz hw2 1)) rfl ?_
 refine CallL.lentP hsame (FzL.two (OwnX.fz (hvb.gr hw.1) 1) (OwnX.fz hw2 1)) rfl ?_
 refine s_ne (fun h => absurd rfl h) (fun _ => ?_)
 refine s_ne (fun h => absurd rfl h) (fun _ => ?_)
 exact ⟨want, rfl, ⟨rfl, rfl, rfl, rfl, rfl, rfl, rfl, trivial⟩, hw.1, hw2⟩
theorem sp_book {H : Hp} {va vb want : AV} {lim e1 : Int} {A Rr : Nat} {e : Env} {Q : Xit → Env → Hp → Prop} (hd : e.ds = []) (hs : Has e [(0, .int .i64 lim), (3, .ptr A 0 0), (4, .ptr Rr 0 0), (9, va), (10, .int .i64 e1), (12, vb), (17, want)]) :
  LCode Tryz.prog false (.ops A_lexiconlaw23_StreamPacks_21) (toPost (fun e' H' => ∃ B c22 T22, e'.ds = [] ∧ Has e' [(0, .int .i64 lim), (3, .ptr A 0 0), (4, .ptr Rr 0 0), (9, va), (10, .int .i64 e1), (12, vb), (17, want), (22, .ptr c22 0 0)] ∧ Gr H H' ∧ H.u B = false ∧ H' B = some (.row TB [bookC .nils]) ∧ H' c22 = some (.row T22 [[.ptr B 0 0]]) ∧ c22 ≠ B) Q) e H := by
 obtain ⟨n0, g0, rfl⟩ := hs.out hd
 refine ⟨_, rfl, ?_⟩
 refine ⟨rfl, rfl, fun B hB => ?_⟩
 refine ⟨rfl, rfl, fun c22 h22 => ?_⟩
 have hne : c22 ≠ B := fun e => by
  have := h22.1
  rw [e, Hp.set_u, if_pos rfl] at this; cases this
 refine ⟨_, _, _, Hp.set_same _ _ _, rfl, rfl, rfl, rfl, Nat.le_refl _, ?_⟩
 refine ⟨B, c22, _, rfl, ⟨rfl, rfl, rfl, rfl, rfl, rfl, rfl, rfl, trivial⟩, ?_, hB.1, ?_, Hp.set_same _ _ _, hne⟩
 ·have g1 := Gr.new1 H hB.1
  exact ((g1 _).set ((g1 _).new h22.1) _).set ((g1 (.row TB [bookC .nils])).new h22.1) _
 ·exact (Hp.set_ne (Ne.symm hne)).trans ((Hp.set_ne (Ne.symm hne)).trans (Hp.set_same _ _ _))
theorem hpO_one {H : Hp} {a x : Nat} (h1 : x ≠ a) : hpO [.slc a 0 0 none] H x = H x ∧ (hpO [.slc a 0 0 none] H).u x = H.u x := hpO_out fun u hu e => by
 rw [List.mem_singleton.1 hu] at e; cases e; exact h1 rfl
abbrev no4 : ACode := .seq (.ops [n_ (.st 1 (.t 4) (.c (.bool false)))]) .ret
def tail5 : ACode := .seq (.seq (.ops A_lexiconlaw23_StreamPacks_22) (.cond (.t 163) (.seq (.ops A_lexiconlaw23_StreamPacks_23) (.seq (.seq (.ops A_lexiconlaw23_StreamPacks_24) (.block 4 (.rngf (.t 166) [167] (.ops [mv 24 167]) bodyS))) (.seq (.ops A_lexiconlaw23_StreamPacks_30) (.cond (.t 188) no4 .skip)))) .skip)) (.seq (.ops A_lexiconlaw23_StreamPacks_31) (.seq (.ops A_lexiconlaw23_StreamPacks_32) (.seq (.ops A_lexiconlaw23_StreamPacks_33) .ret)))
def tail3 : ACode := .seq (.ops A_lexiconlaw23_StreamPacks_17) (.seq (.ops A_lexiconlaw23_StreamPacks_18) (.seq (.ops A_lexiconlaw23_StreamPacks_19) (.seq (.seq (.ops A_lexiconlaw23_StreamPacks_20) (.cond (.t 159) no4 .skip)) (.seq (.ops A_lexiconlaw23_StreamPacks_21) tail5))))
def tail2 : ACode := .seq (.seq (.ops [o_ 16 (.mov (i_ 0))]) (.block 2 (.loop A_lexiconlaw23_StreamPacks_16))) tail3
def tail0 : ACode := .seq (.ops [o_ 8 (.mov (.c (.nils)))]) (.seq (.ops A_lexiconlaw23_StreamPacks_7) (.seq (.ops A_lexiconlaw23_StreamPacks_8) (.seq (.ops A_lexiconlaw23_StreamPacks_9) (.seq (.ops A_lexiconlaw23_StreamPacks_10) (.seq (.ops A_lexiconlaw23_StreamPacks_11) tail2)))))
abbrev EQ : Xit → Env → Hp → Prop := EndQD Tryz.prog R_lexiconlaw23_StreamPacks fun r _ => r = .ret (.bool true)
abbrev TA : TypeId := 22
abbrev Tbool : TypeId := 4
theorem hpO_sub {H : Hp} {B y : Nat} {b : Blk} (h : H y = some b) (hy : y ≠ B) : hpO [.slc B 0 0 none] H y = some b := (hpO_one hy).1.trans h
theorem s_condT {P : Program} {md : Bool} {c : AOpd} {a b : ACode} {e : Env} {h : Hp} {Q : Xit → Env → Hp → Prop} (hc : ev e c = .bool true) (k : LCode P md a Q e h) : LCode P md (.cond c a b) Q e h := by
 show match ev e c with
  | .bool t => bcase t true (LCode P md a Q e h) (LCode P md b Q e h)
  | _ => False
 rw [hc]; exact k
theorem s_condF {P : Program} {md : Bool} {c : AOpd} {a b : ACode} {e : Env} {h : Hp} {Q : Xit → Env → Hp → Prop} (hc : ev e c = .bool false) (k : LCode P md b Q e h) : LCode P md (.cond c a b) Q e h := by
 show match ev e c with
  | .bool t => bcase t true (LCode P md a Q e h) (LCode P md b Q e h)
  | _ => False
 rw [hc]; exact k
theorem sp_t5 {H : Hp} {ls : List Str} {lim : Int} {A Rr B c22 : Nat} {T22 : TypeId} {va vb want : AV} {e : Env} (hb : 16 * ls.length + bulk ls ≤ 4194304) (hA : H A = some (.row TA [[.isl 0 (lb 0 ls)]])) (hR : H Rr = some (.row Tbool [[.bool false]])) (hB : H B = some (.row TB [bookC .nils])) (h22 : H c22 = some (.row T22 [[.ptr B 0 0]])) (h22B : c22 ≠ B)
  (hva : OwnX Tb H va (bt (packR lim ls).1)) (hvb : OwnX Tb H vb (bt (packR lim ls).1)) (hab : ∀ b, blkOf va = some b → blkOf vb ≠ some b) (hw : OwnX Tb H want (bt (packR lim ls).1)) (hout : (packR lim ls).1.length ≤ 1000000000)
  (hd : e.ds = []) (hs : Has e [(0, .int .i64 lim), (3, .ptr A 0 0), (4, .ptr Rr 0 0), (9, va), (10, .int .i64 (packR lim ls).2.1), (12, vb), (17, want), (22, .ptr c22 0 0)]) : LCode Tryz.prog false tail5 EQ e H := by
 have neB : ∀ {x : Nat} {T : TypeId} {r : List (List AV)}, H x = some (.row T r) → T ≠ TB → x ≠ B := fun hx hT e => by
  rw [e, hB] at hx; injection hx with hx; exact row_ne (Ne.symm hT) hx
 have hAB := neB hA (by decide)
 have hRB := neB hR (by decide)
 have blB : ∀ {v : AV} {d : List (List AV)}, OwnX Tb H v d → ∀ b, blkOf v = some b → b ≠ B := fun k b hb => by
  rcases k with ⟨rfl, _⟩ | ⟨b', row, q, rfl, h2, _⟩
  ·cases hb
  ·cases hb; exact neB h2 (by decide)
 refine s_then (fun e' H' => ∃ h0 xs dx ds, e'.ds = ds ∧ Has e' [(4, .ptr Rr 0 0), (9, va), (12, vb), (22, .ptr c22 0 0)] ∧ (ds = [] ∨ ∃ id, ds = [.mark id] ∧ H' id = some .dfr) ∧ (∀ y b, H y = some b → y ≠ B → h0 y = some b) ∧ Bk h0 B H' xs ∧ OwnXX Tb H' xs (bxx dx) ∧ (∀ u ∈ xs, ∀ b, blkOf u = some b → h0.u b = false) ∧ xs.length ≤ 500000 ∧ ∀ d ∈ dx, d.length ≤ 1000000000) ?_ ?_
 ·refine s_then (fun e' H' => H' = H ∧ e'.ds = [] ∧ ∃ t, Has e' [(0, .int .i64 lim), (3, .ptr A 0 0), (4, .ptr Rr 0 0), (9, va), (12, vb), (17, want), (22, .ptr c22 0 0), (163, .bool t)] ∧ (t = true → (packR lim ls).2.1 = 0)) ?_ ?_
  ·obtain ⟨n1, g1, rfl⟩ := hs.out hd
   refine s_eq (fun (h1 : (packR lim ls).2.1 = 0) => ?_) (fun _ => ?_)
   ·exact ⟨rfl, rfl, true, ⟨rfl, rfl, rfl, rfl, rfl, rfl, rfl, rfl, trivial⟩, fun _ => h1⟩
   ·exact ⟨rfl, rfl, false, ⟨rfl, rfl, rfl, rfl, rfl, rfl, rfl, rfl, trivial⟩, fun h => by cases h⟩
  ·rintro e' H' ⟨rfl, hd', t, hs', ht⟩
   cases t
   ·refine s_condF hs'.2.2.2.2.2.2.2.1 ?_
    exact ⟨hpO [.slc B 0 0 none] H', [], [], [], hd', ⟨hs'.2.2.1, hs'.2.2.2.1, hs'.2.2.2.2.1, hs'.2.2.2.2.2.2.1, trivial⟩, .inl rfl, fun y b hy hyB => hpO_sub hy hyB, ⟨hpO_not (u := .slc B 0 0 none) (by simp) rfl, .nils, hB, (fun e => by cases e), hpO_gr _ _, .inl ⟨rfl, rfl⟩⟩, OwnXX.nil _ _, (fun u hu => by cases hu), Nat.zero_le _, fun d hd => by cases hd⟩
   ·refine s_condT hs'.2.2.2.2.2.2.2.1 ?_
    obtain ⟨hlim, hle, he⟩ := packR_ok (ht rfl)
    obtain ⟨lim', rfl⟩ := Int.eq_ofNat_of_zero_le hlim.1
    rw [he] at hw
    obtain ⟨n1, g1, rfl⟩ := Has.out (l := [(0, .int .i64 (lim' : Nat)), (3, .ptr A 0 0), (4, .ptr Rr 0 0), (9, va), (12, vb), (17, want), (22, .ptr c22 0 0)]) ⟨hs'.1, hs'.2.1, hs'.2.2.1, hs'.2.2.2.1, hs'.2.2.2.2.1, hs'.2.2.2.2.2.1, hs'.2.2.2.2.2.2.1, trivial⟩ hd'
    refine sp_all hA hB h22 hAB h22B hb (by omega) (fun s hs => by have := hle s hs; omega) hw fun h0 H' e' id xs h3 h4 h5 h6 h7 h8 h9 => ?_
    exact ⟨h0, xs, ls.map ints, [.mark id], h3, h4, .inr ⟨id, rfl, h9⟩, h5, h6, h7, h8, by have := h7.len; simp only [List.length_map] at this; omega, fun d hd => by
     obtain ⟨s, hs, rfl⟩ := List.mem_map.1 hd
     obtain ⟨i, hi⟩ := List.getElem?_of_mem hs
     have := bulk_get hi
     rw [ints, List.length_map]; omega⟩
 ·rintro e' H9 ⟨h0, xs, dx, ds, hd9, hs9, hds, hh0, kb, hxs, hxn, hxl, hdx⟩
  have to9 : ∀ {v : AV} {d : List (List AV)}, OwnX Tb H v d → OwnX Tb H9 v d := fun k => OwnX.row (fun b r hb hr => kb.gr.blk (hh0 _ _ hr (blB k b hb))) k
  have to0 : ∀ {v : AV} {d : List (List AV)}, OwnX Tb H v d → ∀ b, blkOf v = some b → h0.u b = true := fun k b hb => by
   have := blB k b hb
   rcases k with ⟨rfl, _⟩ | ⟨b', row, q, rfl, h2, _⟩
   ·cases hb
   ·cases hb; exact Hp.used (hh0 _ _ h2 this)
  exact sp_end kb hxs hxn (hh0 _ _ h22 h22B) (hh0 _ _ hR hRB) (to9 hva) (to9 hvb) (to0 hva) (to0 hvb) hab hxl hdx hout e' hd9 hs9 hds
theorem sp_t3 {H : Hp} {ls : List Str} {lim : Int} {A Rr : Nat} {va vb : AV} {e : Env} (hb : 16 * ls.length + bulk ls ≤ 4194304) (hA : H A = some (.row TA [[.isl 0 (lb 0 ls)]])) (hR : H Rr = some (.row Tbool [[.bool false]]))
  (hva : OwnX Tb H va (bt (packR lim ls).1)) (hvb : OwnX Tb H vb (bt (packR lim ls).1)) (hab : ∀ b, blkOf va = some b → blkOf vb ≠ some b) (hout : (packR lim ls).1.length ≤ 1000000000)
  (hd : e.ds = []) (hs : Has e [(0, .int .i64 lim), (3, .ptr A 0 0), (4, .ptr Rr 0 0), (5, .bool true), (9, va), (10, .int .i64 (packR lim ls).2.1), (11, .int .i64 (packR lim ls).2.2), (12, vb), (15, .bool true)]) : LCode Tryz.prog false tail3 EQ e H := by
 refine s_then4 _ (sp_want hb hA hva hvb hout hd hs) ?_
 rintro e' H7 ⟨want, hd, hs7, g7, hw⟩
 refine s_then _ (sp_book hd hs7) ?_
 rintro e' H8 ⟨B, c22, T22, hd, hs8, g8, nB, hB, h22, h22B⟩
 have g78 := g7.trans g8
 exact sp_t5 hb (g78.blk hA) (g78.blk hR) hB h22 h22B (hva.gr g78) (hvb.gr g78) hab (hw.gr g8) hout hd hs8
theorem sp_t0 {h2 H : Hp} {ls : List Str} {us : List AV} {v : AV} {lim : Int} {A Rr : Nat} {e : Env} (hb : 16 * ls.length + bulk ls ≤ 4194304) (hA2 : h2 A = some (.row TA [[.isl 0 (lb 0 ls)]])) (hR2 : h2 Rr = some (.row Tbool [[.bool false]])) (hv : AccE Tbl h2 H v (one us)) (hu : LentU h2 H us ls)
  (hd : e.ds = []) (hs : Has e [(0, .int .i64 lim), (3, .ptr A 0 0), (4, .ptr Rr 0 0), (5, .bool true), (6, v)]) : LCode Tryz.prog false tail0 EQ e H := by
 have hA3 := hv.1.blk hA2
 refine s_then3 _ (sp_row hb hv hu hd hs) ?_
 rintro e' H4 ⟨j, c99, hd, hs4, g4, hj, hc⟩
 have hA4 := g4.blk hA3
 refine s_then3 _ (sp_packs hb hA4 (hu.gr g4) hj hc hd hs4) ?_
 rintro e' H5 ⟨va, vb, H4b, hd, hs5, hva, hvb⟩
 have g5 := hva.1.trans hvb.1
 have hu5 := (hu.gr g4).gr g5
 have hout : (packR lim ls).1.length ≤ 1000000000 := by
  have := packS_len ls
  unfold packR
  split
  ·split
   ·simp
   ·show (packS ls).length ≤ _; omega
  ·simp
 obtain ⟨n0, g0, rfl⟩ := hs5.out hd
 clear hs5 hd hs4
 have ub : ∀ u ∈ us, ∀ b, blkOf u = some b → H4.u b = true := fun u hu' b hb' => ((hu.gr g4).blk hu' hb').1
 refine s_blk (id := 2) (fun e' H' => e'.ds = [] ∧ Has e' [(0, .int .i64 lim), (3, .ptr A 0 0), (4, .ptr Rr 0 0), (5, .bool true), (9, va), (10, .int .i64 (packR lim ls).2.1), (11, .int .i64 (packR lim ls).2.2), (12, vb), (15, .bool true)] ∧ Fr us H5 H') ?_ ?_
 ·exact sp_whole ls lim A Rr j c99 _ va vb _ _ h2 H5 v us v [.slc c99 0 1 (some 1)] (Hp.used hA2) (g5.blk hA4) hb (hv.keep (g4.trans g5)) hu5 (g5.blk hj) _ rfl ⟨rfl, rfl, rfl, rfl, rfl, rfl, rfl, rfl, rfl, rfl, rfl, rfl, trivial⟩ _ fun e' H' h1 h3 h4 => ⟨h1, h3, h4⟩
 rintro e' H6 ⟨hd, hs6, hF⟩
 have nAR : ∀ {x : Nat} {b : Blk}, h2 x = some b → ∀ u ∈ us, blkOf u ≠ some x := fun hx u hu' e => by
  have := (hu.blk hu' e).2
  rw [Hp.used hx] at this; cases this
 have f6 : ∀ {x : Nat} {b : Blk}, h2 x = some b → H6 x = some b := fun hx => (hF.m _ (g5.u _ (g4.u _ (hv.1.u _ (Hp.used hx)))) (nAR hx)).trans (g5.blk (g4.blk (hv.1.blk hx)))
 have xva : OwnX Tb H6 va (bt (packR lim ls).1) := OwnX.row (fun b r hb1 hr => (hF.m b (Hp.used hr) fun u hu' e => by
  have h1 := ub u hu' b e
  rw [hva.acc.ownX.2 b hb1] at h1; cases h1).trans hr) (hva.acc.ownX.1.gr hvb.1)
 have xvb : OwnX Tb H6 vb (bt (packR lim ls).1) := OwnX.row (fun b r hb1 hr => (hF.m b (Hp.used hr) fun u hu' e => by
  have h1 := hva.1.u b (ub u hu' b e)
  rw [hvb.acc.ownX.2 b hb1] at h1; cases h1).trans hr) hvb.acc.ownX.1
 have hab : ∀ b, blkOf va = some b → blkOf vb ≠ some b := fun b h1 h3 => by
  have q1 := hva.acc.ownX.1.used h1
  rw [hvb.acc.ownX.2 b h3] at q1; cases q1
 exact sp_t3 hb (f6 hA2) (f6 hR2) xva xvb hab hout hd hs6
def tail00 : ACode := .seq (.ops A_lexiconlaw23_StreamPacks_2) (.seq (.ops [o_ 6 (.mov (.c (.nils)))]) (.seq (.seq (.ops [o_ 7 (.mov (i_ 0))]) (.block 0 (.loop A_lexiconlaw23_StreamPacks_6))) tail0))
theorem sp_t00 {h2 : Hp} {ls : List Str} {lim : Int} {A Rr : Nat} {e : Env} (kr : PureL Tryz.prog 5 [] (.bool true)) (hb : 16 * ls.length + bulk ls ≤ 4194304) (hA2 : h2 A = some (.row TA [[.isl 0 (lb 0 ls)]])) (hR2 : h2 Rr = some (.row Tbool [[.bool false]]))
  (hd : e.ds = []) (hs : Has e [(0, .int .i64 lim), (3, .ptr A 0 0), (4, .ptr Rr 0 0)]) : LCode Tryz.prog false tail00 EQ e h2 := by
 refine s_then3 (fun e' H' => e'.ds = [] ∧ ∃ v us, Has e' [(0, .int .i64 lim), (3, .ptr A 0 0), (4, .ptr Rr 0 0), (5, .bool true), (6, v)] ∧ AccE Tbl h2 H' v (one us) ∧ LentU h2 H' us ls) ?_ ?_
 ·obtain ⟨n0, g0, rfl⟩ := hs.out hd
  refine kr.use ?_
  refine s_blk (id := 0) (fun e' H' => e'.ds = [] ∧ ∃ v us, Has e' [(0, .int .i64 lim), (3, .ptr A 0 0), (4, .ptr Rr 0 0), (5, .bool true), (6, v)] ∧ AccE Tbl h2 H' v (one us) ∧ LentU h2 H' us ls) ?_ fun e' H' h => h
  exact sp_in ls lim A Rr _ _ hA2 hb _ rfl ⟨rfl, rfl, rfl, rfl, rfl, rfl, trivial⟩ _ fun e' H' v us h1 h2 h3 h4 => ⟨h1, v, us, h2, h3, h4⟩
 ·rintro e' H3 ⟨hd, v, us, hs3, hv, hu⟩
  exact sp_t0 hb hA2 hR2 hv hu hd hs3
theorem sp_head {ls : List Str} {lim : Int} (hn : ls.length ≤ 1000000000000000) (hs : ∀ s ∈ ls, s.length ≤ 1000000000000000) :
  LCode Tryz.prog false (.seq (.ops A_lexiconlaw23_StreamPacks_0) (.seq (.ops A_lexiconlaw23_StreamPacks_1) (.cond (.t 27) (.seq (.ops [n_ (.st 1 (.t 4) (.c (.bool true)))]) .ret) .skip))) (toPost (fun e' h2 => ∃ A Rr, e'.ds = [] ∧ Has e' [(0, .int .i64 lim), (3, .ptr A 0 0), (4, .ptr Rr 0 0)] ∧ 16 * ls.length + bulk ls ≤ 4194304 ∧ h2 A = some (.row TA [[.isl 0 (lb 0 ls)]]) ∧ h2 Rr = some (.row Tbool [[.bool false]])) EQ) (env0 197 [.int .i64 lim, .isl 0 (lb 0 ls)]) Hp.nil := by
 refine ⟨rfl, rfl, fun A hA => ?_⟩
 refine ⟨rfl, rfl, fun Rr hR => ?_⟩
 have hAR : A ≠ Rr := fun e => by
  have := hR.1
  rw [← e, Hp.set_u, if_pos rfl] at this; cases this
 refine ⟨_, _, _, _, (Hp.set_ne hAR).trans (Hp.set_same _ _ _), rfl, rfl, ?_⟩
 refine (lists_L 0 0 ls _ hn hs).mono ?_
 rintro r H2 ⟨rfl, t, rfl, ht⟩
 cases t
 ·exact ⟨A, Rr, rfl, ⟨rfl, rfl, rfl, trivial⟩, ht rfl, (Hp.set_ne hAR).trans (Hp.set_same _ _ _), Hp.set_same _ _ _⟩
 ·refine ⟨_, _, _, Hp.set_same _ _ _, rfl, rfl, rfl, rfl, Nat.le_refl _, ?_⟩
  exact ⟨_, _, _, _, Hp.set_same _ _ _, rfl, rfl, rfl⟩
theorem sp_code : A_lexiconlaw23_StreamPacks = .seq (.ops A_lexiconlaw23_StreamPacks_0) (.seq (.seq (.ops A_lexiconlaw23_StreamPacks_1) (.cond (.t 27) (.seq (.ops [n_ (.st 1 (.t 4) (.c (.bool true)))]) .ret) .skip)) tail00) := rfl
theorem StreamPacks_L (lim : Int) (ls : List Str) (hn : ls.length ≤ 1000000000000000) (hs : ∀ s ∈ ls, s.length ≤ 1000000000000000) (kr : PureL Tryz.prog 5 [] (.bool true)) :
  CallL Tryz.prog F_lexiconlaw23_StreamPacks [.int .i64 lim, .isl 0 (lb 0 ls)] Hp.nil fun r _ => r = .ret (.bool true) := by
 refine CallL.ofD (md := false) Tryz.func3 C_lexiconlaw23_StreamPacks (by rw [Tryz.ntmps3]; exact (show 2 ≤ 197 by decide)) ?_
 rw [Tryz.ntmps3, sp_code]
 refine s_then2 _ (sp_head hn hs) ?_
 rintro e' h2 ⟨A, Rr, hd, hs2, hb, hA2, hR2⟩
 exact sp_t00 kr hb hA2 hR2 hd hs2
end Go.Proofs.YtldbbnkacahndabGreatDoor

namespace Go.Proofs.YtldbbnkacahndabGreatDoor
open Go.Shelf
def decLaid_ren : Go.Shelf.Ren := ⟨fun | 197 => 326 | 260 => 356 | n => n, fun | 9 => 9 | 21 => 21 | 3 => 3 | 4 => 4 | 5 => 5 | 105 => 506 | 119 => 535 | 0 => 0 | 46 => 274 | 139 => 538 | 138 => 537 | n => n, fun | 3 => 1 | 4 => 2 | n => n⟩
theorem decLaid : Go.Proofs.Lays.n197 Tryz.prog decLaid_ren := {
 mixed := by kernel_rfl
 f197 := Tryz.func326.trans (congrArg some (by kernel_rfl))
 f260 := Tryz.func356.trans (congrArg some (by kernel_rfl))
 t0 := Tryz.underlying0
 a0 := Tryz.isAgg0
 z0 := Tryz.sizeOf0
 v0 := Tryz.zeroValue0
 t3 := Tryz.underlying3
 a3 := Tryz.isAgg3
 z3 := Tryz.sizeOf3
 v3 := Tryz.zeroValue3
 t4 := Tryz.underlying4
 a4 := Tryz.isAgg4
 z4 := Tryz.sizeOf4
 v4 := Tryz.zeroValue4
 t5 := Tryz.underlying5
 a5 := Tryz.isAgg5
 z5 := Tryz.sizeOf5
 v5 := Tryz.zeroValue5
 t9 := Tryz.underlying9
 a9 := Tryz.isAgg9
 z9 := Tryz.sizeOf9
 v9 := Tryz.zeroValue9
 t21 := Tryz.underlying21
 a21 := Tryz.isAgg21
 z21 := Tryz.sizeOf21
 v21 := Tryz.zeroValue21
 t46 := Tryz.underlying274
 a46 := Tryz.isAgg274
 z46 := Tryz.sizeOf274
 v46 := Tryz.zeroValue274
 t105 := Tryz.underlying506
 a105 := Tryz.isAgg506
 z105 := Tryz.sizeOf506
 v105 := Tryz.zeroValue506
 t119 := Tryz.underlying535
 a119 := Tryz.isAgg535
 z119 := Tryz.sizeOf535
 t138 := Tryz.underlying537
 a138 := Tryz.isAgg537
 z138 := Tryz.sizeOf537
 v138 := Tryz.zeroValue537
 t139 := Tryz.underlying538
 a139 := Tryz.isAgg538
 z139 := Tryz.sizeOf538
 v139 := Tryz.zeroValue538
 g3 := by kernel_rfl
 g4 := by kernel_rfl }
end Go.Proofs.YtldbbnkacahndabGreatDoor

namespace Go.Proofs.YtldbbnkacahndabGreatDoor
open Go.L
theorem glbW {l : List (String × DataW Unit)} {W : World} (hp : laidMetH Tryz.prog l W = laidMet Tryz.prog l W) (h1 : ("unicode/utf8.first", Rows.laid_unicode_utf8_first) ∈ l) (h2 : ("unicode/utf8.acceptRanges", (Rows.laid_unicode_utf8_acceptRanges : DataW Unit)) ∈ l)
  (h : laidMetH Tryz.prog l W) : GlbW Tryz.prog W := by
 rw [hp] at h
 have r1 : Lib.VarReads Tryz.prog W "unicode/utf8.first" Lib.firstData := by
  have := Lib.laidMet.reads h h1
  rwa [show Rows.laid_unicode_utf8_first = Lib.firstData by kernel_rfl] at this
 have r2 : Lib.VarReads Tryz.prog W "unicode/utf8.acceptRanges" Lib.acceptData := by
  have := Lib.laidMet.reads h h2
  rwa [show (Rows.laid_unicode_utf8_acceptRanges : DataW Unit) = Lib.acceptData by kernel_rfl] at this
 have hU := utf8Tabs_of_readsT (ρ := decLaid_ren) { decLaid with } ⟨by kernel_rfl, by kernel_rfl, by kernel_rfl, by kernel_rfl, by kernel_rfl, by kernel_rfl, by kernel_rfl⟩ r1 r2
 intro g3 g4 h3 h4
 have e3 : Tryz.prog.globalNamed "unicode/utf8.first" = some (decLaid_ren.g 3) := by kernel_rfl
 have e4 : Tryz.prog.globalNamed "unicode/utf8.acceptRanges" = some (decLaid_ren.g 4) := by kernel_rfl
 rw [e3] at h3; rw [e4] at h4
 cases h3; cases h4
 exact hU
end Go.Proofs.YtldbbnkacahndabGreatDoor
