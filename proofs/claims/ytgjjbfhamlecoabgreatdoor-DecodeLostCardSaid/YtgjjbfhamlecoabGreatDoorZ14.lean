/- Contracts of functions of the given program, in the logic L: texts put together; no conditions. -/
import Derived.Test.YtgjjbfhamlecoabGreatDoorZ4
import Derived.Test.YtgjjbfhamlecoabGreatDoorZ13
import Derived.Test.YtgjjbfhamlecoabGreatDoorZ5
import Derived.Test.YtgjjbfhamlecoabGreatDoorZ6
import Derived.Test.YtgjjbfhamlecoabGreatDoorZ7
import Derived.Test.YtgjjbfhamlecoabGreatDoorZ8
import Derived.Test.YtgjjbfhamlecoabGreatDoorZ12
import Derived.Test.YtgjjbfhamlecoabGreatDoorProg
import Derived.Shelf.Unicode.DecodeAny
import Derived.Test.YtgjjbfhamlecoabGreatDoorZ9
import Derived.Test.YtgjjbfhamlecoabGreatDoorRows
import Derived.Lib.LaidU8T
import Derived.LaidMore
import Derived.PinnedBridge
import Derived.KernelRfl
namespace Go.Proofs.YtgjjbfhamlecoabGreatDoor
open Go.L
set_option maxRecDepth 100000
theorem codes_ok : trOK (GoodFC Tryz.prog) Codes id := ⟨trivial, ⟨trivial, ⟨G_q3, ⟨G_q7, ⟨G_q15, ⟨G_q31, ⟨G_q63, ⟨G_q127, trivial, trivial⟩, trivial⟩, ⟨G_q95, ⟨G_q159, trivial, trivial⟩, trivial⟩⟩, ⟨G_q47, ⟨G_q79, trivial, trivial⟩, ⟨G_q111, trivial, ⟨trivial, ⟨G_q367, trivial, trivial⟩, trivial⟩⟩⟩⟩, ⟨G_q23, ⟨G_q39, ⟨G_q71, ⟨G_q135, trivial, trivial⟩, trivial⟩, ⟨G_q103, ⟨G_q167, ⟨G_q295, trivial, trivial⟩, trivial⟩, ⟨G_q231, ⟨G_q359, trivial, trivial⟩, trivial⟩⟩⟩, ⟨G_q55, ⟨G_q87, ⟨G_q151, trivial, trivial⟩, ⟨G_q215, ⟨G_q343, trivial, trivial⟩, trivial⟩⟩, trivial⟩⟩⟩, ⟨G_q11, ⟨G_q19, ⟨trivial, ⟨G_q67, trivial, ⟨G_q195, trivial, trivial⟩⟩, ⟨trivial, ⟨G_q163, ⟨G_q291, trivial, trivial⟩, trivial⟩, ⟨G_q227, trivial, trivial⟩⟩⟩, ⟨G_q51, ⟨G_q83, ⟨G_q147, trivial, trivial⟩, ⟨trivial, ⟨G_q339, trivial, trivial⟩, trivial⟩⟩, ⟨G_q115, trivial, trivial⟩⟩⟩, ⟨trivial, ⟨G_q43, ⟨G_q75, ⟨G_q139, ⟨G_q267, trivial, trivial⟩, trivial⟩, trivial⟩, ⟨G_q107, ⟨G_q171, trivial, trivial⟩, ⟨G_q235, trivial, trivial⟩⟩⟩, ⟨G_q59, ⟨trivial, ⟨G_q155, trivial, trivial⟩, ⟨G_q219, ⟨G_q347, trivial, trivial⟩, trivial⟩⟩, ⟨trivial, trivial, ⟨G_q251, trivial, trivial⟩⟩⟩⟩⟩⟩, ⟨G_q5, ⟨G_q9, ⟨G_q17, ⟨G_q33, ⟨G_q65, ⟨trivial, ⟨G_q257, trivial, trivial⟩, trivial⟩, trivial⟩, ⟨trivial, trivial, ⟨G_q225, trivial, trivial⟩⟩⟩, ⟨G_q49, ⟨G_q81, ⟨trivial, ⟨G_q273, trivial, trivial⟩, trivial⟩, trivial⟩, ⟨G_q113, trivial, trivial⟩⟩⟩, ⟨trivial, ⟨G_q41, ⟨trivial, ⟨G_q137, ⟨G_q265, trivial, trivial⟩, trivial⟩, trivial⟩, ⟨G_q105, ⟨G_q169, ⟨G_q297, trivial, trivial⟩, trivial⟩, ⟨G_q233, trivial, trivial⟩⟩⟩, ⟨G_q57, ⟨G_q89, ⟨G_q153, trivial, trivial⟩, ⟨G_q217, ⟨G_q345, trivial, trivial⟩, trivial⟩⟩, trivial⟩⟩⟩, ⟨G_q13, ⟨G_q21, ⟨G_q37, ⟨G_q69, ⟨G_q133, trivial, trivial⟩, trivial⟩, ⟨G_q101, ⟨G_q165, trivial, trivial⟩, ⟨trivial, ⟨G_q357, trivial, trivial⟩, trivial⟩⟩⟩, ⟨G_q53, ⟨G_q85, ⟨G_q149, trivial, trivial⟩, ⟨G_q213, ⟨G_q341, trivial, trivial⟩, trivial⟩⟩, trivial⟩⟩, ⟨G_q29, ⟨G_q45, ⟨G_q77, ⟨G_q141, trivial, trivial⟩, trivial⟩, ⟨G_q109, ⟨G_q173, trivial, trivial⟩, ⟨G_q237, trivial, trivial⟩⟩⟩, ⟨G_q61, ⟨G_q93, ⟨G_q157, trivial, trivial⟩, ⟨G_q221, trivial, trivial⟩⟩, ⟨G_q125, trivial, trivial⟩⟩⟩⟩⟩⟩, ⟨trivial, ⟨G_lexiconlaw12_awake, ⟨G_q8, ⟨G_q16, ⟨G_q32, ⟨G_q64, trivial, ⟨G_q192, trivial, trivial⟩⟩, ⟨trivial, ⟨G_q160, trivial, trivial⟩, ⟨G_q224, trivial, trivial⟩⟩⟩, ⟨trivial, ⟨G_q80, ⟨trivial, ⟨G_q272, trivial, trivial⟩, trivial⟩, trivial⟩, ⟨G_q112, trivial, trivial⟩⟩⟩, ⟨G_q24, ⟨G_q40, ⟨G_q72, ⟨G_q136, ⟨G_q264, trivial, trivial⟩, trivial⟩, trivial⟩, ⟨G_q104, trivial, ⟨G_q232, trivial, trivial⟩⟩⟩, ⟨G_q56, ⟨G_q88, ⟨G_q152, trivial, trivial⟩, ⟨G_q216, ⟨G_q344, trivial, trivial⟩, trivial⟩⟩, trivial⟩⟩⟩, ⟨trivial, ⟨G_q20, ⟨G_q36, ⟨G_q68, trivial, ⟨G_q196, trivial, trivial⟩⟩, ⟨G_q100, ⟨G_q164, trivial, trivial⟩, ⟨G_q228, trivial, trivial⟩⟩⟩, ⟨G_q52, ⟨G_q84, ⟨G_q148, ⟨G_q276, trivial, trivial⟩, trivial⟩, ⟨trivial, ⟨G_q340, trivial, trivial⟩, trivial⟩⟩, ⟨trivial, ⟨trivial, ⟨G_q308, trivial, trivial⟩, trivial⟩, trivial⟩⟩⟩, ⟨G_q28, ⟨G_q44, ⟨G_q76, ⟨G_q140, ⟨G_q268, trivial, trivial⟩, trivial⟩, trivial⟩, ⟨G_q108, ⟨G_q172, trivial, trivial⟩, ⟨G_q236, trivial, trivial⟩⟩⟩, ⟨G_q60, ⟨trivial, ⟨G_q156, trivial, trivial⟩, ⟨G_q220, ⟨G_q348, trivial, trivial⟩, trivial⟩⟩, trivial⟩⟩⟩⟩, ⟨G_q6, ⟨G_q10, ⟨G_q18, ⟨G_q34, ⟨G_q66, trivial, ⟨G_q194, trivial, trivial⟩⟩, ⟨G_q98, trivial, ⟨G_q226, trivial, trivial⟩⟩⟩, ⟨G_q50, ⟨trivial, ⟨trivial, ⟨G_q274, trivial, trivial⟩, trivial⟩, ⟨trivial, ⟨G_q338, trivial, trivial⟩, trivial⟩⟩, ⟨G_q114, trivial, ⟨G_q242, trivial, trivial⟩⟩⟩⟩, ⟨G_q26, ⟨G_q42, ⟨G_q74, ⟨G_q138, trivial, trivial⟩, trivial⟩, ⟨trivial, ⟨G_q170, trivial, trivial⟩, trivial⟩⟩, ⟨trivial, ⟨trivial, ⟨G_q154, trivial, trivial⟩, ⟨G_q218, ⟨G_q346, trivial, trivial⟩, trivial⟩⟩, ⟨trivial, ⟨G_q186, trivial, trivial⟩, trivial⟩⟩⟩⟩, ⟨G_q14, ⟨G_q22, ⟨G_q38, ⟨G_q70, ⟨G_q134, trivial, trivial⟩, trivial⟩, ⟨G_q102, ⟨G_q166, trivial, trivial⟩, ⟨trivial, ⟨G_q358, trivial, trivial⟩, trivial⟩⟩⟩, ⟨G_q54, ⟨G_q86, trivial, ⟨G_q214, ⟨G_q342, trivial, trivial⟩, trivial⟩⟩, trivial⟩⟩, ⟨G_q30, ⟨G_q46, ⟨G_q78, ⟨G_q142, trivial, trivial⟩, trivial⟩, ⟨G_q110, trivial, trivial⟩⟩, ⟨G_q62, ⟨trivial, ⟨G_q158, trivial, trivial⟩, ⟨G_q222, trivial, trivial⟩⟩, ⟨G_q126, trivial, trivial⟩⟩⟩⟩⟩⟩⟩
end Go.Proofs.YtgjjbfhamlecoabGreatDoor

namespace Go.Proofs.YtgjjbfhamlecoabGreatDoor
open Go.L
set_option maxRecDepth 100000
theorem smAll : ∀ s ∈ [S5, S4, S3, S2, S1], SmOK Tryz.prog s := by
 have hk := codes_ok
 have h0 : ∀ s ∈ ([] : List Sm), SmOK Tryz.prog s := fun s hs => nomatch hs
 have h1 := SmOK.of hk h0 (part1 Tryz.prog)
 have h2 := SmOK.of hk h1 (part2 Tryz.prog)
 have h3 := SmOK.of hk h2 (part3 Tryz.prog)
 have h4 := SmOK.of hk h3 (part4 Tryz.prog)
 exact SmOK.of hk h4 (part5 Tryz.prog)
theorem awake_run : PureL Tryz.prog 4 [] (.bool true) := lawRun codes_ok
end Go.Proofs.YtgjjbfhamlecoabGreatDoor

namespace Go.Proofs.YtgjjbfhamlecoabGreatDoor
open Go.L
set_option maxRecDepth 100000
theorem sm1 : SmOK Tryz.prog S1 := smAll S1 (by simp)
theorem sm2 : SmOK Tryz.prog S2 := smAll S2 (by simp)
theorem sm3 : SmOK Tryz.prog S3 := smAll S3 (by simp)
theorem sm4 : SmOK Tryz.prog S4 := smAll S4 (by simp)
theorem sm5 : SmOK Tryz.prog S5 := smAll S5 (by simp)
theorem heap2 : (S1.h'.hp Tryz.prog).set 5 (.row TFile [[.str [102], .str [], .nils, .slc 4 0 2 (some 2), .nils]]) = S2.h.hp Tryz.prog :=
 (HT.hp_set S1.h' 5 (.b (.row TFile [[.str [102], .str [], .nils, .slc 4 0 2 (some 2), .nils]]))).symm.trans (congrArg (HT.hp Tryz.prog) (eqH_ok (by kernel_rfl)))
theorem heap3 : (S2.h'.hp Tryz.prog).set 785 (.row TFault [[.int .i64 0, .str []]]) = S3.h.hp Tryz.prog :=
 (HT.hp_set S2.h' 785 (.b (.row TFault [[.int .i64 0, .str []]]))).symm.trans (congrArg (HT.hp Tryz.prog) (eqH_ok (by kernel_rfl)))
theorem heap4 : HI (S3.h'.hp Tryz.prog) none4 788 789 790 791 792 = S4.h.hp Tryz.prog := by
 have e : (((((S3.h'.set 788 (.b (.row TM [MsgC [] .nils .nils]))).set 789 (.b (.row TM [MsgC none4 .nils .nils]))).set 790 (.b (.row TM [MsgC [] .nils .nils]))).set 791 (.b (.row TErr [eC 0]))).set 792 (.b (.row Tint [eC 0]))) = S4.h := eqH_ok (by kernel_rfl)
 have e2 := congrArg (HT.hp Tryz.prog) e
 rw [HT.hp_set, HT.hp_set, HT.hp_set, HT.hp_set, HT.hp_set] at e2
 exact e2
theorem heap5 : S4.h'.hp Tryz.prog = S5.h.hp Tryz.prog := congrArg (HT.hp Tryz.prog) (eqH_ok (by kernel_rfl))
theorem fresh_set {P : Program} {s : HT} {i j : Nat} {b : Blk} (hi : Fresh (s.hp P) i) (hn : i ≠ j) : Fresh ((s.hp P).set j b) i := ⟨by rw [Hp.set_u, if_neg hn]; exact hi.1, (Hp.set_ne hn).trans hi.2⟩
theorem fresh_at {P : Program} {s : HT} {i : Nat} (h : s.t.get i = none) : Fresh (s.hp P) i := ⟨by show (s.t.get i).isSome = false; rw [h]; rfl, by show jn P (s.t.get i) = none; rw [h]; rfl⟩
theorem fresh_set' {h : Hp} {i j : Nat} {b : Blk} (hi : Fresh h i) (hn : i ≠ j) : Fresh (h.set j b) i := ⟨by rw [Hp.set_u, if_neg hn]; exact hi.1, (Hp.set_ne hn).trans hi.2⟩
theorem grd : Grd none4 4 13 5 785 787 801 788 789 790 791 792 (S1.h'.hp Tryz.prog) (S2.h'.hp Tryz.prog) (S3.h'.hp Tryz.prog) (S4.h'.hp Tryz.prog) (S5.h'.hp Tryz.prog) where
 little := fun Q hq => callL_at (HT.hp_nil (P := Tryz.prog)).symm (sm1 Q hq)
 f5 := fresh_at (by kernel_rfl)
 of_ := fun Q hq => callL_at heap2 (sm2 Q hq)
 f7 := fresh_at (by kernel_rfl)
 tabs := fun Q hq => callL_at heap3 (sm3 Q hq)
 fr := fresh_at (by kernel_rfl)
 fm := fresh_set' (fresh_at (by kernel_rfl)) (by decide)
 fo := fresh_set' (fresh_set' (fresh_at (by kernel_rfl)) (by decide)) (by decide)
 fe := fresh_set' (fresh_set' (fresh_set' (fresh_at (by kernel_rfl)) (by decide)) (by decide)) (by decide)
 fa := fresh_set' (fresh_set' (fresh_set' (fresh_set' (fresh_at (by kernel_rfl)) (by decide)) (by decide)) (by decide)) (by decide)
 tab := fun Q hq => callL_at heap4 (sm4 Q hq)
 norm := fun Q hq => callL_at heap5 (sm5 Q hq)
 h4m := hp_at (b := .b (.row TM [MsgC none4 .nils .nils])) (by kernel_rfl)
theorem decB : DecB 787 786 801 790 791 792 1 (.int .u32 0) (.ptr 13 0 0) [(.str none4, .ptr 801 0 0, 0)] none4 .nils .nils (.map 798) (.map 799) (.map 800) 788 (S5.h'.hp Tryz.prog) where
 s := hp_at (b := .b (.row TSet [SetC (.int .u32 0) (.ptr 13 0 0) (.map 786)])) (by kernel_rfl)
 md := hp_at (b := .b (.map [(.str none4, .ptr 801 0 0, 0)] 1)) (by kernel_rfl)
 sk := fun x hx => ⟨none4, by rw [List.mem_singleton.1 hx]⟩
 sg := rfl
 t := hp_at (b := .b (.row TTab [TabC (.str none4) .nils .nils (.map 798) (.map 799) (.map 800)])) (by kernel_rfl)
 o := hp_at (b := .b (.row TM [MsgC [] .nils .nils])) (by kernel_rfl)
 e := hp_at (b := .b (.row TErr [eC 0])) (by kernel_rfl)
 a := hp_at (b := .b (.row Tint [eC 0])) (by kernel_rfl)
 r := hp_at (b := .b (.row TM [MsgC [] .nils .nils])) (by kernel_rfl)
 ro := by decide
theorem Lost_L (b : Str) (hb : b.length ≤ 1000000000000000) : CallL Tryz.prog F_lexiconlaw12_DecodeLost [.isl 0 (bt b)] Hp.nil fun r _ => r = .ret (.bool true) :=
 DecodeLost_L grd decB (hp_at (b := .b (.map [] 0)) (by kernel_rfl)) awake_run b hb
end Go.Proofs.YtgjjbfhamlecoabGreatDoor

namespace Go.Proofs.YtgjjbfhamlecoabGreatDoor
open Go.Shelf
def decLaid_ren : Go.Shelf.Ren := ⟨fun | 197 => 266 | 260 => 296 | n => n, fun | 9 => 9 | 21 => 21 | 3 => 3 | 4 => 4 | 5 => 5 | 105 => 388 | 119 => 417 | 0 => 0 | 46 => 143 | 139 => 420 | 138 => 419 | n => n, fun | 3 => 1 | 4 => 2 | n => n⟩
theorem decLaid : Go.Proofs.Lays.n197 Tryz.prog decLaid_ren := {
 mixed := by kernel_rfl
 f197 := Tryz.func266.trans (congrArg some (by kernel_rfl))
 f260 := Tryz.func296.trans (congrArg some (by kernel_rfl))
 t0 := Tryz.underlying0
 a0 := Tryz.isAgg0
 z0 := Tryz.sizeOf0
 v0 := Tryz.zeroValue0
 t3 := Tryz.underlying3
 a3 := Tryz.isAgg3
 z3 := Tryz.sizeOf3
 v3 := Tryz.zeroValue3
 t4 := Tryz.underlying4
 a4 := Tryz.isAgg4
 z4 := Tryz.sizeOf4
 v4 := Tryz.zeroValue4
 t5 := Tryz.underlying5
 a5 := Tryz.isAgg5
 z5 := Tryz.sizeOf5
 v5 := Tryz.zeroValue5
 t9 := Tryz.underlying9
 a9 := Tryz.isAgg9
 z9 := Tryz.sizeOf9
 v9 := Tryz.zeroValue9
 t21 := Tryz.underlying21
 a21 := Tryz.isAgg21
 z21 := Tryz.sizeOf21
 v21 := Tryz.zeroValue21
 t46 := Tryz.underlying143
 a46 := Tryz.isAgg143
 z46 := Tryz.sizeOf143
 v46 := Tryz.zeroValue143
 t105 := Tryz.underlying388
 a105 := Tryz.isAgg388
 z105 := Tryz.sizeOf388
 v105 := Tryz.zeroValue388
 t119 := Tryz.underlying417
 a119 := Tryz.isAgg417
 z119 := Tryz.sizeOf417
 t138 := Tryz.underlying419
 a138 := Tryz.isAgg419
 z138 := Tryz.sizeOf419
 v138 := Tryz.zeroValue419
 t139 := Tryz.underlying420
 a139 := Tryz.isAgg420
 z139 := Tryz.sizeOf420
 v139 := Tryz.zeroValue420
 g3 := by kernel_rfl
 g4 := by kernel_rfl }
end Go.Proofs.YtgjjbfhamlecoabGreatDoor

namespace Go.Proofs.YtgjjbfhamlecoabGreatDoor
open Go.L
theorem glbW {l : List (String × DataW Unit)} {W : World} (hp : laidMetH Tryz.prog l W = laidMet Tryz.prog l W) (h1 : ("unicode/utf8.first", Rows.laid_unicode_utf8_first) ∈ l) (h2 : ("unicode/utf8.acceptRanges", (Rows.laid_unicode_utf8_acceptRanges : DataW Unit)) ∈ l)
  (h : laidMetH Tryz.prog l W) : GlbW Tryz.prog W := by
 rw [hp] at h
 have r1 : Lib.VarReads Tryz.prog W "unicode/utf8.first" Lib.firstData := by
  have := Lib.laidMet.reads h h1
  rwa [show Rows.laid_unicode_utf8_first = Lib.firstData by kernel_rfl] at this
 have r2 : Lib.VarReads Tryz.prog W "unicode/utf8.acceptRanges" Lib.acceptData := by
  have := Lib.laidMet.reads h h2
  rwa [show (Rows.laid_unicode_utf8_acceptRanges : DataW Unit) = Lib.acceptData by kernel_rfl] at this
 have hU := utf8Tabs_of_readsT (ρ := decLaid_ren) { decLaid with } ⟨by kernel_rfl, by kernel_rfl, by kernel_rfl, by kernel_rfl, by kernel_rfl, by kernel_rfl, by kernel_rfl⟩ r1 r2
 intro g3 g4 h3 h4
 have e3 : Tryz.prog.globalNamed "unicode/utf8.first" = some (decLaid_ren.g 3) := by kernel_rfl
 have e4 : Tryz.prog.globalNamed "unicode/utf8.acceptRanges" = some (decLaid_ren.g 4) := by kernel_rfl
 rw [e3] at h3; rw [e4] at h4
 cases h3; cases h4
 exact hU
end Go.Proofs.YtgjjbfhamlecoabGreatDoor
