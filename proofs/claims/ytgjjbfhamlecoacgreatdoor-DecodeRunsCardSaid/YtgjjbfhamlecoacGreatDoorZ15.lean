/- Contracts of functions of the given program, in the logic L: texts put together; no conditions. -/
import Derived.Test.YtgjjbfhamlecoacGreatDoorZ4
import Derived.Test.YtgjjbfhamlecoacGreatDoorZ14
import Derived.Test.YtgjjbfhamlecoacGreatDoorZ5
import Derived.Test.YtgjjbfhamlecoacGreatDoorZ6
import Derived.Test.YtgjjbfhamlecoacGreatDoorZ7
import Derived.Test.YtgjjbfhamlecoacGreatDoorZ8
import Derived.Test.YtgjjbfhamlecoacGreatDoorZ13
import Derived.Test.YtgjjbfhamlecoacGreatDoorProg
import Derived.Shelf.Unicode.DecodeAny
import Derived.Test.YtgjjbfhamlecoacGreatDoorZ9
import Derived.Test.YtgjjbfhamlecoacGreatDoorRows
import Derived.Lib.LaidU8T
import Derived.LaidMore
import Derived.PinnedBridge
import Derived.KernelRfl
namespace Go.Proofs.YtgjjbfhamlecoacGreatDoor
open Go.L
set_option maxRecDepth 100000
theorem codes_ok : trOK (GoodFC Tryz.prog) Codes id := ⟨trivial, ⟨trivial, ⟨trivial, ⟨G_q7, ⟨G_q15, ⟨G_q31, ⟨trivial, ⟨G_q127, trivial, trivial⟩, trivial⟩, ⟨G_q95, ⟨G_q159, trivial, trivial⟩, trivial⟩⟩, ⟨G_q47, ⟨G_q79, ⟨G_q143, trivial, trivial⟩, ⟨G_q207, trivial, trivial⟩⟩, ⟨trivial, trivial, ⟨trivial, ⟨G_q367, trivial, trivial⟩, trivial⟩⟩⟩⟩, ⟨G_q23, ⟨G_q39, ⟨G_q71, ⟨G_q135, ⟨G_q263, trivial, trivial⟩, trivial⟩, trivial⟩, ⟨G_q103, ⟨trivial, ⟨G_q295, trivial, trivial⟩, trivial⟩, ⟨trivial, ⟨G_q359, trivial, trivial⟩, trivial⟩⟩⟩, ⟨G_q55, ⟨G_q87, ⟨G_q151, trivial, trivial⟩, ⟨G_q215, ⟨G_q343, trivial, trivial⟩, trivial⟩⟩, ⟨trivial, trivial, ⟨G_q247, trivial, trivial⟩⟩⟩⟩⟩, ⟨trivial, ⟨G_q19, ⟨G_q35, ⟨G_q67, ⟨G_q131, trivial, trivial⟩, trivial⟩, ⟨G_q99, ⟨G_q163, ⟨G_q291, trivial, trivial⟩, trivial⟩, trivial⟩⟩, ⟨G_q51, ⟨G_q83, ⟨G_q147, trivial, trivial⟩, ⟨G_q211, ⟨G_q339, trivial, trivial⟩, trivial⟩⟩, ⟨G_q115, trivial, trivial⟩⟩⟩, ⟨G_q27, ⟨G_q43, ⟨G_q75, ⟨G_q139, trivial, trivial⟩, trivial⟩, ⟨trivial, trivial, ⟨G_q235, trivial, trivial⟩⟩⟩, ⟨G_q59, ⟨G_q91, ⟨G_q155, trivial, trivial⟩, ⟨G_q219, ⟨G_q347, trivial, trivial⟩, trivial⟩⟩, ⟨G_q123, trivial, trivial⟩⟩⟩⟩⟩, ⟨G_q5, ⟨G_q9, ⟨G_q17, ⟨G_q33, ⟨G_q65, ⟨G_q129, trivial, trivial⟩, ⟨G_q193, trivial, trivial⟩⟩, ⟨G_q97, ⟨G_q161, trivial, trivial⟩, ⟨G_q225, trivial, trivial⟩⟩⟩, ⟨G_q49, ⟨G_q81, ⟨G_q145, trivial, trivial⟩, ⟨G_q209, trivial, trivial⟩⟩, trivial⟩⟩, ⟨G_q25, ⟨G_q41, trivial, ⟨G_q105, ⟨trivial, ⟨G_q297, trivial, trivial⟩, trivial⟩, trivial⟩⟩, ⟨G_q57, ⟨trivial, trivial, ⟨G_q217, ⟨G_q345, trivial, trivial⟩, trivial⟩⟩, trivial⟩⟩⟩, ⟨G_q13, ⟨G_q21, ⟨G_q37, ⟨G_q69, ⟨G_q133, ⟨G_q261, trivial, trivial⟩, trivial⟩, trivial⟩, ⟨G_q101, ⟨G_q165, trivial, trivial⟩, ⟨G_q229, ⟨G_q357, trivial, trivial⟩, trivial⟩⟩⟩, ⟨G_q53, ⟨trivial, ⟨G_q149, trivial, trivial⟩, ⟨G_q213, ⟨G_q341, trivial, trivial⟩, trivial⟩⟩, ⟨G_q117, trivial, trivial⟩⟩⟩, ⟨G_q29, ⟨G_q45, ⟨G_q77, ⟨G_q141, ⟨G_q269, trivial, trivial⟩, trivial⟩, trivial⟩, trivial⟩, ⟨G_q61, ⟨G_q93, ⟨G_q157, trivial, trivial⟩, ⟨G_q221, trivial, trivial⟩⟩, ⟨G_q125, ⟨G_q189, trivial, trivial⟩, ⟨G_q253, trivial, trivial⟩⟩⟩⟩⟩⟩⟩, ⟨trivial, ⟨G_lexiconlaw12_awake, ⟨trivial, ⟨G_q16, ⟨G_q32, ⟨G_q64, ⟨G_q128, trivial, trivial⟩, ⟨G_q192, trivial, trivial⟩⟩, ⟨trivial, trivial, ⟨G_q224, trivial, trivial⟩⟩⟩, ⟨trivial, ⟨G_q80, ⟨G_q144, ⟨G_q272, trivial, trivial⟩, trivial⟩, ⟨G_q208, trivial, trivial⟩⟩, trivial⟩⟩, ⟨G_q24, ⟨G_q40, ⟨G_q72, ⟨G_q136, ⟨G_q264, trivial, trivial⟩, trivial⟩, trivial⟩, ⟨G_q104, trivial, trivial⟩⟩, ⟨G_q56, ⟨G_q88, ⟨G_q152, trivial, trivial⟩, ⟨trivial, ⟨G_q344, trivial, trivial⟩, trivial⟩⟩, ⟨trivial, ⟨G_q184, trivial, trivial⟩, trivial⟩⟩⟩⟩, ⟨G_q12, ⟨trivial, ⟨G_q36, ⟨G_q68, ⟨trivial, ⟨G_q260, trivial, trivial⟩, trivial⟩, trivial⟩, ⟨G_q100, ⟨G_q164, trivial, trivial⟩, ⟨G_q228, trivial, trivial⟩⟩⟩, ⟨G_q52, ⟨trivial, ⟨G_q148, trivial, trivial⟩, ⟨G_q212, ⟨G_q340, trivial, trivial⟩, trivial⟩⟩, ⟨G_q116, ⟨trivial, ⟨G_q308, trivial, trivial⟩, trivial⟩, trivial⟩⟩⟩, ⟨trivial, ⟨G_q44, ⟨G_q76, ⟨G_q140, ⟨G_q268, trivial, trivial⟩, trivial⟩, trivial⟩, ⟨trivial, trivial, ⟨G_q236, trivial, trivial⟩⟩⟩, ⟨G_q60, ⟨G_q92, ⟨G_q156, trivial, trivial⟩, ⟨G_q220, ⟨G_q348, trivial, trivial⟩, trivial⟩⟩, ⟨G_q124, ⟨G_q188, trivial, trivial⟩, trivial⟩⟩⟩⟩⟩, ⟨G_q6, ⟨G_q10, ⟨G_q18, ⟨G_q34, ⟨G_q66, ⟨G_q130, trivial, trivial⟩, trivial⟩, ⟨G_q98, ⟨G_q162, trivial, trivial⟩, ⟨G_q226, trivial, trivial⟩⟩⟩, ⟨G_q50, ⟨G_q82, ⟨G_q146, trivial, trivial⟩, ⟨G_q210, ⟨G_q338, trivial, trivial⟩, trivial⟩⟩, ⟨trivial, ⟨G_q178, trivial, trivial⟩, trivial⟩⟩⟩, ⟨G_q26, ⟨G_q42, ⟨G_q74, trivial, trivial⟩, trivial⟩, ⟨G_q58, ⟨G_q90, trivial, ⟨G_q218, ⟨G_q346, trivial, trivial⟩, trivial⟩⟩, trivial⟩⟩⟩, ⟨G_q14, ⟨G_q22, ⟨G_q38, ⟨G_q70, ⟨G_q134, trivial, trivial⟩, trivial⟩, ⟨G_q102, trivial, ⟨G_q230, ⟨G_q358, trivial, trivial⟩, trivial⟩⟩⟩, ⟨G_q54, ⟨trivial, ⟨G_q150, trivial, trivial⟩, ⟨G_q214, ⟨G_q342, trivial, trivial⟩, trivial⟩⟩, trivial⟩⟩, ⟨G_q30, ⟨G_q46, ⟨trivial, ⟨trivial, ⟨G_q270, trivial, trivial⟩, trivial⟩, ⟨G_q206, trivial, trivial⟩⟩, trivial⟩, ⟨G_q62, ⟨G_q94, ⟨G_q158, trivial, trivial⟩, trivial⟩, ⟨G_q126, ⟨G_q190, trivial, trivial⟩, trivial⟩⟩⟩⟩⟩⟩⟩
end Go.Proofs.YtgjjbfhamlecoacGreatDoor

namespace Go.Proofs.YtgjjbfhamlecoacGreatDoor
open Go.L
set_option maxRecDepth 100000
theorem smAll : ∀ s ∈ [S5, S4, S3, S2, S1], SmOK Tryz.prog s := by
 have hk := codes_ok
 have h0 : ∀ s ∈ ([] : List Sm), SmOK Tryz.prog s := fun s hs => nomatch hs
 have h1 := SmOK.of hk h0 (part1 Tryz.prog)
 have h2 := SmOK.of hk h1 (part2 Tryz.prog)
 have h3 := SmOK.of hk h2 (part3 Tryz.prog)
 have h4 := SmOK.of hk h3 (part4 Tryz.prog)
 exact SmOK.of hk h4 (part5 Tryz.prog)
theorem awake_run : PureL Tryz.prog 4 [] (.bool true) := lawRun codes_ok
end Go.Proofs.YtgjjbfhamlecoacGreatDoor

namespace Go.Proofs.YtgjjbfhamlecoacGreatDoor
open Go.L
set_option maxRecDepth 100000
theorem sm1 : SmOK Tryz.prog S1 := smAll S1 (by simp)
theorem sm2 : SmOK Tryz.prog S2 := smAll S2 (by simp)
theorem sm3 : SmOK Tryz.prog S3 := smAll S3 (by simp)
theorem sm4 : SmOK Tryz.prog S4 := smAll S4 (by simp)
theorem sm5 : SmOK Tryz.prog S5 := smAll S5 (by simp)
theorem heap2 : (S1.h'.hp Tryz.prog).set 5 (fileR 4) = S2.h.hp Tryz.prog :=
 (HT.hp_set S1.h' 5 (.b (fileR 4))).symm.trans (congrArg (HT.hp Tryz.prog) (eqH_ok (by kernel_rfl)))
theorem heap3 : S2.h'.hp Tryz.prog = S3.h.hp Tryz.prog := congrArg (HT.hp Tryz.prog) (eqH_ok (by kernel_rfl))
theorem heap4 : S3.h'.hp Tryz.prog = S4.h.hp Tryz.prog := congrArg (HT.hp Tryz.prog) (eqH_ok (by kernel_rfl))
theorem heap5 : S4.h'.hp Tryz.prog = S5.h.hp Tryz.prog := congrArg (HT.hp Tryz.prog) (eqH_ok (by kernel_rfl))
theorem okh1 : okH S1.h' = true := by kernel_rfl
theorem grdM : GrdM 786 785 801 861 798 13 797 799 800 (S3.h'.hp Tryz.prog) (S4.h'.hp Tryz.prog) (S5.h'.hp Tryz.prog) where
 tab := fun _ _ hI => sm4.frQ (by kernel_rfl) heap4 rfl hI rfl rfl rfl
 norm := fun _ _ hI => sm5.frQ (by kernel_rfl) heap5 rfl hI rfl rfl rfl
 u3 := by kernel_rfl
 u4 := by kernel_rfl
 s := hp_at (b := .b (.row TSet [SetC (.int .u32 0) (.ptr 13 0 0) (.map 785)])) (by kernel_rfl)
 md := hp_at (b := .b (.map [(.str fullM, .ptr 801 0 0, 0)] 1)) (by kernel_rfl)
 t := hp_at (b := .b (.row TTab [TabC (.str fullM) (.slc 797 0 1 none) (.slc 861 0 6 none) (.map 798) (.map 799) (.map 800)])) (by kernel_rfl)
 rw := hp_at (b := .b (.row TRow rowsM)) (by kernel_rfl)
 nm := hp_at (b := .b (.map esM 6)) (by kernel_rfl)
theorem Runs_L (ls : List Nat) (cs : List Int) (hl : ls.length ≤ 1000000000000000) (h64 : ∀ v ∈ ls, v < 18446744073709551616) (hcs : cs.length ≤ 1000000000000000) :
  CallL Tryz.prog F_lexiconlaw12_DecodeRuns [.isl 0 (ux ls), .isl 0 (cx cs)] Hp.nil fun r _ => r = .ret (.bool true) :=
 DecodeRuns_L (a4 := 4) (a5 := 5) (L := 13) awake_run (fun _ _ hI => sm1.frQ (by kernel_rfl) HT.hp_nil.symm rfl hI rfl rfl rfl) (by kernel_rfl) (fun _ _ hi => (okH_ok okh1 hi).1) (by kernel_rfl)
  (fun _ _ hI => sm2.frQ (by kernel_rfl) heap2 rfl hI rfl rfl rfl) (fun _ _ hI => sm3.frQ (by kernel_rfl) heap3 rfl hI rfl rfl rfl) grdM ls cs hl hcs h64
end Go.Proofs.YtgjjbfhamlecoacGreatDoor

namespace Go.Proofs.YtgjjbfhamlecoacGreatDoor
open Go.Shelf
def decLaid_ren : Go.Shelf.Ren := ⟨fun | 197 => 262 | 260 => 296 | n => n, fun | 9 => 9 | 21 => 21 | 3 => 3 | 4 => 4 | 5 => 5 | 105 => 387 | 119 => 418 | 0 => 0 | 46 => 169 | 139 => 421 | 138 => 420 | n => n, fun | 3 => 1 | 4 => 2 | n => n⟩
theorem decLaid : Go.Proofs.Lays.n197 Tryz.prog decLaid_ren := {
 mixed := by kernel_rfl
 f197 := Tryz.func262.trans (congrArg some (by kernel_rfl))
 f260 := Tryz.func296.trans (congrArg some (by kernel_rfl))
 t0 := Tryz.underlying0
 a0 := Tryz.isAgg0
 z0 := Tryz.sizeOf0
 v0 := Tryz.zeroValue0
 t3 := Tryz.underlying3
 a3 := Tryz.isAgg3
 z3 := Tryz.sizeOf3
 v3 := Tryz.zeroValue3
 t4 := Tryz.underlying4
 a4 := Tryz.isAgg4
 z4 := Tryz.sizeOf4
 v4 := Tryz.zeroValue4
 t5 := Tryz.underlying5
 a5 := Tryz.isAgg5
 z5 := Tryz.sizeOf5
 v5 := Tryz.zeroValue5
 t9 := Tryz.underlying9
 a9 := Tryz.isAgg9
 z9 := Tryz.sizeOf9
 v9 := Tryz.zeroValue9
 t21 := Tryz.underlying21
 a21 := Tryz.isAgg21
 z21 := Tryz.sizeOf21
 v21 := Tryz.zeroValue21
 t46 := Tryz.underlying169
 a46 := Tryz.isAgg169
 z46 := Tryz.sizeOf169
 v46 := Tryz.zeroValue169
 t105 := Tryz.underlying387
 a105 := Tryz.isAgg387
 z105 := Tryz.sizeOf387
 v105 := Tryz.zeroValue387
 t119 := Tryz.underlying418
 a119 := Tryz.isAgg418
 z119 := Tryz.sizeOf418
 t138 := Tryz.underlying420
 a138 := Tryz.isAgg420
 z138 := Tryz.sizeOf420
 v138 := Tryz.zeroValue420
 t139 := Tryz.underlying421
 a139 := Tryz.isAgg421
 z139 := Tryz.sizeOf421
 v139 := Tryz.zeroValue421
 g3 := by kernel_rfl
 g4 := by kernel_rfl }
end Go.Proofs.YtgjjbfhamlecoacGreatDoor

namespace Go.Proofs.YtgjjbfhamlecoacGreatDoor
open Go.L
theorem glbW {l : List (String × DataW Unit)} {W : World} (hp : laidMetH Tryz.prog l W = laidMet Tryz.prog l W) (h1 : ("unicode/utf8.first", Rows.laid_unicode_utf8_first) ∈ l) (h2 : ("unicode/utf8.acceptRanges", (Rows.laid_unicode_utf8_acceptRanges : DataW Unit)) ∈ l)
  (h : laidMetH Tryz.prog l W) : GlbW Tryz.prog W := by
 rw [hp] at h
 have r1 : Lib.VarReads Tryz.prog W "unicode/utf8.first" Lib.firstData := by
  have := Lib.laidMet.reads h h1
  rwa [show Rows.laid_unicode_utf8_first = Lib.firstData by kernel_rfl] at this
 have r2 : Lib.VarReads Tryz.prog W "unicode/utf8.acceptRanges" Lib.acceptData := by
  have := Lib.laidMet.reads h h2
  rwa [show (Rows.laid_unicode_utf8_acceptRanges : DataW Unit) = Lib.acceptData by kernel_rfl] at this
 have hU := utf8Tabs_of_readsT (ρ := decLaid_ren) { decLaid with } ⟨by kernel_rfl, by kernel_rfl, by kernel_rfl, by kernel_rfl, by kernel_rfl, by kernel_rfl, by kernel_rfl⟩ r1 r2
 intro g3 g4 h3 h4
 have e3 : Tryz.prog.globalNamed "unicode/utf8.first" = some (decLaid_ren.g 3) := by kernel_rfl
 have e4 : Tryz.prog.globalNamed "unicode/utf8.acceptRanges" = some (decLaid_ren.g 4) := by kernel_rfl
 rw [e3] at h3; rw [e4] at h4
 cases h3; cases h4
 exact hU
end Go.Proofs.YtgjjbfhamlecoacGreatDoor
