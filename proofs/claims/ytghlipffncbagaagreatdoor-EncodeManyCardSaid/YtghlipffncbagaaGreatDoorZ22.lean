/- Contracts of functions of the given program, in the logic L: texts put together; no conditions. -/
import Derived.Test.YtghlipffncbagaaGreatDoorZ21
import Derived.Test.YtghlipffncbagaaGreatDoorZ18
import Derived.Test.YtghlipffncbagaaGreatDoorProg
import Derived.Shelf.Unicode.DecodeAny
import Derived.Test.YtghlipffncbagaaGreatDoorZ3
import Derived.Test.YtghlipffncbagaaGreatDoorRows
import Derived.Lib.LaidU8T
import Derived.LaidMore
import Derived.PinnedBridge
import Derived.KernelRfl
import Derived.Test.YtghlipffncbagaaGreatDoorZ16
import Derived.Lib.LaidTab
namespace Go.Proofs.YtghlipffncbagaaGreatDoor
open Go.L
set_option maxRecDepth 100000
theorem smAll : ∀ s ∈ [S8, S7, S6, S5, S4, S3, S2, S1], SmOK Tryz.prog s := by
 have hk := codes_ok
 have h0 : ∀ s ∈ ([] : List Sm), SmOK Tryz.prog s := fun s hs => nomatch hs
 have h1 := SmOK.of hk h0 (part1 Tryz.prog)
 have h2 := SmOK.of hk h1 (part2 Tryz.prog)
 have h3 := SmOK.of hk h2 (part3 Tryz.prog)
 have h4 := SmOK.of hk h3 (part4 Tryz.prog)
 have h5 := SmOK.of hk h4 (part5 Tryz.prog)
 have h6 := SmOK.of hk h5 (part6 Tryz.prog)
 have h7 := SmOK.of hk h6 (part7 Tryz.prog)
 exact SmOK.of hk h7 (part8 Tryz.prog)
end Go.Proofs.YtghlipffncbagaaGreatDoor

namespace Go.Proofs.YtghlipffncbagaaGreatDoor
open Go.L
set_option maxRecDepth 100000
theorem sm1 : SmOK Tryz.prog S1 := smAll S1 (by simp)
theorem sm2 : SmOK Tryz.prog S2 := smAll S2 (by simp)
theorem sm3 : SmOK Tryz.prog S3 := smAll S3 (by simp)
theorem sm4 : SmOK Tryz.prog S4 := smAll S4 (by simp)
theorem sm5 : SmOK Tryz.prog S5 := smAll S5 (by simp)
theorem sm6 : SmOK Tryz.prog S6 := smAll S6 (by simp)
theorem sm7 : SmOK Tryz.prog S7 := smAll S7 (by simp)
theorem sm8 : SmOK Tryz.prog S8 := smAll S8 (by simp)
def XTH (k : Int) : HT := ⟨(((HT.nil.set 1 (.b (.row TFd [fdC k]))).set 2 (.b (.row TMd [mdC 1]))).set 3 (.b (.row TFl [flC 2]))).t, 4⟩
theorem XTH_hp (k : Int) : (XTH k).hp Tryz.prog = XT k := by
 show (((HT.nil.set 1 (.b (.row TFd [fdC k]))).set 2 (.b (.row TMd [mdC 1]))).set 3 (.b (.row TFl [flC 2]))).hp Tryz.prog = XT k
 rw [HT.hp_set, HT.hp_set, HT.hp_set, HT.hp_nil]
 rfl
theorem heap1 : XT 2 = S1.h.hp Tryz.prog := (XTH_hp 2).symm.trans (congrArg (HT.hp Tryz.prog) (eqH_ok (by kernel_rfl)))
theorem heap2 : S1.h'.hp Tryz.prog = S2.h.hp Tryz.prog := congrArg (HT.hp Tryz.prog) (eqH_ok (by kernel_rfl))
theorem heap3 : S2.h'.hp Tryz.prog = S3.h.hp Tryz.prog := congrArg (HT.hp Tryz.prog) (eqH_ok (by kernel_rfl))
theorem heap3' : S2.h'.hp Tryz.prog = S3.h'.hp Tryz.prog := congrArg (HT.hp Tryz.prog) (eqH_ok (by kernel_rfl))
theorem heap4 : XT 1 = S4.h.hp Tryz.prog := (XTH_hp 1).symm.trans (congrArg (HT.hp Tryz.prog) (eqH_ok (by kernel_rfl)))
theorem heap5 : S4.h'.hp Tryz.prog = S5.h.hp Tryz.prog := congrArg (HT.hp Tryz.prog) (eqH_ok (by kernel_rfl))
theorem heap6 : S5.h'.hp Tryz.prog = S6.h.hp Tryz.prog := congrArg (HT.hp Tryz.prog) (eqH_ok (by kernel_rfl))
theorem heap6' : S5.h'.hp Tryz.prog = S6.h'.hp Tryz.prog := congrArg (HT.hp Tryz.prog) (eqH_ok (by kernel_rfl))
theorem frQ_gr {v : AV} {X' H H' : Hp} {ρ : Nat → Nat} {r : Res} (k : FrQ ρ Hp.nil X' v H r H') : Gr H H' := by
 obtain ⟨ρ', _, _, _, _, hm, hu⟩ := k
 exact ⟨fun j hj => hm j hj fun i hi => (by cases hi), hu⟩
theorem heap7 : Hp.nil = S7.h.hp Tryz.prog := HT.hp_nil.symm.trans (congrArg (HT.hp Tryz.prog) (eqH_ok (by kernel_rfl)))
theorem heap8 : Hp.nil = S8.h.hp Tryz.prog := HT.hp_nil.symm.trans (congrArg (HT.hp Tryz.prog) (eqH_ok (by kernel_rfl)))
theorem kinds_run (H : Hp) : CallL Tryz.prog F_dyn_kinds [] H fun r H' => r = .ret (.agg kindsF) ∧ Gr H H' := by
 refine CallL.mono (sm7.frQ (by kernel_rfl) heap7 rfl (Img.nil id H) rfl rfl (v := .agg kindsF) rfl) ?_
 intro r H' k
 refine ⟨?_, frQ_gr k⟩
 obtain ⟨ρ', _, e, _⟩ := k
 exact e
def esF : MapL := match S8.h'.t.get 0 with
 | some (some (.b (.map es _))) => es
 | _ => []
theorem grdF : GrdF esF 17 where
 forms := fun H => by
  refine CallL.mono (sm8.frQ (by kernel_rfl) heap8 rfl (Img.nil id H) rfl rfl (v := .map 0) rfl) ?_
  intro r H' k
  have g := frQ_gr k
  obtain ⟨ρ', _, e, I, n, _⟩ := k
  refine ⟨ρ' 0, e, n 0 (by kernel_rfl) rfl, ?_, g⟩
  exact I.blk 0 (.map esF 17) (hp_at (b := .b (.map esF 17)) (by kernel_rfl))
 ok := ⟨fun x hx => List.all_eq_true.1 (show (esF.all fun x => (sameK (.int .u8 4) x.1).isSome) = true by kernel_rfl) x hx, by kernel_rfl⟩
theorem grdE2 : GrdE false 157 168 178 165 .nils (.map 166) (.map 167) (S1.h'.hp Tryz.prog) (S2.h'.hp Tryz.prog) where
 tab1 := fun _ _ hI => sm2.frQ (by kernel_rfl) heap2 rfl hI rfl rfl rfl
 tab2 := fun _ _ hI => sm3.frQ (by kernel_rfl) heap3 heap3' hI rfl rfl rfl
 u1 := by kernel_rfl
 u2 := by kernel_rfl
 ut := by kernel_rfl
 t := hp_at (b := .b (.row TTab [TabC (.str [78]) .nils (.slc 178 0 1 none) (.map 165) (.map 166) (.map 167)])) (by kernel_rfl)
 rw := hp_at (b := .b (.row TRow [rowF false])) (by kernel_rfl)
 nm := hp_at (b := .b (.map esE 1)) (by kernel_rfl)
 kinds := kinds_run
theorem grdE1 : GrdE true 157 168 178 165 .nils (.map 166) (.map 167) (S4.h'.hp Tryz.prog) (S5.h'.hp Tryz.prog) where
 tab1 := fun _ _ hI => sm5.frQ (by kernel_rfl) heap5 rfl hI rfl rfl rfl
 tab2 := fun _ _ hI => sm6.frQ (by kernel_rfl) heap6 heap6' hI rfl rfl rfl
 u1 := by kernel_rfl
 u2 := by kernel_rfl
 ut := by kernel_rfl
 t := hp_at (b := .b (.row TTab [TabC (.str [78]) .nils (.slc 178 0 1 none) (.map 165) (.map 166) (.map 167)])) (by kernel_rfl)
 rw := hp_at (b := .b (.row TRow [rowF true])) (by kernel_rfl)
 nm := hp_at (b := .b (.map esE 1)) (by kernel_rfl)
 kinds := kinds_run
theorem works_run (H : Hp) : CallL Tryz.prog F_works11 [] H fun r H' => r = .ret (.bool true) ∧ Gr H H' :=
 (lawRun H).mono fun _ _ ⟨e, e2⟩ => ⟨e, by subst e2; exact Gr.refl _⟩
theorem Many_L (p : Bool) (many : Int) (v : Nat) (hv : v < 18446744073709551616) : CallL Tryz.prog F_lexiconlaw11_EncodeMany [.bool p, .int .i64 many, .int .u64 v] Hp.nil fun r _ => r = .ret (.bool true) := by
 cases p with
 | false => exact EncodeMany_L grdE2 grdF (fun i hi => covU_ok (h0 := S1.h') (h2 := S2.h') (by kernel_rfl) hi) works_run (fun _ _ hI => sm1.frQ (by kernel_rfl) heap1 rfl hI rfl rfl rfl) many v hv
 | true => exact EncodeMany_L grdE1 grdF (fun i hi => covU_ok (h0 := S4.h') (h2 := S5.h') (by kernel_rfl) hi) works_run (fun _ _ hI => sm4.frQ (by kernel_rfl) heap4 rfl hI rfl rfl rfl) many v hv
end Go.Proofs.YtghlipffncbagaaGreatDoor

namespace Go.Proofs.YtghlipffncbagaaGreatDoor
open Go.Shelf
def decLaid_ren : Go.Shelf.Ren := ⟨fun | 197 => 240 | 260 => 268 | n => n, fun | 9 => 9 | 21 => 21 | 3 => 3 | 4 => 4 | 5 => 5 | 105 => 354 | 119 => 383 | 0 => 0 | 46 => 43 | 139 => 386 | 138 => 385 | n => n, fun | 3 => 2 | 4 => 3 | n => n⟩
theorem decLaid : Go.Proofs.Lays.n197 Tryz.prog decLaid_ren := {
 mixed := by kernel_rfl
 f197 := Tryz.func240.trans (congrArg some (by kernel_rfl))
 f260 := Tryz.func268.trans (congrArg some (by kernel_rfl))
 t0 := Tryz.underlying0
 a0 := Tryz.isAgg0
 z0 := Tryz.sizeOf0
 v0 := Tryz.zeroValue0
 t3 := Tryz.underlying3
 a3 := Tryz.isAgg3
 z3 := Tryz.sizeOf3
 v3 := Tryz.zeroValue3
 t4 := Tryz.underlying4
 a4 := Tryz.isAgg4
 z4 := Tryz.sizeOf4
 v4 := Tryz.zeroValue4
 t5 := Tryz.underlying5
 a5 := Tryz.isAgg5
 z5 := Tryz.sizeOf5
 v5 := Tryz.zeroValue5
 t9 := Tryz.underlying9
 a9 := Tryz.isAgg9
 z9 := Tryz.sizeOf9
 v9 := Tryz.zeroValue9
 t21 := Tryz.underlying21
 a21 := Tryz.isAgg21
 z21 := Tryz.sizeOf21
 v21 := Tryz.zeroValue21
 t46 := Tryz.underlying43
 a46 := Tryz.isAgg43
 z46 := Tryz.sizeOf43
 v46 := Tryz.zeroValue43
 t105 := Tryz.underlying354
 a105 := Tryz.isAgg354
 z105 := Tryz.sizeOf354
 v105 := Tryz.zeroValue354
 t119 := Tryz.underlying383
 a119 := Tryz.isAgg383
 z119 := Tryz.sizeOf383
 t138 := Tryz.underlying385
 a138 := Tryz.isAgg385
 z138 := Tryz.sizeOf385
 v138 := Tryz.zeroValue385
 t139 := Tryz.underlying386
 a139 := Tryz.isAgg386
 z139 := Tryz.sizeOf386
 v139 := Tryz.zeroValue386
 g3 := by kernel_rfl
 g4 := by kernel_rfl }
end Go.Proofs.YtghlipffncbagaaGreatDoor

namespace Go.Proofs.YtghlipffncbagaaGreatDoor
open Go.L
theorem glbW {l : List (String × DataW Unit)} {W : World} (hp : laidMetH Tryz.prog l W = laidMet Tryz.prog l W) (h1 : ("unicode/utf8.first", Rows.laid_unicode_utf8_first) ∈ l) (h2 : ("unicode/utf8.acceptRanges", (Rows.laid_unicode_utf8_acceptRanges : DataW Unit)) ∈ l)
  (h10 : Pow10W Tryz.prog W) (h : laidMetH Tryz.prog l W) : GlbW Tryz.prog W := by
 rw [hp] at h
 have r1 : Lib.VarReads Tryz.prog W "unicode/utf8.first" Lib.firstData := by
  have := Lib.laidMet.reads h h1
  rwa [show Rows.laid_unicode_utf8_first = Lib.firstData by kernel_rfl] at this
 have r2 : Lib.VarReads Tryz.prog W "unicode/utf8.acceptRanges" Lib.acceptData := by
  have := Lib.laidMet.reads h h2
  rwa [show (Rows.laid_unicode_utf8_acceptRanges : DataW Unit) = Lib.acceptData by kernel_rfl] at this
 have hU := utf8Tabs_of_readsT (ρ := decLaid_ren) { decLaid with } ⟨by kernel_rfl, by kernel_rfl, by kernel_rfl, by kernel_rfl, by kernel_rfl, by kernel_rfl, by kernel_rfl⟩ r1 r2
 refine ⟨fun g3 g4 h3 h4 => ?_, h10⟩
 have e3 : Tryz.prog.globalNamed "unicode/utf8.first" = some (decLaid_ren.g 3) := by kernel_rfl
 have e4 : Tryz.prog.globalNamed "unicode/utf8.acceptRanges" = some (decLaid_ren.g 4) := by kernel_rfl
 rw [e3] at h3; rw [e4] at h4
 cases h3; cases h4
 exact hU
end Go.Proofs.YtghlipffncbagaaGreatDoor

namespace Go.Proofs.YtghlipffncbagaaGreatDoor
open Go.L
theorem pow10W {l : List (String × DataW Unit)} {W : World} (hp : laidMetH Tryz.prog l W = laidMet Tryz.prog l W) (hm : ("internal/strconv.uint64pow10", (Rows.laid_internal_strconv_uint64pow10 : DataW Unit)) ∈ l)
  (h : laidMetH Tryz.prog l W) : Pow10W Tryz.prog W := by
 rw [hp] at h
 have r : Lib.VarReads Tryz.prog W "internal/strconv.uint64pow10" (Lib.tabData .u64 Lib.pow10Tab) := by
  have := Lib.laidMet.reads h hm
  rwa [show (Rows.laid_internal_strconv_uint64pow10 : DataW Unit) = Lib.tabData .u64 Lib.pow10Tab by kernel_rfl] at this
 intro _
 obtain ⟨g, t, cs, fuel, p, hg, ht, hv, hd⟩ := r
 rw [pow10_is] at hg
 cases hg
 have ht2 : (Tryz.prog.globals[1]?).map (·.type) = some 373 := by kernel_rfl
 rw [ht2] at ht
 cases ht
 unfold Lib.TabIs
 rw [hv]
 have := Lib.cells_of_tab (n := 20) (e := 22) (by kernel_rfl) (by kernel_rfl) (by kernel_rfl) (by kernel_rfl) hd
 rw [← this]
end Go.Proofs.YtghlipffncbagaaGreatDoor
