/- CompatWorst answers true of every list of verdicts: proved with no condition; the contracts of its functions are shown by the logic L. The listed variables are tied by the given tie. -/
import Derived.Test.YtcpjeocepolecaaGreatDoorY6
import Derived.Test.YtcpjeocepolecaaGreatDoorY7
import Derived.Test.YtcpjeocepolecaaGreatDoorY3
import Derived.Test.YtcpjeocepolecaaGreatDoorY16
import Derived.Test.YtcpjeocepolecaaGreatDoorY5
import Derived.Test.YtcpjeocepolecaaGreatDoorRows
import Derived.Test.YtcpjeocepolecaaGreatDoorTie
import Derived.Test.YtcpjeocepolecaaGreatDoorCards
import Derived.OpenShut
import Derived.LaidMore
import Derived.Lay
import Derived.LaidOnce
import Derived.SevenTiedAt
import Derived.Carry
namespace Go.Proofs.YtcpjeocepolecaaGreatDoor
open Go.L Go.ChangeShapes Go.WideShapes Go.ChangeAt Go.RowKit

theorem compatWorst_own : ownKnob Tryz.prog.godebug = none := by kernel_rfl
theorem compatWorst_plain : plainB Tryz.prog [25, 27, 9, 21, 23] = true := by kernel_rfl
theorem compatWorst_rb : reachBytes = 140737488351232 := rfl

set_option maxRecDepth 100000 in
theorem compatWorst_lifted (os : Os) (started : os.Started) (H : Type) (enc : TypeId × Value → H) :
    ReturnsInHanded {} Tryz.checked os 4 .any (fun w args => (Rows.compatWorstSpec.pre enc Tryz.prog Tryz.f4 [] false w args ∧ laidMetH Tryz.prog Rows.compatWorstRow.laid w) ∧ sizedMet enc Tryz.prog Tryz.f4 (OpenSpec.ofChange Rows.compatWorstSpec) false w args)
      (Rows.compatWorstSpec.post enc Tryz.prog Tryz.f4 false true false false) := by
  refine returnsInHanded_of_change_and (C := Tryz.checked) (X := fun w _ => laidMetH Tryz.prog Rows.compatWorstRow.laid w) (fun _ _ _ hh h => h.of_heap hh) compatWorst_own started (by kernel_rfl) Tryz.func4
    (ChangeSpec.witness_shaped (enc := enc) (C := Tryz.checked) (os := os) (X := fun w _ => laidMetH Tryz.prog Rows.compatWorstRow.laid w) false (World.laidAll Tryz.prog os Rows.compatWorstRow.laid) #[.slice none 0 0] 8 (World.laidAll_os _ _ _)
      (World.shaped_of_ZipB (by kernel_rfl) (by kernel_rfl)) (by kernel_rfl) (by kernel_rfl) (by kernel_rfl)
      (by rw [MakeChecks.laidMetH_plain _ _ _ (by kernel_rfl)]; exact laidMet_laidAll _ (by kernel_rfl) (by kernel_rfl))) ?_
  intro W base args ds gs before hval0 hW _ hwt0 _ _
  have hval : ∀ (j : Nat) t v, Tryz.f4.params[j]? = some t → args[j]? = some v → Value.okWide Tryz.prog W .any base t v := hval0
  have hW' := hW
  obtain ⟨p, q, hA0, hV, rfl, _, _⟩ := hW
  have hA : DataW.TrodAll enc Tryz.prog W 0 (fun _ => true) true Tryz.f4.params.toList args.toList ds p := hA0
  have hwt : (DataW.weightsEach Tryz.prog (Tryz.f4.params.toList ++ []) (ds ++ gs)).all (· ≤ reachBytes) = true := hwt0
  have hlt := DataW.TrodAll.lt hA
  rw [Tryz.params4] at hA hval hwt
  obtain ⟨v1, d1, rfl, rfl, h1⟩ := trodAll_one hA
  obtain ⟨rfl, rfl⟩ := trodVars_none hV
  have hwt2 : ((d1.weights Tryz.prog 25 ++ []).all (· ≤ reachBytes)) = true := hwt
  have w1 : ∀ n ∈ d1.weights Tryz.prog 25, n ≤ reachBytes := fun n hn => of_decide_eq_true (List.all_eq_true.1 hwt2 n (List.mem_append_left _ hn))
  have hbv : Tryz.prog.bytesOf 27 ≠ 0 := by
    have : Tryz.prog.bytesOf 27 = 24 := by kernel_rfl
    rw [this]; decide
  obtain ⟨l1, e1, n1, m1⟩ := threes_of Tryz.underlying25 Tryz.underlying27 Tryz.underlying9 Tryz.underlying21 Tryz.underlying23 hbv h1 w1
  have r1 := slice_VR (σ := fun _ => none) compatWorst_plain (by decide) Tryz.underlying25 (hval 0 _ v1 rfl rfl) h1 e1
  have hargs : VRs (fun _ => none) (memW W) [.isl 0 (vx l1)] #[v1] := VRs.cons r1 .nil
  have hr := compatWorst_rb
  have big : ∀ {n : Nat}, n ≤ reachBytes → n ≤ 1000000000000000 := fun h => by rw [hr] at h; omega
  have call := CallL.law (CompatWorst_L l1 (big n1) m1 lawRun5) hargs
  refine call.mono fun e W' ⟨he, hb⟩ => ?_
  subst he
  have stayV : ∀ {v : Value} {d : DataW H} {ps : List MemPlace}, DataW.Trod enc Tryz.prog W 0 (fun _ => true) true 25 v d ps → (∀ x ∈ ps, x.block < W.heap.size) → DataW.Trod enc Tryz.prog W' 0 (fun b => decide (b < W.heap.size)) true 25 v d ps :=
    fun h hl => Below.trod (by kernel_rfl) (by kernel_rfl) (of_decide_eq_true (by kernel_rfl)) h hb hl
  exact ⟨_, rfl, _, _, _, [], _, [], hW', trodAll_mk1 (shut_bool Tryz.underlying4 _), trodAll_mk1 (stayV h1 fun x hx => hlt x hx), rfl, hb.frame _, fun h => by cases h⟩

theorem compatWorst_row_holds : Rows.CompatWorstSaid :=
  OpenClaim.holds_of_wide 4 Tryz.f4 rfl rfl rfl rfl rfl rfl rfl ⟨rfl, rfl, rfl, rfl, rfl⟩ rfl rfl rfl rfl rfl (by kernel_rfl) Tryz.func4 jE
    (of_decide_eq_true (by kernel_rfl)) (by unfold Func.isWrapper; first | (rw [if_pos (by decide +kernel)]; kernel_rfl) | (rw [if_neg (by decide +kernel)]; exact ⟨rfl, rfl⟩))
    (fun os started H enc _ => compatWorst_lifted os started H enc)

theorem compatWorst_holds : Rows.CompatWorstCardSaid :=
  Claim7.holds_tied_plain_at .later [] [.data, .pinned] true _ true compatWorst_row_holds (fun _ h => by cases h) (by kernel_rfl) (fun _ h => by cases h) compatWorst_row_tie rfl ⟨rfl, rfl⟩ (by kernel_rfl) rfl
    (fun f fn hf hfn => by
      obtain rfl : f = 4 := Option.some.inj ((show Tryz.prog.funcNamed "lexicon/lexiconlaw17.CompatWorst" = some 4 by kernel_rfl).symm.trans hf) |>.symm
      obtain rfl : fn = Tryz.f4 := (Option.some.inj (Tryz.func4.symm.trans hfn)).symm
      exact ⟨by kernel_rfl, fun j t ht => by
        rw [Tryz.params4] at ht
        have hm : t ∈ [25] := by simpa using Array.mem_of_getElem? ht
        have hall : ([25].all fun u => !Tryz.prog.wantsStandIn u) = true := by kernel_rfl
        exact (show Tryz.prog.wantsStandIn t = false by simpa using List.all_eq_true.1 hall t hm)⟩)
    (by kernel_rfl)
#print axioms compatWorst_holds
end Go.Proofs.YtcpjeocepolecaaGreatDoor
