/- MaskSets answers true for every input, and leaves its arguments: proved with no condition beyond the given row's. By contracts of the functions that it calls, in the logic L (L's code of each function is what L makes of the given program). The listed variables are tied by the given tie. -/
import Derived.Test.YtibdeeejjbmgcaaGreatDoorZ10
import Derived.Test.YtibdeeejjbmgcaaGreatDoorZ4
import Derived.Test.YtibdeeejjbmgcaaGreatDoorRows
import Derived.Test.YtibdeeejjbmgcaaGreatDoorTie
import Derived.Test.YtibdeeejjbmgcaaGreatDoorCards
import Derived.OpenShut
import Derived.LaidMore
import Derived.Lay
import Derived.LaidOnce
import Derived.SevenTiedAt
import Derived.Carry
namespace Go.Proofs.YtibdeeejjbmgcaaGreatDoor
open Go.L Go.ChangeShapes Go.WideShapes Go.ChangeAt Go.RowKit

theorem maskSets_own : ownKnob Tryz.prog.godebug = none := by kernel_rfl
theorem maskSets_plain : plainB Tryz.prog [22, 9] = true := by kernel_rfl
theorem maskSets_rb : reachBytes = 140737488351232 := rfl

set_option maxRecDepth 100000 in
theorem maskSets_lifted (os : Os) (started : os.Started) (H : Type) (enc : TypeId × Value → H) :
    ReturnsInHanded {} Tryz.checked os 3 .any (fun w args => (Rows.maskSetsSpec.pre enc Tryz.prog Tryz.f3 [] false w args ∧ laidMetH Tryz.prog Rows.maskSetsRow.laid w) ∧ sizedMet enc Tryz.prog Tryz.f3 (OpenSpec.ofChange Rows.maskSetsSpec) false w args)
      (Rows.maskSetsSpec.post enc Tryz.prog Tryz.f3 false true false false) := by
  refine returnsInHanded_of_change_and (C := Tryz.checked) (X := fun w _ => laidMetH Tryz.prog Rows.maskSetsRow.laid w) (fun _ _ _ hh h => h.of_heap hh) maskSets_own started (by kernel_rfl) Tryz.func3
    (ChangeSpec.witness_shaped (enc := enc) (C := Tryz.checked) (os := os) (X := fun w _ => laidMetH Tryz.prog Rows.maskSetsRow.laid w) false (World.laidAll Tryz.prog os Rows.maskSetsRow.laid) #[.slice none 0 0, .slice none 0 0, .string ⟨#[]⟩] 8 (World.laidAll_os _ _ _)
      (World.shaped_of_ZipB (by kernel_rfl) (by kernel_rfl)) (by kernel_rfl) (by kernel_rfl) (by kernel_rfl)
      (by rw [MakeChecks.laidMetH_plain _ _ _ (by kernel_rfl)]; exact laidMet_laidAll _ (by kernel_rfl) (by kernel_rfl))) ?_
  intro W base args ds gs before hval0 hW _ hwt0 _ _
  have hval : ∀ (j : Nat) t v, Tryz.f3.params[j]? = some t → args[j]? = some v → Value.okWide Tryz.prog W .any base t v := hval0
  have hW' := hW
  obtain ⟨p, q, hA0, hV, rfl, _, _⟩ := hW
  have hA : DataW.TrodAll enc Tryz.prog W 0 (fun _ => true) true Tryz.f3.params.toList args.toList ds p := hA0
  have hwt : (DataW.weightsEach Tryz.prog (Tryz.f3.params.toList ++ []) (ds ++ gs)).all (· ≤ reachBytes) = true := hwt0
  have hlt := DataW.TrodAll.lt hA
  rw [Tryz.params3] at hA hval hwt
  obtain ⟨v1, v2, v3, d1, d2, d3, p1, p2, p3, rfl, rfl, rfl, h1, h2, h3⟩ := trodAll_three hA
  obtain ⟨rfl, rfl⟩ := trodVars_none hV
  have hwt2 : ((d1.weights Tryz.prog 22 ++ (d2.weights Tryz.prog 22 ++ (d3.weights Tryz.prog 9 ++ []))).all (· ≤ reachBytes)) = true := hwt
  have w1 : ∀ n ∈ d1.weights Tryz.prog 22, n ≤ reachBytes := fun n hn => of_decide_eq_true (List.all_eq_true.1 hwt2 n (List.mem_append_left _ hn))
  have w2 : ∀ n ∈ d2.weights Tryz.prog 22, n ≤ reachBytes := fun n hn => of_decide_eq_true (List.all_eq_true.1 hwt2 n (List.mem_append_right _ (List.mem_append_left _ hn)))
  have w3 : ∀ n ∈ d3.weights Tryz.prog 9, n ≤ reachBytes := fun n hn => of_decide_eq_true (List.all_eq_true.1 hwt2 n (List.mem_append_right _ (List.mem_append_right _ (List.mem_append_left _ hn))))
  have hb : Tryz.prog.bytesOf 9 ≠ 0 := by
    have : Tryz.prog.bytesOf 9 = 16 := by kernel_rfl
    rw [this]; decide
  obtain ⟨l1, e1, n1, m1⟩ := texts_of Tryz.underlying22 Tryz.underlying9 hb h1 w1
  have r1 := slice_VR (σ := fun _ => none) maskSets_plain (by decide) Tryz.underlying22 (hval 0 _ v1 rfl rfl) h1 e1
  obtain ⟨l2, e2, n2, m2⟩ := texts_of Tryz.underlying22 Tryz.underlying9 hb h2 w2
  have r2 := slice_VR (σ := fun _ => none) maskSets_plain (by decide) Tryz.underlying22 (hval 1 _ v2 rfl rfl) h2 e2
  obtain ⟨l3, r3, n3⟩ := string_of (σ := fun _ => none) Tryz.underlying9 (hval 2 _ v3 rfl rfl) h3 w3
  have hargs : VRs (fun _ => none) (memW W) [.isl 0 (tx l1), .isl 0 (tx l2), .str l3] #[v1, v2, v3] := VRs.cons r1 (VRs.cons r2 (VRs.cons r3 .nil))
  have hr := maskSets_rb
  have big : ∀ {n : Nat}, n ≤ reachBytes → n ≤ 1000000000000000 := fun h => by rw [hr] at h; omega
  have call := CallL.law (MaskSets_L l1 l2 l3 (big n1) (fun s hs => big (m1 s hs)) (big n2) (fun s hs => big (m2 s hs)) (big n3) known_run) hargs
  refine call.mono fun e W' ⟨he, hb⟩ => ?_
  subst he
  have stayS : ∀ {v : Value} {d : DataW H} {ps : List MemPlace}, DataW.Trod enc Tryz.prog W 0 (fun _ => true) true 9 v d ps → (∀ x ∈ ps, x.block < W.heap.size) → DataW.Trod enc Tryz.prog W' 0 (fun b => decide (b < W.heap.size)) true 9 v d ps :=
    fun h hl => Below.trod (by kernel_rfl) (by kernel_rfl) (of_decide_eq_true (by kernel_rfl)) h hb hl
  have stayT : ∀ {v : Value} {d : DataW H} {ps : List MemPlace}, DataW.Trod enc Tryz.prog W 0 (fun _ => true) true 22 v d ps → (∀ x ∈ ps, x.block < W.heap.size) → DataW.Trod enc Tryz.prog W' 0 (fun b => decide (b < W.heap.size)) true 22 v d ps :=
    fun h hl => Below.trod (by kernel_rfl) (by kernel_rfl) (of_decide_eq_true (by kernel_rfl)) h hb hl
  exact ⟨_, rfl, _, _, _, [], _, [], hW', trodAll_mk1 (shut_bool Tryz.underlying4 _), trodAll_mk3 (stayT h1 fun x hx => hlt x (by simp [hx])) (stayT h2 fun x hx => hlt x (by simp [hx])) (stayS h3 fun x hx => hlt x (by simp [hx])), rfl, hb.frame _, fun h => by cases h⟩

theorem maskSets_row_holds : Rows.MaskSetsSaid :=
  OpenClaim.holds_of_wide 3 Tryz.f3 rfl rfl rfl rfl rfl rfl rfl ⟨rfl, rfl, rfl, rfl, rfl⟩ rfl rfl rfl rfl rfl (by kernel_rfl) Tryz.func3 (by kernel_rfl)
    (of_decide_eq_true (by kernel_rfl)) (by unfold Func.isWrapper; first | (rw [if_pos (by decide +kernel)]; kernel_rfl) | (rw [if_neg (by decide +kernel)]; exact ⟨rfl, rfl⟩))
    (fun os started H enc _ => maskSets_lifted os started H enc)

theorem maskSets_holds : Rows.MaskSetsCardSaid :=
  Claim7.holds_tied_plain_at .later [] [.data, .pinned] true _ false maskSets_row_holds (fun _ h => by cases h) (by kernel_rfl) (fun _ h => by cases h) maskSets_row_tie rfl ⟨rfl, rfl⟩ (by kernel_rfl) rfl
    (fun f fn hf hfn => by
      obtain rfl : f = 3 := Option.some.inj ((show Tryz.prog.funcNamed "lexicon/lexiconlaw16.MaskSets" = some 3 by kernel_rfl).symm.trans hf) |>.symm
      obtain rfl : fn = Tryz.f3 := (Option.some.inj (Tryz.func3.symm.trans hfn)).symm
      exact ⟨by kernel_rfl, fun j t ht => by
        rw [Tryz.params3] at ht
        have hm : t ∈ [22, 22, 9] := by simpa using Array.mem_of_getElem? ht
        have hall : ([22, 22, 9].all fun u => !Tryz.prog.wantsStandIn u) = true := by kernel_rfl
        exact (show Tryz.prog.wantsStandIn t = false by simpa using List.all_eq_true.1 hall t hm)⟩)
    (by kernel_rfl)
#print axioms maskSets_holds
end Go.Proofs.YtibdeeejjbmgcaaGreatDoor
