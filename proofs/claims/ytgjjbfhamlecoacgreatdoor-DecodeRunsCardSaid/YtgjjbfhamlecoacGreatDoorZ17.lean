/- Contracts of functions of the given program, in the logic L: texts put together; no conditions. -/
import Derived.Test.YtgjjbfhamlecoacGreatDoorZ15
import Derived.Test.YtgjjbfhamlecoacGreatDoorZ16
import Derived.Test.YtgjjbfhamlecoacGreatDoorZ9
import Derived.Test.YtgjjbfhamlecoacGreatDoorRows
import Derived.Test.YtgjjbfhamlecoacGreatDoorTie
import Derived.Test.YtgjjbfhamlecoacGreatDoorCards
import Derived.OpenShut
import Derived.LaidMore
import Derived.Lay
import Derived.LaidOnce
import Derived.SevenTiedAt
import Derived.Carry
namespace Go.Proofs.YtgjjbfhamlecoacGreatDoor
open Go.L Go.ChangeShapes Go.WideShapes Go.ChangeAt Go.RowKit
theorem decodeRuns_own : ownKnob Tryz.prog.godebug = none := by kernel_rfl
theorem decodeRuns_plain : plainB Tryz.prog [23, 22, 3, 41] = true := by kernel_rfl
theorem decodeRuns_rb : reachBytes = 140737488351232 := rfl
set_option maxRecDepth 100000 in
theorem decodeRuns_lifted (os : Os) (started : os.Started) (H : Type) (enc : TypeId × Value → H) :
  ReturnsInHanded {} Tryz.checked os 3 .any (fun w args => (Rows.decodeRunsSpec.pre enc Tryz.prog Tryz.f3 [] false w args ∧ laidMetH Tryz.prog Rows.decodeRunsRow.laid w) ∧ sizedMet enc Tryz.prog Tryz.f3 (OpenSpec.ofChange Rows.decodeRunsSpec) false w args)
   (Rows.decodeRunsSpec.post enc Tryz.prog Tryz.f3 false true false false) := by
 refine returnsInHanded_of_change_and (C := Tryz.checked) (X := fun w _ => laidMetH Tryz.prog Rows.decodeRunsRow.laid w) (fun _ _ _ hh h => h.of_heap hh) decodeRuns_own started (by kernel_rfl) Tryz.func3
  (ChangeSpec.witness_shaped (enc := enc) (C := Tryz.checked) (os := os) (X := fun w _ => laidMetH Tryz.prog Rows.decodeRunsRow.laid w) false (World.laidAll Tryz.prog os Rows.decodeRunsRow.laid) #[.slice none 0 0, .slice none 0 0] 8 (World.laidAll_os _ _ _)
   (World.shaped_of_ZipB (by kernel_rfl) (by kernel_rfl)) (by kernel_rfl) (by kernel_rfl) (by kernel_rfl)
   (by rw [MakeChecks.laidMetH_plain _ _ _ (by kernel_rfl)]; exact laidMet_laidAll _ (by kernel_rfl) (by kernel_rfl))) ?_
 intro W base args ds gs before hval0 hW _ hwt0 hL _
 have hval : ∀ (j : Nat) t v, Tryz.f3.params[j]? = some t → args[j]? = some v → Value.okWide Tryz.prog W .any base t v := hval0
 have hW' := hW
 obtain ⟨p, q, hA0, hV, rfl, _, _⟩ := hW
 have hA : DataW.TrodAll enc Tryz.prog W 0 (fun _ => true) true Tryz.f3.params.toList args.toList ds p := hA0
 have hwt : (DataW.weightsEach Tryz.prog (Tryz.f3.params.toList ++ []) (ds ++ gs)).all (· ≤ reachBytes) = true := hwt0
 have hlt := DataW.TrodAll.lt hA
 rw [Tryz.params3] at hA hval hwt
 obtain ⟨v1, v2, d1, d2, p1, p2, rfl, rfl, rfl, h1, h2⟩ := trodAll_two hA
 obtain ⟨rfl, rfl⟩ := trodVars_none hV
 have hwt2 : ((d1.weights Tryz.prog 22 ++ (d2.weights Tryz.prog 23 ++ [])).all (· ≤ reachBytes)) = true := hwt
 have w1 : ∀ n ∈ d1.weights Tryz.prog 22, n ≤ reachBytes := fun n hn => of_decide_eq_true (List.all_eq_true.1 hwt2 n (List.mem_append_left _ hn))
 have w2 : ∀ n ∈ d2.weights Tryz.prog 23, n ≤ reachBytes := fun n hn => of_decide_eq_true (List.all_eq_true.1 hwt2 n (List.mem_append_right _ (List.mem_append_left _ hn)))
 have hbn : Tryz.prog.bytesOf 3 ≠ 0 := by
  have : Tryz.prog.bytesOf 3 = 8 := by kernel_rfl
  rw [this]; decide
 have hbw : Tryz.prog.bytesOf 41 ≠ 0 := by
  have : Tryz.prog.bytesOf 41 = 8 := by kernel_rfl
  rw [this]; decide
 obtain ⟨l1, e1, n1, m1⟩ := words_of Tryz.underlying22 Tryz.underlying41 hbw h1 w1
 have r1 := slice_VR (σ := fun _ => none) decodeRuns_plain (by decide) Tryz.underlying22 (hval 0 _ v1 rfl rfl) h1 e1
 obtain ⟨l2, e2, n2⟩ := numbers_of Tryz.underlying23 Tryz.underlying3 hbn h2 w2
 have r2 := slice_VR (σ := fun _ => none) decodeRuns_plain (by decide) Tryz.underlying23 (hval 1 _ v2 rfl rfl) h2 e2
 have hargs : VRs (fun _ => none) (memW W) [.isl 0 (ux l1), .isl 0 (cx l2)] #[v1, v2] := VRs.cons (by exact r1) (VRs.cons (by exact r2) .nil)
 have hr := decodeRuns_rb
 have big : ∀ {n : Nat}, n ≤ reachBytes → n ≤ 1000000000000000 := fun h => by rw [hr] at h; omega
 have call := CallL.law (Runs_L l1 l2 (big n1) m1 (big n2)) (glbW (MakeChecks.laidMetH_plain _ _ _ (by kernel_rfl)) (by simp [Rows.decodeRunsRow]) (by simp [Rows.decodeRunsRow]) hL) hargs
 refine call.mono fun e W' ⟨he, hb⟩ => ?_
 subst he
 have stayW : ∀ {v : Value} {d : DataW H} {ps : List MemPlace}, DataW.Trod enc Tryz.prog W 0 (fun _ => true) true 22 v d ps → (∀ x ∈ ps, x.block < W.heap.size) → DataW.Trod enc Tryz.prog W' 0 (fun b => decide (b < W.heap.size)) true 22 v d ps :=
  fun h hl => Below.trod (by kernel_rfl) (by kernel_rfl) (of_decide_eq_true (by kernel_rfl)) h hb hl
 have stayX : ∀ {v : Value} {d : DataW H} {ps : List MemPlace}, DataW.Trod enc Tryz.prog W 0 (fun _ => true) true 23 v d ps → (∀ x ∈ ps, x.block < W.heap.size) → DataW.Trod enc Tryz.prog W' 0 (fun b => decide (b < W.heap.size)) true 23 v d ps :=
  fun h hl => Below.trod (by kernel_rfl) (by kernel_rfl) (of_decide_eq_true (by kernel_rfl)) h hb hl
 exact ⟨_, rfl, _, _, _, [], _, [], hW', trodAll_mk1 (shut_bool Tryz.underlying4 _), trodAll_mk2 (stayW h1 fun x hx => hlt x (by simp [hx])) (stayX h2 fun x hx => hlt x (by simp [hx])), rfl, hb.frame _, fun h => by cases h⟩
theorem decodeRuns_row_holds : Rows.DecodeRunsSaid :=
 OpenClaim.holds_of_wide 3 Tryz.f3 rfl rfl rfl rfl rfl rfl rfl ⟨rfl, rfl, rfl, rfl, rfl⟩ rfl rfl rfl rfl rfl (by kernel_rfl) Tryz.func3 jE
  (of_decide_eq_true (by kernel_rfl)) (by unfold Func.isWrapper; first | (rw [if_pos (by decide +kernel)]; kernel_rfl) | (rw [if_neg (by decide +kernel)]; exact ⟨rfl, rfl⟩))
  (fun os started H enc _ => decodeRuns_lifted os started H enc)
end Go.Proofs.YtgjjbfhamlecoacGreatDoor
