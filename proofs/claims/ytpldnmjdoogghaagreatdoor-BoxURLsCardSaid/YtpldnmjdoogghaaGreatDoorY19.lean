/- Contracts of functions of the given program, in the logic L: texts put together; no conditions. -/
import Derived.Test.YtpldnmjdoogghaaGreatDoorY14
import Derived.Test.YtpldnmjdoogghaaGreatDoorY15
import Derived.Test.YtpldnmjdoogghaaGreatDoorY12
import Derived.Test.YtpldnmjdoogghaaGreatDoorY17
import Derived.Test.YtpldnmjdoogghaaGreatDoorY18
import Derived.Test.YtpldnmjdoogghaaGreatDoorY13
import Derived.Test.YtpldnmjdoogghaaGreatDoorY4
import Derived.Test.YtpldnmjdoogghaaGreatDoorRows
import Derived.Test.YtpldnmjdoogghaaGreatDoorTie
import Derived.Test.YtpldnmjdoogghaaGreatDoorCards
import Derived.OpenShut
import Derived.LaidMore
import Derived.Lay
import Derived.LaidOnce
import Derived.SevenTiedAt
import Derived.Carry
/- The row of BoxURLs holds; no conditions. -/
namespace Go.Proofs.YtpldnmjdoogghaaGreatDoor
open Go.L Go.ChangeShapes Go.WideShapes Go.ChangeAt Go.RowKit

set_option maxRecDepth 100000 in
theorem known_run : PureL Tryz.prog F_lexiconlaw13_known [] (.bool true) := lawRun codes_ok

theorem BoxURLs_law (a b c : Str) (h1 : a.length ≤ 1000000000000000) (h2 : b.length ≤ 1000000000000000) (h3 : c.length ≤ 1000000000000000) : CallL Tryz.prog F_lexiconlaw13_BoxURLs [.str a, .str b, .str c] Hp.nil fun r _ => r = .ret (.bool true) :=
  (BoxURLs_L known_run a b c h1 h2 h3 Hp.nil).mono fun _ _ h => h.1

theorem boxURLs_own : ownKnob Tryz.prog.godebug = none := by kernel_rfl
theorem boxURLs_plain : plainB Tryz.prog [9] = true := by kernel_rfl
theorem boxURLs_rb : reachBytes = 140737488351232 := rfl

set_option maxRecDepth 100000 in
theorem boxURLs_lifted (os : Os) (started : os.Started) (H : Type) (enc : TypeId × Value → H) :
    ReturnsInHanded {} Tryz.checked os 3 .any (fun w args => (Rows.boxURLsSpec.pre enc Tryz.prog Tryz.f3 [] false w args ∧ laidMetH Tryz.prog Rows.boxURLsRow.laid w) ∧ sizedMet enc Tryz.prog Tryz.f3 (OpenSpec.ofChange Rows.boxURLsSpec) false w args)
      (Rows.boxURLsSpec.post enc Tryz.prog Tryz.f3 false true false false) := by
  refine returnsInHanded_of_change_and (C := Tryz.checked) (X := fun w _ => laidMetH Tryz.prog Rows.boxURLsRow.laid w) (fun _ _ _ hh h => h.of_heap hh) boxURLs_own started (by kernel_rfl) Tryz.func3
    (ChangeSpec.witness_shaped (enc := enc) (C := Tryz.checked) (os := os) (X := fun w _ => laidMetH Tryz.prog Rows.boxURLsRow.laid w) false (World.laidAll Tryz.prog os Rows.boxURLsRow.laid) #[.string ⟨#[]⟩, .string ⟨#[]⟩, .string ⟨#[]⟩] 8 (World.laidAll_os _ _ _)
      (World.shaped_of_ZipB (by kernel_rfl) (by kernel_rfl)) (by kernel_rfl) (by kernel_rfl) (by kernel_rfl)
      (by rw [MakeChecks.laidMetH_plain _ _ _ (by kernel_rfl)]; exact laidMet_laidAll _ (by kernel_rfl) (by kernel_rfl))) ?_
  intro W base args ds gs before hval0 hW _ hwt0 hL _
  have hval : ∀ (j : Nat) t v, Tryz.f3.params[j]? = some t → args[j]? = some v → Value.okWide Tryz.prog W .any base t v := hval0
  have hW' := hW
  obtain ⟨p, q, hA0, hV, rfl, _, _⟩ := hW
  have hA : DataW.TrodAll enc Tryz.prog W 0 (fun _ => true) true Tryz.f3.params.toList args.toList ds p := hA0
  have hwt : (DataW.weightsEach Tryz.prog (Tryz.f3.params.toList ++ []) (ds ++ gs)).all (· ≤ reachBytes) = true := hwt0
  have hlt := DataW.TrodAll.lt hA
  rw [Tryz.params3] at hA hval hwt
  obtain ⟨v1, v2, v3, d1, d2, d3, p1, p2, p3, rfl, rfl, rfl, h1, h2, h3⟩ := trodAll_three hA
  obtain ⟨rfl, rfl⟩ := trodVars_none hV
  have hwt2 : ((d1.weights Tryz.prog 9 ++ (d2.weights Tryz.prog 9 ++ (d3.weights Tryz.prog 9 ++ []))).all (· ≤ reachBytes)) = true := hwt
  have w1 : ∀ n ∈ d1.weights Tryz.prog 9, n ≤ reachBytes := fun n hn => of_decide_eq_true (List.all_eq_true.1 hwt2 n (List.mem_append_left _ hn))
  have w2 : ∀ n ∈ d2.weights Tryz.prog 9, n ≤ reachBytes := fun n hn => of_decide_eq_true (List.all_eq_true.1 hwt2 n (List.mem_append_right _ (List.mem_append_left _ hn)))
  have w3 : ∀ n ∈ d3.weights Tryz.prog 9, n ≤ reachBytes := fun n hn => of_decide_eq_true (List.all_eq_true.1 hwt2 n (List.mem_append_right _ (List.mem_append_right _ (List.mem_append_left _ hn))))
  obtain ⟨l1, r1, n1⟩ := string_of (σ := fun _ => none) Tryz.underlying9 (hval 0 _ v1 rfl rfl) h1 w1
  obtain ⟨l2, r2, n2⟩ := string_of (σ := fun _ => none) Tryz.underlying9 (hval 1 _ v2 rfl rfl) h2 w2
  obtain ⟨l3, r3, n3⟩ := string_of (σ := fun _ => none) Tryz.underlying9 (hval 2 _ v3 rfl rfl) h3 w3
  have hargs : VRs (fun _ => none) (memW W) [.str l1, .str l2, .str l3] #[v1, v2, v3] := VRs.cons r1 (VRs.cons r2 (VRs.cons r3 .nil))
  have hr := boxURLs_rb
  have big : ∀ {n : Nat}, n ≤ reachBytes → n ≤ 1000000000000000 := fun h => by rw [hr] at h; omega
  have call := CallL.law (BoxURLs_law l1 l2 l3 (big n1) (big n2) (big n3)) (glbW (MakeChecks.laidMetH_plain _ _ _ (by kernel_rfl)) (by simp [Rows.boxURLsRow]) (by simp [Rows.boxURLsRow]) hL) hargs
  refine call.mono fun e W' ⟨he, hb⟩ => ?_
  subst he
  have stayS : ∀ {v : Value} {d : DataW H} {ps : List MemPlace}, DataW.Trod enc Tryz.prog W 0 (fun _ => true) true 9 v d ps → (∀ x ∈ ps, x.block < W.heap.size) → DataW.Trod enc Tryz.prog W' 0 (fun b => decide (b < W.heap.size)) true 9 v d ps :=
    fun h hl => Below.trod (by kernel_rfl) (by kernel_rfl) (of_decide_eq_true (by kernel_rfl)) h hb hl
  exact ⟨_, rfl, _, _, _, [], _, [], hW', trodAll_mk1 (shut_bool Tryz.underlying4 _), trodAll_mk3 (stayS h1 fun x hx => hlt x (by simp [hx])) (stayS h2 fun x hx => hlt x (by simp [hx])) (stayS h3 fun x hx => hlt x (by simp [hx])), rfl, hb.frame _, fun h => by cases h⟩

theorem boxURLs_row_holds : Rows.BoxURLsSaid :=
  OpenClaim.holds_of_wide 3 Tryz.f3 rfl rfl rfl rfl rfl rfl rfl ⟨rfl, rfl, rfl, rfl, rfl⟩ rfl rfl rfl rfl rfl (by kernel_rfl) Tryz.func3 jE
    (of_decide_eq_true (by kernel_rfl)) (by unfold Func.isWrapper; first | (rw [if_pos (by decide +kernel)]; kernel_rfl) | (rw [if_neg (by decide +kernel)]; exact ⟨rfl, rfl⟩))
    (fun os started H enc _ => boxURLs_lifted os started H enc)
end Go.Proofs.YtpldnmjdoogghaaGreatDoor
