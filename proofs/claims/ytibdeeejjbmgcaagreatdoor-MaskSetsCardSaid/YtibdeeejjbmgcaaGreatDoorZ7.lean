/- Contracts of functions of the given program, in the logic L: texts put together; no conditions. -/
import Derived.Test.YtibdeeejjbmgcaaGreatDoorProg
import Derived.Shelf.SortM.Plain
import Derived.Shelf.SortM.SortNone
import Derived.Ground.SlgmProg
import Derived.Test.YtibdeeejjbmgcaaGreatDoorZ6
import Derived.Test.YtibdeeejjbmgcaaGreatDoorZ3
/- The laying of slices.Sort over texts in the given program: the shelf's contract may be used; no conditions. Printed by program. -/
namespace Go.Proofs.YtibdeeejjbmgcaaGreatDoor
open Go.Shelf
def sortLaid_ren : Go.Shelf.Ren := ⟨fun | 6 => 26 | 8 => 66 | 9 => 65 | 19 => 86 | 20 => 87 | 21 => 77 | 22 => 78 | 23 => 79 | 24 => 80 | 25 => 81 | 26 => 82 | 27 => 83 | 28 => 84 | 29 => 85 | 36 => 99 | 31 => 100 | 32 => 101 | 37 => 102 | 38 => 103 | 39 => 104 | 41 => 115 | n => n, fun | 27 => 22 | 29 => 9 | 3 => 3 | 32 => 95 | 26 => 22 | 0 => 0 | 44 => 193 | 46 => 127 | 4 => 4 | 36 => 186 | 35 => 185 | 41 => 190 | 5 => 5 | 9 => 9 | 53 => 199 | 57 => 203 | 63 => 213 | 64 => 214 | n => n, fun | n => n⟩
theorem sortLaid : Go.Proofs.SlLaysM.n6 Tryz.prog sortLaid_ren := {
  mixed := by kernel_rfl
  f6 := ⟨Tryz.f26.name, by decide, Tryz.func26.trans (congrArg some (by kernel_rfl))⟩
  f8 := Tryz.func66.trans (congrArg some (by kernel_rfl))
  f9 := ⟨Tryz.f65.name, by decide, Tryz.func65.trans (congrArg some (by kernel_rfl))⟩
  f19 := Tryz.func86.trans (congrArg some (by kernel_rfl))
  f20 := Tryz.func87.trans (congrArg some (by kernel_rfl))
  f21 := ⟨Tryz.f77.name, by decide, Tryz.func77.trans (congrArg some (by kernel_rfl))⟩
  f22 := ⟨Tryz.f78.name, by decide, Tryz.func78.trans (congrArg some (by kernel_rfl))⟩
  f23 := ⟨Tryz.f79.name, by decide, Tryz.func79.trans (congrArg some (by kernel_rfl))⟩
  f24 := ⟨Tryz.f80.name, by decide, Tryz.func80.trans (congrArg some (by kernel_rfl))⟩
  f25 := ⟨Tryz.f81.name, by decide, Tryz.func81.trans (congrArg some (by kernel_rfl))⟩
  f26 := ⟨Tryz.f82.name, by decide, Tryz.func82.trans (congrArg some (by kernel_rfl))⟩
  f27 := ⟨Tryz.f83.name, by decide, Tryz.func83.trans (congrArg some (by kernel_rfl))⟩
  f28 := ⟨Tryz.f84.name, by decide, Tryz.func84.trans (congrArg some (by kernel_rfl))⟩
  f29 := ⟨Tryz.f85.name, by decide, Tryz.func85.trans (congrArg some (by kernel_rfl))⟩
  f31 := Tryz.func100.trans (congrArg some (by kernel_rfl))
  f32 := Tryz.func101.trans (congrArg some (by kernel_rfl))
  f36 := ⟨Tryz.f99.name, by decide, Tryz.func99.trans (congrArg some (by kernel_rfl))⟩
  f37 := ⟨Tryz.f102.name, by decide, Tryz.func102.trans (congrArg some (by kernel_rfl))⟩
  f38 := ⟨Tryz.f103.name, by decide, Tryz.func103.trans (congrArg some (by kernel_rfl))⟩
  f39 := ⟨Tryz.f104.name, by decide, Tryz.func104.trans (congrArg some (by kernel_rfl))⟩
  f41 := ⟨Tryz.f115.name, by decide, Tryz.func115.trans (congrArg some (by kernel_rfl))⟩
  t0 := Tryz.underlying0
  a0 := Tryz.isAgg0
  z0 := Tryz.sizeOf0
  v0 := Tryz.zeroValue0
  t3 := Tryz.underlying3
  a3 := Tryz.isAgg3
  z3 := Tryz.sizeOf3
  v3 := Tryz.zeroValue3
  t4 := Tryz.underlying4
  a4 := Tryz.isAgg4
  z4 := Tryz.sizeOf4
  v4 := Tryz.zeroValue4
  t5 := Tryz.underlying5
  a5 := Tryz.isAgg5
  z5 := Tryz.sizeOf5
  v5 := Tryz.zeroValue5
  t9 := Tryz.underlying9
  a9 := Tryz.isAgg9
  z9 := Tryz.sizeOf9
  v9 := Tryz.zeroValue9
  t26 := Tryz.underlying22
  a26 := Tryz.isAgg22
  z26 := Tryz.sizeOf22
  v26 := Tryz.zeroValue22
  t27 := Tryz.underlying22
  a27 := Tryz.isAgg22
  z27 := Tryz.sizeOf22
  v27 := Tryz.zeroValue22
  t29 := Tryz.underlying9
  a29 := Tryz.isAgg9
  z29 := Tryz.sizeOf9
  v29 := Tryz.zeroValue9
  t32 := Tryz.underlying95
  a32 := Tryz.isAgg95
  z32 := Tryz.sizeOf95
  v32 := Tryz.zeroValue95
  t35 := Tryz.underlying185
  a35 := Tryz.isAgg185
  z35 := Tryz.sizeOf185
  v35 := Tryz.zeroValue185
  t36 := Tryz.underlying186
  a36 := Tryz.isAgg186
  z36 := Tryz.sizeOf186
  v36 := Tryz.zeroValue186
  t41 := Tryz.underlying190
  a41 := Tryz.isAgg190
  z41 := Tryz.sizeOf190
  v41 := Tryz.zeroValue190
  t44 := Tryz.underlying193
  a44 := Tryz.isAgg193
  z44 := Tryz.sizeOf193
  v44 := Tryz.zeroValue193
  t46 := Tryz.underlying127
  a46 := Tryz.isAgg127
  z46 := Tryz.sizeOf127
  v46 := Tryz.zeroValue127
  t53 := Tryz.underlying199
  a53 := Tryz.isAgg199
  z53 := Tryz.sizeOf199
  v53 := Tryz.zeroValue199
  t57 := Tryz.underlying203
  a57 := Tryz.isAgg203
  z57 := Tryz.sizeOf203
  v57 := Tryz.zeroValue203
  t63 := Tryz.underlying213
  a63 := Tryz.isAgg213
  z63 := Tryz.sizeOf213
  v63 := Tryz.zeroValue213
  t64 := Tryz.underlying214
  a64 := Tryz.isAgg214
  z64 := Tryz.sizeOf214
  v64 := Tryz.zeroValue214 }
end Go.Proofs.YtibdeeejjbmgcaaGreatDoor

/-
  Contracts: slices of texts.
-/
namespace Go.Proofs.YtibdeeejjbmgcaaGreatDoor
open Go.L

abbrev Ts : TypeId := 9

theorem Clone_L (g : Nat) (l : List Str) (h : Hp) (hl : l.length ≤ 1000000000000) : CallL Tryz.prog F_slices_Clone [.isl g (tx l)] h fun r h' => OwnR Ts h h' r (tx l) := by
  refine K_slices_Clone (md := false) ?_
  have fin : LCode Tryz.prog false (.seq (.ops A_slices_Clone_1) .ret) (EndQ R_slices_Clone fun r h' => OwnR Ts h h' r (tx l)) (puts (env0 13 [.isl g (tx l)]) []) h → True := fun _ => trivial
  clear fin
  have app : ∀ i, Fresh h i → ∀ (N : AV → Hp → Prop), (∀ c, (∀ x, c = some x → (tx l).length ≤ x) → ∀ j h', h.u j = false → Gr h h' → h' j = some (.row Ts (tx l)) → N (.slc j 0 (tx l).length c) h') →
      LApp false Ts 1 16 (.slc i 0 0 (some 0)) (.isl g (tx l)) (h.set i (.row Ts [])) N := by
    intro i hi N hN
    refine ⟨tx l, rfl, fun cs hcs => ?_, ?_⟩
    · obtain ⟨s, _, rfl⟩ := List.mem_map.1 hcs; rfl
    have htl := tx_len l
    refine ⟨[], Hp.set_same _ _ _, Nat.le_refl _, fun cs hcs => ?_, ?_⟩
    · obtain ⟨s, _, rfl⟩ := List.mem_map.1 hcs; rfl
    by_cases h0 : l = []
    · subst h0
      refine .inl ⟨Nat.le_refl _, Nat.le_refl _, ?_⟩
      exact hN _ (fun x hx => by cases hx; exact Nat.le_refl _) _ _ hi.1 (((Gr.refl h).set hi.1 _).set hi.1 _) (Hp.set_same _ _ _)
    · have : 0 < l.length := List.length_pos_iff.2 h0
      refine .inr ⟨by omega, by unfold capMax; omega, by unfold capMax; omega, fun j hj => ?_⟩
      have hj1 : h.u j = false := ((Gr.refl h).set hi.1 (.row Ts [])).new hj.1
      have := hN none (fun x hx => by cases hx) j ((h.set i (.row Ts [])).set j (.row Ts (tx l))) hj1 (((Gr.refl h).set hi.1 _).set hj1 _) (Hp.set_same _ _ _)
      simpa using this
  cases l with
  | nil =>
    intro b
    cases b
    · refine .inr fun i hi => ?_
      refine app i hi _ fun c hc j h' hj hg hb => ?_
      exact ⟨rfl, .inr ⟨j, c, rfl, hc, hj, hg, hb⟩⟩
    · exact ⟨rfl, .inl ⟨rfl, rfl, rfl⟩⟩
  | cons a l =>
    refine .inr fun i hi => ?_
    refine app i hi _ fun c hc j h' hj hg hb => ?_
    exact ⟨rfl, .inr ⟨j, c, rfl, hc, hj, hg, hb⟩⟩

/-- An owned row: its block, how many cells stand. -/
theorem Clip_L (i n : Nat) (c : Option Nat) (es : List (List AV)) (h : Hp) (hi : h i = some (.row Ts es)) (hc : ∀ x, c = some x → n ≤ x) :
    CallL Tryz.prog F_slices_Clip [.slc i 0 n c] h fun r h' => r = .ret (.slc i 0 n (some n)) ∧ h' = h := by
  refine K_slices_Clip (md := false) ?_
  refine ⟨⟨es, hi⟩, n, rfl, ?_⟩
  refine ⟨n, rfl, Nat.zero_le _, Nat.le_refl _, ?_, ?_⟩
  · cases c with
    | none => exact Nat.le_refl _
    | some x => exact hc x rfl
  · exact ⟨rfl, rfl, rfl⟩

theorem Clip_nil_L (h : Hp) : CallL Tryz.prog F_slices_Clip [.nils] h fun r h' => r = .ret .nils ∧ h' = h := by
  refine K_slices_Clip (md := false) ?_
  refine ⟨0, rfl, 0, rfl, rfl, rfl, rfl, ?_⟩
  exact ⟨rfl, rfl, rfl⟩

theorem tx_get {l : List Str} {k : Nat} {x : Str} (h : l[k]? = some x) : (tx l)[k]? = some (el x) := by rw [List.getElem?_map, h]; rfl

theorem tx_take (l : List Str) (k : Nat) : tx (l.take k) = (tx l).take k := List.map_take
theorem tx_get2 {l : List Str} {rest : List (List AV)} {k : Nat} {x : Str} (h : l[k]? = some x) : (tx l ++ rest)[k]? = some (el x) := by
  rw [List.getElem?_append_left (by rw [tx_len]; exact (List.getElem?_eq_some_iff.1 h).1)]; exact tx_get h

/-- The cells behind what stands. -/
abbrev blank (k : Nat) : List (List AV) := List.replicate k (el [])

theorem Compact_L (i : Nat) (c : Option Nat) (l : List Str) (h : Hp) (hi : h i = some (.row Ts (tx l))) (hc : ∀ x, c = some x → l.length ≤ x) (hl : l.length ≤ 1000000000000) :
    CallL Tryz.prog F_slices_Compact [.slc i 0 l.length c] h fun r h' => r = .ret (.slc i 0 (ddS l).length c) ∧ h' = h.set i (.row Ts (tx (ddS l) ++ blank (l.length - (ddS l).length))) := by
  have htl := tx_len l
  refine K_slices_Compact (md := false) ?_
  have same : ddS l = l → h = h.set i (.row Ts (tx (ddS l) ++ blank (l.length - (ddS l).length))) := fun e => by
    rw [e, Nat.sub_self]
    show h = h.set i (.row Ts (tx l ++ []))
    rw [List.append_nil, Hp.set_self hi]
  refine s_lt (fun h1 => ?_) (fun h1 => ?_)
  · have e : ddS l = l := ddS_short (by omega)
    exact ⟨rfl, by rw [e]; rfl, same e⟩
  refine s_loop l.length (fun k (_ : Unit) => k + 1 ≤ l.length ∧ ddS (l.take (k + 1)) = l.take (k + 1)) (fun k _ => [(0, .slc i 0 l.length c), (3, .int .i64 ((k + 1 : Nat) : Int))]) (fun _ _ => h) () ⟨by omega, ddS_short (by simp; omega)⟩ rfl rfl ⟨rfl, rfl, trivial⟩ (fun k s hI => by omega) ?_
  intro k _ n0 g0 hk ⟨hk1, hdd⟩
  refine s_lt (fun h2 => ?_) (fun h2 => ?_)
  · obtain ⟨x, hx⟩ := get_lt (l := l) (k := k + 1) (by omega)
    obtain ⟨y, hy⟩ := get_lt (l := l) (k := k) (by omega)
    refine ⟨k + 1, rfl, by omega, ⟨_, hi⟩, ?_⟩
    refine ⟨_, _, _, _, hi, by rw [Nat.zero_add]; exact tx_get hx, rfl, ?_⟩
    refine s_nat k (by omega) (by omega) ?_
    refine ⟨k, rfl, by omega, ⟨_, hi⟩, ?_⟩
    refine ⟨_, _, _, _, hi, by rw [Nat.zero_add]; exact tx_get hy, rfl, ?_⟩
    have hlast : (ddS (l.take (k + 1))).getLast? = some y := by rw [ddS_last, List.getLast?_take_succ hy]
    have hstep : ddS (l.take (k + 2)) = if some y = some x then ddS (l.take (k + 1)) else ddS (l.take (k + 1)) ++ [x] := by
      rw [List.take_succ_of_get hx, ddS_snoc, hlast]
    refine s_seq (fun h3 => ?_) (fun h3 => ?_)
    · -- one that is like the one ahead: from here on they are moved
      subst h3
      rw [if_pos rfl] at hstep
      refine ⟨⟨_, hi⟩, k + 1, rfl, by omega, ?_, ?_⟩
      · cases c with
        | none => exact Nat.le_refl _
        | some z => exact hc z rfl
      refine s_loop l.length (fun j (_ : Unit) => k + 1 + (j + 1) ≤ l.length ∧ (ddS (l.take (k + 1 + (j + 1)))).length ≤ k + 1 + j) (fun j _ => [(0, .slc i 0 l.length c), (3, .int .i64 (ddS (l.take (k + 1 + (j + 1)))).length), (4, .slc i (0 + (k + 1)) (l.length - (k + 1)) (c.map (· - (k + 1)))), (5, .int .i64 ((j + 1 : Nat) : Int))])
        (fun j _ => h.set i (.row Ts (tx (ddS (l.take (k + 1 + (j + 1)))) ++ (tx l).drop (ddS (l.take (k + 1 + (j + 1)))).length))) () ⟨by omega, by rw [hstep, hdd, List.length_take]; omega⟩ ?_ rfl ⟨rfl, ?_, rfl, rfl, trivial⟩ (fun j s hI => by omega) ?_
      · rw [hstep, hdd]
        have e : tx (l.take (k + 1)) ++ (tx l).drop (l.take (k + 1)).length = tx l := by
          rw [List.length_take, Nat.min_eq_left (by omega), tx_take, List.take_append_drop]
        rw [e, Hp.set_self hi]
      · show AV.int _ _ = _
        rw [hstep, hdd, List.length_take, Nat.min_eq_left (by omega)]
      intro j _ n1 g1 hj ⟨hj1, hja⟩
      obtain ⟨A, hA⟩ : ∃ A, A = ddS (l.take (k + 1 + (j + 1))) := ⟨_, rfl⟩
      rw [← hA] at hja ⊢
      have hset : (h.set i (.row Ts (tx A ++ (tx l).drop A.length))).m i = some (.row Ts (tx A ++ (tx l).drop A.length)) := Hp.set_same _ _ _
      have htA := tx_len A
      have rd : ∀ (p : Nat) (z : Str), A.length ≤ p → l[p]? = some z → (tx A ++ (tx l).drop A.length)[p]? = some (el z) := fun p z hp hz => by
        rw [List.getElem?_append_right (by omega), List.getElem?_drop, htA]
        rw [show A.length + (p - A.length) = p by omega]; exact tx_get hz
      refine s_lt (fun h4 => ?_) (fun h4 => ?_)
      · obtain ⟨u, hu⟩ := get_lt (l := l) (k := k + 1 + (j + 1)) (by omega)
        obtain ⟨v, hv⟩ := get_lt (l := l) (k := k + 1 + j) (by omega)
        have hlast2 : A.getLast? = some v := by rw [hA, ddS_last, show k + 1 + (j + 1) = k + 1 + j + 1 by omega, List.getLast?_take_succ hv]
        have hstep2 : ddS (l.take (k + 1 + (j + 1 + 1))) = if some v = some u then A else A ++ [u] := by
          rw [show k + 1 + (j + 1 + 1) = k + 1 + (j + 1) + 1 by omega, List.take_succ_of_get hu, ddS_snoc, ← hA, hlast2]
        refine ⟨j + 1, rfl, by omega, ⟨_, hset⟩, ?_⟩
        refine ⟨_, _, _, _, hset, rd _ u (by omega) (by rw [show 0 + (k + 1) + (j + 1) = k + 1 + (j + 1) by omega]; exact hu), rfl, ?_⟩
        refine s_nat j (by omega) (by omega) ?_
        refine ⟨j, rfl, by omega, ⟨_, hset⟩, ?_⟩
        refine ⟨_, _, _, _, hset, rd _ v (by omega) (by rw [show 0 + (k + 1) + j = k + 1 + j by omega]; exact hv), rfl, ?_⟩
        refine s_sne (fun h5 => ?_) (fun h5 => ?_)
        · rw [if_neg (fun e => h5 (by cases e; rfl))] at hstep2
          refine ⟨j + 1, rfl, by omega, ⟨_, hset⟩, ?_⟩
          refine ⟨_, _, _, _, hset, rd _ u (by omega) (by rw [show 0 + (k + 1) + (j + 1) = k + 1 + (j + 1) by omega]; exact hu), rfl, ?_⟩
          refine ⟨A.length, rfl, by omega, ⟨_, hset⟩, ?_⟩
          obtain ⟨w, hw⟩ := get_lt (l := l) (k := A.length) (by omega)
          refine ⟨_, _, _, hset, rd _ w (by omega) (by rw [Nat.zero_add]; exact hw), rfl, rfl, rfl, Nat.le_refl _, ?_⟩
          refine s_nat (A.length + 1) (by omega) (by omega) ?_
          refine s_nat (j + 1 + 1) (by omega) (by omega) ?_
          refine ⟨(), by omega, ⟨by omega, by rw [hstep2]; simp; omega⟩, ?_, rfl, rfl, ?_, rfl, rfl, trivial⟩
          · rw [hstep2, Hp.set_set]
            have e : (tx A ++ (tx l).drop A.length).set (0 + A.length) (el u) = tx (A ++ [u]) ++ (tx l).drop (A ++ [u]).length := by
              rw [Nat.zero_add, List.set_append_right _ _ (by omega), htA, Nat.sub_self]
              have h7 : (tx l).drop A.length = (el w) :: (tx l).drop (A.length + 1) := by
                rw [List.drop_eq_getElem_cons (by omega)]
                have := tx_get hw
                rw [List.getElem?_eq_getElem (by omega)] at this
                rw [Option.some.inj this]
              rw [h7, List.set_cons_zero]
              simp
            exact congrArg (fun es => h.set i (.row Ts es)) e
          · show AV.int _ _ = _
            rw [hstep2]; simp
        · subst h5
          rw [if_pos rfl] at hstep2
          refine s_nat (j + 1 + 1) (by omega) (by omega) ?_
          refine ⟨(), by omega, ⟨by omega, by rw [hstep2]; omega⟩, by rw [hstep2], rfl, rfl, ?_, rfl, rfl, trivial⟩
          show AV.int _ _ = _
          rw [hstep2]
      · -- behind the moving
        have hend : l.take (k + 1 + (j + 1)) = l := List.take_of_length_le (by omega)
        rw [hend] at hA
        have hdl : A.length ≤ l.length := by omega
        refine ⟨⟨_, hset⟩, A.length, rfl, hdl, ?_, ?_⟩
        · cases c with
          | none => exact Nat.le_refl _
          | some z => exact hc z rfl
        refine ⟨_, hset, by simp <;> omega, rfl, ?_⟩
        refine ⟨⟨_, Hp.set_same _ _ _⟩, A.length, rfl, Nat.zero_le _, ?_, ?_⟩
        · cases c with
          | none => exact hdl
          | some z => exact Nat.le_trans hdl (hc z rfl)
        refine ⟨rfl, ?_, ?_⟩
        · rw [← hA]
          cases c <;> rfl
        · rw [Hp.set_set, ← hA]
          refine congrArg (fun es => h.set i (.row Ts es)) ?_
          have e1 : (tx A ++ (tx l).drop A.length).take (0 + A.length) = tx A := by rw [Nat.zero_add, ← htA, List.take_left]
          have e2 : (tx A ++ (tx l).drop A.length).drop (0 + A.length + (l.length - A.length)) = [] := List.drop_of_length_le (by simp <;> omega)
          rw [e1, e2, List.append_nil]; rfl
    · rw [if_neg (fun e => h3 (by cases e; rfl))] at hstep
      refine s_nat (k + 1 + 1) (by omega) (by omega) ?_
      refine ⟨(), by omega, ⟨by omega, ?_⟩, rfl, rfl, rfl, rfl, trivial⟩
      rw [hstep, hdd, List.take_succ_of_get hx]
  · have e : ddS l = l := by
      have h4 : l.take (k + 1) = l := List.take_of_length_le (by omega)
      rw [h4] at hdd; exact hdd
    exact ⟨rfl, by rw [e]; rfl, same e⟩

/-- IndexFunc over a row of one's own. -/
theorem IndexFunc_slc_L (i : Nat) (c : Option Nat) (l : List Str) (F : FuncId) (first cap : List AV) (p : Str → Bool) (hb : HasBody Tryz.prog F) (rest : List (List AV)) (h : Hp) (hi : h i = some (.row Ts (tx l ++ rest)))
    (hp : ∀ s ∈ l, CallL Tryz.prog F (first ++ [.str s] ++ cap) h fun r h' => r = .ret (.bool (p s)) ∧ h' = h) (hl : l.length ≤ 1000000000000) :
    CallL Tryz.prog F_slices_IndexFunc [.slc i 0 l.length c, .func (.func F) first cap] h fun r h' => r = .ret (.int .i64 (idxF p l)) ∧ h' = h := by
  refine K_slices_IndexFunc (md := false) ?_
  refine s_loop l.length (fun k (_ : Unit) => k ≤ l.length ∧ ∀ (j : Nat) (x : Str), j < k → l[j]? = some x → p x = false) (fun k _ => [(0, .slc i 0 l.length c), (1, .func (.func F) first cap), (7, .int .i64 l.length), (8, .int .i64 k)]) (fun _ _ => h) ()
    ⟨Nat.zero_le _, fun j x hj => by omega⟩ rfl rfl ⟨rfl, rfl, rfl, rfl, trivial⟩ (fun k s hI => hI.1) ?_
  intro k _ n0 g0 hk ⟨_, hall⟩
  refine s_lt (fun h1 => ?_) (fun h1 => ?_)
  · obtain ⟨x, hx⟩ := get_lt (l := l) (k := k) (by omega)
    refine ⟨k, rfl, by omega, ⟨_, hi⟩, ?_⟩
    refine ⟨_, _, _, _, hi, by rw [Nat.zero_add]; exact tx_get2 hx, rfl, ?_⟩
    refine ⟨hb, (hp x (List.mem_of_getElem? hx)).mono ?_⟩
    rintro r h' ⟨rfl, rfl⟩
    cases hpx : p x
    · refine s_nat (k + 1) (by omega) (by omega) ?_
      exact ⟨(), by omega, ⟨by omega, idx_step hall hx hpx⟩, rfl, rfl, rfl, rfl, rfl, rfl, trivial⟩
    · exact ⟨rfl, Res.int_eq (idxF_at hall hx hpx), rfl⟩
  · exact ⟨rfl, Res.int_eq (idxF_end (by omega) hall), rfl⟩

theorem DeleteFunc_L (i : Nat) (c : Option Nat) (l : List Str) (F : FuncId) (first cap : List AV) (p : Str → Bool) (hb : HasBody Tryz.prog F) (rest : List (List AV)) (h : Hp) (hi : h i = some (.row Ts (tx l ++ rest))) (hc : ∀ x, c = some x → l.length ≤ x)
    (hp : ∀ b, ∀ s ∈ l, CallL Tryz.prog F (first ++ [.str s] ++ cap) (h.set i b) fun r h' => r = .ret (.bool (p s)) ∧ h' = h.set i b) (hl : l.length ≤ 1000000000000) :
    CallL Tryz.prog F_slices_DeleteFunc [.slc i 0 l.length c, .func (.func F) first cap] h fun r h' => r = .ret (.slc i 0 (l.filter fun x => !p x).length c) ∧
      h' = h.set i (.row Ts (tx (l.filter fun x => !p x) ++ blank (l.length - (l.filter fun x => !p x).length) ++ rest)) := by
  have htl := tx_len l
  refine K_slices_DeleteFunc (md := false) ?_
  refine (IndexFunc_slc_L i c l F first cap p hb rest h hi (fun s hs => by have := hp (.row Ts (tx l ++ rest)) s hs; rw [Hp.set_self hi] at this; exact this) hl).mono ?_
  rintro r h' ⟨rfl, rfl⟩
  cases hf : l.findIdx? p with
  | none =>
    have e : l.filter (fun x => !p x) = l := by
      rw [List.filter_eq_self]
      intro x hx
      simp [List.findIdx?_eq_none_iff.1 hf x hx]
    have : idxF p l = -1 := by rw [idxF, hf]
    refine s_eq (fun h1 => ?_) (fun h1 => ?_)
    · refine ⟨rfl, by rw [e]; rfl, ?_⟩
      rw [e, Nat.sub_self]
      show h' = h'.set i (.row Ts (tx l ++ [] ++ rest))
      rw [List.append_nil, Hp.set_self hi]
    · exact absurd this h1
  | some k =>
    obtain ⟨hkl, hpk, hall⟩ := List.findIdx?_eq_some_iff_getElem.1 hf
    have hix : idxF p l = (k : Nat) := by rw [idxF, hf]
    have e0 : (l.take k).filter (fun x => !p x) = l.take k := by
      rw [List.filter_eq_self]
      intro x hx
      obtain ⟨j, hj⟩ := List.getElem?_of_mem hx
      have hjk : j < k := by have := (List.getElem?_eq_some_iff.1 hj).1; simp at this; omega
      rw [List.getElem?_take_of_lt hjk, List.getElem?_eq_getElem (by omega)] at hj
      have := hall j hjk
      rw [← Option.some.inj hj]; simpa using this
    have e1 : (l.take (k + 1)).filter (fun x => !p x) = l.take k := by
      rw [List.take_succ_of_get (List.getElem?_eq_getElem hkl), List.filter_append, e0]
      simp [hpk]
    rw [hix]
    refine s_eq (fun h1 => by omega) (fun h1 => ?_)
    refine s_nat (k + 1) (by omega) (by omega) ?_
    refine s_loop l.length (fun j (_ : Unit) => k + 1 + j ≤ l.length ∧ ((l.take (k + 1 + j)).filter fun x => !p x).length ≤ k + j)
      (fun j _ => [(0, .slc i 0 l.length c), (1, .func (.func F) first cap), (5, .int .i64 ((l.take (k + 1 + j)).filter fun x => !p x).length), (6, .int .i64 ((k + 1 + j : Nat) : Int))])
      (fun j _ => h'.set i (.row Ts (tx ((l.take (k + 1 + j)).filter fun x => !p x) ++ (tx l ++ rest).drop ((l.take (k + 1 + j)).filter fun x => !p x).length))) () ⟨by omega, by rw [Nat.add_zero, e1]; simp; omega⟩ ?_ rfl ⟨rfl, rfl, ?_, rfl, trivial⟩ (fun j s hI => by omega) ?_
    · rw [Nat.add_zero, e1]
      have e : tx (l.take k) ++ (tx l ++ rest).drop (l.take k).length = tx l ++ rest := by
        rw [List.length_take, Nat.min_eq_left (by omega), List.drop_append_of_le_length (by omega), ← List.append_assoc, tx_take, List.take_append_drop]
      rw [e, Hp.set_self hi]
    · show AV.int _ _ = _
      rw [Nat.add_zero, e1, List.length_take, Nat.min_eq_left (by omega)]
    intro j _ n0 g0 hj ⟨hj1, hja⟩
    obtain ⟨A, hA⟩ : ∃ A, A = (l.take (k + 1 + j)).filter fun x => !p x := ⟨_, rfl⟩
    rw [← hA] at hja ⊢
    have hset : (h'.set i (.row Ts (tx A ++ (tx l ++ rest).drop A.length))).m i = some (.row Ts (tx A ++ (tx l ++ rest).drop A.length)) := Hp.set_same _ _ _
    have htA := tx_len A
    have rd : ∀ (p : Nat) (z : Str), A.length ≤ p → l[p]? = some z → (tx A ++ (tx l ++ rest).drop A.length)[p]? = some (el z) := fun p z hp hz => by
      rw [List.getElem?_append_right (by omega), List.getElem?_drop, htA]
      rw [show A.length + (p - A.length) = p by omega]; exact tx_get2 hz
    refine s_lt (fun h2 => ?_) (fun h2 => ?_)
    · obtain ⟨x, hx⟩ := get_lt (l := l) (k := k + 1 + j) (by omega)
      have hstep : (l.take (k + 1 + (j + 1))).filter (fun x => !p x) = if p x = true then A else A ++ [x] := by
        rw [show k + 1 + (j + 1) = k + 1 + j + 1 by omega, List.take_succ_of_get hx, List.filter_append, ← hA]
        cases hpx : p x <;> simp [hpx]
      refine ⟨k + 1 + j, rfl, by omega, ⟨_, hset⟩, ?_⟩
      refine ⟨_, _, _, _, hset, rd _ x (by omega) (by rw [Nat.zero_add]; exact hx), rfl, ?_⟩
      refine ⟨hb, (hp _ x (List.mem_of_getElem? hx)).mono ?_⟩
      rintro r h2' ⟨rfl, rfl⟩
      cases hpx : p x
      · rw [hpx, if_neg (by simp)] at hstep
        refine ⟨A.length, rfl, by omega, ⟨_, hset⟩, ?_⟩
        obtain ⟨w, hw⟩ := get_lt (l := l) (k := A.length) (by omega)
        refine ⟨_, _, _, hset, rd _ w (by omega) (by rw [Nat.zero_add]; exact hw), rfl, rfl, rfl, Nat.le_refl _, ?_⟩
        refine s_nat (A.length + 1) (by omega) (by omega) ?_
        refine s_nat (k + 1 + (j + 1)) (by omega) (by omega) ?_
        refine ⟨(), by omega, ⟨by omega, by rw [hstep]; simp; omega⟩, ?_, rfl, rfl, rfl, ?_, rfl, trivial⟩
        · rw [hstep, Hp.set_set]
          have e : (tx A ++ (tx l ++ rest).drop A.length).set (0 + A.length) (el x) = tx (A ++ [x]) ++ (tx l ++ rest).drop (A ++ [x]).length := by
            rw [Nat.zero_add, List.set_append_right _ _ (by omega), htA, Nat.sub_self]
            have h7 : (tx l ++ rest).drop A.length = (el w) :: (tx l ++ rest).drop (A.length + 1) := by
              rw [List.drop_eq_getElem_cons (by simp; omega)]
              have := tx_get2 (rest := rest) hw
              rw [List.getElem?_eq_getElem (by simp; omega)] at this
              rw [Option.some.inj this]
            rw [h7, List.set_cons_zero]
            simp
          exact congrArg (fun es => h'.set i (.row Ts es)) e
        · show AV.int _ _ = _
          rw [hstep]; simp
      · rw [hpx, if_pos rfl] at hstep
        refine s_nat (k + 1 + (j + 1)) (by omega) (by omega) ?_
        refine ⟨(), by omega, ⟨by omega, by rw [hstep]; omega⟩, by rw [hstep], rfl, rfl, rfl, ?_, rfl, trivial⟩
        show AV.int _ _ = _
        rw [hstep]
    · have hend : l.take (k + 1 + j) = l := List.take_of_length_le (by omega)
      rw [hend] at hA
      have hdl : A.length ≤ l.length := by omega
      refine ⟨⟨_, hset⟩, A.length, rfl, hdl, ?_, ?_⟩
      · cases c with
        | none => exact Nat.le_refl _
        | some z => exact hc z rfl
      refine ⟨_, hset, by simp <;> omega, rfl, ?_⟩
      refine ⟨⟨_, Hp.set_same _ _ _⟩, A.length, rfl, Nat.zero_le _, ?_, ?_⟩
      · cases c with
        | none => exact hdl
        | some z => exact Nat.le_trans hdl (hc z rfl)
      refine ⟨rfl, ?_, ?_⟩
      · rw [← hA]
        cases c <;> rfl
      · rw [Hp.set_set, ← hA]
        refine congrArg (fun es => h'.set i (.row Ts es)) ?_
        have e1 : (tx A ++ (tx l ++ rest).drop A.length).take (0 + A.length) = tx A := by rw [Nat.zero_add, ← htA, List.take_left]
        have e2 : (tx A ++ (tx l ++ rest).drop A.length).drop (0 + A.length + (l.length - A.length)) = rest := by
          rw [Nat.zero_add, List.drop_append, List.drop_drop, List.drop_of_length_le (l := tx A) (by omega), List.nil_append, show A.length + (A.length + (l.length - A.length) - (tx A).length) = (tx l).length by omega, List.drop_left]
        rw [e1, e2]; rfl

theorem DeleteFunc_nil_L (F : FuncId) (first cap : List AV) (h : Hp) : CallL Tryz.prog F_slices_DeleteFunc [.nils, .func (.func F) first cap] h fun r h' => r = .ret .nils ∧ h' = h := by
  have ix : CallL Tryz.prog F_slices_IndexFunc [.nils, .func (.func F) first cap] h fun r h' => r = .ret (.int .i64 (-1)) ∧ h' = h := by
    refine K_slices_IndexFunc (md := false) ?_
    refine s_loop 0 (fun k (_ : Unit) => k = 0) (fun k _ => [(0, .nils), (1, .func (.func F) first cap), (7, .int .i64 0), (8, .int .i64 k)]) (fun _ _ => h) () rfl rfl rfl ⟨rfl, rfl, rfl, rfl, trivial⟩ (fun k s hI => by omega) ?_
    rintro k _ n0 g0 hk rfl
    exact s_lt (fun h1 => absurd h1 (by decide)) (fun _ => ⟨rfl, rfl, rfl⟩)
  refine K_slices_DeleteFunc (md := false) ?_
  refine ix.mono ?_
  rintro r h' ⟨rfl, rfl⟩
  exact s_eq (fun _ => ⟨rfl, rfl, rfl⟩) (fun h1 => absurd rfl h1)
theorem Compact_nil_L (h : Hp) : CallL Tryz.prog F_slices_Compact [.nils] h fun r h' => r = .ret .nils ∧ h' = h := by
  refine K_slices_Compact (md := false) ?_
  exact s_lt (fun _ => ⟨rfl, rfl, rfl⟩) (fun h1 => absurd h1 (by decide))

theorem Sort_L (i : Nat) (c : Option Nat) (l : List Str) (h : Hp) (hi : h i = some (.row Ts (tx l))) (hl : l.length ≤ 1000000000000) :
    CallL Tryz.prog F_slices_Sort [.slc i 0 l.length c] h fun r h' => r = .ret (.tup []) ∧ h' = h.set i (.row Ts (tx (sortS l))) :=
  sort_bridge (fun blk off cap ss w hH hb hs => AnyM.slices_Sort_string sortLaid blk off cap ss w hH hb hs) (fun p cap w => AnyM.slices_Sort_string_none sortLaid p cap w) hi (by omega)
theorem Sort_nil_L (h : Hp) : CallL Tryz.prog F_slices_Sort [.nils] h fun r h' => r = .ret (.tup []) ∧ h' = h :=
  sort_bridge_nil (fun p cap w => AnyM.slices_Sort_string_none sortLaid p cap w) h
end Go.Proofs.YtibdeeejjbmgcaaGreatDoor

/-
  Contracts: identifiers, parts of texts, paths, masks out of texts.
-/
namespace Go.Proofs.YtibdeeejjbmgcaaGreatDoor
open Go.L

theorem inR_t {a b : Nat} {c : UInt8} (h1 : (a : Int) ≤ c.toNat) (h2 : (c.toNat : Int) ≤ b) : true = inR a b c.toNat := by
  simp only [inR, Nat.ble_eq_true_of_le (show a ≤ c.toNat by omega), Nat.ble_eq_true_of_le (show c.toNat ≤ b by omega)]; rfl
theorem ble_f {a b : Nat} (h : b < a) : Nat.ble a b = false := by
  cases hb : Nat.ble a b with
  | false => rfl
  | true => exact absurd (Nat.le_of_ble_eq_true hb) (by omega)
theorem inR_f1 {a b : Nat} {c : UInt8} (h : (c.toNat : Int) < a) : false = inR a b c.toNat := by
  simp only [inR, ble_f (show c.toNat < a by omega)]; rfl
theorem inR_f2 {a b : Nat} {c : UInt8} (h : (b : Int) < c.toNat) : false = inR a b c.toNat := by
  simp only [inR, ble_f (show b < c.toNat by omega), Bool.and_false]

theorem small_L (c : UInt8) : PureL Tryz.prog F_texts_small [.int .u8 c.toNat] (.bool (smallC c)) := by
  intro h
  refine K_texts_small (md := false) ?_
  refine s_le (fun h1 => ?_) (fun h1 => ?_)
  · refine s_le (fun h2 => ?_) (fun h2 => ?_)
    · exact ⟨rfl, Res.bool_eq (inR_t h1 h2), rfl⟩
    · exact ⟨rfl, Res.bool_eq (inR_f2 h2), rfl⟩
  · exact ⟨rfl, Res.bool_eq (inR_f1 h1), rfl⟩
theorem capital_L (c : UInt8) : PureL Tryz.prog F_texts_capital [.int .u8 c.toNat] (.bool (capC c)) := by
  intro h
  refine K_texts_capital (md := false) ?_
  refine s_le (fun h1 => ?_) (fun h1 => ?_)
  · refine s_le (fun h2 => ?_) (fun h2 => ?_)
    · exact ⟨rfl, Res.bool_eq (inR_t h1 h2), rfl⟩
    · exact ⟨rfl, Res.bool_eq (inR_f2 h2), rfl⟩
  · exact ⟨rfl, Res.bool_eq (inR_f1 h1), rfl⟩
theorem digit_L (c : UInt8) : PureL Tryz.prog F_texts_digit [.int .u8 c.toNat] (.bool (digitC c)) := by
  intro h
  refine K_texts_digit (md := false) ?_
  refine s_le (fun h1 => ?_) (fun h1 => ?_)
  · refine s_le (fun h2 => ?_) (fun h2 => ?_)
    · exact ⟨rfl, Res.bool_eq (inR_t h1 h2), rfl⟩
    · exact ⟨rfl, Res.bool_eq (inR_f2 h2), rfl⟩
  · exact ⟨rfl, Res.bool_eq (inR_f1 h1), rfl⟩

theorem ident_long {s : Str} (h : (255 : Int) < (s.length : Nat)) : false = ident s := by
  cases s with
  | nil => simp at h
  | cons c r =>
    have : Nat.ble (c :: r).length 255 = false := ble_f (by omega)
    simp only [ident, this, Bool.false_and]
theorem ident_dig {s : Str} {c : UInt8} (h : s[0]? = some c) (hd : digitC c = true) : false = ident s := by
  cases s with
  | nil => cases h
  | cons d r =>
    have : d = c := by simpa using h
    subst this
    simp only [ident, hd, Bool.not_true, Bool.and_false, Bool.false_and]
theorem ident_bad {s : Str} {k : Nat} {x : UInt8} (h : s[k]? = some x) (hd : identC x = false) : false = ident s := by
  cases s with
  | nil => cases h
  | cons d r =>
    have : (d :: r).all identC = false := List.all_eq_false.2 ⟨x, List.mem_of_getElem? h, by simp [hd]⟩
    simp only [ident, this, Bool.and_false]
theorem ident_good {s : Str} {c : UInt8} (h : s[0]? = some c) (hl : (s.length : Nat) ≤ (255 : Int)) (hd : digitC c = false) {k : Nat} (hk : s.length ≤ k) (hall : ∀ (j : Nat) (x : UInt8), j < k → s[j]? = some x → identC x = true) : true = ident s := by
  cases s with
  | nil => cases h
  | cons d r =>
    have : d = c := by simpa using h
    subst this
    have h2 : (d :: r).all identC = true := List.all_eq_true.2 fun x hx => by
      obtain ⟨j, hj⟩ := List.getElem?_of_mem hx
      exact hall j x (by have := (List.getElem?_eq_some_iff.1 hj).1; omega) hj
    simp only [ident, hd, h2, Nat.ble_eq_true_of_le (show (d :: r).length ≤ 255 by omega)]; rfl
theorem all_step {s : Str} {p : UInt8 → Bool} {k : Nat} {x : UInt8} (hall : ∀ (j : Nat) (x : UInt8), j < k → s[j]? = some x → p x = true) (hx : s[k]? = some x) (hp : p x = true) :
    ∀ (j : Nat) (x : UInt8), j < k + 1 → s[j]? = some x → p x = true := fun j y hj hy => by
  by_cases e : j = k
  · subst e; rw [hx] at hy; cases hy; exact hp
  · exact hall j y (by omega) hy

theorem Ident_L (s : Str) (hs : s.length ≤ 1000000000000000) : PureL Tryz.prog F_texts_Ident [.str s] (.bool (ident s)) := by
  intro h
  refine K_texts_Ident (md := false) ?_
  refine s_seq (fun h1 => ?_) (fun h1 => ?_)
  · exact ⟨rfl, Res.bool_eq (by rw [h1]; rfl), rfl⟩
  refine s_lt (fun h2 => ?_) (fun h2 => ?_)
  · exact ⟨rfl, Res.bool_eq (ident_long h2), rfl⟩
  obtain ⟨c, hc⟩ : ∃ c, s[0]? = some c := by
    cases s with
    | nil => exact absurd rfl h1
    | cons c r => exact ⟨c, rfl⟩
  refine s_byte 0 c rfl hc ?_
  refine (digit_L c).useC (fun h3 => ?_) (fun h3 => ?_)
  · exact ⟨rfl, Res.bool_eq (ident_dig hc h3), rfl⟩
  refine s_loop s.length (fun k (_ : Unit) => k ≤ s.length ∧ ∀ (j : Nat) (x : UInt8), j < k → s[j]? = some x → identC x = true) (fun k _ => [(0, .str s), (18, .int .i64 s.length), (19, .int .i64 k)]) (fun _ _ => h) ()
    ⟨Nat.zero_le _, fun j x hj => by omega⟩ rfl rfl ⟨rfl, rfl, rfl, trivial⟩ (fun k s hI => hI.1) ?_
  intro k _ n0 g0 hk ⟨_, hall⟩
  refine s_lt (fun h4 => ?_) (fun h4 => ?_)
  · obtain ⟨x, hx⟩ := get_lt (l := s) (k := k) (by omega)
    refine s_byte k x rfl hx ?_
    refine (small_L x).useC (fun a1 => ?_) (fun a1 => ?_)
    · refine s_nat (k + 1) (by omega) (by omega) ?_
      exact ⟨(), by omega, ⟨by omega, all_step hall hx (by simp [identC, a1])⟩, rfl, rfl, rfl, rfl, rfl, trivial⟩
    refine (capital_L x).useC (fun a2 => ?_) (fun a2 => ?_)
    · refine s_nat (k + 1) (by omega) (by omega) ?_
      exact ⟨(), by omega, ⟨by omega, all_step hall hx (by simp [identC, a2])⟩, rfl, rfl, rfl, rfl, rfl, trivial⟩
    refine (digit_L x).useC (fun a3 => ?_) (fun a3 => ?_)
    · refine s_nat (k + 1) (by omega) (by omega) ?_
      exact ⟨(), by omega, ⟨by omega, all_step hall hx (by simp [identC, a3])⟩, rfl, rfl, rfl, rfl, rfl, trivial⟩
    refine s_ne (fun a4 => ?_) (fun a4 => ?_)
    · have h95 : (x == 95) = false := by
        rw [beq_eq_false_iff_ne]
        rintro rfl; exact a4 rfl
      exact ⟨rfl, Res.bool_eq (ident_bad hx (by simp [identC, a1, a2, a3, h95])), rfl⟩
    · have h95 : x = 95 := UInt8.toNat_inj.1 (show x.toNat = 95 by omega)
      refine s_nat (k + 1) (by omega) (by omega) ?_
      exact ⟨(), by omega, ⟨by omega, all_step hall hx (by simp [identC, h95])⟩, rfl, rfl, rfl, rfl, rfl, trivial⟩
  · exact ⟨rfl, Res.bool_eq (ident_good hc h2 h3 (by omega) hall), rfl⟩

/-! ### Parts of texts -/
theorem u8_back (c : UInt8) : ((c.toNat : Nat) : Int).toNat.toUInt8 = c := by
  rw [Int.toNat_natCast]; exact UInt8.ofNat_toNat
theorem indexByte_cut {c : UInt8} {r : Str} : ∀ {p : Str}, c ∉ p → Lib.indexByte (p ++ c :: r) c = (p.length : Nat)
  | [], _ => by simp [Lib.indexByte]
  | x :: p, h => by
    have h1 : (x == c) = false := by rw [beq_eq_false_iff_ne]; exact fun e => h (by rw [e]; exact List.mem_cons_self)
    have ih := indexByte_cut (r := r) (p := p) fun hc => h (List.mem_cons_of_mem _ hc)
    rw [List.cons_append, Lib.indexByte, ih, if_neg (by simp [h1]), if_neg (by simp)]
    simp
theorem cut_at {c : UInt8} : ∀ {s : Str}, c ∈ s → ∃ p r, s = p ++ c :: r ∧ c ∉ p
  | [], h => by cases h
  | x :: s, h => by
    by_cases e : x = c
    · exact ⟨[], s, by rw [e]; rfl, by simp⟩
    · rcases List.mem_cons.1 h with h | h
      · exact absurd h.symm e
      · obtain ⟨p, r, rfl, hp⟩ := cut_at h
        exact ⟨x :: p, r, rfl, fun hc => by
          rcases List.mem_cons.1 hc with h | h
          · exact e h.symm
          · exact hp h⟩

theorem lite_IndexByte_L (s : Str) (c : UInt8) : PureL Tryz.prog F_internal_stringslite_IndexByte [.str s, .int .u8 c.toNat] (.int .i64 (Lib.indexByte s c)) := by
  intro h
  refine K_internal_stringslite_IndexByte (md := false) ?_
  refine s_i ?_
  exact ⟨rfl, Res.int_eq (by rw [u8_back]), rfl⟩
theorem lite_Index1_L (s : Str) (c : UInt8) : PureL Tryz.prog F_internal_stringslite_Index [.str s, .str [c]] (.int .i64 (Lib.indexByte s c)) := by
  intro h
  refine K_internal_stringslite_Index (md := false) ?_
  refine s_eq (fun h1 => by simp at h1) (fun _ => ?_)
  refine s_seq (fun h1 => ?_) (fun _ => ?_)
  · subst h1
    exact ⟨rfl, Res.int_eq (by simp [Lib.indexByte]), rfl⟩
  refine s_eq (fun _ => ?_) (fun h1 => absurd rfl h1)
  refine s_byte 0 c rfl rfl ?_
  refine (lite_IndexByte_L s c).use ?_
  exact ⟨rfl, rfl, rfl⟩
theorem Index1_L (s : Str) (c : UInt8) : PureL Tryz.prog F_strings_Index [.str s, .str [c]] (.int .i64 (Lib.indexByte s c)) := by
  intro h
  refine K_strings_Index (md := false) ?_
  refine (lite_Index1_L s c).use ?_
  exact ⟨rfl, rfl, rfl⟩
theorem Count1_L (s : Str) (c : UInt8) : PureL Tryz.prog F_strings_Count [.str s, .str [c]] (.int .i64 (s.count c : Nat)) := by
  intro h
  refine K_strings_Count (md := false) ?_
  refine s_eq (fun h1 => by simp at h1) (fun _ => ?_)
  refine s_eq (fun _ => ?_) (fun h1 => absurd rfl h1)
  refine s_byte 0 c rfl rfl ?_
  exact ⟨rfl, Res.int_eq (by rw [u8_back]; rfl), rfl⟩

theorem s_mn {a b : Int} {M : Int → Prop} (h : a ≤ b) (k : M a) : genI (if b < a then b else a) M := by
  rintro _ rfl
  rw [if_neg (by omega)]; exact k
theorem set_parts {k m : Nat} {d : List Str} {p : Str} (hd : d.length = k) : (tx d ++ List.replicate (m + 1) [AV.str []]).set k [.str p] = tx (d ++ [p]) ++ List.replicate m [AV.str []] := by
  have h1 : (tx d).length = k := by rw [tx_len, hd]
  rw [List.set_append_right _ _ (by omega), h1, Nat.sub_self, List.replicate_succ, List.set_cons_zero]
  simp [tx, el]

/-- The parts so far, what is left. -/
structure Sp (c : UInt8) (s : Str) (k : Nat) (x : List Str × Str) : Prop where
  eq : splitC c s = x.1 ++ splitC c x.2
  len : x.1.length = k
  le : x.2.length ≤ s.length
theorem Sp.count {c : UInt8} {s : Str} {k : Nat} {x : List Str × Str} (h : Sp c s k x) : s.count c = k + x.2.count c := by
  have h1 := splitC_len c s
  rw [h.eq, List.length_append, h.len, splitC_len] at h1
  omega
theorem Sp.more {c : UInt8} {s : Str} {k : Nat} {x : List Str × Str} (h : Sp c s k x) (hk : k < s.count c) : ∃ p r, x.2 = p ++ c :: r ∧ c ∉ p ∧ Sp c s (k + 1) (x.1 ++ [p], r) := by
  have h1 := h.count
  obtain ⟨p, r, h2, h3⟩ := cut_at (c := c) (s := x.2) (List.count_pos_iff.1 (by omega))
  have h4 := h.le
  refine ⟨p, r, h2, h3, ?_, by simp [h.len], ?_⟩
  · rw [h.eq, h2, splitC_cut h3]; simp
  · rw [h2] at h4; simp at h4 ⊢; omega
theorem Sp.last {c : UInt8} {s : Str} {k : Nat} {x : List Str × Str} (h : Sp c s k x) (hk : s.count c ≤ k) : splitC c s = x.1 ++ [x.2] := by
  have h1 := h.count
  rw [h.eq, splitC_one (List.count_eq_zero.1 (by omega))]

theorem genSplit_L (s : Str) (c : UInt8) (h : Hp) (hs : s.length ≤ 1000000000000) : CallL Tryz.prog F_strings_genSplit [.str s, .str [c], .int .i64 0, .int .i64 (-1)] h fun r h' => OwnB Ts h h' r (tx (splitC c s)) := by
  have hcl : s.count c ≤ s.length := List.count_le_length
  have hsl := splitC_len c s
  obtain ⟨n, hn⟩ : ∃ n, n = s.count c := ⟨_, rfl⟩
  have hC := Count1_L s c
  rw [← hn] at hcl hsl hC
  refine K_strings_genSplit (md := false) ?_
  refine s_eq (fun h1 => absurd h1 (by decide)) (fun _ => ?_)
  refine s_seq (fun h1 => absurd h1 (by simp)) (fun _ => ?_)
  refine s_lt (fun _ => ?_) (fun h1 => absurd h1 (by decide))
  refine hC.use ?_
  refine s_nat (n + 1) (by omega) (by omega) ?_
  refine s_nat (s.length + 1) (by omega) (by omega) ?_
  refine s_mn (by omega) ?_
  refine ⟨n + 1, n + 1, rfl, rfl, Nat.le_refl _, by unfold capMax; omega, by unfold capMax; omega, fun i hi => ?_⟩
  refine s_nat n (by omega) (by omega) ?_
  refine s_blk (fun e' h' => ∃ x, Sp c s n x ∧ h' = h.set i (.row Ts (tx x.1 ++ List.replicate (n + 1 - n) [.str []])) ∧ e'.ds = [] ∧ Has e' [(0, .str x.2), (9, .slc i 0 (n + 1) (some (n + 1))), (10, .int .i64 (n : Nat))]) ?_ ?_
  · refine s_loop n (fun k (x : List Str × Str) => k ≤ n ∧ Sp c s k x)
      (fun k x => [(0, .str x.2), (1, .str [c]), (2, .int .i64 0), (3, .int .i64 (n : Nat)), (9, .slc i 0 (n + 1) (some (n + 1))), (10, .int .i64 k)])
      (fun k x => h.set i (.row Ts (tx x.1 ++ List.replicate (n + 1 - k) [.str []]))) ([], s) ⟨Nat.zero_le _, rfl, rfl, Nat.le_refl _⟩ rfl rfl ⟨rfl, rfl, rfl, rfl, rfl, rfl, trivial⟩ (fun k s hI => hI.1) ?_
    rintro k ⟨d, rest⟩ n0 g0 hk ⟨_, hsp⟩
    refine s_lt (fun h1 => ?_) (fun h1 => ?_)
    · obtain ⟨p, r, e2, hp, hsp'⟩ := hsp.more (by omega)
      obtain rfl : rest = p ++ c :: r := e2
      have hle : (p ++ c :: r).length ≤ s.length := hsp.le
      have hlen : (p ++ c :: r).length = p.length + 1 + r.length := by simp; omega
      have hI := Index1_L (p ++ c :: r) c
      rw [indexByte_cut hp] at hI
      have hdl : d.length = k := hsp.len
      have htd := tx_len d
      have hget : (tx d ++ List.replicate (n + 1 - k) [AV.str []])[0 + k]? = some [.str []] := by
        rw [Nat.zero_add, List.getElem?_append_right (by omega), List.getElem?_replicate, if_pos (by omega)]
      have e1 : ((p ++ c :: r).take (p ++ c :: r).length).drop (p.length + 1) = r := by
        rw [List.take_length, show p ++ c :: r = (p ++ [c]) ++ r by simp]
        exact List.drop_left' (by simp)
      have e3 : ((p ++ c :: r).take p.length).drop 0 = p := by rw [List.take_left, List.drop_zero]
      have hH : (h.set i (.row Ts (tx d ++ List.replicate (n + 1 - k) [.str []]))).set i (.row Ts ((tx d ++ List.replicate (n + 1 - k) [AV.str []]).set (0 + k) [.str (((p ++ c :: r).take p.length).drop 0)])) = h.set i (.row Ts (tx (d ++ [p]) ++ List.replicate (n + 1 - (k + 1)) [.str []])) := by
        rw [Hp.set_set, Nat.zero_add, e3, show n + 1 - k = (n - k) + 1 by omega, set_parts hdl, show n + 1 - (k + 1) = n - k by omega]
      refine hI.use ?_
      refine s_lt (fun h2 => by omega) (fun _ => ?_)
      refine s_nat p.length (by omega) (by omega) ?_
      refine ⟨p.length, rfl, Nat.zero_le _, (by show p.length ≤ (p ++ c :: r).length; omega), ?_⟩
      refine ⟨k, rfl, by omega, ⟨_, Hp.set_same _ _ _⟩, ?_⟩
      refine ⟨_, _, _, Hp.set_same _ _ _, hget, rfl, rfl, rfl, Nat.le_refl _, ?_⟩
      refine s_nat (p.length + 1) (by simp) (by omega) ?_
      refine ⟨p.length + 1, rfl, (by show p.length + 1 ≤ (p ++ c :: r).length; omega), Nat.le_refl _, ?_⟩
      refine s_nat (k + 1) (by omega) (by omega) ?_
      exact ⟨(d ++ [p], r), by omega, ⟨by omega, hsp'⟩, hH, rfl, congrArg AV.str e1, rfl, rfl, rfl, rfl, rfl, trivial⟩
    · obtain rfl : k = n := by omega
      exact ⟨(d, rest), hsp, rfl, rfl, rfl, rfl, rfl, trivial⟩
  · rintro e' h' ⟨⟨d, rest⟩, hsp, rfl, hd, hs⟩
    obtain ⟨n0, g0, rfl⟩ := hs.out hd
    have hdl : d.length = n := hsp.len
    have htd := tx_len d
    have hget : (tx d ++ List.replicate (n + 1 - n) [AV.str []])[0 + n]? = some [.str []] := by
      rw [Nat.zero_add, List.getElem?_append_right (by omega), List.getElem?_replicate, if_pos (by omega)]
    have hrow : (tx d ++ List.replicate (n + 1 - n) [AV.str []]).set (0 + n) [.str rest] = tx (splitC c s) ++ [] := by
      have hl : splitC c s = d ++ [rest] := hsp.last (by omega)
      rw [Nat.zero_add, show n + 1 - n = 0 + 1 by omega, set_parts hdl, hl]; rfl
    refine ⟨n, rfl, by omega, ⟨_, Hp.set_same _ _ _⟩, ?_⟩
    refine ⟨_, _, _, Hp.set_same _ _ _, hget, rfl, rfl, rfl, Nat.le_refl _, ?_⟩
    refine s_nat (n + 1) (by omega) (by omega) ?_
    refine ⟨⟨_, Hp.set_same _ _ _⟩, n + 1, rfl, Nat.zero_le _, Nat.le_refl _, ?_⟩
    refine ⟨rfl, ((Gr.refl h).set hi.1 _).set hi.1 _, .inr ⟨i, [], ?_, hi.1, ?_, rfl⟩⟩
    · rw [tx_len, hsl]; rfl
    · rw [Hp.set_same, ← hrow]; rfl

theorem Split_L (s : Str) (c : UInt8) (h : Hp) (hs : s.length ≤ 1000000000000) : CallL Tryz.prog F_strings_Split [.str s, .str [c]] h fun r h' => OwnB Ts h h' r (tx (splitC c s)) := by
  refine K_strings_Split (md := false) ?_
  refine (genSplit_L s c h hs).mono ?_
  rintro r h' hr
  have hr' := hr
  rcases hr.2 with ⟨rfl, _⟩ | ⟨_, _, rfl, _⟩
  · exact ⟨rfl, hr'⟩
  · exact ⟨rfl, hr'⟩

theorem isPath_L (s : Str) (hs : s.length ≤ 1000000000000) : PureL Tryz.prog F_mask_isPath [.str s] (.bool (isPath s)) := by
  refine PureL.nil rfl ?_
  refine K_mask_isPath (md := false) ?_
  refine (Split_L s 46 Hp.nil hs).mono ?_
  have htl := tx_len (splitC 46 s)
  have hsl := splitC_len 46 s
  have hcl : s.count 46 ≤ s.length := List.count_le_length
  rintro r h' ⟨_, ⟨_, h0⟩ | ⟨i, rest, rfl, _, hrow, _⟩⟩
  · rw [h0] at htl; simp at htl; omega
  refine s_loop (splitC 46 s).length (fun k (_ : Unit) => k ≤ (splitC 46 s).length ∧ ∀ (j : Nat) (x : Str), j < k → (splitC 46 s)[j]? = some x → ident x = true)
    (fun k _ => [(6, .slc i 0 (tx (splitC 46 s)).length (some (tx (splitC 46 s)).length)), (7, .int .i64 (tx (splitC 46 s)).length), (8, .int .i64 k)]) (fun _ _ => h') () ⟨Nat.zero_le _, fun j x hj => by omega⟩ rfl rfl ⟨rfl, rfl, rfl, trivial⟩ (fun k s hI => hI.1) ?_
  intro k _ n0 g0 hk ⟨_, hall⟩
  refine s_lt (fun h1 => ?_) (fun h1 => ?_)
  · obtain ⟨x, hx⟩ := get_lt (l := splitC 46 s) (k := k) (by omega)
    have hrk : (tx (splitC 46 s) ++ rest)[0 + k]? = some (el x) := by
      rw [Nat.zero_add, List.getElem?_append_left (by omega)]; exact tx_get hx
    have hxl := splitC_mem_len (List.mem_of_getElem? hx)
    refine ⟨k, rfl, by omega, ⟨_, hrow⟩, ?_⟩
    refine ⟨_, _, _, _, hrow, hrk, rfl, ?_⟩
    refine (Ident_L x (by omega)).useC (fun h2 => ?_) (fun h2 => ?_)
    · refine s_nat (k + 1) (by omega) (by omega) ?_
      refine ⟨(), by omega, ⟨by omega, fun j y hj hy => ?_⟩, rfl, rfl, rfl, rfl, rfl, trivial⟩
      by_cases e : j = k
      · subst e; rw [hx] at hy; cases hy; exact h2
      · exact hall j y (by omega) hy
    · refine ⟨rfl, _, rfl, ?_⟩
      have : isPath s = false := List.all_eq_false.2 ⟨x, List.mem_of_getElem? hx, by simp [h2]⟩
      rw [this]; exact .same _ rfl
  · refine ⟨rfl, _, rfl, ?_⟩
    have : isPath s = true := List.all_eq_true.2 fun x hx => by
      obtain ⟨j, hj⟩ := List.getElem?_of_mem hx
      exact hall j x (by have := (List.getElem?_eq_some_iff.1 hj).1; omega) hj
    rw [this]; exact .same _ rfl

theorem HasBody.parse1 : HasBody Tryz.prog F_mask_Parse_c1 := ⟨_, Tryz.func60, by kernel_rfl, by kernel_rfl⟩
theorem Parse1_L (s : Str) (hs : s.length ≤ 1000000000000) : PureL Tryz.prog F_mask_Parse_c1 [.str s] (.bool (!isPath s)) := by
  intro h
  refine K_mask_Parse_c1 (md := false) ?_
  refine (isPath_L s hs).use ?_
  exact ⟨rfl, rfl, rfl⟩

theorem noid_func0 (p : Nat → Bool) (F : FuncId) : noid p (.func (.func F) [] []) = true := rfl

theorem Parse_L (s : Str) (hs : s.length ≤ 100000000000) (h : Hp) :
    CallL Tryz.prog F_mask_Parse [.str s] h fun r h' => ∃ v, OwnB Ts h h' (.ret v) (tx ((parseM s).getD [])) ∧ r = .ret (.tup [v, .int .i64 (if (parseM s).isSome then 0 else 160)]) := by
  refine K_mask_Parse (md := false) ?_
  refine s_seq (fun h1 => ?_) (fun h1 => ?_)
  · subst h1
    exact ⟨rfl, .nils, ⟨Gr.refl h, .inl ⟨rfl, rfl⟩⟩, rfl⟩
  have hsl := splitC_len 44 s
  have hcl : s.count 44 ≤ s.length := List.count_le_length
  refine (Split_L s 44 h (by omega)).mono ?_
  rintro r h' hr
  obtain ⟨v, rfl⟩ := hr.ret
  have pc : PureL Tryz.prog F_slices_ContainsFunc [.isl 1 (tx (splitC 44 s)), .func (.func F_mask_Parse_c1) [] []] (.bool ((splitC 44 s).any fun s => !isPath s)) := fun h =>
    ContainsFunc_L 1 (splitC 44 s) F_mask_Parse_c1 [] [] (fun s => !isPath s) HasBody.parse1 h (fun x hx => Parse1_L x (by have := splitC_mem_len hx; omega) h) (by omega)
  have key : ((splitC 44 s).any fun s => !isPath s) = !((splitC 44 s).all isPath) := by simp [List.all_eq_not_any_not]
  rw [key] at pc
  have hfz := hr.fz (p := anyMark) (g := 1) (noidss_tx _ _)
  rcases hr.2 with ⟨e, h0⟩ | ⟨i, rest, e, h0⟩
  · have := congrArg List.length h0
    rw [tx_len, hsl] at this; simp at this
  cases e
  refine CallL.lentP pc (FzL.two hfz (.same _ rfl)) rfl ?_
  cases hall : (splitC 44 s).all isPath with
  | true =>
    have hp : parseM s = some (splitC 44 s) := by rw [parseM, if_neg h1, if_pos hall]
    rw [hp]
    exact ⟨rfl, _, hr, rfl⟩
  | false =>
    have hp : parseM s = none := by rw [parseM, if_neg h1, if_neg (by rw [hall]; decide)]
    rw [hp]
    exact ⟨rfl, .nils, ⟨hr.1, .inl ⟨rfl, rfl⟩⟩, rfl⟩
end Go.Proofs.YtibdeeejjbmgcaaGreatDoor

/-
  Contracts: masks.
-/
namespace Go.Proofs.YtibdeeejjbmgcaaGreatDoor
open Go.L

/-- The map counts. -/
structure CntM (es : MapL) (l : List Str) : Prop where
  keys : SKeys es
  get : ∀ s, sget es s = if l.count s = 0 then none else some (.int .i64 (l.count s : Nat))

theorem CntM.nil : CntM [] [] := ⟨SKeys.nil, fun s => rfl⟩
theorem CntM.step {es : MapL} {l : List Str} (k : CntM es l) (x : Str) (c : Nat) :
    (sget es x = none → CntM (es ++ [(.str x, .int .i64 (((l.count x : Nat) : Int) + 1), c)]) (l ++ [x])) ∧ (sget es x ≠ none → CntM (mmod (.str x) (.int .i64 (((l.count x : Nat) : Int) + 1)) es) (l ++ [x])) := by
  have cnt : ∀ s, (l ++ [x]).count s = if s = x then l.count x + 1 else l.count s := fun s => by
    rw [List.count_append]
    by_cases e : s = x
    · subst e; simp
    · rw [if_neg e, List.count_eq_zero_of_not_mem (a := s) (l := [x]) (by simpa using e)]; rfl
  constructor
  · intro h
    refine ⟨k.keys.snoc _ _ _, fun s => ?_⟩
    rw [sget_snoc k.keys, cnt]
    by_cases e : s = x
    · subst e; rw [h]; simp
    · simp only [if_neg e]
      rw [← k.get s]
      cases sget es s <;> rfl
  · intro h
    refine ⟨k.keys.mmod _ _, fun s => ?_⟩
    rw [sget_mmod k.keys _ _ h, cnt]
    by_cases e : s = x
    · subst e; simp
    · rw [if_neg e, if_neg e, k.get s]

theorem delP_at {l : List Str} {p : Str} {k : Nat} (h1 : p[k]? = some 46) (h2 : p.take k ∈ l) : delP l p = true := by
  refine delP_iff.2 ⟨_, h2, ?_⟩
  rw [← List.take_succ_of_get h1]; exact List.take_prefix _ _
theorem delP_end {l : List Str} {p : Str} (h : ∀ j, j < p.length → p[j]? = some 46 → p.take j ∉ l) : delP l p = false := by
  rw [Bool.eq_false_iff]
  intro hd
  obtain ⟨q, hq, ⟨r, rfl⟩⟩ := delP_iff.1 hd
  refine h q.length (by simp <;> omega) ?_ ?_
  · rw [List.append_assoc, List.getElem?_append_right (Nat.le_refl _)]; simp
  · rw [List.append_assoc, List.take_left]; exact hq

theorem Normal1_L (bx m c T : Nat) (es : MapL) (l : List Str) (p : Str) (h : Hp) (hb : h bx = some (.row T [[.map m]])) (hm : h m = some (.map es c)) (hk : CntM es l) (hp : p.length ≤ 1000000000000000) :
    CallL Tryz.prog F_mask_Normal_c1 [.str p, .ptr bx 0 0] h fun r h' => r = .ret (.bool (delP l p)) ∧ h' = h := by
  refine K_mask_Normal_c1 (md := false) ?_
  refine s_loop p.length (fun k (_ : Unit) => k ≤ p.length ∧ ∀ j, j < k → p[j]? = some 46 → p.take j ∉ l) (fun k _ => [(0, .str p), (1, .ptr bx 0 0), (6, .int .i64 p.length), (7, .int .i64 k)]) (fun _ _ => h) () ⟨Nat.zero_le _, fun j hj => by omega⟩ rfl rfl ⟨rfl, rfl, rfl, rfl, trivial⟩ (fun k s hI => hI.1) ?_
  intro k _ n0 g0 hk' ⟨_, hall⟩
  refine s_lt (fun h1 => ?_) (fun h1 => ?_)
  · obtain ⟨x, hx⟩ := get_lt (l := p) (k := k) (by omega)
    refine s_byte k x rfl hx ?_
    have next : (p[k]? = some 46 → p.take k ∉ l) → ∀ j, j < k + 1 → p[j]? = some 46 → p.take j ∉ l := fun hn j hj => by
      by_cases e : j = k
      · subst e; exact hn
      · exact hall j (by omega)
    refine s_eq (fun h2 => ?_) (fun h2 => ?_)
    · have hx46 : x = 46 := UInt8.toNat_inj.1 (show x.toNat = 46 by omega)
      subst hx46
      refine ⟨_, _, _, _, hb, rfl, rfl, ?_⟩
      refine ⟨k, rfl, Nat.zero_le _, by omega, ?_⟩
      refine ⟨es, c, hm, rfl, hk.keys.like _, fun r hr => ?_⟩
      rw [List.drop_zero] at hr
      have hr := hr.trans (hk.get (p.take k))
      by_cases hc : l.count (p.take k) = 0
      · rw [if_pos hc] at hr
        subst hr
        refine s_lt (fun h3 => absurd h3 (by decide)) (fun _ => ?_)
        refine s_nat (k + 1) (by omega) (by omega) ?_
        exact ⟨(), by omega, ⟨by omega, next fun _ => List.count_eq_zero.1 hc⟩, rfl, rfl, rfl, rfl, rfl, rfl, trivial⟩
      · rw [if_neg hc] at hr
        subst hr
        refine s_lt (fun h3 => ?_) (fun h3 => by omega)
        refine ⟨rfl, Res.bool_eq (delP_at hx ?_).symm, rfl⟩
        exact List.count_pos_iff.1 (by omega)
    · refine s_nat (k + 1) (by omega) (by omega) ?_
      exact ⟨(), by omega, ⟨by omega, next fun h46 => by rw [hx] at h46; cases h46; exact absurd rfl h2⟩, rfl, rfl, rfl, rfl, rfl, rfl, trivial⟩
  · refine ⟨rfl, Res.bool_eq (delP_end fun j hj => hall j (by omega)).symm, rfl⟩

theorem HasBody.normal1 : HasBody Tryz.prog F_mask_Normal_c1 := ⟨_, Tryz.func30, by kernel_rfl, by kernel_rfl⟩

theorem m0ss_blank (k : Nat) : m0ss (blank k) = true := by
  induction k with
  | zero => rfl
  | succ k ih => exact ih
theorem m0ss_tx (l : List Str) : m0ss (tx l) = true := by
  induction l with
  | nil => rfl
  | cons a l ih => exact ih

theorem Normal_L (g : Nat) (l : List Str) (h : Hp) (hl : l.length ≤ 1000000000000) (hp : ∀ p ∈ l, p.length ≤ 1000000000000000) :
    CallL Tryz.prog F_mask_Normal [.isl g (tx l)] h fun r h' => OwnB Ts h h' r (tx (normal l)) := by
  have htl := tx_len l
  refine K_mask_Normal (md := false) ?_
  intro m hm
  refine ⟨rfl, rfl, fun bx hbx => ?_⟩
  have hbx1 : h.u bx = false := ((Gr.refl h).set hm.1 _).new hbx.1
  have hne : m ≠ bx := ne_of_u (h := h.set m (.map [] 0)) (by rw [Hp.set_u, if_pos rfl]) hbx.1
  refine ⟨_, _, _, Hp.set_same _ _ _, rfl, rfl, rfl, rfl, Nat.le_refl _, ?_⟩
  refine s_loop l.length (fun k (s : Hp × MapL × Nat) => k ≤ l.length ∧ Gr h s.1 ∧ s.1 m = some (.map s.2.1 s.2.2) ∧ (∃ T, s.1 bx = some (.row T [[.map m]])) ∧ CntM s.2.1 (l.take k))
    (fun k _ => [(0, .isl g (tx l)), (3, .ptr bx 0 0), (8, .isl g (tx l)), (9, .int .i64 (tx l).length), (10, .int .i64 k)]) (fun _ s => s.1) (_, [], 0) ⟨Nat.zero_le _, ?_, ?_, ⟨_, Hp.set_same _ _ _⟩, CntM.nil⟩ rfl rfl ⟨rfl, rfl, rfl, rfl, rfl, trivial⟩ (fun k s hI => hI.1) ?_
  · exact (((Gr.refl h).set hm.1 _).set hbx1 _).set hbx1 _
  · exact (Hp.set_ne hne).trans ((Hp.set_ne hne).trans (Hp.set_same _ _ _))
  rintro k ⟨H, es, c⟩ n0 g0 hk ⟨_, hgr, hmm, ⟨T, hb⟩, hcnt⟩
  simp only at hgr hmm hb hcnt
  refine s_lt (fun h1 => ?_) (fun h1 => ?_)
  · obtain ⟨x, hx⟩ := get_lt (l := l) (k := k) (by omega)
    refine s_at k x rfl hx rfl (by decide) ?_
    refine ⟨_, rfl, ?_⟩
    refine ⟨_, _, _, _, hb, rfl, rfl, ?_⟩
    refine ⟨es, c, hmm, rfl, hcnt.keys.like _, fun r hr => ?_⟩
    have hg := hcnt.get x
    have hr : r = sget es x := hr
    have hcl : (l.take k).count x ≤ l.length := Nat.le_trans List.count_le_length (by rw [List.length_take]; omega)
    obtain ⟨st1, st2⟩ := hcnt.step x c
    rw [← List.take_succ_of_get hx] at st1 st2
    have hgr' : ∀ b, Gr h (H.set m b) := fun b => hgr.set hm.1 b
    have hb' : ∀ b, (H.set m b).m bx = some (.row T [[.map m]]) := fun b => (Hp.set_ne (Ne.symm hne)).trans hb
    by_cases hc : (l.take k).count x = 0
    · rw [if_pos hc] at hg
      rw [hg] at hr
      subst hr
      refine s_64 (by decide) (by decide) ?_
      refine ⟨es, c, hmm, rfl, hcnt.keys.like _, fun r2 hr2 => ?_⟩
      have hr2 : r2 = sget es x := hr2
      rw [hg] at hr2
      subst hr2
      refine s_nat (k + 1) (by omega) (by omega) ?_
      refine ⟨(H.set m (.map (es ++ [(.str x, .int .i64 1, c)]) (c + 1)), es ++ [(.str x, .int .i64 1, c)], c + 1), by omega, ⟨by omega, hgr' _, Hp.set_same _ _ _, ⟨T, hb' _⟩, ?_⟩, rfl, rfl, rfl, rfl, rfl, rfl, rfl, trivial⟩
      have := st1 hg
      rw [hc] at this
      exact this
    · rw [if_neg hc] at hg
      rw [hg] at hr
      subst hr
      refine s_64 (by omega) (by omega) ?_
      refine ⟨es, c, hmm, rfl, hcnt.keys.like _, fun r2 hr2 => ?_⟩
      have hr2 : r2 = sget es x := hr2
      have hn : sget es x ≠ none := by rw [hg]; simp
      rw [hg] at hr2
      subst hr2
      refine s_nat (k + 1) (by omega) (by omega) ?_
      exact ⟨(H.set m (.map (mmod (.str x) (.int .i64 (((l.take k).count x : Nat) + 1)) es) c), mmod (.str x) (.int .i64 (((l.take k).count x : Nat) + 1)) es, c), by omega, ⟨by omega, hgr' _, Hp.set_same _ _ _, ⟨T, hb' _⟩, st2 hn⟩, rfl, rfl, rfl, rfl, rfl, rfl, rfl, trivial⟩
  · have hkl : l.take k = l := List.take_of_length_le (by omega)
    rw [hkl] at hcnt
    refine (Clone_L g l H hl).mono ?_
    rintro r h' (⟨rfl, he, rfl⟩ | ⟨i, ci, rfl, hci, hiu, hg2, hi⟩)
    · have hl0 : l = [] := List.map_eq_nil_iff.1 he
      subst hl0
      refine (Sort_nil_L h').mono ?_
      rintro r h2 ⟨rfl, rfl⟩
      refine (Compact_nil_L h2).mono ?_
      rintro r h3 ⟨rfl, rfl⟩
      refine (DeleteFunc_nil_L _ _ _ h3).mono ?_
      rintro r h4 ⟨rfl, rfl⟩
      refine (Clip_nil_L h4).mono ?_
      rintro r h5 ⟨rfl, rfl⟩
      exact ⟨rfl, hgr, .inl ⟨rfl, by simp [normal, sortS, ddS]⟩⟩
    · obtain ⟨L, hL⟩ : ∃ L, L = sortS l := ⟨_, rfl⟩
      have hLl : L.length = l.length := by rw [hL]; exact List.length_mergeSort ..
      have htL : (tx l).length = L.length := by rw [tx_len, hLl]
      rw [tx_len] at hci ⊢
      have iu : h'.u i = true := Hp.used hi
      have hib : bx ≠ i := ne_of_u (Hp.used hb) hiu
      have him : m ≠ i := ne_of_u (Hp.used hmm) hiu
      refine (Sort_L i ci l h' hi hl).mono ?_
      rintro r h2 ⟨rfl, rfl⟩
      rw [← hL, ← hLl]
      refine (Compact_L i ci L _ (Hp.set_same _ _ _) (fun x hx => by rw [hLl]; exact hci x hx) (by omega)).mono ?_
      rintro r h3 ⟨rfl, rfl⟩
      rw [Hp.set_set]
      have hdl : (ddS L).length ≤ L.length := ddS_len L
      refine (DeleteFunc_L i ci (ddS L) F_mask_Normal_c1 [] [.ptr bx 0 0] (delP l) HasBody.normal1 _ _ (Hp.set_same _ _ _) (fun x hx => by have := hci x hx; omega) (fun b s hs => ?_) (by omega)).mono ?_
      · refine Normal1_L bx m c T es l s _ ((Hp.set_ne hib).trans ((Hp.set_ne hib).trans (hg2.blk hb))) ((Hp.set_ne him).trans ((Hp.set_ne him).trans (hg2.blk hmm))) hcnt (hp s ?_)
        exact List.mem_mergeSort.1 (by rw [hL] at hs; exact ddS_mem hs)
      · rintro r h4 ⟨rfl, rfl⟩
        rw [Hp.set_set]
        have hfl : ((ddS L).filter fun x => !delP l x).length ≤ (ddS L).length := List.length_filter_le _ _
        refine (Clip_L i _ ci _ _ (Hp.set_same _ _ _) (fun x hx => by have := hci x hx; omega)).mono ?_
        rintro r h5 ⟨rfl, rfl⟩
        refine ⟨rfl, ?_, .inr ⟨i, blank ((ddS L).length - ((ddS L).filter fun x => !delP l x).length) ++ blank (L.length - (ddS L).length), ?_, ?_, ?_, ?_⟩⟩
        · exact (hgr.trans hg2).set (hgr.new hiu) _
        · rw [tx_len, normal, ← hL]; rfl
        · exact hgr.new hiu
        · rw [normal, ← hL, Hp.set_same, List.append_assoc]
        · rw [m0ss_append, m0ss_blank, m0ss_blank]; rfl
end Go.Proofs.YtibdeeejjbmgcaaGreatDoor

/-
  Contracts: masks joined and met.
-/
namespace Go.Proofs.YtibdeeejjbmgcaaGreatDoor
open Go.L

theorem tx_app (a b : List Str) : tx (a ++ b) = tx a ++ tx b := List.map_append
theorem tx_one (l : List Str) : ∀ cs ∈ tx l, cs.length = 1 := fun cs hcs => by obtain ⟨s, _, rfl⟩ := List.mem_map.1 hcs; rfl
theorem tx_flat (l : List Str) : ∀ cs ∈ tx l, flat cs = true := fun cs hcs => by obtain ⟨s, _, rfl⟩ := List.mem_map.1 hcs; rfl
theorem tx_ren (l : List Str) (b : Nat) : ∀ cs ∈ tx l, ∀ v ∈ cs, v.ren b = v := fun cs hcs v hv => by
  obtain ⟨s, _, rfl⟩ := List.mem_map.1 hcs
  rw [List.mem_singleton.1 hv]; rfl
theorem noid_isl (p : Nat → Bool) (g : Nat) (l : List Str) (hg : p g = true) : noid p (.isl g (tx l)) = true := by simp [noid, hg, noidss_tx]

theorem Grow_nil_L (n : Nat) (h : Hp) (hn : n ≤ 1000000000000) : CallL Tryz.prog F_slices_Grow [.nils, .int .i64 n] h fun r h' => ∃ v, r = .ret v ∧ Acc Ts h h' v [] := by
  refine K_slices_Grow (md := false) ?_
  refine s_lt (fun h1 => by omega) (fun _ => ?_)
  refine s_nat 0 (by omega) (by omega) ?_
  refine s_nat n (by omega) (by omega) ?_
  refine s_lt (fun h1 => ?_) (fun h1 => ?_)
  · refine ⟨0, rfl, rfl, rfl, rfl, ?_⟩
    refine ⟨n, rfl, by unfold capMax; omega, by unfold capMax; omega, ?_⟩
    refine ⟨fun cs hcs => by rw [List.eq_of_mem_replicate hcs]; rfl, .inr ⟨fun e => ?_, ?_, ?_, fun j hj => ?_⟩⟩
    · have := congrArg List.length e; simp at this <;> omega
    · rw [List.length_replicate]; unfold capMax; omega
    · rw [List.length_replicate]; unfold capMax; omega
    refine ⟨⟨_, Hp.set_same _ _ _⟩, 0, rfl, Nat.le_refl _, Nat.zero_le _, ?_⟩
    refine ⟨rfl, _, rfl, (Gr.refl h).set hj.1 _, .inr ⟨j, _, rfl, hj.1, Hp.set_same _ _ _, rfl, Nat.zero_le _⟩⟩
  · exact ⟨rfl, _, rfl, Acc.nil _ _⟩

def tot (ll : List (Nat × List Str)) : Nat := (ll.map fun p => p.2.length).sum
theorem tot_step {ll : List (Nat × List Str)} {k : Nat} {x : Nat × List Str} (hx : ll[k]? = some x) : tot (ll.take (k + 1)) = tot (ll.take k) + x.2.length := by
  rw [List.take_succ_of_get hx]; simp [tot]
theorem tot_app (a b : List (Nat × List Str)) : tot (a ++ b) = tot a + tot b := by simp [tot]
theorem tot_le (ll : List (Nat × List Str)) (k : Nat) : tot (ll.take k) ≤ tot ll := by
  have := tot_app (ll.take k) (ll.drop k)
  rw [List.take_append_drop] at this
  omega
theorem flat_len (ll : List (Nat × List Str)) : (ll.flatMap (·.2)).length = tot ll := by simp [tot, List.length_flatMap]

theorem Concat_L (g0 : Nat) (ll : List (Nat × List Str)) (hl : tot ll ≤ 1000000000000) (hll : ll.length ≤ 1000000000000) (hg : ∀ p ∈ ll, anyMark p.1 = true) :
    PureL Tryz.prog F_slices_Concat [.isl g0 (ll.map fun p => [.isl p.1 (tx p.2)])] (.isl 0 (tx (ll.flatMap (·.2)))) := by
  have hlen : (ll.map fun p => [AV.isl p.1 (tx p.2)]).length = ll.length := List.length_map ..
  refine PureL.nil ?_ ?_
  · have : ∀ l : List (Nat × List Str), noidss anyMark (l.map fun p => [.isl p.1 (tx p.2)]) = true := fun l => by
      induction l with
      | nil => rfl
      | cons p l ih => simpa [noidss, noids, noid, anyMark, noidss_tx] using ih
    simp [noids, noid, anyMark, this]
  refine K_slices_Concat (md := false) ?_
  refine s_loop ll.length (fun k (_ : Unit) => k ≤ ll.length) (fun k _ => [(0, .isl g0 (ll.map fun p => [.isl p.1 (tx p.2)])), (3, .int .i64 (tot (ll.take k) : Nat)), (9, .isl g0 (ll.map fun p => [.isl p.1 (tx p.2)])), (10, .int .i64 (ll.map fun p => [AV.isl p.1 (tx p.2)]).length), (11, .int .i64 k)])
    (fun _ _ => Hp.nil) () (Nat.zero_le _) rfl rfl ⟨rfl, rfl, rfl, rfl, rfl, trivial⟩ (fun k s hI => hI) ?_
  intro k _ n0 g0' hk _
  refine s_lt (fun h1 => ?_) (fun h1 => ?_)
  · obtain ⟨x, hx⟩ := get_lt (l := ll) (k := k) (by omega)
    have ht := tot_step hx
    have ht2 := tot_le ll (k + 1)
    refine s_at k x rfl hx rfl (by decide) ?_
    refine ⟨_, rfl, ?_⟩
    have htx := tx_len x.2
    refine s_nat (tot (ll.take (k + 1))) (by rw [htx]; omega) (by omega) ?_
    refine s_lt (fun h2 => by omega) (fun _ => ?_)
    refine s_nat (k + 1) (by omega) (by omega) ?_
    exact ⟨(), by omega, by omega, rfl, rfl, rfl, rfl, rfl, rfl, rfl, trivial⟩
  have hkl : ll.take k = ll := List.take_of_length_le (by omega)
  rw [hkl]
  refine (Grow_nil_L (tot ll) Hp.nil hl).mono ?_
  rintro r h' ⟨v, rfl, hacc⟩
  refine s_loop ll.length (fun k (s : Hp × AV) => k ≤ ll.length ∧ Acc Ts Hp.nil s.1 s.2 (tx ((ll.take k).flatMap (·.2)))) (fun k s => [(6, s.2), (25, .isl g0 (ll.map fun p => [.isl p.1 (tx p.2)])), (26, .int .i64 (ll.map fun p => [AV.isl p.1 (tx p.2)]).length), (27, .int .i64 k)])
    (fun _ s => s.1) (h', v) ⟨Nat.zero_le _, hacc⟩ rfl rfl ⟨rfl, rfl, rfl, rfl, trivial⟩ (fun k s hI => hI.1) ?_
  rintro k ⟨H, u⟩ n1 g1 hk ⟨_, ha⟩
  simp only at ha
  refine s_lt (fun h2 => ?_) (fun h2 => ?_)
  · obtain ⟨x, hx⟩ := get_lt (l := ll) (k := k) (by omega)
    have ht := tot_step hx
    have ht2 := tot_le ll (k + 1)
    refine s_at k x rfl hx rfl (by decide) ?_
    refine ⟨_, rfl, ?_⟩
    have hb : (tx ((ll.take k).flatMap (·.2))).length + (tx x.2).length ≤ 1000000000000 := by rw [tx_len, tx_len, flat_len]; omega
    refine ⟨tx x.2, rfl, ?_⟩
    refine Acc.app ha (tx_one _) (tx_flat _) (by unfold capMax; omega) (by unfold capMax; omega) fun v' H' ha' _ _ => ?_
    refine s_nat (k + 1) (by omega) (by omega) ?_
    refine ⟨(H', v'), by omega, ⟨by omega, ?_⟩, rfl, rfl, rfl, rfl, rfl, rfl, trivial⟩
    rw [List.take_succ_of_get hx]
    simpa using ha'
  · have hkl2 : ll.take k = ll := List.take_of_length_le (by omega)
    rw [hkl2] at ha
    exact ⟨rfl, _, rfl, ha.fz (noidss_tx _ _)⟩

theorem Union_L (ga gb : Nat) (a b : List Str) (h : Hp) (ha : a.length ≤ 1000) (hb : b.length ≤ 1000) (hp : ∀ p ∈ a ++ b, p.length ≤ 1000000000000000) :
    CallL Tryz.prog F_mask_Union [.isl ga (tx a), .isl gb (tx b)] h fun r h' => OwnB Ts h h' r (tx (normal (a ++ b))) := by
  refine K_mask_Union (md := false) ?_
  refine ⟨_, rfl, fun i hi => ?_⟩
  have hf : FzL anyMark 1 (h.set i (.row 22 [[.isl ga (tx a)], [.isl gb (tx b)]])) [.slc i 0 2 (some 2)] [.isl 1 ([(ga, a), (gb, b)].map fun p => [.isl p.1 (tx p.2)])] := by
    refine ⟨rfl, fun q v v' h1 h2 => ?_⟩
    cases q with
    | succ q => simp at h1
    | zero =>
      cases h1; cases h2
      refine .slc i 0 2 (some 2) _ _ _ (Hp.set_same _ _ _) (Nat.le_refl _) rfl (fun j cs cs' h1 h2 => ?_) (fun j cs cs' q u u' h1 h2 h3 h4 => ?_)
      · match j with
        | 0 => cases h1; cases h2; rfl
        | 1 => cases h1; cases h2; rfl
        | j + 2 => simp at h2
      · have same : cs = cs' := by
          match j with
          | 0 => cases h1; cases h2; rfl
          | 1 => cases h1; cases h2; rfl
          | j + 2 => simp at h2
        subst same
        rw [h3] at h4; cases h4
        refine .same u ?_
        match j with
        | 0 => cases h1; cases q with
          | zero => cases h3; exact noid_isl _ _ _ rfl
          | succ q => simp at h3
        | 1 => cases h1; cases q with
          | zero => cases h3; exact noid_isl _ _ _ rfl
          | succ q => simp at h3
        | j + 2 => simp at h2
  refine CallL.lentP (Concat_L 1 [(ga, a), (gb, b)] (by simp [tot]; omega) (by simp) (fun _ _ => rfl)) hf (noid_isl _ _ _ rfl) ?_
  have e : [(ga, a), (gb, b)].flatMap (·.2) = a ++ b := by simp
  rw [e]
  refine (Normal_L 0 (a ++ b) _ (by simp; omega) hp).mono ?_
  rintro r h' hr
  have hr' := hr.after ((Gr.refl h).set hi.1 _)
  rcases hr.2 with ⟨rfl, _⟩ | ⟨_, _, rfl, _⟩
  · exact ⟨rfl, hr'⟩
  · exact ⟨rfl, hr'⟩

theorem Meet_L (ga gb : Nat) (a b : List Str) (h : Hp) (hal : a.length ≤ 1000) (hbl : b.length ≤ 1000) (hp : ∀ p ∈ a ++ b, p.length ≤ 1000000000000000) :
    CallL Tryz.prog F_mask_Meet [.isl ga (tx a), .isl gb (tx b)] h fun r h' => OwnB Ts h h' r (tx (normal (a.filter (cov b) ++ b.filter (cov a)))) := by
  have hta := tx_len a
  have htb := tx_len b
  refine K_mask_Meet (md := false) ?_
  refine s_loop a.length (fun k (s : Hp × AV) => k ≤ a.length ∧ Acc Ts h s.1 s.2 (tx ((a.take k).filter (cov b)))) (fun k s => [(0, .isl ga (tx a)), (1, .isl gb (tx b)), (5, s.2), (10, .isl ga (tx a)), (11, .int .i64 (tx a).length), (12, .int .i64 k)])
    (fun _ s => s.1) (h, .nils) ⟨Nat.zero_le _, Acc.nil _ _⟩ rfl rfl ⟨rfl, rfl, rfl, rfl, rfl, rfl, trivial⟩ (fun k s hI => hI.1) ?_
  rintro k ⟨H, v⟩ n0 g0 hk ⟨_, hacc⟩
  simp only at hacc
  have hfl : ((a.take k).filter (cov b)).length ≤ a.length := Nat.le_trans (List.length_filter_le _ _) (by rw [List.length_take]; omega)
  refine s_lt (fun h1 => ?_) (fun h1 => ?_)
  · obtain ⟨x, hx⟩ := get_lt (l := a) (k := k) (by omega)
    refine s_at k x rfl hx rfl (by decide) ?_
    refine ⟨_, rfl, ?_⟩
    have st : (a.take (k + 1)).filter (cov b) = (a.take k).filter (cov b) ++ if cov b x = true then [x] else [] := by
      rw [List.take_succ_of_get hx, List.filter_append]; cases h : cov b x <;> simp [h]
    refine (Covers_L gb b x (by omega)).useC (fun h2 => ?_) (fun h2 => ?_)
    · rw [if_pos (show cov _ x = true from h2)] at st
      refine ⟨_, rfl, fun tb htb' => ?_⟩
      refine ⟨_, ⟨_, _, Hp.set_same _ _ _, Nat.le_refl _, rfl⟩, ?_⟩
      refine Acc.app (hacc.set htb'.1 _) (tx_one [x]) (tx_flat [x]) (by rw [tx_len]; unfold capMax; simp; omega) (by rw [tx_len]; unfold capMax; simp; omega) fun v' H' ha' _ _ => ?_
      refine s_nat (k + 1) (by omega) (by omega) ?_
      refine ⟨(H', v'), by omega, ⟨by omega, ?_⟩, rfl, rfl, rfl, rfl, rfl, rfl, rfl, rfl, trivial⟩
      have ha2 : Acc Ts h H' v' (tx ((a.take k).filter (cov b)) ++ tx [x]) := ha'
      rw [st, tx_app]; exact ha2
    · rw [if_neg (by rw [show cov b x = false from h2]; simp), List.append_nil] at st
      refine s_nat (k + 1) (by omega) (by omega) ?_
      refine ⟨(H, v), by omega, ⟨by omega, ?_⟩, rfl, rfl, rfl, rfl, rfl, rfl, rfl, rfl, trivial⟩
      rw [st]; exact hacc
  have hka : a.take k = a := List.take_of_length_le (by omega)
  rw [hka] at hacc
  clear hfl h1 hk hka
  refine s_loop b.length (fun k (s : Hp × AV) => k ≤ b.length ∧ Acc Ts h s.1 s.2 (tx (a.filter (cov b) ++ (b.take k).filter (cov a)))) (fun k s => [(0, .isl ga (tx a)), (1, .isl gb (tx b)), (5, s.2), (24, .isl gb (tx b)), (25, .int .i64 (tx b).length), (26, .int .i64 k)])
    (fun _ s => s.1) (H, v) ⟨Nat.zero_le _, by simpa using hacc⟩ rfl rfl ⟨rfl, rfl, rfl, rfl, rfl, rfl, trivial⟩ (fun k s hI => hI.1) ?_
  clear hacc
  rintro k ⟨H, v⟩ n0 g0 hk ⟨_, hacc⟩
  simp only at hacc
  have hfl1 : (a.filter (cov b)).length ≤ a.length := List.length_filter_le _ _
  have hfl : ((b.take k).filter (cov a)).length ≤ b.length := Nat.le_trans (List.length_filter_le _ _) (by rw [List.length_take]; omega)
  refine s_lt (fun h1 => ?_) (fun h1 => ?_)
  · obtain ⟨x, hx⟩ := get_lt (l := b) (k := k) (by omega)
    refine s_at k x rfl hx rfl (by decide) ?_
    refine ⟨_, rfl, ?_⟩
    have st : (b.take (k + 1)).filter (cov a) = (b.take k).filter (cov a) ++ if cov a x = true then [x] else [] := by
      rw [List.take_succ_of_get hx, List.filter_append]; cases h : cov a x <;> simp [h]
    refine (Covers_L ga a x (by omega)).useC (fun h2 => ?_) (fun h2 => ?_)
    · rw [if_pos (show cov _ x = true from h2)] at st
      refine ⟨_, rfl, fun tb htb' => ?_⟩
      refine ⟨_, ⟨_, _, Hp.set_same _ _ _, Nat.le_refl _, rfl⟩, ?_⟩
      refine Acc.app (hacc.set htb'.1 _) (tx_one [x]) (tx_flat [x]) (by rw [tx_len]; unfold capMax; simp; omega) (by rw [tx_len]; unfold capMax; simp; omega) fun v' H' ha' _ _ => ?_
      refine s_nat (k + 1) (by omega) (by omega) ?_
      refine ⟨(H', v'), by omega, ⟨by omega, ?_⟩, rfl, rfl, rfl, rfl, rfl, rfl, rfl, rfl, trivial⟩
      have ha2 : Acc Ts h H' v' (tx (a.filter (cov b) ++ (b.take k).filter (cov a)) ++ tx [x]) := ha'
      rw [st, ← List.append_assoc, tx_app]; exact ha2
    · rw [if_neg (by rw [show cov a x = false from h2]; simp), List.append_nil] at st
      refine s_nat (k + 1) (by omega) (by omega) ?_
      refine ⟨(H, v), by omega, ⟨by omega, ?_⟩, rfl, rfl, rfl, rfl, rfl, rfl, rfl, rfl, trivial⟩
      rw [st]; exact hacc
  have hkb : b.take k = b := List.take_of_length_le (by omega)
  rw [hkb] at hacc
  obtain ⟨both, hboth⟩ : ∃ both, both = a.filter (cov b) ++ b.filter (cov a) := ⟨_, rfl⟩
  have hbl2 : both.length ≤ 2000 := by
    rw [hboth, List.length_append]
    have := List.length_filter_le (cov a) b
    omega
  rw [← hboth] at hacc ⊢
  have hgr := hacc.1
  refine (CallL.lentOwn (args := [v]) (h := H) (args' := [.isl 1 (tx both)]) ⟨rfl, fun q u u' h1 h2 => ?_⟩ (Normal_L 1 both Hp.nil (by omega) fun p hpm => ?_) (fun b => tx_ren _ b) (m0ss_tx _)).mono ?_
  · cases q with
    | zero => cases h1; cases h2; exact hacc.fz (noidss_tx _ _)
    | succ q => simp at h1
  · rw [hboth] at hpm
    rcases List.mem_append.1 hpm with hm | hm
    · exact hp p (List.mem_append_left _ (List.mem_filter.1 hm).1)
    · exact hp p (List.mem_append_right _ (List.mem_filter.1 hm).1)
  rintro r h' hr
  have hr' := hr.after hgr
  rcases hr.2 with ⟨rfl, _⟩ | ⟨_, _, rfl, _⟩
  · exact ⟨rfl, hr'⟩
  · exact ⟨rfl, hr'⟩
end Go.Proofs.YtibdeeejjbmgcaaGreatDoor

/-
  Contracts: how much texts are; masks' functions as pure ones.
-/
namespace Go.Proofs.YtibdeeejjbmgcaaGreatDoor
open Go.L

/-- How much texts are. -/
def mstep (n : Int) (s : Str) : Int := if 120000 < s.length then 4194305 else n + 16 + s.length
def msum : List Str → Int → Int
  | [], n => n
  | s :: r, n => if n ≤ 4194304 then msum r (mstep n s) else n
def manyB (a b : List Str) : Bool := decide (4194304 < msum b (msum a 0)) || decide (400 < a.length) || decide (400 < b.length)

theorem msum_big : ∀ (l : List Str) (n : Int), 4194304 < n → msum l n = n
  | [], _, _ => rfl
  | s :: r, n, h => by rw [msum, if_neg (by omega)]
theorem msum_nonneg : ∀ (l : List Str) (n : Int), 0 ≤ n → 0 ≤ msum l n
  | [], _, h => h
  | s :: r, n, h => by
    rw [msum]; split
    · exact msum_nonneg r _ (by unfold mstep; split <;> omega)
    · exact h
theorem msum_small : ∀ (l : List Str) (n : Int), msum l n ≤ 4194304 → n ≤ 4194304 ∧ ∀ s ∈ l, s.length ≤ 120000
  | [], n, h => ⟨h, fun _ h => by cases h⟩
  | s :: r, n, h => by
    rw [msum] at h
    split at h
    · rename_i hn
      obtain ⟨h1, h2⟩ := msum_small r _ h
      refine ⟨hn, fun t ht => ?_⟩
      rcases List.mem_cons.1 ht with rfl | ht
      · unfold mstep at h1
        split at h1 <;> omega
      · exact h2 t ht
    · omega
theorem many_small {a b : List Str} (h : manyB a b = false) : (a.length ≤ 400 ∧ ∀ s ∈ a, s.length ≤ 120000) ∧ (b.length ≤ 400 ∧ ∀ s ∈ b, s.length ≤ 120000) := by
  simp only [manyB, Bool.or_eq_false_iff, decide_eq_false_iff_not] at h
  obtain ⟨h1, h2⟩ := msum_small b (msum a 0) (by omega)
  obtain ⟨_, h3⟩ := msum_small a _ h1
  exact ⟨⟨by omega, h3⟩, by omega, h2⟩

theorem drop_get {α : Type} {l : List α} {k : Nat} {x : α} (h : l[k]? = some x) : l.drop k = x :: l.drop (k + 1) := by
  obtain ⟨h1, h2⟩ := List.getElem?_eq_some_iff.1 h
  rw [List.drop_eq_getElem_cons h1, h2]

theorem many_L (ga gb : Nat) (a b : List Str) (ha : a.length ≤ 1000000000000000) (hb : b.length ≤ 1000000000000000) (hal : ∀ s ∈ a, s.length ≤ 1000000000000000) (hbl : ∀ s ∈ b, s.length ≤ 1000000000000000) :
    PureL Tryz.prog F_lexiconlaw16_many [.isl ga (tx a), .isl gb (tx b)] (.bool (manyB a b)) := by
  intro h
  have hta := tx_len a
  have htb := tx_len b
  refine K_lexiconlaw16_many (md := false) ?_
  refine s_blk (fun e' h' => ∃ n : Int, 0 ≤ n ∧ n ≤ 5000000000000000 ∧ n = msum a 0 ∧ h' = h ∧ e'.ds = [] ∧ Has e' [(0, .isl ga (tx a)), (1, .isl gb (tx b)), (5, .int .i64 n)]) ?_ ?_
  · refine s_loop a.length (fun k (n : Int) => k ≤ a.length ∧ 0 ≤ n ∧ n ≤ 5000000000000000 ∧ msum (a.drop k) n = msum a 0) (fun k n => [(0, .isl ga (tx a)), (1, .isl gb (tx b)), (5, .int .i64 n), (6, .int .i64 k)]) (fun _ _ => h) 0 ⟨Nat.zero_le _, by decide, by decide, rfl⟩ rfl rfl ⟨rfl, rfl, rfl, rfl, trivial⟩ (fun k s hI => hI.1) ?_
    rintro k n n0 g0 hk ⟨_, hn0, hn1, hm⟩
    refine s_lt (fun h1 => ?_) (fun h1 => ?_)
    · obtain ⟨x, hx⟩ := get_lt (l := a) (k := k) (by omega)
      have hxl := hal x (List.mem_of_getElem? hx)
      refine s_le (fun h2 => ?_) (fun h2 => ?_)
      · rw [drop_get hx, msum, if_pos h2] at hm
        refine s_64 (by omega) (by omega) ?_
        refine s_at k x rfl hx rfl (by decide) ?_
        refine ⟨_, rfl, ?_⟩
        refine s_64 (by omega) (by omega) ?_
        refine s_at k x rfl hx rfl (by decide) ?_
        refine ⟨_, rfl, ?_⟩
        refine s_lt (fun h3 => ?_) (fun h3 => ?_)
        · refine s_nat (k + 1) (by omega) (by omega) ?_
          rw [mstep, if_pos (by omega)] at hm
          exact ⟨4194305, by omega, ⟨by omega, by decide, by decide, hm⟩, rfl, rfl, rfl, rfl, rfl, rfl, trivial⟩
        · refine s_nat (k + 1) (by omega) (by omega) ?_
          rw [mstep, if_neg (by omega)] at hm
          exact ⟨n + 16 + x.length, by omega, ⟨by omega, by omega, by omega, hm⟩, rfl, rfl, rfl, rfl, rfl, rfl, trivial⟩
      · rw [msum_big _ _ h2] at hm
        exact ⟨n, hn0, hn1, hm, rfl, rfl, rfl, rfl, rfl, trivial⟩
    · rw [List.drop_of_length_le (by omega)] at hm
      exact ⟨n, hn0, hn1, hm, rfl, rfl, rfl, rfl, rfl, trivial⟩
  rintro e' h' ⟨m1, hm0, hm1, hma, rfl, hd, hs⟩
  obtain ⟨n0, g0, rfl⟩ := hs.out hd
  refine s_blk (fun e' h2 => ∃ n : Int, n = msum b m1 ∧ h2 = h' ∧ e'.ds = [] ∧ Has e' [(0, .isl ga (tx a)), (1, .isl gb (tx b)), (5, .int .i64 n)]) ?_ ?_
  · refine s_loop b.length (fun k (n : Int) => k ≤ b.length ∧ 0 ≤ n ∧ n ≤ 5000000000000000 ∧ msum (b.drop k) n = msum b m1) (fun k n => [(0, .isl ga (tx a)), (1, .isl gb (tx b)), (5, .int .i64 n), (7, .int .i64 k)]) (fun _ _ => h') m1 ⟨Nat.zero_le _, hm0, hm1, rfl⟩ rfl rfl ⟨rfl, rfl, rfl, rfl, trivial⟩ (fun k s hI => hI.1) ?_
    rintro k n n0 g0 hk ⟨_, hn0, hn1, hm⟩
    refine s_lt (fun h1 => ?_) (fun h1 => ?_)
    · obtain ⟨x, hx⟩ := get_lt (l := b) (k := k) (by omega)
      have hxl := hbl x (List.mem_of_getElem? hx)
      refine s_le (fun h2 => ?_) (fun h2 => ?_)
      · rw [drop_get hx, msum, if_pos h2] at hm
        refine s_64 (by omega) (by omega) ?_
        refine s_at k x rfl hx rfl (by decide) ?_
        refine ⟨_, rfl, ?_⟩
        refine s_64 (by omega) (by omega) ?_
        refine s_at k x rfl hx rfl (by decide) ?_
        refine ⟨_, rfl, ?_⟩
        refine s_lt (fun h3 => ?_) (fun h3 => ?_)
        · refine s_nat (k + 1) (by omega) (by omega) ?_
          rw [mstep, if_pos (by omega)] at hm
          exact ⟨4194305, by omega, ⟨by omega, by decide, by decide, hm⟩, rfl, rfl, rfl, rfl, rfl, rfl, trivial⟩
        · refine s_nat (k + 1) (by omega) (by omega) ?_
          rw [mstep, if_neg (by omega)] at hm
          exact ⟨n + 16 + x.length, by omega, ⟨by omega, by omega, by omega, hm⟩, rfl, rfl, rfl, rfl, rfl, rfl, trivial⟩
      · rw [msum_big _ _ h2] at hm
        exact ⟨n, hm, rfl, rfl, rfl, rfl, rfl, trivial⟩
    · rw [List.drop_of_length_le (by omega)] at hm
      exact ⟨n, hm, rfl, rfl, rfl, rfl, rfl, trivial⟩
  rintro e' h2 ⟨n, rfl, rfl, hd, hs⟩
  obtain ⟨n0, g0, rfl⟩ := hs.out hd
  have fin : ∀ t : Bool, t = manyB a b → Res.ret (.bool t) = .ret (.bool (manyB a b)) := fun t ht => by rw [ht]
  refine s_lt (fun h1 => ?_) (fun h1 => ?_)
  · exact ⟨rfl, fin _ (by rw [manyB, ← hma, decide_eq_true h1]; rfl), rfl⟩
  refine s_lt (fun h3 => ?_) (fun h3 => ?_)
  · exact ⟨rfl, fin _ (by rw [manyB, decide_eq_true (show 400 < a.length by omega)]; simp), rfl⟩
  refine s_b ?_
  refine ⟨rfl, fin _ ?_, rfl⟩
  rw [manyB, ← hma, decide_eq_false (show ¬ (4194304 : Int) < msum b m1 by omega), decide_eq_false (show ¬ 400 < a.length by omega)]
  show _ = decide (400 < b.length)
  rw [decide_eq_decide]
  show (400 : Int) < ((tx b).length : Nat) ↔ _
  omega

theorem Fz.one {g tb : Nat} {h : Hp} {T : Nat} {x : Str} (hb : h tb = some (.row T [el x])) : Fz anyMark g h (.slc tb 0 1 (some 1)) (.isl g (tx [x])) := by
  refine .slc tb 0 1 _ T _ _ hb (Nat.le_refl _) rfl (fun k cs cs' h1 h2 => ?_) (fun k cs cs' q u u' h1 h2 h3 h4 => ?_)
  · match k with
    | 0 => cases h1; cases h2; rfl
    | k + 1 => simp at h2
  · match k with
    | 0 =>
      cases h1; cases h2; rw [h3] at h4; cases h4
      match q with
      | 0 => cases h3; exact .same _ rfl
      | q + 1 => simp [el] at h3
    | k + 1 => simp at h2

theorem noids_texts (p : Nat → Bool) (hp : ∀ g, p g = true) : ∀ l : List (Nat × List Str), noids p (l.map fun x => .isl x.1 (tx x.2)) = true
  | [] => rfl
  | x :: l => by
    have := noids_texts p hp l
    show (noid p (.isl x.1 (tx x.2)) && noids p (l.map fun x => .isl x.1 (tx x.2))) = true
    rw [noid_isl p x.1 x.2 (hp _), this]; rfl
theorem OwnB.pure {f : FuncId} {args : List AV} {l : List Str} (ha : noids anyMark args = true) (k : CallL Tryz.prog f args Hp.nil fun r h' => OwnB Ts Hp.nil h' r (tx l)) : PureL Tryz.prog f args (.isl 0 (tx l)) :=
  PureL.nil ha (k.mono fun r h1 hr => by
    obtain ⟨u, rfl⟩ := hr.ret
    exact ⟨u, rfl, hr.fz (noidss_tx _ _)⟩)
theorem Union_P (ga gb : Nat) (a b : List Str) (ha : a.length ≤ 1000) (hb : b.length ≤ 1000) (hp : ∀ p ∈ a ++ b, p.length ≤ 1000000000000000) : PureL Tryz.prog F_mask_Union [.isl ga (tx a), .isl gb (tx b)] (.isl 0 (tx (normal (a ++ b)))) :=
  OwnB.pure (noids_texts anyMark (fun _ => rfl) [(ga, a), (gb, b)]) (Union_L ga gb a b Hp.nil ha hb hp)
theorem Meet_P (ga gb : Nat) (a b : List Str) (ha : a.length ≤ 1000) (hb : b.length ≤ 1000) (hp : ∀ p ∈ a ++ b, p.length ≤ 1000000000000000) : PureL Tryz.prog F_mask_Meet [.isl ga (tx a), .isl gb (tx b)] (.isl 0 (tx (normal (a.filter (cov b) ++ b.filter (cov a))))) :=
  OwnB.pure (noids_texts anyMark (fun _ => rfl) [(ga, a), (gb, b)]) (Meet_L ga gb a b Hp.nil ha hb hp)
theorem Normal_P (g : Nat) (l : List Str) (hl : l.length ≤ 1000000000000) (hp : ∀ p ∈ l, p.length ≤ 1000000000000000) : PureL Tryz.prog F_mask_Normal [.isl g (tx l)] (.isl 0 (tx (normal l))) :=
  OwnB.pure (noids_texts anyMark (fun _ => rfl) [(g, l)]) (Normal_L g l Hp.nil hl hp)

end Go.Proofs.YtibdeeejjbmgcaaGreatDoor

/-
  Contracts: the document's names and paths; lists of texts.
-/
namespace Go.Proofs.YtibdeeejjbmgcaaGreatDoor
open Go.L

theorem in_L (c : UInt8) (a b : Nat) : PureL Tryz.prog F_lexiconref02_in [.int .u8 c.toNat, .int .u8 a, .int .u8 b] (.bool (inR a b c.toNat)) := by
  intro h
  refine K_lexiconref02_in (md := false) ?_
  refine s_le (fun h1 => ?_) (fun h1 => ?_)
  · refine s_le (fun h2 => ?_) (fun h2 => ?_)
    · exact ⟨rfl, Res.bool_eq (inR_t h1 h2), rfl⟩
    · exact ⟨rfl, Res.bool_eq (inR_f2 h2), rfl⟩
  · exact ⟨rfl, Res.bool_eq (inR_f1 h1), rfl⟩
theorem rsmall_L (c : UInt8) : PureL Tryz.prog F_lexiconref02_small [.int .u8 c.toNat] (.bool (smallC c)) := fun h =>
  K_lexiconref02_small (md := false) ((in_L c 97 122).use ⟨rfl, rfl, rfl⟩)
theorem rcap_L (c : UInt8) : PureL Tryz.prog F_lexiconref02_capital [.int .u8 c.toNat] (.bool (capC c)) := fun h =>
  K_lexiconref02_capital (md := false) ((in_L c 65 90).use ⟨rfl, rfl, rfl⟩)
theorem rdigit_L (c : UInt8) : PureL Tryz.prog F_lexiconref02_digit [.int .u8 c.toNat] (.bool (digitC c)) := fun h =>
  K_lexiconref02_digit (md := false) ((in_L c 48 57).use ⟨rfl, rfl, rfl⟩)
theorem letter_L (c : UInt8) : PureL Tryz.prog F_lexiconref02_letter [.int .u8 c.toNat] (.bool (smallC c || capC c || c == 95)) := by
  intro h
  refine K_lexiconref02_letter (md := false) ?_
  refine (rsmall_L c).useC (fun h1 => ?_) (fun h1 => ?_)
  · exact ⟨rfl, Res.bool_eq (by rw [h1]; rfl), rfl⟩
  refine (rcap_L c).useC (fun h2 => ?_) (fun h2 => ?_)
  · exact ⟨rfl, Res.bool_eq (by rw [h1, h2]; rfl), rfl⟩
  refine s_b ?_
  exact ⟨rfl, Res.bool_eq (by rw [h1, h2]; exact byte_eq c 95), rfl⟩

theorem rIdent_L (s : Str) (hs : s.length ≤ 1000000000000000) : PureL Tryz.prog F_lexiconref02_Ident [.str s] (.bool (ident s)) := by
  intro h
  refine K_lexiconref02_Ident (md := false) ?_
  refine s_eq (fun h1 => ?_) (fun h1 => ?_)
  · have : s = [] := List.eq_nil_of_length_eq_zero (by omega)
    exact ⟨rfl, Res.bool_eq (by rw [this]; rfl), rfl⟩
  refine s_lt (fun h2 => ?_) (fun h2 => ?_)
  · exact ⟨rfl, Res.bool_eq (ident_long h2), rfl⟩
  obtain ⟨c, hc⟩ := get_lt (l := s) (k := 0) (by omega)
  refine s_loop s.length (fun k (_ : Unit) => k ≤ s.length ∧ (∀ (j : Nat) (x : UInt8), j < k → s[j]? = some x → identC x = true) ∧ (0 < k → digitC c = false)) (fun k _ => [(0, .str s), (3, .int .i64 k)]) (fun _ _ => h) ()
    ⟨Nat.zero_le _, fun j x hj => by omega, fun h => by omega⟩ rfl rfl ⟨rfl, rfl, trivial⟩ (fun k s hI => hI.1) ?_
  intro k _ n0 g0 hk ⟨_, hall, hd⟩
  refine s_lt (fun h4 => ?_) (fun h4 => ?_)
  · obtain ⟨x, hx⟩ := get_lt (l := s) (k := k) (by omega)
    refine s_byte k x rfl hx ?_
    have first : k = 0 → x = c := fun e => by subst e; rw [hc] at hx; cases hx; rfl
    refine (letter_L x).useC (fun a1 => ?_) (fun a1 => ?_)
    · have hi : identC x = true := by
        simp only [identC]; revert a1
        cases smallC x <;> cases capC x <;> cases digitC x <;> simp
      refine s_byte k x rfl hx ?_
      have hdx : 0 < k + 1 → digitC c = false := fun _ => by
        by_cases e : k = 0
        · rw [← first e, Bool.eq_false_iff]
          intro hdig
          simp only [digitC, inR, smallC, capC, Bool.and_eq_true, Bool.or_eq_true, Nat.ble_eq, beq_iff_eq] at hdig a1
          rcases a1 with (a1 | a1) | a1
          · omega
          · omega
          · subst a1; exact absurd hdig.2 (by decide)
        · exact hd (by omega)
      refine (rdigit_L x).useC (fun a2 => ?_) (fun a2 => ?_)
      · refine s_nat (k + 1) (by omega) (by omega) ?_
        exact ⟨(), by omega, ⟨by omega, all_step hall hx hi, hdx⟩, rfl, rfl, rfl, rfl, trivial⟩
      · refine s_nat (k + 1) (by omega) (by omega) ?_
        exact ⟨(), by omega, ⟨by omega, all_step hall hx hi, hdx⟩, rfl, rfl, rfl, rfl, trivial⟩
    · refine s_byte k x rfl hx ?_
      refine (rdigit_L x).useC (fun a2 => ?_) (fun a2 => ?_)
      · refine s_eq (fun h5 => ?_) (fun h5 => ?_)
        · exact ⟨rfl, Res.bool_eq (ident_dig hc (by rw [← first (by omega)]; exact a2)), rfl⟩
        · refine s_nat (k + 1) (by omega) (by omega) ?_
          exact ⟨(), by omega, ⟨by omega, all_step hall hx (by simp [identC, a2]), fun _ => hd (by omega)⟩, rfl, rfl, rfl, rfl, trivial⟩
      · refine ⟨rfl, Res.bool_eq (ident_bad hx ?_), rfl⟩
        simp only [identC]; revert a1 a2
        cases smallC x <;> cases capC x <;> cases digitC x <;> simp
  · exact ⟨rfl, Res.bool_eq (ident_of hc (by omega) (hd (by omega)) fun j x hj => hall j x (by omega)).symm, rfl⟩

theorem rPath_L (s : Str) (hs : s.length ≤ 1000000000000000) : PureL Tryz.prog F_lexiconref16_Path [.str s] (.bool (isPath s)) := by
  intro h
  refine K_lexiconref16_Path (md := false) ?_
  refine s_loop (s.length + 1) (fun k (st : Nat × List Str) => (k ≤ s.length ∧ Cut 46 s st.1 k st.2 ∧ st.2.all ident = true) ∨ (k = s.length + 1 ∧ isPath s = true)) (fun k st => [(0, .str s), (3, .int .i64 st.1), (4, .int .i64 k)]) (fun _ _ => h) (0, [])
    (.inl ⟨Nat.zero_le _, Cut.start _ _, rfl⟩) rfl rfl ⟨rfl, rfl, rfl, trivial⟩ (fun k s hI => by omega) ?_
  rintro k ⟨fr, d⟩ n0 g0 hk hI
  have seg := cut_len s fr k
  refine s_le (fun h1 => ?_) (fun h1 => ?_)
  · rcases hI with ⟨hk1, hc, hd⟩ | ⟨hk1, _⟩
    · simp only at hc hd
      have hle := hc.le
      refine s_lt (fun h2 => ?_) (fun h2 => ?_)
      · obtain ⟨x, hx⟩ := get_lt (l := s) (k := k) (by omega)
        refine s_byte k x rfl hx ?_
        refine s_ne (fun h3 => ?_) (fun h3 => ?_)
        · refine s_nat (k + 1) (by omega) (by omega) ?_
          exact ⟨(fr, d), by omega, .inl ⟨by omega, hc.step hx (byte_ne (d := 46) h3), hd⟩, rfl, rfl, rfl, rfl, rfl, trivial⟩
        · obtain rfl : x = 46 := byte_is h3
          refine ⟨k, rfl, fr, rfl, hle, by omega, ?_⟩
          refine (rIdent_L _ (by omega)).useC (fun h4 => ?_) (fun h4 => ?_)
          · refine s_nat (k + 1) (by omega) (by omega) ?_
            refine s_nat (k + 1) (by omega) (by omega) ?_
            exact ⟨(k + 1, d ++ [(s.take k).drop fr]), by omega, .inl ⟨by omega, hc.cut hx, all_snoc hd h4⟩, rfl, rfl, rfl, rfl, rfl, trivial⟩
          · exact ⟨rfl, Res.bool_eq (all_no (hc.mem (.inr hx)) h4).symm, rfl⟩
      · refine ⟨k, rfl, fr, rfl, hle, by omega, ?_⟩
        refine (rIdent_L _ (by omega)).useC (fun h4 => ?_) (fun h4 => ?_)
        · refine s_nat (k + 1) (by omega) (by omega) ?_
          refine s_nat (k + 1) (by omega) (by omega) ?_
          refine ⟨(k + 1, d), by omega, .inr ⟨by omega, ?_⟩, rfl, rfl, rfl, rfl, rfl, trivial⟩
          rw [isPath, hc.fin (by omega)]; exact all_snoc hd h4
        · exact ⟨rfl, Res.bool_eq (all_no (hc.mem (.inl (by omega))) h4).symm, rfl⟩
    · omega
  · rcases hI with ⟨hk1, _⟩ | ⟨_, hp⟩
    · omega
    · exact ⟨rfl, Res.bool_eq hp.symm, rfl⟩

theorem covers1_L (p q : Str) (hp : p.length ≤ 1000000000000000) (hq : q.length ≤ 1000000000000000) : PureL Tryz.prog F_lexiconref16_Covers1 [.str p, .str q] (.bool (covers p q)) := by
  intro h
  refine K_lexiconref16_Covers1 (md := false) ?_
  refine s_seq (fun h1 => ?_) (fun h1 => ?_)
  · subst h1; exact ⟨rfl, Res.bool_eq (covers_refl p).symm, rfl⟩
  have no : ¬ p ++ [46] <+: q → false = covers p q := fun hn => by
    symm; rw [Bool.eq_false_iff]
    intro hc
    rcases covers_iff.1 hc with e | e
    · exact h1 e
    · exact hn e
  refine s_lt (fun h2 => ?_) (fun h2 => ?_)
  · refine ⟨p.length, rfl, Nat.zero_le _, by omega, ?_⟩
    refine s_seq (fun h3 => ?_) (fun h3 => ?_)
    · obtain ⟨x, hx⟩ := get_lt (l := q) (k := p.length) (by omega)
      refine s_byte p.length x rfl hx ?_
      refine s_eq (fun h4 => ?_) (fun h4 => ?_)
      · obtain rfl : x = 46 := byte_is h4
        refine ⟨rfl, Res.bool_eq ?_, rfl⟩
        symm; refine covers_iff.2 (.inr ?_)
        rw [List.drop_zero] at h3
        have e := List.take_succ_of_get hx
        rw [h3] at e
        rw [← e]; exact List.take_prefix _ _
      · refine ⟨rfl, Res.bool_eq (no ?_), rfl⟩
        rintro ⟨r, rfl⟩
        rw [List.append_assoc, List.getElem?_append_right (Nat.le_refl _), Nat.sub_self] at hx
        cases hx; exact h4 rfl
    · refine ⟨rfl, Res.bool_eq (no ?_), rfl⟩
      rintro ⟨r, rfl⟩
      rw [List.drop_zero, List.append_assoc, List.take_left] at h3; exact h3 rfl
  · refine ⟨rfl, Res.bool_eq (no ?_), rfl⟩
    rintro ⟨r, rfl⟩
    simp at h2; omega

theorem rCovers_L (g : Nat) (l : List Str) (q : Str) (hl : l.length ≤ 1000000000000) (hp : ∀ s ∈ l, s.length ≤ 1000000000000000) (hq : q.length ≤ 1000000000000000) :
    PureL Tryz.prog F_lexiconref16_Covers [.isl g (tx l), .str q] (.bool (cov l q)) := by
  intro h
  have htl := tx_len l
  refine K_lexiconref16_Covers (md := false) ?_
  refine s_loop l.length (fun k (_ : Unit) => k ≤ l.length ∧ ∀ (j : Nat) (x : Str), j < k → l[j]? = some x → covers x q = false) (fun k _ => [(0, .isl g (tx l)), (1, .str q), (5, .int .i64 k)]) (fun _ _ => h) ()
    ⟨Nat.zero_le _, fun j x hj => by omega⟩ rfl rfl ⟨rfl, rfl, rfl, trivial⟩ (fun k s hI => hI.1) ?_
  intro k _ n0 g0 hk ⟨_, hall⟩
  refine s_lt (fun h1 => ?_) (fun h1 => ?_)
  · obtain ⟨x, hx⟩ := get_lt (l := l) (k := k) (by omega)
    have hm := List.mem_of_getElem? hx
    refine s_at k x rfl hx rfl (by decide) ?_
    refine ⟨_, rfl, ?_⟩
    refine (covers1_L x q (hp x hm) hq).useC (fun h2 => ?_) (fun h2 => ?_)
    · exact ⟨rfl, Res.bool_eq (cov_iff.2 ⟨x, hm, h2⟩).symm, rfl⟩
    · refine s_nat (k + 1) (by omega) (by omega) ?_
      exact ⟨(), by omega, ⟨by omega, idx_step (p := fun x => covers x q) hall hx h2⟩, rfl, rfl, rfl, rfl, rfl, trivial⟩
  · refine ⟨rfl, Res.bool_eq ?_, rfl⟩
    symm; rw [Bool.eq_false_iff]
    intro hc
    obtain ⟨x, hx, h2⟩ := cov_iff.1 hc
    obtain ⟨j, hj⟩ := List.getElem?_of_mem hx
    rw [hall j x (by have := (List.getElem?_eq_some_iff.1 hj).1; omega) hj] at h2; cases h2

theorem same_L (ga gb : Nat) (a b : List Str) (ha : a.length ≤ 1000000000000) (hb : b.length ≤ 1000000000000) : PureL Tryz.prog F_lexiconref00_SameTexts [.isl ga (tx a), .isl gb (tx b)] (.bool (a == b)) := by
  intro h
  have hta := tx_len a
  have htb := tx_len b
  refine K_lexiconref00_SameTexts (md := false) ?_
  have no : a ≠ b → false = (a == b) := fun h => by symm; rw [beq_eq_false_iff_ne]; exact h
  refine s_ne (fun h1 => ?_) (fun h1 => ?_)
  · exact ⟨rfl, Res.bool_eq (no fun e => h1 (by rw [e])), rfl⟩
  refine s_loop a.length (fun k (_ : Unit) => k ≤ a.length ∧ ∀ (j : Nat), j < k → a[j]? = b[j]?) (fun k _ => [(0, .isl ga (tx a)), (1, .isl gb (tx b)), (5, .int .i64 k)]) (fun _ _ => h) ()
    ⟨Nat.zero_le _, fun j hj => by omega⟩ rfl rfl ⟨rfl, rfl, rfl, trivial⟩ (fun k s hI => hI.1) ?_
  intro k _ n0 g0 hk ⟨_, hall⟩
  refine s_lt (fun h2 => ?_) (fun h2 => ?_)
  · obtain ⟨x, hx⟩ := get_lt (l := a) (k := k) (by omega)
    obtain ⟨y, hy⟩ := get_lt (l := b) (k := k) (by omega)
    refine s_at k x rfl hx rfl (by decide) ?_
    refine ⟨_, rfl, ?_⟩
    refine s_at k y rfl hy rfl (by decide) ?_
    refine ⟨_, rfl, ?_⟩
    refine s_sne (fun h3 => ?_) (fun h3 => ?_)
    · refine ⟨rfl, Res.bool_eq (no fun e => h3 ?_), rfl⟩
      subst e; rw [hx] at hy; cases hy; rfl
    · refine s_nat (k + 1) (by omega) (by omega) ?_
      refine ⟨(), by omega, ⟨by omega, fun j hj => ?_⟩, rfl, rfl, rfl, rfl, rfl, trivial⟩
      by_cases e : j = k
      · subst e; rw [hx, hy, h3]
      · exact hall j (by omega)
  · refine ⟨rfl, Res.bool_eq ?_, rfl⟩
    symm; rw [beq_iff_eq]
    refine List.ext_getElem? fun j => ?_
    rcases Nat.lt_or_ge j k with hj | hj
    · exact hall j hj
    · rw [List.getElem?_eq_none (by omega), List.getElem?_eq_none (by omega)]
end Go.Proofs.YtibdeeejjbmgcaaGreatDoor

/-
  Contracts: lists of texts that are lent; the book of lists.
-/
namespace Go.Proofs.YtibdeeejjbmgcaaGreatDoor
open Go.L

abbrev Tl : TypeId := 22

theorem Fz_tx {g i T : Nat} {h : Hp} {l : List Str} {rest : List (List AV)} {c : Option Nat} (hi : h i = some (.row T (tx l ++ rest))) : Fz anyMark g h (.slc i 0 l.length c) (.isl g (tx l)) := by
  have get : ∀ (k : Nat) (cs cs' : List AV), (tx l ++ rest)[0 + k]? = some cs → (tx l)[k]? = some cs' → cs' = cs := fun k cs cs' h1 h2 => by
    rw [Nat.zero_add, List.getElem?_append_left (List.getElem?_eq_some_iff.1 h2).1, h2] at h1; cases h1; rfl
  refine .slc i 0 l.length _ T _ _ hi (by rw [List.length_append, tx_len]; omega) (tx_len l) (fun k cs cs' h1 h2 => by rw [get k cs cs' h1 h2]) (fun k cs cs' q u u' h1 h2 h3 h4 => ?_)
  obtain rfl := get k cs cs' h1 h2
  rw [h3] at h4; cases h4
  exact .same _ (noidss_get (noidss_tx anyMark l) k cs' q u h2 h3)

def own : Str := [116, 104, 101, 32, 111, 119, 110, 101, 114, 39, 115]
def spoilt : Str := [115, 112, 111, 105, 108, 116]

theorem LentTexts_L (g : Nat) (l : List Str) (h : Hp) (hl : l.length ≤ 1000000) :
    CallL Tryz.prog F_lexiconref00_LentTexts [.isl g (tx l)] h fun r h' => ∃ i, r = .ret (.slc i 0 l.length (some (l.length + 2))) ∧ h.u i = false ∧ Gr h h' ∧ h' i = some (.row Ts (tx (l ++ [own, own]))) := by
  have htl := tx_len l
  refine K_lexiconref00_LentTexts (md := false) ?_
  refine s_nat (l.length + 2) (by omega) (by omega) ?_
  refine ⟨0, l.length + 2, rfl, rfl, Nat.zero_le _, by unfold capMax; omega, by unfold capMax; omega, fun i hi => ?_⟩
  have hrep : (List.replicate (l.length + 2) [AV.str []]).length = l.length + 2 := List.length_replicate
  refine ⟨tx l, rfl, tx_one _, _, Hp.set_same _ _ _, Nat.zero_le _, tx_flat _, .inl ⟨by omega, by rw [hrep]; omega, ?_⟩⟩
  refine ⟨_, rfl, fun tb htb => ?_⟩
  have hne : i ≠ tb := fun e => by
    have := htb.1
    rw [← e, Hp.set_u, if_pos rfl] at this; cases this
  have e1 : (List.replicate (l.length + 2) [AV.str []]).take (0 + 0) ++ tx l ++ (List.replicate (l.length + 2) [AV.str []]).drop (0 + 0 + (tx l).length) = tx l ++ [[.str []], [.str []]] := by
    rw [htl, List.drop_replicate, show l.length + 2 - (0 + 0 + l.length) = 2 by omega]; rfl
  refine ⟨tx [own, own], ⟨_, _, Hp.set_same _ _ _, Nat.le_refl _, rfl⟩, tx_one _, _, (Hp.set_ne hne).trans (Hp.set_same _ _ _), by rw [e1, List.length_append]; omega, tx_flat _, .inl ⟨?_, ?_, ?_⟩⟩
  · rw [Nat.zero_add, htl]; exact Nat.le_refl _
  · rw [e1, List.length_append, Nat.zero_add, Nat.zero_add]; exact Nat.le_refl _
  have e2 : (tx l ++ [[AV.str []], [.str []]]).take (0 + (0 + (tx l).length)) ++ tx [own, own] ++ (tx l ++ [[AV.str []], [.str []]]).drop (0 + (0 + (tx l).length) + (tx [own, own]).length) = tx (l ++ [own, own]) := by
    rw [Nat.zero_add, Nat.zero_add, List.take_left, List.drop_of_length_le (by rw [List.length_append]; exact Nat.le_refl _), List.append_nil, tx_app]
  rw [e1, e2]
  refine ⟨⟨_, Hp.set_same _ _ _⟩, (tx l).length, rfl, Nat.zero_le _, by rw [htl]; exact Nat.le_add_right _ _, ?_⟩
  refine ⟨rfl, i, ?_, hi.1, ?_, Hp.set_same _ _ _⟩
  · show Res.ret (.slc i (0 + 0) ((tx l).length - 0) (some (l.length + 2 - 0))) = _
    rw [htl]; rfl
  · exact ((((Gr.refl h).set hi.1 _).set hi.1 _).set ((((Gr.refl h).set hi.1 _).set hi.1 _).new htb.1) _).set hi.1 _

theorem WholeTexts_L (g i : Nat) (l m : List Str) (h : Hp) (hi : h i = some (.row Ts (tx (l ++ [own, own])))) (hl : l.length ≤ 1000000) (hm : m.length ≤ 1000000) :
    CallL Tryz.prog F_lexiconref00_WholeTexts [.slc i 0 l.length (some (l.length + 2)), .isl g (tx m)] h fun r h' => r = .ret (.bool (l == m)) ∧ h' = h := by
  refine K_lexiconref00_WholeTexts (md := false) ?_
  refine s_nat (l.length + 2) (by omega) (by omega) ?_
  refine s_lt (fun h1 => by omega) (fun _ => ?_)
  refine s_nat (l.length + 2) (by omega) (by omega) ?_
  refine ⟨⟨_, hi⟩, l.length + 2, rfl, Nat.zero_le _, Nat.le_refl _, ?_⟩
  have r1 : (tx (l ++ [own, own]))[0 + 0 + l.length]? = some (el own) := by
    rw [Nat.zero_add]; exact tx_get (by rw [List.getElem?_append_right (Nat.le_refl _), Nat.sub_self]; rfl)
  have r2 : (tx (l ++ [own, own]))[0 + 0 + (l.length + 1)]? = some (el own) := by
    rw [Nat.zero_add]; exact tx_get (by rw [List.getElem?_append_right (by omega), show l.length + 1 - l.length = 1 by omega]; rfl)
  refine ⟨l.length, rfl, by omega, ⟨_, hi⟩, ?_⟩
  refine ⟨_, _, _, _, hi, r1, rfl, ?_⟩
  refine s_seq (fun _ => ?_) (fun h2 => absurd rfl h2)
  refine s_nat (l.length + 1) (by omega) (by omega) ?_
  refine ⟨l.length + 1, rfl, by omega, ⟨_, hi⟩, ?_⟩
  refine ⟨_, _, _, _, hi, r2, rfl, ?_⟩
  refine s_seq (fun _ => ?_) (fun h2 => absurd rfl h2)
  refine CallL.lentP (same_L 1 g l m (by omega) (by omega)) (FzL.two (Fz_tx (rest := tx [own, own]) (by rw [hi, tx_app])) (.same _ (noid_isl _ _ _ rfl))) rfl ?_
  exact ⟨rfl, rfl, rfl⟩

theorem SpoilTexts_L (i n c : Nat) (l : List Str) (h : Hp) (hi : h i = some (.row Ts (tx l))) (hl : l.length = c) (hn : n ≤ c) (hc : c ≤ 1000000) :
    CallL Tryz.prog F_lexiconref00_SpoilTexts [.slc i 0 n (some c)] h fun r h' => r = .ret (.tup []) ∧ h' = h.set i (.row Ts (tx (List.replicate c spoilt))) := by
  refine K_lexiconref00_SpoilTexts (md := false) ?_
  refine ⟨⟨_, hi⟩, c, rfl, Nat.zero_le _, Nat.le_refl _, ?_⟩
  refine s_loop c (fun k (_ : Unit) => k ≤ c) (fun k _ => [(2, .slc i 0 c (some c)), (3, .int .i64 k)]) (fun k _ => h.set i (.row Ts (tx (List.replicate k spoilt ++ l.drop k)))) () (Nat.zero_le _) (by rw [List.replicate_zero, List.nil_append, List.drop_zero, Hp.set_self hi]) rfl ⟨rfl, rfl, trivial⟩ (fun k s hI => hI) ?_
  intro k _ n0 g0 hk _
  refine s_lt (fun h1 => ?_) (fun h1 => ?_)
  · obtain ⟨x, hx⟩ := get_lt (l := l) (k := k) (by omega)
    have hg : (tx (List.replicate k spoilt ++ l.drop k))[0 + k]? = some (el x) := by
      rw [Nat.zero_add]; exact tx_get (by rw [List.getElem?_append_right (by simp), List.length_replicate, Nat.sub_self, List.getElem?_drop]; exact hx)
    refine ⟨k, rfl, by omega, ⟨_, Hp.set_same _ _ _⟩, ?_⟩
    refine ⟨_, _, _, Hp.set_same _ _ _, hg, rfl, rfl, rfl, Nat.le_refl _, ?_⟩
    refine s_nat (k + 1) (by omega) (by omega) ?_
    refine ⟨(), by omega, by omega, ?_, rfl, rfl, rfl, trivial⟩
    rw [Hp.set_set]
    refine congrArg (fun es => h.set i (.row Ts es)) ?_
    have e : (tx (List.replicate k spoilt ++ l.drop k)).set (0 + k) [.str spoilt] = tx ((List.replicate k spoilt ++ l.drop k).set k spoilt) := by rw [Nat.zero_add]; exact List.map_set.symm
    refine e.trans (congrArg tx ?_)
    rw [List.set_append_right _ _ (by simp), List.length_replicate, Nat.sub_self, drop_get hx, List.set_cons_zero, List.replicate_succ']
    simp
  · obtain rfl : k = c := by omega
    refine ⟨rfl, rfl, ?_⟩
    rw [List.drop_of_length_le (by omega), List.append_nil]

/-! ### Marks -/
def mk1 (x : Int) : Int := IntKind.u8.wrap (IntKind.i64.wrap (97 + x.tmod 26))
def markP (a b : Int) : Str := [mk1 a, mk1 (IntKind.i64.wrap (a.tdiv 26)), mk1 (IntKind.i64.wrap (a.tdiv 676)), mk1 b, mk1 (IntKind.i64.wrap (b.tdiv 26))].map fun n => n.toNat.toUInt8
def markS (a b : Int) : Str := if a < 0 then 45 :: markP (IntKind.i64.wrap (0 - a)) b else markP a b
theorem mk1_lt (x : Int) : (decide (0 ≤ mk1 x) && Nat.blt (mk1 x).toNat 256) = true := by
  have h : 0 ≤ mk1 x ∧ mk1 x < 256 := by
    unfold mk1
    rw [IntKind.wrap_u8]; omega
  have h2 : (mk1 x).toNat + 1 ≤ 256 := by omega
  rw [decide_eq_true h.1]; exact Nat.ble_eq_true_of_le h2
theorem bytes_five (a b c d e : Int) : bytesL [[.int .u8 (mk1 a)], [.int .u8 (mk1 b)], [.int .u8 (mk1 c)], [.int .u8 (mk1 d)], [.int .u8 (mk1 e)]] = some ([mk1 a, mk1 b, mk1 c, mk1 d, mk1 e].map fun n => n.toNat.toUInt8) := by
  simp only [bytesL, mk1_lt]; rfl
theorem mark0_L (a b : Int) (ha : 0 ≤ a) : PureL Tryz.prog F_lexiconref00_mark [.int .i64 a, .int .i64 b] (.str (markP a b)) := by
  refine PureL.nil rfl ?_
  refine K_lexiconref00_mark (md := false) ?_
  refine s_lt (fun h1 => by omega) (fun _ => ?_)
  refine ⟨by decide, s_i ?_⟩
  refine s_i (s_i ?_)
  refine ⟨by decide, s_i ?_⟩
  refine ⟨by decide, s_i ?_⟩
  refine s_i (s_i ?_)
  refine ⟨by decide, s_i ?_⟩
  refine ⟨by decide, s_i ?_⟩
  refine s_i (s_i ?_)
  refine ⟨by decide, s_i ?_⟩
  refine s_i (s_i ?_)
  refine ⟨by decide, s_i ?_⟩
  refine ⟨by decide, s_i ?_⟩
  refine s_i (s_i ?_)
  refine ⟨_, rfl, fun i hi => ?_⟩
  refine ⟨_, _, ⟨_, _, Hp.set_same _ _ _, Nat.le_refl _, rfl⟩, bytes_five _ _ _ _ _, ?_⟩
  exact ⟨rfl, _, rfl, .same _ rfl⟩
theorem mark_L (a b : Int) (ha : -1000000000 ≤ a) (ha2 : a ≤ 1000000000) : PureL Tryz.prog F_lexiconref00_mark [.int .i64 a, .int .i64 b] (.str (markS a b)) := by
  by_cases h0 : a < 0
  · intro h
    refine K_lexiconref00_mark (md := false) ?_
    refine s_lt (fun _ => ?_) (fun h1 => by omega)
    refine s_i ?_
    refine (mark0_L _ b (by rw [wrap_i64 (by omega) (by omega)]; omega)).use ?_
    refine ⟨by simp [markP], ?_⟩
    exact ⟨rfl, by rw [markS, if_pos h0]; rfl, rfl⟩
  · have := mark0_L a b (by omega)
    rw [markS, if_neg h0]; exact this
end Go.Proofs.YtibdeeejjbmgcaaGreatDoor
