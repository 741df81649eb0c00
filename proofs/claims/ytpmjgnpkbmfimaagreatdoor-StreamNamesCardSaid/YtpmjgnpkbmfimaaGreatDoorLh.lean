/-
  The logic L, part h: stores.
-/
import Derived.Test.YtpmjgnpkbmfimaaGreatDoorLg
namespace Go.L

def scalar : AV → Bool
  | .agg _ => false
  | .tup _ => false
  | _ => true

def flat : List AV → Bool
  | [] => true
  | v :: l => scalar v && flat l

def Value.scalar : Value → Bool
  | .agg _ => false
  | .tuple _ => false
  | _ => true

theorem scalar_ok {σ : Emb} {M : Mem} {v : AV} {v' : Value} (h : VR σ M v v') (hs : scalar v = true) : Value.scalar v' = true := by
  cases h <;> first | rfl | cases hs

theorem flat_get : ∀ {l : List AV}, flat l = true → ∀ {j : Nat} {v : AV}, l[j]? = some v → scalar v = true := by
  intro l
  induction l with
  | nil => intro _ j v h; simp at h
  | cons x l ih =>
    intro hf j v h
    simp only [flat, Bool.and_eq_true] at hf
    cases j with
    | zero => simp at h; subst h; exact hf.1
    | succ j => simp at h; exact ih hf.2 h

def setMany (C : Array Value) (o : Nat) : List Value → Array Value
  | [] => C
  | v :: l => setMany (C.setIfInBounds o v) (o + 1) l

theorem setMany_size : ∀ (l : List Value) (o : Nat) (C : Array Value), (setMany C o l).size = C.size := by
  intro l
  induction l with
  | nil => intro o C; rfl
  | cons v l ih => intro o C; simp [setMany, ih]

theorem setMany_get : ∀ (l : List Value) (o : Nat) (C : Array Value), o + l.length ≤ C.size → ∀ x, (setMany C o l)[x]? = if o ≤ x ∧ x < o + l.length then l[x - o]? else C[x]? := by
  intro l
  induction l with
  | nil => intro o C _ x; rw [if_neg (by simp only [List.length_nil]; omega)]; rfl
  | cons v l ih =>
    intro o C hle x
    simp only [List.length_cons] at hle
    simp only [setMany]
    rw [ih (o + 1) _ (by simp; omega) x]
    by_cases h1 : o + 1 ≤ x ∧ x < o + 1 + l.length
    · rw [if_pos h1, if_pos (by simp only [List.length_cons]; omega), show x - o = (x - (o + 1)) + 1 by omega]; rfl
    · rw [if_neg h1, Array.getElem?_setIfInBounds]
      by_cases h2 : o = x
      · subst h2; rw [if_pos rfl, if_pos (by omega), if_pos (by simp), Nat.sub_self]; rfl
      · rw [if_neg h2, if_neg (by simp only [List.length_cons]; omega)]

section
variable {P : Program}

theorem setCell_block (w : World) (b q : Nat) (v : Value) {C : Array Value} {T : TypeId} {F : Nat × Nat} (h : w.heap[b]? = some (.cells C T F)) :
    (w.setCell ⟨b, q, none⟩ v).heap[b]? = some (.cells (C.setIfInBounds q v) T F) := by
  simp [World.setCell, Array.getElem?_modify, h]

theorem run_storeCells (b q : Nat) : ∀ (vs : List Value) (i : Nat) (w : World) (C : Array Value) (T : TypeId) (F : Nat × Nat), w.heap[b]? = some (.cells C T F) → q + i + vs.length ≤ C.size →
    (∀ x, q + i ≤ x → x < C.size → ¬ (F.1 ≤ x ∧ x < F.2)) → (∀ v ∈ vs, Value.scalar v = true) →
    ∃ w', (storeCells ⟨b, q, none⟩ vs i).run P w = .ok () w' ∧ w'.heap.size = w.heap.size ∧ w'.os = w.os ∧ w'.tape = w.tape ∧ w'.output = w.output ∧ (∀ B, B ≠ b → w'.heap[B]? = w.heap[B]?) ∧
      w'.heap[b]? = some (.cells (setMany C (q + i) vs) T F) := by
  intro vs
  induction vs with
  | nil => intro i w C T F hb _ _ _; exact ⟨w, by simp [storeCells], rfl, rfl, rfl, rfl, fun _ _ => rfl, hb⟩
  | cons v vs ih =>
    intro i w C T F hb hle hF hs
    simp only [List.length_cons] at hle
    have hlt : q + i < C.size := by omega
    have hcell : w.cell? ⟨b, q + i, none⟩ = some C[q + i] := by simp [World.cell?, hb, hlt]
    have hfr : w.frozen? ⟨b, q + i, none⟩ = false := by
      have := hF (q + i) (Nat.le_refl _) hlt
      simp only [World.frozen?, hb]
      cases hd : (decide (F.1 ≤ q + i) && decide (q + i < F.2)) with
      | false => rfl
      | true => simp only [Bool.and_eq_true, decide_eq_true_eq] at hd; exact absurd hd this
    have hstore : (store ⟨b, q + i, none⟩ v).run P w = .ok () (w.setCell ⟨b, q + i, none⟩ v) := by
      have := hs v (by simp)
      cases v with
      | agg _ => cases this
      | tuple _ => cases this
      | _ => simp [store, Sem.run, hcell, hfr]
    obtain ⟨w', h1, h2, h3, h4, h5, h6, h7⟩ := ih (i + 1) (w.setCell ⟨b, q + i, none⟩ v) (C.setIfInBounds (q + i) v) T F (setCell_block w b (q + i) v hb) (by simp; omega)
      (fun x hx hx2 => hF x (by omega) (by simpa using hx2)) (fun u hu => hs u (by simp [hu]))
    refine ⟨w', ?_, ?_, h3, h4, h5, fun B hB => ?_, h7⟩
    · simp only [storeCells, add_none, Sem.run_bind, hstore, Result.andThen]; exact h1
    · rw [h2]; simp [World.setCell]
    · rw [h6 B hB]; exact RowKit.Below.heap_setCell _ _ _ _ hB

variable {σ : Emb} {M : Mem} {h : Hp} {w : World}

/-- A store through a pointer of the logic. -/
theorem R.store (hR : R P σ M h w) {i k o : Nat} {T : TypeId} {es : List (List AV)} {cs vs : List AV} {L : Loc} {A : Array Value} (hi : h i = some (.row T es)) (hk : es[k]? = some cs) (ho : o + vs.length ≤ cs.length)
    (hL : σ i = some L) (hv : VRs σ M vs A) (hf : flat vs = true) :
    ∃ w', (storeCells ⟨L.b, L.o + k * L.z + o, none⟩ A.toList).run P w = .ok () w' ∧ Ext σ M w σ M w' ∧
      R P σ M (h.set i (.row T (es.set k (cs.take o ++ vs ++ cs.drop (o + vs.length))))) w' := by
  obtain ⟨C, F, hb, hs, hz, hcap, hes, hF⟩ := hR.blk i _ L hi hL
  have hkl : k < es.length := by
    rcases Nat.lt_or_ge k es.length with hh | hh
    · exact hh
    · rw [List.getElem?_eq_none hh] at hk; cases hk
  have hcz := (hes k cs hk).2
  have hmul : (k + 1) * L.z ≤ es.length * L.z := Nat.mul_le_mul_right _ hkl
  have hmul' : (k + 1) * L.z = k * L.z + L.z := by rw [Nat.add_mul, Nat.one_mul]
  have hAl : A.toList.length = vs.length := by rw [Array.length_toList]; exact hv.1
  have hsc : ∀ u ∈ A.toList, Value.scalar u = true := fun u hu => by
    obtain ⟨j, hj⟩ := List.getElem?_of_mem hu
    have hjl : j < vs.length := by
      rcases Nat.lt_or_ge j vs.length with hh | hh
      · exact hh
      · rw [List.getElem?_eq_none (by omega)] at hj; cases hj
    obtain ⟨v', e1, e2⟩ := hv.2 j _ (List.getElem?_eq_getElem hjl)
    rw [Array.getElem?_toList, e1] at hj; cases hj
    exact scalar_ok e2 (flat_get hf (List.getElem?_eq_getElem hjl))
  obtain ⟨w', h1, h2, h3, h4, h5, h6, h7⟩ := run_storeCells (P := P) L.b (L.o + k * L.z + o) A.toList 0 w C T F hb (by omega) (fun x hx hx2 => hF.at x (by omega)) hsc
  refine ⟨w', h1, ⟨σ.le_refl, M.le_refl, by omega, h3, h4, h5⟩, hR.upd hi hL h6 ?_⟩
  refine ⟨_, F, h7, by rw [setMany_size]; exact hs, hz, by simpa using hcap, fun j ds hj => ?_, hF⟩
  have hget := setMany_get A.toList (L.o + k * L.z + o) C (by omega)
  rw [List.getElem?_set] at hj
  have newlen : (cs.take o ++ vs ++ cs.drop (o + vs.length)).length = cs.length := by simp; omega
  by_cases e : k = j
  · subst e
    rw [if_pos rfl, if_pos hkl] at hj; cases hj
    refine ⟨⟨by rw [newlen, Array.size_extract, setMany_size]; omega, fun x u hx => ?_⟩, by rw [newlen]; exact hcz⟩
    have hxl : x < cs.length := by
      rcases Nat.lt_or_ge x cs.length with hh | hh
      · exact hh
      · rw [List.getElem?_eq_none (by omega)] at hx; cases hx
    have ex : ∀ D : Array Value, D.size = C.size → (D.extract (L.o + k * L.z) (L.o + k * L.z + L.z))[x]? = D[L.o + k * L.z + x]? := fun D hD => by
      rw [Array.getElem?_extract, if_pos (by omega)]
    rw [ex _ (setMany_size _ _ _)]
    simp only [Nat.add_zero, hget, hAl]
    by_cases h8 : o ≤ x ∧ x < o + vs.length
    · rw [if_pos (by omega)]
      rw [List.append_assoc, List.getElem?_append_right (by simp; omega), List.getElem?_append_left (by simp; omega)] at hx
      simp only [List.length_take] at hx
      obtain ⟨v', e1, e2⟩ := hv.2 _ u hx
      exact ⟨v', by rw [Array.getElem?_toList, show L.o + k * L.z + x - (L.o + k * L.z + o) = x - min o cs.length by omega]; exact e1, e2⟩
    · rw [if_neg (by omega)]
      have hold : cs[x]? = some u := by
        by_cases h9 : x < o
        · rw [List.append_assoc, List.getElem?_append_left (by simp; omega), List.getElem?_take_of_lt h9] at hx; exact hx
        · rw [List.getElem?_append_right (by simp; omega)] at hx
          simp only [List.length_append, List.length_take, List.getElem?_drop] at hx
          rw [show o + vs.length + (x - (min o cs.length + vs.length)) = x by omega] at hx; exact hx
      obtain ⟨v', e1, e2⟩ := (hes k cs hk).1.2 x u hold
      rw [ex C rfl] at e1
      exact ⟨v', e1, e2⟩
  · rw [if_neg e] at hj
    obtain ⟨hV, hl⟩ := hes j ds hj
    refine ⟨⟨by rw [Array.size_extract, setMany_size]; have := hV.1; rw [Array.size_extract] at this; exact this, fun x u hx => ?_⟩, hl⟩
    obtain ⟨v', e1, e2⟩ := hV.2 x u hx
    refine ⟨v', ?_, e2⟩
    have hxl : x < L.z := by
      rcases Nat.lt_or_ge x ds.length with hh | hh
      · omega
      · rw [List.getElem?_eq_none hh] at hx; cases hx
    rw [Array.getElem?_extract] at e1 ⊢
    rw [setMany_size]
    split at e1
    · rename_i hc
      rw [if_pos hc, Nat.add_zero, hget, hAl, if_neg, e1]
      intro hcon
      rcases Nat.lt_or_gt_of_ne e with hkj | hkj
      · have : (k + 1) * L.z ≤ j * L.z := Nat.mul_le_mul_right _ hkj
        omega
      · have : (j + 1) * L.z ≤ k * L.z := Nat.mul_le_mul_right _ hkj
        rw [Nat.add_mul, Nat.one_mul] at this
        omega
    · cases e1
end
end Go.L
