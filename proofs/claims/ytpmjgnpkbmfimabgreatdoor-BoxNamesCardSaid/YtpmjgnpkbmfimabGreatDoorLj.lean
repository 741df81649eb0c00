/-
  The logic L, part j: append, in the logic's words.
-/
import Derived.Test.YtpmjgnpkbmfimabGreatDoorLi
namespace Go.L

def capMax : Nat := 140737488355328

/-- append(s, es'...): T, z, by: the elements' type, cells, bytes. -/
def LAppE (md : Bool) (T : TypeId) (z : Nat) (by_ : Nat) (s : AV) (es' : List (List AV)) (h : Hp) (next : AV → Hp → Prop) : Prop :=
  (∀ cs ∈ es', cs.length = z) ∧
  match s with
  | .nils => (es' = [] ∧ next .nils h) ∨ (es' ≠ [] ∧ es'.length * by_ ≤ capMax ∧ es'.length ≤ capMax ∧ allocN md h fun j => next (.slc j 0 es'.length none) (h.set j (.row T es')))
  | .emp => (es' = [] ∧ next .emp h) ∨ (es' ≠ [] ∧ es'.length * by_ ≤ capMax ∧ es'.length ≤ capMax ∧ allocN md h fun j => next (.slc j 0 es'.length none) (h.set j (.row T es')))
  | .slc i k n none => ∃ es, h i = some (.row T es) ∧ k + n ≤ es.length ∧ (∀ cs ∈ es', flat cs = true) ∧
      ((es' = [] ∧ next (.slc i k n none) h) ∨
       (es' ≠ [] ∧ (n + es'.length) * by_ ≤ capMax ∧ n + es'.length ≤ capMax ∧ allocN md h fun j => next (.slc j 0 (n + es'.length) none) ((h.del i).set j (.row T ((es.drop k).take n ++ es')))))
  | .slc i k n (some c) => ∃ es, h i = some (.row T es) ∧ k + n ≤ es.length ∧ (∀ cs ∈ es', flat cs = true) ∧
      ((n + es'.length ≤ c ∧ k + n + es'.length ≤ es.length ∧ next (.slc i k (n + es'.length) (some c)) (h.set i (.row T (es.take (k + n) ++ es' ++ es.drop (k + n + es'.length))))) ∨
       (c < n + es'.length ∧ (n + es'.length) * by_ ≤ capMax ∧ n + es'.length ≤ capMax ∧ allocN md h fun j => next (.slc j 0 (n + es'.length) none) (h.set j (.row T ((es.drop k).take n ++ es')))))
  | _ => False

/-- append(s, x...). -/
def LApp (md : Bool) (T : TypeId) (z : Nat) (by_ : Nat) (s x : AV) (h : Hp) (next : AV → Hp → Prop) : Prop :=
  ∃ es', srcEls h x es' ∧ LAppE md T z by_ s es' h next

section
variable {P : Program} {σ σ' : Emb} {M M' : Mem} {h : Hp} {w w' : World}

/-- A block of which nothing is said has turned. -/
theorem R.other (hR : R P σ M h w) {B : Nat} (hM : M B = none) (hB : ∀ i b L, h i = some b → σ i = some L → L.b ≠ B) (hoth : ∀ B', B' ≠ B → w'.heap[B']? = w.heap[B']?) : R P σ M h w' where
  fin := hR.fin
  dom := hR.dom
  mem := fun B' o hB' => by
    rw [hoth B' (fun e => by rw [e] at hB'; rw [hM] at hB'; cases hB')]; exact hR.mem B' o hB'
  sep := hR.sep
  inj := hR.inj
  blk := fun i b L hi hL => (hR.blk i b L hi hL).mono σ.le_refl M.le_refl (hoth _ (hB i b L hi hL))
  al := hR.al

/-- A block of which nothing was said gets a number. -/
theorem R.place (hR : R P σ M h w) {j : Nat} {b : Blk} {L : Loc} (hj : σ j = none) (hM : M L.b = none) (hB : ∀ i b L', h i = some b → σ i = some L' → L'.b ≠ L.b) (hb : BlkR P (σ.set j L) M w L b) (hLo : ∃ q, L.o = q * L.z) :
    R P (σ.set j L) M (h.set j b) w where
  fin := fun x hx => by
    by_cases e : x = j
    · simp [e] at hx
    · simp [e] at hx; simp [Emb.set, e, hR.fin x hx]
  dom := fun x c hx => by
    by_cases e : x = j
    · subst e; exact ⟨L, by simp⟩
    · rw [Hp.set_ne e] at hx; obtain ⟨K, hK⟩ := hR.dom x c hx; exact ⟨K, Emb.le_set hj _ _ hK⟩
  mem := hR.mem
  sep := fun x c K hx hK => by
    by_cases e : x = j
    · subst e; simp at hK; subst hK; exact hM
    · rw [Hp.set_ne e] at hx; simp [Emb.set, e] at hK; exact hR.sep x c K hx hK
  inj := fun x y bx by_ Lx Ly hx hy hLx hLy he => by
    have old : ∀ a ba K, a ≠ j → h.set j b a = some ba → (σ.set j L) a = some K → h a = some ba ∧ σ a = some K := fun a ba K e ha hK => by
      rw [Hp.set_ne e] at ha; simp [Emb.set, e] at hK; exact ⟨ha, hK⟩
    by_cases e1 : x = j <;> by_cases e2 : y = j
    · rw [e1, e2]
    · subst e1
      obtain ⟨hy', hLy'⟩ := old y by_ Ly e2 hy hLy
      simp at hLx; subst hLx
      exact absurd he.symm (hB _ _ _ hy' hLy')
    · subst e2
      obtain ⟨hx', hLx'⟩ := old x bx Lx e1 hx hLx
      simp at hLy; subst hLy
      exact absurd he (hB _ _ _ hx' hLx')
    · obtain ⟨hx', hLx'⟩ := old x bx Lx e1 hx hLx
      obtain ⟨hy', hLy'⟩ := old y by_ Ly e2 hy hLy
      exact hR.inj x y _ _ _ _ hx' hy' hLx' hLy' he
  blk := fun x c K hx hK => by
    by_cases e : x = j
    · subst e; simp at hK; subst hK; rw [Hp.set_same] at hx; cases hx; exact hb
    · rw [Hp.set_ne e] at hx; simp [Emb.set, e] at hK
      exact (hR.blk x c K hx hK).mono (Emb.le_set hj) M.le_refl rfl
  al := fun x c K hx hK => by
    by_cases e : x = j
    · subst e; simp at hK; subst hK; exact hLo
    · rw [Hp.set_ne e] at hx; simp [Emb.set, e] at hK; exact hR.al x c K hx hK

/-- Rows out of cells. -/
theorem rows_of_flat {z : Nat} {es : List (List AV)} {A : Array Value} (hl : ∀ cs ∈ es, cs.length = z) (hA : VRs σ M es.flatten A) :
    ∀ (k : Nat) (cs : List AV), es[k]? = some cs → VRs σ M cs (A.extract (k * z) (k * z + z)) := by
  have key : ∀ (es : List (List AV)) (off : Nat), (∀ cs ∈ es, cs.length = z) → (∀ (j : Nat) (v : AV), es.flatten[j]? = some v → ∃ v', A[off + j]? = some v' ∧ VR σ M v v') → off + es.flatten.length ≤ A.size →
      ∀ (k : Nat) (cs : List AV), es[k]? = some cs → VRs σ M cs (A.extract (off + k * z) (off + k * z + z)) := by
    intro es
    induction es with
    | nil => intro off _ _ _ k cs h; simp at h
    | cons e es ih =>
      intro off hl hc hs k cs hk
      have he : e.length = z := hl e (by simp)
      simp only [List.flatten_cons, List.length_append] at hs
      cases k with
      | zero =>
        simp only [List.getElem?_cons_zero, Option.some.injEq] at hk; subst hk
        refine ⟨by simp; omega, fun j v hj => ?_⟩
        have hjl : j < e.length := by
          rcases Nat.lt_or_ge j e.length with hh | hh
          · exact hh
          · rw [List.getElem?_eq_none hh] at hj; cases hj
        obtain ⟨v', h1, h2⟩ := hc j v (by rw [List.flatten_cons, List.getElem?_append_left hjl]; exact hj)
        exact ⟨v', by rw [Array.getElem?_extract, if_pos (by omega)]; simpa using h1, h2⟩
      | succ k =>
        simp only [List.getElem?_cons_succ] at hk
        have := ih (off + z) (fun x hx => hl x (by simp [hx])) (fun j v hj => by
          obtain ⟨v', h1, h2⟩ := hc (z + j) v (by rw [List.flatten_cons, List.getElem?_append_right (by omega), show z + j - e.length = j by omega]; exact hj)
          exact ⟨v', by rw [Nat.add_assoc]; exact h1, h2⟩) (by omega) k cs hk
        rw [show off + (k + 1) * z = off + z + k * z by rw [Nat.add_mul]; omega]
        exact this
  intro k cs hk
  have := key es 0 hl (fun j v hj => by simpa using hA.2 j v hj) (by rw [hA.1]; omega) k cs hk
  simpa using this

theorem flat_flatten : ∀ {es : List (List AV)}, (∀ cs ∈ es, flat cs = true) → flat es.flatten = true := by
  have app : ∀ (a b : List AV), flat a = true → flat b = true → flat (a ++ b) = true := by
    intro a
    induction a with
    | nil => intro b _ hb; exact hb
    | cons x a ih => intro b ha hb; simp only [flat, Bool.and_eq_true, List.cons_append] at ha ⊢; exact ⟨ha.1, ih b ha.2 hb⟩
  intro es
  induction es with
  | nil => intro _; rfl
  | cons e es ih => intro h; rw [List.flatten_cons]; exact app _ _ (h e (by simp)) (ih fun x hx => h x (by simp [hx]))

/-- A new row, of an append that did not fit. -/
theorem R.newRow (hR : R P σ M h w) {j : Nat} (hj : σ j = none) {T : TypeId} {i : TypeInfo} (hi : P.info? T = some i) {es : List (List AV)} (hl : ∀ cs ∈ es, cs.length = i.size) {A rest : Array Value} (hA : VRs σ M es.flatten A) :
    R P (σ.set j ⟨w.heap.size, 0, (A ++ rest).size, i.size⟩) M (h.set j (.row T es)) (w.alloc (.cells (A ++ rest) T)) := by
  refine hR.alloc hj rfl ⟨A ++ rest, (0, 0), by simp [← World.alloc_eq], rfl, by simp [hi], ?_, fun k cs hk => ⟨?_, hl cs (List.mem_of_getElem? hk)⟩, .inl rfl⟩
  · have := hA.1
    rw [flatten_len es hl] at this
    simp [this]
  · have h1 := (rows_of_flat hl hA k cs hk).mono (Emb.le_set (L := ⟨w.heap.size, 0, (A ++ rest).size, i.size⟩) hj) M.le_refl
    have hkl : k < es.length := by
      rcases Nat.lt_or_ge k es.length with hh | hh
      · exact hh
      · rw [List.getElem?_eq_none hh] at hk; cases hk
    have hsz : A.size = es.length * i.size := by rw [hA.1, flatten_len es hl]
    have hmul : (k + 1) * i.size ≤ es.length * i.size := Nat.mul_le_mul_right _ hkl
    rw [Nat.add_mul, Nat.one_mul] at hmul
    simp only [Nat.zero_add]
    have : (A ++ rest).extract (k * i.size) (k * i.size + i.size) = A.extract (k * i.size) (k * i.size + i.size) := by
      apply Array.ext'
      simp only [Array.toList_extract, Array.toList_append, List.extract_eq_take_drop]
      rw [List.drop_append_of_le_length (by rw [Array.length_toList]; omega), List.take_append_of_le_length (by rw [List.length_drop, Array.length_toList]; omega)]
    rw [this]; exact h1
end
end Go.L
