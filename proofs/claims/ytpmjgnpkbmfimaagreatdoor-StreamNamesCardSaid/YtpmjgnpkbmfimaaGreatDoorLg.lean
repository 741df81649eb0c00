/-
  The logic L, part g: changes of memory.
-/
import Derived.Test.YtpmjgnpkbmfimaaGreatDoorLf
namespace Go.L

section
variable {P : Program} {σ σ' : Emb} {M M' : Mem} {h : Hp} {w w' : World}

theorem BlkR.mono {L : Loc} {b : Blk} (hs : σ.le σ') (hm : M.le M') (hb : w'.heap[L.b]? = w.heap[L.b]?) (k : BlkR P σ M w L b) : BlkR P σ' M' w' L b := by
  cases b with
  | row T es =>
    obtain ⟨C, F, h1, h2, h3, h4, h5, h6⟩ := k
    exact ⟨C, F, by rw [hb]; exact h1, h2, h3, h4, fun k cs hk => ⟨(h5 k cs hk).1.mono hs hm, (h5 k cs hk).2⟩, h6⟩
  | map es clock =>
    obtain ⟨es', h1, h2, h3⟩ := k
    exact ⟨es', by rw [hb]; exact h1, h2, fun j k v n hj => let ⟨e, e1, e2, e3, e4⟩ := h3 j k v n hj; ⟨e, e1, e2.mono hs hm, e3.mono hs hm, e4⟩⟩
  | mapIter m since seen stepped =>
    obtain ⟨h0, m', h1, h2⟩ := k
    refine ⟨h0, m', by rw [hb]; exact h1, ?_⟩
    cases m with
    | none => exact h2
    | some i => obtain ⟨K, k1, k2⟩ := h2; exact ⟨K, hs _ _ k1, k2⟩
  | strIter s pos => obtain ⟨h0, b, h1, h2⟩ := k; exact ⟨h0, b, by rw [hb]; exact h1, h2⟩
  | loop n t ps K st pend => obtain ⟨r, h1, h2, h3, h4, h5, h6, h7⟩ := k; exact ⟨r, by rw [hb]; exact h1, h2, h3, h4, h5, h6, fun x => (h7 x).mono hs hm⟩
  | dfr => exact (show w'.heap[L.b]? = _ by rw [hb]; exact k)

/-- One block of the heap has turned: that of i. -/
theorem R.upd (hR : R P σ M h w) {i : Nat} {b b' : Blk} {L : Loc} (hi : h i = some b) (hL : σ i = some L) (hoth : ∀ B, B ≠ L.b → w'.heap[B]? = w.heap[B]?) (hb : BlkR P σ M w' L b') :
    R P σ M (h.set i b') w' where
  fin := fun j hj => hR.fin j (by by_cases e : j = i <;> simp [e] at hj; exact hj)
  dom := fun j c hj => by
    by_cases e : j = i
    · subst e; exact ⟨L, hL⟩
    · rw [Hp.set_ne e] at hj; exact hR.dom j c hj
  mem := fun B o hB => by
    rw [hoth B (fun e => by rw [e] at hB; rw [hR.sep i b L hi hL] at hB; cases hB)]
    exact hR.mem B o hB
  sep := fun j c K hj hK => by
    by_cases e : j = i
    · subst e; rw [hL] at hK; cases hK; exact hR.sep _ _ _ hi hL
    · rw [Hp.set_ne e] at hj; exact hR.sep j c K hj hK
  inj := fun j k bj bk Lj Lk hj hk hLj hLk he => by
    have fix : ∀ x bx, h.set i b' x = some bx → ∃ c, h x = some c := fun x bx hx => by
      by_cases e : x = i
      · subst e; exact ⟨b, hi⟩
      · rw [Hp.set_ne e] at hx; exact ⟨bx, hx⟩
    obtain ⟨c, hc⟩ := fix j bj hj
    obtain ⟨d, hd⟩ := fix k bk hk
    exact hR.inj j k c d Lj Lk hc hd hLj hLk he
  blk := fun j c K hj hK => by
    by_cases e : j = i
    · subst e; rw [hL] at hK; cases hK
      rw [Hp.set_same] at hj; cases hj; exact hb
    · rw [Hp.set_ne e] at hj
      refine (hR.blk j c K hj hK).mono σ.le_refl M.le_refl (hoth _ fun he => ?_)
      exact e (hR.inj j i c b K L hj hi hK hL he)
  al := fun j c K hj hK => by
    by_cases e : j = i
    · subst e; exact hR.al _ _ _ hi hK
    · rw [Hp.set_ne e] at hj; exact hR.al _ _ _ hj hK

/-- Memory of which nothing is said any more. -/
theorem R.del (hR : R P σ M h w) (i : Nat) : R P σ M (h.del i) w where
  fin := hR.fin
  dom := fun j c hj => by
    by_cases e : j = i
    · subst e; simp at hj
    · rw [Hp.del_ne e] at hj; exact hR.dom j c hj
  mem := hR.mem
  sep := fun j c K hj hK => by
    by_cases e : j = i
    · subst e; simp at hj
    · rw [Hp.del_ne e] at hj; exact hR.sep j c K hj hK
  inj := fun j k bj bk Lj Lk hj hk hLj hLk he => by
    have fix : ∀ x bx, h.del i x = some bx → h x = some bx := fun x bx hx => by
      by_cases e : x = i
      · subst e; simp at hx
      · rw [Hp.del_ne e] at hx; exact hx
    exact hR.inj j k bj bk Lj Lk (fix j bj hj) (fix k bk hk) hLj hLk he
  blk := fun j c K hj hK => by
    by_cases e : j = i
    · subst e; simp at hj
    · rw [Hp.del_ne e] at hj; exact hR.blk j c K hj hK
  al := fun j c K hj hK => by
    by_cases e : j = i
    · subst e; simp at hj
    · rw [Hp.del_ne e] at hj; exact hR.al j c K hj hK

/-- A block of which nothing is said any more; it has turned. -/
theorem R.kill (hR : R P σ M h w) {i : Nat} {b : Blk} {L : Loc} (hi : h i = some b) (hL : σ i = some L) (hoth : ∀ B, B ≠ L.b → w'.heap[B]? = w.heap[B]?) : R P σ M (h.del i) w' where
  fin := hR.fin
  dom := (hR.del i).dom
  mem := fun B o hB => by
    rw [hoth B (fun e => by rw [e] at hB; rw [hR.sep i b L hi hL] at hB; cases hB)]
    exact hR.mem B o hB
  sep := (hR.del i).sep
  inj := (hR.del i).inj
  blk := fun j c K hj hK => by
    by_cases e : j = i
    · subst e; simp at hj
    · rw [Hp.del_ne e] at hj
      refine (hR.blk j c K hj hK).mono σ.le_refl M.le_refl (hoth _ fun he => ?_)
      exact e (hR.inj j i c b K L hj hi hK hL he)
  al := (hR.del i).al

def Emb.set (σ : Emb) (i : Nat) (L : Loc) : Emb := fun j => if j = i then some L else σ j
theorem Emb.le_set {i : Nat} {L : Loc} (hi : σ i = none) : σ.le (σ.set i L) := fun j K hj => by
  by_cases e : j = i
  · subst e; rw [hi] at hj; cases hj
  · simp [Emb.set, e, hj]
@[simp] theorem Emb.set_same (σ : Emb) (i : Nat) (L : Loc) : σ.set i L i = some L := by simp [Emb.set]

theorem R.mem_new (hR : R P σ M h w) : M w.heap.size = none := by
  cases hm : M w.heap.size with
  | none => rfl
  | some o => have := hR.mem _ _ hm; simp at this

theorem R.used (hR : R P σ M h w) {i : Nat} {L : Loc} (hL : σ i = some L) : h.u i = true := by
  cases hu : h.u i with
  | true => rfl
  | false => rw [hR.fin i hu] at hL; cases hL

/-- A block that is set to what it is. -/
theorem R.set_eq (hR : R P σ M h w) {i : Nat} {L : Loc} {b : Blk} (hL : σ i = some L) (hi : h i = some b) : h.set i b = h := by
  refine Hp.ext (fun j => ?_) (fun j => ?_) <;> by_cases e : j = i
  · subst e; simp [hi]
  · rw [Hp.set_ne e]
  · subst e; simp [hR.used hL]
  · simp [e]

theorem R.fresh (hR : R P σ M h w) {md : Bool} {f : Nat → Prop} (hf : allocN md h f) : ∃ i, σ i = none ∧ f i := by
  obtain ⟨i, hi, hfi⟩ := hf.one
  exact ⟨i, hR.fin i hi.1, hfi⟩

theorem R.placed (hR : R P σ M h w) {i : Nat} {b : Blk} {L : Loc} (hi : h i = some b) (hL : σ i = some L) : L.b < w.heap.size := by
  have key : ∀ o, w.heap[L.b]? = some o → L.b < w.heap.size := fun o ho => (Array.getElem?_eq_some_iff.1 ho).1
  have := hR.blk i b L hi hL
  cases b with
  | row T es => obtain ⟨C, F, h1, _⟩ := this; exact key _ h1
  | map es clock => obtain ⟨es', h1, _⟩ := this; exact key _ h1
  | mapIter m s q t => obtain ⟨_, m', h1, _⟩ := this; exact key _ h1
  | strIter s p => obtain ⟨_, b, h1, _⟩ := this; exact key _ h1
  | loop n t ps K st pend => obtain ⟨r, h1, _⟩ := this; exact key _ h1
  | dfr => exact key _ this

/-- A new block, at the heap's end. -/
theorem R.alloc (hR : R P σ M h w) {i : Nat} {b : Blk} {L : Loc} {o : Obj} (hi : σ i = none) (hLb : L.b = w.heap.size) (hb : BlkR P (σ.set i L) M (w.alloc o) L b) (hLo : ∃ q, L.o = q * L.z := by exact ⟨0, (Nat.zero_mul _).symm⟩) :
    R P (σ.set i L) M (h.set i b) (w.alloc o) where
  fin := fun j hj => by
    by_cases e : j = i
    · simp [e] at hj
    · simp [e] at hj; simp [Emb.set, e, hR.fin j hj]
  dom := fun j c hj => by
    by_cases e : j = i
    · subst e; exact ⟨L, by simp⟩
    · rw [Hp.set_ne e] at hj; obtain ⟨K, hK⟩ := hR.dom j c hj; exact ⟨K, Emb.le_set hi _ _ hK⟩
  mem := fun B o' hB => by
    have := hR.mem B o' hB
    have hlt : B < w.heap.size := (Array.getElem?_eq_some_iff.1 this).1
    rw [RowKit.Below.heap_alloc _ _ _ hlt]; exact this
  sep := fun j c K hj hK => by
    by_cases e : j = i
    · subst e; simp at hK; subst hK; rw [hLb]; exact hR.mem_new
    · rw [Hp.set_ne e] at hj; simp [Emb.set, e] at hK; exact hR.sep j c K hj hK
  inj := fun j k bj bk Lj Lk hj hk hLj hLk he => by
    have old : ∀ x bx K, x ≠ i → h.set i b x = some bx → (σ.set i L) x = some K → h x = some bx ∧ σ x = some K := fun x bx K e hx hK => by
      rw [Hp.set_ne e] at hx; simp [Emb.set, e] at hK; exact ⟨hx, hK⟩
    by_cases e1 : j = i <;> by_cases e2 : k = i
    · rw [e1, e2]
    · subst e1
      obtain ⟨hk', hLk'⟩ := old k bk Lk e2 hk hLk
      simp at hLj; subst hLj
      have := hR.placed hk' hLk'
      omega
    · subst e2
      obtain ⟨hj', hLj'⟩ := old j bj Lj e1 hj hLj
      simp at hLk; subst hLk
      have := hR.placed hj' hLj'
      omega
    · obtain ⟨hk', hLk'⟩ := old k bk Lk e2 hk hLk
      obtain ⟨hj', hLj'⟩ := old j bj Lj e1 hj hLj
      exact hR.inj j k bj bk Lj Lk hj' hk' hLj' hLk' he
  blk := fun j c K hj hK => by
    by_cases e : j = i
    · subst e; simp at hK; subst hK
      rw [Hp.set_same] at hj; cases hj; exact hb
    · rw [Hp.set_ne e] at hj; simp [Emb.set, e] at hK
      exact (hR.blk j c K hj hK).mono (Emb.le_set hi) M.le_refl (RowKit.Below.heap_alloc _ _ _ (hR.placed hj hK))
  al := fun j c K hj hK => by
    by_cases e : j = i
    · subst e; simp at hK; subst hK; exact hLo
    · rw [Hp.set_ne e] at hj; simp [Emb.set, e] at hK; exact hR.al j c K hj hK

theorem Ext.alloc {i : Nat} {L : Loc} {o : Obj} (hi : σ i = none) : Ext σ M w (σ.set i L) M (w.alloc o) :=
  ⟨Emb.le_set hi, M.le_refl, by simp, rfl, rfl, rfl⟩

/-- A mutable block becomes one that never changes. -/
def Mem.set (M : Mem) (B : Nat) (o : Obj) : Mem := fun B' => if B' = B then some (o, 0) else M B'
theorem Mem.le_set {B : Nat} {o : Obj} (hB : M B = none) : M.le (M.set B o) := fun B' o' h => by
  by_cases e : B' = B
  · subst e; rw [hB] at h; cases h
  · simp [Mem.set, e, h]
@[simp] theorem Mem.set_same (M : Mem) (B : Nat) (o : Obj) : M.set B o B = some (o, 0) := by simp [Mem.set]

theorem R.freeze (hR : R P σ M h w) {i : Nat} {b : Blk} {L : Loc} {o : Obj} (hi : h i = some b) (hL : σ i = some L) (ho : w.heap[L.b]? = some o) : R P σ (M.set L.b o) (h.del i) w := by
  have hM : M L.b = none := hR.sep i b L hi hL
  have hd := hR.del i
  exact {
    fin := hd.fin
    dom := hd.dom
    mem := fun B o' hB => by
      by_cases e : B = L.b
      · subst e; simp at hB; subst hB; exact ho
      · simp [Mem.set, e] at hB; exact hR.mem B o' hB
    sep := fun j c K hj hK => by
      have hj' : h j = some c := by
        by_cases e : j = i
        · subst e; simp at hj
        · rw [Hp.del_ne e] at hj; exact hj
      have hji : j ≠ i := fun e => by subst e; simp at hj
      have hne : K.b ≠ L.b := fun e => hji (hR.inj j i c b K L hj' hi hK hL e)
      show (if K.b = L.b then some (o, 0) else M K.b) = none
      rw [if_neg hne]; exact hd.sep j c K hj hK
    inj := hd.inj
    blk := fun j c K hj hK => (hd.blk j c K hj hK).mono σ.le_refl (Mem.le_set hM) rfl
    al := hd.al }

theorem Ext.freeze (hR : R P σ M h w) {i : Nat} {b : Blk} {L : Loc} {o : Obj} (hi : h i = some b) (hL : σ i = some L) : Ext σ M w σ (M.set L.b o) w :=
  ⟨σ.le_refl, Mem.le_set (hR.sep i b L hi hL), Nat.le_refl _, rfl, rfl, rfl⟩

/-- A slice of a frozen row reads as its elements. -/
theorem frozen_slice (hR : R P σ M h w) {i : Nat} {T : TypeId} {es : List (List AV)} {L : Loc} {o : Obj} (hi : h i = some (.row T es)) (hL : σ i = some L) (ho : w.heap[L.b]? = some o)
    {k n : Nat} {c : Option Nat} {v : Value} (hv : VR σ M (.slc i k n c) v) (hkn : k + n ≤ es.length) : VR σ (M.set L.b o) (.isl 0 ((es.drop k).take n)) v := by
  obtain ⟨L', a, c', rfl, hL', ha, hn, _, _⟩ := hv.slc_inv
  rw [hL] at hL'; cases hL'
  have hle : M.le (M.set L.b o) := Mem.le_set (hR.sep i _ L hi hL)
  obtain ⟨C, F, hb, hs, hz, hcap, hes, hF⟩ := hR.blk i _ L hi hL
  rw [ho] at hb; cases hb
  by_cases hn0 : n = 0
  · subst hn0; simp only [List.take_zero]; exact .isl0 _ _ _
  · rw [ha (by omega)]
    have hlen : ((es.drop k).take n).length = n := by simp; omega
    have get : ∀ (j : Nat) (cs : List AV), ((es.drop k).take n)[j]? = some cs → es[k + j]? = some cs := fun j cs hj => by
      have : j < n := by
        rcases Nat.lt_or_ge j n with hh | hh
        · exact hh
        · rw [List.getElem?_eq_none (by omega)] at hj; cases hj
      rw [List.getElem?_take_of_lt this, List.getElem?_drop] at hj; exact hj
    have cell : ∀ (j : Nat) (cs : List AV) (q : Nat) (x : AV), es[j]? = some cs → cs[q]? = some x → ∃ x', C[L.o + j * L.z + q]? = some x' ∧ VR σ M x x' := fun j cs q x hj hq => by
      obtain ⟨x', h1, h2⟩ := (hes j cs hj).1.2 q x hq
      rw [Array.getElem?_extract] at h1
      split at h1
      · exact ⟨x', h1, h2⟩
      · cases h1
    have := VR.isl (σ := σ) (M := M.set L.b (.cells C T F)) 0 ((es.drop k).take n) L.z L.b (L.o + k * L.z) C T F (fun j q => C.getD (L.o + (k + j) * L.z + q) undef) c' (by simp)
      (fun j cs hj => (hes _ cs (get j cs hj)).2) (by omega)
      (fun j cs q x hj hq => by
        obtain ⟨x', h1, h2⟩ := cell _ cs q x (get j cs hj) hq
        rw [show L.o + k * L.z + j * L.z + q = L.o + (k + j) * L.z + q by rw [Nat.add_mul]; omega]
        simp [Array.getD_eq_getD_getElem?, h1])
      (fun j cs q x hj hq => by
        obtain ⟨x', h1, h2⟩ := cell _ cs q x (get j cs hj) hq
        simpa [Array.getD_eq_getD_getElem?, h1] using h2.mono σ.le_refl hle)
    rw [hlen] at this
    exact this
end
end Go.L
