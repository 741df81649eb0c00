/-
  The logic L, part s: values without numbers; mutable memory lent to a call as memory that never changes; results frozen.
-/
import Derived.Test.YtpmjgnpkbmfimabGreatDoorLp
namespace Go.L

mutual
/-- No number of a mutable block in it; all marks as asked. -/
def noid (p : Nat → Bool) : AV → Bool
  | .ptr .. => false
  | .slc .. => false
  | .map _ => false
  | .yld _ => false
  | .iptr g cs _ => p g && noids p cs
  | .isl g es => p g && noidss p es
  | .func _ a b => noids p a && noids p b
  | .ifc _ v => noid p v
  | .agg cs => noids p cs
  | .tup cs => noids p cs
  | _ => true
def noids (p : Nat → Bool) : List AV → Bool
  | [] => true
  | v :: l => noid p v && noids p l
def noidss (p : Nat → Bool) : List (List AV) → Bool
  | [] => true
  | c :: l => noids p c && noidss p l
end

theorem noids_get {p : Nat → Bool} : ∀ {l : List AV}, noids p l = true → ∀ (j : Nat) (v : AV), l[j]? = some v → noid p v = true := by
  intro l
  induction l with
  | nil => intro _ j v h; simp at h
  | cons a l ih =>
    intro h j v hj
    simp only [noids, Bool.and_eq_true] at h
    cases j with
    | zero => simp at hj; subst hj; exact h.1
    | succ j => exact ih h.2 j v hj
theorem noidss_get {p : Nat → Bool} : ∀ {l : List (List AV)}, noidss p l = true → ∀ (k : Nat) (cs : List AV) (j : Nat) (v : AV), l[k]? = some cs → cs[j]? = some v → noid p v = true := by
  intro l
  induction l with
  | nil => intro _ k cs j v h; simp at h
  | cons a l ih =>
    intro h k cs j v hk hj
    simp only [noidss, Bool.and_eq_true] at h
    cases k with
    | zero => simp at hk; subst hk; exact noids_get h.1 j v hj
    | succ k => exact ih h.2 k cs j v hk hj
/-- Such a value stands wherever memory of its marks stands. -/
theorem noid.VR {p : Nat → Bool} {σ σ' : Emb} {M M' : Mem} (hM : ∀ B o g, p g = true → M B = some (o, g) → M' B = some (o, g)) {v : AV} {x : Value} (hv : VR σ M v x) : noid p v = true → VR σ' M' v x := by
  induction hv with
  | bool b => exact fun _ => .bool b
  | int k n => exact fun _ => .int k n
  | flt k n => exact fun _ => .flt k n
  | str s b h => exact fun _ => .str s b h
  | nilp => exact fun _ => .nilp
  | ptr i k o L h => intro h; cases h
  | iptr g cs o B O C T F d h hc hv ih =>
    intro hp
    simp only [noid, Bool.and_eq_true] at hp
    exact .iptr g cs o B O C T F d (hM _ _ _ hp.1 h) hc fun j v hj => ih j v hj (noids_get hp.2 j v hj)
  | nils => exact fun _ => .nils
  | emp a => exact fun _ => .emp a
  | slc i k n c L a c' h ha hn hk hu => intro h; cases h
  | isl0 g a c => exact fun _ => .isl0 g a c
  | isl g es z B O C T F d c h hz hn hc hv ih =>
    intro hp
    simp only [noid, Bool.and_eq_true] at hp
    exact .isl g es z B O C T F d c (hM _ _ _ hp.1 h) hz hn hc fun k cs j v hk hj => ih k cs j v hk hj (noidss_get hp.2 k cs j v hk hj)
  | nilm => exact fun _ => .nilm
  | map i L h => intro h; cases h
  | func fn first cap f' c' d e hy hf hc hf1 hf2 hc1 hc2 ih1 ih2 =>
    intro hp
    simp only [noid, Bool.and_eq_true] at hp
    exact .func fn first cap f' c' d e hy hf hc hf1 (fun j v hj => ih1 j v hj (noids_get hp.1 j v hj)) hc1 fun j v hj => ih2 j v hj (noids_get hp.2 j v hj)
  | nilf => exact fun _ => .nilf
  | yld i L h => intro h; cases h
  | ifc t v v' h ih => intro hp; exact .ifc t v v' (ih hp)
  | nili => exact fun _ => .nili
  | agg cs c' d hn h1 h2 ih => intro hp; exact .agg cs c' d hn h1 fun j v hj => ih j v hj (noids_get hp j v hj)
  | tup cs c' d hn h1 h2 ih => intro hp; exact .tup cs c' d hn h1 fun j v hj => ih j v hj (noids_get hp j v hj)

/-- What a value is, when the mutable blocks that it leads to are taken for ones that never change (of mark g). -/
inductive Fz (p : Nat → Bool) (g : Nat) (h : Hp) : AV → AV → Prop
  | same (v : AV) (hp : noid p v = true) : Fz p g h v v
  | slc (i k n : Nat) (c : Option Nat) (T : TypeId) (es es' : List (List AV)) (hi : h i = some (.row T es)) (hkn : k + n ≤ es.length) (hl : es'.length = n)
      (hz : ∀ (j : Nat) (cs cs' : List AV), es[k + j]? = some cs → es'[j]? = some cs' → cs'.length = cs.length)
      (he : ∀ (j : Nat) (cs cs' : List AV) (q : Nat) (v v' : AV), es[k + j]? = some cs → es'[j]? = some cs' → cs[q]? = some v → cs'[q]? = some v' → Fz p g h v v') : Fz p g h (.slc i k n c) (.isl g es')
  | ptr (i k o : Nat) (T : TypeId) (es : List (List AV)) (cs cs' : List AV) (hi : h i = some (.row T es)) (hk : es[k]? = some cs) (hl : cs'.length = cs.length)
      (he : ∀ (q : Nat) (v v' : AV), cs[q]? = some v → cs'[q]? = some v' → Fz p g h v v') : Fz p g h (.ptr i k o) (.iptr g cs' o)
  | agg (cs cs' : List AV) (hl : cs'.length = cs.length) (he : ∀ (q : Nat) (v v' : AV), cs[q]? = some v → cs'[q]? = some v' → Fz p g h v v') : Fz p g h (.agg cs) (.agg cs')
  | tup (cs cs' : List AV) (hl : cs'.length = cs.length) (he : ∀ (q : Nat) (v v' : AV), cs[q]? = some v → cs'[q]? = some v' → Fz p g h v v') : Fz p g h (.tup cs) (.tup cs')
  | ifc (t : TypeId) (v v' : AV) (he : Fz p g h v v') : Fz p g h (.ifc t v) (.ifc t v')
  | func (fn : Fn) (a a' b b' : List AV) (hla : a'.length = a.length) (hlb : b'.length = b.length) (ha : ∀ (q : Nat) (v v' : AV), a[q]? = some v → a'[q]? = some v' → Fz p g h v v')
      (hb : ∀ (q : Nat) (v v' : AV), b[q]? = some v → b'[q]? = some v' → Fz p g h v v') : Fz p g h (.func fn a b) (.func fn a' b')

  | islC (g0 : Nat) (es es' : List (List AV)) (hg : p g0 = true) (hl : es'.length = es.length) (hz : ∀ (j : Nat) (cs cs' : List AV), es[j]? = some cs → es'[j]? = some cs' → cs'.length = cs.length)
      (he : ∀ (j : Nat) (cs cs' : List AV) (q : Nat) (v v' : AV), es[j]? = some cs → es'[j]? = some cs' → cs[q]? = some v → cs'[q]? = some v' → Fz p g h v v') : Fz p g h (.isl g0 es) (.isl g0 es')
  | iptrC (g0 : Nat) (cs cs' : List AV) (o : Nat) (hg : p g0 = true) (hl : cs'.length = cs.length) (he : ∀ (q : Nat) (v v' : AV), cs[q]? = some v → cs'[q]? = some v' → Fz p g h v v') : Fz p g h (.iptr g0 cs o) (.iptr g0 cs' o)

theorem get_of_len {α β : Type} {l : List α} {m : List β} (h : m.length = l.length) {j : Nat} {y : β} (hj : m[j]? = some y) : ∃ x, l[j]? = some x :=
  ⟨l[j]'(by rw [← h]; exact (List.getElem?_eq_some_iff.1 hj).1), List.getElem?_eq_getElem _⟩

/-- In memory where the mutable blocks are under the mark g. -/
theorem Fz.VR {P : Program} {p : Nat → Bool} {g : Nat} {h : Hp} {σ σ' : Emb} {M M' : Mem} {w : World} (hR : ∀ i b L, h i = some b → σ i = some L → BlkR P σ M w L b) (hM : ∀ B o c, p c = true → M B = some (o, c) → M' B = some (o, c))
    (hb : ∀ i b L o, h i = some b → σ i = some L → w.heap[L.b]? = some o → M' L.b = some (o, g)) {v v' : AV} (hf : Fz p g h v v') : ∀ {x : Value}, VR σ M v x → VR σ' M' v' x := by
  have pw : ∀ {l l' : List AV} {a : Array Value}, l'.length = l.length → (∀ (q : Nat) (v v' : AV), l[q]? = some v → l'[q]? = some v' → ∀ {x : Value}, Go.L.VR σ M v x → Go.L.VR σ' M' v' x) → VRs σ M l a → VRs σ' M' l' a := by
    intro l l' a hl he ha
    refine ⟨by rw [ha.1, hl], fun j y hj => ?_⟩
    obtain ⟨x, hx⟩ := get_of_len hl hj
    obtain ⟨u, h1, h2⟩ := ha.2 j x hx
    exact ⟨u, h1, he j x y hx hj h2⟩
  induction hf with
  | same v hp => intro x hv; exact noid.VR hM hv hp
  | slc i k n c T es es' hi hkn hl hz he ih =>
    intro x hv
    obtain ⟨L, a, c', rfl, hL, ha, hn, _, _⟩ := hv.slc_inv
    obtain ⟨C, F, hbl, hs, hLz, hcap, hes, hF⟩ := hR i _ L hi hL
    have hm := hb i _ L _ hi hL hbl
    by_cases hn0 : n = 0
    · have : es' = [] := List.eq_nil_of_length_eq_zero (by omega)
      subst this; subst hn0; exact .isl0 _ _ _
    · rw [ha (by omega)]
      have get : ∀ (j : Nat) (cs' : List AV), es'[j]? = some cs' → ∃ cs, es[k + j]? = some cs := fun j cs' hj => by
        have : j < n := by rw [← hl]; exact (List.getElem?_eq_some_iff.1 hj).1
        exact ⟨_, List.getElem?_eq_getElem (show k + j < es.length by omega)⟩
      have cell : ∀ (j : Nat) (cs' : List AV) (q : Nat) (y : AV), es'[j]? = some cs' → cs'[q]? = some y → ∃ u, C[L.o + (k + j) * L.z + q]? = some u ∧ Go.L.VR σ' M' y u := by
        intro j cs' q y hj hq
        obtain ⟨cs, hcs⟩ := get j cs' hj
        obtain ⟨v, hv⟩ := get_of_len (hz j cs cs' hcs hj) hq
        obtain ⟨u, h1, h2⟩ := (hes _ cs hcs).1.2 q v hv
        rw [Array.getElem?_extract] at h1
        split at h1
        · exact ⟨u, h1, ih j cs cs' q v y hcs hj hv hq h2⟩
        · cases h1
      have := Go.L.VR.isl (σ := σ') (M := M') g es' L.z L.b (L.o + k * L.z) C T F (fun j q => C.getD (L.o + (k + j) * L.z + q) undef) c' hm
        (fun j cs' hj => by obtain ⟨cs, hcs⟩ := get j cs' hj; rw [hz j cs cs' hcs hj]; exact (hes _ cs hcs).2) (by omega)
        (fun j cs' q y hj hq => by
          obtain ⟨u, h1, h2⟩ := cell j cs' q y hj hq
          rw [show L.o + k * L.z + j * L.z + q = L.o + (k + j) * L.z + q by rw [Nat.add_mul]; omega]
          simp [Array.getD_eq_getD_getElem?, h1])
        (fun j cs' q y hj hq => by
          obtain ⟨u, h1, h2⟩ := cell j cs' q y hj hq
          simpa [Array.getD_eq_getD_getElem?, h1] using h2)
      rw [hl] at this
      exact this
  | ptr i k o T es cs cs' hi hk hl he ih =>
    intro x hv
    obtain ⟨L, hL, rfl⟩ := hv.ptr_inv
    obtain ⟨C, F, hbl, hs, hLz, hcap, hes, hF⟩ := hR i _ L hi hL
    have hm := hb i _ L _ hi hL hbl
    have cell : ∀ (q : Nat) (y : AV), cs'[q]? = some y → ∃ u, C[L.o + k * L.z + q]? = some u ∧ Go.L.VR σ' M' y u := by
      intro q y hq
      obtain ⟨v, hv⟩ := get_of_len hl hq
      obtain ⟨u, h1, h2⟩ := (hes _ cs hk).1.2 q v hv
      rw [Array.getElem?_extract] at h1
      split at h1
      · exact ⟨u, h1, ih q v y hv hq h2⟩
      · cases h1
    exact .iptr g cs' o L.b (L.o + k * L.z) C T F (fun q => C.getD (L.o + k * L.z + q) undef) hm
      (fun q y hq => by obtain ⟨u, h1, h2⟩ := cell q y hq; simp [Array.getD_eq_getD_getElem?, h1])
      (fun q y hq => by obtain ⟨u, h1, h2⟩ := cell q y hq; simpa [Array.getD_eq_getD_getElem?, h1] using h2)
  | agg cs cs' hl he ih => intro x hv; obtain ⟨a, rfl, ha⟩ := hv.agg_inv; exact VR.agg' (pw hl ih ha)
  | tup cs cs' hl he ih => intro x hv; obtain ⟨a, rfl, ha⟩ := hv.tup_inv; exact VR.tup' (pw hl ih ha)
  | ifc t v v' he ih => intro x hv; cases hv with | ifc _ _ u hu => exact .ifc t v' u (ih hu)
  | func fn a a' b b' hla hlb ha hb' ih1 ih2 =>
    intro x hv
    obtain ⟨f', c', rfl, h1, h2, h3⟩ := hv.func_inv
    exact VR.func' h3 (pw hla ih1 h1) (pw hlb ih2 h2)
  | islC g0 es es' hg hl hz he ih =>
    intro x hv
    cases hv with
    | isl0 _ a c =>
      have : es' = [] := List.eq_nil_of_length_eq_zero hl
      subst this; exact .isl0 _ _ _
    | isl _ _ z B O C T F d c hB hz0 hn hc hv =>
      have key : ∀ (j : Nat) (cs' : List AV) (q : Nat) (y : AV), es'[j]? = some cs' → cs'[q]? = some y → C[O + j * z + q]? = some (d j q) ∧ Go.L.VR σ' M' y (d j q) := by
        intro j cs' q y hj hq
        obtain ⟨cs, hcs⟩ := get_of_len hl hj
        obtain ⟨v, hv1⟩ := get_of_len (hz j cs cs' hcs hj) hq
        exact ⟨hc j cs q v hcs hv1, ih j cs cs' q v y hcs hj hv1 hq (hv j cs q v hcs hv1)⟩
      have := Go.L.VR.isl (σ := σ') (M := M') g0 es' z B O C T F d c (hM _ _ _ hg hB) (fun j cs' hj => by
        obtain ⟨cs, hcs⟩ := get_of_len hl hj; rw [hz j cs cs' hcs hj]; exact hz0 j cs hcs) (by omega) (fun j cs' q y hj hq => (key j cs' q y hj hq).1) (fun j cs' q y hj hq => (key j cs' q y hj hq).2)
      rw [hl] at this; exact this
  | iptrC g0 cs cs' o hg hl he ih =>
    intro x hv
    cases hv with
    | iptr _ _ _ B O C T F d hB hc hv =>
      have key : ∀ (q : Nat) (y : AV), cs'[q]? = some y → C[O + q]? = some (d q) ∧ Go.L.VR σ' M' y (d q) := by
        intro q y hq
        obtain ⟨v, hv1⟩ := get_of_len hl hq
        exact ⟨hc q v hv1, ih q v y hv1 hq (hv q v hv1)⟩
      exact .iptr g0 cs' o B O C T F d (hM _ _ _ hg hB) (fun q y hq => (key q y hq).1) (fun q y hq => (key q y hq).2)

/-- Arguments, lent. -/
def FzL (p : Nat → Bool) (g : Nat) (h : Hp) (l l' : List AV) : Prop := l'.length = l.length ∧ ∀ (q : Nat) (v v' : AV), l[q]? = some v → l'[q]? = some v' → Fz p g h v v'

def anyMark : Nat → Bool := fun _ => true
def mark0 : Nat → Bool := fun g => Nat.beq g 0

/-- LENT. A call whose arguments lead to mutable memory: proved where they are memory that never changes (of mark 1), in the empty heap; the result is frozen, and none of what was lent. -/
theorem CallL.lent {P : Program} {f : FuncId} {args args' : List AV} {h : Hp} {Q : AV → Prop} (ha : FzL anyMark 1 h args args')
    (k : CallL P f args' Hp.nil fun r h1 => ∃ v v', r = .ret v ∧ Fz mark0 0 h1 v v' ∧ Q v') : ∀ h', h.le h' → CallL P f args h' fun r h'' => ∃ v', r = .ret v' ∧ Q v' ∧ h'' = h' := by
  intro h' hle
  constructor
  intro σ M w x hR hA
  -- the heap, as it is
  let M0 : Mem := fun B => match M B with | some y => some y | none => (w.heap[B]?).map fun o => (o, 1)
  have hMM0 : ∀ B o c, M B = some (o, c) → M0 B = some (o, c) := fun B o c hB => by simp [M0, hB]
  have hM0w : ∀ B y, M0 B = some y → w.heap[B]? = some y.1 := fun B y hB => by
    simp only [M0] at hB
    split at hB
    · rename_i z hz; cases hB; exact hR.mem B _ hz
    · simp only [Option.map_eq_some_iff] at hB
      obtain ⟨o, h1, rfl⟩ := hB; exact h1
  have hM0old : ∀ B, B < w.heap.size → ∃ y, M0 B = some y := fun B hB => by
    simp only [M0]
    split
    · exact ⟨_, rfl⟩
    · rw [Array.getElem?_eq_getElem hB]; exact ⟨_, rfl⟩
  have hR0 : R P (fun _ => none) M0 Hp.nil w :=
    ⟨fun _ _ => rfl, (fun i b hi => by cases hi), hM0w, (fun i b L hi => by cases hi), (fun i j bi bj Li Lj hi => by cases hi), (fun i b L hi => by cases hi), (fun i b L hi => by cases hi)⟩
  have hA0 : VRs (fun _ => none) M0 args' x := by
    refine ⟨by rw [hA.1, ha.1], fun j y hj => ?_⟩
    obtain ⟨v, hv⟩ := get_of_len ha.1 hj
    obtain ⟨u, h1, h2⟩ := hA.2 j v hv
    refine ⟨u, h1, (ha.2 j v y hv hj).VR (fun i b L hi hL => hR.blk i b L (hle i b hi) hL) (fun B o c _ hB => hMM0 B o c hB) (fun i b L o hi hL ho => ?_) h2⟩
    have := hR.sep i b L (hle i b hi) hL
    simp only [M0, this, ho, Option.map_some]
  refine (k.run _ _ w x hR0 hA0).mono ?_
  rintro e w' ⟨σ1, M1, h1, hE, hR1, hend⟩
  have same : ∀ B, B < w.heap.size → w'.heap[B]? = w.heap[B]? := fun B hB => by
    obtain ⟨y, hy⟩ := hM0old B hB
    rw [hM0w B y hy]; exact hR1.mem B y (hE.m B y hy)
  let M2 : Mem := fun B => match M B with | some y => some y | none => if B < w.heap.size then none else (w'.heap[B]?).map fun o => (o, 0)
  have hMM2 : M.le M2 := fun B y hB => by simp [M2, hB]
  refine ⟨σ, M2, h', ⟨σ.le_refl, hMM2, hE.size, hE.os, hE.tape, hE.output⟩, ⟨hR.fin, hR.dom, fun B y hB => ?_, fun i b L hi hL => ?_, hR.inj, fun i b L hi hL => ?_, hR.al⟩, ?_⟩
  · simp only [M2] at hB
    split at hB
    · rename_i z hz
      cases hB
      have := hR.mem B _ hz
      rw [same B (Array.getElem?_eq_some_iff.1 this).1]; exact this
    · split at hB
      · cases hB
      · simp only [Option.map_eq_some_iff] at hB
        obtain ⟨o, h1, rfl⟩ := hB; exact h1
  · have h2 := hR.placed hi hL
    simp only [M2, hR.sep i b L hi hL, if_pos h2]
  · exact (hR.blk i b L hi hL).mono σ.le_refl hMM2 (same _ (hR.placed hi hL))
  · cases e with
    | returned x' =>
      obtain ⟨v, hv, u, v', e1, hf, hq⟩ := hend
      cases e1
      refine ⟨v', hf.VR hR1.blk (fun B o c hc hB => ?_) (fun i b L o hi hL ho => ?_) hv, v', rfl, hq, rfl⟩
      · have hc0 : c = 0 := Nat.eq_of_beq_eq_true hc
        subst hc0
        by_cases hlt : B < w.heap.size
        · obtain ⟨y, hy⟩ := hM0old B hlt
          have := hE.m B y hy
          rw [hB] at this; cases this
          simp only [M0] at hy
          split at hy
          · rename_i z hz; cases hy; simp only [M2, hz]
          · simp only [Option.map_eq_some_iff] at hy
            obtain ⟨o', _, h3⟩ := hy; cases h3
        · have h3 : M B = none := by
            cases hm : M B with
            | none => rfl
            | some z => exact absurd (Array.getElem?_eq_some_iff.1 (hR.mem B z hm)).1 hlt
          simp only [M2, h3, if_neg hlt, hR1.mem B _ hB, Option.map_some]
      · have h3 := hR1.sep i b L hi hL
        have hlt : ¬ L.b < w.heap.size := fun hlt => by
          obtain ⟨y, hy⟩ := hM0old L.b hlt
          rw [hE.m _ y hy] at h3; cases h3
        have h4 : M L.b = none := by
          cases hm : M L.b with
          | none => rfl
          | some z => exact absurd (Array.getElem?_eq_some_iff.1 (hR.mem L.b z hm)).1 hlt
        simp only [M2, h4, if_neg hlt, ho, Option.map_some]
    | panicked ch => obtain ⟨v, x', _, _, u, v', e1, _⟩ := hend; cases e1
    | outgrown => exact hend
end Go.L
