/-
  The logic L, part a: abstract values, the relation to the model's values, abstract heaps. (Proves nothing about the program by itself.)
-/
import Derived.WalkKit
import Derived.CallsIn
namespace Go.L

/-- Abstract values. 'ptr i k o': cell o of element k of the mutable block i. 'iptr g cs o': a pointer to cell o of cells that never change. 'isl g es': a slice of elements (each a list of cells) that never change. g: the mark of such memory. -/
inductive AV where
  | bool (b : Bool)
  | int (k : IntKind) (n : Int)
  | flt (k : FloatKind) (bits : Nat)
  | str (s : List UInt8)
  | nilp
  | ptr (i k o : Nat)
  | iptr (g : Nat) (cs : List AV) (o : Nat)
  | nils
  | emp
  | slc (i k n : Nat) (c : Option Nat)
  | isl (g : Nat) (es : List (List AV))
  | nilm
  | map (i : Nat)
  | func (fn : Fn) (first cap : List AV)
  | nilf
  | yld (i : Nat)
  | ifc (t : TypeId) (v : AV)
  | nili
  | agg (cs : List AV)
  | tup (vs : List AV)
  deriving Inhabited

/-- Where a mutable abstract block lies: block, first cell, cells of the block, cells of an element. -/
structure Loc where
  b : Nat
  o : Nat
  s : Nat
  z : Nat

abbrev Emb := Nat → Option Loc
/-- Memory that never changes: what lies in a block, and the block's mark. -/
abbrev Mem := Nat → Option (Obj × Nat)

/-- An abstract value stands for a value. -/
inductive VR (σ : Emb) (M : Mem) : AV → Value → Prop
  | bool (b : Bool) : VR σ M (.bool b) (.bool b)
  | int (k : IntKind) (n : Int) : VR σ M (.int k n) (.int k n)
  | flt (k : FloatKind) (n : Nat) : VR σ M (.flt k n) (.float k n)
  | str (s : List UInt8) (b : ByteArray) (h : b.data.toList = s) : VR σ M (.str s) (.string b)
  | nilp : VR σ M .nilp (.pointer none)
  | ptr (i k o : Nat) (L : Loc) (h : σ i = some L) : VR σ M (.ptr i k o) (.pointer (some ⟨L.b, L.o + k * L.z + o, none⟩))
  | iptr (g : Nat) (cs : List AV) (o B O : Nat) (C : Array Value) (T : TypeId) (F : Nat × Nat) (d : Nat → Value) (h : M B = some (.cells C T F, g))
      (hc : ∀ (j : Nat) (v : AV), cs[j]? = some v → C[O + j]? = some (d j)) (hv : ∀ (j : Nat) (v : AV), cs[j]? = some v → VR σ M v (d j)) :
      VR σ M (.iptr g cs o) (.pointer (some ⟨B, O + o, none⟩))
  | nils : VR σ M .nils (.slice none 0 0)
  | emp (a : Option Addr) : VR σ M .emp (.slice a 0 0)
  | slc (i k n : Nat) (c : Option Nat) (L : Loc) (a : Addr) (c' : Nat) (h : σ i = some L) (ha : c' ≠ 0 → a = ⟨L.b, L.o + k * L.z, none⟩) (hn : n ≤ c')
      (hk : ∀ x, c = some x → c' = x) (hu : c = none → L.o + (k + c') * L.z ≤ L.s) : VR σ M (.slc i k n c) (.slice (some a) n c')
  | isl0 (g : Nat) (a : Option Addr) (c : Nat) : VR σ M (.isl g []) (.slice a 0 c)
  | isl (g : Nat) (es : List (List AV)) (z B O : Nat) (C : Array Value) (T : TypeId) (F : Nat × Nat) (d : Nat → Nat → Value) (c : Nat) (h : M B = some (.cells C T F, g))
      (hz : ∀ (k : Nat) (cs : List AV), es[k]? = some cs → cs.length = z) (hn : es.length ≤ c)
      (hc : ∀ (k : Nat) (cs : List AV) (j : Nat) (v : AV), es[k]? = some cs → cs[j]? = some v → C[O + k * z + j]? = some (d k j))
      (hv : ∀ (k : Nat) (cs : List AV) (j : Nat) (v : AV), es[k]? = some cs → cs[j]? = some v → VR σ M v (d k j)) :
      VR σ M (.isl g es) (.slice (some ⟨B, O, none⟩) es.length c)
  | nilm : VR σ M .nilm (.map none)
  | map (i : Nat) (L : Loc) (h : σ i = some L) : VR σ M (.map i) (.map (some L.b))
  | func (fn : Fn) (first cap : List AV) (f' c' : Array Value) (d e : Nat → Value) (hy : ∀ l, fn ≠ .yield l) (hf : f'.size = first.length) (hc : c'.size = cap.length)
      (hf1 : ∀ (j : Nat) (v : AV), first[j]? = some v → f'[j]? = some (d j)) (hf2 : ∀ (j : Nat) (v : AV), first[j]? = some v → VR σ M v (d j))
      (hc1 : ∀ (j : Nat) (v : AV), cap[j]? = some v → c'[j]? = some (e j)) (hc2 : ∀ (j : Nat) (v : AV), cap[j]? = some v → VR σ M v (e j)) :
      VR σ M (.func fn first cap) (.func fn f' c')
  | nilf : VR σ M .nilf .nilFunc
  | yld (i : Nat) (L : Loc) (h : σ i = some L) : VR σ M (.yld i) (.func (.yield L.b) #[] #[])
  | ifc (t : TypeId) (v : AV) (v' : Value) (h : VR σ M v v') : VR σ M (.ifc t v) (.iface t v')
  | nili : VR σ M .nili .nilIface
  | agg (cs : List AV) (c' : Array Value) (d : Nat → Value) (hn : c'.size = cs.length) (h1 : ∀ (j : Nat) (v : AV), cs[j]? = some v → c'[j]? = some (d j)) (h2 : ∀ (j : Nat) (v : AV), cs[j]? = some v → VR σ M v (d j)) :
      VR σ M (.agg cs) (.agg c')
  | tup (cs : List AV) (c' : Array Value) (d : Nat → Value) (hn : c'.size = cs.length) (h1 : ∀ (j : Nat) (v : AV), cs[j]? = some v → c'[j]? = some (d j)) (h2 : ∀ (j : Nat) (v : AV), cs[j]? = some v → VR σ M v (d j)) :
      VR σ M (.tup cs) (.tuple c')

/-- A list of abstract values stands for an array. -/
def VRs (σ : Emb) (M : Mem) (l : List AV) (a : Array Value) : Prop := a.size = l.length ∧ ∀ (j : Nat) (v : AV), l[j]? = some v → ∃ v', a[j]? = some v' ∧ VR σ M v v'

def Emb.le (σ σ' : Emb) : Prop := ∀ i L, σ i = some L → σ' i = some L
def Mem.le (M M' : Mem) : Prop := ∀ B o, M B = some o → M' B = some o

theorem VR.mono {σ σ' : Emb} {M M' : Mem} (hs : σ.le σ') (hm : M.le M') {a : AV} {v : Value} (h : VR σ M a v) : VR σ' M' a v := by
  induction h with
  | bool b => exact .bool b
  | int k n => exact .int k n
  | flt k n => exact .flt k n
  | str s b h => exact .str s b h
  | nilp => exact .nilp
  | ptr i k o L h => exact .ptr i k o L (hs _ _ h)
  | iptr g cs o B O C T F d h hc hv ih => exact .iptr g cs o B O C T F d (hm _ _ h) hc ih
  | nils => exact .nils
  | emp a => exact .emp a
  | slc i k n c L a c' h ha hn hk hu => exact .slc i k n c L a c' (hs _ _ h) ha hn hk hu
  | isl0 g a c => exact .isl0 g a c
  | isl g es z B O C T F d c h hz hn hc hv ih => exact .isl g es z B O C T F d c (hm _ _ h) hz hn hc ih
  | nilm => exact .nilm
  | map i L h => exact .map i L (hs _ _ h)
  | func fn first cap f' c' d e hy hf hc hf1 hf2 hc1 hc2 ih1 ih2 => exact .func fn first cap f' c' d e hy hf hc hf1 ih1 hc1 ih2
  | nilf => exact .nilf
  | yld i L h => exact .yld i L (hs _ _ h)
  | ifc t v v' h ih => exact .ifc t v v' ih
  | nili => exact .nili
  | agg cs c' d hn h1 h2 ih => exact .agg cs c' d hn h1 ih
  | tup cs c' d hn h1 h2 ih => exact .tup cs c' d hn h1 ih

theorem VRs.mono {σ σ' : Emb} {M M' : Mem} (hs : σ.le σ') (hm : M.le M') {l : List AV} {a : Array Value} (h : VRs σ M l a) : VRs σ' M' l a :=
  ⟨h.1, fun j v hj => let ⟨v', h1, h2⟩ := h.2 j v hj; ⟨v', h1, h2.mono hs hm⟩⟩

theorem Emb.le_refl (σ : Emb) : σ.le σ := fun _ _ h => h
theorem Mem.le_refl (M : Mem) : M.le M := fun _ _ h => h
theorem Emb.le_trans {a b c : Emb} (h : a.le b) (k : b.le c) : a.le c := fun i L x => k i L (h i L x)
theorem Mem.le_trans {a b c : Mem} (h : a.le b) (k : b.le c) : a.le c := fun i L x => k i L (h i L x)

/-! lists -/
section
variable {σ : Emb} {M : Mem}

theorem choose_fun {l : List AV} {a : Array Value} (h : VRs σ M l a) :
    (∀ (j : Nat) (v : AV), l[j]? = some v → a[j]? = some ((fun j => a.getD j undef) j)) ∧ (∀ (j : Nat) (v : AV), l[j]? = some v → VR σ M v ((fun j => a.getD j undef) j)) := by
  constructor
  · intro j v hj
    obtain ⟨v', h1, h2⟩ := h.2 j v hj
    simp [Array.getD_eq_getD_getElem?, h1]
  · intro j v hj
    obtain ⟨v', h1, h2⟩ := h.2 j v hj
    simpa [Array.getD_eq_getD_getElem?, h1] using h2

theorem VR.agg' {l : List AV} {a : Array Value} (h : VRs σ M l a) : VR σ M (.agg l) (.agg a) := .agg l a _ h.1 (choose_fun h).1 (choose_fun h).2
theorem VR.tup' {l : List AV} {a : Array Value} (h : VRs σ M l a) : VR σ M (.tup l) (.tuple a) := .tup l a _ h.1 (choose_fun h).1 (choose_fun h).2
theorem VR.func' {fn : Fn} {f c : List AV} {f' c' : Array Value} (hy : ∀ l, fn ≠ .yield l) (hf : VRs σ M f f') (hc : VRs σ M c c') : VR σ M (.func fn f c) (.func fn f' c') :=
  .func fn f c f' c' _ _ hy hf.1 hc.1 (choose_fun hf).1 (choose_fun hf).2 (choose_fun hc).1 (choose_fun hc).2

theorem VR.agg_inv {l : List AV} {v : Value} (h : VR σ M (.agg l) v) : ∃ a, v = .agg a ∧ VRs σ M l a := by
  cases h with
  | agg _ c' d hn h1 h2 => exact ⟨c', rfl, hn, fun j v hj => ⟨d j, h1 j v hj, h2 j v hj⟩⟩
theorem VR.tup_inv {l : List AV} {v : Value} (h : VR σ M (.tup l) v) : ∃ a, v = .tuple a ∧ VRs σ M l a := by
  cases h with
  | tup _ c' d hn h1 h2 => exact ⟨c', rfl, hn, fun j v hj => ⟨d j, h1 j v hj, h2 j v hj⟩⟩
theorem VR.func_inv {fn : Fn} {f c : List AV} {v : Value} (h : VR σ M (.func fn f c) v) : ∃ f' c', v = .func fn f' c' ∧ VRs σ M f f' ∧ VRs σ M c c' ∧ ∀ l, fn ≠ .yield l := by
  cases h with
  | func _ _ _ f' c' d e hy hf hc hf1 hf2 hc1 hc2 => exact ⟨f', c', rfl, ⟨hf, fun j v hj => ⟨d j, hf1 j v hj, hf2 j v hj⟩⟩, ⟨hc, fun j v hj => ⟨e j, hc1 j v hj, hc2 j v hj⟩⟩, hy⟩

theorem VRs.nil : VRs σ M [] #[] := ⟨rfl, fun j v h => by simp at h⟩
theorem VRs.get {l : List AV} {a : Array Value} (h : VRs σ M l a) {j : Nat} {v : AV} (hj : l[j]? = some v) : ∃ v', a[j]? = some v' ∧ VR σ M v v' := h.2 j v hj
theorem VRs.snoc {l : List AV} {a : Array Value} {x : AV} {y : Value} (h : VRs σ M l a) (hx : VR σ M x y) : VRs σ M (l ++ [x]) (a.push y) := by
  refine ⟨by simp [h.1], fun j v hj => ?_⟩
  rcases Nat.lt_trichotomy j l.length with hlt | heq | hgt
  · rw [List.getElem?_append_left hlt] at hj
    obtain ⟨v', h1, h2⟩ := h.2 j v hj
    refine ⟨v', ?_, h2⟩
    rw [Array.getElem?_push, if_neg (by rw [h.1]; omega)]; exact h1
  · subst heq
    simp at hj; subst hj
    exact ⟨y, by rw [Array.getElem?_push, if_pos h.1.symm], hx⟩
  · rw [List.getElem?_eq_none (by simp; omega)] at hj; cases hj
theorem VRs.append {l m : List AV} {a b : Array Value} (h : VRs σ M l a) (k : VRs σ M m b) : VRs σ M (l ++ m) (a ++ b) := by
  refine ⟨by simp [h.1, k.1], fun j v hj => ?_⟩
  by_cases hlt : j < l.length
  · rw [List.getElem?_append_left hlt] at hj
    obtain ⟨v', h1, h2⟩ := h.2 j v hj
    exact ⟨v', by rw [Array.getElem?_append_left (by rw [h.1]; exact hlt)]; exact h1, h2⟩
  · rw [List.getElem?_append_right (by omega)] at hj
    obtain ⟨v', h1, h2⟩ := k.2 _ v hj
    exact ⟨v', by rw [Array.getElem?_append_right (by rw [h.1]; omega), h.1]; exact h1, h2⟩
theorem VRs.extract {l : List AV} {a : Array Value} (h : VRs σ M l a) (i n : Nat) (hi : i + n ≤ l.length) : VRs σ M ((l.drop i).take n) (a.extract i (i + n)) := by
  refine ⟨by simp [h.1]; omega, fun j v hj => ?_⟩
  have hjn : j < n := by
    rcases Nat.lt_or_ge j n with hh | hh
    · exact hh
    · rw [List.getElem?_eq_none (by simp; omega)] at hj; cases hj
  rw [List.getElem?_take_of_lt hjn, List.getElem?_drop] at hj
  obtain ⟨v', h1, h2⟩ := h.2 _ v hj
  refine ⟨v', ?_, h2⟩
  rw [Array.getElem?_extract, if_pos (by have := h.1; omega)]; exact h1
theorem VRs.len {l : List AV} {a : Array Value} (h : VRs σ M l a) : a.size = l.length := h.1
theorem VRs.set {l : List AV} {a : Array Value} {x : AV} {y : Value} (h : VRs σ M l a) (i : Nat) (hx : VR σ M x y) : VRs σ M (l.set i x) (a.setIfInBounds i y) := by
  refine ⟨by simp [h.1], fun j v hj => ?_⟩
  rw [List.getElem?_set] at hj
  by_cases e : i = j
  · subst e
    rw [if_pos rfl] at hj
    by_cases hl : i < l.length
    · rw [if_pos hl] at hj; cases hj
      exact ⟨y, by rw [Array.getElem?_setIfInBounds, if_pos rfl, if_pos (by rw [h.1]; exact hl)], hx⟩
    · rw [if_neg hl] at hj; cases hj
  · rw [if_neg e] at hj
    obtain ⟨v', h1, h2⟩ := h.2 j v hj
    exact ⟨v', by rw [Array.getElem?_setIfInBounds, if_neg e]; exact h1, h2⟩
theorem VRs.cons {l : List AV} {a : List Value} {x : AV} {y : Value} (hx : VR σ M x y) (h : VRs σ M l a.toArray) : VRs σ M (x :: l) (y :: a).toArray := by
  refine ⟨by have := h.1; simp at this; simp [this], fun j v hj => ?_⟩
  cases j with
  | zero => simp at hj; subst hj; exact ⟨y, by simp, hx⟩
  | succ j =>
    simp at hj
    obtain ⟨v', h1, h2⟩ := h.2 j v hj
    exact ⟨v', by simpa using h1, h2⟩
theorem VRs.map_of {α : Type} (xs : Array α) (f : α → AV) (g : α → Value) (h : ∀ x ∈ xs, VR σ M (f x) (g x)) : VRs σ M (xs.toList.map f) (xs.map g) := by
  refine ⟨by simp, fun j v hj => ?_⟩
  rw [List.getElem?_map] at hj
  cases hx : xs[j]? with
  | none => simp [hx] at hj
  | some x =>
    simp [hx] at hj; subst hj
    exact ⟨g x, by simp [hx], h x (Array.mem_of_getElem? hx)⟩
end
end Go.L
