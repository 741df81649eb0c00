/- The logic L (of no program), and plain laws: texts put together; no conditions. -/
import Derived.WalkKit
import Derived.CallsIn
import Derived.DefersIn
import Derived.RangeFuncIn
import Derived.Lib.DecodeN
import Derived.Lib.LaidTab
import Derived.Lib.ItoaNum
import Derived.Lib.Bytealg
import Derived.Lib.Strings
import Derived.RangeFuncCalls
import Derived.MapKept
namespace Go.L
inductive AV where
 | bool (b : Bool)
 | int (k : IntKind) (n : Int)
 | flt (k : FloatKind) (bits : Nat)
 | str (s : List UInt8)
 | nilp
 | ptr (i k o : Nat)
 | iptr (g : Nat) (cs : List AV) (o : Nat)
 | nils
 | emp
 | slc (i k n : Nat) (c : Option Nat)
 | isl (g : Nat) (es : List (List AV))
 | nilm
 | map (i : Nat)
 | func (fn : Fn) (first cap : List AV)
 | nilf
 | yld (i : Nat)
 | ifc (t : TypeId) (v : AV)
 | nili
 | agg (cs : List AV)
 | tup (vs : List AV)
 | any
 deriving Inhabited
structure Loc where
 b : Nat
 o : Nat
 s : Nat
 z : Nat
abbrev Emb := Nat → Option Loc
abbrev Mem := Nat → Option (Obj × Nat)
inductive VR (σ : Emb) (M : Mem) : AV → Value → Prop
 | bool (b : Bool) : VR σ M (.bool b) (.bool b)
 | int (k : IntKind) (n : Int) : VR σ M (.int k n) (.int k n)
 | flt (k : FloatKind) (n : Nat) : VR σ M (.flt k n) (.float k n)
 | str (s : List UInt8) (b : ByteArray) (h : b.data.toList = s) : VR σ M (.str s) (.string b)
 | nilp : VR σ M .nilp (.pointer none)
 | ptr (i k o : Nat) (L : Loc) (h : σ i = some L) : VR σ M (.ptr i k o) (.pointer (some ⟨L.b, L.o + k * L.z + o, none⟩))
 | iptr (g : Nat) (cs : List AV) (o B O : Nat) (C : Array Value) (T : TypeId) (F : Nat × Nat) (d : Nat → Value) (h : M B = some (.cells C T F, g))
   (hc : ∀ (j : Nat) (v : AV), cs[j]? = some v → C[O + j]? = some (d j)) (hv : ∀ (j : Nat) (v : AV), cs[j]? = some v → VR σ M v (d j)) :
   VR σ M (.iptr g cs o) (.pointer (some ⟨B, O + o, none⟩))
 | nils : VR σ M .nils (.slice none 0 0)
 | emp (a : Option Addr) : VR σ M .emp (.slice a 0 0)
 | slc (i k n : Nat) (c : Option Nat) (L : Loc) (a : Addr) (c' : Nat) (h : σ i = some L) (ha : c' ≠ 0 → a = ⟨L.b, L.o + k * L.z, none⟩) (hn : n ≤ c')
   (hk : ∀ x, c = some x → c' = x) (hu : c = none → L.o + (k + c') * L.z ≤ L.s) : VR σ M (.slc i k n c) (.slice (some a) n c')
 | isl0 (g : Nat) (a : Option Addr) (c : Nat) : VR σ M (.isl g []) (.slice a 0 c)
 | isl (g : Nat) (es : List (List AV)) (z B O : Nat) (C : Array Value) (T : TypeId) (F : Nat × Nat) (d : Nat → Nat → Value) (c : Nat) (h : M B = some (.cells C T F, g))
   (hz : ∀ (k : Nat) (cs : List AV), es[k]? = some cs → cs.length = z) (hn : es.length ≤ c)
   (hc : ∀ (k : Nat) (cs : List AV) (j : Nat) (v : AV), es[k]? = some cs → cs[j]? = some v → C[O + k * z + j]? = some (d k j))
   (hv : ∀ (k : Nat) (cs : List AV) (j : Nat) (v : AV), es[k]? = some cs → cs[j]? = some v → VR σ M v (d k j)) :
   VR σ M (.isl g es) (.slice (some ⟨B, O, none⟩) es.length c)
 | nilm : VR σ M .nilm (.map none)
 | map (i : Nat) (L : Loc) (h : σ i = some L) : VR σ M (.map i) (.map (some L.b))
 | func (fn : Fn) (first cap : List AV) (f' c' : Array Value) (d e : Nat → Value) (hy : ∀ l, fn ≠ .yield l) (hf : f'.size = first.length) (hc : c'.size = cap.length)
   (hf1 : ∀ (j : Nat) (v : AV), first[j]? = some v → f'[j]? = some (d j)) (hf2 : ∀ (j : Nat) (v : AV), first[j]? = some v → VR σ M v (d j))
   (hc1 : ∀ (j : Nat) (v : AV), cap[j]? = some v → c'[j]? = some (e j)) (hc2 : ∀ (j : Nat) (v : AV), cap[j]? = some v → VR σ M v (e j)) :
   VR σ M (.func fn first cap) (.func fn f' c')
 | nilf : VR σ M .nilf .nilFunc
 | yld (i : Nat) (L : Loc) (h : σ i = some L) : VR σ M (.yld i) (.func (.yield L.b) #[] #[])
 | ifc (t : TypeId) (v : AV) (v' : Value) (h : VR σ M v v') : VR σ M (.ifc t v) (.iface t v')
 | nili : VR σ M .nili .nilIface
 | agg (cs : List AV) (c' : Array Value) (d : Nat → Value) (hn : c'.size = cs.length) (h1 : ∀ (j : Nat) (v : AV), cs[j]? = some v → c'[j]? = some (d j)) (h2 : ∀ (j : Nat) (v : AV), cs[j]? = some v → VR σ M v (d j)) :
   VR σ M (.agg cs) (.agg c')
 | tup (cs : List AV) (c' : Array Value) (d : Nat → Value) (hn : c'.size = cs.length) (h1 : ∀ (j : Nat) (v : AV), cs[j]? = some v → c'[j]? = some (d j)) (h2 : ∀ (j : Nat) (v : AV), cs[j]? = some v → VR σ M v (d j)) :
   VR σ M (.tup cs) (.tuple c')
 | any (v : Value) : VR σ M .any v
def VRs (σ : Emb) (M : Mem) (l : List AV) (a : Array Value) : Prop := a.size = l.length ∧ ∀ (j : Nat) (v : AV), l[j]? = some v → ∃ v', a[j]? = some v' ∧ VR σ M v v'
def Emb.le (σ σ' : Emb) : Prop := ∀ i L, σ i = some L → σ' i = some L
def Mem.le (M M' : Mem) : Prop := ∀ B o, M B = some o → M' B = some o
theorem VR.mono {σ σ' : Emb} {M M' : Mem} (hs : σ.le σ') (hm : M.le M') {a : AV} {v : Value} (h : VR σ M a v) : VR σ' M' a v := by
 induction h with
 | bool b => exact .bool b
 | int k n => exact .int k n
 | flt k n => exact .flt k n
 | str s b h => exact .str s b h
 | nilp => exact .nilp
 | ptr i k o L h => exact .ptr i k o L (hs _ _ h)
 | iptr g cs o B O C T F d h hc hv ih => exact .iptr g cs o B O C T F d (hm _ _ h) hc ih
 | nils => exact .nils
 | emp a => exact .emp a
 | slc i k n c L a c' h ha hn hk hu => exact .slc i k n c L a c' (hs _ _ h) ha hn hk hu
 | isl0 g a c => exact .isl0 g a c
 | isl g es z B O C T F d c h hz hn hc hv ih => exact .isl g es z B O C T F d c (hm _ _ h) hz hn hc ih
 | nilm => exact .nilm
 | map i L h => exact .map i L (hs _ _ h)
 | func fn first cap f' c' d e hy hf hc hf1 hf2 hc1 hc2 ih1 ih2 => exact .func fn first cap f' c' d e hy hf hc hf1 ih1 hc1 ih2
 | nilf => exact .nilf
 | yld i L h => exact .yld i L (hs _ _ h)
 | ifc t v v' h ih => exact .ifc t v v' ih
 | nili => exact .nili
 | agg cs c' d hn h1 h2 ih => exact .agg cs c' d hn h1 ih
 | tup cs c' d hn h1 h2 ih => exact .tup cs c' d hn h1 ih
 | any v => exact .any v
theorem VRs.mono {σ σ' : Emb} {M M' : Mem} (hs : σ.le σ') (hm : M.le M') {l : List AV} {a : Array Value} (h : VRs σ M l a) : VRs σ' M' l a :=
 ⟨h.1, fun j v hj => let ⟨v', h1, h2⟩ := h.2 j v hj; ⟨v', h1, h2.mono hs hm⟩⟩
theorem Emb.le_refl (σ : Emb) : σ.le σ := fun _ _ h => h
theorem Mem.le_refl (M : Mem) : M.le M := fun _ _ h => h
theorem Emb.le_trans {a b c : Emb} (h : a.le b) (k : b.le c) : a.le c := fun i L x => k i L (h i L x)
theorem Mem.le_trans {a b c : Mem} (h : a.le b) (k : b.le c) : a.le c := fun i L x => k i L (h i L x)
section
variable {σ : Emb} {M : Mem}
theorem choose_fun {l : List AV} {a : Array Value} (h : VRs σ M l a) :
  (∀ (j : Nat) (v : AV), l[j]? = some v → a[j]? = some ((fun j => a.getD j undef) j)) ∧ (∀ (j : Nat) (v : AV), l[j]? = some v → VR σ M v ((fun j => a.getD j undef) j)) := by
 constructor
 ·intro j v hj
  obtain ⟨v', h1, h2⟩ := h.2 j v hj
  simp [Array.getD_eq_getD_getElem?, h1]
 ·intro j v hj
  obtain ⟨v', h1, h2⟩ := h.2 j v hj
  simpa [Array.getD_eq_getD_getElem?, h1] using h2
theorem VR.agg' {l : List AV} {a : Array Value} (h : VRs σ M l a) : VR σ M (.agg l) (.agg a) := .agg l a _ h.1 (choose_fun h).1 (choose_fun h).2
theorem VR.tup' {l : List AV} {a : Array Value} (h : VRs σ M l a) : VR σ M (.tup l) (.tuple a) := .tup l a _ h.1 (choose_fun h).1 (choose_fun h).2
theorem VR.func' {fn : Fn} {f c : List AV} {f' c' : Array Value} (hy : ∀ l, fn ≠ .yield l) (hf : VRs σ M f f') (hc : VRs σ M c c') : VR σ M (.func fn f c) (.func fn f' c') :=
 .func fn f c f' c' _ _ hy hf.1 hc.1 (choose_fun hf).1 (choose_fun hf).2 (choose_fun hc).1 (choose_fun hc).2
theorem VR.agg_inv {l : List AV} {v : Value} (h : VR σ M (.agg l) v) : ∃ a, v = .agg a ∧ VRs σ M l a := by
 cases h with
 | agg _ c' d hn h1 h2 => exact ⟨c', rfl, hn, fun j v hj => ⟨d j, h1 j v hj, h2 j v hj⟩⟩
theorem VR.tup_inv {l : List AV} {v : Value} (h : VR σ M (.tup l) v) : ∃ a, v = .tuple a ∧ VRs σ M l a := by
 cases h with
 | tup _ c' d hn h1 h2 => exact ⟨c', rfl, hn, fun j v hj => ⟨d j, h1 j v hj, h2 j v hj⟩⟩
theorem VR.func_inv {fn : Fn} {f c : List AV} {v : Value} (h : VR σ M (.func fn f c) v) : ∃ f' c', v = .func fn f' c' ∧ VRs σ M f f' ∧ VRs σ M c c' ∧ ∀ l, fn ≠ .yield l := by
 cases h with
 | func _ _ _ f' c' d e hy hf hc hf1 hf2 hc1 hc2 => exact ⟨f', c', rfl, ⟨hf, fun j v hj => ⟨d j, hf1 j v hj, hf2 j v hj⟩⟩, ⟨hc, fun j v hj => ⟨e j, hc1 j v hj, hc2 j v hj⟩⟩, hy⟩
theorem VRs.nil : VRs σ M [] #[] := ⟨rfl, fun j v h => by simp at h⟩
theorem VRs.get {l : List AV} {a : Array Value} (h : VRs σ M l a) {j : Nat} {v : AV} (hj : l[j]? = some v) : ∃ v', a[j]? = some v' ∧ VR σ M v v' := h.2 j v hj
theorem VRs.snoc {l : List AV} {a : Array Value} {x : AV} {y : Value} (h : VRs σ M l a) (hx : VR σ M x y) : VRs σ M (l ++ [x]) (a.push y) := by
 refine ⟨by simp [h.1], fun j v hj => ?_⟩
 rcases Nat.lt_trichotomy j l.length with hlt | heq | hgt
 ·rw [List.getElem?_append_left hlt] at hj
  obtain ⟨v', h1, h2⟩ := h.2 j v hj
  refine ⟨v', ?_, h2⟩
  rw [Array.getElem?_push, if_neg (by rw [h.1]; omega)]; exact h1
 ·subst heq
  simp at hj; subst hj
  exact ⟨y, by rw [Array.getElem?_push, if_pos h.1.symm], hx⟩
 ·rw [List.getElem?_eq_none (by simp; omega)] at hj; cases hj
theorem VRs.append {l m : List AV} {a b : Array Value} (h : VRs σ M l a) (k : VRs σ M m b) : VRs σ M (l ++ m) (a ++ b) := by
 refine ⟨by simp [h.1, k.1], fun j v hj => ?_⟩
 by_cases hlt : j < l.length
 ·rw [List.getElem?_append_left hlt] at hj
  obtain ⟨v', h1, h2⟩ := h.2 j v hj
  exact ⟨v', by rw [Array.getElem?_append_left (by rw [h.1]; exact hlt)]; exact h1, h2⟩
 ·rw [List.getElem?_append_right (by omega)] at hj
  obtain ⟨v', h1, h2⟩ := k.2 _ v hj
  exact ⟨v', by rw [Array.getElem?_append_right (by rw [h.1]; omega), h.1]; exact h1, h2⟩
theorem VRs.extract {l : List AV} {a : Array Value} (h : VRs σ M l a) (i n : Nat) (hi : i + n ≤ l.length) : VRs σ M ((l.drop i).take n) (a.extract i (i + n)) := by
 refine ⟨by simp [h.1]; omega, fun j v hj => ?_⟩
 have hjn : j < n := by
  rcases Nat.lt_or_ge j n with hh | hh
  ·exact hh
  ·rw [List.getElem?_eq_none (by simp; omega)] at hj; cases hj
 rw [List.getElem?_take_of_lt hjn, List.getElem?_drop] at hj
 obtain ⟨v', h1, h2⟩ := h.2 _ v hj
 refine ⟨v', ?_, h2⟩
 rw [Array.getElem?_extract, if_pos (by have := h.1; omega)]; exact h1
theorem VRs.len {l : List AV} {a : Array Value} (h : VRs σ M l a) : a.size = l.length := h.1
theorem VRs.set {l : List AV} {a : Array Value} {x : AV} {y : Value} (h : VRs σ M l a) (i : Nat) (hx : VR σ M x y) : VRs σ M (l.set i x) (a.setIfInBounds i y) := by
 refine ⟨by simp [h.1], fun j v hj => ?_⟩
 rw [List.getElem?_set] at hj
 by_cases e : i = j
 ·subst e
  rw [if_pos rfl] at hj
  by_cases hl : i < l.length
  ·rw [if_pos hl] at hj; cases hj
   exact ⟨y, by rw [Array.getElem?_setIfInBounds, if_pos rfl, if_pos (by rw [h.1]; exact hl)], hx⟩
  ·rw [if_neg hl] at hj; cases hj
 ·rw [if_neg e] at hj
  obtain ⟨v', h1, h2⟩ := h.2 j v hj
  exact ⟨v', by rw [Array.getElem?_setIfInBounds, if_neg e]; exact h1, h2⟩
theorem VRs.cons {l : List AV} {a : List Value} {x : AV} {y : Value} (hx : VR σ M x y) (h : VRs σ M l a.toArray) : VRs σ M (x :: l) (y :: a).toArray := by
 refine ⟨by have := h.1; simp at this; simp [this], fun j v hj => ?_⟩
 cases j with
 | zero => simp at hj; subst hj; exact ⟨y, by simp, hx⟩
 | succ j =>
  simp at hj
  obtain ⟨v', h1, h2⟩ := h.2 j v hj
  exact ⟨v', by simpa using h1, h2⟩
theorem VRs.map_of {α : Type} (xs : Array α) (f : α → AV) (g : α → Value) (h : ∀ x ∈ xs, VR σ M (f x) (g x)) : VRs σ M (xs.toList.map f) (xs.map g) := by
 refine ⟨by simp, fun j v hj => ?_⟩
 rw [List.getElem?_map] at hj
 cases hx : xs[j]? with
 | none => simp [hx] at hj
 | some x =>
  simp [hx] at hj; subst hj
  exact ⟨g x, by simp [hx], h x (Array.mem_of_getElem? hx)⟩
end
end Go.L

namespace Go.L
inductive Jmp where
 | ret
 | exit (id : Nat)
def JmpR : Option Jmp → Option Code → Prop
 | none, none => True
 | some .ret, some .ret => True
 | some (.exit i), some (.exit j) => i = j
 | _, _ => False
inductive LSt where
 | ready
 | busy
 | done
 | over
 deriving DecidableEq, Inhabited
def LStR : LSt → LoopState → Prop
 | .ready, .ready => True
 | .busy, .busy => True
 | .done, .done => True
 | .over, .exhausted => True
 | _, _ => False
inductive Blk where
 | row (T : TypeId) (es : List (List AV))
 | map (es : List (AV × AV × Nat)) (clock : Nat)
 | mapIter (m : Option Nat) (since : Nat) (seen : List Nat) (stepped : Nat)
 | strIter (s : List UInt8) (pos : Nat)
 | loop (n : Nat) (t : Nat → AV) (ps : List Nat) (K : Code → Code → Prop) (st : LSt) (pend : Option Jmp)
 | dfr
 deriving Inhabited
structure Hp where
 m : Nat → Option Blk
 u : Nat → Bool
 ok : ∀ i, u i = false → m i = none
 cof : ∃ n, ∀ i, n ≤ i → u i = false
instance : CoeFun Hp (fun _ => Nat → Option Blk) := ⟨Hp.m⟩
def Hp.set (h : Hp) (i : Nat) (b : Blk) : Hp where
 m := fun j => if j = i then some b else h.m j
 u := fun j => if j = i then true else h.u j
 ok := fun j hj => by by_cases e : j = i <;> simp [e] at hj ⊢; exact h.ok j hj
 cof := let ⟨n, hn⟩ := h.cof; ⟨max n (i + 1), fun j hj => by simp [show j ≠ i by omega, hn j (by omega)]⟩
def Hp.del (h : Hp) (i : Nat) : Hp where
 m := fun j => if j = i then none else h.m j
 u := h.u
 ok := fun j hj => by by_cases e : j = i <;> simp [e]; exact h.ok j hj
 cof := h.cof
def Hp.nil : Hp := ⟨fun _ => none, fun _ => false, fun _ _ => rfl, 0, fun _ _ => rfl⟩
def Fresh (h : Hp) (i : Nat) : Prop := h.u i = false ∧ h i = none
def allocN (md : Bool) (h : Hp) (f : Nat → Prop) : Prop := match md with
 | false => ∀ i, Fresh h i → f i
 | true => ∃ i, Fresh h i ∧ f i
theorem allocN.mono' {md : Bool} {h : Hp} {f g : Nat → Prop} (k : allocN md h f) (hfg : ∀ i, Fresh h i → f i → g i) : allocN md h g := by
 cases md with
 | false => exact fun i hi => hfg i hi (k i hi)
 | true => exact let ⟨i, hi, hf⟩ := k; ⟨i, hi, hfg i hi hf⟩
theorem allocN.mono {md : Bool} {h : Hp} {f g : Nat → Prop} (k : allocN md h f) (hfg : ∀ i, f i → g i) : allocN md h g := k.mono' fun i _ => hfg i
theorem Hp.free (h : Hp) : ∃ i, Fresh h i := let ⟨n, hn⟩ := h.cof; ⟨n, hn n (Nat.le_refl _), h.ok n (hn n (Nat.le_refl _))⟩
theorem allocN.one {md : Bool} {h : Hp} {f : Nat → Prop} (k : allocN md h f) : ∃ i, Fresh h i ∧ f i := by
 cases md with
 | false => obtain ⟨i, hi⟩ := h.free; exact ⟨i, hi, k i hi⟩
 | true => exact k
@[simp] theorem Hp.set_same (h : Hp) (i : Nat) (b : Blk) : h.set i b i = some b := by simp [Hp.set]
theorem Hp.set_ne {h : Hp} {i j : Nat} {b : Blk} (hn : j ≠ i) : h.set i b j = h j := by simp [Hp.set, hn]
@[simp] theorem Hp.del_same (h : Hp) (i : Nat) : h.del i i = none := by simp [Hp.del]
theorem Hp.del_ne {h : Hp} {i j : Nat} (hn : j ≠ i) : h.del i j = h j := by simp [Hp.del, hn]
@[simp] theorem Hp.set_u (h : Hp) (i : Nat) (b : Blk) (j : Nat) : (h.set i b).u j = if j = i then true else h.u j := rfl
@[simp] theorem Hp.del_u (h : Hp) (i : Nat) : (h.del i).u = h.u := rfl
theorem Hp.ext {h k : Hp} (hm : ∀ i, h i = k i) (hu : ∀ i, h.u i = k.u i) : h = k := by
 cases h; cases k; simp only [Hp.mk.injEq]; exact ⟨funext hm, funext hu⟩
@[simp] theorem Hp.set_set (h : Hp) (i : Nat) (b c : Blk) : (h.set i b).set i c = h.set i c := by
 refine Hp.ext (fun j => ?_) (fun j => ?_) <;> by_cases e : j = i <;> simp [Hp.set, e]
def allocK (md : Bool) (h : Hp) (K : Nat) (f : Nat → Prop) : Prop := match md with
 | false => ∀ b, (∀ i, i < K → Fresh h (b + i)) → f b
 | true => ∃ b, (∀ i, i < K → Fresh h (b + i)) ∧ f b
theorem allocK.mono' {md : Bool} {h : Hp} {K : Nat} {f g : Nat → Prop} (k : allocK md h K f) (hfg : ∀ b, (∀ i, i < K → Fresh h (b + i)) → f b → g b) : allocK md h K g := by
 cases md with
 | false => exact fun b hb => hfg b hb (k b hb)
 | true => exact let ⟨b, hb, hf⟩ := k; ⟨b, hb, hfg b hb hf⟩
theorem allocK.mono {md : Bool} {h : Hp} {K : Nat} {f g : Nat → Prop} (k : allocK md h K f) (hfg : ∀ b, f b → g b) : allocK md h K g := k.mono' fun b _ => hfg b
theorem allocK.one {md : Bool} {h : Hp} {K : Nat} {f : Nat → Prop} (k : allocK md h K f) : ∃ b, (∀ i, i < K → Fresh h (b + i)) ∧ f b := by
 cases md with
 | false =>
  obtain ⟨n, hn⟩ := h.cof
  have hb : ∀ i, i < K → Fresh h (n + i) := fun i _ => ⟨hn _ (by omega), h.ok _ (hn _ (by omega))⟩
  exact ⟨n, hb, k n hb⟩
 | true => exact k
theorem allocN_K {md : Bool} {h : Hp} {f : Nat → Prop} : allocN md h f ↔ allocK md h 1 f := by
 have key : ∀ b, (∀ i, i < 1 → Fresh h (b + i)) ↔ Fresh h b := fun b => ⟨fun k => k 0 (by omega), fun k i hi => by
  have : i = 0 := by omega
  subst this; exact k⟩
 cases md with
 | false => exact ⟨fun k b hb => k b ((key b).1 hb), fun k b hb => k b ((key b).2 hb)⟩
 | true => exact ⟨fun ⟨b, hb, hf⟩ => ⟨b, (key b).2 hb, hf⟩, fun ⟨b, hb, hf⟩ => ⟨b, (key b).1 hb, hf⟩⟩
def Hp.adopt (h : Hp) (b K : Nat) (B : Nat → Option Blk) : Hp where
 m := fun j => if b ≤ j ∧ j < b + K then B (j - b) else h.m j
 u := fun j => if b ≤ j ∧ j < b + K then true else h.u j
 ok := fun j hj => by
  by_cases e : b ≤ j ∧ j < b + K
  ·simp [e] at hj
  ·simp [e] at hj ⊢; exact h.ok j hj
 cof := let ⟨n, hn⟩ := h.cof; ⟨max n (b + K), fun j hj => by rw [if_neg (by omega)]; exact hn j (by omega)⟩
theorem Hp.adopt_in {h : Hp} {b K : Nat} {B : Nat → Option Blk} {j : Nat} (hj : b ≤ j ∧ j < b + K) : h.adopt b K B j = B (j - b) := if_pos hj
theorem Hp.adopt_out {h : Hp} {b K : Nat} {B : Nat → Option Blk} {j : Nat} (hj : ¬ (b ≤ j ∧ j < b + K)) : h.adopt b K B j = h j := if_neg hj
theorem Hp.adopt_one (h : Hp) (a : Nat) (x : Blk) : h.adopt a 1 (fun _ => some x) = h.set a x := by
 refine Hp.ext (fun j => ?_) (fun j => ?_)
 ·by_cases e : j = a
  ·subst e; rw [Hp.adopt_in (by omega), Hp.set_same]
  ·rw [Hp.adopt_out (by omega), Hp.set_ne e]
 ·show (if a ≤ j ∧ j < a + 1 then true else h.u j) = if j = a then true else h.u j
  by_cases e : j = a
  ·rw [if_pos (by omega), if_pos e]
  ·rw [if_neg (by omega), if_neg e]
theorem Hp.adopt_comm {h : Hp} {a K b L : Nat} {A B : Nat → Option Blk} (hd : ∀ j, ¬ ((a ≤ j ∧ j < a + K) ∧ (b ≤ j ∧ j < b + L))) : (h.adopt a K A).adopt b L B = (h.adopt b L B).adopt a K A := by
 refine Hp.ext (fun j => ?_) (fun j => ?_)
 ·by_cases e1 : a ≤ j ∧ j < a + K
  ·have e2 : ¬ (b ≤ j ∧ j < b + L) := fun e2 => hd j ⟨e1, e2⟩
   rw [Hp.adopt_out e2, Hp.adopt_in e1, Hp.adopt_in e1]
  ·by_cases e2 : b ≤ j ∧ j < b + L
   ·rw [Hp.adopt_in e2, Hp.adopt_out e1, Hp.adopt_in e2]
   ·rw [Hp.adopt_out e2, Hp.adopt_out e1, Hp.adopt_out e1, Hp.adopt_out e2]
 ·show (if b ≤ j ∧ j < b + L then true else if a ≤ j ∧ j < a + K then true else h.u j) = if a ≤ j ∧ j < a + K then true else if b ≤ j ∧ j < b + L then true else h.u j
  by_cases e1 : a ≤ j ∧ j < a + K <;> by_cases e2 : b ≤ j ∧ j < b + L <;> simp [e1, e2]
theorem Hp.adopt_u (h : Hp) (b K : Nat) (B : Nat → Option Blk) (j : Nat) : (h.adopt b K B).u j = if b ≤ j ∧ j < b + K then true else h.u j := rfl
theorem Fresh.adopt {h : Hp} {b K : Nat} {B : Nat → Option Blk} {j : Nat} (hf : Fresh (h.adopt b K B) j) : Fresh h j ∧ ¬ (b ≤ j ∧ j < b + K) := by
 have h1 := hf.1
 have h2 := hf.2
 rw [Hp.adopt_u] at h1
 split at h1
 ·cases h1
 ·rename_i hn
  rw [Hp.adopt_out hn] at h2
  exact ⟨⟨h1, h2⟩, hn⟩
theorem Fresh.of_adopt {h : Hp} {b K : Nat} {B : Nat → Option Blk} {j : Nat} (hf : Fresh h j) (hn : ¬ (b ≤ j ∧ j < b + K)) : Fresh (h.adopt b K B) j :=
 ⟨by rw [Hp.adopt_u, if_neg hn]; exact hf.1, by rw [Hp.adopt_out hn]; exact hf.2⟩
def Unf (F : Nat × Nat) (s : Nat) : Prop := F.1 = F.2 ∨ s ≤ F.1
theorem Unf.at {F : Nat × Nat} {s : Nat} (h : Unf F s) (x : Nat) (hx : x < s) : ¬ (F.1 ≤ x ∧ x < F.2) := by
 rcases h with h | h <;> omega
def BlkR (P : Program) (σ : Emb) (M : Mem) (w : World) (L : Loc) : Blk → Prop
 | .row T es => ∃ (C : Array Value) (F : Nat × Nat), w.heap[L.b]? = some (.cells C T F) ∧ C.size = L.s ∧ (P.info? T).map (·.size) = some L.z ∧ L.o + es.length * L.z ≤ L.s ∧
   (∀ (k : Nat) (cs : List AV), es[k]? = some cs → VRs σ M cs (C.extract (L.o + k * L.z) (L.o + k * L.z + L.z)) ∧ cs.length = L.z) ∧
   Unf F L.s
 | .map es clock => ∃ (es' : Array MapEntry), w.heap[L.b]? = some (.map es' clock) ∧ es'.size = es.length ∧
   ∀ (j : Nat) (k v : AV) (n : Nat), es[j]? = some (k, v, n) → ∃ e : MapEntry, es'[j]? = some e ∧ VR σ M k e.key ∧ VR σ M v e.val ∧ e.born = n
 | .mapIter m since seen stepped => L.o = 0 ∧ ∃ m' : Option Nat, w.heap[L.b]? = some (.mapIter m' since seen.toArray stepped) ∧
   (match m with | none => m' = none | some i => ∃ K, σ i = some K ∧ m' = some K.b)
 | .strIter s pos => L.o = 0 ∧ ∃ b : ByteArray, w.heap[L.b]? = some (.stringIter b pos) ∧ b.data.toList = s
 | .loop n t ps K st pend => ∃ (r : Loop), w.heap[L.b]? = some (.loop r) ∧ LStR st r.state ∧ JmpR pend r.pending ∧ r.params.toList = ps ∧ K r.assign r.body ∧ r.tmps.size = n ∧
   ∀ x, VR σ M (t x) (r.tmps.getD x undef)
 | .dfr => w.heap[L.b]? = some (.deferred (some []))
def Tabs8 (g3 g4 : Nat) (w : World) : Prop :=
 (∀ c, c < 256 → w.cell? ⟨g3, c, none⟩ = some (.int .u8 (Lib.firstT c))) ∧
 (∀ i, i < 16 → w.cell? ⟨g4, 2 * i, none⟩ = some (.int .u8 (Lib.accLo i)) ∧ w.cell? ⟨g4, 2 * i + 1, none⟩ = some (.int .u8 (Lib.accHi i)))
def MemR (M : Mem) (w : World) : Prop := ∀ B o, M B = some o → w.heap[B]? = some o.1
def Pow10W (P : Program) (w : World) : Prop := P.globalNamed "internal/strconv.uint64pow10" ≠ none → Lib.TabIs P w "internal/strconv.uint64pow10" .u64 Lib.pow10Tab
def Glb (P : Program) (M : Mem) : Prop := (∀ g3 g4, P.globalNamed "unicode/utf8.first" = some g3 → P.globalNamed "unicode/utf8.acceptRanges" = some g4 → ∀ w, MemR M w → Tabs8 g3 g4 w) ∧ ∀ w, MemR M w → Pow10W P w
theorem Glb.of {P : Program} {M M' : Mem} (h : Glb P M) (hm : ∀ B o, M B = some o → ∃ g, M' B = some (o.1, g)) : Glb P M' :=
 ⟨fun g3 g4 h3 h4 w hw => h.1 g3 g4 h3 h4 w fun B o hB => let ⟨g, hg⟩ := hm B o hB; hw B (o.1, g) hg, fun w hw => h.2 w fun B o hB => let ⟨g, hg⟩ := hm B o hB; hw B (o.1, g) hg⟩
theorem Glb.mono {P : Program} {M M' : Mem} (h : Glb P M) (hm : M.le M') : Glb P M' := ⟨fun g3 g4 h3 h4 w hw => h.1 g3 g4 h3 h4 w fun B o hB => hw B o (hm B o hB), fun w hw => h.2 w fun B o hB => hw B o (hm B o hB)⟩
structure R (P : Program) (σ : Emb) (M : Mem) (h : Hp) (w : World) : Prop where
 fin : ∀ i, h.u i = false → σ i = none
 dom : ∀ i b, h i = some b → ∃ L, σ i = some L
 mem : ∀ B o, M B = some o → w.heap[B]? = some o.1
 sep : ∀ i b L, h i = some b → σ i = some L → M L.b = none
 inj : ∀ i j bi bj Li Lj, h i = some bi → h j = some bj → σ i = some Li → σ j = some Lj → Li.b = Lj.b → i = j
 blk : ∀ i b L, h i = some b → σ i = some L → BlkR P σ M w L b
 al : ∀ i b L, h i = some b → σ i = some L → ∃ q, L.o = q * L.z
 glb : Glb P M
structure Ext (σ : Emb) (M : Mem) (w : World) (σ' : Emb) (M' : Mem) (w' : World) : Prop where
 s : σ.le σ'
 m : M.le M'
 size : w.heap.size ≤ w'.heap.size
 os : w'.os = w.os
 tape : w'.tape = w.tape
 output : w'.output = w.output
theorem Ext.refl (σ : Emb) (M : Mem) (w : World) : Ext σ M w σ M w := ⟨σ.le_refl, M.le_refl, Nat.le_refl _, rfl, rfl, rfl⟩
theorem Ext.trans {σ σ1 σ2 : Emb} {M M1 M2 : Mem} {w w1 w2 : World} (h : Ext σ M w σ1 M1 w1) (k : Ext σ1 M1 w1 σ2 M2 w2) : Ext σ M w σ2 M2 w2 :=
 ⟨Emb.le_trans h.s k.s, Mem.le_trans h.m k.m, Nat.le_trans h.size k.size, k.os.trans h.os, k.tape.trans h.tape, k.output.trans h.output⟩
inductive ADef where
 | call (fn : Fn) (cap args : List AV)
 | mark (i : Nat)
structure Env where
 n : Nat
 t : Nat → AV
 ds : List ADef
def Env.put (e : Env) (d : Option Nat) (v : AV) : Env :=
 match d with
 | none => e
 | some d => { e with t := fun x => cond (Nat.beq x d) v (e.t x) }
def DefR (σ : Emb) (M : Mem) : ADef → Deferred → Prop
 | .call fn cap args, d' => (∃ c', d'.target = .fn fn c' ∧ VRs σ M cap c') ∧ VRs σ M args d'.args
 | .mark i, d' => ∃ L, σ i = some L ∧ d'.target = .collected L.b
structure ActR (σ : Emb) (M : Mem) (e : Env) (a : Act) : Prop where
 n : a.tmps.size = e.n
 t : ∀ x, VR σ M (e.t x) (a.tmps.getD x undef)
 dl : a.defers.length = e.ds.length
 d : ∀ (j : Nat) (x : ADef), e.ds[j]? = some x → ∃ y, a.defers[j]? = some y ∧ DefR σ M x y
theorem DefR.mono {σ σ' : Emb} {M M' : Mem} (hs : σ.le σ') (hm : M.le M') {d : ADef} {d' : Deferred} (h : DefR σ M d d') : DefR σ' M' d d' := by
 cases d with
 | call fn cap args => exact ⟨let ⟨c', h1, h2⟩ := h.1; ⟨c', h1, h2.mono hs hm⟩, h.2.mono hs hm⟩
 | mark i => exact let ⟨L, h1, h2⟩ := h; ⟨L, hs _ _ h1, h2⟩
theorem ActR.mono {σ σ' : Emb} {M M' : Mem} (hs : σ.le σ') (hm : M.le M') {e : Env} {a : Act} (h : ActR σ M e a) : ActR σ' M' e a :=
 ⟨h.n, fun x => (h.t x).mono hs hm, h.dl, fun j x hj => let ⟨y, h1, h2⟩ := h.d j x hj; ⟨y, h1, h2.mono hs hm⟩⟩
theorem ActR.put {σ : Emb} {M : Mem} {e : Env} {a : Act} (h : ActR σ M e a) {d : Option Nat} {v : AV} {v' : Value} (hd : ∀ x, d = some x → x < e.n) (hv : VR σ M v v') :
  ActR σ M (e.put d v) (a.put d v') := by
 cases d with
 | none => exact h
 | some d =>
  have hd' := hd d rfl
  refine ⟨by simp [Env.put, Act.put, h.n], fun x => ?_, h.dl, h.d⟩
  have hx := h.t x
  simp only [Env.put, Act.put, Array.getD_eq_getD_getElem?, Array.getElem?_setIfInBounds] at hx ⊢
  by_cases e1 : x = d
  ·subst e1
   have : x < a.tmps.size := by rw [h.n]; exact hd'
   have hb : Nat.beq x x = true := Nat.beq_refl x
   simpa [this, hb] using hv
  ·have hb : Nat.beq x d = false := by
    cases hh : Nat.beq x d with
    | false => rfl
    | true => exact absurd (Nat.eq_of_beq_eq_true hh) e1
   rw [if_neg (Ne.symm e1), hb]; exact hx
inductive Res where
 | ret (v : AV)
 | pan (v : AV)
def EndR (σ : Emb) (M : Mem) (Q : Res → Prop) : Ending → Prop
 | .returned v' => ∃ v, VR σ M v v' ∧ Q (.ret v)
 | .panicked chain => ∃ v v', chain = [{ v := v', recovered := false }] ∧ VR σ M v v' ∧ Q (.pan v)
 | .outgrown => False
structure CallL (P : Program) (f : FuncId) (args : List AV) (h : Hp) (Q : Res → Hp → Prop) : Prop where
 run : ∀ (σ : Emb) (M : Mem) (w : World) (args' : Array Value), R P σ M h w → VRs σ M args args' →
  CallsIn Fence.wide 0 P f args' w fun e w' => ∃ σ' M' h', Ext σ M w σ' M' w' ∧ R P σ' M' h' w' ∧ EndR σ' M' (fun r => Q r h') e
theorem CallL.mono {P : Program} {f : FuncId} {args : List AV} {h : Hp} {Q Q' : Res → Hp → Prop} (c : CallL P f args h Q) (hq : ∀ r h', Q r h' → Q' r h') : CallL P f args h Q' :=
 ⟨fun σ M w args' hR hA => (c.run σ M w args' hR hA).mono fun e w' ⟨σ', M', h', h1, h2, h3⟩ => ⟨σ', M', h', h1, h2, by
  cases e with
  | returned v' => obtain ⟨v, a, b⟩ := h3; exact ⟨v, a, hq _ _ b⟩
  | panicked ch => obtain ⟨v, v', a, b, c⟩ := h3; exact ⟨v, v', a, b, hq _ _ c⟩
  | outgrown => exact h3⟩⟩
inductive Xit where
 | normal
 | exit (id : Nat)
 | ret
 | pan (v : AV)
def XitR (σ : Emb) (M : Mem) : Xit → Exit → Prop
 | .normal, .normal => True
 | .exit i, .exit j => i = j
 | .ret, .ret => True
 | .pan v, .panic chain => ∃ v', chain = [{ v := v', recovered := false }] ∧ VR σ M v v'
 | _, _ => False
def fw (ro : Option Nat) : Fence := { Fence.wide with round := ro }
def PostR (P : Program) (σ : Emb) (M : Mem) (w : World) (Q : Xit → Env → Hp → Prop) : Exit → Act → World → Prop := fun x a' w' =>
 ∃ σ' M' h' e' y, Ext σ M w σ' M' w' ∧ R P σ' M' h' w' ∧ ActR σ' M' e' a' ∧ XitR σ' M' y x ∧ Q y e' h'
def CodeL (P : Program) (ro : Option Nat) (c : Code) (Q : Xit → Env → Hp → Prop) (e : Env) (h : Hp) : Prop :=
 ∀ (σ : Emb) (M : Mem) (w : World) (a : Act), R P σ M h w → ActR σ M e a → c.wpIn (fw ro) 0 P (PostR P σ M w Q) a w
theorem PostR.of_ext {P : Program} {σ σ1 : Emb} {M M1 : Mem} {w w1 : World} {Q : Xit → Env → Hp → Prop} (h : Ext σ M w σ1 M1 w1) {x : Exit} {a' : Act} {w' : World}
  (k : PostR P σ1 M1 w1 Q x a' w') : PostR P σ M w Q x a' w' :=
 let ⟨σ', M', h', e', y, k1, k2⟩ := k; ⟨σ', M', h', e', y, h.trans k1, k2⟩
theorem PostR.mono {P : Program} {σ : Emb} {M : Mem} {w : World} {Q Q' : Xit → Env → Hp → Prop} (hq : ∀ y e h, Q y e h → Q' y e h) {x : Exit} {a' : Act} {w' : World}
  (k : PostR P σ M w Q x a' w') : PostR P σ M w Q' x a' w' :=
 let ⟨σ', M', h', e', y, k1, k2, k3, k4, k5⟩ := k; ⟨σ', M', h', e', y, k1, k2, k3, k4, hq _ _ _ k5⟩
theorem CodeL.mono {P : Program} {ro : Option Nat} {c : Code} {Q Q' : Xit → Env → Hp → Prop} {e : Env} {h : Hp} (k : CodeL P ro c Q e h) (hq : ∀ y e h, Q y e h → Q' y e h) : CodeL P ro c Q' e h :=
 fun σ M w a hR hA => wpIn_mono (k σ M w a hR hA) fun _ _ _ => PostR.mono hq
section rules
variable {P : Program} {ro : Option Nat} {Q : Xit → Env → Hp → Prop} {e : Env} {h : Hp}
theorem CodeL.skip (k : Q .normal e h) : CodeL P ro .skip Q e h := fun σ M _ _ hR hA => wpIn_skip ⟨σ, M, h, e, .normal, .refl _ _ _, hR, hA, trivial, k⟩
theorem CodeL.exit {id : Nat} (k : Q (.exit id) e h) : CodeL P ro (.exit id) Q e h := fun σ M _ _ hR hA => wpIn_exit ⟨σ, M, h, e, .exit id, .refl _ _ _, hR, hA, rfl, k⟩
theorem CodeL.ret (k : Q .ret e h) : CodeL P ro .ret Q e h := fun σ M _ _ hR hA => wpIn_ret ⟨σ, M, h, e, .ret, .refl _ _ _, hR, hA, trivial, k⟩
def andThen (next : Env → Hp → Prop) (Q : Xit → Env → Hp → Prop) : Xit → Env → Hp → Prop
 | .normal, e, h => next e h
 | x, e, h => Q x e h
theorem CodeL.seq {c d : Code} (k : CodeL P ro c (andThen (CodeL P ro d Q) Q) e h) : CodeL P ro (.seq c d) Q e h := by
 intro σ M w a hR hA
 refine wpIn_seq (wpIn_mono (k σ M w a hR hA) ?_)
 rintro x a1 w1 ⟨σ1, M1, h1, e1, y, hE, hR1, hA1, hX, hQ⟩
 cases y with
 | normal =>
  cases x <;> simp only [XitR] at hX
  exact wpIn_mono (hQ σ1 M1 w1 a1 hR1 hA1) fun _ _ _ => PostR.of_ext hE
 | exit i => cases x <;> simp only [XitR] at hX; exact ⟨σ1, M1, h1, e1, .exit i, hE, hR1, hA1, hX, hQ⟩
 | ret => cases x <;> simp only [XitR] at hX; exact ⟨σ1, M1, h1, e1, .ret, hE, hR1, hA1, trivial, hQ⟩
 | pan v => cases x <;> simp only [XitR] at hX; exact ⟨σ1, M1, h1, e1, .pan v, hE, hR1, hA1, hX, hQ⟩
def inBlk (id : Nat) (Q : Xit → Env → Hp → Prop) : Xit → Env → Hp → Prop
 | .exit j, e, h => if j = id then Q .normal e h else Q (.exit j) e h
 | x, e, h => Q x e h
theorem CodeL.block {id : Nat} {c : Code} (k : CodeL P ro c (inBlk id Q) e h) : CodeL P ro (.block id c) Q e h := by
 intro σ M w a hR hA
 refine wpIn_block (wpIn_mono (k σ M w a hR hA) ?_)
 rintro x a1 w1 ⟨σ1, M1, h1, e1, y, hE, hR1, hA1, hX, hQ⟩
 cases y with
 | normal => cases x <;> simp only [XitR] at hX; exact ⟨σ1, M1, h1, e1, .normal, hE, hR1, hA1, trivial, hQ⟩
 | exit i =>
  cases x <;> simp only [XitR] at hX
  subst hX
  simp only [Exit.inBlock]
  simp only [inBlk] at hQ
  by_cases hid : i = id
  ·rw [if_pos hid] at hQ ⊢; exact ⟨σ1, M1, h1, e1, .normal, hE, hR1, hA1, trivial, hQ⟩
  ·rw [if_neg hid] at hQ ⊢; exact ⟨σ1, M1, h1, e1, .exit i, hE, hR1, hA1, rfl, hQ⟩
 | ret => cases x <;> simp only [XitR] at hX; exact ⟨σ1, M1, h1, e1, .ret, hE, hR1, hA1, trivial, hQ⟩
 | pan v => cases x <;> simp only [XitR] at hX; exact ⟨σ1, M1, h1, e1, .pan v, hE, hR1, hA1, hX, hQ⟩
theorem CodeL.loop {c : Code} (I : Nat → Env → Hp → Prop) (h0 : ∃ n, I n e h)
  (round : ∀ n e h, I n e h → CodeL P ro c (andThen (fun e h => ∃ m, m < n ∧ I m e h) Q) e h) : CodeL P ro (.loop c) Q e h := by
 intro σ M w a hR hA
 obtain ⟨n0, hI⟩ := h0
 let J : Act → World → Nat → Prop := fun a1 w1 n => ∃ σ1 M1 h1 e1, Ext σ M w σ1 M1 w1 ∧ R P σ1 M1 h1 w1 ∧ ActR σ1 M1 e1 a1 ∧ I n e1 h1
 have hJ0 : J a w n0 := ⟨σ, M, h, e, .refl _ _ _, hR, hA, hI⟩
 suffices ∀ (b : Frame) (k : List Item) (cs : List Frame), b.roundOf = (fw ro).round → (fw ro).fn b.fn → (fw ro).room (cs.length + 1 + 0) →
   ∀ n a1 w1, J a1 w1 n → ∃ x a' w', PostR P σ M w Q x a' w' ∧ ArrivesIn (Machine.fenced P (fw ro)) P (lone (b.atR a1 (.code c :: .inLoop c :: k)) cs w1) b k cs x a' w' by
  intro b k cs hro hb hr
  obtain ⟨x, a', w', hq, harr⟩ := this b k cs hro hb hr n0 a w hJ0
  exact ⟨x, a', w', hq, .of_steps (.one (fenced_calm hb hr rfl) stepR_loop) harr⟩
 intro b k cs hro hb hr n
 induction n using Nat.strongRecOn with
 | _ n ih =>
  rintro a1 w1 ⟨σ1, M1, h1, e1, hE, hR1, hA1, hI1⟩
  obtain ⟨x, a2, w2, ⟨σ2, M2, h2, e2, y, hE2, hR2, hA2, hX, hQ⟩, harr⟩ := round n e1 h1 hI1 σ1 M1 w1 a1 hR1 hA1 b (.inLoop c :: k) cs hro hb hr
  cases y with
  | normal =>
   cases x <;> simp only [XitR] at hX
   obtain ⟨m, hm, hIm⟩ := hQ
   obtain ⟨x3, a3, w3, hq3, harr3⟩ := ih m hm a2 w2 ⟨σ2, M2, h2, e2, hE.trans hE2, hR2, hA2, hIm⟩
   exact ⟨x3, a3, w3, hq3, .of_steps (StepsIn.trans harr (.one (fenced_calm (fr := b.atR a2 (.inLoop c :: k)) hb hr rfl) stepR_inLoop)) harr3⟩
  | exit i =>
   cases x <;> simp only [XitR] at hX
   subst hX
   exact ⟨.exit i, a2, w2, ⟨σ2, M2, h2, e2, .exit i, hE.trans hE2, hR2, hA2, rfl, hQ⟩, .pass (x := .inLoop c) rfl (fun _ _ => .inl (by simp)) harr⟩
  | ret =>
   cases x <;> simp only [XitR] at hX
   exact ⟨.ret, a2, w2, ⟨σ2, M2, h2, e2, .ret, hE.trans hE2, hR2, hA2, trivial, hQ⟩, .pass (x := .inLoop c) rfl (fun _ _ => .inl (by simp)) harr⟩
  | pan v =>
   cases x with
   | panic ch => exact ⟨.panic ch, a2, w2, ⟨σ2, M2, h2, e2, .pan v, hE.trans hE2, hR2, hA2, hX, hQ⟩, .pass (x := .inLoop c) rfl (fun _ _ => .inl (by simp)) harr⟩
   | _ => simp only [XitR] at hX
end rules
end Go.L

namespace Go.L
inductive AOpd where
 | t (n : Nat)
 | c (v : AV)
 | f (i : Nat)
 deriving Inhabited
@[reducible] def ev (e : Env) : AOpd → AV
 | .t n => e.t n
 | .c v => v
 | .f i => .func (.func i) [] []
def cv0 : Value → Option AV
 | .bool b => some (.bool b)
 | .int k n => some (.int k n)
 | .float k n => some (.flt k n)
 | .string s => some (.str s.data.toList)
 | .pointer none => some .nilp
 | .slice none 0 0 => some .nils
 | .map none => some .nilm
 | .nilFunc => some .nilf
 | .nilIface => some .nili
 | _ => none
def cvs : List Value → Option (List AV)
 | [] => some []
 | v :: l => match cv0 v, cvs l with
  | some x, some r => some (x :: r)
  | _, _ => none
def cv : Value → Option AV
 | .agg cs => (cvs cs.toList).map .agg
 | .tuple cs => (cvs cs.toList).map .tup
 | v => cv0 v
def notTup : AV → Bool
 | .tup _ => false
 | .any => false
 | _ => true
def AV.cells : AV → List AV
 | .agg cs => cs
 | v => [v]
def copd : Operand → Option AOpd
 | .tmp t => some (.t t)
 | .const v => (cv v).map .c
 | .func f => some (.f f)
 | .global _ => none
def copdO : Option Operand → Option (Option AOpd)
 | none => some none
 | some x => (copd x).map some
def copds : List Operand → Option (List AOpd)
 | [] => some []
 | x :: l => match copd x, copds l with
  | some y, some r => some (y :: r)
  | _, _ => none
section
variable {σ : Emb} {M : Mem}
theorem cv0_ok {v : Value} {x : AV} (h : cv0 v = some x) : VR σ M x v := by
 unfold cv0 at h
 split at h <;> first | cases h | skip
 ·exact .bool _
 ·exact .int _ _
 ·exact .flt _ _
 ·exact .str _ _ rfl
 ·exact .nilp
 ·exact .nils
 ·exact .nilm
 ·exact .nilf
 ·exact .nili
theorem cvs_ok : ∀ {l : List Value} {r : List AV}, cvs l = some r → VRs σ M r l.toArray := by
 intro l
 induction l with
 | nil => intro r h; cases h; exact .nil
 | cons v l ih =>
  intro r h
  unfold cvs at h
  split at h
  ·rename_i x r' h1 h2; cases h
   exact (ih h2).cons (cv0_ok h1)
  ·cases h
theorem cv_ok {v : Value} {x : AV} (h : cv v = some x) : VR σ M x v := by
 unfold cv at h
 split at h
 ·rename_i cs
  cases hc : cvs cs.toList with
  | none => simp [hc] at h
  | some r => simp [hc] at h; subst h; exact VR.agg' (by simpa using cvs_ok hc)
 ·rename_i cs
  cases hc : cvs cs.toList with
  | none => simp [hc] at h
  | some r => simp [hc] at h; subst h; exact VR.tup' (by simpa using cvs_ok hc)
 ·exact cv0_ok h
theorem copd_ok {x : Operand} {y : AOpd} (h : copd x = some y) {e : Env} {a : Act} (hA : ActR σ M e a) : VR σ M (ev e y) (a.eval x) := by
 cases x with
 | tmp t => cases h; exact hA.t t
 | const v =>
  cases hc : cv v with
  | none => simp [copd, hc] at h
  | some z => simp [copd, hc] at h; subst h; exact cv_ok hc
 | func f => cases h; exact VR.func' (fun _ h => by cases h) .nil .nil
 | global g => cases h
theorem copds_ok : ∀ {l : List Operand} {r : List AOpd}, copds l = some r → ∀ {e : Env} {a : Act}, ActR σ M e a → VRs σ M (r.map (ev e)) (l.map a.eval).toArray := by
 intro l
 induction l with
 | nil => intro r h e a _; cases h; exact .nil
 | cons v l ih =>
  intro r h e a hA
  unfold copds at h
  split at h
  ·rename_i x r' h1 h2; cases h
   exact (ih h2 hA).cons (copd_ok h1 hA)
  ·cases h
theorem VR.cells {x : AV} {v : Value} (h : VR σ M x v) (ht : notTup x = true) : VRs σ M x.cells v.cells := by
 have one : ∀ {x : AV} {v : Value}, VR σ M x v → VRs σ M [x] #[v] := fun h => VRs.nil.cons h
 cases h with
 | agg cs c' d hn h1 h2 => exact ⟨hn, fun j v hj => ⟨d j, h1 j v hj, h2 j v hj⟩⟩
 | tup cs c' d hn h1 h2 => cases ht
 | any v => cases ht
 | bool b => exact one (.bool b)
 | int k n => exact one (.int k n)
 | flt k n => exact one (.flt k n)
 | str s b h => exact one (.str s b h)
 | nilp => exact one .nilp
 | ptr i k o L h => exact one (.ptr i k o L h)
 | iptr g cs o B O C T F d h hc hv => exact one (.iptr g cs o B O C T F d h hc hv)
 | nils => exact one .nils
 | emp a => exact one (.emp a)
 | slc i k n c L a c' h ha hn hk hu => exact one (.slc i k n c L a c' h ha hn hk hu)
 | isl0 g a c => exact one (.isl0 g a c)
 | isl g es z B O C T F d c h hz hn hc hv => exact one (.isl g es z B O C T F d c h hz hn hc hv)
 | nilm => exact one .nilm
 | map i L h => exact one (.map i L h)
 | func fn first cap f' c' d e hy hf hc hf1 hf2 hc1 hc2 => exact one (.func fn first cap f' c' d e hy hf hc hf1 hf2 hc1 hc2)
 | nilf => exact one .nilf
 | yld i L h => exact one (.yld i L h)
 | ifc t v v' h => exact one (.ifc t v v' h)
 | nili => exact one .nili
end
def ikeq : IntKind → IntKind → Bool
 | .i8, .i8 | .i16, .i16 | .i32, .i32 | .i64, .i64 | .u8, .u8 | .u16, .u16 | .u32, .u32 | .u64, .u64 => true
 | _, _ => false
theorem ikeq_ok {a b : IntKind} (h : ikeq a b = true) : a = b := by cases a <;> cases b <;> first | rfl | cases h
def ibits (op : BinOp) (k : IntKind) (x y : Int) : Int :=
 let a := BitVec.ofInt k.bits x
 let b := BitVec.ofInt k.bits y
 match op with
 | .and => k.wrap (a &&& b).toNat
 | .or => k.wrap (a ||| b).toNat
 | .xor => k.wrap (a ^^^ b).toNat
 | _ => k.wrap (a &&& ~~~b).toNat
def gen (c : Bool) (N : Bool → Prop) : Prop := ∀ t, t = c → N t
theorem gen_use {c : Bool} {N : Bool → Prop} (h : gen c N) : N c := h c rfl
def genI (c : Int) (N : Int → Prop) : Prop := ∀ m, m = c → N m
theorem genI_use {c : Int} {N : Int → Prop} (h : genI c N) : N c := h c rfl
def binI (op : BinOp) (k : IntKind) (a : Int) (k' : IntKind) (b : Int) (N : AV → Prop) : Prop :=
 match op with
 | .shl => 0 ≤ b ∧ genI (k.wrap (a * 2 ^ (min b.toNat k.bits))) fun m => N (.int k m)
 | .shr => 0 ≤ b ∧ genI (a.fdiv (2 ^ (min b.toNat k.bits))) fun m => N (.int k m)
 | .add => cond (ikeq k k') (genI (k.wrap (a + b)) fun m => N (.int k m)) False
 | .sub => cond (ikeq k k') (genI (k.wrap (a - b)) fun m => N (.int k m)) False
 | .mul => cond (ikeq k k') (genI (k.wrap (a * b)) fun m => N (.int k m)) False
 | .quo => cond (ikeq k k') (b ≠ 0 ∧ genI (k.wrap (a.tdiv b)) fun m => N (.int k m)) False
 | .rem => cond (ikeq k k') (b ≠ 0 ∧ genI (a.tmod b) fun m => N (.int k m)) False
 | .and => cond (ikeq k k') (genI (ibits .and k a b) fun m => N (.int k m)) False
 | .or => cond (ikeq k k') (genI (ibits .or k a b) fun m => N (.int k m)) False
 | .xor => cond (ikeq k k') (genI (ibits .xor k a b) fun m => N (.int k m)) False
 | .andNot => cond (ikeq k k') (genI (ibits .andNot k a b) fun m => N (.int k m)) False
 | .eql => cond (ikeq k k') (gen (a == b) fun t => N (.bool t)) False
 | .neq => cond (ikeq k k') (gen (a != b) fun t => N (.bool t)) False
 | .lss => cond (ikeq k k') (gen (decide (a < b)) fun t => N (.bool t)) False
 | .leq => cond (ikeq k k') (gen (decide (a ≤ b)) fun t => N (.bool t)) False
 | .gtr => cond (ikeq k k') (gen (decide (b < a)) fun t => N (.bool t)) False
 | .geq => cond (ikeq k k') (gen (decide (b ≤ a)) fun t => N (.bool t)) False
def binS (op : BinOp) (a b : List UInt8) (N : AV → Prop) : Prop :=
 match op with
 | .add => (a.length + b.length ≤ 9223372036854775807) ∧ N (.str (a ++ b))
 | .eql => gen (a == b) fun t => N (.bool t)
 | .neq => gen (!(a == b)) fun t => N (.bool t)
 | .lss => gen (Op.bytesLess a b) fun t => N (.bool t)
 | .leq => gen (Op.bytesLess a b || a == b) fun t => N (.bool t)
 | .gtr => gen (!(Op.bytesLess a b || a == b)) fun t => N (.bool t)
 | .geq => gen (!(Op.bytesLess a b)) fun t => N (.bool t)
 | _ => False
def binB (op : BinOp) (x y : AV) (N : AV → Prop) : Prop :=
 match op, x, y with
 | .eql, .bool a, .bool b => gen (a == b) fun t => N (.bool t)
 | .neq, .bool a, .bool b => gen (!(a == b)) fun t => N (.bool t)
 | _, _, _ => False
inductive MK where
 | s | i | b
 | a (x y : Nat)
 deriving Inhabited
def keyC (c : Nat) (k : AV) : Bool :=
 match c with
 | 0 => match k with | .str _ => true | _ => false
 | 1 => match k with | .int _ _ => true | _ => false
 | 2 => match k with | .bool _ => true | _ => false
 | _ => false
def keyM (m : MK) (k : AV) : Bool :=
 match m with
 | .s => match k with | .str _ => true | _ => false
 | .i => match k with | .int _ _ => true | _ => false
 | .b => match k with | .bool _ => true | _ => false
 | .a x y => match k with
  | .agg [p, q] => keyC x p && keyC y q
  | _ => false
def sameK1 : AV → AV → Option Bool
 | .str a, .str b => some (a == b)
 | .int k a, .int k' b => cond (ikeq k k') (some (a == b)) none
 | .bool a, .bool b => some (a == b)
 | _, _ => none
def sameK : AV → AV → Option Bool
 | .agg [a, b], .agg [c, d] => match sameK1 a c, sameK1 b d with
  | some x, some y => some (x && y)
  | _, _ => none
 | x, y => sameK1 x y
def sameL : List AV → List AV → Option Bool
 | [], [] => some true
 | a :: l, b :: m => match sameK1 a b, sameL l m with
  | some x, some y => some (x && y)
  | _, _ => none
 | _, _ => none
def keyCs : List Nat → List AV → Bool
 | [], [] => true
 | k :: ks, a :: l => keyC k a && keyCs ks l
 | _, _ => false
abbrev MapL := List (AV × AV × Nat)
def KeysLike (k : AV) (es : MapL) : Prop := ∀ x ∈ es, (sameK k x.1).isSome = true
def mget (k : AV) : MapL → Option AV
 | [] => none
 | x :: es => match sameK k x.1 with
  | some true => some x.2.1
  | _ => mget k es
def midx (k : AV) : MapL → Option Nat
 | [] => none
 | x :: es => match sameK k x.1 with
  | some true => some 0
  | _ => (midx k es).map (· + 1)
def mmod (k v : AV) : MapL → MapL
 | [] => []
 | x :: es => match sameK k x.1 with
  | some true => (k, v, x.2.2) :: es
  | _ => x :: mmod k v es
def mgetN (r : Option AV) (z : AV) (ok : Bool) (N : AV → Prop) : Prop :=
 match r with
 | some v => N (cond ok (.tup [v, .bool true]) v)
 | none => N (cond ok (.tup [z, .bool false]) z)
inductive NK where
 | sl | pt | mp | fn | ic
 deriving Inhabited
def nilN (k : NK) (v : AV) (N : Bool → Prop) : Prop :=
 match k with
 | .sl => match v with
  | .nils => N true
  | .slc _ _ _ _ => N false
  | .isl _ es => es ≠ [] ∧ N false
  | _ => False
 | .pt => match v with
  | .nilp => N true
  | .ptr _ _ _ => N false
  | .iptr _ _ _ => N false
  | _ => False
 | .mp => match v with
  | .nilm => N true
  | .map _ => N false
  | _ => False
 | .fn => match v with
  | .nilf => N true
  | .func _ _ _ => N false
  | _ => False
 | .ic => match v with
  | .nili => N true
  | .ifc _ _ => N false
  | _ => False
def nilU (v : AV) (N : Bool → Prop) : Prop :=
 match v with
 | .nils => N true
 | .slc _ _ _ _ => N false
 | .isl _ (_ :: _) => N false
 | .isl _ [] => ∀ b, N b
 | .emp => ∀ b, N b
 | _ => False
inductive AOp where
 | mov (x : AOpd)
 | pick (c a b : AOpd)
 | bini (op : BinOp) (x y : AOpd)
 | bins (op : BinOp) (x y : AOpd)
 | binb (op : BinOp) (x y : AOpd)
 | not (x : AOpd)
 | neg (x : AOpd)
 | lens (x : AOpd)
 | lenl (x : AOpd)
 | ext (i : Nat) (x : AOpd)
 | fld (off : Nat) (x : AOpd)
 | flda (off n : Nat) (x : AOpd)
 | conv (k : IntKind) (x : AOpd)
 | idxs (x i : AOpd)
 | slcs (x : AOpd) (lo hi : Option AOpd)
 | iaddr (T : TypeId) (z : Nat) (x i : AOpd)
 | faddr (off : Nat) (x : AOpd)
 | nilc (x : AOpd)
 | ld1 (x : AOpd)
 | lda (n : Nat) (x : AOpd)
 | mkifc (t : TypeId) (x : AOpd)
 | mkfn (f : FuncId) (first cap : List AOpd)
 | slcl (T : TypeId) (z : Nat) (x : AOpd) (lo hi mx : Option AOpd)
 | isnil (k : NK) (neg : Bool) (x : AOpd)
 | capk (x : AOpd)
 | convs (x : AOpd)
 | xcount (x c : AOpd)
 | xindex (x c : AOpd)
 | mn (x y : AOpd)
 | mx (x y : AOpd)
 | mlook (m : MK) (z : AV) (ok : Bool) (x k : AOpd)
 | mlen (x : AOpd)
 | call (f : FuncId) (args : List AOpd)
 | st (n : Nat) (x v : AOpd)
 | box (T : TypeId) (z : Nat) (x : AOpd)
 | bslice (T : TypeId) (z : Nat) (len : Nat) (zero : List AV) (parts : List (Nat × Nat × AOpd))
 | app (T : TypeId) (z by_ : Nat) (s x : AOpd)
 | bslice0 (T : TypeId)
 | callv (x : AOpd) (args : List AOpd)
 | clr (T : TypeId) (zero : List AV) (x : AOpd)
 | mkslice (T : TypeId) (z by_ : Nat) (zero : List AV) (len cap : AOpd)
 | appz (T : TypeId) (z by_ : Nat) (zero : List AV) (s n : AOpd)
 | pan (x : AOpd)
 | mkmap
 | mupd (m : MK) (x k v : AOpd)
 | tass (T : TypeId) (ok : Bool) (z : AV) (x : AOpd)
 | entr (x : AOpd)
 | inv (tab : List (Nat × Nat)) (x : AOpd) (args : List AOpd)
 | rngs (x : AOpd)
 | rngm (x : AOpd)
 | nxs (x : AOpd)
 | nxm (x : AOpd)
 | ment (m : MK) (z : AV) (x k : AOpd)
 | mest (x s v : AOpd)
 | mdel (m : MK) (x k : AOpd)
 | cas (k : IntKind) (x o n : AOpd)
 | xadd (k : IntKind) (x y : AOpd)
 | cpy (T : TypeId) (z : Nat) (d s : AOpd)
 | upc (x : AOpd)
 | upt (T : TypeId) (x : AOpd)
 | peq (neg : Bool) (x y : AOpd)
 | usd (x : AOpd)
 | adr (n z : Nat) (x i : AOpd)
 | cpl (x : AOpd)
 | xcmp (x y : AOpd)
 | mkm (nm : String) (first : List AOpd)
 | nilm (x : AOpd)
 | isnilu (neg : Bool) (x : AOpd)
 | aeq (neg : Bool) (ks : List Nat) (x y : AOpd)
 | b2s (x : AOpd)
 | mnz (T : TypeId) (x : AOpd)
 | ustr (T : TypeId) (x n : AOpd)
 | s2b (T : TypeId) (x : AOpd)
 | ovl (x y : AOpd)
 | rac (x : AOpd)
 | b2b (x : AOpd)
 | pcall (f : FuncId) (args : List AOpd)
 | pcallv (x : AOpd) (args : List AOpd)
 | acall (f : FuncId) (args : List AOpd)
 | acallv (x : AOpd) (args : List AOpd)
 | fslice (T : TypeId) (z : Nat) (len : Nat) (zero : List AV) (parts : List (Nat × Nat × AOpd))
 | bad
 | build (zero : List AV) (parts : List (Nat × Nat × AOpd))
 deriving Inhabited
def srcEls (h : Hp) : AV → List (List AV) → Prop
 | .isl _ es, es' => es' = es
 | .slc i k n _, es' => ∃ T es, h i = some (.row T es) ∧ k + n ≤ es.length ∧ es' = (es.drop k).take n
 | .nils, es' => es' = []
 | .emp, es' => es' = []
 | .str s, es' => es' = s.map fun b => [.int .u8 b.toNat]
 | _, _ => False
def srcPre (h : Hp) (v : AV) (n : Nat) (src : List (List AV)) : Prop := ∃ src0, srcEls h v src0 ∧ src = src0.take n ∧ (src0.length ≤ n ∨ ∀ s, v ≠ .str s)
theorem srcPre.all {h : Hp} {v : AV} {n : Nat} {src : List (List AV)} (hs : srcEls h v src) (hn : src.length ≤ n) : srcPre h v n src := ⟨src, hs, (List.take_of_length_le hn).symm, .inl hn⟩
def bytesL : List (List AV) → Option (List UInt8)
 | [] => some []
 | c :: r => match c with
  | [.int .u8 n] => match decide (0 ≤ n) && Nat.blt n.toNat 256, bytesL r with
   | true, some s => some (n.toNat.toUInt8 :: s)
   | _, _ => none
  | _ => none
def bndO (e : Env) (d : Nat) : Option AOpd → (Nat → Prop) → Prop
 | none, N => N d
 | some x, N => match ev e x with
  | .int _ n => ∃ k : Nat, n = k ∧ N k
  | _ => False
def isN : AOp → Bool
 | .call .. | .st .. | .box .. | .bslice .. | .app .. | .bslice0 .. | .callv .. | .clr .. | .mkslice .. | .appz .. | .pan .. | .bad | .mkmap | .mupd .. | .pcall .. | .pcallv .. | .acall .. | .acallv .. | .fslice .. | .inv .. | .rngs .. | .rngm .. | .nxs .. | .nxm .. | .ment .. | .mest .. | .mdel .. | .cas .. | .xadd .. | .cpy .. | .mnz .. | .ustr .. | .s2b .. | .b2b .. | .nilm _ | .isnilu .. | .ovl .. => false
 | _ => true
def lay (e : Env) : List AV → List (Nat × Nat × AOpd) → Option (List AV)
 | cs, [] => some cs
 | cs, (off, n, x) :: r =>
  cond (notTup (ev e x) && (Nat.beq (ev e x).cells.length n && Nat.ble (off + n) cs.length)) (lay e (cs.take off ++ (ev e x).cells ++ cs.drop (off + n)) r) none
def LN (o : AOp) (e : Env) (h : Hp) (next : AV → Prop) : Prop :=
 match o with
 | .mov x => next (ev e x)
 | .pick c a b => match ev e c with
  | .bool t => next (cond t (ev e a) (ev e b))
  | _ => False
 | .bini op x y => match ev e x, ev e y with
  | .int k a, .int k' b => binI op k a k' b next
  | _, _ => False
 | .bins op x y => match ev e x, ev e y with
  | .str a, .str b => binS op a b next
  | _, _ => False
 | .binb op x y => binB op (ev e x) (ev e y) next
 | .not x => match ev e x with
  | .bool b => next (.bool (!b))
  | _ => False
 | .neg x => match ev e x with
  | .int k n => genI (k.wrap (0 - n)) fun m => next (.int k m)
  | _ => False
 | .lens x => match ev e x with
  | .str s => next (.int .i64 s.length)
  | _ => False
 | .lenl x => match ev e x with
  | .isl _ es => next (.int .i64 es.length)
  | .slc _ _ n _ => next (.int .i64 n)
  | .nils => next (.int .i64 0)
  | .emp => next (.int .i64 0)
  | _ => False
 | .ext i x => match ev e x with
  | .tup vs => ∃ v, vs[i]? = some v ∧ next v
  | _ => False
 | .fld off x => match ev e x with
  | .agg cs => ∃ v, cs[off]? = some v ∧ next v
  | _ => False
 | .flda off n x => match ev e x with
  | .agg cs => off + n ≤ cs.length ∧ next (.agg ((cs.drop off).take n))
  | _ => False
 | .conv k x => match ev e x with
  | .int _ n => genI (k.wrap n) fun m => next (.int k m)
  | _ => False
 | .idxs x i => match ev e x, ev e i with
  | .str s, .int _ n => ∃ (k : Nat) (c : UInt8), n = k ∧ s[k]? = some c ∧ next (.int .u8 c.toNat)
  | _, _ => False
 | .slcs x lo hi => match ev e x with
  | .str s => bndO e s.length hi fun q => bndO e 0 lo fun p => p ≤ q ∧ q ≤ s.length ∧ next (.str ((s.take q).drop p))
  | _ => False
 | .iaddr T z x i => match ev e x, ev e i with
  | .isl g es, .int _ n => ∃ (k : Nat) (cs : List AV), n = k ∧ es[k]? = some cs ∧ cs.length = z ∧ z ≠ 0 ∧ next (.iptr g cs 0)
  | .slc b k0 m _, .int _ n => ∃ k : Nat, n = k ∧ k < m ∧ (∃ es, h b = some (.row T es)) ∧ next (.ptr b (k0 + k) 0)
  | _, _ => False
 | .faddr off x => match ev e x with
  | .iptr g cs o => next (.iptr g cs (o + off))
  | .ptr b k o => next (.ptr b k (o + off))
  | _ => False
 | .nilc x => match ev e x with
  | .iptr g cs o => next (.iptr g cs o)
  | .ptr b k o => next (.ptr b k o)
  | .func (.func f) a b => next (.func (.func f) a b)
  | .ifc t v => next (.ifc t v)
  | _ => False
 | .ld1 x => match ev e x with
  | .iptr _ cs o => ∃ v, cs[o]? = some v ∧ next v
  | .ptr b k o => ∃ T es cs v, h b = some (.row T es) ∧ es[k]? = some cs ∧ cs[o]? = some v ∧ next v
  | _ => False
 | .lda n x => match ev e x with
  | .iptr _ cs o => o + n ≤ cs.length ∧ next (.agg ((cs.drop o).take n))
  | .ptr b k o => ∃ T es cs, h b = some (.row T es) ∧ es[k]? = some cs ∧ o + n ≤ cs.length ∧ next (.agg ((cs.drop o).take n))
  | _ => False
 | .mkifc t x => next (.ifc t (ev e x))
 | .mkfn f first cap => next (.func (.func f) (first.map (ev e)) (cap.map (ev e)))
 | .slcl T z x lo hi mx => match ev e x with
  | .isl g es => (∀ cs ∈ es, cs.length = z) ∧ bndO e es.length hi fun q => bndO e 0 lo fun p => bndO e es.length mx fun m => p ≤ q ∧ q ≤ m ∧ m ≤ es.length ∧ ((mx.isSome = true ∧ m = p ∧ next .emp) ∨ next (.isl g ((es.take q).drop p)))
  | .slc i k n c => (∃ es, h i = some (.row T es)) ∧ bndO e n hi fun q => bndO e 0 lo fun p => match mx with
   | none => p ≤ q ∧ q ≤ c.getD n ∧ next (.slc i (k + p) (q - p) (c.map (· - p)))
   | some y => bndO e 0 (some y) fun m => p ≤ q ∧ q ≤ m ∧ m ≤ c.getD n ∧ next (.slc i (k + p) (q - p) (some (m - p)))
  | .nils => bndO e 0 hi fun q => bndO e 0 lo fun p => bndO e 0 mx fun m => p = 0 ∧ q = 0 ∧ m = 0 ∧ next .nils
  | .emp => bndO e 0 hi fun q => bndO e 0 lo fun p => bndO e 0 mx fun m => p = 0 ∧ q = 0 ∧ m = 0 ∧ next .emp
  | _ => False
 | .isnil k neg x => nilN k (ev e x) fun b => next (.bool (cond neg (!b) b))
 | .capk x => match ev e x with
  | .slc _ _ _ (some c) => next (.int .i64 c)
  | .nils => next (.int .i64 0)
  | .emp => next (.int .i64 0)
  | _ => False
 | .convs x => match ev e x with
  | .str s => next (.str s)
  | _ => False
 | .xcount x c => match ev e x, ev e c with
  | .str s, .int .u8 n => next (.int .i64 (Lib.countByte s n.toNat.toUInt8 : Nat))
  | _, _ => False
 | .xindex x c => match ev e x, ev e c with
  | .str s, .int .u8 n => genI (Lib.indexByte s n.toNat.toUInt8) fun m => next (.int .i64 m)
  | _, _ => False
 | .mn x y => match ev e x, ev e y with
  | .int k a, .int k' b => cond (ikeq k k') (genI (if b < a then b else a) fun m => next (.int k m)) False
  | _, _ => False
 | .mx x y => match ev e x, ev e y with
  | .int k a, .int k' b => cond (ikeq k k') (genI (if a < b then b else a) fun m => next (.int k m)) False
  | _, _ => False
 | .mlook m z ok x k => match ev e x with
  | .map i => ∃ es c, h i = some (.map es c) ∧ keyM m (ev e k) = true ∧ KeysLike (ev e k) es ∧ ∀ r, r = mget (ev e k) es → mgetN r z ok next
  | .nilm => keyM m (ev e k) = true ∧ next (cond ok (.tup [z, .bool false]) z)
  | _ => False
 | .mlen x => match ev e x with
  | .map i => ∃ es c, h i = some (.map es c) ∧ next (.int .i64 es.length)
  | .nilm => next (.int .i64 0)
  | _ => False
 | .tass T ok z x => match ev e x with
  | .ifc t v => match Nat.beq t T with
   | true => next (cond ok (.tup [v, .bool true]) v)
   | false => ok = true ∧ next (.tup [z, .bool false])
  | .nili => ok = true ∧ next (.tup [z, .bool false])
  | _ => False
 | .entr x => match ev e x with
  | .ptr i 0 0 => ∃ m since seen stepped es c k v b, h i = some (.mapIter (some m) since seen stepped) ∧ h m = some (.map es c) ∧ c = stepped ∧ seen.getLast? = some b ∧ (es.find? fun x => x.2.2 == b) = some (k, v, b) ∧ next (.tup [k, v])
  | _ => False
 | .build zero parts => ∃ cs, lay e zero parts = some cs ∧ next (.agg cs)
 | .upc x => match ev e x with
  | .ptr b k o => ∃ T es cs, h b = some (.row T es) ∧ es[k]? = some cs ∧ o < cs.length ∧ next (.ptr b k o)
  | .nilp => next .nilp
  | _ => False
 | .upt T x => match ev e x with
  | .ptr b k 0 => ∃ es, h b = some (.row T es) ∧ k < es.length ∧ next (.ptr b k 0)
  | .nilp => next .nilp
  | _ => False
 | .peq neg x y => match ev e x, ev e y with
  | .ptr b k o, .ptr b' k' o' => Nat.beq b b' = true ∧ Nat.beq k k' = true ∧ next (.bool (cond neg (!(Nat.beq o o')) (Nat.beq o o')))
  | .nilp, .nilp => next (.bool (!neg))
  | .nilp, .ptr _ _ _ => next (.bool neg)
  | .ptr _ _ _, .nilp => next (.bool neg)
  | _, _ => False
 | .adr n z x i => match ev e x, ev e i with
  | .iptr g cs o, .int _ m => ∃ k : Nat, m = k ∧ k < n ∧ next (.iptr g cs (o + k * z))
  | .ptr b j o, .int _ m => ∃ k : Nat, m = k ∧ k < n ∧ next (.ptr b j (o + k * z))
  | _, _ => False
 | .aeq neg ks x y => match ev e x, ev e y with
  | .agg a, .agg b => keyCs ks a = true ∧ ∃ t, sameL a b = some t ∧ next (.bool (cond neg (!t) t))
  | _, _ => False
 | .mkm nm first => next (.func (.method nm) (first.map (ev e)) [])
 | .xcmp x y => match ev e x, ev e y with
  | .str s, .str t => next (.int .i64 (Lib.compareBytes s t))
  | _, _ => False
 | .cpl x => match ev e x with
  | .int k n => next (.int k (ibits .xor k (cond k.signed (-1) k.max) n))
  | _ => False
 | .usd x => match ev e x with
  | .slc i k n _ => 0 < n ∧ next (.ptr i k 0)
  | .nils => next .nilp
  | _ => False
 | .rac x => match ev e x with
  | .ptr _ _ _ => next (.tup [])
  | .iptr _ _ _ => next (.tup [])
  | _ => False
 | .b2s x => match ev e x with
  | .str _ => False
  | v => ∃ es s, srcEls h v es ∧ bytesL es = some s ∧ next (.str s)
 | _ => False
end Go.L

namespace Go.L
def isAggD : TypeDesc → Bool
 | .struct _ | .array _ _ => true
 | _ => false
def zcells (P : Program) (t : TypeId) : Option (List AV) := do
 let i ← P.info? t
 let z ← i.zero
 cvs z.cells.toList
def cparts (f : Nat → Option (Nat × Nat)) : List (Nat × Operand) → Option (List (Nat × Nat × AOpd))
 | [] => some []
 | (i, x) :: r => match f i, copd x, cparts f r with
  | some (o, n), some y, some l => some ((o, n, y) :: l)
  | _, _, _ => none
def places (P : Program) : List Field → Option (List (Nat × Nat))
 | [] => some []
 | f :: r => match P.info? f.type, places P r with
  | some i, some l => some ((f.offset, i.size) :: l)
  | _, _ => none
def intD : TypeDesc → Bool | .int _ => true | _ => false
def strD : TypeDesc → Bool | .string => true | _ => false
def boolD : TypeDesc → Bool | .bool => true | _ => false
def compN (P : Program) (o : Oper) : Option AOp :=
 match o.op with
 | .move x => (copd x).map .mov
 | .assign x => (copd x).map .mov
 | .pick c a b => do some (.pick (← copd c) (← copd a) (← copd b))
 | .binOp op xt x y _ => do
  let d ← P.underlying xt
  if intD d then some (.bini op (← copd x) (← copd y))
  else if strD d then some (.bins op (← copd x) (← copd y))
  else if boolD d then some (.binb op (← copd x) (← copd y))
  else none
 | .unOp .not _ x => (copd x).map .not
 | .unOp .neg _ x => (copd x).map .neg
 | .extract x i => (copd x).map (.ext i)
 | .field t x f => do
  let .struct fs ← P.underlying t | none
  let fd ← fs[f]?
  let d ← P.underlying fd.type
  let i ← P.info? fd.type
  if isAggD d then some (.flda fd.offset i.size (← copd x)) else some (.fld fd.offset (← copd x))
 | .convert s t x => do
  let .int k ← P.underlying t | none
  let _ ← P.underlying s
  some (.conv k (← copd x))
 | .index t x i => do
  let .string ← P.underlying t | none
  some (.idxs (← copd x) (← copd i))
 | .slice t x lo hi none => do
  let .string ← P.underlying t | none
  some (.slcs (← copd x) (← copdO lo) (← copdO hi))
 | .indexAddr t x i => do
  let .slice el ← P.underlying t | none
  let j ← P.info? el
  some (.iaddr el j.size (← copd x) (← copd i))
 | .fieldAddr t x f => do
  let .struct fs ← P.underlying t | none
  let fd ← fs[f]?
  let i ← P.info? fd.type
  if i.size = 0 then none else some (.faddr fd.offset (← copd x))
 | .nilCheck x => (copd x).map .nilc
 | .load t x => do
  let d ← P.underlying t
  let i ← P.info? t
  if isAggD d then some (.lda i.size (← copd x)) else some (.ld1 (← copd x))
 | .makeInterface t x => do
  let d ← P.underlying t
  match d with
  | .interface _ => none
  | _ => some (.mkifc t (← copd x))
 | .makeFunc (.func f) first cap => do
  some (.mkfn f (← copds first.toList) (← copds cap.toList))
 | .build t parts => do
  let z ← zcells P t
  let d ← P.underlying t
  match d with
  | .struct fs => do
   let pl ← places P fs.toList
   some (.build z (← cparts (fun i => pl[i]?) parts.toList))
  | .array _ el => do
   let j ← P.info? el
   some (.build z (← cparts (fun i => some (i * j.size, j.size)) parts.toList))
  | _ => none
 | .call { callee := .builtin .len, args, argTypes } => do
  let t ← argTypes[0]?
  let d ← P.underlying t
  match d, args.toList with
  | .string, [x] => some (.lens (← copd x))
  | .slice _, [x] => some (.lenl (← copd x))
  | _, _ => none
 | _ => none
def compE (P : Program) (o : Oper) : Option AOp :=
 match o.op with
 | .call { callee := .builtin .append, args, argTypes } => do
  let t ← argTypes[0]?
  let u ← argTypes[1]?
  let .slice el ← P.underlying t | none
  let du ← P.underlying u
  let j ← P.info? el
  let z ← j.zero
  if intD du || argTypes.size != 2 || j.size == 0 || z.cells.size != j.size then none else
  match args.toList with
  | [s, x] => some (.app el j.size j.bytes (← copd s) (← copd x))
  | _ => none
 | .store t x v => do
  let i ← P.info? t
  some (.st i.size (← copd x) (← copd v))
 | .box t x => do
  let i ← P.info? t
  some (.box t i.size (← copd x))
 | .alloc t => do
  let i ← P.info? t
  let z ← i.zero
  some (.box t i.size (.c (← cv z)))
 | .buildSlice t n parts => do
  let .slice el ← P.underlying t | none
  let j ← P.info? el
  let z ← zcells P el
  if n * j.size > 2 ^ 24 || z.length != j.size || n * j.size == 0 then none else
  some (.bslice el j.size n z (← cparts (fun i => some (i * j.size, j.size)) parts.toList))
 | .call { callee := .value (.func f), args, .. } => do
  let fn ← P.funcs[f]?
  if fn.body.isSome && fn.name != "runtime.NumGoroutine" then some (.call f (← copds args.toList)) else none
 | _ => none
def comp1 (P : Program) (o : Oper) : Option AOp :=
 match compE P o with
 | some a => some a
 | none => match compN P o with
  | some a => if isN a then some a else none
  | none => none
section
variable {P : Program}
theorem run_typeInfo' {t : TypeId} {i : TypeInfo} (h : P.info? t = some i) (w : World) : (typeInfo t).run P w = .ok i w := by simp [typeInfo, program, Sem.run, h]
theorem run_sizeOf' {t : TypeId} {i : TypeInfo} (h : P.info? t = some i) (w : World) : (sizeOf t).run P w = .ok i.size w := by simp [sizeOf, run_typeInfo' h]
def SemVal (P : Program) (o : Oper) (e : Env) (h : Hp) (v : AV) : Prop :=
 ∀ (σ : Emb) (M : Mem) (w : World) (a : Act), R P σ M h w → ActR σ M e a → ∃ v', (execOp a.eval o).run P w = .ok (.value v') w ∧ VR σ M v v'
theorem VR.bool_inv {σ : Emb} {M : Mem} {b : Bool} {v : Value} (h : VR σ M (.bool b) v) : v = .bool b := by cases h; rfl
theorem VR.int_inv {σ : Emb} {M : Mem} {k : IntKind} {n : Int} {v : Value} (h : VR σ M (.int k n) v) : v = .int k n := by cases h; rfl
theorem VR.str_inv {σ : Emb} {M : Mem} {s : List UInt8} {v : Value} (h : VR σ M (.str s) v) : ∃ b : ByteArray, v = .string b ∧ b.data.toList = s := by cases h with | str _ b h => exact ⟨b, rfl, h⟩
def Gives (N : AV → Prop) (s : Sem Value) : Prop := ∃ v, N v ∧ ∃ u, (∀ σ M, VR σ M v u) ∧ ∀ (P : Program) (w : World), s.run P w = .ok u w
theorem binI_ok {op : BinOp} {k k' : IntKind} {a b : Int} {N : AV → Prop} (h : binI op k a k' b N) (t : TypeId) (x y : Operand) :
  Gives N (do eqGuard op t x y (.int k a) (.int k' b); binOp op t (.int k a) (.int k' b)) := by
 have hg : ∀ (P : Program) (w : World), (eqGuard op t x y (.int k a) (.int k' b)).run P w = .ok () w := by
  intro P w; unfold eqGuard; cases op <;> simp
 have fin : ∀ (u : Value) (v : AV), (∀ σ M, VR σ M v u) → (∀ (P : Program) (w : World), (binOp op t (.int k a) (.int k' b)).run P w = .ok u w) → N v →
   Gives N (do eqGuard op t x y (.int k a) (.int k' b); binOp op t (.int k a) (.int k' b)) :=
  fun u v hv hu hN => ⟨v, hN, u, hv, fun P w => by simp [hg P w, hu P w]⟩
 cases op with
 | shl => exact fin _ _ (fun _ _ => .int _ _) (fun P w => by simp [binOp, Op.shift, Int.not_lt.2 h.1]) (genI_use h.2)
 | shr => exact fin _ _ (fun _ _ => .int _ _) (fun P w => by simp [binOp, Op.shift, Int.not_lt.2 h.1]) (genI_use h.2)
 | _ =>
  cases hk : ikeq k k' with
  | false => simp [binI, hk] at h
  | true =>
   obtain rfl := ikeq_ok hk
   simp only [binI, hk, cond_true] at h
   first
    | (refine fin _ _ (fun _ _ => .int _ _) ?_ (genI_use h.2); intro P w; simp [binOp, Op.intDiv, h.1]; done)
    | (refine fin _ _ (fun _ _ => .int _ _) ?_ (genI_use h); intro P w; simp [binOp, Op.intArith]; done)
    | (refine fin _ _ (fun _ _ => .int _ _) ?_ (genI_use h); intro P w; simp only [binOp, ne_eq, not_true_eq_false, if_false]; rfl)
    | (refine fin _ _ (fun _ _ => .bool _) ?_ (gen_use h); intro P w; simp [binOp, Op.intCmp]; done)
theorem binS_ok {op : BinOp} {a b : ByteArray} {N : AV → Prop} (h : binS op a.data.toList b.data.toList N) (t : TypeId) (x y : Operand) :
  Gives N (do eqGuard op t x y (.string a) (.string b); binOp op t (.string a) (.string b)) := by
 have hg : ∀ (P : Program) (w : World), (eqGuard op t x y (.string a) (.string b)).run P w = .ok () w := by
  intro P w; unfold eqGuard; cases op <;> simp
 have fin : ∀ (u : Value) (v : AV), (∀ σ M, VR σ M v u) → (∀ (P : Program) (w : World), (binOp op t (.string a) (.string b)).run P w = .ok u w) → N v →
   Gives N (do eqGuard op t x y (.string a) (.string b); binOp op t (.string a) (.string b)) :=
  fun u v hv hu hN => ⟨v, hN, u, hv, fun P w => by simp [hg P w, hu P w]⟩
 have hsz : ∀ x : ByteArray, x.size = x.data.toList.length := fun x => Array.length_toList.symm
 cases op <;> simp only [binS] at h <;> first | exact h.elim | skip
 ·refine fin (.string (a ++ b)) _ (fun _ _ => .str _ _ ?_) (fun P w => ?_) h.2
  ·simp
  ·have : ¬ ((9223372036854775807 : Int) < (a.size : Int) + (b.size : Int)) := by rw [hsz a, hsz b]; omega
   have h2 : ¬ (((a.size + b.size : Nat) : Int) > IntKind.i64.max) := by
    have h3 : IntKind.i64.max = 9223372036854775807 := by decide
    rw [h3]; omega
   simp only [binOp, Op.stringOp, if_neg h2]; rfl
 all_goals refine fin _ _ (fun _ _ => .bool _) (fun P w => ?_) (gen_use h)
 all_goals simp [binOp, Op.stringOp, ByteArray.toList_eq]
theorem binB_ok {op : BinOp} {a b : Bool} {N : AV → Prop} (h : binB op (.bool a) (.bool b) N) (t : TypeId) (x y : Operand) :
  ∃ v, N v ∧ ∃ u, (∀ σ M, VR σ M v u) ∧ ∀ (P : Program) (w : World), P.underlying t = some .bool → (do eqGuard op t x y (.bool a) (.bool b); binOp op t (.bool a) (.bool b) : Sem Value).run P w = .ok u w := by
 have hg : ∀ (P : Program) (w : World), (eqGuard op t x y (.bool a) (.bool b)).run P w = .ok () w := by
  intro P w; unfold eqGuard; cases op <;> simp
 have eq : ∀ (P : Program) (w : World), P.underlying t = some .bool → (Op.equal t (.bool a) (.bool b)).run P w = .ok (a == b) w := by
  intro P w hu
  have hd : ∀ d, (Op.equalIn (d + 1) t (.bool a) (.bool b)).run P w = .ok (a == b) w := fun d => by simp [Op.equalIn, run_underlying hu]
  exact hd 9999
 cases op <;> simp only [binB] at h <;> first | exact h.elim | skip
 ·exact ⟨_, gen_use h, .bool (a == b), fun _ _ => .bool _, fun P w hu => by simp [hg P w, binOp, eq P w hu]⟩
 ·exact ⟨_, gen_use h, .bool (!(a == b)), fun _ _ => .bool _, fun P w hu => by simp [hg P w, binOp, eq P w hu]⟩
end
end Go.L

namespace Go.L
section
variable {P : Program} {σ : Emb} {M : Mem} {h : Hp} {w : World}
theorem R.cell (hR : R P σ M h w) {i k o : Nat} {T : TypeId} {es : List (List AV)} {cs : List AV} {v : AV} {L : Loc} (hi : h i = some (.row T es)) (hk : es[k]? = some cs) (ho : cs[o]? = some v)
  (hL : σ i = some L) : ∃ v', w.cell? ⟨L.b, L.o + k * L.z + o, none⟩ = some v' ∧ VR σ M v v' ∧ w.frozen? ⟨L.b, L.o + k * L.z + o, none⟩ = false := by
 obtain ⟨C, F, hb, hs, hz, hle, hes, hF⟩ := hR.blk i _ L hi hL
 obtain ⟨hV, hlen⟩ := hes k cs hk
 obtain ⟨v', h1, h2⟩ := hV.2 o v ho
 have hol : o < cs.length := by
  rcases Nat.lt_or_ge o cs.length with hh | hh
  ·exact hh
  ·rw [List.getElem?_eq_none hh] at ho; cases ho
 have h3 : C[L.o + k * L.z + o]? = some v' := by
  rw [Array.getElem?_extract] at h1
  split at h1
  ·exact h1
  ·cases h1
 refine ⟨v', by simp [World.cell?, hb, h3], h2, ?_⟩
 have := hF.at (L.o + k * L.z + o) (by rw [← hs]; exact (Array.getElem?_eq_some_iff.1 h3).1)
 simp only [World.frozen?, hb]
 cases hd : (decide (F.1 ≤ L.o + k * L.z + o) && decide (L.o + k * L.z + o < F.2)) with
 | false => rfl
 | true => simp only [Bool.and_eq_true, decide_eq_true_eq] at hd; exact absurd hd this
theorem run_load_cell {a : Addr} {v : Value} (hc : w.cell? a = some v) : (load a).run P w = .ok v w := by simp [load, Sem.run, hc]
theorem run_loadCellsFrom {a : Addr} : ∀ (n i : Nat) (acc : Array Value) (C : Nat → Value), (∀ j, j < n → w.cell? (a.add (i + j)) = some (C j)) →
  (loadCellsFrom a i n acc).run P w = .ok (acc ++ (Array.range n).map C) w := by
 intro n
 induction n with
 | zero => intro i acc C _; simp [loadCellsFrom]
 | succ n ih =>
  intro i acc C hC
  have h0 := hC 0 (by omega)
  have hrec := ih (i + 1) (acc.push (C 0)) (fun j => C (j + 1)) (fun j hj => by have := hC (j + 1) (by omega); rwa [show i + (j + 1) = i + 1 + j by omega] at this)
  simp only [Nat.add_zero] at h0
  simp only [loadCellsFrom, Sem.run_bind, run_load_cell h0, Result.andThen]
  rw [hrec]
  congr 1
  apply Array.ext'
  simp [List.range_succ_eq_map, Function.comp_def]
theorem run_loadCells {a : Addr} {n : Nat} {C : Nat → Value} (hC : ∀ j, j < n → w.cell? (a.add j) = some (C j)) : (loadCells a n).run P w = .ok ((Array.range n).map C) w := by
 have := run_loadCellsFrom (P := P) (w := w) (a := a) n 0 #[] C (fun j hj => by simpa using hC j hj)
 simpa [loadCells] using this
theorem add_none (b o n : Nat) : (Addr.mk b o none).add n = ⟨b, o + n, none⟩ := by
 unfold Addr.add; split
 ·rename_i h; subst h; rfl
 ·rfl
theorem R.ptrCells (hR : R P σ M h w) {i k o n : Nat} {T : TypeId} {es : List (List AV)} {cs : List AV} {L : Loc} (hi : h i = some (.row T es)) (hk : es[k]? = some cs) (ho : o + n ≤ cs.length) (hL : σ i = some L) :
  ∃ A : Array Value, VRs σ M ((cs.drop o).take n) A ∧ (loadCells ⟨L.b, L.o + k * L.z + o, none⟩ n).run P w = .ok A w := by
 have hx : ∀ j, j < n → ∃ v', w.cell? ⟨L.b, L.o + k * L.z + o + j, none⟩ = some v' ∧ VR σ M (cs[o + j]?.getD .nilp) v' := fun j hj => by
  have hlt : o + j < cs.length := by omega
  obtain ⟨v', h1, h2, _⟩ := hR.cell (o := o + j) hi hk (List.getElem?_eq_getElem hlt) hL
  exact ⟨v', by rw [Nat.add_assoc]; exact h1, by simpa [hlt] using h2⟩
 let C : Nat → Value := fun j => if hj : j < n then (hx j hj).choose else undef
 have hC : ∀ j, j < n → w.cell? ⟨L.b, L.o + k * L.z + o + j, none⟩ = some (C j) ∧ VR σ M (cs[o + j]?.getD .nilp) (C j) := fun j hj => by
  simp only [C, hj, dif_pos]; exact (hx j hj).choose_spec
 refine ⟨(Array.range n).map C, ⟨by simp; omega, fun j v hj => ?_⟩, run_loadCells fun j hj => by rw [add_none]; exact (hC j hj).1⟩
 have hjn : j < n := by
  rcases Nat.lt_or_ge j n with hh | hh
  ·exact hh
  ·rw [List.getElem?_eq_none (by simp; omega)] at hj; cases hj
 rw [List.getElem?_take_of_lt hjn, List.getElem?_drop] at hj
 refine ⟨C j, by simp [hjn], ?_⟩
 have := (hC j hjn).2
 rwa [hj] at this
theorem R.iptrCells (hR : R P σ M h w) {g : Nat} {cs : List AV} {o n : Nat} {v : Value} (hv : VR σ M (.iptr g cs o) v) (ho : o + n ≤ cs.length) :
  ∃ (a : Addr) (A : Array Value), v = .pointer (some a) ∧ VRs σ M ((cs.drop o).take n) A ∧ (loadCells a n).run P w = .ok A w ∧
   ∀ x, cs[o]? = some x → ∃ x', w.cell? a = some x' ∧ VR σ M x x' := by
 cases hv with
 | iptr _ _ _ B O C T F d hM hc hv =>
  have hb := hR.mem B _ hM
  have cell : ∀ (j : Nat) (v : AV), cs[j]? = some v → w.cell? ⟨B, O + j, none⟩ = some (d j) := fun j v hj => by simp [World.cell?, hb, hc j v hj]
  refine ⟨_, (Array.range n).map fun j => d (o + j), rfl, ⟨by simp; omega, fun j v hj => ?_⟩, run_loadCells fun j hj => ?_, fun x hx => ⟨_, cell o x hx, hv o x hx⟩⟩
  ·have hjn : j < n := by
    rcases Nat.lt_or_ge j n with hh | hh
    ·exact hh
    ·rw [List.getElem?_eq_none (by simp; omega)] at hj; cases hj
   rw [List.getElem?_take_of_lt hjn, List.getElem?_drop] at hj
   exact ⟨d (o + j), by simp [hjn], hv _ _ hj⟩
  ·rw [add_none, Nat.add_assoc]
   exact cell (o + j) _ (List.getElem?_eq_getElem (by omega))
end
theorem Option.bind_some_inv {α β : Type} {x : Option α} {f : α → Option β} {b : β} (h : x.bind f = some b) : ∃ a, x = some a ∧ f a = some b := by
 cases x with
 | none => cases h
 | some a => exact ⟨a, rfl, h⟩
theorem Option.map_some_inv {α β : Type} {x : Option α} {f : α → β} {b : β} (h : x.map f = some b) : ∃ a, x = some a ∧ f a = b := by
 cases x with
 | none => cases h
 | some a => cases h; exact ⟨a, rfl, rfl⟩
section
variable {P : Program} {o : Oper} {e : Env} {h : Hp} {next : AV → Prop}
theorem ok_of {v : AV} (hn : next v) (hs : SemVal P o e h v) : ∃ v, next v ∧ SemVal P o e h v := ⟨v, hn, hs⟩
theorem LN_mov {x : Operand} (ho : o.op = .move x ∨ o.op = .assign x) {y : AOpd} (hx : copd x = some y) (hl : next (ev e y)) : ∃ v, next v ∧ SemVal P o e h v :=
 ok_of hl fun σ M w a hR hA => ⟨a.eval x, by rcases ho with ho | ho <;> simp [execOp, ho], copd_ok hx hA⟩
theorem LN_pick {c x y : Operand} (ho : o.op = .pick c x y) {c' x' y' : AOpd} (hc : copd c = some c') (hx : copd x = some x') (hy : copd y = some y') (hl : LN (.pick c' x' y') e h next) :
  ∃ v, next v ∧ SemVal P o e h v := by
 simp only [LN] at hl
 split at hl <;> first | exact hl.elim | skip
 rename_i t ht
 refine ok_of hl fun σ M w a hR hA => ?_
 have h1 := copd_ok hc hA
 rw [ht] at h1
 have h2 := h1.bool_inv
 refine ⟨cond t (a.eval x) (a.eval y), by cases t <;> simp [execOp, ho, h2, asBool], ?_⟩
 cases t
 ·exact copd_ok hy hA
 ·exact copd_ok hx hA
theorem LN_bini {op : BinOp} {t u : TypeId} {x y : Operand} (ho : o.op = .binOp op t x y u) {x' y' : AOpd} (hx : copd x = some x') (hy : copd y = some y') (hl : LN (.bini op x' y') e h next) :
  ∃ v, next v ∧ SemVal P o e h v := by
 simp only [LN] at hl
 split at hl <;> first | exact hl.elim | skip
 rename_i k a0 k' b0 ha hb
 obtain ⟨v, hN, u', hv, hrun⟩ := binI_ok hl t x y
 refine ok_of hN fun σ M w a hR hA => ?_
 have h1 := copd_ok hx hA
 have h2 := copd_ok hy hA
 rw [ha] at h1; rw [hb] at h2
 have hr := hrun P w
 rw [← h1.int_inv, ← h2.int_inv] at hr
 exact ⟨u', by simp only [execOp, ho, Sem.run_bind, hr, Result.andThen, Sem.run_pure], hv σ M⟩
theorem LN_bins {op : BinOp} {t u : TypeId} {x y : Operand} (ho : o.op = .binOp op t x y u) {x' y' : AOpd} (hx : copd x = some x') (hy : copd y = some y') (hl : LN (.bins op x' y') e h next) :
  ∃ v, next v ∧ SemVal P o e h v := by
 simp only [LN] at hl
 split at hl <;> first | exact hl.elim | skip
 rename_i a0 b0 ha hb
 have hl0 : binS op (ByteArray.mk a0.toArray).data.toList (ByteArray.mk b0.toArray).data.toList next := by simpa using hl
 obtain ⟨v, hN, u', hv, hrun⟩ := binS_ok hl0 t x y
 refine ok_of hN fun σ M w a hR hA => ?_
 have h1 := copd_ok hx hA
 have h2 := copd_ok hy hA
 rw [ha] at h1; rw [hb] at h2
 obtain ⟨s1, e1, f1⟩ := h1.str_inv
 obtain ⟨s2, e2, f2⟩ := h2.str_inv
 have g1 : ByteArray.mk a0.toArray = s1 := by subst f1; rfl
 have g2 : ByteArray.mk b0.toArray = s2 := by subst f2; rfl
 have hr := hrun P w
 rw [g1, g2, ← e1, ← e2] at hr
 exact ⟨u', by simp only [execOp, ho, Sem.run_bind, hr, Result.andThen, Sem.run_pure], hv σ M⟩
theorem LN_binb {op : BinOp} {t u : TypeId} {x y : Operand} (ho : o.op = .binOp op t x y u) (ht : P.underlying t = some .bool) {x' y' : AOpd} (hx : copd x = some x') (hy : copd y = some y')
  (hl : LN (.binb op x' y') e h next) : ∃ v, next v ∧ SemVal P o e h v := by
 simp only [LN] at hl
 have hxy : ∃ a b, ev e x' = .bool a ∧ ev e y' = .bool b := by
  unfold binB at hl
  split at hl <;> first | exact hl.elim | exact ⟨_, _, by assumption, by assumption⟩
 obtain ⟨a0, b0, ha, hb⟩ := hxy
 rw [ha, hb] at hl
 obtain ⟨v, hN, u', hv, hrun⟩ := binB_ok hl t x y
 refine ok_of hN fun σ M w a hR hA => ?_
 have h1 := copd_ok hx hA
 have h2 := copd_ok hy hA
 rw [ha] at h1; rw [hb] at h2
 have hr := hrun P w ht
 rw [← h1.bool_inv, ← h2.bool_inv] at hr
 exact ⟨u', by simp only [execOp, ho, Sem.run_bind, hr, Result.andThen, Sem.run_pure], hv σ M⟩
theorem LN_not {t : TypeId} {x : Operand} (ho : o.op = .unOp .not t x) {x' : AOpd} (hx : copd x = some x') (hl : LN (.not x') e h next) : ∃ v, next v ∧ SemVal P o e h v := by
 simp only [LN] at hl
 split at hl <;> first | exact hl.elim | skip
 rename_i b hb
 refine ok_of hl fun σ M w a hR hA => ?_
 have h1 := copd_ok hx hA
 rw [hb] at h1
 exact ⟨.bool (!b), by simp [execOp, ho, h1.bool_inv, Op.unary], .bool _⟩
theorem LN_neg {t : TypeId} {x : Operand} (ho : o.op = .unOp .neg t x) {x' : AOpd} (hx : copd x = some x') (hl : LN (.neg x') e h next) : ∃ v, next v ∧ SemVal P o e h v := by
 simp only [LN] at hl
 split at hl <;> first | exact hl.elim | skip
 rename_i k n hb
 refine ok_of (genI_use hl) fun σ M w a hR hA => ?_
 have h1 := copd_ok hx hA
 rw [hb] at h1
 exact ⟨.int k (k.wrap (0 - n)), by simp only [execOp, ho, h1.int_inv, Op.unary, Op.intArith, Sem.run_bind, Sem.run_pure, Result.andThen], .int _ _⟩
theorem VR.slc_inv {σ : Emb} {M : Mem} {i k n : Nat} {c : Option Nat} {v : Value} (h : VR σ M (.slc i k n c) v) :
  ∃ (L : Loc) (a : Addr) (c' : Nat), v = .slice (some a) n c' ∧ σ i = some L ∧ (c' ≠ 0 → a = ⟨L.b, L.o + k * L.z, none⟩) ∧ n ≤ c' ∧ (∀ x, c = some x → c' = x) ∧ (c = none → L.o + (k + c') * L.z ≤ L.s) := by
 cases h with | slc _ _ _ _ L a c' h ha hn hk hu => exact ⟨L, a, c', rfl, h, ha, hn, hk, hu⟩
theorem VR.nils_inv {σ : Emb} {M : Mem} {v : Value} (h : VR σ M .nils v) : v = .slice none 0 0 := by cases h; rfl
theorem VR.emp_inv {σ : Emb} {M : Mem} {v : Value} (h : VR σ M .emp v) : ∃ a, v = .slice a 0 0 := by cases h with | emp a => exact ⟨a, rfl⟩
theorem VR.isl_len {σ : Emb} {M : Mem} {g : Nat} {es : List (List AV)} {v : Value} (h : VR σ M (.isl g es) v) : ∃ a c, v = .slice a es.length c := by
 cases h with
 | isl0 g a c => exact ⟨a, c, rfl⟩
 | isl _ _ z B O C T F d c h hz hn hc hv => exact ⟨_, c, rfl⟩
theorem run_len {t : TypeId} {v : Value} {w : World} {n : Nat} {ts : Array TypeId} {u : TypeId} (h0 : ts[0]? = some t)
  (h : (∃ b, P.underlying t = some .string ∧ v = .string b ∧ n = b.size) ∨ ∃ el a c, P.underlying t = some (.slice el) ∧ v = .slice a n c) :
  (Builtin.len_ ts u #[v]).run P w = .ok (.int .i64 n) w := by
 rcases h with ⟨b, hu, rfl, rfl⟩ | ⟨el, a, c, hu, rfl⟩
 ·simp [Builtin.len_, h0, run_underlying hu, goInt]
 ·simp [Builtin.len_, h0, run_underlying hu, goInt]
theorem exec_len {t : TypeId} {x : Operand} {ts : Array TypeId} (ho : o.op = .call { callee := .builtin .len, args := #[x], argTypes := ts }) {a : Act} {w : World} {n : Nat}
  (h : (Builtin.len_ ts o.type #[a.eval x]).run P w = .ok (.int .i64 n) w) : (execOp a.eval o).run P w = .ok (.value (.int .i64 n)) w := by
 simp [execOp, ho, resolve, invoke, builtin, h]
theorem LN_lens {t : TypeId} {x : Operand} {ts : Array TypeId} (ho : o.op = .call { callee := .builtin .len, args := #[x], argTypes := ts }) (h0 : ts[0]? = some t) (ht : P.underlying t = some .string)
  {x' : AOpd} (hx : copd x = some x') (hl : LN (.lens x') e h next) : ∃ v, next v ∧ SemVal P o e h v := by
 simp only [LN] at hl
 split at hl <;> first | exact hl.elim | skip
 rename_i s hs
 refine ok_of hl fun σ M w a hR hA => ?_
 have h1 := copd_ok hx hA
 rw [hs] at h1
 obtain ⟨b, e1, e2⟩ := h1.str_inv
 refine ⟨.int .i64 s.length, exec_len (t := t) ho (run_len h0 (.inl ⟨b, ht, e1, ?_⟩)), .int _ _⟩
 subst e2; exact Array.length_toList
theorem LN_lenl {t el : TypeId} {x : Operand} {ts : Array TypeId} (ho : o.op = .call { callee := .builtin .len, args := #[x], argTypes := ts }) (h0 : ts[0]? = some t) (ht : P.underlying t = some (.slice el))
  {x' : AOpd} (hx : copd x = some x') (hl : LN (.lenl x') e h next) : ∃ v, next v ∧ SemVal P o e h v := by
 simp only [LN] at hl
 split at hl <;> first | exact hl.elim | skip
 all_goals
  rename_i hs
  refine ok_of hl fun σ M w a hR hA => ?_
  have h1 := copd_ok hx hA
  rw [hs] at h1
 ·obtain ⟨a0, c, e1⟩ := h1.isl_len
  exact ⟨.int .i64 _, exec_len (t := t) ho (run_len h0 (.inr ⟨el, a0, c, ht, e1⟩)), .int _ _⟩
 ·obtain ⟨L, a0, c, e1, _⟩ := h1.slc_inv
  exact ⟨.int .i64 _, exec_len (t := t) ho (run_len h0 (.inr ⟨el, _, c, ht, e1⟩)), .int _ _⟩
 ·exact ⟨.int .i64 ((0 : Nat) : Int), exec_len (t := t) ho (run_len h0 (.inr ⟨el, _, _, ht, h1.nils_inv⟩)), .int _ _⟩
 ·obtain ⟨a0, e1⟩ := h1.emp_inv
  exact ⟨.int .i64 ((0 : Nat) : Int), exec_len (t := t) ho (run_len h0 (.inr ⟨el, _, _, ht, e1⟩)), .int _ _⟩
theorem LN_ext {i : Nat} {x : Operand} (ho : o.op = .extract x i) {x' : AOpd} (hx : copd x = some x') (hl : LN (.ext i x') e h next) : ∃ v, next v ∧ SemVal P o e h v := by
 simp only [LN] at hl
 split at hl <;> first | exact hl.elim | skip
 rename_i vs hs
 obtain ⟨v, hv, hN⟩ := hl
 refine ok_of hN fun σ M w a hR hA => ?_
 have h1 := copd_ok hx hA
 rw [hs] at h1
 obtain ⟨A, e1, h2⟩ := h1.tup_inv
 obtain ⟨v', e2, h3⟩ := h2.2 i v hv
 exact ⟨v', by simp [execOp, ho, e1, Instr.extract, e2], h3⟩
theorem run_isAgg {t : TypeId} {d : TypeDesc} (ht : P.underlying t = some d) (w : World) : (isAgg t).run P w = .ok (isAggD d) w := by
 simp only [isAgg, Sem.run_bind, run_underlying ht, Result.andThen]
 cases d <;> rfl
theorem LN_fld {t : TypeId} {f : Nat} {fs : Array Field} {fd : Field} {d : TypeDesc} {x : Operand} (ho : o.op = .field t x f) (ht : P.underlying t = some (.struct fs)) (hf : fs[f]? = some fd)
  (hd : P.underlying fd.type = some d) (ha : isAggD d = false) {x' : AOpd} (hx : copd x = some x') (hl : LN (.fld fd.offset x') e h next) : ∃ v, next v ∧ SemVal P o e h v := by
 simp only [LN] at hl
 split at hl <;> first | exact hl.elim | skip
 rename_i cs hs
 obtain ⟨v, hv, hN⟩ := hl
 refine ok_of hN fun σ M w a hR hA => ?_
 have h1 := copd_ok hx hA
 rw [hs] at h1
 obtain ⟨A, e1, h2⟩ := h1.agg_inv
 obtain ⟨v', e2, h3⟩ := h2.2 _ v hv
 exact ⟨v', by simp [execOp, ho, e1, Instr.field, run_underlying ht, hf, asAgg, part, run_isAgg hd, ha, e2], h3⟩
theorem LN_flda {t : TypeId} {f : Nat} {fs : Array Field} {fd : Field} {d : TypeDesc} {i : TypeInfo} {x : Operand} (ho : o.op = .field t x f) (ht : P.underlying t = some (.struct fs)) (hf : fs[f]? = some fd)
  (hd : P.underlying fd.type = some d) (hi : P.info? fd.type = some i) (ha : isAggD d = true) {x' : AOpd} (hx : copd x = some x') (hl : LN (.flda fd.offset i.size x') e h next) : ∃ v, next v ∧ SemVal P o e h v := by
 simp only [LN] at hl
 split at hl <;> first | exact hl.elim | skip
 rename_i cs hs
 obtain ⟨hle, hN⟩ := hl
 refine ok_of hN fun σ M w a hR hA => ?_
 have h1 := copd_ok hx hA
 rw [hs] at h1
 obtain ⟨A, e1, h2⟩ := h1.agg_inv
 exact ⟨.agg (A.extract fd.offset (fd.offset + i.size)), by simp [execOp, ho, e1, Instr.field, run_underlying ht, hf, asAgg, part, run_isAgg hd, ha, run_sizeOf' hi], .agg' (h2.extract _ _ hle)⟩
theorem LN_conv {s t : TypeId} {k : IntKind} {ds : TypeDesc} {x : Operand} (ho : o.op = .convert s t x) (ht : P.underlying t = some (.int k)) (hs : P.underlying s = some ds) {x' : AOpd} (hx : copd x = some x')
  (hl : LN (.conv k x') e h next) : ∃ v, next v ∧ SemVal P o e h v := by
 simp only [LN] at hl
 split at hl <;> first | exact hl.elim | skip
 rename_i k0 n hb
 refine ok_of (genI_use hl) fun σ M w a hR hA => ?_
 have h1 := copd_ok hx hA
 rw [hb] at h1
 refine ⟨.int k (k.wrap n), ?_, .int _ _⟩
 simp only [execOp, ho, convert, Sem.run_bind, run_underlying ht, run_underlying hs, Result.andThen, h1.int_inv, Conv.intToInt, Sem.run_pure]
theorem LN_idxs {t : TypeId} {x i : Operand} (ho : o.op = .index t x i) (ht : P.underlying t = some .string) {x' i' : AOpd} (hx : copd x = some x') (hi : copd i = some i')
  (hl : LN (.idxs x' i') e h next) : ∃ v, next v ∧ SemVal P o e h v := by
 simp only [LN] at hl
 split at hl <;> first | exact hl.elim | skip
 rename_i s k0 n hs hn
 obtain ⟨k, c, rfl, hk, hN⟩ := hl
 refine ok_of hN fun σ M w a hR hA => ?_
 have h1 := copd_ok hx hA
 have h2 := copd_ok hi hA
 rw [hs] at h1; rw [hn] at h2
 obtain ⟨b, e1, e2⟩ := h1.str_inv
 have hb : b[k]? = some c := by
  subst e2
  have hlt : k < b.size := by
   rcases Nat.lt_or_ge k b.size with hh | hh
   ·exact hh
   ·rw [List.getElem?_eq_none (by rw [Array.length_toList]; exact hh)] at hk; cases hk
  have h3 : b[k]? = some b[k] := getElem?_pos b k hlt
  rw [h3]
  have : b.data.toList[k]? = some b[k] := by
   rw [Array.getElem?_toList]
   exact getElem?_pos b.data k hlt
  rw [this] at hk; exact hk
 refine ⟨.int .u8 c.toNat, ?_, .int _ _⟩
 simp [execOp, ho, Instr.index, h2.int_inv, asIntOf, run_underlying ht, e1, hb]
theorem VR.ptr_inv {σ : Emb} {M : Mem} {i k o : Nat} {v : Value} (h : VR σ M (.ptr i k o) v) : ∃ L, σ i = some L ∧ v = .pointer (some ⟨L.b, L.o + k * L.z + o, none⟩) := by
 cases h with | ptr _ _ _ L h => exact ⟨L, h, rfl⟩
theorem LN_faddr {t : TypeId} {f : Nat} {fs : Array Field} {fd : Field} {i : TypeInfo} {x : Operand} (ho : o.op = .fieldAddr t x f) (ht : P.underlying t = some (.struct fs)) (hf : fs[f]? = some fd)
  (hi : P.info? fd.type = some i) (h0 : ¬ i.size = 0) {x' : AOpd} (hx : copd x = some x') (hl : LN (.faddr fd.offset x') e h next) : ∃ v, next v ∧ SemVal P o e h v := by
 have exec : ∀ {a : Act} {w : World} {b q : Nat}, a.eval x = .pointer (some ⟨b, q, none⟩) → (execOp a.eval o).run P w = .ok (.value (.pointer (some ⟨b, q + fd.offset, none⟩))) w := by
  intro a w b q he
  simp [execOp, ho, Instr.fieldAt, run_underlying ht, hf, he, Instr.sureAddr, fieldPlace, run_sizeOf' hi, h0, add_none]
 simp only [LN] at hl
 split at hl <;> first | exact hl.elim | skip
 ·rename_i cs q hs
  refine ok_of hl fun σ M w a hR hA => ?_
  have h1 := copd_ok hx hA
  rw [hs] at h1
  generalize hv : a.eval x = v at h1
  cases h1 with
  | iptr _ _ _ B O C T F d hM hc hv' => exact ⟨_, exec hv, by rw [Nat.add_assoc]; exact .iptr _ cs (q + fd.offset) B O C T F d hM hc hv'⟩
 ·rename_i b k q hs
  refine ok_of hl fun σ M w a hR hA => ?_
  have h1 := copd_ok hx hA
  rw [hs] at h1
  obtain ⟨L, hL, hv⟩ := h1.ptr_inv
  exact ⟨_, exec hv, by rw [Nat.add_assoc]; exact .ptr b k (q + fd.offset) L hL⟩
theorem LN_nilc {x : Operand} (ho : o.op = .nilCheck x) {x' : AOpd} (hx : copd x = some x') (hl : LN (.nilc x') e h next) : ∃ v, next v ∧ SemVal P o e h v := by
 simp only [LN] at hl
 split at hl <;> first | exact hl.elim | skip
 all_goals
  refine ok_of hl fun σ M w a hR hA => ?_
  rename_i hs
  have h1 := copd_ok hx hA
  rw [hs] at h1
  generalize hv : a.eval x = v at h1
 ·cases h1 with
  | iptr _ _ _ B O C T F d hM hc hv' => exact ⟨_, by simp [execOp, ho, hv], .iptr _ _ _ B O C T F d hM hc hv'⟩
 ·obtain ⟨L, hL, rfl⟩ := h1.ptr_inv
  exact ⟨_, by simp [execOp, ho, hv], h1⟩
 ·obtain ⟨f', c', rfl, _⟩ := h1.func_inv
  exact ⟨_, by simp [execOp, ho, hv], h1⟩
 ·cases h1 with
  | ifc _ _ v' h2 => exact ⟨_, by simp [execOp, ho, hv], .ifc _ _ _ h2⟩
theorem bnd_some {x : Operand} {x' : AOpd} (hx : copd x = some x') {k : Nat} {kd : IntKind} (hk : ev e x' = .int kd k) {y : Nat} (hy : k ≤ y) {a : Act} {σ : Emb} {M : Mem} (hA : ActR σ M e a) (code : BoundsCode) (w : World) :
  (Instr.sliceBound (a.eval x) y code).run P w = .ok k w := by
 have h1 := copd_ok hx hA
 rw [hk] at h1
 have : ((k : Int) ≤ (y : Int)) := by omega
 simp [Instr.sliceBound, h1.int_inv, asIntOf, this]
theorem LN_slcs {t : TypeId} {x : Operand} {lo hi : Option Operand} (ho : o.op = .slice t x lo hi none) (ht : P.underlying t = some .string) {x' : AOpd} {lo' hi' : Option AOpd} (hx : copd x = some x')
  (hlo : copdO lo = some lo') (hhi : copdO hi = some hi') (hl : LN (.slcs x' lo' hi') e h next) : ∃ v, next v ∧ SemVal P o e h v := by
 simp only [LN] at hl
 split at hl <;> first | exact hl.elim | skip
 rename_i s hs
 have main : ∃ p q : Nat, p ≤ q ∧ q ≤ s.length ∧ next (.str ((s.take q).drop p)) ∧
   (∀ (σ : Emb) (M : Mem) (a : Act) (w : World), ActR σ M e a → (match hi.map a.eval with | some v => Instr.sliceBound v s.length .sliceAlen | none => pure s.length : Sem Nat).run P w = .ok q w) ∧
   (∀ (σ : Emb) (M : Mem) (a : Act) (w : World), ActR σ M e a → (match lo.map a.eval with | some v => Instr.sliceBound v q .sliceB | none => pure 0 : Sem Nat).run P w = .ok p w) := by
  cases hi with
  | none =>
   cases hhi
   simp only [bndO] at hl
   cases lo with
   | none => cases hlo; simp only [bndO] at hl; exact ⟨0, s.length, hl.1, hl.2.1, hl.2.2, fun _ _ _ _ _ => by simp, fun _ _ _ _ _ => by simp⟩
   | some l =>
    obtain ⟨l', hl1, rfl⟩ := Option.map_some_inv hlo
    simp only [bndO] at hl
    split at hl <;> first | exact hl.elim | skip
    rename_i kd n hn
    obtain ⟨k, rfl, h1, h2, h3⟩ := hl
    exact ⟨k, s.length, h1, h2, h3, fun _ _ _ _ _ => by simp, fun σ M a w hA => bnd_some hl1 hn h1 hA _ w⟩
  | some u =>
   obtain ⟨u', hu1, rfl⟩ := Option.map_some_inv hhi
   simp only [bndO] at hl
   split at hl <;> first | exact hl.elim | skip
   rename_i kd n hn
   obtain ⟨q, rfl, hl⟩ := hl
   cases lo with
   | none => cases hlo; simp only [bndO] at hl; exact ⟨0, q, hl.1, hl.2.1, hl.2.2, fun σ M a w hA => bnd_some hu1 hn hl.2.1 hA _ w, fun _ _ _ _ _ => by simp⟩
   | some l =>
    obtain ⟨l', hl1, rfl⟩ := Option.map_some_inv hlo
    simp only [bndO] at hl
    split at hl <;> first | exact hl.elim | skip
    rename_i kd n hn'
    obtain ⟨k, rfl, h1, h2, h3⟩ := hl
    exact ⟨k, q, h1, h2, h3, fun σ M a w hA => bnd_some hu1 hn h2 hA _ w, fun σ M a w hA => bnd_some hl1 hn' h1 hA _ w⟩
 obtain ⟨p, q, hpq, hq, hN, hh, hll⟩ := main
 refine ok_of hN fun σ M w a hR hA => ?_
 have h1 := copd_ok hx hA
 rw [hs] at h1
 obtain ⟨b, e1, e2⟩ := h1.str_inv
 have hsz : b.size = s.length := by subst e2; exact Array.length_toList.symm
 refine ⟨.string (b.extract p q), ?_, .str _ _ ?_⟩
 ·have hb : (Instr.sliceBounds false b.size b.size (lo.map a.eval) (hi.map a.eval) none).run P w = .ok (p, q, b.size) w := by
   rw [hsz]
   have h3 := hh σ M a w hA
   have h4 := hll σ M a w hA
   unfold Instr.sliceBounds
   cases hi with
   | none =>
    simp only [Option.map_none, Sem.run_pure, Result.ok.injEq, and_true] at h3
    subst h3
    cases lo with
    | none => simp only [Option.map_none, Sem.run_pure, Result.ok.injEq, and_true] at h4; subst h4; simp
    | some l => simp only [Option.map_some] at h4; simp [h4]
   | some u =>
    simp only [Option.map_some] at h3
    cases lo with
    | none => simp only [Option.map_none, Sem.run_pure, Result.ok.injEq, and_true] at h4; subst h4; simp [h3]
    | some l => simp only [Option.map_some] at h4; simp [h3, h4]
  simp [execOp, ho, Instr.sliceAt, run_underlying ht, e1, Instr.slice, hb]
 ·subst e2
  rw [Lib.extract_data, List.drop_take]
theorem LN_mkifc {t : TypeId} {d : TypeDesc} {x : Operand} (ho : o.op = .makeInterface t x) (ht : P.underlying t = some d) (hd : ∀ ms, d ≠ .interface ms) {x' : AOpd} (hx : copd x = some x') (hl : LN (.mkifc t x') e h next) :
  ∃ v, next v ∧ SemVal P o e h v := by
 refine ok_of hl fun σ M w a hR hA => ⟨.iface t (a.eval x), ?_, .ifc _ _ _ (copd_ok hx hA)⟩
 have : (Instr.makeInterface t (a.eval x)).run P w = .ok (.iface t (a.eval x)) w := by
  simp only [Instr.makeInterface, Sem.run_bind, run_underlying ht, Result.andThen]
  cases d <;> first | rfl | exact absurd rfl (hd _)
 simp [execOp, ho, this]
theorem LN_mkfn {f : FuncId} {first cap : Array Operand} (ho : o.op = .makeFunc (.func f) first cap) {first' cap' : List AOpd} (h0 : copds first.toList = some first') (hx : copds cap.toList = some cap') (hl : LN (.mkfn f first' cap') e h next) :
  ∃ v, next v ∧ SemVal P o e h v := by
 have key : ∀ {xs : Array Operand} {ys : List AOpd} {σ : Emb} {M : Mem} {a : Act}, copds xs.toList = some ys → ActR σ M e a → VRs σ M (ys.map (ev e)) (xs.map a.eval) := by
  intro xs ys σ M a hx hA
  have h1 := copds_ok hx hA
  have h2 : (xs.toList.map a.eval).toArray = xs.map a.eval := by rw [← Array.toList_map, Array.toArray_toList]
  rw [h2] at h1; exact h1
 refine ok_of hl fun σ M w a hR hA => ⟨.func (.func f) (first.map a.eval) (cap.map a.eval), ?_, VR.func' (fun _ h => by cases h) (key h0 hA) (key hx hA)⟩
 simp [execOp, ho, Instr.makeFunc]
theorem LN_ld1 {t : TypeId} {d : TypeDesc} {x : Operand} (ho : o.op = .load t x) (ht : P.underlying t = some d) (ha : isAggD d = false) {x' : AOpd} (hx : copd x = some x') (hl : LN (.ld1 x') e h next) :
  ∃ v, next v ∧ SemVal P o e h v := by
 have exec : ∀ {a : Act} {w : World} {b : Addr} {v : Value}, a.eval x = .pointer (some b) → w.cell? b = some v → (execOp a.eval o).run P w = .ok (.value v) w := by
  intro a w b v he hc
  simp [execOp, ho, Instr.loadAt, he, Instr.sureAddr, loadVar, run_isAgg ht, ha, load, Sem.run, hc]
 simp only [LN] at hl
 split at hl <;> first | exact hl.elim | skip
 ·rename_i cs q hs
  obtain ⟨v, hv, hN⟩ := hl
  refine ok_of hN fun σ M w a hR hA => ?_
  have h1 := copd_ok hx hA
  rw [hs] at h1
  obtain ⟨ad, A, e1, _, _, hc⟩ := hR.iptrCells (n := 0) h1 (by
   have : q < cs.length := by
    rcases Nat.lt_or_ge q cs.length with hh | hh
    ·exact hh
    ·rw [List.getElem?_eq_none hh] at hv; cases hv
   omega)
  obtain ⟨x'', hc1, hc2⟩ := hc v hv
  exact ⟨x'', exec e1 hc1, hc2⟩
 ·rename_i b k q hs
  obtain ⟨T, es, cs, v, hb, hk, hv, hN⟩ := hl
  refine ok_of hN fun σ M w a hR hA => ?_
  have h1 := copd_ok hx hA
  rw [hs] at h1
  obtain ⟨L, hL, e1⟩ := h1.ptr_inv
  obtain ⟨v', hc1, hc2, _⟩ := hR.cell hb hk hv hL
  exact ⟨v', exec e1 hc1, hc2⟩
theorem LN_lda {t : TypeId} {d : TypeDesc} {i : TypeInfo} {x : Operand} (ho : o.op = .load t x) (ht : P.underlying t = some d) (hi : P.info? t = some i) (ha : isAggD d = true) {x' : AOpd} (hx : copd x = some x')
  (hl : LN (.lda i.size x') e h next) : ∃ v, next v ∧ SemVal P o e h v := by
 have exec : ∀ {a : Act} {w : World} {b : Addr} {A : Array Value}, a.eval x = .pointer (some b) → (loadCells b i.size).run P w = .ok A w → (execOp a.eval o).run P w = .ok (.value (.agg A)) w := by
  intro a w b v he hc
  simp [execOp, ho, Instr.loadAt, he, Instr.sureAddr, loadVar, run_isAgg ht, ha, run_sizeOf' hi, hc]
 simp only [LN] at hl
 split at hl <;> first | exact hl.elim | skip
 ·rename_i cs q hs
  obtain ⟨hle, hN⟩ := hl
  refine ok_of hN fun σ M w a hR hA => ?_
  have h1 := copd_ok hx hA
  rw [hs] at h1
  obtain ⟨ad, A, e1, hA', hrun, _⟩ := hR.iptrCells h1 hle
  exact ⟨.agg A, exec e1 hrun, .agg' hA'⟩
 ·rename_i b k q hs
  obtain ⟨T, es, cs, hb, hk, hle, hN⟩ := hl
  refine ok_of hN fun σ M w a hR hA => ?_
  have h1 := copd_ok hx hA
  rw [hs] at h1
  obtain ⟨L, hL, e1⟩ := h1.ptr_inv
  obtain ⟨A, hA', hrun⟩ := hR.ptrCells hb hk hle hL
  exact ⟨.agg A, exec e1 hrun, .agg' hA'⟩
theorem LN_iaddr {t el : TypeId} {i : TypeInfo} {x y : Operand} (ho : o.op = .indexAddr t x y) (ht : P.underlying t = some (.slice el)) (hi : P.info? el = some i) {x' y' : AOpd} (hx : copd x = some x') (hy : copd y = some y')
  (hl : LN (.iaddr el i.size x' y') e h next) : ∃ v, next v ∧ SemVal P o e h v := by
 have exec : ∀ {a : Act} {w : World} {b q k len c : Nat} {kd : IntKind}, a.eval x = .slice (some ⟨b, q, none⟩) len c → a.eval y = .int kd k → k < len →
   (execOp a.eval o).run P w = .ok (.value (.pointer (some ⟨b, q + k * i.size, none⟩))) w := by
  intro a w b q k len c kd he hn hlt
  have h3 : (k : Int) < len := by omega
  simp [execOp, ho, Instr.indexAt, hn, asIntOf, run_underlying ht, he, hlt, run_sizeOf' hi, add_none]
 simp only [LN] at hl
 split at hl <;> first | exact hl.elim | skip
 ·rename_i es kd n hs hn
  obtain ⟨k, cs, rfl, hk, hz, hz0, hN⟩ := hl
  have hlt : k < es.length := by
   rcases Nat.lt_or_ge k es.length with hh | hh
   ·exact hh
   ·rw [List.getElem?_eq_none hh] at hk; cases hk
  refine ok_of hN fun σ M w a hR hA => ?_
  have h1 := copd_ok hx hA
  have h2 := copd_ok hy hA
  rw [hs] at h1; rw [hn] at h2
  generalize hv : a.eval x = v at h1
  cases h1 with
  | isl0 => simp at hk
  | isl _ _ z B O C T F d c hM hz' hc hcell hval =>
   obtain rfl : z = i.size := by rw [← hz' k cs hk]; exact hz
   refine ⟨_, exec hv h2.int_inv hlt, ?_⟩
   have := VR.iptr (σ := σ) (M := M) _ cs 0 B (O + k * i.size) C T F (fun j => d k j) hM (fun j v hj => hcell k cs j v hk hj) (fun j v hj => hval k cs j v hk hj)
   simpa using this
 ·rename_i b k0 m c0 kd n hs hn
  obtain ⟨k, rfl, hlt, ⟨es, hb⟩, hN⟩ := hl
  refine ok_of hN fun σ M w a hR hA => ?_
  have h1 := copd_ok hx hA
  have h2 := copd_ok hy hA
  rw [hs] at h1; rw [hn] at h2
  obtain ⟨L, ad, c', e1, hL, had, hmc, _, _⟩ := h1.slc_inv
  obtain ⟨C, F, hb', hs', hz', hle, hes, hF⟩ := hR.blk b _ L hb hL
  have hLz : L.z = i.size := by rw [hi] at hz'; simpa using hz'.symm
  rw [had (by omega)] at e1
  refine ⟨_, exec e1 h2.int_inv hlt, ?_⟩
  rw [show L.o + k0 * L.z + k * i.size = L.o + (k0 + k) * L.z + 0 by rw [hLz, Nat.add_mul]; omega]
  exact .ptr b (k0 + k) 0 L hL
end
end Go.L

namespace Go.L
section
variable {P : Program} {σ : Emb} {M : Mem} {h : Hp} {w : World}
theorem fold_set (off : Nat) : ∀ (l : List Value) (k : Nat) (C : Array Value), off + k + l.length ≤ C.size →
  ((l.zipIdx k).foldl (fun (cs : Array Value) (p : Value × Nat) => cs.setIfInBounds (off + p.2) p.1) C).size = C.size ∧
  ∀ x, ((l.zipIdx k).foldl (fun (cs : Array Value) (p : Value × Nat) => cs.setIfInBounds (off + p.2) p.1) C)[x]? = if off + k ≤ x ∧ x < off + k + l.length then l[x - (off + k)]? else C[x]? := by
 intro l
 induction l with
 | nil => intro k C _; refine ⟨rfl, fun x => ?_⟩; rw [if_neg (by simp only [List.length_nil]; omega)]; rfl
 | cons v l ih =>
  intro k C hle
  simp only [List.length_cons] at hle
  have := ih (k + 1) (C.setIfInBounds (off + k) v) (by simp; omega)
  simp only [List.zipIdx_cons, List.foldl_cons]
  refine ⟨by rw [this.1]; simp, fun x => ?_⟩
  rw [this.2 x]
  by_cases h1 : off + (k + 1) ≤ x ∧ x < off + (k + 1) + l.length
  ·rw [if_pos h1, if_pos (by simp; omega), show x - (off + k) = (x - (off + (k + 1))) + 1 by omega]
   rfl
  ·rw [if_neg h1, Array.getElem?_setIfInBounds]
   by_cases h2 : off + k = x
   ·subst h2
    rw [if_pos rfl, if_pos (by omega), if_pos (by simp), Nat.sub_self]; rfl
   ·rw [if_neg h2, if_neg (by simp; omega)]
theorem VRs.lay1 {cs v : List AV} {C A : Array Value} (hC : VRs σ M cs C) (hv : VRs σ M v A) {off : Nat} (hle : off + v.length ≤ cs.length) :
  VRs σ M (cs.take off ++ v ++ cs.drop (off + v.length)) (A.zipIdx.foldl (fun cs (c, j) => cs.setIfInBounds (off + j) c) C) := by
 have hl : A.zipIdx.foldl (fun (cs : Array Value) ((c, j) : Value × Nat) => cs.setIfInBounds (off + j) c) C =
   (A.toList.zipIdx 0).foldl (fun (cs : Array Value) (p : Value × Nat) => cs.setIfInBounds (off + p.2) p.1) C := by
  rw [← Array.foldl_toList, Array.toList_zipIdx]
 have hA : A.toList.length = v.length := by rw [Array.length_toList]; exact hv.1
 have key := fold_set off A.toList 0 C (by rw [hA, hC.1]; omega)
 rw [hl]
 refine ⟨by rw [key.1, hC.1]; simp; omega, fun j x hj => ?_⟩
 rw [key.2 j]
 simp only [Nat.add_zero]
 by_cases h1 : off ≤ j ∧ j < off + A.toList.length
 ·rw [if_pos h1]
  rw [List.append_assoc, List.getElem?_append_right (by simp; omega), List.getElem?_append_left (by simp; omega)] at hj
  simp only [List.length_take] at hj
  obtain ⟨v', e1, e2⟩ := hv.2 _ x hj
  refine ⟨v', ?_, e2⟩
  rw [Array.getElem?_toList, show j - off = j - min off cs.length by omega]; exact e1
 ·rw [if_neg h1]
  by_cases h2 : j < off
  ·rw [List.append_assoc, List.getElem?_append_left (by simp; omega), List.getElem?_take_of_lt h2] at hj
   exact hC.2 j x hj
  ·rw [List.getElem?_append_right (by simp; omega)] at hj
   simp only [List.length_append, List.length_take, List.getElem?_drop] at hj
   rw [show off + v.length + (j - (min off cs.length + v.length)) = j by omega] at hj
   exact hC.2 j x hj
theorem fill_lay {place : Nat → Option (Nat × Nat)} {e : Env} {a : Act} (hA : ActR σ M e a) : ∀ (parts : List (Nat × Operand)) (ps : List (Nat × Nat × AOpd)), cparts place parts = some ps →
  ∀ (cs r : List AV) (C : Array Value), VRs σ M cs C → lay e cs ps = some r → ∃ A, Instr.fill place C (parts.map fun p => (p.1, a.eval p.2)) = some A ∧ VRs σ M r A := by
 intro parts
 induction parts with
 | nil => intro ps hp cs r C hC hl; cases hp; cases hl; exact ⟨C, rfl, hC⟩
 | cons p parts ih =>
  intro ps hp cs r C hC hl
  obtain ⟨i, x⟩ := p
  unfold cparts at hp
  split at hp <;> first | cases hp | skip
  rename_i off n y l h1 h2 h3
  simp only [lay] at hl
  have hcond : ∃ v, VRs σ M v (a.eval x).cells ∧ v.length = n ∧ off + n ≤ cs.length ∧ lay e (cs.take off ++ v ++ cs.drop (off + n)) l = some r := by
   have hx := copd_ok h2 hA
   cases hb : (notTup (ev e y) && (Nat.beq (ev e y).cells.length n && Nat.ble (off + n) cs.length)) with
   | false => rw [hb] at hl; cases hl
   | true =>
    rw [hb, cond_true] at hl
    simp only [Bool.and_eq_true, Nat.beq_eq, Nat.ble_eq] at hb
    exact ⟨_, hx.cells hb.1, hb.2.1, hb.2.2, hl⟩
  obtain ⟨v, hv, hn, hle, hrec⟩ := hcond
  subst hn
  have hV := hC.lay1 hv hle
  obtain ⟨A, e1, e2⟩ := ih l h3 _ r _ hV hrec
  refine ⟨A, ?_, e2⟩
  simp only [List.map_cons, Instr.fill, h1]
  have hs : (a.eval x).cells.size = v.length := hv.1
  have hs2 : C.size = cs.length := hC.1
  rw [if_neg (by simp [hs, hs2]; omega)]
  exact e1
end
section
variable {P : Program} {o : Oper} {e : Env} {h : Hp} {next : AV → Prop}
theorem zcells_ok {t : TypeId} {z : List AV} (hz : zcells P t = some z) (w : World) : ∃ v : Value, (zeroValue t).run P w = .ok v w ∧ ∀ σ M, VRs σ M z v.cells := by
 unfold zcells at hz
 obtain ⟨i, hi, hz⟩ := Option.bind_some_inv hz
 obtain ⟨v, hv, hz⟩ := Option.bind_some_inv hz
 exact ⟨v, by simp [zeroValue, run_typeInfo' hi, hv], fun σ M => by have := cvs_ok (σ := σ) (M := M) hz; simpa using this⟩
theorem places_run : ∀ (l : List Field) (pl : List (Nat × Nat)), places P l = some pl → ∀ w : World, (l.mapM (fun f => do pure (f.offset, ← sizeOf f.type)) : Sem (List (Nat × Nat))).run P w = .ok pl w := by
 intro l
 induction l with
 | nil => intro pl hp w; cases hp; simp
 | cons f l ih =>
  intro pl hp w
  unfold places at hp
  split at hp <;> first | cases hp | skip
  rename_i i r h1 h2
  have h3 := ih r h2 w
  simp only [bind_pure_comp] at h3
  simp [List.mapM_cons, run_sizeOf' h1, h3]
theorem LN_build {t : TypeId} {parts : Array (Nat × Operand)} {z : List AV} {ps : List (Nat × Nat × AOpd)} {d : TypeDesc} (ho : o.op = .build t parts) (hz : zcells P t = some z) (hd : P.underlying t = some d)
  (hp : (∃ fs pl, d = .struct fs ∧ places P fs.toList = some pl ∧ cparts (fun i => pl[i]?) parts.toList = some ps) ∨
   (∃ n el j, d = .array n el ∧ P.info? el = some j ∧ cparts (fun i => some (i * j.size, j.size)) parts.toList = some ps))
  (hl : LN (.build z ps) e h next) : ∃ v, next v ∧ SemVal P o e h v := by
 simp only [LN] at hl
 obtain ⟨cs, hcs, hN⟩ := hl
 refine ok_of hN fun σ M w a hR hA => ?_
 obtain ⟨zv, hzr, hzv⟩ := zcells_ok hz w
 have hparts : (parts.map fun (i, x) => (i, a.eval x)).toList = parts.toList.map fun p => (p.1, a.eval p.2) := by rw [Array.toList_map]
 rcases hp with ⟨fs, pl, rfl, hpl, hps⟩ | ⟨n, el, j, rfl, hj, hps⟩
 ·obtain ⟨A, hf, hA'⟩ := fill_lay hA _ _ hps _ _ _ (hzv σ M) hcs
  refine ⟨.agg A, ?_, .agg' hA'⟩
  have hm : (fs.mapM (fun f => do pure (f.offset, ← sizeOf f.type)) : Sem (Array (Nat × Nat))).run P w = .ok pl.toArray w := by
   have := places_run _ _ hpl w
   rw [Array.mapM_eq_mapM_toList]
   simp only [bind_pure_comp] at this
   simp [this]
  have hf' : Instr.fill (fun x => pl.toArray[x]?) zv.cells (parts.map fun (i, x) => (i, a.eval x)).toList = some A := by
   rw [hparts]; simpa using hf
  simp only [execOp, ho, Instr.build, Sem.run_bind, hzr, Result.andThen, run_underlying hd, hm, hf', Sem.run_pure]
 ·obtain ⟨A, hf, hA'⟩ := fill_lay hA _ _ hps _ _ _ (hzv σ M) hcs
  refine ⟨.agg A, ?_, .agg' hA'⟩
  have hf' : Instr.fill (fun i => some (i * j.size, j.size)) zv.cells (parts.map fun (i, x) => (i, a.eval x)).toList = some A := by
   rw [hparts]; exact hf
  simp only [execOp, ho, Instr.build, Sem.run_bind, hzr, Result.andThen, run_underlying hd, run_sizeOf' hj, hf', Sem.run_pure]
end
end Go.L

namespace Go.L
section
variable {P : Program} {σ σ' : Emb} {M M' : Mem} {h : Hp} {w w' : World}
theorem BlkR.mono {L : Loc} {b : Blk} (hs : σ.le σ') (hm : M.le M') (hb : w'.heap[L.b]? = w.heap[L.b]?) (k : BlkR P σ M w L b) : BlkR P σ' M' w' L b := by
 cases b with
 | row T es =>
  obtain ⟨C, F, h1, h2, h3, h4, h5, h6⟩ := k
  exact ⟨C, F, by rw [hb]; exact h1, h2, h3, h4, fun k cs hk => ⟨(h5 k cs hk).1.mono hs hm, (h5 k cs hk).2⟩, h6⟩
 | map es clock =>
  obtain ⟨es', h1, h2, h3⟩ := k
  exact ⟨es', by rw [hb]; exact h1, h2, fun j k v n hj => let ⟨e, e1, e2, e3, e4⟩ := h3 j k v n hj; ⟨e, e1, e2.mono hs hm, e3.mono hs hm, e4⟩⟩
 | mapIter m since seen stepped =>
  obtain ⟨h0, m', h1, h2⟩ := k
  refine ⟨h0, m', by rw [hb]; exact h1, ?_⟩
  cases m with
  | none => exact h2
  | some i => obtain ⟨K, k1, k2⟩ := h2; exact ⟨K, hs _ _ k1, k2⟩
 | strIter s pos => obtain ⟨h0, b, h1, h2⟩ := k; exact ⟨h0, b, by rw [hb]; exact h1, h2⟩
 | loop n t ps K st pend => obtain ⟨r, h1, h2, h3, h4, h5, h6, h7⟩ := k; exact ⟨r, by rw [hb]; exact h1, h2, h3, h4, h5, h6, fun x => (h7 x).mono hs hm⟩
 | dfr => exact (show w'.heap[L.b]? = _ by rw [hb]; exact k)
theorem R.upd (hR : R P σ M h w) {i : Nat} {b b' : Blk} {L : Loc} (hi : h i = some b) (hL : σ i = some L) (hoth : ∀ B, B ≠ L.b → w'.heap[B]? = w.heap[B]?) (hb : BlkR P σ M w' L b') :
  R P σ M (h.set i b') w' where
 glb := hR.glb
 fin := fun j hj => hR.fin j (by by_cases e : j = i <;> simp [e] at hj; exact hj)
 dom := fun j c hj => by
  by_cases e : j = i
  ·subst e; exact ⟨L, hL⟩
  ·rw [Hp.set_ne e] at hj; exact hR.dom j c hj
 mem := fun B o hB => by
  rw [hoth B (fun e => by rw [e] at hB; rw [hR.sep i b L hi hL] at hB; cases hB)]
  exact hR.mem B o hB
 sep := fun j c K hj hK => by
  by_cases e : j = i
  ·subst e; rw [hL] at hK; cases hK; exact hR.sep _ _ _ hi hL
  ·rw [Hp.set_ne e] at hj; exact hR.sep j c K hj hK
 inj := fun j k bj bk Lj Lk hj hk hLj hLk he => by
  have fix : ∀ x bx, h.set i b' x = some bx → ∃ c, h x = some c := fun x bx hx => by
   by_cases e : x = i
   ·subst e; exact ⟨b, hi⟩
   ·rw [Hp.set_ne e] at hx; exact ⟨bx, hx⟩
  obtain ⟨c, hc⟩ := fix j bj hj
  obtain ⟨d, hd⟩ := fix k bk hk
  exact hR.inj j k c d Lj Lk hc hd hLj hLk he
 blk := fun j c K hj hK => by
  by_cases e : j = i
  ·subst e; rw [hL] at hK; cases hK
   rw [Hp.set_same] at hj; cases hj; exact hb
  ·rw [Hp.set_ne e] at hj
   refine (hR.blk j c K hj hK).mono σ.le_refl M.le_refl (hoth _ fun he => ?_)
   exact e (hR.inj j i c b K L hj hi hK hL he)
 al := fun j c K hj hK => by
  by_cases e : j = i
  ·subst e; exact hR.al _ _ _ hi hK
  ·rw [Hp.set_ne e] at hj; exact hR.al _ _ _ hj hK
theorem R.del (hR : R P σ M h w) (i : Nat) : R P σ M (h.del i) w where
 glb := hR.glb
 fin := hR.fin
 dom := fun j c hj => by
  by_cases e : j = i
  ·subst e; simp at hj
  ·rw [Hp.del_ne e] at hj; exact hR.dom j c hj
 mem := hR.mem
 sep := fun j c K hj hK => by
  by_cases e : j = i
  ·subst e; simp at hj
  ·rw [Hp.del_ne e] at hj; exact hR.sep j c K hj hK
 inj := fun j k bj bk Lj Lk hj hk hLj hLk he => by
  have fix : ∀ x bx, h.del i x = some bx → h x = some bx := fun x bx hx => by
   by_cases e : x = i
   ·subst e; simp at hx
   ·rw [Hp.del_ne e] at hx; exact hx
  exact hR.inj j k bj bk Lj Lk (fix j bj hj) (fix k bk hk) hLj hLk he
 blk := fun j c K hj hK => by
  by_cases e : j = i
  ·subst e; simp at hj
  ·rw [Hp.del_ne e] at hj; exact hR.blk j c K hj hK
 al := fun j c K hj hK => by
  by_cases e : j = i
  ·subst e; simp at hj
  ·rw [Hp.del_ne e] at hj; exact hR.al j c K hj hK
theorem R.kill (hR : R P σ M h w) {i : Nat} {b : Blk} {L : Loc} (hi : h i = some b) (hL : σ i = some L) (hoth : ∀ B, B ≠ L.b → w'.heap[B]? = w.heap[B]?) : R P σ M (h.del i) w' where
 glb := hR.glb
 fin := hR.fin
 dom := (hR.del i).dom
 mem := fun B o hB => by
  rw [hoth B (fun e => by rw [e] at hB; rw [hR.sep i b L hi hL] at hB; cases hB)]
  exact hR.mem B o hB
 sep := (hR.del i).sep
 inj := (hR.del i).inj
 blk := fun j c K hj hK => by
  by_cases e : j = i
  ·subst e; simp at hj
  ·rw [Hp.del_ne e] at hj
   refine (hR.blk j c K hj hK).mono σ.le_refl M.le_refl (hoth _ fun he => ?_)
   exact e (hR.inj j i c b K L hj hi hK hL he)
 al := (hR.del i).al
def Emb.set (σ : Emb) (i : Nat) (L : Loc) : Emb := fun j => if j = i then some L else σ j
theorem Emb.le_set {i : Nat} {L : Loc} (hi : σ i = none) : σ.le (σ.set i L) := fun j K hj => by
 by_cases e : j = i
 ·subst e; rw [hi] at hj; cases hj
 ·simp [Emb.set, e, hj]
@[simp] theorem Emb.set_same (σ : Emb) (i : Nat) (L : Loc) : σ.set i L i = some L := by simp [Emb.set]
theorem R.mem_new (hR : R P σ M h w) : M w.heap.size = none := by
 cases hm : M w.heap.size with
 | none => rfl
 | some o => have := hR.mem _ _ hm; simp at this
theorem R.used (hR : R P σ M h w) {i : Nat} {L : Loc} (hL : σ i = some L) : h.u i = true := by
 cases hu : h.u i with
 | true => rfl
 | false => rw [hR.fin i hu] at hL; cases hL
theorem R.set_eq (hR : R P σ M h w) {i : Nat} {L : Loc} {b : Blk} (hL : σ i = some L) (hi : h i = some b) : h.set i b = h := by
 refine Hp.ext (fun j => ?_) (fun j => ?_) <;> by_cases e : j = i
 ·subst e; simp [hi]
 ·rw [Hp.set_ne e]
 ·subst e; simp [hR.used hL]
 ·simp [e]
theorem R.fresh (hR : R P σ M h w) {md : Bool} {f : Nat → Prop} (hf : allocN md h f) : ∃ i, σ i = none ∧ f i := by
 obtain ⟨i, hi, hfi⟩ := hf.one
 exact ⟨i, hR.fin i hi.1, hfi⟩
theorem R.placed (hR : R P σ M h w) {i : Nat} {b : Blk} {L : Loc} (hi : h i = some b) (hL : σ i = some L) : L.b < w.heap.size := by
 have key : ∀ o, w.heap[L.b]? = some o → L.b < w.heap.size := fun o ho => (Array.getElem?_eq_some_iff.1 ho).1
 have := hR.blk i b L hi hL
 cases b with
 | row T es => obtain ⟨C, F, h1, _⟩ := this; exact key _ h1
 | map es clock => obtain ⟨es', h1, _⟩ := this; exact key _ h1
 | mapIter m s q t => obtain ⟨_, m', h1, _⟩ := this; exact key _ h1
 | strIter s p => obtain ⟨_, b, h1, _⟩ := this; exact key _ h1
 | loop n t ps K st pend => obtain ⟨r, h1, _⟩ := this; exact key _ h1
 | dfr => exact key _ this
theorem R.alloc (hR : R P σ M h w) {i : Nat} {b : Blk} {L : Loc} {o : Obj} (hi : σ i = none) (hLb : L.b = w.heap.size) (hb : BlkR P (σ.set i L) M (w.alloc o) L b) (hLo : ∃ q, L.o = q * L.z := by exact ⟨0, (Nat.zero_mul _).symm⟩) :
  R P (σ.set i L) M (h.set i b) (w.alloc o) where
 glb := hR.glb
 fin := fun j hj => by
  by_cases e : j = i
  ·simp [e] at hj
  ·simp [e] at hj; simp [Emb.set, e, hR.fin j hj]
 dom := fun j c hj => by
  by_cases e : j = i
  ·subst e; exact ⟨L, by simp⟩
  ·rw [Hp.set_ne e] at hj; obtain ⟨K, hK⟩ := hR.dom j c hj; exact ⟨K, Emb.le_set hi _ _ hK⟩
 mem := fun B o' hB => by
  have := hR.mem B o' hB
  have hlt : B < w.heap.size := (Array.getElem?_eq_some_iff.1 this).1
  rw [RowKit.Below.heap_alloc _ _ _ hlt]; exact this
 sep := fun j c K hj hK => by
  by_cases e : j = i
  ·subst e; simp at hK; subst hK; rw [hLb]; exact hR.mem_new
  ·rw [Hp.set_ne e] at hj; simp [Emb.set, e] at hK; exact hR.sep j c K hj hK
 inj := fun j k bj bk Lj Lk hj hk hLj hLk he => by
  have old : ∀ x bx K, x ≠ i → h.set i b x = some bx → (σ.set i L) x = some K → h x = some bx ∧ σ x = some K := fun x bx K e hx hK => by
   rw [Hp.set_ne e] at hx; simp [Emb.set, e] at hK; exact ⟨hx, hK⟩
  by_cases e1 : j = i <;> by_cases e2 : k = i
  ·rw [e1, e2]
  ·subst e1
   obtain ⟨hk', hLk'⟩ := old k bk Lk e2 hk hLk
   simp at hLj; subst hLj
   have := hR.placed hk' hLk'
   omega
  ·subst e2
   obtain ⟨hj', hLj'⟩ := old j bj Lj e1 hj hLj
   simp at hLk; subst hLk
   have := hR.placed hj' hLj'
   omega
  ·obtain ⟨hk', hLk'⟩ := old k bk Lk e2 hk hLk
   obtain ⟨hj', hLj'⟩ := old j bj Lj e1 hj hLj
   exact hR.inj j k bj bk Lj Lk hj' hk' hLj' hLk' he
 blk := fun j c K hj hK => by
  by_cases e : j = i
  ·subst e; simp at hK; subst hK
   rw [Hp.set_same] at hj; cases hj; exact hb
  ·rw [Hp.set_ne e] at hj; simp [Emb.set, e] at hK
   exact (hR.blk j c K hj hK).mono (Emb.le_set hi) M.le_refl (RowKit.Below.heap_alloc _ _ _ (hR.placed hj hK))
 al := fun j c K hj hK => by
  by_cases e : j = i
  ·subst e; simp at hK; subst hK; exact hLo
  ·rw [Hp.set_ne e] at hj; simp [Emb.set, e] at hK; exact hR.al j c K hj hK
theorem Ext.alloc {i : Nat} {L : Loc} {o : Obj} (hi : σ i = none) : Ext σ M w (σ.set i L) M (w.alloc o) :=
 ⟨Emb.le_set hi, M.le_refl, by simp, rfl, rfl, rfl⟩
def Mem.set (M : Mem) (B : Nat) (o : Obj) : Mem := fun B' => if B' = B then some (o, 0) else M B'
theorem Mem.le_set {B : Nat} {o : Obj} (hB : M B = none) : M.le (M.set B o) := fun B' o' h => by
 by_cases e : B' = B
 ·subst e; rw [hB] at h; cases h
 ·simp [Mem.set, e, h]
@[simp] theorem Mem.set_same (M : Mem) (B : Nat) (o : Obj) : M.set B o B = some (o, 0) := by simp [Mem.set]
theorem R.freeze (hR : R P σ M h w) {i : Nat} {b : Blk} {L : Loc} {o : Obj} (hi : h i = some b) (hL : σ i = some L) (ho : w.heap[L.b]? = some o) : R P σ (M.set L.b o) (h.del i) w := by
 have hM : M L.b = none := hR.sep i b L hi hL
 have hd := hR.del i
 exact {
  fin := hd.fin
  dom := hd.dom
  mem := fun B o' hB => by
   by_cases e : B = L.b
   ·subst e; simp at hB; subst hB; exact ho
   ·simp [Mem.set, e] at hB; exact hR.mem B o' hB
  sep := fun j c K hj hK => by
   have hj' : h j = some c := by
    by_cases e : j = i
    ·subst e; simp at hj
    ·rw [Hp.del_ne e] at hj; exact hj
   have hji : j ≠ i := fun e => by subst e; simp at hj
   have hne : K.b ≠ L.b := fun e => hji (hR.inj j i c b K L hj' hi hK hL e)
   show (if K.b = L.b then some (o, 0) else M K.b) = none
   rw [if_neg hne]; exact hd.sep j c K hj hK
  inj := hd.inj
  blk := fun j c K hj hK => (hd.blk j c K hj hK).mono σ.le_refl (Mem.le_set hM) rfl
  al := hd.al
  glb := hR.glb.mono (Mem.le_set hM) }
theorem Ext.freeze (hR : R P σ M h w) {i : Nat} {b : Blk} {L : Loc} {o : Obj} (hi : h i = some b) (hL : σ i = some L) : Ext σ M w σ (M.set L.b o) w :=
 ⟨σ.le_refl, Mem.le_set (hR.sep i b L hi hL), Nat.le_refl _, rfl, rfl, rfl⟩
end
end Go.L

namespace Go.L
def scalar : AV → Bool
 | .agg _ => false
 | .tup _ => false
 | .any => false
 | _ => true
def flat : List AV → Bool
 | [] => true
 | v :: l => scalar v && flat l
def Value.scalar : Value → Bool
 | .agg _ => false
 | .tuple _ => false
 | _ => true
theorem scalar_ok {σ : Emb} {M : Mem} {v : AV} {v' : Value} (h : VR σ M v v') (hs : scalar v = true) : Value.scalar v' = true := by
 cases h <;> first | rfl | cases hs
theorem flat_get : ∀ {l : List AV}, flat l = true → ∀ {j : Nat} {v : AV}, l[j]? = some v → scalar v = true := by
 intro l
 induction l with
 | nil => intro _ j v h; simp at h
 | cons x l ih =>
  intro hf j v h
  simp only [flat, Bool.and_eq_true] at hf
  cases j with
  | zero => simp at h; subst h; exact hf.1
  | succ j => simp at h; exact ih hf.2 h
def setMany (C : Array Value) (o : Nat) : List Value → Array Value
 | [] => C
 | v :: l => setMany (C.setIfInBounds o v) (o + 1) l
theorem setMany_size : ∀ (l : List Value) (o : Nat) (C : Array Value), (setMany C o l).size = C.size := by
 intro l
 induction l with
 | nil => intro o C; rfl
 | cons v l ih => intro o C; simp [setMany, ih]
theorem setMany_get : ∀ (l : List Value) (o : Nat) (C : Array Value), o + l.length ≤ C.size → ∀ x, (setMany C o l)[x]? = if o ≤ x ∧ x < o + l.length then l[x - o]? else C[x]? := by
 intro l
 induction l with
 | nil => intro o C _ x; rw [if_neg (by simp only [List.length_nil]; omega)]; rfl
 | cons v l ih =>
  intro o C hle x
  simp only [List.length_cons] at hle
  simp only [setMany]
  rw [ih (o + 1) _ (by simp; omega) x]
  by_cases h1 : o + 1 ≤ x ∧ x < o + 1 + l.length
  ·rw [if_pos h1, if_pos (by simp only [List.length_cons]; omega), show x - o = (x - (o + 1)) + 1 by omega]; rfl
  ·rw [if_neg h1, Array.getElem?_setIfInBounds]
   by_cases h2 : o = x
   ·subst h2; rw [if_pos rfl, if_pos (by omega), if_pos (by simp), Nat.sub_self]; rfl
   ·rw [if_neg h2, if_neg (by simp only [List.length_cons]; omega)]
section
variable {P : Program}
theorem setCell_block (w : World) (b q : Nat) (v : Value) {C : Array Value} {T : TypeId} {F : Nat × Nat} (h : w.heap[b]? = some (.cells C T F)) :
  (w.setCell ⟨b, q, none⟩ v).heap[b]? = some (.cells (C.setIfInBounds q v) T F) := by
 simp [World.setCell, Array.getElem?_modify, h]
theorem run_storeCells (b q : Nat) : ∀ (vs : List Value) (i : Nat) (w : World) (C : Array Value) (T : TypeId) (F : Nat × Nat), w.heap[b]? = some (.cells C T F) → q + i + vs.length ≤ C.size →
  (∀ x, q + i ≤ x → x < C.size → ¬ (F.1 ≤ x ∧ x < F.2)) → (∀ v ∈ vs, Value.scalar v = true) →
  ∃ w', (storeCells ⟨b, q, none⟩ vs i).run P w = .ok () w' ∧ w'.heap.size = w.heap.size ∧ w'.os = w.os ∧ w'.tape = w.tape ∧ w'.output = w.output ∧ (∀ B, B ≠ b → w'.heap[B]? = w.heap[B]?) ∧
   w'.heap[b]? = some (.cells (setMany C (q + i) vs) T F) := by
 intro vs
 induction vs with
 | nil => intro i w C T F hb _ _ _; exact ⟨w, by simp [storeCells], rfl, rfl, rfl, rfl, fun _ _ => rfl, hb⟩
 | cons v vs ih =>
  intro i w C T F hb hle hF hs
  simp only [List.length_cons] at hle
  have hlt : q + i < C.size := by omega
  have hcell : w.cell? ⟨b, q + i, none⟩ = some C[q + i] := by simp [World.cell?, hb, hlt]
  have hfr : w.frozen? ⟨b, q + i, none⟩ = false := by
   have := hF (q + i) (Nat.le_refl _) hlt
   simp only [World.frozen?, hb]
   cases hd : (decide (F.1 ≤ q + i) && decide (q + i < F.2)) with
   | false => rfl
   | true => simp only [Bool.and_eq_true, decide_eq_true_eq] at hd; exact absurd hd this
  have hstore : (store ⟨b, q + i, none⟩ v).run P w = .ok () (w.setCell ⟨b, q + i, none⟩ v) := by
   have := hs v (by simp)
   cases v with
   | agg _ => cases this
   | tuple _ => cases this
   | _ => simp [store, Sem.run, hcell, hfr]
  obtain ⟨w', h1, h2, h3, h4, h5, h6, h7⟩ := ih (i + 1) (w.setCell ⟨b, q + i, none⟩ v) (C.setIfInBounds (q + i) v) T F (setCell_block w b (q + i) v hb) (by simp; omega)
   (fun x hx hx2 => hF x (by omega) (by simpa using hx2)) (fun u hu => hs u (by simp [hu]))
  refine ⟨w', ?_, ?_, h3, h4, h5, fun B hB => ?_, h7⟩
  ·simp only [storeCells, add_none, Sem.run_bind, hstore, Result.andThen]; exact h1
  ·rw [h2]; simp [World.setCell]
  ·rw [h6 B hB]; exact RowKit.Below.heap_setCell _ _ _ _ hB
variable {σ : Emb} {M : Mem} {h : Hp} {w : World}
theorem R.store (hR : R P σ M h w) {i k o : Nat} {T : TypeId} {es : List (List AV)} {cs vs : List AV} {L : Loc} {A : Array Value} (hi : h i = some (.row T es)) (hk : es[k]? = some cs) (ho : o + vs.length ≤ cs.length)
  (hL : σ i = some L) (hv : VRs σ M vs A) (hf : flat vs = true) :
  ∃ w', (storeCells ⟨L.b, L.o + k * L.z + o, none⟩ A.toList).run P w = .ok () w' ∧ Ext σ M w σ M w' ∧
   R P σ M (h.set i (.row T (es.set k (cs.take o ++ vs ++ cs.drop (o + vs.length))))) w' := by
 obtain ⟨C, F, hb, hs, hz, hcap, hes, hF⟩ := hR.blk i _ L hi hL
 have hkl : k < es.length := by
  rcases Nat.lt_or_ge k es.length with hh | hh
  ·exact hh
  ·rw [List.getElem?_eq_none hh] at hk; cases hk
 have hcz := (hes k cs hk).2
 have hmul : (k + 1) * L.z ≤ es.length * L.z := Nat.mul_le_mul_right _ hkl
 have hmul' : (k + 1) * L.z = k * L.z + L.z := by rw [Nat.add_mul, Nat.one_mul]
 have hAl : A.toList.length = vs.length := by rw [Array.length_toList]; exact hv.1
 have hsc : ∀ u ∈ A.toList, Value.scalar u = true := fun u hu => by
  obtain ⟨j, hj⟩ := List.getElem?_of_mem hu
  have hjl : j < vs.length := by
   rcases Nat.lt_or_ge j vs.length with hh | hh
   ·exact hh
   ·rw [List.getElem?_eq_none (by omega)] at hj; cases hj
  obtain ⟨v', e1, e2⟩ := hv.2 j _ (List.getElem?_eq_getElem hjl)
  rw [Array.getElem?_toList, e1] at hj; cases hj
  exact scalar_ok e2 (flat_get hf (List.getElem?_eq_getElem hjl))
 obtain ⟨w', h1, h2, h3, h4, h5, h6, h7⟩ := run_storeCells (P := P) L.b (L.o + k * L.z + o) A.toList 0 w C T F hb (by omega) (fun x hx hx2 => hF.at x (by omega)) hsc
 refine ⟨w', h1, ⟨σ.le_refl, M.le_refl, by omega, h3, h4, h5⟩, hR.upd hi hL h6 ?_⟩
 refine ⟨_, F, h7, by rw [setMany_size]; exact hs, hz, by simpa using hcap, fun j ds hj => ?_, hF⟩
 have hget := setMany_get A.toList (L.o + k * L.z + o) C (by omega)
 rw [List.getElem?_set] at hj
 have newlen : (cs.take o ++ vs ++ cs.drop (o + vs.length)).length = cs.length := by simp; omega
 by_cases e : k = j
 ·subst e
  rw [if_pos rfl, if_pos hkl] at hj; cases hj
  refine ⟨⟨by rw [newlen, Array.size_extract, setMany_size]; omega, fun x u hx => ?_⟩, by rw [newlen]; exact hcz⟩
  have hxl : x < cs.length := by
   rcases Nat.lt_or_ge x cs.length with hh | hh
   ·exact hh
   ·rw [List.getElem?_eq_none (by omega)] at hx; cases hx
  have ex : ∀ D : Array Value, D.size = C.size → (D.extract (L.o + k * L.z) (L.o + k * L.z + L.z))[x]? = D[L.o + k * L.z + x]? := fun D hD => by
   rw [Array.getElem?_extract, if_pos (by omega)]
  rw [ex _ (setMany_size _ _ _)]
  simp only [Nat.add_zero, hget, hAl]
  by_cases h8 : o ≤ x ∧ x < o + vs.length
  ·rw [if_pos (by omega)]
   rw [List.append_assoc, List.getElem?_append_right (by simp; omega), List.getElem?_append_left (by simp; omega)] at hx
   simp only [List.length_take] at hx
   obtain ⟨v', e1, e2⟩ := hv.2 _ u hx
   exact ⟨v', by rw [Array.getElem?_toList, show L.o + k * L.z + x - (L.o + k * L.z + o) = x - min o cs.length by omega]; exact e1, e2⟩
  ·rw [if_neg (by omega)]
   have hold : cs[x]? = some u := by
    by_cases h9 : x < o
    ·rw [List.append_assoc, List.getElem?_append_left (by simp; omega), List.getElem?_take_of_lt h9] at hx; exact hx
    ·rw [List.getElem?_append_right (by simp; omega)] at hx
     simp only [List.length_append, List.length_take, List.getElem?_drop] at hx
     rw [show o + vs.length + (x - (min o cs.length + vs.length)) = x by omega] at hx; exact hx
   obtain ⟨v', e1, e2⟩ := (hes k cs hk).1.2 x u hold
   rw [ex C rfl] at e1
   exact ⟨v', e1, e2⟩
 ·rw [if_neg e] at hj
  obtain ⟨hV, hl⟩ := hes j ds hj
  refine ⟨⟨by rw [Array.size_extract, setMany_size]; have := hV.1; rw [Array.size_extract] at this; exact this, fun x u hx => ?_⟩, hl⟩
  obtain ⟨v', e1, e2⟩ := hV.2 x u hx
  refine ⟨v', ?_, e2⟩
  have hxl : x < L.z := by
   rcases Nat.lt_or_ge x ds.length with hh | hh
   ·omega
   ·rw [List.getElem?_eq_none hh] at hx; cases hx
  rw [Array.getElem?_extract] at e1 ⊢
  rw [setMany_size]
  split at e1
  ·rename_i hc
   rw [if_pos hc, Nat.add_zero, hget, hAl, if_neg, e1]
   intro hcon
   rcases Nat.lt_or_gt_of_ne e with hkj | hkj
   ·have : (k + 1) * L.z ≤ j * L.z := Nat.mul_le_mul_right _ hkj
    omega
   ·have : (j + 1) * L.z ≤ k * L.z := Nat.mul_le_mul_right _ hkj
    rw [Nat.add_mul, Nat.one_mul] at this
    omega
  ·cases e1
end
end Go.L

namespace Go.L
section
variable {P : Program} {σ σ' : Emb} {M M' : Mem} {h : Hp} {w w' : World}
theorem R.heap (hR : R P σ M h w) (hw : w'.heap = w.heap) : R P σ M h w' where
 glb := hR.glb
 fin := hR.fin
 dom := hR.dom
 mem := fun B o hB => by rw [hw]; exact hR.mem B o hB
 sep := hR.sep
 inj := hR.inj
 blk := fun i b L hi hL => (hR.blk i b L hi hL).mono σ.le_refl M.le_refl (by rw [hw])
 al := hR.al
theorem R.drew (hR : R P σ M h w) : R P σ M h w.drew := hR.heap rfl
theorem Ext.drew : Ext σ M w σ M w.drew := ⟨σ.le_refl, M.le_refl, Nat.le_refl _, rfl, rfl, rfl⟩
structure Src (P : Program) (w : World) (z m : Nat) (x : Value) (new : Array Value) : Prop where
 len : ∀ w' : World, (Builtin.lenOf x).run P w' = .ok m w'
 cells : ∀ w' : World, w'.heap = w.heap → (Builtin.firstCells z m x).run P w' = .ok new w'
 size : new.size = m * z
theorem run_append_fit {t u ty e : TypeId} {i : TypeInfo} (ht : P.underlying t = some (.slice e)) {du : TypeDesc} (hu : P.underlying u = some du) (hdu : ∀ k, du ≠ .int k) (hi : P.info? e = some i)
  {base : Option Addr} {n c m : Nat} {x : Value} {new : Array Value} (hx : Src P w i.size m x new) (hroom : n + m ≤ c) {w1 : World}
  (hst : match base with | some a => (storeCells (a.add (n * i.size)) new.toList).run P w = .ok () w1 | none => w1 = w) :
  (Builtin.append_ #[t, u] ty #[.slice base n c, x]).run P w = .ok (.slice base (n + m) c) w1 := by
 have hz : (match du with | .int _ => true | _ => false) = false := by cases du <;> first | rfl | exact absurd rfl (hdu _)
 cases base with
 | none =>
  subst hst
  simp [Builtin.append_, run_underlying ht, run_underlying hu, run_sizeOf' hi, hz, hx.len, hroom, hx.cells _ rfl]
 | some a =>
  simp only at hst
  simp [Builtin.append_, run_underlying ht, run_underlying hu, run_sizeOf' hi, hz, hx.len, hroom, hx.cells _ rfl, hst]
theorem run_append_new {t u ty e : TypeId} {i : TypeInfo} {zv : Value} (ht : P.underlying t = some (.slice e)) {du : TypeDesc} (hu : P.underlying u = some du) (hdu : ∀ k, du ≠ .int k) (hi : P.info? e = some i)
  (hzv : i.zero = some zv) {base : Option Addr} {n c m : Nat} {x : Value} {new old : Array Value} (hx : Src P w i.size m x new) (hgrow : c < n + m) (hb : (n + m) * i.bytes ≤ 140737488355328) (h63 : n + m ≤ 140737488355328)
  (hold : ∀ w' : World, w'.heap = w.heap → (Builtin.firstCells i.size n (.slice base n c)).run P w' = .ok old w') :
  ∃ cap, n + m ≤ cap ∧ (Builtin.append_ #[t, u] ty #[.slice base n c, x]).run P w =
   .ok (.slice (some ⟨w.heap.size, 0, none⟩) (n + m) cap) (w.drew.alloc (.cells (old ++ new ++ Builtin.zeroCells zv.cells (cap - (n + m))) e)) := by
 have hz : (match du with | .int _ => true | _ => false) = false := by cases du <;> first | rfl | exact absurd rfl (hdu _)
 have hn : ¬ (n + m ≤ c) := by omega
 have hfit := growslice_fits hgrow hb
 have h63' : ¬ (9223372036854775807 < ((n : Int) + (m : Int))) := by omega
 have h48' : ¬ (281474976710656 < Builtin.nextslicecap (n + m) c * i.bytes) := by omega
 refine ⟨grownCap w (n + m) c e, grownCap_ge _ _ _ _, ?_⟩
 have h1 := hx.cells w.drew rfl
 have h2 := hold w.drew rfl
 simp [Builtin.append_, run_underlying ht, run_underlying hu, run_sizeOf' hi, run_typeInfo' hi, hz, hx.len, hn, h63', h48', Question.forced, h1, h2, newRow, grownCap, zeroValue, hzv]
theorem flatten_get {α : Type} {z : Nat} (hz : 0 < z) : ∀ (es : List (List α)), (∀ cs ∈ es, cs.length = z) → ∀ (j : Nat) (v : α), es.flatten[j]? = some v → ∃ cs, es[j / z]? = some cs ∧ cs[j % z]? = some v := by
 intro es
 induction es with
 | nil => intro _ j v h; simp at h
 | cons c es ih =>
  intro hl j v h
  have hc : c.length = z := hl c (by simp)
  simp only [List.flatten_cons] at h
  by_cases hj : j < z
  ·rw [List.getElem?_append_left (by omega)] at h
   exact ⟨c, by rw [Nat.div_eq_of_lt hj]; rfl, by rw [Nat.mod_eq_of_lt hj]; exact h⟩
  ·rw [List.getElem?_append_right (by omega), hc] at h
   obtain ⟨cs, h1, h2⟩ := ih (fun x hx => hl x (by simp [hx])) _ v h
   have e1 : j = (j - z) + z := by omega
   refine ⟨cs, ?_, ?_⟩
   ·rw [e1, Nat.add_div_right _ hz]; simpa using h1
   ·rw [e1, Nat.add_mod_right]; exact h2
theorem flatten_len {α : Type} {z : Nat} : ∀ (es : List (List α)), (∀ cs ∈ es, cs.length = z) → es.flatten.length = es.length * z := by
 intro es
 induction es with
 | nil => intro _; simp
 | cons c es ih => intro hl; simp only [List.flatten_cons, List.length_append, List.length_cons, ih (fun x hx => hl x (by simp [hx])), hl c (by simp), Nat.add_mul, Nat.one_mul]; omega
theorem src_cells {z m : Nat} {es : List (List AV)} {b q : Nat} {C : Array Value} {T : TypeId} {F : Nat × Nat} (hz : 0 < z) (hm : es.length = m) (hl : ∀ cs ∈ es, cs.length = z) (hb : w.heap[b]? = some (.cells C T F))
  (hc : ∀ (k : Nat) (cs : List AV) (j : Nat) (v : AV), es[k]? = some cs → cs[j]? = some v → ∃ v', C[q + k * z + j]? = some v' ∧ VR σ M v v') (a : Option Addr) (c : Nat) (ha : a = some ⟨b, q, none⟩ ∨ m = 0) :
  ∃ new, Src P w z m (.slice a m c) new ∧ VRs σ M es.flatten new := by
 have hcell : ∀ j v, es.flatten[j]? = some v → ∃ v', C[q + j]? = some v' ∧ VR σ M v v' := fun j v hj => by
  obtain ⟨cs, h1, h2⟩ := flatten_get hz es hl j v hj
  obtain ⟨v', h3, h4⟩ := hc _ cs _ v h1 h2
  refine ⟨v', ?_, h4⟩
  rw [← h3, Nat.add_assoc, Nat.div_add_mod' j z]
 have hlen := flatten_len es hl
 rw [hm] at hlen
 let D : Nat → Value := fun j => C.getD (q + j) undef
 have hD : ∀ j v, es.flatten[j]? = some v → C[q + j]? = some (D j) ∧ VR σ M v (D j) := fun j v hj => by
  obtain ⟨v', h1, h2⟩ := hcell j v hj
  simp only [D, Array.getD_eq_getD_getElem?, h1, Option.getD_some]
  exact ⟨trivial, h2⟩
 refine ⟨(Array.range (m * z)).map D, ⟨fun w' => by simp [Builtin.lenOf], fun w' hw' => ?_, by simp⟩, ⟨by simp [hlen], fun j v hj => ?_⟩⟩
 ·cases a with
  | none =>
   have : m = 0 := by
    rcases ha with ha | ha
    ·cases ha
    ·exact ha
   subst this
   simp [Builtin.firstCells]
  | some a =>
   by_cases h0 : m = 0
   ·subst h0; simp [Builtin.firstCells, loadCells, loadCellsFrom]
   ·have ha' : a = ⟨b, q, none⟩ := by rcases ha with ha | ha <;> first | (cases ha; rfl) | exact absurd ha h0
    subst ha'
    simp only [Builtin.firstCells]
    refine run_loadCells fun j hj => ?_
    rw [add_none]
    obtain ⟨v, hv⟩ : ∃ v, es.flatten[j]? = some v := ⟨_, List.getElem?_eq_getElem (by rw [hlen]; exact hj)⟩
    simp [World.cell?, hw', hb, (hD j v hv).1]
 ·have hjl : j < m * z := by
   rcases Nat.lt_or_ge j (m * z) with hh | hh
   ·exact hh
   ·rw [List.getElem?_eq_none (by omega)] at hj; cases hj
  exact ⟨D j, by simp [hjl], (hD j v hj).2⟩
theorem src_ok (hR : R P σ M h w) {v : AV} {v' : Value} {es : List (List AV)} {z : Nat} (hz : 0 < z) (hv : VR σ M v v') (hs : srcEls h v es) (hl : ∀ cs ∈ es, cs.length = z) :
  ∃ new, Src P w z es.length v' new ∧ VRs σ M es.flatten new := by
 have none_ : ∀ (a : Option Addr) (c : Nat), ∃ new, Src P w z 0 (.slice a 0 c) new ∧ VRs σ M [] new := fun a c => by
  refine ⟨#[], ⟨fun w' => by simp [Builtin.lenOf], fun w' _ => ?_, by simp⟩, .nil⟩
  cases a <;> simp [Builtin.firstCells, loadCells, loadCellsFrom]
 cases v <;> simp only [srcEls] at hs <;> try exact hs.elim
 case str s =>
  subst hs
  obtain ⟨b, rfl, rfl⟩ := hv.str_inv
  have hz1 : b.data.toList = [] ∨ z = 1 := by
   cases hb : b.data.toList with
   | nil => exact .inl rfl
   | cons c r => right; have := hl [.int .u8 c.toNat] (by rw [hb]; simp); simpa using this.symm
  have hbs : b.size = b.data.toList.length := Array.length_toList.symm
  have hfl : (List.map (fun b : UInt8 => [AV.int IntKind.u8 (b.toNat : Int)]) b.data.toList).flatten = b.data.toList.map fun b : UInt8 => AV.int IntKind.u8 (b.toNat : Int) := by
   generalize b.data.toList = l
   induction l with
   | nil => rfl
   | cons c l ih => simp [ih]
  rw [hfl]
  refine ⟨b.data.map (fun b => Value.int .u8 b.toNat), ⟨fun w' => by simp only [Builtin.lenOf, Sem.run_pure, List.length_map, hbs], fun w' _ => ?_, ?_⟩, ⟨by simp, fun j v hj => ?_⟩⟩
  ·simp only [Builtin.firstCells, List.length_map]
   have : (b.extract 0 b.data.toList.length).data = b.data := by
    apply Array.ext'; rw [Lib.extract_data]; simp only [List.drop_zero, Nat.sub_zero, List.take_length]
   rw [this]; rfl
  ·simp only [List.length_map, Array.size_map, Array.length_toList]
   rcases hz1 with h0 | h0
   ·have : b.data.size = 0 := by rw [← Array.length_toList, h0]; rfl
    rw [this]; simp
   ·subst h0; simp
  ·rw [List.getElem?_map] at hj
   cases hc : b.data.toList[j]? with
   | none => simp [hc] at hj
   | some c =>
    simp [hc] at hj; subst hj
    refine ⟨.int .u8 c.toNat, ?_, .int _ _⟩
    rw [Array.getElem?_toList] at hc
    simp [hc]
 case nils => subst hs; rw [hv.nils_inv]; exact none_ _ _
 case emp => subst hs; obtain ⟨a, rfl⟩ := hv.emp_inv; exact none_ _ _
 case isl g0 es0 =>
  subst hs
  cases hv with
  | isl0 _ a c => exact none_ a c
  | isl _ _ z0 B O C T F d c hM hz0 hn hc hv' =>
   by_cases h0 : es = []
   ·subst h0; exact none_ _ _
   ·have hzz : z0 = z := by
     cases es with
     | nil => exact absurd rfl h0
     | cons e0 es => rw [← hz0 0 e0 rfl]; exact hl e0 (by simp)
    subst hzz
    exact src_cells hz rfl hl (hR.mem _ _ hM) (fun k cs j v hk hj => ⟨_, hc k cs j v hk hj, hv' k cs j v hk hj⟩) _ c (.inl rfl)
 case slc i k n c0 =>
  obtain ⟨T, es0, hi, hkn, rfl⟩ := hs
  obtain ⟨L, a, c', rfl, hL, ha, hn, _, _⟩ := hv.slc_inv
  obtain ⟨C, F, hb, hsz, hLz, hcap, hes, hF⟩ := hR.blk i _ L hi hL
  have hlen : ((es0.drop k).take n).length = n := by simp; omega
  rw [hlen]
  by_cases h0 : n = 0
  ·subst h0; simp only [List.take_zero]; exact none_ _ _
  ·have hzz : L.z = z := by
    have h1 : ((es0.drop k).take n)[0]? = es0[k]? := by rw [List.getElem?_take_of_lt (by omega), List.getElem?_drop]; rfl
    have h2 : es0[k]? = some es0[k] := List.getElem?_eq_getElem (by omega)
    rw [← (hes k _ h2).2]
    exact hl _ (List.mem_of_getElem? (h1.trans h2))
   refine src_cells (q := L.o + k * L.z) hz hlen hl hb (fun j cs x v hj hx => ?_) _ c' ?_
   ·have hjn : j < n := by
     rcases Nat.lt_or_ge j n with hh | hh
     ·exact hh
     ·rw [List.getElem?_eq_none (by omega)] at hj; cases hj
    rw [List.getElem?_take_of_lt hjn, List.getElem?_drop] at hj
    obtain ⟨v', e1, e2⟩ := (hes _ cs hj).1.2 x v hx
    refine ⟨v', ?_, e2⟩
    rw [Array.getElem?_extract] at e1
    split at e1
    ·rw [← hzz, show L.o + k * L.z + j * L.z + x = L.o + (k + j) * L.z + x by rw [Nat.add_mul]; omega]; exact e1
    ·cases e1
   ·left; rw [ha (by omega)]
end
end Go.L

namespace Go.L
def capMax : Nat := 140737488355328
def LAppE (md : Bool) (T : TypeId) (z : Nat) (by_ : Nat) (s : AV) (es' : List (List AV)) (h : Hp) (next : AV → Hp → Prop) : Prop :=
 (∀ cs ∈ es', cs.length = z) ∧
 match s with
 | .nils => (es' = [] ∧ next .nils h) ∨ (es' ≠ [] ∧ es'.length * by_ ≤ capMax ∧ es'.length ≤ capMax ∧ allocN md h fun j => next (.slc j 0 es'.length none) (h.set j (.row T es')))
 | .emp => (es' = [] ∧ next .emp h) ∨ (es' ≠ [] ∧ es'.length * by_ ≤ capMax ∧ es'.length ≤ capMax ∧ allocN md h fun j => next (.slc j 0 es'.length none) (h.set j (.row T es')))
 | .slc i k n none => ∃ es, h i = some (.row T es) ∧ k + n ≤ es.length ∧ (∀ cs ∈ es', flat cs = true) ∧
   ((es' = [] ∧ next (.slc i k n none) h) ∨
    (es' ≠ [] ∧ (n + es'.length) * by_ ≤ capMax ∧ n + es'.length ≤ capMax ∧ allocN md h fun j => next (.slc j 0 (n + es'.length) none) ((h.del i).set j (.row T ((es.drop k).take n ++ es')))))
 | .slc i k n (some c) => ∃ es, h i = some (.row T es) ∧ k + n ≤ es.length ∧ (∀ cs ∈ es', flat cs = true) ∧
   ((n + es'.length ≤ c ∧ k + n + es'.length ≤ es.length ∧ next (.slc i k (n + es'.length) (some c)) (h.set i (.row T (es.take (k + n) ++ es' ++ es.drop (k + n + es'.length))))) ∨
    (c < n + es'.length ∧ (n + es'.length) * by_ ≤ capMax ∧ n + es'.length ≤ capMax ∧ allocN md h fun j => next (.slc j 0 (n + es'.length) none) (h.set j (.row T ((es.drop k).take n ++ es')))))
 | _ => False
def LApp (md : Bool) (T : TypeId) (z : Nat) (by_ : Nat) (s x : AV) (h : Hp) (next : AV → Hp → Prop) : Prop :=
 ∃ es', srcEls h x es' ∧ LAppE md T z by_ s es' h next
section
variable {P : Program} {σ σ' : Emb} {M M' : Mem} {h : Hp} {w w' : World}
theorem R.other (hR : R P σ M h w) {B : Nat} (hM : M B = none) (hB : ∀ i b L, h i = some b → σ i = some L → L.b ≠ B) (hoth : ∀ B', B' ≠ B → w'.heap[B']? = w.heap[B']?) : R P σ M h w' where
 glb := hR.glb
 fin := hR.fin
 dom := hR.dom
 mem := fun B' o hB' => by
  rw [hoth B' (fun e => by rw [e] at hB'; rw [hM] at hB'; cases hB')]; exact hR.mem B' o hB'
 sep := hR.sep
 inj := hR.inj
 blk := fun i b L hi hL => (hR.blk i b L hi hL).mono σ.le_refl M.le_refl (hoth _ (hB i b L hi hL))
 al := hR.al
theorem R.place (hR : R P σ M h w) {j : Nat} {b : Blk} {L : Loc} (hj : σ j = none) (hM : M L.b = none) (hB : ∀ i b L', h i = some b → σ i = some L' → L'.b ≠ L.b) (hb : BlkR P (σ.set j L) M w L b) (hLo : ∃ q, L.o = q * L.z) :
  R P (σ.set j L) M (h.set j b) w where
 glb := hR.glb
 fin := fun x hx => by
  by_cases e : x = j
  ·simp [e] at hx
  ·simp [e] at hx; simp [Emb.set, e, hR.fin x hx]
 dom := fun x c hx => by
  by_cases e : x = j
  ·subst e; exact ⟨L, by simp⟩
  ·rw [Hp.set_ne e] at hx; obtain ⟨K, hK⟩ := hR.dom x c hx; exact ⟨K, Emb.le_set hj _ _ hK⟩
 mem := hR.mem
 sep := fun x c K hx hK => by
  by_cases e : x = j
  ·subst e; simp at hK; subst hK; exact hM
  ·rw [Hp.set_ne e] at hx; simp [Emb.set, e] at hK; exact hR.sep x c K hx hK
 inj := fun x y bx by_ Lx Ly hx hy hLx hLy he => by
  have old : ∀ a ba K, a ≠ j → h.set j b a = some ba → (σ.set j L) a = some K → h a = some ba ∧ σ a = some K := fun a ba K e ha hK => by
   rw [Hp.set_ne e] at ha; simp [Emb.set, e] at hK; exact ⟨ha, hK⟩
  by_cases e1 : x = j <;> by_cases e2 : y = j
  ·rw [e1, e2]
  ·subst e1
   obtain ⟨hy', hLy'⟩ := old y by_ Ly e2 hy hLy
   simp at hLx; subst hLx
   exact absurd he.symm (hB _ _ _ hy' hLy')
  ·subst e2
   obtain ⟨hx', hLx'⟩ := old x bx Lx e1 hx hLx
   simp at hLy; subst hLy
   exact absurd he (hB _ _ _ hx' hLx')
  ·obtain ⟨hx', hLx'⟩ := old x bx Lx e1 hx hLx
   obtain ⟨hy', hLy'⟩ := old y by_ Ly e2 hy hLy
   exact hR.inj x y _ _ _ _ hx' hy' hLx' hLy' he
 blk := fun x c K hx hK => by
  by_cases e : x = j
  ·subst e; simp at hK; subst hK; rw [Hp.set_same] at hx; cases hx; exact hb
  ·rw [Hp.set_ne e] at hx; simp [Emb.set, e] at hK
   exact (hR.blk x c K hx hK).mono (Emb.le_set hj) M.le_refl rfl
 al := fun x c K hx hK => by
  by_cases e : x = j
  ·subst e; simp at hK; subst hK; exact hLo
  ·rw [Hp.set_ne e] at hx; simp [Emb.set, e] at hK; exact hR.al x c K hx hK
theorem rows_of_flat {z : Nat} {es : List (List AV)} {A : Array Value} (hl : ∀ cs ∈ es, cs.length = z) (hA : VRs σ M es.flatten A) :
  ∀ (k : Nat) (cs : List AV), es[k]? = some cs → VRs σ M cs (A.extract (k * z) (k * z + z)) := by
 have key : ∀ (es : List (List AV)) (off : Nat), (∀ cs ∈ es, cs.length = z) → (∀ (j : Nat) (v : AV), es.flatten[j]? = some v → ∃ v', A[off + j]? = some v' ∧ VR σ M v v') → off + es.flatten.length ≤ A.size →
   ∀ (k : Nat) (cs : List AV), es[k]? = some cs → VRs σ M cs (A.extract (off + k * z) (off + k * z + z)) := by
  intro es
  induction es with
  | nil => intro off _ _ _ k cs h; simp at h
  | cons e es ih =>
   intro off hl hc hs k cs hk
   have he : e.length = z := hl e (by simp)
   simp only [List.flatten_cons, List.length_append] at hs
   cases k with
   | zero =>
    simp only [List.getElem?_cons_zero, Option.some.injEq] at hk; subst hk
    refine ⟨by simp; omega, fun j v hj => ?_⟩
    have hjl : j < e.length := by
     rcases Nat.lt_or_ge j e.length with hh | hh
     ·exact hh
     ·rw [List.getElem?_eq_none hh] at hj; cases hj
    obtain ⟨v', h1, h2⟩ := hc j v (by rw [List.flatten_cons, List.getElem?_append_left hjl]; exact hj)
    exact ⟨v', by rw [Array.getElem?_extract, if_pos (by omega)]; simpa using h1, h2⟩
   | succ k =>
    simp only [List.getElem?_cons_succ] at hk
    have := ih (off + z) (fun x hx => hl x (by simp [hx])) (fun j v hj => by
     obtain ⟨v', h1, h2⟩ := hc (z + j) v (by rw [List.flatten_cons, List.getElem?_append_right (by omega), show z + j - e.length = j by omega]; exact hj)
     exact ⟨v', by rw [Nat.add_assoc]; exact h1, h2⟩) (by omega) k cs hk
    rw [show off + (k + 1) * z = off + z + k * z by rw [Nat.add_mul]; omega]
    exact this
 intro k cs hk
 have := key es 0 hl (fun j v hj => by simpa using hA.2 j v hj) (by rw [hA.1]; omega) k cs hk
 simpa using this
theorem flat_flatten : ∀ {es : List (List AV)}, (∀ cs ∈ es, flat cs = true) → flat es.flatten = true := by
 have app : ∀ (a b : List AV), flat a = true → flat b = true → flat (a ++ b) = true := by
  intro a
  induction a with
  | nil => intro b _ hb; exact hb
  | cons x a ih => intro b ha hb; simp only [flat, Bool.and_eq_true, List.cons_append] at ha ⊢; exact ⟨ha.1, ih b ha.2 hb⟩
 intro es
 induction es with
 | nil => intro _; rfl
 | cons e es ih => intro h; rw [List.flatten_cons]; exact app _ _ (h e (by simp)) (ih fun x hx => h x (by simp [hx]))
theorem R.newRow (hR : R P σ M h w) {j : Nat} (hj : σ j = none) {T : TypeId} {i : TypeInfo} (hi : P.info? T = some i) {es : List (List AV)} (hl : ∀ cs ∈ es, cs.length = i.size) {A rest : Array Value} (hA : VRs σ M es.flatten A) :
  R P (σ.set j ⟨w.heap.size, 0, (A ++ rest).size, i.size⟩) M (h.set j (.row T es)) (w.alloc (.cells (A ++ rest) T)) := by
 refine hR.alloc hj rfl ⟨A ++ rest, (0, 0), by simp [← World.alloc_eq], rfl, by simp [hi], ?_, fun k cs hk => ⟨?_, hl cs (List.mem_of_getElem? hk)⟩, .inl rfl⟩
 ·have := hA.1
  rw [flatten_len es hl] at this
  simp [this]
 ·have h1 := (rows_of_flat hl hA k cs hk).mono (Emb.le_set (L := ⟨w.heap.size, 0, (A ++ rest).size, i.size⟩) hj) M.le_refl
  have hkl : k < es.length := by
   rcases Nat.lt_or_ge k es.length with hh | hh
   ·exact hh
   ·rw [List.getElem?_eq_none hh] at hk; cases hk
  have hsz : A.size = es.length * i.size := by rw [hA.1, flatten_len es hl]
  have hmul : (k + 1) * i.size ≤ es.length * i.size := Nat.mul_le_mul_right _ hkl
  rw [Nat.add_mul, Nat.one_mul] at hmul
  simp only [Nat.zero_add]
  have : (A ++ rest).extract (k * i.size) (k * i.size + i.size) = A.extract (k * i.size) (k * i.size + i.size) := by
   apply Array.ext'
   simp only [Array.toList_extract, Array.toList_append, List.extract_eq_take_drop]
   rw [List.drop_append_of_le_length (by rw [Array.length_toList]; omega), List.take_append_of_le_length (by rw [List.length_drop, Array.length_toList]; omega)]
  rw [this]; exact h1
end
end Go.L

namespace Go.L
section
variable {P : Program} {md : Bool} {σ σ' : Emb} {M M' : Mem} {h : Hp} {w w' : World}
def Done (P : Program) (σ : Emb) (M : Mem) (w : World) (next : AV → Hp → Prop) (v' : Value) (w' : World) : Prop :=
 ∃ σ' M' h' v, Ext σ M w σ' M' w' ∧ R P σ' M' h' w' ∧ VR σ' M' v v' ∧ next v h'
theorem old_nil {z : Nat} {a : Option Addr} {c : Nat} (w' : World) : (Builtin.firstCells z 0 (.slice a 0 c)).run P w' = .ok #[] w' := by
 cases a <;> simp [Builtin.firstCells, loadCells, loadCellsFrom]
structure AppSem (P : Program) (w : World) (i : TypeInfo) (zv : Value) (T : TypeId) (ts : Array TypeId) (ty : TypeId) (x' : Value) (m : Nat) (new : Array Value) : Prop where
 size : new.size = m * i.size
 fit : ∀ {base : Option Addr} {n c : Nat} {w1 : World}, n + m ≤ c → (match base with | some a => (storeCells (a.add (n * i.size)) new.toList).run P w = .ok () w1 | none => w1 = w) →
  (Builtin.append_ ts ty #[.slice base n c, x']).run P w = .ok (.slice base (n + m) c) w1
 grow : ∀ {base : Option Addr} {n c : Nat} {old : Array Value}, c < n + m → (n + m) * i.bytes ≤ 140737488355328 → n + m ≤ 140737488355328 →
  (∀ w' : World, w'.heap = w.heap → (Builtin.firstCells i.size n (.slice base n c)).run P w' = .ok old w') →
  ∃ cap, n + m ≤ cap ∧ (Builtin.append_ ts ty #[.slice base n c, x']).run P w =
   .ok (.slice (some ⟨w.heap.size, 0, none⟩) (n + m) cap) (w.drew.alloc (.cells (old ++ new ++ Builtin.zeroCells zv.cells (cap - (n + m))) T))
theorem app_core (hR : R P σ M h w) {ts : Array TypeId} {ty T : TypeId} {i : TypeInfo} {zv : Value}
  (hi : P.info? T = some i) (hz0 : 0 < i.size) (hzs : zv.cells.size = i.size) {s : AV} {s' x' : Value} (hs : VR σ M s s') {es' : List (List AV)} {new : Array Value} (hSrc : AppSem P w i zv T ts ty x' es'.length new)
  (hnew : VRs σ M es'.flatten new) {next : AV → Hp → Prop} (hl : LAppE md T i.size i.bytes s es' h next) :
  ∃ v' w', (Builtin.append_ ts ty #[s', x']).run P w = .ok v' w' ∧ Done P σ M w next v' w' := by
 obtain ⟨hlen, hl⟩ := hl
 have idle : ∀ {a : Option Addr} {n c : Nat} {v : AV}, es' = [] → n ≤ c → VR σ M v (.slice a n c) → next v h →
   ∃ v' w', (Builtin.append_ ts ty #[.slice a n c, x']).run P w = .ok v' w' ∧ Done P σ M w next v' w' := by
  intro a n c v he hnc hv hn
  subst he
  simp only [List.length_nil] at hSrc
  have hn0 : new = #[] := by have := hSrc.size; simp at this; exact this
  refine ⟨_, w, hSrc.fit (w1 := w) (by omega) ?_, σ, M, h, v, .refl _ _ _, hR, hv, hn⟩
  cases a with
  | none => rfl
  | some a => simp [hn0, storeCells]
 have fresh : ∀ {a : Option Addr} {n c : Nat} {olds : List (List AV)} {old : Array Value} {h0 : Hp}, c < n + es'.length → (n + es'.length) * i.bytes ≤ capMax → n + es'.length ≤ capMax →
   olds.length = n → (∀ cs ∈ olds, cs.length = i.size) → VRs σ M olds.flatten old → (∀ w' : World, w'.heap = w.heap → (Builtin.firstCells i.size n (.slice a n c)).run P w' = .ok old w') →
   R P σ M h0 w → (allocN md h fun j => next (.slc j 0 (n + es'.length) none) (h0.set j (.row T (olds ++ es')))) →
   ∃ v' w', (Builtin.append_ ts ty #[.slice a n c, x']).run P w = .ok v' w' ∧ Done P σ M w next v' w' := by
  intro a n c olds old h0 hgrow hb1 hb2 hon hol hold hrun hR0 hn
  unfold capMax at hb1 hb2
  obtain ⟨cap, hcap, happ⟩ := hSrc.grow hgrow hb1 (by omega) hrun
  refine ⟨_, _, happ, ?_⟩
  obtain ⟨j, hj, hjn⟩ := hR.fresh hn
  have hall : ∀ cs ∈ olds ++ es', cs.length = i.size := fun cs hc => by
   rcases List.mem_append.1 hc with hc | hc
   ·exact hol cs hc
   ·exact hlen cs hc
  have hA : VRs σ M (olds ++ es').flatten (old ++ new) := by rw [List.flatten_append]; exact hold.append hnew
  have hN := (hR0.drew).newRow hj hi hall hA (rest := Builtin.zeroCells zv.cells (cap - (n + es'.length)))
  refine ⟨_, M, _, _, ?_, hN, ?_, hjn⟩
  ·exact (Ext.drew).trans (Ext.alloc hj)
  ·refine .slc j 0 _ none ⟨w.heap.size, 0, (old ++ new ++ Builtin.zeroCells zv.cells (cap - (n + es'.length))).size, i.size⟩ _ cap (by simp) (fun _ => by simp) hcap (fun _ h => by cases h) (fun _ => ?_)
   have h1 : (old ++ new).size = (n + es'.length) * i.size := by rw [hA.1, flatten_len _ hall]; simp [hon]
   simp only [Nat.zero_add]
   rw [Array.size_append, h1, size_zeroCells, hzs, ← Nat.add_mul]
   rw [show n + es'.length + (cap - (n + es'.length)) = cap by omega]
   exact Nat.le_refl _
 have elen : es' ≠ [] → 0 < es'.length := fun h => List.length_pos_iff.2 h
 have nl : ∀ (a : Option Addr) (v : AV), VR σ M v (.slice a 0 0) → s' = .slice a 0 0 →
   ((es' = [] ∧ next v h) ∨ (es' ≠ [] ∧ es'.length * i.bytes ≤ capMax ∧ es'.length ≤ capMax ∧ allocN md h fun j => next (.slc j 0 es'.length none) (h.set j (.row T es')))) →
   ∃ v' w', (Builtin.append_ ts ty #[s', x']).run P w = .ok v' w' ∧ Done P σ M w next v' w' := by
  intro a v hv he hl
  subst he
  rcases hl with ⟨h1, h2⟩ | ⟨h1, h2, h3, h4⟩
  ·exact idle h1 (Nat.le_refl _) hv h2
  ·have := elen h1
   refine fresh (n := 0) (c := 0) (olds := []) (old := #[]) (by omega) (by simpa using h2) (by simpa using h3) rfl (fun _ h => by simp at h) .nil (fun w' _ => old_nil w') hR ?_
   simpa using h4
 cases s <;> try exact hl.elim
 case nils => exact nl none _ .nils hs.nils_inv hl
 case emp => obtain ⟨a, he⟩ := hs.emp_inv; exact nl a _ (.emp a) he hl
 case slc b k n c =>
  have row : ∀ {es : List (List AV)}, h b = some (.row T es) → k + n ≤ es.length → ∃ (L : Loc) (a : Addr) (c' : Nat) (C : Array Value) (F : Nat × Nat) (old : Array Value), s' = .slice (some a) n c' ∧ σ b = some L ∧
    (c' ≠ 0 → a = ⟨L.b, L.o + k * L.z, none⟩) ∧ n ≤ c' ∧ (∀ x, c = some x → c' = x) ∧ (c = none → L.o + (k + c') * L.z ≤ L.s) ∧
    w.heap[L.b]? = some (.cells C T F) ∧ C.size = L.s ∧ L.z = i.size ∧ L.o + es.length * L.z ≤ L.s ∧ Unf F L.s ∧
    (∀ (j : Nat) (cs : List AV), es[j]? = some cs → VRs σ M cs (C.extract (L.o + j * L.z) (L.o + j * L.z + L.z)) ∧ cs.length = L.z) ∧
    ((es.drop k).take n).length = n ∧ (∀ cs ∈ (es.drop k).take n, cs.length = i.size) ∧ VRs σ M ((es.drop k).take n).flatten old ∧
    (∀ w' : World, w'.heap = w.heap → (Builtin.firstCells i.size n (.slice (some a) n c')).run P w' = .ok old w') := by
   intro es hb hkn
   obtain ⟨L, a, c', he, hL, ha, hn, hk, hu'⟩ := hs.slc_inv
   obtain ⟨C, F, hbl, hsz, hLz, hcap, hes, hF⟩ := hR.blk b _ L hb hL
   have hz : L.z = i.size := by rw [hi] at hLz; simpa using hLz.symm
   have hdl : ∀ cs ∈ (es.drop k).take n, cs.length = i.size := fun cs hc => by
    obtain ⟨j, hj⟩ := List.getElem?_of_mem (List.mem_of_mem_drop (List.mem_of_mem_take hc))
    rw [← hz]; exact (hes j cs hj).2
   obtain ⟨old, hO, hOv⟩ := src_ok (es := (es.drop k).take n) hR hz0 hs ⟨T, es, hb, hkn, rfl⟩ hdl
   have hlenn : ((es.drop k).take n).length = n := by simp; omega
   rw [hlenn] at hO
   refine ⟨L, a, c', C, F, old, he, hL, ha, hn, hk, hu', hbl, hsz, hz, hcap, hF, hes, hlenn, hdl, hOv, fun w' hw' => ?_⟩
   rw [he] at hO
   exact hO.cells w' hw'
  have write : ∀ {L : Loc} {C : Array Value} {F : Nat × Nat} (q : Nat), w.heap[L.b]? = some (.cells C T F) → C.size = L.s → L.z = i.size → Unf F L.s → L.o + q * L.z + es'.length * L.z ≤ L.s →
    (∀ cs ∈ es', flat cs = true) →
    ∃ w', (storeCells ⟨L.b, L.o + q * L.z, none⟩ new.toList).run P w = .ok () w' ∧ w'.heap.size = w.heap.size ∧ w'.os = w.os ∧ w'.tape = w.tape ∧ w'.output = w.output ∧ (∀ B, B ≠ L.b → w'.heap[B]? = w.heap[B]?) ∧
     w'.heap[L.b]? = some (.cells (setMany C (L.o + q * L.z) new.toList) T F) := by
   intro L C F q hbl hsz hz hF hle hf
   have hff := flat_flatten hf
   have hnl : new.toList.length = es'.length * L.z := by rw [Array.length_toList, hSrc.size, hz]
   exact run_storeCells (P := P) L.b (L.o + q * L.z) new.toList 0 w C T F hbl (by rw [hnl]; omega) (fun x hx hx2 => hF.at x (by omega)) (fun u hu => by
    obtain ⟨j, hj⟩ := List.getElem?_of_mem hu
    have hjl : j < es'.flatten.length := by
     rcases Nat.lt_or_ge j es'.flatten.length with hh | hh
     ·exact hh
     ·rw [List.getElem?_eq_none (by rw [Array.length_toList, hnew.1]; exact hh)] at hj; cases hj
    obtain ⟨v', e1, e2⟩ := hnew.2 j _ (List.getElem?_eq_getElem hjl)
    rw [Array.getElem?_toList, e1] at hj; cases hj
    exact scalar_ok e2 (flat_get hff (List.getElem?_eq_getElem hjl)))
  have reads : ∀ {L : Loc} {C : Array Value} (q : Nat) (es : List (List AV)), C.size = L.s → L.z = i.size → L.o + q * L.z + es'.length * L.z ≤ L.s →
    (∀ (j : Nat) (cs : List AV), es[j]? = some cs → VRs σ M cs (C.extract (L.o + j * L.z) (L.o + j * L.z + L.z)) ∧ cs.length = L.z) → L.o + es.length * L.z ≤ L.s →
    ∀ (j : Nat) (cs : List AV), ((q ≤ j ∧ es'[j - q]? = some cs) ∨ ((j < q ∨ q + es'.length ≤ j) ∧ es[j]? = some cs)) →
     VRs σ M cs ((setMany C (L.o + q * L.z) new.toList).extract (L.o + j * L.z) (L.o + j * L.z + L.z)) ∧ cs.length = L.z := by
   intro L C q es hsz hz hle hes hcap j cs hj
   have hnl : new.toList.length = es'.length * L.z := by rw [Array.length_toList, hSrc.size, hz]
   have hget := setMany_get new.toList (L.o + q * L.z) C (by omega)
   have hss := setMany_size new.toList (L.o + q * L.z) C
   rcases hj with ⟨hqj, hj⟩ | ⟨hjq, hj⟩
   ·have hjl : j - q < es'.length := by
     rcases Nat.lt_or_ge (j - q) es'.length with hh | hh
     ·exact hh
     ·rw [List.getElem?_eq_none hh] at hj; cases hj
    have hV := rows_of_flat hlen hnew _ cs hj
    have hcl : cs.length = L.z := by rw [hz]; exact hlen cs (List.mem_of_getElem? hj)
    have hm1 : j * L.z = q * L.z + (j - q) * L.z := by rw [← Nat.add_mul]; congr 1; omega
    have hm2 : (j - q + 1) * L.z ≤ es'.length * L.z := Nat.mul_le_mul_right _ hjl
    rw [Nat.add_mul, Nat.one_mul] at hm2
    refine ⟨⟨by rw [Array.size_extract, hss]; omega, fun x u hx => ?_⟩, hcl⟩
    have hxl : x < L.z := by
     rcases Nat.lt_or_ge x cs.length with hh | hh
     ·omega
     ·rw [List.getElem?_eq_none hh] at hx; cases hx
    obtain ⟨v', e1, e2⟩ := hV.2 x u hx
    refine ⟨v', ?_, e2⟩
    rw [Array.getElem?_extract] at e1
    split at e1
    ·rw [Array.getElem?_extract, if_pos (by rw [hss]; omega), hget, if_pos (by omega), Array.getElem?_toList]
     rw [show L.o + j * L.z + x - (L.o + q * L.z) = (j - q) * L.z + x by omega]
     rw [← hz] at e1; exact e1
    ·cases e1
   ·obtain ⟨hV, hcl⟩ := hes j cs hj
    refine ⟨⟨by rw [Array.size_extract, hss]; have := hV.1; rw [Array.size_extract] at this; exact this, fun x u hx => ?_⟩, hcl⟩
    have hxl : x < L.z := by
     rcases Nat.lt_or_ge x cs.length with hh | hh
     ·omega
     ·rw [List.getElem?_eq_none hh] at hx; cases hx
    obtain ⟨v', e1, e2⟩ := hV.2 x u hx
    refine ⟨v', ?_, e2⟩
    rw [Array.getElem?_extract] at e1
    split at e1
    ·rename_i hc
     rw [Array.getElem?_extract, if_pos (by rw [hss]; exact hc), hget, if_neg, e1]
     intro hcon
     rcases hjq with hjq | hjq
     ·have : (j + 1) * L.z ≤ q * L.z := Nat.mul_le_mul_right _ hjq
      rw [Nat.add_mul, Nat.one_mul] at this
      omega
     ·have : (q + es'.length) * L.z ≤ j * L.z := Nat.mul_le_mul_right _ hjq
      rw [Nat.add_mul] at this
      omega
    ·cases e1
  cases c with
  | none =>
   obtain ⟨es, hb, hkn, hflat, hl⟩ := hl
   obtain ⟨L, a, c', C, F, old, he, hL, ha, hn, hk, hu', hbl, hsz, hz, hcap, hF, hes, hdn, hdl, hOv, hOr⟩ := row hb hkn
   subst he
   rcases hl with ⟨h1, h2⟩ | ⟨h1, h2, h3, h4⟩
   ·exact idle h1 hn hs h2
   ·have hpos := elen h1
    by_cases hfit : n + es'.length ≤ c'
    ·
     have hroom := hu' rfl
     have hm : (k + c') * L.z = (k + n) * L.z + (c' - n) * L.z := by rw [← Nat.add_mul]; congr 1; omega
     have hm2 : es'.length * L.z ≤ (c' - n) * L.z := Nat.mul_le_mul_right _ (by omega)
     have hle : L.o + (k + n) * L.z + es'.length * L.z ≤ L.s := by omega
     obtain ⟨w1, g1, g2, g3, g4, g5, g6, g7⟩ := write (k + n) hbl hsz hz hF hle hflat
     have haddr := ha (by omega)
     refine ⟨_, w1, hSrc.fit (w1 := w1) hfit ?_, ?_⟩
     ·simp only [haddr, add_none]
      rw [show L.o + k * L.z + n * i.size = L.o + (k + n) * L.z by rw [Nat.add_mul, ← hz]; omega]; exact g1
     ·obtain ⟨j, hj, hjn⟩ := hR.fresh h4
      have hM : M L.b = none := hR.sep b _ L hb hL
      have hB : ∀ x c L', (h.del b) x = some c → σ x = some L' → L'.b ≠ L.b := fun x c L' hx hL' he => by
       by_cases e : x = b
       ·subst e; simp at hx
       ·rw [Hp.del_ne e] at hx; exact e (hR.inj x b c _ L' L hx hb hL' hL he)
      have hR1 := (hR.del b).other hM hB g6
      let K : Loc := ⟨L.b, L.o + k * L.z, L.s, L.z⟩
      have hR2 := hR1.place (j := j) (b := .row T ((es.drop k).take n ++ es')) (L := K) hj hM hB (by
       refine ⟨_, F, g7, by rw [setMany_size]; exact hsz, by simp [hi, K, hz], ?_, fun x cs hx => ?_, hF⟩
       ·have hdl' : ((es.drop k).take n ++ es').length = n + es'.length := by simp; omega
        rw [hdl']
        show L.o + k * L.z + (n + es'.length) * L.z ≤ L.s
        rw [Nat.add_mul]; rw [Nat.add_mul] at hle; omega
       ·have key := reads (k + n) es hsz hz hle hes hcap (k + x) cs (by
         by_cases hxn : x < n
         ·right
          rw [List.getElem?_append_left (by simp; omega), List.getElem?_take_of_lt hxn, List.getElem?_drop] at hx
          exact ⟨.inl (by omega), hx⟩
         ·left
          rw [List.getElem?_append_right (by simp; omega), hdn] at hx
          exact ⟨by omega, by rw [show k + x - (k + n) = x - n by omega]; exact hx⟩)
        have eo : K.o + x * K.z = L.o + (k + x) * L.z := by show L.o + k * L.z + x * L.z = _; rw [Nat.add_mul]; omega
        rw [eo]
        exact ⟨key.1.mono (Emb.le_set hj) M.le_refl, key.2⟩) (by
       obtain ⟨q, hq⟩ := hR.al b _ L hb hL
       exact ⟨q + k, by show L.o + k * L.z = (q + k) * L.z; rw [hq, Nat.add_mul]⟩)
      refine ⟨_, M, _, _, ⟨Emb.le_set hj, M.le_refl, by omega, g3, g4, g5⟩, hR2, ?_, hjn⟩
      refine .slc j 0 _ none K a c' (by simp) (fun _ => ?_) (by omega) (fun _ h => by cases h) (fun _ => ?_)
      ·rw [haddr]; simp [K]
      ·show L.o + k * L.z + (0 + c') * L.z ≤ L.s
       rw [Nat.zero_add, Nat.add_assoc, ← Nat.add_mul]; exact hroom
    ·exact fresh (olds := (es.drop k).take n) (h0 := h.del b) (by omega) h2 h3 hdn hdl hOv hOr (hR.del b) h4
  | some c0 =>
   obtain ⟨es, hb, hkn, hflat, hl⟩ := hl
   obtain ⟨L, a, c', C, F, old, he, hL, ha, hn, hk, hu', hbl, hsz, hz, hcap, hF, hes, hdn, hdl, hOv, hOr⟩ := row hb hkn
   subst he
   obtain rfl := hk c0 rfl
   rcases hl with ⟨h1, h2, h3⟩ | ⟨h1, h2, h3, h4⟩
   ·by_cases hc0 : c' = 0
    ·have hn0 : n = 0 := by omega
     have he0 : es' = [] := List.eq_nil_of_length_eq_zero (by omega)
     refine idle he0 hn hs ?_
     have hb' : h.set b (.row T (es.take (k + n) ++ es' ++ es.drop (k + n + es'.length))) = h := by
      refine hR.set_eq hL ?_
      simp [he0, hb]
     rw [hb'] at h3
     simpa [he0] using h3
    ·have haddr := ha hc0
     have hmm : (k + n) * L.z + es'.length * L.z ≤ es.length * L.z := by rw [← Nat.add_mul]; exact Nat.mul_le_mul_right _ h2
     have hle : L.o + (k + n) * L.z + es'.length * L.z ≤ L.s := by omega
     obtain ⟨w1, g1, g2, g3, g4, g5, g6, g7⟩ := write (k + n) hbl hsz hz hF hle hflat
     refine ⟨_, w1, hSrc.fit (w1 := w1) h1 ?_, ?_⟩
     ·simp only [haddr, add_none]
      rw [show L.o + k * L.z + n * i.size = L.o + (k + n) * L.z by rw [Nat.add_mul, ← hz]; omega]; exact g1
     ·have hnl : (es.take (k + n) ++ es' ++ es.drop (k + n + es'.length)).length = es.length := by simp; omega
      refine ⟨σ, M, _, _, ⟨σ.le_refl, M.le_refl, by omega, g3, g4, g5⟩, hR.upd hb hL g6 ?_, ?_, h3⟩
      ·refine ⟨_, F, g7, by rw [setMany_size]; exact hsz, by simp [hi, hz], by rw [hnl]; exact hcap, fun x cs hx => ?_, hF⟩
       refine reads (k + n) es hsz hz hle hes hcap x cs ?_
       by_cases h5 : x < k + n
       ·right
        rw [List.append_assoc, List.getElem?_append_left (by simp; omega), List.getElem?_take_of_lt h5] at hx
        exact ⟨.inl h5, hx⟩
       ·by_cases h6 : x < k + n + es'.length
        ·left
         rw [List.append_assoc, List.getElem?_append_right (by simp; omega), List.getElem?_append_left (by simp; omega)] at hx
         simp only [List.length_take] at hx
         exact ⟨by omega, by rw [show x - (k + n) = x - min (k + n) es.length by omega]; exact hx⟩
        ·right
         rw [List.getElem?_append_right (by simp; omega)] at hx
         simp only [List.length_append, List.length_take, List.getElem?_drop] at hx
         exact ⟨.inr (by omega), by rw [show x = k + n + es'.length + (x - (min (k + n) es.length + es'.length)) by omega]; exact hx⟩
      ·exact .slc b k _ (some c') L a c' hL ha h1 (fun _ h => by cases h; rfl) (fun h => by cases h)
   ·exact fresh (olds := (es.drop k).take n) (h0 := h) h1 h2 h3 hdn hdl hOv hOr hR h4
theorem app_ok (hR : R P σ M h w) {t u ty T : TypeId} {i : TypeInfo} {zv : Value} (ht : P.underlying t = some (.slice T)) {du : TypeDesc} (hu : P.underlying u = some du) (hdu : ∀ k, du ≠ .int k)
  (hi : P.info? T = some i) (hz0 : 0 < i.size) (hzv : i.zero = some zv) (hzs : zv.cells.size = i.size) {s x : AV} {s' x' : Value} (hs : VR σ M s s') (hx : VR σ M x x') {next : AV → Hp → Prop} (hl : LApp md T i.size i.bytes s x h next) :
  ∃ v' w', (Builtin.append_ #[t, u] ty #[s', x']).run P w = .ok v' w' ∧ Done P σ M w next v' w' := by
 obtain ⟨es', hsrc, hl⟩ := hl
 obtain ⟨new, hSrc, hnew⟩ := src_ok hR hz0 hx hsrc hl.1
 exact app_core hR hi hz0 hzs hs ⟨hSrc.size, fun h1 h2 => run_append_fit ht hu hdu hi hSrc h1 h2, fun h1 h2 h3 h4 => run_append_new ht hu hdu hi hzv hSrc h1 h2 h3 h4⟩ hnew hl
theorem appz_sem {t u ty T : TypeId} {i : TypeInfo} {zv : Value} (ht : P.underlying t = some (.slice T)) {k : IntKind} (hu : P.underlying u = some (.int k)) (hi : P.info? T = some i) (hz0 : 0 < i.size) (hzv : i.zero = some zv)
  (hzs : zv.cells.size = i.size) {m : Nat} (hm : m ≤ 140737488355328) (hb : m * i.bytes ≤ 140737488355328) (k' : IntKind) : AppSem P w i zv T #[t, u] ty (.int k' m) m (Builtin.zeroCells zv.cells m) := by
 have hw : IntKind.i64.wrap (m : Int) = m := IntWalk.i64_in _ ⟨by omega, by omega⟩
 have h1 : ¬ ((m : Int) < 0) := by omega
 have h2 : ¬ ((281474976710656 : Int) < (m : Int) * (i.bytes : Int)) := by
  have : (m : Int) * (i.bytes : Int) = ((m * i.bytes : Nat) : Int) := by simp
  rw [this]; omega
 have hai : ∀ w' : World, (asInt (.int k' (m : Int))).run P w' = .ok (m : Int) w' := fun w' => by simp [asInt, asIntOf]
 have hzr : ∀ w' : World, (zeroValue T).run P w' = .ok zv w' := fun w' => by simp [zeroValue, run_typeInfo' hi, hzv]
 have hz00 : m * i.size = 0 → Builtin.zeroCells zv.cells m = #[] := fun h0 => by
  have : m = 0 := by rcases Nat.mul_eq_zero.1 h0 with h0 | h0 <;> omega
  subst this
  simp [Builtin.zeroCells]
 refine ⟨by rw [size_zeroCells, hzs], ?_, ?_⟩
 ·intro base n c w1 hroom hst
  cases base with
  | none =>
   subst hst
   simp [Builtin.append_, run_underlying ht, run_underlying hu, run_sizeOf' hi, run_typeInfo' hi, hai, hw, h1, h2, hroom, hzr]
  | some a =>
   simp only at hst
   simp [Builtin.append_, run_underlying ht, run_underlying hu, run_sizeOf' hi, run_typeInfo' hi, hai, hw, h1, h2, hroom]
   split
   ·rename_i h0; rw [hz00 h0] at hst; simp at hst; simp [hst]
   ·simp [hzr, hst]
 ·intro base n c old hgrow hb1 h63 hold
  have hn : ¬ (n + m ≤ c) := by omega
  have hfit := growslice_fits hgrow hb1
  have h63' : ¬ (9223372036854775807 < ((n : Int) + (m : Int))) := by omega
  have h48' : ¬ (281474976710656 < Builtin.nextslicecap (n + m) c * i.bytes) := by omega
  refine ⟨grownCap w (n + m) c T, grownCap_ge _ _ _ _, ?_⟩
  have h2' := hold w.drew rfl
  simp [Builtin.append_, run_underlying ht, run_underlying hu, run_sizeOf' hi, run_typeInfo' hi, hai, hw, h1, h2, hn, h63', h48', Question.forced, h2', newRow, grownCap, hzr]
  intro h0; rw [hz00 h0]; simp
end
end Go.L

namespace Go.L
def chunk (z : Nat) : Nat → List AV → List (List AV)
 | 0, _ => []
 | n + 1, cs => cs.take z :: chunk z n (cs.drop z)
def rep (z : List AV) : Nat → List AV
 | 0 => []
 | n + 1 => z ++ rep z n
def mupdN (r : Option AV) (N : MapL → Nat → Prop) (a b : MapL) (c : Nat) : Prop :=
 match r with
 | some _ => N a c
 | none => N b (c + 1)
def tlook (t : Nat) : List (Nat × Nat) → Option Nat
 | [] => none
 | (u, f) :: r => match Nat.beq u t with
  | true => some f
  | false => tlook t r
def mgetB (k : AV) : MapL → Option (AV × Nat)
 | [] => none
 | x :: es => match sameK k x.1 with
  | some true => some (x.2.1, x.2.2)
  | _ => mgetB k es
def mkey (k : AV) : MapL → MapL
 | [] => []
 | x :: es => match sameK k x.1 with
  | some true => (k, x.2.1, x.2.2) :: es
  | _ => x :: mkey k es
def mstamp (b : Nat) (v : AV) : MapL → MapL
 | [] => []
 | x :: es => match Nat.beq x.2.2 b with
  | true => (x.1, v, x.2.2) :: es
  | false => x :: mstamp b v es
def mdrop (k : AV) : MapL → MapL
 | [] => []
 | x :: es => match sameK k x.1 with
  | some true => es
  | _ => x :: mdrop k es
def HasBody (P : Program) (f : FuncId) : Prop := ∃ fn, P.funcs[f]? = some fn ∧ fn.body.isSome = true ∧ (fn.name == "runtime.NumGoroutine") = false
structure RoundL (P : Program) (i : Nat) (args : List AV) (h : Hp) (Q : AV → Hp → Prop) : Prop where
 run : ∀ (σ : Emb) (M : Mem) (w : World) (args' : Array Value) (L : Loc), R P σ M h w → VRs σ M args args' → σ i = some L →
  ∃ fn tmps ca cb, (Instr.yield L.b args').run P w = .ok (.round L.b fn tmps ca cb) w ∧ RoundIn Fence.wide 0 P L.b fn tmps ca cb w fun e w' =>
   ∃ σ' M' h' v v', Ext σ M w σ' M' w' ∧ R P σ' M' h' w' ∧ e = .returned v' ∧ VR σ' M' v v' ∧ Q v h'
theorem RoundL.mono {P : Program} {i : Nat} {args : List AV} {h : Hp} {Q Q' : AV → Hp → Prop} (k : RoundL P i args h Q) (hq : ∀ v h', Q v h' → Q' v h') : RoundL P i args h Q' :=
 ⟨fun σ M w args' L hR hA hL => let ⟨fn, tmps, ca, cb, h1, h2⟩ := k.run σ M w args' L hR hA hL
  ⟨fn, tmps, ca, cb, h1, h2.mono fun _ _ ⟨σ', M', h', v, v', g1, g2, g3, g4, g5⟩ => ⟨σ', M', h', v, v', g1, g2, g3, g4, hq _ _ g5⟩⟩⟩
def PureL (P : Program) (f : FuncId) (args : List AV) (v : AV) : Prop := ∀ h, CallL P f args h fun r h' => r = .ret v ∧ h' = h
theorem PureL.use {P : Program} {f : FuncId} {args : List AV} {v : AV} {h : Hp} {Q : Res → Hp → Prop} (k : PureL P f args v) (hq : Q (.ret v) h) : CallL P f args h Q :=
 (k h).mono fun r h' ⟨hr, hh⟩ => by rw [hr, hh]; exact hq
def Hp.le (h k : Hp) : Prop := ∀ i b, h i = some b → k i = some b
theorem Hp.le_refl (h : Hp) : h.le h := fun _ _ x => x
theorem Hp.le_trans {a b c : Hp} (h : a.le b) (k : b.le c) : a.le c := fun i x hx => k i x (h i x hx)
theorem Hp.le_set {h : Hp} {a : Nat} {b : Blk} (ha : h a = none) : h.le (h.set a b) := fun i x hx => by
 have : i ≠ a := fun e => by subst e; rw [ha] at hx; cases hx
 rw [Hp.set_ne this]; exact hx
def PureAt (P : Program) (f : FuncId) (args : List AV) (h : Hp) (v : AV) : Prop := ∀ h', h.le h' → CallL P f args h' fun r h'' => r = .ret v ∧ h'' = h'
theorem PureL.at {P : Program} {f : FuncId} {args : List AV} {v : AV} (k : PureL P f args v) (h : Hp) : PureAt P f args h v := fun h' _ => k h'
theorem PureAt.use {P : Program} {f : FuncId} {args : List AV} {v : AV} {h : Hp} {Q : Res → Hp → Prop} (k : PureAt P f args h v) (hq : Q (.ret v) h) : CallL P f args h Q :=
 (k h h.le_refl).mono fun r h' ⟨hr, hh⟩ => by rw [hr, hh]; exact hq
def PureAd (P : Program) (f : FuncId) (args : List AV) (h : Hp) (K : Nat) (V : Nat → AV) (B : Nat → Nat → Option Blk) : Prop :=
 ∀ h', h.le h' → ∀ b, (∀ i, i < K → Fresh h' (b + i)) → CallL P f args h' fun r h'' => r = .ret (V b) ∧ h'' = h'.adopt b K (B b)
theorem PureAd.use {P : Program} {f : FuncId} {args : List AV} {h : Hp} {K : Nat} {V : Nat → AV} {B : Nat → Nat → Option Blk} {md : Bool} {Q : Res → Hp → Prop} (k : PureAd P f args h K V B) (hq : allocK md h K fun b => Q (.ret (V b)) (h.adopt b K (B b))) :
  CallL P f args h Q := by
 obtain ⟨b, hb, hq⟩ := hq.one
 exact (k h h.le_refl b hb).mono fun r h' ⟨hr, hh⟩ => by rw [hr, hh]; exact hq
def orDel (i : Nat) (next : Hp → Prop) (h : Hp) : Prop := next h ∨ next (h.del i)
theorem orDel.mono {i : Nat} {f g : Hp → Prop} {h : Hp} (k : orDel i f h) (hfg : ∀ h, f h → g h) : orDel i g h := Or.imp (hfg _) (hfg _) k
def invOk (d : TypeDesc) (pr empty body : Bool) (name : String) : Bool :=
 empty && ((match d with | .pointer _ => pr | _ => !pr) && (body && name != "runtime.NumGoroutine"))
def invOf (P : Program) (name : String) (t : Nat) : Option (Nat × Nat) :=
 match P.info? t with
 | none => none
 | some i => match i.methods.find? (·.name == name) with
  | none => none
  | some m => match m.func with
   | none => none
   | some p => match P.underlying t with
    | none => none
    | some d => match P.funcs[p.1]? with
     | none => none
     | some fn => match invOk d p.2 m.path.isEmpty fn.body.isSome fn.name with
      | true => some (t, p.1)
      | false => none
def invTab (P : Program) (name : String) : List (Nat × Nat) := (List.range P.types.size).filterMap (invOf P name)
def LOp (P : Program) (md : Bool) (o : AOp) (e : Env) (h : Hp) (next : AV → Hp → Prop) (X : AV → Hp → Prop) : Prop :=
 match o with
 | .call f args => CallL P f (args.map (ev e)) h fun r h' => match r with
  | .ret v => next v h'
  | .pan v => X v h'
 | .st n x v => match ev e x with
  | .ptr b k q => ∃ T es cs, h b = some (.row T es) ∧ es[k]? = some cs ∧ notTup (ev e v) = true ∧ (ev e v).cells.length = n ∧ flat (ev e v).cells = true ∧ q + n ≤ cs.length ∧
    next (.tup []) (h.set b (.row T (es.set k (cs.take q ++ (ev e v).cells ++ cs.drop (q + n)))))
  | _ => False
 | .box T z x => notTup (ev e x) = true ∧ (ev e x).cells.length = z ∧ allocN md h fun i => next (.ptr i 0 0) (h.set i (.row T [(ev e x).cells]))
 | .bslice T z n zero parts => ∃ cs, lay e (rep zero n) parts = some cs ∧ allocN md h fun i => next (.slc i 0 n (some n)) (h.set i (.row T (chunk z n cs)))
 | .app T z by_ s x => LApp md T z by_ (ev e s) (ev e x) h next
 | .bslice0 T => next (.isl 0 []) h ∨ allocN md h fun i => next (.slc i 0 0 (some 0)) (h.set i (.row T []))
 | .callv x args => match ev e x with
  | .func (.func f) first cap => HasBody P f ∧ CallL P f (first ++ args.map (ev e) ++ cap) h fun r h' => match r with
   | .ret v => next v h'
   | .pan v => X v h'
  | .yld i => RoundL P i (args.map (ev e)) h next
  | .func (.method nm) [.ifc t v] [] => match tlook t (invTab P nm) with
   | some f => CallL P f (v :: args.map (ev e)) h fun r h' => match r with
    | .ret v => next v h'
    | .pan v => X v h'
   | none => False
  | _ => False
 | .nilm x => match ev e x with
  | .func (.func f) a b => next (.func (.func f) a b) h
  | .func (.method nm) [.ifc t v] [] => (tlook t (invTab P nm)).isSome = true ∧ next (.func (.method nm) [.ifc t v] []) h
  | _ => False
 | .isnilu neg x => nilU (ev e x) fun b => next (.bool (cond neg (!b) b)) h
 | .clr T zero x => match ev e x with
  | .slc i k n _ => ∃ es, h i = some (.row T es) ∧ k + n ≤ es.length ∧ flat zero = true ∧ next (.tup []) (h.set i (.row T (es.take k ++ List.replicate n zero ++ es.drop (k + n))))
  | .nils => next (.tup []) h
  | .emp => next (.tup []) h
  | .isl _ es => es = [] ∧ next (.tup []) h
  | _ => False
 | .mkslice T _ by_ zero len cap => match ev e len, ev e cap with
  | .int _ l, .int _ c => ∃ l' c' : Nat, l = l' ∧ c = c' ∧ l' ≤ c' ∧ c' * by_ ≤ capMax ∧ c' ≤ capMax ∧ allocN md h fun i => next (.slc i 0 l' (some c')) (h.set i (.row T (List.replicate c' zero)))
  | _, _ => False
 | .appz T z by_ zero s n => match ev e n with
  | .int _ m => ∃ k : Nat, m = k ∧ k ≤ capMax ∧ k * by_ ≤ capMax ∧ LAppE md T z by_ (ev e s) (List.replicate k zero) h next
  | _ => False
 | .pan x => match ev e x with
  | .ifc t v => X (.ifc t v) h
  | _ => False
 | .mkmap => allocN md h fun i => next (.map i) (h.set i (.map [] 0))
 | .mupd m x k v => match ev e x with
  | .map i => ∃ es c, h i = some (.map es c) ∧ keyM m (ev e k) = true ∧ KeysLike (ev e k) es ∧
    ∀ r, r = mget (ev e k) es → mupdN r (fun es' c' => next (.tup []) (h.set i (.map es' c'))) (mmod (ev e k) (ev e v) es) (es ++ [(ev e k, ev e v, c)]) c
  | _ => False
 | .inv tab x args => match ev e x with
  | .ifc t v => match tlook t tab with
   | some f => CallL P f (v :: args.map (ev e)) h fun r h' => match r with
    | .ret v => next v h'
    | .pan v => X v h'
   | none => False
  | _ => False
 | .rngs x => match ev e x with
  | .str s => allocN md h fun i => next (.ptr i 0 0) (h.set i (.strIter s 0))
  | _ => False
 | .rngm x => match ev e x with
  | .map m => ∃ es c, h m = some (.map es c) ∧ allocN md h fun i => next (.ptr i 0 0) (h.set i (.mapIter (some m) c [] c))
  | .nilm => allocN md h fun i => next (.ptr i 0 0) (h.set i (.mapIter none 0 [] 0))
  | _ => False
 | .nxs x => match ev e x with
  | .ptr i 0 0 => ∃ s pos, h i = some (.strIter s pos) ∧ ∀ t, t = decide (pos < s.length) → match t with
   | true => ∀ r, r = Utf8.decode ⟨s.toArray⟩ pos → next (.tup [.bool true, .int .i64 pos, .int .i32 r.1]) (h.set i (.strIter s (pos + r.2)))
   | false => next (.tup [.bool false]) h
  | _ => False
 | .nxm x => match ev e x with
  | .ptr i 0 0 => ∃ m since seen stepped, h i = some (.mapIter m since seen stepped) ∧ match m with
   | none => orDel i (next (.tup [.bool false])) h
   | some m => ∃ es c, h m = some (.map es c) ∧ (seen = [] ∨ es = [] ∨ ∃ x ∈ es, x.2.2 < stepped) ∧
     ((∀ x ∈ es, x.2.2 ∉ seen → since ≤ x.2.2) → orDel i (next (.tup [.bool false])) h) ∧
     ∀ k v b, (k, v, b) ∈ es → b ∉ seen → next (.tup [.bool true, k, v]) (h.set i (.mapIter (some m) since (seen ++ [b]) c))
  | _ => False
 | .ment m z x k => match ev e x with
  | .map i => ∃ es c, h i = some (.map es c) ∧ keyM m (ev e k) = true ∧ KeysLike (ev e k) es ∧ ∀ r, r = mgetB (ev e k) es → match r with
   | some (v, b) => next (.tup [v, .int .i64 b]) (h.set i (.map (mkey (ev e k) es) c))
   | none => next (.tup [z, .int .i64 c]) (h.set i (.map (es ++ [(ev e k, z, c)]) (c + 1)))
  | _ => False
 | .mest x s v => match ev e x, ev e s with
  | .map i, .int _ n => ∃ es c b, h i = some (.map es c) ∧ n = (b : Nat) ∧ (∃ x ∈ es, x.2.2 = b) ∧ next (.tup []) (h.set i (.map (mstamp b (ev e v) es) c))
  | _, _ => False
 | .mdel m x k => match ev e x with
  | .map i => ∃ es c, h i = some (.map es c) ∧ keyM m (ev e k) = true ∧ KeysLike (ev e k) es ∧ next (.tup []) (h.set i (.map (mdrop (ev e k) es) c))
  | .nilm => keyM m (ev e k) = true ∧ next (.tup []) h
  | _ => False
 | .cas k x o n => match ev e x, ev e o, ev e n with
  | .ptr b j q, .int k1 a, .int k2 c => k1 = k ∧ k2 = k ∧ ∃ T es cs m, h b = some (.row T es) ∧ es[j]? = some cs ∧ cs[q]? = some (.int k m) ∧ ∀ t, t = (m == a) → match t with
   | true => next (.bool true) (h.set b (.row T (es.set j (cs.set q (.int k c)))))
   | false => next (.bool false) h
  | _, _, _ => False
 | .xadd k x y => match ev e x, ev e y with
  | .ptr b j q, .int k1 d => k1 = k ∧ ∃ T es cs m, h b = some (.row T es) ∧ es[j]? = some cs ∧ cs[q]? = some (.int k m) ∧ ∀ t, t = k.wrap (m + d) → next (.int k t) (h.set b (.row T (es.set j (cs.set q (.int k t)))))
  | _, _ => False
 | .cpy T z d s => match ev e d with
  | .slc i k n c => ∃ es src, h i = some (.row T es) ∧ srcPre h (ev e s) n src ∧ src.length ≤ n ∧ (∀ cs ∈ src, cs.length = z) ∧ (∀ cs ∈ src, flat cs = true) ∧ k ≤ es.length ∧ (k + src.length ≤ es.length ∨ c = none) ∧
    next (.int .i64 src.length) (h.set i (.row T (es.take k ++ src ++ es.drop (k + src.length))))
  | _ => False
 | .mnz T x => match ev e x with
  | .int .i64 n => ∃ m : Nat, n = m ∧ m ≤ 281474976710656 ∧ allocN md h fun i => next (.slc i 0 m none) (h.set i (.row T []))
  | _ => False
 | .ustr T x n => match ev e x, ev e n with
  | .ptr i k 0, .int _ m => ∃ j : Nat, m = j ∧ match j with
   | 0 => next (.str []) h
   | _ => ∃ es s, h i = some (.row T es) ∧ k + j ≤ es.length ∧ j ≤ 9223372036854775807 ∧ bytesL ((es.drop k).take j) = some s ∧ next (.str s) (h.del i)
  | .nilp, .int _ m => m = 0 ∧ next (.str []) h
  | _, _ => False
 | .ovl x y => match ev e x, ev e y with
  | .slc i k n _, .slc j k' n' _ => Nat.beq i j = false ∧ 0 < n ∧ 0 < n' ∧ (∃ T es cs, h i = some (.row T es) ∧ k + n ≤ es.length ∧ es[k]? = some cs ∧ cs.length ≠ 0) ∧
    (∃ T es cs, h j = some (.row T es) ∧ k' + n' ≤ es.length ∧ es[k']? = some cs ∧ cs.length ≠ 0) ∧ ∀ b, next (.bool b) h
  | _, _ => False
 | .b2b x => match ev e x with
  | .slc i k n c => ∃ T es, h i = some (.row T es) ∧ 0 < n ∧ next (.slc i k n c) h
  | _ => False
 | .s2b T x => match ev e x with
  | .str s => allocN md h fun i => next (.slc i 0 s.length none) (h.set i (.row T (s.map fun b => [.int .u8 b.toNat])))
  | _ => False
 | .pcall f args => ∃ v, PureAt P f (args.map (ev e)) h v ∧ next v h
 | .acall f args => ∃ K V B, PureAd P f (args.map (ev e)) h K V B ∧ allocK md h K fun b => next (V b) (h.adopt b K (B b))
 | .acallv x args => match ev e x with
  | .func (.func f) first cap => HasBody P f ∧ ∃ K V B, PureAd P f (first ++ args.map (ev e) ++ cap) h K V B ∧ allocK md h K fun b => next (V b) (h.adopt b K (B b))
  | _ => False
 | .pcallv x args => match ev e x with
  | .func (.func f) first cap => HasBody P f ∧ ∃ v, PureAt P f (first ++ args.map (ev e) ++ cap) h v ∧ next v h
  | _ => False
 | .fslice _ z n zero parts => ∃ cs, lay e (rep zero n) parts = some cs ∧ next (.isl 0 (chunk z n cs)) h
 | o => LN o e h fun v => next v h
section
variable {P : Program} {ro : Option Nat} {md : Bool} {σ σ' : Emb} {M M' : Mem} {h : Hp} {w w' : World}
theorem R.newBox (hR : R P σ M h w) {j : Nat} (hj : σ j = none) {T : TypeId} {i : TypeInfo} (hi : P.info? T = some i) {cs : List AV} (hl : cs.length = i.size) {A : Array Value} (hA : VRs σ M cs A) :
  R P (σ.set j ⟨w.heap.size, 0, A.size, i.size⟩) M (h.set j (.row T [cs])) (w.alloc (.cells A T)) := by
 have := hR.newRow hj hi (es := [cs]) (fun x hx => by simp at hx; subst hx; exact hl) (A := A) (rest := #[]) (by simpa using hA)
 simpa using this
theorem chunk_get {z : Nat} : ∀ (n : Nat) (cs : List AV) (k : Nat) (c : List AV), (chunk z n cs)[k]? = some c → k < n ∧ c = (cs.drop (k * z)).take z := by
 intro n
 induction n with
 | zero => intro cs k c h; simp [chunk] at h
 | succ n ih =>
  intro cs k c h
  cases k with
  | zero => simp [chunk] at h; exact ⟨by omega, by simp [h]⟩
  | succ k =>
   simp only [chunk, List.getElem?_cons_succ] at h
   obtain ⟨h1, h2⟩ := ih _ k c h
   refine ⟨by omega, ?_⟩
   rw [h2, List.drop_drop, Nat.add_mul, Nat.one_mul, Nat.add_comm z]
theorem chunk_len {z : Nat} : ∀ (n : Nat) (cs : List AV), (chunk z n cs).length = n := by
 intro n
 induction n with
 | zero => intro cs; rfl
 | succ n ih => intro cs; simp [chunk, ih]
theorem chunk_flatten {z : Nat} : ∀ (n : Nat) (cs : List AV), cs.length = n * z → (chunk z n cs).flatten = cs := by
 intro n
 induction n with
 | zero => intro cs h; have : cs = [] := List.eq_nil_of_length_eq_zero (by omega); simp [chunk, this]
 | succ n ih =>
  intro cs h
  simp only [chunk, List.flatten_cons]
  rw [ih _ (by rw [List.length_drop, h, Nat.add_mul]; omega), List.take_append_drop]
theorem rep_len {z : List AV} : ∀ n, (rep z n).length = n * z.length := by
 intro n
 induction n with
 | zero => simp [rep]
 | succ n ih => simp only [rep, List.length_append, ih, Nat.add_mul, Nat.one_mul]; omega
theorem lay_len {e : Env} : ∀ (ps : List (Nat × Nat × AOpd)) (cs r : List AV), lay e cs ps = some r → r.length = cs.length := by
 intro ps
 induction ps with
 | nil => intro cs r h; cases h; rfl
 | cons p ps ih =>
  intro cs r h
  obtain ⟨off, n, x⟩ := p
  simp only [lay] at h
  cases hb : (notTup (ev e x) && (Nat.beq (ev e x).cells.length n && Nat.ble (off + n) cs.length)) with
  | false => rw [hb] at h; cases h
  | true =>
   rw [hb, cond_true] at h
   simp only [Bool.and_eq_true, Nat.beq_eq, Nat.ble_eq] at hb
   rw [ih _ _ h]; simp; omega
theorem rep_VRs {z : List AV} {Z : Array Value} (hZ : VRs σ M z Z) : ∀ n, VRs σ M (rep z n) ((Array.range (n * Z.size)).map fun j => Z[j % Z.size]!) := by
 intro n
 induction n with
 | zero => simp only [rep, Nat.zero_mul]; exact ⟨by simp, fun j v h => by simp at h⟩
 | succ n ih =>
  have hs : Z.size = z.length := hZ.1
  refine ⟨by rw [rep_len]; simp [hs], fun j v hj => ?_⟩
  simp only [rep] at hj
  have get : ∀ N, j < N → ((Array.range N).map fun j => Z[j % Z.size]!)[j]? = some Z[j % Z.size]! := fun N hN => by simp [hN]
  by_cases hjz : j < z.length
  ·rw [List.getElem?_append_left hjz] at hj
   obtain ⟨v', h1, h2⟩ := hZ.2 j v hj
   refine ⟨v', ?_, h2⟩
   rw [get _ (by rw [Nat.add_mul, Nat.one_mul]; omega), Nat.mod_eq_of_lt (by omega)]
   congr 1
   have : j < Z.size := by omega
   rw [getElem!_pos Z j this]
   rw [getElem?_pos Z j this] at h1
   cases h1; rfl
  ·rw [List.getElem?_append_right (by omega)] at hj
   have hjl : j - z.length < n * z.length := by
    rcases Nat.lt_or_ge (j - z.length) (rep z n).length with hh | hh
    ·rw [rep_len] at hh; exact hh
    ·rw [List.getElem?_eq_none hh] at hj; cases hj
   obtain ⟨v', h1, h2⟩ := ih.2 _ v hj
   refine ⟨v', ?_, h2⟩
   rw [get _ (by rw [Nat.add_mul, Nat.one_mul, hs]; omega)]
   have g2 : ((Array.range (n * Z.size)).map fun j => Z[j % Z.size]!)[j - z.length]? = some Z[(j - z.length) % Z.size]! := by
    have : j - z.length < n * Z.size := by rw [hs]; exact hjl
    simp [this]
   rw [g2] at h1
   rw [← h1, ← hs]
   congr 2
   rw [show j = (j - Z.size) + Z.size by omega, Nat.add_mod_right]; simp
end
section
variable {P : Program} {ro : Option Nat} {md : Bool} {o : Oper} {e : Env} {h : Hp} {next X : AV → Hp → Prop} {σ : Emb} {M : Mem} {w : World} {a : Act}
theorem semAt_of {r : Next} {w' : World} (hr : (execOp a.eval o).run P w = .ok r w') (hd : ∀ d, r ≠ .defer d) : (o.semAt ro a.eval).run P w = .ok r w' := by
 rw [Oper.semAt_eq, hr]
 intro c hc
 simp only [execOp, hc, Sem.run_bind] at hr
 cases hq : (resolve a.eval c o.type).run P w with
 | ok d w1 => rw [hq] at hr; simp only [Result.andThen, Sem.run_pure, Result.ok.injEq] at hr; exact hd d hr.1.symm
 | halt x w1 => rw [hq] at hr; simp [Result.andThen] at hr
theorem callsIn_fw {f : FuncId} {args : Array Value} {R : Ending → World → Prop} (h : CallsIn Fence.wide 0 P f args w R) : CallsIn (fw ro) 0 P f args w R := by
 cases ro with
 | none => exact h
 | some l => exact h.inRound l
theorem wpIn_of_run {nx : Act → World → Prop} {Qx : Exit → Act → World → Prop} {v' : Value} {w' : World} (hr : (execOp a.eval o).run P w = .ok (.value v') w') (hn : nx (a.put o.dst v') w') :
  o.wpIn (fw ro) 0 P a w nx Qx := by
 refine ⟨fun _ _ => trivial, ?_⟩
 show Oper.uponIn _ _ _ _ _ _ _ ((o.semAt ro a.eval).run P w)
 rw [semAt_of hr (by simp)]; exact hn
theorem wpIn_of_skip {nx : Act → World → Prop} {Qx : Exit → Act → World → Prop} {w' : World} (hr : (execOp a.eval o).run P w = .ok .skip w') (hn : nx (a.put o.dst undef) w') :
  o.wpIn (fw ro) 0 P a w nx Qx := by
 refine ⟨fun _ _ => trivial, ?_⟩
 show Oper.uponIn _ _ _ _ _ _ _ ((o.semAt ro a.eval).run P w)
 rw [semAt_of hr (by simp)]; exact hn
def NextS (P : Program) (σ : Emb) (M : Mem) (w : World) (a : Act) (d : Option Nat) (next : AV → Hp → Prop) (nx : Act → World → Prop) : Prop :=
 ∀ σ' M' w' h' v v', Ext σ M w σ' M' w' → R P σ' M' h' w' → VR σ' M' v v' → next v h' → nx (a.put d v') w'
def PanS (P : Program) (σ : Emb) (M : Mem) (w : World) (a : Act) (X : AV → Hp → Prop) (Qx : Exit → Act → World → Prop) : Prop :=
 ∀ σ' M' w' h' v v', Ext σ M w σ' M' w' → R P σ' M' h' w' → VR σ' M' v v' → X v h' → Qx (.panic [{ v := v', recovered := false }]) a w'
variable {nx : Act → World → Prop} {Qx : Exit → Act → World → Prop}
theorem op_read (hR : R P σ M h w) (hA : ActR σ M e a) (hN : NextS P σ M w a o.dst next nx) (hv : ∃ v, next v h ∧ SemVal P o e h v) : o.wpIn (fw ro) 0 P a w nx Qx := by
 obtain ⟨v, hn, hs⟩ := hv
 obtain ⟨v', hr, hvr⟩ := hs σ M w a hR hA
 exact wpIn_of_run hr (hN σ M w h v v' (.refl _ _ _) hR hvr hn)
theorem op_call {f : FuncId} {args : Array Operand} {ts : Array TypeId} {fn : Func} (ho : o.op = .call { callee := .value (.func f), args, argTypes := ts }) (hf : P.funcs[f]? = some fn) (hb : fn.body.isSome = true)
  (hn : (fn.name == "runtime.NumGoroutine") = false) {args' : List AOpd} (hx : copds args.toList = some args') (hR : R P σ M h w) (hA : ActR σ M e a) (hN : NextS P σ M w a o.dst next nx) (hP : PanS P σ M w a X Qx)
  (hl : CallL P f (args'.map (ev e)) h fun r h' => match r with | .ret v => next v h' | .pan v => X v h') : o.wpIn (fw ro) 0 P a w nx Qx := by
 have hrun : (execOp a.eval o).run P w = .ok (.enter f (args.map a.eval)) w := by
  have hb' : fn.body.isNone = false := by cases hh : fn.body <;> simp_all
  have hc : (callFunc f (args.map a.eval)).run P w = .ok (.enter f (args.map a.eval)) w := by
   have hp : (program).run P w = .ok P w := rfl
   simp only [callFunc, Sem.run_bind, hp, Result.andThen, hf, hn, hb', Bool.false_eq_true, if_false, Sem.run_pure]
  simp [execOp, ho, resolve, Deferred.ofValue, Act.eval, invoke, hc]
 refine ⟨fun _ _ => trivial, ?_⟩
 show Oper.uponIn _ _ _ _ _ _ _ ((o.semAt ro a.eval).run P w)
 rw [semAt_of hrun (by simp)]
 refine ⟨fun h => by simp [fw, Fence.wide] at h, ?_⟩
 have hargs : VRs σ M (args'.map (ev e)) (args.map a.eval) := by
  have h1 := copds_ok hx hA
  have h2 : (args.toList.map a.eval).toArray = args.map a.eval := by rw [← Array.toList_map, Array.toArray_toList]
  rw [h2] at h1; exact h1
 refine callsIn_fw ((hl.run σ M w _ hR hargs).mono fun e' w' ⟨σ', M', h', hE, hR', hr⟩ => ?_)
 cases e' with
 | returned v' => obtain ⟨v, hv, hq⟩ := hr; exact hN σ' M' w' h' v v' hE hR' hv hq
 | panicked ch => obtain ⟨v, v', rfl, hv, hq⟩ := hr; exact hP σ' M' w' h' v v' hE hR' hv hq
 | outgrown => exact hr.elim
theorem op_st {t : TypeId} {x v : Operand} {i : TypeInfo} (ho : o.op = .store t x v) (hi : P.info? t = some i) {x' v' : AOpd} (hx : copd x = some x') (hv : copd v = some v') (hR : R P σ M h w) (hA : ActR σ M e a)
  (hN : NextS P σ M w a o.dst next nx) (hl : LOp P md (.st i.size x' v') e h next X) : o.wpIn (fw ro) 0 P a w nx Qx := by
 simp only [LOp] at hl
 split at hl <;> first | exact hl.elim | skip
 rename_i b k q hp
 obtain ⟨T, es, cs, hb, hk, hnt, hlen, hflat, hle, hn⟩ := hl
 have h1 := copd_ok hx hA
 rw [hp] at h1
 obtain ⟨L, hL, e1⟩ := h1.ptr_inv
 have h2 := (copd_ok hv hA).cells hnt
 obtain ⟨w1, g1, g2, g3⟩ := hR.store hb hk (by rw [hlen]; exact hle) hL h2 hflat
 have hsz : (a.eval v).cells.size = i.size := by rw [h2.1, hlen]
 have hrun : (execOp a.eval o).run P w = .ok .skip w1 := by
  simp [execOp, ho, Instr.storeAt, e1, Instr.sureAddr, storeVar, run_sizeOf' hi, hsz, g1]
 refine wpIn_of_skip hrun (hN σ M w1 _ (.tup []) undef g2 ?_ (VR.tup' .nil) hn)
 rw [hlen] at g3; exact g3
theorem op_box {t : TypeId} {x : Operand} {i : TypeInfo} (ho : o.op = .box t x) (hi : P.info? t = some i) {x' : AOpd} (hx : copd x = some x') (hR : R P σ M h w) (hA : ActR σ M e a)
  (hN : NextS P σ M w a o.dst next nx) (hl : LOp P md (.box t i.size x') e h next X) : o.wpIn (fw ro) 0 P a w nx Qx := by
 obtain ⟨hnt, hlen, hn⟩ := hl
 have h2 := (copd_ok hx hA).cells hnt
 obtain ⟨j, hj, hjn⟩ := hR.fresh hn
 have hrun : (execOp a.eval o).run P w = .ok (.value (.pointer (some ⟨w.heap.size, 0, none⟩))) (w.alloc (.cells (a.eval x).cells t)) := by
  simp [execOp, ho, Instr.box, newVar, newRow]
 refine wpIn_of_run hrun (hN _ M _ _ (.ptr j 0 0) _ (Ext.alloc hj) (hR.newBox hj hi hlen h2) ?_ hjn)
 have := VR.ptr (σ := σ.set j ⟨w.heap.size, 0, (a.eval x).cells.size, i.size⟩) (M := M) j 0 0 _ (Emb.set_same _ _ _)
 simpa using this
theorem op_alloc {t : TypeId} {i : TypeInfo} {z : Value} {z' : AV} (ho : o.op = .alloc t) (hi : P.info? t = some i) (hz : i.zero = some z) (hcv : cv z = some z') (hR : R P σ M h w)
  (hN : NextS P σ M w a o.dst next nx) (hl : LOp P md (.box t i.size (.c z')) e h next X) : o.wpIn (fw ro) 0 P a w nx Qx := by
 obtain ⟨hnt, hlen, hn⟩ := hl
 have h2 : VRs σ M z'.cells z.cells := (cv_ok hcv : VR σ M z' z).cells hnt
 obtain ⟨j, hj, hjn⟩ := hR.fresh hn
 have hrun : (execOp a.eval o).run P w = .ok (.value (.pointer (some ⟨w.heap.size, 0, none⟩))) (w.alloc (.cells z.cells t)) := by
  simp [execOp, ho, Instr.alloc, newVar, newRow, zeroValue, run_typeInfo' hi, hz]
 refine wpIn_of_run hrun (hN _ M _ _ (.ptr j 0 0) _ (Ext.alloc hj) (hR.newBox hj hi hlen h2) ?_ hjn)
 have := VR.ptr (σ := σ.set j ⟨w.heap.size, 0, z.cells.size, i.size⟩) (M := M) j 0 0 _ (Emb.set_same _ _ _)
 simpa using this
theorem op_bslice {t el : TypeId} {n : Nat} {parts : Array (Nat × Operand)} {j : TypeInfo} {z : List AV} {ps : List (Nat × Nat × AOpd)} (ho : o.op = .buildSlice t n parts) (ht : P.underlying t = some (.slice el))
  (hj : P.info? el = some j) (hz : zcells P el = some z) (h24 : ¬ n * j.size > 2 ^ 24) (hzl : z.length = j.size) (hn0 : ¬ n * j.size = 0) (hps : cparts (fun i => some (i * j.size, j.size)) parts.toList = some ps)
  (hR : R P σ M h w) (hA : ActR σ M e a) (hN : NextS P σ M w a o.dst next nx) (hl : LOp P md (.bslice el j.size n z ps) e h next X) : o.wpIn (fw ro) 0 P a w nx Qx := by
 obtain ⟨cs, hcs, hn⟩ := hl
 obtain ⟨zv, hzr, hzv⟩ := zcells_ok hz w
 have hZ := hzv σ M
 have hzs : zv.cells.size = j.size := by rw [hZ.1, hzl]
 have hbase := rep_VRs hZ n
 rw [hzs] at hbase
 obtain ⟨A, hf, hA'⟩ := fill_lay hA _ _ hps _ _ _ hbase hcs
 have hcl : cs.length = n * j.size := by rw [lay_len _ _ _ hcs, rep_len, hzl]
 have hparts : (parts.map fun (i, x) => (i, a.eval x)).toList = parts.toList.map fun p => (p.1, a.eval p.2) := by rw [Array.toList_map]
 have hrun : (execOp a.eval o).run P w = .ok (.value (.slice (some ⟨w.heap.size, 0, none⟩) n n)) (w.alloc (.cells A el)) := by
  have hf' : Instr.fill (fun i => some (i * j.size, j.size)) ((Array.range (n * j.size)).map fun x => zv.cells[x % j.size]!) (parts.map fun (i, x) => (i, a.eval x)).toList = some A := by
   rw [hparts]; exact hf
  simp only [execOp, ho, Instr.buildSlice, Sem.run_bind, run_underlying ht, Result.andThen, run_sizeOf' hj, if_neg h24, if_neg hn0, hzr, Sem.run_pure, hzs, hf', newRow, newObj, Sem.run]
  rfl
 obtain ⟨i, hi, hin⟩ := hR.fresh hn
 have hall : ∀ c ∈ chunk j.size n cs, c.length = j.size := fun c hc => by
  obtain ⟨k, hk⟩ := List.getElem?_of_mem hc
  obtain ⟨h1, rfl⟩ := chunk_get n cs k c hk
  have : (k + 1) * j.size ≤ n * j.size := Nat.mul_le_mul_right _ h1
  rw [Nat.add_mul, Nat.one_mul] at this
  simp; omega
 have hN' := hR.newRow hi hj hall (A := A) (rest := #[]) (by rw [chunk_flatten n cs hcl]; exact hA')
 simp only [Array.append_empty] at hN'
 refine wpIn_of_run hrun (hN _ M _ _ (.slc i 0 n (some n)) _ (Ext.alloc hi) hN' ?_ hin)
 exact .slc i 0 n (some n) _ _ n (Emb.set_same _ _ _) (fun _ => by simp) (Nat.le_refl _) (fun _ h => by cases h; rfl) (fun h => by cases h)
theorem op_app {t u : TypeId} {s x : Operand} {ts : Array TypeId} (ho : o.op = .call { callee := .builtin .append, args := #[s, x], argTypes := ts }) (hts : ts = #[t, u]) {el : TypeId} {du : TypeDesc} {j : TypeInfo} {z : Value}
  (ht : P.underlying t = some (.slice el)) (hu : P.underlying u = some du) (hdu : ∀ k, du ≠ .int k) (hj : P.info? el = some j) (hz : j.zero = some z) (hj0 : 0 < j.size) (hzs : z.cells.size = j.size) {s' x' : AOpd}
  (hs : copd s = some s') (hx : copd x = some x') (hR : R P σ M h w) (hA : ActR σ M e a) (hN : NextS P σ M w a o.dst next nx) (hl : LOp P md (.app el j.size j.bytes s' x') e h next X) : o.wpIn (fw ro) 0 P a w nx Qx := by
 obtain ⟨v', w', hrun, σ', M', h', v, hE, hR', hv, hn⟩ := app_ok hR (ty := o.type) ht hu hdu hj hj0 hz hzs (copd_ok hs hA) (copd_ok hx hA) hl
 refine wpIn_of_run (v' := v') (w' := w') ?_ (hN σ' M' w' h' v v' hE hR' hv hn)
 subst hts
 simp [execOp, ho, resolve, invoke, builtin, hrun]
end
end Go.L

namespace Go.L
theorem LOp_N {P : Program} {md : Bool} {o : AOp} {e : Env} {h : Hp} {next X : AV → Hp → Prop} (hn : isN o = true) (hl : LOp P md o e h next X) : LN o e h fun v => next v h := by
 cases o <;> first | exact hl | cases hn
theorem LN_LOp {P : Program} {md : Bool} {o : AOp} {e : Env} {h : Hp} {next X : AV → Hp → Prop} (hn : isN o = true) (hl : LN o e h fun v => next v h) : LOp P md o e h next X := by
 cases o <;> first | exact hl | cases hn
section
variable {P : Program} {ro : Option Nat} {md : Bool} {o : Oper} {ao : AOp} {e : Env} {h : Hp} {next : AV → Prop}
theorem LN_sound (hc : compN P o = some ao) (hl : LN ao e h next) : ∃ v, next v ∧ SemVal P o e h v := by
 unfold compN at hc
 split at hc
 case h_1 x ho => obtain ⟨y, hy, rfl⟩ := Option.map_some_inv hc; exact LN_mov (.inl ho) hy hl
 case h_2 x ho => obtain ⟨y, hy, rfl⟩ := Option.map_some_inv hc; exact LN_mov (.inr ho) hy hl
 case h_3 c a b ho =>
  obtain ⟨c', h1, hc⟩ := Option.bind_some_inv hc
  obtain ⟨a', h2, hc⟩ := Option.bind_some_inv hc
  obtain ⟨b', h3, hc⟩ := Option.bind_some_inv hc
  cases hc; exact LN_pick ho h1 h2 h3 hl
 case h_4 op xt x y u ho =>
  obtain ⟨d, hd, hc⟩ := Option.bind_some_inv hc
  split at hc
  ·obtain ⟨x', h1, hc⟩ := Option.bind_some_inv hc
   obtain ⟨y', h2, hc⟩ := Option.bind_some_inv hc
   cases hc; exact LN_bini ho h1 h2 hl
  ·split at hc
   ·obtain ⟨x', h1, hc⟩ := Option.bind_some_inv hc
    obtain ⟨y', h2, hc⟩ := Option.bind_some_inv hc
    cases hc; exact LN_bins ho h1 h2 hl
   ·split at hc
    ·rename_i hb
     obtain ⟨x', h1, hc⟩ := Option.bind_some_inv hc
     obtain ⟨y', h2, hc⟩ := Option.bind_some_inv hc
     have hd' : d = .bool := by cases d <;> first | rfl | cases hb
     cases hc; exact LN_binb ho (hd' ▸ hd) h1 h2 hl
    ·cases hc
 case h_5 t x ho => obtain ⟨y, hy, rfl⟩ := Option.map_some_inv hc; exact LN_not ho hy hl
 case h_6 t x ho => obtain ⟨y, hy, rfl⟩ := Option.map_some_inv hc; exact LN_neg ho hy hl
 case h_7 x i ho => obtain ⟨y, hy, rfl⟩ := Option.map_some_inv hc; exact LN_ext ho hy hl
 case h_8 t x f ho =>
  obtain ⟨d0, ht, hc⟩ := Option.bind_some_inv hc
  split at hc <;> first | cases hc | skip
  rename_i fs
  obtain ⟨fd, hf, hc⟩ := Option.bind_some_inv hc
  obtain ⟨d, hd, hc⟩ := Option.bind_some_inv hc
  obtain ⟨i, hi, hc⟩ := Option.bind_some_inv hc
  split at hc
  ·rename_i ha
   obtain ⟨x', h1, hc⟩ := Option.bind_some_inv hc
   cases hc; exact LN_flda ho ht hf hd hi ha h1 hl
  ·rename_i ha
   obtain ⟨x', h1, hc⟩ := Option.bind_some_inv hc
   cases hc; exact LN_fld ho ht hf hd (by simpa using ha) h1 hl
 case h_9 s t x ho =>
  obtain ⟨d0, ht, hc⟩ := Option.bind_some_inv hc
  split at hc <;> first | cases hc | skip
  rename_i k
  obtain ⟨ds, hs, hc⟩ := Option.bind_some_inv hc
  obtain ⟨x', h1, hc⟩ := Option.bind_some_inv hc
  cases hc; exact LN_conv ho ht hs h1 hl
 case h_10 t x i ho =>
  obtain ⟨d0, ht, hc⟩ := Option.bind_some_inv hc
  split at hc <;> first | cases hc | skip
  obtain ⟨x', h1, hc⟩ := Option.bind_some_inv hc
  obtain ⟨i', h2, hc⟩ := Option.bind_some_inv hc
  cases hc; exact LN_idxs ho ht h1 h2 hl
 case h_11 t x lo hi ho =>
  obtain ⟨d0, ht, hc⟩ := Option.bind_some_inv hc
  split at hc <;> first | cases hc | skip
  obtain ⟨x', h1, hc⟩ := Option.bind_some_inv hc
  obtain ⟨lo', h2, hc⟩ := Option.bind_some_inv hc
  obtain ⟨hi', h3, hc⟩ := Option.bind_some_inv hc
  cases hc; exact LN_slcs ho ht h1 h2 h3 hl
 case h_12 t x i ho =>
  obtain ⟨d0, ht, hc⟩ := Option.bind_some_inv hc
  split at hc <;> first | cases hc | skip
  obtain ⟨j, hj, hc⟩ := Option.bind_some_inv hc
  obtain ⟨x', h1, hc⟩ := Option.bind_some_inv hc
  obtain ⟨i', h2, hc⟩ := Option.bind_some_inv hc
  cases hc; exact LN_iaddr ho ht hj h1 h2 hl
 case h_13 t x f ho =>
  obtain ⟨d0, ht, hc⟩ := Option.bind_some_inv hc
  split at hc <;> first | cases hc | skip
  obtain ⟨fd, hf, hc⟩ := Option.bind_some_inv hc
  obtain ⟨i, hi, hc⟩ := Option.bind_some_inv hc
  split at hc
  ·cases hc
  ·rename_i h0
   obtain ⟨x', h1, hc⟩ := Option.bind_some_inv hc
   cases hc; exact LN_faddr ho ht hf hi h0 h1 hl
 case h_14 x ho => obtain ⟨y, hy, rfl⟩ := Option.map_some_inv hc; exact LN_nilc ho hy hl
 case h_15 t x ho =>
  obtain ⟨d, hd, hc⟩ := Option.bind_some_inv hc
  obtain ⟨i, hi, hc⟩ := Option.bind_some_inv hc
  split at hc
  ·rename_i ha
   obtain ⟨x', h1, hc⟩ := Option.bind_some_inv hc
   cases hc; exact LN_lda ho hd hi ha h1 hl
  ·rename_i ha
   obtain ⟨x', h1, hc⟩ := Option.bind_some_inv hc
   cases hc; exact LN_ld1 ho hd (by simpa using ha) h1 hl
 case h_16 t x ho =>
  obtain ⟨d, hd, hc⟩ := Option.bind_some_inv hc
  split at hc <;> first | cases hc | skip
  rename_i hne
  obtain ⟨x', h1, hc⟩ := Option.bind_some_inv hc
  cases hc; exact LN_mkifc ho hd hne h1 hl
 case h_17 f first cap ho =>
  obtain ⟨y', h0, hc⟩ := Option.bind_some_inv hc
  obtain ⟨x', h1, hc⟩ := Option.bind_some_inv hc
  cases hc; exact LN_mkfn ho h0 h1 hl
 case h_18 t parts ho =>
  obtain ⟨z, hz, hc⟩ := Option.bind_some_inv hc
  obtain ⟨d, hd, hc⟩ := Option.bind_some_inv hc
  split at hc <;> first | cases hc | skip
  ·obtain ⟨pl, hpl, hc⟩ := Option.bind_some_inv hc
   obtain ⟨ps, hps, hc⟩ := Option.bind_some_inv hc
   cases hc; exact LN_build ho hz hd (.inl ⟨_, _, rfl, hpl, hps⟩) hl
  ·obtain ⟨j, hj, hc⟩ := Option.bind_some_inv hc
   obtain ⟨ps, hps, hc⟩ := Option.bind_some_inv hc
   cases hc; exact LN_build ho hz hd (.inr ⟨_, _, j, rfl, hj, hps⟩) hl
 case h_19 args ts ho =>
  obtain ⟨t, ht0, hc⟩ := Option.bind_some_inv hc
  obtain ⟨d, hd, hc⟩ := Option.bind_some_inv hc
  have ha : ∀ y, args.toList = [y] → args = #[y] := fun y hy => by rw [← Array.toArray_toList (xs := args), hy]
  split at hc <;> first | cases hc | skip
  ·rename_i y hy
   obtain ⟨x', h1, hc⟩ := Option.bind_some_inv hc
   rw [ha _ hy] at ho
   cases hc; exact LN_lens ho ht0 hd h1 hl
  ·rename_i el y hy
   obtain ⟨x', h1, hc⟩ := Option.bind_some_inv hc
   rw [ha _ hy] at ho
   cases hc; exact LN_lenl ho ht0 hd h1 hl
 case h_20 => cases hc
end
section
variable {P : Program} {ro : Option Nat} {md : Bool} {o : Oper} {ao : AOp} {e : Env} {h : Hp} {next X : AV → Hp → Prop} {σ : Emb} {M : Mem} {w : World} {a : Act} {nx : Act → World → Prop} {Qx : Exit → Act → World → Prop}
theorem LOp_sound1 (hc : comp1 P o = some ao) (hR : R P σ M h w) (hA : ActR σ M e a) (hN : NextS P σ M w a o.dst next nx) (hP : PanS P σ M w a X Qx) (hl : LOp P md ao e h next X) : o.wpIn (fw ro) 0 P a w nx Qx := by
 unfold comp1 at hc
 cases hE : compE P o with
 | none =>
  rw [hE] at hc
  simp only at hc
  split at hc <;> first | cases hc | skip
  rename_i b hb
  split at hc <;> first | cases hc | skip
  rename_i hn
  exact op_read hR hA hN (LN_sound hb (LOp_N hn hl))
 | some b =>
  rw [hE] at hc
  simp only [Option.some.injEq] at hc
  subst hc
  have hc := hE; clear hE
  unfold compE at hc
  split at hc
  case h_1 args ts ho =>
   obtain ⟨t, ht0, hc⟩ := Option.bind_some_inv hc
   obtain ⟨u, hu0, hc⟩ := Option.bind_some_inv hc
   obtain ⟨d, hd, hc⟩ := Option.bind_some_inv hc
   split at hc <;> first | cases hc | skip
   rename_i el
   obtain ⟨du, hdu, hc⟩ := Option.bind_some_inv hc
   obtain ⟨j, hj, hc⟩ := Option.bind_some_inv hc
   obtain ⟨z, hz, hc⟩ := Option.bind_some_inv hc
   split at hc
   ·cases hc
   ·rename_i hcond
    split at hc <;> first | cases hc | skip
    rename_i sx xx hargs
    obtain ⟨s', h1, hc⟩ := Option.bind_some_inv hc
    obtain ⟨x', h2, hc⟩ := Option.bind_some_inv hc
    cases hc
    simp only [Bool.or_eq_true, not_or, Bool.not_eq_true, bne_eq_false_iff_eq, beq_eq_false_iff_ne, ne_eq] at hcond
    obtain ⟨⟨⟨c1, c2⟩, c3⟩, c4⟩ := hcond
    have ha : args = #[sx, xx] := by rw [← Array.toArray_toList (xs := args), hargs]
    have hts : ts = #[t, u] := by
     apply Array.ext
     ·simp [c2]
     ·intro i h1 h2
      have : i = 0 ∨ i = 1 := by simp at h2; omega
      rcases this with rfl | rfl
      ·rw [Array.getElem?_eq_getElem h1] at ht0; simpa using ht0
      ·rw [Array.getElem?_eq_getElem h1] at hu0; simpa using hu0
    subst ha
    exact op_app ho hts hd hdu (fun k hk => by subst hk; simp [intD] at c1) hj hz (Nat.pos_of_ne_zero c3) c4 h1 h2 hR hA hN hl
  case h_2 t x v ho =>
   obtain ⟨i, hi, hc⟩ := Option.bind_some_inv hc
   obtain ⟨x', h1, hc⟩ := Option.bind_some_inv hc
   obtain ⟨v', h2, hc⟩ := Option.bind_some_inv hc
   cases hc; exact op_st ho hi h1 h2 hR hA hN hl
  case h_3 t x ho =>
   obtain ⟨i, hi, hc⟩ := Option.bind_some_inv hc
   obtain ⟨x', h1, hc⟩ := Option.bind_some_inv hc
   cases hc; exact op_box ho hi h1 hR hA hN hl
  case h_4 t ho =>
   obtain ⟨i, hi, hc⟩ := Option.bind_some_inv hc
   obtain ⟨z, hz, hc⟩ := Option.bind_some_inv hc
   obtain ⟨x', h1, hc⟩ := Option.bind_some_inv hc
   cases hc; exact op_alloc ho hi hz h1 hR hN hl
  case h_5 t n parts ho =>
   obtain ⟨d, hd, hc⟩ := Option.bind_some_inv hc
   split at hc <;> first | cases hc | skip
   obtain ⟨j, hj, hc⟩ := Option.bind_some_inv hc
   obtain ⟨z, hz, hc⟩ := Option.bind_some_inv hc
   split at hc
   ·cases hc
   ·rename_i hcond
    obtain ⟨ps, h1, hc⟩ := Option.bind_some_inv hc
    cases hc
    simp only [Bool.or_eq_true, not_or, Bool.not_eq_true, decide_eq_false_iff_not, bne_eq_false_iff_eq, beq_eq_false_iff_ne, ne_eq, decide_eq_true_eq] at hcond
    exact op_bslice ho hd hj hz hcond.1.1 hcond.1.2 hcond.2 h1 hR hA hN hl
  case h_6 f args ts ho =>
   obtain ⟨fn, hf, hc⟩ := Option.bind_some_inv hc
   split at hc
   ·rename_i hcond
    obtain ⟨x', h1, hc⟩ := Option.bind_some_inv hc
    cases hc
    simp only [Bool.and_eq_true] at hcond
    exact op_call ho hf hcond.1 (by simpa using hcond.2) h1 hR hA hN hP hl
   ·cases hc
  case h_7 => cases hc
end
end Go.L

namespace Go.L
section
variable {P : Program} {o : Oper} {e : Env} {h : Hp} {next : AV → Prop}
def isB (v : Option Value) (d x : Nat) : Prop :=
 match v with
 | none => x = d
 | some v => ∃ k, v = .int k x
theorem bndO_inv {d : Nat} {x : Option Operand} {x' : Option AOpd} (hx : copdO x = some x') {N : Nat → Prop} (hb : bndO e d x' N) :
  ∃ n, N n ∧ ∀ (σ : Emb) (M : Mem) (a : Act), ActR σ M e a → isB (x.map a.eval) d n := by
 cases x with
 | none => cases hx; exact ⟨d, hb, fun _ _ _ _ => rfl⟩
 | some x =>
  obtain ⟨y, hy, rfl⟩ := Option.map_some_inv hx
  simp only [bndO] at hb
  split at hb <;> first | exact hb.elim | skip
  rename_i k n hn
  obtain ⟨q, rfl, hN⟩ := hb
  refine ⟨q, hN, fun σ M a hA => ?_⟩
  have h1 := copd_ok hy hA
  rw [hn] at h1
  exact ⟨k, h1.int_inv⟩
theorem run_bound {v : Value} {x y : Nat} (hv : ∃ k, v = .int k x) (hy : x ≤ y) (code : BoundsCode) (w : World) : (Instr.sliceBound v y code).run P w = .ok x w := by
 obtain ⟨k, rfl⟩ := hv
 have : ((x : Int) ≤ (y : Int)) := by omega
 simp [Instr.sliceBound, asIntOf, this]
theorem run_bounds {len cap p q m : Nat} {lo hi mx : Option Value} (hlo : isB lo 0 p) (hhi : isB hi len q) (hmx : isB mx cap m) (hh : mx.isSome = true → hi.isSome = true) (h1 : p ≤ q) (h2 : q ≤ m) (h3 : m ≤ cap) (w : World) :
  (Instr.sliceBounds true len cap lo hi mx).run P w = .ok (p, q, m) w := by
 unfold Instr.sliceBounds
 cases mx with
 | none =>
  cases hmx
  cases hi with
  | none =>
   cases hhi
   cases lo with
   | none => cases hlo; simp
   | some l => simp [run_bound hlo h1]
  | some u =>
   cases lo with
   | none => cases hlo; simp [run_bound hhi h2]
   | some l => simp [run_bound hhi h2, run_bound hlo h1]
 | some m' =>
  cases hi with
  | none => cases hh rfl
  | some u =>
   cases lo with
   | none => cases hlo; simp [run_bound hmx h3, run_bound hhi h2]
   | some l => simp [run_bound hmx h3, run_bound hhi h2, run_bound hlo h1]
theorem exec_slcl {t el : TypeId} {i : TypeInfo} {x : Operand} {lo hi mx : Option Operand} (ho : o.op = .slice t x lo hi mx) (ht : P.underlying t = some (.slice el)) (hi' : P.info? el = some i)
  {a : Act} {w : World} {ad : Option Addr} {len cap p q m : Nat} (hx : a.eval x = .slice ad len cap) (hb : (Instr.sliceBounds true len cap (lo.map a.eval) (hi.map a.eval) (mx.map a.eval)).run P w = .ok (p, q, m) w) :
  (execOp a.eval o).run P w = .ok (.value (.slice (if m = p then ad else ad.map (·.add (p * i.size))) (q - p) (m - p))) w := by
 simp [execOp, ho, Instr.sliceAt, run_underlying ht, Instr.slice, hx, hb, run_sizeOf' hi']
theorem isl_sub {σ : Emb} {M : Mem} {g : Nat} {es : List (List AV)} {ad : Option Addr} {c p q m z : Nat} (hv : VR σ M (.isl g es) (.slice ad es.length c)) (hz : ∀ cs ∈ es, cs.length = z) (h1 : p ≤ q) (h2 : q ≤ m) (h3 : q ≤ es.length) (h4 : m ≤ c) :
  VR σ M (.isl g ((es.take q).drop p)) (.slice (if m = p then ad else ad.map (·.add (p * z))) (q - p) (m - p)) := by
 have hlen : ((es.take q).drop p).length = q - p := by simp; omega
 by_cases hqp : q - p = 0
 ·have : (es.take q).drop p = [] := List.eq_nil_of_length_eq_zero (by omega)
  rw [this, hqp]; exact .isl0 _ _ _
 ·rw [if_neg (by omega)]
  cases hv with
  | isl0 => simp at h3; omega
  | isl _ _ z0 B O C T F d _ hM hz0 hn hc hv' =>
   have hzz : z0 = z := by
    have : 0 < es.length := by omega
    have h0 : es[0]? = some es[0] := List.getElem?_eq_getElem this
    rw [← hz0 0 _ h0]; exact hz _ (List.mem_of_getElem? h0)
   subst hzz
   have get : ∀ (k : Nat) (cs : List AV), ((es.take q).drop p)[k]? = some cs → es[p + k]? = some cs := fun k cs hk => by
    rw [List.getElem?_drop] at hk
    have : p + k < q := by
     rcases Nat.lt_or_ge (p + k) q with hh | hh
     ·exact hh
     ·rw [List.getElem?_eq_none (by simp; omega)] at hk; cases hk
    rw [List.getElem?_take_of_lt this] at hk; exact hk
   have := VR.isl (σ := σ) (M := M) g ((es.take q).drop p) z0 B (O + p * z0) C T F (fun k j => d (p + k) j) (m - p) hM (fun k cs hk => hz0 _ cs (get k cs hk)) (by omega)
    (fun k cs j v hk hj => by rw [show O + p * z0 + k * z0 + j = O + (p + k) * z0 + j by rw [Nat.add_mul]; omega]; exact hc _ cs j v (get k cs hk) hj)
    (fun k cs j v hk hj => hv' _ cs j v (get k cs hk) hj)
   rw [hlen] at this
   simpa [add_none] using this
theorem LN_slcl {t el : TypeId} {i : TypeInfo} {x : Operand} {lo hi mx : Option Operand} (ho : o.op = .slice t x lo hi mx) (ht : P.underlying t = some (.slice el)) (hi' : P.info? el = some i) (hmh : mx.isSome = true → hi.isSome = true)
  {x' : AOpd} {lo' hx' mx' : Option AOpd} (hx : copd x = some x') (hlo : copdO lo = some lo') (hhi : copdO hi = some hx') (hmx : copdO mx = some mx') (hl : LN (.slcl el i.size x' lo' hx' mx') e h next) : ∃ v, next v ∧ SemVal P o e h v := by
 have hms : ∀ (a : Act), (mx.map a.eval).isSome = true → (hi.map a.eval).isSome = true := fun a h => by
  cases mx with
  | none => cases h
  | some y => have := hmh rfl; cases hi with | none => cases this | some z => rfl
 simp only [LN] at hl
 split at hl <;> first | exact hl.elim | skip
 ·rename_i g es hs
  obtain ⟨hlz, hl⟩ := hl
  obtain ⟨q, hl, hq⟩ := bndO_inv hhi hl
  obtain ⟨p, hl, hp⟩ := bndO_inv hlo hl
  obtain ⟨m, hl, hm⟩ := bndO_inv hmx hl
  obtain ⟨h1, h2, h3, hl⟩ := hl
  have main : ∀ v, (v = .isl g ((es.take q).drop p) ∨ (v = .emp ∧ mx'.isSome = true ∧ m = p)) → SemVal P o e h v := by
   intro v hv σ M w a hR hA
   have hvr := copd_ok hx hA
   rw [hs] at hvr
   obtain ⟨ad, c, e1⟩ := hvr.isl_len
   have hc : es.length ≤ c := by
    generalize a.eval x = v0 at e1 hvr
    subst e1
    cases hvr with
    | isl0 => simp
    | isl _ _ z0 B O C T F d _ hM hz0 hn hc hv' => exact hn
   obtain ⟨m', hm1, hm2, hm3⟩ : ∃ m', isB (mx.map a.eval) c m' ∧ q ≤ m' ∧ m' ≤ c ∧ (mx'.isSome = true → m' = m) := by
    cases mx with
    | none => cases hmx; exact ⟨c, rfl, by omega, Nat.le_refl _, fun h => by cases h⟩
    | some y => exact ⟨m, hm σ M a hA, h2, by omega, fun _ => rfl⟩
   have hrun := run_bounds (P := P) (hp σ M a hA) (hq σ M a hA) hm1 (hms a) h1 hm2 hm3.1 w
   refine ⟨_, exec_slcl ho ht hi' e1 hrun, ?_⟩
   rcases hv with rfl | ⟨rfl, h5, h6⟩
   ·rw [e1] at hvr
    exact isl_sub hvr hlz h1 hm2 (by omega) hm3.1
   ·have : m' = p := by rw [hm3.2 h5, h6]
    have hqp : q = p := by omega
    subst this; subst hqp
    simp only [Nat.sub_self]
    exact .emp _
  rcases hl with ⟨h5, h6, h7⟩ | h7
  ·exact ⟨_, h7, main _ (.inr ⟨rfl, h5, h6⟩)⟩
  ·exact ⟨_, h7, main _ (.inl rfl)⟩
 ·rename_i b k n c hs
  obtain ⟨⟨es, hrow⟩, hl⟩ := hl
  obtain ⟨q, hl, hq⟩ := bndO_inv hhi hl
  obtain ⟨p, hl, hp⟩ := bndO_inv hlo hl
  have main : ∀ (m : Nat) (c2 : Option Nat), p ≤ q → (∀ (σ : Emb) (M : Mem) (a : Act) (c' : Nat), ActR σ M e a → n ≤ c' → (∀ x, c = some x → c' = x) →
    ∃ m', isB (mx.map a.eval) c' m' ∧ q ≤ m' ∧ m' ≤ c' ∧ (∀ x, c2 = some x → m' - p = x) ∧ (c2 = none → c = none)) → SemVal P o e h (.slc b (k + p) (q - p) c2) := by
   intro m c2 hpq hm σ M w a hR hA
   have hvr := copd_ok hx hA
   rw [hs] at hvr
   obtain ⟨L, ad, c', e1, hL, had, hn, hk, hu⟩ := hvr.slc_inv
   obtain ⟨m', hm1, hm2, hm3, hm4, hm5⟩ := hm σ M a c' hA hn hk
   have hrun := run_bounds (P := P) (hp σ M a hA) (hq σ M a hA) hm1 (hms a) hpq hm2 hm3 w
   obtain ⟨C, F, hb, hsz, hz, _⟩ := hR.blk b _ L hrow hL
   have hz2 : i.size = L.z := by rw [hi'] at hz; simpa using hz
   refine ⟨_, exec_slcl ho ht hi' e1 hrun, ?_⟩
   rw [show (if m' = p then some ad else (some ad).map (·.add (p * i.size))) = some (if m' = p then ad else ad.add (p * i.size)) by split <;> rfl]
   refine .slc b (k + p) (q - p) c2 L _ (m' - p) hL (fun hne => ?_) (by omega) hm4 (fun h2 => ?_)
   ·rw [if_neg (by omega), had (by omega), add_none, hz2, Nat.add_mul]; congr 1; omega
   ·have h3 := hu (hm5 h2)
    have : (k + p + (m' - p)) * L.z ≤ (k + c') * L.z := Nat.mul_le_mul_right _ (by omega)
    omega
  cases mx with
  | none =>
   cases hmx
   obtain ⟨h1, h2, hl⟩ := hl
   refine ⟨_, hl, main 0 _ h1 fun σ M a c' _ hn hk => ⟨c', rfl, ?_, Nat.le_refl _, ?_, ?_⟩⟩
   ·cases c with
    | none => simp at h2; omega
    | some x => simp at h2; have := hk x rfl; omega
   ·intro x hx2
    cases c with
    | none => cases hx2
    | some x0 => cases hx2; rw [hk x0 rfl]
   ·intro hx2; cases c with
    | none => rfl
    | some x0 => cases hx2
  | some y =>
   obtain ⟨y', hy', rfl⟩ := Option.map_some_inv hmx
   obtain ⟨m, hl, hm⟩ := bndO_inv (x := some y) (x' := some y') (by simp [copdO, hy']) hl
   obtain ⟨h1, h2, h3, hl⟩ := hl
   refine ⟨_, hl, main m _ h1 fun σ M a c' hA hn hk => ⟨m, hm σ M a hA, h2, ?_, ?_, ?_⟩⟩
   ·cases c with
    | none => simp at h3; omega
    | some x => simp at h3; have := hk x rfl; omega
   ·intro x hx2; cases hx2; rfl
   ·intro hx2; cases hx2
 all_goals
  rename_i hs
  obtain ⟨q, hl, hq⟩ := bndO_inv hhi hl
  obtain ⟨p, hl, hp⟩ := bndO_inv hlo hl
  obtain ⟨m, hl, hm⟩ := bndO_inv hmx hl
  obtain ⟨rfl, rfl, rfl, hl⟩ := hl
  refine ok_of hl fun σ M w a hR hA => ?_
  have hvr := copd_ok hx hA
  rw [hs] at hvr
  have hrun := run_bounds (P := P) (hp σ M a hA) (hq σ M a hA) (hm σ M a hA) (hms a) (Nat.le_refl _) (Nat.le_refl _) (Nat.le_refl _) w
 ·refine ⟨_, exec_slcl ho ht hi' hvr.nils_inv hrun, ?_⟩
  exact .nils
 ·obtain ⟨ad, e1⟩ := hvr.emp_inv
  refine ⟨_, exec_slcl ho ht hi' e1 hrun, ?_⟩
  exact .emp _
end
end Go.L

namespace Go.L
section
variable {P : Program} {o : Oper} {e : Env} {h : Hp} {next : AV → Prop}
def nilC (d : TypeDesc) (c : Operand) : Option NK :=
 match d with
 | .slice _ => match c with | .const (.slice none 0 0) => some .sl | _ => none
 | .pointer _ => match c with | .const (.pointer none) => some .pt | _ => none
 | .map _ _ => match c with | .const (.map none) => some .mp | _ => none
 | .func _ _ _ => match c with | .const .nilFunc => some .fn | _ => none
 | .interface _ => match c with | .const .nilIface => some .ic | _ => none
 | _ => none
def NKv : NK → Value
 | .sl => .slice none 0 0
 | .pt => .pointer none
 | .mp => .map none
 | .fn => .nilFunc
 | .ic => .nilIface
def NKd : NK → TypeDesc → Prop
 | .sl, d => ∃ e, d = .slice e
 | .pt, d => ∃ e, d = .pointer e
 | .mp, d => ∃ a b, d = .map a b
 | .fn, d => ∃ a b c, d = .func a b c
 | .ic, d => ∃ m, d = .interface m
theorem nilC_ok {d : TypeDesc} {c : Operand} {k : NK} (h : nilC d c = some k) : NKd k d ∧ c = .const (NKv k) := by
 unfold nilC at h
 split at h <;> first | cases h | skip
 all_goals
  split at h <;> cases h
  exact ⟨by simp [NKd], rfl⟩
theorem nilN_ok {k : NK} {v : AV} {N : Bool → Prop} (h : nilN k v N) : ∃ b, N b ∧ ∀ (σ : Emb) (M : Mem) (x : Value), VR σ M v x → ∀ (P : Program) (t : TypeId) (d : TypeDesc) (w : World) (y c : Operand) (op : BinOp), P.underlying t = some d → NKd k d →
  c = .const (NKv k) → (op = .eql ∨ op = .neq) → (do eqGuard op t y c x (NKv k); binOp op t x (NKv k) : Sem Value).run P w = .ok (.bool (if op = .eql then b else !b)) w := by
 have key : ∀ b, N b → (∀ (σ : Emb) (M : Mem) (x : Value), VR σ M v x → (∀ (P : Program) (t : TypeId) (d : TypeDesc) (w : World) (n : Nat), P.underlying t = some d → NKd k d → (Op.equalIn (n + 1) t x (NKv k)).run P w = .ok b w) ∧
   (∀ op t, (op = .eql → binOp op t x (NKv k) = (do pure (.bool (← Op.equal t x (NKv k))))) ∧ (op = .neq → binOp op t x (NKv k) = (do pure (.bool (!(← Op.equal t x (NKv k)))))))) →
   ∃ b, N b ∧ ∀ (σ : Emb) (M : Mem) (x : Value), VR σ M v x → ∀ (P : Program) (t : TypeId) (d : TypeDesc) (w : World) (y c : Operand) (op : BinOp), P.underlying t = some d → NKd k d →
    c = .const (NKv k) → (op = .eql ∨ op = .neq) → (do eqGuard op t y c x (NKv k); binOp op t x (NKv k) : Sem Value).run P w = .ok (.bool (if op = .eql then b else !b)) w := by
  intro b hN hk
  refine ⟨b, hN, fun σ M x hx P t d w y c op ht hd hc hop => ?_⟩
  obtain ⟨h1, h2⟩ := hk σ M x hx
  have hq : (Op.equal t x (NKv k)).run P w = .ok b w := h1 P t d w 9999 ht hd
  have hg : (eqGuard op t y c x (NKv k)).run P w = .ok () w := by
   subst hc
   unfold eqGuard
   rcases hop with rfl | rfl <;> cases k <;> cases x <;> simp [NKv]
  rcases hop with rfl | rfl
  ·simp [hg, (h2 .eql t).1 rfl, hq]
  ·simp [hg, (h2 .neq t).2 rfl, hq]
 unfold nilN at h
 split at h <;> (split at h <;> first | exact h.elim | skip)
 all_goals first
  | (refine key true h fun σ M x hx => ⟨fun P t d w n ht hd => ?_, fun op t => ⟨fun h => ?_, fun h => ?_⟩⟩)
  | (refine key false h fun σ M x hx => ⟨fun P t d w n ht hd => ?_, fun op t => ⟨fun h => ?_, fun h => ?_⟩⟩)
  | (refine key false h.2 fun σ M x hx => ⟨fun P t d w n ht hd => ?_, fun op t => ⟨fun h => ?_, fun h => ?_⟩⟩)
 all_goals first
  | (subst h; cases hx <;> rfl)
  | (simp only [NKd] at hd; (try obtain ⟨_, rfl⟩ := hd); (try obtain ⟨_, _, rfl⟩ := hd); (try obtain ⟨_, _, _, rfl⟩ := hd); cases hx <;> first | (simp [Op.equalIn, run_underlying ht, NKv]; done) | (simp at h; done) | (exact absurd rfl h.1))
theorem LN_isnil {op : BinOp} {t u : TypeId} {d : TypeDesc} {x y : Operand} {k : NK} (ho : o.op = .binOp op t x y u) (ht : P.underlying t = some d) (hy : nilC d y = some k) (hop : op = .eql ∨ op = .neq)
  {x' : AOpd} (hx : copd x = some x') (hl : LN (.isnil k (decide (op = .neq)) x') e h next) : ∃ v, next v ∧ SemVal P o e h v := by
 obtain ⟨hd, rfl⟩ := nilC_ok hy
 obtain ⟨b, hN, hk⟩ := nilN_ok (k := k) (v := ev e x') (N := fun b => next (.bool (cond (decide (op = .neq)) (!b) b))) hl
 refine ok_of hN fun σ M w a hR hA => ⟨_, ?_, .bool _⟩
 have := hk σ M _ (copd_ok hx hA) P t d w x (.const (NKv k)) op ht hd rfl hop
 have he : a.eval (.const (NKv k)) = NKv k := rfl
 simp only [execOp, ho, he, Sem.run_bind, this, Result.andThen, Sem.run_pure]
 rcases hop with rfl | rfl <;> rfl
theorem LN_capk {t el : TypeId} {x : Operand} {ts : Array TypeId} (ho : o.op = .call { callee := .builtin .cap, args := #[x], argTypes := ts }) (h0 : ts[0]? = some t) (ht : P.underlying t = some (.slice el))
  {x' : AOpd} (hx : copd x = some x') (hl : LN (.capk x') e h next) : ∃ v, next v ∧ SemVal P o e h v := by
 have exec : ∀ (a : Act) (w : World) (ad : Option Addr) (n c : Nat), a.eval x = .slice ad n c → (execOp a.eval o).run P w = .ok (.value (.int .i64 c)) w := fun a w ad n c hv => by
  have : (Builtin.cap_ ts o.type #[a.eval x]).run P w = .ok (.int .i64 c) w := by simp [Builtin.cap_, h0, run_underlying ht, hv, goInt]
  simp [execOp, ho, resolve, invoke, builtin, this]
 simp only [LN] at hl
 split at hl <;> first | exact hl.elim | skip
 all_goals
  rename_i hs
  refine ok_of hl fun σ M w a hR hA => ?_
  have h1 := copd_ok hx hA
  rw [hs] at h1
 ·obtain ⟨L, a0, c, e1, _, _, _, hk, _⟩ := h1.slc_inv
  exact ⟨_, exec a w _ _ _ e1, by rw [hk _ rfl]; exact .int _ _⟩
 ·exact ⟨_, exec a w _ _ _ h1.nils_inv, .int .i64 ((0 : Nat) : Int)⟩
 ·obtain ⟨a0, e1⟩ := h1.emp_inv
  exact ⟨_, exec a w _ _ _ e1, .int .i64 ((0 : Nat) : Int)⟩
theorem LN_convs {s t : TypeId} {x : Operand} (ho : o.op = .convert s t x) (ht : P.underlying t = some .string) (hs : P.underlying s = some .string) {x' : AOpd} (hx : copd x = some x') (hl : LN (.convs x') e h next) :
  ∃ v, next v ∧ SemVal P o e h v := by
 simp only [LN] at hl
 split at hl <;> first | exact hl.elim | skip
 rename_i b hb
 refine ok_of hl fun σ M w a hR hA => ?_
 have h1 := copd_ok hx hA
 rw [hb] at h1
 obtain ⟨b', e1, e2⟩ := h1.str_inv
 exact ⟨.string b', by simp [execOp, ho, convert, run_underlying ht, run_underlying hs, e1], .str _ _ e2⟩
theorem find_count (fn : Func) (h : fn.name = "internal/bytealg.CountString") (ho : fn.origin = "") : Extern.findNext fn = none ∧ Extern.find fn = some Extern.BytealgCount.count := by
 cases fn with
 | mk => simp only at h ho; subst h; subst ho; exact ⟨by kernel_rfl, by kernel_rfl⟩
theorem find_index (fn : Func) (h : fn.name = "internal/bytealg.IndexByteString") (ho : fn.origin = "") : Extern.findNext fn = none ∧ Extern.find fn = some Extern.BytealgIndexByte.indexByte := by
 cases fn with
 | mk => simp only at h ho; subst h; subst ho; exact ⟨by kernel_rfl, by kernel_rfl⟩
theorem exec_extern {f : FuncId} {args : Array Operand} {ts : Array TypeId} {fn : Func} (ho : o.op = .call { callee := .value (.func f), args, argTypes := ts }) (hf : P.funcs[f]? = some fn) (hb : fn.body.isNone = true)
  (hn : (fn.name == "runtime.NumGoroutine") = false) {g : Array Value → Sem Value} (hx : Extern.findNext fn = none ∧ Extern.find fn = some g) {a : Act} {w : World} {v : Value} (hr : (g (args.map a.eval)).run P w = .ok v w) :
  (execOp a.eval o).run P w = .ok (.value v) w := by
 have hc : (callFunc f (args.map a.eval)).run P w = .ok (.value v) w := by
  have hp : (program).run P w = .ok P w := rfl
  have hm : (mark (.extern f)).run P w = .ok () w := rfl
  simp only [callFunc, Sem.run_bind, hp, Result.andThen, hf, hn, hb, Bool.false_eq_true, if_false, if_true, hm, hx.1, hx.2, hr, Sem.run_pure]
 simp [execOp, ho, resolve, Deferred.ofValue, Act.eval, invoke, hc]
theorem LN_xcount {f : FuncId} {x c : Operand} {ts : Array TypeId} {fn : Func} (ho : o.op = .call { callee := .value (.func f), args := #[x, c], argTypes := ts }) (hf : P.funcs[f]? = some fn) (hb : fn.body.isNone = true)
  (hn : fn.name = "internal/bytealg.CountString") (hor : fn.origin = "") {x' c' : AOpd} (hx : copd x = some x') (hc : copd c = some c') (hl : LN (.xcount x' c') e h next) : ∃ v, next v ∧ SemVal P o e h v := by
 simp only [LN] at hl
 split at hl <;> first | exact hl.elim | skip
 rename_i s n hs hm
 refine ok_of hl fun σ M w a hR hA => ?_
 have h1 := copd_ok hx hA
 have h2 := copd_ok hc hA
 rw [hs] at h1; rw [hm] at h2
 obtain ⟨b, e1, e2⟩ := h1.str_inv
 refine ⟨_, exec_extern ho hf hb (by rw [hn]; decide) (find_count fn hn hor) (v := .int .i64 (Lib.countByte s n.toNat.toUInt8 : Nat)) ?_, .int _ _⟩
 have := Lib.run_countString (P := P) b n w
 rw [e2] at this
 simpa [e1, h2.int_inv] using this
theorem LN_xindex {f : FuncId} {x c : Operand} {ts : Array TypeId} {fn : Func} (ho : o.op = .call { callee := .value (.func f), args := #[x, c], argTypes := ts }) (hf : P.funcs[f]? = some fn) (hb : fn.body.isNone = true)
  (hn : fn.name = "internal/bytealg.IndexByteString") (hor : fn.origin = "") {x' c' : AOpd} (hx : copd x = some x') (hc : copd c = some c') (hl : LN (.xindex x' c') e h next) : ∃ v, next v ∧ SemVal P o e h v := by
 simp only [LN] at hl
 split at hl <;> first | exact hl.elim | skip
 rename_i s n hs hm
 refine ok_of (genI_use hl) fun σ M w a hR hA => ?_
 have h1 := copd_ok hx hA
 have h2 := copd_ok hc hA
 rw [hs] at h1; rw [hm] at h2
 obtain ⟨b, e1, e2⟩ := h1.str_inv
 refine ⟨_, exec_extern ho hf hb (by rw [hn]; decide) (find_index fn hn hor) (v := .int .i64 (Lib.indexByte s n.toNat.toUInt8)) ?_, .int _ _⟩
 have := Lib.run_indexByteString (P := P) b n w
 rw [e2] at this
 simpa [e1, h2.int_inv] using this
theorem LN_mn {x y : Operand} {ts : Array TypeId} (ho : o.op = .call { callee := .builtin .min, args := #[x, y], argTypes := ts }) {x' y' : AOpd} (hx : copd x = some x') (hy : copd y = some y') (hl : LN (.mn x' y') e h next) :
  ∃ v, next v ∧ SemVal P o e h v := by
 simp only [LN] at hl
 split at hl <;> first | exact hl.elim | skip
 rename_i k p k' q hs hm
 cases hk : ikeq k k' with
 | false => simp [hk] at hl
 | true =>
  simp only [hk, cond_true] at hl
  refine ok_of (genI_use hl) fun σ M w a hR hA => ?_
  have h1 := copd_ok hx hA
  have h2 := copd_ok hy hA
  rw [hs] at h1; rw [hm] at h2
  exact ⟨.int k (if q < p then q else p), by simp [execOp, ho, resolve, invoke, builtin, Builtin.min_, h1.int_inv, h2.int_inv, Builtin.min2], .int _ _⟩
theorem LN_mx {x y : Operand} {ts : Array TypeId} (ho : o.op = .call { callee := .builtin .max, args := #[x, y], argTypes := ts }) {x' y' : AOpd} (hx : copd x = some x') (hy : copd y = some y') (hl : LN (.mx x' y') e h next) :
  ∃ v, next v ∧ SemVal P o e h v := by
 simp only [LN] at hl
 split at hl <;> first | exact hl.elim | skip
 rename_i k p k' q hs hm
 cases hk : ikeq k k' with
 | false => simp [hk] at hl
 | true =>
  simp only [hk, cond_true] at hl
  refine ok_of (genI_use hl) fun σ M w a hR hA => ?_
  have h1 := copd_ok hx hA
  have h2 := copd_ok hy hA
  rw [hs] at h1; rw [hm] at h2
  exact ⟨.int k (if p < q then q else p), by simp [execOp, ho, resolve, invoke, builtin, Builtin.max_, h1.int_inv, h2.int_inv, Builtin.max2], .int _ _⟩
end
end Go.L

namespace Go.L
section
variable {P : Program} {ro : Option Nat} {md : Bool} {σ σ' : Emb} {M M' : Mem} {h : Hp} {w w' : World}
theorem R.storeElsX (hR : R P σ M h w) {b q : Nat} {T : TypeId} {i : TypeInfo} {es es' : List (List AV)} {L : Loc} {new : Array Value} (hi : P.info? T = some i) (hb : h b = some (.row T es)) (hL : σ b = some L) (hq0 : q ≤ es.length) (hq : L.o + q * L.z + es'.length * L.z ≤ L.s)
  (hlen : ∀ cs ∈ es', cs.length = i.size) (hsize : new.size = es'.length * i.size) (hnew : VRs σ M es'.flatten new) (hflat : ∀ cs ∈ es', flat cs = true) :
  ∃ w1, (storeCells ⟨L.b, L.o + q * L.z, none⟩ new.toList).run P w = .ok () w1 ∧ R P σ M (h.set b (.row T (es.take q ++ es' ++ es.drop (q + es'.length)))) w1 ∧ Ext σ M w σ M w1 := by
 obtain ⟨C, F, hbl, hsz, hLz, hcap, hes, hF⟩ := hR.blk b _ L hb hL
 have hz : L.z = i.size := by rw [hi] at hLz; simpa using hLz.symm
 have write : ∀ {L : Loc} {C : Array Value} {F : Nat × Nat} (q : Nat), w.heap[L.b]? = some (.cells C T F) → C.size = L.s → L.z = i.size → Unf F L.s → L.o + q * L.z + es'.length * L.z ≤ L.s →
   (∀ cs ∈ es', flat cs = true) →
   ∃ w', (storeCells ⟨L.b, L.o + q * L.z, none⟩ new.toList).run P w = .ok () w' ∧ w'.heap.size = w.heap.size ∧ w'.os = w.os ∧ w'.tape = w.tape ∧ w'.output = w.output ∧ (∀ B, B ≠ L.b → w'.heap[B]? = w.heap[B]?) ∧
    w'.heap[L.b]? = some (.cells (setMany C (L.o + q * L.z) new.toList) T F) := by
  intro L C F q hbl hsz hz hF hle hf
  have hff := flat_flatten hf
  have hnl : new.toList.length = es'.length * L.z := by rw [Array.length_toList, hsize, hz]
  exact run_storeCells (P := P) L.b (L.o + q * L.z) new.toList 0 w C T F hbl (by rw [hnl]; omega) (fun x hx hx2 => hF.at x (by omega)) (fun u hu => by
   obtain ⟨j, hj⟩ := List.getElem?_of_mem hu
   have hjl : j < es'.flatten.length := by
    rcases Nat.lt_or_ge j es'.flatten.length with hh | hh
    ·exact hh
    ·rw [List.getElem?_eq_none (by rw [Array.length_toList, hnew.1]; exact hh)] at hj; cases hj
   obtain ⟨v', e1, e2⟩ := hnew.2 j _ (List.getElem?_eq_getElem hjl)
   rw [Array.getElem?_toList, e1] at hj; cases hj
   exact scalar_ok e2 (flat_get hff (List.getElem?_eq_getElem hjl)))
 have reads : ∀ {L : Loc} {C : Array Value} (q : Nat) (es : List (List AV)), C.size = L.s → L.z = i.size → L.o + q * L.z + es'.length * L.z ≤ L.s →
   (∀ (j : Nat) (cs : List AV), es[j]? = some cs → VRs σ M cs (C.extract (L.o + j * L.z) (L.o + j * L.z + L.z)) ∧ cs.length = L.z) → L.o + es.length * L.z ≤ L.s →
   ∀ (j : Nat) (cs : List AV), ((q ≤ j ∧ es'[j - q]? = some cs) ∨ ((j < q ∨ q + es'.length ≤ j) ∧ es[j]? = some cs)) →
    VRs σ M cs ((setMany C (L.o + q * L.z) new.toList).extract (L.o + j * L.z) (L.o + j * L.z + L.z)) ∧ cs.length = L.z := by
  intro L C q es hsz hz hle hes hcap j cs hj
  have hnl : new.toList.length = es'.length * L.z := by rw [Array.length_toList, hsize, hz]
  have hget := setMany_get new.toList (L.o + q * L.z) C (by omega)
  have hss := setMany_size new.toList (L.o + q * L.z) C
  rcases hj with ⟨hqj, hj⟩ | ⟨hjq, hj⟩
  ·have hjl : j - q < es'.length := by
    rcases Nat.lt_or_ge (j - q) es'.length with hh | hh
    ·exact hh
    ·rw [List.getElem?_eq_none hh] at hj; cases hj
   have hV := rows_of_flat hlen hnew _ cs hj
   have hcl : cs.length = L.z := by rw [hz]; exact hlen cs (List.mem_of_getElem? hj)
   have hm1 : j * L.z = q * L.z + (j - q) * L.z := by rw [← Nat.add_mul]; congr 1; omega
   have hm2 : (j - q + 1) * L.z ≤ es'.length * L.z := Nat.mul_le_mul_right _ hjl
   rw [Nat.add_mul, Nat.one_mul] at hm2
   refine ⟨⟨by rw [Array.size_extract, hss]; omega, fun x u hx => ?_⟩, hcl⟩
   have hxl : x < L.z := by
    rcases Nat.lt_or_ge x cs.length with hh | hh
    ·omega
    ·rw [List.getElem?_eq_none hh] at hx; cases hx
   obtain ⟨v', e1, e2⟩ := hV.2 x u hx
   refine ⟨v', ?_, e2⟩
   rw [Array.getElem?_extract] at e1
   split at e1
   ·rw [Array.getElem?_extract, if_pos (by rw [hss]; omega), hget, if_pos (by omega), Array.getElem?_toList]
    rw [show L.o + j * L.z + x - (L.o + q * L.z) = (j - q) * L.z + x by omega]
    rw [← hz] at e1; exact e1
   ·cases e1
  ·obtain ⟨hV, hcl⟩ := hes j cs hj
   refine ⟨⟨by rw [Array.size_extract, hss]; have := hV.1; rw [Array.size_extract] at this; exact this, fun x u hx => ?_⟩, hcl⟩
   have hxl : x < L.z := by
    rcases Nat.lt_or_ge x cs.length with hh | hh
    ·omega
    ·rw [List.getElem?_eq_none hh] at hx; cases hx
   obtain ⟨v', e1, e2⟩ := hV.2 x u hx
   refine ⟨v', ?_, e2⟩
   rw [Array.getElem?_extract] at e1
   split at e1
   ·rename_i hc
    rw [Array.getElem?_extract, if_pos (by rw [hss]; exact hc), hget, if_neg, e1]
    intro hcon
    rcases hjq with hjq | hjq
    ·have : (j + 1) * L.z ≤ q * L.z := Nat.mul_le_mul_right _ hjq
     rw [Nat.add_mul, Nat.one_mul] at this
     omega
    ·have : (q + es'.length) * L.z ≤ j * L.z := Nat.mul_le_mul_right _ hjq
     rw [Nat.add_mul] at this
     omega
   ·cases e1
 have hle : L.o + q * L.z + es'.length * L.z ≤ L.s := hq
 obtain ⟨w1, g1, g2, g3, g4, g5, g6, g7⟩ := write q hbl hsz hz hF hle hflat
 have hnl : L.o + (es.take q ++ es' ++ es.drop (q + es'.length)).length * L.z ≤ L.s := by
  rcases Nat.le_total (q + es'.length) es.length with hh | hh
  ·have : (es.take q ++ es' ++ es.drop (q + es'.length)).length = es.length := by simp; omega
   rw [this]; exact hcap
  ·have : (es.take q ++ es' ++ es.drop (q + es'.length)).length = q + es'.length := by simp; omega
   rw [this, Nat.add_mul]; omega
 refine ⟨w1, g1, hR.upd hb hL g6 ?_, ⟨σ.le_refl, M.le_refl, by omega, g3, g4, g5⟩⟩
 refine ⟨_, F, g7, by rw [setMany_size]; exact hsz, by simp [hi, hz], hnl, fun x cs hx => ?_, hF⟩
 refine reads q es hsz hz hle hes hcap x cs ?_
 by_cases h5 : x < q
 ·right
  rw [List.append_assoc, List.getElem?_append_left (by simp; omega), List.getElem?_take_of_lt h5] at hx
  exact ⟨.inl h5, hx⟩
 ·by_cases h6 : x < q + es'.length
  ·left
   rw [List.append_assoc, List.getElem?_append_right (by simp; omega), List.getElem?_append_left (by simp; omega)] at hx
   simp only [List.length_take] at hx
   exact ⟨by omega, by rw [show x - q = x - min q es.length by omega]; exact hx⟩
  ·right
   rw [List.getElem?_append_right (by simp; omega)] at hx
   simp only [List.length_append, List.length_take, List.getElem?_drop] at hx
   exact ⟨.inr (by omega), by rw [show x = q + es'.length + (x - (min q es.length + es'.length)) by omega]; exact hx⟩
theorem R.storeEls (hR : R P σ M h w) {b q : Nat} {T : TypeId} {i : TypeInfo} {es es' : List (List AV)} {L : Loc} {new : Array Value} (hi : P.info? T = some i) (hb : h b = some (.row T es)) (hL : σ b = some L) (hq : q + es'.length ≤ es.length)
  (hlen : ∀ cs ∈ es', cs.length = i.size) (hsize : new.size = es'.length * i.size) (hnew : VRs σ M es'.flatten new) (hflat : ∀ cs ∈ es', flat cs = true) :
  ∃ w1, (storeCells ⟨L.b, L.o + q * L.z, none⟩ new.toList).run P w = .ok () w1 ∧ R P σ M (h.set b (.row T (es.take q ++ es' ++ es.drop (q + es'.length)))) w1 ∧ Ext σ M w σ M w1 := by
 obtain ⟨C, F, hbl, hsz, hLz, hcap, hes, hF⟩ := hR.blk b _ L hb hL
 have hmm : q * L.z + es'.length * L.z ≤ es.length * L.z := by rw [← Nat.add_mul]; exact Nat.mul_le_mul_right _ hq
 exact hR.storeElsX hi hb hL (by omega) (by omega) hlen hsize hnew hflat
theorem flatten_replicate : ∀ (n : Nat) (z : List AV), (List.replicate n z).flatten = rep z n := by
 intro n z
 induction n with
 | zero => rfl
 | succ n ih => rw [List.replicate_succ, List.flatten_cons, ih]; rfl
theorem zeros_VRs {z : List AV} {Z : Array Value} (hZ : VRs σ M z Z) (n : Nat) : VRs σ M (List.replicate n z).flatten (Builtin.zeroCells Z n) := by
 rw [flatten_replicate]; exact rep_VRs hZ n
theorem R.junk (hR : R P σ M h w) (o : Obj) : R P σ M h (w.alloc o) ∧ Ext σ M w σ M (w.alloc o) := by
 refine ⟨⟨hR.fin, hR.dom, fun B x hB => ?_, hR.sep, hR.inj, fun i b L hi hL => (hR.blk i b L hi hL).mono σ.le_refl M.le_refl (RowKit.Below.heap_alloc _ _ _ (hR.placed hi hL)), hR.al, hR.glb⟩, ⟨σ.le_refl, M.le_refl, by simp, rfl, rfl, rfl⟩⟩
 have := hR.mem B x hB
 have hlt : B < w.heap.size := (Array.getElem?_eq_some_iff.1 this).1
 rw [RowKit.Below.heap_alloc _ _ _ hlt]; exact this
end
section
variable {P : Program} {ro : Option Nat} {md : Bool} {o : Oper} {e : Env} {h : Hp} {next X : AV → Hp → Prop} {σ : Emb} {M : Mem} {w : World} {a : Act}
variable {nx : Act → World → Prop} {Qx : Exit → Act → World → Prop}
theorem op_bslice0 {t el : TypeId} {j : TypeInfo} (ho : o.op = .buildSlice t 0 #[]) (ht : P.underlying t = some (.slice el)) (hj : P.info? el = some j)
  (hR : R P σ M h w) (hN : NextS P σ M w a o.dst next nx) (hl : LOp P md (.bslice0 el) e h next X) : o.wpIn (fw ro) 0 P a w nx Qx := by
 have hrun : (execOp a.eval o).run P w = .ok (.value (.slice (some ⟨w.heap.size, 0, none⟩) 0 0)) (w.alloc (.cells #[] el)) := by
  simp [execOp, ho, Instr.buildSlice, run_underlying ht, run_sizeOf' hj, Instr.fill, newRow]
  have : Array.range 0 = #[] := by simp
  rw [this]; simp
 rcases hl with hn | hn
 ·obtain ⟨h1, h2⟩ := hR.junk (.cells #[] el)
  exact wpIn_of_run hrun (hN _ _ _ _ (.isl 0 []) _ h2 h1 (.isl0 _ _ _) hn)
 ·obtain ⟨i, hi, hin⟩ := hR.fresh hn
  have hN' := hR.newRow hi hj (es := []) (fun x hx => by simp at hx) (A := #[]) (rest := #[]) (by simpa using VRs.nil)
  refine wpIn_of_run hrun (hN _ M _ _ (.slc i 0 0 (some 0)) _ (Ext.alloc hi) (by simpa using hN') ?_ hin)
  exact .slc i 0 0 (some 0) _ _ 0 (Emb.set_same _ _ _) (fun h => absurd rfl h) (Nat.le_refl _) (fun _ h => by cases h; rfl) (fun h => by cases h)
theorem roundIn_fw {l : Nat} {f : FuncId} {tmps : Array Value} {ca cb : Code} {R : Ending → World → Prop} (h : RoundIn Fence.wide 0 P l f tmps ca cb w R) : RoundIn (fw ro) 0 P l f tmps ca cb w R := h
theorem tlook_mem {t f : Nat} : ∀ {l : List (Nat × Nat)}, tlook t l = some f → (t, f) ∈ l := by
 intro l
 induction l with
 | nil => intro h; cases h
 | cons x l ih =>
  obtain ⟨u, g⟩ := x
  intro h
  unfold tlook at h
  split at h
  ·rename_i hb; cases h; rw [Nat.eq_of_beq_eq_true hb]; simp
  ·exact List.mem_cons_of_mem _ (ih h)
theorem run_method {name : String} {t f : Nat} (hm : (t, f) ∈ invTab P name) (v : Value) (n : Nat) (w : World) :
  (method (n + 1) t v name).run P w = .ok (f, v) w ∧ ∃ fn, P.funcs[f]? = some fn ∧ fn.body.isSome = true ∧ (fn.name == "runtime.NumGoroutine") = false := by
 unfold invTab at hm
 obtain ⟨t', _, ht⟩ := List.mem_filterMap.1 hm
 unfold invOf at ht
 split at ht <;> first | cases ht | skip
 rename_i i hi
 split at ht <;> first | cases ht | skip
 rename_i m hfm
 split at ht <;> first | cases ht | skip
 rename_i p hf
 split at ht <;> first | cases ht | skip
 rename_i d hd
 split at ht <;> first | cases ht | skip
 rename_i fn hfn
 have hc : invOk d p.2 m.path.isEmpty fn.body.isSome fn.name = true := by
  cases hc : invOk d p.2 m.path.isEmpty fn.body.isSome fn.name with
  | false => rw [hc] at ht; cases ht
  | true => rfl
 rw [hc] at ht
 cases ht
 obtain ⟨f', pr⟩ := p
 unfold invOk at hc
 simp only [Bool.and_eq_true, bne_iff_ne, ne_eq] at hc
 obtain ⟨h1, h2, h3, h4⟩ := hc
 refine ⟨?_, fn, hfn, h3, by simpa using h4⟩
 have hpath : m.path.toList = [] := by simpa using h1
 have hti : (typeInfo t).run P w = .ok i w := run_typeInfo' hi w
 simp only [method, Sem.run_bind, hti, Result.andThen, hfm, hpath, follow, Sem.run_pure, hf]
 cases d with
 | pointer el =>
  have h2' : pr = true := h2
  subst h2'
  simp [receiverAt, run_underlying hd, Place.get]
 | _ =>
  have h2' : pr = false := by simpa using h2
  subst h2'
  simp [receiverAt, run_underlying hd, Place.get]
theorem op_callv {x : Operand} {args : Array Operand} {ts : Array TypeId} (ho : o.op = .call { callee := .value x, args, argTypes := ts }) {x' : AOpd} {args' : List AOpd} (hx : copd x = some x') (hargs : copds args.toList = some args')
  (hR : R P σ M h w) (hA : ActR σ M e a) (hN : NextS P σ M w a o.dst next nx) (hP : PanS P σ M w a X Qx) (hl : LOp P md (.callv x' args') e h next X) : o.wpIn (fw ro) 0 P a w nx Qx := by
 simp only [LOp] at hl
 split at hl <;> first | exact hl.elim | skip
 rotate_left
 rotate_left
 ·rename_i nm t v hv
  split at hl <;> first | exact hl.elim | skip
  rename_i f hf
  have h1 := copd_ok hx hA
  rw [hv] at h1
  obtain ⟨f', c', e1, hfi, hca, _⟩ := h1.func_inv
  obtain ⟨u0, q1, q2⟩ := hfi.2 0 _ rfl
  obtain ⟨u, rfl, hu⟩ : ∃ u, u0 = .iface t u ∧ VR σ M v u := by cases q2 with | ifc _ _ u hu => exact ⟨u, rfl, hu⟩
  have hfe : f' = #[.iface t u] := by
   refine Array.ext (by simpa using hfi.1) fun i h5 h6 => ?_
   have : i = 0 := by simp at h6; omega
   subst this
   simpa using (Array.getElem?_eq_some_iff.1 q1).2
  subst hfe
  have h2 := copds_ok hargs hA
  have h3 : (args.toList.map a.eval).toArray = args.map a.eval := by rw [← Array.toList_map, Array.toArray_toList]
  rw [h3] at h2
  obtain ⟨hmeth, fn, hfn, hb, hn⟩ := run_method (tlook_mem hf) u (P.types.size + (Made.depth - 1)) w
  have hrun : (execOp a.eval o).run P w = .ok (.enter f (#[u] ++ args.map a.eval)) w := by
   have hb' : fn.body.isNone = false := by cases hh : fn.body <;> simp_all
   have hp : (program).run P w = .ok P w := rfl
   have hc : ∀ xs, (callFunc f xs).run P w = .ok (.enter f xs) w := fun xs => by
    simp only [callFunc, Sem.run_bind, hp, Result.andThen, hfn, hn, hb', Bool.false_eq_true, if_false, Sem.run_pure]
   have hd : P.types.size + Made.depth = P.types.size + (Made.depth - 1) + 1 := by simp [Made.depth]
   have hext : (#[Value.iface t u] ++ args.map a.eval).extract 1 (#[Value.iface t u] ++ args.map a.eval).size = args.map a.eval := by
    apply Array.toList_inj.1
    simp only [Array.toList_extract, List.extract_eq_take_drop, Array.toList_append, Array.toList_map, Array.size_append, Array.size_map]
    simp only [List.cons_append, List.nil_append, List.drop_succ_cons, List.drop_zero]
    rw [List.take_of_length_le (by simp)]
   simp only [execOp, ho, resolve, Deferred.ofValue, e1, Sem.run_bind, Sem.run_pure, Result.andThen, invoke]
   simp only [Array.getElem?_append_left (show 0 < (#[Value.iface t u]).size by simp)]
   simp only [hext]
   simp [callMethod, hp, hd, hmeth, hc]
  refine ⟨fun _ _ => trivial, ?_⟩
  show Oper.uponIn _ _ _ _ _ _ _ ((o.semAt ro a.eval).run P w)
  rw [semAt_of hrun (by simp)]
  refine ⟨fun h => by simp [fw, Fence.wide] at h, ?_⟩
  have hall : VRs σ M (v :: args'.map (ev e)) (#[u] ++ args.map a.eval) := by
   have : #[u] ++ args.map a.eval = (u :: (args.map a.eval).toList).toArray := by apply Array.toList_inj.1; simp
   rw [this]
   exact VRs.cons hu (by rw [Array.toArray_toList]; exact h2)
  refine callsIn_fw ((hl.run σ M w _ hR hall).mono fun e' w' ⟨σ', M', h', hE, hR', hr⟩ => ?_)
  cases e' with
  | returned v' => obtain ⟨v, hv, hq⟩ := hr; exact hN σ' M' w' h' v v' hE hR' hv hq
  | panicked ch => obtain ⟨v, v', rfl, hv, hq⟩ := hr; exact hP σ' M' w' h' v v' hE hR' hv hq
  | outgrown => exact hr.elim
 rotate_left
 ·rename_i i hv
  have h1 := copd_ok hx hA
  rw [hv] at h1
  obtain ⟨L, hL, e1⟩ : ∃ L, σ i = some L ∧ a.eval x = .func (.yield L.b) #[] #[] := by
   generalize a.eval x = u at h1
   cases h1 with | yld _ L h => exact ⟨L, h, rfl⟩
  have h2 := copds_ok hargs hA
  have h3 : (args.toList.map a.eval).toArray = args.map a.eval := by rw [← Array.toList_map, Array.toArray_toList]
  rw [h3] at h2
  obtain ⟨fn, tmps, ca, cb, g1, g2⟩ := hl.run σ M w _ L hR h2 hL
  have hrun : (execOp a.eval o).run P w = .ok (.round L.b fn tmps ca cb) w := by
   simp [execOp, ho, resolve, Deferred.ofValue, e1, invoke, g1]
  refine ⟨fun _ _ => trivial, ?_⟩
  show Oper.uponIn _ _ _ _ _ _ _ ((o.semAt ro a.eval).run P w)
  rw [semAt_of hrun (by simp)]
  refine ⟨fun h => by simp [fw, Fence.wide] at h, ?_⟩
  refine roundIn_fw (g2.mono fun e' w' ⟨σ', M', h', v, v', hE, hR', he, hv, hq⟩ => ?_)
  subst he
  exact hN σ' M' w' h' v v' hE hR' hv hq
 rename_i f first cap hv
 obtain ⟨⟨fn, hf, hb, hn⟩, hl⟩ := hl
 have h1 := copd_ok hx hA
 rw [hv] at h1
 obtain ⟨f', c', e1, hfi, hca, _⟩ := h1.func_inv
 have h2 := copds_ok hargs hA
 have h3 : (args.toList.map a.eval).toArray = args.map a.eval := by rw [← Array.toList_map, Array.toArray_toList]
 rw [h3] at h2
 have hrun : (execOp a.eval o).run P w = .ok (.enter f (f' ++ args.map a.eval ++ c')) w := by
  have hb' : fn.body.isNone = false := by cases hh : fn.body <;> simp_all
  have hc : ∀ xs, (callFunc f xs).run P w = .ok (.enter f xs) w := fun xs => by
   have hp : (program).run P w = .ok P w := rfl
   simp only [callFunc, Sem.run_bind, hp, Result.andThen, hf, hn, hb', Bool.false_eq_true, if_false, Sem.run_pure]
  simp [execOp, ho, resolve, Deferred.ofValue, e1, invoke, hc]
 refine ⟨fun _ _ => trivial, ?_⟩
 show Oper.uponIn _ _ _ _ _ _ _ ((o.semAt ro a.eval).run P w)
 rw [semAt_of hrun (by simp)]
 refine ⟨fun h => by simp [fw, Fence.wide] at h, ?_⟩
 refine callsIn_fw ((hl.run σ M w _ hR ((hfi.append h2).append hca)).mono fun e' w' ⟨σ', M', h', hE, hR', hr⟩ => ?_)
 cases e' with
 | returned v' => obtain ⟨v, hv, hq⟩ := hr; exact hN σ' M' w' h' v v' hE hR' hv hq
 | panicked ch => obtain ⟨v, v', rfl, hv, hq⟩ := hr; exact hP σ' M' w' h' v v' hE hR' hv hq
 | outgrown => exact hr.elim
theorem op_pan {x : Operand} (ho : o.op = .panic x) {x' : AOpd} (hx : copd x = some x') (hR : R P σ M h w) (hA : ActR σ M e a) (hP : PanS P σ M w a X Qx) (hl : LOp P md (.pan x') e h next X) : o.wpIn (fw ro) 0 P a w nx Qx := by
 simp only [LOp] at hl
 split at hl <;> first | exact hl.elim | skip
 rename_i t v hv
 have h1 := copd_ok hx hA
 rw [hv] at h1
 obtain ⟨v', e1⟩ : ∃ v', a.eval x = .iface t v' := by
  generalize a.eval x = u at h1
  cases h1 with | ifc _ _ v' _ => exact ⟨v', rfl⟩
 have hrun : (execOp a.eval o).run P w = .halt (.panic (.iface t v')) w := by
  simp [execOp, ho, e1, Instr.panic, goPanic, Sem.run, Result.andThen]
 refine ⟨fun _ _ => trivial, ?_⟩
 show Oper.uponIn _ _ _ _ _ _ _ ((o.semAt ro a.eval).run P w)
 rw [Oper.semAt_eq _ _ _ (fun c hc => by rw [ho] at hc; cases hc), hrun]
 rw [e1] at h1
 exact hP σ M w h _ _ (.refl _ _ _) hR h1 hl
theorem op_appz {t u : TypeId} {s x : Operand} {ts : Array TypeId} (ho : o.op = .call { callee := .builtin .append, args := #[s, x], argTypes := ts }) (hts : ts = #[t, u]) {el : TypeId} {k : IntKind} {j : TypeInfo} {zv : Value} {z : List AV}
  (ht : P.underlying t = some (.slice el)) (hu : P.underlying u = some (.int k)) (hj : P.info? el = some j) (hz : j.zero = some zv) (hj0 : 0 < j.size) (hzs : zv.cells.size = j.size) (hzz : cvs zv.cells.toList = some z) {s' x' : AOpd}
  (hs : copd s = some s') (hx : copd x = some x') (hR : R P σ M h w) (hA : ActR σ M e a) (hN : NextS P σ M w a o.dst next nx) (hl : LOp P md (.appz el j.size j.bytes z s' x') e h next X) : o.wpIn (fw ro) 0 P a w nx Qx := by
 simp only [LOp] at hl
 split at hl <;> first | exact hl.elim | skip
 rename_i k' m hm
 obtain ⟨n, rfl, h1, h2, hl⟩ := hl
 have hx' := copd_ok hx hA
 rw [hm] at hx'
 have hxe := hx'.int_inv
 unfold capMax at h1 h2
 have hZ : VRs σ M z zv.cells := by have := cvs_ok (σ := σ) (M := M) hzz; simpa using this
 have hsem := appz_sem (P := P) (w := w) (t := t) (u := u) (ty := o.type) ht hu hj hj0 hz hzs h1 h2 k'
 obtain ⟨v', w', hrun, σ', M', h', v, hE, hR', hv, hn⟩ := app_core (es' := List.replicate n z) hR hj hj0 hzs (copd_ok hs hA) (by simpa using hsem) (zeros_VRs hZ n) hl
 refine wpIn_of_run (v' := v') (w' := w') ?_ (hN σ' M' w' h' v v' hE hR' hv hn)
 subst hts
 simp [execOp, ho, resolve, invoke, builtin, hxe, hrun]
theorem op_mkslice {t el : TypeId} {l c : Operand} (ho : o.op = .makeSlice t l c) {j : TypeInfo} {zv : Value} {z : List AV} (ht : P.underlying t = some (.slice el)) (hj : P.info? el = some j) (hz : j.zero = some zv) (hj0 : 0 < j.size) (hzs : zv.cells.size = j.size) (hzz : cvs zv.cells.toList = some z)
  {l' c' : AOpd} (hl' : copd l = some l') (hc' : copd c = some c') (hR : R P σ M h w) (hA : ActR σ M e a) (hN : NextS P σ M w a o.dst next nx) (hl : LOp P md (.mkslice el j.size j.bytes z l' c') e h next X) : o.wpIn (fw ro) 0 P a w nx Qx := by
 simp only [LOp] at hl
 split at hl <;> first | exact hl.elim | skip
 rename_i k1 x1 k2 x2 hm1 hm2
 obtain ⟨m, n, rfl, rfl, h1, h2, h3, hl⟩ := hl
 have hx1 := copd_ok hl' hA
 have hx2 := copd_ok hc' hA
 rw [hm1] at hx1; rw [hm2] at hx2
 unfold capMax at h2 h3
 have hw1 : IntKind.i64.wrap (m : Int) = m := IntWalk.i64_in _ ⟨by omega, by omega⟩
 have hw2 : IntKind.i64.wrap (n : Int) = n := IntWalk.i64_in _ ⟨by omega, by omega⟩
 have hb : ¬ ((281474976710656 : Int) < (j.bytes : Int) * (n : Int)) := by
  have : (j.bytes : Int) * (n : Int) = ((n * j.bytes : Nat) : Int) := by simp [Int.mul_comm]
  rw [this]; omega
 have hai : ∀ (k : IntKind) (x : Int) (w' : World), (asInt (.int k x)).run P w' = .ok x w' := fun k x w' => by simp [asInt, asIntOf]
 have hcond : ¬ (n : Int) < (m : Int) := by omega
 have hn0 : ¬ ((n : Int) < 0) := by omega
 have hm0 : ¬ ((m : Int) < 0) := by omega
 have hrm : ∀ w' : World, (askRoom (n * j.bytes)).run P w' = .ok () w' := fun w' => by unfold askRoom; split <;> rfl
 have hz00 : n * j.size = 0 → Builtin.zeroCells zv.cells n = #[] := fun h0 => by
  have : n = 0 := by rcases Nat.mul_eq_zero.1 h0 with h0 | h0 <;> omega
  subst this
  simp [Builtin.zeroCells]
 have hzr : ∀ w' : World, (zeroValue el).run P w' = .ok zv w' := fun w' => by simp [zeroValue, run_typeInfo' hj, hz]
 have hrun : (execOp a.eval o).run P w = .ok (.value (.slice (some ⟨w.heap.size, 0, none⟩) m n)) (w.alloc (.cells (Builtin.zeroCells zv.cells n) el)) := by
  by_cases h0 : n = 0
  ·subst h0
   have : m = 0 := by omega
   subst this
   simp [execOp, ho, Instr.makeSlice, run_underlying ht, run_typeInfo' hj, run_sizeOf' hj, hx1.int_inv, hx2.int_inv, hai, show IntKind.i64.wrap 0 = 0 by decide, newRow, Builtin.zeroCells, askRoom]
   have : Array.range 0 = #[] := by simp
   rw [this]; simp
  ·have h0' : ¬ j.size = 0 := by omega
   simp [execOp, ho, Instr.makeSlice, run_underlying ht, run_typeInfo' hj, run_sizeOf' hj, hx1.int_inv, hx2.int_inv, hai, hw1, hw2, hb, hcond, hn0, hm0, h0, h0', hrm, hzr, newRow, Builtin.zeroCells, hzs]
   intro hz0'; exact absurd (by rcases Nat.mul_eq_zero.1 hz0' with h | h <;> omega) h0
 have hZ : VRs σ M z zv.cells := by have := cvs_ok (σ := σ) (M := M) hzz; simpa using this
 have hzl : z.length = j.size := by rw [← hZ.1, hzs]
 obtain ⟨i, hi, hin⟩ := hR.fresh hl
 have hall : ∀ cs ∈ List.replicate n z, cs.length = j.size := fun cs hcs => by rw [(List.mem_replicate.1 hcs).2]; exact hzl
 have hN' := hR.newRow hi hj hall (A := Builtin.zeroCells zv.cells n) (rest := #[]) (zeros_VRs hZ n)
 simp only [Array.append_empty] at hN'
 refine wpIn_of_run hrun (hN _ M _ _ (.slc i 0 m (some n)) _ (Ext.alloc hi) hN' ?_ hin)
 exact .slc i 0 m (some n) _ _ n (Emb.set_same _ _ _) (fun _ => by simp) h1 (fun _ h => by cases h; rfl) (fun h => by cases h)
theorem op_clr {t el : TypeId} {x : Operand} {ts : Array TypeId} (ho : o.op = .call { callee := .builtin .clear, args := #[x], argTypes := ts }) (h0 : ts[0]? = some t) {j : TypeInfo} {zv : Value} {z : List AV} (ht : P.underlying t = some (.slice el)) (hj : P.info? el = some j)
  (hz : j.zero = some zv) (hj0 : 0 < j.size) (hzs : zv.cells.size = j.size) (hzz : cvs zv.cells.toList = some z)
  {x' : AOpd} (hx : copd x = some x') (hR : R P σ M h w) (hA : ActR σ M e a) (hN : NextS P σ M w a o.dst next nx) (hl : LOp P md (.clr el z x') e h next X) : o.wpIn (fw ro) 0 P a w nx Qx := by
 have fin : ∀ w1, (Builtin.clear_ ts o.type #[a.eval x]).run P w = .ok (.tuple #[]) w1 → (execOp a.eval o).run P w = .ok (.value (.tuple #[])) w1 := fun w1 hr => by
  simp [execOp, ho, resolve, invoke, builtin, hr]
 have zero : ∀ (ad : Option Addr) (c : Nat), a.eval x = .slice ad 0 c → next (.tup []) h → o.wpIn (fw ro) 0 P a w nx Qx := fun ad c he hn => by
  refine wpIn_of_run (fin w ?_) (hN σ M w h _ _ (.refl _ _ _) hR (VR.tup' .nil) hn)
  cases ad <;> simp [Builtin.clear_, h0, run_underlying ht, he]
 simp only [LOp] at hl
 split at hl <;> first | exact hl.elim | skip
 all_goals
  rename_i hs
  have hv := copd_ok hx hA
  rw [hs] at hv
 ·rename_i b k n c
  obtain ⟨es, hb, hkn, hfl, hn⟩ := hl
  obtain ⟨L, ad, c', he, hL, had, hnc, _, _⟩ := hv.slc_inv
  by_cases hn0 : n = 0
  ·subst hn0
   refine zero _ c' he ?_
   have : h.set b (.row el (es.take k ++ List.replicate 0 z ++ es.drop (k + 0))) = h := by
    exact hR.set_eq hL (by simp [hb])
   rw [this] at hn; exact hn
  ·have hZ : VRs σ M z zv.cells := by have := cvs_ok (σ := σ) (M := M) hzz; simpa using this
   have hzl : z.length = j.size := by rw [← hZ.1, hzs]
   obtain ⟨w1, g1, g2, g3⟩ := hR.storeEls (es' := List.replicate n z) hj hb hL (by simpa using hkn) (fun cs hcs => by rw [(List.mem_replicate.1 hcs).2]; exact hzl) (new := Builtin.zeroCells zv.cells n)
    (by rw [size_zeroCells, hzs]; simp) (zeros_VRs hZ n) (fun cs hcs => by rw [(List.mem_replicate.1 hcs).2]; exact hfl)
   have hzr : ∀ w' : World, (zeroValue el).run P w' = .ok zv w' := fun w' => by simp [zeroValue, run_typeInfo' hj, hz]
   refine wpIn_of_run (fin w1 ?_) (hN σ M w1 _ _ _ g3 g2 (VR.tup' .nil) (by simpa using hn))
   obtain ⟨n', rfl⟩ : ∃ n', n = n' + 1 := ⟨n - 1, by omega⟩
   simp [Builtin.clear_, h0, run_underlying ht, he, hzr, had (by omega), g1]
 ·exact zero _ _ hv.nils_inv hl
 ·obtain ⟨ad, he⟩ := hv.emp_inv; exact zero _ _ he hl
 ·obtain ⟨rfl, hn⟩ := hl
  obtain ⟨ad, c, he⟩ := hv.isl_len
  exact zero _ _ he hn
end
end Go.L

namespace Go.L
def keyOf1 (d : TypeDesc) : AV → Bool
 | .str _ => match d with | .string => true | _ => false
 | .int _ _ => match d with | .int _ => true | _ => false
 | .bool _ => match d with | .bool => true | _ => false
 | _ => false
def kc : TypeDesc → Option Nat
 | .string => some 0
 | .int _ => some 1
 | .bool => some 2
 | _ => none
def mkOf (P : Program) (t : TypeId) (d : TypeDesc) : Option MK :=
 match d with
 | .string => some .s
 | .int _ => some .i
 | .bool => some .b
 | .struct fs => match fs.toList with
  | [f, g] => match P.underlying f.type, P.underlying g.type with
   | some d1, some d2 => match kc d1, kc d2 with
    | some x, some y => match (Nat.beq f.offset 0 && Nat.beq g.offset 1) && ((f.name != "_" && g.name != "_") && !(P.stoodInHeld t)) with
     | true => some (.a x y)
     | false => none
    | _, _ => none
   | _, _ => none
  | _ => none
 | _ => none
structure KeyS (P : Program) (t : TypeId) (d : TypeDesc) (k : AV) (f g : Field) (d1 d2 : TypeDesc) (p q : AV) : Prop where
 d : d = .struct #[f, g]
 t1 : P.underlying f.type = some d1
 t2 : P.underlying g.type = some d2
 o1 : f.offset = 0
 o2 : g.offset = 1
 n1 : f.name ≠ "_"
 n2 : g.name ≠ "_"
 s : P.stoodInHeld t = false
 k : k = .agg [p, q]
 k1 : keyOf1 d1 p = true
 k2 : keyOf1 d2 q = true
def keyOf (P : Program) (t : TypeId) (d : TypeDesc) (k : AV) : Prop := keyOf1 d k = true ∨ ∃ f g d1 d2 p q, KeyS P t d k f g d1 d2 p q
theorem kc_ok {d : TypeDesc} {x : Nat} {k : AV} (hd : kc d = some x) (hk : keyC x k = true) : keyOf1 d k = true := by
 unfold kc at hd
 split at hd <;> cases hd <;> (cases k <;> first | rfl | (exact absurd hk (by simp [keyC])))
theorem keyM_ok {P : Program} {t : TypeId} {d : TypeDesc} {m : MK} {k : AV} (hd : mkOf P t d = some m) (hk : keyM m k = true) : keyOf P t d k := by
 unfold mkOf at hd
 split at hd <;> first | cases hd | skip
 ·exact .inl (by cases k <;> first | rfl | (exact absurd hk (by simp [keyM])))
 ·exact .inl (by cases k <;> first | rfl | (exact absurd hk (by simp [keyM])))
 ·exact .inl (by cases k <;> first | rfl | (exact absurd hk (by simp [keyM])))
 ·rename_i fs
  split at hd <;> first | cases hd | skip
  rename_i f g hfs
  split at hd <;> first | cases hd | skip
  rename_i d1 d2 h1 h2
  split at hd <;> first | cases hd | skip
  rename_i x y h3 h4
  split at hd <;> cases hd
  rename_i hc
  simp only [Bool.and_eq_true, bne_iff_ne, ne_eq, Bool.not_eq_true'] at hc
  simp only [keyM] at hk
  split at hk <;> first | cases hk | skip
  rename_i p q
  simp only [Bool.and_eq_true] at hk
  exact .inr ⟨f, g, d1, d2, p, q, by rw [← Array.toArray_toList (xs := fs), hfs], h1, h2, Nat.eq_of_beq_eq_true hc.1.1, Nat.eq_of_beq_eq_true hc.1.2, hc.2.1.1, hc.2.1.2, hc.2.2, rfl, kc_ok h3 hk.1, kc_ok h4 hk.2⟩
section
variable {P : Program} {σ σ' : Emb} {M M' : Mem} {h : Hp} {w w' : World}
structure EntR (σ : Emb) (M : Mem) (x : AV × AV × Nat) (e : MapEntry) : Prop where
 k : VR σ M x.1 e.key
 v : VR σ M x.2.1 e.val
 n : e.born = x.2.2
inductive EntsR (σ : Emb) (M : Mem) : MapL → List MapEntry → Prop
 | nil : EntsR σ M [] []
 | cons {x : AV × AV × Nat} {e : MapEntry} {l : MapL} {m : List MapEntry} (h : EntR σ M x e) (t : EntsR σ M l m) : EntsR σ M (x :: l) (e :: m)
theorem EntsR.len {l : MapL} {m : List MapEntry} (h : EntsR σ M l m) : m.length = l.length := by
 induction h with
 | nil => rfl
 | cons _ _ ih => simp [ih]
theorem EntsR.get {l : MapL} {m : List MapEntry} (h : EntsR σ M l m) : ∀ (j : Nat) (k v : AV) (n : Nat), l[j]? = some (k, v, n) → ∃ e, m[j]? = some e ∧ VR σ M k e.key ∧ VR σ M v e.val ∧ e.born = n := by
 induction h with
 | nil => intro j k v n hj; simp at hj
 | cons hx _ ih =>
  intro j k v n hj
  cases j with
  | zero => simp at hj; subst hj; exact ⟨_, rfl, hx.k, hx.v, hx.n⟩
  | succ j => exact ih j k v n (by simpa using hj)
theorem EntsR.of : ∀ {l : MapL} {m : List MapEntry}, m.length = l.length → (∀ (j : Nat) (k v : AV) (n : Nat), l[j]? = some (k, v, n) → ∃ e, m[j]? = some e ∧ VR σ M k e.key ∧ VR σ M v e.val ∧ e.born = n) → EntsR σ M l m
 | [], [], _, _ => .nil
 | x :: l, [], h, _ => by simp at h
 | [], e :: m, h, _ => by simp at h
 | x :: l, e :: m, h, hg => by
  obtain ⟨e', h1, h2, h3, h4⟩ := hg 0 x.1 x.2.1 x.2.2 rfl
  simp at h1; subst h1
  exact .cons ⟨h2, h3, h4⟩ (EntsR.of (by simpa using h) fun j k v n hj => hg (j + 1) k v n (by simpa using hj))
theorem sameK1_ok {k x : AV} {k' x' : Value} {b : Bool} (hb : sameK1 k x = some b) (hk : VR σ M k k') (hx : VR σ M x x') {d : TypeDesc} (hd : keyOf1 d k = true) : Instr.sameNow d k' x' = some b := by
 unfold sameK1 at hb
 split at hb
 ·obtain ⟨s, rfl, rfl⟩ := hk.str_inv
  obtain ⟨t, rfl, rfl⟩ := hx.str_inv
  cases d <;> simp only [keyOf1] at hd <;> first | cases hd | skip
  cases hb
  simp [Instr.sameNow]
  first | rfl | (rw [Bool.eq_iff_iff]; simp [ByteArray.ext_iff])
 ·rename_i k1 a k2 b1
  cases hik : ikeq k1 k2 with
  | false => rw [hik] at hb; cases hb
  | true =>
   obtain rfl := ikeq_ok hik
   rw [hik] at hb; cases hb
   rw [hk.int_inv, hx.int_inv]
   cases d <;> simp only [keyOf1] at hd <;> first | cases hd | skip
   simp [Instr.sameNow]
 ·rw [hk.bool_inv, hx.bool_inv]
  cases d <;> simp only [keyOf1] at hd <;> first | cases hd | skip
  cases hb
  simp [Instr.sameNow]
 ·cases hb
theorem sameK_base {k x : AV} {d : TypeDesc} (hd : keyOf1 d k = true) : sameK k x = sameK1 k x := by
 cases k <;> first | rfl | (simp [keyOf1] at hd)
theorem findNow_ok {k : AV} {k' : Value} (hk : VR σ M k k') {d : TypeDesc} (hd : keyOf1 d k = true) : ∀ {es : MapL} {m : List MapEntry}, EntsR σ M es m → KeysLike k es → ∀ i,
  (midx k es = none ∧ mget k es = none ∧ Instr.findNow d k' m i = some none) ∨ (∃ j v v', midx k es = some j ∧ mget k es = some v ∧ VR σ M v v' ∧ Instr.findNow d k' m i = some (some (i + j, v'))) := by
 intro es m h
 induction h with
 | nil => intro _ i; exact .inl ⟨rfl, rfl, rfl⟩
 | @cons x e l m hx _ ih =>
  intro hl i
  obtain ⟨b, hb⟩ := Option.isSome_iff_exists.1 (hl x List.mem_cons_self)
  have hs := sameK1_ok (by rw [← sameK_base hd]; exact hb) hk hx.k hd
  cases b with
  | true => exact .inr ⟨0, _, _, by simp [midx, hb], by simp [mget, hb], hx.v, by simp [Instr.findNow, hs]⟩
  | false =>
   rcases ih (fun y hy => hl y (List.mem_cons_of_mem _ hy)) (i + 1) with ⟨h1, h2, h3⟩ | ⟨j, v, v', h1, h2, h3, h4⟩
   ·exact .inl ⟨by simp [midx, hb, h1], by simp [mget, hb, h2], by simp [Instr.findNow, hs, h3]⟩
   ·exact .inr ⟨j + 1, v, v', by simp [midx, hb, h1], by simp [mget, hb, h2], h3, by simp [Instr.findNow, hs, h4]; omega⟩
theorem keyOf_D {d : TypeDesc} {k : AV} (h : keyOf1 d k = true) : (d = .string ∨ (∃ i, d = .int i) ∨ d = .bool) := by
 unfold keyOf1 at h
 split at h <;> first | cases h | skip
 ·split at h <;> first | exact .inl rfl | cases h
 ·split at h <;> first | exact .inr (.inl ⟨_, rfl⟩) | cases h
 ·split at h <;> first | exact .inr (.inr rfl) | cases h
theorem keyOf_agg {d : TypeDesc} {k : AV} (h : keyOf1 d k = true) : isAggD d = false := by
 rcases keyOf_D h with rfl | ⟨i, rfl⟩ | rfl <;> rfl
theorem run_part1 {t : TypeId} {d : TypeDesc} (ht : P.underlying t = some d) {k : AV} (hd : keyOf1 d k = true) {cs : Array Value} {j : Nat} {v : Value} (hv : cs[j]? = some v) (w : World) : (part t cs j).run P w = .ok v w := by
 simp only [part, Sem.run_bind, run_isAgg ht, Result.andThen, keyOf_agg hd, hv, Sem.run_pure, Bool.false_eq_true, if_false]
theorem run_equalIn1 {t : TypeId} {d : TypeDesc} (ht : P.underlying t = some d) {k x : AV} (hd : keyOf1 d k = true) {b : Bool} (hb : sameK1 k x = some b) {k' x' : Value} (hk : VR σ M k k') (hx : VR σ M x x') (n : Nat) (w : World) : (Op.equalIn (n + 1) t k' x').run P w = .ok b w := by
 unfold sameK1 at hb
 split at hb
 ·obtain ⟨s, rfl, rfl⟩ := hk.str_inv
  obtain ⟨t, rfl, rfl⟩ := hx.str_inv
  cases d <;> simp only [keyOf1] at hd <;> first | cases hd | skip
  have h1 : Instr.sameNow .string (.string s) (.string t) = some b := sameK1_ok (d := .string) (show sameK1 (.str s.data.toList) (.str t.data.toList) = some b from hb) hk hx rfl
  have h2 : (s == t) = b := Option.some.inj h1
  simp only [Op.equalIn, Sem.run_bind, run_underlying ht, Result.andThen, Sem.run_pure, h2]
 ·rename_i k1 a k2 b1
  cases hik : ikeq k1 k2 with
  | false => rw [hik] at hb; cases hb
  | true =>
   obtain rfl := ikeq_ok hik
   rw [hik] at hb; cases hb
   rw [hk.int_inv, hx.int_inv]
   cases d <;> simp only [keyOf1] at hd <;> first | cases hd | skip
   simp [Op.equalIn, run_underlying ht]
 ·rw [hk.bool_inv, hx.bool_inv]
  cases d <;> simp only [keyOf1] at hd <;> first | cases hd | skip
  cases hb
  simp [Op.equalIn, run_underlying ht]
 ·cases hb
theorem run_checkKey1 {t : TypeId} {d : TypeDesc} (ht : P.underlying t = some d) {k : AV} (hd : keyOf1 d k = true) (b : Bool) (n : Nat) (v : Value) (w : World) : (Instr.checkKey b (n + 1) t v).run P w = .ok () w := by
 rcases keyOf_D hd with rfl | ⟨i, rfl⟩ | rfl <;> simp [Instr.checkKey, run_underlying ht]
theorem agg2_inv {p q : AV} {v : Value} (hv : VR σ M (.agg [p, q]) v) : ∃ p' q', v = .agg #[p', q'] ∧ VR σ M p p' ∧ VR σ M q q' := by
 obtain ⟨a, rfl, ha⟩ := hv.agg_inv
 obtain ⟨p', h1, h2⟩ := ha.2 0 p rfl
 obtain ⟨q', h3, h4⟩ := ha.2 1 q rfl
 refine ⟨p', q', ?_, h2, h4⟩
 have hs := ha.1
 congr 1
 refine Array.ext (by simpa using hs) fun i h5 h6 => ?_
 have : i = 0 ∨ i = 1 := by simp at h6; omega
 rcases this with rfl | rfl
 ·simpa using (Array.getElem?_eq_some_iff.1 h1).2
 ·simpa using (Array.getElem?_eq_some_iff.1 h3).2
theorem run_checkKey {t : TypeId} {d : TypeDesc} (ht : P.underlying t = some d) {k : AV} {v : Value} (hd : keyOf P t d k) (hv : VR σ M k v) (b : Bool) (w : World) : (Instr.checkKey b 10000 t v).run P w = .ok () w := by
 rcases hd with hd | ⟨f, g, d1, d2, p, q, hs⟩
 ·exact run_checkKey1 ht hd b 9999 v w
 ·obtain ⟨rfl, t1, t2, o1, o2, n1, n2, s, rfl, k1, k2⟩ := hs
  obtain ⟨p', q', rfl, hp, hq⟩ := agg2_inv hv
  have c1 := run_checkKey1 t1 k1 b 9998 p' w
  have c2 := run_checkKey1 t2 k2 b 9998 q' w
  have e1 := run_part1 (cs := #[p', q']) (j := 0) t1 k1 rfl w
  have e2 := run_part1 (cs := #[p', q']) (j := 1) t2 k2 rfl w
  show (Instr.checkKey b (9998 + 1 + 1) t (.agg #[p', q'])).run P w = .ok () w
  generalize 9998 + 1 = N at c1 c2 ⊢
  have l1 : #[p', q'][0] = p' := rfl
  have l2 : #[p', q'][1] = q' := rfl
  rw [l1] at e1; rw [l2] at e2
  simp [Instr.checkKey, run_underlying ht, n1, n2, o1, o2, e1, e2, c1, c2]
theorem run_equalS {t : TypeId} {d : TypeDesc} (ht : P.underlying t = some d) {k x : AV} {k' x' : Value} {f g : Field} {d1 d2 : TypeDesc} {p q : AV} (hs : KeyS P t d k f g d1 d2 p q) (hk : VR σ M k k') (hx : VR σ M x x') {b : Bool} (hb : sameK k x = some b) (w : World) :
  (Op.equal t k' x').run P w = .ok b w := by
 obtain ⟨rfl, t1, t2, o1, o2, n1, n2, s, rfl, k1, k2⟩ := hs
 obtain ⟨p', q', rfl, hp, hq⟩ := agg2_inv hk
 unfold sameK at hb
 split at hb
 ·rename_i a b' c' d' heq
  cases heq
  split at hb <;> cases hb
  rename_i u y h1 h2
  obtain ⟨x1, x2, rfl, hx1, hx2⟩ := agg2_inv hx
  have c1 := run_equalIn1 t1 k1 h1 hp hx1 9998 w
  have c2 := run_equalIn1 t2 k2 h2 hq hx2 9998 w
  have e1 := run_part1 (cs := #[p', q']) (j := 0) t1 k1 rfl w
  have e2 := run_part1 (cs := #[p', q']) (j := 1) t2 k2 rfl w
  have e3 := run_part1 (cs := #[x1, x2]) (j := 0) t1 k1 rfl w
  have e4 := run_part1 (cs := #[x1, x2]) (j := 1) t2 k2 rfl w
  have hp : (program).run P w = .ok P w := rfl
  show (Op.equalIn (9998 + 1 + 1) t _ _).run P w = _
  generalize 9998 + 1 = N at c1 c2 ⊢
  have l1 : #[p', q'][0] = p' := rfl
  have l2 : #[p', q'][1] = q' := rfl
  have l3 : #[x1, x2][0] = x1 := rfl
  have l4 : #[x1, x2][1] = x2 := rfl
  rw [l1] at e1; rw [l2] at e2; rw [l3] at e3; rw [l4] at e4
  cases u <;> cases y <;> simp [Op.equalIn, run_underlying ht, hp, s, n1, n2, o1, o2, e1, e2, e3, e4, c1, c2]
 ·rename_i h1
  cases hb
theorem findAsking_ok {t : TypeId} {d : TypeDesc} (ht : P.underlying t = some d) {k : AV} {k' : Value} {f g : Field} {d1 d2 : TypeDesc} {p q : AV} (hs : KeyS P t d k f g d1 d2 p q) (hk : VR σ M k k') (w : World) : ∀ {es : MapL} {m : List MapEntry}, EntsR σ M es m → KeysLike k es → ∀ i,
  (midx k es = none ∧ mget k es = none ∧ (Instr.findAsking t k' m i).run P w = .ok none w) ∨ (∃ j v v', midx k es = some j ∧ mget k es = some v ∧ VR σ M v v' ∧ (Instr.findAsking t k' m i).run P w = .ok (some (i + j, v')) w) := by
 intro es m h
 induction h with
 | nil => intro _ i; exact .inl ⟨rfl, rfl, by simp [Instr.findAsking]⟩
 | @cons x e l m hx _ ih =>
  intro hl i
  obtain ⟨b, hb⟩ := Option.isSome_iff_exists.1 (hl x List.mem_cons_self)
  have hs := run_equalS ht hs hk hx.k hb w
  cases b with
  | true => exact .inr ⟨0, _, _, by simp [midx, hb], by simp [mget, hb], hx.v, by simp [Instr.findAsking, hs]⟩
  | false =>
   rcases ih (fun y hy => hl y (List.mem_cons_of_mem _ hy)) (i + 1) with ⟨h1, h2, h3⟩ | ⟨j, v, v', h1, h2, h3, h4⟩
   ·exact .inl ⟨by simp [midx, hb, h1], by simp [mget, hb, h2], by simp [Instr.findAsking, hs, h3]⟩
   ·exact .inr ⟨j + 1, v, v', by simp [midx, hb, h1], by simp [mget, hb, h2], h3, by simp [Instr.findAsking, hs, h4]; omega⟩
theorem run_findKey {t : TypeId} {d : TypeDesc} (ht : P.underlying t = some d) {k : AV} {k' : Value} (hk : VR σ M k k') (hd : keyOf P t d k) {es : MapL} {m : List MapEntry} (he : EntsR σ M es m) (hl : KeysLike k es) (w : World) :
  (midx k es = none ∧ mget k es = none ∧ (Instr.findKey t k' m).run P w = .ok none w) ∨ (∃ j v v', midx k es = some j ∧ mget k es = some v ∧ VR σ M v v' ∧ (Instr.findKey t k' m).run P w = .ok (some (j, v')) w) := by
 rcases hd with hd | ⟨f, g, d1, d2, p, q, hs⟩
 ·rcases findNow_ok hk hd he hl 0 with ⟨h1, h2, h3⟩ | ⟨j, v, v', h1, h2, h3, h4⟩
  ·exact .inl ⟨h1, h2, by simp [Instr.findKey, run_underlying ht, h3]⟩
  ·exact .inr ⟨j, v, v', h1, h2, h3, by simp [Instr.findKey, run_underlying ht, h4]⟩
 ·cases he with
  | nil => exact .inl ⟨rfl, rfl, by simp [Instr.findKey, run_underlying ht, Instr.findNow]⟩
  | cons hx he2 =>
   have hnow : ∀ e l, Instr.findNow d k' (e :: l) 0 = none := fun e l => by
    have := hs.d; subst this; simp [Instr.findNow, Instr.sameNow]
   rcases findAsking_ok ht hs hk w (.cons hx he2) hl 0 with ⟨h1, h2, h3⟩ | ⟨j, v, v', h1, h2, h3, h4⟩
   ·exact .inl ⟨h1, h2, by simp [Instr.findKey, run_underlying ht, hnow, h3]⟩
   ·exact .inr ⟨j, v, v', h1, h2, h3, by simp [Instr.findKey, run_underlying ht, hnow, h4]⟩
theorem R.mapAt (hR : R P σ M h w) {i : Nat} {es : MapL} {c : Nat} {L : Loc} (hi : h i = some (.map es c)) (hL : σ i = some L) : ∃ m : Array MapEntry, w.heap[L.b]? = some (.map m c) ∧ EntsR σ M es m.toList := by
 obtain ⟨m, h1, h2, h3⟩ := hR.blk i _ L hi hL
 refine ⟨m, h1, EntsR.of (by simpa using h2) fun j k v n hj => ?_⟩
 obtain ⟨e, e1, e2⟩ := h3 j k v n hj
 exact ⟨e, by simpa using e1, e2⟩
theorem BlkR.ofEnts {L : Loc} {es : MapL} {c : Nat} {m : Array MapEntry} (hb : w.heap[L.b]? = some (.map m c)) (he : EntsR σ M es m.toList) : BlkR P σ M w L (.map es c) := by
 refine ⟨m, hb, by simpa using he.len, fun j k v n hj => ?_⟩
 obtain ⟨e, e1, e2⟩ := he.get j k v n hj
 exact ⟨e, by simpa using e1, e2⟩
theorem VR.map_inv {i : Nat} {v : Value} (hv : VR σ M (.map i) v) : ∃ L, σ i = some L ∧ v = .map (some L.b) := by
 cases hv with | map _ L h => exact ⟨L, h, rfl⟩
theorem run_lookup (hR : R P σ M h w) {T kt et : TypeId} {d : TypeDesc} {zi : TypeInfo} {zv : Value} {z : AV} (hT : P.underlying T = some (.map kt et)) (hkt : P.underlying kt = some d) (hz : P.info? et = some zi) (hzv : zi.zero = some zv) (hzz : VR σ M z zv)
  {i : Nat} {es : MapL} {c : Nat} {x k' : Value} {k : AV} (hi : h i = some (.map es c)) (hx : VR σ M (.map i) x) (hk : VR σ M k k') (hd : keyOf P kt d k) (hl : KeysLike k es) (ok : Bool) :
  ∃ v', VR σ M (cond ok (.tup [(mget k es).getD z, .bool (mget k es).isSome]) ((mget k es).getD z)) v' ∧ (Instr.lookup T x k' ok).run P w = .ok v' w := by
 obtain ⟨L, hL, rfl⟩ := hx.map_inv
 obtain ⟨m, hm, he⟩ := hR.mapAt hi hL
 have hg : (getObj L.b).run P w = .ok (.map m c) w := by simp [getObj, Sem.run, hm]
 have hc := run_checkKey (P := P) hkt hd hk m.isEmpty w
 rcases run_findKey (P := P) hkt hk hd he hl w with ⟨h1, h2, h3⟩ | ⟨j, v, v', h1, h2, h3, h4⟩
 ·refine ⟨if ok then .tuple #[zv, .bool false] else zv, ?_, ?_⟩
  ·rw [h2]
   cases ok with
   | true => exact VR.tup' (VRs.cons hzz (VRs.cons (.bool _) .nil))
   | false => exact hzz
  ·cases ok <;> simp [Instr.lookup, run_underlying hT, hg, hc, h3, zeroValue, run_typeInfo' hz, hzv]
 ·refine ⟨if ok then .tuple #[v', .bool true] else v', ?_, ?_⟩
  ·rw [h2]
   cases ok with
   | true => exact VR.tup' (VRs.cons h3 (VRs.cons (.bool _) .nil))
   | false => exact h3
  ·cases ok <;> simp [Instr.lookup, run_underlying hT, hg, hc, h4]
theorem run_lookup_nil {T kt et : TypeId} {d : TypeDesc} {zi : TypeInfo} {zv : Value} {z : AV} (hT : P.underlying T = some (.map kt et)) (hkt : P.underlying kt = some d) (hz : P.info? et = some zi) (hzv : zi.zero = some zv) (hzz : VR σ M z zv)
  {k' : Value} {k : AV} (hd : keyOf P kt d k) (hk : VR σ M k k') (ok : Bool) :
  ∃ v', VR σ M (cond ok (.tup [z, .bool false]) z) v' ∧ (Instr.lookup T (.map none) k' ok).run P w = .ok v' w := by
 have hc := run_checkKey (P := P) hkt hd hk true w
 have hf : (Instr.findKey kt k' []).run P w = .ok none w := by simp [Instr.findKey, run_underlying hkt, Instr.findNow]
 refine ⟨if ok then .tuple #[zv, .bool false] else zv, ?_, ?_⟩
 ·cases ok with
  | true => exact VR.tup' (VRs.cons hzz (VRs.cons (.bool _) .nil))
  | false => exact hzz
 ·cases ok <;> simp [Instr.lookup, run_underlying hT, hc, hf, zeroValue, run_typeInfo' hz, hzv]
theorem sameBits1_ok {k x : AV} {k' x' : Value} (hb : sameK1 k x = some true) (hk : VR σ M k k') (hx : VR σ M x x') (n : Nat) : Instr.sameBits n x' k' = true := by
 unfold sameK1 at hb
 split at hb
 ·obtain ⟨s, rfl, rfl⟩ := hk.str_inv
  obtain ⟨t, rfl, rfl⟩ := hx.str_inv
  have h1 : s.data.toList = t.data.toList := by simpa using hb
  have h2 : s = t := by cases s; cases t; simp at h1; subst h1; rfl
  subst h2
  have hss : (s == s) = true := by first | exact beq_self_eq_true s | (show (s.data == s.data) = true; simp)
  cases n <;> simp [Instr.sameBits, hss]
 ·rename_i k1 a k2 b1
  cases hik : ikeq k1 k2 with
  | false => rw [hik] at hb; cases hb
  | true =>
   obtain rfl := ikeq_ok hik
   rw [hik] at hb
   have h1 : a = b1 := by simpa using hb
   subst h1
   rw [hk.int_inv, hx.int_inv]
   cases n <;> simp [Instr.sameBits]
 ·have h1 := hb
  rw [hk.bool_inv, hx.bool_inv]
  simp at h1
  subst h1
  cases n <;> simp [Instr.sameBits]
 ·cases hb
theorem sameBits_ok {k x : AV} {k' x' : Value} (hb : sameK k x = some true) (hk : VR σ M k k') (hx : VR σ M x x') (n : Nat) : Instr.sameBits (n + 1) x' k' = true := by
 unfold sameK at hb
 split at hb
 ·split at hb <;> first | cases hb | skip
  rename_i u y h1 h2
  have huy : (u && y) = true := Option.some.inj hb
  obtain ⟨p', q', rfl, hp, hq⟩ := agg2_inv hk
  obtain ⟨x1, x2, rfl, hx1, hx2⟩ := agg2_inv hx
  simp only [Bool.and_eq_true] at huy
  obtain ⟨rfl, rfl⟩ := huy
  simp [Instr.sameBits, sameBits1_ok h1 hp hx1, sameBits1_ok h2 hq hx2]
 ·exact sameBits1_ok hb hk hx _
theorem midx_get {k : AV} : ∀ {es : MapL} {j : Nat}, midx k es = some j → ∃ x, es[j]? = some x ∧ sameK k x.1 = some true := by
 intro es
 induction es with
 | nil => intro j h; cases h
 | cons x es ih =>
  intro j h
  unfold midx at h
  split at h
  ·rename_i hs; cases h; exact ⟨x, rfl, hs⟩
  ·obtain ⟨j', h1, rfl⟩ := Option.map_some_inv h
   obtain ⟨y, h2, h3⟩ := ih h1
   exact ⟨y, by simpa using h2, h3⟩
theorem mmod_ok {k v : AV} {k' v' : Value} (hk : VR σ M k k') (hv : VR σ M v v') : ∀ {es : MapL} {m : List MapEntry} {j : Nat}, EntsR σ M es m → midx k es = some j → EntsR σ M (mmod k v es) (m.modify j fun e => { e with key := k', val := v' }) := by
 intro es m j h
 induction h generalizing j with
 | nil => intro h; cases h
 | @cons x e l m hx ht ih =>
  intro hj
  unfold midx at hj
  unfold mmod
  split at hj
  ·rename_i hs
   cases hj
   simp only [hs, List.modify_cons, if_pos]
   exact .cons ⟨hk, hv, hx.n⟩ ht
  ·rename_i hs
   obtain ⟨j', h1, rfl⟩ := Option.map_some_inv hj
   rw [List.modify_succ_cons]
   exact .cons hx (ih h1)
theorem EntsR.snoc {l : MapL} {m : List MapEntry} (h : EntsR σ M l m) {x : AV × AV × Nat} {e : MapEntry} (hx : EntR σ M x e) : EntsR σ M (l ++ [x]) (m ++ [e]) := by
 induction h with
 | nil => exact .cons hx .nil
 | cons hy _ ih => exact .cons hy ih
theorem run_mapUpdate (hR : R P σ M h w) {T kt et : TypeId} {d : TypeDesc} (hT : P.underlying T = some (.map kt et)) (hkt : P.underlying kt = some d)
  {i : Nat} {es : MapL} {c : Nat} {x k' v' : Value} {k v : AV} (hi : h i = some (.map es c)) (hx : VR σ M (.map i) x) (hk : VR σ M k k') (hv : VR σ M v v') (hd : keyOf P kt d k) (hl : KeysLike k es) :
  ∃ w', (Instr.mapUpdate T x k' v').run P w = .ok () w' ∧ Ext σ M w σ M w' ∧ R P σ M (h.set i (match mget k es with | some _ => .map (mmod k v es) c | none => .map (es ++ [(k, v, c)]) (c + 1))) w' := by
 obtain ⟨L, hL, rfl⟩ := hx.map_inv
 obtain ⟨m, hm, he⟩ := hR.mapAt hi hL
 have hlt := hR.placed hi hL
 have hg : (getObj L.b).run P w = .ok (.map m c) w := by simp [getObj, Sem.run, hm]
 have hs : ∀ o, (setObj L.b o).run P w = .ok () { w with heap := w.heap.setIfInBounds L.b o } := fun o => by simp [setObj, Sem.run, hm]
 have hc := run_checkKey (P := P) hkt hd hk false w
 have at_ : ∀ o, ({ w with heap := w.heap.setIfInBounds L.b o } : World).heap[L.b]? = some o := fun o => by simp [hlt]
 have oth : ∀ o B, B ≠ L.b → ({ w with heap := w.heap.setIfInBounds L.b o } : World).heap[B]? = w.heap[B]? := fun o B hB => by
  simp [Array.getElem?_setIfInBounds, Ne.symm hB]
 have ext : ∀ o, Ext σ M w σ M { w with heap := w.heap.setIfInBounds L.b o } := fun o => ⟨σ.le_refl, M.le_refl, by simp, rfl, rfl, rfl⟩
 rcases run_findKey (P := P) hkt hk hd he hl w with ⟨h1, h2, h3⟩ | ⟨j, u, u', h1, h2, h3, h4⟩
 ·refine ⟨_, ?_, ext (.map (m.push { key := k', val := v', born := c }) (c + 1)), ?_⟩
  ·simp [Instr.mapUpdate, run_underlying hT, hg, hc, h3, hs]
  ·rw [h2]
   refine hR.upd hi hL (oth _) (BlkR.ofEnts (at_ _) ?_)
   rw [Array.toList_push]
   exact he.snoc ⟨hk, hv, rfl⟩
 ·obtain ⟨y, hy, hys⟩ := midx_get h1
  obtain ⟨e, e1, e2, _⟩ := he.get j y.1 y.2.1 y.2.2 hy
  have hstay : (Instr.keyThatStays (((m[j]?).map (·.key)).getD k') k').run P w = .ok k' w := by
   rw [Array.getElem?_toList] at e1
   simp [e1, Instr.keyThatStays, sameBits_ok hys hk e2 9999]
  refine ⟨_, ?_, ext (.map (m.modify j fun e => { e with key := k', val := v' }) c), ?_⟩
  ·simp [Instr.mapUpdate, run_underlying hT, hg, hc, h4, hs, hstay]
  ·rw [h2]
   refine hR.upd hi hL (oth _) (BlkR.ofEnts (at_ _) ?_)
   rw [Array.toList_modify]
   exact mmod_ok hk hv he h1
end
end Go.L

namespace Go.L
section
variable {P : Program} {ro : Option Nat} {md : Bool} {o : Oper} {e : Env} {h : Hp} {next : AV → Prop}
theorem LN_mlook {T kt et : TypeId} {ok : Bool} {x k : Operand} {d : TypeDesc} {m : MK} {zi : TypeInfo} {zv : Value} {z : AV} (ho : o.op = .lookup T x k ok) (hT : P.underlying T = some (.map kt et)) (hkt : P.underlying kt = some d) (hm : mkOf P kt d = some m)
  (hz : P.info? et = some zi) (hzv : zi.zero = some zv) (hzz : cv zv = some z) {x' k' : AOpd} (hx : copd x = some x') (hk : copd k = some k') (hl : LN (.mlook m z ok x' k') e h next) : ∃ v, next v ∧ SemVal P o e h v := by
 simp only [LN] at hl
 split at hl <;> first | exact hl.elim | skip
 ·rename_i i hi
  obtain ⟨es, c, h1, h2, h3, h4⟩ := hl
  have h5 := h4 _ rfl
  refine ⟨cond ok (.tup [(mget (ev e k') es).getD z, .bool (mget (ev e k') es).isSome]) ((mget (ev e k') es).getD z), ?_, fun σ M w a hR hA => ?_⟩
  ·cases hg : mget (ev e k') es with
   | some v => rw [hg] at h5; exact h5
   | none => rw [hg] at h5; exact h5
  ·have hxv := copd_ok hx hA
   rw [hi] at hxv
   obtain ⟨v', g1, g2⟩ := run_lookup hR hT hkt hz hzv (cv_ok hzz) h1 hxv (copd_ok hk hA) (keyM_ok hm h2) h3 ok
   exact ⟨v', by simp [execOp, ho, g2], g1⟩
 ·rename_i hi
  refine ok_of hl.2 fun σ M w a hR hA => ?_
  have hxv := copd_ok hx hA
  rw [hi] at hxv
  have hxe : a.eval x = .map none := by generalize a.eval x = u at hxv; cases hxv; rfl
  obtain ⟨v', g1, g2⟩ := run_lookup_nil (P := P) (σ := σ) (M := M) (w := w) (k' := a.eval k) hT hkt hz hzv (cv_ok hzz) (keyM_ok hm hl.1) (copd_ok hk hA) ok
  exact ⟨v', by simp [execOp, ho, hxe, g2], g1⟩
theorem LN_mlen {t kt et : TypeId} {x : Operand} {ts : Array TypeId} (ho : o.op = .call { callee := .builtin .len, args := #[x], argTypes := ts }) (h0 : ts[0]? = some t) (ht : P.underlying t = some (.map kt et))
  {x' : AOpd} (hx : copd x = some x') (hl : LN (.mlen x') e h next) : ∃ v, next v ∧ SemVal P o e h v := by
 simp only [LN] at hl
 split at hl <;> first | exact hl.elim | skip
 ·rename_i i hi
  obtain ⟨es, c, h1, h2⟩ := hl
  refine ok_of h2 fun σ M w a hR hA => ?_
  have hxv := copd_ok hx hA
  rw [hi] at hxv
  obtain ⟨L, hL, he⟩ := hxv.map_inv
  obtain ⟨m, hm, hes⟩ := hR.mapAt h1 hL
  have hg : (getObj L.b).run P w = .ok (.map m c) w := by simp [getObj, Sem.run, hm]
  have hsz : m.size = es.length := by have := hes.len; simpa using this
  refine ⟨.int .i64 es.length, exec_len (t := t) ho ?_, .int _ _⟩
  simp [Builtin.len_, h0, run_underlying ht, he, hg, goInt, hsz]
 ·rename_i hi
  refine ok_of hl fun σ M w a hR hA => ?_
  have hxv := copd_ok hx hA
  rw [hi] at hxv
  have hxe : a.eval x = .map none := by generalize a.eval x = u at hxv; cases hxv; rfl
  refine ⟨.int .i64 ((0 : Nat) : Int), exec_len (t := t) ho ?_, .int _ _⟩
  simp [Builtin.len_, h0, run_underlying ht, hxe, goInt]
end
section
variable {P : Program} {ro : Option Nat} {md : Bool} {o : Oper} {e : Env} {h : Hp} {next X : AV → Hp → Prop} {σ : Emb} {M : Mem} {w : World} {a : Act}
variable {nx : Act → World → Prop} {Qx : Exit → Act → World → Prop}
theorem op_mkmap {t : TypeId} (ho : o.op = .makeMap t none) (hR : R P σ M h w) (hN : NextS P σ M w a o.dst next nx) (hl : LOp P md .mkmap e h next X) : o.wpIn (fw ro) 0 P a w nx Qx := by
 have hrun : (execOp a.eval o).run P w = .ok (.value (.map (some w.heap.size))) (w.alloc (.map #[] 0)) := by
  simp [execOp, ho, Instr.makeMap]
 obtain ⟨i, hi, hin⟩ := hR.fresh hl
 let L : Loc := ⟨w.heap.size, 0, 0, 0⟩
 refine wpIn_of_run hrun (hN (σ.set i L) M _ _ (.map i) _ (Ext.alloc hi) (hR.alloc hi rfl ?_) (.map i L (Emb.set_same _ _ _)) hin)
 refine BlkR.ofEnts (m := #[]) ?_ .nil
 show (w.alloc (.map #[] 0)).heap[w.heap.size]? = _
 simp [← World.alloc_eq]
theorem op_mupd {T kt et : TypeId} {x k v : Operand} {d : TypeDesc} {m : MK} (ho : o.op = .mapUpdate T x k v ∨ o.op = .insert T x k v) (hT : P.underlying T = some (.map kt et)) (hkt : P.underlying kt = some d) (hm : mkOf P kt d = some m)
  {x' k' v' : AOpd} (hx : copd x = some x') (hk : copd k = some k') (hv : copd v = some v') (hR : R P σ M h w) (hA : ActR σ M e a) (hN : NextS P σ M w a o.dst next nx) (hl : LOp P md (.mupd m x' k' v') e h next X) : o.wpIn (fw ro) 0 P a w nx Qx := by
 simp only [LOp] at hl
 split at hl <;> first | exact hl.elim | skip
 rename_i i hi
 obtain ⟨es, c, h1, h2, h3, h4⟩ := hl
 have hxv := copd_ok hx hA
 rw [hi] at hxv
 obtain ⟨w', g1, g2, g3⟩ := run_mapUpdate hR hT hkt h1 hxv (copd_ok hk hA) (copd_ok hv hA) (keyM_ok hm h2) h3
 have hrun : (execOp a.eval o).run P w = .ok .skip w' := by rcases ho with ho | ho <;> simp [execOp, ho, g1]
 have h5 := h4 _ rfl
 refine wpIn_of_skip hrun (hN σ M w' _ (.tup []) undef g2 g3 (VR.tup' .nil) ?_)
 cases hg : mget (ev e k') es with
 | some u => rw [hg] at h5; exact h5
 | none => rw [hg] at h5; exact h5
end
end Go.L
