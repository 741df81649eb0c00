/-
  The logic L, part b: abstract heaps, the relation of states, and the contracts of code and of calls.
-/
import Derived.Test.YtpmjgnpkbmfimaaGreatDoorLa
import Derived.DefersIn
import Derived.RangeFuncIn
namespace Go.L

/-- How a round's body may leave the loop. -/
inductive Jmp where
  | ret
  | exit (id : Nat)

def JmpR : Option Jmp → Option Code → Prop
  | none, none => True
  | some .ret, some .ret => True
  | some (.exit i), some (.exit j) => i = j
  | _, _ => False

inductive LSt where
  | ready
  | busy
  | done
  | over
  deriving DecidableEq, Inhabited
def LStR : LSt → LoopState → Prop
  | .ready, .ready => True
  | .busy, .busy => True
  | .done, .done => True
  | .over, .exhausted => True
  | _, _ => False

inductive Blk where
  | row (T : TypeId) (es : List (List AV))
  | map (es : List (AV × AV × Nat)) (clock : Nat)
  | mapIter (m : Option Nat) (since : Nat) (seen : List Nat) (stepped : Nat)
  | strIter (s : List UInt8) (pos : Nat)
  | loop (n : Nat) (t : Nat → AV) (ps : List Nat) (K : Code → Code → Prop) (st : LSt) (pend : Option Jmp)
  | dfr
  deriving Inhabited

/-- An abstract heap: its blocks; which numbers are taken. -/
structure Hp where
  m : Nat → Option Blk
  u : Nat → Bool
  ok : ∀ i, u i = false → m i = none
  cof : ∃ n, ∀ i, n ≤ i → u i = false
instance : CoeFun Hp (fun _ => Nat → Option Blk) := ⟨Hp.m⟩
def Hp.set (h : Hp) (i : Nat) (b : Blk) : Hp where
  m := fun j => if j = i then some b else h.m j
  u := fun j => if j = i then true else h.u j
  ok := fun j hj => by by_cases e : j = i <;> simp [e] at hj ⊢; exact h.ok j hj
  cof := let ⟨n, hn⟩ := h.cof; ⟨max n (i + 1), fun j hj => by simp [show j ≠ i by omega, hn j (by omega)]⟩
def Hp.del (h : Hp) (i : Nat) : Hp where
  m := fun j => if j = i then none else h.m j
  u := h.u
  ok := fun j hj => by by_cases e : j = i <;> simp [e]; exact h.ok j hj
  cof := h.cof
def Hp.nil : Hp := ⟨fun _ => none, fun _ => false, fun _ _ => rfl, 0, fun _ _ => rfl⟩
/-- A number that is not taken. -/
def Fresh (h : Hp) (i : Nat) : Prop := h.u i = false ∧ h i = none
/-- A new number: whichever (md = false), or one that the prover picks (md = true). -/
def allocN (md : Bool) (h : Hp) (f : Nat → Prop) : Prop := match md with
  | false => ∀ i, Fresh h i → f i
  | true => ∃ i, Fresh h i ∧ f i

theorem allocN.mono' {md : Bool} {h : Hp} {f g : Nat → Prop} (k : allocN md h f) (hfg : ∀ i, Fresh h i → f i → g i) : allocN md h g := by
  cases md with
  | false => exact fun i hi => hfg i hi (k i hi)
  | true => exact let ⟨i, hi, hf⟩ := k; ⟨i, hi, hfg i hi hf⟩
theorem allocN.mono {md : Bool} {h : Hp} {f g : Nat → Prop} (k : allocN md h f) (hfg : ∀ i, f i → g i) : allocN md h g := k.mono' fun i _ => hfg i
theorem Hp.free (h : Hp) : ∃ i, Fresh h i := let ⟨n, hn⟩ := h.cof; ⟨n, hn n (Nat.le_refl _), h.ok n (hn n (Nat.le_refl _))⟩
theorem allocN.one {md : Bool} {h : Hp} {f : Nat → Prop} (k : allocN md h f) : ∃ i, Fresh h i ∧ f i := by
  cases md with
  | false => obtain ⟨i, hi⟩ := h.free; exact ⟨i, hi, k i hi⟩
  | true => exact k

@[simp] theorem Hp.set_same (h : Hp) (i : Nat) (b : Blk) : h.set i b i = some b := by simp [Hp.set]
theorem Hp.set_ne {h : Hp} {i j : Nat} {b : Blk} (hn : j ≠ i) : h.set i b j = h j := by simp [Hp.set, hn]
theorem Hp.set_ne' {h : Hp} {i j : Nat} {b : Blk} (hn : i ≠ j) : h.set i b j = h j := by simp [Hp.set, Ne.symm hn]
@[simp] theorem Hp.del_same (h : Hp) (i : Nat) : h.del i i = none := by simp [Hp.del]
theorem Hp.del_ne {h : Hp} {i j : Nat} (hn : j ≠ i) : h.del i j = h j := by simp [Hp.del, hn]
@[simp] theorem Hp.set_u (h : Hp) (i : Nat) (b : Blk) (j : Nat) : (h.set i b).u j = if j = i then true else h.u j := rfl
@[simp] theorem Hp.del_u (h : Hp) (i : Nat) : (h.del i).u = h.u := rfl
theorem Hp.ext {h k : Hp} (hm : ∀ i, h i = k i) (hu : ∀ i, h.u i = k.u i) : h = k := by
  cases h; cases k; simp only [Hp.mk.injEq]; exact ⟨funext hm, funext hu⟩
@[simp] theorem Hp.set_set (h : Hp) (i : Nat) (b c : Blk) : (h.set i b).set i c = h.set i c := by
  refine Hp.ext (fun j => ?_) (fun j => ?_) <;> by_cases e : j = i <;> simp [Hp.set, e]
theorem Hp.set_comm {h : Hp} {i j : Nat} (hn : i ≠ j) (b c : Blk) : (h.set i b).set j c = (h.set j c).set i b := by
  refine Hp.ext (fun k => ?_) (fun k => ?_) <;> by_cases e1 : k = i <;> by_cases e2 : k = j <;> simp [Hp.set, e1, e2] <;> omega

/-- Many new numbers: b, b + 1 .. -/
def allocK (md : Bool) (h : Hp) (K : Nat) (f : Nat → Prop) : Prop := match md with
  | false => ∀ b, (∀ i, i < K → Fresh h (b + i)) → f b
  | true => ∃ b, (∀ i, i < K → Fresh h (b + i)) ∧ f b
theorem allocK.mono' {md : Bool} {h : Hp} {K : Nat} {f g : Nat → Prop} (k : allocK md h K f) (hfg : ∀ b, (∀ i, i < K → Fresh h (b + i)) → f b → g b) : allocK md h K g := by
  cases md with
  | false => exact fun b hb => hfg b hb (k b hb)
  | true => exact let ⟨b, hb, hf⟩ := k; ⟨b, hb, hfg b hb hf⟩
theorem allocK.mono {md : Bool} {h : Hp} {K : Nat} {f g : Nat → Prop} (k : allocK md h K f) (hfg : ∀ b, f b → g b) : allocK md h K g := k.mono' fun b _ => hfg b
theorem allocK.one {md : Bool} {h : Hp} {K : Nat} {f : Nat → Prop} (k : allocK md h K f) : ∃ b, (∀ i, i < K → Fresh h (b + i)) ∧ f b := by
  cases md with
  | false =>
    obtain ⟨n, hn⟩ := h.cof
    have hb : ∀ i, i < K → Fresh h (n + i) := fun i _ => ⟨hn _ (by omega), h.ok _ (hn _ (by omega))⟩
    exact ⟨n, hb, k n hb⟩
  | true => exact k
theorem allocN_K {md : Bool} {h : Hp} {f : Nat → Prop} : allocN md h f ↔ allocK md h 1 f := by
  have key : ∀ b, (∀ i, i < 1 → Fresh h (b + i)) ↔ Fresh h b := fun b => ⟨fun k => k 0 (by omega), fun k i hi => by
    have : i = 0 := by omega
    subst this; exact k⟩
  cases md with
  | false => exact ⟨fun k b hb => k b ((key b).1 hb), fun k b hb => k b ((key b).2 hb)⟩
  | true => exact ⟨fun ⟨b, hb, hf⟩ => ⟨b, (key b).2 hb, hf⟩, fun ⟨b, hb, hf⟩ => ⟨b, (key b).1 hb, hf⟩⟩

/-- The heap with K more numbers taken, from b on. -/
def Hp.adopt (h : Hp) (b K : Nat) (B : Nat → Option Blk) : Hp where
  m := fun j => if b ≤ j ∧ j < b + K then B (j - b) else h.m j
  u := fun j => if b ≤ j ∧ j < b + K then true else h.u j
  ok := fun j hj => by
    by_cases e : b ≤ j ∧ j < b + K
    · simp [e] at hj
    · simp [e] at hj ⊢; exact h.ok j hj
  cof := let ⟨n, hn⟩ := h.cof; ⟨max n (b + K), fun j hj => by rw [if_neg (by omega)]; exact hn j (by omega)⟩
theorem Hp.adopt_in {h : Hp} {b K : Nat} {B : Nat → Option Blk} {j : Nat} (hj : b ≤ j ∧ j < b + K) : h.adopt b K B j = B (j - b) := if_pos hj
theorem Hp.adopt_out {h : Hp} {b K : Nat} {B : Nat → Option Blk} {j : Nat} (hj : ¬ (b ≤ j ∧ j < b + K)) : h.adopt b K B j = h j := if_neg hj
theorem Hp.adopt_one (h : Hp) (a : Nat) (x : Blk) : h.adopt a 1 (fun _ => some x) = h.set a x := by
  refine Hp.ext (fun j => ?_) (fun j => ?_)
  · by_cases e : j = a
    · subst e; rw [Hp.adopt_in (by omega), Hp.set_same]
    · rw [Hp.adopt_out (by omega), Hp.set_ne e]
  · show (if a ≤ j ∧ j < a + 1 then true else h.u j) = if j = a then true else h.u j
    by_cases e : j = a
    · rw [if_pos (by omega), if_pos e]
    · rw [if_neg (by omega), if_neg e]
theorem Hp.adopt_zero (h : Hp) (b : Nat) (B : Nat → Option Blk) : h.adopt b 0 B = h := by
  refine Hp.ext (fun j => Hp.adopt_out (by omega)) (fun j => if_neg (by omega))
theorem Hp.adopt_comm {h : Hp} {a K b L : Nat} {A B : Nat → Option Blk} (hd : ∀ j, ¬ ((a ≤ j ∧ j < a + K) ∧ (b ≤ j ∧ j < b + L))) : (h.adopt a K A).adopt b L B = (h.adopt b L B).adopt a K A := by
  refine Hp.ext (fun j => ?_) (fun j => ?_)
  · by_cases e1 : a ≤ j ∧ j < a + K
    · have e2 : ¬ (b ≤ j ∧ j < b + L) := fun e2 => hd j ⟨e1, e2⟩
      rw [Hp.adopt_out e2, Hp.adopt_in e1, Hp.adopt_in e1]
    · by_cases e2 : b ≤ j ∧ j < b + L
      · rw [Hp.adopt_in e2, Hp.adopt_out e1, Hp.adopt_in e2]
      · rw [Hp.adopt_out e2, Hp.adopt_out e1, Hp.adopt_out e1, Hp.adopt_out e2]
  · show (if b ≤ j ∧ j < b + L then true else if a ≤ j ∧ j < a + K then true else h.u j) = if a ≤ j ∧ j < a + K then true else if b ≤ j ∧ j < b + L then true else h.u j
    by_cases e1 : a ≤ j ∧ j < a + K <;> by_cases e2 : b ≤ j ∧ j < b + L <;> simp [e1, e2]
theorem Hp.adopt_u (h : Hp) (b K : Nat) (B : Nat → Option Blk) (j : Nat) : (h.adopt b K B).u j = if b ≤ j ∧ j < b + K then true else h.u j := rfl
theorem Fresh.adopt {h : Hp} {b K : Nat} {B : Nat → Option Blk} {j : Nat} (hf : Fresh (h.adopt b K B) j) : Fresh h j ∧ ¬ (b ≤ j ∧ j < b + K) := by
  have h1 := hf.1
  have h2 := hf.2
  rw [Hp.adopt_u] at h1
  split at h1
  · cases h1
  · rename_i hn
    rw [Hp.adopt_out hn] at h2
    exact ⟨⟨h1, h2⟩, hn⟩
theorem Fresh.of_adopt {h : Hp} {b K : Nat} {B : Nat → Option Blk} {j : Nat} (hf : Fresh h j) (hn : ¬ (b ≤ j ∧ j < b + K)) : Fresh (h.adopt b K B) j :=
  ⟨by rw [Hp.adopt_u, if_neg hn]; exact hf.1, by rw [Hp.adopt_out hn]; exact hf.2⟩

/-- What is frozen of a block of s cells lies behind it. -/
def Unf (F : Nat × Nat) (s : Nat) : Prop := F.1 = F.2 ∨ s ≤ F.1
theorem Unf.at {F : Nat × Nat} {s : Nat} (h : Unf F s) (x : Nat) (hx : x < s) : ¬ (F.1 ≤ x ∧ x < F.2) := by
  rcases h with h | h <;> omega

/-- A mutable abstract block stands for what lies at its place. -/
def BlkR (P : Program) (σ : Emb) (M : Mem) (w : World) (L : Loc) : Blk → Prop
  | .row T es => ∃ (C : Array Value) (F : Nat × Nat), w.heap[L.b]? = some (.cells C T F) ∧ C.size = L.s ∧ (P.info? T).map (·.size) = some L.z ∧ L.o + es.length * L.z ≤ L.s ∧
      (∀ (k : Nat) (cs : List AV), es[k]? = some cs → VRs σ M cs (C.extract (L.o + k * L.z) (L.o + k * L.z + L.z)) ∧ cs.length = L.z) ∧
      Unf F L.s
  | .map es clock => ∃ (es' : Array MapEntry), w.heap[L.b]? = some (.map es' clock) ∧ es'.size = es.length ∧
      ∀ (j : Nat) (k v : AV) (n : Nat), es[j]? = some (k, v, n) → ∃ e : MapEntry, es'[j]? = some e ∧ VR σ M k e.key ∧ VR σ M v e.val ∧ e.born = n
  | .mapIter m since seen stepped => L.o = 0 ∧ ∃ m' : Option Nat, w.heap[L.b]? = some (.mapIter m' since seen.toArray stepped) ∧
      (match m with | none => m' = none | some i => ∃ K, σ i = some K ∧ m' = some K.b)
  | .strIter s pos => L.o = 0 ∧ ∃ b : ByteArray, w.heap[L.b]? = some (.stringIter b pos) ∧ b.data.toList = s
  | .loop n t ps K st pend => ∃ (r : Loop), w.heap[L.b]? = some (.loop r) ∧ LStR st r.state ∧ JmpR pend r.pending ∧ r.params.toList = ps ∧ K r.assign r.body ∧ r.tmps.size = n ∧
      ∀ x, VR σ M (t x) (r.tmps.getD x undef)
  | .dfr => w.heap[L.b]? = some (.deferred (some []))

/-- The relation of states: σ places the mutable blocks, M is what never changes. -/
structure R (P : Program) (σ : Emb) (M : Mem) (h : Hp) (w : World) : Prop where
  fin : ∀ i, h.u i = false → σ i = none
  dom : ∀ i b, h i = some b → ∃ L, σ i = some L
  mem : ∀ B o, M B = some o → w.heap[B]? = some o.1
  sep : ∀ i b L, h i = some b → σ i = some L → M L.b = none
  inj : ∀ i j bi bj Li Lj, h i = some bi → h j = some bj → σ i = some Li → σ j = some Lj → Li.b = Lj.b → i = j
  blk : ∀ i b L, h i = some b → σ i = some L → BlkR P σ M w L b
  al : ∀ i b L, h i = some b → σ i = some L → ∃ q, L.o = q * L.z

/-- A later state. -/
structure Ext (σ : Emb) (M : Mem) (w : World) (σ' : Emb) (M' : Mem) (w' : World) : Prop where
  s : σ.le σ'
  m : M.le M'
  size : w.heap.size ≤ w'.heap.size
  os : w'.os = w.os
  tape : w'.tape = w.tape
  output : w'.output = w.output

theorem Ext.refl (σ : Emb) (M : Mem) (w : World) : Ext σ M w σ M w := ⟨σ.le_refl, M.le_refl, Nat.le_refl _, rfl, rfl, rfl⟩
theorem Ext.trans {σ σ1 σ2 : Emb} {M M1 M2 : Mem} {w w1 w2 : World} (h : Ext σ M w σ1 M1 w1) (k : Ext σ1 M1 w1 σ2 M2 w2) : Ext σ M w σ2 M2 w2 :=
  ⟨Emb.le_trans h.s k.s, Mem.le_trans h.m k.m, Nat.le_trans h.size k.size, k.os.trans h.os, k.tape.trans h.tape, k.output.trans h.output⟩

/-- A deferred call; the mark of a range over a function. -/
inductive ADef where
  | call (fn : Fn) (cap args : List AV)
  | mark (i : Nat)

/-- An activation: its temporaries (n of them), its deferred calls. -/
structure Env where
  n : Nat
  t : Nat → AV
  ds : List ADef

def Env.put (e : Env) (d : Option Nat) (v : AV) : Env :=
  match d with
  | none => e
  | some d => { e with t := fun x => cond (Nat.beq x d) v (e.t x) }

def DefR (σ : Emb) (M : Mem) : ADef → Deferred → Prop
  | .call fn cap args, d' => (∃ c', d'.target = .fn fn c' ∧ VRs σ M cap c') ∧ VRs σ M args d'.args
  | .mark i, d' => ∃ L, σ i = some L ∧ d'.target = .collected L.b

structure ActR (σ : Emb) (M : Mem) (e : Env) (a : Act) : Prop where
  n : a.tmps.size = e.n
  t : ∀ x, VR σ M (e.t x) (a.tmps.getD x undef)
  dl : a.defers.length = e.ds.length
  d : ∀ (j : Nat) (x : ADef), e.ds[j]? = some x → ∃ y, a.defers[j]? = some y ∧ DefR σ M x y

theorem DefR.mono {σ σ' : Emb} {M M' : Mem} (hs : σ.le σ') (hm : M.le M') {d : ADef} {d' : Deferred} (h : DefR σ M d d') : DefR σ' M' d d' := by
  cases d with
  | call fn cap args => exact ⟨let ⟨c', h1, h2⟩ := h.1; ⟨c', h1, h2.mono hs hm⟩, h.2.mono hs hm⟩
  | mark i => exact let ⟨L, h1, h2⟩ := h; ⟨L, hs _ _ h1, h2⟩
theorem ActR.mono {σ σ' : Emb} {M M' : Mem} (hs : σ.le σ') (hm : M.le M') {e : Env} {a : Act} (h : ActR σ M e a) : ActR σ' M' e a :=
  ⟨h.n, fun x => (h.t x).mono hs hm, h.dl, fun j x hj => let ⟨y, h1, h2⟩ := h.d j x hj; ⟨y, h1, h2.mono hs hm⟩⟩
theorem ActR.put {σ : Emb} {M : Mem} {e : Env} {a : Act} (h : ActR σ M e a) {d : Option Nat} {v : AV} {v' : Value} (hd : ∀ x, d = some x → x < e.n) (hv : VR σ M v v') :
    ActR σ M (e.put d v) (a.put d v') := by
  cases d with
  | none => exact h
  | some d =>
    have hd' := hd d rfl
    refine ⟨by simp [Env.put, Act.put, h.n], fun x => ?_, h.dl, h.d⟩
    have hx := h.t x
    simp only [Env.put, Act.put, Array.getD_eq_getD_getElem?, Array.getElem?_setIfInBounds] at hx ⊢
    by_cases e1 : x = d
    · subst e1
      have : x < a.tmps.size := by rw [h.n]; exact hd'
      have hb : Nat.beq x x = true := Nat.beq_refl x
      simpa [this, hb] using hv
    · have hb : Nat.beq x d = false := by
        cases hh : Nat.beq x d with
        | false => rfl
        | true => exact absurd (Nat.eq_of_beq_eq_true hh) e1
      rw [if_neg (Ne.symm e1), hb]; exact hx

/-- How a call ends. -/
inductive Res where
  | ret (v : AV)
  | pan (v : AV)

def EndR (σ : Emb) (M : Mem) (Q : Res → Prop) : Ending → Prop
  | .returned v' => ∃ v, VR σ M v v' ∧ Q (.ret v)
  | .panicked chain => ∃ v v', chain = [{ v := v', recovered := false }] ∧ VR σ M v v' ∧ Q (.pan v)
  | .outgrown => False

/-- The contract of a call. -/
structure CallL (P : Program) (f : FuncId) (args : List AV) (h : Hp) (Q : Res → Hp → Prop) : Prop where
  run : ∀ (σ : Emb) (M : Mem) (w : World) (args' : Array Value), R P σ M h w → VRs σ M args args' →
    CallsIn Fence.wide 0 P f args' w fun e w' => ∃ σ' M' h', Ext σ M w σ' M' w' ∧ R P σ' M' h' w' ∧ EndR σ' M' (fun r => Q r h') e

theorem CallL.mono {P : Program} {f : FuncId} {args : List AV} {h : Hp} {Q Q' : Res → Hp → Prop} (c : CallL P f args h Q) (hq : ∀ r h', Q r h' → Q' r h') : CallL P f args h Q' :=
  ⟨fun σ M w args' hR hA => (c.run σ M w args' hR hA).mono fun e w' ⟨σ', M', h', h1, h2, h3⟩ => ⟨σ', M', h', h1, h2, by
    cases e with
    | returned v' => obtain ⟨v, a, b⟩ := h3; exact ⟨v, a, hq _ _ b⟩
    | panicked ch => obtain ⟨v, v', a, b, c⟩ := h3; exact ⟨v, v', a, b, hq _ _ c⟩
    | outgrown => exact h3⟩⟩

/-- How code is left. -/
inductive Xit where
  | normal
  | exit (id : Nat)
  | ret
  | pan (v : AV)

def XitR (σ : Emb) (M : Mem) : Xit → Exit → Prop
  | .normal, .normal => True
  | .exit i, .exit j => i = j
  | .ret, .ret => True
  | .pan v, .panic chain => ∃ v', chain = [{ v := v', recovered := false }] ∧ VR σ M v v'
  | _, _ => False

/-- The fence: every function; 'some l': the code is a round of the loop that lies at block l. -/
def fw (ro : Option Nat) : Fence := { Fence.wide with round := ro }

/-- What is asked behind code, in the model's words. -/
def PostR (P : Program) (σ : Emb) (M : Mem) (w : World) (Q : Xit → Env → Hp → Prop) : Exit → Act → World → Prop := fun x a' w' =>
  ∃ σ' M' h' e' y, Ext σ M w σ' M' w' ∧ R P σ' M' h' w' ∧ ActR σ' M' e' a' ∧ XitR σ' M' y x ∧ Q y e' h'

/-- The contract of code. -/
def CodeL (P : Program) (ro : Option Nat) (c : Code) (Q : Xit → Env → Hp → Prop) (e : Env) (h : Hp) : Prop :=
  ∀ (σ : Emb) (M : Mem) (w : World) (a : Act), R P σ M h w → ActR σ M e a → c.wpIn (fw ro) 0 P (PostR P σ M w Q) a w

theorem PostR.of_ext {P : Program} {σ σ1 : Emb} {M M1 : Mem} {w w1 : World} {Q : Xit → Env → Hp → Prop} (h : Ext σ M w σ1 M1 w1) {x : Exit} {a' : Act} {w' : World}
    (k : PostR P σ1 M1 w1 Q x a' w') : PostR P σ M w Q x a' w' :=
  let ⟨σ', M', h', e', y, k1, k2⟩ := k; ⟨σ', M', h', e', y, h.trans k1, k2⟩
theorem PostR.mono {P : Program} {σ : Emb} {M : Mem} {w : World} {Q Q' : Xit → Env → Hp → Prop} (hq : ∀ y e h, Q y e h → Q' y e h) {x : Exit} {a' : Act} {w' : World}
    (k : PostR P σ M w Q x a' w') : PostR P σ M w Q' x a' w' :=
  let ⟨σ', M', h', e', y, k1, k2, k3, k4, k5⟩ := k; ⟨σ', M', h', e', y, k1, k2, k3, k4, hq _ _ _ k5⟩
theorem CodeL.mono {P : Program} {ro : Option Nat} {c : Code} {Q Q' : Xit → Env → Hp → Prop} {e : Env} {h : Hp} (k : CodeL P ro c Q e h) (hq : ∀ y e h, Q y e h → Q' y e h) : CodeL P ro c Q' e h :=
  fun σ M w a hR hA => wpIn_mono (k σ M w a hR hA) fun _ _ _ => PostR.mono hq

section rules
variable {P : Program} {ro : Option Nat} {Q : Xit → Env → Hp → Prop} {e : Env} {h : Hp}

theorem CodeL.skip (k : Q .normal e h) : CodeL P ro .skip Q e h := fun σ M _ _ hR hA => wpIn_skip ⟨σ, M, h, e, .normal, .refl _ _ _, hR, hA, trivial, k⟩
theorem CodeL.exit {id : Nat} (k : Q (.exit id) e h) : CodeL P ro (.exit id) Q e h := fun σ M _ _ hR hA => wpIn_exit ⟨σ, M, h, e, .exit id, .refl _ _ _, hR, hA, rfl, k⟩
theorem CodeL.ret (k : Q .ret e h) : CodeL P ro .ret Q e h := fun σ M _ _ hR hA => wpIn_ret ⟨σ, M, h, e, .ret, .refl _ _ _, hR, hA, trivial, k⟩

/-- Behind a first part: on with the second. -/
def andThen (next : Env → Hp → Prop) (Q : Xit → Env → Hp → Prop) : Xit → Env → Hp → Prop
  | .normal, e, h => next e h
  | x, e, h => Q x e h

theorem CodeL.seq {c d : Code} (k : CodeL P ro c (andThen (CodeL P ro d Q) Q) e h) : CodeL P ro (.seq c d) Q e h := by
  intro σ M w a hR hA
  refine wpIn_seq (wpIn_mono (k σ M w a hR hA) ?_)
  rintro x a1 w1 ⟨σ1, M1, h1, e1, y, hE, hR1, hA1, hX, hQ⟩
  cases y with
  | normal =>
    cases x <;> simp only [XitR] at hX
    exact wpIn_mono (hQ σ1 M1 w1 a1 hR1 hA1) fun _ _ _ => PostR.of_ext hE
  | exit i => cases x <;> simp only [XitR] at hX; exact ⟨σ1, M1, h1, e1, .exit i, hE, hR1, hA1, hX, hQ⟩
  | ret => cases x <;> simp only [XitR] at hX; exact ⟨σ1, M1, h1, e1, .ret, hE, hR1, hA1, trivial, hQ⟩
  | pan v => cases x <;> simp only [XitR] at hX; exact ⟨σ1, M1, h1, e1, .pan v, hE, hR1, hA1, hX, hQ⟩

def inBlk (id : Nat) (Q : Xit → Env → Hp → Prop) : Xit → Env → Hp → Prop
  | .exit j, e, h => if j = id then Q .normal e h else Q (.exit j) e h
  | x, e, h => Q x e h

theorem CodeL.block {id : Nat} {c : Code} (k : CodeL P ro c (inBlk id Q) e h) : CodeL P ro (.block id c) Q e h := by
  intro σ M w a hR hA
  refine wpIn_block (wpIn_mono (k σ M w a hR hA) ?_)
  rintro x a1 w1 ⟨σ1, M1, h1, e1, y, hE, hR1, hA1, hX, hQ⟩
  cases y with
  | normal => cases x <;> simp only [XitR] at hX; exact ⟨σ1, M1, h1, e1, .normal, hE, hR1, hA1, trivial, hQ⟩
  | exit i =>
    cases x <;> simp only [XitR] at hX
    subst hX
    simp only [Exit.inBlock]
    simp only [inBlk] at hQ
    by_cases hid : i = id
    · rw [if_pos hid] at hQ ⊢; exact ⟨σ1, M1, h1, e1, .normal, hE, hR1, hA1, trivial, hQ⟩
    · rw [if_neg hid] at hQ ⊢; exact ⟨σ1, M1, h1, e1, .exit i, hE, hR1, hA1, rfl, hQ⟩
  | ret => cases x <;> simp only [XitR] at hX; exact ⟨σ1, M1, h1, e1, .ret, hE, hR1, hA1, trivial, hQ⟩
  | pan v => cases x <;> simp only [XitR] at hX; exact ⟨σ1, M1, h1, e1, .pan v, hE, hR1, hA1, hX, hQ⟩

/-- A loop: what holds at its head; a number that every round lowers. -/
theorem CodeL.loop {c : Code} (I : Nat → Env → Hp → Prop) (h0 : ∃ n, I n e h)
    (round : ∀ n e h, I n e h → CodeL P ro c (andThen (fun e h => ∃ m, m < n ∧ I m e h) Q) e h) : CodeL P ro (.loop c) Q e h := by
  intro σ M w a hR hA
  obtain ⟨n0, hI⟩ := h0
  -- the state at the head, in the model's words; the measure: the least number that fits
  let J : Act → World → Nat → Prop := fun a1 w1 n => ∃ σ1 M1 h1 e1, Ext σ M w σ1 M1 w1 ∧ R P σ1 M1 h1 w1 ∧ ActR σ1 M1 e1 a1 ∧ I n e1 h1
  have hJ0 : J a w n0 := ⟨σ, M, h, e, .refl _ _ _, hR, hA, hI⟩
  suffices ∀ (b : Frame) (k : List Item) (cs : List Frame), b.roundOf = (fw ro).round → (fw ro).fn b.fn → (fw ro).room (cs.length + 1 + 0) →
      ∀ n a1 w1, J a1 w1 n → ∃ x a' w', PostR P σ M w Q x a' w' ∧ ArrivesIn (Machine.fenced P (fw ro)) P (lone (b.atR a1 (.code c :: .inLoop c :: k)) cs w1) b k cs x a' w' by
    intro b k cs hro hb hr
    obtain ⟨x, a', w', hq, harr⟩ := this b k cs hro hb hr n0 a w hJ0
    exact ⟨x, a', w', hq, .of_steps (.one (fenced_calm hb hr rfl) stepR_loop) harr⟩
  intro b k cs hro hb hr n
  induction n using Nat.strongRecOn with
  | _ n ih =>
    rintro a1 w1 ⟨σ1, M1, h1, e1, hE, hR1, hA1, hI1⟩
    obtain ⟨x, a2, w2, ⟨σ2, M2, h2, e2, y, hE2, hR2, hA2, hX, hQ⟩, harr⟩ := round n e1 h1 hI1 σ1 M1 w1 a1 hR1 hA1 b (.inLoop c :: k) cs hro hb hr
    cases y with
    | normal =>
      cases x <;> simp only [XitR] at hX
      obtain ⟨m, hm, hIm⟩ := hQ
      obtain ⟨x3, a3, w3, hq3, harr3⟩ := ih m hm a2 w2 ⟨σ2, M2, h2, e2, hE.trans hE2, hR2, hA2, hIm⟩
      exact ⟨x3, a3, w3, hq3, .of_steps (StepsIn.trans harr (.one (fenced_calm (fr := b.atR a2 (.inLoop c :: k)) hb hr rfl) stepR_inLoop)) harr3⟩
    | exit i =>
      cases x <;> simp only [XitR] at hX
      subst hX
      exact ⟨.exit i, a2, w2, ⟨σ2, M2, h2, e2, .exit i, hE.trans hE2, hR2, hA2, rfl, hQ⟩, .pass (x := .inLoop c) rfl (fun _ _ => .inl (by simp)) harr⟩
    | ret =>
      cases x <;> simp only [XitR] at hX
      exact ⟨.ret, a2, w2, ⟨σ2, M2, h2, e2, .ret, hE.trans hE2, hR2, hA2, trivial, hQ⟩, .pass (x := .inLoop c) rfl (fun _ _ => .inl (by simp)) harr⟩
    | pan v =>
      cases x with
      | panic ch => exact ⟨.panic ch, a2, w2, ⟨σ2, M2, h2, e2, .pan v, hE.trans hE2, hR2, hA2, hX, hQ⟩, .pass (x := .inLoop c) rfl (fun _ _ => .inl (by simp)) harr⟩
      | _ => simp only [XitR] at hX
end rules
end Go.L
