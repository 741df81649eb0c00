/-
  The logic L, part b: abstract heaps, the relation of states, and the contracts of code and of calls.
-/
import Derived.Test.YtibdeeejjbmgcaaDoorLa
import Derived.DefersIn
import Derived.RangeFuncIn
namespace Go.L

inductive Blk where
  | row (T : TypeId) (es : List (List AV))
  | map (es : List (AV × AV × Nat)) (clock : Nat)
  | mapIter (m : Option Nat) (since : Nat) (seen : List Nat) (stepped : Nat)
  | strIter (s : List UInt8) (pos : Nat)
  deriving Inhabited

/-- An abstract heap: its blocks; from n on no number is taken. -/
structure Hp where
  m : Nat → Option Blk
  n : Nat
instance : CoeFun Hp (fun _ => Nat → Option Blk) := ⟨Hp.m⟩
def Hp.set (h : Hp) (i : Nat) (b : Blk) : Hp := ⟨fun j => if j = i then some b else h.m j, max h.n (i + 1)⟩
def Hp.del (h : Hp) (i : Nat) : Hp := ⟨fun j => if j = i then none else h.m j, h.n⟩
def Hp.nil : Hp := ⟨fun _ => none, 0⟩
/-- The next number. -/
def Fresh (h : Hp) (i : Nat) : Prop := i = h.n ∧ h i = none

@[simp] theorem Hp.set_same (h : Hp) (i : Nat) (b : Blk) : h.set i b i = some b := by simp [Hp.set]
theorem Hp.set_ne {h : Hp} {i j : Nat} {b : Blk} (hn : j ≠ i) : h.set i b j = h j := by simp [Hp.set, hn]
theorem Hp.set_ne' {h : Hp} {i j : Nat} {b : Blk} (hn : i ≠ j) : h.set i b j = h j := by simp [Hp.set, Ne.symm hn]
@[simp] theorem Hp.del_same (h : Hp) (i : Nat) : h.del i i = none := by simp [Hp.del]
theorem Hp.del_ne {h : Hp} {i j : Nat} (hn : j ≠ i) : h.del i j = h j := by simp [Hp.del, hn]
@[simp] theorem Hp.set_n (h : Hp) (i : Nat) (b : Blk) : (h.set i b).n = max h.n (i + 1) := rfl
@[simp] theorem Hp.del_n (h : Hp) (i : Nat) : (h.del i).n = h.n := rfl
theorem Hp.ext {h k : Hp} (hm : ∀ i, h i = k i) (hn : h.n = k.n) : h = k := by
  cases h; cases k; simp only [Hp.mk.injEq]; exact ⟨funext hm, hn⟩
@[simp] theorem Hp.set_set (h : Hp) (i : Nat) (b c : Blk) : (h.set i b).set i c = h.set i c := by
  refine Hp.ext (fun j => ?_) (by simp)
  by_cases e : j = i <;> simp [Hp.set, e]

/-- A mutable abstract block stands for what lies at its place. -/
def BlkR (P : Program) (σ : Emb) (M : Mem) (w : World) (L : Loc) : Blk → Prop
  | .row T es => ∃ (C : Array Value) (F : Nat × Nat), w.heap[L.b]? = some (.cells C T F) ∧ C.size = L.s ∧ (P.info? T).map (·.size) = some L.z ∧ L.o + es.length * L.z ≤ L.s ∧
      (∀ (k : Nat) (cs : List AV), es[k]? = some cs → VRs σ M cs (C.extract (L.o + k * L.z) (L.o + k * L.z + L.z)) ∧ cs.length = L.z) ∧
      (∀ x, L.o ≤ x → ¬ (F.1 ≤ x ∧ x < F.2))
  | .map es clock => ∃ (es' : Array MapEntry), w.heap[L.b]? = some (.map es' clock) ∧ es'.size = es.length ∧
      ∀ (j : Nat) (k v : AV) (n : Nat), es[j]? = some (k, v, n) → ∃ e : MapEntry, es'[j]? = some e ∧ VR σ M k e.key ∧ VR σ M v e.val ∧ e.born = n
  | .mapIter m since seen stepped => ∃ m' : Option Nat, w.heap[L.b]? = some (.mapIter m' since seen.toArray stepped) ∧
      (match m with | none => m' = none | some i => ∃ K, σ i = some K ∧ m' = some K.b)
  | .strIter s pos => ∃ b : ByteArray, w.heap[L.b]? = some (.stringIter b pos) ∧ b.data.toList = s

/-- The relation of states: σ places the mutable blocks, M is what never changes. -/
structure R (P : Program) (σ : Emb) (M : Mem) (h : Hp) (w : World) : Prop where
  fin : ∀ i, h.n ≤ i → σ i = none
  dom : ∀ i b, h i = some b → ∃ L, σ i = some L
  mem : ∀ B o, M B = some o → w.heap[B]? = some o
  sep : ∀ i b L, h i = some b → σ i = some L → M L.b = none
  inj : ∀ i j bi bj Li Lj, h i = some bi → h j = some bj → σ i = some Li → σ j = some Lj → Li.b = Lj.b → i = j
  blk : ∀ i b L, h i = some b → σ i = some L → BlkR P σ M w L b

/-- A later state. -/
structure Ext (σ : Emb) (M : Mem) (w : World) (σ' : Emb) (M' : Mem) (w' : World) : Prop where
  s : σ.le σ'
  m : M.le M'
  size : w.heap.size ≤ w'.heap.size
  os : w'.os = w.os
  tape : w'.tape = w.tape
  output : w'.output = w.output

theorem Ext.refl (σ : Emb) (M : Mem) (w : World) : Ext σ M w σ M w := ⟨σ.le_refl, M.le_refl, Nat.le_refl _, rfl, rfl, rfl⟩
theorem Ext.trans {σ σ1 σ2 : Emb} {M M1 M2 : Mem} {w w1 w2 : World} (h : Ext σ M w σ1 M1 w1) (k : Ext σ1 M1 w1 σ2 M2 w2) : Ext σ M w σ2 M2 w2 :=
  ⟨Emb.le_trans h.s k.s, Mem.le_trans h.m k.m, Nat.le_trans h.size k.size, k.os.trans h.os, k.tape.trans h.tape, k.output.trans h.output⟩

/-- A deferred call. -/
structure ADef where
  fn : Fn
  cap : List AV
  args : List AV

/-- An activation: its temporaries (n of them), its deferred calls. -/
structure Env where
  n : Nat
  t : Nat → AV
  ds : List ADef

def Env.put (e : Env) (d : Option Nat) (v : AV) : Env :=
  match d with
  | none => e
  | some d => { e with t := fun x => cond (Nat.beq x d) v (e.t x) }

structure DefR (σ : Emb) (M : Mem) (d : ADef) (d' : Deferred) : Prop where
  t : ∃ c', d'.target = .fn d.fn c' ∧ VRs σ M d.cap c'
  a : VRs σ M d.args d'.args

structure ActR (σ : Emb) (M : Mem) (e : Env) (a : Act) : Prop where
  n : a.tmps.size = e.n
  t : ∀ x, VR σ M (e.t x) (a.tmps.getD x undef)
  dl : a.defers.length = e.ds.length
  d : ∀ (j : Nat) (x : ADef), e.ds[j]? = some x → ∃ y, a.defers[j]? = some y ∧ DefR σ M x y

theorem DefR.mono {σ σ' : Emb} {M M' : Mem} (hs : σ.le σ') (hm : M.le M') {d : ADef} {d' : Deferred} (h : DefR σ M d d') : DefR σ' M' d d' :=
  ⟨let ⟨c', h1, h2⟩ := h.t; ⟨c', h1, h2.mono hs hm⟩, h.a.mono hs hm⟩
theorem ActR.mono {σ σ' : Emb} {M M' : Mem} (hs : σ.le σ') (hm : M.le M') {e : Env} {a : Act} (h : ActR σ M e a) : ActR σ' M' e a :=
  ⟨h.n, fun x => (h.t x).mono hs hm, h.dl, fun j x hj => let ⟨y, h1, h2⟩ := h.d j x hj; ⟨y, h1, h2.mono hs hm⟩⟩
theorem ActR.put {σ : Emb} {M : Mem} {e : Env} {a : Act} (h : ActR σ M e a) {d : Option Nat} {v : AV} {v' : Value} (hd : ∀ x, d = some x → x < e.n) (hv : VR σ M v v') :
    ActR σ M (e.put d v) (a.put d v') := by
  cases d with
  | none => exact h
  | some d =>
    have hd' := hd d rfl
    refine ⟨by simp [Env.put, Act.put, h.n], fun x => ?_, h.dl, h.d⟩
    have hx := h.t x
    simp only [Env.put, Act.put, Array.getD_eq_getD_getElem?, Array.getElem?_setIfInBounds] at hx ⊢
    by_cases e1 : x = d
    · subst e1
      have : x < a.tmps.size := by rw [h.n]; exact hd'
      have hb : Nat.beq x x = true := Nat.beq_refl x
      simpa [this, hb] using hv
    · have hb : Nat.beq x d = false := by
        cases hh : Nat.beq x d with
        | false => rfl
        | true => exact absurd (Nat.eq_of_beq_eq_true hh) e1
      rw [if_neg (Ne.symm e1), hb]; exact hx

/-- How a call ends. -/
inductive Res where
  | ret (v : AV)
  | pan (v : AV)

def EndR (σ : Emb) (M : Mem) (Q : Res → Prop) : Ending → Prop
  | .returned v' => ∃ v, VR σ M v v' ∧ Q (.ret v)
  | .panicked chain => ∃ v v', chain = [{ v := v', recovered := false }] ∧ VR σ M v v' ∧ Q (.pan v)
  | .outgrown => False

/-- The contract of a call. -/
structure CallL (P : Program) (f : FuncId) (args : List AV) (h : Hp) (Q : Res → Hp → Prop) : Prop where
  run : ∀ (σ : Emb) (M : Mem) (w : World) (args' : Array Value), R P σ M h w → VRs σ M args args' →
    CallsIn Fence.wide 0 P f args' w fun e w' => ∃ σ' M' h', Ext σ M w σ' M' w' ∧ R P σ' M' h' w' ∧ EndR σ' M' (fun r => Q r h') e

theorem CallL.mono {P : Program} {f : FuncId} {args : List AV} {h : Hp} {Q Q' : Res → Hp → Prop} (c : CallL P f args h Q) (hq : ∀ r h', Q r h' → Q' r h') : CallL P f args h Q' :=
  ⟨fun σ M w args' hR hA => (c.run σ M w args' hR hA).mono fun e w' ⟨σ', M', h', h1, h2, h3⟩ => ⟨σ', M', h', h1, h2, by
    cases e with
    | returned v' => obtain ⟨v, a, b⟩ := h3; exact ⟨v, a, hq _ _ b⟩
    | panicked ch => obtain ⟨v, v', a, b, c⟩ := h3; exact ⟨v, v', a, b, hq _ _ c⟩
    | outgrown => exact h3⟩⟩

/-- How code is left. -/
inductive Xit where
  | normal
  | exit (id : Nat)
  | ret
  | pan (v : AV)

def XitR (σ : Emb) (M : Mem) : Xit → Exit → Prop
  | .normal, .normal => True
  | .exit i, .exit j => i = j
  | .ret, .ret => True
  | .pan v, .panic chain => ∃ v', chain = [{ v := v', recovered := false }] ∧ VR σ M v v'
  | _, _ => False

/-- The fence: every function; 'some l': the code is a round of the loop that lies at block l. -/
def fw (ro : Option Nat) : Fence := { Fence.wide with round := ro }

/-- What is asked behind code, in the model's words. -/
def PostR (P : Program) (σ : Emb) (M : Mem) (w : World) (Q : Xit → Env → Hp → Prop) : Exit → Act → World → Prop := fun x a' w' =>
  ∃ σ' M' h' e' y, Ext σ M w σ' M' w' ∧ R P σ' M' h' w' ∧ ActR σ' M' e' a' ∧ XitR σ' M' y x ∧ Q y e' h'

/-- The contract of code. -/
def CodeL (P : Program) (c : Code) (Q : Xit → Env → Hp → Prop) (e : Env) (h : Hp) : Prop :=
  ∀ (σ : Emb) (M : Mem) (w : World) (a : Act), R P σ M h w → ActR σ M e a → c.wpIn (fw none) 0 P (PostR P σ M w Q) a w

theorem PostR.of_ext {P : Program} {σ σ1 : Emb} {M M1 : Mem} {w w1 : World} {Q : Xit → Env → Hp → Prop} (h : Ext σ M w σ1 M1 w1) {x : Exit} {a' : Act} {w' : World}
    (k : PostR P σ1 M1 w1 Q x a' w') : PostR P σ M w Q x a' w' :=
  let ⟨σ', M', h', e', y, k1, k2⟩ := k; ⟨σ', M', h', e', y, h.trans k1, k2⟩
theorem PostR.mono {P : Program} {σ : Emb} {M : Mem} {w : World} {Q Q' : Xit → Env → Hp → Prop} (hq : ∀ y e h, Q y e h → Q' y e h) {x : Exit} {a' : Act} {w' : World}
    (k : PostR P σ M w Q x a' w') : PostR P σ M w Q' x a' w' :=
  let ⟨σ', M', h', e', y, k1, k2, k3, k4, k5⟩ := k; ⟨σ', M', h', e', y, k1, k2, k3, k4, hq _ _ _ k5⟩
theorem CodeL.mono {P : Program} {c : Code} {Q Q' : Xit → Env → Hp → Prop} {e : Env} {h : Hp} (k : CodeL P c Q e h) (hq : ∀ y e h, Q y e h → Q' y e h) : CodeL P c Q' e h :=
  fun σ M w a hR hA => wpIn_mono (k σ M w a hR hA) fun _ _ _ => PostR.mono hq

section rules
variable {P : Program} {Q : Xit → Env → Hp → Prop} {e : Env} {h : Hp}

theorem CodeL.skip (k : Q .normal e h) : CodeL P .skip Q e h := fun σ M _ _ hR hA => wpIn_skip ⟨σ, M, h, e, .normal, .refl _ _ _, hR, hA, trivial, k⟩
theorem CodeL.exit {id : Nat} (k : Q (.exit id) e h) : CodeL P (.exit id) Q e h := fun σ M _ _ hR hA => wpIn_exit ⟨σ, M, h, e, .exit id, .refl _ _ _, hR, hA, rfl, k⟩
theorem CodeL.ret (k : Q .ret e h) : CodeL P .ret Q e h := fun σ M _ _ hR hA => wpIn_ret ⟨σ, M, h, e, .ret, .refl _ _ _, hR, hA, trivial, k⟩

/-- Behind a first part: on with the second. -/
def andThen (next : Env → Hp → Prop) (Q : Xit → Env → Hp → Prop) : Xit → Env → Hp → Prop
  | .normal, e, h => next e h
  | x, e, h => Q x e h

theorem CodeL.seq {c d : Code} (k : CodeL P c (andThen (CodeL P d Q) Q) e h) : CodeL P (.seq c d) Q e h := by
  intro σ M w a hR hA
  refine wpIn_seq (wpIn_mono (k σ M w a hR hA) ?_)
  rintro x a1 w1 ⟨σ1, M1, h1, e1, y, hE, hR1, hA1, hX, hQ⟩
  cases y with
  | normal =>
    cases x <;> simp only [XitR] at hX
    exact wpIn_mono (hQ σ1 M1 w1 a1 hR1 hA1) fun _ _ _ => PostR.of_ext hE
  | exit i => cases x <;> simp only [XitR] at hX; exact ⟨σ1, M1, h1, e1, .exit i, hE, hR1, hA1, hX, hQ⟩
  | ret => cases x <;> simp only [XitR] at hX; exact ⟨σ1, M1, h1, e1, .ret, hE, hR1, hA1, trivial, hQ⟩
  | pan v => cases x <;> simp only [XitR] at hX; exact ⟨σ1, M1, h1, e1, .pan v, hE, hR1, hA1, hX, hQ⟩

def inBlk (id : Nat) (Q : Xit → Env → Hp → Prop) : Xit → Env → Hp → Prop
  | .exit j, e, h => if j = id then Q .normal e h else Q (.exit j) e h
  | x, e, h => Q x e h

theorem CodeL.block {id : Nat} {c : Code} (k : CodeL P c (inBlk id Q) e h) : CodeL P (.block id c) Q e h := by
  intro σ M w a hR hA
  refine wpIn_block (wpIn_mono (k σ M w a hR hA) ?_)
  rintro x a1 w1 ⟨σ1, M1, h1, e1, y, hE, hR1, hA1, hX, hQ⟩
  cases y with
  | normal => cases x <;> simp only [XitR] at hX; exact ⟨σ1, M1, h1, e1, .normal, hE, hR1, hA1, trivial, hQ⟩
  | exit i =>
    cases x <;> simp only [XitR] at hX
    subst hX
    simp only [Exit.inBlock]
    simp only [inBlk] at hQ
    by_cases hid : i = id
    · rw [if_pos hid] at hQ ⊢; exact ⟨σ1, M1, h1, e1, .normal, hE, hR1, hA1, trivial, hQ⟩
    · rw [if_neg hid] at hQ ⊢; exact ⟨σ1, M1, h1, e1, .exit i, hE, hR1, hA1, rfl, hQ⟩
  | ret => cases x <;> simp only [XitR] at hX; exact ⟨σ1, M1, h1, e1, .ret, hE, hR1, hA1, trivial, hQ⟩
  | pan v => cases x <;> simp only [XitR] at hX; exact ⟨σ1, M1, h1, e1, .pan v, hE, hR1, hA1, hX, hQ⟩

/-- A loop: what holds at its head; a number that every round lowers. -/
theorem CodeL.loop {c : Code} (I : Nat → Env → Hp → Prop) (h0 : ∃ n, I n e h)
    (round : ∀ n e h, I n e h → CodeL P c (andThen (fun e h => ∃ m, m < n ∧ I m e h) Q) e h) : CodeL P (.loop c) Q e h := by
  intro σ M w a hR hA
  obtain ⟨n0, hI⟩ := h0
  -- the state at the head, in the model's words; the measure: the least number that fits
  let J : Act → World → Nat → Prop := fun a1 w1 n => ∃ σ1 M1 h1 e1, Ext σ M w σ1 M1 w1 ∧ R P σ1 M1 h1 w1 ∧ ActR σ1 M1 e1 a1 ∧ I n e1 h1
  have hJ0 : J a w n0 := ⟨σ, M, h, e, .refl _ _ _, hR, hA, hI⟩
  suffices ∀ (b : Frame) (k : List Item) (cs : List Frame), b.roundOf = (fw none).round → (fw none).fn b.fn → (fw none).room (cs.length + 1 + 0) →
      ∀ n a1 w1, J a1 w1 n → ∃ x a' w', PostR P σ M w Q x a' w' ∧ ArrivesIn (Machine.fenced P (fw none)) P (lone (b.atR a1 (.code c :: .inLoop c :: k)) cs w1) b k cs x a' w' by
    intro b k cs hro hb hr
    obtain ⟨x, a', w', hq, harr⟩ := this b k cs hro hb hr n0 a w hJ0
    exact ⟨x, a', w', hq, .of_steps (.one (fenced_calm hb hr rfl) stepR_loop) harr⟩
  intro b k cs hro hb hr n
  induction n using Nat.strongRecOn with
  | _ n ih =>
    rintro a1 w1 ⟨σ1, M1, h1, e1, hE, hR1, hA1, hI1⟩
    obtain ⟨x, a2, w2, ⟨σ2, M2, h2, e2, y, hE2, hR2, hA2, hX, hQ⟩, harr⟩ := round n e1 h1 hI1 σ1 M1 w1 a1 hR1 hA1 b (.inLoop c :: k) cs hro hb hr
    cases y with
    | normal =>
      cases x <;> simp only [XitR] at hX
      obtain ⟨m, hm, hIm⟩ := hQ
      obtain ⟨x3, a3, w3, hq3, harr3⟩ := ih m hm a2 w2 ⟨σ2, M2, h2, e2, hE.trans hE2, hR2, hA2, hIm⟩
      exact ⟨x3, a3, w3, hq3, .of_steps (StepsIn.trans harr (.one (fenced_calm (fr := b.atR a2 (.inLoop c :: k)) hb hr rfl) stepR_inLoop)) harr3⟩
    | exit i =>
      cases x <;> simp only [XitR] at hX
      subst hX
      exact ⟨.exit i, a2, w2, ⟨σ2, M2, h2, e2, .exit i, hE.trans hE2, hR2, hA2, rfl, hQ⟩, .pass (x := .inLoop c) rfl (fun _ _ => .inl (by simp)) harr⟩
    | ret =>
      cases x <;> simp only [XitR] at hX
      exact ⟨.ret, a2, w2, ⟨σ2, M2, h2, e2, .ret, hE.trans hE2, hR2, hA2, trivial, hQ⟩, .pass (x := .inLoop c) rfl (fun _ _ => .inl (by simp)) harr⟩
    | pan v =>
      cases x with
      | panic ch => exact ⟨.panic ch, a2, w2, ⟨σ2, M2, h2, e2, .pan v, hE.trans hE2, hR2, hA2, hX, hQ⟩, .pass (x := .inLoop c) rfl (fun _ _ => .inl (by simp)) harr⟩
      | _ => simp only [XitR] at hX
end rules
end Go.L
