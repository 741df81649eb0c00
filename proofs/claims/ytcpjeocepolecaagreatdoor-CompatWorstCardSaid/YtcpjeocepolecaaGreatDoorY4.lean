/- The logic L (of no program), and plain laws: texts put together; no conditions. -/
import Derived.Test.YtcpjeocepolecaaGreatDoorY3
import Derived.KernelRfl
/-
  The logic L computed, part d: outcomes that are the same are taken once.
-/
namespace Go.L

/-! ## Equality, as a Boolean (false: they may yet be the same) -/

def eqFn : Fn → Fn → Bool
  | .func f, .func g => Nat.beq f g
  | _, _ => false
theorem eqFn_ok {a b : Fn} (h : eqFn a b = true) : a = b := by
  cases a <;> cases b <;> simp only [eqFn] at h <;> first | (cases h; done) | rw [Nat.eq_of_beq_eq_true h]

def eqS : List UInt8 → List UInt8 → Bool
  | [], [] => true
  | a :: l, b :: m => Nat.beq a.toNat b.toNat && eqS l m
  | _, _ => false
theorem eqS_ok : ∀ {a b : List UInt8}, eqS a b = true → a = b := by
  intro a
  induction a with
  | nil => intro b h; cases b with
    | nil => rfl
    | cons => cases h
  | cons x l ih => intro b h; cases b with
    | nil => cases h
    | cons y m =>
      simp only [eqS, Bool.and_eq_true] at h
      rw [ih h.2, UInt8.toNat_inj.1 (Nat.eq_of_beq_eq_true h.1)]

def eqON : Option Nat → Option Nat → Bool
  | none, none => true
  | some a, some b => Nat.beq a b
  | _, _ => false
theorem eqON_ok {a b : Option Nat} (h : eqON a b = true) : a = b := by
  cases a <;> cases b <;> simp only [eqON] at h <;> first | (cases h; done) | rfl | rw [Nat.eq_of_beq_eq_true h]

mutual
def eqA : AV → AV → Bool
  | .bool a, .bool b => a == b
  | .int k a, .int k' b => ikeq k k' && decide (a = b)
  | .str a, .str b => eqS a b
  | .nilp, .nilp => true
  | .ptr i k o, .ptr i' k' o' => Nat.beq i i' && (Nat.beq k k' && Nat.beq o o')
  | .iptr g cs o, .iptr g' cs' o' => Nat.beq g g' && (Nat.beq o o' && eqL cs cs')
  | .nils, .nils => true
  | .emp, .emp => true
  | .slc i k n c, .slc i' k' n' c' => Nat.beq i i' && (Nat.beq k k' && (Nat.beq n n' && eqON c c'))
  | .isl g es, .isl g' es' => Nat.beq g g' && eqLL es es'
  | .nilm, .nilm => true
  | .map i, .map j => Nat.beq i j
  | .func f a b, .func f' a' b' => eqFn f f' && (eqL a a' && eqL b b')
  | .nilf, .nilf => true
  | .yld i, .yld j => Nat.beq i j
  | .ifc t v, .ifc t' v' => Nat.beq t t' && eqA v v'
  | .nili, .nili => true
  | .agg a, .agg b => eqL a b
  | .tup a, .tup b => eqL a b
  | _, _ => false
def eqL : List AV → List AV → Bool
  | [], [] => true
  | a :: l, b :: m => eqA a b && eqL l m
  | _, _ => false
def eqLL : List (List AV) → List (List AV) → Bool
  | [], [] => true
  | a :: l, b :: m => eqL a b && eqLL l m
  | _, _ => false
end

mutual
theorem eqA_ok : ∀ (a : AV) {b : AV}, eqA a b = true → a = b
  | .bool a, b, h => by cases b <;> simp [eqA] at h; rw [h]
  | .int k a, b, h => by cases b <;> simp [eqA] at h; rw [ikeq_ok h.1, h.2]
  | .flt k a, b, h => by cases b <;> simp [eqA] at h
  | .str a, b, h => by cases b <;> simp [eqA] at h; rw [eqS_ok h]
  | .nilp, b, h => by cases b <;> simp [eqA] at h; rfl
  | .ptr i k o, b, h => by cases b <;> simp [eqA] at h; rw [h.1, h.2.1, h.2.2]
  | .iptr g cs o, b, h => by cases b <;> simp [eqA] at h; rw [h.1, h.2.1, eqL_ok cs h.2.2]
  | .nils, b, h => by cases b <;> simp [eqA] at h; rfl
  | .emp, b, h => by cases b <;> simp [eqA] at h; rfl
  | .slc i k n c, b, h => by cases b <;> simp [eqA] at h; rw [h.1, h.2.1, h.2.2.1, eqON_ok h.2.2.2]
  | .isl g es, b, h => by cases b <;> simp [eqA] at h; rw [h.1, eqLL_ok es h.2]
  | .nilm, b, h => by cases b <;> simp [eqA] at h; rfl
  | .map i, b, h => by cases b <;> simp [eqA] at h; rw [h]
  | .func f x y, b, h => by cases b <;> simp [eqA] at h; rw [eqFn_ok h.1, eqL_ok x h.2.1, eqL_ok y h.2.2]
  | .nilf, b, h => by cases b <;> simp [eqA] at h; rfl
  | .yld i, b, h => by cases b <;> simp [eqA] at h; rw [h]
  | .ifc t v, b, h => by cases b <;> simp [eqA] at h; rw [h.1, eqA_ok v h.2]
  | .nili, b, h => by cases b <;> simp [eqA] at h; rfl
  | .agg x, b, h => by cases b <;> simp [eqA] at h; rw [eqL_ok x h]
  | .tup x, b, h => by cases b <;> simp [eqA] at h; rw [eqL_ok x h]
theorem eqL_ok : ∀ (a : List AV) {b : List AV}, eqL a b = true → a = b
  | [], b, h => by cases b <;> simp [eqL] at h; rfl
  | x :: l, b, h => by cases b <;> simp [eqL] at h; rw [eqA_ok x h.1, eqL_ok l h.2]
theorem eqLL_ok : ∀ (a : List (List AV)) {b : List (List AV)}, eqLL a b = true → a = b
  | [], b, h => by cases b <;> simp [eqLL] at h; rfl
  | x :: l, b, h => by cases b <;> simp [eqLL] at h; rw [eqL_ok x h.1, eqLL_ok l h.2]
end

def eqM : MapL → MapL → Bool
  | [], [] => true
  | (k, v, n) :: l, (k', v', n') :: m => eqA k k' && (eqA v v' && (Nat.beq n n' && eqM l m))
  | _, _ => false
theorem eqM_ok : ∀ {a b : MapL}, eqM a b = true → a = b := by
  intro a
  induction a with
  | nil => intro b h; cases b with
    | nil => rfl
    | cons => cases h
  | cons x l ih => intro b h; cases b with
    | nil => cases h
    | cons y m =>
      obtain ⟨k, v, n⟩ := x
      obtain ⟨k', v', n'⟩ := y
      simp only [eqM, Bool.and_eq_true] at h
      rw [eqA_ok k h.1, eqA_ok v h.2.1, Nat.eq_of_beq_eq_true h.2.2.1, ih h.2.2.2]
def eqN : List Nat → List Nat → Bool
  | [], [] => true
  | a :: l, b :: m => Nat.beq a b && eqN l m
  | _, _ => false
theorem eqN_ok : ∀ {a b : List Nat}, eqN a b = true → a = b := by
  intro a
  induction a with
  | nil => intro b h; cases b with
    | nil => rfl
    | cons => cases h
  | cons x l ih => intro b h; cases b with
    | nil => cases h
    | cons y m =>
      simp only [eqN, Bool.and_eq_true] at h
      rw [Nat.eq_of_beq_eq_true h.1, ih h.2]

def eqB : EB → EB → Bool
  | .b (.row T es), .b (.row T' es') => Nat.beq T T' && eqLL es es'
  | .b (.map es c), .b (.map es' c') => Nat.beq c c' && eqM es es'
  | .b (.mapIter m s l t), .b (.mapIter m' s' l' t') => eqON m m' && (Nat.beq s s' && (eqN l l' && Nat.beq t t'))
  | .b (.strIter s p), .b (.strIter s' p') => Nat.beq p p' && eqS s s'
  | .b .dfr, .b .dfr => true
  | _, _ => false
theorem eqB_ok {a b : EB} (h : eqB a b = true) : a = b := by
  unfold eqB at h
  split at h <;> first | (cases h; done) | (simp only [Bool.and_eq_true] at h) | skip
  · rw [Nat.eq_of_beq_eq_true h.1, eqLL_ok _ h.2]
  · rw [Nat.eq_of_beq_eq_true h.1, eqM_ok h.2]
  · rw [eqON_ok h.1, Nat.eq_of_beq_eq_true h.2.1, eqN_ok h.2.2.1, Nat.eq_of_beq_eq_true h.2.2.2]
  · rw [Nat.eq_of_beq_eq_true h.1, eqS_ok h.2]
  · rfl

def eqO {α : Type} (q : α → α → Bool) : Option α → Option α → Bool
  | none, none => true
  | some a, some b => q a b
  | _, _ => false
theorem eqO_ok {α : Type} {q : α → α → Bool} (hq : ∀ {a b}, q a b = true → a = b) {a b : Option α} (h : eqO q a b = true) : a = b := by
  cases a <;> cases b <;> simp only [eqO] at h <;> first | (cases h; done) | rfl | rw [hq h]
def eqT {α : Type} (q : α → α → Bool) : Tr α → Tr α → Bool
  | .nil, .nil => true
  | .node l v r, .node l' v' r' => eqO q v v' && (eqT q l l' && eqT q r r')
  | _, _ => false
theorem eqT_ok {α : Type} {q : α → α → Bool} (hq : ∀ {a b}, q a b = true → a = b) : ∀ {a b : Tr α}, eqT q a b = true → a = b := by
  intro a
  induction a with
  | nil => intro b h; cases b with
    | nil => rfl
    | node => cases h
  | node l v r ihl ihr => intro b h; cases b with
    | nil => cases h
    | node l' v' r' =>
      simp only [eqT, Bool.and_eq_true] at h
      rw [eqO_ok hq h.1, ihl h.2.1, ihr h.2.2]
def eqH (a b : HT) : Bool := Nat.beq a.n b.n && eqT (eqO eqB) a.t b.t
theorem eqH_ok {a b : HT} (h : eqH a b = true) : a = b := by
  simp only [eqH, Bool.and_eq_true] at h
  cases a; cases b
  simp only at h
  rw [Nat.eq_of_beq_eq_true h.1, eqT_ok (fun h => eqO_ok eqB_ok h) h.2]

/-! ## Outcomes -/

def elemB {α : Type} (q : α → α → Bool) (x : α) : List α → Bool
  | [] => false
  | y :: r => match q x y with
    | true => true
    | false => elemB q x r
def ddL {α : Type} (q : α → α → Bool) : List α → List α
  | [] => []
  | x :: r => match elemB q x (ddL q r) with
    | true => ddL q r
    | false => x :: ddL q r
/-- Outcomes, each once (one: as it is). -/
def dd {α : Type} (q : α → α → Bool) : List α → List α
  | [x] => [x]
  | l => ddL q l
theorem elemB_ok {α : Type} {q : α → α → Bool} (hq : ∀ {a b}, q a b = true → a = b) {x : α} : ∀ {l : List α}, elemB q x l = true → x ∈ l := by
  intro l
  induction l with
  | nil => intro h; cases h
  | cons y r ih =>
    intro h
    unfold elemB at h
    split at h
    · rename_i h1; rw [hq h1]; simp
    · exact List.mem_cons_of_mem _ (ih h)
theorem ddL_ok {α : Type} {q : α → α → Bool} (hq : ∀ {a b}, q a b = true → a = b) : ∀ {l : List α} {Q : α → Prop}, (∀ x ∈ ddL q l, Q x) → ∀ x ∈ l, Q x := by
  intro l
  induction l with
  | nil => intro Q _ x hx; cases hx
  | cons y r ih =>
    intro Q h x hx
    unfold ddL at h
    split at h
    · rename_i h1
      rcases List.mem_cons.1 hx with rfl | hx
      · exact h _ (elemB_ok hq h1)
      · exact ih h x hx
    · rcases List.mem_cons.1 hx with rfl | hx
      · exact h _ (by simp)
      · exact ih (fun x hx => h x (List.mem_cons_of_mem _ hx)) x hx
theorem dd_ok {α : Type} {q : α → α → Bool} (hq : ∀ {a b}, q a b = true → a = b) {l : List α} {Q : α → Prop} (h : ∀ x ∈ dd q l, Q x) : ∀ x ∈ l, Q x := by
  unfold dd at h
  split at h
  · exact h
  · exact ddL_ok hq h

/-- All outcomes, on with each. -/
def bindL {α β : Type} : List α → (α → Option (List β)) → Option (List β)
  | [], _ => some []
  | [x], f => f x
  | x :: r, f => match f x with
    | some a => match bindL r f with
      | some b => some (a ++ b)
      | none => none
    | none => none
theorem bindL_ok {α β : Type} {f : α → Option (List β)} : ∀ {l : List α} {m : List β}, bindL l f = some m → ∀ x ∈ l, ∃ k, f x = some k ∧ ∀ y ∈ k, y ∈ m := by
  intro l
  induction l with
  | nil => intro m _ x hx; cases hx
  | cons a r ih =>
    intro m h x hx
    cases r with
    | nil =>
      rw [List.mem_singleton] at hx; subst hx
      exact ⟨m, h, fun y hy => hy⟩
    | cons b r =>
      simp only [bindL] at h
      split at h <;> first | cases h | skip
      rename_i k hk
      split at h <;> cases h
      rename_i k2 hk2
      rcases List.mem_cons.1 hx with rfl | hx
      · exact ⟨k, hk, fun y hy => List.mem_append_left _ hy⟩
      · obtain ⟨k3, h3, h4⟩ := ih hk2 x hx
        exact ⟨k3, h3, fun y hy => List.mem_append_right _ (h4 y hy)⟩
end Go.L

/-
  The logic L computed, part e: code; functions.
-/
namespace Go.L

/-- An activation, as a tree. -/
structure ET where
  n : Nat
  t : Tr AV
  ds : List ADef
def ET.env (s : ET) : Env := ⟨s.n, fun x => (s.t.get x).getD (.tup []), s.ds⟩
def ET.put (s : ET) (d : Option Nat) (v : AV) : ET :=
  match d with
  | none => s
  | some d => ⟨s.n, s.t.set d (some v), s.ds⟩
theorem ET.env_put (s : ET) (d : Option Nat) (v : AV) : (s.put d v).env = s.env.put d v := by
  cases d with
  | none => rfl
  | some d =>
    simp only [ET.put, ET.env, Env.put, Env.mk.injEq, true_and, and_true]
    funext x
    rw [Tr.get_set]
    by_cases e : x = d
    · subst e; simp [Nat.beq_refl]
    · have hb : Nat.beq x d = false := by
        cases hh : Nat.beq x d with
        | false => rfl
        | true => exact absurd (Nat.eq_of_beq_eq_true hh) e
      rw [if_neg e, hb]; rfl

inductive CR where
  | ret (v : AV) (h : HT)
  | pan (v : AV) (h : HT)
inductive OR where
  | nor (e : ET) (h : HT)
  | pan (v : AV) (e : ET) (h : HT)
abbrev XR := Xit × ET × HT
/-- The ending of a deferred call. -/
structure DR where
  r : Res
  u : Um
  h : HT

def CR.is (P : Program) : CR → Res → Hp → Prop
  | .ret v h, .ret v', h' => v' = v ∧ h' = h.hp P
  | .pan v h, .pan v', h' => v' = v ∧ h' = h.hp P
  | _, _, _ => False

/-- What a frame below gives: calls; code in a round; deferred calls. -/
structure Run where
  call : FuncId → List AV → HT → Option (List CR)
  code : ACode → ET → HT → Option (List XR)
  dfr : FuncId → List AV → Um → HT → Option (List DR)

/-- Does an operation run? none: it can't be told. -/
def eWant (e : ET) : Option (Nat × Bool) → Option Bool
  | none => some true
  | some (t, b) => match (e.t.get t).getD (.tup []) with
    | .bool c => some (c == b)
    | .tup _ => some false
    | _ => none

/-- A call to which memory is lent, and whose result is frozen. -/
def xP (P : Program) (run : Run) (f : FuncId) (args : List AV) (h : HT) : Option (List CR) :=
  match fzM (fzV anyMark 1 (h.hp P) 64) args with
  | some args' => match run.call f args' HT.nil with
    | some [.ret v h1] => match fzV mark0 0 (h1.hp P) 64 v with
      | some v' => some [.ret v' h]
      | none => none
    | _ => none
  | none => none

/-- All numbers that are taken are below n. -/
def ltT {α : Type} : Tr α → Nat → Nat → Nat → Bool
  | .nil, _, _, _ => true
  | .node l v r, a, m, n => (match v with | none => true | some _ => Nat.blt a n) && (ltT l (a + m) (2 * m) n && ltT r (a + 2 * m) (2 * m) n)
/-- These K numbers are not taken. -/
def freshT {α : Type} (t : Tr α) (b : Nat) : Nat → Bool
  | 0 => true
  | k + 1 => (match t.get (b + k) with | none => true | some _ => false) && freshT t b k
/-- A block, its numbers moved up. -/
def renE (b : Nat) : Option (Option EB) → Option EB
  | some (some (.b x)) => match renB b (some x) with
    | some y => some (.b y)
    | none => none
  | _ => none
mutual
/-- The numbers of a value. -/
def idsA : AV → List Nat → List Nat
  | .ptr i _ _, l => i :: l
  | .slc i _ _ _, l => i :: l
  | .map i, l => i :: l
  | .yld i, l => i :: l
  | .iptr _ cs _, l => idsL cs l
  | .isl _ es, l => idsLL es l
  | .func _ a b, l => idsL a (idsL b l)
  | .ifc _ v, l => idsA v l
  | .agg cs, l => idsL cs l
  | .tup cs, l => idsL cs l
  | _, l => l
def idsL : List AV → List Nat → List Nat
  | [], l => l
  | v :: r, l => idsA v (idsL r l)
def idsLL : List (List AV) → List Nat → List Nat
  | [], l => l
  | c :: r, l => idsL c (idsLL r l)
end
def idsM : MapL → List Nat → List Nat
  | [], l => l
  | (k, v, _) :: r, l => idsA k (idsA v (idsM r l))
def idsB : Option (Option EB) → List Nat → List Nat
  | some (some (.b (.row _ es))), l => idsLL es l
  | some (some (.b (.map es _))), l => idsM es l
  | some (some (.b (.mapIter (some m) _ _ _))), l => m :: l
  | _, l => l
/-- The blocks to which these numbers lead. -/
def reach (t : Tr (Option EB)) : Nat → List Nat → Tr Unit → Tr Unit
  | 0, _, s => s
  | _, [], s => s
  | f + 1, i :: w, s => match s.get i with
    | some _ => reach t f w s
    | none => reach t f (idsB (t.get i) w) (s.set i (some ()))
/-- What is taken over of what lies at k. -/
def adE (b : Nat) (s : Tr Unit) (t1 : Tr (Option EB)) (k : Nat) : Option EB :=
  match s.get k with
  | some _ => renE b (t1.get k)
  | none => none
def adT (b : Nat) (s : Tr Unit) (t1 : Tr (Option EB)) : Nat → Tr (Option EB) → Tr (Option EB)
  | 0, t => t
  | k + 1, t => (adT b s t1 k t).set (b + k) (some (adE b s t1 k))
/-- Is all of it taken over? -/
def adAll (s : Tr Unit) (t1 : Tr (Option EB)) : Nat → Bool
  | 0 => true
  | k + 1 => (match s.get k with
    | some _ => (renE 0 (t1.get k)).isSome
    | none => true) && adAll s t1 k

/-- A tree, seen whole before it is used. -/
def forceT {α β : Type} (t : Tr α) (k : Tr α → β) : β :=
  match t with
  | .nil => k .nil
  | .node l v r => k (.node l v r)
theorem forceT_eq {α β : Type} (t : Tr α) (k : Tr α → β) : forceT t k = k t := by cases t <;> rfl

/-- A call to which memory is lent, and whose blocks are taken over. -/
def xAd (P : Program) (run : Run) (f : FuncId) (args : List AV) (h : HT) : Option (List CR) :=
  match fzM (fzV anyMark 1 (h.hp P) 64) args with
  | some args' => match run.call f args' HT.nil with
    | some [.ret v h1] => forceT (reach h1.t 100000 (idsA v []) .nil) fun s => match m0 v && (ltT h1.t 0 1 h1.n && (freshT h.t h.n h1.n && adAll s h1.t h1.n)) with
      | true => some [.ret (v.ren h.n) ⟨adT h.n s h1.t h1.n h.t, h.n + h1.n⟩]
      | false => none
    | _ => none
  | none => none

/-- A loop's record, set anew and dropped if it is over. -/
def xSet (i : Nat) (st' : LSt) (pend' : Option Jmp) (v : AV) (h : HT) : Option (List CR) :=
  match h.t.get i with
  | some (some (.l n t ps a b _ _)) => some [.ret v (h.set i (.l n t ps a b st' pend'))]
  | _ => none

def putsT (t : Tr AV) : List Nat → List AV → Tr AV
  | p :: ps, v :: vs => putsT (t.set p (some v)) ps vs
  | _, _ => t

/-- One call of yield. -/
def xRound (run : Run) (i : Nat) (args : List AV) (h : HT) : Option (List CR) :=
  match h.t.get i with
  | some (some (.l n t ps a b .ready _)) => match Nat.beq args.length ps.length with
    | true => match run.code a ⟨n, putsT t ps args, []⟩ h with
      | some outs => bindL outs fun x => match x with
        | (.normal, e1, h1) => match h1.t.get i with
          | some (some (.l n1 t1 ps1 a1 b1 .ready p1)) => match run.code b e1 (h1.set i (.l n1 t1 ps1 a1 b1 .busy p1)) with
            | some outs2 => bindL outs2 fun x => match x with
              | (.normal, _, h2) => xSet i .ready none (.bool true) h2
              | (.ret, _, h2) => xSet i .done (some .ret) (.bool false) h2
              | (.exit id, _, h2) => xSet i .done (some (.exit id)) (.bool false) h2
              | _ => none
            | none => none
          | _ => none
        | _ => none
      | none => none
    | false => none
  | _ => none

/-- The entries of a map that may come next. -/
def unseen (seen : List Nat) (es : MapL) : MapL := es.filter fun x => !(seen.any fun y => Nat.beq y x.2.2)

def xNext (i : Nat) (h : HT) : Option (List CR) :=
  match h.t.get i with
  | some (some (.b (.mapIter none _ _ _))) => some [.ret (.tup [.bool false]) (h.del i)]
  | some (some (.b (.mapIter (some m) since seen stepped))) => match h.t.get m with
    | some (some (.b (.map es c))) => match seen.isEmpty || (es.isEmpty || es.any fun x => Nat.blt x.2.2 stepped) with
      | true => some ((match (unseen seen es).all fun x => Nat.ble since x.2.2 with
          | true => [.ret (.tup [.bool false]) (h.del i)]
          | false => []) ++ (unseen seen es).map fun x => .ret (.tup [.bool true, x.1, x.2.1]) (h.set i (.b (.mapIter (some m) since (seen ++ [x.2.2]) c))))
      | false => none
    | _ => none
  | _ => none

/-- An operation that calls, or the like: what it gives. -/
def xOpO (P : Program) (hb : FuncId → Bool) (run : Run) (o : AOp) (e : ET) (h : HT) : Option (List CR) :=
  match o with
  | .call f args => run.call f (args.map (ev e.env)) h
  | .callv x args => match ev e.env x with
    | .func (.func f) first cap => match hb f with
      | true => run.call f (first ++ args.map (ev e.env) ++ cap) h
      | false => none
    | .yld i => xRound run i (args.map (ev e.env)) h
    | .func (.method nm) [.ifc t v] [] => match tlook t (invTab P nm) with
      | some f => run.call f (v :: args.map (ev e.env)) h
      | none => none
    | _ => none
  | .inv tab x args => match ev e.env x with
    | .ifc t v => match tlook t tab with
      | some f => run.call f (v :: args.map (ev e.env)) h
      | none => none
    | _ => none
  | .nxm x => match ev e.env x with
    | .ptr i 0 0 => xNext i h
    | _ => none
  | .pcall f args => xP P run f (args.map (ev e.env)) h
  | .pcallv x args => match ev e.env x with
    | .func (.func f) first cap => match hb f with
      | true => xP P run f (first ++ args.map (ev e.env) ++ cap) h
      | false => none
    | _ => none
  | .acall f args => xAd P run f (args.map (ev e.env)) h
  | .acallv x args => match ev e.env x with
    | .func (.func f) first cap => match hb f with
      | true => xAd P run f (first ++ args.map (ev e.env) ++ cap) h
      | false => none
    | _ => none
  | .isnilu neg x => match eN_isnil .sl neg x e.env (h.hp P) with
    | some v => some [.ret v h]
    | none => none
  | .nilm x => match ev e.env x with
    | .func (.func f) a b => some [.ret (.func (.func f) a b) h]
    | .func (.method nm) [.ifc t v] [] => match (tlook t (invTab P nm)).isSome with
      | true => some [.ret (.func (.method nm) [.ifc t v] []) h]
      | false => none
    | _ => none
  | .pan x => match ev e.env x with
    | .ifc t v => some [.pan (.ifc t v) h]
    | _ => none
  | o => match eE h.n o e.env (h.hp P) with
    | some (v, l) => some [.ret v (h.chg l)]
    | none => none

def runN (r : Option AV) (h : HT) : Option (List CR) :=
  match r with
  | some v => some [.ret v h]
  | none => none
def runE (r : EO) (h : HT) : Option (List CR) :=
  match r with
  | some (v, l) => some [.ret v (h.chg l)]
  | none => none
/-- An operation: what it gives. -/
def xOp (P : Program) (hb : FuncId → Bool) (run : Run) (o : AOp) (e : ET) (h : HT) : Option (List CR) :=
  match prepOp o with
  | .n f => runN (f e.env (h.hp P)) h
  | .e f => runE (f h.n e.env (h.hp P)) h
  | .o => xOpO P hb run o e h

def xOps (P : Program) (hb : FuncId → Bool) (run : Run) : List AOper → ET → HT → Option (List OR)
  | [], e, h => some [.nor e h]
  | ⟨d, o, g⟩ :: r, e, h => match eWant e g with
    | some true => match xOp P hb run o e h with
      | some outs => bindL outs fun x => match x with
        | .ret v h' => xOps P hb run r (e.put d v) h'
        | .pan v h' => some [.pan v e h']
      | none => none
    | some false => xOps P hb run r (e.put d (.tup [])) h
    | none => none

def eqD : ADef → ADef → Bool
  | .call f a b, .call f' a' b' => eqFn f f' && (eqL a a' && eqL b b')
  | .mark i, .mark j => Nat.beq i j
  | _, _ => false
def eqDs : List ADef → List ADef → Bool
  | [], [] => true
  | a :: l, b :: m => eqD a b && eqDs l m
  | _, _ => false
def eqE (a b : ET) : Bool := Nat.beq a.n b.n && (eqDs a.ds b.ds && eqT eqA a.t b.t)
def eqX : XR → XR → Bool
  | (.normal, e, h), (.normal, e', h') => eqE e e' && eqH h h'
  | _, _ => false
def eqC : CR → CR → Bool
  | .ret v h, .ret v' h' => eqA v v' && eqH h h'
  | _, _ => false

def iterX (f : ET → HT → Option (List XR)) : Nat → ET → HT → Option (List XR)
  | 0, _, _ => none
  | n + 1, e, h => match f e h with
    | some outs => bindL (dd eqX outs) fun x => match x with
      | (.normal, e', h') => iterX f n e' h'
      | x => some [x]
    | none => none

/-- Behind an order; a panic: none of what results are read of may have been written. -/
def altX (kp D : List Nat) (e : ET) : OR → Option (List XR)
  | .nor e h => some [(.normal, e, h)]
  | .pan v _ h => match D.all fun d => !(inL d kp) with
    | true => some [(.pan v, e, h)]
    | false => none
/-- Each of some orders. -/
def xAlts (f : List AOper → Option (List OR)) (g : OR → Option (List XR)) : List (List AOper) → Option (List XR)
  | [] => some []
  | [l] => match f l with
    | some outs => bindL outs g
    | none => none
  | l :: r => match f l with
    | some outs => match bindL outs g with
      | some a => match xAlts f g r with
        | some b => some (a ++ b)
        | none => none
      | none => none
    | none => none

/-- The function that was ranged over has returned. -/
def xOver (i j : Nat) (e : ET) (h : HT) : Option (List XR) :=
  match h.t.get j with
  | some (some (.l _ _ _ _ _ st pend)) => match st with
    | .busy => none
    | _ => match pend with
      | none => some [(.normal, ⟨e.n, e.t, .mark i :: e.ds⟩, h.del j)]
      | some .ret => some [(.ret, ⟨e.n, e.t, .mark i :: e.ds⟩, h.del j)]
      | some (.exit id) => some [(.exit id, ⟨e.n, e.t, .mark i :: e.ds⟩, h.del j)]
  | _ => none

def opsX (r : Option (List OR)) : Option (List XR) :=
  match r with
  | some outs => bindL outs fun x => match x with
    | .nor e h => some [(.normal, e, h)]
    | .pan v e h => some [(.pan v, e, h)]
  | none => none
def seqX (r : Option (List XR)) (k : ET → HT → Option (List XR)) : Option (List XR) :=
  match r with
  | some outs => bindL outs fun x => match x with
    | (.normal, e', h') => k e' h'
    | x => some [x]
  | none => none
def condX (v : AV) (a b : ET → HT → Option (List XR)) (e : ET) (h : HT) : Option (List XR) :=
  match v with
  | .bool true => a e h
  | .bool false => b e h
  | _ => none
def blockX (id : Nat) (r : Option (List XR)) : Option (List XR) :=
  match r with
  | some outs => bindL outs fun x => match x with
    | (.exit j, e', h') => match Nat.beq j id with
      | true => some [(.normal, e', h')]
      | false => some [(.exit j, e', h')]
    | x => some [x]
  | none => none
def orX (r : Option (List XR)) (k : ET → HT → Option (List XR)) (e : ET) (h : HT) : Option (List XR) :=
  match r with
  | some r => some r
  | none => k e h
def altsX (r : Option (List XR)) : Option (List XR) :=
  match r with
  | some m => some (dd eqX m)
  | none => none
def dfrX (x : AOpd) (args : List AOpd) (e : ET) (h : HT) : Option (List XR) :=
  match ev e.env x with
  | .func (.func f) first cap => some [(.normal, ⟨e.n, e.t, .call (.func f) cap (first ++ args.map (ev e.env)) :: e.ds⟩, h)]
  | _ => none
def rngX (P : Program) (hb : FuncId → Bool) (run : Run) (g : AOpd) (ps : List Nat) (a b : ACode) (e : ET) (h : HT) : Option (List XR) :=
  match ev e.env g with
  | .func (.func f) first cap => match hb f && (!((h.hp P).u h.n) && !(((h.set h.n (.b .dfr)).hp P).u (h.n + 1))) with
    | true => match run.call f (first ++ [.yld (h.n + 1)] ++ cap) ((h.set h.n (.b .dfr)).set (h.n + 1) (.l e.n e.t ps a b .ready none)) with
      | some outs => bindL outs fun x => match x with
        | .ret _ h' => xOver h.n (h.n + 1) e h'
        | .pan v h' => some [(.pan v, ⟨e.n, e.t, .mark h.n :: e.ds⟩, h')]
      | none => none
    | false => none
  | _ => none

def xC (P : Program) (hb : FuncId → Bool) (run : Run) (fuel : Nat) (kp : List Nat) : ACode → ET → HT → Option (List XR)
  | .skip, e, h => some [(.normal, e, h)]
  | .ops l, e, h => opsX (xOps P hb run l e h)
  | .seq a b, e, h => seqX (xC P hb run fuel kp a e h) (xC P hb run fuel kp b)
  | .cond c a b, e, h => condX (ev e.env c) (xC P hb run fuel kp a) (xC P hb run fuel kp b) e h
  | .block id c, e, h => blockX id (xC P hb run fuel kp c e h)
  | .loop c, e, h => iterX (xC P hb run fuel kp c) fuel e h
  | .exit id, e, h => some [(.exit id, e, h)]
  | .ret, e, h => some [(.ret, e, h)]
  | .orr a b, e, h => orX (xC P hb run fuel kp a e h) (xC P hb run fuel kp b) e h
  | .alts D ls, e, h => altsX (xAlts (fun l => xOps P hb run l e h) (altX kp D e) ls)
  | .dfr x args, e, h => dfrX x args e h
  | .rngf g ps a b, e, h => rngX P hb run g ps a b e h
  | _, _, _ => none

def xRes (e : Env) (h : Hp) : List ARes → Option (List AV)
  | [] => some []
  | .tmp t :: r => match xRes e h r with
    | some l => some (e.t t :: l)
    | none => none
  | .cell1 t :: r => match eN (.ld1 (.t t)) e h, xRes e h r with
    | some v, some l => some (v :: l)
    | _, _ => none
  | .cella t n :: r => match eN (.lda n (.t t)) e h, xRes e h r with
    | some v, some l => some (v :: l)
    | _, _ => none

def argsT : List AV → Nat → Tr AV → Tr AV
  | [], _, t => t
  | a :: r, i, t => argsT r (i + 1) (t.set i (some a))

/-- A function's code: its temporaries, its code, its results. -/
structure FC where
  n : Nat
  c : ACode
  r : List ARes

/-- The temporaries that results are read of. -/
def resT : List ARes → List Nat
  | [] => []
  | .tmp t :: r => t :: resT r
  | .cell1 t :: r => t :: resT r
  | .cella t _ :: r => t :: resT r

/-- A function goes out. -/
def xLeave (P : Program) (hb : FuncId → Bool) (run : Run) (rs : List ARes) : List ADef → Um → ET → HT → Option (List CR)
  | [], .ret, e, h => match xRes e.env (h.hp P) rs with
    | some l => some [.ret (oneV l) h]
    | none => none
  | [], .pan v, _, h => some [.pan v h]
  | [], .rcv _, _, _ => none
  | .mark i :: ds, u, e, h => match h.t.get i with
    | some (some (.b .dfr)) => xLeave P hb run rs ds u e (h.del i)
    | _ => none
  | .call (.func f) cap args :: ds, u, e, h => match hb f with
    | true => match run.dfr f (args ++ cap) u h with
      | some outs => bindL outs fun x => match x.r with
        | .ret _ => xLeave P hb run rs ds (settleU x.u) e x.h
        | .pan _ => none
      | none => none
    | false => none
  | _ :: _, _, _, _ => none

/-- Blocks that nothing leads to any more: iterators. -/
def sweep : Nat → Nat → HT → HT
  | 0, _, h => h
  | f + 1, i, h => match h.t.get i with
    | some (some (.b (.mapIter ..))) => sweep f (i + 1) (h.del i)
    | some (some (.b (.strIter ..))) => sweep f (i + 1) (h.del i)
    | some (some (.l ..)) => sweep f (i + 1) (h.del i)
    | _ => sweep f (i + 1) h
def sweepC (n0 : Nat) : CR → CR
  | .ret v h => .ret v (sweep (h.n - n0) n0 h)
  | x => x
def tidy (n0 : Nat) : List CR → List CR
  | [x] => [x]
  | l => dd eqC (l.map (sweepC n0))

def xFun (P : Program) (hb : FuncId → Bool) (codes : Tr FC) (loops : Nat) (run : Run) (f : FuncId) (args : List AV) (h : HT) : Option (List CR) :=
  match codes.get f with
  | none => none
  | some c => match Nat.ble args.length c.n with
    | false => none
    | true => match xC P hb run loops (resT c.r) c.c ⟨c.n, argsT args 0 .nil, []⟩ h with
      | some outs => match bindL outs fun x => match x with
          | (.normal, e', h') => xLeave P hb run c.r e'.ds .ret e' h'
          | (.ret, e', h') => xLeave P hb run c.r e'.ds .ret e' h'
          | (.pan v, e', h') => xLeave P hb run c.r e'.ds (.pan v) e' h'
          | _ => none with
        | some l => some (tidy h.n l)
        | none => none
      | none => none

abbrev XS := Xit × ET × HT × Um
def putsET (e : ET) : List (Option Nat × AOpd) → ET
  | [] => e
  | (d, x) :: r => putsET (e.put d (ev e.env x)) r
def xCS (P : Program) (hb : FuncId → Bool) (run : Run) (fuel : Nat) : ACode → ET → HT → Um → Option (List XS)
  | .seq a b, e, h, u => match xCS P hb run fuel a e h u with
    | some outs => bindL outs fun x => match x with
      | (.normal, e', h', u') => xCS P hb run fuel b e' h' u'
      | x => some [x]
    | none => none
  | .cond c a b, e, h, u => match ev e.env c with
    | .bool true => xCS P hb run fuel a e h u
    | .bool false => xCS P hb run fuel b e h u
    | _ => none
  | .recv d ms, e, h, u => match u with
    | .pan v => some [(.normal, putsET (e.put d v) ms, h, .rcv v)]
    | u => some [(.normal, putsET (e.put d .nili) ms, h, u)]
  | c, e, h, u => match xC P hb run fuel [] c e h with
    | some outs => some (outs.map fun x => (x.1, x.2.1, x.2.2, u))
    | none => none

def xDfr (P : Program) (hb : FuncId → Bool) (codes : Tr FC) (loops : Nat) (run : Run) (f : FuncId) (args : List AV) (u : Um) (h : HT) : Option (List DR) :=
  match codes.get f with
  | none => none
  | some c => match Nat.ble args.length c.n with
    | false => none
    | true => match xCS P hb run loops c.c ⟨c.n, argsT args 0 .nil, []⟩ h u with
      | some outs => bindL outs fun x => match x with
        | (y, e', h', u') => match e'.ds with
          | [] => match y with
            | .exit _ => none
            | .pan v => some [⟨.pan v, u', h'⟩]
            | _ => match xRes e'.env (h'.hp P) c.r with
              | some l => some [⟨.ret (oneV l), u', h'⟩]
              | none => none
          | _ => none
      | none => none

/-- The calls, at most so deep. -/
def xM (P : Program) (hb : FuncId → Bool) (codes : Tr FC) (loops : Nat) : Nat → Run
  | 0 => ⟨fun _ _ _ => none, fun _ _ _ => none, fun _ _ _ _ => none⟩
  | d + 1 => ⟨xFun P hb codes loops (xM P hb codes loops d), fun c e h => xC P hb (xM P hb codes loops d) loops [] c e h, xDfr P hb codes loops (xM P hb codes loops d)⟩
end Go.L

/-
  The logic L computed, part f: the evaluator is sound.
-/
namespace Go.L

section
variable {P : Program}

def CRQ (P : Program) (Q : Res → Hp → Prop) : CR → Prop
  | .ret v h => Q (.ret v) (h.hp P)
  | .pan v h => Q (.pan v) (h.hp P)
def XRQ (P : Program) (Q : Xit → Env → Hp → Prop) (x : XR) : Prop := Q x.1 x.2.1.env (x.2.2.hp P)
def ORQ (P : Program) (K : Env → Hp → Prop) (X : AV → Env → Hp → Prop) : OR → Prop
  | .nor e h => K e.env (h.hp P)
  | .pan v e h => X v e.env (h.hp P)
/-- A result, on to 'next' or 'X'. -/
def nxt (next X : AV → Hp → Prop) : Res → Hp → Prop := fun r h => match r with
  | .ret v => next v h
  | .pan v => X v h

/-- Behind a panic, only these temporaries are looked at. -/
def PanC (kp : List Nat) (Q : Xit → Env → Hp → Prop) : Prop := ∀ v e e' h, e.n = e'.n → e.ds = e'.ds → (∀ t, inL t kp = true → e.t t = e'.t t) → Q (.pan v) e h → Q (.pan v) e' h

structure RunOK (P : Program) (run : Run) : Prop where
  call : ∀ (f : FuncId) (args : List AV) (h : HT) (l : List CR) (Q : Res → Hp → Prop), run.call f args h = some l → (∀ x ∈ l, CRQ P Q x) → CallL P f args (h.hp P) Q
  code : ∀ (c : ACode) (e : ET) (h : HT) (l : List XR) (Q : Xit → Env → Hp → Prop), run.code c e h = some l → PanC [] Q → (∀ x ∈ l, XRQ P Q x) → LCode P true c Q e.env (h.hp P)
  dfr : ∀ (f : FuncId) (args : List AV) (u : Um) (h : HT) (l : List DR) (Q : Res → Um → Hp → Prop), run.dfr f args u h = some l → (∀ x ∈ l, Q x.r x.u (x.h.hp P)) → DefL P f args u (h.hp P) Q

def BodyOK (P : Program) (hb : FuncId → Bool) : Prop := ∀ f, hb f = true → HasBody P f

theorem fz_args {args args' : List AV} {h : Hp} (ha : fzM (fzV anyMark 1 h 64) args = some args') : FzL anyMark 1 h args args' :=
  ⟨(fzM_ok ha).1, fun q v v' h1 h2 => fzV_ok _ _ _ ((fzM_ok ha).2 q v v' h1 h2)⟩

theorem xP_ok {run : Run} (hrun : RunOK P run) {f : FuncId} {args : List AV} {h : HT} {l : List CR} (hx : xP P run f args h = some l) : ∃ v, l = [.ret v h] ∧ PureAt P f args (h.hp P) v := by
  unfold xP at hx
  split at hx <;> first | cases hx | skip
  rename_i args' ha
  split at hx <;> first | cases hx | skip
  rename_i v h1 hr
  split at hx <;> cases hx
  rename_i v' hv
  refine ⟨v', rfl, fun h' hle => ?_⟩
  have k := hrun.call f args' HT.nil _ (fun r h2 => ∃ v v2, r = .ret v ∧ Fz mark0 0 h2 v v2 ∧ v2 = v') hr (fun x hx => by
    rw [List.mem_singleton] at hx; subst hx; exact ⟨v, v', rfl, fzV_ok _ _ _ hv, rfl⟩)
  rw [HT.hp_nil] at k
  exact (CallL.lent (fz_args ha) (Q := fun x => x = v') k h' hle).mono fun r h2 ⟨x, h1, h2, h3⟩ => ⟨by rw [h1, h2], h3⟩

/-! ### Taken over -/

theorem ltT_ok {α : Type} : ∀ (t : Tr α) (a m n i : Nat) (x : α), ltT t a m n = true → t.get i = some x → a + m * i < n := by
  intro t
  induction t with
  | nil => intro a m n i x _ h; rw [Tr.get_nil] at h; cases h
  | node l v r ihl ihr =>
    intro a m n i x ht hi
    simp only [ltT, Bool.and_eq_true] at ht
    rw [Tr.get_node] at hi
    split at hi
    · rename_i h0
      obtain rfl := Nat.eq_of_beq_eq_true h0
      subst hi
      have := Nat.le_of_ble_eq_true ht.1
      rw [Nat.mul_zero, Nat.add_zero]; exact this
    · rename_i h0
      have hi0 : i ≠ 0 := fun e => by subst e; cases h0
      split at hi
      · rename_i h4
        have h4' := Nat.eq_of_beq_eq_true h4
        have := ihl _ _ _ _ _ ht.2.1 hi
        have e : i = 2 * (i / 2) + 1 := by omega
        have e2 : m * i = 2 * m * (i / 2) + m := by
          conv => lhs; rw [e]
          rw [Nat.mul_add, Nat.mul_one, ← Nat.mul_assoc, Nat.mul_comm m 2]
        omega
      · rename_i h4
        have h4' : i % 2 ≠ 1 := fun e => by rw [e] at h4; cases h4
        have := ihr _ _ _ _ _ ht.2.2 hi
        have e : i = 2 * (i / 2 - 1) + 2 := by omega
        have e2 : m * i = 2 * m * (i / 2 - 1) + 2 * m := by
          conv => lhs; rw [e]
          rw [Nat.mul_add, ← Nat.mul_assoc, Nat.mul_comm m 2]
        omega

theorem freshT_ok {α : Type} {t : Tr α} {b : Nat} : ∀ {K : Nat}, freshT t b K = true → ∀ i, i < K → t.get (b + i) = none := by
  intro K
  induction K with
  | zero => intro _ i hi; omega
  | succ k ih =>
    intro h i hi
    simp only [freshT, Bool.and_eq_true] at h
    by_cases e : i = k
    · subst e
      have := h.1
      split at this
      · assumption
      · cases this
    · exact ih h.2 i (by omega)

theorem adT_get {b : Nat} {s : Tr Unit} {t1 : Tr (Option EB)} : ∀ (K : Nat) (t : Tr (Option EB)) (j : Nat), (adT b s t1 K t).get j = if b ≤ j ∧ j < b + K then some (adE b s t1 (j - b)) else t.get j := by
  intro K
  induction K with
  | zero => intro t j; rw [if_neg (by omega)]; rfl
  | succ k ih =>
    intro t j
    rw [adT, Tr.get_set, ih]
    by_cases e : j = b + k
    · subst e
      rw [if_pos rfl, if_pos (by omega), Nat.add_sub_cancel_left]
    · rw [if_neg e]
      by_cases e2 : b ≤ j ∧ j < b + k
      · rw [if_pos e2, if_pos (by omega)]
      · rw [if_neg e2, if_neg (by omega)]

theorem jn_renE {b : Nat} (x : Option (Option EB)) : jn P (some (renE b x)) = renB b (jn P x) := by
  cases x with
  | none => rfl
  | some y => cases y with
    | none => rfl
    | some z => cases z with
      | l n t ps c d st pend => rfl
      | b z =>
        simp only [renE]
        cases h : renB b (some z) with
        | none => simp [jn, EB.bk, h]
        | some w => simp [jn, EB.bk, h]

theorem xAd_ok {run : Run} (hrun : RunOK P run) {f : FuncId} {args : List AV} {h : HT} {l : List CR} (hx : xAd P run f args h = some l) :
    ∃ K V B h2, PureAd P f args (h.hp P) K V B ∧ l = [.ret (V h.n) h2] ∧ (∀ i, i < K → Fresh (h.hp P) (h.n + i)) ∧ h2.hp P = (h.hp P).adopt h.n K (B h.n) := by
  unfold xAd at hx
  split at hx <;> first | cases hx | skip
  rename_i args' ha
  split at hx <;> first | cases hx | skip
  rename_i v h1 hr
  rw [forceT_eq] at hx
  generalize reach h1.t 100000 (idsA v []) .nil = s at hx
  split at hx <;> cases hx
  rename_i hc
  simp only [Bool.and_eq_true] at hc
  obtain ⟨hm, hlt, hfr, _⟩ := hc
  have k := hrun.call f args' HT.nil _ (fun r h2 => r = .ret v ∧ h2 = h1.hp P) hr (fun x hx => by rw [List.mem_singleton] at hx; subst hx; exact ⟨rfl, rfl⟩)
  rw [HT.hp_nil] at k
  have hK : ∀ i, (h1.hp P).u i = true → i < h1.n := fun i hi => by
    have hi' : (h1.t.get i).isSome = true := hi
    obtain ⟨x, hx⟩ := Option.isSome_iff_exists.1 hi'
    have := ltT_ok _ _ _ _ _ _ hlt hx
    omega
  have hB0 : ∀ i y, (fun i => match s.get i with | some _ => (h1.hp P) i | none => none) i = some y → (h1.hp P) i = some y := fun i y hy => by
    simp only at hy
    split at hy
    · exact hy
    · cases hy
  refine ⟨h1.n, _, _, _, CallL.adopt hB0 (fz_args ha) k hK hm, rfl, fun i hi => ⟨?_, ?_⟩, ?_⟩
  · show (h.t.get (h.n + i)).isSome = false
    rw [freshT_ok hfr i hi]; rfl
  · show jn P (h.t.get (h.n + i)) = none
    rw [freshT_ok hfr i hi]; rfl
  · refine Hp.ext (fun j => ?_) (fun j => ?_)
    · show jn P ((adT h.n s h1.t h1.n h.t).get j) = if h.n ≤ j ∧ j < h.n + h1.n then renB h.n (match s.get (j - h.n) with | some _ => jn P (h1.t.get (j - h.n)) | none => none) else jn P (h.t.get j)
      rw [adT_get]
      by_cases e : h.n ≤ j ∧ j < h.n + h1.n
      · rw [if_pos e, if_pos e]
        unfold adE
        cases hs : s.get (j - h.n) with
        | none => rfl
        | some _ => exact jn_renE _
      · rw [if_neg e, if_neg e]
    · show ((adT h.n s h1.t h1.n h.t).get j).isSome = if h.n ≤ j ∧ j < h.n + h1.n then true else (h.t.get j).isSome
      rw [adT_get]
      split <;> rfl

/-! ### Rounds, iterators -/

theorem hp_at {h : HT} {i : Nat} {b : EB} (hi : h.t.get i = some (some b)) : (h.hp P) i = some (b.bk P) := by
  show jn P (h.t.get i) = _
  rw [hi]; rfl
theorem hp_u {h : HT} {i : Nat} {b : Option EB} (hi : h.t.get i = some b) : (h.hp P).u i = true := by
  show (h.t.get i).isSome = true
  rw [hi]; rfl

theorem xSet_ok {i : Nat} {st' : LSt} {pend' : Option Jmp} {v : AV} {h : HT} {l : List CR} {next X : AV → Hp → Prop} (hx : xSet i st' pend' v h = some l) (hl : ∀ x ∈ l, CRQ P (nxt next X) x) : loopSet i st' pend' (fun _ _ => True) (next v) (h.hp P) := by
  unfold xSet at hx
  split at hx <;> cases hx
  rename_i n t ps a b st pend hi
  refine ⟨_, _, _, _, _, _, hp_at hi, trivial, .inl ?_⟩
  have := hl _ (List.mem_singleton.2 rfl)
  simp only [CRQ, nxt, HT.hp_set] at this
  exact this

theorem putsT_env {n : Nat} : ∀ (ps : List Nat) (vs : List AV) (t : Tr AV) (ds : List ADef), (⟨n, putsT t ps vs, ds⟩ : ET).env = putsP (⟨n, t, ds⟩ : ET).env ps vs := by
  intro ps
  induction ps with
  | nil => intro vs t ds; simp [putsT, putsP]
  | cons p ps ih =>
    intro vs t ds
    cases vs with
    | nil => simp [putsT, putsP]
    | cons v vs =>
      simp only [putsT, putsP, ih]
      congr 1
      exact ET.env_put ⟨n, t, ds⟩ (some p) v

theorem xRound_ok {run : Run} (hrun : RunOK P run) {i : Nat} {args : List AV} {h : HT} {l : List CR} {next X : AV → Hp → Prop} (hx : xRound run i args h = some l) (hl : ∀ x ∈ l, CRQ P (nxt next X) x) : RoundL P i args (h.hp P) next := by
  unfold xRound at hx
  split at hx <;> first | cases hx | skip
  rename_i n t ps a b pend hi
  split at hx <;> first | cases hx | skip
  rename_i hlen
  split at hx <;> first | cases hx | skip
  rename_i outs ho
  refine RoundL.of (md := true) (hp_at hi) (Nat.eq_of_beq_eq_true hlen) ?_
  have henv := putsT_env (n := n) ps args t []
  have h2 := hrun.code a _ h outs (roundA P true i b next) ho (fun v e e' h _ _ _ hf => hf) (fun x hxo => ?_)
  · rw [henv] at h2; exact h2
  obtain ⟨m, hm, hsub⟩ := bindL_ok hx x hxo
  simp only at hm
  split at hm <;> first | cases hm | skip
  rename_i e1 h1
  split at hm <;> first | cases hm | skip
  rename_i n1 t1 ps1 a1 b1 p1 hi1
  split at hm <;> first | cases hm | skip
  rename_i outs2 ho2
  refine ⟨_, _, _, _, _, hp_at hi1, ?_⟩
  have h3 := hrun.code b e1 _ outs2 (roundB i next) ho2 (fun v e e' h _ _ _ hf => hf) (fun y hyo => ?_)
  · rw [HT.hp_set] at h3; exact h3
  obtain ⟨m2, hm2, hsub2⟩ := bindL_ok hm y hyo
  split at hm2 <;> first | cases hm2 | skip
  all_goals exact xSet_ok (X := X) hm2 fun z hz => hl z (hsub z (hsub2 z hz))

theorem xNext_ok {i : Nat} {h : HT} {l : List CR} {e : Env} {x : AOpd} {next X : AV → Hp → Prop} (he : ev e x = .ptr i 0 0) (hx : xNext i h = some l) (hl : ∀ x ∈ l, CRQ P (nxt next X) x) : LOp P true (.nxm x) e (h.hp P) next X := by
  unfold xNext at hx
  simp only [LOp, he]
  split at hx <;> first | cases hx | skip
  · rename_i since seen stepped hi
    refine ⟨_, _, _, _, hp_at hi, .inr ?_⟩
    have := hl _ (List.mem_singleton.2 rfl)
    simp only [CRQ, nxt, HT.hp_del] at this
    exact this
  · rename_i m since seen stepped hi
    split at hx <;> first | cases hx | skip
    rename_i es c hm
    split at hx <;> cases hx
    rename_i hg
    refine ⟨_, _, _, _, hp_at hi, es, c, hp_at hm, ?_, fun hall => .inr ?_, fun k v b hkb hb => ?_⟩
    · simp only [Bool.or_eq_true, List.isEmpty_iff, List.any_eq_true] at hg
      rcases hg with hg | hg | ⟨y, hy, hlt⟩
      · exact .inl hg
      · exact .inr (.inl hg)
      · exact .inr (.inr ⟨y, hy, Nat.le_of_ble_eq_true hlt⟩)
    · have : ((unseen seen es).all fun x => Nat.ble since x.2.2) = true := List.all_eq_true.2 fun y hy => by
        simp only [unseen, List.mem_filter, Bool.not_eq_true'] at hy
        refine Nat.ble_eq_true_of_le (hall y hy.1 fun hmem => ?_)
        have := List.any_eq_false.1 hy.2 _ hmem
        exact this (Nat.beq_refl _)
      rw [this] at hl
      have := hl (.ret (.tup [.bool false]) (h.del i)) (by simp)
      simp only [CRQ, nxt, HT.hp_del] at this
      exact this
    · have hmem : (k, v, b) ∈ unseen seen es := by
        simp only [unseen, List.mem_filter, Bool.not_eq_true']
        refine ⟨hkb, List.any_eq_false.2 fun y hy hyb => ?_⟩
        have := Nat.eq_of_beq_eq_true hyb
        subst this
        exact hb hy
      have := hl (.ret (.tup [.bool true, k, v]) (h.set i (.b (.mapIter (some m) since (seen ++ [b]) c)))) (List.mem_append_right _ (List.mem_map.2 ⟨_, hmem, rfl⟩))
      simp only [CRQ, nxt, HT.hp_set] at this
      exact this

/-! ### Operations -/

theorem nxt_call {f : FuncId} {args : List AV} {h : Hp} {next X : AV → Hp → Prop} (k : CallL P f args h (nxt next X)) : CallL P f args h fun r h' => match r with | .ret v => next v h' | .pan v => X v h' := k

theorem xOpO_ok {hb : FuncId → Bool} (hh : BodyOK P hb) {run : Run} (hrun : RunOK P run) {o : AOp} {e : ET} {h : HT} {l : List CR} {next X : AV → Hp → Prop} (hx : xOpO P hb run o e h = some l) (hl : ∀ x ∈ l, CRQ P (nxt next X) x) :
    LOp P true o e.env (h.hp P) next X := by
  have gen : ∀ {o : AOp}, (match eE h.n o e.env (h.hp P) with | some (v, l) => some [CR.ret v (h.chg l)] | none => none) = some l → LOp P true o e.env (h.hp P) next X := by
    intro o hx
    split at hx <;> cases hx
    rename_i v l hv
    refine eE_ok hv ?_
    have := hl _ (List.mem_singleton.2 rfl)
    simp only [CRQ, nxt, HT.hp_chg] at this
    exact this
  cases o <;> simp only [xOpO] at hx <;> first | exact gen hx | skip
  case call f args => exact nxt_call (hrun.call _ _ _ _ _ hx hl)
  case callv x args =>
    split at hx <;> first | cases hx | skip
    · rename_i f first cap hv
      split at hx <;> first | cases hx | skip
      rename_i hbf
      simp only [LOp, hv]
      exact ⟨hh f hbf, nxt_call (hrun.call _ _ _ _ _ hx hl)⟩
    · rename_i i hv
      simp only [LOp, hv]
      exact xRound_ok hrun hx hl
    · rename_i nm t v hv
      split at hx <;> first | cases hx | skip
      rename_i f hf
      simp only [LOp, hv, hf]
      exact nxt_call (hrun.call _ _ _ _ _ hx hl)
  case inv tab x args =>
    split at hx <;> first | cases hx | skip
    rename_i t v hv
    split at hx <;> first | cases hx | skip
    rename_i f hf
    simp only [LOp, hv, hf]
    exact nxt_call (hrun.call _ _ _ _ _ hx hl)
  case nxm x =>
    split at hx <;> first | cases hx | skip
    rename_i i hv
    exact xNext_ok hv hx hl
  case pcall f args =>
    obtain ⟨v, rfl, hp⟩ := xP_ok hrun hx
    exact ⟨v, hp, hl _ (List.mem_singleton.2 rfl)⟩
  case pcallv x args =>
    split at hx <;> first | cases hx | skip
    rename_i f first cap hv
    split at hx <;> first | cases hx | skip
    rename_i hbf
    obtain ⟨v, rfl, hp⟩ := xP_ok hrun hx
    simp only [LOp, hv]
    exact ⟨hh f hbf, v, hp, hl _ (List.mem_singleton.2 rfl)⟩
  case acall f args =>
    obtain ⟨K, V, B, h2, hp, rfl, hf, he⟩ := xAd_ok hrun hx
    have := hl _ (List.mem_singleton.2 rfl)
    simp only [CRQ, nxt, he] at this
    exact ⟨K, V, B, hp, h.n, hf, this⟩
  case acallv x args =>
    split at hx <;> first | cases hx | skip
    rename_i f first cap hv
    split at hx <;> first | cases hx | skip
    rename_i hbf
    obtain ⟨K, V, B, h2, hp, rfl, hf, he⟩ := xAd_ok hrun hx
    have := hl _ (List.mem_singleton.2 rfl)
    simp only [CRQ, nxt, he] at this
    simp only [LOp, hv]
    exact ⟨hh f hbf, K, V, B, hp, h.n, hf, this⟩
  case isnilu neg x =>
    split at hx <;> cases hx
    rename_i v hv
    have h1 := hl _ (List.mem_singleton.2 rfl)
    unfold eN_isnil at hv
    split at hv <;> cases hv
    rename_i b hb
    simp only [LOp]
    exact nilU_of (eNil_ok (N := fun b => _) hb h1)
  case nilm x =>
    split at hx <;> first | cases hx | skip
    · rename_i hv
      simp only [LOp, hv]
      exact hl _ (List.mem_singleton.2 rfl)
    · rename_i hv
      split at hx <;> cases hx
      rename_i hm
      simp only [LOp, hv]
      exact ⟨hm, hl _ (List.mem_singleton.2 rfl)⟩
  case pan x =>
    split at hx <;> cases hx
    rename_i t v hv
    simp only [LOp, hv]
    exact hl _ (List.mem_singleton.2 rfl)

theorem xOp_ok {hb : FuncId → Bool} (hh : BodyOK P hb) {run : Run} (hrun : RunOK P run) {o : AOp} {e : ET} {h : HT} {l : List CR} {next X : AV → Hp → Prop} (hx : xOp P hb run o e h = some l) (hl : ∀ x ∈ l, CRQ P (nxt next X) x) :
    LOp P true o e.env (h.hp P) next X := by
  unfold xOp at hx
  split at hx
  · rename_i f hf
    obtain ⟨h1, h2⟩ := prepN_ok hf
    rw [h2] at hx
    unfold runN at hx
    split at hx <;> cases hx
    rename_i v hv
    exact LN_LOp h1 (eN_ok hv (hl _ (List.mem_singleton.2 rfl)))
  · rename_i f hf
    rw [prepE_ok hf] at hx
    unfold runE at hx
    split at hx <;> cases hx
    rename_i v l hv
    refine eE_ok hv ?_
    have := hl _ (List.mem_singleton.2 rfl)
    simp only [CRQ, nxt, HT.hp_chg] at this
    exact this
  · exact xOpO_ok hh hrun hx hl

theorem xOps_ok {hb : FuncId → Bool} (hh : BodyOK P hb) {run : Run} (hrun : RunOK P run) : ∀ (l : List AOper) {e : ET} {h : HT} {outs : List OR} {K : Env → Hp → Prop} {X : AV → Env → Hp → Prop}, xOps P hb run l e h = some outs → (∀ x ∈ outs, ORQ P K X x) → LOps P true l K X e.env (h.hp P) := by
  intro l
  induction l with
  | nil => intro e h outs K X hx hn; cases hx; exact hn _ (List.mem_singleton.2 rfl)
  | cons a r ih =>
    obtain ⟨d, o, g⟩ := a
    intro e h q K X hx hn
    simp only [xOps] at hx
    have run : (match xOp P hb run o e h with
        | some outs => bindL outs fun x => match x with
          | .ret v h' => xOps P hb run r (e.put d v) h'
          | .pan v h' => some [.pan v e h']
        | none => none) = some q → LOp P true o e.env (h.hp P) (fun v h' => fv true v fun v => LOps P true r K X (e.env.put d v) h') (fun v h' => X v e.env h') := by
      intro hx
      split at hx <;> first | cases hx | skip
      rename_i outs ho
      refine xOp_ok hh hrun ho fun x hxo => ?_
      obtain ⟨m, hm, hsub⟩ := bindL_ok hx x hxo
      cases x with
      | ret v h' =>
        simp only [CRQ, nxt]
        rw [fv_eq, ← ET.env_put]
        exact ih hm fun y hy => hn y (hsub y hy)
      | pan v h' =>
        cases hm
        exact hn _ (hsub _ (List.mem_singleton.2 rfl))
    cases g with
    | none => simp only [eWant] at hx; exact run hx
    | some g =>
      obtain ⟨t, b⟩ := g
      simp only [eWant] at hx
      simp only [LOps, LOp1]
      have ht : e.env.t t = (e.t.get t).getD (.tup []) := rfl
      rw [ht]
      generalize (e.t.get t).getD (.tup []) = x at hx ⊢
      cases x <;> simp only at hx <;> first | (cases hx; done) | skip
      case bool c =>
        simp only
        have hskip : xOps P hb _ r (e.put d (.tup [])) h = some q → LOps P true r K X (e.env.put d (.tup [])) (h.hp P) := fun hx => by rw [← ET.env_put]; exact ih hx hn
        cases c <;> cases b <;> simp only [bcase] <;> first | exact run hx | exact hskip hx
      case tup vs => simp only; rw [← ET.env_put]; exact ih hx hn
end
end Go.L

/-
  The logic L computed, part g: the evaluator is sound: code, functions.
-/
namespace Go.L

theorem eqFn_ok' {a b : Fn} (h : eqFn a b = true) : a = b := eqFn_ok h
theorem eqD_ok {a b : ADef} (h : eqD a b = true) : a = b := by
  cases a <;> cases b <;> simp only [eqD] at h <;> first | (cases h; done) | skip
  · simp only [Bool.and_eq_true] at h
    rw [eqFn_ok h.1, eqL_ok _ h.2.1, eqL_ok _ h.2.2]
  · rw [Nat.eq_of_beq_eq_true h]
theorem eqDs_ok : ∀ {a b : List ADef}, eqDs a b = true → a = b := by
  intro a
  induction a with
  | nil => intro b h; cases b with
    | nil => rfl
    | cons => cases h
  | cons x l ih => intro b h; cases b with
    | nil => cases h
    | cons y m =>
      simp only [eqDs, Bool.and_eq_true] at h
      rw [eqD_ok h.1, ih h.2]
theorem eqE_ok {a b : ET} (h : eqE a b = true) : a = b := by
  simp only [eqE, Bool.and_eq_true] at h
  cases a; cases b
  simp only at h
  rw [Nat.eq_of_beq_eq_true h.1, eqDs_ok h.2.1, eqT_ok (fun h => eqA_ok _ h) h.2.2]
theorem eqX_ok {a b : XR} (h : eqX a b = true) : a = b := by
  unfold eqX at h
  split at h
  · simp only [Bool.and_eq_true] at h
    rw [eqE_ok h.1, eqH_ok h.2]
  · cases h
theorem eqC_ok {a b : CR} (h : eqC a b = true) : a = b := by
  unfold eqC at h
  split at h
  · simp only [Bool.and_eq_true] at h
    rw [eqA_ok _ h.1, eqH_ok h.2]
  · cases h

section
variable {P : Program} {hb : FuncId → Bool} {run : Run}

theorem iterX_ok {f : ET → HT → Option (List XR)} {c : ACode} {kp : List Nat} (hf : ∀ (e : ET) (h : HT) (l : List XR) (Q : Xit → Env → Hp → Prop), f e h = some l → PanC kp Q → (∀ x ∈ l, XRQ P Q x) → LCode P true c Q e.env (h.hp P))
    {n : Nat} {e : ET} {h : HT} {l : List XR} {Q : Xit → Env → Hp → Prop} (hx : iterX f n e h = some l) (hQ : PanC kp Q) (hl : ∀ x ∈ l, XRQ P Q x) : LCode P true (.loop c) Q e.env (h.hp P) := by
  refine ⟨fun m e1 h1 => ∃ (e2 : ET) (h2 : HT) (l2 : List XR), e1 = e2.env ∧ h1 = h2.hp P ∧ iterX f m e2 h2 = some l2 ∧ ∀ x ∈ l2, XRQ P Q x, ⟨n, e, h, l, rfl, rfl, hx, hl⟩, ?_⟩
  rintro m _ _ ⟨e2, h2, l2, rfl, rfl, hm, hl2⟩
  cases m with
  | zero => cases hm
  | succ m =>
    simp only [iterX] at hm
    split at hm <;> first | cases hm | skip
    rename_i outs ho
    refine hf _ _ _ _ ho (fun v => hQ v) (dd_ok eqX_ok fun x hxo => ?_)
    obtain ⟨k, hk, hsub⟩ := bindL_ok hm x hxo
    obtain ⟨y, e3, h3⟩ := x
    cases y with
    | normal => exact ⟨m, Nat.lt_succ_self m, e3, h3, k, rfl, rfl, hk, fun x hx => hl2 x (hsub x hx)⟩
    | exit i => cases hk; exact hl2 _ (hsub _ (List.mem_singleton.2 rfl))
    | ret => cases hk; exact hl2 _ (hsub _ (List.mem_singleton.2 rfl))
    | pan v => cases hk; exact hl2 _ (hsub _ (List.mem_singleton.2 rfl))

/-- One order. -/
theorem xAlt1_ok (hh : BodyOK P hb) (hrun : RunOK P run) {l : List AOper} {e e0 : ET} {h : HT} {outs : List OR} {m : List XR} {D kp : List Nat} {Q : Xit → Env → Hp → Prop} (hQ : PanC kp Q) (hx : xOps P hb run l e h = some outs)
    (hb2 : bindL outs (altX kp D e0) = some m) (hl : ∀ x ∈ m, XRQ P Q x) : LOps P true l (fun e h => Q .normal e h) (fun v _ h => ∀ g : Nat → AV, (∀ t, inL t D = false → g t = e0.env.t t) → Q (.pan v) ⟨e0.env.n, g, e0.env.ds⟩ h) e.env (h.hp P) := by
  refine xOps_ok hh hrun l hx fun x hxo => ?_
  obtain ⟨k, hk, hsub⟩ := bindL_ok hb2 x hxo
  cases x with
  | nor e h => cases hk; exact hl _ (hsub _ (List.mem_singleton.2 rfl))
  | pan v e h =>
    simp only [altX] at hk
    split at hk <;> cases hk
    rename_i hD
    intro g hg
    refine hQ v e0.env ⟨e0.env.n, g, e0.env.ds⟩ _ rfl rfl (fun t ht => (hg t ?_).symm) (hl _ (hsub _ (List.mem_singleton.2 rfl)))
    cases hd : inL t D with
    | false => rfl
    | true =>
      have := List.all_eq_true.1 hD t (inL_iff.1 hd)
      rw [ht] at this; cases this

theorem xAlts_ok (hh : BodyOK P hb) (hrun : RunOK P run) {e e0 : ET} {h : HT} {D kp : List Nat} {Q : Xit → Env → Hp → Prop} (hQ : PanC kp Q) : ∀ {ls : List (List AOper)} {m : List XR}, xAlts (fun l => xOps P hb run l e h) (altX kp D e0) ls = some m → (∀ x ∈ m, XRQ P Q x) →
    LAlts P true ls (fun e h => Q .normal e h) (fun v _ h => ∀ g : Nat → AV, (∀ t, inL t D = false → g t = e0.env.t t) → Q (.pan v) ⟨e0.env.n, g, e0.env.ds⟩ h) e.env (h.hp P)
  | [], m, _, _ => trivial
  | [l], m, hx, hl => by
    simp only [xAlts] at hx
    split at hx <;> first | cases hx | skip
    rename_i outs ho
    exact xAlt1_ok hh hrun hQ ho hx hl
  | l :: l2 :: r, m, hx, hl => by
    simp only [xAlts] at hx
    split at hx <;> first | cases hx | skip
    rename_i outs ho
    split at hx <;> first | cases hx | skip
    rename_i a ha
    split at hx <;> cases hx
    rename_i b hb3
    exact ⟨xAlt1_ok hh hrun hQ ho ha fun x hx => hl x (List.mem_append_left _ hx), xAlts_ok hh hrun hQ hb3 fun x hx => hl x (List.mem_append_right _ hx)⟩

theorem Hp.set_del {h : Hp} {i : Nat} {b : Blk} (hu : h.u i = true) : (h.set i b).del i = h.del i := by
  refine Hp.ext (fun j => ?_) (fun j => ?_)
  · by_cases e : j = i
    · subst e; simp
    · rw [Hp.del_ne e, Hp.del_ne e, Hp.set_ne e]
  · simp only [Hp.del_u, Hp.set_u]
    split
    · rename_i e; rw [e, hu]
    · rfl

theorem xOver_ok {i j : Nat} {e : ET} {h : HT} {l : List XR} {Q : Xit → Env → Hp → Prop} (hx : xOver i j e h = some l) (hl : ∀ x ∈ l, XRQ P Q x) : rngQ j Q ⟨e.env.n, e.env.t, .mark i :: e.env.ds⟩ (h.hp P) := by
  unfold xOver at hx
  split at hx <;> first | cases hx | skip
  rename_i n t ps a b st pend hj
  have hu := hp_u (P := P) hj
  have key : st ≠ .busy → ∀ y, l = [(y, ⟨e.n, e.t, .mark i :: e.ds⟩, h.del j)] → Q y ⟨e.env.n, e.env.t, .mark i :: e.env.ds⟩ ((h.hp P).del j) := fun _ y hy => by
    subst hy
    have := hl _ (List.mem_singleton.2 rfl)
    simp only [XRQ, HT.hp_del] at this
    exact this
  have hst : st ≠ .busy := fun e => by subst e; cases hx
  refine ⟨pend, n, _, ps, _, st, pend, hp_at hj, ⟨hst, rfl⟩, .inr ?_⟩
  rw [Hp.set_del hu]
  have hx' : (match pend with
      | none => some [((.normal, ⟨e.n, e.t, .mark i :: e.ds⟩, h.del j) : XR)]
      | some .ret => some [(.ret, ⟨e.n, e.t, .mark i :: e.ds⟩, h.del j)]
      | some (.exit id) => some [(.exit id, ⟨e.n, e.t, .mark i :: e.ds⟩, h.del j)]) = some l := by
    clear key hl
    cases st <;> first | (cases pend with
      | none => exact hx
      | some p => cases p <;> exact hx) | exact (hst rfl).elim
  cases pend with
  | none => cases hx'; exact key hst _ rfl
  | some p => cases p with
    | ret => cases hx'; exact key hst _ rfl
    | exit id => cases hx'; exact key hst _ rfl

theorem xC_ok (hh : BodyOK P hb) (hrun : RunOK P run) {fuel : Nat} {kp : List Nat} : ∀ (c : ACode) (e : ET) (h : HT) (l : List XR) (Q : Xit → Env → Hp → Prop), xC P hb run fuel kp c e h = some l → PanC kp Q → (∀ x ∈ l, XRQ P Q x) → LCode P true c Q e.env (h.hp P) := by
  intro c
  have one : ∀ {e : ET} {h : HT} {y : Xit} {Q : Xit → Env → Hp → Prop}, (∀ x ∈ [((y, e, h) : XR)], XRQ P Q x) → Q y e.env (h.hp P) := fun hl => hl _ (List.mem_singleton.2 rfl)
  induction c with
  | skip => intro e h l Q hx hQ hl; cases hx; exact one hl
  | ops ll =>
    intro e h l Q hx hQ hl
    simp only [xC, opsX] at hx
    split at hx <;> first | cases hx | skip
    rename_i outs ho
    refine xOps_ok hh hrun ll ho fun x hxo => ?_
    obtain ⟨k, hk, hsub⟩ := bindL_ok hx x hxo
    cases x <;> cases hk <;> exact hl _ (hsub _ (List.mem_singleton.2 rfl))
  | seq a b iha ihb =>
    intro e h l Q hx hQ hl
    simp only [xC, seqX] at hx
    split at hx <;> first | cases hx | skip
    rename_i outs ho
    refine iha _ _ _ _ ho (fun v => hQ v) fun x hxo => ?_
    obtain ⟨k, hk, hsub⟩ := bindL_ok hx x hxo
    obtain ⟨y, e1, h1⟩ := x
    cases y with
    | normal => exact ihb _ _ _ _ hk hQ fun x hx => hl x (hsub x hx)
    | exit i => cases hk; exact hl _ (hsub _ (List.mem_singleton.2 rfl))
    | ret => cases hk; exact hl _ (hsub _ (List.mem_singleton.2 rfl))
    | pan v => cases hk; exact hl _ (hsub _ (List.mem_singleton.2 rfl))
  | cond c a b iha ihb =>
    intro e h l Q hx hQ hl
    simp only [xC, condX] at hx
    split at hx <;> first | cases hx | skip
    · rename_i h1; simp only [LCode, h1, bcase]; exact iha _ _ _ _ hx hQ hl
    · rename_i h1; simp only [LCode, h1, bcase]; exact ihb _ _ _ _ hx hQ hl
  | block id c ih =>
    intro e h l Q hx hQ hl
    simp only [xC, blockX] at hx
    split at hx <;> first | cases hx | skip
    rename_i outs ho
    refine ih _ _ _ _ ho (fun v => hQ v) fun x hxo => ?_
    obtain ⟨k, hk, hsub⟩ := bindL_ok hx x hxo
    obtain ⟨y, e1, h1⟩ := x
    cases y with
    | exit j =>
      simp only at hk
      split at hk <;> cases hk
      · rename_i hj
        have := hl _ (hsub _ (List.mem_singleton.2 rfl))
        simp only [XRQ, inBlk, Nat.eq_of_beq_eq_true hj, if_true] at this ⊢; exact this
      · rename_i hj
        have hne : j ≠ id := fun e => by subst e; rw [Nat.beq_refl] at hj; cases hj
        have := hl _ (hsub _ (List.mem_singleton.2 rfl))
        simp only [XRQ, inBlk, hne, if_false] at this ⊢; exact this
    | normal => cases hk; exact hl _ (hsub _ (List.mem_singleton.2 rfl))
    | ret => cases hk; exact hl _ (hsub _ (List.mem_singleton.2 rfl))
    | pan v => cases hk; exact hl _ (hsub _ (List.mem_singleton.2 rfl))
  | loop c ih => intro e h l Q hx hQ hl; exact iterX_ok (fun e h l Q => ih e h l Q) hx hQ hl
  | exit id => intro e h l Q hx hQ hl; cases hx; exact one hl
  | ret => intro e h l Q hx hQ hl; cases hx; exact one hl
  | bad => intro e h l Q hx hQ hl; cases hx
  | recv d ms => intro e h l Q hx hQ hl; cases hx
  | orr a b iha ihb =>
    intro e h l Q hx hQ hl
    simp only [xC, orX] at hx
    split at hx
    · rename_i r hr; cases hx; exact .inl (iha _ _ _ _ hr hQ hl)
    · exact .inr (ihb _ _ _ _ hx hQ hl)
  | alts D ls =>
    intro e h l Q hx hQ hl
    simp only [xC, altsX] at hx
    split at hx <;> cases hx
    rename_i m hm
    exact xAlts_ok hh hrun hQ hm (dd_ok eqX_ok hl)
  | dfr x args =>
    intro e h l Q hx hQ hl
    simp only [xC, dfrX] at hx
    split at hx <;> cases hx
    rename_i f first cap hv
    simp only [LCode, hv]
    exact one hl
  | rngf g ps a b iha ihb =>
    intro e h l Q hx hQ hl
    simp only [xC, rngX] at hx
    split at hx <;> first | cases hx | skip
    rename_i f first cap hv
    split at hx <;> first | cases hx | skip
    rename_i hc
    simp only [Bool.and_eq_true, Bool.not_eq_true'] at hc
    obtain ⟨hbf, hu1, hu2⟩ := hc
    split at hx <;> first | cases hx | skip
    rename_i outs ho
    simp only [LCode, hv]
    have fresh : ∀ {h : Hp} {i : Nat}, h.u i = false → Fresh h i := fun {h i} hu => ⟨hu, h.ok i hu⟩
    rw [HT.hp_set] at hu2
    refine ⟨hh f hbf, h.n, fresh hu1, h.n + 1, fresh hu2, ?_⟩
    have k := hrun.call _ _ _ _ (fun r h' => match r with
      | .ret _ => rngQ (h.n + 1) Q ⟨e.env.n, e.env.t, .mark h.n :: e.env.ds⟩ h'
      | .pan v => Q (.pan v) ⟨e.env.n, e.env.t, .mark h.n :: e.env.ds⟩ h') ho (fun x hxo => ?_)
    · rw [HT.hp_set, HT.hp_set] at k; exact k
    obtain ⟨m, hm, hsub⟩ := bindL_ok hx x hxo
    cases x with
    | ret v h' => exact xOver_ok hm fun x hx => hl x (hsub x hx)
    | pan v h' => cases hm; exact hl _ (hsub _ (List.mem_singleton.2 rfl))

theorem xRes_ok {e : Env} {h : Hp} : ∀ (rs : List ARes) {l : List AV} {N : List AV → Prop}, xRes e h rs = some l → N l → resL e h rs N := by
  intro rs
  induction rs with
  | nil => intro l N hx hn; cases hx; exact hn
  | cons r rs ih =>
    intro l N hx hn
    cases r <;> simp only [xRes] at hx <;> split at hx <;> cases hx
    · rename_i l' h1; exact ih h1 hn
    · rename_i v l' h1 h2; exact eN_ok h1 (ih h2 hn)
    · rename_i v l' h1 h2; exact eN_ok h1 (ih h2 hn)

theorem argsT_get : ∀ (args : List AV) (i : Nat) (t : Tr AV) (x : Nat), (argsT args i t).get x = if i ≤ x ∧ x < i + args.length then args[x - i]? else t.get x := by
  intro args
  induction args with
  | nil => intro i t x; simp only [argsT, List.length_nil]; rw [if_neg (by omega)]
  | cons a r ih =>
    intro i t x
    rw [argsT, ih, Tr.get_set]
    by_cases e : x = i
    · subst e
      rw [if_neg (by omega), if_pos rfl, if_pos (by simp)]; simp
    · by_cases e2 : i + 1 ≤ x ∧ x < i + 1 + r.length
      · rw [if_pos e2, if_pos (by simp; omega)]
        obtain ⟨k, rfl⟩ : ∃ k, x = i + 1 + k := ⟨x - (i + 1), by omega⟩
        rw [show i + 1 + k - (i + 1) = k by omega, show i + 1 + k - i = k + 1 by omega]; rfl
      · rw [if_neg e2, if_neg e, if_neg (by simp; omega)]

theorem env0_eq (n : Nat) (args : List AV) : (⟨n, argsT args 0 .nil, []⟩ : ET).env = env0 n args := by
  simp only [ET.env, env0, Env.mk.injEq, true_and, and_true]
  funext x
  rw [argsT_get]
  by_cases h : x < args.length
  · rw [if_pos (by omega)]; simp
  · rw [if_neg (by omega), List.getElem?_eq_none (by omega), Tr.get_nil]

theorem xLeave_ok (hh : BodyOK P hb) (hrun : RunOK P run) {rs : List ARes} {Q : Res → Hp → Prop} : ∀ (ds : List ADef) (u : Um) (e : ET) (h : HT) (l : List CR), xLeave P hb run rs ds u e h = some l → (∀ x ∈ l, CRQ P Q x) → LeavesL P rs Q ds u e.env (h.hp P) := by
  intro ds
  induction ds with
  | nil =>
    intro u e h l hx hl
    cases u with
    | ret =>
      simp only [xLeave] at hx
      split at hx <;> cases hx
      rename_i r hr
      exact xRes_ok rs hr (hl _ (List.mem_singleton.2 rfl))
    | pan v => cases hx; exact hl _ (List.mem_singleton.2 rfl)
    | rcv v => cases hx
  | cons d ds ih =>
    intro u e h l hx hl
    cases d with
    | mark i =>
      simp only [xLeave] at hx
      split at hx <;> first | cases hx | skip
      rename_i hi
      have := ih _ _ _ _ hx hl
      rw [HT.hp_del] at this
      exact ⟨hp_at hi, this⟩
    | call fn cap args =>
      cases fn <;> simp only [xLeave] at hx <;> first | (cases hx; done) | skip
      rename_i f
      split at hx <;> first | cases hx | skip
      rename_i hbf
      split at hx <;> first | cases hx | skip
      rename_i outs ho
      refine ⟨hh f hbf, hrun.dfr _ _ _ _ _ _ ho fun x hxo => ?_⟩
      obtain ⟨m, hm, hsub⟩ := bindL_ok hx x hxo
      obtain ⟨r, um, h'⟩ := x
      cases r with
      | ret v => exact ih _ _ _ _ hm fun x hx => hl x (hsub x hx)
      | pan v => cases hm

theorem inL_cons {t a : Nat} {l : List Nat} : inL t (a :: l) = (Nat.beq a t || inL t l) := rfl
theorem resL_agree {e e2 : Env} {h : Hp} : ∀ {rs : List ARes}, (∀ t, inL t (resT rs) = true → e.t t = e2.t t) → ∀ {N : List AV → Prop}, resL e h rs N = resL e2 h rs N := by
  intro rs
  induction rs with
  | nil => intro _ N; rfl
  | cons r rs ih =>
    intro hT N
    have hd : ∀ t, resT (r :: rs) = t :: resT rs → e.t t = e2.t t := fun t ht => hT t (by rw [ht, inL_cons, Nat.beq_refl]; rfl)
    have tl : ∀ t, inL t (resT rs) = true → e.t t = e2.t t := fun t ht => hT t (by
      cases r <;> simp only [resT, inL_cons, ht, Bool.or_true])
    have ih := fun {N} => ih tl (N := N)
    cases r with
    | tmp t => simp only [resL, ih, hd t rfl]
    | cell1 t => simp only [resL, LN, ev, ih, hd t rfl]
    | cella t n => simp only [resL, LN, ev, ih, hd t rfl]
theorem LeavesL_agree {rs : List ARes} {Q : Res → Hp → Prop} : ∀ (ds : List ADef) (u : Um) {e e2 : Env} {h : Hp}, (∀ t, inL t (resT rs) = true → e.t t = e2.t t) → LeavesL P rs Q ds u e h → LeavesL P rs Q ds u e2 h := by
  intro ds
  induction ds with
  | nil =>
    intro u e e2 h hT hl
    cases u with
    | ret => exact Eq.mp (resL_agree hT) hl
    | pan v => exact hl
    | rcv v => exact hl
  | cons d ds ih =>
    intro u e e2 h hT hl
    cases d with
    | mark i => exact ⟨hl.1, ih _ hT hl.2⟩
    | call fn cap args =>
      cases fn <;> first | exact hl.elim | skip
      refine ⟨hl.1, hl.2.mono fun r u h' hr => ?_⟩
      cases r with
      | ret v => exact ih _ hT hr
      | pan v => exact hr.elim
theorem EndQD_panC {rs : List ARes} {Q : Res → Hp → Prop} : PanC (resT rs) (EndQD P rs Q) := fun v e e' h _ hds hT hq => by
  have : LeavesL P rs Q e.ds (.pan v) e h := hq
  show LeavesL P rs Q e'.ds (.pan v) e' h
  rw [← hds]; exact LeavesL_agree _ _ hT this

/-! ### Blocks dropped -/

def dels (h : Hp) : List Nat → Hp
  | [] => h
  | i :: l => dels (h.del i) l
theorem R.dels {σ : Emb} {M : Mem} {w : World} : ∀ (l : List Nat) {h : Hp}, R P σ M h w → R P σ M (dels h l) w
  | [], _, hR => hR
  | i :: l, _, hR => R.dels l (hR.del i)
theorem CallL.drop {f : FuncId} {args : List AV} {h : Hp} {Q : Res → Hp → Prop} (k : CallL P f args h fun r h' => ∃ l, Q r (Go.L.dels h' l)) : CallL P f args h Q := by
  refine ⟨fun σ M w args' hR hA => (k.run σ M w args' hR hA).mono fun e w' ⟨σ', M', h', h1, h2, h3⟩ => ?_⟩
  cases e with
  | returned v' => obtain ⟨v, a, l, b⟩ := h3; exact ⟨σ', M', _, h1, h2.dels l, v, a, b⟩
  | panicked ch => obtain ⟨v, v', a, b, l, c⟩ := h3; exact ⟨σ', M', _, h1, h2.dels l, v, v', a, b, c⟩
  | outgrown => exact h3.elim

theorem sweep_ok : ∀ (f i : Nat) (h : HT), ∃ l, (sweep f i h).hp P = dels (h.hp P) l
  | 0, _, h => ⟨[], rfl⟩
  | f + 1, i, h => by
    have del : ∃ l, (sweep f (i + 1) (h.del i)).hp P = dels (h.hp P) l := by
      obtain ⟨l, hl⟩ := sweep_ok f (i + 1) (h.del i)
      exact ⟨i :: l, by rw [hl, HT.hp_del]; rfl⟩
    unfold sweep
    split
    · exact del
    · exact del
    · exact del
    · exact sweep_ok f (i + 1) h
theorem tidy_ok {n0 : Nat} {l : List CR} {Q : Res → Hp → Prop} (h : ∀ x ∈ tidy n0 l, CRQ P Q x) : ∀ x ∈ l, CRQ P (fun r h' => ∃ l, Q r (dels h' l)) x := by
  have plain : ∀ x, CRQ P Q x → CRQ P (fun r h' => ∃ l, Q r (dels h' l)) x := fun x hx => by cases x <;> exact ⟨[], hx⟩
  unfold tidy at h
  split at h
  · exact fun x hx => plain x (h x hx)
  · intro x hx
    have h2 := dd_ok eqC_ok h (sweepC n0 x) (List.mem_map.2 ⟨x, hx, rfl⟩)
    cases x with
    | ret v h' =>
      obtain ⟨l, hl⟩ := sweep_ok (P := P) (h'.n - n0) n0 h'
      simp only [sweepC, CRQ, hl] at h2
      exact ⟨l, h2⟩
    | pan v h' => exact plain _ h2

def CodesOK (P : Program) (codes : Tr FC) : Prop := ∀ f c, codes.get f = some c → ∃ fn m, P.funcs[f]? = some fn ∧ fn.ntmps = c.n ∧ cutF m (compF P fn) = some (c.c, c.r)

theorem xFun_ok {codes : Tr FC} {loops : Nat} (hk : CodesOK P codes) (hh : BodyOK P hb) (hrun : RunOK P run) {f : FuncId} {args : List AV} {h : HT} {l : List CR} {Q : Res → Hp → Prop} (hx : xFun P hb codes loops run f args h = some l) (hl : ∀ x ∈ l, CRQ P Q x) :
    CallL P f args (h.hp P) Q := by
  unfold xFun at hx
  split at hx <;> first | cases hx | skip
  rename_i c hc
  obtain ⟨fn, msk, hf, hn, hcf⟩ := hk f c hc
  obtain ⟨full, hcf, hcut⟩ := cutF_inv hcf
  split at hx <;> first | cases hx | skip
  rename_i hlen
  have hlen' := Nat.le_of_ble_eq_true hlen
  split at hx <;> first | cases hx | skip
  rename_i outs ho
  split at hx <;> cases hx
  rename_i l2 hl2
  refine CallL.drop (CallL.ofD (md := true) hf hcf (by rw [hn]; exact hlen') ?_)
  rw [hn, ← env0_eq]
  have hq := tidy_ok hl
  refine cutA_ok full msk ?_
  rw [← hcut]
  refine xC_ok hh hrun _ _ _ _ _ ho EndQD_panC fun x hxo => ?_
  obtain ⟨m, hm, hsub⟩ := bindL_ok hl2 x hxo
  obtain ⟨y, e', h'⟩ := x
  cases y with
  | normal => exact xLeave_ok hh hrun _ _ _ _ _ hm fun x hx => hq x (hsub x hx)
  | ret => exact xLeave_ok hh hrun _ _ _ _ _ hm fun x hx => hq x (hsub x hx)
  | pan v => exact xLeave_ok hh hrun _ _ _ _ _ hm fun x hx => hq x (hsub x hx)
  | exit i => cases hm

theorem putsET_env : ∀ (ms : List (Option Nat × AOpd)) (e : ET), (putsET e ms).env = putsE e.env ms
  | [], e => rfl
  | (d, x) :: r, e => by rw [putsET, putsE, putsET_env r, ET.env_put]

theorem xCS_ok (hh : BodyOK P hb) (hrun : RunOK P run) {fuel : Nat} : ∀ (c : ACode) (e : ET) (h : HT) (u : Um) (l : List XS) (Q : Xit → Env → Hp → Um → Prop), xCS P hb run fuel c e h u = some l → (∀ u, PanC [] fun x e h => Q x e h u) → (∀ x ∈ l, Q x.1 x.2.1.env (x.2.2.1.hp P) x.2.2.2) → LCodeS P true c Q e.env (h.hp P) u := by
  intro c
  have plain : ∀ (c : ACode) (e : ET) (h : HT) (u : Um) (l : List XS) (Q : Xit → Env → Hp → Um → Prop), plainA c = true → (match xC P hb run fuel [] c e h with
      | some outs => some (outs.map fun x => ((x.1, x.2.1, x.2.2, u) : XS))
      | none => none) = some l → (∀ u, PanC [] fun x e h => Q x e h u) → (∀ x ∈ l, Q x.1 x.2.1.env (x.2.2.1.hp P) x.2.2.2) → LCode P true c (fun x e h => Q x e h u) e.env (h.hp P) := by
    intro c e h u l Q _ hx hQ hl
    split at hx <;> cases hx
    rename_i outs ho
    exact xC_ok hh hrun _ _ _ _ _ ho (hQ u) fun x hxo => hl _ (List.mem_map.2 ⟨x, hxo, rfl⟩)
  induction c with
  | seq a b iha ihb =>
    intro e h u l Q hx hQ hl
    simp only [xCS] at hx
    split at hx <;> first | cases hx | skip
    rename_i outs ho
    refine iha _ _ _ _ _ ho (fun u v => hQ u v) fun x hxo => ?_
    obtain ⟨m, hm, hsub⟩ := bindL_ok hx x hxo
    obtain ⟨y, e1, h1, u1⟩ := x
    cases y with
    | normal => exact ihb _ _ _ _ _ hm hQ fun x hx => hl x (hsub x hx)
    | exit i => cases hm; exact hl _ (hsub _ (List.mem_singleton.2 rfl))
    | ret => cases hm; exact hl _ (hsub _ (List.mem_singleton.2 rfl))
    | pan v => cases hm; exact hl _ (hsub _ (List.mem_singleton.2 rfl))
  | cond c a b iha ihb =>
    intro e h u l Q hx hQ hl
    simp only [xCS] at hx
    split at hx <;> first | cases hx | skip
    · rename_i h1; simp only [LCodeS, h1, bcase]; exact iha _ _ _ _ _ hx hQ hl
    · rename_i h1; simp only [LCodeS, h1, bcase]; exact ihb _ _ _ _ _ hx hQ hl
  | recv d ms =>
    intro e h u l Q hx hQ hl
    cases u with
    | pan v =>
      cases hx
      have := hl _ (List.mem_singleton.2 rfl)
      simp only [putsET_env, ET.env_put] at this
      exact this
    | ret =>
      cases hx
      have := hl _ (List.mem_singleton.2 rfl)
      simp only [putsET_env, ET.env_put] at this
      exact this
    | rcv v =>
      cases hx
      have := hl _ (List.mem_singleton.2 rfl)
      simp only [putsET_env, ET.env_put] at this
      exact this
  | _ => intro e h u l Q hx hQ hl; exact plain _ e h u l Q rfl hx hQ hl

theorem xDfr_ok {codes : Tr FC} {loops : Nat} (hk : CodesOK P codes) (hh : BodyOK P hb) (hrun : RunOK P run) {f : FuncId} {args : List AV} {u : Um} {h : HT} {l : List DR} {Q : Res → Um → Hp → Prop} (hx : xDfr P hb codes loops run f args u h = some l)
    (hl : ∀ x ∈ l, Q x.r x.u (x.h.hp P)) : DefL P f args u (h.hp P) Q := by
  unfold xDfr at hx
  split at hx <;> first | cases hx | skip
  rename_i c hc
  obtain ⟨fn, msk, hf, hn, hcf⟩ := hk f c hc
  obtain ⟨full, hcf, hcut⟩ := cutF_inv hcf
  split at hx <;> first | cases hx | skip
  rename_i hlen
  have hlen' := Nat.le_of_ble_eq_true hlen
  split at hx <;> first | cases hx | skip
  rename_i outs ho
  refine DefL.ofS (md := true) hf hcf (by rw [hn]; exact hlen') ?_
  rw [hn, ← env0_eq]
  refine cutA_okS full msk ?_
  rw [← hcut]
  refine xCS_ok hh hrun _ _ _ _ _ _ ho (fun u v e e' h _ hds _ hq => ⟨hds ▸ hq.1, hq.2⟩) fun x hxo => ?_
  obtain ⟨m, hm, hsub⟩ := bindL_ok hx x hxo
  obtain ⟨y, e', h', u'⟩ := x
  simp only at hm
  split at hm <;> first | cases hm | skip
  rename_i hds
  have fin : ∀ {m : List DR}, (match xRes e'.env (h'.hp P) c.r with
      | some l => some [(⟨.ret (oneV l), u', h'⟩ : DR)]
      | none => none) = some m → (∀ y ∈ m, y ∈ l) → e'.env.ds = [] ∧ resL e'.env (h'.hp P) c.r fun l => Q (.ret (oneV l)) u' (h'.hp P) := by
    intro m hm hsub
    split at hm <;> cases hm
    rename_i r hr
    exact ⟨hds, xRes_ok _ hr (hl _ (hsub _ (List.mem_singleton.2 rfl)))⟩
  cases y with
  | exit i => cases hm
  | pan v => cases hm; exact ⟨hds, hl _ (hsub _ (List.mem_singleton.2 rfl))⟩
  | normal => exact fin hm hsub
  | ret => exact fin hm hsub

theorem xM_ok {codes : Tr FC} {loops : Nat} (hk : CodesOK P codes) (hh : BodyOK P hb) : ∀ d, RunOK P (xM P hb codes loops d) := by
  intro d
  induction d with
  | zero =>
    refine ⟨?_, ?_, ?_⟩
    · intro f args h l Q hx; cases hx
    · intro c e h l Q hx; cases hx
    · intro f args u h l Q hx; cases hx
  | succ d ih => exact ⟨fun f args h l Q hx hl => xFun_ok hk hh ih hx hl, fun c e h l Q hx hQ hl => xC_ok hh ih c e h l Q hx hQ hl, fun f args u h l Q hx hl => xDfr_ok hk hh ih hx hl⟩
end
end Go.L

/-
  The logic L computed, part c: tables of codes; a closed run serves in every heap.
-/
namespace Go.L

/-- A function's code is what the logic makes of it. -/
def GoodFC (P : Program) (f : FuncId) (c : FC) : Prop := ∃ fn m, P.funcs[f]? = some fn ∧ fn.ntmps = c.n ∧ cutF m (compF P fn) = some (c.c, c.r) ∧ (fn.name == "runtime.NumGoroutine") = false

def trOK {α : Type} (Q : Nat → α → Prop) : Tr α → (Nat → Nat) → Prop
  | .nil, _ => True
  | .node l v r, g => (match v with | none => True | some c => Q (g 0) c) ∧ trOK Q l (fun k => g (2 * k + 1)) ∧ trOK Q r (fun k => g (2 * k + 2))
theorem trOK_get {α : Type} {Q : Nat → α → Prop} : ∀ (t : Tr α) (g : Nat → Nat) (i : Nat) (c : α), trOK Q t g → t.get i = some c → Q (g i) c := by
  intro t
  induction t with
  | nil => intro g i c _ h; rw [Tr.get_nil] at h; cases h
  | node l v r ihl ihr =>
    intro g i c h hi
    obtain ⟨h1, h2, h3⟩ := h
    rw [Tr.get_node] at hi
    split at hi
    · rename_i h0
      obtain rfl := Nat.eq_of_beq_eq_true h0
      subst hi; exact h1
    · rename_i h0
      have hi0 : i ≠ 0 := fun e => by subst e; cases h0
      split at hi
      · rename_i h4
        have h4' := Nat.eq_of_beq_eq_true h4
        have := ihl _ _ _ h2 hi
        rwa [show 2 * (i / 2) + 1 = i by omega] at this
      · rename_i h4
        have h4' : i % 2 ≠ 1 := fun e => by rw [e] at h4; cases h4
        have := ihr _ _ _ h3 hi
        rwa [show 2 * (i / 2 - 1) + 2 = i by omega] at this

def hbOf (codes : Tr FC) (f : FuncId) : Bool := (codes.get f).isSome

theorem run_ok {P : Program} {codes : Tr FC} (h : trOK (GoodFC P) codes id) (loops d : Nat) : RunOK P (xM P (hbOf codes) codes loops d) := by
  refine xM_ok (fun f c hc => ?_) (fun f hf => ?_) d
  · obtain ⟨fn, m, h1, h2, h3, _⟩ := trOK_get codes id f c h hc
    exact ⟨fn, m, h1, h2, h3⟩
  · cases hc : codes.get f with
    | none => simp [hbOf, hc] at hf
    | some c =>
      obtain ⟨fn, m, h1, _, h3, h4⟩ := trOK_get codes id f c h hc
      refine ⟨fn, h1, ?_, h4⟩
      obtain ⟨full, h3, _⟩ := cutF_inv h3
      unfold compF at h3
      split at h3
      · cases h3
      · rename_i c' hb; rw [hb]; rfl

/-- Nothing in memory. -/
def sc1 : AV → Bool
  | .bool _ | .int _ _ | .flt _ _ | .str _ | .nilp | .nils | .nilm | .nilf | .nili => true
  | _ => false
def scv : AV → Bool
  | .tup vs => vs.all sc1
  | v => sc1 v
theorem sc1_VR {σ σ' : Emb} {M M' : Mem} {v : AV} {v' : Value} (h : sc1 v = true) (hv : VR σ M v v') : VR σ' M' v v' := by
  cases hv <;> first
    | (simp [sc1] at h; done)
    | exact .bool _
    | exact .int _ _
    | exact .flt _ _
    | exact .nilp
    | exact .nils
    | exact .nilm
    | exact .nilf
    | exact .nili
    | (exact .str _ _ ‹_›)
theorem scv_VR {σ σ' : Emb} {M M' : Mem} {v : AV} {v' : Value} (h : scv v = true) (hv : VR σ M v v') : VR σ' M' v v' := by
  have one : sc1 v = true → VR σ' M' v v' := fun h => sc1_VR h hv
  cases v <;> first | exact one h | skip
  rename_i vs
  obtain ⟨a, rfl, ha⟩ := hv.tup_inv
  refine VR.tup' ⟨ha.1, fun j x hx => ?_⟩
  obtain ⟨y, h1, h2⟩ := ha.2 j x hx
  exact ⟨y, h1, sc1_VR (List.all_eq_true.1 h x (List.mem_of_getElem? hx)) h2⟩

/-- A contract in the empty heap, of a call whose arguments and results are no memory: in every heap. -/
theorem CallL.closed {P : Program} {f : FuncId} {args : List AV} {h : Hp} {Q : AV → Prop} (ha : args.all sc1 = true) (k : CallL P f args Hp.nil fun r _ => ∃ v, r = .ret v ∧ scv v = true ∧ Q v) :
    CallL P f args h fun r h' => ∃ v, r = .ret v ∧ Q v ∧ h' = h := by
  constructor
  intro σ M w args' hR hA
  have hR0 : R P (fun _ => none) (fun B => (w.heap[B]?).map fun o => (o, 0)) Hp.nil w :=
    ⟨fun _ _ => rfl, (fun i b hi => by cases hi), (fun B o hB => by simp only [Option.map_eq_some_iff] at hB; obtain ⟨o', h1, rfl⟩ := hB; exact h1), (fun i b L hi => by cases hi), (fun i j bi bj Li Lj hi => by cases hi), (fun i b L hi => by cases hi), (fun i b L hi => by cases hi)⟩
  have hA0 : VRs (fun _ => none) (fun B => (w.heap[B]?).map fun o => (o, 0)) args args' := ⟨hA.1, fun j v hj => by
    obtain ⟨v', h1, h2⟩ := hA.2 j v hj
    exact ⟨v', h1, sc1_VR (List.all_eq_true.1 ha v (List.mem_of_getElem? hj)) h2⟩⟩
  refine (k.run _ _ w args' hR0 hA0).mono ?_
  rintro e w' ⟨σ', M', h', hE, hR', hend⟩
  have same : ∀ B, B < w.heap.size → w'.heap[B]? = w.heap[B]? := fun B hB => by
    have h1 : w.heap[B]? = some w.heap[B] := Array.getElem?_eq_getElem hB
    rw [h1]; exact hR'.mem B (w.heap[B], 0) (hE.m B _ (by simp only [h1, Option.map_some]))
  refine ⟨σ, M, h, ⟨σ.le_refl, M.le_refl, hE.size, hE.os, hE.tape, hE.output⟩, ⟨hR.fin, hR.dom, fun B o hB => ?_, hR.sep, hR.inj, fun i b L hi hL => ?_, hR.al⟩, ?_⟩
  · have := hR.mem B o hB
    rw [same B (Array.getElem?_eq_some_iff.1 this).1]; exact this
  · exact (hR.blk i b L hi hL).mono σ.le_refl M.le_refl (same _ (hR.placed hi hL))
  · cases e with
    | returned v' =>
      obtain ⟨v, hv, v1, e1, h1, h2⟩ := hend
      cases e1
      exact ⟨v, scv_VR h1 hv, v, rfl, h2, rfl⟩
    | panicked ch => obtain ⟨v, v', _, _, v1, e1, _⟩ := hend; cases e1
    | outgrown => exact hend

def isRet (v : AV) : CR → Bool
  | .ret x _ => eqA x v
  | .pan _ _ => false
/-- A closed run: computed once, it serves in every heap. -/
theorem CallL.ofRun {P : Program} {codes : Tr FC} (hk : trOK (GoodFC P) codes id) {loops d : Nat} {f : FuncId} {args : List AV} {v : AV} (ha : args.all sc1 = true) (hv : scv v = true)
    (hx : (match (xM P (hbOf codes) codes loops d).call f args HT.nil with | some l => l.all (isRet v) | none => false) = true) : PureL P f args v := by
  intro h
  split at hx <;> first | cases hx | skip
  rename_i l hr
  have k := (run_ok hk loops d).call f args HT.nil l (fun r _ => ∃ x, r = .ret x ∧ scv x = true ∧ x = v) hr fun x hxl => by
    have h1 := List.all_eq_true.1 hx x hxl
    cases x with
    | ret x h' => have := eqA_ok _ h1; subst this; exact ⟨_, rfl, hv, rfl⟩
    | pan x h' => cases h1
  rw [HT.hp_nil] at k
  exact (CallL.closed ha (Q := fun x => x = v) k).mono fun r h' ⟨x, h1, h2, h3⟩ => ⟨by rw [h1, h2], h3⟩
end Go.L

/- The codes of functions as the logic has them. Printed by program (gen_all.py). -/
namespace Go.Proofs.YtcpjeocepolecaaGreatDoor
open Go.L
abbrev F_lexiconlaw17_CompatNumbers : Nat := 3
def A_lexiconlaw17_CompatNumbers_0 : List AOper := [o_ 4 (.call 5 []), mv 1 4]
def A_lexiconlaw17_CompatNumbers_1 : List AOper := [o_ 5 (.bslice 23 1 7 [.int .u8 (0)] [(0, 1, (.c (.int .u8 (1)))), (1, 1, (.c (.int .u8 (2)))), (2, 1, (.c (.int .u8 (3)))), (3, 1, (.c (.int .u8 (4)))), (4, 1, (.c (.int .u8 (5)))), (5, 1, (.c (.int .u8 (6)))), (6, 1, (.c (.int .u8 (7))))]), mv 2 5]
def A_lexiconlaw17_CompatNumbers_2 : List AOper := [mv 6 3, mv 7 2, o_ 8 (.lenl (.t 7)), o_ 9 (.bini .lss (.t 6) (.t 8))]
def A_lexiconlaw17_CompatNumbers_3 : List AOper := [mv 12 2, mv 13 3, o_ 14 (.iaddr 23 1 (.t 12) (.t 13)), o_ 15 (.ld1 (.t 14)), o_ 16 (.conv .i64 (.t 15)), mv 17 3, o_ 18 (.bini .add (.t 17) (i_ 1)), o_ 19 (.bini .neq (.t 16) (.t 18))]
def A_lexiconlaw17_CompatNumbers_4 : List AOper := [mv 10 3, o_ 11 (.bini .add (.t 10) (i_ 1)), mv 3 11]
def A_lexiconlaw17_CompatNumbers_5 : ACode := (.seq (.seq (.ops A_lexiconlaw17_CompatNumbers_2) (.cond (.t 9) .skip (.exit 0))) (.seq (.block 1 (.seq (.ops A_lexiconlaw17_CompatNumbers_3) (.cond (.t 19) .bad .skip))) (.ops A_lexiconlaw17_CompatNumbers_4)))
def A_lexiconlaw17_CompatNumbers_6 : List AOper := [mv 20 1, mv 21 20, o_ 22 (.pick (.t 21) (.c (.bool true)) (.c (.bool false))), mv 0 22]
def A_lexiconlaw17_CompatNumbers : ACode := (.seq (.ops [o_ 0 (.mov (.c (.bool false)))]) (.seq (.ops A_lexiconlaw17_CompatNumbers_0) (.seq (.ops A_lexiconlaw17_CompatNumbers_1) (.seq (.seq (.ops [o_ 3 (.mov (i_ 0))]) (.block 0 (.loop A_lexiconlaw17_CompatNumbers_5))) (.seq (.ops A_lexiconlaw17_CompatNumbers_6) .ret)))))
def R_lexiconlaw17_CompatNumbers : List ARes := [.tmp 0]
def T_lexiconlaw17_CompatNumbers : FC := ⟨23, A_lexiconlaw17_CompatNumbers, R_lexiconlaw17_CompatNumbers⟩
abbrev F_q5 : Nat := 5
def A_q5_0 : List AOper := [o_ 18 (.call 10 []), o_ 19 (.call 9 [(.t 18)]), mv 1 19]
def A_q5_1 : List AOper := [o_ 20 (.bslice 9 1 1 [.str []] [(0, 1, (.c (.str [111])))]), o_ 21 (.call 12 [(.c (.str [97])), (.c (.int .i32 (1))), (.c (.int .u8 (1))), (.c (.int .u8 (3))), (i_ 0)]), o_ 22 (.call 12 [(.c (.str [98, 98])), (.c (.int .i32 (2))), (.c (.int .u8 (1))), (.c (.int .u8 (12))), (i_ 0)]), o_ 23 (.call 12 [(.c (.str [99])), (.c (.int .i32 (3))), (.c (.int .u8 (3))), (.c (.int .u8 (5))), (i_ 0)]), o_ 24 (.call 12 [(.c (.str [100])), (.c (.int .i32 (4))), (.c (.int .u8 (1))), (.c (.int .u8 (8))), (i_ 0)]), o_ 25 (.call 12 [(.c (.str [101])), (.c (.int .i32 (5))), (.c (.int .u8 (1))), (.c (.int .u8 (5))), (i_ 1)]), o_ 26 (.call 12 [(.c (.str [102])), (.c (.int .i32 (6))), (.c (.int .u8 (1))), (.c (.int .u8 (9))), (i_ 1)]), o_ 27 (.call 12 [(.c (.str [103])), (.c (.int .i32 (7))), (.c (.int .u8 (1))), (.c (.int .u8 (5))), (i_ 0)]), o_ 28 (.bslice 41 9 7 [.str [], .int .i32 (0), .int .u8 (0), .int .u8 (0), .str [], .int .u8 (0), .int .i64 (0), .int .u8 (0), .str []] [(0, 9, (.t 21)), (9, 9, (.t 22)), (18, 9, (.t 23)), (27, 9, (.t 24)), (36, 9, (.t 25)), (45, 9, (.t 26)), (54, 9, (.t 27))]), o_ 29 (.call 11 [(.t 20), (.t 28)]), o_ 30 (.call 9 [(.t 29)]), mv 2 30]
def A_q5_2 : List AOper := [o_ 31 (.call 12 [(.c (.str [97])), (.c (.int .i32 (1))), (.c (.int .u8 (1))), (.c (.int .u8 (13))), (i_ 0)]), o_ 32 (.call 12 [(.c (.str [98])), (.c (.int .i32 (2))), (.c (.int .u8 (1))), (.c (.int .u8 (5))), (i_ 0)]), o_ 33 (.call 12 [(.c (.str [99])), (.c (.int .i32 (3))), (.c (.int .u8 (1))), (.c (.int .u8 (9))), (i_ 0)]), o_ 34 (.call 12 [(.c (.str [100])), (.c (.int .i32 (4))), (.c (.int .u8 (2))), (.c (.int .u8 (8))), (i_ 0)]), o_ 35 (.call 12 [(.c (.str [101])), (.c (.int .i32 (5))), (.c (.int .u8 (2))), (.c (.int .u8 (5))), (i_ 0)]), o_ 36 (.bslice 41 9 5 [.str [], .int .i32 (0), .int .u8 (0), .int .u8 (0), .str [], .int .u8 (0), .int .i64 (0), .int .u8 (0), .str []] [(0, 9, (.t 31)), (9, 9, (.t 32)), (18, 9, (.t 33)), (27, 9, (.t 34)), (36, 9, (.t 35))]), o_ 37 (.call 11 [(.c (.nils)), (.t 36)]), o_ 38 (.call 9 [(.t 37)]), mv 3 38]
def A_q5_3 : List AOper := [o_ 39 (.bslice 9 1 1 [.str []] [(0, 1, (.c (.str [112])))]), o_ 40 (.call 12 [(.c (.str [97])), (.c (.int .i32 (1))), (.c (.int .u8 (1))), (.c (.int .u8 (5))), (i_ 1)]), o_ 41 (.call 12 [(.c (.str [98])), (.c (.int .i32 (2))), (.c (.int .u8 (1))), (.c (.int .u8 (9))), (i_ 1)]), o_ 42 (.bslice 41 9 2 [.str [], .int .i32 (0), .int .u8 (0), .int .u8 (0), .str [], .int .u8 (0), .int .i64 (0), .int .u8 (0), .str []] [(0, 9, (.t 40)), (9, 9, (.t 41))]), o_ 43 (.call 11 [(.t 39), (.t 42)]), o_ 44 (.call 9 [(.t 43)]), mv 4 44]
def A_q5_4 : List AOper := [mv 45 1, o_ 46 (.isnil .pt false (.t 45)), mv 47 46, ⟨some 48, .mov (.t 2), some (47, false)⟩, ⟨some 49, .isnil .pt false (.t 48), some (47, false)⟩, o_ 50 (.pick (.t 47) (.c (.bool true)) (.t 49)), mv 51 50, ⟨some 52, .mov (.t 3), some (51, false)⟩, ⟨some 53, .isnil .pt false (.t 52), some (51, false)⟩, o_ 54 (.pick (.t 51) (.c (.bool true)) (.t 53)), mv 55 54, ⟨some 56, .mov (.t 4), some (55, false)⟩, ⟨some 57, .isnil .pt false (.t 56), some (55, false)⟩, o_ 58 (.pick (.t 55) (.c (.bool true)) (.t 57))]
def A_q5_5 : List AOper := [mv 60 1, o_ 61 (.mkifc 31 (.t 60)), mv 62 2, o_ 63 (.mkifc 31 (.t 62)), o_ 64 (.call 13 [(.t 61), (.t 63), (.c (.str [78]))]), mv 59 64, o_ 65 (.ext 0 (.t 59)), o_ 66 (.ext 1 (.t 59)), mv 5 65, mv 6 66]
def A_q5_6 : List AOper := [mv 68 1, o_ 69 (.mkifc 31 (.t 68)), mv 70 3, o_ 71 (.mkifc 31 (.t 70)), o_ 72 (.call 13 [(.t 69), (.t 71), (.c (.str [78]))]), mv 67 72, o_ 73 (.ext 0 (.t 67)), o_ 74 (.ext 1 (.t 67)), mv 7 73, mv 8 74]
def A_q5_7 : List AOper := [mv 76 1, o_ 77 (.mkifc 31 (.t 76)), mv 78 4, o_ 79 (.mkifc 31 (.t 78)), o_ 80 (.call 13 [(.t 77), (.t 79), (.c (.str [78]))]), mv 75 80, o_ 81 (.ext 0 (.t 75)), o_ 82 (.ext 1 (.t 75)), mv 9 81, mv 10 82]
def A_q5_8 : List AOper := [mv 84 1, o_ 85 (.mkifc 31 (.t 84)), mv 86 4, o_ 87 (.mkifc 31 (.t 86)), o_ 88 (.call 13 [(.t 85), (.t 87), (.c (.str [77]))]), mv 83 88, o_ 89 (.ext 0 (.t 83)), o_ 90 (.ext 1 (.t 83)), mv 11 89, mv 12 90]
def A_q5_9 : List AOper := [mv 91 5, o_ 92 (.bslice 23 1 7 [.int .u8 (0)] [(0, 1, (.c (.int .u8 (5)))), (1, 1, (.c (.int .u8 (5)))), (2, 1, (.c (.int .u8 (1)))), (3, 1, (.c (.int .u8 (6)))), (4, 1, (.c (.int .u8 (1)))), (5, 1, (.c (.int .u8 (1)))), (6, 1, (.c (.int .u8 (2))))]), o_ 93 (.call 14 [(.t 91), (.t 92)]), mv 13 93]
def A_q5_10 : List AOper := [mv 94 7, o_ 95 (.bslice 23 1 6 [.int .u8 (0)] [(0, 1, (.c (.int .u8 (6)))), (1, 1, (.c (.int .u8 (7)))), (2, 1, (.c (.int .u8 (6)))), (3, 1, (.c (.int .u8 (1)))), (4, 1, (.c (.int .u8 (1)))), (5, 1, (.c (.int .u8 (3))))]), o_ 96 (.call 14 [(.t 94), (.t 95)]), mv 14 96]
def A_q5_11 : List AOper := [mv 97 9, o_ 98 (.bslice 23 1 6 [.int .u8 (0)] [(0, 1, (.c (.int .u8 (6)))), (1, 1, (.c (.int .u8 (6)))), (2, 1, (.c (.int .u8 (3)))), (3, 1, (.c (.int .u8 (3)))), (4, 1, (.c (.int .u8 (3)))), (5, 1, (.c (.int .u8 (3))))]), o_ 99 (.call 14 [(.t 97), (.t 98)]), mv 15 99]
def A_q5_12 : List AOper := [mv 100 5, o_ 101 (.call 6 [(.t 100)]), mv 16 101]
def A_q5_13 : List AOper := [o_ 102 (.call 6 [(.c (.nils))]), mv 17 102]
def A_q5_14 : List AOper := [mv 103 6, o_ 104 (.bini .eql (.t 103) (i_ 0)), mv 105 104, g_ 106 (.mov (.t 8)) 105, g_ 107 (.bini .eql (.t 106) (i_ 0)) 105, o_ 108 (.pick (.t 105) (.t 107) (.c (.bool false))), mv 109 108, g_ 110 (.mov (.t 10)) 109, g_ 111 (.bini .eql (.t 110) (i_ 0)) 109, o_ 112 (.pick (.t 109) (.t 111) (.c (.bool false))), mv 113 112, g_ 114 (.mov (.t 12)) 113, g_ 115 (.bini .eql (.t 114) (i_ 170)) 113, o_ 116 (.pick (.t 113) (.t 115) (.c (.bool false))), mv 117 116, g_ 118 (.mov (.t 13)) 117, o_ 119 (.pick (.t 117) (.t 118) (.c (.bool false))), mv 120 119, g_ 121 (.mov (.t 14)) 120, o_ 122 (.pick (.t 120) (.t 121) (.c (.bool false))), mv 123 122, g_ 124 (.mov (.t 15)) 123, o_ 125 (.pick (.t 123) (.t 124) (.c (.bool false))), mv 126 125, g_ 127 (.mov (.t 16)) 126, g_ 128 (.bini .eql (.t 127) (.c (.int .u8 (6)))) 126, o_ 129 (.pick (.t 126) (.t 128) (.c (.bool false))), mv 130 129, g_ 131 (.mov (.t 17)) 130, g_ 132 (.bini .eql (.t 131) (.c (.int .u8 (1)))) 130, o_ 133 (.pick (.t 130) (.t 132) (.c (.bool false))), mv 0 133]
def A_q5 : ACode := (.seq (.ops [o_ 0 (.mov (.c (.bool false)))]) (.seq (.ops A_q5_0) (.seq (.ops A_q5_1) (.seq (.ops A_q5_2) (.seq (.ops A_q5_3) (.seq (.seq (.ops A_q5_4) (.cond (.t 58) .bad .skip)) (.seq (.ops A_q5_5) (.seq (.ops A_q5_6) (.seq (.ops A_q5_7) (.seq (.ops A_q5_8) (.seq (.ops A_q5_9) (.seq (.ops A_q5_10) (.seq (.ops A_q5_11) (.seq (.ops A_q5_12) (.seq (.ops A_q5_13) (.seq (.ops A_q5_14) .ret))))))))))))))))
def R_q5 : List ARes := [.tmp 0]
def T_q5 : FC := ⟨134, A_q5, R_q5⟩
abbrev F_q6 : Nat := 6
def A_q6_0 : List AOper := [mv 6 0, o_ 7 (.lenl (.t 6)), o_ 8 (.mov (i_ 0))]
def A_q6_1 : List AOper := [o_ 10 (.iaddr 27 3 (.t 6) (.t 8)), o_ 11 (.lda 3 (.t 10)), o_ 5 (.box 27 3 (.c (.agg [.str [], .int .i32 (0), .int .u8 (0)]))), n_ (.st 3 (.t 5) (.t 11))]
def A_q6_2 : List AOper := [o_ 12 (.faddr 2 (.t 5)), o_ 13 (.ld1 (.t 12)), o_ 14 (.call 15 [(.t 13)]), mv 15 3, o_ 16 (.call 15 [(.t 15)]), o_ 17 (.bini .gtr (.t 14) (.t 16))]
def A_q6_3 : List AOper := [o_ 18 (.faddr 2 (.t 5)), o_ 19 (.ld1 (.t 18)), mv 3 19]
def A_q6_4 : List AOper := [o_ 20 (.bini .add (.t 8) (i_ 1)), mv 8 20]
def A_q6_5 : ACode := (.seq (.ops [o_ 9 (.bini .lss (.t 8) (.t 7))]) (.seq (.cond (.t 9) .skip (.exit 0)) (.seq (.block 1 (.seq (.ops A_q6_1) (.seq (.ops A_q6_2) (.cond (.t 17) (.ops A_q6_3) .skip)))) (.ops A_q6_4))))
def A_q6_6 : List AOper := [mv 21 3, mv 2 21]
def A_q6 : ACode := (.seq (.ops [o_ 2 (.mov (.c (.int .u8 (0))))]) (.seq (.ops [o_ 3 (.mov (.c (.int .u8 (1))))]) (.seq (.seq (.ops A_q6_0) (.block 0 (.loop A_q6_5))) (.seq (.ops A_q6_6) .ret))))
def R_q6 : List ARes := [.tmp 2]
def T_q6 : FC := ⟨22, A_q6, R_q6⟩
abbrev F_q9 : Nat := 9
def A_q9_0 : List AOper := [mv 6 0, o_ 7 (.call 16 [(.t 6)]), mv 5 7, o_ 8 (.ext 0 (.t 5)), o_ 9 (.ext 1 (.t 5)), o_ 4 (.box 50 2 (.c (.agg [.int .i64 (0), .str []]))), mv 3 8, n_ (.st 2 (.t 4) (.t 9))]
def A_q9_1 : List AOper := [mv 10 3, o_ 11 (.isnil .pt false (.t 10))]
def A_q9_2 : List AOper := [mv 12 3, o_ 13 (.call 17 [(.t 12)]), mv 2 13]
def A_q9 : ACode := (.seq (.ops [o_ 2 (.mov (.c (.nilp)))]) (.seq (.ops A_q9_0) (.seq (.seq (.ops A_q9_1) (.cond (.t 11) .bad .skip)) (.seq (.ops A_q9_2) .ret))))
def R_q9 : List ARes := [.tmp 2]
def T_q9 : FC := ⟨14, A_q9, R_q9⟩
abbrev F_q10 : Nat := 10
def A_q10_0 : List AOper := [o_ 1 (.bslice 9 1 1 [.str []] [(0, 1, (.c (.str [111])))]), o_ 2 (.call 12 [(.c (.str [97])), (.c (.int .i32 (1))), (.c (.int .u8 (1))), (.c (.int .u8 (5))), (i_ 0)]), o_ 3 (.call 12 [(.c (.str [98])), (.c (.int .i32 (2))), (.c (.int .u8 (1))), (.c (.int .u8 (9))), (i_ 0)]), o_ 4 (.call 12 [(.c (.str [99])), (.c (.int .i32 (3))), (.c (.int .u8 (3))), (.c (.int .u8 (5))), (i_ 0)]), o_ 5 (.call 12 [(.c (.str [100])), (.c (.int .i32 (4))), (.c (.int .u8 (2))), (.c (.int .u8 (8))), (i_ 0)]), o_ 6 (.call 12 [(.c (.str [101])), (.c (.int .i32 (5))), (.c (.int .u8 (1))), (.c (.int .u8 (5))), (i_ 1)]), o_ 7 (.call 12 [(.c (.str [102])), (.c (.int .i32 (6))), (.c (.int .u8 (1))), (.c (.int .u8 (9))), (i_ 1)]), o_ 8 (.bslice 41 9 6 [.str [], .int .i32 (0), .int .u8 (0), .int .u8 (0), .str [], .int .u8 (0), .int .i64 (0), .int .u8 (0), .str []] [(0, 9, (.t 2)), (9, 9, (.t 3)), (18, 9, (.t 4)), (27, 9, (.t 5)), (36, 9, (.t 6)), (45, 9, (.t 7))]), o_ 9 (.call 11 [(.t 1), (.t 8)]), mv 0 9]
def A_q10 : ACode := (.seq (.ops [o_ 0 (.mov (.c (.nils)))]) (.seq (.ops A_q10_0) .ret))
def R_q10 : List ARes := [.tmp 0]
def T_q10 : FC := ⟨10, A_q10, R_q10⟩
abbrev F_q11 : Nat := 11
def A_q11_0 : List AOper := [mv 5 1, mv 6 0, o_ 7 (.build [.str [], .nils, .nils, .nils, .nils, .nils, .nils] [(0, 1, (.c (.str [78]))), (1, 1, (.t 5)), (2, 1, (.t 6))]), o_ 8 (.bslice 59 7 1 [.str [], .nils, .nils, .nils, .nils, .nils, .nils] [(0, 7, (.t 7))]), o_ 9 (.build [.str [], .str [], .nils, .nils, .nils] [(0, 1, (.c (.str [120]))), (3, 1, (.t 8))]), o_ 10 (.bslice 62 5 1 [.str [], .str [], .nils, .nils, .nils] [(0, 5, (.t 9))]), mv 4 10]
def A_q11 : ACode := (.seq (.ops [o_ 4 (.mov (.c (.nils)))]) (.seq (.ops A_q11_0) .ret))
def R_q11 : List ARes := [.tmp 4]
def T_q11 : FC := ⟨11, A_q11, R_q11⟩
abbrev F_q12 : Nat := 12
def A_q12_0 : List AOper := [mv 11 0, mv 12 1, mv 13 2, mv 14 3, mv 15 4, o_ 16 (.build [.str [], .int .i32 (0), .int .u8 (0), .int .u8 (0), .str [], .int .u8 (0), .int .i64 (0), .int .u8 (0), .str []] [(0, 1, (.t 11)), (1, 1, (.t 12)), (2, 1, (.t 13)), (3, 1, (.t 14)), (6, 1, (.t 15))]), n_ (.st 9 (.t 10) (.t 16))]
def A_q12 : ACode := (.seq (.ops [o_ 10 (.box 41 9 (.c (.agg [.str [], .int .i32 (0), .int .u8 (0), .int .u8 (0), .str [], .int .u8 (0), .int .i64 (0), .int .u8 (0), .str []])))]) (.seq (.ops A_q12_0) .ret))
def R_q12 : List ARes := [.cella 10 9]
def T_q12 : FC := ⟨17, A_q12, R_q12⟩
abbrev F_q13 : Nat := 13
def A_q13_0 : List AOper := [o_ 6 (.mov (.c (.nils))), o_ 7 (.mov (i_ 0))]
def A_q13_1 : List AOper := [mv 20 2, o_ 21 (.bslice 9 1 1 [.str []] [(0, 1, (.t 20))]), o_ 22 (.mkmap), mv 23 2, n_ (.mupd .s (.t 22) (.t 23) (.c (.bool true))), mv 24 22, mv 9 21, mv 10 24]
def A_q13_2 : List AOper := [mv 25 11, mv 26 9, o_ 27 (.lenl (.t 26)), o_ 28 (.bini .lss (.t 25) (.t 27))]
def A_q13_3 : List AOper := [mv 32 0, mv 33 9, mv 34 11, o_ 35 (.iaddr 9 1 (.t 33) (.t 34)), o_ 36 (.ld1 (.t 35)), o_ 37 (.mkm "Table" [(.t 32)]), o_ 38 (.nilm (.t 37)), mv 39 32, o_ 40 (.inv [(31, 224)] (.t 39) [(.t 36)]), mv 31 40, o_ 41 (.ext 0 (.t 31)), o_ 42 (.ext 1 (.t 31)), mv 12 41, mv 13 42]
def A_q13_4 : List AOper := [mv 44 1, mv 45 9, mv 46 11, o_ 47 (.iaddr 9 1 (.t 45) (.t 46)), o_ 48 (.ld1 (.t 47)), o_ 49 (.mkm "Table" [(.t 44)]), o_ 50 (.nilm (.t 49)), mv 51 44, o_ 52 (.inv [(31, 224)] (.t 51) [(.t 48)]), mv 43 52, o_ 53 (.ext 0 (.t 43)), o_ 54 (.ext 1 (.t 43)), mv 14 53, mv 15 54]
def A_q13_5 : List AOper := [mv 55 13, o_ 56 (.bini .neq (.t 55) (i_ 0)), mv 57 56, ⟨some 58, .mov (.t 15), some (57, false)⟩, ⟨some 59, .bini .neq (.t 58) (i_ 0), some (57, false)⟩, o_ 60 (.pick (.t 57) (.c (.bool true)) (.t 59))]
def A_q13_6 : List AOper := [o_ 6 (.mov (.c (.nils))), o_ 7 (.mov (i_ 170))]
def A_q13_7 : List AOper := [mv 61 8, mv 62 12, mv 63 14, o_ 64 (.call 18 [(.t 62), (.t 63)]), o_ 65 (.app 27 3 24 (.t 61) (.t 64)), mv 8 65]
def A_q13_8 : List AOper := [mv 66 14, o_ 67 (.call 19 [(.t 66)]), o_ 68 (.lenl (.t 67)), o_ 69 (.mov (i_ 0))]
def A_q13_9 : List AOper := [o_ 71 (.iaddr 73 9 (.t 67) (.t 69)), o_ 72 (.lda 9 (.t 71)), o_ 17 (.box 73 9 (.c (.agg [.int .i32 (0), .str [], .str [], .int .u8 (0), .int .u8 (0), .int .u8 (0), .bool false, .int .i64 (0), .str []]))), n_ (.st 9 (.t 17) (.t 72))]
def A_q13_10 : List AOper := [mv 74 12, o_ 75 (.faddr 0 (.t 17)), o_ 76 (.ld1 (.t 75)), o_ 77 (.call 20 [(.t 74), (.t 76)]), mv 73 77, o_ 78 (.ext 0 (.t 73)), o_ 79 (.ext 1 (.t 73)), o_ 18 (.box 73 9 (.c (.agg [.int .i32 (0), .str [], .str [], .int .u8 (0), .int .u8 (0), .int .u8 (0), .bool false, .int .i64 (0), .str []]))), n_ (.st 9 (.t 18) (.t 78)), mv 19 79]
def A_q13_11 : List AOper := [mv 80 19, o_ 81 (.not (.t 80)), mv 82 81, ⟨some 83, .faddr 4 (.t 18), some (82, false)⟩, ⟨some 84, .ld1 (.t 83), some (82, false)⟩, ⟨some 85, .bini .neq (.t 84) (.c (.int .u8 (11))), some (82, false)⟩, o_ 86 (.pick (.t 82) (.c (.bool true)) (.t 85)), mv 87 86, ⟨some 88, .faddr 4 (.t 17), some (87, false)⟩, ⟨some 89, .ld1 (.t 88), some (87, false)⟩, ⟨some 90, .bini .neq (.t 89) (.c (.int .u8 (11))), some (87, false)⟩, o_ 91 (.pick (.t 87) (.c (.bool true)) (.t 90)), mv 92 91, ⟨some 93, .faddr 8 (.t 18), some (92, false)⟩, ⟨some 94, .ld1 (.t 93), some (92, false)⟩, ⟨some 95, .faddr 8 (.t 17), some (92, false)⟩, ⟨some 96, .ld1 (.t 95), some (92, false)⟩, ⟨some 97, .bins .neq (.t 94) (.t 96), some (92, false)⟩, o_ 98 (.pick (.t 92) (.c (.bool true)) (.t 97)), mv 99 98, ⟨some 100, .mov (.t 12), some (99, false)⟩, ⟨some 101, .mov (.t 14), some (99, false)⟩, ⟨some 102, .build [.nilp, .nilp] [(0, 1, (.t 100)), (1, 1, (.t 101))], some (99, false)⟩, ⟨some 103, .faddr 0 (.t 17), some (99, false)⟩, ⟨some 104, .ld1 (.t 103), some (99, false)⟩, ⟨some 105, .call 21 [(.t 102), (.t 104)], some (99, false)⟩, o_ 106 (.pick (.t 99) (.c (.bool true)) (.t 105)), mv 107 106, ⟨some 108, .mov (.t 10), some (107, false)⟩, ⟨some 109, .faddr 8 (.t 17), some (107, false)⟩, ⟨some 110, .ld1 (.t 109), some (107, false)⟩, ⟨some 111, .mlook .s (.bool false) false (.t 108) (.t 110), some (107, false)⟩, o_ 112 (.pick (.t 107) (.c (.bool true)) (.t 111))]
def A_q13_12 : List AOper := [o_ 121 (.bini .add (.t 69) (i_ 1)), mv 69 121]
def A_q13_13 : ACode := (.seq (.ops [o_ 70 (.bini .lss (.t 69) (.t 68))]) (.seq (.cond (.t 70) .skip (.exit 2)) (.seq (.block 3 (.seq (.ops A_q13_9) (.seq (.ops A_q13_10) (.seq (.seq (.ops A_q13_11) (.cond (.t 112) (.exit 3) .bad)) .bad)))) (.ops A_q13_12))))
def A_q13_14 : List AOper := [mv 29 11, o_ 30 (.bini .add (.t 29) (i_ 1)), mv 11 30]
def A_q13_15 : ACode := (.seq (.seq (.ops A_q13_2) (.cond (.t 28) .skip (.exit 0))) (.seq (.block 1 (.seq (.alts [32, 33, 34, 35, 36, 37, 38, 39, 40, 31, 41, 42, 12, 13] [A_q13_3]) (.seq (.alts [44, 45, 46, 47, 48, 49, 50, 51, 52, 43, 53, 54, 14, 15] [A_q13_4]) (.seq (.seq (.ops A_q13_5) (.cond (.t 60) (.seq (.ops A_q13_6) .ret) .skip)) (.seq (.ops A_q13_7) (.seq (.ops A_q13_8) (.block 2 (.loop A_q13_13)))))))) (.ops A_q13_14)))
def A_q13_16 : List AOper := [mv 122 8, mv 6 122, o_ 7 (.mov (i_ 0))]
def A_q13 : ACode := (.seq (.ops A_q13_0) (.seq (.ops [o_ 8 (.mov (.c (.nils)))]) (.seq (.ops A_q13_1) (.seq (.seq (.ops [o_ 11 (.mov (i_ 0))]) (.block 0 (.loop A_q13_15))) (.seq (.ops A_q13_16) .ret)))))
def R_q13 : List ARes := [.tmp 6, .tmp 7]
def T_q13 : FC := ⟨123, A_q13, R_q13⟩
abbrev F_q14 : Nat := 14
def A_q14_0 : List AOper := [mv 6 0, o_ 7 (.lenl (.t 6)), mv 8 1, o_ 9 (.lenl (.t 8)), o_ 10 (.bini .neq (.t 7) (.t 9))]
def A_q14_1 : List AOper := [mv 11 5, mv 12 0, o_ 13 (.lenl (.t 12)), o_ 14 (.bini .lss (.t 11) (.t 13))]
def A_q14_2 : List AOper := [mv 17 0, mv 18 5, o_ 19 (.iaddr 27 3 (.t 17) (.t 18)), o_ 20 (.faddr 1 (.t 19)), o_ 21 (.ld1 (.t 20)), mv 22 5, o_ 23 (.bini .add (.t 22) (i_ 1)), o_ 24 (.conv .i32 (.t 23)), o_ 25 (.bini .neq (.t 21) (.t 24)), mv 26 25, ⟨some 27, .mov (.t 0), some (26, false)⟩, ⟨some 28, .mov (.t 5), some (26, false)⟩, ⟨some 29, .iaddr 27 3 (.t 27) (.t 28), some (26, false)⟩, ⟨some 30, .faddr 2 (.t 29), some (26, false)⟩, ⟨some 31, .ld1 (.t 30), some (26, false)⟩, ⟨some 32, .mov (.t 1), some (26, false)⟩, ⟨some 33, .mov (.t 5), some (26, false)⟩, ⟨some 34, .iaddr 23 1 (.t 32) (.t 33), some (26, false)⟩, ⟨some 35, .ld1 (.t 34), some (26, false)⟩, ⟨some 36, .bini .neq (.t 31) (.t 35), some (26, false)⟩, o_ 37 (.pick (.t 26) (.c (.bool true)) (.t 36)), mv 38 37, ⟨some 39, .mov (.t 0), some (38, false)⟩, ⟨some 40, .mov (.t 5), some (38, false)⟩, ⟨some 41, .iaddr 27 3 (.t 39) (.t 40), some (38, false)⟩, ⟨some 42, .faddr 0 (.t 41), some (38, false)⟩, ⟨some 43, .ld1 (.t 42), some (38, false)⟩, ⟨some 44, .bins .neq (.t 43) (.c (.str [78])), some (38, false)⟩, o_ 45 (.pick (.t 38) (.c (.bool true)) (.t 44))]
def A_q14_3 : List AOper := [mv 15 5, o_ 16 (.bini .add (.t 15) (i_ 1)), mv 5 16]
def A_q14_4 : ACode := (.seq (.seq (.ops A_q14_1) (.cond (.t 14) .skip (.exit 0))) (.seq (.block 1 (.seq (.alts [17, 18, 19, 20, 21, 22, 23, 24, 25, 26, 27, 28, 29, 30, 31, 32, 33, 34, 35, 36, 37, 38, 39, 40, 41, 42, 43, 44, 45] [A_q14_2]) (.cond (.t 45) .bad .skip))) (.ops A_q14_3)))
def A_q14 : ACode := (.seq (.ops [o_ 4 (.mov (.c (.bool false)))]) (.seq (.seq (.ops A_q14_0) (.cond (.t 10) .bad .skip)) (.seq (.seq (.ops [o_ 5 (.mov (i_ 0))]) (.block 0 (.loop A_q14_4))) (.seq (.ops [o_ 4 (.mov (.c (.bool true)))]) .ret))))
def R_q14 : List ARes := [.tmp 4]
def T_q14 : FC := ⟨46, A_q14, R_q14⟩
abbrev F_q15 : Nat := 15
def A_q15_0 : List AOper := [o_ 4 (.build [.int .i64 (0), .int .i64 (0), .int .i64 (0), .int .i64 (0), .int .i64 (0), .int .i64 (0), .int .i64 (0), .int .i64 (0)] [(0, 1, (i_ 0)), (1, 1, (i_ 1)), (2, 1, (i_ 3)), (3, 1, (i_ 4)), (4, 1, (i_ 2)), (5, 1, (i_ 6)), (6, 1, (i_ 7)), (7, 1, (i_ 5))]), o_ 3 (.box 79 8 (.c (.agg [.int .i64 (0), .int .i64 (0), .int .i64 (0), .int .i64 (0), .int .i64 (0), .int .i64 (0), .int .i64 (0), .int .i64 (0)]))), n_ (.st 8 (.t 3) (.t 4))]
def A_q15_1 : List AOper := [mv 5 0, o_ 6 (.conv .i64 (.t 5)), o_ 7 (.bini .lss (.t 6) (i_ 8))]
def A_q15_2 : List AOper := [mv 8 0, o_ 9 (.adr 8 1 (.t 3) (.t 8)), o_ 10 (.ld1 (.t 9)), mv 2 10]
def A_q15 : ACode := (.seq (.ops [o_ 2 (.mov (i_ 0))]) (.seq (.ops A_q15_0) (.seq (.seq (.ops A_q15_1) (.cond (.t 7) (.seq (.ops A_q15_2) .ret) .bad)) .bad)))
def R_q15 : List ARes := [.tmp 2]
def T_q15 : FC := ⟨11, A_q15, R_q15⟩
abbrev F_q16 : Nat := 16
def A_q16_0 : List AOper := [o_ 2 (.box 48 1 (.c (.nilp))), o_ 3 (.box 50 2 (.c (.agg [.int .i64 (0), .str []])))]
def A_q16_1 : List AOper := [mv 5 0, o_ 6 (.lenl (.t 5)), o_ 7 (.bini .gtr (.t 6) (i_ 256))]
def A_q16_2 : List AOper := [o_ 9 (.mkmap), o_ 10 (.mkmap), o_ 11 (.mkmap), o_ 12 (.mkmap), o_ 13 (.mkmap), o_ 14 (.build [.nilm, .nils, .nilm, .nilm, .nilm, .nilm] [(0, 1, (.t 9)), (2, 1, (.t 10)), (3, 1, (.t 11)), (4, 1, (.t 12)), (5, 1, (.t 13))]), o_ 15 (.box 90 6 (.t 14)), n_ (.st 1 (.t 2) (.t 15))]
def A_q16_3 : List AOper := [o_ 16 (.ld1 (.t 2)), mv 17 0, o_ 18 (.call 24 [(.t 16), (.t 17)])]
def A_q16_4 : List AOper := [o_ 19 (.ld1 (.t 2)), o_ 20 (.call 25 [(.t 19)])]
def A_q16_5 : List AOper := [o_ 21 (.ld1 (.t 2)), o_ 22 (.call 26 [(.t 21)])]
def A_q16_6 : List AOper := [o_ 23 (.ld1 (.t 2)), o_ 24 (.call 27 [(.t 23)])]
def A_q16_7 : List AOper := [o_ 25 (.ld1 (.t 2)), o_ 26 (.call 28 [(.t 25)])]
def A_q16_8 : List AOper := [o_ 27 (.ld1 (.t 2)), o_ 28 (.call 29 [(.t 27)])]
def A_q16_9 : List AOper := [o_ 29 (.ld1 (.t 2)), o_ 30 (.build [.int .i64 (0), .str []] []), n_ (.st 1 (.t 2) (.t 29)), n_ (.st 2 (.t 3) (.t 30))]
def A_q16 : ACode := (.seq (.ops A_q16_0) (.seq (.seq (.ops [o_ 4 (.mkfn 22 [] [(.t 2), (.t 3)])]) (.dfr (.t 4) [])) (.seq (.seq (.ops A_q16_1) (.cond (.t 7) .bad .skip)) (.seq (.ops A_q16_2) (.seq (.ops A_q16_3) (.seq (.ops A_q16_4) (.seq (.ops A_q16_5) (.seq (.ops A_q16_6) (.seq (.ops A_q16_7) (.seq (.ops A_q16_8) (.seq (.ops A_q16_9) .ret)))))))))))
def R_q16 : List ARes := [.cell1 2, .cella 3 2]
def T_q16 : FC := ⟨31, A_q16, R_q16⟩
abbrev F_q17 : Nat := 17
def A_q17_0 : List AOper := [mv 3 0, o_ 4 (.mkmap), o_ 5 (.build [.int .i32 (0), .int .u32 (0), .nilp, .nilm] [(2, 1, (.t 3)), (3, 1, (.t 4))]), o_ 6 (.box 101 4 (.t 5)), mv 2 6]
def A_q17 : ACode := (.seq (.ops [o_ 2 (.mov (.c (.nilp)))]) (.seq (.ops A_q17_0) .ret))
def R_q17 : List ARes := [.tmp 2]
def T_q17 : FC := ⟨7, A_q17, R_q17⟩
abbrev F_q18 : Nat := 18
def A_q18_0 : List AOper := [mv 14 0, mv 15 1, o_ 16 (.build [.nilp, .nilp] [(0, 1, (.t 14)), (1, 1, (.t 15))]), o_ 5 (.box 77 2 (.c (.agg [.nilp, .nilp]))), n_ (.st 2 (.t 5) (.t 16))]
def A_q18_1 : List AOper := [o_ 17 (.mkmap), mv 6 17]
def A_q18_2 : List AOper := [mv 18 0, mv 19 1, o_ 20 (.bslice 66 1 2 [.nilp] [(0, 1, (.t 18)), (1, 1, (.t 19))]), o_ 21 (.lenl (.t 20)), o_ 22 (.mov (i_ 0))]
def A_q18_3 : List AOper := [o_ 24 (.iaddr 66 1 (.t 20) (.t 22)), o_ 25 (.ld1 (.t 24)), mv 8 25]
def A_q18_4 : List AOper := [mv 26 8, o_ 27 (.call 19 [(.t 26)]), o_ 28 (.lenl (.t 27)), o_ 29 (.mov (i_ 0))]
def A_q18_5 : List AOper := [o_ 31 (.iaddr 73 9 (.t 27) (.t 29)), o_ 32 (.lda 9 (.t 31)), o_ 10 (.box 73 9 (.c (.agg [.int .i32 (0), .str [], .str [], .int .u8 (0), .int .u8 (0), .int .u8 (0), .bool false, .int .i64 (0), .str []]))), n_ (.st 9 (.t 10) (.t 32))]
def A_q18_6 : List AOper := [mv 33 6, o_ 34 (.faddr 0 (.t 10)), o_ 35 (.ld1 (.t 34)), n_ (.mupd .i (.t 33) (.t 35) (.c (.bool true)))]
def A_q18_7 : List AOper := [o_ 36 (.bini .add (.t 29) (i_ 1)), mv 29 36]
def A_q18_8 : ACode := (.seq (.ops [o_ 30 (.bini .lss (.t 29) (.t 28))]) (.seq (.cond (.t 30) .skip (.exit 2)) (.seq (.block 3 (.seq (.ops A_q18_5) (.ops A_q18_6))) (.ops A_q18_7))))
def A_q18_9 : List AOper := [o_ 37 (.bini .add (.t 22) (i_ 1)), mv 22 37]
def A_q18_10 : ACode := (.seq (.ops [o_ 23 (.bini .lss (.t 22) (.t 21))]) (.seq (.cond (.t 23) .skip (.exit 0)) (.seq (.block 1 (.seq (.ops A_q18_3) (.seq (.ops A_q18_4) (.block 2 (.loop A_q18_8))))) (.ops A_q18_9))))
def A_q18_11 : List AOper := [mv 38 6, o_ 39 (.call 31 [(.t 38)]), o_ 40 (.call 30 [(.t 39)]), o_ 41 (.lenl (.t 40)), o_ 42 (.mov (i_ 0))]
def A_q18_12 : List AOper := [o_ 44 (.iaddr 21 1 (.t 40) (.t 42)), o_ 45 (.ld1 (.t 44)), mv 13 45]
def A_q18_13 : List AOper := [mv 46 11, mv 47 1, mv 49 13, mv 51 13, o_ 48 (.call 32 [(.t 47)]), o_ 50 (.lda 2 (.t 5)), o_ 52 (.call 33 [(.t 50), (.t 51)]), o_ 53 (.build [.str [], .int .i32 (0), .int .u8 (0)] [(0, 1, (.t 48)), (1, 1, (.t 49)), (2, 1, (.t 52))]), o_ 54 (.bslice 27 3 1 [.str [], .int .i32 (0), .int .u8 (0)] [(0, 3, (.t 53))]), o_ 55 (.app 27 3 24 (.t 46) (.t 54)), mv 11 55]
def A_q18_14 : List AOper := [mv 46 11, mv 47 1, mv 49 13, mv 51 13, o_ 50 (.lda 2 (.t 5)), o_ 48 (.call 32 [(.t 47)]), o_ 52 (.call 33 [(.t 50), (.t 51)]), o_ 53 (.build [.str [], .int .i32 (0), .int .u8 (0)] [(0, 1, (.t 48)), (1, 1, (.t 49)), (2, 1, (.t 52))]), o_ 54 (.bslice 27 3 1 [.str [], .int .i32 (0), .int .u8 (0)] [(0, 3, (.t 53))]), o_ 55 (.app 27 3 24 (.t 46) (.t 54)), mv 11 55]
def A_q18_15 : List AOper := [o_ 56 (.bini .add (.t 42) (i_ 1)), mv 42 56]
def A_q18_16 : ACode := (.seq (.ops [o_ 43 (.bini .lss (.t 42) (.t 41))]) (.seq (.cond (.t 43) .skip (.exit 4)) (.seq (.block 5 (.seq (.ops A_q18_12) (.alts [46, 47, 48, 49, 50, 51, 52, 53, 54, 55, 11] [A_q18_13, A_q18_14]))) (.ops A_q18_15))))
def A_q18_17 : List AOper := [mv 57 11, mv 4 57]
def A_q18 : ACode := (.seq (.ops [o_ 4 (.mov (.c (.nils)))]) (.seq (.ops A_q18_0) (.seq (.ops A_q18_1) (.seq (.seq (.ops A_q18_2) (.block 0 (.loop A_q18_10))) (.seq (.ops [o_ 11 (.mov (.c (.nils)))]) (.seq (.seq (.ops A_q18_11) (.block 4 (.loop A_q18_16))) (.seq (.ops A_q18_17) .ret)))))))
def R_q18 : List ARes := [.tmp 4]
def T_q18 : FC := ⟨58, A_q18, R_q18⟩
abbrev F_q19 : Nat := 19
def A_q19_0 : List AOper := [mv 3 0, o_ 4 (.nilc (.t 3)), o_ 5 (.faddr 2 (.t 4)), o_ 6 (.ld1 (.t 5)), o_ 7 (.call 34 [(.t 6)]), mv 2 7]
def A_q19 : ACode := (.seq (.ops [o_ 2 (.mov (.c (.nils)))]) (.seq (.ops A_q19_0) .ret))
def R_q19 : List ARes := [.tmp 2]
def T_q19 : FC := ⟨8, A_q19, R_q19⟩
abbrev F_q20 : Nat := 20
def A_q20_0 : List AOper := [o_ 4 (.box 73 9 (.c (.agg [.int .i32 (0), .str [], .str [], .int .u8 (0), .int .u8 (0), .int .u8 (0), .bool false, .int .i64 (0), .str []]))), o_ 5 (.mov (.c (.bool false)))]
def A_q20_1 : List AOper := [mv 9 0, o_ 10 (.nilc (.t 9)), o_ 11 (.faddr 3 (.t 10)), o_ 12 (.ld1 (.t 11)), mv 13 1, o_ 14 (.mlook .i (.int .i64 (0)) true (.t 12) (.t 13)), mv 8 14, o_ 15 (.ext 0 (.t 8)), o_ 16 (.ext 1 (.t 8)), mv 6 15, mv 7 16]
def A_q20_2 : List AOper := [mv 17 0, mv 18 6, mv 19 7, o_ 20 (.call 35 [(.t 17), (.t 18), (.t 19)]), o_ 21 (.ext 0 (.t 20)), o_ 22 (.ext 1 (.t 20)), n_ (.st 9 (.t 4) (.t 21)), mv 5 22]
def A_q20 : ACode := (.seq (.ops A_q20_0) (.seq (.ops A_q20_1) (.seq (.ops A_q20_2) .ret)))
def R_q20 : List ARes := [.cella 4 9, .tmp 5]
def T_q20 : FC := ⟨23, A_q20, R_q20⟩
abbrev F_q21 : Nat := 21
def A_q21_0 : List AOper := [o_ 2 (.box 77 2 (.t 0)), o_ 4 (.mov (.c (.bool false)))]
def A_q21_1 : List AOper := [o_ 10 (.faddr 0 (.t 2)), o_ 11 (.ld1 (.t 10)), mv 12 1, o_ 13 (.call 20 [(.t 11), (.t 12)]), mv 9 13, o_ 14 (.ext 0 (.t 9)), o_ 15 (.ext 1 (.t 9)), o_ 5 (.box 73 9 (.c (.agg [.int .i32 (0), .str [], .str [], .int .u8 (0), .int .u8 (0), .int .u8 (0), .bool false, .int .i64 (0), .str []]))), n_ (.st 9 (.t 5) (.t 14)), mv 6 15]
def A_q21_2 : List AOper := [o_ 17 (.faddr 1 (.t 2)), o_ 18 (.ld1 (.t 17)), mv 19 1, o_ 20 (.call 20 [(.t 18), (.t 19)]), mv 16 20, o_ 21 (.ext 0 (.t 16)), o_ 22 (.ext 1 (.t 16)), o_ 7 (.box 73 9 (.c (.agg [.int .i32 (0), .str [], .str [], .int .u8 (0), .int .u8 (0), .int .u8 (0), .bool false, .int .i64 (0), .str []]))), n_ (.st 9 (.t 7) (.t 21)), mv 8 22]
def A_q21_3 : List AOper := [o_ 23 (.lda 9 (.t 7)), o_ 24 (.lda 9 (.t 5)), o_ 25 (.acall 37 [(.t 24)]), o_ 26 (.acall 36 [(.t 23), (.t 25)]), o_ 27 (.not (.t 26)), mv 4 27]
def A_q21 : ACode := (.seq (.ops A_q21_0) (.seq (.ops A_q21_1) (.seq (.ops A_q21_2) (.seq (.alts [23, 24, 25, 26, 27, 4] [A_q21_3]) .ret))))
def R_q21 : List ARes := [.tmp 4]
def T_q21 : FC := ⟨28, A_q21, R_q21⟩
abbrev F_q22 : Nat := 22
def A_q22_0 : List AOper := [mv 6 2, o_ 7 (.isnil .ic true (.t 6))]
def A_q22 : ACode := (.seq (.recv (some 5) [(some 2, (.t 5))]) (.seq (.ops A_q22_0) (.cond (.t 7) .bad .skip)))
def R_q22 : List ARes := []
def T_q22 : FC := ⟨18, A_q22, R_q22⟩
abbrev F_q24 : Nat := 24
def A_q24_0 : List AOper := [mv 10 1, o_ 11 (.lenl (.t 10)), o_ 12 (.mov (i_ 0))]
def A_q24_1 : List AOper := [o_ 14 (.iaddr 62 5 (.t 10) (.t 12)), o_ 15 (.lda 5 (.t 14)), o_ 6 (.box 62 5 (.c (.agg [.str [], .str [], .nils, .nils, .nils]))), n_ (.st 5 (.t 6) (.t 15))]
def A_q24_2 : List AOper := [mv 16 0, o_ 17 (.nilc (.t 16)), o_ 18 (.faddr 0 (.t 17)), o_ 19 (.ld1 (.t 18)), o_ 20 (.faddr 0 (.t 6)), o_ 21 (.ld1 (.t 20)), o_ 22 (.mlook .s (.nilp) false (.t 19) (.t 21)), o_ 23 (.isnil .pt true (.t 22))]
def A_q24_3 : List AOper := [mv 29 0, o_ 30 (.nilc (.t 29)), o_ 31 (.faddr 0 (.t 30)), o_ 32 (.ld1 (.t 31)), o_ 33 (.faddr 0 (.t 6)), o_ 34 (.ld1 (.t 33)), o_ 35 (.lda 5 (.t 6)), o_ 36 (.acall 38 [(.t 35)]), o_ 37 (.mkmap), o_ 38 (.mkmap), o_ 39 (.build [.str [], .str [], .nils, .nils, .nils, .nilm, .nilm] [(0, 5, (.t 36)), (5, 1, (.t 37)), (6, 1, (.t 38))]), o_ 40 (.box 125 7 (.t 39)), n_ (.mupd .s (.t 32) (.t 34) (.t 40))]
def A_q24_4 : List AOper := [o_ 41 (.bini .add (.t 12) (i_ 1)), mv 12 41]
def A_q24_5 : ACode := (.seq (.ops [o_ 13 (.bini .lss (.t 12) (.t 11))]) (.seq (.cond (.t 13) .skip (.exit 0)) (.seq (.block 1 (.seq (.ops A_q24_1) (.seq (.seq (.alts [16, 17, 18, 19, 20, 21, 22, 23] [A_q24_2]) (.cond (.t 23) .bad .skip)) (.alts [29, 30, 31, 32, 33, 34, 35, 36, 37, 38, 39, 40] [A_q24_3])))) (.ops A_q24_4))))
def A_q24_6 : List AOper := [mv 42 4, o_ 43 (.lenl (.t 42)), o_ 44 (.bini .gtr (.t 43) (i_ 0))]
def A_q24_7 : List AOper := [mv 48 0, o_ 49 (.call 40 [(.t 48)]), o_ 50 (.lenl (.t 49)), o_ 51 (.mov (i_ 0))]
def A_q24_8 : List AOper := [o_ 53 (.iaddr 9 1 (.t 49) (.t 51)), o_ 54 (.ld1 (.t 53)), mv 8 54]
def A_q24_9 : List AOper := [mv 55 0, o_ 56 (.nilc (.t 55)), o_ 57 (.faddr 0 (.t 56)), o_ 58 (.ld1 (.t 57)), mv 59 8, o_ 60 (.mlook .s (.nilp) false (.t 58) (.t 59)), o_ 61 (.nilc (.t 60)), o_ 62 (.faddr 0 (.t 61)), o_ 63 (.lda 5 (.t 62)), o_ 64 (.call 41 [(.t 63)]), o_ 9 (.box 50 2 (.c (.agg [.int .i64 (0), .str []]))), n_ (.st 2 (.t 9) (.t 64))]
def A_q24_10 : List AOper := [o_ 65 (.faddr 0 (.t 9)), o_ 66 (.ld1 (.t 65)), o_ 67 (.bini .neq (.t 66) (i_ 0))]
def A_q24_11 : List AOper := [o_ 71 (.bini .add (.t 51) (i_ 1)), mv 51 71]
def A_q24_12 : ACode := (.seq (.ops [o_ 52 (.bini .lss (.t 51) (.t 50))]) (.seq (.cond (.t 52) .skip (.exit 2)) (.seq (.block 3 (.seq (.ops A_q24_8) (.seq (.ops A_q24_9) (.seq (.ops A_q24_10) (.cond (.t 67) .bad .skip))))) (.ops A_q24_11))))
def A_q24 : ACode := (.seq (.ops [o_ 4 (.mov (.c (.nils)))]) (.seq (.seq (.ops A_q24_0) (.block 0 (.loop A_q24_5))) (.seq (.seq (.ops A_q24_6) (.cond (.t 44) .bad .skip)) (.seq (.ops A_q24_7) (.block 2 (.loop A_q24_12))))))
def R_q24 : List ARes := []
def T_q24 : FC := ⟨72, A_q24, R_q24⟩
abbrev F_q25 : Nat := 25
def A_q25_0 : List AOper := [mv 6 0, o_ 7 (.call 40 [(.t 6)]), o_ 8 (.lenl (.t 7)), o_ 9 (.mov (i_ 0))]
def A_q25_1 : List AOper := [o_ 11 (.iaddr 9 1 (.t 7) (.t 9)), o_ 12 (.ld1 (.t 11)), mv 3 12]
def A_q25_2 : List AOper := [mv 13 0, o_ 14 (.nilc (.t 13)), o_ 15 (.faddr 0 (.t 14)), o_ 16 (.ld1 (.t 15)), mv 17 3, o_ 18 (.mlook .s (.nilp) false (.t 16) (.t 17)), o_ 19 (.nilc (.t 18)), o_ 20 (.faddr 0 (.t 19)), o_ 21 (.faddr 2 (.t 20)), o_ 22 (.ld1 (.t 21)), o_ 23 (.lenl (.t 22)), o_ 24 (.mov (i_ 0))]
def A_q25_3 : ACode := (.seq (.ops [o_ 25 (.bini .lss (.t 24) (.t 23))]) (.seq (.cond (.t 25) .bad (.exit 2)) .bad))
def A_q25_4 : List AOper := [o_ 40 (.bini .add (.t 9) (i_ 1)), mv 9 40]
def A_q25_5 : ACode := (.seq (.ops [o_ 10 (.bini .lss (.t 9) (.t 8))]) (.seq (.cond (.t 10) .skip (.exit 0)) (.seq (.block 1 (.seq (.ops A_q25_1) (.seq (.ops A_q25_2) (.block 2 (.loop A_q25_3))))) (.ops A_q25_4))))
def A_q25 : ACode := (.seq (.ops A_q25_0) (.block 0 (.loop A_q25_5)))
def R_q25 : List ARes := []
def T_q25 : FC := ⟨41, A_q25, R_q25⟩
abbrev F_q26 : Nat := 26
def A_q26_0 : List AOper := [o_ 8 (.ld1 (.t 1)), o_ 9 (.call 40 [(.t 8)]), o_ 10 (.lenl (.t 9)), o_ 11 (.mov (i_ 0))]
def A_q26_1 : List AOper := [o_ 13 (.iaddr 9 1 (.t 9) (.t 11)), o_ 14 (.ld1 (.t 13)), o_ 3 (.box 9 1 (.c (.str []))), n_ (.st 1 (.t 3) (.t 14))]
def A_q26_2 : List AOper := [o_ 15 (.mkmap), o_ 4 (.box 65 1 (.c (.nilm))), n_ (.st 1 (.t 4) (.t 15))]
def A_q26_3 : List AOper := [o_ 16 (.mkfn 42 [] [(.t 1), (.t 3), (.t 4), (.t 5)]), n_ (.st 1 (.t 5) (.t 16))]
def A_q26_4 : List AOper := [o_ 17 (.ld1 (.t 5)), o_ 18 (.ld1 (.t 3)), o_ 19 (.callv (.t 17) [(.t 18)])]
def A_q26_5 : List AOper := [o_ 20 (.bini .add (.t 11) (i_ 1)), mv 11 20]
def A_q26_6 : ACode := (.seq (.ops [o_ 12 (.bini .lss (.t 11) (.t 10))]) (.seq (.cond (.t 12) .skip (.exit 0)) (.seq (.block 1 (.seq (.ops A_q26_1) (.seq (.ops A_q26_2) (.seq (.ops [o_ 5 (.box 131 1 (.c (.nilf)))]) (.seq (.ops A_q26_3) (.ops A_q26_4)))))) (.ops A_q26_5))))
def A_q26_7 : List AOper := [o_ 21 (.ld1 (.t 1)), o_ 22 (.call 40 [(.t 21)]), o_ 23 (.lenl (.t 22)), o_ 24 (.mov (i_ 0))]
def A_q26_8 : List AOper := [o_ 26 (.iaddr 9 1 (.t 22) (.t 24)), o_ 27 (.ld1 (.t 26)), mv 7 27]
def A_q26_9 : List AOper := [o_ 28 (.ld1 (.t 1)), o_ 29 (.ld1 (.t 1)), o_ 30 (.nilc (.t 29)), o_ 31 (.faddr 0 (.t 30)), o_ 32 (.ld1 (.t 31)), mv 33 7, o_ 34 (.mlook .s (.nilp) false (.t 32) (.t 33)), o_ 35 (.nilc (.t 34)), o_ 36 (.faddr 5 (.t 35)), o_ 37 (.ld1 (.t 36)), mv 38 7, o_ 39 (.call 43 [(.t 28), (.t 37), (.t 38), (.c (.bool true))])]
def A_q26_10 : List AOper := [o_ 40 (.bini .add (.t 24) (i_ 1)), mv 24 40]
def A_q26_11 : ACode := (.seq (.ops [o_ 25 (.bini .lss (.t 24) (.t 23))]) (.seq (.cond (.t 25) .skip (.exit 2)) (.seq (.block 3 (.seq (.ops A_q26_8) (.alts [28, 29, 30, 31, 32, 33, 34, 35, 36, 37, 38, 39] [A_q26_9]))) (.ops A_q26_10))))
def A_q26 : ACode := (.seq (.ops [o_ 1 (.box 48 1 (.t 0))]) (.seq (.seq (.ops A_q26_0) (.block 0 (.loop A_q26_6))) (.seq (.ops A_q26_7) (.block 2 (.loop A_q26_11)))))
def R_q26 : List ARes := []
def T_q26 : FC := ⟨41, A_q26, R_q26⟩
abbrev F_q27 : Nat := 27
def A_q27_0 : List AOper := [o_ 15 (.mkmap), mv 2 15]
def A_q27_1 : List AOper := [mv 16 0, o_ 17 (.nilc (.t 16)), o_ 18 (.faddr 0 (.t 17)), o_ 19 (.ld1 (.t 18)), o_ 20 (.rngm (.t 19))]
def A_q27_2 : List AOper := [o_ 21 (.nxm (.t 20)), o_ 22 (.ext 0 (.t 21))]
def A_q27_3 : List AOper := [o_ 23 (.entr (.t 20)), o_ 24 (.ext 1 (.t 23)), mv 4 24]
def A_q27_4 : List AOper := [mv 25 4, o_ 26 (.nilc (.t 25)), o_ 27 (.faddr 0 (.t 26)), o_ 28 (.faddr 1 (.t 27)), o_ 29 (.ld1 (.t 28)), o_ 30 (.call 44 [(.t 29)]), o_ 31 (.lenl (.t 30)), o_ 32 (.mov (i_ 0))]
def A_q27_5 : ACode := (.seq (.ops [o_ 33 (.bini .lss (.t 32) (.t 31))]) (.seq (.cond (.t 33) .bad (.exit 2)) .bad))
def A_q27_6 : ACode := (.seq (.ops A_q27_2) (.seq (.cond (.t 22) .skip (.exit 0)) (.block 1 (.seq (.ops A_q27_3) (.seq (.ops A_q27_4) (.block 2 (.loop A_q27_5)))))))
def A_q27_7 : List AOper := [mv 39 0, o_ 40 (.call 40 [(.t 39)]), o_ 41 (.lenl (.t 40)), o_ 42 (.mov (i_ 0))]
def A_q27_8 : List AOper := [o_ 44 (.iaddr 9 1 (.t 40) (.t 42)), o_ 45 (.ld1 (.t 44)), mv 9 45]
def A_q27_9 : List AOper := [mv 46 0, o_ 47 (.nilc (.t 46)), o_ 48 (.faddr 0 (.t 47)), o_ 49 (.ld1 (.t 48)), mv 50 9, o_ 51 (.mlook .s (.nilp) false (.t 49) (.t 50)), mv 10 51]
def A_q27_10 : List AOper := [mv 52 10, o_ 53 (.nilc (.t 52)), o_ 54 (.faddr 0 (.t 53)), o_ 55 (.lda 5 (.t 54)), o_ 56 (.call 45 [(.t 55)]), o_ 57 (.lenl (.t 56)), o_ 58 (.mov (i_ 0))]
def A_q27_11 : List AOper := [o_ 60 (.iaddr 138 3 (.t 56) (.t 58)), o_ 61 (.lda 3 (.t 60)), o_ 12 (.box 138 3 (.c (.agg [.str [], .int .u8 (0), .str []]))), n_ (.st 3 (.t 12) (.t 61))]
def A_q27_12 : List AOper := [mv 63 0, o_ 64 (.nilc (.t 63)), o_ 65 (.faddr 2 (.t 64)), o_ 66 (.ld1 (.t 65)), o_ 67 (.faddr 0 (.t 12)), o_ 68 (.ld1 (.t 67)), o_ 69 (.mlook .s (.str []) true (.t 66) (.t 68)), mv 62 69, o_ 70 (.ext 0 (.t 62)), o_ 71 (.ext 1 (.t 62)), mv 13 70, mv 14 71]
def A_q27_13 : List AOper := [mv 72 14, mv 73 72, ⟨some 74, .mov (.t 2), some (73, false)⟩, ⟨some 75, .faddr 0 (.t 12), some (73, false)⟩, ⟨some 76, .ld1 (.t 75), some (73, false)⟩, ⟨some 77, .mlook .s (.bool false) false (.t 74) (.t 76), some (73, false)⟩, o_ 78 (.pick (.t 73) (.c (.bool true)) (.t 77))]
def A_q27_14 : List AOper := [mv 84 0, o_ 85 (.nilc (.t 84)), o_ 86 (.faddr 2 (.t 85)), o_ 87 (.ld1 (.t 86)), o_ 88 (.faddr 0 (.t 12)), o_ 89 (.ld1 (.t 88)), mv 90 9, n_ (.mupd .s (.t 87) (.t 89) (.t 90))]
def A_q27_15 : List AOper := [mv 91 10, o_ 92 (.nilc (.t 91)), o_ 93 (.faddr 6 (.t 92)), o_ 94 (.ld1 (.t 93)), o_ 95 (.faddr 0 (.t 12)), o_ 96 (.ld1 (.t 95)), o_ 97 (.faddr 1 (.t 12)), o_ 98 (.ld1 (.t 97)), n_ (.mupd .s (.t 94) (.t 96) (.t 98))]
def A_q27_16 : List AOper := [o_ 99 (.bini .add (.t 58) (i_ 1)), mv 58 99]
def A_q27_17 : ACode := (.seq (.ops [o_ 59 (.bini .lss (.t 58) (.t 57))]) (.seq (.cond (.t 59) .skip (.exit 6)) (.seq (.block 7 (.seq (.ops A_q27_11) (.seq (.seq (.alts [63, 64, 65, 66, 67, 68, 69, 62, 70, 71, 13, 14] [A_q27_12]) (.seq (.ops A_q27_13) (.cond (.t 78) .bad .skip))) (.seq (.alts [84, 85, 86, 87, 88, 89, 90] [A_q27_14]) (.alts [91, 92, 93, 94, 95, 96, 97, 98] [A_q27_15]))))) (.ops A_q27_16))))
def A_q27_18 : List AOper := [o_ 100 (.bini .add (.t 42) (i_ 1)), mv 42 100]
def A_q27_19 : ACode := (.seq (.ops [o_ 43 (.bini .lss (.t 42) (.t 41))]) (.seq (.cond (.t 43) .skip (.exit 4)) (.seq (.block 5 (.seq (.ops A_q27_8) (.seq (.ops A_q27_9) (.seq (.ops A_q27_10) (.block 6 (.loop A_q27_17)))))) (.ops A_q27_18))))
def A_q27_20 : List AOper := [mv 101 7, o_ 102 (.lenl (.t 101)), o_ 103 (.bini .gtr (.t 102) (i_ 0))]
def A_q27 : ACode := (.seq (.ops A_q27_0) (.seq (.seq (.ops A_q27_1) (.block 0 (.loop A_q27_6))) (.seq (.ops [o_ 7 (.mov (.c (.nils)))]) (.seq (.seq (.ops A_q27_7) (.block 4 (.loop A_q27_19))) (.seq (.ops A_q27_20) (.cond (.t 103) .bad .skip))))))
def R_q27 : List ARes := []
def T_q27 : FC := ⟨107, A_q27, R_q27⟩
abbrev F_q28 : Nat := 28
def A_q28_0 : List AOper := [mv 5 0, o_ 6 (.call 40 [(.t 5)]), o_ 7 (.lenl (.t 6)), o_ 8 (.mov (i_ 0))]
def A_q28_1 : List AOper := [o_ 10 (.iaddr 9 1 (.t 6) (.t 8)), o_ 11 (.ld1 (.t 10)), mv 3 11]
def A_q28_2 : List AOper := [mv 12 0, o_ 13 (.nilc (.t 12)), o_ 14 (.faddr 0 (.t 13)), o_ 15 (.ld1 (.t 14)), mv 16 3, o_ 17 (.mlook .s (.nilp) false (.t 15) (.t 16)), mv 4 17]
def A_q28_3 : List AOper := [mv 18 0, mv 19 4, mv 20 4, o_ 21 (.nilc (.t 20)), o_ 22 (.faddr 0 (.t 21)), o_ 23 (.faddr 1 (.t 22)), o_ 24 (.ld1 (.t 23)), mv 25 4, o_ 26 (.nilc (.t 25)), o_ 27 (.faddr 0 (.t 26)), o_ 28 (.faddr 3 (.t 27)), o_ 29 (.ld1 (.t 28)), o_ 30 (.call 46 [(.t 18), (.t 19), (.t 24), (.t 29)])]
def A_q28_4 : List AOper := [o_ 31 (.bini .add (.t 8) (i_ 1)), mv 8 31]
def A_q28_5 : ACode := (.seq (.ops [o_ 9 (.bini .lss (.t 8) (.t 7))]) (.seq (.cond (.t 9) .skip (.exit 0)) (.seq (.block 1 (.seq (.ops A_q28_1) (.seq (.ops A_q28_2) (.alts [18, 19, 20, 21, 22, 23, 24, 25, 26, 27, 28, 29, 30] [A_q28_3])))) (.ops A_q28_4))))
def A_q28 : ACode := (.seq (.ops A_q28_0) (.block 0 (.loop A_q28_5)))
def R_q28 : List ARes := []
def T_q28 : FC := ⟨32, A_q28, R_q28⟩
abbrev F_q29 : Nat := 29
def A_q29_0 : List AOper := [o_ 10 (.mkmap), o_ 2 (.box 65 1 (.c (.nilm))), n_ (.st 1 (.t 2) (.t 10))]
def A_q29_1 : List AOper := [mv 11 0, o_ 12 (.nilc (.t 11)), o_ 13 (.faddr 1 (.t 12)), o_ 14 (.ld1 (.t 13)), o_ 15 (.lenl (.t 14)), mv 16 0, o_ 17 (.nilc (.t 16)), o_ 18 (.faddr 0 (.t 17)), o_ 19 (.ld1 (.t 18)), o_ 20 (.mlen (.t 19)), o_ 21 (.bini .lss (.t 15) (.t 20))]
def A_q29_2 : List AOper := [mv 22 0, o_ 23 (.call 40 [(.t 22)]), o_ 24 (.lenl (.t 23)), o_ 25 (.mov (i_ 0))]
def A_q29_3 : List AOper := [o_ 27 (.iaddr 9 1 (.t 23) (.t 25)), o_ 28 (.ld1 (.t 27)), mv 4 28]
def A_q29_4 : List AOper := [o_ 29 (.mkfn 47 [] [(.t 2)]), mv 5 29]
def A_q29_5 : List AOper := [o_ 30 (.ld1 (.t 2)), mv 31 4, o_ 32 (.mlook .s (.bool false) false (.t 30) (.t 31)), o_ 33 (.not (.t 32)), mv 34 33, g_ 35 (.mov (.t 0)) 34, g_ 36 (.nilc (.t 35)) 34, g_ 37 (.faddr 0 (.t 36)) 34, g_ 38 (.ld1 (.t 37)) 34, g_ 39 (.mov (.t 4)) 34, g_ 40 (.mlook .s (.nilp) false (.t 38) (.t 39)) 34, g_ 41 (.nilc (.t 40)) 34, g_ 42 (.faddr 0 (.t 41)) 34, g_ 43 (.faddr 2 (.t 42)) 34, g_ 44 (.ld1 (.t 43)) 34, g_ 45 (.mov (.t 5)) 34, g_ 46 (.call 48 [(.t 44), (.t 45)]) 34, g_ 47 (.not (.t 46)) 34, o_ 48 (.pick (.t 34) (.t 47) (.c (.bool false)))]
def A_q29_6 : List AOper := [o_ 49 (.ld1 (.t 2)), mv 50 4, n_ (.mupd .s (.t 49) (.t 50) (.c (.bool true)))]
def A_q29_7 : List AOper := [mv 51 0, mv 52 0, o_ 53 (.nilc (.t 52)), o_ 54 (.faddr 1 (.t 53)), o_ 55 (.ld1 (.t 54)), mv 56 4, o_ 57 (.bslice 9 1 1 [.str []] [(0, 1, (.t 56))]), o_ 58 (.app 9 1 16 (.t 55) (.t 57)), o_ 59 (.nilc (.t 51)), o_ 60 (.faddr 1 (.t 59)), n_ (.st 1 (.t 60) (.t 58))]
def A_q29_8 : List AOper := [o_ 61 (.bini .add (.t 25) (i_ 1)), mv 25 61]
def A_q29_9 : ACode := (.seq (.ops [o_ 26 (.bini .lss (.t 25) (.t 24))]) (.seq (.cond (.t 26) .skip .bad) (.seq (.block 3 (.seq (.ops A_q29_3) (.seq (.ops A_q29_4) (.seq (.ops A_q29_5) (.cond (.t 48) (.seq (.ops A_q29_6) (.seq (.ops A_q29_7) (.exit 2))) .bad))))) (.ops A_q29_8))))
def A_q29_10 : ACode := (.seq (.seq (.alts [11, 12, 13, 14, 15, 16, 17, 18, 19, 20, 21] [A_q29_1]) (.cond (.t 21) .skip (.exit 0))) (.block 1 (.seq (.ops A_q29_2) (.block 2 (.loop A_q29_9)))))
def A_q29_11 : List AOper := [mv 62 0, o_ 63 (.nilc (.t 62)), o_ 64 (.faddr 0 (.t 63)), o_ 65 (.ld1 (.t 64)), o_ 66 (.rngm (.t 65))]
def A_q29_12 : List AOper := [o_ 67 (.nxm (.t 66)), o_ 68 (.ext 0 (.t 67))]
def A_q29_13 : List AOper := [o_ 69 (.entr (.t 66)), o_ 70 (.ext 1 (.t 69)), mv 7 70]
def A_q29_14 : List AOper := [mv 71 0, mv 72 7, o_ 73 (.nilc (.t 72)), o_ 74 (.faddr 0 (.t 73)), o_ 75 (.faddr 1 (.t 74)), o_ 76 (.ld1 (.t 75)), mv 77 7, o_ 78 (.nilc (.t 77)), o_ 79 (.faddr 0 (.t 78)), o_ 80 (.faddr 3 (.t 79)), o_ 81 (.ld1 (.t 80)), mv 82 7, o_ 83 (.nilc (.t 82)), o_ 84 (.faddr 0 (.t 83)), o_ 85 (.faddr 4 (.t 84)), o_ 86 (.ld1 (.t 85)), o_ 87 (.call 49 [(.t 71), (.t 76), (.t 81), (.t 86)])]
def A_q29_15 : ACode := (.seq (.ops A_q29_12) (.seq (.cond (.t 68) .skip (.exit 4)) (.block 5 (.seq (.ops A_q29_13) (.alts [71, 72, 73, 74, 75, 76, 77, 78, 79, 80, 81, 82, 83, 84, 85, 86, 87] [A_q29_14])))))
def A_q29_16 : List AOper := [mv 88 0, o_ 89 (.nilc (.t 88)), o_ 90 (.faddr 5 (.t 89)), o_ 91 (.ld1 (.t 90)), o_ 92 (.rngm (.t 91))]
def A_q29_17 : List AOper := [o_ 93 (.nxm (.t 92)), o_ 94 (.ext 0 (.t 93))]
def A_q29_18 : ACode := (.seq (.ops A_q29_17) (.seq (.cond (.t 94) .bad (.exit 6)) .bad))
def A_q29 : ACode := (.seq (.ops A_q29_0) (.seq (.block 0 (.loop A_q29_10)) (.seq (.seq (.ops A_q29_11) (.block 4 (.loop A_q29_15))) (.seq (.ops A_q29_16) (.block 6 (.loop A_q29_18))))))
def R_q29 : List ARes := []
def T_q29 : FC := ⟨99, A_q29, R_q29⟩
abbrev F_q31 : Nat := 31
def A_q31_0 : List AOper := [o_ 1 (.box 102 1 (.t 0)), o_ 2 (.mov (.c (.nilf)))]
def A_q31_1 : List AOper := [o_ 3 (.mkfn 53 [] [(.t 1)]), mv 2 3]
def A_q31 : ACode := (.seq (.ops A_q31_0) (.seq (.ops A_q31_1) .ret))
def R_q31 : List ARes := [.tmp 2]
def T_q31 : FC := ⟨4, A_q31, R_q31⟩
abbrev F_q32 : Nat := 32
def A_q32_0 : List AOper := [mv 3 0, o_ 4 (.nilc (.t 3)), o_ 5 (.faddr 0 (.t 4)), o_ 6 (.ld1 (.t 5)), mv 2 6]
def A_q32 : ACode := (.seq (.ops [o_ 2 (.mov (.c (.str [])))]) (.seq (.ops A_q32_0) .ret))
def R_q32 : List ARes := [.tmp 2]
def T_q32 : FC := ⟨7, A_q32, R_q32⟩
abbrev F_q33 : Nat := 33
def A_q33_0 : List AOper := [o_ 2 (.box 77 2 (.t 0)), o_ 4 (.mov (.c (.int .u8 (0))))]
def A_q33_1 : List AOper := [o_ 10 (.faddr 0 (.t 2)), o_ 11 (.ld1 (.t 10)), mv 12 1, o_ 13 (.call 20 [(.t 11), (.t 12)]), mv 9 13, o_ 14 (.ext 0 (.t 9)), o_ 15 (.ext 1 (.t 9)), o_ 5 (.box 73 9 (.c (.agg [.int .i32 (0), .str [], .str [], .int .u8 (0), .int .u8 (0), .int .u8 (0), .bool false, .int .i64 (0), .str []]))), n_ (.st 9 (.t 5) (.t 14)), mv 6 15]
def A_q33_2 : List AOper := [o_ 17 (.faddr 1 (.t 2)), o_ 18 (.ld1 (.t 17)), mv 19 1, o_ 20 (.call 20 [(.t 18), (.t 19)]), mv 16 20, o_ 21 (.ext 0 (.t 16)), o_ 22 (.ext 1 (.t 16)), o_ 7 (.box 73 9 (.c (.agg [.int .i32 (0), .str [], .str [], .int .u8 (0), .int .u8 (0), .int .u8 (0), .bool false, .int .i64 (0), .str []]))), n_ (.st 9 (.t 7) (.t 21)), mv 8 22]
def A_q33_3 : List AOper := [mv 24 6, o_ 25 (.not (.t 24)), mv 23 25]
def A_q33_4 : List AOper := [mv 27 8, o_ 28 (.not (.t 27)), mv 26 28]
def A_q33_5 : List AOper := [o_ 30 (.lda 2 (.t 2)), mv 31 1, o_ 32 (.call 21 [(.t 30), (.t 31)]), mv 29 32]
def A_q33_6 : List AOper := [o_ 34 (.lda 2 (.t 2)), o_ 35 (.lda 9 (.t 5)), o_ 36 (.lda 9 (.t 7)), o_ 37 (.call 54 [(.t 34), (.t 35), (.t 36)]), mv 33 37]
def A_q33_7 : List AOper := [o_ 39 (.lda 9 (.t 5)), o_ 40 (.lda 9 (.t 7)), o_ 41 (.call 55 [(.t 39), (.t 40)]), mv 42 41, g_ 43 (.faddr 1 (.t 5)) 42, g_ 44 (.ld1 (.t 43)) 42, g_ 45 (.faddr 1 (.t 7)) 42, g_ 46 (.ld1 (.t 45)) 42, g_ 47 (.bins .eql (.t 44) (.t 46)) 42, o_ 48 (.pick (.t 42) (.t 47) (.c (.bool false))), mv 49 48, g_ 50 (.faddr 2 (.t 5)) 49, g_ 51 (.ld1 (.t 50)) 49, g_ 52 (.faddr 2 (.t 7)) 49, g_ 53 (.ld1 (.t 52)) 49, g_ 54 (.bins .eql (.t 51) (.t 53)) 49, o_ 55 (.pick (.t 49) (.t 54) (.c (.bool false))), mv 56 55, g_ 57 (.faddr 8 (.t 5)) 56, g_ 58 (.ld1 (.t 57)) 56, g_ 59 (.faddr 8 (.t 7)) 56, g_ 60 (.ld1 (.t 59)) 56, g_ 61 (.bins .eql (.t 58) (.t 60)) 56, o_ 62 (.pick (.t 56) (.t 61) (.c (.bool false))), mv 38 62]
def A_q33_8 : List AOper := [o_ 64 (.lda 9 (.t 5)), o_ 65 (.lda 9 (.t 7)), o_ 66 (.call 55 [(.t 64), (.t 65)]), mv 63 66]
def A_q33_9 : List AOper := [o_ 68 (.lda 9 (.t 5)), o_ 69 (.lda 9 (.t 7)), o_ 70 (.call 56 [(.t 68), (.t 69)]), mv 67 70]
def A_q33 : ACode := (.seq (.ops A_q33_0) (.seq (.ops A_q33_1) (.seq (.ops A_q33_2) (.seq (.block 0 (.seq (.ops A_q33_3) (.cond (.t 23) (.seq (.ops [o_ 4 (.mov (.c (.int .u8 (2))))]) .ret) (.seq (.ops A_q33_4) (.cond (.t 26) (.seq (.ops [o_ 4 (.mov (.c (.int .u8 (3))))]) .ret) (.seq (.ops A_q33_5) (.cond (.t 29) (.seq (.ops [o_ 4 (.mov (.c (.int .u8 (7))))]) .ret) (.seq (.ops A_q33_6) (.cond (.t 33) (.seq (.ops [o_ 4 (.mov (.c (.int .u8 (6))))]) .ret) (.seq (.ops A_q33_7) (.cond (.t 38) (.seq (.ops [o_ 4 (.mov (.c (.int .u8 (1))))]) .ret) (.seq (.ops A_q33_8) (.cond (.t 63) .bad (.seq (.ops A_q33_9) (.cond (.t 67) (.seq (.ops [o_ 4 (.mov (.c (.int .u8 (5))))]) .ret) .skip))))))))))))))) (.seq (.ops [o_ 4 (.mov (.c (.int .u8 (6))))]) .ret)))))
def R_q33 : List ARes := [.tmp 4]
def T_q33 : FC := ⟨71, A_q33, R_q33⟩
abbrev F_q34 : Nat := 34
def A_q34_0 : List AOper := [mv 3 0, o_ 4 (.isnilu false (.t 3))]
def A_q34_1 : List AOper := [o_ 5 (.bslice0 73), mv 6 0, o_ 7 (.app 73 9 72 (.t 5) (.t 6)), mv 2 7]
def A_q34 : ACode := (.seq (.ops [o_ 2 (.mov (.c (.nils)))]) (.seq (.seq (.ops A_q34_0) (.cond (.t 4) .bad .skip)) (.seq (.ops A_q34_1) .ret)))
def R_q34 : List ARes := [.tmp 2]
def T_q34 : FC := ⟨8, A_q34, R_q34⟩
abbrev F_q35 : Nat := 35
def A_q35_0 : List AOper := [o_ 6 (.box 73 9 (.c (.agg [.int .i32 (0), .str [], .str [], .int .u8 (0), .int .u8 (0), .int .u8 (0), .bool false, .int .i64 (0), .str []]))), o_ 7 (.mov (.c (.bool false)))]
def A_q35_1 : List AOper := [mv 8 2, o_ 9 (.not (.t 8))]
def A_q35_2 : List AOper := [o_ 10 (.build [.int .i32 (0), .str [], .str [], .int .u8 (0), .int .u8 (0), .int .u8 (0), .bool false, .int .i64 (0), .str []] []), n_ (.st 9 (.t 6) (.t 10)), o_ 7 (.mov (.c (.bool false)))]
def A_q35_3 : List AOper := [mv 11 0, o_ 12 (.nilc (.t 11)), o_ 13 (.faddr 2 (.t 12)), o_ 14 (.ld1 (.t 13)), mv 15 1, o_ 16 (.iaddr 73 9 (.t 14) (.t 15)), o_ 17 (.lda 9 (.t 16)), n_ (.st 9 (.t 6) (.t 17)), o_ 7 (.mov (.c (.bool true)))]
def A_q35 : ACode := (.seq (.ops A_q35_0) (.seq (.seq (.ops A_q35_1) (.cond (.t 9) (.seq (.ops A_q35_2) .ret) .skip)) (.seq (.ops A_q35_3) .ret)))
def R_q35 : List ARes := [.cella 6 9, .tmp 7]
def T_q35 : FC := ⟨18, A_q35, R_q35⟩
abbrev F_q36 : Nat := 36
def A_q36_0 : List AOper := [o_ 2 (.box 73 9 (.t 0)), o_ 4 (.mov (.c (.bool false)))]
def A_q36_1 : List AOper := [o_ 6 (.faddr 3 (.t 2)), o_ 7 (.ld1 (.t 6)), o_ 8 (.bini .eql (.t 7) (.c (.int .u8 (4)))), mv 5 8]
def A_q36_2 : List AOper := [mv 12 1, o_ 13 (.faddr 4 (.t 2)), o_ 14 (.ld1 (.t 13)), o_ 15 (.call 57 [(.t 14)]), o_ 16 (.bini .eql (.t 12) (.t 15)), mv 11 16]
def A_q36_3 : List AOper := [o_ 17 (.faddr 3 (.t 2)), o_ 18 (.ld1 (.t 17)), o_ 19 (.bini .eql (.t 18) (.c (.int .u8 (3)))), mv 20 19, g_ 21 (.mov (.t 1)) 20, g_ 22 (.bini .eql (.t 21) (.c (.int .u8 (2)))) 20, o_ 23 (.pick (.t 20) (.t 22) (.c (.bool false))), mv 4 23]
def A_q36 : ACode := (.seq (.ops A_q36_0) (.seq (.block 0 (.seq (.ops A_q36_1) (.cond (.t 5) .bad (.seq (.ops A_q36_2) (.cond (.t 11) (.seq (.ops [o_ 4 (.mov (.c (.bool true)))]) .ret) .skip))))) (.seq (.ops A_q36_3) .ret)))
def R_q36 : List ARes := [.tmp 4]
def T_q36 : FC := ⟨24, A_q36, R_q36⟩
abbrev F_q37 : Nat := 37
def A_q37_0 : List AOper := [o_ 1 (.box 73 9 (.t 0)), o_ 2 (.mov (.c (.int .u8 (0))))]
def A_q37_1 : List AOper := [o_ 3 (.faddr 3 (.t 1)), o_ 4 (.ld1 (.t 3)), o_ 5 (.bini .eql (.t 4) (.c (.int .u8 (4)))), mv 6 5, ⟨some 7, .faddr 6 (.t 1), some (6, false)⟩, ⟨some 8, .ld1 (.t 7), some (6, false)⟩, o_ 9 (.pick (.t 6) (.c (.bool true)) (.t 8))]
def A_q37_2 : List AOper := [o_ 10 (.faddr 4 (.t 1)), o_ 11 (.ld1 (.t 10)), o_ 12 (.call 57 [(.t 11)]), mv 2 12]
def A_q37 : ACode := (.seq (.ops A_q37_0) (.seq (.seq (.ops A_q37_1) (.cond (.t 9) (.seq (.ops [o_ 2 (.mov (.c (.int .u8 (2))))]) .ret) .skip)) (.seq (.ops A_q37_2) .ret)))
def R_q37 : List ARes := [.tmp 2]
def T_q37 : FC := ⟨13, A_q37, R_q37⟩
abbrev F_q38 : Nat := 38
def A_q38_0 : List AOper := [o_ 1 (.box 62 5 (.t 0)), o_ 2 (.box 62 5 (.c (.agg [.str [], .str [], .nils, .nils, .nils])))]
def A_q38_1 : List AOper := [o_ 3 (.faddr 2 (.t 1)), o_ 4 (.ld1 (.t 3)), o_ 5 (.call 58 [(.t 4)]), o_ 6 (.faddr 2 (.t 1)), n_ (.st 1 (.t 6) (.t 5))]
def A_q38_2 : List AOper := [o_ 8 (.faddr 3 (.t 1)), o_ 9 (.ld1 (.t 8)), o_ 10 (.faddr 4 (.t 1)), o_ 11 (.ld1 (.t 10)), o_ 12 (.call 59 [(.t 9), (.t 11)]), mv 7 12, o_ 13 (.ext 0 (.t 7)), o_ 14 (.ext 1 (.t 7)), o_ 15 (.faddr 3 (.t 1)), n_ (.st 1 (.t 15) (.t 13)), o_ 16 (.faddr 4 (.t 1)), n_ (.st 1 (.t 16) (.t 14))]
def A_q38_3 : List AOper := [o_ 17 (.lda 5 (.t 1)), n_ (.st 5 (.t 2) (.t 17))]
def A_q38 : ACode := (.seq (.ops A_q38_0) (.seq (.ops A_q38_1) (.seq (.ops A_q38_2) (.seq (.ops A_q38_3) .ret))))
def R_q38 : List ARes := [.cella 2 5]
def T_q38 : FC := ⟨18, A_q38, R_q38⟩
abbrev F_q40 : Nat := 40
def A_q40_0 : List AOper := [mv 3 0, o_ 4 (.nilc (.t 3)), o_ 5 (.faddr 0 (.t 4)), o_ 6 (.ld1 (.t 5)), o_ 7 (.call 61 [(.t 6)]), o_ 8 (.call 60 [(.t 7)]), mv 2 8]
def A_q40 : ACode := (.seq (.ops [o_ 2 (.mov (.c (.nils)))]) (.seq (.ops A_q40_0) .ret))
def R_q40 : List ARes := [.tmp 2]
def T_q40 : FC := ⟨9, A_q40, R_q40⟩
abbrev F_q41 : Nat := 41
def A_q41_0 : List AOper := [o_ 1 (.box 62 5 (.t 0)), o_ 2 (.box 50 2 (.c (.agg [.int .i64 (0), .str []])))]
def A_q41_1 : List AOper := [o_ 5 (.mkmap), o_ 6 (.build [.nilm] [(0, 1, (.t 5))]), o_ 7 (.box 159 1 (.t 6)), mv 3 7]
def A_q41_2 : List AOper := [mv 8 3, o_ 9 (.lda 5 (.t 1)), o_ 10 (.call 63 [(.t 8), (.t 9)])]
def A_q41_3 : List AOper := [o_ 11 (.build [.int .i64 (0), .str []] []), n_ (.st 2 (.t 2) (.t 11))]
def A_q41 : ACode := (.seq (.ops A_q41_0) (.seq (.seq (.ops [o_ 4 (.mkfn 62 [] [(.t 2)])]) (.dfr (.t 4) [])) (.seq (.ops A_q41_1) (.seq (.ops A_q41_2) (.seq (.ops A_q41_3) .ret)))))
def R_q41 : List ARes := [.cella 2 2]
def T_q41 : FC := ⟨12, A_q41, R_q41⟩
abbrev F_q42 : Nat := 42
def A_q42_0 : List AOper := [o_ 8 (.ld1 (.t 1)), o_ 9 (.nilc (.t 8)), o_ 10 (.faddr 0 (.t 9)), o_ 11 (.ld1 (.t 10)), mv 12 0, o_ 13 (.mlook .s (.nilp) false (.t 11) (.t 12)), o_ 14 (.nilc (.t 13)), o_ 15 (.faddr 0 (.t 14)), o_ 16 (.faddr 2 (.t 15)), o_ 17 (.ld1 (.t 16)), o_ 18 (.lenl (.t 17)), o_ 19 (.mov (i_ 0))]
def A_q42_1 : ACode := (.seq (.ops [o_ 20 (.bini .lss (.t 19) (.t 18))]) (.seq (.cond (.t 20) .bad (.exit 0)) .bad))
def A_q42 : ACode := (.seq (.ops A_q42_0) (.block 0 (.loop A_q42_1)))
def R_q42 : List ARes := []
def T_q42 : FC := ⟨42, A_q42, R_q42⟩
abbrev F_q43 : Nat := 43
def A_q43_0 : List AOper := [mv 10 1, mv 11 2, o_ 12 (.mlook .s (.bool false) false (.t 10) (.t 11)), mv 13 12, g_ 14 (.mov (.t 3)) 13, g_ 15 (.not (.t 14)) 13, o_ 16 (.pick (.t 13) (.t 15) (.c (.bool false)))]
def A_q43_1 : List AOper := [mv 17 1, mv 18 2, n_ (.mupd .s (.t 17) (.t 18) (.c (.bool true)))]
def A_q43_2 : List AOper := [mv 19 0, o_ 20 (.nilc (.t 19)), o_ 21 (.faddr 0 (.t 20)), o_ 22 (.ld1 (.t 21)), mv 23 2, o_ 24 (.mlook .s (.nilp) false (.t 22) (.t 23)), o_ 25 (.nilc (.t 24)), o_ 26 (.faddr 0 (.t 25)), o_ 27 (.faddr 2 (.t 26)), o_ 28 (.ld1 (.t 27)), o_ 29 (.lenl (.t 28)), o_ 30 (.mov (i_ 0))]
def A_q43_3 : ACode := (.seq (.ops [o_ 31 (.bini .lss (.t 30) (.t 29))]) (.seq (.cond (.t 31) .bad (.exit 0)) .bad))
def A_q43 : ACode := (.seq (.seq (.ops A_q43_0) (.cond (.t 16) .bad .skip)) (.seq (.ops A_q43_1) (.seq (.ops A_q43_2) (.block 0 (.loop A_q43_3)))))
def R_q43 : List ARes := []
def T_q43 : FC := ⟨45, A_q43, R_q43⟩
abbrev F_q44 : Nat := 44
def A_q44_0 : List AOper := [mv 5 0, o_ 6 (.call 64 [(.t 5)])]
def A_q44_1 : List AOper := [mv 8 4, o_ 9 (.bins .neq (.t 8) (.c (.str [])))]
def A_q44_2 : List AOper := [o_ 10 (.ld1 (.t 3)), mv 11 4, o_ 12 (.bslice 9 1 1 [.str []] [(0, 1, (.t 11))]), o_ 13 (.app 9 1 16 (.t 10) (.t 12)), n_ (.st 1 (.t 3) (.t 13))]
def A_q44_3 : List AOper := [o_ 14 (.ld1 (.t 3)), mv 2 14]
def A_q44 : ACode := (.seq (.ops [o_ 2 (.mov (.c (.nils)))]) (.seq (.ops [o_ 3 (.box 36 1 (.c (.nils)))]) (.seq (.seq (.ops A_q44_0) (.block 0 (.rngf (.t 6) [7] (.ops [mv 4 7]) (.block 1 (.seq (.ops A_q44_1) (.cond (.t 9) (.ops A_q44_2) .skip)))))) (.seq (.ops A_q44_3) .ret))))
def R_q44 : List ARes := [.tmp 2]
def T_q44 : FC := ⟨15, A_q44, R_q44⟩
abbrev F_q45 : Nat := 45
def A_q45_0 : List AOper := [o_ 1 (.box 62 5 (.t 0)), o_ 2 (.mov (.c (.nils)))]
def A_q45_1 : List AOper := [o_ 11 (.mkfn 65 [] [(.t 3), (.t 1)]), o_ 4 (.box 163 1 (.c (.nilf))), n_ (.st 1 (.t 4) (.t 11))]
def A_q45_2 : List AOper := [o_ 12 (.mkfn 67 [] [(.t 4)]), o_ 5 (.box 169 1 (.c (.nilf))), n_ (.st 1 (.t 5) (.t 12))]
def A_q45_3 : List AOper := [o_ 13 (.mkfn 68 [] [(.t 4), (.t 6), (.t 5)]), n_ (.st 1 (.t 6) (.t 13))]
def A_q45_4 : List AOper := [o_ 14 (.faddr 3 (.t 1)), o_ 15 (.ld1 (.t 14)), o_ 16 (.lenl (.t 15)), o_ 17 (.mov (i_ 0))]
def A_q45_5 : List AOper := [o_ 19 (.iaddr 59 7 (.t 15) (.t 17)), o_ 20 (.lda 7 (.t 19)), o_ 8 (.box 59 7 (.c (.agg [.str [], .nils, .nils, .nils, .nils, .nils, .nils]))), n_ (.st 7 (.t 8) (.t 20))]
def A_q45_6 : List AOper := [o_ 21 (.ld1 (.t 6)), o_ 22 (.lda 7 (.t 8)), o_ 23 (.faddr 1 (.t 1)), o_ 24 (.ld1 (.t 23)), o_ 25 (.callv (.t 21) [(.t 22), (.t 24)])]
def A_q45_7 : List AOper := [o_ 26 (.bini .add (.t 17) (i_ 1)), mv 17 26]
def A_q45_8 : ACode := (.seq (.ops [o_ 18 (.bini .lss (.t 17) (.t 16))]) (.seq (.cond (.t 18) .skip (.exit 0)) (.seq (.block 1 (.seq (.ops A_q45_5) (.ops A_q45_6))) (.ops A_q45_7))))
def A_q45_9 : List AOper := [o_ 27 (.faddr 4 (.t 1)), o_ 28 (.ld1 (.t 27)), o_ 29 (.lenl (.t 28)), o_ 30 (.mov (i_ 0))]
def A_q45_10 : ACode := (.seq (.ops [o_ 31 (.bini .lss (.t 30) (.t 29))]) (.seq (.cond (.t 31) .bad (.exit 2)) .bad))
def A_q45_11 : List AOper := [o_ 40 (.ld1 (.t 3)), o_ 41 (.call 69 [(.t 40), (.f 70)])]
def A_q45_12 : List AOper := [o_ 42 (.ld1 (.t 3)), mv 2 42]
def A_q45 : ACode := (.seq (.ops A_q45_0) (.seq (.ops [o_ 3 (.box 134 1 (.c (.nils)))]) (.seq (.ops A_q45_1) (.seq (.ops A_q45_2) (.seq (.ops [o_ 6 (.box 170 1 (.c (.nilf)))]) (.seq (.ops A_q45_3) (.seq (.seq (.ops A_q45_4) (.block 0 (.loop A_q45_8))) (.seq (.seq (.ops A_q45_9) (.block 2 (.loop A_q45_10))) (.seq (.ops A_q45_11) (.seq (.ops A_q45_12) .ret))))))))))
def R_q45 : List ARes := [.tmp 2]
def T_q45 : FC := ⟨43, A_q45, R_q45⟩
abbrev F_q46 : Nat := 46
def A_q46_0 : List AOper := [mv 12 3, o_ 13 (.lenl (.t 12)), o_ 14 (.mov (i_ 0))]
def A_q46_1 : List AOper := [mv 16 14, mv 8 16]
def A_q46_2 : List AOper := [mv 17 3, mv 18 8, o_ 19 (.iaddr 59 7 (.t 17) (.t 18)), mv 9 19]
def A_q46_3 : List AOper := [mv 20 2, mv 21 9, o_ 22 (.nilc (.t 21)), o_ 23 (.faddr 0 (.t 22)), o_ 24 (.ld1 (.t 23)), o_ 25 (.bslice 9 1 2 [.str []] [(0, 1, (.t 20)), (1, 1, (.t 24))]), o_ 26 (.call 66 [(.t 25)]), mv 10 26]
def A_q46_4 : List AOper := [mv 27 9, o_ 28 (.nilc (.t 27)), o_ 29 (.faddr 1 (.t 28)), o_ 30 (.ld1 (.t 29)), o_ 31 (.lenl (.t 30)), o_ 32 (.mov (i_ 0))]
def A_q46_5 : List AOper := [mv 34 32, mv 11 34]
def A_q46_6 : List AOper := [mv 35 0, mv 36 1, mv 37 10, mv 38 9, o_ 39 (.nilc (.t 38)), o_ 40 (.faddr 1 (.t 39)), o_ 41 (.ld1 (.t 40)), mv 42 11, o_ 43 (.iaddr 41 9 (.t 41) (.t 42)), o_ 44 (.call 74 [(.t 35), (.t 36), (.t 37), (.t 43)])]
def A_q46_7 : List AOper := [o_ 45 (.bini .add (.t 32) (i_ 1)), mv 32 45]
def A_q46_8 : ACode := (.seq (.ops [o_ 33 (.bini .lss (.t 32) (.t 31))]) (.seq (.cond (.t 33) .skip (.exit 2)) (.seq (.block 3 (.seq (.ops A_q46_5) (.ops A_q46_6))) (.ops A_q46_7))))
def A_q46_9 : List AOper := [mv 46 0, mv 47 1, mv 48 10, mv 49 9, o_ 50 (.nilc (.t 49)), o_ 51 (.faddr 3 (.t 50)), o_ 52 (.ld1 (.t 51)), o_ 53 (.call 46 [(.t 46), (.t 47), (.t 48), (.t 52)])]
def A_q46_10 : List AOper := [o_ 54 (.bini .add (.t 14) (i_ 1)), mv 14 54]
def A_q46_11 : ACode := (.seq (.ops [o_ 15 (.bini .lss (.t 14) (.t 13))]) (.seq (.cond (.t 15) .skip (.exit 0)) (.seq (.block 1 (.seq (.ops A_q46_1) (.seq (.ops A_q46_2) (.seq (.ops A_q46_3) (.seq (.seq (.ops A_q46_4) (.block 2 (.loop A_q46_8))) (.ops A_q46_9)))))) (.ops A_q46_10))))
def A_q46 : ACode := (.seq (.ops A_q46_0) (.block 0 (.loop A_q46_11)))
def R_q46 : List ARes := []
def T_q46 : FC := ⟨55, A_q46, R_q46⟩
abbrev F_q48 : Nat := 48
def A_q48_0 : List AOper := [mv 5 0, mv 6 1, o_ 7 (.call 75 [(.t 5), (.t 6)]), o_ 8 (.bini .geq (.t 7) (i_ 0)), mv 4 8]
def A_q48 : ACode := (.seq (.ops [o_ 4 (.mov (.c (.bool false)))]) (.seq (.ops A_q48_0) .ret))
def R_q48 : List ARes := [.tmp 4]
def T_q48 : FC := ⟨9, A_q48, R_q48⟩
abbrev F_q49 : Nat := 49
def A_q49_0 : List AOper := [mv 15 3, o_ 16 (.lenl (.t 15)), o_ 17 (.mov (i_ 0))]
def A_q49_1 : ACode := (.seq (.ops [o_ 18 (.bini .lss (.t 17) (.t 16))]) (.seq (.cond (.t 18) .bad (.exit 0)) .bad))
def A_q49_2 : List AOper := [mv 32 2, o_ 33 (.lenl (.t 32)), o_ 34 (.mov (i_ 0))]
def A_q49_3 : List AOper := [o_ 36 (.iaddr 59 7 (.t 32) (.t 34)), o_ 37 (.lda 7 (.t 36)), o_ 11 (.box 59 7 (.c (.agg [.str [], .nils, .nils, .nils, .nils, .nils, .nils]))), n_ (.st 7 (.t 11) (.t 37))]
def A_q49_4 : List AOper := [mv 38 1, o_ 39 (.faddr 0 (.t 11)), o_ 40 (.ld1 (.t 39)), o_ 41 (.bslice 9 1 2 [.str []] [(0, 1, (.t 38)), (1, 1, (.t 40))]), o_ 42 (.call 66 [(.t 41)]), mv 12 42]
def A_q49_5 : List AOper := [mv 43 0, o_ 44 (.nilc (.t 43)), o_ 45 (.faddr 3 (.t 44)), o_ 46 (.ld1 (.t 45)), mv 47 12, o_ 48 (.lda 7 (.t 11)), n_ (.mupd .s (.t 46) (.t 47) (.t 48))]
def A_q49_6 : List AOper := [o_ 49 (.faddr 1 (.t 11)), o_ 50 (.ld1 (.t 49)), o_ 51 (.lenl (.t 50)), o_ 52 (.mov (i_ 0))]
def A_q49_7 : List AOper := [o_ 54 (.iaddr 41 9 (.t 50) (.t 52)), o_ 55 (.lda 9 (.t 54)), o_ 14 (.box 41 9 (.c (.agg [.str [], .int .i32 (0), .int .u8 (0), .int .u8 (0), .str [], .int .u8 (0), .int .i64 (0), .int .u8 (0), .str []]))), n_ (.st 9 (.t 14) (.t 55))]
def A_q49_8 : List AOper := [o_ 56 (.faddr 4 (.t 14)), o_ 57 (.ld1 (.t 56)), o_ 58 (.bins .neq (.t 57) (.c (.str []))), mv 59 58, g_ 60 (.mov (.t 0)) 59, g_ 61 (.nilc (.t 60)) 59, g_ 62 (.faddr 5 (.t 61)) 59, g_ 63 (.ld1 (.t 62)) 59, g_ 64 (.faddr 4 (.t 14)) 59, g_ 65 (.ld1 (.t 64)) 59, g_ 66 (.mlook .s (.nils) false (.t 63) (.t 65)) 59, g_ 67 (.mov (.t 12)) 59, g_ 68 (.call 76 [(.t 66), (.t 67)]) 59, g_ 69 (.not (.t 68)) 59, o_ 70 (.pick (.t 59) (.t 69) (.c (.bool false)))]
def A_q49_9 : List AOper := [o_ 87 (.bini .add (.t 52) (i_ 1)), mv 52 87]
def A_q49_10 : ACode := (.seq (.ops [o_ 53 (.bini .lss (.t 52) (.t 51))]) (.seq (.cond (.t 53) .skip (.exit 4)) (.seq (.block 5 (.seq (.ops A_q49_7) (.seq (.alts [56, 57, 58, 59, 60, 61, 62, 63, 64, 65, 66, 67, 68, 69, 70] [A_q49_8]) (.cond (.t 70) .bad .skip)))) (.ops A_q49_9))))
def A_q49_11 : List AOper := [mv 88 0, mv 89 12, o_ 90 (.faddr 3 (.t 11)), o_ 91 (.ld1 (.t 90)), o_ 92 (.faddr 4 (.t 11)), o_ 93 (.ld1 (.t 92)), o_ 94 (.call 49 [(.t 88), (.t 89), (.t 91), (.t 93)])]
def A_q49_12 : List AOper := [o_ 95 (.bini .add (.t 34) (i_ 1)), mv 34 95]
def A_q49_13 : ACode := (.seq (.ops [o_ 35 (.bini .lss (.t 34) (.t 33))]) (.seq (.cond (.t 35) .skip (.exit 2)) (.seq (.block 3 (.seq (.ops A_q49_3) (.seq (.ops A_q49_4) (.seq (.alts [43, 44, 45, 46, 47, 48] [A_q49_5]) (.seq (.seq (.ops A_q49_6) (.block 4 (.loop A_q49_10))) (.ops A_q49_11)))))) (.ops A_q49_12))))
def A_q49 : ACode := (.seq (.seq (.ops A_q49_0) (.block 0 (.loop A_q49_1))) (.seq (.ops A_q49_2) (.block 2 (.loop A_q49_13))))
def R_q49 : List ARes := []
def T_q49 : FC := ⟨96, A_q49, R_q49⟩
abbrev F_q50 : Nat := 50
def A_q50_0 : List AOper := [mv 3 0, o_ 4 (.lenl (.t 3)), mv 2 4]
def A_q50_1 : List AOper := [mv 5 0, mv 6 2, mv 7 2, o_ 8 (.conv .u64 (.t 7)), o_ 9 (.call 78 [(.t 8)]), o_ 10 (.call 77 [(.t 5), (i_ 0), (.t 6), (.t 9)])]
def A_q50 : ACode := (.seq (.ops A_q50_0) (.ops A_q50_1))
def R_q50 : List ARes := []
def T_q50 : FC := ⟨11, A_q50, R_q50⟩
abbrev F_q53 : Nat := 53
def A_q53_0 : List AOper := [o_ 4 (.ld1 (.t 1)), o_ 5 (.rngm (.t 4))]
def A_q53_1 : List AOper := [o_ 6 (.nxm (.t 5)), o_ 7 (.ext 0 (.t 6))]
def A_q53_2 : ACode := (.seq (.ops A_q53_1) (.seq (.cond (.t 7) .bad .bad) .bad))
def A_q53 : ACode := (.seq (.ops A_q53_0) (.block 0 (.loop A_q53_2)))
def R_q53 : List ARes := []
def T_q53 : FC := ⟨14, A_q53, R_q53⟩
abbrev F_q54 : Nat := 54
def A_q54_0 : List AOper := [o_ 3 (.box 77 2 (.t 0)), o_ 4 (.box 73 9 (.t 1)), o_ 5 (.box 73 9 (.t 2)), o_ 6 (.mov (.c (.bool false)))]
def A_q54_1 : List AOper := [o_ 11 (.faddr 7 (.t 5)), o_ 12 (.ld1 (.t 11)), o_ 13 (.bini .eql (.t 12) (i_ 0))]
def A_q54_2 : List AOper := [o_ 14 (.faddr 1 (.t 3)), o_ 15 (.ld1 (.t 14)), o_ 16 (.call 19 [(.t 15)]), o_ 17 (.lenl (.t 16)), o_ 18 (.mov (i_ 0))]
def A_q54_3 : List AOper := [o_ 20 (.iaddr 73 9 (.t 16) (.t 18)), o_ 21 (.lda 9 (.t 20)), o_ 8 (.box 73 9 (.c (.agg [.int .i32 (0), .str [], .str [], .int .u8 (0), .int .u8 (0), .int .u8 (0), .bool false, .int .i64 (0), .str []]))), n_ (.st 9 (.t 8) (.t 21))]
def A_q54_4 : List AOper := [o_ 23 (.faddr 0 (.t 3)), o_ 24 (.ld1 (.t 23)), o_ 25 (.faddr 0 (.t 8)), o_ 26 (.ld1 (.t 25)), o_ 27 (.call 20 [(.t 24), (.t 26)]), mv 22 27, o_ 28 (.ext 0 (.t 22)), o_ 29 (.ext 1 (.t 22)), o_ 9 (.box 73 9 (.c (.agg [.int .i32 (0), .str [], .str [], .int .u8 (0), .int .u8 (0), .int .u8 (0), .bool false, .int .i64 (0), .str []]))), n_ (.st 9 (.t 9) (.t 28)), mv 10 29]
def A_q54_5 : List AOper := [o_ 30 (.faddr 0 (.t 8)), o_ 31 (.ld1 (.t 30)), o_ 32 (.faddr 0 (.t 5)), o_ 33 (.ld1 (.t 32)), o_ 34 (.bini .eql (.t 31) (.t 33)), mv 35 34, ⟨some 36, .faddr 7 (.t 8), some (35, false)⟩, ⟨some 37, .ld1 (.t 36), some (35, false)⟩, ⟨some 38, .faddr 7 (.t 5), some (35, false)⟩, ⟨some 39, .ld1 (.t 38), some (35, false)⟩, ⟨some 40, .bini .neq (.t 37) (.t 39), some (35, false)⟩, o_ 41 (.pick (.t 35) (.c (.bool true)) (.t 40)), mv 42 41, ⟨some 43, .mov (.t 10), some (42, false)⟩, ⟨some 44, .not (.t 43), some (42, false)⟩, o_ 45 (.pick (.t 42) (.c (.bool true)) (.t 44)), mv 46 45, ⟨some 47, .lda 2 (.t 3), some (46, false)⟩, ⟨some 48, .faddr 0 (.t 8), some (46, false)⟩, ⟨some 49, .ld1 (.t 48), some (46, false)⟩, ⟨some 50, .call 21 [(.t 47), (.t 49)], some (46, false)⟩, o_ 51 (.pick (.t 46) (.c (.bool true)) (.t 50))]
def A_q54_6 : List AOper := [o_ 52 (.faddr 7 (.t 4)), o_ 53 (.ld1 (.t 52)), o_ 54 (.bini .eql (.t 53) (i_ 0)), mv 55 54, ⟨some 56, .faddr 7 (.t 9), some (55, false)⟩, ⟨some 57, .ld1 (.t 56), some (55, false)⟩, ⟨some 58, .faddr 7 (.t 4), some (55, false)⟩, ⟨some 59, .ld1 (.t 58), some (55, false)⟩, ⟨some 60, .bini .neq (.t 57) (.t 59), some (55, false)⟩, o_ 61 (.pick (.t 55) (.c (.bool true)) (.t 60))]
def A_q54_7 : List AOper := [o_ 62 (.bini .add (.t 18) (i_ 1)), mv 18 62]
def A_q54_8 : ACode := (.seq (.ops [o_ 19 (.bini .lss (.t 18) (.t 17))]) (.seq (.cond (.t 19) .skip (.exit 0)) (.seq (.block 1 (.seq (.ops A_q54_3) (.seq (.ops A_q54_4) (.seq (.seq (.ops A_q54_5) (.cond (.t 51) (.exit 1) .skip)) (.seq (.ops A_q54_6) (.cond (.t 61) (.seq (.ops [o_ 6 (.mov (.c (.bool true)))]) .ret) .skip)))))) (.ops A_q54_7))))
def A_q54 : ACode := (.seq (.ops A_q54_0) (.seq (.seq (.ops A_q54_1) (.cond (.t 13) (.seq (.ops [o_ 6 (.mov (.c (.bool false)))]) .ret) .skip)) (.seq (.seq (.ops A_q54_2) (.block 0 (.loop A_q54_8))) (.seq (.ops [o_ 6 (.mov (.c (.bool false)))]) .ret))))
def R_q54 : List ARes := [.tmp 6]
def T_q54 : FC := ⟨63, A_q54, R_q54⟩
abbrev F_q55 : Nat := 55
def A_q55_0 : List AOper := [o_ 2 (.box 73 9 (.t 0)), o_ 3 (.box 73 9 (.t 1)), o_ 4 (.mov (.c (.bool false)))]
def A_q55_1 : List AOper := [o_ 5 (.faddr 4 (.t 2)), o_ 6 (.ld1 (.t 5)), o_ 7 (.faddr 4 (.t 3)), o_ 8 (.ld1 (.t 7)), o_ 9 (.bini .neq (.t 6) (.t 8)), mv 10 9, ⟨some 11, .faddr 5 (.t 2), some (10, false)⟩, ⟨some 12, .ld1 (.t 11), some (10, false)⟩, ⟨some 13, .faddr 5 (.t 3), some (10, false)⟩, ⟨some 14, .ld1 (.t 13), some (10, false)⟩, ⟨some 15, .bini .neq (.t 12) (.t 14), some (10, false)⟩, o_ 16 (.pick (.t 10) (.c (.bool true)) (.t 15)), mv 17 16, ⟨some 18, .faddr 4 (.t 2), some (17, false)⟩, ⟨some 19, .ld1 (.t 18), some (17, false)⟩, ⟨some 20, .bini .neq (.t 19) (.c (.int .u8 (14))), some (17, false)⟩, ⟨some 21, .mov (.t 20), some (17, false)⟩, g_ 22 (.faddr 8 (.t 2)) 21, g_ 23 (.ld1 (.t 22)) 21, g_ 24 (.faddr 8 (.t 3)) 21, g_ 25 (.ld1 (.t 24)) 21, g_ 26 (.bins .neq (.t 23) (.t 25)) 21, ⟨some 27, .pick (.t 21) (.t 26) (.c (.bool false)), some (17, false)⟩, o_ 28 (.pick (.t 17) (.c (.bool true)) (.t 27)), mv 29 28, ⟨some 30, .lda 9 (.t 2), some (29, false)⟩, ⟨some 32, .lda 9 (.t 3), some (29, false)⟩, ⟨some 31, .acall 81 [(.t 30)], some (29, false)⟩, ⟨some 33, .acall 81 [(.t 32)], some (29, false)⟩, ⟨some 34, .binb .neq (.t 31) (.t 33), some (29, false)⟩, o_ 35 (.pick (.t 29) (.c (.bool true)) (.t 34))]
def A_q55_2 : List AOper := [o_ 36 (.faddr 3 (.t 2)), o_ 37 (.ld1 (.t 36)), o_ 38 (.faddr 3 (.t 3)), o_ 39 (.ld1 (.t 38)), o_ 40 (.bini .eql (.t 37) (.t 39)), mv 41 40, ⟨some 42, .lda 9 (.t 2), some (41, false)⟩, ⟨some 43, .call 81 [(.t 42)], some (41, false)⟩, ⟨some 44, .mov (.t 43), some (41, false)⟩, g_ 45 (.faddr 3 (.t 2)) 44, g_ 46 (.ld1 (.t 45)) 44, g_ 47 (.bini .neq (.t 46) (.c (.int .u8 (3)))) 44, ⟨some 48, .pick (.t 44) (.t 47) (.c (.bool false)), some (41, false)⟩, ⟨some 49, .mov (.t 48), some (41, false)⟩, g_ 50 (.faddr 3 (.t 3)) 49, g_ 51 (.ld1 (.t 50)) 49, g_ 52 (.bini .neq (.t 51) (.c (.int .u8 (3)))) 49, ⟨some 53, .pick (.t 49) (.t 52) (.c (.bool false)), some (41, false)⟩, o_ 54 (.pick (.t 41) (.c (.bool true)) (.t 53)), mv 4 54]
def A_q55 : ACode := (.seq (.ops A_q55_0) (.seq (.seq (.alts [5, 6, 7, 8, 9, 10, 11, 12, 13, 14, 15, 16, 17, 18, 19, 20, 21, 22, 23, 24, 25, 26, 27, 28, 29, 30, 31, 32, 33, 34, 35] [A_q55_1]) (.cond (.t 35) (.seq (.ops [o_ 4 (.mov (.c (.bool false)))]) .ret) .skip)) (.seq (.ops A_q55_2) .ret)))
def R_q55 : List ARes := [.tmp 4]
def T_q55 : FC := ⟨55, A_q55, R_q55⟩
abbrev F_q56 : Nat := 56
def A_q56_0 : List AOper := [o_ 2 (.box 73 9 (.t 0)), o_ 3 (.box 73 9 (.t 1)), o_ 4 (.mov (.c (.bool false)))]
def A_q56_1 : List AOper := [o_ 6 (.faddr 3 (.t 2)), o_ 7 (.ld1 (.t 6)), o_ 8 (.bini .eql (.t 7) (.c (.int .u8 (4)))), mv 9 8, g_ 10 (.faddr 3 (.t 3)) 9, g_ 11 (.ld1 (.t 10)) 9, g_ 12 (.bini .eql (.t 11) (.c (.int .u8 (4)))) 9, o_ 13 (.pick (.t 9) (.t 12) (.c (.bool false))), mv 5 13]
def A_q56_2 : List AOper := [o_ 25 (.faddr 3 (.t 2)), o_ 26 (.ld1 (.t 25)), o_ 27 (.bini .eql (.t 26) (.c (.int .u8 (4)))), mv 28 27, ⟨some 29, .faddr 3 (.t 3), some (28, false)⟩, ⟨some 30, .ld1 (.t 29), some (28, false)⟩, ⟨some 31, .bini .eql (.t 30) (.c (.int .u8 (4))), some (28, false)⟩, o_ 32 (.pick (.t 28) (.c (.bool true)) (.t 31)), mv 33 32, ⟨some 34, .lda 9 (.t 2), some (33, false)⟩, ⟨some 35, .lda 9 (.t 3), some (33, false)⟩, ⟨some 36, .call 82 [(.t 34), (.t 35)], some (33, false)⟩, ⟨some 37, .not (.t 36), some (33, false)⟩, o_ 38 (.pick (.t 33) (.c (.bool true)) (.t 37)), mv 24 38]
def A_q56_3 : List AOper := [o_ 40 (.faddr 3 (.t 3)), o_ 41 (.ld1 (.t 40)), o_ 42 (.bini .eql (.t 41) (.c (.int .u8 (3)))), mv 39 42]
def A_q56_4 : List AOper := [o_ 43 (.faddr 3 (.t 2)), o_ 44 (.ld1 (.t 43)), o_ 45 (.bini .neq (.t 44) (.c (.int .u8 (3)))), mv 46 45, g_ 47 (.lda 9 (.t 3)) 46, g_ 48 (.call 81 [(.t 47)]) 46, g_ 49 (.mov (.t 48)) 46, ⟨some 50, .lda 9 (.t 2), some (49, false)⟩, ⟨some 51, .call 81 [(.t 50)], some (49, false)⟩, ⟨some 52, .not (.t 51), some (49, false)⟩, g_ 53 (.pick (.t 49) (.c (.bool true)) (.t 52)) 46, o_ 54 (.pick (.t 46) (.t 53) (.c (.bool false))), mv 4 54]
def A_q56 : ACode := (.seq (.ops A_q56_0) (.seq (.block 0 (.seq (.ops A_q56_1) (.cond (.t 5) .bad (.seq (.ops A_q56_2) (.cond (.t 24) (.seq (.ops [o_ 4 (.mov (.c (.bool false)))]) .ret) (.seq (.ops A_q56_3) (.cond (.t 39) .bad .skip))))))) (.seq (.ops A_q56_4) .ret)))
def R_q56 : List ARes := [.tmp 4]
def T_q56 : FC := ⟨55, A_q56, R_q56⟩
abbrev F_q57 : Nat := 57
def A_q57_0 : List AOper := [o_ 5 (.bini .eql (.t 3) (.c (.int .u8 (1)))), mv 4 5]
def A_q57_1 : List AOper := [o_ 6 (.bini .eql (.t 3) (.c (.int .u8 (6)))), mv 4 6]
def A_q57_2 : List AOper := [o_ 7 (.bini .eql (.t 3) (.c (.int .u8 (16)))), mv 4 7]
def A_q57_3 : List AOper := [o_ 9 (.bini .eql (.t 3) (.c (.int .u8 (2)))), mv 8 9]
def A_q57_4 : List AOper := [o_ 10 (.bini .eql (.t 3) (.c (.int .u8 (7)))), mv 8 10]
def A_q57_5 : List AOper := [o_ 11 (.bini .eql (.t 3) (.c (.int .u8 (15)))), mv 8 11]
def A_q57_6 : List AOper := [o_ 13 (.bini .eql (.t 3) (.c (.int .u8 (9)))), mv 12 13]
def A_q57_7 : List AOper := [o_ 14 (.bini .eql (.t 3) (.c (.int .u8 (12)))), mv 12 14]
def A_q57_8 : List AOper := [o_ 15 (.bini .eql (.t 3) (.c (.int .u8 (11)))), mv 12 15]
def A_q57 : ACode := (.seq (.ops [o_ 2 (.mov (.c (.int .u8 (0))))]) (.seq (.seq (.ops [mv 3 0]) (.block 0 (.seq (.seq (.ops A_q57_0) (.cond (.t 4) .bad (.seq (.ops A_q57_1) (.cond (.t 4) .bad (.ops A_q57_2))))) (.cond (.t 4) .bad (.seq (.seq (.ops A_q57_3) (.cond (.t 8) .bad (.seq (.ops A_q57_4) (.cond (.t 8) .bad (.ops A_q57_5))))) (.cond (.t 8) .bad (.seq (.seq (.ops A_q57_6) (.cond (.t 12) .skip (.seq (.ops A_q57_7) (.cond (.t 12) .skip (.ops A_q57_8))))) (.cond (.t 12) (.seq (.ops [o_ 2 (.mov (.c (.int .u8 (2))))]) .ret) .skip)))))))) (.seq (.ops [o_ 2 (.mov (.c (.int .u8 (0))))]) .ret)))
def R_q57 : List ARes := [.tmp 2]
def T_q57 : FC := ⟨16, A_q57, R_q57⟩
abbrev F_q58 : Nat := 58
def A_q58_0 : List AOper := [mv 3 0, o_ 4 (.isnilu false (.t 3))]
def A_q58 : ACode := (.seq (.ops [o_ 2 (.mov (.c (.nils)))]) (.seq (.seq (.ops A_q58_0) (.cond (.t 4) (.seq (.ops [o_ 2 (.mov (.c (.nils)))]) .ret) .bad)) .bad))
def R_q58 : List ARes := [.tmp 2]
def T_q58 : FC := ⟨8, A_q58, R_q58⟩
abbrev F_q59 : Nat := 59
def A_q59_0 : List AOper := [o_ 4 (.mov (.c (.nils))), o_ 5 (.mov (.c (.nils)))]
def A_q59_1 : List AOper := [mv 12 0, o_ 13 (.lenl (.t 12)), o_ 14 (.mov (i_ 0))]
def A_q59_2 : List AOper := [o_ 16 (.iaddr 59 7 (.t 12) (.t 14)), o_ 17 (.lda 7 (.t 16)), o_ 8 (.box 59 7 (.c (.agg [.str [], .nils, .nils, .nils, .nils, .nils, .nils]))), n_ (.st 7 (.t 8) (.t 17))]
def A_q59_3 : List AOper := [mv 18 6, o_ 19 (.lda 7 (.t 8)), o_ 20 (.call 83 [(.t 19)]), o_ 21 (.bslice 59 7 1 [.str [], .nils, .nils, .nils, .nils, .nils, .nils] [(0, 7, (.t 20))]), o_ 22 (.app 59 7 160 (.t 18) (.t 21)), mv 6 22]
def A_q59_4 : List AOper := [o_ 23 (.bini .add (.t 14) (i_ 1)), mv 14 23]
def A_q59_5 : ACode := (.seq (.ops [o_ 15 (.bini .lss (.t 14) (.t 13))]) (.seq (.cond (.t 15) .skip (.exit 0)) (.seq (.block 1 (.seq (.ops A_q59_2) (.ops A_q59_3))) (.ops A_q59_4))))
def A_q59_6 : List AOper := [mv 24 1, o_ 25 (.lenl (.t 24)), o_ 26 (.mov (i_ 0))]
def A_q59_7 : ACode := (.seq (.ops [o_ 27 (.bini .lss (.t 26) (.t 25))]) (.seq (.cond (.t 27) .bad (.exit 2)) .bad))
def A_q59_8 : List AOper := [mv 36 6, mv 37 9, mv 4 36, mv 5 37]
def A_q59 : ACode := (.seq (.ops A_q59_0) (.seq (.ops [o_ 6 (.mov (.c (.nils)))]) (.seq (.seq (.ops A_q59_1) (.block 0 (.loop A_q59_5))) (.seq (.ops [o_ 9 (.mov (.c (.nils)))]) (.seq (.seq (.ops A_q59_6) (.block 2 (.loop A_q59_7))) (.seq (.ops A_q59_8) .ret))))))
def R_q59 : List ARes := [.tmp 4, .tmp 5]
def T_q59 : FC := ⟨38, A_q59, R_q59⟩
abbrev F_q60 : Nat := 60
def A_q60_0 : List AOper := [mv 4 0, o_ 5 (.call 85 [(.t 4)]), mv 3 5]
def A_q60_1 : List AOper := [mv 6 3, o_ 7 (.call 50 [(.t 6)])]
def A_q60_2 : List AOper := [mv 8 3, mv 2 8]
def A_q60 : ACode := (.seq (.ops [o_ 2 (.mov (.c (.nils)))]) (.seq (.ops A_q60_0) (.seq (.ops A_q60_1) (.seq (.ops A_q60_2) .ret))))
def R_q60 : List ARes := [.tmp 2]
def T_q60 : FC := ⟨9, A_q60, R_q60⟩
abbrev F_q61 : Nat := 61
def A_q61_0 : List AOper := [o_ 1 (.box 84 1 (.t 0)), o_ 2 (.mov (.c (.nilf)))]
def A_q61_1 : List AOper := [o_ 3 (.mkfn 86 [] [(.t 1)]), mv 2 3]
def A_q61 : ACode := (.seq (.ops A_q61_0) (.seq (.ops A_q61_1) .ret))
def R_q61 : List ARes := [.tmp 2]
def T_q61 : FC := ⟨4, A_q61, R_q61⟩
abbrev F_q62 : Nat := 62
def A_q62 : ACode := (.seq (.recv (some 4) []) (.block 0 (.seq (.ops [o_ 6 (.isnil .ic false (.t 4))]) (.cond (.t 6) (.ops [mv 1 4]) .bad))))
def R_q62 : List ARes := []
def T_q62 : FC := ⟨12, A_q62, R_q62⟩
abbrev F_q63 : Nat := 63
def A_q63_0 : List AOper := [o_ 11 (.faddr 0 (.t 3)), o_ 12 (.ld1 (.t 11)), o_ 14 (.faddr 0 (.t 3)), o_ 15 (.ld1 (.t 14)), o_ 13 (.acall 88 [(.t 12)]), o_ 16 (.acall 87 [(.t 13), (i_ 60), (.t 15)])]
def A_q63_1 : List AOper := [o_ 17 (.faddr 1 (.t 3)), o_ 18 (.ld1 (.t 17)), o_ 19 (.bins .eql (.t 18) (.c (.str []))), mv 20 19, ⟨some 21, .faddr 1 (.t 3), some (20, false)⟩, ⟨some 22, .ld1 (.t 21), some (20, false)⟩, o_ 25 (.faddr 1 (.t 3)), o_ 26 (.ld1 (.t 25)), ⟨some 23, .acall 89 [(.t 22)], some (20, false)⟩, o_ 24 (.pick (.t 20) (.c (.bool true)) (.t 23)), o_ 27 (.acall 87 [(.t 24), (i_ 60), (.t 26)])]
def A_q63_2 : List AOper := [o_ 28 (.faddr 2 (.t 3)), o_ 29 (.ld1 (.t 28)), o_ 30 (.lenl (.t 29)), o_ 31 (.bini .leq (.t 30) (i_ 256)), o_ 32 (.faddr 0 (.t 3)), o_ 33 (.ld1 (.t 32)), o_ 34 (.call 87 [(.t 31), (i_ 68), (.t 33)])]
def A_q63_3 : List AOper := [o_ 35 (.mkmap), mv 4 35]
def A_q63_4 : List AOper := [o_ 36 (.faddr 2 (.t 3)), o_ 37 (.ld1 (.t 36)), o_ 38 (.lenl (.t 37)), o_ 39 (.mov (i_ 0))]
def A_q63_5 : ACode := (.seq (.ops [o_ 40 (.bini .lss (.t 39) (.t 38))]) (.seq (.cond (.t 40) .bad (.exit 0)) .bad))
def A_q63_6 : List AOper := [o_ 63 (.faddr 3 (.t 3)), o_ 64 (.ld1 (.t 63)), o_ 65 (.lenl (.t 64)), o_ 66 (.mov (i_ 0))]
def A_q63_7 : List AOper := [o_ 68 (.iaddr 59 7 (.t 64) (.t 66)), o_ 69 (.lda 7 (.t 68)), o_ 8 (.box 59 7 (.c (.agg [.str [], .nils, .nils, .nils, .nils, .nils, .nils]))), n_ (.st 7 (.t 8) (.t 69))]
def A_q63_8 : List AOper := [mv 70 0, o_ 71 (.lda 7 (.t 8)), o_ 72 (.faddr 1 (.t 3)), o_ 73 (.ld1 (.t 72)), o_ 74 (.call 90 [(.t 70), (.t 71), (.t 73), (i_ 0)])]
def A_q63_9 : List AOper := [o_ 75 (.bini .add (.t 66) (i_ 1)), mv 66 75]
def A_q63_10 : ACode := (.seq (.ops [o_ 67 (.bini .lss (.t 66) (.t 65))]) (.seq (.cond (.t 67) .skip (.exit 2)) (.seq (.block 3 (.seq (.ops A_q63_7) (.ops A_q63_8))) (.ops A_q63_9))))
def A_q63_11 : List AOper := [o_ 76 (.faddr 4 (.t 3)), o_ 77 (.ld1 (.t 76)), o_ 78 (.lenl (.t 77)), o_ 79 (.mov (i_ 0))]
def A_q63_12 : ACode := (.seq (.ops [o_ 80 (.bini .lss (.t 79) (.t 78))]) (.seq (.cond (.t 80) .bad (.exit 4)) .bad))
def A_q63 : ACode := (.seq (.ops [o_ 3 (.box 62 5 (.t 1))]) (.seq (.alts [11, 12, 13, 14, 15, 16] [A_q63_0]) (.seq (.alts [17, 18, 19, 20, 21, 22, 23, 24, 25, 26, 27] [A_q63_1]) (.seq (.ops A_q63_2) (.seq (.ops A_q63_3) (.seq (.seq (.ops A_q63_4) (.block 0 (.loop A_q63_5))) (.seq (.seq (.ops A_q63_6) (.block 2 (.loop A_q63_10))) (.seq (.ops A_q63_11) (.block 4 (.loop A_q63_12))))))))))
def R_q63 : List ARes := []
def T_q63 : FC := ⟨89, A_q63, R_q63⟩
abbrev F_q64 : Nat := 64
def A_q64_0 : List AOper := [o_ 1 (.box 9 1 (.t 0)), o_ 2 (.mov (.c (.nilf)))]
def A_q64_1 : List AOper := [o_ 3 (.mkfn 92 [] [(.t 1)]), mv 2 3]
def A_q64 : ACode := (.seq (.ops A_q64_0) (.seq (.ops A_q64_1) .ret))
def R_q64 : List ARes := [.tmp 2]
def T_q64 : FC := ⟨4, A_q64, R_q64⟩
abbrev F_q65 : Nat := 65
def A_q65_0 : List AOper := [mv 10 0, mv 11 1, o_ 12 (.bslice 9 1 2 [.str []] [(0, 1, (.t 10)), (1, 1, (.t 11))]), o_ 13 (.call 66 [(.t 12)]), mv 9 13]
def A_q65_1 : List AOper := [o_ 14 (.ld1 (.t 3)), mv 15 9, mv 16 2, o_ 17 (.faddr 0 (.t 4)), o_ 18 (.ld1 (.t 17)), o_ 19 (.build [.str [], .int .u8 (0), .str []] [(0, 1, (.t 15)), (1, 1, (.t 16)), (2, 1, (.t 18))]), o_ 20 (.bslice 138 3 1 [.str [], .int .u8 (0), .str []] [(0, 3, (.t 19))]), o_ 21 (.app 138 3 40 (.t 14) (.t 20)), n_ (.st 1 (.t 3) (.t 21))]
def A_q65_2 : List AOper := [mv 22 9, mv 8 22]
def A_q65 : ACode := (.seq (.ops [o_ 8 (.mov (.c (.str [])))]) (.seq (.ops A_q65_0) (.seq (.ops A_q65_1) (.seq (.ops A_q65_2) .ret))))
def R_q65 : List ARes := [.tmp 8]
def T_q65 : FC := ⟨23, A_q65, R_q65⟩
abbrev F_q66 : Nat := 66
def A_q66_0 : List AOper := [mv 6 0, o_ 7 (.lenl (.t 6)), o_ 8 (.mov (i_ 0))]
def A_q66_1 : List AOper := [o_ 10 (.iaddr 9 1 (.t 6) (.t 8)), o_ 11 (.ld1 (.t 10)), mv 5 11]
def A_q66_2 : List AOper := [mv 12 5, o_ 13 (.bins .neq (.t 12) (.c (.str [])))]
def A_q66_3 : List AOper := [mv 14 3, mv 15 5, o_ 16 (.bslice 9 1 1 [.str []] [(0, 1, (.t 15))]), o_ 17 (.app 9 1 16 (.t 14) (.t 16)), mv 3 17]
def A_q66_4 : List AOper := [o_ 18 (.bini .add (.t 8) (i_ 1)), mv 8 18]
def A_q66_5 : ACode := (.seq (.ops [o_ 9 (.bini .lss (.t 8) (.t 7))]) (.seq (.cond (.t 9) .skip (.exit 0)) (.seq (.block 1 (.seq (.ops A_q66_1) (.seq (.ops A_q66_2) (.cond (.t 13) (.ops A_q66_3) .skip)))) (.ops A_q66_4))))
def A_q66_6 : List AOper := [mv 19 3, o_ 20 (.call 94 [(.t 19), (.c (.str [46]))]), mv 2 20]
def A_q66 : ACode := (.seq (.ops [o_ 2 (.mov (.c (.str [])))]) (.seq (.ops [o_ 3 (.mov (.c (.nils)))]) (.seq (.seq (.ops A_q66_0) (.block 0 (.loop A_q66_5))) (.seq (.ops A_q66_6) .ret))))
def R_q66 : List ARes := [.tmp 2]
def T_q66 : FC := ⟨21, A_q66, R_q66⟩
abbrev F_q68 : Nat := 68
def A_q68_0 : List AOper := [o_ 16 (.ld1 (.t 2)), mv 17 1, o_ 18 (.faddr 0 (.t 5)), o_ 19 (.ld1 (.t 18)), o_ 20 (.callv (.t 16) [(.t 17), (.t 19), (.c (.int .u8 (1)))]), mv 7 20]
def A_q68_1 : List AOper := [o_ 21 (.faddr 1 (.t 5)), o_ 22 (.ld1 (.t 21)), o_ 23 (.lenl (.t 22)), o_ 24 (.mov (i_ 0))]
def A_q68_2 : List AOper := [o_ 26 (.iaddr 41 9 (.t 22) (.t 24)), o_ 27 (.lda 9 (.t 26)), o_ 9 (.box 41 9 (.c (.agg [.str [], .int .i32 (0), .int .u8 (0), .int .u8 (0), .str [], .int .u8 (0), .int .i64 (0), .int .u8 (0), .str []]))), n_ (.st 9 (.t 9) (.t 27))]
def A_q68_3 : List AOper := [o_ 28 (.ld1 (.t 2)), mv 29 7, o_ 30 (.faddr 0 (.t 9)), o_ 31 (.ld1 (.t 30)), o_ 32 (.callv (.t 28) [(.t 29), (.t 31), (.c (.int .u8 (4)))])]
def A_q68_4 : List AOper := [o_ 33 (.bini .add (.t 24) (i_ 1)), mv 24 33]
def A_q68_5 : ACode := (.seq (.ops [o_ 25 (.bini .lss (.t 24) (.t 23))]) (.seq (.cond (.t 25) .skip (.exit 0)) (.seq (.block 1 (.seq (.ops A_q68_2) (.ops A_q68_3))) (.ops A_q68_4))))
def A_q68_6 : List AOper := [o_ 34 (.faddr 2 (.t 5)), o_ 35 (.ld1 (.t 34)), o_ 36 (.lenl (.t 35)), o_ 37 (.mov (i_ 0))]
def A_q68_7 : List AOper := [o_ 39 (.iaddr 9 1 (.t 35) (.t 37)), o_ 40 (.ld1 (.t 39)), mv 11 40]
def A_q68_8 : List AOper := [o_ 41 (.ld1 (.t 2)), mv 42 7, mv 43 11, o_ 44 (.callv (.t 41) [(.t 42), (.t 43), (.c (.int .u8 (5)))])]
def A_q68_9 : List AOper := [o_ 45 (.bini .add (.t 37) (i_ 1)), mv 37 45]
def A_q68_10 : ACode := (.seq (.ops [o_ 38 (.bini .lss (.t 37) (.t 36))]) (.seq (.cond (.t 38) .skip (.exit 2)) (.seq (.block 3 (.seq (.ops A_q68_7) (.ops A_q68_8))) (.ops A_q68_9))))
def A_q68_11 : List AOper := [o_ 46 (.faddr 3 (.t 5)), o_ 47 (.ld1 (.t 46)), o_ 48 (.lenl (.t 47)), o_ 49 (.mov (i_ 0))]
def A_q68_12 : ACode := (.seq (.ops [o_ 50 (.bini .lss (.t 49) (.t 48))]) (.seq (.cond (.t 50) .bad (.exit 4)) .bad))
def A_q68_13 : List AOper := [o_ 58 (.faddr 4 (.t 5)), o_ 59 (.ld1 (.t 58)), o_ 60 (.lenl (.t 59)), o_ 61 (.mov (i_ 0))]
def A_q68_14 : ACode := (.seq (.ops [o_ 62 (.bini .lss (.t 61) (.t 60))]) (.seq (.cond (.t 62) .bad (.exit 6)) .bad))
def A_q68 : ACode := (.seq (.ops [o_ 5 (.box 59 7 (.t 0))]) (.seq (.ops A_q68_0) (.seq (.seq (.ops A_q68_1) (.block 0 (.loop A_q68_5))) (.seq (.seq (.ops A_q68_6) (.block 2 (.loop A_q68_10))) (.seq (.seq (.ops A_q68_11) (.block 4 (.loop A_q68_12))) (.seq (.ops A_q68_13) (.block 6 (.loop A_q68_14))))))))
def R_q68 : List ARes := []
def T_q68 : FC := ⟨70, A_q68, R_q68⟩
abbrev F_q69 : Nat := 69
def A_q69_0 : List AOper := [mv 4 0, mv 5 0, o_ 6 (.lenl (.t 5)), mv 7 1, o_ 8 (.call 95 [(.t 4), (.t 6), (.t 7)])]
def A_q69 : ACode := (.ops A_q69_0)
def R_q69 : List ARes := []
def T_q69 : FC := ⟨9, A_q69, R_q69⟩
abbrev F_q70 : Nat := 70
def A_q70_0 : List AOper := [o_ 2 (.box 138 3 (.t 0)), o_ 3 (.box 138 3 (.t 1)), o_ 4 (.mov (i_ 0))]
def A_q70_1 : List AOper := [o_ 5 (.faddr 0 (.t 2)), o_ 6 (.ld1 (.t 5)), o_ 7 (.faddr 0 (.t 3)), o_ 8 (.ld1 (.t 7)), o_ 10 (.faddr 1 (.t 2)), o_ 11 (.ld1 (.t 10)), o_ 12 (.faddr 1 (.t 3)), o_ 13 (.ld1 (.t 12)), o_ 9 (.acall 72 [(.t 6), (.t 8)]), o_ 14 (.acall 73 [(.t 11), (.t 13)]), o_ 15 (.bslice 3 1 2 [.int .i64 (0)] [(0, 1, (.t 9)), (1, 1, (.t 14))]), o_ 16 (.acall 71 [(.t 15)]), mv 4 16]
def A_q70 : ACode := (.seq (.ops A_q70_0) (.seq (.alts [5, 6, 7, 8, 9, 10, 11, 12, 13, 14, 15, 16, 4] [A_q70_1]) .ret))
def R_q70 : List ARes := [.tmp 4]
def T_q70 : FC := ⟨17, A_q70, R_q70⟩
abbrev F_q71 : Nat := 71
def A_q71_0 : List AOper := [mv 6 0, o_ 7 (.lenl (.t 6)), o_ 8 (.mov (i_ 0))]
def A_q71_1 : List AOper := [o_ 10 (.iaddr 3 1 (.t 6) (.t 8)), o_ 11 (.ld1 (.t 10)), mv 5 11]
def A_q71_2 : List AOper := [mv 12 5, mv 13 3, o_ 14 (.bini .neq (.t 12) (.t 13))]
def A_q71_3 : List AOper := [mv 15 5, mv 2 15]
def A_q71_4 : List AOper := [o_ 16 (.bini .add (.t 8) (i_ 1)), mv 8 16]
def A_q71_5 : ACode := (.seq (.ops [o_ 9 (.bini .lss (.t 8) (.t 7))]) (.seq (.cond (.t 9) .skip .bad) (.seq (.block 1 (.seq (.ops A_q71_1) (.seq (.ops A_q71_2) (.cond (.t 14) (.seq (.ops A_q71_3) .ret) .bad)))) (.ops A_q71_4))))
def A_q71_6 : List AOper := [mv 17 3, mv 2 17]
def A_q71 : ACode := (.seq (.ops [o_ 2 (.mov (i_ 0))]) (.seq (.ops [o_ 3 (.mov (i_ 0))]) (.seq (.seq (.ops A_q71_0) (.block 0 (.loop A_q71_5))) (.seq (.ops A_q71_6) .ret))))
def R_q71 : List ARes := [.tmp 2]
def T_q71 : FC := ⟨18, A_q71, R_q71⟩
abbrev F_q72 : Nat := 72
def A_q72_0 : List AOper := [mv 7 0, o_ 8 (.call 96 [(.t 7)]), mv 5 8]
def A_q72_1 : List AOper := [mv 9 1, o_ 10 (.call 96 [(.t 9)]), mv 6 10]
def A_q72_2 : List AOper := [mv 14 0, mv 15 1, o_ 16 (.bins .lss (.t 14) (.t 15))]
def A_q72_3 : List AOper := [mv 17 0, mv 18 1, o_ 19 (.bins .gtr (.t 17) (.t 18))]
def A_q72 : ACode := (.seq (.ops [o_ 4 (.mov (i_ 0))]) (.seq (.ops A_q72_0) (.seq (.ops A_q72_1) (.seq (.seq (.ops [mv 11 5]) (.cond (.t 11) .bad .skip)) (.seq (.seq (.ops [mv 13 6]) (.cond (.t 13) .bad .skip)) (.seq (.seq (.ops A_q72_2) (.cond (.t 16) .bad .skip)) (.seq (.seq (.ops A_q72_3) (.cond (.t 19) (.seq (.ops [o_ 4 (.mov (i_ 1))]) .ret) .bad)) .bad)))))))
def R_q72 : List ARes := [.tmp 4]
def T_q72 : FC := ⟨20, A_q72, R_q72⟩
abbrev F_q73 : Nat := 73
def A_q73_0 : List AOper := [mv 7 0, o_ 8 (.call 97 [(.t 7)]), mv 5 8]
def A_q73_1 : List AOper := [mv 9 1, o_ 10 (.call 97 [(.t 9)]), mv 6 10]
def A_q73_2 : List AOper := [mv 14 0, mv 15 1, o_ 16 (.bini .lss (.t 14) (.t 15))]
def A_q73_3 : List AOper := [mv 17 0, mv 18 1, o_ 19 (.bini .gtr (.t 17) (.t 18))]
def A_q73 : ACode := (.seq (.ops [o_ 4 (.mov (i_ 0))]) (.seq (.ops A_q73_0) (.seq (.ops A_q73_1) (.seq (.seq (.ops [mv 11 5]) (.cond (.t 11) .bad .skip)) (.seq (.seq (.ops [mv 13 6]) (.cond (.t 13) .bad .skip)) (.seq (.seq (.ops A_q73_2) (.cond (.t 16) .bad .skip)) (.seq (.seq (.ops A_q73_3) (.cond (.t 19) (.seq (.ops [o_ 4 (.mov (i_ 1))]) .ret) .skip)) (.seq (.ops [o_ 4 (.mov (i_ 0))]) .ret))))))))
def R_q73 : List ARes := [.tmp 4]
def T_q73 : FC := ⟨20, A_q73, R_q73⟩
abbrev F_q74 : Nat := 74
def A_q74_0 : List AOper := [mv 13 3, o_ 14 (.nilc (.t 13)), o_ 15 (.faddr 3 (.t 14)), o_ 16 (.ld1 (.t 15)), o_ 17 (.bini .neq (.t 16) (.c (.int .u8 (0)))), mv 18 17, g_ 19 (.mov (.t 3)) 18, g_ 20 (.nilc (.t 19)) 18, g_ 21 (.faddr 3 (.t 20)) 18, g_ 22 (.ld1 (.t 21)) 18, g_ 23 (.bini .neq (.t 22) (.c (.int .u8 (11)))) 18, o_ 24 (.pick (.t 18) (.t 23) (.c (.bool false))), mv 25 24, g_ 26 (.mov (.t 3)) 25, g_ 27 (.nilc (.t 26)) 25, g_ 28 (.faddr 3 (.t 27)) 25, g_ 29 (.ld1 (.t 28)) 25, g_ 30 (.bini .neq (.t 29) (.c (.int .u8 (14)))) 25, o_ 31 (.pick (.t 25) (.t 30) (.c (.bool false)))]
def A_q74 : ACode := (.seq (.seq (.ops A_q74_0) (.cond (.t 31) .ret .bad)) .bad)
def R_q74 : List ARes := []
def T_q74 : FC := ⟨92, A_q74, R_q74⟩
abbrev F_q75 : Nat := 75
def A_q75_0 : List AOper := [mv 6 0, o_ 7 (.lenl (.t 6)), o_ 8 (.mov (i_ 0))]
def A_q75_1 : ACode := (.seq (.ops [o_ 9 (.bini .lss (.t 8) (.t 7))]) (.seq (.cond (.t 9) .bad (.exit 0)) .bad))
def A_q75 : ACode := (.seq (.ops [o_ 4 (.mov (i_ 0))]) (.seq (.seq (.ops A_q75_0) (.block 0 (.loop A_q75_1))) (.seq (.ops [o_ 4 (.mov (i_ (-1)))]) .ret)))
def R_q75 : List ARes := [.tmp 4]
def T_q75 : FC := ⟨19, A_q75, R_q75⟩
abbrev F_q76 : Nat := 76
def A_q76_0 : List AOper := [mv 5 0, mv 6 1, o_ 7 (.call 99 [(.t 5), (.t 6)]), o_ 8 (.bini .geq (.t 7) (i_ 0)), mv 4 8]
def A_q76 : ACode := (.seq (.ops [o_ 4 (.mov (.c (.bool false)))]) (.seq (.ops A_q76_0) .ret))
def R_q76 : List ARes := [.tmp 4]
def T_q76 : FC := ⟨9, A_q76, R_q76⟩
abbrev F_q77 : Nat := 77
def A_q77_0 : List AOper := [mv 19 2, mv 20 1, o_ 21 (.bini .sub (.t 19) (.t 20)), mv 10 21]
def A_q77_1 : List AOper := [mv 22 10, o_ 23 (.bini .leq (.t 22) (i_ 12))]
def A_q77_2 : List AOper := [mv 24 0, mv 25 1, mv 26 2, o_ 27 (.call 100 [(.t 24), (.t 25), (.t 26)])]
def A_q77_3 : ACode := (.block 1 (.seq (.ops A_q77_0) (.seq (.seq (.ops A_q77_1) (.cond (.t 23) (.seq (.ops A_q77_2) .ret) .bad)) .bad)))
def A_q77 : ACode := (.seq (.ops [o_ 8 (.mov (.c (.bool true)))]) (.seq (.ops [o_ 9 (.mov (.c (.bool true)))]) (.block 0 (.loop A_q77_3))))
def R_q77 : List ARes := []
def T_q77 : FC := ⟨134, A_q77, R_q77⟩
abbrev F_q78 : Nat := 78
def A_q78_0 : List AOper := [mv 6 0, o_ 7 (.call 110 [(.t 6)]), mv 2 7]
def A_q78 : ACode := (.seq (.ops [o_ 2 (.mov (i_ 0))]) (.seq (.cond (.c (.bool false)) .bad .skip) (.seq (.ops A_q78_0) .ret)))
def R_q78 : List ARes := [.tmp 2]
def T_q78 : FC := ⟨8, A_q78, R_q78⟩
abbrev F_q81 : Nat := 81
def A_q81_0 : List AOper := [o_ 1 (.box 73 9 (.t 0)), o_ 2 (.mov (.c (.bool false)))]
def A_q81_1 : List AOper := [o_ 3 (.faddr 3 (.t 1)), o_ 4 (.ld1 (.t 3)), o_ 5 (.bini .eql (.t 4) (.c (.int .u8 (2)))), mv 6 5, ⟨some 7, .faddr 3 (.t 1), some (6, false)⟩, ⟨some 8, .ld1 (.t 7), some (6, false)⟩, ⟨some 9, .bini .eql (.t 8) (.c (.int .u8 (1))), some (6, false)⟩, ⟨some 10, .mov (.t 9), some (6, false)⟩, g_ 11 (.faddr 7 (.t 1)) 10, g_ 12 (.ld1 (.t 11)) 10, g_ 13 (.bini .neq (.t 12) (i_ 0)) 10, g_ 14 (.mov (.t 13)) 10, ⟨some 15, .faddr 4 (.t 1), some (14, false)⟩, ⟨some 16, .ld1 (.t 15), some (14, false)⟩, ⟨some 17, .bini .eql (.t 16) (.c (.int .u8 (11))), some (14, false)⟩, g_ 18 (.pick (.t 14) (.c (.bool true)) (.t 17)) 10, ⟨some 19, .pick (.t 10) (.t 18) (.c (.bool false)), some (6, false)⟩, o_ 20 (.pick (.t 6) (.c (.bool true)) (.t 19)), mv 2 20]
def A_q81 : ACode := (.seq (.ops A_q81_0) (.seq (.ops A_q81_1) .ret))
def R_q81 : List ARes := [.tmp 2]
def T_q81 : FC := ⟨21, A_q81, R_q81⟩
abbrev F_q82 : Nat := 82
def A_q82_0 : List AOper := [o_ 2 (.box 73 9 (.t 0)), o_ 3 (.box 73 9 (.t 1)), o_ 4 (.mov (.c (.bool false)))]
def A_q82_1 : List AOper := [o_ 5 (.faddr 4 (.t 2)), o_ 6 (.ld1 (.t 5)), o_ 7 (.faddr 4 (.t 3)), o_ 8 (.ld1 (.t 7)), o_ 9 (.bini .eql (.t 6) (.t 8))]
def A_q82_2 : List AOper := [o_ 10 (.faddr 4 (.t 2)), o_ 11 (.ld1 (.t 10)), o_ 12 (.bini .neq (.t 11) (.c (.int .u8 (11)))), mv 13 12, ⟨some 14, .faddr 8 (.t 2), some (13, false)⟩, ⟨some 15, .ld1 (.t 14), some (13, false)⟩, ⟨some 16, .faddr 8 (.t 3), some (13, false)⟩, ⟨some 17, .ld1 (.t 16), some (13, false)⟩, ⟨some 18, .bins .eql (.t 15) (.t 17), some (13, false)⟩, o_ 19 (.pick (.t 13) (.c (.bool true)) (.t 18)), mv 4 19]
def A_q82_3 : List AOper := [o_ 21 (.faddr 4 (.t 2)), o_ 22 (.ld1 (.t 21)), o_ 23 (.faddr 4 (.t 3)), o_ 24 (.ld1 (.t 23)), o_ 25 (.build [.int .u8 (0), .int .u8 (0)] [(0, 1, (.t 22)), (1, 1, (.t 24))]), o_ 20 (.acall 120 []), o_ 26 (.mlook (.a 1 1) (.bool false) false (.t 20) (.t 25)), mv 4 26]
def A_q82 : ACode := (.seq (.ops A_q82_0) (.seq (.seq (.ops A_q82_1) (.cond (.t 9) (.seq (.ops A_q82_2) .ret) .skip)) (.seq (.alts [20, 21, 22, 23, 24, 25, 26, 4] [A_q82_3]) .ret)))
def R_q82 : List ARes := [.tmp 4]
def T_q82 : FC := ⟨27, A_q82, R_q82⟩
abbrev F_q83 : Nat := 83
def A_q83_0 : List AOper := [o_ 1 (.box 59 7 (.t 0)), o_ 2 (.box 59 7 (.c (.agg [.str [], .nils, .nils, .nils, .nils, .nils, .nils])))]
def A_q83_1 : List AOper := [o_ 3 (.faddr 1 (.t 1)), o_ 4 (.ld1 (.t 3)), o_ 5 (.call 121 [(.t 4)]), o_ 6 (.faddr 1 (.t 1)), n_ (.st 1 (.t 6) (.t 5))]
def A_q83_2 : List AOper := [o_ 7 (.faddr 2 (.t 1)), o_ 8 (.ld1 (.t 7)), o_ 9 (.call 122 [(.t 8)]), o_ 10 (.faddr 2 (.t 1)), n_ (.st 1 (.t 10) (.t 9))]
def A_q83_3 : List AOper := [o_ 11 (.faddr 5 (.t 1)), o_ 12 (.ld1 (.t 11)), o_ 13 (.call 123 [(.t 12)]), o_ 14 (.faddr 5 (.t 1)), n_ (.st 1 (.t 14) (.t 13))]
def A_q83_4 : List AOper := [o_ 15 (.faddr 6 (.t 1)), o_ 16 (.ld1 (.t 15)), o_ 17 (.call 122 [(.t 16)]), o_ 18 (.faddr 6 (.t 1)), n_ (.st 1 (.t 18) (.t 17))]
def A_q83_5 : List AOper := [o_ 20 (.faddr 3 (.t 1)), o_ 21 (.ld1 (.t 20)), o_ 22 (.faddr 4 (.t 1)), o_ 23 (.ld1 (.t 22)), o_ 24 (.call 59 [(.t 21), (.t 23)]), mv 19 24, o_ 25 (.ext 0 (.t 19)), o_ 26 (.ext 1 (.t 19)), o_ 27 (.faddr 3 (.t 1)), n_ (.st 1 (.t 27) (.t 25)), o_ 28 (.faddr 4 (.t 1)), n_ (.st 1 (.t 28) (.t 26))]
def A_q83_6 : List AOper := [o_ 29 (.lda 7 (.t 1)), n_ (.st 7 (.t 2) (.t 29))]
def A_q83 : ACode := (.seq (.ops A_q83_0) (.seq (.ops A_q83_1) (.seq (.ops A_q83_2) (.seq (.ops A_q83_3) (.seq (.ops A_q83_4) (.seq (.ops A_q83_5) (.seq (.ops A_q83_6) .ret)))))))
def R_q83 : List ARes := [.cella 2 7]
def T_q83 : FC := ⟨30, A_q83, R_q83⟩
abbrev F_q85 : Nat := 85
def A_q85_0 : List AOper := [mv 3 0, o_ 4 (.call 125 [(.c (.nils)), (.t 3)]), mv 2 4]
def A_q85 : ACode := (.seq (.ops [o_ 2 (.mov (.c (.nils)))]) (.seq (.ops A_q85_0) .ret))
def R_q85 : List ARes := [.tmp 2]
def T_q85 : FC := ⟨5, A_q85, R_q85⟩
abbrev F_q86 : Nat := 86
def A_q86_0 : List AOper := [o_ 4 (.ld1 (.t 1)), o_ 5 (.rngm (.t 4))]
def A_q86_1 : List AOper := [o_ 6 (.nxm (.t 5)), o_ 7 (.ext 0 (.t 6))]
def A_q86_2 : List AOper := [o_ 8 (.entr (.t 5)), o_ 9 (.ext 0 (.t 8)), mv 3 9]
def A_q86_3 : List AOper := [mv 10 0, mv 11 3, o_ 12 (.callv (.t 10) [(.t 11)]), o_ 13 (.not (.t 12))]
def A_q86_4 : ACode := (.seq (.ops A_q86_1) (.seq (.cond (.t 7) .skip (.exit 0)) (.block 1 (.seq (.ops A_q86_2) (.seq (.ops A_q86_3) (.cond (.t 13) .bad .skip))))))
def A_q86 : ACode := (.seq (.ops A_q86_0) (.block 0 (.loop A_q86_4)))
def R_q86 : List ARes := []
def T_q86 : FC := ⟨14, A_q86, R_q86⟩
abbrev F_q87 : Nat := 87
def A_q87_0 : List AOper := [mv 6 0, o_ 7 (.not (.t 6))]
def A_q87 : ACode := (.seq (.ops A_q87_0) (.cond (.t 7) .bad .skip))
def R_q87 : List ARes := []
def T_q87 : FC := ⟨13, A_q87, R_q87⟩
abbrev F_q88 : Nat := 88
def A_q88_0 : List AOper := [mv 5 0, o_ 6 (.bins .eql (.t 5) (.c (.str []))), mv 7 6, ⟨some 8, .mov (.t 0), some (7, false)⟩, ⟨some 9, .lens (.t 8), some (7, false)⟩, ⟨some 10, .bini .gtr (.t 9) (i_ 255), some (7, false)⟩, o_ 11 (.pick (.t 7) (.c (.bool true)) (.t 10))]
def A_q88_1 : List AOper := [mv 12 0, o_ 13 (.lens (.t 12)), o_ 14 (.mov (i_ 0))]
def A_q88_2 : List AOper := [mv 16 14, mv 3 16]
def A_q88_3 : List AOper := [mv 17 0, mv 18 3, o_ 19 (.idxs (.t 17) (.t 18)), mv 4 19]
def A_q88_4 : List AOper := [mv 20 4, o_ 21 (.bini .lss (.t 20) (.c (.int .u8 (33)))), mv 22 21, ⟨some 23, .mov (.t 4), some (22, false)⟩, ⟨some 24, .bini .gtr (.t 23) (.c (.int .u8 (126))), some (22, false)⟩, o_ 25 (.pick (.t 22) (.c (.bool true)) (.t 24)), mv 26 25, ⟨some 27, .mov (.t 4), some (26, false)⟩, ⟨some 28, .bini .eql (.t 27) (.c (.int .u8 (34))), some (26, false)⟩, o_ 29 (.pick (.t 26) (.c (.bool true)) (.t 28)), mv 30 29, ⟨some 31, .mov (.t 4), some (30, false)⟩, ⟨some 32, .bini .eql (.t 31) (.c (.int .u8 (92))), some (30, false)⟩, o_ 33 (.pick (.t 30) (.c (.bool true)) (.t 32))]
def A_q88_5 : List AOper := [o_ 34 (.bini .add (.t 14) (i_ 1)), mv 14 34]
def A_q88_6 : ACode := (.seq (.ops [o_ 15 (.bini .lss (.t 14) (.t 13))]) (.seq (.cond (.t 15) .skip (.exit 0)) (.seq (.block 1 (.seq (.ops A_q88_2) (.seq (.ops A_q88_3) (.seq (.ops A_q88_4) (.cond (.t 33) .bad .skip))))) (.ops A_q88_5))))
def A_q88 : ACode := (.seq (.ops [o_ 2 (.mov (.c (.bool false)))]) (.seq (.seq (.ops A_q88_0) (.cond (.t 11) .bad .skip)) (.seq (.seq (.ops A_q88_1) (.block 0 (.loop A_q88_6))) (.seq (.ops [o_ 2 (.mov (.c (.bool true)))]) .ret))))
def R_q88 : List ARes := [.tmp 2]
def T_q88 : FC := ⟨35, A_q88, R_q88⟩
abbrev F_q90 : Nat := 90
def A_q90_0 : List AOper := [mv 17 2, o_ 18 (.faddr 0 (.t 5)), o_ 19 (.ld1 (.t 18)), o_ 20 (.bslice 9 1 2 [.str []] [(0, 1, (.t 17)), (1, 1, (.t 19))]), o_ 21 (.call 66 [(.t 20)]), mv 8 21]
def A_q90_1 : List AOper := [mv 22 0, o_ 23 (.faddr 0 (.t 5)), o_ 24 (.ld1 (.t 23)), mv 25 8, o_ 26 (.call 128 [(.t 22), (.t 24), (.t 25)])]
def A_q90_2 : List AOper := [mv 27 3, o_ 28 (.bini .lss (.t 27) (i_ 16)), mv 29 28, g_ 30 (.faddr 1 (.t 5)) 29, g_ 31 (.ld1 (.t 30)) 29, g_ 32 (.lenl (.t 31)) 29, g_ 33 (.bini .leq (.t 32) (i_ 1000)) 29, o_ 34 (.pick (.t 29) (.t 33) (.c (.bool false))), mv 35 8, o_ 36 (.call 87 [(.t 34), (i_ 68), (.t 35)])]
def A_q90_3 : List AOper := [o_ 37 (.faddr 5 (.t 5)), o_ 38 (.ld1 (.t 37)), mv 39 8, o_ 40 (.call 129 [(.t 38), (.c (.int .i32 (1))), (.c (.int .i32 (536870911))), (.t 39)])]
def A_q90_4 : List AOper := [o_ 41 (.faddr 6 (.t 5)), o_ 42 (.ld1 (.t 41)), mv 43 8, o_ 44 (.call 130 [(.t 42), (.t 43)])]
def A_q90_5 : List AOper := [o_ 45 (.faddr 1 (.t 5)), o_ 46 (.ld1 (.t 45)), o_ 47 (.lenl (.t 46)), o_ 48 (.mov (i_ 0))]
def A_q90_6 : List AOper := [mv 50 48, mv 9 50]
def A_q90_7 : List AOper := [mv 51 0, o_ 52 (.lda 7 (.t 5)), mv 53 9, mv 54 8, o_ 55 (.call 131 [(.t 51), (.t 52), (.t 53), (.t 54)])]
def A_q90_8 : List AOper := [o_ 56 (.bini .add (.t 48) (i_ 1)), mv 48 56]
def A_q90_9 : ACode := (.seq (.ops [o_ 49 (.bini .lss (.t 48) (.t 47))]) (.seq (.cond (.t 49) .skip (.exit 0)) (.seq (.block 1 (.seq (.ops A_q90_6) (.ops A_q90_7))) (.ops A_q90_8))))
def A_q90_10 : List AOper := [o_ 57 (.faddr 2 (.t 5)), o_ 58 (.ld1 (.t 57)), o_ 59 (.lenl (.t 58)), o_ 60 (.mov (i_ 0))]
def A_q90_11 : List AOper := [mv 62 60, o_ 63 (.iaddr 9 1 (.t 58) (.t 60)), o_ 64 (.ld1 (.t 63)), o_ 10 (.box 3 1 (i_ 0)), n_ (.st 1 (.t 10) (.t 62)), mv 11 64]
def A_q90_12 : List AOper := [mv 65 8, mv 66 11, o_ 67 (.bslice 9 1 2 [.str []] [(0, 1, (.t 65)), (1, 1, (.t 66))]), o_ 68 (.call 66 [(.t 67)]), mv 12 68]
def A_q90_13 : List AOper := [mv 69 0, mv 70 11, mv 71 12, o_ 72 (.call 128 [(.t 69), (.t 70), (.t 71)])]
def A_q90_14 : List AOper := [o_ 73 (.faddr 1 (.t 5)), o_ 74 (.ld1 (.t 73)), o_ 75 (.mkfn 133 [] [(.t 10)]), o_ 76 (.call 132 [(.t 74), (.t 75)]), mv 77 12, o_ 78 (.call 87 [(.t 76), (i_ 64), (.t 77)])]
def A_q90_15 : List AOper := [o_ 79 (.bini .add (.t 60) (i_ 1)), mv 60 79]
def A_q90_16 : ACode := (.seq (.ops [o_ 61 (.bini .lss (.t 60) (.t 59))]) (.seq (.cond (.t 61) .skip (.exit 2)) (.seq (.block 3 (.seq (.ops A_q90_11) (.seq (.ops A_q90_12) (.seq (.ops A_q90_13) (.ops A_q90_14))))) (.ops A_q90_15))))
def A_q90_17 : List AOper := [o_ 80 (.faddr 3 (.t 5)), o_ 81 (.ld1 (.t 80)), o_ 82 (.lenl (.t 81)), o_ 83 (.mov (i_ 0))]
def A_q90_18 : ACode := (.seq (.ops [o_ 84 (.bini .lss (.t 83) (.t 82))]) (.seq (.cond (.t 84) .bad (.exit 4)) .bad))
def A_q90_19 : List AOper := [o_ 94 (.faddr 4 (.t 5)), o_ 95 (.ld1 (.t 94)), o_ 96 (.lenl (.t 95)), o_ 97 (.mov (i_ 0))]
def A_q90_20 : ACode := (.seq (.ops [o_ 98 (.bini .lss (.t 97) (.t 96))]) (.seq (.cond (.t 98) .bad (.exit 6)) .bad))
def A_q90 : ACode := (.seq (.ops [o_ 5 (.box 59 7 (.t 1))]) (.seq (.ops A_q90_0) (.seq (.ops A_q90_1) (.seq (.ops A_q90_2) (.seq (.ops A_q90_3) (.seq (.ops A_q90_4) (.seq (.seq (.ops A_q90_5) (.block 0 (.loop A_q90_9))) (.seq (.seq (.ops A_q90_10) (.block 2 (.loop A_q90_16))) (.seq (.seq (.ops A_q90_17) (.block 4 (.loop A_q90_18))) (.seq (.ops A_q90_19) (.block 6 (.loop A_q90_20))))))))))))
def R_q90 : List ARes := []
def T_q90 : FC := ⟨106, A_q90, R_q90⟩
abbrev F_q92 : Nat := 92
def A_q92_0 : List AOper := [o_ 4 (.ld1 (.t 1)), mv 3 4]
def A_q92_1 : List AOper := [mv 5 0, mv 6 3, o_ 7 (.callv (.t 5) [(.t 6)]), mv 8 7, g_ 9 (.mov (.t 3)) 8, g_ 10 (.bins .neq (.t 9) (.c (.str []))) 8, o_ 11 (.pick (.t 8) (.t 10) (.c (.bool false)))]
def A_q92_2 : ACode := (.seq (.seq (.ops A_q92_1) (.cond (.t 11) .bad (.exit 0))) .bad)
def A_q92 : ACode := (.seq (.ops A_q92_0) (.block 0 (.loop A_q92_2)))
def R_q92 : List ARes := []
def T_q92 : FC := ⟨17, A_q92, R_q92⟩
abbrev F_q94 : Nat := 94
def A_q94_0 : List AOper := [mv 11 0, o_ 12 (.lenl (.t 11))]
def A_q94_1 : List AOper := [o_ 14 (.bini .eql (.t 12) (i_ 0)), mv 13 14]
def A_q94_2 : List AOper := [o_ 16 (.bini .eql (.t 12) (i_ 1)), mv 15 16]
def A_q94_3 : List AOper := [mv 17 0, o_ 18 (.iaddr 9 1 (.t 17) (i_ 0)), o_ 19 (.ld1 (.t 18)), mv 4 19]
def A_q94_4 : List AOper := [mv 20 1, o_ 21 (.lens (.t 20)), o_ 22 (.bini .gtr (.t 21) (i_ 0))]
def A_q94_5 : List AOper := [mv 23 1, o_ 24 (.lens (.t 23)), mv 25 0, o_ 26 (.lenl (.t 25)), o_ 27 (.bini .sub (.t 26) (i_ 1)), o_ 28 (.bini .quo (i_ 9223372036854775807) (.t 27)), o_ 29 (.bini .geq (.t 24) (.t 28))]
def A_q94_6 : List AOper := [mv 31 5, mv 32 1, o_ 33 (.lens (.t 32)), mv 34 0, o_ 35 (.lenl (.t 34)), o_ 36 (.bini .sub (.t 35) (i_ 1)), o_ 37 (.bini .mul (.t 33) (.t 36)), o_ 38 (.bini .add (.t 31) (.t 37)), mv 5 38]
def A_q94_7 : List AOper := [mv 39 0, o_ 40 (.lenl (.t 39)), o_ 41 (.mov (i_ 0))]
def A_q94_8 : List AOper := [o_ 43 (.iaddr 9 1 (.t 39) (.t 41)), o_ 44 (.ld1 (.t 43)), mv 7 44]
def A_q94_9 : List AOper := [mv 45 7, o_ 46 (.lens (.t 45)), mv 47 5, o_ 48 (.bini .sub (i_ 9223372036854775807) (.t 47)), o_ 49 (.bini .gtr (.t 46) (.t 48))]
def A_q94_10 : List AOper := [mv 51 5, mv 52 7, o_ 53 (.lens (.t 52)), o_ 54 (.bini .add (.t 51) (.t 53)), mv 5 54]
def A_q94_11 : List AOper := [o_ 55 (.bini .add (.t 41) (i_ 1)), mv 41 55]
def A_q94_12 : ACode := (.seq (.ops [o_ 42 (.bini .lss (.t 41) (.t 40))]) (.seq (.cond (.t 42) .skip (.exit 1)) (.seq (.block 2 (.seq (.ops A_q94_8) (.seq (.seq (.ops A_q94_9) (.cond (.t 49) .bad .skip)) (.ops A_q94_10)))) (.ops A_q94_11))))
def A_q94_13 : List AOper := [mv 56 5, o_ 57 (.call 138 [(.t 8), (.t 56)])]
def A_q94_14 : List AOper := [mv 58 0, o_ 59 (.iaddr 9 1 (.t 58) (i_ 0)), o_ 60 (.ld1 (.t 59)), o_ 61 (.call 139 [(.t 8), (.t 60)])]
def A_q94_15 : List AOper := [mv 62 0, o_ 63 (.slcl 9 1 (.t 62) (some (i_ 1)) none none), o_ 64 (.lenl (.t 63)), o_ 65 (.mov (i_ 0))]
def A_q94_16 : List AOper := [o_ 67 (.iaddr 9 1 (.t 63) (.t 65)), o_ 68 (.ld1 (.t 67)), mv 10 68]
def A_q94_17 : List AOper := [mv 69 1, o_ 70 (.call 139 [(.t 8), (.t 69)])]
def A_q94_18 : List AOper := [mv 71 10, o_ 72 (.call 139 [(.t 8), (.t 71)])]
def A_q94_19 : List AOper := [o_ 73 (.bini .add (.t 65) (i_ 1)), mv 65 73]
def A_q94_20 : ACode := (.seq (.ops [o_ 66 (.bini .lss (.t 65) (.t 64))]) (.seq (.cond (.t 66) .skip (.exit 3)) (.seq (.block 4 (.seq (.ops A_q94_16) (.seq (.ops A_q94_17) (.ops A_q94_18)))) (.ops A_q94_19))))
def A_q94_21 : List AOper := [o_ 74 (.call 140 [(.t 8)]), mv 4 74]
def A_q94 : ACode := (.seq (.ops [o_ 4 (.mov (.c (.str [])))]) (.seq (.seq (.ops A_q94_0) (.block 0 (.seq (.ops A_q94_1) (.cond (.t 13) .bad (.seq (.ops A_q94_2) (.cond (.t 15) (.seq (.ops A_q94_3) .ret) .skip)))))) (.seq (.ops [o_ 5 (.mov (i_ 0))]) (.seq (.seq (.ops A_q94_4) (.cond (.t 22) (.seq (.seq (.ops A_q94_5) (.cond (.t 29) .bad .skip)) (.ops A_q94_6)) .bad)) (.seq (.seq (.ops A_q94_7) (.block 1 (.loop A_q94_12))) (.seq (.ops [o_ 8 (.box 243 2 (.c (.agg [.nilp, .nils])))]) (.seq (.ops A_q94_13) (.seq (.ops A_q94_14) (.seq (.seq (.ops A_q94_15) (.block 3 (.loop A_q94_20))) (.seq (.ops A_q94_21) .ret))))))))))
def R_q94 : List ARes := [.tmp 4]
def T_q94 : FC := ⟨75, A_q94, R_q94⟩
abbrev F_q95 : Nat := 95
def A_q95_0 : List AOper := [mv 10 6, o_ 7 (.mov (i_ 0)), mv 8 10]
def A_q95_1 : List AOper := [mv 11 8, mv 12 1, o_ 13 (.bini .leq (.t 11) (.t 12))]
def A_q95_2 : ACode := (.seq (.seq (.ops A_q95_1) (.cond (.t 13) .bad (.exit 0))) .bad)
def A_q95_3 : List AOper := [mv 23 0, mv 24 7, mv 25 1, mv 26 2, o_ 27 (.call 141 [(.t 23), (.t 24), (.t 25), (.t 26)])]
def A_q95_4 : List AOper := [mv 28 6, mv 29 1, o_ 30 (.bini .lss (.t 28) (.t 29))]
def A_q95_5 : ACode := (.seq (.seq (.ops A_q95_4) (.cond (.t 30) .bad (.exit 2))) .bad)
def A_q95 : ACode := (.seq (.ops [o_ 6 (.mov (i_ 20))]) (.seq (.ops A_q95_0) (.seq (.block 0 (.loop A_q95_2)) (.seq (.ops A_q95_3) (.block 2 (.loop A_q95_5))))))
def R_q95 : List ARes := []
def T_q95 : FC := ⟨63, A_q95, R_q95⟩
abbrev F_q96 : Nat := 96
def A_q96_0 : List AOper := [mv 3 0, mv 4 0, o_ 5 (.bins .neq (.t 3) (.t 4)), mv 2 5]
def A_q96 : ACode := (.seq (.ops [o_ 2 (.mov (.c (.bool false)))]) (.seq (.ops A_q96_0) .ret))
def R_q96 : List ARes := [.tmp 2]
def T_q96 : FC := ⟨6, A_q96, R_q96⟩
abbrev F_q97 : Nat := 97
def A_q97_0 : List AOper := [mv 3 0, mv 4 0, o_ 5 (.bini .neq (.t 3) (.t 4)), mv 2 5]
def A_q97 : ACode := (.seq (.ops [o_ 2 (.mov (.c (.bool false)))]) (.seq (.ops A_q97_0) .ret))
def R_q97 : List ARes := [.tmp 2]
def T_q97 : FC := ⟨6, A_q97, R_q97⟩
abbrev F_q99 : Nat := 99
def A_q99_0 : List AOper := [mv 6 0, o_ 7 (.lenl (.t 6)), o_ 8 (.mov (i_ 0))]
def A_q99_1 : ACode := (.seq (.ops [o_ 9 (.bini .lss (.t 8) (.t 7))]) (.seq (.cond (.t 9) .bad (.exit 0)) .bad))
def A_q99 : ACode := (.seq (.ops [o_ 4 (.mov (i_ 0))]) (.seq (.seq (.ops A_q99_0) (.block 0 (.loop A_q99_1))) (.seq (.ops [o_ 4 (.mov (i_ (-1)))]) .ret)))
def R_q99 : List ARes := [.tmp 4]
def T_q99 : FC := ⟨19, A_q99, R_q99⟩
abbrev F_q100 : Nat := 100
def A_q100_0 : List AOper := [mv 8 1, o_ 9 (.bini .add (.t 8) (i_ 1)), mv 6 9]
def A_q100_1 : List AOper := [mv 10 6, mv 11 2, o_ 12 (.bini .lss (.t 10) (.t 11))]
def A_q100_2 : ACode := (.seq (.seq (.ops A_q100_1) (.cond (.t 12) .bad (.exit 0))) .bad)
def A_q100 : ACode := (.seq (.ops A_q100_0) (.block 0 (.loop A_q100_2)))
def R_q100 : List ARes := []
def T_q100 : FC := ⟨49, A_q100, R_q100⟩
abbrev F_q110 : Nat := 110
def A_q110_0 : List AOper := [mv 3 0, o_ 4 (.bini .geq (.t 3) (.c (.int .u64 (4294967296))))]
def A_q110_1 : List AOper := [mv 7 0, o_ 8 (.bini .geq (.t 7) (.c (.int .u64 (65536))))]
def A_q110_2 : List AOper := [mv 13 0, o_ 14 (.bini .geq (.t 13) (.c (.int .u64 (256))))]
def A_q110_3 : List AOper := [mv 19 2, mv 20 0, o_ 21 (.conv .u8 (.t 20)), o_ 22 (.idxs (.c (.str [0, 1, 2, 2, 3, 3, 3, 3, 4, 4, 4, 4, 4, 4, 4, 4, 5, 5, 5, 5, 5, 5, 5, 5, 5, 5, 5, 5, 5, 5, 5, 5, 6, 6, 6, 6, 6, 6, 6, 6, 6, 6, 6, 6, 6, 6, 6, 6, 6, 6, 6, 6, 6, 6, 6, 6, 6, 6, 6, 6, 6, 6, 6, 6, 7, 7, 7, 7, 7, 7, 7, 7, 7, 7, 7, 7, 7, 7, 7, 7, 7, 7, 7, 7, 7, 7, 7, 7, 7, 7, 7, 7, 7, 7, 7, 7, 7, 7, 7, 7, 7, 7, 7, 7, 7, 7, 7, 7, 7, 7, 7, 7, 7, 7, 7, 7, 7, 7, 7, 7, 7, 7, 7, 7, 7, 7, 7, 7, 8, 8, 8, 8, 8, 8, 8, 8, 8, 8, 8, 8, 8, 8, 8, 8, 8, 8, 8, 8, 8, 8, 8, 8, 8, 8, 8, 8, 8, 8, 8, 8, 8, 8, 8, 8, 8, 8, 8, 8, 8, 8, 8, 8, 8, 8, 8, 8, 8, 8, 8, 8, 8, 8, 8, 8, 8, 8, 8, 8, 8, 8, 8, 8, 8, 8, 8, 8, 8, 8, 8, 8, 8, 8, 8, 8, 8, 8, 8, 8, 8, 8, 8, 8, 8, 8, 8, 8, 8, 8, 8, 8, 8, 8, 8, 8, 8, 8, 8, 8, 8, 8, 8, 8, 8, 8, 8, 8, 8, 8, 8, 8, 8, 8, 8, 8, 8, 8, 8, 8, 8, 8, 8, 8, 8, 8, 8, 8])) (.t 21)), o_ 23 (.conv .i64 (.t 22)), o_ 24 (.bini .add (.t 19) (.t 23)), mv 2 24]
def A_q110 : ACode := (.seq (.ops [o_ 2 (.mov (i_ 0))]) (.seq (.seq (.ops A_q110_0) (.cond (.t 4) .bad .skip)) (.seq (.seq (.ops A_q110_1) (.cond (.t 8) .bad .skip)) (.seq (.seq (.ops A_q110_2) (.cond (.t 14) .bad .skip)) (.seq (.ops A_q110_3) .ret)))))
def R_q110 : List ARes := [.tmp 2]
def T_q110 : FC := ⟨25, A_q110, R_q110⟩
abbrev F_q120 : Nat := 120
def A_q120_0 : List AOper := [o_ 4 (.mkmap), mv 1 4]
def A_q120_1 : List AOper := [o_ 5 (.build [.int .u8 (0), .int .u8 (0)] [(0, 1, (.c (.int .u8 (8)))), (1, 1, (.c (.int .u8 (5))))]), o_ 6 (.build [.int .u8 (0), .int .u8 (0)] [(0, 1, (.c (.int .u8 (8)))), (1, 1, (.c (.int .u8 (3))))]), o_ 7 (.build [.int .u8 (0), .int .u8 (0)] [(0, 1, (.c (.int .u8 (8)))), (1, 1, (.c (.int .u8 (13))))]), o_ 8 (.build [.int .u8 (0), .int .u8 (0)] [(0, 1, (.c (.int .u8 (8)))), (1, 1, (.c (.int .u8 (4))))]), o_ 9 (.build [.int .u8 (0), .int .u8 (0)] [(0, 1, (.c (.int .u8 (8)))), (1, 1, (.c (.int .u8 (14))))]), o_ 10 (.build [.int .u8 (0), .int .u8 (0)] [(0, 1, (.c (.int .u8 (14)))), (1, 1, (.c (.int .u8 (5))))]), o_ 11 (.build [.int .u8 (0), .int .u8 (0)] [(0, 1, (.c (.int .u8 (5)))), (1, 1, (.c (.int .u8 (14))))]), o_ 12 (.build [.int .u8 (0), .int .u8 (0)] [(0, 1, (.c (.int .u8 (14)))), (1, 1, (.c (.int .u8 (3))))]), o_ 13 (.build [.int .u8 (0), .int .u8 (0)] [(0, 1, (.c (.int .u8 (5)))), (1, 1, (.c (.int .u8 (3))))]), o_ 14 (.build [.int .u8 (0), .int .u8 (0)] [(0, 1, (.c (.int .u8 (13)))), (1, 1, (.c (.int .u8 (4))))]), o_ 15 (.build [.int .u8 (0), .int .u8 (0)] [(0, 1, (.c (.int .u8 (13)))), (1, 1, (.c (.int .u8 (3))))]), o_ 16 (.build [.int .u8 (0), .int .u8 (0)] [(0, 1, (.c (.int .u8 (17)))), (1, 1, (.c (.int .u8 (18))))]), o_ 17 (.build [.int .u8 (0), .int .u8 (0)] [(0, 1, (.c (.int .u8 (9)))), (1, 1, (.c (.int .u8 (12))))]), o_ 18 (.bslice 221 2 13 [.int .u8 (0), .int .u8 (0)] [(0, 2, (.t 5)), (2, 2, (.t 6)), (4, 2, (.t 7)), (6, 2, (.t 8)), (8, 2, (.t 9)), (10, 2, (.t 10)), (12, 2, (.t 11)), (14, 2, (.t 12)), (16, 2, (.t 13)), (18, 2, (.t 14)), (20, 2, (.t 15)), (22, 2, (.t 16)), (24, 2, (.t 17))]), o_ 19 (.lenl (.t 18)), o_ 20 (.mov (i_ 0))]
def A_q120_2 : List AOper := [o_ 22 (.iaddr 221 2 (.t 18) (.t 20)), o_ 23 (.lda 2 (.t 22)), o_ 3 (.box 221 2 (.c (.agg [.int .u8 (0), .int .u8 (0)]))), n_ (.st 2 (.t 3) (.t 23))]
def A_q120_3 : List AOper := [mv 24 1, o_ 25 (.lda 2 (.t 3)), n_ (.mupd (.a 1 1) (.t 24) (.t 25) (.c (.bool true)))]
def A_q120_4 : List AOper := [o_ 26 (.bini .add (.t 20) (i_ 1)), mv 20 26]
def A_q120_5 : ACode := (.seq (.ops [o_ 21 (.bini .lss (.t 20) (.t 19))]) (.seq (.cond (.t 21) .skip (.exit 0)) (.seq (.block 1 (.seq (.ops A_q120_2) (.ops A_q120_3))) (.ops A_q120_4))))
def A_q120_6 : List AOper := [mv 27 1, mv 0 27]
def A_q120 : ACode := (.seq (.ops [o_ 0 (.mov (.c (.nilm)))]) (.seq (.ops A_q120_0) (.seq (.seq (.ops A_q120_1) (.block 0 (.loop A_q120_5))) (.seq (.ops A_q120_6) .ret))))
def R_q120 : List ARes := [.tmp 0]
def T_q120 : FC := ⟨28, A_q120, R_q120⟩
abbrev F_q121 : Nat := 121
def A_q121_0 : List AOper := [mv 3 0, o_ 4 (.isnilu false (.t 3))]
def A_q121_1 : List AOper := [o_ 5 (.bslice0 41), mv 6 0, o_ 7 (.app 41 9 80 (.t 5) (.t 6)), mv 2 7]
def A_q121 : ACode := (.seq (.ops [o_ 2 (.mov (.c (.nils)))]) (.seq (.seq (.ops A_q121_0) (.cond (.t 4) (.seq (.ops [o_ 2 (.mov (.c (.nils)))]) .ret) .skip)) (.seq (.ops A_q121_1) .ret)))
def R_q121 : List ARes := [.tmp 2]
def T_q121 : FC := ⟨8, A_q121, R_q121⟩
abbrev F_q122 : Nat := 122
def A_q122_0 : List AOper := [mv 3 0, o_ 4 (.isnilu false (.t 3))]
def A_q122_1 : List AOper := [o_ 5 (.bslice0 9), mv 6 0, o_ 7 (.app 9 1 16 (.t 5) (.t 6)), mv 2 7]
def A_q122 : ACode := (.seq (.ops [o_ 2 (.mov (.c (.nils)))]) (.seq (.seq (.ops A_q122_0) (.cond (.t 4) (.seq (.ops [o_ 2 (.mov (.c (.nils)))]) .ret) .skip)) (.seq (.ops A_q122_1) .ret)))
def R_q122 : List ARes := [.tmp 2]
def T_q122 : FC := ⟨8, A_q122, R_q122⟩
abbrev F_q123 : Nat := 123
def A_q123_0 : List AOper := [mv 3 0, o_ 4 (.isnilu false (.t 3))]
def A_q123 : ACode := (.seq (.ops [o_ 2 (.mov (.c (.nils)))]) (.seq (.seq (.ops A_q123_0) (.cond (.t 4) (.seq (.ops [o_ 2 (.mov (.c (.nils)))]) .ret) .bad)) .bad))
def R_q123 : List ARes := [.tmp 2]
def T_q123 : FC := ⟨8, A_q123, R_q123⟩
abbrev F_q125 : Nat := 125
def A_q125_0 : List AOper := [o_ 2 (.box 36 1 (.t 0)), o_ 4 (.mov (.c (.nils)))]
def A_q125_1 : List AOper := [o_ 8 (.ld1 (.t 2)), mv 9 5, o_ 10 (.bslice 9 1 1 [.str []] [(0, 1, (.t 9))]), o_ 11 (.app 9 1 16 (.t 8) (.t 10)), n_ (.st 1 (.t 2) (.t 11))]
def A_q125_2 : List AOper := [o_ 12 (.ld1 (.t 2)), mv 4 12]
def A_q125 : ACode := (.seq (.ops A_q125_0) (.seq (.seq (.ops [mv 6 1]) (.block 0 (.rngf (.t 6) [7] (.ops [mv 5 7]) (.block 1 (.ops A_q125_1))))) (.seq (.ops A_q125_2) .ret)))
def R_q125 : List ARes := [.tmp 4]
def T_q125 : FC := ⟨13, A_q125, R_q125⟩
abbrev F_q127 : Nat := 127
def A_q127_0 : List AOper := [mv 5 0, o_ 6 (.bins .eql (.t 5) (.c (.str []))), mv 7 6, ⟨some 8, .mov (.t 0), some (7, false)⟩, ⟨some 9, .lens (.t 8), some (7, false)⟩, ⟨some 10, .bini .gtr (.t 9) (i_ 255), some (7, false)⟩, o_ 11 (.pick (.t 7) (.c (.bool true)) (.t 10)), mv 12 11, ⟨some 13, .mov (.t 0), some (12, false)⟩, ⟨some 14, .idxs (.t 13) (i_ 0), some (12, false)⟩, ⟨some 15, .call 158 [(.t 14)], some (12, false)⟩, o_ 16 (.pick (.t 12) (.c (.bool true)) (.t 15))]
def A_q127_1 : List AOper := [mv 17 0, o_ 18 (.lens (.t 17)), o_ 19 (.mov (i_ 0))]
def A_q127_2 : List AOper := [mv 21 19, mv 3 21]
def A_q127_3 : List AOper := [mv 22 0, mv 23 3, o_ 24 (.idxs (.t 22) (.t 23)), mv 4 24]
def A_q127_4 : List AOper := [mv 25 4, o_ 26 (.call 159 [(.t 25)]), o_ 27 (.not (.t 26)), mv 28 27, g_ 29 (.mov (.t 4)) 28, g_ 30 (.call 160 [(.t 29)]) 28, g_ 31 (.not (.t 30)) 28, o_ 32 (.pick (.t 28) (.t 31) (.c (.bool false))), mv 33 32, g_ 34 (.mov (.t 4)) 33, g_ 35 (.call 158 [(.t 34)]) 33, g_ 36 (.not (.t 35)) 33, o_ 37 (.pick (.t 33) (.t 36) (.c (.bool false))), mv 38 37, g_ 39 (.mov (.t 4)) 38, g_ 40 (.bini .neq (.t 39) (.c (.int .u8 (95)))) 38, o_ 41 (.pick (.t 38) (.t 40) (.c (.bool false)))]
def A_q127_5 : List AOper := [o_ 42 (.bini .add (.t 19) (i_ 1)), mv 19 42]
def A_q127_6 : ACode := (.seq (.ops [o_ 20 (.bini .lss (.t 19) (.t 18))]) (.seq (.cond (.t 20) .skip (.exit 0)) (.seq (.block 1 (.seq (.ops A_q127_2) (.seq (.ops A_q127_3) (.seq (.ops A_q127_4) (.cond (.t 41) .bad .skip))))) (.ops A_q127_5))))
def A_q127 : ACode := (.seq (.ops [o_ 2 (.mov (.c (.bool false)))]) (.seq (.seq (.ops A_q127_0) (.cond (.t 16) .bad .skip)) (.seq (.seq (.ops A_q127_1) (.block 0 (.loop A_q127_6))) (.seq (.ops [o_ 2 (.mov (.c (.bool true)))]) .ret))))
def R_q127 : List ARes := [.tmp 2]
def T_q127 : FC := ⟨43, A_q127, R_q127⟩
abbrev F_q128 : Nat := 128
def A_q128_0 : List AOper := [mv 6 1, o_ 7 (.call 127 [(.t 6)]), mv 8 7, g_ 9 (.mov (.t 2)) 8, g_ 10 (.lens (.t 9)) 8, g_ 11 (.bini .leq (.t 10) (i_ 255)) 8, o_ 12 (.pick (.t 8) (.t 11) (.c (.bool false))), mv 13 2, o_ 14 (.call 87 [(.t 12), (i_ 60), (.t 13)])]
def A_q128_1 : List AOper := [mv 15 0, o_ 16 (.nilc (.t 15)), o_ 17 (.faddr 0 (.t 16)), o_ 18 (.ld1 (.t 17)), mv 19 2, o_ 20 (.mlook .s (.int .i64 (0)) false (.t 18) (.t 19)), o_ 21 (.bini .add (.t 20) (i_ 1)), n_ (.mupd .s (.t 18) (.t 19) (.t 21))]
def A_q128_2 : List AOper := [mv 22 0, o_ 23 (.nilc (.t 22)), o_ 24 (.faddr 0 (.t 23)), o_ 25 (.ld1 (.t 24)), mv 26 2, o_ 27 (.mlook .s (.int .i64 (0)) false (.t 25) (.t 26)), o_ 28 (.bini .eql (.t 27) (i_ 1)), mv 29 2, o_ 30 (.call 87 [(.t 28), (i_ 61), (.t 29)])]
def A_q128 : ACode := (.seq (.ops A_q128_0) (.seq (.ops A_q128_1) (.ops A_q128_2)))
def R_q128 : List ARes := []
def T_q128 : FC := ⟨31, A_q128, R_q128⟩
abbrev F_q129 : Nat := 129
def A_q129_0 : List AOper := [mv 12 0, o_ 13 (.lenl (.t 12)), o_ 14 (.mov (i_ 0))]
def A_q129_1 : ACode := (.seq (.ops [o_ 15 (.bini .lss (.t 14) (.t 13))]) (.seq (.cond (.t 15) .bad (.exit 0)) .bad))
def A_q129 : ACode := (.seq (.ops A_q129_0) (.block 0 (.loop A_q129_1)))
def R_q129 : List ARes := []
def T_q129 : FC := ⟨62, A_q129, R_q129⟩
abbrev F_q130 : Nat := 130
def A_q130_0 : List AOper := [mv 7 0, o_ 8 (.lenl (.t 7)), o_ 9 (.mov (i_ 0))]
def A_q130_1 : ACode := (.seq (.ops [o_ 10 (.bini .lss (.t 9) (.t 8))]) (.seq (.cond (.t 10) .bad (.exit 0)) .bad))
def A_q130 : ACode := (.seq (.ops A_q130_0) (.block 0 (.loop A_q130_1)))
def R_q130 : List ARes := []
def T_q130 : FC := ⟨31, A_q130, R_q130⟩
abbrev F_q131 : Nat := 131
def A_q131_0 : List AOper := [o_ 13 (.faddr 1 (.t 5)), o_ 14 (.ld1 (.t 13)), mv 15 2, o_ 16 (.iaddr 41 9 (.t 14) (.t 15)), o_ 17 (.lda 9 (.t 16)), o_ 18 (.faddr 1 (.t 5)), mv 20 2, o_ 19 (.ld1 (.t 18)), o_ 21 (.slcl 41 9 (.t 19) none (some (.t 20)) none), o_ 8 (.box 41 9 (.c (.agg [.str [], .int .i32 (0), .int .u8 (0), .int .u8 (0), .str [], .int .u8 (0), .int .i64 (0), .int .u8 (0), .str []]))), n_ (.st 9 (.t 8) (.t 17)), mv 9 21]
def A_q131_1 : List AOper := [o_ 13 (.faddr 1 (.t 5)), o_ 14 (.ld1 (.t 13)), mv 15 2, o_ 16 (.iaddr 41 9 (.t 14) (.t 15)), o_ 17 (.lda 9 (.t 16)), o_ 18 (.faddr 1 (.t 5)), mv 20 2, o_ 19 (.ld1 (.t 18)), o_ 8 (.box 41 9 (.c (.agg [.str [], .int .i32 (0), .int .u8 (0), .int .u8 (0), .str [], .int .u8 (0), .int .i64 (0), .int .u8 (0), .str []]))), o_ 21 (.slcl 41 9 (.t 19) none (some (.t 20)) none), n_ (.st 9 (.t 8) (.t 17)), mv 9 21]
def A_q131_2 : List AOper := [o_ 13 (.faddr 1 (.t 5)), o_ 14 (.ld1 (.t 13)), mv 15 2, o_ 16 (.iaddr 41 9 (.t 14) (.t 15)), o_ 17 (.lda 9 (.t 16)), o_ 18 (.faddr 1 (.t 5)), mv 20 2, o_ 19 (.ld1 (.t 18)), o_ 8 (.box 41 9 (.c (.agg [.str [], .int .i32 (0), .int .u8 (0), .int .u8 (0), .str [], .int .u8 (0), .int .i64 (0), .int .u8 (0), .str []]))), n_ (.st 9 (.t 8) (.t 17)), o_ 21 (.slcl 41 9 (.t 19) none (some (.t 20)) none), mv 9 21]
def A_q131_3 : List AOper := [o_ 13 (.faddr 1 (.t 5)), o_ 14 (.ld1 (.t 13)), mv 15 2, o_ 16 (.iaddr 41 9 (.t 14) (.t 15)), o_ 17 (.lda 9 (.t 16)), o_ 18 (.faddr 1 (.t 5)), mv 20 2, o_ 8 (.box 41 9 (.c (.agg [.str [], .int .i32 (0), .int .u8 (0), .int .u8 (0), .str [], .int .u8 (0), .int .i64 (0), .int .u8 (0), .str []]))), o_ 19 (.ld1 (.t 18)), o_ 21 (.slcl 41 9 (.t 19) none (some (.t 20)) none), n_ (.st 9 (.t 8) (.t 17)), mv 9 21]
def A_q131_4 : List AOper := [o_ 13 (.faddr 1 (.t 5)), o_ 14 (.ld1 (.t 13)), mv 15 2, o_ 16 (.iaddr 41 9 (.t 14) (.t 15)), o_ 17 (.lda 9 (.t 16)), o_ 18 (.faddr 1 (.t 5)), mv 20 2, o_ 8 (.box 41 9 (.c (.agg [.str [], .int .i32 (0), .int .u8 (0), .int .u8 (0), .str [], .int .u8 (0), .int .i64 (0), .int .u8 (0), .str []]))), o_ 19 (.ld1 (.t 18)), n_ (.st 9 (.t 8) (.t 17)), o_ 21 (.slcl 41 9 (.t 19) none (some (.t 20)) none), mv 9 21]
def A_q131_5 : List AOper := [o_ 13 (.faddr 1 (.t 5)), o_ 14 (.ld1 (.t 13)), mv 15 2, o_ 16 (.iaddr 41 9 (.t 14) (.t 15)), o_ 17 (.lda 9 (.t 16)), o_ 18 (.faddr 1 (.t 5)), mv 20 2, o_ 8 (.box 41 9 (.c (.agg [.str [], .int .i32 (0), .int .u8 (0), .int .u8 (0), .str [], .int .u8 (0), .int .i64 (0), .int .u8 (0), .str []]))), n_ (.st 9 (.t 8) (.t 17)), o_ 19 (.ld1 (.t 18)), o_ 21 (.slcl 41 9 (.t 19) none (some (.t 20)) none), mv 9 21]
def A_q131_6 : List AOper := [mv 22 3, o_ 23 (.faddr 0 (.t 8)), o_ 24 (.ld1 (.t 23)), o_ 25 (.bslice 9 1 2 [.str []] [(0, 1, (.t 22)), (1, 1, (.t 24))]), o_ 26 (.call 66 [(.t 25)]), mv 10 26]
def A_q131_7 : List AOper := [mv 27 0, o_ 28 (.faddr 0 (.t 8)), o_ 29 (.ld1 (.t 28)), mv 30 10, o_ 31 (.call 128 [(.t 27), (.t 29), (.t 30)])]
def A_q131_8 : List AOper := [o_ 32 (.faddr 6 (.t 5)), o_ 33 (.ld1 (.t 32)), o_ 34 (.faddr 0 (.t 8)), o_ 35 (.ld1 (.t 34)), o_ 36 (.call 76 [(.t 33), (.t 35)]), o_ 37 (.not (.t 36)), mv 38 10, o_ 39 (.call 87 [(.t 37), (i_ 63), (.t 38)])]
def A_q131_9 : List AOper := [o_ 40 (.faddr 1 (.t 8)), o_ 41 (.ld1 (.t 40)), o_ 42 (.call 161 [(.t 41)]), mv 43 42, g_ 44 (.mov (.t 9)) 43, g_ 45 (.mkfn 162 [] [(.t 8)]) 43, g_ 46 (.call 132 [(.t 44), (.t 45)]) 43, g_ 47 (.not (.t 46)) 43, o_ 48 (.pick (.t 43) (.t 47) (.c (.bool false))), mv 49 10, o_ 50 (.call 87 [(.t 48), (i_ 62), (.t 49)])]
def A_q131_10 : List AOper := [o_ 51 (.faddr 5 (.t 5)), o_ 52 (.ld1 (.t 51)), o_ 53 (.faddr 1 (.t 8)), o_ 54 (.ld1 (.t 53)), o_ 55 (.call 134 [(.t 52), (.t 54)]), o_ 56 (.not (.t 55)), mv 57 10, o_ 58 (.call 87 [(.t 56), (i_ 63), (.t 57)])]
def A_q131_11 : List AOper := [o_ 59 (.faddr 2 (.t 8)), o_ 60 (.ld1 (.t 59)), o_ 61 (.bini .geq (.t 60) (.c (.int .u8 (1)))), mv 62 61, g_ 63 (.faddr 2 (.t 8)) 62, g_ 64 (.ld1 (.t 63)) 62, g_ 65 (.bini .leq (.t 64) (.c (.int .u8 (4)))) 62, o_ 66 (.pick (.t 62) (.t 65) (.c (.bool false))), mv 67 66, g_ 68 (.faddr 3 (.t 8)) 67, g_ 69 (.ld1 (.t 68)) 67, g_ 70 (.bini .eql (.t 69) (.c (.int .u8 (0)))) 67, g_ 71 (.mov (.t 70)) 67, ⟨some 72, .faddr 3 (.t 8), some (71, false)⟩, ⟨some 73, .ld1 (.t 72), some (71, false)⟩, ⟨some 74, .call 163 [(.t 73)], some (71, false)⟩, g_ 75 (.pick (.t 71) (.c (.bool true)) (.t 74)) 67, o_ 76 (.pick (.t 67) (.t 75) (.c (.bool false))), mv 77 10, o_ 78 (.call 87 [(.t 76), (i_ 69), (.t 77)])]
def A_q131_12 : List AOper := [o_ 79 (.faddr 3 (.t 8)), o_ 80 (.ld1 (.t 79)), o_ 81 (.call 164 [(.t 80)])]
def A_q131_13 : List AOper := [o_ 87 (.faddr 4 (.t 8)), o_ 88 (.ld1 (.t 87)), o_ 89 (.bins .eql (.t 88) (.c (.str []))), mv 90 10, o_ 91 (.call 87 [(.t 89), (i_ 69), (.t 90)])]
def A_q131_14 : List AOper := [o_ 92 (.faddr 2 (.t 8)), o_ 93 (.ld1 (.t 92)), o_ 94 (.bini .eql (.t 93) (.c (.int .u8 (4))))]
def A_q131_15 : List AOper := [o_ 100 (.faddr 5 (.t 8)), o_ 101 (.ld1 (.t 100)), o_ 102 (.bini .eql (.t 101) (.c (.int .u8 (0)))), mv 103 10, o_ 104 (.call 87 [(.t 102), (i_ 65), (.t 103)])]
def A_q131_16 : List AOper := [o_ 105 (.faddr 6 (.t 8)), o_ 106 (.ld1 (.t 105)), o_ 107 (.bini .geq (.t 106) (i_ 0)), mv 108 107, g_ 109 (.faddr 6 (.t 8)) 108, g_ 110 (.ld1 (.t 109)) 108, g_ 111 (.faddr 2 (.t 5)) 108, g_ 112 (.ld1 (.t 111)) 108, g_ 113 (.lenl (.t 112)) 108, g_ 114 (.bini .leq (.t 110) (.t 113)) 108, o_ 115 (.pick (.t 108) (.t 114) (.c (.bool false))), mv 116 115, g_ 117 (.faddr 6 (.t 8)) 116, g_ 118 (.ld1 (.t 117)) 116, g_ 119 (.bini .eql (.t 118) (i_ 0)) 116, g_ 120 (.mov (.t 119)) 116, ⟨some 121, .faddr 2 (.t 8), some (120, false)⟩, ⟨some 122, .ld1 (.t 121), some (120, false)⟩, ⟨some 123, .bini .eql (.t 122) (.c (.int .u8 (1))), some (120, false)⟩, g_ 124 (.pick (.t 120) (.c (.bool true)) (.t 123)) 116, o_ 125 (.pick (.t 116) (.t 124) (.c (.bool false))), mv 126 10, o_ 127 (.call 87 [(.t 125), (i_ 64), (.t 126)])]
def A_q131_17 : List AOper := [o_ 128 (.faddr 7 (.t 8)), o_ 129 (.ld1 (.t 128)), o_ 130 (.bini .leq (.t 129) (.c (.int .u8 (2)))), mv 131 130, g_ 132 (.faddr 7 (.t 8)) 131, g_ 133 (.ld1 (.t 132)) 131, g_ 134 (.bini .eql (.t 133) (.c (.int .u8 (0)))) 131, g_ 135 (.mov (.t 134)) 131, ⟨some 136, .faddr 2 (.t 8), some (135, false)⟩, ⟨some 137, .ld1 (.t 136), some (135, false)⟩, ⟨some 138, .bini .eql (.t 137) (.c (.int .u8 (3))), some (135, false)⟩, ⟨some 139, .mov (.t 138), some (135, false)⟩, g_ 140 (.faddr 3 (.t 8)) 139, g_ 141 (.ld1 (.t 140)) 139, g_ 142 (.call 167 [(.t 141)]) 139, ⟨some 143, .pick (.t 139) (.t 142) (.c (.bool false)), some (135, false)⟩, g_ 144 (.pick (.t 135) (.c (.bool true)) (.t 143)) 131, o_ 145 (.pick (.t 131) (.t 144) (.c (.bool false))), mv 146 10, o_ 147 (.call 87 [(.t 145), (i_ 67), (.t 146)])]
def A_q131_18 : List AOper := [o_ 148 (.faddr 8 (.t 8)), o_ 149 (.ld1 (.t 148)), o_ 150 (.call 168 [(.t 149)]), o_ 151 (.bini .lss (.t 150) (i_ 0)), mv 152 151, g_ 153 (.faddr 8 (.t 8)) 152, g_ 154 (.ld1 (.t 153)) 152, g_ 155 (.lens (.t 154)) 152, g_ 156 (.bini .leq (.t 155) (i_ 255)) 152, o_ 157 (.pick (.t 152) (.t 156) (.c (.bool false))), mv 158 157, g_ 159 (.faddr 8 (.t 8)) 158, g_ 160 (.ld1 (.t 159)) 158, g_ 161 (.call 169 [(.t 160), (.c (.str [64]))]) 158, g_ 162 (.not (.t 161)) 158, o_ 163 (.pick (.t 158) (.t 162) (.c (.bool false))), mv 164 10, o_ 165 (.call 87 [(.t 163), (i_ 60), (.t 164)])]
def A_q131_19 : List AOper := [mv 166 9, o_ 167 (.lenl (.t 166)), o_ 168 (.mov (i_ 0))]
def A_q131_20 : List AOper := [o_ 170 (.iaddr 41 9 (.t 166) (.t 168)), o_ 171 (.lda 9 (.t 170)), o_ 12 (.box 41 9 (.c (.agg [.str [], .int .i32 (0), .int .u8 (0), .int .u8 (0), .str [], .int .u8 (0), .int .i64 (0), .int .u8 (0), .str []]))), n_ (.st 9 (.t 12) (.t 171))]
def A_q131_21 : List AOper := [o_ 172 (.lda 9 (.t 12)), o_ 174 (.lda 9 (.t 8)), mv 191 10, o_ 173 (.acall 170 [(.t 172)]), o_ 175 (.acall 170 [(.t 174)]), o_ 176 (.bins .neq (.t 173) (.t 175)), mv 177 176, g_ 178 (.lda 9 (.t 12)) 177, g_ 180 (.faddr 0 (.t 8)) 177, g_ 181 (.ld1 (.t 180)) 177, g_ 179 (.acall 170 [(.t 178)]) 177, g_ 182 (.bins .neq (.t 179) (.t 181)) 177, o_ 183 (.pick (.t 177) (.t 182) (.c (.bool false))), mv 184 183, g_ 185 (.faddr 0 (.t 12)) 184, g_ 186 (.ld1 (.t 185)) 184, g_ 187 (.lda 9 (.t 8)) 184, g_ 188 (.acall 170 [(.t 187)]) 184, g_ 189 (.bins .neq (.t 186) (.t 188)) 184, o_ 190 (.pick (.t 184) (.t 189) (.c (.bool false))), o_ 192 (.acall 87 [(.t 190), (i_ 61), (.t 191)])]
def A_q131_22 : List AOper := [o_ 193 (.bini .add (.t 168) (i_ 1)), mv 168 193]
def A_q131_23 : ACode := (.seq (.ops [o_ 169 (.bini .lss (.t 168) (.t 167))]) (.seq (.cond (.t 169) .skip (.exit 0)) (.seq (.block 1 (.seq (.ops A_q131_20) (.alts [172, 173, 174, 175, 176, 177, 178, 179, 180, 181, 182, 183, 184, 185, 186, 187, 188, 189, 190, 191, 192] [A_q131_21]))) (.ops A_q131_22))))
def A_q131 : ACode := (.seq (.ops [o_ 5 (.box 59 7 (.t 1))]) (.seq (.alts [13, 14, 15, 16, 17, 18, 19, 20, 21, 8, 9] [A_q131_0, A_q131_1, A_q131_2, A_q131_3, A_q131_4, A_q131_5]) (.seq (.ops A_q131_6) (.seq (.ops A_q131_7) (.seq (.ops A_q131_8) (.seq (.ops A_q131_9) (.seq (.ops A_q131_10) (.seq (.ops A_q131_11) (.seq (.seq (.ops A_q131_12) (.cond (.t 81) .bad (.ops A_q131_13))) (.seq (.seq (.ops A_q131_14) (.cond (.t 94) .bad (.ops A_q131_15))) (.seq (.ops A_q131_16) (.seq (.ops A_q131_17) (.seq (.ops A_q131_18) (.seq (.ops A_q131_19) (.block 0 (.loop A_q131_23))))))))))))))))
def R_q131 : List ARes := []
def T_q131 : FC := ⟨194, A_q131, R_q131⟩
abbrev F_q132 : Nat := 132
def A_q132_0 : List AOper := [mv 5 0, mv 6 1, o_ 7 (.call 171 [(.t 5), (.t 6)]), o_ 8 (.bini .geq (.t 7) (i_ 0)), mv 4 8]
def A_q132 : ACode := (.seq (.ops [o_ 4 (.mov (.c (.bool false)))]) (.seq (.ops A_q132_0) .ret))
def R_q132 : List ARes := [.tmp 4]
def T_q132 : FC := ⟨9, A_q132, R_q132⟩
abbrev F_q133 : Nat := 133
def A_q133_0 : List AOper := [o_ 2 (.box 41 9 (.t 0)), o_ 3 (.mov (.c (.bool false)))]
def A_q133_1 : List AOper := [o_ 4 (.faddr 6 (.t 2)), o_ 5 (.ld1 (.t 4)), o_ 6 (.ld1 (.t 1)), o_ 7 (.bini .add (.t 6) (i_ 1)), o_ 8 (.bini .eql (.t 5) (.t 7)), mv 3 8]
def A_q133 : ACode := (.seq (.ops A_q133_0) (.seq (.ops A_q133_1) .ret))
def R_q133 : List ARes := [.tmp 3]
def T_q133 : FC := ⟨9, A_q133, R_q133⟩
abbrev F_q134 : Nat := 134
def A_q134_0 : List AOper := [o_ 3 (.box 21 1 (.t 1)), o_ 4 (.mov (.c (.bool false)))]
def A_q134_1 : List AOper := [mv 5 0, o_ 6 (.mkfn 173 [] [(.t 3)]), o_ 7 (.call 172 [(.t 5), (.t 6)]), mv 4 7]
def A_q134 : ACode := (.seq (.ops A_q134_0) (.seq (.ops A_q134_1) .ret))
def R_q134 : List ARes := [.tmp 4]
def T_q134 : FC := ⟨8, A_q134, R_q134⟩
abbrev F_q138 : Nat := 138
def A_q138_0 : List AOper := [mv 4 0, o_ 5 (.call 176 [(.t 4)])]
def A_q138_1 : List AOper := [mv 6 1, o_ 7 (.bini .lss (.t 6) (i_ 0))]
def A_q138_2 : List AOper := [mv 9 0, o_ 10 (.nilc (.t 9)), o_ 11 (.faddr 1 (.t 10)), o_ 12 (.ld1 (.t 11)), o_ 13 (.capk (.t 12)), mv 14 0, o_ 15 (.nilc (.t 14)), o_ 16 (.faddr 1 (.t 15)), o_ 17 (.ld1 (.t 16)), o_ 18 (.lenl (.t 17)), o_ 19 (.bini .sub (.t 13) (.t 18)), mv 20 1, o_ 21 (.bini .lss (.t 19) (.t 20))]
def A_q138_3 : List AOper := [mv 22 0, mv 23 1, o_ 24 (.call 177 [(.t 22), (.t 23)])]
def A_q138 : ACode := (.seq (.ops A_q138_0) (.seq (.seq (.ops A_q138_1) (.cond (.t 7) .bad .skip)) (.seq (.alts [9, 10, 11, 12, 13, 14, 15, 16, 17, 18, 19, 20, 21] [A_q138_2]) (.cond (.t 21) (.ops A_q138_3) .bad))))
def R_q138 : List ARes := []
def T_q138 : FC := ⟨25, A_q138, R_q138⟩
abbrev F_q139 : Nat := 139
def A_q139_0 : List AOper := [o_ 4 (.mov (i_ 0)), o_ 5 (.mov (.c (.nili)))]
def A_q139_1 : List AOper := [mv 6 0, o_ 7 (.call 176 [(.t 6)])]
def A_q139_2 : List AOper := [mv 8 0, mv 9 0, o_ 10 (.nilc (.t 9)), o_ 11 (.faddr 1 (.t 10)), o_ 12 (.ld1 (.t 11)), mv 13 1, o_ 14 (.app 5 1 1 (.t 12) (.t 13)), o_ 15 (.nilc (.t 8)), o_ 16 (.faddr 1 (.t 15)), n_ (.st 1 (.t 16) (.t 14))]
def A_q139_3 : List AOper := [mv 17 1, o_ 18 (.lens (.t 17)), mv 4 18, o_ 5 (.mov (.c (.nili)))]
def A_q139 : ACode := (.seq (.ops A_q139_0) (.seq (.ops A_q139_1) (.seq (.ops A_q139_2) (.seq (.ops A_q139_3) .ret))))
def R_q139 : List ARes := [.tmp 4, .tmp 5]
def T_q139 : FC := ⟨19, A_q139, R_q139⟩
abbrev F_q140 : Nat := 140
def A_q140_0 : List AOper := [mv 3 0, o_ 4 (.nilc (.t 3)), o_ 5 (.faddr 1 (.t 4)), o_ 6 (.ld1 (.t 5)), o_ 7 (.usd (.t 6)), mv 8 0, o_ 9 (.nilc (.t 8)), o_ 10 (.faddr 1 (.t 9)), o_ 11 (.ld1 (.t 10)), o_ 12 (.lenl (.t 11)), o_ 13 (.ustr 5 (.t 7) (.t 12)), mv 2 13]
def A_q140 : ACode := (.seq (.ops [o_ 2 (.mov (.c (.str [])))]) (.seq (.alts [3, 4, 5, 6, 7, 8, 9, 10, 11, 12, 13, 2] [A_q140_0]) .ret))
def R_q140 : List ARes := [.tmp 2]
def T_q140 : FC := ⟨14, A_q140, R_q140⟩
abbrev F_q141 : Nat := 141
def A_q141_0 : List AOper := [mv 10 1, o_ 11 (.bini .add (.t 10) (i_ 1)), mv 8 11]
def A_q141_1 : List AOper := [mv 12 8, mv 13 2, o_ 14 (.bini .lss (.t 12) (.t 13))]
def A_q141_2 : List AOper := [mv 17 8, mv 9 17]
def A_q141_3 : List AOper := [mv 18 9, mv 19 1, o_ 20 (.bini .gtr (.t 18) (.t 19)), mv 21 20, g_ 22 (.mov (.t 3)) 21, g_ 23 (.mov (.t 0)) 21, g_ 24 (.mov (.t 9)) 21, g_ 25 (.iaddr 138 3 (.t 23) (.t 24)) 21, g_ 26 (.lda 3 (.t 25)) 21, g_ 27 (.mov (.t 0)) 21, g_ 28 (.mov (.t 9)) 21, g_ 29 (.bini .sub (.t 28) (i_ 1)) 21, g_ 30 (.iaddr 138 3 (.t 27) (.t 29)) 21, g_ 31 (.lda 3 (.t 30)) 21, g_ 32 (.callv (.t 22) [(.t 26), (.t 31)]) 21, g_ 33 (.bini .lss (.t 32) (i_ 0)) 21, o_ 34 (.pick (.t 21) (.t 33) (.c (.bool false)))]
def A_q141_4 : ACode := (.seq (.seq (.alts [18, 19, 20, 21, 22, 23, 24, 25, 26, 27, 28, 29, 30, 31, 32, 33, 34] [A_q141_3]) (.cond (.t 34) .bad (.exit 2))) .bad)
def A_q141_5 : List AOper := [mv 15 8, o_ 16 (.bini .add (.t 15) (i_ 1)), mv 8 16]
def A_q141_6 : ACode := (.seq (.seq (.ops A_q141_1) (.cond (.t 14) .skip (.exit 0))) (.seq (.block 1 (.seq (.ops A_q141_2) (.block 2 (.loop A_q141_4)))) (.ops A_q141_5)))
def A_q141 : ACode := (.seq (.ops A_q141_0) (.block 0 (.loop A_q141_6)))
def R_q141 : List ARes := []
def T_q141 : FC := ⟨53, A_q141, R_q141⟩
abbrev F_q156 : Nat := 156
def A_q156_0 : List AOper := [mv 3 0, mv 4 0, o_ 5 (.bini .neq (.t 3) (.t 4)), mv 2 5]
def A_q156 : ACode := (.seq (.ops [o_ 2 (.mov (.c (.bool false)))]) (.seq (.ops A_q156_0) .ret))
def R_q156 : List ARes := [.tmp 2]
def T_q156 : FC := ⟨6, A_q156, R_q156⟩
abbrev F_q158 : Nat := 158
def A_q158_0 : List AOper := [mv 3 0, o_ 4 (.bini .geq (.t 3) (.c (.int .u8 (48)))), mv 5 4, g_ 6 (.mov (.t 0)) 5, g_ 7 (.bini .leq (.t 6) (.c (.int .u8 (57)))) 5, o_ 8 (.pick (.t 5) (.t 7) (.c (.bool false))), mv 2 8]
def A_q158 : ACode := (.seq (.ops [o_ 2 (.mov (.c (.bool false)))]) (.seq (.ops A_q158_0) .ret))
def R_q158 : List ARes := [.tmp 2]
def T_q158 : FC := ⟨9, A_q158, R_q158⟩
abbrev F_q159 : Nat := 159
def A_q159_0 : List AOper := [mv 3 0, o_ 4 (.bini .geq (.t 3) (.c (.int .u8 (97)))), mv 5 4, g_ 6 (.mov (.t 0)) 5, g_ 7 (.bini .leq (.t 6) (.c (.int .u8 (122)))) 5, o_ 8 (.pick (.t 5) (.t 7) (.c (.bool false))), mv 2 8]
def A_q159 : ACode := (.seq (.ops [o_ 2 (.mov (.c (.bool false)))]) (.seq (.ops A_q159_0) .ret))
def R_q159 : List ARes := [.tmp 2]
def T_q159 : FC := ⟨9, A_q159, R_q159⟩
abbrev F_q160 : Nat := 160
def A_q160_0 : List AOper := [mv 3 0, o_ 4 (.bini .geq (.t 3) (.c (.int .u8 (65)))), mv 5 4, g_ 6 (.mov (.t 0)) 5, g_ 7 (.bini .leq (.t 6) (.c (.int .u8 (90)))) 5, o_ 8 (.pick (.t 5) (.t 7) (.c (.bool false))), mv 2 8]
def A_q160 : ACode := (.seq (.ops [o_ 2 (.mov (.c (.bool false)))]) (.seq (.ops A_q160_0) .ret))
def R_q160 : List ARes := [.tmp 2]
def T_q160 : FC := ⟨9, A_q160, R_q160⟩
abbrev F_q161 : Nat := 161
def A_q161_0 : List AOper := [mv 3 0, o_ 4 (.bini .geq (.t 3) (.c (.int .i32 (1)))), mv 5 4, g_ 6 (.mov (.t 0)) 5, g_ 7 (.bini .leq (.t 6) (.c (.int .i32 (536870911)))) 5, o_ 8 (.pick (.t 5) (.t 7) (.c (.bool false))), mv 9 8, g_ 10 (.mov (.t 0)) 9, g_ 11 (.bini .lss (.t 10) (.c (.int .i32 (19000)))) 9, g_ 12 (.mov (.t 11)) 9, ⟨some 13, .mov (.t 0), some (12, false)⟩, ⟨some 14, .bini .gtr (.t 13) (.c (.int .i32 (19999))), some (12, false)⟩, g_ 15 (.pick (.t 12) (.c (.bool true)) (.t 14)) 9, o_ 16 (.pick (.t 9) (.t 15) (.c (.bool false))), mv 2 16]
def A_q161 : ACode := (.seq (.ops [o_ 2 (.mov (.c (.bool false)))]) (.seq (.ops A_q161_0) .ret))
def R_q161 : List ARes := [.tmp 2]
def T_q161 : FC := ⟨17, A_q161, R_q161⟩
abbrev F_q162 : Nat := 162
def A_q162_0 : List AOper := [o_ 2 (.box 41 9 (.t 0)), o_ 3 (.mov (.c (.bool false)))]
def A_q162_1 : List AOper := [o_ 4 (.faddr 1 (.t 2)), o_ 5 (.ld1 (.t 4)), o_ 6 (.faddr 1 (.t 1)), o_ 7 (.ld1 (.t 6)), o_ 8 (.bini .eql (.t 5) (.t 7)), mv 3 8]
def A_q162 : ACode := (.seq (.ops A_q162_0) (.seq (.ops A_q162_1) .ret))
def R_q162 : List ARes := [.tmp 3]
def T_q162 : FC := ⟨9, A_q162, R_q162⟩
abbrev F_q163 : Nat := 163
def A_q163_0 : List AOper := [mv 3 0, o_ 4 (.bini .geq (.t 3) (.c (.int .u8 (1)))), mv 5 4, g_ 6 (.mov (.t 0)) 5, g_ 7 (.bini .leq (.t 6) (.c (.int .u8 (18)))) 5, o_ 8 (.pick (.t 5) (.t 7) (.c (.bool false))), mv 9 8, g_ 10 (.mov (.t 0)) 9, g_ 11 (.bini .neq (.t 10) (.c (.int .u8 (10)))) 9, o_ 12 (.pick (.t 9) (.t 11) (.c (.bool false))), mv 2 12]
def A_q163 : ACode := (.seq (.ops [o_ 2 (.mov (.c (.bool false)))]) (.seq (.ops A_q163_0) .ret))
def R_q163 : List ARes := [.tmp 2]
def T_q163 : FC := ⟨13, A_q163, R_q163⟩
abbrev F_q164 : Nat := 164
def A_q164_0 : List AOper := [mv 3 0, o_ 4 (.bini .eql (.t 3) (.c (.int .u8 (0)))), mv 5 4, ⟨some 6, .mov (.t 0), some (5, false)⟩, ⟨some 7, .bini .eql (.t 6) (.c (.int .u8 (11))), some (5, false)⟩, o_ 8 (.pick (.t 5) (.c (.bool true)) (.t 7)), mv 9 8, ⟨some 10, .mov (.t 0), some (9, false)⟩, ⟨some 11, .bini .eql (.t 10) (.c (.int .u8 (14))), some (9, false)⟩, o_ 12 (.pick (.t 9) (.c (.bool true)) (.t 11)), mv 2 12]
def A_q164 : ACode := (.seq (.ops [o_ 2 (.mov (.c (.bool false)))]) (.seq (.ops A_q164_0) .ret))
def R_q164 : List ARes := [.tmp 2]
def T_q164 : FC := ⟨13, A_q164, R_q164⟩
abbrev F_q168 : Nat := 168
def A_q168_0 : List AOper := [mv 7 0, o_ 8 (.rngs (.t 7))]
def A_q168_1 : List AOper := [o_ 9 (.nxs (.t 8)), o_ 10 (.ext 0 (.t 9))]
def A_q168_2 : ACode := (.seq (.ops A_q168_1) (.seq (.cond (.t 10) .bad (.exit 0)) .bad))
def A_q168 : ACode := (.seq (.ops [o_ 2 (.mov (i_ 0))]) (.seq (.seq (.ops A_q168_0) (.block 0 (.loop A_q168_2))) (.seq (.ops [o_ 2 (.mov (i_ (-1)))]) .ret)))
def R_q168 : List ARes := [.tmp 2]
def T_q168 : FC := ⟨25, A_q168, R_q168⟩
abbrev F_q169 : Nat := 169
def A_q169_0 : List AOper := [mv 5 0, mv 6 1, o_ 7 (.call 187 [(.t 5), (.t 6)]), o_ 8 (.bini .geq (.t 7) (i_ 0)), mv 4 8]
def A_q169 : ACode := (.seq (.ops [o_ 4 (.mov (.c (.bool false)))]) (.seq (.ops A_q169_0) .ret))
def R_q169 : List ARes := [.tmp 4]
def T_q169 : FC := ⟨9, A_q169, R_q169⟩
abbrev F_q170 : Nat := 170
def A_q170_0 : List AOper := [o_ 1 (.box 41 9 (.t 0)), o_ 2 (.mov (.c (.str [])))]
def A_q170_1 : List AOper := [o_ 3 (.faddr 8 (.t 1)), o_ 4 (.ld1 (.t 3)), o_ 5 (.bins .neq (.t 4) (.c (.str [])))]
def A_q170_2 : List AOper := [o_ 8 (.faddr 0 (.t 1)), o_ 9 (.ld1 (.t 8)), o_ 10 (.call 189 [(.t 9)]), mv 2 10]
def A_q170 : ACode := (.seq (.ops A_q170_0) (.seq (.seq (.ops A_q170_1) (.cond (.t 5) .bad .skip)) (.seq (.ops A_q170_2) .ret)))
def R_q170 : List ARes := [.tmp 2]
def T_q170 : FC := ⟨11, A_q170, R_q170⟩
abbrev F_q171 : Nat := 171
def A_q171_0 : List AOper := [mv 6 0, o_ 7 (.lenl (.t 6)), o_ 8 (.mov (i_ 0))]
def A_q171_1 : List AOper := [mv 10 8, mv 5 10]
def A_q171_2 : List AOper := [mv 11 1, mv 12 0, mv 13 5, o_ 14 (.iaddr 41 9 (.t 12) (.t 13)), o_ 15 (.lda 9 (.t 14)), o_ 16 (.callv (.t 11) [(.t 15)])]
def A_q171_3 : List AOper := [mv 17 5, mv 4 17]
def A_q171_4 : List AOper := [o_ 18 (.bini .add (.t 8) (i_ 1)), mv 8 18]
def A_q171_5 : ACode := (.seq (.ops [o_ 9 (.bini .lss (.t 8) (.t 7))]) (.seq (.cond (.t 9) .skip (.exit 0)) (.seq (.block 1 (.seq (.ops A_q171_1) (.seq (.ops A_q171_2) (.cond (.t 16) (.seq (.ops A_q171_3) .ret) .skip)))) (.ops A_q171_4))))
def A_q171 : ACode := (.seq (.ops [o_ 4 (.mov (i_ 0))]) (.seq (.seq (.ops A_q171_0) (.block 0 (.loop A_q171_5))) (.seq (.ops [o_ 4 (.mov (i_ (-1)))]) .ret)))
def R_q171 : List ARes := [.tmp 4]
def T_q171 : FC := ⟨19, A_q171, R_q171⟩
abbrev F_q172 : Nat := 172
def A_q172_0 : List AOper := [mv 5 0, mv 6 1, o_ 7 (.call 190 [(.t 5), (.t 6)]), o_ 8 (.bini .geq (.t 7) (i_ 0)), mv 4 8]
def A_q172 : ACode := (.seq (.ops [o_ 4 (.mov (.c (.bool false)))]) (.seq (.ops A_q172_0) .ret))
def R_q172 : List ARes := [.tmp 4]
def T_q172 : FC := ⟨9, A_q172, R_q172⟩
abbrev F_q176 : Nat := 176
def A_q176_0 : List AOper := [mv 2 0, o_ 3 (.nilc (.t 2)), o_ 4 (.faddr 0 (.t 3)), o_ 5 (.ld1 (.t 4)), o_ 6 (.isnil .pt false (.t 5))]
def A_q176_1 : List AOper := [mv 7 0, mv 8 0, o_ 9 (.upc (.t 8)), mv 10 9, o_ 11 (.upt 243 (.t 10)), o_ 12 (.nilc (.t 7)), o_ 13 (.faddr 0 (.t 12)), n_ (.st 1 (.t 13) (.t 11))]
def A_q176_2 : List AOper := [mv 14 0, o_ 15 (.nilc (.t 14)), o_ 16 (.faddr 0 (.t 15)), o_ 17 (.ld1 (.t 16)), mv 18 0, o_ 19 (.peq true (.t 17) (.t 18))]
def A_q176 : ACode := (.seq (.ops A_q176_0) (.cond (.t 6) (.ops A_q176_1) (.seq (.ops A_q176_2) (.cond (.t 19) .bad .skip))))
def R_q176 : List ARes := []
def T_q176 : FC := ⟨20, A_q176, R_q176⟩
abbrev F_q177 : Nat := 177
def A_q177_0 : List AOper := [mv 5 0, o_ 6 (.nilc (.t 5)), o_ 7 (.faddr 1 (.t 6)), o_ 8 (.ld1 (.t 7)), o_ 9 (.capk (.t 8)), o_ 10 (.bini .mul (i_ 2) (.t 9)), mv 11 1, o_ 12 (.bini .add (.t 10) (.t 11)), mv 14 0, o_ 15 (.nilc (.t 14)), o_ 16 (.faddr 1 (.t 15)), o_ 17 (.ld1 (.t 16)), o_ 18 (.lenl (.t 17)), o_ 13 (.mnz 5 (.t 12)), o_ 19 (.slcl 5 1 (.t 13) none (some (.t 18)) none), mv 4 19]
def A_q177_1 : List AOper := [mv 20 4, mv 21 0, o_ 22 (.nilc (.t 21)), o_ 23 (.faddr 1 (.t 22)), o_ 24 (.ld1 (.t 23)), o_ 25 (.cpy 5 1 (.t 20) (.t 24))]
def A_q177_2 : List AOper := [mv 26 0, mv 27 4, o_ 28 (.nilc (.t 26)), o_ 29 (.faddr 1 (.t 28)), n_ (.st 1 (.t 29) (.t 27))]
def A_q177 : ACode := (.seq (.alts [5, 6, 7, 8, 9, 10, 11, 12, 13, 14, 15, 16, 17, 18, 19, 4] [A_q177_0]) (.seq (.ops A_q177_1) (.ops A_q177_2)))
def R_q177 : List ARes := []
def T_q177 : FC := ⟨30, A_q177, R_q177⟩
abbrev F_q187 : Nat := 187
def A_q187_0 : List AOper := [mv 5 0, mv 6 1, o_ 7 (.call 199 [(.t 5), (.t 6)]), mv 4 7]
def A_q187 : ACode := (.seq (.ops [o_ 4 (.mov (i_ 0))]) (.seq (.ops A_q187_0) .ret))
def R_q187 : List ARes := [.tmp 4]
def T_q187 : FC := ⟨8, A_q187, R_q187⟩
abbrev F_q189 : Nat := 189
def A_q189_0 : List AOper := [mv 7 0, o_ 8 (.lens (.t 7)), o_ 9 (.mov (i_ 0))]
def A_q189_1 : List AOper := [mv 11 9, mv 5 11]
def A_q189_2 : List AOper := [mv 12 0, mv 13 5, o_ 14 (.idxs (.t 12) (.t 13)), mv 6 14]
def A_q189_3 : List AOper := [mv 15 6, o_ 16 (.bini .eql (.t 15) (.c (.int .u8 (95))))]
def A_q189_4 : List AOper := [mv 17 4, mv 18 17, g_ 19 (.mov (.t 6)) 18, g_ 20 (.call 159 [(.t 19)]) 18, o_ 21 (.pick (.t 18) (.t 20) (.c (.bool false)))]
def A_q189_5 : List AOper := [mv 24 6, o_ 25 (.call 201 [(.t 3), (.t 24)])]
def A_q189_6 : List AOper := [o_ 26 (.bini .add (.t 9) (i_ 1)), mv 9 26]
def A_q189_7 : ACode := (.seq (.ops [o_ 10 (.bini .lss (.t 9) (.t 8))]) (.seq (.cond (.t 10) .skip (.exit 0)) (.seq (.block 1 (.seq (.ops A_q189_1) (.seq (.ops A_q189_2) (.seq (.seq (.ops A_q189_3) (.cond (.t 16) .bad .skip)) (.seq (.seq (.ops A_q189_4) (.cond (.t 21) .bad .skip)) (.seq (.ops A_q189_5) (.ops [o_ 4 (.mov (.c (.bool false)))]))))))) (.ops A_q189_6))))
def A_q189_8 : List AOper := [o_ 27 (.call 140 [(.t 3)]), mv 2 27]
def A_q189 : ACode := (.seq (.ops [o_ 2 (.mov (.c (.str [])))]) (.seq (.ops [o_ 3 (.box 243 2 (.c (.agg [.nilp, .nils])))]) (.seq (.ops [o_ 4 (.mov (.c (.bool false)))]) (.seq (.seq (.ops A_q189_0) (.block 0 (.loop A_q189_7))) (.seq (.ops A_q189_8) .ret)))))
def R_q189 : List ARes := [.tmp 2]
def T_q189 : FC := ⟨28, A_q189, R_q189⟩
abbrev F_q190 : Nat := 190
def A_q190_0 : List AOper := [mv 6 0, o_ 7 (.lenl (.t 6)), o_ 8 (.mov (i_ 0))]
def A_q190_1 : ACode := (.seq (.ops [o_ 9 (.bini .lss (.t 8) (.t 7))]) (.seq (.cond (.t 9) .bad (.exit 0)) .bad))
def A_q190 : ACode := (.seq (.ops [o_ 4 (.mov (i_ 0))]) (.seq (.seq (.ops A_q190_0) (.block 0 (.loop A_q190_1))) (.seq (.ops [o_ 4 (.mov (i_ (-1)))]) .ret)))
def R_q190 : List ARes := [.tmp 4]
def T_q190 : FC := ⟨19, A_q190, R_q190⟩
abbrev F_q199 : Nat := 199
def A_q199_0 : List AOper := [mv 14 1, o_ 15 (.lens (.t 14)), mv 5 15]
def A_q199_1 : List AOper := [mv 17 5, o_ 18 (.bini .eql (.t 17) (i_ 0)), mv 19 18, ⟨some 20, .mov (.t 1), some (19, false)⟩, ⟨some 21, .mov (.t 0), some (19, false)⟩, ⟨some 22, .bins .eql (.t 20) (.t 21), some (19, false)⟩, o_ 23 (.pick (.t 19) (.c (.bool true)) (.t 22)), mv 16 23]
def A_q199_2 : List AOper := [mv 25 5, o_ 26 (.bini .eql (.t 25) (i_ 1)), mv 24 26]
def A_q199_3 : List AOper := [mv 27 0, mv 28 1, o_ 29 (.idxs (.t 28) (i_ 0)), o_ 30 (.call 202 [(.t 27), (.t 29)]), mv 4 30]
def A_q199_4 : List AOper := [mv 48 1, o_ 49 (.idxs (.t 48) (i_ 0)), mv 6 49]
def A_q199_5 : List AOper := [mv 50 1, o_ 51 (.idxs (.t 50) (i_ 1)), mv 7 51]
def A_q199_6 : List AOper := [mv 52 0, o_ 53 (.lens (.t 52)), mv 54 5, o_ 55 (.bini .sub (.t 53) (.t 54)), o_ 56 (.bini .add (.t 55) (i_ 1)), mv 9 56]
def A_q199_7 : List AOper := [mv 57 8, mv 58 9, o_ 59 (.bini .lss (.t 57) (.t 58))]
def A_q199_8 : ACode := (.seq (.seq (.ops A_q199_7) (.cond (.t 59) .bad .bad)) .bad)
def A_q199 : ACode := (.seq (.ops [o_ 4 (.mov (i_ 0))]) (.seq (.ops A_q199_0) (.seq (.block 0 (.seq (.ops A_q199_1) (.cond (.t 16) .bad (.seq (.ops A_q199_2) (.cond (.t 24) (.seq (.ops A_q199_3) .ret) .bad))))) (.seq (.ops A_q199_4) (.seq (.ops A_q199_5) (.seq (.ops [o_ 8 (.mov (i_ 0))]) (.seq (.ops A_q199_6) (.seq (.ops [o_ 10 (.mov (i_ 0))]) (.seq (.block 1 (.loop A_q199_8)) (.seq (.ops [o_ 4 (.mov (i_ (-1)))]) .ret))))))))))
def R_q199 : List ARes := [.tmp 4]
def T_q199 : FC := ⟨143, A_q199, R_q199⟩
abbrev F_q201 : Nat := 201
def A_q201_0 : List AOper := [mv 5 0, o_ 6 (.call 176 [(.t 5)])]
def A_q201_1 : List AOper := [mv 7 0, mv 8 0, o_ 9 (.nilc (.t 8)), o_ 10 (.faddr 1 (.t 9)), o_ 11 (.ld1 (.t 10)), mv 12 1, o_ 13 (.bslice 5 1 1 [.int .u8 (0)] [(0, 1, (.t 12))]), o_ 14 (.app 5 1 1 (.t 11) (.t 13)), o_ 15 (.nilc (.t 7)), o_ 16 (.faddr 1 (.t 15)), n_ (.st 1 (.t 16) (.t 14))]
def A_q201 : ACode := (.seq (.ops [o_ 4 (.mov (.c (.nili)))]) (.seq (.ops A_q201_0) (.seq (.ops A_q201_1) (.seq (.ops [o_ 4 (.mov (.c (.nili)))]) .ret))))
def R_q201 : List ARes := [.tmp 4]
def T_q201 : FC := ⟨17, A_q201, R_q201⟩
abbrev F_q202 : Nat := 202
def A_q202_0 : List AOper := [mv 5 0, mv 6 1, o_ 7 (.xindex (.t 5) (.t 6)), mv 4 7]
def A_q202 : ACode := (.seq (.ops [o_ 4 (.mov (i_ 0))]) (.seq (.ops A_q202_0) .ret))
def R_q202 : List ARes := [.tmp 4]
def T_q202 : FC := ⟨8, A_q202, R_q202⟩
abbrev F_q224 : Nat := 224
def A_q224_0 : List AOper := [o_ 4 (.mov (.c (.nilp))), o_ 5 (.mov (i_ 0))]
def A_q224_1 : List AOper := [mv 9 0, o_ 10 (.nilc (.t 9)), o_ 11 (.faddr 0 (.t 10)), o_ 12 (.call 225 [(.t 11)])]
def A_q224_2 : List AOper := [mv 13 0, o_ 14 (.nilc (.t 13)), o_ 15 (.faddr 0 (.t 14))]
def A_q224_3 : List AOper := [mv 16 0, o_ 17 (.nilc (.t 16)), o_ 18 (.faddr 3 (.t 17)), o_ 19 (.ld1 (.t 18)), mv 20 1, o_ 21 (.mlook .s (.nilp) false (.t 19) (.t 20)), mv 6 21]
def A_q224_4 : List AOper := [mv 22 6, o_ 23 (.isnil .pt true (.t 22))]
def A_q224_5 : List AOper := [mv 24 6, mv 4 24, o_ 5 (.mov (i_ 0))]
def A_q224_6 : List AOper := [mv 26 0, o_ 27 (.nilc (.t 26)), o_ 28 (.faddr 2 (.t 27)), o_ 29 (.ld1 (.t 28)), mv 30 1, o_ 31 (.call 227 [(.t 29), (.t 30)]), mv 25 31, o_ 32 (.ext 0 (.t 25)), o_ 33 (.ext 1 (.t 25)), mv 7 32, mv 8 33]
def A_q224_7 : List AOper := [mv 34 8, o_ 35 (.bini .eql (.t 34) (i_ 0))]
def A_q224_8 : List AOper := [mv 36 0, o_ 37 (.nilc (.t 36)), o_ 38 (.faddr 3 (.t 37)), o_ 39 (.ld1 (.t 38)), mv 40 1, mv 41 7, n_ (.mupd .s (.t 39) (.t 40) (.t 41))]
def A_q224_9 : List AOper := [mv 42 7, mv 43 8, mv 4 42, mv 5 43]
def A_q224 : ACode := (.seq (.ops A_q224_0) (.seq (.ops A_q224_1) (.seq (.seq (.ops A_q224_2) (.dfr (.f 226) [(.t 15)])) (.seq (.seq (.ops A_q224_3) (.seq (.ops A_q224_4) (.cond (.t 23) (.seq (.ops A_q224_5) .ret) .skip))) (.seq (.ops A_q224_6) (.seq (.seq (.ops A_q224_7) (.cond (.t 35) (.ops A_q224_8) .skip)) (.seq (.ops A_q224_9) .ret)))))))
def R_q224 : List ARes := [.tmp 4, .tmp 5]
def T_q224 : FC := ⟨44, A_q224, R_q224⟩
abbrev F_q225 : Nat := 225
def A_q225_0 : List AOper := [mv 2 0, o_ 3 (.nilc (.t 2)), o_ 4 (.faddr 0 (.t 3)), o_ 5 (.call 228 [(.t 4)])]
def A_q225 : ACode := (.ops A_q225_0)
def R_q225 : List ARes := []
def T_q225 : FC := ⟨6, A_q225, R_q225⟩
abbrev F_q226 : Nat := 226
def A_q226_0 : List AOper := [mv 2 0, o_ 3 (.nilc (.t 2)), o_ 4 (.faddr 0 (.t 3)), o_ 5 (.call 229 [(.t 4)])]
def A_q226 : ACode := (.ops A_q226_0)
def R_q226 : List ARes := []
def T_q226 : FC := ⟨6, A_q226, R_q226⟩
abbrev F_q227 : Nat := 227
def A_q227_0 : List AOper := [o_ 4 (.mov (.c (.nilp))), o_ 5 (.mov (i_ 0))]
def A_q227_1 : List AOper := [mv 14 0, mv 15 1, o_ 16 (.call 230 [(.t 14), (.t 15)]), mv 13 16, o_ 17 (.ext 0 (.t 13)), o_ 18 (.ext 1 (.t 13)), o_ 6 (.box 59 7 (.c (.agg [.str [], .nils, .nils, .nils, .nils, .nils, .nils]))), n_ (.st 7 (.t 6) (.t 17)), mv 7 18]
def A_q227_2 : List AOper := [mv 19 7, o_ 20 (.not (.t 19))]
def A_q227_3 : List AOper := [o_ 4 (.mov (.c (.nilp))), o_ 5 (.mov (i_ 90))]
def A_q227_4 : List AOper := [mv 21 1, o_ 22 (.faddr 2 (.t 6)), o_ 23 (.ld1 (.t 22)), o_ 24 (.call 122 [(.t 23)]), o_ 25 (.mkmap), o_ 26 (.mkmap), o_ 27 (.mkmap), o_ 28 (.build [.str [], .nils, .nils, .nilm, .nilm, .nilm] [(0, 1, (.t 21)), (1, 1, (.t 24)), (3, 1, (.t 25)), (4, 1, (.t 26)), (5, 1, (.t 27))]), o_ 29 (.box 115 6 (.t 28)), mv 8 29]
def A_q227_5 : List AOper := [o_ 30 (.faddr 1 (.t 6)), o_ 31 (.ld1 (.t 30)), o_ 32 (.lenl (.t 31)), o_ 33 (.mov (i_ 0))]
def A_q227_6 : List AOper := [o_ 35 (.iaddr 41 9 (.t 31) (.t 33)), o_ 36 (.lda 9 (.t 35)), o_ 10 (.box 41 9 (.c (.agg [.str [], .int .i32 (0), .int .u8 (0), .int .u8 (0), .str [], .int .u8 (0), .int .i64 (0), .int .u8 (0), .str []]))), n_ (.st 9 (.t 10) (.t 36))]
def A_q227_7 : List AOper := [mv 37 8, mv 38 8, o_ 39 (.nilc (.t 38)), o_ 40 (.faddr 2 (.t 39)), o_ 41 (.ld1 (.t 40)), o_ 42 (.lda 9 (.t 10)), o_ 43 (.acall 231 [(.t 42)]), o_ 44 (.bslice 73 9 1 [.int .i32 (0), .str [], .str [], .int .u8 (0), .int .u8 (0), .int .u8 (0), .bool false, .int .i64 (0), .str []] [(0, 9, (.t 43))]), o_ 45 (.app 73 9 72 (.t 41) (.t 44)), o_ 46 (.nilc (.t 37)), o_ 47 (.faddr 2 (.t 46)), n_ (.st 1 (.t 47) (.t 45))]
def A_q227_8 : List AOper := [o_ 48 (.bini .add (.t 33) (i_ 1)), mv 33 48]
def A_q227_9 : ACode := (.seq (.ops [o_ 34 (.bini .lss (.t 33) (.t 32))]) (.seq (.cond (.t 34) .skip (.exit 0)) (.seq (.block 1 (.seq (.ops A_q227_6) (.alts [37, 38, 39, 40, 41, 42, 43, 44, 45, 46, 47] [A_q227_7]))) (.ops A_q227_8))))
def A_q227_10 : List AOper := [mv 49 8, o_ 50 (.nilc (.t 49)), o_ 51 (.faddr 2 (.t 50)), o_ 52 (.ld1 (.t 51)), o_ 53 (.call 232 [(.t 52), (.f 233)])]
def A_q227_11 : List AOper := [mv 54 8, o_ 55 (.nilc (.t 54)), o_ 56 (.faddr 2 (.t 55)), o_ 57 (.ld1 (.t 56)), o_ 58 (.lenl (.t 57)), o_ 59 (.mov (i_ 0))]
def A_q227_12 : List AOper := [mv 61 59, o_ 62 (.iaddr 73 9 (.t 57) (.t 59)), o_ 63 (.lda 9 (.t 62)), o_ 12 (.box 73 9 (.c (.agg [.int .i32 (0), .str [], .str [], .int .u8 (0), .int .u8 (0), .int .u8 (0), .bool false, .int .i64 (0), .str []]))), mv 11 61, n_ (.st 9 (.t 12) (.t 63))]
def A_q227_13 : List AOper := [mv 64 8, o_ 65 (.nilc (.t 64)), o_ 66 (.faddr 3 (.t 65)), o_ 67 (.ld1 (.t 66)), o_ 68 (.faddr 0 (.t 12)), o_ 69 (.ld1 (.t 68)), mv 70 8, o_ 71 (.nilc (.t 70)), o_ 72 (.faddr 4 (.t 71)), o_ 73 (.ld1 (.t 72)), o_ 74 (.faddr 1 (.t 12)), mv 76 8, o_ 77 (.nilc (.t 76)), o_ 78 (.faddr 5 (.t 77)), o_ 79 (.ld1 (.t 78)), o_ 80 (.faddr 2 (.t 12)), mv 82 11, mv 83 11, mv 84 11, o_ 75 (.ld1 (.t 74)), o_ 81 (.ld1 (.t 80)), o_ 85 (.ment .i (.int .i64 (0)) (.t 67) (.t 69)), o_ 86 (.ext 1 (.t 85)), n_ (.mest (.t 67) (.t 86) (.t 82)), o_ 87 (.ment .s (.int .i64 (0)) (.t 73) (.t 75)), o_ 88 (.ext 1 (.t 87)), n_ (.mest (.t 73) (.t 88) (.t 83)), o_ 89 (.ment .s (.int .i64 (0)) (.t 79) (.t 81)), o_ 90 (.ext 1 (.t 89)), n_ (.mest (.t 79) (.t 90) (.t 84))]
def A_q227_14 : List AOper := [mv 64 8, o_ 65 (.nilc (.t 64)), o_ 66 (.faddr 3 (.t 65)), o_ 67 (.ld1 (.t 66)), o_ 68 (.faddr 0 (.t 12)), o_ 69 (.ld1 (.t 68)), mv 70 8, o_ 71 (.nilc (.t 70)), o_ 72 (.faddr 4 (.t 71)), o_ 73 (.ld1 (.t 72)), o_ 74 (.faddr 1 (.t 12)), mv 76 8, o_ 77 (.nilc (.t 76)), o_ 78 (.faddr 5 (.t 77)), o_ 79 (.ld1 (.t 78)), o_ 80 (.faddr 2 (.t 12)), mv 82 11, mv 83 11, mv 84 11, o_ 75 (.ld1 (.t 74)), o_ 85 (.ment .i (.int .i64 (0)) (.t 67) (.t 69)), o_ 86 (.ext 1 (.t 85)), o_ 81 (.ld1 (.t 80)), n_ (.mest (.t 67) (.t 86) (.t 82)), o_ 87 (.ment .s (.int .i64 (0)) (.t 73) (.t 75)), o_ 88 (.ext 1 (.t 87)), n_ (.mest (.t 73) (.t 88) (.t 83)), o_ 89 (.ment .s (.int .i64 (0)) (.t 79) (.t 81)), o_ 90 (.ext 1 (.t 89)), n_ (.mest (.t 79) (.t 90) (.t 84))]
def A_q227_15 : List AOper := [mv 64 8, o_ 65 (.nilc (.t 64)), o_ 66 (.faddr 3 (.t 65)), o_ 67 (.ld1 (.t 66)), o_ 68 (.faddr 0 (.t 12)), o_ 69 (.ld1 (.t 68)), mv 70 8, o_ 71 (.nilc (.t 70)), o_ 72 (.faddr 4 (.t 71)), o_ 73 (.ld1 (.t 72)), o_ 74 (.faddr 1 (.t 12)), mv 76 8, o_ 77 (.nilc (.t 76)), o_ 78 (.faddr 5 (.t 77)), o_ 79 (.ld1 (.t 78)), o_ 80 (.faddr 2 (.t 12)), mv 82 11, mv 83 11, mv 84 11, o_ 75 (.ld1 (.t 74)), o_ 85 (.ment .i (.int .i64 (0)) (.t 67) (.t 69)), o_ 86 (.ext 1 (.t 85)), n_ (.mest (.t 67) (.t 86) (.t 82)), o_ 81 (.ld1 (.t 80)), o_ 87 (.ment .s (.int .i64 (0)) (.t 73) (.t 75)), o_ 88 (.ext 1 (.t 87)), n_ (.mest (.t 73) (.t 88) (.t 83)), o_ 89 (.ment .s (.int .i64 (0)) (.t 79) (.t 81)), o_ 90 (.ext 1 (.t 89)), n_ (.mest (.t 79) (.t 90) (.t 84))]
def A_q227_16 : List AOper := [mv 64 8, o_ 65 (.nilc (.t 64)), o_ 66 (.faddr 3 (.t 65)), o_ 67 (.ld1 (.t 66)), o_ 68 (.faddr 0 (.t 12)), o_ 69 (.ld1 (.t 68)), mv 70 8, o_ 71 (.nilc (.t 70)), o_ 72 (.faddr 4 (.t 71)), o_ 73 (.ld1 (.t 72)), o_ 74 (.faddr 1 (.t 12)), mv 76 8, o_ 77 (.nilc (.t 76)), o_ 78 (.faddr 5 (.t 77)), o_ 79 (.ld1 (.t 78)), o_ 80 (.faddr 2 (.t 12)), mv 82 11, mv 83 11, mv 84 11, o_ 75 (.ld1 (.t 74)), o_ 85 (.ment .i (.int .i64 (0)) (.t 67) (.t 69)), o_ 86 (.ext 1 (.t 85)), n_ (.mest (.t 67) (.t 86) (.t 82)), o_ 87 (.ment .s (.int .i64 (0)) (.t 73) (.t 75)), o_ 88 (.ext 1 (.t 87)), o_ 81 (.ld1 (.t 80)), n_ (.mest (.t 73) (.t 88) (.t 83)), o_ 89 (.ment .s (.int .i64 (0)) (.t 79) (.t 81)), o_ 90 (.ext 1 (.t 89)), n_ (.mest (.t 79) (.t 90) (.t 84))]
def A_q227_17 : List AOper := [mv 64 8, o_ 65 (.nilc (.t 64)), o_ 66 (.faddr 3 (.t 65)), o_ 67 (.ld1 (.t 66)), o_ 68 (.faddr 0 (.t 12)), o_ 69 (.ld1 (.t 68)), mv 70 8, o_ 71 (.nilc (.t 70)), o_ 72 (.faddr 4 (.t 71)), o_ 73 (.ld1 (.t 72)), o_ 74 (.faddr 1 (.t 12)), mv 76 8, o_ 77 (.nilc (.t 76)), o_ 78 (.faddr 5 (.t 77)), o_ 79 (.ld1 (.t 78)), o_ 80 (.faddr 2 (.t 12)), mv 82 11, mv 83 11, mv 84 11, o_ 75 (.ld1 (.t 74)), o_ 85 (.ment .i (.int .i64 (0)) (.t 67) (.t 69)), o_ 86 (.ext 1 (.t 85)), n_ (.mest (.t 67) (.t 86) (.t 82)), o_ 87 (.ment .s (.int .i64 (0)) (.t 73) (.t 75)), o_ 88 (.ext 1 (.t 87)), n_ (.mest (.t 73) (.t 88) (.t 83)), o_ 81 (.ld1 (.t 80)), o_ 89 (.ment .s (.int .i64 (0)) (.t 79) (.t 81)), o_ 90 (.ext 1 (.t 89)), n_ (.mest (.t 79) (.t 90) (.t 84))]
def A_q227_18 : List AOper := [mv 64 8, o_ 65 (.nilc (.t 64)), o_ 66 (.faddr 3 (.t 65)), o_ 67 (.ld1 (.t 66)), o_ 68 (.faddr 0 (.t 12)), o_ 69 (.ld1 (.t 68)), mv 70 8, o_ 71 (.nilc (.t 70)), o_ 72 (.faddr 4 (.t 71)), o_ 73 (.ld1 (.t 72)), o_ 74 (.faddr 1 (.t 12)), mv 76 8, o_ 77 (.nilc (.t 76)), o_ 78 (.faddr 5 (.t 77)), o_ 79 (.ld1 (.t 78)), o_ 80 (.faddr 2 (.t 12)), mv 82 11, mv 83 11, mv 84 11, o_ 81 (.ld1 (.t 80)), o_ 75 (.ld1 (.t 74)), o_ 85 (.ment .i (.int .i64 (0)) (.t 67) (.t 69)), o_ 86 (.ext 1 (.t 85)), n_ (.mest (.t 67) (.t 86) (.t 82)), o_ 87 (.ment .s (.int .i64 (0)) (.t 73) (.t 75)), o_ 88 (.ext 1 (.t 87)), n_ (.mest (.t 73) (.t 88) (.t 83)), o_ 89 (.ment .s (.int .i64 (0)) (.t 79) (.t 81)), o_ 90 (.ext 1 (.t 89)), n_ (.mest (.t 79) (.t 90) (.t 84))]
def A_q227_19 : List AOper := [mv 64 8, o_ 65 (.nilc (.t 64)), o_ 66 (.faddr 3 (.t 65)), o_ 67 (.ld1 (.t 66)), o_ 68 (.faddr 0 (.t 12)), o_ 69 (.ld1 (.t 68)), mv 70 8, o_ 71 (.nilc (.t 70)), o_ 72 (.faddr 4 (.t 71)), o_ 73 (.ld1 (.t 72)), o_ 74 (.faddr 1 (.t 12)), mv 76 8, o_ 77 (.nilc (.t 76)), o_ 78 (.faddr 5 (.t 77)), o_ 79 (.ld1 (.t 78)), o_ 80 (.faddr 2 (.t 12)), mv 82 11, mv 83 11, mv 84 11, o_ 81 (.ld1 (.t 80)), o_ 85 (.ment .i (.int .i64 (0)) (.t 67) (.t 69)), o_ 86 (.ext 1 (.t 85)), o_ 75 (.ld1 (.t 74)), n_ (.mest (.t 67) (.t 86) (.t 82)), o_ 87 (.ment .s (.int .i64 (0)) (.t 73) (.t 75)), o_ 88 (.ext 1 (.t 87)), n_ (.mest (.t 73) (.t 88) (.t 83)), o_ 89 (.ment .s (.int .i64 (0)) (.t 79) (.t 81)), o_ 90 (.ext 1 (.t 89)), n_ (.mest (.t 79) (.t 90) (.t 84))]
def A_q227_20 : List AOper := [mv 64 8, o_ 65 (.nilc (.t 64)), o_ 66 (.faddr 3 (.t 65)), o_ 67 (.ld1 (.t 66)), o_ 68 (.faddr 0 (.t 12)), o_ 69 (.ld1 (.t 68)), mv 70 8, o_ 71 (.nilc (.t 70)), o_ 72 (.faddr 4 (.t 71)), o_ 73 (.ld1 (.t 72)), o_ 74 (.faddr 1 (.t 12)), mv 76 8, o_ 77 (.nilc (.t 76)), o_ 78 (.faddr 5 (.t 77)), o_ 79 (.ld1 (.t 78)), o_ 80 (.faddr 2 (.t 12)), mv 82 11, mv 83 11, mv 84 11, o_ 81 (.ld1 (.t 80)), o_ 85 (.ment .i (.int .i64 (0)) (.t 67) (.t 69)), o_ 86 (.ext 1 (.t 85)), n_ (.mest (.t 67) (.t 86) (.t 82)), o_ 75 (.ld1 (.t 74)), o_ 87 (.ment .s (.int .i64 (0)) (.t 73) (.t 75)), o_ 88 (.ext 1 (.t 87)), n_ (.mest (.t 73) (.t 88) (.t 83)), o_ 89 (.ment .s (.int .i64 (0)) (.t 79) (.t 81)), o_ 90 (.ext 1 (.t 89)), n_ (.mest (.t 79) (.t 90) (.t 84))]
def A_q227_21 : List AOper := [mv 64 8, o_ 65 (.nilc (.t 64)), o_ 66 (.faddr 3 (.t 65)), o_ 67 (.ld1 (.t 66)), o_ 68 (.faddr 0 (.t 12)), o_ 69 (.ld1 (.t 68)), mv 70 8, o_ 71 (.nilc (.t 70)), o_ 72 (.faddr 4 (.t 71)), o_ 73 (.ld1 (.t 72)), o_ 74 (.faddr 1 (.t 12)), mv 76 8, o_ 77 (.nilc (.t 76)), o_ 78 (.faddr 5 (.t 77)), o_ 79 (.ld1 (.t 78)), o_ 80 (.faddr 2 (.t 12)), mv 82 11, mv 83 11, mv 84 11, o_ 85 (.ment .i (.int .i64 (0)) (.t 67) (.t 69)), o_ 86 (.ext 1 (.t 85)), o_ 75 (.ld1 (.t 74)), o_ 81 (.ld1 (.t 80)), n_ (.mest (.t 67) (.t 86) (.t 82)), o_ 87 (.ment .s (.int .i64 (0)) (.t 73) (.t 75)), o_ 88 (.ext 1 (.t 87)), n_ (.mest (.t 73) (.t 88) (.t 83)), o_ 89 (.ment .s (.int .i64 (0)) (.t 79) (.t 81)), o_ 90 (.ext 1 (.t 89)), n_ (.mest (.t 79) (.t 90) (.t 84))]
def A_q227_22 : List AOper := [mv 64 8, o_ 65 (.nilc (.t 64)), o_ 66 (.faddr 3 (.t 65)), o_ 67 (.ld1 (.t 66)), o_ 68 (.faddr 0 (.t 12)), o_ 69 (.ld1 (.t 68)), mv 70 8, o_ 71 (.nilc (.t 70)), o_ 72 (.faddr 4 (.t 71)), o_ 73 (.ld1 (.t 72)), o_ 74 (.faddr 1 (.t 12)), mv 76 8, o_ 77 (.nilc (.t 76)), o_ 78 (.faddr 5 (.t 77)), o_ 79 (.ld1 (.t 78)), o_ 80 (.faddr 2 (.t 12)), mv 82 11, mv 83 11, mv 84 11, o_ 85 (.ment .i (.int .i64 (0)) (.t 67) (.t 69)), o_ 86 (.ext 1 (.t 85)), o_ 75 (.ld1 (.t 74)), n_ (.mest (.t 67) (.t 86) (.t 82)), o_ 81 (.ld1 (.t 80)), o_ 87 (.ment .s (.int .i64 (0)) (.t 73) (.t 75)), o_ 88 (.ext 1 (.t 87)), n_ (.mest (.t 73) (.t 88) (.t 83)), o_ 89 (.ment .s (.int .i64 (0)) (.t 79) (.t 81)), o_ 90 (.ext 1 (.t 89)), n_ (.mest (.t 79) (.t 90) (.t 84))]
def A_q227_23 : List AOper := [mv 64 8, o_ 65 (.nilc (.t 64)), o_ 66 (.faddr 3 (.t 65)), o_ 67 (.ld1 (.t 66)), o_ 68 (.faddr 0 (.t 12)), o_ 69 (.ld1 (.t 68)), mv 70 8, o_ 71 (.nilc (.t 70)), o_ 72 (.faddr 4 (.t 71)), o_ 73 (.ld1 (.t 72)), o_ 74 (.faddr 1 (.t 12)), mv 76 8, o_ 77 (.nilc (.t 76)), o_ 78 (.faddr 5 (.t 77)), o_ 79 (.ld1 (.t 78)), o_ 80 (.faddr 2 (.t 12)), mv 82 11, mv 83 11, mv 84 11, o_ 85 (.ment .i (.int .i64 (0)) (.t 67) (.t 69)), o_ 86 (.ext 1 (.t 85)), o_ 75 (.ld1 (.t 74)), n_ (.mest (.t 67) (.t 86) (.t 82)), o_ 87 (.ment .s (.int .i64 (0)) (.t 73) (.t 75)), o_ 88 (.ext 1 (.t 87)), o_ 81 (.ld1 (.t 80)), n_ (.mest (.t 73) (.t 88) (.t 83)), o_ 89 (.ment .s (.int .i64 (0)) (.t 79) (.t 81)), o_ 90 (.ext 1 (.t 89)), n_ (.mest (.t 79) (.t 90) (.t 84))]
def A_q227_24 : List AOper := [mv 64 8, o_ 65 (.nilc (.t 64)), o_ 66 (.faddr 3 (.t 65)), o_ 67 (.ld1 (.t 66)), o_ 68 (.faddr 0 (.t 12)), o_ 69 (.ld1 (.t 68)), mv 70 8, o_ 71 (.nilc (.t 70)), o_ 72 (.faddr 4 (.t 71)), o_ 73 (.ld1 (.t 72)), o_ 74 (.faddr 1 (.t 12)), mv 76 8, o_ 77 (.nilc (.t 76)), o_ 78 (.faddr 5 (.t 77)), o_ 79 (.ld1 (.t 78)), o_ 80 (.faddr 2 (.t 12)), mv 82 11, mv 83 11, mv 84 11, o_ 85 (.ment .i (.int .i64 (0)) (.t 67) (.t 69)), o_ 86 (.ext 1 (.t 85)), o_ 75 (.ld1 (.t 74)), n_ (.mest (.t 67) (.t 86) (.t 82)), o_ 87 (.ment .s (.int .i64 (0)) (.t 73) (.t 75)), o_ 88 (.ext 1 (.t 87)), n_ (.mest (.t 73) (.t 88) (.t 83)), o_ 81 (.ld1 (.t 80)), o_ 89 (.ment .s (.int .i64 (0)) (.t 79) (.t 81)), o_ 90 (.ext 1 (.t 89)), n_ (.mest (.t 79) (.t 90) (.t 84))]
def A_q227_25 : List AOper := [mv 64 8, o_ 65 (.nilc (.t 64)), o_ 66 (.faddr 3 (.t 65)), o_ 67 (.ld1 (.t 66)), o_ 68 (.faddr 0 (.t 12)), o_ 69 (.ld1 (.t 68)), mv 70 8, o_ 71 (.nilc (.t 70)), o_ 72 (.faddr 4 (.t 71)), o_ 73 (.ld1 (.t 72)), o_ 74 (.faddr 1 (.t 12)), mv 76 8, o_ 77 (.nilc (.t 76)), o_ 78 (.faddr 5 (.t 77)), o_ 79 (.ld1 (.t 78)), o_ 80 (.faddr 2 (.t 12)), mv 82 11, mv 83 11, mv 84 11, o_ 85 (.ment .i (.int .i64 (0)) (.t 67) (.t 69)), o_ 86 (.ext 1 (.t 85)), o_ 81 (.ld1 (.t 80)), o_ 75 (.ld1 (.t 74)), n_ (.mest (.t 67) (.t 86) (.t 82)), o_ 87 (.ment .s (.int .i64 (0)) (.t 73) (.t 75)), o_ 88 (.ext 1 (.t 87)), n_ (.mest (.t 73) (.t 88) (.t 83)), o_ 89 (.ment .s (.int .i64 (0)) (.t 79) (.t 81)), o_ 90 (.ext 1 (.t 89)), n_ (.mest (.t 79) (.t 90) (.t 84))]
def A_q227_26 : List AOper := [mv 64 8, o_ 65 (.nilc (.t 64)), o_ 66 (.faddr 3 (.t 65)), o_ 67 (.ld1 (.t 66)), o_ 68 (.faddr 0 (.t 12)), o_ 69 (.ld1 (.t 68)), mv 70 8, o_ 71 (.nilc (.t 70)), o_ 72 (.faddr 4 (.t 71)), o_ 73 (.ld1 (.t 72)), o_ 74 (.faddr 1 (.t 12)), mv 76 8, o_ 77 (.nilc (.t 76)), o_ 78 (.faddr 5 (.t 77)), o_ 79 (.ld1 (.t 78)), o_ 80 (.faddr 2 (.t 12)), mv 82 11, mv 83 11, mv 84 11, o_ 85 (.ment .i (.int .i64 (0)) (.t 67) (.t 69)), o_ 86 (.ext 1 (.t 85)), o_ 81 (.ld1 (.t 80)), n_ (.mest (.t 67) (.t 86) (.t 82)), o_ 75 (.ld1 (.t 74)), o_ 87 (.ment .s (.int .i64 (0)) (.t 73) (.t 75)), o_ 88 (.ext 1 (.t 87)), n_ (.mest (.t 73) (.t 88) (.t 83)), o_ 89 (.ment .s (.int .i64 (0)) (.t 79) (.t 81)), o_ 90 (.ext 1 (.t 89)), n_ (.mest (.t 79) (.t 90) (.t 84))]
def A_q227_27 : List AOper := [mv 64 8, o_ 65 (.nilc (.t 64)), o_ 66 (.faddr 3 (.t 65)), o_ 67 (.ld1 (.t 66)), o_ 68 (.faddr 0 (.t 12)), o_ 69 (.ld1 (.t 68)), mv 70 8, o_ 71 (.nilc (.t 70)), o_ 72 (.faddr 4 (.t 71)), o_ 73 (.ld1 (.t 72)), o_ 74 (.faddr 1 (.t 12)), mv 76 8, o_ 77 (.nilc (.t 76)), o_ 78 (.faddr 5 (.t 77)), o_ 79 (.ld1 (.t 78)), o_ 80 (.faddr 2 (.t 12)), mv 82 11, mv 83 11, mv 84 11, o_ 85 (.ment .i (.int .i64 (0)) (.t 67) (.t 69)), o_ 86 (.ext 1 (.t 85)), n_ (.mest (.t 67) (.t 86) (.t 82)), o_ 75 (.ld1 (.t 74)), o_ 81 (.ld1 (.t 80)), o_ 87 (.ment .s (.int .i64 (0)) (.t 73) (.t 75)), o_ 88 (.ext 1 (.t 87)), n_ (.mest (.t 73) (.t 88) (.t 83)), o_ 89 (.ment .s (.int .i64 (0)) (.t 79) (.t 81)), o_ 90 (.ext 1 (.t 89)), n_ (.mest (.t 79) (.t 90) (.t 84))]
def A_q227_28 : List AOper := [mv 64 8, o_ 65 (.nilc (.t 64)), o_ 66 (.faddr 3 (.t 65)), o_ 67 (.ld1 (.t 66)), o_ 68 (.faddr 0 (.t 12)), o_ 69 (.ld1 (.t 68)), mv 70 8, o_ 71 (.nilc (.t 70)), o_ 72 (.faddr 4 (.t 71)), o_ 73 (.ld1 (.t 72)), o_ 74 (.faddr 1 (.t 12)), mv 76 8, o_ 77 (.nilc (.t 76)), o_ 78 (.faddr 5 (.t 77)), o_ 79 (.ld1 (.t 78)), o_ 80 (.faddr 2 (.t 12)), mv 82 11, mv 83 11, mv 84 11, o_ 85 (.ment .i (.int .i64 (0)) (.t 67) (.t 69)), o_ 86 (.ext 1 (.t 85)), n_ (.mest (.t 67) (.t 86) (.t 82)), o_ 75 (.ld1 (.t 74)), o_ 87 (.ment .s (.int .i64 (0)) (.t 73) (.t 75)), o_ 88 (.ext 1 (.t 87)), o_ 81 (.ld1 (.t 80)), n_ (.mest (.t 73) (.t 88) (.t 83)), o_ 89 (.ment .s (.int .i64 (0)) (.t 79) (.t 81)), o_ 90 (.ext 1 (.t 89)), n_ (.mest (.t 79) (.t 90) (.t 84))]
def A_q227_29 : List AOper := [mv 64 8, o_ 65 (.nilc (.t 64)), o_ 66 (.faddr 3 (.t 65)), o_ 67 (.ld1 (.t 66)), o_ 68 (.faddr 0 (.t 12)), o_ 69 (.ld1 (.t 68)), mv 70 8, o_ 71 (.nilc (.t 70)), o_ 72 (.faddr 4 (.t 71)), o_ 73 (.ld1 (.t 72)), o_ 74 (.faddr 1 (.t 12)), mv 76 8, o_ 77 (.nilc (.t 76)), o_ 78 (.faddr 5 (.t 77)), o_ 79 (.ld1 (.t 78)), o_ 80 (.faddr 2 (.t 12)), mv 82 11, mv 83 11, mv 84 11, o_ 85 (.ment .i (.int .i64 (0)) (.t 67) (.t 69)), o_ 86 (.ext 1 (.t 85)), n_ (.mest (.t 67) (.t 86) (.t 82)), o_ 75 (.ld1 (.t 74)), o_ 87 (.ment .s (.int .i64 (0)) (.t 73) (.t 75)), o_ 88 (.ext 1 (.t 87)), n_ (.mest (.t 73) (.t 88) (.t 83)), o_ 81 (.ld1 (.t 80)), o_ 89 (.ment .s (.int .i64 (0)) (.t 79) (.t 81)), o_ 90 (.ext 1 (.t 89)), n_ (.mest (.t 79) (.t 90) (.t 84))]
def A_q227_30 : List AOper := [o_ 91 (.bini .add (.t 59) (i_ 1)), mv 59 91]
def A_q227_31 : ACode := (.seq (.ops [o_ 60 (.bini .lss (.t 59) (.t 58))]) (.seq (.cond (.t 60) .skip (.exit 2)) (.seq (.block 3 (.seq (.ops A_q227_12) (.alts [64, 65, 66, 67, 68, 69, 70, 71, 72, 73, 74, 75, 76, 77, 78, 79, 80, 81, 82, 83, 84, 85, 86, 87, 88, 89, 90] [A_q227_13, A_q227_14, A_q227_15, A_q227_16, A_q227_17, A_q227_18, A_q227_19, A_q227_20, A_q227_21, A_q227_22, A_q227_23, A_q227_24, A_q227_25, A_q227_26, A_q227_27, A_q227_28, A_q227_29]))) (.ops A_q227_30))))
def A_q227_32 : List AOper := [mv 92 8, mv 4 92, o_ 5 (.mov (i_ 0))]
def A_q227 : ACode := (.seq (.ops A_q227_0) (.seq (.ops A_q227_1) (.seq (.seq (.ops A_q227_2) (.cond (.t 20) (.seq (.ops A_q227_3) .ret) .skip)) (.seq (.ops A_q227_4) (.seq (.seq (.ops A_q227_5) (.block 0 (.loop A_q227_9))) (.seq (.ops A_q227_10) (.seq (.seq (.ops A_q227_11) (.block 2 (.loop A_q227_31))) (.seq (.ops A_q227_32) .ret))))))))
def R_q227 : List ARes := [.tmp 4, .tmp 5]
def T_q227 : FC := ⟨93, A_q227, R_q227⟩
abbrev F_q228 : Nat := 228
def A_q228_0 : List AOper := [mv 3 0, o_ 4 (.nilc (.t 3)), o_ 5 (.faddr 0 (.t 4)), o_ 6 (.cas .i32 (.t 5) (.c (.int .i32 (0))) (.c (.int .i32 (1))))]
def A_q228_1 : List AOper := [mv 8 0, o_ 9 (.upc (.t 8)), o_ 10 (.rac (.t 9))]
def A_q228 : ACode := (.seq (.ops [o_ 2 (.mov (.c (.tup [])))]) (.seq (.seq (.ops A_q228_0) (.cond (.t 6) (.seq (.cond (.c (.bool true)) (.seq (.ops [o_ 7 (.mov (.c (.tup [])))]) (.ops A_q228_1)) .bad) .ret) .bad)) .bad))
def R_q228 : List ARes := []
def T_q228 : FC := ⟨13, A_q228, R_q228⟩
abbrev F_q229 : Nat := 229
def A_q229_0 : List AOper := [mv 3 0, o_ 4 (.nilc (.t 3)), o_ 5 (.faddr 0 (.t 4)), o_ 6 (.ld1 (.t 5))]
def A_q229_1 : List AOper := [mv 7 0, o_ 8 (.upc (.t 7)), o_ 9 (.rac (.t 8))]
def A_q229_2 : List AOper := [mv 11 0, o_ 12 (.nilc (.t 11)), o_ 13 (.faddr 0 (.t 12)), o_ 14 (.xadd .i32 (.t 13) (.c (.int .i32 (-1)))), mv 2 14]
def A_q229_3 : List AOper := [mv 15 2, o_ 16 (.bini .neq (.t 15) (.c (.int .i32 (0))))]
def A_q229 : ACode := (.seq (.cond (.c (.bool true)) (.seq (.ops A_q229_0) (.seq (.ops A_q229_1) (.ops [o_ 10 (.mov (.c (.tup [])))]))) .bad) (.seq (.ops A_q229_2) (.seq (.seq (.ops A_q229_3) (.cond (.t 16) .bad .skip)) (.ops [o_ 20 (.mov (.c (.tup [])))]))))
def R_q229 : List ARes := []
def T_q229 : FC := ⟨21, A_q229, R_q229⟩
abbrev F_q230 : Nat := 230
def A_q230_0 : List AOper := [o_ 4 (.box 59 7 (.c (.agg [.str [], .nils, .nils, .nils, .nils, .nils, .nils]))), o_ 5 (.mov (.c (.bool false)))]
def A_q230_1 : List AOper := [mv 9 0, o_ 10 (.nilc (.t 9)), o_ 11 (.faddr 3 (.t 10)), o_ 12 (.ld1 (.t 11)), mv 13 1, o_ 14 (.mlook .s (.agg [.str [], .nils, .nils, .nils, .nils, .nils, .nils]) true (.t 12) (.t 13)), mv 8 14, o_ 15 (.ext 0 (.t 8)), o_ 16 (.ext 1 (.t 8)), o_ 6 (.box 59 7 (.c (.agg [.str [], .nils, .nils, .nils, .nils, .nils, .nils]))), n_ (.st 7 (.t 6) (.t 15)), mv 7 16]
def A_q230_2 : List AOper := [o_ 17 (.lda 7 (.t 6)), o_ 18 (.call 83 [(.t 17)]), mv 19 7, n_ (.st 7 (.t 4) (.t 18)), mv 5 19]
def A_q230 : ACode := (.seq (.ops A_q230_0) (.seq (.ops A_q230_1) (.seq (.ops A_q230_2) .ret)))
def R_q230 : List ARes := [.cella 4 7, .tmp 5]
def T_q230 : FC := ⟨20, A_q230, R_q230⟩
abbrev F_q231 : Nat := 231
def A_q231_0 : List AOper := [o_ 1 (.box 41 9 (.t 0)), o_ 2 (.box 73 9 (.c (.agg [.int .i32 (0), .str [], .str [], .int .u8 (0), .int .u8 (0), .int .u8 (0), .bool false, .int .i64 (0), .str []])))]
def A_q231_1 : List AOper := [o_ 4 (.faddr 1 (.t 1)), o_ 5 (.ld1 (.t 4)), o_ 6 (.faddr 0 (.t 1)), o_ 7 (.ld1 (.t 6)), o_ 8 (.faddr 8 (.t 1)), o_ 9 (.ld1 (.t 8)), o_ 10 (.faddr 0 (.t 1)), o_ 11 (.ld1 (.t 10)), o_ 15 (.faddr 2 (.t 1)), o_ 16 (.ld1 (.t 15)), o_ 17 (.faddr 3 (.t 1)), o_ 18 (.ld1 (.t 17)), o_ 19 (.faddr 5 (.t 1)), o_ 20 (.ld1 (.t 19)), o_ 21 (.faddr 2 (.t 1)), o_ 22 (.ld1 (.t 21)), o_ 23 (.bini .eql (.t 22) (.c (.int .u8 (3)))), o_ 34 (.faddr 6 (.t 1)), o_ 35 (.ld1 (.t 34)), o_ 12 (.acall 189 [(.t 11)]), o_ 13 (.bslice 9 1 2 [.str []] [(0, 1, (.t 9)), (1, 1, (.t 12))]), o_ 14 (.acall 243 [(.t 13)]), mv 24 23, g_ 25 (.faddr 3 (.t 1)) 24, g_ 26 (.ld1 (.t 25)) 24, g_ 27 (.acall 244 [(.t 26)]) 24, o_ 28 (.pick (.t 24) (.t 27) (.c (.bool false))), mv 29 28, g_ 30 (.faddr 7 (.t 1)) 29, g_ 31 (.ld1 (.t 30)) 29, g_ 32 (.bini .neq (.t 31) (.c (.int .u8 (2)))) 29, o_ 33 (.pick (.t 29) (.t 32) (.c (.bool false))), o_ 36 (.build [.int .i32 (0), .str [], .str [], .int .u8 (0), .int .u8 (0), .int .u8 (0), .bool false, .int .i64 (0), .str []] [(0, 1, (.t 5)), (1, 1, (.t 7)), (2, 1, (.t 14)), (3, 1, (.t 16)), (4, 1, (.t 18)), (5, 1, (.t 20)), (6, 1, (.t 33)), (7, 1, (.t 35))]), o_ 3 (.box 73 9 (.c (.agg [.int .i32 (0), .str [], .str [], .int .u8 (0), .int .u8 (0), .int .u8 (0), .bool false, .int .i64 (0), .str []]))), n_ (.st 9 (.t 3) (.t 36))]
def A_q231_2 : List AOper := [o_ 37 (.faddr 3 (.t 1)), o_ 38 (.ld1 (.t 37)), o_ 39 (.bini .eql (.t 38) (.c (.int .u8 (11)))), mv 40 39, ⟨some 41, .faddr 3 (.t 1), some (40, false)⟩, ⟨some 42, .ld1 (.t 41), some (40, false)⟩, ⟨some 43, .bini .eql (.t 42) (.c (.int .u8 (14))), some (40, false)⟩, o_ 44 (.pick (.t 40) (.c (.bool true)) (.t 43))]
def A_q231_3 : List AOper := [o_ 48 (.lda 9 (.t 3)), n_ (.st 9 (.t 2) (.t 48))]
def A_q231 : ACode := (.seq (.ops A_q231_0) (.seq (.alts [4, 5, 6, 7, 8, 9, 10, 11, 12, 13, 14, 15, 16, 17, 18, 19, 20, 21, 22, 23, 24, 25, 26, 27, 28, 29, 30, 31, 32, 33, 34, 35, 36, 3] [A_q231_1]) (.seq (.seq (.ops A_q231_2) (.cond (.t 44) .bad .skip)) (.seq (.ops A_q231_3) .ret))))
def R_q231 : List ARes := [.cella 2 9]
def T_q231 : FC := ⟨49, A_q231, R_q231⟩
abbrev F_q232 : Nat := 232
def A_q232_0 : List AOper := [mv 4 0, mv 5 0, o_ 6 (.lenl (.t 5)), mv 7 1, o_ 8 (.call 245 [(.t 4), (.t 6), (.t 7)])]
def A_q232 : ACode := (.ops A_q232_0)
def R_q232 : List ARes := []
def T_q232 : FC := ⟨9, A_q232, R_q232⟩
abbrev F_q233 : Nat := 233
def A_q233_0 : List AOper := [o_ 2 (.box 73 9 (.t 0)), o_ 3 (.box 73 9 (.t 1)), o_ 4 (.mov (i_ 0))]
def A_q233_1 : List AOper := [o_ 5 (.faddr 0 (.t 2)), o_ 6 (.ld1 (.t 5)), o_ 7 (.faddr 0 (.t 3)), o_ 8 (.ld1 (.t 7)), o_ 9 (.call 234 [(.t 6), (.t 8)]), mv 4 9]
def A_q233 : ACode := (.seq (.ops A_q233_0) (.seq (.ops A_q233_1) .ret))
def R_q233 : List ARes := [.tmp 4]
def T_q233 : FC := ⟨10, A_q233, R_q233⟩
abbrev F_q234 : Nat := 234
def A_q234_0 : List AOper := [mv 7 0, o_ 8 (.call 156 [(.t 7)]), mv 5 8]
def A_q234_1 : List AOper := [mv 9 1, o_ 10 (.call 156 [(.t 9)]), mv 6 10]
def A_q234_2 : List AOper := [mv 14 0, mv 15 1, o_ 16 (.bini .lss (.t 14) (.t 15))]
def A_q234_3 : List AOper := [mv 17 0, mv 18 1, o_ 19 (.bini .gtr (.t 17) (.t 18))]
def A_q234 : ACode := (.seq (.ops [o_ 4 (.mov (i_ 0))]) (.seq (.ops A_q234_0) (.seq (.ops A_q234_1) (.seq (.seq (.ops [mv 11 5]) (.cond (.t 11) .bad .skip)) (.seq (.seq (.ops [mv 13 6]) (.cond (.t 13) .bad .skip)) (.seq (.seq (.ops A_q234_2) (.cond (.t 16) .bad .skip)) (.seq (.seq (.ops A_q234_3) (.cond (.t 19) (.seq (.ops [o_ 4 (.mov (i_ 1))]) .ret) .bad)) .bad)))))))
def R_q234 : List ARes := [.tmp 4]
def T_q234 : FC := ⟨20, A_q234, R_q234⟩
abbrev F_q243 : Nat := 243
def A_q243_0 : List AOper := [mv 6 0, o_ 7 (.lenl (.t 6)), o_ 8 (.mov (i_ 0))]
def A_q243_1 : List AOper := [o_ 10 (.iaddr 9 1 (.t 6) (.t 8)), o_ 11 (.ld1 (.t 10)), mv 5 11]
def A_q243_2 : List AOper := [mv 12 5, mv 13 3, o_ 14 (.bins .neq (.t 12) (.t 13))]
def A_q243_3 : List AOper := [mv 15 5, mv 2 15]
def A_q243_4 : List AOper := [o_ 16 (.bini .add (.t 8) (i_ 1)), mv 8 16]
def A_q243_5 : ACode := (.seq (.ops [o_ 9 (.bini .lss (.t 8) (.t 7))]) (.seq (.cond (.t 9) .skip .bad) (.seq (.block 1 (.seq (.ops A_q243_1) (.seq (.ops A_q243_2) (.cond (.t 14) (.seq (.ops A_q243_3) .ret) .skip)))) (.ops A_q243_4))))
def A_q243_6 : List AOper := [mv 17 3, mv 2 17]
def A_q243 : ACode := (.seq (.ops [o_ 2 (.mov (.c (.str [])))]) (.seq (.ops [o_ 3 (.mov (.c (.str [])))]) (.seq (.seq (.ops A_q243_0) (.block 0 (.loop A_q243_5))) (.seq (.ops A_q243_6) .ret))))
def R_q243 : List ARes := [.tmp 2]
def T_q243 : FC := ⟨18, A_q243, R_q243⟩
abbrev F_q244 : Nat := 244
def A_q244_0 : List AOper := [mv 3 0, o_ 4 (.bini .neq (.t 3) (.c (.int .u8 (9)))), mv 5 4, g_ 6 (.mov (.t 0)) 5, g_ 7 (.bini .neq (.t 6) (.c (.int .u8 (12)))) 5, o_ 8 (.pick (.t 5) (.t 7) (.c (.bool false))), mv 9 8, g_ 10 (.mov (.t 0)) 9, g_ 11 (.bini .neq (.t 10) (.c (.int .u8 (11)))) 9, o_ 12 (.pick (.t 9) (.t 11) (.c (.bool false))), mv 2 12]
def A_q244 : ACode := (.seq (.ops [o_ 2 (.mov (.c (.bool false)))]) (.seq (.ops A_q244_0) .ret))
def R_q244 : List ARes := [.tmp 2]
def T_q244 : FC := ⟨13, A_q244, R_q244⟩
abbrev F_q245 : Nat := 245
def A_q245_0 : List AOper := [mv 10 6, o_ 7 (.mov (i_ 0)), mv 8 10]
def A_q245_1 : List AOper := [mv 11 8, mv 12 1, o_ 13 (.bini .leq (.t 11) (.t 12))]
def A_q245_2 : ACode := (.seq (.seq (.ops A_q245_1) (.cond (.t 13) .bad (.exit 0))) .bad)
def A_q245_3 : List AOper := [mv 23 0, mv 24 7, mv 25 1, mv 26 2, o_ 27 (.call 253 [(.t 23), (.t 24), (.t 25), (.t 26)])]
def A_q245_4 : List AOper := [mv 28 6, mv 29 1, o_ 30 (.bini .lss (.t 28) (.t 29))]
def A_q245_5 : ACode := (.seq (.seq (.ops A_q245_4) (.cond (.t 30) .bad (.exit 2))) .bad)
def A_q245 : ACode := (.seq (.ops [o_ 6 (.mov (i_ 20))]) (.seq (.ops A_q245_0) (.seq (.block 0 (.loop A_q245_2)) (.seq (.ops A_q245_3) (.block 2 (.loop A_q245_5))))))
def R_q245 : List ARes := []
def T_q245 : FC := ⟨63, A_q245, R_q245⟩
abbrev F_q253 : Nat := 253
def A_q253_0 : List AOper := [mv 10 1, o_ 11 (.bini .add (.t 10) (i_ 1)), mv 8 11]
def A_q253_1 : List AOper := [mv 12 8, mv 13 2, o_ 14 (.bini .lss (.t 12) (.t 13))]
def A_q253_2 : List AOper := [mv 17 8, mv 9 17]
def A_q253_3 : List AOper := [mv 18 9, mv 19 1, o_ 20 (.bini .gtr (.t 18) (.t 19)), mv 21 20, g_ 22 (.mov (.t 3)) 21, g_ 23 (.mov (.t 0)) 21, g_ 24 (.mov (.t 9)) 21, g_ 25 (.iaddr 73 9 (.t 23) (.t 24)) 21, g_ 26 (.lda 9 (.t 25)) 21, g_ 27 (.mov (.t 0)) 21, g_ 28 (.mov (.t 9)) 21, g_ 29 (.bini .sub (.t 28) (i_ 1)) 21, g_ 30 (.iaddr 73 9 (.t 27) (.t 29)) 21, g_ 31 (.lda 9 (.t 30)) 21, g_ 32 (.callv (.t 22) [(.t 26), (.t 31)]) 21, g_ 33 (.bini .lss (.t 32) (i_ 0)) 21, o_ 34 (.pick (.t 21) (.t 33) (.c (.bool false)))]
def A_q253_4 : ACode := (.seq (.seq (.alts [18, 19, 20, 21, 22, 23, 24, 25, 26, 27, 28, 29, 30, 31, 32, 33, 34] [A_q253_3]) (.cond (.t 34) .bad (.exit 2))) .bad)
def A_q253_5 : List AOper := [mv 15 8, o_ 16 (.bini .add (.t 15) (i_ 1)), mv 8 16]
def A_q253_6 : ACode := (.seq (.seq (.ops A_q253_1) (.cond (.t 14) .skip (.exit 0))) (.seq (.block 1 (.seq (.ops A_q253_2) (.block 2 (.loop A_q253_4)))) (.ops A_q253_5)))
def A_q253 : ACode := (.seq (.ops A_q253_0) (.block 0 (.loop A_q253_6)))
def R_q253 : List ARes := []
def T_q253 : FC := ⟨53, A_q253, R_q253⟩
end Go.Proofs.YtcpjeocepolecaaGreatDoor

/- The table of the codes; the run of the law, computed by the kernel (of whatever program has these codes). Printed by program (gen_all.py). -/
namespace Go.Proofs.YtcpjeocepolecaaGreatDoor
open Go.L
set_option maxRecDepth 100000
def Codes : Tr FC := (.node (.node (.node (.node (.node (.node (.node (.node .nil (some T_q127) .nil) (some T_q63) .nil) (some T_q31) (.node (.node .nil (some T_q159) .nil) (some T_q95) .nil)) (some T_q15) .nil) none (.node (.node (.node .nil (some T_q71) (.node .nil (some T_q199) .nil)) none (.node .nil none (.node .nil (some T_q231) .nil))) none (.node (.node .nil (some T_q87) .nil) (some T_q55) .nil))) (some T_lexiconlaw17_CompatNumbers) (.node (.node (.node (.node (.node .nil (some T_q131) .nil) none .nil) (some T_q35) (.node (.node .nil (some T_q163) .nil) (some T_q99) (.node .nil (some T_q227) .nil))) (some T_q19) (.node (.node .nil (some T_q83) .nil) none (.node .nil none (.node .nil (some T_q243) .nil)))) (some T_q11) (.node (.node (.node (.node .nil (some T_q139) .nil) (some T_q75) .nil) (some T_q43) (.node (.node .nil (some T_q171) .nil) none .nil)) (some T_q27) (.node .nil (some T_q59) (.node (.node .nil (some T_q187) .nil) (some T_q123) .nil))))) none (.node (.node (.node (.node (.node (.node .nil (some T_q129) .nil) (some T_q65) .nil) (some T_q33) (.node (.node .nil (some T_q161) .nil) (some T_q97) (.node .nil (some T_q225) .nil))) (some T_q17) (.node (.node .nil (some T_q81) .nil) (some T_q49) (.node (.node .nil (some T_q177) .nil) none .nil))) (some T_q9) (.node (.node (.node .nil (some T_q73) (.node .nil (some T_q201) .nil)) (some T_q41) (.node (.node .nil (some T_q169) .nil) none (.node .nil (some T_q233) .nil))) (some T_q25) (.node .nil (some T_q57) (.node .nil (some T_q121) .nil)))) (some T_q5) (.node (.node (.node (.node (.node .nil (some T_q133) .nil) (some T_q69) .nil) (some T_q37) (.node .nil none (.node .nil (some T_q229) .nil))) (some T_q21) (.node (.node .nil (some T_q85) .nil) (some T_q53) (.node .nil none (.node .nil (some T_q245) .nil)))) (some T_q13) (.node (.node (.node (.node .nil (some T_q141) .nil) (some T_q77) .nil) (some T_q45) .nil) (some T_q29) (.node .nil (some T_q61) (.node (.node .nil (some T_q189) .nil) (some T_q125) (.node .nil (some T_q253) .nil))))))) none (.node (.node (.node (.node (.node (.node (.node .nil (some T_q128) .nil) (some T_q64) .nil) (some T_q32) (.node (.node .nil (some T_q160) .nil) (some T_q96) (.node .nil (some T_q224) .nil))) (some T_q16) (.node .nil (some T_q48) (.node (.node .nil (some T_q176) .nil) none .nil))) none (.node (.node (.node .nil (some T_q72) .nil) (some T_q40) (.node (.node .nil (some T_q168) .nil) none (.node .nil (some T_q232) .nil))) (some T_q24) (.node (.node .nil (some T_q88) .nil) (some T_q56) (.node .nil (some T_q120) .nil)))) none (.node (.node (.node (.node (.node .nil (some T_q132) .nil) (some T_q68) .nil) (some T_q36) (.node (.node .nil (some T_q164) .nil) (some T_q100) (.node .nil (some T_q228) .nil))) (some T_q20) (.node .nil none (.node .nil none (.node .nil (some T_q244) .nil)))) (some T_q12) (.node (.node (.node (.node .nil (some T_q140) .nil) (some T_q76) .nil) (some T_q44) (.node (.node .nil (some T_q172) .nil) none .nil)) (some T_q28) (.node (.node (.node .nil (some T_q156) .nil) (some T_q92) .nil) (some T_q60) .nil)))) none (.node (.node (.node (.node (.node (.node .nil (some T_q130) .nil) (some T_q66) .nil) (some T_q34) (.node (.node .nil (some T_q162) .nil) none (.node .nil (some T_q226) .nil))) (some T_q18) (.node (.node .nil (some T_q82) .nil) (some T_q50) .nil)) (some T_q10) (.node (.node (.node (.node .nil (some T_q138) .nil) (some T_q74) (.node .nil (some T_q202) .nil)) (some T_q42) (.node (.node .nil (some T_q170) .nil) none (.node .nil (some T_q234) .nil))) (some T_q26) (.node (.node .nil (some T_q90) .nil) (some T_q58) (.node .nil (some T_q122) .nil)))) (some T_q6) (.node (.node (.node (.node (.node .nil (some T_q134) .nil) (some T_q70) .nil) (some T_q38) (.node .nil none (.node .nil (some T_q230) .nil))) (some T_q22) (.node (.node .nil (some T_q86) .nil) (some T_q54) .nil)) (some T_q14) (.node (.node (.node .nil (some T_q78) .nil) (some T_q46) (.node .nil (some T_q110) .nil)) none (.node (.node (.node .nil (some T_q158) .nil) (some T_q94) .nil) (some T_q62) (.node (.node .nil (some T_q190) .nil) none .nil)))))))
end Go.Proofs.YtcpjeocepolecaaGreatDoor

/-
  The logic L computed, part h: a run in parts: calls that have been computed before; what is garbage behind them is forgotten.
-/
namespace Go.L

/-- A call, what it gave. -/
structure Sm where
  f : FuncId
  args : List AV
  h : HT
  v : AV
  h' : HT

/-- A heap out of another one: some places set anew. -/
def updT (t : Tr (Option EB)) : List (Nat × Option EB) → Tr (Option EB)
  | [] => t
  | (i, b) :: r => updT (t.set i (some b)) r
def HT.upd (h : HT) (l : List (Nat × Option EB)) (n : Nat) : HT := ⟨updT h.t l, n⟩

/-- Of all places of a tree. -/
def allT {α : Type} (q : Nat → α → Bool) : Tr α → Nat → Nat → Bool
  | .nil, _, _ => true
  | .node l v r, a, m => (match v with
    | none => true
    | some x => q a x) && (allT q l (Nat.add a m) (Nat.mul 2 m) && allT q r (Nat.add a (Nat.mul 2 m)) (Nat.mul 2 m))
theorem allT_ok {α : Type} {q : Nat → α → Bool} : ∀ (t : Tr α) (a m i : Nat) (x : α), allT q t a m = true → t.get i = some x → q (a + m * i) x = true := by
  intro t
  induction t with
  | nil => intro a m i x _ h; rw [Tr.get_nil] at h; cases h
  | node l v r ihl ihr =>
    intro a m i x ht hi
    simp only [allT, Bool.and_eq_true] at ht
    rw [Tr.get_node] at hi
    split at hi
    · rename_i h0
      obtain rfl := Nat.eq_of_beq_eq_true h0
      subst hi
      rw [Nat.mul_zero, Nat.add_zero]; exact ht.1
    · rename_i h0
      have hi0 : i ≠ 0 := fun e => by subst e; cases h0
      split at hi
      · rename_i h4
        have h4' := Nat.eq_of_beq_eq_true h4
        have := ihl _ _ _ _ ht.2.1 hi
        have e : i = 2 * (i / 2) + 1 := by omega
        have e2 : a + m * i = Nat.add a m + Nat.mul 2 m * (i / 2) := by
          show a + m * i = a + m + 2 * m * (i / 2)
          conv => lhs; rw [e]
          rw [Nat.mul_add, Nat.mul_one, ← Nat.mul_assoc, Nat.mul_comm m 2]; omega
        rw [e2]; exact this
      · rename_i h4
        have h4' : i % 2 ≠ 1 := fun e => by rw [e] at h4; cases h4
        have := ihr _ _ _ _ ht.2.2 hi
        have e : i = 2 * (i / 2 - 1) + 2 := by omega
        have e2 : a + m * i = Nat.add a (Nat.mul 2 m) + Nat.mul 2 m * (i / 2 - 1) := by
          show a + m * i = a + 2 * m + 2 * m * (i / 2 - 1)
          conv => lhs; rw [e]
          rw [Nat.mul_add, ← Nat.mul_assoc, Nat.mul_comm m 2]; omega
        rw [e2]; exact this
theorem allT_get {α : Type} {q : Nat → α → Bool} {t : Tr α} {i : Nat} {x : α} (h : allT q t 0 1 = true) (hi : t.get i = some x) : q i x = true := by
  have := allT_ok t 0 1 i x h hi
  rwa [Nat.zero_add, Nat.one_mul] at this

/-- The numbers that are taken. -/
def uT (h : HT) (i : Nat) : Bool := (h.t.get i).isSome
/-- A heap that is a part of another one, whole in itself. -/
def partB (h1 h2 : HT) (i : Nat) : Option EB → Bool
  | none => true
  | some (.b x) => blkU (uT h2) x && (match h1.t.get i with
    | some (some b) => eqB (.b x) b
    | _ => false)
  | some (.l ..) => false
def partH (h2 h1 : HT) : Bool := allT (partB h1 h2) h2.t 0 1
def covU (h0 h2 : HT) : Bool := allT (fun i _ => uT h2 i) h0.t 0 1

def isSm (s : Sm) (r : Option (List CR)) : Bool :=
  match r with
  | some [.ret v h] => eqA v s.v && (idU (uT s.h') s.v && (partH s.h' h && covU s.h s.h'))
  | _ => false
def smOf (s : Sm) (f : FuncId) (args : List AV) (h : HT) : Option (List CR) :=
  match Nat.beq f s.f with
  | true => match eqL args s.args && eqH h s.h with
    | true => some [.ret s.v s.h']
    | false => none
  | false => none
def smsOf : List Sm → FuncId → List AV → HT → Option (List CR)
  | [], _, _, _ => none
  | s :: r, f, args, h => match smOf s f args h with
    | some l => some l
    | none => smsOf r f args h

/-- The calls, at most so deep; those that have been computed before are looked up. -/
def xMS (P : Program) (hb : FuncId → Bool) (codes : Tr FC) (loops : Nat) (ss : List Sm) : Nat → Run
  | 0 => ⟨fun _ _ _ => none, fun _ _ _ => none, fun _ _ _ _ => none⟩
  | d + 1 => ⟨fun f args h => match smsOf ss f args h with
      | some l => some l
      | none => xFun P hb codes loops (xMS P hb codes loops ss d) f args h, fun c e h => xC P hb (xMS P hb codes loops ss d) loops [] c e h, xDfr P hb codes loops (xMS P hb codes loops ss d)⟩

section
variable {P : Program} {hb : FuncId → Bool}

/-- Such a call is so. -/
def SmOK (P : Program) (s : Sm) : Prop := ∀ Q : Res → Hp → Prop, Q (.ret s.v) (s.h'.hp P) → CallL P s.f s.args (s.h.hp P) Q

theorem sm_ok {run : Run} (hrun : RunOK P run) {s : Sm} (hs : isSm s (run.call s.f s.args s.h) = true) : SmOK P s := by
  intro Q hQ
  unfold isSm at hs
  split at hs <;> first | cases hs | skip
  rename_i v h1 hc
  simp only [Bool.and_eq_true] at hs
  obtain ⟨hv, hid, hp, hcov⟩ := hs
  have e1 := eqA_ok _ hv
  subst e1
  refine CallL.shrink (hrun.call _ _ _ _ _ hc fun x hx => ?_)
  rw [List.mem_singleton] at hx
  subst hx
  refine ⟨_, s.h'.hp P, rfl, hQ, hid, fun i b hb => ?_, fun i hi => ?_⟩
  · have hb' : jn P (s.h'.t.get i) = some b := hb
    cases hg : s.h'.t.get i with
    | none => rw [hg] at hb'; cases hb'
    | some o =>
      have hq := allT_get hp hg
      cases o with
      | none => rw [hg] at hb'; cases hb'
      | some eb =>
        rw [hg] at hb'
        cases eb with
        | l n t ps c d st pend => cases hq
        | b x =>
          cases hb'
          simp only [partB, Bool.and_eq_true] at hq
          obtain ⟨h2, h3⟩ := hq
          split at h3
          · rename_i b' hg'
            have := eqB_ok h3
            subst this
            refine ⟨hp_at hg', hp_u hg, h2⟩
          · cases h3
  · have hi' : (s.h.t.get i).isSome = true := hi
    obtain ⟨x, hx⟩ := Option.isSome_iff_exists.1 hi'
    exact allT_get hcov hx

theorem smOf_ok {s : Sm} (hs : SmOK P s) {f : FuncId} {args : List AV} {h : HT} {l : List CR} {Q : Res → Hp → Prop} (hx : smOf s f args h = some l) (hl : ∀ x ∈ l, CRQ P Q x) : CallL P f args (h.hp P) Q := by
  unfold smOf at hx
  split at hx <;> first | cases hx | skip
  rename_i hf
  split at hx <;> cases hx
  rename_i ha
  simp only [Bool.and_eq_true] at ha
  obtain rfl := Nat.eq_of_beq_eq_true hf
  obtain rfl := eqL_ok _ ha.1
  obtain rfl := eqH_ok ha.2
  exact hs Q (hl _ (List.mem_singleton.2 rfl))
theorem smsOf_ok : ∀ {ss : List Sm}, (∀ s ∈ ss, SmOK P s) → ∀ {f : FuncId} {args : List AV} {h : HT} {l : List CR} {Q : Res → Hp → Prop}, smsOf ss f args h = some l → (∀ x ∈ l, CRQ P Q x) → CallL P f args (h.hp P) Q
  | [], _, _, _, _, _, _, hx, _ => by cases hx
  | s :: r, hs, f, args, h, l, Q, hx, hl => by
    simp only [smsOf] at hx
    split at hx
    · rename_i l' hl'; cases hx; exact smOf_ok (hs s List.mem_cons_self) hl' hl
    · exact smsOf_ok (fun s h => hs s (List.mem_cons_of_mem _ h)) hx hl

theorem xMS_ok {ss : List Sm} (hs : ∀ s ∈ ss, SmOK P s) {codes : Tr FC} {loops : Nat} (hk : CodesOK P codes) (hh : BodyOK P hb) : ∀ d, RunOK P (xMS P hb codes loops ss d) := by
  intro d
  induction d with
  | zero =>
    refine ⟨?_, ?_, ?_⟩
    · intro f args h l Q hx; cases hx
    · intro c e h l Q hx; cases hx
    · intro f args u h l Q hx; cases hx
  | succ d ih =>
    refine ⟨fun f args h l Q hx hl => ?_, fun c e h l Q hx hQ hl => xC_ok hh ih c e h l Q hx hQ hl, fun f args u h l Q hx hl => xDfr_ok hk hh ih hx hl⟩
    have hx : (match smsOf ss f args h with
      | some l => some l
      | none => xFun P hb codes loops (xMS P hb codes loops ss d) f args h) = some l := hx
    split at hx
    · rename_i l' hl'; cases hx; exact smsOf_ok hs hl' hl
    · exact xFun_ok hk hh ih hx hl

theorem runS_ok {codes : Tr FC} (hk : trOK (GoodFC P) codes id) {ss : List Sm} (hs : ∀ s ∈ ss, SmOK P s) (loops d : Nat) : RunOK P (xMS P (hbOf codes) codes loops ss d) := by
  refine xMS_ok hs (fun f c hc => ?_) (fun f hf => ?_) d
  · obtain ⟨fn, m, h1, h2, h3, _⟩ := trOK_get codes id f c hk hc
    exact ⟨fn, m, h1, h2, h3⟩
  · cases hc : codes.get f with
    | none => simp [hbOf, hc] at hf
    | some c =>
      obtain ⟨fn, m, h1, _, h3, h4⟩ := trOK_get codes id f c hk hc
      refine ⟨fn, h1, ?_, h4⟩
      obtain ⟨full, h3, _⟩ := cutF_inv h3
      unfold compF at h3
      split at h3
      · cases h3
      · rename_i c' hb; rw [hb]; rfl

/-- One more part. -/
theorem SmOK.of {codes : Tr FC} (hk : trOK (GoodFC P) codes id) {ss : List Sm} (hs : ∀ s ∈ ss, SmOK P s) {loops d : Nat} {s : Sm} (hx : isSm s ((xMS P (hbOf codes) codes loops ss d).call s.f s.args s.h) = true) : ∀ x ∈ s :: ss, SmOK P x := by
  intro x hxs
  rcases List.mem_cons.1 hxs with rfl | hxs
  · exact sm_ok (runS_ok hk hs loops d) hx
  · exact hs x hxs

/-- A closed run, its last part. -/
theorem CallL.ofRunS {codes : Tr FC} (hk : trOK (GoodFC P) codes id) {ss : List Sm} (hs : ∀ s ∈ ss, SmOK P s) {loops d : Nat} {f : FuncId} {args : List AV} {v : AV} (ha : args.all sc1 = true) (hv : scv v = true)
    (hx : (match (xMS P (hbOf codes) codes loops ss d).call f args HT.nil with | some l => l.all (isRet v) | none => false) = true) : PureL P f args v := by
  intro h
  split at hx <;> first | cases hx | skip
  rename_i l hr
  have k := (runS_ok hk hs loops d).call f args HT.nil l (fun r _ => ∃ x, r = .ret x ∧ scv x = true ∧ x = v) hr fun x hxl => by
    have h1 := List.all_eq_true.1 hx x hxl
    cases x with
    | ret x h' => have := eqA_ok _ h1; subst this; exact ⟨_, rfl, hv, rfl⟩
    | pan x h' => cases h1
  rw [HT.hp_nil] at k
  exact (CallL.closed ha (Q := fun x => x = v) k).mono fun r h' ⟨x, h1, h2, h3⟩ => ⟨by rw [h1, h2], h3⟩
end
end Go.L
