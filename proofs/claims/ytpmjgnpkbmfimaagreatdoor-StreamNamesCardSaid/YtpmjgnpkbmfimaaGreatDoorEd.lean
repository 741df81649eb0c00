/-
  The logic L computed, part d: outcomes that are the same are taken once.
-/
import Derived.Test.YtpmjgnpkbmfimaaGreatDoorEb
namespace Go.L

/-! ## Equality, as a Boolean (false: they may yet be the same) -/

def eqFn : Fn → Fn → Bool
  | .func f, .func g => Nat.beq f g
  | _, _ => false
theorem eqFn_ok {a b : Fn} (h : eqFn a b = true) : a = b := by
  cases a <;> cases b <;> simp only [eqFn] at h <;> first | (cases h; done) | rw [Nat.eq_of_beq_eq_true h]

def eqS : List UInt8 → List UInt8 → Bool
  | [], [] => true
  | a :: l, b :: m => Nat.beq a.toNat b.toNat && eqS l m
  | _, _ => false
theorem eqS_ok : ∀ {a b : List UInt8}, eqS a b = true → a = b := by
  intro a
  induction a with
  | nil => intro b h; cases b with
    | nil => rfl
    | cons => cases h
  | cons x l ih => intro b h; cases b with
    | nil => cases h
    | cons y m =>
      simp only [eqS, Bool.and_eq_true] at h
      rw [ih h.2, UInt8.toNat_inj.1 (Nat.eq_of_beq_eq_true h.1)]

def eqON : Option Nat → Option Nat → Bool
  | none, none => true
  | some a, some b => Nat.beq a b
  | _, _ => false
theorem eqON_ok {a b : Option Nat} (h : eqON a b = true) : a = b := by
  cases a <;> cases b <;> simp only [eqON] at h <;> first | (cases h; done) | rfl | rw [Nat.eq_of_beq_eq_true h]

mutual
def eqA : AV → AV → Bool
  | .bool a, .bool b => a == b
  | .int k a, .int k' b => ikeq k k' && decide (a = b)
  | .str a, .str b => eqS a b
  | .nilp, .nilp => true
  | .ptr i k o, .ptr i' k' o' => Nat.beq i i' && (Nat.beq k k' && Nat.beq o o')
  | .iptr g cs o, .iptr g' cs' o' => Nat.beq g g' && (Nat.beq o o' && eqL cs cs')
  | .nils, .nils => true
  | .emp, .emp => true
  | .slc i k n c, .slc i' k' n' c' => Nat.beq i i' && (Nat.beq k k' && (Nat.beq n n' && eqON c c'))
  | .isl g es, .isl g' es' => Nat.beq g g' && eqLL es es'
  | .nilm, .nilm => true
  | .map i, .map j => Nat.beq i j
  | .func f a b, .func f' a' b' => eqFn f f' && (eqL a a' && eqL b b')
  | .nilf, .nilf => true
  | .yld i, .yld j => Nat.beq i j
  | .ifc t v, .ifc t' v' => Nat.beq t t' && eqA v v'
  | .nili, .nili => true
  | .agg a, .agg b => eqL a b
  | .tup a, .tup b => eqL a b
  | _, _ => false
def eqL : List AV → List AV → Bool
  | [], [] => true
  | a :: l, b :: m => eqA a b && eqL l m
  | _, _ => false
def eqLL : List (List AV) → List (List AV) → Bool
  | [], [] => true
  | a :: l, b :: m => eqL a b && eqLL l m
  | _, _ => false
end

mutual
theorem eqA_ok : ∀ (a : AV) {b : AV}, eqA a b = true → a = b
  | .bool a, b, h => by cases b <;> simp [eqA] at h; rw [h]
  | .int k a, b, h => by cases b <;> simp [eqA] at h; rw [ikeq_ok h.1, h.2]
  | .flt k a, b, h => by cases b <;> simp [eqA] at h
  | .str a, b, h => by cases b <;> simp [eqA] at h; rw [eqS_ok h]
  | .nilp, b, h => by cases b <;> simp [eqA] at h; rfl
  | .ptr i k o, b, h => by cases b <;> simp [eqA] at h; rw [h.1, h.2.1, h.2.2]
  | .iptr g cs o, b, h => by cases b <;> simp [eqA] at h; rw [h.1, h.2.1, eqL_ok cs h.2.2]
  | .nils, b, h => by cases b <;> simp [eqA] at h; rfl
  | .emp, b, h => by cases b <;> simp [eqA] at h; rfl
  | .slc i k n c, b, h => by cases b <;> simp [eqA] at h; rw [h.1, h.2.1, h.2.2.1, eqON_ok h.2.2.2]
  | .isl g es, b, h => by cases b <;> simp [eqA] at h; rw [h.1, eqLL_ok es h.2]
  | .nilm, b, h => by cases b <;> simp [eqA] at h; rfl
  | .map i, b, h => by cases b <;> simp [eqA] at h; rw [h]
  | .func f x y, b, h => by cases b <;> simp [eqA] at h; rw [eqFn_ok h.1, eqL_ok x h.2.1, eqL_ok y h.2.2]
  | .nilf, b, h => by cases b <;> simp [eqA] at h; rfl
  | .yld i, b, h => by cases b <;> simp [eqA] at h; rw [h]
  | .ifc t v, b, h => by cases b <;> simp [eqA] at h; rw [h.1, eqA_ok v h.2]
  | .nili, b, h => by cases b <;> simp [eqA] at h; rfl
  | .agg x, b, h => by cases b <;> simp [eqA] at h; rw [eqL_ok x h]
  | .tup x, b, h => by cases b <;> simp [eqA] at h; rw [eqL_ok x h]
theorem eqL_ok : ∀ (a : List AV) {b : List AV}, eqL a b = true → a = b
  | [], b, h => by cases b <;> simp [eqL] at h; rfl
  | x :: l, b, h => by cases b <;> simp [eqL] at h; rw [eqA_ok x h.1, eqL_ok l h.2]
theorem eqLL_ok : ∀ (a : List (List AV)) {b : List (List AV)}, eqLL a b = true → a = b
  | [], b, h => by cases b <;> simp [eqLL] at h; rfl
  | x :: l, b, h => by cases b <;> simp [eqLL] at h; rw [eqL_ok x h.1, eqLL_ok l h.2]
end

def eqM : MapL → MapL → Bool
  | [], [] => true
  | (k, v, n) :: l, (k', v', n') :: m => eqA k k' && (eqA v v' && (Nat.beq n n' && eqM l m))
  | _, _ => false
theorem eqM_ok : ∀ {a b : MapL}, eqM a b = true → a = b := by
  intro a
  induction a with
  | nil => intro b h; cases b with
    | nil => rfl
    | cons => cases h
  | cons x l ih => intro b h; cases b with
    | nil => cases h
    | cons y m =>
      obtain ⟨k, v, n⟩ := x
      obtain ⟨k', v', n'⟩ := y
      simp only [eqM, Bool.and_eq_true] at h
      rw [eqA_ok k h.1, eqA_ok v h.2.1, Nat.eq_of_beq_eq_true h.2.2.1, ih h.2.2.2]
def eqN : List Nat → List Nat → Bool
  | [], [] => true
  | a :: l, b :: m => Nat.beq a b && eqN l m
  | _, _ => false
theorem eqN_ok : ∀ {a b : List Nat}, eqN a b = true → a = b := by
  intro a
  induction a with
  | nil => intro b h; cases b with
    | nil => rfl
    | cons => cases h
  | cons x l ih => intro b h; cases b with
    | nil => cases h
    | cons y m =>
      simp only [eqN, Bool.and_eq_true] at h
      rw [Nat.eq_of_beq_eq_true h.1, ih h.2]

def eqB : EB → EB → Bool
  | .b (.row T es), .b (.row T' es') => Nat.beq T T' && eqLL es es'
  | .b (.map es c), .b (.map es' c') => Nat.beq c c' && eqM es es'
  | .b (.mapIter m s l t), .b (.mapIter m' s' l' t') => eqON m m' && (Nat.beq s s' && (eqN l l' && Nat.beq t t'))
  | .b (.strIter s p), .b (.strIter s' p') => Nat.beq p p' && eqS s s'
  | .b .dfr, .b .dfr => true
  | _, _ => false
theorem eqB_ok {a b : EB} (h : eqB a b = true) : a = b := by
  unfold eqB at h
  split at h <;> first | (cases h; done) | (simp only [Bool.and_eq_true] at h) | skip
  · rw [Nat.eq_of_beq_eq_true h.1, eqLL_ok _ h.2]
  · rw [Nat.eq_of_beq_eq_true h.1, eqM_ok h.2]
  · rw [eqON_ok h.1, Nat.eq_of_beq_eq_true h.2.1, eqN_ok h.2.2.1, Nat.eq_of_beq_eq_true h.2.2.2]
  · rw [Nat.eq_of_beq_eq_true h.1, eqS_ok h.2]
  · rfl

def eqO {α : Type} (q : α → α → Bool) : Option α → Option α → Bool
  | none, none => true
  | some a, some b => q a b
  | _, _ => false
theorem eqO_ok {α : Type} {q : α → α → Bool} (hq : ∀ {a b}, q a b = true → a = b) {a b : Option α} (h : eqO q a b = true) : a = b := by
  cases a <;> cases b <;> simp only [eqO] at h <;> first | (cases h; done) | rfl | rw [hq h]
def eqT {α : Type} (q : α → α → Bool) : Tr α → Tr α → Bool
  | .nil, .nil => true
  | .node l v r, .node l' v' r' => eqO q v v' && (eqT q l l' && eqT q r r')
  | _, _ => false
theorem eqT_ok {α : Type} {q : α → α → Bool} (hq : ∀ {a b}, q a b = true → a = b) : ∀ {a b : Tr α}, eqT q a b = true → a = b := by
  intro a
  induction a with
  | nil => intro b h; cases b with
    | nil => rfl
    | node => cases h
  | node l v r ihl ihr => intro b h; cases b with
    | nil => cases h
    | node l' v' r' =>
      simp only [eqT, Bool.and_eq_true] at h
      rw [eqO_ok hq h.1, ihl h.2.1, ihr h.2.2]
def eqH (a b : HT) : Bool := Nat.beq a.n b.n && eqT (eqO eqB) a.t b.t
theorem eqH_ok {a b : HT} (h : eqH a b = true) : a = b := by
  simp only [eqH, Bool.and_eq_true] at h
  cases a; cases b
  simp only at h
  rw [Nat.eq_of_beq_eq_true h.1, eqT_ok (fun h => eqO_ok eqB_ok h) h.2]

/-! ## Outcomes -/

def elemB {α : Type} (q : α → α → Bool) (x : α) : List α → Bool
  | [] => false
  | y :: r => match q x y with
    | true => true
    | false => elemB q x r
def ddL {α : Type} (q : α → α → Bool) : List α → List α
  | [] => []
  | x :: r => match elemB q x (ddL q r) with
    | true => ddL q r
    | false => x :: ddL q r
/-- Outcomes, each once (one: as it is). -/
def dd {α : Type} (q : α → α → Bool) : List α → List α
  | [x] => [x]
  | l => ddL q l
theorem elemB_ok {α : Type} {q : α → α → Bool} (hq : ∀ {a b}, q a b = true → a = b) {x : α} : ∀ {l : List α}, elemB q x l = true → x ∈ l := by
  intro l
  induction l with
  | nil => intro h; cases h
  | cons y r ih =>
    intro h
    unfold elemB at h
    split at h
    · rename_i h1; rw [hq h1]; simp
    · exact List.mem_cons_of_mem _ (ih h)
theorem ddL_ok {α : Type} {q : α → α → Bool} (hq : ∀ {a b}, q a b = true → a = b) : ∀ {l : List α} {Q : α → Prop}, (∀ x ∈ ddL q l, Q x) → ∀ x ∈ l, Q x := by
  intro l
  induction l with
  | nil => intro Q _ x hx; cases hx
  | cons y r ih =>
    intro Q h x hx
    unfold ddL at h
    split at h
    · rename_i h1
      rcases List.mem_cons.1 hx with rfl | hx
      · exact h _ (elemB_ok hq h1)
      · exact ih h x hx
    · rcases List.mem_cons.1 hx with rfl | hx
      · exact h _ (by simp)
      · exact ih (fun x hx => h x (List.mem_cons_of_mem _ hx)) x hx
theorem dd_ok {α : Type} {q : α → α → Bool} (hq : ∀ {a b}, q a b = true → a = b) {l : List α} {Q : α → Prop} (h : ∀ x ∈ dd q l, Q x) : ∀ x ∈ l, Q x := by
  unfold dd at h
  split at h
  · exact h
  · exact ddL_ok hq h

/-- All outcomes, on with each. -/
def bindL {α β : Type} : List α → (α → Option (List β)) → Option (List β)
  | [], _ => some []
  | [x], f => f x
  | x :: r, f => match f x with
    | some a => match bindL r f with
      | some b => some (a ++ b)
      | none => none
    | none => none
theorem bindL_ok {α β : Type} {f : α → Option (List β)} : ∀ {l : List α} {m : List β}, bindL l f = some m → ∀ x ∈ l, ∃ k, f x = some k ∧ ∀ y ∈ k, y ∈ m := by
  intro l
  induction l with
  | nil => intro m _ x hx; cases hx
  | cons a r ih =>
    intro m h x hx
    cases r with
    | nil =>
      rw [List.mem_singleton] at hx; subst hx
      exact ⟨m, h, fun y hy => hy⟩
    | cons b r =>
      simp only [bindL] at h
      split at h <;> first | cases h | skip
      rename_i k hk
      split at h <;> cases h
      rename_i k2 hk2
      rcases List.mem_cons.1 hx with rfl | hx
      · exact ⟨k, hk, fun y hy => List.mem_append_left _ hy⟩
      · obtain ⟨k3, h3, h4⟩ := ih hk2 x hx
        exact ⟨k3, h3, fun y hy => List.mem_append_right _ (h4 y hy)⟩
end Go.L
