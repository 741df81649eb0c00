/-
  The logic L, part n2: regions that draw their order: the orders that stand for all.
-/
import Derived.Test.YtibdeeejjbmgcaaDoorLn
import Derived.OrdersIn
namespace Go.L

section
variable {P : Program}

theorem LOps_cons (o : AOper) (r : List AOper) (K : Env → Hp → Prop) (X : AV → Env → Hp → Prop) (e : Env) (h : Hp) : LOps P (o :: r) K X e h = LOps P [o] (fun e h => LOps P r K X e h) X e h := by
  obtain ⟨d, op, g⟩ := o
  cases g with
  | none => rfl
  | some g => obtain ⟨t, b⟩ := g; rfl

/-- Asked of a panic: nothing of the temporaries. -/
def XOk (X : AV → Env → Hp → Prop) : Prop := ∀ v e h g, X v e h → X v ⟨e.n, g, e.ds⟩ h

def AOper.reads (o : AOper) : List Nat :=
  match o.guard with
  | none => o.op.tmps
  | some (t, _) => t :: o.op.tmps

theorem bcase_iff {c b : Bool} {X Y : Prop} : bcase c b X Y ↔ (c = b ∧ X) ∨ (c ≠ b ∧ Y) := by
  cases c <;> cases b <;> simp [bcase]

/-- One operation: is it wanted? -/
theorem step_iff {o : AOper} {K : Env → Hp → Prop} {X : AV → Env → Hp → Prop} {e : Env} {h : Hp} : LOps P [o] K X e h ↔
    ((o.guard = none ∨ ∃ t b, o.guard = some (t, b) ∧ e.t t = .bool b) ∧ LOp P o.op e h (fun v h' => K (e.put o.dst v) h') (fun v h' => X v e h')) ∨
    ((∃ t b, o.guard = some (t, b) ∧ ((∃ c, e.t t = .bool c ∧ c ≠ b) ∨ ∃ l, e.t t = .tup l)) ∧ K (e.put o.dst (.tup [])) h) := by
  obtain ⟨d, op, g⟩ := o
  have hf : (fun v (h' : Hp) => force v fun v => LOps P [] K X (e.put d v) h') = fun v h' => K (e.put d v) h' := by funext v h'; rw [force_eq]; rfl
  cases g with
  | none =>
    simp only [LOps]
    show LOp P op e h (fun v (h' : Hp) => force v fun v => LOps P [] K X (e.put d v) h') _ ↔ _
    rw [hf]
    simp
  | some g =>
    obtain ⟨t, b⟩ := g
    simp only [LOps]
    constructor
    · intro hl
      split at hl <;> first | exact hl.elim | skip
      · rename_i c hc
        rcases bcase_iff.1 hl with ⟨h1, h2⟩ | ⟨h1, h2⟩
        · left
          have h2' : LOp P op e h (fun v (h' : Hp) => force v fun v => LOps P [] K X (e.put d v) h') (fun v h' => X v e h') := h2
          rw [hf] at h2'
          exact ⟨.inr ⟨t, b, rfl, by rw [hc, h1]⟩, h2'⟩
        · right; exact ⟨⟨t, b, rfl, .inl ⟨c, hc, h1⟩⟩, h2⟩
      · rename_i l hl'
        right; exact ⟨⟨t, b, rfl, .inr ⟨l, hl'⟩⟩, hl⟩
    · intro hl
      rcases hl with ⟨h1, h2⟩ | ⟨⟨t', b', h1, h2⟩, h3⟩
      · rcases h1 with h1 | ⟨t', b', h1, h3⟩
        · cases h1
        · cases h1
          rw [h3]
          refine bcase_iff.2 (.inl ⟨rfl, ?_⟩)
          show LOp P op e h (fun v (h' : Hp) => force v fun v => LOps P [] K X (e.put d v) h') _
          rw [hf]; exact h2
      · cases h1
        rcases h2 with ⟨c, h4, h5⟩ | ⟨l, h4⟩
        · rw [h4]; exact bcase_iff.2 (.inr ⟨h5, h3⟩)
        · rw [h4]; exact h3

theorem step_mono {o : AOper} {K K' : Env → Hp → Prop} {X X' : AV → Env → Hp → Prop} {e : Env} {h : Hp} (hl : LOps P [o] K X e h) (hk : ∀ e h, K e h → K' e h) (hx : ∀ v e h, X v e h → X' v e h) : LOps P [o] K' X' e h := by
  rw [step_iff] at hl ⊢
  exact hl.imp (fun ⟨h1, h2⟩ => ⟨h1, LOp_mono h2 (fun _ _ => hk _ _) (fun _ _ => hx _ _ _)⟩) fun ⟨h1, h2⟩ => ⟨h1, hk _ _ h2⟩

theorem LOps_mono : ∀ {l : List AOper} {K K' : Env → Hp → Prop} {X X' : AV → Env → Hp → Prop} {e : Env} {h : Hp}, LOps P l K X e h → (∀ e h, K e h → K' e h) → (∀ v e h, X v e h → X' v e h) → LOps P l K' X' e h := by
  intro l
  induction l with
  | nil => intro K K' X X' e h hl hk _; exact hk _ _ hl
  | cons o r ih =>
    intro K K' X X' e h hl hk hx
    rw [LOps_cons] at hl ⊢
    exact step_mono hl (fun e h hr => ih hr hk hx) hx

theorem put_comm {e : Env} {a b : Option Nat} {u v : AV} (hn : ∀ x, a = some x → b ≠ some x) : (e.put a u).put b v = (e.put b v).put a u := by
  cases a with
  | none => rfl
  | some a =>
    cases b with
    | none => rfl
    | some b =>
      have hab : b ≠ a := fun h => hn a rfl (by rw [h])
      simp only [Env.put, Env.mk.injEq, true_and, and_true]
      funext x
      cases h1 : Nat.beq x b with
      | false => rfl
      | true =>
        cases h2 : Nat.beq x a with
        | false => rfl
        | true => exact absurd ((Nat.eq_of_beq_eq_true h1).symm.trans (Nat.eq_of_beq_eq_true h2)) hab

theorem put_other {e : Env} {a : Option Nat} {u : AV} {t : Nat} (hn : a ≠ some t) : (e.put a u).t t = e.t t := by
  cases a with
  | none => rfl
  | some a =>
    simp only [Env.put]
    cases h1 : Nat.beq t a with
    | false => rfl
    | true => exact absurd (by rw [Nat.eq_of_beq_eq_true h1]) hn

def off (d : Option Nat) (l : List Nat) : Bool :=
  match d with
  | none => true
  | some d => !(l.any fun x => Nat.beq x d)

theorem off_ok {d : Option Nat} {l : List Nat} (h : off d l = true) : ∀ t ∈ l, d ≠ some t := by
  intro t ht hd
  subst hd
  simp only [off, Bool.not_eq_true', List.any_eq_false] at h
  exact h t ht (Nat.beq_refl t)

def dstNe (a b : Option Nat) : Bool :=
  match a, b with
  | some x, some y => !(Nat.beq x y)
  | _, _ => true
theorem dstNe_ok {a b : Option Nat} (h : dstNe a b = true) : ∀ x, a = some x → b ≠ some x := by
  intro x ha hb
  subst ha; subst hb
  simp [dstNe, Nat.beq_refl] at h

/-- i, which only reads, may be moved over j. -/
def comm (i j : AOper) : Bool := isN i.op && ((isN j.op || i.op.hfree) && (off i.dst j.reads && (off j.dst i.reads && dstNe i.dst j.dst)))

theorem reads_op {o : AOper} : ∀ t ∈ o.op.tmps, t ∈ o.reads := by
  intro t ht
  unfold AOper.reads
  split
  · exact ht
  · exact List.mem_cons_of_mem _ ht
theorem reads_guard {o : AOper} {t : Nat} {b : Bool} (h : o.guard = some (t, b)) : t ∈ o.reads := by
  unfold AOper.reads; rw [h]; exact List.mem_cons_self

theorem swap {i j : AOper} (hc : comm i j = true) {r : List AOper} {K : Env → Hp → Prop} {X : AV → Env → Hp → Prop} (hx : XOk X) {e : Env} {h : Hp} (hl : LOps P (i :: j :: r) K X e h) : LOps P (j :: i :: r) K X e h := by
  simp only [comm, Bool.and_eq_true] at hc
  obtain ⟨hi, hjh, h1, h2, h3⟩ := hc
  have hoi := off_ok h1
  have hoj := off_ok h2
  have hne := dstNe_ok h3
  rw [LOps_cons] at hl ⊢
  -- i picks one value, wherever what it reads is the same
  have one : ∃ v, LOps P (j :: r) K X (e.put i.dst v) h ∧ ∀ (K' : Env → Hp → Prop) (e2 : Env) (h2 : Hp), Agree i.reads e e2 → (h2 = h ∨ i.op.hfree = true) → K' (e2.put i.dst v) h2 → LOps P [i] K' X e2 h2 := by
    rw [step_iff] at hl
    rcases hl with ⟨hg, hl⟩ | ⟨hg, hl⟩
    · obtain ⟨v, h4, h5⟩ := LN_one (LOp_N hi hl)
      refine ⟨v, h4, fun K' e2 h2 ha hh hk => step_iff.2 (.inl ⟨?_, ?_⟩)⟩
      · rcases hg with hg | ⟨t, b, hg, hb⟩
        · exact .inl hg
        · exact .inr ⟨t, b, hg, by rw [← ha t (reads_guard hg)]; exact hb⟩
      · rw [← LOp_congr (e := e) (fun t ht => ha t (reads_op t ht))]
        have h6 := h5 (fun u => u = v) rfl
        have h7 : LN i.op e h2 (fun u => u = v) := by
          rcases hh with rfl | hh
          · exact h6
          · rw [LN_hfree hh h2 h]; exact h6
        have h8 : LN i.op e h2 (fun u => K' (e2.put i.dst u) h2) := LN_mono h7 fun u hu => by rw [hu]; exact hk
        exact LN_LOp hi h8
    · refine ⟨.tup [], hl, fun K' e2 h2 ha _ hk => step_iff.2 (.inr ⟨?_, hk⟩)⟩
      obtain ⟨t, b, hg, hb⟩ := hg
      refine ⟨t, b, hg, ?_⟩
      rw [← ha t (reads_guard hg)]; exact hb
  obtain ⟨v, hl, hone⟩ := one
  rw [LOps_cons, step_iff] at hl
  have agj : ∀ t ∈ j.reads, (e.put i.dst v).t t = e.t t := fun t ht => put_other (hoi t ht)
  have fin : ∀ (u : AV) (h' : Hp), (h' = h ∨ i.op.hfree = true) → LOps P r K X ((e.put i.dst v).put j.dst u) h' → LOps P (i :: r) K X (e.put j.dst u) h' := by
    intro u h' hh hr
    rw [LOps_cons]
    refine hone _ _ _ (fun t ht => (put_other (hoj t ht)).symm) hh ?_
    rw [put_comm hne] at hr; exact hr
  rw [step_iff]
  rcases hl with ⟨hg, hl⟩ | ⟨hg, hl⟩
  · left
    refine ⟨?_, ?_⟩
    · rcases hg with hg | ⟨t, b, hg, hb⟩
      · exact .inl hg
      · exact .inr ⟨t, b, hg, by rw [← agj t (reads_guard hg)]; exact hb⟩
    · rw [LOp_congr (e2 := e) (fun t ht => agj t (reads_op t ht))] at hl
      have xput : ∀ pv h', X pv (e.put i.dst v) h' → X pv e h' := fun pv h' hX => by
        have := hx pv _ h' e.t hX
        cases hd : i.dst with
        | none => rw [hd] at hX; exact hX
        | some d => rw [hd] at this; exact this
      cases hj : isN j.op with
      | true =>
        have h4 := LOp_N hj hl
        exact LN_LOp hj (LN_mono h4 fun u hu => fin u h (.inl rfl) hu)
      | false =>
        have hfr : i.op.hfree = true := by rw [hj] at hjh; simpa using hjh
        exact LOp_mono hl (fun u h' hu => fin u h' (.inr hfr) hu) xput
  · right
    refine ⟨?_, fin _ h (.inl rfl) hl⟩
    obtain ⟨t, b, hg, hb⟩ := hg
    refine ⟨t, b, hg, ?_⟩
    rw [← agj t (reads_guard hg)]; exact hb

/-! ### Orders -/

def without (i : Nat) (rest : List Nat) : List Nat := rest.filter fun j => !(Nat.beq j i)
def inL (i : Nat) (rest : List Nat) : Bool := rest.any fun j => Nat.beq j i

theorem mem_without {i j : Nat} {rest : List Nat} : j ∈ without i rest ↔ j ∈ rest ∧ j ≠ i := by
  simp only [without, List.mem_filter, Bool.not_eq_true']
  refine and_congr_right fun _ => ⟨fun h e => ?_, fun h => ?_⟩
  · subst e; rw [Nat.beq_refl] at h; cases h
  · cases hb : Nat.beq j i with
    | false => rfl
    | true => exact absurd (Nat.eq_of_beq_eq_true hb) h
theorem inL_iff {i : Nat} {rest : List Nat} : inL i rest = true ↔ i ∈ rest := by
  simp only [inL, List.any_eq_true]
  constructor
  · rintro ⟨x, h1, h2⟩; rw [← Nat.eq_of_beq_eq_true h2]; exact h1
  · intro h; exact ⟨i, h, Nat.beq_refl i⟩
theorem without_comm (i j : Nat) (rest : List Nat) : without i (without j rest) = without j (without i rest) := by
  simp only [without, List.filter_filter]
  congr 1; funext x; exact Bool.and_comm _ _

/-- An order of what is left. -/
inductive Topo (ds : Nat → List Nat) : List Nat → List Nat → Prop
  | nil : Topo ds [] []
  | cons {rest : List Nat} {i : Nat} {l : List Nat} (h1 : i ∈ rest) (h2 : ∀ d ∈ ds i, d ∉ rest) (h3 : Topo ds (without i rest) l) : Topo ds rest (i :: l)

/-- j waits for i, through others maybe. -/
def anc (ds : Nat → List Nat) : Nat → Nat → Nat → Bool
  | 0, _, _ => false
  | f + 1, j, i => (ds j).any fun d => Nat.beq d i || anc ds f d i

def Closed (ds : Nat → List Nat) (rest : List Nat) : Prop := ∀ j, j ∉ rest → ∀ d ∈ ds j, d ∉ rest

variable {ds : Nat → List Nat}

theorem anc_out {rest : List Nat} (hc : Closed ds rest) : ∀ (f j i : Nat), (∀ d ∈ ds j, d ∉ rest) → anc ds f j i = true → i ∉ rest := by
  intro f
  induction f with
  | zero => intro j i _ h; cases h
  | succ f ih =>
    intro j i hj h
    simp only [anc, List.any_eq_true, Bool.or_eq_true] at h
    obtain ⟨d, hd, h⟩ := h
    rcases h with h | h
    · rw [← Nat.eq_of_beq_eq_true h]; exact hj d hd
    · exact ih d i (hc d (hj d hd)) h

theorem Closed.without {rest : List Nat} (hc : Closed ds rest) {i : Nat} (hi : ∀ d ∈ ds i, d ∉ rest) : Closed ds (without i rest) := by
  intro j hj d hd hm
  obtain ⟨h1, h2⟩ := mem_without.1 hm
  by_cases hji : j = i
  · subst hji; exact hi d hd h1
  · exact hc j (fun h => hj (mem_without.2 ⟨h, hji⟩)) d hd h1

theorem Topo.all {rest l : List Nat} (h : Topo ds rest l) : ∀ x ∈ rest, x ∈ l := by
  induction h with
  | nil => intro x hx; exact hx
  | cons h1 h2 h3 ih =>
    rename_i rest i l
    intro x hx
    by_cases e : x = i
    · subst e; exact List.mem_cons_self
    · exact List.mem_cons_of_mem _ (ih x (mem_without.2 ⟨hx, e⟩))
theorem Topo.sub {rest l : List Nat} (h : Topo ds rest l) : ∀ x ∈ l, x ∈ rest := by
  induction h with
  | nil => intro x hx; exact hx
  | cons h1 h2 h3 ih =>
    intro x hx
    rcases List.mem_cons.1 hx with rfl | hx
    · exact h1
    · exact (mem_without.1 (ih x hx)).1

theorem Topo.remove {i : Nat} : ∀ (l1 : List Nat) {rest l2 : List Nat}, Topo ds rest (l1 ++ i :: l2) → Topo ds (without i rest) (l1 ++ l2) := by
  intro l1
  induction l1 with
  | nil => intro rest l2 h; cases h with | cons _ _ h3 => exact h3
  | cons j l1 ih =>
    intro rest l2 h
    cases h with
    | cons h1 h2 h3 =>
      have hi : i ∈ without j rest := h3.sub i (by simp)
      refine .cons (mem_without.2 ⟨h1, fun e => (mem_without.1 hi).2 e.symm⟩) (fun d hd hm => h2 d hd (mem_without.1 hm).1) ?_
      rw [without_comm]; exact ih h3

theorem Topo.unrelated {i f : Nat} : ∀ (l1 : List Nat) {rest l2 : List Nat}, Closed ds rest → Topo ds rest (l1 ++ i :: l2) → ∀ j ∈ l1, anc ds f j i = false ∧ j ≠ i ∧ j ∈ rest := by
  intro l1
  induction l1 with
  | nil => intro rest l2 _ _ j hj; cases hj
  | cons j0 l1 ih =>
    intro rest l2 hc h j hj
    have hi : i ∈ rest := h.sub i (by simp)
    cases h with
    | cons h1 h2 h3 =>
      have hi' : i ∈ without j0 rest := h3.sub i (by simp)
      rcases List.mem_cons.1 hj with rfl | hj
      · refine ⟨?_, fun e => (mem_without.1 hi').2 e.symm, h1⟩
        cases ha : anc ds f j i with
        | false => rfl
        | true => exact absurd hi (anc_out hc f j i h2 ha)
      · obtain ⟨h4, h5, h6⟩ := ih (hc.without h2) h3 j hj
        exact ⟨h4, h5, (mem_without.1 h6).1⟩

/-- The orders that stand for all. -/
def reps (A : Nat → AOper) (ds : Nat → List Nat) : Nat → List Nat → List (List Nat)
  | 0, _ => [[]]
  | f + 1, rest =>
    match rest with
    | [] => [[]]
    | _ :: _ =>
      let rd := rest.filter fun i => (ds i).all fun d => !(inL d rest)
      match rd.find? fun i => rest.all fun j => Nat.beq j i || (anc ds rest.length j i || comm (A i) (A j)) with
      | some i => (reps A ds f (without i rest)).map (i :: ·)
      | none => rd.flatMap fun i => (reps A ds f (without i rest)).map (i :: ·)

theorem without_len {i : Nat} {rest : List Nat} (h : i ∈ rest) : (without i rest).length < rest.length := by
  unfold without
  refine List.length_filter_lt_length_iff_exists.2 ⟨i, h, by simp [Nat.beq_refl]⟩

theorem move_front {A : Nat → AOper} {X : AV → Env → Hp → Prop} (hx : XOk X) {i : Nat} : ∀ (l1 l2 : List Nat), (∀ j ∈ l1, comm (A i) (A j) = true) → ∀ (K : Env → Hp → Prop) (e : Env) (h : Hp),
    LOps P ((i :: (l1 ++ l2)).map A) K X e h → LOps P ((l1 ++ i :: l2).map A) K X e h := by
  intro l1
  induction l1 with
  | nil => intro l2 _ K e h hl; exact hl
  | cons j l1 ih =>
    intro l2 hc K e h hl
    simp only [List.cons_append, List.map_cons] at hl ⊢
    have h2 := swap (hc j List.mem_cons_self) hx hl
    rw [LOps_cons] at h2 ⊢
    exact step_mono h2 (fun e h hr => ih l2 (fun j hj => hc j (List.mem_cons_of_mem _ hj)) K e h (by simpa using hr)) (fun _ _ _ h => h)

theorem reps_ok {A : Nat → AOper} : ∀ (f : Nat) (rest l : List Nat), rest.length ≤ f → Closed ds rest → Topo ds rest l →
    ∃ l' ∈ reps A ds f rest, ∀ (K : Env → Hp → Prop) (X : AV → Env → Hp → Prop), XOk X → ∀ e h, LOps P (l'.map A) K X e h → LOps P (l.map A) K X e h := by
  intro f
  induction f with
  | zero =>
    intro rest l hf hc ht
    have : rest = [] := List.eq_nil_of_length_eq_zero (by omega)
    subst this
    cases ht with
    | nil => exact ⟨[], by simp [reps], fun K X _ e h hl => hl⟩
    | cons h1 => cases h1
  | succ f ih =>
    intro rest l hf hc ht
    cases hr : rest with
    | nil =>
      subst hr
      cases ht with
      | nil => exact ⟨[], by simp [reps], fun K X _ e h hl => hl⟩
      | cons h1 => cases h1
    | cons r0 rs =>
      rw [← hr]
      have hreps : reps A ds (f + 1) rest = (match (rest.filter fun i => (ds i).all fun d => !(inL d rest)).find? fun i => rest.all fun j => Nat.beq j i || (anc ds rest.length j i || comm (A i) (A j)) with
          | some i => (reps A ds f (without i rest)).map (i :: ·)
          | none => (rest.filter fun i => (ds i).all fun d => !(inL d rest)).flatMap fun i => (reps A ds f (without i rest)).map (i :: ·)) := by
        rw [hr]; rfl
      rw [hreps]
      have rdy : ∀ i, i ∈ (rest.filter fun i => (ds i).all fun d => !(inL d rest)) ↔ i ∈ rest ∧ ∀ d ∈ ds i, d ∉ rest := by
        intro i
        simp only [List.mem_filter, List.all_eq_true, Bool.not_eq_true', and_congr_right_iff]
        intro _
        refine ⟨fun h d hd hm => ?_, fun h d hd => ?_⟩
        · have := h d hd; rw [inL_iff.2 hm] at this; cases this
        · cases hh : inL d rest with
          | false => rfl
          | true => exact absurd (inL_iff.1 hh) (h d hd)
      split
      · rename_i i hfind
        have hi := (rdy i).1 (List.mem_of_find?_eq_some hfind)
        have hcond := List.find?_some hfind
        simp only [List.all_eq_true, Bool.or_eq_true] at hcond
        obtain ⟨l1, l2, rfl⟩ := List.append_of_mem (ht.all i hi.1)
        have hcm : ∀ j ∈ l1, comm (A i) (A j) = true := fun j hj => by
          obtain ⟨h1, h2, h3⟩ := Topo.unrelated (f := rest.length) l1 hc ht j hj
          rcases hcond j h3 with h4 | h4 | h4
          · exact absurd (Nat.eq_of_beq_eq_true h4) h2
          · rw [h1] at h4; cases h4
          · exact h4
        obtain ⟨l', hl', hk⟩ := ih (without i rest) (l1 ++ l2) (by have := without_len hi.1; omega) (hc.without hi.2) (Topo.remove l1 ht)
        refine ⟨i :: l', List.mem_map.2 ⟨l', hl', rfl⟩, fun K X hx e h hl => move_front hx l1 l2 hcm K e h ?_⟩
        rw [List.map_cons, LOps_cons] at hl ⊢
        exact step_mono hl (fun e h hr => hk K X hx e h hr) (fun _ _ _ h => h)
      · cases ht with
        | nil => cases hr
        | cons h1 h2 h3 =>
          rename_i i l
          obtain ⟨l', hl', hk⟩ := ih (without i rest) l (by have := without_len h1; omega) (hc.without h2) h3
          refine ⟨i :: l', List.mem_flatMap.2 ⟨i, (rdy i).2 ⟨h1, h2⟩, List.mem_map.2 ⟨l', hl', rfl⟩⟩, fun K X hx e h hl => ?_⟩
          rw [List.map_cons, LOps_cons] at hl ⊢
          exact step_mono hl (fun e h hr => hk K X hx e h hr) (fun _ _ _ h => h)

/-! ### The model's orders -/

def depsOf (ops : Array Oper) (i : Nat) : List Nat :=
  match ops[i]? with
  | none => []
  | some o => (o.after.toList.filter (Region.binds .any)).map (·.on)

def depsOk (ops : Array Oper) : Bool := (List.range ops.size).all fun i => (depsOf ops i).all fun d => Nat.blt d i

def restOf (ops : Array Oper) (listed : Array Bool) : List Nat := (List.range ops.size).filter fun i => !listed.getD i true

theorem mem_rest {ops : Array Oper} {listed : Array Bool} {i : Nat} : i ∈ restOf ops listed ↔ i < ops.size ∧ listed.getD i true = false := by
  simp [restOf, List.mem_filter]

theorem ready_iff {ops : Array Oper} {listed : Array Bool} {i : Nat} : i ∈ Region.ready .any ops listed ↔ i ∈ restOf ops listed ∧ ∀ d ∈ depsOf ops i, listed.getD d false = true := by
  unfold Region.ready
  rw [List.mem_filter, mem_rest, List.mem_range]
  simp only [Bool.and_eq_true, Bool.not_eq_true', and_assoc]
  refine and_congr_right fun hi => and_congr_right fun _ => ?_
  unfold depsOf
  rw [Array.getElem?_eq_getElem hi]
  simp only [Option.map_some, Option.getD_some, List.mem_map, List.mem_filter, Array.mem_toList_iff]
  rw [Array.all_eq_true_iff_forall_mem]
  constructor
  · rintro h d ⟨e, ⟨h1, h2⟩, rfl⟩
    have := h e h1
    simpa [h2] using this
  · intro h e he
    cases hb : Region.binds .any e with
    | false => rfl
    | true => simpa [hb] using h e.on ⟨e, ⟨he, hb⟩, rfl⟩

theorem deps_lt {ops : Array Oper} (hd : depsOk ops = true) {i d : Nat} (h : d ∈ depsOf ops i) : d < i := by
  by_cases hi : i < ops.size
  · simp only [depsOk, List.all_eq_true] at hd
    have := hd i (List.mem_range.2 hi) d h
    exact Nat.le_of_ble_eq_true this
  · unfold depsOf at h
    rw [Array.getElem?_eq_none (by omega)] at h
    cases h

theorem rest_set {ops : Array Oper} {listed : Array Bool} (hs : listed.size = ops.size) {i : Nat} (hi : i ∈ restOf ops listed) : restOf ops (listed.setIfInBounds i true) = without i (restOf ops listed) := by
  unfold restOf without
  rw [List.filter_filter]
  apply List.filter_congr
  intro j hj
  have hil := (mem_rest.1 hi).1
  simp only [Array.getD_eq_getD_getElem?, Array.getElem?_setIfInBounds]
  by_cases e : i = j
  · subst e; simp [hs, hil, Nat.beq_refl]
  · have : Nat.beq j i = false := by
      cases hb : Nat.beq j i with
      | false => rfl
      | true => exact absurd (Nat.eq_of_beq_eq_true hb).symm e
    simp [e, this]

theorem topo_linear {ops : Array Oper} (hd : depsOk ops = true) : ∀ (fuel t : Nat) (listed : Array Bool), listed.size = ops.size → (restOf ops listed).length ≤ fuel →
    Topo (depsOf ops) (restOf ops listed) (Region.linearise.go .any ops fuel t listed []) := by
  intro fuel
  induction fuel with
  | zero =>
    intro t listed hs hf
    have : restOf ops listed = [] := List.eq_nil_of_length_eq_zero (by omega)
    rw [this]; exact .nil
  | succ fuel ih =>
    intro t listed hs hf
    simp only [Region.linearise.go]
    change Topo _ _ (match (Region.ready .any ops listed)[t % (Region.ready .any ops listed).length]? with
      | some i => Region.linearise.go .any ops fuel (t / (Region.ready .any ops listed).length) (listed.setIfInBounds i true) [i]
      | none => [].reverse)
    cases hi : (Region.ready .any ops listed)[t % (Region.ready .any ops listed).length]? with
    | none =>
      have hnil : Region.ready .any ops listed = [] := by
        cases hr : Region.ready .any ops listed with
        | nil => rfl
        | cons x xs =>
          rw [hr] at hi
          have hlt : t % (x :: xs).length < (x :: xs).length := Nat.mod_lt _ (by simp)
          simp at hi
          simp at hlt
          omega
      -- nothing may come up: nothing is left
      have : restOf ops listed = [] := by
        have none_ : ∀ i, i ∉ restOf ops listed := by
          intro i
          induction i using Nat.strongRecOn with
          | _ i ihi =>
            intro hm
            have : i ∈ Region.ready .any ops listed := ready_iff.2 ⟨hm, fun d hdm => by
              have hlt := deps_lt hd hdm
              have h1 := ihi d hlt
              have h2 := (mem_rest.1 hm).1
              cases hg : listed.getD d true with
              | true =>
                rw [Array.getD_eq_getD_getElem?, Array.getElem?_eq_getElem (by omega)] at hg ⊢
                simpa using hg
              | false => exact absurd (mem_rest.2 ⟨by omega, hg⟩) h1⟩
            rw [hnil] at this; cases this
        exact List.eq_nil_iff_forall_not_mem.2 none_
      rw [this]; exact .nil
    | some i =>
      simp only []
      rw [linearise_go_acc, List.reverse_singleton, List.singleton_append]
      obtain ⟨h1, h2⟩ := ready_iff.1 (List.mem_of_getElem? hi)
      refine .cons h1 (fun d hdm hm => ?_) ?_
      · have h3 := h2 d hdm
        have h4 := (mem_rest.1 hm)
        rw [Array.getD_eq_getD_getElem?, Array.getElem?_eq_getElem (by omega)] at h3
        rw [Array.getD_eq_getD_getElem?, Array.getElem?_eq_getElem (by omega)] at h4
        simp at h3 h4
        rw [h3] at h4; cases h4.2
      · rw [← rest_set hs h1]
        refine ih _ _ (by simpa using hs) ?_
        rw [rest_set hs h1]
        have := without_len h1
        omega

theorem closed_all (ops : Array Oper) : Closed (depsOf ops) (List.range ops.size) := by
  intro j hj d hd
  rw [List.mem_range] at hj
  unfold depsOf at hd
  rw [Array.getElem?_eq_none (by omega)] at hd
  cases hd

theorem compIdx_get {n : Nat} {ops : Array Oper} : ∀ {l : List Nat} {la : List AOper}, compIdx P n ops l = some la → ∀ (k i : Nat), l[k]? = some i → ∃ o a, ops[i]? = some o ∧ compOper P n ops o = some a ∧ la[k]? = some a := by
  intro l
  induction l with
  | nil => intro la _ k i h; simp at h
  | cons j r ih =>
    intro la h k i hk
    unfold compIdx at h
    split at h <;> first | cases h | skip
    rename_i o ho
    split at h <;> first | cases h | skip
    rename_i a lr ha hlr
    cases k with
    | zero => simp at hk; subst hk; exact ⟨o, a, ho, ha, rfl⟩
    | succ k => exact ih hlr k i (by simpa using hk)

theorem compIdx_all {n : Nat} {ops : Array Oper} {la : List AOper} (h : compIdx P n ops (List.range ops.size) = some la) : ∀ (l : List Nat), (∀ i ∈ l, i < ops.size) → compIdx P n ops l = some (l.map fun i => la.getD i default) := by
  intro l
  induction l with
  | nil => intro _; rfl
  | cons i r ih =>
    intro hl
    obtain ⟨o, a, h1, h2, h3⟩ := compIdx_get h i i (by rw [List.getElem?_range (hl i List.mem_cons_self)])
    unfold compIdx
    simp only [h1, h2, ih fun j hj => hl j (List.mem_cons_of_mem _ hj)]
    simp [h3]
end
end Go.L
