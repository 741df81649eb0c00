/-
  The logic L, part n2: regions that draw their order: the orders that stand for all.
-/
import Derived.Test.YtpmjgnpkbmfimaaGreatDoorLn
import Derived.OrdersIn
namespace Go.L

section
variable {P : Program} {md : Bool}

theorem LOps_cons (o : AOper) (r : List AOper) (K : Env → Hp → Prop) (X : AV → Env → Hp → Prop) (e : Env) (h : Hp) : LOps P md (o :: r) K X e h = LOps P md [o] (fun e h => LOps P md r K X e h) X e h := by
  obtain ⟨d, op, g⟩ := o
  cases g with
  | none => rfl
  | some g => obtain ⟨t, b⟩ := g; rfl

/-- Asked of a panic: nothing of the temporaries. -/
def XOk (X : AV → Env → Hp → Prop) : Prop := ∀ v e h g, X v e h → X v ⟨e.n, g, e.ds⟩ h

def AOper.reads (o : AOper) : List Nat :=
  match o.guard with
  | none => o.op.tmps
  | some (t, _) => t :: o.op.tmps

theorem bcase_iff {c b : Bool} {X Y : Prop} : bcase c b X Y ↔ (c = b ∧ X) ∨ (c ≠ b ∧ Y) := by
  cases c <;> cases b <;> simp [bcase]

/-- One operation: is it wanted? -/
theorem step_iff {o : AOper} {K : Env → Hp → Prop} {X : AV → Env → Hp → Prop} {e : Env} {h : Hp} : LOps P md [o] K X e h ↔
    ((o.guard = none ∨ ∃ t b, o.guard = some (t, b) ∧ e.t t = .bool b) ∧ LOp P md o.op e h (fun v h' => K (e.put o.dst v) h') (fun v h' => X v e h')) ∨
    ((∃ t b, o.guard = some (t, b) ∧ ((∃ c, e.t t = .bool c ∧ c ≠ b) ∨ ∃ l, e.t t = .tup l)) ∧ K (e.put o.dst (.tup [])) h) := by
  obtain ⟨d, op, g⟩ := o
  have hf : (fun v (h' : Hp) => force v fun v => LOps P md [] K X (e.put d v) h') = fun v h' => K (e.put d v) h' := by funext v h'; rw [force_eq]; rfl
  cases g with
  | none =>
    simp only [LOps]
    show LOp P md op e h (fun v (h' : Hp) => force v fun v => LOps P md [] K X (e.put d v) h') _ ↔ _
    rw [hf]
    simp
  | some g =>
    obtain ⟨t, b⟩ := g
    simp only [LOps]
    constructor
    · intro hl
      split at hl <;> first | exact hl.elim | skip
      · rename_i c hc
        rcases bcase_iff.1 hl with ⟨h1, h2⟩ | ⟨h1, h2⟩
        · left
          have h2' : LOp P md op e h (fun v (h' : Hp) => force v fun v => LOps P md [] K X (e.put d v) h') (fun v h' => X v e h') := h2
          rw [hf] at h2'
          exact ⟨.inr ⟨t, b, rfl, by rw [hc, h1]⟩, h2'⟩
        · right; exact ⟨⟨t, b, rfl, .inl ⟨c, hc, h1⟩⟩, h2⟩
      · rename_i l hl'
        right; exact ⟨⟨t, b, rfl, .inr ⟨l, hl'⟩⟩, hl⟩
    · intro hl
      rcases hl with ⟨h1, h2⟩ | ⟨⟨t', b', h1, h2⟩, h3⟩
      · rcases h1 with h1 | ⟨t', b', h1, h3⟩
        · cases h1
        · cases h1
          rw [h3]
          refine bcase_iff.2 (.inl ⟨rfl, ?_⟩)
          show LOp P md op e h (fun v (h' : Hp) => force v fun v => LOps P md [] K X (e.put d v) h') _
          rw [hf]; exact h2
      · cases h1
        rcases h2 with ⟨c, h4, h5⟩ | ⟨l, h4⟩
        · rw [h4]; exact bcase_iff.2 (.inr ⟨h5, h3⟩)
        · rw [h4]; exact h3

theorem step_mono {o : AOper} {K K' : Env → Hp → Prop} {X X' : AV → Env → Hp → Prop} {e : Env} {h : Hp} (hl : LOps P md [o] K X e h) (hk : ∀ e h, K e h → K' e h) (hx : ∀ v e h, X v e h → X' v e h) : LOps P md [o] K' X' e h := by
  rw [step_iff] at hl ⊢
  exact hl.imp (fun ⟨h1, h2⟩ => ⟨h1, LOp_mono h2 (fun _ _ => hk _ _) (fun _ _ => hx _ _ _)⟩) fun ⟨h1, h2⟩ => ⟨h1, hk _ _ h2⟩

theorem LOps_mono : ∀ {l : List AOper} {K K' : Env → Hp → Prop} {X X' : AV → Env → Hp → Prop} {e : Env} {h : Hp}, LOps P md l K X e h → (∀ e h, K e h → K' e h) → (∀ v e h, X v e h → X' v e h) → LOps P md l K' X' e h := by
  intro l
  induction l with
  | nil => intro K K' X X' e h hl hk _; exact hk _ _ hl
  | cons o r ih =>
    intro K K' X X' e h hl hk hx
    rw [LOps_cons] at hl ⊢
    exact step_mono hl (fun e h hr => ih hr hk hx) hx

theorem put_comm {e : Env} {a b : Option Nat} {u v : AV} (hn : ∀ x, a = some x → b ≠ some x) : (e.put a u).put b v = (e.put b v).put a u := by
  cases a with
  | none => rfl
  | some a =>
    cases b with
    | none => rfl
    | some b =>
      have hab : b ≠ a := fun h => hn a rfl (by rw [h])
      simp only [Env.put, Env.mk.injEq, true_and, and_true]
      funext x
      cases h1 : Nat.beq x b with
      | false => rfl
      | true =>
        cases h2 : Nat.beq x a with
        | false => rfl
        | true => exact absurd ((Nat.eq_of_beq_eq_true h1).symm.trans (Nat.eq_of_beq_eq_true h2)) hab

theorem put_other {e : Env} {a : Option Nat} {u : AV} {t : Nat} (hn : a ≠ some t) : (e.put a u).t t = e.t t := by
  cases a with
  | none => rfl
  | some a =>
    simp only [Env.put]
    cases h1 : Nat.beq t a with
    | false => rfl
    | true => exact absurd (by rw [Nat.eq_of_beq_eq_true h1]) hn

def off (d : Option Nat) (l : List Nat) : Bool :=
  match d with
  | none => true
  | some d => !(l.any fun x => Nat.beq x d)

theorem off_ok {d : Option Nat} {l : List Nat} (h : off d l = true) : ∀ t ∈ l, d ≠ some t := by
  intro t ht hd
  subst hd
  simp only [off, Bool.not_eq_true', List.any_eq_false] at h
  exact h t ht (Nat.beq_refl t)

def dstNe (a b : Option Nat) : Bool :=
  match a, b with
  | some x, some y => !(Nat.beq x y)
  | _, _ => true
theorem dstNe_ok {a b : Option Nat} (h : dstNe a b = true) : ∀ x, a = some x → b ≠ some x := by
  intro x ha hb
  subst ha; subst hb
  simp [dstNe, Nat.beq_refl] at h

def isP : AOp → Bool
  | .pcall .. | .pcallv .. | .fslice .. | .nilm _ => true
  | _ => false
/-- A call that leaves what is there. -/
def isC : AOp → Bool
  | .acall .. | .acallv .. => true
  | _ => false
/-- Changes nothing that is there. -/
def isRO (o : AOp) : Bool := isN o || isP o
/-- Makes a block. -/
def isA : AOp → Bool
  | .box .. | .bslice .. | .mkmap | .mkslice .. | .mnz .. | .s2b .. => true
  | _ => false

/-- i may be moved over j. -/
def comm (i j : AOper) : Bool := ((isRO i.op && (isRO j.op || ((isA j.op || isC j.op) || i.op.hfree))) || ((isA i.op || isC i.op) && isA j.op)) && (off i.dst j.reads && (off j.dst i.reads && dstNe i.dst j.dst))

theorem reads_op {o : AOper} : ∀ t ∈ o.op.tmps, t ∈ o.reads := by
  intro t ht
  unfold AOper.reads
  split
  · exact ht
  · exact List.mem_cons_of_mem _ ht
theorem reads_guard {o : AOper} {t : Nat} {b : Bool} (h : o.guard = some (t, b)) : t ∈ o.reads := by
  unfold AOper.reads; rw [h]; exact List.mem_cons_self

theorem bndO_agree {e e2 : Env} {x : Option AOpd} {d : Nat} {N : Nat → Prop} (h : Agree (otmO x) e e2) : bndO e d x N = bndO e2 d x N := h.bnd

/-- What only reads finds the same where a block has come. -/
theorem LN_grow {o : AOp} {e : Env} {h h2 : Hp} {N : AV → Prop} (hle : h.le h2) (hl : LN o e h N) : LN o e h2 N := by
  have key : ∀ {i : Nat} {x : Blk}, h i = some x → h2 i = some x := fun {i x} hi => hle i x hi
  cases o <;> first | exact hl | skip
  case iaddr T z x i =>
    simp only [LN] at hl ⊢
    split at hl <;> first | exact hl.elim | exact hl | skip
    obtain ⟨k, h1, h2, ⟨es, h3⟩, h4⟩ := hl
    exact ⟨k, h1, h2, ⟨es, key h3⟩, h4⟩
  case ld1 x =>
    simp only [LN] at hl ⊢
    split at hl <;> first | exact hl.elim | exact hl | skip
    obtain ⟨T, es, cs, v, h1, h2⟩ := hl
    exact ⟨T, es, cs, v, key h1, h2⟩
  case lda n x =>
    simp only [LN] at hl ⊢
    split at hl <;> first | exact hl.elim | exact hl | skip
    obtain ⟨T, es, cs, h1, h2⟩ := hl
    exact ⟨T, es, cs, key h1, h2⟩
  case slcl T z x lo hi mx =>
    simp only [LN] at hl ⊢
    split at hl <;> first | exact hl.elim | exact hl | skip
    obtain ⟨⟨es, h1⟩, h2⟩ := hl
    exact ⟨⟨es, key h1⟩, h2⟩
  case mlook m z ok x k =>
    simp only [LN] at hl ⊢
    split at hl <;> first | exact hl.elim | exact hl | skip
    obtain ⟨es, c, h1, h2⟩ := hl
    exact ⟨es, c, key h1, h2⟩
  case mlen x =>
    simp only [LN] at hl ⊢
    split at hl <;> first | exact hl.elim | exact hl | skip
    obtain ⟨es, c, h1, h2⟩ := hl
    exact ⟨es, c, key h1, h2⟩
  case entr x =>
    simp only [LN] at hl ⊢
    split at hl <;> first | exact hl.elim | exact hl | skip
    obtain ⟨m, since, seen, stepped, es, c, k, v, b, h1, h2, h3⟩ := hl
    exact ⟨m, since, seen, stepped, es, c, k, v, b, key h1, key h2, h3⟩
  case upc x =>
    simp only [LN] at hl ⊢
    split at hl <;> first | exact hl.elim | exact hl | skip
    obtain ⟨T, es, cs, h1, h2⟩ := hl
    exact ⟨T, es, cs, key h1, h2⟩
  case upt T x =>
    simp only [LN] at hl ⊢
    split at hl <;> first | exact hl.elim | exact hl | skip
    obtain ⟨es, h1, h2⟩ := hl
    exact ⟨es, key h1, h2⟩
  case b2s x =>
    simp only [LN] at hl ⊢
    split at hl <;> first | exact hl.elim | skip
    obtain ⟨es, s, h1, h2⟩ := hl
    refine ⟨es, s, ?_, h2⟩
    generalize ev e x = v at h1
    cases v <;> first | exact h1 | skip
    obtain ⟨T, es0, h3, h4⟩ := h1
    exact ⟨T, es0, key h3, h4⟩

/-- An operation that changes nothing picks one value. -/
theorem ro_one {o : AOp} (hi : isRO o = true) {e : Env} {h : Hp} {next X : AV → Hp → Prop} (hl : LOp P md o e h next X) :
    ∃ v, next v h ∧ ∀ (next' X' : AV → Hp → Prop) (e2 : Env) (h2 : Hp), Agree o.tmps e e2 → (o.hfree = true ∨ h.le h2) → next' v h2 → LOp P md o e2 h2 next' X' := by
  cases hn : isN o with
  | true =>
    obtain ⟨v, h4, h5⟩ := LN_one (LOp_N hn hl)
    refine ⟨v, h4, fun next' X' e2 h2 ha hh hk => ?_⟩
    rw [← LOp_congr ha]
    have h6 := h5 (fun u => u = v) rfl
    have h7 : LN o e h2 (fun u => u = v) := by
      rcases hh with hh | hh
      · rw [LN_hfree hh h2 h]; exact h6
      · exact LN_grow hh h6
    exact LN_LOp hn (LN_mono h7 fun u hu => by rw [hu]; exact hk)
  | false =>
    have up : ∀ {c : Bool} {h2 : Hp} {f : FuncId} {args : List AV} {v : AV}, (c = true ∨ h.le h2) → c = false → PureAt P f args h v → PureAt P f args h2 v := by
      rintro c h2 f args v (hh | hh) hc k
      · rw [hc] at hh; cases hh
      · exact fun h' hle => k h' (Hp.le_trans hh hle)
    cases o <;> first | (simp [isRO, hn, isP] at hi; done) | skip
    case pcall f args =>
      obtain ⟨v, h1, h2⟩ := hl
      refine ⟨v, h2, fun next' X' e2 h2 ha hh hk => ?_⟩
      rw [← LOp_congr ha]; exact ⟨v, up hh (by simp [AOp.hfree]) h1, hk⟩
    case pcallv x args =>
      have hl0 := hl
      simp only [LOp] at hl
      split at hl <;> first | exact hl.elim | skip
      rename_i f first cap hv
      obtain ⟨h0, v, h1, h2⟩ := hl
      refine ⟨v, h2, fun next' X' e2 h2 ha hh hk => ?_⟩
      rw [← LOp_congr ha]
      simp only [LOp, hv]; exact ⟨h0, v, up hh (by simp [AOp.hfree]) h1, hk⟩
    case nilm x =>
      have hl0 := hl
      simp only [LOp] at hl
      split at hl <;> first | exact hl.elim | skip
      · rename_i hv
        refine ⟨_, hl, fun next' X' e2 h2 ha _ hk => ?_⟩
        rw [← LOp_congr ha]
        simp only [LOp, hv]; exact hk
      · rename_i hv
        refine ⟨_, hl.2, fun next' X' e2 h2 ha _ hk => ?_⟩
        rw [← LOp_congr ha]
        simp only [LOp, hv]; exact ⟨hl.1, hk⟩
    case fslice T z n zs p =>
      obtain ⟨cs, h1, h2⟩ := hl
      refine ⟨_, h2, fun next' X' e2 h2 ha _ hk => ?_⟩
      rw [← LOp_congr ha]; exact ⟨cs, h1, hk⟩

/-- What an operation makes. -/
def aForm (e : Env) : AOp → Option ((Nat → AV) × Blk)
  | .box T z x => cond (notTup (ev e x) && Nat.beq (ev e x).cells.length z) (some (fun i => .ptr i 0 0, .row T [(ev e x).cells])) none
  | .bslice T z n zero parts => match lay e (rep zero n) parts with
    | some cs => some (fun i => .slc i 0 n (some n), .row T (chunk z n cs))
    | none => none
  | .mkmap => some (fun i => .map i, .map [] 0)
  | .mkslice T _ by_ zero len cap => match ev e len, ev e cap with
    | .int _ l, .int _ c => cond (decide (0 ≤ l) && (decide (0 ≤ c) && (Nat.ble l.toNat c.toNat && (decide (c.toNat * by_ ≤ capMax) && decide (c.toNat ≤ capMax))))) (some (fun i => .slc i 0 l.toNat (some c.toNat), .row T (List.replicate c.toNat zero))) none
    | _, _ => none
  | .mnz T x => match ev e x with
    | .int .i64 n => cond (decide (0 ≤ n) && decide (n.toNat ≤ 281474976710656)) (some (fun i => .slc i 0 n.toNat none, .row T [])) none
    | _ => none
  | .s2b T x => match ev e x with
    | .str s => some (fun i => .slc i 0 s.length none, .row T (s.map fun b => [.int .u8 b.toNat]))
    | _ => none
  | _ => none

theorem aForm_iff {o : AOp} (hi : isA o = true) {e : Env} {h : Hp} {next X : AV → Hp → Prop} : LOp P md o e h next X ↔ ∃ f, aForm e o = some f ∧ allocN md h fun a => next (f.1 a) (h.set a f.2) := by
  cases o <;> first | (simp [isA] at hi; done) | skip
  case box T z x =>
    simp only [LOp, aForm]
    constructor
    · rintro ⟨h1, h2, h3⟩; exact ⟨_, by rw [h1, h2, Nat.beq_refl]; rfl, h3⟩
    · rintro ⟨f, h1, h2⟩
      cases hc : (notTup (ev e x) && Nat.beq (ev e x).cells.length z) <;> rw [hc] at h1 <;> cases h1
      simp only [Bool.and_eq_true] at hc
      exact ⟨hc.1, Nat.eq_of_beq_eq_true hc.2, h2⟩
  case bslice T z n zs p =>
    simp only [LOp, aForm]
    constructor
    · rintro ⟨cs, h1, h2⟩; exact ⟨_, by rw [h1], h2⟩
    · rintro ⟨f, h1, h2⟩
      split at h1 <;> cases h1
      rename_i cs hcs
      exact ⟨cs, hcs, h2⟩
  case mkmap =>
    simp only [LOp, aForm]
    exact ⟨fun h => ⟨_, rfl, h⟩, fun ⟨f, h1, h2⟩ => by cases h1; exact h2⟩
  case mkslice T z b zs l c =>
    simp only [LOp, aForm]
    constructor
    · intro hl
      split at hl <;> first | exact hl.elim | skip
      rename_i h1 h2
      obtain ⟨l', c', rfl, rfl, h3, h4, h5, h6⟩ := hl
      refine ⟨(fun i => .slc i 0 l' (some c'), .row T (List.replicate c' zs)), ?_, h6⟩
      have : (decide ((0 : Int) ≤ l') && (decide ((0 : Int) ≤ c') && (Nat.ble (l' : Int).toNat (c' : Int).toNat && (decide ((c' : Int).toNat * b ≤ capMax) && decide ((c' : Int).toNat ≤ capMax))))) = true := by
        simp only [Int.toNat_natCast, Bool.and_eq_true, decide_eq_true_eq]
        exact ⟨by omega, by omega, Nat.ble_eq_true_of_le h3, h4, h5⟩
      simp only [h1, h2]; rw [this]; simp
    · rintro ⟨f, h1, h2⟩
      split at h1 <;> first | cases h1 | skip
      rename_i k1 l k2 c q1 q2
      cases hc : (decide (0 ≤ l) && (decide (0 ≤ c) && (Nat.ble l.toNat c.toNat && (decide (c.toNat * b ≤ capMax) && decide (c.toNat ≤ capMax))))) <;> rw [hc] at h1 <;> cases h1
      simp only [Bool.and_eq_true, decide_eq_true_eq] at hc
      obtain ⟨h3, h4, h5, h6, h7⟩ := hc
      simp only [q1, q2]
      exact ⟨l.toNat, c.toNat, by omega, by omega, Nat.le_of_ble_eq_true h5, h6, h7, h2⟩
  case mnz T x =>
    simp only [LOp, aForm]
    constructor
    · intro hl
      split at hl <;> first | exact hl.elim | skip
      rename_i n h1
      obtain ⟨m, rfl, h2, h3⟩ := hl
      refine ⟨(fun i => .slc i 0 m none, .row T []), ?_, h3⟩
      have : (decide ((0 : Int) ≤ m) && decide ((m : Int).toNat ≤ 281474976710656)) = true := by
        simp only [Int.toNat_natCast, Bool.and_eq_true, decide_eq_true_eq]; exact ⟨by omega, h2⟩
      simp only [h1]; rw [this]; simp
    · rintro ⟨f, h1, h2⟩
      split at h1 <;> first | cases h1 | skip
      rename_i n q1
      cases hc : (decide (0 ≤ n) && decide (n.toNat ≤ 281474976710656)) <;> rw [hc] at h1 <;> cases h1
      simp only [Bool.and_eq_true, decide_eq_true_eq] at hc
      simp only [q1]
      exact ⟨n.toNat, by omega, hc.2, h2⟩
  case s2b T x =>
    simp only [LOp, aForm]
    constructor
    · intro hl
      split at hl <;> first | exact hl.elim | skip
      rename_i s h1
      refine ⟨(fun i => .slc i 0 s.length none, .row T (s.map fun b => [.int .u8 b.toNat])), ?_, hl⟩
      simp only [h1]
    · rintro ⟨f, h1, h2⟩
      split at h1 <;> first | cases h1 | skip
      rename_i s q1
      simp only [q1]; exact h2

theorem aForm_congr {o : AOp} {e e2 : Env} (ha : Agree o.tmps e e2) : aForm e o = aForm e2 o := by
  cases o <;> first | rfl | skip
  case box T z x => simp only [AOp.tmps] at ha; simp only [aForm]; rw [ha.ev]
  case bslice T z n zs p => simp only [AOp.tmps] at ha; simp only [aForm]; rw [ha.lay]
  case mkslice T z b zs l c => simp only [AOp.tmps] at ha; simp only [aForm]; rw [ha.l.ev, ha.r.ev]
  case mnz T x => simp only [AOp.tmps] at ha; simp only [aForm]; rw [ha.ev]
  case s2b T x => simp only [AOp.tmps] at ha; simp only [aForm]; rw [ha.ev]

/-- What an operation makes, a call among them. -/
def AF (P : Program) (e : Env) (h : Hp) (o : AOp) (K : Nat) (V : Nat → AV) (B : Nat → Nat → Option Blk) : Prop :=
  match o with
  | .acall f args => PureAd P f (args.map (ev e)) h K V B
  | .acallv x args => match ev e x with
    | .func (.func f) first cap => HasBody P f ∧ PureAd P f (first ++ args.map (ev e) ++ cap) h K V B
    | _ => False
  | o => ∃ g, aForm e o = some g ∧ K = 1 ∧ V = g.1 ∧ B = fun _ _ => some g.2

theorem AF_plain {e : Env} {h : Hp} {o : AOp} (hi : isA o = true) {K : Nat} {V : Nat → AV} {B : Nat → Nat → Option Blk} : AF P e h o K V B ↔ ∃ g, aForm e o = some g ∧ K = 1 ∧ V = g.1 ∧ B = fun _ _ => some g.2 := by
  cases o <;> first | exact Iff.rfl | (simp [isA] at hi; done)

theorem AF_iff {o : AOp} (hi : (isA o || isC o) = true) {e : Env} {h : Hp} {next X : AV → Hp → Prop} : LOp P md o e h next X ↔ ∃ K V B, AF P e h o K V B ∧ allocK md h K fun b => next (V b) (h.adopt b K (B b)) := by
  cases ha : isA o with
  | true =>
    rw [aForm_iff ha]
    constructor
    · rintro ⟨f, h1, h2⟩
      exact ⟨1, f.1, fun _ _ => some f.2, (AF_plain ha).2 ⟨f, h1, rfl, rfl, rfl⟩, (allocN_K.1 h2).mono fun b hb => by rw [Hp.adopt_one]; exact hb⟩
    · rintro ⟨K, V, B, h1, h2⟩
      obtain ⟨f, h3, rfl, rfl, rfl⟩ := (AF_plain ha).1 h1
      exact ⟨f, h3, allocN_K.2 (h2.mono fun b hb => by rw [Hp.adopt_one] at hb; exact hb)⟩
  | false =>
    rw [ha, Bool.false_or] at hi
    cases o <;> first | (simp [isC] at hi; done) | skip
    case acall f args => exact Iff.rfl
    case acallv x args =>
      simp only [LOp, AF]
      constructor
      · intro hl
        split at hl <;> first | exact hl.elim | skip
        rename_i hv
        obtain ⟨h0, K, V, B, h1, h2⟩ := hl
        exact ⟨K, V, B, by simp only [hv]; exact ⟨h0, h1⟩, h2⟩
      · rintro ⟨K, V, B, h1, h2⟩
        split at h1 <;> first | exact h1.elim | skip
        rename_i hv
        simp only [hv]
        exact ⟨h1.1, K, V, B, h1.2, h2⟩

theorem AF_le {o : AOp} {e e2 : Env} (ha : Agree o.tmps e e2) {h h2 : Hp} (hle : h.le h2) {K : Nat} {V : Nat → AV} {B : Nat → Nat → Option Blk} (k : AF P e h o K V B) : AF P e2 h2 o K V B := by
  cases o
  case acall f args => simp only [AOp.tmps] at ha; simp only [AF] at k ⊢; rw [← ha.evs]; exact fun h' hh => k h' (Hp.le_trans hle hh)
  case acallv x args =>
    simp only [AOp.tmps] at ha
    simp only [AF] at k ⊢
    rw [← ha.l.ev, ← ha.r.evs]
    split at k <;> first | exact k.elim | skip
    exact ⟨k.1, fun h' hh => k.2 h' (Hp.le_trans hle hh)⟩
  all_goals
    obtain ⟨g, h1, h2⟩ := k
    exact ⟨g, by rw [← aForm_congr ha]; exact h1, h2⟩

def Runs (o : AOper) (e : Env) : Prop := o.guard = none ∨ ∃ t b, o.guard = some (t, b) ∧ e.t t = .bool b
def Skips (o : AOper) (e : Env) : Prop := ∃ t b, o.guard = some (t, b) ∧ ((∃ c, e.t t = .bool c ∧ c ≠ b) ∨ ∃ l, e.t t = .tup l)
theorem Runs.agree {o : AOper} {e e2 : Env} (ha : Agree o.reads e e2) (h : Runs o e) : Runs o e2 := by
  rcases h with h | ⟨t, b, h1, h2⟩
  · exact .inl h
  · exact .inr ⟨t, b, h1, by rw [← ha t (reads_guard h1)]; exact h2⟩
theorem Skips.agree {o : AOper} {e e2 : Env} (ha : Agree o.reads e e2) (h : Skips o e) : Skips o e2 := by
  obtain ⟨t, b, h1, h2⟩ := h
  exact ⟨t, b, h1, by rw [← ha t (reads_guard h1)]; exact h2⟩
theorem Agree.op {o : AOper} {e e2 : Env} (ha : Agree o.reads e e2) : Agree o.op.tmps e e2 := fun t ht => ha t (reads_op t ht)

/-- One operation, elsewhere. -/
theorem step_map {j : AOper} {K K' : Env → Hp → Prop} {X X' : AV → Env → Hp → Prop} {e e2 : Env} {h : Hp} (ha : Agree j.reads e e2) (hl : LOps P md [j] K X e h) (hk : ∀ u h', K (e.put j.dst u) h' → K' (e2.put j.dst u) h')
    (hx : ∀ v h', X v e h' → X' v e2 h') : LOps P md [j] K' X' e2 h := by
  rw [step_iff] at hl ⊢
  rcases hl with ⟨hg, hl⟩ | ⟨hg, hl⟩
  · refine .inl ⟨Runs.agree ha hg, ?_⟩
    rw [← LOp_congr ha.op]
    exact LOp_mono hl hk hx
  · exact .inr ⟨Skips.agree ha hg, hk _ _ hl⟩

theorem ro_step {i : AOper} (hi : isRO i.op = true) {K : Env → Hp → Prop} {X : AV → Env → Hp → Prop} {e : Env} {h : Hp} (hl : LOps P md [i] K X e h) :
    ∃ v, K (e.put i.dst v) h ∧ ∀ (K' : Env → Hp → Prop) (X' : AV → Env → Hp → Prop) (e2 : Env) (h2 : Hp), Agree i.reads e e2 → (i.op.hfree = true ∨ h.le h2) → K' (e2.put i.dst v) h2 → LOps P md [i] K' X' e2 h2 := by
  rw [step_iff] at hl
  rcases hl with ⟨hg, hl⟩ | ⟨hg, hl⟩
  · obtain ⟨v, h1, h2⟩ := ro_one hi hl
    exact ⟨v, h1, fun K' X' e2 h3 ha hh hk => step_iff.2 (.inl ⟨Runs.agree ha hg, h2 _ _ e2 h3 ha.op hh hk⟩)⟩
  · exact ⟨.tup [], hl, fun K' X' e2 h3 ha _ hk => step_iff.2 (.inr ⟨Skips.agree ha hg, hk⟩)⟩

theorem a_step {i : AOper} (hi : isA i.op = true) {K : Env → Hp → Prop} {X : AV → Env → Hp → Prop} {e : Env} {h : Hp} : LOps P md [i] K X e h ↔
    (Runs i e ∧ ∃ f, aForm e i.op = some f ∧ allocN md h fun a => K (e.put i.dst (f.1 a)) (h.set a f.2)) ∨ (Skips i e ∧ K (e.put i.dst (.tup [])) h) := by
  rw [step_iff, aForm_iff hi]; rfl

theorem c_step {i : AOper} (hi : (isA i.op || isC i.op) = true) {K : Env → Hp → Prop} {X : AV → Env → Hp → Prop} {e : Env} {h : Hp} : LOps P md [i] K X e h ↔
    (Runs i e ∧ ∃ n V B, AF P e h i.op n V B ∧ allocK md h n fun b => K (e.put i.dst (V b)) (h.adopt b n (B b))) ∨ (Skips i e ∧ K (e.put i.dst (.tup [])) h) := by
  rw [step_iff, AF_iff hi]; rfl

theorem not_both {i : AOper} {e : Env} (h1 : Runs i e) (h2 : Skips i e) : False := by
  obtain ⟨t', b', k1, k5⟩ := h2
  rcases h1 with h1 | ⟨t, b, h1, k4⟩ <;> rw [h1] at k1 <;> cases k1
  rcases k5 with ⟨c, k5, k6⟩ | ⟨l, k5⟩ <;> rw [k4] at k5 <;> cases k5
  exact k6 rfl

theorem le_adopt {h : Hp} {b n : Nat} {B : Nat → Option Blk} (hb : ∀ i, i < n → Fresh h (b + i)) : h.le (h.adopt b n B) := fun j x hj => by
  by_cases e : b ≤ j ∧ j < b + n
  · have := (hb (j - b) (by omega)).2
    rw [show b + (j - b) = j by omega] at this
    rw [this] at hj; cases hj
  · rw [Hp.adopt_out e]; exact hj

theorem swap {i j : AOper} (hc : comm i j = true) {r : List AOper} {K : Env → Hp → Prop} {X : AV → Env → Hp → Prop} (hx : XOk X) {e : Env} {h : Hp} (hl : LOps P md (i :: j :: r) K X e h) : LOps P md (j :: i :: r) K X e h := by
  simp only [comm, Bool.and_eq_true] at hc
  obtain ⟨hkind, h1, h2, h3⟩ := hc
  have hoi := off_ok h1
  have hoj := off_ok h2
  have hne := dstNe_ok h3
  rw [LOps_cons] at hl ⊢
  have agj : ∀ v, Agree j.reads (e.put i.dst v) e := fun v t ht => put_other (hoi t ht)
  have agi : ∀ u, Agree i.reads e (e.put j.dst u) := fun u t ht => (put_other (hoj t ht)).symm
  have xput : ∀ v pv h', X pv (e.put i.dst v) h' → X pv e h' := fun v pv h' hX => by
    have := hx pv _ h' e.t hX
    cases hd : i.dst with
    | none => rw [hd] at hX; exact hX
    | some d => rw [hd] at this; exact this
  -- i picks one value, wherever
  have picked : ∀ v, LOps P md (j :: r) K X (e.put i.dst v) h → (∀ (K' : Env → Hp → Prop) (X' : AV → Env → Hp → Prop) (e2 : Env) (h2 : Hp), Agree i.reads e e2 → K' (e2.put i.dst v) h2 → LOps P md [i] K' X' e2 h2) →
      LOps P md [j] (fun e h => LOps P md (i :: r) K X e h) X e h := by
    intro v hj hone
    rw [LOps_cons] at hj
    refine step_map (agj v) hj (fun u h' hr => ?_) (xput v)
    rw [LOps_cons]
    refine hone _ _ _ _ (agi u) ?_
    rw [put_comm hne] at hr; exact hr
  rw [Bool.or_eq_true, Bool.and_eq_true, Bool.and_eq_true] at hkind
  rcases hkind with ⟨hi, hj⟩ | ⟨hi, hj⟩
  · obtain ⟨v, hl, hone⟩ := ro_step hi hl
    have hl' := hl
    rw [LOps_cons] at hl
    cases hf : i.op.hfree with
    | true => exact picked v hl' fun K' X' e2 h2 ha hk => hone K' X' e2 h2 ha (.inl hf) hk
    | false =>
      rw [hf, Bool.or_false, Bool.or_eq_true] at hj
      rcases hj with hj | hj
      · obtain ⟨u, hr, honej⟩ := ro_step hj hl
        refine honej _ _ _ _ (agj v) (.inr h.le_refl) ?_
        rw [LOps_cons]
        refine hone _ _ _ _ (agi u) (.inr h.le_refl) ?_
        rw [put_comm hne] at hr; exact hr
      · rcases (c_step hj).1 hl with ⟨hg, n, V, B, hf1, hf2⟩ | ⟨hg, hr⟩
        · refine (c_step hj).2 (.inl ⟨hg.agree (agj v), n, V, B, AF_le (agj v).op h.le_refl hf1, hf2.mono' fun a hfr hr => ?_⟩)
          rw [LOps_cons]
          refine hone _ _ _ _ (agi _) (.inr (le_adopt hfr)) ?_
          rw [put_comm hne] at hr; exact hr
        · refine (c_step hj).2 (.inr ⟨hg.agree (agj v), ?_⟩)
          rw [LOps_cons]
          refine hone _ _ _ _ (agi _) (.inr h.le_refl) ?_
          rw [put_comm hne] at hr; exact hr
  · rcases (c_step hi).1 hl with ⟨hg, n, V, B, hf1, hf2⟩ | ⟨hg, hr⟩
    · -- i makes blocks
      have inner : ∀ a, LOps P md (j :: r) K X (e.put i.dst (V a)) (h.adopt a n (B a)) → (Runs j e ∧ ∃ g, aForm e j.op = some g ∧ allocN md (h.adopt a n (B a)) fun b => LOps P md r K X ((e.put i.dst (V a)).put j.dst (g.1 b)) ((h.adopt a n (B a)).set b g.2)) ∨
          (Skips j e ∧ LOps P md r K X ((e.put i.dst (V a)).put j.dst (.tup [])) (h.adopt a n (B a))) := by
        intro a ha
        rw [LOps_cons] at ha
        rcases (a_step hj).1 ha with ⟨k1, g, k2, k3⟩ | ⟨k1, k2⟩
        · exact .inl ⟨k1.agree (agj _), g, by rw [← aForm_congr (agj (V a)).op]; exact k2, k3⟩
        · exact .inr ⟨k1.agree (agj _), k2⟩
      have runi : ∀ u, Runs i (e.put j.dst u) := fun u => hg.agree (agi u)
      obtain ⟨a0, hfr0, ha0⟩ := hf2.one
      rcases inner a0 ha0 with ⟨k1, g, k2, _⟩ | ⟨k1, _⟩
      · refine (a_step hj).2 (.inl ⟨k1, g, k2, ?_⟩)
        have get : ∀ a, LOps P md (j :: r) K X (e.put i.dst (V a)) (h.adopt a n (B a)) → allocN md (h.adopt a n (B a)) fun b => LOps P md r K X ((e.put i.dst (V a)).put j.dst (g.1 b)) ((h.adopt a n (B a)).set b g.2) := by
          intro a ha
          rcases inner a ha with ⟨_, g', k2', k3⟩ | ⟨k1', _⟩
          · rw [k2] at k2'; cases k2'; exact k3
          · exact (not_both k1 k1').elim
        have fin : ∀ a b, ¬ (a ≤ b ∧ b < a + n) → LOps P md r K X ((e.put i.dst (V a)).put j.dst (g.1 b)) ((h.adopt a n (B a)).set b g.2) → LOps P md r K X ((e.put j.dst (g.1 b)).put i.dst (V a)) ((h.set b g.2).adopt a n (B a)) := fun a b hab hr => by
          rw [put_comm hne, ← Hp.adopt_one, Hp.adopt_comm (fun j hj => by omega), Hp.adopt_one] at hr; exact hr
        have hle1 : ∀ {b : Nat}, Fresh h b → h.le (h.set b g.2) := fun hb => Hp.le_set hb.2
        have fresh_set : ∀ {b c : Nat}, Fresh (h.set b g.2) c → Fresh h c ∧ b ≠ c := fun {b c} hb => by
          rw [← Hp.adopt_one] at hb
          obtain ⟨q1, q2⟩ := hb.adopt
          exact ⟨q1, by omega⟩
        cases md with
        | false =>
          intro b hb
          rw [LOps_cons]
          refine (c_step hi).2 (.inl ⟨runi _, n, V, B, AF_le (agi _).op (hle1 hb) hf1, fun a ha => ?_⟩)
          have ha' : ∀ k, k < n → Fresh h (a + k) := fun k hk => (fresh_set (ha k hk)).1
          have hab : ¬ (a ≤ b ∧ b < a + n) := fun hh => (fresh_set (ha (b - a) (by omega))).2 (by omega)
          exact fin a b hab (get a (hf2 a ha') b (hb.of_adopt hab))
        | true =>
          obtain ⟨a, ha, hla⟩ := hf2
          obtain ⟨b, hb, hlb⟩ := get a hla
          obtain ⟨hb', hab⟩ := hb.adopt
          refine ⟨b, hb', ?_⟩
          show LOps P true (i :: r) K X (e.put j.dst (g.1 b)) (h.set b g.2)
          rw [LOps_cons]
          refine (c_step hi).2 (.inl ⟨runi _, n, V, B, AF_le (agi _).op (hle1 hb') hf1, a, fun k hk => ?_, fin a b hab hlb⟩)
          rw [← Hp.adopt_one]
          exact (ha k hk).of_adopt (by omega)
      · refine (a_step hj).2 (.inr ⟨k1, ?_⟩)
        rw [LOps_cons]
        refine (c_step hi).2 (.inl ⟨runi _, n, V, B, AF_le (agi _).op h.le_refl hf1, hf2.mono fun a ha => ?_⟩)
        rcases inner a ha with ⟨k1', _⟩ | ⟨_, k3⟩
        · exact (not_both k1' k1).elim
        · rw [put_comm hne] at k3; exact k3
    · exact picked _ hr fun K' X' e2 h2 ha hk => (c_step hi).2 (.inr ⟨hg.agree ha, hk⟩)

/-! ### Orders -/

def without (i : Nat) (rest : List Nat) : List Nat := rest.filter fun j => !(Nat.beq j i)
def inL (i : Nat) (rest : List Nat) : Bool := rest.any fun j => Nat.beq j i

theorem mem_without {i j : Nat} {rest : List Nat} : j ∈ without i rest ↔ j ∈ rest ∧ j ≠ i := by
  simp only [without, List.mem_filter, Bool.not_eq_true']
  refine and_congr_right fun _ => ⟨fun h e => ?_, fun h => ?_⟩
  · subst e; rw [Nat.beq_refl] at h; cases h
  · cases hb : Nat.beq j i with
    | false => rfl
    | true => exact absurd (Nat.eq_of_beq_eq_true hb) h
theorem inL_iff {i : Nat} {rest : List Nat} : inL i rest = true ↔ i ∈ rest := by
  simp only [inL, List.any_eq_true]
  constructor
  · rintro ⟨x, h1, h2⟩; rw [← Nat.eq_of_beq_eq_true h2]; exact h1
  · intro h; exact ⟨i, h, Nat.beq_refl i⟩
theorem without_comm (i j : Nat) (rest : List Nat) : without i (without j rest) = without j (without i rest) := by
  simp only [without, List.filter_filter]
  congr 1; funext x; exact Bool.and_comm _ _

/-- An order of what is left. -/
inductive Topo (ds : Nat → List Nat) : List Nat → List Nat → Prop
  | nil : Topo ds [] []
  | cons {rest : List Nat} {i : Nat} {l : List Nat} (h1 : i ∈ rest) (h2 : ∀ d ∈ ds i, d ∉ rest) (h3 : Topo ds (without i rest) l) : Topo ds rest (i :: l)

/-- j waits for i, through others maybe. -/
def anc (ds : Nat → List Nat) : Nat → Nat → Nat → Bool
  | 0, _, _ => false
  | f + 1, j, i => (ds j).any fun d => Nat.beq d i || anc ds f d i

def Closed (ds : Nat → List Nat) (rest : List Nat) : Prop := ∀ j, j ∉ rest → ∀ d ∈ ds j, d ∉ rest

variable {ds : Nat → List Nat}

theorem anc_out {rest : List Nat} (hc : Closed ds rest) : ∀ (f j i : Nat), (∀ d ∈ ds j, d ∉ rest) → anc ds f j i = true → i ∉ rest := by
  intro f
  induction f with
  | zero => intro j i _ h; cases h
  | succ f ih =>
    intro j i hj h
    simp only [anc, List.any_eq_true, Bool.or_eq_true] at h
    obtain ⟨d, hd, h⟩ := h
    rcases h with h | h
    · rw [← Nat.eq_of_beq_eq_true h]; exact hj d hd
    · exact ih d i (hc d (hj d hd)) h

theorem Closed.without {rest : List Nat} (hc : Closed ds rest) {i : Nat} (hi : ∀ d ∈ ds i, d ∉ rest) : Closed ds (without i rest) := by
  intro j hj d hd hm
  obtain ⟨h1, h2⟩ := mem_without.1 hm
  by_cases hji : j = i
  · subst hji; exact hi d hd h1
  · exact hc j (fun h => hj (mem_without.2 ⟨h, hji⟩)) d hd h1

theorem Topo.all {rest l : List Nat} (h : Topo ds rest l) : ∀ x ∈ rest, x ∈ l := by
  induction h with
  | nil => intro x hx; exact hx
  | cons h1 h2 h3 ih =>
    rename_i rest i l
    intro x hx
    by_cases e : x = i
    · subst e; exact List.mem_cons_self
    · exact List.mem_cons_of_mem _ (ih x (mem_without.2 ⟨hx, e⟩))
theorem Topo.sub {rest l : List Nat} (h : Topo ds rest l) : ∀ x ∈ l, x ∈ rest := by
  induction h with
  | nil => intro x hx; exact hx
  | cons h1 h2 h3 ih =>
    intro x hx
    rcases List.mem_cons.1 hx with rfl | hx
    · exact h1
    · exact (mem_without.1 (ih x hx)).1

theorem Topo.remove {i : Nat} : ∀ (l1 : List Nat) {rest l2 : List Nat}, Topo ds rest (l1 ++ i :: l2) → Topo ds (without i rest) (l1 ++ l2) := by
  intro l1
  induction l1 with
  | nil => intro rest l2 h; cases h with | cons _ _ h3 => exact h3
  | cons j l1 ih =>
    intro rest l2 h
    cases h with
    | cons h1 h2 h3 =>
      have hi : i ∈ without j rest := h3.sub i (by simp)
      refine .cons (mem_without.2 ⟨h1, fun e => (mem_without.1 hi).2 e.symm⟩) (fun d hd hm => h2 d hd (mem_without.1 hm).1) ?_
      rw [without_comm]; exact ih h3

theorem Topo.unrelated {i f : Nat} : ∀ (l1 : List Nat) {rest l2 : List Nat}, Closed ds rest → Topo ds rest (l1 ++ i :: l2) → ∀ j ∈ l1, anc ds f j i = false ∧ j ≠ i ∧ j ∈ rest := by
  intro l1
  induction l1 with
  | nil => intro rest l2 _ _ j hj; cases hj
  | cons j0 l1 ih =>
    intro rest l2 hc h j hj
    have hi : i ∈ rest := h.sub i (by simp)
    cases h with
    | cons h1 h2 h3 =>
      have hi' : i ∈ without j0 rest := h3.sub i (by simp)
      rcases List.mem_cons.1 hj with rfl | hj
      · refine ⟨?_, fun e => (mem_without.1 hi').2 e.symm, h1⟩
        cases ha : anc ds f j i with
        | false => rfl
        | true => exact absurd hi (anc_out hc f j i h2 ha)
      · obtain ⟨h4, h5, h6⟩ := ih (hc.without h2) h3 j hj
        exact ⟨h4, h5, (mem_without.1 h6).1⟩

/-- The orders that stand for all. -/
def reps (A : Nat → AOper) (ds : Nat → List Nat) : Nat → List Nat → List (List Nat)
  | 0, _ => [[]]
  | f + 1, rest =>
    match rest with
    | [] => [[]]
    | _ :: _ =>
      let rd := rest.filter fun i => (ds i).all fun d => !(inL d rest)
      match rd.find? fun i => rest.all fun j => Nat.beq j i || (comm (A i) (A j) || anc ds rest.length j i) with
      | some i => (reps A ds f (without i rest)).map (i :: ·)
      | none => rd.flatMap fun i => (reps A ds f (without i rest)).map (i :: ·)

/-- Are the orders few? What is left of the number b, if so. -/
def fewB (A : Nat → AOper) (ds : Nat → List Nat) : Nat → List Nat → Nat → Option Nat
  | 0, _, _ => none
  | f + 1, rest, b =>
    match rest with
    | [] => match b with
      | 0 => none
      | b + 1 => some b
    | _ :: _ =>
      let rd := rest.filter fun i => (ds i).all fun d => !(inL d rest)
      match rd.find? fun i => rest.all fun j => Nat.beq j i || (comm (A i) (A j) || anc ds rest.length j i) with
      | some i => fewB A ds f (without i rest) b
      | none => rd.foldl (fun o i => match o with | some b => fewB A ds f (without i rest) b | none => none) (some b)

theorem without_len {i : Nat} {rest : List Nat} (h : i ∈ rest) : (without i rest).length < rest.length := by
  unfold without
  refine List.length_filter_lt_length_iff_exists.2 ⟨i, h, by simp [Nat.beq_refl]⟩

theorem move_front {A : Nat → AOper} {X : AV → Env → Hp → Prop} (hx : XOk X) {i : Nat} : ∀ (l1 l2 : List Nat), (∀ j ∈ l1, comm (A i) (A j) = true) → ∀ (K : Env → Hp → Prop) (e : Env) (h : Hp),
    LOps P md ((i :: (l1 ++ l2)).map A) K X e h → LOps P md ((l1 ++ i :: l2).map A) K X e h := by
  intro l1
  induction l1 with
  | nil => intro l2 _ K e h hl; exact hl
  | cons j l1 ih =>
    intro l2 hc K e h hl
    simp only [List.cons_append, List.map_cons] at hl ⊢
    have h2 := swap (hc j List.mem_cons_self) hx hl
    rw [LOps_cons] at h2 ⊢
    exact step_mono h2 (fun e h hr => ih l2 (fun j hj => hc j (List.mem_cons_of_mem _ hj)) K e h (by simpa using hr)) (fun _ _ _ h => h)

theorem reps_ok {A : Nat → AOper} : ∀ (f : Nat) (rest l : List Nat), rest.length ≤ f → Closed ds rest → Topo ds rest l →
    ∃ l' ∈ reps A ds f rest, ∀ (K : Env → Hp → Prop) (X : AV → Env → Hp → Prop), XOk X → ∀ e h, LOps P md (l'.map A) K X e h → LOps P md (l.map A) K X e h := by
  intro f
  induction f with
  | zero =>
    intro rest l hf hc ht
    have : rest = [] := List.eq_nil_of_length_eq_zero (by omega)
    subst this
    cases ht with
    | nil => exact ⟨[], by simp [reps], fun K X _ e h hl => hl⟩
    | cons h1 => cases h1
  | succ f ih =>
    intro rest l hf hc ht
    cases hr : rest with
    | nil =>
      subst hr
      cases ht with
      | nil => exact ⟨[], by simp [reps], fun K X _ e h hl => hl⟩
      | cons h1 => cases h1
    | cons r0 rs =>
      rw [← hr]
      have hreps : reps A ds (f + 1) rest = (match (rest.filter fun i => (ds i).all fun d => !(inL d rest)).find? fun i => rest.all fun j => Nat.beq j i || (comm (A i) (A j) || anc ds rest.length j i) with
          | some i => (reps A ds f (without i rest)).map (i :: ·)
          | none => (rest.filter fun i => (ds i).all fun d => !(inL d rest)).flatMap fun i => (reps A ds f (without i rest)).map (i :: ·)) := by
        rw [hr]; rfl
      rw [hreps]
      have rdy : ∀ i, i ∈ (rest.filter fun i => (ds i).all fun d => !(inL d rest)) ↔ i ∈ rest ∧ ∀ d ∈ ds i, d ∉ rest := by
        intro i
        simp only [List.mem_filter, List.all_eq_true, Bool.not_eq_true', and_congr_right_iff]
        intro _
        refine ⟨fun h d hd hm => ?_, fun h d hd => ?_⟩
        · have := h d hd; rw [inL_iff.2 hm] at this; cases this
        · cases hh : inL d rest with
          | false => rfl
          | true => exact absurd (inL_iff.1 hh) (h d hd)
      split
      · rename_i i hfind
        have hi := (rdy i).1 (List.mem_of_find?_eq_some hfind)
        have hcond := List.find?_some hfind
        simp only [List.all_eq_true, Bool.or_eq_true] at hcond
        obtain ⟨l1, l2, rfl⟩ := List.append_of_mem (ht.all i hi.1)
        have hcm : ∀ j ∈ l1, comm (A i) (A j) = true := fun j hj => by
          obtain ⟨h1, h2, h3⟩ := Topo.unrelated (f := rest.length) l1 hc ht j hj
          rcases hcond j h3 with h4 | h4 | h4
          · exact absurd (Nat.eq_of_beq_eq_true h4) h2
          · exact h4
          · rw [h1] at h4; cases h4
        obtain ⟨l', hl', hk⟩ := ih (without i rest) (l1 ++ l2) (by have := without_len hi.1; omega) (hc.without hi.2) (Topo.remove l1 ht)
        refine ⟨i :: l', List.mem_map.2 ⟨l', hl', rfl⟩, fun K X hx e h hl => move_front hx l1 l2 hcm K e h ?_⟩
        rw [List.map_cons, LOps_cons] at hl ⊢
        exact step_mono hl (fun e h hr => hk K X hx e h hr) (fun _ _ _ h => h)
      · cases ht with
        | nil => cases hr
        | cons h1 h2 h3 =>
          rename_i i l
          obtain ⟨l', hl', hk⟩ := ih (without i rest) l (by have := without_len h1; omega) (hc.without h2) h3
          refine ⟨i :: l', List.mem_flatMap.2 ⟨i, (rdy i).2 ⟨h1, h2⟩, List.mem_map.2 ⟨l', hl', rfl⟩⟩, fun K X hx e h hl => ?_⟩
          rw [List.map_cons, LOps_cons] at hl ⊢
          exact step_mono hl (fun e h hr => hk K X hx e h hr) (fun _ _ _ h => h)

/-! ### The model's orders -/

def depsOf (ops : Array Oper) (i : Nat) : List Nat :=
  match ops[i]? with
  | none => []
  | some o => (o.after.toList.filter (Region.binds .any)).map (·.on)

def depsOk (ops : Array Oper) : Bool := (List.range ops.size).all fun i => (depsOf ops i).all fun d => Nat.blt d i

def restOf (ops : Array Oper) (listed : Array Bool) : List Nat := (List.range ops.size).filter fun i => !listed.getD i true

theorem mem_rest {ops : Array Oper} {listed : Array Bool} {i : Nat} : i ∈ restOf ops listed ↔ i < ops.size ∧ listed.getD i true = false := by
  simp [restOf, List.mem_filter]

theorem ready_iff {ops : Array Oper} {listed : Array Bool} {i : Nat} : i ∈ Region.ready .any ops listed ↔ i ∈ restOf ops listed ∧ ∀ d ∈ depsOf ops i, listed.getD d false = true := by
  unfold Region.ready
  rw [List.mem_filter, mem_rest, List.mem_range]
  simp only [Bool.and_eq_true, Bool.not_eq_true', and_assoc]
  refine and_congr_right fun hi => and_congr_right fun _ => ?_
  unfold depsOf
  rw [Array.getElem?_eq_getElem hi]
  simp only [Option.map_some, Option.getD_some, List.mem_map, List.mem_filter, Array.mem_toList_iff]
  rw [Array.all_eq_true_iff_forall_mem]
  constructor
  · rintro h d ⟨e, ⟨h1, h2⟩, rfl⟩
    have := h e h1
    simpa [h2] using this
  · intro h e he
    cases hb : Region.binds .any e with
    | false => rfl
    | true => simpa [hb] using h e.on ⟨e, ⟨he, hb⟩, rfl⟩

theorem deps_lt {ops : Array Oper} (hd : depsOk ops = true) {i d : Nat} (h : d ∈ depsOf ops i) : d < i := by
  by_cases hi : i < ops.size
  · simp only [depsOk, List.all_eq_true] at hd
    have := hd i (List.mem_range.2 hi) d h
    exact Nat.le_of_ble_eq_true this
  · unfold depsOf at h
    rw [Array.getElem?_eq_none (by omega)] at h
    cases h

theorem rest_set {ops : Array Oper} {listed : Array Bool} (hs : listed.size = ops.size) {i : Nat} (hi : i ∈ restOf ops listed) : restOf ops (listed.setIfInBounds i true) = without i (restOf ops listed) := by
  unfold restOf without
  rw [List.filter_filter]
  apply List.filter_congr
  intro j hj
  have hil := (mem_rest.1 hi).1
  simp only [Array.getD_eq_getD_getElem?, Array.getElem?_setIfInBounds]
  by_cases e : i = j
  · subst e; simp [hs, hil, Nat.beq_refl]
  · have : Nat.beq j i = false := by
      cases hb : Nat.beq j i with
      | false => rfl
      | true => exact absurd (Nat.eq_of_beq_eq_true hb).symm e
    simp [e, this]

theorem topo_linear {ops : Array Oper} (hd : depsOk ops = true) : ∀ (fuel t : Nat) (listed : Array Bool), listed.size = ops.size → (restOf ops listed).length ≤ fuel →
    Topo (depsOf ops) (restOf ops listed) (Region.linearise.go .any ops fuel t listed []) := by
  intro fuel
  induction fuel with
  | zero =>
    intro t listed hs hf
    have : restOf ops listed = [] := List.eq_nil_of_length_eq_zero (by omega)
    rw [this]; exact .nil
  | succ fuel ih =>
    intro t listed hs hf
    simp only [Region.linearise.go]
    change Topo _ _ (match (Region.ready .any ops listed)[t % (Region.ready .any ops listed).length]? with
      | some i => Region.linearise.go .any ops fuel (t / (Region.ready .any ops listed).length) (listed.setIfInBounds i true) [i]
      | none => [].reverse)
    cases hi : (Region.ready .any ops listed)[t % (Region.ready .any ops listed).length]? with
    | none =>
      have hnil : Region.ready .any ops listed = [] := by
        cases hr : Region.ready .any ops listed with
        | nil => rfl
        | cons x xs =>
          rw [hr] at hi
          have hlt : t % (x :: xs).length < (x :: xs).length := Nat.mod_lt _ (by simp)
          simp at hi
          simp at hlt
          omega
      -- nothing may come up: nothing is left
      have : restOf ops listed = [] := by
        have none_ : ∀ i, i ∉ restOf ops listed := by
          intro i
          induction i using Nat.strongRecOn with
          | _ i ihi =>
            intro hm
            have : i ∈ Region.ready .any ops listed := ready_iff.2 ⟨hm, fun d hdm => by
              have hlt := deps_lt hd hdm
              have h1 := ihi d hlt
              have h2 := (mem_rest.1 hm).1
              cases hg : listed.getD d true with
              | true =>
                rw [Array.getD_eq_getD_getElem?, Array.getElem?_eq_getElem (by omega)] at hg ⊢
                simpa using hg
              | false => exact absurd (mem_rest.2 ⟨by omega, hg⟩) h1⟩
            rw [hnil] at this; cases this
        exact List.eq_nil_iff_forall_not_mem.2 none_
      rw [this]; exact .nil
    | some i =>
      simp only []
      rw [linearise_go_acc, List.reverse_singleton, List.singleton_append]
      obtain ⟨h1, h2⟩ := ready_iff.1 (List.mem_of_getElem? hi)
      refine .cons h1 (fun d hdm hm => ?_) ?_
      · have h3 := h2 d hdm
        have h4 := (mem_rest.1 hm)
        rw [Array.getD_eq_getD_getElem?, Array.getElem?_eq_getElem (by omega)] at h3
        rw [Array.getD_eq_getD_getElem?, Array.getElem?_eq_getElem (by omega)] at h4
        simp at h3 h4
        rw [h3] at h4; cases h4.2
      · rw [← rest_set hs h1]
        refine ih _ _ (by simpa using hs) ?_
        rw [rest_set hs h1]
        have := without_len h1
        omega

theorem closed_all (ops : Array Oper) : Closed (depsOf ops) (List.range ops.size) := by
  intro j hj d hd
  rw [List.mem_range] at hj
  unfold depsOf at hd
  rw [Array.getElem?_eq_none (by omega)] at hd
  cases hd

end
end Go.L
