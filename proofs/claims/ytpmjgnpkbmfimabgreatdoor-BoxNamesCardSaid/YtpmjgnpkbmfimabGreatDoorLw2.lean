/-
  The logic L, part w2: codes of which ways that are not taken have been cut.
-/
import Derived.Test.YtpmjgnpkbmfimabGreatDoorLw
namespace Go.L

/-- Short words for operations. -/
def mv (d x : Nat) : AOper := ⟨some d, .mov (.t x), none⟩
def o_ (d : Nat) (o : AOp) : AOper := ⟨some d, o, none⟩
def n_ (o : AOp) : AOper := ⟨none, o, none⟩
def g_ (d : Nat) (o : AOp) (t : Nat) : AOper := ⟨some d, o, some (t, true)⟩
def i_ (n : Int) : AOpd := .c (.int .i64 n)

/-- Of each '.orr' and '.cond', in order: 0: both stay, 1: the first one, 2: the second one (of '.cond': 3: none). -/
def cutA : ACode → List Nat → ACode × List Nat
  | .seq a b, l => match cutA a l with
    | (a', l1) => match cutA b l1 with
      | (b', l2) => (.seq a' b', l2)
  | .cond c a b, k :: l => match k with
    | 1 => match cutA a l with
      | (a', l1) => (.cond c a' .bad, l1)
    | 2 => match cutA b l with
      | (b', l1) => (.cond c .bad b', l1)
    | 3 => (.cond c .bad .bad, l)
    | _ => match cutA a l with
      | (a', l1) => match cutA b l1 with
        | (b', l2) => (.cond c a' b', l2)
  | .block id c, l => match cutA c l with
    | (c', l1) => (.block id c', l1)
  | .loop c, l => match cutA c l with
    | (c', l1) => (.loop c', l1)
  | .orr a b, k :: l => match plainA a && plainA b with
    | true => match k with
      | 1 => cutA a l
      | 2 => cutA b l
      | _ => match cutA a l with
        | (a', l1) => match cutA b l1 with
          | (b', l2) => (.orr a' b', l2)
    | false => (.orr a b, l)
  | c, l => (c, l)

section
variable {P : Program} {md : Bool}

theorem rngQ_mono {j : Nat} {Q Q' : Xit → Env → Hp → Prop} {e : Env} {h : Hp} (hq : ∀ y e h, Q y e h → Q' y e h) (k : rngQ j Q e h) : rngQ j Q' e h := by
  obtain ⟨pend, n, t, ps, K, st, pd, h1, h2, h3⟩ := k
  refine ⟨pend, n, t, ps, K, st, pd, h1, h2, h3.mono fun h hh => ?_⟩
  cases pend with
  | none => exact hq _ _ _ hh
  | some p => cases p <;> exact hq _ _ _ hh

theorem LAlts_mono {K K' : Env → Hp → Prop} {X X' : AV → Env → Hp → Prop} (hk : ∀ e h, K e h → K' e h) (hx : ∀ v e h, X v e h → X' v e h) : ∀ {ls : List (List AOper)} {e : Env} {h : Hp}, LAlts P md ls K X e h → LAlts P md ls K' X' e h
  | [], _, _, _ => trivial
  | [_], _, _, hl => LOps_mono hl hk hx
  | _ :: _ :: _, _, _, hl => ⟨LOps_mono hl.1 hk hx, LAlts_mono hk hx hl.2⟩

theorem LCode_mono : ∀ (c : ACode) {Q Q' : Xit → Env → Hp → Prop} {e : Env} {h : Hp}, LCode P md c Q e h → (∀ y e h, Q y e h → Q' y e h) → LCode P md c Q' e h := by
  intro c
  have thn : ∀ {K K' : Env → Hp → Prop} {Q Q' : Xit → Env → Hp → Prop}, (∀ e h, K e h → K' e h) → (∀ y e h, Q y e h → Q' y e h) → ∀ y e h, andThen K Q y e h → andThen K' Q' y e h := by
    intro K K' Q Q' hk hq y e h hh
    cases y with
    | normal => exact hk _ _ hh
    | exit i => exact hq _ _ _ hh
    | ret => exact hq _ _ _ hh
    | pan v => exact hq _ _ _ hh
  induction c with
  | skip => intro Q Q' e h hl hq; exact hq _ _ _ hl
  | ops l => intro Q Q' e h hl hq; exact LOps_mono hl (fun e h => hq _ _ _) fun v e h => hq _ _ _
  | seq a b iha ihb => intro Q Q' e h hl hq; exact iha hl (thn (fun e h hb => ihb hb hq) hq)
  | cond c a b iha ihb =>
    intro Q Q' e h hl hq
    simp only [LCode] at hl ⊢
    split at hl <;> first | exact hl.elim | skip
    rename_i t _
    cases t with
    | true => exact iha hl hq
    | false => exact ihb hl hq
  | block id c ih =>
    intro Q Q' e h hl hq
    refine ih hl fun y e h hh => ?_
    cases y with
    | exit j =>
      simp only [inBlk] at hh ⊢
      split
      · rename_i hj; rw [if_pos hj] at hh; exact hq _ _ _ hh
      · rename_i hj; rw [if_neg hj] at hh; exact hq _ _ _ hh
    | normal => exact hq _ _ _ hh
    | ret => exact hq _ _ _ hh
    | pan v => exact hq _ _ _ hh
  | loop c ih =>
    intro Q Q' e h hl hq
    obtain ⟨I, h0, hr⟩ := hl
    exact ⟨I, h0, fun n e h hI => ih (hr n e h hI) (thn (fun e h hh => hh) hq)⟩
  | exit id => intro Q Q' e h hl hq; exact hq _ _ _ hl
  | ret => intro Q Q' e h hl hq; exact hq _ _ _ hl
  | bad => intro Q Q' e h hl hq; exact hl.elim
  | alts D ls => intro Q Q' e h hl hq; exact LAlts_mono (fun e h => hq _ _ _) (fun v e h hX g hg => hq _ _ _ (hX g hg)) hl
  | orr a b iha ihb => intro Q Q' e h hl hq; exact Or.imp (fun h => iha h hq) (fun h => ihb h hq) hl
  | dfr x args =>
    intro Q Q' e h hl hq
    simp only [LCode] at hl ⊢
    split at hl <;> first | exact hl.elim | exact hq _ _ _ hl
  | recv d ms => intro Q Q' e h hl hq; exact hl.elim
  | rngf g ps a b iha ihb =>
    intro Q Q' e h hl hq
    simp only [LCode] at hl ⊢
    split at hl <;> first | exact hl.elim | skip
    refine ⟨hl.1, hl.2.mono fun i hi => hi.mono fun j hj => hj.mono fun r h' hr => ?_⟩
    cases r with
    | ret v => exact rngQ_mono hq hr
    | pan v => exact hq _ _ _ hr

theorem LCodeS_mono : ∀ (c : ACode) {Q Q' : Xit → Env → Hp → Um → Prop} {e : Env} {h : Hp} {u : Um}, LCodeS P md c Q e h u → (∀ y e h u, Q y e h u → Q' y e h u) → LCodeS P md c Q' e h u := by
  intro c
  have plain : ∀ (c : ACode) {Q Q' : Xit → Env → Hp → Um → Prop} {e : Env} {h : Hp} {u : Um}, LCode P md c (fun x e h => Q x e h u) e h → (∀ y e h u, Q y e h u → Q' y e h u) → LCode P md c (fun x e h => Q' x e h u) e h :=
    fun c _ _ _ _ _ hl hq => LCode_mono c hl fun y e h => hq y e h _
  induction c with
  | seq a b iha ihb =>
    intro Q Q' e h u hl hq
    refine iha hl fun y e h u hh => ?_
    cases y with
    | normal => exact ihb hh hq
    | exit i => exact hq _ _ _ _ hh
    | ret => exact hq _ _ _ _ hh
    | pan v => exact hq _ _ _ _ hh
  | cond c a b iha ihb =>
    intro Q Q' e h u hl hq
    simp only [LCodeS] at hl ⊢
    split at hl <;> first | exact hl.elim | skip
    rename_i t _
    cases t with
    | true => exact iha hl hq
    | false => exact ihb hl hq
  | recv d ms =>
    intro Q Q' e h u hl hq
    cases u <;> exact hq _ _ _ _ hl
  | _ => intro Q Q' e h u hl hq; exact plain _ hl hq

theorem plain_cut : ∀ (c : ACode) (l : List Nat), plainA c = true → plainA (cutA c l).1 = true := by
  intro c
  induction c with
  | orr a b iha ihb =>
    intro l _
    cases l with
    | nil => rfl
    | cons k l =>
      unfold cutA
      split
      · rename_i hp
        simp only [Bool.and_eq_true] at hp
        split
        · exact iha _ hp.1
        · exact ihb _ hp.2
        · rfl
      · rfl
  | seq a b _ _ => intro l h; cases h
  | cond c a b _ _ => intro l h; cases h
  | recv d ms => intro l h; cases h
  | _ => intro l _; rfl

/-- What holds of the cut code holds of the whole one. -/
theorem cutA_ok : ∀ (c : ACode) (l : List Nat) {Q : Xit → Env → Hp → Prop} {e : Env} {h : Hp}, LCode P md (cutA c l).1 Q e h → LCode P md c Q e h := by
  intro c
  induction c with
  | seq a b iha ihb =>
    intro l Q e h hl
    refine iha l (LCode_mono _ (show LCode P md (cutA a l).1 (andThen (fun e h => LCode P md (cutA b (cutA a l).2).1 Q e h) Q) e h from hl) fun y e h hh => ?_)
    cases y with
    | normal => exact ihb _ hh
    | exit i => exact hh
    | ret => exact hh
    | pan v => exact hh
  | cond c a b iha ihb =>
    intro l Q e h hl
    cases l with
    | nil => exact hl
    | cons k l =>
      have key : ∀ {a' b' : ACode}, (LCode P md a' Q e h → LCode P md a Q e h) → (LCode P md b' Q e h → LCode P md b Q e h) → LCode P md (.cond c a' b') Q e h → LCode P md (.cond c a b) Q e h := by
        intro a' b' ha hb hl
        simp only [LCode] at hl ⊢
        split at hl <;> first | exact hl.elim | skip
        rename_i t _
        cases t with
        | true => exact ha hl
        | false => exact hb hl
      have bad : ∀ {x : Prop}, LCode P md .bad Q e h → x := fun h => False.elim h
      unfold cutA at hl
      split at hl
      · exact key (iha _) bad hl
      · exact key bad (ihb _) hl
      · exact key bad bad hl
      · exact key (iha _) (ihb _) hl
  | block id c ih => intro l Q e h hl; exact ih l (show LCode P md (cutA c l).1 (inBlk id Q) e h from hl)
  | loop c ih =>
    intro l Q e h hl
    obtain ⟨I, h0, hr⟩ := (show LCode P md (.loop (cutA c l).1) Q e h from hl)
    exact ⟨I, h0, fun n e h hI => ih l (hr n e h hI)⟩
  | orr a b iha ihb =>
    intro l Q e h hl
    cases l with
    | nil => exact hl
    | cons k l =>
      unfold cutA at hl
      split at hl
      · split at hl
        · exact .inl (iha _ hl)
        · exact .inr (ihb _ hl)
        · exact Or.imp (fun h => iha _ h) (fun h => ihb _ h) (show LCode P md (cutA a l).1 Q e h ∨ LCode P md (cutA b (cutA a l).2).1 Q e h from hl)
      · exact hl
  | _ => intro l Q e h hl; exact hl

theorem cutA_okS : ∀ (c : ACode) (l : List Nat) {Q : Xit → Env → Hp → Um → Prop} {e : Env} {h : Hp} {u : Um}, LCodeS P md (cutA c l).1 Q e h u → LCodeS P md c Q e h u := by
  intro c
  induction c with
  | seq a b iha ihb =>
    intro l Q e h u hl
    refine iha l (LCodeS_mono _ (show LCodeS P md (cutA a l).1 (fun x e h u => match x with | .normal => LCodeS P md (cutA b (cutA a l).2).1 Q e h u | x => Q x e h u) e h u from hl) fun y e h u hh => ?_)
    cases y with
    | normal => exact ihb _ hh
    | exit i => exact hh
    | ret => exact hh
    | pan v => exact hh
  | cond c a b iha ihb =>
    intro l Q e h u hl
    cases l with
    | nil => exact hl
    | cons k l =>
      have key : ∀ {a' b' : ACode}, (LCodeS P md a' Q e h u → LCodeS P md a Q e h u) → (LCodeS P md b' Q e h u → LCodeS P md b Q e h u) → LCodeS P md (.cond c a' b') Q e h u → LCodeS P md (.cond c a b) Q e h u := by
        intro a' b' ha hb hl
        simp only [LCodeS] at hl ⊢
        split at hl <;> first | exact hl.elim | skip
        rename_i t _
        cases t with
        | true => exact ha hl
        | false => exact hb hl
      have bad : ∀ {x : Prop}, LCodeS P md .bad Q e h u → x := fun h => False.elim h
      unfold cutA at hl
      split at hl
      · exact key (iha _) bad hl
      · exact key bad (ihb _) hl
      · exact key bad bad hl
      · exact key (iha _) (ihb _) hl
  | block id c ih => intro l Q e h u hl; exact cutA_ok (.block id c) l hl
  | loop c ih => intro l Q e h u hl; exact cutA_ok (.loop c) l hl
  | orr a b iha ihb =>
    intro l Q e h u hl
    cases l with
    | nil => exact hl
    | cons k l =>
      unfold cutA at hl
      split at hl
      · rename_i hp
        simp only [Bool.and_eq_true] at hp
        split at hl
        · exact .inl (cutA_ok a l (LCodeS_plain (plain_cut a l hp.1) hl))
        · exact .inr (cutA_ok b l (LCodeS_plain (plain_cut b l hp.2) hl))
        · exact Or.imp (fun h => cutA_ok _ _ h) (fun h => cutA_ok _ _ h) (show LCode P md (cutA a l).1 (fun x e h => Q x e h u) e h ∨ LCode P md (cutA b (cutA a l).2).1 (fun x e h => Q x e h u) e h from hl)
      · exact hl
  | _ => intro l Q e h u hl; exact hl
/-- What the logic makes of a function, cut. -/
def cutF (m : List Nat) (o : Option (ACode × List ARes)) : Option (ACode × List ARes) :=
  match o with
  | some (a, r) => some ((cutA a m).1, r)
  | none => none
theorem cutF_inv {m : List Nat} {o : Option (ACode × List ARes)} {c : ACode} {r : List ARes} (h : cutF m o = some (c, r)) : ∃ a, o = some (a, r) ∧ c = (cutA a m).1 := by
  unfold cutF at h
  split at h <;> cases h
  exact ⟨_, rfl, rfl⟩
end
end Go.L
