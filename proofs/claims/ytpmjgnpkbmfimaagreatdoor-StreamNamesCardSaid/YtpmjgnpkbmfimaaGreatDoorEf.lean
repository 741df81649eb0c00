/-
  The logic L computed, part f: the evaluator is sound.
-/
import Derived.Test.YtpmjgnpkbmfimaaGreatDoorEe
namespace Go.L

section
variable {P : Program}

def CRQ (P : Program) (Q : Res → Hp → Prop) : CR → Prop
  | .ret v h => Q (.ret v) (h.hp P)
  | .pan v h => Q (.pan v) (h.hp P)
def XRQ (P : Program) (Q : Xit → Env → Hp → Prop) (x : XR) : Prop := Q x.1 x.2.1.env (x.2.2.hp P)
def ORQ (P : Program) (K : Env → Hp → Prop) (X : AV → Env → Hp → Prop) : OR → Prop
  | .nor e h => K e.env (h.hp P)
  | .pan v e h => X v e.env (h.hp P)
/-- A result, on to 'next' or 'X'. -/
def nxt (next X : AV → Hp → Prop) : Res → Hp → Prop := fun r h => match r with
  | .ret v => next v h
  | .pan v => X v h

/-- Behind a panic, only these temporaries are looked at. -/
def PanC (kp : List Nat) (Q : Xit → Env → Hp → Prop) : Prop := ∀ v e e' h, e.n = e'.n → e.ds = e'.ds → (∀ t, inL t kp = true → e.t t = e'.t t) → Q (.pan v) e h → Q (.pan v) e' h

structure RunOK (P : Program) (run : Run) : Prop where
  call : ∀ (f : FuncId) (args : List AV) (h : HT) (l : List CR) (Q : Res → Hp → Prop), run.call f args h = some l → (∀ x ∈ l, CRQ P Q x) → CallL P f args (h.hp P) Q
  code : ∀ (c : ACode) (e : ET) (h : HT) (l : List XR) (Q : Xit → Env → Hp → Prop), run.code c e h = some l → PanC [] Q → (∀ x ∈ l, XRQ P Q x) → LCode P true c Q e.env (h.hp P)
  dfr : ∀ (f : FuncId) (args : List AV) (u : Um) (h : HT) (l : List DR) (Q : Res → Um → Hp → Prop), run.dfr f args u h = some l → (∀ x ∈ l, Q x.r x.u (x.h.hp P)) → DefL P f args u (h.hp P) Q

def BodyOK (P : Program) (hb : FuncId → Bool) : Prop := ∀ f, hb f = true → HasBody P f

theorem fz_args {args args' : List AV} {h : Hp} (ha : fzM (fzV anyMark 1 h 64) args = some args') : FzL anyMark 1 h args args' :=
  ⟨(fzM_ok ha).1, fun q v v' h1 h2 => fzV_ok _ _ _ ((fzM_ok ha).2 q v v' h1 h2)⟩

theorem xP_ok {run : Run} (hrun : RunOK P run) {f : FuncId} {args : List AV} {h : HT} {l : List CR} (hx : xP P run f args h = some l) : ∃ v, l = [.ret v h] ∧ PureAt P f args (h.hp P) v := by
  unfold xP at hx
  split at hx <;> first | cases hx | skip
  rename_i args' ha
  split at hx <;> first | cases hx | skip
  rename_i v h1 hr
  split at hx <;> cases hx
  rename_i v' hv
  refine ⟨v', rfl, fun h' hle => ?_⟩
  have k := hrun.call f args' HT.nil _ (fun r h2 => ∃ v v2, r = .ret v ∧ Fz mark0 0 h2 v v2 ∧ v2 = v') hr (fun x hx => by
    rw [List.mem_singleton] at hx; subst hx; exact ⟨v, v', rfl, fzV_ok _ _ _ hv, rfl⟩)
  rw [HT.hp_nil] at k
  exact (CallL.lent (fz_args ha) (Q := fun x => x = v') k h' hle).mono fun r h2 ⟨x, h1, h2, h3⟩ => ⟨by rw [h1, h2], h3⟩

/-! ### Taken over -/

theorem ltT_ok {α : Type} : ∀ (t : Tr α) (a m n i : Nat) (x : α), ltT t a m n = true → t.get i = some x → a + m * i < n := by
  intro t
  induction t with
  | nil => intro a m n i x _ h; rw [Tr.get_nil] at h; cases h
  | node l v r ihl ihr =>
    intro a m n i x ht hi
    simp only [ltT, Bool.and_eq_true] at ht
    rw [Tr.get_node] at hi
    split at hi
    · rename_i h0
      obtain rfl := Nat.eq_of_beq_eq_true h0
      subst hi
      have := Nat.le_of_ble_eq_true ht.1
      rw [Nat.mul_zero, Nat.add_zero]; exact this
    · rename_i h0
      have hi0 : i ≠ 0 := fun e => by subst e; cases h0
      split at hi
      · rename_i h4
        have h4' := Nat.eq_of_beq_eq_true h4
        have := ihl _ _ _ _ _ ht.2.1 hi
        have e : i = 2 * (i / 2) + 1 := by omega
        have e2 : m * i = 2 * m * (i / 2) + m := by
          conv => lhs; rw [e]
          rw [Nat.mul_add, Nat.mul_one, ← Nat.mul_assoc, Nat.mul_comm m 2]
        omega
      · rename_i h4
        have h4' : i % 2 ≠ 1 := fun e => by rw [e] at h4; cases h4
        have := ihr _ _ _ _ _ ht.2.2 hi
        have e : i = 2 * (i / 2 - 1) + 2 := by omega
        have e2 : m * i = 2 * m * (i / 2 - 1) + 2 * m := by
          conv => lhs; rw [e]
          rw [Nat.mul_add, ← Nat.mul_assoc, Nat.mul_comm m 2]
        omega

theorem freshT_ok {α : Type} {t : Tr α} {b : Nat} : ∀ {K : Nat}, freshT t b K = true → ∀ i, i < K → t.get (b + i) = none := by
  intro K
  induction K with
  | zero => intro _ i hi; omega
  | succ k ih =>
    intro h i hi
    simp only [freshT, Bool.and_eq_true] at h
    by_cases e : i = k
    · subst e
      have := h.1
      split at this
      · assumption
      · cases this
    · exact ih h.2 i (by omega)

theorem adT_get {b : Nat} {s : Tr Unit} {t1 : Tr (Option EB)} : ∀ (K : Nat) (t : Tr (Option EB)) (j : Nat), (adT b s t1 K t).get j = if b ≤ j ∧ j < b + K then some (adE b s t1 (j - b)) else t.get j := by
  intro K
  induction K with
  | zero => intro t j; rw [if_neg (by omega)]; rfl
  | succ k ih =>
    intro t j
    rw [adT, Tr.get_set, ih]
    by_cases e : j = b + k
    · subst e
      rw [if_pos rfl, if_pos (by omega), Nat.add_sub_cancel_left]
    · rw [if_neg e]
      by_cases e2 : b ≤ j ∧ j < b + k
      · rw [if_pos e2, if_pos (by omega)]
      · rw [if_neg e2, if_neg (by omega)]

theorem jn_renE {b : Nat} (x : Option (Option EB)) : jn P (some (renE b x)) = renB b (jn P x) := by
  cases x with
  | none => rfl
  | some y => cases y with
    | none => rfl
    | some z => cases z with
      | l n t ps c d st pend => rfl
      | b z =>
        simp only [renE]
        cases h : renB b (some z) with
        | none => simp [jn, EB.bk, h]
        | some w => simp [jn, EB.bk, h]

theorem xAd_ok {run : Run} (hrun : RunOK P run) {f : FuncId} {args : List AV} {h : HT} {l : List CR} (hx : xAd P run f args h = some l) :
    ∃ K V B h2, PureAd P f args (h.hp P) K V B ∧ l = [.ret (V h.n) h2] ∧ (∀ i, i < K → Fresh (h.hp P) (h.n + i)) ∧ h2.hp P = (h.hp P).adopt h.n K (B h.n) := by
  unfold xAd at hx
  split at hx <;> first | cases hx | skip
  rename_i args' ha
  split at hx <;> first | cases hx | skip
  rename_i v h1 hr
  rw [forceT_eq] at hx
  generalize reach h1.t 100000 (idsA v []) .nil = s at hx
  split at hx <;> cases hx
  rename_i hc
  simp only [Bool.and_eq_true] at hc
  obtain ⟨hm, hlt, hfr, _⟩ := hc
  have k := hrun.call f args' HT.nil _ (fun r h2 => r = .ret v ∧ h2 = h1.hp P) hr (fun x hx => by rw [List.mem_singleton] at hx; subst hx; exact ⟨rfl, rfl⟩)
  rw [HT.hp_nil] at k
  have hK : ∀ i, (h1.hp P).u i = true → i < h1.n := fun i hi => by
    have hi' : (h1.t.get i).isSome = true := hi
    obtain ⟨x, hx⟩ := Option.isSome_iff_exists.1 hi'
    have := ltT_ok _ _ _ _ _ _ hlt hx
    omega
  have hB0 : ∀ i y, (fun i => match s.get i with | some _ => (h1.hp P) i | none => none) i = some y → (h1.hp P) i = some y := fun i y hy => by
    simp only at hy
    split at hy
    · exact hy
    · cases hy
  refine ⟨h1.n, _, _, _, CallL.adopt hB0 (fz_args ha) k hK hm, rfl, fun i hi => ⟨?_, ?_⟩, ?_⟩
  · show (h.t.get (h.n + i)).isSome = false
    rw [freshT_ok hfr i hi]; rfl
  · show jn P (h.t.get (h.n + i)) = none
    rw [freshT_ok hfr i hi]; rfl
  · refine Hp.ext (fun j => ?_) (fun j => ?_)
    · show jn P ((adT h.n s h1.t h1.n h.t).get j) = if h.n ≤ j ∧ j < h.n + h1.n then renB h.n (match s.get (j - h.n) with | some _ => jn P (h1.t.get (j - h.n)) | none => none) else jn P (h.t.get j)
      rw [adT_get]
      by_cases e : h.n ≤ j ∧ j < h.n + h1.n
      · rw [if_pos e, if_pos e]
        unfold adE
        cases hs : s.get (j - h.n) with
        | none => rfl
        | some _ => exact jn_renE _
      · rw [if_neg e, if_neg e]
    · show ((adT h.n s h1.t h1.n h.t).get j).isSome = if h.n ≤ j ∧ j < h.n + h1.n then true else (h.t.get j).isSome
      rw [adT_get]
      split <;> rfl

/-! ### Rounds, iterators -/

theorem hp_at {h : HT} {i : Nat} {b : EB} (hi : h.t.get i = some (some b)) : (h.hp P) i = some (b.bk P) := by
  show jn P (h.t.get i) = _
  rw [hi]; rfl
theorem hp_u {h : HT} {i : Nat} {b : Option EB} (hi : h.t.get i = some b) : (h.hp P).u i = true := by
  show (h.t.get i).isSome = true
  rw [hi]; rfl

theorem xSet_ok {i : Nat} {st' : LSt} {pend' : Option Jmp} {v : AV} {h : HT} {l : List CR} {next X : AV → Hp → Prop} (hx : xSet i st' pend' v h = some l) (hl : ∀ x ∈ l, CRQ P (nxt next X) x) : loopSet i st' pend' (fun _ _ => True) (next v) (h.hp P) := by
  unfold xSet at hx
  split at hx <;> cases hx
  rename_i n t ps a b st pend hi
  refine ⟨_, _, _, _, _, _, hp_at hi, trivial, .inl ?_⟩
  have := hl _ (List.mem_singleton.2 rfl)
  simp only [CRQ, nxt, HT.hp_set] at this
  exact this

theorem putsT_env {n : Nat} : ∀ (ps : List Nat) (vs : List AV) (t : Tr AV) (ds : List ADef), (⟨n, putsT t ps vs, ds⟩ : ET).env = putsP (⟨n, t, ds⟩ : ET).env ps vs := by
  intro ps
  induction ps with
  | nil => intro vs t ds; simp [putsT, putsP]
  | cons p ps ih =>
    intro vs t ds
    cases vs with
    | nil => simp [putsT, putsP]
    | cons v vs =>
      simp only [putsT, putsP, ih]
      congr 1
      exact ET.env_put ⟨n, t, ds⟩ (some p) v

theorem xRound_ok {run : Run} (hrun : RunOK P run) {i : Nat} {args : List AV} {h : HT} {l : List CR} {next X : AV → Hp → Prop} (hx : xRound run i args h = some l) (hl : ∀ x ∈ l, CRQ P (nxt next X) x) : RoundL P i args (h.hp P) next := by
  unfold xRound at hx
  split at hx <;> first | cases hx | skip
  rename_i n t ps a b pend hi
  split at hx <;> first | cases hx | skip
  rename_i hlen
  split at hx <;> first | cases hx | skip
  rename_i outs ho
  refine RoundL.of (md := true) (hp_at hi) (Nat.eq_of_beq_eq_true hlen) ?_
  have henv := putsT_env (n := n) ps args t []
  have h2 := hrun.code a _ h outs (roundA P true i b next) ho (fun v e e' h _ _ _ hf => hf) (fun x hxo => ?_)
  · rw [henv] at h2; exact h2
  obtain ⟨m, hm, hsub⟩ := bindL_ok hx x hxo
  simp only at hm
  split at hm <;> first | cases hm | skip
  rename_i e1 h1
  split at hm <;> first | cases hm | skip
  rename_i n1 t1 ps1 a1 b1 p1 hi1
  split at hm <;> first | cases hm | skip
  rename_i outs2 ho2
  refine ⟨_, _, _, _, _, hp_at hi1, ?_⟩
  have h3 := hrun.code b e1 _ outs2 (roundB i next) ho2 (fun v e e' h _ _ _ hf => hf) (fun y hyo => ?_)
  · rw [HT.hp_set] at h3; exact h3
  obtain ⟨m2, hm2, hsub2⟩ := bindL_ok hm y hyo
  split at hm2 <;> first | cases hm2 | skip
  all_goals exact xSet_ok (X := X) hm2 fun z hz => hl z (hsub z (hsub2 z hz))

theorem xNext_ok {i : Nat} {h : HT} {l : List CR} {e : Env} {x : AOpd} {next X : AV → Hp → Prop} (he : ev e x = .ptr i 0 0) (hx : xNext i h = some l) (hl : ∀ x ∈ l, CRQ P (nxt next X) x) : LOp P true (.nxm x) e (h.hp P) next X := by
  unfold xNext at hx
  simp only [LOp, he]
  split at hx <;> first | cases hx | skip
  · rename_i since seen stepped hi
    refine ⟨_, _, _, _, hp_at hi, .inr ?_⟩
    have := hl _ (List.mem_singleton.2 rfl)
    simp only [CRQ, nxt, HT.hp_del] at this
    exact this
  · rename_i m since seen stepped hi
    split at hx <;> first | cases hx | skip
    rename_i es c hm
    split at hx <;> cases hx
    rename_i hg
    refine ⟨_, _, _, _, hp_at hi, es, c, hp_at hm, ?_, fun hall => .inr ?_, fun k v b hkb hb => ?_⟩
    · simp only [Bool.or_eq_true, List.isEmpty_iff, List.any_eq_true] at hg
      rcases hg with hg | hg | ⟨y, hy, hlt⟩
      · exact .inl hg
      · exact .inr (.inl hg)
      · exact .inr (.inr ⟨y, hy, Nat.le_of_ble_eq_true hlt⟩)
    · have : ((unseen seen es).all fun x => Nat.ble since x.2.2) = true := List.all_eq_true.2 fun y hy => by
        simp only [unseen, List.mem_filter, Bool.not_eq_true'] at hy
        refine Nat.ble_eq_true_of_le (hall y hy.1 fun hmem => ?_)
        have := List.any_eq_false.1 hy.2 _ hmem
        exact this (Nat.beq_refl _)
      rw [this] at hl
      have := hl (.ret (.tup [.bool false]) (h.del i)) (by simp)
      simp only [CRQ, nxt, HT.hp_del] at this
      exact this
    · have hmem : (k, v, b) ∈ unseen seen es := by
        simp only [unseen, List.mem_filter, Bool.not_eq_true']
        refine ⟨hkb, List.any_eq_false.2 fun y hy hyb => ?_⟩
        have := Nat.eq_of_beq_eq_true hyb
        subst this
        exact hb hy
      have := hl (.ret (.tup [.bool true, k, v]) (h.set i (.b (.mapIter (some m) since (seen ++ [b]) c)))) (List.mem_append_right _ (List.mem_map.2 ⟨_, hmem, rfl⟩))
      simp only [CRQ, nxt, HT.hp_set] at this
      exact this

/-! ### Operations -/

theorem nxt_call {f : FuncId} {args : List AV} {h : Hp} {next X : AV → Hp → Prop} (k : CallL P f args h (nxt next X)) : CallL P f args h fun r h' => match r with | .ret v => next v h' | .pan v => X v h' := k

theorem xOpO_ok {hb : FuncId → Bool} (hh : BodyOK P hb) {run : Run} (hrun : RunOK P run) {o : AOp} {e : ET} {h : HT} {l : List CR} {next X : AV → Hp → Prop} (hx : xOpO P hb run o e h = some l) (hl : ∀ x ∈ l, CRQ P (nxt next X) x) :
    LOp P true o e.env (h.hp P) next X := by
  have gen : ∀ {o : AOp}, (match eE h.n o e.env (h.hp P) with | some (v, l) => some [CR.ret v (h.chg l)] | none => none) = some l → LOp P true o e.env (h.hp P) next X := by
    intro o hx
    split at hx <;> cases hx
    rename_i v l hv
    refine eE_ok hv ?_
    have := hl _ (List.mem_singleton.2 rfl)
    simp only [CRQ, nxt, HT.hp_chg] at this
    exact this
  cases o <;> simp only [xOpO] at hx <;> first | exact gen hx | skip
  case call f args => exact nxt_call (hrun.call _ _ _ _ _ hx hl)
  case callv x args =>
    split at hx <;> first | cases hx | skip
    · rename_i f first cap hv
      split at hx <;> first | cases hx | skip
      rename_i hbf
      simp only [LOp, hv]
      exact ⟨hh f hbf, nxt_call (hrun.call _ _ _ _ _ hx hl)⟩
    · rename_i i hv
      simp only [LOp, hv]
      exact xRound_ok hrun hx hl
    · rename_i nm t v hv
      split at hx <;> first | cases hx | skip
      rename_i f hf
      simp only [LOp, hv, hf]
      exact nxt_call (hrun.call _ _ _ _ _ hx hl)
  case inv tab x args =>
    split at hx <;> first | cases hx | skip
    rename_i t v hv
    split at hx <;> first | cases hx | skip
    rename_i f hf
    simp only [LOp, hv, hf]
    exact nxt_call (hrun.call _ _ _ _ _ hx hl)
  case nxm x =>
    split at hx <;> first | cases hx | skip
    rename_i i hv
    exact xNext_ok hv hx hl
  case pcall f args =>
    obtain ⟨v, rfl, hp⟩ := xP_ok hrun hx
    exact ⟨v, hp, hl _ (List.mem_singleton.2 rfl)⟩
  case pcallv x args =>
    split at hx <;> first | cases hx | skip
    rename_i f first cap hv
    split at hx <;> first | cases hx | skip
    rename_i hbf
    obtain ⟨v, rfl, hp⟩ := xP_ok hrun hx
    simp only [LOp, hv]
    exact ⟨hh f hbf, v, hp, hl _ (List.mem_singleton.2 rfl)⟩
  case acall f args =>
    obtain ⟨K, V, B, h2, hp, rfl, hf, he⟩ := xAd_ok hrun hx
    have := hl _ (List.mem_singleton.2 rfl)
    simp only [CRQ, nxt, he] at this
    exact ⟨K, V, B, hp, h.n, hf, this⟩
  case acallv x args =>
    split at hx <;> first | cases hx | skip
    rename_i f first cap hv
    split at hx <;> first | cases hx | skip
    rename_i hbf
    obtain ⟨K, V, B, h2, hp, rfl, hf, he⟩ := xAd_ok hrun hx
    have := hl _ (List.mem_singleton.2 rfl)
    simp only [CRQ, nxt, he] at this
    simp only [LOp, hv]
    exact ⟨hh f hbf, K, V, B, hp, h.n, hf, this⟩
  case nilm x =>
    split at hx <;> first | cases hx | skip
    · rename_i hv
      simp only [LOp, hv]
      exact hl _ (List.mem_singleton.2 rfl)
    · rename_i hv
      split at hx <;> cases hx
      rename_i hm
      simp only [LOp, hv]
      exact ⟨hm, hl _ (List.mem_singleton.2 rfl)⟩
  case pan x =>
    split at hx <;> cases hx
    rename_i t v hv
    simp only [LOp, hv]
    exact hl _ (List.mem_singleton.2 rfl)

theorem xOp_ok {hb : FuncId → Bool} (hh : BodyOK P hb) {run : Run} (hrun : RunOK P run) {o : AOp} {e : ET} {h : HT} {l : List CR} {next X : AV → Hp → Prop} (hx : xOp P hb run o e h = some l) (hl : ∀ x ∈ l, CRQ P (nxt next X) x) :
    LOp P true o e.env (h.hp P) next X := by
  unfold xOp at hx
  split at hx
  · rename_i f hf
    obtain ⟨h1, h2⟩ := prepN_ok hf
    rw [h2] at hx
    unfold runN at hx
    split at hx <;> cases hx
    rename_i v hv
    exact LN_LOp h1 (eN_ok hv (hl _ (List.mem_singleton.2 rfl)))
  · rename_i f hf
    rw [prepE_ok hf] at hx
    unfold runE at hx
    split at hx <;> cases hx
    rename_i v l hv
    refine eE_ok hv ?_
    have := hl _ (List.mem_singleton.2 rfl)
    simp only [CRQ, nxt, HT.hp_chg] at this
    exact this
  · exact xOpO_ok hh hrun hx hl

theorem xOps_ok {hb : FuncId → Bool} (hh : BodyOK P hb) {run : Run} (hrun : RunOK P run) : ∀ (l : List AOper) {e : ET} {h : HT} {outs : List OR} {K : Env → Hp → Prop} {X : AV → Env → Hp → Prop}, xOps P hb run l e h = some outs → (∀ x ∈ outs, ORQ P K X x) → LOps P true l K X e.env (h.hp P) := by
  intro l
  induction l with
  | nil => intro e h outs K X hx hn; cases hx; exact hn _ (List.mem_singleton.2 rfl)
  | cons a r ih =>
    obtain ⟨d, o, g⟩ := a
    intro e h q K X hx hn
    simp only [xOps] at hx
    have run : (match xOp P hb run o e h with
        | some outs => bindL outs fun x => match x with
          | .ret v h' => xOps P hb run r (e.put d v) h'
          | .pan v h' => some [.pan v e h']
        | none => none) = some q → LOp P true o e.env (h.hp P) (fun v h' => force v fun v => LOps P true r K X (e.env.put d v) h') (fun v h' => X v e.env h') := by
      intro hx
      split at hx <;> first | cases hx | skip
      rename_i outs ho
      refine xOp_ok hh hrun ho fun x hxo => ?_
      obtain ⟨m, hm, hsub⟩ := bindL_ok hx x hxo
      cases x with
      | ret v h' =>
        simp only [CRQ, nxt]
        rw [force_eq, ← ET.env_put]
        exact ih hm fun y hy => hn y (hsub y hy)
      | pan v h' =>
        cases hm
        exact hn _ (hsub _ (List.mem_singleton.2 rfl))
    cases g with
    | none => simp only [eWant] at hx; exact run hx
    | some g =>
      obtain ⟨t, b⟩ := g
      simp only [eWant] at hx
      simp only [LOps]
      have ht : e.env.t t = (e.t.get t).getD (.tup []) := rfl
      rw [ht]
      generalize (e.t.get t).getD (.tup []) = x at hx ⊢
      cases x <;> simp only at hx <;> first | (cases hx; done) | skip
      case bool c =>
        simp only
        have hskip : xOps P hb _ r (e.put d (.tup [])) h = some q → LOps P true r K X (e.env.put d (.tup [])) (h.hp P) := fun hx => by rw [← ET.env_put]; exact ih hx hn
        cases c <;> cases b <;> simp only [bcase] <;> first | exact run hx | exact hskip hx
      case tup vs => simp only; rw [← ET.env_put]; exact ih hx hn
end
end Go.L
