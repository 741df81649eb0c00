/-
  The logic L computed, part g: the evaluator is sound: code, functions.
-/
import Derived.Test.YtpmjgnpkbmfimabGreatDoorEf
namespace Go.L

theorem eqFn_ok' {a b : Fn} (h : eqFn a b = true) : a = b := eqFn_ok h
theorem eqD_ok {a b : ADef} (h : eqD a b = true) : a = b := by
  cases a <;> cases b <;> simp only [eqD] at h <;> first | (cases h; done) | skip
  · simp only [Bool.and_eq_true] at h
    rw [eqFn_ok h.1, eqL_ok _ h.2.1, eqL_ok _ h.2.2]
  · rw [Nat.eq_of_beq_eq_true h]
theorem eqDs_ok : ∀ {a b : List ADef}, eqDs a b = true → a = b := by
  intro a
  induction a with
  | nil => intro b h; cases b with
    | nil => rfl
    | cons => cases h
  | cons x l ih => intro b h; cases b with
    | nil => cases h
    | cons y m =>
      simp only [eqDs, Bool.and_eq_true] at h
      rw [eqD_ok h.1, ih h.2]
theorem eqE_ok {a b : ET} (h : eqE a b = true) : a = b := by
  simp only [eqE, Bool.and_eq_true] at h
  cases a; cases b
  simp only at h
  rw [Nat.eq_of_beq_eq_true h.1, eqDs_ok h.2.1, eqT_ok (fun h => eqA_ok _ h) h.2.2]
theorem eqX_ok {a b : XR} (h : eqX a b = true) : a = b := by
  unfold eqX at h
  split at h
  · simp only [Bool.and_eq_true] at h
    rw [eqE_ok h.1, eqH_ok h.2]
  · cases h
theorem eqC_ok {a b : CR} (h : eqC a b = true) : a = b := by
  unfold eqC at h
  split at h
  · simp only [Bool.and_eq_true] at h
    rw [eqA_ok _ h.1, eqH_ok h.2]
  · cases h

section
variable {P : Program} {hb : FuncId → Bool} {run : Run}

theorem iterX_ok {f : ET → HT → Option (List XR)} {c : ACode} {kp : List Nat} (hf : ∀ (e : ET) (h : HT) (l : List XR) (Q : Xit → Env → Hp → Prop), f e h = some l → PanC kp Q → (∀ x ∈ l, XRQ P Q x) → LCode P true c Q e.env (h.hp P))
    {n : Nat} {e : ET} {h : HT} {l : List XR} {Q : Xit → Env → Hp → Prop} (hx : iterX f n e h = some l) (hQ : PanC kp Q) (hl : ∀ x ∈ l, XRQ P Q x) : LCode P true (.loop c) Q e.env (h.hp P) := by
  refine ⟨fun m e1 h1 => ∃ (e2 : ET) (h2 : HT) (l2 : List XR), e1 = e2.env ∧ h1 = h2.hp P ∧ iterX f m e2 h2 = some l2 ∧ ∀ x ∈ l2, XRQ P Q x, ⟨n, e, h, l, rfl, rfl, hx, hl⟩, ?_⟩
  rintro m _ _ ⟨e2, h2, l2, rfl, rfl, hm, hl2⟩
  cases m with
  | zero => cases hm
  | succ m =>
    simp only [iterX] at hm
    split at hm <;> first | cases hm | skip
    rename_i outs ho
    refine hf _ _ _ _ ho (fun v => hQ v) (dd_ok eqX_ok fun x hxo => ?_)
    obtain ⟨k, hk, hsub⟩ := bindL_ok hm x hxo
    obtain ⟨y, e3, h3⟩ := x
    cases y with
    | normal => exact ⟨m, Nat.lt_succ_self m, e3, h3, k, rfl, rfl, hk, fun x hx => hl2 x (hsub x hx)⟩
    | exit i => cases hk; exact hl2 _ (hsub _ (List.mem_singleton.2 rfl))
    | ret => cases hk; exact hl2 _ (hsub _ (List.mem_singleton.2 rfl))
    | pan v => cases hk; exact hl2 _ (hsub _ (List.mem_singleton.2 rfl))

/-- One order. -/
theorem xAlt1_ok (hh : BodyOK P hb) (hrun : RunOK P run) {l : List AOper} {e e0 : ET} {h : HT} {outs : List OR} {m : List XR} {D kp : List Nat} {Q : Xit → Env → Hp → Prop} (hQ : PanC kp Q) (hx : xOps P hb run l e h = some outs)
    (hb2 : bindL outs (altX kp D e0) = some m) (hl : ∀ x ∈ m, XRQ P Q x) : LOps P true l (fun e h => Q .normal e h) (fun v _ h => ∀ g : Nat → AV, (∀ t, inL t D = false → g t = e0.env.t t) → Q (.pan v) ⟨e0.env.n, g, e0.env.ds⟩ h) e.env (h.hp P) := by
  refine xOps_ok hh hrun l hx fun x hxo => ?_
  obtain ⟨k, hk, hsub⟩ := bindL_ok hb2 x hxo
  cases x with
  | nor e h => cases hk; exact hl _ (hsub _ (List.mem_singleton.2 rfl))
  | pan v e h =>
    simp only [altX] at hk
    split at hk <;> cases hk
    rename_i hD
    intro g hg
    refine hQ v e0.env ⟨e0.env.n, g, e0.env.ds⟩ _ rfl rfl (fun t ht => (hg t ?_).symm) (hl _ (hsub _ (List.mem_singleton.2 rfl)))
    cases hd : inL t D with
    | false => rfl
    | true =>
      have := List.all_eq_true.1 hD t (inL_iff.1 hd)
      rw [ht] at this; cases this

theorem xAlts_ok (hh : BodyOK P hb) (hrun : RunOK P run) {e e0 : ET} {h : HT} {D kp : List Nat} {Q : Xit → Env → Hp → Prop} (hQ : PanC kp Q) : ∀ {ls : List (List AOper)} {m : List XR}, xAlts (fun l => xOps P hb run l e h) (altX kp D e0) ls = some m → (∀ x ∈ m, XRQ P Q x) →
    LAlts P true ls (fun e h => Q .normal e h) (fun v _ h => ∀ g : Nat → AV, (∀ t, inL t D = false → g t = e0.env.t t) → Q (.pan v) ⟨e0.env.n, g, e0.env.ds⟩ h) e.env (h.hp P)
  | [], m, _, _ => trivial
  | [l], m, hx, hl => by
    simp only [xAlts] at hx
    split at hx <;> first | cases hx | skip
    rename_i outs ho
    exact xAlt1_ok hh hrun hQ ho hx hl
  | l :: l2 :: r, m, hx, hl => by
    simp only [xAlts] at hx
    split at hx <;> first | cases hx | skip
    rename_i outs ho
    split at hx <;> first | cases hx | skip
    rename_i a ha
    split at hx <;> cases hx
    rename_i b hb3
    exact ⟨xAlt1_ok hh hrun hQ ho ha fun x hx => hl x (List.mem_append_left _ hx), xAlts_ok hh hrun hQ hb3 fun x hx => hl x (List.mem_append_right _ hx)⟩

theorem Hp.set_del {h : Hp} {i : Nat} {b : Blk} (hu : h.u i = true) : (h.set i b).del i = h.del i := by
  refine Hp.ext (fun j => ?_) (fun j => ?_)
  · by_cases e : j = i
    · subst e; simp
    · rw [Hp.del_ne e, Hp.del_ne e, Hp.set_ne e]
  · simp only [Hp.del_u, Hp.set_u]
    split
    · rename_i e; rw [e, hu]
    · rfl

theorem xOver_ok {i j : Nat} {e : ET} {h : HT} {l : List XR} {Q : Xit → Env → Hp → Prop} (hx : xOver i j e h = some l) (hl : ∀ x ∈ l, XRQ P Q x) : rngQ j Q ⟨e.env.n, e.env.t, .mark i :: e.env.ds⟩ (h.hp P) := by
  unfold xOver at hx
  split at hx <;> first | cases hx | skip
  rename_i n t ps a b st pend hj
  have hu := hp_u (P := P) hj
  have key : st ≠ .busy → ∀ y, l = [(y, ⟨e.n, e.t, .mark i :: e.ds⟩, h.del j)] → Q y ⟨e.env.n, e.env.t, .mark i :: e.env.ds⟩ ((h.hp P).del j) := fun _ y hy => by
    subst hy
    have := hl _ (List.mem_singleton.2 rfl)
    simp only [XRQ, HT.hp_del] at this
    exact this
  have hst : st ≠ .busy := fun e => by subst e; cases hx
  refine ⟨pend, n, _, ps, _, st, pend, hp_at hj, ⟨hst, rfl⟩, .inr ?_⟩
  rw [Hp.set_del hu]
  have hx' : (match pend with
      | none => some [((.normal, ⟨e.n, e.t, .mark i :: e.ds⟩, h.del j) : XR)]
      | some .ret => some [(.ret, ⟨e.n, e.t, .mark i :: e.ds⟩, h.del j)]
      | some (.exit id) => some [(.exit id, ⟨e.n, e.t, .mark i :: e.ds⟩, h.del j)]) = some l := by
    clear key hl
    cases st <;> first | (cases pend with
      | none => exact hx
      | some p => cases p <;> exact hx) | exact (hst rfl).elim
  cases pend with
  | none => cases hx'; exact key hst _ rfl
  | some p => cases p with
    | ret => cases hx'; exact key hst _ rfl
    | exit id => cases hx'; exact key hst _ rfl

theorem xC_ok (hh : BodyOK P hb) (hrun : RunOK P run) {fuel : Nat} {kp : List Nat} : ∀ (c : ACode) (e : ET) (h : HT) (l : List XR) (Q : Xit → Env → Hp → Prop), xC P hb run fuel kp c e h = some l → PanC kp Q → (∀ x ∈ l, XRQ P Q x) → LCode P true c Q e.env (h.hp P) := by
  intro c
  have one : ∀ {e : ET} {h : HT} {y : Xit} {Q : Xit → Env → Hp → Prop}, (∀ x ∈ [((y, e, h) : XR)], XRQ P Q x) → Q y e.env (h.hp P) := fun hl => hl _ (List.mem_singleton.2 rfl)
  induction c with
  | skip => intro e h l Q hx hQ hl; cases hx; exact one hl
  | ops ll =>
    intro e h l Q hx hQ hl
    simp only [xC, opsX] at hx
    split at hx <;> first | cases hx | skip
    rename_i outs ho
    refine xOps_ok hh hrun ll ho fun x hxo => ?_
    obtain ⟨k, hk, hsub⟩ := bindL_ok hx x hxo
    cases x <;> cases hk <;> exact hl _ (hsub _ (List.mem_singleton.2 rfl))
  | seq a b iha ihb =>
    intro e h l Q hx hQ hl
    simp only [xC, seqX] at hx
    split at hx <;> first | cases hx | skip
    rename_i outs ho
    refine iha _ _ _ _ ho (fun v => hQ v) fun x hxo => ?_
    obtain ⟨k, hk, hsub⟩ := bindL_ok hx x hxo
    obtain ⟨y, e1, h1⟩ := x
    cases y with
    | normal => exact ihb _ _ _ _ hk hQ fun x hx => hl x (hsub x hx)
    | exit i => cases hk; exact hl _ (hsub _ (List.mem_singleton.2 rfl))
    | ret => cases hk; exact hl _ (hsub _ (List.mem_singleton.2 rfl))
    | pan v => cases hk; exact hl _ (hsub _ (List.mem_singleton.2 rfl))
  | cond c a b iha ihb =>
    intro e h l Q hx hQ hl
    simp only [xC, condX] at hx
    split at hx <;> first | cases hx | skip
    · rename_i h1; simp only [LCode, h1, bcase]; exact iha _ _ _ _ hx hQ hl
    · rename_i h1; simp only [LCode, h1, bcase]; exact ihb _ _ _ _ hx hQ hl
  | block id c ih =>
    intro e h l Q hx hQ hl
    simp only [xC, blockX] at hx
    split at hx <;> first | cases hx | skip
    rename_i outs ho
    refine ih _ _ _ _ ho (fun v => hQ v) fun x hxo => ?_
    obtain ⟨k, hk, hsub⟩ := bindL_ok hx x hxo
    obtain ⟨y, e1, h1⟩ := x
    cases y with
    | exit j =>
      simp only at hk
      split at hk <;> cases hk
      · rename_i hj
        have := hl _ (hsub _ (List.mem_singleton.2 rfl))
        simp only [XRQ, inBlk, Nat.eq_of_beq_eq_true hj, if_true] at this ⊢; exact this
      · rename_i hj
        have hne : j ≠ id := fun e => by subst e; rw [Nat.beq_refl] at hj; cases hj
        have := hl _ (hsub _ (List.mem_singleton.2 rfl))
        simp only [XRQ, inBlk, hne, if_false] at this ⊢; exact this
    | normal => cases hk; exact hl _ (hsub _ (List.mem_singleton.2 rfl))
    | ret => cases hk; exact hl _ (hsub _ (List.mem_singleton.2 rfl))
    | pan v => cases hk; exact hl _ (hsub _ (List.mem_singleton.2 rfl))
  | loop c ih => intro e h l Q hx hQ hl; exact iterX_ok (fun e h l Q => ih e h l Q) hx hQ hl
  | exit id => intro e h l Q hx hQ hl; cases hx; exact one hl
  | ret => intro e h l Q hx hQ hl; cases hx; exact one hl
  | bad => intro e h l Q hx hQ hl; cases hx
  | recv d ms => intro e h l Q hx hQ hl; cases hx
  | orr a b iha ihb =>
    intro e h l Q hx hQ hl
    simp only [xC, orX] at hx
    split at hx
    · rename_i r hr; cases hx; exact .inl (iha _ _ _ _ hr hQ hl)
    · exact .inr (ihb _ _ _ _ hx hQ hl)
  | alts D ls =>
    intro e h l Q hx hQ hl
    simp only [xC, altsX] at hx
    split at hx <;> cases hx
    rename_i m hm
    exact xAlts_ok hh hrun hQ hm (dd_ok eqX_ok hl)
  | dfr x args =>
    intro e h l Q hx hQ hl
    simp only [xC, dfrX] at hx
    split at hx <;> cases hx
    rename_i f first cap hv
    simp only [LCode, hv]
    exact one hl
  | rngf g ps a b iha ihb =>
    intro e h l Q hx hQ hl
    simp only [xC, rngX] at hx
    split at hx <;> first | cases hx | skip
    rename_i f first cap hv
    split at hx <;> first | cases hx | skip
    rename_i hc
    simp only [Bool.and_eq_true, Bool.not_eq_true'] at hc
    obtain ⟨hbf, hu1, hu2⟩ := hc
    split at hx <;> first | cases hx | skip
    rename_i outs ho
    simp only [LCode, hv]
    have fresh : ∀ {h : Hp} {i : Nat}, h.u i = false → Fresh h i := fun {h i} hu => ⟨hu, h.ok i hu⟩
    rw [HT.hp_set] at hu2
    refine ⟨hh f hbf, h.n, fresh hu1, h.n + 1, fresh hu2, ?_⟩
    have k := hrun.call _ _ _ _ (fun r h' => match r with
      | .ret _ => rngQ (h.n + 1) Q ⟨e.env.n, e.env.t, .mark h.n :: e.env.ds⟩ h'
      | .pan v => Q (.pan v) ⟨e.env.n, e.env.t, .mark h.n :: e.env.ds⟩ h') ho (fun x hxo => ?_)
    · rw [HT.hp_set, HT.hp_set] at k; exact k
    obtain ⟨m, hm, hsub⟩ := bindL_ok hx x hxo
    cases x with
    | ret v h' => exact xOver_ok hm fun x hx => hl x (hsub x hx)
    | pan v h' => cases hm; exact hl _ (hsub _ (List.mem_singleton.2 rfl))

theorem xRes_ok {e : Env} {h : Hp} : ∀ (rs : List ARes) {l : List AV} {N : List AV → Prop}, xRes e h rs = some l → N l → resL e h rs N := by
  intro rs
  induction rs with
  | nil => intro l N hx hn; cases hx; exact hn
  | cons r rs ih =>
    intro l N hx hn
    cases r <;> simp only [xRes] at hx <;> split at hx <;> cases hx
    · rename_i l' h1; exact ih h1 hn
    · rename_i v l' h1 h2; exact eN_ok h1 (ih h2 hn)
    · rename_i v l' h1 h2; exact eN_ok h1 (ih h2 hn)

theorem argsT_get : ∀ (args : List AV) (i : Nat) (t : Tr AV) (x : Nat), (argsT args i t).get x = if i ≤ x ∧ x < i + args.length then args[x - i]? else t.get x := by
  intro args
  induction args with
  | nil => intro i t x; simp only [argsT, List.length_nil]; rw [if_neg (by omega)]
  | cons a r ih =>
    intro i t x
    rw [argsT, ih, Tr.get_set]
    by_cases e : x = i
    · subst e
      rw [if_neg (by omega), if_pos rfl, if_pos (by simp)]; simp
    · by_cases e2 : i + 1 ≤ x ∧ x < i + 1 + r.length
      · rw [if_pos e2, if_pos (by simp; omega)]
        obtain ⟨k, rfl⟩ : ∃ k, x = i + 1 + k := ⟨x - (i + 1), by omega⟩
        rw [show i + 1 + k - (i + 1) = k by omega, show i + 1 + k - i = k + 1 by omega]; rfl
      · rw [if_neg e2, if_neg e, if_neg (by simp; omega)]

theorem env0_eq (n : Nat) (args : List AV) : (⟨n, argsT args 0 .nil, []⟩ : ET).env = env0 n args := by
  simp only [ET.env, env0, Env.mk.injEq, true_and, and_true]
  funext x
  rw [argsT_get]
  by_cases h : x < args.length
  · rw [if_pos (by omega)]; simp
  · rw [if_neg (by omega), List.getElem?_eq_none (by omega), Tr.get_nil]

theorem xLeave_ok (hh : BodyOK P hb) (hrun : RunOK P run) {rs : List ARes} {Q : Res → Hp → Prop} : ∀ (ds : List ADef) (u : Um) (e : ET) (h : HT) (l : List CR), xLeave P hb run rs ds u e h = some l → (∀ x ∈ l, CRQ P Q x) → LeavesL P rs Q ds u e.env (h.hp P) := by
  intro ds
  induction ds with
  | nil =>
    intro u e h l hx hl
    cases u with
    | ret =>
      simp only [xLeave] at hx
      split at hx <;> cases hx
      rename_i r hr
      exact xRes_ok rs hr (hl _ (List.mem_singleton.2 rfl))
    | pan v => cases hx; exact hl _ (List.mem_singleton.2 rfl)
    | rcv v => cases hx
  | cons d ds ih =>
    intro u e h l hx hl
    cases d with
    | mark i =>
      simp only [xLeave] at hx
      split at hx <;> first | cases hx | skip
      rename_i hi
      have := ih _ _ _ _ hx hl
      rw [HT.hp_del] at this
      exact ⟨hp_at hi, this⟩
    | call fn cap args =>
      cases fn <;> simp only [xLeave] at hx <;> first | (cases hx; done) | skip
      rename_i f
      split at hx <;> first | cases hx | skip
      rename_i hbf
      split at hx <;> first | cases hx | skip
      rename_i outs ho
      refine ⟨hh f hbf, hrun.dfr _ _ _ _ _ _ ho fun x hxo => ?_⟩
      obtain ⟨m, hm, hsub⟩ := bindL_ok hx x hxo
      obtain ⟨r, um, h'⟩ := x
      cases r with
      | ret v => exact ih _ _ _ _ hm fun x hx => hl x (hsub x hx)
      | pan v => cases hm

theorem inL_cons {t a : Nat} {l : List Nat} : inL t (a :: l) = (Nat.beq a t || inL t l) := rfl
theorem resL_agree {e e2 : Env} {h : Hp} : ∀ {rs : List ARes}, (∀ t, inL t (resT rs) = true → e.t t = e2.t t) → ∀ {N : List AV → Prop}, resL e h rs N = resL e2 h rs N := by
  intro rs
  induction rs with
  | nil => intro _ N; rfl
  | cons r rs ih =>
    intro hT N
    have hd : ∀ t, resT (r :: rs) = t :: resT rs → e.t t = e2.t t := fun t ht => hT t (by rw [ht, inL_cons, Nat.beq_refl]; rfl)
    have tl : ∀ t, inL t (resT rs) = true → e.t t = e2.t t := fun t ht => hT t (by
      cases r <;> simp only [resT, inL_cons, ht, Bool.or_true])
    have ih := fun {N} => ih tl (N := N)
    cases r with
    | tmp t => simp only [resL, ih, hd t rfl]
    | cell1 t => simp only [resL, LN, ev, ih, hd t rfl]
    | cella t n => simp only [resL, LN, ev, ih, hd t rfl]
theorem LeavesL_agree {rs : List ARes} {Q : Res → Hp → Prop} : ∀ (ds : List ADef) (u : Um) {e e2 : Env} {h : Hp}, (∀ t, inL t (resT rs) = true → e.t t = e2.t t) → LeavesL P rs Q ds u e h → LeavesL P rs Q ds u e2 h := by
  intro ds
  induction ds with
  | nil =>
    intro u e e2 h hT hl
    cases u with
    | ret => exact Eq.mp (resL_agree hT) hl
    | pan v => exact hl
    | rcv v => exact hl
  | cons d ds ih =>
    intro u e e2 h hT hl
    cases d with
    | mark i => exact ⟨hl.1, ih _ hT hl.2⟩
    | call fn cap args =>
      cases fn <;> first | exact hl.elim | skip
      refine ⟨hl.1, hl.2.mono fun r u h' hr => ?_⟩
      cases r with
      | ret v => exact ih _ hT hr
      | pan v => exact hr.elim
theorem EndQD_panC {rs : List ARes} {Q : Res → Hp → Prop} : PanC (resT rs) (EndQD P rs Q) := fun v e e' h _ hds hT hq => by
  have : LeavesL P rs Q e.ds (.pan v) e h := hq
  show LeavesL P rs Q e'.ds (.pan v) e' h
  rw [← hds]; exact LeavesL_agree _ _ hT this

/-! ### Blocks dropped -/

def dels (h : Hp) : List Nat → Hp
  | [] => h
  | i :: l => dels (h.del i) l
theorem R.dels {σ : Emb} {M : Mem} {w : World} : ∀ (l : List Nat) {h : Hp}, R P σ M h w → R P σ M (dels h l) w
  | [], _, hR => hR
  | i :: l, _, hR => R.dels l (hR.del i)
theorem CallL.drop {f : FuncId} {args : List AV} {h : Hp} {Q : Res → Hp → Prop} (k : CallL P f args h fun r h' => ∃ l, Q r (Go.L.dels h' l)) : CallL P f args h Q := by
  refine ⟨fun σ M w args' hR hA => (k.run σ M w args' hR hA).mono fun e w' ⟨σ', M', h', h1, h2, h3⟩ => ?_⟩
  cases e with
  | returned v' => obtain ⟨v, a, l, b⟩ := h3; exact ⟨σ', M', _, h1, h2.dels l, v, a, b⟩
  | panicked ch => obtain ⟨v, v', a, b, l, c⟩ := h3; exact ⟨σ', M', _, h1, h2.dels l, v, v', a, b, c⟩
  | outgrown => exact h3.elim

theorem sweep_ok : ∀ (f i : Nat) (h : HT), ∃ l, (sweep f i h).hp P = dels (h.hp P) l
  | 0, _, h => ⟨[], rfl⟩
  | f + 1, i, h => by
    have del : ∃ l, (sweep f (i + 1) (h.del i)).hp P = dels (h.hp P) l := by
      obtain ⟨l, hl⟩ := sweep_ok f (i + 1) (h.del i)
      exact ⟨i :: l, by rw [hl, HT.hp_del]; rfl⟩
    unfold sweep
    split
    · exact del
    · exact del
    · exact del
    · exact sweep_ok f (i + 1) h
theorem tidy_ok {n0 : Nat} {l : List CR} {Q : Res → Hp → Prop} (h : ∀ x ∈ tidy n0 l, CRQ P Q x) : ∀ x ∈ l, CRQ P (fun r h' => ∃ l, Q r (dels h' l)) x := by
  have plain : ∀ x, CRQ P Q x → CRQ P (fun r h' => ∃ l, Q r (dels h' l)) x := fun x hx => by cases x <;> exact ⟨[], hx⟩
  unfold tidy at h
  split at h
  · exact fun x hx => plain x (h x hx)
  · intro x hx
    have h2 := dd_ok eqC_ok h (sweepC n0 x) (List.mem_map.2 ⟨x, hx, rfl⟩)
    cases x with
    | ret v h' =>
      obtain ⟨l, hl⟩ := sweep_ok (P := P) (h'.n - n0) n0 h'
      simp only [sweepC, CRQ, hl] at h2
      exact ⟨l, h2⟩
    | pan v h' => exact plain _ h2

def CodesOK (P : Program) (codes : Tr FC) : Prop := ∀ f c, codes.get f = some c → ∃ fn m, P.funcs[f]? = some fn ∧ fn.ntmps = c.n ∧ cutF m (compF P fn) = some (c.c, c.r)

theorem xFun_ok {codes : Tr FC} {loops : Nat} (hk : CodesOK P codes) (hh : BodyOK P hb) (hrun : RunOK P run) {f : FuncId} {args : List AV} {h : HT} {l : List CR} {Q : Res → Hp → Prop} (hx : xFun P hb codes loops run f args h = some l) (hl : ∀ x ∈ l, CRQ P Q x) :
    CallL P f args (h.hp P) Q := by
  unfold xFun at hx
  split at hx <;> first | cases hx | skip
  rename_i c hc
  obtain ⟨fn, msk, hf, hn, hcf⟩ := hk f c hc
  obtain ⟨full, hcf, hcut⟩ := cutF_inv hcf
  split at hx <;> first | cases hx | skip
  rename_i hlen
  have hlen' := Nat.le_of_ble_eq_true hlen
  split at hx <;> first | cases hx | skip
  rename_i outs ho
  split at hx <;> cases hx
  rename_i l2 hl2
  refine CallL.drop (CallL.ofD (md := true) hf hcf (by rw [hn]; exact hlen') ?_)
  rw [hn, ← env0_eq]
  have hq := tidy_ok hl
  refine cutA_ok full msk ?_
  rw [← hcut]
  refine xC_ok hh hrun _ _ _ _ _ ho EndQD_panC fun x hxo => ?_
  obtain ⟨m, hm, hsub⟩ := bindL_ok hl2 x hxo
  obtain ⟨y, e', h'⟩ := x
  cases y with
  | normal => exact xLeave_ok hh hrun _ _ _ _ _ hm fun x hx => hq x (hsub x hx)
  | ret => exact xLeave_ok hh hrun _ _ _ _ _ hm fun x hx => hq x (hsub x hx)
  | pan v => exact xLeave_ok hh hrun _ _ _ _ _ hm fun x hx => hq x (hsub x hx)
  | exit i => cases hm

theorem putsET_env : ∀ (ms : List (Option Nat × AOpd)) (e : ET), (putsET e ms).env = putsE e.env ms
  | [], e => rfl
  | (d, x) :: r, e => by rw [putsET, putsE, putsET_env r, ET.env_put]

theorem xCS_ok (hh : BodyOK P hb) (hrun : RunOK P run) {fuel : Nat} : ∀ (c : ACode) (e : ET) (h : HT) (u : Um) (l : List XS) (Q : Xit → Env → Hp → Um → Prop), xCS P hb run fuel c e h u = some l → (∀ u, PanC [] fun x e h => Q x e h u) → (∀ x ∈ l, Q x.1 x.2.1.env (x.2.2.1.hp P) x.2.2.2) → LCodeS P true c Q e.env (h.hp P) u := by
  intro c
  have plain : ∀ (c : ACode) (e : ET) (h : HT) (u : Um) (l : List XS) (Q : Xit → Env → Hp → Um → Prop), plainA c = true → (match xC P hb run fuel [] c e h with
      | some outs => some (outs.map fun x => ((x.1, x.2.1, x.2.2, u) : XS))
      | none => none) = some l → (∀ u, PanC [] fun x e h => Q x e h u) → (∀ x ∈ l, Q x.1 x.2.1.env (x.2.2.1.hp P) x.2.2.2) → LCode P true c (fun x e h => Q x e h u) e.env (h.hp P) := by
    intro c e h u l Q _ hx hQ hl
    split at hx <;> cases hx
    rename_i outs ho
    exact xC_ok hh hrun _ _ _ _ _ ho (hQ u) fun x hxo => hl _ (List.mem_map.2 ⟨x, hxo, rfl⟩)
  induction c with
  | seq a b iha ihb =>
    intro e h u l Q hx hQ hl
    simp only [xCS] at hx
    split at hx <;> first | cases hx | skip
    rename_i outs ho
    refine iha _ _ _ _ _ ho (fun u v => hQ u v) fun x hxo => ?_
    obtain ⟨m, hm, hsub⟩ := bindL_ok hx x hxo
    obtain ⟨y, e1, h1, u1⟩ := x
    cases y with
    | normal => exact ihb _ _ _ _ _ hm hQ fun x hx => hl x (hsub x hx)
    | exit i => cases hm; exact hl _ (hsub _ (List.mem_singleton.2 rfl))
    | ret => cases hm; exact hl _ (hsub _ (List.mem_singleton.2 rfl))
    | pan v => cases hm; exact hl _ (hsub _ (List.mem_singleton.2 rfl))
  | cond c a b iha ihb =>
    intro e h u l Q hx hQ hl
    simp only [xCS] at hx
    split at hx <;> first | cases hx | skip
    · rename_i h1; simp only [LCodeS, h1, bcase]; exact iha _ _ _ _ _ hx hQ hl
    · rename_i h1; simp only [LCodeS, h1, bcase]; exact ihb _ _ _ _ _ hx hQ hl
  | recv d ms =>
    intro e h u l Q hx hQ hl
    cases u with
    | pan v =>
      cases hx
      have := hl _ (List.mem_singleton.2 rfl)
      simp only [putsET_env, ET.env_put] at this
      exact this
    | ret =>
      cases hx
      have := hl _ (List.mem_singleton.2 rfl)
      simp only [putsET_env, ET.env_put] at this
      exact this
    | rcv v =>
      cases hx
      have := hl _ (List.mem_singleton.2 rfl)
      simp only [putsET_env, ET.env_put] at this
      exact this
  | _ => intro e h u l Q hx hQ hl; exact plain _ e h u l Q rfl hx hQ hl

theorem xDfr_ok {codes : Tr FC} {loops : Nat} (hk : CodesOK P codes) (hh : BodyOK P hb) (hrun : RunOK P run) {f : FuncId} {args : List AV} {u : Um} {h : HT} {l : List DR} {Q : Res → Um → Hp → Prop} (hx : xDfr P hb codes loops run f args u h = some l)
    (hl : ∀ x ∈ l, Q x.r x.u (x.h.hp P)) : DefL P f args u (h.hp P) Q := by
  unfold xDfr at hx
  split at hx <;> first | cases hx | skip
  rename_i c hc
  obtain ⟨fn, msk, hf, hn, hcf⟩ := hk f c hc
  obtain ⟨full, hcf, hcut⟩ := cutF_inv hcf
  split at hx <;> first | cases hx | skip
  rename_i hlen
  have hlen' := Nat.le_of_ble_eq_true hlen
  split at hx <;> first | cases hx | skip
  rename_i outs ho
  refine DefL.ofS (md := true) hf hcf (by rw [hn]; exact hlen') ?_
  rw [hn, ← env0_eq]
  refine cutA_okS full msk ?_
  rw [← hcut]
  refine xCS_ok hh hrun _ _ _ _ _ _ ho (fun u v e e' h _ hds _ hq => ⟨hds ▸ hq.1, hq.2⟩) fun x hxo => ?_
  obtain ⟨m, hm, hsub⟩ := bindL_ok hx x hxo
  obtain ⟨y, e', h', u'⟩ := x
  simp only at hm
  split at hm <;> first | cases hm | skip
  rename_i hds
  have fin : ∀ {m : List DR}, (match xRes e'.env (h'.hp P) c.r with
      | some l => some [(⟨.ret (oneV l), u', h'⟩ : DR)]
      | none => none) = some m → (∀ y ∈ m, y ∈ l) → e'.env.ds = [] ∧ resL e'.env (h'.hp P) c.r fun l => Q (.ret (oneV l)) u' (h'.hp P) := by
    intro m hm hsub
    split at hm <;> cases hm
    rename_i r hr
    exact ⟨hds, xRes_ok _ hr (hl _ (hsub _ (List.mem_singleton.2 rfl)))⟩
  cases y with
  | exit i => cases hm
  | pan v => cases hm; exact ⟨hds, hl _ (hsub _ (List.mem_singleton.2 rfl))⟩
  | normal => exact fin hm hsub
  | ret => exact fin hm hsub

theorem xM_ok {codes : Tr FC} {loops : Nat} (hk : CodesOK P codes) (hh : BodyOK P hb) : ∀ d, RunOK P (xM P hb codes loops d) := by
  intro d
  induction d with
  | zero =>
    refine ⟨?_, ?_, ?_⟩
    · intro f args h l Q hx; cases hx
    · intro c e h l Q hx; cases hx
    · intro f args u h l Q hx; cases hx
  | succ d ih => exact ⟨fun f args h l Q hx hl => xFun_ok hk hh ih hx hl, fun c e h l Q hx hQ hl => xC_ok hh ih c e h l Q hx hQ hl, fun f args u h l Q hx hl => xDfr_ok hk hh ih hx hl⟩
end
end Go.L
