/- The logic L (of no program), and plain laws: texts put together; no conditions. -/
import Derived.Test.YtgjjbfhamlecoacGreatDoorZ3
import Derived.KernelRfl
namespace Go.L
theorem eqD_ok {a b : ADef} (h : eqD a b = true) : a = b := by
 cases a <;> cases b <;> simp only [eqD] at h <;> first | (cases h; done) | skip
 ·simp only [Bool.and_eq_true] at h
  rw [eqFn_ok h.1, eqL_ok _ h.2.1, eqL_ok _ h.2.2]
 ·rw [Nat.eq_of_beq_eq_true h]
theorem eqDs_ok : ∀ {a b : List ADef}, eqDs a b = true → a = b := by
 intro a
 induction a with
 | nil => intro b h; cases b with
  | nil => rfl
  | cons => cases h
 | cons x l ih => intro b h; cases b with
  | nil => cases h
  | cons y m =>
   simp only [eqDs, Bool.and_eq_true] at h
   rw [eqD_ok h.1, ih h.2]
theorem eqE_ok {a b : ET} (h : eqE a b = true) : a = b := by
 simp only [eqE, Bool.and_eq_true] at h
 cases a; cases b
 simp only at h
 rw [Nat.eq_of_beq_eq_true h.1, eqDs_ok h.2.1, eqT_ok (fun h => eqA_ok _ h) h.2.2]
theorem eqX_ok {a b : XR} (h : eqX a b = true) : a = b := by
 unfold eqX at h
 split at h
 ·simp only [Bool.and_eq_true] at h
  rw [eqE_ok h.1, eqH_ok h.2]
 ·cases h
theorem eqC_ok {a b : CR} (h : eqC a b = true) : a = b := by
 unfold eqC at h
 split at h
 ·simp only [Bool.and_eq_true] at h
  rw [eqA_ok _ h.1, eqH_ok h.2]
 ·cases h
section
variable {P : Program} {hb : FuncId → Bool} {run : Run}
theorem iterX_ok {f : ET → HT → Option (List XR)} {c : ACode} {kp : List Nat} (hf : ∀ (e : ET) (h : HT) (l : List XR) (Q : Xit → Env → Hp → Prop), f e h = some l → PanC kp Q → (∀ x ∈ l, XRQ P Q x) → LCode P true c Q e.env (h.hp P))
  {n : Nat} {e : ET} {h : HT} {l : List XR} {Q : Xit → Env → Hp → Prop} (hx : iterX f n e h = some l) (hQ : PanC kp Q) (hl : ∀ x ∈ l, XRQ P Q x) : LCode P true (.loop c) Q e.env (h.hp P) := by
 refine ⟨fun m e1 h1 => ∃ (e2 : ET) (h2 : HT) (l2 : List XR), e1 = e2.env ∧ h1 = h2.hp P ∧ iterX f m e2 h2 = some l2 ∧ ∀ x ∈ l2, XRQ P Q x, ⟨n, e, h, l, rfl, rfl, hx, hl⟩, ?_⟩
 rintro m _ _ ⟨e2, h2, l2, rfl, rfl, hm, hl2⟩
 cases m with
 | zero => cases hm
 | succ m =>
  simp only [iterX] at hm
  split at hm <;> first | cases hm | skip
  rename_i outs ho
  refine hf _ _ _ _ ho (fun v => hQ v) (dd_ok eqX_ok fun x hxo => ?_)
  obtain ⟨k, hk, hsub⟩ := bindL_ok hm x hxo
  obtain ⟨y, e3, h3⟩ := x
  cases y with
  | normal => exact ⟨m, Nat.lt_succ_self m, e3, h3, k, rfl, rfl, hk, fun x hx => hl2 x (hsub x hx)⟩
  | exit i => cases hk; exact hl2 _ (hsub _ (List.mem_singleton.2 rfl))
  | ret => cases hk; exact hl2 _ (hsub _ (List.mem_singleton.2 rfl))
  | pan v => cases hk; exact hl2 _ (hsub _ (List.mem_singleton.2 rfl))
theorem xAlt1_ok (hh : BodyOK P hb) (hrun : RunOK P run) {l : List AOper} {e e0 : ET} {h : HT} {outs : List OR} {m : List XR} {D kp : List Nat} {Q : Xit → Env → Hp → Prop} (hQ : PanC kp Q) (hx : xOps P hb run l e h = some outs)
  (hb2 : bindL outs (altX kp D e0) = some m) (hl : ∀ x ∈ m, XRQ P Q x) : LOps P true l (fun e h => Q .normal e h) (fun v _ h => ∀ g : Nat → AV, (∀ t, inL t D = false → g t = e0.env.t t) → Q (.pan v) ⟨e0.env.n, g, e0.env.ds⟩ h) e.env (h.hp P) := by
 refine xOps_ok hh hrun l hx fun x hxo => ?_
 obtain ⟨k, hk, hsub⟩ := bindL_ok hb2 x hxo
 cases x with
 | nor e h => cases hk; exact hl _ (hsub _ (List.mem_singleton.2 rfl))
 | pan v e h =>
  simp only [altX] at hk
  split at hk <;> cases hk
  rename_i hD
  intro g hg
  refine hQ v e0.env ⟨e0.env.n, g, e0.env.ds⟩ _ rfl rfl (fun t ht => (hg t ?_).symm) (hl _ (hsub _ (List.mem_singleton.2 rfl)))
  cases hd : inL t D with
  | false => rfl
  | true =>
   have := List.all_eq_true.1 hD t (inL_iff.1 hd)
   rw [ht] at this; cases this
theorem xAlts_ok (hh : BodyOK P hb) (hrun : RunOK P run) {e e0 : ET} {h : HT} {D kp : List Nat} {Q : Xit → Env → Hp → Prop} (hQ : PanC kp Q) : ∀ {ls : List (List AOper)} {m : List XR}, xAlts (fun l => xOps P hb run l e h) (altX kp D e0) ls = some m → (∀ x ∈ m, XRQ P Q x) →
  LAlts P true ls (fun e h => Q .normal e h) (fun v _ h => ∀ g : Nat → AV, (∀ t, inL t D = false → g t = e0.env.t t) → Q (.pan v) ⟨e0.env.n, g, e0.env.ds⟩ h) e.env (h.hp P)
 | [], m, _, _ => trivial
 | [l], m, hx, hl => by
  simp only [xAlts] at hx
  split at hx <;> first | cases hx | skip
  rename_i outs ho
  exact xAlt1_ok hh hrun hQ ho hx hl
 | l :: l2 :: r, m, hx, hl => by
  simp only [xAlts] at hx
  split at hx <;> first | cases hx | skip
  rename_i outs ho
  split at hx <;> first | cases hx | skip
  rename_i a ha
  split at hx <;> cases hx
  rename_i b hb3
  exact ⟨xAlt1_ok hh hrun hQ ho ha fun x hx => hl x (List.mem_append_left _ hx), xAlts_ok hh hrun hQ hb3 fun x hx => hl x (List.mem_append_right _ hx)⟩
theorem Hp.set_del {h : Hp} {i : Nat} {b : Blk} (hu : h.u i = true) : (h.set i b).del i = h.del i := by
 refine Hp.ext (fun j => ?_) (fun j => ?_)
 ·by_cases e : j = i
  ·subst e; simp
  ·rw [Hp.del_ne e, Hp.del_ne e, Hp.set_ne e]
 ·simp only [Hp.del_u, Hp.set_u]
  split
  ·rename_i e; rw [e, hu]
  ·rfl
theorem xOver_ok {i j : Nat} {e : ET} {h : HT} {l : List XR} {Q : Xit → Env → Hp → Prop} (hx : xOver i j e h = some l) (hl : ∀ x ∈ l, XRQ P Q x) : rngQ j Q ⟨e.env.n, e.env.t, .mark i :: e.env.ds⟩ (h.hp P) := by
 unfold xOver at hx
 split at hx <;> first | cases hx | skip
 rename_i n t ps a b st pend hj
 have hu := hp_u (P := P) hj
 have key : st ≠ .busy → ∀ y, l = [(y, ⟨e.n, e.t, .mark i :: e.ds⟩, h.del j)] → Q y ⟨e.env.n, e.env.t, .mark i :: e.env.ds⟩ ((h.hp P).del j) := fun _ y hy => by
  subst hy
  have := hl _ (List.mem_singleton.2 rfl)
  simp only [XRQ, HT.hp_del] at this
  exact this
 have hst : st ≠ .busy := fun e => by subst e; cases hx
 refine ⟨pend, n, _, ps, _, st, pend, hp_at hj, ⟨hst, rfl⟩, .inr ?_⟩
 rw [Hp.set_del hu]
 have hx' : (match pend with
   | none => some [((.normal, ⟨e.n, e.t, .mark i :: e.ds⟩, h.del j) : XR)]
   | some .ret => some [(.ret, ⟨e.n, e.t, .mark i :: e.ds⟩, h.del j)]
   | some (.exit id) => some [(.exit id, ⟨e.n, e.t, .mark i :: e.ds⟩, h.del j)]) = some l := by
  clear key hl
  cases st <;> first | (cases pend with
   | none => exact hx
   | some p => cases p <;> exact hx) | exact (hst rfl).elim
 cases pend with
 | none => cases hx'; exact key hst _ rfl
 | some p => cases p with
  | ret => cases hx'; exact key hst _ rfl
  | exit id => cases hx'; exact key hst _ rfl
theorem xC_ok (hh : BodyOK P hb) (hrun : RunOK P run) {fuel : Nat} {kp : List Nat} : ∀ (c : ACode) (e : ET) (h : HT) (l : List XR) (Q : Xit → Env → Hp → Prop), xC P hb run fuel kp c e h = some l → PanC kp Q → (∀ x ∈ l, XRQ P Q x) → LCode P true c Q e.env (h.hp P) := by
 intro c
 have one : ∀ {e : ET} {h : HT} {y : Xit} {Q : Xit → Env → Hp → Prop}, (∀ x ∈ [((y, e, h) : XR)], XRQ P Q x) → Q y e.env (h.hp P) := fun hl => hl _ (List.mem_singleton.2 rfl)
 induction c with
 | skip => intro e h l Q hx hQ hl; cases hx; exact one hl
 | ops ll =>
  intro e h l Q hx hQ hl
  simp only [xC, opsX] at hx
  split at hx <;> first | cases hx | skip
  rename_i outs ho
  refine xOps_ok hh hrun ll ho fun x hxo => ?_
  obtain ⟨k, hk, hsub⟩ := bindL_ok hx x hxo
  cases x <;> cases hk <;> exact hl _ (hsub _ (List.mem_singleton.2 rfl))
 | seq a b iha ihb =>
  intro e h l Q hx hQ hl
  simp only [xC, seqX] at hx
  split at hx <;> first | cases hx | skip
  rename_i outs ho
  refine iha _ _ _ _ ho (fun v => hQ v) fun x hxo => ?_
  obtain ⟨k, hk, hsub⟩ := bindL_ok hx x hxo
  obtain ⟨y, e1, h1⟩ := x
  cases y with
  | normal => exact ihb _ _ _ _ hk hQ fun x hx => hl x (hsub x hx)
  | exit i => cases hk; exact hl _ (hsub _ (List.mem_singleton.2 rfl))
  | ret => cases hk; exact hl _ (hsub _ (List.mem_singleton.2 rfl))
  | pan v => cases hk; exact hl _ (hsub _ (List.mem_singleton.2 rfl))
 | cond c a b iha ihb =>
  intro e h l Q hx hQ hl
  simp only [xC, condX] at hx
  split at hx <;> first | cases hx | skip
  ·rename_i h1; simp only [LCode, h1, bcase]; exact iha _ _ _ _ hx hQ hl
  ·rename_i h1; simp only [LCode, h1, bcase]; exact ihb _ _ _ _ hx hQ hl
 | block id c ih =>
  intro e h l Q hx hQ hl
  simp only [xC, blockX] at hx
  split at hx <;> first | cases hx | skip
  rename_i outs ho
  refine ih _ _ _ _ ho (fun v => hQ v) fun x hxo => ?_
  obtain ⟨k, hk, hsub⟩ := bindL_ok hx x hxo
  obtain ⟨y, e1, h1⟩ := x
  cases y with
  | exit j =>
   simp only at hk
   split at hk <;> cases hk
   ·rename_i hj
    have := hl _ (hsub _ (List.mem_singleton.2 rfl))
    simp only [XRQ, inBlk, Nat.eq_of_beq_eq_true hj, if_true] at this ⊢; exact this
   ·rename_i hj
    have hne : j ≠ id := fun e => by subst e; rw [Nat.beq_refl] at hj; cases hj
    have := hl _ (hsub _ (List.mem_singleton.2 rfl))
    simp only [XRQ, inBlk, hne, if_false] at this ⊢; exact this
  | normal => cases hk; exact hl _ (hsub _ (List.mem_singleton.2 rfl))
  | ret => cases hk; exact hl _ (hsub _ (List.mem_singleton.2 rfl))
  | pan v => cases hk; exact hl _ (hsub _ (List.mem_singleton.2 rfl))
 | loop c ih => intro e h l Q hx hQ hl; exact iterX_ok (fun e h l Q => ih e h l Q) hx hQ hl
 | exit id => intro e h l Q hx hQ hl; cases hx; exact one hl
 | ret => intro e h l Q hx hQ hl; cases hx; exact one hl
 | bad => intro e h l Q hx hQ hl; cases hx
 | recv d ms => intro e h l Q hx hQ hl; cases hx
 | orr a b iha ihb =>
  intro e h l Q hx hQ hl
  simp only [xC, orX] at hx
  split at hx
  ·rename_i r hr; cases hx; exact .inl (iha _ _ _ _ hr hQ hl)
  ·exact .inr (ihb _ _ _ _ hx hQ hl)
 | alts D ls =>
  intro e h l Q hx hQ hl
  simp only [xC, altsX] at hx
  split at hx <;> cases hx
  rename_i m hm
  exact xAlts_ok hh hrun hQ hm (dd_ok eqX_ok hl)
 | dfr x args =>
  intro e h l Q hx hQ hl
  simp only [xC, dfrX] at hx
  split at hx <;> cases hx
  rename_i f first cap hv
  simp only [LCode, hv]
  exact one hl
 | rngf g ps a b iha ihb =>
  intro e h l Q hx hQ hl
  simp only [xC, rngX] at hx
  split at hx <;> first | cases hx | skip
  rename_i f first cap hv
  split at hx <;> first | cases hx | skip
  rename_i hc
  simp only [Bool.and_eq_true, Bool.not_eq_true'] at hc
  obtain ⟨hbf, hu1, hu2⟩ := hc
  split at hx <;> first | cases hx | skip
  rename_i outs ho
  simp only [LCode, hv]
  have fresh : ∀ {h : Hp} {i : Nat}, h.u i = false → Fresh h i := fun {h i} hu => ⟨hu, h.ok i hu⟩
  rw [HT.hp_set] at hu2
  refine ⟨hh f hbf, h.n, fresh hu1, h.n + 1, fresh hu2, ?_⟩
  have k := hrun.call _ _ _ _ (fun r h' => match r with
   | .ret _ => rngQ (h.n + 1) Q ⟨e.env.n, e.env.t, .mark h.n :: e.env.ds⟩ h'
   | .pan v => Q (.pan v) ⟨e.env.n, e.env.t, .mark h.n :: e.env.ds⟩ h') ho (fun x hxo => ?_)
  ·rw [HT.hp_set, HT.hp_set] at k; exact k
  obtain ⟨m, hm, hsub⟩ := bindL_ok hx x hxo
  cases x with
  | ret v h' => exact xOver_ok hm fun x hx => hl x (hsub x hx)
  | pan v h' => cases hm; exact hl _ (hsub _ (List.mem_singleton.2 rfl))
theorem xRes_ok {e : Env} {h : Hp} : ∀ (rs : List ARes) {l : List AV} {N : List AV → Prop}, xRes e h rs = some l → N l → resL e h rs N := by
 intro rs
 induction rs with
 | nil => intro l N hx hn; cases hx; exact hn
 | cons r rs ih =>
  intro l N hx hn
  cases r <;> simp only [xRes] at hx <;> split at hx <;> cases hx
  ·rename_i l' h1; exact ih h1 hn
  ·rename_i v l' h1 h2; exact eN_ok h1 (ih h2 hn)
  ·rename_i v l' h1 h2; exact eN_ok h1 (ih h2 hn)
theorem argsT_get : ∀ (args : List AV) (i : Nat) (t : Tr AV) (x : Nat), (argsT args i t).get x = if i ≤ x ∧ x < i + args.length then args[x - i]? else t.get x := by
 intro args
 induction args with
 | nil => intro i t x; simp only [argsT, List.length_nil]; rw [if_neg (by omega)]
 | cons a r ih =>
  intro i t x
  rw [argsT, ih, Tr.get_set]
  by_cases e : x = i
  ·subst e
   rw [if_neg (by omega), if_pos rfl, if_pos (by simp)]; simp
  ·by_cases e2 : i + 1 ≤ x ∧ x < i + 1 + r.length
   ·rw [if_pos e2, if_pos (by simp; omega)]
    obtain ⟨k, rfl⟩ : ∃ k, x = i + 1 + k := ⟨x - (i + 1), by omega⟩
    rw [show i + 1 + k - (i + 1) = k by omega, show i + 1 + k - i = k + 1 by omega]; rfl
   ·rw [if_neg e2, if_neg e, if_neg (by simp; omega)]
theorem env0_eq (n : Nat) (args : List AV) : (⟨n, argsT args 0 .nil, []⟩ : ET).env = env0 n args := by
 simp only [ET.env, env0, Env.mk.injEq, true_and, and_true]
 funext x
 rw [argsT_get]
 by_cases h : x < args.length
 ·rw [if_pos (by omega)]; simp
 ·rw [if_neg (by omega), List.getElem?_eq_none (by omega), Tr.get_nil]
theorem xLeave_ok (hh : BodyOK P hb) (hrun : RunOK P run) {rs : List ARes} {Q : Res → Hp → Prop} : ∀ (ds : List ADef) (u : Um) (e : ET) (h : HT) (l : List CR), xLeave P hb run rs ds u e h = some l → (∀ x ∈ l, CRQ P Q x) → LeavesL P rs Q ds u e.env (h.hp P) := by
 intro ds
 induction ds with
 | nil =>
  intro u e h l hx hl
  cases u with
  | ret =>
   simp only [xLeave] at hx
   split at hx <;> cases hx
   rename_i r hr
   exact xRes_ok rs hr (hl _ (List.mem_singleton.2 rfl))
  | pan v => cases hx; exact hl _ (List.mem_singleton.2 rfl)
  | rcv v => cases hx
 | cons d ds ih =>
  intro u e h l hx hl
  cases d with
  | mark i =>
   simp only [xLeave] at hx
   split at hx <;> first | cases hx | skip
   rename_i hi
   have := ih _ _ _ _ hx hl
   rw [HT.hp_del] at this
   exact ⟨hp_at hi, this⟩
  | call fn cap args =>
   cases fn <;> simp only [xLeave] at hx <;> first | (cases hx; done) | skip
   rename_i f
   split at hx <;> first | cases hx | skip
   rename_i hbf
   split at hx <;> first | cases hx | skip
   rename_i outs ho
   refine ⟨hh f hbf, hrun.dfr _ _ _ _ _ _ ho fun x hxo => ?_⟩
   obtain ⟨m, hm, hsub⟩ := bindL_ok hx x hxo
   obtain ⟨r, um, h'⟩ := x
   cases r with
   | ret v => exact ih _ _ _ _ hm fun x hx => hl x (hsub x hx)
   | pan v => cases hm
theorem inL_cons {t a : Nat} {l : List Nat} : inL t (a :: l) = (Nat.beq a t || inL t l) := rfl
theorem resL_agree {e e2 : Env} {h : Hp} : ∀ {rs : List ARes}, (∀ t, inL t (resT rs) = true → e.t t = e2.t t) → ∀ {N : List AV → Prop}, resL e h rs N = resL e2 h rs N := by
 intro rs
 induction rs with
 | nil => intro _ N; rfl
 | cons r rs ih =>
  intro hT N
  have hd : ∀ t, resT (r :: rs) = t :: resT rs → e.t t = e2.t t := fun t ht => hT t (by rw [ht, inL_cons, Nat.beq_refl]; rfl)
  have tl : ∀ t, inL t (resT rs) = true → e.t t = e2.t t := fun t ht => hT t (by
   cases r <;> simp only [resT, inL_cons, ht, Bool.or_true])
  have ih := fun {N} => ih tl (N := N)
  cases r with
  | tmp t => simp only [resL, ih, hd t rfl]
  | cell1 t => simp only [resL, LN, ev, ih, hd t rfl]
  | cella t n => simp only [resL, LN, ev, ih, hd t rfl]
theorem LeavesL_agree {rs : List ARes} {Q : Res → Hp → Prop} : ∀ (ds : List ADef) (u : Um) {e e2 : Env} {h : Hp}, (∀ t, inL t (resT rs) = true → e.t t = e2.t t) → LeavesL P rs Q ds u e h → LeavesL P rs Q ds u e2 h := by
 intro ds
 induction ds with
 | nil =>
  intro u e e2 h hT hl
  cases u with
  | ret => exact Eq.mp (resL_agree hT) hl
  | pan v => exact hl
  | rcv v => exact hl
 | cons d ds ih =>
  intro u e e2 h hT hl
  cases d with
  | mark i => exact ⟨hl.1, ih _ hT hl.2⟩
  | call fn cap args =>
   cases fn <;> first | exact hl.elim | skip
   refine ⟨hl.1, hl.2.mono fun r u h' hr => ?_⟩
   cases r with
   | ret v => exact ih _ hT hr
   | pan v => exact hr.elim
theorem EndQD_panC {rs : List ARes} {Q : Res → Hp → Prop} : PanC (resT rs) (EndQD P rs Q) := fun v e e' h _ hds hT hq => by
 have : LeavesL P rs Q e.ds (.pan v) e h := hq
 show LeavesL P rs Q e'.ds (.pan v) e' h
 rw [← hds]; exact LeavesL_agree _ _ hT this
def dels (h : Hp) : List Nat → Hp
 | [] => h
 | i :: l => dels (h.del i) l
theorem R.dels {σ : Emb} {M : Mem} {w : World} : ∀ (l : List Nat) {h : Hp}, R P σ M h w → R P σ M (dels h l) w
 | [], _, hR => hR
 | i :: l, _, hR => R.dels l (hR.del i)
theorem CallL.drop {f : FuncId} {args : List AV} {h : Hp} {Q : Res → Hp → Prop} (k : CallL P f args h fun r h' => ∃ l, Q r (Go.L.dels h' l)) : CallL P f args h Q := by
 refine ⟨fun σ M w args' hR hA => (k.run σ M w args' hR hA).mono fun e w' ⟨σ', M', h', h1, h2, h3⟩ => ?_⟩
 cases e with
 | returned v' => obtain ⟨v, a, l, b⟩ := h3; exact ⟨σ', M', _, h1, h2.dels l, v, a, b⟩
 | panicked ch => obtain ⟨v, v', a, b, l, c⟩ := h3; exact ⟨σ', M', _, h1, h2.dels l, v, v', a, b, c⟩
 | outgrown => exact h3.elim
theorem sweep_ok : ∀ (f i : Nat) (h : HT), ∃ l, (sweep f i h).hp P = dels (h.hp P) l
 | 0, _, h => ⟨[], rfl⟩
 | f + 1, i, h => by
  have del : ∃ l, (sweep f (i + 1) (h.del i)).hp P = dels (h.hp P) l := by
   obtain ⟨l, hl⟩ := sweep_ok f (i + 1) (h.del i)
   exact ⟨i :: l, by rw [hl, HT.hp_del]; rfl⟩
  unfold sweep
  split
  ·exact del
  ·exact del
  ·exact del
  ·exact sweep_ok f (i + 1) h
theorem tidy_ok {n0 : Nat} {l : List CR} {Q : Res → Hp → Prop} (h : ∀ x ∈ tidy n0 l, CRQ P Q x) : ∀ x ∈ l, CRQ P (fun r h' => ∃ l, Q r (dels h' l)) x := by
 have plain : ∀ x, CRQ P Q x → CRQ P (fun r h' => ∃ l, Q r (dels h' l)) x := fun x hx => by cases x <;> exact ⟨[], hx⟩
 unfold tidy at h
 split at h
 ·exact fun x hx => plain x (h x hx)
 ·intro x hx
  have h2 := dd_ok eqC_ok h (sweepC n0 x) (List.mem_map.2 ⟨x, hx, rfl⟩)
  cases x with
  | ret v h' =>
   obtain ⟨l, hl⟩ := sweep_ok (P := P) (h'.n - n0) n0 h'
   simp only [sweepC, CRQ, hl] at h2
   exact ⟨l, h2⟩
  | pan v h' => exact plain _ h2
def CodesOK (P : Program) (codes : Tr FC) : Prop := ∀ f c, codes.get f = some c → ∃ fn m, P.funcs[f]? = some fn ∧ fn.ntmps = c.n ∧ cutF m (compF P fn) = some (c.c, c.r)
theorem xFun_ok {codes : Tr FC} {loops : Nat} (hk : CodesOK P codes) (hh : BodyOK P hb) (hrun : RunOK P run) {f : FuncId} {args : List AV} {h : HT} {l : List CR} {Q : Res → Hp → Prop} (hx : xFun P hb codes loops run f args h = some l) (hl : ∀ x ∈ l, CRQ P Q x) :
  CallL P f args (h.hp P) Q := by
 unfold xFun at hx
 split at hx <;> first | cases hx | skip
 rename_i c hc
 obtain ⟨fn, msk, hf, hn, hcf⟩ := hk f c hc
 obtain ⟨full, hcf, hcut⟩ := cutF_inv hcf
 split at hx <;> first | cases hx | skip
 rename_i hlen
 have hlen' := Nat.le_of_ble_eq_true hlen
 split at hx <;> first | cases hx | skip
 rename_i outs ho
 split at hx <;> cases hx
 rename_i l2 hl2
 refine CallL.drop (CallL.ofD (md := true) hf hcf (by rw [hn]; exact hlen') ?_)
 rw [hn, ← env0_eq]
 have hq := tidy_ok hl
 refine cutA_ok full msk ?_
 rw [← hcut]
 refine xC_ok hh hrun _ _ _ _ _ ho EndQD_panC fun x hxo => ?_
 obtain ⟨m, hm, hsub⟩ := bindL_ok hl2 x hxo
 obtain ⟨y, e', h'⟩ := x
 cases y with
 | normal => exact xLeave_ok hh hrun _ _ _ _ _ hm fun x hx => hq x (hsub x hx)
 | ret => exact xLeave_ok hh hrun _ _ _ _ _ hm fun x hx => hq x (hsub x hx)
 | pan v => exact xLeave_ok hh hrun _ _ _ _ _ hm fun x hx => hq x (hsub x hx)
 | exit i => cases hm
theorem putsET_env : ∀ (ms : List (Option Nat × AOpd)) (e : ET), (putsET e ms).env = putsE e.env ms
 | [], e => rfl
 | (d, x) :: r, e => by rw [putsET, putsE, putsET_env r, ET.env_put]
theorem xCS_ok (hh : BodyOK P hb) (hrun : RunOK P run) {fuel : Nat} : ∀ (c : ACode) (e : ET) (h : HT) (u : Um) (l : List XS) (Q : Xit → Env → Hp → Um → Prop), xCS P hb run fuel c e h u = some l → (∀ u, PanC [] fun x e h => Q x e h u) → (∀ x ∈ l, Q x.1 x.2.1.env (x.2.2.1.hp P) x.2.2.2) → LCodeS P true c Q e.env (h.hp P) u := by
 intro c
 have plain : ∀ (c : ACode) (e : ET) (h : HT) (u : Um) (l : List XS) (Q : Xit → Env → Hp → Um → Prop), plainA c = true → (match xC P hb run fuel [] c e h with
   | some outs => some (outs.map fun x => ((x.1, x.2.1, x.2.2, u) : XS))
   | none => none) = some l → (∀ u, PanC [] fun x e h => Q x e h u) → (∀ x ∈ l, Q x.1 x.2.1.env (x.2.2.1.hp P) x.2.2.2) → LCode P true c (fun x e h => Q x e h u) e.env (h.hp P) := by
  intro c e h u l Q _ hx hQ hl
  split at hx <;> cases hx
  rename_i outs ho
  exact xC_ok hh hrun _ _ _ _ _ ho (hQ u) fun x hxo => hl _ (List.mem_map.2 ⟨x, hxo, rfl⟩)
 induction c with
 | seq a b iha ihb =>
  intro e h u l Q hx hQ hl
  simp only [xCS] at hx
  split at hx <;> first | cases hx | skip
  rename_i outs ho
  refine iha _ _ _ _ _ ho (fun u v => hQ u v) fun x hxo => ?_
  obtain ⟨m, hm, hsub⟩ := bindL_ok hx x hxo
  obtain ⟨y, e1, h1, u1⟩ := x
  cases y with
  | normal => exact ihb _ _ _ _ _ hm hQ fun x hx => hl x (hsub x hx)
  | exit i => cases hm; exact hl _ (hsub _ (List.mem_singleton.2 rfl))
  | ret => cases hm; exact hl _ (hsub _ (List.mem_singleton.2 rfl))
  | pan v => cases hm; exact hl _ (hsub _ (List.mem_singleton.2 rfl))
 | cond c a b iha ihb =>
  intro e h u l Q hx hQ hl
  simp only [xCS] at hx
  split at hx <;> first | cases hx | skip
  ·rename_i h1; simp only [LCodeS, h1, bcase]; exact iha _ _ _ _ _ hx hQ hl
  ·rename_i h1; simp only [LCodeS, h1, bcase]; exact ihb _ _ _ _ _ hx hQ hl
 | recv d ms =>
  intro e h u l Q hx hQ hl
  cases u with
  | pan v =>
   cases hx
   have := hl _ (List.mem_singleton.2 rfl)
   simp only [putsET_env, ET.env_put] at this
   exact this
  | ret =>
   cases hx
   have := hl _ (List.mem_singleton.2 rfl)
   simp only [putsET_env, ET.env_put] at this
   exact this
  | rcv v =>
   cases hx
   have := hl _ (List.mem_singleton.2 rfl)
   simp only [putsET_env, ET.env_put] at this
   exact this
 | _ => intro e h u l Q hx hQ hl; exact plain _ e h u l Q rfl hx hQ hl
theorem xDfr_ok {codes : Tr FC} {loops : Nat} (hk : CodesOK P codes) (hh : BodyOK P hb) (hrun : RunOK P run) {f : FuncId} {args : List AV} {u : Um} {h : HT} {l : List DR} {Q : Res → Um → Hp → Prop} (hx : xDfr P hb codes loops run f args u h = some l)
  (hl : ∀ x ∈ l, Q x.r x.u (x.h.hp P)) : DefL P f args u (h.hp P) Q := by
 unfold xDfr at hx
 split at hx <;> first | cases hx | skip
 rename_i c hc
 obtain ⟨fn, msk, hf, hn, hcf⟩ := hk f c hc
 obtain ⟨full, hcf, hcut⟩ := cutF_inv hcf
 split at hx <;> first | cases hx | skip
 rename_i hlen
 have hlen' := Nat.le_of_ble_eq_true hlen
 split at hx <;> first | cases hx | skip
 rename_i outs ho
 refine DefL.ofS (md := true) hf hcf (by rw [hn]; exact hlen') ?_
 rw [hn, ← env0_eq]
 refine cutA_okS full msk ?_
 rw [← hcut]
 refine xCS_ok hh hrun _ _ _ _ _ _ ho (fun u v e e' h _ hds _ hq => ⟨hds ▸ hq.1, hq.2⟩) fun x hxo => ?_
 obtain ⟨m, hm, hsub⟩ := bindL_ok hx x hxo
 obtain ⟨y, e', h', u'⟩ := x
 simp only at hm
 split at hm <;> first | cases hm | skip
 rename_i hds
 have fin : ∀ {m : List DR}, (match xRes e'.env (h'.hp P) c.r with
   | some l => some [(⟨.ret (oneV l), u', h'⟩ : DR)]
   | none => none) = some m → (∀ y ∈ m, y ∈ l) → e'.env.ds = [] ∧ resL e'.env (h'.hp P) c.r fun l => Q (.ret (oneV l)) u' (h'.hp P) := by
  intro m hm hsub
  split at hm <;> cases hm
  rename_i r hr
  exact ⟨hds, xRes_ok _ hr (hl _ (hsub _ (List.mem_singleton.2 rfl)))⟩
 cases y with
 | exit i => cases hm
 | pan v => cases hm; exact ⟨hds, hl _ (hsub _ (List.mem_singleton.2 rfl))⟩
 | normal => exact fin hm hsub
 | ret => exact fin hm hsub
end
end Go.L

namespace Go.L
def GoodFC (P : Program) (f : FuncId) (c : FC) : Prop := ∃ fn m, P.funcs[f]? = some fn ∧ fn.ntmps = c.n ∧ cutF m (compF P fn) = some (c.c, c.r) ∧ (fn.name == "runtime.NumGoroutine") = false
def trOK {α : Type} (Q : Nat → α → Prop) : Tr α → (Nat → Nat) → Prop
 | .nil, _ => True
 | .node l v r, g => (match v with | none => True | some c => Q (g 0) c) ∧ trOK Q l (fun k => g (2 * k + 1)) ∧ trOK Q r (fun k => g (2 * k + 2))
theorem trOK_get {α : Type} {Q : Nat → α → Prop} : ∀ (t : Tr α) (g : Nat → Nat) (i : Nat) (c : α), trOK Q t g → t.get i = some c → Q (g i) c := by
 intro t
 induction t with
 | nil => intro g i c _ h; rw [Tr.get_nil] at h; cases h
 | node l v r ihl ihr =>
  intro g i c h hi
  obtain ⟨h1, h2, h3⟩ := h
  rw [Tr.get_node] at hi
  split at hi
  ·rename_i h0
   obtain rfl := Nat.eq_of_beq_eq_true h0
   subst hi; exact h1
  ·rename_i h0
   have hi0 : i ≠ 0 := fun e => by subst e; cases h0
   split at hi
   ·rename_i h4
    have h4' := Nat.eq_of_beq_eq_true h4
    have := ihl _ _ _ h2 hi
    rwa [show 2 * (i / 2) + 1 = i by omega] at this
   ·rename_i h4
    have h4' : i % 2 ≠ 1 := fun e => by rw [e] at h4; cases h4
    have := ihr _ _ _ h3 hi
    rwa [show 2 * (i / 2 - 1) + 2 = i by omega] at this
def hbOf (codes : Tr FC) (f : FuncId) : Bool := (codes.get f).isSome
def sc1 : AV → Bool
 | .bool _ | .int _ _ | .flt _ _ | .str _ | .nilp | .nils | .nilm | .nilf | .nili => true
 | _ => false
def scv : AV → Bool
 | .tup vs => vs.all sc1
 | v => sc1 v
theorem sc1_VR {σ σ' : Emb} {M M' : Mem} {v : AV} {v' : Value} (h : sc1 v = true) (hv : VR σ M v v') : VR σ' M' v v' := by
 cases hv <;> first
  | (simp [sc1] at h; done)
  | exact .bool _
  | exact .int _ _
  | exact .flt _ _
  | exact .nilp
  | exact .nils
  | exact .nilm
  | exact .nilf
  | exact .nili
  | (exact .str _ _ ‹_›)
theorem scv_VR {σ σ' : Emb} {M M' : Mem} {v : AV} {v' : Value} (h : scv v = true) (hv : VR σ M v v') : VR σ' M' v v' := by
 have one : sc1 v = true → VR σ' M' v v' := fun h => sc1_VR h hv
 cases v <;> first | exact one h | skip
 rename_i vs
 obtain ⟨a, rfl, ha⟩ := hv.tup_inv
 refine VR.tup' ⟨ha.1, fun j x hx => ?_⟩
 obtain ⟨y, h1, h2⟩ := ha.2 j x hx
 exact ⟨y, h1, sc1_VR (List.all_eq_true.1 h x (List.mem_of_getElem? hx)) h2⟩
theorem CallL.closed {P : Program} {f : FuncId} {args : List AV} {h : Hp} {Q : AV → Prop} (ha : args.all sc1 = true) (k : CallL P f args Hp.nil fun r _ => ∃ v, r = .ret v ∧ scv v = true ∧ Q v) :
  CallL P f args h fun r h' => ∃ v, r = .ret v ∧ Q v ∧ h' = h := by
 constructor
 intro σ M w args' hR hA
 have hR0 : R P (fun _ => none) (fun B => (w.heap[B]?).map fun o => (o, 0)) Hp.nil w :=
  ⟨fun _ _ => rfl, (fun i b hi => by cases hi), (fun B o hB => by simp only [Option.map_eq_some_iff] at hB; obtain ⟨o', h1, rfl⟩ := hB; exact h1), (fun i b L hi => by cases hi), (fun i j bi bj Li Lj hi => by cases hi), (fun i b L hi => by cases hi), (fun i b L hi => by cases hi), hR.glb.of fun B o hB => ⟨0, by show (w.heap[B]?).map _ = _; rw [hR.mem B o hB]; rfl⟩⟩
 have hA0 : VRs (fun _ => none) (fun B => (w.heap[B]?).map fun o => (o, 0)) args args' := ⟨hA.1, fun j v hj => by
  obtain ⟨v', h1, h2⟩ := hA.2 j v hj
  exact ⟨v', h1, sc1_VR (List.all_eq_true.1 ha v (List.mem_of_getElem? hj)) h2⟩⟩
 refine (k.run _ _ w args' hR0 hA0).mono ?_
 rintro e w' ⟨σ', M', h', hE, hR', hend⟩
 have same : ∀ B, B < w.heap.size → w'.heap[B]? = w.heap[B]? := fun B hB => by
  have h1 : w.heap[B]? = some w.heap[B] := Array.getElem?_eq_getElem hB
  rw [h1]; exact hR'.mem B (w.heap[B], 0) (hE.m B _ (by simp only [h1, Option.map_some]))
 refine ⟨σ, M, h, ⟨σ.le_refl, M.le_refl, hE.size, hE.os, hE.tape, hE.output⟩, ⟨hR.fin, hR.dom, fun B o hB => ?_, hR.sep, hR.inj, fun i b L hi hL => ?_, hR.al, hR.glb⟩, ?_⟩
 ·have := hR.mem B o hB
  rw [same B (Array.getElem?_eq_some_iff.1 this).1]; exact this
 ·exact (hR.blk i b L hi hL).mono σ.le_refl M.le_refl (same _ (hR.placed hi hL))
 ·cases e with
  | returned v' =>
   obtain ⟨v, hv, v1, e1, h1, h2⟩ := hend
   cases e1
   exact ⟨v, scv_VR h1 hv, v, rfl, h2, rfl⟩
  | panicked ch => obtain ⟨v, v', _, _, v1, e1, _⟩ := hend; cases e1
  | outgrown => exact hend
def isRet (v : AV) : CR → Bool
 | .ret x _ => eqA x v
 | .pan _ _ => false
end Go.L

namespace Go.L
structure Sm where
 f : FuncId
 args : List AV
 h : HT
 v : AV
 h' : HT
def updT (t : Tr (Option EB)) : List (Nat × Option EB) → Tr (Option EB)
 | [] => t
 | (i, b) :: r => updT (t.set i (some b)) r
def HT.upd (h : HT) (l : List (Nat × Option EB)) (n : Nat) : HT := ⟨updT h.t l, n⟩
def allT {α : Type} (q : Nat → α → Bool) : Tr α → Nat → Nat → Bool
 | .nil, _, _ => true
 | .node l v r, a, m => (match v with
  | none => true
  | some x => q a x) && (allT q l (Nat.add a m) (Nat.mul 2 m) && allT q r (Nat.add a (Nat.mul 2 m)) (Nat.mul 2 m))
theorem allT_ok {α : Type} {q : Nat → α → Bool} : ∀ (t : Tr α) (a m i : Nat) (x : α), allT q t a m = true → t.get i = some x → q (a + m * i) x = true := by
 intro t
 induction t with
 | nil => intro a m i x _ h; rw [Tr.get_nil] at h; cases h
 | node l v r ihl ihr =>
  intro a m i x ht hi
  simp only [allT, Bool.and_eq_true] at ht
  rw [Tr.get_node] at hi
  split at hi
  ·rename_i h0
   obtain rfl := Nat.eq_of_beq_eq_true h0
   subst hi
   rw [Nat.mul_zero, Nat.add_zero]; exact ht.1
  ·rename_i h0
   have hi0 : i ≠ 0 := fun e => by subst e; cases h0
   split at hi
   ·rename_i h4
    have h4' := Nat.eq_of_beq_eq_true h4
    have := ihl _ _ _ _ ht.2.1 hi
    have e : i = 2 * (i / 2) + 1 := by omega
    have e2 : a + m * i = Nat.add a m + Nat.mul 2 m * (i / 2) := by
     show a + m * i = a + m + 2 * m * (i / 2)
     conv => lhs; rw [e]
     rw [Nat.mul_add, Nat.mul_one, ← Nat.mul_assoc, Nat.mul_comm m 2]; omega
    rw [e2]; exact this
   ·rename_i h4
    have h4' : i % 2 ≠ 1 := fun e => by rw [e] at h4; cases h4
    have := ihr _ _ _ _ ht.2.2 hi
    have e : i = 2 * (i / 2 - 1) + 2 := by omega
    have e2 : a + m * i = Nat.add a (Nat.mul 2 m) + Nat.mul 2 m * (i / 2 - 1) := by
     show a + m * i = a + 2 * m + 2 * m * (i / 2 - 1)
     conv => lhs; rw [e]
     rw [Nat.mul_add, ← Nat.mul_assoc, Nat.mul_comm m 2]; omega
    rw [e2]; exact this
theorem allT_get {α : Type} {q : Nat → α → Bool} {t : Tr α} {i : Nat} {x : α} (h : allT q t 0 1 = true) (hi : t.get i = some x) : q i x = true := by
 have := allT_ok t 0 1 i x h hi
 rwa [Nat.zero_add, Nat.one_mul] at this
def uT (h : HT) (i : Nat) : Bool := (h.t.get i).isSome
def partB (h1 h2 : HT) (i : Nat) : Option EB → Bool
 | none => true
 | some (.b x) => blkU (uT h2) x && (match h1.t.get i with
  | some (some b) => eqB (.b x) b
  | _ => false)
 | some (.l ..) => false
def partH (h2 h1 : HT) : Bool := allT (partB h1 h2) h2.t 0 1
def covU (h0 h2 : HT) : Bool := allT (fun i _ => uT h2 i) h0.t 0 1
def isSm (s : Sm) (r : Option (List CR)) : Bool :=
 match r with
 | some [.ret v h] => eqA v s.v && (idU (uT s.h') s.v && (partH s.h' h && covU s.h s.h'))
 | _ => false
def smOf (s : Sm) (f : FuncId) (args : List AV) (h : HT) : Option (List CR) :=
 match Nat.beq f s.f with
 | true => match eqL args s.args && eqH h s.h with
  | true => some [.ret s.v s.h']
  | false => none
 | false => none
def smsOf : List Sm → FuncId → List AV → HT → Option (List CR)
 | [], _, _, _ => none
 | s :: r, f, args, h => match smOf s f args h with
  | some l => some l
  | none => smsOf r f args h
def xMS (P : Program) (hb : FuncId → Bool) (codes : Tr FC) (loops : Nat) (ss : List Sm) : Nat → Run
 | 0 => ⟨fun _ _ _ => none, fun _ _ _ => none, fun _ _ _ _ => none⟩
 | d + 1 => ⟨fun f args h => match smsOf ss f args h with
   | some l => some l
   | none => xFun P hb codes loops (xMS P hb codes loops ss d) f args h, fun c e h => xC P hb (xMS P hb codes loops ss d) loops [] c e h, xDfr P hb codes loops (xMS P hb codes loops ss d)⟩
section
variable {P : Program} {hb : FuncId → Bool}
def SmOK (P : Program) (s : Sm) : Prop := ∀ Q : Res → Hp → Prop, Q (.ret s.v) (s.h'.hp P) → CallL P s.f s.args (s.h.hp P) Q
theorem sm_ok {run : Run} (hrun : RunOK P run) {s : Sm} (hs : isSm s (run.call s.f s.args s.h) = true) : SmOK P s := by
 intro Q hQ
 unfold isSm at hs
 split at hs <;> first | cases hs | skip
 rename_i v h1 hc
 simp only [Bool.and_eq_true] at hs
 obtain ⟨hv, hid, hp, hcov⟩ := hs
 have e1 := eqA_ok _ hv
 subst e1
 refine CallL.shrink (hrun.call _ _ _ _ _ hc fun x hx => ?_)
 rw [List.mem_singleton] at hx
 subst hx
 refine ⟨_, s.h'.hp P, rfl, hQ, hid, fun i b hb => ?_, fun i hi => ?_⟩
 ·have hb' : jn P (s.h'.t.get i) = some b := hb
  cases hg : s.h'.t.get i with
  | none => rw [hg] at hb'; cases hb'
  | some o =>
   have hq := allT_get hp hg
   cases o with
   | none => rw [hg] at hb'; cases hb'
   | some eb =>
    rw [hg] at hb'
    cases eb with
    | l n t ps c d st pend => cases hq
    | b x =>
     cases hb'
     simp only [partB, Bool.and_eq_true] at hq
     obtain ⟨h2, h3⟩ := hq
     split at h3
     ·rename_i b' hg'
      have := eqB_ok h3
      subst this
      refine ⟨hp_at hg', hp_u hg, h2⟩
     ·cases h3
 ·have hi' : (s.h.t.get i).isSome = true := hi
  obtain ⟨x, hx⟩ := Option.isSome_iff_exists.1 hi'
  exact allT_get hcov hx
theorem smOf_ok {s : Sm} (hs : SmOK P s) {f : FuncId} {args : List AV} {h : HT} {l : List CR} {Q : Res → Hp → Prop} (hx : smOf s f args h = some l) (hl : ∀ x ∈ l, CRQ P Q x) : CallL P f args (h.hp P) Q := by
 unfold smOf at hx
 split at hx <;> first | cases hx | skip
 rename_i hf
 split at hx <;> cases hx
 rename_i ha
 simp only [Bool.and_eq_true] at ha
 obtain rfl := Nat.eq_of_beq_eq_true hf
 obtain rfl := eqL_ok _ ha.1
 obtain rfl := eqH_ok ha.2
 exact hs Q (hl _ (List.mem_singleton.2 rfl))
theorem smsOf_ok : ∀ {ss : List Sm}, (∀ s ∈ ss, SmOK P s) → ∀ {f : FuncId} {args : List AV} {h : HT} {l : List CR} {Q : Res → Hp → Prop}, smsOf ss f args h = some l → (∀ x ∈ l, CRQ P Q x) → CallL P f args (h.hp P) Q
 | [], _, _, _, _, _, _, hx, _ => by cases hx
 | s :: r, hs, f, args, h, l, Q, hx, hl => by
  simp only [smsOf] at hx
  split at hx
  ·rename_i l' hl'; cases hx; exact smOf_ok (hs s List.mem_cons_self) hl' hl
  ·exact smsOf_ok (fun s h => hs s (List.mem_cons_of_mem _ h)) hx hl
theorem xMS_ok {ss : List Sm} (hs : ∀ s ∈ ss, SmOK P s) {codes : Tr FC} {loops : Nat} (hk : CodesOK P codes) (hh : BodyOK P hb) : ∀ d, RunOK P (xMS P hb codes loops ss d) := by
 intro d
 induction d with
 | zero =>
  refine ⟨?_, ?_, ?_⟩
  ·intro f args h l Q hx; cases hx
  ·intro c e h l Q hx; cases hx
  ·intro f args u h l Q hx; cases hx
 | succ d ih =>
  refine ⟨fun f args h l Q hx hl => ?_, fun c e h l Q hx hQ hl => xC_ok hh ih c e h l Q hx hQ hl, fun f args u h l Q hx hl => xDfr_ok hk hh ih hx hl⟩
  have hx : (match smsOf ss f args h with
   | some l => some l
   | none => xFun P hb codes loops (xMS P hb codes loops ss d) f args h) = some l := hx
  split at hx
  ·rename_i l' hl'; cases hx; exact smsOf_ok hs hl' hl
  ·exact xFun_ok hk hh ih hx hl
theorem runS_ok {codes : Tr FC} (hk : trOK (GoodFC P) codes id) {ss : List Sm} (hs : ∀ s ∈ ss, SmOK P s) (loops d : Nat) : RunOK P (xMS P (hbOf codes) codes loops ss d) := by
 refine xMS_ok hs (fun f c hc => ?_) (fun f hf => ?_) d
 ·obtain ⟨fn, m, h1, h2, h3, _⟩ := trOK_get codes id f c hk hc
  exact ⟨fn, m, h1, h2, h3⟩
 ·cases hc : codes.get f with
  | none => simp [hbOf, hc] at hf
  | some c =>
   obtain ⟨fn, m, h1, _, h3, h4⟩ := trOK_get codes id f c hk hc
   refine ⟨fn, h1, ?_, h4⟩
   obtain ⟨full, h3, _⟩ := cutF_inv h3
   unfold compF at h3
   split at h3
   ·cases h3
   ·rename_i c' hb; rw [hb]; rfl
theorem SmOK.of {codes : Tr FC} (hk : trOK (GoodFC P) codes id) {ss : List Sm} (hs : ∀ s ∈ ss, SmOK P s) {loops d : Nat} {s : Sm} (hx : isSm s ((xMS P (hbOf codes) codes loops ss d).call s.f s.args s.h) = true) : ∀ x ∈ s :: ss, SmOK P x := by
 intro x hxs
 rcases List.mem_cons.1 hxs with rfl | hxs
 ·exact sm_ok (runS_ok hk hs loops d) hx
 ·exact hs x hxs
theorem CallL.ofRunS {codes : Tr FC} (hk : trOK (GoodFC P) codes id) {ss : List Sm} (hs : ∀ s ∈ ss, SmOK P s) {loops d : Nat} {f : FuncId} {args : List AV} {v : AV} (ha : args.all sc1 = true) (hv : scv v = true)
  (hx : (match (xMS P (hbOf codes) codes loops ss d).call f args HT.nil with | some l => l.all (isRet v) | none => false) = true) : PureL P f args v := by
 intro h
 split at hx <;> first | cases hx | skip
 rename_i l hr
 have k := (runS_ok hk hs loops d).call f args HT.nil l (fun r _ => ∃ x, r = .ret x ∧ scv x = true ∧ x = v) hr fun x hxl => by
  have h1 := List.all_eq_true.1 hx x hxl
  cases x with
  | ret x h' => have := eqA_ok _ h1; subst this; exact ⟨_, rfl, hv, rfl⟩
  | pan x h' => cases h1
 rw [HT.hp_nil] at k
 exact (CallL.closed ha (Q := fun x => x = v) k).mono fun r h' ⟨x, h1, h2, h3⟩ => ⟨by rw [h1, h2], h3⟩
end
end Go.L

namespace Go.L
def okO (h : HT) : Option EB → Bool
 | none => true
 | some (.b x) => blkU (uT h) x && blkP x
 | some (.l ..) => false
def okH (h : HT) : Bool := allT (fun _ o => okO h o) h.t 0 1
theorem okH_ok {P : Program} {h : HT} (hk : okH h = true) {i : Nat} {b : Blk} (hi : (h.hp P) i = some b) : blkU (h.hp P).u b = true ∧ blkP b = true := by
 have hi' : jn P (h.t.get i) = some b := hi
 cases hg : h.t.get i with
 | none => rw [hg] at hi'; cases hi'
 | some o =>
  have hq := allT_get hk hg
  cases o with
  | none => rw [hg] at hi'; cases hi'
  | some eb =>
   rw [hg] at hi'
   cases eb with
   | l n t ps c d st pend => cases hq
   | b x =>
    cases hi'
    simp only [okO, Bool.and_eq_true] at hq
    exact ⟨hq.1, hq.2⟩
theorem covU_ok {P : Program} {h0 h2 : HT} (hk : covU h0 h2 = true) {i : Nat} (hi : (h0.hp P).u i = true) : (h2.hp P).u i = true := by
 have hi' : (h0.t.get i).isSome = true := hi
 obtain ⟨x, hx⟩ := Option.isSome_iff_exists.1 hi'
 exact allT_get hk hx
theorem SmOK.frame {P : Program} {s : Sm} (hs : SmOK P s) (hk : (okH s.h && okH s.h' && covU s.h s.h' && idUs (uT s.h) s.args && pls s.args && pl s.v) = true) {ρ : Nat → Nat} {H : Hp} (hI : Img ρ (s.h.hp P) H) :
  CallL P s.f (mps ρ s.args) H fun r H' => ∃ ρ', (∀ i, (s.h.hp P).u i = true → ρ' i = ρ i) ∧ r = .ret (s.v.mp ρ') ∧ Img ρ' (s.h'.hp P) H' ∧ (∀ i, (s.h'.hp P).u i = true → (s.h.hp P).u i = false → H.u (ρ' i) = false) ∧
   (∀ j, H.u j = true → (∀ i, (s.h.hp P).u i = true → ρ i ≠ j) → H' j = H j) ∧ ∀ j, H.u j = true → H'.u j = true := by
 simp only [Bool.and_eq_true] at hk
 obtain ⟨⟨⟨⟨⟨k1, k2⟩, k3⟩, k4⟩, k5⟩, k6⟩ := hk
 exact CallL.frame hs hI k4 k5 k6 (fun i b hi => okH_ok k1 hi) (fun i b hi => (okH_ok k2 hi).2) fun i hi => covU_ok k3 hi
theorem Img.nil (ρ : Nat → Nat) (H : Hp) : Img ρ Hp.nil H := ⟨fun i j hi => (by cases hi), fun i b hi => (by cases hi), fun i hi => (by cases hi)⟩
theorem Img.keep {ρ : Nat → Nat} {X H H' : Hp} (k : Img ρ X H) (hf : ∀ i, X.u i = true → H' (ρ i) = H (ρ i)) (hu : ∀ j, H.u j = true → H'.u j = true) : Img ρ X H' :=
 ⟨k.inj, fun i b hi => by
  have hx : X.u i = true := by
   cases hu : X.u i with
   | true => rfl
   | false => rw [X.ok i hu] at hi; cases hi
  exact (hf i hx).trans (k.blk i b hi), fun i hi => hu _ (k.used i hi)⟩
theorem Img.gr {ρ : Nat → Nat} {X H H' : Hp} (k : Img ρ X H) (g : Gr H H') : Img ρ X H' := k.keep (fun i hi => g.m _ (k.used i hi)) g.u
mutual
theorem AV.mp_congr {u : Nat → Bool} {ρ ρ' : Nat → Nat} (he : ∀ i, u i = true → ρ i = ρ' i) : ∀ v : AV, idU u v = true → v.mp ρ = v.mp ρ'
 | .ptr i k o, h => by rw [AV.mp, AV.mp, he i h]
 | .slc i k n c, h => by rw [AV.mp, AV.mp, he i h]
 | .map i, h => by rw [AV.mp, AV.mp, he i h]
 | .yld i, h => rfl
 | .iptr g cs o, h => rfl
 | .isl g es, h => rfl
 | .func f x y, h => by
  simp only [idU, Bool.and_eq_true] at h
  rw [AV.mp, AV.mp, mps_congr he x h.1, mps_congr he y h.2]
 | .ifc t v, h => by rw [AV.mp, AV.mp, AV.mp_congr he v h]
 | .agg cs, h => by rw [AV.mp, AV.mp, mps_congr he cs h]
 | .tup cs, h => by rw [AV.mp, AV.mp, mps_congr he cs h]
 | .bool b, _ => rfl
 | .int k n, _ => rfl
 | .flt k n, _ => rfl
 | .str s, _ => rfl
 | .nilp, _ => rfl
 | .nils, _ => rfl
 | .emp, _ => rfl
 | .nilm, _ => rfl
 | .nilf, _ => rfl
 | .nili, _ => rfl
 | .any, _ => rfl
theorem mps_congr {u : Nat → Bool} {ρ ρ' : Nat → Nat} (he : ∀ i, u i = true → ρ i = ρ' i) : ∀ l : List AV, idUs u l = true → mps ρ l = mps ρ' l
 | [], _ => rfl
 | v :: l, h => by
  simp only [idUs, Bool.and_eq_true] at h
  rw [mps, mps, AV.mp_congr he v h.1, mps_congr he l h.2]
end
theorem mpss_congr {u : Nat → Bool} {ρ ρ' : Nat → Nat} (he : ∀ i, u i = true → ρ i = ρ' i) : ∀ l : List (List AV), idUss u l = true → mpss ρ l = mpss ρ' l
 | [], _ => rfl
 | v :: l, h => by
  simp only [idUss, Bool.and_eq_true] at h
  rw [mpss, mpss, mps_congr he v h.1, mpss_congr he l h.2]
theorem Blk.mp_congr {u : Nat → Bool} {ρ ρ' : Nat → Nat} (he : ∀ i, u i = true → ρ i = ρ' i) {b : Blk} (h : blkU u b = true) : b.mp ρ = b.mp ρ' := by
 cases b with
 | row T es => rw [Blk.mp, Blk.mp, mpss_congr he es h]
 | map es c =>
  rw [Blk.mp, Blk.mp]
  congr 1
  refine List.map_congr_left fun x hx => ?_
  have := List.all_eq_true.1 h x hx
  simp only [Bool.and_eq_true] at this
  rw [AV.mp_congr he _ this.1, AV.mp_congr he _ this.2]
 | _ => rfl
theorem Img.set {ρ : Nat → Nat} {X H : Hp} (k : Img ρ X H) {i0 j : Nat} (hi : X.u i0 = false) (hj : H.u j = false) {b : Blk} (hX : ∀ i c, X i = some c → blkU X.u c = true) (hb : blkU X.u b = true) :
  Img (fun i => if i = i0 then j else ρ i) (X.set i0 b) (H.set j (b.mp ρ)) := by
 have hne : ∀ i, X.u i = true → i ≠ i0 := fun i h e => by rw [e, hi] at h; cases h
 have hnj : ∀ i, X.u i = true → ρ i ≠ j := fun i h e => by have := k.used i h; rw [e, hj] at this; cases this
 have hXu : ∀ i c, X i = some c → X.u i = true := fun i c h => by
  cases hu : X.u i with
  | true => rfl
  | false => rw [X.ok i hu] at h; cases h
 have hc : ∀ i, X.u i = true → ρ i = (if i = i0 then j else ρ i) := fun i h => (if_neg (hne i h)).symm
 have hu : ∀ i, (X.set i0 b).u i = true → i = i0 ∨ X.u i = true := fun i h => by
  rw [Hp.set_u] at h
  split at h
  ·rename_i e; exact .inl e
  ·exact .inr h
 refine ⟨fun i i' h h' e => ?_, fun i c h => ?_, fun i h => ?_⟩
 ·rcases hu i h with rfl | h1 <;> rcases hu i' h' with rfl | h2
  ·rfl
  ·rw [if_pos rfl, if_neg (hne i' h2)] at e; exact absurd e.symm (hnj i' h2)
  ·rw [if_pos rfl, if_neg (hne i h1)] at e; exact absurd e (hnj i h1)
  ·rw [if_neg (hne i h1), if_neg (hne i' h2)] at e; exact k.inj i i' h1 h2 e
 ·by_cases e : i = i0
  ·subst e
   rw [Hp.set_same] at h; cases h
   rw [if_pos rfl, Hp.set_same, Blk.mp_congr hc hb]
  ·rw [Hp.set_ne e] at h
   rw [if_neg e, Hp.set_ne (hnj i (hXu i c h)), ← Blk.mp_congr hc (hX i c h)]
   exact k.blk i c h
 ·rcases hu i h with rfl | h1
  ·rw [if_pos rfl, Hp.set_u, if_pos rfl]
  ·rw [if_neg (hne i h1), Hp.set_u, k.used i h1]; simp
def FrQ (ρ : Nat → Nat) (X X' : Hp) (v : AV) (H : Hp) (r : Res) (H' : Hp) : Prop := ∃ ρ', (∀ i, X.u i = true → ρ' i = ρ i) ∧ r = .ret (v.mp ρ') ∧ Img ρ' X' H' ∧ (∀ i, X'.u i = true → X.u i = false → H.u (ρ' i) = false) ∧
 (∀ j, H.u j = true → (∀ i, X.u i = true → ρ i ≠ j) → H' j = H j) ∧ ∀ j, H.u j = true → H'.u j = true
structure Out (ρ : Nat → Nat) (X H : Hp) (B : Nat) : Prop where
 used : H.u B = true
 no : ∀ i, X.u i = true → ρ i ≠ B
theorem Out.new {ρ : Nat → Nat} {X H H' : Hp} {B : Nat} (k : Img ρ X H) (hB : H.u B = false) (hu : H'.u B = true) : Out ρ X H' B := ⟨hu, fun i hi e => by have := k.used i hi; rw [e, hB] at this; cases this⟩
theorem Out.gr {ρ : Nat → Nat} {X H H' : Hp} {B : Nat} (k : Out ρ X H B) (g : Gr H H') : Out ρ X H' B := ⟨g.u _ k.used, k.no⟩
theorem Out.step {ρ ρ' : Nat → Nat} {X X' H H' : Hp} {B : Nat} (k : Out ρ X H B) (h1 : ∀ i, X.u i = true → ρ' i = ρ i) (h2 : ∀ i, X'.u i = true → X.u i = false → H.u (ρ' i) = false) (h3 : ∀ j, H.u j = true → (∀ i, X.u i = true → ρ i ≠ j) → H' j = H j) (h4 : ∀ j, H.u j = true → H'.u j = true) :
  H' B = H B ∧ Out ρ' X' H' B := by
 refine ⟨h3 B k.used k.no, h4 B k.used, fun i hi e => ?_⟩
 cases hx : X.u i with
 | true => exact k.no i hx (by rw [← h1 i hx]; exact e)
 | false => have := h2 i hi hx; rw [e, k.used] at this; cases this
theorem SmOK.frQ {P : Program} {s : Sm} (hs : SmOK P s) (hk : (okH s.h && okH s.h' && covU s.h s.h' && idUs (uT s.h) s.args && pls s.args && pl s.v) = true) {ρ : Nat → Nat} {X X' H : Hp} (hX : X = s.h.hp P) (hX' : X' = s.h'.hp P) (hI : Img ρ X H) {f : FuncId} {args : List AV} {v : AV} (hf : s.f = f) (ha : s.args = args) (hv : s.v = v) :
  CallL P f (mps ρ args) H (FrQ ρ X X' v H) := by
 subst hX hX' hf ha hv
 exact SmOK.frame hs hk hI
end Go.L

namespace Go.Proofs.YtgjjbfhamlecoacGreatDoor
open Go.L
abbrev F_lexiconlaw12_awake : Nat := 4
def A_lexiconlaw12_awake_0 : LA := [o_ 15 (.call 6 []), o_ 16 (.bslice 35 5 1 [.str [], .str [], .nils, .nils, .nils] [(0, 5, (.t 15))]), o_ 17 (.call 5 [(.t 16)]), mv 14 17, Wx 18 0 14, Wx 19 1 14, o_ 2 (.box 28 2 (.c (.agg [.int .i64 (0), .str []]))), mv 1 18, Ws 2 2 19]
def A_lexiconlaw12_awake_1 : LA := [mv 20 1, o_ 21 (.isnil .pt false (.t 20)), mv 22 21, Wh 23 (.faddr 0 (.t 2)) 22, Wh 24 (.ld1 (.t 23)) 22, Wh 25 (.bini .neq (.t 24) (i_ 0)) 22, Wq 26 22 25]
def A_lexiconlaw12_awake_2 : LA := [mv 27 1, o_ 28 (.call 7 [(.t 27)]), mv 3 28]
def A_lexiconlaw12_awake_3 : LA := [mv 29 3, o_ 30 (.isnil .pt false (.t 29))]
def A_lexiconlaw12_awake_4 : LA := [mv 32 3, o_ 33 (.mkifc 37 (.t 32)), o_ 34 (.bslice 5 1 4 [.int .u8 0] [(0, 1, (.c (.int .u8 8))), (1, 1, (.c (.int .u8 1))), (2, 1, (.c (.int .u8 8))), (3, 1, (.c (.int .u8 2)))]), o_ 35 (.call 9 [(.t 33), (.c (.str [77])), (.t 34)]), mv 31 35, Wx 36 0 31, Wx 37 1 31, Wx 38 2 31, o_ 4 (.box 44 3 (.c (.agg [.str [], .nils, .nils]))), Ws 3 4 36, mv 5 37, mv 6 38]
def A_lexiconlaw12_awake_5 : LA := [mv 40 3, o_ 41 (.mkifc 37 (.t 40)), o_ 42 (.bslice 5 1 13 [.int .u8 0] [(0, 1, (.c (.int .u8 34))), (1, 1, (.c (.int .u8 2))), (2, 1, (.c (.int .u8 8))), (3, 1, (.c (.int .u8 1))), (4, 1, (.c (.int .u8 34))), (5, 1, (.c (.int .u8 3))), (6, 1, (.c (.int .u8 18))), (7, 1, (.c (.int .u8 1))), (8, 1, (.c (.int .u8 7))), (9, 1, (.c (.int .u8 48))), (10, 1, (.c (.int .u8 5))), (11, 1, (.c (.int .u8 58))), (12, 1, (.c (.int .u8 0)))]), o_ 43 (.call 9 [(.t 41), (.c (.str [77])), (.t 42)]), mv 39 43, Wx 44 0 39, Wx 45 1 39, Wx 46 2 39, o_ 7 (.box 44 3 (.c (.agg [.str [], .nils, .nils]))), Ws 3 7 44, mv 8 45, mv 9 46]
def A_lexiconlaw12_awake_6 : LA := [mv 48 3, o_ 49 (.mkifc 37 (.t 48)), o_ 50 (.bslice 5 1 1 [.int .u8 0] [(0, 1, (.c (.int .u8 8)))]), o_ 51 (.call 9 [(.t 49), (.c (.str [77])), (.t 50)]), mv 47 51, Wx 52 0 47, Wx 53 1 47, Wx 54 2 47, o_ 10 (.box 44 3 (.c (.agg [.str [], .nils, .nils]))), Ws 3 10 52, mv 11 53, mv 12 54]
def A_lexiconlaw12_awake_7 : LA := [mv 55 5, Wi 56 .neq 55 0, mv 57 56, Whm 58 8 57, Wh 59 (.bini .neq (.t 58) (i_ 0)) 57, Wq 60 57 59, mv 61 60, Whm 62 11 61, Wh 63 (.bini .neq (.t 62) (i_ 10)) 61, Wq 64 61 63, mv 65 64, Whm 66 12 65, Wh 67 (.bini .neq (.t 66) (i_ 1)) 65, Wq 68 65 67, mv 69 68, Wh 70 (.faddr 1 (.t 4)) 69, Wh 71 (.ld1 (.t 70)) 69, Wh 72 (.lenl (.t 71)) 69, Wh 73 (.bini .neq (.t 72) (i_ 1)) 69, Wq 74 69 73, mv 75 74, Wh 76 (.faddr 1 (.t 7)) 75, Wh 77 (.ld1 (.t 76)) 75, Wh 78 (.lenl (.t 77)) 75, Wh 79 (.bini .neq (.t 78) (i_ 2)) 75, Wq 80 75 79]
def A_lexiconlaw12_awake_8 : LA := [Wf 81 1 7, Wl 82 81, o_ 83 (.iaddr 49 3 (.t 82) (i_ 0)), Wf 84 2 83, Wl 85 84, o_ 86 (.iaddr 52 3 (.t 85) (i_ 0)), Wf 87 2 86, Wl 88 87, mv 13 88]
def A_lexiconlaw12_awake_9 : LA := [Wf 89 1 4, Wl 90 89, o_ 91 (.iaddr 49 3 (.t 90) (i_ 0)), Wf 92 2 91, Wl 93 92, We 94 93, Wi 95 .eql 94 1, mv 96 95, Wgf 97 1 4 96, Wgl 98 97 96, g_ 99 (.iaddr 49 3 (.t 98) (i_ 0)) 96, Wgf 100 2 99 96, Wgl 101 100 96, g_ 102 (.iaddr 52 3 (.t 101) (i_ 0)) 96, Wgf 103 0 102 96, Wgl 104 103 96, g_ 105 (.bini .eql (.t 104) (.c (.int .u64 2))) 96, Wp 106 96 105, mv 107 106, Wgm 108 13 107, g_ 109 (.lenl (.t 108)) 107, g_ 110 (.bini .eql (.t 109) (i_ 1)) 107, Wp 111 107 110, mv 112 111, Wgm 113 13 112, g_ 114 (.iaddr 44 3 (.t 113) (i_ 0)) 112, Wgf 115 1 114 112, Wgl 116 115 112, g_ 117 (.lenl (.t 116)) 112, g_ 118 (.bini .eql (.t 117) (i_ 2)) 112, Wp 119 112 118, mv 120 119, Wgf 121 1 7 120, Wgl 122 121 120, g_ 123 (.iaddr 49 3 (.t 122) (i_ 1)) 120, Wgf 124 0 123 120, Wgl 125 124 120, g_ 126 (.bini .eql (.t 125) (.c (.int .i32 7))) 120, Wp 127 120 126, mv 0 127]
def A_lexiconlaw12_awake : ACode := (.seq (.ops [Wo 0 false]) (.seq (.ops A_lexiconlaw12_awake_0) (.seq (.seq (.ops A_lexiconlaw12_awake_1) (.cond (.t 26) .bad .skip)) (.seq (.ops A_lexiconlaw12_awake_2) (.seq (.seq (.ops A_lexiconlaw12_awake_3) (.cond (.t 30) .bad .skip)) (.seq (.ops A_lexiconlaw12_awake_4) (.seq (.ops A_lexiconlaw12_awake_5) (.seq (.ops A_lexiconlaw12_awake_6) (.seq (.seq (.ops A_lexiconlaw12_awake_7) (.cond (.t 80) .bad .skip)) (.seq (.ops A_lexiconlaw12_awake_8) (.seq (.ops A_lexiconlaw12_awake_9) .ret)))))))))))
def T_lexiconlaw12_awake : FC := ⟨128, A_lexiconlaw12_awake, [.tmp 0]⟩
abbrev F_q5 : Nat := 5
def A_q5_0 : LA := [o_ 2 (.box 25 1 (.c (.nilp))), o_ 3 (.box 28 2 (.c (.agg [.int .i64 (0), .str []])))]
def A_q5_1 : LA := [mv 5 0, We 6 5, Wi 7 .gtr 6 256]
def A_q5_2 : LA := [o_ 9 (.mkmap), o_ 10 (.mkmap), o_ 11 (.mkmap), o_ 12 (.mkmap), o_ 13 (.mkmap), o_ 14 (.build [.nilm, .nils, .nilm, .nilm, .nilm, .nilm] [(0, 1, (.t 9)), (2, 1, (.t 10)), (3, 1, (.t 11)), (4, 1, (.t 12)), (5, 1, (.t 13))]), o_ 15 (.box 66 6 (.t 14)), Ws 1 2 15]
def A_q5_3 : LA := [Wl 16 2, mv 17 0, o_ 18 (.call 12 [(.t 16), (.t 17)])]
def A_q5_4 : LA := [Wl 19 2, o_ 20 (.call 13 [(.t 19)])]
def A_q5_5 : LA := [Wl 21 2, o_ 22 (.call 14 [(.t 21)])]
def A_q5_6 : LA := [Wl 23 2, o_ 24 (.call 15 [(.t 23)])]
def A_q5_7 : LA := [Wl 25 2, o_ 26 (.call 16 [(.t 25)])]
def A_q5_8 : LA := [Wl 27 2, o_ 28 (.call 17 [(.t 27)])]
def A_q5_9 : LA := [Wl 29 2, o_ 30 (.build [.int .i64 (0), .str []] []), Ws 1 2 29, Ws 2 3 30]
def A_q5 : ACode := (.seq (.ops A_q5_0) (.seq (.seq (.ops [o_ 4 (.mkfn 10 [] [(.t 2), (.t 3)])]) (.dfr (.t 4) [])) (.seq (.seq (.ops A_q5_1) (.cond (.t 7) .bad .skip)) (.seq (.ops A_q5_2) (.seq (.ops A_q5_3) (.seq (.ops A_q5_4) (.seq (.ops A_q5_5) (.seq (.ops A_q5_6) (.seq (.ops A_q5_7) (.seq (.ops A_q5_8) (.seq (.ops A_q5_9) .ret)))))))))))
def T_q5 : FC := ⟨31, A_q5, [.cell1 2, .cella 3 2]⟩
abbrev F_q6 : Nat := 6
def A_q6_0 : LA := [o_ 2 (.bslice 9 1 1 [.str []] [(0, 1, (.c (.str [111])))]), o_ 3 (.build [.str [], .int .i32 (0), .int .u8 (0), .int .u8 (0), .str [], .int .u8 (0), .int .i64 (0), .int .u8 (0), .str []] [(0, 1, (.c (.str [97]))), (1, 1, (.c (.int .i32 1))), (2, 1, (.c (.int .u8 1))), (3, 1, (.c (.int .u8 5)))]), o_ 4 (.build [.str [], .int .i32 (0), .int .u8 (0), .int .u8 (0), .str [], .int .u8 (0), .int .i64 (0), .int .u8 (0), .str []] [(0, 1, (.c (.str [114]))), (1, 1, (.c (.int .i32 2))), (2, 1, (.c (.int .u8 3))), (3, 1, (.c (.int .u8 5)))]), o_ 5 (.build [.str [], .int .i32 (0), .int .u8 (0), .int .u8 (0), .str [], .int .u8 (0), .int .i64 (0), .int .u8 (0), .str []] [(0, 1, (.c (.str [109]))), (1, 1, (.c (.int .i32 4))), (2, 1, (.c (.int .u8 1))), (3, 1, (.c (.int .u8 11))), (4, 1, (.c (.str [77])))]), o_ 6 (.build [.str [], .int .i32 (0), .int .u8 (0), .int .u8 (0), .str [], .int .u8 (0), .int .i64 (0), .int .u8 (0), .str []] [(0, 1, (.c (.str [120]))), (1, 1, (.c (.int .i32 5))), (2, 1, (.c (.int .u8 4))), (5, 1, (.c (.int .u8 9))), (3, 1, (.c (.int .u8 5)))]), o_ 7 (.build [.str [], .int .i32 (0), .int .u8 (0), .int .u8 (0), .str [], .int .u8 (0), .int .i64 (0), .int .u8 (0), .str []] [(0, 1, (.c (.str [112]))), (1, 1, (.c (.int .i32 6))), (2, 1, (.c (.int .u8 1))), (3, 1, (.c (.int .u8 5))), (6, 1, (i_ 1))]), o_ 8 (.build [.str [], .int .i32 (0), .int .u8 (0), .int .u8 (0), .str [], .int .u8 (0), .int .i64 (0), .int .u8 (0), .str []] [(0, 1, (.c (.str [113]))), (1, 1, (.c (.int .i32 7))), (2, 1, (.c (.int .u8 1))), (3, 1, (.c (.int .u8 11))), (4, 1, (.c (.str [77]))), (6, 1, (i_ 1))]), o_ 9 (.bslice 72 9 6 [.str [], .int .i32 (0), .int .u8 (0), .int .u8 (0), .str [], .int .u8 (0), .int .i64 (0), .int .u8 (0), .str []] [(0, 9, (.t 3)), (9, 9, (.t 4)), (18, 9, (.t 5)), (27, 9, (.t 6)), (36, 9, (.t 7)), (45, 9, (.t 8))]), o_ 10 (.build [.str [], .nils, .nils, .nils, .nils, .nils, .nils] [(0, 1, (.c (.str [77]))), (2, 1, (.t 2)), (1, 1, (.t 9))]), o_ 1 (.box 76 7 (.c (.agg [.str [], .nils, .nils, .nils, .nils, .nils, .nils]))), Ws 7 1 10]
def A_q6_1 : LA := [Wd 11 7 1, o_ 12 (.build [.str [], .nils, .nils, .nils, .nils, .nils, .nils] [(0, 1, (.c (.str [78, 111, 110, 101])))]), o_ 13 (.bslice 76 7 2 [.str [], .nils, .nils, .nils, .nils, .nils, .nils] [(0, 7, (.t 11)), (7, 7, (.t 12))]), o_ 14 (.build [.str [], .str [], .nils, .nils, .nils] [(0, 1, (.c (.str [102]))), (3, 1, (.t 13))]), Ws 5 0 14]
def A_q6 : ACode := (.seq (.ops [o_ 0 (.box 35 5 (.c (.agg [.str [], .str [], .nils, .nils, .nils])))]) (.seq (.ops A_q6_0) (.seq (.ops A_q6_1) .ret)))
def T_q6 : FC := ⟨15, A_q6, [.cella 0 5]⟩
abbrev F_q7 : Nat := 7
def A_q7_0 : LA := [mv 3 0, o_ 4 (.mkmap), o_ 5 (.build [.int .i32 (0), .int .u32 (0), .nilp, .nilm] [(2, 1, (.t 3)), (3, 1, (.t 4))]), o_ 6 (.box 86 4 (.t 5)), mv 2 6]
def A_q7 : ACode := (.seq (.ops [o_ 2 (.mov (.c (.nilp)))]) (.seq (.ops A_q7_0) .ret))
def T_q7 : FC := ⟨7, A_q7, [.tmp 2]⟩
abbrev F_q9 : Nat := 9
def A_q9_0 : LA := [o_ 6 (.box 44 3 (.c (.agg [.str [], .nils, .nils]))), Wm 7 0, Wm 8 0]
def A_q9_1 : LA := [mv 9 0, mv 10 1, o_ 11 (.build [.str [], .nils, .nils] [(0, 1, (.t 10))]), mv 12 2, o_ 13 (.call 18 [(.t 9), (.t 11), (.t 12)]), Wx 14 0 13, Wx 15 1 13, Wx 16 2 13, Ws 3 6 14, mv 7 15, mv 8 16]
def A_q9 : ACode := (.seq (.ops A_q9_0) (.seq (.ops A_q9_1) .ret))
def T_q9 : FC := ⟨17, A_q9, [.cella 6 3, .tmp 7, .tmp 8]⟩
abbrev F_q10 : Nat := 10
def A_q10_0 : LA := [mv 6 2, o_ 7 (.isnil .ic true (.t 6))]
def A_q10 : ACode := (.seq (.recv (some 5) [(some 2, (.t 5))]) (.seq (.ops A_q10_0) (.cond (.t 7) .bad .skip)))
def T_q10 : FC := ⟨18, A_q10, []⟩
abbrev F_q12 : Nat := 12
def A_q12_0 : LA := [mv 10 1, We 11 10, Wm 12 0]
def A_q12_1 : LA := [Wa 14 35 5 10 12, Wd 15 5 14, o_ 6 (.box 35 5 (.c (.agg [.str [], .str [], .nils, .nils, .nils]))), Ws 5 6 15]
def A_q12_2 : LA := [mv 16 0, Wc 17 16, Wf 18 0 17, Wl 19 18, Wf 20 0 6, Wl 21 20, o_ 22 (.mlook .s (.nilp) false (.t 19) (.t 21)), o_ 23 (.isnil .pt true (.t 22))]
def A_q12_3 : LA := [mv 29 0, Wc 30 29, Wf 31 0 30, Wl 32 31, Wf 33 0 6, Wl 34 33, Wd 35 5 6, o_ 36 (.acall 19 [(.t 35)]), o_ 37 (.mkmap), o_ 38 (.mkmap), o_ 39 (.build [.str [], .str [], .nils, .nils, .nils, .nilm, .nilm] [(0, 5, (.t 36)), (5, 1, (.t 37)), (6, 1, (.t 38))]), o_ 40 (.box 95 7 (.t 39)), n_ (.mupd .s (.t 32) (.t 34) (.t 40))]
def A_q12_4 : LA := [Wi 41 .add 12 1, mv 12 41]
def A_q12_5 : ACode := (.seq (.ops [Wb 13 .lss 12 11]) (.seq (.cond (.t 13) .skip (.exit 0)) (.seq (.block 1 (.seq (.ops A_q12_1) (.seq (.seq (.alts [16, 17, 18, 19, 20, 21, 22, 23] [A_q12_2]) (.cond (.t 23) .bad .skip)) (.alts [29, 30, 31, 32, 33, 34, 35, 36, 37, 38, 39, 40] [A_q12_3])))) (.ops A_q12_4))))
def A_q12_6 : LA := [mv 42 4, We 43 42, Wi 44 .gtr 43 0]
def A_q12_7 : LA := [mv 48 0, o_ 49 (.call 21 [(.t 48)]), We 50 49, Wm 51 0]
def A_q12_8 : LA := [Wa 53 9 1 49 51, Wl 54 53, mv 8 54]
def A_q12_9 : LA := [mv 55 0, Wc 56 55, Wf 57 0 56, Wl 58 57, mv 59 8, o_ 60 (.mlook .s (.nilp) false (.t 58) (.t 59)), Wc 61 60, Wf 62 0 61, Wd 63 5 62, o_ 64 (.call 22 [(.t 63)]), o_ 9 (.box 28 2 (.c (.agg [.int .i64 (0), .str []]))), Ws 2 9 64]
def A_q12_10 : LA := [Wf 65 0 9, Wl 66 65, Wi 67 .neq 66 0]
def A_q12_11 : LA := [Wi 71 .add 51 1, mv 51 71]
def A_q12_12 : ACode := (.seq (.ops [Wb 52 .lss 51 50]) (.seq (.cond (.t 52) .skip (.exit 2)) (.seq (.block 3 (.seq (.ops A_q12_8) (.seq (.ops A_q12_9) (.seq (.ops A_q12_10) (.cond (.t 67) .bad .skip))))) (.ops A_q12_11))))
def A_q12 : ACode := (.seq (.ops [Wn 4]) (.seq (.seq (.ops A_q12_0) (.block 0 (.loop A_q12_5))) (.seq (.seq (.ops A_q12_6) (.cond (.t 44) .bad .skip)) (.seq (.ops A_q12_7) (.block 2 (.loop A_q12_12))))))
def T_q12 : FC := ⟨72, A_q12, []⟩
abbrev F_q13 : Nat := 13
def A_q13_0 : LA := [mv 6 0, o_ 7 (.call 21 [(.t 6)]), We 8 7, Wm 9 0]
def A_q13_1 : LA := [Wa 11 9 1 7 9, Wl 12 11, mv 3 12]
def A_q13_2 : LA := [mv 13 0, Wc 14 13, Wf 15 0 14, Wl 16 15, mv 17 3, o_ 18 (.mlook .s (.nilp) false (.t 16) (.t 17)), Wc 19 18, Wf 20 0 19, Wf 21 2 20, Wl 22 21, We 23 22, Wm 24 0]
def A_q13_3 : ACode := (.seq (.ops [Wb 25 .lss 24 23]) (.seq (.cond (.t 25) .bad (.exit 2)) .bad))
def A_q13_4 : LA := [Wi 40 .add 9 1, mv 9 40]
def A_q13_5 : ACode := (.seq (.ops [Wb 10 .lss 9 8]) (.seq (.cond (.t 10) .skip (.exit 0)) (.seq (.block 1 (.seq (.ops A_q13_1) (.seq (.ops A_q13_2) (.block 2 (.loop A_q13_3))))) (.ops A_q13_4))))
def A_q13 : ACode := (.seq (.ops A_q13_0) (.block 0 (.loop A_q13_5)))
def T_q13 : FC := ⟨41, A_q13, []⟩
abbrev F_q14 : Nat := 14
def A_q14_0 : LA := [Wl 8 1, o_ 9 (.call 21 [(.t 8)]), We 10 9, Wm 11 0]
def A_q14_1 : LA := [Wa 13 9 1 9 11, Wl 14 13, o_ 3 (.box 9 1 (.c (.str []))), Ws 1 3 14]
def A_q14_2 : LA := [o_ 15 (.mkmap), o_ 4 (.box 92 1 (.c (.nilm))), Ws 1 4 15]
def A_q14_3 : LA := [o_ 16 (.mkfn 23 [] [(.t 1), (.t 3), (.t 4), (.t 5)]), Ws 1 5 16]
def A_q14_4 : LA := [Wl 17 5, Wl 18 3, o_ 19 (.callv (.t 17) [(.t 18)])]
def A_q14_5 : LA := [Wi 20 .add 11 1, mv 11 20]
def A_q14_6 : ACode := (.seq (.ops [Wb 12 .lss 11 10]) (.seq (.cond (.t 12) .skip (.exit 0)) (.seq (.block 1 (.seq (.ops A_q14_1) (.seq (.ops A_q14_2) (.seq (.ops [o_ 5 (.box 101 1 (.c (.nilf)))]) (.seq (.ops A_q14_3) (.ops A_q14_4)))))) (.ops A_q14_5))))
def A_q14_7 : LA := [Wl 21 1, o_ 22 (.call 21 [(.t 21)]), We 23 22, Wm 24 0]
def A_q14_8 : LA := [Wa 26 9 1 22 24, Wl 27 26, mv 7 27]
def A_q14_9 : LA := [Wl 28 1, Wl 29 1, Wc 30 29, Wf 31 0 30, Wl 32 31, mv 33 7, o_ 34 (.mlook .s (.nilp) false (.t 32) (.t 33)), Wc 35 34, Wf 36 5 35, Wl 37 36, mv 38 7, o_ 39 (.call 24 [(.t 28), (.t 37), (.t 38), (.c (.bool true))])]
def A_q14_10 : LA := [Wi 40 .add 24 1, mv 24 40]
def A_q14_11 : ACode := (.seq (.ops [Wb 25 .lss 24 23]) (.seq (.cond (.t 25) .skip (.exit 2)) (.seq (.block 3 (.seq (.ops A_q14_8) (.alts [28, 29, 30, 31, 32, 33, 34, 35, 36, 37, 38, 39] [A_q14_9]))) (.ops A_q14_10))))
def A_q14 : ACode := (.seq (.ops [o_ 1 (.box 25 1 (.t 0))]) (.seq (.seq (.ops A_q14_0) (.block 0 (.loop A_q14_6))) (.seq (.ops A_q14_7) (.block 2 (.loop A_q14_11)))))
def T_q14 : FC := ⟨41, A_q14, []⟩
abbrev F_q15 : Nat := 15
def A_q15_0 : LA := [o_ 15 (.mkmap), mv 2 15]
def A_q15_1 : LA := [mv 16 0, Wc 17 16, Wf 18 0 17, Wl 19 18, o_ 20 (.rngm (.t 19))]
def A_q15_2 : LA := [o_ 21 (.nxm (.t 20)), Wx 22 0 21]
def A_q15_3 : LA := [o_ 23 (.entr (.t 20)), Wx 24 1 23, mv 4 24]
def A_q15_4 : LA := [mv 25 4, Wc 26 25, Wf 27 0 26, Wf 28 1 27, Wl 29 28, o_ 30 (.call 25 [(.t 29)]), We 31 30, Wm 32 0]
def A_q15_5 : ACode := (.seq (.ops [Wb 33 .lss 32 31]) (.seq (.cond (.t 33) .bad (.exit 2)) .bad))
def A_q15_6 : ACode := (.seq (.ops A_q15_2) (.seq (.cond (.t 22) .skip (.exit 0)) (.block 1 (.seq (.ops A_q15_3) (.seq (.ops A_q15_4) (.block 2 (.loop A_q15_5)))))))
def A_q15_7 : LA := [mv 39 0, o_ 40 (.call 21 [(.t 39)]), We 41 40, Wm 42 0]
def A_q15_8 : LA := [Wa 44 9 1 40 42, Wl 45 44, mv 9 45]
def A_q15_9 : LA := [mv 46 0, Wc 47 46, Wf 48 0 47, Wl 49 48, mv 50 9, o_ 51 (.mlook .s (.nilp) false (.t 49) (.t 50)), mv 10 51]
def A_q15_10 : LA := [mv 52 10, Wc 53 52, Wf 54 0 53, Wd 55 5 54, o_ 56 (.call 26 [(.t 55)]), We 57 56, Wm 58 0]
def A_q15_11 : LA := [Wa 60 108 3 56 58, Wd 61 3 60, o_ 12 (.box 108 3 (.c (.agg [.str [], .int .u8 (0), .str []]))), Ws 3 12 61]
def A_q15_12 : LA := [mv 63 0, Wc 64 63, Wf 65 2 64, Wl 66 65, Wf 67 0 12, Wl 68 67, o_ 69 (.mlook .s (.str []) true (.t 66) (.t 68)), mv 62 69, Wx 70 0 62, Wx 71 1 62, mv 13 70, mv 14 71]
def A_q15_13 : LA := [mv 72 14, mv 73 72, Whm 74 2 73, Wh 75 (.faddr 0 (.t 12)) 73, Wh 76 (.ld1 (.t 75)) 73, Wh 77 (.mlook .s (.bool false) false (.t 74) (.t 76)) 73, Wq 78 73 77]
def A_q15_14 : LA := [mv 84 0, Wc 85 84, Wf 86 2 85, Wl 87 86, Wf 88 0 12, Wl 89 88, mv 90 9, n_ (.mupd .s (.t 87) (.t 89) (.t 90))]
def A_q15_15 : LA := [mv 91 10, Wc 92 91, Wf 93 6 92, Wl 94 93, Wf 95 0 12, Wl 96 95, Wf 97 1 12, Wl 98 97, n_ (.mupd .s (.t 94) (.t 96) (.t 98))]
def A_q15_16 : LA := [Wi 99 .add 58 1, mv 58 99]
def A_q15_17 : ACode := (.seq (.ops [Wb 59 .lss 58 57]) (.seq (.cond (.t 59) .skip (.exit 6)) (.seq (.block 7 (.seq (.ops A_q15_11) (.seq (.seq (.alts [63, 64, 65, 66, 67, 68, 69, 62, 70, 71, 13, 14] [A_q15_12]) (.seq (.ops A_q15_13) (.cond (.t 78) .bad .skip))) (.seq (.alts [84, 85, 86, 87, 88, 89, 90] [A_q15_14]) (.alts [91, 92, 93, 94, 95, 96, 97, 98] [A_q15_15]))))) (.ops A_q15_16))))
def A_q15_18 : LA := [Wi 100 .add 42 1, mv 42 100]
def A_q15_19 : ACode := (.seq (.ops [Wb 43 .lss 42 41]) (.seq (.cond (.t 43) .skip (.exit 4)) (.seq (.block 5 (.seq (.ops A_q15_8) (.seq (.ops A_q15_9) (.seq (.ops A_q15_10) (.block 6 (.loop A_q15_17)))))) (.ops A_q15_18))))
def A_q15_20 : LA := [mv 101 7, We 102 101, Wi 103 .gtr 102 0]
def A_q15 : ACode := (.seq (.ops A_q15_0) (.seq (.seq (.ops A_q15_1) (.block 0 (.loop A_q15_6))) (.seq (.ops [Wn 7]) (.seq (.seq (.ops A_q15_7) (.block 4 (.loop A_q15_19))) (.seq (.ops A_q15_20) (.cond (.t 103) .bad .skip))))))
def T_q15 : FC := ⟨107, A_q15, []⟩
abbrev F_q16 : Nat := 16
def A_q16_0 : LA := [mv 5 0, o_ 6 (.call 21 [(.t 5)]), We 7 6, Wm 8 0]
def A_q16_1 : LA := [Wa 10 9 1 6 8, Wl 11 10, mv 3 11]
def A_q16_2 : LA := [mv 12 0, Wc 13 12, Wf 14 0 13, Wl 15 14, mv 16 3, o_ 17 (.mlook .s (.nilp) false (.t 15) (.t 16)), mv 4 17]
def A_q16_3 : LA := [mv 18 0, mv 19 4, mv 20 4, Wc 21 20, Wf 22 0 21, Wf 23 1 22, Wl 24 23, mv 25 4, Wc 26 25, Wf 27 0 26, Wf 28 3 27, Wl 29 28, o_ 30 (.call 27 [(.t 18), (.t 19), (.t 24), (.t 29)])]
def A_q16_4 : LA := [Wi 31 .add 8 1, mv 8 31]
def A_q16_5 : ACode := (.seq (.ops [Wb 9 .lss 8 7]) (.seq (.cond (.t 9) .skip (.exit 0)) (.seq (.block 1 (.seq (.ops A_q16_1) (.seq (.ops A_q16_2) (.alts [18, 19, 20, 21, 22, 23, 24, 25, 26, 27, 28, 29, 30] [A_q16_3])))) (.ops A_q16_4))))
def A_q16 : ACode := (.seq (.ops A_q16_0) (.block 0 (.loop A_q16_5)))
def T_q16 : FC := ⟨32, A_q16, []⟩
abbrev F_q17 : Nat := 17
def A_q17_0 : LA := [o_ 10 (.mkmap), o_ 2 (.box 92 1 (.c (.nilm))), Ws 1 2 10]
def A_q17_1 : LA := [mv 11 0, Wc 12 11, Wf 13 1 12, Wl 14 13, We 15 14, mv 16 0, Wc 17 16, Wf 18 0 17, Wl 19 18, o_ 20 (.mlen (.t 19)), Wb 21 .lss 15 20]
def A_q17_2 : LA := [mv 22 0, o_ 23 (.call 21 [(.t 22)]), We 24 23, Wm 25 0]
def A_q17_3 : LA := [Wa 27 9 1 23 25, Wl 28 27, mv 4 28]
def A_q17_4 : LA := [o_ 29 (.mkfn 28 [] [(.t 2)]), mv 5 29]
def A_q17_5 : LA := [Wl 30 2, mv 31 4, o_ 32 (.mlook .s (.bool false) false (.t 30) (.t 31)), o_ 33 (.not (.t 32)), mv 34 33, Wgm 35 0 34, g_ 36 (.nilc (.t 35)) 34, Wgf 37 0 36 34, Wgl 38 37 34, Wgm 39 4 34, g_ 40 (.mlook .s (.nilp) false (.t 38) (.t 39)) 34, g_ 41 (.nilc (.t 40)) 34, Wgf 42 0 41 34, Wgf 43 2 42 34, Wgl 44 43 34, Wgm 45 5 34, g_ 46 (.call 29 [(.t 44), (.t 45)]) 34, g_ 47 (.not (.t 46)) 34, Wp 48 34 47]
def A_q17_6 : LA := [Wl 49 2, mv 50 4, n_ (.mupd .s (.t 49) (.t 50) (.c (.bool true)))]
def A_q17_7 : LA := [mv 51 0, mv 52 0, Wc 53 52, Wf 54 1 53, Wl 55 54, mv 56 4, o_ 57 (.bslice 9 1 1 [.str []] [(0, 1, (.t 56))]), o_ 58 (.app 9 1 16 (.t 55) (.t 57)), Wc 59 51, Wf 60 1 59, Ws 1 60 58]
def A_q17_8 : LA := [Wi 61 .add 25 1, mv 25 61]
def A_q17_9 : ACode := (.seq (.ops [Wb 26 .lss 25 24]) (.seq (.cond (.t 26) .skip .bad) (.seq (.block 3 (.seq (.ops A_q17_3) (.seq (.ops A_q17_4) (.seq (.ops A_q17_5) (.cond (.t 48) (.seq (.ops A_q17_6) (.seq (.ops A_q17_7) (.exit 2))) .bad))))) (.ops A_q17_8))))
def A_q17_10 : ACode := (.seq (.seq (.alts [11, 12, 13, 14, 15, 16, 17, 18, 19, 20, 21] [A_q17_1]) (.cond (.t 21) .skip (.exit 0))) (.block 1 (.seq (.ops A_q17_2) (.block 2 (.loop A_q17_9)))))
def A_q17_11 : LA := [mv 62 0, Wc 63 62, Wf 64 0 63, Wl 65 64, o_ 66 (.rngm (.t 65))]
def A_q17_12 : LA := [o_ 67 (.nxm (.t 66)), Wx 68 0 67]
def A_q17_13 : LA := [o_ 69 (.entr (.t 66)), Wx 70 1 69, mv 7 70]
def A_q17_14 : LA := [mv 71 0, mv 72 7, Wc 73 72, Wf 74 0 73, Wf 75 1 74, Wl 76 75, mv 77 7, Wc 78 77, Wf 79 0 78, Wf 80 3 79, Wl 81 80, mv 82 7, Wc 83 82, Wf 84 0 83, Wf 85 4 84, Wl 86 85, o_ 87 (.call 30 [(.t 71), (.t 76), (.t 81), (.t 86)])]
def A_q17_15 : ACode := (.seq (.ops A_q17_12) (.seq (.cond (.t 68) .skip (.exit 4)) (.block 5 (.seq (.ops A_q17_13) (.alts [71, 72, 73, 74, 75, 76, 77, 78, 79, 80, 81, 82, 83, 84, 85, 86, 87] [A_q17_14])))))
def A_q17_16 : LA := [mv 88 0, Wc 89 88, Wf 90 5 89, Wl 91 90, o_ 92 (.rngm (.t 91))]
def A_q17_17 : LA := [o_ 93 (.nxm (.t 92)), Wx 94 0 93]
def A_q17_18 : LA := [o_ 95 (.entr (.t 92)), Wx 96 1 95, mv 9 96]
def A_q17_19 : LA := [mv 97 9, o_ 98 (.call 31 [(.t 97)])]
def A_q17_20 : ACode := (.seq (.ops A_q17_17) (.seq (.cond (.t 94) .skip (.exit 6)) (.block 7 (.seq (.ops A_q17_18) (.ops A_q17_19)))))
def A_q17 : ACode := (.seq (.ops A_q17_0) (.seq (.block 0 (.loop A_q17_10)) (.seq (.seq (.ops A_q17_11) (.block 4 (.loop A_q17_15))) (.seq (.ops A_q17_16) (.block 6 (.loop A_q17_20))))))
def T_q17 : FC := ⟨99, A_q17, []⟩
abbrev F_q18 : Nat := 18
def A_q18_0 : LA := [o_ 4 (.box 44 3 (.t 1)), o_ 6 (.box 44 3 (.c (.agg [.str [], .nils, .nils]))), o_ 7 (.box 26 1 (i_ 0)), o_ 8 (.box 3 1 (i_ 0))]
def A_q18_1 : LA := [mv 16 0, Wf 17 0 4, Wl 18 17, o_ 19 (.inv [(37, 338)] (.t 16) [(.t 18)]), mv 15 19, Wx 20 0 15, Wx 21 1 15, mv 9 20, mv 10 21]
def A_q18_2 : LA := [mv 22 10, Wi 23 .neq 22 0]
def A_q18_3 : LA := [mv 27 0, Wd 28 3 4, o_ 29 (.call 32 [(.t 27), (.t 28)]), mv 26 29, Wx 30 0 26, Wx 31 1 26, o_ 11 (.box 44 3 (.c (.agg [.str [], .nils, .nils]))), Ws 3 11 30, mv 12 31]
def A_q18_4 : LA := [mv 32 12, Wi 33 .neq 32 0]
def A_q18_5 : LA := [mv 36 2, We 37 36, Wi 38 .gtr 37 16777216]
def A_q18_6 : LA := [mv 41 0, mv 42 2, o_ 43 (.call 34 []), o_ 44 (.build [.nili, .nils, .nils] [(0, 1, (.t 41)), (1, 1, (.t 42)), (2, 1, (.t 43))]), o_ 45 (.box 126 3 (.t 44)), mv 13 45]
def A_q18_7 : LA := [mv 46 13, Wd 47 3 11, o_ 48 (.call 35 [(.t 46), (.t 47)]), mv 14 48]
def A_q18_8 : LA := [mv 49 13, mv 50 14, mv 51 2, o_ 52 (.call 37 [(.t 51)]), o_ 53 (.call 36 [(.t 49), (.t 50), (.t 52), (i_ 1)])]
def A_q18_9 : LA := [mv 54 14, o_ 55 (.call 38 [(.t 54)]), Ws 3 6 55, n_ (.st 1 (.t 7) (i_ 0)), n_ (.st 1 (.t 8) (i_ 0))]
def A_q18 : ACode := (.seq (.ops A_q18_0) (.seq (.seq (.ops A_q18_1) (.seq (.ops A_q18_2) (.cond (.t 23) .bad .skip))) (.seq (.ops A_q18_3) (.seq (.seq (.ops A_q18_4) (.cond (.t 33) .bad .skip)) (.seq (.seq (.ops A_q18_5) (.cond (.t 38) .bad .skip)) (.seq (.seq (.ops [o_ 40 (.mkfn 33 [] [(.t 6), (.t 7), (.t 8)])]) (.dfr (.t 40) [])) (.seq (.ops A_q18_6) (.seq (.ops A_q18_7) (.seq (.ops A_q18_8) (.seq (.ops A_q18_9) .ret))))))))))
def T_q18 : FC := ⟨56, A_q18, [.cella 6 3, .cell1 7, .cell1 8]⟩
abbrev F_q19 : Nat := 19
def A_q19_0 : LA := [o_ 1 (.box 35 5 (.t 0)), o_ 2 (.box 35 5 (.c (.agg [.str [], .str [], .nils, .nils, .nils])))]
def A_q19_1 : LA := [Wf 3 2 1, Wl 4 3, o_ 5 (.call 39 [(.t 4)]), Wf 6 2 1, Ws 1 6 5]
def A_q19_2 : LA := [Wf 8 3 1, Wl 9 8, Wf 10 4 1, Wl 11 10, o_ 12 (.call 40 [(.t 9), (.t 11)]), mv 7 12, Wx 13 0 7, Wx 14 1 7, Wf 15 3 1, Ws 1 15 13, Wf 16 4 1, Ws 1 16 14]
def A_q19_3 : LA := [Wd 17 5 1, Ws 5 2 17]
def A_q19 : ACode := (.seq (.ops A_q19_0) (.seq (.ops A_q19_1) (.seq (.ops A_q19_2) (.seq (.ops A_q19_3) .ret))))
def T_q19 : FC := ⟨18, A_q19, [.cella 2 5]⟩
abbrev F_q21 : Nat := 21
def A_q21_0 : LA := [mv 3 0, Wc 4 3, Wf 5 0 4, Wl 6 5, o_ 7 (.call 42 [(.t 6)]), o_ 8 (.call 41 [(.t 7)]), mv 2 8]
def A_q21 : ACode := (.seq (.ops [Wn 2]) (.seq (.ops A_q21_0) .ret))
def T_q21 : FC := ⟨9, A_q21, [.tmp 2]⟩
abbrev F_q22 : Nat := 22
def A_q22_0 : LA := [o_ 1 (.box 35 5 (.t 0)), o_ 2 (.box 28 2 (.c (.agg [.int .i64 (0), .str []])))]
def A_q22_1 : LA := [o_ 5 (.mkmap), o_ 6 (.build [.nilm] [(0, 1, (.t 5))]), o_ 7 (.box 145 1 (.t 6)), mv 3 7]
def A_q22_2 : LA := [mv 8 3, Wd 9 5 1, o_ 10 (.call 44 [(.t 8), (.t 9)])]
def A_q22_3 : LA := [o_ 11 (.build [.int .i64 (0), .str []] []), Ws 2 2 11]
def A_q22 : ACode := (.seq (.ops A_q22_0) (.seq (.seq (.ops [o_ 4 (.mkfn 43 [] [(.t 2)])]) (.dfr (.t 4) [])) (.seq (.ops A_q22_1) (.seq (.ops A_q22_2) (.seq (.ops A_q22_3) .ret)))))
def T_q22 : FC := ⟨12, A_q22, [.cella 2 2]⟩
abbrev F_q23 : Nat := 23
def A_q23_0 : LA := [Wl 8 1, Wc 9 8, Wf 10 0 9, Wl 11 10, mv 12 0, o_ 13 (.mlook .s (.nilp) false (.t 11) (.t 12)), Wc 14 13, Wf 15 0 14, Wf 16 2 15, Wl 17 16, We 18 17, Wm 19 0]
def A_q23_1 : ACode := (.seq (.ops [Wb 20 .lss 19 18]) (.seq (.cond (.t 20) .bad (.exit 0)) .bad))
def A_q23 : ACode := (.seq (.ops A_q23_0) (.block 0 (.loop A_q23_1)))
def T_q23 : FC := ⟨42, A_q23, []⟩
abbrev F_q24 : Nat := 24
def A_q24_0 : LA := [mv 10 1, mv 11 2, o_ 12 (.mlook .s (.bool false) false (.t 10) (.t 11)), mv 13 12, Wgm 14 3 13, g_ 15 (.not (.t 14)) 13, Wp 16 13 15]
def A_q24_1 : LA := [mv 17 1, mv 18 2, n_ (.mupd .s (.t 17) (.t 18) (.c (.bool true)))]
def A_q24_2 : LA := [mv 19 0, Wc 20 19, Wf 21 0 20, Wl 22 21, mv 23 2, o_ 24 (.mlook .s (.nilp) false (.t 22) (.t 23)), Wc 25 24, Wf 26 0 25, Wf 27 2 26, Wl 28 27, We 29 28, Wm 30 0]
def A_q24_3 : ACode := (.seq (.ops [Wb 31 .lss 30 29]) (.seq (.cond (.t 31) .bad (.exit 0)) .bad))
def A_q24 : ACode := (.seq (.seq (.ops A_q24_0) (.cond (.t 16) .bad .skip)) (.seq (.ops A_q24_1) (.seq (.ops A_q24_2) (.block 0 (.loop A_q24_3)))))
def T_q24 : FC := ⟨45, A_q24, []⟩
abbrev F_q25 : Nat := 25
def A_q25_0 : LA := [mv 5 0, o_ 6 (.call 45 [(.t 5)])]
def A_q25_1 : LA := [mv 8 4, o_ 9 (.bins .neq (.t 8) (.c (.str [])))]
def A_q25_2 : LA := [Wl 10 3, mv 11 4, o_ 12 (.bslice 9 1 1 [.str []] [(0, 1, (.t 11))]), o_ 13 (.app 9 1 16 (.t 10) (.t 12)), Ws 1 3 13]
def A_q25_3 : LA := [Wl 14 3, mv 2 14]
def A_q25 : ACode := (.seq (.ops [Wn 2]) (.seq (.ops [o_ 3 (.box 64 1 (.c (.nils)))]) (.seq (.seq (.ops A_q25_0) (.block 0 (.rngf (.t 6) [7] (.ops [mv 4 7]) (.block 1 (.seq (.ops A_q25_1) (.cond (.t 9) (.ops A_q25_2) .skip)))))) (.seq (.ops A_q25_3) .ret))))
def T_q25 : FC := ⟨15, A_q25, [.tmp 2]⟩
abbrev F_q26 : Nat := 26
def A_q26_0 : LA := [o_ 1 (.box 35 5 (.t 0)), Wn 2]
def A_q26_1 : LA := [o_ 11 (.mkfn 46 [] [(.t 3), (.t 1)]), o_ 4 (.box 149 1 (.c (.nilf))), Ws 1 4 11]
def A_q26_2 : LA := [o_ 12 (.mkfn 48 [] [(.t 4)]), o_ 5 (.box 155 1 (.c (.nilf))), Ws 1 5 12]
def A_q26_3 : LA := [o_ 13 (.mkfn 49 [] [(.t 4), (.t 6), (.t 5)]), Ws 1 6 13]
def A_q26_4 : LA := [Wf 14 3 1, Wl 15 14, We 16 15, Wm 17 0]
def A_q26_5 : LA := [Wa 19 76 7 15 17, Wd 20 7 19, o_ 8 (.box 76 7 (.c (.agg [.str [], .nils, .nils, .nils, .nils, .nils, .nils]))), Ws 7 8 20]
def A_q26_6 : LA := [Wl 21 6, Wd 22 7 8, Wf 23 1 1, Wl 24 23, o_ 25 (.callv (.t 21) [(.t 22), (.t 24)])]
def A_q26_7 : LA := [Wi 26 .add 17 1, mv 17 26]
def A_q26_8 : ACode := (.seq (.ops [Wb 18 .lss 17 16]) (.seq (.cond (.t 18) .skip (.exit 0)) (.seq (.block 1 (.seq (.ops A_q26_5) (.ops A_q26_6))) (.ops A_q26_7))))
def A_q26_9 : LA := [Wf 27 4 1, Wl 28 27, We 29 28, Wm 30 0]
def A_q26_10 : ACode := (.seq (.ops [Wb 31 .lss 30 29]) (.seq (.cond (.t 31) .bad (.exit 2)) .bad))
def A_q26_11 : LA := [Wl 40 3, o_ 41 (.call 50 [(.t 40), (.f 51)])]
def A_q26_12 : LA := [Wl 42 3, mv 2 42]
def A_q26 : ACode := (.seq (.ops A_q26_0) (.seq (.ops [o_ 3 (.box 104 1 (.c (.nils)))]) (.seq (.ops A_q26_1) (.seq (.ops A_q26_2) (.seq (.ops [o_ 6 (.box 156 1 (.c (.nilf)))]) (.seq (.ops A_q26_3) (.seq (.seq (.ops A_q26_4) (.block 0 (.loop A_q26_8))) (.seq (.seq (.ops A_q26_9) (.block 2 (.loop A_q26_10))) (.seq (.ops A_q26_11) (.seq (.ops A_q26_12) .ret))))))))))
def T_q26 : FC := ⟨43, A_q26, [.tmp 2]⟩
abbrev F_q27 : Nat := 27
def A_q27_0 : LA := [mv 12 3, We 13 12, Wm 14 0]
def A_q27_1 : LA := [mv 16 14, mv 8 16]
def A_q27_2 : LA := [mv 17 3, mv 18 8, Wa 19 76 7 17 18, mv 9 19]
def A_q27_3 : LA := [mv 20 2, mv 21 9, Wc 22 21, Wf 23 0 22, Wl 24 23, o_ 25 (.bslice 9 1 2 [.str []] [(0, 1, (.t 20)), (1, 1, (.t 24))]), o_ 26 (.call 47 [(.t 25)]), mv 10 26]
def A_q27_4 : LA := [mv 27 9, Wc 28 27, Wf 29 1 28, Wl 30 29, We 31 30, Wm 32 0]
def A_q27_5 : LA := [mv 34 32, mv 11 34]
def A_q27_6 : LA := [mv 35 0, mv 36 1, mv 37 10, mv 38 9, Wc 39 38, Wf 40 1 39, Wl 41 40, mv 42 11, Wa 43 72 9 41 42, o_ 44 (.call 55 [(.t 35), (.t 36), (.t 37), (.t 43)])]
def A_q27_7 : LA := [Wi 45 .add 32 1, mv 32 45]
def A_q27_8 : ACode := (.seq (.ops [Wb 33 .lss 32 31]) (.seq (.cond (.t 33) .skip (.exit 2)) (.seq (.block 3 (.seq (.ops A_q27_5) (.ops A_q27_6))) (.ops A_q27_7))))
def A_q27_9 : LA := [mv 46 0, mv 47 1, mv 48 10, mv 49 9, Wc 50 49, Wf 51 3 50, Wl 52 51, o_ 53 (.call 27 [(.t 46), (.t 47), (.t 48), (.t 52)])]
def A_q27_10 : LA := [Wi 54 .add 14 1, mv 14 54]
def A_q27_11 : ACode := (.seq (.ops [Wb 15 .lss 14 13]) (.seq (.cond (.t 15) .skip (.exit 0)) (.seq (.block 1 (.seq (.ops A_q27_1) (.seq (.ops A_q27_2) (.seq (.ops A_q27_3) (.seq (.seq (.ops A_q27_4) (.block 2 (.loop A_q27_8))) (.ops A_q27_9)))))) (.ops A_q27_10))))
def A_q27 : ACode := (.seq (.ops A_q27_0) (.block 0 (.loop A_q27_11)))
def T_q27 : FC := ⟨55, A_q27, []⟩
abbrev F_q29 : Nat := 29
def A_q29_0 : LA := [mv 5 0, mv 6 1, o_ 7 (.call 56 [(.t 5), (.t 6)]), Wi 8 .geq 7 0, mv 4 8]
def A_q29 : ACode := (.seq (.ops [Wo 4 false]) (.seq (.ops A_q29_0) .ret))
def T_q29 : FC := ⟨9, A_q29, [.tmp 4]⟩
abbrev F_q30 : Nat := 30
def A_q30_0 : LA := [mv 15 3, We 16 15, Wm 17 0]
def A_q30_1 : ACode := (.seq (.ops [Wb 18 .lss 17 16]) (.seq (.cond (.t 18) .bad (.exit 0)) .bad))
def A_q30_2 : LA := [mv 32 2, We 33 32, Wm 34 0]
def A_q30_3 : LA := [Wa 36 76 7 32 34, Wd 37 7 36, o_ 11 (.box 76 7 (.c (.agg [.str [], .nils, .nils, .nils, .nils, .nils, .nils]))), Ws 7 11 37]
def A_q30_4 : LA := [mv 38 1, Wf 39 0 11, Wl 40 39, o_ 41 (.bslice 9 1 2 [.str []] [(0, 1, (.t 38)), (1, 1, (.t 40))]), o_ 42 (.call 47 [(.t 41)]), mv 12 42]
def A_q30_5 : LA := [mv 43 0, Wc 44 43, Wf 45 3 44, Wl 46 45, mv 47 12, Wd 48 7 11, n_ (.mupd .s (.t 46) (.t 47) (.t 48))]
def A_q30_6 : LA := [Wf 49 1 11, Wl 50 49, We 51 50, Wm 52 0]
def A_q30_7 : LA := [Wa 54 72 9 50 52, Wd 55 9 54, o_ 14 (.box 72 9 (.c (.agg [.str [], .int .i32 (0), .int .u8 (0), .int .u8 (0), .str [], .int .u8 (0), .int .i64 (0), .int .u8 (0), .str []]))), Ws 9 14 55]
def A_q30_8 : LA := [Wf 56 4 14, Wl 57 56, o_ 58 (.bins .neq (.t 57) (.c (.str []))), mv 59 58, Wgm 60 0 59, g_ 61 (.nilc (.t 60)) 59, Wgf 62 5 61 59, Wgl 63 62 59, Wgf 64 4 14 59, Wgl 65 64 59, g_ 66 (.mlook .s (.nils) false (.t 63) (.t 65)) 59, Wgm 67 12 59, g_ 68 (.call 57 [(.t 66), (.t 67)]) 59, g_ 69 (.not (.t 68)) 59, Wp 70 59 69]
def A_q30_9 : LA := [mv 71 0, Wc 72 71, Wf 73 5 72, Wf 75 4 14, mv 77 0, Wc 78 77, Wf 79 5 78, Wl 80 79, Wf 81 4 14, Wl 82 81, o_ 83 (.mlook .s (.nils) false (.t 80) (.t 82)), mv 84 12, o_ 85 (.fslice 9 1 1 [.str []] [(0, 1, (.t 84))]), Wl 74 73, Wl 76 75, o_ 86 (.app 9 1 16 (.t 83) (.t 85)), n_ (.mupd .s (.t 74) (.t 76) (.t 86))]
def A_q30_10 : LA := [mv 71 0, Wc 72 71, Wf 73 5 72, Wf 75 4 14, mv 77 0, Wc 78 77, Wf 79 5 78, Wl 80 79, Wf 81 4 14, Wl 82 81, o_ 83 (.mlook .s (.nils) false (.t 80) (.t 82)), mv 84 12, o_ 85 (.fslice 9 1 1 [.str []] [(0, 1, (.t 84))]), Wl 74 73, o_ 86 (.app 9 1 16 (.t 83) (.t 85)), Wl 76 75, n_ (.mupd .s (.t 74) (.t 76) (.t 86))]
def A_q30_11 : LA := [mv 71 0, Wc 72 71, Wf 73 5 72, Wf 75 4 14, mv 77 0, Wc 78 77, Wf 79 5 78, Wl 80 79, Wf 81 4 14, Wl 82 81, o_ 83 (.mlook .s (.nils) false (.t 80) (.t 82)), mv 84 12, o_ 85 (.fslice 9 1 1 [.str []] [(0, 1, (.t 84))]), Wl 76 75, Wl 74 73, o_ 86 (.app 9 1 16 (.t 83) (.t 85)), n_ (.mupd .s (.t 74) (.t 76) (.t 86))]
def A_q30_12 : LA := [mv 71 0, Wc 72 71, Wf 73 5 72, Wf 75 4 14, mv 77 0, Wc 78 77, Wf 79 5 78, Wl 80 79, Wf 81 4 14, Wl 82 81, o_ 83 (.mlook .s (.nils) false (.t 80) (.t 82)), mv 84 12, o_ 85 (.fslice 9 1 1 [.str []] [(0, 1, (.t 84))]), Wl 76 75, o_ 86 (.app 9 1 16 (.t 83) (.t 85)), Wl 74 73, n_ (.mupd .s (.t 74) (.t 76) (.t 86))]
def A_q30_13 : LA := [mv 71 0, Wc 72 71, Wf 73 5 72, Wf 75 4 14, mv 77 0, Wc 78 77, Wf 79 5 78, Wl 80 79, Wf 81 4 14, Wl 82 81, o_ 83 (.mlook .s (.nils) false (.t 80) (.t 82)), mv 84 12, o_ 85 (.fslice 9 1 1 [.str []] [(0, 1, (.t 84))]), o_ 86 (.app 9 1 16 (.t 83) (.t 85)), Wl 74 73, Wl 76 75, n_ (.mupd .s (.t 74) (.t 76) (.t 86))]
def A_q30_14 : LA := [Wi 87 .add 52 1, mv 52 87]
def A_q30_15 : ACode := (.seq (.ops [Wb 53 .lss 52 51]) (.seq (.cond (.t 53) .skip (.exit 4)) (.seq (.block 5 (.seq (.ops A_q30_7) (.seq (.alts [56, 57, 58, 59, 60, 61, 62, 63, 64, 65, 66, 67, 68, 69, 70] [A_q30_8]) (.cond (.t 70) (.alts [71, 72, 73, 74, 75, 76, 77, 78, 79, 80, 81, 82, 83, 84, 85, 86] [A_q30_9, A_q30_10, A_q30_11, A_q30_12, A_q30_13]) .skip)))) (.ops A_q30_14))))
def A_q30_16 : LA := [mv 88 0, mv 89 12, Wf 90 3 11, Wl 91 90, Wf 92 4 11, Wl 93 92, o_ 94 (.call 30 [(.t 88), (.t 89), (.t 91), (.t 93)])]
def A_q30_17 : LA := [Wi 95 .add 34 1, mv 34 95]
def A_q30_18 : ACode := (.seq (.ops [Wb 35 .lss 34 33]) (.seq (.cond (.t 35) .skip (.exit 2)) (.seq (.block 3 (.seq (.ops A_q30_3) (.seq (.ops A_q30_4) (.seq (.alts [43, 44, 45, 46, 47, 48] [A_q30_5]) (.seq (.seq (.ops A_q30_6) (.block 4 (.loop A_q30_15))) (.ops A_q30_16)))))) (.ops A_q30_17))))
def A_q30 : ACode := (.seq (.seq (.ops A_q30_0) (.block 0 (.loop A_q30_1))) (.seq (.ops A_q30_2) (.block 2 (.loop A_q30_18))))
def T_q30 : FC := ⟨96, A_q30, []⟩
abbrev F_q31 : Nat := 31
def A_q31_0 : LA := [mv 3 0, We 4 3, mv 2 4]
def A_q31_1 : LA := [mv 5 0, mv 6 2, mv 7 2, o_ 8 (.conv .u64 (.t 7)), o_ 9 (.call 59 [(.t 8)]), o_ 10 (.call 58 [(.t 5), (i_ 0), (.t 6), (.t 9)])]
def A_q31 : ACode := (.seq (.ops A_q31_0) (.ops A_q31_1))
def T_q31 : FC := ⟨11, A_q31, []⟩
abbrev F_q32 : Nat := 32
def A_q32_0 : LA := [o_ 3 (.box 44 3 (.t 1)), o_ 4 (.box 44 3 (.c (.agg [.str [], .nils, .nils]))), Wm 5 0]
def A_q32_1 : LA := [mv 9 0, Wd 10 3 3, o_ 11 (.call 60 [(.t 9), (.t 10)]), mv 8 11, Wx 12 0 8, Wx 13 1 8, mv 6 12, mv 7 13]
def A_q32_2 : LA := [mv 14 6, Wi 15 .neq 14 0]
def A_q32_3 : LA := [mv 18 0, Wd 19 3 3, o_ 20 (.call 61 [(.t 18), (.t 19)]), Ws 3 4 20, Wm 5 0]
def A_q32 : ACode := (.seq (.ops A_q32_0) (.seq (.seq (.ops A_q32_1) (.seq (.ops A_q32_2) (.cond (.t 15) .bad .skip))) (.seq (.ops A_q32_3) .ret)))
def T_q32 : FC := ⟨21, A_q32, [.cella 4 3, .tmp 5]⟩
abbrev F_q33 : Nat := 33
def A_q33_0 : LA := [o_ 9 (.tass 121 true (.agg [.int .i64 (0), .int .i64 0]) (.t 6)), Wx 10 1 9, Wx 11 0 9]
def A_q33_1 : LA := [o_ 4 (.box 121 2 (.c (.agg [.int .i64 (0), .int .i64 0]))), Ws 2 4 11]
def A_q33_2 : LA := [o_ 12 (.build [.str [], .nils, .nils] []), Wf 13 0 4, Wf 15 1 4, Wl 14 13, Wl 16 15, Ws 3 0 12, Ws 1 1 14, Ws 1 2 16]
def A_q33_3 : LA := [o_ 12 (.build [.str [], .nils, .nils] []), Wf 13 0 4, Wf 15 1 4, Wl 14 13, Ws 3 0 12, Wl 16 15, Ws 1 1 14, Ws 1 2 16]
def A_q33_4 : LA := [o_ 12 (.build [.str [], .nils, .nils] []), Wf 13 0 4, Wf 15 1 4, Wl 14 13, Ws 3 0 12, Ws 1 1 14, Wl 16 15, Ws 1 2 16]
def A_q33_5 : LA := [o_ 12 (.build [.str [], .nils, .nils] []), Wf 13 0 4, Wf 15 1 4, Wl 16 15, Wl 14 13, Ws 3 0 12, Ws 1 1 14, Ws 1 2 16]
def A_q33_6 : LA := [o_ 12 (.build [.str [], .nils, .nils] []), Wf 13 0 4, Wf 15 1 4, Wl 16 15, Ws 3 0 12, Wl 14 13, Ws 1 1 14, Ws 1 2 16]
def A_q33_7 : LA := [o_ 12 (.build [.str [], .nils, .nils] []), Wf 13 0 4, Wf 15 1 4, Ws 3 0 12, Wl 14 13, Wl 16 15, Ws 1 1 14, Ws 1 2 16]
def A_q33_8 : LA := [o_ 12 (.build [.str [], .nils, .nils] []), Wf 13 0 4, Wf 15 1 4, Ws 3 0 12, Wl 14 13, Ws 1 1 14, Wl 16 15, Ws 1 2 16]
def A_q33 : ACode := (.seq (.recv (some 6) []) (.block 0 (.seq (.ops [o_ 8 (.isnil .ic false (.t 6))]) (.cond (.t 8) (.ops [mv 3 6]) (.seq (.ops A_q33_0) (.cond (.t 10) (.seq (.ops A_q33_1) (.alts [12, 13, 14, 15, 16] [A_q33_2, A_q33_3, A_q33_4, A_q33_5, A_q33_6, A_q33_7, A_q33_8])) .bad))))))
def T_q33 : FC := ⟨17, A_q33, []⟩
abbrev F_q34 : Nat := 34
def A_q34_0 : LA := [o_ 1 (.build [.nilf, .nilf] [(0, 1, (.f 62)), (1, 1, (.f 63))]), o_ 2 (.build [.nilf, .nilf] [(0, 1, (.f 64)), (1, 1, (.f 66))]), o_ 3 (.build [.nilf, .nilf] [(0, 1, (.f 67)), (1, 1, (.f 68))]), o_ 4 (.bslice 180 2 3 [.nilf, .nilf] [(0, 2, (.t 1)), (2, 2, (.t 2)), (4, 2, (.t 3))]), mv 0 4]
def A_q34 : ACode := (.seq (.ops [Wn 0]) (.seq (.ops A_q34_0) .ret))
def T_q34 : FC := ⟨5, A_q34, [.tmp 0]⟩
abbrev F_q35 : Nat := 35
def A_q35_0 : LA := [o_ 3 (.box 44 3 (.t 1)), o_ 4 (.mov (.c (.nilp)))]
def A_q35_1 : LA := [mv 16 0, Wf 17 0 3, Wl 18 17, o_ 19 (.call 69 [(.t 16), (.t 18), (i_ 0)]), mv 5 19]
def A_q35_2 : LA := [mv 20 5, Wf 21 2 3, Wl 22 21, o_ 23 (.call 70 [(.t 22)]), Wc 24 20, Wf 25 2 24, Ws 1 25 23]
def A_q35_3 : LA := [Wf 26 1 3, Wl 27 26, We 28 27, Wm 29 0]
def A_q35_4 : ACode := (.seq (.ops [Wb 30 .lss 29 28]) (.seq (.cond (.t 30) .bad (.exit 0)) .bad))
def A_q35_5 : LA := [mv 103 5, mv 4 103]
def A_q35 : ACode := (.seq (.ops A_q35_0) (.seq (.ops A_q35_1) (.seq (.ops A_q35_2) (.seq (.seq (.ops A_q35_3) (.block 0 (.loop A_q35_4))) (.seq (.ops A_q35_5) .ret)))))
def T_q35 : FC := ⟨104, A_q35, [.tmp 4]⟩
abbrev F_q36 : Nat := 36
def A_q36_0 : LA := [mv 14 2, o_ 15 (.call 74 [(.t 14)]), Wi 16 .gtr 15 0]
def A_q36_1 : LA := [mv 18 2, o_ 19 (.call 75 [(.t 18)]), mv 17 19, Wx 20 0 17, Wx 21 1 17, Wx 22 2 17, o_ 9 (.box 175 1 (.c (.int .u8 0))), mv 8 20, Ws 1 9 21, mv 10 22]
def A_q36_2 : LA := [mv 24 1, Wc 25 24, Wf 26 0 25, Wl 27 26, mv 28 8, o_ 29 (.call 71 [(.t 27), (.t 28)]), mv 23 29, Wx 30 0 23, Wx 31 1 23, o_ 11 (.box 174 9 (.c (.agg [.int .i32 (0), .str [], .str [], .int .u8 (0), .int .u8 (0), .int .u8 (0), .bool false, .int .i64 (0), .str []]))), Ws 9 11 30, mv 12 31]
def A_q36_3 : LA := [mv 33 0, Wc 34 33, Wf 35 2 34, Wl 36 35, o_ 37 (.mkfn 77 [] [(.t 11), (.t 9)]), o_ 38 (.call 76 [(.t 36), (.t 37)]), mv 13 38]
def A_q36_4 : LA := [mv 39 13, Wi 40 .geq 39 0]
def A_q36_5 : LA := [mv 41 0, Wc 42 41, Wf 43 2 42, Wl 44 43, mv 45 13, Wa 46 180 2 44 45, Wf 47 1 46, Wl 48 47, mv 49 0, mv 50 1, Wd 51 9 11, mv 52 2, mv 53 3, mv 54 10, o_ 55 (.callv (.t 48) [(.t 49), (.t 50), (.t 51), (.t 52), (.t 53), (.t 54)])]
def A_q36_6 : ACode := (.seq (.seq (.ops A_q36_0) (.cond (.t 16) .skip (.exit 0))) (.block 1 (.seq (.ops A_q36_1) (.seq (.ops A_q36_2) (.seq (.ops [Wm 13 (-1)]) (.seq (.seq (.ops [mv 32 12]) (.cond (.t 32) (.ops A_q36_3) .bad)) (.seq (.seq (.ops A_q36_4) (.cond (.t 40) (.seq (.alts [41, 42, 43, 44, 45, 46, 47, 48, 49, 50, 51, 52, 53, 54, 55] [A_q36_5]) (.exit 1)) .bad)) .bad)))))))
def A_q36 : ACode := (.block 0 (.loop A_q36_6))
def T_q36 : FC := ⟨80, A_q36, []⟩
abbrev F_q37 : Nat := 37
def A_q37_0 : LA := [mv 3 0, o_ 4 (.call 70 [(.t 3)]), mv 5 0, We 6 5, o_ 7 (.build [.nils, .int .i64 (0), .int .i64 (0), .int .i64 (0), .int .i64 0] [(0, 1, (.t 4)), (2, 1, (.t 6))]), o_ 8 (.box 208 5 (.t 7)), mv 2 8]
def A_q37 : ACode := (.seq (.ops [o_ 2 (.mov (.c (.nilp)))]) (.seq (.ops A_q37_0) .ret))
def T_q37 : FC := ⟨9, A_q37, [.tmp 2]⟩
abbrev F_q38 : Nat := 38
def A_q38_0 : LA := [mv 13 0, Wc 14 13, Wf 15 0 14, Wl 16 15, mv 18 0, Wc 19 18, Wf 20 2 19, o_ 17 (.call 81 [(.t 16)]), Wl 21 20, o_ 22 (.build [.str [], .nils, .nils] [(0, 1, (.t 17)), (2, 1, (.t 21))]), o_ 3 (.box 44 3 (.c (.agg [.str [], .nils, .nils]))), Ws 3 3 22]
def A_q38_1 : LA := [mv 13 0, Wc 14 13, Wf 15 0 14, Wl 16 15, mv 18 0, Wc 19 18, Wf 20 2 19, Wl 21 20, o_ 17 (.call 81 [(.t 16)]), o_ 22 (.build [.str [], .nils, .nils] [(0, 1, (.t 17)), (2, 1, (.t 21))]), o_ 3 (.box 44 3 (.c (.agg [.str [], .nils, .nils]))), Ws 3 3 22]
def A_q38_2 : LA := [mv 13 0, Wc 14 13, Wf 15 0 14, Wl 16 15, mv 18 0, Wc 19 18, Wf 20 2 19, Wl 21 20, o_ 3 (.box 44 3 (.c (.agg [.str [], .nils, .nils]))), o_ 17 (.call 81 [(.t 16)]), o_ 22 (.build [.str [], .nils, .nils] [(0, 1, (.t 17)), (2, 1, (.t 21))]), Ws 3 3 22]
def A_q38_3 : LA := [mv 13 0, Wc 14 13, Wf 15 0 14, Wl 16 15, mv 18 0, Wc 19 18, Wf 20 2 19, o_ 3 (.box 44 3 (.c (.agg [.str [], .nils, .nils]))), o_ 17 (.call 81 [(.t 16)]), Wl 21 20, o_ 22 (.build [.str [], .nils, .nils] [(0, 1, (.t 17)), (2, 1, (.t 21))]), Ws 3 3 22]
def A_q38_4 : LA := [mv 13 0, Wc 14 13, Wf 15 0 14, Wl 16 15, mv 18 0, Wc 19 18, Wf 20 2 19, o_ 3 (.box 44 3 (.c (.agg [.str [], .nils, .nils]))), Wl 21 20, o_ 17 (.call 81 [(.t 16)]), o_ 22 (.build [.str [], .nils, .nils] [(0, 1, (.t 17)), (2, 1, (.t 21))]), Ws 3 3 22]
def A_q38_5 : LA := [mv 23 0, Wc 24 23, Wf 25 1 24, Wl 26 25, o_ 27 (.call 83 [(.t 26)]), o_ 28 (.call 82 [(.t 27)]), We 29 28, Wm 30 0]
def A_q38_6 : LA := [Wa 32 21 1 28 30, Wl 33 32, mv 5 33]
def A_q38_7 : LA := [mv 34 0, Wc 35 34, Wf 36 1 35, Wl 37 36, mv 38 5, o_ 39 (.mlook .i (.nilp) false (.t 37) (.t 38)), o_ 6 (.box 189 1 (.c (.nilp))), Ws 1 6 39]
def A_q38_8 : LA := [Wl 40 6, Wc 41 40, Wf 42 10 41, Wl 43 42, We 44 43, o_ 45 (.mkslice 3 1 8 [.int .i64 0] (.t 44) (.t 44)), mv 7 45]
def A_q38_9 : LA := [mv 46 7, We 47 46, Wm 48 0]
def A_q38_10 : LA := [mv 50 48, mv 8 50]
def A_q38_11 : LA := [mv 51 7, mv 52 8, mv 53 8, Wa 54 3 1 51 52, Ws 1 54 53]
def A_q38_12 : LA := [Wi 55 .add 48 1, mv 48 55]
def A_q38_13 : ACode := (.seq (.ops [Wb 49 .lss 48 47]) (.seq (.cond (.t 49) .skip (.exit 2)) (.seq (.block 3 (.seq (.ops A_q38_10) (.ops A_q38_11))) (.ops A_q38_12))))
def A_q38_14 : LA := [Wl 56 6, Wc 57 56, Wf 58 0 57, Wf 59 3 58, Wl 60 59, o_ 61 (.bini .eql (.t 60) (.c (.int .u8 4)))]
def A_q38_15 : LA := [mv 65 5, o_ 66 (.build [.int .i32 (0), .nils, .nils] [(0, 1, (.t 65))]), o_ 9 (.box 49 3 (.c (.agg [.int .i32 (0), .nils, .nils]))), Ws 3 9 66]
def A_q38_16 : LA := [mv 67 7, We 68 67, Wm 69 0]
def A_q38_17 : LA := [Wa 71 3 1 67 69, Wl 72 71, mv 11 72]
def A_q38_18 : LA := [Wl 73 6, Wc 74 73, Wf 75 10 74, Wl 76 75, mv 77 11, Wa 78 199 4 76 77, Wf 79 0 78, Wd 80 3 79, o_ 12 (.box 52 3 (.c (.agg [.int .u64 (0), .str [], .nils]))), Ws 3 12 80]
def A_q38_19 : LA := [Wl 81 6, Wc 82 81, Wf 83 10 82, Wl 84 83, mv 85 11, Wa 86 199 4 84 85, Wf 87 3 86, Wl 88 87, o_ 89 (.isnil .pt true (.t 88))]
def A_q38_20 : LA := [Wl 90 6, Wc 91 90, Wf 92 10 91, Wl 93 92, mv 94 11, Wa 95 199 4 93 94, Wf 96 3 95, Wl 97 96, o_ 98 (.call 38 [(.t 97)]), o_ 99 (.bslice 44 3 1 [.str [], .nils, .nils] [(0, 3, (.t 98))]), o_ 100 (.build [.int .u64 (0), .str [], .nils] [(2, 1, (.t 99))]), Ws 3 12 100]
def A_q38_21 : LA := [Wf 101 2 9, Wl 102 101, Wd 103 3 12, o_ 104 (.bslice 52 3 1 [.int .u64 (0), .str [], .nils] [(0, 3, (.t 103))]), o_ 105 (.app 52 3 48 (.t 102) (.t 104)), Wf 106 2 9, Ws 1 106 105]
def A_q38_22 : LA := [Wl 107 6, Wc 108 107, Wf 109 0 108, Wf 110 3 109, Wl 111 110, o_ 112 (.bini .eql (.t 111) (.c (.int .u8 4)))]
def A_q38_23 : LA := [Wi 125 .add 69 1, mv 69 125]
def A_q38_24 : ACode := (.seq (.ops [Wb 70 .lss 69 68]) (.seq (.cond (.t 70) .skip (.exit 4)) (.seq (.block 5 (.seq (.ops A_q38_17) (.seq (.ops A_q38_18) (.seq (.seq (.ops A_q38_19) (.cond (.t 89) (.ops A_q38_20) .skip)) (.seq (.ops A_q38_21) (.seq (.ops A_q38_22) (.cond (.t 112) .bad .skip))))))) (.ops A_q38_23))))
def A_q38_25 : LA := [Wf 126 2 9, Wl 127 126, We 128 127, Wi 129 .eql 128 0, mv 130 129, Wh 131 (.ld1 (.t 6)) 130, Wh 132 (.nilc (.t 131)) 130, Wh 133 (.faddr 0 (.t 132)) 130, Wh 134 (.lda 9 (.t 133)) 130, Wh 135 (.call 87 [(.t 134)]) 130, Whm 136 135 130, Wgf 137 2 9 136, Wgl 138 137 136, g_ 139 (.iaddr 52 3 (.t 138) (i_ 0)) 136, Wgf 140 0 139 136, Wgl 141 140 136, g_ 142 (.bini .eql (.t 141) (.c (.int .u64 0))) 136, Wh 143 (.pick (.t 136) (.t 142) (.c (.bool false))) 130, Whm 144 143 130, Wgf 145 2 9 144, Wgl 146 145 144, g_ 147 (.iaddr 52 3 (.t 146) (i_ 0)) 144, Wgf 148 1 147 144, Wgl 149 148 144, g_ 150 (.bins .eql (.t 149) (.c (.str []))) 144, Wh 151 (.pick (.t 144) (.t 150) (.c (.bool false))) 130, Wq 152 130 151]
def A_q38_26 : LA := [Wf 153 1 3, Wl 154 153, Wd 155 3 9, o_ 156 (.bslice 49 3 1 [.int .i32 (0), .nils, .nils] [(0, 3, (.t 155))]), o_ 157 (.app 49 3 56 (.t 154) (.t 156)), Wf 158 1 3, Ws 1 158 157]
def A_q38_27 : LA := [Wi 159 .add 30 1, mv 30 159]
def A_q38_28 : ACode := (.seq (.ops [Wb 31 .lss 30 29]) (.seq (.cond (.t 31) .skip (.exit 0)) (.seq (.block 1 (.seq (.ops A_q38_6) (.seq (.ops A_q38_7) (.seq (.ops A_q38_8) (.seq (.seq (.ops A_q38_9) (.block 2 (.loop A_q38_13))) (.seq (.seq (.ops A_q38_14) (.cond (.t 61) .bad .skip)) (.seq (.ops A_q38_15) (.seq (.seq (.ops A_q38_16) (.block 4 (.loop A_q38_24))) (.seq (.seq (.ops A_q38_25) (.cond (.t 152) .bad .skip)) (.ops A_q38_26)))))))))) (.ops A_q38_27))))
def A_q38_29 : LA := [Wd 160 3 3, Ws 3 2 160]
def A_q38 : ACode := (.seq (.ops [o_ 2 (.box 44 3 (.c (.agg [.str [], .nils, .nils])))]) (.seq (.alts [13, 14, 15, 16, 17, 18, 19, 20, 21, 22, 3] [A_q38_0, A_q38_1, A_q38_2, A_q38_3, A_q38_4]) (.seq (.seq (.ops A_q38_5) (.block 0 (.loop A_q38_28))) (.seq (.ops A_q38_29) .ret))))
def T_q38 : FC := ⟨161, A_q38, [.cella 2 3]⟩
abbrev F_q39 : Nat := 39
def A_q39_0 : LA := [mv 3 0, o_ 4 (.isnilu false (.t 3))]
def A_q39 : ACode := (.seq (.ops [Wn 2]) (.seq (.seq (.ops A_q39_0) (.cond (.t 4) (.seq (.ops [Wn 2]) .ret) .bad)) .bad))
def T_q39 : FC := ⟨8, A_q39, [.tmp 2]⟩
abbrev F_q40 : Nat := 40
def A_q40_0 : LA := [Wn 4, Wn 5]
def A_q40_1 : LA := [mv 12 0, We 13 12, Wm 14 0]
def A_q40_2 : LA := [Wa 16 76 7 12 14, Wd 17 7 16, o_ 8 (.box 76 7 (.c (.agg [.str [], .nils, .nils, .nils, .nils, .nils, .nils]))), Ws 7 8 17]
def A_q40_3 : LA := [mv 18 6, Wd 19 7 8, o_ 20 (.call 88 [(.t 19)]), o_ 21 (.bslice 76 7 1 [.str [], .nils, .nils, .nils, .nils, .nils, .nils] [(0, 7, (.t 20))]), o_ 22 (.app 76 7 160 (.t 18) (.t 21)), mv 6 22]
def A_q40_4 : LA := [Wi 23 .add 14 1, mv 14 23]
def A_q40_5 : ACode := (.seq (.ops [Wb 15 .lss 14 13]) (.seq (.cond (.t 15) .skip (.exit 0)) (.seq (.block 1 (.seq (.ops A_q40_2) (.ops A_q40_3))) (.ops A_q40_4))))
def A_q40_6 : LA := [mv 24 1, We 25 24, Wm 26 0]
def A_q40_7 : ACode := (.seq (.ops [Wb 27 .lss 26 25]) (.seq (.cond (.t 27) .bad (.exit 2)) .bad))
def A_q40_8 : LA := [mv 36 6, mv 37 9, mv 4 36, mv 5 37]
def A_q40 : ACode := (.seq (.ops A_q40_0) (.seq (.ops [Wn 6]) (.seq (.seq (.ops A_q40_1) (.block 0 (.loop A_q40_5))) (.seq (.ops [Wn 9]) (.seq (.seq (.ops A_q40_6) (.block 2 (.loop A_q40_7))) (.seq (.ops A_q40_8) .ret))))))
def T_q40 : FC := ⟨38, A_q40, [.tmp 4, .tmp 5]⟩
abbrev F_q41 : Nat := 41
def A_q41_0 : LA := [mv 4 0, o_ 5 (.call 90 [(.t 4)]), mv 3 5]
def A_q41_1 : LA := [mv 6 3, o_ 7 (.call 31 [(.t 6)])]
def A_q41_2 : LA := [mv 8 3, mv 2 8]
def A_q41 : ACode := (.seq (.ops [Wn 2]) (.seq (.ops A_q41_0) (.seq (.ops A_q41_1) (.seq (.ops A_q41_2) .ret))))
def T_q41 : FC := ⟨9, A_q41, [.tmp 2]⟩
abbrev F_q42 : Nat := 42
def A_q42_0 : LA := [o_ 1 (.box 59 1 (.t 0)), o_ 2 (.mov (.c (.nilf)))]
def A_q42_1 : LA := [o_ 3 (.mkfn 91 [] [(.t 1)]), mv 2 3]
def A_q42 : ACode := (.seq (.ops A_q42_0) (.seq (.ops A_q42_1) .ret))
def T_q42 : FC := ⟨4, A_q42, [.tmp 2]⟩
abbrev F_q43 : Nat := 43
def A_q43 : ACode := (.seq (.recv (some 4) []) (.block 0 (.seq (.ops [o_ 6 (.isnil .ic false (.t 4))]) (.cond (.t 6) (.ops [mv 1 4]) .bad))))
def T_q43 : FC := ⟨12, A_q43, []⟩
abbrev F_q44 : Nat := 44
def A_q44_0 : LA := [Wf 11 0 3, Wl 12 11, Wf 14 0 3, Wl 15 14, o_ 13 (.acall 93 [(.t 12)]), o_ 16 (.acall 92 [(.t 13), (i_ 60), (.t 15)])]
def A_q44_1 : LA := [Wf 17 1 3, Wl 18 17, o_ 19 (.bins .eql (.t 18) (.c (.str []))), mv 20 19, Wh 21 (.faddr 1 (.t 3)) 20, Wh 22 (.ld1 (.t 21)) 20, Wf 25 1 3, Wl 26 25, Wh 23 (.acall 94 [(.t 22)]) 20, Wq 24 20 23, o_ 27 (.acall 92 [(.t 24), (i_ 60), (.t 26)])]
def A_q44_2 : LA := [Wf 28 2 3, Wl 29 28, We 30 29, Wi 31 .leq 30 256, Wf 32 0 3, Wl 33 32, o_ 34 (.call 92 [(.t 31), (i_ 68), (.t 33)])]
def A_q44_3 : LA := [o_ 35 (.mkmap), mv 4 35]
def A_q44_4 : LA := [Wf 36 2 3, Wl 37 36, We 38 37, Wm 39 0]
def A_q44_5 : ACode := (.seq (.ops [Wb 40 .lss 39 38]) (.seq (.cond (.t 40) .bad (.exit 0)) .bad))
def A_q44_6 : LA := [Wf 63 3 3, Wl 64 63, We 65 64, Wm 66 0]
def A_q44_7 : LA := [Wa 68 76 7 64 66, Wd 69 7 68, o_ 8 (.box 76 7 (.c (.agg [.str [], .nils, .nils, .nils, .nils, .nils, .nils]))), Ws 7 8 69]
def A_q44_8 : LA := [mv 70 0, Wd 71 7 8, Wf 72 1 3, Wl 73 72, o_ 74 (.call 95 [(.t 70), (.t 71), (.t 73), (i_ 0)])]
def A_q44_9 : LA := [Wi 75 .add 66 1, mv 66 75]
def A_q44_10 : ACode := (.seq (.ops [Wb 67 .lss 66 65]) (.seq (.cond (.t 67) .skip (.exit 2)) (.seq (.block 3 (.seq (.ops A_q44_7) (.ops A_q44_8))) (.ops A_q44_9))))
def A_q44_11 : LA := [Wf 76 4 3, Wl 77 76, We 78 77, Wm 79 0]
def A_q44_12 : ACode := (.seq (.ops [Wb 80 .lss 79 78]) (.seq (.cond (.t 80) .bad (.exit 4)) .bad))
def A_q44 : ACode := (.seq (.ops [o_ 3 (.box 35 5 (.t 1))]) (.seq (.alts [11, 12, 13, 14, 15, 16] [A_q44_0]) (.seq (.alts [17, 18, 19, 20, 21, 22, 23, 24, 25, 26, 27] [A_q44_1]) (.seq (.ops A_q44_2) (.seq (.ops A_q44_3) (.seq (.seq (.ops A_q44_4) (.block 0 (.loop A_q44_5))) (.seq (.seq (.ops A_q44_6) (.block 2 (.loop A_q44_10))) (.seq (.ops A_q44_11) (.block 4 (.loop A_q44_12))))))))))
def T_q44 : FC := ⟨89, A_q44, []⟩
abbrev F_q45 : Nat := 45
def A_q45_0 : LA := [o_ 1 (.box 9 1 (.t 0)), o_ 2 (.mov (.c (.nilf)))]
def A_q45_1 : LA := [o_ 3 (.mkfn 97 [] [(.t 1)]), mv 2 3]
def A_q45 : ACode := (.seq (.ops A_q45_0) (.seq (.ops A_q45_1) .ret))
def T_q45 : FC := ⟨4, A_q45, [.tmp 2]⟩
abbrev F_q46 : Nat := 46
def A_q46_0 : LA := [mv 10 0, mv 11 1, o_ 12 (.bslice 9 1 2 [.str []] [(0, 1, (.t 10)), (1, 1, (.t 11))]), o_ 13 (.call 47 [(.t 12)]), mv 9 13]
def A_q46_1 : LA := [Wl 14 3, mv 15 9, mv 16 2, Wf 17 0 4, Wl 18 17, o_ 19 (.build [.str [], .int .u8 (0), .str []] [(0, 1, (.t 15)), (1, 1, (.t 16)), (2, 1, (.t 18))]), o_ 20 (.bslice 108 3 1 [.str [], .int .u8 (0), .str []] [(0, 3, (.t 19))]), o_ 21 (.app 108 3 40 (.t 14) (.t 20)), Ws 1 3 21]
def A_q46_2 : LA := [mv 22 9, mv 8 22]
def A_q46 : ACode := (.seq (.ops [o_ 8 (.mov (.c (.str [])))]) (.seq (.ops A_q46_0) (.seq (.ops A_q46_1) (.seq (.ops A_q46_2) .ret))))
def T_q46 : FC := ⟨23, A_q46, [.tmp 8]⟩
abbrev F_q47 : Nat := 47
def A_q47_0 : LA := [mv 6 0, We 7 6, Wm 8 0]
def A_q47_1 : LA := [Wa 10 9 1 6 8, Wl 11 10, mv 5 11]
def A_q47_2 : LA := [mv 12 5, o_ 13 (.bins .neq (.t 12) (.c (.str [])))]
def A_q47_3 : LA := [mv 14 3, mv 15 5, o_ 16 (.bslice 9 1 1 [.str []] [(0, 1, (.t 15))]), o_ 17 (.app 9 1 16 (.t 14) (.t 16)), mv 3 17]
def A_q47_4 : LA := [Wi 18 .add 8 1, mv 8 18]
def A_q47_5 : ACode := (.seq (.ops [Wb 9 .lss 8 7]) (.seq (.cond (.t 9) .skip (.exit 0)) (.seq (.block 1 (.seq (.ops A_q47_1) (.seq (.ops A_q47_2) (.cond (.t 13) (.ops A_q47_3) .skip)))) (.ops A_q47_4))))
def A_q47_6 : LA := [mv 19 3, o_ 20 (.call 99 [(.t 19), (.c (.str [46]))]), mv 2 20]
def A_q47 : ACode := (.seq (.ops [o_ 2 (.mov (.c (.str [])))]) (.seq (.ops [Wn 3]) (.seq (.seq (.ops A_q47_0) (.block 0 (.loop A_q47_5))) (.seq (.ops A_q47_6) .ret))))
def T_q47 : FC := ⟨21, A_q47, [.tmp 2]⟩
abbrev F_q49 : Nat := 49
def A_q49_0 : LA := [Wl 16 2, mv 17 1, Wf 18 0 5, Wl 19 18, o_ 20 (.callv (.t 16) [(.t 17), (.t 19), (.c (.int .u8 1))]), mv 7 20]
def A_q49_1 : LA := [Wf 21 1 5, Wl 22 21, We 23 22, Wm 24 0]
def A_q49_2 : LA := [Wa 26 72 9 22 24, Wd 27 9 26, o_ 9 (.box 72 9 (.c (.agg [.str [], .int .i32 (0), .int .u8 (0), .int .u8 (0), .str [], .int .u8 (0), .int .i64 (0), .int .u8 (0), .str []]))), Ws 9 9 27]
def A_q49_3 : LA := [Wl 28 2, mv 29 7, Wf 30 0 9, Wl 31 30, o_ 32 (.callv (.t 28) [(.t 29), (.t 31), (.c (.int .u8 4))])]
def A_q49_4 : LA := [Wi 33 .add 24 1, mv 24 33]
def A_q49_5 : ACode := (.seq (.ops [Wb 25 .lss 24 23]) (.seq (.cond (.t 25) .skip (.exit 0)) (.seq (.block 1 (.seq (.ops A_q49_2) (.ops A_q49_3))) (.ops A_q49_4))))
def A_q49_6 : LA := [Wf 34 2 5, Wl 35 34, We 36 35, Wm 37 0]
def A_q49_7 : LA := [Wa 39 9 1 35 37, Wl 40 39, mv 11 40]
def A_q49_8 : LA := [Wl 41 2, mv 42 7, mv 43 11, o_ 44 (.callv (.t 41) [(.t 42), (.t 43), (.c (.int .u8 5))])]
def A_q49_9 : LA := [Wi 45 .add 37 1, mv 37 45]
def A_q49_10 : ACode := (.seq (.ops [Wb 38 .lss 37 36]) (.seq (.cond (.t 38) .skip (.exit 2)) (.seq (.block 3 (.seq (.ops A_q49_7) (.ops A_q49_8))) (.ops A_q49_9))))
def A_q49_11 : LA := [Wf 46 3 5, Wl 47 46, We 48 47, Wm 49 0]
def A_q49_12 : ACode := (.seq (.ops [Wb 50 .lss 49 48]) (.seq (.cond (.t 50) .bad (.exit 4)) .bad))
def A_q49_13 : LA := [Wf 58 4 5, Wl 59 58, We 60 59, Wm 61 0]
def A_q49_14 : ACode := (.seq (.ops [Wb 62 .lss 61 60]) (.seq (.cond (.t 62) .bad (.exit 6)) .bad))
def A_q49 : ACode := (.seq (.ops [o_ 5 (.box 76 7 (.t 0))]) (.seq (.ops A_q49_0) (.seq (.seq (.ops A_q49_1) (.block 0 (.loop A_q49_5))) (.seq (.seq (.ops A_q49_6) (.block 2 (.loop A_q49_10))) (.seq (.seq (.ops A_q49_11) (.block 4 (.loop A_q49_12))) (.seq (.ops A_q49_13) (.block 6 (.loop A_q49_14))))))))
def T_q49 : FC := ⟨70, A_q49, []⟩
abbrev F_q50 : Nat := 50
def A_q50_0 : LA := [mv 4 0, mv 5 0, We 6 5, mv 7 1, o_ 8 (.call 100 [(.t 4), (.t 6), (.t 7)])]
def A_q50 : ACode := (.ops A_q50_0)
def T_q50 : FC := ⟨9, A_q50, []⟩
abbrev F_q51 : Nat := 51
def A_q51_0 : LA := [o_ 2 (.box 108 3 (.t 0)), o_ 3 (.box 108 3 (.t 1)), Wm 4 0]
def A_q51_1 : LA := [Wf 5 0 2, Wl 6 5, Wf 7 0 3, Wl 8 7, Wf 10 1 2, Wl 11 10, Wf 12 1 3, Wl 13 12, o_ 9 (.acall 53 [(.t 6), (.t 8)]), o_ 14 (.acall 54 [(.t 11), (.t 13)]), o_ 15 (.bslice 3 1 2 [.int .i64 0] [(0, 1, (.t 9)), (1, 1, (.t 14))]), o_ 16 (.acall 52 [(.t 15)]), mv 4 16]
def A_q51 : ACode := (.seq (.ops A_q51_0) (.seq (.alts [5, 6, 7, 8, 9, 10, 11, 12, 13, 14, 15, 16, 4] [A_q51_1]) .ret))
def T_q51 : FC := ⟨17, A_q51, [.tmp 4]⟩
abbrev F_q52 : Nat := 52
def A_q52_0 : LA := [mv 6 0, We 7 6, Wm 8 0]
def A_q52_1 : LA := [Wa 10 3 1 6 8, Wl 11 10, mv 5 11]
def A_q52_2 : LA := [mv 12 5, mv 13 3, Wb 14 .neq 12 13]
def A_q52_3 : LA := [mv 15 5, mv 2 15]
def A_q52_4 : LA := [Wi 16 .add 8 1, mv 8 16]
def A_q52_5 : ACode := (.seq (.ops [Wb 9 .lss 8 7]) (.seq (.cond (.t 9) .skip .bad) (.seq (.block 1 (.seq (.ops A_q52_1) (.seq (.ops A_q52_2) (.cond (.t 14) (.seq (.ops A_q52_3) .ret) .bad)))) (.ops A_q52_4))))
def A_q52_6 : LA := [mv 17 3, mv 2 17]
def A_q52 : ACode := (.seq (.ops [Wm 2 0]) (.seq (.ops [Wm 3 0]) (.seq (.seq (.ops A_q52_0) (.block 0 (.loop A_q52_5))) (.seq (.ops A_q52_6) .ret))))
def T_q52 : FC := ⟨18, A_q52, [.tmp 2]⟩
abbrev F_q53 : Nat := 53
def A_q53_0 : LA := [mv 7 0, o_ 8 (.call 101 [(.t 7)]), mv 5 8]
def A_q53_1 : LA := [mv 9 1, o_ 10 (.call 101 [(.t 9)]), mv 6 10]
def A_q53_2 : LA := [mv 14 0, mv 15 1, o_ 16 (.bins .lss (.t 14) (.t 15))]
def A_q53_3 : LA := [mv 17 0, mv 18 1, o_ 19 (.bins .gtr (.t 17) (.t 18))]
def A_q53 : ACode := (.seq (.ops [Wm 4 0]) (.seq (.ops A_q53_0) (.seq (.ops A_q53_1) (.seq (.seq (.ops [mv 11 5]) (.cond (.t 11) .bad .skip)) (.seq (.seq (.ops [mv 13 6]) (.cond (.t 13) .bad .skip)) (.seq (.seq (.ops A_q53_2) (.cond (.t 16) (.seq (.ops [Wm 4 (-1)]) .ret) .skip)) (.seq (.seq (.ops A_q53_3) (.cond (.t 19) (.seq (.ops [Wm 4 1]) .ret) .bad)) .bad)))))))
def T_q53 : FC := ⟨20, A_q53, [.tmp 4]⟩
abbrev F_q54 : Nat := 54
def A_q54_0 : LA := [mv 7 0, o_ 8 (.call 102 [(.t 7)]), mv 5 8]
def A_q54_1 : LA := [mv 9 1, o_ 10 (.call 102 [(.t 9)]), mv 6 10]
def A_q54_2 : LA := [mv 14 0, mv 15 1, Wb 16 .lss 14 15]
def A_q54_3 : LA := [mv 17 0, mv 18 1, Wb 19 .gtr 17 18]
def A_q54 : ACode := (.seq (.ops [Wm 4 0]) (.seq (.ops A_q54_0) (.seq (.ops A_q54_1) (.seq (.seq (.ops [mv 11 5]) (.cond (.t 11) .bad .skip)) (.seq (.seq (.ops [mv 13 6]) (.cond (.t 13) .bad .skip)) (.seq (.seq (.ops A_q54_2) (.cond (.t 16) (.seq (.ops [Wm 4 (-1)]) .ret) .skip)) (.seq (.seq (.ops A_q54_3) (.cond (.t 19) (.seq (.ops [Wm 4 1]) .ret) .skip)) (.seq (.ops [Wm 4 0]) .ret))))))))
def T_q54 : FC := ⟨20, A_q54, [.tmp 4]⟩
abbrev F_q55 : Nat := 55
def A_q55_0 : LA := [mv 13 3, Wc 14 13, Wf 15 3 14, Wl 16 15, o_ 17 (.bini .neq (.t 16) (.c (.int .u8 0))), mv 18 17, Wgm 19 3 18, g_ 20 (.nilc (.t 19)) 18, Wgf 21 3 20 18, Wgl 22 21 18, g_ 23 (.bini .neq (.t 22) (.c (.int .u8 11))) 18, Wp 24 18 23, mv 25 24, Wgm 26 3 25, g_ 27 (.nilc (.t 26)) 25, Wgf 28 3 27 25, Wgl 29 28 25, g_ 30 (.bini .neq (.t 29) (.c (.int .u8 14))) 25, Wp 31 25 30]
def A_q55_1 : LA := [mv 32 2, mv 33 3, Wc 34 33, Wf 35 0 34, Wl 36 35, o_ 37 (.bslice 9 1 2 [.str []] [(0, 1, (.t 32)), (1, 1, (.t 36))]), o_ 38 (.call 47 [(.t 37)]), mv 8 38]
def A_q55_2 : LA := [mv 40 0, mv 41 1, mv 42 2, mv 43 3, Wc 44 43, Wf 45 4 44, Wl 46 45, o_ 47 (.call 103 [(.t 40), (.t 41), (.t 42), (.t 46)]), mv 39 47, Wx 48 0 39, Wx 49 1 39, Wx 50 2 39, mv 9 48, mv 10 49, mv 11 50]
def A_q55_3 : LA := [mv 51 11, Wi 52 .neq 51 0]
def A_q55_4 : LA := [mv 56 10, o_ 57 (.bini .eql (.t 56) (.c (.int .u8 2)))]
def A_q55_5 : LA := [mv 58 3, Wc 59 58, Wf 60 3 59, Wl 61 60, o_ 62 (.bini .neq (.t 61) (.c (.int .u8 0))), mv 63 62, Wgm 64 3 63, g_ 65 (.nilc (.t 64)) 63, Wgf 66 3 65 63, Wgl 67 66 63, Wgm 68 12 63, g_ 69 (.bini .neq (.t 67) (.t 68)) 63, Wp 70 63 69, mv 71 70, Whm 72 3 71, Wh 73 (.nilc (.t 72)) 71, Wh 74 (.faddr 7 (.t 73)) 71, Wh 75 (.ld1 (.t 74)) 71, Wh 76 (.bini .eql (.t 75) (.c (.int .u8 1))) 71, Whm 77 76 71, Wgm 78 12 77, g_ 79 (.bini .eql (.t 78) (.c (.int .u8 11))) 77, Wh 80 (.pick (.t 77) (.t 79) (.c (.bool false))) 71, Wq 81 71 80]
def A_q55_6 : LA := [mv 84 3, mv 85 3, mv 86 12, mv 87 9, Wc 88 84, Wf 89 3 88, Ws 1 89 86, Wc 90 85, Wf 91 4 90, Ws 1 91 87]
def A_q55 : ACode := (.seq (.seq (.ops A_q55_0) (.cond (.t 31) .ret .skip)) (.seq (.ops A_q55_1) (.seq (.ops A_q55_2) (.seq (.seq (.ops A_q55_3) (.cond (.t 52) .bad .skip)) (.seq (.ops [o_ 12 (.mov (.c (.int .u8 11)))]) (.seq (.seq (.ops A_q55_4) (.cond (.t 57) .bad .skip)) (.seq (.seq (.ops A_q55_5) (.cond (.t 81) .bad .skip)) (.ops A_q55_6))))))))
def T_q55 : FC := ⟨92, A_q55, []⟩
abbrev F_q56 : Nat := 56
def A_q56_0 : LA := [mv 6 0, We 7 6, Wm 8 0]
def A_q56_1 : ACode := (.seq (.ops [Wb 9 .lss 8 7]) (.seq (.cond (.t 9) .bad (.exit 0)) .bad))
def A_q56 : ACode := (.seq (.ops [Wm 4 0]) (.seq (.seq (.ops A_q56_0) (.block 0 (.loop A_q56_1))) (.seq (.ops [Wm 4 (-1)]) .ret)))
def T_q56 : FC := ⟨19, A_q56, [.tmp 4]⟩
abbrev F_q57 : Nat := 57
def A_q57_0 : LA := [mv 5 0, mv 6 1, o_ 7 (.call 104 [(.t 5), (.t 6)]), Wi 8 .geq 7 0, mv 4 8]
def A_q57 : ACode := (.seq (.ops [Wo 4 false]) (.seq (.ops A_q57_0) .ret))
def T_q57 : FC := ⟨9, A_q57, [.tmp 4]⟩
abbrev F_q58 : Nat := 58
def A_q58_0 : LA := [mv 19 2, mv 20 1, Wb 21 .sub 19 20, mv 10 21]
def A_q58_1 : LA := [mv 22 10, Wi 23 .leq 22 12]
def A_q58_2 : LA := [mv 24 0, mv 25 1, mv 26 2, o_ 27 (.call 105 [(.t 24), (.t 25), (.t 26)])]
def A_q58_3 : ACode := (.block 1 (.seq (.ops A_q58_0) (.seq (.seq (.ops A_q58_1) (.cond (.t 23) (.seq (.ops A_q58_2) .ret) .bad)) .bad)))
def A_q58 : ACode := (.seq (.ops [Wo 8 true]) (.seq (.ops [Wo 9 true]) (.block 0 (.loop A_q58_3))))
def T_q58 : FC := ⟨134, A_q58, []⟩
abbrev F_q59 : Nat := 59
def A_q59_0 : LA := [mv 6 0, o_ 7 (.call 115 [(.t 6)]), mv 2 7]
def A_q59 : ACode := (.seq (.ops [Wm 2 0]) (.seq (.cond (.c (.bool false)) .bad .skip) (.seq (.ops A_q59_0) .ret)))
def T_q59 : FC := ⟨8, A_q59, [.tmp 2]⟩
abbrev F_q60 : Nat := 60
def A_q60_0 : LA := [o_ 3 (.box 44 3 (.t 1)), Wm 4 0, o_ 5 (.mov (.c (.str [])))]
def A_q60_1 : LA := [mv 8 0, o_ 9 (.call 116 []), o_ 10 (.build [.nili, .nilf, .nilf, .nilf, .nilf, .nilf, .nilf, .nilf, .nilf, .nilf, .nilf, .nilf, .nilf, .nilf, .nilf, .nilf, .nilf, .nilf, .nilf, .nilf] [(0, 1, (.t 8)), (1, 19, (.t 9))]), o_ 11 (.box 248 20 (.t 10)), mv 6 11]
def A_q60_2 : LA := [mv 12 6, Wd 13 3 3, o_ 14 (.call 117 [(.t 12), (.t 13), (.c (.str [])), (i_ 1)]), mv 7 14]
def A_q60_3 : LA := [mv 15 7, o_ 16 (.isnil .pt true (.t 15))]
def A_q60_4 : LA := [Wm 4 0, o_ 5 (.mov (.c (.str [])))]
def A_q60 : ACode := (.seq (.ops A_q60_0) (.seq (.ops A_q60_1) (.seq (.seq (.ops A_q60_2) (.seq (.ops A_q60_3) (.cond (.t 16) .bad .skip))) (.seq (.ops A_q60_4) .ret))))
def T_q60 : FC := ⟨25, A_q60, [.tmp 4, .tmp 5]⟩
abbrev F_q61 : Nat := 61
def A_q61_0 : LA := [o_ 3 (.box 44 3 (.t 1)), o_ 4 (.box 44 3 (.c (.agg [.str [], .nils, .nils])))]
def A_q61_1 : LA := [mv 16 0, Wf 17 0 3, Wl 18 17, o_ 19 (.inv [(37, 338)] (.t 16) [(.t 18)]), mv 15 19, Wx 20 0 15, Wx 21 1 15, mv 5 20, mv 6 21]
def A_q61_2 : LA := [Wf 22 0 3, Wl 23 22, Wf 24 2 3, Wl 25 24, o_ 26 (.acall 70 [(.t 25)]), o_ 27 (.build [.str [], .nils, .nils] [(0, 1, (.t 23)), (2, 1, (.t 26))]), o_ 7 (.box 44 3 (.c (.agg [.str [], .nils, .nils]))), Ws 3 7 27]
def A_q61_3 : LA := [Wf 28 1 3, Wl 29 28, We 30 29, Wm 31 0]
def A_q61_4 : ACode := (.seq (.ops [Wb 32 .lss 31 30]) (.seq (.cond (.t 32) .bad (.exit 0)) .bad))
def A_q61_5 : LA := [Wd 86 3 7, Ws 3 4 86]
def A_q61 : ACode := (.seq (.ops A_q61_0) (.seq (.ops A_q61_1) (.seq (.alts [22, 23, 24, 25, 26, 27, 7] [A_q61_2]) (.seq (.seq (.ops A_q61_3) (.block 0 (.loop A_q61_4))) (.seq (.ops A_q61_5) .ret)))))
def T_q61 : FC := ⟨87, A_q61, [.cella 4 3]⟩
abbrev F_q62 : Nat := 62
def A_q62_0 : LA := [o_ 2 (.box 174 9 (.t 0)), Wo 4 false]
def A_q62_1 : LA := [Wf 5 3 2, Wl 6 5, o_ 7 (.bini .eql (.t 6) (.c (.int .u8 4))), mv 8 7, Wgm 9 1 8, g_ 10 (.bini .eql (.t 9) (.c (.int .u8 2))) 8, Wp 11 8 10, mv 4 11]
def A_q62 : ACode := (.seq (.ops A_q62_0) (.seq (.ops A_q62_1) .ret))
def T_q62 : FC := ⟨12, A_q62, [.tmp 4]⟩
abbrev F_q64 : Nat := 64
def A_q64_0 : LA := [o_ 2 (.box 174 9 (.t 0)), Wo 4 false]
def A_q64_1 : LA := [Wf 5 3 2, Wl 6 5, o_ 7 (.bini .neq (.t 6) (.c (.int .u8 4))), mv 8 7, Wgm 9 1 8, Wgf 10 4 2 8, Wgl 11 10 8, g_ 12 (.call 65 [(.t 11)]) 8, g_ 13 (.bini .eql (.t 9) (.t 12)) 8, Wp 14 8 13, mv 4 14]
def A_q64 : ACode := (.seq (.ops A_q64_0) (.seq (.ops A_q64_1) .ret))
def T_q64 : FC := ⟨15, A_q64, [.tmp 4]⟩
abbrev F_q65 : Nat := 65
def A_q65_0 : LA := [o_ 5 (.bini .eql (.t 3) (.c (.int .u8 1))), mv 4 5]
def A_q65_1 : LA := [o_ 6 (.bini .eql (.t 3) (.c (.int .u8 6))), mv 4 6]
def A_q65_2 : LA := [o_ 7 (.bini .eql (.t 3) (.c (.int .u8 16))), mv 4 7]
def A_q65_3 : LA := [o_ 9 (.bini .eql (.t 3) (.c (.int .u8 2))), mv 8 9]
def A_q65_4 : LA := [o_ 10 (.bini .eql (.t 3) (.c (.int .u8 7))), mv 8 10]
def A_q65_5 : LA := [o_ 11 (.bini .eql (.t 3) (.c (.int .u8 15))), mv 8 11]
def A_q65_6 : LA := [o_ 13 (.bini .eql (.t 3) (.c (.int .u8 9))), mv 12 13]
def A_q65_7 : LA := [o_ 14 (.bini .eql (.t 3) (.c (.int .u8 12))), mv 12 14]
def A_q65_8 : LA := [o_ 15 (.bini .eql (.t 3) (.c (.int .u8 11))), mv 12 15]
def A_q65 : ACode := (.seq (.ops [o_ 2 (.mov (.c (.int .u8 0)))]) (.seq (.seq (.ops [mv 3 0]) (.block 0 (.seq (.seq (.ops A_q65_0) (.cond (.t 4) .bad (.seq (.ops A_q65_1) (.cond (.t 4) .bad (.ops A_q65_2))))) (.cond (.t 4) .bad (.seq (.seq (.ops A_q65_3) (.cond (.t 8) .bad (.seq (.ops A_q65_4) (.cond (.t 8) .bad (.ops A_q65_5))))) (.cond (.t 8) .bad (.seq (.seq (.ops A_q65_6) (.cond (.t 12) .bad (.seq (.ops A_q65_7) (.cond (.t 12) .bad (.ops A_q65_8))))) (.cond (.t 12) (.seq (.ops [o_ 2 (.mov (.c (.int .u8 2)))]) .ret) .skip)))))))) (.seq (.ops [o_ 2 (.mov (.c (.int .u8 0)))]) .ret)))
def T_q65 : FC := ⟨16, A_q65, [.tmp 2]⟩
abbrev F_q66 : Nat := 66
def A_q66_0 : LA := [Wf 15 4 8, Wl 16 15, o_ 17 (.bini .eql (.t 16) (.c (.int .u8 11)))]
def A_q66_1 : LA := [mv 18 0, Wf 19 8 8, Wl 20 19, mv 21 4, mv 22 5, o_ 23 (.call 123 [(.t 18), (.t 20), (.t 21), (.t 22)]), Wf 24 3 12, Ws 1 24 23]
def A_q66_2 : LA := [mv 25 1, Wc 26 25, Wf 27 1 26, Wl 28 27, Wf 29 0 8, Wl 30 29, o_ 31 (.mlook .i (.nilp) false (.t 28) (.t 30)), mv 13 31]
def A_q66_3 : LA := [mv 32 13, o_ 33 (.isnil .pt true (.t 32)), mv 34 33, Wgf 35 3 8 34, Wgl 36 35 34, g_ 37 (.bini .neq (.t 36) (.c (.int .u8 3))) 34, Wp 38 34 37]
def A_q66_4 : LA := [mv 39 13, Wc 40 39, Wf 41 10 40, Wl 42 41, o_ 43 (.iaddr 199 4 (.t 42) (i_ 0)), Wf 44 3 43, Wl 45 44, Wf 46 3 12, Ws 1 46 45]
def A_q66_5 : LA := [mv 47 0, Wf 48 3 12, mv 50 3, mv 52 4, Wi 53 .add 52 1, Wl 49 48, o_ 51 (.call 124 [(.t 50)]), o_ 54 (.call 36 [(.t 47), (.t 49), (.t 51), (.t 53)])]
def A_q66_6 : LA := [mv 47 0, Wf 48 3 12, mv 50 3, mv 52 4, Wi 53 .add 52 1, o_ 51 (.call 124 [(.t 50)]), Wl 49 48, o_ 54 (.call 36 [(.t 47), (.t 49), (.t 51), (.t 53)])]
def A_q66_7 : LA := [Wf 55 4 8, Wl 56 55, mv 57 3, o_ 58 (.call 125 [(.t 56), (.t 57)]), Wf 59 0 12, Ws 3 59 58]
def A_q66_8 : LA := [Wf 60 7 8, Wl 61 60, Wi 62 .neq 61 0]
def A_q66_9 : LA := [mv 63 1, Wc 64 63, Wf 65 1 64, Wl 66 65, o_ 67 (.mkfn 127 [] [(.t 8)]), o_ 68 (.call 126 [(.t 66), (.t 67)])]
def A_q66_10 : LA := [mv 69 1, Wd 70 9 8, o_ 71 (.call 72 [(.t 69), (.t 70)]), mv 14 71]
def A_q66_11 : LA := [Wf 72 3 8, Wl 73 72, o_ 74 (.bini .neq (.t 73) (.c (.int .u8 3)))]
def A_q66_12 : LA := [mv 75 14, Wc 76 75, Wf 77 10 76, n_ (.st 1 (.t 77) (.c (.nils)))]
def A_q66_13 : LA := [mv 78 14, mv 79 14, Wc 80 79, Wf 81 10 80, Wl 82 81, Wd 83 4 12, o_ 84 (.bslice 199 4 1 [.int .u64 (0), .str [], .nils, .nilp] [(0, 4, (.t 83))]), o_ 85 (.app 199 4 56 (.t 82) (.t 84)), Wc 86 78, Wf 87 10 86, Ws 1 87 85]
def A_q66 : ACode := (.seq (.ops [o_ 8 (.box 174 9 (.t 2))]) (.seq (.ops [o_ 12 (.box 199 4 (.c (.agg [.int .u64 (0), .str [], .nils, .nilp])))]) (.seq (.seq (.ops A_q66_0) (.cond (.t 17) (.seq (.ops A_q66_1) (.seq (.seq (.alts [25, 26, 27, 28, 29, 30, 31, 13] [A_q66_2]) (.seq (.ops A_q66_3) (.cond (.t 38) (.ops A_q66_4) .skip))) (.alts [47, 48, 49, 50, 51, 52, 53, 54] [A_q66_5, A_q66_6]))) (.ops A_q66_7))) (.seq (.seq (.ops A_q66_8) (.cond (.t 62) (.ops A_q66_9) .skip)) (.seq (.ops A_q66_10) (.seq (.seq (.ops A_q66_11) (.cond (.t 74) (.ops A_q66_12) .bad)) (.alts [78, 79, 80, 81, 82, 83, 84, 85, 86, 87] [A_q66_13])))))))
def T_q66 : FC := ⟨88, A_q66, []⟩
abbrev F_q67 : Nat := 67
def A_q67_0 : LA := [o_ 2 (.box 174 9 (.t 0)), Wo 4 false]
def A_q67_1 : LA := [Wf 5 3 2, Wl 6 5, o_ 7 (.bini .eql (.t 6) (.c (.int .u8 3))), mv 8 7, Wgm 9 1 8, g_ 10 (.bini .eql (.t 9) (.c (.int .u8 2))) 8, Wp 11 8 10, mv 4 11]
def A_q67 : ACode := (.seq (.ops A_q67_0) (.seq (.ops A_q67_1) .ret))
def T_q67 : FC := ⟨12, A_q67, [.tmp 4]⟩
abbrev F_q68 : Nat := 68
def A_q68_0 : LA := [mv 15 3, o_ 16 (.call 124 [(.t 15)]), mv 12 16]
def A_q68_1 : LA := [mv 17 12, o_ 18 (.call 74 [(.t 17)]), Wi 19 .gtr 18 0]
def A_q68_2 : LA := [Wf 20 4 8, Wl 21 20, mv 22 12, o_ 23 (.call 128 [(.t 21), (.t 22)]), o_ 13 (.box 52 3 (.c (.agg [.int .u64 (0), .str [], .nils]))), Ws 3 13 23]
def A_q68_3 : LA := [mv 24 1, Wd 25 9 8, o_ 26 (.call 72 [(.t 24), (.t 25)]), mv 14 26]
def A_q68_4 : LA := [mv 27 14, mv 28 14, Wc 29 28, Wf 30 10 29, Wl 31 30, Wd 32 3 13, o_ 33 (.build [.int .u64 (0), .str [], .nils, .nilp] [(0, 3, (.t 32))]), o_ 34 (.bslice 199 4 1 [.int .u64 (0), .str [], .nils, .nilp] [(0, 4, (.t 33))]), o_ 35 (.app 199 4 56 (.t 31) (.t 34)), Wc 36 27, Wf 37 10 36, Ws 1 37 35]
def A_q68_5 : ACode := (.seq (.seq (.ops A_q68_1) (.cond (.t 19) .skip (.exit 0))) (.block 1 (.seq (.ops A_q68_2) (.seq (.ops A_q68_3) (.alts [27, 28, 29, 30, 31, 32, 33, 34, 35, 36, 37] [A_q68_4])))))
def A_q68 : ACode := (.seq (.ops [o_ 8 (.box 174 9 (.t 2))]) (.seq (.ops A_q68_0) (.block 0 (.loop A_q68_5))))
def T_q68 : FC := ⟨38, A_q68, []⟩
abbrev F_q69 : Nat := 69
def A_q69_0 : LA := [mv 10 0, Wc 11 10, Wf 12 0 11, Wl 13 12, mv 14 1, o_ 15 (.inv [(37, 338)] (.t 13) [(.t 14)]), mv 9 15, Wx 16 0 9, Wx 17 1 9, mv 7 16, mv 8 17]
def A_q69_1 : LA := [mv 18 8, Wi 19 .neq 18 0]
def A_q69_2 : LA := [mv 24 7, o_ 25 (.mkmap), o_ 26 (.build [.nilp, .nilm, .nils] [(0, 1, (.t 24)), (1, 1, (.t 25))]), o_ 27 (.box 186 3 (.t 26)), mv 6 27]
def A_q69 : ACode := (.seq (.ops [o_ 6 (.mov (.c (.nilp)))]) (.seq (.ops A_q69_0) (.seq (.seq (.ops A_q69_1) (.cond (.t 19) .bad .skip)) (.seq (.ops A_q69_2) .ret))))
def T_q69 : FC := ⟨28, A_q69, [.tmp 6]⟩
abbrev F_q70 : Nat := 70
def A_q70_0 : LA := [mv 3 0, o_ 4 (.isnilu false (.t 3))]
def A_q70_1 : LA := [o_ 5 (.bslice0 5), mv 6 0, o_ 7 (.app 5 1 1 (.t 5) (.t 6)), mv 2 7]
def A_q70 : ACode := (.seq (.ops [Wn 2]) (.seq (.seq (.ops A_q70_0) (.cond (.t 4) (.seq (.ops [Wn 2]) .ret) .skip)) (.seq (.ops A_q70_1) .ret)))
def T_q70 : FC := ⟨8, A_q70, [.tmp 2]⟩
abbrev F_q71 : Nat := 71
def A_q71_0 : LA := [o_ 4 (.box 174 9 (.c (.agg [.int .i32 (0), .str [], .str [], .int .u8 (0), .int .u8 (0), .int .u8 (0), .bool false, .int .i64 (0), .str []]))), Wo 5 false]
def A_q71_1 : LA := [mv 9 0, Wc 10 9, Wf 11 3 10, Wl 12 11, mv 13 1, o_ 14 (.mlook .i (.int .i64 0) true (.t 12) (.t 13)), mv 8 14, Wx 15 0 8, Wx 16 1 8, mv 6 15, mv 7 16]
def A_q71_2 : LA := [mv 17 0, mv 18 6, mv 19 7, o_ 20 (.call 129 [(.t 17), (.t 18), (.t 19)]), Wx 21 0 20, Wx 22 1 20, Ws 9 4 21, mv 5 22]
def A_q71 : ACode := (.seq (.ops A_q71_0) (.seq (.ops A_q71_1) (.seq (.ops A_q71_2) .ret)))
def T_q71 : FC := ⟨23, A_q71, [.cella 4 9, .tmp 5]⟩
abbrev F_q72 : Nat := 72
def A_q72_0 : LA := [o_ 3 (.box 174 9 (.t 1)), o_ 4 (.mov (.c (.nilp)))]
def A_q72_1 : LA := [mv 6 0, Wc 7 6, Wf 8 1 7, Wl 9 8, Wf 10 0 3, Wl 11 10, o_ 12 (.mlook .i (.nilp) false (.t 9) (.t 11)), mv 5 12]
def A_q72_2 : LA := [mv 13 5, o_ 14 (.isnil .pt false (.t 13))]
def A_q72_3 : LA := [Wd 15 9 3, o_ 16 (.mkmap), o_ 17 (.build [.int .i32 (0), .str [], .str [], .int .u8 (0), .int .u8 (0), .int .u8 (0), .bool false, .int .i64 (0), .str [], .nils, .nils, .nilm] [(0, 9, (.t 15)), (11, 1, (.t 16))]), o_ 18 (.box 195 12 (.t 17)), mv 5 18]
def A_q72_4 : LA := [mv 19 0, Wc 20 19, Wf 21 1 20, Wl 22 21, Wf 23 0 3, Wl 24 23, mv 25 5, n_ (.mupd .i (.t 22) (.t 24) (.t 25))]
def A_q72_5 : LA := [mv 26 5, mv 4 26]
def A_q72 : ACode := (.seq (.ops A_q72_0) (.seq (.alts [6, 7, 8, 9, 10, 11, 12, 5] [A_q72_1]) (.seq (.seq (.ops A_q72_2) (.cond (.t 14) (.seq (.ops A_q72_3) (.alts [19, 20, 21, 22, 23, 24, 25] [A_q72_4])) .skip)) (.seq (.ops A_q72_5) .ret))))
def T_q72 : FC := ⟨27, A_q72, [.tmp 4]⟩
abbrev F_q74 : Nat := 74
def A_q74_0 : LA := [mv 3 0, Wc 4 3, Wf 5 3 4, Wl 6 5, Wi 7 .neq 6 0]
def A_q74_1 : LA := [mv 8 0, Wc 9 8, Wf 10 2 9, Wl 11 10, mv 12 0, Wc 13 12, Wf 14 1 13, Wl 15 14, Wb 16 .sub 11 15, mv 2 16]
def A_q74 : ACode := (.seq (.ops [Wm 2 0]) (.seq (.seq (.ops A_q74_0) (.cond (.t 7) .bad .skip)) (.seq (.alts [8, 9, 10, 11, 12, 13, 14, 15, 16, 2] [A_q74_1]) .ret)))
def T_q74 : FC := ⟨17, A_q74, [.tmp 2]⟩
abbrev F_q75 : Nat := 75
def A_q75_0 : LA := [o_ 2 (.mov (.c (.int .i32 0))), o_ 3 (.mov (.c (.int .u8 0))), Wm 4 0]
def A_q75_1 : LA := [mv 8 0, o_ 9 (.call 80 [(.t 8)]), mv 5 9]
def A_q75_2 : LA := [mv 11 0, o_ 12 (.call 130 [(.t 11)]), mv 10 12, Wx 13 0 10, Wx 14 1 10, mv 6 13, mv 7 14]
def A_q75_3 : LA := [mv 15 0, o_ 16 (.call 79 [(.t 15)])]
def A_q75_4 : LA := [mv 17 7, o_ 18 (.bini .eql (.t 17) (.c (.int .u8 4)))]
def A_q75_5 : LA := [mv 22 6, mv 23 7, mv 24 5, mv 2 22, mv 3 23, mv 4 24]
def A_q75 : ACode := (.seq (.ops A_q75_0) (.seq (.ops A_q75_1) (.seq (.ops A_q75_2) (.seq (.ops A_q75_3) (.seq (.seq (.ops A_q75_4) (.cond (.t 18) .bad .skip)) (.seq (.ops A_q75_5) .ret))))))
def T_q75 : FC := ⟨25, A_q75, [.tmp 2, .tmp 3, .tmp 4]⟩
abbrev F_q76 : Nat := 76
def A_q76_0 : LA := [mv 6 0, We 7 6, Wm 8 0]
def A_q76_1 : LA := [mv 10 8, mv 5 10]
def A_q76_2 : LA := [mv 11 1, mv 12 0, mv 13 5, Wa 14 180 2 12 13, Wd 15 2 14, o_ 16 (.callv (.t 11) [(.t 15)])]
def A_q76_3 : LA := [mv 17 5, mv 4 17]
def A_q76_4 : LA := [Wi 18 .add 8 1, mv 8 18]
def A_q76_5 : ACode := (.seq (.ops [Wb 9 .lss 8 7]) (.seq (.cond (.t 9) .skip .bad) (.seq (.block 1 (.seq (.ops A_q76_1) (.seq (.ops A_q76_2) (.cond (.t 16) (.seq (.ops A_q76_3) .ret) .skip)))) (.ops A_q76_4))))
def A_q76 : ACode := (.seq (.ops [Wm 4 0]) (.seq (.seq (.ops A_q76_0) (.block 0 (.loop A_q76_5))) (.seq (.ops [Wm 4 (-1)]) .ret)))
def T_q76 : FC := ⟨19, A_q76, [.tmp 4]⟩
abbrev F_q77 : Nat := 77
def A_q77_0 : LA := [o_ 3 (.box 180 2 (.t 0)), Wo 4 false]
def A_q77_1 : LA := [Wf 5 0 3, Wl 6 5, Wd 7 9 1, Wl 8 2, o_ 9 (.callv (.t 6) [(.t 7), (.t 8)]), mv 4 9]
def A_q77 : ACode := (.seq (.ops A_q77_0) (.seq (.ops A_q77_1) .ret))
def T_q77 : FC := ⟨10, A_q77, [.tmp 4]⟩
abbrev F_q79 : Nat := 79
def A_q79_0 : LA := [mv 5 0, o_ 6 (.call 133 [(.t 5)]), mv 4 6, Wx 7 0 4, Wx 8 1 4, mv 2 7, mv 3 8]
def A_q79_1 : LA := [mv 9 2, Wi 10 .neq 9 0]
def A_q79_2 : LA := [mv 11 2, mv 12 3, o_ 13 (.build [.int .i64 (0), .int .i64 0] [(0, 1, (.t 11)), (1, 1, (.t 12))]), o_ 14 (.mkifc 121 (.t 13)), n_ (.pan (.t 14))]
def A_q79 : ACode := (.seq (.ops A_q79_0) (.seq (.ops A_q79_1) (.cond (.t 10) (.ops A_q79_2) .skip)))
def T_q79 : FC := ⟨15, A_q79, []⟩
abbrev F_q80 : Nat := 80
def A_q80_0 : LA := [mv 3 0, Wc 4 3, Wf 5 1 4, Wl 6 5, mv 2 6]
def A_q80 : ACode := (.seq (.ops [Wm 2 0]) (.seq (.ops A_q80_0) .ret))
def T_q80 : FC := ⟨7, A_q80, [.tmp 2]⟩
abbrev F_q81 : Nat := 81
def A_q81_0 : LA := [mv 3 0, Wc 4 3, Wf 5 0 4, Wl 6 5, mv 2 6]
def A_q81 : ACode := (.seq (.ops [o_ 2 (.mov (.c (.str [])))]) (.seq (.ops A_q81_0) .ret))
def T_q81 : FC := ⟨7, A_q81, [.tmp 2]⟩
abbrev F_q82 : Nat := 82
def A_q82_0 : LA := [mv 4 0, o_ 5 (.call 134 [(.t 4)]), mv 3 5]
def A_q82_1 : LA := [mv 6 3, o_ 7 (.call 135 [(.t 6)])]
def A_q82_2 : LA := [mv 8 3, mv 2 8]
def A_q82 : ACode := (.seq (.ops [Wn 2]) (.seq (.ops A_q82_0) (.seq (.ops A_q82_1) (.seq (.ops A_q82_2) .ret))))
def T_q82 : FC := ⟨9, A_q82, [.tmp 2]⟩
abbrev F_q83 : Nat := 83
def A_q83_0 : LA := [o_ 1 (.box 184 1 (.t 0)), o_ 2 (.mov (.c (.nilf)))]
def A_q83_1 : LA := [o_ 3 (.mkfn 136 [] [(.t 1)]), mv 2 3]
def A_q83 : ACode := (.seq (.ops A_q83_0) (.seq (.ops A_q83_1) .ret))
def T_q83 : FC := ⟨4, A_q83, [.tmp 2]⟩
abbrev F_q87 : Nat := 87
def A_q87_0 : LA := [o_ 1 (.box 174 9 (.t 0)), Wo 2 false]
def A_q87_1 : LA := [Wf 3 3 1, Wl 4 3, o_ 5 (.bini .eql (.t 4) (.c (.int .u8 1))), mv 6 5, Wgf 7 4 1 6, Wgl 8 7 6, g_ 9 (.bini .neq (.t 8) (.c (.int .u8 11))) 6, Wp 10 6 9, mv 11 10, Wgf 12 7 1 11, Wgl 13 12 11, g_ 14 (.bini .eql (.t 13) (i_ 0)) 11, Wp 15 11 14, mv 2 15]
def A_q87 : ACode := (.seq (.ops A_q87_0) (.seq (.ops A_q87_1) .ret))
def T_q87 : FC := ⟨16, A_q87, [.tmp 2]⟩
abbrev F_q88 : Nat := 88
def A_q88_0 : LA := [o_ 1 (.box 76 7 (.t 0)), o_ 2 (.box 76 7 (.c (.agg [.str [], .nils, .nils, .nils, .nils, .nils, .nils])))]
def A_q88_1 : LA := [Wf 3 1 1, Wl 4 3, o_ 5 (.call 139 [(.t 4)]), Wf 6 1 1, Ws 1 6 5]
def A_q88_2 : LA := [Wf 7 2 1, Wl 8 7, o_ 9 (.call 140 [(.t 8)]), Wf 10 2 1, Ws 1 10 9]
def A_q88_3 : LA := [Wf 11 5 1, Wl 12 11, o_ 13 (.call 141 [(.t 12)]), Wf 14 5 1, Ws 1 14 13]
def A_q88_4 : LA := [Wf 15 6 1, Wl 16 15, o_ 17 (.call 140 [(.t 16)]), Wf 18 6 1, Ws 1 18 17]
def A_q88_5 : LA := [Wf 20 3 1, Wl 21 20, Wf 22 4 1, Wl 23 22, o_ 24 (.call 40 [(.t 21), (.t 23)]), mv 19 24, Wx 25 0 19, Wx 26 1 19, Wf 27 3 1, Ws 1 27 25, Wf 28 4 1, Ws 1 28 26]
def A_q88_6 : LA := [Wd 29 7 1, Ws 7 2 29]
def A_q88 : ACode := (.seq (.ops A_q88_0) (.seq (.ops A_q88_1) (.seq (.ops A_q88_2) (.seq (.ops A_q88_3) (.seq (.ops A_q88_4) (.seq (.ops A_q88_5) (.seq (.ops A_q88_6) .ret)))))))
def T_q88 : FC := ⟨30, A_q88, [.cella 2 7]⟩
abbrev F_q90 : Nat := 90
def A_q90_0 : LA := [mv 3 0, o_ 4 (.call 143 [(.c (.nils)), (.t 3)]), mv 2 4]
def A_q90 : ACode := (.seq (.ops [Wn 2]) (.seq (.ops A_q90_0) .ret))
def T_q90 : FC := ⟨5, A_q90, [.tmp 2]⟩
abbrev F_q91 : Nat := 91
def A_q91_0 : LA := [Wl 4 1, o_ 5 (.rngm (.t 4))]
def A_q91_1 : LA := [o_ 6 (.nxm (.t 5)), Wx 7 0 6]
def A_q91_2 : LA := [o_ 8 (.entr (.t 5)), Wx 9 0 8, mv 3 9]
def A_q91_3 : LA := [mv 10 0, mv 11 3, o_ 12 (.callv (.t 10) [(.t 11)]), o_ 13 (.not (.t 12))]
def A_q91_4 : ACode := (.seq (.ops A_q91_1) (.seq (.cond (.t 7) .skip (.exit 0)) (.block 1 (.seq (.ops A_q91_2) (.seq (.ops A_q91_3) (.cond (.t 13) .bad .skip))))))
def A_q91 : ACode := (.seq (.ops A_q91_0) (.block 0 (.loop A_q91_4)))
def T_q91 : FC := ⟨14, A_q91, []⟩
abbrev F_q92 : Nat := 92
def A_q92_0 : LA := [mv 6 0, o_ 7 (.not (.t 6))]
def A_q92 : ACode := (.seq (.ops A_q92_0) (.cond (.t 7) .bad .skip))
def T_q92 : FC := ⟨13, A_q92, []⟩
abbrev F_q93 : Nat := 93
def A_q93_0 : LA := [mv 5 0, o_ 6 (.bins .eql (.t 5) (.c (.str []))), mv 7 6, Whm 8 0 7, Wh 9 (.lens (.t 8)) 7, Wh 10 (.bini .gtr (.t 9) (i_ 255)) 7, Wq 11 7 10]
def A_q93_1 : LA := [mv 12 0, o_ 13 (.lens (.t 12)), Wm 14 0]
def A_q93_2 : LA := [mv 16 14, mv 3 16]
def A_q93_3 : LA := [mv 17 0, mv 18 3, o_ 19 (.idxs (.t 17) (.t 18)), mv 4 19]
def A_q93_4 : LA := [mv 20 4, o_ 21 (.bini .lss (.t 20) (.c (.int .u8 33))), mv 22 21, Whm 23 4 22, Wh 24 (.bini .gtr (.t 23) (.c (.int .u8 126))) 22, Wq 25 22 24, mv 26 25, Whm 27 4 26, Wh 28 (.bini .eql (.t 27) (.c (.int .u8 34))) 26, Wq 29 26 28, mv 30 29, Whm 31 4 30, Wh 32 (.bini .eql (.t 31) (.c (.int .u8 92))) 30, Wq 33 30 32]
def A_q93_5 : LA := [Wi 34 .add 14 1, mv 14 34]
def A_q93_6 : ACode := (.seq (.ops [Wb 15 .lss 14 13]) (.seq (.cond (.t 15) .skip (.exit 0)) (.seq (.block 1 (.seq (.ops A_q93_2) (.seq (.ops A_q93_3) (.seq (.ops A_q93_4) (.cond (.t 33) .bad .skip))))) (.ops A_q93_5))))
def A_q93 : ACode := (.seq (.ops [Wo 2 false]) (.seq (.seq (.ops A_q93_0) (.cond (.t 11) .bad .skip)) (.seq (.seq (.ops A_q93_1) (.block 0 (.loop A_q93_6))) (.seq (.ops [Wo 2 true]) .ret))))
def T_q93 : FC := ⟨35, A_q93, [.tmp 2]⟩
abbrev F_q94 : Nat := 94
def A_q94_0 : LA := [mv 5 0, o_ 6 (.lens (.t 5)), Wi 7 .gtr 6 255]
def A_q94_1 : LA := [mv 8 0, o_ 9 (.call 144 [(.t 8), (.c (.str [46]))]), We 10 9, Wm 11 0]
def A_q94_2 : LA := [Wa 13 9 1 9 11, Wl 14 13, mv 4 14]
def A_q94_3 : LA := [mv 15 4, o_ 16 (.call 145 [(.t 15)]), o_ 17 (.not (.t 16))]
def A_q94_4 : LA := [Wi 18 .add 11 1, mv 11 18]
def A_q94_5 : ACode := (.seq (.ops [Wb 12 .lss 11 10]) (.seq (.cond (.t 12) .skip (.exit 0)) (.seq (.block 1 (.seq (.ops A_q94_2) (.seq (.ops A_q94_3) (.cond (.t 17) .bad .skip)))) (.ops A_q94_4))))
def A_q94 : ACode := (.seq (.ops [Wo 2 false]) (.seq (.seq (.ops A_q94_0) (.cond (.t 7) .bad .skip)) (.seq (.seq (.ops A_q94_1) (.block 0 (.loop A_q94_5))) (.seq (.ops [Wo 2 true]) .ret))))
def T_q94 : FC := ⟨19, A_q94, [.tmp 2]⟩
abbrev F_q95 : Nat := 95
def A_q95_0 : LA := [mv 17 2, Wf 18 0 5, Wl 19 18, o_ 20 (.bslice 9 1 2 [.str []] [(0, 1, (.t 17)), (1, 1, (.t 19))]), o_ 21 (.call 47 [(.t 20)]), mv 8 21]
def A_q95_1 : LA := [mv 22 0, Wf 23 0 5, Wl 24 23, mv 25 8, o_ 26 (.call 146 [(.t 22), (.t 24), (.t 25)])]
def A_q95_2 : LA := [mv 27 3, Wi 28 .lss 27 16, mv 29 28, Wgf 30 1 5 29, Wgl 31 30 29, g_ 32 (.lenl (.t 31)) 29, g_ 33 (.bini .leq (.t 32) (i_ 1000)) 29, Wp 34 29 33, mv 35 8, o_ 36 (.call 92 [(.t 34), (i_ 68), (.t 35)])]
def A_q95_3 : LA := [Wf 37 5 5, Wl 38 37, mv 39 8, o_ 40 (.call 147 [(.t 38), (.c (.int .i32 1)), (.c (.int .i32 536870911)), (.t 39)])]
def A_q95_4 : LA := [Wf 41 6 5, Wl 42 41, mv 43 8, o_ 44 (.call 148 [(.t 42), (.t 43)])]
def A_q95_5 : LA := [Wf 45 1 5, Wl 46 45, We 47 46, Wm 48 0]
def A_q95_6 : LA := [mv 50 48, mv 9 50]
def A_q95_7 : LA := [mv 51 0, Wd 52 7 5, mv 53 9, mv 54 8, o_ 55 (.call 149 [(.t 51), (.t 52), (.t 53), (.t 54)])]
def A_q95_8 : LA := [Wi 56 .add 48 1, mv 48 56]
def A_q95_9 : ACode := (.seq (.ops [Wb 49 .lss 48 47]) (.seq (.cond (.t 49) .skip (.exit 0)) (.seq (.block 1 (.seq (.ops A_q95_6) (.ops A_q95_7))) (.ops A_q95_8))))
def A_q95_10 : LA := [Wf 57 2 5, Wl 58 57, We 59 58, Wm 60 0]
def A_q95_11 : LA := [mv 62 60, Wa 63 9 1 58 60, Wl 64 63, o_ 10 (.box 3 1 (i_ 0)), Ws 1 10 62, mv 11 64]
def A_q95_12 : LA := [mv 65 8, mv 66 11, o_ 67 (.bslice 9 1 2 [.str []] [(0, 1, (.t 65)), (1, 1, (.t 66))]), o_ 68 (.call 47 [(.t 67)]), mv 12 68]
def A_q95_13 : LA := [mv 69 0, mv 70 11, mv 71 12, o_ 72 (.call 146 [(.t 69), (.t 70), (.t 71)])]
def A_q95_14 : LA := [Wf 73 1 5, Wl 74 73, o_ 75 (.mkfn 151 [] [(.t 10)]), o_ 76 (.call 150 [(.t 74), (.t 75)]), mv 77 12, o_ 78 (.call 92 [(.t 76), (i_ 64), (.t 77)])]
def A_q95_15 : LA := [Wi 79 .add 60 1, mv 60 79]
def A_q95_16 : ACode := (.seq (.ops [Wb 61 .lss 60 59]) (.seq (.cond (.t 61) .skip (.exit 2)) (.seq (.block 3 (.seq (.ops A_q95_11) (.seq (.ops A_q95_12) (.seq (.ops A_q95_13) (.ops A_q95_14))))) (.ops A_q95_15))))
def A_q95_17 : LA := [Wf 80 3 5, Wl 81 80, We 82 81, Wm 83 0]
def A_q95_18 : ACode := (.seq (.ops [Wb 84 .lss 83 82]) (.seq (.cond (.t 84) .bad (.exit 4)) .bad))
def A_q95_19 : LA := [Wf 94 4 5, Wl 95 94, We 96 95, Wm 97 0]
def A_q95_20 : ACode := (.seq (.ops [Wb 98 .lss 97 96]) (.seq (.cond (.t 98) .bad (.exit 6)) .bad))
def A_q95 : ACode := (.seq (.ops [o_ 5 (.box 76 7 (.t 1))]) (.seq (.ops A_q95_0) (.seq (.ops A_q95_1) (.seq (.ops A_q95_2) (.seq (.ops A_q95_3) (.seq (.ops A_q95_4) (.seq (.seq (.ops A_q95_5) (.block 0 (.loop A_q95_9))) (.seq (.seq (.ops A_q95_10) (.block 2 (.loop A_q95_16))) (.seq (.seq (.ops A_q95_17) (.block 4 (.loop A_q95_18))) (.seq (.ops A_q95_19) (.block 6 (.loop A_q95_20))))))))))))
def T_q95 : FC := ⟨106, A_q95, []⟩
abbrev F_q97 : Nat := 97
def A_q97_0 : LA := [Wl 4 1, mv 3 4]
def A_q97_1 : LA := [mv 5 0, mv 6 3, o_ 7 (.callv (.t 5) [(.t 6)]), mv 8 7, Wgm 9 3 8, g_ 10 (.bins .neq (.t 9) (.c (.str []))) 8, Wp 11 8 10]
def A_q97_2 : LA := [mv 13 3, o_ 14 (.call 98 [(.t 13)]), mv 12 14, Wx 15 0 12, Wx 16 1 12, mv 3 15]
def A_q97_3 : ACode := (.seq (.seq (.ops A_q97_1) (.cond (.t 11) .skip (.exit 0))) (.block 1 (.ops A_q97_2)))
def A_q97 : ACode := (.seq (.ops A_q97_0) (.block 0 (.loop A_q97_3)))
def T_q97 : FC := ⟨17, A_q97, []⟩
abbrev F_q98 : Nat := 98
def A_q98_0 : LA := [o_ 2 (.mov (.c (.str []))), o_ 3 (.mov (.c (.str [])))]
def A_q98_1 : LA := [mv 5 0, o_ 6 (.call 155 [(.t 5), (.c (.int .u8 46))]), mv 4 6]
def A_q98_2 : LA := [mv 7 4, Wi 8 .lss 7 0]
def A_q98_3 : LA := [mv 9 0, o_ 2 (.mov (.c (.str []))), mv 3 9]
def A_q98 : ACode := (.seq (.ops A_q98_0) (.seq (.ops A_q98_1) (.seq (.seq (.ops A_q98_2) (.cond (.t 8) (.seq (.ops A_q98_3) .ret) .bad)) .bad)))
def T_q98 : FC := ⟨17, A_q98, [.tmp 2, .tmp 3]⟩
abbrev F_q99 : Nat := 99
def A_q99_0 : LA := [mv 11 0, We 12 11]
def A_q99_1 : LA := [Wi 14 .eql 12 0, mv 13 14]
def A_q99_2 : LA := [Wi 16 .eql 12 1, mv 15 16]
def A_q99_3 : LA := [mv 17 0, o_ 18 (.iaddr 9 1 (.t 17) (i_ 0)), Wl 19 18, mv 4 19]
def A_q99_4 : LA := [mv 20 1, o_ 21 (.lens (.t 20)), Wi 22 .gtr 21 0]
def A_q99_5 : LA := [mv 23 1, o_ 24 (.lens (.t 23)), mv 25 0, We 26 25, Wi 27 .sub 26 1, o_ 28 (.bini .quo (i_ 9223372036854775807) (.t 27)), Wb 29 .geq 24 28]
def A_q99_6 : LA := [mv 31 5, mv 32 1, o_ 33 (.lens (.t 32)), mv 34 0, We 35 34, Wi 36 .sub 35 1, Wb 37 .mul 33 36, Wb 38 .add 31 37, mv 5 38]
def A_q99_7 : LA := [mv 39 0, We 40 39, Wm 41 0]
def A_q99_8 : LA := [Wa 43 9 1 39 41, Wl 44 43, mv 7 44]
def A_q99_9 : LA := [mv 45 7, o_ 46 (.lens (.t 45)), mv 47 5, o_ 48 (.bini .sub (i_ 9223372036854775807) (.t 47)), Wb 49 .gtr 46 48]
def A_q99_10 : LA := [mv 51 5, mv 52 7, o_ 53 (.lens (.t 52)), Wb 54 .add 51 53, mv 5 54]
def A_q99_11 : LA := [Wi 55 .add 41 1, mv 41 55]
def A_q99_12 : ACode := (.seq (.ops [Wb 42 .lss 41 40]) (.seq (.cond (.t 42) .skip (.exit 1)) (.seq (.block 2 (.seq (.ops A_q99_8) (.seq (.seq (.ops A_q99_9) (.cond (.t 49) .bad .skip)) (.ops A_q99_10)))) (.ops A_q99_11))))
def A_q99_13 : LA := [mv 56 5, o_ 57 (.call 156 [(.t 8), (.t 56)])]
def A_q99_14 : LA := [mv 58 0, o_ 59 (.iaddr 9 1 (.t 58) (i_ 0)), Wl 60 59, o_ 61 (.call 157 [(.t 8), (.t 60)])]
def A_q99_15 : LA := [mv 62 0, o_ 63 (.slcl 9 1 (.t 62) (some (i_ 1)) none none), We 64 63, Wm 65 0]
def A_q99_16 : LA := [Wa 67 9 1 63 65, Wl 68 67, mv 10 68]
def A_q99_17 : LA := [mv 69 1, o_ 70 (.call 157 [(.t 8), (.t 69)])]
def A_q99_18 : LA := [mv 71 10, o_ 72 (.call 157 [(.t 8), (.t 71)])]
def A_q99_19 : LA := [Wi 73 .add 65 1, mv 65 73]
def A_q99_20 : ACode := (.seq (.ops [Wb 66 .lss 65 64]) (.seq (.cond (.t 66) .skip (.exit 3)) (.seq (.block 4 (.seq (.ops A_q99_16) (.seq (.ops A_q99_17) (.ops A_q99_18)))) (.ops A_q99_19))))
def A_q99_21 : LA := [o_ 74 (.call 158 [(.t 8)]), mv 4 74]
def A_q99 : ACode := (.seq (.ops [o_ 4 (.mov (.c (.str [])))]) (.seq (.seq (.ops A_q99_0) (.block 0 (.seq (.ops A_q99_1) (.cond (.t 13) .bad (.seq (.ops A_q99_2) (.cond (.t 15) (.seq (.ops A_q99_3) .ret) .skip)))))) (.seq (.ops [Wm 5 0]) (.seq (.seq (.ops A_q99_4) (.cond (.t 22) (.seq (.seq (.ops A_q99_5) (.cond (.t 29) .bad .skip)) (.ops A_q99_6)) .bad)) (.seq (.seq (.ops A_q99_7) (.block 1 (.loop A_q99_12))) (.seq (.ops [o_ 8 (.box 296 2 (.c (.agg [.nilp, .nils])))]) (.seq (.ops A_q99_13) (.seq (.ops A_q99_14) (.seq (.seq (.ops A_q99_15) (.block 3 (.loop A_q99_20))) (.seq (.ops A_q99_21) .ret))))))))))
def T_q99 : FC := ⟨75, A_q99, [.tmp 4]⟩
abbrev F_q100 : Nat := 100
def A_q100_0 : LA := [mv 10 6, Wm 7 0, mv 8 10]
def A_q100_1 : LA := [mv 11 8, mv 12 1, Wb 13 .leq 11 12]
def A_q100_2 : ACode := (.seq (.seq (.ops A_q100_1) (.cond (.t 13) .bad (.exit 0))) .bad)
def A_q100_3 : LA := [mv 23 0, mv 24 7, mv 25 1, mv 26 2, o_ 27 (.call 159 [(.t 23), (.t 24), (.t 25), (.t 26)])]
def A_q100_4 : LA := [mv 28 6, mv 29 1, Wb 30 .lss 28 29]
def A_q100_5 : ACode := (.seq (.seq (.ops A_q100_4) (.cond (.t 30) .bad (.exit 2))) .bad)
def A_q100 : ACode := (.seq (.ops [Wm 6 20]) (.seq (.ops A_q100_0) (.seq (.block 0 (.loop A_q100_2)) (.seq (.ops A_q100_3) (.block 2 (.loop A_q100_5))))))
def T_q100 : FC := ⟨63, A_q100, []⟩
abbrev F_q101 : Nat := 101
def A_q101_0 : LA := [mv 3 0, mv 4 0, o_ 5 (.bins .neq (.t 3) (.t 4)), mv 2 5]
def A_q101 : ACode := (.seq (.ops [Wo 2 false]) (.seq (.ops A_q101_0) .ret))
def T_q101 : FC := ⟨6, A_q101, [.tmp 2]⟩
abbrev F_q102 : Nat := 102
def A_q102_0 : LA := [mv 3 0, mv 4 0, Wb 5 .neq 3 4, mv 2 5]
def A_q102 : ACode := (.seq (.ops [Wo 2 false]) (.seq (.ops A_q102_0) .ret))
def T_q102 : FC := ⟨6, A_q102, [.tmp 2]⟩
abbrev F_q103 : Nat := 103
def A_q103_0 : LA := [o_ 8 (.mov (.c (.str []))), o_ 9 (.mov (.c (.int .u8 0))), Wm 10 0]
def A_q103_1 : LA := [mv 20 0, mv 21 1, Wc 22 21, Wf 23 5 22, Wl 24 23, o_ 25 (.call 163 [(.t 24)]), o_ 26 (.call 41 [(.t 25)]), o_ 27 (.call 162 [(.t 20), (.t 26)]), mv 28 0, mv 29 0, o_ 30 (.call 21 [(.t 29)]), o_ 31 (.call 162 [(.t 28), (.t 30)]), mv 12 27, mv 13 31]
def A_q103_2 : LA := [mv 33 0, mv 34 12, mv 35 2, mv 36 3, o_ 37 (.call 164 [(.t 33), (.t 34), (.t 35), (.t 36)]), mv 32 37, Wx 38 0 32, Wx 39 1 32, mv 14 38, mv 15 39]
def A_q103_3 : LA := [mv 40 12, mv 41 14, o_ 42 (.call 165 [(.t 40), (.t 41)]), mv 16 42]
def A_q103_4 : LA := [mv 43 15, mv 44 43, Wgm 45 11 44, Wgm 46 16 44, g_ 47 (.callv (.t 45) [(.t 46)]) 44, Wp 48 44 47]
def A_q103_5 : LA := [mv 49 14, mv 50 16, mv 8 49, mv 9 50, Wm 10 0]
def A_q103 : ACode := (.seq (.ops A_q103_0) (.seq (.ops [o_ 11 (.mov (.f 161))]) (.seq (.ops A_q103_1) (.seq (.ops A_q103_2) (.seq (.ops A_q103_3) (.seq (.seq (.ops A_q103_4) (.cond (.t 48) (.seq (.ops A_q103_5) .ret) .bad)) .bad))))))
def T_q103 : FC := ⟨82, A_q103, [.tmp 8, .tmp 9, .tmp 10]⟩
abbrev F_q104 : Nat := 104
def A_q104_0 : LA := [mv 6 0, We 7 6, Wm 8 0]
def A_q104_1 : LA := [mv 10 8, mv 5 10]
def A_q104_2 : LA := [mv 11 1, mv 12 0, mv 13 5, Wa 14 9 1 12 13, Wl 15 14, o_ 16 (.bins .eql (.t 11) (.t 15))]
def A_q104_3 : LA := [mv 17 5, mv 4 17]
def A_q104_4 : LA := [Wi 18 .add 8 1, mv 8 18]
def A_q104_5 : ACode := (.seq (.ops [Wb 9 .lss 8 7]) (.seq (.cond (.t 9) .skip (.exit 0)) (.seq (.block 1 (.seq (.ops A_q104_1) (.seq (.ops A_q104_2) (.cond (.t 16) (.seq (.ops A_q104_3) .ret) .bad)))) (.ops A_q104_4))))
def A_q104 : ACode := (.seq (.ops [Wm 4 0]) (.seq (.seq (.ops A_q104_0) (.block 0 (.loop A_q104_5))) (.seq (.ops [Wm 4 (-1)]) .ret)))
def T_q104 : FC := ⟨19, A_q104, [.tmp 4]⟩
abbrev F_q105 : Nat := 105
def A_q105_0 : LA := [mv 8 1, Wi 9 .add 8 1, mv 6 9]
def A_q105_1 : LA := [mv 10 6, mv 11 2, Wb 12 .lss 10 11]
def A_q105_2 : ACode := (.seq (.seq (.ops A_q105_1) (.cond (.t 12) .bad (.exit 0))) .bad)
def A_q105 : ACode := (.seq (.ops A_q105_0) (.block 0 (.loop A_q105_2)))
def T_q105 : FC := ⟨49, A_q105, []⟩
abbrev F_q115 : Nat := 115
def A_q115_0 : LA := [mv 3 0, o_ 4 (.bini .geq (.t 3) (.c (.int .u64 4294967296)))]
def A_q115_1 : LA := [mv 7 0, o_ 8 (.bini .geq (.t 7) (.c (.int .u64 65536)))]
def A_q115_2 : LA := [mv 13 0, o_ 14 (.bini .geq (.t 13) (.c (.int .u64 256)))]
def A_q115_3 : LA := [mv 19 2, mv 20 0, o_ 21 (.conv .u8 (.t 20)), o_ 22 (.idxs (.c (.str [0, 1, 2, 2, 3, 3, 3, 3, 4, 4, 4, 4, 4, 4, 4, 4, 5, 5, 5, 5, 5, 5, 5, 5, 5, 5, 5, 5, 5, 5, 5, 5, 6, 6, 6, 6, 6, 6, 6, 6, 6, 6, 6, 6, 6, 6, 6, 6, 6, 6, 6, 6, 6, 6, 6, 6, 6, 6, 6, 6, 6, 6, 6, 6, 7, 7, 7, 7, 7, 7, 7, 7, 7, 7, 7, 7, 7, 7, 7, 7, 7, 7, 7, 7, 7, 7, 7, 7, 7, 7, 7, 7, 7, 7, 7, 7, 7, 7, 7, 7, 7, 7, 7, 7, 7, 7, 7, 7, 7, 7, 7, 7, 7, 7, 7, 7, 7, 7, 7, 7, 7, 7, 7, 7, 7, 7, 7, 7, 8, 8, 8, 8, 8, 8, 8, 8, 8, 8, 8, 8, 8, 8, 8, 8, 8, 8, 8, 8, 8, 8, 8, 8, 8, 8, 8, 8, 8, 8, 8, 8, 8, 8, 8, 8, 8, 8, 8, 8, 8, 8, 8, 8, 8, 8, 8, 8, 8, 8, 8, 8, 8, 8, 8, 8, 8, 8, 8, 8, 8, 8, 8, 8, 8, 8, 8, 8, 8, 8, 8, 8, 8, 8, 8, 8, 8, 8, 8, 8, 8, 8, 8, 8, 8, 8, 8, 8, 8, 8, 8, 8, 8, 8, 8, 8, 8, 8, 8, 8, 8, 8, 8, 8, 8, 8, 8, 8, 8, 8, 8, 8, 8, 8, 8, 8, 8, 8, 8, 8, 8, 8, 8, 8, 8, 8, 8, 8])) (.t 21)), o_ 23 (.conv .i64 (.t 22)), Wb 24 .add 19 23, mv 2 24]
def A_q115 : ACode := (.seq (.ops [Wm 2 0]) (.seq (.seq (.ops A_q115_0) (.cond (.t 4) .bad .skip)) (.seq (.seq (.ops A_q115_1) (.cond (.t 8) .bad .skip)) (.seq (.seq (.ops A_q115_2) (.cond (.t 14) .bad .skip)) (.seq (.ops A_q115_3) .ret)))))
def T_q115 : FC := ⟨25, A_q115, [.tmp 2]⟩
abbrev F_q116 : Nat := 116
def A_q116_0 : LA := [mv 6 4, mv 2 6]
def A_q116_1 : LA := [mv 7 2, o_ 8 (.adr 19 1 (.t 1) (.t 7)), n_ (.st 1 (.t 8) (.f 171))]
def A_q116_2 : LA := [Wi 9 .add 4 1, mv 4 9]
def A_q116_3 : ACode := (.seq (.ops [Wi 5 .lss 4 19]) (.seq (.cond (.t 5) .skip (.exit 0)) (.seq (.block 1 (.seq (.ops A_q116_0) (.ops A_q116_1))) (.ops A_q116_2))))
def A_q116_4 : LA := [mv 10 3, mv 11 3, o_ 12 (.adr 19 1 (.t 1) (.c (.int .u8 9))), Ws 1 12 10, o_ 13 (.adr 19 1 (.t 1) (.c (.int .u8 12))), Ws 1 13 11]
def A_q116_5 : LA := [o_ 14 (.adr 19 1 (.t 1) (.c (.int .u8 11))), n_ (.st 1 (.t 14) (.f 174))]
def A_q116_6 : LA := [Wd 15 19 1, Ws 19 0 15]
def A_q116 : ACode := (.seq (.ops [o_ 0 (.box 245 19 (.c (.agg [.nilf, .nilf, .nilf, .nilf, .nilf, .nilf, .nilf, .nilf, .nilf, .nilf, .nilf, .nilf, .nilf, .nilf, .nilf, .nilf, .nilf, .nilf, .nilf])))]) (.seq (.ops [o_ 1 (.box 245 19 (.c (.agg [.nilf, .nilf, .nilf, .nilf, .nilf, .nilf, .nilf, .nilf, .nilf, .nilf, .nilf, .nilf, .nilf, .nilf, .nilf, .nilf, .nilf, .nilf, .nilf])))]) (.seq (.seq (.ops [Wm 4 0]) (.block 0 (.loop A_q116_3))) (.seq (.ops [o_ 3 (.mov (.f 173))]) (.seq (.ops A_q116_4) (.seq (.ops A_q116_5) (.seq (.ops A_q116_6) .ret)))))))
def T_q116 : FC := ⟨16, A_q116, [.cella 0 19]⟩
abbrev F_q117 : Nat := 117
def A_q117_0 : LA := [o_ 5 (.box 44 3 (.t 1)), o_ 8 (.mov (.c (.nilp)))]
def A_q117_1 : LA := [mv 18 3, Wi 19 .gtr 18 100]
def A_q117_2 : LA := [mv 24 0, Wc 25 24, Wf 26 0 25, Wl 27 26, Wf 28 0 5, Wl 29 28, o_ 30 (.inv [(37, 338)] (.t 27) [(.t 29)]), mv 23 30, Wx 31 0 23, Wx 32 1 23, mv 9 31, mv 10 32]
def A_q117_3 : LA := [mv 33 10, Wi 34 .neq 33 0]
def A_q117_4 : LA := [o_ 38 (.mkmap), mv 11 38]
def A_q117_5 : LA := [Wf 39 1 5, Wl 40 39, We 41 40, Wm 42 0]
def A_q117_6 : ACode := (.seq (.ops [Wb 43 .lss 42 41]) (.seq (.cond (.t 43) .bad (.exit 0)) .bad))
def A_q117_7 : LA := [mv 120 0, mv 121 9, Wf 122 2 5, Wl 123 122, mv 124 2, mv 125 3, o_ 126 (.call 178 [(.t 120), (.t 121), (.t 123), (.t 124), (.t 125)]), mv 8 126]
def A_q117 : ACode := (.seq (.ops A_q117_0) (.seq (.seq (.ops A_q117_1) (.cond (.t 19) .bad .skip)) (.seq (.alts [24, 25, 26, 27, 28, 29, 30, 23, 31, 32, 9, 10] [A_q117_2]) (.seq (.seq (.ops A_q117_3) (.cond (.t 34) .bad .skip)) (.seq (.ops A_q117_4) (.seq (.seq (.ops A_q117_5) (.block 0 (.loop A_q117_6))) (.seq (.ops A_q117_7) .ret)))))))
def T_q117 : FC := ⟨127, A_q117, [.tmp 8]⟩
abbrev F_q123 : Nat := 123
def A_q123_0 : LA := [mv 9 2, Wi 10 .add 9 1, Wi 11 .gtr 10 100]
def A_q123_1 : LA := [mv 15 0, mv 16 1, mv 17 3, o_ 18 (.call 69 [(.t 15), (.t 16), (.t 17)]), mv 8 18]
def A_q123 : ACode := (.seq (.ops [o_ 8 (.mov (.c (.nilp)))]) (.seq (.seq (.ops A_q123_0) (.cond (.t 11) .bad .skip)) (.seq (.ops A_q123_1) .ret)))
def T_q123 : FC := ⟨19, A_q123, [.tmp 8]⟩
abbrev F_q124 : Nat := 124
def A_q124_0 : LA := [mv 4 0, o_ 5 (.call 184 [(.t 4)]), mv 3 5]
def A_q124_1 : LA := [mv 6 0, o_ 7 (.call 79 [(.t 6)])]
def A_q124_2 : LA := [mv 8 3, mv 2 8]
def A_q124 : ACode := (.seq (.ops [o_ 2 (.mov (.c (.nilp)))]) (.seq (.ops A_q124_0) (.seq (.ops A_q124_1) (.seq (.ops A_q124_2) .ret))))
def T_q124 : FC := ⟨9, A_q124, [.tmp 2]⟩
abbrev F_q125 : Nat := 125
def A_q125_0 : LA := [mv 5 0, o_ 6 (.bini .eql (.t 5) (.c (.int .u8 9))), mv 7 6, Whm 8 0 7, Wh 9 (.bini .eql (.t 8) (.c (.int .u8 12))) 7, Wq 10 7 9]
def A_q125_1 : LA := [mv 14 0, mv 15 1, o_ 16 (.call 128 [(.t 14), (.t 15)]), Ws 3 4 16]
def A_q125 : ACode := (.seq (.ops [o_ 4 (.box 52 3 (.c (.agg [.int .u64 (0), .str [], .nils])))]) (.seq (.seq (.ops A_q125_0) (.cond (.t 10) .bad .skip)) (.seq (.ops A_q125_1) .ret)))
def T_q125 : FC := ⟨17, A_q125, [.cella 4 3]⟩
abbrev F_q126 : Nat := 126
def A_q126_0 : LA := [mv 6 0, o_ 7 (.rngm (.t 6))]
def A_q126_1 : LA := [o_ 8 (.nxm (.t 7)), Wx 9 0 8]
def A_q126_2 : LA := [o_ 10 (.entr (.t 7)), Wx 11 0 10, Wx 12 1 10, mv 4 11, mv 5 12]
def A_q126_3 : LA := [mv 13 1, mv 14 4, mv 15 5, o_ 16 (.callv (.t 13) [(.t 14), (.t 15)])]
def A_q126_4 : LA := [mv 17 0, mv 18 4, n_ (.mdel .i (.t 17) (.t 18))]
def A_q126_5 : ACode := (.seq (.ops A_q126_1) (.seq (.cond (.t 9) .skip (.exit 0)) (.block 1 (.seq (.ops A_q126_2) (.seq (.ops A_q126_3) (.cond (.t 16) (.ops A_q126_4) .skip))))))
def A_q126 : ACode := (.seq (.ops A_q126_0) (.block 0 (.loop A_q126_5)))
def T_q126 : FC := ⟨19, A_q126, []⟩
abbrev F_q127 : Nat := 127
def A_q127_0 : LA := [mv 6 1, Wc 7 6, Wf 8 0 7, Wf 9 7 8, Wl 10 9, Wf 11 7 2, Wl 12 11, Wb 13 .eql 10 12, mv 14 13, Wgm 15 1 14, g_ 16 (.nilc (.t 15)) 14, Wgf 17 0 16 14, Wgf 18 0 17 14, Wgl 19 18 14, Wgf 20 0 2 14, Wgl 21 20 14, g_ 22 (.bini .neq (.t 19) (.t 21)) 14, Wp 23 14 22, mv 5 23]
def A_q127 : ACode := (.seq (.ops [Wo 5 false]) (.seq (.alts [6, 7, 8, 9, 10, 11, 12, 13, 14, 15, 16, 17, 18, 19, 20, 21, 22, 23, 5] [A_q127_0]) .ret))
def T_q127 : FC := ⟨24, A_q127, [.tmp 5]⟩
abbrev F_q128 : Nat := 128
def A_q128_0 : LA := [mv 7 0, o_ 8 (.call 65 [(.t 7)])]
def A_q128_1 : LA := [o_ 14 (.bini .eql (.t 8) (.c (.int .u8 1))), mv 13 14]
def A_q128_2 : LA := [o_ 18 (.bini .eql (.t 8) (.c (.int .u8 5))), mv 17 18]
def A_q128_3 : LA := [mv 9 0, mv 10 1, o_ 11 (.call 189 [(.t 10)]), o_ 12 (.call 188 [(.t 9), (.t 11)]), mv 5 12]
def A_q128_4 : LA := [mv 29 1, o_ 30 (.call 79 [(.t 29)])]
def A_q128_5 : LA := [mv 31 5, o_ 32 (.build [.int .u64 (0), .str [], .nils] [(0, 1, (.t 31))]), Ws 3 4 32]
def A_q128 : ACode := (.seq (.ops [o_ 4 (.box 52 3 (.c (.agg [.int .u64 (0), .str [], .nils])))]) (.seq (.ops [o_ 5 (.mov (.c (.int .u64 0)))]) (.seq (.seq (.ops A_q128_0) (.block 0 (.seq (.ops A_q128_1) (.cond (.t 13) .bad (.seq (.ops A_q128_2) (.cond (.t 17) .bad (.ops A_q128_3))))))) (.seq (.ops A_q128_4) (.seq (.ops A_q128_5) .ret)))))
def T_q128 : FC := ⟨33, A_q128, [.cella 4 3]⟩
abbrev F_q129 : Nat := 129
def A_q129_0 : LA := [o_ 6 (.box 174 9 (.c (.agg [.int .i32 (0), .str [], .str [], .int .u8 (0), .int .u8 (0), .int .u8 (0), .bool false, .int .i64 (0), .str []]))), Wo 7 false]
def A_q129_1 : LA := [mv 8 2, o_ 9 (.not (.t 8))]
def A_q129_2 : LA := [mv 11 0, Wc 12 11, Wf 13 2 12, Wl 14 13, mv 15 1, Wa 16 174 9 14 15, Wd 17 9 16, Ws 9 6 17, Wo 7 true]
def A_q129 : ACode := (.seq (.ops A_q129_0) (.seq (.seq (.ops A_q129_1) (.cond (.t 9) .bad .skip)) (.seq (.ops A_q129_2) .ret)))
def T_q129 : FC := ⟨18, A_q129, [.cella 6 9, .tmp 7]⟩
abbrev F_q130 : Nat := 130
def A_q130_0 : LA := [o_ 2 (.mov (.c (.int .i32 0))), o_ 3 (.mov (.c (.int .u8 0)))]
def A_q130_1 : LA := [mv 7 0, Wc 8 7, Wf 9 1 8, Wl 10 9, mv 4 10]
def A_q130_2 : LA := [mv 11 0, o_ 12 (.call 189 [(.t 11)]), mv 5 12]
def A_q130_3 : LA := [mv 13 0, Wc 14 13, Wf 15 3 14, Wl 16 15, Wi 17 .neq 16 0]
def A_q130_4 : LA := [mv 18 5, o_ 19 (.bini .and (.t 18) (.c (.int .u64 7))), o_ 20 (.conv .u8 (.t 19)), mv 6 20]
def A_q130_5 : LA := [mv 21 5, o_ 22 (.bini .gtr (.t 21) (.c (.int .u64 4294967295))), mv 23 22, Whm 24 5 23, Wh 25 (.bini .shr (.t 24) (.c (.int .u64 3))) 23, Wh 26 (.bini .eql (.t 25) (.c (.int .u64 0))) 23, Wq 27 23 26, mv 28 27, Whm 29 6 28, Wh 30 (.bini .gtr (.t 29) (.c (.int .u8 5))) 28, Wq 31 28 30]
def A_q130_6 : LA := [mv 39 5, o_ 40 (.bini .shr (.t 39) (.c (.int .u64 3))), o_ 41 (.conv .i32 (.t 40)), mv 42 6, mv 2 41, mv 3 42]
def A_q130 : ACode := (.seq (.ops A_q130_0) (.seq (.ops A_q130_1) (.seq (.ops A_q130_2) (.seq (.seq (.ops A_q130_3) (.cond (.t 17) .bad .skip)) (.seq (.ops A_q130_4) (.seq (.seq (.ops A_q130_5) (.cond (.t 31) .bad .skip)) (.seq (.ops A_q130_6) .ret)))))))
def T_q130 : FC := ⟨43, A_q130, [.tmp 2, .tmp 3]⟩
abbrev F_q131 : Nat := 131
def A_q131_0 : LA := [mv 6 0, Wc 7 6, Wf 8 3 7, Wl 9 8, Wi 10 .eql 9 0]
def A_q131_1 : LA := [mv 11 0, mv 12 0, mv 13 1, mv 14 2, Wc 15 11, Wf 16 3 15, Ws 1 16 13, Wc 17 12, Wf 18 4 17, Ws 1 18 14]
def A_q131 : ACode := (.seq (.ops A_q131_0) (.cond (.t 10) (.ops A_q131_1) .bad))
def T_q131 : FC := ⟨19, A_q131, []⟩
abbrev F_q133 : Nat := 133
def A_q133_0 : LA := [Wm 2 0, Wm 3 0]
def A_q133_1 : LA := [mv 4 0, Wc 5 4, Wf 6 3 5, Wl 7 6, Wi 8 .eql 7 0]
def A_q133_2 : LA := [Wm 2 0, Wm 3 0]
def A_q133_3 : LA := [mv 9 0, Wc 10 9, Wf 11 3 10, Wl 12 11, mv 13 0, Wc 14 13, Wf 15 4 14, Wl 16 15, mv 2 12, mv 3 16]
def A_q133 : ACode := (.seq (.ops A_q133_0) (.seq (.seq (.ops A_q133_1) (.cond (.t 8) (.seq (.ops A_q133_2) .ret) .skip)) (.seq (.alts [9, 10, 11, 12, 13, 14, 15, 16, 2, 3] [A_q133_3]) .ret)))
def T_q133 : FC := ⟨17, A_q133, [.tmp 2, .tmp 3]⟩
abbrev F_q134 : Nat := 134
def A_q134_0 : LA := [mv 3 0, o_ 4 (.call 192 [(.c (.nils)), (.t 3)]), mv 2 4]
def A_q134 : ACode := (.seq (.ops [Wn 2]) (.seq (.ops A_q134_0) .ret))
def T_q134 : FC := ⟨5, A_q134, [.tmp 2]⟩
abbrev F_q135 : Nat := 135
def A_q135_0 : LA := [mv 3 0, We 4 3, mv 2 4]
def A_q135_1 : LA := [mv 5 0, mv 6 2, mv 7 2, o_ 8 (.conv .u64 (.t 7)), o_ 9 (.call 59 [(.t 8)]), o_ 10 (.call 193 [(.t 5), (i_ 0), (.t 6), (.t 9)])]
def A_q135 : ACode := (.seq (.ops A_q135_0) (.ops A_q135_1))
def T_q135 : FC := ⟨11, A_q135, []⟩
abbrev F_q136 : Nat := 136
def A_q136_0 : LA := [Wl 4 1, o_ 5 (.rngm (.t 4))]
def A_q136_1 : LA := [o_ 6 (.nxm (.t 5)), Wx 7 0 6]
def A_q136_2 : LA := [o_ 8 (.entr (.t 5)), Wx 9 0 8, mv 3 9]
def A_q136_3 : LA := [mv 10 0, mv 11 3, o_ 12 (.callv (.t 10) [(.t 11)]), o_ 13 (.not (.t 12))]
def A_q136_4 : ACode := (.seq (.ops A_q136_1) (.seq (.cond (.t 7) .skip (.exit 0)) (.block 1 (.seq (.ops A_q136_2) (.seq (.ops A_q136_3) (.cond (.t 13) .bad .skip))))))
def A_q136 : ACode := (.seq (.ops A_q136_0) (.block 0 (.loop A_q136_4)))
def T_q136 : FC := ⟨14, A_q136, []⟩
abbrev F_q139 : Nat := 139
def A_q139_0 : LA := [mv 3 0, o_ 4 (.isnilu false (.t 3))]
def A_q139_1 : LA := [o_ 5 (.bslice0 72), mv 6 0, o_ 7 (.app 72 9 80 (.t 5) (.t 6)), mv 2 7]
def A_q139 : ACode := (.seq (.ops [Wn 2]) (.seq (.seq (.ops A_q139_0) (.cond (.t 4) (.seq (.ops [Wn 2]) .ret) .skip)) (.seq (.ops A_q139_1) .ret)))
def T_q139 : FC := ⟨8, A_q139, [.tmp 2]⟩
abbrev F_q140 : Nat := 140
def A_q140_0 : LA := [mv 3 0, o_ 4 (.isnilu false (.t 3))]
def A_q140_1 : LA := [o_ 5 (.bslice0 9), mv 6 0, o_ 7 (.app 9 1 16 (.t 5) (.t 6)), mv 2 7]
def A_q140 : ACode := (.seq (.ops [Wn 2]) (.seq (.seq (.ops A_q140_0) (.cond (.t 4) (.seq (.ops [Wn 2]) .ret) .skip)) (.seq (.ops A_q140_1) .ret)))
def T_q140 : FC := ⟨8, A_q140, [.tmp 2]⟩
abbrev F_q141 : Nat := 141
def A_q141_0 : LA := [mv 3 0, o_ 4 (.isnilu false (.t 3))]
def A_q141 : ACode := (.seq (.ops [Wn 2]) (.seq (.seq (.ops A_q141_0) (.cond (.t 4) (.seq (.ops [Wn 2]) .ret) .bad)) .bad))
def T_q141 : FC := ⟨8, A_q141, [.tmp 2]⟩
abbrev F_q143 : Nat := 143
def A_q143_0 : LA := [o_ 2 (.box 64 1 (.t 0)), Wn 4]
def A_q143_1 : LA := [Wl 8 2, mv 9 5, o_ 10 (.bslice 9 1 1 [.str []] [(0, 1, (.t 9))]), o_ 11 (.app 9 1 16 (.t 8) (.t 10)), Ws 1 2 11]
def A_q143_2 : LA := [Wl 12 2, mv 4 12]
def A_q143 : ACode := (.seq (.ops A_q143_0) (.seq (.seq (.ops [mv 6 1]) (.block 0 (.rngf (.t 6) [7] (.ops [mv 5 7]) (.block 1 (.ops A_q143_1))))) (.seq (.ops A_q143_2) .ret)))
def T_q143 : FC := ⟨13, A_q143, [.tmp 4]⟩
abbrev F_q144 : Nat := 144
def A_q144_0 : LA := [mv 5 0, mv 6 1, o_ 7 (.call 206 [(.t 5), (.t 6), (i_ 0), (i_ (-1))]), mv 4 7]
def A_q144 : ACode := (.seq (.ops [Wn 4]) (.seq (.ops A_q144_0) .ret))
def T_q144 : FC := ⟨8, A_q144, [.tmp 4]⟩
abbrev F_q145 : Nat := 145
def A_q145_0 : LA := [mv 5 0, o_ 6 (.bins .eql (.t 5) (.c (.str []))), mv 7 6, Whm 8 0 7, Wh 9 (.lens (.t 8)) 7, Wh 10 (.bini .gtr (.t 9) (i_ 255)) 7, Wq 11 7 10, mv 12 11, Whm 13 0 12, Wh 14 (.idxs (.t 13) (i_ 0)) 12, Wh 15 (.call 207 [(.t 14)]) 12, Wq 16 12 15]
def A_q145_1 : LA := [mv 17 0, o_ 18 (.lens (.t 17)), Wm 19 0]
def A_q145_2 : LA := [mv 21 19, mv 3 21]
def A_q145_3 : LA := [mv 22 0, mv 23 3, o_ 24 (.idxs (.t 22) (.t 23)), mv 4 24]
def A_q145_4 : LA := [mv 25 4, o_ 26 (.call 208 [(.t 25)]), o_ 27 (.not (.t 26)), mv 28 27, Wgm 29 4 28, g_ 30 (.call 209 [(.t 29)]) 28, g_ 31 (.not (.t 30)) 28, Wp 32 28 31, mv 33 32, Wgm 34 4 33, g_ 35 (.call 207 [(.t 34)]) 33, g_ 36 (.not (.t 35)) 33, Wp 37 33 36, mv 38 37, Wgm 39 4 38, g_ 40 (.bini .neq (.t 39) (.c (.int .u8 95))) 38, Wp 41 38 40]
def A_q145_5 : LA := [Wi 42 .add 19 1, mv 19 42]
def A_q145_6 : ACode := (.seq (.ops [Wb 20 .lss 19 18]) (.seq (.cond (.t 20) .skip (.exit 0)) (.seq (.block 1 (.seq (.ops A_q145_2) (.seq (.ops A_q145_3) (.seq (.ops A_q145_4) (.cond (.t 41) .bad .skip))))) (.ops A_q145_5))))
def A_q145 : ACode := (.seq (.ops [Wo 2 false]) (.seq (.seq (.ops A_q145_0) (.cond (.t 16) .bad .skip)) (.seq (.seq (.ops A_q145_1) (.block 0 (.loop A_q145_6))) (.seq (.ops [Wo 2 true]) .ret))))
def T_q145 : FC := ⟨43, A_q145, [.tmp 2]⟩
abbrev F_q146 : Nat := 146
def A_q146_0 : LA := [mv 6 1, o_ 7 (.call 145 [(.t 6)]), mv 8 7, Wgm 9 2 8, g_ 10 (.lens (.t 9)) 8, g_ 11 (.bini .leq (.t 10) (i_ 255)) 8, Wp 12 8 11, mv 13 2, o_ 14 (.call 92 [(.t 12), (i_ 60), (.t 13)])]
def A_q146_1 : LA := [mv 15 0, Wc 16 15, Wf 17 0 16, Wl 18 17, mv 19 2, o_ 20 (.mlook .s (.int .i64 0) false (.t 18) (.t 19)), Wi 21 .add 20 1, n_ (.mupd .s (.t 18) (.t 19) (.t 21))]
def A_q146_2 : LA := [mv 22 0, Wc 23 22, Wf 24 0 23, Wl 25 24, mv 26 2, o_ 27 (.mlook .s (.int .i64 0) false (.t 25) (.t 26)), Wi 28 .eql 27 1, mv 29 2, o_ 30 (.call 92 [(.t 28), (i_ 61), (.t 29)])]
def A_q146 : ACode := (.seq (.ops A_q146_0) (.seq (.ops A_q146_1) (.ops A_q146_2)))
def T_q146 : FC := ⟨31, A_q146, []⟩
abbrev F_q147 : Nat := 147
def A_q147_0 : LA := [mv 12 0, We 13 12, Wm 14 0]
def A_q147_1 : ACode := (.seq (.ops [Wb 15 .lss 14 13]) (.seq (.cond (.t 15) .bad (.exit 0)) .bad))
def A_q147 : ACode := (.seq (.ops A_q147_0) (.block 0 (.loop A_q147_1)))
def T_q147 : FC := ⟨62, A_q147, []⟩
abbrev F_q148 : Nat := 148
def A_q148_0 : LA := [mv 7 0, We 8 7, Wm 9 0]
def A_q148_1 : ACode := (.seq (.ops [Wb 10 .lss 9 8]) (.seq (.cond (.t 10) .bad (.exit 0)) .bad))
def A_q148 : ACode := (.seq (.ops A_q148_0) (.block 0 (.loop A_q148_1)))
def T_q148 : FC := ⟨31, A_q148, []⟩
abbrev F_q149 : Nat := 149
def A_q149_0 : LA := [Wf 13 1 5, Wl 14 13, mv 15 2, Wa 16 72 9 14 15, Wd 17 9 16, Wf 18 1 5, mv 20 2, Wl 19 18, o_ 21 (.slcl 72 9 (.t 19) none (some (.t 20)) none), o_ 8 (.box 72 9 (.c (.agg [.str [], .int .i32 (0), .int .u8 (0), .int .u8 (0), .str [], .int .u8 (0), .int .i64 (0), .int .u8 (0), .str []]))), Ws 9 8 17, mv 9 21]
def A_q149_1 : LA := [Wf 13 1 5, Wl 14 13, mv 15 2, Wa 16 72 9 14 15, Wd 17 9 16, Wf 18 1 5, mv 20 2, Wl 19 18, o_ 8 (.box 72 9 (.c (.agg [.str [], .int .i32 (0), .int .u8 (0), .int .u8 (0), .str [], .int .u8 (0), .int .i64 (0), .int .u8 (0), .str []]))), o_ 21 (.slcl 72 9 (.t 19) none (some (.t 20)) none), Ws 9 8 17, mv 9 21]
def A_q149_2 : LA := [Wf 13 1 5, Wl 14 13, mv 15 2, Wa 16 72 9 14 15, Wd 17 9 16, Wf 18 1 5, mv 20 2, Wl 19 18, o_ 8 (.box 72 9 (.c (.agg [.str [], .int .i32 (0), .int .u8 (0), .int .u8 (0), .str [], .int .u8 (0), .int .i64 (0), .int .u8 (0), .str []]))), Ws 9 8 17, o_ 21 (.slcl 72 9 (.t 19) none (some (.t 20)) none), mv 9 21]
def A_q149_3 : LA := [Wf 13 1 5, Wl 14 13, mv 15 2, Wa 16 72 9 14 15, Wd 17 9 16, Wf 18 1 5, mv 20 2, o_ 8 (.box 72 9 (.c (.agg [.str [], .int .i32 (0), .int .u8 (0), .int .u8 (0), .str [], .int .u8 (0), .int .i64 (0), .int .u8 (0), .str []]))), Wl 19 18, o_ 21 (.slcl 72 9 (.t 19) none (some (.t 20)) none), Ws 9 8 17, mv 9 21]
def A_q149_4 : LA := [Wf 13 1 5, Wl 14 13, mv 15 2, Wa 16 72 9 14 15, Wd 17 9 16, Wf 18 1 5, mv 20 2, o_ 8 (.box 72 9 (.c (.agg [.str [], .int .i32 (0), .int .u8 (0), .int .u8 (0), .str [], .int .u8 (0), .int .i64 (0), .int .u8 (0), .str []]))), Wl 19 18, Ws 9 8 17, o_ 21 (.slcl 72 9 (.t 19) none (some (.t 20)) none), mv 9 21]
def A_q149_5 : LA := [Wf 13 1 5, Wl 14 13, mv 15 2, Wa 16 72 9 14 15, Wd 17 9 16, Wf 18 1 5, mv 20 2, o_ 8 (.box 72 9 (.c (.agg [.str [], .int .i32 (0), .int .u8 (0), .int .u8 (0), .str [], .int .u8 (0), .int .i64 (0), .int .u8 (0), .str []]))), Ws 9 8 17, Wl 19 18, o_ 21 (.slcl 72 9 (.t 19) none (some (.t 20)) none), mv 9 21]
def A_q149_6 : LA := [mv 22 3, Wf 23 0 8, Wl 24 23, o_ 25 (.bslice 9 1 2 [.str []] [(0, 1, (.t 22)), (1, 1, (.t 24))]), o_ 26 (.call 47 [(.t 25)]), mv 10 26]
def A_q149_7 : LA := [mv 27 0, Wf 28 0 8, Wl 29 28, mv 30 10, o_ 31 (.call 146 [(.t 27), (.t 29), (.t 30)])]
def A_q149_8 : LA := [Wf 32 6 5, Wl 33 32, Wf 34 0 8, Wl 35 34, o_ 36 (.call 57 [(.t 33), (.t 35)]), o_ 37 (.not (.t 36)), mv 38 10, o_ 39 (.call 92 [(.t 37), (i_ 63), (.t 38)])]
def A_q149_9 : LA := [Wf 40 1 8, Wl 41 40, o_ 42 (.call 210 [(.t 41)]), mv 43 42, Wgm 44 9 43, g_ 45 (.mkfn 211 [] [(.t 8)]) 43, g_ 46 (.call 150 [(.t 44), (.t 45)]) 43, g_ 47 (.not (.t 46)) 43, Wp 48 43 47, mv 49 10, o_ 50 (.call 92 [(.t 48), (i_ 62), (.t 49)])]
def A_q149_10 : LA := [Wf 51 5 5, Wl 52 51, Wf 53 1 8, Wl 54 53, o_ 55 (.call 152 [(.t 52), (.t 54)]), o_ 56 (.not (.t 55)), mv 57 10, o_ 58 (.call 92 [(.t 56), (i_ 63), (.t 57)])]
def A_q149_11 : LA := [Wf 59 2 8, Wl 60 59, o_ 61 (.bini .geq (.t 60) (.c (.int .u8 1))), mv 62 61, Wgf 63 2 8 62, Wgl 64 63 62, g_ 65 (.bini .leq (.t 64) (.c (.int .u8 4))) 62, Wp 66 62 65, mv 67 66, Wgf 68 3 8 67, Wgl 69 68 67, g_ 70 (.bini .eql (.t 69) (.c (.int .u8 0))) 67, Wgm 71 70 67, Wh 72 (.faddr 3 (.t 8)) 71, Wh 73 (.ld1 (.t 72)) 71, Wh 74 (.call 212 [(.t 73)]) 71, g_ 75 (.pick (.t 71) (.c (.bool true)) (.t 74)) 67, Wp 76 67 75, mv 77 10, o_ 78 (.call 92 [(.t 76), (i_ 69), (.t 77)])]
def A_q149_12 : LA := [Wf 79 3 8, Wl 80 79, o_ 81 (.call 213 [(.t 80)])]
def A_q149_13 : LA := [Wf 82 4 8, Wl 83 82, o_ 84 (.call 214 [(.t 83)]), mv 85 10, o_ 86 (.call 92 [(.t 84), (i_ 69), (.t 85)])]
def A_q149_14 : LA := [Wf 87 4 8, Wl 88 87, o_ 89 (.bins .eql (.t 88) (.c (.str []))), mv 90 10, o_ 91 (.call 92 [(.t 89), (i_ 69), (.t 90)])]
def A_q149_15 : LA := [Wf 92 2 8, Wl 93 92, o_ 94 (.bini .eql (.t 93) (.c (.int .u8 4)))]
def A_q149_16 : LA := [Wf 95 5 8, Wl 96 95, o_ 97 (.call 215 [(.t 96)]), mv 98 10, o_ 99 (.call 92 [(.t 97), (i_ 65), (.t 98)])]
def A_q149_17 : LA := [Wf 100 5 8, Wl 101 100, o_ 102 (.bini .eql (.t 101) (.c (.int .u8 0))), mv 103 10, o_ 104 (.call 92 [(.t 102), (i_ 65), (.t 103)])]
def A_q149_18 : LA := [Wf 105 6 8, Wl 106 105, Wi 107 .geq 106 0, mv 108 107, Wgf 109 6 8 108, Wgl 110 109 108, Wgf 111 2 5 108, Wgl 112 111 108, g_ 113 (.lenl (.t 112)) 108, g_ 114 (.bini .leq (.t 110) (.t 113)) 108, Wp 115 108 114, mv 116 115, Wgf 117 6 8 116, Wgl 118 117 116, g_ 119 (.bini .eql (.t 118) (i_ 0)) 116, Wgm 120 119 116, Wh 121 (.faddr 2 (.t 8)) 120, Wh 122 (.ld1 (.t 121)) 120, Wh 123 (.bini .eql (.t 122) (.c (.int .u8 1))) 120, g_ 124 (.pick (.t 120) (.c (.bool true)) (.t 123)) 116, Wp 125 116 124, mv 126 10, o_ 127 (.call 92 [(.t 125), (i_ 64), (.t 126)])]
def A_q149_19 : LA := [Wf 128 7 8, Wl 129 128, o_ 130 (.bini .leq (.t 129) (.c (.int .u8 2))), mv 131 130, Wgf 132 7 8 131, Wgl 133 132 131, g_ 134 (.bini .eql (.t 133) (.c (.int .u8 0))) 131, Wgm 135 134 131, Wh 136 (.faddr 2 (.t 8)) 135, Wh 137 (.ld1 (.t 136)) 135, Wh 138 (.bini .eql (.t 137) (.c (.int .u8 3))) 135, Whm 139 138 135, Wgf 140 3 8 139, Wgl 141 140 139, g_ 142 (.call 216 [(.t 141)]) 139, Wh 143 (.pick (.t 139) (.t 142) (.c (.bool false))) 135, g_ 144 (.pick (.t 135) (.c (.bool true)) (.t 143)) 131, Wp 145 131 144, mv 146 10, o_ 147 (.call 92 [(.t 145), (i_ 67), (.t 146)])]
def A_q149_20 : LA := [Wf 148 8 8, Wl 149 148, o_ 150 (.call 217 [(.t 149)]), Wi 151 .lss 150 0, mv 152 151, Wgf 153 8 8 152, Wgl 154 153 152, g_ 155 (.lens (.t 154)) 152, g_ 156 (.bini .leq (.t 155) (i_ 255)) 152, Wp 157 152 156, mv 158 157, Wgf 159 8 8 158, Wgl 160 159 158, g_ 161 (.call 218 [(.t 160), (.c (.str [64]))]) 158, g_ 162 (.not (.t 161)) 158, Wp 163 158 162, mv 164 10, o_ 165 (.call 92 [(.t 163), (i_ 60), (.t 164)])]
def A_q149_21 : LA := [mv 166 9, We 167 166, Wm 168 0]
def A_q149_22 : LA := [Wa 170 72 9 166 168, Wd 171 9 170, o_ 12 (.box 72 9 (.c (.agg [.str [], .int .i32 (0), .int .u8 (0), .int .u8 (0), .str [], .int .u8 (0), .int .i64 (0), .int .u8 (0), .str []]))), Ws 9 12 171]
def A_q149_23 : LA := [Wd 172 9 12, Wd 174 9 8, mv 191 10, o_ 173 (.acall 219 [(.t 172)]), o_ 175 (.acall 219 [(.t 174)]), o_ 176 (.bins .neq (.t 173) (.t 175)), mv 177 176, g_ 178 (.lda 9 (.t 12)) 177, Wgf 180 0 8 177, Wgl 181 180 177, g_ 179 (.acall 219 [(.t 178)]) 177, g_ 182 (.bins .neq (.t 179) (.t 181)) 177, Wp 183 177 182, mv 184 183, Wgf 185 0 12 184, Wgl 186 185 184, g_ 187 (.lda 9 (.t 8)) 184, g_ 188 (.acall 219 [(.t 187)]) 184, g_ 189 (.bins .neq (.t 186) (.t 188)) 184, Wp 190 184 189, o_ 192 (.acall 92 [(.t 190), (i_ 61), (.t 191)])]
def A_q149_24 : LA := [Wi 193 .add 168 1, mv 168 193]
def A_q149_25 : ACode := (.seq (.ops [Wb 169 .lss 168 167]) (.seq (.cond (.t 169) .skip (.exit 0)) (.seq (.block 1 (.seq (.ops A_q149_22) (.alts [172, 173, 174, 175, 176, 177, 178, 179, 180, 181, 182, 183, 184, 185, 186, 187, 188, 189, 190, 191, 192] [A_q149_23]))) (.ops A_q149_24))))
def A_q149 : ACode := (.seq (.ops [o_ 5 (.box 76 7 (.t 1))]) (.seq (.alts [13, 14, 15, 16, 17, 18, 19, 20, 21, 8, 9] [A_q149_0, A_q149_1, A_q149_2, A_q149_3, A_q149_4, A_q149_5]) (.seq (.ops A_q149_6) (.seq (.ops A_q149_7) (.seq (.ops A_q149_8) (.seq (.ops A_q149_9) (.seq (.ops A_q149_10) (.seq (.ops A_q149_11) (.seq (.seq (.ops A_q149_12) (.cond (.t 81) (.ops A_q149_13) (.ops A_q149_14))) (.seq (.seq (.ops A_q149_15) (.cond (.t 94) (.ops A_q149_16) (.ops A_q149_17))) (.seq (.ops A_q149_18) (.seq (.ops A_q149_19) (.seq (.ops A_q149_20) (.seq (.ops A_q149_21) (.block 0 (.loop A_q149_25))))))))))))))))
def T_q149 : FC := ⟨194, A_q149, []⟩
abbrev F_q150 : Nat := 150
def A_q150_0 : LA := [mv 5 0, mv 6 1, o_ 7 (.call 220 [(.t 5), (.t 6)]), Wi 8 .geq 7 0, mv 4 8]
def A_q150 : ACode := (.seq (.ops [Wo 4 false]) (.seq (.ops A_q150_0) .ret))
def T_q150 : FC := ⟨9, A_q150, [.tmp 4]⟩
abbrev F_q151 : Nat := 151
def A_q151_0 : LA := [o_ 2 (.box 72 9 (.t 0)), Wo 3 false]
def A_q151_1 : LA := [Wf 4 6 2, Wl 5 4, Wl 6 1, Wi 7 .add 6 1, Wb 8 .eql 5 7, mv 3 8]
def A_q151 : ACode := (.seq (.ops A_q151_0) (.seq (.ops A_q151_1) .ret))
def T_q151 : FC := ⟨9, A_q151, [.tmp 3]⟩
abbrev F_q152 : Nat := 152
def A_q152_0 : LA := [o_ 3 (.box 21 1 (.t 1)), Wo 4 false]
def A_q152_1 : LA := [mv 5 0, o_ 6 (.mkfn 222 [] [(.t 3)]), o_ 7 (.call 221 [(.t 5), (.t 6)]), mv 4 7]
def A_q152 : ACode := (.seq (.ops A_q152_0) (.seq (.ops A_q152_1) .ret))
def T_q152 : FC := ⟨8, A_q152, [.tmp 4]⟩
abbrev F_q155 : Nat := 155
def A_q155_0 : LA := [mv 5 0, mv 6 1, o_ 7 (.call 224 [(.t 5), (.t 6)]), mv 4 7]
def A_q155 : ACode := (.seq (.ops [Wm 4 0]) (.seq (.ops A_q155_0) .ret))
def T_q155 : FC := ⟨8, A_q155, [.tmp 4]⟩
abbrev F_q156 : Nat := 156
def A_q156_0 : LA := [mv 4 0, o_ 5 (.call 225 [(.t 4)])]
def A_q156_1 : LA := [mv 6 1, Wi 7 .lss 6 0]
def A_q156_2 : LA := [mv 9 0, Wc 10 9, Wf 11 1 10, Wl 12 11, o_ 13 (.capk (.t 12)), mv 14 0, Wc 15 14, Wf 16 1 15, Wl 17 16, We 18 17, Wb 19 .sub 13 18, mv 20 1, Wb 21 .lss 19 20]
def A_q156_3 : LA := [mv 22 0, mv 23 1, o_ 24 (.call 226 [(.t 22), (.t 23)])]
def A_q156 : ACode := (.seq (.ops A_q156_0) (.seq (.seq (.ops A_q156_1) (.cond (.t 7) .bad .skip)) (.seq (.alts [9, 10, 11, 12, 13, 14, 15, 16, 17, 18, 19, 20, 21] [A_q156_2]) (.cond (.t 21) (.ops A_q156_3) .bad))))
def T_q156 : FC := ⟨25, A_q156, []⟩
abbrev F_q157 : Nat := 157
def A_q157_0 : LA := [Wm 4 0, o_ 5 (.mov (.c (.nili)))]
def A_q157_1 : LA := [mv 6 0, o_ 7 (.call 225 [(.t 6)])]
def A_q157_2 : LA := [mv 8 0, mv 9 0, Wc 10 9, Wf 11 1 10, Wl 12 11, mv 13 1, o_ 14 (.app 5 1 1 (.t 12) (.t 13)), Wc 15 8, Wf 16 1 15, Ws 1 16 14]
def A_q157_3 : LA := [mv 17 1, o_ 18 (.lens (.t 17)), mv 4 18, o_ 5 (.mov (.c (.nili)))]
def A_q157 : ACode := (.seq (.ops A_q157_0) (.seq (.ops A_q157_1) (.seq (.ops A_q157_2) (.seq (.ops A_q157_3) .ret))))
def T_q157 : FC := ⟨19, A_q157, [.tmp 4, .tmp 5]⟩
abbrev F_q158 : Nat := 158
def A_q158_0 : LA := [mv 3 0, Wc 4 3, Wf 5 1 4, Wl 6 5, o_ 7 (.usd (.t 6)), mv 8 0, Wc 9 8, Wf 10 1 9, Wl 11 10, We 12 11, o_ 13 (.ustr 5 (.t 7) (.t 12)), mv 2 13]
def A_q158 : ACode := (.seq (.ops [o_ 2 (.mov (.c (.str [])))]) (.seq (.alts [3, 4, 5, 6, 7, 8, 9, 10, 11, 12, 13, 2] [A_q158_0]) .ret))
def T_q158 : FC := ⟨14, A_q158, [.tmp 2]⟩
abbrev F_q159 : Nat := 159
def A_q159_0 : LA := [mv 10 1, Wi 11 .add 10 1, mv 8 11]
def A_q159_1 : LA := [mv 12 8, mv 13 2, Wb 14 .lss 12 13]
def A_q159_2 : LA := [mv 17 8, mv 9 17]
def A_q159_3 : LA := [mv 18 9, mv 19 1, Wb 20 .gtr 18 19, mv 21 20, Wgm 22 3 21, Wgm 23 0 21, Wgm 24 9 21, g_ 25 (.iaddr 108 3 (.t 23) (.t 24)) 21, g_ 26 (.lda 3 (.t 25)) 21, Wgm 27 0 21, Wgm 28 9 21, g_ 29 (.bini .sub (.t 28) (i_ 1)) 21, g_ 30 (.iaddr 108 3 (.t 27) (.t 29)) 21, g_ 31 (.lda 3 (.t 30)) 21, g_ 32 (.callv (.t 22) [(.t 26), (.t 31)]) 21, g_ 33 (.bini .lss (.t 32) (i_ 0)) 21, Wp 34 21 33]
def A_q159_4 : LA := [mv 37 0, mv 38 9, mv 39 0, mv 40 9, Wi 41 .sub 40 1, mv 42 0, mv 43 9, Wi 44 .sub 43 1, Wa 45 108 3 42 44, Wd 46 3 45, mv 47 0, mv 48 9, Wa 49 108 3 47 48, Wd 50 3 49, Wa 51 108 3 37 38, Ws 3 51 46, Wa 52 108 3 39 41, Ws 3 52 50]
def A_q159_5 : LA := [mv 35 9, Wi 36 .sub 35 1, mv 9 36]
def A_q159_6 : ACode := (.seq (.seq (.alts [18, 19, 20, 21, 22, 23, 24, 25, 26, 27, 28, 29, 30, 31, 32, 33, 34] [A_q159_3]) (.cond (.t 34) .skip (.exit 2))) (.seq (.block 3 (.alts [37, 38, 39, 40, 41, 42, 43, 44, 45, 46, 47, 48, 49, 50, 51, 52] [A_q159_4])) (.ops A_q159_5)))
def A_q159_7 : LA := [mv 15 8, Wi 16 .add 15 1, mv 8 16]
def A_q159_8 : ACode := (.seq (.seq (.ops A_q159_1) (.cond (.t 14) .skip (.exit 0))) (.seq (.block 1 (.seq (.ops A_q159_2) (.block 2 (.loop A_q159_6)))) (.ops A_q159_7)))
def A_q159 : ACode := (.seq (.ops A_q159_0) (.block 0 (.loop A_q159_8)))
def T_q159 : FC := ⟨53, A_q159, []⟩
abbrev F_q161 : Nat := 161
def A_q161_0 : LA := [mv 3 0, o_ 4 (.bini .eql (.t 3) (.c (.int .u8 1))), mv 5 4, Whm 6 0 5, Wh 7 (.bini .eql (.t 6) (.c (.int .u8 2))) 5, Wq 8 5 7, mv 2 8]
def A_q161 : ACode := (.seq (.ops [Wo 2 false]) (.seq (.ops A_q161_0) .ret))
def T_q161 : FC := ⟨9, A_q161, [.tmp 2]⟩
abbrev F_q162 : Nat := 162
def A_q162_0 : LA := [mv 8 1, We 9 8, Wm 10 0]
def A_q162_1 : LA := [Wa 12 9 1 8 10, Wl 13 12, mv 7 13]
def A_q162_2 : LA := [mv 14 5, mv 15 0, Wc 16 15, Wf 17 0 16, Wl 18 17, mv 19 7, o_ 20 (.mlook .s (.nilp) false (.t 18) (.t 19)), o_ 21 (.bslice 90 1 1 [.nilp] [(0, 1, (.t 20))]), o_ 22 (.app 90 1 8 (.t 14) (.t 21)), mv 5 22]
def A_q162_3 : LA := [Wi 23 .add 10 1, mv 10 23]
def A_q162_4 : ACode := (.seq (.ops [Wb 11 .lss 10 9]) (.seq (.cond (.t 11) .skip (.exit 0)) (.seq (.block 1 (.seq (.ops A_q162_1) (.ops A_q162_2))) (.ops A_q162_3))))
def A_q162_5 : LA := [mv 24 5, mv 4 24]
def A_q162 : ACode := (.seq (.ops [Wn 4]) (.seq (.ops [Wn 5]) (.seq (.seq (.ops A_q162_0) (.block 0 (.loop A_q162_4))) (.seq (.ops A_q162_5) .ret))))
def T_q162 : FC := ⟨25, A_q162, [.tmp 4]⟩
abbrev F_q163 : Nat := 163
def A_q163_0 : LA := [o_ 1 (.box 92 1 (.t 0)), o_ 2 (.mov (.c (.nilf)))]
def A_q163_1 : LA := [o_ 3 (.mkfn 228 [] [(.t 1)]), mv 2 3]
def A_q163 : ACode := (.seq (.ops A_q163_0) (.seq (.ops A_q163_1) .ret))
def T_q163 : FC := ⟨4, A_q163, [.tmp 2]⟩
abbrev F_q164 : Nat := 164
def A_q164_0 : LA := [o_ 5 (.box 304 1 (.t 1)), o_ 7 (.box 9 1 (.t 3)), o_ 8 (.box 9 1 (.c (.str []))), o_ 9 (.box 4 1 (.c (.bool false)))]
def A_q164_1 : LA := [Wl 22 7, o_ 23 (.call 229 [(.t 22), (.c (.str [46]))]), mv 21 23, Wx 24 0 21, Wx 25 1 21, mv 10 24, mv 11 25]
def A_q164_2 : LA := [Wl 29 7, o_ 30 (.call 230 [(.t 29), (.c (.str [46]))]), mv 28 30, Wx 31 0 28, Wx 32 1 28, Wx 33 2 28, o_ 12 (.box 9 1 (.c (.str []))), o_ 14 (.box 4 1 (.c (.bool false))), Ws 1 12 31, mv 13 32, Ws 1 14 33]
def A_q164_3 : LA := [mv 34 2, o_ 35 (.call 45 [(.t 34)])]
def A_q164_4 : LA := [mv 37 15, Wl 38 12, o_ 39 (.bslice 9 1 2 [.str []] [(0, 1, (.t 37)), (1, 1, (.t 38))]), o_ 40 (.call 47 [(.t 39)]), mv 16 40]
def A_q164_5 : LA := [Wl 41 5, We 42 41, Wm 43 0]
def A_q164_6 : LA := [Wa 45 90 1 41 43, Wl 46 45, mv 18 46]
def A_q164_7 : LA := [mv 47 18, Wc 48 47, Wf 49 6 48, Wl 50 49, mv 51 16, o_ 52 (.mlook .s (.int .u8 0) false (.t 50) (.t 51)), mv 19 52]
def A_q164_8 : LA := [Wl 53 14, mv 54 53, Wgm 55 18 54, g_ 56 (.nilc (.t 55)) 54, Wgf 57 0 56 54, Wgf 58 1 57 54, Wgl 59 58 54, Wgm 60 16 54, g_ 61 (.bins .eql (.t 59) (.t 60)) 54, Wgm 62 61 54, Whm 63 18 62, Wh 64 (.nilc (.t 63)) 62, Wh 65 (.faddr 0 (.t 64)) 62, Wh 66 (.faddr 1 (.t 65)) 62, Wh 67 (.ld1 (.t 66)) 62, Whm 68 16 62, Wh 69 (.bins .add (.t 68) (.c (.str [46]))) 62, Wh 70 (.call 231 [(.t 67), (.t 69)]) 62, g_ 71 (.pick (.t 62) (.c (.bool true)) (.t 70)) 54, Wp 72 54 71, mv 20 72]
def A_q164_9 : LA := [mv 73 19, o_ 74 (.bini .eql (.t 73) (.c (.int .u8 1))), mv 75 74, Wh 76 (.ld1 (.t 14)) 75, Wh 77 (.not (.t 76)) 75, Whm 78 77 75, Wgm 79 19 78, g_ 80 (.bini .eql (.t 79) (.c (.int .u8 2))) 78, Wh 81 (.pick (.t 78) (.t 80) (.c (.bool false))) 75, Wq 82 75 81, mv 83 82, Whm 84 20 83, Wq 85 83 84]
def A_q164_10 : LA := [mv 86 15, Wl 87 7, o_ 88 (.bslice 9 1 2 [.str []] [(0, 1, (.t 86)), (1, 1, (.t 87))]), o_ 89 (.call 47 [(.t 88)]), Ws 1 8 89, n_ (.st 1 (.t 9) (.c (.bool true)))]
def A_q164_11 : LA := [Wi 90 .add 43 1, mv 43 90]
def A_q164_12 : ACode := (.seq (.ops [Wb 44 .lss 43 42]) (.seq (.cond (.t 44) .skip (.exit 2)) (.seq (.block 3 (.seq (.ops A_q164_6) (.seq (.ops A_q164_7) (.seq (.ops A_q164_8) (.seq (.ops A_q164_9) (.cond (.t 85) (.seq (.ops A_q164_10) .ret) .skip)))))) (.ops A_q164_11))))
def A_q164_13 : LA := [n_ (.st 1 (.t 8) (.c (.str []))), n_ (.st 1 (.t 9) (.c (.bool false)))]
def A_q164 : ACode := (.seq (.ops A_q164_0) (.seq (.seq (.ops A_q164_1) (.seq (.ops [mv 26 11]) (.cond (.t 26) .bad .skip))) (.seq (.ops A_q164_2) (.seq (.seq (.ops A_q164_3) (.block 0 (.rngf (.t 35) [36] (.ops [mv 15 36]) (.block 1 (.seq (.ops A_q164_4) (.seq (.ops A_q164_5) (.block 2 (.loop A_q164_12)))))))) (.seq (.ops A_q164_13) .ret)))))
def T_q164 : FC := ⟨91, A_q164, [.cell1 8, .cell1 9]⟩
abbrev F_q165 : Nat := 165
def A_q165_0 : LA := [mv 8 0, We 9 8, Wm 10 0]
def A_q165_1 : LA := [Wa 12 90 1 8 10, Wl 13 12, mv 6 13]
def A_q165_2 : LA := [mv 14 6, Wc 15 14, Wf 16 6 15, Wl 17 16, mv 18 1, o_ 19 (.mlook .s (.int .u8 0) false (.t 17) (.t 18)), mv 7 19]
def A_q165_3 : LA := [mv 20 7, o_ 21 (.bini .neq (.t 20) (.c (.int .u8 0)))]
def A_q165_4 : LA := [mv 22 7, mv 4 22]
def A_q165_5 : LA := [Wi 23 .add 10 1, mv 10 23]
def A_q165_6 : ACode := (.seq (.ops [Wb 11 .lss 10 9]) (.seq (.cond (.t 11) .skip .bad) (.seq (.block 1 (.seq (.ops A_q165_1) (.seq (.ops A_q165_2) (.seq (.ops A_q165_3) (.cond (.t 21) (.seq (.ops A_q165_4) .ret) .bad))))) (.ops A_q165_5))))
def A_q165 : ACode := (.seq (.ops [o_ 4 (.mov (.c (.int .u8 0)))]) (.seq (.seq (.ops A_q165_0) (.block 0 (.loop A_q165_6))) (.seq (.ops [o_ 4 (.mov (.c (.int .u8 0)))]) .ret)))
def T_q165 : FC := ⟨24, A_q165, [.tmp 4]⟩
abbrev F_q178 : Nat := 178
def A_q178_0 : LA := [o_ 6 (.box 115 1 (.t 1)), o_ 8 (.box 9 1 (.t 3)), o_ 10 (.box 249 1 (.c (.nilp)))]
def A_q178_1 : LA := [mv 17 2, mv 18 4, o_ 19 (.bini .sub (i_ 100) (.t 18)), o_ 20 (.call 235 [(.t 17), (.t 19)]), mv 16 20, Wx 21 0 16, Wx 22 1 16, mv 11 21, mv 12 22]
def A_q178_2 : LA := [mv 23 11, Wi 24 .neq 23 0]
def A_q178_3 : LA := [mv 28 2, mv 29 4, o_ 30 (.bini .sub (i_ 100) (.t 29)), o_ 31 (.call 236 [(.t 28), (.t 30)])]
def A_q178_4 : LA := [o_ 13 (.box 370 5 (.c (.agg [.int .i32 (0), .int .u8 (0), .int .i64 (0), .int .u64 (0), .nils]))), Ws 5 13 32]
def A_q178_5 : LA := [Wl 34 6, Wf 35 0 13, Wl 36 35, o_ 37 (.call 71 [(.t 34), (.t 36)]), mv 33 37, Wx 38 0 33, Wx 39 1 33, o_ 14 (.box 174 9 (.c (.agg [.int .i32 (0), .str [], .str [], .int .u8 (0), .int .u8 (0), .int .u8 (0), .bool false, .int .i64 (0), .str []]))), Ws 9 14 38, mv 15 39]
def A_q178_6 : LA := [mv 40 15, mv 41 40, g_ 42 (.lda 9 (.t 14)) 41, Wgf 43 1 13 41, Wgl 44 43 41, g_ 45 (.call 237 [(.t 42), (.t 44)]) 41, Wp 46 41 45]
def A_q178_7 : LA := [Wl 47 8, o_ 48 (.build [.int .i64 (0), .str []] [(0, 1, (i_ 106)), (1, 1, (.t 47))]), o_ 49 (.box 252 2 (.t 48)), Ws 1 10 49]
def A_q178 : ACode := (.seq (.ops A_q178_0) (.seq (.seq (.ops A_q178_1) (.seq (.ops A_q178_2) (.cond (.t 24) .bad .skip))) (.seq (.seq (.ops A_q178_3) (.block 0 (.rngf (.t 31) [32] (.ops A_q178_4) (.block 1 (.seq (.ops A_q178_5) (.seq (.ops A_q178_6) (.cond (.t 46) (.seq (.ops A_q178_7) .ret) .skip))))))) (.seq (.ops [n_ (.st 1 (.t 10) (.c (.nilp)))]) .ret))))
def T_q178 : FC := ⟨50, A_q178, [.cell1 10]⟩
abbrev F_q184 : Nat := 184
def A_q184_0 : LA := [mv 7 0, o_ 8 (.call 190 [(.t 7)]), mv 6 8, Wx 9 0 6, Wx 10 1 6, Wx 11 2 6, mv 3 9, mv 4 10, mv 5 11]
def A_q184_1 : LA := [mv 12 5, o_ 13 (.not (.t 12))]
def A_q184_2 : LA := [mv 16 0, Wc 17 16, Wf 18 0 17, Wl 19 18, mv 20 3, mv 21 4, o_ 22 (.build [.nils, .int .i64 (0), .int .i64 (0), .int .i64 (0), .int .i64 0] [(0, 1, (.t 19)), (1, 1, (.t 20)), (2, 1, (.t 21))]), o_ 23 (.box 208 5 (.t 22)), mv 2 23]
def A_q184 : ACode := (.seq (.ops [o_ 2 (.mov (.c (.nilp)))]) (.seq (.ops A_q184_0) (.seq (.seq (.ops A_q184_1) (.cond (.t 13) .bad .skip)) (.seq (.ops A_q184_2) .ret))))
def T_q184 : FC := ⟨24, A_q184, [.tmp 2]⟩
abbrev F_q188 : Nat := 188
def A_q188_0 : LA := [o_ 8 (.bini .eql (.t 6) (.c (.int .u8 5))), mv 7 8]
def A_q188_1 : LA := [mv 10 1, o_ 11 (.conv .i32 (.t 10)), o_ 12 (.conv .i64 (.t 11)), o_ 13 (.conv .u64 (.t 12)), mv 4 13]
def A_q188 : ACode := (.seq (.ops [o_ 4 (.mov (.c (.int .u64 0)))]) (.seq (.ops [o_ 5 (.mov (.f 246))]) (.seq (.seq (.ops [mv 6 0]) (.block 0 (.seq (.seq (.ops A_q188_0) (.cond (.t 7) .skip .bad)) (.cond (.t 7) (.seq (.ops A_q188_1) .ret) .bad)))) (.seq (.ops [o_ 4 (.mov (.c (.int .u64 0)))]) .ret))))
def T_q188 : FC := ⟨39, A_q188, [.tmp 4]⟩
abbrev F_q189 : Nat := 189
def A_q189_0 : LA := [mv 6 0, Wc 7 6, Wf 8 3 7, Wl 9 8, Wi 10 .neq 9 0]
def A_q189_1 : LA := [mv 11 4, Wi 12 .lss 11 10]
def A_q189_2 : LA := [mv 15 0, Wc 16 15, Wf 17 1 16, Wl 18 17, mv 19 4, Wb 20 .add 18 19, mv 21 0, Wc 22 21, Wf 23 2 22, Wl 24 23, Wb 25 .geq 20 24]
def A_q189_3 : LA := [mv 26 0, mv 27 0, Wc 28 27, Wf 29 1 28, Wl 30 29, o_ 31 (.call 131 [(.t 26), (i_ 10), (.t 30)])]
def A_q189_4 : LA := [mv 32 0, Wc 33 32, Wf 34 0 33, Wl 35 34, mv 36 0, Wc 37 36, Wf 38 1 37, Wl 39 38, mv 40 4, Wb 41 .add 39 40, Wa 42 5 1 35 41, Wl 43 42, mv 5 43]
def A_q189_5 : LA := [mv 44 4, Wi 45 .eql 44 9, mv 46 45, Wgm 47 5 46, g_ 48 (.bini .gtr (.t 47) (.c (.int .u8 1))) 46, Wp 49 46 48]
def A_q189_6 : LA := [mv 50 3, mv 51 5, o_ 52 (.bini .and (.t 51) (.c (.int .u8 127))), o_ 53 (.conv .u64 (.t 52)), mv 54 4, o_ 55 (.bini .mul (i_ 7) (.t 54)), Wb 56 .shl 53 55, Wb 57 .or 50 56, mv 3 57]
def A_q189_7 : LA := [mv 58 5, o_ 59 (.bini .lss (.t 58) (.c (.int .u8 128)))]
def A_q189_8 : LA := [mv 60 0, Wc 61 60, Wf 62 1 61, Wl 63 62, mv 64 4, Wi 65 .add 64 1, Wb 66 .add 63 65, Wc 67 60, Wf 68 1 67, Ws 1 68 66]
def A_q189_9 : LA := [mv 69 3, mv 2 69]
def A_q189_10 : LA := [mv 13 4, Wi 14 .add 13 1, mv 4 14]
def A_q189_11 : ACode := (.seq (.seq (.ops A_q189_1) (.cond (.t 12) .skip .bad)) (.seq (.block 1 (.seq (.seq (.alts [15, 16, 17, 18, 19, 20, 21, 22, 23, 24, 25] [A_q189_2]) (.cond (.t 25) (.seq (.ops A_q189_3) (.seq (.ops [o_ 2 (.mov (.c (.int .u64 0)))]) .ret)) .skip)) (.seq (.alts [32, 33, 34, 35, 36, 37, 38, 39, 40, 41, 42, 43, 5] [A_q189_4]) (.seq (.seq (.ops A_q189_5) (.cond (.t 49) .bad .skip)) (.seq (.ops A_q189_6) (.seq (.ops A_q189_7) (.cond (.t 59) (.seq (.ops A_q189_8) (.seq (.ops A_q189_9) .ret)) .bad))))))) (.ops A_q189_10)))
def A_q189_12 : LA := [mv 70 0, mv 71 0, Wc 72 71, Wf 73 1 72, Wl 74 73, o_ 75 (.call 131 [(.t 70), (i_ 11), (.t 74)])]
def A_q189 : ACode := (.seq (.ops [o_ 2 (.mov (.c (.int .u64 0)))]) (.seq (.ops [o_ 3 (.mov (.c (.int .u64 0)))]) (.seq (.seq (.ops A_q189_0) (.cond (.t 10) .bad .skip)) (.seq (.seq (.ops [Wm 4 0]) (.block 0 (.loop A_q189_11))) (.seq (.ops A_q189_12) (.seq (.ops [o_ 2 (.mov (.c (.int .u64 0)))]) .ret))))))
def T_q189 : FC := ⟨76, A_q189, [.tmp 2]⟩
abbrev F_q190 : Nat := 190
def A_q190_0 : LA := [Wm 2 0, Wm 3 0, Wo 4 false]
def A_q190_1 : LA := [mv 8 0, Wc 9 8, Wf 10 1 9, Wl 11 10, mv 5 11]
def A_q190_2 : LA := [mv 12 0, o_ 13 (.call 189 [(.t 12)]), mv 6 13]
def A_q190_3 : LA := [mv 14 0, Wc 15 14, Wf 16 3 15, Wl 17 16, Wi 18 .eql 17 0, mv 19 18, Wgm 20 6 19, Wgm 21 0 19, g_ 22 (.nilc (.t 21)) 19, Wgf 23 2 22 19, Wgl 24 23 19, Wgm 25 0 19, g_ 26 (.nilc (.t 25)) 19, Wgf 27 1 26 19, Wgl 28 27 19, g_ 29 (.bini .sub (.t 24) (.t 28)) 19, g_ 30 (.conv .u64 (.t 29)) 19, g_ 31 (.bini .gtr (.t 20) (.t 30)) 19, Wp 32 19 31]
def A_q190_4 : LA := [mv 40 0, Wc 41 40, Wf 42 3 41, Wl 43 42, Wi 44 .neq 43 0]
def A_q190_5 : LA := [mv 45 0, Wc 46 45, Wf 47 1 46, Wl 48 47, mv 7 48]
def A_q190_6 : LA := [mv 49 0, Wc 50 49, Wf 51 1 50, Wl 52 51, mv 53 6, o_ 54 (.conv .i64 (.t 53)), Wb 55 .add 52 54, Wc 56 49, Wf 57 1 56, Ws 1 57 55]
def A_q190_7 : LA := [mv 58 7, mv 59 0, Wc 60 59, Wf 61 1 60, Wl 62 61, mv 2 58, mv 3 62, Wo 4 true]
def A_q190 : ACode := (.seq (.ops A_q190_0) (.seq (.ops A_q190_1) (.seq (.ops A_q190_2) (.seq (.seq (.alts [14, 15, 16, 17, 18, 19, 20, 21, 22, 23, 24, 25, 26, 27, 28, 29, 30, 31, 32] [A_q190_3]) (.cond (.t 32) .bad .skip)) (.seq (.seq (.ops A_q190_4) (.cond (.t 44) .bad .skip)) (.seq (.ops A_q190_5) (.seq (.ops A_q190_6) (.seq (.alts [58, 59, 60, 61, 62, 2, 3, 4] [A_q190_7]) .ret))))))))
def T_q190 : FC := ⟨63, A_q190, [.tmp 2, .tmp 3, .tmp 4]⟩
abbrev F_q192 : Nat := 192
def A_q192_0 : LA := [o_ 2 (.box 210 1 (.t 0)), Wn 4]
def A_q192_1 : LA := [Wl 8 2, mv 9 5, o_ 10 (.bslice 21 1 1 [.int .i32 0] [(0, 1, (.t 9))]), o_ 11 (.app 21 1 4 (.t 8) (.t 10)), Ws 1 2 11]
def A_q192_2 : LA := [Wl 12 2, mv 4 12]
def A_q192 : ACode := (.seq (.ops A_q192_0) (.seq (.seq (.ops [mv 6 1]) (.block 0 (.rngf (.t 6) [7] (.ops [mv 5 7]) (.block 1 (.ops A_q192_1))))) (.seq (.ops A_q192_2) .ret)))
def T_q192 : FC := ⟨13, A_q192, [.tmp 4]⟩
abbrev F_q193 : Nat := 193
def A_q193_0 : LA := [mv 19 2, mv 20 1, Wb 21 .sub 19 20, mv 10 21]
def A_q193_1 : LA := [mv 22 10, Wi 23 .leq 22 12]
def A_q193_2 : LA := [mv 24 0, mv 25 1, mv 26 2, o_ 27 (.call 247 [(.t 24), (.t 25), (.t 26)])]
def A_q193_3 : ACode := (.block 1 (.seq (.ops A_q193_0) (.seq (.seq (.ops A_q193_1) (.cond (.t 23) (.seq (.ops A_q193_2) .ret) .bad)) .bad)))
def A_q193 : ACode := (.seq (.ops [Wo 8 true]) (.seq (.ops [Wo 9 true]) (.block 0 (.loop A_q193_3))))
def T_q193 : FC := ⟨134, A_q193, []⟩
abbrev F_q206 : Nat := 206
def A_q206_0 : LA := [mv 12 3, Wi 13 .eql 12 0]
def A_q206_1 : LA := [mv 14 1, o_ 15 (.bins .eql (.t 14) (.c (.str [])))]
def A_q206_2 : LA := [mv 19 3, Wi 20 .lss 19 0]
def A_q206_3 : LA := [mv 21 0, mv 22 1, o_ 23 (.call 260 [(.t 21), (.t 22)]), Wi 24 .add 23 1, mv 3 24]
def A_q206_4 : LA := [mv 25 3, mv 26 0, o_ 27 (.lens (.t 26)), Wi 28 .add 27 1, o_ 29 (.mn (.t 25) (.t 28)), mv 3 29]
def A_q206_5 : LA := [mv 30 3, o_ 31 (.mkslice 9 1 16 [.str []] (.t 30) (.t 30)), mv 9 31]
def A_q206_6 : LA := [mv 32 3, Wi 33 .sub 32 1, mv 3 33]
def A_q206_7 : LA := [mv 34 10, mv 35 3, Wb 36 .lss 34 35]
def A_q206_8 : ACode := (.seq (.seq (.ops A_q206_7) (.cond (.t 36) .bad (.exit 0))) .bad)
def A_q206_9 : LA := [mv 58 9, mv 59 10, mv 60 0, Wa 61 9 1 58 59, Ws 1 61 60]
def A_q206_10 : LA := [mv 62 9, mv 63 10, Wi 64 .add 63 1, o_ 65 (.slcl 9 1 (.t 62) none (some (.t 64)) none), mv 8 65]
def A_q206 : ACode := (.seq (.ops [Wn 8]) (.seq (.seq (.ops A_q206_0) (.cond (.t 13) .bad .skip)) (.seq (.seq (.ops A_q206_1) (.cond (.t 15) .bad .skip)) (.seq (.seq (.ops A_q206_2) (.cond (.t 20) (.ops A_q206_3) .bad)) (.seq (.ops A_q206_4) (.seq (.ops A_q206_5) (.seq (.ops A_q206_6) (.seq (.ops [Wm 10 0]) (.seq (.block 0 (.loop A_q206_8)) (.seq (.ops A_q206_9) (.seq (.ops A_q206_10) .ret)))))))))))
def T_q206 : FC := ⟨66, A_q206, [.tmp 8]⟩
abbrev F_q207 : Nat := 207
def A_q207_0 : LA := [mv 3 0, o_ 4 (.bini .geq (.t 3) (.c (.int .u8 48))), mv 5 4, Wgm 6 0 5, g_ 7 (.bini .leq (.t 6) (.c (.int .u8 57))) 5, Wp 8 5 7, mv 2 8]
def A_q207 : ACode := (.seq (.ops [Wo 2 false]) (.seq (.ops A_q207_0) .ret))
def T_q207 : FC := ⟨9, A_q207, [.tmp 2]⟩
abbrev F_q208 : Nat := 208
def A_q208_0 : LA := [mv 3 0, o_ 4 (.bini .geq (.t 3) (.c (.int .u8 97))), mv 5 4, Wgm 6 0 5, g_ 7 (.bini .leq (.t 6) (.c (.int .u8 122))) 5, Wp 8 5 7, mv 2 8]
def A_q208 : ACode := (.seq (.ops [Wo 2 false]) (.seq (.ops A_q208_0) .ret))
def T_q208 : FC := ⟨9, A_q208, [.tmp 2]⟩
abbrev F_q209 : Nat := 209
def A_q209_0 : LA := [mv 3 0, o_ 4 (.bini .geq (.t 3) (.c (.int .u8 65))), mv 5 4, Wgm 6 0 5, g_ 7 (.bini .leq (.t 6) (.c (.int .u8 90))) 5, Wp 8 5 7, mv 2 8]
def A_q209 : ACode := (.seq (.ops [Wo 2 false]) (.seq (.ops A_q209_0) .ret))
def T_q209 : FC := ⟨9, A_q209, [.tmp 2]⟩
abbrev F_q210 : Nat := 210
def A_q210_0 : LA := [mv 3 0, o_ 4 (.bini .geq (.t 3) (.c (.int .i32 1))), mv 5 4, Wgm 6 0 5, g_ 7 (.bini .leq (.t 6) (.c (.int .i32 536870911))) 5, Wp 8 5 7, mv 9 8, Wgm 10 0 9, g_ 11 (.bini .lss (.t 10) (.c (.int .i32 19000))) 9, Wgm 12 11 9, Whm 13 0 12, Wh 14 (.bini .gtr (.t 13) (.c (.int .i32 19999))) 12, g_ 15 (.pick (.t 12) (.c (.bool true)) (.t 14)) 9, Wp 16 9 15, mv 2 16]
def A_q210 : ACode := (.seq (.ops [Wo 2 false]) (.seq (.ops A_q210_0) .ret))
def T_q210 : FC := ⟨17, A_q210, [.tmp 2]⟩
abbrev F_q211 : Nat := 211
def A_q211_0 : LA := [o_ 2 (.box 72 9 (.t 0)), Wo 3 false]
def A_q211_1 : LA := [Wf 4 1 2, Wl 5 4, Wf 6 1 1, Wl 7 6, Wb 8 .eql 5 7, mv 3 8]
def A_q211 : ACode := (.seq (.ops A_q211_0) (.seq (.ops A_q211_1) .ret))
def T_q211 : FC := ⟨9, A_q211, [.tmp 3]⟩
abbrev F_q212 : Nat := 212
def A_q212_0 : LA := [mv 3 0, o_ 4 (.bini .geq (.t 3) (.c (.int .u8 1))), mv 5 4, Wgm 6 0 5, g_ 7 (.bini .leq (.t 6) (.c (.int .u8 18))) 5, Wp 8 5 7, mv 9 8, Wgm 10 0 9, g_ 11 (.bini .neq (.t 10) (.c (.int .u8 10))) 9, Wp 12 9 11, mv 2 12]
def A_q212 : ACode := (.seq (.ops [Wo 2 false]) (.seq (.ops A_q212_0) .ret))
def T_q212 : FC := ⟨13, A_q212, [.tmp 2]⟩
abbrev F_q213 : Nat := 213
def A_q213_0 : LA := [mv 3 0, o_ 4 (.bini .eql (.t 3) (.c (.int .u8 0))), mv 5 4, Whm 6 0 5, Wh 7 (.bini .eql (.t 6) (.c (.int .u8 11))) 5, Wq 8 5 7, mv 9 8, Whm 10 0 9, Wh 11 (.bini .eql (.t 10) (.c (.int .u8 14))) 9, Wq 12 9 11, mv 2 12]
def A_q213 : ACode := (.seq (.ops [Wo 2 false]) (.seq (.ops A_q213_0) .ret))
def T_q213 : FC := ⟨13, A_q213, [.tmp 2]⟩
abbrev F_q214 : Nat := 214
def A_q214_0 : LA := [mv 6 0, o_ 7 (.call 229 [(.t 6), (.c (.str [46]))]), mv 5 7, Wx 8 0 5, Wx 9 1 5, mv 3 8, mv 4 9]
def A_q214_1 : LA := [mv 18 0, o_ 19 (.call 94 [(.t 18)]), mv 2 19]
def A_q214 : ACode := (.seq (.ops [Wo 2 false]) (.seq (.seq (.ops A_q214_0) (.seq (.ops [mv 10 4]) (.cond (.t 10) .bad .skip))) (.seq (.ops A_q214_1) .ret)))
def T_q214 : FC := ⟨20, A_q214, [.tmp 2]⟩
abbrev F_q215 : Nat := 215
def A_q215_0 : LA := [mv 3 0, o_ 4 (.call 212 [(.t 3)]), mv 5 4, Wgm 6 0 5, g_ 7 (.bini .neq (.t 6) (.c (.int .u8 1))) 5, Wp 8 5 7, mv 9 8, Wgm 10 0 9, g_ 11 (.bini .neq (.t 10) (.c (.int .u8 2))) 9, Wp 12 9 11, mv 13 12, Wgm 14 0 13, g_ 15 (.bini .neq (.t 14) (.c (.int .u8 12))) 13, Wp 16 13 15, mv 17 16, Wgm 18 0 17, g_ 19 (.bini .neq (.t 18) (.c (.int .u8 11))) 17, Wp 20 17 19, mv 21 20, Wgm 22 0 21, g_ 23 (.bini .neq (.t 22) (.c (.int .u8 14))) 21, Wp 24 21 23, mv 2 24]
def A_q215 : ACode := (.seq (.ops [Wo 2 false]) (.seq (.ops A_q215_0) .ret))
def T_q215 : FC := ⟨25, A_q215, [.tmp 2]⟩
abbrev F_q217 : Nat := 217
def A_q217_0 : LA := [mv 7 0, o_ 8 (.rngs (.t 7))]
def A_q217_1 : LA := [o_ 9 (.nxs (.t 8)), Wx 10 0 9]
def A_q217_2 : ACode := (.seq (.ops A_q217_1) (.seq (.cond (.t 10) .bad (.exit 0)) .bad))
def A_q217 : ACode := (.seq (.ops [Wm 2 0]) (.seq (.seq (.ops A_q217_0) (.block 0 (.loop A_q217_2))) (.seq (.ops [Wm 2 (-1)]) .ret)))
def T_q217 : FC := ⟨25, A_q217, [.tmp 2]⟩
abbrev F_q218 : Nat := 218
def A_q218_0 : LA := [mv 5 0, mv 6 1, o_ 7 (.call 261 [(.t 5), (.t 6)]), Wi 8 .geq 7 0, mv 4 8]
def A_q218 : ACode := (.seq (.ops [Wo 4 false]) (.seq (.ops A_q218_0) .ret))
def T_q218 : FC := ⟨9, A_q218, [.tmp 4]⟩
abbrev F_q219 : Nat := 219
def A_q219_0 : LA := [o_ 1 (.box 72 9 (.t 0)), o_ 2 (.mov (.c (.str [])))]
def A_q219_1 : LA := [Wf 3 8 1, Wl 4 3, o_ 5 (.bins .neq (.t 4) (.c (.str [])))]
def A_q219_2 : LA := [Wf 8 0 1, Wl 9 8, o_ 10 (.call 263 [(.t 9)]), mv 2 10]
def A_q219 : ACode := (.seq (.ops A_q219_0) (.seq (.seq (.ops A_q219_1) (.cond (.t 5) .bad .skip)) (.seq (.ops A_q219_2) .ret)))
def T_q219 : FC := ⟨11, A_q219, [.tmp 2]⟩
abbrev F_q220 : Nat := 220
def A_q220_0 : LA := [mv 6 0, We 7 6, Wm 8 0]
def A_q220_1 : LA := [mv 10 8, mv 5 10]
def A_q220_2 : LA := [mv 11 1, mv 12 0, mv 13 5, Wa 14 72 9 12 13, Wd 15 9 14, o_ 16 (.callv (.t 11) [(.t 15)])]
def A_q220_3 : LA := [mv 17 5, mv 4 17]
def A_q220_4 : LA := [Wi 18 .add 8 1, mv 8 18]
def A_q220_5 : ACode := (.seq (.ops [Wb 9 .lss 8 7]) (.seq (.cond (.t 9) .skip (.exit 0)) (.seq (.block 1 (.seq (.ops A_q220_1) (.seq (.ops A_q220_2) (.cond (.t 16) (.seq (.ops A_q220_3) .ret) .skip)))) (.ops A_q220_4))))
def A_q220 : ACode := (.seq (.ops [Wm 4 0]) (.seq (.seq (.ops A_q220_0) (.block 0 (.loop A_q220_5))) (.seq (.ops [Wm 4 (-1)]) .ret)))
def T_q220 : FC := ⟨19, A_q220, [.tmp 4]⟩
abbrev F_q221 : Nat := 221
def A_q221_0 : LA := [mv 5 0, mv 6 1, o_ 7 (.call 264 [(.t 5), (.t 6)]), Wi 8 .geq 7 0, mv 4 8]
def A_q221 : ACode := (.seq (.ops [Wo 4 false]) (.seq (.ops A_q221_0) .ret))
def T_q221 : FC := ⟨9, A_q221, [.tmp 4]⟩
abbrev F_q224 : Nat := 224
def A_q224_0 : LA := [mv 6 0, o_ 7 (.lens (.t 6)), Wi 8 .sub 7 1, mv 5 8]
def A_q224_1 : LA := [mv 9 5, Wi 10 .geq 9 0]
def A_q224_2 : LA := [mv 13 0, mv 14 5, o_ 15 (.idxs (.t 13) (.t 14)), mv 16 1, Wb 17 .eql 15 16]
def A_q224_3 : LA := [mv 11 5, Wi 12 .sub 11 1, mv 5 12]
def A_q224_4 : ACode := (.seq (.seq (.ops A_q224_1) (.cond (.t 10) .skip (.exit 0))) (.seq (.block 1 (.seq (.ops A_q224_2) (.cond (.t 17) .bad .skip))) (.ops A_q224_3)))
def A_q224 : ACode := (.seq (.ops [Wm 4 0]) (.seq (.seq (.ops A_q224_0) (.block 0 (.loop A_q224_4))) (.seq (.ops [Wm 4 (-1)]) .ret)))
def T_q224 : FC := ⟨19, A_q224, [.tmp 4]⟩
abbrev F_q225 : Nat := 225
def A_q225_0 : LA := [mv 2 0, Wc 3 2, Wf 4 0 3, Wl 5 4, o_ 6 (.isnil .pt false (.t 5))]
def A_q225_1 : LA := [mv 7 0, mv 8 0, o_ 9 (.upc (.t 8)), mv 10 9, o_ 11 (.upt 296 (.t 10)), Wc 12 7, Wf 13 0 12, Ws 1 13 11]
def A_q225_2 : LA := [mv 14 0, Wc 15 14, Wf 16 0 15, Wl 17 16, mv 18 0, o_ 19 (.peq true (.t 17) (.t 18))]
def A_q225 : ACode := (.seq (.ops A_q225_0) (.cond (.t 6) (.ops A_q225_1) (.seq (.ops A_q225_2) (.cond (.t 19) .bad .skip))))
def T_q225 : FC := ⟨20, A_q225, []⟩
abbrev F_q226 : Nat := 226
def A_q226_0 : LA := [mv 5 0, Wc 6 5, Wf 7 1 6, Wl 8 7, o_ 9 (.capk (.t 8)), o_ 10 (.bini .mul (i_ 2) (.t 9)), mv 11 1, Wb 12 .add 10 11, mv 14 0, Wc 15 14, Wf 16 1 15, Wl 17 16, We 18 17, o_ 13 (.mnz 5 (.t 12)), o_ 19 (.slcl 5 1 (.t 13) none (some (.t 18)) none), mv 4 19]
def A_q226_1 : LA := [mv 20 4, mv 21 0, Wc 22 21, Wf 23 1 22, Wl 24 23, o_ 25 (.cpy 5 1 (.t 20) (.t 24))]
def A_q226_2 : LA := [mv 26 0, mv 27 4, Wc 28 26, Wf 29 1 28, Ws 1 29 27]
def A_q226 : ACode := (.seq (.alts [5, 6, 7, 8, 9, 10, 11, 12, 13, 14, 15, 16, 17, 18, 19, 4] [A_q226_0]) (.seq (.ops A_q226_1) (.ops A_q226_2)))
def T_q226 : FC := ⟨30, A_q226, []⟩
abbrev F_q228 : Nat := 228
def A_q228_0 : LA := [Wl 4 1, o_ 5 (.rngm (.t 4))]
def A_q228_1 : LA := [o_ 6 (.nxm (.t 5)), Wx 7 0 6]
def A_q228_2 : LA := [o_ 8 (.entr (.t 5)), Wx 9 0 8, mv 3 9]
def A_q228_3 : LA := [mv 10 0, mv 11 3, o_ 12 (.callv (.t 10) [(.t 11)]), o_ 13 (.not (.t 12))]
def A_q228_4 : ACode := (.seq (.ops A_q228_1) (.seq (.cond (.t 7) .skip (.exit 0)) (.block 1 (.seq (.ops A_q228_2) (.seq (.ops A_q228_3) (.cond (.t 13) .bad .skip))))))
def A_q228 : ACode := (.seq (.ops A_q228_0) (.block 0 (.loop A_q228_4)))
def T_q228 : FC := ⟨14, A_q228, []⟩
abbrev F_q229 : Nat := 229
def A_q229_0 : LA := [o_ 4 (.mov (.c (.str []))), Wo 5 false]
def A_q229_1 : LA := [mv 6 0, mv 7 1, o_ 8 (.call 268 [(.t 6), (.t 7)]), Wx 9 0 8, Wx 10 1 8, mv 4 9, mv 5 10]
def A_q229 : ACode := (.seq (.ops A_q229_0) (.seq (.ops A_q229_1) .ret))
def T_q229 : FC := ⟨11, A_q229, [.tmp 4, .tmp 5]⟩
abbrev F_q230 : Nat := 230
def A_q230_0 : LA := [o_ 4 (.mov (.c (.str []))), o_ 5 (.mov (.c (.str []))), Wo 6 false]
def A_q230_1 : LA := [mv 7 0, mv 8 1, o_ 9 (.call 269 [(.t 7), (.t 8)]), Wx 10 0 9, Wx 11 1 9, Wx 12 2 9, mv 4 10, mv 5 11, mv 6 12]
def A_q230 : ACode := (.seq (.ops A_q230_0) (.seq (.ops A_q230_1) .ret))
def T_q230 : FC := ⟨13, A_q230, [.tmp 4, .tmp 5, .tmp 6]⟩
abbrev F_q235 : Nat := 235
def A_q235_0 : LA := [Wm 4 0, Wm 5 0]
def A_q235_1 : LA := [mv 12 0, o_ 13 (.call 37 [(.t 12)]), mv 6 13]
def A_q235_2 : LA := [mv 14 6, o_ 15 (.call 74 [(.t 14)]), Wi 16 .gtr 15 0]
def A_q235_3 : ACode := (.seq (.seq (.ops A_q235_2) (.cond (.t 16) .bad (.exit 0))) .bad)
def A_q235_4 : LA := [mv 41 6, o_ 42 (.call 133 [(.t 41)]), Wx 43 0 42, Wx 44 1 42, mv 4 43, mv 5 44]
def A_q235 : ACode := (.seq (.ops A_q235_0) (.seq (.ops A_q235_1) (.seq (.block 0 (.loop A_q235_3)) (.seq (.ops A_q235_4) .ret))))
def T_q235 : FC := ⟨45, A_q235, [.tmp 4, .tmp 5]⟩
abbrev F_q236 : Nat := 236
def A_q236_0 : LA := [o_ 3 (.box 3 1 (.t 1)), o_ 4 (.mov (.c (.nilf)))]
def A_q236_1 : LA := [mv 6 0, o_ 7 (.call 70 [(.t 6)]), o_ 5 (.box 39 1 (.c (.nils))), Ws 1 5 7]
def A_q236_2 : LA := [o_ 8 (.mkfn 272 [] [(.t 5), (.t 3)]), mv 4 8]
def A_q236 : ACode := (.seq (.ops A_q236_0) (.seq (.ops A_q236_1) (.seq (.ops A_q236_2) .ret)))
def T_q236 : FC := ⟨9, A_q236, [.tmp 4]⟩
abbrev F_q247 : Nat := 247
def A_q247_0 : LA := [mv 8 1, Wi 9 .add 8 1, mv 6 9]
def A_q247_1 : LA := [mv 10 6, mv 11 2, Wb 12 .lss 10 11]
def A_q247_2 : LA := [mv 15 6, mv 7 15]
def A_q247_3 : LA := [mv 16 7, mv 17 1, Wb 18 .gtr 16 17, mv 19 18, Wgm 20 0 19, Wgm 21 7 19, g_ 22 (.iaddr 21 1 (.t 20) (.t 21)) 19, Wgl 23 22 19, Wgm 24 0 19, Wgm 25 7 19, g_ 26 (.bini .sub (.t 25) (i_ 1)) 19, g_ 27 (.iaddr 21 1 (.t 24) (.t 26)) 19, Wgl 28 27 19, g_ 29 (.call 253 [(.t 23), (.t 28)]) 19, Wp 30 19 29]
def A_q247_4 : LA := [mv 33 0, mv 34 7, mv 35 0, mv 36 7, Wi 37 .sub 36 1, mv 38 0, mv 39 7, Wi 40 .sub 39 1, Wa 41 21 1 38 40, Wl 42 41, mv 43 0, mv 44 7, Wa 45 21 1 43 44, Wl 46 45, Wa 47 21 1 33 34, Ws 1 47 42, Wa 48 21 1 35 37, Ws 1 48 46]
def A_q247_5 : LA := [mv 31 7, Wi 32 .sub 31 1, mv 7 32]
def A_q247_6 : ACode := (.seq (.seq (.alts [16, 17, 18, 19, 20, 21, 22, 23, 24, 25, 26, 27, 28, 29, 30] [A_q247_3]) (.cond (.t 30) .skip (.exit 2))) (.seq (.block 3 (.alts [33, 34, 35, 36, 37, 38, 39, 40, 41, 42, 43, 44, 45, 46, 47, 48] [A_q247_4])) (.ops A_q247_5)))
def A_q247_7 : LA := [mv 13 6, Wi 14 .add 13 1, mv 6 14]
def A_q247_8 : ACode := (.seq (.seq (.ops A_q247_1) (.cond (.t 12) .skip (.exit 0))) (.seq (.block 1 (.seq (.ops A_q247_2) (.block 2 (.loop A_q247_6)))) (.ops A_q247_7)))
def A_q247 : ACode := (.seq (.ops A_q247_0) (.block 0 (.loop A_q247_8)))
def T_q247 : FC := ⟨49, A_q247, []⟩
abbrev F_q253 : Nat := 253
def A_q253_0 : LA := [mv 5 0, o_ 6 (.call 291 [(.t 5)]), mv 7 6, Wgm 8 1 7, g_ 9 (.call 291 [(.t 8)]) 7, g_ 10 (.not (.t 9)) 7, Wp 11 7 10, mv 12 11, Whm 13 0 12, Whm 14 1 12, Wh 15 (.bini .lss (.t 13) (.t 14)) 12, Wq 16 12 15, mv 4 16]
def A_q253 : ACode := (.seq (.ops [Wo 4 false]) (.seq (.ops A_q253_0) .ret))
def T_q253 : FC := ⟨17, A_q253, [.tmp 4]⟩
abbrev F_q260 : Nat := 260
def A_q260_0 : LA := [mv 7 1, o_ 8 (.lens (.t 7)), Wi 9 .eql 8 0]
def A_q260_1 : LA := [mv 13 1, o_ 14 (.lens (.t 13)), Wi 15 .eql 14 1]
def A_q260_2 : LA := [mv 16 0, mv 17 1, o_ 18 (.idxs (.t 17) (i_ 0)), o_ 19 (.xcount (.t 16) (.t 18)), mv 4 19]
def A_q260 : ACode := (.seq (.ops [Wm 4 0]) (.seq (.seq (.ops A_q260_0) (.cond (.t 9) .bad .skip)) (.seq (.seq (.ops A_q260_1) (.cond (.t 15) (.seq (.ops A_q260_2) .ret) .bad)) .bad)))
def T_q260 : FC := ⟨34, A_q260, [.tmp 4]⟩
abbrev F_q261 : Nat := 261
def A_q261_0 : LA := [mv 5 0, mv 6 1, o_ 7 (.call 295 [(.t 5), (.t 6)]), mv 4 7]
def A_q261 : ACode := (.seq (.ops [Wm 4 0]) (.seq (.ops A_q261_0) .ret))
def T_q261 : FC := ⟨8, A_q261, [.tmp 4]⟩
abbrev F_q263 : Nat := 263
def A_q263_0 : LA := [mv 7 0, o_ 8 (.lens (.t 7)), Wm 9 0]
def A_q263_1 : LA := [mv 11 9, mv 5 11]
def A_q263_2 : LA := [mv 12 0, mv 13 5, o_ 14 (.idxs (.t 12) (.t 13)), mv 6 14]
def A_q263_3 : LA := [mv 15 6, o_ 16 (.bini .eql (.t 15) (.c (.int .u8 95)))]
def A_q263_4 : LA := [mv 17 4, mv 18 17, Wgm 19 6 18, g_ 20 (.call 208 [(.t 19)]) 18, Wp 21 18 20]
def A_q263_5 : LA := [mv 24 6, o_ 25 (.call 297 [(.t 3), (.t 24)])]
def A_q263_6 : LA := [Wi 26 .add 9 1, mv 9 26]
def A_q263_7 : ACode := (.seq (.ops [Wb 10 .lss 9 8]) (.seq (.cond (.t 10) .skip (.exit 0)) (.seq (.block 1 (.seq (.ops A_q263_1) (.seq (.ops A_q263_2) (.seq (.seq (.ops A_q263_3) (.cond (.t 16) .bad .skip)) (.seq (.seq (.ops A_q263_4) (.cond (.t 21) .bad .skip)) (.seq (.ops A_q263_5) (.ops [Wo 4 false]))))))) (.ops A_q263_6))))
def A_q263_8 : LA := [o_ 27 (.call 158 [(.t 3)]), mv 2 27]
def A_q263 : ACode := (.seq (.ops [o_ 2 (.mov (.c (.str [])))]) (.seq (.ops [o_ 3 (.box 296 2 (.c (.agg [.nilp, .nils])))]) (.seq (.ops [Wo 4 false]) (.seq (.seq (.ops A_q263_0) (.block 0 (.loop A_q263_7))) (.seq (.ops A_q263_8) .ret)))))
def T_q263 : FC := ⟨28, A_q263, [.tmp 2]⟩
abbrev F_q264 : Nat := 264
def A_q264_0 : LA := [mv 6 0, We 7 6, Wm 8 0]
def A_q264_1 : ACode := (.seq (.ops [Wb 9 .lss 8 7]) (.seq (.cond (.t 9) .bad (.exit 0)) .bad))
def A_q264 : ACode := (.seq (.ops [Wm 4 0]) (.seq (.seq (.ops A_q264_0) (.block 0 (.loop A_q264_1))) (.seq (.ops [Wm 4 (-1)]) .ret)))
def T_q264 : FC := ⟨19, A_q264, [.tmp 4]⟩
abbrev F_q268 : Nat := 268
def A_q268_0 : LA := [o_ 4 (.mov (.c (.str []))), Wo 5 false]
def A_q268_1 : LA := [mv 6 0, mv 7 1, o_ 8 (.call 270 [(.t 6), (.t 7)]), o_ 9 (.not (.t 8))]
def A_q268_2 : LA := [mv 10 0, mv 4 10, Wo 5 false]
def A_q268 : ACode := (.seq (.ops A_q268_0) (.seq (.seq (.ops A_q268_1) (.cond (.t 9) (.seq (.ops A_q268_2) .ret) .bad)) .bad))
def T_q268 : FC := ⟨15, A_q268, [.tmp 4, .tmp 5]⟩
abbrev F_q269 : Nat := 269
def A_q269_0 : LA := [o_ 4 (.mov (.c (.str []))), o_ 5 (.mov (.c (.str []))), Wo 6 false]
def A_q269_1 : LA := [mv 8 0, mv 9 1, o_ 10 (.call 295 [(.t 8), (.t 9)]), mv 7 10]
def A_q269_2 : LA := [mv 11 7, Wi 12 .geq 11 0]
def A_q269_3 : LA := [mv 22 0, mv 4 22, o_ 5 (.mov (.c (.str []))), Wo 6 false]
def A_q269 : ACode := (.seq (.ops A_q269_0) (.seq (.seq (.ops A_q269_1) (.seq (.ops A_q269_2) (.cond (.t 12) .bad .skip))) (.seq (.ops A_q269_3) .ret)))
def T_q269 : FC := ⟨23, A_q269, [.tmp 4, .tmp 5, .tmp 6]⟩
abbrev F_q270 : Nat := 270
def A_q270_0 : LA := [mv 5 0, o_ 6 (.lens (.t 5)), mv 7 1, o_ 8 (.lens (.t 7)), Wb 9 .geq 6 8, mv 10 9, Wgm 11 0 10, Wgm 12 1 10, g_ 13 (.lens (.t 12)) 10, g_ 14 (.slcs (.t 11) none (some (.t 13))) 10, Wgm 15 1 10, g_ 16 (.bins .eql (.t 14) (.t 15)) 10, Wp 17 10 16, mv 4 17]
def A_q270 : ACode := (.seq (.ops [Wo 4 false]) (.seq (.ops A_q270_0) .ret))
def T_q270 : FC := ⟨18, A_q270, [.tmp 4]⟩
abbrev F_q272 : Nat := 272
def A_q272_0 : LA := [Wl 7 1, o_ 8 (.call 37 [(.t 7)]), mv 4 8]
def A_q272_1 : LA := [mv 9 4, o_ 10 (.call 74 [(.t 9)]), Wi 11 .gtr 10 0]
def A_q272_2 : ACode := (.seq (.seq (.ops A_q272_1) (.cond (.t 11) .bad (.exit 0))) .bad)
def A_q272 : ACode := (.seq (.ops A_q272_0) (.block 0 (.loop A_q272_2)))
def T_q272 : FC := ⟨26, A_q272, []⟩
abbrev F_q291 : Nat := 291
def A_q291_0 : LA := [mv 3 0, mv 4 0, Wb 5 .neq 3 4, mv 2 5]
def A_q291 : ACode := (.seq (.ops [Wo 2 false]) (.seq (.ops A_q291_0) .ret))
def T_q291 : FC := ⟨6, A_q291, [.tmp 2]⟩
abbrev F_q295 : Nat := 295
def A_q295_0 : LA := [mv 14 1, o_ 15 (.lens (.t 14)), mv 5 15]
def A_q295_1 : LA := [mv 17 5, Wi 18 .eql 17 0, mv 19 18, Whm 20 1 19, Whm 21 0 19, Wh 22 (.bins .eql (.t 20) (.t 21)) 19, Wq 23 19 22, mv 16 23]
def A_q295_2 : LA := [mv 25 5, Wi 26 .eql 25 1, mv 24 26]
def A_q295_3 : LA := [mv 27 0, mv 28 1, o_ 29 (.idxs (.t 28) (i_ 0)), o_ 30 (.call 308 [(.t 27), (.t 29)]), mv 4 30]
def A_q295_4 : LA := [mv 48 1, o_ 49 (.idxs (.t 48) (i_ 0)), mv 6 49]
def A_q295_5 : LA := [mv 50 1, o_ 51 (.idxs (.t 50) (i_ 1)), mv 7 51]
def A_q295_6 : LA := [mv 52 0, o_ 53 (.lens (.t 52)), mv 54 5, Wb 55 .sub 53 54, Wi 56 .add 55 1, mv 9 56]
def A_q295_7 : LA := [mv 57 8, mv 58 9, Wb 59 .lss 57 58]
def A_q295_8 : ACode := (.seq (.seq (.ops A_q295_7) (.cond (.t 59) .bad .bad)) .bad)
def A_q295 : ACode := (.seq (.ops [Wm 4 0]) (.seq (.ops A_q295_0) (.seq (.block 0 (.seq (.ops A_q295_1) (.cond (.t 16) .bad (.seq (.ops A_q295_2) (.cond (.t 24) (.seq (.ops A_q295_3) .ret) .bad))))) (.seq (.ops A_q295_4) (.seq (.ops A_q295_5) (.seq (.ops [Wm 8 0]) (.seq (.ops A_q295_6) (.seq (.ops [Wm 10 0]) (.seq (.block 1 (.loop A_q295_8)) (.seq (.ops [Wm 4 (-1)]) .ret))))))))))
def T_q295 : FC := ⟨143, A_q295, [.tmp 4]⟩
abbrev F_q297 : Nat := 297
def A_q297_0 : LA := [mv 5 0, o_ 6 (.call 225 [(.t 5)])]
def A_q297_1 : LA := [mv 7 0, mv 8 0, Wc 9 8, Wf 10 1 9, Wl 11 10, mv 12 1, o_ 13 (.bslice 5 1 1 [.int .u8 0] [(0, 1, (.t 12))]), o_ 14 (.app 5 1 1 (.t 11) (.t 13)), Wc 15 7, Wf 16 1 15, Ws 1 16 14]
def A_q297 : ACode := (.seq (.ops [o_ 4 (.mov (.c (.nili)))]) (.seq (.ops A_q297_0) (.seq (.ops A_q297_1) (.seq (.ops [o_ 4 (.mov (.c (.nili)))]) .ret))))
def T_q297 : FC := ⟨17, A_q297, [.tmp 4]⟩
abbrev F_q308 : Nat := 308
def A_q308_0 : LA := [mv 5 0, mv 6 1, o_ 7 (.xindex (.t 5) (.t 6)), mv 4 7]
def A_q308 : ACode := (.seq (.ops [Wm 4 0]) (.seq (.ops A_q308_0) .ret))
def T_q308 : FC := ⟨8, A_q308, [.tmp 4]⟩
abbrev F_q338 : Nat := 338
def A_q338_0 : LA := [o_ 4 (.mov (.c (.nilp))), Wm 5 0]
def A_q338_1 : LA := [mv 9 0, Wc 10 9, Wf 11 0 10, o_ 12 (.call 339 [(.t 11)])]
def A_q338_2 : LA := [mv 13 0, Wc 14 13, Wf 15 0 14]
def A_q338_3 : LA := [mv 16 0, Wc 17 16, Wf 18 3 17, Wl 19 18, mv 20 1, o_ 21 (.mlook .s (.nilp) false (.t 19) (.t 20)), mv 6 21]
def A_q338_4 : LA := [mv 22 6, o_ 23 (.isnil .pt true (.t 22))]
def A_q338_5 : LA := [mv 24 6, mv 4 24, Wm 5 0]
def A_q338_6 : LA := [mv 26 0, Wc 27 26, Wf 28 2 27, Wl 29 28, mv 30 1, o_ 31 (.call 341 [(.t 29), (.t 30)]), mv 25 31, Wx 32 0 25, Wx 33 1 25, mv 7 32, mv 8 33]
def A_q338_7 : LA := [mv 34 8, Wi 35 .eql 34 0]
def A_q338_8 : LA := [mv 36 0, Wc 37 36, Wf 38 3 37, Wl 39 38, mv 40 1, mv 41 7, n_ (.mupd .s (.t 39) (.t 40) (.t 41))]
def A_q338_9 : LA := [mv 42 7, mv 43 8, mv 4 42, mv 5 43]
def A_q338 : ACode := (.seq (.ops A_q338_0) (.seq (.ops A_q338_1) (.seq (.seq (.ops A_q338_2) (.dfr (.f 340) [(.t 15)])) (.seq (.seq (.ops A_q338_3) (.seq (.ops A_q338_4) (.cond (.t 23) (.seq (.ops A_q338_5) .ret) .skip))) (.seq (.ops A_q338_6) (.seq (.seq (.ops A_q338_7) (.cond (.t 35) (.ops A_q338_8) .bad)) (.seq (.ops A_q338_9) .ret)))))))
def T_q338 : FC := ⟨44, A_q338, [.tmp 4, .tmp 5]⟩
abbrev F_q339 : Nat := 339
def A_q339_0 : LA := [mv 2 0, Wc 3 2, Wf 4 0 3, o_ 5 (.call 342 [(.t 4)])]
def A_q339 : ACode := (.ops A_q339_0)
def T_q339 : FC := ⟨6, A_q339, []⟩
abbrev F_q340 : Nat := 340
def A_q340_0 : LA := [mv 2 0, Wc 3 2, Wf 4 0 3, o_ 5 (.call 343 [(.t 4)])]
def A_q340 : ACode := (.ops A_q340_0)
def T_q340 : FC := ⟨6, A_q340, []⟩
abbrev F_q341 : Nat := 341
def A_q341_0 : LA := [o_ 4 (.mov (.c (.nilp))), Wm 5 0]
def A_q341_1 : LA := [mv 14 0, mv 15 1, o_ 16 (.call 344 [(.t 14), (.t 15)]), mv 13 16, Wx 17 0 13, Wx 18 1 13, o_ 6 (.box 76 7 (.c (.agg [.str [], .nils, .nils, .nils, .nils, .nils, .nils]))), Ws 7 6 17, mv 7 18]
def A_q341_2 : LA := [mv 19 7, o_ 20 (.not (.t 19))]
def A_q341_3 : LA := [mv 21 1, Wf 22 2 6, Wl 23 22, o_ 24 (.call 140 [(.t 23)]), o_ 25 (.mkmap), o_ 26 (.mkmap), o_ 27 (.mkmap), o_ 28 (.build [.str [], .nils, .nils, .nilm, .nilm, .nilm] [(0, 1, (.t 21)), (1, 1, (.t 24)), (3, 1, (.t 25)), (4, 1, (.t 26)), (5, 1, (.t 27))]), o_ 29 (.box 264 6 (.t 28)), mv 8 29]
def A_q341_4 : LA := [Wf 30 1 6, Wl 31 30, We 32 31, Wm 33 0]
def A_q341_5 : LA := [Wa 35 72 9 31 33, Wd 36 9 35, o_ 10 (.box 72 9 (.c (.agg [.str [], .int .i32 (0), .int .u8 (0), .int .u8 (0), .str [], .int .u8 (0), .int .i64 (0), .int .u8 (0), .str []]))), Ws 9 10 36]
def A_q341_6 : LA := [mv 37 8, mv 38 8, Wc 39 38, Wf 40 2 39, Wl 41 40, Wd 42 9 10, o_ 43 (.acall 345 [(.t 42)]), o_ 44 (.bslice 174 9 1 [.int .i32 (0), .str [], .str [], .int .u8 (0), .int .u8 (0), .int .u8 (0), .bool false, .int .i64 (0), .str []] [(0, 9, (.t 43))]), o_ 45 (.app 174 9 72 (.t 41) (.t 44)), Wc 46 37, Wf 47 2 46, Ws 1 47 45]
def A_q341_7 : LA := [Wi 48 .add 33 1, mv 33 48]
def A_q341_8 : ACode := (.seq (.ops [Wb 34 .lss 33 32]) (.seq (.cond (.t 34) .skip (.exit 0)) (.seq (.block 1 (.seq (.ops A_q341_5) (.alts [37, 38, 39, 40, 41, 42, 43, 44, 45, 46, 47] [A_q341_6]))) (.ops A_q341_7))))
def A_q341_9 : LA := [mv 49 8, Wc 50 49, Wf 51 2 50, Wl 52 51, o_ 53 (.call 346 [(.t 52), (.f 347)])]
def A_q341_10 : LA := [mv 54 8, Wc 55 54, Wf 56 2 55, Wl 57 56, We 58 57, Wm 59 0]
def A_q341_11 : LA := [mv 61 59, Wa 62 174 9 57 59, Wd 63 9 62, o_ 12 (.box 174 9 (.c (.agg [.int .i32 (0), .str [], .str [], .int .u8 (0), .int .u8 (0), .int .u8 (0), .bool false, .int .i64 (0), .str []]))), mv 11 61, Ws 9 12 63]
def A_q341_12 : LA := [mv 64 8, Wc 65 64, Wf 66 3 65, Wl 67 66, Wf 68 0 12, Wl 69 68, mv 70 8, Wc 71 70, Wf 72 4 71, Wl 73 72, Wf 74 1 12, mv 76 8, Wc 77 76, Wf 78 5 77, Wl 79 78, Wf 80 2 12, mv 82 11, mv 83 11, mv 84 11, Wl 75 74, Wl 81 80, o_ 85 (.ment .i (.int .i64 0) (.t 67) (.t 69)), Wx 86 1 85, n_ (.mest (.t 67) (.t 86) (.t 82)), o_ 87 (.ment .s (.int .i64 0) (.t 73) (.t 75)), Wx 88 1 87, n_ (.mest (.t 73) (.t 88) (.t 83)), o_ 89 (.ment .s (.int .i64 0) (.t 79) (.t 81)), Wx 90 1 89, n_ (.mest (.t 79) (.t 90) (.t 84))]
def A_q341_13 : LA := [mv 64 8, Wc 65 64, Wf 66 3 65, Wl 67 66, Wf 68 0 12, Wl 69 68, mv 70 8, Wc 71 70, Wf 72 4 71, Wl 73 72, Wf 74 1 12, mv 76 8, Wc 77 76, Wf 78 5 77, Wl 79 78, Wf 80 2 12, mv 82 11, mv 83 11, mv 84 11, Wl 75 74, o_ 85 (.ment .i (.int .i64 0) (.t 67) (.t 69)), Wx 86 1 85, Wl 81 80, n_ (.mest (.t 67) (.t 86) (.t 82)), o_ 87 (.ment .s (.int .i64 0) (.t 73) (.t 75)), Wx 88 1 87, n_ (.mest (.t 73) (.t 88) (.t 83)), o_ 89 (.ment .s (.int .i64 0) (.t 79) (.t 81)), Wx 90 1 89, n_ (.mest (.t 79) (.t 90) (.t 84))]
def A_q341_14 : LA := [mv 64 8, Wc 65 64, Wf 66 3 65, Wl 67 66, Wf 68 0 12, Wl 69 68, mv 70 8, Wc 71 70, Wf 72 4 71, Wl 73 72, Wf 74 1 12, mv 76 8, Wc 77 76, Wf 78 5 77, Wl 79 78, Wf 80 2 12, mv 82 11, mv 83 11, mv 84 11, Wl 75 74, o_ 85 (.ment .i (.int .i64 0) (.t 67) (.t 69)), Wx 86 1 85, n_ (.mest (.t 67) (.t 86) (.t 82)), Wl 81 80, o_ 87 (.ment .s (.int .i64 0) (.t 73) (.t 75)), Wx 88 1 87, n_ (.mest (.t 73) (.t 88) (.t 83)), o_ 89 (.ment .s (.int .i64 0) (.t 79) (.t 81)), Wx 90 1 89, n_ (.mest (.t 79) (.t 90) (.t 84))]
def A_q341_15 : LA := [mv 64 8, Wc 65 64, Wf 66 3 65, Wl 67 66, Wf 68 0 12, Wl 69 68, mv 70 8, Wc 71 70, Wf 72 4 71, Wl 73 72, Wf 74 1 12, mv 76 8, Wc 77 76, Wf 78 5 77, Wl 79 78, Wf 80 2 12, mv 82 11, mv 83 11, mv 84 11, Wl 75 74, o_ 85 (.ment .i (.int .i64 0) (.t 67) (.t 69)), Wx 86 1 85, n_ (.mest (.t 67) (.t 86) (.t 82)), o_ 87 (.ment .s (.int .i64 0) (.t 73) (.t 75)), Wx 88 1 87, Wl 81 80, n_ (.mest (.t 73) (.t 88) (.t 83)), o_ 89 (.ment .s (.int .i64 0) (.t 79) (.t 81)), Wx 90 1 89, n_ (.mest (.t 79) (.t 90) (.t 84))]
def A_q341_16 : LA := [mv 64 8, Wc 65 64, Wf 66 3 65, Wl 67 66, Wf 68 0 12, Wl 69 68, mv 70 8, Wc 71 70, Wf 72 4 71, Wl 73 72, Wf 74 1 12, mv 76 8, Wc 77 76, Wf 78 5 77, Wl 79 78, Wf 80 2 12, mv 82 11, mv 83 11, mv 84 11, Wl 75 74, o_ 85 (.ment .i (.int .i64 0) (.t 67) (.t 69)), Wx 86 1 85, n_ (.mest (.t 67) (.t 86) (.t 82)), o_ 87 (.ment .s (.int .i64 0) (.t 73) (.t 75)), Wx 88 1 87, n_ (.mest (.t 73) (.t 88) (.t 83)), Wl 81 80, o_ 89 (.ment .s (.int .i64 0) (.t 79) (.t 81)), Wx 90 1 89, n_ (.mest (.t 79) (.t 90) (.t 84))]
def A_q341_17 : LA := [mv 64 8, Wc 65 64, Wf 66 3 65, Wl 67 66, Wf 68 0 12, Wl 69 68, mv 70 8, Wc 71 70, Wf 72 4 71, Wl 73 72, Wf 74 1 12, mv 76 8, Wc 77 76, Wf 78 5 77, Wl 79 78, Wf 80 2 12, mv 82 11, mv 83 11, mv 84 11, Wl 81 80, Wl 75 74, o_ 85 (.ment .i (.int .i64 0) (.t 67) (.t 69)), Wx 86 1 85, n_ (.mest (.t 67) (.t 86) (.t 82)), o_ 87 (.ment .s (.int .i64 0) (.t 73) (.t 75)), Wx 88 1 87, n_ (.mest (.t 73) (.t 88) (.t 83)), o_ 89 (.ment .s (.int .i64 0) (.t 79) (.t 81)), Wx 90 1 89, n_ (.mest (.t 79) (.t 90) (.t 84))]
def A_q341_18 : LA := [mv 64 8, Wc 65 64, Wf 66 3 65, Wl 67 66, Wf 68 0 12, Wl 69 68, mv 70 8, Wc 71 70, Wf 72 4 71, Wl 73 72, Wf 74 1 12, mv 76 8, Wc 77 76, Wf 78 5 77, Wl 79 78, Wf 80 2 12, mv 82 11, mv 83 11, mv 84 11, Wl 81 80, o_ 85 (.ment .i (.int .i64 0) (.t 67) (.t 69)), Wx 86 1 85, Wl 75 74, n_ (.mest (.t 67) (.t 86) (.t 82)), o_ 87 (.ment .s (.int .i64 0) (.t 73) (.t 75)), Wx 88 1 87, n_ (.mest (.t 73) (.t 88) (.t 83)), o_ 89 (.ment .s (.int .i64 0) (.t 79) (.t 81)), Wx 90 1 89, n_ (.mest (.t 79) (.t 90) (.t 84))]
def A_q341_19 : LA := [mv 64 8, Wc 65 64, Wf 66 3 65, Wl 67 66, Wf 68 0 12, Wl 69 68, mv 70 8, Wc 71 70, Wf 72 4 71, Wl 73 72, Wf 74 1 12, mv 76 8, Wc 77 76, Wf 78 5 77, Wl 79 78, Wf 80 2 12, mv 82 11, mv 83 11, mv 84 11, Wl 81 80, o_ 85 (.ment .i (.int .i64 0) (.t 67) (.t 69)), Wx 86 1 85, n_ (.mest (.t 67) (.t 86) (.t 82)), Wl 75 74, o_ 87 (.ment .s (.int .i64 0) (.t 73) (.t 75)), Wx 88 1 87, n_ (.mest (.t 73) (.t 88) (.t 83)), o_ 89 (.ment .s (.int .i64 0) (.t 79) (.t 81)), Wx 90 1 89, n_ (.mest (.t 79) (.t 90) (.t 84))]
def A_q341_20 : LA := [mv 64 8, Wc 65 64, Wf 66 3 65, Wl 67 66, Wf 68 0 12, Wl 69 68, mv 70 8, Wc 71 70, Wf 72 4 71, Wl 73 72, Wf 74 1 12, mv 76 8, Wc 77 76, Wf 78 5 77, Wl 79 78, Wf 80 2 12, mv 82 11, mv 83 11, mv 84 11, o_ 85 (.ment .i (.int .i64 0) (.t 67) (.t 69)), Wx 86 1 85, Wl 75 74, Wl 81 80, n_ (.mest (.t 67) (.t 86) (.t 82)), o_ 87 (.ment .s (.int .i64 0) (.t 73) (.t 75)), Wx 88 1 87, n_ (.mest (.t 73) (.t 88) (.t 83)), o_ 89 (.ment .s (.int .i64 0) (.t 79) (.t 81)), Wx 90 1 89, n_ (.mest (.t 79) (.t 90) (.t 84))]
def A_q341_21 : LA := [mv 64 8, Wc 65 64, Wf 66 3 65, Wl 67 66, Wf 68 0 12, Wl 69 68, mv 70 8, Wc 71 70, Wf 72 4 71, Wl 73 72, Wf 74 1 12, mv 76 8, Wc 77 76, Wf 78 5 77, Wl 79 78, Wf 80 2 12, mv 82 11, mv 83 11, mv 84 11, o_ 85 (.ment .i (.int .i64 0) (.t 67) (.t 69)), Wx 86 1 85, Wl 75 74, n_ (.mest (.t 67) (.t 86) (.t 82)), Wl 81 80, o_ 87 (.ment .s (.int .i64 0) (.t 73) (.t 75)), Wx 88 1 87, n_ (.mest (.t 73) (.t 88) (.t 83)), o_ 89 (.ment .s (.int .i64 0) (.t 79) (.t 81)), Wx 90 1 89, n_ (.mest (.t 79) (.t 90) (.t 84))]
def A_q341_22 : LA := [mv 64 8, Wc 65 64, Wf 66 3 65, Wl 67 66, Wf 68 0 12, Wl 69 68, mv 70 8, Wc 71 70, Wf 72 4 71, Wl 73 72, Wf 74 1 12, mv 76 8, Wc 77 76, Wf 78 5 77, Wl 79 78, Wf 80 2 12, mv 82 11, mv 83 11, mv 84 11, o_ 85 (.ment .i (.int .i64 0) (.t 67) (.t 69)), Wx 86 1 85, Wl 75 74, n_ (.mest (.t 67) (.t 86) (.t 82)), o_ 87 (.ment .s (.int .i64 0) (.t 73) (.t 75)), Wx 88 1 87, Wl 81 80, n_ (.mest (.t 73) (.t 88) (.t 83)), o_ 89 (.ment .s (.int .i64 0) (.t 79) (.t 81)), Wx 90 1 89, n_ (.mest (.t 79) (.t 90) (.t 84))]
def A_q341_23 : LA := [mv 64 8, Wc 65 64, Wf 66 3 65, Wl 67 66, Wf 68 0 12, Wl 69 68, mv 70 8, Wc 71 70, Wf 72 4 71, Wl 73 72, Wf 74 1 12, mv 76 8, Wc 77 76, Wf 78 5 77, Wl 79 78, Wf 80 2 12, mv 82 11, mv 83 11, mv 84 11, o_ 85 (.ment .i (.int .i64 0) (.t 67) (.t 69)), Wx 86 1 85, Wl 75 74, n_ (.mest (.t 67) (.t 86) (.t 82)), o_ 87 (.ment .s (.int .i64 0) (.t 73) (.t 75)), Wx 88 1 87, n_ (.mest (.t 73) (.t 88) (.t 83)), Wl 81 80, o_ 89 (.ment .s (.int .i64 0) (.t 79) (.t 81)), Wx 90 1 89, n_ (.mest (.t 79) (.t 90) (.t 84))]
def A_q341_24 : LA := [mv 64 8, Wc 65 64, Wf 66 3 65, Wl 67 66, Wf 68 0 12, Wl 69 68, mv 70 8, Wc 71 70, Wf 72 4 71, Wl 73 72, Wf 74 1 12, mv 76 8, Wc 77 76, Wf 78 5 77, Wl 79 78, Wf 80 2 12, mv 82 11, mv 83 11, mv 84 11, o_ 85 (.ment .i (.int .i64 0) (.t 67) (.t 69)), Wx 86 1 85, Wl 81 80, Wl 75 74, n_ (.mest (.t 67) (.t 86) (.t 82)), o_ 87 (.ment .s (.int .i64 0) (.t 73) (.t 75)), Wx 88 1 87, n_ (.mest (.t 73) (.t 88) (.t 83)), o_ 89 (.ment .s (.int .i64 0) (.t 79) (.t 81)), Wx 90 1 89, n_ (.mest (.t 79) (.t 90) (.t 84))]
def A_q341_25 : LA := [mv 64 8, Wc 65 64, Wf 66 3 65, Wl 67 66, Wf 68 0 12, Wl 69 68, mv 70 8, Wc 71 70, Wf 72 4 71, Wl 73 72, Wf 74 1 12, mv 76 8, Wc 77 76, Wf 78 5 77, Wl 79 78, Wf 80 2 12, mv 82 11, mv 83 11, mv 84 11, o_ 85 (.ment .i (.int .i64 0) (.t 67) (.t 69)), Wx 86 1 85, Wl 81 80, n_ (.mest (.t 67) (.t 86) (.t 82)), Wl 75 74, o_ 87 (.ment .s (.int .i64 0) (.t 73) (.t 75)), Wx 88 1 87, n_ (.mest (.t 73) (.t 88) (.t 83)), o_ 89 (.ment .s (.int .i64 0) (.t 79) (.t 81)), Wx 90 1 89, n_ (.mest (.t 79) (.t 90) (.t 84))]
def A_q341_26 : LA := [mv 64 8, Wc 65 64, Wf 66 3 65, Wl 67 66, Wf 68 0 12, Wl 69 68, mv 70 8, Wc 71 70, Wf 72 4 71, Wl 73 72, Wf 74 1 12, mv 76 8, Wc 77 76, Wf 78 5 77, Wl 79 78, Wf 80 2 12, mv 82 11, mv 83 11, mv 84 11, o_ 85 (.ment .i (.int .i64 0) (.t 67) (.t 69)), Wx 86 1 85, n_ (.mest (.t 67) (.t 86) (.t 82)), Wl 75 74, Wl 81 80, o_ 87 (.ment .s (.int .i64 0) (.t 73) (.t 75)), Wx 88 1 87, n_ (.mest (.t 73) (.t 88) (.t 83)), o_ 89 (.ment .s (.int .i64 0) (.t 79) (.t 81)), Wx 90 1 89, n_ (.mest (.t 79) (.t 90) (.t 84))]
def A_q341_27 : LA := [mv 64 8, Wc 65 64, Wf 66 3 65, Wl 67 66, Wf 68 0 12, Wl 69 68, mv 70 8, Wc 71 70, Wf 72 4 71, Wl 73 72, Wf 74 1 12, mv 76 8, Wc 77 76, Wf 78 5 77, Wl 79 78, Wf 80 2 12, mv 82 11, mv 83 11, mv 84 11, o_ 85 (.ment .i (.int .i64 0) (.t 67) (.t 69)), Wx 86 1 85, n_ (.mest (.t 67) (.t 86) (.t 82)), Wl 75 74, o_ 87 (.ment .s (.int .i64 0) (.t 73) (.t 75)), Wx 88 1 87, Wl 81 80, n_ (.mest (.t 73) (.t 88) (.t 83)), o_ 89 (.ment .s (.int .i64 0) (.t 79) (.t 81)), Wx 90 1 89, n_ (.mest (.t 79) (.t 90) (.t 84))]
def A_q341_28 : LA := [mv 64 8, Wc 65 64, Wf 66 3 65, Wl 67 66, Wf 68 0 12, Wl 69 68, mv 70 8, Wc 71 70, Wf 72 4 71, Wl 73 72, Wf 74 1 12, mv 76 8, Wc 77 76, Wf 78 5 77, Wl 79 78, Wf 80 2 12, mv 82 11, mv 83 11, mv 84 11, o_ 85 (.ment .i (.int .i64 0) (.t 67) (.t 69)), Wx 86 1 85, n_ (.mest (.t 67) (.t 86) (.t 82)), Wl 75 74, o_ 87 (.ment .s (.int .i64 0) (.t 73) (.t 75)), Wx 88 1 87, n_ (.mest (.t 73) (.t 88) (.t 83)), Wl 81 80, o_ 89 (.ment .s (.int .i64 0) (.t 79) (.t 81)), Wx 90 1 89, n_ (.mest (.t 79) (.t 90) (.t 84))]
def A_q341_29 : LA := [Wi 91 .add 59 1, mv 59 91]
def A_q341_30 : ACode := (.seq (.ops [Wb 60 .lss 59 58]) (.seq (.cond (.t 60) .skip (.exit 2)) (.seq (.block 3 (.seq (.ops A_q341_11) (.alts [64, 65, 66, 67, 68, 69, 70, 71, 72, 73, 74, 75, 76, 77, 78, 79, 80, 81, 82, 83, 84, 85, 86, 87, 88, 89, 90] [A_q341_12, A_q341_13, A_q341_14, A_q341_15, A_q341_16, A_q341_17, A_q341_18, A_q341_19, A_q341_20, A_q341_21, A_q341_22, A_q341_23, A_q341_24, A_q341_25, A_q341_26, A_q341_27, A_q341_28]))) (.ops A_q341_29))))
def A_q341_31 : LA := [mv 92 8, mv 4 92, Wm 5 0]
def A_q341 : ACode := (.seq (.ops A_q341_0) (.seq (.ops A_q341_1) (.seq (.seq (.ops A_q341_2) (.cond (.t 20) .bad .skip)) (.seq (.ops A_q341_3) (.seq (.seq (.ops A_q341_4) (.block 0 (.loop A_q341_8))) (.seq (.ops A_q341_9) (.seq (.seq (.ops A_q341_10) (.block 2 (.loop A_q341_30))) (.seq (.ops A_q341_31) .ret))))))))
def T_q341 : FC := ⟨93, A_q341, [.tmp 4, .tmp 5]⟩
abbrev F_q342 : Nat := 342
def A_q342_0 : LA := [mv 3 0, Wc 4 3, Wf 5 0 4, o_ 6 (.cas .i32 (.t 5) (.c (.int .i32 0)) (.c (.int .i32 1)))]
def A_q342_1 : LA := [mv 8 0, o_ 9 (.upc (.t 8)), o_ 10 (.rac (.t 9))]
def A_q342 : ACode := (.seq (.ops [o_ 2 (.mov (.c (.tup [])))]) (.seq (.seq (.ops A_q342_0) (.cond (.t 6) (.seq (.cond (.c (.bool true)) (.seq (.ops [o_ 7 (.mov (.c (.tup [])))]) (.ops A_q342_1)) .bad) .ret) .bad)) .bad))
def T_q342 : FC := ⟨13, A_q342, []⟩
abbrev F_q343 : Nat := 343
def A_q343_0 : LA := [mv 3 0, Wc 4 3, Wf 5 0 4, Wl 6 5]
def A_q343_1 : LA := [mv 7 0, o_ 8 (.upc (.t 7)), o_ 9 (.rac (.t 8))]
def A_q343_2 : LA := [mv 11 0, Wc 12 11, Wf 13 0 12, o_ 14 (.xadd .i32 (.t 13) (.c (.int .i32 (-1)))), mv 2 14]
def A_q343_3 : LA := [mv 15 2, o_ 16 (.bini .neq (.t 15) (.c (.int .i32 0)))]
def A_q343 : ACode := (.seq (.cond (.c (.bool true)) (.seq (.ops A_q343_0) (.seq (.ops A_q343_1) (.ops [o_ 10 (.mov (.c (.tup [])))]))) .bad) (.seq (.ops A_q343_2) (.seq (.seq (.ops A_q343_3) (.cond (.t 16) .bad .skip)) (.ops [o_ 20 (.mov (.c (.tup [])))]))))
def T_q343 : FC := ⟨21, A_q343, []⟩
abbrev F_q344 : Nat := 344
def A_q344_0 : LA := [o_ 4 (.box 76 7 (.c (.agg [.str [], .nils, .nils, .nils, .nils, .nils, .nils]))), Wo 5 false]
def A_q344_1 : LA := [mv 9 0, Wc 10 9, Wf 11 3 10, Wl 12 11, mv 13 1, o_ 14 (.mlook .s (.agg [.str [], .nils, .nils, .nils, .nils, .nils, .nils]) true (.t 12) (.t 13)), mv 8 14, Wx 15 0 8, Wx 16 1 8, o_ 6 (.box 76 7 (.c (.agg [.str [], .nils, .nils, .nils, .nils, .nils, .nils]))), Ws 7 6 15, mv 7 16]
def A_q344_2 : LA := [Wd 17 7 6, o_ 18 (.call 88 [(.t 17)]), mv 19 7, Ws 7 4 18, mv 5 19]
def A_q344 : ACode := (.seq (.ops A_q344_0) (.seq (.ops A_q344_1) (.seq (.ops A_q344_2) .ret)))
def T_q344 : FC := ⟨20, A_q344, [.cella 4 7, .tmp 5]⟩
abbrev F_q345 : Nat := 345
def A_q345_0 : LA := [o_ 1 (.box 72 9 (.t 0)), o_ 2 (.box 174 9 (.c (.agg [.int .i32 (0), .str [], .str [], .int .u8 (0), .int .u8 (0), .int .u8 (0), .bool false, .int .i64 (0), .str []])))]
def A_q345_1 : LA := [Wf 4 1 1, Wl 5 4, Wf 6 0 1, Wl 7 6, Wf 8 8 1, Wl 9 8, Wf 10 0 1, Wl 11 10, Wf 15 2 1, Wl 16 15, Wf 17 3 1, Wl 18 17, Wf 19 5 1, Wl 20 19, Wf 21 2 1, Wl 22 21, o_ 23 (.bini .eql (.t 22) (.c (.int .u8 3))), Wf 34 6 1, Wl 35 34, o_ 12 (.acall 263 [(.t 11)]), o_ 13 (.bslice 9 1 2 [.str []] [(0, 1, (.t 9)), (1, 1, (.t 12))]), o_ 14 (.acall 357 [(.t 13)]), mv 24 23, Wgf 25 3 1 24, Wgl 26 25 24, g_ 27 (.acall 358 [(.t 26)]) 24, Wp 28 24 27, mv 29 28, Wgf 30 7 1 29, Wgl 31 30 29, g_ 32 (.bini .neq (.t 31) (.c (.int .u8 2))) 29, Wp 33 29 32, o_ 36 (.build [.int .i32 (0), .str [], .str [], .int .u8 (0), .int .u8 (0), .int .u8 (0), .bool false, .int .i64 (0), .str []] [(0, 1, (.t 5)), (1, 1, (.t 7)), (2, 1, (.t 14)), (3, 1, (.t 16)), (4, 1, (.t 18)), (5, 1, (.t 20)), (6, 1, (.t 33)), (7, 1, (.t 35))]), o_ 3 (.box 174 9 (.c (.agg [.int .i32 (0), .str [], .str [], .int .u8 (0), .int .u8 (0), .int .u8 (0), .bool false, .int .i64 (0), .str []]))), Ws 9 3 36]
def A_q345_2 : LA := [Wf 37 3 1, Wl 38 37, o_ 39 (.bini .eql (.t 38) (.c (.int .u8 11))), mv 40 39, Wh 41 (.faddr 3 (.t 1)) 40, Wh 42 (.ld1 (.t 41)) 40, Wh 43 (.bini .eql (.t 42) (.c (.int .u8 14))) 40, Wq 44 40 43]
def A_q345_3 : LA := [Wf 45 4 1, Wl 46 45, Wf 47 8 3, Ws 1 47 46]
def A_q345_4 : LA := [Wd 48 9 3, Ws 9 2 48]
def A_q345 : ACode := (.seq (.ops A_q345_0) (.seq (.alts [4, 5, 6, 7, 8, 9, 10, 11, 12, 13, 14, 15, 16, 17, 18, 19, 20, 21, 22, 23, 24, 25, 26, 27, 28, 29, 30, 31, 32, 33, 34, 35, 36, 3] [A_q345_1]) (.seq (.seq (.ops A_q345_2) (.cond (.t 44) (.ops A_q345_3) .skip)) (.seq (.ops A_q345_4) .ret))))
def T_q345 : FC := ⟨49, A_q345, [.cella 2 9]⟩
abbrev F_q346 : Nat := 346
def A_q346_0 : LA := [mv 4 0, mv 5 0, We 6 5, mv 7 1, o_ 8 (.call 359 [(.t 4), (.t 6), (.t 7)])]
def A_q346 : ACode := (.ops A_q346_0)
def T_q346 : FC := ⟨9, A_q346, []⟩
abbrev F_q347 : Nat := 347
def A_q347_0 : LA := [o_ 2 (.box 174 9 (.t 0)), o_ 3 (.box 174 9 (.t 1)), Wm 4 0]
def A_q347_1 : LA := [Wf 5 0 2, Wl 6 5, Wf 7 0 3, Wl 8 7, o_ 9 (.call 348 [(.t 6), (.t 8)]), mv 4 9]
def A_q347 : ACode := (.seq (.ops A_q347_0) (.seq (.ops A_q347_1) .ret))
def T_q347 : FC := ⟨10, A_q347, [.tmp 4]⟩
abbrev F_q348 : Nat := 348
def A_q348_0 : LA := [mv 7 0, o_ 8 (.call 291 [(.t 7)]), mv 5 8]
def A_q348_1 : LA := [mv 9 1, o_ 10 (.call 291 [(.t 9)]), mv 6 10]
def A_q348_2 : LA := [mv 14 0, mv 15 1, Wb 16 .lss 14 15]
def A_q348_3 : LA := [mv 17 0, mv 18 1, Wb 19 .gtr 17 18]
def A_q348 : ACode := (.seq (.ops [Wm 4 0]) (.seq (.ops A_q348_0) (.seq (.ops A_q348_1) (.seq (.seq (.ops [mv 11 5]) (.cond (.t 11) .bad .skip)) (.seq (.seq (.ops [mv 13 6]) (.cond (.t 13) .bad .skip)) (.seq (.seq (.ops A_q348_2) (.cond (.t 16) .bad .skip)) (.seq (.seq (.ops A_q348_3) (.cond (.t 19) (.seq (.ops [Wm 4 1]) .ret) .bad)) .bad)))))))
def T_q348 : FC := ⟨20, A_q348, [.tmp 4]⟩
abbrev F_q357 : Nat := 357
def A_q357_0 : LA := [mv 6 0, We 7 6, Wm 8 0]
def A_q357_1 : LA := [Wa 10 9 1 6 8, Wl 11 10, mv 5 11]
def A_q357_2 : LA := [mv 12 5, mv 13 3, o_ 14 (.bins .neq (.t 12) (.t 13))]
def A_q357_3 : LA := [mv 15 5, mv 2 15]
def A_q357_4 : LA := [Wi 16 .add 8 1, mv 8 16]
def A_q357_5 : ACode := (.seq (.ops [Wb 9 .lss 8 7]) (.seq (.cond (.t 9) .skip .bad) (.seq (.block 1 (.seq (.ops A_q357_1) (.seq (.ops A_q357_2) (.cond (.t 14) (.seq (.ops A_q357_3) .ret) .skip)))) (.ops A_q357_4))))
def A_q357_6 : LA := [mv 17 3, mv 2 17]
def A_q357 : ACode := (.seq (.ops [o_ 2 (.mov (.c (.str [])))]) (.seq (.ops [o_ 3 (.mov (.c (.str [])))]) (.seq (.seq (.ops A_q357_0) (.block 0 (.loop A_q357_5))) (.seq (.ops A_q357_6) .ret))))
def T_q357 : FC := ⟨18, A_q357, [.tmp 2]⟩
abbrev F_q358 : Nat := 358
def A_q358_0 : LA := [mv 3 0, o_ 4 (.bini .neq (.t 3) (.c (.int .u8 9))), mv 5 4, Wgm 6 0 5, g_ 7 (.bini .neq (.t 6) (.c (.int .u8 12))) 5, Wp 8 5 7, mv 9 8, Wgm 10 0 9, g_ 11 (.bini .neq (.t 10) (.c (.int .u8 11))) 9, Wp 12 9 11, mv 2 12]
def A_q358 : ACode := (.seq (.ops [Wo 2 false]) (.seq (.ops A_q358_0) .ret))
def T_q358 : FC := ⟨13, A_q358, [.tmp 2]⟩
abbrev F_q359 : Nat := 359
def A_q359_0 : LA := [mv 10 6, Wm 7 0, mv 8 10]
def A_q359_1 : LA := [mv 11 8, mv 12 1, Wb 13 .leq 11 12]
def A_q359_2 : ACode := (.seq (.seq (.ops A_q359_1) (.cond (.t 13) .bad (.exit 0))) .bad)
def A_q359_3 : LA := [mv 23 0, mv 24 7, mv 25 1, mv 26 2, o_ 27 (.call 367 [(.t 23), (.t 24), (.t 25), (.t 26)])]
def A_q359_4 : LA := [mv 28 6, mv 29 1, Wb 30 .lss 28 29]
def A_q359_5 : ACode := (.seq (.seq (.ops A_q359_4) (.cond (.t 30) .bad (.exit 2))) .bad)
def A_q359 : ACode := (.seq (.ops [Wm 6 20]) (.seq (.ops A_q359_0) (.seq (.block 0 (.loop A_q359_2)) (.seq (.ops A_q359_3) (.block 2 (.loop A_q359_5))))))
def T_q359 : FC := ⟨63, A_q359, []⟩
abbrev F_q367 : Nat := 367
def A_q367_0 : LA := [mv 10 1, Wi 11 .add 10 1, mv 8 11]
def A_q367_1 : LA := [mv 12 8, mv 13 2, Wb 14 .lss 12 13]
def A_q367_2 : LA := [mv 17 8, mv 9 17]
def A_q367_3 : LA := [mv 18 9, mv 19 1, Wb 20 .gtr 18 19, mv 21 20, Wgm 22 3 21, Wgm 23 0 21, Wgm 24 9 21, g_ 25 (.iaddr 174 9 (.t 23) (.t 24)) 21, g_ 26 (.lda 9 (.t 25)) 21, Wgm 27 0 21, Wgm 28 9 21, g_ 29 (.bini .sub (.t 28) (i_ 1)) 21, g_ 30 (.iaddr 174 9 (.t 27) (.t 29)) 21, g_ 31 (.lda 9 (.t 30)) 21, g_ 32 (.callv (.t 22) [(.t 26), (.t 31)]) 21, g_ 33 (.bini .lss (.t 32) (i_ 0)) 21, Wp 34 21 33]
def A_q367_4 : ACode := (.seq (.seq (.alts [18, 19, 20, 21, 22, 23, 24, 25, 26, 27, 28, 29, 30, 31, 32, 33, 34] [A_q367_3]) (.cond (.t 34) .bad (.exit 2))) .bad)
def A_q367_5 : LA := [mv 15 8, Wi 16 .add 15 1, mv 8 16]
def A_q367_6 : ACode := (.seq (.seq (.ops A_q367_1) (.cond (.t 14) .skip (.exit 0))) (.seq (.block 1 (.seq (.ops A_q367_2) (.block 2 (.loop A_q367_4)))) (.ops A_q367_5)))
def A_q367 : ACode := (.seq (.ops A_q367_0) (.block 0 (.loop A_q367_6)))
def T_q367 : FC := ⟨53, A_q367, []⟩
end Go.Proofs.YtgjjbfhamlecoacGreatDoor

namespace Go.Proofs.YtgjjbfhamlecoacGreatDoor
open Go.L
set_option maxRecDepth 100000
def Codes : Tr FC := (.node (.node (.node (.node (.node (.node (.node (.node .nil (some T_q127) .nil) none .nil) (some T_q31) (.node (.node .nil (some T_q159) .nil) (some T_q95) .nil)) (some T_q15) (.node (.node (.node .nil (some T_q143) .nil) (some T_q79) (.node .nil (some T_q207) .nil)) (some T_q47) (.node .nil none (.node (.node .nil (some T_q367) .nil) none .nil)))) (some T_q7) (.node (.node (.node (.node (.node .nil (some T_q263) .nil) (some T_q135) .nil) (some T_q71) .nil) (some T_q39) (.node (.node (.node .nil (some T_q295) .nil) none .nil) (some T_q103) (.node (.node .nil (some T_q359) .nil) none .nil))) (some T_q23) (.node (.node (.node .nil (some T_q151) .nil) (some T_q87) (.node (.node .nil (some T_q343) .nil) (some T_q215) .nil)) (some T_q55) (.node .nil none (.node .nil (some T_q247) .nil))))) none (.node (.node (.node (.node (.node .nil (some T_q131) .nil) (some T_q67) .nil) (some T_q35) (.node (.node (.node .nil (some T_q291) .nil) (some T_q163) .nil) (some T_q99) .nil)) (some T_q19) (.node (.node (.node .nil (some T_q147) .nil) (some T_q83) (.node (.node .nil (some T_q339) .nil) (some T_q211) .nil)) (some T_q51) (.node .nil (some T_q115) .nil))) none (.node (.node (.node (.node .nil (some T_q139) .nil) (some T_q75) .nil) (some T_q43) (.node .nil none (.node .nil (some T_q235) .nil))) (some T_q27) (.node (.node (.node .nil (some T_q155) .nil) (some T_q91) (.node (.node .nil (some T_q347) .nil) (some T_q219) .nil)) (some T_q59) (.node .nil (some T_q123) .nil))))) none (.node (.node (.node (.node (.node (.node .nil (some T_q129) .nil) (some T_q65) (.node .nil (some T_q193) .nil)) (some T_q33) (.node (.node .nil (some T_q161) .nil) (some T_q97) (.node .nil (some T_q225) .nil))) (some T_q17) (.node (.node (.node .nil (some T_q145) .nil) (some T_q81) (.node .nil (some T_q209) .nil)) (some T_q49) .nil)) (some T_q9) (.node (.node .nil (some T_q41) (.node (.node (.node .nil (some T_q297) .nil) none .nil) (some T_q105) .nil)) (some T_q25) (.node (.node .nil none (.node (.node .nil (some T_q345) .nil) (some T_q217) .nil)) (some T_q57) .nil))) (some T_q5) (.node (.node (.node (.node (.node (.node .nil (some T_q261) .nil) (some T_q133) .nil) (some T_q69) .nil) (some T_q37) (.node (.node .nil (some T_q165) .nil) (some T_q101) (.node (.node .nil (some T_q357) .nil) (some T_q229) .nil))) (some T_q21) (.node (.node (.node .nil (some T_q149) .nil) none (.node (.node .nil (some T_q341) .nil) (some T_q213) .nil)) (some T_q53) (.node .nil (some T_q117) .nil))) (some T_q13) (.node (.node (.node (.node (.node .nil (some T_q269) .nil) (some T_q141) .nil) (some T_q77) .nil) (some T_q45) .nil) (some T_q29) (.node (.node (.node .nil (some T_q157) .nil) (some T_q93) (.node .nil (some T_q221) .nil)) (some T_q61) (.node (.node .nil (some T_q189) .nil) (some T_q125) (.node .nil (some T_q253) .nil))))))) none (.node (.node (.node (.node (.node (.node (.node .nil (some T_q128) .nil) (some T_q64) (.node .nil (some T_q192) .nil)) (some T_q32) (.node .nil none (.node .nil (some T_q224) .nil))) (some T_q16) (.node (.node (.node (.node .nil (some T_q272) .nil) (some T_q144) .nil) (some T_q80) (.node .nil (some T_q208) .nil)) none .nil)) none (.node (.node (.node (.node (.node .nil (some T_q264) .nil) (some T_q136) .nil) (some T_q72) .nil) (some T_q40) (.node .nil (some T_q104) .nil)) (some T_q24) (.node (.node (.node .nil (some T_q152) .nil) (some T_q88) (.node (.node .nil (some T_q344) .nil) none .nil)) (some T_q56) (.node (.node .nil (some T_q184) .nil) none .nil)))) (some T_lexiconlaw12_awake) (.node (.node (.node (.node (.node (.node .nil (some T_q260) .nil) none .nil) (some T_q68) .nil) (some T_q36) (.node (.node .nil (some T_q164) .nil) (some T_q100) (.node .nil (some T_q228) .nil))) none (.node (.node (.node .nil (some T_q148) .nil) none (.node (.node .nil (some T_q340) .nil) (some T_q212) .nil)) (some T_q52) (.node (.node (.node .nil (some T_q308) .nil) none .nil) (some T_q116) .nil))) (some T_q12) (.node (.node (.node (.node (.node .nil (some T_q268) .nil) (some T_q140) .nil) (some T_q76) .nil) (some T_q44) (.node .nil none (.node .nil (some T_q236) .nil))) none (.node (.node (.node .nil (some T_q156) .nil) (some T_q92) (.node (.node .nil (some T_q348) .nil) (some T_q220) .nil)) (some T_q60) (.node (.node .nil (some T_q188) .nil) (some T_q124) .nil))))) none (.node (.node (.node (.node (.node (.node .nil (some T_q130) .nil) (some T_q66) .nil) (some T_q34) (.node (.node .nil (some T_q162) .nil) (some T_q98) (.node .nil (some T_q226) .nil))) (some T_q18) (.node (.node (.node .nil (some T_q146) .nil) (some T_q82) (.node (.node .nil (some T_q338) .nil) (some T_q210) .nil)) (some T_q50) (.node (.node .nil (some T_q178) .nil) none .nil))) (some T_q10) (.node (.node (.node .nil (some T_q74) .nil) (some T_q42) .nil) (some T_q26) (.node (.node .nil (some T_q90) (.node (.node .nil (some T_q346) .nil) (some T_q218) .nil)) (some T_q58) .nil))) (some T_q6) (.node (.node (.node (.node (.node .nil (some T_q134) .nil) (some T_q70) .nil) (some T_q38) (.node .nil (some T_q102) (.node (.node .nil (some T_q358) .nil) (some T_q230) .nil))) (some T_q22) (.node (.node (.node .nil (some T_q150) .nil) none (.node (.node .nil (some T_q342) .nil) (some T_q214) .nil)) (some T_q54) .nil)) (some T_q14) (.node (.node (.node (.node (.node .nil (some T_q270) .nil) none .nil) none (.node .nil (some T_q206) .nil)) (some T_q46) .nil) (some T_q30) (.node (.node (.node .nil (some T_q158) .nil) (some T_q94) .nil) (some T_q62) (.node (.node .nil (some T_q190) .nil) (some T_q126) .nil)))))))
end Go.Proofs.YtgjjbfhamlecoacGreatDoor

namespace Go.Proofs.YtgjjbfhamlecoacGreatDoor
open Go.L
set_option maxRecDepth 100000
def z0 : AV := .str []
def z1 : AV := .str [77]
def z2 : AV := .str [102]
def z3 : AV := .str [78, 111, 110, 101]
def z4 : AV := .str [114]
def z5 : AV := .str [109]
def z6 : AV := .str [120]
def z7 : AV := .str [112]
def z8 : AV := .str [113]
def z9 : AV := .str [97]
def z10 : AV := .str [77, 46, 109]
def z11 : AV := .str [77, 46, 111]
def z12 : AV := .str [77, 46, 112]
def z13 : AV := .str [77, 46, 113]
def z14 : AV := .str [77, 46, 114]
def z15 : AV := .str [77, 46, 120]
def z16 : AV := .str [77, 46, 97]
def z17 : AV := .str [111]
def X0 : HT := HT.upd HT.nil [] 0
def X1 : HT := HT.upd X0 [(1, some (.b (.row 9 [[z17]]))), (2, some (.b (.row 72 [[z9, I3 1, U8 1, U8 5, z0, U8 0, I4 0, U8 0, z0], [z4, I3 2, U8 3, U8 5, z0, U8 0, I4 0, U8 0, z0], [z5, I3 4, U8 1, U8 11, z1, U8 0, I4 0, U8 0, z0], [z6, I3 5, U8 4, U8 5, z0, U8 9, I4 0, U8 0, z0], [z7, I3 6, U8 1, U8 5, z0, U8 0, I4 1, U8 0, z0], [z8, I3 7, U8 1, U8 11, z1, U8 0, I4 1, U8 0, z0]]))), (4, some (.b (.row 76 [[z1, .slc 2 0 6 (some 6), .slc 1 0 1 (some 1), .nils, .nils, .nils, .nils], [z3, .nils, .nils, .nils, .nils, .nils, .nils]])))] 5
def S1 : Sm := ⟨6, [], X0, .agg [z2, z0, .nils, .slc 4 0 2 (some 2), .nils], X1⟩
def X2 : HT := HT.upd X1 [(5, some (.b (.row 35 [[z2, z0, .nils, .slc 4 0 2 (some 2), .nils]])))] 6
def X3 : HT := HT.upd X2 [(8, some (.b (.map [(z2, .ptr 33 0 0, 0)] 1))), (9, some (.b (.map [(z1, z2, 0), (z16, z2, 1), (z10, z2, 2), (z11, z2, 3), (z12, z2, 4), (z13, z2, 5), (z14, z2, 6), (z15, z2, 7), (z3, z2, 8)] 9))), (10, some (.b (.map [(z1, .agg [z1, .slc 21 0 6 none, .slc 23 0 1 none, .nils, .nils, .nils, .nils], 0), (z3, .agg [z3, .nils, .nils, .nils, .nils, .nils, .nils], 1)] 2))), (11, some (.b (.map [] 0))), (12, some (.b (.map [(z1, .slc 776 0 1 none, 0)] 1))), (13, some (.b (.row 66 [[.map 8, .slc 767 0 1 none, .map 9, .map 10, .map 11, .map 12]]))), (21, some (.b (.row 72 [[z9, I3 1, U8 1, U8 5, z0, U8 0, I4 0, U8 0, z0], [z4, I3 2, U8 3, U8 5, z0, U8 0, I4 0, U8 0, z0], [z5, I3 4, U8 1, U8 11, z1, U8 0, I4 0, U8 0, z0], [z6, I3 5, U8 4, U8 5, z0, U8 9, I4 0, U8 0, z0], [z7, I3 6, U8 1, U8 5, z0, U8 0, I4 1, U8 0, z0], [z8, I3 7, U8 1, U8 11, z1, U8 0, I4 1, U8 0, z0]]))), (23, some (.b (.row 9 [[z17]]))), (30, some (.b (.row 76 [[z1, .slc 21 0 6 none, .slc 23 0 1 none, .nils, .nils, .nils, .nils], [z3, .nils, .nils, .nils, .nils, .nils, .nils]]))), (31, some (.b (.map [(z2, .bool true, 0)] 1))), (32, some (.b (.map [(z1, U8 1, 0), (z16, U8 4, 1), (z10, U8 4, 2), (z11, U8 5, 3), (z12, U8 4, 4), (z13, U8 4, 5), (z14, U8 4, 6), (z15, U8 4, 7), (z3, U8 1, 8)] 9))), (33, some (.b (.row 95 [[z2, z0, .nils, .slc 30 0 2 none, .nils, .map 31, .map 32]]))), (767, some (.b (.row 9 [[z2]]))), (776, some (.b (.row 9 [[z1]])))] 785
def S2 : Sm := ⟨5, [.slc 5 0 1 (some 1)], X2, .tup [.ptr 13 0 0, .agg [I4 0, z0]], X3⟩
def X4 : HT := HT.upd X3 [] 785
def X5 : HT := HT.upd X4 [(785, some (.b (.map [] 0))), (786, some (.b (.row 86 [[I3 0, .int .u32 (0), .ptr 13 0 0, .map 785]])))] 787
def S3 : Sm := ⟨7, [.ptr 13 0 0], X4, .ptr 786 0 0, X5⟩
def X6 : HT := HT.upd X5 [] 787
def X7 : HT := HT.upd X6 [(785, some (.b (.map [(z1, .ptr 801 0 0, 0)] 1))), (797, some (.b (.row 9 [[z17]]))), (798, some (.b (.map [(I3 1, I4 0, 0), (I3 2, I4 1, 1), (I3 4, I4 2, 2), (I3 5, I4 3, 3), (I3 6, I4 4, 4), (I3 7, I4 5, 5)] 6))), (799, some (.b (.map [(z9, I4 0, 0), (z4, I4 1, 1), (z5, I4 2, 2), (z6, I4 3, 3), (z7, I4 4, 4), (z8, I4 5, 5)] 6))), (800, some (.b (.map [(z9, I4 0, 0), (z4, I4 1, 1), (z5, I4 2, 2), (z6, I4 3, 3), (z7, I4 4, 4), (z8, I4 5, 5)] 6))), (801, some (.b (.row 264 [[z1, .slc 797 0 1 none, .slc 861 0 6 none, .map 798, .map 799, .map 800]]))), (861, some (.b (.row 174 [[I3 1, z9, z9, U8 1, U8 5, U8 0, .bool false, I4 0, z0], [I3 2, z4, z4, U8 3, U8 5, U8 0, .bool true, I4 0, z0], [I3 4, z5, z5, U8 1, U8 11, U8 0, .bool false, I4 0, z1], [I3 5, z6, z6, U8 4, U8 5, U8 9, .bool false, I4 0, z0], [I3 6, z7, z7, U8 1, U8 5, U8 0, .bool false, I4 1, z0], [I3 7, z8, z8, U8 1, U8 11, U8 0, .bool false, I4 1, z1]])))] 878
def S4 : Sm := ⟨338, [.ptr 786 0 0, z1], X6, .tup [.ptr 801 0 0, I4 0], X7⟩
def X8 : HT := HT.upd X7 [] 878
def X9 : HT := HT.upd X8 [] 898
def S5 : Sm := ⟨32, [.ifc 37 (.ptr 786 0 0), .agg [z1, .nils, .nils]], X8, .tup [.agg [z1, .nils, .nils], I4 0], X9⟩
end Go.Proofs.YtgjjbfhamlecoacGreatDoor
