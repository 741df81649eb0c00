/- The logic L (of no program), and plain laws: texts put together; no conditions. -/
import Derived.Test.YtldbbnkacahndabGreatDoorZ3
import Derived.ProofKit
import Derived.KernelRfl
namespace Go.L
theorem eqD_ok {a b : ADef} (h : eqD a b = true) : a = b := by
 cases a <;> cases b <;> simp only [eqD] at h <;> first | (cases h; done) | skip
 ·simp only [Bool.and_eq_true] at h
  rw [eqFn_ok h.1, eqL_ok _ h.2.1, eqL_ok _ h.2.2]
 ·rw [Nat.eq_of_beq_eq_true h]
theorem eqDs_ok : ∀ {a b : List ADef}, eqDs a b = true → a = b := by
 intro a
 induction a with
 | nil => intro b h; cases b with
  | nil => rfl
  | cons => cases h
 | cons x l ih => intro b h; cases b with
  | nil => cases h
  | cons y m =>
   simp only [eqDs, Bool.and_eq_true] at h
   rw [eqD_ok h.1, ih h.2]
theorem eqE_ok {a b : ET} (h : eqE a b = true) : a = b := by
 simp only [eqE, Bool.and_eq_true] at h
 cases a; cases b
 simp only at h
 rw [Nat.eq_of_beq_eq_true h.1, eqDs_ok h.2.1, eqT_ok (fun h => eqA_ok _ h) h.2.2]
theorem eqX_ok {a b : XR} (h : eqX a b = true) : a = b := by
 unfold eqX at h
 split at h
 ·simp only [Bool.and_eq_true] at h
  rw [eqE_ok h.1, eqH_ok h.2]
 ·cases h
theorem eqC_ok {a b : CR} (h : eqC a b = true) : a = b := by
 unfold eqC at h
 split at h
 ·simp only [Bool.and_eq_true] at h
  rw [eqA_ok _ h.1, eqH_ok h.2]
 ·cases h
section
variable {P : Program} {hb : FuncId → Bool} {run : Run}
theorem iterX_ok {f : ET → HT → Option (List XR)} {c : ACode} {kp : List Nat} (hf : ∀ (e : ET) (h : HT) (l : List XR) (Q : Xit → Env → Hp → Prop), f e h = some l → PanC kp Q → (∀ x ∈ l, XRQ P Q x) → LCode P true c Q e.env (h.hp P))
  {n : Nat} {e : ET} {h : HT} {l : List XR} {Q : Xit → Env → Hp → Prop} (hx : iterX f n e h = some l) (hQ : PanC kp Q) (hl : ∀ x ∈ l, XRQ P Q x) : LCode P true (.loop c) Q e.env (h.hp P) := by
 refine ⟨fun m e1 h1 => ∃ (e2 : ET) (h2 : HT) (l2 : List XR), e1 = e2.env ∧ h1 = h2.hp P ∧ iterX f m e2 h2 = some l2 ∧ ∀ x ∈ l2, XRQ P Q x, ⟨n, e, h, l, rfl, rfl, hx, hl⟩, ?_⟩
 rintro m _ _ ⟨e2, h2, l2, rfl, rfl, hm, hl2⟩
 cases m with
 | zero => cases hm
 | succ m =>
  simp only [iterX] at hm
  split at hm <;> first | cases hm | skip
  rename_i outs ho
  refine hf _ _ _ _ ho (fun v => hQ v) (dd_ok eqX_ok fun x hxo => ?_)
  obtain ⟨k, hk, hsub⟩ := bindL_ok hm x hxo
  obtain ⟨y, e3, h3⟩ := x
  cases y with
  | normal => exact ⟨m, Nat.lt_succ_self m, e3, h3, k, rfl, rfl, hk, fun x hx => hl2 x (hsub x hx)⟩
  | exit i => cases hk; exact hl2 _ (hsub _ (List.mem_singleton.2 rfl))
  | ret => cases hk; exact hl2 _ (hsub _ (List.mem_singleton.2 rfl))
  | pan v => cases hk; exact hl2 _ (hsub _ (List.mem_singleton.2 rfl))
theorem xAlt1_ok (hh : BodyOK P hb) (hrun : RunOK P run) {l : List AOper} {e e0 : ET} {h : HT} {outs : List OR} {m : List XR} {D kp : List Nat} {Q : Xit → Env → Hp → Prop} (hQ : PanC kp Q) (hx : xOps P hb run l e h = some outs)
  (hb2 : bindL outs (altX kp D e0) = some m) (hl : ∀ x ∈ m, XRQ P Q x) : LOps P true l (fun e h => Q .normal e h) (fun v _ h => ∀ g : Nat → AV, (∀ t, inL t D = false → g t = e0.env.t t) → Q (.pan v) ⟨e0.env.n, g, e0.env.ds⟩ h) e.env (h.hp P) := by
 refine xOps_ok hh hrun l hx fun x hxo => ?_
 obtain ⟨k, hk, hsub⟩ := bindL_ok hb2 x hxo
 cases x with
 | nor e h => cases hk; exact hl _ (hsub _ (List.mem_singleton.2 rfl))
 | pan v e h =>
  simp only [altX] at hk
  split at hk <;> cases hk
  rename_i hD
  intro g hg
  refine hQ v e0.env ⟨e0.env.n, g, e0.env.ds⟩ _ rfl rfl (fun t ht => (hg t ?_).symm) (hl _ (hsub _ (List.mem_singleton.2 rfl)))
  cases hd : inL t D with
  | false => rfl
  | true =>
   have := List.all_eq_true.1 hD t (inL_iff.1 hd)
   rw [ht] at this; cases this
theorem xAlts_ok (hh : BodyOK P hb) (hrun : RunOK P run) {e e0 : ET} {h : HT} {D kp : List Nat} {Q : Xit → Env → Hp → Prop} (hQ : PanC kp Q) : ∀ {ls : List (List AOper)} {m : List XR}, xAlts (fun l => xOps P hb run l e h) (altX kp D e0) ls = some m → (∀ x ∈ m, XRQ P Q x) →
  LAlts P true ls (fun e h => Q .normal e h) (fun v _ h => ∀ g : Nat → AV, (∀ t, inL t D = false → g t = e0.env.t t) → Q (.pan v) ⟨e0.env.n, g, e0.env.ds⟩ h) e.env (h.hp P)
 | [], m, _, _ => trivial
 | [l], m, hx, hl => by
  simp only [xAlts] at hx
  split at hx <;> first | cases hx | skip
  rename_i outs ho
  exact xAlt1_ok hh hrun hQ ho hx hl
 | l :: l2 :: r, m, hx, hl => by
  simp only [xAlts] at hx
  split at hx <;> first | cases hx | skip
  rename_i outs ho
  split at hx <;> first | cases hx | skip
  rename_i a ha
  split at hx <;> cases hx
  rename_i b hb3
  exact ⟨xAlt1_ok hh hrun hQ ho ha fun x hx => hl x (List.mem_append_left _ hx), xAlts_ok hh hrun hQ hb3 fun x hx => hl x (List.mem_append_right _ hx)⟩
theorem Hp.set_del {h : Hp} {i : Nat} {b : Blk} (hu : h.u i = true) : (h.set i b).del i = h.del i := by
 refine Hp.ext (fun j => ?_) (fun j => ?_)
 ·by_cases e : j = i
  ·subst e; simp
  ·rw [Hp.del_ne e, Hp.del_ne e, Hp.set_ne e]
 ·simp only [Hp.del_u, Hp.set_u]
  split
  ·rename_i e; rw [e, hu]
  ·rfl
theorem xOver_ok {i j : Nat} {e : ET} {h : HT} {l : List XR} {Q : Xit → Env → Hp → Prop} (hx : xOver i j e h = some l) (hl : ∀ x ∈ l, XRQ P Q x) : rngQ j Q ⟨e.env.n, e.env.t, .mark i :: e.env.ds⟩ (h.hp P) := by
 unfold xOver at hx
 split at hx <;> first | cases hx | skip
 rename_i n t ps a b st pend hj
 have hu := hp_u (P := P) hj
 have key : st ≠ .busy → ∀ y, l = [(y, ⟨e.n, e.t, .mark i :: e.ds⟩, h.del j)] → Q y ⟨e.env.n, e.env.t, .mark i :: e.env.ds⟩ ((h.hp P).del j) := fun _ y hy => by
  subst hy
  have := hl _ (List.mem_singleton.2 rfl)
  simp only [XRQ, HT.hp_del] at this
  exact this
 have hst : st ≠ .busy := fun e => by subst e; cases hx
 refine ⟨pend, n, _, ps, _, st, pend, hp_at hj, ⟨hst, rfl⟩, .inr ?_⟩
 rw [Hp.set_del hu]
 have hx' : (match pend with
   | none => some [((.normal, ⟨e.n, e.t, .mark i :: e.ds⟩, h.del j) : XR)]
   | some .ret => some [(.ret, ⟨e.n, e.t, .mark i :: e.ds⟩, h.del j)]
   | some (.exit id) => some [(.exit id, ⟨e.n, e.t, .mark i :: e.ds⟩, h.del j)]) = some l := by
  clear key hl
  cases st <;> first | (cases pend with
   | none => exact hx
   | some p => cases p <;> exact hx) | exact (hst rfl).elim
 cases pend with
 | none => cases hx'; exact key hst _ rfl
 | some p => cases p with
  | ret => cases hx'; exact key hst _ rfl
  | exit id => cases hx'; exact key hst _ rfl
theorem xC_ok (hh : BodyOK P hb) (hrun : RunOK P run) {fuel : Nat} {kp : List Nat} : ∀ (c : ACode) (e : ET) (h : HT) (l : List XR) (Q : Xit → Env → Hp → Prop), xC P hb run fuel kp c e h = some l → PanC kp Q → (∀ x ∈ l, XRQ P Q x) → LCode P true c Q e.env (h.hp P) := by
 intro c
 have one : ∀ {e : ET} {h : HT} {y : Xit} {Q : Xit → Env → Hp → Prop}, (∀ x ∈ [((y, e, h) : XR)], XRQ P Q x) → Q y e.env (h.hp P) := fun hl => hl _ (List.mem_singleton.2 rfl)
 induction c with
 | skip => intro e h l Q hx hQ hl; cases hx; exact one hl
 | ops ll =>
  intro e h l Q hx hQ hl
  simp only [xC, opsX] at hx
  split at hx <;> first | cases hx | skip
  rename_i outs ho
  refine xOps_ok hh hrun ll ho fun x hxo => ?_
  obtain ⟨k, hk, hsub⟩ := bindL_ok hx x hxo
  cases x <;> cases hk <;> exact hl _ (hsub _ (List.mem_singleton.2 rfl))
 | seq a b iha ihb =>
  intro e h l Q hx hQ hl
  simp only [xC, seqX] at hx
  split at hx <;> first | cases hx | skip
  rename_i outs ho
  refine iha _ _ _ _ ho (fun v => hQ v) fun x hxo => ?_
  obtain ⟨k, hk, hsub⟩ := bindL_ok hx x hxo
  obtain ⟨y, e1, h1⟩ := x
  cases y with
  | normal => exact ihb _ _ _ _ hk hQ fun x hx => hl x (hsub x hx)
  | exit i => cases hk; exact hl _ (hsub _ (List.mem_singleton.2 rfl))
  | ret => cases hk; exact hl _ (hsub _ (List.mem_singleton.2 rfl))
  | pan v => cases hk; exact hl _ (hsub _ (List.mem_singleton.2 rfl))
 | cond c a b iha ihb =>
  intro e h l Q hx hQ hl
  simp only [xC, condX] at hx
  split at hx <;> first | cases hx | skip
  ·rename_i h1; simp only [LCode, h1, bcase]; exact iha _ _ _ _ hx hQ hl
  ·rename_i h1; simp only [LCode, h1, bcase]; exact ihb _ _ _ _ hx hQ hl
 | block id c ih =>
  intro e h l Q hx hQ hl
  simp only [xC, blockX] at hx
  split at hx <;> first | cases hx | skip
  rename_i outs ho
  refine ih _ _ _ _ ho (fun v => hQ v) fun x hxo => ?_
  obtain ⟨k, hk, hsub⟩ := bindL_ok hx x hxo
  obtain ⟨y, e1, h1⟩ := x
  cases y with
  | exit j =>
   simp only at hk
   split at hk <;> cases hk
   ·rename_i hj
    have := hl _ (hsub _ (List.mem_singleton.2 rfl))
    simp only [XRQ, inBlk, Nat.eq_of_beq_eq_true hj, if_true] at this ⊢; exact this
   ·rename_i hj
    have hne : j ≠ id := fun e => by subst e; rw [Nat.beq_refl] at hj; cases hj
    have := hl _ (hsub _ (List.mem_singleton.2 rfl))
    simp only [XRQ, inBlk, hne, if_false] at this ⊢; exact this
  | normal => cases hk; exact hl _ (hsub _ (List.mem_singleton.2 rfl))
  | ret => cases hk; exact hl _ (hsub _ (List.mem_singleton.2 rfl))
  | pan v => cases hk; exact hl _ (hsub _ (List.mem_singleton.2 rfl))
 | loop c ih => intro e h l Q hx hQ hl; exact iterX_ok (fun e h l Q => ih e h l Q) hx hQ hl
 | exit id => intro e h l Q hx hQ hl; cases hx; exact one hl
 | ret => intro e h l Q hx hQ hl; cases hx; exact one hl
 | bad => intro e h l Q hx hQ hl; cases hx
 | recv d ms => intro e h l Q hx hQ hl; cases hx
 | orr a b iha ihb =>
  intro e h l Q hx hQ hl
  simp only [xC, orX] at hx
  split at hx
  ·rename_i r hr; cases hx; exact .inl (iha _ _ _ _ hr hQ hl)
  ·exact .inr (ihb _ _ _ _ hx hQ hl)
 | alts D ls =>
  intro e h l Q hx hQ hl
  simp only [xC, altsX] at hx
  split at hx <;> cases hx
  rename_i m hm
  exact xAlts_ok hh hrun hQ hm (dd_ok eqX_ok hl)
 | dfr x args =>
  intro e h l Q hx hQ hl
  simp only [xC, dfrX] at hx
  split at hx <;> cases hx
  rename_i f first cap hv
  simp only [LCode, hv]
  exact one hl
 | rngf g ps a b iha ihb =>
  intro e h l Q hx hQ hl
  simp only [xC, rngX] at hx
  split at hx <;> first | cases hx | skip
  rename_i f first cap hv
  split at hx <;> first | cases hx | skip
  rename_i hc
  simp only [Bool.and_eq_true, Bool.not_eq_true'] at hc
  obtain ⟨hbf, hu1, hu2⟩ := hc
  split at hx <;> first | cases hx | skip
  rename_i outs ho
  simp only [LCode, hv]
  have fresh : ∀ {h : Hp} {i : Nat}, h.u i = false → Fresh h i := fun {h i} hu => ⟨hu, h.ok i hu⟩
  rw [HT.hp_set] at hu2
  refine ⟨hh f hbf, h.n, fresh hu1, h.n + 1, fresh hu2, ?_⟩
  have k := hrun.call _ _ _ _ (fun r h' => match r with
   | .ret _ => rngQ (h.n + 1) Q ⟨e.env.n, e.env.t, .mark h.n :: e.env.ds⟩ h'
   | .pan v => Q (.pan v) ⟨e.env.n, e.env.t, .mark h.n :: e.env.ds⟩ h') ho (fun x hxo => ?_)
  ·rw [HT.hp_set, HT.hp_set] at k; exact k
  obtain ⟨m, hm, hsub⟩ := bindL_ok hx x hxo
  cases x with
  | ret v h' => exact xOver_ok hm fun x hx => hl x (hsub x hx)
  | pan v h' => cases hm; exact hl _ (hsub _ (List.mem_singleton.2 rfl))
theorem xRes_ok {e : Env} {h : Hp} : ∀ (rs : List ARes) {l : List AV} {N : List AV → Prop}, xRes e h rs = some l → N l → resL e h rs N := by
 intro rs
 induction rs with
 | nil => intro l N hx hn; cases hx; exact hn
 | cons r rs ih =>
  intro l N hx hn
  cases r <;> simp only [xRes] at hx <;> split at hx <;> cases hx
  ·rename_i l' h1; exact ih h1 hn
  ·rename_i v l' h1 h2; exact eN_ok h1 (ih h2 hn)
  ·rename_i v l' h1 h2; exact eN_ok h1 (ih h2 hn)
theorem argsT_get : ∀ (args : List AV) (i : Nat) (t : Tr AV) (x : Nat), (argsT args i t).get x = if i ≤ x ∧ x < i + args.length then args[x - i]? else t.get x := by
 intro args
 induction args with
 | nil => intro i t x; simp only [argsT, List.length_nil]; rw [if_neg (by omega)]
 | cons a r ih =>
  intro i t x
  rw [argsT, ih, Tr.get_set]
  by_cases e : x = i
  ·subst e
   rw [if_neg (by omega), if_pos rfl, if_pos (by simp)]; simp
  ·by_cases e2 : i + 1 ≤ x ∧ x < i + 1 + r.length
   ·rw [if_pos e2, if_pos (by simp; omega)]
    obtain ⟨k, rfl⟩ : ∃ k, x = i + 1 + k := ⟨x - (i + 1), by omega⟩
    rw [show i + 1 + k - (i + 1) = k by omega, show i + 1 + k - i = k + 1 by omega]; rfl
   ·rw [if_neg e2, if_neg e, if_neg (by simp; omega)]
theorem env0_eq (n : Nat) (args : List AV) : (⟨n, argsT args 0 .nil, []⟩ : ET).env = env0 n args := by
 simp only [ET.env, env0, Env.mk.injEq, true_and, and_true]
 funext x
 rw [argsT_get]
 by_cases h : x < args.length
 ·rw [if_pos (by omega)]; simp
 ·rw [if_neg (by omega), List.getElem?_eq_none (by omega), Tr.get_nil]
theorem xLeave_ok (hh : BodyOK P hb) (hrun : RunOK P run) {rs : List ARes} {Q : Res → Hp → Prop} : ∀ (ds : List ADef) (u : Um) (e : ET) (h : HT) (l : List CR), xLeave P hb run rs ds u e h = some l → (∀ x ∈ l, CRQ P Q x) → LeavesL P rs Q ds u e.env (h.hp P) := by
 intro ds
 induction ds with
 | nil =>
  intro u e h l hx hl
  cases u with
  | ret =>
   simp only [xLeave] at hx
   split at hx <;> cases hx
   rename_i r hr
   exact xRes_ok rs hr (hl _ (List.mem_singleton.2 rfl))
  | pan v => cases hx; exact hl _ (List.mem_singleton.2 rfl)
  | rcv v => cases hx
 | cons d ds ih =>
  intro u e h l hx hl
  cases d with
  | mark i =>
   simp only [xLeave] at hx
   split at hx <;> first | cases hx | skip
   rename_i hi
   have := ih _ _ _ _ hx hl
   rw [HT.hp_del] at this
   exact ⟨hp_at hi, this⟩
  | call fn cap args =>
   cases fn <;> simp only [xLeave] at hx <;> first | (cases hx; done) | skip
   rename_i f
   split at hx <;> first | cases hx | skip
   rename_i hbf
   split at hx <;> first | cases hx | skip
   rename_i outs ho
   refine ⟨hh f hbf, hrun.dfr _ _ _ _ _ _ ho fun x hxo => ?_⟩
   obtain ⟨m, hm, hsub⟩ := bindL_ok hx x hxo
   obtain ⟨r, um, h'⟩ := x
   cases r with
   | ret v => exact ih _ _ _ _ hm fun x hx => hl x (hsub x hx)
   | pan v => cases hm
theorem inL_cons {t a : Nat} {l : List Nat} : inL t (a :: l) = (Nat.beq a t || inL t l) := rfl
theorem resL_agree {e e2 : Env} {h : Hp} : ∀ {rs : List ARes}, (∀ t, inL t (resT rs) = true → e.t t = e2.t t) → ∀ {N : List AV → Prop}, resL e h rs N = resL e2 h rs N := by
 intro rs
 induction rs with
 | nil => intro _ N; rfl
 | cons r rs ih =>
  intro hT N
  have hd : ∀ t, resT (r :: rs) = t :: resT rs → e.t t = e2.t t := fun t ht => hT t (by rw [ht, inL_cons, Nat.beq_refl]; rfl)
  have tl : ∀ t, inL t (resT rs) = true → e.t t = e2.t t := fun t ht => hT t (by
   cases r <;> simp only [resT, inL_cons, ht, Bool.or_true])
  have ih := fun {N} => ih tl (N := N)
  cases r with
  | tmp t => simp only [resL, ih, hd t rfl]
  | cell1 t => simp only [resL, LN, ev, ih, hd t rfl]
  | cella t n => simp only [resL, LN, ev, ih, hd t rfl]
theorem LeavesL_agree {rs : List ARes} {Q : Res → Hp → Prop} : ∀ (ds : List ADef) (u : Um) {e e2 : Env} {h : Hp}, (∀ t, inL t (resT rs) = true → e.t t = e2.t t) → LeavesL P rs Q ds u e h → LeavesL P rs Q ds u e2 h := by
 intro ds
 induction ds with
 | nil =>
  intro u e e2 h hT hl
  cases u with
  | ret => exact Eq.mp (resL_agree hT) hl
  | pan v => exact hl
  | rcv v => exact hl
 | cons d ds ih =>
  intro u e e2 h hT hl
  cases d with
  | mark i => exact ⟨hl.1, ih _ hT hl.2⟩
  | call fn cap args =>
   cases fn <;> first | exact hl.elim | skip
   refine ⟨hl.1, hl.2.mono fun r u h' hr => ?_⟩
   cases r with
   | ret v => exact ih _ hT hr
   | pan v => exact hr.elim
theorem EndQD_panC {rs : List ARes} {Q : Res → Hp → Prop} : PanC (resT rs) (EndQD P rs Q) := fun v e e' h _ hds hT hq => by
 have : LeavesL P rs Q e.ds (.pan v) e h := hq
 show LeavesL P rs Q e'.ds (.pan v) e' h
 rw [← hds]; exact LeavesL_agree _ _ hT this
def dels (h : Hp) : List Nat → Hp
 | [] => h
 | i :: l => dels (h.del i) l
theorem R.dels {σ : Emb} {M : Mem} {w : World} : ∀ (l : List Nat) {h : Hp}, R P σ M h w → R P σ M (dels h l) w
 | [], _, hR => hR
 | i :: l, _, hR => R.dels l (hR.del i)
theorem CallL.drop {f : FuncId} {args : List AV} {h : Hp} {Q : Res → Hp → Prop} (k : CallL P f args h fun r h' => ∃ l, Q r (Go.L.dels h' l)) : CallL P f args h Q := by
 refine ⟨fun σ M w args' hR hA => (k.run σ M w args' hR hA).mono fun e w' ⟨σ', M', h', h1, h2, h3⟩ => ?_⟩
 cases e with
 | returned v' => obtain ⟨v, a, l, b⟩ := h3; exact ⟨σ', M', _, h1, h2.dels l, v, a, b⟩
 | panicked ch => obtain ⟨v, v', a, b, l, c⟩ := h3; exact ⟨σ', M', _, h1, h2.dels l, v, v', a, b, c⟩
 | outgrown => exact h3.elim
theorem sweep_ok : ∀ (f i : Nat) (h : HT), ∃ l, (sweep f i h).hp P = dels (h.hp P) l
 | 0, _, h => ⟨[], rfl⟩
 | f + 1, i, h => by
  have del : ∃ l, (sweep f (i + 1) (h.del i)).hp P = dels (h.hp P) l := by
   obtain ⟨l, hl⟩ := sweep_ok f (i + 1) (h.del i)
   exact ⟨i :: l, by rw [hl, HT.hp_del]; rfl⟩
  unfold sweep
  split
  ·exact del
  ·exact del
  ·exact del
  ·exact sweep_ok f (i + 1) h
theorem tidy_ok {n0 : Nat} {l : List CR} {Q : Res → Hp → Prop} (h : ∀ x ∈ tidy n0 l, CRQ P Q x) : ∀ x ∈ l, CRQ P (fun r h' => ∃ l, Q r (dels h' l)) x := by
 have plain : ∀ x, CRQ P Q x → CRQ P (fun r h' => ∃ l, Q r (dels h' l)) x := fun x hx => by cases x <;> exact ⟨[], hx⟩
 unfold tidy at h
 split at h
 ·exact fun x hx => plain x (h x hx)
 ·intro x hx
  have h2 := dd_ok eqC_ok h (sweepC n0 x) (List.mem_map.2 ⟨x, hx, rfl⟩)
  cases x with
  | ret v h' =>
   obtain ⟨l, hl⟩ := sweep_ok (P := P) (h'.n - n0) n0 h'
   simp only [sweepC, CRQ, hl] at h2
   exact ⟨l, h2⟩
  | pan v h' => exact plain _ h2
def CodesOK (P : Program) (codes : Tr FC) : Prop := ∀ f c, codes.get f = some c → ∃ fn m, P.funcs[f]? = some fn ∧ fn.ntmps = c.n ∧ cutF m (compF P fn) = some (c.c, c.r)
theorem xFun_ok {codes : Tr FC} {loops : Nat} (hk : CodesOK P codes) (hh : BodyOK P hb) (hrun : RunOK P run) {f : FuncId} {args : List AV} {h : HT} {l : List CR} {Q : Res → Hp → Prop} (hx : xFun P hb codes loops run f args h = some l) (hl : ∀ x ∈ l, CRQ P Q x) :
  CallL P f args (h.hp P) Q := by
 unfold xFun at hx
 split at hx <;> first | cases hx | skip
 rename_i c hc
 obtain ⟨fn, msk, hf, hn, hcf⟩ := hk f c hc
 obtain ⟨full, hcf, hcut⟩ := cutF_inv hcf
 split at hx <;> first | cases hx | skip
 rename_i hlen
 have hlen' := Nat.le_of_ble_eq_true hlen
 split at hx <;> first | cases hx | skip
 rename_i outs ho
 split at hx <;> cases hx
 rename_i l2 hl2
 refine CallL.drop (CallL.ofD (md := true) hf hcf (by rw [hn]; exact hlen') ?_)
 rw [hn, ← env0_eq]
 have hq := tidy_ok hl
 refine cutA_ok full msk ?_
 rw [← hcut]
 refine xC_ok hh hrun _ _ _ _ _ ho EndQD_panC fun x hxo => ?_
 obtain ⟨m, hm, hsub⟩ := bindL_ok hl2 x hxo
 obtain ⟨y, e', h'⟩ := x
 cases y with
 | normal => exact xLeave_ok hh hrun _ _ _ _ _ hm fun x hx => hq x (hsub x hx)
 | ret => exact xLeave_ok hh hrun _ _ _ _ _ hm fun x hx => hq x (hsub x hx)
 | pan v => exact xLeave_ok hh hrun _ _ _ _ _ hm fun x hx => hq x (hsub x hx)
 | exit i => cases hm
theorem putsET_env : ∀ (ms : List (Option Nat × AOpd)) (e : ET), (putsET e ms).env = putsE e.env ms
 | [], e => rfl
 | (d, x) :: r, e => by rw [putsET, putsE, putsET_env r, ET.env_put]
theorem xCS_ok (hh : BodyOK P hb) (hrun : RunOK P run) {fuel : Nat} : ∀ (c : ACode) (e : ET) (h : HT) (u : Um) (l : List XS) (Q : Xit → Env → Hp → Um → Prop), xCS P hb run fuel c e h u = some l → (∀ u, PanC [] fun x e h => Q x e h u) → (∀ x ∈ l, Q x.1 x.2.1.env (x.2.2.1.hp P) x.2.2.2) → LCodeS P true c Q e.env (h.hp P) u := by
 intro c
 have plain : ∀ (c : ACode) (e : ET) (h : HT) (u : Um) (l : List XS) (Q : Xit → Env → Hp → Um → Prop), plainA c = true → (match xC P hb run fuel [] c e h with
   | some outs => some (outs.map fun x => ((x.1, x.2.1, x.2.2, u) : XS))
   | none => none) = some l → (∀ u, PanC [] fun x e h => Q x e h u) → (∀ x ∈ l, Q x.1 x.2.1.env (x.2.2.1.hp P) x.2.2.2) → LCode P true c (fun x e h => Q x e h u) e.env (h.hp P) := by
  intro c e h u l Q _ hx hQ hl
  split at hx <;> cases hx
  rename_i outs ho
  exact xC_ok hh hrun _ _ _ _ _ ho (hQ u) fun x hxo => hl _ (List.mem_map.2 ⟨x, hxo, rfl⟩)
 induction c with
 | seq a b iha ihb =>
  intro e h u l Q hx hQ hl
  simp only [xCS] at hx
  split at hx <;> first | cases hx | skip
  rename_i outs ho
  refine iha _ _ _ _ _ ho (fun u v => hQ u v) fun x hxo => ?_
  obtain ⟨m, hm, hsub⟩ := bindL_ok hx x hxo
  obtain ⟨y, e1, h1, u1⟩ := x
  cases y with
  | normal => exact ihb _ _ _ _ _ hm hQ fun x hx => hl x (hsub x hx)
  | exit i => cases hm; exact hl _ (hsub _ (List.mem_singleton.2 rfl))
  | ret => cases hm; exact hl _ (hsub _ (List.mem_singleton.2 rfl))
  | pan v => cases hm; exact hl _ (hsub _ (List.mem_singleton.2 rfl))
 | cond c a b iha ihb =>
  intro e h u l Q hx hQ hl
  simp only [xCS] at hx
  split at hx <;> first | cases hx | skip
  ·rename_i h1; simp only [LCodeS, h1, bcase]; exact iha _ _ _ _ _ hx hQ hl
  ·rename_i h1; simp only [LCodeS, h1, bcase]; exact ihb _ _ _ _ _ hx hQ hl
 | recv d ms =>
  intro e h u l Q hx hQ hl
  cases u with
  | pan v =>
   cases hx
   have := hl _ (List.mem_singleton.2 rfl)
   simp only [putsET_env, ET.env_put] at this
   exact this
  | ret =>
   cases hx
   have := hl _ (List.mem_singleton.2 rfl)
   simp only [putsET_env, ET.env_put] at this
   exact this
  | rcv v =>
   cases hx
   have := hl _ (List.mem_singleton.2 rfl)
   simp only [putsET_env, ET.env_put] at this
   exact this
 | _ => intro e h u l Q hx hQ hl; exact plain _ e h u l Q rfl hx hQ hl
theorem xDfr_ok {codes : Tr FC} {loops : Nat} (hk : CodesOK P codes) (hh : BodyOK P hb) (hrun : RunOK P run) {f : FuncId} {args : List AV} {u : Um} {h : HT} {l : List DR} {Q : Res → Um → Hp → Prop} (hx : xDfr P hb codes loops run f args u h = some l)
  (hl : ∀ x ∈ l, Q x.r x.u (x.h.hp P)) : DefL P f args u (h.hp P) Q := by
 unfold xDfr at hx
 split at hx <;> first | cases hx | skip
 rename_i c hc
 obtain ⟨fn, msk, hf, hn, hcf⟩ := hk f c hc
 obtain ⟨full, hcf, hcut⟩ := cutF_inv hcf
 split at hx <;> first | cases hx | skip
 rename_i hlen
 have hlen' := Nat.le_of_ble_eq_true hlen
 split at hx <;> first | cases hx | skip
 rename_i outs ho
 refine DefL.ofS (md := true) hf hcf (by rw [hn]; exact hlen') ?_
 rw [hn, ← env0_eq]
 refine cutA_okS full msk ?_
 rw [← hcut]
 refine xCS_ok hh hrun _ _ _ _ _ _ ho (fun u v e e' h _ hds _ hq => ⟨hds ▸ hq.1, hq.2⟩) fun x hxo => ?_
 obtain ⟨m, hm, hsub⟩ := bindL_ok hx x hxo
 obtain ⟨y, e', h', u'⟩ := x
 simp only at hm
 split at hm <;> first | cases hm | skip
 rename_i hds
 have fin : ∀ {m : List DR}, (match xRes e'.env (h'.hp P) c.r with
   | some l => some [(⟨.ret (oneV l), u', h'⟩ : DR)]
   | none => none) = some m → (∀ y ∈ m, y ∈ l) → e'.env.ds = [] ∧ resL e'.env (h'.hp P) c.r fun l => Q (.ret (oneV l)) u' (h'.hp P) := by
  intro m hm hsub
  split at hm <;> cases hm
  rename_i r hr
  exact ⟨hds, xRes_ok _ hr (hl _ (hsub _ (List.mem_singleton.2 rfl)))⟩
 cases y with
 | exit i => cases hm
 | pan v => cases hm; exact ⟨hds, hl _ (hsub _ (List.mem_singleton.2 rfl))⟩
 | normal => exact fin hm hsub
 | ret => exact fin hm hsub
theorem xM_ok {codes : Tr FC} {loops : Nat} (hk : CodesOK P codes) (hh : BodyOK P hb) : ∀ d, RunOK P (xM P hb codes loops d) := by
 intro d
 induction d with
 | zero =>
  refine ⟨?_, ?_, ?_⟩
  ·intro f args h l Q hx; cases hx
  ·intro c e h l Q hx; cases hx
  ·intro f args u h l Q hx; cases hx
 | succ d ih => exact ⟨fun f args h l Q hx hl => xFun_ok hk hh ih hx hl, fun c e h l Q hx hQ hl => xC_ok hh ih c e h l Q hx hQ hl, fun f args u h l Q hx hl => xDfr_ok hk hh ih hx hl⟩
end
end Go.L

namespace Go.L
def GoodFC (P : Program) (f : FuncId) (c : FC) : Prop := ∃ fn m, P.funcs[f]? = some fn ∧ fn.ntmps = c.n ∧ cutF m (compF P fn) = some (c.c, c.r) ∧ (fn.name == "runtime.NumGoroutine") = false
def trOK {α : Type} (Q : Nat → α → Prop) : Tr α → (Nat → Nat) → Prop
 | .nil, _ => True
 | .node l v r, g => (match v with | none => True | some c => Q (g 0) c) ∧ trOK Q l (fun k => g (2 * k + 1)) ∧ trOK Q r (fun k => g (2 * k + 2))
theorem trOK_get {α : Type} {Q : Nat → α → Prop} : ∀ (t : Tr α) (g : Nat → Nat) (i : Nat) (c : α), trOK Q t g → t.get i = some c → Q (g i) c := by
 intro t
 induction t with
 | nil => intro g i c _ h; rw [Tr.get_nil] at h; cases h
 | node l v r ihl ihr =>
  intro g i c h hi
  obtain ⟨h1, h2, h3⟩ := h
  rw [Tr.get_node] at hi
  split at hi
  ·rename_i h0
   obtain rfl := Nat.eq_of_beq_eq_true h0
   subst hi; exact h1
  ·rename_i h0
   have hi0 : i ≠ 0 := fun e => by subst e; cases h0
   split at hi
   ·rename_i h4
    have h4' := Nat.eq_of_beq_eq_true h4
    have := ihl _ _ _ h2 hi
    rwa [show 2 * (i / 2) + 1 = i by omega] at this
   ·rename_i h4
    have h4' : i % 2 ≠ 1 := fun e => by rw [e] at h4; cases h4
    have := ihr _ _ _ h3 hi
    rwa [show 2 * (i / 2 - 1) + 2 = i by omega] at this
def hbOf (codes : Tr FC) (f : FuncId) : Bool := (codes.get f).isSome
theorem run_ok {P : Program} {codes : Tr FC} (h : trOK (GoodFC P) codes id) (loops d : Nat) : RunOK P (xM P (hbOf codes) codes loops d) := by
 refine xM_ok (fun f c hc => ?_) (fun f hf => ?_) d
 ·obtain ⟨fn, m, h1, h2, h3, _⟩ := trOK_get codes id f c h hc
  exact ⟨fn, m, h1, h2, h3⟩
 ·cases hc : codes.get f with
  | none => simp [hbOf, hc] at hf
  | some c =>
   obtain ⟨fn, m, h1, _, h3, h4⟩ := trOK_get codes id f c h hc
   refine ⟨fn, h1, ?_, h4⟩
   obtain ⟨full, h3, _⟩ := cutF_inv h3
   unfold compF at h3
   split at h3
   ·cases h3
   ·rename_i c' hb; rw [hb]; rfl
def sc1 : AV → Bool
 | .bool _ | .int _ _ | .flt _ _ | .str _ | .nilp | .nils | .nilm | .nilf | .nili => true
 | _ => false
def scv : AV → Bool
 | .tup vs => vs.all sc1
 | v => sc1 v
theorem sc1_VR {σ σ' : Emb} {M M' : Mem} {v : AV} {v' : Value} (h : sc1 v = true) (hv : VR σ M v v') : VR σ' M' v v' := by
 cases hv <;> first
  | (simp [sc1] at h; done)
  | exact .bool _
  | exact .int _ _
  | exact .flt _ _
  | exact .nilp
  | exact .nils
  | exact .nilm
  | exact .nilf
  | exact .nili
  | (exact .str _ _ ‹_›)
theorem scv_VR {σ σ' : Emb} {M M' : Mem} {v : AV} {v' : Value} (h : scv v = true) (hv : VR σ M v v') : VR σ' M' v v' := by
 have one : sc1 v = true → VR σ' M' v v' := fun h => sc1_VR h hv
 cases v <;> first | exact one h | skip
 rename_i vs
 obtain ⟨a, rfl, ha⟩ := hv.tup_inv
 refine VR.tup' ⟨ha.1, fun j x hx => ?_⟩
 obtain ⟨y, h1, h2⟩ := ha.2 j x hx
 exact ⟨y, h1, sc1_VR (List.all_eq_true.1 h x (List.mem_of_getElem? hx)) h2⟩
theorem CallL.closed {P : Program} {f : FuncId} {args : List AV} {h : Hp} {Q : AV → Prop} (ha : args.all sc1 = true) (k : CallL P f args Hp.nil fun r _ => ∃ v, r = .ret v ∧ scv v = true ∧ Q v) :
  CallL P f args h fun r h' => ∃ v, r = .ret v ∧ Q v ∧ h' = h := by
 constructor
 intro σ M w args' hR hA
 have hR0 : R P (fun _ => none) (fun B => (w.heap[B]?).map fun o => (o, 0)) Hp.nil w :=
  ⟨fun _ _ => rfl, (fun i b hi => by cases hi), (fun B o hB => by simp only [Option.map_eq_some_iff] at hB; obtain ⟨o', h1, rfl⟩ := hB; exact h1), (fun i b L hi => by cases hi), (fun i j bi bj Li Lj hi => by cases hi), (fun i b L hi => by cases hi), (fun i b L hi => by cases hi), hR.glb.of fun B o hB => ⟨0, by show (w.heap[B]?).map _ = _; rw [hR.mem B o hB]; rfl⟩⟩
 have hA0 : VRs (fun _ => none) (fun B => (w.heap[B]?).map fun o => (o, 0)) args args' := ⟨hA.1, fun j v hj => by
  obtain ⟨v', h1, h2⟩ := hA.2 j v hj
  exact ⟨v', h1, sc1_VR (List.all_eq_true.1 ha v (List.mem_of_getElem? hj)) h2⟩⟩
 refine (k.run _ _ w args' hR0 hA0).mono ?_
 rintro e w' ⟨σ', M', h', hE, hR', hend⟩
 have same : ∀ B, B < w.heap.size → w'.heap[B]? = w.heap[B]? := fun B hB => by
  have h1 : w.heap[B]? = some w.heap[B] := Array.getElem?_eq_getElem hB
  rw [h1]; exact hR'.mem B (w.heap[B], 0) (hE.m B _ (by simp only [h1, Option.map_some]))
 refine ⟨σ, M, h, ⟨σ.le_refl, M.le_refl, hE.size, hE.os, hE.tape, hE.output⟩, ⟨hR.fin, hR.dom, fun B o hB => ?_, hR.sep, hR.inj, fun i b L hi hL => ?_, hR.al, hR.glb⟩, ?_⟩
 ·have := hR.mem B o hB
  rw [same B (Array.getElem?_eq_some_iff.1 this).1]; exact this
 ·exact (hR.blk i b L hi hL).mono σ.le_refl M.le_refl (same _ (hR.placed hi hL))
 ·cases e with
  | returned v' =>
   obtain ⟨v, hv, v1, e1, h1, h2⟩ := hend
   cases e1
   exact ⟨v, scv_VR h1 hv, v, rfl, h2, rfl⟩
  | panicked ch => obtain ⟨v, v', _, _, v1, e1, _⟩ := hend; cases e1
  | outgrown => exact hend
def isRet (v : AV) : CR → Bool
 | .ret x _ => eqA x v
 | .pan _ _ => false
theorem CallL.ofRun {P : Program} {codes : Tr FC} (hk : trOK (GoodFC P) codes id) {loops d : Nat} {f : FuncId} {args : List AV} {v : AV} (ha : args.all sc1 = true) (hv : scv v = true)
  (hx : (match (xM P (hbOf codes) codes loops d).call f args HT.nil with | some l => l.all (isRet v) | none => false) = true) : PureL P f args v := by
 intro h
 split at hx <;> first | cases hx | skip
 rename_i l hr
 have k := (run_ok hk loops d).call f args HT.nil l (fun r _ => ∃ x, r = .ret x ∧ scv x = true ∧ x = v) hr fun x hxl => by
  have h1 := List.all_eq_true.1 hx x hxl
  cases x with
  | ret x h' => have := eqA_ok _ h1; subst this; exact ⟨_, rfl, hv, rfl⟩
  | pan x h' => cases h1
 rw [HT.hp_nil] at k
 exact (CallL.closed ha (Q := fun x => x = v) k).mono fun r h' ⟨x, h1, h2, h3⟩ => ⟨by rw [h1, h2], h3⟩
end Go.L

namespace Go.L
open Go.RowKit
def GlbW (P : Program) (w : World) : Prop := ∀ g3 g4, P.globalNamed "unicode/utf8.first" = some g3 → P.globalNamed "unicode/utf8.acceptRanges" = some g4 → Tabs8 g3 g4 w
theorem cell_same {w w' : World} {B i : Nat} {v : Value} (hB : ∀ o, w.heap[B]? = some o → w'.heap[B]? = some o) (h : w.cell? ⟨B, i, none⟩ = some v) : w'.cell? ⟨B, i, none⟩ = some v := by
 unfold World.cell? at h ⊢
 simp only at h ⊢
 cases ho : w.heap[B]? with
 | none => rw [ho] at h; cases h
 | some o => rw [hB o ho]; rw [ho] at h; exact h
theorem GlbW.glb {P : Program} {w : World} (h : GlbW P w) : Glb P (fun B => (w.heap[B]?).map fun o => (o, 0)) := fun g3 g4 h3 h4 w' hw => by
 have hb : ∀ B o, w.heap[B]? = some o → w'.heap[B]? = some o := fun B o ho => hw B (o, 0) (by simp only [ho, Option.map_some])
 obtain ⟨t1, t2⟩ := h g3 g4 h3 h4
 exact ⟨fun c hc => cell_same (hb _) (t1 c hc), fun i hi => ⟨cell_same (hb _) (t2 i hi).1, cell_same (hb _) (t2 i hi).2⟩⟩
theorem GlbW.none {P : Program} {w : World} (h : P.globalNamed "unicode/utf8.first" = none) : GlbW P w := fun g3 g4 h3 => by rw [h] at h3; cases h3
theorem CallL.law {P : Program} {f : FuncId} {args : List AV} {args' : Array Value} {w : World} (k : CallL P f args Hp.nil fun r _ => r = .ret (.bool true))
  (hG : GlbW P w)
  (hA : VRs (fun _ => none) (fun B => (w.heap[B]?).map fun o => (o, 0)) args args') : Calls P f args' w fun e w' => e = .returned (.bool true) ∧ Below w.heap.size w w' := by
 have hR0 : R P (fun _ => none) (fun B => (w.heap[B]?).map fun o => (o, 0)) Hp.nil w :=
  ⟨fun _ _ => rfl, (fun i b hi => by cases hi), (fun B o hB => by simp only [Option.map_eq_some_iff] at hB; obtain ⟨o', h1, rfl⟩ := hB; exact h1), (fun i b L hi => by cases hi), (fun i j bi bj Li Lj hi => by cases hi), (fun i b L hi => by cases hi), (fun i b L hi => by cases hi), hG.glb⟩
 refine (callsIn_wide.1 (k.run _ _ w args' hR0 hA)).mono ?_
 rintro e w' ⟨σ', M', h', hE, hR', hend⟩
 refine ⟨?_, hE.os, hE.tape, hE.output, hE.size, fun B hB => ?_⟩
 ·cases e with
  | returned v' =>
   obtain ⟨v, hv, e1⟩ := hend
   cases e1
   cases hv; rfl
  | panicked ch => obtain ⟨v, v', _, _, e1⟩ := hend; cases e1
  | outgrown => exact hend.elim
 ·have h1 : w.heap[B]? = some w.heap[B] := Array.getElem?_eq_getElem hB
  rw [h1]; exact hR'.mem B (w.heap[B], 0) (hE.m B _ (by simp only [h1, Option.map_some]))
end Go.L

namespace Go.Proofs.YtldbbnkacahndabGreatDoor
open Go.L
abbrev F_lexiconlaw23_known : Nat := 5
def A_lexiconlaw23_known_0 : LA := [o_ 12 (.bslice 5 1 2 [.int .u8 0] [(0, 1, (.c (.int .u8 97))), (1, 1, (.c (.int .u8 98)))]), o_ 13 (.b2b (.t 12)), o_ 14 (.bslice 25 1 2 [.nils] [(0, 1, (.t 13)), (1, 1, (.c (.nils)))]), o_ 15 (.call 7 [(i_ 100), (.t 14)]), mv 11 15, Wx 16 0 11, Wx 17 1 11, Wx 18 2 11, mv 1 16, mv 2 17, mv 3 18]
def A_lexiconlaw23_known_1 : LA := [o_ 19 (.call 15 [(i_ 5)]), mv 4 19]
def A_lexiconlaw23_known_2 : LA := [mv 20 2, Wi 21 .neq 20 0, mv 22 21, Whm 23 3 22, Wh 24 (.bini .neq (.t 23) (i_ 0)) 22, Wq 25 22 24, mv 26 25, Whm 27 1 26, Wh 28 (.b2s (.t 27)) 26, Wh 29 (.bins .neq (.t 28) (.c (.str [2, 97, 98, 0]))) 26, Wq 30 26 29, mv 31 30, Whm 32 4 31, Wh 33 (.isnil .pt false (.t 32)) 31, Wq 34 31 33, mv 35 34, Whm 36 4 35, Wh 37 (.bslice 5 1 3 [.int .u8 0] [(0, 1, (.c (.int .u8 1))), (1, 1, (.c (.int .u8 7))), (2, 1, (.c (.int .u8 8)))]) 35, Wh 38 (.call 16 [(.t 36), (.t 37)]) 35, Wh 39 (.bini .neq (.t 38) (i_ 2)) 35, Wq 40 35 39, mv 41 40, Whm 42 4 41, Wh 43 (.call 17 [(.t 42)]) 41, Wh 44 (.not (.t 43)) 41, Wq 45 41 44]
def A_lexiconlaw23_known_3 : LA := [o_ 47 (.call 19 []), o_ 48 (.bslice 74 5 1 [.str [], .str [], .nils, .nils, .nils] [(0, 5, (.t 47))]), o_ 49 (.call 18 [(.t 48)]), mv 46 49, Wx 50 0 46, Wx 51 1 46, o_ 6 (.box 67 2 (.c (.agg [.int .i64 (0), .str []]))), mv 5 50, Ws 2 6 51]
def A_lexiconlaw23_known_4 : LA := [Wf 52 0 6, Wl 53 52, Wi 54 .neq 53 0]
def A_lexiconlaw23_known_5 : LA := [mv 56 5, o_ 57 (.call 21 [(.t 56)]), o_ 58 (.mkifc 79 (.t 57)), o_ 59 (.call 20 [(.t 58), (.c (.str [119, 101, 108, 108, 46, 83, 116, 114, 105, 110, 103, 86, 97, 108, 117, 101]))]), mv 55 59, Wx 60 0 55, Wx 61 1 55, mv 7 60, mv 8 61]
def A_lexiconlaw23_known_6 : LA := [mv 62 8, Wi 63 .neq 62 0, mv 64 63, Whm 65 7 64, Wh 66 (.isnil .pt false (.t 65)) 64, Wq 67 64 66, mv 68 67, Whm 69 7 68, Wh 70 (.bslice 5 1 2 [.int .u8 0] [(0, 1, (.c (.int .u8 10))), (1, 1, (.c (.int .u8 1)))]) 68, Wh 71 (.call 22 [(.t 69), (.t 70)]) 68, Wh 72 (.bini .neq (.t 71) (i_ 0)) 68, Wq 73 68 72, mv 74 73, Whm 75 7 74, Wh 76 (.bslice 5 1 1 [.int .u8 0] [(0, 1, (.c (.int .u8 65)))]) 74, Wh 77 (.call 22 [(.t 75), (.t 76)]) 74, Wh 78 (.bini .neq (.t 77) (i_ 0)) 74, Wq 79 74 78]
def A_lexiconlaw23_known_7 : LA := [mv 81 7, o_ 82 (.call 23 [(.t 81)]), mv 80 82, Wx 83 0 80, Wx 84 1 80, o_ 9 (.box 84 3 (.c (.agg [.str [], .nils, .nils]))), Ws 3 9 83, mv 10 84]
def A_lexiconlaw23_known_8 : LA := [mv 85 10, Wi 86 .eql 85 0, mv 87 86, Wgf 88 1 9 87, Wgl 89 88 87, g_ 90 (.lenl (.t 89)) 87, g_ 91 (.bini .eql (.t 90) (i_ 1)) 87, Wp 92 87 91, mv 93 92, Wgf 94 1 9 93, Wgl 95 94 93, g_ 96 (.iaddr 89 3 (.t 95) (i_ 0)) 93, Wgf 97 2 96 93, Wgl 98 97 93, g_ 99 (.lenl (.t 98)) 93, g_ 100 (.bini .eql (.t 99) (i_ 1)) 93, Wp 101 93 100, mv 102 101, Wgf 103 1 9 102, Wgl 104 103 102, g_ 105 (.iaddr 89 3 (.t 104) (i_ 0)) 102, Wgf 106 2 105 102, Wgl 107 106 102, g_ 108 (.iaddr 93 3 (.t 107) (i_ 0)) 102, Wgf 109 1 108 102, Wgl 110 109 102, g_ 111 (.bins .eql (.t 110) (.c (.str [65]))) 102, Wp 112 102 111, mv 0 112]
def A_lexiconlaw23_known : ACode := (.seq (.ops [Wo 0 false]) (.seq (.ops A_lexiconlaw23_known_0) (.seq (.ops A_lexiconlaw23_known_1) (.seq (.seq (.ops A_lexiconlaw23_known_2) (.cond (.t 45) .bad .skip)) (.seq (.ops A_lexiconlaw23_known_3) (.seq (.seq (.ops A_lexiconlaw23_known_4) (.cond (.t 54) .bad .skip)) (.seq (.ops A_lexiconlaw23_known_5) (.seq (.seq (.ops A_lexiconlaw23_known_6) (.cond (.t 79) .bad .skip)) (.seq (.ops A_lexiconlaw23_known_7) (.seq (.ops A_lexiconlaw23_known_8) .ret))))))))))
def T_lexiconlaw23_known : FC := ⟨113, A_lexiconlaw23_known, [.tmp 0]⟩
abbrev F_q7 : Nat := 7
def A_q7_0 : LA := [Wn 4, Wm 5 0, Wm 6 0]
def A_q7_1 : LA := [mv 14 0, o_ 15 (.call 24 [(.t 14)]), o_ 16 (.not (.t 15))]
def A_q7_2 : LA := [mv 17 1, We 18 17, Wm 19 0]
def A_q7_3 : LA := [mv 21 19, Wa 22 25 1 17 19, Wl 23 22, mv 8 21, mv 9 23]
def A_q7_4 : LA := [mv 24 9, We 25 24, mv 26 0, Wb 27 .gtr 25 26]
def A_q7_5 : LA := [o_ 30 (.call 25 [(i_ 16)]), mv 29 30, Wx 31 0 29, Wx 32 1 29, mv 10 31, mv 11 32]
def A_q7_6 : LA := [mv 33 10, mv 34 9, We 35 34, o_ 36 (.conv .u64 (.t 35)), o_ 37 (.call 26 [(.t 33), (.t 36)])]
def A_q7_7 : LA := [mv 39 10, o_ 40 (.call 27 [(.t 39)]), mv 38 40, Wx 41 0 38, Wx 42 1 38, mv 12 41, mv 13 42]
def A_q7_8 : LA := [mv 43 7, mv 44 12, o_ 45 (.app 5 1 1 (.t 43) (.t 44)), mv 46 9, o_ 47 (.app 5 1 1 (.t 45) (.t 46)), mv 7 47]
def A_q7_9 : LA := [Wi 48 .add 19 1, mv 19 48]
def A_q7_10 : ACode := (.seq (.ops [Wb 20 .lss 19 18]) (.seq (.cond (.t 20) .skip (.exit 0)) (.seq (.block 1 (.seq (.ops A_q7_3) (.seq (.seq (.ops A_q7_4) (.cond (.t 27) .bad .skip)) (.seq (.ops A_q7_5) (.seq (.ops A_q7_6) (.seq (.ops A_q7_7) (.ops A_q7_8))))))) (.ops A_q7_9))))
def A_q7_11 : LA := [mv 49 7, mv 4 49, Wm 5 0, Wm 6 0]
def A_q7 : ACode := (.seq (.ops A_q7_0) (.seq (.seq (.ops A_q7_1) (.cond (.t 16) .bad .skip)) (.seq (.ops [Wn 7]) (.seq (.seq (.ops A_q7_2) (.block 0 (.loop A_q7_10))) (.seq (.ops A_q7_11) .ret)))))
def T_q7 : FC := ⟨50, A_q7, [.tmp 4, .tmp 5, .tmp 6]⟩
abbrev F_q15 : Nat := 15
def A_q15_0 : LA := [mv 3 0, o_ 4 (.call 24 [(.t 3)]), o_ 5 (.not (.t 4))]
def A_q15_1 : LA := [mv 6 0, o_ 7 (.build [.nils, .int .i64 (0), .int .i64 (0), .int .i64 (0), .int .i64 (0), .int .i64 (0), .int .i64 0] [(1, 1, (.t 6))]), o_ 8 (.box 130 7 (.t 7)), mv 2 8]
def A_q15 : ACode := (.seq (.ops [o_ 2 (.mov (.c (.nilp)))]) (.seq (.seq (.ops A_q15_0) (.cond (.t 5) .bad .skip)) (.seq (.ops A_q15_1) .ret)))
def T_q15 : FC := ⟨9, A_q15, [.tmp 2]⟩
abbrev F_q16 : Nat := 16
def A_q16_0 : LA := [mv 7 5, mv 8 1, We 9 8, Wb 10 .lss 7 9, mv 11 10, Wgm 12 0 11, g_ 13 (.call 56 [(.t 12)]) 11, g_ 14 (.not (.t 13)) 11, Wp 15 11 14, mv 16 15, Wgm 17 0 16, g_ 18 (.nilc (.t 17)) 16, Wgf 19 5 18 16, Wgl 20 19 16, g_ 21 (.bini .eql (.t 20) (i_ 0)) 16, Wp 22 16 21]
def A_q16_1 : LA := [mv 23 0, Wc 24 23, Wf 25 3 24, Wl 26 25, Wi 27 .gtr 26 0]
def A_q16_2 : LA := [mv 28 0, Wc 29 28, Wf 30 4 29, Wl 31 30, mv 32 0, Wc 33 32, Wf 34 0 33, Wf 35 0 34, Wl 36 35, We 37 36, Wb 38 .sub 31 37, mv 39 1, We 40 39, mv 41 5, Wb 42 .sub 40 41, o_ 43 (.mn (.t 38) (.t 42)), mv 6 43]
def A_q16_3 : LA := [mv 44 0, Wc 45 44, Wf 46 0 45, mv 47 1, mv 48 5, mv 49 5, mv 50 6, Wb 51 .add 49 50, o_ 52 (.slcl 5 1 (.t 47) (some (.t 48)) (some (.t 51)) none), o_ 53 (.call 57 [(.t 46), (.t 52)])]
def A_q16_4 : LA := [mv 54 0, mv 55 5, mv 56 6, Wb 57 .add 55 56, mv 58 0, Wc 59 58, Wf 60 2 59, Wl 61 60, mv 62 6, Wb 63 .add 61 62, mv 5 57, Wc 64 54, Wf 65 2 64, Ws 1 65 63]
def A_q16_5 : LA := [mv 66 0, Wc 67 66, Wf 68 0 67, mv 69 1, mv 70 5, Wa 71 5 1 69 70, Wl 72 71, o_ 73 (.bslice 5 1 1 [.int .u8 0] [(0, 1, (.t 72))]), o_ 74 (.call 57 [(.t 68), (.t 73)])]
def A_q16_6 : LA := [mv 75 5, Wi 76 .add 75 1, mv 5 76]
def A_q16_7 : LA := [mv 77 0, Wc 78 77, Wf 79 2 78, Wl 80 79, Wi 81 .add 80 1, Wc 82 77, Wf 83 2 82, Ws 1 83 81]
def A_q16_8 : LA := [mv 84 0, o_ 85 (.call 58 [(.t 84)])]
def A_q16_9 : ACode := (.seq (.seq (.ops A_q16_0) (.cond (.t 22) .skip (.exit 0))) (.block 1 (.seq (.seq (.ops A_q16_1) (.cond (.t 27) (.seq (.alts [28, 29, 30, 31, 32, 33, 34, 35, 36, 37, 38, 39, 40, 41, 42, 43, 6] [A_q16_2]) (.seq (.alts [44, 45, 46, 47, 48, 49, 50, 51, 52, 53] [A_q16_3]) (.seq (.alts [54, 55, 56, 57, 58, 59, 60, 61, 62, 63, 5, 64, 65] [A_q16_4]) (.exit 1)))) .skip)) (.seq (.alts [66, 67, 68, 69, 70, 71, 72, 73, 74] [A_q16_5]) (.seq (.ops A_q16_6) (.seq (.ops A_q16_7) (.ops A_q16_8)))))))
def A_q16_10 : LA := [mv 86 5, mv 4 86]
def A_q16 : ACode := (.seq (.ops [Wm 4 0]) (.seq (.ops [Wm 5 0]) (.seq (.block 0 (.loop A_q16_9)) (.seq (.ops A_q16_10) .ret))))
def T_q16 : FC := ⟨87, A_q16, [.tmp 4]⟩
abbrev F_q17 : Nat := 17
def A_q17_0 : LA := [mv 3 0, o_ 4 (.call 56 [(.t 3)]), mv 2 4]
def A_q17 : ACode := (.seq (.ops [Wo 2 false]) (.seq (.ops A_q17_0) .ret))
def T_q17 : FC := ⟨5, A_q17, [.tmp 2]⟩
abbrev F_q18 : Nat := 18
def A_q18_0 : LA := [o_ 2 (.box 65 1 (.c (.nilp))), o_ 3 (.box 67 2 (.c (.agg [.int .i64 (0), .str []])))]
def A_q18_1 : LA := [mv 5 0, We 6 5, Wi 7 .gtr 6 256]
def A_q18_2 : LA := [o_ 9 (.mkmap), o_ 10 (.mkmap), o_ 11 (.mkmap), o_ 12 (.mkmap), o_ 13 (.mkmap), o_ 14 (.build [.nilm, .nils, .nilm, .nilm, .nilm, .nilm] [(0, 1, (.t 9)), (2, 1, (.t 10)), (3, 1, (.t 11)), (4, 1, (.t 12)), (5, 1, (.t 13))]), o_ 15 (.box 144 6 (.t 14)), Ws 1 2 15]
def A_q18_3 : LA := [Wl 16 2, mv 17 0, o_ 18 (.call 61 [(.t 16), (.t 17)])]
def A_q18_4 : LA := [Wl 19 2, o_ 20 (.call 62 [(.t 19)])]
def A_q18_5 : LA := [Wl 21 2, o_ 22 (.call 63 [(.t 21)])]
def A_q18_6 : LA := [Wl 23 2, o_ 24 (.call 64 [(.t 23)])]
def A_q18_7 : LA := [Wl 25 2, o_ 26 (.call 65 [(.t 25)])]
def A_q18_8 : LA := [Wl 27 2, o_ 28 (.call 66 [(.t 27)])]
def A_q18_9 : LA := [Wl 29 2, o_ 30 (.build [.int .i64 (0), .str []] []), Ws 1 2 29, Ws 2 3 30]
def A_q18 : ACode := (.seq (.ops A_q18_0) (.seq (.seq (.ops [o_ 4 (.mkfn 59 [] [(.t 2), (.t 3)])]) (.dfr (.t 4) [])) (.seq (.seq (.ops A_q18_1) (.cond (.t 7) .bad .skip)) (.seq (.ops A_q18_2) (.seq (.ops A_q18_3) (.seq (.ops A_q18_4) (.seq (.ops A_q18_5) (.seq (.ops A_q18_6) (.seq (.ops A_q18_7) (.seq (.ops A_q18_8) (.seq (.ops A_q18_9) .ret)))))))))))
def T_q18 : FC := ⟨31, A_q18, [.cell1 2, .cella 3 2]⟩
abbrev F_q19 : Nat := 19
def A_q19_0 : LA := [o_ 4 (.bslice 9 1 1 [.str []] [(0, 1, (.c (.str [107, 105, 110, 100])))]), o_ 5 (.build [.str [], .int .i32 (0), .int .u8 (0), .int .u8 (0), .str [], .int .u8 (0), .int .i64 (0), .int .u8 (0), .str []] [(0, 1, (.c (.str [110, 117, 108, 108, 95, 118, 97, 108, 117, 101]))), (1, 1, (.c (.int .i32 1))), (2, 1, (.c (.int .u8 1))), (3, 1, (.c (.int .u8 14))), (4, 1, (.c (.str [78, 117, 108, 108, 86, 97, 108, 117, 101]))), (6, 1, (i_ 1))]), o_ 6 (.build [.str [], .int .i32 (0), .int .u8 (0), .int .u8 (0), .str [], .int .u8 (0), .int .i64 (0), .int .u8 (0), .str []] [(0, 1, (.c (.str [110, 117, 109, 98, 101, 114, 95, 118, 97, 108, 117, 101]))), (1, 1, (.c (.int .i32 2))), (2, 1, (.c (.int .u8 1))), (3, 1, (.c (.int .u8 1))), (6, 1, (i_ 1))]), o_ 7 (.build [.str [], .int .i32 (0), .int .u8 (0), .int .u8 (0), .str [], .int .u8 (0), .int .i64 (0), .int .u8 (0), .str []] [(0, 1, (.c (.str [115, 116, 114, 105, 110, 103, 95, 118, 97, 108, 117, 101]))), (1, 1, (.c (.int .i32 3))), (2, 1, (.c (.int .u8 1))), (3, 1, (.c (.int .u8 9))), (6, 1, (i_ 1))]), o_ 8 (.build [.str [], .int .i32 (0), .int .u8 (0), .int .u8 (0), .str [], .int .u8 (0), .int .i64 (0), .int .u8 (0), .str []] [(0, 1, (.c (.str [98, 111, 111, 108, 95, 118, 97, 108, 117, 101]))), (1, 1, (.c (.int .i32 4))), (2, 1, (.c (.int .u8 1))), (3, 1, (.c (.int .u8 8))), (6, 1, (i_ 1))]), o_ 9 (.build [.str [], .int .i32 (0), .int .u8 (0), .int .u8 (0), .str [], .int .u8 (0), .int .i64 (0), .int .u8 (0), .str []] [(0, 1, (.c (.str [115, 116, 114, 117, 99, 116, 95, 118, 97, 108, 117, 101]))), (1, 1, (.c (.int .i32 5))), (2, 1, (.c (.int .u8 1))), (3, 1, (.c (.int .u8 11))), (4, 1, (.c (.str [83, 116, 114, 117, 99, 116]))), (6, 1, (i_ 1))]), o_ 10 (.build [.str [], .int .i32 (0), .int .u8 (0), .int .u8 (0), .str [], .int .u8 (0), .int .i64 (0), .int .u8 (0), .str []] [(0, 1, (.c (.str [108, 105, 115, 116, 95, 118, 97, 108, 117, 101]))), (1, 1, (.c (.int .i32 6))), (2, 1, (.c (.int .u8 1))), (3, 1, (.c (.int .u8 11))), (4, 1, (.c (.str [76, 105, 115, 116, 86, 97, 108, 117, 101]))), (6, 1, (i_ 1))]), o_ 11 (.bslice 154 9 6 [.str [], .int .i32 (0), .int .u8 (0), .int .u8 (0), .str [], .int .u8 (0), .int .i64 (0), .int .u8 (0), .str []] [(0, 9, (.t 5)), (9, 9, (.t 6)), (18, 9, (.t 7)), (27, 9, (.t 8)), (36, 9, (.t 9)), (45, 9, (.t 10))]), o_ 12 (.build [.str [], .nils, .nils, .nils, .nils, .nils, .nils] [(0, 1, (.c (.str [86, 97, 108, 117, 101]))), (2, 1, (.t 4)), (1, 1, (.t 11))]), o_ 3 (.box 150 7 (.c (.agg [.str [], .nils, .nils, .nils, .nils, .nils, .nils]))), Ws 7 3 12]
def A_q19_1 : LA := [o_ 13 (.build [.str [], .int .i32 (0), .int .u8 (0), .int .u8 (0), .str [], .int .u8 (0), .int .i64 (0), .int .u8 (0), .str []] [(0, 1, (.c (.str [116, 121, 112, 101, 95, 117, 114, 108]))), (1, 1, (.c (.int .i32 1))), (2, 1, (.c (.int .u8 1))), (3, 1, (.c (.int .u8 9)))]), o_ 14 (.build [.str [], .int .i32 (0), .int .u8 (0), .int .u8 (0), .str [], .int .u8 (0), .int .i64 (0), .int .u8 (0), .str []] [(0, 1, (.c (.str [118, 97, 108, 117, 101]))), (1, 1, (.c (.int .i32 2))), (2, 1, (.c (.int .u8 1))), (3, 1, (.c (.int .u8 12)))]), o_ 15 (.fslice 154 9 2 [.str [], .int .i32 (0), .int .u8 (0), .int .u8 (0), .str [], .int .u8 (0), .int .i64 (0), .int .u8 (0), .str []] [(0, 9, (.t 13)), (9, 9, (.t 14))]), o_ 16 (.build [.str [], .nils, .nils, .nils, .nils, .nils, .nils] [(0, 1, (.c (.str [65, 110, 121]))), (1, 1, (.t 15))]), o_ 17 (.build [.str [], .nils, .nils, .nils, .nils, .nils, .nils] [(0, 1, (.c (.str [69, 109, 112, 116, 121])))]), mv 18 2, o_ 19 (.pcallv (.t 18) [(.c (.str [84, 105, 109, 101, 115, 116, 97, 109, 112]))]), mv 20 2, o_ 21 (.pcallv (.t 20) [(.c (.str [68, 117, 114, 97, 116, 105, 111, 110]))]), o_ 22 (.build [.str [], .int .i32 (0), .int .u8 (0), .int .u8 (0), .str [], .int .u8 (0), .int .i64 (0), .int .u8 (0), .str []] [(0, 1, (.c (.str [112, 97, 116, 104, 115]))), (1, 1, (.c (.int .i32 1))), (2, 1, (.c (.int .u8 3))), (3, 1, (.c (.int .u8 9)))]), o_ 23 (.fslice 154 9 1 [.str [], .int .i32 (0), .int .u8 (0), .int .u8 (0), .str [], .int .u8 (0), .int .i64 (0), .int .u8 (0), .str []] [(0, 9, (.t 22))]), o_ 24 (.build [.str [], .nils, .nils, .nils, .nils, .nils, .nils] [(0, 1, (.c (.str [70, 105, 101, 108, 100, 77, 97, 115, 107]))), (1, 1, (.t 23))]), o_ 25 (.build [.str [], .int .i32 (0), .int .u8 (0), .int .u8 (0), .str [], .int .u8 (0), .int .i64 (0), .int .u8 (0), .str []] [(0, 1, (.c (.str [102, 105, 101, 108, 100, 115]))), (1, 1, (.c (.int .i32 1))), (2, 1, (.c (.int .u8 4))), (5, 1, (.c (.int .u8 9))), (3, 1, (.c (.int .u8 11))), (4, 1, (.c (.str [86, 97, 108, 117, 101])))]), o_ 26 (.fslice 154 9 1 [.str [], .int .i32 (0), .int .u8 (0), .int .u8 (0), .str [], .int .u8 (0), .int .i64 (0), .int .u8 (0), .str []] [(0, 9, (.t 25))]), o_ 27 (.build [.str [], .nils, .nils, .nils, .nils, .nils, .nils] [(0, 1, (.c (.str [83, 116, 114, 117, 99, 116]))), (1, 1, (.t 26))]), Wd 28 7 3, o_ 29 (.build [.str [], .int .i32 (0), .int .u8 (0), .int .u8 (0), .str [], .int .u8 (0), .int .i64 (0), .int .u8 (0), .str []] [(0, 1, (.c (.str [118, 97, 108, 117, 101, 115]))), (1, 1, (.c (.int .i32 1))), (2, 1, (.c (.int .u8 3))), (3, 1, (.c (.int .u8 11))), (4, 1, (.c (.str [86, 97, 108, 117, 101])))]), o_ 30 (.fslice 154 9 1 [.str [], .int .i32 (0), .int .u8 (0), .int .u8 (0), .str [], .int .u8 (0), .int .i64 (0), .int .u8 (0), .str []] [(0, 9, (.t 29))]), o_ 31 (.build [.str [], .nils, .nils, .nils, .nils, .nils, .nils] [(0, 1, (.c (.str [76, 105, 115, 116, 86, 97, 108, 117, 101]))), (1, 1, (.t 30))]), mv 32 1, o_ 33 (.pcallv (.t 32) [(.c (.str [68, 111, 117, 98, 108, 101, 86, 97, 108, 117, 101])), (.c (.int .u8 1))]), mv 34 1, o_ 35 (.pcallv (.t 34) [(.c (.str [70, 108, 111, 97, 116, 86, 97, 108, 117, 101])), (.c (.int .u8 2))]), mv 36 1, o_ 37 (.pcallv (.t 36) [(.c (.str [73, 110, 116, 54, 52, 86, 97, 108, 117, 101])), (.c (.int .u8 3))]), mv 38 1, o_ 39 (.pcallv (.t 38) [(.c (.str [85, 73, 110, 116, 54, 52, 86, 97, 108, 117, 101])), (.c (.int .u8 4))]), mv 40 1, o_ 41 (.pcallv (.t 40) [(.c (.str [73, 110, 116, 51, 50, 86, 97, 108, 117, 101])), (.c (.int .u8 5))]), mv 42 1, o_ 43 (.pcallv (.t 42) [(.c (.str [85, 73, 110, 116, 51, 50, 86, 97, 108, 117, 101])), (.c (.int .u8 13))]), mv 44 1, o_ 45 (.pcallv (.t 44) [(.c (.str [66, 111, 111, 108, 86, 97, 108, 117, 101])), (.c (.int .u8 8))]), mv 46 1, o_ 47 (.pcallv (.t 46) [(.c (.str [83, 116, 114, 105, 110, 103, 86, 97, 108, 117, 101])), (.c (.int .u8 9))]), mv 48 1, o_ 49 (.pcallv (.t 48) [(.c (.str [66, 121, 116, 101, 115, 86, 97, 108, 117, 101])), (.c (.int .u8 12))]), o_ 50 (.fslice 150 7 17 [.str [], .nils, .nils, .nils, .nils, .nils, .nils] [(0, 7, (.t 16)), (7, 7, (.t 17)), (14, 7, (.t 19)), (21, 7, (.t 21)), (28, 7, (.t 24)), (35, 7, (.t 27)), (42, 7, (.t 28)), (49, 7, (.t 31)), (56, 7, (.t 33)), (63, 7, (.t 35)), (70, 7, (.t 37)), (77, 7, (.t 39)), (84, 7, (.t 41)), (91, 7, (.t 43)), (98, 7, (.t 45)), (105, 7, (.t 47)), (112, 7, (.t 49))]), o_ 51 (.build [.str [], .int .i32 0] [(0, 1, (.c (.str [78, 85, 76, 76, 95, 86, 65, 76, 85, 69])))]), o_ 52 (.fslice 158 2 1 [.str [], .int .i32 0] [(0, 2, (.t 51))]), o_ 53 (.build [.str [], .nils, .bool false, .nils, .nils] [(0, 1, (.c (.str [78, 117, 108, 108, 86, 97, 108, 117, 101]))), (1, 1, (.t 52))]), o_ 54 (.fslice 161 5 1 [.str [], .nils, .bool false, .nils, .nils] [(0, 5, (.t 53))]), o_ 55 (.build [.str [], .str [], .nils, .nils, .nils] [(0, 1, (.c (.str [119, 101, 108, 108, 47, 107, 110, 111, 119, 110]))), (1, 1, (.c (.str [119, 101, 108, 108]))), (3, 1, (.t 50)), (4, 1, (.t 54))]), Ws 5 0 55]
def A_q19 : ACode := (.seq (.ops [o_ 0 (.box 74 5 (.c (.agg [.str [], .str [], .nils, .nils, .nils])))]) (.seq (.ops [o_ 1 (.mov (.f 67))]) (.seq (.ops [o_ 2 (.mov (.f 68))]) (.seq (.ops A_q19_0) (.seq (.alts [13, 14, 15, 16, 17, 18, 19, 20, 21, 22, 23, 24, 25, 26, 27, 28, 29, 30, 31, 32, 33, 34, 35, 36, 37, 38, 39, 40, 41, 42, 43, 44, 45, 46, 47, 48, 49, 50, 51, 52, 53, 54, 55] [A_q19_1]) .ret)))))
def T_q19 : FC := ⟨56, A_q19, [.cella 0 5]⟩
abbrev F_q20 : Nat := 20
def A_q20_0 : LA := [o_ 4 (.mov (.c (.nilp))), Wm 5 0]
def A_q20_1 : LA := [mv 10 0, mv 11 1, o_ 12 (.call 69 [(.t 10), (.t 11), (.c (.nils))]), mv 9 12, Wx 13 0 9, Wx 14 1 9, Wx 15 2 9, o_ 6 (.box 84 3 (.c (.agg [.str [], .nils, .nils]))), Ws 3 6 13, mv 7 14, mv 8 15]
def A_q20_2 : LA := [mv 16 7, Wi 17 .neq 16 0]
def A_q20_3 : LA := [mv 19 0, Wd 20 3 6, o_ 21 (.build [.nils, .nili, .str [], .nils, .nils, .int .i64 0] [(1, 1, (.t 19)), (2, 3, (.t 20))]), o_ 22 (.box 167 6 (.t 21)), mv 4 22, Wm 5 0]
def A_q20 : ACode := (.seq (.ops A_q20_0) (.seq (.ops A_q20_1) (.seq (.seq (.ops A_q20_2) (.cond (.t 17) .bad .skip)) (.seq (.ops A_q20_3) .ret))))
def T_q20 : FC := ⟨23, A_q20, [.tmp 4, .tmp 5]⟩
abbrev F_q21 : Nat := 21
def A_q21_0 : LA := [mv 3 0, o_ 4 (.mkmap), o_ 5 (.build [.int .i32 (0), .int .u32 (0), .nilp, .nilm] [(2, 1, (.t 3)), (3, 1, (.t 4))]), o_ 6 (.box 177 4 (.t 5)), mv 2 6]
def A_q21 : ACode := (.seq (.ops [o_ 2 (.mov (.c (.nilp)))]) (.seq (.ops A_q21_0) .ret))
def T_q21 : FC := ⟨7, A_q21, [.tmp 2]⟩
abbrev F_q22 : Nat := 22
def A_q22_0 : LA := [mv 9 0, Wc 10 9, Wf 11 5 10, Wl 12 11, Wi 13 .neq 12 0]
def A_q22_1 : LA := [mv 18 0, Wc 19 18, Wf 20 0 19, mv 21 1, o_ 22 (.call 57 [(.t 20), (.t 21)])]
def A_q22_2 : LA := [mv 23 5, mv 24 0, Wc 25 24, Wf 26 0 25, Wf 27 0 26, Wl 28 27, We 29 28, Wb 30 .lss 23 29, mv 31 30, Wgm 32 0 31, g_ 33 (.nilc (.t 32)) 31, Wgf 34 5 33 31, Wgl 35 34 31, g_ 36 (.bini .eql (.t 35) (i_ 0)) 31, Wp 37 31 36]
def A_q22_3 : LA := [mv 39 0, Wc 40 39, Wf 41 0 40, Wf 42 0 41, Wl 43 42, mv 44 5, o_ 45 (.slcl 5 1 (.t 43) (some (.t 44)) none none), o_ 46 (.call 70 [(.t 45)]), mv 38 46, Wx 47 0 38, Wx 48 1 38, mv 6 47, mv 7 48]
def A_q22_4 : LA := [mv 49 7, Wi 50 .eql 49 10]
def A_q22_5 : LA := [mv 51 7, Wi 52 .eql 51 0]
def A_q22_6 : LA := [mv 54 0, Wc 55 54, Wf 56 1 55, Wl 57 56, mv 58 0, Wc 59 58, Wf 60 2 59, Wd 61 3 60, mv 62 0, Wc 63 62, Wf 64 0 63, Wf 65 0 64, Wl 66 65, mv 67 5, mv 68 5, mv 69 6, Wb 70 .add 68 69, o_ 71 (.slcl 5 1 (.t 66) (some (.t 67)) (some (.t 70)) none), o_ 72 (.call 71 [(.t 57), (.t 61), (.t 71)]), mv 53 72, Wx 73 0 53, Wx 74 1 53, Wx 75 2 53, Ws 3 8 73, mv 7 74]
def A_q22_7 : LA := [mv 76 7, Wi 77 .eql 76 0]
def A_q22_8 : LA := [mv 78 0, Wd 79 3 8, Wc 80 78, Wf 81 2 80, Ws 3 81 79]
def A_q22_9 : LA := [mv 82 0, mv 83 7, Wc 84 82, Wf 85 5 84, Ws 1 85 83]
def A_q22_10 : LA := [mv 86 5, mv 87 6, Wb 88 .add 86 87, mv 5 88]
def A_q22_11 : ACode := (.seq (.seq (.ops A_q22_2) (.cond (.t 37) .skip (.exit 0))) (.block 1 (.seq (.ops A_q22_3) (.seq (.seq (.ops A_q22_4) (.cond (.t 50) (.exit 0) .skip)) (.seq (.seq (.ops A_q22_5) (.cond (.t 52) (.seq (.ops [o_ 8 (.box 84 3 (.c (.agg [.str [], .nils, .nils])))]) (.seq (.alts [54, 55, 56, 57, 58, 59, 60, 61, 62, 63, 64, 65, 66, 67, 68, 69, 70, 71, 72, 53, 73, 74, 75, 7] [A_q22_6]) (.seq (.ops A_q22_7) (.cond (.t 77) (.ops A_q22_8) .bad)))) .bad)) (.seq (.ops A_q22_9) (.ops A_q22_10)))))))
def A_q22_12 : LA := [mv 89 0, Wc 90 89, Wf 91 0 90, mv 92 5, o_ 93 (.call 72 [(.t 91), (.t 92)])]
def A_q22_13 : LA := [mv 94 0, Wc 95 94, Wf 96 5 95, Wl 97 96, mv 4 97]
def A_q22 : ACode := (.seq (.ops [Wm 4 0]) (.seq (.seq (.ops A_q22_0) (.cond (.t 13) .bad .skip)) (.seq (.ops A_q22_1) (.seq (.ops [Wm 5 0]) (.seq (.block 0 (.loop A_q22_11)) (.seq (.ops A_q22_12) (.seq (.ops A_q22_13) .ret)))))))
def T_q22 : FC := ⟨98, A_q22, [.tmp 4]⟩
abbrev F_q23 : Nat := 23
def A_q23_0 : LA := [o_ 2 (.box 84 3 (.c (.agg [.str [], .nils, .nils]))), Wm 3 0]
def A_q23_1 : LA := [mv 4 0, Wc 5 4, Wf 6 5 5, Wl 7 6, Wi 8 .eql 7 0, mv 9 8, Wgm 10 0 9, g_ 11 (.nilc (.t 10)) 9, Wgf 12 0 11 9, g_ 13 (.call 73 [(.t 12)]) 9, Wp 14 9 13]
def A_q23_2 : LA := [mv 16 0, o_ 17 (.call 74 [(.t 16)]), Wx 18 0 17, Wx 19 1 17, Ws 3 2 18, mv 3 19]
def A_q23 : ACode := (.seq (.ops A_q23_0) (.seq (.seq (.ops A_q23_1) (.cond (.t 14) .bad .skip)) (.seq (.ops A_q23_2) .ret)))
def T_q23 : FC := ⟨20, A_q23, [.cella 2 3, .tmp 3]⟩
abbrev F_q24 : Nat := 24
def A_q24_0 : LA := [mv 3 0, Wi 4 .geq 3 0, mv 5 4, Wgm 6 0 5, g_ 7 (.bini .leq (.t 6) (i_ 16777216)) 5, Wp 8 5 7, mv 2 8]
def A_q24 : ACode := (.seq (.ops [Wo 2 false]) (.seq (.ops A_q24_0) .ret))
def T_q24 : FC := ⟨9, A_q24, [.tmp 2]⟩
abbrev F_q25 : Nat := 25
def A_q25_0 : LA := [o_ 2 (.mov (.c (.nilp))), Wm 3 0]
def A_q25_1 : LA := [mv 4 0, Wi 5 .lss 4 0, mv 6 5, Whm 7 0 6, Wh 8 (.bini .gtr (.t 7) (i_ 16777216)) 6, Wq 9 6 8]
def A_q25_2 : LA := [mv 10 0, o_ 11 (.build [.nils, .int .i64 (0), .nils, .int .i64 0] [(1, 1, (.t 10))]), o_ 12 (.box 184 4 (.t 11)), mv 2 12, Wm 3 0]
def A_q25 : ACode := (.seq (.ops A_q25_0) (.seq (.seq (.ops A_q25_1) (.cond (.t 9) .bad .skip)) (.seq (.ops A_q25_2) .ret)))
def T_q25 : FC := ⟨13, A_q25, [.tmp 2, .tmp 3]⟩
abbrev F_q26 : Nat := 26
def A_q26_0 : LA := [mv 4 0, mv 5 1, o_ 6 (.call 76 [(.t 5)]), o_ 7 (.call 75 [(.t 4), (.t 6)])]
def A_q26_1 : LA := [mv 8 0, mv 9 0, Wc 10 9, Wf 11 0 10, Wl 12 11, mv 13 1, o_ 14 (.call 77 [(.t 12), (.t 13)]), Wc 15 8, Wf 16 0 15, Ws 1 16 14]
def A_q26 : ACode := (.seq (.ops A_q26_0) (.cond (.t 7) (.ops A_q26_1) .bad))
def T_q26 : FC := ⟨17, A_q26, []⟩
abbrev F_q27 : Nat := 27
def A_q27_0 : LA := [Wn 2, Wm 3 0]
def A_q27_1 : LA := [mv 5 0, Wc 6 5, Wf 7 3 6, Wl 8 7, Wi 9 .neq 8 0, mv 4 9]
def A_q27_2 : LA := [mv 15 0, Wc 16 15, Wf 17 2 16, Wl 18 17, We 19 18, Wi 20 .gtr 19 0, mv 14 20]
def A_q27_3 : LA := [mv 21 0, Wc 22 21, Wf 23 0 22, Wl 24 23, o_ 25 (.call 30 [(.t 24)]), mv 2 25, Wm 3 0]
def A_q27 : ACode := (.seq (.ops A_q27_0) (.seq (.block 0 (.seq (.ops A_q27_1) (.cond (.t 4) .bad (.seq (.ops A_q27_2) (.cond (.t 14) .bad .skip))))) (.seq (.ops A_q27_3) .ret)))
def T_q27 : FC := ⟨26, A_q27, [.tmp 2, .tmp 3]⟩
abbrev F_q30 : Nat := 30
def A_q30_0 : LA := [mv 3 0, o_ 4 (.isnilu false (.t 3))]
def A_q30_1 : LA := [o_ 5 (.bslice0 5), mv 6 0, o_ 7 (.app 5 1 1 (.t 5) (.t 6)), mv 2 7]
def A_q30 : ACode := (.seq (.ops [Wn 2]) (.seq (.seq (.ops A_q30_0) (.cond (.t 4) (.seq (.ops [Wn 2]) .ret) .skip)) (.seq (.ops A_q30_1) .ret)))
def T_q30 : FC := ⟨8, A_q30, [.tmp 2]⟩
abbrev F_q34 : Nat := 34
def A_q34_0 : LA := [mv 13 3, mv 14 0, We 15 14, Wb 16 .lss 13 15]
def A_q34_1 : ACode := (.seq (.seq (.ops A_q34_0) (.cond (.t 16) .bad (.exit 0))) .bad)
def A_q34_2 : LA := [mv 37 6, mv 38 0, We 39 38, Wb 40 .lss 37 39]
def A_q34_3 : ACode := (.seq (.seq (.ops A_q34_2) (.cond (.t 40) .bad (.exit 4))) .bad)
def A_q34_4 : LA := [mv 62 9, mv 63 0, We 64 63, Wb 65 .lss 62 64]
def A_q34_5 : ACode := (.seq (.seq (.ops A_q34_4) (.cond (.t 65) .bad (.exit 8))) .bad)
def A_q34 : ACode := (.seq (.ops [Wo 2 false]) (.seq (.seq (.ops [Wm 3 0]) (.block 0 (.loop A_q34_1))) (.seq (.ops [Wn 5]) (.seq (.seq (.ops [Wm 6 0]) (.block 4 (.loop A_q34_3))) (.seq (.seq (.ops [Wm 9 0]) (.block 8 (.loop A_q34_5))) (.seq (.ops [Wo 2 true]) .ret))))))
def T_q34 : FC := ⟨120, A_q34, [.tmp 2]⟩
abbrev F_q35 : Nat := 35
def A_q35_0 : LA := [mv 13 3, mv 14 0, We 15 14, Wb 16 .lss 13 15]
def A_q35_1 : ACode := (.seq (.seq (.ops A_q35_0) (.cond (.t 16) .bad (.exit 0))) .bad)
def A_q35_2 : LA := [mv 38 6, mv 39 0, We 40 39, Wb 41 .lss 38 40]
def A_q35_3 : ACode := (.seq (.seq (.ops A_q35_2) (.cond (.t 41) .bad (.exit 4))) .bad)
def A_q35_4 : LA := [mv 64 9, mv 65 0, We 66 65, Wb 67 .lss 64 66]
def A_q35_5 : ACode := (.seq (.seq (.ops A_q35_4) (.cond (.t 67) .bad (.exit 8))) .bad)
def A_q35 : ACode := (.seq (.ops [Wo 2 false]) (.seq (.seq (.ops [Wm 3 0]) (.block 0 (.loop A_q35_1))) (.seq (.ops [Wn 5]) (.seq (.seq (.ops [Wm 6 0]) (.block 4 (.loop A_q35_3))) (.seq (.seq (.ops [Wm 9 0]) (.block 8 (.loop A_q35_5))) (.seq (.ops [Wo 2 true]) .ret))))))
def T_q35 : FC := ⟨125, A_q35, [.tmp 2]⟩
abbrev F_q36 : Nat := 36
def A_q36_0 : LA := [mv 13 3, mv 14 0, We 15 14, Wb 16 .lss 13 15]
def A_q36_1 : ACode := (.seq (.seq (.ops A_q36_0) (.cond (.t 16) .bad (.exit 0))) .bad)
def A_q36_2 : LA := [mv 39 6, mv 40 0, We 41 40, Wb 42 .lss 39 41]
def A_q36_3 : ACode := (.seq (.seq (.ops A_q36_2) (.cond (.t 42) .bad (.exit 4))) .bad)
def A_q36_4 : LA := [mv 66 9, mv 67 0, We 68 67, Wb 69 .lss 66 68]
def A_q36_5 : ACode := (.seq (.seq (.ops A_q36_4) (.cond (.t 69) .bad (.exit 8))) .bad)
def A_q36 : ACode := (.seq (.ops [Wo 2 false]) (.seq (.seq (.ops [Wm 3 0]) (.block 0 (.loop A_q36_1))) (.seq (.ops [Wn 5]) (.seq (.seq (.ops [Wm 6 0]) (.block 4 (.loop A_q36_3))) (.seq (.seq (.ops [Wm 9 0]) (.block 8 (.loop A_q36_5))) (.seq (.ops [Wo 2 true]) .ret))))))
def T_q36 : FC := ⟨130, A_q36, [.tmp 2]⟩
abbrev F_q37 : Nat := 37
def A_q37_0 : LA := [mv 13 3, mv 14 0, We 15 14, Wb 16 .lss 13 15]
def A_q37_1 : ACode := (.seq (.seq (.ops A_q37_0) (.cond (.t 16) .bad (.exit 0))) .bad)
def A_q37_2 : LA := [mv 38 6, mv 39 0, We 40 39, Wb 41 .lss 38 40]
def A_q37_3 : ACode := (.seq (.seq (.ops A_q37_2) (.cond (.t 41) .bad (.exit 4))) .bad)
def A_q37_4 : LA := [mv 64 9, mv 65 0, We 66 65, Wb 67 .lss 64 66]
def A_q37_5 : ACode := (.seq (.seq (.ops A_q37_4) (.cond (.t 67) .bad (.exit 8))) .bad)
def A_q37 : ACode := (.seq (.ops [Wo 2 false]) (.seq (.seq (.ops [Wm 3 0]) (.block 0 (.loop A_q37_1))) (.seq (.ops [Wn 5]) (.seq (.seq (.ops [Wm 6 0]) (.block 4 (.loop A_q37_3))) (.seq (.seq (.ops [Wm 9 0]) (.block 8 (.loop A_q37_5))) (.seq (.ops [Wo 2 true]) .ret))))))
def T_q37 : FC := ⟨125, A_q37, [.tmp 2]⟩
abbrev F_q38 : Nat := 38
def A_q38_0 : LA := [mv 13 3, mv 14 0, We 15 14, Wb 16 .lss 13 15]
def A_q38_1 : ACode := (.seq (.seq (.ops A_q38_0) (.cond (.t 16) .bad (.exit 0))) .bad)
def A_q38_2 : LA := [mv 38 6, mv 39 0, We 40 39, Wb 41 .lss 38 40]
def A_q38_3 : ACode := (.seq (.seq (.ops A_q38_2) (.cond (.t 41) .bad (.exit 4))) .bad)
def A_q38_4 : LA := [mv 64 9, mv 65 0, We 66 65, Wb 67 .lss 64 66]
def A_q38_5 : ACode := (.seq (.seq (.ops A_q38_4) (.cond (.t 67) .bad (.exit 8))) .bad)
def A_q38 : ACode := (.seq (.ops [Wo 2 false]) (.seq (.seq (.ops [Wm 3 0]) (.block 0 (.loop A_q38_1))) (.seq (.ops [Wn 5]) (.seq (.seq (.ops [Wm 6 0]) (.block 4 (.loop A_q38_3))) (.seq (.seq (.ops [Wm 9 0]) (.block 8 (.loop A_q38_5))) (.seq (.ops [Wo 2 true]) .ret))))))
def T_q38 : FC := ⟨125, A_q38, [.tmp 2]⟩
abbrev F_q39 : Nat := 39
def A_q39_0 : LA := [mv 13 3, mv 14 0, We 15 14, Wb 16 .lss 13 15]
def A_q39_1 : ACode := (.seq (.seq (.ops A_q39_0) (.cond (.t 16) .bad (.exit 0))) .bad)
def A_q39_2 : LA := [mv 38 6, mv 39 0, We 40 39, Wb 41 .lss 38 40]
def A_q39_3 : ACode := (.seq (.seq (.ops A_q39_2) (.cond (.t 41) .bad (.exit 4))) .bad)
def A_q39_4 : LA := [mv 64 9, mv 65 0, We 66 65, Wb 67 .lss 64 66]
def A_q39_5 : ACode := (.seq (.seq (.ops A_q39_4) (.cond (.t 67) .bad (.exit 8))) .bad)
def A_q39 : ACode := (.seq (.ops [Wo 2 false]) (.seq (.seq (.ops [Wm 3 0]) (.block 0 (.loop A_q39_1))) (.seq (.ops [Wn 5]) (.seq (.seq (.ops [Wm 6 0]) (.block 4 (.loop A_q39_3))) (.seq (.seq (.ops [Wm 9 0]) (.block 8 (.loop A_q39_5))) (.seq (.ops [Wo 2 true]) .ret))))))
def T_q39 : FC := ⟨125, A_q39, [.tmp 2]⟩
abbrev F_q40 : Nat := 40
def A_q40_0 : LA := [mv 13 3, mv 14 0, We 15 14, Wb 16 .lss 13 15]
def A_q40_1 : ACode := (.seq (.seq (.ops A_q40_0) (.cond (.t 16) .bad (.exit 0))) .bad)
def A_q40_2 : LA := [mv 38 6, mv 39 0, We 40 39, Wb 41 .lss 38 40]
def A_q40_3 : ACode := (.seq (.seq (.ops A_q40_2) (.cond (.t 41) .bad (.exit 4))) .bad)
def A_q40_4 : LA := [mv 64 9, mv 65 0, We 66 65, Wb 67 .lss 64 66]
def A_q40_5 : ACode := (.seq (.seq (.ops A_q40_4) (.cond (.t 67) .bad (.exit 8))) .bad)
def A_q40 : ACode := (.seq (.ops [Wo 2 false]) (.seq (.seq (.ops [Wm 3 0]) (.block 0 (.loop A_q40_1))) (.seq (.ops [Wn 5]) (.seq (.seq (.ops [Wm 6 0]) (.block 4 (.loop A_q40_3))) (.seq (.seq (.ops [Wm 9 0]) (.block 8 (.loop A_q40_5))) (.seq (.ops [Wo 2 true]) .ret))))))
def T_q40 : FC := ⟨125, A_q40, [.tmp 2]⟩
abbrev F_q41 : Nat := 41
def A_q41_0 : LA := [mv 13 3, mv 14 0, We 15 14, Wb 16 .lss 13 15]
def A_q41_1 : ACode := (.seq (.seq (.ops A_q41_0) (.cond (.t 16) .bad (.exit 0))) .bad)
def A_q41_2 : LA := [mv 38 6, mv 39 0, We 40 39, Wb 41 .lss 38 40]
def A_q41_3 : ACode := (.seq (.seq (.ops A_q41_2) (.cond (.t 41) .bad (.exit 4))) .bad)
def A_q41_4 : LA := [mv 64 9, mv 65 0, We 66 65, Wb 67 .lss 64 66]
def A_q41_5 : ACode := (.seq (.seq (.ops A_q41_4) (.cond (.t 67) .bad (.exit 8))) .bad)
def A_q41 : ACode := (.seq (.ops [Wo 2 false]) (.seq (.seq (.ops [Wm 3 0]) (.block 0 (.loop A_q41_1))) (.seq (.ops [Wn 5]) (.seq (.seq (.ops [Wm 6 0]) (.block 4 (.loop A_q41_3))) (.seq (.seq (.ops [Wm 9 0]) (.block 8 (.loop A_q41_5))) (.seq (.ops [Wo 2 true]) .ret))))))
def T_q41 : FC := ⟨125, A_q41, [.tmp 2]⟩
abbrev F_q42 : Nat := 42
def A_q42_0 : LA := [mv 13 3, mv 14 0, We 15 14, Wb 16 .lss 13 15]
def A_q42_1 : ACode := (.seq (.seq (.ops A_q42_0) (.cond (.t 16) .bad (.exit 0))) .bad)
def A_q42_2 : LA := [mv 38 6, mv 39 0, We 40 39, Wb 41 .lss 38 40]
def A_q42_3 : ACode := (.seq (.seq (.ops A_q42_2) (.cond (.t 41) .bad (.exit 4))) .bad)
def A_q42_4 : LA := [mv 64 9, mv 65 0, We 66 65, Wb 67 .lss 64 66]
def A_q42_5 : ACode := (.seq (.seq (.ops A_q42_4) (.cond (.t 67) .bad (.exit 8))) .bad)
def A_q42 : ACode := (.seq (.ops [Wo 2 false]) (.seq (.seq (.ops [Wm 3 0]) (.block 0 (.loop A_q42_1))) (.seq (.ops [Wn 5]) (.seq (.seq (.ops [Wm 6 0]) (.block 4 (.loop A_q42_3))) (.seq (.seq (.ops [Wm 9 0]) (.block 8 (.loop A_q42_5))) (.seq (.ops [Wo 2 true]) .ret))))))
def T_q42 : FC := ⟨125, A_q42, [.tmp 2]⟩
abbrev F_q43 : Nat := 43
def A_q43_0 : LA := [mv 13 3, mv 14 0, We 15 14, Wb 16 .lss 13 15]
def A_q43_1 : ACode := (.seq (.seq (.ops A_q43_0) (.cond (.t 16) .bad (.exit 0))) .bad)
def A_q43_2 : LA := [mv 38 6, mv 39 0, We 40 39, Wb 41 .lss 38 40]
def A_q43_3 : ACode := (.seq (.seq (.ops A_q43_2) (.cond (.t 41) .bad (.exit 4))) .bad)
def A_q43_4 : LA := [mv 64 9, mv 65 0, We 66 65, Wb 67 .lss 64 66]
def A_q43_5 : ACode := (.seq (.seq (.ops A_q43_4) (.cond (.t 67) .bad (.exit 8))) .bad)
def A_q43 : ACode := (.seq (.ops [Wo 2 false]) (.seq (.seq (.ops [Wm 3 0]) (.block 0 (.loop A_q43_1))) (.seq (.ops [Wn 5]) (.seq (.seq (.ops [Wm 6 0]) (.block 4 (.loop A_q43_3))) (.seq (.seq (.ops [Wm 9 0]) (.block 8 (.loop A_q43_5))) (.seq (.ops [Wo 2 true]) .ret))))))
def T_q43 : FC := ⟨125, A_q43, [.tmp 2]⟩
abbrev F_q44 : Nat := 44
def A_q44_0 : LA := [mv 13 3, mv 14 0, We 15 14, Wb 16 .lss 13 15]
def A_q44_1 : ACode := (.seq (.seq (.ops A_q44_0) (.cond (.t 16) .bad (.exit 0))) .bad)
def A_q44_2 : LA := [mv 38 6, mv 39 0, We 40 39, Wb 41 .lss 38 40]
def A_q44_3 : ACode := (.seq (.seq (.ops A_q44_2) (.cond (.t 41) .bad (.exit 4))) .bad)
def A_q44_4 : LA := [mv 64 9, mv 65 0, We 66 65, Wb 67 .lss 64 66]
def A_q44_5 : ACode := (.seq (.seq (.ops A_q44_4) (.cond (.t 67) .bad (.exit 8))) .bad)
def A_q44 : ACode := (.seq (.ops [Wo 2 false]) (.seq (.seq (.ops [Wm 3 0]) (.block 0 (.loop A_q44_1))) (.seq (.ops [Wn 5]) (.seq (.seq (.ops [Wm 6 0]) (.block 4 (.loop A_q44_3))) (.seq (.seq (.ops [Wm 9 0]) (.block 8 (.loop A_q44_5))) (.seq (.ops [Wo 2 true]) .ret))))))
def T_q44 : FC := ⟨125, A_q44, [.tmp 2]⟩
abbrev F_q45 : Nat := 45
def A_q45_0 : LA := [mv 13 3, mv 14 0, We 15 14, Wb 16 .lss 13 15]
def A_q45_1 : ACode := (.seq (.seq (.ops A_q45_0) (.cond (.t 16) .bad (.exit 0))) .bad)
def A_q45_2 : LA := [mv 38 6, mv 39 0, We 40 39, Wb 41 .lss 38 40]
def A_q45_3 : ACode := (.seq (.seq (.ops A_q45_2) (.cond (.t 41) .bad (.exit 4))) .bad)
def A_q45_4 : LA := [mv 64 9, mv 65 0, We 66 65, Wb 67 .lss 64 66]
def A_q45_5 : ACode := (.seq (.seq (.ops A_q45_4) (.cond (.t 67) .bad (.exit 8))) .bad)
def A_q45 : ACode := (.seq (.ops [Wo 2 false]) (.seq (.seq (.ops [Wm 3 0]) (.block 0 (.loop A_q45_1))) (.seq (.ops [Wn 5]) (.seq (.seq (.ops [Wm 6 0]) (.block 4 (.loop A_q45_3))) (.seq (.seq (.ops [Wm 9 0]) (.block 8 (.loop A_q45_5))) (.seq (.ops [Wo 2 true]) .ret))))))
def T_q45 : FC := ⟨125, A_q45, [.tmp 2]⟩
abbrev F_q46 : Nat := 46
def A_q46_0 : LA := [mv 13 3, mv 14 0, We 15 14, Wb 16 .lss 13 15]
def A_q46_1 : ACode := (.seq (.seq (.ops A_q46_0) (.cond (.t 16) .bad (.exit 0))) .bad)
def A_q46_2 : LA := [mv 38 6, mv 39 0, We 40 39, Wb 41 .lss 38 40]
def A_q46_3 : ACode := (.seq (.seq (.ops A_q46_2) (.cond (.t 41) .bad (.exit 4))) .bad)
def A_q46_4 : LA := [mv 64 9, mv 65 0, We 66 65, Wb 67 .lss 64 66]
def A_q46_5 : ACode := (.seq (.seq (.ops A_q46_4) (.cond (.t 67) .bad (.exit 8))) .bad)
def A_q46 : ACode := (.seq (.ops [Wo 2 false]) (.seq (.seq (.ops [Wm 3 0]) (.block 0 (.loop A_q46_1))) (.seq (.ops [Wn 5]) (.seq (.seq (.ops [Wm 6 0]) (.block 4 (.loop A_q46_3))) (.seq (.seq (.ops [Wm 9 0]) (.block 8 (.loop A_q46_5))) (.seq (.ops [Wo 2 true]) .ret))))))
def T_q46 : FC := ⟨182, A_q46, [.tmp 2]⟩
abbrev F_q47 : Nat := 47
def A_q47_0 : LA := [mv 13 3, mv 14 0, We 15 14, Wb 16 .lss 13 15]
def A_q47_1 : ACode := (.seq (.seq (.ops A_q47_0) (.cond (.t 16) .bad (.exit 0))) .bad)
def A_q47_2 : LA := [mv 38 6, mv 39 0, We 40 39, Wb 41 .lss 38 40]
def A_q47_3 : ACode := (.seq (.seq (.ops A_q47_2) (.cond (.t 41) .bad (.exit 4))) .bad)
def A_q47_4 : LA := [mv 64 9, mv 65 0, We 66 65, Wb 67 .lss 64 66]
def A_q47_5 : ACode := (.seq (.seq (.ops A_q47_4) (.cond (.t 67) .bad (.exit 8))) .bad)
def A_q47 : ACode := (.seq (.ops [Wo 2 false]) (.seq (.seq (.ops [Wm 3 0]) (.block 0 (.loop A_q47_1))) (.seq (.ops [Wn 5]) (.seq (.seq (.ops [Wm 6 0]) (.block 4 (.loop A_q47_3))) (.seq (.seq (.ops [Wm 9 0]) (.block 8 (.loop A_q47_5))) (.seq (.ops [Wo 2 true]) .ret))))))
def T_q47 : FC := ⟨131, A_q47, [.tmp 2]⟩
abbrev F_q48 : Nat := 48
def A_q48_0 : LA := [mv 13 3, mv 14 0, We 15 14, Wb 16 .lss 13 15]
def A_q48_1 : ACode := (.seq (.seq (.ops A_q48_0) (.cond (.t 16) .bad (.exit 0))) .bad)
def A_q48_2 : LA := [mv 38 6, mv 39 0, We 40 39, Wb 41 .lss 38 40]
def A_q48_3 : ACode := (.seq (.seq (.ops A_q48_2) (.cond (.t 41) .bad (.exit 4))) .bad)
def A_q48_4 : LA := [mv 64 9, mv 65 0, We 66 65, Wb 67 .lss 64 66]
def A_q48_5 : ACode := (.seq (.seq (.ops A_q48_4) (.cond (.t 67) .bad (.exit 8))) .bad)
def A_q48 : ACode := (.seq (.ops [Wo 2 false]) (.seq (.seq (.ops [Wm 3 0]) (.block 0 (.loop A_q48_1))) (.seq (.ops [Wn 5]) (.seq (.seq (.ops [Wm 6 0]) (.block 4 (.loop A_q48_3))) (.seq (.seq (.ops [Wm 9 0]) (.block 8 (.loop A_q48_5))) (.seq (.ops [Wo 2 true]) .ret))))))
def T_q48 : FC := ⟨131, A_q48, [.tmp 2]⟩
abbrev F_q49 : Nat := 49
def A_q49_0 : LA := [mv 13 3, mv 14 0, We 15 14, Wb 16 .lss 13 15]
def A_q49_1 : ACode := (.seq (.seq (.ops A_q49_0) (.cond (.t 16) .bad (.exit 0))) .bad)
def A_q49_2 : LA := [mv 38 6, mv 39 0, We 40 39, Wb 41 .lss 38 40]
def A_q49_3 : ACode := (.seq (.seq (.ops A_q49_2) (.cond (.t 41) .bad (.exit 4))) .bad)
def A_q49_4 : LA := [mv 64 9, mv 65 0, We 66 65, Wb 67 .lss 64 66]
def A_q49_5 : ACode := (.seq (.seq (.ops A_q49_4) (.cond (.t 67) .bad (.exit 8))) .bad)
def A_q49 : ACode := (.seq (.ops [Wo 2 false]) (.seq (.seq (.ops [Wm 3 0]) (.block 0 (.loop A_q49_1))) (.seq (.ops [Wn 5]) (.seq (.seq (.ops [Wm 6 0]) (.block 4 (.loop A_q49_3))) (.seq (.seq (.ops [Wm 9 0]) (.block 8 (.loop A_q49_5))) (.seq (.ops [Wo 2 true]) .ret))))))
def T_q49 : FC := ⟨131, A_q49, [.tmp 2]⟩
abbrev F_q50 : Nat := 50
def A_q50_0 : LA := [mv 13 3, mv 14 0, We 15 14, Wb 16 .lss 13 15]
def A_q50_1 : ACode := (.seq (.seq (.ops A_q50_0) (.cond (.t 16) .bad (.exit 0))) .bad)
def A_q50_2 : LA := [mv 40 6, mv 41 0, We 42 41, Wb 43 .lss 40 42]
def A_q50_3 : ACode := (.seq (.seq (.ops A_q50_2) (.cond (.t 43) .bad (.exit 4))) .bad)
def A_q50_4 : LA := [mv 69 9, mv 70 0, We 71 70, Wb 72 .lss 69 71]
def A_q50_5 : ACode := (.seq (.seq (.ops A_q50_4) (.cond (.t 72) .bad (.exit 8))) .bad)
def A_q50 : ACode := (.seq (.ops [Wo 2 false]) (.seq (.seq (.ops [Wm 3 0]) (.block 0 (.loop A_q50_1))) (.seq (.ops [Wn 5]) (.seq (.seq (.ops [Wm 6 0]) (.block 4 (.loop A_q50_3))) (.seq (.seq (.ops [Wm 9 0]) (.block 8 (.loop A_q50_5))) (.seq (.ops [Wo 2 true]) .ret))))))
def T_q50 : FC := ⟨143, A_q50, [.tmp 2]⟩
abbrev F_q51 : Nat := 51
def A_q51_0 : LA := [mv 13 3, mv 14 0, We 15 14, Wb 16 .lss 13 15]
def A_q51_1 : ACode := (.seq (.seq (.ops A_q51_0) (.cond (.t 16) .bad (.exit 0))) .bad)
def A_q51_2 : LA := [mv 40 6, mv 41 0, We 42 41, Wb 43 .lss 40 42]
def A_q51_3 : ACode := (.seq (.seq (.ops A_q51_2) (.cond (.t 43) .bad (.exit 4))) .bad)
def A_q51_4 : LA := [mv 68 9, mv 69 0, We 70 69, Wb 71 .lss 68 70]
def A_q51_5 : ACode := (.seq (.seq (.ops A_q51_4) (.cond (.t 71) .bad (.exit 8))) .bad)
def A_q51 : ACode := (.seq (.ops [Wo 2 false]) (.seq (.seq (.ops [Wm 3 0]) (.block 0 (.loop A_q51_1))) (.seq (.ops [Wn 5]) (.seq (.seq (.ops [Wm 6 0]) (.block 4 (.loop A_q51_3))) (.seq (.seq (.ops [Wm 9 0]) (.block 8 (.loop A_q51_5))) (.seq (.ops [Wo 2 true]) .ret))))))
def T_q51 : FC := ⟨141, A_q51, [.tmp 2]⟩
abbrev F_q52 : Nat := 52
def A_q52_0 : LA := [mv 13 3, mv 14 0, We 15 14, Wb 16 .lss 13 15]
def A_q52_1 : ACode := (.seq (.seq (.ops A_q52_0) (.cond (.t 16) .bad (.exit 0))) .bad)
def A_q52_2 : LA := [mv 38 6, mv 39 0, We 40 39, Wb 41 .lss 38 40]
def A_q52_3 : ACode := (.seq (.seq (.ops A_q52_2) (.cond (.t 41) .bad (.exit 4))) .bad)
def A_q52_4 : LA := [mv 64 9, mv 65 0, We 66 65, Wb 67 .lss 64 66]
def A_q52_5 : ACode := (.seq (.seq (.ops A_q52_4) (.cond (.t 67) .bad (.exit 8))) .bad)
def A_q52 : ACode := (.seq (.ops [Wo 2 false]) (.seq (.seq (.ops [Wm 3 0]) (.block 0 (.loop A_q52_1))) (.seq (.ops [Wn 5]) (.seq (.seq (.ops [Wm 6 0]) (.block 4 (.loop A_q52_3))) (.seq (.seq (.ops [Wm 9 0]) (.block 8 (.loop A_q52_5))) (.seq (.ops [Wo 2 true]) .ret))))))
def T_q52 : FC := ⟨131, A_q52, [.tmp 2]⟩
abbrev F_q53 : Nat := 53
def A_q53_0 : LA := [mv 13 3, mv 14 0, We 15 14, Wb 16 .lss 13 15]
def A_q53_1 : ACode := (.seq (.seq (.ops A_q53_0) (.cond (.t 16) .bad (.exit 0))) .bad)
def A_q53_2 : LA := [mv 38 6, mv 39 0, We 40 39, Wb 41 .lss 38 40]
def A_q53_3 : ACode := (.seq (.seq (.ops A_q53_2) (.cond (.t 41) .bad (.exit 4))) .bad)
def A_q53_4 : LA := [mv 64 9, mv 65 0, We 66 65, Wb 67 .lss 64 66]
def A_q53_5 : ACode := (.seq (.seq (.ops A_q53_4) (.cond (.t 67) .bad (.exit 8))) .bad)
def A_q53 : ACode := (.seq (.ops [Wo 2 false]) (.seq (.seq (.ops [Wm 3 0]) (.block 0 (.loop A_q53_1))) (.seq (.ops [Wn 5]) (.seq (.seq (.ops [Wm 6 0]) (.block 4 (.loop A_q53_3))) (.seq (.seq (.ops [Wm 9 0]) (.block 8 (.loop A_q53_5))) (.seq (.ops [Wo 2 true]) .ret))))))
def T_q53 : FC := ⟨131, A_q53, [.tmp 2]⟩
abbrev F_q54 : Nat := 54
def A_q54_0 : LA := [mv 13 3, mv 14 0, We 15 14, Wb 16 .lss 13 15]
def A_q54_1 : ACode := (.seq (.seq (.ops A_q54_0) (.cond (.t 16) .bad (.exit 0))) .bad)
def A_q54_2 : LA := [mv 38 6, mv 39 0, We 40 39, Wb 41 .lss 38 40]
def A_q54_3 : ACode := (.seq (.seq (.ops A_q54_2) (.cond (.t 41) .bad (.exit 4))) .bad)
def A_q54_4 : LA := [mv 64 9, mv 65 0, We 66 65, Wb 67 .lss 64 66]
def A_q54_5 : ACode := (.seq (.seq (.ops A_q54_4) (.cond (.t 67) .bad (.exit 8))) .bad)
def A_q54 : ACode := (.seq (.ops [Wo 2 false]) (.seq (.seq (.ops [Wm 3 0]) (.block 0 (.loop A_q54_1))) (.seq (.ops [Wn 5]) (.seq (.seq (.ops [Wm 6 0]) (.block 4 (.loop A_q54_3))) (.seq (.seq (.ops [Wm 9 0]) (.block 8 (.loop A_q54_5))) (.seq (.ops [Wo 2 true]) .ret))))))
def T_q54 : FC := ⟨131, A_q54, [.tmp 2]⟩
abbrev F_q55 : Nat := 55
def A_q55_0 : LA := [mv 13 3, mv 14 0, We 15 14, Wb 16 .lss 13 15]
def A_q55_1 : ACode := (.seq (.seq (.ops A_q55_0) (.cond (.t 16) .bad (.exit 0))) .bad)
def A_q55_2 : LA := [mv 37 6, mv 38 0, We 39 38, Wb 40 .lss 37 39]
def A_q55_3 : ACode := (.seq (.seq (.ops A_q55_2) (.cond (.t 40) .bad (.exit 4))) .bad)
def A_q55_4 : LA := [mv 62 9, mv 63 0, We 64 63, Wb 65 .lss 62 64]
def A_q55_5 : ACode := (.seq (.seq (.ops A_q55_4) (.cond (.t 65) .bad (.exit 8))) .bad)
def A_q55 : ACode := (.seq (.ops [Wo 2 false]) (.seq (.seq (.ops [Wm 3 0]) (.block 0 (.loop A_q55_1))) (.seq (.ops [Wn 5]) (.seq (.seq (.ops [Wm 6 0]) (.block 4 (.loop A_q55_3))) (.seq (.seq (.ops [Wm 9 0]) (.block 8 (.loop A_q55_5))) (.seq (.ops [Wo 2 true]) .ret))))))
def T_q55 : FC := ⟨174, A_q55, [.tmp 2]⟩
abbrev F_q56 : Nat := 56
def A_q56_0 : LA := [mv 3 0, Wc 4 3, Wf 5 5 4, Wl 6 5, Wi 7 .eql 6 0, mv 8 7, Wgm 9 0 8, g_ 10 (.nilc (.t 9)) 8, Wgf 11 3 10 8, Wgl 12 11 8, g_ 13 (.bini .gtr (.t 12) (i_ 0)) 8, Wp 14 8 13, mv 15 14, Wgm 16 0 15, g_ 17 (.nilc (.t 16)) 15, Wgf 18 0 17 15, Wgf 19 0 18 15, Wgl 20 19 15, g_ 21 (.lenl (.t 20)) 15, Wgm 22 0 15, g_ 23 (.nilc (.t 22)) 15, Wgf 24 4 23 15, Wgl 25 24 15, g_ 26 (.bini .eql (.t 21) (.t 25)) 15, Wp 27 15 26, mv 2 27]
def A_q56 : ACode := (.seq (.ops [Wo 2 false]) (.seq (.alts [3, 4, 5, 6, 7, 8, 9, 10, 11, 12, 13, 14, 15, 16, 17, 18, 19, 20, 21, 22, 23, 24, 25, 26, 27, 2] [A_q56_0]) .ret))
def T_q56 : FC := ⟨28, A_q56, [.tmp 2]⟩
abbrev F_q57 : Nat := 57
def A_q57_0 : LA := [mv 4 0, mv 5 0, Wc 6 5, Wf 7 0 6, Wl 8 7, mv 9 1, o_ 10 (.app 5 1 1 (.t 8) (.t 9)), Wc 11 4, Wf 12 0 11, Ws 1 12 10]
def A_q57 : ACode := (.ops A_q57_0)
def T_q57 : FC := ⟨13, A_q57, []⟩
abbrev F_q58 : Nat := 58
def A_q58_0 : LA := [mv 6 0, Wc 7 6, Wf 8 0 7, Wf 9 0 8, Wl 10 9, o_ 11 (.call 78 [(.t 10)]), mv 2 11]
def A_q58_1 : LA := [mv 12 2, o_ 13 (.call 79 [(.t 12)]), mv 3 13]
def A_q58_2 : LA := [mv 15 2, o_ 16 (.call 80 [(.t 15)]), mv 14 16, Wx 17 0 14, Wx 18 1 14, mv 4 17, mv 5 18]
def A_q58_3 : LA := [mv 39 4, Wi 40 .eql 39 10, mv 38 40]
def A_q58_4 : LA := [mv 42 4, Wi 43 .neq 42 0, mv 41 43]
def A_q58_5 : LA := [mv 48 3, mv 49 0, Wc 50 49, Wf 51 1 50, Wl 52 51, o_ 53 (.conv .u64 (.t 52)), Wb 54 .gtr 48 53, mv 47 54]
def A_q58_6 : LA := [mv 19 0, mv 20 0, Wc 21 20, Wf 22 0 21, Wf 23 0 22, Wl 24 23, We 25 24, Wc 26 19, Wf 27 3 26, Ws 1 27 25]
def A_q58_7 : LA := [mv 28 0, mv 29 0, Wc 30 29, Wf 31 3 30, Wl 32 31, mv 33 3, o_ 34 (.conv .i64 (.t 33)), Wb 35 .add 32 34, Wc 36 28, Wf 37 4 36, Ws 1 37 35]
def A_q58 : ACode := (.seq (.ops A_q58_0) (.seq (.ops A_q58_1) (.seq (.ops A_q58_2) (.block 0 (.seq (.ops A_q58_3) (.cond (.t 38) .bad (.seq (.ops A_q58_4) (.cond (.t 41) .bad (.seq (.ops A_q58_5) (.cond (.t 47) .bad (.seq (.ops A_q58_6) (.ops A_q58_7))))))))))))
def T_q58 : FC := ⟨57, A_q58, []⟩
abbrev F_q59 : Nat := 59
def A_q59_0 : LA := [mv 6 2, o_ 7 (.isnil .ic true (.t 6))]
def A_q59 : ACode := (.seq (.recv (some 5) [(some 2, (.t 5))]) (.seq (.ops A_q59_0) (.cond (.t 7) .bad .skip)))
def T_q59 : FC := ⟨18, A_q59, []⟩
abbrev F_q61 : Nat := 61
def A_q61_0 : LA := [mv 10 1, We 11 10, Wm 12 0]
def A_q61_1 : LA := [Wa 14 74 5 10 12, Wd 15 5 14, o_ 6 (.box 74 5 (.c (.agg [.str [], .str [], .nils, .nils, .nils]))), Ws 5 6 15]
def A_q61_2 : LA := [mv 16 0, Wc 17 16, Wf 18 0 17, Wl 19 18, Wf 20 0 6, Wl 21 20, o_ 22 (.mlook .s (.nilp) false (.t 19) (.t 21)), o_ 23 (.isnil .pt true (.t 22))]
def A_q61_3 : LA := [mv 29 0, Wc 30 29, Wf 31 0 30, Wl 32 31, Wf 33 0 6, Wl 34 33, Wd 35 5 6, o_ 36 (.acall 84 [(.t 35)]), o_ 37 (.mkmap), o_ 38 (.mkmap), o_ 39 (.build [.str [], .str [], .nils, .nils, .nils, .nilm, .nilm] [(0, 5, (.t 36)), (5, 1, (.t 37)), (6, 1, (.t 38))]), o_ 40 (.box 242 7 (.t 39)), n_ (.mupd .s (.t 32) (.t 34) (.t 40))]
def A_q61_4 : LA := [Wi 41 .add 12 1, mv 12 41]
def A_q61_5 : ACode := (.seq (.ops [Wb 13 .lss 12 11]) (.seq (.cond (.t 13) .skip (.exit 0)) (.seq (.block 1 (.seq (.ops A_q61_1) (.seq (.seq (.alts [16, 17, 18, 19, 20, 21, 22, 23] [A_q61_2]) (.cond (.t 23) .bad .skip)) (.alts [29, 30, 31, 32, 33, 34, 35, 36, 37, 38, 39, 40] [A_q61_3])))) (.ops A_q61_4))))
def A_q61_6 : LA := [mv 42 4, We 43 42, Wi 44 .gtr 43 0]
def A_q61_7 : LA := [mv 48 0, o_ 49 (.call 86 [(.t 48)]), We 50 49, Wm 51 0]
def A_q61_8 : LA := [Wa 53 9 1 49 51, Wl 54 53, mv 8 54]
def A_q61_9 : LA := [mv 55 0, Wc 56 55, Wf 57 0 56, Wl 58 57, mv 59 8, o_ 60 (.mlook .s (.nilp) false (.t 58) (.t 59)), Wc 61 60, Wf 62 0 61, Wd 63 5 62, o_ 64 (.call 87 [(.t 63)]), o_ 9 (.box 67 2 (.c (.agg [.int .i64 (0), .str []]))), Ws 2 9 64]
def A_q61_10 : LA := [Wf 65 0 9, Wl 66 65, Wi 67 .neq 66 0]
def A_q61_11 : LA := [Wi 71 .add 51 1, mv 51 71]
def A_q61_12 : ACode := (.seq (.ops [Wb 52 .lss 51 50]) (.seq (.cond (.t 52) .skip (.exit 2)) (.seq (.block 3 (.seq (.ops A_q61_8) (.seq (.ops A_q61_9) (.seq (.ops A_q61_10) (.cond (.t 67) .bad .skip))))) (.ops A_q61_11))))
def A_q61 : ACode := (.seq (.ops [Wn 4]) (.seq (.seq (.ops A_q61_0) (.block 0 (.loop A_q61_5))) (.seq (.seq (.ops A_q61_6) (.cond (.t 44) .bad .skip)) (.seq (.ops A_q61_7) (.block 2 (.loop A_q61_12))))))
def T_q61 : FC := ⟨72, A_q61, []⟩
abbrev F_q62 : Nat := 62
def A_q62_0 : LA := [mv 6 0, o_ 7 (.call 86 [(.t 6)]), We 8 7, Wm 9 0]
def A_q62_1 : LA := [Wa 11 9 1 7 9, Wl 12 11, mv 3 12]
def A_q62_2 : LA := [mv 13 0, Wc 14 13, Wf 15 0 14, Wl 16 15, mv 17 3, o_ 18 (.mlook .s (.nilp) false (.t 16) (.t 17)), Wc 19 18, Wf 20 0 19, Wf 21 2 20, Wl 22 21, We 23 22, Wm 24 0]
def A_q62_3 : ACode := (.seq (.ops [Wb 25 .lss 24 23]) (.seq (.cond (.t 25) .bad (.exit 2)) .bad))
def A_q62_4 : LA := [Wi 40 .add 9 1, mv 9 40]
def A_q62_5 : ACode := (.seq (.ops [Wb 10 .lss 9 8]) (.seq (.cond (.t 10) .skip (.exit 0)) (.seq (.block 1 (.seq (.ops A_q62_1) (.seq (.ops A_q62_2) (.block 2 (.loop A_q62_3))))) (.ops A_q62_4))))
def A_q62 : ACode := (.seq (.ops A_q62_0) (.block 0 (.loop A_q62_5)))
def T_q62 : FC := ⟨41, A_q62, []⟩
abbrev F_q63 : Nat := 63
def A_q63_0 : LA := [Wl 8 1, o_ 9 (.call 86 [(.t 8)]), We 10 9, Wm 11 0]
def A_q63_1 : LA := [Wa 13 9 1 9 11, Wl 14 13, o_ 3 (.box 9 1 (.c (.str []))), Ws 1 3 14]
def A_q63_2 : LA := [o_ 15 (.mkmap), o_ 4 (.box 239 1 (.c (.nilm))), Ws 1 4 15]
def A_q63_3 : LA := [o_ 16 (.mkfn 88 [] [(.t 1), (.t 3), (.t 4), (.t 5)]), Ws 1 5 16]
def A_q63_4 : LA := [Wl 17 5, Wl 18 3, o_ 19 (.callv (.t 17) [(.t 18)])]
def A_q63_5 : LA := [Wi 20 .add 11 1, mv 11 20]
def A_q63_6 : ACode := (.seq (.ops [Wb 12 .lss 11 10]) (.seq (.cond (.t 12) .skip (.exit 0)) (.seq (.block 1 (.seq (.ops A_q63_1) (.seq (.ops A_q63_2) (.seq (.ops [o_ 5 (.box 246 1 (.c (.nilf)))]) (.seq (.ops A_q63_3) (.ops A_q63_4)))))) (.ops A_q63_5))))
def A_q63_7 : LA := [Wl 21 1, o_ 22 (.call 86 [(.t 21)]), We 23 22, Wm 24 0]
def A_q63_8 : LA := [Wa 26 9 1 22 24, Wl 27 26, mv 7 27]
def A_q63_9 : LA := [Wl 28 1, Wl 29 1, Wc 30 29, Wf 31 0 30, Wl 32 31, mv 33 7, o_ 34 (.mlook .s (.nilp) false (.t 32) (.t 33)), Wc 35 34, Wf 36 5 35, Wl 37 36, mv 38 7, o_ 39 (.call 89 [(.t 28), (.t 37), (.t 38), (.c (.bool true))])]
def A_q63_10 : LA := [Wi 40 .add 24 1, mv 24 40]
def A_q63_11 : ACode := (.seq (.ops [Wb 25 .lss 24 23]) (.seq (.cond (.t 25) .skip (.exit 2)) (.seq (.block 3 (.seq (.ops A_q63_8) (.alts [28, 29, 30, 31, 32, 33, 34, 35, 36, 37, 38, 39] [A_q63_9]))) (.ops A_q63_10))))
def A_q63 : ACode := (.seq (.ops [o_ 1 (.box 65 1 (.t 0))]) (.seq (.seq (.ops A_q63_0) (.block 0 (.loop A_q63_6))) (.seq (.ops A_q63_7) (.block 2 (.loop A_q63_11)))))
def T_q63 : FC := ⟨41, A_q63, []⟩
abbrev F_q64 : Nat := 64
def A_q64_0 : LA := [o_ 15 (.mkmap), mv 2 15]
def A_q64_1 : LA := [mv 16 0, Wc 17 16, Wf 18 0 17, Wl 19 18, o_ 20 (.rngm (.t 19))]
def A_q64_2 : LA := [o_ 21 (.nxm (.t 20)), Wx 22 0 21]
def A_q64_3 : LA := [o_ 23 (.entr (.t 20)), Wx 24 1 23, mv 4 24]
def A_q64_4 : LA := [mv 25 4, Wc 26 25, Wf 27 0 26, Wf 28 1 27, Wl 29 28, o_ 30 (.call 90 [(.t 29)]), We 31 30, Wm 32 0]
def A_q64_5 : LA := [Wa 34 9 1 30 32, Wl 35 34, mv 6 35]
def A_q64_6 : LA := [mv 36 2, mv 37 6, n_ (.mupd .s (.t 36) (.t 37) (.c (.bool true)))]
def A_q64_7 : LA := [Wi 38 .add 32 1, mv 32 38]
def A_q64_8 : ACode := (.seq (.ops [Wb 33 .lss 32 31]) (.seq (.cond (.t 33) .skip (.exit 2)) (.seq (.block 3 (.seq (.ops A_q64_5) (.ops A_q64_6))) (.ops A_q64_7))))
def A_q64_9 : ACode := (.seq (.ops A_q64_2) (.seq (.cond (.t 22) .skip (.exit 0)) (.block 1 (.seq (.ops A_q64_3) (.seq (.ops A_q64_4) (.block 2 (.loop A_q64_8)))))))
def A_q64_10 : LA := [mv 39 0, o_ 40 (.call 86 [(.t 39)]), We 41 40, Wm 42 0]
def A_q64_11 : LA := [Wa 44 9 1 40 42, Wl 45 44, mv 9 45]
def A_q64_12 : LA := [mv 46 0, Wc 47 46, Wf 48 0 47, Wl 49 48, mv 50 9, o_ 51 (.mlook .s (.nilp) false (.t 49) (.t 50)), mv 10 51]
def A_q64_13 : LA := [mv 52 10, Wc 53 52, Wf 54 0 53, Wd 55 5 54, o_ 56 (.call 91 [(.t 55)]), We 57 56, Wm 58 0]
def A_q64_14 : LA := [Wa 60 201 3 56 58, Wd 61 3 60, o_ 12 (.box 201 3 (.c (.agg [.str [], .int .u8 (0), .str []]))), Ws 3 12 61]
def A_q64_15 : LA := [mv 63 0, Wc 64 63, Wf 65 2 64, Wl 66 65, Wf 67 0 12, Wl 68 67, o_ 69 (.mlook .s (.str []) true (.t 66) (.t 68)), mv 62 69, Wx 70 0 62, Wx 71 1 62, mv 13 70, mv 14 71]
def A_q64_16 : LA := [mv 72 14, mv 73 72, Whm 74 2 73, Wh 75 (.faddr 0 (.t 12)) 73, Wh 76 (.ld1 (.t 75)) 73, Wh 77 (.mlook .s (.bool false) false (.t 74) (.t 76)) 73, Wq 78 73 77]
def A_q64_17 : LA := [mv 84 0, Wc 85 84, Wf 86 2 85, Wl 87 86, Wf 88 0 12, Wl 89 88, mv 90 9, n_ (.mupd .s (.t 87) (.t 89) (.t 90))]
def A_q64_18 : LA := [mv 91 10, Wc 92 91, Wf 93 6 92, Wl 94 93, Wf 95 0 12, Wl 96 95, Wf 97 1 12, Wl 98 97, n_ (.mupd .s (.t 94) (.t 96) (.t 98))]
def A_q64_19 : LA := [Wi 99 .add 58 1, mv 58 99]
def A_q64_20 : ACode := (.seq (.ops [Wb 59 .lss 58 57]) (.seq (.cond (.t 59) .skip (.exit 6)) (.seq (.block 7 (.seq (.ops A_q64_14) (.seq (.seq (.alts [63, 64, 65, 66, 67, 68, 69, 62, 70, 71, 13, 14] [A_q64_15]) (.seq (.ops A_q64_16) (.cond (.t 78) .bad .skip))) (.seq (.alts [84, 85, 86, 87, 88, 89, 90] [A_q64_17]) (.alts [91, 92, 93, 94, 95, 96, 97, 98] [A_q64_18]))))) (.ops A_q64_19))))
def A_q64_21 : LA := [Wi 100 .add 42 1, mv 42 100]
def A_q64_22 : ACode := (.seq (.ops [Wb 43 .lss 42 41]) (.seq (.cond (.t 43) .skip (.exit 4)) (.seq (.block 5 (.seq (.ops A_q64_11) (.seq (.ops A_q64_12) (.seq (.ops A_q64_13) (.block 6 (.loop A_q64_20)))))) (.ops A_q64_21))))
def A_q64_23 : LA := [mv 101 7, We 102 101, Wi 103 .gtr 102 0]
def A_q64 : ACode := (.seq (.ops A_q64_0) (.seq (.seq (.ops A_q64_1) (.block 0 (.loop A_q64_9))) (.seq (.ops [Wn 7]) (.seq (.seq (.ops A_q64_10) (.block 4 (.loop A_q64_22))) (.seq (.ops A_q64_23) (.cond (.t 103) .bad .skip))))))
def T_q64 : FC := ⟨107, A_q64, []⟩
abbrev F_q65 : Nat := 65
def A_q65_0 : LA := [mv 5 0, o_ 6 (.call 86 [(.t 5)]), We 7 6, Wm 8 0]
def A_q65_1 : LA := [Wa 10 9 1 6 8, Wl 11 10, mv 3 11]
def A_q65_2 : LA := [mv 12 0, Wc 13 12, Wf 14 0 13, Wl 15 14, mv 16 3, o_ 17 (.mlook .s (.nilp) false (.t 15) (.t 16)), mv 4 17]
def A_q65_3 : LA := [mv 18 0, mv 19 4, mv 20 4, Wc 21 20, Wf 22 0 21, Wf 23 1 22, Wl 24 23, mv 25 4, Wc 26 25, Wf 27 0 26, Wf 28 3 27, Wl 29 28, o_ 30 (.call 92 [(.t 18), (.t 19), (.t 24), (.t 29)])]
def A_q65_4 : LA := [Wi 31 .add 8 1, mv 8 31]
def A_q65_5 : ACode := (.seq (.ops [Wb 9 .lss 8 7]) (.seq (.cond (.t 9) .skip (.exit 0)) (.seq (.block 1 (.seq (.ops A_q65_1) (.seq (.ops A_q65_2) (.alts [18, 19, 20, 21, 22, 23, 24, 25, 26, 27, 28, 29, 30] [A_q65_3])))) (.ops A_q65_4))))
def A_q65 : ACode := (.seq (.ops A_q65_0) (.block 0 (.loop A_q65_5)))
def T_q65 : FC := ⟨32, A_q65, []⟩
abbrev F_q66 : Nat := 66
def A_q66_0 : LA := [o_ 10 (.mkmap), o_ 2 (.box 239 1 (.c (.nilm))), Ws 1 2 10]
def A_q66_1 : LA := [mv 11 0, Wc 12 11, Wf 13 1 12, Wl 14 13, We 15 14, mv 16 0, Wc 17 16, Wf 18 0 17, Wl 19 18, o_ 20 (.mlen (.t 19)), Wb 21 .lss 15 20]
def A_q66_2 : LA := [mv 22 0, o_ 23 (.call 86 [(.t 22)]), We 24 23, Wm 25 0]
def A_q66_3 : LA := [Wa 27 9 1 23 25, Wl 28 27, mv 4 28]
def A_q66_4 : LA := [o_ 29 (.mkfn 93 [] [(.t 2)]), mv 5 29]
def A_q66_5 : LA := [Wl 30 2, mv 31 4, o_ 32 (.mlook .s (.bool false) false (.t 30) (.t 31)), o_ 33 (.not (.t 32)), mv 34 33, Wgm 35 0 34, g_ 36 (.nilc (.t 35)) 34, Wgf 37 0 36 34, Wgl 38 37 34, Wgm 39 4 34, g_ 40 (.mlook .s (.nilp) false (.t 38) (.t 39)) 34, g_ 41 (.nilc (.t 40)) 34, Wgf 42 0 41 34, Wgf 43 2 42 34, Wgl 44 43 34, Wgm 45 5 34, g_ 46 (.call 94 [(.t 44), (.t 45)]) 34, g_ 47 (.not (.t 46)) 34, Wp 48 34 47]
def A_q66_6 : LA := [Wl 49 2, mv 50 4, n_ (.mupd .s (.t 49) (.t 50) (.c (.bool true)))]
def A_q66_7 : LA := [mv 51 0, mv 52 0, Wc 53 52, Wf 54 1 53, Wl 55 54, mv 56 4, o_ 57 (.bslice 9 1 1 [.str []] [(0, 1, (.t 56))]), o_ 58 (.app 9 1 16 (.t 55) (.t 57)), Wc 59 51, Wf 60 1 59, Ws 1 60 58]
def A_q66_8 : LA := [Wi 61 .add 25 1, mv 25 61]
def A_q66_9 : ACode := (.seq (.ops [Wb 26 .lss 25 24]) (.seq (.cond (.t 26) .skip .bad) (.seq (.block 3 (.seq (.ops A_q66_3) (.seq (.ops A_q66_4) (.seq (.ops A_q66_5) (.cond (.t 48) (.seq (.ops A_q66_6) (.seq (.ops A_q66_7) (.exit 2))) .bad))))) (.ops A_q66_8))))
def A_q66_10 : ACode := (.seq (.seq (.alts [11, 12, 13, 14, 15, 16, 17, 18, 19, 20, 21] [A_q66_1]) (.cond (.t 21) .skip (.exit 0))) (.block 1 (.seq (.ops A_q66_2) (.block 2 (.loop A_q66_9)))))
def A_q66_11 : LA := [mv 62 0, Wc 63 62, Wf 64 0 63, Wl 65 64, o_ 66 (.rngm (.t 65))]
def A_q66_12 : LA := [o_ 67 (.nxm (.t 66)), Wx 68 0 67]
def A_q66_13 : LA := [o_ 69 (.entr (.t 66)), Wx 70 1 69, mv 7 70]
def A_q66_14 : LA := [mv 71 0, mv 72 7, Wc 73 72, Wf 74 0 73, Wf 75 1 74, Wl 76 75, mv 77 7, Wc 78 77, Wf 79 0 78, Wf 80 3 79, Wl 81 80, mv 82 7, Wc 83 82, Wf 84 0 83, Wf 85 4 84, Wl 86 85, o_ 87 (.call 95 [(.t 71), (.t 76), (.t 81), (.t 86)])]
def A_q66_15 : ACode := (.seq (.ops A_q66_12) (.seq (.cond (.t 68) .skip (.exit 4)) (.block 5 (.seq (.ops A_q66_13) (.alts [71, 72, 73, 74, 75, 76, 77, 78, 79, 80, 81, 82, 83, 84, 85, 86, 87] [A_q66_14])))))
def A_q66_16 : LA := [mv 88 0, Wc 89 88, Wf 90 5 89, Wl 91 90, o_ 92 (.rngm (.t 91))]
def A_q66_17 : LA := [o_ 93 (.nxm (.t 92)), Wx 94 0 93]
def A_q66_18 : LA := [o_ 95 (.entr (.t 92)), Wx 96 1 95, mv 9 96]
def A_q66_19 : LA := [mv 97 9, o_ 98 (.call 96 [(.t 97)])]
def A_q66_20 : ACode := (.seq (.ops A_q66_17) (.seq (.cond (.t 94) .skip (.exit 6)) (.block 7 (.seq (.ops A_q66_18) (.ops A_q66_19)))))
def A_q66 : ACode := (.seq (.ops A_q66_0) (.seq (.block 0 (.loop A_q66_10)) (.seq (.seq (.ops A_q66_11) (.block 4 (.loop A_q66_15))) (.seq (.ops A_q66_16) (.block 6 (.loop A_q66_20))))))
def T_q66 : FC := ⟨99, A_q66, []⟩
abbrev F_q67 : Nat := 67
def A_q67_0 : LA := [mv 5 0, mv 6 1, o_ 7 (.build [.str [], .int .i32 (0), .int .u8 (0), .int .u8 (0), .str [], .int .u8 (0), .int .i64 (0), .int .u8 (0), .str []] [(0, 1, (.c (.str [118, 97, 108, 117, 101]))), (1, 1, (.c (.int .i32 1))), (2, 1, (.c (.int .u8 1))), (3, 1, (.t 6))]), o_ 8 (.bslice 154 9 1 [.str [], .int .i32 (0), .int .u8 (0), .int .u8 (0), .str [], .int .u8 (0), .int .i64 (0), .int .u8 (0), .str []] [(0, 9, (.t 7))]), o_ 9 (.build [.str [], .nils, .nils, .nils, .nils, .nils, .nils] [(0, 1, (.t 5)), (1, 1, (.t 8))]), Ws 7 4 9]
def A_q67 : ACode := (.seq (.ops [o_ 4 (.box 150 7 (.c (.agg [.str [], .nils, .nils, .nils, .nils, .nils, .nils])))]) (.seq (.ops A_q67_0) .ret))
def T_q67 : FC := ⟨10, A_q67, [.cella 4 7]⟩
abbrev F_q68 : Nat := 68
def A_q68_0 : LA := [mv 3 0, o_ 4 (.build [.str [], .int .i32 (0), .int .u8 (0), .int .u8 (0), .str [], .int .u8 (0), .int .i64 (0), .int .u8 (0), .str []] [(0, 1, (.c (.str [115, 101, 99, 111, 110, 100, 115]))), (1, 1, (.c (.int .i32 1))), (2, 1, (.c (.int .u8 1))), (3, 1, (.c (.int .u8 3)))]), o_ 5 (.build [.str [], .int .i32 (0), .int .u8 (0), .int .u8 (0), .str [], .int .u8 (0), .int .i64 (0), .int .u8 (0), .str []] [(0, 1, (.c (.str [110, 97, 110, 111, 115]))), (1, 1, (.c (.int .i32 2))), (2, 1, (.c (.int .u8 1))), (3, 1, (.c (.int .u8 5)))]), o_ 6 (.bslice 154 9 2 [.str [], .int .i32 (0), .int .u8 (0), .int .u8 (0), .str [], .int .u8 (0), .int .i64 (0), .int .u8 (0), .str []] [(0, 9, (.t 4)), (9, 9, (.t 5))]), o_ 7 (.build [.str [], .nils, .nils, .nils, .nils, .nils, .nils] [(0, 1, (.t 3)), (1, 1, (.t 6))]), Ws 7 2 7]
def A_q68 : ACode := (.seq (.ops [o_ 2 (.box 150 7 (.c (.agg [.str [], .nils, .nils, .nils, .nils, .nils, .nils])))]) (.seq (.ops A_q68_0) .ret))
def T_q68 : FC := ⟨8, A_q68, [.cella 2 7]⟩
abbrev F_q69 : Nat := 69
def A_q69_0 : LA := [o_ 6 (.box 84 3 (.c (.agg [.str [], .nils, .nils]))), Wm 7 0, Wm 8 0]
def A_q69_1 : LA := [mv 9 0, mv 10 1, o_ 11 (.build [.str [], .nils, .nils] [(0, 1, (.t 10))]), mv 12 2, o_ 13 (.call 71 [(.t 9), (.t 11), (.t 12)]), Wx 14 0 13, Wx 15 1 13, Wx 16 2 13, Ws 3 6 14, mv 7 15, mv 8 16]
def A_q69 : ACode := (.seq (.ops A_q69_0) (.seq (.ops A_q69_1) .ret))
def T_q69 : FC := ⟨17, A_q69, [.cella 6 3, .tmp 7, .tmp 8]⟩
abbrev F_q70 : Nat := 70
def A_q70_0 : LA := [Wm 2 0, Wm 3 0]
def A_q70_1 : LA := [mv 13 0, o_ 14 (.call 78 [(.t 13)]), mv 4 14]
def A_q70_2 : LA := [mv 16 4, o_ 17 (.call 97 [(.t 16)]), mv 15 17, Wx 18 0 15, Wx 19 1 15, mv 5 18, mv 6 19]
def A_q70_3 : LA := [mv 20 6, o_ 21 (.bini .eql (.t 20) (.c (.int .u8 4)))]
def A_q70_4 : LA := [mv 30 4, o_ 31 (.call 80 [(.t 30)]), mv 29 31, Wx 32 0 29, Wx 33 1 29, mv 9 32, mv 10 33]
def A_q70_5 : LA := [mv 34 9, Wi 35 .eql 34 0]
def A_q70_6 : LA := [mv 36 4, mv 37 5, mv 38 6, o_ 39 (.call 98 [(.t 36), (.t 37), (.t 38), (i_ 99)])]
def A_q70_7 : LA := [mv 41 4, o_ 42 (.call 80 [(.t 41)]), mv 40 42, Wx 43 0 40, Wx 44 1 40, mv 11 43, mv 12 44]
def A_q70_8 : LA := [mv 45 4, o_ 46 (.call 81 [(.t 45)]), mv 47 11, mv 2 46, mv 3 47]
def A_q70 : ACode := (.seq (.ops A_q70_0) (.seq (.ops A_q70_1) (.seq (.ops A_q70_2) (.seq (.seq (.ops A_q70_3) (.cond (.t 21) .bad .skip)) (.seq (.seq (.ops A_q70_4) (.seq (.ops A_q70_5) (.cond (.t 35) (.ops A_q70_6) .bad))) (.seq (.ops A_q70_7) (.seq (.ops A_q70_8) .ret)))))))
def T_q70 : FC := ⟨48, A_q70, [.tmp 2, .tmp 3]⟩
abbrev F_q71 : Nat := 71
def A_q71_0 : LA := [o_ 4 (.box 84 3 (.t 1)), o_ 6 (.box 84 3 (.c (.agg [.str [], .nils, .nils]))), o_ 7 (.box 27 1 (i_ 0)), o_ 8 (.box 3 1 (i_ 0))]
def A_q71_1 : LA := [mv 16 0, Wf 17 0 4, Wl 18 17, o_ 19 (.inv [(79, 398)] (.t 16) [(.t 18)]), mv 15 19, Wx 20 0 15, Wx 21 1 15, mv 9 20, mv 10 21]
def A_q71_2 : LA := [mv 22 10, Wi 23 .neq 22 0]
def A_q71_3 : LA := [mv 27 0, Wd 28 3 4, o_ 29 (.call 99 [(.t 27), (.t 28)]), mv 26 29, Wx 30 0 26, Wx 31 1 26, o_ 11 (.box 84 3 (.c (.agg [.str [], .nils, .nils]))), Ws 3 11 30, mv 12 31]
def A_q71_4 : LA := [mv 32 12, Wi 33 .neq 32 0]
def A_q71_5 : LA := [mv 36 2, We 37 36, Wi 38 .gtr 37 16777216]
def A_q71_6 : LA := [mv 41 0, mv 42 2, o_ 43 (.call 101 []), o_ 44 (.build [.nili, .nils, .nils] [(0, 1, (.t 41)), (1, 1, (.t 42)), (2, 1, (.t 43))]), o_ 45 (.box 269 3 (.t 44)), mv 13 45]
def A_q71_7 : LA := [mv 46 13, Wd 47 3 11, o_ 48 (.call 102 [(.t 46), (.t 47)]), mv 14 48]
def A_q71_8 : LA := [mv 49 13, mv 50 14, mv 51 2, o_ 52 (.call 78 [(.t 51)]), o_ 53 (.call 103 [(.t 49), (.t 50), (.t 52), (i_ 1)])]
def A_q71_9 : LA := [mv 54 14, o_ 55 (.call 104 [(.t 54)]), Ws 3 6 55, n_ (.st 1 (.t 7) (i_ 0)), n_ (.st 1 (.t 8) (i_ 0))]
def A_q71 : ACode := (.seq (.ops A_q71_0) (.seq (.seq (.ops A_q71_1) (.seq (.ops A_q71_2) (.cond (.t 23) .bad .skip))) (.seq (.ops A_q71_3) (.seq (.seq (.ops A_q71_4) (.cond (.t 33) .bad .skip)) (.seq (.seq (.ops A_q71_5) (.cond (.t 38) .bad .skip)) (.seq (.seq (.ops [o_ 40 (.mkfn 100 [] [(.t 6), (.t 7), (.t 8)])]) (.dfr (.t 40) [])) (.seq (.ops A_q71_6) (.seq (.ops A_q71_7) (.seq (.ops A_q71_8) (.seq (.ops A_q71_9) .ret))))))))))
def T_q71 : FC := ⟨56, A_q71, [.cella 6 3, .cell1 7, .cell1 8]⟩
abbrev F_q72 : Nat := 72
def A_q72_0 : LA := [mv 4 0, mv 5 0, Wc 6 5, Wf 7 0 6, Wl 8 7, mv 9 1, o_ 10 (.slcl 5 1 (.t 8) (some (.t 9)) none none), o_ 11 (.call 30 [(.t 10)]), Wc 12 4, Wf 13 0 12, Ws 1 13 11]
def A_q72 : ACode := (.ops A_q72_0)
def T_q72 : FC := ⟨14, A_q72, []⟩
abbrev F_q73 : Nat := 73
def A_q73_0 : LA := [mv 3 0, Wc 4 3, Wf 5 0 4, Wl 6 5, We 7 6, Wi 8 .gtr 7 0, mv 2 8]
def A_q73 : ACode := (.seq (.ops [Wo 2 false]) (.seq (.ops A_q73_0) .ret))
def T_q73 : FC := ⟨9, A_q73, [.tmp 2]⟩
abbrev F_q74 : Nat := 74
def A_q74_0 : LA := [o_ 2 (.box 84 3 (.c (.agg [.str [], .nils, .nils]))), Wm 3 0]
def A_q74_1 : LA := [mv 7 0, Wc 8 7, Wf 9 5 8, Wl 10 9, Wi 11 .neq 10 0]
def A_q74_2 : LA := [mv 18 0, Wc 19 18, Wf 20 1 19, Wl 21 20, mv 22 0, Wc 23 22, Wf 24 2 23, Wd 25 3 24, o_ 26 (.call 71 [(.t 21), (.t 25), (.c (.nils))]), mv 17 26, Wx 27 0 17, Wx 28 1 17, Wx 29 2 17, o_ 4 (.box 84 3 (.c (.agg [.str [], .nils, .nils]))), Ws 3 4 27, mv 5 28, mv 6 29]
def A_q74_3 : LA := [mv 18 0, Wc 19 18, Wf 20 1 19, Wl 21 20, mv 22 0, Wc 23 22, Wf 24 2 23, Wd 25 3 24, o_ 4 (.box 84 3 (.c (.agg [.str [], .nils, .nils]))), o_ 26 (.call 71 [(.t 21), (.t 25), (.c (.nils))]), mv 17 26, Wx 27 0 17, Wx 28 1 17, Wx 29 2 17, Ws 3 4 27, mv 5 28, mv 6 29]
def A_q74_4 : LA := [Wd 30 3 4, Ws 3 2 30, Wm 3 0]
def A_q74 : ACode := (.seq (.ops A_q74_0) (.seq (.seq (.ops A_q74_1) (.cond (.t 11) .bad .skip)) (.seq (.alts [18, 19, 20, 21, 22, 23, 24, 25, 26, 17, 27, 28, 29, 4, 5, 6] [A_q74_2, A_q74_3]) (.seq (.ops A_q74_4) .ret))))
def T_q74 : FC := ⟨31, A_q74, [.cella 2 3, .tmp 3]⟩
abbrev F_q75 : Nat := 75
def A_q75_0 : LA := [mv 5 0, Wc 6 5, Wf 7 3 6, Wl 8 7, Wi 9 .eql 8 0, mv 10 9, Wgm 11 1 10, Wgm 12 0 10, g_ 13 (.nilc (.t 12)) 10, Wgf 14 1 13 10, Wgl 15 14 10, Wgm 16 0 10, g_ 17 (.nilc (.t 16)) 10, Wgf 18 0 17 10, Wgl 19 18 10, g_ 20 (.lenl (.t 19)) 10, g_ 21 (.bini .sub (.t 15) (.t 20)) 10, g_ 22 (.bini .gtr (.t 11) (.t 21)) 10, Wp 23 10 22]
def A_q75_1 : LA := [mv 27 0, Wc 28 27, Wf 29 3 28, Wl 30 29, Wi 31 .eql 30 0, mv 4 31]
def A_q75 : ACode := (.seq (.ops [Wo 4 false]) (.seq (.seq (.alts [5, 6, 7, 8, 9, 10, 11, 12, 13, 14, 15, 16, 17, 18, 19, 20, 21, 22, 23] [A_q75_0]) (.cond (.t 23) .bad .skip)) (.seq (.ops A_q75_1) .ret)))
def T_q75 : FC := ⟨32, A_q75, [.tmp 4]⟩
abbrev F_q76 : Nat := 76
def A_q76_0 : LA := [mv 3 0, o_ 4 (.bini .or (.t 3) (.c (.int .u64 1))), o_ 5 (.call 105 [(.t 4)]), Wi 6 .add 5 6, Wi 7 .quo 6 7, mv 2 7]
def A_q76 : ACode := (.seq (.ops [Wm 2 0]) (.seq (.ops A_q76_0) .ret))
def T_q76 : FC := ⟨8, A_q76, [.tmp 2]⟩
abbrev F_q77 : Nat := 77
def A_q77_0 : LA := [mv 5 1, o_ 6 (.bini .geq (.t 5) (.c (.int .u64 128)))]
def A_q77_1 : ACode := (.seq (.seq (.ops A_q77_0) (.cond (.t 6) .bad (.exit 0))) .bad)
def A_q77_2 : LA := [mv 15 0, mv 16 1, o_ 17 (.conv .u8 (.t 16)), o_ 18 (.bslice 5 1 1 [.int .u8 0] [(0, 1, (.t 17))]), o_ 19 (.app 5 1 1 (.t 15) (.t 18)), mv 4 19]
def A_q77 : ACode := (.seq (.ops [Wn 4]) (.seq (.block 0 (.loop A_q77_1)) (.seq (.ops A_q77_2) .ret)))
def T_q77 : FC := ⟨20, A_q77, [.tmp 4]⟩
abbrev F_q78 : Nat := 78
def A_q78_0 : LA := [mv 3 0, o_ 4 (.call 30 [(.t 3)]), mv 5 0, We 6 5, o_ 7 (.build [.nils, .int .i64 (0), .int .i64 (0), .int .i64 (0), .int .i64 0] [(0, 1, (.t 4)), (2, 1, (.t 6))]), o_ 8 (.box 276 5 (.t 7)), mv 2 8]
def A_q78 : ACode := (.seq (.ops [o_ 2 (.mov (.c (.nilp)))]) (.seq (.ops A_q78_0) .ret))
def T_q78 : FC := ⟨9, A_q78, [.tmp 2]⟩
abbrev F_q79 : Nat := 79
def A_q79_0 : LA := [mv 6 0, Wc 7 6, Wf 8 3 7, Wl 9 8, Wi 10 .neq 9 0]
def A_q79_1 : LA := [mv 11 4, Wi 12 .lss 11 10]
def A_q79_2 : LA := [mv 15 0, Wc 16 15, Wf 17 1 16, Wl 18 17, mv 19 4, Wb 20 .add 18 19, mv 21 0, Wc 22 21, Wf 23 2 22, Wl 24 23, Wb 25 .geq 20 24]
def A_q79_3 : LA := [mv 32 0, Wc 33 32, Wf 34 0 33, Wl 35 34, mv 36 0, Wc 37 36, Wf 38 1 37, Wl 39 38, mv 40 4, Wb 41 .add 39 40, Wa 42 5 1 35 41, Wl 43 42, mv 5 43]
def A_q79_4 : LA := [mv 44 4, Wi 45 .eql 44 9, mv 46 45, Wgm 47 5 46, g_ 48 (.bini .gtr (.t 47) (.c (.int .u8 1))) 46, Wp 49 46 48]
def A_q79_5 : LA := [mv 50 3, mv 51 5, o_ 52 (.bini .and (.t 51) (.c (.int .u8 127))), o_ 53 (.conv .u64 (.t 52)), mv 54 4, o_ 55 (.bini .mul (i_ 7) (.t 54)), Wb 56 .shl 53 55, Wb 57 .or 50 56, mv 3 57]
def A_q79_6 : LA := [mv 58 5, o_ 59 (.bini .lss (.t 58) (.c (.int .u8 128)))]
def A_q79_7 : LA := [mv 60 0, Wc 61 60, Wf 62 1 61, Wl 63 62, mv 64 4, Wi 65 .add 64 1, Wb 66 .add 63 65, Wc 67 60, Wf 68 1 67, Ws 1 68 66]
def A_q79_8 : LA := [mv 69 3, mv 2 69]
def A_q79_9 : LA := [mv 13 4, Wi 14 .add 13 1, mv 4 14]
def A_q79_10 : ACode := (.seq (.seq (.ops A_q79_1) (.cond (.t 12) .skip .bad)) (.seq (.block 1 (.seq (.seq (.alts [15, 16, 17, 18, 19, 20, 21, 22, 23, 24, 25] [A_q79_2]) (.cond (.t 25) .bad .skip)) (.seq (.alts [32, 33, 34, 35, 36, 37, 38, 39, 40, 41, 42, 43, 5] [A_q79_3]) (.seq (.seq (.ops A_q79_4) (.cond (.t 49) .bad .skip)) (.seq (.ops A_q79_5) (.seq (.ops A_q79_6) (.cond (.t 59) (.seq (.ops A_q79_7) (.seq (.ops A_q79_8) .ret)) .bad))))))) (.ops A_q79_9)))
def A_q79_11 : LA := [mv 70 0, mv 71 0, Wc 72 71, Wf 73 1 72, Wl 74 73, o_ 75 (.call 106 [(.t 70), (i_ 11), (.t 74)])]
def A_q79 : ACode := (.seq (.ops [o_ 2 (.mov (.c (.int .u64 0)))]) (.seq (.ops [o_ 3 (.mov (.c (.int .u64 0)))]) (.seq (.seq (.ops A_q79_0) (.cond (.t 10) .bad .skip)) (.seq (.seq (.ops [Wm 4 0]) (.block 0 (.loop A_q79_10))) (.seq (.ops A_q79_11) (.seq (.ops [o_ 2 (.mov (.c (.int .u64 0)))]) .ret))))))
def T_q79 : FC := ⟨76, A_q79, [.tmp 2]⟩
abbrev F_q80 : Nat := 80
def A_q80_0 : LA := [Wm 2 0, Wm 3 0]
def A_q80_1 : LA := [mv 4 0, Wc 5 4, Wf 6 3 5, Wl 7 6, Wi 8 .eql 7 0]
def A_q80_2 : LA := [Wm 2 0, Wm 3 0]
def A_q80_3 : LA := [mv 9 0, Wc 10 9, Wf 11 3 10, Wl 12 11, mv 13 0, Wc 14 13, Wf 15 4 14, Wl 16 15, mv 2 12, mv 3 16]
def A_q80 : ACode := (.seq (.ops A_q80_0) (.seq (.seq (.ops A_q80_1) (.cond (.t 8) (.seq (.ops A_q80_2) .ret) .skip)) (.seq (.alts [9, 10, 11, 12, 13, 14, 15, 16, 2, 3] [A_q80_3]) .ret)))
def T_q80 : FC := ⟨17, A_q80, [.tmp 2, .tmp 3]⟩
abbrev F_q81 : Nat := 81
def A_q81_0 : LA := [mv 3 0, Wc 4 3, Wf 5 1 4, Wl 6 5, mv 2 6]
def A_q81 : ACode := (.seq (.ops [Wm 2 0]) (.seq (.ops A_q81_0) .ret))
def T_q81 : FC := ⟨7, A_q81, [.tmp 2]⟩
abbrev F_q84 : Nat := 84
def A_q84_0 : LA := [o_ 1 (.box 74 5 (.t 0)), o_ 2 (.box 74 5 (.c (.agg [.str [], .str [], .nils, .nils, .nils])))]
def A_q84_1 : LA := [Wf 3 2 1, Wl 4 3, o_ 5 (.call 107 [(.t 4)]), Wf 6 2 1, Ws 1 6 5]
def A_q84_2 : LA := [Wf 8 3 1, Wl 9 8, Wf 10 4 1, Wl 11 10, o_ 12 (.call 108 [(.t 9), (.t 11)]), mv 7 12, Wx 13 0 7, Wx 14 1 7, Wf 15 3 1, Ws 1 15 13, Wf 16 4 1, Ws 1 16 14]
def A_q84_3 : LA := [Wd 17 5 1, Ws 5 2 17]
def A_q84 : ACode := (.seq (.ops A_q84_0) (.seq (.ops A_q84_1) (.seq (.ops A_q84_2) (.seq (.ops A_q84_3) .ret))))
def T_q84 : FC := ⟨18, A_q84, [.cella 2 5]⟩
abbrev F_q86 : Nat := 86
def A_q86_0 : LA := [mv 3 0, Wc 4 3, Wf 5 0 4, Wl 6 5, o_ 7 (.call 110 [(.t 6)]), o_ 8 (.call 109 [(.t 7)]), mv 2 8]
def A_q86 : ACode := (.seq (.ops [Wn 2]) (.seq (.ops A_q86_0) .ret))
def T_q86 : FC := ⟨9, A_q86, [.tmp 2]⟩
abbrev F_q87 : Nat := 87
def A_q87_0 : LA := [o_ 1 (.box 74 5 (.t 0)), o_ 2 (.box 67 2 (.c (.agg [.int .i64 (0), .str []])))]
def A_q87_1 : LA := [o_ 5 (.mkmap), o_ 6 (.build [.nilm] [(0, 1, (.t 5))]), o_ 7 (.box 290 1 (.t 6)), mv 3 7]
def A_q87_2 : LA := [mv 8 3, Wd 9 5 1, o_ 10 (.call 112 [(.t 8), (.t 9)])]
def A_q87_3 : LA := [o_ 11 (.build [.int .i64 (0), .str []] []), Ws 2 2 11]
def A_q87 : ACode := (.seq (.ops A_q87_0) (.seq (.seq (.ops [o_ 4 (.mkfn 111 [] [(.t 2)])]) (.dfr (.t 4) [])) (.seq (.ops A_q87_1) (.seq (.ops A_q87_2) (.seq (.ops A_q87_3) .ret)))))
def T_q87 : FC := ⟨12, A_q87, [.cella 2 2]⟩
abbrev F_q88 : Nat := 88
def A_q88_0 : LA := [Wl 8 1, Wc 9 8, Wf 10 0 9, Wl 11 10, mv 12 0, o_ 13 (.mlook .s (.nilp) false (.t 11) (.t 12)), Wc 14 13, Wf 15 0 14, Wf 16 2 15, Wl 17 16, We 18 17, Wm 19 0]
def A_q88_1 : ACode := (.seq (.ops [Wb 20 .lss 19 18]) (.seq (.cond (.t 20) .bad (.exit 0)) .bad))
def A_q88 : ACode := (.seq (.ops A_q88_0) (.block 0 (.loop A_q88_1)))
def T_q88 : FC := ⟨42, A_q88, []⟩
abbrev F_q89 : Nat := 89
def A_q89_0 : LA := [mv 10 1, mv 11 2, o_ 12 (.mlook .s (.bool false) false (.t 10) (.t 11)), mv 13 12, Wgm 14 3 13, g_ 15 (.not (.t 14)) 13, Wp 16 13 15]
def A_q89_1 : LA := [mv 17 1, mv 18 2, n_ (.mupd .s (.t 17) (.t 18) (.c (.bool true)))]
def A_q89_2 : LA := [mv 19 0, Wc 20 19, Wf 21 0 20, Wl 22 21, mv 23 2, o_ 24 (.mlook .s (.nilp) false (.t 22) (.t 23)), Wc 25 24, Wf 26 0 25, Wf 27 2 26, Wl 28 27, We 29 28, Wm 30 0]
def A_q89_3 : ACode := (.seq (.ops [Wb 31 .lss 30 29]) (.seq (.cond (.t 31) .bad (.exit 0)) .bad))
def A_q89 : ACode := (.seq (.seq (.ops A_q89_0) (.cond (.t 16) .bad .skip)) (.seq (.ops A_q89_1) (.seq (.ops A_q89_2) (.block 0 (.loop A_q89_3)))))
def T_q89 : FC := ⟨45, A_q89, []⟩
abbrev F_q90 : Nat := 90
def A_q90_0 : LA := [mv 5 0, o_ 6 (.call 113 [(.t 5)])]
def A_q90_1 : LA := [mv 8 4, o_ 9 (.bins .neq (.t 8) (.c (.str [])))]
def A_q90_2 : LA := [Wl 10 3, mv 11 4, o_ 12 (.bslice 9 1 1 [.str []] [(0, 1, (.t 11))]), o_ 13 (.app 9 1 16 (.t 10) (.t 12)), Ws 1 3 13]
def A_q90_3 : LA := [Wl 14 3, mv 2 14]
def A_q90 : ACode := (.seq (.ops [Wn 2]) (.seq (.ops [o_ 3 (.box 142 1 (.c (.nils)))]) (.seq (.seq (.ops A_q90_0) (.block 0 (.rngf (.t 6) [7] (.ops [mv 4 7]) (.block 1 (.seq (.ops A_q90_1) (.cond (.t 9) (.ops A_q90_2) .skip)))))) (.seq (.ops A_q90_3) .ret))))
def T_q90 : FC := ⟨15, A_q90, [.tmp 2]⟩
abbrev F_q91 : Nat := 91
def A_q91_0 : LA := [o_ 1 (.box 74 5 (.t 0)), Wn 2]
def A_q91_1 : LA := [o_ 11 (.mkfn 114 [] [(.t 3), (.t 1)]), o_ 4 (.box 294 1 (.c (.nilf))), Ws 1 4 11]
def A_q91_2 : LA := [o_ 12 (.mkfn 116 [] [(.t 4)]), o_ 5 (.box 295 1 (.c (.nilf))), Ws 1 5 12]
def A_q91_3 : LA := [o_ 13 (.mkfn 117 [] [(.t 4), (.t 6), (.t 5)]), Ws 1 6 13]
def A_q91_4 : LA := [Wf 14 3 1, Wl 15 14, We 16 15, Wm 17 0]
def A_q91_5 : LA := [Wa 19 150 7 15 17, Wd 20 7 19, o_ 8 (.box 150 7 (.c (.agg [.str [], .nils, .nils, .nils, .nils, .nils, .nils]))), Ws 7 8 20]
def A_q91_6 : LA := [Wl 21 6, Wd 22 7 8, Wf 23 1 1, Wl 24 23, o_ 25 (.callv (.t 21) [(.t 22), (.t 24)])]
def A_q91_7 : LA := [Wi 26 .add 17 1, mv 17 26]
def A_q91_8 : ACode := (.seq (.ops [Wb 18 .lss 17 16]) (.seq (.cond (.t 18) .skip (.exit 0)) (.seq (.block 1 (.seq (.ops A_q91_5) (.ops A_q91_6))) (.ops A_q91_7))))
def A_q91_9 : LA := [Wf 27 4 1, Wl 28 27, We 29 28, Wm 30 0]
def A_q91_10 : LA := [Wa 32 161 5 28 30, Wd 33 5 32, o_ 10 (.box 161 5 (.c (.agg [.str [], .nils, .bool false, .nils, .nils]))), Ws 5 10 33]
def A_q91_11 : LA := [Wl 34 5, Wd 35 5 10, Wf 36 1 1, Wl 37 36, o_ 38 (.callv (.t 34) [(.t 35), (.t 37)])]
def A_q91_12 : LA := [Wi 39 .add 30 1, mv 30 39]
def A_q91_13 : ACode := (.seq (.ops [Wb 31 .lss 30 29]) (.seq (.cond (.t 31) .skip (.exit 2)) (.seq (.block 3 (.seq (.ops A_q91_10) (.ops A_q91_11))) (.ops A_q91_12))))
def A_q91_14 : LA := [Wl 40 3, o_ 41 (.call 118 [(.t 40), (.f 119)])]
def A_q91_15 : LA := [Wl 42 3, mv 2 42]
def A_q91 : ACode := (.seq (.ops A_q91_0) (.seq (.ops [o_ 3 (.box 198 1 (.c (.nils)))]) (.seq (.ops A_q91_1) (.seq (.ops A_q91_2) (.seq (.ops [o_ 6 (.box 296 1 (.c (.nilf)))]) (.seq (.ops A_q91_3) (.seq (.seq (.ops A_q91_4) (.block 0 (.loop A_q91_8))) (.seq (.seq (.ops A_q91_9) (.block 2 (.loop A_q91_13))) (.seq (.ops A_q91_14) (.seq (.ops A_q91_15) .ret))))))))))
def T_q91 : FC := ⟨43, A_q91, [.tmp 2]⟩
abbrev F_q92 : Nat := 92
def A_q92_0 : LA := [mv 12 3, We 13 12, Wm 14 0]
def A_q92_1 : LA := [mv 16 14, mv 8 16]
def A_q92_2 : LA := [mv 17 3, mv 18 8, Wa 19 150 7 17 18, mv 9 19]
def A_q92_3 : LA := [mv 20 2, mv 21 9, Wc 22 21, Wf 23 0 22, Wl 24 23, o_ 25 (.bslice 9 1 2 [.str []] [(0, 1, (.t 20)), (1, 1, (.t 24))]), o_ 26 (.call 115 [(.t 25)]), mv 10 26]
def A_q92_4 : LA := [mv 27 9, Wc 28 27, Wf 29 1 28, Wl 30 29, We 31 30, Wm 32 0]
def A_q92_5 : LA := [mv 34 32, mv 11 34]
def A_q92_6 : LA := [mv 35 0, mv 36 1, mv 37 10, mv 38 9, Wc 39 38, Wf 40 1 39, Wl 41 40, mv 42 11, Wa 43 154 9 41 42, o_ 44 (.call 123 [(.t 35), (.t 36), (.t 37), (.t 43)])]
def A_q92_7 : LA := [Wi 45 .add 32 1, mv 32 45]
def A_q92_8 : ACode := (.seq (.ops [Wb 33 .lss 32 31]) (.seq (.cond (.t 33) .skip (.exit 2)) (.seq (.block 3 (.seq (.ops A_q92_5) (.ops A_q92_6))) (.ops A_q92_7))))
def A_q92_9 : LA := [mv 46 0, mv 47 1, mv 48 10, mv 49 9, Wc 50 49, Wf 51 3 50, Wl 52 51, o_ 53 (.call 92 [(.t 46), (.t 47), (.t 48), (.t 52)])]
def A_q92_10 : LA := [Wi 54 .add 14 1, mv 14 54]
def A_q92_11 : ACode := (.seq (.ops [Wb 15 .lss 14 13]) (.seq (.cond (.t 15) .skip (.exit 0)) (.seq (.block 1 (.seq (.ops A_q92_1) (.seq (.ops A_q92_2) (.seq (.ops A_q92_3) (.seq (.seq (.ops A_q92_4) (.block 2 (.loop A_q92_8))) (.ops A_q92_9)))))) (.ops A_q92_10))))
def A_q92 : ACode := (.seq (.ops A_q92_0) (.block 0 (.loop A_q92_11)))
def T_q92 : FC := ⟨55, A_q92, []⟩
abbrev F_q94 : Nat := 94
def A_q94_0 : LA := [mv 5 0, mv 6 1, o_ 7 (.call 124 [(.t 5), (.t 6)]), Wi 8 .geq 7 0, mv 4 8]
def A_q94 : ACode := (.seq (.ops [Wo 4 false]) (.seq (.ops A_q94_0) .ret))
def T_q94 : FC := ⟨9, A_q94, [.tmp 4]⟩
abbrev F_q95 : Nat := 95
def A_q95_0 : LA := [mv 15 3, We 16 15, Wm 17 0]
def A_q95_1 : LA := [Wa 19 161 5 15 17, Wd 20 5 19, o_ 9 (.box 161 5 (.c (.agg [.str [], .nils, .bool false, .nils, .nils]))), Ws 5 9 20]
def A_q95_2 : LA := [mv 21 0, Wc 22 21, Wf 23 4 22, Wl 24 23, mv 25 1, Wf 26 0 9, Wl 27 26, Wd 30 5 9, o_ 28 (.bslice 9 1 2 [.str []] [(0, 1, (.t 25)), (1, 1, (.t 27))]), o_ 29 (.acall 115 [(.t 28)]), n_ (.mupd .s (.t 24) (.t 29) (.t 30))]
def A_q95_3 : LA := [Wi 31 .add 17 1, mv 17 31]
def A_q95_4 : ACode := (.seq (.ops [Wb 18 .lss 17 16]) (.seq (.cond (.t 18) .skip (.exit 0)) (.seq (.block 1 (.seq (.ops A_q95_1) (.alts [21, 22, 23, 24, 25, 26, 27, 28, 29, 30] [A_q95_2]))) (.ops A_q95_3))))
def A_q95_5 : LA := [mv 32 2, We 33 32, Wm 34 0]
def A_q95_6 : LA := [Wa 36 150 7 32 34, Wd 37 7 36, o_ 11 (.box 150 7 (.c (.agg [.str [], .nils, .nils, .nils, .nils, .nils, .nils]))), Ws 7 11 37]
def A_q95_7 : LA := [mv 38 1, Wf 39 0 11, Wl 40 39, o_ 41 (.bslice 9 1 2 [.str []] [(0, 1, (.t 38)), (1, 1, (.t 40))]), o_ 42 (.call 115 [(.t 41)]), mv 12 42]
def A_q95_8 : LA := [mv 43 0, Wc 44 43, Wf 45 3 44, Wl 46 45, mv 47 12, Wd 48 7 11, n_ (.mupd .s (.t 46) (.t 47) (.t 48))]
def A_q95_9 : LA := [Wf 49 1 11, Wl 50 49, We 51 50, Wm 52 0]
def A_q95_10 : LA := [Wa 54 154 9 50 52, Wd 55 9 54, o_ 14 (.box 154 9 (.c (.agg [.str [], .int .i32 (0), .int .u8 (0), .int .u8 (0), .str [], .int .u8 (0), .int .i64 (0), .int .u8 (0), .str []]))), Ws 9 14 55]
def A_q95_11 : LA := [Wf 56 4 14, Wl 57 56, o_ 58 (.bins .neq (.t 57) (.c (.str []))), mv 59 58, Wgm 60 0 59, g_ 61 (.nilc (.t 60)) 59, Wgf 62 5 61 59, Wgl 63 62 59, Wgf 64 4 14 59, Wgl 65 64 59, g_ 66 (.mlook .s (.nils) false (.t 63) (.t 65)) 59, Wgm 67 12 59, g_ 68 (.call 125 [(.t 66), (.t 67)]) 59, g_ 69 (.not (.t 68)) 59, Wp 70 59 69]
def A_q95_12 : LA := [mv 71 0, Wc 72 71, Wf 73 5 72, Wf 75 4 14, mv 77 0, Wc 78 77, Wf 79 5 78, Wl 80 79, Wf 81 4 14, Wl 82 81, o_ 83 (.mlook .s (.nils) false (.t 80) (.t 82)), mv 84 12, o_ 85 (.fslice 9 1 1 [.str []] [(0, 1, (.t 84))]), Wl 74 73, Wl 76 75, o_ 86 (.app 9 1 16 (.t 83) (.t 85)), n_ (.mupd .s (.t 74) (.t 76) (.t 86))]
def A_q95_13 : LA := [mv 71 0, Wc 72 71, Wf 73 5 72, Wf 75 4 14, mv 77 0, Wc 78 77, Wf 79 5 78, Wl 80 79, Wf 81 4 14, Wl 82 81, o_ 83 (.mlook .s (.nils) false (.t 80) (.t 82)), mv 84 12, o_ 85 (.fslice 9 1 1 [.str []] [(0, 1, (.t 84))]), Wl 74 73, o_ 86 (.app 9 1 16 (.t 83) (.t 85)), Wl 76 75, n_ (.mupd .s (.t 74) (.t 76) (.t 86))]
def A_q95_14 : LA := [mv 71 0, Wc 72 71, Wf 73 5 72, Wf 75 4 14, mv 77 0, Wc 78 77, Wf 79 5 78, Wl 80 79, Wf 81 4 14, Wl 82 81, o_ 83 (.mlook .s (.nils) false (.t 80) (.t 82)), mv 84 12, o_ 85 (.fslice 9 1 1 [.str []] [(0, 1, (.t 84))]), Wl 76 75, Wl 74 73, o_ 86 (.app 9 1 16 (.t 83) (.t 85)), n_ (.mupd .s (.t 74) (.t 76) (.t 86))]
def A_q95_15 : LA := [mv 71 0, Wc 72 71, Wf 73 5 72, Wf 75 4 14, mv 77 0, Wc 78 77, Wf 79 5 78, Wl 80 79, Wf 81 4 14, Wl 82 81, o_ 83 (.mlook .s (.nils) false (.t 80) (.t 82)), mv 84 12, o_ 85 (.fslice 9 1 1 [.str []] [(0, 1, (.t 84))]), Wl 76 75, o_ 86 (.app 9 1 16 (.t 83) (.t 85)), Wl 74 73, n_ (.mupd .s (.t 74) (.t 76) (.t 86))]
def A_q95_16 : LA := [mv 71 0, Wc 72 71, Wf 73 5 72, Wf 75 4 14, mv 77 0, Wc 78 77, Wf 79 5 78, Wl 80 79, Wf 81 4 14, Wl 82 81, o_ 83 (.mlook .s (.nils) false (.t 80) (.t 82)), mv 84 12, o_ 85 (.fslice 9 1 1 [.str []] [(0, 1, (.t 84))]), o_ 86 (.app 9 1 16 (.t 83) (.t 85)), Wl 74 73, Wl 76 75, n_ (.mupd .s (.t 74) (.t 76) (.t 86))]
def A_q95_17 : LA := [Wi 87 .add 52 1, mv 52 87]
def A_q95_18 : ACode := (.seq (.ops [Wb 53 .lss 52 51]) (.seq (.cond (.t 53) .skip (.exit 4)) (.seq (.block 5 (.seq (.ops A_q95_10) (.seq (.alts [56, 57, 58, 59, 60, 61, 62, 63, 64, 65, 66, 67, 68, 69, 70] [A_q95_11]) (.cond (.t 70) (.alts [71, 72, 73, 74, 75, 76, 77, 78, 79, 80, 81, 82, 83, 84, 85, 86] [A_q95_12, A_q95_13, A_q95_14, A_q95_15, A_q95_16]) .skip)))) (.ops A_q95_17))))
def A_q95_19 : LA := [mv 88 0, mv 89 12, Wf 90 3 11, Wl 91 90, Wf 92 4 11, Wl 93 92, o_ 94 (.call 95 [(.t 88), (.t 89), (.t 91), (.t 93)])]
def A_q95_20 : LA := [Wi 95 .add 34 1, mv 34 95]
def A_q95_21 : ACode := (.seq (.ops [Wb 35 .lss 34 33]) (.seq (.cond (.t 35) .skip (.exit 2)) (.seq (.block 3 (.seq (.ops A_q95_6) (.seq (.ops A_q95_7) (.seq (.alts [43, 44, 45, 46, 47, 48] [A_q95_8]) (.seq (.seq (.ops A_q95_9) (.block 4 (.loop A_q95_18))) (.ops A_q95_19)))))) (.ops A_q95_20))))
def A_q95 : ACode := (.seq (.seq (.ops A_q95_0) (.block 0 (.loop A_q95_4))) (.seq (.ops A_q95_5) (.block 2 (.loop A_q95_21))))
def T_q95 : FC := ⟨96, A_q95, []⟩
abbrev F_q96 : Nat := 96
def A_q96_0 : LA := [mv 3 0, We 4 3, mv 2 4]
def A_q96_1 : LA := [mv 5 0, mv 6 2, mv 7 2, o_ 8 (.conv .u64 (.t 7)), o_ 9 (.call 127 [(.t 8)]), o_ 10 (.call 126 [(.t 5), (i_ 0), (.t 6), (.t 9)])]
def A_q96 : ACode := (.seq (.ops A_q96_0) (.ops A_q96_1))
def T_q96 : FC := ⟨11, A_q96, []⟩
abbrev F_q97 : Nat := 97
def A_q97_0 : LA := [o_ 2 (.mov (.c (.int .i32 0))), o_ 3 (.mov (.c (.int .u8 0)))]
def A_q97_1 : LA := [mv 7 0, Wc 8 7, Wf 9 1 8, Wl 10 9, mv 4 10]
def A_q97_2 : LA := [mv 11 0, o_ 12 (.call 79 [(.t 11)]), mv 5 12]
def A_q97_3 : LA := [mv 13 0, Wc 14 13, Wf 15 3 14, Wl 16 15, Wi 17 .neq 16 0]
def A_q97_4 : LA := [mv 18 5, o_ 19 (.bini .and (.t 18) (.c (.int .u64 7))), o_ 20 (.conv .u8 (.t 19)), mv 6 20]
def A_q97_5 : LA := [mv 21 5, o_ 22 (.bini .gtr (.t 21) (.c (.int .u64 4294967295))), mv 23 22, Whm 24 5 23, Wh 25 (.bini .shr (.t 24) (.c (.int .u64 3))) 23, Wh 26 (.bini .eql (.t 25) (.c (.int .u64 0))) 23, Wq 27 23 26, mv 28 27, Whm 29 6 28, Wh 30 (.bini .gtr (.t 29) (.c (.int .u8 5))) 28, Wq 31 28 30]
def A_q97_6 : LA := [mv 39 5, o_ 40 (.bini .shr (.t 39) (.c (.int .u64 3))), o_ 41 (.conv .i32 (.t 40)), mv 42 6, mv 2 41, mv 3 42]
def A_q97 : ACode := (.seq (.ops A_q97_0) (.seq (.ops A_q97_1) (.seq (.ops A_q97_2) (.seq (.seq (.ops A_q97_3) (.cond (.t 17) .bad .skip)) (.seq (.ops A_q97_4) (.seq (.seq (.ops A_q97_5) (.cond (.t 31) .bad .skip)) (.seq (.ops A_q97_6) .ret)))))))
def T_q97 : FC := ⟨43, A_q97, [.tmp 2, .tmp 3]⟩
abbrev F_q98 : Nat := 98
def A_q98_0 : LA := [mv 10 0, Wc 11 10, Wf 12 1 11, Wl 13 12, mv 9 13]
def A_q98_1 : LA := [mv 15 1, o_ 16 (.bini .lss (.t 15) (.c (.int .i32 1))), mv 17 16, Whm 18 1 17, Wh 19 (.bini .gtr (.t 18) (.c (.int .i32 536870911))) 17, Wq 20 17 19, mv 21 20, Whm 22 2 21, Wh 23 (.bini .gtr (.t 22) (.c (.int .u8 5))) 21, Wq 24 21 23, mv 14 24]
def A_q98_2 : LA := [mv 32 2, o_ 33 (.bini .eql (.t 32) (.c (.int .u8 4))), mv 31 33]
def A_q98_3 : LA := [mv 40 0, Wc 41 40, Wf 42 3 41, Wl 43 42, Wi 44 .eql 43 0]
def A_q98_4 : LA := [mv 45 0, mv 46 1, mv 47 2, mv 48 3, o_ 49 (.call 128 [(.t 45), (.t 46), (.t 47), (.t 48)])]
def A_q98_5 : LA := [mv 50 0, Wc 51 50, Wf 52 3 51, Wl 53 52, Wi 54 .neq 53 0]
def A_q98_6 : LA := [mv 55 0, mv 56 9, Wc 57 55, Wf 58 1 57, Ws 1 58 56]
def A_q98_7 : LA := [mv 59 0, Wc 60 59, Wf 61 0 60, Wl 62 61, mv 63 9, mv 64 0, Wc 65 64, Wf 66 1 65, Wl 67 66, o_ 68 (.slcl 5 1 (.t 62) (some (.t 63)) (some (.t 67)) none), o_ 69 (.call 30 [(.t 68)]), mv 8 69]
def A_q98 : ACode := (.seq (.ops [Wn 8]) (.seq (.ops A_q98_0) (.seq (.block 0 (.seq (.ops A_q98_1) (.cond (.t 14) .bad (.seq (.ops A_q98_2) (.cond (.t 31) .bad .skip))))) (.seq (.seq (.ops A_q98_3) (.cond (.t 44) (.ops A_q98_4) .bad)) (.seq (.seq (.ops A_q98_5) (.cond (.t 54) (.seq (.ops A_q98_6) (.seq (.ops [Wn 8]) .ret)) .skip)) (.seq (.alts [59, 60, 61, 62, 63, 64, 65, 66, 67, 68, 69, 8] [A_q98_7]) .ret))))))
def T_q98 : FC := ⟨70, A_q98, [.tmp 8]⟩
abbrev F_q99 : Nat := 99
def A_q99_0 : LA := [o_ 3 (.box 84 3 (.t 1)), o_ 4 (.box 84 3 (.c (.agg [.str [], .nils, .nils]))), Wm 5 0]
def A_q99_1 : LA := [mv 9 0, Wd 10 3 3, o_ 11 (.call 129 [(.t 9), (.t 10)]), mv 8 11, Wx 12 0 8, Wx 13 1 8, mv 6 12, mv 7 13]
def A_q99_2 : LA := [mv 14 6, Wi 15 .neq 14 0]
def A_q99_3 : LA := [mv 18 0, Wd 19 3 3, o_ 20 (.call 130 [(.t 18), (.t 19)]), Ws 3 4 20, Wm 5 0]
def A_q99 : ACode := (.seq (.ops A_q99_0) (.seq (.seq (.ops A_q99_1) (.seq (.ops A_q99_2) (.cond (.t 15) .bad .skip))) (.seq (.ops A_q99_3) .ret)))
def T_q99 : FC := ⟨21, A_q99, [.cella 4 3, .tmp 5]⟩
abbrev F_q100 : Nat := 100
def A_q100 : ACode := (.seq (.recv (some 6) []) (.block 0 (.seq (.ops [o_ 8 (.isnil .ic false (.t 6))]) (.cond (.t 8) (.ops [mv 3 6]) .bad))))
def T_q100 : FC := ⟨17, A_q100, []⟩
abbrev F_q101 : Nat := 101
def A_q101_0 : LA := [o_ 1 (.build [.nilf, .nilf] [(0, 1, (.f 131)), (1, 1, (.f 132))]), o_ 2 (.build [.nilf, .nilf] [(0, 1, (.f 133)), (1, 1, (.f 135))]), o_ 3 (.build [.nilf, .nilf] [(0, 1, (.f 136)), (1, 1, (.f 137))]), o_ 4 (.bslice 317 2 3 [.nilf, .nilf] [(0, 2, (.t 1)), (2, 2, (.t 2)), (4, 2, (.t 3))]), mv 0 4]
def A_q101 : ACode := (.seq (.ops [Wn 0]) (.seq (.ops A_q101_0) .ret))
def T_q101 : FC := ⟨5, A_q101, [.tmp 0]⟩
abbrev F_q102 : Nat := 102
def A_q102_0 : LA := [o_ 3 (.box 84 3 (.t 1)), o_ 4 (.mov (.c (.nilp)))]
def A_q102_1 : LA := [mv 16 0, Wf 17 0 3, Wl 18 17, o_ 19 (.call 138 [(.t 16), (.t 18), (i_ 0)]), mv 5 19]
def A_q102_2 : LA := [mv 20 5, Wf 21 2 3, Wl 22 21, o_ 23 (.call 30 [(.t 22)]), Wc 24 20, Wf 25 2 24, Ws 1 25 23]
def A_q102_3 : LA := [Wf 26 1 3, Wl 27 26, We 28 27, Wm 29 0]
def A_q102_4 : LA := [Wa 31 89 3 27 29, Wd 32 3 31, o_ 7 (.box 89 3 (.c (.agg [.int .i32 (0), .nils, .nils]))), Ws 3 7 32]
def A_q102_5 : LA := [mv 34 5, Wc 35 34, Wf 36 0 35, Wl 37 36, Wf 38 0 7, Wl 39 38, o_ 40 (.call 139 [(.t 37), (.t 39)]), mv 33 40, Wx 41 0 33, Wx 42 1 33, o_ 8 (.box 204 9 (.c (.agg [.int .i32 (0), .str [], .str [], .int .u8 (0), .int .u8 (0), .int .u8 (0), .bool false, .int .i64 (0), .str []]))), Ws 9 8 41, mv 9 42]
def A_q102_6 : LA := [mv 34 5, Wc 35 34, Wf 36 0 35, Wl 37 36, Wf 38 0 7, Wl 39 38, o_ 8 (.box 204 9 (.c (.agg [.int .i32 (0), .str [], .str [], .int .u8 (0), .int .u8 (0), .int .u8 (0), .bool false, .int .i64 (0), .str []]))), o_ 40 (.call 139 [(.t 37), (.t 39)]), mv 33 40, Wx 41 0 33, Wx 42 1 33, Ws 9 8 41, mv 9 42]
def A_q102_7 : LA := [mv 43 5, Wd 44 9 8, o_ 45 (.call 140 [(.t 43), (.t 44)]), mv 10 45]
def A_q102_8 : LA := [mv 46 10, Wf 47 1 7, Wl 48 47, o_ 49 (.call 141 [(.t 48)]), Wc 50 46, Wf 51 9 50, Ws 1 51 49]
def A_q102_9 : LA := [Wf 52 1 7, Wl 53 52, We 54 53, Wm 55 0]
def A_q102_10 : ACode := (.seq (.ops [Wb 56 .lss 55 54]) (.seq (.cond (.t 56) .bad (.exit 2)) .bad))
def A_q102_11 : LA := [Wf 71 2 7, Wl 72 71, We 73 72, Wm 74 0]
def A_q102_12 : LA := [Wa 76 93 3 72 74, Wd 77 3 76, o_ 14 (.box 93 3 (.c (.agg [.int .u64 (0), .str [], .nils]))), Ws 3 14 77]
def A_q102_13 : LA := [Wd 78 3 14, o_ 79 (.build [.int .u64 (0), .str [], .nils, .nilp] [(0, 3, (.t 78))]), o_ 15 (.box 335 4 (.c (.agg [.int .u64 (0), .str [], .nils, .nilp]))), Ws 4 15 79]
def A_q102_14 : LA := [Wf 80 2 14, Wl 81 80, We 82 81, Wi 83 .gtr 82 0]
def A_q102_15 : LA := [mv 91 10, mv 92 10, Wc 93 92, Wf 94 10 93, Wl 95 94, Wd 96 4 15, o_ 97 (.bslice 335 4 1 [.int .u64 (0), .str [], .nils, .nilp] [(0, 4, (.t 96))]), o_ 98 (.app 335 4 56 (.t 95) (.t 97)), Wc 99 91, Wf 100 10 99, Ws 1 100 98]
def A_q102_16 : LA := [Wi 101 .add 74 1, mv 74 101]
def A_q102_17 : ACode := (.seq (.ops [Wb 75 .lss 74 73]) (.seq (.cond (.t 75) .skip (.exit 4)) (.seq (.block 5 (.seq (.ops A_q102_12) (.seq (.ops A_q102_13) (.seq (.seq (.ops A_q102_14) (.cond (.t 83) .bad .skip)) (.alts [91, 92, 93, 94, 95, 96, 97, 98, 99, 100] [A_q102_15]))))) (.ops A_q102_16))))
def A_q102_18 : LA := [Wi 102 .add 29 1, mv 29 102]
def A_q102_19 : ACode := (.seq (.ops [Wb 30 .lss 29 28]) (.seq (.cond (.t 30) .skip (.exit 0)) (.seq (.block 1 (.seq (.ops A_q102_4) (.seq (.alts [34, 35, 36, 37, 38, 39, 40, 33, 41, 42, 8, 9] [A_q102_5, A_q102_6]) (.seq (.ops A_q102_7) (.seq (.ops A_q102_8) (.seq (.seq (.ops A_q102_9) (.block 2 (.loop A_q102_10))) (.seq (.ops A_q102_11) (.block 4 (.loop A_q102_17))))))))) (.ops A_q102_18))))
def A_q102_20 : LA := [mv 103 5, mv 4 103]
def A_q102 : ACode := (.seq (.ops A_q102_0) (.seq (.ops A_q102_1) (.seq (.ops A_q102_2) (.seq (.seq (.ops A_q102_3) (.block 0 (.loop A_q102_19))) (.seq (.ops A_q102_20) .ret)))))
def T_q102 : FC := ⟨104, A_q102, [.tmp 4]⟩
abbrev F_q103 : Nat := 103
def A_q103_0 : LA := [mv 14 2, o_ 15 (.call 142 [(.t 14)]), Wi 16 .gtr 15 0]
def A_q103_1 : LA := [mv 18 2, o_ 19 (.call 143 [(.t 18)]), mv 17 19, Wx 20 0 17, Wx 21 1 17, Wx 22 2 17, o_ 9 (.box 220 1 (.c (.int .u8 0))), mv 8 20, Ws 1 9 21, mv 10 22]
def A_q103_2 : LA := [mv 24 1, Wc 25 24, Wf 26 0 25, Wl 27 26, mv 28 8, o_ 29 (.call 139 [(.t 27), (.t 28)]), mv 23 29, Wx 30 0 23, Wx 31 1 23, o_ 11 (.box 204 9 (.c (.agg [.int .i32 (0), .str [], .str [], .int .u8 (0), .int .u8 (0), .int .u8 (0), .bool false, .int .i64 (0), .str []]))), Ws 9 11 30, mv 12 31]
def A_q103_3 : LA := [mv 33 0, Wc 34 33, Wf 35 2 34, Wl 36 35, o_ 37 (.mkfn 145 [] [(.t 11), (.t 9)]), o_ 38 (.call 144 [(.t 36), (.t 37)]), mv 13 38]
def A_q103_4 : LA := [mv 39 13, Wi 40 .geq 39 0]
def A_q103_5 : LA := [mv 41 0, Wc 42 41, Wf 43 2 42, Wl 44 43, mv 45 13, Wa 46 317 2 44 45, Wf 47 1 46, Wl 48 47, mv 49 0, mv 50 1, Wd 51 9 11, mv 52 2, mv 53 3, mv 54 10, o_ 55 (.callv (.t 48) [(.t 49), (.t 50), (.t 51), (.t 52), (.t 53), (.t 54)])]
def A_q103_6 : ACode := (.seq (.seq (.ops A_q103_0) (.cond (.t 16) .skip (.exit 0))) (.block 1 (.seq (.ops A_q103_1) (.seq (.ops A_q103_2) (.seq (.ops [Wm 13 (-1)]) (.seq (.seq (.ops [mv 32 12]) (.cond (.t 32) (.ops A_q103_3) .bad)) (.seq (.seq (.ops A_q103_4) (.cond (.t 40) (.seq (.alts [41, 42, 43, 44, 45, 46, 47, 48, 49, 50, 51, 52, 53, 54, 55] [A_q103_5]) (.exit 1)) .bad)) .bad)))))))
def A_q103 : ACode := (.block 0 (.loop A_q103_6))
def T_q103 : FC := ⟨80, A_q103, []⟩
abbrev F_q104 : Nat := 104
def A_q104_0 : LA := [mv 13 0, Wc 14 13, Wf 15 0 14, Wl 16 15, mv 18 0, Wc 19 18, Wf 20 2 19, o_ 17 (.call 147 [(.t 16)]), Wl 21 20, o_ 22 (.build [.str [], .nils, .nils] [(0, 1, (.t 17)), (2, 1, (.t 21))]), o_ 3 (.box 84 3 (.c (.agg [.str [], .nils, .nils]))), Ws 3 3 22]
def A_q104_1 : LA := [mv 13 0, Wc 14 13, Wf 15 0 14, Wl 16 15, mv 18 0, Wc 19 18, Wf 20 2 19, Wl 21 20, o_ 17 (.call 147 [(.t 16)]), o_ 22 (.build [.str [], .nils, .nils] [(0, 1, (.t 17)), (2, 1, (.t 21))]), o_ 3 (.box 84 3 (.c (.agg [.str [], .nils, .nils]))), Ws 3 3 22]
def A_q104_2 : LA := [mv 13 0, Wc 14 13, Wf 15 0 14, Wl 16 15, mv 18 0, Wc 19 18, Wf 20 2 19, Wl 21 20, o_ 3 (.box 84 3 (.c (.agg [.str [], .nils, .nils]))), o_ 17 (.call 147 [(.t 16)]), o_ 22 (.build [.str [], .nils, .nils] [(0, 1, (.t 17)), (2, 1, (.t 21))]), Ws 3 3 22]
def A_q104_3 : LA := [mv 13 0, Wc 14 13, Wf 15 0 14, Wl 16 15, mv 18 0, Wc 19 18, Wf 20 2 19, o_ 3 (.box 84 3 (.c (.agg [.str [], .nils, .nils]))), o_ 17 (.call 147 [(.t 16)]), Wl 21 20, o_ 22 (.build [.str [], .nils, .nils] [(0, 1, (.t 17)), (2, 1, (.t 21))]), Ws 3 3 22]
def A_q104_4 : LA := [mv 13 0, Wc 14 13, Wf 15 0 14, Wl 16 15, mv 18 0, Wc 19 18, Wf 20 2 19, o_ 3 (.box 84 3 (.c (.agg [.str [], .nils, .nils]))), Wl 21 20, o_ 17 (.call 147 [(.t 16)]), o_ 22 (.build [.str [], .nils, .nils] [(0, 1, (.t 17)), (2, 1, (.t 21))]), Ws 3 3 22]
def A_q104_5 : LA := [mv 23 0, Wc 24 23, Wf 25 1 24, Wl 26 25, o_ 27 (.call 149 [(.t 26)]), o_ 28 (.call 148 [(.t 27)]), We 29 28, Wm 30 0]
def A_q104_6 : LA := [Wa 32 21 1 28 30, Wl 33 32, mv 5 33]
def A_q104_7 : LA := [mv 34 0, Wc 35 34, Wf 36 1 35, Wl 37 36, mv 38 5, o_ 39 (.mlook .i (.nilp) false (.t 37) (.t 38)), o_ 6 (.box 325 1 (.c (.nilp))), Ws 1 6 39]
def A_q104_8 : LA := [Wl 40 6, Wc 41 40, Wf 42 10 41, Wl 43 42, We 44 43, o_ 45 (.mkslice 3 1 8 [.int .i64 0] (.t 44) (.t 44)), mv 7 45]
def A_q104_9 : LA := [mv 46 7, We 47 46, Wm 48 0]
def A_q104_10 : LA := [mv 50 48, mv 8 50]
def A_q104_11 : LA := [mv 51 7, mv 52 8, mv 53 8, Wa 54 3 1 51 52, Ws 1 54 53]
def A_q104_12 : LA := [Wi 55 .add 48 1, mv 48 55]
def A_q104_13 : ACode := (.seq (.ops [Wb 49 .lss 48 47]) (.seq (.cond (.t 49) .skip (.exit 2)) (.seq (.block 3 (.seq (.ops A_q104_10) (.ops A_q104_11))) (.ops A_q104_12))))
def A_q104_14 : LA := [Wl 56 6, Wc 57 56, Wf 58 0 57, Wf 59 3 58, Wl 60 59, o_ 61 (.bini .eql (.t 60) (.c (.int .u8 4)))]
def A_q104_15 : LA := [mv 65 5, o_ 66 (.build [.int .i32 (0), .nils, .nils] [(0, 1, (.t 65))]), o_ 9 (.box 89 3 (.c (.agg [.int .i32 (0), .nils, .nils]))), Ws 3 9 66]
def A_q104_16 : LA := [mv 67 7, We 68 67, Wm 69 0]
def A_q104_17 : LA := [Wa 71 3 1 67 69, Wl 72 71, mv 11 72]
def A_q104_18 : LA := [Wl 73 6, Wc 74 73, Wf 75 10 74, Wl 76 75, mv 77 11, Wa 78 335 4 76 77, Wf 79 0 78, Wd 80 3 79, o_ 12 (.box 93 3 (.c (.agg [.int .u64 (0), .str [], .nils]))), Ws 3 12 80]
def A_q104_19 : LA := [Wl 81 6, Wc 82 81, Wf 83 10 82, Wl 84 83, mv 85 11, Wa 86 335 4 84 85, Wf 87 3 86, Wl 88 87, o_ 89 (.isnil .pt true (.t 88))]
def A_q104_20 : LA := [Wf 101 2 9, Wl 102 101, Wd 103 3 12, o_ 104 (.bslice 93 3 1 [.int .u64 (0), .str [], .nils] [(0, 3, (.t 103))]), o_ 105 (.app 93 3 48 (.t 102) (.t 104)), Wf 106 2 9, Ws 1 106 105]
def A_q104_21 : LA := [Wl 107 6, Wc 108 107, Wf 109 0 108, Wf 110 3 109, Wl 111 110, o_ 112 (.bini .eql (.t 111) (.c (.int .u8 4)))]
def A_q104_22 : LA := [Wi 125 .add 69 1, mv 69 125]
def A_q104_23 : ACode := (.seq (.ops [Wb 70 .lss 69 68]) (.seq (.cond (.t 70) .skip (.exit 4)) (.seq (.block 5 (.seq (.ops A_q104_17) (.seq (.ops A_q104_18) (.seq (.seq (.ops A_q104_19) (.cond (.t 89) .bad .skip)) (.seq (.ops A_q104_20) (.seq (.ops A_q104_21) (.cond (.t 112) .bad .skip))))))) (.ops A_q104_22))))
def A_q104_24 : LA := [Wf 126 2 9, Wl 127 126, We 128 127, Wi 129 .eql 128 0, mv 130 129, Wh 131 (.ld1 (.t 6)) 130, Wh 132 (.nilc (.t 131)) 130, Wh 133 (.faddr 0 (.t 132)) 130, Wh 134 (.lda 9 (.t 133)) 130, Wh 135 (.call 153 [(.t 134)]) 130, Whm 136 135 130, Wgf 137 2 9 136, Wgl 138 137 136, g_ 139 (.iaddr 93 3 (.t 138) (i_ 0)) 136, Wgf 140 0 139 136, Wgl 141 140 136, g_ 142 (.bini .eql (.t 141) (.c (.int .u64 0))) 136, Wh 143 (.pick (.t 136) (.t 142) (.c (.bool false))) 130, Whm 144 143 130, Wgf 145 2 9 144, Wgl 146 145 144, g_ 147 (.iaddr 93 3 (.t 146) (i_ 0)) 144, Wgf 148 1 147 144, Wgl 149 148 144, g_ 150 (.bins .eql (.t 149) (.c (.str []))) 144, Wh 151 (.pick (.t 144) (.t 150) (.c (.bool false))) 130, Wq 152 130 151]
def A_q104_25 : LA := [Wf 153 1 3, Wl 154 153, Wd 155 3 9, o_ 156 (.bslice 89 3 1 [.int .i32 (0), .nils, .nils] [(0, 3, (.t 155))]), o_ 157 (.app 89 3 56 (.t 154) (.t 156)), Wf 158 1 3, Ws 1 158 157]
def A_q104_26 : LA := [Wi 159 .add 30 1, mv 30 159]
def A_q104_27 : ACode := (.seq (.ops [Wb 31 .lss 30 29]) (.seq (.cond (.t 31) .skip (.exit 0)) (.seq (.block 1 (.seq (.ops A_q104_6) (.seq (.ops A_q104_7) (.seq (.ops A_q104_8) (.seq (.seq (.ops A_q104_9) (.block 2 (.loop A_q104_13))) (.seq (.seq (.ops A_q104_14) (.cond (.t 61) .bad .skip)) (.seq (.ops A_q104_15) (.seq (.seq (.ops A_q104_16) (.block 4 (.loop A_q104_23))) (.seq (.seq (.ops A_q104_24) (.cond (.t 152) .bad .skip)) (.ops A_q104_25)))))))))) (.ops A_q104_26))))
def A_q104_28 : LA := [Wd 160 3 3, Ws 3 2 160]
def A_q104 : ACode := (.seq (.ops [o_ 2 (.box 84 3 (.c (.agg [.str [], .nils, .nils])))]) (.seq (.alts [13, 14, 15, 16, 17, 18, 19, 20, 21, 22, 3] [A_q104_0, A_q104_1, A_q104_2, A_q104_3, A_q104_4]) (.seq (.seq (.ops A_q104_5) (.block 0 (.loop A_q104_27))) (.seq (.ops A_q104_28) .ret))))
def T_q104 : FC := ⟨161, A_q104, [.cella 2 3]⟩
abbrev F_q105 : Nat := 105
def A_q105_0 : LA := [mv 3 0, o_ 4 (.bini .geq (.t 3) (.c (.int .u64 4294967296)))]
def A_q105_1 : LA := [mv 7 0, o_ 8 (.bini .geq (.t 7) (.c (.int .u64 65536)))]
def A_q105_2 : LA := [mv 13 0, o_ 14 (.bini .geq (.t 13) (.c (.int .u64 256)))]
def A_q105_3 : LA := [mv 19 2, mv 20 0, o_ 21 (.conv .u8 (.t 20)), o_ 22 (.idxs (.c (.str [0, 1, 2, 2, 3, 3, 3, 3, 4, 4, 4, 4, 4, 4, 4, 4, 5, 5, 5, 5, 5, 5, 5, 5, 5, 5, 5, 5, 5, 5, 5, 5, 6, 6, 6, 6, 6, 6, 6, 6, 6, 6, 6, 6, 6, 6, 6, 6, 6, 6, 6, 6, 6, 6, 6, 6, 6, 6, 6, 6, 6, 6, 6, 6, 7, 7, 7, 7, 7, 7, 7, 7, 7, 7, 7, 7, 7, 7, 7, 7, 7, 7, 7, 7, 7, 7, 7, 7, 7, 7, 7, 7, 7, 7, 7, 7, 7, 7, 7, 7, 7, 7, 7, 7, 7, 7, 7, 7, 7, 7, 7, 7, 7, 7, 7, 7, 7, 7, 7, 7, 7, 7, 7, 7, 7, 7, 7, 7, 8, 8, 8, 8, 8, 8, 8, 8, 8, 8, 8, 8, 8, 8, 8, 8, 8, 8, 8, 8, 8, 8, 8, 8, 8, 8, 8, 8, 8, 8, 8, 8, 8, 8, 8, 8, 8, 8, 8, 8, 8, 8, 8, 8, 8, 8, 8, 8, 8, 8, 8, 8, 8, 8, 8, 8, 8, 8, 8, 8, 8, 8, 8, 8, 8, 8, 8, 8, 8, 8, 8, 8, 8, 8, 8, 8, 8, 8, 8, 8, 8, 8, 8, 8, 8, 8, 8, 8, 8, 8, 8, 8, 8, 8, 8, 8, 8, 8, 8, 8, 8, 8, 8, 8, 8, 8, 8, 8, 8, 8, 8, 8, 8, 8, 8, 8, 8, 8, 8, 8, 8, 8, 8, 8, 8, 8, 8, 8])) (.t 21)), o_ 23 (.conv .i64 (.t 22)), Wb 24 .add 19 23, mv 2 24]
def A_q105 : ACode := (.seq (.ops [Wm 2 0]) (.seq (.seq (.ops A_q105_0) (.cond (.t 4) .bad .skip)) (.seq (.seq (.ops A_q105_1) (.cond (.t 8) .bad .skip)) (.seq (.seq (.ops A_q105_2) (.cond (.t 14) .bad .skip)) (.seq (.ops A_q105_3) .ret)))))
def T_q105 : FC := ⟨25, A_q105, [.tmp 2]⟩
abbrev F_q106 : Nat := 106
def A_q106_0 : LA := [mv 6 0, Wc 7 6, Wf 8 3 7, Wl 9 8, Wi 10 .eql 9 0]
def A_q106_1 : LA := [mv 11 0, mv 12 0, mv 13 1, mv 14 2, Wc 15 11, Wf 16 3 15, Ws 1 16 13, Wc 17 12, Wf 18 4 17, Ws 1 18 14]
def A_q106 : ACode := (.seq (.ops A_q106_0) (.cond (.t 10) (.ops A_q106_1) .bad))
def T_q106 : FC := ⟨19, A_q106, []⟩
abbrev F_q107 : Nat := 107
def A_q107_0 : LA := [mv 3 0, o_ 4 (.isnilu false (.t 3))]
def A_q107 : ACode := (.seq (.ops [Wn 2]) (.seq (.seq (.ops A_q107_0) (.cond (.t 4) (.seq (.ops [Wn 2]) .ret) .bad)) .bad))
def T_q107 : FC := ⟨8, A_q107, [.tmp 2]⟩
abbrev F_q108 : Nat := 108
def A_q108_0 : LA := [Wn 4, Wn 5]
def A_q108_1 : LA := [mv 12 0, We 13 12, Wm 14 0]
def A_q108_2 : LA := [Wa 16 150 7 12 14, Wd 17 7 16, o_ 8 (.box 150 7 (.c (.agg [.str [], .nils, .nils, .nils, .nils, .nils, .nils]))), Ws 7 8 17]
def A_q108_3 : LA := [mv 18 6, Wd 19 7 8, o_ 20 (.call 154 [(.t 19)]), o_ 21 (.bslice 150 7 1 [.str [], .nils, .nils, .nils, .nils, .nils, .nils] [(0, 7, (.t 20))]), o_ 22 (.app 150 7 160 (.t 18) (.t 21)), mv 6 22]
def A_q108_4 : LA := [Wi 23 .add 14 1, mv 14 23]
def A_q108_5 : ACode := (.seq (.ops [Wb 15 .lss 14 13]) (.seq (.cond (.t 15) .skip (.exit 0)) (.seq (.block 1 (.seq (.ops A_q108_2) (.ops A_q108_3))) (.ops A_q108_4))))
def A_q108_6 : LA := [mv 24 1, We 25 24, Wm 26 0]
def A_q108_7 : LA := [Wa 28 161 5 24 26, Wd 29 5 28, o_ 11 (.box 161 5 (.c (.agg [.str [], .nils, .bool false, .nils, .nils]))), Ws 5 11 29]
def A_q108_8 : LA := [mv 30 9, Wd 31 5 11, o_ 32 (.call 155 [(.t 31)]), o_ 33 (.bslice 161 5 1 [.str [], .nils, .bool false, .nils, .nils] [(0, 5, (.t 32))]), o_ 34 (.app 161 5 96 (.t 30) (.t 33)), mv 9 34]
def A_q108_9 : LA := [Wi 35 .add 26 1, mv 26 35]
def A_q108_10 : ACode := (.seq (.ops [Wb 27 .lss 26 25]) (.seq (.cond (.t 27) .skip (.exit 2)) (.seq (.block 3 (.seq (.ops A_q108_7) (.ops A_q108_8))) (.ops A_q108_9))))
def A_q108_11 : LA := [mv 36 6, mv 37 9, mv 4 36, mv 5 37]
def A_q108 : ACode := (.seq (.ops A_q108_0) (.seq (.ops [Wn 6]) (.seq (.seq (.ops A_q108_1) (.block 0 (.loop A_q108_5))) (.seq (.ops [Wn 9]) (.seq (.seq (.ops A_q108_6) (.block 2 (.loop A_q108_10))) (.seq (.ops A_q108_11) .ret))))))
def T_q108 : FC := ⟨38, A_q108, [.tmp 4, .tmp 5]⟩
abbrev F_q109 : Nat := 109
def A_q109_0 : LA := [mv 4 0, o_ 5 (.call 156 [(.t 4)]), mv 3 5]
def A_q109_1 : LA := [mv 6 3, o_ 7 (.call 96 [(.t 6)])]
def A_q109_2 : LA := [mv 8 3, mv 2 8]
def A_q109 : ACode := (.seq (.ops [Wn 2]) (.seq (.ops A_q109_0) (.seq (.ops A_q109_1) (.seq (.ops A_q109_2) .ret))))
def T_q109 : FC := ⟨9, A_q109, [.tmp 2]⟩
abbrev F_q110 : Nat := 110
def A_q110_0 : LA := [o_ 1 (.box 137 1 (.t 0)), o_ 2 (.mov (.c (.nilf)))]
def A_q110_1 : LA := [o_ 3 (.mkfn 157 [] [(.t 1)]), mv 2 3]
def A_q110 : ACode := (.seq (.ops A_q110_0) (.seq (.ops A_q110_1) .ret))
def T_q110 : FC := ⟨4, A_q110, [.tmp 2]⟩
abbrev F_q111 : Nat := 111
def A_q111 : ACode := (.seq (.recv (some 4) []) (.block 0 (.seq (.ops [o_ 6 (.isnil .ic false (.t 4))]) (.cond (.t 6) (.ops [mv 1 4]) .bad))))
def T_q111 : FC := ⟨12, A_q111, []⟩
abbrev F_q112 : Nat := 112
def A_q112_0 : LA := [Wf 11 0 3, Wl 12 11, Wf 14 0 3, Wl 15 14, o_ 13 (.acall 159 [(.t 12)]), o_ 16 (.acall 158 [(.t 13), (i_ 60), (.t 15)])]
def A_q112_1 : LA := [Wf 17 1 3, Wl 18 17, o_ 19 (.bins .eql (.t 18) (.c (.str []))), mv 20 19, Wh 21 (.faddr 1 (.t 3)) 20, Wh 22 (.ld1 (.t 21)) 20, Wf 25 1 3, Wl 26 25, Wh 23 (.acall 160 [(.t 22)]) 20, Wq 24 20 23, o_ 27 (.acall 158 [(.t 24), (i_ 60), (.t 26)])]
def A_q112_2 : LA := [Wf 28 2 3, Wl 29 28, We 30 29, Wi 31 .leq 30 256, Wf 32 0 3, Wl 33 32, o_ 34 (.call 158 [(.t 31), (i_ 68), (.t 33)])]
def A_q112_3 : LA := [o_ 35 (.mkmap), mv 4 35]
def A_q112_4 : LA := [Wf 36 2 3, Wl 37 36, We 38 37, Wm 39 0]
def A_q112_5 : ACode := (.seq (.ops [Wb 40 .lss 39 38]) (.seq (.cond (.t 40) .bad (.exit 0)) .bad))
def A_q112_6 : LA := [Wf 63 3 3, Wl 64 63, We 65 64, Wm 66 0]
def A_q112_7 : LA := [Wa 68 150 7 64 66, Wd 69 7 68, o_ 8 (.box 150 7 (.c (.agg [.str [], .nils, .nils, .nils, .nils, .nils, .nils]))), Ws 7 8 69]
def A_q112_8 : LA := [mv 70 0, Wd 71 7 8, Wf 72 1 3, Wl 73 72, o_ 74 (.call 161 [(.t 70), (.t 71), (.t 73), (i_ 0)])]
def A_q112_9 : LA := [Wi 75 .add 66 1, mv 66 75]
def A_q112_10 : ACode := (.seq (.ops [Wb 67 .lss 66 65]) (.seq (.cond (.t 67) .skip (.exit 2)) (.seq (.block 3 (.seq (.ops A_q112_7) (.ops A_q112_8))) (.ops A_q112_9))))
def A_q112_11 : LA := [Wf 76 4 3, Wl 77 76, We 78 77, Wm 79 0]
def A_q112_12 : LA := [Wa 81 161 5 77 79, Wd 82 5 81, o_ 10 (.box 161 5 (.c (.agg [.str [], .nils, .bool false, .nils, .nils]))), Ws 5 10 82]
def A_q112_13 : LA := [mv 83 0, Wd 84 5 10, Wf 85 1 3, Wl 86 85, o_ 87 (.call 162 [(.t 83), (.t 84), (.t 86)])]
def A_q112_14 : LA := [Wi 88 .add 79 1, mv 79 88]
def A_q112_15 : ACode := (.seq (.ops [Wb 80 .lss 79 78]) (.seq (.cond (.t 80) .skip (.exit 4)) (.seq (.block 5 (.seq (.ops A_q112_12) (.ops A_q112_13))) (.ops A_q112_14))))
def A_q112 : ACode := (.seq (.ops [o_ 3 (.box 74 5 (.t 1))]) (.seq (.alts [11, 12, 13, 14, 15, 16] [A_q112_0]) (.seq (.alts [17, 18, 19, 20, 21, 22, 23, 24, 25, 26, 27] [A_q112_1]) (.seq (.ops A_q112_2) (.seq (.ops A_q112_3) (.seq (.seq (.ops A_q112_4) (.block 0 (.loop A_q112_5))) (.seq (.seq (.ops A_q112_6) (.block 2 (.loop A_q112_10))) (.seq (.ops A_q112_11) (.block 4 (.loop A_q112_15))))))))))
def T_q112 : FC := ⟨89, A_q112, []⟩
abbrev F_q113 : Nat := 113
def A_q113_0 : LA := [o_ 1 (.box 9 1 (.t 0)), o_ 2 (.mov (.c (.nilf)))]
def A_q113_1 : LA := [o_ 3 (.mkfn 163 [] [(.t 1)]), mv 2 3]
def A_q113 : ACode := (.seq (.ops A_q113_0) (.seq (.ops A_q113_1) .ret))
def T_q113 : FC := ⟨4, A_q113, [.tmp 2]⟩
abbrev F_q114 : Nat := 114
def A_q114_0 : LA := [mv 10 0, mv 11 1, o_ 12 (.bslice 9 1 2 [.str []] [(0, 1, (.t 10)), (1, 1, (.t 11))]), o_ 13 (.call 115 [(.t 12)]), mv 9 13]
def A_q114_1 : LA := [Wl 14 3, mv 15 9, mv 16 2, Wf 17 0 4, Wl 18 17, o_ 19 (.build [.str [], .int .u8 (0), .str []] [(0, 1, (.t 15)), (1, 1, (.t 16)), (2, 1, (.t 18))]), o_ 20 (.bslice 201 3 1 [.str [], .int .u8 (0), .str []] [(0, 3, (.t 19))]), o_ 21 (.app 201 3 40 (.t 14) (.t 20)), Ws 1 3 21]
def A_q114_2 : LA := [mv 22 9, mv 8 22]
def A_q114 : ACode := (.seq (.ops [o_ 8 (.mov (.c (.str [])))]) (.seq (.ops A_q114_0) (.seq (.ops A_q114_1) (.seq (.ops A_q114_2) .ret))))
def T_q114 : FC := ⟨23, A_q114, [.tmp 8]⟩
abbrev F_q115 : Nat := 115
def A_q115_0 : LA := [mv 6 0, We 7 6, Wm 8 0]
def A_q115_1 : LA := [Wa 10 9 1 6 8, Wl 11 10, mv 5 11]
def A_q115_2 : LA := [mv 12 5, o_ 13 (.bins .neq (.t 12) (.c (.str [])))]
def A_q115_3 : LA := [mv 14 3, mv 15 5, o_ 16 (.bslice 9 1 1 [.str []] [(0, 1, (.t 15))]), o_ 17 (.app 9 1 16 (.t 14) (.t 16)), mv 3 17]
def A_q115_4 : LA := [Wi 18 .add 8 1, mv 8 18]
def A_q115_5 : ACode := (.seq (.ops [Wb 9 .lss 8 7]) (.seq (.cond (.t 9) .skip (.exit 0)) (.seq (.block 1 (.seq (.ops A_q115_1) (.seq (.ops A_q115_2) (.cond (.t 13) (.ops A_q115_3) .bad)))) (.ops A_q115_4))))
def A_q115_6 : LA := [mv 19 3, o_ 20 (.call 165 [(.t 19), (.c (.str [46]))]), mv 2 20]
def A_q115 : ACode := (.seq (.ops [o_ 2 (.mov (.c (.str [])))]) (.seq (.ops [Wn 3]) (.seq (.seq (.ops A_q115_0) (.block 0 (.loop A_q115_5))) (.seq (.ops A_q115_6) .ret))))
def T_q115 : FC := ⟨21, A_q115, [.tmp 2]⟩
abbrev F_q116 : Nat := 116
def A_q116_0 : LA := [Wl 7 2, mv 8 1, Wf 9 0 3, Wl 10 9, o_ 11 (.callv (.t 7) [(.t 8), (.t 10), (.c (.int .u8 2))])]
def A_q116_1 : LA := [Wf 12 1 3, Wl 13 12, We 14 13, Wm 15 0]
def A_q116_2 : LA := [Wa 17 158 2 13 15, Wd 18 2 17, o_ 6 (.box 158 2 (.c (.agg [.str [], .int .i32 0]))), Ws 2 6 18]
def A_q116_3 : LA := [Wl 19 2, mv 20 1, Wf 21 0 6, Wl 22 21, o_ 23 (.callv (.t 19) [(.t 20), (.t 22), (.c (.int .u8 3))])]
def A_q116_4 : LA := [Wi 24 .add 15 1, mv 15 24]
def A_q116_5 : ACode := (.seq (.ops [Wb 16 .lss 15 14]) (.seq (.cond (.t 16) .skip (.exit 0)) (.seq (.block 1 (.seq (.ops A_q116_2) (.ops A_q116_3))) (.ops A_q116_4))))
def A_q116 : ACode := (.seq (.ops [o_ 3 (.box 161 5 (.t 0))]) (.seq (.ops A_q116_0) (.seq (.ops A_q116_1) (.block 0 (.loop A_q116_5)))))
def T_q116 : FC := ⟨25, A_q116, []⟩
abbrev F_q117 : Nat := 117
def A_q117_0 : LA := [Wl 16 2, mv 17 1, Wf 18 0 5, Wl 19 18, o_ 20 (.callv (.t 16) [(.t 17), (.t 19), (.c (.int .u8 1))]), mv 7 20]
def A_q117_1 : LA := [Wf 21 1 5, Wl 22 21, We 23 22, Wm 24 0]
def A_q117_2 : LA := [Wa 26 154 9 22 24, Wd 27 9 26, o_ 9 (.box 154 9 (.c (.agg [.str [], .int .i32 (0), .int .u8 (0), .int .u8 (0), .str [], .int .u8 (0), .int .i64 (0), .int .u8 (0), .str []]))), Ws 9 9 27]
def A_q117_3 : LA := [Wl 28 2, mv 29 7, Wf 30 0 9, Wl 31 30, o_ 32 (.callv (.t 28) [(.t 29), (.t 31), (.c (.int .u8 4))])]
def A_q117_4 : LA := [Wi 33 .add 24 1, mv 24 33]
def A_q117_5 : ACode := (.seq (.ops [Wb 25 .lss 24 23]) (.seq (.cond (.t 25) .skip (.exit 0)) (.seq (.block 1 (.seq (.ops A_q117_2) (.ops A_q117_3))) (.ops A_q117_4))))
def A_q117_6 : LA := [Wf 34 2 5, Wl 35 34, We 36 35, Wm 37 0]
def A_q117_7 : LA := [Wa 39 9 1 35 37, Wl 40 39, mv 11 40]
def A_q117_8 : LA := [Wl 41 2, mv 42 7, mv 43 11, o_ 44 (.callv (.t 41) [(.t 42), (.t 43), (.c (.int .u8 5))])]
def A_q117_9 : LA := [Wi 45 .add 37 1, mv 37 45]
def A_q117_10 : ACode := (.seq (.ops [Wb 38 .lss 37 36]) (.seq (.cond (.t 38) .skip (.exit 2)) (.seq (.block 3 (.seq (.ops A_q117_7) (.ops A_q117_8))) (.ops A_q117_9))))
def A_q117_11 : LA := [Wf 46 3 5, Wl 47 46, We 48 47, Wm 49 0]
def A_q117_12 : ACode := (.seq (.ops [Wb 50 .lss 49 48]) (.seq (.cond (.t 50) .bad (.exit 4)) .bad))
def A_q117_13 : LA := [Wf 58 4 5, Wl 59 58, We 60 59, Wm 61 0]
def A_q117_14 : ACode := (.seq (.ops [Wb 62 .lss 61 60]) (.seq (.cond (.t 62) .bad (.exit 6)) .bad))
def A_q117 : ACode := (.seq (.ops [o_ 5 (.box 150 7 (.t 0))]) (.seq (.ops A_q117_0) (.seq (.seq (.ops A_q117_1) (.block 0 (.loop A_q117_5))) (.seq (.seq (.ops A_q117_6) (.block 2 (.loop A_q117_10))) (.seq (.seq (.ops A_q117_11) (.block 4 (.loop A_q117_12))) (.seq (.ops A_q117_13) (.block 6 (.loop A_q117_14))))))))
def T_q117 : FC := ⟨70, A_q117, []⟩
abbrev F_q118 : Nat := 118
def A_q118_0 : LA := [mv 4 0, mv 5 0, We 6 5, mv 7 1, o_ 8 (.call 166 [(.t 4), (.t 6), (.t 7)])]
def A_q118 : ACode := (.ops A_q118_0)
def T_q118 : FC := ⟨9, A_q118, []⟩
abbrev F_q119 : Nat := 119
def A_q119_0 : LA := [o_ 2 (.box 201 3 (.t 0)), o_ 3 (.box 201 3 (.t 1)), Wm 4 0]
def A_q119_1 : LA := [Wf 5 0 2, Wl 6 5, Wf 7 0 3, Wl 8 7, Wf 10 1 2, Wl 11 10, Wf 12 1 3, Wl 13 12, o_ 9 (.acall 121 [(.t 6), (.t 8)]), o_ 14 (.acall 122 [(.t 11), (.t 13)]), o_ 15 (.bslice 3 1 2 [.int .i64 0] [(0, 1, (.t 9)), (1, 1, (.t 14))]), o_ 16 (.acall 120 [(.t 15)]), mv 4 16]
def A_q119 : ACode := (.seq (.ops A_q119_0) (.seq (.alts [5, 6, 7, 8, 9, 10, 11, 12, 13, 14, 15, 16, 4] [A_q119_1]) .ret))
def T_q119 : FC := ⟨17, A_q119, [.tmp 4]⟩
abbrev F_q120 : Nat := 120
def A_q120_0 : LA := [mv 6 0, We 7 6, Wm 8 0]
def A_q120_1 : LA := [Wa 10 3 1 6 8, Wl 11 10, mv 5 11]
def A_q120_2 : LA := [mv 12 5, mv 13 3, Wb 14 .neq 12 13]
def A_q120_3 : LA := [mv 15 5, mv 2 15]
def A_q120_4 : LA := [Wi 16 .add 8 1, mv 8 16]
def A_q120_5 : ACode := (.seq (.ops [Wb 9 .lss 8 7]) (.seq (.cond (.t 9) .skip .bad) (.seq (.block 1 (.seq (.ops A_q120_1) (.seq (.ops A_q120_2) (.cond (.t 14) (.seq (.ops A_q120_3) .ret) .bad)))) (.ops A_q120_4))))
def A_q120_6 : LA := [mv 17 3, mv 2 17]
def A_q120 : ACode := (.seq (.ops [Wm 2 0]) (.seq (.ops [Wm 3 0]) (.seq (.seq (.ops A_q120_0) (.block 0 (.loop A_q120_5))) (.seq (.ops A_q120_6) .ret))))
def T_q120 : FC := ⟨18, A_q120, [.tmp 2]⟩
abbrev F_q121 : Nat := 121
def A_q121_0 : LA := [mv 7 0, o_ 8 (.call 167 [(.t 7)]), mv 5 8]
def A_q121_1 : LA := [mv 9 1, o_ 10 (.call 167 [(.t 9)]), mv 6 10]
def A_q121_2 : LA := [mv 14 0, mv 15 1, o_ 16 (.bins .lss (.t 14) (.t 15))]
def A_q121_3 : LA := [mv 17 0, mv 18 1, o_ 19 (.bins .gtr (.t 17) (.t 18))]
def A_q121 : ACode := (.seq (.ops [Wm 4 0]) (.seq (.ops A_q121_0) (.seq (.ops A_q121_1) (.seq (.seq (.ops [mv 11 5]) (.cond (.t 11) .bad .skip)) (.seq (.seq (.ops [mv 13 6]) (.cond (.t 13) .bad .skip)) (.seq (.seq (.ops A_q121_2) (.cond (.t 16) (.seq (.ops [Wm 4 (-1)]) .ret) .skip)) (.seq (.seq (.ops A_q121_3) (.cond (.t 19) (.seq (.ops [Wm 4 1]) .ret) .bad)) .bad)))))))
def T_q121 : FC := ⟨20, A_q121, [.tmp 4]⟩
abbrev F_q122 : Nat := 122
def A_q122_0 : LA := [mv 7 0, o_ 8 (.call 168 [(.t 7)]), mv 5 8]
def A_q122_1 : LA := [mv 9 1, o_ 10 (.call 168 [(.t 9)]), mv 6 10]
def A_q122_2 : LA := [mv 14 0, mv 15 1, Wb 16 .lss 14 15]
def A_q122_3 : LA := [mv 17 0, mv 18 1, Wb 19 .gtr 17 18]
def A_q122 : ACode := (.seq (.ops [Wm 4 0]) (.seq (.ops A_q122_0) (.seq (.ops A_q122_1) (.seq (.seq (.ops [mv 11 5]) (.cond (.t 11) .bad .skip)) (.seq (.seq (.ops [mv 13 6]) (.cond (.t 13) .bad .skip)) (.seq (.seq (.ops A_q122_2) (.cond (.t 16) (.seq (.ops [Wm 4 (-1)]) .ret) .skip)) (.seq (.seq (.ops A_q122_3) (.cond (.t 19) (.seq (.ops [Wm 4 1]) .ret) .skip)) (.seq (.ops [Wm 4 0]) .ret))))))))
def T_q122 : FC := ⟨20, A_q122, [.tmp 4]⟩
abbrev F_q123 : Nat := 123
def A_q123_0 : LA := [mv 13 3, Wc 14 13, Wf 15 3 14, Wl 16 15, o_ 17 (.bini .neq (.t 16) (.c (.int .u8 0))), mv 18 17, Wgm 19 3 18, g_ 20 (.nilc (.t 19)) 18, Wgf 21 3 20 18, Wgl 22 21 18, g_ 23 (.bini .neq (.t 22) (.c (.int .u8 11))) 18, Wp 24 18 23, mv 25 24, Wgm 26 3 25, g_ 27 (.nilc (.t 26)) 25, Wgf 28 3 27 25, Wgl 29 28 25, g_ 30 (.bini .neq (.t 29) (.c (.int .u8 14))) 25, Wp 31 25 30]
def A_q123_1 : LA := [mv 32 2, mv 33 3, Wc 34 33, Wf 35 0 34, Wl 36 35, o_ 37 (.bslice 9 1 2 [.str []] [(0, 1, (.t 32)), (1, 1, (.t 36))]), o_ 38 (.call 115 [(.t 37)]), mv 8 38]
def A_q123_2 : LA := [mv 40 0, mv 41 1, mv 42 2, mv 43 3, Wc 44 43, Wf 45 4 44, Wl 46 45, o_ 47 (.call 169 [(.t 40), (.t 41), (.t 42), (.t 46)]), mv 39 47, Wx 48 0 39, Wx 49 1 39, Wx 50 2 39, mv 9 48, mv 10 49, mv 11 50]
def A_q123_3 : LA := [mv 51 11, Wi 52 .neq 51 0]
def A_q123_4 : LA := [mv 56 10, o_ 57 (.bini .eql (.t 56) (.c (.int .u8 2)))]
def A_q123_5 : LA := [mv 58 3, Wc 59 58, Wf 60 3 59, Wl 61 60, o_ 62 (.bini .neq (.t 61) (.c (.int .u8 0))), mv 63 62, Wgm 64 3 63, g_ 65 (.nilc (.t 64)) 63, Wgf 66 3 65 63, Wgl 67 66 63, Wgm 68 12 63, g_ 69 (.bini .neq (.t 67) (.t 68)) 63, Wp 70 63 69, mv 71 70, Whm 72 3 71, Wh 73 (.nilc (.t 72)) 71, Wh 74 (.faddr 7 (.t 73)) 71, Wh 75 (.ld1 (.t 74)) 71, Wh 76 (.bini .eql (.t 75) (.c (.int .u8 1))) 71, Whm 77 76 71, Wgm 78 12 77, g_ 79 (.bini .eql (.t 78) (.c (.int .u8 11))) 77, Wh 80 (.pick (.t 77) (.t 79) (.c (.bool false))) 71, Wq 81 71 80]
def A_q123_6 : LA := [mv 84 3, mv 85 3, mv 86 12, mv 87 9, Wc 88 84, Wf 89 3 88, Ws 1 89 86, Wc 90 85, Wf 91 4 90, Ws 1 91 87]
def A_q123 : ACode := (.seq (.seq (.ops A_q123_0) (.cond (.t 31) .ret .skip)) (.seq (.ops A_q123_1) (.seq (.ops A_q123_2) (.seq (.seq (.ops A_q123_3) (.cond (.t 52) .bad .skip)) (.seq (.ops [o_ 12 (.mov (.c (.int .u8 11)))]) (.seq (.seq (.ops A_q123_4) (.cond (.t 57) (.ops [o_ 12 (.mov (.c (.int .u8 14)))]) .skip)) (.seq (.seq (.ops A_q123_5) (.cond (.t 81) .bad .skip)) (.ops A_q123_6))))))))
def T_q123 : FC := ⟨92, A_q123, []⟩
abbrev F_q124 : Nat := 124
def A_q124_0 : LA := [mv 6 0, We 7 6, Wm 8 0]
def A_q124_1 : ACode := (.seq (.ops [Wb 9 .lss 8 7]) (.seq (.cond (.t 9) .bad (.exit 0)) .bad))
def A_q124 : ACode := (.seq (.ops [Wm 4 0]) (.seq (.seq (.ops A_q124_0) (.block 0 (.loop A_q124_1))) (.seq (.ops [Wm 4 (-1)]) .ret)))
def T_q124 : FC := ⟨19, A_q124, [.tmp 4]⟩
abbrev F_q125 : Nat := 125
def A_q125_0 : LA := [mv 5 0, mv 6 1, o_ 7 (.call 170 [(.t 5), (.t 6)]), Wi 8 .geq 7 0, mv 4 8]
def A_q125 : ACode := (.seq (.ops [Wo 4 false]) (.seq (.ops A_q125_0) .ret))
def T_q125 : FC := ⟨9, A_q125, [.tmp 4]⟩
abbrev F_q126 : Nat := 126
def A_q126_0 : LA := [mv 19 2, mv 20 1, Wb 21 .sub 19 20, mv 10 21]
def A_q126_1 : LA := [mv 22 10, Wi 23 .leq 22 12]
def A_q126_2 : LA := [mv 24 0, mv 25 1, mv 26 2, o_ 27 (.call 171 [(.t 24), (.t 25), (.t 26)])]
def A_q126_3 : ACode := (.block 1 (.seq (.ops A_q126_0) (.seq (.seq (.ops A_q126_1) (.cond (.t 23) (.seq (.ops A_q126_2) .ret) .bad)) .bad)))
def A_q126 : ACode := (.seq (.ops [Wo 8 true]) (.seq (.ops [Wo 9 true]) (.block 0 (.loop A_q126_3))))
def T_q126 : FC := ⟨134, A_q126, []⟩
abbrev F_q127 : Nat := 127
def A_q127_0 : LA := [mv 6 0, o_ 7 (.call 105 [(.t 6)]), mv 2 7]
def A_q127 : ACode := (.seq (.ops [Wm 2 0]) (.seq (.cond (.c (.bool false)) .bad .skip) (.seq (.ops A_q127_0) .ret)))
def T_q127 : FC := ⟨8, A_q127, [.tmp 2]⟩
abbrev F_q128 : Nat := 128
def A_q128_0 : LA := [o_ 10 (.bini .eql (.t 8) (.c (.int .u8 0))), mv 9 10]
def A_q128_1 : LA := [o_ 14 (.bini .eql (.t 8) (.c (.int .u8 1))), mv 13 14]
def A_q128_2 : LA := [o_ 18 (.bini .eql (.t 8) (.c (.int .u8 2))), mv 17 18]
def A_q128_3 : LA := [mv 19 0, o_ 20 (.call 182 [(.t 19)])]
def A_q128 : ACode := (.seq (.ops [mv 8 2]) (.block 0 (.seq (.ops A_q128_0) (.cond (.t 9) .bad (.seq (.ops A_q128_1) (.cond (.t 13) .bad (.seq (.ops A_q128_2) (.cond (.t 17) (.ops A_q128_3) .bad))))))))
def T_q128 : FC := ⟨31, A_q128, []⟩
abbrev F_q129 : Nat := 129
def A_q129_0 : LA := [o_ 3 (.box 84 3 (.t 1)), Wm 4 0, o_ 5 (.mov (.c (.str [])))]
def A_q129_1 : LA := [mv 8 0, o_ 9 (.call 185 []), o_ 10 (.build [.nili, .nilf, .nilf, .nilf, .nilf, .nilf, .nilf, .nilf, .nilf, .nilf, .nilf, .nilf, .nilf, .nilf, .nilf, .nilf, .nilf, .nilf, .nilf, .nilf] [(0, 1, (.t 8)), (1, 19, (.t 9))]), o_ 11 (.box 383 20 (.t 10)), mv 6 11]
def A_q129_2 : LA := [mv 12 6, Wd 13 3 3, o_ 14 (.call 186 [(.t 12), (.t 13), (.c (.str [])), (i_ 1)]), mv 7 14]
def A_q129_3 : LA := [mv 15 7, o_ 16 (.isnil .pt true (.t 15))]
def A_q129_4 : LA := [Wm 4 0, o_ 5 (.mov (.c (.str [])))]
def A_q129 : ACode := (.seq (.ops A_q129_0) (.seq (.ops A_q129_1) (.seq (.seq (.ops A_q129_2) (.seq (.ops A_q129_3) (.cond (.t 16) .bad .skip))) (.seq (.ops A_q129_4) .ret))))
def T_q129 : FC := ⟨25, A_q129, [.tmp 4, .tmp 5]⟩
abbrev F_q130 : Nat := 130
def A_q130_0 : LA := [o_ 3 (.box 84 3 (.t 1)), o_ 4 (.box 84 3 (.c (.agg [.str [], .nils, .nils])))]
def A_q130_1 : LA := [mv 16 0, Wf 17 0 3, Wl 18 17, o_ 19 (.inv [(79, 398)] (.t 16) [(.t 18)]), mv 15 19, Wx 20 0 15, Wx 21 1 15, mv 5 20, mv 6 21]
def A_q130_2 : LA := [Wf 22 0 3, Wl 23 22, Wf 24 2 3, Wl 25 24, o_ 26 (.acall 30 [(.t 25)]), o_ 27 (.build [.str [], .nils, .nils] [(0, 1, (.t 23)), (2, 1, (.t 26))]), o_ 7 (.box 84 3 (.c (.agg [.str [], .nils, .nils]))), Ws 3 7 27]
def A_q130_3 : LA := [Wf 28 1 3, Wl 29 28, We 30 29, Wm 31 0]
def A_q130_4 : LA := [Wa 33 89 3 29 31, Wd 34 3 33, o_ 9 (.box 89 3 (.c (.agg [.int .i32 (0), .nils, .nils]))), Ws 3 9 34]
def A_q130_5 : LA := [mv 36 5, Wf 37 0 9, Wl 38 37, o_ 39 (.call 139 [(.t 36), (.t 38)]), mv 35 39, Wx 40 0 35, Wx 41 1 35, o_ 10 (.box 204 9 (.c (.agg [.int .i32 (0), .str [], .str [], .int .u8 (0), .int .u8 (0), .int .u8 (0), .bool false, .int .i64 (0), .str []]))), Ws 9 10 40, mv 11 41]
def A_q130_6 : LA := [Wd 42 9 10, o_ 43 (.call 187 [(.t 42)]), mv 44 43, Wgf 45 2 9 44, Wgl 46 45 44, g_ 47 (.iaddr 93 3 (.t 46) (i_ 0)) 44, g_ 48 (.lda 3 (.t 47)) 44, g_ 49 (.call 188 [(.t 48)]) 44, Wp 50 44 49]
def A_q130_7 : LA := [Wf 51 0 9, Wl 52 51, Wf 53 1 9, Wl 54 53, o_ 55 (.acall 189 [(.t 54)]), o_ 56 (.build [.int .i32 (0), .nils, .nils] [(0, 1, (.t 52)), (1, 1, (.t 55))]), o_ 12 (.box 89 3 (.c (.agg [.int .i32 (0), .nils, .nils]))), Ws 3 12 56]
def A_q130_8 : LA := [Wf 57 2 9, Wl 58 57, We 59 58, Wm 60 0]
def A_q130_9 : LA := [Wa 62 93 3 58 60, Wd 63 3 62, o_ 14 (.box 93 3 (.c (.agg [.int .u64 (0), .str [], .nils]))), Ws 3 14 63]
def A_q130_10 : LA := [Wf 64 2 12, mv 66 0, Wd 67 3 14, Wl 65 64, o_ 68 (.call 190 [(.t 66), (.t 67)]), o_ 69 (.bslice 93 3 1 [.int .u64 (0), .str [], .nils] [(0, 3, (.t 68))]), o_ 70 (.app 93 3 48 (.t 65) (.t 69)), Wf 71 2 12, Ws 1 71 70]
def A_q130_11 : LA := [Wf 64 2 12, mv 66 0, Wd 67 3 14, o_ 68 (.call 190 [(.t 66), (.t 67)]), Wl 65 64, o_ 69 (.bslice 93 3 1 [.int .u64 (0), .str [], .nils] [(0, 3, (.t 68))]), o_ 70 (.app 93 3 48 (.t 65) (.t 69)), Wf 71 2 12, Ws 1 71 70]
def A_q130_12 : LA := [Wi 72 .add 60 1, mv 60 72]
def A_q130_13 : ACode := (.seq (.ops [Wb 61 .lss 60 59]) (.seq (.cond (.t 61) .skip (.exit 2)) (.seq (.block 3 (.seq (.ops A_q130_9) (.alts [64, 65, 66, 67, 68, 69, 70, 71] [A_q130_10, A_q130_11]))) (.ops A_q130_12))))
def A_q130_14 : LA := [Wf 73 3 10, Wl 74 73, o_ 75 (.bini .eql (.t 74) (.c (.int .u8 4)))]
def A_q130_15 : LA := [Wf 79 1 7, Wl 80 79, Wd 81 3 12, o_ 82 (.bslice 89 3 1 [.int .i32 (0), .nils, .nils] [(0, 3, (.t 81))]), o_ 83 (.app 89 3 56 (.t 80) (.t 82)), Wf 84 1 7, Ws 1 84 83]
def A_q130_16 : LA := [Wi 85 .add 31 1, mv 31 85]
def A_q130_17 : ACode := (.seq (.ops [Wb 32 .lss 31 30]) (.seq (.cond (.t 32) .skip (.exit 0)) (.seq (.block 1 (.seq (.ops A_q130_4) (.seq (.ops A_q130_5) (.seq (.seq (.ops A_q130_6) (.cond (.t 50) .bad .skip)) (.seq (.alts [51, 52, 53, 54, 55, 56, 12] [A_q130_7]) (.seq (.seq (.ops A_q130_8) (.block 2 (.loop A_q130_13))) (.seq (.seq (.ops A_q130_14) (.cond (.t 75) .bad .skip)) (.ops A_q130_15)))))))) (.ops A_q130_16))))
def A_q130_18 : LA := [Wd 86 3 7, Ws 3 4 86]
def A_q130 : ACode := (.seq (.ops A_q130_0) (.seq (.ops A_q130_1) (.seq (.alts [22, 23, 24, 25, 26, 27, 7] [A_q130_2]) (.seq (.seq (.ops A_q130_3) (.block 0 (.loop A_q130_17))) (.seq (.ops A_q130_18) .ret)))))
def T_q130 : FC := ⟨87, A_q130, [.cella 4 3]⟩
abbrev F_q131 : Nat := 131
def A_q131_0 : LA := [o_ 2 (.box 204 9 (.t 0)), Wo 4 false]
def A_q131_1 : LA := [Wf 5 3 2, Wl 6 5, o_ 7 (.bini .eql (.t 6) (.c (.int .u8 4))), mv 8 7, Wgm 9 1 8, g_ 10 (.bini .eql (.t 9) (.c (.int .u8 2))) 8, Wp 11 8 10, mv 4 11]
def A_q131 : ACode := (.seq (.ops A_q131_0) (.seq (.ops A_q131_1) .ret))
def T_q131 : FC := ⟨12, A_q131, [.tmp 4]⟩
abbrev F_q133 : Nat := 133
def A_q133_0 : LA := [o_ 2 (.box 204 9 (.t 0)), Wo 4 false]
def A_q133_1 : LA := [Wf 5 3 2, Wl 6 5, o_ 7 (.bini .neq (.t 6) (.c (.int .u8 4))), mv 8 7, Wgm 9 1 8, Wgf 10 4 2 8, Wgl 11 10 8, g_ 12 (.call 134 [(.t 11)]) 8, g_ 13 (.bini .eql (.t 9) (.t 12)) 8, Wp 14 8 13, mv 4 14]
def A_q133 : ACode := (.seq (.ops A_q133_0) (.seq (.ops A_q133_1) .ret))
def T_q133 : FC := ⟨15, A_q133, [.tmp 4]⟩
abbrev F_q134 : Nat := 134
def A_q134_0 : LA := [o_ 5 (.bini .eql (.t 3) (.c (.int .u8 1))), mv 4 5]
def A_q134_1 : LA := [o_ 6 (.bini .eql (.t 3) (.c (.int .u8 6))), mv 4 6]
def A_q134_2 : LA := [o_ 7 (.bini .eql (.t 3) (.c (.int .u8 16))), mv 4 7]
def A_q134_3 : LA := [o_ 9 (.bini .eql (.t 3) (.c (.int .u8 2))), mv 8 9]
def A_q134_4 : LA := [o_ 10 (.bini .eql (.t 3) (.c (.int .u8 7))), mv 8 10]
def A_q134_5 : LA := [o_ 11 (.bini .eql (.t 3) (.c (.int .u8 15))), mv 8 11]
def A_q134_6 : LA := [o_ 13 (.bini .eql (.t 3) (.c (.int .u8 9))), mv 12 13]
def A_q134 : ACode := (.seq (.ops [o_ 2 (.mov (.c (.int .u8 0)))]) (.seq (.seq (.ops [mv 3 0]) (.block 0 (.seq (.seq (.ops A_q134_0) (.cond (.t 4) .bad (.seq (.ops A_q134_1) (.cond (.t 4) .bad (.ops A_q134_2))))) (.cond (.t 4) .bad (.seq (.seq (.ops A_q134_3) (.cond (.t 8) .bad (.seq (.ops A_q134_4) (.cond (.t 8) .bad (.ops A_q134_5))))) (.cond (.t 8) .bad (.seq (.seq (.ops A_q134_6) (.cond (.t 12) .skip .bad)) (.cond (.t 12) (.seq (.ops [o_ 2 (.mov (.c (.int .u8 2)))]) .ret) .bad)))))))) (.seq (.ops [o_ 2 (.mov (.c (.int .u8 0)))]) .ret)))
def T_q134 : FC := ⟨16, A_q134, [.tmp 2]⟩
abbrev F_q135 : Nat := 135
def A_q135_0 : LA := [Wf 15 4 8, Wl 16 15, o_ 17 (.bini .eql (.t 16) (.c (.int .u8 11)))]
def A_q135_1 : LA := [Wf 55 4 8, Wl 56 55, mv 57 3, o_ 58 (.call 194 [(.t 56), (.t 57)]), Wf 59 0 12, Ws 3 59 58]
def A_q135_2 : LA := [Wf 60 7 8, Wl 61 60, Wi 62 .neq 61 0]
def A_q135_3 : LA := [mv 69 1, Wd 70 9 8, o_ 71 (.call 140 [(.t 69), (.t 70)]), mv 14 71]
def A_q135_4 : LA := [Wf 72 3 8, Wl 73 72, o_ 74 (.bini .neq (.t 73) (.c (.int .u8 3)))]
def A_q135_5 : LA := [mv 75 14, Wc 76 75, Wf 77 10 76, n_ (.st 1 (.t 77) (.c (.nils)))]
def A_q135_6 : LA := [mv 78 14, mv 79 14, Wc 80 79, Wf 81 10 80, Wl 82 81, Wd 83 4 12, o_ 84 (.bslice 335 4 1 [.int .u64 (0), .str [], .nils, .nilp] [(0, 4, (.t 83))]), o_ 85 (.app 335 4 56 (.t 82) (.t 84)), Wc 86 78, Wf 87 10 86, Ws 1 87 85]
def A_q135 : ACode := (.seq (.ops [o_ 8 (.box 204 9 (.t 2))]) (.seq (.ops [o_ 12 (.box 335 4 (.c (.agg [.int .u64 (0), .str [], .nils, .nilp])))]) (.seq (.seq (.ops A_q135_0) (.cond (.t 17) .bad (.ops A_q135_1))) (.seq (.seq (.ops A_q135_2) (.cond (.t 62) .bad .skip)) (.seq (.ops A_q135_3) (.seq (.seq (.ops A_q135_4) (.cond (.t 74) (.ops A_q135_5) .bad)) (.alts [78, 79, 80, 81, 82, 83, 84, 85, 86, 87] [A_q135_6])))))))
def T_q135 : FC := ⟨88, A_q135, []⟩
abbrev F_q138 : Nat := 138
def A_q138_0 : LA := [mv 10 0, Wc 11 10, Wf 12 0 11, Wl 13 12, mv 14 1, o_ 15 (.inv [(79, 398)] (.t 13) [(.t 14)]), mv 9 15, Wx 16 0 9, Wx 17 1 9, mv 7 16, mv 8 17]
def A_q138_1 : LA := [mv 18 8, Wi 19 .neq 18 0]
def A_q138_2 : LA := [mv 24 7, o_ 25 (.mkmap), o_ 26 (.build [.nilp, .nilm, .nils] [(0, 1, (.t 24)), (1, 1, (.t 25))]), o_ 27 (.box 322 3 (.t 26)), mv 6 27]
def A_q138 : ACode := (.seq (.ops [o_ 6 (.mov (.c (.nilp)))]) (.seq (.ops A_q138_0) (.seq (.seq (.ops A_q138_1) (.cond (.t 19) .bad .skip)) (.seq (.ops A_q138_2) .ret))))
def T_q138 : FC := ⟨28, A_q138, [.tmp 6]⟩
abbrev F_q139 : Nat := 139
def A_q139_0 : LA := [o_ 4 (.box 204 9 (.c (.agg [.int .i32 (0), .str [], .str [], .int .u8 (0), .int .u8 (0), .int .u8 (0), .bool false, .int .i64 (0), .str []]))), Wo 5 false]
def A_q139_1 : LA := [mv 9 0, Wc 10 9, Wf 11 3 10, Wl 12 11, mv 13 1, o_ 14 (.mlook .i (.int .i64 0) true (.t 12) (.t 13)), mv 8 14, Wx 15 0 8, Wx 16 1 8, mv 6 15, mv 7 16]
def A_q139_2 : LA := [mv 17 0, mv 18 6, mv 19 7, o_ 20 (.call 198 [(.t 17), (.t 18), (.t 19)]), Wx 21 0 20, Wx 22 1 20, Ws 9 4 21, mv 5 22]
def A_q139 : ACode := (.seq (.ops A_q139_0) (.seq (.ops A_q139_1) (.seq (.ops A_q139_2) .ret)))
def T_q139 : FC := ⟨23, A_q139, [.cella 4 9, .tmp 5]⟩
abbrev F_q140 : Nat := 140
def A_q140_0 : LA := [o_ 3 (.box 204 9 (.t 1)), o_ 4 (.mov (.c (.nilp)))]
def A_q140_1 : LA := [mv 6 0, Wc 7 6, Wf 8 1 7, Wl 9 8, Wf 10 0 3, Wl 11 10, o_ 12 (.mlook .i (.nilp) false (.t 9) (.t 11)), mv 5 12]
def A_q140_2 : LA := [mv 13 5, o_ 14 (.isnil .pt false (.t 13))]
def A_q140_3 : LA := [Wd 15 9 3, o_ 16 (.mkmap), o_ 17 (.build [.int .i32 (0), .str [], .str [], .int .u8 (0), .int .u8 (0), .int .u8 (0), .bool false, .int .i64 (0), .str [], .nils, .nils, .nilm] [(0, 9, (.t 15)), (11, 1, (.t 16))]), o_ 18 (.box 331 12 (.t 17)), mv 5 18]
def A_q140_4 : LA := [mv 19 0, Wc 20 19, Wf 21 1 20, Wl 22 21, Wf 23 0 3, Wl 24 23, mv 25 5, n_ (.mupd .i (.t 22) (.t 24) (.t 25))]
def A_q140_5 : LA := [mv 26 5, mv 4 26]
def A_q140 : ACode := (.seq (.ops A_q140_0) (.seq (.alts [6, 7, 8, 9, 10, 11, 12, 5] [A_q140_1]) (.seq (.seq (.ops A_q140_2) (.cond (.t 14) (.seq (.ops A_q140_3) (.alts [19, 20, 21, 22, 23, 24, 25] [A_q140_4])) .bad)) (.seq (.ops A_q140_5) .ret))))
def T_q140 : FC := ⟨27, A_q140, [.tmp 4]⟩
abbrev F_q141 : Nat := 141
def A_q141_0 : LA := [mv 3 0, o_ 4 (.isnilu false (.t 3))]
def A_q141 : ACode := (.seq (.ops [Wn 2]) (.seq (.seq (.ops A_q141_0) (.cond (.t 4) (.seq (.ops [Wn 2]) .ret) .bad)) .bad))
def T_q141 : FC := ⟨8, A_q141, [.tmp 2]⟩
abbrev F_q142 : Nat := 142
def A_q142_0 : LA := [mv 3 0, Wc 4 3, Wf 5 3 4, Wl 6 5, Wi 7 .neq 6 0]
def A_q142_1 : LA := [mv 8 0, Wc 9 8, Wf 10 2 9, Wl 11 10, mv 12 0, Wc 13 12, Wf 14 1 13, Wl 15 14, Wb 16 .sub 11 15, mv 2 16]
def A_q142 : ACode := (.seq (.ops [Wm 2 0]) (.seq (.seq (.ops A_q142_0) (.cond (.t 7) .bad .skip)) (.seq (.alts [8, 9, 10, 11, 12, 13, 14, 15, 16, 2] [A_q142_1]) .ret)))
def T_q142 : FC := ⟨17, A_q142, [.tmp 2]⟩
abbrev F_q143 : Nat := 143
def A_q143_0 : LA := [o_ 2 (.mov (.c (.int .i32 0))), o_ 3 (.mov (.c (.int .u8 0))), Wm 4 0]
def A_q143_1 : LA := [mv 8 0, o_ 9 (.call 81 [(.t 8)]), mv 5 9]
def A_q143_2 : LA := [mv 11 0, o_ 12 (.call 97 [(.t 11)]), mv 10 12, Wx 13 0 10, Wx 14 1 10, mv 6 13, mv 7 14]
def A_q143_3 : LA := [mv 15 0, o_ 16 (.call 146 [(.t 15)])]
def A_q143_4 : LA := [mv 17 7, o_ 18 (.bini .eql (.t 17) (.c (.int .u8 4)))]
def A_q143_5 : LA := [mv 22 6, mv 23 7, mv 24 5, mv 2 22, mv 3 23, mv 4 24]
def A_q143 : ACode := (.seq (.ops A_q143_0) (.seq (.ops A_q143_1) (.seq (.ops A_q143_2) (.seq (.ops A_q143_3) (.seq (.seq (.ops A_q143_4) (.cond (.t 18) .bad .skip)) (.seq (.ops A_q143_5) .ret))))))
def T_q143 : FC := ⟨25, A_q143, [.tmp 2, .tmp 3, .tmp 4]⟩
abbrev F_q144 : Nat := 144
def A_q144_0 : LA := [mv 6 0, We 7 6, Wm 8 0]
def A_q144_1 : LA := [mv 10 8, mv 5 10]
def A_q144_2 : LA := [mv 11 1, mv 12 0, mv 13 5, Wa 14 317 2 12 13, Wd 15 2 14, o_ 16 (.callv (.t 11) [(.t 15)])]
def A_q144_3 : LA := [mv 17 5, mv 4 17]
def A_q144_4 : LA := [Wi 18 .add 8 1, mv 8 18]
def A_q144_5 : ACode := (.seq (.ops [Wb 9 .lss 8 7]) (.seq (.cond (.t 9) .skip .bad) (.seq (.block 1 (.seq (.ops A_q144_1) (.seq (.ops A_q144_2) (.cond (.t 16) (.seq (.ops A_q144_3) .ret) .skip)))) (.ops A_q144_4))))
def A_q144 : ACode := (.seq (.ops [Wm 4 0]) (.seq (.seq (.ops A_q144_0) (.block 0 (.loop A_q144_5))) (.seq (.ops [Wm 4 (-1)]) .ret)))
def T_q144 : FC := ⟨19, A_q144, [.tmp 4]⟩
abbrev F_q145 : Nat := 145
def A_q145_0 : LA := [o_ 3 (.box 317 2 (.t 0)), Wo 4 false]
def A_q145_1 : LA := [Wf 5 0 3, Wl 6 5, Wd 7 9 1, Wl 8 2, o_ 9 (.callv (.t 6) [(.t 7), (.t 8)]), mv 4 9]
def A_q145 : ACode := (.seq (.ops A_q145_0) (.seq (.ops A_q145_1) .ret))
def T_q145 : FC := ⟨10, A_q145, [.tmp 4]⟩
abbrev F_q146 : Nat := 146
def A_q146_0 : LA := [mv 5 0, o_ 6 (.call 80 [(.t 5)]), mv 4 6, Wx 7 0 4, Wx 8 1 4, mv 2 7, mv 3 8]
def A_q146_1 : LA := [mv 9 2, Wi 10 .neq 9 0]
def A_q146 : ACode := (.seq (.ops A_q146_0) (.seq (.ops A_q146_1) (.cond (.t 10) .bad .skip)))
def T_q146 : FC := ⟨15, A_q146, []⟩
abbrev F_q147 : Nat := 147
def A_q147_0 : LA := [mv 3 0, Wc 4 3, Wf 5 0 4, Wl 6 5, mv 2 6]
def A_q147 : ACode := (.seq (.ops [o_ 2 (.mov (.c (.str [])))]) (.seq (.ops A_q147_0) .ret))
def T_q147 : FC := ⟨7, A_q147, [.tmp 2]⟩
abbrev F_q148 : Nat := 148
def A_q148_0 : LA := [mv 4 0, o_ 5 (.call 199 [(.t 4)]), mv 3 5]
def A_q148_1 : LA := [mv 6 3, o_ 7 (.call 200 [(.t 6)])]
def A_q148_2 : LA := [mv 8 3, mv 2 8]
def A_q148 : ACode := (.seq (.ops [Wn 2]) (.seq (.ops A_q148_0) (.seq (.ops A_q148_1) (.seq (.ops A_q148_2) .ret))))
def T_q148 : FC := ⟨9, A_q148, [.tmp 2]⟩
abbrev F_q149 : Nat := 149
def A_q149_0 : LA := [o_ 1 (.box 320 1 (.t 0)), o_ 2 (.mov (.c (.nilf)))]
def A_q149_1 : LA := [o_ 3 (.mkfn 201 [] [(.t 1)]), mv 2 3]
def A_q149 : ACode := (.seq (.ops A_q149_0) (.seq (.ops A_q149_1) .ret))
def T_q149 : FC := ⟨4, A_q149, [.tmp 2]⟩
abbrev F_q153 : Nat := 153
def A_q153_0 : LA := [o_ 1 (.box 204 9 (.t 0)), Wo 2 false]
def A_q153_1 : LA := [Wf 3 3 1, Wl 4 3, o_ 5 (.bini .eql (.t 4) (.c (.int .u8 1))), mv 6 5, Wgf 7 4 1 6, Wgl 8 7 6, g_ 9 (.bini .neq (.t 8) (.c (.int .u8 11))) 6, Wp 10 6 9, mv 11 10, Wgf 12 7 1 11, Wgl 13 12 11, g_ 14 (.bini .eql (.t 13) (i_ 0)) 11, Wp 15 11 14, mv 2 15]
def A_q153 : ACode := (.seq (.ops A_q153_0) (.seq (.ops A_q153_1) .ret))
def T_q153 : FC := ⟨16, A_q153, [.tmp 2]⟩
abbrev F_q154 : Nat := 154
def A_q154_0 : LA := [o_ 1 (.box 150 7 (.t 0)), o_ 2 (.box 150 7 (.c (.agg [.str [], .nils, .nils, .nils, .nils, .nils, .nils])))]
def A_q154_1 : LA := [Wf 3 1 1, Wl 4 3, o_ 5 (.call 204 [(.t 4)]), Wf 6 1 1, Ws 1 6 5]
def A_q154_2 : LA := [Wf 7 2 1, Wl 8 7, o_ 9 (.call 205 [(.t 8)]), Wf 10 2 1, Ws 1 10 9]
def A_q154_3 : LA := [Wf 11 5 1, Wl 12 11, o_ 13 (.call 206 [(.t 12)]), Wf 14 5 1, Ws 1 14 13]
def A_q154_4 : LA := [Wf 15 6 1, Wl 16 15, o_ 17 (.call 205 [(.t 16)]), Wf 18 6 1, Ws 1 18 17]
def A_q154_5 : LA := [Wf 20 3 1, Wl 21 20, Wf 22 4 1, Wl 23 22, o_ 24 (.call 108 [(.t 21), (.t 23)]), mv 19 24, Wx 25 0 19, Wx 26 1 19, Wf 27 3 1, Ws 1 27 25, Wf 28 4 1, Ws 1 28 26]
def A_q154_6 : LA := [Wd 29 7 1, Ws 7 2 29]
def A_q154 : ACode := (.seq (.ops A_q154_0) (.seq (.ops A_q154_1) (.seq (.ops A_q154_2) (.seq (.ops A_q154_3) (.seq (.ops A_q154_4) (.seq (.ops A_q154_5) (.seq (.ops A_q154_6) .ret)))))))
def T_q154 : FC := ⟨30, A_q154, [.cella 2 7]⟩
abbrev F_q155 : Nat := 155
def A_q155_0 : LA := [o_ 1 (.box 161 5 (.t 0)), o_ 2 (.box 161 5 (.c (.agg [.str [], .nils, .bool false, .nils, .nils])))]
def A_q155_1 : LA := [Wf 3 1 1, Wl 4 3, o_ 5 (.call 207 [(.t 4)]), Wf 6 1 1, Ws 1 6 5]
def A_q155_2 : LA := [Wf 7 3 1, Wl 8 7, o_ 9 (.call 206 [(.t 8)]), Wf 10 3 1, Ws 1 10 9]
def A_q155_3 : LA := [Wf 11 4 1, Wl 12 11, o_ 13 (.call 205 [(.t 12)]), Wf 14 4 1, Ws 1 14 13]
def A_q155_4 : LA := [Wd 15 5 1, Ws 5 2 15]
def A_q155 : ACode := (.seq (.ops A_q155_0) (.seq (.ops A_q155_1) (.seq (.ops A_q155_2) (.seq (.ops A_q155_3) (.seq (.ops A_q155_4) .ret)))))
def T_q155 : FC := ⟨16, A_q155, [.cella 2 5]⟩
abbrev F_q156 : Nat := 156
def A_q156_0 : LA := [mv 3 0, o_ 4 (.call 208 [(.c (.nils)), (.t 3)]), mv 2 4]
def A_q156 : ACode := (.seq (.ops [Wn 2]) (.seq (.ops A_q156_0) .ret))
def T_q156 : FC := ⟨5, A_q156, [.tmp 2]⟩
abbrev F_q157 : Nat := 157
def A_q157_0 : LA := [Wl 4 1, o_ 5 (.rngm (.t 4))]
def A_q157_1 : LA := [o_ 6 (.nxm (.t 5)), Wx 7 0 6]
def A_q157_2 : LA := [o_ 8 (.entr (.t 5)), Wx 9 0 8, mv 3 9]
def A_q157_3 : LA := [mv 10 0, mv 11 3, o_ 12 (.callv (.t 10) [(.t 11)]), o_ 13 (.not (.t 12))]
def A_q157_4 : ACode := (.seq (.ops A_q157_1) (.seq (.cond (.t 7) .skip (.exit 0)) (.block 1 (.seq (.ops A_q157_2) (.seq (.ops A_q157_3) (.cond (.t 13) .bad .skip))))))
def A_q157 : ACode := (.seq (.ops A_q157_0) (.block 0 (.loop A_q157_4)))
def T_q157 : FC := ⟨14, A_q157, []⟩
abbrev F_q158 : Nat := 158
def A_q158_0 : LA := [mv 6 0, o_ 7 (.not (.t 6))]
def A_q158 : ACode := (.seq (.ops A_q158_0) (.cond (.t 7) .bad .skip))
def T_q158 : FC := ⟨13, A_q158, []⟩
abbrev F_q159 : Nat := 159
def A_q159_0 : LA := [mv 5 0, o_ 6 (.bins .eql (.t 5) (.c (.str []))), mv 7 6, Whm 8 0 7, Wh 9 (.lens (.t 8)) 7, Wh 10 (.bini .gtr (.t 9) (i_ 255)) 7, Wq 11 7 10]
def A_q159_1 : LA := [mv 12 0, o_ 13 (.lens (.t 12)), Wm 14 0]
def A_q159_2 : LA := [mv 16 14, mv 3 16]
def A_q159_3 : LA := [mv 17 0, mv 18 3, o_ 19 (.idxs (.t 17) (.t 18)), mv 4 19]
def A_q159_4 : LA := [mv 20 4, o_ 21 (.bini .lss (.t 20) (.c (.int .u8 33))), mv 22 21, Whm 23 4 22, Wh 24 (.bini .gtr (.t 23) (.c (.int .u8 126))) 22, Wq 25 22 24, mv 26 25, Whm 27 4 26, Wh 28 (.bini .eql (.t 27) (.c (.int .u8 34))) 26, Wq 29 26 28, mv 30 29, Whm 31 4 30, Wh 32 (.bini .eql (.t 31) (.c (.int .u8 92))) 30, Wq 33 30 32]
def A_q159_5 : LA := [Wi 34 .add 14 1, mv 14 34]
def A_q159_6 : ACode := (.seq (.ops [Wb 15 .lss 14 13]) (.seq (.cond (.t 15) .skip (.exit 0)) (.seq (.block 1 (.seq (.ops A_q159_2) (.seq (.ops A_q159_3) (.seq (.ops A_q159_4) (.cond (.t 33) .bad .skip))))) (.ops A_q159_5))))
def A_q159 : ACode := (.seq (.ops [Wo 2 false]) (.seq (.seq (.ops A_q159_0) (.cond (.t 11) .bad .skip)) (.seq (.seq (.ops A_q159_1) (.block 0 (.loop A_q159_6))) (.seq (.ops [Wo 2 true]) .ret))))
def T_q159 : FC := ⟨35, A_q159, [.tmp 2]⟩
abbrev F_q160 : Nat := 160
def A_q160_0 : LA := [mv 5 0, o_ 6 (.lens (.t 5)), Wi 7 .gtr 6 255]
def A_q160_1 : LA := [mv 8 0, o_ 9 (.call 209 [(.t 8), (.c (.str [46]))]), We 10 9, Wm 11 0]
def A_q160_2 : LA := [Wa 13 9 1 9 11, Wl 14 13, mv 4 14]
def A_q160_3 : LA := [mv 15 4, o_ 16 (.call 210 [(.t 15)]), o_ 17 (.not (.t 16))]
def A_q160_4 : LA := [Wi 18 .add 11 1, mv 11 18]
def A_q160_5 : ACode := (.seq (.ops [Wb 12 .lss 11 10]) (.seq (.cond (.t 12) .skip (.exit 0)) (.seq (.block 1 (.seq (.ops A_q160_2) (.seq (.ops A_q160_3) (.cond (.t 17) .bad .skip)))) (.ops A_q160_4))))
def A_q160 : ACode := (.seq (.ops [Wo 2 false]) (.seq (.seq (.ops A_q160_0) (.cond (.t 7) .bad .skip)) (.seq (.seq (.ops A_q160_1) (.block 0 (.loop A_q160_5))) (.seq (.ops [Wo 2 true]) .ret))))
def T_q160 : FC := ⟨19, A_q160, [.tmp 2]⟩
abbrev F_q161 : Nat := 161
def A_q161_0 : LA := [mv 17 2, Wf 18 0 5, Wl 19 18, o_ 20 (.bslice 9 1 2 [.str []] [(0, 1, (.t 17)), (1, 1, (.t 19))]), o_ 21 (.call 115 [(.t 20)]), mv 8 21]
def A_q161_1 : LA := [mv 22 0, Wf 23 0 5, Wl 24 23, mv 25 8, o_ 26 (.call 211 [(.t 22), (.t 24), (.t 25)])]
def A_q161_2 : LA := [mv 27 3, Wi 28 .lss 27 16, mv 29 28, Wgf 30 1 5 29, Wgl 31 30 29, g_ 32 (.lenl (.t 31)) 29, g_ 33 (.bini .leq (.t 32) (i_ 1000)) 29, Wp 34 29 33, mv 35 8, o_ 36 (.call 158 [(.t 34), (i_ 68), (.t 35)])]
def A_q161_3 : LA := [Wf 37 5 5, Wl 38 37, mv 39 8, o_ 40 (.call 212 [(.t 38), (.c (.int .i32 1)), (.c (.int .i32 536870911)), (.t 39)])]
def A_q161_4 : LA := [Wf 41 6 5, Wl 42 41, mv 43 8, o_ 44 (.call 213 [(.t 42), (.t 43)])]
def A_q161_5 : LA := [Wf 45 1 5, Wl 46 45, We 47 46, Wm 48 0]
def A_q161_6 : LA := [mv 50 48, mv 9 50]
def A_q161_7 : LA := [mv 51 0, Wd 52 7 5, mv 53 9, mv 54 8, o_ 55 (.call 214 [(.t 51), (.t 52), (.t 53), (.t 54)])]
def A_q161_8 : LA := [Wi 56 .add 48 1, mv 48 56]
def A_q161_9 : ACode := (.seq (.ops [Wb 49 .lss 48 47]) (.seq (.cond (.t 49) .skip (.exit 0)) (.seq (.block 1 (.seq (.ops A_q161_6) (.ops A_q161_7))) (.ops A_q161_8))))
def A_q161_10 : LA := [Wf 57 2 5, Wl 58 57, We 59 58, Wm 60 0]
def A_q161_11 : LA := [mv 62 60, Wa 63 9 1 58 60, Wl 64 63, o_ 10 (.box 3 1 (i_ 0)), Ws 1 10 62, mv 11 64]
def A_q161_12 : LA := [mv 65 8, mv 66 11, o_ 67 (.bslice 9 1 2 [.str []] [(0, 1, (.t 65)), (1, 1, (.t 66))]), o_ 68 (.call 115 [(.t 67)]), mv 12 68]
def A_q161_13 : LA := [mv 69 0, mv 70 11, mv 71 12, o_ 72 (.call 211 [(.t 69), (.t 70), (.t 71)])]
def A_q161_14 : LA := [Wf 73 1 5, Wl 74 73, o_ 75 (.mkfn 216 [] [(.t 10)]), o_ 76 (.call 215 [(.t 74), (.t 75)]), mv 77 12, o_ 78 (.call 158 [(.t 76), (i_ 64), (.t 77)])]
def A_q161_15 : LA := [Wi 79 .add 60 1, mv 60 79]
def A_q161_16 : ACode := (.seq (.ops [Wb 61 .lss 60 59]) (.seq (.cond (.t 61) .skip (.exit 2)) (.seq (.block 3 (.seq (.ops A_q161_11) (.seq (.ops A_q161_12) (.seq (.ops A_q161_13) (.ops A_q161_14))))) (.ops A_q161_15))))
def A_q161_17 : LA := [Wf 80 3 5, Wl 81 80, We 82 81, Wm 83 0]
def A_q161_18 : ACode := (.seq (.ops [Wb 84 .lss 83 82]) (.seq (.cond (.t 84) .bad (.exit 4)) .bad))
def A_q161_19 : LA := [Wf 94 4 5, Wl 95 94, We 96 95, Wm 97 0]
def A_q161_20 : ACode := (.seq (.ops [Wb 98 .lss 97 96]) (.seq (.cond (.t 98) .bad (.exit 6)) .bad))
def A_q161 : ACode := (.seq (.ops [o_ 5 (.box 150 7 (.t 1))]) (.seq (.ops A_q161_0) (.seq (.ops A_q161_1) (.seq (.ops A_q161_2) (.seq (.ops A_q161_3) (.seq (.ops A_q161_4) (.seq (.seq (.ops A_q161_5) (.block 0 (.loop A_q161_9))) (.seq (.seq (.ops A_q161_10) (.block 2 (.loop A_q161_16))) (.seq (.seq (.ops A_q161_17) (.block 4 (.loop A_q161_18))) (.seq (.ops A_q161_19) (.block 6 (.loop A_q161_20))))))))))))
def T_q161 : FC := ⟨106, A_q161, []⟩
abbrev F_q162 : Nat := 162
def A_q162_0 : LA := [mv 10 2, Wf 11 0 4, Wl 12 11, o_ 13 (.bslice 9 1 2 [.str []] [(0, 1, (.t 10)), (1, 1, (.t 12))]), o_ 14 (.call 115 [(.t 13)]), mv 6 14]
def A_q162_1 : LA := [mv 15 0, Wf 16 0 4, Wl 17 16, mv 18 6, o_ 19 (.call 211 [(.t 15), (.t 17), (.t 18)])]
def A_q162_2 : LA := [Wf 20 1 4, Wl 21 20, We 22 21, Wi 23 .leq 22 1000, mv 24 6, o_ 25 (.call 158 [(.t 23), (i_ 68), (.t 24)])]
def A_q162_3 : LA := [Wf 26 1 4, Wl 27 26, We 28 27, Wi 29 .gtr 28 0, mv 30 29, Wgf 31 1 4 30, Wgl 32 31 30, g_ 33 (.iaddr 158 2 (.t 32) (i_ 0)) 30, Wgf 34 1 33 30, Wgl 35 34 30, g_ 36 (.bini .eql (.t 35) (.c (.int .i32 0))) 30, Wp 37 30 36, mv 38 6, o_ 39 (.call 158 [(.t 37), (i_ 66), (.t 38)])]
def A_q162_4 : LA := [Wf 40 3 4, Wl 41 40, mv 42 6, o_ 43 (.call 212 [(.t 41), (.c (.int .i32 (-2147483648))), (.c (.int .i32 2147483647)), (.t 42)])]
def A_q162_5 : LA := [Wf 44 4 4, Wl 45 44, mv 46 2, o_ 47 (.call 213 [(.t 45), (.t 46)])]
def A_q162_6 : LA := [Wf 48 1 4, Wl 49 48, We 50 49, Wm 51 0]
def A_q162_7 : LA := [mv 53 51, Wa 54 158 2 49 51, Wd 55 2 54, o_ 8 (.box 158 2 (.c (.agg [.str [], .int .i32 0]))), mv 7 53, Ws 2 8 55]
def A_q162_8 : LA := [mv 56 2, Wf 57 0 8, Wl 58 57, o_ 59 (.bslice 9 1 2 [.str []] [(0, 1, (.t 56)), (1, 1, (.t 58))]), o_ 60 (.call 115 [(.t 59)]), mv 9 60]
def A_q162_9 : LA := [mv 61 0, Wf 62 0 8, Wl 63 62, mv 64 9, o_ 65 (.call 211 [(.t 61), (.t 63), (.t 64)])]
def A_q162_10 : LA := [Wf 66 4 4, Wl 67 66, Wf 68 0 8, Wl 69 68, o_ 70 (.call 125 [(.t 67), (.t 69)]), o_ 71 (.not (.t 70)), mv 72 71, Wgf 73 3 4 72, Wgl 74 73 72, Wgf 75 1 8 72, Wgl 76 75 72, g_ 77 (.call 217 [(.t 74), (.t 76)]) 72, g_ 78 (.not (.t 77)) 72, Wp 79 72 78, mv 80 9, o_ 81 (.call 158 [(.t 79), (i_ 63), (.t 80)])]
def A_q162_11 : LA := [Wf 82 2 4, Wl 83 82, mv 84 83, Wh 85 (.faddr 1 (.t 4)) 84, Wh 86 (.ld1 (.t 85)) 84, Whm 87 7 84, Wh 88 (.slcl 158 2 (.t 86) none (some (.t 87)) none) 84, Wh 89 (.mkfn 219 [] [(.t 8)]) 84, Wh 90 (.call 218 [(.t 88), (.t 89)]) 84, Wh 91 (.not (.t 90)) 84, Wq 92 84 91, mv 93 9, o_ 94 (.call 158 [(.t 92), (i_ 66), (.t 93)])]
def A_q162_12 : LA := [Wi 95 .add 51 1, mv 51 95]
def A_q162_13 : ACode := (.seq (.ops [Wb 52 .lss 51 50]) (.seq (.cond (.t 52) .skip (.exit 0)) (.seq (.block 1 (.seq (.ops A_q162_7) (.seq (.ops A_q162_8) (.seq (.ops A_q162_9) (.seq (.ops A_q162_10) (.ops A_q162_11)))))) (.ops A_q162_12))))
def A_q162 : ACode := (.seq (.ops [o_ 4 (.box 161 5 (.t 1))]) (.seq (.ops A_q162_0) (.seq (.ops A_q162_1) (.seq (.ops A_q162_2) (.seq (.ops A_q162_3) (.seq (.ops A_q162_4) (.seq (.ops A_q162_5) (.seq (.ops A_q162_6) (.block 0 (.loop A_q162_13))))))))))
def T_q162 : FC := ⟨96, A_q162, []⟩
abbrev F_q163 : Nat := 163
def A_q163_0 : LA := [Wl 4 1, mv 3 4]
def A_q163_1 : LA := [mv 5 0, mv 6 3, o_ 7 (.callv (.t 5) [(.t 6)]), mv 8 7, Wgm 9 3 8, g_ 10 (.bins .neq (.t 9) (.c (.str []))) 8, Wp 11 8 10]
def A_q163_2 : LA := [mv 13 3, o_ 14 (.call 164 [(.t 13)]), mv 12 14, Wx 15 0 12, Wx 16 1 12, mv 3 15]
def A_q163_3 : ACode := (.seq (.seq (.ops A_q163_1) (.cond (.t 11) .skip (.exit 0))) (.block 1 (.ops A_q163_2)))
def A_q163 : ACode := (.seq (.ops A_q163_0) (.block 0 (.loop A_q163_3)))
def T_q163 : FC := ⟨17, A_q163, []⟩
abbrev F_q164 : Nat := 164
def A_q164_0 : LA := [o_ 2 (.mov (.c (.str []))), o_ 3 (.mov (.c (.str [])))]
def A_q164_1 : LA := [mv 5 0, o_ 6 (.call 220 [(.t 5), (.c (.int .u8 46))]), mv 4 6]
def A_q164_2 : LA := [mv 7 4, Wi 8 .lss 7 0]
def A_q164_3 : LA := [mv 9 0, o_ 2 (.mov (.c (.str []))), mv 3 9]
def A_q164_4 : LA := [mv 10 0, mv 11 4, o_ 12 (.slcs (.t 10) none (some (.t 11))), mv 13 0, mv 14 4, Wi 15 .add 14 1, o_ 16 (.slcs (.t 13) (some (.t 15)) none), mv 2 12, mv 3 16]
def A_q164 : ACode := (.seq (.ops A_q164_0) (.seq (.ops A_q164_1) (.seq (.seq (.ops A_q164_2) (.cond (.t 8) (.seq (.ops A_q164_3) .ret) .skip)) (.seq (.alts [10, 11, 12, 13, 14, 15, 16, 2, 3] [A_q164_4]) .ret))))
def T_q164 : FC := ⟨17, A_q164, [.tmp 2, .tmp 3]⟩
abbrev F_q165 : Nat := 165
def A_q165_0 : LA := [mv 11 0, We 12 11]
def A_q165_1 : LA := [Wi 14 .eql 12 0, mv 13 14]
def A_q165_2 : LA := [Wi 16 .eql 12 1, mv 15 16]
def A_q165_3 : LA := [mv 20 1, o_ 21 (.lens (.t 20)), Wi 22 .gtr 21 0]
def A_q165_4 : LA := [mv 23 1, o_ 24 (.lens (.t 23)), mv 25 0, We 26 25, Wi 27 .sub 26 1, o_ 28 (.bini .quo (i_ 9223372036854775807) (.t 27)), Wb 29 .geq 24 28]
def A_q165_5 : LA := [mv 31 5, mv 32 1, o_ 33 (.lens (.t 32)), mv 34 0, We 35 34, Wi 36 .sub 35 1, Wb 37 .mul 33 36, Wb 38 .add 31 37, mv 5 38]
def A_q165_6 : LA := [mv 39 0, We 40 39, Wm 41 0]
def A_q165_7 : LA := [Wa 43 9 1 39 41, Wl 44 43, mv 7 44]
def A_q165_8 : LA := [mv 45 7, o_ 46 (.lens (.t 45)), mv 47 5, o_ 48 (.bini .sub (i_ 9223372036854775807) (.t 47)), Wb 49 .gtr 46 48]
def A_q165_9 : LA := [mv 51 5, mv 52 7, o_ 53 (.lens (.t 52)), Wb 54 .add 51 53, mv 5 54]
def A_q165_10 : LA := [Wi 55 .add 41 1, mv 41 55]
def A_q165_11 : ACode := (.seq (.ops [Wb 42 .lss 41 40]) (.seq (.cond (.t 42) .skip (.exit 1)) (.seq (.block 2 (.seq (.ops A_q165_7) (.seq (.seq (.ops A_q165_8) (.cond (.t 49) .bad .skip)) (.ops A_q165_9)))) (.ops A_q165_10))))
def A_q165_12 : LA := [mv 56 5, o_ 57 (.call 221 [(.t 8), (.t 56)])]
def A_q165_13 : LA := [mv 58 0, o_ 59 (.iaddr 9 1 (.t 58) (i_ 0)), Wl 60 59, o_ 61 (.call 222 [(.t 8), (.t 60)])]
def A_q165_14 : LA := [mv 62 0, o_ 63 (.slcl 9 1 (.t 62) (some (i_ 1)) none none), We 64 63, Wm 65 0]
def A_q165_15 : LA := [Wa 67 9 1 63 65, Wl 68 67, mv 10 68]
def A_q165_16 : LA := [mv 69 1, o_ 70 (.call 222 [(.t 8), (.t 69)])]
def A_q165_17 : LA := [mv 71 10, o_ 72 (.call 222 [(.t 8), (.t 71)])]
def A_q165_18 : LA := [Wi 73 .add 65 1, mv 65 73]
def A_q165_19 : ACode := (.seq (.ops [Wb 66 .lss 65 64]) (.seq (.cond (.t 66) .skip (.exit 3)) (.seq (.block 4 (.seq (.ops A_q165_15) (.seq (.ops A_q165_16) (.ops A_q165_17)))) (.ops A_q165_18))))
def A_q165_20 : LA := [o_ 74 (.call 223 [(.t 8)]), mv 4 74]
def A_q165 : ACode := (.seq (.ops [o_ 4 (.mov (.c (.str [])))]) (.seq (.seq (.ops A_q165_0) (.block 0 (.seq (.ops A_q165_1) (.cond (.t 13) .bad (.seq (.ops A_q165_2) (.cond (.t 15) .bad .skip)))))) (.seq (.ops [Wm 5 0]) (.seq (.seq (.ops A_q165_3) (.cond (.t 22) (.seq (.seq (.ops A_q165_4) (.cond (.t 29) .bad .skip)) (.ops A_q165_5)) .bad)) (.seq (.seq (.ops A_q165_6) (.block 1 (.loop A_q165_11))) (.seq (.ops [o_ 8 (.box 422 2 (.c (.agg [.nilp, .nils])))]) (.seq (.ops A_q165_12) (.seq (.ops A_q165_13) (.seq (.seq (.ops A_q165_14) (.block 3 (.loop A_q165_19))) (.seq (.ops A_q165_20) .ret))))))))))
def T_q165 : FC := ⟨75, A_q165, [.tmp 4]⟩
abbrev F_q166 : Nat := 166
def A_q166_0 : LA := [mv 10 6, Wm 7 0, mv 8 10]
def A_q166_1 : LA := [mv 11 8, mv 12 1, Wb 13 .leq 11 12]
def A_q166_2 : LA := [mv 14 0, mv 15 7, mv 16 8, mv 17 2, o_ 18 (.call 224 [(.t 14), (.t 15), (.t 16), (.t 17)])]
def A_q166_3 : LA := [mv 19 8, mv 7 19]
def A_q166_4 : LA := [mv 20 8, mv 21 6, Wb 22 .add 20 21, mv 8 22]
def A_q166_5 : ACode := (.seq (.seq (.ops A_q166_1) (.cond (.t 13) .skip (.exit 0))) (.block 1 (.seq (.ops A_q166_2) (.seq (.ops A_q166_3) (.ops A_q166_4)))))
def A_q166_6 : LA := [mv 23 0, mv 24 7, mv 25 1, mv 26 2, o_ 27 (.call 224 [(.t 23), (.t 24), (.t 25), (.t 26)])]
def A_q166_7 : LA := [mv 28 6, mv 29 1, Wb 30 .lss 28 29]
def A_q166_8 : LA := [mv 31 6, o_ 32 (.bini .mul (i_ 2) (.t 31)), Wm 7 0, mv 8 32]
def A_q166_9 : LA := [mv 33 8, mv 34 1, Wb 35 .leq 33 34]
def A_q166_10 : LA := [mv 36 0, mv 37 7, mv 38 7, mv 39 6, Wb 40 .add 38 39, mv 41 8, mv 42 2, o_ 43 (.call 225 [(.t 36), (.t 37), (.t 40), (.t 41), (.t 42)])]
def A_q166_11 : LA := [mv 44 8, mv 7 44]
def A_q166_12 : LA := [mv 45 8, mv 46 6, o_ 47 (.bini .mul (i_ 2) (.t 46)), Wb 48 .add 45 47, mv 8 48]
def A_q166_13 : ACode := (.seq (.seq (.ops A_q166_9) (.cond (.t 35) .skip (.exit 4))) (.block 5 (.seq (.ops A_q166_10) (.seq (.ops A_q166_11) (.ops A_q166_12)))))
def A_q166_14 : LA := [mv 49 7, mv 50 6, Wb 51 .add 49 50, mv 9 51]
def A_q166_15 : LA := [mv 52 9, mv 53 1, Wb 54 .lss 52 53]
def A_q166_16 : LA := [mv 55 0, mv 56 7, mv 57 9, mv 58 1, mv 59 2, o_ 60 (.call 225 [(.t 55), (.t 56), (.t 57), (.t 58), (.t 59)])]
def A_q166_17 : LA := [mv 61 6, Wi 62 .mul 61 2, mv 6 62]
def A_q166_18 : ACode := (.seq (.seq (.ops A_q166_7) (.cond (.t 30) .skip (.exit 2))) (.block 3 (.seq (.ops A_q166_8) (.seq (.block 4 (.loop A_q166_13)) (.seq (.seq (.ops A_q166_14) (.seq (.ops A_q166_15) (.cond (.t 54) (.ops A_q166_16) .skip))) (.ops A_q166_17))))))
def A_q166 : ACode := (.seq (.ops [Wm 6 20]) (.seq (.ops A_q166_0) (.seq (.block 0 (.loop A_q166_5)) (.seq (.ops A_q166_6) (.block 2 (.loop A_q166_18))))))
def T_q166 : FC := ⟨63, A_q166, []⟩
abbrev F_q167 : Nat := 167
def A_q167_0 : LA := [mv 3 0, mv 4 0, o_ 5 (.bins .neq (.t 3) (.t 4)), mv 2 5]
def A_q167 : ACode := (.seq (.ops [Wo 2 false]) (.seq (.ops A_q167_0) .ret))
def T_q167 : FC := ⟨6, A_q167, [.tmp 2]⟩
abbrev F_q168 : Nat := 168
def A_q168_0 : LA := [mv 3 0, mv 4 0, Wb 5 .neq 3 4, mv 2 5]
def A_q168 : ACode := (.seq (.ops [Wo 2 false]) (.seq (.ops A_q168_0) .ret))
def T_q168 : FC := ⟨6, A_q168, [.tmp 2]⟩
abbrev F_q169 : Nat := 169
def A_q169_0 : LA := [o_ 8 (.mov (.c (.str []))), o_ 9 (.mov (.c (.int .u8 0))), Wm 10 0]
def A_q169_1 : LA := [mv 20 0, mv 21 1, Wc 22 21, Wf 23 5 22, Wl 24 23, o_ 25 (.call 228 [(.t 24)]), o_ 26 (.call 109 [(.t 25)]), o_ 27 (.call 227 [(.t 20), (.t 26)]), mv 28 0, mv 29 0, o_ 30 (.call 86 [(.t 29)]), o_ 31 (.call 227 [(.t 28), (.t 30)]), mv 12 27, mv 13 31]
def A_q169_2 : LA := [mv 33 0, mv 34 12, mv 35 2, mv 36 3, o_ 37 (.call 229 [(.t 33), (.t 34), (.t 35), (.t 36)]), mv 32 37, Wx 38 0 32, Wx 39 1 32, mv 14 38, mv 15 39]
def A_q169_3 : LA := [mv 40 12, mv 41 14, o_ 42 (.call 230 [(.t 40), (.t 41)]), mv 16 42]
def A_q169_4 : LA := [mv 43 15, mv 44 43, Wgm 45 11 44, Wgm 46 16 44, g_ 47 (.callv (.t 45) [(.t 46)]) 44, Wp 48 44 47]
def A_q169_5 : LA := [mv 49 14, mv 50 16, mv 8 49, mv 9 50, Wm 10 0]
def A_q169 : ACode := (.seq (.ops A_q169_0) (.seq (.ops [o_ 11 (.mov (.f 226))]) (.seq (.ops A_q169_1) (.seq (.ops A_q169_2) (.seq (.ops A_q169_3) (.seq (.seq (.ops A_q169_4) (.cond (.t 48) (.seq (.ops A_q169_5) .ret) .bad)) .bad))))))
def T_q169 : FC := ⟨82, A_q169, [.tmp 8, .tmp 9, .tmp 10]⟩
abbrev F_q170 : Nat := 170
def A_q170_0 : LA := [mv 6 0, We 7 6, Wm 8 0]
def A_q170_1 : LA := [mv 10 8, mv 5 10]
def A_q170_2 : LA := [mv 11 1, mv 12 0, mv 13 5, Wa 14 9 1 12 13, Wl 15 14, o_ 16 (.bins .eql (.t 11) (.t 15))]
def A_q170_3 : LA := [Wi 18 .add 8 1, mv 8 18]
def A_q170_4 : ACode := (.seq (.ops [Wb 9 .lss 8 7]) (.seq (.cond (.t 9) .skip (.exit 0)) (.seq (.block 1 (.seq (.ops A_q170_1) (.seq (.ops A_q170_2) (.cond (.t 16) .bad .skip)))) (.ops A_q170_3))))
def A_q170 : ACode := (.seq (.ops [Wm 4 0]) (.seq (.seq (.ops A_q170_0) (.block 0 (.loop A_q170_4))) (.seq (.ops [Wm 4 (-1)]) .ret)))
def T_q170 : FC := ⟨19, A_q170, [.tmp 4]⟩
abbrev F_q171 : Nat := 171
def A_q171_0 : LA := [mv 8 1, Wi 9 .add 8 1, mv 6 9]
def A_q171_1 : LA := [mv 10 6, mv 11 2, Wb 12 .lss 10 11]
def A_q171_2 : LA := [mv 15 6, mv 7 15]
def A_q171_3 : LA := [mv 16 7, mv 17 1, Wb 18 .gtr 16 17, mv 19 18, Wgm 20 0 19, Wgm 21 7 19, g_ 22 (.iaddr 9 1 (.t 20) (.t 21)) 19, Wgl 23 22 19, Wgm 24 0 19, Wgm 25 7 19, g_ 26 (.bini .sub (.t 25) (i_ 1)) 19, g_ 27 (.iaddr 9 1 (.t 24) (.t 26)) 19, Wgl 28 27 19, g_ 29 (.call 177 [(.t 23), (.t 28)]) 19, Wp 30 19 29]
def A_q171_4 : LA := [mv 33 0, mv 34 7, mv 35 0, mv 36 7, Wi 37 .sub 36 1, mv 38 0, mv 39 7, Wi 40 .sub 39 1, Wa 41 9 1 38 40, Wl 42 41, mv 43 0, mv 44 7, Wa 45 9 1 43 44, Wl 46 45, Wa 47 9 1 33 34, Ws 1 47 42, Wa 48 9 1 35 37, Ws 1 48 46]
def A_q171_5 : LA := [mv 31 7, Wi 32 .sub 31 1, mv 7 32]
def A_q171_6 : ACode := (.seq (.seq (.alts [16, 17, 18, 19, 20, 21, 22, 23, 24, 25, 26, 27, 28, 29, 30] [A_q171_3]) (.cond (.t 30) .skip (.exit 2))) (.seq (.block 3 (.alts [33, 34, 35, 36, 37, 38, 39, 40, 41, 42, 43, 44, 45, 46, 47, 48] [A_q171_4])) (.ops A_q171_5)))
def A_q171_7 : LA := [mv 13 6, Wi 14 .add 13 1, mv 6 14]
def A_q171_8 : ACode := (.seq (.seq (.ops A_q171_1) (.cond (.t 12) .skip (.exit 0))) (.seq (.block 1 (.seq (.ops A_q171_2) (.block 2 (.loop A_q171_6)))) (.ops A_q171_7)))
def A_q171 : ACode := (.seq (.ops A_q171_0) (.block 0 (.loop A_q171_8)))
def T_q171 : FC := ⟨49, A_q171, []⟩
abbrev F_q177 : Nat := 177
def A_q177_0 : LA := [mv 5 0, o_ 6 (.call 167 [(.t 5)]), mv 7 6, Wgm 8 1 7, g_ 9 (.call 167 [(.t 8)]) 7, g_ 10 (.not (.t 9)) 7, Wp 11 7 10, mv 12 11, Whm 13 0 12, Whm 14 1 12, Wh 15 (.bins .lss (.t 13) (.t 14)) 12, Wq 16 12 15, mv 4 16]
def A_q177 : ACode := (.seq (.ops [Wo 4 false]) (.seq (.ops A_q177_0) .ret))
def T_q177 : FC := ⟨17, A_q177, [.tmp 4]⟩
abbrev F_q182 : Nat := 182
def A_q182_0 : LA := [Wm 2 0, Wm 3 0, Wo 4 false]
def A_q182_1 : LA := [mv 8 0, Wc 9 8, Wf 10 1 9, Wl 11 10, mv 5 11]
def A_q182_2 : LA := [mv 12 0, o_ 13 (.call 79 [(.t 12)]), mv 6 13]
def A_q182_3 : LA := [mv 14 0, Wc 15 14, Wf 16 3 15, Wl 17 16, Wi 18 .eql 17 0, mv 19 18, Wgm 20 6 19, Wgm 21 0 19, g_ 22 (.nilc (.t 21)) 19, Wgf 23 2 22 19, Wgl 24 23 19, Wgm 25 0 19, g_ 26 (.nilc (.t 25)) 19, Wgf 27 1 26 19, Wgl 28 27 19, g_ 29 (.bini .sub (.t 24) (.t 28)) 19, g_ 30 (.conv .u64 (.t 29)) 19, g_ 31 (.bini .gtr (.t 20) (.t 30)) 19, Wp 32 19 31]
def A_q182_4 : LA := [mv 33 0, mv 34 5, Wc 35 33, Wf 36 1 35, Ws 1 36 34]
def A_q182_5 : LA := [mv 37 0, mv 38 5, o_ 39 (.call 106 [(.t 37), (i_ 10), (.t 38)])]
def A_q182_6 : LA := [mv 40 0, Wc 41 40, Wf 42 3 41, Wl 43 42, Wi 44 .neq 43 0]
def A_q182_7 : LA := [Wm 2 0, Wm 3 0, Wo 4 false]
def A_q182_8 : LA := [mv 45 0, Wc 46 45, Wf 47 1 46, Wl 48 47, mv 7 48]
def A_q182_9 : LA := [mv 49 0, Wc 50 49, Wf 51 1 50, Wl 52 51, mv 53 6, o_ 54 (.conv .i64 (.t 53)), Wb 55 .add 52 54, Wc 56 49, Wf 57 1 56, Ws 1 57 55]
def A_q182_10 : LA := [mv 58 7, mv 59 0, Wc 60 59, Wf 61 1 60, Wl 62 61, mv 2 58, mv 3 62, Wo 4 true]
def A_q182 : ACode := (.seq (.ops A_q182_0) (.seq (.ops A_q182_1) (.seq (.ops A_q182_2) (.seq (.seq (.alts [14, 15, 16, 17, 18, 19, 20, 21, 22, 23, 24, 25, 26, 27, 28, 29, 30, 31, 32] [A_q182_3]) (.cond (.t 32) (.seq (.ops A_q182_4) (.ops A_q182_5)) .skip)) (.seq (.seq (.ops A_q182_6) (.cond (.t 44) (.seq (.ops A_q182_7) .ret) .skip)) (.seq (.ops A_q182_8) (.seq (.ops A_q182_9) (.seq (.alts [58, 59, 60, 61, 62, 2, 3, 4] [A_q182_10]) .ret))))))))
def T_q182 : FC := ⟨63, A_q182, [.tmp 2, .tmp 3, .tmp 4]⟩
abbrev F_q185 : Nat := 185
def A_q185_0 : LA := [mv 6 4, mv 2 6]
def A_q185_1 : LA := [mv 7 2, o_ 8 (.adr 19 1 (.t 1) (.t 7)), n_ (.st 1 (.t 8) (.f 238))]
def A_q185_2 : LA := [Wi 9 .add 4 1, mv 4 9]
def A_q185_3 : ACode := (.seq (.ops [Wi 5 .lss 4 19]) (.seq (.cond (.t 5) .skip (.exit 0)) (.seq (.block 1 (.seq (.ops A_q185_0) (.ops A_q185_1))) (.ops A_q185_2))))
def A_q185_4 : LA := [mv 10 3, mv 11 3, o_ 12 (.adr 19 1 (.t 1) (.c (.int .u8 9))), Ws 1 12 10, o_ 13 (.adr 19 1 (.t 1) (.c (.int .u8 12))), Ws 1 13 11]
def A_q185_5 : LA := [o_ 14 (.adr 19 1 (.t 1) (.c (.int .u8 11))), n_ (.st 1 (.t 14) (.f 241))]
def A_q185_6 : LA := [Wd 15 19 1, Ws 19 0 15]
def A_q185 : ACode := (.seq (.ops [o_ 0 (.box 380 19 (.c (.agg [.nilf, .nilf, .nilf, .nilf, .nilf, .nilf, .nilf, .nilf, .nilf, .nilf, .nilf, .nilf, .nilf, .nilf, .nilf, .nilf, .nilf, .nilf, .nilf])))]) (.seq (.ops [o_ 1 (.box 380 19 (.c (.agg [.nilf, .nilf, .nilf, .nilf, .nilf, .nilf, .nilf, .nilf, .nilf, .nilf, .nilf, .nilf, .nilf, .nilf, .nilf, .nilf, .nilf, .nilf, .nilf])))]) (.seq (.seq (.ops [Wm 4 0]) (.block 0 (.loop A_q185_3))) (.seq (.ops [o_ 3 (.mov (.f 240))]) (.seq (.ops A_q185_4) (.seq (.ops A_q185_5) (.seq (.ops A_q185_6) .ret)))))))
def T_q185 : FC := ⟨16, A_q185, [.cella 0 19]⟩
abbrev F_q186 : Nat := 186
def A_q186_0 : LA := [o_ 5 (.box 84 3 (.t 1)), o_ 8 (.mov (.c (.nilp)))]
def A_q186_1 : LA := [mv 18 3, Wi 19 .gtr 18 100]
def A_q186_2 : LA := [mv 24 0, Wc 25 24, Wf 26 0 25, Wl 27 26, Wf 28 0 5, Wl 29 28, o_ 30 (.inv [(79, 398)] (.t 27) [(.t 29)]), mv 23 30, Wx 31 0 23, Wx 32 1 23, mv 9 31, mv 10 32]
def A_q186_3 : LA := [mv 33 10, Wi 34 .neq 33 0]
def A_q186_4 : LA := [o_ 38 (.mkmap), mv 11 38]
def A_q186_5 : LA := [Wf 39 1 5, Wl 40 39, We 41 40, Wm 42 0]
def A_q186_6 : LA := [mv 44 42, Wa 45 89 3 40 42, Wd 46 3 45, o_ 13 (.box 89 3 (.c (.agg [.int .i32 (0), .nils, .nils]))), mv 12 44, Ws 3 13 46]
def A_q186_7 : LA := [mv 48 9, Wf 49 0 13, Wl 50 49, o_ 51 (.call 139 [(.t 48), (.t 50)]), mv 47 51, Wx 52 0 47, Wx 53 1 47, o_ 14 (.box 204 9 (.c (.agg [.int .i32 (0), .str [], .str [], .int .u8 (0), .int .u8 (0), .int .u8 (0), .bool false, .int .i64 (0), .str []]))), Ws 9 14 52, mv 15 53]
def A_q186_8 : LA := [mv 54 2, Wf 55 1 14, Wl 56 55, o_ 57 (.call 242 [(.t 54), (.t 56)]), mv 16 57]
def A_q186_9 : LA := [mv 58 15, o_ 59 (.not (.t 58))]
def A_q186_10 : LA := [mv 68 12, Wi 69 .gtr 68 0, mv 70 69, Wgf 71 0 13 70, Wgl 72 71 70, Wgf 73 1 5 70, Wgl 74 73 70, Wgm 75 12 70, g_ 76 (.bini .sub (.t 75) (i_ 1)) 70, g_ 77 (.iaddr 89 3 (.t 74) (.t 76)) 70, Wgf 78 0 77 70, Wgl 79 78 70, g_ 80 (.bini .leq (.t 72) (.t 79)) 70, Wp 81 70 80, mv 67 81]
def A_q186_11 : LA := [mv 86 15, o_ 87 (.not (.t 86)), mv 85 87]
def A_q186_12 : LA := [Wf 92 7 14, Wl 93 92, Wi 94 .gtr 93 0, mv 95 94, Wgm 96 11 95, Wgf 97 7 14 95, Wgl 98 97 95, g_ 99 (.mlook .i (.int .i32 0) false (.t 96) (.t 98)) 95, g_ 100 (.bini .gtr (.t 99) (.c (.int .i32 0))) 95, Wp 101 95 100, mv 91 101]
def A_q186_13 : LA := [mv 105 11, Wf 106 7 14, Wl 107 106, Wf 108 0 13, Wl 109 108, n_ (.mupd .i (.t 105) (.t 107) (.t 109))]
def A_q186_14 : LA := [mv 110 0, Wd 111 9 14, Wd 112 3 13, mv 113 16, mv 114 3, o_ 115 (.call 244 [(.t 110), (.t 111), (.t 112), (.t 113), (.t 114)]), mv 17 115]
def A_q186_15 : LA := [mv 116 17, o_ 117 (.isnil .pt true (.t 116))]
def A_q186_16 : LA := [Wi 119 .add 42 1, mv 42 119]
def A_q186_17 : ACode := (.seq (.ops [Wb 43 .lss 42 41]) (.seq (.cond (.t 43) .skip (.exit 0)) (.seq (.block 1 (.seq (.ops A_q186_6) (.seq (.ops A_q186_7) (.seq (.ops A_q186_8) (.seq (.seq (.ops A_q186_9) (.cond (.t 59) .bad .skip)) (.seq (.block 2 (.seq (.alts [68, 69, 70, 71, 72, 73, 74, 75, 76, 77, 78, 79, 80, 81, 67] [A_q186_10]) (.cond (.t 67) .bad (.seq (.ops A_q186_11) (.cond (.t 85) .bad (.seq (.ops A_q186_12) (.cond (.t 91) .bad .skip))))))) (.seq (.ops A_q186_13) (.seq (.ops A_q186_14) (.seq (.ops A_q186_15) (.cond (.t 117) .bad .skip)))))))))) (.ops A_q186_16))))
def A_q186_18 : LA := [mv 120 0, mv 121 9, Wf 122 2 5, Wl 123 122, mv 124 2, mv 125 3, o_ 126 (.call 245 [(.t 120), (.t 121), (.t 123), (.t 124), (.t 125)]), mv 8 126]
def A_q186 : ACode := (.seq (.ops A_q186_0) (.seq (.seq (.ops A_q186_1) (.cond (.t 19) .bad .skip)) (.seq (.alts [24, 25, 26, 27, 28, 29, 30, 23, 31, 32, 9, 10] [A_q186_2]) (.seq (.seq (.ops A_q186_3) (.cond (.t 34) .bad .skip)) (.seq (.ops A_q186_4) (.seq (.seq (.ops A_q186_5) (.block 0 (.loop A_q186_17))) (.seq (.ops A_q186_18) .ret)))))))
def T_q186 : FC := ⟨127, A_q186, [.tmp 8]⟩
abbrev F_q187 : Nat := 187
def A_q187_0 : LA := [o_ 1 (.box 204 9 (.t 0)), Wo 2 false]
def A_q187_1 : LA := [Wf 3 3 1, Wl 4 3, o_ 5 (.bini .eql (.t 4) (.c (.int .u8 1))), mv 6 5, Wgf 7 4 1 6, Wgl 8 7 6, g_ 9 (.bini .neq (.t 8) (.c (.int .u8 11))) 6, Wp 10 6 9, mv 11 10, Wgf 12 7 1 11, Wgl 13 12 11, g_ 14 (.bini .eql (.t 13) (i_ 0)) 11, Wp 15 11 14, mv 2 15]
def A_q187 : ACode := (.seq (.ops A_q187_0) (.seq (.ops A_q187_1) .ret))
def T_q187 : FC := ⟨16, A_q187, [.tmp 2]⟩
abbrev F_q188 : Nat := 188
def A_q188_0 : LA := [o_ 1 (.box 93 3 (.t 0)), Wo 2 false]
def A_q188_1 : LA := [Wf 3 0 1, Wl 4 3, o_ 5 (.bini .eql (.t 4) (.c (.int .u64 0))), mv 6 5, Wgf 7 1 1 6, Wgl 8 7 6, g_ 9 (.bins .eql (.t 8) (.c (.str []))) 6, Wp 10 6 9, mv 11 10, Wgf 12 2 1 11, Wgl 13 12 11, g_ 14 (.lenl (.t 13)) 11, g_ 15 (.bini .eql (.t 14) (i_ 0)) 11, Wp 16 11 15, mv 2 16]
def A_q188 : ACode := (.seq (.ops A_q188_0) (.seq (.ops A_q188_1) .ret))
def T_q188 : FC := ⟨17, A_q188, [.tmp 2]⟩
abbrev F_q189 : Nat := 189
def A_q189_0 : LA := [mv 9 0, We 10 9, Wm 11 0]
def A_q189_1 : ACode := (.seq (.ops [Wb 12 .lss 11 10]) (.seq (.cond (.t 12) .bad (.exit 0)) .bad))
def A_q189_2 : LA := [mv 40 3, mv 2 40]
def A_q189 : ACode := (.seq (.ops [Wn 2]) (.seq (.ops [Wn 3]) (.seq (.seq (.ops A_q189_0) (.block 0 (.loop A_q189_1))) (.seq (.ops A_q189_2) .ret))))
def T_q189 : FC := ⟨41, A_q189, [.tmp 2]⟩
abbrev F_q190 : Nat := 190
def A_q190_0 : LA := [o_ 3 (.box 93 3 (.t 1)), o_ 4 (.box 93 3 (.c (.agg [.int .u64 (0), .str [], .nils])))]
def A_q190_1 : LA := [Wf 8 0 3, Wl 9 8, Wf 10 1 3, Wl 11 10, o_ 12 (.build [.int .u64 (0), .str [], .nils] [(0, 1, (.t 9)), (1, 1, (.t 11))]), o_ 5 (.box 93 3 (.c (.agg [.int .u64 (0), .str [], .nils]))), Ws 3 5 12]
def A_q190_2 : LA := [Wf 13 2 3, Wl 14 13, We 15 14, Wm 16 0]
def A_q190_3 : ACode := (.seq (.ops [Wb 17 .lss 16 15]) (.seq (.cond (.t 17) .bad (.exit 0)) .bad))
def A_q190_4 : LA := [Wd 29 3 5, Ws 3 4 29]
def A_q190 : ACode := (.seq (.ops A_q190_0) (.seq (.ops A_q190_1) (.seq (.seq (.ops A_q190_2) (.block 0 (.loop A_q190_3))) (.seq (.ops A_q190_4) .ret))))
def T_q190 : FC := ⟨30, A_q190, [.cella 4 3]⟩
abbrev F_q194 : Nat := 194
def A_q194_0 : LA := [mv 5 0, o_ 6 (.bini .eql (.t 5) (.c (.int .u8 9))), mv 7 6, Whm 8 0 7, Wh 9 (.bini .eql (.t 8) (.c (.int .u8 12))) 7, Wq 10 7 9]
def A_q194_1 : LA := [mv 11 0, mv 12 1, o_ 13 (.call 252 [(.t 11), (.t 12)]), Ws 3 4 13]
def A_q194 : ACode := (.seq (.ops [o_ 4 (.box 93 3 (.c (.agg [.int .u64 (0), .str [], .nils])))]) (.seq (.seq (.ops A_q194_0) (.cond (.t 10) (.seq (.ops A_q194_1) .ret) .bad)) .bad))
def T_q194 : FC := ⟨17, A_q194, [.cella 4 3]⟩
abbrev F_q198 : Nat := 198
def A_q198_0 : LA := [o_ 6 (.box 204 9 (.c (.agg [.int .i32 (0), .str [], .str [], .int .u8 (0), .int .u8 (0), .int .u8 (0), .bool false, .int .i64 (0), .str []]))), Wo 7 false]
def A_q198_1 : LA := [mv 8 2, o_ 9 (.not (.t 8))]
def A_q198_2 : LA := [mv 11 0, Wc 12 11, Wf 13 2 12, Wl 14 13, mv 15 1, Wa 16 204 9 14 15, Wd 17 9 16, Ws 9 6 17, Wo 7 true]
def A_q198 : ACode := (.seq (.ops A_q198_0) (.seq (.seq (.ops A_q198_1) (.cond (.t 9) .bad .skip)) (.seq (.ops A_q198_2) .ret)))
def T_q198 : FC := ⟨18, A_q198, [.cella 6 9, .tmp 7]⟩
abbrev F_q199 : Nat := 199
def A_q199_0 : LA := [mv 3 0, o_ 4 (.call 254 [(.c (.nils)), (.t 3)]), mv 2 4]
def A_q199 : ACode := (.seq (.ops [Wn 2]) (.seq (.ops A_q199_0) .ret))
def T_q199 : FC := ⟨5, A_q199, [.tmp 2]⟩
abbrev F_q200 : Nat := 200
def A_q200_0 : LA := [mv 3 0, We 4 3, mv 2 4]
def A_q200_1 : LA := [mv 5 0, mv 6 2, mv 7 2, o_ 8 (.conv .u64 (.t 7)), o_ 9 (.call 127 [(.t 8)]), o_ 10 (.call 255 [(.t 5), (i_ 0), (.t 6), (.t 9)])]
def A_q200 : ACode := (.seq (.ops A_q200_0) (.ops A_q200_1))
def T_q200 : FC := ⟨11, A_q200, []⟩
abbrev F_q201 : Nat := 201
def A_q201_0 : LA := [Wl 4 1, o_ 5 (.rngm (.t 4))]
def A_q201_1 : LA := [o_ 6 (.nxm (.t 5)), Wx 7 0 6]
def A_q201_2 : LA := [o_ 8 (.entr (.t 5)), Wx 9 0 8, mv 3 9]
def A_q201_3 : LA := [mv 10 0, mv 11 3, o_ 12 (.callv (.t 10) [(.t 11)]), o_ 13 (.not (.t 12))]
def A_q201_4 : ACode := (.seq (.ops A_q201_1) (.seq (.cond (.t 7) .skip (.exit 0)) (.block 1 (.seq (.ops A_q201_2) (.seq (.ops A_q201_3) (.cond (.t 13) .bad .skip))))))
def A_q201 : ACode := (.seq (.ops A_q201_0) (.block 0 (.loop A_q201_4)))
def T_q201 : FC := ⟨14, A_q201, []⟩
abbrev F_q204 : Nat := 204
def A_q204_0 : LA := [mv 3 0, o_ 4 (.isnilu false (.t 3))]
def A_q204_1 : LA := [o_ 5 (.bslice0 154), mv 6 0, o_ 7 (.app 154 9 80 (.t 5) (.t 6)), mv 2 7]
def A_q204 : ACode := (.seq (.ops [Wn 2]) (.seq (.seq (.ops A_q204_0) (.cond (.t 4) (.seq (.ops [Wn 2]) .ret) .skip)) (.seq (.ops A_q204_1) .ret)))
def T_q204 : FC := ⟨8, A_q204, [.tmp 2]⟩
abbrev F_q205 : Nat := 205
def A_q205_0 : LA := [mv 3 0, o_ 4 (.isnilu false (.t 3))]
def A_q205_1 : LA := [o_ 5 (.bslice0 9), mv 6 0, o_ 7 (.app 9 1 16 (.t 5) (.t 6)), mv 2 7]
def A_q205 : ACode := (.seq (.ops [Wn 2]) (.seq (.seq (.ops A_q205_0) (.cond (.t 4) (.seq (.ops [Wn 2]) .ret) .skip)) (.seq (.ops A_q205_1) .ret)))
def T_q205 : FC := ⟨8, A_q205, [.tmp 2]⟩
abbrev F_q206 : Nat := 206
def A_q206_0 : LA := [mv 3 0, o_ 4 (.isnilu false (.t 3))]
def A_q206 : ACode := (.seq (.ops [Wn 2]) (.seq (.seq (.ops A_q206_0) (.cond (.t 4) (.seq (.ops [Wn 2]) .ret) .bad)) .bad))
def T_q206 : FC := ⟨8, A_q206, [.tmp 2]⟩
abbrev F_q207 : Nat := 207
def A_q207_0 : LA := [mv 3 0, o_ 4 (.isnilu false (.t 3))]
def A_q207_1 : LA := [o_ 5 (.bslice0 158), mv 6 0, o_ 7 (.app 158 2 24 (.t 5) (.t 6)), mv 2 7]
def A_q207 : ACode := (.seq (.ops [Wn 2]) (.seq (.seq (.ops A_q207_0) (.cond (.t 4) .bad .skip)) (.seq (.ops A_q207_1) .ret)))
def T_q207 : FC := ⟨8, A_q207, [.tmp 2]⟩
abbrev F_q208 : Nat := 208
def A_q208_0 : LA := [o_ 2 (.box 142 1 (.t 0)), Wn 4]
def A_q208_1 : LA := [Wl 8 2, mv 9 5, o_ 10 (.bslice 9 1 1 [.str []] [(0, 1, (.t 9))]), o_ 11 (.app 9 1 16 (.t 8) (.t 10)), Ws 1 2 11]
def A_q208_2 : LA := [Wl 12 2, mv 4 12]
def A_q208 : ACode := (.seq (.ops A_q208_0) (.seq (.seq (.ops [mv 6 1]) (.block 0 (.rngf (.t 6) [7] (.ops [mv 5 7]) (.block 1 (.ops A_q208_1))))) (.seq (.ops A_q208_2) .ret)))
def T_q208 : FC := ⟨13, A_q208, [.tmp 4]⟩
abbrev F_q209 : Nat := 209
def A_q209_0 : LA := [mv 5 0, mv 6 1, o_ 7 (.call 268 [(.t 5), (.t 6), (i_ 0), (i_ (-1))]), mv 4 7]
def A_q209 : ACode := (.seq (.ops [Wn 4]) (.seq (.ops A_q209_0) .ret))
def T_q209 : FC := ⟨8, A_q209, [.tmp 4]⟩
abbrev F_q210 : Nat := 210
def A_q210_0 : LA := [mv 5 0, o_ 6 (.bins .eql (.t 5) (.c (.str []))), mv 7 6, Whm 8 0 7, Wh 9 (.lens (.t 8)) 7, Wh 10 (.bini .gtr (.t 9) (i_ 255)) 7, Wq 11 7 10, mv 12 11, Whm 13 0 12, Wh 14 (.idxs (.t 13) (i_ 0)) 12, Wh 15 (.call 269 [(.t 14)]) 12, Wq 16 12 15]
def A_q210_1 : LA := [mv 17 0, o_ 18 (.lens (.t 17)), Wm 19 0]
def A_q210_2 : LA := [mv 21 19, mv 3 21]
def A_q210_3 : LA := [mv 22 0, mv 23 3, o_ 24 (.idxs (.t 22) (.t 23)), mv 4 24]
def A_q210_4 : LA := [mv 25 4, o_ 26 (.call 270 [(.t 25)]), o_ 27 (.not (.t 26)), mv 28 27, Wgm 29 4 28, g_ 30 (.call 271 [(.t 29)]) 28, g_ 31 (.not (.t 30)) 28, Wp 32 28 31, mv 33 32, Wgm 34 4 33, g_ 35 (.call 269 [(.t 34)]) 33, g_ 36 (.not (.t 35)) 33, Wp 37 33 36, mv 38 37, Wgm 39 4 38, g_ 40 (.bini .neq (.t 39) (.c (.int .u8 95))) 38, Wp 41 38 40]
def A_q210_5 : LA := [Wi 42 .add 19 1, mv 19 42]
def A_q210_6 : ACode := (.seq (.ops [Wb 20 .lss 19 18]) (.seq (.cond (.t 20) .skip (.exit 0)) (.seq (.block 1 (.seq (.ops A_q210_2) (.seq (.ops A_q210_3) (.seq (.ops A_q210_4) (.cond (.t 41) .bad .skip))))) (.ops A_q210_5))))
def A_q210 : ACode := (.seq (.ops [Wo 2 false]) (.seq (.seq (.ops A_q210_0) (.cond (.t 16) .bad .skip)) (.seq (.seq (.ops A_q210_1) (.block 0 (.loop A_q210_6))) (.seq (.ops [Wo 2 true]) .ret))))
def T_q210 : FC := ⟨43, A_q210, [.tmp 2]⟩
abbrev F_q211 : Nat := 211
def A_q211_0 : LA := [mv 6 1, o_ 7 (.call 210 [(.t 6)]), mv 8 7, Wgm 9 2 8, g_ 10 (.lens (.t 9)) 8, g_ 11 (.bini .leq (.t 10) (i_ 255)) 8, Wp 12 8 11, mv 13 2, o_ 14 (.call 158 [(.t 12), (i_ 60), (.t 13)])]
def A_q211_1 : LA := [mv 15 0, Wc 16 15, Wf 17 0 16, Wl 18 17, mv 19 2, o_ 20 (.mlook .s (.int .i64 0) false (.t 18) (.t 19)), Wi 21 .add 20 1, n_ (.mupd .s (.t 18) (.t 19) (.t 21))]
def A_q211_2 : LA := [mv 22 0, Wc 23 22, Wf 24 0 23, Wl 25 24, mv 26 2, o_ 27 (.mlook .s (.int .i64 0) false (.t 25) (.t 26)), Wi 28 .eql 27 1, mv 29 2, o_ 30 (.call 158 [(.t 28), (i_ 61), (.t 29)])]
def A_q211 : ACode := (.seq (.ops A_q211_0) (.seq (.ops A_q211_1) (.ops A_q211_2)))
def T_q211 : FC := ⟨31, A_q211, []⟩
abbrev F_q212 : Nat := 212
def A_q212_0 : LA := [mv 12 0, We 13 12, Wm 14 0]
def A_q212_1 : ACode := (.seq (.ops [Wb 15 .lss 14 13]) (.seq (.cond (.t 15) .bad (.exit 0)) .bad))
def A_q212 : ACode := (.seq (.ops A_q212_0) (.block 0 (.loop A_q212_1)))
def T_q212 : FC := ⟨62, A_q212, []⟩
abbrev F_q213 : Nat := 213
def A_q213_0 : LA := [mv 7 0, We 8 7, Wm 9 0]
def A_q213_1 : ACode := (.seq (.ops [Wb 10 .lss 9 8]) (.seq (.cond (.t 10) .bad (.exit 0)) .bad))
def A_q213 : ACode := (.seq (.ops A_q213_0) (.block 0 (.loop A_q213_1)))
def T_q213 : FC := ⟨31, A_q213, []⟩
abbrev F_q214 : Nat := 214
def A_q214_0 : LA := [Wf 13 1 5, Wl 14 13, mv 15 2, Wa 16 154 9 14 15, Wd 17 9 16, Wf 18 1 5, mv 20 2, Wl 19 18, o_ 21 (.slcl 154 9 (.t 19) none (some (.t 20)) none), o_ 8 (.box 154 9 (.c (.agg [.str [], .int .i32 (0), .int .u8 (0), .int .u8 (0), .str [], .int .u8 (0), .int .i64 (0), .int .u8 (0), .str []]))), Ws 9 8 17, mv 9 21]
def A_q214_1 : LA := [Wf 13 1 5, Wl 14 13, mv 15 2, Wa 16 154 9 14 15, Wd 17 9 16, Wf 18 1 5, mv 20 2, Wl 19 18, o_ 8 (.box 154 9 (.c (.agg [.str [], .int .i32 (0), .int .u8 (0), .int .u8 (0), .str [], .int .u8 (0), .int .i64 (0), .int .u8 (0), .str []]))), o_ 21 (.slcl 154 9 (.t 19) none (some (.t 20)) none), Ws 9 8 17, mv 9 21]
def A_q214_2 : LA := [Wf 13 1 5, Wl 14 13, mv 15 2, Wa 16 154 9 14 15, Wd 17 9 16, Wf 18 1 5, mv 20 2, Wl 19 18, o_ 8 (.box 154 9 (.c (.agg [.str [], .int .i32 (0), .int .u8 (0), .int .u8 (0), .str [], .int .u8 (0), .int .i64 (0), .int .u8 (0), .str []]))), Ws 9 8 17, o_ 21 (.slcl 154 9 (.t 19) none (some (.t 20)) none), mv 9 21]
def A_q214_3 : LA := [Wf 13 1 5, Wl 14 13, mv 15 2, Wa 16 154 9 14 15, Wd 17 9 16, Wf 18 1 5, mv 20 2, o_ 8 (.box 154 9 (.c (.agg [.str [], .int .i32 (0), .int .u8 (0), .int .u8 (0), .str [], .int .u8 (0), .int .i64 (0), .int .u8 (0), .str []]))), Wl 19 18, o_ 21 (.slcl 154 9 (.t 19) none (some (.t 20)) none), Ws 9 8 17, mv 9 21]
def A_q214_4 : LA := [Wf 13 1 5, Wl 14 13, mv 15 2, Wa 16 154 9 14 15, Wd 17 9 16, Wf 18 1 5, mv 20 2, o_ 8 (.box 154 9 (.c (.agg [.str [], .int .i32 (0), .int .u8 (0), .int .u8 (0), .str [], .int .u8 (0), .int .i64 (0), .int .u8 (0), .str []]))), Wl 19 18, Ws 9 8 17, o_ 21 (.slcl 154 9 (.t 19) none (some (.t 20)) none), mv 9 21]
def A_q214_5 : LA := [Wf 13 1 5, Wl 14 13, mv 15 2, Wa 16 154 9 14 15, Wd 17 9 16, Wf 18 1 5, mv 20 2, o_ 8 (.box 154 9 (.c (.agg [.str [], .int .i32 (0), .int .u8 (0), .int .u8 (0), .str [], .int .u8 (0), .int .i64 (0), .int .u8 (0), .str []]))), Ws 9 8 17, Wl 19 18, o_ 21 (.slcl 154 9 (.t 19) none (some (.t 20)) none), mv 9 21]
def A_q214_6 : LA := [mv 22 3, Wf 23 0 8, Wl 24 23, o_ 25 (.bslice 9 1 2 [.str []] [(0, 1, (.t 22)), (1, 1, (.t 24))]), o_ 26 (.call 115 [(.t 25)]), mv 10 26]
def A_q214_7 : LA := [mv 27 0, Wf 28 0 8, Wl 29 28, mv 30 10, o_ 31 (.call 211 [(.t 27), (.t 29), (.t 30)])]
def A_q214_8 : LA := [Wf 32 6 5, Wl 33 32, Wf 34 0 8, Wl 35 34, o_ 36 (.call 125 [(.t 33), (.t 35)]), o_ 37 (.not (.t 36)), mv 38 10, o_ 39 (.call 158 [(.t 37), (i_ 63), (.t 38)])]
def A_q214_9 : LA := [Wf 40 1 8, Wl 41 40, o_ 42 (.call 272 [(.t 41)]), mv 43 42, Wgm 44 9 43, g_ 45 (.mkfn 273 [] [(.t 8)]) 43, g_ 46 (.call 215 [(.t 44), (.t 45)]) 43, g_ 47 (.not (.t 46)) 43, Wp 48 43 47, mv 49 10, o_ 50 (.call 158 [(.t 48), (i_ 62), (.t 49)])]
def A_q214_10 : LA := [Wf 51 5 5, Wl 52 51, Wf 53 1 8, Wl 54 53, o_ 55 (.call 217 [(.t 52), (.t 54)]), o_ 56 (.not (.t 55)), mv 57 10, o_ 58 (.call 158 [(.t 56), (i_ 63), (.t 57)])]
def A_q214_11 : LA := [Wf 59 2 8, Wl 60 59, o_ 61 (.bini .geq (.t 60) (.c (.int .u8 1))), mv 62 61, Wgf 63 2 8 62, Wgl 64 63 62, g_ 65 (.bini .leq (.t 64) (.c (.int .u8 4))) 62, Wp 66 62 65, mv 67 66, Wgf 68 3 8 67, Wgl 69 68 67, g_ 70 (.bini .eql (.t 69) (.c (.int .u8 0))) 67, Wgm 71 70 67, Wh 72 (.faddr 3 (.t 8)) 71, Wh 73 (.ld1 (.t 72)) 71, Wh 74 (.call 274 [(.t 73)]) 71, g_ 75 (.pick (.t 71) (.c (.bool true)) (.t 74)) 67, Wp 76 67 75, mv 77 10, o_ 78 (.call 158 [(.t 76), (i_ 69), (.t 77)])]
def A_q214_12 : LA := [Wf 79 3 8, Wl 80 79, o_ 81 (.call 275 [(.t 80)])]
def A_q214_13 : LA := [Wf 82 4 8, Wl 83 82, o_ 84 (.call 276 [(.t 83)]), mv 85 10, o_ 86 (.call 158 [(.t 84), (i_ 69), (.t 85)])]
def A_q214_14 : LA := [Wf 87 4 8, Wl 88 87, o_ 89 (.bins .eql (.t 88) (.c (.str []))), mv 90 10, o_ 91 (.call 158 [(.t 89), (i_ 69), (.t 90)])]
def A_q214_15 : LA := [Wf 92 2 8, Wl 93 92, o_ 94 (.bini .eql (.t 93) (.c (.int .u8 4)))]
def A_q214_16 : LA := [Wf 95 5 8, Wl 96 95, o_ 97 (.call 277 [(.t 96)]), mv 98 10, o_ 99 (.call 158 [(.t 97), (i_ 65), (.t 98)])]
def A_q214_17 : LA := [Wf 100 5 8, Wl 101 100, o_ 102 (.bini .eql (.t 101) (.c (.int .u8 0))), mv 103 10, o_ 104 (.call 158 [(.t 102), (i_ 65), (.t 103)])]
def A_q214_18 : LA := [Wf 105 6 8, Wl 106 105, Wi 107 .geq 106 0, mv 108 107, Wgf 109 6 8 108, Wgl 110 109 108, Wgf 111 2 5 108, Wgl 112 111 108, g_ 113 (.lenl (.t 112)) 108, g_ 114 (.bini .leq (.t 110) (.t 113)) 108, Wp 115 108 114, mv 116 115, Wgf 117 6 8 116, Wgl 118 117 116, g_ 119 (.bini .eql (.t 118) (i_ 0)) 116, Wgm 120 119 116, Wh 121 (.faddr 2 (.t 8)) 120, Wh 122 (.ld1 (.t 121)) 120, Wh 123 (.bini .eql (.t 122) (.c (.int .u8 1))) 120, g_ 124 (.pick (.t 120) (.c (.bool true)) (.t 123)) 116, Wp 125 116 124, mv 126 10, o_ 127 (.call 158 [(.t 125), (i_ 64), (.t 126)])]
def A_q214_19 : LA := [Wf 128 7 8, Wl 129 128, o_ 130 (.bini .leq (.t 129) (.c (.int .u8 2))), mv 131 130, Wgf 132 7 8 131, Wgl 133 132 131, g_ 134 (.bini .eql (.t 133) (.c (.int .u8 0))) 131, Wgm 135 134 131, Wh 136 (.faddr 2 (.t 8)) 135, Wh 137 (.ld1 (.t 136)) 135, Wh 138 (.bini .eql (.t 137) (.c (.int .u8 3))) 135, Whm 139 138 135, Wgf 140 3 8 139, Wgl 141 140 139, g_ 142 (.call 278 [(.t 141)]) 139, Wh 143 (.pick (.t 139) (.t 142) (.c (.bool false))) 135, g_ 144 (.pick (.t 135) (.c (.bool true)) (.t 143)) 131, Wp 145 131 144, mv 146 10, o_ 147 (.call 158 [(.t 145), (i_ 67), (.t 146)])]
def A_q214_20 : LA := [Wf 148 8 8, Wl 149 148, o_ 150 (.call 279 [(.t 149)]), Wi 151 .lss 150 0, mv 152 151, Wgf 153 8 8 152, Wgl 154 153 152, g_ 155 (.lens (.t 154)) 152, g_ 156 (.bini .leq (.t 155) (i_ 255)) 152, Wp 157 152 156, mv 158 157, Wgf 159 8 8 158, Wgl 160 159 158, g_ 161 (.call 280 [(.t 160), (.c (.str [64]))]) 158, g_ 162 (.not (.t 161)) 158, Wp 163 158 162, mv 164 10, o_ 165 (.call 158 [(.t 163), (i_ 60), (.t 164)])]
def A_q214_21 : LA := [mv 166 9, We 167 166, Wm 168 0]
def A_q214_22 : LA := [Wa 170 154 9 166 168, Wd 171 9 170, o_ 12 (.box 154 9 (.c (.agg [.str [], .int .i32 (0), .int .u8 (0), .int .u8 (0), .str [], .int .u8 (0), .int .i64 (0), .int .u8 (0), .str []]))), Ws 9 12 171]
def A_q214_23 : LA := [Wd 172 9 12, Wd 174 9 8, mv 191 10, o_ 173 (.acall 281 [(.t 172)]), o_ 175 (.acall 281 [(.t 174)]), o_ 176 (.bins .neq (.t 173) (.t 175)), mv 177 176, g_ 178 (.lda 9 (.t 12)) 177, Wgf 180 0 8 177, Wgl 181 180 177, g_ 179 (.acall 281 [(.t 178)]) 177, g_ 182 (.bins .neq (.t 179) (.t 181)) 177, Wp 183 177 182, mv 184 183, Wgf 185 0 12 184, Wgl 186 185 184, g_ 187 (.lda 9 (.t 8)) 184, g_ 188 (.acall 281 [(.t 187)]) 184, g_ 189 (.bins .neq (.t 186) (.t 188)) 184, Wp 190 184 189, o_ 192 (.acall 158 [(.t 190), (i_ 61), (.t 191)])]
def A_q214_24 : LA := [Wi 193 .add 168 1, mv 168 193]
def A_q214_25 : ACode := (.seq (.ops [Wb 169 .lss 168 167]) (.seq (.cond (.t 169) .skip (.exit 0)) (.seq (.block 1 (.seq (.ops A_q214_22) (.alts [172, 173, 174, 175, 176, 177, 178, 179, 180, 181, 182, 183, 184, 185, 186, 187, 188, 189, 190, 191, 192] [A_q214_23]))) (.ops A_q214_24))))
def A_q214 : ACode := (.seq (.ops [o_ 5 (.box 150 7 (.t 1))]) (.seq (.alts [13, 14, 15, 16, 17, 18, 19, 20, 21, 8, 9] [A_q214_0, A_q214_1, A_q214_2, A_q214_3, A_q214_4, A_q214_5]) (.seq (.ops A_q214_6) (.seq (.ops A_q214_7) (.seq (.ops A_q214_8) (.seq (.ops A_q214_9) (.seq (.ops A_q214_10) (.seq (.ops A_q214_11) (.seq (.seq (.ops A_q214_12) (.cond (.t 81) (.ops A_q214_13) (.ops A_q214_14))) (.seq (.seq (.ops A_q214_15) (.cond (.t 94) (.ops A_q214_16) (.ops A_q214_17))) (.seq (.ops A_q214_18) (.seq (.ops A_q214_19) (.seq (.ops A_q214_20) (.seq (.ops A_q214_21) (.block 0 (.loop A_q214_25))))))))))))))))
def T_q214 : FC := ⟨194, A_q214, []⟩
abbrev F_q215 : Nat := 215
def A_q215_0 : LA := [mv 5 0, mv 6 1, o_ 7 (.call 282 [(.t 5), (.t 6)]), Wi 8 .geq 7 0, mv 4 8]
def A_q215 : ACode := (.seq (.ops [Wo 4 false]) (.seq (.ops A_q215_0) .ret))
def T_q215 : FC := ⟨9, A_q215, [.tmp 4]⟩
abbrev F_q216 : Nat := 216
def A_q216_0 : LA := [o_ 2 (.box 154 9 (.t 0)), Wo 3 false]
def A_q216_1 : LA := [Wf 4 6 2, Wl 5 4, Wl 6 1, Wi 7 .add 6 1, Wb 8 .eql 5 7, mv 3 8]
def A_q216 : ACode := (.seq (.ops A_q216_0) (.seq (.ops A_q216_1) .ret))
def T_q216 : FC := ⟨9, A_q216, [.tmp 3]⟩
abbrev F_q217 : Nat := 217
def A_q217_0 : LA := [o_ 3 (.box 21 1 (.t 1)), Wo 4 false]
def A_q217_1 : LA := [mv 5 0, o_ 6 (.mkfn 284 [] [(.t 3)]), o_ 7 (.call 283 [(.t 5), (.t 6)]), mv 4 7]
def A_q217 : ACode := (.seq (.ops A_q217_0) (.seq (.ops A_q217_1) .ret))
def T_q217 : FC := ⟨8, A_q217, [.tmp 4]⟩
abbrev F_q218 : Nat := 218
def A_q218_0 : LA := [mv 5 0, mv 6 1, o_ 7 (.call 285 [(.t 5), (.t 6)]), Wi 8 .geq 7 0, mv 4 8]
def A_q218 : ACode := (.seq (.ops [Wo 4 false]) (.seq (.ops A_q218_0) .ret))
def T_q218 : FC := ⟨9, A_q218, [.tmp 4]⟩
abbrev F_q220 : Nat := 220
def A_q220_0 : LA := [mv 5 0, mv 6 1, o_ 7 (.call 286 [(.t 5), (.t 6)]), mv 4 7]
def A_q220 : ACode := (.seq (.ops [Wm 4 0]) (.seq (.ops A_q220_0) .ret))
def T_q220 : FC := ⟨8, A_q220, [.tmp 4]⟩
abbrev F_q221 : Nat := 221
def A_q221_0 : LA := [mv 4 0, o_ 5 (.call 287 [(.t 4)])]
def A_q221_1 : LA := [mv 6 1, Wi 7 .lss 6 0]
def A_q221_2 : LA := [mv 9 0, Wc 10 9, Wf 11 1 10, Wl 12 11, o_ 13 (.capk (.t 12)), mv 14 0, Wc 15 14, Wf 16 1 15, Wl 17 16, We 18 17, Wb 19 .sub 13 18, mv 20 1, Wb 21 .lss 19 20]
def A_q221_3 : LA := [mv 22 0, mv 23 1, o_ 24 (.call 288 [(.t 22), (.t 23)])]
def A_q221 : ACode := (.seq (.ops A_q221_0) (.seq (.seq (.ops A_q221_1) (.cond (.t 7) .bad .skip)) (.seq (.alts [9, 10, 11, 12, 13, 14, 15, 16, 17, 18, 19, 20, 21] [A_q221_2]) (.cond (.t 21) (.ops A_q221_3) .bad))))
def T_q221 : FC := ⟨25, A_q221, []⟩
abbrev F_q222 : Nat := 222
def A_q222_0 : LA := [Wm 4 0, o_ 5 (.mov (.c (.nili)))]
def A_q222_1 : LA := [mv 6 0, o_ 7 (.call 287 [(.t 6)])]
def A_q222_2 : LA := [mv 8 0, mv 9 0, Wc 10 9, Wf 11 1 10, Wl 12 11, mv 13 1, o_ 14 (.app 5 1 1 (.t 12) (.t 13)), Wc 15 8, Wf 16 1 15, Ws 1 16 14]
def A_q222_3 : LA := [mv 17 1, o_ 18 (.lens (.t 17)), mv 4 18, o_ 5 (.mov (.c (.nili)))]
def A_q222 : ACode := (.seq (.ops A_q222_0) (.seq (.ops A_q222_1) (.seq (.ops A_q222_2) (.seq (.ops A_q222_3) .ret))))
def T_q222 : FC := ⟨19, A_q222, [.tmp 4, .tmp 5]⟩
abbrev F_q223 : Nat := 223
def A_q223_0 : LA := [mv 3 0, Wc 4 3, Wf 5 1 4, Wl 6 5, o_ 7 (.usd (.t 6)), mv 8 0, Wc 9 8, Wf 10 1 9, Wl 11 10, We 12 11, o_ 13 (.ustr 5 (.t 7) (.t 12)), mv 2 13]
def A_q223 : ACode := (.seq (.ops [o_ 2 (.mov (.c (.str [])))]) (.seq (.alts [3, 4, 5, 6, 7, 8, 9, 10, 11, 12, 13, 2] [A_q223_0]) .ret))
def T_q223 : FC := ⟨14, A_q223, [.tmp 2]⟩
abbrev F_q224 : Nat := 224
def A_q224_0 : LA := [mv 10 1, Wi 11 .add 10 1, mv 8 11]
def A_q224_1 : LA := [mv 12 8, mv 13 2, Wb 14 .lss 12 13]
def A_q224_2 : LA := [mv 17 8, mv 9 17]
def A_q224_3 : LA := [mv 18 9, mv 19 1, Wb 20 .gtr 18 19, mv 21 20, Wgm 22 3 21, Wgm 23 0 21, Wgm 24 9 21, g_ 25 (.iaddr 201 3 (.t 23) (.t 24)) 21, g_ 26 (.lda 3 (.t 25)) 21, Wgm 27 0 21, Wgm 28 9 21, g_ 29 (.bini .sub (.t 28) (i_ 1)) 21, g_ 30 (.iaddr 201 3 (.t 27) (.t 29)) 21, g_ 31 (.lda 3 (.t 30)) 21, g_ 32 (.callv (.t 22) [(.t 26), (.t 31)]) 21, g_ 33 (.bini .lss (.t 32) (i_ 0)) 21, Wp 34 21 33]
def A_q224_4 : LA := [mv 37 0, mv 38 9, mv 39 0, mv 40 9, Wi 41 .sub 40 1, mv 42 0, mv 43 9, Wi 44 .sub 43 1, Wa 45 201 3 42 44, Wd 46 3 45, mv 47 0, mv 48 9, Wa 49 201 3 47 48, Wd 50 3 49, Wa 51 201 3 37 38, Ws 3 51 46, Wa 52 201 3 39 41, Ws 3 52 50]
def A_q224_5 : LA := [mv 35 9, Wi 36 .sub 35 1, mv 9 36]
def A_q224_6 : ACode := (.seq (.seq (.alts [18, 19, 20, 21, 22, 23, 24, 25, 26, 27, 28, 29, 30, 31, 32, 33, 34] [A_q224_3]) (.cond (.t 34) .skip (.exit 2))) (.seq (.block 3 (.alts [37, 38, 39, 40, 41, 42, 43, 44, 45, 46, 47, 48, 49, 50, 51, 52] [A_q224_4])) (.ops A_q224_5)))
def A_q224_7 : LA := [mv 15 8, Wi 16 .add 15 1, mv 8 16]
def A_q224_8 : ACode := (.seq (.seq (.ops A_q224_1) (.cond (.t 14) .skip (.exit 0))) (.seq (.block 1 (.seq (.ops A_q224_2) (.block 2 (.loop A_q224_6)))) (.ops A_q224_7)))
def A_q224 : ACode := (.seq (.ops A_q224_0) (.block 0 (.loop A_q224_8)))
def T_q224 : FC := ⟨53, A_q224, []⟩
abbrev F_q225 : Nat := 225
def A_q225_0 : LA := [mv 25 2, mv 26 1, Wb 27 .sub 25 26, Wi 28 .eql 27 1]
def A_q225_1 : LA := [mv 29 2, mv 10 29]
def A_q225_2 : LA := [mv 30 3, mv 11 30]
def A_q225_3 : LA := [mv 31 10, mv 32 11, Wb 33 .lss 31 32]
def A_q225_4 : LA := [mv 34 10, mv 35 11, Wb 36 .add 34 35, o_ 37 (.conv .u64 (.t 36)), o_ 38 (.bini .shr (.t 37) (.c (.int .u64 1))), o_ 39 (.conv .i64 (.t 38)), mv 12 39]
def A_q225_5 : LA := [mv 40 4, mv 41 0, mv 42 12, Wa 43 201 3 41 42, Wd 44 3 43, mv 45 0, mv 46 1, Wa 47 201 3 45 46, Wd 48 3 47, o_ 49 (.callv (.t 40) [(.t 44), (.t 48)]), Wi 50 .lss 49 0]
def A_q225_6 : LA := [mv 51 12, Wi 52 .add 51 1, mv 10 52]
def A_q225_7 : LA := [mv 53 12, mv 11 53]
def A_q225_8 : ACode := (.seq (.seq (.ops A_q225_3) (.cond (.t 33) .skip (.exit 0))) (.block 1 (.seq (.ops A_q225_4) (.seq (.alts [40, 41, 42, 43, 44, 45, 46, 47, 48, 49, 50] [A_q225_5]) (.cond (.t 50) (.ops A_q225_6) (.ops A_q225_7))))))
def A_q225_9 : LA := [mv 54 1, mv 13 54]
def A_q225_10 : LA := [mv 55 13, mv 56 10, Wi 57 .sub 56 1, Wb 58 .lss 55 57]
def A_q225_11 : LA := [mv 61 0, mv 62 13, mv 63 0, mv 64 13, Wi 65 .add 64 1, mv 66 0, mv 67 13, Wi 68 .add 67 1, Wa 69 201 3 66 68, Wd 70 3 69, mv 71 0, mv 72 13, Wa 73 201 3 71 72, Wd 74 3 73, Wa 75 201 3 61 62, Ws 3 75 70, Wa 76 201 3 63 65, Ws 3 76 74]
def A_q225_12 : LA := [mv 59 13, Wi 60 .add 59 1, mv 13 60]
def A_q225_13 : ACode := (.seq (.seq (.ops A_q225_10) (.cond (.t 58) .skip (.exit 2))) (.seq (.block 3 (.alts [61, 62, 63, 64, 65, 66, 67, 68, 69, 70, 71, 72, 73, 74, 75, 76] [A_q225_11])) (.ops A_q225_12)))
def A_q225_14 : LA := [mv 77 3, mv 78 2, Wb 79 .sub 77 78, Wi 80 .eql 79 1]
def A_q225_15 : LA := [mv 81 1, mv 14 81]
def A_q225_16 : LA := [mv 82 2, mv 15 82]
def A_q225_17 : LA := [mv 83 14, mv 84 15, Wb 85 .lss 83 84]
def A_q225_18 : LA := [mv 86 14, mv 87 15, Wb 88 .add 86 87, o_ 89 (.conv .u64 (.t 88)), o_ 90 (.bini .shr (.t 89) (.c (.int .u64 1))), o_ 91 (.conv .i64 (.t 90)), mv 16 91]
def A_q225_19 : LA := [mv 92 4, mv 93 0, mv 94 2, Wa 95 201 3 93 94, Wd 96 3 95, mv 97 0, mv 98 16, Wa 99 201 3 97 98, Wd 100 3 99, o_ 101 (.callv (.t 92) [(.t 96), (.t 100)]), Wi 102 .lss 101 0, o_ 103 (.not (.t 102))]
def A_q225_20 : LA := [mv 104 16, Wi 105 .add 104 1, mv 14 105]
def A_q225_21 : LA := [mv 106 16, mv 15 106]
def A_q225_22 : ACode := (.seq (.seq (.ops A_q225_17) (.cond (.t 85) .skip (.exit 4))) (.block 5 (.seq (.ops A_q225_18) (.seq (.alts [92, 93, 94, 95, 96, 97, 98, 99, 100, 101, 102, 103] [A_q225_19]) (.cond (.t 103) (.ops A_q225_20) (.ops A_q225_21))))))
def A_q225_23 : LA := [mv 107 2, mv 17 107]
def A_q225_24 : LA := [mv 108 17, mv 109 14, Wb 110 .gtr 108 109]
def A_q225_25 : LA := [mv 113 0, mv 114 17, mv 115 0, mv 116 17, Wi 117 .sub 116 1, mv 118 0, mv 119 17, Wi 120 .sub 119 1, Wa 121 201 3 118 120, Wd 122 3 121, mv 123 0, mv 124 17, Wa 125 201 3 123 124, Wd 126 3 125, Wa 127 201 3 113 114, Ws 3 127 122, Wa 128 201 3 115 117, Ws 3 128 126]
def A_q225_26 : LA := [mv 111 17, Wi 112 .sub 111 1, mv 17 112]
def A_q225_27 : ACode := (.seq (.seq (.ops A_q225_24) (.cond (.t 110) .skip (.exit 6))) (.seq (.block 7 (.alts [113, 114, 115, 116, 117, 118, 119, 120, 121, 122, 123, 124, 125, 126, 127, 128] [A_q225_25])) (.ops A_q225_26)))
def A_q225_28 : LA := [mv 129 1, mv 130 3, Wb 131 .add 129 130, o_ 132 (.conv .u64 (.t 131)), o_ 133 (.bini .shr (.t 132) (.c (.int .u64 1))), o_ 134 (.conv .i64 (.t 133)), mv 18 134]
def A_q225_29 : LA := [mv 135 18, mv 136 2, Wb 137 .add 135 136, mv 19 137]
def A_q225_30 : LA := [Wm 20 0, Wm 21 0]
def A_q225_31 : LA := [mv 138 2, mv 139 18, Wb 140 .gtr 138 139]
def A_q225_32 : LA := [mv 141 19, mv 142 3, Wb 143 .sub 141 142, mv 20 143]
def A_q225_33 : LA := [mv 144 18, mv 21 144]
def A_q225_34 : LA := [mv 145 1, mv 20 145]
def A_q225_35 : LA := [mv 146 2, mv 21 146]
def A_q225_36 : LA := [mv 147 19, Wi 148 .sub 147 1, mv 22 148]
def A_q225_37 : LA := [mv 149 20, mv 150 21, Wb 151 .lss 149 150]
def A_q225_38 : LA := [mv 152 20, mv 153 21, Wb 154 .add 152 153, o_ 155 (.conv .u64 (.t 154)), o_ 156 (.bini .shr (.t 155) (.c (.int .u64 1))), o_ 157 (.conv .i64 (.t 156)), mv 23 157]
def A_q225_39 : LA := [mv 158 4, mv 159 0, mv 160 22, mv 161 23, Wb 162 .sub 160 161, Wa 163 201 3 159 162, Wd 164 3 163, mv 165 0, mv 166 23, Wa 167 201 3 165 166, Wd 168 3 167, o_ 169 (.callv (.t 158) [(.t 164), (.t 168)]), Wi 170 .lss 169 0, o_ 171 (.not (.t 170))]
def A_q225_40 : LA := [mv 172 23, Wi 173 .add 172 1, mv 20 173]
def A_q225_41 : LA := [mv 174 23, mv 21 174]
def A_q225_42 : ACode := (.seq (.seq (.ops A_q225_37) (.cond (.t 151) .skip (.exit 8))) (.block 9 (.seq (.ops A_q225_38) (.seq (.alts [158, 159, 160, 161, 162, 163, 164, 165, 166, 167, 168, 169, 170, 171] [A_q225_39]) (.cond (.t 171) (.ops A_q225_40) (.ops A_q225_41))))))
def A_q225_43 : LA := [mv 175 19, mv 176 20, Wb 177 .sub 175 176, mv 24 177]
def A_q225_44 : LA := [mv 178 20, mv 179 2, Wb 180 .lss 178 179, mv 181 180, Wgm 182 2 181, Wgm 183 24 181, g_ 184 (.bini .lss (.t 182) (.t 183)) 181, Wp 185 181 184]
def A_q225_45 : LA := [mv 186 0, mv 187 20, mv 188 2, mv 189 24, mv 190 4, o_ 191 (.call 289 [(.t 186), (.t 187), (.t 188), (.t 189), (.t 190)])]
def A_q225_46 : LA := [mv 192 1, mv 193 20, Wb 194 .lss 192 193, mv 195 194, Wgm 196 20 195, Wgm 197 18 195, g_ 198 (.bini .lss (.t 196) (.t 197)) 195, Wp 199 195 198]
def A_q225_47 : LA := [mv 200 0, mv 201 1, mv 202 20, mv 203 18, mv 204 4, o_ 205 (.call 225 [(.t 200), (.t 201), (.t 202), (.t 203), (.t 204)])]
def A_q225_48 : LA := [mv 206 18, mv 207 24, Wb 208 .lss 206 207, mv 209 208, Wgm 210 24 209, Wgm 211 3 209, g_ 212 (.bini .lss (.t 210) (.t 211)) 209, Wp 213 209 212]
def A_q225_49 : LA := [mv 214 0, mv 215 18, mv 216 24, mv 217 3, mv 218 4, o_ 219 (.call 225 [(.t 214), (.t 215), (.t 216), (.t 217), (.t 218)])]
def A_q225 : ACode := (.seq (.seq (.ops A_q225_0) (.cond (.t 28) (.seq (.ops A_q225_1) (.seq (.ops A_q225_2) (.seq (.block 0 (.loop A_q225_8)) (.seq (.seq (.ops A_q225_9) (.block 2 (.loop A_q225_13))) .ret)))) .skip)) (.seq (.seq (.ops A_q225_14) (.cond (.t 80) (.seq (.ops A_q225_15) (.seq (.ops A_q225_16) (.seq (.block 4 (.loop A_q225_22)) (.seq (.seq (.ops A_q225_23) (.block 6 (.loop A_q225_27))) .ret)))) .skip)) (.seq (.ops A_q225_28) (.seq (.ops A_q225_29) (.seq (.ops A_q225_30) (.seq (.seq (.ops A_q225_31) (.cond (.t 140) (.seq (.ops A_q225_32) (.ops A_q225_33)) (.seq (.ops A_q225_34) (.ops A_q225_35)))) (.seq (.ops A_q225_36) (.seq (.block 8 (.loop A_q225_42)) (.seq (.ops A_q225_43) (.seq (.seq (.ops A_q225_44) (.cond (.t 185) (.ops A_q225_45) .skip)) (.seq (.seq (.ops A_q225_46) (.cond (.t 199) (.ops A_q225_47) .skip)) (.seq (.ops A_q225_48) (.cond (.t 213) (.ops A_q225_49) .skip)))))))))))))
def T_q225 : FC := ⟨220, A_q225, []⟩
abbrev F_q226 : Nat := 226
def A_q226_0 : LA := [mv 3 0, o_ 4 (.bini .eql (.t 3) (.c (.int .u8 1))), mv 5 4, Whm 6 0 5, Wh 7 (.bini .eql (.t 6) (.c (.int .u8 2))) 5, Wq 8 5 7, mv 2 8]
def A_q226 : ACode := (.seq (.ops [Wo 2 false]) (.seq (.ops A_q226_0) .ret))
def T_q226 : FC := ⟨9, A_q226, [.tmp 2]⟩
abbrev F_q227 : Nat := 227
def A_q227_0 : LA := [mv 8 1, We 9 8, Wm 10 0]
def A_q227_1 : LA := [Wa 12 9 1 8 10, Wl 13 12, mv 7 13]
def A_q227_2 : LA := [mv 14 5, mv 15 0, Wc 16 15, Wf 17 0 16, Wl 18 17, mv 19 7, o_ 20 (.mlook .s (.nilp) false (.t 18) (.t 19)), o_ 21 (.bslice 237 1 1 [.nilp] [(0, 1, (.t 20))]), o_ 22 (.app 237 1 8 (.t 14) (.t 21)), mv 5 22]
def A_q227_3 : LA := [Wi 23 .add 10 1, mv 10 23]
def A_q227_4 : ACode := (.seq (.ops [Wb 11 .lss 10 9]) (.seq (.cond (.t 11) .skip (.exit 0)) (.seq (.block 1 (.seq (.ops A_q227_1) (.ops A_q227_2))) (.ops A_q227_3))))
def A_q227_5 : LA := [mv 24 5, mv 4 24]
def A_q227 : ACode := (.seq (.ops [Wn 4]) (.seq (.ops [Wn 5]) (.seq (.seq (.ops A_q227_0) (.block 0 (.loop A_q227_4))) (.seq (.ops A_q227_5) .ret))))
def T_q227 : FC := ⟨25, A_q227, [.tmp 4]⟩
abbrev F_q228 : Nat := 228
def A_q228_0 : LA := [o_ 1 (.box 239 1 (.t 0)), o_ 2 (.mov (.c (.nilf)))]
def A_q228_1 : LA := [o_ 3 (.mkfn 290 [] [(.t 1)]), mv 2 3]
def A_q228 : ACode := (.seq (.ops A_q228_0) (.seq (.ops A_q228_1) .ret))
def T_q228 : FC := ⟨4, A_q228, [.tmp 2]⟩
abbrev F_q229 : Nat := 229
def A_q229_0 : LA := [o_ 5 (.box 429 1 (.t 1)), o_ 7 (.box 9 1 (.t 3)), o_ 8 (.box 9 1 (.c (.str []))), o_ 9 (.box 4 1 (.c (.bool false)))]
def A_q229_1 : LA := [Wl 22 7, o_ 23 (.call 291 [(.t 22), (.c (.str [46]))]), mv 21 23, Wx 24 0 21, Wx 25 1 21, mv 10 24, mv 11 25]
def A_q229_2 : LA := [Wl 29 7, o_ 30 (.call 292 [(.t 29), (.c (.str [46]))]), mv 28 30, Wx 31 0 28, Wx 32 1 28, Wx 33 2 28, o_ 12 (.box 9 1 (.c (.str []))), o_ 14 (.box 4 1 (.c (.bool false))), Ws 1 12 31, mv 13 32, Ws 1 14 33]
def A_q229_3 : LA := [mv 34 2, o_ 35 (.call 113 [(.t 34)])]
def A_q229_4 : LA := [mv 37 15, Wl 38 12, o_ 39 (.bslice 9 1 2 [.str []] [(0, 1, (.t 37)), (1, 1, (.t 38))]), o_ 40 (.call 115 [(.t 39)]), mv 16 40]
def A_q229_5 : LA := [Wl 41 5, We 42 41, Wm 43 0]
def A_q229_6 : LA := [Wa 45 237 1 41 43, Wl 46 45, mv 18 46]
def A_q229_7 : LA := [mv 47 18, Wc 48 47, Wf 49 6 48, Wl 50 49, mv 51 16, o_ 52 (.mlook .s (.int .u8 0) false (.t 50) (.t 51)), mv 19 52]
def A_q229_8 : LA := [Wl 53 14, mv 54 53, Wgm 55 18 54, g_ 56 (.nilc (.t 55)) 54, Wgf 57 0 56 54, Wgf 58 1 57 54, Wgl 59 58 54, Wgm 60 16 54, g_ 61 (.bins .eql (.t 59) (.t 60)) 54, Wgm 62 61 54, Whm 63 18 62, Wh 64 (.nilc (.t 63)) 62, Wh 65 (.faddr 0 (.t 64)) 62, Wh 66 (.faddr 1 (.t 65)) 62, Wh 67 (.ld1 (.t 66)) 62, Whm 68 16 62, Wh 69 (.bins .add (.t 68) (.c (.str [46]))) 62, Wh 70 (.call 293 [(.t 67), (.t 69)]) 62, g_ 71 (.pick (.t 62) (.c (.bool true)) (.t 70)) 54, Wp 72 54 71, mv 20 72]
def A_q229_9 : LA := [mv 73 19, o_ 74 (.bini .eql (.t 73) (.c (.int .u8 1))), mv 75 74, Wh 76 (.ld1 (.t 14)) 75, Wh 77 (.not (.t 76)) 75, Whm 78 77 75, Wgm 79 19 78, g_ 80 (.bini .eql (.t 79) (.c (.int .u8 2))) 78, Wh 81 (.pick (.t 78) (.t 80) (.c (.bool false))) 75, Wq 82 75 81, mv 83 82, Whm 84 20 83, Wq 85 83 84]
def A_q229_10 : LA := [mv 86 15, Wl 87 7, o_ 88 (.bslice 9 1 2 [.str []] [(0, 1, (.t 86)), (1, 1, (.t 87))]), o_ 89 (.call 115 [(.t 88)]), Ws 1 8 89, n_ (.st 1 (.t 9) (.c (.bool true)))]
def A_q229_11 : LA := [Wi 90 .add 43 1, mv 43 90]
def A_q229_12 : ACode := (.seq (.ops [Wb 44 .lss 43 42]) (.seq (.cond (.t 44) .skip (.exit 2)) (.seq (.block 3 (.seq (.ops A_q229_6) (.seq (.ops A_q229_7) (.seq (.ops A_q229_8) (.seq (.ops A_q229_9) (.cond (.t 85) (.seq (.ops A_q229_10) .ret) .skip)))))) (.ops A_q229_11))))
def A_q229_13 : LA := [n_ (.st 1 (.t 8) (.c (.str []))), n_ (.st 1 (.t 9) (.c (.bool false)))]
def A_q229 : ACode := (.seq (.ops A_q229_0) (.seq (.seq (.ops A_q229_1) (.seq (.ops [mv 26 11]) (.cond (.t 26) .bad .skip))) (.seq (.ops A_q229_2) (.seq (.seq (.ops A_q229_3) (.block 0 (.rngf (.t 35) [36] (.ops [mv 15 36]) (.block 1 (.seq (.ops A_q229_4) (.seq (.ops A_q229_5) (.block 2 (.loop A_q229_12)))))))) (.seq (.ops A_q229_13) .ret)))))
def T_q229 : FC := ⟨91, A_q229, [.cell1 8, .cell1 9]⟩
abbrev F_q230 : Nat := 230
def A_q230_0 : LA := [mv 8 0, We 9 8, Wm 10 0]
def A_q230_1 : LA := [Wa 12 237 1 8 10, Wl 13 12, mv 6 13]
def A_q230_2 : LA := [mv 14 6, Wc 15 14, Wf 16 6 15, Wl 17 16, mv 18 1, o_ 19 (.mlook .s (.int .u8 0) false (.t 17) (.t 18)), mv 7 19]
def A_q230_3 : LA := [mv 20 7, o_ 21 (.bini .neq (.t 20) (.c (.int .u8 0)))]
def A_q230_4 : LA := [mv 22 7, mv 4 22]
def A_q230_5 : LA := [Wi 23 .add 10 1, mv 10 23]
def A_q230_6 : ACode := (.seq (.ops [Wb 11 .lss 10 9]) (.seq (.cond (.t 11) .skip .bad) (.seq (.block 1 (.seq (.ops A_q230_1) (.seq (.ops A_q230_2) (.seq (.ops A_q230_3) (.cond (.t 21) (.seq (.ops A_q230_4) .ret) .bad))))) (.ops A_q230_5))))
def A_q230 : ACode := (.seq (.ops [o_ 4 (.mov (.c (.int .u8 0)))]) (.seq (.seq (.ops A_q230_0) (.block 0 (.loop A_q230_6))) (.seq (.ops [o_ 4 (.mov (.c (.int .u8 0)))]) .ret)))
def T_q230 : FC := ⟨24, A_q230, [.tmp 4]⟩
abbrev F_q240 : Nat := 240
def A_q240_0 : LA := [o_ 2 (.box 93 3 (.t 0)), Wo 4 false]
def A_q240_1 : LA := [Wf 5 0 2, Wl 6 5, o_ 7 (.bini .eql (.t 6) (.c (.int .u64 0))), mv 8 7, Wgf 9 2 2 8, Wgl 10 9 8, g_ 11 (.lenl (.t 10)) 8, g_ 12 (.bini .eql (.t 11) (i_ 0)) 8, Wp 13 8 12, mv 4 13]
def A_q240 : ACode := (.seq (.ops A_q240_0) (.seq (.ops A_q240_1) .ret))
def T_q240 : FC := ⟨14, A_q240, [.tmp 4]⟩
abbrev F_q242 : Nat := 242
def A_q242_0 : LA := [mv 5 0, o_ 6 (.bins .eql (.t 5) (.c (.str [])))]
def A_q242_1 : LA := [mv 7 1, mv 4 7]
def A_q242 : ACode := (.seq (.ops [o_ 4 (.mov (.c (.str [])))]) (.seq (.seq (.ops A_q242_0) (.cond (.t 6) (.seq (.ops A_q242_1) .ret) .bad)) .bad))
def T_q242 : FC := ⟨12, A_q242, [.tmp 4]⟩
abbrev F_q244 : Nat := 244
def A_q244_0 : LA := [o_ 6 (.box 204 9 (.t 1)), o_ 7 (.box 89 3 (.t 2)), o_ 10 (.mov (.c (.nilp)))]
def A_q244_1 : LA := [Wf 18 3 6, Wl 19 18, o_ 20 (.bini .eql (.t 19) (.c (.int .u8 3))), mv 21 20, Wh 22 (.faddr 3 (.t 6)) 21, Wh 23 (.ld1 (.t 22)) 21, Wh 24 (.bini .eql (.t 23) (.c (.int .u8 4))) 21, Wq 25 21 24, mv 11 25]
def A_q244_2 : LA := [Wf 26 3 6, Wl 27 26, o_ 28 (.bini .eql (.t 27) (.c (.int .u8 4)))]
def A_q244_3 : LA := [Wf 32 2 7, Wl 33 32, We 34 33, Wi 35 .eql 34 0, mv 36 35, Whm 37 11 36, Wh 38 (.not (.t 37)) 36, Whm 39 38 36, Wgf 40 2 7 39, Wgl 41 40 39, g_ 42 (.lenl (.t 41)) 39, g_ 43 (.bini .gtr (.t 42) (i_ 1)) 39, Wh 44 (.pick (.t 39) (.t 43) (.c (.bool false))) 36, Wq 45 36 44, mv 46 45, Wh 47 (.faddr 1 (.t 7)) 46, Wh 48 (.ld1 (.t 47)) 46, Wh 49 (.lenl (.t 48)) 46, Whm 50 12 46, Wh 51 (.bini .neq (.t 49) (.t 50)) 46, Wq 52 46 51]
def A_q244_4 : LA := [Wf 56 2 7, Wl 57 56, We 58 57, Wm 59 0]
def A_q244_5 : LA := [mv 61 59, Wa 62 93 3 57 59, Wd 63 3 62, o_ 14 (.box 93 3 (.c (.agg [.int .u64 (0), .str [], .nils]))), mv 13 61, Ws 3 14 63]
def A_q244_6 : LA := [mv 64 3, mv 15 64]
def A_q244_7 : LA := [Wf 72 3 6, Wl 73 72, o_ 74 (.bini .eql (.t 73) (.c (.int .u8 4)))]
def A_q244_8 : LA := [mv 89 0, Wf 90 4 6, Wl 91 90, Wf 92 8 6, Wl 93 92, Wd 94 3 14, mv 95 15, mv 96 4, o_ 97 (.call 300 [(.t 89), (.t 91), (.t 93), (.t 94), (.t 95), (.t 96)]), mv 17 97]
def A_q244_9 : LA := [mv 98 17, o_ 99 (.isnil .pt true (.t 98))]
def A_q244_10 : LA := [Wi 101 .add 59 1, mv 59 101]
def A_q244_11 : ACode := (.seq (.ops [Wb 60 .lss 59 58]) (.seq (.cond (.t 60) .skip (.exit 0)) (.seq (.block 1 (.seq (.ops A_q244_5) (.seq (.ops A_q244_6) (.seq (.seq (.ops [mv 65 11]) (.cond (.t 65) .bad .skip)) (.seq (.seq (.ops A_q244_7) (.cond (.t 74) .bad .skip)) (.seq (.ops A_q244_8) (.seq (.ops A_q244_9) (.cond (.t 99) .bad .skip)))))))) (.ops A_q244_10))))
def A_q244 : ACode := (.seq (.ops A_q244_0) (.seq (.ops A_q244_1) (.seq (.ops [Wm 12 0]) (.seq (.seq (.ops A_q244_2) (.cond (.t 28) .bad .skip)) (.seq (.seq (.ops A_q244_3) (.cond (.t 52) .bad .skip)) (.seq (.seq (.ops A_q244_4) (.block 0 (.loop A_q244_11))) (.seq (.ops [o_ 10 (.mov (.c (.nilp)))]) .ret)))))))
def T_q244 : FC := ⟨102, A_q244, [.tmp 10]⟩
abbrev F_q245 : Nat := 245
def A_q245_0 : LA := [o_ 6 (.box 259 1 (.t 1)), o_ 8 (.box 9 1 (.t 3)), o_ 10 (.box 384 1 (.c (.nilp)))]
def A_q245_1 : LA := [mv 17 2, mv 18 4, o_ 19 (.bini .sub (i_ 100) (.t 18)), o_ 20 (.call 301 [(.t 17), (.t 19)]), mv 16 20, Wx 21 0 16, Wx 22 1 16, mv 11 21, mv 12 22]
def A_q245_2 : LA := [mv 23 11, Wi 24 .neq 23 0]
def A_q245_3 : LA := [mv 28 2, mv 29 4, o_ 30 (.bini .sub (i_ 100) (.t 29)), o_ 31 (.call 302 [(.t 28), (.t 30)])]
def A_q245_4 : LA := [o_ 13 (.box 222 5 (.c (.agg [.int .i32 (0), .int .u8 (0), .int .i64 (0), .int .u64 (0), .nils]))), Ws 5 13 32]
def A_q245_5 : LA := [Wl 34 6, Wf 35 0 13, Wl 36 35, o_ 37 (.call 139 [(.t 34), (.t 36)]), mv 33 37, Wx 38 0 33, Wx 39 1 33, o_ 14 (.box 204 9 (.c (.agg [.int .i32 (0), .str [], .str [], .int .u8 (0), .int .u8 (0), .int .u8 (0), .bool false, .int .i64 (0), .str []]))), Ws 9 14 38, mv 15 39]
def A_q245_6 : LA := [mv 40 15, mv 41 40, g_ 42 (.lda 9 (.t 14)) 41, Wgf 43 1 13 41, Wgl 44 43 41, g_ 45 (.call 303 [(.t 42), (.t 44)]) 41, Wp 46 41 45]
def A_q245_7 : LA := [Wl 47 8, o_ 48 (.build [.int .i64 (0), .str []] [(0, 1, (i_ 106)), (1, 1, (.t 47))]), o_ 49 (.box 387 2 (.t 48)), Ws 1 10 49]
def A_q245 : ACode := (.seq (.ops A_q245_0) (.seq (.seq (.ops A_q245_1) (.seq (.ops A_q245_2) (.cond (.t 24) .bad .skip))) (.seq (.seq (.ops A_q245_3) (.block 0 (.rngf (.t 31) [32] (.ops A_q245_4) (.block 1 (.seq (.ops A_q245_5) (.seq (.ops A_q245_6) (.cond (.t 46) (.seq (.ops A_q245_7) .ret) .skip))))))) (.seq (.ops [n_ (.st 1 (.t 10) (.c (.nilp)))]) .ret))))
def T_q245 : FC := ⟨50, A_q245, [.cell1 10]⟩
abbrev F_q252 : Nat := 252
def A_q252_0 : LA := [mv 7 1, o_ 8 (.call 308 [(.t 7)]), mv 5 8]
def A_q252_1 : LA := [mv 9 1, o_ 10 (.call 146 [(.t 9)])]
def A_q252_2 : LA := [mv 11 0, o_ 12 (.bini .eql (.t 11) (.c (.int .u8 9)))]
def A_q252_3 : LA := [mv 13 5, o_ 14 (.call 309 [(.t 13)]), mv 6 14]
def A_q252_4 : LA := [mv 15 6, Wi 16 .geq 15 0]
def A_q252_5 : LA := [mv 26 5, o_ 27 (.b2s (.t 26)), o_ 28 (.build [.int .u64 (0), .str [], .nils] [(1, 1, (.t 27))]), Ws 3 4 28]
def A_q252 : ACode := (.seq (.ops [o_ 4 (.box 93 3 (.c (.agg [.int .u64 (0), .str [], .nils])))]) (.seq (.ops A_q252_0) (.seq (.ops A_q252_1) (.seq (.seq (.ops A_q252_2) (.cond (.t 12) (.seq (.ops A_q252_3) (.seq (.ops A_q252_4) (.cond (.t 16) .bad .skip))) .bad)) (.seq (.ops A_q252_5) .ret)))))
def T_q252 : FC := ⟨29, A_q252, [.cella 4 3]⟩
abbrev F_q254 : Nat := 254
def A_q254_0 : LA := [o_ 2 (.box 342 1 (.t 0)), Wn 4]
def A_q254_1 : LA := [Wl 8 2, mv 9 5, o_ 10 (.bslice 21 1 1 [.int .i32 0] [(0, 1, (.t 9))]), o_ 11 (.app 21 1 4 (.t 8) (.t 10)), Ws 1 2 11]
def A_q254_2 : LA := [Wl 12 2, mv 4 12]
def A_q254 : ACode := (.seq (.ops A_q254_0) (.seq (.seq (.ops [mv 6 1]) (.block 0 (.rngf (.t 6) [7] (.ops [mv 5 7]) (.block 1 (.ops A_q254_1))))) (.seq (.ops A_q254_2) .ret)))
def T_q254 : FC := ⟨13, A_q254, [.tmp 4]⟩
abbrev F_q255 : Nat := 255
def A_q255_0 : LA := [mv 19 2, mv 20 1, Wb 21 .sub 19 20, mv 10 21]
def A_q255_1 : LA := [mv 22 10, Wi 23 .leq 22 12]
def A_q255_2 : LA := [mv 24 0, mv 25 1, mv 26 2, o_ 27 (.call 311 [(.t 24), (.t 25), (.t 26)])]
def A_q255_3 : ACode := (.block 1 (.seq (.ops A_q255_0) (.seq (.seq (.ops A_q255_1) (.cond (.t 23) (.seq (.ops A_q255_2) .ret) .bad)) .bad)))
def A_q255 : ACode := (.seq (.ops [Wo 8 true]) (.seq (.ops [Wo 9 true]) (.block 0 (.loop A_q255_3))))
def T_q255 : FC := ⟨134, A_q255, []⟩
abbrev F_q268 : Nat := 268
def A_q268_0 : LA := [mv 12 3, Wi 13 .eql 12 0]
def A_q268_1 : LA := [mv 14 1, o_ 15 (.bins .eql (.t 14) (.c (.str [])))]
def A_q268_2 : LA := [mv 19 3, Wi 20 .lss 19 0]
def A_q268_3 : LA := [mv 21 0, mv 22 1, o_ 23 (.call 324 [(.t 21), (.t 22)]), Wi 24 .add 23 1, mv 3 24]
def A_q268_4 : LA := [mv 25 3, mv 26 0, o_ 27 (.lens (.t 26)), Wi 28 .add 27 1, o_ 29 (.mn (.t 25) (.t 28)), mv 3 29]
def A_q268_5 : LA := [mv 30 3, o_ 31 (.mkslice 9 1 16 [.str []] (.t 30) (.t 30)), mv 9 31]
def A_q268_6 : LA := [mv 32 3, Wi 33 .sub 32 1, mv 3 33]
def A_q268_7 : LA := [mv 34 10, mv 35 3, Wb 36 .lss 34 35]
def A_q268_8 : ACode := (.seq (.seq (.ops A_q268_7) (.cond (.t 36) .bad (.exit 0))) .bad)
def A_q268_9 : LA := [mv 58 9, mv 59 10, mv 60 0, Wa 61 9 1 58 59, Ws 1 61 60]
def A_q268_10 : LA := [mv 62 9, mv 63 10, Wi 64 .add 63 1, o_ 65 (.slcl 9 1 (.t 62) none (some (.t 64)) none), mv 8 65]
def A_q268 : ACode := (.seq (.ops [Wn 8]) (.seq (.seq (.ops A_q268_0) (.cond (.t 13) .bad .skip)) (.seq (.seq (.ops A_q268_1) (.cond (.t 15) .bad .skip)) (.seq (.seq (.ops A_q268_2) (.cond (.t 20) (.ops A_q268_3) .bad)) (.seq (.ops A_q268_4) (.seq (.ops A_q268_5) (.seq (.ops A_q268_6) (.seq (.ops [Wm 10 0]) (.seq (.block 0 (.loop A_q268_8)) (.seq (.ops A_q268_9) (.seq (.ops A_q268_10) .ret)))))))))))
def T_q268 : FC := ⟨66, A_q268, [.tmp 8]⟩
abbrev F_q269 : Nat := 269
def A_q269_0 : LA := [mv 3 0, o_ 4 (.bini .geq (.t 3) (.c (.int .u8 48))), mv 5 4, Wgm 6 0 5, g_ 7 (.bini .leq (.t 6) (.c (.int .u8 57))) 5, Wp 8 5 7, mv 2 8]
def A_q269 : ACode := (.seq (.ops [Wo 2 false]) (.seq (.ops A_q269_0) .ret))
def T_q269 : FC := ⟨9, A_q269, [.tmp 2]⟩
abbrev F_q270 : Nat := 270
def A_q270_0 : LA := [mv 3 0, o_ 4 (.bini .geq (.t 3) (.c (.int .u8 97))), mv 5 4, Wgm 6 0 5, g_ 7 (.bini .leq (.t 6) (.c (.int .u8 122))) 5, Wp 8 5 7, mv 2 8]
def A_q270 : ACode := (.seq (.ops [Wo 2 false]) (.seq (.ops A_q270_0) .ret))
def T_q270 : FC := ⟨9, A_q270, [.tmp 2]⟩
abbrev F_q271 : Nat := 271
def A_q271_0 : LA := [mv 3 0, o_ 4 (.bini .geq (.t 3) (.c (.int .u8 65))), mv 5 4, Wgm 6 0 5, g_ 7 (.bini .leq (.t 6) (.c (.int .u8 90))) 5, Wp 8 5 7, mv 2 8]
def A_q271 : ACode := (.seq (.ops [Wo 2 false]) (.seq (.ops A_q271_0) .ret))
def T_q271 : FC := ⟨9, A_q271, [.tmp 2]⟩
abbrev F_q272 : Nat := 272
def A_q272_0 : LA := [mv 3 0, o_ 4 (.bini .geq (.t 3) (.c (.int .i32 1))), mv 5 4, Wgm 6 0 5, g_ 7 (.bini .leq (.t 6) (.c (.int .i32 536870911))) 5, Wp 8 5 7, mv 9 8, Wgm 10 0 9, g_ 11 (.bini .lss (.t 10) (.c (.int .i32 19000))) 9, Wgm 12 11 9, Whm 13 0 12, Wh 14 (.bini .gtr (.t 13) (.c (.int .i32 19999))) 12, g_ 15 (.pick (.t 12) (.c (.bool true)) (.t 14)) 9, Wp 16 9 15, mv 2 16]
def A_q272 : ACode := (.seq (.ops [Wo 2 false]) (.seq (.ops A_q272_0) .ret))
def T_q272 : FC := ⟨17, A_q272, [.tmp 2]⟩
abbrev F_q273 : Nat := 273
def A_q273_0 : LA := [o_ 2 (.box 154 9 (.t 0)), Wo 3 false]
def A_q273_1 : LA := [Wf 4 1 2, Wl 5 4, Wf 6 1 1, Wl 7 6, Wb 8 .eql 5 7, mv 3 8]
def A_q273 : ACode := (.seq (.ops A_q273_0) (.seq (.ops A_q273_1) .ret))
def T_q273 : FC := ⟨9, A_q273, [.tmp 3]⟩
abbrev F_q274 : Nat := 274
def A_q274_0 : LA := [mv 3 0, o_ 4 (.bini .geq (.t 3) (.c (.int .u8 1))), mv 5 4, Wgm 6 0 5, g_ 7 (.bini .leq (.t 6) (.c (.int .u8 18))) 5, Wp 8 5 7, mv 9 8, Wgm 10 0 9, g_ 11 (.bini .neq (.t 10) (.c (.int .u8 10))) 9, Wp 12 9 11, mv 2 12]
def A_q274 : ACode := (.seq (.ops [Wo 2 false]) (.seq (.ops A_q274_0) .ret))
def T_q274 : FC := ⟨13, A_q274, [.tmp 2]⟩
abbrev F_q275 : Nat := 275
def A_q275_0 : LA := [mv 3 0, o_ 4 (.bini .eql (.t 3) (.c (.int .u8 0))), mv 5 4, Whm 6 0 5, Wh 7 (.bini .eql (.t 6) (.c (.int .u8 11))) 5, Wq 8 5 7, mv 9 8, Whm 10 0 9, Wh 11 (.bini .eql (.t 10) (.c (.int .u8 14))) 9, Wq 12 9 11, mv 2 12]
def A_q275 : ACode := (.seq (.ops [Wo 2 false]) (.seq (.ops A_q275_0) .ret))
def T_q275 : FC := ⟨13, A_q275, [.tmp 2]⟩
abbrev F_q276 : Nat := 276
def A_q276_0 : LA := [mv 6 0, o_ 7 (.call 291 [(.t 6), (.c (.str [46]))]), mv 5 7, Wx 8 0 5, Wx 9 1 5, mv 3 8, mv 4 9]
def A_q276_1 : LA := [mv 18 0, o_ 19 (.call 160 [(.t 18)]), mv 2 19]
def A_q276 : ACode := (.seq (.ops [Wo 2 false]) (.seq (.seq (.ops A_q276_0) (.seq (.ops [mv 10 4]) (.cond (.t 10) .bad .skip))) (.seq (.ops A_q276_1) .ret)))
def T_q276 : FC := ⟨20, A_q276, [.tmp 2]⟩
abbrev F_q277 : Nat := 277
def A_q277_0 : LA := [mv 3 0, o_ 4 (.call 274 [(.t 3)]), mv 5 4, Wgm 6 0 5, g_ 7 (.bini .neq (.t 6) (.c (.int .u8 1))) 5, Wp 8 5 7, mv 9 8, Wgm 10 0 9, g_ 11 (.bini .neq (.t 10) (.c (.int .u8 2))) 9, Wp 12 9 11, mv 13 12, Wgm 14 0 13, g_ 15 (.bini .neq (.t 14) (.c (.int .u8 12))) 13, Wp 16 13 15, mv 17 16, Wgm 18 0 17, g_ 19 (.bini .neq (.t 18) (.c (.int .u8 11))) 17, Wp 20 17 19, mv 21 20, Wgm 22 0 21, g_ 23 (.bini .neq (.t 22) (.c (.int .u8 14))) 21, Wp 24 21 23, mv 2 24]
def A_q277 : ACode := (.seq (.ops [Wo 2 false]) (.seq (.ops A_q277_0) .ret))
def T_q277 : FC := ⟨25, A_q277, [.tmp 2]⟩
abbrev F_q279 : Nat := 279
def A_q279_0 : LA := [mv 7 0, o_ 8 (.rngs (.t 7))]
def A_q279_1 : LA := [o_ 9 (.nxs (.t 8)), Wx 10 0 9]
def A_q279_2 : LA := [Wx 11 1 9, Wx 12 2 9, mv 3 11, mv 4 12]
def A_q279_3 : LA := [mv 13 4, o_ 14 (.bini .neq (.t 13) (.c (.int .i32 65533)))]
def A_q279_4 : ACode := (.seq (.ops A_q279_1) (.seq (.cond (.t 10) .skip (.exit 0)) (.block 1 (.seq (.ops A_q279_2) (.seq (.seq (.ops A_q279_3) (.cond (.t 14) (.exit 1) .bad)) .bad)))))
def A_q279 : ACode := (.seq (.ops [Wm 2 0]) (.seq (.seq (.ops A_q279_0) (.block 0 (.loop A_q279_4))) (.seq (.ops [Wm 2 (-1)]) .ret)))
def T_q279 : FC := ⟨25, A_q279, [.tmp 2]⟩
abbrev F_q280 : Nat := 280
def A_q280_0 : LA := [mv 5 0, mv 6 1, o_ 7 (.call 325 [(.t 5), (.t 6)]), Wi 8 .geq 7 0, mv 4 8]
def A_q280 : ACode := (.seq (.ops [Wo 4 false]) (.seq (.ops A_q280_0) .ret))
def T_q280 : FC := ⟨9, A_q280, [.tmp 4]⟩
abbrev F_q281 : Nat := 281
def A_q281_0 : LA := [o_ 1 (.box 154 9 (.t 0)), o_ 2 (.mov (.c (.str [])))]
def A_q281_1 : LA := [Wf 3 8 1, Wl 4 3, o_ 5 (.bins .neq (.t 4) (.c (.str [])))]
def A_q281_2 : LA := [Wf 8 0 1, Wl 9 8, o_ 10 (.call 327 [(.t 9)]), mv 2 10]
def A_q281 : ACode := (.seq (.ops A_q281_0) (.seq (.seq (.ops A_q281_1) (.cond (.t 5) .bad .skip)) (.seq (.ops A_q281_2) .ret)))
def T_q281 : FC := ⟨11, A_q281, [.tmp 2]⟩
abbrev F_q282 : Nat := 282
def A_q282_0 : LA := [mv 6 0, We 7 6, Wm 8 0]
def A_q282_1 : LA := [mv 10 8, mv 5 10]
def A_q282_2 : LA := [mv 11 1, mv 12 0, mv 13 5, Wa 14 154 9 12 13, Wd 15 9 14, o_ 16 (.callv (.t 11) [(.t 15)])]
def A_q282_3 : LA := [mv 17 5, mv 4 17]
def A_q282_4 : LA := [Wi 18 .add 8 1, mv 8 18]
def A_q282_5 : ACode := (.seq (.ops [Wb 9 .lss 8 7]) (.seq (.cond (.t 9) .skip (.exit 0)) (.seq (.block 1 (.seq (.ops A_q282_1) (.seq (.ops A_q282_2) (.cond (.t 16) (.seq (.ops A_q282_3) .ret) .skip)))) (.ops A_q282_4))))
def A_q282 : ACode := (.seq (.ops [Wm 4 0]) (.seq (.seq (.ops A_q282_0) (.block 0 (.loop A_q282_5))) (.seq (.ops [Wm 4 (-1)]) .ret)))
def T_q282 : FC := ⟨19, A_q282, [.tmp 4]⟩
abbrev F_q283 : Nat := 283
def A_q283_0 : LA := [mv 5 0, mv 6 1, o_ 7 (.call 328 [(.t 5), (.t 6)]), Wi 8 .geq 7 0, mv 4 8]
def A_q283 : ACode := (.seq (.ops [Wo 4 false]) (.seq (.ops A_q283_0) .ret))
def T_q283 : FC := ⟨9, A_q283, [.tmp 4]⟩
abbrev F_q285 : Nat := 285
def A_q285_0 : LA := [mv 6 0, We 7 6, Wm 8 0]
def A_q285_1 : ACode := (.seq (.ops [Wb 9 .lss 8 7]) (.seq (.cond (.t 9) .bad (.exit 0)) .bad))
def A_q285 : ACode := (.seq (.ops [Wm 4 0]) (.seq (.seq (.ops A_q285_0) (.block 0 (.loop A_q285_1))) (.seq (.ops [Wm 4 (-1)]) .ret)))
def T_q285 : FC := ⟨19, A_q285, [.tmp 4]⟩
abbrev F_q286 : Nat := 286
def A_q286_0 : LA := [mv 6 0, o_ 7 (.lens (.t 6)), Wi 8 .sub 7 1, mv 5 8]
def A_q286_1 : LA := [mv 9 5, Wi 10 .geq 9 0]
def A_q286_2 : LA := [mv 13 0, mv 14 5, o_ 15 (.idxs (.t 13) (.t 14)), mv 16 1, Wb 17 .eql 15 16]
def A_q286_3 : LA := [mv 18 5, mv 4 18]
def A_q286_4 : LA := [mv 11 5, Wi 12 .sub 11 1, mv 5 12]
def A_q286_5 : ACode := (.seq (.seq (.ops A_q286_1) (.cond (.t 10) .skip (.exit 0))) (.seq (.block 1 (.seq (.ops A_q286_2) (.cond (.t 17) (.seq (.ops A_q286_3) .ret) .skip))) (.ops A_q286_4)))
def A_q286 : ACode := (.seq (.ops [Wm 4 0]) (.seq (.seq (.ops A_q286_0) (.block 0 (.loop A_q286_5))) (.seq (.ops [Wm 4 (-1)]) .ret)))
def T_q286 : FC := ⟨19, A_q286, [.tmp 4]⟩
abbrev F_q287 : Nat := 287
def A_q287_0 : LA := [mv 2 0, Wc 3 2, Wf 4 0 3, Wl 5 4, o_ 6 (.isnil .pt false (.t 5))]
def A_q287_1 : LA := [mv 7 0, mv 8 0, o_ 9 (.upc (.t 8)), mv 10 9, o_ 11 (.upt 422 (.t 10)), Wc 12 7, Wf 13 0 12, Ws 1 13 11]
def A_q287_2 : LA := [mv 14 0, Wc 15 14, Wf 16 0 15, Wl 17 16, mv 18 0, o_ 19 (.peq true (.t 17) (.t 18))]
def A_q287 : ACode := (.seq (.ops A_q287_0) (.cond (.t 6) (.ops A_q287_1) (.seq (.ops A_q287_2) (.cond (.t 19) .bad .skip))))
def T_q287 : FC := ⟨20, A_q287, []⟩
abbrev F_q288 : Nat := 288
def A_q288_0 : LA := [mv 5 0, Wc 6 5, Wf 7 1 6, Wl 8 7, o_ 9 (.capk (.t 8)), o_ 10 (.bini .mul (i_ 2) (.t 9)), mv 11 1, Wb 12 .add 10 11, mv 14 0, Wc 15 14, Wf 16 1 15, Wl 17 16, We 18 17, o_ 13 (.mnz 5 (.t 12)), o_ 19 (.slcl 5 1 (.t 13) none (some (.t 18)) none), mv 4 19]
def A_q288_1 : LA := [mv 20 4, mv 21 0, Wc 22 21, Wf 23 1 22, Wl 24 23, o_ 25 (.cpy 5 1 (.t 20) (.t 24))]
def A_q288_2 : LA := [mv 26 0, mv 27 4, Wc 28 26, Wf 29 1 28, Ws 1 29 27]
def A_q288 : ACode := (.seq (.alts [5, 6, 7, 8, 9, 10, 11, 12, 13, 14, 15, 16, 17, 18, 19, 4] [A_q288_0]) (.seq (.ops A_q288_1) (.ops A_q288_2)))
def T_q288 : FC := ⟨30, A_q288, []⟩
abbrev F_q289 : Nat := 289
def A_q289_0 : LA := [mv 12 2, mv 13 1, Wb 14 .sub 12 13, mv 10 14]
def A_q289_1 : LA := [mv 15 3, mv 16 2, Wb 17 .sub 15 16, mv 11 17]
def A_q289_2 : LA := [mv 18 10, mv 19 11, Wb 20 .neq 18 19]
def A_q289_3 : LA := [mv 21 10, mv 22 11, Wb 23 .gtr 21 22]
def A_q289_4 : LA := [mv 24 0, mv 25 2, mv 26 10, Wb 27 .sub 25 26, mv 28 2, mv 29 11, mv 30 4, o_ 31 (.call 331 [(.t 24), (.t 27), (.t 28), (.t 29), (.t 30)])]
def A_q289_5 : LA := [mv 32 10, mv 33 11, Wb 34 .sub 32 33, mv 10 34]
def A_q289_6 : LA := [mv 35 0, mv 36 2, mv 37 10, Wb 38 .sub 36 37, mv 39 2, mv 40 11, Wb 41 .add 39 40, mv 42 10, Wb 43 .sub 41 42, mv 44 10, mv 45 4, o_ 46 (.call 331 [(.t 35), (.t 38), (.t 43), (.t 44), (.t 45)])]
def A_q289_7 : LA := [mv 47 11, mv 48 10, Wb 49 .sub 47 48, mv 11 49]
def A_q289_8 : ACode := (.seq (.seq (.ops A_q289_2) (.cond (.t 20) .skip (.exit 0))) (.block 1 (.seq (.ops A_q289_3) (.cond (.t 23) (.seq (.ops A_q289_4) (.ops A_q289_5)) (.seq (.ops A_q289_6) (.ops A_q289_7))))))
def A_q289_9 : LA := [mv 50 0, mv 51 2, mv 52 10, Wb 53 .sub 51 52, mv 54 2, mv 55 10, mv 56 4, o_ 57 (.call 331 [(.t 50), (.t 53), (.t 54), (.t 55), (.t 56)])]
def A_q289 : ACode := (.seq (.ops A_q289_0) (.seq (.ops A_q289_1) (.seq (.block 0 (.loop A_q289_8)) (.ops A_q289_9))))
def T_q289 : FC := ⟨58, A_q289, []⟩
abbrev F_q290 : Nat := 290
def A_q290_0 : LA := [Wl 4 1, o_ 5 (.rngm (.t 4))]
def A_q290_1 : LA := [o_ 6 (.nxm (.t 5)), Wx 7 0 6]
def A_q290_2 : LA := [o_ 8 (.entr (.t 5)), Wx 9 0 8, mv 3 9]
def A_q290_3 : LA := [mv 10 0, mv 11 3, o_ 12 (.callv (.t 10) [(.t 11)]), o_ 13 (.not (.t 12))]
def A_q290_4 : ACode := (.seq (.ops A_q290_1) (.seq (.cond (.t 7) .skip (.exit 0)) (.block 1 (.seq (.ops A_q290_2) (.seq (.ops A_q290_3) (.cond (.t 13) .bad .skip))))))
def A_q290 : ACode := (.seq (.ops A_q290_0) (.block 0 (.loop A_q290_4)))
def T_q290 : FC := ⟨14, A_q290, []⟩
abbrev F_q291 : Nat := 291
def A_q291_0 : LA := [o_ 4 (.mov (.c (.str []))), Wo 5 false]
def A_q291_1 : LA := [mv 6 0, mv 7 1, o_ 8 (.call 332 [(.t 6), (.t 7)]), Wx 9 0 8, Wx 10 1 8, mv 4 9, mv 5 10]
def A_q291 : ACode := (.seq (.ops A_q291_0) (.seq (.ops A_q291_1) .ret))
def T_q291 : FC := ⟨11, A_q291, [.tmp 4, .tmp 5]⟩
abbrev F_q292 : Nat := 292
def A_q292_0 : LA := [o_ 4 (.mov (.c (.str []))), o_ 5 (.mov (.c (.str []))), Wo 6 false]
def A_q292_1 : LA := [mv 7 0, mv 8 1, o_ 9 (.call 333 [(.t 7), (.t 8)]), Wx 10 0 9, Wx 11 1 9, Wx 12 2 9, mv 4 10, mv 5 11, mv 6 12]
def A_q292 : ACode := (.seq (.ops A_q292_0) (.seq (.ops A_q292_1) .ret))
def T_q292 : FC := ⟨13, A_q292, [.tmp 4, .tmp 5, .tmp 6]⟩
abbrev F_q300 : Nat := 300
def A_q300_0 : LA := [o_ 9 (.box 93 3 (.t 3)), o_ 12 (.mov (.c (.nilp)))]
def A_q300_1 : LA := [mv 14 1, o_ 15 (.conv .i64 (.t 14)), Wi 16 .geq 15 19, mv 17 16, Whm 18 0 17, Whm 19 1 17, Wh 20 (.nilc (.t 18)) 17, Wh 21 (.faddr 1 (.t 20)) 17, Wh 22 (.adr 19 1 (.t 21) (.t 19)) 17, Wh 23 (.ld1 (.t 22)) 17, Wh 24 (.lda 3 (.t 9)) 17, Whm 25 1 17, Wh 26 (.callv (.t 23) [(.t 24), (.t 25)]) 17, Wh 27 (.not (.t 26)) 17, Wq 28 17 27, mv 29 28, Whm 30 1 29, Wh 31 (.bini .eql (.t 30) (.c (.int .u8 11))) 29, Whm 32 31 29, Wgf 33 2 9 32, Wgl 34 33 32, g_ 35 (.iaddr 84 3 (.t 34) (i_ 0)) 32, Wgf 36 0 35 32, Wgl 37 36 32, Wgm 38 2 32, g_ 39 (.bins .neq (.t 37) (.t 38)) 32, Wh 40 (.pick (.t 32) (.t 39) (.c (.bool false))) 29, Wq 41 29 40, mv 13 41]
def A_q300_2 : LA := [mv 46 1, o_ 47 (.bini .eql (.t 46) (.c (.int .u8 9))), mv 48 47, Wgf 49 1 9 48, Wgl 50 49 48, g_ 51 (.call 279 [(.t 50)]) 48, g_ 52 (.bini .geq (.t 51) (i_ 0)) 48, Wp 53 48 52, mv 45 53]
def A_q300_3 : LA := [mv 58 1, o_ 59 (.bini .eql (.t 58) (.c (.int .u8 11))), mv 57 59]
def A_q300 : ACode := (.seq (.ops A_q300_0) (.seq (.block 0 (.seq (.alts [14, 15, 16, 17, 18, 19, 20, 21, 22, 23, 24, 25, 26, 27, 28, 29, 30, 31, 32, 33, 34, 35, 36, 37, 38, 39, 40, 41, 13] [A_q300_1]) (.cond (.t 13) .bad (.seq (.ops A_q300_2) (.cond (.t 45) .bad (.seq (.ops A_q300_3) (.cond (.t 57) .bad .skip))))))) (.seq (.ops [o_ 12 (.mov (.c (.nilp)))]) .ret)))
def T_q300 : FC := ⟨69, A_q300, [.tmp 12]⟩
abbrev F_q301 : Nat := 301
def A_q301_0 : LA := [Wm 4 0, Wm 5 0]
def A_q301_1 : LA := [mv 12 0, o_ 13 (.call 78 [(.t 12)]), mv 6 13]
def A_q301_2 : LA := [mv 14 6, o_ 15 (.call 142 [(.t 14)]), Wi 16 .gtr 15 0]
def A_q301_3 : ACode := (.seq (.seq (.ops A_q301_2) (.cond (.t 16) .bad (.exit 0))) .bad)
def A_q301_4 : LA := [mv 41 6, o_ 42 (.call 80 [(.t 41)]), Wx 43 0 42, Wx 44 1 42, mv 4 43, mv 5 44]
def A_q301 : ACode := (.seq (.ops A_q301_0) (.seq (.ops A_q301_1) (.seq (.block 0 (.loop A_q301_3)) (.seq (.ops A_q301_4) .ret))))
def T_q301 : FC := ⟨45, A_q301, [.tmp 4, .tmp 5]⟩
abbrev F_q302 : Nat := 302
def A_q302_0 : LA := [o_ 3 (.box 3 1 (.t 1)), o_ 4 (.mov (.c (.nilf)))]
def A_q302_1 : LA := [mv 6 0, o_ 7 (.call 30 [(.t 6)]), o_ 5 (.box 25 1 (.c (.nils))), Ws 1 5 7]
def A_q302_2 : LA := [o_ 8 (.mkfn 336 [] [(.t 5), (.t 3)]), mv 4 8]
def A_q302 : ACode := (.seq (.ops A_q302_0) (.seq (.ops A_q302_1) (.seq (.ops A_q302_2) .ret)))
def T_q302 : FC := ⟨9, A_q302, [.tmp 4]⟩
abbrev F_q308 : Nat := 308
def A_q308_0 : LA := [mv 7 0, o_ 8 (.call 182 [(.t 7)]), mv 6 8, Wx 9 0 6, Wx 10 1 6, Wx 11 2 6, mv 3 9, mv 4 10, mv 5 11]
def A_q308_1 : LA := [mv 12 5, o_ 13 (.not (.t 12))]
def A_q308_2 : LA := [mv 14 0, Wc 15 14, Wf 16 0 15, Wl 17 16, mv 18 3, mv 19 4, o_ 20 (.slcl 5 1 (.t 17) (some (.t 18)) (some (.t 19)) none), o_ 21 (.call 30 [(.t 20)]), mv 2 21]
def A_q308 : ACode := (.seq (.ops [Wn 2]) (.seq (.ops A_q308_0) (.seq (.seq (.ops A_q308_1) (.cond (.t 13) .bad .skip)) (.seq (.ops A_q308_2) .ret))))
def T_q308 : FC := ⟨22, A_q308, [.tmp 2]⟩
abbrev F_q309 : Nat := 309
def A_q309_0 : LA := [mv 7 0, o_ 8 (.b2s (.t 7)), o_ 9 (.rngs (.t 8))]
def A_q309_1 : LA := [o_ 10 (.nxs (.t 9)), Wx 11 0 10]
def A_q309_2 : LA := [Wx 12 1 10, Wx 13 2 10, mv 3 12, mv 4 13]
def A_q309_3 : LA := [mv 14 4, o_ 15 (.bini .neq (.t 14) (.c (.int .i32 65533)))]
def A_q309_4 : ACode := (.seq (.ops A_q309_1) (.seq (.cond (.t 11) .skip (.exit 0)) (.block 1 (.seq (.ops A_q309_2) (.seq (.seq (.ops A_q309_3) (.cond (.t 15) (.exit 1) .bad)) .bad)))))
def A_q309 : ACode := (.seq (.ops [Wm 2 0]) (.seq (.seq (.ops A_q309_0) (.block 0 (.loop A_q309_4))) (.seq (.ops [Wm 2 (-1)]) .ret)))
def T_q309 : FC := ⟨27, A_q309, [.tmp 2]⟩
abbrev F_q311 : Nat := 311
def A_q311_0 : LA := [mv 8 1, Wi 9 .add 8 1, mv 6 9]
def A_q311_1 : LA := [mv 10 6, mv 11 2, Wb 12 .lss 10 11]
def A_q311_2 : ACode := (.seq (.seq (.ops A_q311_1) (.cond (.t 12) .bad (.exit 0))) .bad)
def A_q311 : ACode := (.seq (.ops A_q311_0) (.block 0 (.loop A_q311_2)))
def T_q311 : FC := ⟨49, A_q311, []⟩
abbrev F_q324 : Nat := 324
def A_q324_0 : LA := [mv 7 1, o_ 8 (.lens (.t 7)), Wi 9 .eql 8 0]
def A_q324_1 : LA := [mv 13 1, o_ 14 (.lens (.t 13)), Wi 15 .eql 14 1]
def A_q324_2 : LA := [mv 16 0, mv 17 1, o_ 18 (.idxs (.t 17) (i_ 0)), o_ 19 (.xcount (.t 16) (.t 18)), mv 4 19]
def A_q324 : ACode := (.seq (.ops [Wm 4 0]) (.seq (.seq (.ops A_q324_0) (.cond (.t 9) .bad .skip)) (.seq (.seq (.ops A_q324_1) (.cond (.t 15) (.seq (.ops A_q324_2) .ret) .bad)) .bad)))
def T_q324 : FC := ⟨34, A_q324, [.tmp 4]⟩
abbrev F_q325 : Nat := 325
def A_q325_0 : LA := [mv 5 0, mv 6 1, o_ 7 (.call 355 [(.t 5), (.t 6)]), mv 4 7]
def A_q325 : ACode := (.seq (.ops [Wm 4 0]) (.seq (.ops A_q325_0) .ret))
def T_q325 : FC := ⟨8, A_q325, [.tmp 4]⟩
abbrev F_q327 : Nat := 327
def A_q327_0 : LA := [mv 7 0, o_ 8 (.lens (.t 7)), Wm 9 0]
def A_q327_1 : LA := [mv 11 9, mv 5 11]
def A_q327_2 : LA := [mv 12 0, mv 13 5, o_ 14 (.idxs (.t 12) (.t 13)), mv 6 14]
def A_q327_3 : LA := [mv 15 6, o_ 16 (.bini .eql (.t 15) (.c (.int .u8 95)))]
def A_q327_4 : LA := [mv 17 4, mv 18 17, Wgm 19 6 18, g_ 20 (.call 270 [(.t 19)]) 18, Wp 21 18 20]
def A_q327_5 : LA := [mv 22 6, o_ 23 (.bini .sub (.t 22) (.c (.int .u8 32))), mv 6 23]
def A_q327_6 : LA := [mv 24 6, o_ 25 (.call 357 [(.t 3), (.t 24)])]
def A_q327_7 : LA := [Wi 26 .add 9 1, mv 9 26]
def A_q327_8 : ACode := (.seq (.ops [Wb 10 .lss 9 8]) (.seq (.cond (.t 10) .skip (.exit 0)) (.seq (.block 1 (.seq (.ops A_q327_1) (.seq (.ops A_q327_2) (.seq (.seq (.ops A_q327_3) (.cond (.t 16) (.seq (.ops [Wo 4 true]) (.exit 1)) .skip)) (.seq (.seq (.ops A_q327_4) (.cond (.t 21) (.ops A_q327_5) .skip)) (.seq (.ops A_q327_6) (.ops [Wo 4 false]))))))) (.ops A_q327_7))))
def A_q327_9 : LA := [o_ 27 (.call 223 [(.t 3)]), mv 2 27]
def A_q327 : ACode := (.seq (.ops [o_ 2 (.mov (.c (.str [])))]) (.seq (.ops [o_ 3 (.box 422 2 (.c (.agg [.nilp, .nils])))]) (.seq (.ops [Wo 4 false]) (.seq (.seq (.ops A_q327_0) (.block 0 (.loop A_q327_8))) (.seq (.ops A_q327_9) .ret)))))
def T_q327 : FC := ⟨28, A_q327, [.tmp 2]⟩
abbrev F_q328 : Nat := 328
def A_q328_0 : LA := [mv 6 0, We 7 6, Wm 8 0]
def A_q328_1 : ACode := (.seq (.ops [Wb 9 .lss 8 7]) (.seq (.cond (.t 9) .bad (.exit 0)) .bad))
def A_q328 : ACode := (.seq (.ops [Wm 4 0]) (.seq (.seq (.ops A_q328_0) (.block 0 (.loop A_q328_1))) (.seq (.ops [Wm 4 (-1)]) .ret)))
def T_q328 : FC := ⟨19, A_q328, [.tmp 4]⟩
abbrev F_q331 : Nat := 331
def A_q331_0 : LA := [mv 11 10, mv 12 3, Wb 13 .lss 11 12]
def A_q331_1 : LA := [mv 16 0, mv 17 1, mv 18 10, Wb 19 .add 17 18, mv 20 0, mv 21 2, mv 22 10, Wb 23 .add 21 22, mv 24 0, mv 25 2, mv 26 10, Wb 27 .add 25 26, Wa 28 201 3 24 27, Wd 29 3 28, mv 30 0, mv 31 1, mv 32 10, Wb 33 .add 31 32, Wa 34 201 3 30 33, Wd 35 3 34, Wa 36 201 3 16 19, Ws 3 36 29, Wa 37 201 3 20 23, Ws 3 37 35]
def A_q331_2 : LA := [mv 14 10, Wi 15 .add 14 1, mv 10 15]
def A_q331_3 : ACode := (.seq (.seq (.ops A_q331_0) (.cond (.t 13) .skip (.exit 0))) (.seq (.block 1 (.alts [16, 17, 18, 19, 20, 21, 22, 23, 24, 25, 26, 27, 28, 29, 30, 31, 32, 33, 34, 35, 36, 37] [A_q331_1])) (.ops A_q331_2)))
def A_q331 : ACode := (.seq (.ops [Wm 10 0]) (.block 0 (.loop A_q331_3)))
def T_q331 : FC := ⟨38, A_q331, []⟩
abbrev F_q332 : Nat := 332
def A_q332_0 : LA := [o_ 4 (.mov (.c (.str []))), Wo 5 false]
def A_q332_1 : LA := [mv 6 0, mv 7 1, o_ 8 (.call 334 [(.t 6), (.t 7)]), o_ 9 (.not (.t 8))]
def A_q332_2 : LA := [mv 10 0, mv 4 10, Wo 5 false]
def A_q332 : ACode := (.seq (.ops A_q332_0) (.seq (.seq (.ops A_q332_1) (.cond (.t 9) (.seq (.ops A_q332_2) .ret) .bad)) .bad))
def T_q332 : FC := ⟨15, A_q332, [.tmp 4, .tmp 5]⟩
abbrev F_q333 : Nat := 333
def A_q333_0 : LA := [o_ 4 (.mov (.c (.str []))), o_ 5 (.mov (.c (.str []))), Wo 6 false]
def A_q333_1 : LA := [mv 8 0, mv 9 1, o_ 10 (.call 355 [(.t 8), (.t 9)]), mv 7 10]
def A_q333_2 : LA := [mv 11 7, Wi 12 .geq 11 0]
def A_q333_3 : LA := [mv 22 0, mv 4 22, o_ 5 (.mov (.c (.str []))), Wo 6 false]
def A_q333 : ACode := (.seq (.ops A_q333_0) (.seq (.seq (.ops A_q333_1) (.seq (.ops A_q333_2) (.cond (.t 12) .bad .skip))) (.seq (.ops A_q333_3) .ret)))
def T_q333 : FC := ⟨23, A_q333, [.tmp 4, .tmp 5, .tmp 6]⟩
abbrev F_q334 : Nat := 334
def A_q334_0 : LA := [mv 5 0, o_ 6 (.lens (.t 5)), mv 7 1, o_ 8 (.lens (.t 7)), Wb 9 .geq 6 8, mv 10 9, Wgm 11 0 10, Wgm 12 1 10, g_ 13 (.lens (.t 12)) 10, g_ 14 (.slcs (.t 11) none (some (.t 13))) 10, Wgm 15 1 10, g_ 16 (.bins .eql (.t 14) (.t 15)) 10, Wp 17 10 16, mv 4 17]
def A_q334 : ACode := (.seq (.ops [Wo 4 false]) (.seq (.ops A_q334_0) .ret))
def T_q334 : FC := ⟨18, A_q334, [.tmp 4]⟩
abbrev F_q336 : Nat := 336
def A_q336_0 : LA := [Wl 7 1, o_ 8 (.call 78 [(.t 7)]), mv 4 8]
def A_q336_1 : LA := [mv 9 4, o_ 10 (.call 142 [(.t 9)]), Wi 11 .gtr 10 0]
def A_q336_2 : ACode := (.seq (.seq (.ops A_q336_1) (.cond (.t 11) .bad (.exit 0))) .bad)
def A_q336 : ACode := (.seq (.ops A_q336_0) (.block 0 (.loop A_q336_2)))
def T_q336 : FC := ⟨26, A_q336, []⟩
abbrev F_q355 : Nat := 355
def A_q355_0 : LA := [mv 14 1, o_ 15 (.lens (.t 14)), mv 5 15]
def A_q355_1 : LA := [mv 17 5, Wi 18 .eql 17 0, mv 19 18, Whm 20 1 19, Whm 21 0 19, Wh 22 (.bins .eql (.t 20) (.t 21)) 19, Wq 23 19 22, mv 16 23]
def A_q355_2 : LA := [mv 25 5, Wi 26 .eql 25 1, mv 24 26]
def A_q355_3 : LA := [mv 27 0, mv 28 1, o_ 29 (.idxs (.t 28) (i_ 0)), o_ 30 (.call 368 [(.t 27), (.t 29)]), mv 4 30]
def A_q355_4 : LA := [mv 48 1, o_ 49 (.idxs (.t 48) (i_ 0)), mv 6 49]
def A_q355_5 : LA := [mv 50 1, o_ 51 (.idxs (.t 50) (i_ 1)), mv 7 51]
def A_q355_6 : LA := [mv 52 0, o_ 53 (.lens (.t 52)), mv 54 5, Wb 55 .sub 53 54, Wi 56 .add 55 1, mv 9 56]
def A_q355_7 : LA := [mv 57 8, mv 58 9, Wb 59 .lss 57 58]
def A_q355_8 : ACode := (.seq (.seq (.ops A_q355_7) (.cond (.t 59) .bad .bad)) .bad)
def A_q355 : ACode := (.seq (.ops [Wm 4 0]) (.seq (.ops A_q355_0) (.seq (.block 0 (.seq (.ops A_q355_1) (.cond (.t 16) .bad (.seq (.ops A_q355_2) (.cond (.t 24) (.seq (.ops A_q355_3) .ret) .bad))))) (.seq (.ops A_q355_4) (.seq (.ops A_q355_5) (.seq (.ops [Wm 8 0]) (.seq (.ops A_q355_6) (.seq (.ops [Wm 10 0]) (.seq (.block 1 (.loop A_q355_8)) (.seq (.ops [Wm 4 (-1)]) .ret))))))))))
def T_q355 : FC := ⟨143, A_q355, [.tmp 4]⟩
abbrev F_q357 : Nat := 357
def A_q357_0 : LA := [mv 5 0, o_ 6 (.call 287 [(.t 5)])]
def A_q357_1 : LA := [mv 7 0, mv 8 0, Wc 9 8, Wf 10 1 9, Wl 11 10, mv 12 1, o_ 13 (.bslice 5 1 1 [.int .u8 0] [(0, 1, (.t 12))]), o_ 14 (.app 5 1 1 (.t 11) (.t 13)), Wc 15 7, Wf 16 1 15, Ws 1 16 14]
def A_q357 : ACode := (.seq (.ops [o_ 4 (.mov (.c (.nili)))]) (.seq (.ops A_q357_0) (.seq (.ops A_q357_1) (.seq (.ops [o_ 4 (.mov (.c (.nili)))]) .ret))))
def T_q357 : FC := ⟨17, A_q357, [.tmp 4]⟩
abbrev F_q368 : Nat := 368
def A_q368_0 : LA := [mv 5 0, mv 6 1, o_ 7 (.xindex (.t 5) (.t 6)), mv 4 7]
def A_q368 : ACode := (.seq (.ops [Wm 4 0]) (.seq (.ops A_q368_0) .ret))
def T_q368 : FC := ⟨8, A_q368, [.tmp 4]⟩
abbrev F_q398 : Nat := 398
def A_q398_0 : LA := [o_ 4 (.mov (.c (.nilp))), Wm 5 0]
def A_q398_1 : LA := [mv 9 0, Wc 10 9, Wf 11 0 10, o_ 12 (.call 399 [(.t 11)])]
def A_q398_2 : LA := [mv 13 0, Wc 14 13, Wf 15 0 14]
def A_q398_3 : LA := [mv 16 0, Wc 17 16, Wf 18 3 17, Wl 19 18, mv 20 1, o_ 21 (.mlook .s (.nilp) false (.t 19) (.t 20)), mv 6 21]
def A_q398_4 : LA := [mv 22 6, o_ 23 (.isnil .pt true (.t 22))]
def A_q398_5 : LA := [mv 24 6, mv 4 24, Wm 5 0]
def A_q398_6 : LA := [mv 26 0, Wc 27 26, Wf 28 2 27, Wl 29 28, mv 30 1, o_ 31 (.call 401 [(.t 29), (.t 30)]), mv 25 31, Wx 32 0 25, Wx 33 1 25, mv 7 32, mv 8 33]
def A_q398_7 : LA := [mv 34 8, Wi 35 .eql 34 0]
def A_q398_8 : LA := [mv 36 0, Wc 37 36, Wf 38 3 37, Wl 39 38, mv 40 1, mv 41 7, n_ (.mupd .s (.t 39) (.t 40) (.t 41))]
def A_q398_9 : LA := [mv 42 7, mv 43 8, mv 4 42, mv 5 43]
def A_q398 : ACode := (.seq (.ops A_q398_0) (.seq (.ops A_q398_1) (.seq (.seq (.ops A_q398_2) (.dfr (.f 400) [(.t 15)])) (.seq (.seq (.ops A_q398_3) (.seq (.ops A_q398_4) (.cond (.t 23) (.seq (.ops A_q398_5) .ret) .skip))) (.seq (.ops A_q398_6) (.seq (.seq (.ops A_q398_7) (.cond (.t 35) (.ops A_q398_8) .bad)) (.seq (.ops A_q398_9) .ret)))))))
def T_q398 : FC := ⟨44, A_q398, [.tmp 4, .tmp 5]⟩
abbrev F_q399 : Nat := 399
def A_q399_0 : LA := [mv 2 0, Wc 3 2, Wf 4 0 3, o_ 5 (.call 402 [(.t 4)])]
def A_q399 : ACode := (.ops A_q399_0)
def T_q399 : FC := ⟨6, A_q399, []⟩
abbrev F_q400 : Nat := 400
def A_q400_0 : LA := [mv 2 0, Wc 3 2, Wf 4 0 3, o_ 5 (.call 403 [(.t 4)])]
def A_q400 : ACode := (.ops A_q400_0)
def T_q400 : FC := ⟨6, A_q400, []⟩
end Go.Proofs.YtldbbnkacahndabGreatDoor

namespace Go.Proofs.YtldbbnkacahndabGreatDoor
open Go.L
abbrev F_q401 : Nat := 401
def A_q401_0 : LA := [o_ 4 (.mov (.c (.nilp))), Wm 5 0]
def A_q401_1 : LA := [mv 14 0, mv 15 1, o_ 16 (.call 404 [(.t 14), (.t 15)]), mv 13 16, Wx 17 0 13, Wx 18 1 13, o_ 6 (.box 150 7 (.c (.agg [.str [], .nils, .nils, .nils, .nils, .nils, .nils]))), Ws 7 6 17, mv 7 18]
def A_q401_2 : LA := [mv 19 7, o_ 20 (.not (.t 19))]
def A_q401_3 : LA := [mv 21 1, Wf 22 2 6, Wl 23 22, o_ 24 (.call 205 [(.t 23)]), o_ 25 (.mkmap), o_ 26 (.mkmap), o_ 27 (.mkmap), o_ 28 (.build [.str [], .nils, .nils, .nilm, .nilm, .nilm] [(0, 1, (.t 21)), (1, 1, (.t 24)), (3, 1, (.t 25)), (4, 1, (.t 26)), (5, 1, (.t 27))]), o_ 29 (.box 398 6 (.t 28)), mv 8 29]
def A_q401_4 : LA := [Wf 30 1 6, Wl 31 30, We 32 31, Wm 33 0]
def A_q401_5 : LA := [Wa 35 154 9 31 33, Wd 36 9 35, o_ 10 (.box 154 9 (.c (.agg [.str [], .int .i32 (0), .int .u8 (0), .int .u8 (0), .str [], .int .u8 (0), .int .i64 (0), .int .u8 (0), .str []]))), Ws 9 10 36]
def A_q401_6 : LA := [mv 37 8, mv 38 8, Wc 39 38, Wf 40 2 39, Wl 41 40, Wd 42 9 10, o_ 43 (.acall 405 [(.t 42)]), o_ 44 (.bslice 204 9 1 [.int .i32 (0), .str [], .str [], .int .u8 (0), .int .u8 (0), .int .u8 (0), .bool false, .int .i64 (0), .str []] [(0, 9, (.t 43))]), o_ 45 (.app 204 9 72 (.t 41) (.t 44)), Wc 46 37, Wf 47 2 46, Ws 1 47 45]
def A_q401_7 : LA := [Wi 48 .add 33 1, mv 33 48]
def A_q401_8 : ACode := (.seq (.ops [Wb 34 .lss 33 32]) (.seq (.cond (.t 34) .skip (.exit 0)) (.seq (.block 1 (.seq (.ops A_q401_5) (.alts [37, 38, 39, 40, 41, 42, 43, 44, 45, 46, 47] [A_q401_6]))) (.ops A_q401_7))))
def A_q401_9 : LA := [mv 49 8, Wc 50 49, Wf 51 2 50, Wl 52 51, o_ 53 (.call 406 [(.t 52), (.f 407)])]
def A_q401_10 : LA := [mv 54 8, Wc 55 54, Wf 56 2 55, Wl 57 56, We 58 57, Wm 59 0]
def A_q401_11 : LA := [mv 61 59, Wa 62 204 9 57 59, Wd 63 9 62, o_ 12 (.box 204 9 (.c (.agg [.int .i32 (0), .str [], .str [], .int .u8 (0), .int .u8 (0), .int .u8 (0), .bool false, .int .i64 (0), .str []]))), mv 11 61, Ws 9 12 63]
def A_q401_12 : LA := [mv 64 8, Wc 65 64, Wf 66 3 65, Wl 67 66, Wf 68 0 12, Wl 69 68, mv 70 8, Wc 71 70, Wf 72 4 71, Wl 73 72, Wf 74 1 12, mv 76 8, Wc 77 76, Wf 78 5 77, Wl 79 78, Wf 80 2 12, mv 82 11, mv 83 11, mv 84 11, Wl 75 74, Wl 81 80, o_ 85 (.ment .i (.int .i64 0) (.t 67) (.t 69)), Wx 86 1 85, n_ (.mest (.t 67) (.t 86) (.t 82)), o_ 87 (.ment .s (.int .i64 0) (.t 73) (.t 75)), Wx 88 1 87, n_ (.mest (.t 73) (.t 88) (.t 83)), o_ 89 (.ment .s (.int .i64 0) (.t 79) (.t 81)), Wx 90 1 89, n_ (.mest (.t 79) (.t 90) (.t 84))]
def A_q401_13 : LA := [mv 64 8, Wc 65 64, Wf 66 3 65, Wl 67 66, Wf 68 0 12, Wl 69 68, mv 70 8, Wc 71 70, Wf 72 4 71, Wl 73 72, Wf 74 1 12, mv 76 8, Wc 77 76, Wf 78 5 77, Wl 79 78, Wf 80 2 12, mv 82 11, mv 83 11, mv 84 11, Wl 75 74, o_ 85 (.ment .i (.int .i64 0) (.t 67) (.t 69)), Wx 86 1 85, Wl 81 80, n_ (.mest (.t 67) (.t 86) (.t 82)), o_ 87 (.ment .s (.int .i64 0) (.t 73) (.t 75)), Wx 88 1 87, n_ (.mest (.t 73) (.t 88) (.t 83)), o_ 89 (.ment .s (.int .i64 0) (.t 79) (.t 81)), Wx 90 1 89, n_ (.mest (.t 79) (.t 90) (.t 84))]
def A_q401_14 : LA := [mv 64 8, Wc 65 64, Wf 66 3 65, Wl 67 66, Wf 68 0 12, Wl 69 68, mv 70 8, Wc 71 70, Wf 72 4 71, Wl 73 72, Wf 74 1 12, mv 76 8, Wc 77 76, Wf 78 5 77, Wl 79 78, Wf 80 2 12, mv 82 11, mv 83 11, mv 84 11, Wl 75 74, o_ 85 (.ment .i (.int .i64 0) (.t 67) (.t 69)), Wx 86 1 85, n_ (.mest (.t 67) (.t 86) (.t 82)), Wl 81 80, o_ 87 (.ment .s (.int .i64 0) (.t 73) (.t 75)), Wx 88 1 87, n_ (.mest (.t 73) (.t 88) (.t 83)), o_ 89 (.ment .s (.int .i64 0) (.t 79) (.t 81)), Wx 90 1 89, n_ (.mest (.t 79) (.t 90) (.t 84))]
def A_q401_15 : LA := [mv 64 8, Wc 65 64, Wf 66 3 65, Wl 67 66, Wf 68 0 12, Wl 69 68, mv 70 8, Wc 71 70, Wf 72 4 71, Wl 73 72, Wf 74 1 12, mv 76 8, Wc 77 76, Wf 78 5 77, Wl 79 78, Wf 80 2 12, mv 82 11, mv 83 11, mv 84 11, Wl 75 74, o_ 85 (.ment .i (.int .i64 0) (.t 67) (.t 69)), Wx 86 1 85, n_ (.mest (.t 67) (.t 86) (.t 82)), o_ 87 (.ment .s (.int .i64 0) (.t 73) (.t 75)), Wx 88 1 87, Wl 81 80, n_ (.mest (.t 73) (.t 88) (.t 83)), o_ 89 (.ment .s (.int .i64 0) (.t 79) (.t 81)), Wx 90 1 89, n_ (.mest (.t 79) (.t 90) (.t 84))]
def A_q401_16 : LA := [mv 64 8, Wc 65 64, Wf 66 3 65, Wl 67 66, Wf 68 0 12, Wl 69 68, mv 70 8, Wc 71 70, Wf 72 4 71, Wl 73 72, Wf 74 1 12, mv 76 8, Wc 77 76, Wf 78 5 77, Wl 79 78, Wf 80 2 12, mv 82 11, mv 83 11, mv 84 11, Wl 75 74, o_ 85 (.ment .i (.int .i64 0) (.t 67) (.t 69)), Wx 86 1 85, n_ (.mest (.t 67) (.t 86) (.t 82)), o_ 87 (.ment .s (.int .i64 0) (.t 73) (.t 75)), Wx 88 1 87, n_ (.mest (.t 73) (.t 88) (.t 83)), Wl 81 80, o_ 89 (.ment .s (.int .i64 0) (.t 79) (.t 81)), Wx 90 1 89, n_ (.mest (.t 79) (.t 90) (.t 84))]
def A_q401_17 : LA := [mv 64 8, Wc 65 64, Wf 66 3 65, Wl 67 66, Wf 68 0 12, Wl 69 68, mv 70 8, Wc 71 70, Wf 72 4 71, Wl 73 72, Wf 74 1 12, mv 76 8, Wc 77 76, Wf 78 5 77, Wl 79 78, Wf 80 2 12, mv 82 11, mv 83 11, mv 84 11, Wl 81 80, Wl 75 74, o_ 85 (.ment .i (.int .i64 0) (.t 67) (.t 69)), Wx 86 1 85, n_ (.mest (.t 67) (.t 86) (.t 82)), o_ 87 (.ment .s (.int .i64 0) (.t 73) (.t 75)), Wx 88 1 87, n_ (.mest (.t 73) (.t 88) (.t 83)), o_ 89 (.ment .s (.int .i64 0) (.t 79) (.t 81)), Wx 90 1 89, n_ (.mest (.t 79) (.t 90) (.t 84))]
def A_q401_18 : LA := [mv 64 8, Wc 65 64, Wf 66 3 65, Wl 67 66, Wf 68 0 12, Wl 69 68, mv 70 8, Wc 71 70, Wf 72 4 71, Wl 73 72, Wf 74 1 12, mv 76 8, Wc 77 76, Wf 78 5 77, Wl 79 78, Wf 80 2 12, mv 82 11, mv 83 11, mv 84 11, Wl 81 80, o_ 85 (.ment .i (.int .i64 0) (.t 67) (.t 69)), Wx 86 1 85, Wl 75 74, n_ (.mest (.t 67) (.t 86) (.t 82)), o_ 87 (.ment .s (.int .i64 0) (.t 73) (.t 75)), Wx 88 1 87, n_ (.mest (.t 73) (.t 88) (.t 83)), o_ 89 (.ment .s (.int .i64 0) (.t 79) (.t 81)), Wx 90 1 89, n_ (.mest (.t 79) (.t 90) (.t 84))]
def A_q401_19 : LA := [mv 64 8, Wc 65 64, Wf 66 3 65, Wl 67 66, Wf 68 0 12, Wl 69 68, mv 70 8, Wc 71 70, Wf 72 4 71, Wl 73 72, Wf 74 1 12, mv 76 8, Wc 77 76, Wf 78 5 77, Wl 79 78, Wf 80 2 12, mv 82 11, mv 83 11, mv 84 11, Wl 81 80, o_ 85 (.ment .i (.int .i64 0) (.t 67) (.t 69)), Wx 86 1 85, n_ (.mest (.t 67) (.t 86) (.t 82)), Wl 75 74, o_ 87 (.ment .s (.int .i64 0) (.t 73) (.t 75)), Wx 88 1 87, n_ (.mest (.t 73) (.t 88) (.t 83)), o_ 89 (.ment .s (.int .i64 0) (.t 79) (.t 81)), Wx 90 1 89, n_ (.mest (.t 79) (.t 90) (.t 84))]
def A_q401_20 : LA := [mv 64 8, Wc 65 64, Wf 66 3 65, Wl 67 66, Wf 68 0 12, Wl 69 68, mv 70 8, Wc 71 70, Wf 72 4 71, Wl 73 72, Wf 74 1 12, mv 76 8, Wc 77 76, Wf 78 5 77, Wl 79 78, Wf 80 2 12, mv 82 11, mv 83 11, mv 84 11, o_ 85 (.ment .i (.int .i64 0) (.t 67) (.t 69)), Wx 86 1 85, Wl 75 74, Wl 81 80, n_ (.mest (.t 67) (.t 86) (.t 82)), o_ 87 (.ment .s (.int .i64 0) (.t 73) (.t 75)), Wx 88 1 87, n_ (.mest (.t 73) (.t 88) (.t 83)), o_ 89 (.ment .s (.int .i64 0) (.t 79) (.t 81)), Wx 90 1 89, n_ (.mest (.t 79) (.t 90) (.t 84))]
def A_q401_21 : LA := [mv 64 8, Wc 65 64, Wf 66 3 65, Wl 67 66, Wf 68 0 12, Wl 69 68, mv 70 8, Wc 71 70, Wf 72 4 71, Wl 73 72, Wf 74 1 12, mv 76 8, Wc 77 76, Wf 78 5 77, Wl 79 78, Wf 80 2 12, mv 82 11, mv 83 11, mv 84 11, o_ 85 (.ment .i (.int .i64 0) (.t 67) (.t 69)), Wx 86 1 85, Wl 75 74, n_ (.mest (.t 67) (.t 86) (.t 82)), Wl 81 80, o_ 87 (.ment .s (.int .i64 0) (.t 73) (.t 75)), Wx 88 1 87, n_ (.mest (.t 73) (.t 88) (.t 83)), o_ 89 (.ment .s (.int .i64 0) (.t 79) (.t 81)), Wx 90 1 89, n_ (.mest (.t 79) (.t 90) (.t 84))]
def A_q401_22 : LA := [mv 64 8, Wc 65 64, Wf 66 3 65, Wl 67 66, Wf 68 0 12, Wl 69 68, mv 70 8, Wc 71 70, Wf 72 4 71, Wl 73 72, Wf 74 1 12, mv 76 8, Wc 77 76, Wf 78 5 77, Wl 79 78, Wf 80 2 12, mv 82 11, mv 83 11, mv 84 11, o_ 85 (.ment .i (.int .i64 0) (.t 67) (.t 69)), Wx 86 1 85, Wl 75 74, n_ (.mest (.t 67) (.t 86) (.t 82)), o_ 87 (.ment .s (.int .i64 0) (.t 73) (.t 75)), Wx 88 1 87, Wl 81 80, n_ (.mest (.t 73) (.t 88) (.t 83)), o_ 89 (.ment .s (.int .i64 0) (.t 79) (.t 81)), Wx 90 1 89, n_ (.mest (.t 79) (.t 90) (.t 84))]
def A_q401_23 : LA := [mv 64 8, Wc 65 64, Wf 66 3 65, Wl 67 66, Wf 68 0 12, Wl 69 68, mv 70 8, Wc 71 70, Wf 72 4 71, Wl 73 72, Wf 74 1 12, mv 76 8, Wc 77 76, Wf 78 5 77, Wl 79 78, Wf 80 2 12, mv 82 11, mv 83 11, mv 84 11, o_ 85 (.ment .i (.int .i64 0) (.t 67) (.t 69)), Wx 86 1 85, Wl 75 74, n_ (.mest (.t 67) (.t 86) (.t 82)), o_ 87 (.ment .s (.int .i64 0) (.t 73) (.t 75)), Wx 88 1 87, n_ (.mest (.t 73) (.t 88) (.t 83)), Wl 81 80, o_ 89 (.ment .s (.int .i64 0) (.t 79) (.t 81)), Wx 90 1 89, n_ (.mest (.t 79) (.t 90) (.t 84))]
def A_q401_24 : LA := [mv 64 8, Wc 65 64, Wf 66 3 65, Wl 67 66, Wf 68 0 12, Wl 69 68, mv 70 8, Wc 71 70, Wf 72 4 71, Wl 73 72, Wf 74 1 12, mv 76 8, Wc 77 76, Wf 78 5 77, Wl 79 78, Wf 80 2 12, mv 82 11, mv 83 11, mv 84 11, o_ 85 (.ment .i (.int .i64 0) (.t 67) (.t 69)), Wx 86 1 85, Wl 81 80, Wl 75 74, n_ (.mest (.t 67) (.t 86) (.t 82)), o_ 87 (.ment .s (.int .i64 0) (.t 73) (.t 75)), Wx 88 1 87, n_ (.mest (.t 73) (.t 88) (.t 83)), o_ 89 (.ment .s (.int .i64 0) (.t 79) (.t 81)), Wx 90 1 89, n_ (.mest (.t 79) (.t 90) (.t 84))]
def A_q401_25 : LA := [mv 64 8, Wc 65 64, Wf 66 3 65, Wl 67 66, Wf 68 0 12, Wl 69 68, mv 70 8, Wc 71 70, Wf 72 4 71, Wl 73 72, Wf 74 1 12, mv 76 8, Wc 77 76, Wf 78 5 77, Wl 79 78, Wf 80 2 12, mv 82 11, mv 83 11, mv 84 11, o_ 85 (.ment .i (.int .i64 0) (.t 67) (.t 69)), Wx 86 1 85, Wl 81 80, n_ (.mest (.t 67) (.t 86) (.t 82)), Wl 75 74, o_ 87 (.ment .s (.int .i64 0) (.t 73) (.t 75)), Wx 88 1 87, n_ (.mest (.t 73) (.t 88) (.t 83)), o_ 89 (.ment .s (.int .i64 0) (.t 79) (.t 81)), Wx 90 1 89, n_ (.mest (.t 79) (.t 90) (.t 84))]
def A_q401_26 : LA := [mv 64 8, Wc 65 64, Wf 66 3 65, Wl 67 66, Wf 68 0 12, Wl 69 68, mv 70 8, Wc 71 70, Wf 72 4 71, Wl 73 72, Wf 74 1 12, mv 76 8, Wc 77 76, Wf 78 5 77, Wl 79 78, Wf 80 2 12, mv 82 11, mv 83 11, mv 84 11, o_ 85 (.ment .i (.int .i64 0) (.t 67) (.t 69)), Wx 86 1 85, n_ (.mest (.t 67) (.t 86) (.t 82)), Wl 75 74, Wl 81 80, o_ 87 (.ment .s (.int .i64 0) (.t 73) (.t 75)), Wx 88 1 87, n_ (.mest (.t 73) (.t 88) (.t 83)), o_ 89 (.ment .s (.int .i64 0) (.t 79) (.t 81)), Wx 90 1 89, n_ (.mest (.t 79) (.t 90) (.t 84))]
def A_q401_27 : LA := [mv 64 8, Wc 65 64, Wf 66 3 65, Wl 67 66, Wf 68 0 12, Wl 69 68, mv 70 8, Wc 71 70, Wf 72 4 71, Wl 73 72, Wf 74 1 12, mv 76 8, Wc 77 76, Wf 78 5 77, Wl 79 78, Wf 80 2 12, mv 82 11, mv 83 11, mv 84 11, o_ 85 (.ment .i (.int .i64 0) (.t 67) (.t 69)), Wx 86 1 85, n_ (.mest (.t 67) (.t 86) (.t 82)), Wl 75 74, o_ 87 (.ment .s (.int .i64 0) (.t 73) (.t 75)), Wx 88 1 87, Wl 81 80, n_ (.mest (.t 73) (.t 88) (.t 83)), o_ 89 (.ment .s (.int .i64 0) (.t 79) (.t 81)), Wx 90 1 89, n_ (.mest (.t 79) (.t 90) (.t 84))]
def A_q401_28 : LA := [mv 64 8, Wc 65 64, Wf 66 3 65, Wl 67 66, Wf 68 0 12, Wl 69 68, mv 70 8, Wc 71 70, Wf 72 4 71, Wl 73 72, Wf 74 1 12, mv 76 8, Wc 77 76, Wf 78 5 77, Wl 79 78, Wf 80 2 12, mv 82 11, mv 83 11, mv 84 11, o_ 85 (.ment .i (.int .i64 0) (.t 67) (.t 69)), Wx 86 1 85, n_ (.mest (.t 67) (.t 86) (.t 82)), Wl 75 74, o_ 87 (.ment .s (.int .i64 0) (.t 73) (.t 75)), Wx 88 1 87, n_ (.mest (.t 73) (.t 88) (.t 83)), Wl 81 80, o_ 89 (.ment .s (.int .i64 0) (.t 79) (.t 81)), Wx 90 1 89, n_ (.mest (.t 79) (.t 90) (.t 84))]
def A_q401_29 : LA := [Wi 91 .add 59 1, mv 59 91]
def A_q401_30 : ACode := (.seq (.ops [Wb 60 .lss 59 58]) (.seq (.cond (.t 60) .skip (.exit 2)) (.seq (.block 3 (.seq (.ops A_q401_11) (.alts [64, 65, 66, 67, 68, 69, 70, 71, 72, 73, 74, 75, 76, 77, 78, 79, 80, 81, 82, 83, 84, 85, 86, 87, 88, 89, 90] [A_q401_12, A_q401_13, A_q401_14, A_q401_15, A_q401_16, A_q401_17, A_q401_18, A_q401_19, A_q401_20, A_q401_21, A_q401_22, A_q401_23, A_q401_24, A_q401_25, A_q401_26, A_q401_27, A_q401_28]))) (.ops A_q401_29))))
def A_q401_31 : LA := [mv 92 8, mv 4 92, Wm 5 0]
def A_q401 : ACode := (.seq (.ops A_q401_0) (.seq (.ops A_q401_1) (.seq (.seq (.ops A_q401_2) (.cond (.t 20) .bad .skip)) (.seq (.ops A_q401_3) (.seq (.seq (.ops A_q401_4) (.block 0 (.loop A_q401_8))) (.seq (.ops A_q401_9) (.seq (.seq (.ops A_q401_10) (.block 2 (.loop A_q401_30))) (.seq (.ops A_q401_31) .ret))))))))
def T_q401 : FC := ⟨93, A_q401, [.tmp 4, .tmp 5]⟩
abbrev F_q402 : Nat := 402
def A_q402_0 : LA := [mv 3 0, Wc 4 3, Wf 5 0 4, o_ 6 (.cas .i32 (.t 5) (.c (.int .i32 0)) (.c (.int .i32 1)))]
def A_q402_1 : LA := [mv 8 0, o_ 9 (.upc (.t 8)), o_ 10 (.rac (.t 9))]
def A_q402 : ACode := (.seq (.ops [o_ 2 (.mov (.c (.tup [])))]) (.seq (.seq (.ops A_q402_0) (.cond (.t 6) (.seq (.cond (.c (.bool true)) (.seq (.ops [o_ 7 (.mov (.c (.tup [])))]) (.ops A_q402_1)) .bad) .ret) .bad)) .bad))
def T_q402 : FC := ⟨13, A_q402, []⟩
abbrev F_q403 : Nat := 403
def A_q403_0 : LA := [mv 3 0, Wc 4 3, Wf 5 0 4, Wl 6 5]
def A_q403_1 : LA := [mv 7 0, o_ 8 (.upc (.t 7)), o_ 9 (.rac (.t 8))]
def A_q403_2 : LA := [mv 11 0, Wc 12 11, Wf 13 0 12, o_ 14 (.xadd .i32 (.t 13) (.c (.int .i32 (-1)))), mv 2 14]
def A_q403_3 : LA := [mv 15 2, o_ 16 (.bini .neq (.t 15) (.c (.int .i32 0)))]
def A_q403 : ACode := (.seq (.cond (.c (.bool true)) (.seq (.ops A_q403_0) (.seq (.ops A_q403_1) (.ops [o_ 10 (.mov (.c (.tup [])))]))) .bad) (.seq (.ops A_q403_2) (.seq (.seq (.ops A_q403_3) (.cond (.t 16) .bad .skip)) (.ops [o_ 20 (.mov (.c (.tup [])))]))))
def T_q403 : FC := ⟨21, A_q403, []⟩
abbrev F_q404 : Nat := 404
def A_q404_0 : LA := [o_ 4 (.box 150 7 (.c (.agg [.str [], .nils, .nils, .nils, .nils, .nils, .nils]))), Wo 5 false]
def A_q404_1 : LA := [mv 9 0, Wc 10 9, Wf 11 3 10, Wl 12 11, mv 13 1, o_ 14 (.mlook .s (.agg [.str [], .nils, .nils, .nils, .nils, .nils, .nils]) true (.t 12) (.t 13)), mv 8 14, Wx 15 0 8, Wx 16 1 8, o_ 6 (.box 150 7 (.c (.agg [.str [], .nils, .nils, .nils, .nils, .nils, .nils]))), Ws 7 6 15, mv 7 16]
def A_q404_2 : LA := [Wd 17 7 6, o_ 18 (.call 154 [(.t 17)]), mv 19 7, Ws 7 4 18, mv 5 19]
def A_q404 : ACode := (.seq (.ops A_q404_0) (.seq (.ops A_q404_1) (.seq (.ops A_q404_2) .ret)))
def T_q404 : FC := ⟨20, A_q404, [.cella 4 7, .tmp 5]⟩
abbrev F_q405 : Nat := 405
def A_q405_0 : LA := [o_ 1 (.box 154 9 (.t 0)), o_ 2 (.box 204 9 (.c (.agg [.int .i32 (0), .str [], .str [], .int .u8 (0), .int .u8 (0), .int .u8 (0), .bool false, .int .i64 (0), .str []])))]
def A_q405_1 : LA := [Wf 4 1 1, Wl 5 4, Wf 6 0 1, Wl 7 6, Wf 8 8 1, Wl 9 8, Wf 10 0 1, Wl 11 10, Wf 15 2 1, Wl 16 15, Wf 17 3 1, Wl 18 17, Wf 19 5 1, Wl 20 19, Wf 21 2 1, Wl 22 21, o_ 23 (.bini .eql (.t 22) (.c (.int .u8 3))), Wf 34 6 1, Wl 35 34, o_ 12 (.acall 327 [(.t 11)]), o_ 13 (.bslice 9 1 2 [.str []] [(0, 1, (.t 9)), (1, 1, (.t 12))]), o_ 14 (.acall 417 [(.t 13)]), mv 24 23, Wgf 25 3 1 24, Wgl 26 25 24, g_ 27 (.acall 418 [(.t 26)]) 24, Wp 28 24 27, mv 29 28, Wgf 30 7 1 29, Wgl 31 30 29, g_ 32 (.bini .neq (.t 31) (.c (.int .u8 2))) 29, Wp 33 29 32, o_ 36 (.build [.int .i32 (0), .str [], .str [], .int .u8 (0), .int .u8 (0), .int .u8 (0), .bool false, .int .i64 (0), .str []] [(0, 1, (.t 5)), (1, 1, (.t 7)), (2, 1, (.t 14)), (3, 1, (.t 16)), (4, 1, (.t 18)), (5, 1, (.t 20)), (6, 1, (.t 33)), (7, 1, (.t 35))]), o_ 3 (.box 204 9 (.c (.agg [.int .i32 (0), .str [], .str [], .int .u8 (0), .int .u8 (0), .int .u8 (0), .bool false, .int .i64 (0), .str []]))), Ws 9 3 36]
def A_q405_2 : LA := [Wf 37 3 1, Wl 38 37, o_ 39 (.bini .eql (.t 38) (.c (.int .u8 11))), mv 40 39, Wh 41 (.faddr 3 (.t 1)) 40, Wh 42 (.ld1 (.t 41)) 40, Wh 43 (.bini .eql (.t 42) (.c (.int .u8 14))) 40, Wq 44 40 43]
def A_q405_3 : LA := [Wd 48 9 3, Ws 9 2 48]
def A_q405 : ACode := (.seq (.ops A_q405_0) (.seq (.alts [4, 5, 6, 7, 8, 9, 10, 11, 12, 13, 14, 15, 16, 17, 18, 19, 20, 21, 22, 23, 24, 25, 26, 27, 28, 29, 30, 31, 32, 33, 34, 35, 36, 3] [A_q405_1]) (.seq (.seq (.ops A_q405_2) (.cond (.t 44) .bad .skip)) (.seq (.ops A_q405_3) .ret))))
def T_q405 : FC := ⟨49, A_q405, [.cella 2 9]⟩
abbrev F_q406 : Nat := 406
def A_q406_0 : LA := [mv 4 0, mv 5 0, We 6 5, mv 7 1, o_ 8 (.call 419 [(.t 4), (.t 6), (.t 7)])]
def A_q406 : ACode := (.ops A_q406_0)
def T_q406 : FC := ⟨9, A_q406, []⟩
abbrev F_q417 : Nat := 417
def A_q417_0 : LA := [mv 6 0, We 7 6, Wm 8 0]
def A_q417_1 : LA := [Wa 10 9 1 6 8, Wl 11 10, mv 5 11]
def A_q417_2 : LA := [mv 12 5, mv 13 3, o_ 14 (.bins .neq (.t 12) (.t 13))]
def A_q417_3 : LA := [mv 15 5, mv 2 15]
def A_q417_4 : LA := [Wi 16 .add 8 1, mv 8 16]
def A_q417_5 : ACode := (.seq (.ops [Wb 9 .lss 8 7]) (.seq (.cond (.t 9) .skip .bad) (.seq (.block 1 (.seq (.ops A_q417_1) (.seq (.ops A_q417_2) (.cond (.t 14) (.seq (.ops A_q417_3) .ret) .skip)))) (.ops A_q417_4))))
def A_q417_6 : LA := [mv 17 3, mv 2 17]
def A_q417 : ACode := (.seq (.ops [o_ 2 (.mov (.c (.str [])))]) (.seq (.ops [o_ 3 (.mov (.c (.str [])))]) (.seq (.seq (.ops A_q417_0) (.block 0 (.loop A_q417_5))) (.seq (.ops A_q417_6) .ret))))
def T_q417 : FC := ⟨18, A_q417, [.tmp 2]⟩
abbrev F_q419 : Nat := 419
def A_q419_0 : LA := [mv 10 6, Wm 7 0, mv 8 10]
def A_q419_1 : LA := [mv 11 8, mv 12 1, Wb 13 .leq 11 12]
def A_q419_2 : ACode := (.seq (.seq (.ops A_q419_1) (.cond (.t 13) .bad (.exit 0))) .bad)
def A_q419_3 : LA := [mv 23 0, mv 24 7, mv 25 1, mv 26 2, o_ 27 (.call 427 [(.t 23), (.t 24), (.t 25), (.t 26)])]
def A_q419_4 : LA := [mv 28 6, mv 29 1, Wb 30 .lss 28 29]
def A_q419_5 : ACode := (.seq (.seq (.ops A_q419_4) (.cond (.t 30) .bad (.exit 2))) .bad)
def A_q419 : ACode := (.seq (.ops [Wm 6 20]) (.seq (.ops A_q419_0) (.seq (.block 0 (.loop A_q419_2)) (.seq (.ops A_q419_3) (.block 2 (.loop A_q419_5))))))
def T_q419 : FC := ⟨63, A_q419, []⟩
abbrev F_q427 : Nat := 427
def A_q427_0 : LA := [mv 10 1, Wi 11 .add 10 1, mv 8 11]
def A_q427_1 : LA := [mv 12 8, mv 13 2, Wb 14 .lss 12 13]
def A_q427_2 : ACode := (.seq (.seq (.ops A_q427_1) (.cond (.t 14) .bad (.exit 0))) .bad)
def A_q427 : ACode := (.seq (.ops A_q427_0) (.block 0 (.loop A_q427_2)))
def T_q427 : FC := ⟨53, A_q427, []⟩
end Go.Proofs.YtldbbnkacahndabGreatDoor

namespace Go.Proofs.YtldbbnkacahndabGreatDoor
open Go.L
set_option maxRecDepth 100000
def Codes : Tr FC := (.node (.node (.node (.node (.node (.node (.node (.node (.node .nil (some T_q255) .nil) (some T_q127) .nil) (some T_q63) .nil) none (.node (.node (.node .nil (some T_q287) .nil) (some T_q159) .nil) (some T_q95) (.node .nil (some T_q223) .nil))) (some T_q15) (.node (.node (.node (.node .nil (some T_q271) .nil) (some T_q143) (.node .nil (some T_q399) .nil)) (some T_q79) (.node .nil (some T_q207) .nil)) (some T_q47) (.node .nil (some T_q111) .nil))) (some T_q7) (.node (.node (.node (.node .nil (some T_q135) .nil) (some T_q71) (.node (.node .nil (some T_q327) .nil) (some T_q199) .nil)) (some T_q39) (.node (.node .nil (some T_q167) .nil) (some T_q103) .nil)) (some T_q23) (.node (.node (.node (.node .nil (some T_q279) .nil) none .nil) (some T_q87) (.node .nil (some T_q215) .nil)) (some T_q55) (.node (.node (.node .nil (some T_q311) .nil) none .nil) (some T_q119) .nil)))) none (.node (.node (.node (.node (.node .nil (some T_q131) .nil) (some T_q67) .nil) (some T_q35) (.node (.node (.node .nil (some T_q291) .nil) (some T_q163) (.node .nil (some T_q419) .nil)) (some T_q99) (.node (.node .nil (some T_q355) .nil) (some T_q227) .nil))) (some T_q19) (.node (.node (.node (.node .nil (some T_q275) .nil) (some T_q147) (.node .nil (some T_q403) .nil)) none (.node .nil (some T_q211) .nil)) (some T_q51) (.node .nil (some T_q115) .nil))) none (.node (.node (.node (.node .nil (some T_q139) .nil) (some T_q75) (.node (.node .nil (some T_q331) .nil) none .nil)) (some T_q43) (.node (.node .nil (some T_q171) (.node .nil (some T_q427) .nil)) (some T_q107) .nil)) (some T_q27) (.node (.node (.node (.node .nil (some T_q283) .nil) (some T_q155) .nil) (some T_q91) .nil) (some T_q59) (.node (.node .nil (some T_q187) .nil) (some T_q123) .nil))))) none (.node (.node (.node (.node (.node (.node .nil (some T_q129) .nil) (some T_q65) .nil) none (.node (.node (.node .nil (some T_q289) .nil) (some T_q161) (.node .nil (some T_q417) .nil)) (some T_q97) (.node .nil (some T_q225) .nil))) (some T_q17) (.node (.node (.node (.node .nil (some T_q273) .nil) (some T_q145) (.node .nil (some T_q401) .nil)) (some T_q81) (.node .nil (some T_q209) .nil)) (some T_q49) (.node (.node .nil (some T_q177) .nil) (some T_q113) .nil))) none (.node (.node (.node .nil (some T_q73) (.node .nil (some T_q201) .nil)) (some T_q41) (.node (.node .nil (some T_q169) .nil) (some T_q105) .nil)) (some T_q25) (.node (.node (.node (.node .nil (some T_q281) .nil) (some T_q153) .nil) (some T_q89) (.node .nil (some T_q217) .nil)) (some T_q57) (.node (.node .nil (some T_q185) .nil) (some T_q121) .nil)))) (some T_lexiconlaw23_known) (.node (.node (.node (.node (.node .nil (some T_q133) .nil) (some T_q69) (.node (.node .nil (some T_q325) .nil) none .nil)) (some T_q37) (.node (.node .nil (some T_q165) .nil) (some T_q101) (.node (.node .nil (some T_q357) .nil) (some T_q229) .nil))) (some T_q21) (.node (.node (.node (.node .nil (some T_q277) .nil) (some T_q149) (.node .nil (some T_q405) .nil)) none (.node .nil (some T_q213) .nil)) (some T_q53) (.node (.node (.node .nil (some T_q309) .nil) none .nil) (some T_q117) (.node .nil (some T_q245) .nil)))) none (.node (.node (.node (.node (.node .nil (some T_q269) .nil) (some T_q141) .nil) (some T_q77) (.node (.node .nil (some T_q333) .nil) (some T_q205) .nil)) (some T_q45) (.node (.node (.node .nil (some T_q301) .nil) none .nil) (some T_q109) .nil)) none (.node (.node (.node (.node .nil (some T_q285) .nil) (some T_q157) .nil) none (.node .nil (some T_q221) .nil)) (some T_q61) (.node (.node .nil (some T_q189) .nil) (some T_q125) .nil)))))) none (.node (.node (.node (.node (.node (.node (.node .nil (some T_q128) .nil) (some T_q64) .nil) none (.node (.node (.node .nil (some T_q288) .nil) (some T_q160) .nil) (some T_q96) (.node .nil (some T_q224) .nil))) (some T_q16) (.node (.node (.node (.node .nil (some T_q272) .nil) (some T_q144) (.node .nil (some T_q400) .nil)) (some T_q80) (.node (.node .nil (some T_q336) .nil) (some T_q208) .nil)) (some T_q48) (.node .nil (some T_q112) (.node (.node .nil (some T_q368) .nil) (some T_q240) .nil)))) none (.node (.node (.node .nil (some T_q72) (.node (.node .nil (some T_q328) .nil) (some T_q200) .nil)) (some T_q40) (.node (.node .nil (some T_q168) .nil) (some T_q104) .nil)) (some T_q24) (.node (.node (.node (.node .nil (some T_q280) .nil) none .nil) (some T_q88) (.node .nil (some T_q216) .nil)) (some T_q56) (.node .nil (some T_q120) .nil)))) none (.node (.node (.node (.node .nil (some T_q68) (.node (.node .nil (some T_q324) .nil) none .nil)) (some T_q36) (.node (.node (.node .nil (some T_q292) .nil) (some T_q164) .nil) (some T_q100) (.node .nil (some T_q228) .nil))) (some T_q20) (.node (.node (.node (.node .nil (some T_q276) .nil) (some T_q148) (.node .nil (some T_q404) .nil)) (some T_q84) (.node .nil (some T_q212) .nil)) (some T_q52) (.node (.node (.node .nil (some T_q308) .nil) none .nil) (some T_q116) (.node .nil (some T_q244) .nil)))) none (.node (.node (.node (.node (.node .nil (some T_q268) .nil) (some T_q140) .nil) (some T_q76) (.node (.node .nil (some T_q332) .nil) (some T_q204) .nil)) (some T_q44) (.node (.node (.node .nil (some T_q300) .nil) none .nil) (some T_q108) .nil)) none (.node (.node (.node .nil (some T_q156) .nil) (some T_q92) (.node .nil (some T_q220) .nil)) none (.node (.node .nil (some T_q188) .nil) (some T_q124) (.node .nil (some T_q252) .nil)))))) none (.node (.node (.node (.node (.node (.node .nil (some T_q130) .nil) (some T_q66) (.node .nil (some T_q194) .nil)) (some T_q34) (.node (.node (.node .nil (some T_q290) .nil) (some T_q162) .nil) (some T_q98) (.node .nil (some T_q226) .nil))) (some T_q18) (.node (.node (.node (.node .nil (some T_q274) .nil) (some T_q146) (.node .nil (some T_q402) .nil)) none (.node .nil (some T_q210) .nil)) (some T_q50) (.node .nil (some T_q114) (.node .nil (some T_q242) .nil)))) none (.node (.node (.node (.node .nil (some T_q138) .nil) (some T_q74) .nil) (some T_q42) (.node (.node .nil (some T_q170) .nil) (some T_q106) .nil)) (some T_q26) (.node (.node (.node (.node .nil (some T_q282) .nil) (some T_q154) .nil) (some T_q90) (.node .nil (some T_q218) .nil)) (some T_q58) (.node (.node .nil (some T_q186) .nil) (some T_q122) .nil)))) none (.node (.node (.node (.node (.node .nil (some T_q134) .nil) (some T_q70) (.node .nil (some T_q198) .nil)) (some T_q38) (.node (.node .nil (some T_q166) .nil) (some T_q102) (.node .nil (some T_q230) .nil))) (some T_q22) (.node (.node (.node .nil none (.node .nil (some T_q406) .nil)) (some T_q86) (.node .nil (some T_q214) .nil)) (some T_q54) (.node (.node .nil (some T_q182) .nil) (some T_q118) .nil))) none (.node (.node (.node (.node (.node .nil (some T_q270) .nil) (some T_q142) (.node .nil (some T_q398) .nil)) (some T_q78) (.node (.node .nil (some T_q334) .nil) (some T_q206) .nil)) (some T_q46) (.node (.node (.node .nil (some T_q302) .nil) none .nil) (some T_q110) .nil)) (some T_q30) (.node (.node (.node (.node .nil (some T_q286) .nil) (some T_q158) .nil) (some T_q94) (.node .nil (some T_q222) .nil)) (some T_q62) (.node (.node .nil (some T_q190) .nil) (some T_q126) (.node .nil (some T_q254) .nil))))))))
end Go.Proofs.YtldbbnkacahndabGreatDoor
