/- The logic L (of no program), and plain laws: texts put together; no conditions. -/
import Derived.Test.YtldbbnkacahndaaGreatDoorZ3
import Derived.ProofKit
import Derived.KernelRfl
namespace Go.L
theorem qZa {a b : ADef} (h : eqD a b = true) : a = b := by
 cases a <;> cases b <;> simp only [eqD] at h <;> first | (cases h; done) | skip
 ·simp only [Bool.and_eq_true] at h
  rw [zRD h.1, zGM _ h.2.1, zGM _ h.2.2]
 ·rw [Nat.eq_of_beq_eq_true h]
theorem qQl : ∀ {a b : List ADef}, eqDs a b = true → a = b := by
 intro a
 induction a with
 | nil => intro b h; cases b with
  | nil => rfl
  | cons => cases h
 | cons x l ih => intro b h; cases b with
  | nil => cases h
  | cons y m =>
   simp only [eqDs, Bool.and_eq_true] at h
   rw [qZa h.1, ih h.2]
theorem qZZ {a b : ET} (h : eqE a b = true) : a = b := by
 simp only [eqE, Bool.and_eq_true] at h
 cases a; cases b
 simp only at h
 rw [Nat.eq_of_beq_eq_true h.1, qQl h.2.1, qLz (fun h => zHY _ h) h.2.2]
theorem qLy {a b : XR} (h : eqX a b = true) : a = b := by
 unfold eqX at h
 split at h
 ·simp only [Bool.and_eq_true] at h
  rw [qZZ h.1, zRC h.2]
 ·cases h
theorem qZb {a b : CR} (h : eqC a b = true) : a = b := by
 unfold eqC at h
 split at h
 ·simp only [Bool.and_eq_true] at h
  rw [zHY _ h.1, zRC h.2]
 ·cases h
section
variable {P : Program} {hb : FuncId → Bool} {run : Run}
theorem zWU {f : ET → HT → Option (List XR)} {c : ACode} {kp : List Nat} (hf : ∀ (e : ET) (h : HT) (l : List XR) (Q : Xit → Env → Hp → Prop), f e h = some l → PanC kp Q → (∀ x ∈ l, XRQ P Q x) → zD P true c Q e.env (h.hp P))
  {n : Nat} {e : ET} {h : HT} {l : List XR} {Q : Xit → Env → Hp → Prop} (hx : zQr f n e h = some l) (hQ : PanC kp Q) (hl : ∀ x ∈ l, XRQ P Q x) : zD P true (.loop c) Q e.env (h.hp P) := by
 refine ⟨fun m e1 h1 => ∃ (e2 : ET) (h2 : HT) (l2 : List XR), e1 = e2.env ∧ h1 = h2.hp P ∧ zQr f m e2 h2 = some l2 ∧ ∀ x ∈ l2, XRQ P Q x, ⟨n, e, h, l, rfl, rfl, hx, hl⟩, ?_⟩
 rintro m _ _ ⟨e2, h2, l2, rfl, rfl, hm, hl2⟩
 cases m with
 | zero => cases hm
 | succ m =>
  simp only [zQr] at hm
  split at hm <;> first | cases hm | skip
  rename_i outs ho
  refine hf _ _ _ _ ho (fun v => hQ v) (qQw qLy fun x hxo => ?_)
  obtain ⟨k, hk, hsub⟩ := jI hm x hxo
  obtain ⟨y, e3, h3⟩ := x
  cases y with
  | normal => exact ⟨m, Nat.lt_succ_self m, e3, h3, k, rfl, rfl, hk, fun x hx => hl2 x (hsub x hx)⟩
  | exit i => cases hk; exact hl2 _ (hsub _ (List.mem_singleton.2 rfl))
  | ret => cases hk; exact hl2 _ (hsub _ (List.mem_singleton.2 rfl))
  | pan v => cases hk; exact hl2 _ (hsub _ (List.mem_singleton.2 rfl))
theorem zOh (hh : zEc P hb) (hrun : RunOK P run) {l : List AOper} {e e0 : ET} {h : HT} {outs : List OR} {m : List XR} {D kp : List Nat} {Q : Xit → Env → Hp → Prop} (hQ : PanC kp Q) (hx : xOps P hb run l e h = some outs)
  (hb2 : zDr outs (altX kp D e0) = some m) (hl : ∀ x ∈ m, XRQ P Q x) : LOps P true l (fun e h => Q .normal e h) (fun v _ h => ∀ g : Nat → AV, (∀ t, inL t D = false → g t = e0.env.t t) → Q (.pan v) ⟨e0.env.n, g, e0.env.ds⟩ h) e.env (h.hp P) := by
 refine zQD hh hrun l hx fun x hxo => ?_
 obtain ⟨k, hk, hsub⟩ := jI hb2 x hxo
 cases x with
 | nor e h => cases hk; exact hl _ (hsub _ (List.mem_singleton.2 rfl))
 | pan v e h =>
  simp only [altX] at hk
  split at hk <;> cases hk
  rename_i hD
  intro g hg
  refine hQ v e0.env ⟨e0.env.n, g, e0.env.ds⟩ _ rfl rfl (fun t ht => (hg t ?_).symm) (hl _ (hsub _ (List.mem_singleton.2 rfl)))
  cases hd : inL t D with
  | false => rfl
  | true =>
   have := List.all_eq_true.1 hD t (zMF.1 hd)
   rw [ht] at this; cases this
theorem zOg (hh : zEc P hb) (hrun : RunOK P run) {e e0 : ET} {h : HT} {D kp : List Nat} {Q : Xit → Env → Hp → Prop} (hQ : PanC kp Q) : ∀ {ls : List (List AOper)} {m : List XR}, zQG (fun l => xOps P hb run l e h) (altX kp D e0) ls = some m → (∀ x ∈ m, XRQ P Q x) →
  zPy P true ls (fun e h => Q .normal e h) (fun v _ h => ∀ g : Nat → AV, (∀ t, inL t D = false → g t = e0.env.t t) → Q (.pan v) ⟨e0.env.n, g, e0.env.ds⟩ h) e.env (h.hp P)
 | [], m, _, _ => trivial
 | [l], m, hx, hl => by
  simp only [zQG] at hx
  split at hx <;> first | cases hx | skip
  rename_i outs ho
  exact zOh hh hrun hQ ho hx hl
 | l :: l2 :: r, m, hx, hl => by
  simp only [zQG] at hx
  split at hx <;> first | cases hx | skip
  rename_i outs ho
  split at hx <;> first | cases hx | skip
  rename_i a ha
  split at hx <;> cases hx
  rename_i b hb3
  exact ⟨zOh hh hrun hQ ho ha fun x hx => hl x (List.mem_append_left _ hx), zOg hh hrun hQ hb3 fun x hx => hl x (List.mem_append_right _ hx)⟩
theorem Hp.set_del {h : Hp} {i : Nat} {b : Blk} (hu : h.u i = true) : (h.set i b).del i = h.del i := by
 refine Hp.ext (fun j => ?_) (fun j => ?_)
 ·by_cases e : j = i
  ·subst e; simp
  ·rw [Hp.del_ne e, Hp.del_ne e, Hp.set_ne e]
 ·simp only [Hp.del_u, Hp.set_u]
  split
  ·rename_i e; rw [e, hu]
  ·rfl
theorem zVp {i j : Nat} {e : ET} {h : HT} {l : List XR} {Q : Xit → Env → Hp → Prop} (hx : qPd i j e h = some l) (hl : ∀ x ∈ l, XRQ P Q x) : rngQ j Q ⟨e.env.n, e.env.t, .mark i :: e.env.ds⟩ (h.hp P) := by
 unfold qPd at hx
 split at hx <;> first | cases hx | skip
 rename_i n t ps a b st pend hj
 have hu := hp_u (P := P) hj
 have key : st ≠ .busy → ∀ y, l = [(y, ⟨e.n, e.t, .mark i :: e.ds⟩, h.del j)] → Q y ⟨e.env.n, e.env.t, .mark i :: e.env.ds⟩ ((h.hp P).del j) := fun _ y hy => by
  subst hy
  have := hl _ (List.mem_singleton.2 rfl)
  simp only [XRQ, HT.hp_del] at this
  exact this
 have hst : st ≠ .busy := fun e => by subst e; cases hx
 refine ⟨pend, n, _, ps, _, st, pend, zMH hj, ⟨hst, rfl⟩, .inr ?_⟩
 rw [Hp.set_del hu]
 have hx' : (match pend with
   | none => some [((.normal, ⟨e.n, e.t, .mark i :: e.ds⟩, h.del j) : XR)]
   | some .ret => some [(.ret, ⟨e.n, e.t, .mark i :: e.ds⟩, h.del j)]
   | some (.exit id) => some [(.exit id, ⟨e.n, e.t, .mark i :: e.ds⟩, h.del j)]) = some l := by
  clear key hl
  cases st <;> first | (cases pend with
   | none => exact hx
   | some p => cases p <;> exact hx) | exact (hst rfl).elim
 cases pend with
 | none => cases hx'; exact key hst _ rfl
 | some p => cases p with
  | ret => cases hx'; exact key hst _ rfl
  | exit id => cases hx'; exact key hst _ rfl
theorem zVr (hh : zEc P hb) (hrun : RunOK P run) {fuel : Nat} {kp : List Nat} : ∀ (c : ACode) (e : ET) (h : HT) (l : List XR) (Q : Xit → Env → Hp → Prop), xC P hb run fuel kp c e h = some l → PanC kp Q → (∀ x ∈ l, XRQ P Q x) → zD P true c Q e.env (h.hp P) := by
 intro c
 have one : ∀ {e : ET} {h : HT} {y : Xit} {Q : Xit → Env → Hp → Prop}, (∀ x ∈ [((y, e, h) : XR)], XRQ P Q x) → Q y e.env (h.hp P) := fun hl => hl _ (List.mem_singleton.2 rfl)
 induction c with
 | skip => intro e h l Q hx hQ hl; cases hx; exact one hl
 | ops ll =>
  intro e h l Q hx hQ hl
  simp only [xC, opsX] at hx
  split at hx <;> first | cases hx | skip
  rename_i outs ho
  refine zQD hh hrun ll ho fun x hxo => ?_
  obtain ⟨k, hk, hsub⟩ := jI hx x hxo
  cases x <;> cases hk <;> exact hl _ (hsub _ (List.mem_singleton.2 rfl))
 | seq a b iha ihb =>
  intro e h l Q hx hQ hl
  simp only [xC, seqX] at hx
  split at hx <;> first | cases hx | skip
  rename_i outs ho
  refine iha _ _ _ _ ho (fun v => hQ v) fun x hxo => ?_
  obtain ⟨k, hk, hsub⟩ := jI hx x hxo
  obtain ⟨y, e1, h1⟩ := x
  cases y with
  | normal => exact ihb _ _ _ _ hk hQ fun x hx => hl x (hsub x hx)
  | exit i => cases hk; exact hl _ (hsub _ (List.mem_singleton.2 rfl))
  | ret => cases hk; exact hl _ (hsub _ (List.mem_singleton.2 rfl))
  | pan v => cases hk; exact hl _ (hsub _ (List.mem_singleton.2 rfl))
 | cond c a b iha ihb =>
  intro e h l Q hx hQ hl
  simp only [xC, qZf] at hx
  split at hx <;> first | cases hx | skip
  ·rename_i h1; simp only [zD, h1, zHd]; exact iha _ _ _ _ hx hQ hl
  ·rename_i h1; simp only [zD, h1, zHd]; exact ihb _ _ _ _ hx hQ hl
 | block id c ih =>
  intro e h l Q hx hQ hl
  simp only [xC, qMF] at hx
  split at hx <;> first | cases hx | skip
  rename_i outs ho
  refine ih _ _ _ _ ho (fun v => hQ v) fun x hxo => ?_
  obtain ⟨k, hk, hsub⟩ := jI hx x hxo
  obtain ⟨y, e1, h1⟩ := x
  cases y with
  | exit j =>
   simp only at hk
   split at hk <;> cases hk
   ·rename_i hj
    have := hl _ (hsub _ (List.mem_singleton.2 rfl))
    simp only [XRQ, zMG, Nat.eq_of_beq_eq_true hj, if_true] at this ⊢; exact this
   ·rename_i hj
    have hne : j ≠ id := fun e => by subst e; rw [Nat.beq_refl] at hj; cases hj
    have := hl _ (hsub _ (List.mem_singleton.2 rfl))
    simp only [XRQ, zMG, hne, if_false] at this ⊢; exact this
  | normal => cases hk; exact hl _ (hsub _ (List.mem_singleton.2 rfl))
  | ret => cases hk; exact hl _ (hsub _ (List.mem_singleton.2 rfl))
  | pan v => cases hk; exact hl _ (hsub _ (List.mem_singleton.2 rfl))
 | loop c ih => intro e h l Q hx hQ hl; exact zWU (fun e h l Q => ih e h l Q) hx hQ hl
 | exit id => intro e h l Q hx hQ hl; cases hx; exact one hl
 | ret => intro e h l Q hx hQ hl; cases hx; exact one hl
 | bad => intro e h l Q hx hQ hl; cases hx
 | recv d ms => intro e h l Q hx hQ hl; cases hx
 | orr a b iha ihb =>
  intro e h l Q hx hQ hl
  simp only [xC, orX] at hx
  split at hx
  ·rename_i r hr; cases hx; exact .inl (iha _ _ _ _ hr hQ hl)
  ·exact .inr (ihb _ _ _ _ hx hQ hl)
 | alts D ls =>
  intro e h l Q hx hQ hl
  simp only [xC, qZl] at hx
  split at hx <;> cases hx
  rename_i m hm
  exact zOg hh hrun hQ hm (qQw qLy hl)
 | dfr x args =>
  intro e h l Q hx hQ hl
  simp only [xC, dfrX] at hx
  split at hx <;> cases hx
  rename_i f first cap hv
  simp only [zD, hv]
  exact one hl
 | rngf g ps a b iha ihb =>
  intro e h l Q hx hQ hl
  simp only [xC, rngX] at hx
  split at hx <;> first | cases hx | skip
  rename_i f first cap hv
  split at hx <;> first | cases hx | skip
  rename_i hc
  simp only [Bool.and_eq_true, Bool.not_eq_true'] at hc
  obtain ⟨hbf, hu1, hu2⟩ := hc
  split at hx <;> first | cases hx | skip
  rename_i outs ho
  simp only [zD, hv]
  have fresh : ∀ {h : Hp} {i : Nat}, h.u i = false → Fresh h i := fun {h i} hu => ⟨hu, h.ok i hu⟩
  rw [HT.hp_set] at hu2
  refine ⟨hh f hbf, h.n, fresh hu1, h.n + 1, fresh hu2, ?_⟩
  have k := hrun.call _ _ _ _ (fun r h' => match r with
   | .ret _ => rngQ (h.n + 1) Q ⟨e.env.n, e.env.t, .mark h.n :: e.env.ds⟩ h'
   | .pan v => Q (.pan v) ⟨e.env.n, e.env.t, .mark h.n :: e.env.ds⟩ h') ho (fun x hxo => ?_)
  ·rw [HT.hp_set, HT.hp_set] at k; exact k
  obtain ⟨m, hm, hsub⟩ := jI hx x hxo
  cases x with
  | ret v h' => exact zVp hm fun x hx => hl x (hsub x hx)
  | pan v h' => cases hm; exact hl _ (hsub _ (List.mem_singleton.2 rfl))
theorem zQC {e : Env} {h : Hp} : ∀ (rs : List ARes) {l : List AV} {N : List AV → Prop}, xRes e h rs = some l → N l → resL e h rs N := by
 intro rs
 induction rs with
 | nil => intro l N hx hn; cases hx; exact hn
 | cons r rs ih =>
  intro l N hx hn
  cases r <;> simp only [xRes] at hx <;> split at hx <;> cases hx
  ·rename_i l' h1; exact ih h1 hn
  ·rename_i v l' h1 h2; exact zWe h1 (ih h2 hn)
  ·rename_i v l' h1 h2; exact zWe h1 (ih h2 hn)
theorem zRr : ∀ (args : List AV) (i : Nat) (t : Tr AV) (x : Nat), (zOT args i t).get x = if i ≤ x ∧ x < i + args.length then args[x - i]? else t.get x := by
 intro args
 induction args with
 | nil => intro i t x; simp only [zOT, List.length_nil]; rw [if_neg (by omega)]
 | cons a r ih =>
  intro i t x
  rw [zOT, ih, Tr.get_set]
  by_cases e : x = i
  ·subst e
   rw [if_neg (by omega), if_pos rfl, if_pos (by simp)]; simp
  ·by_cases e2 : i + 1 ≤ x ∧ x < i + 1 + r.length
   ·rw [if_pos e2, if_pos (by simp; omega)]
    obtain ⟨k, rfl⟩ : ∃ k, x = i + 1 + k := ⟨x - (i + 1), by omega⟩
    rw [show i + 1 + k - (i + 1) = k by omega, show i + 1 + k - i = k + 1 by omega]; rfl
   ·rw [if_neg e2, if_neg e, if_neg (by simp; omega)]
theorem zRE (n : Nat) (args : List AV) : (⟨n, zOT args 0 .nil, []⟩ : ET).env = env0 n args := by
 simp only [ET.env, env0, Env.mk.injEq, true_and, and_true]
 funext x
 rw [zRr]
 by_cases h : x < args.length
 ·rw [if_pos (by omega)]; simp
 ·rw [if_neg (by omega), List.getElem?_eq_none (by omega), Tr.get_nil]
theorem zJf (hh : zEc P hb) (hrun : RunOK P run) {rs : List ARes} {Q : Res → Hp → Prop} : ∀ (ds : List ADef) (u : Um) (e : ET) (h : HT) (l : List CR), zHI P hb run rs ds u e h = some l → (∀ x ∈ l, CRQ P Q x) → zBa P rs Q ds u e.env (h.hp P) := by
 intro ds
 induction ds with
 | nil =>
  intro u e h l hx hl
  cases u with
  | ret =>
   simp only [zHI] at hx
   split at hx <;> cases hx
   rename_i r hr
   exact zQC rs hr (hl _ (List.mem_singleton.2 rfl))
  | pan v => cases hx; exact hl _ (List.mem_singleton.2 rfl)
  | rcv v => cases hx
 | cons d ds ih =>
  intro u e h l hx hl
  cases d with
  | mark i =>
   simp only [zHI] at hx
   split at hx <;> first | cases hx | skip
   rename_i hi
   have := ih _ _ _ _ hx hl
   rw [HT.hp_del] at this
   exact ⟨zMH hi, this⟩
  | call fn cap args =>
   cases fn <;> simp only [zHI] at hx <;> first | (cases hx; done) | skip
   rename_i f
   split at hx <;> first | cases hx | skip
   rename_i hbf
   split at hx <;> first | cases hx | skip
   rename_i outs ho
   refine ⟨hh f hbf, hrun.dfr _ _ _ _ _ _ ho fun x hxo => ?_⟩
   obtain ⟨m, hm, hsub⟩ := jI hx x hxo
   obtain ⟨r, um, h'⟩ := x
   cases r with
   | ret v => exact ih _ _ _ _ hm fun x hx => hl x (hsub x hx)
   | pan v => cases hm
theorem zOu {t a : Nat} {l : List Nat} : inL t (a :: l) = (Nat.beq a t || inL t l) := rfl
theorem zPT {e e2 : Env} {h : Hp} : ∀ {rs : List ARes}, (∀ t, inL t (resT rs) = true → e.t t = e2.t t) → ∀ {N : List AV → Prop}, resL e h rs N = resL e2 h rs N := by
 intro rs
 induction rs with
 | nil => intro _ N; rfl
 | cons r rs ih =>
  intro hT N
  have hd : ∀ t, resT (r :: rs) = t :: resT rs → e.t t = e2.t t := fun t ht => hT t (by rw [ht, zOu, Nat.beq_refl]; rfl)
  have tl : ∀ t, inL t (resT rs) = true → e.t t = e2.t t := fun t ht => hT t (by
   cases r <;> simp only [resT, zOu, ht, Bool.or_true])
  have ih := fun {N} => ih tl (N := N)
  cases r with
  | tmp t => simp only [resL, ih, hd t rfl]
  | cell1 t => simp only [resL, LN, ev, ih, hd t rfl]
  | cella t n => simp only [resL, LN, ev, ih, hd t rfl]
theorem zMV {rs : List ARes} {Q : Res → Hp → Prop} : ∀ (ds : List ADef) (u : Um) {e e2 : Env} {h : Hp}, (∀ t, inL t (resT rs) = true → e.t t = e2.t t) → zBa P rs Q ds u e h → zBa P rs Q ds u e2 h := by
 intro ds
 induction ds with
 | nil =>
  intro u e e2 h hT hl
  cases u with
  | ret => exact Eq.mp (zPT hT) hl
  | pan v => exact hl
  | rcv v => exact hl
 | cons d ds ih =>
  intro u e e2 h hT hl
  cases d with
  | mark i => exact ⟨hl.1, ih _ hT hl.2⟩
  | call fn cap args =>
   cases fn <;> first | exact hl.elim | skip
   refine ⟨hl.1, hl.2.mono fun r u h' hr => ?_⟩
   cases r with
   | ret v => exact ih _ hT hr
   | pan v => exact hr.elim
theorem zPz {rs : List ARes} {Q : Res → Hp → Prop} : PanC (resT rs) (jHs P rs Q) := fun v e e' h _ hds hT hq => by
 have : zBa P rs Q e.ds (.pan v) e h := hq
 show zBa P rs Q e'.ds (.pan v) e' h
 rw [← hds]; exact zMV _ _ hT this
def dels (h : Hp) : List Nat → Hp
 | [] => h
 | i :: l => dels (h.del i) l
theorem R.dels {σ : Emb} {M : Mem} {w : World} : ∀ (l : List Nat) {h : Hp}, R P σ M h w → R P σ M (dels h l) w
 | [], _, hR => hR
 | i :: l, _, hR => R.dels l (hR.del i)
theorem CallL.drop {f : FuncId} {args : List AV} {h : Hp} {Q : Res → Hp → Prop} (k : CallL P f args h fun r h' => ∃ l, Q r (Go.L.dels h' l)) : CallL P f args h Q := by
 refine ⟨fun σ M w args' hR hA => (k.run σ M w args' hR hA).mono fun e w' ⟨σ', M', h', h1, h2, h3⟩ => ?_⟩
 cases e with
 | returned v' => obtain ⟨v, a, l, b⟩ := h3; exact ⟨σ', M', _, h1, h2.dels l, v, a, b⟩
 | panicked ch => obtain ⟨v, v', a, b, l, c⟩ := h3; exact ⟨σ', M', _, h1, h2.dels l, v, v', a, b, c⟩
 | outgrown => exact h3.elim
theorem zLs : ∀ (f i : Nat) (h : HT), ∃ l, (zMj f i h).hp P = dels (h.hp P) l
 | 0, _, h => ⟨[], rfl⟩
 | f + 1, i, h => by
  have del : ∃ l, (zMj f (i + 1) (h.del i)).hp P = dels (h.hp P) l := by
   obtain ⟨l, hl⟩ := zLs f (i + 1) (h.del i)
   exact ⟨i :: l, by rw [hl, HT.hp_del]; rfl⟩
  unfold zMj
  split
  ·exact del
  ·exact del
  ·exact del
  ·exact zLs f (i + 1) h
theorem qPk {n0 : Nat} {l : List CR} {Q : Res → Hp → Prop} (h : ∀ x ∈ tidy n0 l, CRQ P Q x) : ∀ x ∈ l, CRQ P (fun r h' => ∃ l, Q r (dels h' l)) x := by
 have plain : ∀ x, CRQ P Q x → CRQ P (fun r h' => ∃ l, Q r (dels h' l)) x := fun x hx => by cases x <;> exact ⟨[], hx⟩
 unfold tidy at h
 split at h
 ·exact fun x hx => plain x (h x hx)
 ·intro x hx
  have h2 := qQw qZb h (zQH n0 x) (List.mem_map.2 ⟨x, hx, rfl⟩)
  cases x with
  | ret v h' =>
   obtain ⟨l, hl⟩ := zLs (P := P) (h'.n - n0) n0 h'
   simp only [zQH, CRQ, hl] at h2
   exact ⟨l, h2⟩
  | pan v h' => exact plain _ h2
def zMY (P : Program) (codes : Tr FC) : Prop := ∀ f c, codes.get f = some c → ∃ fn m, P.funcs[f]? = some fn ∧ fn.ntmps = c.n ∧ cutF m (zS P fn) = some (c.c, c.r)
theorem zQE {codes : Tr FC} {loops : Nat} (hk : zMY P codes) (hh : zEc P hb) (hrun : RunOK P run) {f : FuncId} {args : List AV} {h : HT} {l : List CR} {Q : Res → Hp → Prop} (hx : xFun P hb codes loops run f args h = some l) (hl : ∀ x ∈ l, CRQ P Q x) :
  CallL P f args (h.hp P) Q := by
 unfold xFun at hx
 split at hx <;> first | cases hx | skip
 rename_i c hc
 obtain ⟨fn, msk, hf, hn, hcf⟩ := hk f c hc
 obtain ⟨full, hcf, hcut⟩ := zJY hcf
 split at hx <;> first | cases hx | skip
 rename_i hlen
 have hlen' := Nat.le_of_ble_eq_true hlen
 split at hx <;> first | cases hx | skip
 rename_i outs ho
 split at hx <;> cases hx
 rename_i l2 hl2
 refine CallL.drop (CallL.ofD (md := true) hf hcf (by rw [hn]; exact hlen') ?_)
 rw [hn, ← zRE]
 have hq := qPk hl
 refine zGo full msk ?_
 rw [← hcut]
 refine zVr hh hrun _ _ _ _ _ ho zPz fun x hxo => ?_
 obtain ⟨m, hm, hsub⟩ := jI hl2 x hxo
 obtain ⟨y, e', h'⟩ := x
 cases y with
 | normal => exact zJf hh hrun _ _ _ _ _ hm fun x hx => hq x (hsub x hx)
 | ret => exact zJf hh hrun _ _ _ _ _ hm fun x hx => hq x (hsub x hx)
 | pan v => exact zJf hh hrun _ _ _ _ _ hm fun x hx => hq x (hsub x hx)
 | exit i => cases hm
theorem zFp : ∀ (ms : List (Option Nat × AOpd)) (e : ET), (zMp e ms).env = zMq e.env ms
 | [], e => rfl
 | (d, x) :: r, e => by rw [zMp, zMq, zFp r, ET.env_put]
theorem qYi (hh : zEc P hb) (hrun : RunOK P run) {fuel : Nat} : ∀ (c : ACode) (e : ET) (h : HT) (u : Um) (l : List XS) (Q : Xit → Env → Hp → Um → Prop), xCS P hb run fuel c e h u = some l → (∀ u, PanC [] fun x e h => Q x e h u) → (∀ x ∈ l, Q x.1 x.2.1.env (x.2.2.1.hp P) x.2.2.2) → qA P true c Q e.env (h.hp P) u := by
 intro c
 have plain : ∀ (c : ACode) (e : ET) (h : HT) (u : Um) (l : List XS) (Q : Xit → Env → Hp → Um → Prop), zGH c = true → (match xC P hb run fuel [] c e h with
   | some outs => some (outs.map fun x => ((x.1, x.2.1, x.2.2, u) : XS))
   | none => none) = some l → (∀ u, PanC [] fun x e h => Q x e h u) → (∀ x ∈ l, Q x.1 x.2.1.env (x.2.2.1.hp P) x.2.2.2) → zD P true c (fun x e h => Q x e h u) e.env (h.hp P) := by
  intro c e h u l Q _ hx hQ hl
  split at hx <;> cases hx
  rename_i outs ho
  exact zVr hh hrun _ _ _ _ _ ho (hQ u) fun x hxo => hl _ (List.mem_map.2 ⟨x, hxo, rfl⟩)
 induction c with
 | seq a b iha ihb =>
  intro e h u l Q hx hQ hl
  simp only [xCS] at hx
  split at hx <;> first | cases hx | skip
  rename_i outs ho
  refine iha _ _ _ _ _ ho (fun u v => hQ u v) fun x hxo => ?_
  obtain ⟨m, hm, hsub⟩ := jI hx x hxo
  obtain ⟨y, e1, h1, u1⟩ := x
  cases y with
  | normal => exact ihb _ _ _ _ _ hm hQ fun x hx => hl x (hsub x hx)
  | exit i => cases hm; exact hl _ (hsub _ (List.mem_singleton.2 rfl))
  | ret => cases hm; exact hl _ (hsub _ (List.mem_singleton.2 rfl))
  | pan v => cases hm; exact hl _ (hsub _ (List.mem_singleton.2 rfl))
 | cond c a b iha ihb =>
  intro e h u l Q hx hQ hl
  simp only [xCS] at hx
  split at hx <;> first | cases hx | skip
  ·rename_i h1; simp only [qA, h1, zHd]; exact iha _ _ _ _ _ hx hQ hl
  ·rename_i h1; simp only [qA, h1, zHd]; exact ihb _ _ _ _ _ hx hQ hl
 | recv d ms =>
  intro e h u l Q hx hQ hl
  cases u with
  | pan v =>
   cases hx
   have := hl _ (List.mem_singleton.2 rfl)
   simp only [zFp, ET.env_put] at this
   exact this
  | ret =>
   cases hx
   have := hl _ (List.mem_singleton.2 rfl)
   simp only [zFp, ET.env_put] at this
   exact this
  | rcv v =>
   cases hx
   have := hl _ (List.mem_singleton.2 rfl)
   simp only [zFp, ET.env_put] at this
   exact this
 | _ => intro e h u l Q hx hQ hl; exact plain _ e h u l Q rfl hx hQ hl
theorem zQF {codes : Tr FC} {loops : Nat} (hk : zMY P codes) (hh : zEc P hb) (hrun : RunOK P run) {f : FuncId} {args : List AV} {u : Um} {h : HT} {l : List DR} {Q : Res → Um → Hp → Prop} (hx : xDfr P hb codes loops run f args u h = some l)
  (hl : ∀ x ∈ l, Q x.r x.u (x.h.hp P)) : DefL P f args u (h.hp P) Q := by
 unfold xDfr at hx
 split at hx <;> first | cases hx | skip
 rename_i c hc
 obtain ⟨fn, msk, hf, hn, hcf⟩ := hk f c hc
 obtain ⟨full, hcf, hcut⟩ := zJY hcf
 split at hx <;> first | cases hx | skip
 rename_i hlen
 have hlen' := Nat.le_of_ble_eq_true hlen
 split at hx <;> first | cases hx | skip
 rename_i outs ho
 refine DefL.ofS (md := true) hf hcf (by rw [hn]; exact hlen') ?_
 rw [hn, ← zRE]
 refine zWk full msk ?_
 rw [← hcut]
 refine qYi hh hrun _ _ _ _ _ _ ho (fun u v e e' h _ hds _ hq => ⟨hds ▸ hq.1, hq.2⟩) fun x hxo => ?_
 obtain ⟨m, hm, hsub⟩ := jI hx x hxo
 obtain ⟨y, e', h', u'⟩ := x
 simp only at hm
 split at hm <;> first | cases hm | skip
 rename_i hds
 have fin : ∀ {m : List DR}, (match xRes e'.env (h'.hp P) c.r with
   | some l => some [(⟨.ret (oneV l), u', h'⟩ : DR)]
   | none => none) = some m → (∀ y ∈ m, y ∈ l) → e'.env.ds = [] ∧ resL e'.env (h'.hp P) c.r fun l => Q (.ret (oneV l)) u' (h'.hp P) := by
  intro m hm hsub
  split at hm <;> cases hm
  rename_i r hr
  exact ⟨hds, zQC _ hr (hl _ (hsub _ (List.mem_singleton.2 rfl)))⟩
 cases y with
 | exit i => cases hm
 | pan v => cases hm; exact ⟨hds, hl _ (hsub _ (List.mem_singleton.2 rfl))⟩
 | normal => exact fin hm hsub
 | ret => exact fin hm hsub
theorem jLN {codes : Tr FC} {loops : Nat} (hk : zMY P codes) (hh : zEc P hb) : ∀ d, RunOK P (xM P hb codes loops d) := by
 intro d
 induction d with
 | zero =>
  refine ⟨?_, ?_, ?_⟩
  ·intro f args h l Q hx; cases hx
  ·intro c e h l Q hx; cases hx
  ·intro f args u h l Q hx; cases hx
 | succ d ih => exact ⟨fun f args h l Q hx hl => zQE hk hh ih hx hl, fun c e h l Q hx hQ hl => zVr hh ih c e h l Q hx hQ hl, fun f args u h l Q hx hl => zQF hk hh ih hx hl⟩
end
end Go.L

namespace Go.L
def zA (P : Program) (f : FuncId) (c : FC) : Prop := ∃ fn m, P.funcs[f]? = some fn ∧ fn.ntmps = c.n ∧ cutF m (zS P fn) = some (c.c, c.r) ∧ (fn.name == "runtime.NumGoroutine") = false
def trOK {α : Type} (Q : Nat → α → Prop) : Tr α → (Nat → Nat) → Prop
 | .nil, _ => True
 | .node l v r, g => (match v with | none => True | some c => Q (g 0) c) ∧ trOK Q l (fun k => g (2 * k + 1)) ∧ trOK Q r (fun k => g (2 * k + 2))
theorem zJS {α : Type} {Q : Nat → α → Prop} : ∀ (t : Tr α) (g : Nat → Nat) (i : Nat) (c : α), trOK Q t g → t.get i = some c → Q (g i) c := by
 intro t
 induction t with
 | nil => intro g i c _ h; rw [Tr.get_nil] at h; cases h
 | node l v r ihl ihr =>
  intro g i c h hi
  obtain ⟨h1, h2, h3⟩ := h
  rw [Tr.get_node] at hi
  split at hi
  ·rename_i h0
   obtain rfl := Nat.eq_of_beq_eq_true h0
   subst hi; exact h1
  ·rename_i h0
   have hi0 : i ≠ 0 := fun e => by subst e; cases h0
   split at hi
   ·rename_i h4
    have h4' := Nat.eq_of_beq_eq_true h4
    have := ihl _ _ _ h2 hi
    rwa [show 2 * (i / 2) + 1 = i by omega] at this
   ·rename_i h4
    have h4' : i % 2 ≠ 1 := fun e => by rw [e] at h4; cases h4
    have := ihr _ _ _ h3 hi
    rwa [show 2 * (i / 2 - 1) + 2 = i by omega] at this
def hbOf (codes : Tr FC) (f : FuncId) : Bool := (codes.get f).isSome
theorem qYr {P : Program} {codes : Tr FC} (h : trOK (zA P) codes id) (loops d : Nat) : RunOK P (xM P (hbOf codes) codes loops d) := by
 refine jLN (fun f c hc => ?_) (fun f hf => ?_) d
 ·obtain ⟨fn, m, h1, h2, h3, _⟩ := zJS codes id f c h hc
  exact ⟨fn, m, h1, h2, h3⟩
 ·cases hc : codes.get f with
  | none => simp [hbOf, hc] at hf
  | some c =>
   obtain ⟨fn, m, h1, _, h3, h4⟩ := zJS codes id f c h hc
   refine ⟨fn, h1, ?_, h4⟩
   obtain ⟨full, h3, _⟩ := zJY h3
   unfold zS at h3
   split at h3
   ·cases h3
   ·rename_i c' hb; rw [hb]; rfl
def sc1 : AV → Bool
 | .bool _ | .int _ _ | .flt _ _ | .str _ | .nilp | .nils | .nilm | .nilf | .nili => true
 | _ => false
def scv : AV → Bool
 | .tup vs => vs.all sc1
 | v => sc1 v
theorem zQM {σ σ' : Emb} {M M' : Mem} {v : AV} {v' : Value} (h : sc1 v = true) (hv : VR σ M v v') : VR σ' M' v v' := by
 cases hv <;> first
  | (simp [sc1] at h; done)
  | exact .bool _
  | exact .int _ _
  | exact .flt _ _
  | exact .nilp
  | exact .nils
  | exact .nilm
  | exact .nilf
  | exact .nili
  | (exact .str _ _ ‹_›)
theorem qYo {σ σ' : Emb} {M M' : Mem} {v : AV} {v' : Value} (h : scv v = true) (hv : VR σ M v v') : VR σ' M' v v' := by
 have one : sc1 v = true → VR σ' M' v v' := fun h => zQM h hv
 cases v <;> first | exact one h | skip
 rename_i vs
 obtain ⟨a, rfl, ha⟩ := hv.tup_inv
 refine VR.tup' ⟨ha.1, fun j x hx => ?_⟩
 obtain ⟨y, h1, h2⟩ := ha.2 j x hx
 exact ⟨y, h1, zQM (List.all_eq_true.1 h x (List.mem_of_getElem? hx)) h2⟩
theorem CallL.closed {P : Program} {f : FuncId} {args : List AV} {h : Hp} {Q : AV → Prop} (ha : args.all sc1 = true) (k : CallL P f args Hp.nil fun r _ => ∃ v, r = .ret v ∧ scv v = true ∧ Q v) :
  CallL P f args h fun r h' => ∃ v, r = .ret v ∧ Q v ∧ h' = h := by
 constructor
 intro σ M w args' hR hA
 have hR0 : R P (fun _ => none) (fun B => (w.heap[B]?).map fun o => (o, 0)) Hp.nil w :=
  ⟨fun _ _ => rfl, (fun i b hi => by cases hi), (fun B o hB => by simp only [Option.map_eq_some_iff] at hB; obtain ⟨o', h1, rfl⟩ := hB; exact h1), (fun i b L hi => by cases hi), (fun i j bi bj Li Lj hi => by cases hi), (fun i b L hi => by cases hi), (fun i b L hi => by cases hi), hR.glb.of fun B o hB => ⟨0, by show (w.heap[B]?).map _ = _; rw [hR.mem B o hB]; rfl⟩⟩
 have hA0 : VRs (fun _ => none) (fun B => (w.heap[B]?).map fun o => (o, 0)) args args' := ⟨hA.1, fun j v hj => by
  obtain ⟨v', h1, h2⟩ := hA.2 j v hj
  exact ⟨v', h1, zQM (List.all_eq_true.1 ha v (List.mem_of_getElem? hj)) h2⟩⟩
 refine (k.run _ _ w args' hR0 hA0).mono ?_
 rintro e w' ⟨σ', M', h', hE, hR', hend⟩
 have same : ∀ B, B < w.heap.size → w'.heap[B]? = w.heap[B]? := fun B hB => by
  have h1 : w.heap[B]? = some w.heap[B] := Array.getElem?_eq_getElem hB
  rw [h1]; exact hR'.mem B (w.heap[B], 0) (hE.m B _ (by simp only [h1, Option.map_some]))
 refine ⟨σ, M, h, ⟨σ.le_refl, M.le_refl, hE.size, hE.os, hE.tape, hE.output⟩, ⟨hR.fin, hR.dom, fun B o hB => ?_, hR.sep, hR.inj, fun i b L hi hL => ?_, hR.al, hR.glb⟩, ?_⟩
 ·have := hR.mem B o hB
  rw [same B (Array.getElem?_eq_some_iff.1 this).1]; exact this
 ·exact (hR.blk i b L hi hL).mono σ.le_refl M.le_refl (same _ (hR.placed hi hL))
 ·cases e with
  | returned v' =>
   obtain ⟨v, hv, v1, e1, h1, h2⟩ := hend
   cases e1
   exact ⟨v, qYo h1 hv, v, rfl, h2, rfl⟩
  | panicked ch => obtain ⟨v, v', _, _, v1, e1, _⟩ := hend; cases e1
  | outgrown => exact hend
def qZU (v : AV) : CR → Bool
 | .ret x _ => eqA x v
 | .pan _ _ => false
theorem CallL.ofRun {P : Program} {codes : Tr FC} (hk : trOK (zA P) codes id) {loops d : Nat} {f : FuncId} {args : List AV} {v : AV} (ha : args.all sc1 = true) (hv : scv v = true)
  (hx : (match (xM P (hbOf codes) codes loops d).call f args HT.nil with | some l => l.all (qZU v) | none => false) = true) : PureL P f args v := by
 intro h
 split at hx <;> first | cases hx | skip
 rename_i l hr
 have k := (qYr hk loops d).call f args HT.nil l (fun r _ => ∃ x, r = .ret x ∧ scv x = true ∧ x = v) hr fun x hxl => by
  have h1 := List.all_eq_true.1 hx x hxl
  cases x with
  | ret x h' => have := zHY _ h1; subst this; exact ⟨_, rfl, hv, rfl⟩
  | pan x h' => cases h1
 rw [HT.hp_nil] at k
 exact (CallL.closed ha (Q := fun x => x = v) k).mono fun r h' ⟨x, h1, h2, h3⟩ => ⟨by rw [h1, h2], h3⟩
end Go.L

namespace Go.L
open Go.RowKit
def GlbW (P : Program) (w : World) : Prop := ∀ g3 g4, P.globalNamed "unicode/utf8.first" = some g3 → P.globalNamed "unicode/utf8.acceptRanges" = some g4 → qZn g3 g4 w
theorem zKO {w w' : World} {B i : Nat} {v : Value} (hB : ∀ o, w.heap[B]? = some o → w'.heap[B]? = some o) (h : w.cell? ⟨B, i, none⟩ = some v) : w'.cell? ⟨B, i, none⟩ = some v := by
 unfold World.cell? at h ⊢
 simp only at h ⊢
 cases ho : w.heap[B]? with
 | none => rw [ho] at h; cases h
 | some o => rw [hB o ho]; rw [ho] at h; exact h
theorem GlbW.glb {P : Program} {w : World} (h : GlbW P w) : Glb P (fun B => (w.heap[B]?).map fun o => (o, 0)) := fun g3 g4 h3 h4 w' hw => by
 have hb : ∀ B o, w.heap[B]? = some o → w'.heap[B]? = some o := fun B o ho => hw B (o, 0) (by simp only [ho, Option.map_some])
 obtain ⟨t1, t2⟩ := h g3 g4 h3 h4
 exact ⟨fun c hc => zKO (hb _) (t1 c hc), fun i hi => ⟨zKO (hb _) (t2 i hi).1, zKO (hb _) (t2 i hi).2⟩⟩
theorem GlbW.none {P : Program} {w : World} (h : P.globalNamed "unicode/utf8.first" = none) : GlbW P w := fun g3 g4 h3 => by rw [h] at h3; cases h3
theorem CallL.law {P : Program} {f : FuncId} {args : List AV} {args' : Array Value} {w : World} (k : CallL P f args Hp.nil fun r _ => r = .ret (.bool true))
  (hG : GlbW P w)
  (hA : VRs (fun _ => none) (fun B => (w.heap[B]?).map fun o => (o, 0)) args args') : Calls P f args' w fun e w' => e = .returned (.bool true) ∧ Below w.heap.size w w' := by
 have hR0 : R P (fun _ => none) (fun B => (w.heap[B]?).map fun o => (o, 0)) Hp.nil w :=
  ⟨fun _ _ => rfl, (fun i b hi => by cases hi), (fun B o hB => by simp only [Option.map_eq_some_iff] at hB; obtain ⟨o', h1, rfl⟩ := hB; exact h1), (fun i b L hi => by cases hi), (fun i j bi bj Li Lj hi => by cases hi), (fun i b L hi => by cases hi), (fun i b L hi => by cases hi), hG.glb⟩
 refine (callsIn_wide.1 (k.run _ _ w args' hR0 hA)).mono ?_
 rintro e w' ⟨σ', M', h', hE, hR', hend⟩
 refine ⟨?_, hE.os, hE.tape, hE.output, hE.size, fun B hB => ?_⟩
 ·cases e with
  | returned v' =>
   obtain ⟨v, hv, e1⟩ := hend
   cases e1
   cases hv; rfl
  | panicked ch => obtain ⟨v, v', _, _, e1⟩ := hend; cases e1
  | outgrown => exact hend.elim
 ·have h1 : w.heap[B]? = some w.heap[B] := Array.getElem?_eq_getElem hB
  rw [h1]; exact hR'.mem B (w.heap[B], 0) (hE.m B _ (by simp only [h1, Option.map_some]))
end Go.L

namespace Go.Proofs.YtldbbnkacahndaaGreatDoor
open Go.L
abbrev zGB : Nat := 4
def zFF : LA := [o_ 12 (.bslice 5 1 2 [.int .u8 0] [(0, 1, (.c (.int .u8 97))), (1, 1, (.c (.int .u8 98)))]), o_ 13 (.b2b (.t 12)), o_ 14 (.bslice 24 1 2 [.nils] [(0, 1, (.t 13)), (1, 1, (.c (.nils)))]), o_ 15 (.call 10 [(i_ 100), (.t 14)]), mv 11 15, Wx 16 0 11, Wx 17 1 11, Wx 18 2 11, mv 1 16, mv 2 17, mv 3 18]
def zFE : LA := [o_ 19 (.call 5 [(i_ 5)]), mv 4 19]
def zFD : LA := [mv 20 2, Wi 21 .neq 20 0, mv 22 21, Whm 23 3 22, Wh 24 (.bini .neq (.t 23) (i_ 0)) 22, Wq 25 22 24, mv 26 25, Whm 27 1 26, Wh 28 (.b2s (.t 27)) 26, Wh 29 (.bins .neq (.t 28) (.c (.str [2, 97, 98, 0]))) 26, Wq 30 26 29, mv 31 30, Whm 32 4 31, Wh 33 (.isnil .pt false (.t 32)) 31, Wq 34 31 33, mv 35 34, Whm 36 4 35, Wh 37 (.bslice 5 1 3 [.int .u8 0] [(0, 1, (.c (.int .u8 1))), (1, 1, (.c (.int .u8 7))), (2, 1, (.c (.int .u8 8)))]) 35, Wh 38 (.call 11 [(.t 36), (.t 37)]) 35, Wh 39 (.bini .neq (.t 38) (i_ 2)) 35, Wq 40 35 39, mv 41 40, Whm 42 4 41, Wh 43 (.call 12 [(.t 42)]) 41, Wh 44 (.not (.t 43)) 41, Wq 45 41 44]
def zFC : LA := [o_ 47 (.call 14 []), o_ 48 (.bslice 76 5 1 [.str [], .str [], .nils, .nils, .nils] [(0, 5, (.t 47))]), o_ 49 (.call 13 [(.t 48)]), mv 46 49, Wx 50 0 46, Wx 51 1 46, o_ 6 (.box 69 2 (.c (.agg [.int .i64 (0), .str []]))), mv 5 50, Ws 2 6 51]
def zFB : LA := [Wf 52 0 6, Wl 53 52, Wi 54 .neq 53 0]
def zFA : LA := [mv 56 5, o_ 57 (.call 16 [(.t 56)]), o_ 58 (.mkifc 81 (.t 57)), o_ 59 (.call 15 [(.t 58), (.c (.str [119, 101, 108, 108, 46, 83, 116, 114, 105, 110, 103, 86, 97, 108, 117, 101]))]), mv 55 59, Wx 60 0 55, Wx 61 1 55, mv 7 60, mv 8 61]
def zEz : LA := [mv 62 8, Wi 63 .neq 62 0, mv 64 63, Whm 65 7 64, Wh 66 (.isnil .pt false (.t 65)) 64, Wq 67 64 66, mv 68 67, Whm 69 7 68, Wh 70 (.bslice 5 1 2 [.int .u8 0] [(0, 1, (.c (.int .u8 10))), (1, 1, (.c (.int .u8 1)))]) 68, Wh 71 (.call 17 [(.t 69), (.t 70)]) 68, Wh 72 (.bini .neq (.t 71) (i_ 0)) 68, Wq 73 68 72, mv 74 73, Whm 75 7 74, Wh 76 (.bslice 5 1 1 [.int .u8 0] [(0, 1, (.c (.int .u8 65)))]) 74, Wh 77 (.call 17 [(.t 75), (.t 76)]) 74, Wh 78 (.bini .neq (.t 77) (i_ 0)) 74, Wq 79 74 78]
def zEy : LA := [mv 81 7, o_ 82 (.call 18 [(.t 81)]), mv 80 82, Wx 83 0 80, Wx 84 1 80, o_ 9 (.box 86 3 (.c (.agg [.str [], .nils, .nils]))), Ws 3 9 83, mv 10 84]
def zEx : LA := [mv 85 10, Wi 86 .eql 85 0, mv 87 86, Wgf 88 1 9 87, Wgl 89 88 87, g_ 90 (.lenl (.t 89)) 87, g_ 91 (.bini .eql (.t 90) (i_ 1)) 87, Wp 92 87 91, mv 93 92, Wgf 94 1 9 93, Wgl 95 94 93, g_ 96 (.iaddr 91 3 (.t 95) (i_ 0)) 93, Wgf 97 2 96 93, Wgl 98 97 93, g_ 99 (.lenl (.t 98)) 93, g_ 100 (.bini .eql (.t 99) (i_ 1)) 93, Wp 101 93 100, mv 102 101, Wgf 103 1 9 102, Wgl 104 103 102, g_ 105 (.iaddr 91 3 (.t 104) (i_ 0)) 102, Wgf 106 2 105 102, Wgl 107 106 102, g_ 108 (.iaddr 95 3 (.t 107) (i_ 0)) 102, Wgf 109 1 108 102, Wgl 110 109 102, g_ 111 (.bins .eql (.t 110) (.c (.str [65]))) 102, Wp 112 102 111, mv 0 112]
def zGF : ACode := (.seq (.ops [Wo 0 false]) (.seq (.ops zFF) (.seq (.ops zFE) (.seq (.seq (.ops zFD) (.cond (.t 45) .bad .skip)) (.seq (.ops zFC) (.seq (.seq (.ops zFB) (.cond (.t 54) .bad .skip)) (.seq (.ops zFA) (.seq (.seq (.ops zEz) (.cond (.t 79) .bad .skip)) (.seq (.ops zEy) (.seq (.ops zEx) .ret))))))))))
def zBA : FC := ⟨113, zGF, [.tmp 0]⟩
abbrev F_q5 : Nat := 5
def jHw : LA := [mv 3 0, o_ 4 (.call 19 [(.t 3)]), o_ 5 (.not (.t 4))]
def jHv : LA := [mv 6 0, o_ 7 (.build [.nils, .int .i64 (0), .int .i64 (0), .int .i64 (0), .int .i64 (0), .int .i64 (0), .int .i64 0] [(1, 1, (.t 6))]), o_ 8 (.box 100 7 (.t 7)), mv 2 8]
def A_q5 : ACode := (.seq (.ops [o_ 2 (.mov (.c (.nilp)))]) (.seq (.seq (.ops jHw) (.cond (.t 5) .bad .skip)) (.seq (.ops jHv) .ret)))
def T_q5 : FC := ⟨9, A_q5, [.tmp 2]⟩
abbrev jOb : Nat := 10
def qYe : LA := [Wn 4, Wm 5 0, Wm 6 0]
def qYd : LA := [mv 14 0, o_ 15 (.call 19 [(.t 14)]), o_ 16 (.not (.t 15))]
def qYc : LA := [mv 17 1, We 18 17, Wm 19 0]
def qYb : LA := [mv 21 19, Wa 22 24 1 17 19, Wl 23 22, mv 8 21, mv 9 23]
def qYa : LA := [mv 24 9, We 25 24, mv 26 0, Wb 27 .gtr 25 26]
def qYZ : LA := [o_ 30 (.call 57 [(i_ 16)]), mv 29 30, Wx 31 0 29, Wx 32 1 29, mv 10 31, mv 11 32]
def qYY : LA := [mv 33 10, mv 34 9, We 35 34, o_ 36 (.conv .u64 (.t 35)), o_ 37 (.call 58 [(.t 33), (.t 36)])]
def qYX : LA := [mv 39 10, o_ 40 (.call 59 [(.t 39)]), mv 38 40, Wx 41 0 38, Wx 42 1 38, mv 12 41, mv 13 42]
def qYW : LA := [mv 43 7, mv 44 12, o_ 45 (.app 5 1 1 (.t 43) (.t 44)), mv 46 9, o_ 47 (.app 5 1 1 (.t 45) (.t 46)), mv 7 47]
def qYV : LA := [Wi 48 .add 19 1, mv 19 48]
def qKj : ACode := (.seq (.ops [Wb 20 .lss 19 18]) (.seq (.cond (.t 20) .skip (.exit 0)) (.seq (.block 1 (.seq (.ops qYb) (.seq (.seq (.ops qYa) (.cond (.t 27) .bad .skip)) (.seq (.ops qYZ) (.seq (.ops qYY) (.seq (.ops qYX) (.ops qYW))))))) (.ops qYV))))
def qKi : LA := [mv 49 7, mv 4 49, Wm 5 0, Wm 6 0]
def jPv : ACode := (.seq (.ops qYe) (.seq (.seq (.ops qYd) (.cond (.t 16) .bad .skip)) (.seq (.ops [Wn 7]) (.seq (.seq (.ops qYc) (.block 0 (.loop qKj))) (.seq (.ops qKi) .ret)))))
def jBF : FC := ⟨50, jPv, [.tmp 4, .tmp 5, .tmp 6]⟩
abbrev jOa : Nat := 11
def qYU : LA := [mv 7 5, mv 8 1, We 9 8, Wb 10 .lss 7 9, mv 11 10, Wgm 12 0 11, g_ 13 (.call 60 [(.t 12)]) 11, g_ 14 (.not (.t 13)) 11, Wp 15 11 14, mv 16 15, Wgm 17 0 16, g_ 18 (.nilc (.t 17)) 16, Wgf 19 5 18 16, Wgl 20 19 16, g_ 21 (.bini .eql (.t 20) (i_ 0)) 16, Wp 22 16 21]
def qYT : LA := [mv 23 0, Wc 24 23, Wf 25 3 24, Wl 26 25, Wi 27 .gtr 26 0]
def qYS : LA := [mv 28 0, Wc 29 28, Wf 30 4 29, Wl 31 30, mv 32 0, Wc 33 32, Wf 34 0 33, Wf 35 0 34, Wl 36 35, We 37 36, Wb 38 .sub 31 37, mv 39 1, We 40 39, mv 41 5, Wb 42 .sub 40 41, o_ 43 (.mn (.t 38) (.t 42)), mv 6 43]
def qYR : LA := [mv 44 0, Wc 45 44, Wf 46 0 45, mv 47 1, mv 48 5, mv 49 5, mv 50 6, Wb 51 .add 49 50, o_ 52 (.slcl 5 1 (.t 47) (some (.t 48)) (some (.t 51)) none), o_ 53 (.call 61 [(.t 46), (.t 52)])]
def qYQ : LA := [mv 54 0, mv 55 5, mv 56 6, Wb 57 .add 55 56, mv 58 0, Wc 59 58, Wf 60 2 59, Wl 61 60, mv 62 6, Wb 63 .add 61 62, mv 5 57, Wc 64 54, Wf 65 2 64, Ws 1 65 63]
def qYP : LA := [mv 66 0, Wc 67 66, Wf 68 0 67, mv 69 1, mv 70 5, Wa 71 5 1 69 70, Wl 72 71, o_ 73 (.bslice 5 1 1 [.int .u8 0] [(0, 1, (.t 72))]), o_ 74 (.call 61 [(.t 68), (.t 73)])]
def qYO : LA := [mv 75 5, Wi 76 .add 75 1, mv 5 76]
def qYN : LA := [mv 77 0, Wc 78 77, Wf 79 2 78, Wl 80 79, Wi 81 .add 80 1, Wc 82 77, Wf 83 2 82, Ws 1 83 81]
def qYM : LA := [mv 84 0, o_ 85 (.call 62 [(.t 84)])]
def qYL : ACode := (.seq (.seq (.ops qYU) (.cond (.t 22) .skip (.exit 0))) (.block 1 (.seq (.seq (.ops qYT) (.cond (.t 27) (.seq (.alts [28, 29, 30, 31, 32, 33, 34, 35, 36, 37, 38, 39, 40, 41, 42, 43, 6] [qYS]) (.seq (.alts [44, 45, 46, 47, 48, 49, 50, 51, 52, 53] [qYR]) (.seq (.alts [54, 55, 56, 57, 58, 59, 60, 61, 62, 63, 5, 64, 65] [qYQ]) (.exit 1)))) .skip)) (.seq (.alts [66, 67, 68, 69, 70, 71, 72, 73, 74] [qYP]) (.seq (.ops qYO) (.seq (.ops qYN) (.ops qYM)))))))
def qJr : LA := [mv 86 5, mv 4 86]
def jPu : ACode := (.seq (.ops [Wm 4 0]) (.seq (.ops [Wm 5 0]) (.seq (.block 0 (.loop qYL)) (.seq (.ops qJr) .ret))))
def jBE : FC := ⟨87, jPu, [.tmp 4]⟩
abbrev jOZ : Nat := 12
def qYK : LA := [mv 3 0, o_ 4 (.call 60 [(.t 3)]), mv 2 4]
def jPt : ACode := (.seq (.ops [Wo 2 false]) (.seq (.ops qYK) .ret))
def jBD : FC := ⟨5, jPt, [.tmp 2]⟩
abbrev jOY : Nat := 13
def qYJ : LA := [o_ 2 (.box 67 1 (.c (.nilp))), o_ 3 (.box 69 2 (.c (.agg [.int .i64 (0), .str []])))]
def qYI : LA := [mv 5 0, We 6 5, Wi 7 .gtr 6 256]
def qYH : LA := [o_ 9 (.mkmap), o_ 10 (.mkmap), o_ 11 (.mkmap), o_ 12 (.mkmap), o_ 13 (.mkmap), o_ 14 (.build [.nilm, .nils, .nilm, .nilm, .nilm, .nilm] [(0, 1, (.t 9)), (2, 1, (.t 10)), (3, 1, (.t 11)), (4, 1, (.t 12)), (5, 1, (.t 13))]), o_ 15 (.box 153 6 (.t 14)), Ws 1 2 15]
def qYG : LA := [Wl 16 2, mv 17 0, o_ 18 (.call 65 [(.t 16), (.t 17)])]
def qYF : LA := [Wl 19 2, o_ 20 (.call 66 [(.t 19)])]
def qYE : LA := [Wl 21 2, o_ 22 (.call 67 [(.t 21)])]
def qYD : LA := [Wl 23 2, o_ 24 (.call 68 [(.t 23)])]
def qYC : LA := [Wl 25 2, o_ 26 (.call 69 [(.t 25)])]
def qYB : LA := [Wl 27 2, o_ 28 (.call 70 [(.t 27)])]
def qYA : LA := [Wl 29 2, o_ 30 (.build [.int .i64 (0), .str []] []), Ws 1 2 29, Ws 2 3 30]
def jPs : ACode := (.seq (.ops qYJ) (.seq (.seq (.ops [o_ 4 (.mkfn 63 [] [(.t 2), (.t 3)])]) (.dfr (.t 4) [])) (.seq (.seq (.ops qYI) (.cond (.t 7) .bad .skip)) (.seq (.ops qYH) (.seq (.ops qYG) (.seq (.ops qYF) (.seq (.ops qYE) (.seq (.ops qYD) (.seq (.ops qYC) (.seq (.ops qYB) (.seq (.ops qYA) .ret)))))))))))
def jBC : FC := ⟨31, jPs, [.cell1 2, .cella 3 2]⟩
abbrev jOX : Nat := 14
def qXz : LA := [o_ 4 (.bslice 9 1 1 [.str []] [(0, 1, (.c (.str [107, 105, 110, 100])))]), o_ 5 (.build [.str [], .int .i32 (0), .int .u8 (0), .int .u8 (0), .str [], .int .u8 (0), .int .i64 (0), .int .u8 (0), .str []] [(0, 1, (.c (.str [110, 117, 108, 108, 95, 118, 97, 108, 117, 101]))), (1, 1, (.c (.int .i32 1))), (2, 1, (.c (.int .u8 1))), (3, 1, (.c (.int .u8 14))), (4, 1, (.c (.str [78, 117, 108, 108, 86, 97, 108, 117, 101]))), (6, 1, (i_ 1))]), o_ 6 (.build [.str [], .int .i32 (0), .int .u8 (0), .int .u8 (0), .str [], .int .u8 (0), .int .i64 (0), .int .u8 (0), .str []] [(0, 1, (.c (.str [110, 117, 109, 98, 101, 114, 95, 118, 97, 108, 117, 101]))), (1, 1, (.c (.int .i32 2))), (2, 1, (.c (.int .u8 1))), (3, 1, (.c (.int .u8 1))), (6, 1, (i_ 1))]), o_ 7 (.build [.str [], .int .i32 (0), .int .u8 (0), .int .u8 (0), .str [], .int .u8 (0), .int .i64 (0), .int .u8 (0), .str []] [(0, 1, (.c (.str [115, 116, 114, 105, 110, 103, 95, 118, 97, 108, 117, 101]))), (1, 1, (.c (.int .i32 3))), (2, 1, (.c (.int .u8 1))), (3, 1, (.c (.int .u8 9))), (6, 1, (i_ 1))]), o_ 8 (.build [.str [], .int .i32 (0), .int .u8 (0), .int .u8 (0), .str [], .int .u8 (0), .int .i64 (0), .int .u8 (0), .str []] [(0, 1, (.c (.str [98, 111, 111, 108, 95, 118, 97, 108, 117, 101]))), (1, 1, (.c (.int .i32 4))), (2, 1, (.c (.int .u8 1))), (3, 1, (.c (.int .u8 8))), (6, 1, (i_ 1))]), o_ 9 (.build [.str [], .int .i32 (0), .int .u8 (0), .int .u8 (0), .str [], .int .u8 (0), .int .i64 (0), .int .u8 (0), .str []] [(0, 1, (.c (.str [115, 116, 114, 117, 99, 116, 95, 118, 97, 108, 117, 101]))), (1, 1, (.c (.int .i32 5))), (2, 1, (.c (.int .u8 1))), (3, 1, (.c (.int .u8 11))), (4, 1, (.c (.str [83, 116, 114, 117, 99, 116]))), (6, 1, (i_ 1))]), o_ 10 (.build [.str [], .int .i32 (0), .int .u8 (0), .int .u8 (0), .str [], .int .u8 (0), .int .i64 (0), .int .u8 (0), .str []] [(0, 1, (.c (.str [108, 105, 115, 116, 95, 118, 97, 108, 117, 101]))), (1, 1, (.c (.int .i32 6))), (2, 1, (.c (.int .u8 1))), (3, 1, (.c (.int .u8 11))), (4, 1, (.c (.str [76, 105, 115, 116, 86, 97, 108, 117, 101]))), (6, 1, (i_ 1))]), o_ 11 (.bslice 163 9 6 [.str [], .int .i32 (0), .int .u8 (0), .int .u8 (0), .str [], .int .u8 (0), .int .i64 (0), .int .u8 (0), .str []] [(0, 9, (.t 5)), (9, 9, (.t 6)), (18, 9, (.t 7)), (27, 9, (.t 8)), (36, 9, (.t 9)), (45, 9, (.t 10))]), o_ 12 (.build [.str [], .nils, .nils, .nils, .nils, .nils, .nils] [(0, 1, (.c (.str [86, 97, 108, 117, 101]))), (2, 1, (.t 4)), (1, 1, (.t 11))]), o_ 3 (.box 159 7 (.c (.agg [.str [], .nils, .nils, .nils, .nils, .nils, .nils]))), Ws 7 3 12]
def qXy : LA := [o_ 13 (.build [.str [], .int .i32 (0), .int .u8 (0), .int .u8 (0), .str [], .int .u8 (0), .int .i64 (0), .int .u8 (0), .str []] [(0, 1, (.c (.str [116, 121, 112, 101, 95, 117, 114, 108]))), (1, 1, (.c (.int .i32 1))), (2, 1, (.c (.int .u8 1))), (3, 1, (.c (.int .u8 9)))]), o_ 14 (.build [.str [], .int .i32 (0), .int .u8 (0), .int .u8 (0), .str [], .int .u8 (0), .int .i64 (0), .int .u8 (0), .str []] [(0, 1, (.c (.str [118, 97, 108, 117, 101]))), (1, 1, (.c (.int .i32 2))), (2, 1, (.c (.int .u8 1))), (3, 1, (.c (.int .u8 12)))]), o_ 15 (.fslice 163 9 2 [.str [], .int .i32 (0), .int .u8 (0), .int .u8 (0), .str [], .int .u8 (0), .int .i64 (0), .int .u8 (0), .str []] [(0, 9, (.t 13)), (9, 9, (.t 14))]), o_ 16 (.build [.str [], .nils, .nils, .nils, .nils, .nils, .nils] [(0, 1, (.c (.str [65, 110, 121]))), (1, 1, (.t 15))]), o_ 17 (.build [.str [], .nils, .nils, .nils, .nils, .nils, .nils] [(0, 1, (.c (.str [69, 109, 112, 116, 121])))]), mv 18 2, o_ 19 (.pcallv (.t 18) [(.c (.str [84, 105, 109, 101, 115, 116, 97, 109, 112]))]), mv 20 2, o_ 21 (.pcallv (.t 20) [(.c (.str [68, 117, 114, 97, 116, 105, 111, 110]))]), o_ 22 (.build [.str [], .int .i32 (0), .int .u8 (0), .int .u8 (0), .str [], .int .u8 (0), .int .i64 (0), .int .u8 (0), .str []] [(0, 1, (.c (.str [112, 97, 116, 104, 115]))), (1, 1, (.c (.int .i32 1))), (2, 1, (.c (.int .u8 3))), (3, 1, (.c (.int .u8 9)))]), o_ 23 (.fslice 163 9 1 [.str [], .int .i32 (0), .int .u8 (0), .int .u8 (0), .str [], .int .u8 (0), .int .i64 (0), .int .u8 (0), .str []] [(0, 9, (.t 22))]), o_ 24 (.build [.str [], .nils, .nils, .nils, .nils, .nils, .nils] [(0, 1, (.c (.str [70, 105, 101, 108, 100, 77, 97, 115, 107]))), (1, 1, (.t 23))]), o_ 25 (.build [.str [], .int .i32 (0), .int .u8 (0), .int .u8 (0), .str [], .int .u8 (0), .int .i64 (0), .int .u8 (0), .str []] [(0, 1, (.c (.str [102, 105, 101, 108, 100, 115]))), (1, 1, (.c (.int .i32 1))), (2, 1, (.c (.int .u8 4))), (5, 1, (.c (.int .u8 9))), (3, 1, (.c (.int .u8 11))), (4, 1, (.c (.str [86, 97, 108, 117, 101])))]), o_ 26 (.fslice 163 9 1 [.str [], .int .i32 (0), .int .u8 (0), .int .u8 (0), .str [], .int .u8 (0), .int .i64 (0), .int .u8 (0), .str []] [(0, 9, (.t 25))]), o_ 27 (.build [.str [], .nils, .nils, .nils, .nils, .nils, .nils] [(0, 1, (.c (.str [83, 116, 114, 117, 99, 116]))), (1, 1, (.t 26))]), Wd 28 7 3, o_ 29 (.build [.str [], .int .i32 (0), .int .u8 (0), .int .u8 (0), .str [], .int .u8 (0), .int .i64 (0), .int .u8 (0), .str []] [(0, 1, (.c (.str [118, 97, 108, 117, 101, 115]))), (1, 1, (.c (.int .i32 1))), (2, 1, (.c (.int .u8 3))), (3, 1, (.c (.int .u8 11))), (4, 1, (.c (.str [86, 97, 108, 117, 101])))]), o_ 30 (.fslice 163 9 1 [.str [], .int .i32 (0), .int .u8 (0), .int .u8 (0), .str [], .int .u8 (0), .int .i64 (0), .int .u8 (0), .str []] [(0, 9, (.t 29))]), o_ 31 (.build [.str [], .nils, .nils, .nils, .nils, .nils, .nils] [(0, 1, (.c (.str [76, 105, 115, 116, 86, 97, 108, 117, 101]))), (1, 1, (.t 30))]), mv 32 1, o_ 33 (.pcallv (.t 32) [(.c (.str [68, 111, 117, 98, 108, 101, 86, 97, 108, 117, 101])), (.c (.int .u8 1))]), mv 34 1, o_ 35 (.pcallv (.t 34) [(.c (.str [70, 108, 111, 97, 116, 86, 97, 108, 117, 101])), (.c (.int .u8 2))]), mv 36 1, o_ 37 (.pcallv (.t 36) [(.c (.str [73, 110, 116, 54, 52, 86, 97, 108, 117, 101])), (.c (.int .u8 3))]), mv 38 1, o_ 39 (.pcallv (.t 38) [(.c (.str [85, 73, 110, 116, 54, 52, 86, 97, 108, 117, 101])), (.c (.int .u8 4))]), mv 40 1, o_ 41 (.pcallv (.t 40) [(.c (.str [73, 110, 116, 51, 50, 86, 97, 108, 117, 101])), (.c (.int .u8 5))]), mv 42 1, o_ 43 (.pcallv (.t 42) [(.c (.str [85, 73, 110, 116, 51, 50, 86, 97, 108, 117, 101])), (.c (.int .u8 13))]), mv 44 1, o_ 45 (.pcallv (.t 44) [(.c (.str [66, 111, 111, 108, 86, 97, 108, 117, 101])), (.c (.int .u8 8))]), mv 46 1, o_ 47 (.pcallv (.t 46) [(.c (.str [83, 116, 114, 105, 110, 103, 86, 97, 108, 117, 101])), (.c (.int .u8 9))]), mv 48 1, o_ 49 (.pcallv (.t 48) [(.c (.str [66, 121, 116, 101, 115, 86, 97, 108, 117, 101])), (.c (.int .u8 12))]), o_ 50 (.fslice 159 7 17 [.str [], .nils, .nils, .nils, .nils, .nils, .nils] [(0, 7, (.t 16)), (7, 7, (.t 17)), (14, 7, (.t 19)), (21, 7, (.t 21)), (28, 7, (.t 24)), (35, 7, (.t 27)), (42, 7, (.t 28)), (49, 7, (.t 31)), (56, 7, (.t 33)), (63, 7, (.t 35)), (70, 7, (.t 37)), (77, 7, (.t 39)), (84, 7, (.t 41)), (91, 7, (.t 43)), (98, 7, (.t 45)), (105, 7, (.t 47)), (112, 7, (.t 49))]), o_ 51 (.build [.str [], .int .i32 0] [(0, 1, (.c (.str [78, 85, 76, 76, 95, 86, 65, 76, 85, 69])))]), o_ 52 (.fslice 167 2 1 [.str [], .int .i32 0] [(0, 2, (.t 51))]), o_ 53 (.build [.str [], .nils, .bool false, .nils, .nils] [(0, 1, (.c (.str [78, 117, 108, 108, 86, 97, 108, 117, 101]))), (1, 1, (.t 52))]), o_ 54 (.fslice 170 5 1 [.str [], .nils, .bool false, .nils, .nils] [(0, 5, (.t 53))]), o_ 55 (.build [.str [], .str [], .nils, .nils, .nils] [(0, 1, (.c (.str [119, 101, 108, 108, 47, 107, 110, 111, 119, 110]))), (1, 1, (.c (.str [119, 101, 108, 108]))), (3, 1, (.t 50)), (4, 1, (.t 54))]), Ws 5 0 55]
def jPr : ACode := (.seq (.ops [o_ 0 (.box 76 5 (.c (.agg [.str [], .str [], .nils, .nils, .nils])))]) (.seq (.ops [o_ 1 (.mov (.f 71))]) (.seq (.ops [o_ 2 (.mov (.f 72))]) (.seq (.ops qXz) (.seq (.alts [13, 14, 15, 16, 17, 18, 19, 20, 21, 22, 23, 24, 25, 26, 27, 28, 29, 30, 31, 32, 33, 34, 35, 36, 37, 38, 39, 40, 41, 42, 43, 44, 45, 46, 47, 48, 49, 50, 51, 52, 53, 54, 55] [qXy]) .ret)))))
def jBB : FC := ⟨56, jPr, [.cella 0 5]⟩
abbrev jOW : Nat := 15
def qXx : LA := [o_ 4 (.mov (.c (.nilp))), Wm 5 0]
def qXw : LA := [mv 10 0, mv 11 1, o_ 12 (.call 73 [(.t 10), (.t 11), (.c (.nils))]), mv 9 12, Wx 13 0 9, Wx 14 1 9, Wx 15 2 9, o_ 6 (.box 86 3 (.c (.agg [.str [], .nils, .nils]))), Ws 3 6 13, mv 7 14, mv 8 15]
def qXv : LA := [mv 16 7, Wi 17 .neq 16 0]
def qXu : LA := [mv 19 0, Wd 20 3 6, o_ 21 (.build [.nils, .nili, .str [], .nils, .nils, .int .i64 0] [(1, 1, (.t 19)), (2, 3, (.t 20))]), o_ 22 (.box 176 6 (.t 21)), mv 4 22, Wm 5 0]
def jPq : ACode := (.seq (.ops qXx) (.seq (.ops qXw) (.seq (.seq (.ops qXv) (.cond (.t 17) .bad .skip)) (.seq (.ops qXu) .ret))))
def jBA : FC := ⟨23, jPq, [.tmp 4, .tmp 5]⟩
abbrev jOV : Nat := 16
def qXt : LA := [mv 3 0, o_ 4 (.mkmap), o_ 5 (.build [.int .i32 (0), .int .u32 (0), .nilp, .nilm] [(2, 1, (.t 3)), (3, 1, (.t 4))]), o_ 6 (.box 186 4 (.t 5)), mv 2 6]
def jPp : ACode := (.seq (.ops [o_ 2 (.mov (.c (.nilp)))]) (.seq (.ops qXt) .ret))
def jAz : FC := ⟨7, jPp, [.tmp 2]⟩
abbrev jOU : Nat := 17
def qXs : LA := [mv 9 0, Wc 10 9, Wf 11 5 10, Wl 12 11, Wi 13 .neq 12 0]
def qXr : LA := [mv 18 0, Wc 19 18, Wf 20 0 19, mv 21 1, o_ 22 (.call 61 [(.t 20), (.t 21)])]
def qXq : LA := [mv 23 5, mv 24 0, Wc 25 24, Wf 26 0 25, Wf 27 0 26, Wl 28 27, We 29 28, Wb 30 .lss 23 29, mv 31 30, Wgm 32 0 31, g_ 33 (.nilc (.t 32)) 31, Wgf 34 5 33 31, Wgl 35 34 31, g_ 36 (.bini .eql (.t 35) (i_ 0)) 31, Wp 37 31 36]
def qXp : LA := [mv 39 0, Wc 40 39, Wf 41 0 40, Wf 42 0 41, Wl 43 42, mv 44 5, o_ 45 (.slcl 5 1 (.t 43) (some (.t 44)) none none), o_ 46 (.call 74 [(.t 45)]), mv 38 46, Wx 47 0 38, Wx 48 1 38, mv 6 47, mv 7 48]
def qXo : LA := [mv 49 7, Wi 50 .eql 49 10]
def qXn : LA := [mv 51 7, Wi 52 .eql 51 0]
def qXm : LA := [mv 54 0, Wc 55 54, Wf 56 1 55, Wl 57 56, mv 58 0, Wc 59 58, Wf 60 2 59, Wd 61 3 60, mv 62 0, Wc 63 62, Wf 64 0 63, Wf 65 0 64, Wl 66 65, mv 67 5, mv 68 5, mv 69 6, Wb 70 .add 68 69, o_ 71 (.slcl 5 1 (.t 66) (some (.t 67)) (some (.t 70)) none), o_ 72 (.call 75 [(.t 57), (.t 61), (.t 71)]), mv 53 72, Wx 73 0 53, Wx 74 1 53, Wx 75 2 53, Ws 3 8 73, mv 7 74]
def qXl : LA := [mv 76 7, Wi 77 .eql 76 0]
def qXk : LA := [mv 78 0, Wd 79 3 8, Wc 80 78, Wf 81 2 80, Ws 3 81 79]
def qXj : LA := [mv 82 0, mv 83 7, Wc 84 82, Wf 85 5 84, Ws 1 85 83]
def qFT : LA := [mv 86 5, mv 87 6, Wb 88 .add 86 87, mv 5 88]
def qFS : ACode := (.seq (.seq (.ops qXq) (.cond (.t 37) .skip (.exit 0))) (.block 1 (.seq (.ops qXp) (.seq (.seq (.ops qXo) (.cond (.t 50) (.exit 0) .skip)) (.seq (.seq (.ops qXn) (.cond (.t 52) (.seq (.ops [o_ 8 (.box 86 3 (.c (.agg [.str [], .nils, .nils])))]) (.seq (.alts [54, 55, 56, 57, 58, 59, 60, 61, 62, 63, 64, 65, 66, 67, 68, 69, 70, 71, 72, 53, 73, 74, 75, 7] [qXm]) (.seq (.ops qXl) (.cond (.t 77) (.ops qXk) .bad)))) .bad)) (.seq (.ops qXj) (.ops qFT)))))))
def qFR : LA := [mv 89 0, Wc 90 89, Wf 91 0 90, mv 92 5, o_ 93 (.call 76 [(.t 91), (.t 92)])]
def qFQ : LA := [mv 94 0, Wc 95 94, Wf 96 5 95, Wl 97 96, mv 4 97]
def jPo : ACode := (.seq (.ops [Wm 4 0]) (.seq (.seq (.ops qXs) (.cond (.t 13) .bad .skip)) (.seq (.ops qXr) (.seq (.ops [Wm 5 0]) (.seq (.block 0 (.loop qFS)) (.seq (.ops qFR) (.seq (.ops qFQ) .ret)))))))
def jAy : FC := ⟨98, jPo, [.tmp 4]⟩
abbrev jOT : Nat := 18
def qXi : LA := [o_ 2 (.box 86 3 (.c (.agg [.str [], .nils, .nils]))), Wm 3 0]
def qXh : LA := [mv 4 0, Wc 5 4, Wf 6 5 5, Wl 7 6, Wi 8 .eql 7 0, mv 9 8, Wgm 10 0 9, g_ 11 (.nilc (.t 10)) 9, Wgf 12 0 11 9, g_ 13 (.call 77 [(.t 12)]) 9, Wp 14 9 13]
def qXg : LA := [mv 16 0, o_ 17 (.call 78 [(.t 16)]), Wx 18 0 17, Wx 19 1 17, Ws 3 2 18, mv 3 19]
def jPn : ACode := (.seq (.ops qXi) (.seq (.seq (.ops qXh) (.cond (.t 14) .bad .skip)) (.seq (.ops qXg) .ret)))
def jAx : FC := ⟨20, jPn, [.cella 2 3, .tmp 3]⟩
abbrev jOS : Nat := 19
def qXf : LA := [mv 3 0, Wi 4 .geq 3 0, mv 5 4, Wgm 6 0 5, g_ 7 (.bini .leq (.t 6) (i_ 16777216)) 5, Wp 8 5 7, mv 2 8]
def jPm : ACode := (.seq (.ops [Wo 2 false]) (.seq (.ops qXf) .ret))
def jAw : FC := ⟨9, jPm, [.tmp 2]⟩
abbrev jOR : Nat := 34
def qXe : LA := [mv 13 3, mv 14 0, We 15 14, Wb 16 .lss 13 15]
def qXd : ACode := (.seq (.seq (.ops qXe) (.cond (.t 16) .bad (.exit 0))) .bad)
def qXc : LA := [mv 40 6, mv 41 0, We 42 41, Wb 43 .lss 40 42]
def qXb : ACode := (.seq (.seq (.ops qXc) (.cond (.t 43) .bad (.exit 4))) .bad)
def qXa : LA := [mv 68 9, mv 69 0, We 70 69, Wb 71 .lss 68 70]
def qXZ : ACode := (.seq (.seq (.ops qXa) (.cond (.t 71) .bad (.exit 8))) .bad)
def jPl : ACode := (.seq (.ops [Wo 2 false]) (.seq (.seq (.ops [Wm 3 0]) (.block 0 (.loop qXd))) (.seq (.ops [Wn 5]) (.seq (.seq (.ops [Wm 6 0]) (.block 4 (.loop qXb))) (.seq (.seq (.ops [Wm 9 0]) (.block 8 (.loop qXZ))) (.seq (.ops [Wo 2 true]) .ret))))))
def jAv : FC := ⟨135, jPl, [.tmp 2]⟩
abbrev jOQ : Nat := 35
def qXY : LA := [mv 13 3, mv 14 0, We 15 14, Wb 16 .lss 13 15]
def qXX : ACode := (.seq (.seq (.ops qXY) (.cond (.t 16) .bad (.exit 0))) .bad)
def qXW : LA := [mv 37 6, mv 38 0, We 39 38, Wb 40 .lss 37 39]
def qXV : ACode := (.seq (.seq (.ops qXW) (.cond (.t 40) .bad (.exit 4))) .bad)
def qXU : LA := [mv 62 9, mv 63 0, We 64 63, Wb 65 .lss 62 64]
def qXT : ACode := (.seq (.seq (.ops qXU) (.cond (.t 65) .bad (.exit 8))) .bad)
def jPk : ACode := (.seq (.ops [Wo 2 false]) (.seq (.seq (.ops [Wm 3 0]) (.block 0 (.loop qXX))) (.seq (.ops [Wn 5]) (.seq (.seq (.ops [Wm 6 0]) (.block 4 (.loop qXV))) (.seq (.seq (.ops [Wm 9 0]) (.block 8 (.loop qXT))) (.seq (.ops [Wo 2 true]) .ret))))))
def jAu : FC := ⟨120, jPk, [.tmp 2]⟩
abbrev jOP : Nat := 36
def qXS : LA := [mv 13 3, mv 14 0, We 15 14, Wb 16 .lss 13 15]
def qXR : ACode := (.seq (.seq (.ops qXS) (.cond (.t 16) .bad (.exit 0))) .bad)
def qXQ : LA := [mv 38 6, mv 39 0, We 40 39, Wb 41 .lss 38 40]
def qXP : ACode := (.seq (.seq (.ops qXQ) (.cond (.t 41) .bad (.exit 4))) .bad)
def qXO : LA := [mv 64 9, mv 65 0, We 66 65, Wb 67 .lss 64 66]
def qXN : ACode := (.seq (.seq (.ops qXO) (.cond (.t 67) .bad (.exit 8))) .bad)
def jPj : ACode := (.seq (.ops [Wo 2 false]) (.seq (.seq (.ops [Wm 3 0]) (.block 0 (.loop qXR))) (.seq (.ops [Wn 5]) (.seq (.seq (.ops [Wm 6 0]) (.block 4 (.loop qXP))) (.seq (.seq (.ops [Wm 9 0]) (.block 8 (.loop qXN))) (.seq (.ops [Wo 2 true]) .ret))))))
def jAt : FC := ⟨125, jPj, [.tmp 2]⟩
abbrev jOO : Nat := 37
def qXM : LA := [mv 13 3, mv 14 0, We 15 14, Wb 16 .lss 13 15]
def qXL : ACode := (.seq (.seq (.ops qXM) (.cond (.t 16) .bad (.exit 0))) .bad)
def qXK : LA := [mv 39 6, mv 40 0, We 41 40, Wb 42 .lss 39 41]
def qXJ : ACode := (.seq (.seq (.ops qXK) (.cond (.t 42) .bad (.exit 4))) .bad)
def qXI : LA := [mv 66 9, mv 67 0, We 68 67, Wb 69 .lss 66 68]
def qXH : ACode := (.seq (.seq (.ops qXI) (.cond (.t 69) .bad (.exit 8))) .bad)
def jPi : ACode := (.seq (.ops [Wo 2 false]) (.seq (.seq (.ops [Wm 3 0]) (.block 0 (.loop qXL))) (.seq (.ops [Wn 5]) (.seq (.seq (.ops [Wm 6 0]) (.block 4 (.loop qXJ))) (.seq (.seq (.ops [Wm 9 0]) (.block 8 (.loop qXH))) (.seq (.ops [Wo 2 true]) .ret))))))
def jAs : FC := ⟨130, jPi, [.tmp 2]⟩
abbrev jON : Nat := 38
def qXG : LA := [mv 13 3, mv 14 0, We 15 14, Wb 16 .lss 13 15]
def qXF : ACode := (.seq (.seq (.ops qXG) (.cond (.t 16) .bad (.exit 0))) .bad)
def qXE : LA := [mv 38 6, mv 39 0, We 40 39, Wb 41 .lss 38 40]
def qXD : ACode := (.seq (.seq (.ops qXE) (.cond (.t 41) .bad (.exit 4))) .bad)
def qXC : LA := [mv 64 9, mv 65 0, We 66 65, Wb 67 .lss 64 66]
def qXB : ACode := (.seq (.seq (.ops qXC) (.cond (.t 67) .bad (.exit 8))) .bad)
def jPh : ACode := (.seq (.ops [Wo 2 false]) (.seq (.seq (.ops [Wm 3 0]) (.block 0 (.loop qXF))) (.seq (.ops [Wn 5]) (.seq (.seq (.ops [Wm 6 0]) (.block 4 (.loop qXD))) (.seq (.seq (.ops [Wm 9 0]) (.block 8 (.loop qXB))) (.seq (.ops [Wo 2 true]) .ret))))))
def jAr : FC := ⟨125, jPh, [.tmp 2]⟩
abbrev jOM : Nat := 39
def qXA : LA := [mv 13 3, mv 14 0, We 15 14, Wb 16 .lss 13 15]
def qWz : ACode := (.seq (.seq (.ops qXA) (.cond (.t 16) .bad (.exit 0))) .bad)
def qWy : LA := [mv 38 6, mv 39 0, We 40 39, Wb 41 .lss 38 40]
def qWx : ACode := (.seq (.seq (.ops qWy) (.cond (.t 41) .bad (.exit 4))) .bad)
def qWw : LA := [mv 64 9, mv 65 0, We 66 65, Wb 67 .lss 64 66]
def qWv : ACode := (.seq (.seq (.ops qWw) (.cond (.t 67) .bad (.exit 8))) .bad)
def jPg : ACode := (.seq (.ops [Wo 2 false]) (.seq (.seq (.ops [Wm 3 0]) (.block 0 (.loop qWz))) (.seq (.ops [Wn 5]) (.seq (.seq (.ops [Wm 6 0]) (.block 4 (.loop qWx))) (.seq (.seq (.ops [Wm 9 0]) (.block 8 (.loop qWv))) (.seq (.ops [Wo 2 true]) .ret))))))
def jAq : FC := ⟨125, jPg, [.tmp 2]⟩
abbrev jOL : Nat := 40
def qWu : LA := [mv 13 3, mv 14 0, We 15 14, Wb 16 .lss 13 15]
def qWt : ACode := (.seq (.seq (.ops qWu) (.cond (.t 16) .bad (.exit 0))) .bad)
def qWs : LA := [mv 38 6, mv 39 0, We 40 39, Wb 41 .lss 38 40]
def qWr : ACode := (.seq (.seq (.ops qWs) (.cond (.t 41) .bad (.exit 4))) .bad)
def qWq : LA := [mv 64 9, mv 65 0, We 66 65, Wb 67 .lss 64 66]
def qWp : ACode := (.seq (.seq (.ops qWq) (.cond (.t 67) .bad (.exit 8))) .bad)
def jPf : ACode := (.seq (.ops [Wo 2 false]) (.seq (.seq (.ops [Wm 3 0]) (.block 0 (.loop qWt))) (.seq (.ops [Wn 5]) (.seq (.seq (.ops [Wm 6 0]) (.block 4 (.loop qWr))) (.seq (.seq (.ops [Wm 9 0]) (.block 8 (.loop qWp))) (.seq (.ops [Wo 2 true]) .ret))))))
def jAp : FC := ⟨125, jPf, [.tmp 2]⟩
abbrev jOK : Nat := 41
def qWo : LA := [mv 13 3, mv 14 0, We 15 14, Wb 16 .lss 13 15]
def qWn : ACode := (.seq (.seq (.ops qWo) (.cond (.t 16) .bad (.exit 0))) .bad)
def qWm : LA := [mv 38 6, mv 39 0, We 40 39, Wb 41 .lss 38 40]
def qWl : ACode := (.seq (.seq (.ops qWm) (.cond (.t 41) .bad (.exit 4))) .bad)
def qWk : LA := [mv 64 9, mv 65 0, We 66 65, Wb 67 .lss 64 66]
def qWj : ACode := (.seq (.seq (.ops qWk) (.cond (.t 67) .bad (.exit 8))) .bad)
def jPe : ACode := (.seq (.ops [Wo 2 false]) (.seq (.seq (.ops [Wm 3 0]) (.block 0 (.loop qWn))) (.seq (.ops [Wn 5]) (.seq (.seq (.ops [Wm 6 0]) (.block 4 (.loop qWl))) (.seq (.seq (.ops [Wm 9 0]) (.block 8 (.loop qWj))) (.seq (.ops [Wo 2 true]) .ret))))))
def jAo : FC := ⟨125, jPe, [.tmp 2]⟩
abbrev jOJ : Nat := 42
def qWi : LA := [mv 13 3, mv 14 0, We 15 14, Wb 16 .lss 13 15]
def qWh : ACode := (.seq (.seq (.ops qWi) (.cond (.t 16) .bad (.exit 0))) .bad)
def qWg : LA := [mv 38 6, mv 39 0, We 40 39, Wb 41 .lss 38 40]
def qWf : ACode := (.seq (.seq (.ops qWg) (.cond (.t 41) .bad (.exit 4))) .bad)
def qWe : LA := [mv 64 9, mv 65 0, We 66 65, Wb 67 .lss 64 66]
def qWd : ACode := (.seq (.seq (.ops qWe) (.cond (.t 67) .bad (.exit 8))) .bad)
def jPd : ACode := (.seq (.ops [Wo 2 false]) (.seq (.seq (.ops [Wm 3 0]) (.block 0 (.loop qWh))) (.seq (.ops [Wn 5]) (.seq (.seq (.ops [Wm 6 0]) (.block 4 (.loop qWf))) (.seq (.seq (.ops [Wm 9 0]) (.block 8 (.loop qWd))) (.seq (.ops [Wo 2 true]) .ret))))))
def jAn : FC := ⟨125, jPd, [.tmp 2]⟩
abbrev jOI : Nat := 43
def qWc : LA := [mv 13 3, mv 14 0, We 15 14, Wb 16 .lss 13 15]
def qWb : ACode := (.seq (.seq (.ops qWc) (.cond (.t 16) .bad (.exit 0))) .bad)
def qWa : LA := [mv 38 6, mv 39 0, We 40 39, Wb 41 .lss 38 40]
def qWZ : ACode := (.seq (.seq (.ops qWa) (.cond (.t 41) .bad (.exit 4))) .bad)
def qWY : LA := [mv 64 9, mv 65 0, We 66 65, Wb 67 .lss 64 66]
def qWX : ACode := (.seq (.seq (.ops qWY) (.cond (.t 67) .bad (.exit 8))) .bad)
def jPc : ACode := (.seq (.ops [Wo 2 false]) (.seq (.seq (.ops [Wm 3 0]) (.block 0 (.loop qWb))) (.seq (.ops [Wn 5]) (.seq (.seq (.ops [Wm 6 0]) (.block 4 (.loop qWZ))) (.seq (.seq (.ops [Wm 9 0]) (.block 8 (.loop qWX))) (.seq (.ops [Wo 2 true]) .ret))))))
def jAm : FC := ⟨125, jPc, [.tmp 2]⟩
abbrev jOH : Nat := 44
def qWW : LA := [mv 13 3, mv 14 0, We 15 14, Wb 16 .lss 13 15]
def qWV : ACode := (.seq (.seq (.ops qWW) (.cond (.t 16) .bad (.exit 0))) .bad)
def qWU : LA := [mv 38 6, mv 39 0, We 40 39, Wb 41 .lss 38 40]
def qWT : ACode := (.seq (.seq (.ops qWU) (.cond (.t 41) .bad (.exit 4))) .bad)
def qWS : LA := [mv 64 9, mv 65 0, We 66 65, Wb 67 .lss 64 66]
def qWR : ACode := (.seq (.seq (.ops qWS) (.cond (.t 67) .bad (.exit 8))) .bad)
def jPb : ACode := (.seq (.ops [Wo 2 false]) (.seq (.seq (.ops [Wm 3 0]) (.block 0 (.loop qWV))) (.seq (.ops [Wn 5]) (.seq (.seq (.ops [Wm 6 0]) (.block 4 (.loop qWT))) (.seq (.seq (.ops [Wm 9 0]) (.block 8 (.loop qWR))) (.seq (.ops [Wo 2 true]) .ret))))))
def jAl : FC := ⟨125, jPb, [.tmp 2]⟩
abbrev jOG : Nat := 45
def qWQ : LA := [mv 13 3, mv 14 0, We 15 14, Wb 16 .lss 13 15]
def qWP : ACode := (.seq (.seq (.ops qWQ) (.cond (.t 16) .bad (.exit 0))) .bad)
def qWO : LA := [mv 38 6, mv 39 0, We 40 39, Wb 41 .lss 38 40]
def qWN : ACode := (.seq (.seq (.ops qWO) (.cond (.t 41) .bad (.exit 4))) .bad)
def qWM : LA := [mv 64 9, mv 65 0, We 66 65, Wb 67 .lss 64 66]
def qWL : ACode := (.seq (.seq (.ops qWM) (.cond (.t 67) .bad (.exit 8))) .bad)
def jPa : ACode := (.seq (.ops [Wo 2 false]) (.seq (.seq (.ops [Wm 3 0]) (.block 0 (.loop qWP))) (.seq (.ops [Wn 5]) (.seq (.seq (.ops [Wm 6 0]) (.block 4 (.loop qWN))) (.seq (.seq (.ops [Wm 9 0]) (.block 8 (.loop qWL))) (.seq (.ops [Wo 2 true]) .ret))))))
def jAk : FC := ⟨125, jPa, [.tmp 2]⟩
abbrev jOF : Nat := 46
def qWK : LA := [mv 13 3, mv 14 0, We 15 14, Wb 16 .lss 13 15]
def qWJ : ACode := (.seq (.seq (.ops qWK) (.cond (.t 16) .bad (.exit 0))) .bad)
def qWI : LA := [mv 38 6, mv 39 0, We 40 39, Wb 41 .lss 38 40]
def qWH : ACode := (.seq (.seq (.ops qWI) (.cond (.t 41) .bad (.exit 4))) .bad)
def qWG : LA := [mv 64 9, mv 65 0, We 66 65, Wb 67 .lss 64 66]
def qWF : ACode := (.seq (.seq (.ops qWG) (.cond (.t 67) .bad (.exit 8))) .bad)
def jPZ : ACode := (.seq (.ops [Wo 2 false]) (.seq (.seq (.ops [Wm 3 0]) (.block 0 (.loop qWJ))) (.seq (.ops [Wn 5]) (.seq (.seq (.ops [Wm 6 0]) (.block 4 (.loop qWH))) (.seq (.seq (.ops [Wm 9 0]) (.block 8 (.loop qWF))) (.seq (.ops [Wo 2 true]) .ret))))))
def jAj : FC := ⟨125, jPZ, [.tmp 2]⟩
abbrev jOE : Nat := 47
def qWE : LA := [mv 13 3, mv 14 0, We 15 14, Wb 16 .lss 13 15]
def qWD : ACode := (.seq (.seq (.ops qWE) (.cond (.t 16) .bad (.exit 0))) .bad)
def qWC : LA := [mv 38 6, mv 39 0, We 40 39, Wb 41 .lss 38 40]
def qWB : ACode := (.seq (.seq (.ops qWC) (.cond (.t 41) .bad (.exit 4))) .bad)
def qWA : LA := [mv 64 9, mv 65 0, We 66 65, Wb 67 .lss 64 66]
def qVz : ACode := (.seq (.seq (.ops qWA) (.cond (.t 67) .bad (.exit 8))) .bad)
def jPY : ACode := (.seq (.ops [Wo 2 false]) (.seq (.seq (.ops [Wm 3 0]) (.block 0 (.loop qWD))) (.seq (.ops [Wn 5]) (.seq (.seq (.ops [Wm 6 0]) (.block 4 (.loop qWB))) (.seq (.seq (.ops [Wm 9 0]) (.block 8 (.loop qVz))) (.seq (.ops [Wo 2 true]) .ret))))))
def jAi : FC := ⟨182, jPY, [.tmp 2]⟩
abbrev jOD : Nat := 48
def qVy : LA := [mv 13 3, mv 14 0, We 15 14, Wb 16 .lss 13 15]
def qVx : ACode := (.seq (.seq (.ops qVy) (.cond (.t 16) .bad (.exit 0))) .bad)
def qVw : LA := [mv 38 6, mv 39 0, We 40 39, Wb 41 .lss 38 40]
def qVv : ACode := (.seq (.seq (.ops qVw) (.cond (.t 41) .bad (.exit 4))) .bad)
def qVu : LA := [mv 64 9, mv 65 0, We 66 65, Wb 67 .lss 64 66]
def qVt : ACode := (.seq (.seq (.ops qVu) (.cond (.t 67) .bad (.exit 8))) .bad)
def jPX : ACode := (.seq (.ops [Wo 2 false]) (.seq (.seq (.ops [Wm 3 0]) (.block 0 (.loop qVx))) (.seq (.ops [Wn 5]) (.seq (.seq (.ops [Wm 6 0]) (.block 4 (.loop qVv))) (.seq (.seq (.ops [Wm 9 0]) (.block 8 (.loop qVt))) (.seq (.ops [Wo 2 true]) .ret))))))
def jAh : FC := ⟨131, jPX, [.tmp 2]⟩
abbrev jOC : Nat := 49
def qVs : LA := [mv 13 3, mv 14 0, We 15 14, Wb 16 .lss 13 15]
def qVr : ACode := (.seq (.seq (.ops qVs) (.cond (.t 16) .bad (.exit 0))) .bad)
def qVq : LA := [mv 38 6, mv 39 0, We 40 39, Wb 41 .lss 38 40]
def qVp : ACode := (.seq (.seq (.ops qVq) (.cond (.t 41) .bad (.exit 4))) .bad)
def qVo : LA := [mv 64 9, mv 65 0, We 66 65, Wb 67 .lss 64 66]
def qVn : ACode := (.seq (.seq (.ops qVo) (.cond (.t 67) .bad (.exit 8))) .bad)
def jPW : ACode := (.seq (.ops [Wo 2 false]) (.seq (.seq (.ops [Wm 3 0]) (.block 0 (.loop qVr))) (.seq (.ops [Wn 5]) (.seq (.seq (.ops [Wm 6 0]) (.block 4 (.loop qVp))) (.seq (.seq (.ops [Wm 9 0]) (.block 8 (.loop qVn))) (.seq (.ops [Wo 2 true]) .ret))))))
def jAg : FC := ⟨131, jPW, [.tmp 2]⟩
abbrev jOB : Nat := 50
def qVm : LA := [mv 13 3, mv 14 0, We 15 14, Wb 16 .lss 13 15]
def qVl : ACode := (.seq (.seq (.ops qVm) (.cond (.t 16) .bad (.exit 0))) .bad)
def qVk : LA := [mv 38 6, mv 39 0, We 40 39, Wb 41 .lss 38 40]
def qVj : ACode := (.seq (.seq (.ops qVk) (.cond (.t 41) .bad (.exit 4))) .bad)
def qVi : LA := [mv 64 9, mv 65 0, We 66 65, Wb 67 .lss 64 66]
def qVh : ACode := (.seq (.seq (.ops qVi) (.cond (.t 67) .bad (.exit 8))) .bad)
def jPV : ACode := (.seq (.ops [Wo 2 false]) (.seq (.seq (.ops [Wm 3 0]) (.block 0 (.loop qVl))) (.seq (.ops [Wn 5]) (.seq (.seq (.ops [Wm 6 0]) (.block 4 (.loop qVj))) (.seq (.seq (.ops [Wm 9 0]) (.block 8 (.loop qVh))) (.seq (.ops [Wo 2 true]) .ret))))))
def jAf : FC := ⟨131, jPV, [.tmp 2]⟩
abbrev jOA : Nat := 51
def qVg : LA := [mv 13 3, mv 14 0, We 15 14, Wb 16 .lss 13 15]
def qVf : ACode := (.seq (.seq (.ops qVg) (.cond (.t 16) .bad (.exit 0))) .bad)
def qVe : LA := [mv 40 6, mv 41 0, We 42 41, Wb 43 .lss 40 42]
def qVd : ACode := (.seq (.seq (.ops qVe) (.cond (.t 43) .bad (.exit 4))) .bad)
def qVc : LA := [mv 69 9, mv 70 0, We 71 70, Wb 72 .lss 69 71]
def qVb : ACode := (.seq (.seq (.ops qVc) (.cond (.t 72) .bad (.exit 8))) .bad)
def jPU : ACode := (.seq (.ops [Wo 2 false]) (.seq (.seq (.ops [Wm 3 0]) (.block 0 (.loop qVf))) (.seq (.ops [Wn 5]) (.seq (.seq (.ops [Wm 6 0]) (.block 4 (.loop qVd))) (.seq (.seq (.ops [Wm 9 0]) (.block 8 (.loop qVb))) (.seq (.ops [Wo 2 true]) .ret))))))
def jAe : FC := ⟨143, jPU, [.tmp 2]⟩
abbrev jNz : Nat := 52
def qVa : LA := [mv 13 3, mv 14 0, We 15 14, Wb 16 .lss 13 15]
def qVZ : ACode := (.seq (.seq (.ops qVa) (.cond (.t 16) .bad (.exit 0))) .bad)
def qVY : LA := [mv 40 6, mv 41 0, We 42 41, Wb 43 .lss 40 42]
def qVX : ACode := (.seq (.seq (.ops qVY) (.cond (.t 43) .bad (.exit 4))) .bad)
def qVW : LA := [mv 68 9, mv 69 0, We 70 69, Wb 71 .lss 68 70]
def qVV : ACode := (.seq (.seq (.ops qVW) (.cond (.t 71) .bad (.exit 8))) .bad)
def jPT : ACode := (.seq (.ops [Wo 2 false]) (.seq (.seq (.ops [Wm 3 0]) (.block 0 (.loop qVZ))) (.seq (.ops [Wn 5]) (.seq (.seq (.ops [Wm 6 0]) (.block 4 (.loop qVX))) (.seq (.seq (.ops [Wm 9 0]) (.block 8 (.loop qVV))) (.seq (.ops [Wo 2 true]) .ret))))))
def jAd : FC := ⟨141, jPT, [.tmp 2]⟩
abbrev jNy : Nat := 53
def qVU : LA := [mv 13 3, mv 14 0, We 15 14, Wb 16 .lss 13 15]
def qVT : ACode := (.seq (.seq (.ops qVU) (.cond (.t 16) .bad (.exit 0))) .bad)
def qVS : LA := [mv 38 6, mv 39 0, We 40 39, Wb 41 .lss 38 40]
def qVR : ACode := (.seq (.seq (.ops qVS) (.cond (.t 41) .bad (.exit 4))) .bad)
def qVQ : LA := [mv 64 9, mv 65 0, We 66 65, Wb 67 .lss 64 66]
def qVP : ACode := (.seq (.seq (.ops qVQ) (.cond (.t 67) .bad (.exit 8))) .bad)
def jPS : ACode := (.seq (.ops [Wo 2 false]) (.seq (.seq (.ops [Wm 3 0]) (.block 0 (.loop qVT))) (.seq (.ops [Wn 5]) (.seq (.seq (.ops [Wm 6 0]) (.block 4 (.loop qVR))) (.seq (.seq (.ops [Wm 9 0]) (.block 8 (.loop qVP))) (.seq (.ops [Wo 2 true]) .ret))))))
def jAc : FC := ⟨131, jPS, [.tmp 2]⟩
abbrev jNx : Nat := 54
def qVO : LA := [mv 13 3, mv 14 0, We 15 14, Wb 16 .lss 13 15]
def qVN : ACode := (.seq (.seq (.ops qVO) (.cond (.t 16) .bad (.exit 0))) .bad)
def qVM : LA := [mv 38 6, mv 39 0, We 40 39, Wb 41 .lss 38 40]
def qVL : ACode := (.seq (.seq (.ops qVM) (.cond (.t 41) .bad (.exit 4))) .bad)
def qVK : LA := [mv 64 9, mv 65 0, We 66 65, Wb 67 .lss 64 66]
def qVJ : ACode := (.seq (.seq (.ops qVK) (.cond (.t 67) .bad (.exit 8))) .bad)
def jPR : ACode := (.seq (.ops [Wo 2 false]) (.seq (.seq (.ops [Wm 3 0]) (.block 0 (.loop qVN))) (.seq (.ops [Wn 5]) (.seq (.seq (.ops [Wm 6 0]) (.block 4 (.loop qVL))) (.seq (.seq (.ops [Wm 9 0]) (.block 8 (.loop qVJ))) (.seq (.ops [Wo 2 true]) .ret))))))
def jAb : FC := ⟨131, jPR, [.tmp 2]⟩
abbrev jNw : Nat := 55
def qVI : LA := [mv 13 3, mv 14 0, We 15 14, Wb 16 .lss 13 15]
def qVH : ACode := (.seq (.seq (.ops qVI) (.cond (.t 16) .bad (.exit 0))) .bad)
def qVG : LA := [mv 38 6, mv 39 0, We 40 39, Wb 41 .lss 38 40]
def qVF : ACode := (.seq (.seq (.ops qVG) (.cond (.t 41) .bad (.exit 4))) .bad)
def qVE : LA := [mv 64 9, mv 65 0, We 66 65, Wb 67 .lss 64 66]
def qVD : ACode := (.seq (.seq (.ops qVE) (.cond (.t 67) .bad (.exit 8))) .bad)
def jPQ : ACode := (.seq (.ops [Wo 2 false]) (.seq (.seq (.ops [Wm 3 0]) (.block 0 (.loop qVH))) (.seq (.ops [Wn 5]) (.seq (.seq (.ops [Wm 6 0]) (.block 4 (.loop qVF))) (.seq (.seq (.ops [Wm 9 0]) (.block 8 (.loop qVD))) (.seq (.ops [Wo 2 true]) .ret))))))
def jAa : FC := ⟨131, jPQ, [.tmp 2]⟩
abbrev jNv : Nat := 56
def qVC : LA := [mv 13 3, mv 14 0, We 15 14, Wb 16 .lss 13 15]
def qVB : ACode := (.seq (.seq (.ops qVC) (.cond (.t 16) .bad (.exit 0))) .bad)
def qVA : LA := [mv 37 6, mv 38 0, We 39 38, Wb 40 .lss 37 39]
def qUz : ACode := (.seq (.seq (.ops qVA) (.cond (.t 40) .bad (.exit 4))) .bad)
def qUy : LA := [mv 62 9, mv 63 0, We 64 63, Wb 65 .lss 62 64]
def qUx : ACode := (.seq (.seq (.ops qUy) (.cond (.t 65) .bad (.exit 8))) .bad)
def jPP : ACode := (.seq (.ops [Wo 2 false]) (.seq (.seq (.ops [Wm 3 0]) (.block 0 (.loop qVB))) (.seq (.ops [Wn 5]) (.seq (.seq (.ops [Wm 6 0]) (.block 4 (.loop qUz))) (.seq (.seq (.ops [Wm 9 0]) (.block 8 (.loop qUx))) (.seq (.ops [Wo 2 true]) .ret))))))
def jAZ : FC := ⟨174, jPP, [.tmp 2]⟩
abbrev jNu : Nat := 57
def qUw : LA := [o_ 2 (.mov (.c (.nilp))), Wm 3 0]
def qUv : LA := [mv 4 0, Wi 5 .lss 4 0, mv 6 5, Whm 7 0 6, Wh 8 (.bini .gtr (.t 7) (i_ 16777216)) 6, Wq 9 6 8]
def qUu : LA := [mv 10 0, o_ 11 (.build [.nils, .int .i64 (0), .nils, .int .i64 0] [(1, 1, (.t 10))]), o_ 12 (.box 236 4 (.t 11)), mv 2 12, Wm 3 0]
def jPO : ACode := (.seq (.ops qUw) (.seq (.seq (.ops qUv) (.cond (.t 9) .bad .skip)) (.seq (.ops qUu) .ret)))
def jAY : FC := ⟨13, jPO, [.tmp 2, .tmp 3]⟩
abbrev jNt : Nat := 58
def qUt : LA := [mv 4 0, mv 5 1, o_ 6 (.call 83 [(.t 5)]), o_ 7 (.call 82 [(.t 4), (.t 6)])]
def qUs : LA := [mv 8 0, mv 9 0, Wc 10 9, Wf 11 0 10, Wl 12 11, mv 13 1, o_ 14 (.call 84 [(.t 12), (.t 13)]), Wc 15 8, Wf 16 0 15, Ws 1 16 14]
def jPN : ACode := (.seq (.ops qUt) (.cond (.t 7) (.ops qUs) .bad))
def jAX : FC := ⟨17, jPN, []⟩
abbrev jNs : Nat := 59
def qUr : LA := [Wn 2, Wm 3 0]
def qUq : LA := [mv 5 0, Wc 6 5, Wf 7 3 6, Wl 8 7, Wi 9 .neq 8 0, mv 4 9]
def qUp : LA := [mv 15 0, Wc 16 15, Wf 17 2 16, Wl 18 17, We 19 18, Wi 20 .gtr 19 0, mv 14 20]
def qUo : LA := [mv 21 0, Wc 22 21, Wf 23 0 22, Wl 24 23, o_ 25 (.call 80 [(.t 24)]), mv 2 25, Wm 3 0]
def jPM : ACode := (.seq (.ops qUr) (.seq (.block 0 (.seq (.ops qUq) (.cond (.t 4) .bad (.seq (.ops qUp) (.cond (.t 14) .bad .skip))))) (.seq (.ops qUo) .ret)))
def jAW : FC := ⟨26, jPM, [.tmp 2, .tmp 3]⟩
abbrev jNr : Nat := 60
def qUn : LA := [mv 3 0, Wc 4 3, Wf 5 5 4, Wl 6 5, Wi 7 .eql 6 0, mv 8 7, Wgm 9 0 8, g_ 10 (.nilc (.t 9)) 8, Wgf 11 3 10 8, Wgl 12 11 8, g_ 13 (.bini .gtr (.t 12) (i_ 0)) 8, Wp 14 8 13, mv 15 14, Wgm 16 0 15, g_ 17 (.nilc (.t 16)) 15, Wgf 18 0 17 15, Wgf 19 0 18 15, Wgl 20 19 15, g_ 21 (.lenl (.t 20)) 15, Wgm 22 0 15, g_ 23 (.nilc (.t 22)) 15, Wgf 24 4 23 15, Wgl 25 24 15, g_ 26 (.bini .eql (.t 21) (.t 25)) 15, Wp 27 15 26, mv 2 27]
def jPL : ACode := (.seq (.ops [Wo 2 false]) (.seq (.alts [3, 4, 5, 6, 7, 8, 9, 10, 11, 12, 13, 14, 15, 16, 17, 18, 19, 20, 21, 22, 23, 24, 25, 26, 27, 2] [qUn]) .ret))
def jAV : FC := ⟨28, jPL, [.tmp 2]⟩
abbrev jNq : Nat := 61
def qUm : LA := [mv 4 0, mv 5 0, Wc 6 5, Wf 7 0 6, Wl 8 7, mv 9 1, o_ 10 (.app 5 1 1 (.t 8) (.t 9)), Wc 11 4, Wf 12 0 11, Ws 1 12 10]
def jPK : ACode := (.ops qUm)
def jAU : FC := ⟨13, jPK, []⟩
abbrev jNp : Nat := 62
def qUl : LA := [mv 6 0, Wc 7 6, Wf 8 0 7, Wf 9 0 8, Wl 10 9, o_ 11 (.call 85 [(.t 10)]), mv 2 11]
def qUk : LA := [mv 12 2, o_ 13 (.call 86 [(.t 12)]), mv 3 13]
def qUj : LA := [mv 15 2, o_ 16 (.call 87 [(.t 15)]), mv 14 16, Wx 17 0 14, Wx 18 1 14, mv 4 17, mv 5 18]
def qUi : LA := [mv 39 4, Wi 40 .eql 39 10, mv 38 40]
def qUh : LA := [mv 42 4, Wi 43 .neq 42 0, mv 41 43]
def qUg : LA := [mv 48 3, mv 49 0, Wc 50 49, Wf 51 1 50, Wl 52 51, o_ 53 (.conv .u64 (.t 52)), Wb 54 .gtr 48 53, mv 47 54]
def qUf : LA := [mv 19 0, mv 20 0, Wc 21 20, Wf 22 0 21, Wf 23 0 22, Wl 24 23, We 25 24, Wc 26 19, Wf 27 3 26, Ws 1 27 25]
def qUe : LA := [mv 28 0, mv 29 0, Wc 30 29, Wf 31 3 30, Wl 32 31, mv 33 3, o_ 34 (.conv .i64 (.t 33)), Wb 35 .add 32 34, Wc 36 28, Wf 37 4 36, Ws 1 37 35]
def jPJ : ACode := (.seq (.ops qUl) (.seq (.ops qUk) (.seq (.ops qUj) (.block 0 (.seq (.ops qUi) (.cond (.t 38) .bad (.seq (.ops qUh) (.cond (.t 41) .bad (.seq (.ops qUg) (.cond (.t 47) .bad (.seq (.ops qUf) (.ops qUe))))))))))))
def jAT : FC := ⟨57, jPJ, []⟩
abbrev jNo : Nat := 63
def qUd : LA := [mv 6 2, o_ 7 (.isnil .ic true (.t 6))]
def jPI : ACode := (.seq (.recv (some 5) [(some 2, (.t 5))]) (.seq (.ops qUd) (.cond (.t 7) .bad .skip)))
def jAS : FC := ⟨18, jPI, []⟩
abbrev jNn : Nat := 65
def qUc : LA := [mv 10 1, We 11 10, Wm 12 0]
def qUb : LA := [Wa 14 76 5 10 12, Wd 15 5 14, o_ 6 (.box 76 5 (.c (.agg [.str [], .str [], .nils, .nils, .nils]))), Ws 5 6 15]
def qUa : LA := [mv 16 0, Wc 17 16, Wf 18 0 17, Wl 19 18, Wf 20 0 6, Wl 21 20, o_ 22 (.mlook .s (.nilp) false (.t 19) (.t 21)), o_ 23 (.isnil .pt true (.t 22))]
def qUZ : LA := [mv 29 0, Wc 30 29, Wf 31 0 30, Wl 32 31, Wf 33 0 6, Wl 34 33, Wd 35 5 6, o_ 36 (.acall 89 [(.t 35)]), o_ 37 (.mkmap), o_ 38 (.mkmap), o_ 39 (.build [.str [], .str [], .nils, .nils, .nils, .nilm, .nilm] [(0, 5, (.t 36)), (5, 1, (.t 37)), (6, 1, (.t 38))]), o_ 40 (.box 249 7 (.t 39)), n_ (.mupd .s (.t 32) (.t 34) (.t 40))]
def qUY : LA := [Wi 41 .add 12 1, mv 12 41]
def qUX : ACode := (.seq (.ops [Wb 13 .lss 12 11]) (.seq (.cond (.t 13) .skip (.exit 0)) (.seq (.block 1 (.seq (.ops qUb) (.seq (.seq (.alts [16, 17, 18, 19, 20, 21, 22, 23] [qUa]) (.cond (.t 23) .bad .skip)) (.alts [29, 30, 31, 32, 33, 34, 35, 36, 37, 38, 39, 40] [qUZ])))) (.ops qUY))))
def qUW : LA := [mv 42 4, We 43 42, Wi 44 .gtr 43 0]
def qUV : LA := [mv 48 0, o_ 49 (.call 91 [(.t 48)]), We 50 49, Wm 51 0]
def qUU : LA := [Wa 53 9 1 49 51, Wl 54 53, mv 8 54]
def qUT : LA := [mv 55 0, Wc 56 55, Wf 57 0 56, Wl 58 57, mv 59 8, o_ 60 (.mlook .s (.nilp) false (.t 58) (.t 59)), Wc 61 60, Wf 62 0 61, Wd 63 5 62, o_ 64 (.call 92 [(.t 63)]), o_ 9 (.box 69 2 (.c (.agg [.int .i64 (0), .str []]))), Ws 2 9 64]
def zXy : LA := [Wf 65 0 9, Wl 66 65, Wi 67 .neq 66 0]
def zXx : LA := [Wi 71 .add 51 1, mv 51 71]
def zXw : ACode := (.seq (.ops [Wb 52 .lss 51 50]) (.seq (.cond (.t 52) .skip (.exit 2)) (.seq (.block 3 (.seq (.ops qUU) (.seq (.ops qUT) (.seq (.ops zXy) (.cond (.t 67) .bad .skip))))) (.ops zXx))))
def jPH : ACode := (.seq (.ops [Wn 4]) (.seq (.seq (.ops qUc) (.block 0 (.loop qUX))) (.seq (.seq (.ops qUW) (.cond (.t 44) .bad .skip)) (.seq (.ops qUV) (.block 2 (.loop zXw))))))
def jAR : FC := ⟨72, jPH, []⟩
abbrev jNm : Nat := 66
def qUS : LA := [mv 6 0, o_ 7 (.call 91 [(.t 6)]), We 8 7, Wm 9 0]
def qUR : LA := [Wa 11 9 1 7 9, Wl 12 11, mv 3 12]
def qUQ : LA := [mv 13 0, Wc 14 13, Wf 15 0 14, Wl 16 15, mv 17 3, o_ 18 (.mlook .s (.nilp) false (.t 16) (.t 17)), Wc 19 18, Wf 20 0 19, Wf 21 2 20, Wl 22 21, We 23 22, Wm 24 0]
def qUP : ACode := (.seq (.ops [Wb 25 .lss 24 23]) (.seq (.cond (.t 25) .bad (.exit 2)) .bad))
def qUO : LA := [Wi 40 .add 9 1, mv 9 40]
def qUN : ACode := (.seq (.ops [Wb 10 .lss 9 8]) (.seq (.cond (.t 10) .skip (.exit 0)) (.seq (.block 1 (.seq (.ops qUR) (.seq (.ops qUQ) (.block 2 (.loop qUP))))) (.ops qUO))))
def jPG : ACode := (.seq (.ops qUS) (.block 0 (.loop qUN)))
def jAQ : FC := ⟨41, jPG, []⟩
abbrev jNl : Nat := 67
def qUM : LA := [Wl 8 1, o_ 9 (.call 91 [(.t 8)]), We 10 9, Wm 11 0]
def qUL : LA := [Wa 13 9 1 9 11, Wl 14 13, o_ 3 (.box 9 1 (.c (.str []))), Ws 1 3 14]
def qUK : LA := [o_ 15 (.mkmap), o_ 4 (.box 246 1 (.c (.nilm))), Ws 1 4 15]
def qUJ : LA := [o_ 16 (.mkfn 93 [] [(.t 1), (.t 3), (.t 4), (.t 5)]), Ws 1 5 16]
def qUI : LA := [Wl 17 5, Wl 18 3, o_ 19 (.callv (.t 17) [(.t 18)])]
def qUH : LA := [Wi 20 .add 11 1, mv 11 20]
def qUG : ACode := (.seq (.ops [Wb 12 .lss 11 10]) (.seq (.cond (.t 12) .skip (.exit 0)) (.seq (.block 1 (.seq (.ops qUL) (.seq (.ops qUK) (.seq (.ops [o_ 5 (.box 253 1 (.c (.nilf)))]) (.seq (.ops qUJ) (.ops qUI)))))) (.ops qUH))))
def qUF : LA := [Wl 21 1, o_ 22 (.call 91 [(.t 21)]), We 23 22, Wm 24 0]
def qUE : LA := [Wa 26 9 1 22 24, Wl 27 26, mv 7 27]
def qUD : LA := [Wl 28 1, Wl 29 1, Wc 30 29, Wf 31 0 30, Wl 32 31, mv 33 7, o_ 34 (.mlook .s (.nilp) false (.t 32) (.t 33)), Wc 35 34, Wf 36 5 35, Wl 37 36, mv 38 7, o_ 39 (.call 94 [(.t 28), (.t 37), (.t 38), (.c (.bool true))])]
def zXv : LA := [Wi 40 .add 24 1, mv 24 40]
def zXu : ACode := (.seq (.ops [Wb 25 .lss 24 23]) (.seq (.cond (.t 25) .skip (.exit 2)) (.seq (.block 3 (.seq (.ops qUE) (.alts [28, 29, 30, 31, 32, 33, 34, 35, 36, 37, 38, 39] [qUD]))) (.ops zXv))))
def jPF : ACode := (.seq (.ops [o_ 1 (.box 67 1 (.t 0))]) (.seq (.seq (.ops qUM) (.block 0 (.loop qUG))) (.seq (.ops qUF) (.block 2 (.loop zXu)))))
def jAP : FC := ⟨41, jPF, []⟩
abbrev jNk : Nat := 68
def qUC : LA := [o_ 15 (.mkmap), mv 2 15]
def qUB : LA := [mv 16 0, Wc 17 16, Wf 18 0 17, Wl 19 18, o_ 20 (.rngm (.t 19))]
def qUA : LA := [o_ 21 (.nxm (.t 20)), Wx 22 0 21]
def qTz : LA := [o_ 23 (.entr (.t 20)), Wx 24 1 23, mv 4 24]
def qTy : LA := [mv 25 4, Wc 26 25, Wf 27 0 26, Wf 28 1 27, Wl 29 28, o_ 30 (.call 95 [(.t 29)]), We 31 30, Wm 32 0]
def qTx : LA := [Wa 34 9 1 30 32, Wl 35 34, mv 6 35]
def qTw : LA := [mv 36 2, mv 37 6, n_ (.mupd .s (.t 36) (.t 37) (.c (.bool true)))]
def qTv : LA := [Wi 38 .add 32 1, mv 32 38]
def qTu : ACode := (.seq (.ops [Wb 33 .lss 32 31]) (.seq (.cond (.t 33) .skip (.exit 2)) (.seq (.block 3 (.seq (.ops qTx) (.ops qTw))) (.ops qTv))))
def qTt : ACode := (.seq (.ops qUA) (.seq (.cond (.t 22) .skip (.exit 0)) (.block 1 (.seq (.ops qTz) (.seq (.ops qTy) (.block 2 (.loop qTu)))))))
def zXt : LA := [mv 39 0, o_ 40 (.call 91 [(.t 39)]), We 41 40, Wm 42 0]
def zXs : LA := [Wa 44 9 1 40 42, Wl 45 44, mv 9 45]
def zXr : LA := [mv 46 0, Wc 47 46, Wf 48 0 47, Wl 49 48, mv 50 9, o_ 51 (.mlook .s (.nilp) false (.t 49) (.t 50)), mv 10 51]
def zXq : LA := [mv 52 10, Wc 53 52, Wf 54 0 53, Wd 55 5 54, o_ 56 (.call 96 [(.t 55)]), We 57 56, Wm 58 0]
def zXp : LA := [Wa 60 201 3 56 58, Wd 61 3 60, o_ 12 (.box 201 3 (.c (.agg [.str [], .int .u8 (0), .str []]))), Ws 3 12 61]
def zXo : LA := [mv 63 0, Wc 64 63, Wf 65 2 64, Wl 66 65, Wf 67 0 12, Wl 68 67, o_ 69 (.mlook .s (.str []) true (.t 66) (.t 68)), mv 62 69, Wx 70 0 62, Wx 71 1 62, mv 13 70, mv 14 71]
def zXn : LA := [mv 72 14, mv 73 72, Whm 74 2 73, Wh 75 (.faddr 0 (.t 12)) 73, Wh 76 (.ld1 (.t 75)) 73, Wh 77 (.mlook .s (.bool false) false (.t 74) (.t 76)) 73, Wq 78 73 77]
def zXm : LA := [mv 84 0, Wc 85 84, Wf 86 2 85, Wl 87 86, Wf 88 0 12, Wl 89 88, mv 90 9, n_ (.mupd .s (.t 87) (.t 89) (.t 90))]
def zXl : LA := [mv 91 10, Wc 92 91, Wf 93 6 92, Wl 94 93, Wf 95 0 12, Wl 96 95, Wf 97 1 12, Wl 98 97, n_ (.mupd .s (.t 94) (.t 96) (.t 98))]
def zXk : LA := [Wi 99 .add 58 1, mv 58 99]
def zXj : ACode := (.seq (.ops [Wb 59 .lss 58 57]) (.seq (.cond (.t 59) .skip (.exit 6)) (.seq (.block 7 (.seq (.ops zXp) (.seq (.seq (.alts [63, 64, 65, 66, 67, 68, 69, 62, 70, 71, 13, 14] [zXo]) (.seq (.ops zXn) (.cond (.t 78) .bad .skip))) (.seq (.alts [84, 85, 86, 87, 88, 89, 90] [zXm]) (.alts [91, 92, 93, 94, 95, 96, 97, 98] [zXl]))))) (.ops zXk))))
def zXi : LA := [Wi 100 .add 42 1, mv 42 100]
def zXh : ACode := (.seq (.ops [Wb 43 .lss 42 41]) (.seq (.cond (.t 43) .skip (.exit 4)) (.seq (.block 5 (.seq (.ops zXs) (.seq (.ops zXr) (.seq (.ops zXq) (.block 6 (.loop zXj)))))) (.ops zXi))))
def zXg : LA := [mv 101 7, We 102 101, Wi 103 .gtr 102 0]
def jPE : ACode := (.seq (.ops qUC) (.seq (.seq (.ops qUB) (.block 0 (.loop qTt))) (.seq (.ops [Wn 7]) (.seq (.seq (.ops zXt) (.block 4 (.loop zXh))) (.seq (.ops zXg) (.cond (.t 103) .bad .skip))))))
def jAO : FC := ⟨107, jPE, []⟩
abbrev jNj : Nat := 69
def qTs : LA := [mv 5 0, o_ 6 (.call 91 [(.t 5)]), We 7 6, Wm 8 0]
def qTr : LA := [Wa 10 9 1 6 8, Wl 11 10, mv 3 11]
def qTq : LA := [mv 12 0, Wc 13 12, Wf 14 0 13, Wl 15 14, mv 16 3, o_ 17 (.mlook .s (.nilp) false (.t 15) (.t 16)), mv 4 17]
def qTp : LA := [mv 18 0, mv 19 4, mv 20 4, Wc 21 20, Wf 22 0 21, Wf 23 1 22, Wl 24 23, mv 25 4, Wc 26 25, Wf 27 0 26, Wf 28 3 27, Wl 29 28, o_ 30 (.call 97 [(.t 18), (.t 19), (.t 24), (.t 29)])]
def qTo : LA := [Wi 31 .add 8 1, mv 8 31]
def qTn : ACode := (.seq (.ops [Wb 9 .lss 8 7]) (.seq (.cond (.t 9) .skip (.exit 0)) (.seq (.block 1 (.seq (.ops qTr) (.seq (.ops qTq) (.alts [18, 19, 20, 21, 22, 23, 24, 25, 26, 27, 28, 29, 30] [qTp])))) (.ops qTo))))
def jPD : ACode := (.seq (.ops qTs) (.block 0 (.loop qTn)))
def jAN : FC := ⟨32, jPD, []⟩
abbrev jNi : Nat := 70
def qTm : LA := [o_ 10 (.mkmap), o_ 2 (.box 246 1 (.c (.nilm))), Ws 1 2 10]
def qTl : LA := [mv 11 0, Wc 12 11, Wf 13 1 12, Wl 14 13, We 15 14, mv 16 0, Wc 17 16, Wf 18 0 17, Wl 19 18, o_ 20 (.mlen (.t 19)), Wb 21 .lss 15 20]
def qTk : LA := [mv 22 0, o_ 23 (.call 91 [(.t 22)]), We 24 23, Wm 25 0]
def qTj : LA := [Wa 27 9 1 23 25, Wl 28 27, mv 4 28]
def qTi : LA := [o_ 29 (.mkfn 98 [] [(.t 2)]), mv 5 29]
def qTh : LA := [Wl 30 2, mv 31 4, o_ 32 (.mlook .s (.bool false) false (.t 30) (.t 31)), o_ 33 (.not (.t 32)), mv 34 33, Wgm 35 0 34, g_ 36 (.nilc (.t 35)) 34, Wgf 37 0 36 34, Wgl 38 37 34, Wgm 39 4 34, g_ 40 (.mlook .s (.nilp) false (.t 38) (.t 39)) 34, g_ 41 (.nilc (.t 40)) 34, Wgf 42 0 41 34, Wgf 43 2 42 34, Wgl 44 43 34, Wgm 45 5 34, g_ 46 (.call 99 [(.t 44), (.t 45)]) 34, g_ 47 (.not (.t 46)) 34, Wp 48 34 47]
def qTg : LA := [Wl 49 2, mv 50 4, n_ (.mupd .s (.t 49) (.t 50) (.c (.bool true)))]
def qTf : LA := [mv 51 0, mv 52 0, Wc 53 52, Wf 54 1 53, Wl 55 54, mv 56 4, o_ 57 (.bslice 9 1 1 [.str []] [(0, 1, (.t 56))]), o_ 58 (.app 9 1 16 (.t 55) (.t 57)), Wc 59 51, Wf 60 1 59, Ws 1 60 58]
def qTe : LA := [Wi 61 .add 25 1, mv 25 61]
def qTd : ACode := (.seq (.ops [Wb 26 .lss 25 24]) (.seq (.cond (.t 26) .skip .bad) (.seq (.block 3 (.seq (.ops qTj) (.seq (.ops qTi) (.seq (.ops qTh) (.cond (.t 48) (.seq (.ops qTg) (.seq (.ops qTf) (.exit 2))) .bad))))) (.ops qTe))))
def zXf : ACode := (.seq (.seq (.alts [11, 12, 13, 14, 15, 16, 17, 18, 19, 20, 21] [qTl]) (.cond (.t 21) .skip (.exit 0))) (.block 1 (.seq (.ops qTk) (.block 2 (.loop qTd)))))
def zXe : LA := [mv 62 0, Wc 63 62, Wf 64 0 63, Wl 65 64, o_ 66 (.rngm (.t 65))]
def zXd : LA := [o_ 67 (.nxm (.t 66)), Wx 68 0 67]
def zXc : LA := [o_ 69 (.entr (.t 66)), Wx 70 1 69, mv 7 70]
def zXb : LA := [mv 71 0, mv 72 7, Wc 73 72, Wf 74 0 73, Wf 75 1 74, Wl 76 75, mv 77 7, Wc 78 77, Wf 79 0 78, Wf 80 3 79, Wl 81 80, mv 82 7, Wc 83 82, Wf 84 0 83, Wf 85 4 84, Wl 86 85, o_ 87 (.call 100 [(.t 71), (.t 76), (.t 81), (.t 86)])]
def zXa : ACode := (.seq (.ops zXd) (.seq (.cond (.t 68) .skip (.exit 4)) (.block 5 (.seq (.ops zXc) (.alts [71, 72, 73, 74, 75, 76, 77, 78, 79, 80, 81, 82, 83, 84, 85, 86, 87] [zXb])))))
def zXZ : LA := [mv 88 0, Wc 89 88, Wf 90 5 89, Wl 91 90, o_ 92 (.rngm (.t 91))]
def zXY : LA := [o_ 93 (.nxm (.t 92)), Wx 94 0 93]
def zXX : LA := [o_ 95 (.entr (.t 92)), Wx 96 1 95, mv 9 96]
def zXW : LA := [mv 97 9, o_ 98 (.call 101 [(.t 97)])]
def zXV : ACode := (.seq (.ops zXY) (.seq (.cond (.t 94) .skip (.exit 6)) (.block 7 (.seq (.ops zXX) (.ops zXW)))))
def jPC : ACode := (.seq (.ops qTm) (.seq (.block 0 (.loop zXf)) (.seq (.seq (.ops zXe) (.block 4 (.loop zXa))) (.seq (.ops zXZ) (.block 6 (.loop zXV))))))
def jAM : FC := ⟨99, jPC, []⟩
abbrev jNh : Nat := 71
def qTc : LA := [mv 5 0, mv 6 1, o_ 7 (.build [.str [], .int .i32 (0), .int .u8 (0), .int .u8 (0), .str [], .int .u8 (0), .int .i64 (0), .int .u8 (0), .str []] [(0, 1, (.c (.str [118, 97, 108, 117, 101]))), (1, 1, (.c (.int .i32 1))), (2, 1, (.c (.int .u8 1))), (3, 1, (.t 6))]), o_ 8 (.bslice 163 9 1 [.str [], .int .i32 (0), .int .u8 (0), .int .u8 (0), .str [], .int .u8 (0), .int .i64 (0), .int .u8 (0), .str []] [(0, 9, (.t 7))]), o_ 9 (.build [.str [], .nils, .nils, .nils, .nils, .nils, .nils] [(0, 1, (.t 5)), (1, 1, (.t 8))]), Ws 7 4 9]
def jPB : ACode := (.seq (.ops [o_ 4 (.box 159 7 (.c (.agg [.str [], .nils, .nils, .nils, .nils, .nils, .nils])))]) (.seq (.ops qTc) .ret))
def jAL : FC := ⟨10, jPB, [.cella 4 7]⟩
abbrev jNg : Nat := 72
def qTb : LA := [mv 3 0, o_ 4 (.build [.str [], .int .i32 (0), .int .u8 (0), .int .u8 (0), .str [], .int .u8 (0), .int .i64 (0), .int .u8 (0), .str []] [(0, 1, (.c (.str [115, 101, 99, 111, 110, 100, 115]))), (1, 1, (.c (.int .i32 1))), (2, 1, (.c (.int .u8 1))), (3, 1, (.c (.int .u8 3)))]), o_ 5 (.build [.str [], .int .i32 (0), .int .u8 (0), .int .u8 (0), .str [], .int .u8 (0), .int .i64 (0), .int .u8 (0), .str []] [(0, 1, (.c (.str [110, 97, 110, 111, 115]))), (1, 1, (.c (.int .i32 2))), (2, 1, (.c (.int .u8 1))), (3, 1, (.c (.int .u8 5)))]), o_ 6 (.bslice 163 9 2 [.str [], .int .i32 (0), .int .u8 (0), .int .u8 (0), .str [], .int .u8 (0), .int .i64 (0), .int .u8 (0), .str []] [(0, 9, (.t 4)), (9, 9, (.t 5))]), o_ 7 (.build [.str [], .nils, .nils, .nils, .nils, .nils, .nils] [(0, 1, (.t 3)), (1, 1, (.t 6))]), Ws 7 2 7]
def jPA : ACode := (.seq (.ops [o_ 2 (.box 159 7 (.c (.agg [.str [], .nils, .nils, .nils, .nils, .nils, .nils])))]) (.seq (.ops qTb) .ret))
def jAK : FC := ⟨8, jPA, [.cella 2 7]⟩
abbrev jNf : Nat := 73
def qTa : LA := [o_ 6 (.box 86 3 (.c (.agg [.str [], .nils, .nils]))), Wm 7 0, Wm 8 0]
def qTZ : LA := [mv 9 0, mv 10 1, o_ 11 (.build [.str [], .nils, .nils] [(0, 1, (.t 10))]), mv 12 2, o_ 13 (.call 75 [(.t 9), (.t 11), (.t 12)]), Wx 14 0 13, Wx 15 1 13, Wx 16 2 13, Ws 3 6 14, mv 7 15, mv 8 16]
def jOz : ACode := (.seq (.ops qTa) (.seq (.ops qTZ) .ret))
def jAJ : FC := ⟨17, jOz, [.cella 6 3, .tmp 7, .tmp 8]⟩
abbrev jNe : Nat := 74
def qTY : LA := [Wm 2 0, Wm 3 0]
def qTX : LA := [mv 13 0, o_ 14 (.call 85 [(.t 13)]), mv 4 14]
def qTW : LA := [mv 16 4, o_ 17 (.call 102 [(.t 16)]), mv 15 17, Wx 18 0 15, Wx 19 1 15, mv 5 18, mv 6 19]
def qTV : LA := [mv 20 6, o_ 21 (.bini .eql (.t 20) (.c (.int .u8 4)))]
def qTU : LA := [mv 30 4, o_ 31 (.call 87 [(.t 30)]), mv 29 31, Wx 32 0 29, Wx 33 1 29, mv 9 32, mv 10 33]
def qTT : LA := [mv 34 9, Wi 35 .eql 34 0]
def qTS : LA := [mv 36 4, mv 37 5, mv 38 6, o_ 39 (.call 103 [(.t 36), (.t 37), (.t 38), (i_ 99)])]
def qTR : LA := [mv 41 4, o_ 42 (.call 87 [(.t 41)]), mv 40 42, Wx 43 0 40, Wx 44 1 40, mv 11 43, mv 12 44]
def qTQ : LA := [mv 45 4, o_ 46 (.call 104 [(.t 45)]), mv 47 11, mv 2 46, mv 3 47]
def jOy : ACode := (.seq (.ops qTY) (.seq (.ops qTX) (.seq (.ops qTW) (.seq (.seq (.ops qTV) (.cond (.t 21) .bad .skip)) (.seq (.seq (.ops qTU) (.seq (.ops qTT) (.cond (.t 35) (.ops qTS) .bad))) (.seq (.ops qTR) (.seq (.ops qTQ) .ret)))))))
def jAI : FC := ⟨48, jOy, [.tmp 2, .tmp 3]⟩
abbrev jNd : Nat := 75
def qTP : LA := [o_ 4 (.box 86 3 (.t 1)), o_ 6 (.box 86 3 (.c (.agg [.str [], .nils, .nils]))), o_ 7 (.box 63 1 (i_ 0)), o_ 8 (.box 3 1 (i_ 0))]
def qTO : LA := [mv 16 0, Wf 17 0 4, Wl 18 17, o_ 19 (.inv [(81, 407)] (.t 16) [(.t 18)]), mv 15 19, Wx 20 0 15, Wx 21 1 15, mv 9 20, mv 10 21]
def qTN : LA := [mv 22 10, Wi 23 .neq 22 0]
def qTM : LA := [mv 27 0, Wd 28 3 4, o_ 29 (.call 105 [(.t 27), (.t 28)]), mv 26 29, Wx 30 0 26, Wx 31 1 26, o_ 11 (.box 86 3 (.c (.agg [.str [], .nils, .nils]))), Ws 3 11 30, mv 12 31]
def qTL : LA := [mv 32 12, Wi 33 .neq 32 0]
def qTK : LA := [mv 36 2, We 37 36, Wi 38 .gtr 37 16777216]
def qTJ : LA := [mv 41 0, mv 42 2, o_ 43 (.call 107 []), o_ 44 (.build [.nili, .nils, .nils] [(0, 1, (.t 41)), (1, 1, (.t 42)), (2, 1, (.t 43))]), o_ 45 (.box 277 3 (.t 44)), mv 13 45]
def qTI : LA := [mv 46 13, Wd 47 3 11, o_ 48 (.call 108 [(.t 46), (.t 47)]), mv 14 48]
def qTH : LA := [mv 49 13, mv 50 14, mv 51 2, o_ 52 (.call 85 [(.t 51)]), o_ 53 (.call 109 [(.t 49), (.t 50), (.t 52), (i_ 1)])]
def qTG : LA := [mv 54 14, o_ 55 (.call 110 [(.t 54)]), Ws 3 6 55, n_ (.st 1 (.t 7) (i_ 0)), n_ (.st 1 (.t 8) (i_ 0))]
def jOx : ACode := (.seq (.ops qTP) (.seq (.seq (.ops qTO) (.seq (.ops qTN) (.cond (.t 23) .bad .skip))) (.seq (.ops qTM) (.seq (.seq (.ops qTL) (.cond (.t 33) .bad .skip)) (.seq (.seq (.ops qTK) (.cond (.t 38) .bad .skip)) (.seq (.seq (.ops [o_ 40 (.mkfn 106 [] [(.t 6), (.t 7), (.t 8)])]) (.dfr (.t 40) [])) (.seq (.ops qTJ) (.seq (.ops qTI) (.seq (.ops qTH) (.seq (.ops qTG) .ret))))))))))
def jAH : FC := ⟨56, jOx, [.cella 6 3, .cell1 7, .cell1 8]⟩
abbrev jNc : Nat := 76
def qTF : LA := [mv 4 0, mv 5 0, Wc 6 5, Wf 7 0 6, Wl 8 7, mv 9 1, o_ 10 (.slcl 5 1 (.t 8) (some (.t 9)) none none), o_ 11 (.call 80 [(.t 10)]), Wc 12 4, Wf 13 0 12, Ws 1 13 11]
def jOw : ACode := (.ops qTF)
def jAG : FC := ⟨14, jOw, []⟩
abbrev jNb : Nat := 77
def qTE : LA := [mv 3 0, Wc 4 3, Wf 5 0 4, Wl 6 5, We 7 6, Wi 8 .gtr 7 0, mv 2 8]
def jOv : ACode := (.seq (.ops [Wo 2 false]) (.seq (.ops qTE) .ret))
def jAF : FC := ⟨9, jOv, [.tmp 2]⟩
abbrev jNa : Nat := 78
def qTD : LA := [o_ 2 (.box 86 3 (.c (.agg [.str [], .nils, .nils]))), Wm 3 0]
def qTC : LA := [mv 7 0, Wc 8 7, Wf 9 5 8, Wl 10 9, Wi 11 .neq 10 0]
def qTB : LA := [mv 18 0, Wc 19 18, Wf 20 1 19, Wl 21 20, mv 22 0, Wc 23 22, Wf 24 2 23, Wd 25 3 24, o_ 26 (.call 75 [(.t 21), (.t 25), (.c (.nils))]), mv 17 26, Wx 27 0 17, Wx 28 1 17, Wx 29 2 17, o_ 4 (.box 86 3 (.c (.agg [.str [], .nils, .nils]))), Ws 3 4 27, mv 5 28, mv 6 29]
def qTA : LA := [mv 18 0, Wc 19 18, Wf 20 1 19, Wl 21 20, mv 22 0, Wc 23 22, Wf 24 2 23, Wd 25 3 24, o_ 4 (.box 86 3 (.c (.agg [.str [], .nils, .nils]))), o_ 26 (.call 75 [(.t 21), (.t 25), (.c (.nils))]), mv 17 26, Wx 27 0 17, Wx 28 1 17, Wx 29 2 17, Ws 3 4 27, mv 5 28, mv 6 29]
def qSz : LA := [Wd 30 3 4, Ws 3 2 30, Wm 3 0]
def jOu : ACode := (.seq (.ops qTD) (.seq (.seq (.ops qTC) (.cond (.t 11) .bad .skip)) (.seq (.alts [18, 19, 20, 21, 22, 23, 24, 25, 26, 17, 27, 28, 29, 4, 5, 6] [qTB, qTA]) (.seq (.ops qSz) .ret))))
def jAE : FC := ⟨31, jOu, [.cella 2 3, .tmp 3]⟩
abbrev jNZ : Nat := 80
def qSy : LA := [mv 3 0, o_ 4 (.isnilu false (.t 3))]
def qSx : LA := [o_ 5 (.bslice0 5), mv 6 0, o_ 7 (.app 5 1 1 (.t 5) (.t 6)), mv 2 7]
def jOt : ACode := (.seq (.ops [Wn 2]) (.seq (.seq (.ops qSy) (.cond (.t 4) (.seq (.ops [Wn 2]) .ret) .skip)) (.seq (.ops qSx) .ret)))
def jAD : FC := ⟨8, jOt, [.tmp 2]⟩
abbrev jNY : Nat := 82
def qSw : LA := [mv 5 0, Wc 6 5, Wf 7 3 6, Wl 8 7, Wi 9 .eql 8 0, mv 10 9, Wgm 11 1 10, Wgm 12 0 10, g_ 13 (.nilc (.t 12)) 10, Wgf 14 1 13 10, Wgl 15 14 10, Wgm 16 0 10, g_ 17 (.nilc (.t 16)) 10, Wgf 18 0 17 10, Wgl 19 18 10, g_ 20 (.lenl (.t 19)) 10, g_ 21 (.bini .sub (.t 15) (.t 20)) 10, g_ 22 (.bini .gtr (.t 11) (.t 21)) 10, Wp 23 10 22]
def qSv : LA := [mv 27 0, Wc 28 27, Wf 29 3 28, Wl 30 29, Wi 31 .eql 30 0, mv 4 31]
def jOs : ACode := (.seq (.ops [Wo 4 false]) (.seq (.seq (.alts [5, 6, 7, 8, 9, 10, 11, 12, 13, 14, 15, 16, 17, 18, 19, 20, 21, 22, 23] [qSw]) (.cond (.t 23) .bad .skip)) (.seq (.ops qSv) .ret)))
def jAC : FC := ⟨32, jOs, [.tmp 4]⟩
abbrev jNX : Nat := 83
def qSu : LA := [mv 3 0, o_ 4 (.bini .or (.t 3) (.c (.int .u64 1))), o_ 5 (.call 112 [(.t 4)]), Wi 6 .add 5 6, Wi 7 .quo 6 7, mv 2 7]
def jOr : ACode := (.seq (.ops [Wm 2 0]) (.seq (.ops qSu) .ret))
def jAB : FC := ⟨8, jOr, [.tmp 2]⟩
abbrev jNW : Nat := 84
def qSt : LA := [mv 5 1, o_ 6 (.bini .geq (.t 5) (.c (.int .u64 128)))]
def qSs : ACode := (.seq (.seq (.ops qSt) (.cond (.t 6) .bad (.exit 0))) .bad)
def qSr : LA := [mv 15 0, mv 16 1, o_ 17 (.conv .u8 (.t 16)), o_ 18 (.bslice 5 1 1 [.int .u8 0] [(0, 1, (.t 17))]), o_ 19 (.app 5 1 1 (.t 15) (.t 18)), mv 4 19]
def jOq : ACode := (.seq (.ops [Wn 4]) (.seq (.block 0 (.loop qSs)) (.seq (.ops qSr) .ret)))
def jAA : FC := ⟨20, jOq, [.tmp 4]⟩
abbrev jNV : Nat := 85
def qSq : LA := [mv 3 0, o_ 4 (.call 80 [(.t 3)]), mv 5 0, We 6 5, o_ 7 (.build [.nils, .int .i64 (0), .int .i64 (0), .int .i64 (0), .int .i64 0] [(0, 1, (.t 4)), (2, 1, (.t 6))]), o_ 8 (.box 287 5 (.t 7)), mv 2 8]
def jOp : ACode := (.seq (.ops [o_ 2 (.mov (.c (.nilp)))]) (.seq (.ops qSq) .ret))
def qZz : FC := ⟨9, jOp, [.tmp 2]⟩
abbrev jNU : Nat := 86
def qSp : LA := [mv 6 0, Wc 7 6, Wf 8 3 7, Wl 9 8, Wi 10 .neq 9 0]
def qSo : LA := [mv 11 4, Wi 12 .lss 11 10]
def qSn : LA := [mv 15 0, Wc 16 15, Wf 17 1 16, Wl 18 17, mv 19 4, Wb 20 .add 18 19, mv 21 0, Wc 22 21, Wf 23 2 22, Wl 24 23, Wb 25 .geq 20 24]
def qSm : LA := [mv 32 0, Wc 33 32, Wf 34 0 33, Wl 35 34, mv 36 0, Wc 37 36, Wf 38 1 37, Wl 39 38, mv 40 4, Wb 41 .add 39 40, Wa 42 5 1 35 41, Wl 43 42, mv 5 43]
def qSl : LA := [mv 44 4, Wi 45 .eql 44 9, mv 46 45, Wgm 47 5 46, g_ 48 (.bini .gtr (.t 47) (.c (.int .u8 1))) 46, Wp 49 46 48]
def qSk : LA := [mv 50 3, mv 51 5, o_ 52 (.bini .and (.t 51) (.c (.int .u8 127))), o_ 53 (.conv .u64 (.t 52)), mv 54 4, o_ 55 (.bini .mul (i_ 7) (.t 54)), Wb 56 .shl 53 55, Wb 57 .or 50 56, mv 3 57]
def qSj : LA := [mv 58 5, o_ 59 (.bini .lss (.t 58) (.c (.int .u8 128)))]
def qSi : LA := [mv 60 0, Wc 61 60, Wf 62 1 61, Wl 63 62, mv 64 4, Wi 65 .add 64 1, Wb 66 .add 63 65, Wc 67 60, Wf 68 1 67, Ws 1 68 66]
def qSh : LA := [mv 69 3, mv 2 69]
def qSg : LA := [mv 13 4, Wi 14 .add 13 1, mv 4 14]
def zXU : ACode := (.seq (.seq (.ops qSo) (.cond (.t 12) .skip .bad)) (.seq (.block 1 (.seq (.seq (.alts [15, 16, 17, 18, 19, 20, 21, 22, 23, 24, 25] [qSn]) (.cond (.t 25) .bad .skip)) (.seq (.alts [32, 33, 34, 35, 36, 37, 38, 39, 40, 41, 42, 43, 5] [qSm]) (.seq (.seq (.ops qSl) (.cond (.t 49) .bad .skip)) (.seq (.ops qSk) (.seq (.ops qSj) (.cond (.t 59) (.seq (.ops qSi) (.seq (.ops qSh) .ret)) .bad))))))) (.ops qSg)))
def zXT : LA := [mv 70 0, mv 71 0, Wc 72 71, Wf 73 1 72, Wl 74 73, o_ 75 (.call 113 [(.t 70), (i_ 11), (.t 74)])]
def jOo : ACode := (.seq (.ops [o_ 2 (.mov (.c (.int .u64 0)))]) (.seq (.ops [o_ 3 (.mov (.c (.int .u64 0)))]) (.seq (.seq (.ops qSp) (.cond (.t 10) .bad .skip)) (.seq (.seq (.ops [Wm 4 0]) (.block 0 (.loop zXU))) (.seq (.ops zXT) (.seq (.ops [o_ 2 (.mov (.c (.int .u64 0)))]) .ret))))))
def qZy : FC := ⟨76, jOo, [.tmp 2]⟩
abbrev jNT : Nat := 87
def qSf : LA := [Wm 2 0, Wm 3 0]
def qSe : LA := [mv 4 0, Wc 5 4, Wf 6 3 5, Wl 7 6, Wi 8 .eql 7 0]
def qSd : LA := [Wm 2 0, Wm 3 0]
def qSc : LA := [mv 9 0, Wc 10 9, Wf 11 3 10, Wl 12 11, mv 13 0, Wc 14 13, Wf 15 4 14, Wl 16 15, mv 2 12, mv 3 16]
def jOn : ACode := (.seq (.ops qSf) (.seq (.seq (.ops qSe) (.cond (.t 8) (.seq (.ops qSd) .ret) .skip)) (.seq (.alts [9, 10, 11, 12, 13, 14, 15, 16, 2, 3] [qSc]) .ret)))
def qZx : FC := ⟨17, jOn, [.tmp 2, .tmp 3]⟩
abbrev jNS : Nat := 89
def qSb : LA := [o_ 1 (.box 76 5 (.t 0)), o_ 2 (.box 76 5 (.c (.agg [.str [], .str [], .nils, .nils, .nils])))]
def qSa : LA := [Wf 3 2 1, Wl 4 3, o_ 5 (.call 114 [(.t 4)]), Wf 6 2 1, Ws 1 6 5]
def qSZ : LA := [Wf 8 3 1, Wl 9 8, Wf 10 4 1, Wl 11 10, o_ 12 (.call 115 [(.t 9), (.t 11)]), mv 7 12, Wx 13 0 7, Wx 14 1 7, Wf 15 3 1, Ws 1 15 13, Wf 16 4 1, Ws 1 16 14]
def qSY : LA := [Wd 17 5 1, Ws 5 2 17]
def jOm : ACode := (.seq (.ops qSb) (.seq (.ops qSa) (.seq (.ops qSZ) (.seq (.ops qSY) .ret))))
def qZw : FC := ⟨18, jOm, [.cella 2 5]⟩
abbrev jNR : Nat := 91
def qSX : LA := [mv 3 0, Wc 4 3, Wf 5 0 4, Wl 6 5, o_ 7 (.call 117 [(.t 6)]), o_ 8 (.call 116 [(.t 7)]), mv 2 8]
def jOl : ACode := (.seq (.ops [Wn 2]) (.seq (.ops qSX) .ret))
def qZv : FC := ⟨9, jOl, [.tmp 2]⟩
abbrev jNQ : Nat := 92
def qSW : LA := [o_ 1 (.box 76 5 (.t 0)), o_ 2 (.box 69 2 (.c (.agg [.int .i64 (0), .str []])))]
def qSV : LA := [o_ 5 (.mkmap), o_ 6 (.build [.nilm] [(0, 1, (.t 5))]), o_ 7 (.box 301 1 (.t 6)), mv 3 7]
def qSU : LA := [mv 8 3, Wd 9 5 1, o_ 10 (.call 119 [(.t 8), (.t 9)])]
def qST : LA := [o_ 11 (.build [.int .i64 (0), .str []] []), Ws 2 2 11]
def jOk : ACode := (.seq (.ops qSW) (.seq (.seq (.ops [o_ 4 (.mkfn 118 [] [(.t 2)])]) (.dfr (.t 4) [])) (.seq (.ops qSV) (.seq (.ops qSU) (.seq (.ops qST) .ret)))))
def qZu : FC := ⟨12, jOk, [.cella 2 2]⟩
abbrev jNP : Nat := 93
def qSS : LA := [Wl 8 1, Wc 9 8, Wf 10 0 9, Wl 11 10, mv 12 0, o_ 13 (.mlook .s (.nilp) false (.t 11) (.t 12)), Wc 14 13, Wf 15 0 14, Wf 16 2 15, Wl 17 16, We 18 17, Wm 19 0]
def qSR : ACode := (.seq (.ops [Wb 20 .lss 19 18]) (.seq (.cond (.t 20) .bad (.exit 0)) .bad))
def jOj : ACode := (.seq (.ops qSS) (.block 0 (.loop qSR)))
def qZt : FC := ⟨42, jOj, []⟩
abbrev jNO : Nat := 94
def qSQ : LA := [mv 10 1, mv 11 2, o_ 12 (.mlook .s (.bool false) false (.t 10) (.t 11)), mv 13 12, Wgm 14 3 13, g_ 15 (.not (.t 14)) 13, Wp 16 13 15]
def qSP : LA := [mv 17 1, mv 18 2, n_ (.mupd .s (.t 17) (.t 18) (.c (.bool true)))]
def qSO : LA := [mv 19 0, Wc 20 19, Wf 21 0 20, Wl 22 21, mv 23 2, o_ 24 (.mlook .s (.nilp) false (.t 22) (.t 23)), Wc 25 24, Wf 26 0 25, Wf 27 2 26, Wl 28 27, We 29 28, Wm 30 0]
def qSN : ACode := (.seq (.ops [Wb 31 .lss 30 29]) (.seq (.cond (.t 31) .bad (.exit 0)) .bad))
def jOi : ACode := (.seq (.seq (.ops qSQ) (.cond (.t 16) .bad .skip)) (.seq (.ops qSP) (.seq (.ops qSO) (.block 0 (.loop qSN)))))
def qZs : FC := ⟨45, jOi, []⟩
abbrev jNN : Nat := 95
def qSM : LA := [mv 5 0, o_ 6 (.call 120 [(.t 5)])]
def qSL : LA := [mv 8 4, o_ 9 (.bins .neq (.t 8) (.c (.str [])))]
def qSK : LA := [Wl 10 3, mv 11 4, o_ 12 (.bslice 9 1 1 [.str []] [(0, 1, (.t 11))]), o_ 13 (.app 9 1 16 (.t 10) (.t 12)), Ws 1 3 13]
def qSJ : LA := [Wl 14 3, mv 2 14]
def jOh : ACode := (.seq (.ops [Wn 2]) (.seq (.ops [o_ 3 (.box 151 1 (.c (.nils)))]) (.seq (.seq (.ops qSM) (.block 0 (.rngf (.t 6) [7] (.ops [mv 4 7]) (.block 1 (.seq (.ops qSL) (.cond (.t 9) (.ops qSK) .skip)))))) (.seq (.ops qSJ) .ret))))
def qZr : FC := ⟨15, jOh, [.tmp 2]⟩
abbrev jNM : Nat := 96
def qSI : LA := [o_ 1 (.box 76 5 (.t 0)), Wn 2]
def qSH : LA := [o_ 11 (.mkfn 121 [] [(.t 3), (.t 1)]), o_ 4 (.box 305 1 (.c (.nilf))), Ws 1 4 11]
def qSG : LA := [o_ 12 (.mkfn 123 [] [(.t 4)]), o_ 5 (.box 306 1 (.c (.nilf))), Ws 1 5 12]
def qSF : LA := [o_ 13 (.mkfn 124 [] [(.t 4), (.t 6), (.t 5)]), Ws 1 6 13]
def qSE : LA := [Wf 14 3 1, Wl 15 14, We 16 15, Wm 17 0]
def qSD : LA := [Wa 19 159 7 15 17, Wd 20 7 19, o_ 8 (.box 159 7 (.c (.agg [.str [], .nils, .nils, .nils, .nils, .nils, .nils]))), Ws 7 8 20]
def qSC : LA := [Wl 21 6, Wd 22 7 8, Wf 23 1 1, Wl 24 23, o_ 25 (.callv (.t 21) [(.t 22), (.t 24)])]
def qSB : LA := [Wi 26 .add 17 1, mv 17 26]
def qSA : ACode := (.seq (.ops [Wb 18 .lss 17 16]) (.seq (.cond (.t 18) .skip (.exit 0)) (.seq (.block 1 (.seq (.ops qSD) (.ops qSC))) (.ops qSB))))
def qRz : LA := [Wf 27 4 1, Wl 28 27, We 29 28, Wm 30 0]
def zXS : LA := [Wa 32 170 5 28 30, Wd 33 5 32, o_ 10 (.box 170 5 (.c (.agg [.str [], .nils, .bool false, .nils, .nils]))), Ws 5 10 33]
def zXR : LA := [Wl 34 5, Wd 35 5 10, Wf 36 1 1, Wl 37 36, o_ 38 (.callv (.t 34) [(.t 35), (.t 37)])]
def zXQ : LA := [Wi 39 .add 30 1, mv 30 39]
def zXP : ACode := (.seq (.ops [Wb 31 .lss 30 29]) (.seq (.cond (.t 31) .skip (.exit 2)) (.seq (.block 3 (.seq (.ops zXS) (.ops zXR))) (.ops zXQ))))
def zXO : LA := [Wl 40 3, o_ 41 (.call 125 [(.t 40), (.f 126)])]
def zXN : LA := [Wl 42 3, mv 2 42]
def jOg : ACode := (.seq (.ops qSI) (.seq (.ops [o_ 3 (.box 198 1 (.c (.nils)))]) (.seq (.ops qSH) (.seq (.ops qSG) (.seq (.ops [o_ 6 (.box 307 1 (.c (.nilf)))]) (.seq (.ops qSF) (.seq (.seq (.ops qSE) (.block 0 (.loop qSA))) (.seq (.seq (.ops qRz) (.block 2 (.loop zXP))) (.seq (.ops zXO) (.seq (.ops zXN) .ret))))))))))
def qZq : FC := ⟨43, jOg, [.tmp 2]⟩
abbrev jNL : Nat := 97
def qRy : LA := [mv 12 3, We 13 12, Wm 14 0]
def qRx : LA := [mv 16 14, mv 8 16]
def qRw : LA := [mv 17 3, mv 18 8, Wa 19 159 7 17 18, mv 9 19]
def qRv : LA := [mv 20 2, mv 21 9, Wc 22 21, Wf 23 0 22, Wl 24 23, o_ 25 (.bslice 9 1 2 [.str []] [(0, 1, (.t 20)), (1, 1, (.t 24))]), o_ 26 (.call 122 [(.t 25)]), mv 10 26]
def qRu : LA := [mv 27 9, Wc 28 27, Wf 29 1 28, Wl 30 29, We 31 30, Wm 32 0]
def qRt : LA := [mv 34 32, mv 11 34]
def qRs : LA := [mv 35 0, mv 36 1, mv 37 10, mv 38 9, Wc 39 38, Wf 40 1 39, Wl 41 40, mv 42 11, Wa 43 163 9 41 42, o_ 44 (.call 130 [(.t 35), (.t 36), (.t 37), (.t 43)])]
def qRr : LA := [Wi 45 .add 32 1, mv 32 45]
def qRq : ACode := (.seq (.ops [Wb 33 .lss 32 31]) (.seq (.cond (.t 33) .skip (.exit 2)) (.seq (.block 3 (.seq (.ops qRt) (.ops qRs))) (.ops qRr))))
def qRp : LA := [mv 46 0, mv 47 1, mv 48 10, mv 49 9, Wc 50 49, Wf 51 3 50, Wl 52 51, o_ 53 (.call 97 [(.t 46), (.t 47), (.t 48), (.t 52)])]
def zXM : LA := [Wi 54 .add 14 1, mv 14 54]
def zXL : ACode := (.seq (.ops [Wb 15 .lss 14 13]) (.seq (.cond (.t 15) .skip (.exit 0)) (.seq (.block 1 (.seq (.ops qRx) (.seq (.ops qRw) (.seq (.ops qRv) (.seq (.seq (.ops qRu) (.block 2 (.loop qRq))) (.ops qRp)))))) (.ops zXM))))
def jOf : ACode := (.seq (.ops qRy) (.block 0 (.loop zXL)))
def qZp : FC := ⟨55, jOf, []⟩
abbrev jNK : Nat := 99
def qRo : LA := [mv 5 0, mv 6 1, o_ 7 (.call 131 [(.t 5), (.t 6)]), Wi 8 .geq 7 0, mv 4 8]
def jOe : ACode := (.seq (.ops [Wo 4 false]) (.seq (.ops qRo) .ret))
def qZo : FC := ⟨9, jOe, [.tmp 4]⟩
abbrev jHr : Nat := 100
def qLh : LA := [mv 15 3, We 16 15, Wm 17 0]
def qLg : LA := [Wa 19 170 5 15 17, Wd 20 5 19, o_ 9 (.box 170 5 (.c (.agg [.str [], .nils, .bool false, .nils, .nils]))), Ws 5 9 20]
def qLf : LA := [mv 21 0, Wc 22 21, Wf 23 4 22, Wl 24 23, mv 25 1, Wf 26 0 9, Wl 27 26, Wd 30 5 9, o_ 28 (.bslice 9 1 2 [.str []] [(0, 1, (.t 25)), (1, 1, (.t 27))]), o_ 29 (.acall 122 [(.t 28)]), n_ (.mupd .s (.t 24) (.t 29) (.t 30))]
def qLe : LA := [Wi 31 .add 17 1, mv 17 31]
def qLd : ACode := (.seq (.ops [Wb 18 .lss 17 16]) (.seq (.cond (.t 18) .skip (.exit 0)) (.seq (.block 1 (.seq (.ops qLg) (.alts [21, 22, 23, 24, 25, 26, 27, 28, 29, 30] [qLf]))) (.ops qLe))))
def qLc : LA := [mv 32 2, We 33 32, Wm 34 0]
def qLb : LA := [Wa 36 159 7 32 34, Wd 37 7 36, o_ 11 (.box 159 7 (.c (.agg [.str [], .nils, .nils, .nils, .nils, .nils, .nils]))), Ws 7 11 37]
def qLa : LA := [mv 38 1, Wf 39 0 11, Wl 40 39, o_ 41 (.bslice 9 1 2 [.str []] [(0, 1, (.t 38)), (1, 1, (.t 40))]), o_ 42 (.call 122 [(.t 41)]), mv 12 42]
def qLZ : LA := [mv 43 0, Wc 44 43, Wf 45 3 44, Wl 46 45, mv 47 12, Wd 48 7 11, n_ (.mupd .s (.t 46) (.t 47) (.t 48))]
def qLY : LA := [Wf 49 1 11, Wl 50 49, We 51 50, Wm 52 0]
def zVo : LA := [Wa 54 163 9 50 52, Wd 55 9 54, o_ 14 (.box 163 9 (.c (.agg [.str [], .int .i32 (0), .int .u8 (0), .int .u8 (0), .str [], .int .u8 (0), .int .i64 (0), .int .u8 (0), .str []]))), Ws 9 14 55]
def zVn : LA := [Wf 56 4 14, Wl 57 56, o_ 58 (.bins .neq (.t 57) (.c (.str []))), mv 59 58, Wgm 60 0 59, g_ 61 (.nilc (.t 60)) 59, Wgf 62 5 61 59, Wgl 63 62 59, Wgf 64 4 14 59, Wgl 65 64 59, g_ 66 (.mlook .s (.nils) false (.t 63) (.t 65)) 59, Wgm 67 12 59, g_ 68 (.call 132 [(.t 66), (.t 67)]) 59, g_ 69 (.not (.t 68)) 59, Wp 70 59 69]
def zVm : LA := [mv 71 0, Wc 72 71, Wf 73 5 72, Wf 75 4 14, mv 77 0, Wc 78 77, Wf 79 5 78, Wl 80 79, Wf 81 4 14, Wl 82 81, o_ 83 (.mlook .s (.nils) false (.t 80) (.t 82)), mv 84 12, o_ 85 (.fslice 9 1 1 [.str []] [(0, 1, (.t 84))]), Wl 74 73, Wl 76 75, o_ 86 (.app 9 1 16 (.t 83) (.t 85)), n_ (.mupd .s (.t 74) (.t 76) (.t 86))]
def zVl : LA := [mv 71 0, Wc 72 71, Wf 73 5 72, Wf 75 4 14, mv 77 0, Wc 78 77, Wf 79 5 78, Wl 80 79, Wf 81 4 14, Wl 82 81, o_ 83 (.mlook .s (.nils) false (.t 80) (.t 82)), mv 84 12, o_ 85 (.fslice 9 1 1 [.str []] [(0, 1, (.t 84))]), Wl 74 73, o_ 86 (.app 9 1 16 (.t 83) (.t 85)), Wl 76 75, n_ (.mupd .s (.t 74) (.t 76) (.t 86))]
def zVk : LA := [mv 71 0, Wc 72 71, Wf 73 5 72, Wf 75 4 14, mv 77 0, Wc 78 77, Wf 79 5 78, Wl 80 79, Wf 81 4 14, Wl 82 81, o_ 83 (.mlook .s (.nils) false (.t 80) (.t 82)), mv 84 12, o_ 85 (.fslice 9 1 1 [.str []] [(0, 1, (.t 84))]), Wl 76 75, Wl 74 73, o_ 86 (.app 9 1 16 (.t 83) (.t 85)), n_ (.mupd .s (.t 74) (.t 76) (.t 86))]
def zVj : LA := [mv 71 0, Wc 72 71, Wf 73 5 72, Wf 75 4 14, mv 77 0, Wc 78 77, Wf 79 5 78, Wl 80 79, Wf 81 4 14, Wl 82 81, o_ 83 (.mlook .s (.nils) false (.t 80) (.t 82)), mv 84 12, o_ 85 (.fslice 9 1 1 [.str []] [(0, 1, (.t 84))]), Wl 76 75, o_ 86 (.app 9 1 16 (.t 83) (.t 85)), Wl 74 73, n_ (.mupd .s (.t 74) (.t 76) (.t 86))]
def zVi : LA := [mv 71 0, Wc 72 71, Wf 73 5 72, Wf 75 4 14, mv 77 0, Wc 78 77, Wf 79 5 78, Wl 80 79, Wf 81 4 14, Wl 82 81, o_ 83 (.mlook .s (.nils) false (.t 80) (.t 82)), mv 84 12, o_ 85 (.fslice 9 1 1 [.str []] [(0, 1, (.t 84))]), o_ 86 (.app 9 1 16 (.t 83) (.t 85)), Wl 74 73, Wl 76 75, n_ (.mupd .s (.t 74) (.t 76) (.t 86))]
def zVh : LA := [Wi 87 .add 52 1, mv 52 87]
def zVg : ACode := (.seq (.ops [Wb 53 .lss 52 51]) (.seq (.cond (.t 53) .skip (.exit 4)) (.seq (.block 5 (.seq (.ops zVo) (.seq (.alts [56, 57, 58, 59, 60, 61, 62, 63, 64, 65, 66, 67, 68, 69, 70] [zVn]) (.cond (.t 70) (.alts [71, 72, 73, 74, 75, 76, 77, 78, 79, 80, 81, 82, 83, 84, 85, 86] [zVm, zVl, zVk, zVj, zVi]) .skip)))) (.ops zVh))))
def zVf : LA := [mv 88 0, mv 89 12, Wf 90 3 11, Wl 91 90, Wf 92 4 11, Wl 93 92, o_ 94 (.call 100 [(.t 88), (.t 89), (.t 91), (.t 93)])]
def zVe : LA := [Wi 95 .add 34 1, mv 34 95]
def zVd : ACode := (.seq (.ops [Wb 35 .lss 34 33]) (.seq (.cond (.t 35) .skip (.exit 2)) (.seq (.block 3 (.seq (.ops qLb) (.seq (.ops qLa) (.seq (.alts [43, 44, 45, 46, 47, 48] [qLZ]) (.seq (.seq (.ops qLY) (.block 4 (.loop zVg))) (.ops zVf)))))) (.ops zVe))))
def jLL : ACode := (.seq (.seq (.ops qLh) (.block 0 (.loop qLd))) (.seq (.ops qLc) (.block 2 (.loop zVd))))
def qPV : FC := ⟨96, jLL, []⟩
abbrev jHq : Nat := 101
def qLX : LA := [mv 3 0, We 4 3, mv 2 4]
def qLW : LA := [mv 5 0, mv 6 2, mv 7 2, o_ 8 (.conv .u64 (.t 7)), o_ 9 (.call 134 [(.t 8)]), o_ 10 (.call 133 [(.t 5), (i_ 0), (.t 6), (.t 9)])]
def jLK : ACode := (.seq (.ops qLX) (.ops qLW))
def qPU : FC := ⟨11, jLK, []⟩
abbrev jHp : Nat := 102
def qLV : LA := [o_ 2 (.mov (.c (.int .i32 0))), o_ 3 (.mov (.c (.int .u8 0)))]
def qLU : LA := [mv 7 0, Wc 8 7, Wf 9 1 8, Wl 10 9, mv 4 10]
def qLT : LA := [mv 11 0, o_ 12 (.call 86 [(.t 11)]), mv 5 12]
def qLS : LA := [mv 13 0, Wc 14 13, Wf 15 3 14, Wl 16 15, Wi 17 .neq 16 0]
def qLR : LA := [mv 18 5, o_ 19 (.bini .and (.t 18) (.c (.int .u64 7))), o_ 20 (.conv .u8 (.t 19)), mv 6 20]
def qLQ : LA := [mv 21 5, o_ 22 (.bini .gtr (.t 21) (.c (.int .u64 4294967295))), mv 23 22, Whm 24 5 23, Wh 25 (.bini .shr (.t 24) (.c (.int .u64 3))) 23, Wh 26 (.bini .eql (.t 25) (.c (.int .u64 0))) 23, Wq 27 23 26, mv 28 27, Whm 29 6 28, Wh 30 (.bini .gtr (.t 29) (.c (.int .u8 5))) 28, Wq 31 28 30]
def qLP : LA := [mv 39 5, o_ 40 (.bini .shr (.t 39) (.c (.int .u64 3))), o_ 41 (.conv .i32 (.t 40)), mv 42 6, mv 2 41, mv 3 42]
def jLJ : ACode := (.seq (.ops qLV) (.seq (.ops qLU) (.seq (.ops qLT) (.seq (.seq (.ops qLS) (.cond (.t 17) .bad .skip)) (.seq (.ops qLR) (.seq (.seq (.ops qLQ) (.cond (.t 31) .bad .skip)) (.seq (.ops qLP) .ret)))))))
def qPT : FC := ⟨43, jLJ, [.tmp 2, .tmp 3]⟩
abbrev jHo : Nat := 103
def qLO : LA := [mv 10 0, Wc 11 10, Wf 12 1 11, Wl 13 12, mv 9 13]
def qLN : LA := [mv 15 1, o_ 16 (.bini .lss (.t 15) (.c (.int .i32 1))), mv 17 16, Whm 18 1 17, Wh 19 (.bini .gtr (.t 18) (.c (.int .i32 536870911))) 17, Wq 20 17 19, mv 21 20, Whm 22 2 21, Wh 23 (.bini .gtr (.t 22) (.c (.int .u8 5))) 21, Wq 24 21 23, mv 14 24]
def qLM : LA := [mv 32 2, o_ 33 (.bini .eql (.t 32) (.c (.int .u8 4))), mv 31 33]
def qLL : LA := [mv 40 0, Wc 41 40, Wf 42 3 41, Wl 43 42, Wi 44 .eql 43 0]
def qLK : LA := [mv 45 0, mv 46 1, mv 47 2, mv 48 3, o_ 49 (.call 135 [(.t 45), (.t 46), (.t 47), (.t 48)])]
def qLJ : LA := [mv 50 0, Wc 51 50, Wf 52 3 51, Wl 53 52, Wi 54 .neq 53 0]
def qLI : LA := [mv 55 0, mv 56 9, Wc 57 55, Wf 58 1 57, Ws 1 58 56]
def qLH : LA := [mv 59 0, Wc 60 59, Wf 61 0 60, Wl 62 61, mv 63 9, mv 64 0, Wc 65 64, Wf 66 1 65, Wl 67 66, o_ 68 (.slcl 5 1 (.t 62) (some (.t 63)) (some (.t 67)) none), o_ 69 (.call 80 [(.t 68)]), mv 8 69]
def jLI : ACode := (.seq (.ops [Wn 8]) (.seq (.ops qLO) (.seq (.block 0 (.seq (.ops qLN) (.cond (.t 14) .bad (.seq (.ops qLM) (.cond (.t 31) .bad .skip))))) (.seq (.seq (.ops qLL) (.cond (.t 44) (.ops qLK) .bad)) (.seq (.seq (.ops qLJ) (.cond (.t 54) (.seq (.ops qLI) (.seq (.ops [Wn 8]) .ret)) .skip)) (.seq (.alts [59, 60, 61, 62, 63, 64, 65, 66, 67, 68, 69, 8] [qLH]) .ret))))))
def qPS : FC := ⟨70, jLI, [.tmp 8]⟩
abbrev jHn : Nat := 104
def qLG : LA := [mv 3 0, Wc 4 3, Wf 5 1 4, Wl 6 5, mv 2 6]
def jLH : ACode := (.seq (.ops [Wm 2 0]) (.seq (.ops qLG) .ret))
def qPR : FC := ⟨7, jLH, [.tmp 2]⟩
abbrev jHm : Nat := 105
def qLF : LA := [o_ 3 (.box 86 3 (.t 1)), o_ 4 (.box 86 3 (.c (.agg [.str [], .nils, .nils]))), Wm 5 0]
def qLE : LA := [mv 9 0, Wd 10 3 3, o_ 11 (.call 136 [(.t 9), (.t 10)]), mv 8 11, Wx 12 0 8, Wx 13 1 8, mv 6 12, mv 7 13]
def qLD : LA := [mv 14 6, Wi 15 .neq 14 0]
def qLC : LA := [mv 18 0, Wd 19 3 3, o_ 20 (.call 137 [(.t 18), (.t 19)]), Ws 3 4 20, Wm 5 0]
def jLG : ACode := (.seq (.ops qLF) (.seq (.seq (.ops qLE) (.seq (.ops qLD) (.cond (.t 15) .bad .skip))) (.seq (.ops qLC) .ret)))
def qPQ : FC := ⟨21, jLG, [.cella 4 3, .tmp 5]⟩
abbrev jHl : Nat := 106
def jLF : ACode := (.seq (.recv (some 6) []) (.block 0 (.seq (.ops [o_ 8 (.isnil .ic false (.t 6))]) (.cond (.t 8) (.ops [mv 3 6]) .bad))))
def qPP : FC := ⟨17, jLF, []⟩
abbrev jHk : Nat := 107
def qLB : LA := [o_ 1 (.build [.nilf, .nilf] [(0, 1, (.f 138)), (1, 1, (.f 139))]), o_ 2 (.build [.nilf, .nilf] [(0, 1, (.f 140)), (1, 1, (.f 142))]), o_ 3 (.build [.nilf, .nilf] [(0, 1, (.f 143)), (1, 1, (.f 144))]), o_ 4 (.bslice 328 2 3 [.nilf, .nilf] [(0, 2, (.t 1)), (2, 2, (.t 2)), (4, 2, (.t 3))]), mv 0 4]
def jLE : ACode := (.seq (.ops [Wn 0]) (.seq (.ops qLB) .ret))
def qPO : FC := ⟨5, jLE, [.tmp 0]⟩
abbrev jHj : Nat := 108
def qLA : LA := [o_ 3 (.box 86 3 (.t 1)), o_ 4 (.mov (.c (.nilp)))]
def qKz : LA := [mv 16 0, Wf 17 0 3, Wl 18 17, o_ 19 (.call 145 [(.t 16), (.t 18), (i_ 0)]), mv 5 19]
def qKy : LA := [mv 20 5, Wf 21 2 3, Wl 22 21, o_ 23 (.call 80 [(.t 22)]), Wc 24 20, Wf 25 2 24, Ws 1 25 23]
def qKx : LA := [Wf 26 1 3, Wl 27 26, We 28 27, Wm 29 0]
def qKw : LA := [Wa 31 91 3 27 29, Wd 32 3 31, o_ 7 (.box 91 3 (.c (.agg [.int .i32 (0), .nils, .nils]))), Ws 3 7 32]
def qKv : LA := [mv 34 5, Wc 35 34, Wf 36 0 35, Wl 37 36, Wf 38 0 7, Wl 39 38, o_ 40 (.call 146 [(.t 37), (.t 39)]), mv 33 40, Wx 41 0 33, Wx 42 1 33, o_ 8 (.box 204 9 (.c (.agg [.int .i32 (0), .str [], .str [], .int .u8 (0), .int .u8 (0), .int .u8 (0), .bool false, .int .i64 (0), .str []]))), Ws 9 8 41, mv 9 42]
def qKu : LA := [mv 34 5, Wc 35 34, Wf 36 0 35, Wl 37 36, Wf 38 0 7, Wl 39 38, o_ 8 (.box 204 9 (.c (.agg [.int .i32 (0), .str [], .str [], .int .u8 (0), .int .u8 (0), .int .u8 (0), .bool false, .int .i64 (0), .str []]))), o_ 40 (.call 146 [(.t 37), (.t 39)]), mv 33 40, Wx 41 0 33, Wx 42 1 33, Ws 9 8 41, mv 9 42]
def qKt : LA := [mv 43 5, Wd 44 9 8, o_ 45 (.call 147 [(.t 43), (.t 44)]), mv 10 45]
def qKs : LA := [mv 46 10, Wf 47 1 7, Wl 48 47, o_ 49 (.call 148 [(.t 48)]), Wc 50 46, Wf 51 9 50, Ws 1 51 49]
def qKr : LA := [Wf 52 1 7, Wl 53 52, We 54 53, Wm 55 0]
def zVc : ACode := (.seq (.ops [Wb 56 .lss 55 54]) (.seq (.cond (.t 56) .bad (.exit 2)) .bad))
def zVb : LA := [Wf 71 2 7, Wl 72 71, We 73 72, Wm 74 0]
def zVa : LA := [Wa 76 95 3 72 74, Wd 77 3 76, o_ 14 (.box 95 3 (.c (.agg [.int .u64 (0), .str [], .nils]))), Ws 3 14 77]
def zVZ : LA := [Wd 78 3 14, o_ 79 (.build [.int .u64 (0), .str [], .nils, .nilp] [(0, 3, (.t 78))]), o_ 15 (.box 346 4 (.c (.agg [.int .u64 (0), .str [], .nils, .nilp]))), Ws 4 15 79]
def zVY : LA := [Wf 80 2 14, Wl 81 80, We 82 81, Wi 83 .gtr 82 0]
def zVX : LA := [mv 91 10, mv 92 10, Wc 93 92, Wf 94 10 93, Wl 95 94, Wd 96 4 15, o_ 97 (.bslice 346 4 1 [.int .u64 (0), .str [], .nils, .nilp] [(0, 4, (.t 96))]), o_ 98 (.app 346 4 56 (.t 95) (.t 97)), Wc 99 91, Wf 100 10 99, Ws 1 100 98]
def zVW : LA := [Wi 101 .add 74 1, mv 74 101]
def zVV : ACode := (.seq (.ops [Wb 75 .lss 74 73]) (.seq (.cond (.t 75) .skip (.exit 4)) (.seq (.block 5 (.seq (.ops zVa) (.seq (.ops zVZ) (.seq (.seq (.ops zVY) (.cond (.t 83) .bad .skip)) (.alts [91, 92, 93, 94, 95, 96, 97, 98, 99, 100] [zVX]))))) (.ops zVW))))
def zVU : LA := [Wi 102 .add 29 1, mv 29 102]
def zVT : ACode := (.seq (.ops [Wb 30 .lss 29 28]) (.seq (.cond (.t 30) .skip (.exit 0)) (.seq (.block 1 (.seq (.ops qKw) (.seq (.alts [34, 35, 36, 37, 38, 39, 40, 33, 41, 42, 8, 9] [qKv, qKu]) (.seq (.ops qKt) (.seq (.ops qKs) (.seq (.seq (.ops qKr) (.block 2 (.loop zVc))) (.seq (.ops zVb) (.block 4 (.loop zVV))))))))) (.ops zVU))))
def zVS : LA := [mv 103 5, mv 4 103]
def jLD : ACode := (.seq (.ops qLA) (.seq (.ops qKz) (.seq (.ops qKy) (.seq (.seq (.ops qKx) (.block 0 (.loop zVT))) (.seq (.ops zVS) .ret)))))
def qPN : FC := ⟨104, jLD, [.tmp 4]⟩
abbrev jHi : Nat := 109
def qKq : LA := [mv 14 2, o_ 15 (.call 149 [(.t 14)]), Wi 16 .gtr 15 0]
def qKp : LA := [mv 18 2, o_ 19 (.call 150 [(.t 18)]), mv 17 19, Wx 20 0 17, Wx 21 1 17, Wx 22 2 17, o_ 9 (.box 220 1 (.c (.int .u8 0))), mv 8 20, Ws 1 9 21, mv 10 22]
def qKo : LA := [mv 24 1, Wc 25 24, Wf 26 0 25, Wl 27 26, mv 28 8, o_ 29 (.call 146 [(.t 27), (.t 28)]), mv 23 29, Wx 30 0 23, Wx 31 1 23, o_ 11 (.box 204 9 (.c (.agg [.int .i32 (0), .str [], .str [], .int .u8 (0), .int .u8 (0), .int .u8 (0), .bool false, .int .i64 (0), .str []]))), Ws 9 11 30, mv 12 31]
def qKn : LA := [mv 33 0, Wc 34 33, Wf 35 2 34, Wl 36 35, o_ 37 (.mkfn 152 [] [(.t 11), (.t 9)]), o_ 38 (.call 151 [(.t 36), (.t 37)]), mv 13 38]
def qKm : LA := [mv 39 13, Wi 40 .geq 39 0]
def qKl : LA := [mv 41 0, Wc 42 41, Wf 43 2 42, Wl 44 43, mv 45 13, Wa 46 328 2 44 45, Wf 47 1 46, Wl 48 47, mv 49 0, mv 50 1, Wd 51 9 11, mv 52 2, mv 53 3, mv 54 10, o_ 55 (.callv (.t 48) [(.t 49), (.t 50), (.t 51), (.t 52), (.t 53), (.t 54)])]
def qKk : ACode := (.seq (.seq (.ops qKq) (.cond (.t 16) .skip (.exit 0))) (.block 1 (.seq (.ops qKp) (.seq (.ops qKo) (.seq (.ops [Wm 13 (-1)]) (.seq (.seq (.ops [mv 32 12]) (.cond (.t 32) (.ops qKn) .bad)) (.seq (.seq (.ops qKm) (.cond (.t 40) (.seq (.alts [41, 42, 43, 44, 45, 46, 47, 48, 49, 50, 51, 52, 53, 54, 55] [qKl]) (.exit 1)) .bad)) .bad)))))))
def jLC : ACode := (.block 0 (.loop qKk))
def qPM : FC := ⟨80, jLC, []⟩
abbrev jHh : Nat := 110
def qKh : LA := [mv 13 0, Wc 14 13, Wf 15 0 14, Wl 16 15, mv 18 0, Wc 19 18, Wf 20 2 19, o_ 17 (.call 154 [(.t 16)]), Wl 21 20, o_ 22 (.build [.str [], .nils, .nils] [(0, 1, (.t 17)), (2, 1, (.t 21))]), o_ 3 (.box 86 3 (.c (.agg [.str [], .nils, .nils]))), Ws 3 3 22]
def qKg : LA := [mv 13 0, Wc 14 13, Wf 15 0 14, Wl 16 15, mv 18 0, Wc 19 18, Wf 20 2 19, Wl 21 20, o_ 17 (.call 154 [(.t 16)]), o_ 22 (.build [.str [], .nils, .nils] [(0, 1, (.t 17)), (2, 1, (.t 21))]), o_ 3 (.box 86 3 (.c (.agg [.str [], .nils, .nils]))), Ws 3 3 22]
def qKf : LA := [mv 13 0, Wc 14 13, Wf 15 0 14, Wl 16 15, mv 18 0, Wc 19 18, Wf 20 2 19, Wl 21 20, o_ 3 (.box 86 3 (.c (.agg [.str [], .nils, .nils]))), o_ 17 (.call 154 [(.t 16)]), o_ 22 (.build [.str [], .nils, .nils] [(0, 1, (.t 17)), (2, 1, (.t 21))]), Ws 3 3 22]
def qKe : LA := [mv 13 0, Wc 14 13, Wf 15 0 14, Wl 16 15, mv 18 0, Wc 19 18, Wf 20 2 19, o_ 3 (.box 86 3 (.c (.agg [.str [], .nils, .nils]))), o_ 17 (.call 154 [(.t 16)]), Wl 21 20, o_ 22 (.build [.str [], .nils, .nils] [(0, 1, (.t 17)), (2, 1, (.t 21))]), Ws 3 3 22]
def qKd : LA := [mv 13 0, Wc 14 13, Wf 15 0 14, Wl 16 15, mv 18 0, Wc 19 18, Wf 20 2 19, o_ 3 (.box 86 3 (.c (.agg [.str [], .nils, .nils]))), Wl 21 20, o_ 17 (.call 154 [(.t 16)]), o_ 22 (.build [.str [], .nils, .nils] [(0, 1, (.t 17)), (2, 1, (.t 21))]), Ws 3 3 22]
def qKc : LA := [mv 23 0, Wc 24 23, Wf 25 1 24, Wl 26 25, o_ 27 (.call 156 [(.t 26)]), o_ 28 (.call 155 [(.t 27)]), We 29 28, Wm 30 0]
def qKb : LA := [Wa 32 21 1 28 30, Wl 33 32, mv 5 33]
def qKa : LA := [mv 34 0, Wc 35 34, Wf 36 1 35, Wl 37 36, mv 38 5, o_ 39 (.mlook .i (.nilp) false (.t 37) (.t 38)), o_ 6 (.box 336 1 (.c (.nilp))), Ws 1 6 39]
def qKZ : LA := [Wl 40 6, Wc 41 40, Wf 42 10 41, Wl 43 42, We 44 43, o_ 45 (.mkslice 3 1 8 [.int .i64 0] (.t 44) (.t 44)), mv 7 45]
def qKY : LA := [mv 46 7, We 47 46, Wm 48 0]
def zVR : LA := [mv 50 48, mv 8 50]
def zVQ : LA := [mv 51 7, mv 52 8, mv 53 8, Wa 54 3 1 51 52, Ws 1 54 53]
def zVP : LA := [Wi 55 .add 48 1, mv 48 55]
def zVO : ACode := (.seq (.ops [Wb 49 .lss 48 47]) (.seq (.cond (.t 49) .skip (.exit 2)) (.seq (.block 3 (.seq (.ops zVR) (.ops zVQ))) (.ops zVP))))
def zVN : LA := [Wl 56 6, Wc 57 56, Wf 58 0 57, Wf 59 3 58, Wl 60 59, o_ 61 (.bini .eql (.t 60) (.c (.int .u8 4)))]
def zVM : LA := [mv 65 5, o_ 66 (.build [.int .i32 (0), .nils, .nils] [(0, 1, (.t 65))]), o_ 9 (.box 91 3 (.c (.agg [.int .i32 (0), .nils, .nils]))), Ws 3 9 66]
def zVL : LA := [mv 67 7, We 68 67, Wm 69 0]
def zVK : LA := [Wa 71 3 1 67 69, Wl 72 71, mv 11 72]
def zVJ : LA := [Wl 73 6, Wc 74 73, Wf 75 10 74, Wl 76 75, mv 77 11, Wa 78 346 4 76 77, Wf 79 0 78, Wd 80 3 79, o_ 12 (.box 95 3 (.c (.agg [.int .u64 (0), .str [], .nils]))), Ws 3 12 80]
def zVI : LA := [Wl 81 6, Wc 82 81, Wf 83 10 82, Wl 84 83, mv 85 11, Wa 86 346 4 84 85, Wf 87 3 86, Wl 88 87, o_ 89 (.isnil .pt true (.t 88))]
def zVH : LA := [Wf 101 2 9, Wl 102 101, Wd 103 3 12, o_ 104 (.bslice 95 3 1 [.int .u64 (0), .str [], .nils] [(0, 3, (.t 103))]), o_ 105 (.app 95 3 48 (.t 102) (.t 104)), Wf 106 2 9, Ws 1 106 105]
def zVG : LA := [Wl 107 6, Wc 108 107, Wf 109 0 108, Wf 110 3 109, Wl 111 110, o_ 112 (.bini .eql (.t 111) (.c (.int .u8 4)))]
def zVF : LA := [Wi 125 .add 69 1, mv 69 125]
def zVE : ACode := (.seq (.ops [Wb 70 .lss 69 68]) (.seq (.cond (.t 70) .skip (.exit 4)) (.seq (.block 5 (.seq (.ops zVK) (.seq (.ops zVJ) (.seq (.seq (.ops zVI) (.cond (.t 89) .bad .skip)) (.seq (.ops zVH) (.seq (.ops zVG) (.cond (.t 112) .bad .skip))))))) (.ops zVF))))
def zVD : LA := [Wf 126 2 9, Wl 127 126, We 128 127, Wi 129 .eql 128 0, mv 130 129, Wh 131 (.ld1 (.t 6)) 130, Wh 132 (.nilc (.t 131)) 130, Wh 133 (.faddr 0 (.t 132)) 130, Wh 134 (.lda 9 (.t 133)) 130, Wh 135 (.call 160 [(.t 134)]) 130, Whm 136 135 130, Wgf 137 2 9 136, Wgl 138 137 136, g_ 139 (.iaddr 95 3 (.t 138) (i_ 0)) 136, Wgf 140 0 139 136, Wgl 141 140 136, g_ 142 (.bini .eql (.t 141) (.c (.int .u64 0))) 136, Wh 143 (.pick (.t 136) (.t 142) (.c (.bool false))) 130, Whm 144 143 130, Wgf 145 2 9 144, Wgl 146 145 144, g_ 147 (.iaddr 95 3 (.t 146) (i_ 0)) 144, Wgf 148 1 147 144, Wgl 149 148 144, g_ 150 (.bins .eql (.t 149) (.c (.str []))) 144, Wh 151 (.pick (.t 144) (.t 150) (.c (.bool false))) 130, Wq 152 130 151]
def zVC : LA := [Wf 153 1 3, Wl 154 153, Wd 155 3 9, o_ 156 (.bslice 91 3 1 [.int .i32 (0), .nils, .nils] [(0, 3, (.t 155))]), o_ 157 (.app 91 3 56 (.t 154) (.t 156)), Wf 158 1 3, Ws 1 158 157]
def zVB : LA := [Wi 159 .add 30 1, mv 30 159]
def zVA : ACode := (.seq (.ops [Wb 31 .lss 30 29]) (.seq (.cond (.t 31) .skip (.exit 0)) (.seq (.block 1 (.seq (.ops qKb) (.seq (.ops qKa) (.seq (.ops qKZ) (.seq (.seq (.ops qKY) (.block 2 (.loop zVO))) (.seq (.seq (.ops zVN) (.cond (.t 61) .bad .skip)) (.seq (.ops zVM) (.seq (.seq (.ops zVL) (.block 4 (.loop zVE))) (.seq (.seq (.ops zVD) (.cond (.t 152) .bad .skip)) (.ops zVC)))))))))) (.ops zVB))))
def zUz : LA := [Wd 160 3 3, Ws 3 2 160]
def jLB : ACode := (.seq (.ops [o_ 2 (.box 86 3 (.c (.agg [.str [], .nils, .nils])))]) (.seq (.alts [13, 14, 15, 16, 17, 18, 19, 20, 21, 22, 3] [qKh, qKg, qKf, qKe, qKd]) (.seq (.seq (.ops qKc) (.block 0 (.loop zVA))) (.seq (.ops zUz) .ret))))
def qPL : FC := ⟨161, jLB, [.cella 2 3]⟩
abbrev jHg : Nat := 112
def qKX : LA := [mv 3 0, o_ 4 (.bini .geq (.t 3) (.c (.int .u64 4294967296)))]
def qKW : LA := [mv 7 0, o_ 8 (.bini .geq (.t 7) (.c (.int .u64 65536)))]
def qKV : LA := [mv 13 0, o_ 14 (.bini .geq (.t 13) (.c (.int .u64 256)))]
def qKU : LA := [mv 19 2, mv 20 0, o_ 21 (.conv .u8 (.t 20)), o_ 22 (.idxs (.c (.str [0, 1, 2, 2, 3, 3, 3, 3, 4, 4, 4, 4, 4, 4, 4, 4, 5, 5, 5, 5, 5, 5, 5, 5, 5, 5, 5, 5, 5, 5, 5, 5, 6, 6, 6, 6, 6, 6, 6, 6, 6, 6, 6, 6, 6, 6, 6, 6, 6, 6, 6, 6, 6, 6, 6, 6, 6, 6, 6, 6, 6, 6, 6, 6, 7, 7, 7, 7, 7, 7, 7, 7, 7, 7, 7, 7, 7, 7, 7, 7, 7, 7, 7, 7, 7, 7, 7, 7, 7, 7, 7, 7, 7, 7, 7, 7, 7, 7, 7, 7, 7, 7, 7, 7, 7, 7, 7, 7, 7, 7, 7, 7, 7, 7, 7, 7, 7, 7, 7, 7, 7, 7, 7, 7, 7, 7, 7, 7, 8, 8, 8, 8, 8, 8, 8, 8, 8, 8, 8, 8, 8, 8, 8, 8, 8, 8, 8, 8, 8, 8, 8, 8, 8, 8, 8, 8, 8, 8, 8, 8, 8, 8, 8, 8, 8, 8, 8, 8, 8, 8, 8, 8, 8, 8, 8, 8, 8, 8, 8, 8, 8, 8, 8, 8, 8, 8, 8, 8, 8, 8, 8, 8, 8, 8, 8, 8, 8, 8, 8, 8, 8, 8, 8, 8, 8, 8, 8, 8, 8, 8, 8, 8, 8, 8, 8, 8, 8, 8, 8, 8, 8, 8, 8, 8, 8, 8, 8, 8, 8, 8, 8, 8, 8, 8, 8, 8, 8, 8, 8, 8, 8, 8, 8, 8, 8, 8, 8, 8, 8, 8, 8, 8, 8, 8, 8, 8])) (.t 21)), o_ 23 (.conv .i64 (.t 22)), Wb 24 .add 19 23, mv 2 24]
def jLA : ACode := (.seq (.ops [Wm 2 0]) (.seq (.seq (.ops qKX) (.cond (.t 4) .bad .skip)) (.seq (.seq (.ops qKW) (.cond (.t 8) .bad .skip)) (.seq (.seq (.ops qKV) (.cond (.t 14) .bad .skip)) (.seq (.ops qKU) .ret)))))
def qPK : FC := ⟨25, jLA, [.tmp 2]⟩
abbrev jHf : Nat := 113
def qKT : LA := [mv 6 0, Wc 7 6, Wf 8 3 7, Wl 9 8, Wi 10 .eql 9 0]
def qKS : LA := [mv 11 0, mv 12 0, mv 13 1, mv 14 2, Wc 15 11, Wf 16 3 15, Ws 1 16 13, Wc 17 12, Wf 18 4 17, Ws 1 18 14]
def jKz : ACode := (.seq (.ops qKT) (.cond (.t 10) (.ops qKS) .bad))
def qPJ : FC := ⟨19, jKz, []⟩
abbrev jHe : Nat := 114
def qKR : LA := [mv 3 0, o_ 4 (.isnilu false (.t 3))]
def jKy : ACode := (.seq (.ops [Wn 2]) (.seq (.seq (.ops qKR) (.cond (.t 4) (.seq (.ops [Wn 2]) .ret) .bad)) .bad))
def qPI : FC := ⟨8, jKy, [.tmp 2]⟩
abbrev jHd : Nat := 115
def qKQ : LA := [Wn 4, Wn 5]
def qKP : LA := [mv 12 0, We 13 12, Wm 14 0]
def qKO : LA := [Wa 16 159 7 12 14, Wd 17 7 16, o_ 8 (.box 159 7 (.c (.agg [.str [], .nils, .nils, .nils, .nils, .nils, .nils]))), Ws 7 8 17]
def qKN : LA := [mv 18 6, Wd 19 7 8, o_ 20 (.call 163 [(.t 19)]), o_ 21 (.bslice 159 7 1 [.str [], .nils, .nils, .nils, .nils, .nils, .nils] [(0, 7, (.t 20))]), o_ 22 (.app 159 7 160 (.t 18) (.t 21)), mv 6 22]
def qKM : LA := [Wi 23 .add 14 1, mv 14 23]
def qKL : ACode := (.seq (.ops [Wb 15 .lss 14 13]) (.seq (.cond (.t 15) .skip (.exit 0)) (.seq (.block 1 (.seq (.ops qKO) (.ops qKN))) (.ops qKM))))
def qKK : LA := [mv 24 1, We 25 24, Wm 26 0]
def qKJ : LA := [Wa 28 170 5 24 26, Wd 29 5 28, o_ 11 (.box 170 5 (.c (.agg [.str [], .nils, .bool false, .nils, .nils]))), Ws 5 11 29]
def qKI : LA := [mv 30 9, Wd 31 5 11, o_ 32 (.call 164 [(.t 31)]), o_ 33 (.bslice 170 5 1 [.str [], .nils, .bool false, .nils, .nils] [(0, 5, (.t 32))]), o_ 34 (.app 170 5 96 (.t 30) (.t 33)), mv 9 34]
def qKH : LA := [Wi 35 .add 26 1, mv 26 35]
def zUy : ACode := (.seq (.ops [Wb 27 .lss 26 25]) (.seq (.cond (.t 27) .skip (.exit 2)) (.seq (.block 3 (.seq (.ops qKJ) (.ops qKI))) (.ops qKH))))
def zUx : LA := [mv 36 6, mv 37 9, mv 4 36, mv 5 37]
def jKx : ACode := (.seq (.ops qKQ) (.seq (.ops [Wn 6]) (.seq (.seq (.ops qKP) (.block 0 (.loop qKL))) (.seq (.ops [Wn 9]) (.seq (.seq (.ops qKK) (.block 2 (.loop zUy))) (.seq (.ops zUx) .ret))))))
def qPH : FC := ⟨38, jKx, [.tmp 4, .tmp 5]⟩
abbrev jHc : Nat := 116
def qKG : LA := [mv 4 0, o_ 5 (.call 165 [(.t 4)]), mv 3 5]
def qKF : LA := [mv 6 3, o_ 7 (.call 101 [(.t 6)])]
def qKE : LA := [mv 8 3, mv 2 8]
def jKw : ACode := (.seq (.ops [Wn 2]) (.seq (.ops qKG) (.seq (.ops qKF) (.seq (.ops qKE) .ret))))
def qPG : FC := ⟨9, jKw, [.tmp 2]⟩
abbrev jHb : Nat := 117
def qKD : LA := [o_ 1 (.box 146 1 (.t 0)), o_ 2 (.mov (.c (.nilf)))]
def qKC : LA := [o_ 3 (.mkfn 166 [] [(.t 1)]), mv 2 3]
def jKv : ACode := (.seq (.ops qKD) (.seq (.ops qKC) .ret))
def qPF : FC := ⟨4, jKv, [.tmp 2]⟩
abbrev jHa : Nat := 118
def jKu : ACode := (.seq (.recv (some 4) []) (.block 0 (.seq (.ops [o_ 6 (.isnil .ic false (.t 4))]) (.cond (.t 6) (.ops [mv 1 4]) .bad))))
def qPE : FC := ⟨12, jKu, []⟩
abbrev jHZ : Nat := 119
def qKB : LA := [Wf 11 0 3, Wl 12 11, Wf 14 0 3, Wl 15 14, o_ 13 (.acall 168 [(.t 12)]), o_ 16 (.acall 167 [(.t 13), (i_ 60), (.t 15)])]
def qKA : LA := [Wf 17 1 3, Wl 18 17, o_ 19 (.bins .eql (.t 18) (.c (.str []))), mv 20 19, Wh 21 (.faddr 1 (.t 3)) 20, Wh 22 (.ld1 (.t 21)) 20, Wf 25 1 3, Wl 26 25, Wh 23 (.acall 169 [(.t 22)]) 20, Wq 24 20 23, o_ 27 (.acall 167 [(.t 24), (i_ 60), (.t 26)])]
def qJz : LA := [Wf 28 2 3, Wl 29 28, We 30 29, Wi 31 .leq 30 256, Wf 32 0 3, Wl 33 32, o_ 34 (.call 167 [(.t 31), (i_ 68), (.t 33)])]
def qJy : LA := [o_ 35 (.mkmap), mv 4 35]
def qJx : LA := [Wf 36 2 3, Wl 37 36, We 38 37, Wm 39 0]
def qJw : ACode := (.seq (.ops [Wb 40 .lss 39 38]) (.seq (.cond (.t 40) .bad (.exit 0)) .bad))
def qJv : LA := [Wf 63 3 3, Wl 64 63, We 65 64, Wm 66 0]
def qJu : LA := [Wa 68 159 7 64 66, Wd 69 7 68, o_ 8 (.box 159 7 (.c (.agg [.str [], .nils, .nils, .nils, .nils, .nils, .nils]))), Ws 7 8 69]
def qJt : LA := [mv 70 0, Wd 71 7 8, Wf 72 1 3, Wl 73 72, o_ 74 (.call 170 [(.t 70), (.t 71), (.t 73), (i_ 0)])]
def qJs : LA := [Wi 75 .add 66 1, mv 66 75]
def zUw : ACode := (.seq (.ops [Wb 67 .lss 66 65]) (.seq (.cond (.t 67) .skip (.exit 2)) (.seq (.block 3 (.seq (.ops qJu) (.ops qJt))) (.ops qJs))))
def zUv : LA := [Wf 76 4 3, Wl 77 76, We 78 77, Wm 79 0]
def zUu : LA := [Wa 81 170 5 77 79, Wd 82 5 81, o_ 10 (.box 170 5 (.c (.agg [.str [], .nils, .bool false, .nils, .nils]))), Ws 5 10 82]
def zUt : LA := [mv 83 0, Wd 84 5 10, Wf 85 1 3, Wl 86 85, o_ 87 (.call 171 [(.t 83), (.t 84), (.t 86)])]
def zUs : LA := [Wi 88 .add 79 1, mv 79 88]
def zUr : ACode := (.seq (.ops [Wb 80 .lss 79 78]) (.seq (.cond (.t 80) .skip (.exit 4)) (.seq (.block 5 (.seq (.ops zUu) (.ops zUt))) (.ops zUs))))
def jKt : ACode := (.seq (.ops [o_ 3 (.box 76 5 (.t 1))]) (.seq (.alts [11, 12, 13, 14, 15, 16] [qKB]) (.seq (.alts [17, 18, 19, 20, 21, 22, 23, 24, 25, 26, 27] [qKA]) (.seq (.ops qJz) (.seq (.ops qJy) (.seq (.seq (.ops qJx) (.block 0 (.loop qJw))) (.seq (.seq (.ops qJv) (.block 2 (.loop zUw))) (.seq (.ops zUv) (.block 4 (.loop zUr))))))))))
def qPD : FC := ⟨89, jKt, []⟩
abbrev jHY : Nat := 120
def qJq : LA := [o_ 1 (.box 9 1 (.t 0)), o_ 2 (.mov (.c (.nilf)))]
def qJp : LA := [o_ 3 (.mkfn 172 [] [(.t 1)]), mv 2 3]
def jKs : ACode := (.seq (.ops qJq) (.seq (.ops qJp) .ret))
def qPC : FC := ⟨4, jKs, [.tmp 2]⟩
abbrev jHX : Nat := 121
def qJo : LA := [mv 10 0, mv 11 1, o_ 12 (.bslice 9 1 2 [.str []] [(0, 1, (.t 10)), (1, 1, (.t 11))]), o_ 13 (.call 122 [(.t 12)]), mv 9 13]
def qJn : LA := [Wl 14 3, mv 15 9, mv 16 2, Wf 17 0 4, Wl 18 17, o_ 19 (.build [.str [], .int .u8 (0), .str []] [(0, 1, (.t 15)), (1, 1, (.t 16)), (2, 1, (.t 18))]), o_ 20 (.bslice 201 3 1 [.str [], .int .u8 (0), .str []] [(0, 3, (.t 19))]), o_ 21 (.app 201 3 40 (.t 14) (.t 20)), Ws 1 3 21]
def qJm : LA := [mv 22 9, mv 8 22]
def jKr : ACode := (.seq (.ops [o_ 8 (.mov (.c (.str [])))]) (.seq (.ops qJo) (.seq (.ops qJn) (.seq (.ops qJm) .ret))))
def qPB : FC := ⟨23, jKr, [.tmp 8]⟩
abbrev jHW : Nat := 122
def qJl : LA := [mv 6 0, We 7 6, Wm 8 0]
def qJk : LA := [Wa 10 9 1 6 8, Wl 11 10, mv 5 11]
def qJj : LA := [mv 12 5, o_ 13 (.bins .neq (.t 12) (.c (.str [])))]
def qJi : LA := [mv 14 3, mv 15 5, o_ 16 (.bslice 9 1 1 [.str []] [(0, 1, (.t 15))]), o_ 17 (.app 9 1 16 (.t 14) (.t 16)), mv 3 17]
def qJh : LA := [Wi 18 .add 8 1, mv 8 18]
def qJg : ACode := (.seq (.ops [Wb 9 .lss 8 7]) (.seq (.cond (.t 9) .skip (.exit 0)) (.seq (.block 1 (.seq (.ops qJk) (.seq (.ops qJj) (.cond (.t 13) (.ops qJi) .bad)))) (.ops qJh))))
def qJf : LA := [mv 19 3, o_ 20 (.call 174 [(.t 19), (.c (.str [46]))]), mv 2 20]
def jKq : ACode := (.seq (.ops [o_ 2 (.mov (.c (.str [])))]) (.seq (.ops [Wn 3]) (.seq (.seq (.ops qJl) (.block 0 (.loop qJg))) (.seq (.ops qJf) .ret))))
def qPA : FC := ⟨21, jKq, [.tmp 2]⟩
abbrev jHV : Nat := 123
def qJe : LA := [Wl 7 2, mv 8 1, Wf 9 0 3, Wl 10 9, o_ 11 (.callv (.t 7) [(.t 8), (.t 10), (.c (.int .u8 2))])]
def qJd : LA := [Wf 12 1 3, Wl 13 12, We 14 13, Wm 15 0]
def qJc : LA := [Wa 17 167 2 13 15, Wd 18 2 17, o_ 6 (.box 167 2 (.c (.agg [.str [], .int .i32 0]))), Ws 2 6 18]
def qJb : LA := [Wl 19 2, mv 20 1, Wf 21 0 6, Wl 22 21, o_ 23 (.callv (.t 19) [(.t 20), (.t 22), (.c (.int .u8 3))])]
def qJa : LA := [Wi 24 .add 15 1, mv 15 24]
def qJZ : ACode := (.seq (.ops [Wb 16 .lss 15 14]) (.seq (.cond (.t 16) .skip (.exit 0)) (.seq (.block 1 (.seq (.ops qJc) (.ops qJb))) (.ops qJa))))
def jKp : ACode := (.seq (.ops [o_ 3 (.box 170 5 (.t 0))]) (.seq (.ops qJe) (.seq (.ops qJd) (.block 0 (.loop qJZ)))))
def qOz : FC := ⟨25, jKp, []⟩
abbrev jHU : Nat := 124
def qJY : LA := [Wl 16 2, mv 17 1, Wf 18 0 5, Wl 19 18, o_ 20 (.callv (.t 16) [(.t 17), (.t 19), (.c (.int .u8 1))]), mv 7 20]
def qJX : LA := [Wf 21 1 5, Wl 22 21, We 23 22, Wm 24 0]
def qJW : LA := [Wa 26 163 9 22 24, Wd 27 9 26, o_ 9 (.box 163 9 (.c (.agg [.str [], .int .i32 (0), .int .u8 (0), .int .u8 (0), .str [], .int .u8 (0), .int .i64 (0), .int .u8 (0), .str []]))), Ws 9 9 27]
def qJV : LA := [Wl 28 2, mv 29 7, Wf 30 0 9, Wl 31 30, o_ 32 (.callv (.t 28) [(.t 29), (.t 31), (.c (.int .u8 4))])]
def qJU : LA := [Wi 33 .add 24 1, mv 24 33]
def qJT : ACode := (.seq (.ops [Wb 25 .lss 24 23]) (.seq (.cond (.t 25) .skip (.exit 0)) (.seq (.block 1 (.seq (.ops qJW) (.ops qJV))) (.ops qJU))))
def qJS : LA := [Wf 34 2 5, Wl 35 34, We 36 35, Wm 37 0]
def qJR : LA := [Wa 39 9 1 35 37, Wl 40 39, mv 11 40]
def qJQ : LA := [Wl 41 2, mv 42 7, mv 43 11, o_ 44 (.callv (.t 41) [(.t 42), (.t 43), (.c (.int .u8 5))])]
def qJP : LA := [Wi 45 .add 37 1, mv 37 45]
def zUq : ACode := (.seq (.ops [Wb 38 .lss 37 36]) (.seq (.cond (.t 38) .skip (.exit 2)) (.seq (.block 3 (.seq (.ops qJR) (.ops qJQ))) (.ops qJP))))
def zUp : LA := [Wf 46 3 5, Wl 47 46, We 48 47, Wm 49 0]
def zUo : ACode := (.seq (.ops [Wb 50 .lss 49 48]) (.seq (.cond (.t 50) .bad (.exit 4)) .bad))
def zUn : LA := [Wf 58 4 5, Wl 59 58, We 60 59, Wm 61 0]
def zUm : ACode := (.seq (.ops [Wb 62 .lss 61 60]) (.seq (.cond (.t 62) .bad (.exit 6)) .bad))
def jKo : ACode := (.seq (.ops [o_ 5 (.box 159 7 (.t 0))]) (.seq (.ops qJY) (.seq (.seq (.ops qJX) (.block 0 (.loop qJT))) (.seq (.seq (.ops qJS) (.block 2 (.loop zUq))) (.seq (.seq (.ops zUp) (.block 4 (.loop zUo))) (.seq (.ops zUn) (.block 6 (.loop zUm))))))))
def qOy : FC := ⟨70, jKo, []⟩
abbrev jHT : Nat := 125
def qJO : LA := [mv 4 0, mv 5 0, We 6 5, mv 7 1, o_ 8 (.call 175 [(.t 4), (.t 6), (.t 7)])]
def jKn : ACode := (.ops qJO)
def qOx : FC := ⟨9, jKn, []⟩
abbrev jHS : Nat := 126
def qJN : LA := [o_ 2 (.box 201 3 (.t 0)), o_ 3 (.box 201 3 (.t 1)), Wm 4 0]
def qJM : LA := [Wf 5 0 2, Wl 6 5, Wf 7 0 3, Wl 8 7, Wf 10 1 2, Wl 11 10, Wf 12 1 3, Wl 13 12, o_ 9 (.acall 128 [(.t 6), (.t 8)]), o_ 14 (.acall 129 [(.t 11), (.t 13)]), o_ 15 (.bslice 3 1 2 [.int .i64 0] [(0, 1, (.t 9)), (1, 1, (.t 14))]), o_ 16 (.acall 127 [(.t 15)]), mv 4 16]
def jKm : ACode := (.seq (.ops qJN) (.seq (.alts [5, 6, 7, 8, 9, 10, 11, 12, 13, 14, 15, 16, 4] [qJM]) .ret))
def qOw : FC := ⟨17, jKm, [.tmp 4]⟩
abbrev jHR : Nat := 127
def qJL : LA := [mv 6 0, We 7 6, Wm 8 0]
def qJK : LA := [Wa 10 3 1 6 8, Wl 11 10, mv 5 11]
def qJJ : LA := [mv 12 5, mv 13 3, Wb 14 .neq 12 13]
def qJI : LA := [mv 15 5, mv 2 15]
def qJH : LA := [Wi 16 .add 8 1, mv 8 16]
def qJG : ACode := (.seq (.ops [Wb 9 .lss 8 7]) (.seq (.cond (.t 9) .skip .bad) (.seq (.block 1 (.seq (.ops qJK) (.seq (.ops qJJ) (.cond (.t 14) (.seq (.ops qJI) .ret) .bad)))) (.ops qJH))))
def qJF : LA := [mv 17 3, mv 2 17]
def jKl : ACode := (.seq (.ops [Wm 2 0]) (.seq (.ops [Wm 3 0]) (.seq (.seq (.ops qJL) (.block 0 (.loop qJG))) (.seq (.ops qJF) .ret))))
def qOv : FC := ⟨18, jKl, [.tmp 2]⟩
abbrev jHQ : Nat := 128
def qJE : LA := [mv 7 0, o_ 8 (.call 176 [(.t 7)]), mv 5 8]
def qJD : LA := [mv 9 1, o_ 10 (.call 176 [(.t 9)]), mv 6 10]
def qJC : LA := [mv 14 0, mv 15 1, o_ 16 (.bins .lss (.t 14) (.t 15))]
def qJB : LA := [mv 17 0, mv 18 1, o_ 19 (.bins .gtr (.t 17) (.t 18))]
def jKk : ACode := (.seq (.ops [Wm 4 0]) (.seq (.ops qJE) (.seq (.ops qJD) (.seq (.seq (.ops [mv 11 5]) (.cond (.t 11) .bad .skip)) (.seq (.seq (.ops [mv 13 6]) (.cond (.t 13) .bad .skip)) (.seq (.seq (.ops qJC) (.cond (.t 16) (.seq (.ops [Wm 4 (-1)]) .ret) .skip)) (.seq (.seq (.ops qJB) (.cond (.t 19) (.seq (.ops [Wm 4 1]) .ret) .bad)) .bad)))))))
def qOu : FC := ⟨20, jKk, [.tmp 4]⟩
abbrev jHP : Nat := 129
def qJA : LA := [mv 7 0, o_ 8 (.call 177 [(.t 7)]), mv 5 8]
def qIz : LA := [mv 9 1, o_ 10 (.call 177 [(.t 9)]), mv 6 10]
def qIy : LA := [mv 14 0, mv 15 1, Wb 16 .lss 14 15]
def qIx : LA := [mv 17 0, mv 18 1, Wb 19 .gtr 17 18]
def jKj : ACode := (.seq (.ops [Wm 4 0]) (.seq (.ops qJA) (.seq (.ops qIz) (.seq (.seq (.ops [mv 11 5]) (.cond (.t 11) .bad .skip)) (.seq (.seq (.ops [mv 13 6]) (.cond (.t 13) .bad .skip)) (.seq (.seq (.ops qIy) (.cond (.t 16) (.seq (.ops [Wm 4 (-1)]) .ret) .skip)) (.seq (.seq (.ops qIx) (.cond (.t 19) (.seq (.ops [Wm 4 1]) .ret) .skip)) (.seq (.ops [Wm 4 0]) .ret))))))))
def qOt : FC := ⟨20, jKj, [.tmp 4]⟩
abbrev jHO : Nat := 130
def qIw : LA := [mv 13 3, Wc 14 13, Wf 15 3 14, Wl 16 15, o_ 17 (.bini .neq (.t 16) (.c (.int .u8 0))), mv 18 17, Wgm 19 3 18, g_ 20 (.nilc (.t 19)) 18, Wgf 21 3 20 18, Wgl 22 21 18, g_ 23 (.bini .neq (.t 22) (.c (.int .u8 11))) 18, Wp 24 18 23, mv 25 24, Wgm 26 3 25, g_ 27 (.nilc (.t 26)) 25, Wgf 28 3 27 25, Wgl 29 28 25, g_ 30 (.bini .neq (.t 29) (.c (.int .u8 14))) 25, Wp 31 25 30]
def qIv : LA := [mv 32 2, mv 33 3, Wc 34 33, Wf 35 0 34, Wl 36 35, o_ 37 (.bslice 9 1 2 [.str []] [(0, 1, (.t 32)), (1, 1, (.t 36))]), o_ 38 (.call 122 [(.t 37)]), mv 8 38]
def qIu : LA := [mv 40 0, mv 41 1, mv 42 2, mv 43 3, Wc 44 43, Wf 45 4 44, Wl 46 45, o_ 47 (.call 178 [(.t 40), (.t 41), (.t 42), (.t 46)]), mv 39 47, Wx 48 0 39, Wx 49 1 39, Wx 50 2 39, mv 9 48, mv 10 49, mv 11 50]
def qIt : LA := [mv 51 11, Wi 52 .neq 51 0]
def qIs : LA := [mv 56 10, o_ 57 (.bini .eql (.t 56) (.c (.int .u8 2)))]
def qIr : LA := [mv 58 3, Wc 59 58, Wf 60 3 59, Wl 61 60, o_ 62 (.bini .neq (.t 61) (.c (.int .u8 0))), mv 63 62, Wgm 64 3 63, g_ 65 (.nilc (.t 64)) 63, Wgf 66 3 65 63, Wgl 67 66 63, Wgm 68 12 63, g_ 69 (.bini .neq (.t 67) (.t 68)) 63, Wp 70 63 69, mv 71 70, Whm 72 3 71, Wh 73 (.nilc (.t 72)) 71, Wh 74 (.faddr 7 (.t 73)) 71, Wh 75 (.ld1 (.t 74)) 71, Wh 76 (.bini .eql (.t 75) (.c (.int .u8 1))) 71, Whm 77 76 71, Wgm 78 12 77, g_ 79 (.bini .eql (.t 78) (.c (.int .u8 11))) 77, Wh 80 (.pick (.t 77) (.t 79) (.c (.bool false))) 71, Wq 81 71 80]
def qIq : LA := [mv 84 3, mv 85 3, mv 86 12, mv 87 9, Wc 88 84, Wf 89 3 88, Ws 1 89 86, Wc 90 85, Wf 91 4 90, Ws 1 91 87]
def jKi : ACode := (.seq (.seq (.ops qIw) (.cond (.t 31) .ret .skip)) (.seq (.ops qIv) (.seq (.ops qIu) (.seq (.seq (.ops qIt) (.cond (.t 52) .bad .skip)) (.seq (.ops [o_ 12 (.mov (.c (.int .u8 11)))]) (.seq (.seq (.ops qIs) (.cond (.t 57) (.ops [o_ 12 (.mov (.c (.int .u8 14)))]) .skip)) (.seq (.seq (.ops qIr) (.cond (.t 81) .bad .skip)) (.ops qIq))))))))
def qOs : FC := ⟨92, jKi, []⟩
abbrev jHN : Nat := 131
def qIp : LA := [mv 6 0, We 7 6, Wm 8 0]
def qIo : ACode := (.seq (.ops [Wb 9 .lss 8 7]) (.seq (.cond (.t 9) .bad (.exit 0)) .bad))
def jKh : ACode := (.seq (.ops [Wm 4 0]) (.seq (.seq (.ops qIp) (.block 0 (.loop qIo))) (.seq (.ops [Wm 4 (-1)]) .ret)))
def qOr : FC := ⟨19, jKh, [.tmp 4]⟩
abbrev jHM : Nat := 132
def qIn : LA := [mv 5 0, mv 6 1, o_ 7 (.call 179 [(.t 5), (.t 6)]), Wi 8 .geq 7 0, mv 4 8]
def jKg : ACode := (.seq (.ops [Wo 4 false]) (.seq (.ops qIn) .ret))
def qOq : FC := ⟨9, jKg, [.tmp 4]⟩
abbrev jHL : Nat := 133
def qIm : LA := [mv 19 2, mv 20 1, Wb 21 .sub 19 20, mv 10 21]
def qIl : LA := [mv 22 10, Wi 23 .leq 22 12]
def qIk : LA := [mv 24 0, mv 25 1, mv 26 2, o_ 27 (.call 180 [(.t 24), (.t 25), (.t 26)])]
def qIj : ACode := (.block 1 (.seq (.ops qIm) (.seq (.seq (.ops qIl) (.cond (.t 23) (.seq (.ops qIk) .ret) .bad)) .bad)))
def jKf : ACode := (.seq (.ops [Wo 8 true]) (.seq (.ops [Wo 9 true]) (.block 0 (.loop qIj))))
def qOp : FC := ⟨134, jKf, []⟩
abbrev jHK : Nat := 134
def qIi : LA := [mv 6 0, o_ 7 (.call 112 [(.t 6)]), mv 2 7]
def jKe : ACode := (.seq (.ops [Wm 2 0]) (.seq (.cond (.c (.bool false)) .bad .skip) (.seq (.ops qIi) .ret)))
def qOo : FC := ⟨8, jKe, [.tmp 2]⟩
abbrev jHJ : Nat := 135
def qIh : LA := [o_ 10 (.bini .eql (.t 8) (.c (.int .u8 0))), mv 9 10]
def qIg : LA := [o_ 14 (.bini .eql (.t 8) (.c (.int .u8 1))), mv 13 14]
def qIf : LA := [o_ 18 (.bini .eql (.t 8) (.c (.int .u8 2))), mv 17 18]
def qIe : LA := [mv 19 0, o_ 20 (.call 191 [(.t 19)])]
def jKd : ACode := (.seq (.ops [mv 8 2]) (.block 0 (.seq (.ops qIh) (.cond (.t 9) .bad (.seq (.ops qIg) (.cond (.t 13) .bad (.seq (.ops qIf) (.cond (.t 17) (.ops qIe) .bad))))))))
def qOn : FC := ⟨31, jKd, []⟩
abbrev jHI : Nat := 136
def qId : LA := [o_ 3 (.box 86 3 (.t 1)), Wm 4 0, o_ 5 (.mov (.c (.str [])))]
def qIc : LA := [mv 8 0, o_ 9 (.call 194 []), o_ 10 (.build [.nili, .nilf, .nilf, .nilf, .nilf, .nilf, .nilf, .nilf, .nilf, .nilf, .nilf, .nilf, .nilf, .nilf, .nilf, .nilf, .nilf, .nilf, .nilf, .nilf] [(0, 1, (.t 8)), (1, 19, (.t 9))]), o_ 11 (.box 396 20 (.t 10)), mv 6 11]
def qIb : LA := [mv 12 6, Wd 13 3 3, o_ 14 (.call 195 [(.t 12), (.t 13), (.c (.str [])), (i_ 1)]), mv 7 14]
def qIa : LA := [mv 15 7, o_ 16 (.isnil .pt true (.t 15))]
def qIZ : LA := [Wm 4 0, o_ 5 (.mov (.c (.str [])))]
def jKc : ACode := (.seq (.ops qId) (.seq (.ops qIc) (.seq (.seq (.ops qIb) (.seq (.ops qIa) (.cond (.t 16) .bad .skip))) (.seq (.ops qIZ) .ret))))
def qOm : FC := ⟨25, jKc, [.tmp 4, .tmp 5]⟩
abbrev jHH : Nat := 137
def qIY : LA := [o_ 3 (.box 86 3 (.t 1)), o_ 4 (.box 86 3 (.c (.agg [.str [], .nils, .nils])))]
def qIX : LA := [mv 16 0, Wf 17 0 3, Wl 18 17, o_ 19 (.inv [(81, 407)] (.t 16) [(.t 18)]), mv 15 19, Wx 20 0 15, Wx 21 1 15, mv 5 20, mv 6 21]
def qIW : LA := [Wf 22 0 3, Wl 23 22, Wf 24 2 3, Wl 25 24, o_ 26 (.acall 80 [(.t 25)]), o_ 27 (.build [.str [], .nils, .nils] [(0, 1, (.t 23)), (2, 1, (.t 26))]), o_ 7 (.box 86 3 (.c (.agg [.str [], .nils, .nils]))), Ws 3 7 27]
def qIV : LA := [Wf 28 1 3, Wl 29 28, We 30 29, Wm 31 0]
def qIU : LA := [Wa 33 91 3 29 31, Wd 34 3 33, o_ 9 (.box 91 3 (.c (.agg [.int .i32 (0), .nils, .nils]))), Ws 3 9 34]
def qIT : LA := [mv 36 5, Wf 37 0 9, Wl 38 37, o_ 39 (.call 146 [(.t 36), (.t 38)]), mv 35 39, Wx 40 0 35, Wx 41 1 35, o_ 10 (.box 204 9 (.c (.agg [.int .i32 (0), .str [], .str [], .int .u8 (0), .int .u8 (0), .int .u8 (0), .bool false, .int .i64 (0), .str []]))), Ws 9 10 40, mv 11 41]
def qIS : LA := [Wd 42 9 10, o_ 43 (.call 196 [(.t 42)]), mv 44 43, Wgf 45 2 9 44, Wgl 46 45 44, g_ 47 (.iaddr 95 3 (.t 46) (i_ 0)) 44, g_ 48 (.lda 3 (.t 47)) 44, g_ 49 (.call 197 [(.t 48)]) 44, Wp 50 44 49]
def qIR : LA := [Wf 51 0 9, Wl 52 51, Wf 53 1 9, Wl 54 53, o_ 55 (.acall 198 [(.t 54)]), o_ 56 (.build [.int .i32 (0), .nils, .nils] [(0, 1, (.t 52)), (1, 1, (.t 55))]), o_ 12 (.box 91 3 (.c (.agg [.int .i32 (0), .nils, .nils]))), Ws 3 12 56]
def qIQ : LA := [Wf 57 2 9, Wl 58 57, We 59 58, Wm 60 0]
def qIP : LA := [Wa 62 95 3 58 60, Wd 63 3 62, o_ 14 (.box 95 3 (.c (.agg [.int .u64 (0), .str [], .nils]))), Ws 3 14 63]
def zUl : LA := [Wf 64 2 12, mv 66 0, Wd 67 3 14, Wl 65 64, o_ 68 (.call 199 [(.t 66), (.t 67)]), o_ 69 (.bslice 95 3 1 [.int .u64 (0), .str [], .nils] [(0, 3, (.t 68))]), o_ 70 (.app 95 3 48 (.t 65) (.t 69)), Wf 71 2 12, Ws 1 71 70]
def zUk : LA := [Wf 64 2 12, mv 66 0, Wd 67 3 14, o_ 68 (.call 199 [(.t 66), (.t 67)]), Wl 65 64, o_ 69 (.bslice 95 3 1 [.int .u64 (0), .str [], .nils] [(0, 3, (.t 68))]), o_ 70 (.app 95 3 48 (.t 65) (.t 69)), Wf 71 2 12, Ws 1 71 70]
def zUj : LA := [Wi 72 .add 60 1, mv 60 72]
def zUi : ACode := (.seq (.ops [Wb 61 .lss 60 59]) (.seq (.cond (.t 61) .skip (.exit 2)) (.seq (.block 3 (.seq (.ops qIP) (.alts [64, 65, 66, 67, 68, 69, 70, 71] [zUl, zUk]))) (.ops zUj))))
def zUh : LA := [Wf 73 3 10, Wl 74 73, o_ 75 (.bini .eql (.t 74) (.c (.int .u8 4)))]
def zUg : LA := [Wf 79 1 7, Wl 80 79, Wd 81 3 12, o_ 82 (.bslice 91 3 1 [.int .i32 (0), .nils, .nils] [(0, 3, (.t 81))]), o_ 83 (.app 91 3 56 (.t 80) (.t 82)), Wf 84 1 7, Ws 1 84 83]
def zUf : LA := [Wi 85 .add 31 1, mv 31 85]
def zUe : ACode := (.seq (.ops [Wb 32 .lss 31 30]) (.seq (.cond (.t 32) .skip (.exit 0)) (.seq (.block 1 (.seq (.ops qIU) (.seq (.ops qIT) (.seq (.seq (.ops qIS) (.cond (.t 50) .bad .skip)) (.seq (.alts [51, 52, 53, 54, 55, 56, 12] [qIR]) (.seq (.seq (.ops qIQ) (.block 2 (.loop zUi))) (.seq (.seq (.ops zUh) (.cond (.t 75) .bad .skip)) (.ops zUg)))))))) (.ops zUf))))
def zUd : LA := [Wd 86 3 7, Ws 3 4 86]
def jKb : ACode := (.seq (.ops qIY) (.seq (.ops qIX) (.seq (.alts [22, 23, 24, 25, 26, 27, 7] [qIW]) (.seq (.seq (.ops qIV) (.block 0 (.loop zUe))) (.seq (.ops zUd) .ret)))))
def qOl : FC := ⟨87, jKb, [.cella 4 3]⟩
abbrev jHG : Nat := 138
def qIO : LA := [o_ 2 (.box 204 9 (.t 0)), Wo 4 false]
def qIN : LA := [Wf 5 3 2, Wl 6 5, o_ 7 (.bini .eql (.t 6) (.c (.int .u8 4))), mv 8 7, Wgm 9 1 8, g_ 10 (.bini .eql (.t 9) (.c (.int .u8 2))) 8, Wp 11 8 10, mv 4 11]
def jKa : ACode := (.seq (.ops qIO) (.seq (.ops qIN) .ret))
def qOk : FC := ⟨12, jKa, [.tmp 4]⟩
abbrev jHF : Nat := 140
def qIM : LA := [o_ 2 (.box 204 9 (.t 0)), Wo 4 false]
def qIL : LA := [Wf 5 3 2, Wl 6 5, o_ 7 (.bini .neq (.t 6) (.c (.int .u8 4))), mv 8 7, Wgm 9 1 8, Wgf 10 4 2 8, Wgl 11 10 8, g_ 12 (.call 141 [(.t 11)]) 8, g_ 13 (.bini .eql (.t 9) (.t 12)) 8, Wp 14 8 13, mv 4 14]
def jKZ : ACode := (.seq (.ops qIM) (.seq (.ops qIL) .ret))
def qOj : FC := ⟨15, jKZ, [.tmp 4]⟩
abbrev jHE : Nat := 141
def qIK : LA := [o_ 5 (.bini .eql (.t 3) (.c (.int .u8 1))), mv 4 5]
def qIJ : LA := [o_ 6 (.bini .eql (.t 3) (.c (.int .u8 6))), mv 4 6]
def qII : LA := [o_ 7 (.bini .eql (.t 3) (.c (.int .u8 16))), mv 4 7]
def qIH : LA := [o_ 9 (.bini .eql (.t 3) (.c (.int .u8 2))), mv 8 9]
def qIG : LA := [o_ 10 (.bini .eql (.t 3) (.c (.int .u8 7))), mv 8 10]
def qIF : LA := [o_ 11 (.bini .eql (.t 3) (.c (.int .u8 15))), mv 8 11]
def qIE : LA := [o_ 13 (.bini .eql (.t 3) (.c (.int .u8 9))), mv 12 13]
def jKY : ACode := (.seq (.ops [o_ 2 (.mov (.c (.int .u8 0)))]) (.seq (.seq (.ops [mv 3 0]) (.block 0 (.seq (.seq (.ops qIK) (.cond (.t 4) .bad (.seq (.ops qIJ) (.cond (.t 4) .bad (.ops qII))))) (.cond (.t 4) .bad (.seq (.seq (.ops qIH) (.cond (.t 8) .bad (.seq (.ops qIG) (.cond (.t 8) .bad (.ops qIF))))) (.cond (.t 8) .bad (.seq (.seq (.ops qIE) (.cond (.t 12) .skip .bad)) (.cond (.t 12) (.seq (.ops [o_ 2 (.mov (.c (.int .u8 2)))]) .ret) .bad)))))))) (.seq (.ops [o_ 2 (.mov (.c (.int .u8 0)))]) .ret)))
def qOi : FC := ⟨16, jKY, [.tmp 2]⟩
abbrev jHD : Nat := 142
def qID : LA := [Wf 15 4 8, Wl 16 15, o_ 17 (.bini .eql (.t 16) (.c (.int .u8 11)))]
def qIC : LA := [Wf 55 4 8, Wl 56 55, mv 57 3, o_ 58 (.call 203 [(.t 56), (.t 57)]), Wf 59 0 12, Ws 3 59 58]
def qIB : LA := [Wf 60 7 8, Wl 61 60, Wi 62 .neq 61 0]
def qIA : LA := [mv 69 1, Wd 70 9 8, o_ 71 (.call 147 [(.t 69), (.t 70)]), mv 14 71]
def qHz : LA := [Wf 72 3 8, Wl 73 72, o_ 74 (.bini .neq (.t 73) (.c (.int .u8 3)))]
def qHy : LA := [mv 75 14, Wc 76 75, Wf 77 10 76, n_ (.st 1 (.t 77) (.c (.nils)))]
def qHx : LA := [mv 78 14, mv 79 14, Wc 80 79, Wf 81 10 80, Wl 82 81, Wd 83 4 12, o_ 84 (.bslice 346 4 1 [.int .u64 (0), .str [], .nils, .nilp] [(0, 4, (.t 83))]), o_ 85 (.app 346 4 56 (.t 82) (.t 84)), Wc 86 78, Wf 87 10 86, Ws 1 87 85]
def jKX : ACode := (.seq (.ops [o_ 8 (.box 204 9 (.t 2))]) (.seq (.ops [o_ 12 (.box 346 4 (.c (.agg [.int .u64 (0), .str [], .nils, .nilp])))]) (.seq (.seq (.ops qID) (.cond (.t 17) .bad (.ops qIC))) (.seq (.seq (.ops qIB) (.cond (.t 62) .bad .skip)) (.seq (.ops qIA) (.seq (.seq (.ops qHz) (.cond (.t 74) (.ops qHy) .bad)) (.alts [78, 79, 80, 81, 82, 83, 84, 85, 86, 87] [qHx])))))))
def qOh : FC := ⟨88, jKX, []⟩
abbrev jHC : Nat := 145
def qHw : LA := [mv 10 0, Wc 11 10, Wf 12 0 11, Wl 13 12, mv 14 1, o_ 15 (.inv [(81, 407)] (.t 13) [(.t 14)]), mv 9 15, Wx 16 0 9, Wx 17 1 9, mv 7 16, mv 8 17]
def qHv : LA := [mv 18 8, Wi 19 .neq 18 0]
def qHu : LA := [mv 24 7, o_ 25 (.mkmap), o_ 26 (.build [.nilp, .nilm, .nils] [(0, 1, (.t 24)), (1, 1, (.t 25))]), o_ 27 (.box 333 3 (.t 26)), mv 6 27]
def jKW : ACode := (.seq (.ops [o_ 6 (.mov (.c (.nilp)))]) (.seq (.ops qHw) (.seq (.seq (.ops qHv) (.cond (.t 19) .bad .skip)) (.seq (.ops qHu) .ret))))
def qOg : FC := ⟨28, jKW, [.tmp 6]⟩
abbrev jHB : Nat := 146
def qHt : LA := [o_ 4 (.box 204 9 (.c (.agg [.int .i32 (0), .str [], .str [], .int .u8 (0), .int .u8 (0), .int .u8 (0), .bool false, .int .i64 (0), .str []]))), Wo 5 false]
def qHs : LA := [mv 9 0, Wc 10 9, Wf 11 3 10, Wl 12 11, mv 13 1, o_ 14 (.mlook .i (.int .i64 0) true (.t 12) (.t 13)), mv 8 14, Wx 15 0 8, Wx 16 1 8, mv 6 15, mv 7 16]
def qHr : LA := [mv 17 0, mv 18 6, mv 19 7, o_ 20 (.call 207 [(.t 17), (.t 18), (.t 19)]), Wx 21 0 20, Wx 22 1 20, Ws 9 4 21, mv 5 22]
def jKV : ACode := (.seq (.ops qHt) (.seq (.ops qHs) (.seq (.ops qHr) .ret)))
def qOf : FC := ⟨23, jKV, [.cella 4 9, .tmp 5]⟩
abbrev jHA : Nat := 147
def qHq : LA := [o_ 3 (.box 204 9 (.t 1)), o_ 4 (.mov (.c (.nilp)))]
def qHp : LA := [mv 6 0, Wc 7 6, Wf 8 1 7, Wl 9 8, Wf 10 0 3, Wl 11 10, o_ 12 (.mlook .i (.nilp) false (.t 9) (.t 11)), mv 5 12]
def qHo : LA := [mv 13 5, o_ 14 (.isnil .pt false (.t 13))]
def qHn : LA := [Wd 15 9 3, o_ 16 (.mkmap), o_ 17 (.build [.int .i32 (0), .str [], .str [], .int .u8 (0), .int .u8 (0), .int .u8 (0), .bool false, .int .i64 (0), .str [], .nils, .nils, .nilm] [(0, 9, (.t 15)), (11, 1, (.t 16))]), o_ 18 (.box 342 12 (.t 17)), mv 5 18]
def qHm : LA := [mv 19 0, Wc 20 19, Wf 21 1 20, Wl 22 21, Wf 23 0 3, Wl 24 23, mv 25 5, n_ (.mupd .i (.t 22) (.t 24) (.t 25))]
def qHl : LA := [mv 26 5, mv 4 26]
def jKU : ACode := (.seq (.ops qHq) (.seq (.alts [6, 7, 8, 9, 10, 11, 12, 5] [qHp]) (.seq (.seq (.ops qHo) (.cond (.t 14) (.seq (.ops qHn) (.alts [19, 20, 21, 22, 23, 24, 25] [qHm])) .bad)) (.seq (.ops qHl) .ret))))
def qOe : FC := ⟨27, jKU, [.tmp 4]⟩
abbrev jGz : Nat := 148
def qHk : LA := [mv 3 0, o_ 4 (.isnilu false (.t 3))]
def jKT : ACode := (.seq (.ops [Wn 2]) (.seq (.seq (.ops qHk) (.cond (.t 4) (.seq (.ops [Wn 2]) .ret) .bad)) .bad))
def qOd : FC := ⟨8, jKT, [.tmp 2]⟩
abbrev jGy : Nat := 149
def qHj : LA := [mv 3 0, Wc 4 3, Wf 5 3 4, Wl 6 5, Wi 7 .neq 6 0]
def qHi : LA := [mv 8 0, Wc 9 8, Wf 10 2 9, Wl 11 10, mv 12 0, Wc 13 12, Wf 14 1 13, Wl 15 14, Wb 16 .sub 11 15, mv 2 16]
def jKS : ACode := (.seq (.ops [Wm 2 0]) (.seq (.seq (.ops qHj) (.cond (.t 7) .bad .skip)) (.seq (.alts [8, 9, 10, 11, 12, 13, 14, 15, 16, 2] [qHi]) .ret)))
def qOc : FC := ⟨17, jKS, [.tmp 2]⟩
abbrev jGx : Nat := 150
def qHh : LA := [o_ 2 (.mov (.c (.int .i32 0))), o_ 3 (.mov (.c (.int .u8 0))), Wm 4 0]
def qHg : LA := [mv 8 0, o_ 9 (.call 104 [(.t 8)]), mv 5 9]
def qHf : LA := [mv 11 0, o_ 12 (.call 102 [(.t 11)]), mv 10 12, Wx 13 0 10, Wx 14 1 10, mv 6 13, mv 7 14]
def qHe : LA := [mv 15 0, o_ 16 (.call 153 [(.t 15)])]
def qHd : LA := [mv 17 7, o_ 18 (.bini .eql (.t 17) (.c (.int .u8 4)))]
def qHc : LA := [mv 22 6, mv 23 7, mv 24 5, mv 2 22, mv 3 23, mv 4 24]
def jKR : ACode := (.seq (.ops qHh) (.seq (.ops qHg) (.seq (.ops qHf) (.seq (.ops qHe) (.seq (.seq (.ops qHd) (.cond (.t 18) .bad .skip)) (.seq (.ops qHc) .ret))))))
def qOb : FC := ⟨25, jKR, [.tmp 2, .tmp 3, .tmp 4]⟩
abbrev jGw : Nat := 151
def qHb : LA := [mv 6 0, We 7 6, Wm 8 0]
def qHa : LA := [mv 10 8, mv 5 10]
def qHZ : LA := [mv 11 1, mv 12 0, mv 13 5, Wa 14 328 2 12 13, Wd 15 2 14, o_ 16 (.callv (.t 11) [(.t 15)])]
def qHY : LA := [mv 17 5, mv 4 17]
def qHX : LA := [Wi 18 .add 8 1, mv 8 18]
def qHW : ACode := (.seq (.ops [Wb 9 .lss 8 7]) (.seq (.cond (.t 9) .skip .bad) (.seq (.block 1 (.seq (.ops qHa) (.seq (.ops qHZ) (.cond (.t 16) (.seq (.ops qHY) .ret) .skip)))) (.ops qHX))))
def jKQ : ACode := (.seq (.ops [Wm 4 0]) (.seq (.seq (.ops qHb) (.block 0 (.loop qHW))) (.seq (.ops [Wm 4 (-1)]) .ret)))
def qOa : FC := ⟨19, jKQ, [.tmp 4]⟩
abbrev jGv : Nat := 152
def qHV : LA := [o_ 3 (.box 328 2 (.t 0)), Wo 4 false]
def qHU : LA := [Wf 5 0 3, Wl 6 5, Wd 7 9 1, Wl 8 2, o_ 9 (.callv (.t 6) [(.t 7), (.t 8)]), mv 4 9]
def jKP : ACode := (.seq (.ops qHV) (.seq (.ops qHU) .ret))
def qOZ : FC := ⟨10, jKP, [.tmp 4]⟩
abbrev jGu : Nat := 153
def qHT : LA := [mv 5 0, o_ 6 (.call 87 [(.t 5)]), mv 4 6, Wx 7 0 4, Wx 8 1 4, mv 2 7, mv 3 8]
def qHS : LA := [mv 9 2, Wi 10 .neq 9 0]
def jKO : ACode := (.seq (.ops qHT) (.seq (.ops qHS) (.cond (.t 10) .bad .skip)))
def qOY : FC := ⟨15, jKO, []⟩
abbrev jGt : Nat := 154
def qHR : LA := [mv 3 0, Wc 4 3, Wf 5 0 4, Wl 6 5, mv 2 6]
def jKN : ACode := (.seq (.ops [o_ 2 (.mov (.c (.str [])))]) (.seq (.ops qHR) .ret))
def qOX : FC := ⟨7, jKN, [.tmp 2]⟩
abbrev jGs : Nat := 155
def qHQ : LA := [mv 4 0, o_ 5 (.call 208 [(.t 4)]), mv 3 5]
def qHP : LA := [mv 6 3, o_ 7 (.call 209 [(.t 6)])]
def qHO : LA := [mv 8 3, mv 2 8]
def jKM : ACode := (.seq (.ops [Wn 2]) (.seq (.ops qHQ) (.seq (.ops qHP) (.seq (.ops qHO) .ret))))
def qOW : FC := ⟨9, jKM, [.tmp 2]⟩
abbrev jGr : Nat := 156
def qHN : LA := [o_ 1 (.box 331 1 (.t 0)), o_ 2 (.mov (.c (.nilf)))]
def qHM : LA := [o_ 3 (.mkfn 210 [] [(.t 1)]), mv 2 3]
def jKL : ACode := (.seq (.ops qHN) (.seq (.ops qHM) .ret))
def qOV : FC := ⟨4, jKL, [.tmp 2]⟩
abbrev jGq : Nat := 160
def qHL : LA := [o_ 1 (.box 204 9 (.t 0)), Wo 2 false]
def qHK : LA := [Wf 3 3 1, Wl 4 3, o_ 5 (.bini .eql (.t 4) (.c (.int .u8 1))), mv 6 5, Wgf 7 4 1 6, Wgl 8 7 6, g_ 9 (.bini .neq (.t 8) (.c (.int .u8 11))) 6, Wp 10 6 9, mv 11 10, Wgf 12 7 1 11, Wgl 13 12 11, g_ 14 (.bini .eql (.t 13) (i_ 0)) 11, Wp 15 11 14, mv 2 15]
def jKK : ACode := (.seq (.ops qHL) (.seq (.ops qHK) .ret))
def qOU : FC := ⟨16, jKK, [.tmp 2]⟩
abbrev jGp : Nat := 163
def qHJ : LA := [o_ 1 (.box 159 7 (.t 0)), o_ 2 (.box 159 7 (.c (.agg [.str [], .nils, .nils, .nils, .nils, .nils, .nils])))]
def qHI : LA := [Wf 3 1 1, Wl 4 3, o_ 5 (.call 213 [(.t 4)]), Wf 6 1 1, Ws 1 6 5]
def qHH : LA := [Wf 7 2 1, Wl 8 7, o_ 9 (.call 214 [(.t 8)]), Wf 10 2 1, Ws 1 10 9]
def qHG : LA := [Wf 11 5 1, Wl 12 11, o_ 13 (.call 215 [(.t 12)]), Wf 14 5 1, Ws 1 14 13]
def qHF : LA := [Wf 15 6 1, Wl 16 15, o_ 17 (.call 214 [(.t 16)]), Wf 18 6 1, Ws 1 18 17]
def qHE : LA := [Wf 20 3 1, Wl 21 20, Wf 22 4 1, Wl 23 22, o_ 24 (.call 115 [(.t 21), (.t 23)]), mv 19 24, Wx 25 0 19, Wx 26 1 19, Wf 27 3 1, Ws 1 27 25, Wf 28 4 1, Ws 1 28 26]
def qHD : LA := [Wd 29 7 1, Ws 7 2 29]
def jKJ : ACode := (.seq (.ops qHJ) (.seq (.ops qHI) (.seq (.ops qHH) (.seq (.ops qHG) (.seq (.ops qHF) (.seq (.ops qHE) (.seq (.ops qHD) .ret)))))))
def qOT : FC := ⟨30, jKJ, [.cella 2 7]⟩
abbrev jGo : Nat := 164
def qHC : LA := [o_ 1 (.box 170 5 (.t 0)), o_ 2 (.box 170 5 (.c (.agg [.str [], .nils, .bool false, .nils, .nils])))]
def qHB : LA := [Wf 3 1 1, Wl 4 3, o_ 5 (.call 216 [(.t 4)]), Wf 6 1 1, Ws 1 6 5]
def qHA : LA := [Wf 7 3 1, Wl 8 7, o_ 9 (.call 215 [(.t 8)]), Wf 10 3 1, Ws 1 10 9]
def qGz : LA := [Wf 11 4 1, Wl 12 11, o_ 13 (.call 214 [(.t 12)]), Wf 14 4 1, Ws 1 14 13]
def qGy : LA := [Wd 15 5 1, Ws 5 2 15]
def jKI : ACode := (.seq (.ops qHC) (.seq (.ops qHB) (.seq (.ops qHA) (.seq (.ops qGz) (.seq (.ops qGy) .ret)))))
def qOS : FC := ⟨16, jKI, [.cella 2 5]⟩
abbrev jGn : Nat := 165
def qGx : LA := [mv 3 0, o_ 4 (.call 217 [(.c (.nils)), (.t 3)]), mv 2 4]
def jKH : ACode := (.seq (.ops [Wn 2]) (.seq (.ops qGx) .ret))
def qOR : FC := ⟨5, jKH, [.tmp 2]⟩
abbrev jGm : Nat := 166
def qGw : LA := [Wl 4 1, o_ 5 (.rngm (.t 4))]
def qGv : LA := [o_ 6 (.nxm (.t 5)), Wx 7 0 6]
def qGu : LA := [o_ 8 (.entr (.t 5)), Wx 9 0 8, mv 3 9]
def qGt : LA := [mv 10 0, mv 11 3, o_ 12 (.callv (.t 10) [(.t 11)]), o_ 13 (.not (.t 12))]
def qGs : ACode := (.seq (.ops qGv) (.seq (.cond (.t 7) .skip (.exit 0)) (.block 1 (.seq (.ops qGu) (.seq (.ops qGt) (.cond (.t 13) .bad .skip))))))
def jKG : ACode := (.seq (.ops qGw) (.block 0 (.loop qGs)))
def qOQ : FC := ⟨14, jKG, []⟩
abbrev jGl : Nat := 167
def qGr : LA := [mv 6 0, o_ 7 (.not (.t 6))]
def jKF : ACode := (.seq (.ops qGr) (.cond (.t 7) .bad .skip))
def qOP : FC := ⟨13, jKF, []⟩
abbrev jGk : Nat := 168
def qGq : LA := [mv 5 0, o_ 6 (.bins .eql (.t 5) (.c (.str []))), mv 7 6, Whm 8 0 7, Wh 9 (.lens (.t 8)) 7, Wh 10 (.bini .gtr (.t 9) (i_ 255)) 7, Wq 11 7 10]
def qGp : LA := [mv 12 0, o_ 13 (.lens (.t 12)), Wm 14 0]
def qGo : LA := [mv 16 14, mv 3 16]
def qGn : LA := [mv 17 0, mv 18 3, o_ 19 (.idxs (.t 17) (.t 18)), mv 4 19]
def qGm : LA := [mv 20 4, o_ 21 (.bini .lss (.t 20) (.c (.int .u8 33))), mv 22 21, Whm 23 4 22, Wh 24 (.bini .gtr (.t 23) (.c (.int .u8 126))) 22, Wq 25 22 24, mv 26 25, Whm 27 4 26, Wh 28 (.bini .eql (.t 27) (.c (.int .u8 34))) 26, Wq 29 26 28, mv 30 29, Whm 31 4 30, Wh 32 (.bini .eql (.t 31) (.c (.int .u8 92))) 30, Wq 33 30 32]
def qGl : LA := [Wi 34 .add 14 1, mv 14 34]
def qGk : ACode := (.seq (.ops [Wb 15 .lss 14 13]) (.seq (.cond (.t 15) .skip (.exit 0)) (.seq (.block 1 (.seq (.ops qGo) (.seq (.ops qGn) (.seq (.ops qGm) (.cond (.t 33) .bad .skip))))) (.ops qGl))))
def jKE : ACode := (.seq (.ops [Wo 2 false]) (.seq (.seq (.ops qGq) (.cond (.t 11) .bad .skip)) (.seq (.seq (.ops qGp) (.block 0 (.loop qGk))) (.seq (.ops [Wo 2 true]) .ret))))
def qOO : FC := ⟨35, jKE, [.tmp 2]⟩
abbrev jGj : Nat := 169
def qGj : LA := [mv 5 0, o_ 6 (.lens (.t 5)), Wi 7 .gtr 6 255]
def qGi : LA := [mv 8 0, o_ 9 (.call 218 [(.t 8), (.c (.str [46]))]), We 10 9, Wm 11 0]
def qGh : LA := [Wa 13 9 1 9 11, Wl 14 13, mv 4 14]
def qGg : LA := [mv 15 4, o_ 16 (.call 219 [(.t 15)]), o_ 17 (.not (.t 16))]
def qGf : LA := [Wi 18 .add 11 1, mv 11 18]
def qGe : ACode := (.seq (.ops [Wb 12 .lss 11 10]) (.seq (.cond (.t 12) .skip (.exit 0)) (.seq (.block 1 (.seq (.ops qGh) (.seq (.ops qGg) (.cond (.t 17) .bad .skip)))) (.ops qGf))))
def jKD : ACode := (.seq (.ops [Wo 2 false]) (.seq (.seq (.ops qGj) (.cond (.t 7) .bad .skip)) (.seq (.seq (.ops qGi) (.block 0 (.loop qGe))) (.seq (.ops [Wo 2 true]) .ret))))
def qON : FC := ⟨19, jKD, [.tmp 2]⟩
abbrev jGi : Nat := 170
def qGd : LA := [mv 17 2, Wf 18 0 5, Wl 19 18, o_ 20 (.bslice 9 1 2 [.str []] [(0, 1, (.t 17)), (1, 1, (.t 19))]), o_ 21 (.call 122 [(.t 20)]), mv 8 21]
def qGc : LA := [mv 22 0, Wf 23 0 5, Wl 24 23, mv 25 8, o_ 26 (.call 220 [(.t 22), (.t 24), (.t 25)])]
def qGb : LA := [mv 27 3, Wi 28 .lss 27 16, mv 29 28, Wgf 30 1 5 29, Wgl 31 30 29, g_ 32 (.lenl (.t 31)) 29, g_ 33 (.bini .leq (.t 32) (i_ 1000)) 29, Wp 34 29 33, mv 35 8, o_ 36 (.call 167 [(.t 34), (i_ 68), (.t 35)])]
def qGa : LA := [Wf 37 5 5, Wl 38 37, mv 39 8, o_ 40 (.call 221 [(.t 38), (.c (.int .i32 1)), (.c (.int .i32 536870911)), (.t 39)])]
def qGZ : LA := [Wf 41 6 5, Wl 42 41, mv 43 8, o_ 44 (.call 222 [(.t 42), (.t 43)])]
def qGY : LA := [Wf 45 1 5, Wl 46 45, We 47 46, Wm 48 0]
def qGX : LA := [mv 50 48, mv 9 50]
def qGW : LA := [mv 51 0, Wd 52 7 5, mv 53 9, mv 54 8, o_ 55 (.call 223 [(.t 51), (.t 52), (.t 53), (.t 54)])]
def qGV : LA := [Wi 56 .add 48 1, mv 48 56]
def qGU : ACode := (.seq (.ops [Wb 49 .lss 48 47]) (.seq (.cond (.t 49) .skip (.exit 0)) (.seq (.block 1 (.seq (.ops qGX) (.ops qGW))) (.ops qGV))))
def zUc : LA := [Wf 57 2 5, Wl 58 57, We 59 58, Wm 60 0]
def zUb : LA := [mv 62 60, Wa 63 9 1 58 60, Wl 64 63, o_ 10 (.box 3 1 (i_ 0)), Ws 1 10 62, mv 11 64]
def zUa : LA := [mv 65 8, mv 66 11, o_ 67 (.bslice 9 1 2 [.str []] [(0, 1, (.t 65)), (1, 1, (.t 66))]), o_ 68 (.call 122 [(.t 67)]), mv 12 68]
def zUZ : LA := [mv 69 0, mv 70 11, mv 71 12, o_ 72 (.call 220 [(.t 69), (.t 70), (.t 71)])]
def zUY : LA := [Wf 73 1 5, Wl 74 73, o_ 75 (.mkfn 225 [] [(.t 10)]), o_ 76 (.call 224 [(.t 74), (.t 75)]), mv 77 12, o_ 78 (.call 167 [(.t 76), (i_ 64), (.t 77)])]
def zUX : LA := [Wi 79 .add 60 1, mv 60 79]
def zUW : ACode := (.seq (.ops [Wb 61 .lss 60 59]) (.seq (.cond (.t 61) .skip (.exit 2)) (.seq (.block 3 (.seq (.ops zUb) (.seq (.ops zUa) (.seq (.ops zUZ) (.ops zUY))))) (.ops zUX))))
def zUV : LA := [Wf 80 3 5, Wl 81 80, We 82 81, Wm 83 0]
def zUU : ACode := (.seq (.ops [Wb 84 .lss 83 82]) (.seq (.cond (.t 84) .bad (.exit 4)) .bad))
def zUT : LA := [Wf 94 4 5, Wl 95 94, We 96 95, Wm 97 0]
def zUS : ACode := (.seq (.ops [Wb 98 .lss 97 96]) (.seq (.cond (.t 98) .bad (.exit 6)) .bad))
def jKC : ACode := (.seq (.ops [o_ 5 (.box 159 7 (.t 1))]) (.seq (.ops qGd) (.seq (.ops qGc) (.seq (.ops qGb) (.seq (.ops qGa) (.seq (.ops qGZ) (.seq (.seq (.ops qGY) (.block 0 (.loop qGU))) (.seq (.seq (.ops zUc) (.block 2 (.loop zUW))) (.seq (.seq (.ops zUV) (.block 4 (.loop zUU))) (.seq (.ops zUT) (.block 6 (.loop zUS))))))))))))
def qOM : FC := ⟨106, jKC, []⟩
abbrev jGh : Nat := 171
def qGT : LA := [mv 10 2, Wf 11 0 4, Wl 12 11, o_ 13 (.bslice 9 1 2 [.str []] [(0, 1, (.t 10)), (1, 1, (.t 12))]), o_ 14 (.call 122 [(.t 13)]), mv 6 14]
def qGS : LA := [mv 15 0, Wf 16 0 4, Wl 17 16, mv 18 6, o_ 19 (.call 220 [(.t 15), (.t 17), (.t 18)])]
def qGR : LA := [Wf 20 1 4, Wl 21 20, We 22 21, Wi 23 .leq 22 1000, mv 24 6, o_ 25 (.call 167 [(.t 23), (i_ 68), (.t 24)])]
def qGQ : LA := [Wf 26 1 4, Wl 27 26, We 28 27, Wi 29 .gtr 28 0, mv 30 29, Wgf 31 1 4 30, Wgl 32 31 30, g_ 33 (.iaddr 167 2 (.t 32) (i_ 0)) 30, Wgf 34 1 33 30, Wgl 35 34 30, g_ 36 (.bini .eql (.t 35) (.c (.int .i32 0))) 30, Wp 37 30 36, mv 38 6, o_ 39 (.call 167 [(.t 37), (i_ 66), (.t 38)])]
def qGP : LA := [Wf 40 3 4, Wl 41 40, mv 42 6, o_ 43 (.call 221 [(.t 41), (.c (.int .i32 (-2147483648))), (.c (.int .i32 2147483647)), (.t 42)])]
def qGO : LA := [Wf 44 4 4, Wl 45 44, mv 46 2, o_ 47 (.call 222 [(.t 45), (.t 46)])]
def qGN : LA := [Wf 48 1 4, Wl 49 48, We 50 49, Wm 51 0]
def qGM : LA := [mv 53 51, Wa 54 167 2 49 51, Wd 55 2 54, o_ 8 (.box 167 2 (.c (.agg [.str [], .int .i32 0]))), mv 7 53, Ws 2 8 55]
def qGL : LA := [mv 56 2, Wf 57 0 8, Wl 58 57, o_ 59 (.bslice 9 1 2 [.str []] [(0, 1, (.t 56)), (1, 1, (.t 58))]), o_ 60 (.call 122 [(.t 59)]), mv 9 60]
def qGK : LA := [mv 61 0, Wf 62 0 8, Wl 63 62, mv 64 9, o_ 65 (.call 220 [(.t 61), (.t 63), (.t 64)])]
def zUR : LA := [Wf 66 4 4, Wl 67 66, Wf 68 0 8, Wl 69 68, o_ 70 (.call 132 [(.t 67), (.t 69)]), o_ 71 (.not (.t 70)), mv 72 71, Wgf 73 3 4 72, Wgl 74 73 72, Wgf 75 1 8 72, Wgl 76 75 72, g_ 77 (.call 226 [(.t 74), (.t 76)]) 72, g_ 78 (.not (.t 77)) 72, Wp 79 72 78, mv 80 9, o_ 81 (.call 167 [(.t 79), (i_ 63), (.t 80)])]
def zUQ : LA := [Wf 82 2 4, Wl 83 82, mv 84 83, Wh 85 (.faddr 1 (.t 4)) 84, Wh 86 (.ld1 (.t 85)) 84, Whm 87 7 84, Wh 88 (.slcl 167 2 (.t 86) none (some (.t 87)) none) 84, Wh 89 (.mkfn 228 [] [(.t 8)]) 84, Wh 90 (.call 227 [(.t 88), (.t 89)]) 84, Wh 91 (.not (.t 90)) 84, Wq 92 84 91, mv 93 9, o_ 94 (.call 167 [(.t 92), (i_ 66), (.t 93)])]
def zUP : LA := [Wi 95 .add 51 1, mv 51 95]
def zUO : ACode := (.seq (.ops [Wb 52 .lss 51 50]) (.seq (.cond (.t 52) .skip (.exit 0)) (.seq (.block 1 (.seq (.ops qGM) (.seq (.ops qGL) (.seq (.ops qGK) (.seq (.ops zUR) (.ops zUQ)))))) (.ops zUP))))
def jKB : ACode := (.seq (.ops [o_ 4 (.box 170 5 (.t 1))]) (.seq (.ops qGT) (.seq (.ops qGS) (.seq (.ops qGR) (.seq (.ops qGQ) (.seq (.ops qGP) (.seq (.ops qGO) (.seq (.ops qGN) (.block 0 (.loop zUO))))))))))
def qOL : FC := ⟨96, jKB, []⟩
abbrev jGg : Nat := 172
def qGJ : LA := [Wl 4 1, mv 3 4]
def qGI : LA := [mv 5 0, mv 6 3, o_ 7 (.callv (.t 5) [(.t 6)]), mv 8 7, Wgm 9 3 8, g_ 10 (.bins .neq (.t 9) (.c (.str []))) 8, Wp 11 8 10]
def qGH : LA := [mv 13 3, o_ 14 (.call 173 [(.t 13)]), mv 12 14, Wx 15 0 12, Wx 16 1 12, mv 3 15]
def qGG : ACode := (.seq (.seq (.ops qGI) (.cond (.t 11) .skip (.exit 0))) (.block 1 (.ops qGH)))
def jKA : ACode := (.seq (.ops qGJ) (.block 0 (.loop qGG)))
def qOK : FC := ⟨17, jKA, []⟩
abbrev jGf : Nat := 173
def qGF : LA := [o_ 2 (.mov (.c (.str []))), o_ 3 (.mov (.c (.str [])))]
def qGE : LA := [mv 5 0, o_ 6 (.call 229 [(.t 5), (.c (.int .u8 46))]), mv 4 6]
def qGD : LA := [mv 7 4, Wi 8 .lss 7 0]
def qGC : LA := [mv 9 0, o_ 2 (.mov (.c (.str []))), mv 3 9]
def qGB : LA := [mv 10 0, mv 11 4, o_ 12 (.slcs (.t 10) none (some (.t 11))), mv 13 0, mv 14 4, Wi 15 .add 14 1, o_ 16 (.slcs (.t 13) (some (.t 15)) none), mv 2 12, mv 3 16]
def jJz : ACode := (.seq (.ops qGF) (.seq (.ops qGE) (.seq (.seq (.ops qGD) (.cond (.t 8) (.seq (.ops qGC) .ret) .skip)) (.seq (.alts [10, 11, 12, 13, 14, 15, 16, 2, 3] [qGB]) .ret))))
def qOJ : FC := ⟨17, jJz, [.tmp 2, .tmp 3]⟩
abbrev jGe : Nat := 174
def qGA : LA := [mv 11 0, We 12 11]
def qFz : LA := [Wi 14 .eql 12 0, mv 13 14]
def qFy : LA := [Wi 16 .eql 12 1, mv 15 16]
def qFx : LA := [mv 20 1, o_ 21 (.lens (.t 20)), Wi 22 .gtr 21 0]
def qFw : LA := [mv 23 1, o_ 24 (.lens (.t 23)), mv 25 0, We 26 25, Wi 27 .sub 26 1, o_ 28 (.bini .quo (i_ 9223372036854775807) (.t 27)), Wb 29 .geq 24 28]
def qFv : LA := [mv 31 5, mv 32 1, o_ 33 (.lens (.t 32)), mv 34 0, We 35 34, Wi 36 .sub 35 1, Wb 37 .mul 33 36, Wb 38 .add 31 37, mv 5 38]
def qFu : LA := [mv 39 0, We 40 39, Wm 41 0]
def qFt : LA := [Wa 43 9 1 39 41, Wl 44 43, mv 7 44]
def qFs : LA := [mv 45 7, o_ 46 (.lens (.t 45)), mv 47 5, o_ 48 (.bini .sub (i_ 9223372036854775807) (.t 47)), Wb 49 .gtr 46 48]
def qFr : LA := [mv 51 5, mv 52 7, o_ 53 (.lens (.t 52)), Wb 54 .add 51 53, mv 5 54]
def zUN : LA := [Wi 55 .add 41 1, mv 41 55]
def zUM : ACode := (.seq (.ops [Wb 42 .lss 41 40]) (.seq (.cond (.t 42) .skip (.exit 1)) (.seq (.block 2 (.seq (.ops qFt) (.seq (.seq (.ops qFs) (.cond (.t 49) .bad .skip)) (.ops qFr)))) (.ops zUN))))
def zUL : LA := [mv 56 5, o_ 57 (.call 230 [(.t 8), (.t 56)])]
def zUK : LA := [mv 58 0, o_ 59 (.iaddr 9 1 (.t 58) (i_ 0)), Wl 60 59, o_ 61 (.call 231 [(.t 8), (.t 60)])]
def zUJ : LA := [mv 62 0, o_ 63 (.slcl 9 1 (.t 62) (some (i_ 1)) none none), We 64 63, Wm 65 0]
def zUI : LA := [Wa 67 9 1 63 65, Wl 68 67, mv 10 68]
def zUH : LA := [mv 69 1, o_ 70 (.call 231 [(.t 8), (.t 69)])]
def zUG : LA := [mv 71 10, o_ 72 (.call 231 [(.t 8), (.t 71)])]
def zUF : LA := [Wi 73 .add 65 1, mv 65 73]
def zUE : ACode := (.seq (.ops [Wb 66 .lss 65 64]) (.seq (.cond (.t 66) .skip (.exit 3)) (.seq (.block 4 (.seq (.ops zUI) (.seq (.ops zUH) (.ops zUG)))) (.ops zUF))))
def zUD : LA := [o_ 74 (.call 232 [(.t 8)]), mv 4 74]
def jJy : ACode := (.seq (.ops [o_ 4 (.mov (.c (.str [])))]) (.seq (.seq (.ops qGA) (.block 0 (.seq (.ops qFz) (.cond (.t 13) .bad (.seq (.ops qFy) (.cond (.t 15) .bad .skip)))))) (.seq (.ops [Wm 5 0]) (.seq (.seq (.ops qFx) (.cond (.t 22) (.seq (.seq (.ops qFw) (.cond (.t 29) .bad .skip)) (.ops qFv)) .bad)) (.seq (.seq (.ops qFu) (.block 1 (.loop zUM))) (.seq (.ops [o_ 8 (.box 435 2 (.c (.agg [.nilp, .nils])))]) (.seq (.ops zUL) (.seq (.ops zUK) (.seq (.seq (.ops zUJ) (.block 3 (.loop zUE))) (.seq (.ops zUD) .ret))))))))))
def qOI : FC := ⟨75, jJy, [.tmp 4]⟩
abbrev jGd : Nat := 175
def qFq : LA := [mv 10 6, Wm 7 0, mv 8 10]
def qFp : LA := [mv 11 8, mv 12 1, Wb 13 .leq 11 12]
def qFo : LA := [mv 14 0, mv 15 7, mv 16 8, mv 17 2, o_ 18 (.call 233 [(.t 14), (.t 15), (.t 16), (.t 17)])]
def qFn : LA := [mv 19 8, mv 7 19]
def qFm : LA := [mv 20 8, mv 21 6, Wb 22 .add 20 21, mv 8 22]
def qFl : ACode := (.seq (.seq (.ops qFp) (.cond (.t 13) .skip (.exit 0))) (.block 1 (.seq (.ops qFo) (.seq (.ops qFn) (.ops qFm)))))
def qFk : LA := [mv 23 0, mv 24 7, mv 25 1, mv 26 2, o_ 27 (.call 233 [(.t 23), (.t 24), (.t 25), (.t 26)])]
def qFj : LA := [mv 28 6, mv 29 1, Wb 30 .lss 28 29]
def qFi : LA := [mv 31 6, o_ 32 (.bini .mul (i_ 2) (.t 31)), Wm 7 0, mv 8 32]
def qFh : LA := [mv 33 8, mv 34 1, Wb 35 .leq 33 34]
def zUC : LA := [mv 36 0, mv 37 7, mv 38 7, mv 39 6, Wb 40 .add 38 39, mv 41 8, mv 42 2, o_ 43 (.call 234 [(.t 36), (.t 37), (.t 40), (.t 41), (.t 42)])]
def zUB : LA := [mv 44 8, mv 7 44]
def zUA : LA := [mv 45 8, mv 46 6, o_ 47 (.bini .mul (i_ 2) (.t 46)), Wb 48 .add 45 47, mv 8 48]
def zTz : ACode := (.seq (.seq (.ops qFh) (.cond (.t 35) .skip (.exit 4))) (.block 5 (.seq (.ops zUC) (.seq (.ops zUB) (.ops zUA)))))
def zTy : LA := [mv 49 7, mv 50 6, Wb 51 .add 49 50, mv 9 51]
def zTx : LA := [mv 52 9, mv 53 1, Wb 54 .lss 52 53]
def zTw : LA := [mv 55 0, mv 56 7, mv 57 9, mv 58 1, mv 59 2, o_ 60 (.call 234 [(.t 55), (.t 56), (.t 57), (.t 58), (.t 59)])]
def zTv : LA := [mv 61 6, Wi 62 .mul 61 2, mv 6 62]
def zTu : ACode := (.seq (.seq (.ops qFj) (.cond (.t 30) .skip (.exit 2))) (.block 3 (.seq (.ops qFi) (.seq (.block 4 (.loop zTz)) (.seq (.seq (.ops zTy) (.seq (.ops zTx) (.cond (.t 54) (.ops zTw) .skip))) (.ops zTv))))))
def jJx : ACode := (.seq (.ops [Wm 6 20]) (.seq (.ops qFq) (.seq (.block 0 (.loop qFl)) (.seq (.ops qFk) (.block 2 (.loop zTu))))))
def qOH : FC := ⟨63, jJx, []⟩
abbrev jGc : Nat := 176
def qFg : LA := [mv 3 0, mv 4 0, o_ 5 (.bins .neq (.t 3) (.t 4)), mv 2 5]
def jJw : ACode := (.seq (.ops [Wo 2 false]) (.seq (.ops qFg) .ret))
def qOG : FC := ⟨6, jJw, [.tmp 2]⟩
abbrev jGb : Nat := 177
def qFf : LA := [mv 3 0, mv 4 0, Wb 5 .neq 3 4, mv 2 5]
def jJv : ACode := (.seq (.ops [Wo 2 false]) (.seq (.ops qFf) .ret))
def qOF : FC := ⟨6, jJv, [.tmp 2]⟩
abbrev jGa : Nat := 178
def qFe : LA := [o_ 8 (.mov (.c (.str []))), o_ 9 (.mov (.c (.int .u8 0))), Wm 10 0]
def qFd : LA := [mv 20 0, mv 21 1, Wc 22 21, Wf 23 5 22, Wl 24 23, o_ 25 (.call 237 [(.t 24)]), o_ 26 (.call 116 [(.t 25)]), o_ 27 (.call 236 [(.t 20), (.t 26)]), mv 28 0, mv 29 0, o_ 30 (.call 91 [(.t 29)]), o_ 31 (.call 236 [(.t 28), (.t 30)]), mv 12 27, mv 13 31]
def qFc : LA := [mv 33 0, mv 34 12, mv 35 2, mv 36 3, o_ 37 (.call 238 [(.t 33), (.t 34), (.t 35), (.t 36)]), mv 32 37, Wx 38 0 32, Wx 39 1 32, mv 14 38, mv 15 39]
def qFb : LA := [mv 40 12, mv 41 14, o_ 42 (.call 239 [(.t 40), (.t 41)]), mv 16 42]
def qFa : LA := [mv 43 15, mv 44 43, Wgm 45 11 44, Wgm 46 16 44, g_ 47 (.callv (.t 45) [(.t 46)]) 44, Wp 48 44 47]
def qFZ : LA := [mv 49 14, mv 50 16, mv 8 49, mv 9 50, Wm 10 0]
def jJu : ACode := (.seq (.ops qFe) (.seq (.ops [o_ 11 (.mov (.f 235))]) (.seq (.ops qFd) (.seq (.ops qFc) (.seq (.ops qFb) (.seq (.seq (.ops qFa) (.cond (.t 48) (.seq (.ops qFZ) .ret) .bad)) .bad))))))
def qOE : FC := ⟨82, jJu, [.tmp 8, .tmp 9, .tmp 10]⟩
abbrev jGZ : Nat := 179
def qFY : LA := [mv 6 0, We 7 6, Wm 8 0]
def qFX : LA := [mv 10 8, mv 5 10]
def qFW : LA := [mv 11 1, mv 12 0, mv 13 5, Wa 14 9 1 12 13, Wl 15 14, o_ 16 (.bins .eql (.t 11) (.t 15))]
def qFV : LA := [Wi 18 .add 8 1, mv 8 18]
def qFU : ACode := (.seq (.ops [Wb 9 .lss 8 7]) (.seq (.cond (.t 9) .skip (.exit 0)) (.seq (.block 1 (.seq (.ops qFX) (.seq (.ops qFW) (.cond (.t 16) .bad .skip)))) (.ops qFV))))
def jJt : ACode := (.seq (.ops [Wm 4 0]) (.seq (.seq (.ops qFY) (.block 0 (.loop qFU))) (.seq (.ops [Wm 4 (-1)]) .ret)))
def qOD : FC := ⟨19, jJt, [.tmp 4]⟩
abbrev jGY : Nat := 180
def qFP : LA := [mv 8 1, Wi 9 .add 8 1, mv 6 9]
def qFO : LA := [mv 10 6, mv 11 2, Wb 12 .lss 10 11]
def qFN : LA := [mv 15 6, mv 7 15]
def qFM : LA := [mv 16 7, mv 17 1, Wb 18 .gtr 16 17, mv 19 18, Wgm 20 0 19, Wgm 21 7 19, g_ 22 (.iaddr 9 1 (.t 20) (.t 21)) 19, Wgl 23 22 19, Wgm 24 0 19, Wgm 25 7 19, g_ 26 (.bini .sub (.t 25) (i_ 1)) 19, g_ 27 (.iaddr 9 1 (.t 24) (.t 26)) 19, Wgl 28 27 19, g_ 29 (.call 186 [(.t 23), (.t 28)]) 19, Wp 30 19 29]
def qFL : LA := [mv 33 0, mv 34 7, mv 35 0, mv 36 7, Wi 37 .sub 36 1, mv 38 0, mv 39 7, Wi 40 .sub 39 1, Wa 41 9 1 38 40, Wl 42 41, mv 43 0, mv 44 7, Wa 45 9 1 43 44, Wl 46 45, Wa 47 9 1 33 34, Ws 1 47 42, Wa 48 9 1 35 37, Ws 1 48 46]
def qFK : LA := [mv 31 7, Wi 32 .sub 31 1, mv 7 32]
def qFJ : ACode := (.seq (.seq (.alts [16, 17, 18, 19, 20, 21, 22, 23, 24, 25, 26, 27, 28, 29, 30] [qFM]) (.cond (.t 30) .skip (.exit 2))) (.seq (.block 3 (.alts [33, 34, 35, 36, 37, 38, 39, 40, 41, 42, 43, 44, 45, 46, 47, 48] [qFL])) (.ops qFK)))
def qFI : LA := [mv 13 6, Wi 14 .add 13 1, mv 6 14]
def qFH : ACode := (.seq (.seq (.ops qFO) (.cond (.t 12) .skip (.exit 0))) (.seq (.block 1 (.seq (.ops qFN) (.block 2 (.loop qFJ)))) (.ops qFI)))
def jJs : ACode := (.seq (.ops qFP) (.block 0 (.loop qFH)))
def qOC : FC := ⟨49, jJs, []⟩
abbrev jGX : Nat := 186
def qFG : LA := [mv 5 0, o_ 6 (.call 176 [(.t 5)]), mv 7 6, Wgm 8 1 7, g_ 9 (.call 176 [(.t 8)]) 7, g_ 10 (.not (.t 9)) 7, Wp 11 7 10, mv 12 11, Whm 13 0 12, Whm 14 1 12, Wh 15 (.bins .lss (.t 13) (.t 14)) 12, Wq 16 12 15, mv 4 16]
def jJr : ACode := (.seq (.ops [Wo 4 false]) (.seq (.ops qFG) .ret))
def qOB : FC := ⟨17, jJr, [.tmp 4]⟩
abbrev jGW : Nat := 191
def qFF : LA := [Wm 2 0, Wm 3 0, Wo 4 false]
def qFE : LA := [mv 8 0, Wc 9 8, Wf 10 1 9, Wl 11 10, mv 5 11]
def qFD : LA := [mv 12 0, o_ 13 (.call 86 [(.t 12)]), mv 6 13]
def qFC : LA := [mv 14 0, Wc 15 14, Wf 16 3 15, Wl 17 16, Wi 18 .eql 17 0, mv 19 18, Wgm 20 6 19, Wgm 21 0 19, g_ 22 (.nilc (.t 21)) 19, Wgf 23 2 22 19, Wgl 24 23 19, Wgm 25 0 19, g_ 26 (.nilc (.t 25)) 19, Wgf 27 1 26 19, Wgl 28 27 19, g_ 29 (.bini .sub (.t 24) (.t 28)) 19, g_ 30 (.conv .u64 (.t 29)) 19, g_ 31 (.bini .gtr (.t 20) (.t 30)) 19, Wp 32 19 31]
def qFB : LA := [mv 33 0, mv 34 5, Wc 35 33, Wf 36 1 35, Ws 1 36 34]
def qFA : LA := [mv 37 0, mv 38 5, o_ 39 (.call 113 [(.t 37), (i_ 10), (.t 38)])]
def qEz : LA := [mv 40 0, Wc 41 40, Wf 42 3 41, Wl 43 42, Wi 44 .neq 43 0]
def qEy : LA := [Wm 2 0, Wm 3 0, Wo 4 false]
def qEx : LA := [mv 45 0, Wc 46 45, Wf 47 1 46, Wl 48 47, mv 7 48]
def qEw : LA := [mv 49 0, Wc 50 49, Wf 51 1 50, Wl 52 51, mv 53 6, o_ 54 (.conv .i64 (.t 53)), Wb 55 .add 52 54, Wc 56 49, Wf 57 1 56, Ws 1 57 55]
def zTt : LA := [mv 58 7, mv 59 0, Wc 60 59, Wf 61 1 60, Wl 62 61, mv 2 58, mv 3 62, Wo 4 true]
def jJq : ACode := (.seq (.ops qFF) (.seq (.ops qFE) (.seq (.ops qFD) (.seq (.seq (.alts [14, 15, 16, 17, 18, 19, 20, 21, 22, 23, 24, 25, 26, 27, 28, 29, 30, 31, 32] [qFC]) (.cond (.t 32) (.seq (.ops qFB) (.ops qFA)) .skip)) (.seq (.seq (.ops qEz) (.cond (.t 44) (.seq (.ops qEy) .ret) .skip)) (.seq (.ops qEx) (.seq (.ops qEw) (.seq (.alts [58, 59, 60, 61, 62, 2, 3, 4] [zTt]) .ret))))))))
def qOA : FC := ⟨63, jJq, [.tmp 2, .tmp 3, .tmp 4]⟩
abbrev jGV : Nat := 194
def qEv : LA := [mv 6 4, mv 2 6]
def qEu : LA := [mv 7 2, o_ 8 (.adr 19 1 (.t 1) (.t 7)), n_ (.st 1 (.t 8) (.f 247))]
def qEt : LA := [Wi 9 .add 4 1, mv 4 9]
def qEs : ACode := (.seq (.ops [Wi 5 .lss 4 19]) (.seq (.cond (.t 5) .skip (.exit 0)) (.seq (.block 1 (.seq (.ops qEv) (.ops qEu))) (.ops qEt))))
def qEr : LA := [mv 10 3, mv 11 3, o_ 12 (.adr 19 1 (.t 1) (.c (.int .u8 9))), Ws 1 12 10, o_ 13 (.adr 19 1 (.t 1) (.c (.int .u8 12))), Ws 1 13 11]
def qEq : LA := [o_ 14 (.adr 19 1 (.t 1) (.c (.int .u8 11))), n_ (.st 1 (.t 14) (.f 250))]
def qEp : LA := [Wd 15 19 1, Ws 19 0 15]
def jJp : ACode := (.seq (.ops [o_ 0 (.box 393 19 (.c (.agg [.nilf, .nilf, .nilf, .nilf, .nilf, .nilf, .nilf, .nilf, .nilf, .nilf, .nilf, .nilf, .nilf, .nilf, .nilf, .nilf, .nilf, .nilf, .nilf])))]) (.seq (.ops [o_ 1 (.box 393 19 (.c (.agg [.nilf, .nilf, .nilf, .nilf, .nilf, .nilf, .nilf, .nilf, .nilf, .nilf, .nilf, .nilf, .nilf, .nilf, .nilf, .nilf, .nilf, .nilf, .nilf])))]) (.seq (.seq (.ops [Wm 4 0]) (.block 0 (.loop qEs))) (.seq (.ops [o_ 3 (.mov (.f 249))]) (.seq (.ops qEr) (.seq (.ops qEq) (.seq (.ops qEp) .ret)))))))
def qNz : FC := ⟨16, jJp, [.cella 0 19]⟩
abbrev jGU : Nat := 195
def qEo : LA := [o_ 5 (.box 86 3 (.t 1)), o_ 8 (.mov (.c (.nilp)))]
def qEn : LA := [mv 18 3, Wi 19 .gtr 18 100]
def qEm : LA := [mv 24 0, Wc 25 24, Wf 26 0 25, Wl 27 26, Wf 28 0 5, Wl 29 28, o_ 30 (.inv [(81, 407)] (.t 27) [(.t 29)]), mv 23 30, Wx 31 0 23, Wx 32 1 23, mv 9 31, mv 10 32]
def qEl : LA := [mv 33 10, Wi 34 .neq 33 0]
def qEk : LA := [o_ 38 (.mkmap), mv 11 38]
def qEj : LA := [Wf 39 1 5, Wl 40 39, We 41 40, Wm 42 0]
def qEi : LA := [mv 44 42, Wa 45 91 3 40 42, Wd 46 3 45, o_ 13 (.box 91 3 (.c (.agg [.int .i32 (0), .nils, .nils]))), mv 12 44, Ws 3 13 46]
def qEh : LA := [mv 48 9, Wf 49 0 13, Wl 50 49, o_ 51 (.call 146 [(.t 48), (.t 50)]), mv 47 51, Wx 52 0 47, Wx 53 1 47, o_ 14 (.box 204 9 (.c (.agg [.int .i32 (0), .str [], .str [], .int .u8 (0), .int .u8 (0), .int .u8 (0), .bool false, .int .i64 (0), .str []]))), Ws 9 14 52, mv 15 53]
def qEg : LA := [mv 54 2, Wf 55 1 14, Wl 56 55, o_ 57 (.call 251 [(.t 54), (.t 56)]), mv 16 57]
def qEf : LA := [mv 58 15, o_ 59 (.not (.t 58))]
def zTs : LA := [mv 68 12, Wi 69 .gtr 68 0, mv 70 69, Wgf 71 0 13 70, Wgl 72 71 70, Wgf 73 1 5 70, Wgl 74 73 70, Wgm 75 12 70, g_ 76 (.bini .sub (.t 75) (i_ 1)) 70, g_ 77 (.iaddr 91 3 (.t 74) (.t 76)) 70, Wgf 78 0 77 70, Wgl 79 78 70, g_ 80 (.bini .leq (.t 72) (.t 79)) 70, Wp 81 70 80, mv 67 81]
def zTr : LA := [mv 86 15, o_ 87 (.not (.t 86)), mv 85 87]
def zTq : LA := [Wf 92 7 14, Wl 93 92, Wi 94 .gtr 93 0, mv 95 94, Wgm 96 11 95, Wgf 97 7 14 95, Wgl 98 97 95, g_ 99 (.mlook .i (.int .i32 0) false (.t 96) (.t 98)) 95, g_ 100 (.bini .gtr (.t 99) (.c (.int .i32 0))) 95, Wp 101 95 100, mv 91 101]
def zTp : LA := [mv 105 11, Wf 106 7 14, Wl 107 106, Wf 108 0 13, Wl 109 108, n_ (.mupd .i (.t 105) (.t 107) (.t 109))]
def zTo : LA := [mv 110 0, Wd 111 9 14, Wd 112 3 13, mv 113 16, mv 114 3, o_ 115 (.call 253 [(.t 110), (.t 111), (.t 112), (.t 113), (.t 114)]), mv 17 115]
def zTn : LA := [mv 116 17, o_ 117 (.isnil .pt true (.t 116))]
def zTm : LA := [Wi 119 .add 42 1, mv 42 119]
def zTl : ACode := (.seq (.ops [Wb 43 .lss 42 41]) (.seq (.cond (.t 43) .skip (.exit 0)) (.seq (.block 1 (.seq (.ops qEi) (.seq (.ops qEh) (.seq (.ops qEg) (.seq (.seq (.ops qEf) (.cond (.t 59) .bad .skip)) (.seq (.block 2 (.seq (.alts [68, 69, 70, 71, 72, 73, 74, 75, 76, 77, 78, 79, 80, 81, 67] [zTs]) (.cond (.t 67) .bad (.seq (.ops zTr) (.cond (.t 85) .bad (.seq (.ops zTq) (.cond (.t 91) .bad .skip))))))) (.seq (.ops zTp) (.seq (.ops zTo) (.seq (.ops zTn) (.cond (.t 117) .bad .skip)))))))))) (.ops zTm))))
def zTk : LA := [mv 120 0, mv 121 9, Wf 122 2 5, Wl 123 122, mv 124 2, mv 125 3, o_ 126 (.call 254 [(.t 120), (.t 121), (.t 123), (.t 124), (.t 125)]), mv 8 126]
def jJo : ACode := (.seq (.ops qEo) (.seq (.seq (.ops qEn) (.cond (.t 19) .bad .skip)) (.seq (.alts [24, 25, 26, 27, 28, 29, 30, 23, 31, 32, 9, 10] [qEm]) (.seq (.seq (.ops qEl) (.cond (.t 34) .bad .skip)) (.seq (.ops qEk) (.seq (.seq (.ops qEj) (.block 0 (.loop zTl))) (.seq (.ops zTk) .ret)))))))
def qNy : FC := ⟨127, jJo, [.tmp 8]⟩
abbrev jGT : Nat := 196
def qEe : LA := [o_ 1 (.box 204 9 (.t 0)), Wo 2 false]
def qEd : LA := [Wf 3 3 1, Wl 4 3, o_ 5 (.bini .eql (.t 4) (.c (.int .u8 1))), mv 6 5, Wgf 7 4 1 6, Wgl 8 7 6, g_ 9 (.bini .neq (.t 8) (.c (.int .u8 11))) 6, Wp 10 6 9, mv 11 10, Wgf 12 7 1 11, Wgl 13 12 11, g_ 14 (.bini .eql (.t 13) (i_ 0)) 11, Wp 15 11 14, mv 2 15]
def jJn : ACode := (.seq (.ops qEe) (.seq (.ops qEd) .ret))
def qNx : FC := ⟨16, jJn, [.tmp 2]⟩
abbrev jGS : Nat := 197
def qEc : LA := [o_ 1 (.box 95 3 (.t 0)), Wo 2 false]
def qEb : LA := [Wf 3 0 1, Wl 4 3, o_ 5 (.bini .eql (.t 4) (.c (.int .u64 0))), mv 6 5, Wgf 7 1 1 6, Wgl 8 7 6, g_ 9 (.bins .eql (.t 8) (.c (.str []))) 6, Wp 10 6 9, mv 11 10, Wgf 12 2 1 11, Wgl 13 12 11, g_ 14 (.lenl (.t 13)) 11, g_ 15 (.bini .eql (.t 14) (i_ 0)) 11, Wp 16 11 15, mv 2 16]
def jJm : ACode := (.seq (.ops qEc) (.seq (.ops qEb) .ret))
def qNw : FC := ⟨17, jJm, [.tmp 2]⟩
abbrev jGR : Nat := 198
def qEa : LA := [mv 9 0, We 10 9, Wm 11 0]
def qEZ : ACode := (.seq (.ops [Wb 12 .lss 11 10]) (.seq (.cond (.t 12) .bad (.exit 0)) .bad))
def qEY : LA := [mv 40 3, mv 2 40]
def jJl : ACode := (.seq (.ops [Wn 2]) (.seq (.ops [Wn 3]) (.seq (.seq (.ops qEa) (.block 0 (.loop qEZ))) (.seq (.ops qEY) .ret))))
def qNv : FC := ⟨41, jJl, [.tmp 2]⟩
abbrev jGQ : Nat := 199
def qEX : LA := [o_ 3 (.box 95 3 (.t 1)), o_ 4 (.box 95 3 (.c (.agg [.int .u64 (0), .str [], .nils])))]
def qEW : LA := [Wf 8 0 3, Wl 9 8, Wf 10 1 3, Wl 11 10, o_ 12 (.build [.int .u64 (0), .str [], .nils] [(0, 1, (.t 9)), (1, 1, (.t 11))]), o_ 5 (.box 95 3 (.c (.agg [.int .u64 (0), .str [], .nils]))), Ws 3 5 12]
def qEV : LA := [Wf 13 2 3, Wl 14 13, We 15 14, Wm 16 0]
def qEU : ACode := (.seq (.ops [Wb 17 .lss 16 15]) (.seq (.cond (.t 17) .bad (.exit 0)) .bad))
def qET : LA := [Wd 29 3 5, Ws 3 4 29]
def jJk : ACode := (.seq (.ops qEX) (.seq (.ops qEW) (.seq (.seq (.ops qEV) (.block 0 (.loop qEU))) (.seq (.ops qET) .ret))))
def qNu : FC := ⟨30, jJk, [.cella 4 3]⟩
abbrev jGP : Nat := 203
def qES : LA := [mv 5 0, o_ 6 (.bini .eql (.t 5) (.c (.int .u8 9))), mv 7 6, Whm 8 0 7, Wh 9 (.bini .eql (.t 8) (.c (.int .u8 12))) 7, Wq 10 7 9]
def qER : LA := [mv 11 0, mv 12 1, o_ 13 (.call 261 [(.t 11), (.t 12)]), Ws 3 4 13]
def jJj : ACode := (.seq (.ops [o_ 4 (.box 95 3 (.c (.agg [.int .u64 (0), .str [], .nils])))]) (.seq (.seq (.ops qES) (.cond (.t 10) (.seq (.ops qER) .ret) .bad)) .bad))
def qNt : FC := ⟨17, jJj, [.cella 4 3]⟩
abbrev jGO : Nat := 207
def qEQ : LA := [o_ 6 (.box 204 9 (.c (.agg [.int .i32 (0), .str [], .str [], .int .u8 (0), .int .u8 (0), .int .u8 (0), .bool false, .int .i64 (0), .str []]))), Wo 7 false]
def qEP : LA := [mv 8 2, o_ 9 (.not (.t 8))]
def qEO : LA := [mv 11 0, Wc 12 11, Wf 13 2 12, Wl 14 13, mv 15 1, Wa 16 204 9 14 15, Wd 17 9 16, Ws 9 6 17, Wo 7 true]
def jJi : ACode := (.seq (.ops qEQ) (.seq (.seq (.ops qEP) (.cond (.t 9) .bad .skip)) (.seq (.ops qEO) .ret)))
def qNs : FC := ⟨18, jJi, [.cella 6 9, .tmp 7]⟩
abbrev jGN : Nat := 208
def qEN : LA := [mv 3 0, o_ 4 (.call 263 [(.c (.nils)), (.t 3)]), mv 2 4]
def jJh : ACode := (.seq (.ops [Wn 2]) (.seq (.ops qEN) .ret))
def qNr : FC := ⟨5, jJh, [.tmp 2]⟩
abbrev jGM : Nat := 209
def qEM : LA := [mv 3 0, We 4 3, mv 2 4]
def qEL : LA := [mv 5 0, mv 6 2, mv 7 2, o_ 8 (.conv .u64 (.t 7)), o_ 9 (.call 134 [(.t 8)]), o_ 10 (.call 264 [(.t 5), (i_ 0), (.t 6), (.t 9)])]
def jJg : ACode := (.seq (.ops qEM) (.ops qEL))
def qNq : FC := ⟨11, jJg, []⟩
abbrev jGL : Nat := 210
def qEK : LA := [Wl 4 1, o_ 5 (.rngm (.t 4))]
def qEJ : LA := [o_ 6 (.nxm (.t 5)), Wx 7 0 6]
def qEI : LA := [o_ 8 (.entr (.t 5)), Wx 9 0 8, mv 3 9]
def qEH : LA := [mv 10 0, mv 11 3, o_ 12 (.callv (.t 10) [(.t 11)]), o_ 13 (.not (.t 12))]
def qEG : ACode := (.seq (.ops qEJ) (.seq (.cond (.t 7) .skip (.exit 0)) (.block 1 (.seq (.ops qEI) (.seq (.ops qEH) (.cond (.t 13) .bad .skip))))))
def jJf : ACode := (.seq (.ops qEK) (.block 0 (.loop qEG)))
def qNp : FC := ⟨14, jJf, []⟩
abbrev jGK : Nat := 213
def qEF : LA := [mv 3 0, o_ 4 (.isnilu false (.t 3))]
def qEE : LA := [o_ 5 (.bslice0 163), mv 6 0, o_ 7 (.app 163 9 80 (.t 5) (.t 6)), mv 2 7]
def jJe : ACode := (.seq (.ops [Wn 2]) (.seq (.seq (.ops qEF) (.cond (.t 4) (.seq (.ops [Wn 2]) .ret) .skip)) (.seq (.ops qEE) .ret)))
def qNo : FC := ⟨8, jJe, [.tmp 2]⟩
abbrev jGJ : Nat := 214
def qED : LA := [mv 3 0, o_ 4 (.isnilu false (.t 3))]
def qEC : LA := [o_ 5 (.bslice0 9), mv 6 0, o_ 7 (.app 9 1 16 (.t 5) (.t 6)), mv 2 7]
def jJd : ACode := (.seq (.ops [Wn 2]) (.seq (.seq (.ops qED) (.cond (.t 4) (.seq (.ops [Wn 2]) .ret) .skip)) (.seq (.ops qEC) .ret)))
def qNn : FC := ⟨8, jJd, [.tmp 2]⟩
abbrev jGI : Nat := 215
def qEB : LA := [mv 3 0, o_ 4 (.isnilu false (.t 3))]
def jJc : ACode := (.seq (.ops [Wn 2]) (.seq (.seq (.ops qEB) (.cond (.t 4) (.seq (.ops [Wn 2]) .ret) .bad)) .bad))
def qNm : FC := ⟨8, jJc, [.tmp 2]⟩
abbrev jGH : Nat := 216
def qEA : LA := [mv 3 0, o_ 4 (.isnilu false (.t 3))]
def qDz : LA := [o_ 5 (.bslice0 167), mv 6 0, o_ 7 (.app 167 2 24 (.t 5) (.t 6)), mv 2 7]
def jJb : ACode := (.seq (.ops [Wn 2]) (.seq (.seq (.ops qEA) (.cond (.t 4) .bad .skip)) (.seq (.ops qDz) .ret)))
def qNl : FC := ⟨8, jJb, [.tmp 2]⟩
abbrev jGG : Nat := 217
def qDy : LA := [o_ 2 (.box 151 1 (.t 0)), Wn 4]
def qDx : LA := [Wl 8 2, mv 9 5, o_ 10 (.bslice 9 1 1 [.str []] [(0, 1, (.t 9))]), o_ 11 (.app 9 1 16 (.t 8) (.t 10)), Ws 1 2 11]
def qDw : LA := [Wl 12 2, mv 4 12]
def jJa : ACode := (.seq (.ops qDy) (.seq (.seq (.ops [mv 6 1]) (.block 0 (.rngf (.t 6) [7] (.ops [mv 5 7]) (.block 1 (.ops qDx))))) (.seq (.ops qDw) .ret)))
def qNk : FC := ⟨13, jJa, [.tmp 4]⟩
abbrev jGF : Nat := 218
def qDv : LA := [mv 5 0, mv 6 1, o_ 7 (.call 277 [(.t 5), (.t 6), (i_ 0), (i_ (-1))]), mv 4 7]
def jJZ : ACode := (.seq (.ops [Wn 4]) (.seq (.ops qDv) .ret))
def qNj : FC := ⟨8, jJZ, [.tmp 4]⟩
abbrev jGE : Nat := 219
def qDu : LA := [mv 5 0, o_ 6 (.bins .eql (.t 5) (.c (.str []))), mv 7 6, Whm 8 0 7, Wh 9 (.lens (.t 8)) 7, Wh 10 (.bini .gtr (.t 9) (i_ 255)) 7, Wq 11 7 10, mv 12 11, Whm 13 0 12, Wh 14 (.idxs (.t 13) (i_ 0)) 12, Wh 15 (.call 278 [(.t 14)]) 12, Wq 16 12 15]
def qDt : LA := [mv 17 0, o_ 18 (.lens (.t 17)), Wm 19 0]
def qDs : LA := [mv 21 19, mv 3 21]
def qDr : LA := [mv 22 0, mv 23 3, o_ 24 (.idxs (.t 22) (.t 23)), mv 4 24]
def qDq : LA := [mv 25 4, o_ 26 (.call 279 [(.t 25)]), o_ 27 (.not (.t 26)), mv 28 27, Wgm 29 4 28, g_ 30 (.call 280 [(.t 29)]) 28, g_ 31 (.not (.t 30)) 28, Wp 32 28 31, mv 33 32, Wgm 34 4 33, g_ 35 (.call 278 [(.t 34)]) 33, g_ 36 (.not (.t 35)) 33, Wp 37 33 36, mv 38 37, Wgm 39 4 38, g_ 40 (.bini .neq (.t 39) (.c (.int .u8 95))) 38, Wp 41 38 40]
def qDp : LA := [Wi 42 .add 19 1, mv 19 42]
def qDo : ACode := (.seq (.ops [Wb 20 .lss 19 18]) (.seq (.cond (.t 20) .skip (.exit 0)) (.seq (.block 1 (.seq (.ops qDs) (.seq (.ops qDr) (.seq (.ops qDq) (.cond (.t 41) .bad .skip))))) (.ops qDp))))
def jJY : ACode := (.seq (.ops [Wo 2 false]) (.seq (.seq (.ops qDu) (.cond (.t 16) .bad .skip)) (.seq (.seq (.ops qDt) (.block 0 (.loop qDo))) (.seq (.ops [Wo 2 true]) .ret))))
def qNi : FC := ⟨43, jJY, [.tmp 2]⟩
abbrev jGD : Nat := 220
def qDn : LA := [mv 6 1, o_ 7 (.call 219 [(.t 6)]), mv 8 7, Wgm 9 2 8, g_ 10 (.lens (.t 9)) 8, g_ 11 (.bini .leq (.t 10) (i_ 255)) 8, Wp 12 8 11, mv 13 2, o_ 14 (.call 167 [(.t 12), (i_ 60), (.t 13)])]
def qDm : LA := [mv 15 0, Wc 16 15, Wf 17 0 16, Wl 18 17, mv 19 2, o_ 20 (.mlook .s (.int .i64 0) false (.t 18) (.t 19)), Wi 21 .add 20 1, n_ (.mupd .s (.t 18) (.t 19) (.t 21))]
def qDl : LA := [mv 22 0, Wc 23 22, Wf 24 0 23, Wl 25 24, mv 26 2, o_ 27 (.mlook .s (.int .i64 0) false (.t 25) (.t 26)), Wi 28 .eql 27 1, mv 29 2, o_ 30 (.call 167 [(.t 28), (i_ 61), (.t 29)])]
def jJX : ACode := (.seq (.ops qDn) (.seq (.ops qDm) (.ops qDl)))
def qNh : FC := ⟨31, jJX, []⟩
abbrev jGC : Nat := 221
def qDk : LA := [mv 12 0, We 13 12, Wm 14 0]
def qDj : ACode := (.seq (.ops [Wb 15 .lss 14 13]) (.seq (.cond (.t 15) .bad (.exit 0)) .bad))
def jJW : ACode := (.seq (.ops qDk) (.block 0 (.loop qDj)))
def qNg : FC := ⟨62, jJW, []⟩
abbrev jGB : Nat := 222
def qDi : LA := [mv 7 0, We 8 7, Wm 9 0]
def qDh : ACode := (.seq (.ops [Wb 10 .lss 9 8]) (.seq (.cond (.t 10) .bad (.exit 0)) .bad))
def jJV : ACode := (.seq (.ops qDi) (.block 0 (.loop qDh)))
def qNf : FC := ⟨31, jJV, []⟩
abbrev jGA : Nat := 223
def qDg : LA := [Wf 13 1 5, Wl 14 13, mv 15 2, Wa 16 163 9 14 15, Wd 17 9 16, Wf 18 1 5, mv 20 2, Wl 19 18, o_ 21 (.slcl 163 9 (.t 19) none (some (.t 20)) none), o_ 8 (.box 163 9 (.c (.agg [.str [], .int .i32 (0), .int .u8 (0), .int .u8 (0), .str [], .int .u8 (0), .int .i64 (0), .int .u8 (0), .str []]))), Ws 9 8 17, mv 9 21]
def qDf : LA := [Wf 13 1 5, Wl 14 13, mv 15 2, Wa 16 163 9 14 15, Wd 17 9 16, Wf 18 1 5, mv 20 2, Wl 19 18, o_ 8 (.box 163 9 (.c (.agg [.str [], .int .i32 (0), .int .u8 (0), .int .u8 (0), .str [], .int .u8 (0), .int .i64 (0), .int .u8 (0), .str []]))), o_ 21 (.slcl 163 9 (.t 19) none (some (.t 20)) none), Ws 9 8 17, mv 9 21]
def qDe : LA := [Wf 13 1 5, Wl 14 13, mv 15 2, Wa 16 163 9 14 15, Wd 17 9 16, Wf 18 1 5, mv 20 2, Wl 19 18, o_ 8 (.box 163 9 (.c (.agg [.str [], .int .i32 (0), .int .u8 (0), .int .u8 (0), .str [], .int .u8 (0), .int .i64 (0), .int .u8 (0), .str []]))), Ws 9 8 17, o_ 21 (.slcl 163 9 (.t 19) none (some (.t 20)) none), mv 9 21]
def qDd : LA := [Wf 13 1 5, Wl 14 13, mv 15 2, Wa 16 163 9 14 15, Wd 17 9 16, Wf 18 1 5, mv 20 2, o_ 8 (.box 163 9 (.c (.agg [.str [], .int .i32 (0), .int .u8 (0), .int .u8 (0), .str [], .int .u8 (0), .int .i64 (0), .int .u8 (0), .str []]))), Wl 19 18, o_ 21 (.slcl 163 9 (.t 19) none (some (.t 20)) none), Ws 9 8 17, mv 9 21]
def qDc : LA := [Wf 13 1 5, Wl 14 13, mv 15 2, Wa 16 163 9 14 15, Wd 17 9 16, Wf 18 1 5, mv 20 2, o_ 8 (.box 163 9 (.c (.agg [.str [], .int .i32 (0), .int .u8 (0), .int .u8 (0), .str [], .int .u8 (0), .int .i64 (0), .int .u8 (0), .str []]))), Wl 19 18, Ws 9 8 17, o_ 21 (.slcl 163 9 (.t 19) none (some (.t 20)) none), mv 9 21]
def qDb : LA := [Wf 13 1 5, Wl 14 13, mv 15 2, Wa 16 163 9 14 15, Wd 17 9 16, Wf 18 1 5, mv 20 2, o_ 8 (.box 163 9 (.c (.agg [.str [], .int .i32 (0), .int .u8 (0), .int .u8 (0), .str [], .int .u8 (0), .int .i64 (0), .int .u8 (0), .str []]))), Ws 9 8 17, Wl 19 18, o_ 21 (.slcl 163 9 (.t 19) none (some (.t 20)) none), mv 9 21]
def qDa : LA := [mv 22 3, Wf 23 0 8, Wl 24 23, o_ 25 (.bslice 9 1 2 [.str []] [(0, 1, (.t 22)), (1, 1, (.t 24))]), o_ 26 (.call 122 [(.t 25)]), mv 10 26]
def qDZ : LA := [mv 27 0, Wf 28 0 8, Wl 29 28, mv 30 10, o_ 31 (.call 220 [(.t 27), (.t 29), (.t 30)])]
def qDY : LA := [Wf 32 6 5, Wl 33 32, Wf 34 0 8, Wl 35 34, o_ 36 (.call 132 [(.t 33), (.t 35)]), o_ 37 (.not (.t 36)), mv 38 10, o_ 39 (.call 167 [(.t 37), (i_ 63), (.t 38)])]
def qDX : LA := [Wf 40 1 8, Wl 41 40, o_ 42 (.call 281 [(.t 41)]), mv 43 42, Wgm 44 9 43, g_ 45 (.mkfn 282 [] [(.t 8)]) 43, g_ 46 (.call 224 [(.t 44), (.t 45)]) 43, g_ 47 (.not (.t 46)) 43, Wp 48 43 47, mv 49 10, o_ 50 (.call 167 [(.t 48), (i_ 62), (.t 49)])]
def zTj : LA := [Wf 51 5 5, Wl 52 51, Wf 53 1 8, Wl 54 53, o_ 55 (.call 226 [(.t 52), (.t 54)]), o_ 56 (.not (.t 55)), mv 57 10, o_ 58 (.call 167 [(.t 56), (i_ 63), (.t 57)])]
def zTi : LA := [Wf 59 2 8, Wl 60 59, o_ 61 (.bini .geq (.t 60) (.c (.int .u8 1))), mv 62 61, Wgf 63 2 8 62, Wgl 64 63 62, g_ 65 (.bini .leq (.t 64) (.c (.int .u8 4))) 62, Wp 66 62 65, mv 67 66, Wgf 68 3 8 67, Wgl 69 68 67, g_ 70 (.bini .eql (.t 69) (.c (.int .u8 0))) 67, Wgm 71 70 67, Wh 72 (.faddr 3 (.t 8)) 71, Wh 73 (.ld1 (.t 72)) 71, Wh 74 (.call 283 [(.t 73)]) 71, g_ 75 (.pick (.t 71) (.c (.bool true)) (.t 74)) 67, Wp 76 67 75, mv 77 10, o_ 78 (.call 167 [(.t 76), (i_ 69), (.t 77)])]
def zTh : LA := [Wf 79 3 8, Wl 80 79, o_ 81 (.call 284 [(.t 80)])]
def zTg : LA := [Wf 82 4 8, Wl 83 82, o_ 84 (.call 285 [(.t 83)]), mv 85 10, o_ 86 (.call 167 [(.t 84), (i_ 69), (.t 85)])]
def zTf : LA := [Wf 87 4 8, Wl 88 87, o_ 89 (.bins .eql (.t 88) (.c (.str []))), mv 90 10, o_ 91 (.call 167 [(.t 89), (i_ 69), (.t 90)])]
def zTe : LA := [Wf 92 2 8, Wl 93 92, o_ 94 (.bini .eql (.t 93) (.c (.int .u8 4)))]
def zTd : LA := [Wf 95 5 8, Wl 96 95, o_ 97 (.call 286 [(.t 96)]), mv 98 10, o_ 99 (.call 167 [(.t 97), (i_ 65), (.t 98)])]
def zTc : LA := [Wf 100 5 8, Wl 101 100, o_ 102 (.bini .eql (.t 101) (.c (.int .u8 0))), mv 103 10, o_ 104 (.call 167 [(.t 102), (i_ 65), (.t 103)])]
def zTb : LA := [Wf 105 6 8, Wl 106 105, Wi 107 .geq 106 0, mv 108 107, Wgf 109 6 8 108, Wgl 110 109 108, Wgf 111 2 5 108, Wgl 112 111 108, g_ 113 (.lenl (.t 112)) 108, g_ 114 (.bini .leq (.t 110) (.t 113)) 108, Wp 115 108 114, mv 116 115, Wgf 117 6 8 116, Wgl 118 117 116, g_ 119 (.bini .eql (.t 118) (i_ 0)) 116, Wgm 120 119 116, Wh 121 (.faddr 2 (.t 8)) 120, Wh 122 (.ld1 (.t 121)) 120, Wh 123 (.bini .eql (.t 122) (.c (.int .u8 1))) 120, g_ 124 (.pick (.t 120) (.c (.bool true)) (.t 123)) 116, Wp 125 116 124, mv 126 10, o_ 127 (.call 167 [(.t 125), (i_ 64), (.t 126)])]
def zTa : LA := [Wf 128 7 8, Wl 129 128, o_ 130 (.bini .leq (.t 129) (.c (.int .u8 2))), mv 131 130, Wgf 132 7 8 131, Wgl 133 132 131, g_ 134 (.bini .eql (.t 133) (.c (.int .u8 0))) 131, Wgm 135 134 131, Wh 136 (.faddr 2 (.t 8)) 135, Wh 137 (.ld1 (.t 136)) 135, Wh 138 (.bini .eql (.t 137) (.c (.int .u8 3))) 135, Whm 139 138 135, Wgf 140 3 8 139, Wgl 141 140 139, g_ 142 (.call 287 [(.t 141)]) 139, Wh 143 (.pick (.t 139) (.t 142) (.c (.bool false))) 135, g_ 144 (.pick (.t 135) (.c (.bool true)) (.t 143)) 131, Wp 145 131 144, mv 146 10, o_ 147 (.call 167 [(.t 145), (i_ 67), (.t 146)])]
def zTZ : LA := [Wf 148 8 8, Wl 149 148, o_ 150 (.call 288 [(.t 149)]), Wi 151 .lss 150 0, mv 152 151, Wgf 153 8 8 152, Wgl 154 153 152, g_ 155 (.lens (.t 154)) 152, g_ 156 (.bini .leq (.t 155) (i_ 255)) 152, Wp 157 152 156, mv 158 157, Wgf 159 8 8 158, Wgl 160 159 158, g_ 161 (.call 289 [(.t 160), (.c (.str [64]))]) 158, g_ 162 (.not (.t 161)) 158, Wp 163 158 162, mv 164 10, o_ 165 (.call 167 [(.t 163), (i_ 60), (.t 164)])]
def zTY : LA := [mv 166 9, We 167 166, Wm 168 0]
def zTX : LA := [Wa 170 163 9 166 168, Wd 171 9 170, o_ 12 (.box 163 9 (.c (.agg [.str [], .int .i32 (0), .int .u8 (0), .int .u8 (0), .str [], .int .u8 (0), .int .i64 (0), .int .u8 (0), .str []]))), Ws 9 12 171]
def zTW : LA := [Wd 172 9 12, Wd 174 9 8, mv 191 10, o_ 173 (.acall 290 [(.t 172)]), o_ 175 (.acall 290 [(.t 174)]), o_ 176 (.bins .neq (.t 173) (.t 175)), mv 177 176, g_ 178 (.lda 9 (.t 12)) 177, Wgf 180 0 8 177, Wgl 181 180 177, g_ 179 (.acall 290 [(.t 178)]) 177, g_ 182 (.bins .neq (.t 179) (.t 181)) 177, Wp 183 177 182, mv 184 183, Wgf 185 0 12 184, Wgl 186 185 184, g_ 187 (.lda 9 (.t 8)) 184, g_ 188 (.acall 290 [(.t 187)]) 184, g_ 189 (.bins .neq (.t 186) (.t 188)) 184, Wp 190 184 189, o_ 192 (.acall 167 [(.t 190), (i_ 61), (.t 191)])]
def zTV : LA := [Wi 193 .add 168 1, mv 168 193]
def zTU : ACode := (.seq (.ops [Wb 169 .lss 168 167]) (.seq (.cond (.t 169) .skip (.exit 0)) (.seq (.block 1 (.seq (.ops zTX) (.alts [172, 173, 174, 175, 176, 177, 178, 179, 180, 181, 182, 183, 184, 185, 186, 187, 188, 189, 190, 191, 192] [zTW]))) (.ops zTV))))
def jJU : ACode := (.seq (.ops [o_ 5 (.box 159 7 (.t 1))]) (.seq (.alts [13, 14, 15, 16, 17, 18, 19, 20, 21, 8, 9] [qDg, qDf, qDe, qDd, qDc, qDb]) (.seq (.ops qDa) (.seq (.ops qDZ) (.seq (.ops qDY) (.seq (.ops qDX) (.seq (.ops zTj) (.seq (.ops zTi) (.seq (.seq (.ops zTh) (.cond (.t 81) (.ops zTg) (.ops zTf))) (.seq (.seq (.ops zTe) (.cond (.t 94) (.ops zTd) (.ops zTc))) (.seq (.ops zTb) (.seq (.ops zTa) (.seq (.ops zTZ) (.seq (.ops zTY) (.block 0 (.loop zTU))))))))))))))))
def qNe : FC := ⟨194, jJU, []⟩
abbrev jFz : Nat := 224
def qDW : LA := [mv 5 0, mv 6 1, o_ 7 (.call 291 [(.t 5), (.t 6)]), Wi 8 .geq 7 0, mv 4 8]
def jJT : ACode := (.seq (.ops [Wo 4 false]) (.seq (.ops qDW) .ret))
def qNd : FC := ⟨9, jJT, [.tmp 4]⟩
abbrev jFy : Nat := 225
def qDV : LA := [o_ 2 (.box 163 9 (.t 0)), Wo 3 false]
def qDU : LA := [Wf 4 6 2, Wl 5 4, Wl 6 1, Wi 7 .add 6 1, Wb 8 .eql 5 7, mv 3 8]
def jJS : ACode := (.seq (.ops qDV) (.seq (.ops qDU) .ret))
def qNc : FC := ⟨9, jJS, [.tmp 3]⟩
abbrev jFx : Nat := 226
def qDT : LA := [o_ 3 (.box 21 1 (.t 1)), Wo 4 false]
def qDS : LA := [mv 5 0, o_ 6 (.mkfn 293 [] [(.t 3)]), o_ 7 (.call 292 [(.t 5), (.t 6)]), mv 4 7]
def jJR : ACode := (.seq (.ops qDT) (.seq (.ops qDS) .ret))
def qNb : FC := ⟨8, jJR, [.tmp 4]⟩
abbrev jFw : Nat := 227
def qDR : LA := [mv 5 0, mv 6 1, o_ 7 (.call 294 [(.t 5), (.t 6)]), Wi 8 .geq 7 0, mv 4 8]
def jJQ : ACode := (.seq (.ops [Wo 4 false]) (.seq (.ops qDR) .ret))
def qNa : FC := ⟨9, jJQ, [.tmp 4]⟩
abbrev jFv : Nat := 229
def qDQ : LA := [mv 5 0, mv 6 1, o_ 7 (.call 295 [(.t 5), (.t 6)]), mv 4 7]
def jJP : ACode := (.seq (.ops [Wm 4 0]) (.seq (.ops qDQ) .ret))
def qNZ : FC := ⟨8, jJP, [.tmp 4]⟩
abbrev jFu : Nat := 230
def qDP : LA := [mv 4 0, o_ 5 (.call 296 [(.t 4)])]
def qDO : LA := [mv 6 1, Wi 7 .lss 6 0]
def qDN : LA := [mv 9 0, Wc 10 9, Wf 11 1 10, Wl 12 11, o_ 13 (.capk (.t 12)), mv 14 0, Wc 15 14, Wf 16 1 15, Wl 17 16, We 18 17, Wb 19 .sub 13 18, mv 20 1, Wb 21 .lss 19 20]
def qDM : LA := [mv 22 0, mv 23 1, o_ 24 (.call 297 [(.t 22), (.t 23)])]
def jJO : ACode := (.seq (.ops qDP) (.seq (.seq (.ops qDO) (.cond (.t 7) .bad .skip)) (.seq (.alts [9, 10, 11, 12, 13, 14, 15, 16, 17, 18, 19, 20, 21] [qDN]) (.cond (.t 21) (.ops qDM) .bad))))
def qNY : FC := ⟨25, jJO, []⟩
abbrev jFt : Nat := 231
def qDL : LA := [Wm 4 0, o_ 5 (.mov (.c (.nili)))]
def qDK : LA := [mv 6 0, o_ 7 (.call 296 [(.t 6)])]
def qDJ : LA := [mv 8 0, mv 9 0, Wc 10 9, Wf 11 1 10, Wl 12 11, mv 13 1, o_ 14 (.app 5 1 1 (.t 12) (.t 13)), Wc 15 8, Wf 16 1 15, Ws 1 16 14]
def qDI : LA := [mv 17 1, o_ 18 (.lens (.t 17)), mv 4 18, o_ 5 (.mov (.c (.nili)))]
def jJN : ACode := (.seq (.ops qDL) (.seq (.ops qDK) (.seq (.ops qDJ) (.seq (.ops qDI) .ret))))
def qNX : FC := ⟨19, jJN, [.tmp 4, .tmp 5]⟩
abbrev jFs : Nat := 232
def qDH : LA := [mv 3 0, Wc 4 3, Wf 5 1 4, Wl 6 5, o_ 7 (.usd (.t 6)), mv 8 0, Wc 9 8, Wf 10 1 9, Wl 11 10, We 12 11, o_ 13 (.ustr 5 (.t 7) (.t 12)), mv 2 13]
def jJM : ACode := (.seq (.ops [o_ 2 (.mov (.c (.str [])))]) (.seq (.alts [3, 4, 5, 6, 7, 8, 9, 10, 11, 12, 13, 2] [qDH]) .ret))
def qNW : FC := ⟨14, jJM, [.tmp 2]⟩
abbrev jFr : Nat := 233
def qDG : LA := [mv 10 1, Wi 11 .add 10 1, mv 8 11]
def qDF : LA := [mv 12 8, mv 13 2, Wb 14 .lss 12 13]
def qDE : LA := [mv 17 8, mv 9 17]
def qDD : LA := [mv 18 9, mv 19 1, Wb 20 .gtr 18 19, mv 21 20, Wgm 22 3 21, Wgm 23 0 21, Wgm 24 9 21, g_ 25 (.iaddr 201 3 (.t 23) (.t 24)) 21, g_ 26 (.lda 3 (.t 25)) 21, Wgm 27 0 21, Wgm 28 9 21, g_ 29 (.bini .sub (.t 28) (i_ 1)) 21, g_ 30 (.iaddr 201 3 (.t 27) (.t 29)) 21, g_ 31 (.lda 3 (.t 30)) 21, g_ 32 (.callv (.t 22) [(.t 26), (.t 31)]) 21, g_ 33 (.bini .lss (.t 32) (i_ 0)) 21, Wp 34 21 33]
def qDC : LA := [mv 37 0, mv 38 9, mv 39 0, mv 40 9, Wi 41 .sub 40 1, mv 42 0, mv 43 9, Wi 44 .sub 43 1, Wa 45 201 3 42 44, Wd 46 3 45, mv 47 0, mv 48 9, Wa 49 201 3 47 48, Wd 50 3 49, Wa 51 201 3 37 38, Ws 3 51 46, Wa 52 201 3 39 41, Ws 3 52 50]
def qDB : LA := [mv 35 9, Wi 36 .sub 35 1, mv 9 36]
def qDA : ACode := (.seq (.seq (.alts [18, 19, 20, 21, 22, 23, 24, 25, 26, 27, 28, 29, 30, 31, 32, 33, 34] [qDD]) (.cond (.t 34) .skip (.exit 2))) (.seq (.block 3 (.alts [37, 38, 39, 40, 41, 42, 43, 44, 45, 46, 47, 48, 49, 50, 51, 52] [qDC])) (.ops qDB)))
def qCz : LA := [mv 15 8, Wi 16 .add 15 1, mv 8 16]
def qCy : ACode := (.seq (.seq (.ops qDF) (.cond (.t 14) .skip (.exit 0))) (.seq (.block 1 (.seq (.ops qDE) (.block 2 (.loop qDA)))) (.ops qCz)))
def jJL : ACode := (.seq (.ops qDG) (.block 0 (.loop qCy)))
def qNV : FC := ⟨53, jJL, []⟩
abbrev jFq : Nat := 234
def qCx : LA := [mv 25 2, mv 26 1, Wb 27 .sub 25 26, Wi 28 .eql 27 1]
def qCw : LA := [mv 29 2, mv 10 29]
def qCv : LA := [mv 30 3, mv 11 30]
def qCu : LA := [mv 31 10, mv 32 11, Wb 33 .lss 31 32]
def qCt : LA := [mv 34 10, mv 35 11, Wb 36 .add 34 35, o_ 37 (.conv .u64 (.t 36)), o_ 38 (.bini .shr (.t 37) (.c (.int .u64 1))), o_ 39 (.conv .i64 (.t 38)), mv 12 39]
def qCs : LA := [mv 40 4, mv 41 0, mv 42 12, Wa 43 201 3 41 42, Wd 44 3 43, mv 45 0, mv 46 1, Wa 47 201 3 45 46, Wd 48 3 47, o_ 49 (.callv (.t 40) [(.t 44), (.t 48)]), Wi 50 .lss 49 0]
def qCr : LA := [mv 51 12, Wi 52 .add 51 1, mv 10 52]
def qCq : LA := [mv 53 12, mv 11 53]
def qCp : ACode := (.seq (.seq (.ops qCu) (.cond (.t 33) .skip (.exit 0))) (.block 1 (.seq (.ops qCt) (.seq (.alts [40, 41, 42, 43, 44, 45, 46, 47, 48, 49, 50] [qCs]) (.cond (.t 50) (.ops qCr) (.ops qCq))))))
def qCo : LA := [mv 54 1, mv 13 54]
def zTT : LA := [mv 55 13, mv 56 10, Wi 57 .sub 56 1, Wb 58 .lss 55 57]
def zTS : LA := [mv 61 0, mv 62 13, mv 63 0, mv 64 13, Wi 65 .add 64 1, mv 66 0, mv 67 13, Wi 68 .add 67 1, Wa 69 201 3 66 68, Wd 70 3 69, mv 71 0, mv 72 13, Wa 73 201 3 71 72, Wd 74 3 73, Wa 75 201 3 61 62, Ws 3 75 70, Wa 76 201 3 63 65, Ws 3 76 74]
def zTR : LA := [mv 59 13, Wi 60 .add 59 1, mv 13 60]
def zTQ : ACode := (.seq (.seq (.ops zTT) (.cond (.t 58) .skip (.exit 2))) (.seq (.block 3 (.alts [61, 62, 63, 64, 65, 66, 67, 68, 69, 70, 71, 72, 73, 74, 75, 76] [zTS])) (.ops zTR)))
def zTP : LA := [mv 77 3, mv 78 2, Wb 79 .sub 77 78, Wi 80 .eql 79 1]
def zTO : LA := [mv 81 1, mv 14 81]
def zTN : LA := [mv 82 2, mv 15 82]
def zTM : LA := [mv 83 14, mv 84 15, Wb 85 .lss 83 84]
def zTL : LA := [mv 86 14, mv 87 15, Wb 88 .add 86 87, o_ 89 (.conv .u64 (.t 88)), o_ 90 (.bini .shr (.t 89) (.c (.int .u64 1))), o_ 91 (.conv .i64 (.t 90)), mv 16 91]
def zTK : LA := [mv 92 4, mv 93 0, mv 94 2, Wa 95 201 3 93 94, Wd 96 3 95, mv 97 0, mv 98 16, Wa 99 201 3 97 98, Wd 100 3 99, o_ 101 (.callv (.t 92) [(.t 96), (.t 100)]), Wi 102 .lss 101 0, o_ 103 (.not (.t 102))]
def zTJ : LA := [mv 104 16, Wi 105 .add 104 1, mv 14 105]
def zTI : LA := [mv 106 16, mv 15 106]
def zTH : ACode := (.seq (.seq (.ops zTM) (.cond (.t 85) .skip (.exit 4))) (.block 5 (.seq (.ops zTL) (.seq (.alts [92, 93, 94, 95, 96, 97, 98, 99, 100, 101, 102, 103] [zTK]) (.cond (.t 103) (.ops zTJ) (.ops zTI))))))
def zTG : LA := [mv 107 2, mv 17 107]
def zTF : LA := [mv 108 17, mv 109 14, Wb 110 .gtr 108 109]
def zTE : LA := [mv 113 0, mv 114 17, mv 115 0, mv 116 17, Wi 117 .sub 116 1, mv 118 0, mv 119 17, Wi 120 .sub 119 1, Wa 121 201 3 118 120, Wd 122 3 121, mv 123 0, mv 124 17, Wa 125 201 3 123 124, Wd 126 3 125, Wa 127 201 3 113 114, Ws 3 127 122, Wa 128 201 3 115 117, Ws 3 128 126]
def zTD : LA := [mv 111 17, Wi 112 .sub 111 1, mv 17 112]
def zTC : ACode := (.seq (.seq (.ops zTF) (.cond (.t 110) .skip (.exit 6))) (.seq (.block 7 (.alts [113, 114, 115, 116, 117, 118, 119, 120, 121, 122, 123, 124, 125, 126, 127, 128] [zTE])) (.ops zTD)))
def zTB : LA := [mv 129 1, mv 130 3, Wb 131 .add 129 130, o_ 132 (.conv .u64 (.t 131)), o_ 133 (.bini .shr (.t 132) (.c (.int .u64 1))), o_ 134 (.conv .i64 (.t 133)), mv 18 134]
def zTA : LA := [mv 135 18, mv 136 2, Wb 137 .add 135 136, mv 19 137]
def zSz : LA := [Wm 20 0, Wm 21 0]
def zSy : LA := [mv 138 2, mv 139 18, Wb 140 .gtr 138 139]
def zSx : LA := [mv 141 19, mv 142 3, Wb 143 .sub 141 142, mv 20 143]
def zSw : LA := [mv 144 18, mv 21 144]
def zSv : LA := [mv 145 1, mv 20 145]
def zSu : LA := [mv 146 2, mv 21 146]
def zSt : LA := [mv 147 19, Wi 148 .sub 147 1, mv 22 148]
def zSs : LA := [mv 149 20, mv 150 21, Wb 151 .lss 149 150]
def zSr : LA := [mv 152 20, mv 153 21, Wb 154 .add 152 153, o_ 155 (.conv .u64 (.t 154)), o_ 156 (.bini .shr (.t 155) (.c (.int .u64 1))), o_ 157 (.conv .i64 (.t 156)), mv 23 157]
def zSq : LA := [mv 158 4, mv 159 0, mv 160 22, mv 161 23, Wb 162 .sub 160 161, Wa 163 201 3 159 162, Wd 164 3 163, mv 165 0, mv 166 23, Wa 167 201 3 165 166, Wd 168 3 167, o_ 169 (.callv (.t 158) [(.t 164), (.t 168)]), Wi 170 .lss 169 0, o_ 171 (.not (.t 170))]
def zSp : LA := [mv 172 23, Wi 173 .add 172 1, mv 20 173]
def zSo : LA := [mv 174 23, mv 21 174]
def zSn : ACode := (.seq (.seq (.ops zSs) (.cond (.t 151) .skip (.exit 8))) (.block 9 (.seq (.ops zSr) (.seq (.alts [158, 159, 160, 161, 162, 163, 164, 165, 166, 167, 168, 169, 170, 171] [zSq]) (.cond (.t 171) (.ops zSp) (.ops zSo))))))
def zSm : LA := [mv 175 19, mv 176 20, Wb 177 .sub 175 176, mv 24 177]
def zSl : LA := [mv 178 20, mv 179 2, Wb 180 .lss 178 179, mv 181 180, Wgm 182 2 181, Wgm 183 24 181, g_ 184 (.bini .lss (.t 182) (.t 183)) 181, Wp 185 181 184]
def zSk : LA := [mv 186 0, mv 187 20, mv 188 2, mv 189 24, mv 190 4, o_ 191 (.call 298 [(.t 186), (.t 187), (.t 188), (.t 189), (.t 190)])]
def zSj : LA := [mv 192 1, mv 193 20, Wb 194 .lss 192 193, mv 195 194, Wgm 196 20 195, Wgm 197 18 195, g_ 198 (.bini .lss (.t 196) (.t 197)) 195, Wp 199 195 198]
def zSi : LA := [mv 200 0, mv 201 1, mv 202 20, mv 203 18, mv 204 4, o_ 205 (.call 234 [(.t 200), (.t 201), (.t 202), (.t 203), (.t 204)])]
def zSh : LA := [mv 206 18, mv 207 24, Wb 208 .lss 206 207, mv 209 208, Wgm 210 24 209, Wgm 211 3 209, g_ 212 (.bini .lss (.t 210) (.t 211)) 209, Wp 213 209 212]
def zSg : LA := [mv 214 0, mv 215 18, mv 216 24, mv 217 3, mv 218 4, o_ 219 (.call 234 [(.t 214), (.t 215), (.t 216), (.t 217), (.t 218)])]
def jJK : ACode := (.seq (.seq (.ops qCx) (.cond (.t 28) (.seq (.ops qCw) (.seq (.ops qCv) (.seq (.block 0 (.loop qCp)) (.seq (.seq (.ops qCo) (.block 2 (.loop zTQ))) .ret)))) .skip)) (.seq (.seq (.ops zTP) (.cond (.t 80) (.seq (.ops zTO) (.seq (.ops zTN) (.seq (.block 4 (.loop zTH)) (.seq (.seq (.ops zTG) (.block 6 (.loop zTC))) .ret)))) .skip)) (.seq (.ops zTB) (.seq (.ops zTA) (.seq (.ops zSz) (.seq (.seq (.ops zSy) (.cond (.t 140) (.seq (.ops zSx) (.ops zSw)) (.seq (.ops zSv) (.ops zSu)))) (.seq (.ops zSt) (.seq (.block 8 (.loop zSn)) (.seq (.ops zSm) (.seq (.seq (.ops zSl) (.cond (.t 185) (.ops zSk) .skip)) (.seq (.seq (.ops zSj) (.cond (.t 199) (.ops zSi) .skip)) (.seq (.ops zSh) (.cond (.t 213) (.ops zSg) .skip)))))))))))))
def qNU : FC := ⟨220, jJK, []⟩
abbrev jFp : Nat := 235
def qCn : LA := [mv 3 0, o_ 4 (.bini .eql (.t 3) (.c (.int .u8 1))), mv 5 4, Whm 6 0 5, Wh 7 (.bini .eql (.t 6) (.c (.int .u8 2))) 5, Wq 8 5 7, mv 2 8]
def jJJ : ACode := (.seq (.ops [Wo 2 false]) (.seq (.ops qCn) .ret))
def qNT : FC := ⟨9, jJJ, [.tmp 2]⟩
abbrev jFo : Nat := 236
def qCm : LA := [mv 8 1, We 9 8, Wm 10 0]
def qCl : LA := [Wa 12 9 1 8 10, Wl 13 12, mv 7 13]
def qCk : LA := [mv 14 5, mv 15 0, Wc 16 15, Wf 17 0 16, Wl 18 17, mv 19 7, o_ 20 (.mlook .s (.nilp) false (.t 18) (.t 19)), o_ 21 (.bslice 244 1 1 [.nilp] [(0, 1, (.t 20))]), o_ 22 (.app 244 1 8 (.t 14) (.t 21)), mv 5 22]
def qCj : LA := [Wi 23 .add 10 1, mv 10 23]
def qCi : ACode := (.seq (.ops [Wb 11 .lss 10 9]) (.seq (.cond (.t 11) .skip (.exit 0)) (.seq (.block 1 (.seq (.ops qCl) (.ops qCk))) (.ops qCj))))
def qCh : LA := [mv 24 5, mv 4 24]
def jJI : ACode := (.seq (.ops [Wn 4]) (.seq (.ops [Wn 5]) (.seq (.seq (.ops qCm) (.block 0 (.loop qCi))) (.seq (.ops qCh) .ret))))
def qNS : FC := ⟨25, jJI, [.tmp 4]⟩
abbrev jFn : Nat := 237
def qCg : LA := [o_ 1 (.box 246 1 (.t 0)), o_ 2 (.mov (.c (.nilf)))]
def qCf : LA := [o_ 3 (.mkfn 299 [] [(.t 1)]), mv 2 3]
def jJH : ACode := (.seq (.ops qCg) (.seq (.ops qCf) .ret))
def qNR : FC := ⟨4, jJH, [.tmp 2]⟩
abbrev jFm : Nat := 238
def qCe : LA := [o_ 5 (.box 442 1 (.t 1)), o_ 7 (.box 9 1 (.t 3)), o_ 8 (.box 9 1 (.c (.str []))), o_ 9 (.box 4 1 (.c (.bool false)))]
def qCd : LA := [Wl 22 7, o_ 23 (.call 300 [(.t 22), (.c (.str [46]))]), mv 21 23, Wx 24 0 21, Wx 25 1 21, mv 10 24, mv 11 25]
def qCc : LA := [Wl 29 7, o_ 30 (.call 301 [(.t 29), (.c (.str [46]))]), mv 28 30, Wx 31 0 28, Wx 32 1 28, Wx 33 2 28, o_ 12 (.box 9 1 (.c (.str []))), o_ 14 (.box 4 1 (.c (.bool false))), Ws 1 12 31, mv 13 32, Ws 1 14 33]
def qCb : LA := [mv 34 2, o_ 35 (.call 120 [(.t 34)])]
def qCa : LA := [mv 37 15, Wl 38 12, o_ 39 (.bslice 9 1 2 [.str []] [(0, 1, (.t 37)), (1, 1, (.t 38))]), o_ 40 (.call 122 [(.t 39)]), mv 16 40]
def qCZ : LA := [Wl 41 5, We 42 41, Wm 43 0]
def qCY : LA := [Wa 45 244 1 41 43, Wl 46 45, mv 18 46]
def qCX : LA := [mv 47 18, Wc 48 47, Wf 49 6 48, Wl 50 49, mv 51 16, o_ 52 (.mlook .s (.int .u8 0) false (.t 50) (.t 51)), mv 19 52]
def qCW : LA := [Wl 53 14, mv 54 53, Wgm 55 18 54, g_ 56 (.nilc (.t 55)) 54, Wgf 57 0 56 54, Wgf 58 1 57 54, Wgl 59 58 54, Wgm 60 16 54, g_ 61 (.bins .eql (.t 59) (.t 60)) 54, Wgm 62 61 54, Whm 63 18 62, Wh 64 (.nilc (.t 63)) 62, Wh 65 (.faddr 0 (.t 64)) 62, Wh 66 (.faddr 1 (.t 65)) 62, Wh 67 (.ld1 (.t 66)) 62, Whm 68 16 62, Wh 69 (.bins .add (.t 68) (.c (.str [46]))) 62, Wh 70 (.call 302 [(.t 67), (.t 69)]) 62, g_ 71 (.pick (.t 62) (.c (.bool true)) (.t 70)) 54, Wp 72 54 71, mv 20 72]
def qCV : LA := [mv 73 19, o_ 74 (.bini .eql (.t 73) (.c (.int .u8 1))), mv 75 74, Wh 76 (.ld1 (.t 14)) 75, Wh 77 (.not (.t 76)) 75, Whm 78 77 75, Wgm 79 19 78, g_ 80 (.bini .eql (.t 79) (.c (.int .u8 2))) 78, Wh 81 (.pick (.t 78) (.t 80) (.c (.bool false))) 75, Wq 82 75 81, mv 83 82, Whm 84 20 83, Wq 85 83 84]
def zSf : LA := [mv 86 15, Wl 87 7, o_ 88 (.bslice 9 1 2 [.str []] [(0, 1, (.t 86)), (1, 1, (.t 87))]), o_ 89 (.call 122 [(.t 88)]), Ws 1 8 89, n_ (.st 1 (.t 9) (.c (.bool true)))]
def zSe : LA := [Wi 90 .add 43 1, mv 43 90]
def zSd : ACode := (.seq (.ops [Wb 44 .lss 43 42]) (.seq (.cond (.t 44) .skip (.exit 2)) (.seq (.block 3 (.seq (.ops qCY) (.seq (.ops qCX) (.seq (.ops qCW) (.seq (.ops qCV) (.cond (.t 85) (.seq (.ops zSf) .ret) .skip)))))) (.ops zSe))))
def zSc : LA := [n_ (.st 1 (.t 8) (.c (.str []))), n_ (.st 1 (.t 9) (.c (.bool false)))]
def jJG : ACode := (.seq (.ops qCe) (.seq (.seq (.ops qCd) (.seq (.ops [mv 26 11]) (.cond (.t 26) .bad .skip))) (.seq (.ops qCc) (.seq (.seq (.ops qCb) (.block 0 (.rngf (.t 35) [36] (.ops [mv 15 36]) (.block 1 (.seq (.ops qCa) (.seq (.ops qCZ) (.block 2 (.loop zSd)))))))) (.seq (.ops zSc) .ret)))))
def qNQ : FC := ⟨91, jJG, [.cell1 8, .cell1 9]⟩
abbrev jFl : Nat := 239
def qCU : LA := [mv 8 0, We 9 8, Wm 10 0]
def qCT : LA := [Wa 12 244 1 8 10, Wl 13 12, mv 6 13]
def qCS : LA := [mv 14 6, Wc 15 14, Wf 16 6 15, Wl 17 16, mv 18 1, o_ 19 (.mlook .s (.int .u8 0) false (.t 17) (.t 18)), mv 7 19]
def qCR : LA := [mv 20 7, o_ 21 (.bini .neq (.t 20) (.c (.int .u8 0)))]
def qCQ : LA := [mv 22 7, mv 4 22]
def qCP : LA := [Wi 23 .add 10 1, mv 10 23]
def qCO : ACode := (.seq (.ops [Wb 11 .lss 10 9]) (.seq (.cond (.t 11) .skip .bad) (.seq (.block 1 (.seq (.ops qCT) (.seq (.ops qCS) (.seq (.ops qCR) (.cond (.t 21) (.seq (.ops qCQ) .ret) .bad))))) (.ops qCP))))
def jJF : ACode := (.seq (.ops [o_ 4 (.mov (.c (.int .u8 0)))]) (.seq (.seq (.ops qCU) (.block 0 (.loop qCO))) (.seq (.ops [o_ 4 (.mov (.c (.int .u8 0)))]) .ret)))
def qNP : FC := ⟨24, jJF, [.tmp 4]⟩
abbrev jFk : Nat := 249
def qCN : LA := [o_ 2 (.box 95 3 (.t 0)), Wo 4 false]
def qCM : LA := [Wf 5 0 2, Wl 6 5, o_ 7 (.bini .eql (.t 6) (.c (.int .u64 0))), mv 8 7, Wgf 9 2 2 8, Wgl 10 9 8, g_ 11 (.lenl (.t 10)) 8, g_ 12 (.bini .eql (.t 11) (i_ 0)) 8, Wp 13 8 12, mv 4 13]
def jJE : ACode := (.seq (.ops qCN) (.seq (.ops qCM) .ret))
def qNO : FC := ⟨14, jJE, [.tmp 4]⟩
abbrev jFj : Nat := 251
def qCL : LA := [mv 5 0, o_ 6 (.bins .eql (.t 5) (.c (.str [])))]
def qCK : LA := [mv 7 1, mv 4 7]
def jJD : ACode := (.seq (.ops [o_ 4 (.mov (.c (.str [])))]) (.seq (.seq (.ops qCL) (.cond (.t 6) (.seq (.ops qCK) .ret) .bad)) .bad))
def qNN : FC := ⟨12, jJD, [.tmp 4]⟩
abbrev jFi : Nat := 253
def qCJ : LA := [o_ 6 (.box 204 9 (.t 1)), o_ 7 (.box 91 3 (.t 2)), o_ 10 (.mov (.c (.nilp)))]
def qCI : LA := [Wf 18 3 6, Wl 19 18, o_ 20 (.bini .eql (.t 19) (.c (.int .u8 3))), mv 21 20, Wh 22 (.faddr 3 (.t 6)) 21, Wh 23 (.ld1 (.t 22)) 21, Wh 24 (.bini .eql (.t 23) (.c (.int .u8 4))) 21, Wq 25 21 24, mv 11 25]
def qCH : LA := [Wf 26 3 6, Wl 27 26, o_ 28 (.bini .eql (.t 27) (.c (.int .u8 4)))]
def qCG : LA := [Wf 32 2 7, Wl 33 32, We 34 33, Wi 35 .eql 34 0, mv 36 35, Whm 37 11 36, Wh 38 (.not (.t 37)) 36, Whm 39 38 36, Wgf 40 2 7 39, Wgl 41 40 39, g_ 42 (.lenl (.t 41)) 39, g_ 43 (.bini .gtr (.t 42) (i_ 1)) 39, Wh 44 (.pick (.t 39) (.t 43) (.c (.bool false))) 36, Wq 45 36 44, mv 46 45, Wh 47 (.faddr 1 (.t 7)) 46, Wh 48 (.ld1 (.t 47)) 46, Wh 49 (.lenl (.t 48)) 46, Whm 50 12 46, Wh 51 (.bini .neq (.t 49) (.t 50)) 46, Wq 52 46 51]
def qCF : LA := [Wf 56 2 7, Wl 57 56, We 58 57, Wm 59 0]
def qCE : LA := [mv 61 59, Wa 62 95 3 57 59, Wd 63 3 62, o_ 14 (.box 95 3 (.c (.agg [.int .u64 (0), .str [], .nils]))), mv 13 61, Ws 3 14 63]
def qCD : LA := [mv 64 3, mv 15 64]
def qCC : LA := [Wf 72 3 6, Wl 73 72, o_ 74 (.bini .eql (.t 73) (.c (.int .u8 4)))]
def qCB : LA := [mv 89 0, Wf 90 4 6, Wl 91 90, Wf 92 8 6, Wl 93 92, Wd 94 3 14, mv 95 15, mv 96 4, o_ 97 (.call 309 [(.t 89), (.t 91), (.t 93), (.t 94), (.t 95), (.t 96)]), mv 17 97]
def qCA : LA := [mv 98 17, o_ 99 (.isnil .pt true (.t 98))]
def zSb : LA := [Wi 101 .add 59 1, mv 59 101]
def zSa : ACode := (.seq (.ops [Wb 60 .lss 59 58]) (.seq (.cond (.t 60) .skip (.exit 0)) (.seq (.block 1 (.seq (.ops qCE) (.seq (.ops qCD) (.seq (.seq (.ops [mv 65 11]) (.cond (.t 65) .bad .skip)) (.seq (.seq (.ops qCC) (.cond (.t 74) .bad .skip)) (.seq (.ops qCB) (.seq (.ops qCA) (.cond (.t 99) .bad .skip)))))))) (.ops zSb))))
def jJC : ACode := (.seq (.ops qCJ) (.seq (.ops qCI) (.seq (.ops [Wm 12 0]) (.seq (.seq (.ops qCH) (.cond (.t 28) .bad .skip)) (.seq (.seq (.ops qCG) (.cond (.t 52) .bad .skip)) (.seq (.seq (.ops qCF) (.block 0 (.loop zSa))) (.seq (.ops [o_ 10 (.mov (.c (.nilp)))]) .ret)))))))
def qNM : FC := ⟨102, jJC, [.tmp 10]⟩
abbrev jFh : Nat := 254
def qBz : LA := [o_ 6 (.box 267 1 (.t 1)), o_ 8 (.box 9 1 (.t 3)), o_ 10 (.box 397 1 (.c (.nilp)))]
def qBy : LA := [mv 17 2, mv 18 4, o_ 19 (.bini .sub (i_ 100) (.t 18)), o_ 20 (.call 310 [(.t 17), (.t 19)]), mv 16 20, Wx 21 0 16, Wx 22 1 16, mv 11 21, mv 12 22]
def qBx : LA := [mv 23 11, Wi 24 .neq 23 0]
def qBw : LA := [mv 28 2, mv 29 4, o_ 30 (.bini .sub (i_ 100) (.t 29)), o_ 31 (.call 311 [(.t 28), (.t 30)])]
def qBv : LA := [o_ 13 (.box 222 5 (.c (.agg [.int .i32 (0), .int .u8 (0), .int .i64 (0), .int .u64 (0), .nils]))), Ws 5 13 32]
def qBu : LA := [Wl 34 6, Wf 35 0 13, Wl 36 35, o_ 37 (.call 146 [(.t 34), (.t 36)]), mv 33 37, Wx 38 0 33, Wx 39 1 33, o_ 14 (.box 204 9 (.c (.agg [.int .i32 (0), .str [], .str [], .int .u8 (0), .int .u8 (0), .int .u8 (0), .bool false, .int .i64 (0), .str []]))), Ws 9 14 38, mv 15 39]
def qBt : LA := [mv 40 15, mv 41 40, g_ 42 (.lda 9 (.t 14)) 41, Wgf 43 1 13 41, Wgl 44 43 41, g_ 45 (.call 312 [(.t 42), (.t 44)]) 41, Wp 46 41 45]
def qBs : LA := [Wl 47 8, o_ 48 (.build [.int .i64 (0), .str []] [(0, 1, (i_ 106)), (1, 1, (.t 47))]), o_ 49 (.box 400 2 (.t 48)), Ws 1 10 49]
def jJB : ACode := (.seq (.ops qBz) (.seq (.seq (.ops qBy) (.seq (.ops qBx) (.cond (.t 24) .bad .skip))) (.seq (.seq (.ops qBw) (.block 0 (.rngf (.t 31) [32] (.ops qBv) (.block 1 (.seq (.ops qBu) (.seq (.ops qBt) (.cond (.t 46) (.seq (.ops qBs) .ret) .skip))))))) (.seq (.ops [n_ (.st 1 (.t 10) (.c (.nilp)))]) .ret))))
def qNL : FC := ⟨50, jJB, [.cell1 10]⟩
abbrev jFg : Nat := 261
def qBr : LA := [mv 7 1, o_ 8 (.call 317 [(.t 7)]), mv 5 8]
def qBq : LA := [mv 9 1, o_ 10 (.call 153 [(.t 9)])]
def qBp : LA := [mv 11 0, o_ 12 (.bini .eql (.t 11) (.c (.int .u8 9)))]
def qBo : LA := [mv 13 5, o_ 14 (.call 318 [(.t 13)]), mv 6 14]
def qBn : LA := [mv 15 6, Wi 16 .geq 15 0]
def qBm : LA := [mv 26 5, o_ 27 (.b2s (.t 26)), o_ 28 (.build [.int .u64 (0), .str [], .nils] [(1, 1, (.t 27))]), Ws 3 4 28]
def jJA : ACode := (.seq (.ops [o_ 4 (.box 95 3 (.c (.agg [.int .u64 (0), .str [], .nils])))]) (.seq (.ops qBr) (.seq (.ops qBq) (.seq (.seq (.ops qBp) (.cond (.t 12) (.seq (.ops qBo) (.seq (.ops qBn) (.cond (.t 16) .bad .skip))) .bad)) (.seq (.ops qBm) .ret)))))
def qNK : FC := ⟨29, jJA, [.cella 4 3]⟩
abbrev jFf : Nat := 263
def qBl : LA := [o_ 2 (.box 353 1 (.t 0)), Wn 4]
def qBk : LA := [Wl 8 2, mv 9 5, o_ 10 (.bslice 21 1 1 [.int .i32 0] [(0, 1, (.t 9))]), o_ 11 (.app 21 1 4 (.t 8) (.t 10)), Ws 1 2 11]
def qBj : LA := [Wl 12 2, mv 4 12]
def jIz : ACode := (.seq (.ops qBl) (.seq (.seq (.ops [mv 6 1]) (.block 0 (.rngf (.t 6) [7] (.ops [mv 5 7]) (.block 1 (.ops qBk))))) (.seq (.ops qBj) .ret)))
def qNJ : FC := ⟨13, jIz, [.tmp 4]⟩
abbrev jFe : Nat := 264
def qBi : LA := [mv 19 2, mv 20 1, Wb 21 .sub 19 20, mv 10 21]
def qBh : LA := [mv 22 10, Wi 23 .leq 22 12]
def qBg : LA := [mv 24 0, mv 25 1, mv 26 2, o_ 27 (.call 320 [(.t 24), (.t 25), (.t 26)])]
def qBf : ACode := (.block 1 (.seq (.ops qBi) (.seq (.seq (.ops qBh) (.cond (.t 23) (.seq (.ops qBg) .ret) .bad)) .bad)))
def jIy : ACode := (.seq (.ops [Wo 8 true]) (.seq (.ops [Wo 9 true]) (.block 0 (.loop qBf))))
def qNI : FC := ⟨134, jIy, []⟩
abbrev jFd : Nat := 277
def qBe : LA := [mv 12 3, Wi 13 .eql 12 0]
def qBd : LA := [mv 14 1, o_ 15 (.bins .eql (.t 14) (.c (.str [])))]
def qBc : LA := [mv 19 3, Wi 20 .lss 19 0]
def qBb : LA := [mv 21 0, mv 22 1, o_ 23 (.call 333 [(.t 21), (.t 22)]), Wi 24 .add 23 1, mv 3 24]
def qBa : LA := [mv 25 3, mv 26 0, o_ 27 (.lens (.t 26)), Wi 28 .add 27 1, o_ 29 (.mn (.t 25) (.t 28)), mv 3 29]
def qBZ : LA := [mv 30 3, o_ 31 (.mkslice 9 1 16 [.str []] (.t 30) (.t 30)), mv 9 31]
def qBY : LA := [mv 32 3, Wi 33 .sub 32 1, mv 3 33]
def qBX : LA := [mv 34 10, mv 35 3, Wb 36 .lss 34 35]
def qBW : ACode := (.seq (.seq (.ops qBX) (.cond (.t 36) .bad (.exit 0))) .bad)
def qBV : LA := [mv 58 9, mv 59 10, mv 60 0, Wa 61 9 1 58 59, Ws 1 61 60]
def zSZ : LA := [mv 62 9, mv 63 10, Wi 64 .add 63 1, o_ 65 (.slcl 9 1 (.t 62) none (some (.t 64)) none), mv 8 65]
def jIx : ACode := (.seq (.ops [Wn 8]) (.seq (.seq (.ops qBe) (.cond (.t 13) .bad .skip)) (.seq (.seq (.ops qBd) (.cond (.t 15) .bad .skip)) (.seq (.seq (.ops qBc) (.cond (.t 20) (.ops qBb) .bad)) (.seq (.ops qBa) (.seq (.ops qBZ) (.seq (.ops qBY) (.seq (.ops [Wm 10 0]) (.seq (.block 0 (.loop qBW)) (.seq (.ops qBV) (.seq (.ops zSZ) .ret)))))))))))
def qNH : FC := ⟨66, jIx, [.tmp 8]⟩
abbrev jFc : Nat := 278
def qBU : LA := [mv 3 0, o_ 4 (.bini .geq (.t 3) (.c (.int .u8 48))), mv 5 4, Wgm 6 0 5, g_ 7 (.bini .leq (.t 6) (.c (.int .u8 57))) 5, Wp 8 5 7, mv 2 8]
def jIw : ACode := (.seq (.ops [Wo 2 false]) (.seq (.ops qBU) .ret))
def qNG : FC := ⟨9, jIw, [.tmp 2]⟩
abbrev jFb : Nat := 279
def qBT : LA := [mv 3 0, o_ 4 (.bini .geq (.t 3) (.c (.int .u8 97))), mv 5 4, Wgm 6 0 5, g_ 7 (.bini .leq (.t 6) (.c (.int .u8 122))) 5, Wp 8 5 7, mv 2 8]
def jIv : ACode := (.seq (.ops [Wo 2 false]) (.seq (.ops qBT) .ret))
def qNF : FC := ⟨9, jIv, [.tmp 2]⟩
abbrev jFa : Nat := 280
def qBS : LA := [mv 3 0, o_ 4 (.bini .geq (.t 3) (.c (.int .u8 65))), mv 5 4, Wgm 6 0 5, g_ 7 (.bini .leq (.t 6) (.c (.int .u8 90))) 5, Wp 8 5 7, mv 2 8]
def jIu : ACode := (.seq (.ops [Wo 2 false]) (.seq (.ops qBS) .ret))
def qNE : FC := ⟨9, jIu, [.tmp 2]⟩
abbrev jFZ : Nat := 281
def qBR : LA := [mv 3 0, o_ 4 (.bini .geq (.t 3) (.c (.int .i32 1))), mv 5 4, Wgm 6 0 5, g_ 7 (.bini .leq (.t 6) (.c (.int .i32 536870911))) 5, Wp 8 5 7, mv 9 8, Wgm 10 0 9, g_ 11 (.bini .lss (.t 10) (.c (.int .i32 19000))) 9, Wgm 12 11 9, Whm 13 0 12, Wh 14 (.bini .gtr (.t 13) (.c (.int .i32 19999))) 12, g_ 15 (.pick (.t 12) (.c (.bool true)) (.t 14)) 9, Wp 16 9 15, mv 2 16]
def jIt : ACode := (.seq (.ops [Wo 2 false]) (.seq (.ops qBR) .ret))
def qND : FC := ⟨17, jIt, [.tmp 2]⟩
abbrev jFY : Nat := 282
def qBQ : LA := [o_ 2 (.box 163 9 (.t 0)), Wo 3 false]
def qBP : LA := [Wf 4 1 2, Wl 5 4, Wf 6 1 1, Wl 7 6, Wb 8 .eql 5 7, mv 3 8]
def jIs : ACode := (.seq (.ops qBQ) (.seq (.ops qBP) .ret))
def qNC : FC := ⟨9, jIs, [.tmp 3]⟩
abbrev jFX : Nat := 283
def qBO : LA := [mv 3 0, o_ 4 (.bini .geq (.t 3) (.c (.int .u8 1))), mv 5 4, Wgm 6 0 5, g_ 7 (.bini .leq (.t 6) (.c (.int .u8 18))) 5, Wp 8 5 7, mv 9 8, Wgm 10 0 9, g_ 11 (.bini .neq (.t 10) (.c (.int .u8 10))) 9, Wp 12 9 11, mv 2 12]
def jIr : ACode := (.seq (.ops [Wo 2 false]) (.seq (.ops qBO) .ret))
def qNB : FC := ⟨13, jIr, [.tmp 2]⟩
abbrev jFW : Nat := 284
def qBN : LA := [mv 3 0, o_ 4 (.bini .eql (.t 3) (.c (.int .u8 0))), mv 5 4, Whm 6 0 5, Wh 7 (.bini .eql (.t 6) (.c (.int .u8 11))) 5, Wq 8 5 7, mv 9 8, Whm 10 0 9, Wh 11 (.bini .eql (.t 10) (.c (.int .u8 14))) 9, Wq 12 9 11, mv 2 12]
def jIq : ACode := (.seq (.ops [Wo 2 false]) (.seq (.ops qBN) .ret))
def qNA : FC := ⟨13, jIq, [.tmp 2]⟩
abbrev jFV : Nat := 285
def qBM : LA := [mv 6 0, o_ 7 (.call 300 [(.t 6), (.c (.str [46]))]), mv 5 7, Wx 8 0 5, Wx 9 1 5, mv 3 8, mv 4 9]
def qBL : LA := [mv 18 0, o_ 19 (.call 169 [(.t 18)]), mv 2 19]
def jIp : ACode := (.seq (.ops [Wo 2 false]) (.seq (.seq (.ops qBM) (.seq (.ops [mv 10 4]) (.cond (.t 10) .bad .skip))) (.seq (.ops qBL) .ret)))
def qMz : FC := ⟨20, jIp, [.tmp 2]⟩
abbrev jFU : Nat := 286
def qBK : LA := [mv 3 0, o_ 4 (.call 283 [(.t 3)]), mv 5 4, Wgm 6 0 5, g_ 7 (.bini .neq (.t 6) (.c (.int .u8 1))) 5, Wp 8 5 7, mv 9 8, Wgm 10 0 9, g_ 11 (.bini .neq (.t 10) (.c (.int .u8 2))) 9, Wp 12 9 11, mv 13 12, Wgm 14 0 13, g_ 15 (.bini .neq (.t 14) (.c (.int .u8 12))) 13, Wp 16 13 15, mv 17 16, Wgm 18 0 17, g_ 19 (.bini .neq (.t 18) (.c (.int .u8 11))) 17, Wp 20 17 19, mv 21 20, Wgm 22 0 21, g_ 23 (.bini .neq (.t 22) (.c (.int .u8 14))) 21, Wp 24 21 23, mv 2 24]
def jIo : ACode := (.seq (.ops [Wo 2 false]) (.seq (.ops qBK) .ret))
def qMy : FC := ⟨25, jIo, [.tmp 2]⟩
abbrev jFT : Nat := 288
def qBJ : LA := [mv 7 0, o_ 8 (.rngs (.t 7))]
def qBI : LA := [o_ 9 (.nxs (.t 8)), Wx 10 0 9]
def qBH : LA := [Wx 11 1 9, Wx 12 2 9, mv 3 11, mv 4 12]
def qBG : LA := [mv 13 4, o_ 14 (.bini .neq (.t 13) (.c (.int .i32 65533)))]
def qBF : ACode := (.seq (.ops qBI) (.seq (.cond (.t 10) .skip (.exit 0)) (.block 1 (.seq (.ops qBH) (.seq (.seq (.ops qBG) (.cond (.t 14) (.exit 1) .bad)) .bad)))))
def jIn : ACode := (.seq (.ops [Wm 2 0]) (.seq (.seq (.ops qBJ) (.block 0 (.loop qBF))) (.seq (.ops [Wm 2 (-1)]) .ret)))
def qMx : FC := ⟨25, jIn, [.tmp 2]⟩
abbrev jFS : Nat := 289
def qBE : LA := [mv 5 0, mv 6 1, o_ 7 (.call 334 [(.t 5), (.t 6)]), Wi 8 .geq 7 0, mv 4 8]
def jIm : ACode := (.seq (.ops [Wo 4 false]) (.seq (.ops qBE) .ret))
def qMw : FC := ⟨9, jIm, [.tmp 4]⟩
abbrev jFR : Nat := 290
def qBD : LA := [o_ 1 (.box 163 9 (.t 0)), o_ 2 (.mov (.c (.str [])))]
def qBC : LA := [Wf 3 8 1, Wl 4 3, o_ 5 (.bins .neq (.t 4) (.c (.str [])))]
def qBB : LA := [Wf 8 0 1, Wl 9 8, o_ 10 (.call 336 [(.t 9)]), mv 2 10]
def jIl : ACode := (.seq (.ops qBD) (.seq (.seq (.ops qBC) (.cond (.t 5) .bad .skip)) (.seq (.ops qBB) .ret)))
def qMv : FC := ⟨11, jIl, [.tmp 2]⟩
abbrev jFQ : Nat := 291
def qBA : LA := [mv 6 0, We 7 6, Wm 8 0]
def qAz : LA := [mv 10 8, mv 5 10]
def qAy : LA := [mv 11 1, mv 12 0, mv 13 5, Wa 14 163 9 12 13, Wd 15 9 14, o_ 16 (.callv (.t 11) [(.t 15)])]
def qAx : LA := [mv 17 5, mv 4 17]
def qAw : LA := [Wi 18 .add 8 1, mv 8 18]
def qAv : ACode := (.seq (.ops [Wb 9 .lss 8 7]) (.seq (.cond (.t 9) .skip (.exit 0)) (.seq (.block 1 (.seq (.ops qAz) (.seq (.ops qAy) (.cond (.t 16) (.seq (.ops qAx) .ret) .skip)))) (.ops qAw))))
def jIk : ACode := (.seq (.ops [Wm 4 0]) (.seq (.seq (.ops qBA) (.block 0 (.loop qAv))) (.seq (.ops [Wm 4 (-1)]) .ret)))
def qMu : FC := ⟨19, jIk, [.tmp 4]⟩
abbrev jFP : Nat := 292
def qAu : LA := [mv 5 0, mv 6 1, o_ 7 (.call 337 [(.t 5), (.t 6)]), Wi 8 .geq 7 0, mv 4 8]
def jIj : ACode := (.seq (.ops [Wo 4 false]) (.seq (.ops qAu) .ret))
def qMt : FC := ⟨9, jIj, [.tmp 4]⟩
abbrev jFO : Nat := 294
def qAt : LA := [mv 6 0, We 7 6, Wm 8 0]
def qAs : ACode := (.seq (.ops [Wb 9 .lss 8 7]) (.seq (.cond (.t 9) .bad (.exit 0)) .bad))
def jIi : ACode := (.seq (.ops [Wm 4 0]) (.seq (.seq (.ops qAt) (.block 0 (.loop qAs))) (.seq (.ops [Wm 4 (-1)]) .ret)))
def qMs : FC := ⟨19, jIi, [.tmp 4]⟩
abbrev jFN : Nat := 295
def qAr : LA := [mv 6 0, o_ 7 (.lens (.t 6)), Wi 8 .sub 7 1, mv 5 8]
def qAq : LA := [mv 9 5, Wi 10 .geq 9 0]
def qAp : LA := [mv 13 0, mv 14 5, o_ 15 (.idxs (.t 13) (.t 14)), mv 16 1, Wb 17 .eql 15 16]
def qAo : LA := [mv 18 5, mv 4 18]
def qAn : LA := [mv 11 5, Wi 12 .sub 11 1, mv 5 12]
def qAm : ACode := (.seq (.seq (.ops qAq) (.cond (.t 10) .skip (.exit 0))) (.seq (.block 1 (.seq (.ops qAp) (.cond (.t 17) (.seq (.ops qAo) .ret) .skip))) (.ops qAn)))
def jIh : ACode := (.seq (.ops [Wm 4 0]) (.seq (.seq (.ops qAr) (.block 0 (.loop qAm))) (.seq (.ops [Wm 4 (-1)]) .ret)))
def qMr : FC := ⟨19, jIh, [.tmp 4]⟩
abbrev jFM : Nat := 296
def qAl : LA := [mv 2 0, Wc 3 2, Wf 4 0 3, Wl 5 4, o_ 6 (.isnil .pt false (.t 5))]
def qAk : LA := [mv 7 0, mv 8 0, o_ 9 (.upc (.t 8)), mv 10 9, o_ 11 (.upt 435 (.t 10)), Wc 12 7, Wf 13 0 12, Ws 1 13 11]
def qAj : LA := [mv 14 0, Wc 15 14, Wf 16 0 15, Wl 17 16, mv 18 0, o_ 19 (.peq true (.t 17) (.t 18))]
def jIg : ACode := (.seq (.ops qAl) (.cond (.t 6) (.ops qAk) (.seq (.ops qAj) (.cond (.t 19) .bad .skip))))
def qMq : FC := ⟨20, jIg, []⟩
abbrev jFL : Nat := 297
def qAi : LA := [mv 5 0, Wc 6 5, Wf 7 1 6, Wl 8 7, o_ 9 (.capk (.t 8)), o_ 10 (.bini .mul (i_ 2) (.t 9)), mv 11 1, Wb 12 .add 10 11, mv 14 0, Wc 15 14, Wf 16 1 15, Wl 17 16, We 18 17, o_ 13 (.mnz 5 (.t 12)), o_ 19 (.slcl 5 1 (.t 13) none (some (.t 18)) none), mv 4 19]
def qAh : LA := [mv 20 4, mv 21 0, Wc 22 21, Wf 23 1 22, Wl 24 23, o_ 25 (.cpy 5 1 (.t 20) (.t 24))]
def qAg : LA := [mv 26 0, mv 27 4, Wc 28 26, Wf 29 1 28, Ws 1 29 27]
def jIf : ACode := (.seq (.alts [5, 6, 7, 8, 9, 10, 11, 12, 13, 14, 15, 16, 17, 18, 19, 4] [qAi]) (.seq (.ops qAh) (.ops qAg)))
def qMp : FC := ⟨30, jIf, []⟩
abbrev jFK : Nat := 298
def qAf : LA := [mv 12 2, mv 13 1, Wb 14 .sub 12 13, mv 10 14]
def qAe : LA := [mv 15 3, mv 16 2, Wb 17 .sub 15 16, mv 11 17]
def qAd : LA := [mv 18 10, mv 19 11, Wb 20 .neq 18 19]
def qAc : LA := [mv 21 10, mv 22 11, Wb 23 .gtr 21 22]
def qAb : LA := [mv 24 0, mv 25 2, mv 26 10, Wb 27 .sub 25 26, mv 28 2, mv 29 11, mv 30 4, o_ 31 (.call 340 [(.t 24), (.t 27), (.t 28), (.t 29), (.t 30)])]
def qAa : LA := [mv 32 10, mv 33 11, Wb 34 .sub 32 33, mv 10 34]
def qAZ : LA := [mv 35 0, mv 36 2, mv 37 10, Wb 38 .sub 36 37, mv 39 2, mv 40 11, Wb 41 .add 39 40, mv 42 10, Wb 43 .sub 41 42, mv 44 10, mv 45 4, o_ 46 (.call 340 [(.t 35), (.t 38), (.t 43), (.t 44), (.t 45)])]
def qAY : LA := [mv 47 11, mv 48 10, Wb 49 .sub 47 48, mv 11 49]
def qAX : ACode := (.seq (.seq (.ops qAd) (.cond (.t 20) .skip (.exit 0))) (.block 1 (.seq (.ops qAc) (.cond (.t 23) (.seq (.ops qAb) (.ops qAa)) (.seq (.ops qAZ) (.ops qAY))))))
def qAW : LA := [mv 50 0, mv 51 2, mv 52 10, Wb 53 .sub 51 52, mv 54 2, mv 55 10, mv 56 4, o_ 57 (.call 340 [(.t 50), (.t 53), (.t 54), (.t 55), (.t 56)])]
def jIe : ACode := (.seq (.ops qAf) (.seq (.ops qAe) (.seq (.block 0 (.loop qAX)) (.ops qAW))))
def qMo : FC := ⟨58, jIe, []⟩
abbrev jFJ : Nat := 299
def qAV : LA := [Wl 4 1, o_ 5 (.rngm (.t 4))]
def qAU : LA := [o_ 6 (.nxm (.t 5)), Wx 7 0 6]
def qAT : LA := [o_ 8 (.entr (.t 5)), Wx 9 0 8, mv 3 9]
def qAS : LA := [mv 10 0, mv 11 3, o_ 12 (.callv (.t 10) [(.t 11)]), o_ 13 (.not (.t 12))]
def qAR : ACode := (.seq (.ops qAU) (.seq (.cond (.t 7) .skip (.exit 0)) (.block 1 (.seq (.ops qAT) (.seq (.ops qAS) (.cond (.t 13) .bad .skip))))))
def jId : ACode := (.seq (.ops qAV) (.block 0 (.loop qAR)))
def qMn : FC := ⟨14, jId, []⟩
abbrev jFI : Nat := 300
def qAQ : LA := [o_ 4 (.mov (.c (.str []))), Wo 5 false]
def qAP : LA := [mv 6 0, mv 7 1, o_ 8 (.call 341 [(.t 6), (.t 7)]), Wx 9 0 8, Wx 10 1 8, mv 4 9, mv 5 10]
def jIc : ACode := (.seq (.ops qAQ) (.seq (.ops qAP) .ret))
def qMm : FC := ⟨11, jIc, [.tmp 4, .tmp 5]⟩
abbrev jFH : Nat := 301
def qAO : LA := [o_ 4 (.mov (.c (.str []))), o_ 5 (.mov (.c (.str []))), Wo 6 false]
def qAN : LA := [mv 7 0, mv 8 1, o_ 9 (.call 342 [(.t 7), (.t 8)]), Wx 10 0 9, Wx 11 1 9, Wx 12 2 9, mv 4 10, mv 5 11, mv 6 12]
def jIb : ACode := (.seq (.ops qAO) (.seq (.ops qAN) .ret))
def qMl : FC := ⟨13, jIb, [.tmp 4, .tmp 5, .tmp 6]⟩
abbrev jFG : Nat := 309
def qAM : LA := [o_ 9 (.box 95 3 (.t 3)), o_ 12 (.mov (.c (.nilp)))]
def qAL : LA := [mv 14 1, o_ 15 (.conv .i64 (.t 14)), Wi 16 .geq 15 19, mv 17 16, Whm 18 0 17, Whm 19 1 17, Wh 20 (.nilc (.t 18)) 17, Wh 21 (.faddr 1 (.t 20)) 17, Wh 22 (.adr 19 1 (.t 21) (.t 19)) 17, Wh 23 (.ld1 (.t 22)) 17, Wh 24 (.lda 3 (.t 9)) 17, Whm 25 1 17, Wh 26 (.callv (.t 23) [(.t 24), (.t 25)]) 17, Wh 27 (.not (.t 26)) 17, Wq 28 17 27, mv 29 28, Whm 30 1 29, Wh 31 (.bini .eql (.t 30) (.c (.int .u8 11))) 29, Whm 32 31 29, Wgf 33 2 9 32, Wgl 34 33 32, g_ 35 (.iaddr 86 3 (.t 34) (i_ 0)) 32, Wgf 36 0 35 32, Wgl 37 36 32, Wgm 38 2 32, g_ 39 (.bins .neq (.t 37) (.t 38)) 32, Wh 40 (.pick (.t 32) (.t 39) (.c (.bool false))) 29, Wq 41 29 40, mv 13 41]
def qAK : LA := [mv 46 1, o_ 47 (.bini .eql (.t 46) (.c (.int .u8 9))), mv 48 47, Wgf 49 1 9 48, Wgl 50 49 48, g_ 51 (.call 288 [(.t 50)]) 48, g_ 52 (.bini .geq (.t 51) (i_ 0)) 48, Wp 53 48 52, mv 45 53]
def qAJ : LA := [mv 58 1, o_ 59 (.bini .eql (.t 58) (.c (.int .u8 11))), mv 57 59]
def jIa : ACode := (.seq (.ops qAM) (.seq (.block 0 (.seq (.alts [14, 15, 16, 17, 18, 19, 20, 21, 22, 23, 24, 25, 26, 27, 28, 29, 30, 31, 32, 33, 34, 35, 36, 37, 38, 39, 40, 41, 13] [qAL]) (.cond (.t 13) .bad (.seq (.ops qAK) (.cond (.t 45) .bad (.seq (.ops qAJ) (.cond (.t 57) .bad .skip))))))) (.seq (.ops [o_ 12 (.mov (.c (.nilp)))]) .ret)))
def qMk : FC := ⟨69, jIa, [.tmp 12]⟩
abbrev jFF : Nat := 310
def qAI : LA := [Wm 4 0, Wm 5 0]
def qAH : LA := [mv 12 0, o_ 13 (.call 85 [(.t 12)]), mv 6 13]
def qAG : LA := [mv 14 6, o_ 15 (.call 149 [(.t 14)]), Wi 16 .gtr 15 0]
def qAF : ACode := (.seq (.seq (.ops qAG) (.cond (.t 16) .bad (.exit 0))) .bad)
def qAE : LA := [mv 41 6, o_ 42 (.call 87 [(.t 41)]), Wx 43 0 42, Wx 44 1 42, mv 4 43, mv 5 44]
def jIZ : ACode := (.seq (.ops qAI) (.seq (.ops qAH) (.seq (.block 0 (.loop qAF)) (.seq (.ops qAE) .ret))))
def qMj : FC := ⟨45, jIZ, [.tmp 4, .tmp 5]⟩
abbrev jFE : Nat := 311
def qAD : LA := [o_ 3 (.box 3 1 (.t 1)), o_ 4 (.mov (.c (.nilf)))]
def qAC : LA := [mv 6 0, o_ 7 (.call 80 [(.t 6)]), o_ 5 (.box 24 1 (.c (.nils))), Ws 1 5 7]
def qAB : LA := [o_ 8 (.mkfn 345 [] [(.t 5), (.t 3)]), mv 4 8]
def jIY : ACode := (.seq (.ops qAD) (.seq (.ops qAC) (.seq (.ops qAB) .ret)))
def qMi : FC := ⟨9, jIY, [.tmp 4]⟩
abbrev jFD : Nat := 317
def qAA : LA := [mv 7 0, o_ 8 (.call 191 [(.t 7)]), mv 6 8, Wx 9 0 6, Wx 10 1 6, Wx 11 2 6, mv 3 9, mv 4 10, mv 5 11]
def zZz : LA := [mv 12 5, o_ 13 (.not (.t 12))]
def zZy : LA := [mv 14 0, Wc 15 14, Wf 16 0 15, Wl 17 16, mv 18 3, mv 19 4, o_ 20 (.slcl 5 1 (.t 17) (some (.t 18)) (some (.t 19)) none), o_ 21 (.call 80 [(.t 20)]), mv 2 21]
def jIX : ACode := (.seq (.ops [Wn 2]) (.seq (.ops qAA) (.seq (.seq (.ops zZz) (.cond (.t 13) .bad .skip)) (.seq (.ops zZy) .ret))))
def qMh : FC := ⟨22, jIX, [.tmp 2]⟩
abbrev jFC : Nat := 318
def zZx : LA := [mv 7 0, o_ 8 (.b2s (.t 7)), o_ 9 (.rngs (.t 8))]
def zZw : LA := [o_ 10 (.nxs (.t 9)), Wx 11 0 10]
def zZv : LA := [Wx 12 1 10, Wx 13 2 10, mv 3 12, mv 4 13]
def zZu : LA := [mv 14 4, o_ 15 (.bini .neq (.t 14) (.c (.int .i32 65533)))]
def zZt : ACode := (.seq (.ops zZw) (.seq (.cond (.t 11) .skip (.exit 0)) (.block 1 (.seq (.ops zZv) (.seq (.seq (.ops zZu) (.cond (.t 15) (.exit 1) .bad)) .bad)))))
def jIW : ACode := (.seq (.ops [Wm 2 0]) (.seq (.seq (.ops zZx) (.block 0 (.loop zZt))) (.seq (.ops [Wm 2 (-1)]) .ret)))
def qMg : FC := ⟨27, jIW, [.tmp 2]⟩
abbrev jFB : Nat := 320
def zZs : LA := [mv 8 1, Wi 9 .add 8 1, mv 6 9]
def zZr : LA := [mv 10 6, mv 11 2, Wb 12 .lss 10 11]
def zZq : ACode := (.seq (.seq (.ops zZr) (.cond (.t 12) .bad (.exit 0))) .bad)
def jIV : ACode := (.seq (.ops zZs) (.block 0 (.loop zZq)))
def qMf : FC := ⟨49, jIV, []⟩
abbrev jFA : Nat := 333
def zZp : LA := [mv 7 1, o_ 8 (.lens (.t 7)), Wi 9 .eql 8 0]
def zZo : LA := [mv 13 1, o_ 14 (.lens (.t 13)), Wi 15 .eql 14 1]
def zZn : LA := [mv 16 0, mv 17 1, o_ 18 (.idxs (.t 17) (i_ 0)), o_ 19 (.xcount (.t 16) (.t 18)), mv 4 19]
def jIU : ACode := (.seq (.ops [Wm 4 0]) (.seq (.seq (.ops zZp) (.cond (.t 9) .bad .skip)) (.seq (.seq (.ops zZo) (.cond (.t 15) (.seq (.ops zZn) .ret) .bad)) .bad)))
def qMe : FC := ⟨34, jIU, [.tmp 4]⟩
abbrev jEz : Nat := 334
def zZm : LA := [mv 5 0, mv 6 1, o_ 7 (.call 364 [(.t 5), (.t 6)]), mv 4 7]
def jIT : ACode := (.seq (.ops [Wm 4 0]) (.seq (.ops zZm) .ret))
def qMd : FC := ⟨8, jIT, [.tmp 4]⟩
abbrev jEy : Nat := 336
def zZl : LA := [mv 7 0, o_ 8 (.lens (.t 7)), Wm 9 0]
def zZk : LA := [mv 11 9, mv 5 11]
def zZj : LA := [mv 12 0, mv 13 5, o_ 14 (.idxs (.t 12) (.t 13)), mv 6 14]
def zZi : LA := [mv 15 6, o_ 16 (.bini .eql (.t 15) (.c (.int .u8 95)))]
def zZh : LA := [mv 17 4, mv 18 17, Wgm 19 6 18, g_ 20 (.call 279 [(.t 19)]) 18, Wp 21 18 20]
def zZg : LA := [mv 22 6, o_ 23 (.bini .sub (.t 22) (.c (.int .u8 32))), mv 6 23]
def zZf : LA := [mv 24 6, o_ 25 (.call 366 [(.t 3), (.t 24)])]
def zZe : LA := [Wi 26 .add 9 1, mv 9 26]
def zZd : ACode := (.seq (.ops [Wb 10 .lss 9 8]) (.seq (.cond (.t 10) .skip (.exit 0)) (.seq (.block 1 (.seq (.ops zZk) (.seq (.ops zZj) (.seq (.seq (.ops zZi) (.cond (.t 16) (.seq (.ops [Wo 4 true]) (.exit 1)) .skip)) (.seq (.seq (.ops zZh) (.cond (.t 21) (.ops zZg) .skip)) (.seq (.ops zZf) (.ops [Wo 4 false]))))))) (.ops zZe))))
def zZc : LA := [o_ 27 (.call 232 [(.t 3)]), mv 2 27]
def jIS : ACode := (.seq (.ops [o_ 2 (.mov (.c (.str [])))]) (.seq (.ops [o_ 3 (.box 435 2 (.c (.agg [.nilp, .nils])))]) (.seq (.ops [Wo 4 false]) (.seq (.seq (.ops zZl) (.block 0 (.loop zZd))) (.seq (.ops zZc) .ret)))))
def qMc : FC := ⟨28, jIS, [.tmp 2]⟩
abbrev jEx : Nat := 337
def zZb : LA := [mv 6 0, We 7 6, Wm 8 0]
def zZa : ACode := (.seq (.ops [Wb 9 .lss 8 7]) (.seq (.cond (.t 9) .bad (.exit 0)) .bad))
def jIR : ACode := (.seq (.ops [Wm 4 0]) (.seq (.seq (.ops zZb) (.block 0 (.loop zZa))) (.seq (.ops [Wm 4 (-1)]) .ret)))
def qMb : FC := ⟨19, jIR, [.tmp 4]⟩
abbrev jEw : Nat := 340
def zZZ : LA := [mv 11 10, mv 12 3, Wb 13 .lss 11 12]
def zZY : LA := [mv 16 0, mv 17 1, mv 18 10, Wb 19 .add 17 18, mv 20 0, mv 21 2, mv 22 10, Wb 23 .add 21 22, mv 24 0, mv 25 2, mv 26 10, Wb 27 .add 25 26, Wa 28 201 3 24 27, Wd 29 3 28, mv 30 0, mv 31 1, mv 32 10, Wb 33 .add 31 32, Wa 34 201 3 30 33, Wd 35 3 34, Wa 36 201 3 16 19, Ws 3 36 29, Wa 37 201 3 20 23, Ws 3 37 35]
def zZX : LA := [mv 14 10, Wi 15 .add 14 1, mv 10 15]
def zZW : ACode := (.seq (.seq (.ops zZZ) (.cond (.t 13) .skip (.exit 0))) (.seq (.block 1 (.alts [16, 17, 18, 19, 20, 21, 22, 23, 24, 25, 26, 27, 28, 29, 30, 31, 32, 33, 34, 35, 36, 37] [zZY])) (.ops zZX)))
def jIQ : ACode := (.seq (.ops [Wm 10 0]) (.block 0 (.loop zZW)))
def qMa : FC := ⟨38, jIQ, []⟩
abbrev jEv : Nat := 341
def zZV : LA := [o_ 4 (.mov (.c (.str []))), Wo 5 false]
def zZU : LA := [mv 6 0, mv 7 1, o_ 8 (.call 343 [(.t 6), (.t 7)]), o_ 9 (.not (.t 8))]
def zZT : LA := [mv 10 0, mv 4 10, Wo 5 false]
def jIP : ACode := (.seq (.ops zZV) (.seq (.seq (.ops zZU) (.cond (.t 9) (.seq (.ops zZT) .ret) .bad)) .bad))
def qMZ : FC := ⟨15, jIP, [.tmp 4, .tmp 5]⟩
abbrev jEu : Nat := 342
def zZS : LA := [o_ 4 (.mov (.c (.str []))), o_ 5 (.mov (.c (.str []))), Wo 6 false]
def zZR : LA := [mv 8 0, mv 9 1, o_ 10 (.call 364 [(.t 8), (.t 9)]), mv 7 10]
def zZQ : LA := [mv 11 7, Wi 12 .geq 11 0]
def zZP : LA := [mv 22 0, mv 4 22, o_ 5 (.mov (.c (.str []))), Wo 6 false]
def jIO : ACode := (.seq (.ops zZS) (.seq (.seq (.ops zZR) (.seq (.ops zZQ) (.cond (.t 12) .bad .skip))) (.seq (.ops zZP) .ret)))
def qMY : FC := ⟨23, jIO, [.tmp 4, .tmp 5, .tmp 6]⟩
abbrev jEt : Nat := 343
def zZO : LA := [mv 5 0, o_ 6 (.lens (.t 5)), mv 7 1, o_ 8 (.lens (.t 7)), Wb 9 .geq 6 8, mv 10 9, Wgm 11 0 10, Wgm 12 1 10, g_ 13 (.lens (.t 12)) 10, g_ 14 (.slcs (.t 11) none (some (.t 13))) 10, Wgm 15 1 10, g_ 16 (.bins .eql (.t 14) (.t 15)) 10, Wp 17 10 16, mv 4 17]
def jIN : ACode := (.seq (.ops [Wo 4 false]) (.seq (.ops zZO) .ret))
def qMX : FC := ⟨18, jIN, [.tmp 4]⟩
abbrev jEs : Nat := 345
def zZN : LA := [Wl 7 1, o_ 8 (.call 85 [(.t 7)]), mv 4 8]
def zZM : LA := [mv 9 4, o_ 10 (.call 149 [(.t 9)]), Wi 11 .gtr 10 0]
def zZL : ACode := (.seq (.seq (.ops zZM) (.cond (.t 11) .bad (.exit 0))) .bad)
def jIM : ACode := (.seq (.ops zZN) (.block 0 (.loop zZL)))
def qMW : FC := ⟨26, jIM, []⟩
abbrev jEr : Nat := 364
def zZK : LA := [mv 14 1, o_ 15 (.lens (.t 14)), mv 5 15]
def zZJ : LA := [mv 17 5, Wi 18 .eql 17 0, mv 19 18, Whm 20 1 19, Whm 21 0 19, Wh 22 (.bins .eql (.t 20) (.t 21)) 19, Wq 23 19 22, mv 16 23]
def zZI : LA := [mv 25 5, Wi 26 .eql 25 1, mv 24 26]
def zZH : LA := [mv 27 0, mv 28 1, o_ 29 (.idxs (.t 28) (i_ 0)), o_ 30 (.call 377 [(.t 27), (.t 29)]), mv 4 30]
def zZG : LA := [mv 48 1, o_ 49 (.idxs (.t 48) (i_ 0)), mv 6 49]
def zZF : LA := [mv 50 1, o_ 51 (.idxs (.t 50) (i_ 1)), mv 7 51]
def zZE : LA := [mv 52 0, o_ 53 (.lens (.t 52)), mv 54 5, Wb 55 .sub 53 54, Wi 56 .add 55 1, mv 9 56]
def zZD : LA := [mv 57 8, mv 58 9, Wb 59 .lss 57 58]
def zZC : ACode := (.seq (.seq (.ops zZD) (.cond (.t 59) .bad .bad)) .bad)
def jIL : ACode := (.seq (.ops [Wm 4 0]) (.seq (.ops zZK) (.seq (.block 0 (.seq (.ops zZJ) (.cond (.t 16) .bad (.seq (.ops zZI) (.cond (.t 24) (.seq (.ops zZH) .ret) .bad))))) (.seq (.ops zZG) (.seq (.ops zZF) (.seq (.ops [Wm 8 0]) (.seq (.ops zZE) (.seq (.ops [Wm 10 0]) (.seq (.block 1 (.loop zZC)) (.seq (.ops [Wm 4 (-1)]) .ret))))))))))
def qMV : FC := ⟨143, jIL, [.tmp 4]⟩
abbrev jEq : Nat := 366
def zZB : LA := [mv 5 0, o_ 6 (.call 296 [(.t 5)])]
def zZA : LA := [mv 7 0, mv 8 0, Wc 9 8, Wf 10 1 9, Wl 11 10, mv 12 1, o_ 13 (.bslice 5 1 1 [.int .u8 0] [(0, 1, (.t 12))]), o_ 14 (.app 5 1 1 (.t 11) (.t 13)), Wc 15 7, Wf 16 1 15, Ws 1 16 14]
def jIK : ACode := (.seq (.ops [o_ 4 (.mov (.c (.nili)))]) (.seq (.ops zZB) (.seq (.ops zZA) (.seq (.ops [o_ 4 (.mov (.c (.nili)))]) .ret))))
def qMU : FC := ⟨17, jIK, [.tmp 4]⟩
abbrev jEp : Nat := 377
def zYz : LA := [mv 5 0, mv 6 1, o_ 7 (.xindex (.t 5) (.t 6)), mv 4 7]
def jIJ : ACode := (.seq (.ops [Wm 4 0]) (.seq (.ops zYz) .ret))
def qMT : FC := ⟨8, jIJ, [.tmp 4]⟩
abbrev jEo : Nat := 407
def zYy : LA := [o_ 4 (.mov (.c (.nilp))), Wm 5 0]
def zYx : LA := [mv 9 0, Wc 10 9, Wf 11 0 10, o_ 12 (.call 408 [(.t 11)])]
def zYw : LA := [mv 13 0, Wc 14 13, Wf 15 0 14]
def zYv : LA := [mv 16 0, Wc 17 16, Wf 18 3 17, Wl 19 18, mv 20 1, o_ 21 (.mlook .s (.nilp) false (.t 19) (.t 20)), mv 6 21]
def zYu : LA := [mv 22 6, o_ 23 (.isnil .pt true (.t 22))]
def zYt : LA := [mv 24 6, mv 4 24, Wm 5 0]
def zYs : LA := [mv 26 0, Wc 27 26, Wf 28 2 27, Wl 29 28, mv 30 1, o_ 31 (.call 410 [(.t 29), (.t 30)]), mv 25 31, Wx 32 0 25, Wx 33 1 25, mv 7 32, mv 8 33]
def zYr : LA := [mv 34 8, Wi 35 .eql 34 0]
def zYq : LA := [mv 36 0, Wc 37 36, Wf 38 3 37, Wl 39 38, mv 40 1, mv 41 7, n_ (.mupd .s (.t 39) (.t 40) (.t 41))]
def zYp : LA := [mv 42 7, mv 43 8, mv 4 42, mv 5 43]
def jII : ACode := (.seq (.ops zYy) (.seq (.ops zYx) (.seq (.seq (.ops zYw) (.dfr (.f 409) [(.t 15)])) (.seq (.seq (.ops zYv) (.seq (.ops zYu) (.cond (.t 23) (.seq (.ops zYt) .ret) .skip))) (.seq (.ops zYs) (.seq (.seq (.ops zYr) (.cond (.t 35) (.ops zYq) .bad)) (.seq (.ops zYp) .ret)))))))
def qMS : FC := ⟨44, jII, [.tmp 4, .tmp 5]⟩
abbrev jEn : Nat := 408
def zYo : LA := [mv 2 0, Wc 3 2, Wf 4 0 3, o_ 5 (.call 411 [(.t 4)])]
def jIH : ACode := (.ops zYo)
def qMR : FC := ⟨6, jIH, []⟩
abbrev jEm : Nat := 409
def zYn : LA := [mv 2 0, Wc 3 2, Wf 4 0 3, o_ 5 (.call 412 [(.t 4)])]
def jIG : ACode := (.ops zYn)
def qMQ : FC := ⟨6, jIG, []⟩
end Go.Proofs.YtldbbnkacahndaaGreatDoor

namespace Go.Proofs.YtldbbnkacahndaaGreatDoor
open Go.L
abbrev jEl : Nat := 410
def zYm : LA := [o_ 4 (.mov (.c (.nilp))), Wm 5 0]
def zYl : LA := [mv 14 0, mv 15 1, o_ 16 (.call 413 [(.t 14), (.t 15)]), mv 13 16, Wx 17 0 13, Wx 18 1 13, o_ 6 (.box 159 7 (.c (.agg [.str [], .nils, .nils, .nils, .nils, .nils, .nils]))), Ws 7 6 17, mv 7 18]
def zYk : LA := [mv 19 7, o_ 20 (.not (.t 19))]
def zYj : LA := [mv 21 1, Wf 22 2 6, Wl 23 22, o_ 24 (.call 214 [(.t 23)]), o_ 25 (.mkmap), o_ 26 (.mkmap), o_ 27 (.mkmap), o_ 28 (.build [.str [], .nils, .nils, .nilm, .nilm, .nilm] [(0, 1, (.t 21)), (1, 1, (.t 24)), (3, 1, (.t 25)), (4, 1, (.t 26)), (5, 1, (.t 27))]), o_ 29 (.box 411 6 (.t 28)), mv 8 29]
def zYi : LA := [Wf 30 1 6, Wl 31 30, We 32 31, Wm 33 0]
def zYh : LA := [Wa 35 163 9 31 33, Wd 36 9 35, o_ 10 (.box 163 9 (.c (.agg [.str [], .int .i32 (0), .int .u8 (0), .int .u8 (0), .str [], .int .u8 (0), .int .i64 (0), .int .u8 (0), .str []]))), Ws 9 10 36]
def zYg : LA := [mv 37 8, mv 38 8, Wc 39 38, Wf 40 2 39, Wl 41 40, Wd 42 9 10, o_ 43 (.acall 414 [(.t 42)]), o_ 44 (.bslice 204 9 1 [.int .i32 (0), .str [], .str [], .int .u8 (0), .int .u8 (0), .int .u8 (0), .bool false, .int .i64 (0), .str []] [(0, 9, (.t 43))]), o_ 45 (.app 204 9 72 (.t 41) (.t 44)), Wc 46 37, Wf 47 2 46, Ws 1 47 45]
def zYf : LA := [Wi 48 .add 33 1, mv 33 48]
def zYe : ACode := (.seq (.ops [Wb 34 .lss 33 32]) (.seq (.cond (.t 34) .skip (.exit 0)) (.seq (.block 1 (.seq (.ops zYh) (.alts [37, 38, 39, 40, 41, 42, 43, 44, 45, 46, 47] [zYg]))) (.ops zYf))))
def zYd : LA := [mv 49 8, Wc 50 49, Wf 51 2 50, Wl 52 51, o_ 53 (.call 415 [(.t 52), (.f 416)])]
def zSY : LA := [mv 54 8, Wc 55 54, Wf 56 2 55, Wl 57 56, We 58 57, Wm 59 0]
def zSX : LA := [mv 61 59, Wa 62 204 9 57 59, Wd 63 9 62, o_ 12 (.box 204 9 (.c (.agg [.int .i32 (0), .str [], .str [], .int .u8 (0), .int .u8 (0), .int .u8 (0), .bool false, .int .i64 (0), .str []]))), mv 11 61, Ws 9 12 63]
def zSW : LA := [mv 64 8, Wc 65 64, Wf 66 3 65, Wl 67 66, Wf 68 0 12, Wl 69 68, mv 70 8, Wc 71 70, Wf 72 4 71, Wl 73 72, Wf 74 1 12, mv 76 8, Wc 77 76, Wf 78 5 77, Wl 79 78, Wf 80 2 12, mv 82 11, mv 83 11, mv 84 11, Wl 75 74, Wl 81 80, o_ 85 (.ment .i (.int .i64 0) (.t 67) (.t 69)), Wx 86 1 85, n_ (.mest (.t 67) (.t 86) (.t 82)), o_ 87 (.ment .s (.int .i64 0) (.t 73) (.t 75)), Wx 88 1 87, n_ (.mest (.t 73) (.t 88) (.t 83)), o_ 89 (.ment .s (.int .i64 0) (.t 79) (.t 81)), Wx 90 1 89, n_ (.mest (.t 79) (.t 90) (.t 84))]
def zSV : LA := [mv 64 8, Wc 65 64, Wf 66 3 65, Wl 67 66, Wf 68 0 12, Wl 69 68, mv 70 8, Wc 71 70, Wf 72 4 71, Wl 73 72, Wf 74 1 12, mv 76 8, Wc 77 76, Wf 78 5 77, Wl 79 78, Wf 80 2 12, mv 82 11, mv 83 11, mv 84 11, Wl 75 74, o_ 85 (.ment .i (.int .i64 0) (.t 67) (.t 69)), Wx 86 1 85, Wl 81 80, n_ (.mest (.t 67) (.t 86) (.t 82)), o_ 87 (.ment .s (.int .i64 0) (.t 73) (.t 75)), Wx 88 1 87, n_ (.mest (.t 73) (.t 88) (.t 83)), o_ 89 (.ment .s (.int .i64 0) (.t 79) (.t 81)), Wx 90 1 89, n_ (.mest (.t 79) (.t 90) (.t 84))]
def zSU : LA := [mv 64 8, Wc 65 64, Wf 66 3 65, Wl 67 66, Wf 68 0 12, Wl 69 68, mv 70 8, Wc 71 70, Wf 72 4 71, Wl 73 72, Wf 74 1 12, mv 76 8, Wc 77 76, Wf 78 5 77, Wl 79 78, Wf 80 2 12, mv 82 11, mv 83 11, mv 84 11, Wl 75 74, o_ 85 (.ment .i (.int .i64 0) (.t 67) (.t 69)), Wx 86 1 85, n_ (.mest (.t 67) (.t 86) (.t 82)), Wl 81 80, o_ 87 (.ment .s (.int .i64 0) (.t 73) (.t 75)), Wx 88 1 87, n_ (.mest (.t 73) (.t 88) (.t 83)), o_ 89 (.ment .s (.int .i64 0) (.t 79) (.t 81)), Wx 90 1 89, n_ (.mest (.t 79) (.t 90) (.t 84))]
def zST : LA := [mv 64 8, Wc 65 64, Wf 66 3 65, Wl 67 66, Wf 68 0 12, Wl 69 68, mv 70 8, Wc 71 70, Wf 72 4 71, Wl 73 72, Wf 74 1 12, mv 76 8, Wc 77 76, Wf 78 5 77, Wl 79 78, Wf 80 2 12, mv 82 11, mv 83 11, mv 84 11, Wl 75 74, o_ 85 (.ment .i (.int .i64 0) (.t 67) (.t 69)), Wx 86 1 85, n_ (.mest (.t 67) (.t 86) (.t 82)), o_ 87 (.ment .s (.int .i64 0) (.t 73) (.t 75)), Wx 88 1 87, Wl 81 80, n_ (.mest (.t 73) (.t 88) (.t 83)), o_ 89 (.ment .s (.int .i64 0) (.t 79) (.t 81)), Wx 90 1 89, n_ (.mest (.t 79) (.t 90) (.t 84))]
def zSS : LA := [mv 64 8, Wc 65 64, Wf 66 3 65, Wl 67 66, Wf 68 0 12, Wl 69 68, mv 70 8, Wc 71 70, Wf 72 4 71, Wl 73 72, Wf 74 1 12, mv 76 8, Wc 77 76, Wf 78 5 77, Wl 79 78, Wf 80 2 12, mv 82 11, mv 83 11, mv 84 11, Wl 75 74, o_ 85 (.ment .i (.int .i64 0) (.t 67) (.t 69)), Wx 86 1 85, n_ (.mest (.t 67) (.t 86) (.t 82)), o_ 87 (.ment .s (.int .i64 0) (.t 73) (.t 75)), Wx 88 1 87, n_ (.mest (.t 73) (.t 88) (.t 83)), Wl 81 80, o_ 89 (.ment .s (.int .i64 0) (.t 79) (.t 81)), Wx 90 1 89, n_ (.mest (.t 79) (.t 90) (.t 84))]
def zSR : LA := [mv 64 8, Wc 65 64, Wf 66 3 65, Wl 67 66, Wf 68 0 12, Wl 69 68, mv 70 8, Wc 71 70, Wf 72 4 71, Wl 73 72, Wf 74 1 12, mv 76 8, Wc 77 76, Wf 78 5 77, Wl 79 78, Wf 80 2 12, mv 82 11, mv 83 11, mv 84 11, Wl 81 80, Wl 75 74, o_ 85 (.ment .i (.int .i64 0) (.t 67) (.t 69)), Wx 86 1 85, n_ (.mest (.t 67) (.t 86) (.t 82)), o_ 87 (.ment .s (.int .i64 0) (.t 73) (.t 75)), Wx 88 1 87, n_ (.mest (.t 73) (.t 88) (.t 83)), o_ 89 (.ment .s (.int .i64 0) (.t 79) (.t 81)), Wx 90 1 89, n_ (.mest (.t 79) (.t 90) (.t 84))]
def zSQ : LA := [mv 64 8, Wc 65 64, Wf 66 3 65, Wl 67 66, Wf 68 0 12, Wl 69 68, mv 70 8, Wc 71 70, Wf 72 4 71, Wl 73 72, Wf 74 1 12, mv 76 8, Wc 77 76, Wf 78 5 77, Wl 79 78, Wf 80 2 12, mv 82 11, mv 83 11, mv 84 11, Wl 81 80, o_ 85 (.ment .i (.int .i64 0) (.t 67) (.t 69)), Wx 86 1 85, Wl 75 74, n_ (.mest (.t 67) (.t 86) (.t 82)), o_ 87 (.ment .s (.int .i64 0) (.t 73) (.t 75)), Wx 88 1 87, n_ (.mest (.t 73) (.t 88) (.t 83)), o_ 89 (.ment .s (.int .i64 0) (.t 79) (.t 81)), Wx 90 1 89, n_ (.mest (.t 79) (.t 90) (.t 84))]
def zSP : LA := [mv 64 8, Wc 65 64, Wf 66 3 65, Wl 67 66, Wf 68 0 12, Wl 69 68, mv 70 8, Wc 71 70, Wf 72 4 71, Wl 73 72, Wf 74 1 12, mv 76 8, Wc 77 76, Wf 78 5 77, Wl 79 78, Wf 80 2 12, mv 82 11, mv 83 11, mv 84 11, Wl 81 80, o_ 85 (.ment .i (.int .i64 0) (.t 67) (.t 69)), Wx 86 1 85, n_ (.mest (.t 67) (.t 86) (.t 82)), Wl 75 74, o_ 87 (.ment .s (.int .i64 0) (.t 73) (.t 75)), Wx 88 1 87, n_ (.mest (.t 73) (.t 88) (.t 83)), o_ 89 (.ment .s (.int .i64 0) (.t 79) (.t 81)), Wx 90 1 89, n_ (.mest (.t 79) (.t 90) (.t 84))]
def zSO : LA := [mv 64 8, Wc 65 64, Wf 66 3 65, Wl 67 66, Wf 68 0 12, Wl 69 68, mv 70 8, Wc 71 70, Wf 72 4 71, Wl 73 72, Wf 74 1 12, mv 76 8, Wc 77 76, Wf 78 5 77, Wl 79 78, Wf 80 2 12, mv 82 11, mv 83 11, mv 84 11, o_ 85 (.ment .i (.int .i64 0) (.t 67) (.t 69)), Wx 86 1 85, Wl 75 74, Wl 81 80, n_ (.mest (.t 67) (.t 86) (.t 82)), o_ 87 (.ment .s (.int .i64 0) (.t 73) (.t 75)), Wx 88 1 87, n_ (.mest (.t 73) (.t 88) (.t 83)), o_ 89 (.ment .s (.int .i64 0) (.t 79) (.t 81)), Wx 90 1 89, n_ (.mest (.t 79) (.t 90) (.t 84))]
def zSN : LA := [mv 64 8, Wc 65 64, Wf 66 3 65, Wl 67 66, Wf 68 0 12, Wl 69 68, mv 70 8, Wc 71 70, Wf 72 4 71, Wl 73 72, Wf 74 1 12, mv 76 8, Wc 77 76, Wf 78 5 77, Wl 79 78, Wf 80 2 12, mv 82 11, mv 83 11, mv 84 11, o_ 85 (.ment .i (.int .i64 0) (.t 67) (.t 69)), Wx 86 1 85, Wl 75 74, n_ (.mest (.t 67) (.t 86) (.t 82)), Wl 81 80, o_ 87 (.ment .s (.int .i64 0) (.t 73) (.t 75)), Wx 88 1 87, n_ (.mest (.t 73) (.t 88) (.t 83)), o_ 89 (.ment .s (.int .i64 0) (.t 79) (.t 81)), Wx 90 1 89, n_ (.mest (.t 79) (.t 90) (.t 84))]
def zSM : LA := [mv 64 8, Wc 65 64, Wf 66 3 65, Wl 67 66, Wf 68 0 12, Wl 69 68, mv 70 8, Wc 71 70, Wf 72 4 71, Wl 73 72, Wf 74 1 12, mv 76 8, Wc 77 76, Wf 78 5 77, Wl 79 78, Wf 80 2 12, mv 82 11, mv 83 11, mv 84 11, o_ 85 (.ment .i (.int .i64 0) (.t 67) (.t 69)), Wx 86 1 85, Wl 75 74, n_ (.mest (.t 67) (.t 86) (.t 82)), o_ 87 (.ment .s (.int .i64 0) (.t 73) (.t 75)), Wx 88 1 87, Wl 81 80, n_ (.mest (.t 73) (.t 88) (.t 83)), o_ 89 (.ment .s (.int .i64 0) (.t 79) (.t 81)), Wx 90 1 89, n_ (.mest (.t 79) (.t 90) (.t 84))]
def zSL : LA := [mv 64 8, Wc 65 64, Wf 66 3 65, Wl 67 66, Wf 68 0 12, Wl 69 68, mv 70 8, Wc 71 70, Wf 72 4 71, Wl 73 72, Wf 74 1 12, mv 76 8, Wc 77 76, Wf 78 5 77, Wl 79 78, Wf 80 2 12, mv 82 11, mv 83 11, mv 84 11, o_ 85 (.ment .i (.int .i64 0) (.t 67) (.t 69)), Wx 86 1 85, Wl 75 74, n_ (.mest (.t 67) (.t 86) (.t 82)), o_ 87 (.ment .s (.int .i64 0) (.t 73) (.t 75)), Wx 88 1 87, n_ (.mest (.t 73) (.t 88) (.t 83)), Wl 81 80, o_ 89 (.ment .s (.int .i64 0) (.t 79) (.t 81)), Wx 90 1 89, n_ (.mest (.t 79) (.t 90) (.t 84))]
def zSK : LA := [mv 64 8, Wc 65 64, Wf 66 3 65, Wl 67 66, Wf 68 0 12, Wl 69 68, mv 70 8, Wc 71 70, Wf 72 4 71, Wl 73 72, Wf 74 1 12, mv 76 8, Wc 77 76, Wf 78 5 77, Wl 79 78, Wf 80 2 12, mv 82 11, mv 83 11, mv 84 11, o_ 85 (.ment .i (.int .i64 0) (.t 67) (.t 69)), Wx 86 1 85, Wl 81 80, Wl 75 74, n_ (.mest (.t 67) (.t 86) (.t 82)), o_ 87 (.ment .s (.int .i64 0) (.t 73) (.t 75)), Wx 88 1 87, n_ (.mest (.t 73) (.t 88) (.t 83)), o_ 89 (.ment .s (.int .i64 0) (.t 79) (.t 81)), Wx 90 1 89, n_ (.mest (.t 79) (.t 90) (.t 84))]
def zSJ : LA := [mv 64 8, Wc 65 64, Wf 66 3 65, Wl 67 66, Wf 68 0 12, Wl 69 68, mv 70 8, Wc 71 70, Wf 72 4 71, Wl 73 72, Wf 74 1 12, mv 76 8, Wc 77 76, Wf 78 5 77, Wl 79 78, Wf 80 2 12, mv 82 11, mv 83 11, mv 84 11, o_ 85 (.ment .i (.int .i64 0) (.t 67) (.t 69)), Wx 86 1 85, Wl 81 80, n_ (.mest (.t 67) (.t 86) (.t 82)), Wl 75 74, o_ 87 (.ment .s (.int .i64 0) (.t 73) (.t 75)), Wx 88 1 87, n_ (.mest (.t 73) (.t 88) (.t 83)), o_ 89 (.ment .s (.int .i64 0) (.t 79) (.t 81)), Wx 90 1 89, n_ (.mest (.t 79) (.t 90) (.t 84))]
def zSI : LA := [mv 64 8, Wc 65 64, Wf 66 3 65, Wl 67 66, Wf 68 0 12, Wl 69 68, mv 70 8, Wc 71 70, Wf 72 4 71, Wl 73 72, Wf 74 1 12, mv 76 8, Wc 77 76, Wf 78 5 77, Wl 79 78, Wf 80 2 12, mv 82 11, mv 83 11, mv 84 11, o_ 85 (.ment .i (.int .i64 0) (.t 67) (.t 69)), Wx 86 1 85, n_ (.mest (.t 67) (.t 86) (.t 82)), Wl 75 74, Wl 81 80, o_ 87 (.ment .s (.int .i64 0) (.t 73) (.t 75)), Wx 88 1 87, n_ (.mest (.t 73) (.t 88) (.t 83)), o_ 89 (.ment .s (.int .i64 0) (.t 79) (.t 81)), Wx 90 1 89, n_ (.mest (.t 79) (.t 90) (.t 84))]
def zSH : LA := [mv 64 8, Wc 65 64, Wf 66 3 65, Wl 67 66, Wf 68 0 12, Wl 69 68, mv 70 8, Wc 71 70, Wf 72 4 71, Wl 73 72, Wf 74 1 12, mv 76 8, Wc 77 76, Wf 78 5 77, Wl 79 78, Wf 80 2 12, mv 82 11, mv 83 11, mv 84 11, o_ 85 (.ment .i (.int .i64 0) (.t 67) (.t 69)), Wx 86 1 85, n_ (.mest (.t 67) (.t 86) (.t 82)), Wl 75 74, o_ 87 (.ment .s (.int .i64 0) (.t 73) (.t 75)), Wx 88 1 87, Wl 81 80, n_ (.mest (.t 73) (.t 88) (.t 83)), o_ 89 (.ment .s (.int .i64 0) (.t 79) (.t 81)), Wx 90 1 89, n_ (.mest (.t 79) (.t 90) (.t 84))]
def zSG : LA := [mv 64 8, Wc 65 64, Wf 66 3 65, Wl 67 66, Wf 68 0 12, Wl 69 68, mv 70 8, Wc 71 70, Wf 72 4 71, Wl 73 72, Wf 74 1 12, mv 76 8, Wc 77 76, Wf 78 5 77, Wl 79 78, Wf 80 2 12, mv 82 11, mv 83 11, mv 84 11, o_ 85 (.ment .i (.int .i64 0) (.t 67) (.t 69)), Wx 86 1 85, n_ (.mest (.t 67) (.t 86) (.t 82)), Wl 75 74, o_ 87 (.ment .s (.int .i64 0) (.t 73) (.t 75)), Wx 88 1 87, n_ (.mest (.t 73) (.t 88) (.t 83)), Wl 81 80, o_ 89 (.ment .s (.int .i64 0) (.t 79) (.t 81)), Wx 90 1 89, n_ (.mest (.t 79) (.t 90) (.t 84))]
def zSF : LA := [Wi 91 .add 59 1, mv 59 91]
def zSE : ACode := (.seq (.ops [Wb 60 .lss 59 58]) (.seq (.cond (.t 60) .skip (.exit 2)) (.seq (.block 3 (.seq (.ops zSX) (.alts [64, 65, 66, 67, 68, 69, 70, 71, 72, 73, 74, 75, 76, 77, 78, 79, 80, 81, 82, 83, 84, 85, 86, 87, 88, 89, 90] [zSW, zSV, zSU, zST, zSS, zSR, zSQ, zSP, zSO, zSN, zSM, zSL, zSK, zSJ, zSI, zSH, zSG]))) (.ops zSF))))
def zSD : LA := [mv 92 8, mv 4 92, Wm 5 0]
def jIF : ACode := (.seq (.ops zYm) (.seq (.ops zYl) (.seq (.seq (.ops zYk) (.cond (.t 20) .bad .skip)) (.seq (.ops zYj) (.seq (.seq (.ops zYi) (.block 0 (.loop zYe))) (.seq (.ops zYd) (.seq (.seq (.ops zSY) (.block 2 (.loop zSE))) (.seq (.ops zSD) .ret))))))))
def qMP : FC := ⟨93, jIF, [.tmp 4, .tmp 5]⟩
abbrev jEk : Nat := 411
def zYc : LA := [mv 3 0, Wc 4 3, Wf 5 0 4, o_ 6 (.cas .i32 (.t 5) (.c (.int .i32 0)) (.c (.int .i32 1)))]
def zYb : LA := [mv 8 0, o_ 9 (.upc (.t 8)), o_ 10 (.rac (.t 9))]
def jIE : ACode := (.seq (.ops [o_ 2 (.mov (.c (.tup [])))]) (.seq (.seq (.ops zYc) (.cond (.t 6) (.seq (.cond (.c (.bool true)) (.seq (.ops [o_ 7 (.mov (.c (.tup [])))]) (.ops zYb)) .bad) .ret) .bad)) .bad))
def qMO : FC := ⟨13, jIE, []⟩
abbrev jEj : Nat := 412
def zYa : LA := [mv 3 0, Wc 4 3, Wf 5 0 4, Wl 6 5]
def zYZ : LA := [mv 7 0, o_ 8 (.upc (.t 7)), o_ 9 (.rac (.t 8))]
def zYY : LA := [mv 11 0, Wc 12 11, Wf 13 0 12, o_ 14 (.xadd .i32 (.t 13) (.c (.int .i32 (-1)))), mv 2 14]
def zYX : LA := [mv 15 2, o_ 16 (.bini .neq (.t 15) (.c (.int .i32 0)))]
def jID : ACode := (.seq (.cond (.c (.bool true)) (.seq (.ops zYa) (.seq (.ops zYZ) (.ops [o_ 10 (.mov (.c (.tup [])))]))) .bad) (.seq (.ops zYY) (.seq (.seq (.ops zYX) (.cond (.t 16) .bad .skip)) (.ops [o_ 20 (.mov (.c (.tup [])))]))))
def qMN : FC := ⟨21, jID, []⟩
abbrev jEi : Nat := 413
def zYW : LA := [o_ 4 (.box 159 7 (.c (.agg [.str [], .nils, .nils, .nils, .nils, .nils, .nils]))), Wo 5 false]
def zYV : LA := [mv 9 0, Wc 10 9, Wf 11 3 10, Wl 12 11, mv 13 1, o_ 14 (.mlook .s (.agg [.str [], .nils, .nils, .nils, .nils, .nils, .nils]) true (.t 12) (.t 13)), mv 8 14, Wx 15 0 8, Wx 16 1 8, o_ 6 (.box 159 7 (.c (.agg [.str [], .nils, .nils, .nils, .nils, .nils, .nils]))), Ws 7 6 15, mv 7 16]
def zYU : LA := [Wd 17 7 6, o_ 18 (.call 163 [(.t 17)]), mv 19 7, Ws 7 4 18, mv 5 19]
def jIC : ACode := (.seq (.ops zYW) (.seq (.ops zYV) (.seq (.ops zYU) .ret)))
def qMM : FC := ⟨20, jIC, [.cella 4 7, .tmp 5]⟩
abbrev jEh : Nat := 414
def zYT : LA := [o_ 1 (.box 163 9 (.t 0)), o_ 2 (.box 204 9 (.c (.agg [.int .i32 (0), .str [], .str [], .int .u8 (0), .int .u8 (0), .int .u8 (0), .bool false, .int .i64 (0), .str []])))]
def zYS : LA := [Wf 4 1 1, Wl 5 4, Wf 6 0 1, Wl 7 6, Wf 8 8 1, Wl 9 8, Wf 10 0 1, Wl 11 10, Wf 15 2 1, Wl 16 15, Wf 17 3 1, Wl 18 17, Wf 19 5 1, Wl 20 19, Wf 21 2 1, Wl 22 21, o_ 23 (.bini .eql (.t 22) (.c (.int .u8 3))), Wf 34 6 1, Wl 35 34, o_ 12 (.acall 336 [(.t 11)]), o_ 13 (.bslice 9 1 2 [.str []] [(0, 1, (.t 9)), (1, 1, (.t 12))]), o_ 14 (.acall 426 [(.t 13)]), mv 24 23, Wgf 25 3 1 24, Wgl 26 25 24, g_ 27 (.acall 427 [(.t 26)]) 24, Wp 28 24 27, mv 29 28, Wgf 30 7 1 29, Wgl 31 30 29, g_ 32 (.bini .neq (.t 31) (.c (.int .u8 2))) 29, Wp 33 29 32, o_ 36 (.build [.int .i32 (0), .str [], .str [], .int .u8 (0), .int .u8 (0), .int .u8 (0), .bool false, .int .i64 (0), .str []] [(0, 1, (.t 5)), (1, 1, (.t 7)), (2, 1, (.t 14)), (3, 1, (.t 16)), (4, 1, (.t 18)), (5, 1, (.t 20)), (6, 1, (.t 33)), (7, 1, (.t 35))]), o_ 3 (.box 204 9 (.c (.agg [.int .i32 (0), .str [], .str [], .int .u8 (0), .int .u8 (0), .int .u8 (0), .bool false, .int .i64 (0), .str []]))), Ws 9 3 36]
def zYR : LA := [Wf 37 3 1, Wl 38 37, o_ 39 (.bini .eql (.t 38) (.c (.int .u8 11))), mv 40 39, Wh 41 (.faddr 3 (.t 1)) 40, Wh 42 (.ld1 (.t 41)) 40, Wh 43 (.bini .eql (.t 42) (.c (.int .u8 14))) 40, Wq 44 40 43]
def zYQ : LA := [Wd 48 9 3, Ws 9 2 48]
def jIB : ACode := (.seq (.ops zYT) (.seq (.alts [4, 5, 6, 7, 8, 9, 10, 11, 12, 13, 14, 15, 16, 17, 18, 19, 20, 21, 22, 23, 24, 25, 26, 27, 28, 29, 30, 31, 32, 33, 34, 35, 36, 3] [zYS]) (.seq (.seq (.ops zYR) (.cond (.t 44) .bad .skip)) (.seq (.ops zYQ) .ret))))
def qML : FC := ⟨49, jIB, [.cella 2 9]⟩
abbrev jEg : Nat := 415
def zYP : LA := [mv 4 0, mv 5 0, We 6 5, mv 7 1, o_ 8 (.call 428 [(.t 4), (.t 6), (.t 7)])]
def jIA : ACode := (.ops zYP)
def qMK : FC := ⟨9, jIA, []⟩
abbrev jEf : Nat := 426
def zYO : LA := [mv 6 0, We 7 6, Wm 8 0]
def zYN : LA := [Wa 10 9 1 6 8, Wl 11 10, mv 5 11]
def zYM : LA := [mv 12 5, mv 13 3, o_ 14 (.bins .neq (.t 12) (.t 13))]
def zYL : LA := [mv 15 5, mv 2 15]
def zYK : LA := [Wi 16 .add 8 1, mv 8 16]
def zYJ : ACode := (.seq (.ops [Wb 9 .lss 8 7]) (.seq (.cond (.t 9) .skip .bad) (.seq (.block 1 (.seq (.ops zYN) (.seq (.ops zYM) (.cond (.t 14) (.seq (.ops zYL) .ret) .skip)))) (.ops zYK))))
def zYI : LA := [mv 17 3, mv 2 17]
def jHz : ACode := (.seq (.ops [o_ 2 (.mov (.c (.str [])))]) (.seq (.ops [o_ 3 (.mov (.c (.str [])))]) (.seq (.seq (.ops zYO) (.block 0 (.loop zYJ))) (.seq (.ops zYI) .ret))))
def qMJ : FC := ⟨18, jHz, [.tmp 2]⟩
abbrev jEe : Nat := 428
def zYH : LA := [mv 10 6, Wm 7 0, mv 8 10]
def zYG : LA := [mv 11 8, mv 12 1, Wb 13 .leq 11 12]
def zYF : ACode := (.seq (.seq (.ops zYG) (.cond (.t 13) .bad (.exit 0))) .bad)
def zYE : LA := [mv 23 0, mv 24 7, mv 25 1, mv 26 2, o_ 27 (.call 436 [(.t 23), (.t 24), (.t 25), (.t 26)])]
def zYD : LA := [mv 28 6, mv 29 1, Wb 30 .lss 28 29]
def zYC : ACode := (.seq (.seq (.ops zYD) (.cond (.t 30) .bad (.exit 2))) .bad)
def jHy : ACode := (.seq (.ops [Wm 6 20]) (.seq (.ops zYH) (.seq (.block 0 (.loop zYF)) (.seq (.ops zYE) (.block 2 (.loop zYC))))))
def qMI : FC := ⟨63, jHy, []⟩
abbrev jEd : Nat := 436
def zYB : LA := [mv 10 1, Wi 11 .add 10 1, mv 8 11]
def zYA : LA := [mv 12 8, mv 13 2, Wb 14 .lss 12 13]
def zXz : ACode := (.seq (.seq (.ops zYA) (.cond (.t 14) .bad (.exit 0))) .bad)
def jHx : ACode := (.seq (.ops zYB) (.block 0 (.loop zXz)))
def qMH : FC := ⟨53, jHx, []⟩
end Go.Proofs.YtldbbnkacahndaaGreatDoor

namespace Go.Proofs.YtldbbnkacahndaaGreatDoor
open Go.L
set_option maxRecDepth 100000
def zCA : Tr FC := (.node (.node (.node (.node (.node (.node (.node (.node .nil (some qOv) .nil) (some jAS) (.node .nil (some qOA) .nil)) none (.node (.node .nil none (.node .nil (some qMK) .nil)) (some qZr) (.node .nil (some qNe) .nil))) (some jBA) (.node (.node .nil none (.node .nil (some qNs) .nil)) (some jAi) (.node (.node .nil (some qOH) .nil) none (.node .nil (some qNP) .nil)))) none (.node (.node (.node (.node (.node .nil (some qNJ) .nil) (some qOn) .nil) (some jAL) (.node .nil (some qNu) .nil)) (some jAq) (.node (.node (.node .nil (some qMr) .nil) (some qOP) .nil) (some qPS) (.node .nil (some qNX) .nil))) none (.node (.node (.node (.node .nil (some qNF) .nil) (some qOa) (.node .nil (some qMS) .nil)) (some qZx) (.node (.node .nil (some qMX) .nil) (some qNm) .nil)) (some jAa) (.node (.node (.node .nil (some qMi) .nil) none .nil) (some qPD) .nil)))) none (.node (.node (.node (.node (.node .nil (some qOr) .nil) (some jAP) (.node .nil (some qNy) .nil)) (some jAu) (.node (.node (.node .nil (some qMu) .nil) (some qOT) .nil) (some qZo) (.node .nil (some qNa) .nil))) (some jAw) (.node (.node (.node .nil (some qOe) .nil) (some jAB) .nil) (some jAe) (.node (.node .nil (some qOD) .nil) (some qPH) .nil))) (some jBE) (.node (.node (.node .nil (some jAH) (.node .nil (some qNt) .nil)) (some jAm) (.node (.node (.node .nil (some qMn) .nil) (some qOL) .nil) (some qPO) (.node .nil (some qNT) .nil))) none (.node (.node (.node (.node .nil (some qNB) .nil) (some qOW) (.node .nil (some qMO) .nil)) (some qZv) (.node .nil (some qNi) .nil)) (some jAW) (.node .nil (some qOz) (.node .nil (some qNN) .nil)))))) none (.node (.node (.node (.node (.node (.node .nil (some qOt) .nil) (some jAR) .nil) none (.node (.node (.node .nil (some qMw) .nil) none .nil) (some qZp) (.node .nil (some qNc) .nil))) (some jAy) (.node (.node (.node .nil (some qOg) .nil) none (.node (.node .nil (some qMb) .nil) (some qNq) .nil)) (some jAg) (.node (.node .nil (some qOF) .nil) (some qPJ) .nil))) none (.node (.node (.node (.node .nil (some qOl) .nil) (some jAJ) .nil) (some jAo) (.node (.node (.node .nil (some qMp) .nil) (some qON) .nil) (some qPQ) (.node .nil (some qNV) .nil))) none (.node (.node (.node (.node .nil (some qND) .nil) (some qOY) (.node .nil (some qMQ) .nil)) (some qZw) (.node (.node .nil (some qMW) .nil) (some qNk) .nil)) (some jAY) (.node .nil (some qPB) (.node (.node .nil (some qMT) .nil) (some qNO) .nil))))) (some T_q5) (.node (.node (.node (.node (.node (.node .nil (some qNK) .nil) (some qOp) .nil) (some jAN) (.node .nil (some qNw) .nil)) (some jAs) (.node (.node .nil (some qOR) .nil) (some qPU) (.node .nil (some qNZ) .nil))) none (.node (.node (.node (.node .nil (some qNH) .nil) (some qOc) .nil) (some qZz) (.node (.node .nil (some qMZ) .nil) (some qNo) .nil)) (some jAc) (.node (.node (.node .nil (some qMk) .nil) none .nil) (some qPF) .nil))) (some jBC) (.node (.node (.node (.node .nil (some qOi) .nil) (some jAF) (.node (.node .nil (some qMe) .nil) none .nil)) (some jAk) (.node (.node (.node .nil (some qMl) .nil) (some qOJ) .nil) (some qPM) (.node .nil (some qNR) .nil))) none (.node (.node (.node (.node .nil (some qMz) .nil) none (.node .nil (some qMM) .nil)) (some qZt) (.node .nil (some qNg) .nil)) (some jAU) (.node (.node (.node .nil (some qMh) .nil) none .nil) (some qOx) (.node .nil (some qNM) .nil))))))) none (.node (.node (.node (.node (.node (.node (.node .nil (some qOu) .nil) none (.node (.node .nil (some qMf) .nil) none .nil)) none (.node (.node (.node .nil (some qMx) .nil) (some qOU) .nil) (some qZq) (.node .nil (some qNd) .nil))) (some jAz) (.node (.node .nil (some jAD) (.node (.node .nil (some qMc) .nil) (some qNr) .nil)) (some jAh) (.node (.node .nil (some qOG) .nil) (some qPK) .nil))) none (.node (.node (.node (.node (.node .nil (some qNI) .nil) (some qOm) .nil) (some jAK) .nil) (some jAp) (.node (.node (.node .nil (some qMq) .nil) (some qOO) .nil) (some qPR) (.node .nil (some qNW) .nil))) none (.node (.node (.node (.node .nil (some qNE) .nil) (some qOZ) (.node .nil (some qMR) .nil)) none (.node .nil (some qNl) .nil)) (some jAZ) (.node .nil (some qPC) .nil)))) (some zBA) (.node (.node (.node (.node (.node .nil (some qOq) .nil) (some jAO) (.node .nil (some qNx) .nil)) (some jAt) (.node (.node (.node .nil (some qMt) .nil) (some qOS) .nil) (some qPV) .nil)) none (.node (.node (.node .nil (some qOd) .nil) (some jAA) (.node (.node .nil (some qMa) .nil) none .nil)) (some jAd) (.node (.node .nil (some qOC) (.node .nil (some qMH) .nil)) (some qPG) .nil))) (some jBD) (.node (.node (.node (.node .nil (some qOj) .nil) (some jAG) .nil) (some jAl) (.node (.node (.node .nil (some qMm) .nil) (some qOK) (.node .nil (some qMI) .nil)) (some qPN) (.node (.node .nil (some qMV) .nil) (some qNS) .nil))) none (.node (.node (.node (.node .nil (some qNA) .nil) (some qOV) (.node .nil (some qMN) .nil)) (some qZu) (.node .nil (some qNh) .nil)) (some jAV) (.node .nil (some qOy) .nil))))) none (.node (.node (.node (.node (.node (.node .nil (some qOs) .nil) (some jAQ) (.node .nil (some qNz) .nil)) (some jAv) (.node (.node (.node .nil (some qMv) .nil) none .nil) none (.node .nil (some qNb) .nil))) (some jAx) (.node (.node (.node .nil (some qOf) .nil) (some jAC) (.node .nil (some qNp) .nil)) (some jAf) (.node (.node .nil (some qOE) .nil) (some qPI) .nil))) (some jBF) (.node (.node (.node (.node .nil (some qOk) .nil) (some jAI) .nil) (some jAn) (.node (.node (.node .nil (some qMo) .nil) (some qOM) (.node .nil (some qMJ) .nil)) (some qPP) (.node .nil (some qNU) .nil))) none (.node (.node (.node (.node .nil (some qNC) .nil) (some qOX) (.node .nil (some qMP) .nil)) none (.node .nil (some qNj) .nil)) (some jAX) (.node (.node .nil (some qOB) .nil) (some qPA) .nil)))) none (.node (.node (.node (.node (.node .nil (some qOo) .nil) (some jAM) (.node .nil (some qNv) .nil)) (some jAr) (.node (.node (.node .nil (some qMs) .nil) (some qOQ) .nil) (some qPT) (.node .nil (some qNY) .nil))) none (.node (.node (.node (.node .nil (some qNG) .nil) (some qOb) .nil) (some qZy) (.node (.node .nil (some qMY) .nil) (some qNn) .nil)) (some jAb) (.node (.node (.node .nil (some qMj) .nil) none .nil) (some qPE) .nil))) (some jBB) (.node (.node (.node (.node .nil (some qOh) .nil) (some jAE) (.node (.node .nil (some qMd) .nil) none .nil)) (some jAj) (.node (.node .nil (some qOI) .nil) (some qPL) (.node (.node .nil (some qMU) .nil) (some qNQ) .nil))) none (.node (.node (.node (.node .nil (some qMy) .nil) none (.node .nil (some qML) .nil)) (some qZs) (.node .nil (some qNf) .nil)) (some jAT) (.node (.node (.node .nil (some qMg) .nil) none .nil) (some qOw) (.node .nil (some qNL) .nil))))))))
end Go.Proofs.YtldbbnkacahndaaGreatDoor

namespace Go.L
structure Sm where
 f : FuncId
 args : List AV
 h : HT
 v : AV
 h' : HT
def updT (t : Tr (Option EB)) : List (Nat × Option EB) → Tr (Option EB)
 | [] => t
 | (i, b) :: r => updT (t.set i (some b)) r
def HT.upd (h : HT) (l : List (Nat × Option EB)) (n : Nat) : HT := ⟨updT h.t l, n⟩
def allT {α : Type} (q : Nat → α → Bool) : Tr α → Nat → Nat → Bool
 | .nil, _, _ => true
 | .node l v r, a, m => (match v with
  | none => true
  | some x => q a x) && (allT q l (Nat.add a m) (Nat.mul 2 m) && allT q r (Nat.add a (Nat.mul 2 m)) (Nat.mul 2 m))
theorem qRS {α : Type} {q : Nat → α → Bool} : ∀ (t : Tr α) (a m i : Nat) (x : α), allT q t a m = true → t.get i = some x → q (a + m * i) x = true := by
 intro t
 induction t with
 | nil => intro a m i x _ h; rw [Tr.get_nil] at h; cases h
 | node l v r ihl ihr =>
  intro a m i x ht hi
  simp only [allT, Bool.and_eq_true] at ht
  rw [Tr.get_node] at hi
  split at hi
  ·rename_i h0
   obtain rfl := Nat.eq_of_beq_eq_true h0
   subst hi
   rw [Nat.mul_zero, Nat.add_zero]; exact ht.1
  ·rename_i h0
   have hi0 : i ≠ 0 := fun e => by subst e; cases h0
   split at hi
   ·rename_i h4
    have h4' := Nat.eq_of_beq_eq_true h4
    have := ihl _ _ _ _ ht.2.1 hi
    have e : i = 2 * (i / 2) + 1 := by omega
    have e2 : a + m * i = Nat.add a m + Nat.mul 2 m * (i / 2) := by
     show a + m * i = a + m + 2 * m * (i / 2)
     conv => lhs; rw [e]
     rw [Nat.mul_add, Nat.mul_one, ← Nat.mul_assoc, Nat.mul_comm m 2]; omega
    rw [e2]; exact this
   ·rename_i h4
    have h4' : i % 2 ≠ 1 := fun e => by rw [e] at h4; cases h4
    have := ihr _ _ _ _ ht.2.2 hi
    have e : i = 2 * (i / 2 - 1) + 2 := by omega
    have e2 : a + m * i = Nat.add a (Nat.mul 2 m) + Nat.mul 2 m * (i / 2 - 1) := by
     show a + m * i = a + 2 * m + 2 * m * (i / 2 - 1)
     conv => lhs; rw [e]
     rw [Nat.mul_add, ← Nat.mul_assoc, Nat.mul_comm m 2]; omega
    rw [e2]; exact this
theorem zPD {α : Type} {q : Nat → α → Bool} {t : Tr α} {i : Nat} {x : α} (h : allT q t 0 1 = true) (hi : t.get i = some x) : q i x = true := by
 have := qRS t 0 1 i x h hi
 rwa [Nat.zero_add, Nat.one_mul] at this
def uT (h : HT) (i : Nat) : Bool := (h.t.get i).isSome
def qYu (h1 h2 : HT) (i : Nat) : Option EB → Bool
 | none => true
 | some (.b x) => blkU (uT h2) x && (match h1.t.get i with
  | some (some b) => eqB (.b x) b
  | _ => false)
 | some (.l ..) => false
def jLT (h2 h1 : HT) : Bool := allT (qYu h1 h2) h2.t 0 1
def covU (h0 h2 : HT) : Bool := allT (fun i _ => uT h2 i) h0.t 0 1
def isSm (s : Sm) (r : Option (List CR)) : Bool :=
 match r with
 | some [.ret v h] => eqA v s.v && (idU (uT s.h') s.v && (jLT s.h' h && covU s.h s.h'))
 | _ => false
def smOf (s : Sm) (f : FuncId) (args : List AV) (h : HT) : Option (List CR) :=
 match Nat.beq f s.f with
 | true => match eqL args s.args && eqH h s.h with
  | true => some [.ret s.v s.h']
  | false => none
 | false => none
def zQI : List Sm → FuncId → List AV → HT → Option (List CR)
 | [], _, _, _ => none
 | s :: r, f, args, h => match smOf s f args h with
  | some l => some l
  | none => zQI r f args h
def xMS (P : Program) (hb : FuncId → Bool) (codes : Tr FC) (loops : Nat) (ss : List Sm) : Nat → Run
 | 0 => ⟨fun _ _ _ => none, fun _ _ _ => none, fun _ _ _ _ => none⟩
 | d + 1 => ⟨fun f args h => match zQI ss f args h with
   | some l => some l
   | none => xFun P hb codes loops (xMS P hb codes loops ss d) f args h, fun c e h => xC P hb (xMS P hb codes loops ss d) loops [] c e h, xDfr P hb codes loops (xMS P hb codes loops ss d)⟩
section
variable {P : Program} {hb : FuncId → Bool}
def SmOK (P : Program) (s : Sm) : Prop := ∀ Q : Res → Hp → Prop, Q (.ret s.v) (s.h'.hp P) → CallL P s.f s.args (s.h.hp P) Q
theorem jLQ {run : Run} (hrun : RunOK P run) {s : Sm} (hs : isSm s (run.call s.f s.args s.h) = true) : SmOK P s := by
 intro Q hQ
 unfold isSm at hs
 split at hs <;> first | cases hs | skip
 rename_i v h1 hc
 simp only [Bool.and_eq_true] at hs
 obtain ⟨hv, hid, hp, hcov⟩ := hs
 have e1 := zHY _ hv
 subst e1
 refine CallL.shrink (hrun.call _ _ _ _ _ hc fun x hx => ?_)
 rw [List.mem_singleton] at hx
 subst hx
 refine ⟨_, s.h'.hp P, rfl, hQ, hid, fun i b hb => ?_, fun i hi => ?_⟩
 ·have hb' : jn P (s.h'.t.get i) = some b := hb
  cases hg : s.h'.t.get i with
  | none => rw [hg] at hb'; cases hb'
  | some o =>
   have hq := zPD hp hg
   cases o with
   | none => rw [hg] at hb'; cases hb'
   | some eb =>
    rw [hg] at hb'
    cases eb with
    | l n t ps c d st pend => cases hq
    | b x =>
     cases hb'
     simp only [qYu, Bool.and_eq_true] at hq
     obtain ⟨h2, h3⟩ := hq
     split at h3
     ·rename_i b' hg'
      have := qMC h3
      subst this
      refine ⟨zMH hg', hp_u hg, h2⟩
     ·cases h3
 ·have hi' : (s.h.t.get i).isSome = true := hi
  obtain ⟨x, hx⟩ := Option.isSome_iff_exists.1 hi'
  exact zPD hcov hx
theorem qPm {s : Sm} (hs : SmOK P s) {f : FuncId} {args : List AV} {h : HT} {l : List CR} {Q : Res → Hp → Prop} (hx : smOf s f args h = some l) (hl : ∀ x ∈ l, CRQ P Q x) : CallL P f args (h.hp P) Q := by
 unfold smOf at hx
 split at hx <;> first | cases hx | skip
 rename_i hf
 split at hx <;> cases hx
 rename_i ha
 simp only [Bool.and_eq_true] at ha
 obtain rfl := Nat.eq_of_beq_eq_true hf
 obtain rfl := zGM _ ha.1
 obtain rfl := zRC ha.2
 exact hs Q (hl _ (List.mem_singleton.2 rfl))
theorem zOj : ∀ {ss : List Sm}, (∀ s ∈ ss, SmOK P s) → ∀ {f : FuncId} {args : List AV} {h : HT} {l : List CR} {Q : Res → Hp → Prop}, zQI ss f args h = some l → (∀ x ∈ l, CRQ P Q x) → CallL P f args (h.hp P) Q
 | [], _, _, _, _, _, _, hx, _ => by cases hx
 | s :: r, hs, f, args, h, l, Q, hx, hl => by
  simp only [zQI] at hx
  split at hx
  ·rename_i l' hl'; cases hx; exact qPm (hs s List.mem_cons_self) hl' hl
  ·exact zOj (fun s h => hs s (List.mem_cons_of_mem _ h)) hx hl
theorem qYh {ss : List Sm} (hs : ∀ s ∈ ss, SmOK P s) {codes : Tr FC} {loops : Nat} (hk : zMY P codes) (hh : zEc P hb) : ∀ d, RunOK P (xMS P hb codes loops ss d) := by
 intro d
 induction d with
 | zero =>
  refine ⟨?_, ?_, ?_⟩
  ·intro f args h l Q hx; cases hx
  ·intro c e h l Q hx; cases hx
  ·intro f args u h l Q hx; cases hx
 | succ d ih =>
  refine ⟨fun f args h l Q hx hl => ?_, fun c e h l Q hx hQ hl => zVr hh ih c e h l Q hx hQ hl, fun f args u h l Q hx hl => zQF hk hh ih hx hl⟩
  have hx : (match zQI ss f args h with
   | some l => some l
   | none => xFun P hb codes loops (xMS P hb codes loops ss d) f args h) = some l := hx
  split at hx
  ·rename_i l' hl'; cases hx; exact zOj hs hl' hl
  ·exact zQE hk hh ih hx hl
theorem zQO {codes : Tr FC} (hk : trOK (zA P) codes id) {ss : List Sm} (hs : ∀ s ∈ ss, SmOK P s) (loops d : Nat) : RunOK P (xMS P (hbOf codes) codes loops ss d) := by
 refine qYh hs (fun f c hc => ?_) (fun f hf => ?_) d
 ·obtain ⟨fn, m, h1, h2, h3, _⟩ := zJS codes id f c hk hc
  exact ⟨fn, m, h1, h2, h3⟩
 ·cases hc : codes.get f with
  | none => simp [hbOf, hc] at hf
  | some c =>
   obtain ⟨fn, m, h1, _, h3, h4⟩ := zJS codes id f c hk hc
   refine ⟨fn, h1, ?_, h4⟩
   obtain ⟨full, h3, _⟩ := zJY h3
   unfold zS at h3
   split at h3
   ·cases h3
   ·rename_i c' hb; rw [hb]; rfl
theorem SmOK.of {codes : Tr FC} (hk : trOK (zA P) codes id) {ss : List Sm} (hs : ∀ s ∈ ss, SmOK P s) {loops d : Nat} {s : Sm} (hx : isSm s ((xMS P (hbOf codes) codes loops ss d).call s.f s.args s.h) = true) : ∀ x ∈ s :: ss, SmOK P x := by
 intro x hxs
 rcases List.mem_cons.1 hxs with rfl | hxs
 ·exact jLQ (zQO hk hs loops d) hx
 ·exact hs x hxs
theorem CallL.ofRunS {codes : Tr FC} (hk : trOK (zA P) codes id) {ss : List Sm} (hs : ∀ s ∈ ss, SmOK P s) {loops d : Nat} {f : FuncId} {args : List AV} {v : AV} (ha : args.all sc1 = true) (hv : scv v = true)
  (hx : (match (xMS P (hbOf codes) codes loops ss d).call f args HT.nil with | some l => l.all (qZU v) | none => false) = true) : PureL P f args v := by
 intro h
 split at hx <;> first | cases hx | skip
 rename_i l hr
 have k := (zQO hk hs loops d).call f args HT.nil l (fun r _ => ∃ x, r = .ret x ∧ scv x = true ∧ x = v) hr fun x hxl => by
  have h1 := List.all_eq_true.1 hx x hxl
  cases x with
  | ret x h' => have := zHY _ h1; subst this; exact ⟨_, rfl, hv, rfl⟩
  | pan x h' => cases h1
 rw [HT.hp_nil] at k
 exact (CallL.closed ha (Q := fun x => x = v) k).mono fun r h' ⟨x, h1, h2, h3⟩ => ⟨by rw [h1, h2], h3⟩
end
end Go.L
