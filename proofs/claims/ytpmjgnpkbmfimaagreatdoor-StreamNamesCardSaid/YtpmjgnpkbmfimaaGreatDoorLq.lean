/-
  The logic L, part q: what a reading operation hangs on; it picks one value.
-/
import Derived.Test.YtpmjgnpkbmfimaaGreatDoorLx
namespace Go.L

def otm : AOpd → List Nat
  | .t n => [n]
  | _ => []
def otmO : Option AOpd → List Nat
  | none => []
  | some x => otm x
def otmL : List AOpd → List Nat
  | [] => []
  | x :: l => otm x ++ otmL l
def otmP : List (Nat × Nat × AOpd) → List Nat
  | [] => []
  | (_, _, x) :: l => otm x ++ otmP l

/-- The temporaries that an operation reads. -/
def AOp.tmps : AOp → List Nat
  | .mov x => otm x
  | .pick c a b => otm c ++ (otm a ++ otm b)
  | .bini _ x y => otm x ++ otm y
  | .bins _ x y => otm x ++ otm y
  | .binb _ x y => otm x ++ otm y
  | .not x => otm x
  | .neg x => otm x
  | .lens x => otm x
  | .lenl x => otm x
  | .ext _ x => otm x
  | .fld _ x => otm x
  | .flda _ _ x => otm x
  | .conv _ x => otm x
  | .idxs x i => otm x ++ otm i
  | .slcs x lo hi => otm x ++ (otmO lo ++ otmO hi)
  | .iaddr _ _ x i => otm x ++ otm i
  | .faddr _ x => otm x
  | .nilc x => otm x
  | .ld1 x => otm x
  | .lda _ x => otm x
  | .mkifc _ x => otm x
  | .mkfn _ a c => otmL a ++ otmL c
  | .slcl _ _ x lo hi m => otm x ++ (otmO lo ++ (otmO hi ++ otmO m))
  | .isnil _ _ x => otm x
  | .capk x => otm x
  | .convs x => otm x
  | .xcount x c => otm x ++ otm c
  | .xindex x c => otm x ++ otm c
  | .mn x y => otm x ++ otm y
  | .mx x y => otm x ++ otm y
  | .mlook _ _ _ x k => otm x ++ otm k
  | .mlen x => otm x
  | .mkmap => []
  | .mupd _ x k v => otm x ++ (otm k ++ otm v)
  | .call _ a => otmL a
  | .st _ x v => otm x ++ otm v
  | .box _ _ x => otm x
  | .bslice _ _ _ _ p => otmP p
  | .app _ _ _ s x => otm s ++ otm x
  | .bslice0 _ => []
  | .callv x a => otm x ++ otmL a
  | .clr _ _ x => otm x
  | .mkslice _ _ _ _ l c => otm l ++ otm c
  | .appz _ _ _ _ s n => otm s ++ otm n
  | .pan x => otm x
  | .tass _ _ _ x => otm x
  | .entr x => otm x
  | .inv _ x a => otm x ++ otmL a
  | .rngs x => otm x
  | .rngm x => otm x
  | .nxs x => otm x
  | .nxm x => otm x
  | .ment _ _ x k => otm x ++ otm k
  | .mest x s v => otm x ++ (otm s ++ otm v)
  | .mdel _ x k => otm x ++ otm k
  | .cas _ x o n => otm x ++ (otm o ++ otm n)
  | .xadd _ x y => otm x ++ otm y
  | .cpy _ _ d s => otm d ++ otm s
  | .upc x => otm x
  | .upt _ x => otm x
  | .peq _ x y => otm x ++ otm y
  | .usd x => otm x
  | .adr _ _ x i => otm x ++ otm i
  | .cpl x => otm x
  | .xcmp x y => otm x ++ otm y
  | .mkm _ a => otmL a
  | .nilm x => otm x
  | .aeq _ _ x y => otm x ++ otm y
  | .b2s x => otm x
  | .mnz _ x => otm x
  | .ustr _ x n => otm x ++ otm n
  | .s2b _ x => otm x
  | .rac x => otm x
  | .b2b x => otm x
  | .pcall _ a => otmL a
  | .pcallv x a => otm x ++ otmL a
  | .acall _ a => otmL a
  | .acallv x a => otm x ++ otmL a
  | .fslice _ _ _ _ p => otmP p
  | .bad => []
  | .build _ p => otmP p

/-- The two agree on these temporaries. -/
def Agree (l : List Nat) (e e2 : Env) : Prop := ∀ t ∈ l, e.t t = e2.t t

section
variable {e e2 : Env}
theorem Agree.l {a b : List Nat} (h : Agree (a ++ b) e e2) : Agree a e e2 := fun t ht => h t (List.mem_append.2 (.inl ht))
theorem Agree.r {a b : List Nat} (h : Agree (a ++ b) e e2) : Agree b e e2 := fun t ht => h t (List.mem_append.2 (.inr ht))
theorem Agree.ev {x : AOpd} (h : Agree (otm x) e e2) : ev e x = ev e2 x := by
  cases x with
  | t n => exact h n (List.mem_singleton.2 rfl)
  | c v => rfl
  | f i => rfl
theorem Agree.evs : ∀ {l : List AOpd}, Agree (otmL l) e e2 → l.map (Go.L.ev e) = l.map (Go.L.ev e2) := by
  intro l
  induction l with
  | nil => intro _; rfl
  | cons x l ih => intro h; rw [List.map_cons, List.map_cons, h.l.ev, ih h.r]
theorem Agree.bnd {x : Option AOpd} {d : Nat} {N : Nat → Prop} (h : Agree (otmO x) e e2) : bndO e d x N = bndO e2 d x N := by
  cases x with
  | none => rfl
  | some x => simp only [bndO]; rw [Agree.ev (x := x) h]
theorem Agree.lay : ∀ {l : List (Nat × Nat × AOpd)} {cs : List AV}, Agree (otmP l) e e2 → lay e cs l = lay e2 cs l := by
  intro l
  induction l with
  | nil => intro cs _; rfl
  | cons p l ih =>
    intro cs h
    obtain ⟨o, n, x⟩ := p
    simp only [Go.L.lay]
    rw [h.l.ev, ih h.r]

theorem LN_congr {o : AOp} {h : Hp} {N : AV → Prop} (ha : Agree o.tmps e e2) : LN o e h N = LN o e2 h N := by
  cases o <;> simp only [AOp.tmps] at ha <;> simp only [LN]
  case mov x => rw [ha.ev]
  case pick c a b => rw [ha.l.ev, ha.r.l.ev, ha.r.r.ev]
  case slcs x lo hi => rw [ha.l.ev]; simp only [ha.r.l.bnd, ha.r.r.bnd]
  case slcl T z x lo hi mx =>
    rw [ha.l.ev]
    simp only [ha.r.l.bnd, ha.r.r.l.bnd, ha.r.r.r.bnd]
    cases mx with
    | none => rfl
    | some y =>
      have : ∀ d N, bndO e d (some y) N = bndO e2 d (some y) N := fun d N => Agree.bnd (x := some y) ha.r.r.r
      simp only [this]
  case mkfn f a c => rw [ha.l.evs, ha.r.evs]
  case mkm n a => rw [ha.evs]
  case build z p => rw [ha.lay]
  all_goals first
    | rw [ha.ev]
    | rw [ha.l.ev, ha.r.ev]
    | rfl

/-- Reads no memory that may change. -/
def AOp.hfree : AOp → Bool
  | .iaddr .. => false
  | .slcl .. => false
  | .ld1 _ => false
  | .lda .. => false
  | .mlook .. => false
  | .mlen _ => false
  | .pcall .. => false
  | .pcallv .. => false
  | .entr _ => false
  | .upc _ => false
  | .upt .. => false
  | .b2s _ => false
  | _ => true

theorem LN_hfree {o : AOp} (ho : o.hfree = true) (h h2 : Hp) (N : AV → Prop) : LN o e h N = LN o e h2 N := by
  cases o <;> first | rfl | cases ho

theorem gen_one {c : Bool} {f : Bool → AV} {N : AV → Prop} (h : gen c fun t => N (f t)) : ∃ v, N v ∧ ∀ N' : AV → Prop, N' v → gen c fun t => N' (f t) := ⟨_, gen_use h, fun N' hN t ht => by rw [ht]; exact hN⟩
theorem genI_one {c : Int} {f : Int → AV} {N : AV → Prop} (h : genI c fun t => N (f t)) : ∃ v, N v ∧ ∀ N' : AV → Prop, N' v → genI c fun t => N' (f t) := ⟨_, genI_use h, fun N' hN t ht => by rw [ht]; exact hN⟩

theorem binI_one {op : BinOp} {k k' : IntKind} {a b : Int} {N : AV → Prop} (h : binI op k a k' b N) : ∃ v, N v ∧ ∀ N' : AV → Prop, N' v → binI op k a k' b N' := by
  cases op
  case shl => exact ⟨_, genI_use h.2, fun N' hN => ⟨h.1, fun m hm => by rw [hm]; exact hN⟩⟩
  case shr => exact ⟨_, genI_use h.2, fun N' hN => ⟨h.1, fun m hm => by rw [hm]; exact hN⟩⟩
  all_goals
    simp only [binI] at h ⊢
    cases hk : ikeq k k' <;> simp only [hk, cond_true, cond_false] at h ⊢
    first
      | exact genI_one h
      | exact gen_one h
      | exact ⟨_, genI_use h.2, fun N' hN => ⟨h.1, fun m hm => by rw [hm]; exact hN⟩⟩

theorem binS_one {op : BinOp} {a b : List UInt8} {N : AV → Prop} (h : binS op a b N) : ∃ v, N v ∧ ∀ N' : AV → Prop, N' v → binS op a b N' := by
  cases op <;> simp only [binS] at h ⊢ <;> first | exact h.elim | exact gen_one h | exact ⟨_, h.2, fun N' hN => ⟨h.1, hN⟩⟩

theorem binB_one {op : BinOp} {x y : AV} {N : AV → Prop} (h : binB op x y N) : ∃ v, N v ∧ ∀ N' : AV → Prop, N' v → binB op x y N' := by
  unfold binB at h ⊢
  split at h <;> first | exact h.elim | exact gen_one h

theorem bndO_one {d : Nat} {x : Option AOpd} {N : Nat → Prop} (h : bndO e d x N) : ∃ k, N k ∧ ∀ N' : Nat → Prop, N' k → bndO e d x N' := by
  cases x with
  | none => exact ⟨d, h, fun N' hN => hN⟩
  | some x =>
    simp only [bndO] at h ⊢
    split at h <;> first | exact h.elim | skip
    obtain ⟨k, h1, h2⟩ := h
    exact ⟨k, h2, fun N' hN => ⟨k, h1, hN⟩⟩

theorem nilN_one {k : NK} {v : AV} {f : Bool → AV} {N : AV → Prop} (h : nilN k v fun b => N (f b)) : ∃ u, N u ∧ ∀ N' : AV → Prop, N' u → nilN k v fun b => N' (f b) := by
  unfold nilN at h ⊢
  split at h <;> (split at h <;> first | exact h.elim | exact ⟨_, h, fun N' hN => hN⟩ | exact ⟨_, h.2, fun N' hN => ⟨h.1, hN⟩⟩)

theorem LN_one {o : AOp} {h : Hp} {N : AV → Prop} (hl : LN o e h N) : ∃ v, N v ∧ ∀ N' : AV → Prop, N' v → LN o e h N' := by
  cases o <;> simp only [LN] at hl ⊢
  case mov x => exact ⟨_, hl, fun N' hN => hN⟩
  case binb op x y => exact binB_one hl
  case mkifc t x => exact ⟨_, hl, fun N' hN => hN⟩
  case mkfn f a c => exact ⟨_, hl, fun N' hN => hN⟩
  case mkm n a => exact ⟨_, hl, fun N' hN => hN⟩
  case isnil k n x => exact nilN_one hl
  case build z p => obtain ⟨cs, h1, h2⟩ := hl; exact ⟨_, h2, fun N' hN => ⟨cs, h1, hN⟩⟩
  case bini op x y => split at hl <;> first | exact hl.elim | exact binI_one hl
  case bins op x y => split at hl <;> first | exact hl.elim | exact binS_one hl
  case slcs x lo hi =>
    split at hl <;> first | exact hl.elim | skip
    obtain ⟨q, hl, hq⟩ := bndO_one hl
    obtain ⟨p, hl, hp⟩ := bndO_one hl
    exact ⟨_, hl.2.2, fun N' hN => hq _ (hp _ ⟨hl.1, hl.2.1, hN⟩)⟩
  case iaddr T z x i =>
    split at hl <;> first | exact hl.elim | skip
    · obtain ⟨k, cs, h1, h2, h3, h4, h5⟩ := hl; exact ⟨_, h5, fun N' hN => ⟨k, cs, h1, h2, h3, h4, hN⟩⟩
    · obtain ⟨k, h1, h2, h3, h4⟩ := hl; exact ⟨_, h4, fun N' hN => ⟨k, h1, h2, h3, hN⟩⟩
  case idxs x i => split at hl <;> first | exact hl.elim | (obtain ⟨k, c, h1, h2, h3⟩ := hl; exact ⟨_, h3, fun N' hN => ⟨k, c, h1, h2, hN⟩⟩)
  case ld1 x =>
    split at hl <;> first | exact hl.elim | skip
    · obtain ⟨v, h1, h2⟩ := hl; exact ⟨_, h2, fun N' hN => ⟨v, h1, hN⟩⟩
    · obtain ⟨T, es, cs, v, h1, h2, h3, h4⟩ := hl; exact ⟨_, h4, fun N' hN => ⟨T, es, cs, v, h1, h2, h3, hN⟩⟩
  case lda n x =>
    split at hl <;> first | exact hl.elim | skip
    · exact ⟨_, hl.2, fun N' hN => ⟨hl.1, hN⟩⟩
    · obtain ⟨T, es, cs, h1, h2, h3, h4⟩ := hl; exact ⟨_, h4, fun N' hN => ⟨T, es, cs, h1, h2, h3, hN⟩⟩
  case slcl T z x lo hi mx =>
    split at hl <;> first | exact hl.elim | skip
    · obtain ⟨h0, hl⟩ := hl
      obtain ⟨q, hl, hq⟩ := bndO_one hl
      obtain ⟨p, hl, hp⟩ := bndO_one hl
      obtain ⟨m, hl, hm⟩ := bndO_one hl
      obtain ⟨h1, h2, h3, hl⟩ := hl
      rcases hl with ⟨h4, h5, h6⟩ | h6
      · exact ⟨_, h6, fun N' hN => ⟨h0, hq _ (hp _ (hm _ ⟨h1, h2, h3, .inl ⟨h4, h5, hN⟩⟩))⟩⟩
      · exact ⟨_, h6, fun N' hN => ⟨h0, hq _ (hp _ (hm _ ⟨h1, h2, h3, .inr hN⟩))⟩⟩
    · obtain ⟨h0, hl⟩ := hl
      obtain ⟨q, hl, hq⟩ := bndO_one hl
      obtain ⟨p, hl, hp⟩ := bndO_one hl
      cases mx with
      | none => exact ⟨_, hl.2.2, fun N' hN => ⟨h0, hq _ (hp _ ⟨hl.1, hl.2.1, hN⟩)⟩⟩
      | some y =>
        obtain ⟨m, hl, hm⟩ := bndO_one hl
        exact ⟨_, hl.2.2.2, fun N' hN => ⟨h0, hq _ (hp _ (hm _ ⟨hl.1, hl.2.1, hl.2.2.1, hN⟩))⟩⟩
    all_goals
      obtain ⟨q, hl, hq⟩ := bndO_one hl
      obtain ⟨p, hl, hp⟩ := bndO_one hl
      obtain ⟨m, hl, hm⟩ := bndO_one hl
      exact ⟨_, hl.2.2.2, fun N' hN => hq _ (hp _ (hm _ ⟨hl.1, hl.2.1, hl.2.2.1, hN⟩))⟩
  case tass T ok z x =>
    split at hl <;> first | exact hl.elim | skip
    · cases hb : Nat.beq _ T <;> rw [hb] at hl
      · exact ⟨_, hl.2, fun N' hN => ⟨hl.1, hN⟩⟩
      · exact ⟨_, hl, fun N' hN => hN⟩
    · exact ⟨_, hl.2, fun N' hN => ⟨hl.1, hN⟩⟩
  case entr x =>
    split at hl <;> first | exact hl.elim | skip
    obtain ⟨m, since, seen, stepped, es, c, k, v, b, h1, h2, h3, h4, h5, h6⟩ := hl
    exact ⟨_, h6, fun N' hN => ⟨m, since, seen, stepped, es, c, k, v, b, h1, h2, h3, h4, h5, hN⟩⟩
  case mlook m z ok x k =>
    split at hl <;> first | exact hl.elim | skip
    · obtain ⟨es, c, h1, h2, h3, h4⟩ := hl
      have h5 := h4 _ rfl
      cases hg : mget (ev e k) es with
      | some v => rw [hg] at h5; exact ⟨_, h5, fun N' hN => ⟨es, c, h1, h2, h3, fun r hr => by rw [hr, hg]; exact hN⟩⟩
      | none => rw [hg] at h5; exact ⟨_, h5, fun N' hN => ⟨es, c, h1, h2, h3, fun r hr => by rw [hr, hg]; exact hN⟩⟩
    · exact ⟨_, hl.2, fun N' hN => ⟨hl.1, hN⟩⟩
  case mlen x =>
    split at hl <;> first | exact hl.elim | skip
    · obtain ⟨es, c, h1, h2⟩ := hl; exact ⟨_, h2, fun N' hN => ⟨es, c, h1, hN⟩⟩
    · exact ⟨_, hl, fun N' hN => hN⟩
  case upc x =>
    split at hl <;> first | exact hl.elim | skip
    · obtain ⟨T, es, cs, h1, h2, h3, h4⟩ := hl; exact ⟨_, h4, fun N' hN => ⟨T, es, cs, h1, h2, h3, hN⟩⟩
    · exact ⟨_, hl, fun N' hN => hN⟩
  case upt T x =>
    split at hl <;> first | exact hl.elim | skip
    · obtain ⟨es, h1, h2, h3⟩ := hl; exact ⟨_, h3, fun N' hN => ⟨es, h1, h2, hN⟩⟩
    · exact ⟨_, hl, fun N' hN => hN⟩
  case peq neg x y =>
    split at hl <;> first | exact hl.elim | skip
    · exact ⟨_, hl.2.2, fun N' hN => ⟨hl.1, hl.2.1, hN⟩⟩
    all_goals exact ⟨_, hl, fun N' hN => hN⟩
  case b2s x =>
    split at hl <;> first | exact hl.elim | skip
    obtain ⟨es, s, h1, h2, h3⟩ := hl
    exact ⟨_, h3, fun N' hN => ⟨es, s, h1, h2, hN⟩⟩
  case aeq neg ks x y =>
    split at hl <;> first | exact hl.elim | (obtain ⟨h1, t, h2, h3⟩ := hl; exact ⟨_, h3, fun N' hN => ⟨h1, t, h2, hN⟩⟩)
  case adr n z x i =>
    split at hl <;> first | exact hl.elim | (obtain ⟨k, h1, h2, h3⟩ := hl; exact ⟨_, h3, fun N' hN => ⟨k, h1, h2, hN⟩⟩)
  case mn x y =>
    split at hl <;> first | exact hl.elim | skip
    rename_i k a k' b _ _
    cases hk : ikeq k k' <;> simp only [hk, cond_true, cond_false] at hl ⊢
    exact genI_one hl
  case mx x y =>
    split at hl <;> first | exact hl.elim | skip
    rename_i k a k' b _ _
    cases hk : ikeq k k' <;> simp only [hk, cond_true, cond_false] at hl ⊢
    exact genI_one hl
  all_goals first
    | exact hl.elim
    | (split at hl <;> first
        | exact hl.elim
        | exact genI_one hl
        | exact ⟨_, hl, fun N' hN => hN⟩
        | exact ⟨_, hl.2, fun N' hN => ⟨hl.1, hN⟩⟩
        | (obtain ⟨v, h1, h2⟩ := hl; exact ⟨_, h2, fun N' hN => ⟨v, h1, hN⟩⟩))

theorem LN_mono {o : AOp} {h : Hp} {N N' : AV → Prop} (hl : LN o e h N) (hn : ∀ v, N v → N' v) : LN o e h N' := by
  obtain ⟨v, h1, h2⟩ := LN_one hl
  exact h2 _ (hn v h1)
end
end Go.L
