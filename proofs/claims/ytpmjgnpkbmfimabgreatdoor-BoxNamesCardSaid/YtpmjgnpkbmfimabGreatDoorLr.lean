/-
  The logic L, part r: operations hang on what they read, and are monotone.
-/
import Derived.Test.YtpmjgnpkbmfimabGreatDoorLq
namespace Go.L

section
variable {P : Program} {md : Bool} {e e2 : Env}

theorem LOp_congr {o : AOp} {h : Hp} {N X : AV → Hp → Prop} (ha : Agree o.tmps e e2) : LOp P md o e h N X = LOp P md o e2 h N X := by
  cases o
  case call f a => simp only [AOp.tmps] at ha; simp only [LOp]; rw [ha.evs]
  case st n x v => simp only [AOp.tmps] at ha; simp only [LOp]; rw [ha.l.ev, ha.r.ev]
  case box T z x => simp only [AOp.tmps] at ha; simp only [LOp]; rw [ha.ev]
  case bslice T z n zs p => simp only [AOp.tmps] at ha; simp only [LOp]; rw [ha.lay]
  case app T z b s x => simp only [AOp.tmps] at ha; simp only [LOp]; rw [ha.l.ev, ha.r.ev]
  case bslice0 T => rfl
  case nilm x => simp only [AOp.tmps] at ha; simp only [LOp]; rw [ha.ev]
  case callv x a => simp only [AOp.tmps] at ha; simp only [LOp]; rw [ha.l.ev, ha.r.evs]
  case clr T z x => simp only [AOp.tmps] at ha; simp only [LOp]; rw [ha.ev]
  case mkslice T z b zs l c => simp only [AOp.tmps] at ha; simp only [LOp]; rw [ha.l.ev, ha.r.ev]
  case appz T z b zs s n => simp only [AOp.tmps] at ha; simp only [LOp]; rw [ha.l.ev, ha.r.ev]
  case pan x => simp only [AOp.tmps] at ha; simp only [LOp]; rw [ha.ev]
  case mkmap => rfl
  case mupd m x k v => simp only [AOp.tmps] at ha; simp only [LOp]; rw [ha.l.ev, ha.r.l.ev, ha.r.r.ev]
  case pcall f a => simp only [AOp.tmps] at ha; simp only [LOp]; rw [ha.evs]
  case inv tb x a => simp only [AOp.tmps] at ha; simp only [LOp]; rw [ha.l.ev, ha.r.evs]
  case rngs x => simp only [AOp.tmps] at ha; simp only [LOp]; rw [ha.ev]
  case rngm x => simp only [AOp.tmps] at ha; simp only [LOp]; rw [ha.ev]
  case nxs x => simp only [AOp.tmps] at ha; simp only [LOp]; rw [ha.ev]
  case nxm x => simp only [AOp.tmps] at ha; simp only [LOp]; rw [ha.ev]
  case ment m z x k => simp only [AOp.tmps] at ha; simp only [LOp]; rw [ha.l.ev, ha.r.ev]
  case mest x s v => simp only [AOp.tmps] at ha; simp only [LOp]; rw [ha.l.ev, ha.r.l.ev, ha.r.r.ev]
  case mdel m x k => simp only [AOp.tmps] at ha; simp only [LOp]; rw [ha.l.ev, ha.r.ev]
  case cas kd x y n => simp only [AOp.tmps] at ha; simp only [LOp]; rw [ha.l.ev, ha.r.l.ev, ha.r.r.ev]
  case xadd kd x y => simp only [AOp.tmps] at ha; simp only [LOp]; rw [ha.l.ev, ha.r.ev]
  case cpy T z d s => simp only [AOp.tmps] at ha; simp only [LOp]; rw [ha.l.ev, ha.r.ev]
  case mnz T x => simp only [AOp.tmps] at ha; simp only [LOp]; rw [ha.ev]
  case ustr T x n => simp only [AOp.tmps] at ha; simp only [LOp]; rw [ha.l.ev, ha.r.ev]
  case s2b T x => simp only [AOp.tmps] at ha; simp only [LOp]; rw [ha.ev]
  case b2b x => simp only [AOp.tmps] at ha; simp only [LOp]; rw [ha.ev]
  case pcallv x a => simp only [AOp.tmps] at ha; simp only [LOp]; rw [ha.l.ev, ha.r.evs]
  case acall f a => simp only [AOp.tmps] at ha; simp only [LOp]; rw [ha.evs]
  case acallv x a => simp only [AOp.tmps] at ha; simp only [LOp]; rw [ha.l.ev, ha.r.evs]
  case fslice T z n zs p => simp only [AOp.tmps] at ha; simp only [LOp]; rw [ha.lay]
  all_goals exact LN_congr (h := h) (N := fun v => N v h) ha

theorem LAppE_mono {T : TypeId} {z b : Nat} {s : AV} {es : List (List AV)} {h : Hp} {N N' : AV → Hp → Prop} (hl : LAppE md T z b s es h N) (hn : ∀ v h', N v h' → N' v h') : LAppE md T z b s es h N' := by
  obtain ⟨h0, hl⟩ := hl
  refine ⟨h0, ?_⟩
  split at hl <;> first | exact hl.elim | skip
  · exact hl.imp (fun h => ⟨h.1, hn _ _ h.2⟩) fun h => ⟨h.1, h.2.1, h.2.2.1, h.2.2.2.mono fun j hj => hn _ _ hj⟩
  · exact hl.imp (fun h => ⟨h.1, hn _ _ h.2⟩) fun h => ⟨h.1, h.2.1, h.2.2.1, h.2.2.2.mono fun j hj => hn _ _ hj⟩
  · obtain ⟨es, h1, h2, h3, hl⟩ := hl
    exact ⟨es, h1, h2, h3, hl.imp (fun h => ⟨h.1, hn _ _ h.2⟩) fun h => ⟨h.1, h.2.1, h.2.2.1, h.2.2.2.mono fun j hj => hn _ _ hj⟩⟩
  · obtain ⟨es, h1, h2, h3, hl⟩ := hl
    exact ⟨es, h1, h2, h3, hl.imp (fun h => ⟨h.1, h.2.1, hn _ _ h.2.2⟩) fun h => ⟨h.1, h.2.1, h.2.2.1, h.2.2.2.mono fun j hj => hn _ _ hj⟩⟩

theorem LOp_mono {o : AOp} {h : Hp} {N N' X X' : AV → Hp → Prop} (hl : LOp P md o e h N X) (hn : ∀ v h', N v h' → N' v h') (hx : ∀ v h', X v h' → X' v h') : LOp P md o e h N' X' := by
  cases o
  case call f a => exact CallL.mono hl fun r h' hr => by cases r with | ret v => exact hn _ _ hr | pan v => exact hx _ _ hr
  case st n x v =>
    simp only [LOp] at hl ⊢
    split at hl <;> first | exact hl.elim | skip
    obtain ⟨T, es, cs, h1, h2, h3, h4, h5, h6, h7⟩ := hl
    exact ⟨T, es, cs, h1, h2, h3, h4, h5, h6, hn _ _ h7⟩
  case box T z x => exact ⟨hl.1, hl.2.1, hl.2.2.mono fun i hi => hn _ _ hi⟩
  case bslice T z n zs p => obtain ⟨cs, h1, h2⟩ := hl; exact ⟨cs, h1, h2.mono fun i hi => hn _ _ hi⟩
  case app T z b s x => obtain ⟨es, h1, h2⟩ := hl; exact ⟨es, h1, LAppE_mono h2 hn⟩
  case bslice0 T => exact Or.imp (hn _ _) (fun h => allocN.mono h fun i hi => hn _ _ hi) hl
  case nilm x =>
    simp only [LOp] at hl ⊢
    split at hl <;> first | exact hl.elim | exact hn _ _ hl | exact ⟨hl.1, hn _ _ hl.2⟩
  case callv x a =>
    simp only [LOp] at hl ⊢
    split at hl <;> first | exact hl.elim | skip
    · exact ⟨hl.1, CallL.mono hl.2 fun r h' hr => by cases r with | ret v => exact hn _ _ hr | pan v => exact hx _ _ hr⟩
    · exact RoundL.mono hl fun v h' hq => hn _ _ hq
    · split at hl <;> first | exact hl.elim | skip
      exact CallL.mono hl fun r h' hr => by cases r with | ret v => exact hn _ _ hr | pan v => exact hx _ _ hr
  case clr T z x =>
    simp only [LOp] at hl ⊢
    split at hl <;> first | exact hl.elim | exact hn _ _ hl | skip
    · obtain ⟨es, h1, h2, h3, h4⟩ := hl; exact ⟨es, h1, h2, h3, hn _ _ h4⟩
    · exact ⟨hl.1, hn _ _ hl.2⟩
  case mkslice T z b zs l c =>
    simp only [LOp] at hl ⊢
    split at hl <;> first | exact hl.elim | skip
    obtain ⟨l', c', h1, h2, h3, h4, h5, h6⟩ := hl
    exact ⟨l', c', h1, h2, h3, h4, h5, h6.mono fun i hi => hn _ _ hi⟩
  case appz T z b zs s n =>
    simp only [LOp] at hl ⊢
    split at hl <;> first | exact hl.elim | skip
    obtain ⟨k, h1, h2, h3, h4⟩ := hl
    exact ⟨k, h1, h2, h3, LAppE_mono h4 hn⟩
  case mkmap => exact allocN.mono hl fun i hi => hn _ _ hi
  case mupd m x k v =>
    simp only [LOp] at hl ⊢
    split at hl <;> first | exact hl.elim | skip
    obtain ⟨es, c, h1, h2, h3, h4⟩ := hl
    refine ⟨es, c, h1, h2, h3, fun r hr => ?_⟩
    have h5 := h4 r hr
    cases r <;> exact hn _ _ h5
  case pan x =>
    simp only [LOp] at hl ⊢
    split at hl <;> first | exact hl.elim | skip
    exact hx _ _ hl
  case pcall f a => obtain ⟨v, h1, h2⟩ := hl; exact ⟨v, h1, hn _ _ h2⟩
  case inv tb x a =>
    simp only [LOp] at hl ⊢
    split at hl <;> first | exact hl.elim | skip
    split at hl <;> first | exact hl.elim | skip
    exact CallL.mono hl fun r h' hr => by cases r with | ret v => exact hn _ _ hr | pan v => exact hx _ _ hr
  case rngs x =>
    simp only [LOp] at hl ⊢
    split at hl <;> first | exact hl.elim | skip
    exact hl.mono fun i hi => hn _ _ hi
  case rngm x =>
    simp only [LOp] at hl ⊢
    split at hl <;> first | exact hl.elim | skip
    · obtain ⟨es, c, h1, h2⟩ := hl; exact ⟨es, c, h1, h2.mono fun i hi => hn _ _ hi⟩
    · exact hl.mono fun i hi => hn _ _ hi
  case nxs x =>
    simp only [LOp] at hl ⊢
    split at hl <;> first | exact hl.elim | skip
    obtain ⟨s, pos, h1, h2⟩ := hl
    refine ⟨s, pos, h1, fun t ht => ?_⟩
    have h3 := h2 t ht
    cases t with
    | true => exact fun r hr => hn _ _ (h3 r hr)
    | false => exact hn _ _ h3
  case nxm x =>
    simp only [LOp] at hl ⊢
    split at hl <;> first | exact hl.elim | skip
    obtain ⟨m, since, seen, stepped, h1, h2⟩ := hl
    refine ⟨m, since, seen, stepped, h1, ?_⟩
    cases m with
    | none => exact orDel.mono h2 fun h hh => hn _ _ hh
    | some m => obtain ⟨es, c, h3, h4, h5, h6⟩ := h2; exact ⟨es, c, h3, h4, fun h => orDel.mono (h5 h) fun h hh => hn _ _ hh, fun k v b hk hb => hn _ _ (h6 k v b hk hb)⟩
  case ment m z x k =>
    simp only [LOp] at hl ⊢
    split at hl <;> first | exact hl.elim | skip
    obtain ⟨es, c, h1, h2, h3, h4⟩ := hl
    refine ⟨es, c, h1, h2, h3, fun r hr => ?_⟩
    have h5 := h4 r hr
    cases r <;> exact hn _ _ h5
  case mest x s v =>
    simp only [LOp] at hl ⊢
    split at hl <;> first | exact hl.elim | skip
    obtain ⟨es, c, b, h1, h2, h3, h4⟩ := hl
    exact ⟨es, c, b, h1, h2, h3, hn _ _ h4⟩
  case mdel m x k =>
    simp only [LOp] at hl ⊢
    split at hl <;> first | exact hl.elim | skip
    · obtain ⟨es, c, h1, h2, h3, h4⟩ := hl; exact ⟨es, c, h1, h2, h3, hn _ _ h4⟩
    · exact ⟨hl.1, hn _ _ hl.2⟩
  case cas kd x y n =>
    simp only [LOp] at hl ⊢
    split at hl <;> first | exact hl.elim | skip
    obtain ⟨h1, h2, T, es, cs, m, h3, h4, h5, h6⟩ := hl
    refine ⟨h1, h2, T, es, cs, m, h3, h4, h5, fun t ht => ?_⟩
    have h7 := h6 t ht
    cases t <;> exact hn _ _ h7
  case xadd kd x y =>
    simp only [LOp] at hl ⊢
    split at hl <;> first | exact hl.elim | skip
    obtain ⟨h1, T, es, cs, m, h3, h4, h5, h6⟩ := hl
    exact ⟨h1, T, es, cs, m, h3, h4, h5, fun t ht => hn _ _ (h6 t ht)⟩
  case cpy T z d s =>
    simp only [LOp] at hl ⊢
    split at hl <;> first | exact hl.elim | skip
    obtain ⟨es, src, h1, h2, h3, h4, h5, h6, h7, h8⟩ := hl
    exact ⟨es, src, h1, h2, h3, h4, h5, h6, h7, hn _ _ h8⟩
  case mnz T x =>
    simp only [LOp] at hl ⊢
    split at hl <;> first | exact hl.elim | skip
    obtain ⟨m, h1, h2, h3⟩ := hl
    exact ⟨m, h1, h2, h3.mono fun i hi => hn _ _ hi⟩
  case ustr T x n =>
    simp only [LOp] at hl ⊢
    split at hl <;> first | exact hl.elim | skip
    · obtain ⟨j, h1, h2⟩ := hl
      refine ⟨j, h1, ?_⟩
      cases j with
      | zero => exact hn _ _ h2
      | succ j => obtain ⟨es, s, h3, h4, h5, h6, h7⟩ := h2; exact ⟨es, s, h3, h4, h5, h6, hn _ _ h7⟩
    · exact ⟨hl.1, hn _ _ hl.2⟩
  case b2b x =>
    simp only [LOp] at hl ⊢
    split at hl <;> first | exact hl.elim | skip
    obtain ⟨T, es, h1, h2, h3⟩ := hl
    exact ⟨T, es, h1, h2, hn _ _ h3⟩
  case s2b T x =>
    simp only [LOp] at hl ⊢
    split at hl <;> first | exact hl.elim | skip
    exact allocN.mono hl fun i hi => hn _ _ hi
  case acall f a => obtain ⟨K, V, B, h1, h2⟩ := hl; exact ⟨K, V, B, h1, h2.mono fun b hb => hn _ _ hb⟩
  case acallv x a =>
    simp only [LOp] at hl ⊢
    split at hl <;> first | exact hl.elim | skip
    obtain ⟨h0, K, V, B, h1, h2⟩ := hl; exact ⟨h0, K, V, B, h1, h2.mono fun b hb => hn _ _ hb⟩
  case pcallv x a =>
    simp only [LOp] at hl ⊢
    split at hl <;> first | exact hl.elim | skip
    obtain ⟨h0, v, h1, h2⟩ := hl; exact ⟨h0, v, h1, hn _ _ h2⟩
  case fslice T z n zs p => obtain ⟨cs, h1, h2⟩ := hl; exact ⟨cs, h1, hn _ _ h2⟩
  all_goals
    simp only [LOp] at hl ⊢
    exact LN_mono hl fun v hv => hn v h hv
end
end Go.L
