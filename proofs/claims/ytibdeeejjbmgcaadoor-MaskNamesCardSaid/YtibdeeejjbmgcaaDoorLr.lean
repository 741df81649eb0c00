/-
  The logic L, part r: operations hang on what they read, and are monotone.
-/
import Derived.Test.YtibdeeejjbmgcaaDoorLq
namespace Go.L

section
variable {P : Program} {e e2 : Env}

theorem LOp_congr {o : AOp} {h : Hp} {N X : AV → Hp → Prop} (ha : Agree o.tmps e e2) : LOp P o e h N X = LOp P o e2 h N X := by
  cases o
  case call f a => simp only [AOp.tmps] at ha; simp only [LOp]; rw [ha.evs]
  case st n x v => simp only [AOp.tmps] at ha; simp only [LOp]; rw [ha.l.ev, ha.r.ev]
  case box T z x => simp only [AOp.tmps] at ha; simp only [LOp]; rw [ha.ev]
  case bslice T z n zs p => simp only [AOp.tmps] at ha; simp only [LOp]; rw [ha.lay]
  case app T z b s x => simp only [AOp.tmps] at ha; simp only [LOp]; rw [ha.l.ev, ha.r.ev]
  case bslice0 T => rfl
  case callv x a => simp only [AOp.tmps] at ha; simp only [LOp]; rw [ha.l.ev, ha.r.evs]
  case clr T z x => simp only [AOp.tmps] at ha; simp only [LOp]; rw [ha.ev]
  case mkslice T z b zs l c => simp only [AOp.tmps] at ha; simp only [LOp]; rw [ha.l.ev, ha.r.ev]
  case appz T z b zs s n => simp only [AOp.tmps] at ha; simp only [LOp]; rw [ha.l.ev, ha.r.ev]
  case pan x => simp only [AOp.tmps] at ha; simp only [LOp]; rw [ha.ev]
  case mkmap => rfl
  case mupd m x k v => simp only [AOp.tmps] at ha; simp only [LOp]; rw [ha.l.ev, ha.r.l.ev, ha.r.r.ev]
  all_goals exact LN_congr (h := h) (N := fun v => N v h) ha

theorem LAppE_mono {T : TypeId} {z b : Nat} {s : AV} {es : List (List AV)} {h : Hp} {N N' : AV → Hp → Prop} (hl : LAppE T z b s es h N) (hn : ∀ v h', N v h' → N' v h') : LAppE T z b s es h N' := by
  obtain ⟨h0, hl⟩ := hl
  refine ⟨h0, ?_⟩
  split at hl <;> first | exact hl.elim | skip
  · exact hl.imp (fun h => ⟨h.1, hn _ _ h.2⟩) fun h => ⟨h.1, h.2.1, h.2.2.1, fun j hj => hn _ _ (h.2.2.2 j hj)⟩
  · exact hl.imp (fun h => ⟨h.1, hn _ _ h.2⟩) fun h => ⟨h.1, h.2.1, h.2.2.1, fun j hj => hn _ _ (h.2.2.2 j hj)⟩
  · obtain ⟨es, h1, h2, h3, hl⟩ := hl
    exact ⟨es, h1, h2, h3, hl.imp (fun h => ⟨h.1, hn _ _ h.2⟩) fun h => ⟨h.1, h.2.1, h.2.2.1, fun j hj => hn _ _ (h.2.2.2 j hj)⟩⟩
  · obtain ⟨es, h1, h2, h3, hl⟩ := hl
    exact ⟨es, h1, h2, h3, hl.imp (fun h => ⟨h.1, h.2.1, hn _ _ h.2.2⟩) fun h => ⟨h.1, h.2.1, h.2.2.1, fun j hj => hn _ _ (h.2.2.2 j hj)⟩⟩

theorem LOp_mono {o : AOp} {h : Hp} {N N' X X' : AV → Hp → Prop} (hl : LOp P o e h N X) (hn : ∀ v h', N v h' → N' v h') (hx : ∀ v h', X v h' → X' v h') : LOp P o e h N' X' := by
  cases o
  case call f a => exact CallL.mono hl fun r h' hr => by cases r with | ret v => exact hn _ _ hr | pan v => exact hx _ _ hr
  case st n x v =>
    simp only [LOp] at hl ⊢
    split at hl <;> first | exact hl.elim | skip
    obtain ⟨T, es, cs, h1, h2, h3, h4, h5, h6, h7⟩ := hl
    exact ⟨T, es, cs, h1, h2, h3, h4, h5, h6, hn _ _ h7⟩
  case box T z x => exact ⟨hl.1, hl.2.1, fun i hi => hn _ _ (hl.2.2 i hi)⟩
  case bslice T z n zs p => obtain ⟨cs, h1, h2⟩ := hl; exact ⟨cs, h1, fun i hi => hn _ _ (h2 i hi)⟩
  case app T z b s x => obtain ⟨es, h1, h2⟩ := hl; exact ⟨es, h1, LAppE_mono h2 hn⟩
  case bslice0 T => exact Or.imp (hn _ _) (fun h i hi => hn _ _ (h i hi)) hl
  case callv x a =>
    simp only [LOp] at hl ⊢
    split at hl <;> first | exact hl.elim | skip
    exact ⟨hl.1, CallL.mono hl.2 fun r h' hr => by cases r with | ret v => exact hn _ _ hr | pan v => exact hx _ _ hr⟩
  case clr T z x =>
    simp only [LOp] at hl ⊢
    split at hl <;> first | exact hl.elim | exact hn _ _ hl | skip
    · obtain ⟨es, h1, h2, h3, h4⟩ := hl; exact ⟨es, h1, h2, h3, hn _ _ h4⟩
    · exact ⟨hl.1, hn _ _ hl.2⟩
  case mkslice T z b zs l c =>
    simp only [LOp] at hl ⊢
    split at hl <;> first | exact hl.elim | skip
    obtain ⟨l', c', h1, h2, h3, h4, h5, h6⟩ := hl
    exact ⟨l', c', h1, h2, h3, h4, h5, fun i hi => hn _ _ (h6 i hi)⟩
  case appz T z b zs s n =>
    simp only [LOp] at hl ⊢
    split at hl <;> first | exact hl.elim | skip
    obtain ⟨k, h1, h2, h3, h4⟩ := hl
    exact ⟨k, h1, h2, h3, LAppE_mono h4 hn⟩
  case mkmap => exact fun i hi => hn _ _ (hl i hi)
  case mupd m x k v =>
    simp only [LOp] at hl ⊢
    split at hl <;> first | exact hl.elim | skip
    obtain ⟨es, c, h1, h2, h3, h4⟩ := hl
    refine ⟨es, c, h1, h2, h3, fun r hr => ?_⟩
    have h5 := h4 r hr
    cases r <;> exact hn _ _ h5
  case pan x =>
    simp only [LOp] at hl ⊢
    split at hl <;> first | exact hl.elim | skip
    exact hx _ _ hl
  all_goals
    simp only [LOp] at hl ⊢
    exact LN_mono hl fun v hv => hn v h hv
end
end Go.L
