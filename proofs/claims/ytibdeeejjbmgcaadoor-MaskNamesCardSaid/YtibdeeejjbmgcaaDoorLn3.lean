/-
  The logic L, part n3: code.
-/
import Derived.Test.YtibdeeejjbmgcaaDoorLn2
namespace Go.L

/-! ## Code -/

inductive ACode where
  | skip
  | ops (l : List AOper)
  | seq (a b : ACode)
  | cond (c : AOpd) (a b : ACode)
  | block (id : Nat) (c : ACode)
  | loop (c : ACode)
  | exit (id : Nat)
  | ret
  | bad
  | alts (ls : List (List AOper))
  deriving Inhabited

def compC (P : Program) (n : Nat) : Code → Option ACode
  | .skip => some .skip
  | .region _ ops false => match compIdx P n ops (List.range ops.size) with
    | some l => some (.ops l)
    | none => some .bad
  | .region _ ops true => match compIdx P n ops (List.range ops.size), P.follows .mixedOrders && depsOk ops with
    | some la, true => some (.alts ((reps (fun i => la.getD i default) (depsOf ops) ops.size (List.range ops.size)).map fun l => l.map fun i => la.getD i default))
    | _, _ => some .bad
  | .seq a b => match compC P n a, compC P n b with
    | some x, some y => some (.seq x y)
    | _, _ => none
  | .cond c a b => match copd c, compC P n a, compC P n b with
    | some z, some x, some y => some (.cond z x y)
    | _, _, _ => none
  | .block id c => (compC P n c).map (.block id)
  | .loop c => (compC P n c).map .loop
  | .exit id => some (.exit id)
  | .ret => some .ret
  | _ => some .bad

/-- Each of these orders. -/
def LAlts (P : Program) : List (List AOper) → (Env → Hp → Prop) → (AV → Env → Hp → Prop) → Env → Hp → Prop
  | [], _, _, _, _ => True
  | [l], K, X, e, h => LOps P l K X e h
  | l :: r, K, X, e, h => LOps P l K X e h ∧ LAlts P r K X e h

theorem LAlts_get {P : Program} : ∀ {ls : List (List AOper)} {K : Env → Hp → Prop} {X : AV → Env → Hp → Prop} {e : Env} {h : Hp}, LAlts P ls K X e h → ∀ l ∈ ls, LOps P l K X e h
  | [], _, _, _, _, _, l, hl => by cases hl
  | [m], _, _, _, _, hh, l, hl => by rw [List.mem_singleton.1 hl]; exact hh
  | m :: m2 :: r, _, _, _, _, hh, l, hl => by
    rcases List.mem_cons.1 hl with rfl | hl
    · exact hh.1
    · exact LAlts_get hh.2 l hl

def LCode (P : Program) : ACode → (Xit → Env → Hp → Prop) → Env → Hp → Prop
  | .skip, Q, e, h => Q .normal e h
  | .ops l, Q, e, h => LOps P l (fun e h => Q .normal e h) (fun v e h => Q (.pan v) e h) e h
  | .seq a b, Q, e, h => LCode P a (andThen (fun e h => LCode P b Q e h) Q) e h
  | .cond c a b, Q, e, h => match ev e c with
    | .bool t => bcase t true (LCode P a Q e h) (LCode P b Q e h)
    | _ => False
  | .block id c, Q, e, h => LCode P c (inBlk id Q) e h
  | .loop c, Q, e, h => ∃ I : Nat → Env → Hp → Prop, (∃ n, I n e h) ∧ ∀ n e h, I n e h → LCode P c (andThen (fun e h => ∃ m, m < n ∧ I m e h) Q) e h
  | .exit id, Q, e, h => Q (.exit id) e h
  | .ret, Q, e, h => Q .ret e h
  | .bad, _, _, _ => False
  | .alts ls, Q, e, h => LAlts P ls (fun e h => Q .normal e h) (fun v e h => ∀ g, Q (.pan v) ⟨e.n, g, e.ds⟩ h) e h

section
variable {P : Program}

theorem LCode_sound {n : Nat} : ∀ (c : Code) (ac : ACode), compC P n c = some ac → ∀ (Q : Xit → Env → Hp → Prop) (e : Env) (h : Hp), e.n = n → LCode P ac Q e h → CodeL P c (fun y e' h' => Q y e' h' ∧ e'.n = n) e h := by
  intro c
  induction c with
  | skip => intro ac hc Q e h hn hl; cases hc; exact .skip ⟨hl, hn⟩
  | region id ops draw =>
    intro ac hc Q e h hn hl
    cases draw with
    | true =>
      simp only [compC] at hc
      split at hc
      · rename_i la hla hcond
        cases hc
        simp only [Bool.and_eq_true] at hcond
        intro σ M w a hR hA
        refine wpIn_region_draw fun t => ?_
        simp only [Region.schedule, hcond.1, Bool.true_or, if_true]
        have hrest : restOf ops (Array.replicate ops.size false) = List.range ops.size := by
          unfold restOf
          rw [List.filter_eq_self]
          intro i hi
          simp [Array.getD_eq_getD_getElem?, Array.getElem?_replicate, List.mem_range.1 hi]
        have ht := topo_linear hcond.2 ops.size t (Array.replicate ops.size false) (by simp) (by rw [hrest]; simp)
        rw [hrest] at ht
        obtain ⟨l', hl', hk⟩ := reps_ok (P := P) (A := fun i => la.getD i default) ops.size (List.range ops.size) _ (by simp) (closed_all ops) ht
        have hone := hk (fun e h => Q .normal e h) (fun v e h => ∀ g, Q (.pan v) ⟨e.n, g, e.ds⟩ h) (fun v e h g hX g' => hX g') e h (LAlts_get hl _ (List.mem_map.2 ⟨l', hl', rfl⟩))
        have hidx := compIdx_all hla _ (fun i hi => List.mem_range.1 (ht.sub i hi))
        refine LOps_sound _ _ hidx e h σ M w.drew a hn hR.drew hA ?_ ?_ hone
        · intro σ' M' w' h' e' a' hE hR' hA' hn' hK; exact ⟨σ', M', h', e', .normal, Ext.drew.trans hE, hR', hA', trivial, hK, hn'⟩
        · intro σ' M' w' h' e' a' v v' hE hR' hA' hn' hv hX; exact ⟨σ', M', h', e', .pan v, Ext.drew.trans hE, hR', hA', ⟨v', rfl, hv⟩, hX e'.t, hn'⟩
      · cases hc; exact hl.elim
    | false =>
      simp only [compC] at hc
      split at hc <;> cases hc
      rotate_left
      · exact hl.elim
      rename_i la hla
      intro σ M w a hR hA
      refine wpIn_region (LOps_sound _ _ hla e h σ M w a hn hR hA ?_ ?_ hl)
      · intro σ' M' w' h' e' a' hE hR' hA' hn' hK; exact ⟨σ', M', h', e', .normal, hE, hR', hA', trivial, hK, hn'⟩
      · intro σ' M' w' h' e' a' v v' hE hR' hA' hn' hv hX; exact ⟨σ', M', h', e', .pan v, hE, hR', hA', ⟨v', rfl, hv⟩, hX, hn'⟩
  | seq a b iha ihb =>
    intro ac hc Q e h hn hl
    simp only [compC] at hc
    split at hc <;> first | cases hc | skip
    rename_i x y hx hy
    refine .seq ((iha x hx _ e h hn hl).mono ?_)
    rintro z e' h' ⟨hz, hn'⟩
    cases z with
    | normal => exact ihb y hy Q e' h' hn' hz
    | exit i => exact ⟨hz, hn'⟩
    | ret => exact ⟨hz, hn'⟩
    | pan v => exact ⟨hz, hn'⟩
  | cond c a b iha ihb =>
    intro ac hc Q e h hn hl
    simp only [compC] at hc
    split at hc <;> first | cases hc | skip
    rename_i z x y hz hx hy
    simp only [LCode] at hl
    split at hl <;> first | exact hl.elim | skip
    rename_i t ht
    intro σ M w ac hR hA
    have h1 := copd_ok hz hA
    rw [ht] at h1
    refine wpIn_cond (t := t) h1.bool_inv ?_
    cases t with
    | true => exact iha x hx Q e h hn hl σ M w ac hR hA
    | false => exact ihb y hy Q e h hn hl σ M w ac hR hA
  | block id c ih =>
    intro ac hc Q e h hn hl
    obtain ⟨x, hx, rfl⟩ := Option.map_some_inv hc
    refine .block ((ih x hx _ e h hn hl).mono ?_)
    rintro z e' h' ⟨hz, hn'⟩
    cases z with
    | exit i =>
      simp only [inBlk] at hz ⊢
      split at hz
      · rename_i hi; rw [if_pos hi]; exact ⟨hz, hn'⟩
      · rename_i hi; rw [if_neg hi]; exact ⟨hz, hn'⟩
    | normal => exact ⟨hz, hn'⟩
    | ret => exact ⟨hz, hn'⟩
    | pan v => exact ⟨hz, hn'⟩
  | loop c ih =>
    intro ac hc Q e h hn hl
    obtain ⟨x, hx, rfl⟩ := Option.map_some_inv hc
    obtain ⟨I, ⟨m, hm⟩, hround⟩ := hl
    refine .loop (fun m e h => I m e h ∧ e.n = n) ⟨m, hm, hn⟩ fun m e h ⟨hI, hn⟩ => (ih x hx _ e h hn (hround m e h hI)).mono ?_
    rintro z e' h' ⟨hz, hn'⟩
    cases z with
    | normal => obtain ⟨q, hq, hI'⟩ := hz; exact ⟨q, hq, hI', hn'⟩
    | exit i => exact ⟨hz, hn'⟩
    | ret => exact ⟨hz, hn'⟩
    | pan v => exact ⟨hz, hn'⟩
  | exit id => intro ac hc Q e h hn hl; cases hc; exact .exit ⟨hl, hn⟩
  | ret => intro ac hc Q e h hn hl; cases hc; exact .ret ⟨hl, hn⟩
  | rangeFunc f ps a b iha ihb => intro ac hc Q e h hn hl; cases hc; exact hl.elim
  | scope c ih => intro ac hc Q e h hn hl; cases hc; exact hl.elim
  | label l => intro ac hc Q e h hn hl; cases hc; exact hl.elim
  | goto l => intro ac hc Q e h hn hl; cases hc; exact hl.elim
  | refuse w => intro ac hc Q e h hn hl; cases hc; exact hl.elim
end
end Go.L
