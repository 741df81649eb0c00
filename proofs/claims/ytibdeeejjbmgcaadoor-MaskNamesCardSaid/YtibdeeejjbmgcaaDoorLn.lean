/-
  The logic L, part n: regions, code, functions.
-/
import Derived.Test.YtibdeeejjbmgcaaDoorLr
namespace Go.L

structure AOper where
  dst : Option Nat
  op : AOp
  guard : Option (Nat × Bool)
  deriving Inhabited

/-- X if c is b, else Y. -/
def bcase (c b : Bool) (X Y : Prop) : Prop :=
  match c, b with
  | true, true => X
  | false, false => X
  | _, _ => Y

theorem bcase_intro {c b : Bool} {X Y : Prop} (h1 : c = true → bcase true b X Y) (h2 : c = false → bcase false b X Y) : bcase c b X Y := by
  cases c
  · exact h2 rfl
  · exact h1 rfl

/-- The value, with its head in sight. -/
def force (v : AV) (N : AV → Prop) : Prop :=
  match v with
  | .bool b => N (.bool b)
  | .int k n => N (.int k n)
  | .flt k n => N (.flt k n)
  | .str s => N (.str s)
  | .nilp => N .nilp
  | .ptr i k o => N (.ptr i k o)
  | .iptr cs o => N (.iptr cs o)
  | .nils => N .nils
  | .emp => N .emp
  | .slc i k n c => N (.slc i k n c)
  | .isl es => N (.isl es)
  | .nilm => N .nilm
  | .map i => N (.map i)
  | .func f a b => N (.func f a b)
  | .nilf => N .nilf
  | .ifc t v => N (.ifc t v)
  | .nili => N .nili
  | .agg cs => N (.agg cs)
  | .tup vs => N (.tup vs)
theorem force_eq (v : AV) (N : AV → Prop) : force v N = N v := by cases v <;> rfl

/-- Operations one behind the other. -/
def LOps (P : Program) : List AOper → (Env → Hp → Prop) → (AV → Env → Hp → Prop) → Env → Hp → Prop
  | [], K, _, e, h => K e h
  | ⟨d, o, none⟩ :: r, K, X, e, h => LOp P o e h (fun v h' => force v fun v => LOps P r K X (e.put d v) h') (fun v h' => X v e h')
  | ⟨d, o, some (t, b)⟩ :: r, K, X, e, h => match e.t t with
      | .bool c => bcase c b (LOp P o e h (fun v h' => force v fun v => LOps P r K X (e.put d v) h') (fun v h' => X v e h')) (LOps P r K X (e.put d (.tup [])) h)
      | .tup _ => LOps P r K X (e.put d (.tup [])) h
      | _ => False

/-- An operation that the logic does not have: nothing may come to it. -/
def compB (P : Program) (o : Oper) : AOp :=
  match comp P o with
  | some a => a
  | none => .bad

def compOper (P : Program) (n : Nat) (ops : Array Oper) (o : Oper) : Option AOper :=
  match compB P o with
  | a =>
    match (match o.dst with | none => true | some d => Nat.blt d n) with
    | false => none
    | true => match o.guard with
      | none => some ⟨o.dst, a, none⟩
      | some (j, b) => match ops[j]? with
        | none => none
        | some oj => match oj.dst with
          | none => none
          | some t => some ⟨o.dst, a, some (t, b)⟩

def compIdx (P : Program) (n : Nat) (ops : Array Oper) : List Nat → Option (List AOper)
  | [] => some []
  | i :: r => match ops[i]? with
    | none => none
    | some o => match compOper P n ops o, compIdx P n ops r with
      | some a, some l => some (a :: l)
      | _, _ => none

section
variable {P : Program}

theorem compOper_inv {n : Nat} {ops : Array Oper} {o : Oper} {a : AOper} (h : compOper P n ops o = some a) :
    compB P o = a.op ∧ a.dst = o.dst ∧ (∀ d, o.dst = some d → d < n) ∧
    ((o.guard = none ∧ a.guard = none) ∨ ∃ j b oj t, o.guard = some (j, b) ∧ ops[j]? = some oj ∧ oj.dst = some t ∧ a.guard = some (t, b)) := by
  unfold compOper at h
  generalize compB P o = ao at h ⊢
  simp only at h
  split at h <;> first | cases h | skip
  rename_i hd
  have hd' : ∀ d, o.dst = some d → d < n := fun d he => by
    rw [he] at hd
    have hd2 : Nat.ble (d + 1) n = true := hd
    exact Nat.le_of_ble_eq_true hd2
  split at h
  · rename_i hg; cases h; exact ⟨rfl, rfl, hd', .inl ⟨hg, rfl⟩⟩
  · rename_i j b hg
    split at h <;> first | cases h | skip
    rename_i oj hoj
    split at h <;> first | cases h | skip
    rename_i t ht
    exact ⟨rfl, rfl, hd', .inr ⟨j, b, oj, t, hg, hoj, ht, rfl⟩⟩

theorem yielded_bool {ops : Array Oper} {σ : Emb} {M : Mem} {e : Env} {a : Act} (hA : ActR σ M e a) {j : Nat} {oj : Oper} {t : Nat} (hj : ops[j]? = some oj) (ht : oj.dst = some t) :
    (∀ c, e.t t = .bool c → yielded ops a.tmps j = some c) ∧ (∀ l, e.t t = .tup l → yielded ops a.tmps j = none) := by
  have h1 := hA.t t
  constructor
  · intro c hc
    rw [hc] at h1
    have h2 := h1.bool_inv
    have h3 : a.tmps[t]? = some (.bool c) := by
      rw [Array.getD_eq_getD_getElem?] at h2
      cases hx : a.tmps[t]? with
      | none => rw [hx] at h2; simp [undef] at h2
      | some v => rw [hx] at h2; simpa using h2
    simp [yielded, hj, ht, h3]
  · intro l hl
    rw [hl] at h1
    obtain ⟨A, h2, _⟩ := h1.tup_inv
    rw [Array.getD_eq_getD_getElem?] at h2
    cases hx : a.tmps[t]? with
    | none => simp [yielded, hj, ht, hx]
    | some v => rw [hx] at h2; simp at h2; subst h2; simp [yielded, hj, ht, hx]

theorem LOps_sound {n : Nat} {ops : Array Oper} {K : Env → Hp → Prop} {X : AV → Env → Hp → Prop} {Q' : Exit → Act → World → Prop} :
    ∀ (l : List Nat) (la : List AOper), compIdx P n ops l = some la → ∀ (e : Env) (h : Hp) (σ : Emb) (M : Mem) (w : World) (a : Act), e.n = n → R P σ M h w → ActR σ M e a →
      (∀ σ' M' w' h' e' a', Ext σ M w σ' M' w' → R P σ' M' h' w' → ActR σ' M' e' a' → e'.n = n → K e' h' → Q' .normal a' w') →
      (∀ σ' M' w' h' e' a' v v', Ext σ M w σ' M' w' → R P σ' M' h' w' → ActR σ' M' e' a' → e'.n = n → VR σ' M' v v' → X v e' h' → Q' (.panic [{ v := v', recovered := false }]) a' w') →
      LOps P la K X e h → wpOpsIn (fw none) 0 P ops Q' l a w := by
  intro l
  induction l with
  | nil => intro la hla e h σ M w a hn hR hA hK hX hl; cases hla; exact hK σ M w h e a (.refl _ _ _) hR hA hn hl
  | cons i r ih =>
    intro la hla e h σ M w a hn hR hA hK hX hl
    unfold compIdx at hla
    split at hla <;> first | cases hla | skip
    rename_i o ho
    split at hla <;> first | cases hla | skip
    rename_i ao lr hao hlr
    obtain ⟨hc, hd, hdn, hg⟩ := compOper_inv hao
    simp only [wpOpsIn, ho]
    obtain ⟨ad, aop, ag⟩ := ao
    simp only at hc hd hg
    have run : LOp P aop e h (fun v h' => force v fun v => LOps P lr K X (e.put ad v) h') (fun v h' => X v e h') → o.wpIn (fw none) 0 P a w (wpOpsIn (fw none) 0 P ops Q' r) Q' := by
      intro hop
      have hc : comp P o = some aop := by
        unfold compB at hc
        split at hc
        · rename_i b hb; rw [hb, hc]
        · subst hc; exact (show False from hop).elim
      refine LOp_sound hc hR hA ?_ ?_ hop
      · intro σ' M' w' h' v v' hE hR' hv hnext
        rw [force_eq] at hnext
        have hA' : ActR σ' M' (e.put o.dst v) (a.put o.dst v') := (hA.mono hE.s hE.m).put (fun x hx => by rw [hn]; exact hdn x hx) hv
        rw [hd] at hnext
        exact ih lr hlr _ h' σ' M' w' _ (by cases o.dst <;> exact hn) hR' hA' (fun σ2 M2 w2 h2 e2 a2 hE2 => hK σ2 M2 w2 h2 e2 a2 (hE.trans hE2)) (fun σ2 M2 w2 h2 e2 a2 v2 v2' hE2 => hX σ2 M2 w2 h2 e2 a2 v2 v2' (hE.trans hE2)) hnext
      · intro σ' M' w' h' v v' hE hR' hv hx
        exact hX σ' M' w' h' e a v v' hE hR' (hA.mono hE.s hE.m) hn hv hx
    have skip_ : LOps P lr K X (e.put ad (.tup [])) h → (∀ f, o.about P w a.eval = some f → (fw none).fn f) ∧ wpOpsIn (fw none) 0 P ops Q' r (a.put o.dst undef) w := by
      intro hop
      refine ⟨fun _ _ => trivial, ?_⟩
      rw [hd] at hop
      exact ih lr hlr _ h σ M w _ (by cases o.dst <;> exact hn) hR (hA.put (fun x hx => by rw [hn]; exact hdn x hx) (VR.tup' .nil)) hK hX hop
    rcases hg with ⟨g1, g2⟩ | ⟨j, b, oj, t, g1, g2, g3, g4⟩
    · subst g2
      simp only [LOps] at hl
      have hw : Region.wanted o (yielded ops a.tmps) = true := by simp [Region.wanted, g1]
      rw [if_pos hw]; exact run hl
    · subst g4
      simp only [LOps] at hl
      obtain ⟨y1, y2⟩ := yielded_bool (ops := ops) hA g2 g3
      split at hl <;> first | exact hl.elim | skip
      · rename_i c hc'
        have hy := y1 c hc'
        have hw : Region.wanted o (yielded ops a.tmps) = (c == b) := by simp [Region.wanted, g1, hy]
        rw [hw]
        cases c <;> cases b <;> simp only [bcase] at hl <;> first | (rw [if_pos (by rfl)]; exact run hl) | (rw [if_neg (by simp)]; exact skip_ hl)
      · rename_i l' hl'
        have hy := y2 l' hl'
        have hw : Region.wanted o (yielded ops a.tmps) = false := by simp [Region.wanted, g1, hy]
        rw [hw, if_neg (by simp)]; exact skip_ hl
end
end Go.L
