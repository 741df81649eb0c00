/-
  The logic L, part f2: more operations that only read.
-/
import Derived.Test.YtpmjgnpkbmfimabGreatDoorLf
import Derived.Lib.Bytealg
namespace Go.L

section
variable {P : Program} {o : Oper} {e : Env} {h : Hp} {next : AV → Prop}

/-- A bound of a slice, as a value. -/
def isB (v : Option Value) (d x : Nat) : Prop :=
  match v with
  | none => x = d
  | some v => ∃ k, v = .int k x

theorem bndO_inv {d : Nat} {x : Option Operand} {x' : Option AOpd} (hx : copdO x = some x') {N : Nat → Prop} (hb : bndO e d x' N) :
    ∃ n, N n ∧ ∀ (σ : Emb) (M : Mem) (a : Act), ActR σ M e a → isB (x.map a.eval) d n := by
  cases x with
  | none => cases hx; exact ⟨d, hb, fun _ _ _ _ => rfl⟩
  | some x =>
    obtain ⟨y, hy, rfl⟩ := Option.map_some_inv hx
    simp only [bndO] at hb
    split at hb <;> first | exact hb.elim | skip
    rename_i k n hn
    obtain ⟨q, rfl, hN⟩ := hb
    refine ⟨q, hN, fun σ M a hA => ?_⟩
    have h1 := copd_ok hy hA
    rw [hn] at h1
    exact ⟨k, h1.int_inv⟩

theorem run_bound {v : Value} {x y : Nat} (hv : ∃ k, v = .int k x) (hy : x ≤ y) (code : BoundsCode) (w : World) : (Instr.sliceBound v y code).run P w = .ok x w := by
  obtain ⟨k, rfl⟩ := hv
  have : ((x : Int) ≤ (y : Int)) := by omega
  simp [Instr.sliceBound, asIntOf, this]

theorem run_bounds {len cap p q m : Nat} {lo hi mx : Option Value} (hlo : isB lo 0 p) (hhi : isB hi len q) (hmx : isB mx cap m) (hh : mx.isSome = true → hi.isSome = true) (h1 : p ≤ q) (h2 : q ≤ m) (h3 : m ≤ cap) (w : World) :
    (Instr.sliceBounds true len cap lo hi mx).run P w = .ok (p, q, m) w := by
  unfold Instr.sliceBounds
  cases mx with
  | none =>
    cases hmx
    cases hi with
    | none =>
      cases hhi
      cases lo with
      | none => cases hlo; simp
      | some l => simp [run_bound hlo h1]
    | some u =>
      cases lo with
      | none => cases hlo; simp [run_bound hhi h2]
      | some l => simp [run_bound hhi h2, run_bound hlo h1]
  | some m' =>
    cases hi with
    | none => cases hh rfl
    | some u =>
      cases lo with
      | none => cases hlo; simp [run_bound hmx h3, run_bound hhi h2]
      | some l => simp [run_bound hmx h3, run_bound hhi h2, run_bound hlo h1]

theorem exec_slcl {t el : TypeId} {i : TypeInfo} {x : Operand} {lo hi mx : Option Operand} (ho : o.op = .slice t x lo hi mx) (ht : P.underlying t = some (.slice el)) (hi' : P.info? el = some i)
    {a : Act} {w : World} {ad : Option Addr} {len cap p q m : Nat} (hx : a.eval x = .slice ad len cap) (hb : (Instr.sliceBounds true len cap (lo.map a.eval) (hi.map a.eval) (mx.map a.eval)).run P w = .ok (p, q, m) w) :
    (execOp a.eval o).run P w = .ok (.value (.slice (if m = p then ad else ad.map (·.add (p * i.size))) (q - p) (m - p))) w := by
  simp [execOp, ho, Instr.sliceAt, run_underlying ht, Instr.slice, hx, hb, run_sizeOf' hi']

theorem isl_sub {σ : Emb} {M : Mem} {g : Nat} {es : List (List AV)} {ad : Option Addr} {c p q m z : Nat} (hv : VR σ M (.isl g es) (.slice ad es.length c)) (hz : ∀ cs ∈ es, cs.length = z) (h1 : p ≤ q) (h2 : q ≤ m) (h3 : q ≤ es.length) (h4 : m ≤ c) :
    VR σ M (.isl g ((es.take q).drop p)) (.slice (if m = p then ad else ad.map (·.add (p * z))) (q - p) (m - p)) := by
  have hlen : ((es.take q).drop p).length = q - p := by simp; omega
  by_cases hqp : q - p = 0
  · have : (es.take q).drop p = [] := List.eq_nil_of_length_eq_zero (by omega)
    rw [this, hqp]; exact .isl0 _ _ _
  · rw [if_neg (by omega)]
    cases hv with
    | isl0 => simp at h3; omega
    | isl _ _ z0 B O C T F d _ hM hz0 hn hc hv' =>
      have hzz : z0 = z := by
        have : 0 < es.length := by omega
        have h0 : es[0]? = some es[0] := List.getElem?_eq_getElem this
        rw [← hz0 0 _ h0]; exact hz _ (List.mem_of_getElem? h0)
      subst hzz
      have get : ∀ (k : Nat) (cs : List AV), ((es.take q).drop p)[k]? = some cs → es[p + k]? = some cs := fun k cs hk => by
        rw [List.getElem?_drop] at hk
        have : p + k < q := by
          rcases Nat.lt_or_ge (p + k) q with hh | hh
          · exact hh
          · rw [List.getElem?_eq_none (by simp; omega)] at hk; cases hk
        rw [List.getElem?_take_of_lt this] at hk; exact hk
      have := VR.isl (σ := σ) (M := M) g ((es.take q).drop p) z0 B (O + p * z0) C T F (fun k j => d (p + k) j) (m - p) hM (fun k cs hk => hz0 _ cs (get k cs hk)) (by omega)
        (fun k cs j v hk hj => by rw [show O + p * z0 + k * z0 + j = O + (p + k) * z0 + j by rw [Nat.add_mul]; omega]; exact hc _ cs j v (get k cs hk) hj)
        (fun k cs j v hk hj => hv' _ cs j v (get k cs hk) hj)
      rw [hlen] at this
      simpa [add_none] using this

theorem LN_slcl {t el : TypeId} {i : TypeInfo} {x : Operand} {lo hi mx : Option Operand} (ho : o.op = .slice t x lo hi mx) (ht : P.underlying t = some (.slice el)) (hi' : P.info? el = some i) (hmh : mx.isSome = true → hi.isSome = true)
    {x' : AOpd} {lo' hx' mx' : Option AOpd} (hx : copd x = some x') (hlo : copdO lo = some lo') (hhi : copdO hi = some hx') (hmx : copdO mx = some mx') (hl : LN (.slcl el i.size x' lo' hx' mx') e h next) : ∃ v, next v ∧ SemVal P o e h v := by
  have hms : ∀ (a : Act), (mx.map a.eval).isSome = true → (hi.map a.eval).isSome = true := fun a h => by
    cases mx with
    | none => cases h
    | some y => have := hmh rfl; cases hi with | none => cases this | some z => rfl
  simp only [LN] at hl
  split at hl <;> first | exact hl.elim | skip
  · rename_i g es hs
    obtain ⟨hlz, hl⟩ := hl
    obtain ⟨q, hl, hq⟩ := bndO_inv hhi hl
    obtain ⟨p, hl, hp⟩ := bndO_inv hlo hl
    obtain ⟨m, hl, hm⟩ := bndO_inv hmx hl
    obtain ⟨h1, h2, h3, hl⟩ := hl
    -- the capacity that stands in the value
    have main : ∀ v, (v = .isl g ((es.take q).drop p) ∨ (v = .emp ∧ mx'.isSome = true ∧ m = p)) → SemVal P o e h v := by
      intro v hv σ M w a hR hA
      have hvr := copd_ok hx hA
      rw [hs] at hvr
      obtain ⟨ad, c, e1⟩ := hvr.isl_len
      have hc : es.length ≤ c := by
        generalize a.eval x = v0 at e1 hvr
        subst e1
        cases hvr with
        | isl0 => simp
        | isl _ _ z0 B O C T F d _ hM hz0 hn hc hv' => exact hn
      -- m as the model has it
      obtain ⟨m', hm1, hm2, hm3⟩ : ∃ m', isB (mx.map a.eval) c m' ∧ q ≤ m' ∧ m' ≤ c ∧ (mx'.isSome = true → m' = m) := by
        cases mx with
        | none => cases hmx; exact ⟨c, rfl, by omega, Nat.le_refl _, fun h => by cases h⟩
        | some y => exact ⟨m, hm σ M a hA, h2, by omega, fun _ => rfl⟩
      have hrun := run_bounds (P := P) (hp σ M a hA) (hq σ M a hA) hm1 (hms a) h1 hm2 hm3.1 w
      refine ⟨_, exec_slcl ho ht hi' e1 hrun, ?_⟩
      rcases hv with rfl | ⟨rfl, h5, h6⟩
      · rw [e1] at hvr
        exact isl_sub hvr hlz h1 hm2 (by omega) hm3.1
      · have : m' = p := by rw [hm3.2 h5, h6]
        have hqp : q = p := by omega
        subst this; subst hqp
        simp only [Nat.sub_self]
        exact .emp _
    rcases hl with ⟨h5, h6, h7⟩ | h7
    · exact ⟨_, h7, main _ (.inr ⟨rfl, h5, h6⟩)⟩
    · exact ⟨_, h7, main _ (.inl rfl)⟩
  · rename_i b k n c hs
    obtain ⟨⟨es, hrow⟩, hl⟩ := hl
    obtain ⟨q, hl, hq⟩ := bndO_inv hhi hl
    obtain ⟨p, hl, hp⟩ := bndO_inv hlo hl
    have main : ∀ (m : Nat) (c2 : Option Nat), p ≤ q → (∀ (σ : Emb) (M : Mem) (a : Act) (c' : Nat), ActR σ M e a → n ≤ c' → (∀ x, c = some x → c' = x) →
        ∃ m', isB (mx.map a.eval) c' m' ∧ q ≤ m' ∧ m' ≤ c' ∧ (∀ x, c2 = some x → m' - p = x) ∧ (c2 = none → c = none)) → SemVal P o e h (.slc b (k + p) (q - p) c2) := by
      intro m c2 hpq hm σ M w a hR hA
      have hvr := copd_ok hx hA
      rw [hs] at hvr
      obtain ⟨L, ad, c', e1, hL, had, hn, hk, hu⟩ := hvr.slc_inv
      obtain ⟨m', hm1, hm2, hm3, hm4, hm5⟩ := hm σ M a c' hA hn hk
      have hrun := run_bounds (P := P) (hp σ M a hA) (hq σ M a hA) hm1 (hms a) hpq hm2 hm3 w
      obtain ⟨C, F, hb, hsz, hz, _⟩ := hR.blk b _ L hrow hL
      have hz2 : i.size = L.z := by rw [hi'] at hz; simpa using hz
      refine ⟨_, exec_slcl ho ht hi' e1 hrun, ?_⟩
      rw [show (if m' = p then some ad else (some ad).map (·.add (p * i.size))) = some (if m' = p then ad else ad.add (p * i.size)) by split <;> rfl]
      refine .slc b (k + p) (q - p) c2 L _ (m' - p) hL (fun hne => ?_) (by omega) hm4 (fun h2 => ?_)
      · rw [if_neg (by omega), had (by omega), add_none, hz2, Nat.add_mul]; congr 1; omega
      · have h3 := hu (hm5 h2)
        have : (k + p + (m' - p)) * L.z ≤ (k + c') * L.z := Nat.mul_le_mul_right _ (by omega)
        omega
    cases mx with
    | none =>
      cases hmx
      obtain ⟨h1, h2, hl⟩ := hl
      refine ⟨_, hl, main 0 _ h1 fun σ M a c' _ hn hk => ⟨c', rfl, ?_, Nat.le_refl _, ?_, ?_⟩⟩
      · cases c with
        | none => simp at h2; omega
        | some x => simp at h2; have := hk x rfl; omega
      · intro x hx2
        cases c with
        | none => cases hx2
        | some x0 => cases hx2; rw [hk x0 rfl]
      · intro hx2; cases c with
        | none => rfl
        | some x0 => cases hx2
    | some y =>
      obtain ⟨y', hy', rfl⟩ := Option.map_some_inv hmx
      obtain ⟨m, hl, hm⟩ := bndO_inv (x := some y) (x' := some y') (by simp [copdO, hy']) hl
      obtain ⟨h1, h2, h3, hl⟩ := hl
      refine ⟨_, hl, main m _ h1 fun σ M a c' hA hn hk => ⟨m, hm σ M a hA, h2, ?_, ?_, ?_⟩⟩
      · cases c with
        | none => simp at h3; omega
        | some x => simp at h3; have := hk x rfl; omega
      · intro x hx2; cases hx2; rfl
      · intro hx2; cases hx2
  all_goals
    rename_i hs
    obtain ⟨q, hl, hq⟩ := bndO_inv hhi hl
    obtain ⟨p, hl, hp⟩ := bndO_inv hlo hl
    obtain ⟨m, hl, hm⟩ := bndO_inv hmx hl
    obtain ⟨rfl, rfl, rfl, hl⟩ := hl
    refine ok_of hl fun σ M w a hR hA => ?_
    have hvr := copd_ok hx hA
    rw [hs] at hvr
    have hrun := run_bounds (P := P) (hp σ M a hA) (hq σ M a hA) (hm σ M a hA) (hms a) (Nat.le_refl _) (Nat.le_refl _) (Nat.le_refl _) w
  · refine ⟨_, exec_slcl ho ht hi' hvr.nils_inv hrun, ?_⟩
    exact .nils
  · obtain ⟨ad, e1⟩ := hvr.emp_inv
    refine ⟨_, exec_slcl ho ht hi' e1 hrun, ?_⟩
    exact .emp _
end
end Go.L
