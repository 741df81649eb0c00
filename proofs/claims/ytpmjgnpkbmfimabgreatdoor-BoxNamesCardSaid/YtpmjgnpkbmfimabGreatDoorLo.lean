/-
  The logic L, part o: functions; how a contract is used.
-/
import Derived.Test.YtpmjgnpkbmfimabGreatDoorLn3
namespace Go.L

inductive ARes where
  | tmp (t : Nat)
  | cell1 (t : Nat)
  | cella (t n : Nat)

def compR (P : Program) : ResultVar → Option ARes
  | .tmp t => some (.tmp t)
  | .cell t ty => match P.underlying ty, P.info? ty with
    | some d, some i => some (if isAggD d then .cella t i.size else .cell1 t)
    | _, _ => none

def compRs (P : Program) : List ResultVar → Option (List ARes)
  | [] => some []
  | r :: l => match compR P r, compRs P l with
    | some x, some y => some (x :: y)
    | _, _ => none

/-- The results, read. -/
def resL (e : Env) (h : Hp) : List ARes → (List AV → Prop) → Prop
  | [], N => N []
  | .tmp t :: r, N => resL e h r fun l => N (e.t t :: l)
  | .cell1 t :: r, N => LN (.ld1 (.t t)) e h fun v => resL e h r fun l => N (v :: l)
  | .cella t n :: r, N => LN (.lda n (.t t)) e h fun v => resL e h r fun l => N (v :: l)

def oneV : List AV → AV
  | [v] => v
  | l => .tup l

/-- The first activation: the arguments. -/
def env0 (n : Nat) (args : List AV) : Env := ⟨n, fun x => (args[x]?).getD (.tup []), []⟩

/-- What is asked at a function's end. -/
def EndQ (rs : List ARes) (Q : Res → Hp → Prop) : Xit → Env → Hp → Prop
  | .pan v, e, h => e.ds = [] ∧ Q (.pan v) h
  | .exit _, _, _ => False
  | _, e, h => e.ds = [] ∧ resL e h rs fun l => Q (.ret (oneV l)) h

section
variable {P : Program} {md : Bool}

/-- A result, read. -/
def rdRes (T : Array Value) : ResultVar → Sem Value
  | .tmp t => pure (T.getD t undef)
  | .cell a t => do loadVar t (← asAddr (T.getD a undef))

theorem results_eq (fn : Func) (T : Array Value) : results fn T = (do let vs ← fn.results.mapM (rdRes T); pure (if h : vs.size = 1 then vs[0] else .tuple vs)) := by
  rfl

theorem resL_ok {σ : Emb} {M : Mem} {w : World} {h : Hp} {e : Env} {a : Act} (hR : R P σ M h w) (hA : ActR σ M e a) : ∀ (l : List ResultVar) (rs : List ARes) (N : List AV → Prop), compRs P l = some rs → resL e h rs N →
    ∃ vs' vs, (l.mapM (rdRes a.tmps)).run P w = .ok vs' w ∧ VRs σ M vs vs'.toArray ∧ N vs := by
  intro l
  induction l with
  | nil => intro rs N hc hl; cases hc; exact ⟨[], [], by simp, .nil, hl⟩
  | cons r l ih =>
    intro rs N hc hl
    unfold compRs at hc
    split at hc <;> first | cases hc | skip
    rename_i x y hx hy
    -- one result
    have step : ∀ (v : AV) (v' : Value), VR σ M v v' → (rdRes a.tmps r).run P w = .ok v' w → resL e h y (fun l => N (v :: l)) →
        ∃ vs' vs, ((r :: l).mapM (rdRes a.tmps)).run P w = .ok vs' w ∧ VRs σ M vs vs'.toArray ∧ N vs := by
      intro v v' hv hrun hl
      obtain ⟨vs', vs, h1, h2, h3⟩ := ih y _ hy hl
      refine ⟨v' :: vs', v :: vs, ?_, VRs.cons hv h2, h3⟩
      simp only [List.mapM_cons, Sem.run_bind, hrun, Result.andThen, h1, Sem.run_pure]
    have ld : ∀ {b ty : Nat} {d : TypeDesc} {i : TypeInfo} {ao : AOp}, P.underlying ty = some d → P.info? ty = some i → r = .cell b ty →
        ((isAggD d = true ∧ ao = .lda i.size (.t b)) ∨ (isAggD d = false ∧ ao = .ld1 (.t b))) → LN ao e h (fun v => resL e h y fun l => N (v :: l)) →
        ∃ vs' vs, ((r :: l).mapM (rdRes a.tmps)).run P w = .ok vs' w ∧ VRs σ M vs vs'.toArray ∧ N vs := by
      intro b ty d i ao hd hi hr hao hl
      have hs : ∃ v, resL e h y (fun l => N (v :: l)) ∧ SemVal P ⟨none, .load ty (.tmp b), 0, "", #[], none⟩ e h v := by
        rcases hao with ⟨ha, rfl⟩ | ⟨ha, rfl⟩
        · exact LN_lda (o := ⟨none, .load ty (.tmp b), 0, "", #[], none⟩) rfl hd hi ha rfl hl
        · exact LN_ld1 (o := ⟨none, .load ty (.tmp b), 0, "", #[], none⟩) rfl hd ha rfl hl
      obtain ⟨v, hn, hs⟩ := hs
      obtain ⟨v', hrun, hv⟩ := hs σ M w a hR hA
      refine step v v' hv ?_ hn
      subst hr
      show (do loadVar ty (← asAddr (a.tmps.getD b undef)) : Sem Value).run P w = .ok v' w
      simp only [execOp, Instr.loadAt, Act.eval, Sem.run_bind] at hrun ⊢
      generalize a.tmps.getD b undef = u at hrun ⊢
      cases u with
      | pointer p =>
        cases p with
        | none => simp [Instr.sureAddr, stuck, Sem.run, Result.andThen] at hrun
        | some p =>
          simp only [Instr.sureAddr, asAddr, Sem.run_pure, Result.andThen] at hrun ⊢
          revert hrun
          generalize (loadVar ty p).run P w = q
          intro hrun
          cases q with
          | ok x w1 => simp at hrun; obtain ⟨rfl, rfl⟩ := hrun; rfl
          | halt x w1 => simp at hrun
      | _ => simp [Instr.sureAddr, stuck, Sem.run, Result.andThen] at hrun
    cases r with
    | tmp t =>
      cases hx
      exact step (e.t t) (a.tmps.getD t undef) (hA.t t) (by simp [rdRes]) hl
    | cell b ty =>
      unfold compR at hx
      simp only at hx
      split at hx
      · rename_i d i hd hi
        cases hd' : isAggD d with
        | true =>
          rw [hd', if_pos rfl] at hx; cases hx
          exact ld hd hi rfl (.inl ⟨hd', rfl⟩) hl
        | false =>
          rw [hd', if_neg (by simp)] at hx; cases hx
          exact ld hd hi rfl (.inr ⟨hd', rfl⟩) hl
      · cases hx

theorem results_ok {fn : Func} {σ : Emb} {M : Mem} {w : World} {h : Hp} {e : Env} {a : Act} (hR : R P σ M h w) (hA : ActR σ M e a) {rs : List ARes} {N : List AV → Prop} (hc : compRs P fn.results.toList = some rs) (hl : resL e h rs N) :
    ∃ v' vs, (results fn a.tmps).run P w = .ok v' w ∧ VR σ M (oneV vs) v' ∧ N vs := by
  obtain ⟨vs', vs, h1, h2, h3⟩ := resL_ok hR hA _ rs N hc hl
  refine ⟨if h : vs'.toArray.size = 1 then vs'.toArray[0] else .tuple vs'.toArray, vs, ?_, ?_, h3⟩
  · rw [results_eq, Array.mapM_eq_mapM_toList]
    simp only [map_eq_pure_bind, Sem.run_bind, Sem.run_pure, h1, Result.andThen]
  · have hlen : vs'.length = vs.length := by simpa using h2.1
    by_cases h1 : vs.length = 1
    · obtain ⟨v, rfl⟩ := List.length_eq_one_iff.1 h1
      obtain ⟨v', rfl⟩ := List.length_eq_one_iff.1 (hlen.trans h1)
      obtain ⟨x, e1, e2⟩ := h2.2 0 v rfl
      simp at e1; subst e1
      simpa [oneV] using e2
    · rw [dif_neg (by simp; omega)]
      have : oneV vs = .tup vs := by
        cases vs with
        | nil => rfl
        | cons a l => cases l with
          | nil => exact absurd rfl h1
          | cons b l => rfl
      rw [this]; exact VR.tup' h2

/-- A function's contract, out of its code. -/
theorem CallL.intro {f : FuncId} {fn : Func} {c : Code} {ac : ACode} {rs : List ARes} {args : List AV} {h : Hp} {Q : Res → Hp → Prop} (hf : P.funcs[f]? = some fn) (hb : fn.body = some c) (hn : args.length ≤ fn.ntmps)
    (hc : compC P fn.ntmps c = some ac) (hr : compRs P fn.results.toList = some rs) (hl : LCode P md ac (EndQ rs Q) (env0 fn.ntmps args) h) : CallL P f args h Q := by
  constructor
  intro σ M w args' hR hargs
  refine callsIn_of_wp hf hb trivial ?_
  have hsz : args'.size = args.length := hargs.1
  have hA : ActR σ M (env0 fn.ntmps args) { tmps := args' ++ Array.replicate (fn.ntmps - args'.size) undef, defers := [] } := by
    refine ⟨by simp [env0]; omega, fun x => ?_, rfl, fun j y hj => by simp [env0] at hj⟩
    simp only [env0, Array.getD_eq_getD_getElem?]
    by_cases hx : x < args.length
    · obtain ⟨v', h1, h2⟩ := hargs.2 x _ (List.getElem?_eq_getElem hx)
      rw [Array.getElem?_append_left (by omega), h1, List.getElem?_eq_getElem hx]
      exact h2
    · rw [List.getElem?_eq_none (by omega), Array.getElem?_append_right (by omega)]
      simp only [Option.getD_none]
      by_cases hx2 : x - args'.size < fn.ntmps - args'.size
      · rw [Array.getElem?_replicate, if_pos hx2]; exact VR.tup' .nil
      · rw [Array.getElem?_replicate, if_neg hx2]; exact VR.tup' .nil
  refine wpIn_mono (LCode_sound (ro := none) c ac hc (.inl rfl) _ _ h rfl hl σ M w _ hR hA) ?_
  rintro x a' w' ⟨σ', M', h', e', y, hE, hR', hA', hX, hQ, _⟩
  have fin : (e'.ds = [] ∧ resL e' h' rs fun l => Q (.ret (oneV l)) h') → a'.defers = [] ∧ ∃ v, (results fn a'.tmps).run P w' = .ok v w' ∧ ∃ σ' M' h', Ext σ M w σ' M' w' ∧ R P σ' M' h' w' ∧ EndR σ' M' (fun r => Q r h') (.returned v) := by
    rintro ⟨hd, hl⟩
    obtain ⟨v', vs, h1, h2, h3⟩ := results_ok hR' hA' hr hl
    exact ⟨List.eq_nil_of_length_eq_zero (by rw [hA'.dl, hd]; rfl), v', h1, σ', M', h', hE, hR', oneV vs, h2, h3⟩
  cases y with
  | normal => cases x <;> simp only [XitR] at hX; exact fin hQ
  | exit i => exact hQ.elim
  | ret => cases x <;> simp only [XitR] at hX; exact fin hQ
  | pan v =>
    cases x <;> simp only [XitR] at hX
    obtain ⟨v', rfl, hv⟩ := hX
    exact ⟨List.eq_nil_of_length_eq_zero (by rw [hA'.dl, hQ.1]; rfl), σ', M', h', hE, hR', v, v', rfl, hv, hQ.2⟩

/-- A function as the logic has it: its code, its results. -/
def compF (P : Program) (fn : Func) : Option (ACode × List ARes) :=
  match fn.body with
  | none => none
  | some c => match compC P fn.ntmps c, compRs P fn.results.toList with
    | some a, some r => some (a, r)
    | _, _ => none

theorem CallL.of {f : FuncId} {fn : Func} {ac : ACode} {rs : List ARes} {args : List AV} {h : Hp} {Q : Res → Hp → Prop} (hf : P.funcs[f]? = some fn) (hc : compF P fn = some (ac, rs)) (hn : args.length ≤ fn.ntmps)
    (hl : LCode P md ac (EndQ rs Q) (env0 fn.ntmps args) h) : CallL P f args h Q := by
  unfold compF at hc
  split at hc
  · cases hc
  · rename_i c hb
    split at hc
    · rename_i a r h1 h2
      cases hc
      exact .intro hf hb hn h1 h2 hl
    · cases hc

end
end Go.L
