/-
  The logic L computed, part h: a run in two parts: a call that has been computed before.
-/
import Derived.Test.YtmnhoegjccdkpadGreatDoorEc
namespace Go.L

/-- A call, what it gave. -/
structure Sm where
  f : FuncId
  args : List AV
  h : HT
  v : AV
  h' : HT
def smOf (s : Sm) (f : FuncId) (args : List AV) (h : HT) : Option (List CR) :=
  match Nat.beq f s.f with
  | true => match eqL args s.args && eqH h s.h with
    | true => some [.ret s.v s.h']
    | false => none
  | false => none
def isSm (s : Sm) (r : Option (List CR)) : Bool :=
  match r with
  | some [.ret v h] => eqA v s.v && eqH h s.h'
  | _ => false

/-- The calls, at most so deep; one that has been computed before is looked up. -/
def xMS (P : Program) (hb : FuncId → Bool) (codes : Tr FC) (loops : Nat) (s : Sm) : Nat → Run
  | 0 => ⟨fun _ _ _ => none, fun _ _ _ => none, fun _ _ _ _ => none⟩
  | d + 1 => ⟨fun f args h => match smOf s f args h with
      | some l => some l
      | none => xFun P hb codes loops (xMS P hb codes loops s d) f args h, fun c e h => xC P hb (xMS P hb codes loops s d) loops [] c e h, xDfr P hb codes loops (xMS P hb codes loops s d)⟩

section
variable {P : Program} {hb : FuncId → Bool}

theorem smOf_ok {run : Run} (hrun : RunOK P run) {s : Sm} (hs : isSm s (run.call s.f s.args s.h) = true) {f : FuncId} {args : List AV} {h : HT} {l : List CR} {Q : Res → Hp → Prop} (hx : smOf s f args h = some l) (hl : ∀ x ∈ l, CRQ P Q x) : CallL P f args (h.hp P) Q := by
  unfold smOf at hx
  split at hx <;> first | cases hx | skip
  rename_i hf
  split at hx <;> cases hx
  rename_i ha
  simp only [Bool.and_eq_true] at ha
  obtain rfl := Nat.eq_of_beq_eq_true hf
  obtain rfl := eqL_ok _ ha.1
  obtain rfl := eqH_ok ha.2
  unfold isSm at hs
  split at hs <;> first | cases hs | skip
  rename_i v h' hc
  simp only [Bool.and_eq_true] at hs
  have e1 := eqA_ok _ hs.1
  have e2 := eqH_ok hs.2
  rw [e1, e2] at hc
  exact hrun.call _ _ _ _ _ hc hl

theorem xMS_ok {run : Run} (hrun : RunOK P run) {s : Sm} (hs : isSm s (run.call s.f s.args s.h) = true) {codes : Tr FC} {loops : Nat} (hk : CodesOK P codes) (hh : BodyOK P hb) : ∀ d, RunOK P (xMS P hb codes loops s d) := by
  intro d
  induction d with
  | zero =>
    refine ⟨?_, ?_, ?_⟩
    · intro f args h l Q hx; cases hx
    · intro c e h l Q hx; cases hx
    · intro f args u h l Q hx; cases hx
  | succ d ih =>
    refine ⟨fun f args h l Q hx hl => ?_, fun c e h l Q hx hQ hl => xC_ok hh ih c e h l Q hx hQ hl, fun f args u h l Q hx hl => xDfr_ok hk hh ih hx hl⟩
    have hx : (match smOf s f args h with
      | some l => some l
      | none => xFun P hb codes loops (xMS P hb codes loops s d) f args h) = some l := hx
    split at hx
    · rename_i l' hl'; cases hx; exact smOf_ok hrun hs hl' hl
    · exact xFun_ok hk hh ih hx hl

/-- A closed run in two parts. -/
theorem CallL.ofRunS {codes : Tr FC} (hk : trOK (GoodFC P) codes id) (s : Sm) {loops d : Nat} (hs : isSm s ((xM P (hbOf codes) codes loops d).call s.f s.args s.h) = true) {f : FuncId} {args : List AV} {v : AV} (ha : args.all sc1 = true) (hv : scv v = true)
    (hx : (match (xMS P (hbOf codes) codes loops s d).call f args HT.nil with | some l => l.all (isRet v) | none => false) = true) : PureL P f args v := by
  intro h
  split at hx <;> first | cases hx | skip
  rename_i l hr
  have hc : CodesOK P codes := fun f c hc => by
    obtain ⟨fn, m, h1, h2, h3, _⟩ := trOK_get codes id f c hk hc
    exact ⟨fn, m, h1, h2, h3⟩
  have hb : BodyOK P (hbOf codes) := fun f hf => by
    cases hc : codes.get f with
    | none => simp [hbOf, hc] at hf
    | some c =>
      obtain ⟨fn, m, h1, _, h3, h4⟩ := trOK_get codes id f c hk hc
      refine ⟨fn, h1, ?_, h4⟩
      obtain ⟨full, h3, _⟩ := cutF_inv h3
      unfold compF at h3
      split at h3
      · cases h3
      · rename_i c' hb; rw [hb]; rfl
  have k := (xMS_ok (run_ok hk loops d) hs hc hb d).call f args HT.nil l (fun r _ => ∃ x, r = .ret x ∧ scv x = true ∧ x = v) hr fun x hxl => by
    have h1 := List.all_eq_true.1 hx x hxl
    cases x with
    | ret x h' => have := eqA_ok _ h1; subst this; exact ⟨_, rfl, hv, rfl⟩
    | pan x h' => cases h1
  exact (CallL.closed ha (Q := fun x => x = v) k).mono fun r h' ⟨x, h1, h2, h3⟩ => ⟨by rw [h1, h2], h3⟩
end
end Go.L
