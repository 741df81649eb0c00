/- The logic L (of no program), and plain laws: texts put together; no conditions. -/
import Derived.Test.YtpldnmjdoogghaaGreatDoorY5
import Derived.KernelRfl
import Derived.Test.YtpldnmjdoogghaaGreatDoorY4
import Derived.Test.YtpldnmjdoogghaaGreatDoorY3
/- The table of the codes; the run of the law, computed by the kernel (of whatever program has these codes). Printed by program (gen_all.py). -/
namespace Go.Proofs.YtpldnmjdoogghaaGreatDoor
open Go.L
set_option maxRecDepth 100000
def Codes : Tr FC := (.node (.node (.node (.node (.node (.node (.node (.node .nil (some T_q127) .nil) (some T_q63) (.node .nil (some T_q191) .nil)) (some T_q31) (.node (.node .nil none (.node .nil (some T_q415) .nil)) (some T_q95) .nil)) (some T_q15) (.node (.node (.node .nil (some T_q143) .nil) none (.node .nil (some T_q207) .nil)) (some T_q47) (.node (.node .nil (some T_q175) .nil) none .nil))) (some T_q7) (.node (.node (.node (.node .nil (some T_q135) .nil) none (.node (.node .nil (some T_q327) .nil) (some T_q199) .nil)) (some T_q39) (.node .nil (some T_q103) (.node (.node .nil (some T_q359) .nil) (some T_q231) .nil))) (some T_q23) (.node (.node (.node (.node .nil (some T_q279) .nil) none (.node .nil (some T_q407) .nil)) (some T_q87) .nil) (some T_q55) (.node (.node (.node .nil (some T_q311) .nil) (some T_q183) .nil) (some T_q119) .nil)))) none (.node (.node (.node (.node (.node .nil (some T_q131) .nil) (some T_q67) (.node .nil (some T_q195) .nil)) (some T_q35) (.node .nil (some T_q99) .nil)) none (.node (.node (.node (.node .nil (some T_q275) .nil) none .nil) (some T_q83) (.node .nil (some T_q211) .nil)) (some T_q51) (.node (.node .nil (some T_q179) .nil) none (.node .nil (some T_q243) .nil)))) (some T_q11) (.node (.node (.node (.node (.node .nil (some T_q267) .nil) (some T_q139) .nil) (some T_q75) (.node .nil (some T_q203) .nil)) (some T_q43) .nil) (some T_q27) (.node (.node (.node (.node .nil (some T_q283) .nil) none (.node .nil (some T_q411) .nil)) (some T_q91) (.node (.node .nil (some T_q347) .nil) none .nil)) (some T_q59) (.node .nil (some T_q123) (.node .nil (some T_q251) .nil)))))) none (.node (.node (.node (.node (.node (.node .nil none (.node .nil (some T_q385) .nil)) (some T_q65) (.node (.node .nil (some T_q321) .nil) (some T_q193) .nil)) (some T_q33) (.node .nil (some T_q97) .nil)) (some T_q17) (.node (.node (.node (.node .nil (some T_q273) .nil) (some T_q145) .nil) (some T_q81) (.node .nil (some T_q209) .nil)) (some T_q49) (.node (.node .nil (some T_q177) .nil) (some T_q113) .nil))) (some T_q9) (.node (.node (.node (.node (.node .nil (some T_q265) .nil) (some T_q137) .nil) (some T_q73) .nil) none (.node .nil none (.node .nil (some T_q233) .nil))) (some T_q25) (.node (.node (.node (.node .nil (some T_q281) .nil) none (.node .nil (some T_q409) .nil)) (some T_q89) .nil) (some T_q57) (.node .nil (some T_q121) .nil)))) (some T_q5) (.node (.node (.node (.node (.node (.node .nil (some T_q261) .nil) (some T_q133) .nil) (some T_q69) (.node (.node .nil (some T_q325) .nil) (some T_q197) .nil)) none (.node .nil (some T_q101) .nil)) (some T_q21) (.node (.node (.node (.node .nil (some T_q277) .nil) none (.node .nil (some T_q405) .nil)) (some T_q85) .nil) (some T_q53) (.node (.node .nil (some T_q181) .nil) none .nil))) (some T_q13) (.node (.node (.node (.node (.node .nil (some T_q269) .nil) (some T_q141) .nil) none (.node .nil (some T_q205) .nil)) (some T_q45) (.node (.node .nil (some T_q173) .nil) none .nil)) (some T_q29) (.node (.node (.node .nil none (.node .nil (some T_q413) .nil)) (some T_q93) .nil) (some T_q61) (.node (.node .nil (some T_q189) .nil) none .nil)))))) none (.node (.node (.node (.node (.node (.node .nil (some T_q64) (.node (.node .nil (some T_q320) .nil) (some T_q192) .nil)) (some T_q32) (.node .nil (some T_q96) .nil)) (some T_q16) (.node (.node (.node (.node .nil (some T_q272) .nil) (some T_q144) .nil) (some T_q80) (.node .nil (some T_q208) .nil)) (some T_q48) (.node (.node .nil (some T_q176) .nil) (some T_q112) (.node (.node .nil (some T_q368) .nil) none .nil)))) none (.node (.node (.node (.node .nil (some T_q136) .nil) (some T_q72) (.node .nil (some T_q200) .nil)) none (.node (.node .nil none (.node .nil (some T_q424) .nil)) (some T_q104) .nil)) (some T_q24) (.node (.node (.node (.node .nil (some T_q280) .nil) (some T_q152) (.node .nil (some T_q408) .nil)) (some T_q88) .nil) (some T_q56) (.node (.node (.node .nil (some T_q312) .nil) (some T_q184) .nil) (some T_q120) .nil)))) (some T_lexiconlaw13_known) (.node (.node (.node (.node (.node .nil (some T_q132) .nil) (some T_q68) (.node (.node .nil (some T_q324) .nil) (some T_q196) .nil)) (some T_q36) (.node .nil (some T_q100) (.node .nil (some T_q228) .nil))) none (.node (.node .nil (some T_q84) .nil) none (.node (.node .nil (some T_q180) .nil) (some T_q116) .nil))) (some T_q12) (.node (.node (.node (.node (.node .nil (some T_q268) .nil) (some T_q140) .nil) none (.node .nil (some T_q204) .nil)) none .nil) (some T_q28) (.node (.node (.node .nil (some T_q156) (.node .nil (some T_q412) .nil)) (some T_q92) (.node (.node .nil (some T_q348) .nil) none .nil)) (some T_q60) (.node (.node .nil (some T_q188) .nil) none (.node .nil (some T_q252) .nil)))))) none (.node (.node (.node (.node (.node (.node .nil (some T_q130) .nil) (some T_q66) (.node .nil (some T_q194) .nil)) (some T_q34) (.node .nil (some T_q98) .nil)) (some T_q18) (.node (.node (.node (.node .nil (some T_q274) .nil) (some T_q146) .nil) (some T_q82) (.node .nil (some T_q210) .nil)) (some T_q50) (.node (.node .nil none (.node .nil (some T_q434) .nil)) none .nil))) (some T_q10) (.node (.node (.node (.node (.node .nil (some T_q266) .nil) (some T_q138) .nil) (some T_q74) (.node .nil (some T_q202) .nil)) none (.node (.node .nil none (.node .nil (some T_q426) .nil)) none .nil)) (some T_q26) (.node (.node (.node (.node .nil (some T_q282) .nil) none (.node .nil (some T_q410) .nil)) (some T_q90) .nil) (some T_q58) (.node .nil none (.node .nil (some T_q250) .nil))))) none (.node (.node (.node (.node (.node .nil (some T_q134) .nil) none (.node (.node .nil (some T_q326) .nil) (some T_q198) .nil)) (some T_q38) (.node .nil (some T_q102) .nil)) none (.node (.node (.node (.node .nil (some T_q278) .nil) none (.node .nil (some T_q406) .nil)) (some T_q86) .nil) (some T_q54) (.node (.node (.node .nil (some T_q310) .nil) (some T_q182) .nil) (some T_q118) .nil))) (some T_q14) (.node (.node (.node (.node (.node .nil (some T_q270) .nil) (some T_q142) .nil) none (.node .nil (some T_q206) .nil)) (some T_q46) .nil) (some T_q30) (.node (.node (.node .nil none (.node .nil (some T_q414) .nil)) (some T_q94) .nil) (some T_q62) (.node (.node .nil (some T_q190) .nil) (some T_q126) .nil)))))))
end Go.Proofs.YtpldnmjdoogghaaGreatDoor

/-
  The logic L computed, part h: a run in parts: calls that have been computed before; what is garbage behind them is forgotten.
-/
namespace Go.L

/-- A call, what it gave. -/
structure Sm where
  f : FuncId
  args : List AV
  h : HT
  v : AV
  h' : HT

/-- A heap out of another one: some places set anew. -/
def updT (t : Tr (Option EB)) : List (Nat × Option EB) → Tr (Option EB)
  | [] => t
  | (i, b) :: r => updT (t.set i (some b)) r
def HT.upd (h : HT) (l : List (Nat × Option EB)) (n : Nat) : HT := ⟨updT h.t l, n⟩

/-- Of all places of a tree. -/
def allT {α : Type} (q : Nat → α → Bool) : Tr α → Nat → Nat → Bool
  | .nil, _, _ => true
  | .node l v r, a, m => (match v with
    | none => true
    | some x => q a x) && (allT q l (Nat.add a m) (Nat.mul 2 m) && allT q r (Nat.add a (Nat.mul 2 m)) (Nat.mul 2 m))
theorem allT_ok {α : Type} {q : Nat → α → Bool} : ∀ (t : Tr α) (a m i : Nat) (x : α), allT q t a m = true → t.get i = some x → q (a + m * i) x = true := by
  intro t
  induction t with
  | nil => intro a m i x _ h; rw [Tr.get_nil] at h; cases h
  | node l v r ihl ihr =>
    intro a m i x ht hi
    simp only [allT, Bool.and_eq_true] at ht
    rw [Tr.get_node] at hi
    split at hi
    · rename_i h0
      obtain rfl := Nat.eq_of_beq_eq_true h0
      subst hi
      rw [Nat.mul_zero, Nat.add_zero]; exact ht.1
    · rename_i h0
      have hi0 : i ≠ 0 := fun e => by subst e; cases h0
      split at hi
      · rename_i h4
        have h4' := Nat.eq_of_beq_eq_true h4
        have := ihl _ _ _ _ ht.2.1 hi
        have e : i = 2 * (i / 2) + 1 := by omega
        have e2 : a + m * i = Nat.add a m + Nat.mul 2 m * (i / 2) := by
          show a + m * i = a + m + 2 * m * (i / 2)
          conv => lhs; rw [e]
          rw [Nat.mul_add, Nat.mul_one, ← Nat.mul_assoc, Nat.mul_comm m 2]; omega
        rw [e2]; exact this
      · rename_i h4
        have h4' : i % 2 ≠ 1 := fun e => by rw [e] at h4; cases h4
        have := ihr _ _ _ _ ht.2.2 hi
        have e : i = 2 * (i / 2 - 1) + 2 := by omega
        have e2 : a + m * i = Nat.add a (Nat.mul 2 m) + Nat.mul 2 m * (i / 2 - 1) := by
          show a + m * i = a + 2 * m + 2 * m * (i / 2 - 1)
          conv => lhs; rw [e]
          rw [Nat.mul_add, ← Nat.mul_assoc, Nat.mul_comm m 2]; omega
        rw [e2]; exact this
theorem allT_get {α : Type} {q : Nat → α → Bool} {t : Tr α} {i : Nat} {x : α} (h : allT q t 0 1 = true) (hi : t.get i = some x) : q i x = true := by
  have := allT_ok t 0 1 i x h hi
  rwa [Nat.zero_add, Nat.one_mul] at this

/-- The numbers that are taken. -/
def uT (h : HT) (i : Nat) : Bool := (h.t.get i).isSome
/-- A heap that is a part of another one, whole in itself. -/
def partB (h1 h2 : HT) (i : Nat) : Option EB → Bool
  | none => true
  | some (.b x) => blkU (uT h2) x && (match h1.t.get i with
    | some (some b) => eqB (.b x) b
    | _ => false)
  | some (.l ..) => false
def partH (h2 h1 : HT) : Bool := allT (partB h1 h2) h2.t 0 1
def covU (h0 h2 : HT) : Bool := allT (fun i _ => uT h2 i) h0.t 0 1

def isSm (s : Sm) (r : Option (List CR)) : Bool :=
  match r with
  | some [.ret v h] => eqA v s.v && (idU (uT s.h') s.v && (partH s.h' h && covU s.h s.h'))
  | _ => false
def smOf (s : Sm) (f : FuncId) (args : List AV) (h : HT) : Option (List CR) :=
  match Nat.beq f s.f with
  | true => match eqL args s.args && eqH h s.h with
    | true => some [.ret s.v s.h']
    | false => none
  | false => none
def smsOf : List Sm → FuncId → List AV → HT → Option (List CR)
  | [], _, _, _ => none
  | s :: r, f, args, h => match smOf s f args h with
    | some l => some l
    | none => smsOf r f args h

/-- The calls, at most so deep; those that have been computed before are looked up. -/
def xMS (P : Program) (hb : FuncId → Bool) (codes : Tr FC) (loops : Nat) (ss : List Sm) : Nat → Run
  | 0 => ⟨fun _ _ _ => none, fun _ _ _ => none, fun _ _ _ _ => none⟩
  | d + 1 => ⟨fun f args h => match smsOf ss f args h with
      | some l => some l
      | none => xFun P hb codes loops (xMS P hb codes loops ss d) f args h, fun c e h => xC P hb (xMS P hb codes loops ss d) loops [] c e h, xDfr P hb codes loops (xMS P hb codes loops ss d)⟩

section
variable {P : Program} {hb : FuncId → Bool}

/-- Such a call is so. -/
def SmOK (P : Program) (s : Sm) : Prop := ∀ Q : Res → Hp → Prop, Q (.ret s.v) (s.h'.hp P) → CallL P s.f s.args (s.h.hp P) Q

theorem sm_ok {run : Run} (hrun : RunOK P run) {s : Sm} (hs : isSm s (run.call s.f s.args s.h) = true) : SmOK P s := by
  intro Q hQ
  unfold isSm at hs
  split at hs <;> first | cases hs | skip
  rename_i v h1 hc
  simp only [Bool.and_eq_true] at hs
  obtain ⟨hv, hid, hp, hcov⟩ := hs
  have e1 := eqA_ok _ hv
  subst e1
  refine CallL.shrink (hrun.call _ _ _ _ _ hc fun x hx => ?_)
  rw [List.mem_singleton] at hx
  subst hx
  refine ⟨_, s.h'.hp P, rfl, hQ, hid, fun i b hb => ?_, fun i hi => ?_⟩
  · have hb' : jn P (s.h'.t.get i) = some b := hb
    cases hg : s.h'.t.get i with
    | none => rw [hg] at hb'; cases hb'
    | some o =>
      have hq := allT_get hp hg
      cases o with
      | none => rw [hg] at hb'; cases hb'
      | some eb =>
        rw [hg] at hb'
        cases eb with
        | l n t ps c d st pend => cases hq
        | b x =>
          cases hb'
          simp only [partB, Bool.and_eq_true] at hq
          obtain ⟨h2, h3⟩ := hq
          split at h3
          · rename_i b' hg'
            have := eqB_ok h3
            subst this
            refine ⟨hp_at hg', hp_u hg, h2⟩
          · cases h3
  · have hi' : (s.h.t.get i).isSome = true := hi
    obtain ⟨x, hx⟩ := Option.isSome_iff_exists.1 hi'
    exact allT_get hcov hx

theorem smOf_ok {s : Sm} (hs : SmOK P s) {f : FuncId} {args : List AV} {h : HT} {l : List CR} {Q : Res → Hp → Prop} (hx : smOf s f args h = some l) (hl : ∀ x ∈ l, CRQ P Q x) : CallL P f args (h.hp P) Q := by
  unfold smOf at hx
  split at hx <;> first | cases hx | skip
  rename_i hf
  split at hx <;> cases hx
  rename_i ha
  simp only [Bool.and_eq_true] at ha
  obtain rfl := Nat.eq_of_beq_eq_true hf
  obtain rfl := eqL_ok _ ha.1
  obtain rfl := eqH_ok ha.2
  exact hs Q (hl _ (List.mem_singleton.2 rfl))
theorem smsOf_ok : ∀ {ss : List Sm}, (∀ s ∈ ss, SmOK P s) → ∀ {f : FuncId} {args : List AV} {h : HT} {l : List CR} {Q : Res → Hp → Prop}, smsOf ss f args h = some l → (∀ x ∈ l, CRQ P Q x) → CallL P f args (h.hp P) Q
  | [], _, _, _, _, _, _, hx, _ => by cases hx
  | s :: r, hs, f, args, h, l, Q, hx, hl => by
    simp only [smsOf] at hx
    split at hx
    · rename_i l' hl'; cases hx; exact smOf_ok (hs s List.mem_cons_self) hl' hl
    · exact smsOf_ok (fun s h => hs s (List.mem_cons_of_mem _ h)) hx hl

theorem xMS_ok {ss : List Sm} (hs : ∀ s ∈ ss, SmOK P s) {codes : Tr FC} {loops : Nat} (hk : CodesOK P codes) (hh : BodyOK P hb) : ∀ d, RunOK P (xMS P hb codes loops ss d) := by
  intro d
  induction d with
  | zero =>
    refine ⟨?_, ?_, ?_⟩
    · intro f args h l Q hx; cases hx
    · intro c e h l Q hx; cases hx
    · intro f args u h l Q hx; cases hx
  | succ d ih =>
    refine ⟨fun f args h l Q hx hl => ?_, fun c e h l Q hx hQ hl => xC_ok hh ih c e h l Q hx hQ hl, fun f args u h l Q hx hl => xDfr_ok hk hh ih hx hl⟩
    have hx : (match smsOf ss f args h with
      | some l => some l
      | none => xFun P hb codes loops (xMS P hb codes loops ss d) f args h) = some l := hx
    split at hx
    · rename_i l' hl'; cases hx; exact smsOf_ok hs hl' hl
    · exact xFun_ok hk hh ih hx hl

theorem runS_ok {codes : Tr FC} (hk : trOK (GoodFC P) codes id) {ss : List Sm} (hs : ∀ s ∈ ss, SmOK P s) (loops d : Nat) : RunOK P (xMS P (hbOf codes) codes loops ss d) := by
  refine xMS_ok hs (fun f c hc => ?_) (fun f hf => ?_) d
  · obtain ⟨fn, m, h1, h2, h3, _⟩ := trOK_get codes id f c hk hc
    exact ⟨fn, m, h1, h2, h3⟩
  · cases hc : codes.get f with
    | none => simp [hbOf, hc] at hf
    | some c =>
      obtain ⟨fn, m, h1, _, h3, h4⟩ := trOK_get codes id f c hk hc
      refine ⟨fn, h1, ?_, h4⟩
      obtain ⟨full, h3, _⟩ := cutF_inv h3
      unfold compF at h3
      split at h3
      · cases h3
      · rename_i c' hb; rw [hb]; rfl

/-- One more part. -/
theorem SmOK.of {codes : Tr FC} (hk : trOK (GoodFC P) codes id) {ss : List Sm} (hs : ∀ s ∈ ss, SmOK P s) {loops d : Nat} {s : Sm} (hx : isSm s ((xMS P (hbOf codes) codes loops ss d).call s.f s.args s.h) = true) : ∀ x ∈ s :: ss, SmOK P x := by
  intro x hxs
  rcases List.mem_cons.1 hxs with rfl | hxs
  · exact sm_ok (runS_ok hk hs loops d) hx
  · exact hs x hxs

/-- A closed run, its last part. -/
theorem CallL.ofRunS {codes : Tr FC} (hk : trOK (GoodFC P) codes id) {ss : List Sm} (hs : ∀ s ∈ ss, SmOK P s) {loops d : Nat} {f : FuncId} {args : List AV} {v : AV} (ha : args.all sc1 = true) (hv : scv v = true)
    (hx : (match (xMS P (hbOf codes) codes loops ss d).call f args HT.nil with | some l => l.all (isRet v) | none => false) = true) : PureL P f args v := by
  intro h
  split at hx <;> first | cases hx | skip
  rename_i l hr
  have k := (runS_ok hk hs loops d).call f args HT.nil l (fun r _ => ∃ x, r = .ret x ∧ scv x = true ∧ x = v) hr fun x hxl => by
    have h1 := List.all_eq_true.1 hx x hxl
    cases x with
    | ret x h' => have := eqA_ok _ h1; subst this; exact ⟨_, rfl, hv, rfl⟩
    | pan x h' => cases h1
  rw [HT.hp_nil] at k
  exact (CallL.closed ha (Q := fun x => x = v) k).mono fun r h' ⟨x, h1, h2, h3⟩ => ⟨by rw [h1, h2], h3⟩
end
end Go.L
