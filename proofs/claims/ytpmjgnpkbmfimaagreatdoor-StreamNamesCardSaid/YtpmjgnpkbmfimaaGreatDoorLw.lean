/-
  The logic L, part w: deferred calls; recover.
-/
import Derived.Test.YtpmjgnpkbmfimaaGreatDoorLs2
import Derived.RecoverIn
import Derived.RangeFuncLeaves
namespace Go.L

/-- How a frame goes out: it returns; it panics; it has panicked and that was recovered. -/
inductive Um where
  | ret
  | pan (v : AV)
  | rcv (v : AV)

def UmR (σ : Emb) (M : Mem) : Um → FrameMode → Prop
  | .ret, .returning => True
  | .pan v, .panicking chain => ∃ v', chain = [{ v := v', recovered := false }] ∧ VR σ M v v'
  | .rcv v, .panicking chain => ∃ v', chain = [{ v := v', recovered := true }] ∧ VR σ M v v'
  | _, _ => False

theorem UmR.mono {σ σ' : Emb} {M M' : Mem} (hs : σ.le σ') (hm : M.le M') {u : Um} {m : FrameMode} (h : UmR σ M u m) : UmR σ' M' u m := by
  cases u <;> cases m <;> simp only [UmR] at h ⊢
  all_goals obtain ⟨v', h1, h2⟩ := h; exact ⟨v', h1, h2.mono hs hm⟩

def settleU : Um → Um
  | .rcv _ => .ret
  | u => u
theorem UmR.settle {σ : Emb} {M : Mem} {u : Um} {m : FrameMode} (h : UmR σ M u m) : UmR σ M (settleU u) (Go.settle m) := by
  cases u <;> cases m <;> simp only [UmR] at h
  · simp [settleU, Go.settle, UmR]
  · obtain ⟨v', rfl, h2⟩ := h; exact ⟨v', rfl, h2⟩
  · obtain ⟨v', rfl, h2⟩ := h; simp [settleU, Go.settle, UmR]
theorem UmR.notRun {σ : Emb} {M : Mem} {u : Um} {m : FrameMode} (h : UmR σ M u m) : m ≠ .run := by
  cases u <;> cases m <;> simp only [UmR] at h <;> simp

/-- The contract of a deferred call, entered while the frame below goes out so. -/
structure DefL (P : Program) (f : FuncId) (args : List AV) (u : Um) (h : Hp) (Q : Res → Um → Hp → Prop) : Prop where
  run : ∀ (σ : Emb) (M : Mem) (w : World) (args' : Array Value) (u' : FrameMode), R P σ M h w → VRs σ M args args' → UmR σ M u u' →
    CallsDIn Fence.wide 0 P f args' u' w fun e u'' w' => ∃ σ' M' h' um, Ext σ M w σ' M' w' ∧ R P σ' M' h' w' ∧ UmR σ' M' um u'' ∧ EndR σ' M' (fun r => Q r um h') e

theorem DefL.mono {P : Program} {f : FuncId} {args : List AV} {u : Um} {h : Hp} {Q Q' : Res → Um → Hp → Prop} (c : DefL P f args u h Q) (hq : ∀ r u h', Q r u h' → Q' r u h') : DefL P f args u h Q' :=
  ⟨fun σ M w args' u' hR hA hU => (c.run σ M w args' u' hR hA hU).mono fun e u'' w' ⟨σ', M', h', um, h1, h2, h3, h4⟩ => ⟨σ', M', h', um, h1, h2, h3, by
    cases e with
    | returned v' => obtain ⟨v, a, b⟩ := h4; exact ⟨v, a, hq _ _ _ b⟩
    | panicked ch => obtain ⟨v, v', a, b, c⟩ := h4; exact ⟨v, v', a, b, hq _ _ _ c⟩
    | outgrown => exact h4⟩⟩

/-- What is asked when a function goes out: its deferred calls, the last one first. -/
def LeavesL (P : Program) (rs : List ARes) (Q : Res → Hp → Prop) : List ADef → Um → Env → Hp → Prop
  | [], .ret, e, h => resL e h rs fun l => Q (.ret (oneV l)) h
  | [], .pan v, _, h => Q (.pan v) h
  | [], .rcv _, _, _ => False
  | .call (.func f) cap args :: ds, u, e, h => HasBody P f ∧ DefL P f (args ++ cap) u h fun r u' h' => match r with
      | .ret _ => LeavesL P rs Q ds (settleU u') e h'
      | .pan _ => False
  | .mark i :: ds, u, e, h => h i = some .dfr ∧ LeavesL P rs Q ds u e (h.del i)
  | _ :: _, _, _, _ => False

def EndQD (P : Program) (rs : List ARes) (Q : Res → Hp → Prop) : Xit → Env → Hp → Prop
  | .pan v, e, h => LeavesL P rs Q e.ds (.pan v) e h
  | .exit _, _, _ => False
  | _, e, h => LeavesL P rs Q e.ds .ret e h

section
variable {P : Program} {md : Bool}

theorem resL_congr {e e2 : Env} {h : Hp} (he : e.t = e2.t) : ∀ {rs : List ARes} {N : List AV → Prop}, resL e h rs N = resL e2 h rs N := by
  intro rs
  induction rs with
  | nil => intro N; rfl
  | cons r rs ih =>
    intro N
    cases r <;> simp only [resL, LN, ev, he, ih]

theorem leaves_sound {fn : Func} {rs : List ARes} {Q : Res → Hp → Prop} (hr : compRs P fn.results.toList = some rs) {σ0 : Emb} {M0 : Mem} {w0 : World} {tmps : Array Value} :
    ∀ (ds : List ADef) (ds' : List Deferred) (u : Um) (u' : FrameMode) (e : Env) (h : Hp) (σ : Emb) (M : Mem) (w : World), Ext σ0 M0 w0 σ M w → R P σ M h w → (∀ x, VR σ M (e.t x) (tmps.getD x undef)) →
      ds'.length = ds.length → (∀ (j : Nat) (x : ADef), ds[j]? = some x → ∃ y, ds'[j]? = some y ∧ DefR σ M x y) → UmR σ M u u' → LeavesL P rs Q ds u e h →
      LeavesInM Fence.wide 0 P fn tmps (fun e w' => ∃ σ' M' h', Ext σ0 M0 w0 σ' M' w' ∧ R P σ' M' h' w' ∧ EndR σ' M' (fun r => Q r h') e) ds' u' w := by
  intro ds
  induction ds with
  | nil =>
    intro ds' u u' e h σ M w hE hR ht hlen hd hU hl
    have : ds' = [] := List.eq_nil_of_length_eq_zero hlen
    subst this
    cases u with
    | ret =>
      cases u' <;> simp only [UmR] at hU
      obtain ⟨v', vs, h1, h2, h3⟩ := results_ok (a := { tmps := tmps, defers := [] }) (e := ⟨tmps.size, e.t, []⟩) hR ⟨rfl, ht, rfl, fun j x hj => by simp at hj⟩ hr (Eq.mp (resL_congr (e := e) (e2 := ⟨tmps.size, e.t, []⟩) rfl) (show resL e h rs fun l => Q (.ret (oneV l)) h from hl))
      exact ⟨v', h1, σ, M, h, hE, hR, oneV vs, h2, h3⟩
    | pan v =>
      cases u' <;> simp only [UmR] at hU
      obtain ⟨v', rfl, hv⟩ := hU
      exact ⟨σ, M, h, hE, hR, v, v', rfl, hv, hl⟩
    | rcv v => exact hl.elim
  | cons d ds ih =>
    intro ds' u u' e h σ M w hE hR ht hlen hd hU hl
    cases ds' with
    | nil => simp at hlen
    | cons d' ds' =>
      obtain ⟨y, hy, hyd⟩ := hd 0 d rfl
      simp at hy; subst hy
      have hd' : ∀ (j : Nat) (x : ADef), ds[j]? = some x → ∃ y, ds'[j]? = some y ∧ DefR σ M x y := fun j x hj => let ⟨y, q1, q2⟩ := hd (j + 1) x (by simpa using hj); ⟨y, by simpa using q1, q2⟩
      refine ⟨hU.notRun, ?_⟩
      cases d with
      | mark i =>
        obtain ⟨hi, hl⟩ := hl
        obtain ⟨L, hL, htgt⟩ := hyd
        have hb : w.heap[L.b]? = some (.deferred (some [])) := hR.blk i _ L hi hL
        refine .inl ⟨L.b, _, htgt, run_takeDeferred hb, ?_⟩
        have hoth : ∀ B, B ≠ L.b → (w.putObj L.b (.deferred none)).heap[B]? = w.heap[B]? := fun B hB => by simp [World.putObj, Array.getElem?_setIfInBounds, Ne.symm hB]
        have hE1 : Ext σ M w σ M (w.putObj L.b (.deferred none)) := ⟨σ.le_refl, M.le_refl, by simp [World.putObj], rfl, rfl, rfl⟩
        exact ih ds' _ _ e _ σ M _ (hE.trans hE1) (hR.kill hi hL hoth) ht (by simpa using hlen) hd' hU hl
      | call g cap args =>
        cases g with
        | func f =>
          obtain ⟨⟨g, hg, hb, hn⟩, hl⟩ := hl
          obtain ⟨⟨c', ht1, ht2⟩, ha⟩ := hyd
          have hinv : (invoke d'.target d'.args).run P w = .ok (.enter f (d'.args ++ c')) w := by
            have hb' : g.body.isNone = false := by cases hh : g.body <;> simp_all
            have hp : (program).run P w = .ok P w := rfl
            rw [ht1]
            simp only [invoke, callFunc, Sem.run_bind, hp, Result.andThen, hg, hn, hb', Bool.false_eq_true, if_false, Sem.run_pure]
          refine .inr ⟨fun h => by simp [Fence.wide] at h, .func f, c', f, _, ht1, hinv, fun _ _ => trivial, ?_⟩
          refine (hl.run σ M w _ u' hR (ha.append ht2) hU).mono fun e1 u1 w1 ⟨σ1, M1, h1, um, hE1, hR1, hU1, hend⟩ => ?_
          cases e1 with
          | returned v' =>
            obtain ⟨v, _, hq⟩ := hend
            exact ih ds' _ _ e h1 σ1 M1 w1 (hE.trans hE1) hR1 (fun x => (ht x).mono hE1.s hE1.m) (by simpa using hlen)
              (fun j x hj => let ⟨y, q1, q2⟩ := hd' j x hj; ⟨y, q1, q2.mono hE1.s hE1.m⟩) hU1.settle hq
          | panicked ch => obtain ⟨v, v', _, _, hq⟩ := hend; exact hq.elim
          | outgrown => exact hend.elim
        | _ => exact hl.elim

theorem actR_env0 {σ : Emb} {M : Mem} {args : List AV} {args' : Array Value} {n : Nat} (hn : args.length ≤ n) (hargs : VRs σ M args args') :
    ActR σ M (env0 n args) { tmps := args' ++ Array.replicate (n - args'.size) undef, defers := [] } := by
  have hsz : args'.size = args.length := hargs.1
  refine ⟨by simp [env0]; omega, fun x => ?_, rfl, fun j y hj => by simp [env0] at hj⟩
  simp only [env0, Array.getD_eq_getD_getElem?]
  by_cases hx : x < args.length
  · obtain ⟨v', h1, h2⟩ := hargs.2 x _ (List.getElem?_eq_getElem hx)
    rw [Array.getElem?_append_left (by omega), h1, List.getElem?_eq_getElem hx]
    exact h2
  · rw [List.getElem?_eq_none (by omega), Array.getElem?_append_right (by omega)]
    simp only [Option.getD_none]
    by_cases hx2 : x - args'.size < n - args'.size
    · rw [Array.getElem?_replicate, if_pos hx2]; exact VR.tup' .nil
    · rw [Array.getElem?_replicate, if_neg hx2]; exact VR.tup' .nil

theorem compF_inv {fn : Func} {ac : ACode} {rs : List ARes} (hc : compF P fn = some (ac, rs)) : ∃ c, fn.body = some c ∧ compC P fn.ntmps c = some ac ∧ compRs P fn.results.toList = some rs := by
  unfold compF at hc
  split at hc
  · cases hc
  · rename_i c hb
    split at hc
    · rename_i a r h1 h2
      cases hc
      exact ⟨c, hb, h1, h2⟩
    · cases hc

/-- A function that defers: its contract. -/
theorem CallL.ofD {f : FuncId} {fn : Func} {ac : ACode} {rs : List ARes} {args : List AV} {h : Hp} {Q : Res → Hp → Prop} (hf : P.funcs[f]? = some fn) (hc : compF P fn = some (ac, rs)) (hn : args.length ≤ fn.ntmps)
    (hl : LCode P md ac (EndQD P rs Q) (env0 fn.ntmps args) h) : CallL P f args h Q := by
  obtain ⟨c, hb, hc, hr⟩ := compF_inv hc
  constructor
  intro σ M w args' hR hargs
  refine callsIn_of_wp_marks hf hb trivial ?_
  refine wpIn_mono (LCode_sound (ro := none) c ac hc (.inl rfl) _ _ h rfl hl σ M w _ hR (actR_env0 hn hargs)) ?_
  rintro x a' w' ⟨σ', M', h', e', y, hE, hR', hA', hX, hQ, _⟩
  have fin : ∀ u u', UmR σ' M' u u' → LeavesL P rs Q e'.ds u e' h' → LeavesInM Fence.wide 0 P fn a'.tmps (fun e w' => ∃ σ' M' h', Ext σ M w σ' M' w' ∧ R P σ' M' h' w' ∧ EndR σ' M' (fun r => Q r h') e) a'.defers u' w' := fun u u' hU hl =>
    leaves_sound hr _ _ _ _ _ _ _ _ _ hE hR' hA'.t hA'.dl hA'.d hU hl
  cases y with
  | normal => cases x <;> simp only [XitR] at hX; exact fin .ret .returning trivial hQ
  | exit i => exact hQ.elim
  | ret => cases x <;> simp only [XitR] at hX; exact fin .ret .returning trivial hQ
  | pan v =>
    cases x <;> simp only [XitR] at hX
    obtain ⟨v', rfl, hv⟩ := hX
    exact fin (.pan v) _ ⟨v', rfl, hv⟩ hQ

/-- A function that neither defers nor recovers, as a deferred call. -/
theorem DefL.of {f : FuncId} {fn : Func} {ac : ACode} {rs : List ARes} {args : List AV} {h : Hp} {u : Um} {Q : Res → Um → Hp → Prop} (hf : P.funcs[f]? = some fn) (hc : compF P fn = some (ac, rs)) (hn : args.length ≤ fn.ntmps)
    (hl : LCode P md ac (EndQ rs fun r h => Q r u h) (env0 fn.ntmps args) h) : DefL P f args u h Q := by
  obtain ⟨c, hb, hc, hr⟩ := compF_inv hc
  constructor
  intro σ M w args' u' hR hargs hU
  refine (callsDIn_of_wp (R := fun e w' => ∃ σ' M' h', Ext σ M w σ' M' w' ∧ R P σ' M' h' w' ∧ EndR σ' M' (fun r => Q r u h') e) hf hb trivial ?_).mono ?_
  · refine wpIn_mono (LCode_sound (ro := none) c ac hc (.inl rfl) _ _ h rfl hl σ M w _ hR (actR_env0 hn hargs)) ?_
    rintro x a' w' ⟨σ', M', h', e', y, hE, hR', hA', hX, hQ, _⟩
    have fin : (e'.ds = [] ∧ resL e' h' rs fun l => Q (.ret (oneV l)) u h') → a'.defers = [] ∧ ∃ v, (results fn a'.tmps).run P w' = .ok v w' ∧ ∃ σ' M' h', Ext σ M w σ' M' w' ∧ R P σ' M' h' w' ∧ EndR σ' M' (fun r => Q r u h') (.returned v) := by
      rintro ⟨hd, hl⟩
      obtain ⟨v', vs, h1, h2, h3⟩ := results_ok hR' hA' hr hl
      exact ⟨List.eq_nil_of_length_eq_zero (by rw [hA'.dl, hd]; rfl), v', h1, σ', M', h', hE, hR', oneV vs, h2, h3⟩
    cases y with
    | normal => cases x <;> simp only [XitR] at hX; exact fin hQ
    | exit i => exact hQ.elim
    | ret => cases x <;> simp only [XitR] at hX; exact fin hQ
    | pan v =>
      cases x <;> simp only [XitR] at hX
      obtain ⟨v', rfl, hv⟩ := hX
      exact ⟨List.eq_nil_of_length_eq_zero (by rw [hA'.dl, hQ.1]; rfl), σ', M', h', hE, hR', v, v', rfl, hv, hQ.2⟩
  · rintro e u1 w' ⟨rfl, σ', M', h', hE, hR', hend⟩
    exact ⟨σ', M', h', u, hE, hR', hU.mono hE.s hE.m, hend⟩

/-! ### Code that may recover -/

/-- Slots moved. -/
def putsE (e : Env) : List (Option Nat × AOpd) → Env
  | [] => e
  | (d, x) :: r => putsE (e.put d (ev e x)) r

def LCodeS (P : Program) (md : Bool) : ACode → (Xit → Env → Hp → Um → Prop) → Env → Hp → Um → Prop
  | .seq a b, Q, e, h, u => LCodeS P md a (fun x e h u => match x with | .normal => LCodeS P md b Q e h u | x => Q x e h u) e h u
  | .cond c a b, Q, e, h, u => match ev e c with
    | .bool t => bcase t true (LCodeS P md a Q e h u) (LCodeS P md b Q e h u)
    | _ => False
  | .recv d ms, Q, e, h, u => match u with
    | .pan v => Q .normal (putsE (e.put d v) ms) h (.rcv v)
    | u => Q .normal (putsE (e.put d .nili) ms) h u
  | c, Q, e, h, u => LCode P md c (fun x e h => Q x e h u) e h

def PostS (P : Program) (σ : Emb) (M : Mem) (w : World) (c0 : Frame) (cs : List Frame) (Q : Xit → Env → Hp → Um → Prop) : Exit → Act → List Frame → World → Prop := fun x a' cs' w' =>
  ∃ σ' M' h' e' y um u', Ext σ M w σ' M' w' ∧ R P σ' M' h' w' ∧ ActR σ' M' e' a' ∧ XitR σ' M' y x ∧ UmR σ' M' um u' ∧ cs' = { c0 with mode := u' } :: cs ∧ Q y e' h' um

theorem PostS.of_ext {σ σ1 : Emb} {M M1 : Mem} {w w1 : World} {c0 : Frame} {cs : List Frame} {Q : Xit → Env → Hp → Um → Prop} (h : Ext σ M w σ1 M1 w1) {x : Exit} {a' : Act} {cs' : List Frame} {w' : World}
    (k : PostS P σ1 M1 w1 c0 cs Q x a' cs' w') : PostS P σ M w c0 cs Q x a' cs' w' :=
  let ⟨σ', M', h', e', y, um, u', k1, k2⟩ := k; ⟨σ', M', h', e', y, um, u', h.trans k1, k2⟩

theorem wpSIn_mono {F : Fence} {n : Nat} {c : Code} {Q Q' : Exit → Act → List Frame → World → Prop} {a : Act} {cs : List Frame} {w : World} (h : c.wpSIn F n P Q a cs w) (hq : ∀ x a cs w, Q x a cs w → Q' x a cs w) : c.wpSIn F n P Q' a cs w :=
  fun b k h1 h2 h3 h4 => let ⟨e, a', cs', w', l, q, r⟩ := h b k h1 h2 h3 h4; ⟨e, a', cs', w', l, hq _ _ _ _ q, r⟩

theorem movs_sound {n : Nat} {ops : Array Oper} {σ : Emb} {M : Mem} {w : World} {cs : List Frame} {Q' : Exit → Act → List Frame → World → Prop} :
    ∀ (l : List Nat) (os : List Oper) (ms : List (Option Nat × AOpd)), (∀ (j i : Nat), l[j]? = some i → ∃ o, ops[i]? = some o ∧ os[j]? = some o) → l.length = os.length → movsOf n os = some ms →
      ∀ (e : Env) (a : Act), e.n = n → ActR σ M e a → (∀ a', ActR σ M (putsE e ms) a' → (putsE e ms).n = n → Q' .normal a' cs w) → wpOpsSIn Fence.wide 0 P ops Q' l a cs w := by
  intro l
  induction l with
  | nil =>
    intro os ms _ hlen hms e a hn hA hQ
    have : os = [] := List.eq_nil_of_length_eq_zero hlen.symm
    subst this; cases hms
    exact hQ a hA hn
  | cons i l ih =>
    intro os ms hget hlen hms e a hn hA hQ
    cases os with
    | nil => simp at hlen
    | cons o os =>
      obtain ⟨o', ho, ho'⟩ := hget 0 i rfl
      simp at ho'; subst ho'
      unfold movsOf at hms
      split at hms <;> cases hms
      rename_i m ms hm hms
      have hone : ∃ x, (o.op = .move x ∨ o.op = .assign x) ∧ o.guard = none ∧ ∃ y, copd x = some y ∧ m = (o.dst, y) ∧ ∀ d, o.dst = some d → d < n := by
        unfold movOf at hm
        split at hm <;> first | cases hm | skip
        all_goals
          rename_i x hop hg
          split at hm <;> cases hm
          rename_i y hx hd
          refine ⟨x, by first | exact .inl hop | exact .inr hop, hg, y, hx, rfl, fun d he => ?_⟩
          rw [he] at hd
          have hd2 : Nat.ble (d + 1) n = true := hd
          exact Nat.le_of_ble_eq_true hd2
      obtain ⟨x, hop, hg, y, hx, rfl, hd⟩ := hone
      have hrun : (execOp a.eval o).run P w = .ok (.value (a.eval x)) w := by rcases hop with hop | hop <;> simp [execOp, hop]
      simp only [wpOpsSIn, ho]
      refine ⟨fun _ _ => trivial, ?_⟩
      have hw : Region.wanted o (yielded ops a.tmps) = true := by simp [Region.wanted, hg]
      rw [if_pos hw]
      simp only [hrun]
      refine ih os ms (fun j i hj => by obtain ⟨o', q1, q2⟩ := hget (j + 1) i (by simpa using hj); exact ⟨o', q1, by simpa using q2⟩) (by simpa using hlen) hms (e.put o.dst (ev e y)) _ (by cases o.dst <;> exact hn)
        (hA.put (fun d he => by rw [hn]; exact hd d he) (copd_ok hx hA)) hQ

def plainA : ACode → Bool
  | .seq .. => false
  | .cond .. => false
  | .recv .. => false
  | _ => true
theorem LCodeS_plain {c : ACode} (hp : plainA c = true) {Q : Xit → Env → Hp → Um → Prop} {e : Env} {h : Hp} {u : Um} (hl : LCodeS P md c Q e h u) : LCode P md c (fun x e h => Q x e h u) e h := by
  cases c <;> first | exact hl | cases hp
theorem plainA_orders {ops : Array Oper} {la : List AOper} : plainA (ordersOf ops la) = true := by unfold ordersOf; split <;> rfl
theorem plainA_draw {n : Nat} {ops : Array Oper} : plainA (drawC P n ops) = true := by
  unfold drawC
  split
  · split
    · rfl
    · split <;> rfl
  · rfl

theorem recv_sound {n : Nat} {ops : Array Oper} {d : Option Nat} {ms : List (Option Nat × AOpd)} (hc : recvOf n ops = some (.recv d ms)) {Q : Xit → Env → Hp → Um → Prop} {e : Env} {h : Hp} {u : Um} (hn : e.n = n) (hl : LCodeS P md (.recv d ms) Q e h u)
    {σ : Emb} {M : Mem} {w : World} {a : Act} {c0 : Frame} {cs : List Frame} {u' : FrameMode} {id : Nat} (hR : R P σ M h w) (hA : ActR σ M e a) (hU : UmR σ M u u') :
    (Code.region id ops false).wpSIn Fence.wide 0 P (PostS P σ M w c0 cs fun x e h u => Q x e h u ∧ e.n = n) a ({ c0 with mode := u' } :: cs) w := by
  refine wpSIn_region ?_
  unfold recvOf at hc
  split at hc <;> first | cases hc | skip
  rename_i o r hops
  split at hc <;> first | cases hc | skip
  rename_i c hop hg
  split at hc <;> cases hc
  rename_i hcal hargs hd hms
  have hsz : ops.size = r.length + 1 := by rw [← Array.length_toList, hops]; rfl
  have ho : ops[0]? = some o := by rw [← Array.getElem?_toList, hops]; rfl
  have hrange : List.range ops.size = 0 :: (List.range r.length).map (· + 1) := by rw [hsz, List.range_succ_eq_map]
  rw [hrange]
  have hrun : (execOp a.eval o).run P w = .ok .recover w := by
    have : c.args = #[] := by rw [← Array.toArray_toList (xs := c.args), hargs]
    simp [execOp, hop, resolve, hcal, invoke, builtin]
  have hw : Region.wanted o (yielded ops a.tmps) = true := by simp [Region.wanted, hg]
  have hlt : ∀ d, o.dst = some d → d < e.n := fun d he => by
    rw [he] at hd
    have hd2 : Nat.ble (d + 1) n = true := hd
    rw [hn]; exact Nat.le_of_ble_eq_true hd2
  have rest : ∀ (v : AV) (v' : Value) (um : Um) (u1 : FrameMode), VR σ M v v' → UmR σ M um u1 → Q .normal (putsE (e.put o.dst v) ms) h um →
      wpOpsSIn Fence.wide 0 P ops (PostS P σ M w c0 cs fun x e h u => Q x e h u ∧ e.n = n) ((List.range r.length).map (· + 1)) (a.put o.dst v') ({ c0 with mode := u1 } :: cs) w := by
    intro v v' um u1 hv hU1 hQ
    refine movs_sound _ r ms (fun j i hj => ?_) (by simp) hms (e.put o.dst v) _ (by cases o.dst <;> exact hn) (hA.put hlt hv) fun a' hA' hn' => ⟨σ, M, h, _, .normal, um, u1, .refl _ _ _, hR, hA', trivial, hU1, rfl, hQ, hn'⟩
    rw [List.getElem?_map] at hj
    have hjl : j < r.length := by
      rcases Nat.lt_or_ge j r.length with hh | hh
      · exact hh
      · rw [List.getElem?_eq_none (by simpa using hh)] at hj; cases hj
    rw [List.getElem?_range hjl] at hj
    cases hj
    exact ⟨r[j], by rw [← Array.getElem?_toList, hops]; simp [hjl], List.getElem?_eq_getElem hjl⟩
  simp only [wpOpsSIn, ho]
  refine ⟨fun _ _ => trivial, ?_⟩
  rw [if_pos hw]
  simp only [hrun]
  cases u with
  | ret =>
    cases u' <;> simp only [UmR] at hU
    simp only [recoverD]
    exact rest .nili .nilIface .ret .returning .nili trivial hl
  | pan v =>
    cases u' <;> simp only [UmR] at hU
    obtain ⟨v', rfl, hv⟩ := hU
    simp only [recoverD]
    exact rest v v' (.rcv v) _ hv ⟨v', rfl, hv⟩ hl
  | rcv v =>
    cases u' <;> simp only [UmR] at hU
    obtain ⟨v', rfl, hv⟩ := hU
    simp only [recoverD]
    exact rest .nili .nilIface (.rcv v) _ .nili ⟨v', rfl, hv⟩ hl

theorem LCodeS_sound {n : Nat} : ∀ (c : Code) (ac : ACode), compC P n c = some ac → ∀ (Q : Xit → Env → Hp → Um → Prop) (e : Env) (h : Hp) (u : Um), e.n = n → LCodeS P md ac Q e h u →
    ∀ (σ : Emb) (M : Mem) (w : World) (a : Act) (c0 : Frame) (cs : List Frame) (u' : FrameMode), R P σ M h w → ActR σ M e a → UmR σ M u u' →
      c.wpSIn Fence.wide 0 P (PostS P σ M w c0 cs fun x e h u => Q x e h u ∧ e.n = n) a ({ c0 with mode := u' } :: cs) w := by
  intro c
  -- code that is plain
  have plain : ∀ (c : Code) (ac : ACode), compC P n c = some ac → ∀ (Q : Xit → Env → Hp → Um → Prop) (e : Env) (h : Hp) (u : Um), e.n = n → LCode P md ac (fun x e h => Q x e h u) e h →
      ∀ (σ : Emb) (M : Mem) (w : World) (a : Act) (c0 : Frame) (cs : List Frame) (u' : FrameMode), R P σ M h w → ActR σ M e a → UmR σ M u u' →
      c.wpSIn Fence.wide 0 P (PostS P σ M w c0 cs fun x e h u => Q x e h u ∧ e.n = n) a ({ c0 with mode := u' } :: cs) w := by
    intro c ac hc Q e h u hn hl σ M w a c0 cs u' hR hA hU
    refine wpSIn_of_wpIn rfl (wpIn_mono (LCode_sound (ro := none) c ac hc (.inl rfl) _ e h hn hl σ M w a hR hA) ?_)
    rintro x a' w' ⟨σ', M', h', e', y, hE, hR', hA', hX, hQ⟩
    exact ⟨σ', M', h', e', y, u, u', hE, hR', hA', hX, hU.mono hE.s hE.m, rfl, hQ⟩
  have easy : ∀ (c : Code) (ac : ACode), plainA ac = true → compC P n c = some ac → ∀ (Q : Xit → Env → Hp → Um → Prop) (e : Env) (h : Hp) (u : Um), e.n = n → LCodeS P md ac Q e h u →
      ∀ (σ : Emb) (M : Mem) (w : World) (a : Act) (c0 : Frame) (cs : List Frame) (u' : FrameMode), R P σ M h w → ActR σ M e a → UmR σ M u u' →
      c.wpSIn Fence.wide 0 P (PostS P σ M w c0 cs fun x e h u => Q x e h u ∧ e.n = n) a ({ c0 with mode := u' } :: cs) w := fun c ac hp hc Q e h u hn hl => plain c ac hc Q e h u hn (LCodeS_plain hp hl)
  induction c with
  | seq a b iha ihb =>
    intro ac hc Q e h u hn hl σ M w act c0 cs u' hR hA hU
    simp only [compC] at hc
    split at hc <;> first | cases hc | skip
    rename_i x y hx hy
    refine wpSIn_seq (wpSIn_mono (iha x hx _ e h u hn hl σ M w act c0 cs u' hR hA hU) ?_)
    rintro z a1 cs1 w1 ⟨σ1, M1, h1, e1, y1, um, u1, hE, hR1, hA1, hX, hU1, rfl, hQ, hn1⟩
    cases y1 with
    | normal =>
      cases z <;> simp only [XitR] at hX
      exact wpSIn_mono (ihb y hy Q e1 h1 um hn1 hQ σ1 M1 w1 a1 c0 cs u1 hR1 hA1 hU1) fun _ _ _ _ => PostS.of_ext hE
    | exit i => cases z <;> simp only [XitR] at hX; exact ⟨σ1, M1, h1, e1, .exit i, um, u1, hE, hR1, hA1, hX, hU1, rfl, hQ, hn1⟩
    | ret => cases z <;> simp only [XitR] at hX; exact ⟨σ1, M1, h1, e1, .ret, um, u1, hE, hR1, hA1, trivial, hU1, rfl, hQ, hn1⟩
    | pan v => cases z <;> simp only [XitR] at hX; exact ⟨σ1, M1, h1, e1, .pan v, um, u1, hE, hR1, hA1, hX, hU1, rfl, hQ, hn1⟩
  | cond c a b iha ihb =>
    intro ac hc Q e h u hn hl σ M w act c0 cs u' hR hA hU
    simp only [compC] at hc
    split at hc <;> first | cases hc | skip
    rename_i z x y hz hx hy
    simp only [LCodeS] at hl
    split at hl <;> first | exact hl.elim | skip
    rename_i t ht
    have h1 := copd_ok hz hA
    rw [ht] at h1
    refine wpSIn_cond (t := t) h1.bool_inv ?_
    cases t with
    | true => exact iha x hx Q e h u hn hl σ M w act c0 cs u' hR hA hU
    | false => exact ihb y hy Q e h u hn hl σ M w act c0 cs u' hR hA hU
  | region id ops draw =>
    intro ac hc Q e h u hn hl σ M w act c0 cs u' hR hA hU
    cases draw with
    | true =>
      refine easy _ ac ?_ hc Q e h u hn hl σ M w act c0 cs u' hR hA hU
      simp only [compC] at hc
      split at hc <;> cases hc
      · exact plainA_draw
      · rfl
    | false =>
      have hc0 := hc
      simp only [compC] at hc
      cases hc
      cases hreg : regC P n ops with
      | seq x y =>
        rw [hreg] at hl
        have hx : plainA x = true ∧ plainA y = true := by
          unfold regC at hreg
          split at hreg
          · split at hreg <;> cases hreg; exact ⟨rfl, rfl⟩
          · split at hreg
            · rename_i c hcc
              subst hreg
              unfold recvOf at hcc
              split at hcc <;> first | cases hcc | skip
              split at hcc <;> first | cases hcc | skip
              split at hcc <;> cases hcc
            · split at hreg <;> cases hreg
        have hops : ∃ la, x = .ops la := by
          unfold regC at hreg
          split at hreg
          · split at hreg <;> cases hreg; exact ⟨_, rfl⟩
          · split at hreg
            · rename_i c hcc
              subst hreg
              unfold recvOf at hcc
              split at hcc <;> first | cases hcc | skip
              split at hcc <;> first | cases hcc | skip
              split at hcc <;> cases hcc
            · split at hreg <;> cases hreg
        obtain ⟨la, rfl⟩ := hops
        refine plain _ _ hc0 Q e h u hn ?_ σ M w act c0 cs u' hR hA hU
        rw [hreg]
        have hl1 : LOps P md la (fun e h => LCodeS P md y Q e h u) (fun v e h => Q (.pan v) e h u) e h := hl
        exact LOps_mono hl1 (fun e h hy => LCodeS_plain hx.2 hy) (fun v e h hq => hq)
      | recv d ms =>
        rw [hreg] at hl
        refine recv_sound ?_ hn hl hR hA hU
        unfold regC at hreg
        split at hreg
        · split at hreg <;> cases hreg
        · split at hreg
          · rename_i c hcc; rw [hcc, hreg]
          · split at hreg <;> cases hreg
      | cond _ _ _ =>
        exfalso
        unfold regC at hreg
        split at hreg
        · split at hreg <;> cases hreg
        · split at hreg
          · rename_i c hcc
            subst hreg
            unfold recvOf at hcc
            split at hcc <;> first | cases hcc | skip
            split at hcc <;> first | cases hcc | skip
            split at hcc <;> cases hcc
          · split at hreg <;> cases hreg
      | _ => exact easy _ _ (by rw [hreg]; rfl) hc0 Q e h u hn hl σ M w act c0 cs u' hR hA hU
  | skip => intro ac hc; refine easy _ ac ?_ hc; cases hc; rfl
  | exit i => intro ac hc; refine easy _ ac ?_ hc; cases hc; rfl
  | ret => intro ac hc; refine easy _ ac ?_ hc; cases hc; rfl
  | loop c ih => intro ac hc; refine easy _ ac ?_ hc; obtain ⟨x, hx, rfl⟩ := Option.map_some_inv hc; rfl
  | block i c ih => intro ac hc; refine easy _ ac ?_ hc; obtain ⟨x, hx, rfl⟩ := Option.map_some_inv hc; rfl
  | rangeFunc f ps a b iha ihb =>
    intro ac hc; refine easy _ ac ?_ hc
    simp only [compC] at hc
    split at hc <;> first | cases hc | skip
    split at hc <;> cases hc <;> rfl
  | scope c ih => intro ac hc; refine easy _ ac ?_ hc; cases hc; rfl
  | label l => intro ac hc; refine easy _ ac ?_ hc; cases hc; rfl
  | goto l => intro ac hc; refine easy _ ac ?_ hc; cases hc; rfl
  | refuse s => intro ac hc; refine easy _ ac ?_ hc; cases hc; rfl

def EndQS (rs : List ARes) (Q : Res → Um → Hp → Prop) : Xit → Env → Hp → Um → Prop
  | .pan v, e, h, u => e.ds = [] ∧ Q (.pan v) u h
  | .exit _, _, _, _ => False
  | _, e, h, u => e.ds = [] ∧ resL e h rs fun l => Q (.ret (oneV l)) u h

/-- A function that may recover, as a deferred call. -/
theorem DefL.ofS {f : FuncId} {fn : Func} {ac : ACode} {rs : List ARes} {args : List AV} {h : Hp} {u : Um} {Q : Res → Um → Hp → Prop} (hf : P.funcs[f]? = some fn) (hc : compF P fn = some (ac, rs)) (hn : args.length ≤ fn.ntmps)
    (hl : LCodeS P md ac (EndQS rs Q) (env0 fn.ntmps args) h u) : DefL P f args u h Q := by
  obtain ⟨c, hb, hc, hr⟩ := compF_inv hc
  constructor
  intro σ M w args' u' hR hargs hU
  refine callsDIn_of_wpSIn hf hb trivial fun c0 cs hu => ?_
  have hcs : ({ c0 with mode := u' } : Frame) = c0 := by subst hu; rfl
  have := LCodeS_sound c ac hc _ _ h u rfl hl σ M w _ c0 cs u' hR (actR_env0 hn hargs) hU
  rw [hcs] at this
  refine wpSIn_mono this ?_
  rintro x a' cs' w' ⟨σ', M', h', e', y, um, u1, hE, hR', hA', hX, hU', rfl, hQ, _⟩
  have fin : (e'.ds = [] ∧ resL e' h' rs fun l => Q (.ret (oneV l)) um h') → a'.defers = [] ∧ ∃ v, (results fn a'.tmps).run P w' = .ok v w' ∧ ∃ σ' M' h' um, Ext σ M w σ' M' w' ∧ R P σ' M' h' w' ∧ UmR σ' M' um u1 ∧ EndR σ' M' (fun r => Q r um h') (.returned v) := by
    rintro ⟨hd, hl⟩
    obtain ⟨v', vs, h1, h2, h3⟩ := results_ok hR' hA' hr hl
    exact ⟨List.eq_nil_of_length_eq_zero (by rw [hA'.dl, hd]; rfl), v', h1, σ', M', h', um, hE, hR', hU', oneV vs, h2, h3⟩
  cases y with
  | normal =>
    cases x <;> simp only [XitR] at hX
    obtain ⟨h1, v, h2, h3⟩ := fin hQ
    exact ⟨h1, u1, rfl, v, h2, h3⟩
  | exit i => exact hQ.elim
  | ret =>
    cases x <;> simp only [XitR] at hX
    obtain ⟨h1, v, h2, h3⟩ := fin hQ
    exact ⟨h1, u1, rfl, v, h2, h3⟩
  | pan v =>
    cases x <;> simp only [XitR] at hX
    obtain ⟨v', rfl, hv⟩ := hX
    exact ⟨List.eq_nil_of_length_eq_zero (by rw [hA'.dl, hQ.1]; rfl), u1, rfl, σ', M', h', um, hE, hR', hU', v, v', rfl, hv, hQ.2⟩
end
end Go.L
