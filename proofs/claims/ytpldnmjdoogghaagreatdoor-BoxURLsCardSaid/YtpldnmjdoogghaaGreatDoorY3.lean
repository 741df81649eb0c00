/- The logic L (of no program), and plain laws: texts put together; no conditions. -/
import Derived.Test.YtpldnmjdoogghaaGreatDoorY2
import Derived.RangeFuncRecord
import Derived.RecoverIn
import Derived.RangeFuncLeaves
import Derived.Below
import Derived.Lib.DecodeN
/-
  The logic L, part n3: code.
-/
namespace Go.L

/-! ## Code -/

inductive ACode where
  | skip
  | ops (l : List AOper)
  | seq (a b : ACode)
  | cond (c : AOpd) (a b : ACode)
  | block (id : Nat) (c : ACode)
  | loop (c : ACode)
  | exit (id : Nat)
  | ret
  | bad
  | alts (D : List Nat) (ls : List (List AOper))
  | orr (a b : ACode)
  | dfr (x : AOpd) (args : List AOpd)
  | recv (d : Option Nat) (ms : List (Option Nat × AOpd))
  | rngf (g : AOpd) (ps : List Nat) (assign body : ACode)
  deriving Inhabited

/-- What operations write. -/
def dstsOf (l : List AOper) : List Nat := l.filterMap fun o => o.dst

/-- The orders of a region, if they are few. -/
def ordersOf (ops : Array Oper) (la : List AOper) : ACode :=
  match fewB (fun i => la.getD i default) (depsOf ops) (ops.size + 1) (List.range ops.size) 24 with
  | none => .bad
  | some _ => .alts (dstsOf la) ((reps (fun i => la.getD i default) (depsOf ops) ops.size (List.range ops.size)).map fun l => l.map fun i => la.getD i default)

/-- A region that draws its order: one order, if all come to the same; else with the calls pure by contract, or all orders. -/
def drawC (P : Program) (n : Nat) (ops : Array Oper) : ACode :=
  match compIdx P n ops (List.range ops.size), compIdxP P n ops (List.range ops.size), compIdxA P n ops (List.range ops.size) with
  | some la, some lp, some lx => match ordersOf ops la with
    | .alts D [l] => .alts D [l]
    | x => match ordersOf ops lx with
      | .alts D [l] => .orr (.alts D [l]) (.orr (ordersOf ops lp) x)
      | _ => .orr (ordersOf ops lp) x
  | _, _, _ => .bad

/-- A region's last operation defers a call. -/
def dferOf (ops : Array Oper) : Option (AOpd × List AOpd) :=
  match ops[ops.size - 1]? with
  | some o => match o.op, o.guard, o.dst with
    | .defer c, none, none => match c.callee with
      | .value f => match copd f, copds c.args.toList with
        | some x, some l => some (x, l)
        | _, _ => none
      | _ => none
    | _, _, _ => none
  | none => none

def movOf (n : Nat) (o : Oper) : Option (Option Nat × AOpd) :=
  match o.op, o.guard with
  | .move x, none => match copd x, (match o.dst with | none => true | some d => Nat.blt d n) with
    | some y, true => some (o.dst, y)
    | _, _ => none
  | .assign x, none => match copd x, (match o.dst with | none => true | some d => Nat.blt d n) with
    | some y, true => some (o.dst, y)
    | _, _ => none
  | _, _ => none

def movsOf (n : Nat) : List Oper → Option (List (Option Nat × AOpd))
  | [] => some []
  | o :: r => match movOf n o, movsOf n r with
    | some m, some l => some (m :: l)
    | _, _ => none

/-- A region that recovers. -/
def recvOf (n : Nat) (ops : Array Oper) : Option ACode :=
  match ops.toList with
  | o :: r => match o.op, o.guard with
    | .call c, none => match c.callee, c.args.toList, (match o.dst with | none => true | some d => Nat.blt d n), movsOf n r with
      | .builtin .recover, [], true, some l => some (.recv o.dst l)
      | _, _, _, _ => none
    | _, _ => none
  | [] => none

/-- A region that is done in its order. -/
def regC (P : Program) (n : Nat) (ops : Array Oper) : ACode :=
  match dferOf ops with
  | some (x, l) => match compIdxU P n ops (List.range (ops.size - 1)) with
    | some la => .seq (.ops la) (.dfr x l)
    | none => .bad
  | none => match recvOf n ops with
    | some c => c
    | none => match compIdxU P n ops (List.range ops.size) with
      | some l => .ops l
      | none => .bad

/-- Nothing that is not taken within a round: no 'defer', no range over a function. -/
def nodfr : ACode → Bool
  | .seq a b => nodfr a && nodfr b
  | .cond _ a b => nodfr a && nodfr b
  | .block _ c => nodfr c
  | .loop c => nodfr c
  | .orr a b => nodfr a && nodfr b
  | .dfr _ _ => false
  | .rngf .. => false
  | _ => true

def compC (P : Program) (n : Nat) : Code → Option ACode
  | .skip => some .skip
  | .region _ ops false => some (regC P n ops)
  | .region _ ops true => match P.follows .mixedOrders && depsOk ops with
    | true => some (drawC P n ops)
    | false => some .bad
  | .seq a b => match compC P n a, compC P n b with
    | some x, some y => some (.seq x y)
    | _, _ => none
  | .cond c a b => match copd c, compC P n a, compC P n b with
    | some z, some x, some y => some (.cond z x y)
    | _, _, _ => none
  | .block id c => (compC P n c).map (.block id)
  | .loop c => (compC P n c).map .loop
  | .exit id => some (.exit id)
  | .ret => some .ret
  | .rangeFunc g ps a b => match copd g, compC P n a, compC P n b with
    | some x, some y, some z => match (nodfr y && nodfr z) && ps.toList.all (fun p => Nat.blt p n) with
      | true => some (.rngf x ps.toList y z)
      | false => some .bad
    | _, _, _ => none
  | _ => some .bad

/-- Each of these orders. -/
def LAlts (P : Program) (md : Bool) : List (List AOper) → (Env → Hp → Prop) → (AV → Env → Hp → Prop) → Env → Hp → Prop
  | [], _, _, _, _ => True
  | [l], K, X, e, h => LOps P md l K X e h
  | l :: r, K, X, e, h => LOps P md l K X e h ∧ LAlts P md r K X e h

theorem LAlts_get {P : Program} {md : Bool} : ∀ {ls : List (List AOper)} {K : Env → Hp → Prop} {X : AV → Env → Hp → Prop} {e : Env} {h : Hp}, LAlts P md ls K X e h → ∀ l ∈ ls, LOps P md l K X e h
  | [], _, _, _, _, _, l, hl => by cases hl
  | [m], _, _, _, _, hh, l, hl => by rw [List.mem_singleton.1 hl]; exact hh
  | m :: m2 :: r, _, _, _, _, hh, l, hl => by
    rcases List.mem_cons.1 hl with rfl | hl
    · exact hh.1
    · exact LAlts_get hh.2 l hl

/-- Codes of a range over a function, that the logic has so. -/
def LoopCodes (P : Program) (n : Nat) (ps : List Nat) (a b : ACode) (ca cb : Code) : Prop :=
  compC P n ca = some a ∧ compC P n cb = some b ∧ nodfr a = true ∧ nodfr b = true ∧ (ps.all fun p => Nat.blt p n) = true
/-- The record of such a loop. -/
def loopB (P : Program) (n : Nat) (t : Nat → AV) (ps : List Nat) (a b : ACode) (st : LSt) (pend : Option Jmp) : Blk := .loop n t ps (LoopCodes P n ps a b) st pend

/-- A loop's record, set anew (or dropped: 'none'). -/
def loopSet (j : Nat) (st' : LSt) (pend' : Option Jmp) (ok : LSt → Option Jmp → Prop) (next : Hp → Prop) (h : Hp) : Prop :=
  ∃ n t ps K st pend, h j = some (.loop n t ps K st pend) ∧ ok st pend ∧ orDel j next (h.set j (.loop n t ps K st' pend'))

/-- The function that was ranged over has returned. -/
def rngQ (j : Nat) (Q : Xit → Env → Hp → Prop) (e : Env) (h : Hp) : Prop :=
  ∃ pend, loopSet j .over pend (fun st pd => st ≠ .busy ∧ pd = pend) (match pend with
    | none => Q .normal e
    | some .ret => Q .ret e
    | some (.exit id) => Q (.exit id) e) h

def LCode (P : Program) (md : Bool) : ACode → (Xit → Env → Hp → Prop) → Env → Hp → Prop
  | .skip, Q, e, h => Q .normal e h
  | .ops l, Q, e, h => LOps P md l (fun e h => Q .normal e h) (fun v e h => Q (.pan v) e h) e h
  | .seq a b, Q, e, h => LCode P md a (andThen (fun e h => LCode P md b Q e h) Q) e h
  | .cond c a b, Q, e, h => match ev e c with
    | .bool t => bcase t true (LCode P md a Q e h) (LCode P md b Q e h)
    | _ => False
  | .block id c, Q, e, h => LCode P md c (inBlk id Q) e h
  | .loop c, Q, e, h => ∃ I : Nat → Env → Hp → Prop, (∃ n, I n e h) ∧ ∀ n e h, I n e h → LCode P md c (andThen (fun e h => ∃ m, m < n ∧ I m e h) Q) e h
  | .exit id, Q, e, h => Q (.exit id) e h
  | .ret, Q, e, h => Q .ret e h
  | .bad, _, _, _ => False
  | .orr a b, Q, e, h => LCode P md a Q e h ∨ LCode P md b Q e h
  | .dfr x args, Q, e, h => match ev e x with
    | .func (.func f) first cap => Q .normal ⟨e.n, e.t, .call (.func f) cap (first ++ args.map (ev e)) :: e.ds⟩ h
    | _ => False
  | .recv _ _, _, _, _ => False
  | .rngf g ps a b, Q, e, h => match ev e g with
    | .func (.func f) first cap => HasBody P f ∧ allocN md h fun i => allocN md (h.set i .dfr) fun j =>
        CallL P f (first ++ [.yld j] ++ cap) ((h.set i .dfr).set j (loopB P e.n e.t ps a b .ready none)) fun r h' => match r with
          | .ret _ => rngQ j Q ⟨e.n, e.t, .mark i :: e.ds⟩ h'
          | .pan v => Q (.pan v) ⟨e.n, e.t, .mark i :: e.ds⟩ h'
    | _ => False
  | .alts D ls, Q, e, h => LAlts P md ls (fun e h => Q .normal e h) (fun v _ h => ∀ g : Nat → AV, (∀ t, inL t D = false → g t = e.t t) → Q (.pan v) ⟨e.n, g, e.ds⟩ h) e h

section
variable {P : Program} {ro : Option Nat} {md : Bool}

/-- The same activation, but for what is written. -/
def AgrD (D : List Nat) (e0 e : Env) : Prop := e.n = e0.n ∧ e.ds = e0.ds ∧ ∀ t, inL t D = false → e.t t = e0.t t
theorem AgrD.put {D : List Nat} {e0 e : Env} (h : AgrD D e0 e) {d : Option Nat} (hd : ∀ x, d = some x → inL x D = true) (v : AV) : AgrD D e0 (e.put d v) := by
  cases d with
  | none => exact h
  | some d =>
    refine ⟨h.1, h.2.1, fun t ht => ?_⟩
    have hne : Nat.beq t d = false := by
      cases hh : Nat.beq t d with
      | false => rfl
      | true => rw [Nat.eq_of_beq_eq_true hh, hd d rfl] at ht; cases ht
    simp only [Env.put, hne, cond_false]
    exact h.2.2 t ht
theorem LOps_keep {D : List Nat} {e0 : Env} : ∀ {l : List AOper} {K : Env → Hp → Prop} {X : AV → Env → Hp → Prop} {e : Env} {h : Hp}, (∀ o ∈ l, ∀ d, o.dst = some d → inL d D = true) → AgrD D e0 e → LOps P md l K X e h →
    LOps P md l K (fun v e h => X v e h ∧ AgrD D e0 e) e h
  | [], K, X, e, h, _, hA, hl => hl
  | ⟨d, o, g⟩ :: r, K, X, e, h, hD, hA, hl => by
    have hd := hD _ List.mem_cons_self
    have hr : ∀ o ∈ r, ∀ d, o.dst = some d → inL d D = true := fun o ho => hD o (List.mem_cons_of_mem _ ho)
    have run : LOp P md o e h (fun v h' => fv md v fun v => LOps P md r K X (e.put d v) h') (fun v h' => X v e h') → LOp P md o e h (fun v h' => fv md v fun v => LOps P md r K (fun v e h => X v e h ∧ AgrD D e0 e) (e.put d v) h') (fun v h' => X v e h' ∧ AgrD D e0 e) := fun hl =>
      LOp_mono hl (fun v h' hk => by rw [fv_eq] at hk ⊢; exact LOps_keep hr (hA.put hd v) hk) (fun v h' hx => ⟨hx, hA⟩)
    have skip_ : LOps P md r K X (e.put d (.tup [])) h → LOps P md r K (fun v e h => X v e h ∧ AgrD D e0 e) (e.put d (.tup [])) h := fun hl => LOps_keep hr (hA.put hd _) hl
    cases g with
    | none => exact run hl
    | some g =>
      obtain ⟨t, b⟩ := g
      simp only [LOps, LOp1] at hl ⊢
      generalize e.t t = x at hl ⊢
      cases x <;> simp only at hl ⊢ <;> first | exact hl.elim | skip
      case bool c => cases c <;> cases b <;> simp only [bcase] at hl ⊢ <;> first | exact run hl | exact skip_ hl
      case tup vs => exact skip_ hl

theorem dsts_ok {la : List AOper} {i d : Nat} (h : (la.getD i default).dst = some d) : inL d (dstsOf la) = true := by
  rw [inL_iff]
  by_cases hi : i < la.length
  · refine List.mem_filterMap.2 ⟨la.getD i default, ?_, h⟩
    rw [List.getD_eq_getElem?_getD, List.getElem?_eq_getElem hi]
    exact List.getElem_mem hi
  · rw [List.getD_eq_getElem?_getD, List.getElem?_eq_none (by omega)] at h
    cases h

theorem orders_sound {n : Nat} {id : Nat} {ops : Array Oper} (hcond : P.follows .mixedOrders = true ∧ depsOk ops = true) {la : List AOper} (hla : OkL P ro md n ops (List.range ops.size) la)
    {Q : Xit → Env → Hp → Prop} {e : Env} {h : Hp} (hn : e.n = n) (hl : LCode P md (ordersOf ops la) Q e h) : CodeL P ro (.region id ops true) (fun y e' h' => Q y e' h' ∧ e'.n = n) e h := by
  unfold ordersOf at hl
  split at hl
  · exact hl.elim
  intro σ M w a hR hA
  refine wpIn_region_draw fun t => ?_
  simp only [Region.schedule, hcond.1, Bool.true_or, if_true]
  have hrest : restOf ops (Array.replicate ops.size false) = List.range ops.size := by
    unfold restOf
    rw [List.filter_eq_self]
    intro i hi
    simp [Array.getD_eq_getD_getElem?, Array.getElem?_replicate, List.mem_range.1 hi]
  have ht := topo_linear hcond.2 ops.size t (Array.replicate ops.size false) (by simp) (by rw [hrest]; simp)
  rw [hrest] at ht
  obtain ⟨l', hl', hk⟩ := reps_ok (P := P) (md := md) (A := fun i => la.getD i default) ops.size (List.range ops.size) _ (by simp) (closed_all ops) ht
  have hone := hk (fun e h => Q .normal e h) _ (fun v e h g hX => hX) e h (LAlts_get hl _ (List.mem_map.2 ⟨l', hl', rfl⟩))
  have hone := LOps_keep (D := dstsOf la) (e0 := e) (fun o ho d hd => by
    obtain ⟨i, _, rfl⟩ := List.mem_map.1 ho
    exact dsts_ok hd) ⟨rfl, rfl, fun _ _ => rfl⟩ hone
  have hidx := hla.order _ (fun i hi => List.mem_range.1 (ht.sub i hi))
  refine LOps_sound _ _ hidx e h σ M w.drew a hn hR.drew hA ?_ ?_ hone
  · intro σ' M' w' h' e' a' hE hR' hA' hn' hK; exact ⟨σ', M', h', e', .normal, Ext.drew.trans hE, hR', hA', trivial, hK, hn'⟩
  · intro σ' M' w' h' e' a' v v' hE hR' hA' hn' hv hX; exact ⟨σ', M', h', e', .pan v, Ext.drew.trans hE, hR', hA', ⟨v', rfl, hv⟩, (by have := hX.1 e'.t hX.2.2.2; rw [← hX.2.1, ← hX.2.2.1] at this; exact this), hn'⟩

theorem draw_sound {n : Nat} {id : Nat} {ops : Array Oper} (hcond : P.follows .mixedOrders = true ∧ depsOk ops = true) {Q : Xit → Env → Hp → Prop} {e : Env} {h : Hp} (hn : e.n = n) (hl : LCode P md (drawC P n ops) Q e h) :
    CodeL P ro (.region id ops true) (fun y e' h' => Q y e' h' ∧ e'.n = n) e h := by
  unfold drawC at hl
  split at hl
  · rename_i la lp lx hla hlp hlx
    have h1 := okL_of (ro := ro) (md := md) _ _ hla
    have h2 := okLP_of (ro := ro) (md := md) _ _ hlp
    have h3 := okLA_of (ro := ro) (md := md) _ _ hlx
    split at hl
    · rename_i l heq; exact orders_sound hcond h1 hn (by rw [heq]; exact hl)
    · split at hl
      · rename_i l heq
        rcases hl with hl | hl | hl
        · exact orders_sound hcond h3 hn (by rw [heq]; exact hl)
        · exact orders_sound hcond h2 hn hl
        · exact orders_sound hcond h1 hn hl
      · rcases hl with hl | hl
        · exact orders_sound hcond h2 hn hl
        · exact orders_sound hcond h1 hn hl
  · exact hl.elim

theorem reg_sound {n : Nat} {id : Nat} {ops : Array Oper} {Q : Xit → Env → Hp → Prop} {e : Env} {h : Hp} (hro : ro = none ∨ nodfr (regC P n ops) = true) (hn : e.n = n) (hl : LCode P md (regC P n ops) Q e h) : CodeL P ro (.region id ops false) (fun y e' h' => Q y e' h' ∧ e'.n = n) e h := by
  unfold regC at hl hro
  split at hl
  · rename_i x l hd
    rw [hd] at hro
    split at hl
    · rename_i la hla
      rw [hla] at hro
      have hro : ro = none := hro.elim (fun h => h) fun h => by simp [nodfr] at h
      subst hro
      intro σ M w a hR hA
      refine wpIn_region ?_
      unfold dferOf at hd
      split at hd <;> first | cases hd | skip
      rename_i o ho
      split at hd <;> first | cases hd | skip
      rename_i c hop hg hdst
      split at hd <;> first | cases hd | skip
      rename_i f hcal
      split at hd <;> cases hd
      rename_i hx hargs
      have hsz : ops.size - 1 < ops.size := (Array.getElem?_eq_some_iff.1 ho).1
      have hr : List.range ops.size = List.range (ops.size - 1) ++ [ops.size - 1] := by
        have : ops.size = (ops.size - 1) + 1 := by omega
        rw [this, List.range_succ]; simp
      rw [hr]
      refine LOps_sound2 _ _ _ (okLU_of (md := md) _ _ hla) e h σ M w a hn hR hA ?_ ?_ hl
      · intro σ' M' w' h' e' a' hE hR' hA' hn' hK
        simp only [andThen, LCode] at hK
        split at hK <;> first | exact hK.elim | skip
        rename_i g first cap hv
        have h1 := copd_ok hx hA'
        rw [hv] at h1
        obtain ⟨f', c', e1, hfi, hca, _⟩ := h1.func_inv
        have h2 := copds_ok hargs hA'
        have h3 : (c.args.toList.map a'.eval).toArray = c.args.map a'.eval := by rw [← Array.toList_map, Array.toArray_toList]
        rw [h3] at h2
        simp only [wpOpsIn, ho]
        have hw : Region.wanted o (yielded ops a'.tmps) = true := by simp [Region.wanted, hg]
        rw [if_pos hw]
        have hrun : (execOp a'.eval o).run P w' = .ok (.defer { target := .fn (.func g) c', args := f' ++ c.args.map a'.eval }) w' := by
          simp [execOp, hop, resolve, hcal, Deferred.ofValue, e1]
        refine ⟨fun _ _ => trivial, ?_⟩
        show Oper.uponIn _ _ _ _ _ _ _ ((o.semAt none a'.eval).run P w')
        rw [Oper.semAt_none, hrun, Oper.uponIn_defer, hdst]
        refine ⟨σ', M', h', ⟨e'.n, e'.t, .call (.func g) cap (first ++ l.map (ev e')) :: e'.ds⟩, .normal, hE, hR', ⟨hA'.n, hA'.t, by simp [Act.put, hA'.dl], fun j y hj => ?_⟩, trivial, hK, hn'⟩
        cases j with
        | zero => simp at hj; subst hj; exact ⟨_, rfl, ⟨c', rfl, hca⟩, hfi.append h2⟩
        | succ j => exact hA'.d j y (by simpa using hj)
      · intro σ' M' w' h' e' a' v v' hE hR' hA' hn' hv hX; exact ⟨σ', M', h', e', .pan v, hE, hR', hA', ⟨v', rfl, hv⟩, hX, hn'⟩
    · exact hl.elim
  · split at hl
    · rename_i c hc
      unfold recvOf at hc
      split at hc <;> first | cases hc | skip
      split at hc <;> first | cases hc | skip
      split at hc <;> cases hc
      exact hl.elim
    · split at hl
      · rename_i la hla
        intro σ M w a hR hA
        refine wpIn_region (LOps_sound _ _ (okLU_of (md := md) _ _ hla) e h σ M w a hn hR hA ?_ ?_ hl)
        · intro σ' M' w' h' e' a' hE hR' hA' hn' hK; exact ⟨σ', M', h', e', .normal, hE, hR', hA', trivial, hK, hn'⟩
        · intro σ' M' w' h' e' a' v v' hE hR' hA' hn' hv hX; exact ⟨σ', M', h', e', .pan v, hE, hR', hA', ⟨v', rfl, hv⟩, hX, hn'⟩
      · exact hl.elim

theorem rngf_sound {g : Operand} {ps : Array Tmp} {ca cb : Code} {x : AOpd} {a b : ACode} {Q : Xit → Env → Hp → Prop} {e : Env} {h : Hp} (hx : copd g = some x) (ha : compC P e.n ca = some a) (hb : compC P e.n cb = some b)
    (hna : nodfr a = true) (hnb : nodfr b = true) (hps : (ps.toList.all fun p => Nat.blt p e.n) = true) (hl : LCode P md (.rngf x ps.toList a b) Q e h) :
    CodeL P none (.rangeFunc g ps ca cb) (fun y e' h' => Q y e' h' ∧ e'.n = e.n) e h := by
  simp only [LCode] at hl
  split at hl <;> first | exact hl.elim | skip
  rename_i f first cap hv
  obtain ⟨⟨fn, hf, hbd, hnn⟩, hl⟩ := hl
  intro σ M w act hR hA
  have h1 := copd_ok hx hA
  rw [hv] at h1
  obtain ⟨f', c', e1, hfi, hca, _⟩ := h1.func_inv
  refine wpIn_rangeFunc fun fid _ => ?_
  -- the two new blocks
  obtain ⟨i, hi, hl⟩ := hR.fresh hl
  let w1 := w.alloc (.deferred (some []))
  have hR1 : R P (σ.set i ⟨w.heap.size, 0, 0, 0⟩) M (h.set i .dfr) w1 := hR.alloc hi rfl (by simp [BlkR, w1, ← World.alloc_eq])
  have hE1 : Ext σ M w (σ.set i ⟨w.heap.size, 0, 0, 0⟩) M w1 := Ext.alloc hi
  obtain ⟨j, hj, hl⟩ := hR1.fresh hl
  have hsz1 : w1.heap.size = w.heap.size + 1 := by simp [w1]
  let rec0 : Loop := { state := .ready, pending := none, fn := fid, tmps := act.tmps, params := ps, assign := ca, body := cb, defers := w.heap.size }
  let w2 := w1.alloc (.loop rec0)
  let σ2 := (σ.set i ⟨w.heap.size, 0, 0, 0⟩).set j ⟨w1.heap.size, 0, 0, 0⟩
  have hE2 : Ext (σ.set i ⟨w.heap.size, 0, 0, 0⟩) M w1 σ2 M w2 := Ext.alloc hj
  have hA2 : ActR σ2 M e act := hA.mono (hE1.trans hE2).s (hE1.trans hE2).m
  have hR2 : R P σ2 M ((h.set i .dfr).set j (loopB P e.n e.t ps.toList a b .ready none)) w2 := by
    refine hR1.alloc hj rfl ?_
    refine ⟨rec0, by simp [w2, ← World.alloc_eq], trivial, trivial, rfl, ⟨ha, hb, hna, hnb, hps⟩, hA.n, fun x => ?_⟩
    exact hA2.t x
  have hσj : σ2 j = some ⟨w1.heap.size, 0, 0, 0⟩ := Emb.set_same _ _ _
  have hσi : σ2 i = some ⟨w.heap.size, 0, 0, 0⟩ := hE2.s _ _ (Emb.set_same _ _ _)
  have hE : Ext σ M w σ2 M w2 := hE1.trans hE2
  refine ⟨w.heap.size + 1, [{ target := .collected w.heap.size, args := #[] }], w2, { target := .fn (.func f) c', args := f' ++ #[.func (.yield (w.heap.size + 1)) #[] #[]] }, w2, f,
    f' ++ #[.func (.yield (w.heap.size + 1)) #[] #[]] ++ c', w2, run_enterLoop_outer _ _ _ _ _, ?_, fun _ _ => trivial, ?_, fun h => by simp [fw, Fence.wide] at h, ?_⟩
  · have e2 : ∀ v, act.eval (.const v) = v := fun v => rfl
    simp [rangeCall, resolve, Deferred.ofValue, e1, e2]
  · have hb' : fn.body.isNone = false := by cases hh : fn.body <;> simp_all
    have hc : ∀ xs, (callFunc f xs).run P w2 = .ok (.enter f xs) w2 := fun xs => by
      have hp : (program).run P w2 = .ok P w2 := rfl
      simp only [callFunc, Sem.run_bind, hp, Result.andThen, hf, hnn, hb', Bool.false_eq_true, if_false, Sem.run_pure]
    simp [invoke, hc]
  · have hy : VRs σ2 M [.yld j] #[.func (.yield (w.heap.size + 1)) #[] #[]] := by
      have := VR.yld (σ := σ2) (M := M) j _ hσj
      rw [hsz1] at this
      exact VRs.cons this .nil
    have hargs : VRs σ2 M (first ++ [.yld j] ++ cap) (f' ++ #[.func (.yield (w.heap.size + 1)) #[] #[]] ++ c') := ((hfi.mono hE.s hE.m).append hy).append (hca.mono hE.s hE.m)
    refine (hl.run σ2 M w2 _ hR2 hargs).mono fun e' w' ⟨σ', M', h', hE', hR', hr⟩ => ?_
    have hA' : ActR σ' M' ⟨e.n, e.t, .mark i :: e.ds⟩ { act with defers := [{ target := .collected w.heap.size, args := #[] }] ++ act.defers } := by
      have h2 := hA2.mono hE'.s hE'.m
      refine ⟨h2.n, h2.t, by simp [h2.dl], fun k y hk => ?_⟩
      cases k with
      | zero => simp at hk; subst hk; exact ⟨_, rfl, _, hE'.s _ _ hσi, rfl⟩
      | succ k => exact h2.d k y (by simpa using hk)
    cases e' with
    | outgrown => exact hr.elim
    | panicked ch =>
      obtain ⟨v, v', rfl, hv, hq⟩ := hr
      exact ⟨σ', M', h', _, .pan v, hE.trans hE', hR', hA', ⟨v', rfl, hv⟩, hq, rfl⟩
    | returned v' =>
      obtain ⟨v, _, pend, n2, t2, ps2, K2, st, pd, hj', ⟨hst, hpd⟩, hq⟩ := hr
      rw [hpd] at hj'
      have hLj := hE'.s _ _ hσj
      obtain ⟨r, g1, g2, g3, g4, g5, g6, g7⟩ := hR'.blk j _ _ hj' hLj
      rw [hsz1] at g1
      have hlt := hR'.placed hj' hLj
      rw [hsz1] at hlt
      have hend : (Instr.endLoop (w.heap.size + 1)).run P w' = .ok r.pending { w' with heap := w'.heap.setIfInBounds (w.heap.size + 1) (.loop { r with state := .exhausted }) } := by
        have hgo : (getObj (w.heap.size + 1)).run P w' = .ok (.loop r) w' := by simp [getObj, Sem.run, g1]
        have hb : (r.state == .busy) = false := by
          cases hs : r.state <;> first | rfl | skip
          rw [hs] at g2
          cases st <;> simp only [LStR] at g2
          exact absurd rfl hst
        have hset : (setObj (w.heap.size + 1) (.loop { r with state := .exhausted })).run P w' = .ok () { w' with heap := w'.heap.setIfInBounds (w.heap.size + 1) (.loop { r with state := .exhausted }) } := by simp [setObj, Sem.run, g1]
        simp only [Instr.endLoop, Instr.getLoop, Sem.run_bind, hgo, Result.andThen, Sem.run_pure, hb, Bool.false_eq_true, if_false, hset]
      obtain ⟨k1, k2⟩ := hR'.setBlk (P := P) hj' hLj (ob := .loop { r with state := .exhausted }) (b' := .loop n2 t2 ps2 K2 .over pend)
        ⟨{ r with state := .exhausted }, by rw [hsz1]; exact set_at (L := ⟨w.heap.size + 1, 0, 0, 0⟩) hlt _, trivial, g3, g4, g5, g6, g7⟩
      rw [hsz1] at k1 k2
      have hEE := (hE.trans hE').trans k1
      obtain ⟨w4, hw4⟩ : ∃ w4, w4 = ({ w' with heap := w'.heap.setIfInBounds (w.heap.size + 1) (.loop { r with state := .exhausted }) } : World) := ⟨_, rfl⟩
      rw [← hw4] at hend
      have k2 : R P σ' M' (h'.set j (.loop n2 t2 ps2 K2 .over pend)) w4 := by rw [hw4]; exact k2
      have hEE : Ext σ M w σ' M' w4 := by rw [hw4]; exact hEE
      clear hw4
      refine ⟨r.pending, w4, hend, ?_⟩
      obtain ⟨h4, k3, hq⟩ : ∃ h4, R P σ' M' h4 w4 ∧ (match pend with
          | none => Q .normal ⟨e.n, e.t, .mark i :: e.ds⟩
          | some .ret => Q .ret ⟨e.n, e.t, .mark i :: e.ds⟩
          | some (.exit id) => Q (.exit id) ⟨e.n, e.t, .mark i :: e.ds⟩) h4 := by
        rcases hq with hq | hq
        · exact ⟨_, k2, hq⟩
        · exact ⟨_, k2.del j, hq⟩
      cases pend with
      | none =>
        cases hp : r.pending with
        | none => exact ⟨σ', M', h4, _, .normal, hEE, k3, hA', trivial, hq, rfl⟩
        | some c => rw [hp] at g3; exact g3.elim
      | some jm =>
        cases jm with
        | ret =>
          cases hp : r.pending with
          | none => rw [hp] at g3; exact g3.elim
          | some c =>
            rw [hp] at g3
            cases c <;> simp only [JmpR] at g3
            exact wpIn_ret ⟨σ', M', h4, _, .ret, hEE, k3, hA', trivial, hq, rfl⟩
        | exit id =>
          cases hp : r.pending with
          | none => rw [hp] at g3; exact g3.elim
          | some c =>
            rw [hp] at g3
            cases c <;> simp only [JmpR] at g3
            subst g3
            exact wpIn_exit ⟨σ', M', h4, _, .exit id, hEE, k3, hA', rfl, hq, rfl⟩

theorem LCode_sound {n : Nat} : ∀ (c : Code) (ac : ACode), compC P n c = some ac → (ro = none ∨ nodfr ac = true) → ∀ (Q : Xit → Env → Hp → Prop) (e : Env) (h : Hp), e.n = n → LCode P md ac Q e h → CodeL P ro c (fun y e' h' => Q y e' h' ∧ e'.n = n) e h := by
  intro c
  induction c with
  | skip => intro ac hc hro Q e h hn hl; cases hc; exact .skip ⟨hl, hn⟩
  | region id ops draw =>
    intro ac hc hro Q e h hn hl
    cases draw with
    | true =>
      simp only [compC] at hc
      split at hc <;> cases hc
      · rename_i hcond
        simp only [Bool.and_eq_true] at hcond
        exact draw_sound hcond hn hl
      · exact hl.elim
    | false => simp only [compC] at hc; cases hc; exact reg_sound hro hn hl
  | seq a b iha ihb =>
    intro ac hc hro Q e h hn hl
    simp only [compC] at hc
    split at hc <;> first | cases hc | skip
    rename_i x y hx hy
    refine .seq ((iha x hx (hro.imp_right fun h => by simp only [nodfr, Bool.and_eq_true] at h; exact h.1) _ e h hn hl).mono ?_)
    rintro z e' h' ⟨hz, hn'⟩
    cases z with
    | normal => exact ihb y hy (hro.imp_right fun h => by simp only [nodfr, Bool.and_eq_true] at h; exact h.2) Q e' h' hn' hz
    | exit i => exact ⟨hz, hn'⟩
    | ret => exact ⟨hz, hn'⟩
    | pan v => exact ⟨hz, hn'⟩
  | cond c a b iha ihb =>
    intro ac hc hro Q e h hn hl
    simp only [compC] at hc
    split at hc <;> first | cases hc | skip
    rename_i z x y hz hx hy
    simp only [LCode] at hl
    split at hl <;> first | exact hl.elim | skip
    rename_i t ht
    intro σ M w ac hR hA
    have h1 := copd_ok hz hA
    rw [ht] at h1
    refine wpIn_cond (t := t) h1.bool_inv ?_
    cases t with
    | true => exact iha x hx (hro.imp_right fun h => by simp only [nodfr, Bool.and_eq_true] at h; exact h.1) Q e h hn hl σ M w ac hR hA
    | false => exact ihb y hy (hro.imp_right fun h => by simp only [nodfr, Bool.and_eq_true] at h; exact h.2) Q e h hn hl σ M w ac hR hA
  | block id c ih =>
    intro ac hc hro Q e h hn hl
    obtain ⟨x, hx, rfl⟩ := Option.map_some_inv hc
    refine .block ((ih x hx (hro.imp_right fun h => h) _ e h hn hl).mono ?_)
    rintro z e' h' ⟨hz, hn'⟩
    cases z with
    | exit i =>
      simp only [inBlk] at hz ⊢
      split at hz
      · rename_i hi; rw [if_pos hi]; exact ⟨hz, hn'⟩
      · rename_i hi; rw [if_neg hi]; exact ⟨hz, hn'⟩
    | normal => exact ⟨hz, hn'⟩
    | ret => exact ⟨hz, hn'⟩
    | pan v => exact ⟨hz, hn'⟩
  | loop c ih =>
    intro ac hc hro Q e h hn hl
    obtain ⟨x, hx, rfl⟩ := Option.map_some_inv hc
    obtain ⟨I, ⟨m, hm⟩, hround⟩ := hl
    refine .loop (fun m e h => I m e h ∧ e.n = n) ⟨m, hm, hn⟩ fun m e h ⟨hI, hn⟩ => (ih x hx (hro.imp_right fun h => h) _ e h hn (hround m e h hI)).mono ?_
    rintro z e' h' ⟨hz, hn'⟩
    cases z with
    | normal => obtain ⟨q, hq, hI'⟩ := hz; exact ⟨q, hq, hI', hn'⟩
    | exit i => exact ⟨hz, hn'⟩
    | ret => exact ⟨hz, hn'⟩
    | pan v => exact ⟨hz, hn'⟩
  | exit id => intro ac hc hro Q e h hn hl; cases hc; exact .exit ⟨hl, hn⟩
  | ret => intro ac hc hro Q e h hn hl; cases hc; exact .ret ⟨hl, hn⟩
  | rangeFunc f ps a b iha ihb =>
    intro ac hc hro Q e h hn hl
    simp only [compC] at hc
    split at hc <;> first | cases hc | skip
    rename_i x y z hx hy hz
    split at hc <;> cases hc
    · rename_i hcond
      simp only [Bool.and_eq_true] at hcond
      obtain ⟨⟨hny, hnz⟩, hps⟩ := hcond
      have hro : ro = none := hro.elim (fun h => h) fun h => by simp [nodfr] at h
      subst hro
      subst hn
      exact rngf_sound hx hy hz hny hnz hps hl
    · exact hl.elim
  | scope c ih => intro ac hc hro Q e h hn hl; cases hc; exact hl.elim
  | label l => intro ac hc hro Q e h hn hl; cases hc; exact hl.elim
  | goto l => intro ac hc hro Q e h hn hl; cases hc; exact hl.elim
  | refuse w => intro ac hc hro Q e h hn hl; cases hc; exact hl.elim

/-- Yield's arguments, in the loop's parameters. -/
def putsP (e : Env) : List Nat → List AV → Env
  | p :: ps, v :: vs => putsP (e.put (some p) v) ps vs
  | _, _ => e

/-- Behind a round's body. -/
def roundB (i : Nat) (Q : AV → Hp → Prop) : Xit → Env → Hp → Prop
  | .normal, _, h => loopSet i .ready none (fun _ _ => True) (Q (.bool true)) h
  | .ret, _, h => loopSet i .done (some .ret) (fun _ _ => True) (Q (.bool false)) h
  | .exit id, _, h => loopSet i .done (some (.exit id)) (fun _ _ => True) (Q (.bool false)) h
  | .pan _, _, _ => False
/-- Behind a round's assignments. -/
def roundA (P : Program) (md : Bool) (i : Nat) (b : ACode) (Q : AV → Hp → Prop) : Xit → Env → Hp → Prop
  | .normal, e, h => ∃ n t ps K pend, h i = some (.loop n t ps K .ready pend) ∧ LCode P md b (roundB i Q) e (h.set i (.loop n t ps K .busy pend))
  | _, _, _ => False

theorem putsP_n : ∀ (ps : List Nat) (vs : List AV) (e : Env), (putsP e ps vs).n = e.n := by
  intro ps
  induction ps with
  | nil => intro vs e; simp [putsP]
  | cons p ps ih => intro vs e; cases vs with
    | nil => simp [putsP]
    | cons v vs => simp only [putsP, ih]; rfl

theorem putsP_ok {σ : Emb} {M : Mem} : ∀ (ps : List Nat) (vs : List AV) (vs' : List Value) (e : Env) (act : Act), ActR σ M e act → VRs σ M vs vs'.toArray → (ps.all fun p => Nat.blt p e.n) = true →
    ActR σ M (putsP e ps vs) { act with tmps := (ps.zip vs').foldl (fun tmps x => tmps.setIfInBounds x.1 x.2) act.tmps } := by
  intro ps
  induction ps with
  | nil => intro vs vs' e act hA _ _; simpa [putsP] using hA
  | cons p ps ih =>
    intro vs vs' e act hA hV hps
    have hlen := hV.1
    simp at hlen
    simp only [List.all_cons, Bool.and_eq_true] at hps
    cases vs with
    | nil => cases vs' with
      | nil => simpa [putsP] using hA
      | cons _ _ => simp at hlen
    | cons v vs =>
      cases vs' with
      | nil => simp at hlen
      | cons v' vs' =>
        obtain ⟨x, h1, h2⟩ := hV.2 0 v rfl
        simp at h1; subst h1
        have hV' : VRs σ M vs vs'.toArray := ⟨by simp at hlen ⊢; omega, fun j y hj => by
          obtain ⟨z, q1, q2⟩ := hV.2 (j + 1) y (by simpa using hj)
          exact ⟨z, by simpa using q1, q2⟩⟩
        have := ih vs vs' (e.put (some p) v) (act.put (some p) v') (hA.put (fun d hd => by cases hd; exact Nat.le_of_ble_eq_true hps.1) h2) hV' hps.2
        simpa [putsP, Act.put] using this

/-- A round: its assignments, its body. -/
theorem RoundL.of {i n : Nat} {t : Nat → AV} {ps : List Nat} {a b : ACode} {pend : Option Jmp} {args : List AV} {h : Hp} {Q : AV → Hp → Prop} (hi : h i = some (loopB P n t ps a b .ready pend)) (hlen : args.length = ps.length)
    (hl : LCode P md a (roundA P md i b Q) (putsP ⟨n, t, []⟩ ps args) h) : RoundL P i args h Q := by
  constructor
  intro σ M w args' L hR hargs hL
  obtain ⟨r, g1, g2, g3, g4, ⟨ga, gb, gna, gnb, gps⟩, g6, g7⟩ := hR.blk i _ L hi hL
  have hsz : args'.size = r.params.size := by rw [hargs.1, hlen, ← g4]; simp
  refine ⟨_, _, _, _, run_yield g1 hsz, roundIn_of_wpIn trivial ?_⟩
  have hA0 : ActR σ M ⟨n, t, []⟩ { tmps := r.tmps, defers := [] } := ⟨g6, g7, rfl, fun j x hj => by simp at hj⟩
  have hA1 := putsP_ok ps args args'.toList _ _ hA0 (by rw [Array.toArray_toList]; exact hargs) gps
  have hA1 : ActR σ M (putsP ⟨n, t, []⟩ ps args) { tmps := (r.params.zip args').foldl (fun tmps (x : Tmp × Value) => tmps.setIfInBounds x.1 x.2) r.tmps, defers := [] } := by
    rw [← Array.foldl_toList, Array.toList_zip, g4]; exact hA1
  have hnn : (putsP ⟨n, t, []⟩ ps args).n = n := putsP_n _ _ _
  refine wpIn_mono (LCode_sound (ro := some L.b) _ _ ga (.inr gna) _ _ _ hnn hl σ M w _ hR hA1) ?_
  rintro x a1 w1 ⟨σ1, M1, h1, e1, y, hE1, hR1, hAct1, hX1, hQ1, hn1⟩
  cases y with
  | exit _ => exact hQ1.elim
  | ret => exact hQ1.elim
  | pan _ => exact hQ1.elim
  | normal =>
    cases x <;> simp only [XitR] at hX1
    obtain ⟨n1, t1, ps1, K1, pend1, hi1, hl1⟩ := hQ1
    have hL1 := hE1.s _ _ hL
    obtain ⟨r1, k1, k2, k3, k4, k5, k6, k7⟩ := hR1.blk i _ L hi1 hL1
    have hlt1 := hR1.placed hi1 hL1
    have hst : r1.state = .ready := by cases hs : r1.state <;> rw [hs] at k2 <;> first | rfl | exact k2.elim
    have hbeg : (Instr.beginRound L.b).run P w1 = .ok () { w1 with heap := w1.heap.setIfInBounds L.b (.loop { r1 with state := .busy }) } := by
      have hgo : (getObj L.b).run P w1 = .ok (.loop r1) w1 := by simp [getObj, Sem.run, k1]
      have hset : (setObj L.b (.loop { r1 with state := .busy })).run P w1 = .ok () { w1 with heap := w1.heap.setIfInBounds L.b (.loop { r1 with state := .busy }) } := by simp [setObj, Sem.run, k1]
      simp only [Instr.beginRound, Instr.getLoop, Sem.run_bind, hgo, Result.andThen, Sem.run_pure, hset, hst]
    obtain ⟨m1, m2⟩ := hR1.setBlk (P := P) hi1 hL1 (ob := .loop { r1 with state := .busy }) (b' := .loop n1 t1 ps1 K1 .busy pend1) ⟨{ r1 with state := .busy }, set_at hlt1 _, trivial, k3, k4, k5, k6, k7⟩
    obtain ⟨w2, hw2⟩ : ∃ w2, w2 = ({ w1 with heap := w1.heap.setIfInBounds L.b (.loop { r1 with state := .busy }) } : World) := ⟨_, rfl⟩
    rw [← hw2] at hbeg m1 m2
    clear hw2
    refine ⟨w2, hbeg, wpIn_mono (LCode_sound (ro := some L.b) _ _ gb (.inr gnb) _ _ _ hn1 hl1 σ1 M1 w2 _ m2 hAct1) ?_⟩
    rintro x a3 w3 ⟨σ3, M3, h3, e3, y, hE3, hR3, hAct3, hX3, hQ3, hn3⟩
    have hL3 := hE3.s _ _ hL1
    have hE := (hE1.trans m1).trans hE3
    -- the round's end
    have fin : ∀ (jmp : Option Code) (st' : LSt) (pd' : Option Jmp), JmpR pd' jmp → LStR st' (if jmp.isNone then .ready else .done) → loopSet i st' pd' (fun _ _ => True) (Q (.bool jmp.isNone)) h3 →
        ∃ v w', (Instr.endRound L.b jmp).run P w3 = .ok v w' ∧ ∃ σ' M' h' v1 v', Ext σ M w σ' M' w' ∧ R P σ' M' h' w' ∧ Ending.returned v = .returned v' ∧ VR σ' M' v1 v' ∧ Q v1 h' := by
      rintro jmp st' pd' hj hs ⟨n3, t3, ps3, K3, st3, pd3, hi3, _, hq⟩
      obtain ⟨r3, q1, q2, q3, q4, q5, q6, q7⟩ := hR3.blk i _ L hi3 hL3
      have hlt3 := hR3.placed hi3 hL3
      let r4 : Loop := { r3 with state := if jmp.isNone then .ready else .done, pending := jmp }
      have hend : (Instr.endRound L.b jmp).run P w3 = .ok (.bool jmp.isNone) { w3 with heap := w3.heap.setIfInBounds L.b (.loop r4) } := by
        have hgo : (getObj L.b).run P w3 = .ok (.loop r3) w3 := by simp [getObj, Sem.run, q1]
        have hset : (setObj L.b (.loop r4)).run P w3 = .ok () { w3 with heap := w3.heap.setIfInBounds L.b (.loop r4) } := by simp [setObj, Sem.run, q1]
        simp only [Instr.endRound, Instr.getLoop, Sem.run_bind, hgo, Result.andThen, Sem.run_pure]
        have hset := hset; simp only [r4] at hset; rw [hset]
      obtain ⟨u1, u2⟩ := hR3.setBlk (P := P) hi3 hL3 (ob := .loop r4) (b' := .loop n3 t3 ps3 K3 st' pd') ⟨r4, set_at hlt3 _, hs, hj, q4, q5, q6, q7⟩
      rcases hq with hq | hq
      · exact ⟨_, _, hend, σ3, M3, _, _, _, hE.trans u1, u2, rfl, .bool _, hq⟩
      · exact ⟨_, _, hend, σ3, M3, _, _, _, hE.trans u1, u2.del i, rfl, .bool _, hq⟩
    cases y with
    | normal =>
      cases x <;> simp only [XitR] at hX3
      exact fin none .ready none trivial trivial hQ3
    | ret =>
      cases x <;> simp only [XitR] at hX3
      exact fin (some .ret) .done (some .ret) trivial trivial hQ3
    | exit id =>
      cases x <;> simp only [XitR] at hX3
      subst hX3
      exact fin (some (.exit id)) .done (some (.exit id)) rfl trivial hQ3
    | pan v => exact hQ3.elim
end
end Go.L

/-
  The logic L, part o: functions; how a contract is used.
-/
namespace Go.L

inductive ARes where
  | tmp (t : Nat)
  | cell1 (t : Nat)
  | cella (t n : Nat)

def compR (P : Program) : ResultVar → Option ARes
  | .tmp t => some (.tmp t)
  | .cell t ty => match P.underlying ty, P.info? ty with
    | some d, some i => some (if isAggD d then .cella t i.size else .cell1 t)
    | _, _ => none

def compRs (P : Program) : List ResultVar → Option (List ARes)
  | [] => some []
  | r :: l => match compR P r, compRs P l with
    | some x, some y => some (x :: y)
    | _, _ => none

/-- The results, read. -/
def resL (e : Env) (h : Hp) : List ARes → (List AV → Prop) → Prop
  | [], N => N []
  | .tmp t :: r, N => resL e h r fun l => N (e.t t :: l)
  | .cell1 t :: r, N => LN (.ld1 (.t t)) e h fun v => resL e h r fun l => N (v :: l)
  | .cella t n :: r, N => LN (.lda n (.t t)) e h fun v => resL e h r fun l => N (v :: l)

def oneV : List AV → AV
  | [v] => v
  | l => .tup l

/-- The first activation: the arguments. -/
def env0 (n : Nat) (args : List AV) : Env := ⟨n, fun x => (args[x]?).getD (.tup []), []⟩

/-- What is asked at a function's end. -/
def EndQ (rs : List ARes) (Q : Res → Hp → Prop) : Xit → Env → Hp → Prop
  | .pan v, e, h => e.ds = [] ∧ Q (.pan v) h
  | .exit _, _, _ => False
  | _, e, h => e.ds = [] ∧ resL e h rs fun l => Q (.ret (oneV l)) h

section
variable {P : Program} {md : Bool}

/-- A result, read. -/
def rdRes (T : Array Value) : ResultVar → Sem Value
  | .tmp t => pure (T.getD t undef)
  | .cell a t => do loadVar t (← asAddr (T.getD a undef))

theorem results_eq (fn : Func) (T : Array Value) : results fn T = (do let vs ← fn.results.mapM (rdRes T); pure (if h : vs.size = 1 then vs[0] else .tuple vs)) := by
  rfl

theorem resL_ok {σ : Emb} {M : Mem} {w : World} {h : Hp} {e : Env} {a : Act} (hR : R P σ M h w) (hA : ActR σ M e a) : ∀ (l : List ResultVar) (rs : List ARes) (N : List AV → Prop), compRs P l = some rs → resL e h rs N →
    ∃ vs' vs, (l.mapM (rdRes a.tmps)).run P w = .ok vs' w ∧ VRs σ M vs vs'.toArray ∧ N vs := by
  intro l
  induction l with
  | nil => intro rs N hc hl; cases hc; exact ⟨[], [], by simp, .nil, hl⟩
  | cons r l ih =>
    intro rs N hc hl
    unfold compRs at hc
    split at hc <;> first | cases hc | skip
    rename_i x y hx hy
    -- one result
    have step : ∀ (v : AV) (v' : Value), VR σ M v v' → (rdRes a.tmps r).run P w = .ok v' w → resL e h y (fun l => N (v :: l)) →
        ∃ vs' vs, ((r :: l).mapM (rdRes a.tmps)).run P w = .ok vs' w ∧ VRs σ M vs vs'.toArray ∧ N vs := by
      intro v v' hv hrun hl
      obtain ⟨vs', vs, h1, h2, h3⟩ := ih y _ hy hl
      refine ⟨v' :: vs', v :: vs, ?_, VRs.cons hv h2, h3⟩
      simp only [List.mapM_cons, Sem.run_bind, hrun, Result.andThen, h1, Sem.run_pure]
    have ld : ∀ {b ty : Nat} {d : TypeDesc} {i : TypeInfo} {ao : AOp}, P.underlying ty = some d → P.info? ty = some i → r = .cell b ty →
        ((isAggD d = true ∧ ao = .lda i.size (.t b)) ∨ (isAggD d = false ∧ ao = .ld1 (.t b))) → LN ao e h (fun v => resL e h y fun l => N (v :: l)) →
        ∃ vs' vs, ((r :: l).mapM (rdRes a.tmps)).run P w = .ok vs' w ∧ VRs σ M vs vs'.toArray ∧ N vs := by
      intro b ty d i ao hd hi hr hao hl
      have hs : ∃ v, resL e h y (fun l => N (v :: l)) ∧ SemVal P ⟨none, .load ty (.tmp b), 0, "", #[], none⟩ e h v := by
        rcases hao with ⟨ha, rfl⟩ | ⟨ha, rfl⟩
        · exact LN_lda (o := ⟨none, .load ty (.tmp b), 0, "", #[], none⟩) rfl hd hi ha rfl hl
        · exact LN_ld1 (o := ⟨none, .load ty (.tmp b), 0, "", #[], none⟩) rfl hd ha rfl hl
      obtain ⟨v, hn, hs⟩ := hs
      obtain ⟨v', hrun, hv⟩ := hs σ M w a hR hA
      refine step v v' hv ?_ hn
      subst hr
      show (do loadVar ty (← asAddr (a.tmps.getD b undef)) : Sem Value).run P w = .ok v' w
      simp only [execOp, Instr.loadAt, Act.eval, Sem.run_bind] at hrun ⊢
      generalize a.tmps.getD b undef = u at hrun ⊢
      cases u with
      | pointer p =>
        cases p with
        | none => simp [Instr.sureAddr, stuck, Sem.run, Result.andThen] at hrun
        | some p =>
          simp only [Instr.sureAddr, asAddr, Sem.run_pure, Result.andThen] at hrun ⊢
          revert hrun
          generalize (loadVar ty p).run P w = q
          intro hrun
          cases q with
          | ok x w1 => simp at hrun; obtain ⟨rfl, rfl⟩ := hrun; rfl
          | halt x w1 => simp at hrun
      | _ => simp [Instr.sureAddr, stuck, Sem.run, Result.andThen] at hrun
    cases r with
    | tmp t =>
      cases hx
      exact step (e.t t) (a.tmps.getD t undef) (hA.t t) (by simp [rdRes]) hl
    | cell b ty =>
      unfold compR at hx
      simp only at hx
      split at hx
      · rename_i d i hd hi
        cases hd' : isAggD d with
        | true =>
          rw [hd', if_pos rfl] at hx; cases hx
          exact ld hd hi rfl (.inl ⟨hd', rfl⟩) hl
        | false =>
          rw [hd', if_neg (by simp)] at hx; cases hx
          exact ld hd hi rfl (.inr ⟨hd', rfl⟩) hl
      · cases hx

theorem results_ok {fn : Func} {σ : Emb} {M : Mem} {w : World} {h : Hp} {e : Env} {a : Act} (hR : R P σ M h w) (hA : ActR σ M e a) {rs : List ARes} {N : List AV → Prop} (hc : compRs P fn.results.toList = some rs) (hl : resL e h rs N) :
    ∃ v' vs, (results fn a.tmps).run P w = .ok v' w ∧ VR σ M (oneV vs) v' ∧ N vs := by
  obtain ⟨vs', vs, h1, h2, h3⟩ := resL_ok hR hA _ rs N hc hl
  refine ⟨if h : vs'.toArray.size = 1 then vs'.toArray[0] else .tuple vs'.toArray, vs, ?_, ?_, h3⟩
  · rw [results_eq, Array.mapM_eq_mapM_toList]
    simp only [map_eq_pure_bind, Sem.run_bind, Sem.run_pure, h1, Result.andThen]
  · have hlen : vs'.length = vs.length := by simpa using h2.1
    by_cases h1 : vs.length = 1
    · obtain ⟨v, rfl⟩ := List.length_eq_one_iff.1 h1
      obtain ⟨v', rfl⟩ := List.length_eq_one_iff.1 (hlen.trans h1)
      obtain ⟨x, e1, e2⟩ := h2.2 0 v rfl
      simp at e1; subst e1
      simpa [oneV] using e2
    · rw [dif_neg (by simp; omega)]
      have : oneV vs = .tup vs := by
        cases vs with
        | nil => rfl
        | cons a l => cases l with
          | nil => exact absurd rfl h1
          | cons b l => rfl
      rw [this]; exact VR.tup' h2

/-- A function's contract, out of its code. -/
theorem CallL.intro {f : FuncId} {fn : Func} {c : Code} {ac : ACode} {rs : List ARes} {args : List AV} {h : Hp} {Q : Res → Hp → Prop} (hf : P.funcs[f]? = some fn) (hb : fn.body = some c) (hn : args.length ≤ fn.ntmps)
    (hc : compC P fn.ntmps c = some ac) (hr : compRs P fn.results.toList = some rs) (hl : LCode P md ac (EndQ rs Q) (env0 fn.ntmps args) h) : CallL P f args h Q := by
  constructor
  intro σ M w args' hR hargs
  refine callsIn_of_wp hf hb trivial ?_
  have hsz : args'.size = args.length := hargs.1
  have hA : ActR σ M (env0 fn.ntmps args) { tmps := args' ++ Array.replicate (fn.ntmps - args'.size) undef, defers := [] } := by
    refine ⟨by simp [env0]; omega, fun x => ?_, rfl, fun j y hj => by simp [env0] at hj⟩
    simp only [env0, Array.getD_eq_getD_getElem?]
    by_cases hx : x < args.length
    · obtain ⟨v', h1, h2⟩ := hargs.2 x _ (List.getElem?_eq_getElem hx)
      rw [Array.getElem?_append_left (by omega), h1, List.getElem?_eq_getElem hx]
      exact h2
    · rw [List.getElem?_eq_none (by omega), Array.getElem?_append_right (by omega)]
      simp only [Option.getD_none]
      by_cases hx2 : x - args'.size < fn.ntmps - args'.size
      · rw [Array.getElem?_replicate, if_pos hx2]; exact VR.tup' .nil
      · rw [Array.getElem?_replicate, if_neg hx2]; exact VR.tup' .nil
  refine wpIn_mono (LCode_sound (ro := none) c ac hc (.inl rfl) _ _ h rfl hl σ M w _ hR hA) ?_
  rintro x a' w' ⟨σ', M', h', e', y, hE, hR', hA', hX, hQ, _⟩
  have fin : (e'.ds = [] ∧ resL e' h' rs fun l => Q (.ret (oneV l)) h') → a'.defers = [] ∧ ∃ v, (results fn a'.tmps).run P w' = .ok v w' ∧ ∃ σ' M' h', Ext σ M w σ' M' w' ∧ R P σ' M' h' w' ∧ EndR σ' M' (fun r => Q r h') (.returned v) := by
    rintro ⟨hd, hl⟩
    obtain ⟨v', vs, h1, h2, h3⟩ := results_ok hR' hA' hr hl
    exact ⟨List.eq_nil_of_length_eq_zero (by rw [hA'.dl, hd]; rfl), v', h1, σ', M', h', hE, hR', oneV vs, h2, h3⟩
  cases y with
  | normal => cases x <;> simp only [XitR] at hX; exact fin hQ
  | exit i => exact hQ.elim
  | ret => cases x <;> simp only [XitR] at hX; exact fin hQ
  | pan v =>
    cases x <;> simp only [XitR] at hX
    obtain ⟨v', rfl, hv⟩ := hX
    exact ⟨List.eq_nil_of_length_eq_zero (by rw [hA'.dl, hQ.1]; rfl), σ', M', h', hE, hR', v, v', rfl, hv, hQ.2⟩

/-- A function as the logic has it: its code, its results. -/
def compF (P : Program) (fn : Func) : Option (ACode × List ARes) :=
  match fn.body with
  | none => none
  | some c => match compC P fn.ntmps c, compRs P fn.results.toList with
    | some a, some r => some (a, r)
    | _, _ => none

theorem CallL.of {f : FuncId} {fn : Func} {ac : ACode} {rs : List ARes} {args : List AV} {h : Hp} {Q : Res → Hp → Prop} (hf : P.funcs[f]? = some fn) (hc : compF P fn = some (ac, rs)) (hn : args.length ≤ fn.ntmps)
    (hl : LCode P md ac (EndQ rs Q) (env0 fn.ntmps args) h) : CallL P f args h Q := by
  unfold compF at hc
  split at hc
  · cases hc
  · rename_i c hb
    split at hc
    · rename_i a r h1 h2
      cases hc
      exact .intro hf hb hn h1 h2 hl
    · cases hc

end
end Go.L

/-
  The logic L, part p: small means for proofs.
-/
namespace Go.L

/-- Slots and what they hold. -/
def Has (e : Env) : List (Nat × AV) → Prop
  | [] => True
  | (t, v) :: l => e.t t = v ∧ Has e l

def puts (e : Env) : List (Nat × AV) → Env
  | [] => e
  | (t, v) :: l => (puts e l).put (some t) v

theorem Has.puts_eq {e : Env} : ∀ {l : List (Nat × AV)}, Has e l → puts e l = e := by
  intro l
  induction l with
  | nil => intro _; rfl
  | cons p l ih =>
    intro h
    obtain ⟨t, v⟩ := p
    obtain ⟨h1, h2⟩ := h
    show (puts e l).put (some t) v = e
    rw [ih h2]
    cases e with
    | mk n g ds =>
      simp only [Env.put, Env.mk.injEq, true_and, and_true]
      funext x
      cases hb : Nat.beq x t with
      | false => rfl
      | true => rw [Nat.eq_of_beq_eq_true hb]; exact h1.symm

/-- An activation of which some slots are known, written out. -/
theorem Has.out {e : Env} {l : List (Nat × AV)} (h : Has e l) (hd : e.ds = []) : ∃ n g, e = puts ⟨n, g, []⟩ l := by
  refine ⟨e.n, e.t, ?_⟩
  rw [← hd]; exact h.puts_eq.symm

/-- A pure call that answers yes or no. -/
theorem PureL.useB {P : Program} {f : FuncId} {args : List AV} {c : Bool} {h : Hp} {Q : Res → Hp → Prop} (k : PureL P f args (.bool c)) (hq : ∀ t, t = c → Q (.ret (.bool t)) h) : CallL P f args h Q :=
  k.use (hq c rfl)

theorem wrap_i64 {n : Int} (h1 : -9223372036854775808 ≤ n) (h2 : n ≤ 9223372036854775807) : IntKind.i64.wrap n = n := IntWalk.i64_in n ⟨h1, h2⟩

theorem Res.bool_eq {a b : Bool} (h : a = b) : Res.ret (.bool a) = Res.ret (.bool b) := by rw [h]
theorem Res.str_eq {a b : List UInt8} (h : a = b) : Res.ret (.str a) = Res.ret (.str b) := by rw [h]
theorem Res.int_eq {k : IntKind} {a b : Int} (h : a = b) : Res.ret (.int k a) = Res.ret (.int k b) := by rw [h]
end Go.L

/-
  The logic L, part s: values without numbers; mutable memory lent to a call as memory that never changes; results frozen.
-/
namespace Go.L

mutual
/-- No number of a mutable block in it; all marks as asked. -/
def noid (p : Nat → Bool) : AV → Bool
  | .ptr .. => false
  | .slc .. => false
  | .map _ => false
  | .yld _ => false
  | .iptr g cs _ => p g && noids p cs
  | .isl g es => p g && noidss p es
  | .func _ a b => noids p a && noids p b
  | .ifc _ v => noid p v
  | .agg cs => noids p cs
  | .tup cs => noids p cs
  | _ => true
def noids (p : Nat → Bool) : List AV → Bool
  | [] => true
  | v :: l => noid p v && noids p l
def noidss (p : Nat → Bool) : List (List AV) → Bool
  | [] => true
  | c :: l => noids p c && noidss p l
end

theorem noids_get {p : Nat → Bool} : ∀ {l : List AV}, noids p l = true → ∀ (j : Nat) (v : AV), l[j]? = some v → noid p v = true := by
  intro l
  induction l with
  | nil => intro _ j v h; simp at h
  | cons a l ih =>
    intro h j v hj
    simp only [noids, Bool.and_eq_true] at h
    cases j with
    | zero => simp at hj; subst hj; exact h.1
    | succ j => exact ih h.2 j v hj
theorem noidss_get {p : Nat → Bool} : ∀ {l : List (List AV)}, noidss p l = true → ∀ (k : Nat) (cs : List AV) (j : Nat) (v : AV), l[k]? = some cs → cs[j]? = some v → noid p v = true := by
  intro l
  induction l with
  | nil => intro _ k cs j v h; simp at h
  | cons a l ih =>
    intro h k cs j v hk hj
    simp only [noidss, Bool.and_eq_true] at h
    cases k with
    | zero => simp at hk; subst hk; exact noids_get h.1 j v hj
    | succ k => exact ih h.2 k cs j v hk hj
/-- Such a value stands wherever memory of its marks stands. -/
theorem noid.VR {p : Nat → Bool} {σ σ' : Emb} {M M' : Mem} (hM : ∀ B o g, p g = true → M B = some (o, g) → M' B = some (o, g)) {v : AV} {x : Value} (hv : VR σ M v x) : noid p v = true → VR σ' M' v x := by
  induction hv with
  | bool b => exact fun _ => .bool b
  | int k n => exact fun _ => .int k n
  | flt k n => exact fun _ => .flt k n
  | str s b h => exact fun _ => .str s b h
  | nilp => exact fun _ => .nilp
  | ptr i k o L h => intro h; cases h
  | iptr g cs o B O C T F d h hc hv ih =>
    intro hp
    simp only [noid, Bool.and_eq_true] at hp
    exact .iptr g cs o B O C T F d (hM _ _ _ hp.1 h) hc fun j v hj => ih j v hj (noids_get hp.2 j v hj)
  | nils => exact fun _ => .nils
  | emp a => exact fun _ => .emp a
  | slc i k n c L a c' h ha hn hk hu => intro h; cases h
  | isl0 g a c => exact fun _ => .isl0 g a c
  | isl g es z B O C T F d c h hz hn hc hv ih =>
    intro hp
    simp only [noid, Bool.and_eq_true] at hp
    exact .isl g es z B O C T F d c (hM _ _ _ hp.1 h) hz hn hc fun k cs j v hk hj => ih k cs j v hk hj (noidss_get hp.2 k cs j v hk hj)
  | nilm => exact fun _ => .nilm
  | map i L h => intro h; cases h
  | func fn first cap f' c' d e hy hf hc hf1 hf2 hc1 hc2 ih1 ih2 =>
    intro hp
    simp only [noid, Bool.and_eq_true] at hp
    exact .func fn first cap f' c' d e hy hf hc hf1 (fun j v hj => ih1 j v hj (noids_get hp.1 j v hj)) hc1 fun j v hj => ih2 j v hj (noids_get hp.2 j v hj)
  | nilf => exact fun _ => .nilf
  | yld i L h => intro h; cases h
  | ifc t v v' h ih => intro hp; exact .ifc t v v' (ih hp)
  | nili => exact fun _ => .nili
  | agg cs c' d hn h1 h2 ih => intro hp; exact .agg cs c' d hn h1 fun j v hj => ih j v hj (noids_get hp j v hj)
  | tup cs c' d hn h1 h2 ih => intro hp; exact .tup cs c' d hn h1 fun j v hj => ih j v hj (noids_get hp j v hj)

/-- What a value is, when the mutable blocks that it leads to are taken for ones that never change (of mark g). -/
inductive Fz (p : Nat → Bool) (g : Nat) (h : Hp) : AV → AV → Prop
  | same (v : AV) (hp : noid p v = true) : Fz p g h v v
  | slc (i k n : Nat) (c : Option Nat) (T : TypeId) (es es' : List (List AV)) (hi : h i = some (.row T es)) (hkn : k + n ≤ es.length) (hl : es'.length = n)
      (hz : ∀ (j : Nat) (cs cs' : List AV), es[k + j]? = some cs → es'[j]? = some cs' → cs'.length = cs.length)
      (he : ∀ (j : Nat) (cs cs' : List AV) (q : Nat) (v v' : AV), es[k + j]? = some cs → es'[j]? = some cs' → cs[q]? = some v → cs'[q]? = some v' → Fz p g h v v') : Fz p g h (.slc i k n c) (.isl g es')
  | ptr (i k o : Nat) (T : TypeId) (es : List (List AV)) (cs cs' : List AV) (hi : h i = some (.row T es)) (hk : es[k]? = some cs) (hl : cs'.length = cs.length)
      (he : ∀ (q : Nat) (v v' : AV), cs[q]? = some v → cs'[q]? = some v' → Fz p g h v v') : Fz p g h (.ptr i k o) (.iptr g cs' o)
  | agg (cs cs' : List AV) (hl : cs'.length = cs.length) (he : ∀ (q : Nat) (v v' : AV), cs[q]? = some v → cs'[q]? = some v' → Fz p g h v v') : Fz p g h (.agg cs) (.agg cs')
  | tup (cs cs' : List AV) (hl : cs'.length = cs.length) (he : ∀ (q : Nat) (v v' : AV), cs[q]? = some v → cs'[q]? = some v' → Fz p g h v v') : Fz p g h (.tup cs) (.tup cs')
  | ifc (t : TypeId) (v v' : AV) (he : Fz p g h v v') : Fz p g h (.ifc t v) (.ifc t v')
  | func (fn : Fn) (a a' b b' : List AV) (hla : a'.length = a.length) (hlb : b'.length = b.length) (ha : ∀ (q : Nat) (v v' : AV), a[q]? = some v → a'[q]? = some v' → Fz p g h v v')
      (hb : ∀ (q : Nat) (v v' : AV), b[q]? = some v → b'[q]? = some v' → Fz p g h v v') : Fz p g h (.func fn a b) (.func fn a' b')

  | islC (g0 : Nat) (es es' : List (List AV)) (hg : p g0 = true) (hl : es'.length = es.length) (hz : ∀ (j : Nat) (cs cs' : List AV), es[j]? = some cs → es'[j]? = some cs' → cs'.length = cs.length)
      (he : ∀ (j : Nat) (cs cs' : List AV) (q : Nat) (v v' : AV), es[j]? = some cs → es'[j]? = some cs' → cs[q]? = some v → cs'[q]? = some v' → Fz p g h v v') : Fz p g h (.isl g0 es) (.isl g0 es')
  | nilsI (g0 : Nat) : Fz p g h .nils (.isl g0 [])
  | empI (g0 : Nat) : Fz p g h .emp (.isl g0 [])
  | iptrC (g0 : Nat) (cs cs' : List AV) (o : Nat) (hg : p g0 = true) (hl : cs'.length = cs.length) (he : ∀ (q : Nat) (v v' : AV), cs[q]? = some v → cs'[q]? = some v' → Fz p g h v v') : Fz p g h (.iptr g0 cs o) (.iptr g0 cs' o)

theorem get_of_len {α β : Type} {l : List α} {m : List β} (h : m.length = l.length) {j : Nat} {y : β} (hj : m[j]? = some y) : ∃ x, l[j]? = some x :=
  ⟨l[j]'(by rw [← h]; exact (List.getElem?_eq_some_iff.1 hj).1), List.getElem?_eq_getElem _⟩

/-- In memory where the mutable blocks are under the mark g. -/
theorem Fz.VR {P : Program} {p : Nat → Bool} {g : Nat} {h : Hp} {σ σ' : Emb} {M M' : Mem} {w : World} (hR : ∀ i b L, h i = some b → σ i = some L → BlkR P σ M w L b) (hM : ∀ B o c, p c = true → M B = some (o, c) → M' B = some (o, c))
    (hb : ∀ i b L o, h i = some b → σ i = some L → w.heap[L.b]? = some o → M' L.b = some (o, g)) {v v' : AV} (hf : Fz p g h v v') : ∀ {x : Value}, VR σ M v x → VR σ' M' v' x := by
  have pw : ∀ {l l' : List AV} {a : Array Value}, l'.length = l.length → (∀ (q : Nat) (v v' : AV), l[q]? = some v → l'[q]? = some v' → ∀ {x : Value}, Go.L.VR σ M v x → Go.L.VR σ' M' v' x) → VRs σ M l a → VRs σ' M' l' a := by
    intro l l' a hl he ha
    refine ⟨by rw [ha.1, hl], fun j y hj => ?_⟩
    obtain ⟨x, hx⟩ := get_of_len hl hj
    obtain ⟨u, h1, h2⟩ := ha.2 j x hx
    exact ⟨u, h1, he j x y hx hj h2⟩
  induction hf with
  | same v hp => intro x hv; exact noid.VR hM hv hp
  | slc i k n c T es es' hi hkn hl hz he ih =>
    intro x hv
    obtain ⟨L, a, c', rfl, hL, ha, hn, _, _⟩ := hv.slc_inv
    obtain ⟨C, F, hbl, hs, hLz, hcap, hes, hF⟩ := hR i _ L hi hL
    have hm := hb i _ L _ hi hL hbl
    by_cases hn0 : n = 0
    · have : es' = [] := List.eq_nil_of_length_eq_zero (by omega)
      subst this; subst hn0; exact .isl0 _ _ _
    · rw [ha (by omega)]
      have get : ∀ (j : Nat) (cs' : List AV), es'[j]? = some cs' → ∃ cs, es[k + j]? = some cs := fun j cs' hj => by
        have : j < n := by rw [← hl]; exact (List.getElem?_eq_some_iff.1 hj).1
        exact ⟨_, List.getElem?_eq_getElem (show k + j < es.length by omega)⟩
      have cell : ∀ (j : Nat) (cs' : List AV) (q : Nat) (y : AV), es'[j]? = some cs' → cs'[q]? = some y → ∃ u, C[L.o + (k + j) * L.z + q]? = some u ∧ Go.L.VR σ' M' y u := by
        intro j cs' q y hj hq
        obtain ⟨cs, hcs⟩ := get j cs' hj
        obtain ⟨v, hv⟩ := get_of_len (hz j cs cs' hcs hj) hq
        obtain ⟨u, h1, h2⟩ := (hes _ cs hcs).1.2 q v hv
        rw [Array.getElem?_extract] at h1
        split at h1
        · exact ⟨u, h1, ih j cs cs' q v y hcs hj hv hq h2⟩
        · cases h1
      have := Go.L.VR.isl (σ := σ') (M := M') g es' L.z L.b (L.o + k * L.z) C T F (fun j q => C.getD (L.o + (k + j) * L.z + q) undef) c' hm
        (fun j cs' hj => by obtain ⟨cs, hcs⟩ := get j cs' hj; rw [hz j cs cs' hcs hj]; exact (hes _ cs hcs).2) (by omega)
        (fun j cs' q y hj hq => by
          obtain ⟨u, h1, h2⟩ := cell j cs' q y hj hq
          rw [show L.o + k * L.z + j * L.z + q = L.o + (k + j) * L.z + q by rw [Nat.add_mul]; omega]
          simp [Array.getD_eq_getD_getElem?, h1])
        (fun j cs' q y hj hq => by
          obtain ⟨u, h1, h2⟩ := cell j cs' q y hj hq
          simpa [Array.getD_eq_getD_getElem?, h1] using h2)
      rw [hl] at this
      exact this
  | ptr i k o T es cs cs' hi hk hl he ih =>
    intro x hv
    obtain ⟨L, hL, rfl⟩ := hv.ptr_inv
    obtain ⟨C, F, hbl, hs, hLz, hcap, hes, hF⟩ := hR i _ L hi hL
    have hm := hb i _ L _ hi hL hbl
    have cell : ∀ (q : Nat) (y : AV), cs'[q]? = some y → ∃ u, C[L.o + k * L.z + q]? = some u ∧ Go.L.VR σ' M' y u := by
      intro q y hq
      obtain ⟨v, hv⟩ := get_of_len hl hq
      obtain ⟨u, h1, h2⟩ := (hes _ cs hk).1.2 q v hv
      rw [Array.getElem?_extract] at h1
      split at h1
      · exact ⟨u, h1, ih q v y hv hq h2⟩
      · cases h1
    exact .iptr g cs' o L.b (L.o + k * L.z) C T F (fun q => C.getD (L.o + k * L.z + q) undef) hm
      (fun q y hq => by obtain ⟨u, h1, h2⟩ := cell q y hq; simp [Array.getD_eq_getD_getElem?, h1])
      (fun q y hq => by obtain ⟨u, h1, h2⟩ := cell q y hq; simpa [Array.getD_eq_getD_getElem?, h1] using h2)
  | agg cs cs' hl he ih => intro x hv; obtain ⟨a, rfl, ha⟩ := hv.agg_inv; exact VR.agg' (pw hl ih ha)
  | tup cs cs' hl he ih => intro x hv; obtain ⟨a, rfl, ha⟩ := hv.tup_inv; exact VR.tup' (pw hl ih ha)
  | ifc t v v' he ih => intro x hv; cases hv with | ifc _ _ u hu => exact .ifc t v' u (ih hu)
  | func fn a a' b b' hla hlb ha hb' ih1 ih2 =>
    intro x hv
    obtain ⟨f', c', rfl, h1, h2, h3⟩ := hv.func_inv
    exact VR.func' h3 (pw hla ih1 h1) (pw hlb ih2 h2)
  | islC g0 es es' hg hl hz he ih =>
    intro x hv
    cases hv with
    | isl0 _ a c =>
      have : es' = [] := List.eq_nil_of_length_eq_zero hl
      subst this; exact .isl0 _ _ _
    | isl _ _ z B O C T F d c hB hz0 hn hc hv =>
      have key : ∀ (j : Nat) (cs' : List AV) (q : Nat) (y : AV), es'[j]? = some cs' → cs'[q]? = some y → C[O + j * z + q]? = some (d j q) ∧ Go.L.VR σ' M' y (d j q) := by
        intro j cs' q y hj hq
        obtain ⟨cs, hcs⟩ := get_of_len hl hj
        obtain ⟨v, hv1⟩ := get_of_len (hz j cs cs' hcs hj) hq
        exact ⟨hc j cs q v hcs hv1, ih j cs cs' q v y hcs hj hv1 hq (hv j cs q v hcs hv1)⟩
      have := Go.L.VR.isl (σ := σ') (M := M') g0 es' z B O C T F d c (hM _ _ _ hg hB) (fun j cs' hj => by
        obtain ⟨cs, hcs⟩ := get_of_len hl hj; rw [hz j cs cs' hcs hj]; exact hz0 j cs hcs) (by omega) (fun j cs' q y hj hq => (key j cs' q y hj hq).1) (fun j cs' q y hj hq => (key j cs' q y hj hq).2)
      rw [hl] at this; exact this
  | nilsI g0 => intro x hv; rw [hv.nils_inv]; exact .isl0 _ _ _
  | empI g0 => intro x hv; obtain ⟨a, rfl⟩ := hv.emp_inv; exact .isl0 _ _ _
  | iptrC g0 cs cs' o hg hl he ih =>
    intro x hv
    cases hv with
    | iptr _ _ _ B O C T F d hB hc hv =>
      have key : ∀ (q : Nat) (y : AV), cs'[q]? = some y → C[O + q]? = some (d q) ∧ Go.L.VR σ' M' y (d q) := by
        intro q y hq
        obtain ⟨v, hv1⟩ := get_of_len hl hq
        exact ⟨hc q v hv1, ih q v y hv1 hq (hv q v hv1)⟩
      exact .iptr g0 cs' o B O C T F d (hM _ _ _ hg hB) (fun q y hq => (key q y hq).1) (fun q y hq => (key q y hq).2)

/-- Arguments, lent. -/
def FzL (p : Nat → Bool) (g : Nat) (h : Hp) (l l' : List AV) : Prop := l'.length = l.length ∧ ∀ (q : Nat) (v v' : AV), l[q]? = some v → l'[q]? = some v' → Fz p g h v v'

def anyMark : Nat → Bool := fun _ => true
def mark0 : Nat → Bool := fun g => Nat.beq g 0

/-- LENT. A call whose arguments lead to mutable memory: proved where they are memory that never changes (of mark 1), in the empty heap; the result is frozen, and none of what was lent. -/
theorem CallL.lent {P : Program} {f : FuncId} {args args' : List AV} {h : Hp} {Q : AV → Prop} (ha : FzL anyMark 1 h args args')
    (k : CallL P f args' Hp.nil fun r h1 => ∃ v v', r = .ret v ∧ Fz mark0 0 h1 v v' ∧ Q v') : ∀ h', h.le h' → CallL P f args h' fun r h'' => ∃ v', r = .ret v' ∧ Q v' ∧ h'' = h' := by
  intro h' hle
  constructor
  intro σ M w x hR hA
  -- the heap, as it is
  let M0 : Mem := fun B => match M B with | some y => some y | none => (w.heap[B]?).map fun o => (o, 1)
  have hMM0 : ∀ B o c, M B = some (o, c) → M0 B = some (o, c) := fun B o c hB => by simp [M0, hB]
  have hM0w : ∀ B y, M0 B = some y → w.heap[B]? = some y.1 := fun B y hB => by
    simp only [M0] at hB
    split at hB
    · rename_i z hz; cases hB; exact hR.mem B _ hz
    · simp only [Option.map_eq_some_iff] at hB
      obtain ⟨o, h1, rfl⟩ := hB; exact h1
  have hM0old : ∀ B, B < w.heap.size → ∃ y, M0 B = some y := fun B hB => by
    simp only [M0]
    split
    · exact ⟨_, rfl⟩
    · rw [Array.getElem?_eq_getElem hB]; exact ⟨_, rfl⟩
  have hR0 : R P (fun _ => none) M0 Hp.nil w :=
    ⟨fun _ _ => rfl, (fun i b hi => by cases hi), hM0w, (fun i b L hi => by cases hi), (fun i j bi bj Li Lj hi => by cases hi), (fun i b L hi => by cases hi), (fun i b L hi => by cases hi), hR.glb.mono fun B o hB => hMM0 B o.1 o.2 hB⟩
  have hA0 : VRs (fun _ => none) M0 args' x := by
    refine ⟨by rw [hA.1, ha.1], fun j y hj => ?_⟩
    obtain ⟨v, hv⟩ := get_of_len ha.1 hj
    obtain ⟨u, h1, h2⟩ := hA.2 j v hv
    refine ⟨u, h1, (ha.2 j v y hv hj).VR (fun i b L hi hL => hR.blk i b L (hle i b hi) hL) (fun B o c _ hB => hMM0 B o c hB) (fun i b L o hi hL ho => ?_) h2⟩
    have := hR.sep i b L (hle i b hi) hL
    simp only [M0, this, ho, Option.map_some]
  refine (k.run _ _ w x hR0 hA0).mono ?_
  rintro e w' ⟨σ1, M1, h1, hE, hR1, hend⟩
  have same : ∀ B, B < w.heap.size → w'.heap[B]? = w.heap[B]? := fun B hB => by
    obtain ⟨y, hy⟩ := hM0old B hB
    rw [hM0w B y hy]; exact hR1.mem B y (hE.m B y hy)
  let M2 : Mem := fun B => match M B with | some y => some y | none => if B < w.heap.size then none else (w'.heap[B]?).map fun o => (o, 0)
  have hMM2 : M.le M2 := fun B y hB => by simp [M2, hB]
  refine ⟨σ, M2, h', ⟨σ.le_refl, hMM2, hE.size, hE.os, hE.tape, hE.output⟩, ⟨hR.fin, hR.dom, fun B y hB => ?_, fun i b L hi hL => ?_, hR.inj, fun i b L hi hL => ?_, hR.al, hR.glb.mono hMM2⟩, ?_⟩
  · simp only [M2] at hB
    split at hB
    · rename_i z hz
      cases hB
      have := hR.mem B _ hz
      rw [same B (Array.getElem?_eq_some_iff.1 this).1]; exact this
    · split at hB
      · cases hB
      · simp only [Option.map_eq_some_iff] at hB
        obtain ⟨o, h1, rfl⟩ := hB; exact h1
  · have h2 := hR.placed hi hL
    simp only [M2, hR.sep i b L hi hL, if_pos h2]
  · exact (hR.blk i b L hi hL).mono σ.le_refl hMM2 (same _ (hR.placed hi hL))
  · cases e with
    | returned x' =>
      obtain ⟨v, hv, u, v', e1, hf, hq⟩ := hend
      cases e1
      refine ⟨v', hf.VR hR1.blk (fun B o c hc hB => ?_) (fun i b L o hi hL ho => ?_) hv, v', rfl, hq, rfl⟩
      · have hc0 : c = 0 := Nat.eq_of_beq_eq_true hc
        subst hc0
        by_cases hlt : B < w.heap.size
        · obtain ⟨y, hy⟩ := hM0old B hlt
          have := hE.m B y hy
          rw [hB] at this; cases this
          simp only [M0] at hy
          split at hy
          · rename_i z hz; cases hy; simp only [M2, hz]
          · simp only [Option.map_eq_some_iff] at hy
            obtain ⟨o', _, h3⟩ := hy; cases h3
        · have h3 : M B = none := by
            cases hm : M B with
            | none => rfl
            | some z => exact absurd (Array.getElem?_eq_some_iff.1 (hR.mem B z hm)).1 hlt
          simp only [M2, h3, if_neg hlt, hR1.mem B _ hB, Option.map_some]
      · have h3 := hR1.sep i b L hi hL
        have hlt : ¬ L.b < w.heap.size := fun hlt => by
          obtain ⟨y, hy⟩ := hM0old L.b hlt
          rw [hE.m _ y hy] at h3; cases h3
        have h4 : M L.b = none := by
          cases hm : M L.b with
          | none => rfl
          | some z => exact absurd (Array.getElem?_eq_some_iff.1 (hR.mem L.b z hm)).1 hlt
        simp only [M2, h4, if_neg hlt, ho, Option.map_some]
    | panicked ch => obtain ⟨v, x', _, _, u, v', e1, _⟩ := hend; cases e1
    | outgrown => exact hend
end Go.L

/-
  The logic L, part s2: what a call makes is taken over, under new numbers.
-/
namespace Go.L

mutual
/-- All marks are 0. -/
def m0 : AV → Bool
  | .iptr g cs _ => Nat.beq g 0 && m0s cs
  | .isl g es => Nat.beq g 0 && m0ss es
  | .func _ a b => m0s a && m0s b
  | .ifc _ v => m0 v
  | .agg cs => m0s cs
  | .tup cs => m0s cs
  | _ => true
def m0s : List AV → Bool
  | [] => true
  | v :: l => m0 v && m0s l
def m0ss : List (List AV) → Bool
  | [] => true
  | c :: l => m0s c && m0ss l
end

mutual
/-- All numbers of blocks, moved up by b. -/
def AV.ren (b : Nat) : AV → AV
  | .ptr i k o => .ptr (b + i) k o
  | .slc i k n c => .slc (b + i) k n c
  | .map i => .map (b + i)
  | .yld i => .yld (b + i)
  | .iptr g cs o => .iptr g (rens b cs) o
  | .isl g es => .isl g (renss b es)
  | .func f x y => .func f (rens b x) (rens b y)
  | .ifc t v => .ifc t (v.ren b)
  | .agg cs => .agg (rens b cs)
  | .tup cs => .tup (rens b cs)
  | v => v
def rens (b : Nat) : List AV → List AV
  | [] => []
  | v :: l => v.ren b :: rens b l
def renss (b : Nat) : List (List AV) → List (List AV)
  | [] => []
  | c :: l => rens b c :: renss b l
end

theorem rens_len (b : Nat) : ∀ (l : List AV), (rens b l).length = l.length
  | [] => rfl
  | _ :: l => by simp [rens, rens_len b l]
theorem renss_len (b : Nat) : ∀ (l : List (List AV)), (renss b l).length = l.length
  | [] => rfl
  | _ :: l => by simp [renss, renss_len b l]
theorem rens_get {b : Nat} : ∀ {l : List AV} {j : Nat} {y : AV}, (rens b l)[j]? = some y → ∃ v, l[j]? = some v ∧ y = v.ren b
  | [], j, y, h => by simp [rens] at h
  | v :: l, 0, y, h => by simp [rens] at h; exact ⟨v, rfl, h.symm⟩
  | v :: l, j + 1, y, h => by simp only [rens, List.getElem?_cons_succ] at h ⊢; exact rens_get h
theorem renss_get {b : Nat} : ∀ {l : List (List AV)} {j : Nat} {y : List AV}, (renss b l)[j]? = some y → ∃ v, l[j]? = some v ∧ y = rens b v
  | [], j, y, h => by simp [renss] at h
  | v :: l, 0, y, h => by simp [renss] at h; exact ⟨v, rfl, h.symm⟩
  | v :: l, j + 1, y, h => by simp only [renss, List.getElem?_cons_succ] at h ⊢; exact renss_get h
theorem m0s_get : ∀ {l : List AV}, m0s l = true → ∀ {j : Nat} {v : AV}, l[j]? = some v → m0 v = true
  | [], _, j, v, h => by simp at h
  | x :: l, hm, 0, v, h => by simp only [m0s, Bool.and_eq_true] at hm; simp at h; subst h; exact hm.1
  | x :: l, hm, j + 1, v, h => by simp only [m0s, Bool.and_eq_true] at hm; exact m0s_get hm.2 h
theorem m0ss_get : ∀ {l : List (List AV)}, m0ss l = true → ∀ {j : Nat} {v : List AV}, l[j]? = some v → m0s v = true
  | [], _, j, v, h => by simp at h
  | x :: l, hm, 0, v, h => by simp only [m0ss, Bool.and_eq_true] at hm; simp at h; subst h; exact hm.1
  | x :: l, hm, j + 1, v, h => by simp only [m0ss, Bool.and_eq_true] at hm; exact m0ss_get hm.2 h

section
variable {σ σ' : Emb} {M M' : Mem} {b : Nat}
theorem VR.ren (hs : ∀ i L, σ i = some L → σ' (b + i) = some L) (hM : ∀ B o, M B = some (o, 0) → M' B = some (o, 0)) {v : AV} {x : Value} (hv : VR σ M v x) : m0 v = true → VR σ' M' (v.ren b) x := by
  have pw : ∀ {l : List AV} {d : Nat → Value}, (∀ (j : Nat) (v : AV), l[j]? = some v → m0 v = true → VR σ' M' (v.ren b) (d j)) → m0s l = true → ∀ (j : Nat) (v : AV), (rens b l)[j]? = some v → VR σ' M' v (d j) := by
    intro l d ih hm j y hj
    obtain ⟨v, h1, rfl⟩ := rens_get hj
    exact ih j v h1 (m0s_get hm h1)
  have pc : ∀ {l : List AV} {c : Array Value} {d : Nat → Value} {O : Nat}, (∀ (j : Nat) (v : AV), l[j]? = some v → c[O + j]? = some (d j)) → ∀ (j : Nat) (v : AV), (rens b l)[j]? = some v → c[O + j]? = some (d j) := by
    intro l c d O h j y hj
    obtain ⟨v, h1, rfl⟩ := rens_get hj
    exact h j v h1
  have pc0 : ∀ {l : List AV} {c : Array Value} {d : Nat → Value}, (∀ (j : Nat) (v : AV), l[j]? = some v → c[j]? = some (d j)) → ∀ (j : Nat) (v : AV), (rens b l)[j]? = some v → c[j]? = some (d j) := by
    intro l c d h j y hj
    obtain ⟨v, h1, rfl⟩ := rens_get hj
    exact h j v h1
  induction hv with
  | bool b => exact fun _ => .bool b
  | int k n => exact fun _ => .int k n
  | flt k n => exact fun _ => .flt k n
  | str s b h => exact fun _ => .str s b h
  | nilp => exact fun _ => .nilp
  | ptr i k o L h => exact fun _ => .ptr (b + i) k o L (hs i L h)
  | iptr g cs o B O C T F d h hc hv ih =>
    intro hp
    simp only [m0, Bool.and_eq_true] at hp
    obtain rfl := Nat.eq_of_beq_eq_true hp.1
    exact .iptr 0 _ o B O C T F d (hM _ _ h) (pc hc) (pw ih hp.2)
  | nils => exact fun _ => .nils
  | emp a => exact fun _ => .emp a
  | slc i k n c L a c' h ha hn hk hu => exact fun _ => .slc (b + i) k n c L a c' (hs i L h) ha hn hk hu
  | isl0 g a c => exact fun _ => .isl0 g a c
  | isl g es z B O C T F d c h hz hn hc hv ih =>
    intro hp
    simp only [m0, Bool.and_eq_true] at hp
    obtain rfl := Nat.eq_of_beq_eq_true hp.1
    have := VR.isl (σ := σ') (M := M') 0 (renss b es) z B O C T F d c (hM _ _ h) (fun k cs hk => by obtain ⟨c0, h1, rfl⟩ := renss_get hk; rw [rens_len]; exact hz k c0 h1) (by rw [renss_len]; exact hn)
      (fun k cs j v hk hj => by obtain ⟨c0, h1, rfl⟩ := renss_get hk; exact pc (hc k c0 · · h1) j v hj)
      (fun k cs j v hk hj => by obtain ⟨c0, h1, rfl⟩ := renss_get hk; exact pw (fun j v hj hm => ih k c0 j v h1 hj hm) (m0ss_get hp.2 h1) j v hj)
    rw [renss_len] at this; exact this
  | nilm => exact fun _ => .nilm
  | map i L h => exact fun _ => .map (b + i) L (hs i L h)
  | func fn first cap f' c' d e hy hf hc hf1 hf2 hc1 hc2 ih1 ih2 =>
    intro hp
    simp only [m0, Bool.and_eq_true] at hp
    exact .func fn _ _ f' c' d e hy (by rw [rens_len]; exact hf) (by rw [rens_len]; exact hc) (pc0 hf1) (pw ih1 hp.1) (pc0 hc1) (pw ih2 hp.2)
  | nilf => exact fun _ => .nilf
  | yld i L h => exact fun _ => .yld (b + i) L (hs i L h)
  | ifc t v v' h ih => intro hp; exact .ifc t _ v' (ih hp)
  | nili => exact fun _ => .nili
  | agg cs c' d hn h1 h2 ih => intro hp; exact .agg _ c' d (by rw [rens_len]; exact hn) (pc0 h1) (pw ih hp)
  | tup cs c' d hn h1 h2 ih => intro hp; exact .tup _ c' d (by rw [rens_len]; exact hn) (pc0 h1) (pw ih hp)
theorem VRs.ren (hs : ∀ i L, σ i = some L → σ' (b + i) = some L) (hM : ∀ B o, M B = some (o, 0) → M' B = some (o, 0)) {l : List AV} {a : Array Value} (h : VRs σ M l a) (hm : m0s l = true) : VRs σ' M' (rens b l) a := by
  refine ⟨by rw [rens_len]; exact h.1, fun j y hj => ?_⟩
  obtain ⟨v, h1, rfl⟩ := rens_get hj
  obtain ⟨x, h2, h3⟩ := h.2 j v h1
  exact ⟨x, h2, h3.ren hs hM (m0s_get hm h1)⟩
end

/-- A block, its numbers moved up (none: it is forgotten). -/
def renB (b : Nat) : Option Blk → Option Blk
  | some (.row T es) => cond (m0ss es) (some (.row T (renss b es))) none
  | some (.map es c) => cond (es.all fun x => m0 x.1 && m0 x.2.1) (some (.map (es.map fun x => (x.1.ren b, x.2.1.ren b, x.2.2)) c)) none
  | some (.mapIter m s l t) => some (.mapIter (m.map (b + ·)) s l t)
  | some (.strIter s p) => some (.strIter s p)
  | _ => none

theorem BlkR.ren {P : Program} {σ σ' : Emb} {M M' : Mem} {b : Nat} (hs : ∀ i L, σ i = some L → σ' (b + i) = some L) (hM : ∀ B o, M B = some (o, 0) → M' B = some (o, 0)) {w : World} {L : Loc} {x : Option Blk} {y : Blk} (hx : renB b x = some y)
    (hb : ∀ z, x = some z → BlkR P σ M w L z) : BlkR P σ' M' w L y := by
  unfold renB at hx
  split at hx
  · rename_i T es
    cases hm : m0ss es <;> rw [hm] at hx <;> cases hx
    obtain ⟨C, F, h1, h2, h3, h4, h5, h6⟩ := hb _ rfl
    refine ⟨C, F, h1, h2, h3, by rw [renss_len]; exact h4, fun k cs hk => ?_, h6⟩
    obtain ⟨c0, h7, rfl⟩ := renss_get hk
    exact ⟨(h5 k c0 h7).1.ren hs hM (m0ss_get hm h7), by rw [rens_len]; exact (h5 k c0 h7).2⟩
  · rename_i es c
    cases hm : (es.all fun x => m0 x.1 && m0 x.2.1) <;> rw [hm] at hx <;> cases hx
    obtain ⟨es', h1, h2, h3⟩ := hb _ rfl
    refine ⟨es', h1, by simpa using h2, fun j k v n hj => ?_⟩
    rw [List.getElem?_map] at hj
    cases hx : es[j]? with
    | none => rw [hx] at hj; cases hj
    | some x =>
      rw [hx] at hj; cases hj
      obtain ⟨e, h4, h5, h6, h7⟩ := h3 j _ _ _ hx
      have hm1 := List.all_eq_true.1 hm x (List.mem_of_getElem? hx)
      simp only [Bool.and_eq_true] at hm1
      exact ⟨e, h4, h5.ren hs hM hm1.1, h6.ren hs hM hm1.2, h7⟩
  · cases hx
    obtain ⟨h1, m', h2, h3⟩ := hb _ rfl
    refine ⟨h1, m', h2, ?_⟩
    rename_i m _ _ _
    cases m with
    | none => exact h3
    | some i => obtain ⟨K, h4, h5⟩ := h3; exact ⟨K, hs _ _ h4, h5⟩
  · cases hx
    exact hb _ rfl
  · cases hx

/-- A call whose arguments lead to mutable memory, proved where that never changes and in the empty heap; what it has made is taken over. -/
theorem CallL.adopt {P : Program} {f : FuncId} {args args' : List AV} {h : Hp} {K : Nat} {v0 : AV} {h0 : Hp} {B0 : Nat → Option Blk} (hB0 : ∀ i y, B0 i = some y → h0 i = some y) (ha : FzL anyMark 1 h args args') (k : CallL P f args' Hp.nil fun r h1 => r = .ret v0 ∧ h1 = h0)
    (hK : ∀ i, h0.u i = true → i < K) (hm : m0 v0 = true) : PureAd P f args h K (fun b => v0.ren b) fun b i => renB b (B0 i) := by
  intro h' hle b hfr
  constructor
  intro σ M w x hR hA
  let M0 : Mem := fun B => match M B with | some y => some y | none => (w.heap[B]?).map fun o => (o, 1)
  have hMM0 : ∀ B o c, M B = some (o, c) → M0 B = some (o, c) := fun B o c hB => by simp [M0, hB]
  have hM0w : ∀ B y, M0 B = some y → w.heap[B]? = some y.1 := fun B y hB => by
    simp only [M0] at hB
    split at hB
    · rename_i z hz; cases hB; exact hR.mem B _ hz
    · simp only [Option.map_eq_some_iff] at hB
      obtain ⟨o, h1, rfl⟩ := hB; exact h1
  have hM0old : ∀ B, B < w.heap.size → ∃ y, M0 B = some y := fun B hB => by
    simp only [M0]
    split
    · exact ⟨_, rfl⟩
    · rw [Array.getElem?_eq_getElem hB]; exact ⟨_, rfl⟩
  have hR0 : R P (fun _ => none) M0 Hp.nil w :=
    ⟨fun _ _ => rfl, (fun i b hi => by cases hi), hM0w, (fun i b L hi => by cases hi), (fun i j bi bj Li Lj hi => by cases hi), (fun i b L hi => by cases hi), (fun i b L hi => by cases hi), hR.glb.mono fun B o hB => hMM0 B o.1 o.2 hB⟩
  have hA0 : VRs (fun _ => none) M0 args' x := by
    refine ⟨by rw [hA.1, ha.1], fun j y hj => ?_⟩
    obtain ⟨v, hv⟩ := get_of_len ha.1 hj
    obtain ⟨u, h1, h2⟩ := hA.2 j v hv
    refine ⟨u, h1, (ha.2 j v y hv hj).VR (fun i b L hi hL => hR.blk i b L (hle i b hi) hL) (fun B o c _ hB => hMM0 B o c hB) (fun i b L o hi hL ho => ?_) h2⟩
    have := hR.sep i b L (hle i b hi) hL
    simp only [M0, this, ho, Option.map_some]
  refine (k.run _ _ w x hR0 hA0).mono ?_
  rintro e w' ⟨σ1, M1, h1, hE, hR1, hend⟩
  have hret : ∃ x', e = .returned x' ∧ VR σ1 M1 v0 x' ∧ h1 = h0 := by
    cases e with
    | returned x' => obtain ⟨v, hv, e1, e2⟩ := hend; cases e1; exact ⟨x', rfl, hv, e2⟩
    | panicked ch => obtain ⟨v, x', _, _, e1, _⟩ := hend; cases e1
    | outgrown => exact hend.elim
  obtain ⟨x', rfl, hv, rfl⟩ := hret
  have same : ∀ B, B < w.heap.size → w'.heap[B]? = w.heap[B]? := fun B hB => by
    obtain ⟨y, hy⟩ := hM0old B hB
    rw [hM0w B y hy]; exact hR1.mem B y (hE.m B y hy)
  have hMsz : ∀ B y, M B = some y → B < w.heap.size := fun B y hB => (Array.getElem?_eq_some_iff.1 (hR.mem B y hB)).1
  have hM1new : ∀ B, M1 B = none → w.heap.size ≤ B := fun B hB => by
    rcases Nat.lt_or_ge B w.heap.size with hlt | hge
    · obtain ⟨y, hy⟩ := hM0old B hlt
      rw [hE.m B y hy] at hB; cases hB
    · exact hge
  let M2 : Mem := fun B => match M B with | some y => some y | none => if B < w.heap.size then none else M1 B
  have hMM2 : M.le M2 := fun B y hB => by simp [M2, hB]
  have hM12 : ∀ B o, M1 B = some (o, 0) → M2 B = some (o, 0) := fun B o hB => by
    by_cases hlt : B < w.heap.size
    · obtain ⟨y, hy⟩ := hM0old B hlt
      have := hE.m B y hy
      rw [hB] at this; cases this
      simp only [M0] at hy
      split at hy
      · rename_i z hz; cases hy; simp only [M2, hz]
      · simp only [Option.map_eq_some_iff] at hy
        obtain ⟨o', _, h3⟩ := hy; cases h3
    · have h3 : M B = none := by
        cases hm : M B with
        | none => rfl
        | some z => exact absurd (hMsz B z hm) hlt
      simp only [M2, h3, if_neg hlt, hB]
  have hM2none : ∀ B, M1 B = none → M2 B = none := fun B hB => by
    have hge := hM1new B hB
    have h3 : M B = none := by
      cases hm : M B with
      | none => rfl
      | some z => exact absurd (hMsz B z hm) (by omega)
    simp only [M2, h3, if_neg (show ¬ B < w.heap.size by omega), hB]
  let σ2 : Emb := fun i => if b ≤ i ∧ i < b + K then σ1 (i - b) else σ i
  have hσ2 : ∀ i L, σ1 i = some L → σ2 (b + i) = some L := fun i L hi => by
    have hu : h1.u i = true := by
      cases hu : h1.u i with
      | true => rfl
      | false => rw [hR1.fin i hu] at hi; cases hi
    have := hK i hu
    simp only [σ2]
    rw [if_pos (by omega), Nat.add_sub_cancel_left]; exact hi
  have hσσ2 : σ.le σ2 := fun i L hi => by
    simp only [σ2]
    split
    · rename_i hr
      have := (hfr (i - b) (by omega)).1
      rw [show b + (i - b) = i by omega] at this
      rw [hR.fin i this] at hi; cases hi
    · exact hi
  have hin : ∀ i, b ≤ i ∧ i < b + K → σ2 i = σ1 (i - b) := fun i hi => if_pos hi
  have hout : ∀ i, ¬ (b ≤ i ∧ i < b + K) → σ2 i = σ i := fun i hi => if_neg hi
  -- what lies at a number
  have cases2 : ∀ i y, (h'.adopt b K fun i => renB b (B0 i)) i = some y → (b ≤ i ∧ i < b + K ∧ ∃ z, h1 (i - b) = some z ∧ renB b (some z) = some y) ∨ (¬ (b ≤ i ∧ i < b + K) ∧ h' i = some y) := by
    intro i y hi
    by_cases hr : b ≤ i ∧ i < b + K
    · rw [Hp.adopt_in hr] at hi
      refine .inl ⟨hr.1, hr.2, ?_⟩
      cases hz : B0 (i - b) with
      | none => rw [hz] at hi; cases hi
      | some z => rw [hz] at hi; exact ⟨z, hB0 _ _ hz, hi⟩
    · rw [Hp.adopt_out hr] at hi; exact .inr ⟨hr, hi⟩
  refine ⟨σ2, M2, h'.adopt b K fun i => renB b (B0 i), ⟨hσσ2, hMM2, hE.size, hE.os, hE.tape, hE.output⟩, ⟨fun i hi => ?_, fun i y hi => ?_, fun B y hB => ?_, fun i y L hi hL => ?_, fun i j yi yj Li Lj hi hj hLi hLj hb => ?_, fun i y L hi hL => ?_, fun i y L hi hL => ?_, hR.glb.mono hMM2⟩, ?_⟩
  · rw [Hp.adopt_u] at hi
    split at hi
    · cases hi
    · rename_i hr; rw [hout i hr]; exact hR.fin i hi
  · rcases cases2 i y hi with ⟨h2, h3, z, hz, _⟩ | ⟨h2, h3⟩
    · rw [hin i ⟨h2, h3⟩]; exact hR1.dom _ z hz
    · rw [hout i h2]; exact hR.dom i y h3
  · simp only [M2] at hB
    split at hB
    · rename_i z hz
      cases hB
      rw [same B (hMsz B _ hz)]; exact hR.mem B _ hz
    · split at hB
      · cases hB
      · exact hR1.mem B y hB
  · rcases cases2 i y hi with ⟨h2, h3, z, hz, _⟩ | ⟨h2, h3⟩
    · rw [hin i ⟨h2, h3⟩] at hL; exact hM2none _ (hR1.sep _ z L hz hL)
    · rw [hout i h2] at hL
      simp only [M2, hR.sep i y L h3 hL, if_pos (hR.placed h3 hL)]
  · rcases cases2 i yi hi with ⟨h2, h3, z, hz, _⟩ | ⟨h2, h3⟩ <;> rcases cases2 j yj hj with ⟨g2, g3, z', hz', _⟩ | ⟨g2, g3⟩
    · rw [hin i ⟨h2, h3⟩] at hLi; rw [hin j ⟨g2, g3⟩] at hLj
      have := hR1.inj _ _ z z' Li Lj hz hz' hLi hLj hb
      omega
    · rw [hin i ⟨h2, h3⟩] at hLi; rw [hout j g2] at hLj
      have q1 := hM1new _ (hR1.sep _ z Li hz hLi)
      have q2 := hR.placed g3 hLj
      omega
    · rw [hout i h2] at hLi; rw [hin j ⟨g2, g3⟩] at hLj
      have q1 := hM1new _ (hR1.sep _ z' Lj hz' hLj)
      have q2 := hR.placed h3 hLi
      omega
    · rw [hout i h2] at hLi; rw [hout j g2] at hLj
      exact hR.inj _ _ yi yj Li Lj h3 g3 hLi hLj hb
  · rcases cases2 i y hi with ⟨h2, h3, z, hz, hy⟩ | ⟨h2, h3⟩
    · rw [hin i ⟨h2, h3⟩] at hL
      exact BlkR.ren hσ2 hM12 hy fun z' e => by cases e; exact hR1.blk _ z L hz hL
    · rw [hout i h2] at hL
      exact (hR.blk i y L h3 hL).mono hσσ2 hMM2 (same _ (hR.placed h3 hL))
  · rcases cases2 i y hi with ⟨h2, h3, z, hz, _⟩ | ⟨h2, h3⟩
    · rw [hin i ⟨h2, h3⟩] at hL; exact hR1.al _ z L hz hL
    · rw [hout i h2] at hL; exact hR.al i y L h3 hL
  · exact ⟨v0.ren b, hv.ren hσ2 hM12 hm, rfl, rfl⟩
end Go.L

/-
  The logic L, part w: deferred calls; recover.
-/
namespace Go.L

/-- How a frame goes out: it returns; it panics; it has panicked and that was recovered. -/
inductive Um where
  | ret
  | pan (v : AV)
  | rcv (v : AV)

def UmR (σ : Emb) (M : Mem) : Um → FrameMode → Prop
  | .ret, .returning => True
  | .pan v, .panicking chain => ∃ v', chain = [{ v := v', recovered := false }] ∧ VR σ M v v'
  | .rcv v, .panicking chain => ∃ v', chain = [{ v := v', recovered := true }] ∧ VR σ M v v'
  | _, _ => False

theorem UmR.mono {σ σ' : Emb} {M M' : Mem} (hs : σ.le σ') (hm : M.le M') {u : Um} {m : FrameMode} (h : UmR σ M u m) : UmR σ' M' u m := by
  cases u <;> cases m <;> simp only [UmR] at h ⊢
  all_goals obtain ⟨v', h1, h2⟩ := h; exact ⟨v', h1, h2.mono hs hm⟩

def settleU : Um → Um
  | .rcv _ => .ret
  | u => u
theorem UmR.settle {σ : Emb} {M : Mem} {u : Um} {m : FrameMode} (h : UmR σ M u m) : UmR σ M (settleU u) (Go.settle m) := by
  cases u <;> cases m <;> simp only [UmR] at h
  · simp [settleU, Go.settle, UmR]
  · obtain ⟨v', rfl, h2⟩ := h; exact ⟨v', rfl, h2⟩
  · obtain ⟨v', rfl, h2⟩ := h; simp [settleU, Go.settle, UmR]
theorem UmR.notRun {σ : Emb} {M : Mem} {u : Um} {m : FrameMode} (h : UmR σ M u m) : m ≠ .run := by
  cases u <;> cases m <;> simp only [UmR] at h <;> simp

/-- The contract of a deferred call, entered while the frame below goes out so. -/
structure DefL (P : Program) (f : FuncId) (args : List AV) (u : Um) (h : Hp) (Q : Res → Um → Hp → Prop) : Prop where
  run : ∀ (σ : Emb) (M : Mem) (w : World) (args' : Array Value) (u' : FrameMode), R P σ M h w → VRs σ M args args' → UmR σ M u u' →
    CallsDIn Fence.wide 0 P f args' u' w fun e u'' w' => ∃ σ' M' h' um, Ext σ M w σ' M' w' ∧ R P σ' M' h' w' ∧ UmR σ' M' um u'' ∧ EndR σ' M' (fun r => Q r um h') e

theorem DefL.mono {P : Program} {f : FuncId} {args : List AV} {u : Um} {h : Hp} {Q Q' : Res → Um → Hp → Prop} (c : DefL P f args u h Q) (hq : ∀ r u h', Q r u h' → Q' r u h') : DefL P f args u h Q' :=
  ⟨fun σ M w args' u' hR hA hU => (c.run σ M w args' u' hR hA hU).mono fun e u'' w' ⟨σ', M', h', um, h1, h2, h3, h4⟩ => ⟨σ', M', h', um, h1, h2, h3, by
    cases e with
    | returned v' => obtain ⟨v, a, b⟩ := h4; exact ⟨v, a, hq _ _ _ b⟩
    | panicked ch => obtain ⟨v, v', a, b, c⟩ := h4; exact ⟨v, v', a, b, hq _ _ _ c⟩
    | outgrown => exact h4⟩⟩

/-- What is asked when a function goes out: its deferred calls, the last one first. -/
def LeavesL (P : Program) (rs : List ARes) (Q : Res → Hp → Prop) : List ADef → Um → Env → Hp → Prop
  | [], .ret, e, h => resL e h rs fun l => Q (.ret (oneV l)) h
  | [], .pan v, _, h => Q (.pan v) h
  | [], .rcv _, _, _ => False
  | .call (.func f) cap args :: ds, u, e, h => HasBody P f ∧ DefL P f (args ++ cap) u h fun r u' h' => match r with
      | .ret _ => LeavesL P rs Q ds (settleU u') e h'
      | .pan _ => False
  | .mark i :: ds, u, e, h => h i = some .dfr ∧ LeavesL P rs Q ds u e (h.del i)
  | _ :: _, _, _, _ => False

def EndQD (P : Program) (rs : List ARes) (Q : Res → Hp → Prop) : Xit → Env → Hp → Prop
  | .pan v, e, h => LeavesL P rs Q e.ds (.pan v) e h
  | .exit _, _, _ => False
  | _, e, h => LeavesL P rs Q e.ds .ret e h

section
variable {P : Program} {md : Bool}

theorem resL_congr {e e2 : Env} {h : Hp} (he : e.t = e2.t) : ∀ {rs : List ARes} {N : List AV → Prop}, resL e h rs N = resL e2 h rs N := by
  intro rs
  induction rs with
  | nil => intro N; rfl
  | cons r rs ih =>
    intro N
    cases r <;> simp only [resL, LN, ev, he, ih]

theorem leaves_sound {fn : Func} {rs : List ARes} {Q : Res → Hp → Prop} (hr : compRs P fn.results.toList = some rs) {σ0 : Emb} {M0 : Mem} {w0 : World} {tmps : Array Value} :
    ∀ (ds : List ADef) (ds' : List Deferred) (u : Um) (u' : FrameMode) (e : Env) (h : Hp) (σ : Emb) (M : Mem) (w : World), Ext σ0 M0 w0 σ M w → R P σ M h w → (∀ x, VR σ M (e.t x) (tmps.getD x undef)) →
      ds'.length = ds.length → (∀ (j : Nat) (x : ADef), ds[j]? = some x → ∃ y, ds'[j]? = some y ∧ DefR σ M x y) → UmR σ M u u' → LeavesL P rs Q ds u e h →
      LeavesInM Fence.wide 0 P fn tmps (fun e w' => ∃ σ' M' h', Ext σ0 M0 w0 σ' M' w' ∧ R P σ' M' h' w' ∧ EndR σ' M' (fun r => Q r h') e) ds' u' w := by
  intro ds
  induction ds with
  | nil =>
    intro ds' u u' e h σ M w hE hR ht hlen hd hU hl
    have : ds' = [] := List.eq_nil_of_length_eq_zero hlen
    subst this
    cases u with
    | ret =>
      cases u' <;> simp only [UmR] at hU
      obtain ⟨v', vs, h1, h2, h3⟩ := results_ok (a := { tmps := tmps, defers := [] }) (e := ⟨tmps.size, e.t, []⟩) hR ⟨rfl, ht, rfl, fun j x hj => by simp at hj⟩ hr (Eq.mp (resL_congr (e := e) (e2 := ⟨tmps.size, e.t, []⟩) rfl) (show resL e h rs fun l => Q (.ret (oneV l)) h from hl))
      exact ⟨v', h1, σ, M, h, hE, hR, oneV vs, h2, h3⟩
    | pan v =>
      cases u' <;> simp only [UmR] at hU
      obtain ⟨v', rfl, hv⟩ := hU
      exact ⟨σ, M, h, hE, hR, v, v', rfl, hv, hl⟩
    | rcv v => exact hl.elim
  | cons d ds ih =>
    intro ds' u u' e h σ M w hE hR ht hlen hd hU hl
    cases ds' with
    | nil => simp at hlen
    | cons d' ds' =>
      obtain ⟨y, hy, hyd⟩ := hd 0 d rfl
      simp at hy; subst hy
      have hd' : ∀ (j : Nat) (x : ADef), ds[j]? = some x → ∃ y, ds'[j]? = some y ∧ DefR σ M x y := fun j x hj => let ⟨y, q1, q2⟩ := hd (j + 1) x (by simpa using hj); ⟨y, by simpa using q1, q2⟩
      refine ⟨hU.notRun, ?_⟩
      cases d with
      | mark i =>
        obtain ⟨hi, hl⟩ := hl
        obtain ⟨L, hL, htgt⟩ := hyd
        have hb : w.heap[L.b]? = some (.deferred (some [])) := hR.blk i _ L hi hL
        refine .inl ⟨L.b, _, htgt, run_takeDeferred hb, ?_⟩
        have hoth : ∀ B, B ≠ L.b → (w.putObj L.b (.deferred none)).heap[B]? = w.heap[B]? := fun B hB => by simp [World.putObj, Array.getElem?_setIfInBounds, Ne.symm hB]
        have hE1 : Ext σ M w σ M (w.putObj L.b (.deferred none)) := ⟨σ.le_refl, M.le_refl, by simp [World.putObj], rfl, rfl, rfl⟩
        exact ih ds' _ _ e _ σ M _ (hE.trans hE1) (hR.kill hi hL hoth) ht (by simpa using hlen) hd' hU hl
      | call g cap args =>
        cases g with
        | func f =>
          obtain ⟨⟨g, hg, hb, hn⟩, hl⟩ := hl
          obtain ⟨⟨c', ht1, ht2⟩, ha⟩ := hyd
          have hinv : (invoke d'.target d'.args).run P w = .ok (.enter f (d'.args ++ c')) w := by
            have hb' : g.body.isNone = false := by cases hh : g.body <;> simp_all
            have hp : (program).run P w = .ok P w := rfl
            rw [ht1]
            simp only [invoke, callFunc, Sem.run_bind, hp, Result.andThen, hg, hn, hb', Bool.false_eq_true, if_false, Sem.run_pure]
          refine .inr ⟨fun h => by simp [Fence.wide] at h, .func f, c', f, _, ht1, hinv, fun _ _ => trivial, ?_⟩
          refine (hl.run σ M w _ u' hR (ha.append ht2) hU).mono fun e1 u1 w1 ⟨σ1, M1, h1, um, hE1, hR1, hU1, hend⟩ => ?_
          cases e1 with
          | returned v' =>
            obtain ⟨v, _, hq⟩ := hend
            exact ih ds' _ _ e h1 σ1 M1 w1 (hE.trans hE1) hR1 (fun x => (ht x).mono hE1.s hE1.m) (by simpa using hlen)
              (fun j x hj => let ⟨y, q1, q2⟩ := hd' j x hj; ⟨y, q1, q2.mono hE1.s hE1.m⟩) hU1.settle hq
          | panicked ch => obtain ⟨v, v', _, _, hq⟩ := hend; exact hq.elim
          | outgrown => exact hend.elim
        | _ => exact hl.elim

theorem actR_env0 {σ : Emb} {M : Mem} {args : List AV} {args' : Array Value} {n : Nat} (hn : args.length ≤ n) (hargs : VRs σ M args args') :
    ActR σ M (env0 n args) { tmps := args' ++ Array.replicate (n - args'.size) undef, defers := [] } := by
  have hsz : args'.size = args.length := hargs.1
  refine ⟨by simp [env0]; omega, fun x => ?_, rfl, fun j y hj => by simp [env0] at hj⟩
  simp only [env0, Array.getD_eq_getD_getElem?]
  by_cases hx : x < args.length
  · obtain ⟨v', h1, h2⟩ := hargs.2 x _ (List.getElem?_eq_getElem hx)
    rw [Array.getElem?_append_left (by omega), h1, List.getElem?_eq_getElem hx]
    exact h2
  · rw [List.getElem?_eq_none (by omega), Array.getElem?_append_right (by omega)]
    simp only [Option.getD_none]
    by_cases hx2 : x - args'.size < n - args'.size
    · rw [Array.getElem?_replicate, if_pos hx2]; exact VR.tup' .nil
    · rw [Array.getElem?_replicate, if_neg hx2]; exact VR.tup' .nil

theorem compF_inv {fn : Func} {ac : ACode} {rs : List ARes} (hc : compF P fn = some (ac, rs)) : ∃ c, fn.body = some c ∧ compC P fn.ntmps c = some ac ∧ compRs P fn.results.toList = some rs := by
  unfold compF at hc
  split at hc
  · cases hc
  · rename_i c hb
    split at hc
    · rename_i a r h1 h2
      cases hc
      exact ⟨c, hb, h1, h2⟩
    · cases hc

/-- A function that defers: its contract. -/
theorem CallL.ofD {f : FuncId} {fn : Func} {ac : ACode} {rs : List ARes} {args : List AV} {h : Hp} {Q : Res → Hp → Prop} (hf : P.funcs[f]? = some fn) (hc : compF P fn = some (ac, rs)) (hn : args.length ≤ fn.ntmps)
    (hl : LCode P md ac (EndQD P rs Q) (env0 fn.ntmps args) h) : CallL P f args h Q := by
  obtain ⟨c, hb, hc, hr⟩ := compF_inv hc
  constructor
  intro σ M w args' hR hargs
  refine callsIn_of_wp_marks hf hb trivial ?_
  refine wpIn_mono (LCode_sound (ro := none) c ac hc (.inl rfl) _ _ h rfl hl σ M w _ hR (actR_env0 hn hargs)) ?_
  rintro x a' w' ⟨σ', M', h', e', y, hE, hR', hA', hX, hQ, _⟩
  have fin : ∀ u u', UmR σ' M' u u' → LeavesL P rs Q e'.ds u e' h' → LeavesInM Fence.wide 0 P fn a'.tmps (fun e w' => ∃ σ' M' h', Ext σ M w σ' M' w' ∧ R P σ' M' h' w' ∧ EndR σ' M' (fun r => Q r h') e) a'.defers u' w' := fun u u' hU hl =>
    leaves_sound hr _ _ _ _ _ _ _ _ _ hE hR' hA'.t hA'.dl hA'.d hU hl
  cases y with
  | normal => cases x <;> simp only [XitR] at hX; exact fin .ret .returning trivial hQ
  | exit i => exact hQ.elim
  | ret => cases x <;> simp only [XitR] at hX; exact fin .ret .returning trivial hQ
  | pan v =>
    cases x <;> simp only [XitR] at hX
    obtain ⟨v', rfl, hv⟩ := hX
    exact fin (.pan v) _ ⟨v', rfl, hv⟩ hQ

/-- A function that neither defers nor recovers, as a deferred call. -/
theorem DefL.of {f : FuncId} {fn : Func} {ac : ACode} {rs : List ARes} {args : List AV} {h : Hp} {u : Um} {Q : Res → Um → Hp → Prop} (hf : P.funcs[f]? = some fn) (hc : compF P fn = some (ac, rs)) (hn : args.length ≤ fn.ntmps)
    (hl : LCode P md ac (EndQ rs fun r h => Q r u h) (env0 fn.ntmps args) h) : DefL P f args u h Q := by
  obtain ⟨c, hb, hc, hr⟩ := compF_inv hc
  constructor
  intro σ M w args' u' hR hargs hU
  refine (callsDIn_of_wp (R := fun e w' => ∃ σ' M' h', Ext σ M w σ' M' w' ∧ R P σ' M' h' w' ∧ EndR σ' M' (fun r => Q r u h') e) hf hb trivial ?_).mono ?_
  · refine wpIn_mono (LCode_sound (ro := none) c ac hc (.inl rfl) _ _ h rfl hl σ M w _ hR (actR_env0 hn hargs)) ?_
    rintro x a' w' ⟨σ', M', h', e', y, hE, hR', hA', hX, hQ, _⟩
    have fin : (e'.ds = [] ∧ resL e' h' rs fun l => Q (.ret (oneV l)) u h') → a'.defers = [] ∧ ∃ v, (results fn a'.tmps).run P w' = .ok v w' ∧ ∃ σ' M' h', Ext σ M w σ' M' w' ∧ R P σ' M' h' w' ∧ EndR σ' M' (fun r => Q r u h') (.returned v) := by
      rintro ⟨hd, hl⟩
      obtain ⟨v', vs, h1, h2, h3⟩ := results_ok hR' hA' hr hl
      exact ⟨List.eq_nil_of_length_eq_zero (by rw [hA'.dl, hd]; rfl), v', h1, σ', M', h', hE, hR', oneV vs, h2, h3⟩
    cases y with
    | normal => cases x <;> simp only [XitR] at hX; exact fin hQ
    | exit i => exact hQ.elim
    | ret => cases x <;> simp only [XitR] at hX; exact fin hQ
    | pan v =>
      cases x <;> simp only [XitR] at hX
      obtain ⟨v', rfl, hv⟩ := hX
      exact ⟨List.eq_nil_of_length_eq_zero (by rw [hA'.dl, hQ.1]; rfl), σ', M', h', hE, hR', v, v', rfl, hv, hQ.2⟩
  · rintro e u1 w' ⟨rfl, σ', M', h', hE, hR', hend⟩
    exact ⟨σ', M', h', u, hE, hR', hU.mono hE.s hE.m, hend⟩

/-! ### Code that may recover -/

/-- Slots moved. -/
def putsE (e : Env) : List (Option Nat × AOpd) → Env
  | [] => e
  | (d, x) :: r => putsE (e.put d (ev e x)) r

def LCodeS (P : Program) (md : Bool) : ACode → (Xit → Env → Hp → Um → Prop) → Env → Hp → Um → Prop
  | .seq a b, Q, e, h, u => LCodeS P md a (fun x e h u => match x with | .normal => LCodeS P md b Q e h u | x => Q x e h u) e h u
  | .cond c a b, Q, e, h, u => match ev e c with
    | .bool t => bcase t true (LCodeS P md a Q e h u) (LCodeS P md b Q e h u)
    | _ => False
  | .recv d ms, Q, e, h, u => match u with
    | .pan v => Q .normal (putsE (e.put d v) ms) h (.rcv v)
    | u => Q .normal (putsE (e.put d .nili) ms) h u
  | c, Q, e, h, u => LCode P md c (fun x e h => Q x e h u) e h

def PostS (P : Program) (σ : Emb) (M : Mem) (w : World) (c0 : Frame) (cs : List Frame) (Q : Xit → Env → Hp → Um → Prop) : Exit → Act → List Frame → World → Prop := fun x a' cs' w' =>
  ∃ σ' M' h' e' y um u', Ext σ M w σ' M' w' ∧ R P σ' M' h' w' ∧ ActR σ' M' e' a' ∧ XitR σ' M' y x ∧ UmR σ' M' um u' ∧ cs' = { c0 with mode := u' } :: cs ∧ Q y e' h' um

theorem PostS.of_ext {σ σ1 : Emb} {M M1 : Mem} {w w1 : World} {c0 : Frame} {cs : List Frame} {Q : Xit → Env → Hp → Um → Prop} (h : Ext σ M w σ1 M1 w1) {x : Exit} {a' : Act} {cs' : List Frame} {w' : World}
    (k : PostS P σ1 M1 w1 c0 cs Q x a' cs' w') : PostS P σ M w c0 cs Q x a' cs' w' :=
  let ⟨σ', M', h', e', y, um, u', k1, k2⟩ := k; ⟨σ', M', h', e', y, um, u', h.trans k1, k2⟩

theorem wpSIn_mono {F : Fence} {n : Nat} {c : Code} {Q Q' : Exit → Act → List Frame → World → Prop} {a : Act} {cs : List Frame} {w : World} (h : c.wpSIn F n P Q a cs w) (hq : ∀ x a cs w, Q x a cs w → Q' x a cs w) : c.wpSIn F n P Q' a cs w :=
  fun b k h1 h2 h3 h4 => let ⟨e, a', cs', w', l, q, r⟩ := h b k h1 h2 h3 h4; ⟨e, a', cs', w', l, hq _ _ _ _ q, r⟩

theorem movs_sound {n : Nat} {ops : Array Oper} {σ : Emb} {M : Mem} {w : World} {cs : List Frame} {Q' : Exit → Act → List Frame → World → Prop} :
    ∀ (l : List Nat) (os : List Oper) (ms : List (Option Nat × AOpd)), (∀ (j i : Nat), l[j]? = some i → ∃ o, ops[i]? = some o ∧ os[j]? = some o) → l.length = os.length → movsOf n os = some ms →
      ∀ (e : Env) (a : Act), e.n = n → ActR σ M e a → (∀ a', ActR σ M (putsE e ms) a' → (putsE e ms).n = n → Q' .normal a' cs w) → wpOpsSIn Fence.wide 0 P ops Q' l a cs w := by
  intro l
  induction l with
  | nil =>
    intro os ms _ hlen hms e a hn hA hQ
    have : os = [] := List.eq_nil_of_length_eq_zero hlen.symm
    subst this; cases hms
    exact hQ a hA hn
  | cons i l ih =>
    intro os ms hget hlen hms e a hn hA hQ
    cases os with
    | nil => simp at hlen
    | cons o os =>
      obtain ⟨o', ho, ho'⟩ := hget 0 i rfl
      simp at ho'; subst ho'
      unfold movsOf at hms
      split at hms <;> cases hms
      rename_i m ms hm hms
      have hone : ∃ x, (o.op = .move x ∨ o.op = .assign x) ∧ o.guard = none ∧ ∃ y, copd x = some y ∧ m = (o.dst, y) ∧ ∀ d, o.dst = some d → d < n := by
        unfold movOf at hm
        split at hm <;> first | cases hm | skip
        all_goals
          rename_i x hop hg
          split at hm <;> cases hm
          rename_i y hx hd
          refine ⟨x, by first | exact .inl hop | exact .inr hop, hg, y, hx, rfl, fun d he => ?_⟩
          rw [he] at hd
          have hd2 : Nat.ble (d + 1) n = true := hd
          exact Nat.le_of_ble_eq_true hd2
      obtain ⟨x, hop, hg, y, hx, rfl, hd⟩ := hone
      have hrun : (execOp a.eval o).run P w = .ok (.value (a.eval x)) w := by rcases hop with hop | hop <;> simp [execOp, hop]
      simp only [wpOpsSIn, ho]
      refine ⟨fun _ _ => trivial, ?_⟩
      have hw : Region.wanted o (yielded ops a.tmps) = true := by simp [Region.wanted, hg]
      rw [if_pos hw]
      simp only [hrun]
      refine ih os ms (fun j i hj => by obtain ⟨o', q1, q2⟩ := hget (j + 1) i (by simpa using hj); exact ⟨o', q1, by simpa using q2⟩) (by simpa using hlen) hms (e.put o.dst (ev e y)) _ (by cases o.dst <;> exact hn)
        (hA.put (fun d he => by rw [hn]; exact hd d he) (copd_ok hx hA)) hQ

def plainA : ACode → Bool
  | .seq .. => false
  | .cond .. => false
  | .recv .. => false
  | _ => true
theorem LCodeS_plain {c : ACode} (hp : plainA c = true) {Q : Xit → Env → Hp → Um → Prop} {e : Env} {h : Hp} {u : Um} (hl : LCodeS P md c Q e h u) : LCode P md c (fun x e h => Q x e h u) e h := by
  cases c <;> first | exact hl | cases hp
theorem plainA_orders {ops : Array Oper} {la : List AOper} : plainA (ordersOf ops la) = true := by unfold ordersOf; split <;> rfl
theorem plainA_draw {n : Nat} {ops : Array Oper} : plainA (drawC P n ops) = true := by
  unfold drawC
  split
  · split
    · rfl
    · split <;> rfl
  · rfl

theorem recv_sound {n : Nat} {ops : Array Oper} {d : Option Nat} {ms : List (Option Nat × AOpd)} (hc : recvOf n ops = some (.recv d ms)) {Q : Xit → Env → Hp → Um → Prop} {e : Env} {h : Hp} {u : Um} (hn : e.n = n) (hl : LCodeS P md (.recv d ms) Q e h u)
    {σ : Emb} {M : Mem} {w : World} {a : Act} {c0 : Frame} {cs : List Frame} {u' : FrameMode} {id : Nat} (hR : R P σ M h w) (hA : ActR σ M e a) (hU : UmR σ M u u') :
    (Code.region id ops false).wpSIn Fence.wide 0 P (PostS P σ M w c0 cs fun x e h u => Q x e h u ∧ e.n = n) a ({ c0 with mode := u' } :: cs) w := by
  refine wpSIn_region ?_
  unfold recvOf at hc
  split at hc <;> first | cases hc | skip
  rename_i o r hops
  split at hc <;> first | cases hc | skip
  rename_i c hop hg
  split at hc <;> cases hc
  rename_i hcal hargs hd hms
  have hsz : ops.size = r.length + 1 := by rw [← Array.length_toList, hops]; rfl
  have ho : ops[0]? = some o := by rw [← Array.getElem?_toList, hops]; rfl
  have hrange : List.range ops.size = 0 :: (List.range r.length).map (· + 1) := by rw [hsz, List.range_succ_eq_map]
  rw [hrange]
  have hrun : (execOp a.eval o).run P w = .ok .recover w := by
    have : c.args = #[] := by rw [← Array.toArray_toList (xs := c.args), hargs]
    simp [execOp, hop, resolve, hcal, invoke, builtin]
  have hw : Region.wanted o (yielded ops a.tmps) = true := by simp [Region.wanted, hg]
  have hlt : ∀ d, o.dst = some d → d < e.n := fun d he => by
    rw [he] at hd
    have hd2 : Nat.ble (d + 1) n = true := hd
    rw [hn]; exact Nat.le_of_ble_eq_true hd2
  have rest : ∀ (v : AV) (v' : Value) (um : Um) (u1 : FrameMode), VR σ M v v' → UmR σ M um u1 → Q .normal (putsE (e.put o.dst v) ms) h um →
      wpOpsSIn Fence.wide 0 P ops (PostS P σ M w c0 cs fun x e h u => Q x e h u ∧ e.n = n) ((List.range r.length).map (· + 1)) (a.put o.dst v') ({ c0 with mode := u1 } :: cs) w := by
    intro v v' um u1 hv hU1 hQ
    refine movs_sound _ r ms (fun j i hj => ?_) (by simp) hms (e.put o.dst v) _ (by cases o.dst <;> exact hn) (hA.put hlt hv) fun a' hA' hn' => ⟨σ, M, h, _, .normal, um, u1, .refl _ _ _, hR, hA', trivial, hU1, rfl, hQ, hn'⟩
    rw [List.getElem?_map] at hj
    have hjl : j < r.length := by
      rcases Nat.lt_or_ge j r.length with hh | hh
      · exact hh
      · rw [List.getElem?_eq_none (by simpa using hh)] at hj; cases hj
    rw [List.getElem?_range hjl] at hj
    cases hj
    exact ⟨r[j], by rw [← Array.getElem?_toList, hops]; simp [hjl], List.getElem?_eq_getElem hjl⟩
  simp only [wpOpsSIn, ho]
  refine ⟨fun _ _ => trivial, ?_⟩
  rw [if_pos hw]
  simp only [hrun]
  cases u with
  | ret =>
    cases u' <;> simp only [UmR] at hU
    simp only [recoverD]
    exact rest .nili .nilIface .ret .returning .nili trivial hl
  | pan v =>
    cases u' <;> simp only [UmR] at hU
    obtain ⟨v', rfl, hv⟩ := hU
    simp only [recoverD]
    exact rest v v' (.rcv v) _ hv ⟨v', rfl, hv⟩ hl
  | rcv v =>
    cases u' <;> simp only [UmR] at hU
    obtain ⟨v', rfl, hv⟩ := hU
    simp only [recoverD]
    exact rest .nili .nilIface (.rcv v) _ .nili ⟨v', rfl, hv⟩ hl

theorem LCodeS_sound {n : Nat} : ∀ (c : Code) (ac : ACode), compC P n c = some ac → ∀ (Q : Xit → Env → Hp → Um → Prop) (e : Env) (h : Hp) (u : Um), e.n = n → LCodeS P md ac Q e h u →
    ∀ (σ : Emb) (M : Mem) (w : World) (a : Act) (c0 : Frame) (cs : List Frame) (u' : FrameMode), R P σ M h w → ActR σ M e a → UmR σ M u u' →
      c.wpSIn Fence.wide 0 P (PostS P σ M w c0 cs fun x e h u => Q x e h u ∧ e.n = n) a ({ c0 with mode := u' } :: cs) w := by
  intro c
  -- code that is plain
  have plain : ∀ (c : Code) (ac : ACode), compC P n c = some ac → ∀ (Q : Xit → Env → Hp → Um → Prop) (e : Env) (h : Hp) (u : Um), e.n = n → LCode P md ac (fun x e h => Q x e h u) e h →
      ∀ (σ : Emb) (M : Mem) (w : World) (a : Act) (c0 : Frame) (cs : List Frame) (u' : FrameMode), R P σ M h w → ActR σ M e a → UmR σ M u u' →
      c.wpSIn Fence.wide 0 P (PostS P σ M w c0 cs fun x e h u => Q x e h u ∧ e.n = n) a ({ c0 with mode := u' } :: cs) w := by
    intro c ac hc Q e h u hn hl σ M w a c0 cs u' hR hA hU
    refine wpSIn_of_wpIn rfl (wpIn_mono (LCode_sound (ro := none) c ac hc (.inl rfl) _ e h hn hl σ M w a hR hA) ?_)
    rintro x a' w' ⟨σ', M', h', e', y, hE, hR', hA', hX, hQ⟩
    exact ⟨σ', M', h', e', y, u, u', hE, hR', hA', hX, hU.mono hE.s hE.m, rfl, hQ⟩
  have easy : ∀ (c : Code) (ac : ACode), plainA ac = true → compC P n c = some ac → ∀ (Q : Xit → Env → Hp → Um → Prop) (e : Env) (h : Hp) (u : Um), e.n = n → LCodeS P md ac Q e h u →
      ∀ (σ : Emb) (M : Mem) (w : World) (a : Act) (c0 : Frame) (cs : List Frame) (u' : FrameMode), R P σ M h w → ActR σ M e a → UmR σ M u u' →
      c.wpSIn Fence.wide 0 P (PostS P σ M w c0 cs fun x e h u => Q x e h u ∧ e.n = n) a ({ c0 with mode := u' } :: cs) w := fun c ac hp hc Q e h u hn hl => plain c ac hc Q e h u hn (LCodeS_plain hp hl)
  induction c with
  | seq a b iha ihb =>
    intro ac hc Q e h u hn hl σ M w act c0 cs u' hR hA hU
    simp only [compC] at hc
    split at hc <;> first | cases hc | skip
    rename_i x y hx hy
    refine wpSIn_seq (wpSIn_mono (iha x hx _ e h u hn hl σ M w act c0 cs u' hR hA hU) ?_)
    rintro z a1 cs1 w1 ⟨σ1, M1, h1, e1, y1, um, u1, hE, hR1, hA1, hX, hU1, rfl, hQ, hn1⟩
    cases y1 with
    | normal =>
      cases z <;> simp only [XitR] at hX
      exact wpSIn_mono (ihb y hy Q e1 h1 um hn1 hQ σ1 M1 w1 a1 c0 cs u1 hR1 hA1 hU1) fun _ _ _ _ => PostS.of_ext hE
    | exit i => cases z <;> simp only [XitR] at hX; exact ⟨σ1, M1, h1, e1, .exit i, um, u1, hE, hR1, hA1, hX, hU1, rfl, hQ, hn1⟩
    | ret => cases z <;> simp only [XitR] at hX; exact ⟨σ1, M1, h1, e1, .ret, um, u1, hE, hR1, hA1, trivial, hU1, rfl, hQ, hn1⟩
    | pan v => cases z <;> simp only [XitR] at hX; exact ⟨σ1, M1, h1, e1, .pan v, um, u1, hE, hR1, hA1, hX, hU1, rfl, hQ, hn1⟩
  | cond c a b iha ihb =>
    intro ac hc Q e h u hn hl σ M w act c0 cs u' hR hA hU
    simp only [compC] at hc
    split at hc <;> first | cases hc | skip
    rename_i z x y hz hx hy
    simp only [LCodeS] at hl
    split at hl <;> first | exact hl.elim | skip
    rename_i t ht
    have h1 := copd_ok hz hA
    rw [ht] at h1
    refine wpSIn_cond (t := t) h1.bool_inv ?_
    cases t with
    | true => exact iha x hx Q e h u hn hl σ M w act c0 cs u' hR hA hU
    | false => exact ihb y hy Q e h u hn hl σ M w act c0 cs u' hR hA hU
  | region id ops draw =>
    intro ac hc Q e h u hn hl σ M w act c0 cs u' hR hA hU
    cases draw with
    | true =>
      refine easy _ ac ?_ hc Q e h u hn hl σ M w act c0 cs u' hR hA hU
      simp only [compC] at hc
      split at hc <;> cases hc
      · exact plainA_draw
      · rfl
    | false =>
      have hc0 := hc
      simp only [compC] at hc
      cases hc
      cases hreg : regC P n ops with
      | seq x y =>
        rw [hreg] at hl
        have hx : plainA x = true ∧ plainA y = true := by
          unfold regC at hreg
          split at hreg
          · split at hreg <;> cases hreg; exact ⟨rfl, rfl⟩
          · split at hreg
            · rename_i c hcc
              subst hreg
              unfold recvOf at hcc
              split at hcc <;> first | cases hcc | skip
              split at hcc <;> first | cases hcc | skip
              split at hcc <;> cases hcc
            · split at hreg <;> cases hreg
        have hops : ∃ la, x = .ops la := by
          unfold regC at hreg
          split at hreg
          · split at hreg <;> cases hreg; exact ⟨_, rfl⟩
          · split at hreg
            · rename_i c hcc
              subst hreg
              unfold recvOf at hcc
              split at hcc <;> first | cases hcc | skip
              split at hcc <;> first | cases hcc | skip
              split at hcc <;> cases hcc
            · split at hreg <;> cases hreg
        obtain ⟨la, rfl⟩ := hops
        refine plain _ _ hc0 Q e h u hn ?_ σ M w act c0 cs u' hR hA hU
        rw [hreg]
        have hl1 : LOps P md la (fun e h => LCodeS P md y Q e h u) (fun v e h => Q (.pan v) e h u) e h := hl
        exact LOps_mono hl1 (fun e h hy => LCodeS_plain hx.2 hy) (fun v e h hq => hq)
      | recv d ms =>
        rw [hreg] at hl
        refine recv_sound ?_ hn hl hR hA hU
        unfold regC at hreg
        split at hreg
        · split at hreg <;> cases hreg
        · split at hreg
          · rename_i c hcc; rw [hcc, hreg]
          · split at hreg <;> cases hreg
      | cond _ _ _ =>
        exfalso
        unfold regC at hreg
        split at hreg
        · split at hreg <;> cases hreg
        · split at hreg
          · rename_i c hcc
            subst hreg
            unfold recvOf at hcc
            split at hcc <;> first | cases hcc | skip
            split at hcc <;> first | cases hcc | skip
            split at hcc <;> cases hcc
          · split at hreg <;> cases hreg
      | _ => exact easy _ _ (by rw [hreg]; rfl) hc0 Q e h u hn hl σ M w act c0 cs u' hR hA hU
  | skip => intro ac hc; refine easy _ ac ?_ hc; cases hc; rfl
  | exit i => intro ac hc; refine easy _ ac ?_ hc; cases hc; rfl
  | ret => intro ac hc; refine easy _ ac ?_ hc; cases hc; rfl
  | loop c ih => intro ac hc; refine easy _ ac ?_ hc; obtain ⟨x, hx, rfl⟩ := Option.map_some_inv hc; rfl
  | block i c ih => intro ac hc; refine easy _ ac ?_ hc; obtain ⟨x, hx, rfl⟩ := Option.map_some_inv hc; rfl
  | rangeFunc f ps a b iha ihb =>
    intro ac hc; refine easy _ ac ?_ hc
    simp only [compC] at hc
    split at hc <;> first | cases hc | skip
    split at hc <;> cases hc <;> rfl
  | scope c ih => intro ac hc; refine easy _ ac ?_ hc; cases hc; rfl
  | label l => intro ac hc; refine easy _ ac ?_ hc; cases hc; rfl
  | goto l => intro ac hc; refine easy _ ac ?_ hc; cases hc; rfl
  | refuse s => intro ac hc; refine easy _ ac ?_ hc; cases hc; rfl

def EndQS (rs : List ARes) (Q : Res → Um → Hp → Prop) : Xit → Env → Hp → Um → Prop
  | .pan v, e, h, u => e.ds = [] ∧ Q (.pan v) u h
  | .exit _, _, _, _ => False
  | _, e, h, u => e.ds = [] ∧ resL e h rs fun l => Q (.ret (oneV l)) u h

/-- A function that may recover, as a deferred call. -/
theorem DefL.ofS {f : FuncId} {fn : Func} {ac : ACode} {rs : List ARes} {args : List AV} {h : Hp} {u : Um} {Q : Res → Um → Hp → Prop} (hf : P.funcs[f]? = some fn) (hc : compF P fn = some (ac, rs)) (hn : args.length ≤ fn.ntmps)
    (hl : LCodeS P md ac (EndQS rs Q) (env0 fn.ntmps args) h u) : DefL P f args u h Q := by
  obtain ⟨c, hb, hc, hr⟩ := compF_inv hc
  constructor
  intro σ M w args' u' hR hargs hU
  refine callsDIn_of_wpSIn hf hb trivial fun c0 cs hu => ?_
  have hcs : ({ c0 with mode := u' } : Frame) = c0 := by subst hu; rfl
  have := LCodeS_sound c ac hc _ _ h u rfl hl σ M w _ c0 cs u' hR (actR_env0 hn hargs) hU
  rw [hcs] at this
  refine wpSIn_mono this ?_
  rintro x a' cs' w' ⟨σ', M', h', e', y, um, u1, hE, hR', hA', hX, hU', rfl, hQ, _⟩
  have fin : (e'.ds = [] ∧ resL e' h' rs fun l => Q (.ret (oneV l)) um h') → a'.defers = [] ∧ ∃ v, (results fn a'.tmps).run P w' = .ok v w' ∧ ∃ σ' M' h' um, Ext σ M w σ' M' w' ∧ R P σ' M' h' w' ∧ UmR σ' M' um u1 ∧ EndR σ' M' (fun r => Q r um h') (.returned v) := by
    rintro ⟨hd, hl⟩
    obtain ⟨v', vs, h1, h2, h3⟩ := results_ok hR' hA' hr hl
    exact ⟨List.eq_nil_of_length_eq_zero (by rw [hA'.dl, hd]; rfl), v', h1, σ', M', h', um, hE, hR', hU', oneV vs, h2, h3⟩
  cases y with
  | normal =>
    cases x <;> simp only [XitR] at hX
    obtain ⟨h1, v, h2, h3⟩ := fin hQ
    exact ⟨h1, u1, rfl, v, h2, h3⟩
  | exit i => exact hQ.elim
  | ret =>
    cases x <;> simp only [XitR] at hX
    obtain ⟨h1, v, h2, h3⟩ := fin hQ
    exact ⟨h1, u1, rfl, v, h2, h3⟩
  | pan v =>
    cases x <;> simp only [XitR] at hX
    obtain ⟨v', rfl, hv⟩ := hX
    exact ⟨List.eq_nil_of_length_eq_zero (by rw [hA'.dl, hQ.1]; rfl), u1, rfl, σ', M', h', um, hE, hR', hU', v, v', rfl, hv, hQ.2⟩
end
end Go.L

/-
  The logic L, part w2: codes of which ways that are not taken have been cut.
-/
namespace Go.L

/-- Short words for operations. -/
def mv (d x : Nat) : AOper := ⟨some d, .mov (.t x), none⟩
def o_ (d : Nat) (o : AOp) : AOper := ⟨some d, o, none⟩
def n_ (o : AOp) : AOper := ⟨none, o, none⟩
def g_ (d : Nat) (o : AOp) (t : Nat) : AOper := ⟨some d, o, some (t, true)⟩
def i_ (n : Int) : AOpd := .c (.int .i64 n)

/-- Code that does not end plainly. -/
def noN : ACode → Bool
  | .exit _ => true
  | .ret => true
  | .bad => true
  | .loop _ => true
  | .seq a b => noN a || noN b
  | .cond _ a b => noN a && noN b
  | _ => false
/-- Of each '.orr' and '.cond', in order: 0: both stay, 1: the first one, 2: the second one (of '.cond': 3: none). -/
def cutA : ACode → List Nat → ACode × List Nat
  | .seq a b, l => match cutA a l with
    | (a', l1) => match cutA b l1 with
      | (b', l2) => (.seq a' (cond (noN a') .bad b'), l2)
  | .cond c a b, k :: l => match k with
    | 1 => match cutA a l with
      | (a', l1) => (.cond c a' .bad, l1)
    | 2 => match cutA b l with
      | (b', l1) => (.cond c .bad b', l1)
    | 3 => (.cond c .bad .bad, l)
    | _ => match cutA a l with
      | (a', l1) => match cutA b l1 with
        | (b', l2) => (.cond c a' b', l2)
  | .block id c, l => match cutA c l with
    | (c', l1) => (.block id c', l1)
  | .loop c, l => match cutA c l with
    | (c', l1) => (.loop c', l1)
  | .orr a b, k :: l => match plainA a && plainA b with
    | true => match k with
      | 1 => cutA a l
      | 2 => cutA b l
      | _ => match cutA a l with
        | (a', l1) => match cutA b l1 with
          | (b', l2) => (.orr a' b', l2)
    | false => (.orr a b, l)
  | c, l => (c, l)

section
variable {P : Program} {md : Bool}

theorem rngQ_mono {j : Nat} {Q Q' : Xit → Env → Hp → Prop} {e : Env} {h : Hp} (hq : ∀ y e h, Q y e h → Q' y e h) (k : rngQ j Q e h) : rngQ j Q' e h := by
  obtain ⟨pend, n, t, ps, K, st, pd, h1, h2, h3⟩ := k
  refine ⟨pend, n, t, ps, K, st, pd, h1, h2, h3.mono fun h hh => ?_⟩
  cases pend with
  | none => exact hq _ _ _ hh
  | some p => cases p <;> exact hq _ _ _ hh

theorem LAlts_mono {K K' : Env → Hp → Prop} {X X' : AV → Env → Hp → Prop} (hk : ∀ e h, K e h → K' e h) (hx : ∀ v e h, X v e h → X' v e h) : ∀ {ls : List (List AOper)} {e : Env} {h : Hp}, LAlts P md ls K X e h → LAlts P md ls K' X' e h
  | [], _, _, _ => trivial
  | [_], _, _, hl => LOps_mono hl hk hx
  | _ :: _ :: _, _, _, hl => ⟨LOps_mono hl.1 hk hx, LAlts_mono hk hx hl.2⟩

theorem LCode_mono : ∀ (c : ACode) {Q Q' : Xit → Env → Hp → Prop} {e : Env} {h : Hp}, LCode P md c Q e h → (∀ y e h, Q y e h → Q' y e h) → LCode P md c Q' e h := by
  intro c
  have thn : ∀ {K K' : Env → Hp → Prop} {Q Q' : Xit → Env → Hp → Prop}, (∀ e h, K e h → K' e h) → (∀ y e h, Q y e h → Q' y e h) → ∀ y e h, andThen K Q y e h → andThen K' Q' y e h := by
    intro K K' Q Q' hk hq y e h hh
    cases y with
    | normal => exact hk _ _ hh
    | exit i => exact hq _ _ _ hh
    | ret => exact hq _ _ _ hh
    | pan v => exact hq _ _ _ hh
  induction c with
  | skip => intro Q Q' e h hl hq; exact hq _ _ _ hl
  | ops l => intro Q Q' e h hl hq; exact LOps_mono hl (fun e h => hq _ _ _) fun v e h => hq _ _ _
  | seq a b iha ihb => intro Q Q' e h hl hq; exact iha hl (thn (fun e h hb => ihb hb hq) hq)
  | cond c a b iha ihb =>
    intro Q Q' e h hl hq
    simp only [LCode] at hl ⊢
    split at hl <;> first | exact hl.elim | skip
    rename_i t _
    cases t with
    | true => exact iha hl hq
    | false => exact ihb hl hq
  | block id c ih =>
    intro Q Q' e h hl hq
    refine ih hl fun y e h hh => ?_
    cases y with
    | exit j =>
      simp only [inBlk] at hh ⊢
      split
      · rename_i hj; rw [if_pos hj] at hh; exact hq _ _ _ hh
      · rename_i hj; rw [if_neg hj] at hh; exact hq _ _ _ hh
    | normal => exact hq _ _ _ hh
    | ret => exact hq _ _ _ hh
    | pan v => exact hq _ _ _ hh
  | loop c ih =>
    intro Q Q' e h hl hq
    obtain ⟨I, h0, hr⟩ := hl
    exact ⟨I, h0, fun n e h hI => ih (hr n e h hI) (thn (fun e h hh => hh) hq)⟩
  | exit id => intro Q Q' e h hl hq; exact hq _ _ _ hl
  | ret => intro Q Q' e h hl hq; exact hq _ _ _ hl
  | bad => intro Q Q' e h hl hq; exact hl.elim
  | alts D ls => intro Q Q' e h hl hq; exact LAlts_mono (fun e h => hq _ _ _) (fun v e h hX g hg => hq _ _ _ (hX g hg)) hl
  | orr a b iha ihb => intro Q Q' e h hl hq; exact Or.imp (fun h => iha h hq) (fun h => ihb h hq) hl
  | dfr x args =>
    intro Q Q' e h hl hq
    simp only [LCode] at hl ⊢
    split at hl <;> first | exact hl.elim | exact hq _ _ _ hl
  | recv d ms => intro Q Q' e h hl hq; exact hl.elim
  | rngf g ps a b iha ihb =>
    intro Q Q' e h hl hq
    simp only [LCode] at hl ⊢
    split at hl <;> first | exact hl.elim | skip
    refine ⟨hl.1, hl.2.mono fun i hi => hi.mono fun j hj => hj.mono fun r h' hr => ?_⟩
    cases r with
    | ret v => exact rngQ_mono hq hr
    | pan v => exact hq _ _ _ hr

theorem LCodeS_mono : ∀ (c : ACode) {Q Q' : Xit → Env → Hp → Um → Prop} {e : Env} {h : Hp} {u : Um}, LCodeS P md c Q e h u → (∀ y e h u, Q y e h u → Q' y e h u) → LCodeS P md c Q' e h u := by
  intro c
  have plain : ∀ (c : ACode) {Q Q' : Xit → Env → Hp → Um → Prop} {e : Env} {h : Hp} {u : Um}, LCode P md c (fun x e h => Q x e h u) e h → (∀ y e h u, Q y e h u → Q' y e h u) → LCode P md c (fun x e h => Q' x e h u) e h :=
    fun c _ _ _ _ _ hl hq => LCode_mono c hl fun y e h => hq y e h _
  induction c with
  | seq a b iha ihb =>
    intro Q Q' e h u hl hq
    refine iha hl fun y e h u hh => ?_
    cases y with
    | normal => exact ihb hh hq
    | exit i => exact hq _ _ _ _ hh
    | ret => exact hq _ _ _ _ hh
    | pan v => exact hq _ _ _ _ hh
  | cond c a b iha ihb =>
    intro Q Q' e h u hl hq
    simp only [LCodeS] at hl ⊢
    split at hl <;> first | exact hl.elim | skip
    rename_i t _
    cases t with
    | true => exact iha hl hq
    | false => exact ihb hl hq
  | recv d ms =>
    intro Q Q' e h u hl hq
    cases u <;> exact hq _ _ _ _ hl
  | _ => intro Q Q' e h u hl hq; exact plain _ hl hq

theorem plain_cut : ∀ (c : ACode) (l : List Nat), plainA c = true → plainA (cutA c l).1 = true := by
  intro c
  induction c with
  | orr a b iha ihb =>
    intro l _
    cases l with
    | nil => rfl
    | cons k l =>
      unfold cutA
      split
      · rename_i hp
        simp only [Bool.and_eq_true] at hp
        split
        · exact iha _ hp.1
        · exact ihb _ hp.2
        · rfl
      · rfl
  | seq a b _ _ => intro l h; cases h
  | cond c a b _ _ => intro l h; cases h
  | recv d ms => intro l h; cases h
  | _ => intro l _; rfl

/-- What holds of the cut code holds of the whole one. -/
theorem cutA_ok : ∀ (c : ACode) (l : List Nat) {Q : Xit → Env → Hp → Prop} {e : Env} {h : Hp}, LCode P md (cutA c l).1 Q e h → LCode P md c Q e h := by
  intro c
  induction c with
  | seq a b iha ihb =>
    intro l Q e h hl
    have hb : ∀ {x : Bool} {e : Env} {h : Hp}, LCode P md (cond x .bad (cutA b (cutA a l).2).1) Q e h → LCode P md b Q e h := fun {x e h} hx => by
      cases x
      · exact ihb _ hx
      · exact (show False from hx).elim
    refine iha l (LCode_mono _ (show LCode P md (cutA a l).1 (andThen (fun e h => LCode P md (cond (noN (cutA a l).1) .bad (cutA b (cutA a l).2).1) Q e h) Q) e h from hl) fun y e h hh => ?_)
    cases y with
    | normal => exact hb hh
    | exit i => exact hh
    | ret => exact hh
    | pan v => exact hh
  | cond c a b iha ihb =>
    intro l Q e h hl
    cases l with
    | nil => exact hl
    | cons k l =>
      have key : ∀ {a' b' : ACode}, (LCode P md a' Q e h → LCode P md a Q e h) → (LCode P md b' Q e h → LCode P md b Q e h) → LCode P md (.cond c a' b') Q e h → LCode P md (.cond c a b) Q e h := by
        intro a' b' ha hb hl
        simp only [LCode] at hl ⊢
        split at hl <;> first | exact hl.elim | skip
        rename_i t _
        cases t with
        | true => exact ha hl
        | false => exact hb hl
      have bad : ∀ {x : Prop}, LCode P md .bad Q e h → x := fun h => False.elim h
      unfold cutA at hl
      split at hl
      · exact key (iha _) bad hl
      · exact key bad (ihb _) hl
      · exact key bad bad hl
      · exact key (iha _) (ihb _) hl
  | block id c ih => intro l Q e h hl; exact ih l (show LCode P md (cutA c l).1 (inBlk id Q) e h from hl)
  | loop c ih =>
    intro l Q e h hl
    obtain ⟨I, h0, hr⟩ := (show LCode P md (.loop (cutA c l).1) Q e h from hl)
    exact ⟨I, h0, fun n e h hI => ih l (hr n e h hI)⟩
  | orr a b iha ihb =>
    intro l Q e h hl
    cases l with
    | nil => exact hl
    | cons k l =>
      unfold cutA at hl
      split at hl
      · split at hl
        · exact .inl (iha _ hl)
        · exact .inr (ihb _ hl)
        · exact Or.imp (fun h => iha _ h) (fun h => ihb _ h) (show LCode P md (cutA a l).1 Q e h ∨ LCode P md (cutA b (cutA a l).2).1 Q e h from hl)
      · exact hl
  | _ => intro l Q e h hl; exact hl

theorem cutA_okS : ∀ (c : ACode) (l : List Nat) {Q : Xit → Env → Hp → Um → Prop} {e : Env} {h : Hp} {u : Um}, LCodeS P md (cutA c l).1 Q e h u → LCodeS P md c Q e h u := by
  intro c
  induction c with
  | seq a b iha ihb =>
    intro l Q e h u hl
    have hb : ∀ {x : Bool} {e : Env} {h : Hp} {u : Um}, LCodeS P md (cond x .bad (cutA b (cutA a l).2).1) Q e h u → LCodeS P md b Q e h u := fun {x e h u} hx => by
      cases x
      · exact ihb _ hx
      · exact (show False from hx).elim
    refine iha l (LCodeS_mono _ (show LCodeS P md (cutA a l).1 (fun x e h u => match x with | .normal => LCodeS P md (cond (noN (cutA a l).1) .bad (cutA b (cutA a l).2).1) Q e h u | x => Q x e h u) e h u from hl) fun y e h u hh => ?_)
    cases y with
    | normal => exact hb hh
    | exit i => exact hh
    | ret => exact hh
    | pan v => exact hh
  | cond c a b iha ihb =>
    intro l Q e h u hl
    cases l with
    | nil => exact hl
    | cons k l =>
      have key : ∀ {a' b' : ACode}, (LCodeS P md a' Q e h u → LCodeS P md a Q e h u) → (LCodeS P md b' Q e h u → LCodeS P md b Q e h u) → LCodeS P md (.cond c a' b') Q e h u → LCodeS P md (.cond c a b) Q e h u := by
        intro a' b' ha hb hl
        simp only [LCodeS] at hl ⊢
        split at hl <;> first | exact hl.elim | skip
        rename_i t _
        cases t with
        | true => exact ha hl
        | false => exact hb hl
      have bad : ∀ {x : Prop}, LCodeS P md .bad Q e h u → x := fun h => False.elim h
      unfold cutA at hl
      split at hl
      · exact key (iha _) bad hl
      · exact key bad (ihb _) hl
      · exact key bad bad hl
      · exact key (iha _) (ihb _) hl
  | block id c ih => intro l Q e h u hl; exact cutA_ok (.block id c) l hl
  | loop c ih => intro l Q e h u hl; exact cutA_ok (.loop c) l hl
  | orr a b iha ihb =>
    intro l Q e h u hl
    cases l with
    | nil => exact hl
    | cons k l =>
      unfold cutA at hl
      split at hl
      · rename_i hp
        simp only [Bool.and_eq_true] at hp
        split at hl
        · exact .inl (cutA_ok a l (LCodeS_plain (plain_cut a l hp.1) hl))
        · exact .inr (cutA_ok b l (LCodeS_plain (plain_cut b l hp.2) hl))
        · exact Or.imp (fun h => cutA_ok _ _ h) (fun h => cutA_ok _ _ h) (show LCode P md (cutA a l).1 (fun x e h => Q x e h u) e h ∨ LCode P md (cutA b (cutA a l).2).1 (fun x e h => Q x e h u) e h from hl)
      · exact hl
  | _ => intro l Q e h u hl; exact hl
/-- What the logic makes of a function, cut. -/
def cutF (m : List Nat) (o : Option (ACode × List ARes)) : Option (ACode × List ARes) :=
  match o with
  | some (a, r) => some ((cutA a m).1, r)
  | none => none
theorem cutF_inv {m : List Nat} {o : Option (ACode × List ARes)} {c : ACode} {r : List ARes} (h : cutF m o = some (c, r)) : ∃ a, o = some (a, r) ∧ c = (cutA a m).1 := by
  unfold cutF at h
  split at h <;> cases h
  exact ⟨_, rfl, rfl⟩
end
end Go.L

/-
  The logic L, part s3: blocks and numbers forgotten.
-/
namespace Go.L

mutual
/-- All numbers of blocks are such. -/
def idU (u : Nat → Bool) : AV → Bool
  | .ptr i _ _ => u i
  | .slc i _ _ _ => u i
  | .map i => u i
  | .yld i => u i
  | .iptr _ cs _ => idUs u cs
  | .isl _ es => idUss u es
  | .func _ a b => idUs u a && idUs u b
  | .ifc _ v => idU u v
  | .agg cs => idUs u cs
  | .tup cs => idUs u cs
  | _ => true
def idUs (u : Nat → Bool) : List AV → Bool
  | [] => true
  | v :: l => idU u v && idUs u l
def idUss (u : Nat → Bool) : List (List AV) → Bool
  | [] => true
  | c :: l => idUs u c && idUss u l
end

theorem idUs_get {u : Nat → Bool} : ∀ {l : List AV}, idUs u l = true → ∀ {j : Nat} {v : AV}, l[j]? = some v → idU u v = true
  | [], _, j, v, h => by simp at h
  | x :: l, hm, 0, v, h => by simp only [idUs, Bool.and_eq_true] at hm; simp at h; subst h; exact hm.1
  | x :: l, hm, j + 1, v, h => by simp only [idUs, Bool.and_eq_true] at hm; exact idUs_get hm.2 h
theorem idUss_get {u : Nat → Bool} : ∀ {l : List (List AV)}, idUss u l = true → ∀ {j : Nat} {v : List AV}, l[j]? = some v → idUs u v = true
  | [], _, j, v, h => by simp at h
  | x :: l, hm, 0, v, h => by simp only [idUss, Bool.and_eq_true] at hm; simp at h; subst h; exact hm.1
  | x :: l, hm, j + 1, v, h => by simp only [idUss, Bool.and_eq_true] at hm; exact idUss_get hm.2 h

def Emb.cut (σ : Emb) (u : Nat → Bool) : Emb := fun i => match u i with
  | true => σ i
  | false => none
theorem Emb.cut_some {σ : Emb} {u : Nat → Bool} {i : Nat} {L : Loc} (hu : u i = true) (h : σ i = some L) : σ.cut u i = some L := by simp [Emb.cut, hu, h]
theorem Emb.cut_inv {σ : Emb} {u : Nat → Bool} {i : Nat} {L : Loc} (h : σ.cut u i = some L) : u i = true ∧ σ i = some L := by
  unfold Emb.cut at h
  split at h
  · rename_i hu; exact ⟨hu, h⟩
  · cases h

section
variable {P : Program} {σ : Emb} {M : Mem} {u : Nat → Bool}
theorem VR.cut {v : AV} {x : Value} (hv : VR σ M v x) : idU u v = true → VR (σ.cut u) M v x := by
  induction hv with
  | bool b => exact fun _ => .bool b
  | int k n => exact fun _ => .int k n
  | flt k n => exact fun _ => .flt k n
  | str s b h => exact fun _ => .str s b h
  | nilp => exact fun _ => .nilp
  | ptr i k o L h => exact fun hp => .ptr i k o L (Emb.cut_some hp h)
  | iptr g cs o B O C T F d h hc hv ih => exact fun hp => .iptr g cs o B O C T F d h hc fun j v hj => ih j v hj (idUs_get hp hj)
  | nils => exact fun _ => .nils
  | emp a => exact fun _ => .emp a
  | slc i k n c L a c' h ha hn hk hu => exact fun hp => .slc i k n c L a c' (Emb.cut_some hp h) ha hn hk hu
  | isl0 g a c => exact fun _ => .isl0 g a c
  | isl g es z B O C T F d c h hz hn hc hv ih => exact fun hp => .isl g es z B O C T F d c h hz hn hc fun k cs j v hk hj => ih k cs j v hk hj (idUs_get (idUss_get hp hk) hj)
  | nilm => exact fun _ => .nilm
  | map i L h => exact fun hp => .map i L (Emb.cut_some hp h)
  | func fn first cap f' c' d e hy hf hc hf1 hf2 hc1 hc2 ih1 ih2 =>
    intro hp
    simp only [idU, Bool.and_eq_true] at hp
    exact .func fn first cap f' c' d e hy hf hc hf1 (fun j v hj => ih1 j v hj (idUs_get hp.1 hj)) hc1 fun j v hj => ih2 j v hj (idUs_get hp.2 hj)
  | nilf => exact fun _ => .nilf
  | yld i L h => exact fun hp => .yld i L (Emb.cut_some hp h)
  | ifc t v v' h ih => exact fun hp => .ifc t v v' (ih hp)
  | nili => exact fun _ => .nili
  | agg cs c' d hn h1 h2 ih => exact fun hp => .agg cs c' d hn h1 fun j v hj => ih j v hj (idUs_get hp hj)
  | tup cs c' d hn h1 h2 ih => exact fun hp => .tup cs c' d hn h1 fun j v hj => ih j v hj (idUs_get hp hj)
theorem VRs.cut {l : List AV} {a : Array Value} (h : VRs σ M l a) (hl : idUs u l = true) : VRs (σ.cut u) M l a :=
  ⟨h.1, fun j v hj => let ⟨v', h1, h2⟩ := h.2 j v hj; ⟨v', h1, h2.cut (idUs_get hl hj)⟩⟩

/-- All numbers within a block are such. -/
def blkU (u : Nat → Bool) : Blk → Bool
  | .row _ es => idUss u es
  | .map es _ => es.all fun x => idU u x.1 && idU u x.2.1
  | .mapIter m _ _ _ => match m with
    | none => true
    | some i => u i
  | .strIter _ _ => true
  | .loop .. => false
  | .dfr => true
theorem BlkR.cut {w : World} {L : Loc} {b : Blk} (hb : blkU u b = true) (h : BlkR P σ M w L b) : BlkR P (σ.cut u) M w L b := by
  cases b with
  | row T es =>
    obtain ⟨C, F, h1, h2, h3, h4, h5, h6⟩ := h
    exact ⟨C, F, h1, h2, h3, h4, fun k cs hk => ⟨(h5 k cs hk).1.cut (idUss_get hb hk), (h5 k cs hk).2⟩, h6⟩
  | map es c =>
    obtain ⟨es', h1, h2, h3⟩ := h
    refine ⟨es', h1, h2, fun j k v n hj => ?_⟩
    obtain ⟨e, h4, h5, h6, h7⟩ := h3 j k v n hj
    have := List.all_eq_true.1 hb _ (List.mem_of_getElem? hj)
    simp only [Bool.and_eq_true] at this
    exact ⟨e, h4, h5.cut this.1, h6.cut this.2, h7⟩
  | mapIter m s l t =>
    obtain ⟨h1, m', h2, h3⟩ := h
    refine ⟨h1, m', h2, ?_⟩
    cases m with
    | none => exact h3
    | some i => obtain ⟨K, h4, h5⟩ := h3; exact ⟨K, Emb.cut_some hb h4, h5⟩
  | strIter s p => exact h
  | loop => cases hb
  | dfr => exact h

/-- A call's outcome, of which blocks and numbers are forgotten. -/
theorem CallL.shrink {f : FuncId} {args : List AV} {h : Hp} {Q : Res → Hp → Prop} (k : CallL P f args h fun r h1 => ∃ (v : AV) (h2 : Hp), r = .ret v ∧ Q (.ret v) h2 ∧ idU h2.u v = true ∧ (∀ i b, h2 i = some b → h1 i = some b ∧ h2.u i = true ∧ blkU h2.u b = true) ∧ ∀ i, h.u i = true → h2.u i = true) : CallL P f args h Q := by
  refine ⟨fun σ M w args' hR hA => (k.run σ M w args' hR hA).mono fun e w' ⟨σ', M', h1, hE, hR1, hend⟩ => ?_⟩
  cases e with
  | returned v' =>
    obtain ⟨v0, hv, v, h2, e1, hq, hid, hbl, hu⟩ := hend
    cases e1
    refine ⟨σ'.cut h2.u, M', h2, ⟨fun i L hi => ?_, hE.m, hE.size, hE.os, hE.tape, hE.output⟩, ⟨fun i hi => ?_, fun i b hi => ?_, hR1.mem, fun i b L hi hL => ?_, fun i j bi bj Li Lj hi hj hLi hLj hb => ?_, fun i b L hi hL => ?_, fun i b L hi hL => ?_, hR1.glb⟩, _, hv.cut hid, hq⟩
    · have hu0 : h.u i = true := by
        cases hh : h.u i with
        | true => rfl
        | false => rw [hR.fin i hh] at hi; cases hi
      exact Emb.cut_some (hu i hu0) (hE.s i L hi)
    · simp [Emb.cut, hi]
    · obtain ⟨q1, q2, _⟩ := hbl i b hi
      obtain ⟨L, hL⟩ := hR1.dom i b q1
      exact ⟨L, Emb.cut_some q2 hL⟩
    · exact hR1.sep i b L (hbl i b hi).1 (Emb.cut_inv hL).2
    · exact hR1.inj i j bi bj Li Lj (hbl i bi hi).1 (hbl j bj hj).1 (Emb.cut_inv hLi).2 (Emb.cut_inv hLj).2 hb
    · exact (hR1.blk i b L (hbl i b hi).1 (Emb.cut_inv hL).2).cut (hbl i b hi).2.2
    · exact hR1.al i b L (hbl i b hi).1 (Emb.cut_inv hL).2
  | panicked ch => obtain ⟨v, v', _, _, v2, h2, e1, _⟩ := hend; cases e1
  | outgrown => exact hend.elim
end
end Go.L

/-
  Means for contracts: the steps of code as lemmas; pure calls; loops.
-/
namespace Go.L

abbrev Str := List UInt8
def sortS (l : List Str) : List Str := l.mergeSort fun x y => decide (x ≤ y)

/-! ### Truth values and numbers -/
section
variable {N : Bool → Prop} {M : Int → Prop} {a b c : Int}
theorem s_lt (k1 : a < b → N true) (k2 : b ≤ a → N false) : gen (decide (a < b)) N := by
  rintro t rfl; by_cases h : a < b
  · rw [decide_eq_true h]; exact k1 h
  · rw [decide_eq_false h]; exact k2 (Int.not_lt.1 h)
theorem s_le (k1 : a ≤ b → N true) (k2 : b < a → N false) : gen (decide (a ≤ b)) N := by
  rintro t rfl; by_cases h : a ≤ b
  · rw [decide_eq_true h]; exact k1 h
  · rw [decide_eq_false h]; exact k2 (Int.not_le.1 h)
theorem s_eq (k1 : a = b → N true) (k2 : a ≠ b → N false) : gen (a == b) N := by
  rintro t rfl; by_cases h : a = b
  · subst h; simpa using k1 rfl
  · rw [show (a == b) = false by simpa using h]; exact k2 h
theorem s_ne (k1 : a ≠ b → N true) (k2 : a = b → N false) : gen (a != b) N := by
  rintro t rfl; by_cases h : a = b
  · subst h; simpa using k2 rfl
  · rw [show (a != b) = true by simpa using h]; exact k1 h
theorem s_seq {a b : Str} (k1 : a = b → N true) (k2 : a ≠ b → N false) : gen (a == b) N := by
  rintro t rfl; by_cases h : a = b
  · subst h; simpa using k1 rfl
  · rw [show (a == b) = false by simpa using h]; exact k2 h
theorem s_sne {a b : Str} (k1 : a ≠ b → N true) (k2 : a = b → N false) : gen (!(a == b)) N := by
  rintro t rfl; by_cases h : a = b
  · subst h; simpa using k2 rfl
  · rw [show (!(a == b)) = true by simpa using h]; exact k1 h
theorem s_b {t : Bool} (k : N t) : gen t N := by rintro _ rfl; exact k
/-- A truth value, by cases. -/
theorem s_c {t : Bool} (k1 : t = true → N true) (k2 : t = false → N false) : gen t N := by
  intro u hu; subst hu; cases u
  · exact k2 rfl
  · exact k1 rfl
theorem s_i (k : M c) : genI c M := by rintro _ rfl; exact k
theorem s_64 {n : Int} (h1 : -9223372036854775808 ≤ n) (h2 : n ≤ 9223372036854775807) (k : M n) : genI (IntKind.i64.wrap n) M := by
  rintro _ rfl; rw [wrap_i64 h1 h2]; exact k
theorem s_nat {n : Int} (m : Nat) (h : n = m) (h2 : (m : Int) ≤ 9223372036854775807) (k : M (m : Int)) : genI (IntKind.i64.wrap n) M := by
  rintro _ rfl; rw [wrap_i64 (by omega) (by omega), h]; exact k
end

/-! ### Elements -/
/-- The address of an element of what never changes. -/
theorem s_at {α : Type} {l : List α} {f : α → List AV} {z : Nat} {m : Int} {next : List AV → Prop} (k : Nat) (x : α) (hm : m = k) (hx : l[k]? = some x) (hz : (f x).length = z) (hz0 : z ≠ 0) (hn : next (f x)) :
    ∃ (k : Nat) (cs : List AV), m = k ∧ (l.map f)[k]? = some cs ∧ cs.length = z ∧ z ≠ 0 ∧ next cs :=
  ⟨k, f x, hm, by rw [List.getElem?_map, hx]; rfl, hz, hz0, hn⟩
/-- A text's byte. -/
theorem s_byte {s : Str} {m : Int} {next : UInt8 → Prop} (k : Nat) (x : UInt8) (hm : m = k) (hx : s[k]? = some x) (hn : next x) :
    ∃ (k : Nat) (c : UInt8), m = k ∧ s[k]? = some c ∧ next c := ⟨k, x, hm, hx, hn⟩

theorem get_lt {α : Type} {l : List α} {k : Nat} (h : k < l.length) : ∃ x, l[k]? = some x := ⟨_, List.getElem?_eq_getElem h⟩

/-! ### Pure calls -/
section
variable {P : Program} {f : FuncId} {args : List AV} {v : AV}

/-- A pure call that answers yes or no, by cases. -/
theorem PureL.useC {c : Bool} {h : Hp} {Q : Res → Hp → Prop} (k : PureL P f args (.bool c)) (k1 : c = true → Q (.ret (.bool true)) h) (k2 : c = false → Q (.ret (.bool false)) h) : CallL P f args h Q := by
  refine k.use ?_
  cases c
  · exact k2 rfl
  · exact k1 rfl

theorem noids_same {p : Nat → Bool} {g : Nat} {h : Hp} {l : List AV} (hl : noids p l = true) : FzL p g h l l :=
  ⟨rfl, fun q v v' h1 h2 => by rw [h1] at h2; cases h2; exact .same v (noids_get hl q v h1)⟩

/-- A call whose arguments lead to nothing mutable: proved in the empty heap. -/
theorem PureL.nil (ha : noids anyMark args = true) (k : CallL P f args Hp.nil fun r h1 => ∃ u, r = .ret u ∧ Fz mark0 0 h1 u v) : PureL P f args v := by
  intro h
  refine ((CallL.lent (h := Hp.nil) (Q := fun u => u = v) (noids_same ha) (k.mono fun r h1 ⟨u, h2, h3⟩ => ⟨u, v, h2, h3, rfl⟩)) h (fun i b hi => by cases hi)).mono ?_
  rintro r h' ⟨u, rfl, rfl, rfl⟩
  exact ⟨rfl, rfl⟩
/-- The same of arguments of which some are lent. -/
theorem CallL.lentP {args' : List AV} {h : Hp} {Q : Res → Hp → Prop} (k : PureL P f args' v) (ha : FzL anyMark 1 h args args') (hv : noid mark0 v = true) (hq : Q (.ret v) h) : CallL P f args h Q := by
  refine ((CallL.lent (Q := fun u => u = v) ha ((k Hp.nil).mono fun r h1 ⟨h2, _⟩ => ⟨v, v, h2, .same v hv, rfl⟩)) h (fun i b hi => hi)).mono ?_
  rintro r h' ⟨u, rfl, rfl, rfl⟩
  exact hq
end

/-! ### Heaps that grow -/
/-- What was there is as it was. -/
structure Gr (h h' : Hp) : Prop where
  m : ∀ x, h.u x = true → h' x = h x
  u : ∀ x, h.u x = true → h'.u x = true
theorem Hp.used {h : Hp} {i : Nat} {b : Blk} (hi : h i = some b) : h.u i = true := by
  cases hu : h.u i with
  | true => rfl
  | false => rw [h.ok i hu] at hi; cases hi
theorem Gr.refl (h : Hp) : Gr h h := ⟨fun _ _ => rfl, fun _ h => h⟩
theorem Gr.trans {h h1 h2 : Hp} (a : Gr h h1) (b : Gr h1 h2) : Gr h h2 := ⟨fun x hx => (b.m x (a.u x hx)).trans (a.m x hx), fun x hx => b.u x (a.u x hx)⟩
theorem ne_of_u {h : Hp} {x i : Nat} (hx : h.u x = true) (hi : h.u i = false) : x ≠ i := fun e => by rw [e, hi] at hx; cases hx
theorem Gr.set {h h' : Hp} (a : Gr h h') {i : Nat} (hi : h.u i = false) (b : Blk) : Gr h (h'.set i b) :=
  ⟨fun x hx => (Hp.set_ne (ne_of_u hx hi)).trans (a.m x hx), fun x hx => by rw [Hp.set_u, a.u x hx]; simp⟩
theorem Gr.del {h h' : Hp} (a : Gr h h') {i : Nat} (hi : h.u i = false) : Gr h (h'.del i) :=
  ⟨fun x hx => (Hp.del_ne (ne_of_u hx hi)).trans (a.m x hx), fun x hx => by rw [Hp.del_u]; exact a.u x hx⟩
theorem Gr.new {h h' : Hp} (a : Gr h h') {i : Nat} (hi : h'.u i = false) : h.u i = false := by
  cases hu : h.u i with
  | false => rfl
  | true => rw [a.u i hu] at hi; cases hi
theorem Gr.blk {h h' : Hp} (a : Gr h h') {i : Nat} {b : Blk} (hi : h i = some b) : h' i = some b := (a.m i (Hp.used hi)).trans hi
/-- An owned row. -/
def OwnR (T : TypeId) (h h' : Hp) (r : Res) (es : List (List AV)) : Prop :=
  (r = .ret .nils ∧ es = [] ∧ h' = h) ∨ ∃ i c, r = .ret (.slc i 0 es.length c) ∧ (∀ x, c = some x → es.length ≤ x) ∧ h.u i = false ∧ Gr h h' ∧ h' i = some (.row T es)

theorem Hp.set_self {h : Hp} {i : Nat} {b : Blk} (hi : h i = some b) : h.set i b = h := by
  refine Hp.ext (fun j => ?_) (fun j => ?_) <;> by_cases e : j = i
  · subst e; rw [Hp.set_same, hi]
  · rw [Hp.set_ne e]
  · subst e; rw [Hp.set_u, if_pos rfl, Hp.used hi]
  · rw [Hp.set_u, if_neg e]

/-! ### Loops: so many rounds at most; what changes in them is a state -/
section
variable {P : Program} {md : Bool} {Q : Xit → Env → Hp → Prop} {e : Env} {h : Hp}

theorem s_loop {σ : Type} {c : ACode} (N : Nat) (I : Nat → σ → Prop) (S : Nat → σ → List (Nat × AV)) (H : Nat → σ → Hp) (s0 : σ) (hi : I 0 s0) (hh : h = H 0 s0) (hd : e.ds = []) (hs : Has e (S 0 s0)) (hN : ∀ k s, I k s → k ≤ N)
    (step : ∀ k s n g, k ≤ N → I k s → LCode P md c (andThen (fun e' h' => ∃ s', k < N ∧ I (k + 1) s' ∧ h' = H (k + 1) s' ∧ e'.ds = [] ∧ Has e' (S (k + 1) s')) Q) (puts ⟨n, g, []⟩ (S k s)) (H k s)) :
    LCode P md (.loop c) Q e h := by
  refine ⟨fun n e h => ∃ k s, n = N - k ∧ I k s ∧ h = H k s ∧ e.ds = [] ∧ Has e (S k s), ⟨_, 0, s0, rfl, hi, hh, hd, hs⟩, ?_⟩
  rintro n e h ⟨k, s, rfl, hI, rfl, hd, hs⟩
  obtain ⟨n0, g, rfl⟩ := hs.out hd
  refine LCode_mono _ (step k s n0 g (hN k s hI) hI) ?_
  intro y e' h' hy
  cases y with
  | normal => obtain ⟨s', h1, h2, h3, h4, h5⟩ := hy; exact ⟨N - (k + 1), by omega, k + 1, s', rfl, h2, h3, h4, h5⟩
  | exit i => exact hy
  | ret => exact hy
  | pan v => exact hy

/-- A block, with what is asked of its end said once. -/
theorem s_blk {id : Nat} {c : ACode} (Post : Env → Hp → Prop) (k : LCode P md c (fun y e' h' => match y with
      | .normal => Post e' h'
      | .exit j => bif Nat.beq j id then Post e' h' else Q (.exit j) e' h'
      | y => Q y e' h') e h) (post : ∀ e' h', Post e' h' → Q .normal e' h') : LCode P md (.block id c) Q e h := by
  refine LCode_mono c k ?_
  intro y e' h' hy
  cases y with
  | normal => exact post _ _ hy
  | ret => exact hy
  | pan v => exact hy
  | exit j =>
    simp only [inBlk]
    cases hb : Nat.beq j id with
    | true =>
      rw [if_pos (Nat.eq_of_beq_eq_true hb)]
      simp only [hb, cond_true] at hy
      exact post _ _ hy
    | false =>
      rw [if_neg (fun e => by rw [e, Nat.beq_refl] at hb; cases hb)]
      simpa only [hb, cond_false] using hy
/-- Pieces of code one behind the other: what holds between them is said. -/
abbrev toPost (Post : Env → Hp → Prop) (Q : Xit → Env → Hp → Prop) : Xit → Env → Hp → Prop := fun y e' h' => match y with
  | .normal => Post e' h'
  | y => Q y e' h'
theorem s_then {a b : ACode} (Post : Env → Hp → Prop) (k1 : LCode P md a (toPost Post Q) e h) (k2 : ∀ e' h', Post e' h' → LCode P md b Q e' h') : LCode P md (.seq a b) Q e h := by
  refine LCode_mono a k1 ?_
  intro y e' h' hy
  cases y with
  | normal => exact k2 _ _ hy
  | ret => exact hy
  | pan v => exact hy
  | exit j => exact hy
theorem LCode_assoc {a b c : ACode} (k : LCode P md (.seq (.seq a b) c) Q e h) : LCode P md (.seq a (.seq b c)) Q e h := by
  refine LCode_mono a k ?_
  intro y e' h' hy
  cases y with
  | normal =>
    refine LCode_mono b hy ?_
    intro y e' h' hy
    cases y <;> exact hy
  | ret => exact hy
  | pan v => exact hy
  | exit j => exact hy
theorem s_then2 {a b c : ACode} (Post : Env → Hp → Prop) (k1 : LCode P md (.seq a b) (toPost Post Q) e h) (k2 : ∀ e' h', Post e' h' → LCode P md c Q e' h') : LCode P md (.seq a (.seq b c)) Q e h := LCode_assoc (s_then Post k1 k2)
theorem s_then3 {a b c d : ACode} (Post : Env → Hp → Prop) (k1 : LCode P md (.seq a (.seq b c)) (toPost Post Q) e h) (k2 : ∀ e' h', Post e' h' → LCode P md d Q e' h') : LCode P md (.seq a (.seq b (.seq c d))) Q e h := by
  refine LCode_mono a k1 ?_
  intro y e' h' hy
  cases y with
  | normal => exact s_then2 Post hy k2
  | ret => exact hy
  | pan v => exact hy
  | exit j => exact hy
theorem s_then4 {a b c d f : ACode} (Post : Env → Hp → Prop) (k1 : LCode P md (.seq a (.seq b (.seq c d))) (toPost Post Q) e h) (k2 : ∀ e' h', Post e' h' → LCode P md f Q e' h') : LCode P md (.seq a (.seq b (.seq c (.seq d f)))) Q e h := by
  refine LCode_mono a k1 ?_
  intro y e' h' hy
  cases y with
  | normal => exact s_then3 Post hy k2
  | ret => exact hy
  | pan v => exact hy
  | exit j => exact hy
/-- Code, with what is asked of its plain end said once. -/
theorem s_cut {c : ACode} (Post : Env → Hp → Prop) (k : LCode P md c (fun y e' h' => match y with
      | .normal => Post e' h'
      | y => Q y e' h') e h) (post : ∀ e' h', Post e' h' → Q .normal e' h') : LCode P md c Q e h := by
  refine LCode_mono c k ?_
  intro y e' h' hy
  cases y with
  | normal => exact post _ _ hy
  | ret => exact hy
  | pan v => exact hy
  | exit j => exact hy
end

/-! ### What append has made so far -/
def blkOf : AV → Option Nat
  | .slc i _ _ _ => some i
  | _ => none
def Acc (T : TypeId) (h H : Hp) (v : AV) (es : List (List AV)) : Prop :=
  Gr h H ∧ ((v = .nils ∧ es = []) ∨ ∃ j row, v = .slc j 0 es.length none ∧ h.u j = false ∧ H j = some (.row T row) ∧ row.take es.length = es ∧ es.length ≤ row.length)
theorem Acc.shape {T : TypeId} {h H : Hp} {v : AV} {es : List (List AV)} (a : Acc T h H v es) : v = .nils ∨ ∃ j n, v = .slc j 0 n none := by
  obtain ⟨_, ⟨rfl, _⟩ | ⟨j, row, rfl, _⟩⟩ := a
  · exact .inl rfl
  · exact .inr ⟨j, _, rfl⟩
theorem Acc.nil (T : TypeId) (h : Hp) : Acc T h h .nils [] := ⟨Gr.refl h, .inl ⟨rfl, rfl⟩⟩
theorem Acc.app {T z b : Nat} {h H : Hp} {v : AV} {es xs : List (List AV)} {next : AV → Hp → Prop} (a : Acc T h H v es) (hz : ∀ cs ∈ xs, cs.length = z) (hf : ∀ cs ∈ xs, flat cs = true) (hb : (es.length + xs.length) * b ≤ capMax) (hb2 : es.length + xs.length ≤ capMax)
    (k : ∀ v' H', Acc T h H' v' (es ++ xs) → (∀ x, H.u x = true → blkOf v ≠ some x → H' x = H x) → (∀ x, H.u x = true → H'.u x = true) → next v' H') : LAppE false T z b v xs H next := by
  refine ⟨hz, ?_⟩
  obtain ⟨gr, ⟨rfl, rfl⟩ | ⟨j, row, rfl, hj, hr, ht, hl⟩⟩ := a
  · by_cases h0 : xs = []
    · subst h0
      exact .inl ⟨rfl, k .nils H ⟨gr, .inl ⟨rfl, rfl⟩⟩ (fun _ _ _ => rfl) (fun _ h => h)⟩
    · refine .inr ⟨h0, by simpa using hb, by simpa using hb2, fun i hi => ?_⟩
      refine k (.slc i 0 xs.length none) (H.set i (.row T xs)) ⟨gr.set (gr.new hi.1) _, .inr ⟨i, xs, rfl, gr.new hi.1, Hp.set_same _ _ _, List.take_length, Nat.le_refl _⟩⟩ (fun x hx _ => Hp.set_ne (ne_of_u hx hi.1)) (fun x hx => by rw [Hp.set_u, hx]; simp)
  · refine ⟨row, hr, by omega, hf, ?_⟩
    by_cases h0 : xs = []
    · subst h0
      refine .inl ⟨rfl, k _ H ?_ (fun _ _ _ => rfl) (fun _ h => h)⟩
      rw [List.append_nil]
      exact ⟨gr, .inr ⟨j, row, rfl, hj, hr, ht, hl⟩⟩
    · refine .inr ⟨h0, hb, hb2, fun i hi => ?_⟩
      have e : (row.drop 0).take es.length ++ xs = es ++ xs := by rw [List.drop_zero, ht]
      have hjn : j ≠ i := ne_of_u (Hp.used hr) hi.1
      have := k (.slc i 0 (es ++ xs).length none) ((H.del j).set i (.row T (es ++ xs))) ⟨(gr.del hj).set (gr.new hi.1) _, .inr ⟨i, _, rfl, gr.new hi.1, Hp.set_same _ _ _, List.take_length, Nat.le_refl _⟩⟩
        (fun x hx hx2 => (Hp.set_ne (ne_of_u hx hi.1)).trans (Hp.del_ne fun e => hx2 (by rw [e]; rfl))) (fun x hx => by rw [Hp.set_u, Hp.del_u, hx]; simp)
      rw [List.length_append] at this
      rw [e]; exact this
theorem Acc.fz {p : Nat → Bool} {g T : Nat} {h H : Hp} {v : AV} {es : List (List AV)} (a : Acc T h H v es) (hn : noidss p es = true) : Fz p g H v (.isl g es) := by
  obtain ⟨_, ⟨rfl, rfl⟩ | ⟨j, row, rfl, _, hr, ht, hl⟩⟩ := a
  · exact .nilsI g
  · have get : ∀ (k : Nat) (cs cs' : List AV), row[0 + k]? = some cs → es[k]? = some cs' → cs' = cs := fun k cs cs' h1 h2 => by
      have hk := (List.getElem?_eq_some_iff.1 h2).1
      rw [← ht, List.getElem?_take_of_lt hk] at h2
      rw [Nat.zero_add, h2] at h1; cases h1; rfl
    refine .slc j 0 es.length none T row es hr (by omega) rfl (fun k cs cs' h1 h2 => by rw [get k cs cs' h1 h2]) (fun k cs cs' q u u' h1 h2 h3 h4 => ?_)
    obtain rfl := get k cs cs' h1 h2
    rw [h3] at h4; cases h4
    exact .same _ (noidss_get hn k cs' q u h2 h3)
theorem Acc.set {T : Nat} {h H : Hp} {v : AV} {es : List (List AV)} (a : Acc T h H v es) {i : Nat} (hi : H.u i = false) (b : Blk) : Acc T h (H.set i b) v es := by
  obtain ⟨gr, ⟨rfl, rfl⟩ | ⟨j, row, rfl, hj, hr, ht, hl⟩⟩ := a
  · exact ⟨gr.set (gr.new hi) _, .inl ⟨rfl, rfl⟩⟩
  · exact ⟨gr.set (gr.new hi) _, .inr ⟨j, row, rfl, hj, (Hp.set_ne (ne_of_u (Hp.used hr) hi)).trans hr, ht, hl⟩⟩
theorem Acc.keep {T : Nat} {h H H' : Hp} {v : AV} {es : List (List AV)} (a : Acc T h H v es) (g : Gr H H') : Acc T h H' v es := by
  obtain ⟨gr, ⟨rfl, rfl⟩ | ⟨j, row, rfl, hj, hr, ht, hl⟩⟩ := a
  · exact ⟨gr.trans g, .inl ⟨rfl, rfl⟩⟩
  · exact ⟨gr.trans g, .inr ⟨j, row, rfl, hj, g.blk hr, ht, hl⟩⟩

/-- What stands for something frozen does so in a heap that has grown. -/
theorem Fz.gr {p : Nat → Bool} {g : Nat} {h h' : Hp} (k : Gr h h') {v v' : AV} (f : Fz p g h v v') : Fz p g h' v v' := by
  induction f with
  | same v hp => exact .same v hp
  | slc i k0 n c T es es' hi hkn hl hz he ih => exact .slc i k0 n c T es es' (k.blk hi) hkn hl hz ih
  | ptr i k0 o T es cs cs' hi hk hl he ih => exact .ptr i k0 o T es cs cs' (k.blk hi) hk hl ih
  | agg cs cs' hl he ih => exact .agg cs cs' hl ih
  | tup cs cs' hl he ih => exact .tup cs cs' hl ih
  | ifc t v v' he ih => exact .ifc t v v' ih
  | func fn a a' b b' hla hlb ha hb ih1 ih2 => exact .func fn a a' b b' hla hlb ih1 ih2
  | islC g0 es es' hg hl hz he ih => exact .islC g0 es es' hg hl hz ih
  | nilsI g0 => exact .nilsI g0
  | empI g0 => exact .empI g0
  | iptrC g0 cs cs' o hg hl he ih => exact .iptrC g0 cs cs' o hg hl ih

/-! ### Maps whose keys are texts -/
def SKeys (es : MapL) : Prop := ∀ x ∈ es, ∃ s, x.1 = .str s
abbrev sget (es : MapL) (s : Str) : Option AV := mget (.str s) es
theorem SKeys.nil : SKeys [] := fun _ h => by cases h
theorem SKeys.like {es : MapL} (h : SKeys es) (s : Str) : KeysLike (.str s) es := fun x hx => by
  obtain ⟨t, ht⟩ := h x hx; rw [ht]; rfl
theorem sget_cons (t : Str) (v : AV) (c : Nat) (es : MapL) (s : Str) : sget ((.str t, v, c) :: es) s = if s = t then some v else sget es s := by
  by_cases h : s = t
  · subst h; simp [sget, mget, sameK, sameK1]
  · rw [if_neg h]
    have : (s == t) = false := by simpa using h
    simp [sget, mget, sameK, sameK1, this]
theorem SKeys.cons {x : AV × AV × Nat} {es : MapL} (h : SKeys (x :: es)) : (∃ s v c, x = (.str s, v, c)) ∧ SKeys es := by
  obtain ⟨s, hs⟩ := h x List.mem_cons_self
  exact ⟨⟨s, x.2.1, x.2.2, by rw [← hs]⟩, fun y hy => h y (List.mem_cons_of_mem _ hy)⟩
theorem SKeys.snoc {es : MapL} (h : SKeys es) (t : Str) (v : AV) (c : Nat) : SKeys (es ++ [(.str t, v, c)]) := fun x hx => by
  rcases List.mem_append.1 hx with hx | hx
  · exact h x hx
  · rw [List.mem_singleton.1 hx]; exact ⟨t, rfl⟩
theorem sget_snoc {es : MapL} (h : SKeys es) (t : Str) (v : AV) (c : Nat) (s : Str) : sget (es ++ [(.str t, v, c)]) s = match sget es s with
    | some u => some u
    | none => if s = t then some v else none := by
  induction es with
  | nil => rw [List.nil_append, sget_cons]; rfl
  | cons x es ih =>
    obtain ⟨⟨k, u, c', rfl⟩, h2⟩ := h.cons
    rw [List.cons_append, sget_cons, sget_cons, ih h2]
    by_cases e : s = k
    · rw [if_pos e, if_pos e]
    · rw [if_neg e, if_neg e]
theorem mmod_cons (t k : Str) (u v : AV) (c : Nat) (es : MapL) : mmod (.str t) v ((.str k, u, c) :: es) = if t = k then (.str t, v, c) :: es else (.str k, u, c) :: mmod (.str t) v es := by
  by_cases h : t = k
  · subst h; simp [mmod, sameK, sameK1]
  · rw [if_neg h]
    have : (t == k) = false := by simpa using h
    simp [mmod, sameK, sameK1, this]
theorem SKeys.mmod {es : MapL} (h : SKeys es) (t : Str) (v : AV) : SKeys (mmod (.str t) v es) := by
  induction es with
  | nil => exact h
  | cons x es ih =>
    obtain ⟨⟨k, u, c, rfl⟩, h2⟩ := h.cons
    rw [mmod_cons]
    split
    · exact fun y hy => by
        rcases List.mem_cons.1 hy with rfl | hy
        · exact ⟨t, rfl⟩
        · exact h2 y hy
    · exact fun y hy => by
        rcases List.mem_cons.1 hy with rfl | hy
        · exact ⟨k, rfl⟩
        · exact ih h2 y hy
theorem sget_mmod {es : MapL} (h : SKeys es) (t : Str) (v : AV) (hs : sget es t ≠ none) (s : Str) : sget (mmod (.str t) v es) s = if s = t then some v else sget es s := by
  induction es with
  | nil => exact absurd rfl hs
  | cons x es ih =>
    obtain ⟨⟨k, u, c, rfl⟩, h2⟩ := h.cons
    rw [mmod_cons]
    by_cases e : t = k
    · subst e
      rw [if_pos rfl, sget_cons, sget_cons]
      by_cases e2 : s = t
      · rw [if_pos e2, if_pos e2]
      · rw [if_neg e2, if_neg e2, if_neg e2]
    · rw [if_neg e, sget_cons, sget_cons]
      rw [sget_cons, if_neg e] at hs
      rw [ih h2 hs]
      by_cases e2 : s = k
      · subst e2
        rw [if_pos rfl, if_neg (Ne.symm e), if_pos rfl]
      · rw [if_neg e2, if_neg e2]
end Go.L

/-
  Lent arguments, an outcome that is taken over, whatever it is.
-/
namespace Go.L

/-- A call whose arguments lead to mutable memory, proved where that never changes and in the empty heap; what it has made is taken over under new numbers. -/
theorem CallL.lentE {P : Program} {f : FuncId} {args args' : List AV} {h' : Hp} {Q : AV → Hp → Prop} (ha : FzL anyMark 1 h' args args') (k : CallL P f args' Hp.nil fun r h1 => ∃ v, r = .ret v ∧ m0 v = true ∧ Q v h1) :
    CallL P f args h' fun r h2 => ∃ v h1 b K, r = .ret (v.ren b) ∧ Q v h1 ∧ (∀ i, h1.u i = true → i < K) ∧ (∀ i, i < K → Fresh h' (b + i)) ∧ h2 = h'.adopt b K fun i => renB b (h1 i) := by
  constructor
  intro σ M w x hR hA
  let M0 : Mem := fun B => match M B with | some y => some y | none => (w.heap[B]?).map fun o => (o, 1)
  have hMM0 : ∀ B o c, M B = some (o, c) → M0 B = some (o, c) := fun B o c hB => by simp [M0, hB]
  have hM0w : ∀ B y, M0 B = some y → w.heap[B]? = some y.1 := fun B y hB => by
    simp only [M0] at hB
    split at hB
    · rename_i z hz; cases hB; exact hR.mem B _ hz
    · simp only [Option.map_eq_some_iff] at hB
      obtain ⟨o, h1, rfl⟩ := hB; exact h1
  have hM0old : ∀ B, B < w.heap.size → ∃ y, M0 B = some y := fun B hB => by
    simp only [M0]
    split
    · exact ⟨_, rfl⟩
    · rw [Array.getElem?_eq_getElem hB]; exact ⟨_, rfl⟩
  have hR0 : R P (fun _ => none) M0 Hp.nil w :=
    ⟨fun _ _ => rfl, (fun i b hi => by cases hi), hM0w, (fun i b L hi => by cases hi), (fun i j bi bj Li Lj hi => by cases hi), (fun i b L hi => by cases hi), (fun i b L hi => by cases hi), hR.glb.mono fun B o hB => hMM0 B o.1 o.2 hB⟩
  have hA0 : VRs (fun _ => none) M0 args' x := by
    refine ⟨by rw [hA.1, ha.1], fun j y hj => ?_⟩
    obtain ⟨v, hv⟩ := get_of_len ha.1 hj
    obtain ⟨u, h1, h2⟩ := hA.2 j v hv
    refine ⟨u, h1, (ha.2 j v y hv hj).VR (fun i b L hi hL => hR.blk i b L hi hL) (fun B o c _ hB => hMM0 B o c hB) (fun i b L o hi hL ho => ?_) h2⟩
    have := hR.sep i b L hi hL
    simp only [M0, this, ho, Option.map_some]
  refine (k.run _ _ w x hR0 hA0).mono ?_
  rintro e w' ⟨σ1, M1, h1, hE, hR1, hend⟩
  have hret : ∃ v0 x', e = .returned x' ∧ VR σ1 M1 v0 x' ∧ m0 v0 = true ∧ Q v0 h1 := by
    cases e with
    | returned x' => obtain ⟨v, hv, v0, e1, e2, e3⟩ := hend; cases e1; exact ⟨v, x', rfl, hv, e2, e3⟩
    | panicked ch => obtain ⟨v, x', _, _, v0, e1, _⟩ := hend; cases e1
    | outgrown => exact hend.elim
  obtain ⟨v0, x', rfl, hv, hm, hq⟩ := hret
  obtain ⟨K, hKc⟩ := h1.cof
  have hK : ∀ i, h1.u i = true → i < K := fun i hi => by
    rcases Nat.lt_or_ge i K with hlt | hge
    · exact hlt
    · rw [hKc i hge] at hi; cases hi
  obtain ⟨b, hbc⟩ := h'.cof
  have hfr : ∀ i, i < K → Fresh h' (b + i) := fun i _ => ⟨hbc _ (by omega), h'.ok _ (hbc _ (by omega))⟩
  have same : ∀ B, B < w.heap.size → w'.heap[B]? = w.heap[B]? := fun B hB => by
    obtain ⟨y, hy⟩ := hM0old B hB
    rw [hM0w B y hy]; exact hR1.mem B y (hE.m B y hy)
  have hMsz : ∀ B y, M B = some y → B < w.heap.size := fun B y hB => (Array.getElem?_eq_some_iff.1 (hR.mem B y hB)).1
  have hM1new : ∀ B, M1 B = none → w.heap.size ≤ B := fun B hB => by
    rcases Nat.lt_or_ge B w.heap.size with hlt | hge
    · obtain ⟨y, hy⟩ := hM0old B hlt
      rw [hE.m B y hy] at hB; cases hB
    · exact hge
  let M2 : Mem := fun B => match M B with | some y => some y | none => if B < w.heap.size then none else M1 B
  have hMM2 : M.le M2 := fun B y hB => by simp [M2, hB]
  have hM12 : ∀ B o, M1 B = some (o, 0) → M2 B = some (o, 0) := fun B o hB => by
    by_cases hlt : B < w.heap.size
    · obtain ⟨y, hy⟩ := hM0old B hlt
      have := hE.m B y hy
      rw [hB] at this; cases this
      simp only [M0] at hy
      split at hy
      · rename_i z hz; cases hy; simp only [M2, hz]
      · simp only [Option.map_eq_some_iff] at hy
        obtain ⟨o', _, h3⟩ := hy; cases h3
    · have h3 : M B = none := by
        cases hm : M B with
        | none => rfl
        | some z => exact absurd (hMsz B z hm) hlt
      simp only [M2, h3, if_neg hlt, hB]
  have hM2none : ∀ B, M1 B = none → M2 B = none := fun B hB => by
    have hge := hM1new B hB
    have h3 : M B = none := by
      cases hm : M B with
      | none => rfl
      | some z => exact absurd (hMsz B z hm) (by omega)
    simp only [M2, h3, if_neg (show ¬ B < w.heap.size by omega), hB]
  let σ2 : Emb := fun i => if b ≤ i ∧ i < b + K then σ1 (i - b) else σ i
  have hσ2 : ∀ i L, σ1 i = some L → σ2 (b + i) = some L := fun i L hi => by
    have hu : h1.u i = true := by
      cases hu : h1.u i with
      | true => rfl
      | false => rw [hR1.fin i hu] at hi; cases hi
    have := hK i hu
    simp only [σ2]
    rw [if_pos (by omega), Nat.add_sub_cancel_left]; exact hi
  have hσσ2 : σ.le σ2 := fun i L hi => by
    simp only [σ2]
    split
    · rename_i hr
      have := (hfr (i - b) (by omega)).1
      rw [show b + (i - b) = i by omega] at this
      rw [hR.fin i this] at hi; cases hi
    · exact hi
  have hin : ∀ i, b ≤ i ∧ i < b + K → σ2 i = σ1 (i - b) := fun i hi => if_pos hi
  have hout : ∀ i, ¬ (b ≤ i ∧ i < b + K) → σ2 i = σ i := fun i hi => if_neg hi
  -- what lies at a number
  have cases2 : ∀ i y, (h'.adopt b K fun i => renB b (h1 i)) i = some y → (b ≤ i ∧ i < b + K ∧ ∃ z, h1 (i - b) = some z ∧ renB b (some z) = some y) ∨ (¬ (b ≤ i ∧ i < b + K) ∧ h' i = some y) := by
    intro i y hi
    by_cases hr : b ≤ i ∧ i < b + K
    · rw [Hp.adopt_in hr] at hi
      refine .inl ⟨hr.1, hr.2, ?_⟩
      cases hz : h1 (i - b) with
      | none => rw [hz] at hi; cases hi
      | some z => rw [hz] at hi; exact ⟨z, rfl, hi⟩
    · rw [Hp.adopt_out hr] at hi; exact .inr ⟨hr, hi⟩
  refine ⟨σ2, M2, h'.adopt b K fun i => renB b (h1 i), ⟨hσσ2, hMM2, hE.size, hE.os, hE.tape, hE.output⟩, ⟨fun i hi => ?_, fun i y hi => ?_, fun B y hB => ?_, fun i y L hi hL => ?_, fun i j yi yj Li Lj hi hj hLi hLj hb => ?_, fun i y L hi hL => ?_, fun i y L hi hL => ?_, hR.glb.mono hMM2⟩, ?_⟩
  · rw [Hp.adopt_u] at hi
    split at hi
    · cases hi
    · rename_i hr; rw [hout i hr]; exact hR.fin i hi
  · rcases cases2 i y hi with ⟨h2, h3, z, hz, _⟩ | ⟨h2, h3⟩
    · rw [hin i ⟨h2, h3⟩]; exact hR1.dom _ z hz
    · rw [hout i h2]; exact hR.dom i y h3
  · simp only [M2] at hB
    split at hB
    · rename_i z hz
      cases hB
      rw [same B (hMsz B _ hz)]; exact hR.mem B _ hz
    · split at hB
      · cases hB
      · exact hR1.mem B y hB
  · rcases cases2 i y hi with ⟨h2, h3, z, hz, _⟩ | ⟨h2, h3⟩
    · rw [hin i ⟨h2, h3⟩] at hL; exact hM2none _ (hR1.sep _ z L hz hL)
    · rw [hout i h2] at hL
      simp only [M2, hR.sep i y L h3 hL, if_pos (hR.placed h3 hL)]
  · rcases cases2 i yi hi with ⟨h2, h3, z, hz, _⟩ | ⟨h2, h3⟩ <;> rcases cases2 j yj hj with ⟨g2, g3, z', hz', _⟩ | ⟨g2, g3⟩
    · rw [hin i ⟨h2, h3⟩] at hLi; rw [hin j ⟨g2, g3⟩] at hLj
      have := hR1.inj _ _ z z' Li Lj hz hz' hLi hLj hb
      omega
    · rw [hin i ⟨h2, h3⟩] at hLi; rw [hout j g2] at hLj
      have q1 := hM1new _ (hR1.sep _ z Li hz hLi)
      have q2 := hR.placed g3 hLj
      omega
    · rw [hout i h2] at hLi; rw [hin j ⟨g2, g3⟩] at hLj
      have q1 := hM1new _ (hR1.sep _ z' Lj hz' hLj)
      have q2 := hR.placed h3 hLi
      omega
    · rw [hout i h2] at hLi; rw [hout j g2] at hLj
      exact hR.inj _ _ yi yj Li Lj h3 g3 hLi hLj hb
  · rcases cases2 i y hi with ⟨h2, h3, z, hz, hy⟩ | ⟨h2, h3⟩
    · rw [hin i ⟨h2, h3⟩] at hL
      exact BlkR.ren hσ2 hM12 hy fun z' e => by cases e; exact hR1.blk _ z L hz hL
    · rw [hout i h2] at hL
      exact (hR.blk i y L h3 hL).mono hσσ2 hMM2 (same _ (hR.placed h3 hL))
  · rcases cases2 i y hi with ⟨h2, h3, z, hz, _⟩ | ⟨h2, h3⟩
    · rw [hin i ⟨h2, h3⟩] at hL; exact hR1.al _ z L hz hL
    · rw [hout i h2] at hL; exact hR.al i y L h3 hL
  · exact ⟨v0.ren b, hv.ren hσ2 hM12 hm, v0, h1, b, K, rfl, hq, hK, hfr, rfl⟩

/-- No numbers in it: it is as it was under other numbers. -/
theorem rens_id {b : Nat} : ∀ {l : List AV}, (∀ v ∈ l, v.ren b = v) → rens b l = l
  | [], _ => rfl
  | v :: l, h => by rw [rens, h v List.mem_cons_self, rens_id fun w hw => h w (List.mem_cons_of_mem _ hw)]
theorem renss_id {b : Nat} : ∀ {l : List (List AV)}, (∀ cs ∈ l, ∀ v ∈ cs, v.ren b = v) → renss b l = l
  | [], _ => rfl
  | cs :: l, h => by rw [renss, rens_id (h cs List.mem_cons_self), renss_id fun d hd => h d (List.mem_cons_of_mem _ hd)]

theorem m0ss_append : ∀ (l m : List (List AV)), m0ss (l ++ m) = (m0ss l && m0ss m)
  | [], m => by simp [m0ss]
  | a :: l, m => by rw [List.cons_append, m0ss, m0ss, m0ss_append l m, Bool.and_assoc]
mutual
theorem m0_ren (b : Nat) : ∀ v : AV, m0 v = true → m0 (v.ren b) = true
  | .iptr g cs o, h => by
    simp only [m0, Bool.and_eq_true] at h
    simp only [AV.ren, m0, Bool.and_eq_true]
    exact ⟨h.1, m0s_ren b cs h.2⟩
  | .isl g es, h => by
    simp only [m0, Bool.and_eq_true] at h
    simp only [AV.ren, m0, Bool.and_eq_true]
    exact ⟨h.1, m0ss_ren h.2⟩
  | .func f a c, h => by
    simp only [m0, Bool.and_eq_true] at h
    simp only [AV.ren, m0, Bool.and_eq_true]
    exact ⟨m0s_ren b a h.1, m0s_ren b c h.2⟩
  | .ifc t v, h => by simp only [m0] at h; simp only [AV.ren, m0]; exact m0_ren b v h
  | .agg cs, h => by simp only [m0] at h; simp only [AV.ren, m0]; exact m0s_ren b cs h
  | .tup cs, h => by simp only [m0] at h; simp only [AV.ren, m0]; exact m0s_ren b cs h
  | .bool _, _ | .int _ _, _ | .flt _ _, _ | .str _, _ | .nilp, _ | .ptr _ _ _, _ | .nils, _ | .emp, _ | .slc _ _ _ _, _ | .nilm, _ | .map _, _ | .nilf, _ | .yld _, _ | .nili, _ => rfl
theorem m0s_ren (b : Nat) : ∀ l : List AV, m0s l = true → m0s (rens b l) = true
  | [], _ => rfl
  | v :: l, h => by
    simp only [m0s, Bool.and_eq_true] at h
    simp only [rens, m0s, Bool.and_eq_true]
    exact ⟨m0_ren b v h.1, m0s_ren b l h.2⟩
theorem m0ss_ren {b : Nat} : ∀ {l : List (List AV)}, m0ss l = true → m0ss (renss b l) = true
  | [], _ => rfl
  | cs :: l, h => by
    simp only [m0ss, Bool.and_eq_true] at h
    simp only [renss, m0ss, Bool.and_eq_true]
    exact ⟨m0s_ren b cs h.1, m0ss_ren h.2⟩
end

theorem Gr.adopt {h : Hp} {b K : Nat} {B : Nat → Option Blk} (hf : ∀ i, i < K → Fresh h (b + i)) : Gr h (h.adopt b K B) := by
  have hn : ∀ x, h.u x = true → ¬ (b ≤ x ∧ x < b + K) := fun x hx ⟨h1, h2⟩ => by
    have := (hf (x - b) (by omega)).1
    rw [show b + (x - b) = x by omega, hx] at this; cases this
  exact ⟨fun x hx => Hp.adopt_out (hn x hx), fun x hx => by rw [Hp.adopt_u, if_neg (hn x hx)]; exact hx⟩

/-- An owned row, with more behind it that is not in reach. -/
def OwnB (T : TypeId) (h h' : Hp) (r : Res) (es : List (List AV)) : Prop :=
  Gr h h' ∧ ((r = .ret .nils ∧ es = []) ∨ ∃ i rest, r = .ret (.slc i 0 es.length (some es.length)) ∧ h.u i = false ∧ h' i = some (.row T (es ++ rest)) ∧ m0ss rest = true)

/-- The same where the arguments are lent. -/
theorem CallL.lentOwn {P : Program} {f : FuncId} {args args' : List AV} {h : Hp} {T : TypeId} {es : List (List AV)} (ha : FzL anyMark 1 h args args') (k : CallL P f args' Hp.nil fun r h1 => OwnB T Hp.nil h1 r es)
    (hes : ∀ b, ∀ cs ∈ es, ∀ v ∈ cs, v.ren b = v) (hm : m0ss es = true) : CallL P f args h fun r h' => OwnB T h h' r es := by
  refine (CallL.lentE (Q := fun v h1 => OwnB T Hp.nil h1 (.ret v) es) ha (k.mono fun r h1 hq => ?_)).mono ?_
  · have hq' := hq
    rcases hq.2 with ⟨rfl, _⟩ | ⟨i, rest, rfl, _⟩
    · exact ⟨_, rfl, rfl, hq'⟩
    · exact ⟨_, rfl, rfl, hq'⟩
  · rintro r h2 ⟨v, h1, b, K, rfl, ⟨_, hq⟩, hK, hf, rfl⟩
    refine ⟨Gr.adopt hf, ?_⟩
    rcases hq with ⟨e, he⟩ | ⟨i, rest, e, _, hi, hr⟩
    · cases e; exact .inl ⟨rfl, he⟩
    · cases e
      have hiK := hK i (Hp.used hi)
      refine .inr ⟨b + i, renss b rest, rfl, (hf i hiK).1, ?_, m0ss_ren hr⟩
      rw [Hp.adopt_in ⟨by omega, by omega⟩, show b + i - b = i by omega, hi]
      have app : ∀ l m : List (List AV), renss b (l ++ m) = renss b l ++ renss b m := fun l m => by
        induction l with
        | nil => rfl
        | cons a l ih => rw [List.cons_append, renss, renss, ih]; rfl
      have hma : m0ss (es ++ rest) = true := by rw [m0ss_append, hm, hr]; rfl
      show cond (m0ss (es ++ rest)) (some (Blk.row T (renss b (es ++ rest)))) none = some (Blk.row T (es ++ renss b rest))
      rw [hma, app, renss_id (hes b)]; rfl
theorem OwnB.after {T : Nat} {h h1 h2 : Hp} {r : Res} {es : List (List AV)} (g : Gr h h1) (k : OwnB T h1 h2 r es) : OwnB T h h2 r es := by
  obtain ⟨g2, k⟩ := k
  refine ⟨g.trans g2, k.imp (fun h => h) ?_⟩
  rintro ⟨i, rest, e, hi, hb, hm⟩
  exact ⟨i, rest, e, g.new hi, hb, hm⟩
/-- An owned row as what never changes. -/
theorem OwnB.fz {T : Nat} {h h' : Hp} {v : AV} {es : List (List AV)} (k : OwnB T h h' (.ret v) es) {p : Nat → Bool} {g : Nat} (hn : noidss p es = true) : Fz p g h' v (.isl g es) := by
  obtain ⟨_, ⟨e, rfl⟩ | ⟨i, rest, e, _, hb, _⟩⟩ := k
  · cases e; exact .nilsI g
  · cases e
    have get : ∀ (k : Nat) (cs cs' : List AV), (es ++ rest)[0 + k]? = some cs → es[k]? = some cs' → cs' = cs := fun k cs cs' h1 h2 => by
      rw [Nat.zero_add, List.getElem?_append_left (List.getElem?_eq_some_iff.1 h2).1, h2] at h1; cases h1; rfl
    refine .slc i 0 es.length _ T _ es hb (by simp) rfl (fun k cs cs' h1 h2 => by rw [get k cs cs' h1 h2]) (fun k cs cs' q u u' h1 h2 h3 h4 => ?_)
    obtain rfl := get k cs cs' h1 h2
    rw [h3] at h4; cases h4
    exact .same _ (noidss_get hn k cs' q u h2 h3)

theorem OwnB.ret {T : Nat} {h h' : Hp} {r : Res} {es : List (List AV)} (k : OwnB T h h' r es) : ∃ v, r = .ret v := by
  rcases k.2 with ⟨rfl, _⟩ | ⟨_, _, rfl, _⟩ <;> exact ⟨_, rfl⟩
theorem FzL.two {p : Nat → Bool} {g : Nat} {h : Hp} {a b a' b' : AV} (h1 : Fz p g h a a') (h2 : Fz p g h b b') : FzL p g h [a, b] [a', b'] := by
  refine ⟨rfl, fun q v v' e1 e2 => ?_⟩
  match q with
  | 0 => cases e1; cases e2; exact h1
  | 1 => cases e1; cases e2; exact h2
  | q + 2 => simp at e1
end Go.L

/-
  Plain law: paths that cover one another; normal masks.
-/
namespace Go.L

/-! ### The order of texts -/
theorem str_lt_irrefl (a : Str) : ¬ a < a := List.lt_irrefl a
theorem str_lt_asymm {a b : Str} (h : a < b) : ¬ b < a := List.lt_asymm h
theorem str_not_lt {a b : Str} : ¬ a < b ↔ b ≤ a := List.not_lt
theorem str_le_total (a b : Str) : a ≤ b ∨ b ≤ a := List.le_total a b
theorem str_le_trans {a b c : Str} (h : a ≤ b) (k : b ≤ c) : a ≤ c := List.le_trans h k
theorem str_lt_of_le_of_ne {a b : Str} (h : a ≤ b) (k : a ≠ b) : a < b := by
  by_cases hlt : a < b
  · exact hlt
  · exact absurd (List.le_antisymm h (List.not_lt.1 hlt)) k

/-- Does one path cover another one? -/
def covers (p q : Str) : Bool := p.isPrefixOf q && match q.drop p.length with
  | [] => true
  | c :: _ => c == 46

theorem covers_iff {p q : Str} : covers p q = true ↔ p = q ∨ p ++ [46] <+: q := by
  unfold covers
  rw [Bool.and_eq_true, List.isPrefixOf_iff_prefix]
  constructor
  · rintro ⟨⟨r, rfl⟩, h⟩
    rw [List.drop_left] at h
    cases r with
    | nil => left; simp
    | cons c r =>
      right
      have : c = 46 := by simpa using h
      subst this
      exact ⟨r, by simp⟩
  · rintro (rfl | ⟨r, rfl⟩)
    · exact ⟨List.prefix_refl _, by simp⟩
    · refine ⟨⟨46 :: r, by simp⟩, ?_⟩
      rw [List.append_assoc, List.drop_left]; rfl

theorem covers_refl (p : Str) : covers p p = true := covers_iff.2 (.inl rfl)
theorem covers_len {p q : Str} (h : covers p q = true) : p.length ≤ q.length := by
  rcases covers_iff.1 h with rfl | ⟨r, rfl⟩
  · exact Nat.le_refl _
  · simp
theorem covers_trans {p q r : Str} (h : covers p q = true) (k : covers q r = true) : covers p r = true := by
  rcases covers_iff.1 h with rfl | ⟨s, rfl⟩
  · exact k
  · rcases covers_iff.1 k with rfl | ⟨t, rfl⟩
    · exact h
    · exact covers_iff.2 (.inr ⟨s ++ [46] ++ t, by simp⟩)
theorem covers_cmp {p r q : Str} (h : covers p q = true) (k : covers r q = true) (hl : p.length ≤ r.length) : covers p r = true := by
  rcases covers_iff.1 h with rfl | ⟨s, rfl⟩
  · rcases covers_iff.1 k with rfl | ⟨t, ht⟩
    · exact covers_refl _
    · have := congrArg List.length ht; simp at this; omega
  · rcases covers_iff.1 k with rfl | ⟨t, ht⟩
    · exact h
    · by_cases e : p.length = r.length
      · have h1 : p = r := by
          have h2 : r <+: p ++ [46] ++ s := ⟨[46] ++ t, by rw [← ht]; simp⟩
          have h3 : p <+: p ++ [46] ++ s := ⟨[46] ++ s, by simp⟩
          exact (List.prefix_of_prefix_length_le h3 h2 (by omega)).eq_of_length e
        rw [h1]; exact covers_refl _
      · refine covers_iff.2 (.inr ?_)
        have h2 : r <+: p ++ [46] ++ s := ⟨[46] ++ t, by rw [← ht]; simp⟩
        have h3 : p ++ [46] <+: p ++ [46] ++ s := ⟨s, rfl⟩
        exact List.prefix_of_prefix_length_le h3 h2 (by simp; omega)

/-- Does another one stand ahead of a dot in it? -/
def delP (l : List Str) (p : Str) : Bool := l.any fun q => (q ++ [46]).isPrefixOf p
theorem delP_iff {l : List Str} {p : Str} : delP l p = true ↔ ∃ q ∈ l, q ++ [46] <+: p := by simp [delP]

/-- Each once of those that are alike and stand side by side. -/
def ddS (l : List Str) : List Str := l.foldl (fun a x => if a.getLast? = some x then a else a ++ [x]) []
def normal (l : List Str) : List Str := (ddS (sortS l)).filter fun p => !delP l p
def cov (l : List Str) (q : Str) : Bool := l.any fun p => covers p q

theorem ddS_snoc (l : List Str) (x : Str) : ddS (l ++ [x]) = if (ddS l).getLast? = some x then ddS l else ddS l ++ [x] := by
  rw [ddS, List.foldl_append]; rfl
theorem snocInd {α : Type} {Q : List α → Prop} (h0 : Q []) (h1 : ∀ l x, Q l → Q (l ++ [x])) (l : List α) : Q l := by
  rw [← List.reverse_reverse l]
  generalize l.reverse = m
  induction m with
  | nil => exact h0
  | cons x m ih => rw [List.reverse_cons]; exact h1 _ _ ih
theorem ddS_last (l : List Str) : (ddS l).getLast? = l.getLast? := by
  induction l using snocInd with
  | h0 => rfl
  | h1 l x ih =>
    rw [ddS_snoc]
    split
    · rename_i h; rw [h]; simp
    · simp
theorem ddS_len (l : List Str) : (ddS l).length ≤ l.length := by
  induction l using snocInd with
  | h0 => exact Nat.le_refl _
  | h1 l x ih => rw [ddS_snoc]; split <;> simp <;> omega
theorem ddS_mem_iff (l : List Str) (x : Str) : x ∈ ddS l ↔ x ∈ l := by
  induction l using snocInd with
  | h0 => exact Iff.rfl
  | h1 l y ih =>
    rw [ddS_snoc]
    split
    · rename_i h
      rw [ih, List.mem_append, List.mem_singleton]
      constructor
      · exact .inl
      · rintro (h2 | rfl)
        · exact h2
        · exact ih.1 (List.mem_of_getLast? h)
    · simp [ih]
theorem ddS_mem {l : List Str} {x : Str} (h : x ∈ ddS l) : x ∈ l := (ddS_mem_iff l x).1 h
theorem ddS_short {l : List Str} (h : l.length < 2) : ddS l = l := by
  cases l with
  | nil => rfl
  | cons a l => cases l with
    | nil => rfl
    | cons b l => simp at h; omega
theorem List.take_succ_of_get {α : Type} {l : List α} {k : Nat} {x : α} (h : l[k]? = some x) : l.take (k + 1) = l.take k ++ [x] := by
  rw [List.take_add_one, h]; rfl
theorem List.getLast?_take_succ {α : Type} {l : List α} {k : Nat} {x : α} (h : l[k]? = some x) : (l.take (k + 1)).getLast? = some x := by
  rw [List.take_succ_of_get h]; simp

theorem ddS_pw {l : List Str} (h : l.Pairwise (· ≤ ·)) : (ddS l).Pairwise (· < ·) := by
  induction l using snocInd with
  | h0 => exact List.Pairwise.nil
  | h1 l x ih =>
    rw [List.pairwise_append] at h
    have ih := ih h.1
    rw [ddS_snoc]
    split
    · exact ih
    · rename_i hx
      rw [List.pairwise_append]
      refine ⟨ih, List.pairwise_singleton _ _, fun a ha b hb => ?_⟩
      rw [List.mem_singleton.1 hb]
      have h1 : a ≤ x := h.2.2 a (ddS_mem ha) x (List.mem_singleton.2 rfl)
      have h2 : a ≠ x := fun e => by
        subst e
        -- the last one is not less than a, and a is the greatest
        apply hx
        cases hl : (ddS l).getLast? with
        | none => rw [List.getLast?_eq_none_iff.1 hl] at ha; cases ha
        | some z =>
          have hz : z ≤ a := h.2.2 z (ddS_mem (List.mem_of_getLast? hl)) a (List.mem_singleton.2 rfl)
          obtain ⟨m, hm⟩ := List.getLast?_eq_some_iff.1 hl
          rw [hm] at ha ih
          rw [List.pairwise_append] at ih
          rcases List.mem_append.1 ha with ha | ha
          · have := ih.2.2 a ha z (List.mem_singleton.2 rfl)
            exact absurd this (str_not_lt.2 hz)
          · rw [List.mem_singleton.1 ha]
      exact str_lt_of_le_of_ne h1 h2
theorem sortS_pw (l : List Str) : (sortS l).Pairwise (· ≤ ·) := by
  have := List.pairwise_mergeSort (le := fun x y : Str => decide (x ≤ y)) (fun a b c h1 h2 => by simp only [decide_eq_true_eq] at *; exact str_le_trans h1 h2) (fun a b => by simpa using str_le_total a b) l
  simpa [sortS] using this
theorem normal_pw (l : List Str) : (normal l).Pairwise (· < ·) := (ddS_pw (sortS_pw l)).filter _
theorem mem_normal {l : List Str} {p : Str} : p ∈ normal l ↔ p ∈ l ∧ delP l p = false := by
  simp [normal, ddS_mem_iff, sortS]

theorem cov_iff {l : List Str} {q : Str} : cov l q = true ↔ ∃ p ∈ l, covers p q = true := List.any_eq_true
theorem cov_normal (l : List Str) (q : Str) : cov (normal l) q = cov l q := by
  rw [Bool.eq_iff_iff, cov_iff, cov_iff]
  constructor
  · rintro ⟨p, hp, h⟩; exact ⟨p, (mem_normal.1 hp).1, h⟩
  · have key : ∀ (n : Nat) (p : Str), p.length ≤ n → p ∈ l → covers p q = true → ∃ p' ∈ normal l, covers p' q = true := by
      intro n
      induction n with
      | zero =>
        intro p hn hp h
        refine ⟨p, mem_normal.2 ⟨hp, ?_⟩, h⟩
        rw [Bool.eq_false_iff]
        intro hd
        obtain ⟨r, _, ⟨s, rfl⟩⟩ := delP_iff.1 hd
        simp at hn
      | succ n ih =>
        intro p hn hp h
        cases hd : delP l p with
        | false => exact ⟨p, mem_normal.2 ⟨hp, hd⟩, h⟩
        | true =>
          obtain ⟨r, hr, hrp⟩ := delP_iff.1 hd
          have := hrp.length_le
          exact ih r (by simp at this; omega) hr (covers_trans (covers_iff.2 (.inr hrp)) h)
    rintro ⟨p, hp, h⟩; exact key _ p (Nat.le_refl _) hp h
theorem cov_append (a b : List Str) (q : Str) : cov (a ++ b) q = (cov a q || cov b q) := List.any_append
theorem cov_meet (a b : List Str) (q : Str) : cov (a.filter (cov b) ++ b.filter (cov a)) q = (cov a q && cov b q) := by
  rw [Bool.eq_iff_iff, Bool.and_eq_true, cov_iff, cov_iff, cov_iff]
  constructor
  · rintro ⟨p, hp, h⟩
    rcases List.mem_append.1 hp with hp | hp
    · obtain ⟨h1, h2⟩ := List.mem_filter.1 hp
      obtain ⟨r, hr, h3⟩ := cov_iff.1 h2
      exact ⟨⟨p, h1, h⟩, r, hr, covers_trans h3 h⟩
    · obtain ⟨h1, h2⟩ := List.mem_filter.1 hp
      obtain ⟨r, hr, h3⟩ := cov_iff.1 h2
      exact ⟨⟨r, hr, covers_trans h3 h⟩, p, h1, h⟩
  · rintro ⟨⟨p, hp, h⟩, r, hr, k⟩
    rcases Nat.le_total p.length r.length with hl | hl
    · exact ⟨r, List.mem_append_right _ (List.mem_filter.2 ⟨hr, cov_iff.2 ⟨p, hp, covers_cmp h k hl⟩⟩), k⟩
    · exact ⟨p, List.mem_append_left _ (List.mem_filter.2 ⟨hp, cov_iff.2 ⟨r, hr, covers_cmp k h hl⟩⟩), h⟩
theorem normal_apart {l : List Str} {p q : Str} (hp : p ∈ normal l) (hq : q ∈ normal l) (h : p ≠ q) : covers p q = false := by
  rw [Bool.eq_false_iff]
  intro hc
  rcases covers_iff.1 hc with e | hr
  · exact h e
  · have := (mem_normal.1 hq).2
    rw [delP_iff.2 ⟨p, (mem_normal.1 hp).1, hr⟩] at this
    cases this

theorem normal_len (l : List Str) : (normal l).length ≤ l.length := by
  refine Nat.le_trans (List.length_filter_le _ _) (Nat.le_trans (ddS_len _) ?_)
  exact Nat.le_of_eq (List.length_mergeSort ..)
theorem pw_get {l : List Str} (h : l.Pairwise (· < ·)) {i j : Nat} (hij : i < j) {x y : Str} (hx : l[i]? = some x) (hy : l[j]? = some y) : x < y := by
  obtain ⟨h1, rfl⟩ := List.getElem?_eq_some_iff.1 hx
  obtain ⟨h2, rfl⟩ := List.getElem?_eq_some_iff.1 hy
  exact List.pairwise_iff_getElem.1 h i j h1 h2 hij

/-- Two rising lists of the same members are one. -/
theorem rising_ext : ∀ {l m : List Str}, l.Pairwise (· < ·) → m.Pairwise (· < ·) → (∀ x, x ∈ l ↔ x ∈ m) → l = m
  | [], [], _, _, _ => rfl
  | [], b :: m, _, _, h => by have := (h b).2 List.mem_cons_self; cases this
  | a :: l, [], _, _, h => by have := (h a).1 List.mem_cons_self; cases this
  | a :: l, b :: m, hl, hm, h => by
    rw [List.pairwise_cons] at hl hm
    have e : a = b := by
      rcases List.mem_cons.1 ((h a).1 List.mem_cons_self) with e | ha
      · exact e
      · rcases List.mem_cons.1 ((h b).2 List.mem_cons_self) with e | hb
        · exact e.symm
        · exact absurd (hm.1 a ha) (str_lt_asymm (hl.1 b hb))
    subst e
    rw [rising_ext hl.2 hm.2 fun x => ⟨fun hx => ?_, fun hx => ?_⟩]
    · rcases List.mem_cons.1 ((h x).1 (List.mem_cons_of_mem _ hx)) with e | hx'
      · subst e; exact absurd (hl.1 x hx) (str_lt_irrefl x)
      · exact hx'
    · rcases List.mem_cons.1 ((h x).2 (List.mem_cons_of_mem _ hx)) with e | hx'
      · subst e; exact absurd (hm.1 x hx) (str_lt_irrefl x)
      · exact hx'

theorem str_le_of_lt {a b : Str} (h : a < b) : a ≤ b := str_not_lt.1 (str_lt_asymm h)
/-- One more among rising texts. -/
theorem ins_pw {A B : List Str} {x : Str} (h : (A ++ B).Pairwise (· < ·)) (hB : ∀ b ∈ B, x < b) (hA : ∀ a, A.getLast? = some a → ¬ x < a) (hx : x ∉ A ++ B) : (A ++ x :: B).Pairwise (· < ·) := by
  rw [List.pairwise_append] at h ⊢
  refine ⟨h.1, List.pairwise_cons.2 ⟨hB, h.2.1⟩, fun a ha c hc => ?_⟩
  rcases List.mem_cons.1 hc with rfl | hc
  · have hne : a ≠ c := fun e => hx (List.mem_append_left _ (by rw [← e]; exact ha))
    cases hl : A.getLast? with
    | none => rw [List.getLast?_eq_none_iff.1 hl] at ha; cases ha
    | some z =>
      have hz : z ≤ c := str_not_lt.1 (hA z hl)
      obtain ⟨A', hA'⟩ := List.getLast?_eq_some_iff.1 hl
      have hp := h.1
      rw [hA'] at ha hp
      rw [List.pairwise_append] at hp
      rcases List.mem_append.1 ha with ha | ha
      · exact str_lt_of_le_of_ne (str_le_trans (str_le_of_lt (hp.2.2 a ha z (List.mem_singleton.2 rfl))) hz) hne
      · rw [List.mem_singleton.1 ha] at hne ⊢
        exact str_lt_of_le_of_ne hz hne
  · exact h.2.2 a ha c hc
end Go.L

/-
  Plain law: names; declared types as plain data.
-/
namespace Go.L

/-! ### Names -/
def inR (a b n : Nat) : Bool := Nat.ble a n && Nat.ble n b
def smallC (c : UInt8) : Bool := inR 97 122 c.toNat
def capC (c : UInt8) : Bool := inR 65 90 c.toNat
def digitC (c : UInt8) : Bool := inR 48 57 c.toNat
/-- A byte that an identifier may have. -/
def identC (c : UInt8) : Bool := smallC c || capC c || digitC c || c == 95
def ident (s : Str) : Bool := match s with
  | [] => false
  | c :: _ => Nat.ble s.length 255 && !digitC c && s.all identC

/-- The parts of a text, by a byte. -/
def splitC (c : UInt8) : Str → List Str
  | [] => [[]]
  | x :: s => if x = c then [] :: splitC c s else match splitC c s with
    | [] => [[x]]
    | p :: r => (x :: p) :: r
def fullB (s : Str) : Bool := Nat.ble s.length 255 && (splitC 46 s).all ident
/-- Parts that are not empty, with dots between. -/
def joinD (l : List Str) : Str := [46].intercalate (l.filter fun s => !s.isEmpty)
/-- What stands ahead of the last dot, and behind it. -/
def splitL (s : Str) : Str × Str :=
  let r := s.reverse
  let b := r.takeWhile fun c => c != 46
  match r.drop b.length with
  | [] => ([], s)
  | _ :: a => (a.reverse, b.reverse)

theorem splitC_ne (c : UInt8) (s : Str) : splitC c s ≠ [] := by
  induction s with
  | nil => simp [splitC]
  | cons x s ih =>
    rw [splitC]
    split
    · simp
    · split <;> simp

/-! ### Declarations -/
structure Span where
  lo : Int
  hi : Int
structure EnumVal where
  name : Str
  num : Int
structure EnumDef where
  name : Str
  vals : List EnumVal
  alias : Bool
  res : List Span
  names : List Str
structure FieldDef where
  name : Str
  num : Int
  card : Int
  kind : Int
  typ : Str
  key : Int
  oneof : Int
  packed : Int
  json : Str
structure Import where
  path : Str
  pub : Bool
inductive MsgDef where
  | mk (name : Str) (fields : List FieldDef) (oneofs : List Str) (msgs : List MsgDef) (enums : List EnumDef) (res : List Span) (names : List Str)
structure File where
  path : Str
  pack : Str
  imports : List Import
  msgs : List MsgDef
  enums : List EnumDef
end Go.L

/-
  Plain law: the document's normal masks; masks as texts.
-/
namespace Go.L

/-! ### The document's normal form -/
/-- Does the document keep the text at a place? -/
def keepAt (l : List Str) (i : Nat) (x : Str) : Prop := (∀ y ∈ l, y ≠ x → covers y x = false) ∧ (∀ j y, j < i → l[j]? = some y → y ≠ x)

theorem first_at {x : Str} : ∀ {l : List Str}, x ∈ l → ∃ i : Nat, l[i]? = some x ∧ ∀ (j : Nat) (y : Str), j < i → l[j]? = some y → y ≠ x
  | [], h => by cases h
  | a :: l, h => by
    by_cases e : a = x
    · exact ⟨0, by rw [e]; rfl, fun j y hj => by omega⟩
    · rcases List.mem_cons.1 h with h | h
      · exact absurd h.symm e
      · obtain ⟨i, h1, h2⟩ := first_at h
        refine ⟨i + 1, by simpa using h1, fun j y hj hy => ?_⟩
        cases j with
        | zero => simp at hy; rw [← hy]; exact e
        | succ j => exact h2 j y (by omega) (by simpa using hy)
theorem delP_keep {l : List Str} {x : Str} : delP l x = false ↔ ∀ y ∈ l, y ≠ x → covers y x = false := by
  constructor
  · intro h y hy hne
    rw [Bool.eq_false_iff]
    intro hc
    rcases covers_iff.1 hc with e | hp
    · exact hne e
    · rw [delP_iff.2 ⟨y, hy, hp⟩] at h; cases h
  · intro h
    rw [Bool.eq_false_iff]
    intro hd
    obtain ⟨y, hy, hp⟩ := delP_iff.1 hd
    have hne : y ≠ x := fun e => by have := hp.length_le; rw [e] at this; simp at this; omega
    have := h y hy hne
    rw [covers_iff.2 (.inr hp)] at this; cases this
/-- What has come out ahead of a place. -/
structure Kept (l : List Str) (i : Nat) (out : List Str) : Prop where
  pw : out.Pairwise (· < ·)
  mem : ∀ x, x ∈ out ↔ ∃ j, j < i ∧ l[j]? = some x ∧ keepAt l j x
theorem Kept.nil (l : List Str) : Kept l 0 [] := ⟨.nil, fun x => ⟨(fun h => by cases h), fun ⟨j, h, _⟩ => by omega⟩⟩
theorem Kept.skip {l : List Str} {i : Nat} {out : List Str} {x : Str} (k : Kept l i out) (hx : l[i]? = some x) (h : ¬ keepAt l i x) : Kept l (i + 1) out :=
  ⟨k.pw, fun y => (k.mem y).trans ⟨fun ⟨j, h1, h2⟩ => ⟨j, by omega, h2⟩, fun ⟨j, h1, h2, h3⟩ => by
    by_cases e : j = i
    · subst e; rw [hx] at h2; cases h2; exact absurd h3 h
    · exact ⟨j, by omega, h2, h3⟩⟩⟩
theorem Kept.new {l : List Str} {i : Nat} {out : List Str} {x : Str} (k : Kept l i out) (h : keepAt l i x) : x ∉ out := fun hx => by
  obtain ⟨j, h1, h2, _⟩ := (k.mem x).1 hx
  exact h.2 j x h1 h2 rfl
theorem Kept.ins {l : List Str} {i : Nat} {A B : List Str} {x : Str} (k : Kept l i (A ++ B)) (hx : l[i]? = some x) (h : keepAt l i x) (hB : ∀ b ∈ B, x < b) (hA : ∀ a, A.getLast? = some a → ¬ x < a) : Kept l (i + 1) (A ++ x :: B) := by
  refine ⟨ins_pw k.pw hB hA (k.new h), fun y => ?_⟩
  have h0 := k.mem y
  have e : y ∈ A ++ x :: B ↔ y ∈ A ++ B ∨ y = x := by
    simp only [List.mem_append, List.mem_cons]
    constructor
    · rintro (h | h | h)
      · exact .inl (.inl h)
      · exact .inr h
      · exact .inl (.inr h)
    · rintro ((h | h) | h)
      · exact .inl h
      · exact .inr (.inr h)
      · exact .inr (.inl h)
  rw [e, h0]
  constructor
  · rintro (⟨j, h1, h2⟩ | rfl)
    · exact ⟨j, by omega, h2⟩
    · exact ⟨i, by omega, hx, h⟩
  · rintro ⟨j, h1, h2, h3⟩
    by_cases e : j = i
    · subst e; rw [hx] at h2; cases h2; exact .inr rfl
    · exact .inl ⟨j, by omega, h2, h3⟩
theorem Kept.done {l : List Str} {i : Nat} {out : List Str} (k : Kept l i out) (hi : l.length ≤ i) : out = normal l := by
  refine rising_ext k.pw (normal_pw l) fun x => ?_
  rw [k.mem, mem_normal, delP_keep]
  constructor
  · rintro ⟨j, _, h2, h3⟩
    exact ⟨List.mem_of_getElem? h2, h3.1⟩
  · rintro ⟨h1, h2⟩
    obtain ⟨j, h3, h4⟩ := first_at h1
    have := (List.getElem?_eq_some_iff.1 h3).1
    exact ⟨j, by omega, h3, h2, h4⟩

/-! ### Parts of a text -/
theorem splitC_one {c : UInt8} : ∀ {p : Str}, c ∉ p → splitC c p = [p]
  | [], _ => rfl
  | x :: p, h => by
    have h1 : ¬ x = c := fun e => h (by rw [e]; exact List.mem_cons_self)
    rw [splitC, if_neg h1, splitC_one fun hc => h (List.mem_cons_of_mem _ hc)]
theorem splitC_cut {c : UInt8} {r : Str} : ∀ {p : Str}, c ∉ p → splitC c (p ++ c :: r) = p :: splitC c r
  | [], _ => by rw [List.nil_append, splitC, if_pos rfl]
  | x :: p, h => by
    have h1 : ¬ x = c := fun e => h (by rw [e]; exact List.mem_cons_self)
    rw [List.cons_append, splitC, if_neg h1, splitC_cut fun hc => h (List.mem_cons_of_mem _ hc)]
theorem splitC_len (c : UInt8) : ∀ s : Str, (splitC c s).length = s.count c + 1
  | [] => rfl
  | x :: s => by
    have ih := splitC_len c s
    rw [splitC]
    split
    · rename_i h
      rw [List.length_cons, ih, h, List.count_cons_self]
    · rename_i h
      rw [List.count_cons_of_ne h]
      split
      · rename_i h2; rw [h2] at ih; simp at ih
      · rename_i p r h2
        rw [← ih, h2]; rfl
theorem splitC_mem_len {c : UInt8} : ∀ {s p : Str}, p ∈ splitC c s → p.length ≤ s.length
  | [], p, h => by rw [splitC, List.mem_singleton] at h; rw [h]; exact Nat.le_refl _
  | x :: s, p, h => by
    rw [splitC] at h
    split at h
    · rcases List.mem_cons.1 h with e | h
      · rw [e]; exact Nat.zero_le _
      · have := splitC_mem_len h; simp; omega
    · split at h
      · rw [List.mem_singleton] at h; rw [h]; simp
      · rename_i q r h2
        rcases List.mem_cons.1 h with e | h
        · have := splitC_mem_len (p := q) (c := c) (s := s) (by rw [h2]; exact List.mem_cons_self)
          rw [e]; simp; omega
        · have := splitC_mem_len (p := p) (c := c) (s := s) (by rw [h2]; exact List.mem_cons_of_mem _ h)
          simp; omega
/-- Parts with a byte between. -/
def joinC (c : UInt8) : List Str → Str
  | [] => []
  | [p] => p
  | p :: q :: r => p ++ c :: joinC c (q :: r)
theorem splitC_joinC {c : UInt8} : ∀ {l : List Str}, l ≠ [] → (∀ p ∈ l, c ∉ p) → splitC c (joinC c l) = l
  | [], h, _ => absurd rfl h
  | [p], _, h => splitC_one (h p List.mem_cons_self)
  | p :: q :: r, _, h => by
    rw [joinC, splitC_cut (h p List.mem_cons_self), splitC_joinC (by simp) fun x hx => h x (List.mem_cons_of_mem _ hx)]
theorem joinC_snoc (c : UInt8) : ∀ (l : List Str) (x : Str), l ≠ [] → joinC c (l ++ [x]) = joinC c l ++ c :: x
  | [], _, h => absurd rfl h
  | [p], x, _ => rfl
  | p :: q :: r, x, _ => by
    have := joinC_snoc c (q :: r) x (by simp)
    simp only [List.cons_append, joinC, List.append_assoc] at this ⊢
    rw [this]

def isPath (s : Str) : Bool := (splitC 46 s).all ident
theorem ident_no {c : UInt8} (hc : identC c = false) {s : Str} (h : ident s = true) : c ∉ s := fun hs => by
  unfold ident at h
  split at h
  · cases hs
  · simp only [Bool.and_eq_true] at h
    have := List.all_eq_true.1 h.2 c hs
    rw [hc] at this; cases this
theorem mem_splitC {c d : UInt8} (hne : d ≠ c) : ∀ {s : Str}, d ∈ s → ∃ p ∈ splitC c s, d ∈ p
  | [], h => by cases h
  | x :: s, h => by
    rw [splitC]
    rcases List.mem_cons.1 h with e | h
    · subst e
      rw [if_neg hne]
      split
      · exact ⟨_, List.mem_cons_self, List.mem_cons_self⟩
      · exact ⟨_, List.mem_cons_self, List.mem_cons_self⟩
    · obtain ⟨p, hp, hd⟩ := mem_splitC hne h
      split
      · exact ⟨p, List.mem_cons_of_mem _ hp, hd⟩
      · split
        · rename_i h2; rw [h2] at hp; cases hp
        · rename_i q r h2
          rw [h2] at hp
          rcases List.mem_cons.1 hp with e | hp
          · subst e; exact ⟨_, List.mem_cons_self, List.mem_cons_of_mem _ hd⟩
          · exact ⟨p, List.mem_cons_of_mem _ hp, hd⟩
theorem isPath_no {s : Str} (h : isPath s = true) : (44 : UInt8) ∉ s := fun hs => by
  obtain ⟨p, hp, hd⟩ := mem_splitC (c := 46) (by decide) hs
  exact ident_no (c := 44) (by decide) (List.all_eq_true.1 h p hp) hd
theorem isPath_ne {s : Str} (h : isPath s = true) : s ≠ [] := fun e => by subst e; exact absurd h (by decide)

/-- What Parse gives. -/
def parseM (s : Str) : Option (List Str) := if s = [] then some [] else if (splitC 44 s).all isPath then some (splitC 44 s) else none
theorem joinC_ne {l : List Str} (hl : l ≠ []) (h : l.all isPath = true) : joinC 44 l ≠ [] := by
  cases l with
  | nil => exact absurd rfl hl
  | cons p l =>
    have := isPath_ne (List.all_eq_true.1 h p List.mem_cons_self)
    cases l with
    | nil => exact this
    | cons q r => simp [joinC]
theorem parse_print {l : List Str} (h : l.all isPath = true) : parseM (joinC 44 l) = some l := by
  by_cases hl : l = []
  · subst hl; rfl
  · have := splitC_joinC (c := 44) hl fun p hp => isPath_no (List.all_eq_true.1 h p hp)
    rw [parseM, if_neg (joinC_ne hl h), this, if_pos h]
end Go.L

/-
  Plain law: a text that is cut, byte by byte.
-/
namespace Go.L

theorem byte_eq (c d : UInt8) : ((c.toNat : Int) == (d.toNat : Int)) = (c == d) := by
  rw [Bool.eq_iff_iff]
  simp only [beq_iff_eq]
  exact ⟨fun h => UInt8.toNat_inj.1 (by omega), fun h => by rw [h]⟩
theorem byte_ne {c d : UInt8} (h : (c.toNat : Int) ≠ d.toNat) : c ≠ d := fun e => h (by rw [e])
theorem byte_is {c d : UInt8} (h : (c.toNat : Int) = d.toNat) : c = d := UInt8.toNat_inj.1 (by omega)

/-- How far a text is cut: the part at hand begins at fr, so far to i; the parts ahead. -/
structure Cut (c : UInt8) (s : Str) (fr i : Nat) (d : List Str) : Prop where
  le : fr ≤ i
  eq : splitC c s = d ++ splitC c (s.drop fr)
  no : c ∉ (s.take i).drop fr
theorem Cut.start (c : UInt8) (s : Str) : Cut c s 0 0 [] := ⟨Nat.le_refl _, by simp, by simp⟩
theorem Cut.step {c x : UInt8} {s : Str} {fr i : Nat} {d : List Str} (k : Cut c s fr i d) (hx : s[i]? = some x) (hne : x ≠ c) : Cut c s fr (i + 1) d := by
  have hl := (List.getElem?_eq_some_iff.1 hx).1
  have := k.le
  refine ⟨by omega, k.eq, ?_⟩
  rw [List.take_succ_of_get hx, List.drop_append_of_le_length (by rw [List.length_take]; omega)]
  intro h
  rcases List.mem_append.1 h with h | h
  · exact k.no h
  · exact hne (List.mem_singleton.1 h).symm
theorem Cut.cut {c : UInt8} {s : Str} {fr i : Nat} {d : List Str} (k : Cut c s fr i d) (hx : s[i]? = some c) : Cut c s (i + 1) (i + 1) (d ++ [(s.take i).drop fr]) := by
  obtain ⟨hl, hx'⟩ := List.getElem?_eq_some_iff.1 hx
  have := k.le
  refine ⟨Nat.le_refl _, ?_, by rw [List.drop_of_length_le (by rw [List.length_take]; omega)]; simp⟩
  have e : s.drop fr = (s.take i).drop fr ++ c :: s.drop (i + 1) := by
    have h1 : s = s.take i ++ c :: s.drop (i + 1) := by
      rw [← hx', ← List.drop_eq_getElem_cons hl, List.take_append_drop]
    have h2 : s.drop fr = (s.take i ++ c :: s.drop (i + 1)).drop fr := by rw [← h1]
    rw [h2, List.drop_append_of_le_length (by rw [List.length_take]; omega)]
  rw [k.eq, e, splitC_cut k.no]; simp
theorem Cut.fin {c : UInt8} {s : Str} {fr i : Nat} {d : List Str} (k : Cut c s fr i d) (hi : s.length ≤ i) : splitC c s = d ++ [(s.take i).drop fr] := by
  have e : s.take i = s := List.take_of_length_le hi
  have h := k.no
  rw [e] at h ⊢
  rw [k.eq, splitC_one h]
theorem Cut.mem {c : UInt8} {s : Str} {fr i : Nat} {d : List Str} (k : Cut c s fr i d) (h : s.length ≤ i ∨ s[i]? = some c) : (s.take i).drop fr ∈ splitC c s := by
  rcases h with h | h
  · rw [k.fin h]; exact List.mem_append_right _ (List.mem_singleton.2 rfl)
  · rw [(k.cut h).eq]; exact List.mem_append_left _ (List.mem_append_right _ (List.mem_singleton.2 rfl))
theorem Cut.len {c : UInt8} {s : Str} {fr i : Nat} {d : List Str} (k : Cut c s fr i d) : d.length ≤ s.length := by
  have h1 := splitC_len c s
  have h2 : s.count c ≤ s.length := List.count_le_length
  have h3 := congrArg List.length k.eq
  have h4 := splitC_len c (s.drop fr)
  rw [List.length_append] at h3
  omega
theorem cut_len (s : Str) (fr i : Nat) : ((s.take i).drop fr).length ≤ s.length := by
  rw [List.length_drop, List.length_take]; omega

theorem all_snoc {α : Type} {p : α → Bool} {l : List α} {x : α} (h : l.all p = true) (hx : p x = true) : (l ++ [x]).all p = true := by
  rw [List.all_append, h]; simp [hx]
theorem all_no {α : Type} {p : α → Bool} {l : List α} {x : α} (h : x ∈ l) (hx : p x = false) : l.all p = false := List.all_eq_false.2 ⟨x, h, by simp [hx]⟩

theorem ident_of {s : Str} {c : UInt8} (h : s[0]? = some c) (hl : s.length ≤ 255) (hd : digitC c = false) (hall : ∀ (j : Nat) (x : UInt8), j < s.length → s[j]? = some x → identC x = true) : ident s = true := by
  cases s with
  | nil => cases h
  | cons d r =>
    have : d = c := by simpa using h
    subst this
    have h2 : (d :: r).all identC = true := List.all_eq_true.2 fun x hx => by
      obtain ⟨j, hj⟩ := List.getElem?_of_mem hx
      exact hall j x (List.getElem?_eq_some_iff.1 hj).1 hj
    simp only [ident, hd, h2, Nat.ble_eq_true_of_le hl]; rfl

theorem joinC_len {c : UInt8} {B : Nat} : ∀ {l : List Str}, (∀ s ∈ l, s.length ≤ B) → (joinC c l).length ≤ l.length * (B + 1)
  | [], _ => Nat.zero_le _
  | [p], h => by have := h p List.mem_cons_self; simp only [joinC, List.length_cons, List.length_nil]; omega
  | p :: q :: r, h => by
    have h1 := h p List.mem_cons_self
    have h2 := joinC_len (c := c) (l := q :: r) fun s hs => h s (List.mem_cons_of_mem _ hs)
    simp only [joinC, List.length_append, List.length_cons, Nat.add_mul, Nat.mul_add] at h2 ⊢
    omega
end Go.L

/-
  A contract of utf8.DecodeRuneInString, in the logic's words.
-/
namespace Go.L

section
variable {P : Program} {σ : Emb} {M : Mem} {h : Hp} {w w' : World}
theorem R.grown (hR : R P σ M h w) (hh : ∀ B, B < w.heap.size → w'.heap[B]? = w.heap[B]?) : R P σ M h w' where
  glb := hR.glb
  fin := hR.fin
  dom := hR.dom
  mem := fun B o hB => by
    have := hR.mem B o hB
    rw [hh B (Array.getElem?_eq_some_iff.1 this).1]; exact this
  sep := hR.sep
  inj := hR.inj
  blk := fun i b L hi hL => (hR.blk i b L hi hL).mono σ.le_refl M.le_refl (hh _ (hR.placed hi hL))
  al := hR.al

theorem decode_bridge {f g3 g4 : Nat} (h3 : P.globalNamed "unicode/utf8.first" = some g3) (h4 : P.globalNamed "unicode/utf8.acceptRanges" = some g4)
    (hD : ∀ (s : ByteArray) (w : World), s.size ≠ 0 → Tabs8 g3 g4 w → Calls P f #[.string s] w fun e w' => e = .returned (.tuple #[.int .i32 (Utf8.decode s 0).1, .int .i64 (Utf8.decode s 0).2]) ∧ RowKit.Below w.heap.size w w')
    (s : Str) (hs : s ≠ []) : PureL P f [.str s] (.tup [.int .i32 (Utf8.decode ⟨s.toArray⟩ 0).1, .int .i64 (Utf8.decode ⟨s.toArray⟩ 0).2]) := by
  intro h
  constructor
  intro σ M w args' hR hA
  obtain ⟨v, hv0, hv⟩ := hA.2 0 _ rfl
  have hargs : args' = #[v] := by
    have h1 : args'.size = 1 := hA.1
    apply Array.ext_getElem?
    intro k
    cases k with
    | zero => rw [hv0]; rfl
    | succ k => rw [Array.getElem?_eq_none (by omega)]; rfl
  subst hargs
  obtain ⟨b, rfl, hb⟩ := hv.str_inv
  have hbb : b = ⟨s.toArray⟩ := by cases b; simp at hb; subst hb; simp
  refine callsIn_wide.2 ((hD b w ?_ (hR.glb g3 g4 h3 h4 w hR.mem)).mono ?_)
  · intro h0
    apply hs
    have : s.length = 0 := by rw [← hb]; exact h0
    exact List.eq_nil_of_length_eq_zero this
  · rintro e w' ⟨rfl, hB⟩
    refine ⟨σ, M, h, ⟨σ.le_refl, M.le_refl, hB.size, hB.os, hB.tape, hB.output⟩, hR.grown hB.block, _, VR.tup' (VRs.cons (.int _ _) (VRs.cons (.int _ _) .nil)), ?_, rfl⟩
    rw [hbb]
end
end Go.L

/-
  Plain law: how many bytes a character has: the model's decoding and the document's.
-/
namespace Go.L
open Go

/-- The document's: n bytes are there, the first ones are these. -/
def sizeN (n b0 b1 b2 b3 : Nat) : Nat :=
  if b0 < 128 then 1
  else if 194 ≤ b0 ∧ b0 ≤ 223 then (if 1 < n ∧ 128 ≤ b1 ∧ b1 ≤ 191 then 2 else 0)
  else if b0 = 224 then (if 2 < n ∧ 160 ≤ b1 ∧ b1 ≤ 191 ∧ 128 ≤ b2 ∧ b2 ≤ 191 then 3 else 0)
  else if b0 = 237 then (if 2 < n ∧ 128 ≤ b1 ∧ b1 ≤ 159 ∧ 128 ≤ b2 ∧ b2 ≤ 191 then 3 else 0)
  else if 225 ≤ b0 ∧ b0 ≤ 239 then (if 2 < n ∧ 128 ≤ b1 ∧ b1 ≤ 191 ∧ 128 ≤ b2 ∧ b2 ≤ 191 then 3 else 0)
  else if b0 = 240 then (if 3 < n ∧ 144 ≤ b1 ∧ b1 ≤ 191 ∧ 128 ≤ b2 ∧ b2 ≤ 191 ∧ 128 ≤ b3 ∧ b3 ≤ 191 then 4 else 0)
  else if 241 ≤ b0 ∧ b0 ≤ 243 then (if 3 < n ∧ 128 ≤ b1 ∧ b1 ≤ 191 ∧ 128 ≤ b2 ∧ b2 ≤ 191 ∧ 128 ≤ b3 ∧ b3 ≤ 191 then 4 else 0)
  else if b0 = 244 then (if 3 < n ∧ 128 ≤ b1 ∧ b1 ≤ 143 ∧ 128 ≤ b2 ∧ b2 ≤ 191 ∧ 128 ≤ b3 ∧ b3 ≤ 191 then 4 else 0)
  else 0

set_option maxHeartbeats 4000000 in
theorem sizeN_decode (n b0 b1 b2 b3 : Nat) (h0 : b0 < 256) (h1 : b1 < 256) (h2 : b2 < 256) (h3 : b3 < 256) :
    (sizeN n b0 b1 b2 b3 = 0 ∧ Lib.decodeN n b0 b1 b2 b3 = (65533, 1)) ∨ (sizeN n b0 b1 b2 b3 ≠ 0 ∧ (Lib.decodeN n b0 b1 b2 b3).2 = sizeN n b0 b1 b2 b3 ∧ (sizeN n b0 b1 b2 b3 = 1 → (Lib.decodeN n b0 b1 b2 b3).1 ≠ 65533)) := by
  unfold sizeN Lib.decodeN
  by_cases c0 : b0 < 128
  · simp [c0]; omega
  by_cases c1 : b0 < 194
  · rw [if_neg c0, if_neg (by omega), if_neg (by omega), if_neg (by omega), if_neg (by omega), if_neg (by omega), if_neg (by omega), if_neg (by omega), if_neg c0]
    refine .inl ⟨rfl, ?_⟩
    split
    · rw [if_neg (by omega)]
    · rw [if_neg (by omega), if_neg (by omega)]
  by_cases c2 : b0 ≤ 223
  · rw [if_neg c0, if_pos (by omega), if_neg c0]
    by_cases q : 1 < n ∧ 128 ≤ b1 ∧ b1 ≤ 191
    · rw [if_pos q, if_pos (by omega), if_pos (by omega)]; exact .inr ⟨by decide, rfl, by omega⟩
    · rw [if_neg q, if_neg (by omega), if_neg (by omega), if_neg (by omega)]; exact .inl ⟨rfl, rfl⟩
  by_cases c3 : b0 ≤ 239
  · have key : ∀ lo hi S : Nat, (∀ x : Nat, 128 ≤ x → x ≤ 191 → ((lo ≤ x ∧ x ≤ hi) ↔ (b0 % 16 * 4096 + x % 64 * 64 + 63 ≥ 2048 ∧ (b0 % 16 * 4096 + x % 64 * 64 < 55296 ∨ 57344 ≤ b0 % 16 * 4096 + x % 64 * 64)))) → 128 ≤ lo → hi ≤ 191 →
        ((2 < n ∧ lo ≤ b1 ∧ b1 ≤ hi ∧ 128 ≤ b2 ∧ b2 ≤ 191) → S = 3) → (¬ (2 < n ∧ lo ≤ b1 ∧ b1 ≤ hi ∧ 128 ≤ b2 ∧ b2 ≤ 191) → S = 0) →
        (S = 0 ∧ Lib.decodeN n b0 b1 b2 b3 = (65533, 1)) ∨ (S ≠ 0 ∧ (Lib.decodeN n b0 b1 b2 b3).2 = S ∧ (S = 1 → (Lib.decodeN n b0 b1 b2 b3).1 ≠ 65533)) := by
      intro lo hi S hx hlo hhi s3 s0
      unfold Lib.decodeN
      have a1 : ¬ (b0 / 32 = 6 ∧ (1 < n ∧ b1 / 64 = 2)) := by omega
      have a4 : ¬ (b0 / 8 = 30 ∧ (1 < n ∧ b1 / 64 = 2) ∧ (2 < n ∧ b2 / 64 = 2) ∧ (3 < n ∧ b3 / 64 = 2)) := by omega
      rw [if_neg c0, if_neg a1]
      by_cases q : 2 < n ∧ 128 ≤ b1 ∧ b1 ≤ 191 ∧ 128 ≤ b2 ∧ b2 ≤ 191
      · have := hx b1 (by omega) (by omega)
        rw [if_pos (show b0 / 16 = 14 ∧ (1 < n ∧ b1 / 64 = 2) ∧ (2 < n ∧ b2 / 64 = 2) by omega)]
        by_cases r : lo ≤ b1 ∧ b1 ≤ hi
        · rw [if_pos (by omega)]
          have := s3 (by omega)
          exact .inr ⟨by omega, by rw [this], by omega⟩
        · rw [if_neg (by omega)]; exact .inl ⟨s0 (by omega), rfl⟩
      · rw [if_neg (show ¬ (b0 / 16 = 14 ∧ (1 < n ∧ b1 / 64 = 2) ∧ (2 < n ∧ b2 / 64 = 2)) by omega), if_neg a4]; exact .inl ⟨s0 (by omega), rfl⟩
    have e0 : ¬ (194 ≤ b0 ∧ b0 ≤ 223) := by omega
    rw [if_neg c0, if_neg e0]
    by_cases d1 : b0 = 224
    · rw [if_pos d1]; subst d1; exact key 160 191 _ (fun x _ _ => by omega) (by omega) (by omega) (fun h => if_pos h) (fun h => if_neg h)
    rw [if_neg d1]
    by_cases d2 : b0 = 237
    · rw [if_pos d2]; subst d2; exact key 128 159 _ (fun x _ _ => by omega) (by omega) (by omega) (fun h => if_pos h) (fun h => if_neg h)
    rw [if_neg d2, if_pos (show 225 ≤ b0 ∧ b0 ≤ 239 by omega)]
    exact key 128 191 _ (fun x _ _ => by omega) (by omega) (by omega) (fun h => if_pos h) (fun h => if_neg h)
  · have key : ∀ lo hi S : Nat, (∀ x : Nat, 128 ≤ x → x ≤ 191 → ((lo ≤ x ∧ x ≤ hi) ↔ (b0 % 8 * 262144 + x % 64 * 4096 ≥ 65536 ∧ b0 % 8 * 262144 + x % 64 * 4096 + 4095 ≤ 1114111))) → 128 ≤ lo → hi ≤ 191 → b0 ≤ 247 →
        ((3 < n ∧ lo ≤ b1 ∧ b1 ≤ hi ∧ 128 ≤ b2 ∧ b2 ≤ 191 ∧ 128 ≤ b3 ∧ b3 ≤ 191) → S = 4) → (¬ (3 < n ∧ lo ≤ b1 ∧ b1 ≤ hi ∧ 128 ≤ b2 ∧ b2 ≤ 191 ∧ 128 ≤ b3 ∧ b3 ≤ 191) → S = 0) →
        (S = 0 ∧ Lib.decodeN n b0 b1 b2 b3 = (65533, 1)) ∨ (S ≠ 0 ∧ (Lib.decodeN n b0 b1 b2 b3).2 = S ∧ (S = 1 → (Lib.decodeN n b0 b1 b2 b3).1 ≠ 65533)) := by
      intro lo hi S hx hlo hhi h8 s4 s0
      unfold Lib.decodeN
      have a1 : ¬ (b0 / 32 = 6 ∧ (1 < n ∧ b1 / 64 = 2)) := by omega
      have a2 : ¬ (b0 / 16 = 14 ∧ (1 < n ∧ b1 / 64 = 2) ∧ (2 < n ∧ b2 / 64 = 2)) := by omega
      rw [if_neg c0, if_neg a1, if_neg a2]
      by_cases q : 3 < n ∧ 128 ≤ b1 ∧ b1 ≤ 191 ∧ 128 ≤ b2 ∧ b2 ≤ 191 ∧ 128 ≤ b3 ∧ b3 ≤ 191
      · have := hx b1 (by omega) (by omega)
        rw [if_pos (show b0 / 8 = 30 ∧ (1 < n ∧ b1 / 64 = 2) ∧ (2 < n ∧ b2 / 64 = 2) ∧ (3 < n ∧ b3 / 64 = 2) by omega)]
        by_cases r : lo ≤ b1 ∧ b1 ≤ hi
        · rw [if_pos (by omega)]
          have := s4 (by omega)
          exact .inr ⟨by omega, by rw [this], by omega⟩
        · rw [if_neg (by omega)]; exact .inl ⟨s0 (by omega), rfl⟩
      · rw [if_neg (show ¬ (b0 / 8 = 30 ∧ (1 < n ∧ b1 / 64 = 2) ∧ (2 < n ∧ b2 / 64 = 2) ∧ (3 < n ∧ b3 / 64 = 2)) by omega)]; exact .inl ⟨s0 (by omega), rfl⟩
    have e0 : ¬ (194 ≤ b0 ∧ b0 ≤ 223) := by omega
    have e1 : ¬ (225 ≤ b0 ∧ b0 ≤ 239) := by omega
    rw [if_neg c0, if_neg e0, if_neg (show ¬ b0 = 224 by omega), if_neg (show ¬ b0 = 237 by omega), if_neg e1]
    by_cases d1 : b0 = 240
    · rw [if_pos d1]; subst d1; exact key 144 191 _ (fun x _ _ => by omega) (by omega) (by omega) (by omega) (fun h => if_pos h) (fun h => if_neg h)
    rw [if_neg d1]
    by_cases d2 : b0 ≤ 243
    · rw [if_pos (show 241 ≤ b0 ∧ b0 ≤ 243 by omega)]
      exact key 128 191 _ (fun x _ _ => by omega) (by omega) (by omega) (by omega) (fun h => if_pos h) (fun h => if_neg h)
    rw [if_neg (show ¬ (241 ≤ b0 ∧ b0 ≤ 243) by omega)]
    by_cases d3 : b0 = 244
    · rw [if_pos d3]; subst d3; exact key 128 143 _ (fun x _ _ => by omega) (by omega) (by omega) (by omega) (fun h => if_pos h) (fun h => if_neg h)
    have a1 : ¬ (b0 / 32 = 6 ∧ (1 < n ∧ b1 / 64 = 2)) := by omega
    have a2 : ¬ (b0 / 16 = 14 ∧ (1 < n ∧ b1 / 64 = 2) ∧ (2 < n ∧ b2 / 64 = 2)) := by omega
    rw [if_neg d3, if_neg c0, if_neg a1, if_neg a2]
    refine .inl ⟨rfl, ?_⟩
    split
    · rw [if_neg (by omega)]
    · rfl
end Go.L

/-
  Plain law: texts that are UTF-8: the first place at which no character begins.
-/
namespace Go.L
open Go

def at0 (s : Str) (i : Nat) : Nat := ((s[i]?).getD 0).toNat
theorem at0_lt (s : Str) (i : Nat) : at0 s i < 256 := UInt8.toNat_lt _
theorem at0_get {s : Str} {i : Nat} {c : UInt8} (h : s[i]? = some c) : at0 s i = c.toNat := by rw [at0, h]; rfl
theorem get_at0 (s : Str) (i : Nat) : ((⟨s.toArray⟩ : ByteArray).get! i).toNat = at0 s i := by
  show (s.toArray[i]!).toNat = _
  rw [at0, getElem!_def]
  simp only [List.getElem?_toArray]
  cases h : s[i]? with
  | none => rfl
  | some c => rfl
theorem decode_str (s : Str) (i : Nat) : Utf8.decode ⟨s.toArray⟩ i = Lib.decodeN (s.length - i) (at0 s i) (at0 s (i + 1)) (at0 s (i + 2)) (at0 s (i + 3)) := by
  rw [Lib.decode_at, get_at0, get_at0, get_at0, get_at0]; rfl

/-- How many bytes the character at a place has; 0: none begins there. -/
def sizeAt (s : Str) (i : Nat) : Nat := sizeN (s.length - i) (at0 s i) (at0 s (i + 1)) (at0 s (i + 2)) (at0 s (i + 3))

theorem size_cases (s : Str) (i : Nat) : (sizeAt s i = 0 ∧ Utf8.decode ⟨s.toArray⟩ i = (65533, 1)) ∨ (sizeAt s i ≠ 0 ∧ (Utf8.decode ⟨s.toArray⟩ i).2 = sizeAt s i ∧ (sizeAt s i = 1 → (Utf8.decode ⟨s.toArray⟩ i).1 ≠ 65533)) := by
  rw [decode_str]
  exact sizeN_decode _ _ _ _ _ (at0_lt _ _) (at0_lt _ _) (at0_lt _ _) (at0_lt _ _)

theorem sizeN_le {n b0 b1 b2 b3 : Nat} (h : 0 < n) : sizeN n b0 b1 b2 b3 ≤ n := by
  unfold sizeN
  repeat' split
  all_goals omega
theorem sizeAt_le {s : Str} {i : Nat} (h : i < s.length) : i + sizeAt s i ≤ s.length := by
  have := sizeN_le (n := s.length - i) (b0 := at0 s i) (b1 := at0 s (i + 1)) (b2 := at0 s (i + 2)) (b3 := at0 s (i + 3)) (by omega)
  unfold sizeAt; omega

theorem at0_drop (s : Str) (i k : Nat) : at0 (s.drop i) k = at0 s (i + k) := by rw [at0, at0, List.getElem?_drop]
theorem sizeAt_drop (s : Str) (i : Nat) : sizeAt (s.drop i) 0 = sizeAt s i := by
  unfold sizeAt; simp only [at0_drop, List.length_drop]; rfl
theorem decode_drop (s : Str) (i : Nat) : Utf8.decode ⟨(s.drop i).toArray⟩ 0 = Utf8.decode ⟨s.toArray⟩ i := by
  rw [decode_str, decode_str]; simp only [at0_drop, List.length_drop]; rfl

/-- The first place, from one on, at which no character begins; -1: there is none. -/
def goodF (s : Str) : Nat → Nat → Int
  | 0, _ => -1
  | n + 1, i => if s.length ≤ i then -1 else if sizeAt s i = 0 then i else goodF s n (i + sizeAt s i)
def good (s : Str) : Int := goodF s (s.length + 1) 0
theorem goodF_end {s : Str} {n i : Nat} (h : s.length ≤ i) : goodF s n i = -1 := by
  cases n with
  | zero => rfl
  | succ n => rw [goodF, if_pos h]
theorem goodF_bad {s : Str} {n i : Nat} (h : i < s.length) (hz : sizeAt s i = 0) : goodF s (n + 1) i = i := by
  rw [goodF, if_neg (by omega), if_pos hz]
theorem goodF_step {s : Str} {n i : Nat} (h : i < s.length) (hz : sizeAt s i ≠ 0) : goodF s (n + 1) i = goodF s n (i + sizeAt s i) := by
  rw [goodF, if_neg (by omega), if_neg hz]
theorem good_ge (s : Str) : ∀ n i, -1 ≤ goodF s n i ∧ goodF s n i ≤ s.length
  | 0, _ => ⟨by unfold goodF; omega, by unfold goodF; omega⟩
  | n + 1, i => by
    unfold goodF
    split
    · omega
    · split
      · omega
      · exact good_ge s n _

/-! the document's way: how many bytes follow, and the span of the second -/
def restN (b : Nat) : Option (Nat × Nat × Nat) :=
  if b < 128 then some (0, 0, 0)
  else if 194 ≤ b ∧ b ≤ 223 then some (1, 128, 191)
  else if b = 224 then some (2, 160, 191)
  else if b = 237 then some (2, 128, 159)
  else if 225 ≤ b ∧ b ≤ 239 then some (2, 128, 191)
  else if b = 240 then some (3, 144, 191)
  else if 241 ≤ b ∧ b ≤ 243 then some (3, 128, 191)
  else if b = 244 then some (3, 128, 143)
  else none
/-- Is the j-th byte behind the first one as it must be? -/
def okB (s : Str) (i lo hi j : Nat) : Prop := if j = 1 then lo ≤ at0 s (i + 1) ∧ at0 s (i + 1) ≤ hi else 128 ≤ at0 s (i + j) ∧ at0 s (i + j) ≤ 191
theorem restN_le {b m lo hi : Nat} (h : restN b = some (m, lo, hi)) : m ≤ 3 := by
  unfold restN at h
  repeat' (split at h; first | (cases h; omega) | skip)
  all_goals first | (cases h; omega) | cases h
theorem size_none {s : Str} {i : Nat} (h : restN (at0 s i) = none) : sizeAt s i = 0 := by
  unfold restN at h
  unfold sizeAt sizeN
  repeat' (split at h; first | cases h | skip)
  all_goals first | cases h | skip
  simp [*]
theorem size_short {s : Str} {i m lo hi : Nat} (h : restN (at0 s i) = some (m, lo, hi)) (hm : s.length ≤ i + m) (hi : i < s.length) : sizeAt s i = 0 := by
  unfold restN at h
  unfold sizeAt sizeN
  repeat' split
  all_goals first | rfl | skip
  all_goals simp [*] at h
  all_goals omega
theorem size_no {s : Str} {i m lo hi j : Nat} (h : restN (at0 s i) = some (m, lo, hi)) (h1 : 1 ≤ j) (h2 : j ≤ m) (hno : ¬ okB s i lo hi j) : sizeAt s i = 0 := by
  have hm := restN_le h
  have hj : j = 1 ∨ j = 2 ∨ j = 3 := by omega
  unfold restN at h
  unfold okB at hno
  unfold sizeAt sizeN
  repeat' split
  all_goals first | rfl | skip
  all_goals simp [*] at h
  all_goals rcases hj with rfl | rfl | rfl
  all_goals simp at hno
  all_goals omega
theorem size_all {s : Str} {i m lo hi : Nat} (h : restN (at0 s i) = some (m, lo, hi)) (hm : i + m < s.length) (hall : ∀ j, 1 ≤ j → j ≤ m → okB s i lo hi j) : sizeAt s i = m + 1 := by
  have h1 := hall 1
  have h2 := hall 2
  have h3 := hall 3
  simp [okB] at h1 h2 h3
  unfold restN at h
  unfold sizeAt sizeN
  repeat' split
  all_goals simp [*] at h
  all_goals omega
end Go.L

/-
  Plain law: URLs of types: what stands ahead of the last stroke, and behind it; both ways.
-/
namespace Go.L

/-! ### Characters of a text that another one begins with -/
theorem restN_lo {b m lo hi : Nat} (h : restN b = some (m, lo, hi)) (hm : 1 ≤ m) : 128 ≤ lo := by
  unfold restN at h
  repeat' (split at h; first | (cases h; omega) | skip)
  all_goals first | (cases h; omega) | cases h
theorem size_inv {s : Str} {i : Nat} (hi : i < s.length) (h : sizeAt s i ≠ 0) : ∃ m lo hi, restN (at0 s i) = some (m, lo, hi) ∧ i + m < s.length ∧ (∀ j, 1 ≤ j → j ≤ m → okB s i lo hi j) ∧ sizeAt s i = m + 1 := by
  cases hr : restN (at0 s i) with
  | none => exact absurd (size_none hr) h
  | some x =>
    obtain ⟨m, lo, hi'⟩ := x
    have hm : i + m < s.length := by
      by_cases hh : i + m < s.length
      · exact hh
      · exact absurd (size_short hr (by omega) hi) h
    have hall : ∀ j, 1 ≤ j → j ≤ m → okB s i lo hi' j := fun j h1 h2 => by
      by_cases hh : okB s i lo hi' j
      · exact hh
      · exact absurd (size_no hr h1 h2 hh) h
    exact ⟨m, lo, hi', rfl, hm, hall, size_all hr hm hall⟩
theorem size_cont {s : Str} {i j : Nat} (hi : i < s.length) (h1 : 1 ≤ j) (h2 : j < sizeAt s i) : 128 ≤ at0 s (i + j) := by
  obtain ⟨m, lo, hi', hr, hm, hall, e⟩ := size_inv hi (by omega)
  have := hall j h1 (by omega)
  unfold okB at this
  split at this
  · rename_i e1; subst e1; have := restN_lo hr (by omega); omega
  · omega
theorem sizeAt_same {s t : Str} {i : Nat} (hi : i < s.length) (hk : sizeAt s i ≠ 0) (hl : i + sizeAt s i ≤ t.length) (he : ∀ j, j < i + sizeAt s i → t[j]? = s[j]?) : sizeAt t i = sizeAt s i := by
  obtain ⟨m, lo, hi', hr, hm, hall, e⟩ := size_inv hi hk
  have at' : ∀ j, j < i + sizeAt s i → at0 t j = at0 s j := fun j hj => by rw [at0, at0, he j hj]
  rw [e]
  refine size_all (lo := lo) (hi := hi') (by rw [at' i (by omega)]; exact hr) (by omega) fun j h1 h2 => ?_
  have := hall j h1 h2
  unfold okB at this ⊢
  split at this
  · rename_i e1; subst e1; rw [if_pos rfl, at' _ (by omega)]; exact this
  · rename_i e1; rw [if_neg e1, at' _ (by omega)]; exact this
theorem sizeAt_ascii {s : Str} {i : Nat} (h : at0 s i < 128) : sizeAt s i = 1 := by unfold sizeAt sizeN; rw [if_pos h]

/-- From a place on everything is characters. -/
inductive Ok8 (s : Str) : Nat → Prop
  | fin (i : Nat) (h : s.length ≤ i) : Ok8 s i
  | step (i : Nat) (h : i < s.length) (hz : sizeAt s i ≠ 0) (k : Ok8 s (i + sizeAt s i)) : Ok8 s i
theorem ok8_of {s : Str} : ∀ {n i : Nat}, s.length < n + i → goodF s n i < 0 → Ok8 s i
  | 0, i, h, _ => .fin i (by omega)
  | n + 1, i, h, hg => by
    unfold goodF at hg
    split at hg
    · exact .fin i (by omega)
    · split at hg
      · omega
      · rename_i h1 h2
        exact .step i (by omega) h2 (ok8_of (by omega) hg)
theorem Ok8.good {s : Str} {i : Nat} (h : Ok8 s i) : ∀ n, goodF s n i < 0 := by
  induction h with
  | fin i h => intro n; rw [goodF_end h]; decide
  | step i h hz k ih =>
    intro n
    cases n with
    | zero => unfold goodF; decide
    | succ n => rw [goodF_step h hz]; exact ih n
theorem good_ok {s : Str} (h : good s < 0) : Ok8 s 0 := ok8_of (by omega) h
theorem ok_good {s : Str} (h : Ok8 s 0) : good s < 0 := h.good _

theorem Ok8.app {s t : Str} {i : Nat} (h : Ok8 s i) (hi : i ≤ s.length) (k : Ok8 (s ++ t) s.length) : Ok8 (s ++ t) i := by
  induction h with
  | fin i h => have : i = s.length := by omega
               rw [this]; exact k
  | step i h hz _ ih =>
    have hle := sizeAt_le h
    have e : sizeAt (s ++ t) i = sizeAt s i := sizeAt_same h hz (by rw [List.length_append]; omega) fun j hj => List.getElem?_append_left (by omega)
    refine .step i (by rw [List.length_append]; omega) (by rw [e]; exact hz) ?_
    rw [e]; exact ih (by omega)
theorem ok8_ascii {s : Str} {i : Nat} (h : ∀ j, i ≤ j → j < s.length → at0 s j < 128) : Ok8 s i := by
  generalize hn : s.length - i = n
  induction n generalizing i with
  | zero => exact .fin i (by omega)
  | succ n ih =>
    have e := sizeAt_ascii (h i (Nat.le_refl _) (by omega))
    refine .step i (by omega) (by rw [e]; decide) ?_
    rw [e]; exact ih (fun j h1 h2 => h j (by omega) h2) (by omega)
theorem Ok8.take {s : Str} {m i : Nat} (h : Ok8 s i) (hm : m < s.length) (ha : at0 s m < 128) (hi : i ≤ m) : Ok8 (s.take m) i := by
  induction h with
  | fin i h => omega
  | step i h hz _ ih =>
    by_cases e : i = m
    · exact .fin i (by rw [List.length_take]; omega)
    have hle : i + sizeAt s i ≤ m := by
      by_cases hh : i + sizeAt s i ≤ m
      · exact hh
      · have := size_cont (j := m - i) h (by omega) (by omega)
        rw [show i + (m - i) = m by omega] at this
        omega
    have e2 : sizeAt (s.take m) i = sizeAt s i := sizeAt_same h hz (by rw [List.length_take]; omega) fun j hj => List.getElem?_take_of_lt (by omega)
    refine .step i (by rw [List.length_take]; omega) (by rw [e2]; exact hz) ?_
    rw [e2]; exact ih hle

/-! ### The last place of a byte -/
def lastF (c : UInt8) (s : Str) : Nat → Int
  | 0 => -1
  | n + 1 => if s[n]? = some c then n else lastF c s n
def lastI (c : UInt8) (s : Str) : Int := lastF c s s.length
theorem lastF_cases (c : UInt8) (s : Str) : ∀ n, (lastF c s n = -1 ∧ ∀ j, j < n → s[j]? ≠ some c) ∨ ∃ k : Nat, lastF c s n = k ∧ k < n ∧ s[k]? = some c ∧ ∀ j, k < j → j < n → s[j]? ≠ some c
  | 0 => .inl ⟨rfl, fun j h => by omega⟩
  | n + 1 => by
    unfold lastF
    by_cases e : s[n]? = some c
    · rw [if_pos e]; exact .inr ⟨n, rfl, by omega, e, fun j h1 h2 => by omega⟩
    · rw [if_neg e]
      rcases lastF_cases c s n with ⟨h1, h2⟩ | ⟨k, h1, h2, h3, h4⟩
      · refine .inl ⟨h1, fun j hj => ?_⟩
        by_cases ej : j = n
        · rw [ej]; exact e
        · exact h2 j (by omega)
      · refine .inr ⟨k, h1, by omega, h3, fun j hj1 hj2 => ?_⟩
        by_cases ej : j = n
        · rw [ej]; exact e
        · exact h4 j hj1 (by omega)

/-! ### Full names -/
def fullN (s : Str) : Bool := Nat.ble s.length 255 && (splitC 46 s).all ident
theorem identC_ascii {c : UInt8} (h : identC c = true) : c.toNat < 128 ∧ c ≠ 47 := by
  constructor
  · simp only [identC, smallC, capC, digitC, inR, Bool.or_eq_true, Bool.and_eq_true, Nat.ble_eq, beq_iff_eq] at h
    rcases h with ((h | h) | h) | h
    · omega
    · omega
    · omega
    · subst h; decide
  · rintro rfl; exact absurd h (by decide)
theorem fullN_ascii {s : Str} (h : fullN s = true) {c : UInt8} (hc : c ∈ s) : c.toNat < 128 ∧ c ≠ 47 := by
  by_cases e : c = 46
  · subst e; decide
  · simp only [fullN, Bool.and_eq_true] at h
    obtain ⟨p, hp, hd⟩ := mem_splitC (c := 46) e hc
    have h2 := List.all_eq_true.1 h.2 p hp
    cases p with
    | nil => cases hd
    | cons x r =>
      simp only [ident, Bool.and_eq_true] at h2
      have h3 : (x :: r).all identC = true := by
        cases hh : (x :: r).all identC with
        | true => rfl
        | false => simp [hh] at h2
      exact identC_ascii (List.all_eq_true.1 h3 c hd)

/-! ### URLs -/
def urlBad (s : Str) : Bool := decide (lastI 47 s < 0) || (decide (0 ≤ good s) || !fullN (s.drop (lastI 47 s + 1).toNat))
def urlSplit (s : Str) : Str × Str × Int := if urlBad s = true then ([], [], 130) else (s.take (lastI 47 s).toNat, s.drop (lastI 47 s + 1).toNat, 0)
def joinBad (a b : Str) : Bool := decide (0 ≤ good a) || !fullN b
def urlJoin (a b : Str) : Str × Int := if joinBad a b = true then ([], 130) else (a ++ [47] ++ b, 0)

theorem url_back {s : Str} (h : urlBad s = false) : urlJoin (s.take (lastI 47 s).toNat) (s.drop (lastI 47 s + 1).toNat) = (s, 0) := by
  simp only [urlBad, Bool.or_eq_false_iff, decide_eq_false_iff_not, Bool.not_eq_false'] at h
  obtain ⟨h1, h2, h3⟩ := h
  rcases lastF_cases 47 s s.length with ⟨e, _⟩ | ⟨k, e, hk, hc, _⟩
  · exact absurd (show lastI 47 s < 0 by unfold lastI; rw [e]; decide) h1
  have e1 : lastI 47 s = k := e
  rw [e1] at h3 ⊢
  have e2 : ((k : Int) + 1).toNat = k + 1 := by omega
  rw [e2] at h3 ⊢
  rw [Int.toNat_natCast]
  have hok : Ok8 (s.take k) 0 := (good_ok (by omega)).take hk (by rw [at0_get hc]; decide) (Nat.zero_le _)
  have h4 := ok_good hok
  have hb : joinBad (s.take k) (s.drop (k + 1)) = false := by
    simp only [joinBad, h3, Bool.not_true, Bool.or_false, decide_eq_false_iff_not]; omega
  rw [urlJoin, hb]
  have : s.take k ++ [47] ++ s.drop (k + 1) = s := by
    obtain ⟨hl, hx⟩ := List.getElem?_eq_some_iff.1 hc
    rw [List.append_assoc, ← hx]
    show s.take k ++ (s[k] :: s.drop (k + 1)) = s
    rw [← List.drop_eq_getElem_cons hl, List.take_append_drop]
  rw [this]; rfl

theorem url_there {a b : Str} (h : joinBad a b = false) : urlSplit (a ++ [47] ++ b) = (a, b, 0) := by
  simp only [joinBad, Bool.or_eq_false_iff, decide_eq_false_iff_not, Bool.not_eq_false'] at h
  obtain ⟨h1, h2⟩ := h
  have hs : a ++ [47] ++ b = a ++ 47 :: b := by simp
  rw [hs]
  have hlen : (a ++ 47 :: b).length = a.length + 1 + b.length := by simp; omega
  have hat : (a ++ 47 :: b)[a.length]? = some 47 := by rw [List.getElem?_append_right (Nat.le_refl _), Nat.sub_self]; rfl
  have hbj : ∀ j, a.length < j → (a ++ 47 :: b)[j]? = b[j - a.length - 1]? := fun j hj => by
    rw [List.getElem?_append_right (by omega)]
    obtain ⟨m, hm⟩ : ∃ m, j - a.length = m + 1 := ⟨j - a.length - 1, by omega⟩
    rw [hm]; simp
  have hlast : lastI 47 (a ++ 47 :: b) = a.length := by
    rcases lastF_cases 47 (a ++ 47 :: b) (a ++ 47 :: b).length with ⟨_, h4⟩ | ⟨k, e, hk, hc, h4⟩
    · exact absurd hat (h4 a.length (by omega))
    · have : k = a.length := by
        rcases Nat.lt_trichotomy k a.length with h5 | h5 | h5
        · exact absurd hat (h4 a.length h5 (by omega))
        · exact h5
        · rw [hbj k h5] at hc
          exact absurd rfl (fullN_ascii h2 (List.mem_of_getElem? hc)).2
      show lastF _ _ _ = _
      rw [e, this]
  have hok : Ok8 (a ++ 47 :: b) 0 := by
    refine (good_ok (s := a) (by omega)).app (Nat.zero_le _) (ok8_ascii fun j h4 h5 => ?_)
    by_cases e : j = a.length
    · subst e; rw [at0_get hat]; decide
    · obtain ⟨x, hx⟩ := get_lt (l := b) (k := j - a.length - 1) (by omega)
      have := hbj j (by omega)
      rw [hx] at this
      rw [at0_get this]
      exact (fullN_ascii h2 (List.mem_of_getElem? hx)).1
  have h6 := ok_good hok
  have e2 : ((a.length : Int) + 1).toNat = a.length + 1 := by omega
  have hd : (a ++ 47 :: b).drop (a.length + 1) = b := by
    rw [show a ++ 47 :: b = (a ++ [47]) ++ b by simp]
    exact List.drop_left' (by simp)
  have hbad : urlBad (a ++ 47 :: b) = false := by
    simp only [urlBad, hlast, e2, hd, h2, Bool.not_true, Bool.or_false, Bool.or_eq_false_iff, decide_eq_false_iff_not]
    exact ⟨by omega, by omega⟩
  rw [urlSplit, hbad, hlast, e2, hd, Int.toNat_natCast, List.take_left' rfl]; rfl
end Go.L

/-
  The logic L computed, part a: trees, operations.
-/
namespace Go.L

/-! ## Trees -/

inductive Tr (α : Type) where
  | nil
  | node (l : Tr α) (v : Option α) (r : Tr α)

/-- The way to a number's place. -/
inductive Pth where
  | z
  | l (p : Pth)
  | r (p : Pth)
def pthF : Nat → Nat → Pth
  | 0, _ => .z
  | f + 1, i => match Nat.beq i 0 with
    | true => .z
    | false => match Nat.beq (Nat.mod i 2) 1 with
      | true => .l (pthF f (Nat.div i 2))
      | false => .r (pthF f (Nat.pred (Nat.div i 2)))
def pth (i : Nat) : Pth := pthF (Nat.succ i) i

def getP {α : Type} : Pth → Tr α → Option α
  | .z, t => match t with
    | .nil => none
    | .node _ v _ => v
  | .l p, t => match t with
    | .nil => none
    | .node l _ _ => getP p l
  | .r p, t => match t with
    | .nil => none
    | .node _ _ r => getP p r
def setP {α : Type} : Pth → Tr α → Option α → Tr α
  | .z, t, x => match t with
    | .nil => .node .nil x .nil
    | .node l _ r => .node l x r
  | .l p, t, x => match t with
    | .nil => .node (setP p .nil x) none .nil
    | .node l v r => .node (setP p l x) v r
  | .r p, t, x => match t with
    | .nil => .node .nil none (setP p .nil x)
    | .node l v r => .node l v (setP p r x)
def Tr.get {α : Type} (t : Tr α) (i : Nat) : Option α := getP (pth i) t
def Tr.set {α : Type} (t : Tr α) (i : Nat) (x : Option α) : Tr α := setP (pth i) t x

theorem pthF_fuel : ∀ (f i : Nat), i < f → pthF f i = pth i := by
  intro f
  induction f using Nat.strongRecOn with
  | _ f ih =>
    intro i hi
    cases f with
    | zero => omega
    | succ f =>
      unfold pth
      simp only [pthF]
      cases h0 : Nat.beq i 0 with
      | true => rfl
      | false =>
        have hi0 : i ≠ 0 := fun e => by subst e; cases h0
        have e1 : Nat.div i 2 = i / 2 := rfl
        have e2 : Nat.pred (i / 2) = i / 2 - 1 := rfl
        have k1 := ih f (by omega) (i / 2) (by omega)
        have k2 := ih i hi (i / 2) (by omega)
        have k3 := ih f (by omega) (i / 2 - 1) (by omega)
        have k4 := ih i hi (i / 2 - 1) (by omega)
        rw [e1, e2, k1, k2, k3, k4]
theorem pth_zero : pth 0 = .z := rfl
theorem pth_odd {i : Nat} (h : i % 2 = 1) : pth i = .l (pth (i / 2)) := by
  have h0 : Nat.beq i 0 = false := by
    cases hh : Nat.beq i 0 with
    | false => rfl
    | true => have := Nat.eq_of_beq_eq_true hh; omega
  have h1 : Nat.beq (Nat.mod i 2) 1 = true := by
    have : Nat.mod i 2 = 1 := h
    rw [this]; rfl
  have := pthF_fuel i (i / 2) (by omega)
  unfold pth
  simp only [pthF, h0, h1]
  exact congrArg Pth.l this
theorem pth_even {i : Nat} (h0 : i ≠ 0) (h : i % 2 ≠ 1) : pth i = .r (pth (i / 2 - 1)) := by
  have h1 : Nat.beq i 0 = false := by
    cases hh : Nat.beq i 0 with
    | false => rfl
    | true => exact absurd (Nat.eq_of_beq_eq_true hh) h0
  have h2 : Nat.beq (Nat.mod i 2) 1 = false := by
    cases hh : Nat.beq (Nat.mod i 2) 1 with
    | false => rfl
    | true => exact absurd (Nat.eq_of_beq_eq_true hh) h
  have := pthF_fuel i (i / 2 - 1) (by omega)
  unfold pth
  simp only [pthF, h1, h2]
  exact congrArg Pth.r this
theorem pth_inj : ∀ (i j : Nat), pth i = pth j → i = j := by
  intro i
  induction i using Nat.strongRecOn with
  | _ i ih =>
    intro j h
    by_cases i0 : i = 0
    · subst i0
      by_cases j0 : j = 0
      · exact j0.symm
      · by_cases j1 : j % 2 = 1
        · rw [pth_zero, pth_odd j1] at h; cases h
        · rw [pth_zero, pth_even j0 j1] at h; cases h
    · by_cases i1 : i % 2 = 1
      · rw [pth_odd i1] at h
        by_cases j0 : j = 0
        · subst j0; cases h
        · by_cases j1 : j % 2 = 1
          · rw [pth_odd j1] at h
            injection h with h
            have := ih _ (by omega) _ h
            omega
          · rw [pth_even j0 j1] at h; cases h
      · rw [pth_even i0 i1] at h
        by_cases j0 : j = 0
        · subst j0; cases h
        · by_cases j1 : j % 2 = 1
          · rw [pth_odd j1] at h; cases h
          · rw [pth_even j0 j1] at h
            injection h with h
            have := ih _ (by omega) _ h
            omega

theorem getP_nil {α : Type} : ∀ (p : Pth), getP p (.nil : Tr α) = none
  | .z => rfl
  | .l _ => rfl
  | .r _ => rfl
theorem getP_setP {α : Type} : ∀ (p : Pth) (t : Tr α) (x : Option α) (q : Pth), (q = p → getP q (setP p t x) = x) ∧ (q ≠ p → getP q (setP p t x) = getP q t) := by
  intro p
  induction p with
  | z =>
    intro t x q
    refine ⟨fun e => by subst e; cases t <;> rfl, fun e => ?_⟩
    cases q with
    | z => exact absurd rfl e
    | l q => cases t with
      | nil => exact getP_nil q
      | node l v r => rfl
    | r q => cases t with
      | nil => exact getP_nil q
      | node l v r => rfl
  | l p ih =>
    intro t x q
    refine ⟨fun e => ?_, fun e => ?_⟩
    · subst e; cases t with
      | nil => exact (ih .nil x p).1 rfl
      | node l v r => exact (ih l x p).1 rfl
    · cases q with
      | z => cases t <;> rfl
      | l q => cases t with
        | nil => exact ((ih .nil x q).2 fun h => e (by rw [h])).trans (getP_nil q)
        | node l v r => exact (ih l x q).2 fun h => e (by rw [h])
      | r q => cases t with
        | nil => exact getP_nil q
        | node l v r => rfl
  | r p ih =>
    intro t x q
    refine ⟨fun e => ?_, fun e => ?_⟩
    · subst e; cases t with
      | nil => exact (ih .nil x p).1 rfl
      | node l v r => exact (ih r x p).1 rfl
    · cases q with
      | z => cases t <;> rfl
      | l q => cases t with
        | nil => exact getP_nil q
        | node l v r => rfl
      | r q => cases t with
        | nil => exact ((ih .nil x q).2 fun h => e (by rw [h])).trans (getP_nil q)
        | node l v r => exact (ih r x q).2 fun h => e (by rw [h])

theorem Tr.get_nil {α : Type} (i : Nat) : (Tr.nil : Tr α).get i = none := getP_nil _
theorem Tr.get_node {α : Type} (l : Tr α) (v : Option α) (r : Tr α) (i : Nat) : (Tr.node l v r).get i = match Nat.beq i 0 with
    | true => v
    | false => match Nat.beq (i % 2) 1 with
      | true => l.get (i / 2)
      | false => r.get (i / 2 - 1) := by
  unfold Tr.get
  cases h0 : Nat.beq i 0 with
  | true => rw [Nat.eq_of_beq_eq_true h0]; rfl
  | false =>
    have hi0 : i ≠ 0 := fun e => by subst e; cases h0
    cases h1 : Nat.beq (i % 2) 1 with
    | true => rw [pth_odd (Nat.eq_of_beq_eq_true h1)]; rfl
    | false => rw [pth_even hi0 (fun e => by rw [e] at h1; cases h1)]; rfl
theorem Tr.get_set {α : Type} (t : Tr α) (i : Nat) (x : Option α) (j : Nat) : (t.set i x).get j = if j = i then x else t.get j := by
  unfold Tr.get Tr.set
  by_cases e : j = i
  · subst e; rw [if_pos rfl]; exact (getP_setP _ t x _).1 rfl
  · rw [if_neg e]; exact (getP_setP _ t x _).2 fun h => e (pth_inj _ _ h)

/-! ## Reading operations -/

def guardO (c : Bool) (v : Option AV) : Option AV := match c with | true => v | false => none
theorem guardO_some {c : Bool} {o : Option AV} {v : AV} (h : guardO c o = some v) : c = true ∧ o = some v := by
  cases c
  · cases h
  · exact ⟨rfl, h⟩

def eBin (op : BinOp) (k : IntKind) (a : Int) (k' : IntKind) (b : Int) : Option AV :=
  match op with
  | .shl => guardO (decide (0 ≤ b)) (some (.int k (k.wrap (a * 2 ^ (min b.toNat k.bits)))))
  | .shr => guardO (decide (0 ≤ b)) (some (.int k (a.fdiv (2 ^ (min b.toNat k.bits)))))
  | .add => guardO (ikeq k k') (some (.int k (k.wrap (a + b))))
  | .sub => guardO (ikeq k k') (some (.int k (k.wrap (a - b))))
  | .mul => guardO (ikeq k k') (some (.int k (k.wrap (a * b))))
  | .quo => guardO (ikeq k k' && !(decide (b = 0))) (some (.int k (k.wrap (a.tdiv b))))
  | .rem => guardO (ikeq k k' && !(decide (b = 0))) (some (.int k (a.tmod b)))
  | .and => guardO (ikeq k k') (some (.int k (ibits .and k a b)))
  | .or => guardO (ikeq k k') (some (.int k (ibits .or k a b)))
  | .xor => guardO (ikeq k k') (some (.int k (ibits .xor k a b)))
  | .andNot => guardO (ikeq k k') (some (.int k (ibits .andNot k a b)))
  | .eql => guardO (ikeq k k') (some (.bool (a == b)))
  | .neq => guardO (ikeq k k') (some (.bool (a != b)))
  | .lss => guardO (ikeq k k') (some (.bool (decide (a < b))))
  | .leq => guardO (ikeq k k') (some (.bool (decide (a ≤ b))))
  | .gtr => guardO (ikeq k k') (some (.bool (decide (b < a))))
  | .geq => guardO (ikeq k k') (some (.bool (decide (b ≤ a))))

theorem gen_mk {c : Bool} {N : Bool → Prop} (h : N c) : gen c N := fun _ ht => ht ▸ h
theorem genI_mk {c : Int} {N : Int → Prop} (h : N c) : genI c N := fun _ ht => ht ▸ h

theorem eBin_ok {op : BinOp} {k k' : IntKind} {a b : Int} {v : AV} {N : AV → Prop} (h : eBin op k a k' b = some v) (hn : N v) : binI op k a k' b N := by
  cases op <;> simp only [eBin] at h <;> obtain ⟨h1, h2⟩ := guardO_some h <;> cases h2 <;> simp only [binI]
  case shl => exact ⟨of_decide_eq_true h1, genI_mk hn⟩
  case shr => exact ⟨of_decide_eq_true h1, genI_mk hn⟩
  case quo => simp at h1; rw [h1.1]; exact ⟨h1.2, genI_mk hn⟩
  case rem => simp at h1; rw [h1.1]; exact ⟨h1.2, genI_mk hn⟩
  all_goals rw [h1]; first | exact genI_mk hn | exact gen_mk hn

def eBinS (op : BinOp) (a b : List UInt8) : Option AV :=
  match op with
  | .add => guardO (Nat.ble (a.length + b.length) 9223372036854775807) (some (.str (a ++ b)))
  | .eql => some (.bool (a == b))
  | .neq => some (.bool (!(a == b)))
  | .lss => some (.bool (Op.bytesLess a b))
  | .leq => some (.bool (Op.bytesLess a b || a == b))
  | .gtr => some (.bool (!(Op.bytesLess a b || a == b)))
  | .geq => some (.bool (!(Op.bytesLess a b)))
  | _ => none
theorem eBinS_ok {op : BinOp} {a b : List UInt8} {v : AV} {N : AV → Prop} (h : eBinS op a b = some v) (hn : N v) : binS op a b N := by
  cases op <;> simp only [eBinS] at h <;> first | (cases h; done) | skip
  · obtain ⟨h1, h2⟩ := guardO_some h; cases h2
    exact ⟨Nat.le_of_ble_eq_true h1, hn⟩
  all_goals cases h; exact gen_mk hn

def eBinB (op : BinOp) (x y : AV) : Option AV :=
  match op, x, y with
  | .eql, .bool a, .bool b => some (.bool (a == b))
  | .neq, .bool a, .bool b => some (.bool (!(a == b)))
  | _, _, _ => none
theorem eBinB_ok {op : BinOp} {x y : AV} {v : AV} {N : AV → Prop} (h : eBinB op x y = some v) (hn : N v) : binB op x y N := by
  unfold eBinB at h
  split at h <;> first | (cases h; done) | (cases h; exact gen_mk hn)

def eNil (k : NK) (v : AV) : Option Bool :=
  match k with
  | .sl => match v with
    | .nils => some true
    | .slc _ _ _ _ => some false
    | .isl _ es => cond es.isEmpty none (some false)
    | _ => none
  | .pt => match v with
    | .nilp => some true
    | .ptr _ _ _ => some false
    | .iptr _ _ _ => some false
    | _ => none
  | .mp => match v with
    | .nilm => some true
    | .map _ => some false
    | _ => none
  | .fn => match v with
    | .nilf => some true
    | .func _ _ _ => some false
    | _ => none
  | .ic => match v with
    | .nili => some true
    | .ifc _ _ => some false
    | _ => none
theorem eNil_ok {k : NK} {x : AV} {b : Bool} {N : Bool → Prop} (h : eNil k x = some b) (hn : N b) : nilN k x N := by
  cases k <;> simp only [eNil] at h <;> split at h <;> first
    | (cases h; exact hn) | (cases h; done)
    | (rename_i es; cases es with
       | nil => cases h
       | cons a l => cases h; exact ⟨by simp, hn⟩)

theorem nilU_of {v : AV} {N : Bool → Prop} (h : nilN .sl v N) : nilU v N := by
  unfold nilN at h
  simp only at h
  split at h <;> first | exact h.elim | exact h | skip
  rename_i g es
  cases es with
  | nil => exact absurd rfl h.1
  | cons a l => exact h.2

def nat? (v : AV) : Option Nat := match v with
  | .int _ n => match n with | .ofNat k => some k | _ => none
  | _ => none
theorem nat?_ok {v : AV} {k : Nat} (h : nat? v = some k) : ∃ K, v = .int K k := by
  unfold nat? at h
  split at h <;> first | cases h | skip
  split at h <;> cases h
  exact ⟨_, rfl⟩

def eBnd (e : Env) (d : Nat) : Option AOpd → Option Nat
  | none => some d
  | some x => nat? (ev e x)
theorem eBnd_ok {e : Env} {d : Nat} {x : Option AOpd} {k : Nat} {N : Nat → Prop} (h : eBnd e d x = some k) (hn : N k) : bndO e d x N := by
  cases x with
  | none => cases h; exact hn
  | some x =>
    obtain ⟨K, hK⟩ := nat?_ok h
    simp only [bndO, hK]
    exact ⟨k, rfl, hn⟩

def mlk (r : Option AV) (z : AV) (ok : Bool) : AV := match r with
  | some v => cond ok (.tup [v, .bool true]) v
  | none => cond ok (.tup [z, .bool false]) z
theorem mlk_ok {r : Option AV} {z : AV} {ok : Bool} {N : AV → Prop} (h : N (mlk r z ok)) : mgetN r z ok N := by cases r <;> exact h

def eKeys (k : AV) (es : MapL) : Bool := es.all fun x => (sameK k x.1).isSome
theorem eKeys_ok {k : AV} {es : MapL} (h : eKeys k es = true) : KeysLike k es := fun x hx => List.all_eq_true.1 h x hx

def eSrc (h : Hp) : AV → Option (List (List AV))
  | .isl _ es => some es
  | .slc i k n _ => match h i with
    | some (.row _ es) => cond (Nat.ble (k + n) es.length) (some ((es.drop k).take n)) none
    | _ => none
  | .nils => some []
  | .emp => some []
  | .str s => some (s.map fun b => [.int .u8 b.toNat])
  | _ => none
theorem eSrc_ok {h : Hp} {x : AV} {es : List (List AV)} (hs : eSrc h x = some es) : srcEls h x es := by
  unfold eSrc at hs
  split at hs
  · cases hs; rfl
  · split at hs <;> first | cases hs | skip
    rename_i T es0 hb
    cases hc : Nat.ble _ _ <;> rw [hc] at hs <;> cases hs
    exact ⟨T, es0, hb, Nat.le_of_ble_eq_true hc, rfl⟩
  · cases hs; rfl
  · cases hs; rfl
  · cases hs; rfl
  · cases hs

def eN_pick (c : AOpd) (a : AOpd) (b : AOpd) (e : Env) (h : Hp) : Option AV :=
  match ev e c with
  | .bool t => some (cond t (ev e a) (ev e b))
  | _ => none

def eN_bini (op : BinOp) (x : AOpd) (y : AOpd) (e : Env) (h : Hp) : Option AV :=
  match ev e x, ev e y with
  | .int k a, .int k' b => eBin op k a k' b
  | _, _ => none

def eN_bins (op : BinOp) (x : AOpd) (y : AOpd) (e : Env) (h : Hp) : Option AV :=
  match ev e x, ev e y with
  | .str a, .str b => eBinS op a b
  | _, _ => none

def eN_not (x : AOpd) (e : Env) (h : Hp) : Option AV :=
  match ev e x with
  | .bool b => some (.bool (!b))
  | _ => none

def eN_neg (x : AOpd) (e : Env) (h : Hp) : Option AV :=
  match ev e x with
  | .int k n => some (.int k (k.wrap (0 - n)))
  | _ => none

def eN_lens (x : AOpd) (e : Env) (h : Hp) : Option AV :=
  match ev e x with
  | .str s => some (.int .i64 s.length)
  | _ => none

def eN_lenl (x : AOpd) (e : Env) (h : Hp) : Option AV :=
  match ev e x with
  | .isl _ es => some (.int .i64 es.length)
  | .slc _ _ n _ => some (.int .i64 n)
  | .nils => some (.int .i64 0)
  | .emp => some (.int .i64 0)
  | _ => none

def eN_ext (i : Nat) (x : AOpd) (e : Env) (h : Hp) : Option AV :=
  match ev e x with
  | .tup vs => vs[i]?
  | _ => none

def eN_fld (off : Nat) (x : AOpd) (e : Env) (h : Hp) : Option AV :=
  match ev e x with
  | .agg cs => cs[off]?
  | _ => none

def eN_flda (off : Nat) (n : Nat) (x : AOpd) (e : Env) (h : Hp) : Option AV :=
  match ev e x with
  | .agg cs => guardO (Nat.ble (off + n) cs.length) (some (.agg ((cs.drop off).take n)))
  | _ => none

def eN_conv (k : IntKind) (x : AOpd) (e : Env) (h : Hp) : Option AV :=
  match ev e x with
  | .int _ n => some (.int k (k.wrap n))
  | _ => none

def eN_idxs (x : AOpd) (i : AOpd) (e : Env) (h : Hp) : Option AV :=
  match ev e x, nat? (ev e i) with
  | .str s, some k => match s[k]? with
    | some c => some (.int .u8 c.toNat)
    | none => none
  | _, _ => none

def eN_slcs (x : AOpd) (lo : Option AOpd) (hi : Option AOpd) (e : Env) (h : Hp) : Option AV :=
  match ev e x with
  | .str s => match eBnd e s.length hi, eBnd e 0 lo with
    | some q, some p => guardO (Nat.ble p q && Nat.ble q s.length) (some (.str ((s.take q).drop p)))
    | _, _ => none
  | _ => none

def eN_iaddr (T : TypeId) (z : Nat) (x : AOpd) (i : AOpd) (e : Env) (h : Hp) : Option AV :=
  match ev e x, nat? (ev e i) with
  | .isl g es, some k => match es[k]? with
    | some cs => guardO (Nat.beq cs.length z && !(Nat.beq z 0)) (some (.iptr g cs 0))
    | none => none
  | .slc b k0 m _, some k => match h b with
    | some (.row T' _) => guardO (Nat.beq T' T && Nat.ble (k + 1) m) (some (.ptr b (k0 + k) 0))
    | _ => none
  | _, _ => none

def eN_faddr (off : Nat) (x : AOpd) (e : Env) (h : Hp) : Option AV :=
  match ev e x with
  | .iptr g cs o => some (.iptr g cs (o + off))
  | .ptr b k o => some (.ptr b k (o + off))
  | _ => none

def eN_nilc (x : AOpd) (e : Env) (h : Hp) : Option AV :=
  match ev e x with
  | .iptr g cs o => some (.iptr g cs o)
  | .ptr b k o => some (.ptr b k o)
  | .func (.func f) a b => some (.func (.func f) a b)
  | .ifc t v => some (.ifc t v)
  | _ => none

def eN_ld1 (x : AOpd) (e : Env) (h : Hp) : Option AV :=
  match ev e x with
  | .iptr _ cs o => cs[o]?
  | .ptr b k o => match h b with
    | some (.row _ es) => match es[k]? with
      | some cs => cs[o]?
      | none => none
    | _ => none
  | _ => none

def eN_lda (n : Nat) (x : AOpd) (e : Env) (h : Hp) : Option AV :=
  match ev e x with
  | .iptr _ cs o => guardO (Nat.ble (o + n) cs.length) (some (.agg ((cs.drop o).take n)))
  | .ptr b k o => match h b with
    | some (.row _ es) => match es[k]? with
      | some cs => guardO (Nat.ble (o + n) cs.length) (some (.agg ((cs.drop o).take n)))
      | none => none
    | _ => none
  | _ => none

def eN_slcl (T : TypeId) (z : Nat) (x : AOpd) (lo : Option AOpd) (hi : Option AOpd) (mx : Option AOpd) (e : Env) (h : Hp) : Option AV :=
  match ev e x with
  | .isl g es => match eBnd e es.length hi, eBnd e 0 lo, eBnd e es.length mx with
    | some q, some p, some m => guardO (es.all (fun cs => Nat.beq cs.length z) && (Nat.ble p q && (Nat.ble q m && Nat.ble m es.length))) (some (.isl g ((es.take q).drop p)))
    | _, _, _ => none
  | .slc i k n c => match h i with
    | some (.row T' _) => match eBnd e n hi, eBnd e 0 lo with
      | some q, some p => match mx with
        | none => guardO (Nat.beq T' T && (Nat.ble p q && Nat.ble q (c.getD n))) (some (.slc i (k + p) (q - p) (c.map (· - p))))
        | some y => match eBnd e 0 (some y) with
          | some m => guardO (Nat.beq T' T && (Nat.ble p q && (Nat.ble q m && Nat.ble m (c.getD n)))) (some (.slc i (k + p) (q - p) (some (m - p))))
          | none => none
      | _, _ => none
    | _ => none
  | .nils => match eBnd e 0 hi, eBnd e 0 lo, eBnd e 0 mx with
    | some 0, some 0, some 0 => some .nils
    | _, _, _ => none
  | .emp => match eBnd e 0 hi, eBnd e 0 lo, eBnd e 0 mx with
    | some 0, some 0, some 0 => some .emp
    | _, _, _ => none
  | _ => none

def eN_isnil (k : NK) (neg : Bool) (x : AOpd) (e : Env) (h : Hp) : Option AV :=
  match eNil k (ev e x) with
  | some b => some (.bool (cond neg (!b) b))
  | none => none

def eN_capk (x : AOpd) (e : Env) (h : Hp) : Option AV :=
  match ev e x with
  | .slc _ _ _ (some c) => some (.int .i64 c)
  | .nils => some (.int .i64 0)
  | .emp => some (.int .i64 0)
  | _ => none

def eN_convs (x : AOpd) (e : Env) (h : Hp) : Option AV :=
  match ev e x with
  | .str s => some (.str s)
  | _ => none

def eN_xcount (x : AOpd) (c : AOpd) (e : Env) (h : Hp) : Option AV :=
  match ev e x, ev e c with
  | .str s, .int .u8 n => some (.int .i64 (Lib.countByte s n.toNat.toUInt8 : Nat))
  | _, _ => none

def eN_xindex (x : AOpd) (c : AOpd) (e : Env) (h : Hp) : Option AV :=
  match ev e x, ev e c with
  | .str s, .int .u8 n => some (.int .i64 (Lib.indexByte s n.toNat.toUInt8))
  | _, _ => none

def eN_mn (x : AOpd) (y : AOpd) (e : Env) (h : Hp) : Option AV :=
  match ev e x, ev e y with
  | .int k a, .int k' b => guardO (ikeq k k') (some (.int k (if b < a then b else a)))
  | _, _ => none

def eN_mx (x : AOpd) (y : AOpd) (e : Env) (h : Hp) : Option AV :=
  match ev e x, ev e y with
  | .int k a, .int k' b => guardO (ikeq k k') (some (.int k (if a < b then b else a)))
  | _, _ => none

def eN_mlook (m : MK) (z : AV) (ok : Bool) (x : AOpd) (k : AOpd) (e : Env) (h : Hp) : Option AV :=
  match ev e x with
  | .map i => match h i with
    | some (.map es _) => guardO (keyM m (ev e k) && eKeys (ev e k) es) (some (mlk (mget (ev e k) es) z ok))
    | _ => none
  | .nilm => guardO (keyM m (ev e k)) (some (cond ok (.tup [z, .bool false]) z))
  | _ => none

def eN_mlen (x : AOpd) (e : Env) (h : Hp) : Option AV :=
  match ev e x with
  | .map i => match h i with
    | some (.map es _) => some (.int .i64 es.length)
    | _ => none
  | .nilm => some (.int .i64 0)
  | _ => none

def eN_build (zero : List AV) (parts : List (Nat × Nat × AOpd)) (e : Env) (h : Hp) : Option AV :=
  match lay e zero parts with
  | some cs => some (.agg cs)
  | none => none

def eN_tass (T : TypeId) (ok : Bool) (z : AV) (x : AOpd) (e : Env) (h : Hp) : Option AV :=
  match ev e x with
  | .ifc t v => match Nat.beq t T with
    | true => some (cond ok (.tup [v, .bool true]) v)
    | false => guardO ok (some (.tup [z, .bool false]))
  | .nili => guardO ok (some (.tup [z, .bool false]))
  | _ => none

def eN_entr (x : AOpd) (e : Env) (h : Hp) : Option AV :=
  match ev e x with
  | .ptr i 0 0 => match h i with
    | some (.mapIter (some m) _ seen stepped) => match h m with
      | some (.map es c) => match seen.getLast? with
        | some b => match es.find? (fun x => x.2.2 == b) with
          | some (k, v, b') => guardO (Nat.beq c stepped && Nat.beq b' b) (some (.tup [k, v]))
          | none => none
        | none => none
      | _ => none
    | _ => none
  | _ => none

def eN_upc (x : AOpd) (e : Env) (h : Hp) : Option AV :=
  match ev e x with
  | .ptr b k q => match h b with
    | some (.row _ es) => match es[k]? with
      | some cs => guardO (Nat.blt q cs.length) (some (.ptr b k q))
      | none => none
    | _ => none
  | .nilp => some .nilp
  | _ => none

def eN_upt (T : TypeId) (x : AOpd) (e : Env) (h : Hp) : Option AV :=
  match ev e x with
  | .ptr b k 0 => match h b with
    | some (.row T' es) => guardO (Nat.beq T' T && Nat.blt k es.length) (some (.ptr b k 0))
    | _ => none
  | .nilp => some .nilp
  | _ => none

def eN_peq (neg : Bool) (x : AOpd) (y : AOpd) (e : Env) (h : Hp) : Option AV :=
  match ev e x, ev e y with
  | .ptr b k q, .ptr b' k' q' => guardO (Nat.beq b b' && Nat.beq k k') (some (.bool (cond neg (!(Nat.beq q q')) (Nat.beq q q'))))
  | .nilp, .nilp => some (.bool (!neg))
  | .nilp, .ptr _ _ _ => some (.bool neg)
  | .ptr _ _ _, .nilp => some (.bool neg)
  | _, _ => none

def eN_adr (n : Nat) (z : Nat) (x : AOpd) (i : AOpd) (e : Env) (h : Hp) : Option AV :=
  match ev e x, nat? (ev e i) with
  | .iptr g cs o, some k => guardO (Nat.blt k n) (some (.iptr g cs (o + k * z)))
  | .ptr b j o, some k => guardO (Nat.blt k n) (some (.ptr b j (o + k * z)))
  | _, _ => none

def eN_aeq (neg : Bool) (ks : List Nat) (x : AOpd) (y : AOpd) (e : Env) (h : Hp) : Option AV :=
  match ev e x, ev e y with
  | .agg a, .agg b => match keyCs ks a, sameL a b with
    | true, some t => some (.bool (cond neg (!t) t))
    | _, _ => none
  | _, _ => none

def eN_xcmp (x : AOpd) (y : AOpd) (e : Env) (h : Hp) : Option AV :=
  match ev e x, ev e y with
  | .str s, .str t => some (.int .i64 (Lib.compareBytes s t))
  | _, _ => none

def eN_cpl (x : AOpd) (e : Env) (h : Hp) : Option AV :=
  match ev e x with
  | .int k n => some (.int k (ibits .xor k (cond k.signed (-1) k.max) n))
  | _ => none

def eN_usd (x : AOpd) (e : Env) (h : Hp) : Option AV :=
  match ev e x with
  | .slc i k n _ => guardO (Nat.blt 0 n) (some (.ptr i k 0))
  | .nils => some .nilp
  | _ => none

def eN_rac (x : AOpd) (e : Env) (h : Hp) : Option AV :=
  match ev e x with
  | .ptr _ _ _ => some (.tup [])
  | .iptr _ _ _ => some (.tup [])
  | _ => none

def eN_b2s (x : AOpd) (e : Env) (h : Hp) : Option AV :=
  match ev e x with
  | .str _ => none
  | v => match eSrc h v with
    | some es => match bytesL es with
      | some s => some (.str s)
      | none => none
    | none => none

def eN (o : AOp) (e : Env) (h : Hp) : Option AV :=
  match o with
  | .mov x => some (ev e x)
  | .pick c a b => eN_pick c a b e h
  | .bini op x y => eN_bini op x y e h
  | .bins op x y => eN_bins op x y e h
  | .binb op x y => eBinB op (ev e x) (ev e y)
  | .not x => eN_not x e h
  | .neg x => eN_neg x e h
  | .lens x => eN_lens x e h
  | .lenl x => eN_lenl x e h
  | .ext i x => eN_ext i x e h
  | .fld off x => eN_fld off x e h
  | .flda off n x => eN_flda off n x e h
  | .conv k x => eN_conv k x e h
  | .idxs x i => eN_idxs x i e h
  | .slcs x lo hi => eN_slcs x lo hi e h
  | .iaddr T z x i => eN_iaddr T z x i e h
  | .faddr off x => eN_faddr off x e h
  | .nilc x => eN_nilc x e h
  | .ld1 x => eN_ld1 x e h
  | .lda n x => eN_lda n x e h
  | .mkifc t x => some (.ifc t (ev e x))
  | .mkfn f first cap => some (.func (.func f) (first.map (ev e)) (cap.map (ev e)))
  | .slcl T z x lo hi mx => eN_slcl T z x lo hi mx e h
  | .isnil k neg x => eN_isnil k neg x e h
  | .capk x => eN_capk x e h
  | .convs x => eN_convs x e h
  | .xcount x c => eN_xcount x c e h
  | .xindex x c => eN_xindex x c e h
  | .mn x y => eN_mn x y e h
  | .mx x y => eN_mx x y e h
  | .mlook m z ok x k => eN_mlook m z ok x k e h
  | .mlen x => eN_mlen x e h
  | .build zero parts => eN_build zero parts e h
  | .tass T ok z x => eN_tass T ok z x e h
  | .entr x => eN_entr x e h
  | .upc x => eN_upc x e h
  | .upt T x => eN_upt T x e h
  | .peq neg x y => eN_peq neg x y e h
  | .adr n z x i => eN_adr n z x i e h
  | .aeq neg ks x y => eN_aeq neg ks x y e h
  | .mkm nm first => some (.func (.method nm) (first.map (ev e)) [])
  | .xcmp x y => eN_xcmp x y e h
  | .cpl x => eN_cpl x e h
  | .usd x => eN_usd x e h
  | .rac x => eN_rac x e h
  | .b2s x => eN_b2s x e h
  | _ => none

theorem eN_ok {o : AOp} {e : Env} {h : Hp} {v : AV} {N : AV → Prop} (hv : eN o e h = some v) (hn : N v) : LN o e h N := by
  cases o <;> simp only [eN, eN_pick, eN_bini, eN_bins, eN_not, eN_neg, eN_lens, eN_lenl, eN_ext, eN_fld, eN_flda, eN_conv, eN_idxs, eN_slcs, eN_iaddr, eN_faddr, eN_nilc, eN_ld1, eN_lda, eN_slcl, eN_isnil, eN_capk, eN_convs, eN_xcount, eN_xindex, eN_mn, eN_mx, eN_mlook, eN_mlen, eN_build, eN_tass, eN_entr, eN_upc, eN_upt, eN_peq, eN_adr, eN_aeq, eN_xcmp, eN_cpl, eN_usd, eN_rac, eN_b2s] at hv <;> first | (cases hv; done) | skip
  case mov => cases hv; exact hn
  case pick c a b => split at hv <;> cases hv; rename_i t ht; simp only [LN, ht]; exact hn
  case bini op x y => split at hv <;> first | cases hv | skip
                      rename_i h1 h2; simp only [LN, h1, h2]; exact eBin_ok hv hn
  case bins op x y => split at hv <;> first | cases hv | skip
                      rename_i h1 h2; simp only [LN, h1, h2]; exact eBinS_ok hv hn
  case binb op x y => exact eBinB_ok hv hn
  case not x => split at hv <;> cases hv; rename_i h1; simp only [LN, h1]; exact hn
  case neg x => split at hv <;> cases hv; rename_i h1; simp only [LN, h1]; exact genI_mk hn
  case lens x => split at hv <;> cases hv; rename_i h1; simp only [LN, h1]; exact hn
  case lenl x => split at hv <;> cases hv <;> rename_i h1 <;> simp only [LN, h1] <;> exact hn
  case ext i x => split at hv <;> first | cases hv | skip
                  rename_i h1; simp only [LN, h1]; exact ⟨v, hv, hn⟩
  case fld off x => split at hv <;> first | cases hv | skip
                    rename_i h1; simp only [LN, h1]; exact ⟨v, hv, hn⟩
  case flda off n x => split at hv <;> first | cases hv | skip
                       rename_i h1; obtain ⟨h2, h3⟩ := guardO_some hv; cases h3; simp only [LN, h1]; exact ⟨Nat.le_of_ble_eq_true h2, hn⟩
  case conv k x => split at hv <;> cases hv; rename_i h1; simp only [LN, h1]; exact genI_mk hn
  case idxs x i =>
    split at hv <;> first | cases hv | skip
    rename_i s k h1 h2
    split at hv <;> cases hv
    rename_i c hc
    obtain ⟨K, hK⟩ := nat?_ok h2
    simp only [LN, h1, hK]; exact ⟨k, c, rfl, hc, hn⟩
  case slcs x lo hi =>
    split at hv <;> first | cases hv | skip
    rename_i s h1
    split at hv <;> first | cases hv | skip
    rename_i q p h2 h3
    obtain ⟨h4, h5⟩ := guardO_some hv; cases h5
    simp only [Bool.and_eq_true] at h4
    simp only [LN, h1]
    exact eBnd_ok h2 (eBnd_ok h3 ⟨Nat.le_of_ble_eq_true h4.1, Nat.le_of_ble_eq_true h4.2, hn⟩)
  case iaddr T z x i =>
    split at hv <;> first | cases hv | skip
    · rename_i g es k h1 h2
      split at hv <;> first | cases hv | skip
      rename_i cs hcs
      obtain ⟨h4, h5⟩ := guardO_some hv; cases h5
      simp only [Bool.and_eq_true, Bool.not_eq_true'] at h4
      obtain ⟨K, hK⟩ := nat?_ok h2
      simp only [LN, h1, hK]
      exact ⟨k, cs, rfl, hcs, Nat.eq_of_beq_eq_true h4.1, (fun e => by rw [e] at h4; cases h4.2), hn⟩
    · rename_i b k0 m c k h1 h2
      split at hv <;> first | cases hv | skip
      rename_i T' es hb
      obtain ⟨h4, h5⟩ := guardO_some hv; cases h5
      simp only [Bool.and_eq_true] at h4
      obtain ⟨K, hK⟩ := nat?_ok h2
      simp only [LN, h1, hK]
      obtain rfl := Nat.eq_of_beq_eq_true h4.1
      exact ⟨k, rfl, Nat.le_of_ble_eq_true h4.2, ⟨es, hb⟩, hn⟩
  case faddr off x => split at hv <;> cases hv <;> rename_i h1 <;> simp only [LN, h1] <;> exact hn
  case nilc x => split at hv <;> cases hv <;> rename_i h1 <;> simp only [LN, h1] <;> exact hn
  case ld1 x =>
    split at hv <;> first | cases hv | skip
    · rename_i h1; simp only [LN, h1]; exact ⟨v, hv, hn⟩
    · rename_i b k o h1
      split at hv <;> first | cases hv | skip
      rename_i T es hb
      split at hv <;> first | cases hv | skip
      rename_i cs hcs
      simp only [LN, h1]; exact ⟨T, es, cs, v, hb, hcs, hv, hn⟩
  case lda n x =>
    split at hv <;> first | cases hv | skip
    · rename_i h1; obtain ⟨h4, h5⟩ := guardO_some hv; cases h5; simp only [LN, h1]; exact ⟨Nat.le_of_ble_eq_true h4, hn⟩
    · rename_i b k o h1
      split at hv <;> first | cases hv | skip
      rename_i T es hb
      split at hv <;> first | cases hv | skip
      rename_i cs hcs
      obtain ⟨h4, h5⟩ := guardO_some hv; cases h5
      simp only [LN, h1]; exact ⟨T, es, cs, hb, hcs, Nat.le_of_ble_eq_true h4, hn⟩
  case mkifc t x => cases hv; exact hn
  case mkfn f first cap => cases hv; exact hn
  case slcl T z x lo hi mx =>
    split at hv <;> first | cases hv | skip
    · rename_i g es h1
      split at hv <;> first | cases hv | skip
      rename_i q p m h2 h3 h4
      obtain ⟨h5, h6⟩ := guardO_some hv; cases h6
      simp only [Bool.and_eq_true] at h5
      simp only [LN, h1]
      refine ⟨fun cs hcs => Nat.eq_of_beq_eq_true (List.all_eq_true.1 h5.1 cs hcs), eBnd_ok h2 (eBnd_ok h3 (eBnd_ok h4 ⟨Nat.le_of_ble_eq_true h5.2.1, Nat.le_of_ble_eq_true h5.2.2.1, Nat.le_of_ble_eq_true h5.2.2.2, .inr hn⟩))⟩
    · rename_i i k n c h1
      split at hv <;> first | cases hv | skip
      rename_i T' es hb
      split at hv <;> first | cases hv | skip
      rename_i q p h2 h3
      simp only [LN, h1]
      split at hv
      · obtain ⟨h5, h6⟩ := guardO_some hv; cases h6
        simp only [Bool.and_eq_true] at h5
        obtain rfl := Nat.eq_of_beq_eq_true h5.1
        exact ⟨⟨es, hb⟩, eBnd_ok h2 (eBnd_ok h3 ⟨Nat.le_of_ble_eq_true h5.2.1, Nat.le_of_ble_eq_true h5.2.2, hn⟩)⟩
      · split at hv <;> first | cases hv | skip
        rename_i m h4
        obtain ⟨h5, h6⟩ := guardO_some hv; cases h6
        simp only [Bool.and_eq_true] at h5
        obtain rfl := Nat.eq_of_beq_eq_true h5.1
        exact ⟨⟨es, hb⟩, eBnd_ok h2 (eBnd_ok h3 (eBnd_ok h4 ⟨Nat.le_of_ble_eq_true h5.2.1, Nat.le_of_ble_eq_true h5.2.2.1, Nat.le_of_ble_eq_true h5.2.2.2, hn⟩))⟩
    · rename_i h1
      split at hv <;> cases hv
      rename_i h2 h3 h4
      simp only [LN, h1]; exact eBnd_ok h2 (eBnd_ok h3 (eBnd_ok h4 ⟨rfl, rfl, rfl, hn⟩))
    · rename_i h1
      split at hv <;> cases hv
      rename_i h2 h3 h4
      simp only [LN, h1]; exact eBnd_ok h2 (eBnd_ok h3 (eBnd_ok h4 ⟨rfl, rfl, rfl, hn⟩))
  case isnil k neg x => split at hv <;> cases hv; rename_i b h1; exact eNil_ok (N := fun b => N (.bool (cond neg (!b) b))) h1 hn
  case capk x => split at hv <;> cases hv <;> rename_i h1 <;> simp only [LN, h1] <;> exact hn
  case convs x => split at hv <;> cases hv; rename_i h1; simp only [LN, h1]; exact hn
  case xcount x c => split at hv <;> cases hv; rename_i h1 h2; simp only [LN, h1, h2]; exact hn
  case xindex x c => split at hv <;> cases hv; rename_i h1 h2; simp only [LN, h1, h2]; exact genI_mk hn
  case mn x y =>
    split at hv <;> first | cases hv | skip
    rename_i h1 h2; obtain ⟨h3, h4⟩ := guardO_some hv; cases h4
    simp only [LN, h1, h2, h3]; exact genI_mk hn
  case mx x y =>
    split at hv <;> first | cases hv | skip
    rename_i h1 h2; obtain ⟨h3, h4⟩ := guardO_some hv; cases h4
    simp only [LN, h1, h2, h3]; exact genI_mk hn
  case mlook m z ok x k =>
    split at hv <;> first | cases hv | skip
    · rename_i i h1
      split at hv <;> first | cases hv | skip
      rename_i es c hb
      obtain ⟨h3, h4⟩ := guardO_some hv; cases h4
      simp only [Bool.and_eq_true] at h3
      simp only [LN, h1]
      exact ⟨es, c, hb, h3.1, eKeys_ok h3.2, fun r hr => by rw [hr]; exact mlk_ok hn⟩
    · rename_i h1
      obtain ⟨h3, h4⟩ := guardO_some hv; cases h4
      simp only [LN, h1]; exact ⟨h3, hn⟩
  case mlen x =>
    split at hv <;> first | cases hv | skip
    · rename_i i h1
      split at hv <;> cases hv
      rename_i es c hb
      simp only [LN, h1]; exact ⟨es, c, hb, hn⟩
    · rename_i h1; simp only [LN, h1]; exact hn
  case build zero parts =>
    split at hv <;> cases hv
    rename_i cs hcs
    exact ⟨cs, hcs, hn⟩
  case tass T ok z x =>
    split at hv <;> first | cases hv | skip
    · rename_i t v' h1
      simp only [LN, h1]
      split at hv
      · rename_i hb; cases hv; simp only [hb]; exact hn
      · rename_i hb; obtain ⟨h2, h3⟩ := guardO_some hv; cases h3; simp only [hb]; exact ⟨h2, hn⟩
    · rename_i h1; obtain ⟨h2, h3⟩ := guardO_some hv; cases h3; simp only [LN, h1]; exact ⟨h2, hn⟩
  case entr x =>
    split at hv <;> first | cases hv | skip
    rename_i i h1
    split at hv <;> first | cases hv | skip
    rename_i m since seen stepped h2
    split at hv <;> first | cases hv | skip
    rename_i es c h3
    split at hv <;> first | cases hv | skip
    rename_i b h4
    split at hv <;> first | cases hv | skip
    rename_i k v' b' h5
    obtain ⟨h6, h7⟩ := guardO_some hv; cases h7
    simp only [Bool.and_eq_true] at h6
    obtain rfl := Nat.eq_of_beq_eq_true h6.1
    obtain rfl := Nat.eq_of_beq_eq_true h6.2
    simp only [LN, h1]
    exact ⟨m, since, seen, _, es, _, k, v', _, h2, h3, rfl, h4, h5, hn⟩
  case upc x =>
    split at hv <;> first | cases hv | skip
    · rename_i b k q h1
      split at hv <;> first | cases hv | skip
      rename_i T es hb
      split at hv <;> first | cases hv | skip
      rename_i cs hcs
      obtain ⟨h2, h3⟩ := guardO_some hv; cases h3
      simp only [LN, h1]; exact ⟨T, es, cs, hb, hcs, Nat.le_of_ble_eq_true h2, hn⟩
    · rename_i h1; simp only [LN, h1]; exact hn
  case upt T x =>
    split at hv <;> first | cases hv | skip
    · rename_i b k h1
      split at hv <;> first | cases hv | skip
      rename_i T' es hb
      obtain ⟨h2, h3⟩ := guardO_some hv; cases h3
      simp only [Bool.and_eq_true] at h2
      obtain rfl := Nat.eq_of_beq_eq_true h2.1
      simp only [LN, h1]; exact ⟨es, hb, Nat.le_of_ble_eq_true h2.2, hn⟩
    · rename_i h1; simp only [LN, h1]; exact hn
  case peq neg x y =>
    split at hv <;> first | cases hv | skip
    · rename_i b k q b' k' q' h1 h2
      obtain ⟨h3, h4⟩ := guardO_some hv; cases h4
      simp only [Bool.and_eq_true] at h3
      simp only [LN, h1, h2]; exact ⟨h3.1, h3.2, hn⟩
    all_goals rename_i h1 h2; simp only [LN, h1, h2]; exact hn
  case adr n z x i =>
    split at hv <;> first | cases hv | skip
    all_goals
      rename_i h1 h2
      obtain ⟨h3, h4⟩ := guardO_some hv; cases h4
      obtain ⟨K, hK⟩ := nat?_ok h2
      simp only [LN, h1, hK]; exact ⟨_, rfl, Nat.le_of_ble_eq_true h3, hn⟩
  case mkm nm first => cases hv; exact hn
  case aeq neg ks x y =>
    split at hv <;> first | cases hv | skip
    rename_i a b h1 h2
    split at hv <;> cases hv
    rename_i t h3 h4
    simp only [LN, h1, h2]; exact ⟨h3, t, h4, hn⟩
  case xcmp x y =>
    split at hv <;> cases hv
    rename_i h1 h2; simp only [LN, h1, h2]; exact hn
  case cpl x =>
    split at hv <;> cases hv
    rename_i h1; simp only [LN, h1]; exact hn
  case usd x =>
    split at hv <;> first | cases hv | skip
    · rename_i i k n c h1
      obtain ⟨h3, h4⟩ := guardO_some hv; cases h4
      simp only [LN, h1]; exact ⟨Nat.le_of_ble_eq_true h3, hn⟩
    · rename_i h1; simp only [LN, h1]; exact hn
  case rac x => split at hv <;> first | cases hv | skip
                all_goals rename_i h1; simp only [LN, h1]; exact hn
  case b2s x =>
    split at hv <;> first | cases hv | skip
    rename_i hns
    split at hv <;> first | cases hv | skip
    rename_i es hes
    split at hv <;> cases hv
    rename_i s hs
    have key : ∃ es s', srcEls h (ev e x) es ∧ bytesL es = some s' ∧ N (.str s') := ⟨es, s, eSrc_ok hes, hs, hn⟩
    simp only [LN]
    exact key
end Go.L
