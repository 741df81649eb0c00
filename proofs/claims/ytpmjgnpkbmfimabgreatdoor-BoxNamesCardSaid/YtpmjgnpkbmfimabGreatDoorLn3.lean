/-
  The logic L, part n3: code.
-/
import Derived.Test.YtpmjgnpkbmfimabGreatDoorLn2
import Derived.RangeFuncRecord
namespace Go.L

/-! ## Code -/

inductive ACode where
  | skip
  | ops (l : List AOper)
  | seq (a b : ACode)
  | cond (c : AOpd) (a b : ACode)
  | block (id : Nat) (c : ACode)
  | loop (c : ACode)
  | exit (id : Nat)
  | ret
  | bad
  | alts (D : List Nat) (ls : List (List AOper))
  | orr (a b : ACode)
  | dfr (x : AOpd) (args : List AOpd)
  | recv (d : Option Nat) (ms : List (Option Nat × AOpd))
  | rngf (g : AOpd) (ps : List Nat) (assign body : ACode)
  deriving Inhabited

/-- What operations write. -/
def dstsOf (l : List AOper) : List Nat := l.filterMap fun o => o.dst

/-- The orders of a region, if they are few. -/
def ordersOf (ops : Array Oper) (la : List AOper) : ACode :=
  match fewB (fun i => la.getD i default) (depsOf ops) (ops.size + 1) (List.range ops.size) 24 with
  | none => .bad
  | some _ => .alts (dstsOf la) ((reps (fun i => la.getD i default) (depsOf ops) ops.size (List.range ops.size)).map fun l => l.map fun i => la.getD i default)

/-- A region that draws its order: one order, if all come to the same; else with the calls pure by contract, or all orders. -/
def drawC (P : Program) (n : Nat) (ops : Array Oper) : ACode :=
  match compIdx P n ops (List.range ops.size), compIdxP P n ops (List.range ops.size), compIdxA P n ops (List.range ops.size) with
  | some la, some lp, some lx => match ordersOf ops la with
    | .alts D [l] => .alts D [l]
    | x => match ordersOf ops lx with
      | .alts D [l] => .orr (.alts D [l]) (.orr (ordersOf ops lp) x)
      | _ => .orr (ordersOf ops lp) x
  | _, _, _ => .bad

/-- A region's last operation defers a call. -/
def dferOf (ops : Array Oper) : Option (AOpd × List AOpd) :=
  match ops[ops.size - 1]? with
  | some o => match o.op, o.guard, o.dst with
    | .defer c, none, none => match c.callee with
      | .value f => match copd f, copds c.args.toList with
        | some x, some l => some (x, l)
        | _, _ => none
      | _ => none
    | _, _, _ => none
  | none => none

def movOf (n : Nat) (o : Oper) : Option (Option Nat × AOpd) :=
  match o.op, o.guard with
  | .move x, none => match copd x, (match o.dst with | none => true | some d => Nat.blt d n) with
    | some y, true => some (o.dst, y)
    | _, _ => none
  | .assign x, none => match copd x, (match o.dst with | none => true | some d => Nat.blt d n) with
    | some y, true => some (o.dst, y)
    | _, _ => none
  | _, _ => none

def movsOf (n : Nat) : List Oper → Option (List (Option Nat × AOpd))
  | [] => some []
  | o :: r => match movOf n o, movsOf n r with
    | some m, some l => some (m :: l)
    | _, _ => none

/-- A region that recovers. -/
def recvOf (n : Nat) (ops : Array Oper) : Option ACode :=
  match ops.toList with
  | o :: r => match o.op, o.guard with
    | .call c, none => match c.callee, c.args.toList, (match o.dst with | none => true | some d => Nat.blt d n), movsOf n r with
      | .builtin .recover, [], true, some l => some (.recv o.dst l)
      | _, _, _, _ => none
    | _, _ => none
  | [] => none

/-- A region that is done in its order. -/
def regC (P : Program) (n : Nat) (ops : Array Oper) : ACode :=
  match dferOf ops with
  | some (x, l) => match compIdx P n ops (List.range (ops.size - 1)) with
    | some la => .seq (.ops la) (.dfr x l)
    | none => .bad
  | none => match recvOf n ops with
    | some c => c
    | none => match compIdx P n ops (List.range ops.size) with
      | some l => .ops l
      | none => .bad

/-- Nothing that is not taken within a round: no 'defer', no range over a function. -/
def nodfr : ACode → Bool
  | .seq a b => nodfr a && nodfr b
  | .cond _ a b => nodfr a && nodfr b
  | .block _ c => nodfr c
  | .loop c => nodfr c
  | .orr a b => nodfr a && nodfr b
  | .dfr _ _ => false
  | .rngf .. => false
  | _ => true

def compC (P : Program) (n : Nat) : Code → Option ACode
  | .skip => some .skip
  | .region _ ops false => some (regC P n ops)
  | .region _ ops true => match P.follows .mixedOrders && depsOk ops with
    | true => some (drawC P n ops)
    | false => some .bad
  | .seq a b => match compC P n a, compC P n b with
    | some x, some y => some (.seq x y)
    | _, _ => none
  | .cond c a b => match copd c, compC P n a, compC P n b with
    | some z, some x, some y => some (.cond z x y)
    | _, _, _ => none
  | .block id c => (compC P n c).map (.block id)
  | .loop c => (compC P n c).map .loop
  | .exit id => some (.exit id)
  | .ret => some .ret
  | .rangeFunc g ps a b => match copd g, compC P n a, compC P n b with
    | some x, some y, some z => match (nodfr y && nodfr z) && ps.toList.all (fun p => Nat.blt p n) with
      | true => some (.rngf x ps.toList y z)
      | false => some .bad
    | _, _, _ => none
  | _ => some .bad

/-- Each of these orders. -/
def LAlts (P : Program) (md : Bool) : List (List AOper) → (Env → Hp → Prop) → (AV → Env → Hp → Prop) → Env → Hp → Prop
  | [], _, _, _, _ => True
  | [l], K, X, e, h => LOps P md l K X e h
  | l :: r, K, X, e, h => LOps P md l K X e h ∧ LAlts P md r K X e h

theorem LAlts_get {P : Program} {md : Bool} : ∀ {ls : List (List AOper)} {K : Env → Hp → Prop} {X : AV → Env → Hp → Prop} {e : Env} {h : Hp}, LAlts P md ls K X e h → ∀ l ∈ ls, LOps P md l K X e h
  | [], _, _, _, _, _, l, hl => by cases hl
  | [m], _, _, _, _, hh, l, hl => by rw [List.mem_singleton.1 hl]; exact hh
  | m :: m2 :: r, _, _, _, _, hh, l, hl => by
    rcases List.mem_cons.1 hl with rfl | hl
    · exact hh.1
    · exact LAlts_get hh.2 l hl

/-- Codes of a range over a function, that the logic has so. -/
def LoopCodes (P : Program) (n : Nat) (ps : List Nat) (a b : ACode) (ca cb : Code) : Prop :=
  compC P n ca = some a ∧ compC P n cb = some b ∧ nodfr a = true ∧ nodfr b = true ∧ (ps.all fun p => Nat.blt p n) = true
/-- The record of such a loop. -/
def loopB (P : Program) (n : Nat) (t : Nat → AV) (ps : List Nat) (a b : ACode) (st : LSt) (pend : Option Jmp) : Blk := .loop n t ps (LoopCodes P n ps a b) st pend

/-- A loop's record, set anew (or dropped: 'none'). -/
def loopSet (j : Nat) (st' : LSt) (pend' : Option Jmp) (ok : LSt → Option Jmp → Prop) (next : Hp → Prop) (h : Hp) : Prop :=
  ∃ n t ps K st pend, h j = some (.loop n t ps K st pend) ∧ ok st pend ∧ orDel j next (h.set j (.loop n t ps K st' pend'))

/-- The function that was ranged over has returned. -/
def rngQ (j : Nat) (Q : Xit → Env → Hp → Prop) (e : Env) (h : Hp) : Prop :=
  ∃ pend, loopSet j .over pend (fun st pd => st ≠ .busy ∧ pd = pend) (match pend with
    | none => Q .normal e
    | some .ret => Q .ret e
    | some (.exit id) => Q (.exit id) e) h

def LCode (P : Program) (md : Bool) : ACode → (Xit → Env → Hp → Prop) → Env → Hp → Prop
  | .skip, Q, e, h => Q .normal e h
  | .ops l, Q, e, h => LOps P md l (fun e h => Q .normal e h) (fun v e h => Q (.pan v) e h) e h
  | .seq a b, Q, e, h => LCode P md a (andThen (fun e h => LCode P md b Q e h) Q) e h
  | .cond c a b, Q, e, h => match ev e c with
    | .bool t => bcase t true (LCode P md a Q e h) (LCode P md b Q e h)
    | _ => False
  | .block id c, Q, e, h => LCode P md c (inBlk id Q) e h
  | .loop c, Q, e, h => ∃ I : Nat → Env → Hp → Prop, (∃ n, I n e h) ∧ ∀ n e h, I n e h → LCode P md c (andThen (fun e h => ∃ m, m < n ∧ I m e h) Q) e h
  | .exit id, Q, e, h => Q (.exit id) e h
  | .ret, Q, e, h => Q .ret e h
  | .bad, _, _, _ => False
  | .orr a b, Q, e, h => LCode P md a Q e h ∨ LCode P md b Q e h
  | .dfr x args, Q, e, h => match ev e x with
    | .func (.func f) first cap => Q .normal ⟨e.n, e.t, .call (.func f) cap (first ++ args.map (ev e)) :: e.ds⟩ h
    | _ => False
  | .recv _ _, _, _, _ => False
  | .rngf g ps a b, Q, e, h => match ev e g with
    | .func (.func f) first cap => HasBody P f ∧ allocN md h fun i => allocN md (h.set i .dfr) fun j =>
        CallL P f (first ++ [.yld j] ++ cap) ((h.set i .dfr).set j (loopB P e.n e.t ps a b .ready none)) fun r h' => match r with
          | .ret _ => rngQ j Q ⟨e.n, e.t, .mark i :: e.ds⟩ h'
          | .pan v => Q (.pan v) ⟨e.n, e.t, .mark i :: e.ds⟩ h'
    | _ => False
  | .alts D ls, Q, e, h => LAlts P md ls (fun e h => Q .normal e h) (fun v _ h => ∀ g : Nat → AV, (∀ t, inL t D = false → g t = e.t t) → Q (.pan v) ⟨e.n, g, e.ds⟩ h) e h

section
variable {P : Program} {ro : Option Nat} {md : Bool}

/-- The same activation, but for what is written. -/
def AgrD (D : List Nat) (e0 e : Env) : Prop := e.n = e0.n ∧ e.ds = e0.ds ∧ ∀ t, inL t D = false → e.t t = e0.t t
theorem AgrD.put {D : List Nat} {e0 e : Env} (h : AgrD D e0 e) {d : Option Nat} (hd : ∀ x, d = some x → inL x D = true) (v : AV) : AgrD D e0 (e.put d v) := by
  cases d with
  | none => exact h
  | some d =>
    refine ⟨h.1, h.2.1, fun t ht => ?_⟩
    have hne : Nat.beq t d = false := by
      cases hh : Nat.beq t d with
      | false => rfl
      | true => rw [Nat.eq_of_beq_eq_true hh, hd d rfl] at ht; cases ht
    simp only [Env.put, hne, cond_false]
    exact h.2.2 t ht
theorem LOps_keep {D : List Nat} {e0 : Env} : ∀ {l : List AOper} {K : Env → Hp → Prop} {X : AV → Env → Hp → Prop} {e : Env} {h : Hp}, (∀ o ∈ l, ∀ d, o.dst = some d → inL d D = true) → AgrD D e0 e → LOps P md l K X e h →
    LOps P md l K (fun v e h => X v e h ∧ AgrD D e0 e) e h
  | [], K, X, e, h, _, hA, hl => hl
  | ⟨d, o, g⟩ :: r, K, X, e, h, hD, hA, hl => by
    have hd := hD _ List.mem_cons_self
    have hr : ∀ o ∈ r, ∀ d, o.dst = some d → inL d D = true := fun o ho => hD o (List.mem_cons_of_mem _ ho)
    have run : LOp P md o e h (fun v h' => force v fun v => LOps P md r K X (e.put d v) h') (fun v h' => X v e h') → LOp P md o e h (fun v h' => force v fun v => LOps P md r K (fun v e h => X v e h ∧ AgrD D e0 e) (e.put d v) h') (fun v h' => X v e h' ∧ AgrD D e0 e) := fun hl =>
      LOp_mono hl (fun v h' hk => by rw [force_eq] at hk ⊢; exact LOps_keep hr (hA.put hd v) hk) (fun v h' hx => ⟨hx, hA⟩)
    have skip_ : LOps P md r K X (e.put d (.tup [])) h → LOps P md r K (fun v e h => X v e h ∧ AgrD D e0 e) (e.put d (.tup [])) h := fun hl => LOps_keep hr (hA.put hd _) hl
    cases g with
    | none => exact run hl
    | some g =>
      obtain ⟨t, b⟩ := g
      simp only [LOps] at hl ⊢
      generalize e.t t = x at hl ⊢
      cases x <;> simp only at hl ⊢ <;> first | exact hl.elim | skip
      case bool c => cases c <;> cases b <;> simp only [bcase] at hl ⊢ <;> first | exact run hl | exact skip_ hl
      case tup vs => exact skip_ hl

theorem dsts_ok {la : List AOper} {i d : Nat} (h : (la.getD i default).dst = some d) : inL d (dstsOf la) = true := by
  rw [inL_iff]
  by_cases hi : i < la.length
  · refine List.mem_filterMap.2 ⟨la.getD i default, ?_, h⟩
    rw [List.getD_eq_getElem?_getD, List.getElem?_eq_getElem hi]
    exact List.getElem_mem hi
  · rw [List.getD_eq_getElem?_getD, List.getElem?_eq_none (by omega)] at h
    cases h

theorem orders_sound {n : Nat} {id : Nat} {ops : Array Oper} (hcond : P.follows .mixedOrders = true ∧ depsOk ops = true) {la : List AOper} (hla : OkL P ro md n ops (List.range ops.size) la)
    {Q : Xit → Env → Hp → Prop} {e : Env} {h : Hp} (hn : e.n = n) (hl : LCode P md (ordersOf ops la) Q e h) : CodeL P ro (.region id ops true) (fun y e' h' => Q y e' h' ∧ e'.n = n) e h := by
  unfold ordersOf at hl
  split at hl
  · exact hl.elim
  intro σ M w a hR hA
  refine wpIn_region_draw fun t => ?_
  simp only [Region.schedule, hcond.1, Bool.true_or, if_true]
  have hrest : restOf ops (Array.replicate ops.size false) = List.range ops.size := by
    unfold restOf
    rw [List.filter_eq_self]
    intro i hi
    simp [Array.getD_eq_getD_getElem?, Array.getElem?_replicate, List.mem_range.1 hi]
  have ht := topo_linear hcond.2 ops.size t (Array.replicate ops.size false) (by simp) (by rw [hrest]; simp)
  rw [hrest] at ht
  obtain ⟨l', hl', hk⟩ := reps_ok (P := P) (md := md) (A := fun i => la.getD i default) ops.size (List.range ops.size) _ (by simp) (closed_all ops) ht
  have hone := hk (fun e h => Q .normal e h) _ (fun v e h g hX => hX) e h (LAlts_get hl _ (List.mem_map.2 ⟨l', hl', rfl⟩))
  have hone := LOps_keep (D := dstsOf la) (e0 := e) (fun o ho d hd => by
    obtain ⟨i, _, rfl⟩ := List.mem_map.1 ho
    exact dsts_ok hd) ⟨rfl, rfl, fun _ _ => rfl⟩ hone
  have hidx := hla.order _ (fun i hi => List.mem_range.1 (ht.sub i hi))
  refine LOps_sound _ _ hidx e h σ M w.drew a hn hR.drew hA ?_ ?_ hone
  · intro σ' M' w' h' e' a' hE hR' hA' hn' hK; exact ⟨σ', M', h', e', .normal, Ext.drew.trans hE, hR', hA', trivial, hK, hn'⟩
  · intro σ' M' w' h' e' a' v v' hE hR' hA' hn' hv hX; exact ⟨σ', M', h', e', .pan v, Ext.drew.trans hE, hR', hA', ⟨v', rfl, hv⟩, (by have := hX.1 e'.t hX.2.2.2; rw [← hX.2.1, ← hX.2.2.1] at this; exact this), hn'⟩

theorem draw_sound {n : Nat} {id : Nat} {ops : Array Oper} (hcond : P.follows .mixedOrders = true ∧ depsOk ops = true) {Q : Xit → Env → Hp → Prop} {e : Env} {h : Hp} (hn : e.n = n) (hl : LCode P md (drawC P n ops) Q e h) :
    CodeL P ro (.region id ops true) (fun y e' h' => Q y e' h' ∧ e'.n = n) e h := by
  unfold drawC at hl
  split at hl
  · rename_i la lp lx hla hlp hlx
    have h1 := okL_of (ro := ro) (md := md) _ _ hla
    have h2 := okLP_of (ro := ro) (md := md) _ _ hlp
    have h3 := okLA_of (ro := ro) (md := md) _ _ hlx
    split at hl
    · rename_i l heq; exact orders_sound hcond h1 hn (by rw [heq]; exact hl)
    · split at hl
      · rename_i l heq
        rcases hl with hl | hl | hl
        · exact orders_sound hcond h3 hn (by rw [heq]; exact hl)
        · exact orders_sound hcond h2 hn hl
        · exact orders_sound hcond h1 hn hl
      · rcases hl with hl | hl
        · exact orders_sound hcond h2 hn hl
        · exact orders_sound hcond h1 hn hl
  · exact hl.elim

theorem reg_sound {n : Nat} {id : Nat} {ops : Array Oper} {Q : Xit → Env → Hp → Prop} {e : Env} {h : Hp} (hro : ro = none ∨ nodfr (regC P n ops) = true) (hn : e.n = n) (hl : LCode P md (regC P n ops) Q e h) : CodeL P ro (.region id ops false) (fun y e' h' => Q y e' h' ∧ e'.n = n) e h := by
  unfold regC at hl hro
  split at hl
  · rename_i x l hd
    rw [hd] at hro
    split at hl
    · rename_i la hla
      rw [hla] at hro
      have hro : ro = none := hro.elim (fun h => h) fun h => by simp [nodfr] at h
      subst hro
      intro σ M w a hR hA
      refine wpIn_region ?_
      unfold dferOf at hd
      split at hd <;> first | cases hd | skip
      rename_i o ho
      split at hd <;> first | cases hd | skip
      rename_i c hop hg hdst
      split at hd <;> first | cases hd | skip
      rename_i f hcal
      split at hd <;> cases hd
      rename_i hx hargs
      have hsz : ops.size - 1 < ops.size := (Array.getElem?_eq_some_iff.1 ho).1
      have hr : List.range ops.size = List.range (ops.size - 1) ++ [ops.size - 1] := by
        have : ops.size = (ops.size - 1) + 1 := by omega
        rw [this, List.range_succ]; simp
      rw [hr]
      refine LOps_sound2 _ _ _ (okL_of (md := md) _ _ hla) e h σ M w a hn hR hA ?_ ?_ hl
      · intro σ' M' w' h' e' a' hE hR' hA' hn' hK
        simp only [andThen, LCode] at hK
        split at hK <;> first | exact hK.elim | skip
        rename_i g first cap hv
        have h1 := copd_ok hx hA'
        rw [hv] at h1
        obtain ⟨f', c', e1, hfi, hca, _⟩ := h1.func_inv
        have h2 := copds_ok hargs hA'
        have h3 : (c.args.toList.map a'.eval).toArray = c.args.map a'.eval := by rw [← Array.toList_map, Array.toArray_toList]
        rw [h3] at h2
        simp only [wpOpsIn, ho]
        have hw : Region.wanted o (yielded ops a'.tmps) = true := by simp [Region.wanted, hg]
        rw [if_pos hw]
        have hrun : (execOp a'.eval o).run P w' = .ok (.defer { target := .fn (.func g) c', args := f' ++ c.args.map a'.eval }) w' := by
          simp [execOp, hop, resolve, hcal, Deferred.ofValue, e1]
        refine ⟨fun _ _ => trivial, ?_⟩
        show Oper.uponIn _ _ _ _ _ _ _ ((o.semAt none a'.eval).run P w')
        rw [Oper.semAt_none, hrun, Oper.uponIn_defer, hdst]
        refine ⟨σ', M', h', ⟨e'.n, e'.t, .call (.func g) cap (first ++ l.map (ev e')) :: e'.ds⟩, .normal, hE, hR', ⟨hA'.n, hA'.t, by simp [Act.put, hA'.dl], fun j y hj => ?_⟩, trivial, hK, hn'⟩
        cases j with
        | zero => simp at hj; subst hj; exact ⟨_, rfl, ⟨c', rfl, hca⟩, hfi.append h2⟩
        | succ j => exact hA'.d j y (by simpa using hj)
      · intro σ' M' w' h' e' a' v v' hE hR' hA' hn' hv hX; exact ⟨σ', M', h', e', .pan v, hE, hR', hA', ⟨v', rfl, hv⟩, hX, hn'⟩
    · exact hl.elim
  · split at hl
    · rename_i c hc
      unfold recvOf at hc
      split at hc <;> first | cases hc | skip
      split at hc <;> first | cases hc | skip
      split at hc <;> cases hc
      exact hl.elim
    · split at hl
      · rename_i la hla
        intro σ M w a hR hA
        refine wpIn_region (LOps_sound _ _ (okL_of (md := md) _ _ hla) e h σ M w a hn hR hA ?_ ?_ hl)
        · intro σ' M' w' h' e' a' hE hR' hA' hn' hK; exact ⟨σ', M', h', e', .normal, hE, hR', hA', trivial, hK, hn'⟩
        · intro σ' M' w' h' e' a' v v' hE hR' hA' hn' hv hX; exact ⟨σ', M', h', e', .pan v, hE, hR', hA', ⟨v', rfl, hv⟩, hX, hn'⟩
      · exact hl.elim

theorem rngf_sound {g : Operand} {ps : Array Tmp} {ca cb : Code} {x : AOpd} {a b : ACode} {Q : Xit → Env → Hp → Prop} {e : Env} {h : Hp} (hx : copd g = some x) (ha : compC P e.n ca = some a) (hb : compC P e.n cb = some b)
    (hna : nodfr a = true) (hnb : nodfr b = true) (hps : (ps.toList.all fun p => Nat.blt p e.n) = true) (hl : LCode P md (.rngf x ps.toList a b) Q e h) :
    CodeL P none (.rangeFunc g ps ca cb) (fun y e' h' => Q y e' h' ∧ e'.n = e.n) e h := by
  simp only [LCode] at hl
  split at hl <;> first | exact hl.elim | skip
  rename_i f first cap hv
  obtain ⟨⟨fn, hf, hbd, hnn⟩, hl⟩ := hl
  intro σ M w act hR hA
  have h1 := copd_ok hx hA
  rw [hv] at h1
  obtain ⟨f', c', e1, hfi, hca, _⟩ := h1.func_inv
  refine wpIn_rangeFunc fun fid _ => ?_
  -- the two new blocks
  obtain ⟨i, hi, hl⟩ := hR.fresh hl
  let w1 := w.alloc (.deferred (some []))
  have hR1 : R P (σ.set i ⟨w.heap.size, 0, 0, 0⟩) M (h.set i .dfr) w1 := hR.alloc hi rfl (by simp [BlkR, w1, ← World.alloc_eq])
  have hE1 : Ext σ M w (σ.set i ⟨w.heap.size, 0, 0, 0⟩) M w1 := Ext.alloc hi
  obtain ⟨j, hj, hl⟩ := hR1.fresh hl
  have hsz1 : w1.heap.size = w.heap.size + 1 := by simp [w1]
  let rec0 : Loop := { state := .ready, pending := none, fn := fid, tmps := act.tmps, params := ps, assign := ca, body := cb, defers := w.heap.size }
  let w2 := w1.alloc (.loop rec0)
  let σ2 := (σ.set i ⟨w.heap.size, 0, 0, 0⟩).set j ⟨w1.heap.size, 0, 0, 0⟩
  have hE2 : Ext (σ.set i ⟨w.heap.size, 0, 0, 0⟩) M w1 σ2 M w2 := Ext.alloc hj
  have hA2 : ActR σ2 M e act := hA.mono (hE1.trans hE2).s (hE1.trans hE2).m
  have hR2 : R P σ2 M ((h.set i .dfr).set j (loopB P e.n e.t ps.toList a b .ready none)) w2 := by
    refine hR1.alloc hj rfl ?_
    refine ⟨rec0, by simp [w2, ← World.alloc_eq], trivial, trivial, rfl, ⟨ha, hb, hna, hnb, hps⟩, hA.n, fun x => ?_⟩
    exact hA2.t x
  have hσj : σ2 j = some ⟨w1.heap.size, 0, 0, 0⟩ := Emb.set_same _ _ _
  have hσi : σ2 i = some ⟨w.heap.size, 0, 0, 0⟩ := hE2.s _ _ (Emb.set_same _ _ _)
  have hE : Ext σ M w σ2 M w2 := hE1.trans hE2
  refine ⟨w.heap.size + 1, [{ target := .collected w.heap.size, args := #[] }], w2, { target := .fn (.func f) c', args := f' ++ #[.func (.yield (w.heap.size + 1)) #[] #[]] }, w2, f,
    f' ++ #[.func (.yield (w.heap.size + 1)) #[] #[]] ++ c', w2, run_enterLoop_outer _ _ _ _ _, ?_, fun _ _ => trivial, ?_, fun h => by simp [fw, Fence.wide] at h, ?_⟩
  · have e2 : ∀ v, act.eval (.const v) = v := fun v => rfl
    simp [rangeCall, resolve, Deferred.ofValue, e1, e2]
  · have hb' : fn.body.isNone = false := by cases hh : fn.body <;> simp_all
    have hc : ∀ as, (callFunc f as).run P w2 = .ok (.enter f as) w2 := fun as => by
      have hp : (program).run P w2 = .ok P w2 := rfl
      simp only [callFunc, Sem.run_bind, hp, Result.andThen, hf, hnn, hb', Bool.false_eq_true, if_false, Sem.run_pure]
    simp [invoke, hc]
  · have hy : VRs σ2 M [.yld j] #[.func (.yield (w.heap.size + 1)) #[] #[]] := by
      have := VR.yld (σ := σ2) (M := M) j _ hσj
      rw [hsz1] at this
      exact VRs.cons this .nil
    have hargs : VRs σ2 M (first ++ [.yld j] ++ cap) (f' ++ #[.func (.yield (w.heap.size + 1)) #[] #[]] ++ c') := ((hfi.mono hE.s hE.m).append hy).append (hca.mono hE.s hE.m)
    refine (hl.run σ2 M w2 _ hR2 hargs).mono fun e' w' ⟨σ', M', h', hE', hR', hr⟩ => ?_
    have hA' : ActR σ' M' ⟨e.n, e.t, .mark i :: e.ds⟩ { act with defers := [{ target := .collected w.heap.size, args := #[] }] ++ act.defers } := by
      have h2 := hA2.mono hE'.s hE'.m
      refine ⟨h2.n, h2.t, by simp [h2.dl], fun k y hk => ?_⟩
      cases k with
      | zero => simp at hk; subst hk; exact ⟨_, rfl, _, hE'.s _ _ hσi, rfl⟩
      | succ k => exact h2.d k y (by simpa using hk)
    cases e' with
    | outgrown => exact hr.elim
    | panicked ch =>
      obtain ⟨v, v', rfl, hv, hq⟩ := hr
      exact ⟨σ', M', h', _, .pan v, hE.trans hE', hR', hA', ⟨v', rfl, hv⟩, hq, rfl⟩
    | returned v' =>
      obtain ⟨v, _, pend, n2, t2, ps2, K2, st, pd, hj', ⟨hst, hpd⟩, hq⟩ := hr
      rw [hpd] at hj'
      have hLj := hE'.s _ _ hσj
      obtain ⟨r, g1, g2, g3, g4, g5, g6, g7⟩ := hR'.blk j _ _ hj' hLj
      rw [hsz1] at g1
      have hlt := hR'.placed hj' hLj
      rw [hsz1] at hlt
      have hend : (Instr.endLoop (w.heap.size + 1)).run P w' = .ok r.pending { w' with heap := w'.heap.setIfInBounds (w.heap.size + 1) (.loop { r with state := .exhausted }) } := by
        have hgo : (getObj (w.heap.size + 1)).run P w' = .ok (.loop r) w' := by simp [getObj, Sem.run, g1]
        have hb : (r.state == .busy) = false := by
          cases hs : r.state <;> first | rfl | skip
          rw [hs] at g2
          cases st <;> simp only [LStR] at g2
          exact absurd rfl hst
        have hset : (setObj (w.heap.size + 1) (.loop { r with state := .exhausted })).run P w' = .ok () { w' with heap := w'.heap.setIfInBounds (w.heap.size + 1) (.loop { r with state := .exhausted }) } := by simp [setObj, Sem.run, g1]
        simp only [Instr.endLoop, Instr.getLoop, Sem.run_bind, hgo, Result.andThen, Sem.run_pure, hb, Bool.false_eq_true, if_false, hset]
      obtain ⟨k1, k2⟩ := hR'.setBlk (P := P) hj' hLj (ob := .loop { r with state := .exhausted }) (b' := .loop n2 t2 ps2 K2 .over pend)
        ⟨{ r with state := .exhausted }, by rw [hsz1]; exact set_at (L := ⟨w.heap.size + 1, 0, 0, 0⟩) hlt _, trivial, g3, g4, g5, g6, g7⟩
      rw [hsz1] at k1 k2
      have hEE := (hE.trans hE').trans k1
      obtain ⟨w4, hw4⟩ : ∃ w4, w4 = ({ w' with heap := w'.heap.setIfInBounds (w.heap.size + 1) (.loop { r with state := .exhausted }) } : World) := ⟨_, rfl⟩
      rw [← hw4] at hend
      have k2 : R P σ' M' (h'.set j (.loop n2 t2 ps2 K2 .over pend)) w4 := by rw [hw4]; exact k2
      have hEE : Ext σ M w σ' M' w4 := by rw [hw4]; exact hEE
      clear hw4
      refine ⟨r.pending, w4, hend, ?_⟩
      obtain ⟨h4, k3, hq⟩ : ∃ h4, R P σ' M' h4 w4 ∧ (match pend with
          | none => Q .normal ⟨e.n, e.t, .mark i :: e.ds⟩
          | some .ret => Q .ret ⟨e.n, e.t, .mark i :: e.ds⟩
          | some (.exit id) => Q (.exit id) ⟨e.n, e.t, .mark i :: e.ds⟩) h4 := by
        rcases hq with hq | hq
        · exact ⟨_, k2, hq⟩
        · exact ⟨_, k2.del j, hq⟩
      cases pend with
      | none =>
        cases hp : r.pending with
        | none => exact ⟨σ', M', h4, _, .normal, hEE, k3, hA', trivial, hq, rfl⟩
        | some c => rw [hp] at g3; exact g3.elim
      | some jm =>
        cases jm with
        | ret =>
          cases hp : r.pending with
          | none => rw [hp] at g3; exact g3.elim
          | some c =>
            rw [hp] at g3
            cases c <;> simp only [JmpR] at g3
            exact wpIn_ret ⟨σ', M', h4, _, .ret, hEE, k3, hA', trivial, hq, rfl⟩
        | exit id =>
          cases hp : r.pending with
          | none => rw [hp] at g3; exact g3.elim
          | some c =>
            rw [hp] at g3
            cases c <;> simp only [JmpR] at g3
            subst g3
            exact wpIn_exit ⟨σ', M', h4, _, .exit id, hEE, k3, hA', rfl, hq, rfl⟩

theorem LCode_sound {n : Nat} : ∀ (c : Code) (ac : ACode), compC P n c = some ac → (ro = none ∨ nodfr ac = true) → ∀ (Q : Xit → Env → Hp → Prop) (e : Env) (h : Hp), e.n = n → LCode P md ac Q e h → CodeL P ro c (fun y e' h' => Q y e' h' ∧ e'.n = n) e h := by
  intro c
  induction c with
  | skip => intro ac hc hro Q e h hn hl; cases hc; exact .skip ⟨hl, hn⟩
  | region id ops draw =>
    intro ac hc hro Q e h hn hl
    cases draw with
    | true =>
      simp only [compC] at hc
      split at hc <;> cases hc
      · rename_i hcond
        simp only [Bool.and_eq_true] at hcond
        exact draw_sound hcond hn hl
      · exact hl.elim
    | false => simp only [compC] at hc; cases hc; exact reg_sound hro hn hl
  | seq a b iha ihb =>
    intro ac hc hro Q e h hn hl
    simp only [compC] at hc
    split at hc <;> first | cases hc | skip
    rename_i x y hx hy
    refine .seq ((iha x hx (hro.imp_right fun h => by simp only [nodfr, Bool.and_eq_true] at h; exact h.1) _ e h hn hl).mono ?_)
    rintro z e' h' ⟨hz, hn'⟩
    cases z with
    | normal => exact ihb y hy (hro.imp_right fun h => by simp only [nodfr, Bool.and_eq_true] at h; exact h.2) Q e' h' hn' hz
    | exit i => exact ⟨hz, hn'⟩
    | ret => exact ⟨hz, hn'⟩
    | pan v => exact ⟨hz, hn'⟩
  | cond c a b iha ihb =>
    intro ac hc hro Q e h hn hl
    simp only [compC] at hc
    split at hc <;> first | cases hc | skip
    rename_i z x y hz hx hy
    simp only [LCode] at hl
    split at hl <;> first | exact hl.elim | skip
    rename_i t ht
    intro σ M w ac hR hA
    have h1 := copd_ok hz hA
    rw [ht] at h1
    refine wpIn_cond (t := t) h1.bool_inv ?_
    cases t with
    | true => exact iha x hx (hro.imp_right fun h => by simp only [nodfr, Bool.and_eq_true] at h; exact h.1) Q e h hn hl σ M w ac hR hA
    | false => exact ihb y hy (hro.imp_right fun h => by simp only [nodfr, Bool.and_eq_true] at h; exact h.2) Q e h hn hl σ M w ac hR hA
  | block id c ih =>
    intro ac hc hro Q e h hn hl
    obtain ⟨x, hx, rfl⟩ := Option.map_some_inv hc
    refine .block ((ih x hx (hro.imp_right fun h => h) _ e h hn hl).mono ?_)
    rintro z e' h' ⟨hz, hn'⟩
    cases z with
    | exit i =>
      simp only [inBlk] at hz ⊢
      split at hz
      · rename_i hi; rw [if_pos hi]; exact ⟨hz, hn'⟩
      · rename_i hi; rw [if_neg hi]; exact ⟨hz, hn'⟩
    | normal => exact ⟨hz, hn'⟩
    | ret => exact ⟨hz, hn'⟩
    | pan v => exact ⟨hz, hn'⟩
  | loop c ih =>
    intro ac hc hro Q e h hn hl
    obtain ⟨x, hx, rfl⟩ := Option.map_some_inv hc
    obtain ⟨I, ⟨m, hm⟩, hround⟩ := hl
    refine .loop (fun m e h => I m e h ∧ e.n = n) ⟨m, hm, hn⟩ fun m e h ⟨hI, hn⟩ => (ih x hx (hro.imp_right fun h => h) _ e h hn (hround m e h hI)).mono ?_
    rintro z e' h' ⟨hz, hn'⟩
    cases z with
    | normal => obtain ⟨q, hq, hI'⟩ := hz; exact ⟨q, hq, hI', hn'⟩
    | exit i => exact ⟨hz, hn'⟩
    | ret => exact ⟨hz, hn'⟩
    | pan v => exact ⟨hz, hn'⟩
  | exit id => intro ac hc hro Q e h hn hl; cases hc; exact .exit ⟨hl, hn⟩
  | ret => intro ac hc hro Q e h hn hl; cases hc; exact .ret ⟨hl, hn⟩
  | rangeFunc f ps a b iha ihb =>
    intro ac hc hro Q e h hn hl
    simp only [compC] at hc
    split at hc <;> first | cases hc | skip
    rename_i x y z hx hy hz
    split at hc <;> cases hc
    · rename_i hcond
      simp only [Bool.and_eq_true] at hcond
      obtain ⟨⟨hny, hnz⟩, hps⟩ := hcond
      have hro : ro = none := hro.elim (fun h => h) fun h => by simp [nodfr] at h
      subst hro
      subst hn
      exact rngf_sound hx hy hz hny hnz hps hl
    · exact hl.elim
  | scope c ih => intro ac hc hro Q e h hn hl; cases hc; exact hl.elim
  | label l => intro ac hc hro Q e h hn hl; cases hc; exact hl.elim
  | goto l => intro ac hc hro Q e h hn hl; cases hc; exact hl.elim
  | refuse w => intro ac hc hro Q e h hn hl; cases hc; exact hl.elim

/-- Yield's arguments, in the loop's parameters. -/
def putsP (e : Env) : List Nat → List AV → Env
  | p :: ps, v :: vs => putsP (e.put (some p) v) ps vs
  | _, _ => e

/-- Behind a round's body. -/
def roundB (i : Nat) (Q : AV → Hp → Prop) : Xit → Env → Hp → Prop
  | .normal, _, h => loopSet i .ready none (fun _ _ => True) (Q (.bool true)) h
  | .ret, _, h => loopSet i .done (some .ret) (fun _ _ => True) (Q (.bool false)) h
  | .exit id, _, h => loopSet i .done (some (.exit id)) (fun _ _ => True) (Q (.bool false)) h
  | .pan _, _, _ => False
/-- Behind a round's assignments. -/
def roundA (P : Program) (md : Bool) (i : Nat) (b : ACode) (Q : AV → Hp → Prop) : Xit → Env → Hp → Prop
  | .normal, e, h => ∃ n t ps K pend, h i = some (.loop n t ps K .ready pend) ∧ LCode P md b (roundB i Q) e (h.set i (.loop n t ps K .busy pend))
  | _, _, _ => False

theorem putsP_n : ∀ (ps : List Nat) (vs : List AV) (e : Env), (putsP e ps vs).n = e.n := by
  intro ps
  induction ps with
  | nil => intro vs e; simp [putsP]
  | cons p ps ih => intro vs e; cases vs with
    | nil => simp [putsP]
    | cons v vs => simp only [putsP, ih]; rfl

theorem putsP_ok {σ : Emb} {M : Mem} : ∀ (ps : List Nat) (vs : List AV) (vs' : List Value) (e : Env) (act : Act), ActR σ M e act → VRs σ M vs vs'.toArray → (ps.all fun p => Nat.blt p e.n) = true →
    ActR σ M (putsP e ps vs) { act with tmps := (ps.zip vs').foldl (fun tmps x => tmps.setIfInBounds x.1 x.2) act.tmps } := by
  intro ps
  induction ps with
  | nil => intro vs vs' e act hA _ _; simpa [putsP] using hA
  | cons p ps ih =>
    intro vs vs' e act hA hV hps
    have hlen := hV.1
    simp at hlen
    simp only [List.all_cons, Bool.and_eq_true] at hps
    cases vs with
    | nil => cases vs' with
      | nil => simpa [putsP] using hA
      | cons _ _ => simp at hlen
    | cons v vs =>
      cases vs' with
      | nil => simp at hlen
      | cons v' vs' =>
        obtain ⟨x, h1, h2⟩ := hV.2 0 v rfl
        simp at h1; subst h1
        have hV' : VRs σ M vs vs'.toArray := ⟨by simp at hlen ⊢; omega, fun j y hj => by
          obtain ⟨z, q1, q2⟩ := hV.2 (j + 1) y (by simpa using hj)
          exact ⟨z, by simpa using q1, q2⟩⟩
        have := ih vs vs' (e.put (some p) v) (act.put (some p) v') (hA.put (fun d hd => by cases hd; exact Nat.le_of_ble_eq_true hps.1) h2) hV' hps.2
        simpa [putsP, Act.put] using this

/-- A round: its assignments, its body. -/
theorem RoundL.of {i n : Nat} {t : Nat → AV} {ps : List Nat} {a b : ACode} {pend : Option Jmp} {args : List AV} {h : Hp} {Q : AV → Hp → Prop} (hi : h i = some (loopB P n t ps a b .ready pend)) (hlen : args.length = ps.length)
    (hl : LCode P md a (roundA P md i b Q) (putsP ⟨n, t, []⟩ ps args) h) : RoundL P i args h Q := by
  constructor
  intro σ M w args' L hR hargs hL
  obtain ⟨r, g1, g2, g3, g4, ⟨ga, gb, gna, gnb, gps⟩, g6, g7⟩ := hR.blk i _ L hi hL
  have hsz : args'.size = r.params.size := by rw [hargs.1, hlen, ← g4]; simp
  refine ⟨_, _, _, _, run_yield g1 hsz, roundIn_of_wpIn trivial ?_⟩
  have hA0 : ActR σ M ⟨n, t, []⟩ { tmps := r.tmps, defers := [] } := ⟨g6, g7, rfl, fun j x hj => by simp at hj⟩
  have hA1 := putsP_ok ps args args'.toList _ _ hA0 (by rw [Array.toArray_toList]; exact hargs) gps
  have hA1 : ActR σ M (putsP ⟨n, t, []⟩ ps args) { tmps := (r.params.zip args').foldl (fun tmps (x : Tmp × Value) => tmps.setIfInBounds x.1 x.2) r.tmps, defers := [] } := by
    rw [← Array.foldl_toList, Array.toList_zip, g4]; exact hA1
  have hnn : (putsP ⟨n, t, []⟩ ps args).n = n := putsP_n _ _ _
  refine wpIn_mono (LCode_sound (ro := some L.b) _ _ ga (.inr gna) _ _ _ hnn hl σ M w _ hR hA1) ?_
  rintro x a1 w1 ⟨σ1, M1, h1, e1, y, hE1, hR1, hAct1, hX1, hQ1, hn1⟩
  cases y with
  | exit _ => exact hQ1.elim
  | ret => exact hQ1.elim
  | pan _ => exact hQ1.elim
  | normal =>
    cases x <;> simp only [XitR] at hX1
    obtain ⟨n1, t1, ps1, K1, pend1, hi1, hl1⟩ := hQ1
    have hL1 := hE1.s _ _ hL
    obtain ⟨r1, k1, k2, k3, k4, k5, k6, k7⟩ := hR1.blk i _ L hi1 hL1
    have hlt1 := hR1.placed hi1 hL1
    have hst : r1.state = .ready := by cases hs : r1.state <;> rw [hs] at k2 <;> first | rfl | exact k2.elim
    have hbeg : (Instr.beginRound L.b).run P w1 = .ok () { w1 with heap := w1.heap.setIfInBounds L.b (.loop { r1 with state := .busy }) } := by
      have hgo : (getObj L.b).run P w1 = .ok (.loop r1) w1 := by simp [getObj, Sem.run, k1]
      have hset : (setObj L.b (.loop { r1 with state := .busy })).run P w1 = .ok () { w1 with heap := w1.heap.setIfInBounds L.b (.loop { r1 with state := .busy }) } := by simp [setObj, Sem.run, k1]
      simp only [Instr.beginRound, Instr.getLoop, Sem.run_bind, hgo, Result.andThen, Sem.run_pure, hset, hst]
    obtain ⟨m1, m2⟩ := hR1.setBlk (P := P) hi1 hL1 (ob := .loop { r1 with state := .busy }) (b' := .loop n1 t1 ps1 K1 .busy pend1) ⟨{ r1 with state := .busy }, set_at hlt1 _, trivial, k3, k4, k5, k6, k7⟩
    obtain ⟨w2, hw2⟩ : ∃ w2, w2 = ({ w1 with heap := w1.heap.setIfInBounds L.b (.loop { r1 with state := .busy }) } : World) := ⟨_, rfl⟩
    rw [← hw2] at hbeg m1 m2
    clear hw2
    refine ⟨w2, hbeg, wpIn_mono (LCode_sound (ro := some L.b) _ _ gb (.inr gnb) _ _ _ hn1 hl1 σ1 M1 w2 _ m2 hAct1) ?_⟩
    rintro x a3 w3 ⟨σ3, M3, h3, e3, y, hE3, hR3, hAct3, hX3, hQ3, hn3⟩
    have hL3 := hE3.s _ _ hL1
    have hE := (hE1.trans m1).trans hE3
    -- the round's end
    have fin : ∀ (jmp : Option Code) (st' : LSt) (pd' : Option Jmp), JmpR pd' jmp → LStR st' (if jmp.isNone then .ready else .done) → loopSet i st' pd' (fun _ _ => True) (Q (.bool jmp.isNone)) h3 →
        ∃ v w', (Instr.endRound L.b jmp).run P w3 = .ok v w' ∧ ∃ σ' M' h' v1 v', Ext σ M w σ' M' w' ∧ R P σ' M' h' w' ∧ Ending.returned v = .returned v' ∧ VR σ' M' v1 v' ∧ Q v1 h' := by
      rintro jmp st' pd' hj hs ⟨n3, t3, ps3, K3, st3, pd3, hi3, _, hq⟩
      obtain ⟨r3, q1, q2, q3, q4, q5, q6, q7⟩ := hR3.blk i _ L hi3 hL3
      have hlt3 := hR3.placed hi3 hL3
      let r4 : Loop := { r3 with state := if jmp.isNone then .ready else .done, pending := jmp }
      have hend : (Instr.endRound L.b jmp).run P w3 = .ok (.bool jmp.isNone) { w3 with heap := w3.heap.setIfInBounds L.b (.loop r4) } := by
        have hgo : (getObj L.b).run P w3 = .ok (.loop r3) w3 := by simp [getObj, Sem.run, q1]
        have hset : (setObj L.b (.loop r4)).run P w3 = .ok () { w3 with heap := w3.heap.setIfInBounds L.b (.loop r4) } := by simp [setObj, Sem.run, q1]
        simp only [Instr.endRound, Instr.getLoop, Sem.run_bind, hgo, Result.andThen, Sem.run_pure]
        have hset := hset; simp only [r4] at hset; rw [hset]
      obtain ⟨u1, u2⟩ := hR3.setBlk (P := P) hi3 hL3 (ob := .loop r4) (b' := .loop n3 t3 ps3 K3 st' pd') ⟨r4, set_at hlt3 _, hs, hj, q4, q5, q6, q7⟩
      rcases hq with hq | hq
      · exact ⟨_, _, hend, σ3, M3, _, _, _, hE.trans u1, u2, rfl, .bool _, hq⟩
      · exact ⟨_, _, hend, σ3, M3, _, _, _, hE.trans u1, u2.del i, rfl, .bool _, hq⟩
    cases y with
    | normal =>
      cases x <;> simp only [XitR] at hX3
      exact fin none .ready none trivial trivial hQ3
    | ret =>
      cases x <;> simp only [XitR] at hX3
      exact fin (some .ret) .done (some .ret) trivial trivial hQ3
    | exit id =>
      cases x <;> simp only [XitR] at hX3
      subst hX3
      exact fin (some (.exit id)) .done (some (.exit id)) rfl trivial hQ3
    | pan v => exact hQ3.elim
end
end Go.L
