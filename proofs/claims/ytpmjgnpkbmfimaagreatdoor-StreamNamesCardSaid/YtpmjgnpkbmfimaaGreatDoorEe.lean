/-
  The logic L computed, part e: code; functions.
-/
import Derived.Test.YtpmjgnpkbmfimaaGreatDoorEd
namespace Go.L

/-- An activation, as a tree. -/
structure ET where
  n : Nat
  t : Tr AV
  ds : List ADef
def ET.env (s : ET) : Env := ⟨s.n, fun x => (s.t.get x).getD (.tup []), s.ds⟩
def ET.put (s : ET) (d : Option Nat) (v : AV) : ET :=
  match d with
  | none => s
  | some d => ⟨s.n, s.t.set d (some v), s.ds⟩
theorem ET.env_put (s : ET) (d : Option Nat) (v : AV) : (s.put d v).env = s.env.put d v := by
  cases d with
  | none => rfl
  | some d =>
    simp only [ET.put, ET.env, Env.put, Env.mk.injEq, true_and, and_true]
    funext x
    rw [Tr.get_set]
    by_cases e : x = d
    · subst e; simp [Nat.beq_refl]
    · have hb : Nat.beq x d = false := by
        cases hh : Nat.beq x d with
        | false => rfl
        | true => exact absurd (Nat.eq_of_beq_eq_true hh) e
      rw [if_neg e, hb]; rfl

inductive CR where
  | ret (v : AV) (h : HT)
  | pan (v : AV) (h : HT)
inductive OR where
  | nor (e : ET) (h : HT)
  | pan (v : AV) (e : ET) (h : HT)
abbrev XR := Xit × ET × HT
/-- The ending of a deferred call. -/
structure DR where
  r : Res
  u : Um
  h : HT

def CR.is (P : Program) : CR → Res → Hp → Prop
  | .ret v h, .ret v', h' => v' = v ∧ h' = h.hp P
  | .pan v h, .pan v', h' => v' = v ∧ h' = h.hp P
  | _, _, _ => False

/-- What a frame below gives: calls; code in a round; deferred calls. -/
structure Run where
  call : FuncId → List AV → HT → Option (List CR)
  code : ACode → ET → HT → Option (List XR)
  dfr : FuncId → List AV → Um → HT → Option (List DR)

/-- Does an operation run? none: it can't be told. -/
def eWant (e : ET) : Option (Nat × Bool) → Option Bool
  | none => some true
  | some (t, b) => match (e.t.get t).getD (.tup []) with
    | .bool c => some (c == b)
    | .tup _ => some false
    | _ => none

/-- A call to which memory is lent, and whose result is frozen. -/
def xP (P : Program) (run : Run) (f : FuncId) (args : List AV) (h : HT) : Option (List CR) :=
  match fzM (fzV anyMark 1 (h.hp P) 64) args with
  | some args' => match run.call f args' HT.nil with
    | some [.ret v h1] => match fzV mark0 0 (h1.hp P) 64 v with
      | some v' => some [.ret v' h]
      | none => none
    | _ => none
  | none => none

/-- All numbers that are taken are below n. -/
def ltT {α : Type} : Tr α → Nat → Nat → Nat → Bool
  | .nil, _, _, _ => true
  | .node l v r, a, m, n => (match v with | none => true | some _ => Nat.blt a n) && (ltT l (a + m) (2 * m) n && ltT r (a + 2 * m) (2 * m) n)
/-- These K numbers are not taken. -/
def freshT {α : Type} (t : Tr α) (b : Nat) : Nat → Bool
  | 0 => true
  | k + 1 => (match t.get (b + k) with | none => true | some _ => false) && freshT t b k
/-- A block, its numbers moved up. -/
def renE (b : Nat) : Option (Option EB) → Option EB
  | some (some (.b x)) => match renB b (some x) with
    | some y => some (.b y)
    | none => none
  | _ => none
mutual
/-- The numbers of a value. -/
def idsA : AV → List Nat → List Nat
  | .ptr i _ _, l => i :: l
  | .slc i _ _ _, l => i :: l
  | .map i, l => i :: l
  | .yld i, l => i :: l
  | .iptr _ cs _, l => idsL cs l
  | .isl _ es, l => idsLL es l
  | .func _ a b, l => idsL a (idsL b l)
  | .ifc _ v, l => idsA v l
  | .agg cs, l => idsL cs l
  | .tup cs, l => idsL cs l
  | _, l => l
def idsL : List AV → List Nat → List Nat
  | [], l => l
  | v :: r, l => idsA v (idsL r l)
def idsLL : List (List AV) → List Nat → List Nat
  | [], l => l
  | c :: r, l => idsL c (idsLL r l)
end
def idsM : MapL → List Nat → List Nat
  | [], l => l
  | (k, v, _) :: r, l => idsA k (idsA v (idsM r l))
def idsB : Option (Option EB) → List Nat → List Nat
  | some (some (.b (.row _ es))), l => idsLL es l
  | some (some (.b (.map es _))), l => idsM es l
  | some (some (.b (.mapIter (some m) _ _ _))), l => m :: l
  | _, l => l
/-- The blocks to which these numbers lead. -/
def reach (t : Tr (Option EB)) : Nat → List Nat → Tr Unit → Tr Unit
  | 0, _, s => s
  | _, [], s => s
  | f + 1, i :: w, s => match s.get i with
    | some _ => reach t f w s
    | none => reach t f (idsB (t.get i) w) (s.set i (some ()))
/-- What is taken over of what lies at k. -/
def adE (b : Nat) (s : Tr Unit) (t1 : Tr (Option EB)) (k : Nat) : Option EB :=
  match s.get k with
  | some _ => renE b (t1.get k)
  | none => none
def adT (b : Nat) (s : Tr Unit) (t1 : Tr (Option EB)) : Nat → Tr (Option EB) → Tr (Option EB)
  | 0, t => t
  | k + 1, t => (adT b s t1 k t).set (b + k) (some (adE b s t1 k))
/-- Is all of it taken over? -/
def adAll (s : Tr Unit) (t1 : Tr (Option EB)) : Nat → Bool
  | 0 => true
  | k + 1 => (match s.get k with
    | some _ => (renE 0 (t1.get k)).isSome
    | none => true) && adAll s t1 k

/-- A tree, seen whole before it is used. -/
def forceT {α β : Type} (t : Tr α) (k : Tr α → β) : β :=
  match t with
  | .nil => k .nil
  | .node l v r => k (.node l v r)
theorem forceT_eq {α β : Type} (t : Tr α) (k : Tr α → β) : forceT t k = k t := by cases t <;> rfl

/-- A call to which memory is lent, and whose blocks are taken over. -/
def xAd (P : Program) (run : Run) (f : FuncId) (args : List AV) (h : HT) : Option (List CR) :=
  match fzM (fzV anyMark 1 (h.hp P) 64) args with
  | some args' => match run.call f args' HT.nil with
    | some [.ret v h1] => forceT (reach h1.t 100000 (idsA v []) .nil) fun s => match m0 v && (ltT h1.t 0 1 h1.n && (freshT h.t h.n h1.n && adAll s h1.t h1.n)) with
      | true => some [.ret (v.ren h.n) ⟨adT h.n s h1.t h1.n h.t, h.n + h1.n⟩]
      | false => none
    | _ => none
  | none => none

/-- A loop's record, set anew and dropped if it is over. -/
def xSet (i : Nat) (st' : LSt) (pend' : Option Jmp) (v : AV) (h : HT) : Option (List CR) :=
  match h.t.get i with
  | some (some (.l n t ps a b _ _)) => some [.ret v (h.set i (.l n t ps a b st' pend'))]
  | _ => none

def putsT (t : Tr AV) : List Nat → List AV → Tr AV
  | p :: ps, v :: vs => putsT (t.set p (some v)) ps vs
  | _, _ => t

/-- One call of yield. -/
def xRound (run : Run) (i : Nat) (args : List AV) (h : HT) : Option (List CR) :=
  match h.t.get i with
  | some (some (.l n t ps a b .ready _)) => match Nat.beq args.length ps.length with
    | true => match run.code a ⟨n, putsT t ps args, []⟩ h with
      | some outs => bindL outs fun x => match x with
        | (.normal, e1, h1) => match h1.t.get i with
          | some (some (.l n1 t1 ps1 a1 b1 .ready p1)) => match run.code b e1 (h1.set i (.l n1 t1 ps1 a1 b1 .busy p1)) with
            | some outs2 => bindL outs2 fun x => match x with
              | (.normal, _, h2) => xSet i .ready none (.bool true) h2
              | (.ret, _, h2) => xSet i .done (some .ret) (.bool false) h2
              | (.exit id, _, h2) => xSet i .done (some (.exit id)) (.bool false) h2
              | _ => none
            | none => none
          | _ => none
        | _ => none
      | none => none
    | false => none
  | _ => none

/-- The entries of a map that may come next. -/
def unseen (seen : List Nat) (es : MapL) : MapL := es.filter fun x => !(seen.any fun y => Nat.beq y x.2.2)

def xNext (i : Nat) (h : HT) : Option (List CR) :=
  match h.t.get i with
  | some (some (.b (.mapIter none _ _ _))) => some [.ret (.tup [.bool false]) (h.del i)]
  | some (some (.b (.mapIter (some m) since seen stepped))) => match h.t.get m with
    | some (some (.b (.map es c))) => match seen.isEmpty || (es.isEmpty || es.any fun x => Nat.blt x.2.2 stepped) with
      | true => some ((match (unseen seen es).all fun x => Nat.ble since x.2.2 with
          | true => [.ret (.tup [.bool false]) (h.del i)]
          | false => []) ++ (unseen seen es).map fun x => .ret (.tup [.bool true, x.1, x.2.1]) (h.set i (.b (.mapIter (some m) since (seen ++ [x.2.2]) c))))
      | false => none
    | _ => none
  | _ => none

/-- An operation that calls, or the like: what it gives. -/
def xOpO (P : Program) (hb : FuncId → Bool) (run : Run) (o : AOp) (e : ET) (h : HT) : Option (List CR) :=
  match o with
  | .call f args => run.call f (args.map (ev e.env)) h
  | .callv x args => match ev e.env x with
    | .func (.func f) first cap => match hb f with
      | true => run.call f (first ++ args.map (ev e.env) ++ cap) h
      | false => none
    | .yld i => xRound run i (args.map (ev e.env)) h
    | .func (.method nm) [.ifc t v] [] => match tlook t (invTab P nm) with
      | some f => run.call f (v :: args.map (ev e.env)) h
      | none => none
    | _ => none
  | .inv tab x args => match ev e.env x with
    | .ifc t v => match tlook t tab with
      | some f => run.call f (v :: args.map (ev e.env)) h
      | none => none
    | _ => none
  | .nxm x => match ev e.env x with
    | .ptr i 0 0 => xNext i h
    | _ => none
  | .pcall f args => xP P run f (args.map (ev e.env)) h
  | .pcallv x args => match ev e.env x with
    | .func (.func f) first cap => match hb f with
      | true => xP P run f (first ++ args.map (ev e.env) ++ cap) h
      | false => none
    | _ => none
  | .acall f args => xAd P run f (args.map (ev e.env)) h
  | .acallv x args => match ev e.env x with
    | .func (.func f) first cap => match hb f with
      | true => xAd P run f (first ++ args.map (ev e.env) ++ cap) h
      | false => none
    | _ => none
  | .nilm x => match ev e.env x with
    | .func (.func f) a b => some [.ret (.func (.func f) a b) h]
    | .func (.method nm) [.ifc t v] [] => match (tlook t (invTab P nm)).isSome with
      | true => some [.ret (.func (.method nm) [.ifc t v] []) h]
      | false => none
    | _ => none
  | .pan x => match ev e.env x with
    | .ifc t v => some [.pan (.ifc t v) h]
    | _ => none
  | o => match eE h.n o e.env (h.hp P) with
    | some (v, l) => some [.ret v (h.chg l)]
    | none => none

def runN (r : Option AV) (h : HT) : Option (List CR) :=
  match r with
  | some v => some [.ret v h]
  | none => none
def runE (r : EO) (h : HT) : Option (List CR) :=
  match r with
  | some (v, l) => some [.ret v (h.chg l)]
  | none => none
/-- An operation: what it gives. -/
def xOp (P : Program) (hb : FuncId → Bool) (run : Run) (o : AOp) (e : ET) (h : HT) : Option (List CR) :=
  match prepOp o with
  | .n f => runN (f e.env (h.hp P)) h
  | .e f => runE (f h.n e.env (h.hp P)) h
  | .o => xOpO P hb run o e h

def xOps (P : Program) (hb : FuncId → Bool) (run : Run) : List AOper → ET → HT → Option (List OR)
  | [], e, h => some [.nor e h]
  | ⟨d, o, g⟩ :: r, e, h => match eWant e g with
    | some true => match xOp P hb run o e h with
      | some outs => bindL outs fun x => match x with
        | .ret v h' => xOps P hb run r (e.put d v) h'
        | .pan v h' => some [.pan v e h']
      | none => none
    | some false => xOps P hb run r (e.put d (.tup [])) h
    | none => none

def eqD : ADef → ADef → Bool
  | .call f a b, .call f' a' b' => eqFn f f' && (eqL a a' && eqL b b')
  | .mark i, .mark j => Nat.beq i j
  | _, _ => false
def eqDs : List ADef → List ADef → Bool
  | [], [] => true
  | a :: l, b :: m => eqD a b && eqDs l m
  | _, _ => false
def eqE (a b : ET) : Bool := Nat.beq a.n b.n && (eqDs a.ds b.ds && eqT eqA a.t b.t)
def eqX : XR → XR → Bool
  | (.normal, e, h), (.normal, e', h') => eqE e e' && eqH h h'
  | _, _ => false
def eqC : CR → CR → Bool
  | .ret v h, .ret v' h' => eqA v v' && eqH h h'
  | _, _ => false

def iterX (f : ET → HT → Option (List XR)) : Nat → ET → HT → Option (List XR)
  | 0, _, _ => none
  | n + 1, e, h => match f e h with
    | some outs => bindL (dd eqX outs) fun x => match x with
      | (.normal, e', h') => iterX f n e' h'
      | x => some [x]
    | none => none

/-- Behind an order; a panic: none of what results are read of may have been written. -/
def altX (kp D : List Nat) (e : ET) : OR → Option (List XR)
  | .nor e h => some [(.normal, e, h)]
  | .pan v _ h => match D.all fun d => !(inL d kp) with
    | true => some [(.pan v, e, h)]
    | false => none
/-- Each of some orders. -/
def xAlts (f : List AOper → Option (List OR)) (g : OR → Option (List XR)) : List (List AOper) → Option (List XR)
  | [] => some []
  | [l] => match f l with
    | some outs => bindL outs g
    | none => none
  | l :: r => match f l with
    | some outs => match bindL outs g with
      | some a => match xAlts f g r with
        | some b => some (a ++ b)
        | none => none
      | none => none
    | none => none

/-- The function that was ranged over has returned. -/
def xOver (i j : Nat) (e : ET) (h : HT) : Option (List XR) :=
  match h.t.get j with
  | some (some (.l _ _ _ _ _ st pend)) => match st with
    | .busy => none
    | _ => match pend with
      | none => some [(.normal, ⟨e.n, e.t, .mark i :: e.ds⟩, h.del j)]
      | some .ret => some [(.ret, ⟨e.n, e.t, .mark i :: e.ds⟩, h.del j)]
      | some (.exit id) => some [(.exit id, ⟨e.n, e.t, .mark i :: e.ds⟩, h.del j)]
  | _ => none

def opsX (r : Option (List OR)) : Option (List XR) :=
  match r with
  | some outs => bindL outs fun x => match x with
    | .nor e h => some [(.normal, e, h)]
    | .pan v e h => some [(.pan v, e, h)]
  | none => none
def seqX (r : Option (List XR)) (k : ET → HT → Option (List XR)) : Option (List XR) :=
  match r with
  | some outs => bindL outs fun x => match x with
    | (.normal, e', h') => k e' h'
    | x => some [x]
  | none => none
def condX (v : AV) (a b : ET → HT → Option (List XR)) (e : ET) (h : HT) : Option (List XR) :=
  match v with
  | .bool true => a e h
  | .bool false => b e h
  | _ => none
def blockX (id : Nat) (r : Option (List XR)) : Option (List XR) :=
  match r with
  | some outs => bindL outs fun x => match x with
    | (.exit j, e', h') => match Nat.beq j id with
      | true => some [(.normal, e', h')]
      | false => some [(.exit j, e', h')]
    | x => some [x]
  | none => none
def orX (r : Option (List XR)) (k : ET → HT → Option (List XR)) (e : ET) (h : HT) : Option (List XR) :=
  match r with
  | some r => some r
  | none => k e h
def altsX (r : Option (List XR)) : Option (List XR) :=
  match r with
  | some m => some (dd eqX m)
  | none => none
def dfrX (x : AOpd) (args : List AOpd) (e : ET) (h : HT) : Option (List XR) :=
  match ev e.env x with
  | .func (.func f) first cap => some [(.normal, ⟨e.n, e.t, .call (.func f) cap (first ++ args.map (ev e.env)) :: e.ds⟩, h)]
  | _ => none
def rngX (P : Program) (hb : FuncId → Bool) (run : Run) (g : AOpd) (ps : List Nat) (a b : ACode) (e : ET) (h : HT) : Option (List XR) :=
  match ev e.env g with
  | .func (.func f) first cap => match hb f && (!((h.hp P).u h.n) && !(((h.set h.n (.b .dfr)).hp P).u (h.n + 1))) with
    | true => match run.call f (first ++ [.yld (h.n + 1)] ++ cap) ((h.set h.n (.b .dfr)).set (h.n + 1) (.l e.n e.t ps a b .ready none)) with
      | some outs => bindL outs fun x => match x with
        | .ret _ h' => xOver h.n (h.n + 1) e h'
        | .pan v h' => some [(.pan v, ⟨e.n, e.t, .mark h.n :: e.ds⟩, h')]
      | none => none
    | false => none
  | _ => none

def xC (P : Program) (hb : FuncId → Bool) (run : Run) (fuel : Nat) (kp : List Nat) : ACode → ET → HT → Option (List XR)
  | .skip, e, h => some [(.normal, e, h)]
  | .ops l, e, h => opsX (xOps P hb run l e h)
  | .seq a b, e, h => seqX (xC P hb run fuel kp a e h) (xC P hb run fuel kp b)
  | .cond c a b, e, h => condX (ev e.env c) (xC P hb run fuel kp a) (xC P hb run fuel kp b) e h
  | .block id c, e, h => blockX id (xC P hb run fuel kp c e h)
  | .loop c, e, h => iterX (xC P hb run fuel kp c) fuel e h
  | .exit id, e, h => some [(.exit id, e, h)]
  | .ret, e, h => some [(.ret, e, h)]
  | .orr a b, e, h => orX (xC P hb run fuel kp a e h) (xC P hb run fuel kp b) e h
  | .alts D ls, e, h => altsX (xAlts (fun l => xOps P hb run l e h) (altX kp D e) ls)
  | .dfr x args, e, h => dfrX x args e h
  | .rngf g ps a b, e, h => rngX P hb run g ps a b e h
  | _, _, _ => none

def xRes (e : Env) (h : Hp) : List ARes → Option (List AV)
  | [] => some []
  | .tmp t :: r => match xRes e h r with
    | some l => some (e.t t :: l)
    | none => none
  | .cell1 t :: r => match eN (.ld1 (.t t)) e h, xRes e h r with
    | some v, some l => some (v :: l)
    | _, _ => none
  | .cella t n :: r => match eN (.lda n (.t t)) e h, xRes e h r with
    | some v, some l => some (v :: l)
    | _, _ => none

def argsT : List AV → Nat → Tr AV → Tr AV
  | [], _, t => t
  | a :: r, i, t => argsT r (i + 1) (t.set i (some a))

/-- A function's code: its temporaries, its code, its results. -/
structure FC where
  n : Nat
  c : ACode
  r : List ARes

/-- The temporaries that results are read of. -/
def resT : List ARes → List Nat
  | [] => []
  | .tmp t :: r => t :: resT r
  | .cell1 t :: r => t :: resT r
  | .cella t _ :: r => t :: resT r

/-- A function goes out. -/
def xLeave (P : Program) (hb : FuncId → Bool) (run : Run) (rs : List ARes) : List ADef → Um → ET → HT → Option (List CR)
  | [], .ret, e, h => match xRes e.env (h.hp P) rs with
    | some l => some [.ret (oneV l) h]
    | none => none
  | [], .pan v, _, h => some [.pan v h]
  | [], .rcv _, _, _ => none
  | .mark i :: ds, u, e, h => match h.t.get i with
    | some (some (.b .dfr)) => xLeave P hb run rs ds u e (h.del i)
    | _ => none
  | .call (.func f) cap args :: ds, u, e, h => match hb f with
    | true => match run.dfr f (args ++ cap) u h with
      | some outs => bindL outs fun x => match x.r with
        | .ret _ => xLeave P hb run rs ds (settleU x.u) e x.h
        | .pan _ => none
      | none => none
    | false => none
  | _ :: _, _, _, _ => none

/-- Blocks that nothing leads to any more: iterators. -/
def sweep : Nat → Nat → HT → HT
  | 0, _, h => h
  | f + 1, i, h => match h.t.get i with
    | some (some (.b (.mapIter ..))) => sweep f (i + 1) (h.del i)
    | some (some (.b (.strIter ..))) => sweep f (i + 1) (h.del i)
    | some (some (.l ..)) => sweep f (i + 1) (h.del i)
    | _ => sweep f (i + 1) h
def sweepC (n0 : Nat) : CR → CR
  | .ret v h => .ret v (sweep (h.n - n0) n0 h)
  | x => x
def tidy (n0 : Nat) : List CR → List CR
  | [x] => [x]
  | l => dd eqC (l.map (sweepC n0))

def xFun (P : Program) (hb : FuncId → Bool) (codes : Tr FC) (loops : Nat) (run : Run) (f : FuncId) (args : List AV) (h : HT) : Option (List CR) :=
  match codes.get f with
  | none => none
  | some c => match Nat.ble args.length c.n with
    | false => none
    | true => match xC P hb run loops (resT c.r) c.c ⟨c.n, argsT args 0 .nil, []⟩ h with
      | some outs => match bindL outs fun x => match x with
          | (.normal, e', h') => xLeave P hb run c.r e'.ds .ret e' h'
          | (.ret, e', h') => xLeave P hb run c.r e'.ds .ret e' h'
          | (.pan v, e', h') => xLeave P hb run c.r e'.ds (.pan v) e' h'
          | _ => none with
        | some l => some (tidy h.n l)
        | none => none
      | none => none

abbrev XS := Xit × ET × HT × Um
def putsET (e : ET) : List (Option Nat × AOpd) → ET
  | [] => e
  | (d, x) :: r => putsET (e.put d (ev e.env x)) r
def xCS (P : Program) (hb : FuncId → Bool) (run : Run) (fuel : Nat) : ACode → ET → HT → Um → Option (List XS)
  | .seq a b, e, h, u => match xCS P hb run fuel a e h u with
    | some outs => bindL outs fun x => match x with
      | (.normal, e', h', u') => xCS P hb run fuel b e' h' u'
      | x => some [x]
    | none => none
  | .cond c a b, e, h, u => match ev e.env c with
    | .bool true => xCS P hb run fuel a e h u
    | .bool false => xCS P hb run fuel b e h u
    | _ => none
  | .recv d ms, e, h, u => match u with
    | .pan v => some [(.normal, putsET (e.put d v) ms, h, .rcv v)]
    | u => some [(.normal, putsET (e.put d .nili) ms, h, u)]
  | c, e, h, u => match xC P hb run fuel [] c e h with
    | some outs => some (outs.map fun x => (x.1, x.2.1, x.2.2, u))
    | none => none

def xDfr (P : Program) (hb : FuncId → Bool) (codes : Tr FC) (loops : Nat) (run : Run) (f : FuncId) (args : List AV) (u : Um) (h : HT) : Option (List DR) :=
  match codes.get f with
  | none => none
  | some c => match Nat.ble args.length c.n with
    | false => none
    | true => match xCS P hb run loops c.c ⟨c.n, argsT args 0 .nil, []⟩ h u with
      | some outs => bindL outs fun x => match x with
        | (y, e', h', u') => match e'.ds with
          | [] => match y with
            | .exit _ => none
            | .pan v => some [⟨.pan v, u', h'⟩]
            | _ => match xRes e'.env (h'.hp P) c.r with
              | some l => some [⟨.ret (oneV l), u', h'⟩]
              | none => none
          | _ => none
      | none => none

/-- The calls, at most so deep. -/
def xM (P : Program) (hb : FuncId → Bool) (codes : Tr FC) (loops : Nat) : Nat → Run
  | 0 => ⟨fun _ _ _ => none, fun _ _ _ => none, fun _ _ _ _ => none⟩
  | d + 1 => ⟨xFun P hb codes loops (xM P hb codes loops d), fun c e h => xC P hb (xM P hb codes loops d) loops [] c e h, xDfr P hb codes loops (xM P hb codes loops d)⟩
end Go.L
