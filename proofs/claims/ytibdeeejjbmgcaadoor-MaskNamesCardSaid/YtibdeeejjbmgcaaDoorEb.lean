/-
  The logic L computed, part b: operations that change memory; code; functions.
-/
import Derived.Test.YtibdeeejjbmgcaaDoorEa
namespace Go.L

/-! ## Memory -/

/-- A heap, as a tree. -/
structure HT where
  t : Tr Blk
  n : Nat
def HT.hp (s : HT) : Hp := ⟨fun i => s.t.get i, s.n⟩
def HT.set (s : HT) (i : Nat) (b : Blk) : HT := ⟨s.t.set i (some b), max s.n (i + 1)⟩
def HT.del (s : HT) (i : Nat) : HT := ⟨s.t.set i none, s.n⟩
def HT.nil : HT := ⟨.nil, 0⟩
theorem HT.hp_set (s : HT) (i : Nat) (b : Blk) : (s.set i b).hp = s.hp.set i b := by
  refine Hp.ext (fun j => ?_) rfl
  show (s.t.set i (some b)).get j = if j = i then some b else s.t.get j
  exact Tr.get_set _ _ _ _
theorem HT.hp_del (s : HT) (i : Nat) : (s.del i).hp = s.hp.del i := by
  refine Hp.ext (fun j => ?_) rfl
  show (s.t.set i none).get j = if j = i then none else s.t.get j
  exact Tr.get_set _ _ _ _
theorem HT.hp_nil : HT.nil.hp = Hp.nil := rfl

inductive Chg where
  | set (i : Nat) (b : Blk)
  | del (i : Nat)
def Hp.chg (h : Hp) : List Chg → Hp
  | [] => h
  | .set i b :: r => Hp.chg (h.set i b) r
  | .del i :: r => Hp.chg (h.del i) r
def HT.chg (h : HT) : List Chg → HT
  | [] => h
  | .set i b :: r => HT.chg (h.set i b) r
  | .del i :: r => HT.chg (h.del i) r
theorem HT.hp_chg : ∀ (l : List Chg) (s : HT), (s.chg l).hp = s.hp.chg l
  | [], _ => rfl
  | .set i b :: r, s => by rw [HT.chg, Hp.chg, HT.hp_chg r, HT.hp_set]
  | .del i :: r, s => by rw [HT.chg, Hp.chg, HT.hp_chg r, HT.hp_del]

def eSrc (h : Hp) : AV → Option (List (List AV))
  | .isl es => some es
  | .slc i k n _ => match h i with
    | some (.row _ es) => cond (Nat.ble (k + n) es.length) (some ((es.drop k).take n)) none
    | _ => none
  | .nils => some []
  | .emp => some []
  | .str s => some (s.map fun b => [.int .u8 b.toNat])
  | _ => none
theorem eSrc_ok {h : Hp} {x : AV} {es : List (List AV)} (hs : eSrc h x = some es) : srcEls h x es := by
  unfold eSrc at hs
  split at hs
  · cases hs; rfl
  · split at hs <;> first | cases hs | skip
    rename_i T es0 hb
    cases hc : Nat.ble _ _ <;> rw [hc] at hs <;> cases hs
    exact ⟨T, es0, hb, Nat.le_of_ble_eq_true hc, rfl⟩
  · cases hs; rfl
  · cases hs; rfl
  · cases hs; rfl
  · cases hs

abbrev EO := Option (AV × List Chg)
def guardE (c : Bool) (v : EO) : EO := match c with | true => v | false => none
theorem guardE_some {c : Bool} {o : EO} {v : AV × List Chg} (h : guardE c o = some v) : c = true ∧ o = some v := by
  cases c
  · cases h
  · exact ⟨rfl, h⟩

def capOk (n by_ : Nat) : Bool := Nat.ble (n * by_) 140737488355328 && Nat.ble n 140737488355328
theorem capOk_ok {n b : Nat} (h : capOk n b = true) : n * b ≤ capMax ∧ n ≤ capMax := by
  simp only [capOk, Bool.and_eq_true] at h
  exact ⟨Nat.le_of_ble_eq_true h.1, Nat.le_of_ble_eq_true h.2⟩

def eApp (T : TypeId) (z by_ : Nat) (s : AV) (es' : List (List AV)) (h : Hp) : EO :=
  guardE (es'.all fun cs => Nat.beq cs.length z)
  (match s with
  | .nils => match es' with
    | [] => some (.nils, [])
    | _ => guardE (capOk es'.length by_) (some (.slc h.n 0 es'.length none, [.set h.n (.row T es')]))
  | .emp => match es' with
    | [] => some (.emp, [])
    | _ => guardE (capOk es'.length by_) (some (.slc h.n 0 es'.length none, [.set h.n (.row T es')]))
  | .slc i k n none => match h i with
    | some (.row T' es) => guardE (Nat.beq T' T && (Nat.ble (k + n) es.length && es'.all flat))
      (match es' with
      | [] => some (.slc i k n none, [])
      | _ => guardE (capOk (n + es'.length) by_) (some (.slc h.n 0 (n + es'.length) none, [.del i, .set h.n (.row T ((es.drop k).take n ++ es'))])))
    | _ => none
  | .slc i k n (some c) => match h i with
    | some (.row T' es) => guardE (Nat.beq T' T && (Nat.ble (k + n) es.length && es'.all flat))
      (match Nat.ble (n + es'.length) c with
      | true => guardE (Nat.ble (k + n + es'.length) es.length) (some (.slc i k (n + es'.length) (some c), [.set i (.row T (es.take (k + n) ++ es' ++ es.drop (k + n + es'.length)))]))
      | false => guardE (capOk (n + es'.length) by_) (some (.slc h.n 0 (n + es'.length) none, [.set h.n (.row T ((es.drop k).take n ++ es'))])))
    | _ => none
  | _ => none)

theorem eApp_ok {T : TypeId} {z b : Nat} {s : AV} {es' : List (List AV)} {h : Hp} {v : AV} {l : List Chg} {next : AV → Hp → Prop} (hv : eApp T z b s es' h = some (v, l)) (hn : next v (h.chg l)) :
    LAppE T z b s es' h next := by
  unfold eApp at hv
  have hg := guardE_some hv
  clear hv
  obtain ⟨h1, hv⟩ := hg
  refine ⟨fun cs hcs => Nat.eq_of_beq_eq_true (List.all_eq_true.1 h1 cs hcs), ?_⟩
  have fl : es'.all flat = true → ∀ cs ∈ es', flat cs = true := fun h cs hcs => List.all_eq_true.1 h cs hcs
  cases s <;> simp only at hv <;> first | (cases hv; done) | skip
  case nils =>
    cases es' with
    | nil => cases hv; exact .inl ⟨rfl, hn⟩
    | cons a r =>
      obtain ⟨h2, hv⟩ := guardE_some hv; cases hv
      exact .inr ⟨by simp, (capOk_ok h2).1, (capOk_ok h2).2, fun j hj => by rw [hj.1]; exact hn⟩
  case emp =>
    cases es' with
    | nil => cases hv; exact .inl ⟨rfl, hn⟩
    | cons a r =>
      obtain ⟨h2, hv⟩ := guardE_some hv; cases hv
      exact .inr ⟨by simp, (capOk_ok h2).1, (capOk_ok h2).2, fun j hj => by rw [hj.1]; exact hn⟩
  case slc i k n c =>
    cases c with
    | none =>
      simp only at hv
      split at hv <;> first | cases hv | skip
      rename_i T' es hb
      obtain ⟨h2, hv⟩ := guardE_some hv
      simp only [Bool.and_eq_true] at h2
      obtain rfl := Nat.eq_of_beq_eq_true h2.1
      refine ⟨es, hb, Nat.le_of_ble_eq_true h2.2.1, fl h2.2.2, ?_⟩
      cases es' with
      | nil => cases hv; exact .inl ⟨rfl, hn⟩
      | cons a r =>
        obtain ⟨h3, hv⟩ := guardE_some hv; cases hv
        exact .inr ⟨by simp, (capOk_ok h3).1, (capOk_ok h3).2, fun j hj => by rw [hj.1]; exact hn⟩
    | some c =>
      simp only at hv
      split at hv <;> first | cases hv | skip
      rename_i T' es hb
      obtain ⟨h2, hv⟩ := guardE_some hv
      simp only [Bool.and_eq_true] at h2
      obtain rfl := Nat.eq_of_beq_eq_true h2.1
      refine ⟨es, hb, Nat.le_of_ble_eq_true h2.2.1, fl h2.2.2, ?_⟩
      split at hv
      · rename_i hc
        obtain ⟨h3, hv⟩ := guardE_some hv; cases hv
        exact .inl ⟨Nat.le_of_ble_eq_true hc, Nat.le_of_ble_eq_true h3, hn⟩
      · rename_i hc
        obtain ⟨h3, hv⟩ := guardE_some hv; cases hv
        refine .inr ⟨?_, (capOk_ok h3).1, (capOk_ok h3).2, fun j hj => by rw [hj.1]; exact hn⟩
        rcases Nat.lt_or_ge c (n + es'.length) with hh | hh
        · exact hh
        · rw [Nat.ble_eq_true_of_le hh] at hc; cases hc

/-- An operation that changes memory. -/
def eE (o : AOp) (e : Env) (h : Hp) : EO :=
  match o with
  | .st n x v => match ev e x with
    | .ptr b k q => match h b with
      | some (.row T es) => match es[k]? with
        | some cs => guardE (notTup (ev e v) && (Nat.beq (ev e v).cells.length n && (flat (ev e v).cells && Nat.ble (q + n) cs.length)))
            (some (.tup [], [.set b (.row T (es.set k (cs.take q ++ (ev e v).cells ++ cs.drop (q + n))))]))
        | none => none
      | _ => none
    | _ => none
  | .box T z x => guardE (notTup (ev e x) && Nat.beq (ev e x).cells.length z) (some (.ptr h.n 0 0, [.set h.n (.row T [(ev e x).cells])]))
  | .bslice T z n zero parts => match lay e (rep zero n) parts with
    | some cs => some (.slc h.n 0 n (some n), [.set h.n (.row T (chunk z n cs))])
    | none => none
  | .app T z by_ s x => match eSrc h (ev e x) with
    | some es' => eApp T z by_ (ev e s) es' h
    | none => none
  | .bslice0 T => some (.slc h.n 0 0 (some 0), [.set h.n (.row T [])])
  | .clr T zero x => match ev e x with
    | .slc i k n _ => match h i with
      | some (.row T' es) => guardE (Nat.beq T' T && (Nat.ble (k + n) es.length && flat zero)) (some (.tup [], [.set i (.row T (es.take k ++ List.replicate n zero ++ es.drop (k + n)))]))
      | _ => none
    | .nils => some (.tup [], [])
    | .emp => some (.tup [], [])
    | .isl es => guardE es.isEmpty (some (.tup [], []))
    | _ => none
  | .mkslice T _ by_ zero len cap => match nat? (ev e len), nat? (ev e cap) with
    | some l, some c => guardE (Nat.ble l c && capOk c by_) (some (.slc h.n 0 l (some c), [.set h.n (.row T (List.replicate c zero))]))
    | _, _ => none
  | .appz T z by_ zero s n => match nat? (ev e n) with
    | some k => guardE (capOk k by_) (eApp T z by_ (ev e s) (List.replicate k zero) h)
    | none => none
  | .mkmap => some (.map h.n, [.set h.n (.map [] 0)])
  | .mupd m x k v => match ev e x with
    | .map i => match h i with
      | some (.map es c) => guardE (keyM m (ev e k) && eKeys (ev e k) es)
          (match mget (ev e k) es with
          | some _ => some (.tup [], [.set i (.map (mmod (ev e k) (ev e v) es) c)])
          | none => some (.tup [], [.set i (.map (es ++ [(ev e k, ev e v, c)]) (c + 1))]))
      | _ => none
    | _ => none
  | o => match eN o e h with
    | some v => guardE (isN o) (some (v, []))
    | none => none

theorem eE_ok {P : Program} {o : AOp} {e : Env} {h : Hp} {v : AV} {l : List Chg} {next : AV → Hp → Prop} {X : AV → Hp → Prop} (hv : eE o e h = some (v, l)) (hn : next v (h.chg l)) : LOp P o e h next X := by
  have rd : ∀ {o : AOp}, (match eN o e h with | some v => guardE (isN o) (some (v, ([] : List Chg))) | none => none) = some (v, l) → LN o e h fun v => next v h := by
    intro o hv
    split at hv <;> first | cases hv | skip
    rename_i v' hv'
    obtain ⟨_, hv⟩ := guardE_some hv; cases hv
    exact eN_ok hv' hn
  cases o <;> simp only [eE] at hv <;> first | (have k := rd hv; exact k) | skip
  case mov x => exact rd (o := .mov x) hv
  case mkifc t x => exact rd (o := .mkifc t x) hv
  case mkfn f c => exact rd (o := .mkfn f c) hv
  case call f a => exact (rd (o := .call f a) hv).elim
  case callv f a => exact (rd (o := .callv f a) hv).elim
  case pan x => exact (rd (o := .pan x) hv).elim
  case bad => exact (rd (o := .bad) hv).elim
  case st n x v' =>
    split at hv <;> first | cases hv | skip
    rename_i b k q h1
    split at hv <;> first | cases hv | skip
    rename_i T es hb
    split at hv <;> first | cases hv | skip
    rename_i cs hcs
    obtain ⟨h2, hv⟩ := guardE_some hv; cases hv
    simp only [Bool.and_eq_true] at h2
    simp only [LOp, h1]
    exact ⟨T, es, cs, hb, hcs, h2.1, Nat.eq_of_beq_eq_true h2.2.1, h2.2.2.1, Nat.le_of_ble_eq_true h2.2.2.2, hn⟩
  case box T z x =>
    obtain ⟨h2, hv⟩ := guardE_some hv; cases hv
    simp only [Bool.and_eq_true] at h2
    exact ⟨h2.1, Nat.eq_of_beq_eq_true h2.2, fun i hi => by rw [hi.1]; exact hn⟩
  case bslice T z n zero parts =>
    split at hv <;> cases hv
    rename_i cs hcs
    exact ⟨cs, hcs, fun i hi => by rw [hi.1]; exact hn⟩
  case app T z by_ s x =>
    split at hv <;> first | cases hv | skip
    rename_i es' hes
    exact ⟨es', eSrc_ok hes, eApp_ok hv hn⟩
  case bslice0 T => cases hv; exact .inr fun i hi => by rw [hi.1]; exact hn
  case clr T zero x =>
    split at hv <;> first | cases hv | skip
    · rename_i i k n c h1
      split at hv <;> first | cases hv | skip
      rename_i T' es hb
      obtain ⟨h2, hv⟩ := guardE_some hv; cases hv
      simp only [Bool.and_eq_true] at h2
      obtain rfl := Nat.eq_of_beq_eq_true h2.1
      simp only [LOp, h1]
      exact ⟨es, hb, Nat.le_of_ble_eq_true h2.2.1, h2.2.2, hn⟩
    · rename_i h1; simp only [LOp, h1]; exact hn
    · rename_i h1; simp only [LOp, h1]; exact hn
    · rename_i es h1
      obtain ⟨h2, hv⟩ := guardE_some hv; cases hv
      simp only [LOp, h1]; exact ⟨by simpa using h2, hn⟩
  case mkslice T z by_ zero len cap =>
    split at hv <;> first | cases hv | skip
    rename_i l' c' h1 h2
    obtain ⟨h3, hv⟩ := guardE_some hv; cases hv
    obtain ⟨K1, h1⟩ := nat?_ok h1
    obtain ⟨K2, h2⟩ := nat?_ok h2
    simp only [Bool.and_eq_true] at h3
    simp only [LOp, h1, h2]
    exact ⟨l', c', rfl, rfl, Nat.le_of_ble_eq_true h3.1, (capOk_ok h3.2).1, (capOk_ok h3.2).2, fun i hi => by rw [hi.1]; exact hn⟩
  case appz T z by_ zero s n =>
    split at hv <;> first | cases hv | skip
    rename_i k h1
    obtain ⟨h3, hv⟩ := guardE_some hv
    obtain ⟨K1, h1⟩ := nat?_ok h1
    simp only [LOp, h1]
    exact ⟨k, rfl, (capOk_ok h3).2, (capOk_ok h3).1, eApp_ok hv hn⟩
  case mkmap => cases hv; exact fun i hi => by rw [hi.1]; exact hn
  case mupd m x k v' =>
    split at hv <;> first | cases hv | skip
    rename_i i h1
    split at hv <;> first | cases hv | skip
    rename_i es c hb
    obtain ⟨h2, hv⟩ := guardE_some hv
    simp only [Bool.and_eq_true] at h2
    simp only [LOp, h1]
    refine ⟨es, c, hb, h2.1, eKeys_ok h2.2, fun r hr => ?_⟩
    rw [hr]
    split at hv <;> cases hv <;> rename_i h3 <;> rw [h3] <;> exact hn

/-! ## Code -/

/-- An activation, as a tree. -/
structure ET where
  n : Nat
  t : Tr AV
  ds : List ADef
def ET.env (s : ET) : Env := ⟨s.n, fun x => (s.t.get x).getD (.tup []), s.ds⟩
def ET.put (s : ET) (d : Option Nat) (v : AV) : ET :=
  match d with
  | none => s
  | some d => ⟨s.n, s.t.set d (some v), s.ds⟩
theorem ET.env_put (s : ET) (d : Option Nat) (v : AV) : (s.put d v).env = s.env.put d v := by
  cases d with
  | none => rfl
  | some d =>
    simp only [ET.put, ET.env, Env.put, Env.mk.injEq, true_and, and_true]
    funext x
    rw [Tr.get_set]
    by_cases e : x = d
    · subst e; simp [Nat.beq_refl]
    · have hb : Nat.beq x d = false := by
        cases hh : Nat.beq x d with
        | false => rfl
        | true => exact absurd (Nat.eq_of_beq_eq_true hh) e
      rw [if_neg e, hb]; rfl

inductive CR where
  | ret (v : AV) (h : HT)
  | pan (v : AV) (h : HT)
inductive OR where
  | nor (e : ET) (h : HT)
  | pan (v : AV) (e : ET) (h : HT)

def CR.is : CR → Res → Hp → Prop
  | .ret v h, .ret v', h' => v' = v ∧ h' = h.hp
  | .pan v h, .pan v', h' => v' = v ∧ h' = h.hp
  | _, _, _ => False

/-- Does an operation run? none: it can't be told. -/
def eWant (e : ET) : Option (Nat × Bool) → Option Bool
  | none => some true
  | some (t, b) => match (e.t.get t).getD (.tup []) with
    | .bool c => some (c == b)
    | .tup _ => some false
    | _ => none

abbrev Caller := FuncId → List AV → HT → Option CR

/-- An operation: what it gives. -/
def xOp (hb : FuncId → Bool) (call : Caller) (o : AOp) (e : ET) (h : HT) : Option CR :=
  match o with
  | .call f args => call f (args.map (ev e.env)) h
  | .callv x args => match ev e.env x with
    | .func (.func f) first cap => match hb f with
      | true => call f (first ++ args.map (ev e.env) ++ cap) h
      | false => none
    | _ => none
  | .pan x => match ev e.env x with
    | .ifc t v => some (.pan (.ifc t v) h)
    | _ => none
  | o => match eE o e.env h.hp with
    | some (v, l) => some (.ret v (h.chg l))
    | none => none

def xOps (hb : FuncId → Bool) (call : Caller) : List AOper → ET → HT → Option OR
  | [], e, h => some (.nor e h)
  | ⟨d, o, g⟩ :: r, e, h => match eWant e g with
    | some true => match xOp hb call o e h with
      | some (.ret v h') => xOps hb call r (e.put d v) h'
      | some (.pan v h') => some (.pan v e h')
      | none => none
    | some false => xOps hb call r (e.put d (.tup [])) h
    | none => none

abbrev XR := Xit × ET × HT

def iterX (f : ET → HT → Option XR) : Nat → ET → HT → Option XR
  | 0, _, _ => none
  | n + 1, e, h => match f e h with
    | some (.normal, e', h') => iterX f n e' h'
    | r => r

def xC (hb : FuncId → Bool) (call : Caller) (fuel : Nat) : ACode → ET → HT → Option XR
  | .skip, e, h => some (.normal, e, h)
  | .ops l, e, h => match xOps hb call l e h with
    | some (.nor e h) => some (.normal, e, h)
    | some (.pan v e h) => some (.pan v, e, h)
    | none => none
  | .seq a b, e, h => match xC hb call fuel a e h with
    | some (.normal, e', h') => xC hb call fuel b e' h'
    | r => r
  | .cond c a b, e, h => match ev e.env c with
    | .bool true => xC hb call fuel a e h
    | .bool false => xC hb call fuel b e h
    | _ => none
  | .block id c, e, h => match xC hb call fuel c e h with
    | some (.exit j, e', h') => match Nat.beq j id with
      | true => some (.normal, e', h')
      | false => some (.exit j, e', h')
    | r => r
  | .loop c, e, h => iterX (xC hb call fuel c) fuel e h
  | .exit id, e, h => some (.exit id, e, h)
  | .ret, e, h => some (.ret, e, h)
  | .alts [l], e, h => match xOps hb call l e h with
    | some (.nor e h) => some (.normal, e, h)
    | _ => none
  | _, _, _ => none

def xRes (e : Env) (h : Hp) : List ARes → Option (List AV)
  | [] => some []
  | .tmp t :: r => match xRes e h r with
    | some l => some (e.t t :: l)
    | none => none
  | .cell1 t :: r => match eN (.ld1 (.t t)) e h, xRes e h r with
    | some v, some l => some (v :: l)
    | _, _ => none
  | .cella t n :: r => match eN (.lda n (.t t)) e h, xRes e h r with
    | some v, some l => some (v :: l)
    | _, _ => none

def argsT : List AV → Nat → Tr AV → Tr AV
  | [], _, t => t
  | a :: r, i, t => argsT r (i + 1) (t.set i (some a))

/-- A function's code: its temporaries, its code, its results. -/
structure FC where
  n : Nat
  c : ACode
  r : List ARes

/-- The calls, at most so deep. -/
def xF (hb : FuncId → Bool) (codes : Tr FC) (loops : Nat) : Nat → Caller
  | 0, _, _, _ => none
  | d + 1, f, args, h => match codes.get f with
    | none => none
    | some c => match Nat.ble args.length c.n with
      | false => none
      | true => match xC hb (xF hb codes loops d) loops c.c ⟨c.n, argsT args 0 .nil, []⟩ h with
        | some (.normal, e', h') => match e'.ds with
          | [] => match xRes e'.env h'.hp c.r with
            | some l => some (.ret (oneV l) h')
            | none => none
          | _ => none
        | some (.ret, e', h') => match e'.ds with
          | [] => match xRes e'.env h'.hp c.r with
            | some l => some (.ret (oneV l) h')
            | none => none
          | _ => none
        | some (.pan v, e', h') => match e'.ds with
          | [] => some (.pan v h')
          | _ => none
        | _ => none

section
variable {P : Program} {hb : FuncId → Bool} {call : Caller}

def CallOK (P : Program) (call : Caller) : Prop := ∀ f args h r, call f args h = some r → CallL P f args h.hp r.is
def BodyOK (P : Program) (hb : FuncId → Bool) : Prop := ∀ f, hb f = true → HasBody P f

def CR.post (r : CR) (next : AV → Hp → Prop) (X : AV → Hp → Prop) : Prop :=
  match r with
  | .ret v h => next v h.hp
  | .pan v h => X v h.hp

theorem CR.mono {f : FuncId} {args : List AV} {h : Hp} {r : CR} {next : AV → Hp → Prop} {X : AV → Hp → Prop} (hc : CallL P f args h r.is) (hn : r.post next X) :
    CallL P f args h fun q h' => match q with | .ret v => next v h' | .pan v => X v h' := by
  refine hc.mono fun q h' hq => ?_
  cases r <;> cases q <;> simp only [CR.is] at hq <;> (obtain ⟨rfl, rfl⟩ := hq; exact hn)

theorem xOp_ok (hc : CallOK P call) (hh : BodyOK P hb) {o : AOp} {e : ET} {h : HT} {r : CR} {next : AV → Hp → Prop} {X : AV → Hp → Prop} (hx : xOp hb call o e h = some r) (hn : r.post next X) : LOp P o e.env h.hp next X := by
  have gen : ∀ {o : AOp}, (match eE o e.env h.hp with | some (v, l) => some (CR.ret v (h.chg l)) | none => none) = some r → LOp P o e.env h.hp next X := by
    intro o hx
    split at hx <;> cases hx
    rename_i v l hv
    refine eE_ok hv ?_
    have := hn
    simp only [CR.post, HT.hp_chg] at this
    exact this
  cases o <;> simp only [xOp] at hx <;> first | exact gen hx | skip
  case call f args => exact CR.mono (hc _ _ _ _ hx) hn
  case callv x args =>
    split at hx <;> first | cases hx | skip
    rename_i f first cap hv
    split at hx <;> first | cases hx | skip
    rename_i hbf
    simp only [LOp, hv]
    exact ⟨hh f hbf, CR.mono (hc _ _ _ _ hx) hn⟩
  case pan x =>
    split at hx <;> cases hx
    rename_i t v hv
    simp only [LOp, hv]
    exact hn

def OR.post (r : OR) (K : Env → Hp → Prop) (X : AV → Env → Hp → Prop) : Prop :=
  match r with
  | .nor e h => K e.env h.hp
  | .pan v e h => X v e.env h.hp

theorem xOps_ok (hc : CallOK P call) (hh : BodyOK P hb) : ∀ (l : List AOper) {e : ET} {h : HT} {r : OR} {K : Env → Hp → Prop} {X : AV → Env → Hp → Prop}, xOps hb call l e h = some r → r.post K X → LOps P l K X e.env h.hp := by
  intro l
  induction l with
  | nil => intro e h r K X hx hn; cases hx; exact hn
  | cons a r ih =>
    obtain ⟨d, o, g⟩ := a
    intro e h q K X hx hn
    simp only [xOps] at hx
    have run : (match xOp hb call o e h with | some (.ret v h') => xOps hb call r (e.put d v) h' | some (.pan v h') => some (.pan v e h') | none => none) = some q →
        LOp P o e.env h.hp (fun v h' => force v fun v => LOps P r K X (e.env.put d v) h') (fun v h' => X v e.env h') := by
      intro hx
      split at hx <;> first | cases hx | skip
      · rename_i v h' hv
        refine xOp_ok hc hh hv ?_
        simp only [CR.post]
        rw [force_eq, ← ET.env_put]
        exact ih hx hn
      · rename_i v h' hv
        exact xOp_ok hc hh hv hn
    cases g with
    | none => simp only [eWant] at hx; exact run hx
    | some g =>
      obtain ⟨t, b⟩ := g
      simp only [eWant] at hx
      simp only [LOps]
      have ht : e.env.t t = (e.t.get t).getD (.tup []) := rfl
      rw [ht]
      generalize (e.t.get t).getD (.tup []) = x at hx ⊢
      cases x <;> simp only at hx <;> first | (cases hx; done) | skip
      case bool c =>
        simp only
        have hskip : xOps hb call r (e.put d (.tup [])) h = some q → LOps P r K X (e.env.put d (.tup [])) h.hp := fun hx => by rw [← ET.env_put]; exact ih hx hn
        cases c <;> cases b <;> simp only [bcase] <;> first | exact run hx | exact hskip hx
      case tup vs => simp only; rw [← ET.env_put]; exact ih hx hn

theorem iterX_ok {f : ET → HT → Option XR} {c : ACode} (hf : ∀ (e : ET) (h : HT) (y : Xit) (e' : ET) (h' : HT) (Q : Xit → Env → Hp → Prop), f e h = some (y, e', h') → Q y e'.env h'.hp → LCode P c Q e.env h.hp)
    {n : Nat} {e : ET} {h : HT} {y : Xit} {e' : ET} {h' : HT} {Q : Xit → Env → Hp → Prop} (hx : iterX f n e h = some (y, e', h')) (hn : Q y e'.env h'.hp) : LCode P (.loop c) Q e.env h.hp := by
  refine ⟨fun m e1 h1 => ∃ (e2 : ET) (h2 : HT), e1 = e2.env ∧ h1 = h2.hp ∧ iterX f m e2 h2 = some (y, e', h'), ⟨n, e, h, rfl, rfl, hx⟩, ?_⟩
  rintro m _ _ ⟨e2, h2, rfl, rfl, hm⟩
  cases m with
  | zero => cases hm
  | succ m =>
    simp only [iterX] at hm
    split at hm
    · rename_i e3 h3 h4
      exact hf _ _ _ _ _ _ h4 ⟨m, Nat.lt_succ_self m, e3, h3, rfl, rfl, hm⟩
    · rename_i r hr
      refine hf _ _ _ _ _ _ hm ?_
      cases y with
      | normal => exact absurd hm (hr e' h')
      | exit i => exact hn
      | ret => exact hn
      | pan v => exact hn

theorem xC_ok (hc : CallOK P call) (hh : BodyOK P hb) {fuel : Nat} : ∀ (c : ACode) (e : ET) (h : HT) (y : Xit) (e' : ET) (h' : HT) (Q : Xit → Env → Hp → Prop),
    xC hb call fuel c e h = some (y, e', h') → Q y e'.env h'.hp → LCode P c Q e.env h.hp := by
  intro c
  induction c with
  | skip => intro e h y e' h' Q hx hn; cases hx; exact hn
  | ops l =>
    intro e h y e' h' Q hx hn
    simp only [xC] at hx
    split at hx <;> cases hx <;> rename_i h1 <;> exact xOps_ok hc hh l h1 hn
  | seq a b iha ihb =>
    intro e h y e' h' Q hx hn
    simp only [xC] at hx
    split at hx
    · rename_i e1 h1 h2
      exact iha _ _ _ _ _ _ h2 (ihb _ _ _ _ _ _ hx hn)
    · rename_i r hr
      refine iha _ _ _ _ _ _ hx ?_
      cases y with
      | normal => exact absurd hx (hr e' h')
      | exit i => exact hn
      | ret => exact hn
      | pan v => exact hn
  | cond c a b iha ihb =>
    intro e h y e' h' Q hx hn
    simp only [xC] at hx
    split at hx <;> first | cases hx | skip
    · rename_i h1; simp only [LCode, h1, bcase]; exact iha _ _ _ _ _ _ hx hn
    · rename_i h1; simp only [LCode, h1, bcase]; exact ihb _ _ _ _ _ _ hx hn
  | block id c ih =>
    intro e h y e' h' Q hx hn
    simp only [xC] at hx
    split at hx
    · rename_i j e1 h1 h2
      split at hx <;> cases hx
      · rename_i hj
        refine ih _ _ _ _ _ _ h2 ?_
        simp only [inBlk, Nat.eq_of_beq_eq_true hj, if_true]; exact hn
      · rename_i hj
        refine ih _ _ _ _ _ _ h2 ?_
        have : j ≠ id := fun e => by subst e; rw [Nat.beq_refl] at hj; cases hj
        simp only [inBlk, this, if_false]; exact hn
    · rename_i r hr
      refine ih _ _ _ _ _ _ hx ?_
      cases y with
      | exit i => exact absurd hx (hr i e' h')
      | normal => exact hn
      | ret => exact hn
      | pan v => exact hn
  | loop c ih =>
    intro e h y e' h' Q hx hn
    exact iterX_ok (fun e h y e' h' Q => ih e h y e' h' Q) hx hn
  | exit id => intro e h y e' h' Q hx hn; cases hx; exact hn
  | ret => intro e h y e' h' Q hx hn; cases hx; exact hn
  | bad => intro e h y e' h' Q hx hn; cases hx
  | alts ls =>
    intro e h y e' h' Q hx hn
    match ls, hx with
    | [l], hx =>
      simp only [xC] at hx
      split at hx <;> cases hx
      rename_i h1
      exact xOps_ok hc hh l h1 hn
    | [], hx => cases hx
    | _ :: _ :: _, hx => cases hx

theorem xRes_ok {e : Env} {h : Hp} : ∀ (rs : List ARes) {l : List AV} {N : List AV → Prop}, xRes e h rs = some l → N l → resL e h rs N := by
  intro rs
  induction rs with
  | nil => intro l N hx hn; cases hx; exact hn
  | cons r rs ih =>
    intro l N hx hn
    cases r <;> simp only [xRes] at hx <;> split at hx <;> cases hx
    · rename_i l' h1; exact ih h1 hn
    · rename_i v l' h1 h2; exact eN_ok h1 (ih h2 hn)
    · rename_i v l' h1 h2; exact eN_ok h1 (ih h2 hn)

theorem argsT_get : ∀ (args : List AV) (i : Nat) (t : Tr AV) (x : Nat), (argsT args i t).get x = if i ≤ x ∧ x < i + args.length then args[x - i]? else t.get x := by
  intro args
  induction args with
  | nil => intro i t x; simp only [argsT, List.length_nil]; rw [if_neg (by omega)]
  | cons a r ih =>
    intro i t x
    rw [argsT, ih, Tr.get_set]
    by_cases e : x = i
    · subst e
      rw [if_neg (by omega), if_pos rfl, if_pos (by simp)]; simp
    · by_cases e2 : i + 1 ≤ x ∧ x < i + 1 + r.length
      · rw [if_pos e2, if_pos (by simp; omega)]
        obtain ⟨k, rfl⟩ : ∃ k, x = i + 1 + k := ⟨x - (i + 1), by omega⟩
        rw [show i + 1 + k - (i + 1) = k by omega, show i + 1 + k - i = k + 1 by omega]; rfl
      · rw [if_neg e2, if_neg e, if_neg (by simp; omega)]

theorem env0_eq (n : Nat) (args : List AV) : (⟨n, argsT args 0 .nil, []⟩ : ET).env = env0 n args := by
  simp only [ET.env, env0, Env.mk.injEq, true_and, and_true]
  funext x
  rw [argsT_get]
  by_cases h : x < args.length
  · rw [if_pos (by omega)]; simp
  · rw [if_neg (by omega), List.getElem?_eq_none (by omega)]; rfl

def CodesOK (P : Program) (codes : Tr FC) : Prop := ∀ f c, codes.get f = some c → ∃ fn, P.funcs[f]? = some fn ∧ fn.ntmps = c.n ∧ compF P fn = some (c.c, c.r)

theorem xF_ok {codes : Tr FC} {loops : Nat} (hk : CodesOK P codes) (hh : BodyOK P hb) : ∀ d, CallOK P (xF hb codes loops d) := by
  intro d
  induction d with
  | zero => intro f args h r hx; cases hx
  | succ d ih =>
    intro f args h r hx
    simp only [xF] at hx
    split at hx <;> first | cases hx | skip
    rename_i c hc
    obtain ⟨fn, hf, hn, hcf⟩ := hk f c hc
    split at hx <;> first | cases hx | skip
    rename_i hlen
    have hlen' := Nat.le_of_ble_eq_true hlen
    refine CallL.of hf hcf (by rw [hn]; exact hlen') ?_
    rw [hn, ← env0_eq]
    have fin : ∀ {y : Xit} {e' : ET} {h' : HT} {v : AV}, e'.ds = [] → (y = .normal ∨ y = .ret) → xC hb (xF hb codes loops d) loops c.c ⟨c.n, argsT args 0 .nil, []⟩ h = some (y, e', h') →
        ∀ {l : List AV}, xRes e'.env h'.hp c.r = some l → v = oneV l → LCode P c.c (EndQ c.r (CR.is (.ret v h'))) (⟨c.n, argsT args 0 .nil, []⟩ : ET).env h.hp := by
      intro y e' h' v hds hy hxc l hl hv
      refine xC_ok ih hh _ _ _ _ _ _ _ hxc ?_
      have : e'.env.ds = [] ∧ resL e'.env h'.hp c.r fun l => CR.is (.ret v h') (.ret (oneV l)) h'.hp := ⟨hds, xRes_ok _ hl ⟨by rw [hv], rfl⟩⟩
      rcases hy with rfl | rfl <;> exact this
    split at hx
    · rename_i e' h' hxc
      split at hx <;> first | cases hx | skip
      rename_i hds
      split at hx <;> cases hx
      rename_i l hl
      exact fin hds (.inl rfl) hxc hl rfl
    · rename_i e' h' hxc
      split at hx <;> first | cases hx | skip
      rename_i hds
      split at hx <;> cases hx
      rename_i l hl
      exact fin hds (.inr rfl) hxc hl rfl
    · rename_i v e' h' hxc
      split at hx <;> cases hx
      rename_i hds
      refine xC_ok ih hh _ _ _ _ _ _ _ hxc ?_
      exact ⟨hds, rfl, rfl⟩
    · cases hx
end
end Go.L
