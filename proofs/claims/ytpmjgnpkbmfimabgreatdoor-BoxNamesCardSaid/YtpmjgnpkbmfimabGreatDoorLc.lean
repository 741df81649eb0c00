/-
  The logic L, part c: operations as the logic has them; those that only read.
-/
import Derived.Test.YtpmjgnpkbmfimabGreatDoorLb
import Derived.Lib.Bytealg
namespace Go.L

inductive AOpd where
  | t (n : Nat)
  | c (v : AV)
  | f (i : Nat)
  deriving Inhabited

@[reducible] def ev (e : Env) : AOpd → AV
  | .t n => e.t n
  | .c v => v
  | .f i => .func (.func i) [] []

def cv0 : Value → Option AV
  | .bool b => some (.bool b)
  | .int k n => some (.int k n)
  | .float k n => some (.flt k n)
  | .string s => some (.str s.data.toList)
  | .pointer none => some .nilp
  | .slice none 0 0 => some .nils
  | .map none => some .nilm
  | .nilFunc => some .nilf
  | .nilIface => some .nili
  | _ => none

def cvs : List Value → Option (List AV)
  | [] => some []
  | v :: l => match cv0 v, cvs l with
    | some x, some r => some (x :: r)
    | _, _ => none

def cv : Value → Option AV
  | .agg cs => (cvs cs.toList).map .agg
  | .tuple cs => (cvs cs.toList).map .tup
  | v => cv0 v

/-- The cells of a value. -/
def AV.cells : AV → List AV
  | .agg cs => cs
  | v => [v]

def copd : Operand → Option AOpd
  | .tmp t => some (.t t)
  | .const v => (cv v).map .c
  | .func f => some (.f f)
  | .global _ => none

def copdO : Option Operand → Option (Option AOpd)
  | none => some none
  | some x => (copd x).map some

def copds : List Operand → Option (List AOpd)
  | [] => some []
  | x :: l => match copd x, copds l with
    | some y, some r => some (y :: r)
    | _, _ => none

section
variable {σ : Emb} {M : Mem}
theorem cv0_ok {v : Value} {x : AV} (h : cv0 v = some x) : VR σ M x v := by
  unfold cv0 at h
  split at h <;> first | cases h | skip
  · exact .bool _
  · exact .int _ _
  · exact .flt _ _
  · exact .str _ _ rfl
  · exact .nilp
  · exact .nils
  · exact .nilm
  · exact .nilf
  · exact .nili

theorem cvs_ok : ∀ {l : List Value} {r : List AV}, cvs l = some r → VRs σ M r l.toArray := by
  intro l
  induction l with
  | nil => intro r h; cases h; exact .nil
  | cons v l ih =>
    intro r h
    unfold cvs at h
    split at h
    · rename_i x r' h1 h2; cases h
      exact (ih h2).cons (cv0_ok h1)
    · cases h

theorem cv_ok {v : Value} {x : AV} (h : cv v = some x) : VR σ M x v := by
  unfold cv at h
  split at h
  · rename_i cs
    cases hc : cvs cs.toList with
    | none => simp [hc] at h
    | some r => simp [hc] at h; subst h; exact VR.agg' (by simpa using cvs_ok hc)
  · rename_i cs
    cases hc : cvs cs.toList with
    | none => simp [hc] at h
    | some r => simp [hc] at h; subst h; exact VR.tup' (by simpa using cvs_ok hc)
  · exact cv0_ok h

theorem copd_ok {x : Operand} {y : AOpd} (h : copd x = some y) {e : Env} {a : Act} (hA : ActR σ M e a) : VR σ M (ev e y) (a.eval x) := by
  cases x with
  | tmp t => cases h; exact hA.t t
  | const v =>
    cases hc : cv v with
    | none => simp [copd, hc] at h
    | some z => simp [copd, hc] at h; subst h; exact cv_ok hc
  | func f => cases h; exact VR.func' (fun _ h => by cases h) .nil .nil
  | global g => cases h

theorem copds_ok : ∀ {l : List Operand} {r : List AOpd}, copds l = some r → ∀ {e : Env} {a : Act}, ActR σ M e a → VRs σ M (r.map (ev e)) (l.map a.eval).toArray := by
  intro l
  induction l with
  | nil => intro r h e a _; cases h; exact .nil
  | cons v l ih =>
    intro r h e a hA
    unfold copds at h
    split at h
    · rename_i x r' h1 h2; cases h
      exact (ih h2 hA).cons (copd_ok h1 hA)
    · cases h

theorem VR.cells {x : AV} {v : Value} (h : VR σ M x v) (ht : ∀ l, x ≠ .tup l) : VRs σ M x.cells v.cells := by
  have one : ∀ {x : AV} {v : Value}, VR σ M x v → VRs σ M [x] #[v] := fun h => VRs.nil.cons h
  cases h with
  | agg cs c' d hn h1 h2 => exact ⟨hn, fun j v hj => ⟨d j, h1 j v hj, h2 j v hj⟩⟩
  | tup cs c' d hn h1 h2 => exact absurd rfl (ht _)
  | bool b => exact one (.bool b)
  | int k n => exact one (.int k n)
  | flt k n => exact one (.flt k n)
  | str s b h => exact one (.str s b h)
  | nilp => exact one .nilp
  | ptr i k o L h => exact one (.ptr i k o L h)
  | iptr g cs o B O C T F d h hc hv => exact one (.iptr g cs o B O C T F d h hc hv)
  | nils => exact one .nils
  | emp a => exact one (.emp a)
  | slc i k n c L a c' h ha hn hk hu => exact one (.slc i k n c L a c' h ha hn hk hu)
  | isl0 g a c => exact one (.isl0 g a c)
  | isl g es z B O C T F d c h hz hn hc hv => exact one (.isl g es z B O C T F d c h hz hn hc hv)
  | nilm => exact one .nilm
  | map i L h => exact one (.map i L h)
  | func fn first cap f' c' d e hy hf hc hf1 hf2 hc1 hc2 => exact one (.func fn first cap f' c' d e hy hf hc hf1 hf2 hc1 hc2)
  | nilf => exact one .nilf
  | yld i L h => exact one (.yld i L h)
  | ifc t v v' h => exact one (.ifc t v v' h)
  | nili => exact one .nili
end

/-! ## Operations -/

def ikeq : IntKind → IntKind → Bool
  | .i8, .i8 | .i16, .i16 | .i32, .i32 | .i64, .i64 | .u8, .u8 | .u16, .u16 | .u32, .u32 | .u64, .u64 => true
  | _, _ => false
theorem ikeq_ok {a b : IntKind} (h : ikeq a b = true) : a = b := by cases a <;> cases b <;> first | rfl | cases h

def ibits (op : BinOp) (k : IntKind) (x y : Int) : Int :=
  let a := BitVec.ofInt k.bits x
  let b := BitVec.ofInt k.bits y
  match op with
  | .and => k.wrap (a &&& b).toNat
  | .or => k.wrap (a ||| b).toNat
  | .xor => k.wrap (a ^^^ b).toNat
  | _ => k.wrap (a &&& ~~~b).toNat

/-- A truth value, under a name. -/
def gen (c : Bool) (N : Bool → Prop) : Prop := ∀ t, t = c → N t
theorem gen_use {c : Bool} {N : Bool → Prop} (h : gen c N) : N c := h c rfl

/-- A number, under a name. -/
def genI (c : Int) (N : Int → Prop) : Prop := ∀ m, m = c → N m
theorem genI_use {c : Int} {N : Int → Prop} (h : genI c N) : N c := h c rfl

/-- Two integers. -/
def binI (op : BinOp) (k : IntKind) (a : Int) (k' : IntKind) (b : Int) (N : AV → Prop) : Prop :=
  match op with
  | .shl => 0 ≤ b ∧ genI (k.wrap (a * 2 ^ (min b.toNat k.bits))) fun m => N (.int k m)
  | .shr => 0 ≤ b ∧ genI (a.fdiv (2 ^ (min b.toNat k.bits))) fun m => N (.int k m)
  | .add => cond (ikeq k k') (genI (k.wrap (a + b)) fun m => N (.int k m)) False
  | .sub => cond (ikeq k k') (genI (k.wrap (a - b)) fun m => N (.int k m)) False
  | .mul => cond (ikeq k k') (genI (k.wrap (a * b)) fun m => N (.int k m)) False
  | .quo => cond (ikeq k k') (b ≠ 0 ∧ genI (k.wrap (a.tdiv b)) fun m => N (.int k m)) False
  | .rem => cond (ikeq k k') (b ≠ 0 ∧ genI (a.tmod b) fun m => N (.int k m)) False
  | .and => cond (ikeq k k') (genI (ibits .and k a b) fun m => N (.int k m)) False
  | .or => cond (ikeq k k') (genI (ibits .or k a b) fun m => N (.int k m)) False
  | .xor => cond (ikeq k k') (genI (ibits .xor k a b) fun m => N (.int k m)) False
  | .andNot => cond (ikeq k k') (genI (ibits .andNot k a b) fun m => N (.int k m)) False
  | .eql => cond (ikeq k k') (gen (a == b) fun t => N (.bool t)) False
  | .neq => cond (ikeq k k') (gen (a != b) fun t => N (.bool t)) False
  | .lss => cond (ikeq k k') (gen (decide (a < b)) fun t => N (.bool t)) False
  | .leq => cond (ikeq k k') (gen (decide (a ≤ b)) fun t => N (.bool t)) False
  | .gtr => cond (ikeq k k') (gen (decide (b < a)) fun t => N (.bool t)) False
  | .geq => cond (ikeq k k') (gen (decide (b ≤ a)) fun t => N (.bool t)) False

/-- Two texts. -/
def binS (op : BinOp) (a b : List UInt8) (N : AV → Prop) : Prop :=
  match op with
  | .add => (a.length + b.length ≤ 9223372036854775807) ∧ N (.str (a ++ b))
  | .eql => gen (a == b) fun t => N (.bool t)
  | .neq => gen (!(a == b)) fun t => N (.bool t)
  | .lss => gen (Op.bytesLess a b) fun t => N (.bool t)
  | .leq => gen (Op.bytesLess a b || a == b) fun t => N (.bool t)
  | .gtr => gen (!(Op.bytesLess a b || a == b)) fun t => N (.bool t)
  | .geq => gen (!(Op.bytesLess a b)) fun t => N (.bool t)
  | _ => False

/-- Against nil, or two bools. -/
def binB (op : BinOp) (x y : AV) (N : AV → Prop) : Prop :=
  match op, x, y with
  | .eql, .bool a, .bool b => gen (a == b) fun t => N (.bool t)
  | .neq, .bool a, .bool b => gen (!(a == b)) fun t => N (.bool t)
  | _, _, _ => False

/-- A map's key: text, number, yes or no; two of such (0: text, 1: number, 2: yes or no). -/
inductive MK where
  | s | i | b
  | a (x y : Nat)
  deriving Inhabited

def keyC (c : Nat) (k : AV) : Bool :=
  match c with
  | 0 => match k with | .str _ => true | _ => false
  | 1 => match k with | .int _ _ => true | _ => false
  | 2 => match k with | .bool _ => true | _ => false
  | _ => false
def keyM (m : MK) (k : AV) : Bool :=
  match m with
  | .s => match k with | .str _ => true | _ => false
  | .i => match k with | .int _ _ => true | _ => false
  | .b => match k with | .bool _ => true | _ => false
  | .a x y => match k with
    | .agg [p, q] => keyC x p && keyC y q
    | _ => false

/-- Are two keys the same? none: they are of two kinds. -/
def sameK1 : AV → AV → Option Bool
  | .str a, .str b => some (a == b)
  | .int k a, .int k' b => cond (ikeq k k') (some (a == b)) none
  | .bool a, .bool b => some (a == b)
  | _, _ => none
def sameK : AV → AV → Option Bool
  | .agg [a, b], .agg [c, d] => match sameK1 a c, sameK1 b d with
    | some x, some y => some (x && y)
    | _, _ => none
  | x, y => sameK1 x y

/-- Two rows of plain values: are they the same? -/
def sameL : List AV → List AV → Option Bool
  | [], [] => some true
  | a :: l, b :: m => match sameK1 a b, sameL l m with
    | some x, some y => some (x && y)
    | _, _ => none
  | _, _ => none
def keyCs : List Nat → List AV → Bool
  | [], [] => true
  | k :: ks, a :: l => keyC k a && keyCs ks l
  | _, _ => false

abbrev MapL := List (AV × AV × Nat)

/-- The keys are of one kind with k. -/
def KeysLike (k : AV) (es : MapL) : Prop := ∀ x ∈ es, (sameK k x.1).isSome = true

/-- What the map holds at k. -/
def mget (k : AV) : MapL → Option AV
  | [] => none
  | x :: es => match sameK k x.1 with
    | some true => some x.2.1
    | _ => mget k es

/-- The place of k. -/
def midx (k : AV) : MapL → Option Nat
  | [] => none
  | x :: es => match sameK k x.1 with
    | some true => some 0
    | _ => (midx k es).map (· + 1)

/-- The map with v at k: of one that holds k. -/
def mmod (k v : AV) : MapL → MapL
  | [] => []
  | x :: es => match sameK k x.1 with
    | some true => (k, v, x.2.2) :: es
    | _ => x :: mmod k v es

/-- What a lookup gives. -/
def mgetN (r : Option AV) (z : AV) (ok : Bool) (N : AV → Prop) : Prop :=
  match r with
  | some v => N (cond ok (.tup [v, .bool true]) v)
  | none => N (cond ok (.tup [z, .bool false]) z)

/-- What kind of nil. -/
inductive NK where
  | sl | pt | mp | fn | ic
  deriving Inhabited

/-- Against nil. -/
def nilN (k : NK) (v : AV) (N : Bool → Prop) : Prop :=
  match k with
  | .sl => match v with
    | .nils => N true
    | .slc _ _ _ _ => N false
    | .isl _ es => es ≠ [] ∧ N false
    | _ => False
  | .pt => match v with
    | .nilp => N true
    | .ptr _ _ _ => N false
    | .iptr _ _ _ => N false
    | _ => False
  | .mp => match v with
    | .nilm => N true
    | .map _ => N false
    | _ => False
  | .fn => match v with
    | .nilf => N true
    | .func _ _ _ => N false
    | _ => False
  | .ic => match v with
    | .nili => N true
    | .ifc _ _ => N false
    | _ => False

inductive AOp where
  | mov (x : AOpd)
  | pick (c a b : AOpd)
  | bini (op : BinOp) (x y : AOpd)
  | bins (op : BinOp) (x y : AOpd)
  | binb (op : BinOp) (x y : AOpd)
  | not (x : AOpd)
  | neg (x : AOpd)
  | lens (x : AOpd)
  | lenl (x : AOpd)
  | ext (i : Nat) (x : AOpd)
  | fld (off : Nat) (x : AOpd)
  | flda (off n : Nat) (x : AOpd)
  | conv (k : IntKind) (x : AOpd)
  | idxs (x i : AOpd)
  | slcs (x : AOpd) (lo hi : Option AOpd)
  | iaddr (T : TypeId) (z : Nat) (x i : AOpd)
  | faddr (off : Nat) (x : AOpd)
  | nilc (x : AOpd)
  | ld1 (x : AOpd)
  | lda (n : Nat) (x : AOpd)
  | mkifc (t : TypeId) (x : AOpd)
  | mkfn (f : FuncId) (first cap : List AOpd)
  | slcl (T : TypeId) (z : Nat) (x : AOpd) (lo hi mx : Option AOpd)
  | isnil (k : NK) (neg : Bool) (x : AOpd)
  | capk (x : AOpd)
  | convs (x : AOpd)
  | xcount (x c : AOpd)
  | xindex (x c : AOpd)
  | mn (x y : AOpd)
  | mx (x y : AOpd)
  | mlook (m : MK) (z : AV) (ok : Bool) (x k : AOpd)
  | mlen (x : AOpd)
  -- not of those that only read
  | call (f : FuncId) (args : List AOpd)
  | st (n : Nat) (x v : AOpd)
  | box (T : TypeId) (z : Nat) (x : AOpd)
  | bslice (T : TypeId) (z : Nat) (len : Nat) (zero : List AV) (parts : List (Nat × Nat × AOpd))
  | app (T : TypeId) (z by_ : Nat) (s x : AOpd)
  | bslice0 (T : TypeId)
  | callv (x : AOpd) (args : List AOpd)
  | clr (T : TypeId) (zero : List AV) (x : AOpd)
  | mkslice (T : TypeId) (z by_ : Nat) (zero : List AV) (len cap : AOpd)
  | appz (T : TypeId) (z by_ : Nat) (zero : List AV) (s n : AOpd)
  | pan (x : AOpd)
  | mkmap
  | mupd (m : MK) (x k v : AOpd)
  -- asks of interface values, maps, texts
  | tass (T : TypeId) (ok : Bool) (z : AV) (x : AOpd)
  | entr (x : AOpd)
  | inv (tab : List (Nat × Nat)) (x : AOpd) (args : List AOpd)
  | rngs (x : AOpd)
  | rngm (x : AOpd)
  | nxs (x : AOpd)
  | nxm (x : AOpd)
  | ment (m : MK) (z : AV) (x k : AOpd)
  | mest (x s v : AOpd)
  | mdel (m : MK) (x k : AOpd)
  | cas (k : IntKind) (x o n : AOpd)
  | xadd (k : IntKind) (x y : AOpd)
  | cpy (T : TypeId) (z : Nat) (d s : AOpd)
  -- pointers as such; bytes and texts
  | upc (x : AOpd)
  | upt (T : TypeId) (x : AOpd)
  | peq (neg : Bool) (x y : AOpd)
  | usd (x : AOpd)
  | adr (n z : Nat) (x i : AOpd)
  | cpl (x : AOpd)
  | xcmp (x y : AOpd)
  | mkm (nm : String) (first : List AOpd)
  | nilm (x : AOpd)
  | aeq (neg : Bool) (ks : List Nat) (x y : AOpd)
  | b2s (x : AOpd)
  | mnz (T : TypeId) (x : AOpd)
  | ustr (T : TypeId) (x n : AOpd)
  | s2b (T : TypeId) (x : AOpd)
  | rac (x : AOpd)
  | b2b (x : AOpd)
  -- a call that is pure; a slice's text that is never changed
  | pcall (f : FuncId) (args : List AOpd)
  | pcallv (x : AOpd) (args : List AOpd)
  | acall (f : FuncId) (args : List AOpd)
  | acallv (x : AOpd) (args : List AOpd)
  | fslice (T : TypeId) (z : Nat) (len : Nat) (zero : List AV) (parts : List (Nat × Nat × AOpd))
  | bad
  | build (zero : List AV) (parts : List (Nat × Nat × AOpd))
  deriving Inhabited

/-- What append and copy take from a value: its elements. -/
def srcEls (h : Hp) : AV → List (List AV) → Prop
  | .isl _ es, es' => es' = es
  | .slc i k n _, es' => ∃ T es, h i = some (.row T es) ∧ k + n ≤ es.length ∧ es' = (es.drop k).take n
  | .nils, es' => es' = []
  | .emp, es' => es' = []
  | .str s, es' => es' = s.map fun b => [.int .u8 b.toNat]
  | _, _ => False

/-- Bytes, as they are read. -/
def bytesL : List (List AV) → Option (List UInt8)
  | [] => some []
  | c :: r => match c with
    | [.int .u8 n] => match decide (0 ≤ n) && Nat.blt n.toNat 256, bytesL r with
      | true, some s => some (n.toNat.toUInt8 :: s)
      | _, _ => none
    | _ => none

/-- A bound of a slice: of a text. -/
def bndO (e : Env) (d : Nat) : Option AOpd → (Nat → Prop) → Prop
  | none, N => N d
  | some x, N => match ev e x with
    | .int _ n => ∃ k : Nat, n = k ∧ N k
    | _ => False

def isN : AOp → Bool
  | .call .. | .st .. | .box .. | .bslice .. | .app .. | .bslice0 .. | .callv .. | .clr .. | .mkslice .. | .appz .. | .pan .. | .bad | .mkmap | .mupd .. | .pcall .. | .pcallv .. | .acall .. | .acallv .. | .fslice .. | .inv .. | .rngs .. | .rngm .. | .nxs .. | .nxm .. | .ment .. | .mest .. | .mdel .. | .cas .. | .xadd .. | .cpy .. | .mnz .. | .ustr .. | .s2b .. | .b2b .. | .nilm _ => false
  | _ => true

def notTup : AV → Bool
  | .tup _ => false
  | _ => true

/-- The parts of a struct or an array laid into its zero cells. -/
def lay (e : Env) : List AV → List (Nat × Nat × AOpd) → Option (List AV)
  | cs, [] => some cs
  | cs, (off, n, x) :: r =>
    cond (notTup (ev e x) && (Nat.beq (ev e x).cells.length n && Nat.ble (off + n) cs.length)) (lay e (cs.take off ++ (ev e x).cells ++ cs.drop (off + n)) r) none

def LN (o : AOp) (e : Env) (h : Hp) (next : AV → Prop) : Prop :=
  match o with
  | .mov x => next (ev e x)
  | .pick c a b => match ev e c with
    | .bool t => next (cond t (ev e a) (ev e b))
    | _ => False
  | .bini op x y => match ev e x, ev e y with
    | .int k a, .int k' b => binI op k a k' b next
    | _, _ => False
  | .bins op x y => match ev e x, ev e y with
    | .str a, .str b => binS op a b next
    | _, _ => False
  | .binb op x y => binB op (ev e x) (ev e y) next
  | .not x => match ev e x with
    | .bool b => next (.bool (!b))
    | _ => False
  | .neg x => match ev e x with
    | .int k n => genI (k.wrap (0 - n)) fun m => next (.int k m)
    | _ => False
  | .lens x => match ev e x with
    | .str s => next (.int .i64 s.length)
    | _ => False
  | .lenl x => match ev e x with
    | .isl _ es => next (.int .i64 es.length)
    | .slc _ _ n _ => next (.int .i64 n)
    | .nils => next (.int .i64 0)
    | .emp => next (.int .i64 0)
    | _ => False
  | .ext i x => match ev e x with
    | .tup vs => ∃ v, vs[i]? = some v ∧ next v
    | _ => False
  | .fld off x => match ev e x with
    | .agg cs => ∃ v, cs[off]? = some v ∧ next v
    | _ => False
  | .flda off n x => match ev e x with
    | .agg cs => off + n ≤ cs.length ∧ next (.agg ((cs.drop off).take n))
    | _ => False
  | .conv k x => match ev e x with
    | .int _ n => genI (k.wrap n) fun m => next (.int k m)
    | _ => False
  | .idxs x i => match ev e x, ev e i with
    | .str s, .int _ n => ∃ (k : Nat) (c : UInt8), n = k ∧ s[k]? = some c ∧ next (.int .u8 c.toNat)
    | _, _ => False
  | .slcs x lo hi => match ev e x with
    | .str s => bndO e s.length hi fun q => bndO e 0 lo fun p => p ≤ q ∧ q ≤ s.length ∧ next (.str ((s.take q).drop p))
    | _ => False
  | .iaddr T z x i => match ev e x, ev e i with
    | .isl g es, .int _ n => ∃ (k : Nat) (cs : List AV), n = k ∧ es[k]? = some cs ∧ cs.length = z ∧ z ≠ 0 ∧ next (.iptr g cs 0)
    | .slc b k0 m _, .int _ n => ∃ k : Nat, n = k ∧ k < m ∧ (∃ es, h b = some (.row T es)) ∧ next (.ptr b (k0 + k) 0)
    | _, _ => False
  | .faddr off x => match ev e x with
    | .iptr g cs o => next (.iptr g cs (o + off))
    | .ptr b k o => next (.ptr b k (o + off))
    | _ => False
  | .nilc x => match ev e x with
    | .iptr g cs o => next (.iptr g cs o)
    | .ptr b k o => next (.ptr b k o)
    | .func (.func f) a b => next (.func (.func f) a b)
    | .ifc t v => next (.ifc t v)
    | _ => False
  | .ld1 x => match ev e x with
    | .iptr _ cs o => ∃ v, cs[o]? = some v ∧ next v
    | .ptr b k o => ∃ T es cs v, h b = some (.row T es) ∧ es[k]? = some cs ∧ cs[o]? = some v ∧ next v
    | _ => False
  | .lda n x => match ev e x with
    | .iptr _ cs o => o + n ≤ cs.length ∧ next (.agg ((cs.drop o).take n))
    | .ptr b k o => ∃ T es cs, h b = some (.row T es) ∧ es[k]? = some cs ∧ o + n ≤ cs.length ∧ next (.agg ((cs.drop o).take n))
    | _ => False
  | .mkifc t x => next (.ifc t (ev e x))
  | .mkfn f first cap => next (.func (.func f) (first.map (ev e)) (cap.map (ev e)))
  | .slcl T z x lo hi mx => match ev e x with
    | .isl g es => (∀ cs ∈ es, cs.length = z) ∧ bndO e es.length hi fun q => bndO e 0 lo fun p => bndO e es.length mx fun m => p ≤ q ∧ q ≤ m ∧ m ≤ es.length ∧ ((mx.isSome = true ∧ m = p ∧ next .emp) ∨ next (.isl g ((es.take q).drop p)))
    | .slc i k n c => (∃ es, h i = some (.row T es)) ∧ bndO e n hi fun q => bndO e 0 lo fun p => match mx with
      | none => p ≤ q ∧ q ≤ c.getD n ∧ next (.slc i (k + p) (q - p) (c.map (· - p)))
      | some y => bndO e 0 (some y) fun m => p ≤ q ∧ q ≤ m ∧ m ≤ c.getD n ∧ next (.slc i (k + p) (q - p) (some (m - p)))
    | .nils => bndO e 0 hi fun q => bndO e 0 lo fun p => bndO e 0 mx fun m => p = 0 ∧ q = 0 ∧ m = 0 ∧ next .nils
    | .emp => bndO e 0 hi fun q => bndO e 0 lo fun p => bndO e 0 mx fun m => p = 0 ∧ q = 0 ∧ m = 0 ∧ next .emp
    | _ => False
  | .isnil k neg x => nilN k (ev e x) fun b => next (.bool (cond neg (!b) b))
  | .capk x => match ev e x with
    | .slc _ _ _ (some c) => next (.int .i64 c)
    | .nils => next (.int .i64 0)
    | .emp => next (.int .i64 0)
    | _ => False
  | .convs x => match ev e x with
    | .str s => next (.str s)
    | _ => False
  | .xcount x c => match ev e x, ev e c with
    | .str s, .int .u8 n => next (.int .i64 (Lib.countByte s n.toNat.toUInt8 : Nat))
    | _, _ => False
  | .xindex x c => match ev e x, ev e c with
    | .str s, .int .u8 n => genI (Lib.indexByte s n.toNat.toUInt8) fun m => next (.int .i64 m)
    | _, _ => False
  | .mn x y => match ev e x, ev e y with
    | .int k a, .int k' b => cond (ikeq k k') (genI (if b < a then b else a) fun m => next (.int k m)) False
    | _, _ => False
  | .mx x y => match ev e x, ev e y with
    | .int k a, .int k' b => cond (ikeq k k') (genI (if a < b then b else a) fun m => next (.int k m)) False
    | _, _ => False
  | .mlook m z ok x k => match ev e x with
    | .map i => ∃ es c, h i = some (.map es c) ∧ keyM m (ev e k) = true ∧ KeysLike (ev e k) es ∧ ∀ r, r = mget (ev e k) es → mgetN r z ok next
    | .nilm => keyM m (ev e k) = true ∧ next (cond ok (.tup [z, .bool false]) z)
    | _ => False
  | .mlen x => match ev e x with
    | .map i => ∃ es c, h i = some (.map es c) ∧ next (.int .i64 es.length)
    | .nilm => next (.int .i64 0)
    | _ => False
  | .tass T ok z x => match ev e x with
    | .ifc t v => match Nat.beq t T with
      | true => next (cond ok (.tup [v, .bool true]) v)
      | false => ok = true ∧ next (.tup [z, .bool false])
    | .nili => ok = true ∧ next (.tup [z, .bool false])
    | _ => False
  | .entr x => match ev e x with
    | .ptr i 0 0 => ∃ m since seen stepped es c k v b, h i = some (.mapIter (some m) since seen stepped) ∧ h m = some (.map es c) ∧ c = stepped ∧ seen.getLast? = some b ∧ (es.find? fun x => x.2.2 == b) = some (k, v, b) ∧ next (.tup [k, v])
    | _ => False
  | .build zero parts => ∃ cs, lay e zero parts = some cs ∧ next (.agg cs)
  | .upc x => match ev e x with
    | .ptr b k o => ∃ T es cs, h b = some (.row T es) ∧ es[k]? = some cs ∧ o < cs.length ∧ next (.ptr b k o)
    | .nilp => next .nilp
    | _ => False
  | .upt T x => match ev e x with
    | .ptr b k 0 => ∃ es, h b = some (.row T es) ∧ k < es.length ∧ next (.ptr b k 0)
    | .nilp => next .nilp
    | _ => False
  | .peq neg x y => match ev e x, ev e y with
    | .ptr b k o, .ptr b' k' o' => Nat.beq b b' = true ∧ Nat.beq k k' = true ∧ next (.bool (cond neg (!(Nat.beq o o')) (Nat.beq o o')))
    | .nilp, .nilp => next (.bool (!neg))
    | .nilp, .ptr _ _ _ => next (.bool neg)
    | .ptr _ _ _, .nilp => next (.bool neg)
    | _, _ => False
  | .adr n z x i => match ev e x, ev e i with
    | .iptr g cs o, .int _ m => ∃ k : Nat, m = k ∧ k < n ∧ next (.iptr g cs (o + k * z))
    | .ptr b j o, .int _ m => ∃ k : Nat, m = k ∧ k < n ∧ next (.ptr b j (o + k * z))
    | _, _ => False
  | .aeq neg ks x y => match ev e x, ev e y with
    | .agg a, .agg b => keyCs ks a = true ∧ ∃ t, sameL a b = some t ∧ next (.bool (cond neg (!t) t))
    | _, _ => False
  | .mkm nm first => next (.func (.method nm) (first.map (ev e)) [])
  | .xcmp x y => match ev e x, ev e y with
    | .str s, .str t => next (.int .i64 (Lib.compareBytes s t))
    | _, _ => False
  | .cpl x => match ev e x with
    | .int k n => next (.int k (ibits .xor k (cond k.signed (-1) k.max) n))
    | _ => False
  | .usd x => match ev e x with
    | .slc i k n _ => 0 < n ∧ next (.ptr i k 0)
    | .nils => next .nilp
    | _ => False
  | .rac x => match ev e x with
    | .ptr _ _ _ => next (.tup [])
    | .iptr _ _ _ => next (.tup [])
    | _ => False
  | .b2s x => match ev e x with
    | .str _ => False
    | v => ∃ es s, srcEls h v es ∧ bytesL es = some s ∧ next (.str s)
  | _ => False

end Go.L
