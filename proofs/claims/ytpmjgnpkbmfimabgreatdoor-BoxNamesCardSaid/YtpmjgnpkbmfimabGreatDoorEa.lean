/-
  The logic L computed, part a: trees, operations.
-/
import Derived.Test.YtpmjgnpkbmfimabGreatDoorLw2
namespace Go.L

/-! ## Trees -/

inductive Tr (α : Type) where
  | nil
  | node (l : Tr α) (v : Option α) (r : Tr α)

/-- The way to a number's place. -/
inductive Pth where
  | z
  | l (p : Pth)
  | r (p : Pth)
def pthF : Nat → Nat → Pth
  | 0, _ => .z
  | f + 1, i => match Nat.beq i 0 with
    | true => .z
    | false => match Nat.beq (Nat.mod i 2) 1 with
      | true => .l (pthF f (Nat.div i 2))
      | false => .r (pthF f (Nat.pred (Nat.div i 2)))
def pth (i : Nat) : Pth := pthF (Nat.succ i) i

def getP {α : Type} : Pth → Tr α → Option α
  | .z, t => match t with
    | .nil => none
    | .node _ v _ => v
  | .l p, t => match t with
    | .nil => none
    | .node l _ _ => getP p l
  | .r p, t => match t with
    | .nil => none
    | .node _ _ r => getP p r
def setP {α : Type} : Pth → Tr α → Option α → Tr α
  | .z, t, x => match t with
    | .nil => .node .nil x .nil
    | .node l _ r => .node l x r
  | .l p, t, x => match t with
    | .nil => .node (setP p .nil x) none .nil
    | .node l v r => .node (setP p l x) v r
  | .r p, t, x => match t with
    | .nil => .node .nil none (setP p .nil x)
    | .node l v r => .node l v (setP p r x)
def Tr.get {α : Type} (t : Tr α) (i : Nat) : Option α := getP (pth i) t
def Tr.set {α : Type} (t : Tr α) (i : Nat) (x : Option α) : Tr α := setP (pth i) t x

theorem pthF_fuel : ∀ (f i : Nat), i < f → pthF f i = pth i := by
  intro f
  induction f using Nat.strongRecOn with
  | _ f ih =>
    intro i hi
    cases f with
    | zero => omega
    | succ f =>
      unfold pth
      simp only [pthF]
      cases h0 : Nat.beq i 0 with
      | true => rfl
      | false =>
        have hi0 : i ≠ 0 := fun e => by subst e; cases h0
        have e1 : Nat.div i 2 = i / 2 := rfl
        have e2 : Nat.pred (i / 2) = i / 2 - 1 := rfl
        have k1 := ih f (by omega) (i / 2) (by omega)
        have k2 := ih i hi (i / 2) (by omega)
        have k3 := ih f (by omega) (i / 2 - 1) (by omega)
        have k4 := ih i hi (i / 2 - 1) (by omega)
        rw [e1, e2, k1, k2, k3, k4]
theorem pth_zero : pth 0 = .z := rfl
theorem pth_odd {i : Nat} (h : i % 2 = 1) : pth i = .l (pth (i / 2)) := by
  have h0 : Nat.beq i 0 = false := by
    cases hh : Nat.beq i 0 with
    | false => rfl
    | true => have := Nat.eq_of_beq_eq_true hh; omega
  have h1 : Nat.beq (Nat.mod i 2) 1 = true := by
    have : Nat.mod i 2 = 1 := h
    rw [this]; rfl
  have := pthF_fuel i (i / 2) (by omega)
  unfold pth
  simp only [pthF, h0, h1]
  exact congrArg Pth.l this
theorem pth_even {i : Nat} (h0 : i ≠ 0) (h : i % 2 ≠ 1) : pth i = .r (pth (i / 2 - 1)) := by
  have h1 : Nat.beq i 0 = false := by
    cases hh : Nat.beq i 0 with
    | false => rfl
    | true => exact absurd (Nat.eq_of_beq_eq_true hh) h0
  have h2 : Nat.beq (Nat.mod i 2) 1 = false := by
    cases hh : Nat.beq (Nat.mod i 2) 1 with
    | false => rfl
    | true => exact absurd (Nat.eq_of_beq_eq_true hh) h
  have := pthF_fuel i (i / 2 - 1) (by omega)
  unfold pth
  simp only [pthF, h1, h2]
  exact congrArg Pth.r this
theorem pth_inj : ∀ (i j : Nat), pth i = pth j → i = j := by
  intro i
  induction i using Nat.strongRecOn with
  | _ i ih =>
    intro j h
    by_cases i0 : i = 0
    · subst i0
      by_cases j0 : j = 0
      · exact j0.symm
      · by_cases j1 : j % 2 = 1
        · rw [pth_zero, pth_odd j1] at h; cases h
        · rw [pth_zero, pth_even j0 j1] at h; cases h
    · by_cases i1 : i % 2 = 1
      · rw [pth_odd i1] at h
        by_cases j0 : j = 0
        · subst j0; cases h
        · by_cases j1 : j % 2 = 1
          · rw [pth_odd j1] at h
            injection h with h
            have := ih _ (by omega) _ h
            omega
          · rw [pth_even j0 j1] at h; cases h
      · rw [pth_even i0 i1] at h
        by_cases j0 : j = 0
        · subst j0; cases h
        · by_cases j1 : j % 2 = 1
          · rw [pth_odd j1] at h; cases h
          · rw [pth_even j0 j1] at h
            injection h with h
            have := ih _ (by omega) _ h
            omega

theorem getP_nil {α : Type} : ∀ (p : Pth), getP p (.nil : Tr α) = none
  | .z => rfl
  | .l _ => rfl
  | .r _ => rfl
theorem getP_setP {α : Type} : ∀ (p : Pth) (t : Tr α) (x : Option α) (q : Pth), (q = p → getP q (setP p t x) = x) ∧ (q ≠ p → getP q (setP p t x) = getP q t) := by
  intro p
  induction p with
  | z =>
    intro t x q
    refine ⟨fun e => by subst e; cases t <;> rfl, fun e => ?_⟩
    cases q with
    | z => exact absurd rfl e
    | l q => cases t with
      | nil => exact getP_nil q
      | node l v r => rfl
    | r q => cases t with
      | nil => exact getP_nil q
      | node l v r => rfl
  | l p ih =>
    intro t x q
    refine ⟨fun e => ?_, fun e => ?_⟩
    · subst e; cases t with
      | nil => exact (ih .nil x p).1 rfl
      | node l v r => exact (ih l x p).1 rfl
    · cases q with
      | z => cases t <;> rfl
      | l q => cases t with
        | nil => exact ((ih .nil x q).2 fun h => e (by rw [h])).trans (getP_nil q)
        | node l v r => exact (ih l x q).2 fun h => e (by rw [h])
      | r q => cases t with
        | nil => exact getP_nil q
        | node l v r => rfl
  | r p ih =>
    intro t x q
    refine ⟨fun e => ?_, fun e => ?_⟩
    · subst e; cases t with
      | nil => exact (ih .nil x p).1 rfl
      | node l v r => exact (ih r x p).1 rfl
    · cases q with
      | z => cases t <;> rfl
      | l q => cases t with
        | nil => exact getP_nil q
        | node l v r => rfl
      | r q => cases t with
        | nil => exact ((ih .nil x q).2 fun h => e (by rw [h])).trans (getP_nil q)
        | node l v r => exact (ih r x q).2 fun h => e (by rw [h])

theorem Tr.get_nil {α : Type} (i : Nat) : (Tr.nil : Tr α).get i = none := getP_nil _
theorem Tr.get_node {α : Type} (l : Tr α) (v : Option α) (r : Tr α) (i : Nat) : (Tr.node l v r).get i = match Nat.beq i 0 with
    | true => v
    | false => match Nat.beq (i % 2) 1 with
      | true => l.get (i / 2)
      | false => r.get (i / 2 - 1) := by
  unfold Tr.get
  cases h0 : Nat.beq i 0 with
  | true => rw [Nat.eq_of_beq_eq_true h0]; rfl
  | false =>
    have hi0 : i ≠ 0 := fun e => by subst e; cases h0
    cases h1 : Nat.beq (i % 2) 1 with
    | true => rw [pth_odd (Nat.eq_of_beq_eq_true h1)]; rfl
    | false => rw [pth_even hi0 (fun e => by rw [e] at h1; cases h1)]; rfl
theorem Tr.get_set {α : Type} (t : Tr α) (i : Nat) (x : Option α) (j : Nat) : (t.set i x).get j = if j = i then x else t.get j := by
  unfold Tr.get Tr.set
  by_cases e : j = i
  · subst e; rw [if_pos rfl]; exact (getP_setP _ t x _).1 rfl
  · rw [if_neg e]; exact (getP_setP _ t x _).2 fun h => e (pth_inj _ _ h)

/-! ## Reading operations -/

def guardO (c : Bool) (v : Option AV) : Option AV := match c with | true => v | false => none
theorem guardO_some {c : Bool} {o : Option AV} {v : AV} (h : guardO c o = some v) : c = true ∧ o = some v := by
  cases c
  · cases h
  · exact ⟨rfl, h⟩

def eBin (op : BinOp) (k : IntKind) (a : Int) (k' : IntKind) (b : Int) : Option AV :=
  match op with
  | .shl => guardO (decide (0 ≤ b)) (some (.int k (k.wrap (a * 2 ^ (min b.toNat k.bits)))))
  | .shr => guardO (decide (0 ≤ b)) (some (.int k (a.fdiv (2 ^ (min b.toNat k.bits)))))
  | .add => guardO (ikeq k k') (some (.int k (k.wrap (a + b))))
  | .sub => guardO (ikeq k k') (some (.int k (k.wrap (a - b))))
  | .mul => guardO (ikeq k k') (some (.int k (k.wrap (a * b))))
  | .quo => guardO (ikeq k k' && !(decide (b = 0))) (some (.int k (k.wrap (a.tdiv b))))
  | .rem => guardO (ikeq k k' && !(decide (b = 0))) (some (.int k (a.tmod b)))
  | .and => guardO (ikeq k k') (some (.int k (ibits .and k a b)))
  | .or => guardO (ikeq k k') (some (.int k (ibits .or k a b)))
  | .xor => guardO (ikeq k k') (some (.int k (ibits .xor k a b)))
  | .andNot => guardO (ikeq k k') (some (.int k (ibits .andNot k a b)))
  | .eql => guardO (ikeq k k') (some (.bool (a == b)))
  | .neq => guardO (ikeq k k') (some (.bool (a != b)))
  | .lss => guardO (ikeq k k') (some (.bool (decide (a < b))))
  | .leq => guardO (ikeq k k') (some (.bool (decide (a ≤ b))))
  | .gtr => guardO (ikeq k k') (some (.bool (decide (b < a))))
  | .geq => guardO (ikeq k k') (some (.bool (decide (b ≤ a))))

theorem gen_mk {c : Bool} {N : Bool → Prop} (h : N c) : gen c N := fun _ ht => ht ▸ h
theorem genI_mk {c : Int} {N : Int → Prop} (h : N c) : genI c N := fun _ ht => ht ▸ h

theorem eBin_ok {op : BinOp} {k k' : IntKind} {a b : Int} {v : AV} {N : AV → Prop} (h : eBin op k a k' b = some v) (hn : N v) : binI op k a k' b N := by
  cases op <;> simp only [eBin] at h <;> obtain ⟨h1, h2⟩ := guardO_some h <;> cases h2 <;> simp only [binI]
  case shl => exact ⟨of_decide_eq_true h1, genI_mk hn⟩
  case shr => exact ⟨of_decide_eq_true h1, genI_mk hn⟩
  case quo => simp at h1; rw [h1.1]; exact ⟨h1.2, genI_mk hn⟩
  case rem => simp at h1; rw [h1.1]; exact ⟨h1.2, genI_mk hn⟩
  all_goals rw [h1]; first | exact genI_mk hn | exact gen_mk hn

def eBinS (op : BinOp) (a b : List UInt8) : Option AV :=
  match op with
  | .add => guardO (Nat.ble (a.length + b.length) 9223372036854775807) (some (.str (a ++ b)))
  | .eql => some (.bool (a == b))
  | .neq => some (.bool (!(a == b)))
  | .lss => some (.bool (Op.bytesLess a b))
  | .leq => some (.bool (Op.bytesLess a b || a == b))
  | .gtr => some (.bool (!(Op.bytesLess a b || a == b)))
  | .geq => some (.bool (!(Op.bytesLess a b)))
  | _ => none
theorem eBinS_ok {op : BinOp} {a b : List UInt8} {v : AV} {N : AV → Prop} (h : eBinS op a b = some v) (hn : N v) : binS op a b N := by
  cases op <;> simp only [eBinS] at h <;> first | (cases h; done) | skip
  · obtain ⟨h1, h2⟩ := guardO_some h; cases h2
    exact ⟨Nat.le_of_ble_eq_true h1, hn⟩
  all_goals cases h; exact gen_mk hn

def eBinB (op : BinOp) (x y : AV) : Option AV :=
  match op, x, y with
  | .eql, .bool a, .bool b => some (.bool (a == b))
  | .neq, .bool a, .bool b => some (.bool (!(a == b)))
  | _, _, _ => none
theorem eBinB_ok {op : BinOp} {x y : AV} {v : AV} {N : AV → Prop} (h : eBinB op x y = some v) (hn : N v) : binB op x y N := by
  unfold eBinB at h
  split at h <;> first | (cases h; done) | (cases h; exact gen_mk hn)

def eNil (k : NK) (v : AV) : Option Bool :=
  match k with
  | .sl => match v with
    | .nils => some true
    | .slc _ _ _ _ => some false
    | .isl _ es => cond es.isEmpty none (some false)
    | _ => none
  | .pt => match v with
    | .nilp => some true
    | .ptr _ _ _ => some false
    | .iptr _ _ _ => some false
    | _ => none
  | .mp => match v with
    | .nilm => some true
    | .map _ => some false
    | _ => none
  | .fn => match v with
    | .nilf => some true
    | .func _ _ _ => some false
    | _ => none
  | .ic => match v with
    | .nili => some true
    | .ifc _ _ => some false
    | _ => none
theorem eNil_ok {k : NK} {x : AV} {b : Bool} {N : Bool → Prop} (h : eNil k x = some b) (hn : N b) : nilN k x N := by
  cases k <;> simp only [eNil] at h <;> split at h <;> first
    | (cases h; exact hn) | (cases h; done)
    | (rename_i es; cases es with
       | nil => cases h
       | cons a l => cases h; exact ⟨by simp, hn⟩)

def nat? (v : AV) : Option Nat := match v with
  | .int _ n => match n with | .ofNat k => some k | _ => none
  | _ => none
theorem nat?_ok {v : AV} {k : Nat} (h : nat? v = some k) : ∃ K, v = .int K k := by
  unfold nat? at h
  split at h <;> first | cases h | skip
  split at h <;> cases h
  exact ⟨_, rfl⟩

def eBnd (e : Env) (d : Nat) : Option AOpd → Option Nat
  | none => some d
  | some x => nat? (ev e x)
theorem eBnd_ok {e : Env} {d : Nat} {x : Option AOpd} {k : Nat} {N : Nat → Prop} (h : eBnd e d x = some k) (hn : N k) : bndO e d x N := by
  cases x with
  | none => cases h; exact hn
  | some x =>
    obtain ⟨K, hK⟩ := nat?_ok h
    simp only [bndO, hK]
    exact ⟨k, rfl, hn⟩

def mlk (r : Option AV) (z : AV) (ok : Bool) : AV := match r with
  | some v => cond ok (.tup [v, .bool true]) v
  | none => cond ok (.tup [z, .bool false]) z
theorem mlk_ok {r : Option AV} {z : AV} {ok : Bool} {N : AV → Prop} (h : N (mlk r z ok)) : mgetN r z ok N := by cases r <;> exact h

def eKeys (k : AV) (es : MapL) : Bool := es.all fun x => (sameK k x.1).isSome
theorem eKeys_ok {k : AV} {es : MapL} (h : eKeys k es = true) : KeysLike k es := fun x hx => List.all_eq_true.1 h x hx

def eSrc (h : Hp) : AV → Option (List (List AV))
  | .isl _ es => some es
  | .slc i k n _ => match h i with
    | some (.row _ es) => cond (Nat.ble (k + n) es.length) (some ((es.drop k).take n)) none
    | _ => none
  | .nils => some []
  | .emp => some []
  | .str s => some (s.map fun b => [.int .u8 b.toNat])
  | _ => none
theorem eSrc_ok {h : Hp} {x : AV} {es : List (List AV)} (hs : eSrc h x = some es) : srcEls h x es := by
  unfold eSrc at hs
  split at hs
  · cases hs; rfl
  · split at hs <;> first | cases hs | skip
    rename_i T es0 hb
    cases hc : Nat.ble _ _ <;> rw [hc] at hs <;> cases hs
    exact ⟨T, es0, hb, Nat.le_of_ble_eq_true hc, rfl⟩
  · cases hs; rfl
  · cases hs; rfl
  · cases hs; rfl
  · cases hs

def eN_pick (c : AOpd) (a : AOpd) (b : AOpd) (e : Env) (h : Hp) : Option AV :=
  match ev e c with
  | .bool t => some (cond t (ev e a) (ev e b))
  | _ => none

def eN_bini (op : BinOp) (x : AOpd) (y : AOpd) (e : Env) (h : Hp) : Option AV :=
  match ev e x, ev e y with
  | .int k a, .int k' b => eBin op k a k' b
  | _, _ => none

def eN_bins (op : BinOp) (x : AOpd) (y : AOpd) (e : Env) (h : Hp) : Option AV :=
  match ev e x, ev e y with
  | .str a, .str b => eBinS op a b
  | _, _ => none

def eN_not (x : AOpd) (e : Env) (h : Hp) : Option AV :=
  match ev e x with
  | .bool b => some (.bool (!b))
  | _ => none

def eN_neg (x : AOpd) (e : Env) (h : Hp) : Option AV :=
  match ev e x with
  | .int k n => some (.int k (k.wrap (0 - n)))
  | _ => none

def eN_lens (x : AOpd) (e : Env) (h : Hp) : Option AV :=
  match ev e x with
  | .str s => some (.int .i64 s.length)
  | _ => none

def eN_lenl (x : AOpd) (e : Env) (h : Hp) : Option AV :=
  match ev e x with
  | .isl _ es => some (.int .i64 es.length)
  | .slc _ _ n _ => some (.int .i64 n)
  | .nils => some (.int .i64 0)
  | .emp => some (.int .i64 0)
  | _ => none

def eN_ext (i : Nat) (x : AOpd) (e : Env) (h : Hp) : Option AV :=
  match ev e x with
  | .tup vs => vs[i]?
  | _ => none

def eN_fld (off : Nat) (x : AOpd) (e : Env) (h : Hp) : Option AV :=
  match ev e x with
  | .agg cs => cs[off]?
  | _ => none

def eN_flda (off : Nat) (n : Nat) (x : AOpd) (e : Env) (h : Hp) : Option AV :=
  match ev e x with
  | .agg cs => guardO (Nat.ble (off + n) cs.length) (some (.agg ((cs.drop off).take n)))
  | _ => none

def eN_conv (k : IntKind) (x : AOpd) (e : Env) (h : Hp) : Option AV :=
  match ev e x with
  | .int _ n => some (.int k (k.wrap n))
  | _ => none

def eN_idxs (x : AOpd) (i : AOpd) (e : Env) (h : Hp) : Option AV :=
  match ev e x, nat? (ev e i) with
  | .str s, some k => match s[k]? with
    | some c => some (.int .u8 c.toNat)
    | none => none
  | _, _ => none

def eN_slcs (x : AOpd) (lo : Option AOpd) (hi : Option AOpd) (e : Env) (h : Hp) : Option AV :=
  match ev e x with
  | .str s => match eBnd e s.length hi, eBnd e 0 lo with
    | some q, some p => guardO (Nat.ble p q && Nat.ble q s.length) (some (.str ((s.take q).drop p)))
    | _, _ => none
  | _ => none

def eN_iaddr (T : TypeId) (z : Nat) (x : AOpd) (i : AOpd) (e : Env) (h : Hp) : Option AV :=
  match ev e x, nat? (ev e i) with
  | .isl g es, some k => match es[k]? with
    | some cs => guardO (Nat.beq cs.length z && !(Nat.beq z 0)) (some (.iptr g cs 0))
    | none => none
  | .slc b k0 m _, some k => match h b with
    | some (.row T' _) => guardO (Nat.beq T' T && Nat.ble (k + 1) m) (some (.ptr b (k0 + k) 0))
    | _ => none
  | _, _ => none

def eN_faddr (off : Nat) (x : AOpd) (e : Env) (h : Hp) : Option AV :=
  match ev e x with
  | .iptr g cs o => some (.iptr g cs (o + off))
  | .ptr b k o => some (.ptr b k (o + off))
  | _ => none

def eN_nilc (x : AOpd) (e : Env) (h : Hp) : Option AV :=
  match ev e x with
  | .iptr g cs o => some (.iptr g cs o)
  | .ptr b k o => some (.ptr b k o)
  | .func (.func f) a b => some (.func (.func f) a b)
  | .ifc t v => some (.ifc t v)
  | _ => none

def eN_ld1 (x : AOpd) (e : Env) (h : Hp) : Option AV :=
  match ev e x with
  | .iptr _ cs o => cs[o]?
  | .ptr b k o => match h b with
    | some (.row _ es) => match es[k]? with
      | some cs => cs[o]?
      | none => none
    | _ => none
  | _ => none

def eN_lda (n : Nat) (x : AOpd) (e : Env) (h : Hp) : Option AV :=
  match ev e x with
  | .iptr _ cs o => guardO (Nat.ble (o + n) cs.length) (some (.agg ((cs.drop o).take n)))
  | .ptr b k o => match h b with
    | some (.row _ es) => match es[k]? with
      | some cs => guardO (Nat.ble (o + n) cs.length) (some (.agg ((cs.drop o).take n)))
      | none => none
    | _ => none
  | _ => none

def eN_slcl (T : TypeId) (z : Nat) (x : AOpd) (lo : Option AOpd) (hi : Option AOpd) (mx : Option AOpd) (e : Env) (h : Hp) : Option AV :=
  match ev e x with
  | .isl g es => match eBnd e es.length hi, eBnd e 0 lo, eBnd e es.length mx with
    | some q, some p, some m => guardO (es.all (fun cs => Nat.beq cs.length z) && (Nat.ble p q && (Nat.ble q m && Nat.ble m es.length))) (some (.isl g ((es.take q).drop p)))
    | _, _, _ => none
  | .slc i k n c => match h i with
    | some (.row T' _) => match eBnd e n hi, eBnd e 0 lo with
      | some q, some p => match mx with
        | none => guardO (Nat.beq T' T && (Nat.ble p q && Nat.ble q (c.getD n))) (some (.slc i (k + p) (q - p) (c.map (· - p))))
        | some y => match eBnd e 0 (some y) with
          | some m => guardO (Nat.beq T' T && (Nat.ble p q && (Nat.ble q m && Nat.ble m (c.getD n)))) (some (.slc i (k + p) (q - p) (some (m - p))))
          | none => none
      | _, _ => none
    | _ => none
  | .nils => match eBnd e 0 hi, eBnd e 0 lo, eBnd e 0 mx with
    | some 0, some 0, some 0 => some .nils
    | _, _, _ => none
  | .emp => match eBnd e 0 hi, eBnd e 0 lo, eBnd e 0 mx with
    | some 0, some 0, some 0 => some .emp
    | _, _, _ => none
  | _ => none

def eN_isnil (k : NK) (neg : Bool) (x : AOpd) (e : Env) (h : Hp) : Option AV :=
  match eNil k (ev e x) with
  | some b => some (.bool (cond neg (!b) b))
  | none => none

def eN_capk (x : AOpd) (e : Env) (h : Hp) : Option AV :=
  match ev e x with
  | .slc _ _ _ (some c) => some (.int .i64 c)
  | .nils => some (.int .i64 0)
  | .emp => some (.int .i64 0)
  | _ => none

def eN_convs (x : AOpd) (e : Env) (h : Hp) : Option AV :=
  match ev e x with
  | .str s => some (.str s)
  | _ => none

def eN_xcount (x : AOpd) (c : AOpd) (e : Env) (h : Hp) : Option AV :=
  match ev e x, ev e c with
  | .str s, .int .u8 n => some (.int .i64 (Lib.countByte s n.toNat.toUInt8 : Nat))
  | _, _ => none

def eN_xindex (x : AOpd) (c : AOpd) (e : Env) (h : Hp) : Option AV :=
  match ev e x, ev e c with
  | .str s, .int .u8 n => some (.int .i64 (Lib.indexByte s n.toNat.toUInt8))
  | _, _ => none

def eN_mn (x : AOpd) (y : AOpd) (e : Env) (h : Hp) : Option AV :=
  match ev e x, ev e y with
  | .int k a, .int k' b => guardO (ikeq k k') (some (.int k (if b < a then b else a)))
  | _, _ => none

def eN_mx (x : AOpd) (y : AOpd) (e : Env) (h : Hp) : Option AV :=
  match ev e x, ev e y with
  | .int k a, .int k' b => guardO (ikeq k k') (some (.int k (if a < b then b else a)))
  | _, _ => none

def eN_mlook (m : MK) (z : AV) (ok : Bool) (x : AOpd) (k : AOpd) (e : Env) (h : Hp) : Option AV :=
  match ev e x with
  | .map i => match h i with
    | some (.map es _) => guardO (keyM m (ev e k) && eKeys (ev e k) es) (some (mlk (mget (ev e k) es) z ok))
    | _ => none
  | .nilm => guardO (keyM m (ev e k)) (some (cond ok (.tup [z, .bool false]) z))
  | _ => none

def eN_mlen (x : AOpd) (e : Env) (h : Hp) : Option AV :=
  match ev e x with
  | .map i => match h i with
    | some (.map es _) => some (.int .i64 es.length)
    | _ => none
  | .nilm => some (.int .i64 0)
  | _ => none

def eN_build (zero : List AV) (parts : List (Nat × Nat × AOpd)) (e : Env) (h : Hp) : Option AV :=
  match lay e zero parts with
  | some cs => some (.agg cs)
  | none => none

def eN_tass (T : TypeId) (ok : Bool) (z : AV) (x : AOpd) (e : Env) (h : Hp) : Option AV :=
  match ev e x with
  | .ifc t v => match Nat.beq t T with
    | true => some (cond ok (.tup [v, .bool true]) v)
    | false => guardO ok (some (.tup [z, .bool false]))
  | .nili => guardO ok (some (.tup [z, .bool false]))
  | _ => none

def eN_entr (x : AOpd) (e : Env) (h : Hp) : Option AV :=
  match ev e x with
  | .ptr i 0 0 => match h i with
    | some (.mapIter (some m) _ seen stepped) => match h m with
      | some (.map es c) => match seen.getLast? with
        | some b => match es.find? (fun x => x.2.2 == b) with
          | some (k, v, b') => guardO (Nat.beq c stepped && Nat.beq b' b) (some (.tup [k, v]))
          | none => none
        | none => none
      | _ => none
    | _ => none
  | _ => none

def eN_upc (x : AOpd) (e : Env) (h : Hp) : Option AV :=
  match ev e x with
  | .ptr b k q => match h b with
    | some (.row _ es) => match es[k]? with
      | some cs => guardO (Nat.blt q cs.length) (some (.ptr b k q))
      | none => none
    | _ => none
  | .nilp => some .nilp
  | _ => none

def eN_upt (T : TypeId) (x : AOpd) (e : Env) (h : Hp) : Option AV :=
  match ev e x with
  | .ptr b k 0 => match h b with
    | some (.row T' es) => guardO (Nat.beq T' T && Nat.blt k es.length) (some (.ptr b k 0))
    | _ => none
  | .nilp => some .nilp
  | _ => none

def eN_peq (neg : Bool) (x : AOpd) (y : AOpd) (e : Env) (h : Hp) : Option AV :=
  match ev e x, ev e y with
  | .ptr b k q, .ptr b' k' q' => guardO (Nat.beq b b' && Nat.beq k k') (some (.bool (cond neg (!(Nat.beq q q')) (Nat.beq q q'))))
  | .nilp, .nilp => some (.bool (!neg))
  | .nilp, .ptr _ _ _ => some (.bool neg)
  | .ptr _ _ _, .nilp => some (.bool neg)
  | _, _ => none

def eN_adr (n : Nat) (z : Nat) (x : AOpd) (i : AOpd) (e : Env) (h : Hp) : Option AV :=
  match ev e x, nat? (ev e i) with
  | .iptr g cs o, some k => guardO (Nat.blt k n) (some (.iptr g cs (o + k * z)))
  | .ptr b j o, some k => guardO (Nat.blt k n) (some (.ptr b j (o + k * z)))
  | _, _ => none

def eN_aeq (neg : Bool) (ks : List Nat) (x : AOpd) (y : AOpd) (e : Env) (h : Hp) : Option AV :=
  match ev e x, ev e y with
  | .agg a, .agg b => match keyCs ks a, sameL a b with
    | true, some t => some (.bool (cond neg (!t) t))
    | _, _ => none
  | _, _ => none

def eN_xcmp (x : AOpd) (y : AOpd) (e : Env) (h : Hp) : Option AV :=
  match ev e x, ev e y with
  | .str s, .str t => some (.int .i64 (Lib.compareBytes s t))
  | _, _ => none

def eN_cpl (x : AOpd) (e : Env) (h : Hp) : Option AV :=
  match ev e x with
  | .int k n => some (.int k (ibits .xor k (cond k.signed (-1) k.max) n))
  | _ => none

def eN_usd (x : AOpd) (e : Env) (h : Hp) : Option AV :=
  match ev e x with
  | .slc i k n _ => guardO (Nat.blt 0 n) (some (.ptr i k 0))
  | .nils => some .nilp
  | _ => none

def eN_rac (x : AOpd) (e : Env) (h : Hp) : Option AV :=
  match ev e x with
  | .ptr _ _ _ => some (.tup [])
  | .iptr _ _ _ => some (.tup [])
  | _ => none

def eN_b2s (x : AOpd) (e : Env) (h : Hp) : Option AV :=
  match ev e x with
  | .str _ => none
  | v => match eSrc h v with
    | some es => match bytesL es with
      | some s => some (.str s)
      | none => none
    | none => none

def eN (o : AOp) (e : Env) (h : Hp) : Option AV :=
  match o with
  | .mov x => some (ev e x)
  | .pick c a b => eN_pick c a b e h
  | .bini op x y => eN_bini op x y e h
  | .bins op x y => eN_bins op x y e h
  | .binb op x y => eBinB op (ev e x) (ev e y)
  | .not x => eN_not x e h
  | .neg x => eN_neg x e h
  | .lens x => eN_lens x e h
  | .lenl x => eN_lenl x e h
  | .ext i x => eN_ext i x e h
  | .fld off x => eN_fld off x e h
  | .flda off n x => eN_flda off n x e h
  | .conv k x => eN_conv k x e h
  | .idxs x i => eN_idxs x i e h
  | .slcs x lo hi => eN_slcs x lo hi e h
  | .iaddr T z x i => eN_iaddr T z x i e h
  | .faddr off x => eN_faddr off x e h
  | .nilc x => eN_nilc x e h
  | .ld1 x => eN_ld1 x e h
  | .lda n x => eN_lda n x e h
  | .mkifc t x => some (.ifc t (ev e x))
  | .mkfn f first cap => some (.func (.func f) (first.map (ev e)) (cap.map (ev e)))
  | .slcl T z x lo hi mx => eN_slcl T z x lo hi mx e h
  | .isnil k neg x => eN_isnil k neg x e h
  | .capk x => eN_capk x e h
  | .convs x => eN_convs x e h
  | .xcount x c => eN_xcount x c e h
  | .xindex x c => eN_xindex x c e h
  | .mn x y => eN_mn x y e h
  | .mx x y => eN_mx x y e h
  | .mlook m z ok x k => eN_mlook m z ok x k e h
  | .mlen x => eN_mlen x e h
  | .build zero parts => eN_build zero parts e h
  | .tass T ok z x => eN_tass T ok z x e h
  | .entr x => eN_entr x e h
  | .upc x => eN_upc x e h
  | .upt T x => eN_upt T x e h
  | .peq neg x y => eN_peq neg x y e h
  | .adr n z x i => eN_adr n z x i e h
  | .aeq neg ks x y => eN_aeq neg ks x y e h
  | .mkm nm first => some (.func (.method nm) (first.map (ev e)) [])
  | .xcmp x y => eN_xcmp x y e h
  | .cpl x => eN_cpl x e h
  | .usd x => eN_usd x e h
  | .rac x => eN_rac x e h
  | .b2s x => eN_b2s x e h
  | _ => none

theorem eN_ok {o : AOp} {e : Env} {h : Hp} {v : AV} {N : AV → Prop} (hv : eN o e h = some v) (hn : N v) : LN o e h N := by
  cases o <;> simp only [eN, eN_pick, eN_bini, eN_bins, eN_not, eN_neg, eN_lens, eN_lenl, eN_ext, eN_fld, eN_flda, eN_conv, eN_idxs, eN_slcs, eN_iaddr, eN_faddr, eN_nilc, eN_ld1, eN_lda, eN_slcl, eN_isnil, eN_capk, eN_convs, eN_xcount, eN_xindex, eN_mn, eN_mx, eN_mlook, eN_mlen, eN_build, eN_tass, eN_entr, eN_upc, eN_upt, eN_peq, eN_adr, eN_aeq, eN_xcmp, eN_cpl, eN_usd, eN_rac, eN_b2s] at hv <;> first | (cases hv; done) | skip
  case mov => cases hv; exact hn
  case pick c a b => split at hv <;> cases hv; rename_i t ht; simp only [LN, ht]; exact hn
  case bini op x y => split at hv <;> first | cases hv | skip
                      rename_i h1 h2; simp only [LN, h1, h2]; exact eBin_ok hv hn
  case bins op x y => split at hv <;> first | cases hv | skip
                      rename_i h1 h2; simp only [LN, h1, h2]; exact eBinS_ok hv hn
  case binb op x y => exact eBinB_ok hv hn
  case not x => split at hv <;> cases hv; rename_i h1; simp only [LN, h1]; exact hn
  case neg x => split at hv <;> cases hv; rename_i h1; simp only [LN, h1]; exact genI_mk hn
  case lens x => split at hv <;> cases hv; rename_i h1; simp only [LN, h1]; exact hn
  case lenl x => split at hv <;> cases hv <;> rename_i h1 <;> simp only [LN, h1] <;> exact hn
  case ext i x => split at hv <;> first | cases hv | skip
                  rename_i h1; simp only [LN, h1]; exact ⟨v, hv, hn⟩
  case fld off x => split at hv <;> first | cases hv | skip
                    rename_i h1; simp only [LN, h1]; exact ⟨v, hv, hn⟩
  case flda off n x => split at hv <;> first | cases hv | skip
                       rename_i h1; obtain ⟨h2, h3⟩ := guardO_some hv; cases h3; simp only [LN, h1]; exact ⟨Nat.le_of_ble_eq_true h2, hn⟩
  case conv k x => split at hv <;> cases hv; rename_i h1; simp only [LN, h1]; exact genI_mk hn
  case idxs x i =>
    split at hv <;> first | cases hv | skip
    rename_i s k h1 h2
    split at hv <;> cases hv
    rename_i c hc
    obtain ⟨K, hK⟩ := nat?_ok h2
    simp only [LN, h1, hK]; exact ⟨k, c, rfl, hc, hn⟩
  case slcs x lo hi =>
    split at hv <;> first | cases hv | skip
    rename_i s h1
    split at hv <;> first | cases hv | skip
    rename_i q p h2 h3
    obtain ⟨h4, h5⟩ := guardO_some hv; cases h5
    simp only [Bool.and_eq_true] at h4
    simp only [LN, h1]
    exact eBnd_ok h2 (eBnd_ok h3 ⟨Nat.le_of_ble_eq_true h4.1, Nat.le_of_ble_eq_true h4.2, hn⟩)
  case iaddr T z x i =>
    split at hv <;> first | cases hv | skip
    · rename_i g es k h1 h2
      split at hv <;> first | cases hv | skip
      rename_i cs hcs
      obtain ⟨h4, h5⟩ := guardO_some hv; cases h5
      simp only [Bool.and_eq_true, Bool.not_eq_true'] at h4
      obtain ⟨K, hK⟩ := nat?_ok h2
      simp only [LN, h1, hK]
      exact ⟨k, cs, rfl, hcs, Nat.eq_of_beq_eq_true h4.1, (fun e => by rw [e] at h4; cases h4.2), hn⟩
    · rename_i b k0 m c k h1 h2
      split at hv <;> first | cases hv | skip
      rename_i T' es hb
      obtain ⟨h4, h5⟩ := guardO_some hv; cases h5
      simp only [Bool.and_eq_true] at h4
      obtain ⟨K, hK⟩ := nat?_ok h2
      simp only [LN, h1, hK]
      obtain rfl := Nat.eq_of_beq_eq_true h4.1
      exact ⟨k, rfl, Nat.le_of_ble_eq_true h4.2, ⟨es, hb⟩, hn⟩
  case faddr off x => split at hv <;> cases hv <;> rename_i h1 <;> simp only [LN, h1] <;> exact hn
  case nilc x => split at hv <;> cases hv <;> rename_i h1 <;> simp only [LN, h1] <;> exact hn
  case ld1 x =>
    split at hv <;> first | cases hv | skip
    · rename_i h1; simp only [LN, h1]; exact ⟨v, hv, hn⟩
    · rename_i b k o h1
      split at hv <;> first | cases hv | skip
      rename_i T es hb
      split at hv <;> first | cases hv | skip
      rename_i cs hcs
      simp only [LN, h1]; exact ⟨T, es, cs, v, hb, hcs, hv, hn⟩
  case lda n x =>
    split at hv <;> first | cases hv | skip
    · rename_i h1; obtain ⟨h4, h5⟩ := guardO_some hv; cases h5; simp only [LN, h1]; exact ⟨Nat.le_of_ble_eq_true h4, hn⟩
    · rename_i b k o h1
      split at hv <;> first | cases hv | skip
      rename_i T es hb
      split at hv <;> first | cases hv | skip
      rename_i cs hcs
      obtain ⟨h4, h5⟩ := guardO_some hv; cases h5
      simp only [LN, h1]; exact ⟨T, es, cs, hb, hcs, Nat.le_of_ble_eq_true h4, hn⟩
  case mkifc t x => cases hv; exact hn
  case mkfn f first cap => cases hv; exact hn
  case slcl T z x lo hi mx =>
    split at hv <;> first | cases hv | skip
    · rename_i g es h1
      split at hv <;> first | cases hv | skip
      rename_i q p m h2 h3 h4
      obtain ⟨h5, h6⟩ := guardO_some hv; cases h6
      simp only [Bool.and_eq_true] at h5
      simp only [LN, h1]
      refine ⟨fun cs hcs => Nat.eq_of_beq_eq_true (List.all_eq_true.1 h5.1 cs hcs), eBnd_ok h2 (eBnd_ok h3 (eBnd_ok h4 ⟨Nat.le_of_ble_eq_true h5.2.1, Nat.le_of_ble_eq_true h5.2.2.1, Nat.le_of_ble_eq_true h5.2.2.2, .inr hn⟩))⟩
    · rename_i i k n c h1
      split at hv <;> first | cases hv | skip
      rename_i T' es hb
      split at hv <;> first | cases hv | skip
      rename_i q p h2 h3
      simp only [LN, h1]
      split at hv
      · obtain ⟨h5, h6⟩ := guardO_some hv; cases h6
        simp only [Bool.and_eq_true] at h5
        obtain rfl := Nat.eq_of_beq_eq_true h5.1
        exact ⟨⟨es, hb⟩, eBnd_ok h2 (eBnd_ok h3 ⟨Nat.le_of_ble_eq_true h5.2.1, Nat.le_of_ble_eq_true h5.2.2, hn⟩)⟩
      · split at hv <;> first | cases hv | skip
        rename_i m h4
        obtain ⟨h5, h6⟩ := guardO_some hv; cases h6
        simp only [Bool.and_eq_true] at h5
        obtain rfl := Nat.eq_of_beq_eq_true h5.1
        exact ⟨⟨es, hb⟩, eBnd_ok h2 (eBnd_ok h3 (eBnd_ok h4 ⟨Nat.le_of_ble_eq_true h5.2.1, Nat.le_of_ble_eq_true h5.2.2.1, Nat.le_of_ble_eq_true h5.2.2.2, hn⟩))⟩
    · rename_i h1
      split at hv <;> cases hv
      rename_i h2 h3 h4
      simp only [LN, h1]; exact eBnd_ok h2 (eBnd_ok h3 (eBnd_ok h4 ⟨rfl, rfl, rfl, hn⟩))
    · rename_i h1
      split at hv <;> cases hv
      rename_i h2 h3 h4
      simp only [LN, h1]; exact eBnd_ok h2 (eBnd_ok h3 (eBnd_ok h4 ⟨rfl, rfl, rfl, hn⟩))
  case isnil k neg x => split at hv <;> cases hv; rename_i b h1; exact eNil_ok (N := fun b => N (.bool (cond neg (!b) b))) h1 hn
  case capk x => split at hv <;> cases hv <;> rename_i h1 <;> simp only [LN, h1] <;> exact hn
  case convs x => split at hv <;> cases hv; rename_i h1; simp only [LN, h1]; exact hn
  case xcount x c => split at hv <;> cases hv; rename_i h1 h2; simp only [LN, h1, h2]; exact hn
  case xindex x c => split at hv <;> cases hv; rename_i h1 h2; simp only [LN, h1, h2]; exact genI_mk hn
  case mn x y =>
    split at hv <;> first | cases hv | skip
    rename_i h1 h2; obtain ⟨h3, h4⟩ := guardO_some hv; cases h4
    simp only [LN, h1, h2, h3]; exact genI_mk hn
  case mx x y =>
    split at hv <;> first | cases hv | skip
    rename_i h1 h2; obtain ⟨h3, h4⟩ := guardO_some hv; cases h4
    simp only [LN, h1, h2, h3]; exact genI_mk hn
  case mlook m z ok x k =>
    split at hv <;> first | cases hv | skip
    · rename_i i h1
      split at hv <;> first | cases hv | skip
      rename_i es c hb
      obtain ⟨h3, h4⟩ := guardO_some hv; cases h4
      simp only [Bool.and_eq_true] at h3
      simp only [LN, h1]
      exact ⟨es, c, hb, h3.1, eKeys_ok h3.2, fun r hr => by rw [hr]; exact mlk_ok hn⟩
    · rename_i h1
      obtain ⟨h3, h4⟩ := guardO_some hv; cases h4
      simp only [LN, h1]; exact ⟨h3, hn⟩
  case mlen x =>
    split at hv <;> first | cases hv | skip
    · rename_i i h1
      split at hv <;> cases hv
      rename_i es c hb
      simp only [LN, h1]; exact ⟨es, c, hb, hn⟩
    · rename_i h1; simp only [LN, h1]; exact hn
  case build zero parts =>
    split at hv <;> cases hv
    rename_i cs hcs
    exact ⟨cs, hcs, hn⟩
  case tass T ok z x =>
    split at hv <;> first | cases hv | skip
    · rename_i t v' h1
      simp only [LN, h1]
      split at hv
      · rename_i hb; cases hv; simp only [hb]; exact hn
      · rename_i hb; obtain ⟨h2, h3⟩ := guardO_some hv; cases h3; simp only [hb]; exact ⟨h2, hn⟩
    · rename_i h1; obtain ⟨h2, h3⟩ := guardO_some hv; cases h3; simp only [LN, h1]; exact ⟨h2, hn⟩
  case entr x =>
    split at hv <;> first | cases hv | skip
    rename_i i h1
    split at hv <;> first | cases hv | skip
    rename_i m since seen stepped h2
    split at hv <;> first | cases hv | skip
    rename_i es c h3
    split at hv <;> first | cases hv | skip
    rename_i b h4
    split at hv <;> first | cases hv | skip
    rename_i k v' b' h5
    obtain ⟨h6, h7⟩ := guardO_some hv; cases h7
    simp only [Bool.and_eq_true] at h6
    obtain rfl := Nat.eq_of_beq_eq_true h6.1
    obtain rfl := Nat.eq_of_beq_eq_true h6.2
    simp only [LN, h1]
    exact ⟨m, since, seen, _, es, _, k, v', _, h2, h3, rfl, h4, h5, hn⟩
  case upc x =>
    split at hv <;> first | cases hv | skip
    · rename_i b k q h1
      split at hv <;> first | cases hv | skip
      rename_i T es hb
      split at hv <;> first | cases hv | skip
      rename_i cs hcs
      obtain ⟨h2, h3⟩ := guardO_some hv; cases h3
      simp only [LN, h1]; exact ⟨T, es, cs, hb, hcs, Nat.le_of_ble_eq_true h2, hn⟩
    · rename_i h1; simp only [LN, h1]; exact hn
  case upt T x =>
    split at hv <;> first | cases hv | skip
    · rename_i b k h1
      split at hv <;> first | cases hv | skip
      rename_i T' es hb
      obtain ⟨h2, h3⟩ := guardO_some hv; cases h3
      simp only [Bool.and_eq_true] at h2
      obtain rfl := Nat.eq_of_beq_eq_true h2.1
      simp only [LN, h1]; exact ⟨es, hb, Nat.le_of_ble_eq_true h2.2, hn⟩
    · rename_i h1; simp only [LN, h1]; exact hn
  case peq neg x y =>
    split at hv <;> first | cases hv | skip
    · rename_i b k q b' k' q' h1 h2
      obtain ⟨h3, h4⟩ := guardO_some hv; cases h4
      simp only [Bool.and_eq_true] at h3
      simp only [LN, h1, h2]; exact ⟨h3.1, h3.2, hn⟩
    all_goals rename_i h1 h2; simp only [LN, h1, h2]; exact hn
  case adr n z x i =>
    split at hv <;> first | cases hv | skip
    all_goals
      rename_i h1 h2
      obtain ⟨h3, h4⟩ := guardO_some hv; cases h4
      obtain ⟨K, hK⟩ := nat?_ok h2
      simp only [LN, h1, hK]; exact ⟨_, rfl, Nat.le_of_ble_eq_true h3, hn⟩
  case mkm nm first => cases hv; exact hn
  case aeq neg ks x y =>
    split at hv <;> first | cases hv | skip
    rename_i a b h1 h2
    split at hv <;> cases hv
    rename_i t h3 h4
    simp only [LN, h1, h2]; exact ⟨h3, t, h4, hn⟩
  case xcmp x y =>
    split at hv <;> cases hv
    rename_i h1 h2; simp only [LN, h1, h2]; exact hn
  case cpl x =>
    split at hv <;> cases hv
    rename_i h1; simp only [LN, h1]; exact hn
  case usd x =>
    split at hv <;> first | cases hv | skip
    · rename_i i k n c h1
      obtain ⟨h3, h4⟩ := guardO_some hv; cases h4
      simp only [LN, h1]; exact ⟨Nat.le_of_ble_eq_true h3, hn⟩
    · rename_i h1; simp only [LN, h1]; exact hn
  case rac x => split at hv <;> first | cases hv | skip
                all_goals rename_i h1; simp only [LN, h1]; exact hn
  case b2s x =>
    split at hv <;> first | cases hv | skip
    rename_i hns
    split at hv <;> first | cases hv | skip
    rename_i es hes
    split at hv <;> cases hv
    rename_i s hs
    have key : ∃ es s', srcEls h (ev e x) es ∧ bytesL es = some s' ∧ N (.str s') := ⟨es, s, eSrc_ok hes, hs, hn⟩
    simp only [LN]
    exact key
end Go.L
