/-
  The logic L, part d: the model's operations turned into those of the logic; those that only read are sound.
-/
import Derived.Test.YtpmjgnpkbmfimaaGreatDoorLc
namespace Go.L

def isAggD : TypeDesc → Bool
  | .struct _ | .array _ _ => true
  | _ => false

def zcells (P : Program) (t : TypeId) : Option (List AV) := do
  let i ← P.info? t
  let z ← i.zero
  cvs z.cells.toList

def cparts (f : Nat → Option (Nat × Nat)) : List (Nat × Operand) → Option (List (Nat × Nat × AOpd))
  | [] => some []
  | (i, x) :: r => match f i, copd x, cparts f r with
    | some (o, n), some y, some l => some ((o, n, y) :: l)
    | _, _, _ => none

/-- The fields' places: first cell, cells. -/
def places (P : Program) : List Field → Option (List (Nat × Nat))
  | [] => some []
  | f :: r => match P.info? f.type, places P r with
    | some i, some l => some ((f.offset, i.size) :: l)
    | _, _ => none

def intD : TypeDesc → Bool | .int _ => true | _ => false
def strD : TypeDesc → Bool | .string => true | _ => false
def boolD : TypeDesc → Bool | .bool => true | _ => false

/-- An operation that only reads, as the logic has it. -/
def compN (P : Program) (o : Oper) : Option AOp :=
  match o.op with
  | .move x => (copd x).map .mov
  | .assign x => (copd x).map .mov
  | .pick c a b => do some (.pick (← copd c) (← copd a) (← copd b))
  | .binOp op xt x y _ => do
    let d ← P.underlying xt
    if intD d then some (.bini op (← copd x) (← copd y))
    else if strD d then some (.bins op (← copd x) (← copd y))
    else if boolD d then some (.binb op (← copd x) (← copd y))
    else none
  | .unOp .not _ x => (copd x).map .not
  | .unOp .neg _ x => (copd x).map .neg
  | .extract x i => (copd x).map (.ext i)
  | .field t x f => do
    let .struct fs ← P.underlying t | none
    let fd ← fs[f]?
    let d ← P.underlying fd.type
    let i ← P.info? fd.type
    if isAggD d then some (.flda fd.offset i.size (← copd x)) else some (.fld fd.offset (← copd x))
  | .convert s t x => do
    let .int k ← P.underlying t | none
    let _ ← P.underlying s
    some (.conv k (← copd x))
  | .index t x i => do
    let .string ← P.underlying t | none
    some (.idxs (← copd x) (← copd i))
  | .slice t x lo hi none => do
    let .string ← P.underlying t | none
    some (.slcs (← copd x) (← copdO lo) (← copdO hi))
  | .indexAddr t x i => do
    let .slice el ← P.underlying t | none
    let j ← P.info? el
    some (.iaddr el j.size (← copd x) (← copd i))
  | .fieldAddr t x f => do
    let .struct fs ← P.underlying t | none
    let fd ← fs[f]?
    let i ← P.info? fd.type
    if i.size = 0 then none else some (.faddr fd.offset (← copd x))
  | .nilCheck x => (copd x).map .nilc
  | .load t x => do
    let d ← P.underlying t
    let i ← P.info? t
    if isAggD d then some (.lda i.size (← copd x)) else some (.ld1 (← copd x))
  | .makeInterface t x => do
    let d ← P.underlying t
    match d with
    | .interface _ => none
    | _ => some (.mkifc t (← copd x))
  | .makeFunc (.func f) first cap => do
    some (.mkfn f (← copds first.toList) (← copds cap.toList))
  | .build t parts => do
    let z ← zcells P t
    let d ← P.underlying t
    match d with
    | .struct fs => do
      let pl ← places P fs.toList
      some (.build z (← cparts (fun i => pl[i]?) parts.toList))
    | .array _ el => do
      let j ← P.info? el
      some (.build z (← cparts (fun i => some (i * j.size, j.size)) parts.toList))
    | _ => none
  | .call { callee := .builtin .len, args, argTypes } => do
    let t ← argTypes[0]?
    let d ← P.underlying t
    match d, args.toList with
    | .string, [x] => some (.lens (← copd x))
    | .slice _, [x] => some (.lenl (← copd x))
    | _, _ => none
  | _ => none

/-- An operation that changes memory, or calls, as the logic has it. -/
def compE (P : Program) (o : Oper) : Option AOp :=
  match o.op with
  | .call { callee := .builtin .append, args, argTypes } => do
    let t ← argTypes[0]?
    let u ← argTypes[1]?
    let .slice el ← P.underlying t | none
    let du ← P.underlying u
    let j ← P.info? el
    let z ← j.zero
    if intD du || argTypes.size != 2 || j.size == 0 || z.cells.size != j.size then none else
    match args.toList with
    | [s, x] => some (.app el j.size j.bytes (← copd s) (← copd x))
    | _ => none
  | .store t x v => do
    let i ← P.info? t
    some (.st i.size (← copd x) (← copd v))
  | .box t x => do
    let i ← P.info? t
    some (.box t i.size (← copd x))
  | .alloc t => do
    let i ← P.info? t
    let z ← i.zero
    some (.box t i.size (.c (← cv z)))
  | .buildSlice t n parts => do
    let .slice el ← P.underlying t | none
    let j ← P.info? el
    let z ← zcells P el
    if n * j.size > 2 ^ 24 || z.length != j.size || n * j.size == 0 then none else
    some (.bslice el j.size n z (← cparts (fun i => some (i * j.size, j.size)) parts.toList))
  | .call { callee := .value (.func f), args, .. } => do
    let fn ← P.funcs[f]?
    if fn.body.isSome && fn.name != "runtime.NumGoroutine" then some (.call f (← copds args.toList)) else none
  | _ => none

/-- An operation as the logic has it (first part). -/
def comp1 (P : Program) (o : Oper) : Option AOp :=
  match compE P o with
  | some a => some a
  | none => match compN P o with
    | some a => if isN a then some a else none
    | none => none

section
variable {P : Program}

theorem run_underlying' {t : TypeId} {d : TypeDesc} (h : P.underlying t = some d) (w : World) : (underlying t).run P w = .ok d w := run_underlying h w
theorem run_typeInfo' {t : TypeId} {i : TypeInfo} (h : P.info? t = some i) (w : World) : (typeInfo t).run P w = .ok i w := by simp [typeInfo, program, Sem.run, h]
theorem run_sizeOf' {t : TypeId} {i : TypeInfo} (h : P.info? t = some i) (w : World) : (sizeOf t).run P w = .ok i.size w := by simp [sizeOf, run_typeInfo' h]

/-- What the operation gives, wherever the state stands for the abstract one. -/
def SemVal (P : Program) (o : Oper) (e : Env) (h : Hp) (v : AV) : Prop :=
  ∀ (σ : Emb) (M : Mem) (w : World) (a : Act), R P σ M h w → ActR σ M e a → ∃ v', (execOp a.eval o).run P w = .ok (.value v') w ∧ VR σ M v v'

theorem VR.bool_inv {σ : Emb} {M : Mem} {b : Bool} {v : Value} (h : VR σ M (.bool b) v) : v = .bool b := by cases h; rfl
theorem VR.int_inv {σ : Emb} {M : Mem} {k : IntKind} {n : Int} {v : Value} (h : VR σ M (.int k n) v) : v = .int k n := by cases h; rfl
theorem VR.str_inv {σ : Emb} {M : Mem} {s : List UInt8} {v : Value} (h : VR σ M (.str s) v) : ∃ b : ByteArray, v = .string b ∧ b.data.toList = s := by cases h with | str _ b h => exact ⟨b, rfl, h⟩

/-- What an operation on two values gives, in every state. -/
def Gives (N : AV → Prop) (s : Sem Value) : Prop := ∃ v, N v ∧ ∃ u, (∀ σ M, VR σ M v u) ∧ ∀ (P : Program) (w : World), s.run P w = .ok u w

theorem binI_ok {op : BinOp} {k k' : IntKind} {a b : Int} {N : AV → Prop} (h : binI op k a k' b N) (t : TypeId) (x y : Operand) :
    Gives N (do eqGuard op t x y (.int k a) (.int k' b); binOp op t (.int k a) (.int k' b)) := by
  have hg : ∀ (P : Program) (w : World), (eqGuard op t x y (.int k a) (.int k' b)).run P w = .ok () w := by
    intro P w; unfold eqGuard; cases op <;> simp
  have fin : ∀ (u : Value) (v : AV), (∀ σ M, VR σ M v u) → (∀ (P : Program) (w : World), (binOp op t (.int k a) (.int k' b)).run P w = .ok u w) → N v →
      Gives N (do eqGuard op t x y (.int k a) (.int k' b); binOp op t (.int k a) (.int k' b)) :=
    fun u v hv hu hN => ⟨v, hN, u, hv, fun P w => by simp [hg P w, hu P w]⟩
  cases op with
  | shl => exact fin _ _ (fun _ _ => .int _ _) (fun P w => by simp [binOp, Op.shift, Int.not_lt.2 h.1]) (genI_use h.2)
  | shr => exact fin _ _ (fun _ _ => .int _ _) (fun P w => by simp [binOp, Op.shift, Int.not_lt.2 h.1]) (genI_use h.2)
  | _ =>
    cases hk : ikeq k k' with
    | false => simp [binI, hk] at h
    | true =>
      obtain rfl := ikeq_ok hk
      simp only [binI, hk, cond_true] at h
      first
        | (refine fin _ _ (fun _ _ => .int _ _) ?_ (genI_use h.2); intro P w; simp [binOp, Op.intDiv, h.1]; done)
        | (refine fin _ _ (fun _ _ => .int _ _) ?_ (genI_use h); intro P w; simp [binOp, Op.intArith]; done)
        | (refine fin _ _ (fun _ _ => .int _ _) ?_ (genI_use h); intro P w; simp only [binOp, ne_eq, not_true_eq_false, if_false]; rfl)
        | (refine fin _ _ (fun _ _ => .bool _) ?_ (gen_use h); intro P w; simp [binOp, Op.intCmp]; done)

theorem binS_ok {op : BinOp} {a b : ByteArray} {N : AV → Prop} (h : binS op a.data.toList b.data.toList N) (t : TypeId) (x y : Operand) :
    Gives N (do eqGuard op t x y (.string a) (.string b); binOp op t (.string a) (.string b)) := by
  have hg : ∀ (P : Program) (w : World), (eqGuard op t x y (.string a) (.string b)).run P w = .ok () w := by
    intro P w; unfold eqGuard; cases op <;> simp
  have fin : ∀ (u : Value) (v : AV), (∀ σ M, VR σ M v u) → (∀ (P : Program) (w : World), (binOp op t (.string a) (.string b)).run P w = .ok u w) → N v →
      Gives N (do eqGuard op t x y (.string a) (.string b); binOp op t (.string a) (.string b)) :=
    fun u v hv hu hN => ⟨v, hN, u, hv, fun P w => by simp [hg P w, hu P w]⟩
  have hsz : ∀ x : ByteArray, x.size = x.data.toList.length := fun x => Array.length_toList.symm
  cases op <;> simp only [binS] at h <;> first | exact h.elim | skip
  · refine fin (.string (a ++ b)) _ (fun _ _ => .str _ _ ?_) (fun P w => ?_) h.2
    · simp
    · have : ¬ ((9223372036854775807 : Int) < (a.size : Int) + (b.size : Int)) := by rw [hsz a, hsz b]; omega
      have h2 : ¬ (((a.size + b.size : Nat) : Int) > IntKind.i64.max) := by
        have h3 : IntKind.i64.max = 9223372036854775807 := by decide
        rw [h3]; omega
      simp only [binOp, Op.stringOp, if_neg h2]; rfl
  all_goals refine fin _ _ (fun _ _ => .bool _) (fun P w => ?_) (gen_use h)
  all_goals simp [binOp, Op.stringOp, ByteArray.toList_eq]

theorem binB_ok {op : BinOp} {a b : Bool} {N : AV → Prop} (h : binB op (.bool a) (.bool b) N) (t : TypeId) (x y : Operand) :
    ∃ v, N v ∧ ∃ u, (∀ σ M, VR σ M v u) ∧ ∀ (P : Program) (w : World), P.underlying t = some .bool → (do eqGuard op t x y (.bool a) (.bool b); binOp op t (.bool a) (.bool b) : Sem Value).run P w = .ok u w := by
  have hg : ∀ (P : Program) (w : World), (eqGuard op t x y (.bool a) (.bool b)).run P w = .ok () w := by
    intro P w; unfold eqGuard; cases op <;> simp
  have eq : ∀ (P : Program) (w : World), P.underlying t = some .bool → (Op.equal t (.bool a) (.bool b)).run P w = .ok (a == b) w := by
    intro P w hu
    have hd : ∀ d, (Op.equalIn (d + 1) t (.bool a) (.bool b)).run P w = .ok (a == b) w := fun d => by simp [Op.equalIn, run_underlying hu]
    exact hd 9999
  cases op <;> simp only [binB] at h <;> first | exact h.elim | skip
  · exact ⟨_, gen_use h, .bool (a == b), fun _ _ => .bool _, fun P w hu => by simp [hg P w, binOp, eq P w hu]⟩
  · exact ⟨_, gen_use h, .bool (!(a == b)), fun _ _ => .bool _, fun P w hu => by simp [hg P w, binOp, eq P w hu]⟩

end
end Go.L
