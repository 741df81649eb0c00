/-
  The logic L, part x: pointers as such; bytes and texts; copy.
-/
import Derived.Test.YtpmjgnpkbmfimaaGreatDoorLv
import Derived.Lib.MakeNoZero
import Derived.Lib.UnsafeStr
import Derived.Laws.BytesString
import Derived.Laws.StructEq
namespace Go.L


/-- The kinds of a struct's fields, all of them plain. -/
def fkinds (P : Program) : Nat → List Field → Option (List Nat)
  | _, [] => some []
  | j, f :: r => match P.underlying f.type with
    | some d => match kc d, fkinds P (j + 1) r, Nat.beq f.offset j && f.name != "_" with
      | some k, some l, true => some (k :: l)
      | _, _, _ => none
    | none => none
def eqKinds (P : Program) (t : TypeId) (fs : Array Field) : Option (List Nat) :=
  match !(P.stoodInHeld t) && !(P.eqGuardType P.depth t) with
  | true => fkinds P 0 fs.toList
  | false => none
def compX (P : Program) (o : Oper) : Option AOp :=
  match o.op with
  | .convert s d x => match P.underlying s, P.underlying d with
    | some (.pointer t), some .unsafePointer => match P.info? t with
      | some i => match Nat.beq i.size 0 with
        | true => none
        | false => (copd x).map .upc
      | none => none
    | some .unsafePointer, some (.pointer u) => match P.info? u with
      | some i => match Nat.beq i.size 0 with
        | true => none
        | false => (copd x).map (.upt u)
      | none => none
    | some (.slice el), some .string => match P.underlying el with
      | some (.int .u8) => (copd x).map .b2s
      | _ => none
    | some (.slice _), some (.slice el) => match P.underlying el, Nat.beq s d with
      | some (.int .u8), true => (copd x).map .b2b
      | _, _ => none
    | some .string, some (.slice el) => match P.underlying el, P.info? el with
      | some (.int .u8), some i => match Nat.beq i.size 1 with
        | true => (copd x).map (.s2b el)
        | false => none
      | _, _ => none
    | _, _ => none
  | .binOp op xt x y _ => match P.underlying xt with
    | some (.pointer el) => match P.info? el, eqlNeg op, copd x, copd y with
      | some i, some neg, some x', some y' => match Nat.beq i.size 0 with
        | true => none
        | false => some (.peq neg x' y')
      | _, _, _, _ => none
    | some (.struct fs) => match eqKinds P xt fs, eqlNeg op, copd x, copd y with
      | some ks, some neg, some x', some y' => some (.aeq neg ks x' y')
      | _, _, _, _ => none
    | _ => none
  | .call { callee := .builtin .copy, args, argTypes } => match args.toList, argTypes[0]? with
    | [d, s], some t => match P.underlying t with
      | some (.slice el) => match P.info? el, copd d, copd s with
        | some i, some d', some s' => match Nat.beq i.size 0 with
          | true => none
          | false => some (.cpy el i.size d' s')
        | _, _, _ => none
      | _ => none
    | _, _ => none
  | .call { callee := .builtin .unsafeSliceData, args, .. } => match args.toList with
    | [x] => (copd x).map .usd
    | _ => none
  | .call { callee := .builtin .unsafeString, args, argTypes } => match args.toList, argTypes[0]? with
    | [x, n], some pt => match P.underlying pt with
      | some (.pointer el) => match P.info? el, copd x, copd n with
        | some i, some x', some n' => match Nat.beq i.size 1 && Nat.beq argTypes.size 2 with
          | true => some (.ustr el x' n')
          | false => none
        | _, _, _ => none
      | _ => none
    | _, _ => none
  | .call { callee := .value (.func f), args, .. } => match P.funcs[f]? with
    | some fn => match fn.body.isNone && (fn.origin == "") with
      | true => match args.toList with
        | [] => match fn.name == "internal/race.Disable" || fn.name == "internal/race.Enable" with
          | true => some (.mov (.c (.tup [])))
          | false => none
        | [x, y] => match fn.name == "internal/bytealg.abigen_runtime_cmpstring", copd x, copd y with
          | true, some x', some y' => some (.xcmp x' y')
          | _, _, _ => none
        | [x] => match fn.name == "internal/race.Acquire" || fn.name == "internal/race.ReleaseMerge" with
         | true => (copd x).map .rac
         | false => match fn.name == "internal/abi.NoEscape" with
          | true => (copd x).map .mov
          | false => match fn.name == "internal/bytealg.MakeNoZero", fn.resultTypes.toList with
            | true, [t] => match P.underlying t with
              | some (.slice el) => match P.info? el with
                | some i => match Nat.beq i.size 1 with
                  | true => (copd x).map (.mnz el)
                  | false => none
                | none => none
              | _ => none
            | _, _ => none
        | _ => none
      | false => none
    | none => none
  | .indexAddr t x i => match P.underlying t with
    | some (.array n el) => match P.info? el, copd x, copd i with
      | some j, some x', some i' => some (.adr n j.size x' i')
      | _, _, _ => none
    | _ => none
  | .unOp .xor _ x => (copd x).map .cpl
  | .makeFunc (.method nm) first cap => match cap.toList, copds first.toList with
    | [], some l => some (.mkm nm l)
    | _, _ => none
  | _ => none

/-- A nil check of a function. -/
def compNc (P : Program) (o : Oper) : Option AOp :=
  match o.op with
  | .nilCheck x => match P.underlying o.type with
    | some (.func _ _ _) => (copd x).map .nilm
    | _ => none
  | _ => none
def compY (P : Program) (o : Oper) : Option AOp :=
  match compNc P o with
  | some a => some a
  | none => comp3 P o

def comp (P : Program) (o : Oper) : Option AOp :=
  match compY P o with
  | some a => some a
  | none => match compV P o with
    | some a => some a
    | none => compX P o

section
variable {P : Program} {ro : Option Nat} {md : Bool} {o : Oper} {ao : AOp} {e : Env} {h : Hp} {next X : AV → Hp → Prop} {σ : Emb} {M : Mem} {w : World} {a : Act}
variable {nx : Act → World → Prop} {Qx : Exit → Act → World → Prop}

theorem nbeq {n : Nat} (h : Nat.beq n 0 = false) : n ≠ 0 := fun e => by subst e; cases h

theorem run_shape {C : Array Value} {T : TypeId} {F : Nat × Nat} {b : Nat} (hb : w.heap[b]? = some (.cells C T F)) : (shape b).run P w = .ok (some (T, C.size)) w := by
  simp [shape, Sem.run, World.shape?, hb]
theorem run_cellsIn {C : Array Value} {T : TypeId} {F : Nat × Nat} {b : Nat} (hb : w.heap[b]? = some (.cells C T F)) : (cellsIn b).run P w = .ok (some C.size) w := by
  have : w.shape? b = some (T, C.size) := by simp [World.shape?, hb]
  simp [cellsIn, shape, Sem.run, this]
theorem run_seenAt {C : Array Value} {T : TypeId} {F : Nat × Nat} {a : Addr} (hb : w.heap[a.block]? = some (.cells C T F)) : (Conv.seenAt a).run P w = .ok a w := by
  simp [Conv.seenAt, viewAt, run_shape hb]

/-- The place of a pointer into a row. -/
theorem R.rowAt (hR : R P σ M h w) {b k q : Nat} {T : TypeId} {es : List (List AV)} {cs : List AV} {L : Loc} (hb : h b = some (.row T es)) (hk : es[k]? = some cs) (hq : q < cs.length) (hL : σ b = some L) :
    ∃ C F, w.heap[L.b]? = some (.cells C T F) ∧ L.o + k * L.z + q < C.size := by
  obtain ⟨C, F, hbl, hs, hz, hcap, hes, hF⟩ := hR.blk b _ L hb hL
  have hkl : k < es.length := (List.getElem?_eq_some_iff.1 hk).1
  have h1 : (k + 1) * L.z ≤ es.length * L.z := Nat.mul_le_mul_right _ hkl
  rw [Nat.add_mul, Nat.one_mul] at h1
  have h2 := (hes k cs hk).2
  exact ⟨C, F, hbl, by omega⟩

theorem sem_upc {s d t : TypeId} {x : Operand} {i : TypeInfo} (ho : o.op = .convert s d x) (hs : P.underlying s = some (.pointer t)) (hd : P.underlying d = some .unsafePointer) (hi : P.info? t = some i) (h0 : i.size ≠ 0)
    {x' : AOpd} (hx : copd x = some x') {N : AV → Prop} (hl : LN (.upc x') e h N) : ∃ v, N v ∧ SemVal P o e h v := by
  simp only [LN] at hl
  split at hl <;> first | exact hl.elim | skip
  · rename_i b k q hv
    obtain ⟨T, es, cs, h1, h2, h3, h4⟩ := hl
    refine ⟨_, h4, fun σ M w a hR hA => ?_⟩
    have h5 := copd_ok hx hA
    rw [hv] at h5
    obtain ⟨L, hL, e1⟩ := h5.ptr_inv
    obtain ⟨C, F, hb, hlt⟩ := hR.rowAt h1 h2 h3 hL
    refine ⟨_, ?_, .ptr b k q L hL⟩
    have hle : ¬ (C.size ≤ L.o + k * L.z + q) := by omega
    have hsa : (Conv.seenAt ⟨L.b, L.o + k * L.z + q, none⟩).run P w = .ok ⟨L.b, L.o + k * L.z + q, none⟩ w := run_seenAt hb
    simp [execOp, ho, e1, convert, run_underlying hs, run_underlying hd, Conv.unsafePointer, hsa, run_cellsIn hb, run_sizeOf' hi, h0, hle]
  · rename_i hv
    refine ⟨_, hl, fun σ M w a hR hA => ?_⟩
    have h5 := copd_ok hx hA
    rw [hv] at h5
    have e1 : a.eval x = .pointer none := by generalize a.eval x = q at h5; cases h5; rfl
    exact ⟨_, by simp [execOp, ho, e1, convert, run_underlying hs, run_underlying hd, Conv.unsafePointer], .nilp⟩

theorem sameLayout_self (t : TypeId) : Go.sameLayout P P.depth t t = true := by
  have : P.depth = (2 * (P.types.size + Made.depth) + 1) + 1 := by simp [Program.depth]
  rw [this]; simp [Go.sameLayout]

theorem liesAt_row {T : TypeId} {i : TypeInfo} (hi : P.info? T = some i) (h0 : i.size ≠ 0) {cells k n : Nat} (hle : (k + n) * i.size ≤ cells) : Go.liesAt P P.depth T (cells / P.cellsOf T) (k * i.size) T n = true := by
  have hc : P.cellsOf T = i.size := by simp [Program.cellsOf, hi]
  have hd : P.depth = (2 * (P.types.size + Made.depth) + 1) + 1 := by simp [Program.depth]
  have hpos : 0 < i.size := Nat.pos_of_ne_zero h0
  have h1 : k * i.size / i.size = k := Nat.mul_div_cancel _ hpos
  have h2 : k * i.size % i.size = 0 := Nat.mul_mod_left _ _
  have h3 : k + n ≤ cells / i.size := (Nat.le_div_iff_mul_le hpos).2 hle
  have hrow : Go.rowAt P (sameLayout P P.depth · T) P.depth T (cells / P.cellsOf T) (k * i.size) n = true := by
    rw [hc, hd, Go.rowAt, hc, h1, h2]
    simp only [if_neg h0]
    rw [← hd, sameLayout_self]
    simp [h3]
  rw [hd, liesAt]
  rw [hrow]; rfl

theorem sem_upt {s d u : TypeId} {x : Operand} {i : TypeInfo} (ho : o.op = .convert s d x) (hs : P.underlying s = some .unsafePointer) (hd : P.underlying d = some (.pointer u)) (hi : P.info? u = some i) (h0 : i.size ≠ 0)
    {x' : AOpd} (hx : copd x = some x') {N : AV → Prop} (hl : LN (.upt u x') e h N) : ∃ v, N v ∧ SemVal P o e h v := by
  simp only [LN] at hl
  split at hl <;> first | exact hl.elim | skip
  · rename_i b k hv
    obtain ⟨es, h1, h2, h4⟩ := hl
    refine ⟨_, h4, fun σ M w a hR hA => ?_⟩
    have h5 := copd_ok hx hA
    rw [hv] at h5
    obtain ⟨L, hL, e1⟩ := h5.ptr_inv
    obtain ⟨C, F, hb, hsz, hLz, hcap, hes, hF⟩ := hR.blk b _ L h1 hL
    obtain ⟨q, hq⟩ := hR.al b _ L h1 hL
    have hz : L.z = i.size := by rw [hi] at hLz; simpa using hLz.symm
    refine ⟨_, ?_, .ptr b k 0 L hL⟩
    have hsa : (Conv.seenAt ⟨L.b, L.o + k * L.z + 0, none⟩).run P w = .ok ⟨L.b, L.o + k * L.z + 0, none⟩ w := run_seenAt hb
    have hva : (variablesAt ⟨L.b, L.o + k * L.z + 0, none⟩ u 1).run P w = .ok true w := by
      have hoff : L.o + k * L.z + 0 = (q + k) * i.size := by rw [hq, ← hz, Nat.add_mul]; rfl
      have hle : (q + k + 1) * i.size ≤ C.size := by
        have h1 : (k + 1) * L.z ≤ es.length * L.z := Nat.mul_le_mul_right _ h2
        have h2 : (q + k + 1) * i.size = q * L.z + (k + 1) * L.z := by rw [← hz, ← Nat.add_mul, Nat.add_assoc]
        rw [h2, ← hq]; omega
      have hp : (program).run P w = .ok P w := rfl
      simp only [variablesAt, Sem.run_bind, hp, Result.andThen, run_shape hb, Sem.run_pure, hoff, liesAt_row hi h0 hle]
    simp only [execOp, ho, e1, convert, run_underlying hs, run_underlying hd, Sem.run_bind, Result.andThen, Conv.unsafePointer, hsa, run_sizeOf' hi, hva, Sem.run_pure]
    simp
  · rename_i hv
    refine ⟨_, hl, fun σ M w a hR hA => ?_⟩
    have h5 := copd_ok hx hA
    rw [hv] at h5
    have e1 : a.eval x = .pointer none := by generalize a.eval x = q at h5; cases h5; rfl
    exact ⟨_, by simp [execOp, ho, e1, convert, run_underlying hs, run_underlying hd, Conv.unsafePointer], .nilp⟩

theorem usd_eq (ts : Array TypeId) (t : TypeId) (ad : Addr) (n c : Nat) (hc : c ≠ 0) : Builtin.unsafeSliceData_ ts t #[.slice (some ad) n c] = pure (.pointer (some ad)) := by
  have : Builtin.unsafeSliceData_ ts t #[.slice (some ad) n c] = (if c ≠ 0 then pure (.pointer (some ad)) else do
    if (← viewAt ad.block).isSome then pure (.pointer (some ad)) else pure (.pointer (some ⟨← newObj (.view ad (← elemOf t)), 0, none⟩))) := rfl
  rw [this, if_pos hc]
theorem usd_nil (ts : Array TypeId) (t : TypeId) (n c : Nat) : Builtin.unsafeSliceData_ ts t #[.slice none n c] = pure (.pointer none) := rfl

theorem sem_usd {x : Operand} {ts : Array TypeId} {args : Array Operand} (ho : o.op = .call { callee := .builtin .unsafeSliceData, args, argTypes := ts }) (hargs : args.toList = [x]) {x' : AOpd} (hx : copd x = some x') {N : AV → Prop} (hl : LN (.usd x') e h N) :
    ∃ v, N v ∧ SemVal P o e h v := by
  have ha : args = #[x] := by rw [← Array.toArray_toList (xs := args), hargs]
  subst ha
  simp only [LN] at hl
  split at hl <;> first | exact hl.elim | skip
  · rename_i i k n c hv
    obtain ⟨h1, h2⟩ := hl
    refine ⟨_, h2, fun σ M w a hR hA => ?_⟩
    have h5 := copd_ok hx hA
    rw [hv] at h5
    obtain ⟨L, ad, c', e1, hL, had, hn, _, _⟩ := h5.slc_inv
    have hc : c' ≠ 0 := by omega
    have h6 := VR.ptr (σ := σ) (M := M) i k 0 L hL
    rw [Nat.add_zero, ← had hc] at h6
    exact ⟨_, by simp [execOp, ho, resolve, invoke, builtin, usd_eq _ _ _ _ _ hc, e1], h6⟩
  · rename_i hv
    refine ⟨_, hl, fun σ M w a hR hA => ?_⟩
    have h5 := copd_ok hx hA
    rw [hv] at h5
    exact ⟨_, by simp [execOp, ho, resolve, invoke, builtin, usd_nil, h5.nils_inv], .nilp⟩

theorem run_eqP {n : Nat} {xt el : TypeId} {i : TypeInfo} (hxt : P.underlying xt = some (.pointer el)) (hi : P.info? el = some i) (h0 : i.size ≠ 0) (b p q : Nat) :
    (Op.equalIn (n + 1) xt (.pointer (some ⟨b, p, none⟩)) (.pointer (some ⟨b, q, none⟩))).run P w = .ok (Nat.beq p q) w := by
  have hb : ((⟨b, p, none⟩ : Addr) == ⟨b, q, none⟩) = Nat.beq p q := by rw [Bool.eq_iff_iff]; simp
  simp [Op.equalIn, run_underlying hxt, run_sizeOf' hi, h0, sameAddr, hb]
theorem run_eqN1 {n : Nat} {xt el : TypeId} (hxt : P.underlying xt = some (.pointer el)) (q : Option Addr) :
    (Op.equalIn (n + 1) xt (.pointer none) (.pointer q)).run P w = .ok q.isNone w := by
  simp [Op.equalIn, run_underlying hxt]
theorem run_eqN2 {n : Nat} {xt el : TypeId} (hxt : P.underlying xt = some (.pointer el)) (q : Addr) :
    (Op.equalIn (n + 1) xt (.pointer (some q)) (.pointer none)).run P w = .ok false w := by
  simp [Op.equalIn, run_underlying hxt]

theorem run_eqFs {ks : List Nat} {n : Nat} {xs ys : Array Value} : ∀ {fs : List Field} {ks : List Nat} {j : Nat} {a b : List AV} {t : Bool}, fkinds P j fs = some ks → keyCs ks a = true → sameL a b = some t →
    (∀ (i : Nat) (v : AV), a[i]? = some v → ∃ u, xs[j + i]? = some u ∧ VR σ M v u) → (∀ (i : Nat) (v : AV), b[i]? = some v → ∃ u, ys[j + i]? = some u ∧ VR σ M v u) → (Op.eqFields (n + 1) xs ys fs).run P w = .ok t w := by
  intro fs
  induction fs with
  | nil =>
    intro ks j a b t hk ha hs _ _
    cases hk
    cases a with
    | cons => cases ha
    | nil => cases b with
      | cons => cases hs
      | nil => cases hs; simp [Op.eqFields]
  | cons f fs ih =>
    intro ks j a b t hk ha hs hx hy
    unfold fkinds at hk
    split at hk <;> first | cases hk | skip
    rename_i d hd
    split at hk <;> cases hk
    rename_i k l hkc hkr hc
    simp only [Bool.and_eq_true, bne_iff_ne, ne_eq] at hc
    cases a with
    | nil => cases ha
    | cons p a =>
      cases b with
      | nil => cases hs
      | cons q b =>
        simp only [keyCs, Bool.and_eq_true] at ha
        simp only [sameL] at hs
        split at hs <;> cases hs
        rename_i u v h1 h2
        obtain ⟨p', e1, g1⟩ := hx 0 p rfl
        obtain ⟨q', e2, g2⟩ := hy 0 q rfl
        have ho := Nat.eq_of_beq_eq_true hc.1
        have hk1 := kc_ok hkc ha.1
        have r1 := run_part1 hd hk1 (cs := xs) (j := f.offset) (v := p') (by rw [ho]; exact e1) w
        have r2 := run_part1 hd hk1 (cs := ys) (j := f.offset) (v := q') (by rw [ho]; exact e2) w
        have r3 := run_equalIn1 hd hk1 h1 g1 g2 n w
        have r4 := ih hkr ha.2 h2 (fun i v hv => by have := hx (i + 1) v (by simpa using hv); rw [show j + 1 + i = j + (i + 1) by omega]; exact this) (fun i v hv => by have := hy (i + 1) v (by simpa using hv); rw [show j + 1 + i = j + (i + 1) by omega]; exact this)
        cases u <;> simp [Op.eqFields, hc.2, r1, r2, r3, r4]

theorem sem_aeq {op : BinOp} {xt yt : TypeId} {fs : Array Field} {ks : List Nat} {x y : Operand} {neg : Bool} (ho : o.op = .binOp op xt x y yt) (hxt : P.underlying xt = some (.struct fs)) (hks : eqKinds P xt fs = some ks) (hneg : eqlNeg op = some neg)
    {x' y' : AOpd} (hx : copd x = some x') (hy : copd y = some y') {N : AV → Prop} (hl : LN (.aeq neg ks x' y') e h N) : ∃ v, N v ∧ SemVal P o e h v := by
  simp only [LN] at hl
  split at hl <;> first | exact hl.elim | skip
  rename_i a b h1 h2
  obtain ⟨h3, t, h4, h5⟩ := hl
  unfold eqKinds at hks
  split at hks <;> first | cases hks | skip
  rename_i hc
  simp only [Bool.and_eq_true, Bool.not_eq_true'] at hc
  refine ⟨_, h5, fun σ M w act hR hA => ?_⟩
  have g1 := copd_ok hx hA
  have g2 := copd_ok hy hA
  rw [h1] at g1; rw [h2] at g2
  obtain ⟨xs, e1, k1⟩ := g1.agg_inv
  obtain ⟨ys, e2, k2⟩ := g2.agg_inv
  have hfs : P.fieldsOf xt = fs := by simp [Program.fieldsOf, hxt]
  have hr : (Op.equal xt (.agg xs) (.agg ys)).run P w = .ok t w := by
    show (Op.equalIn (9998 + 1 + 1) xt _ _).run P w = _
    rw [run_equalIn_struct w (9998 + 1) xt xs ys (by rw [hfs]; exact hxt) hc.1, hfs]
    exact run_eqFs (ks := ks) hks h3 h4 (fun i v hv => by rw [Nat.zero_add]; exact k1.2 i v hv) (fun i v hv => by rw [Nat.zero_add]; exact k2.2 i v hv)
  have hp : (program).run P w = .ok P w := rfl
  refine ⟨.bool (cond neg (!t) t), ?_, .bool _⟩
  cases op <;> simp only [eqlNeg] at hneg <;> first | (cases hneg; done) | skip
  all_goals
    cases hneg
    simp [execOp, ho, e1, e2, eqGuard, binOp, hr, hp, hc.2]

theorem sem_peq {op : BinOp} {xt yt el : TypeId} {x y : Operand} {i : TypeInfo} {neg : Bool} (ho : o.op = .binOp op xt x y yt) (hxt : P.underlying xt = some (.pointer el)) (hi : P.info? el = some i) (h0 : i.size ≠ 0) (hneg : eqlNeg op = some neg)
    {x' y' : AOpd} (hx : copd x = some x') (hy : copd y = some y') {N : AV → Prop} (hl : LN (.peq neg x' y') e h N) : ∃ v, N v ∧ SemVal P o e h v := by
  have ptrN : ∀ {σ : Emb} {M : Mem} {u : Value}, VR σ M .nilp u → u = .pointer none := fun h => by cases h; rfl
  have run : ∀ {a : Act} {w : World} {p q : Option Addr} {t : Bool}, a.eval x = .pointer p → a.eval y = .pointer q → (Op.equal xt (.pointer p) (.pointer q)).run P w = .ok t w → (execOp a.eval o).run P w = .ok (.value (.bool (cond neg (!t) t))) w := by
    intro a w p q t e1 e2 hr
    cases op <;> simp only [eqlNeg] at hneg <;> first | (cases hneg; done) | skip
    all_goals
      cases hneg
      simp [execOp, ho, e1, e2, eqGuard, binOp, hr]
  simp only [LN] at hl
  split at hl <;> first | exact hl.elim | skip
  · rename_i b k q b' k' q' h1 h2
    obtain ⟨h3, h4, h5⟩ := hl
    obtain rfl := Nat.eq_of_beq_eq_true h3
    obtain rfl := Nat.eq_of_beq_eq_true h4
    refine ⟨_, h5, fun σ M w a hR hA => ?_⟩
    have g1 := copd_ok hx hA
    have g2 := copd_ok hy hA
    rw [h1] at g1; rw [h2] at g2
    obtain ⟨L, hL, e1⟩ := g1.ptr_inv
    obtain ⟨L', hL', e2⟩ := g2.ptr_inv
    rw [hL] at hL'; cases hL'
    refine ⟨_, run e1 e2 (t := Nat.beq q q') ?_, .bool _⟩
    have h6 : Nat.beq (L.o + k * L.z + q) (L.o + k * L.z + q') = Nat.beq q q' := by rw [Bool.eq_iff_iff]; simp
    rw [← h6]
    exact run_eqP (n := 9999) hxt hi h0 _ _ _
  · rename_i h1 h2
    refine ⟨_, hl, fun σ M w a hR hA => ?_⟩
    have g1 := copd_ok hx hA
    have g2 := copd_ok hy hA
    rw [h1] at g1; rw [h2] at g2
    have := run (a := a) (w := w) (t := true) (ptrN g1) (ptrN g2) (run_eqN1 (n := 9999) hxt none)
    exact ⟨_, this, by cases neg <;> exact .bool _⟩
  · rename_i b k q h1 h2
    refine ⟨_, hl, fun σ M w a hR hA => ?_⟩
    have g1 := copd_ok hx hA
    have g2 := copd_ok hy hA
    rw [h1] at g1; rw [h2] at g2
    obtain ⟨L, hL, e2⟩ := g2.ptr_inv
    have := run (a := a) (w := w) (t := false) (ptrN g1) e2 (run_eqN1 (n := 9999) hxt (some _))
    exact ⟨_, this, by cases neg <;> exact .bool _⟩
  · rename_i b k q h1 h2
    refine ⟨_, hl, fun σ M w a hR hA => ?_⟩
    have g1 := copd_ok hx hA
    have g2 := copd_ok hy hA
    rw [h1] at g1; rw [h2] at g2
    obtain ⟨L, hL, e1⟩ := g1.ptr_inv
    have := run (a := a) (w := w) (t := false) e1 (ptrN g2) (run_eqN2 (n := 9999) hxt _)
    exact ⟨_, this, by cases neg <;> exact .bool _⟩

/-! ### Bytes -/

theorem bytesL_ok : ∀ {es : List (List AV)} {s : List UInt8}, bytesL es = some s → es.flatten = s.map (fun b => AV.int .u8 b.toNat) ∧ (∀ cs ∈ es, cs.length = 1) ∧ es.length = s.length := by
  intro es
  induction es with
  | nil => intro s h; cases h; exact ⟨rfl, fun _ h => by simp at h, rfl⟩
  | cons c r ih =>
    intro s h
    unfold bytesL at h
    split at h <;> first | cases h | skip
    rename_i n
    split at h <;> first | cases h | skip
    rename_i s' hb hs
    obtain ⟨h1, h2, h3⟩ := ih hs
    simp only [Bool.and_eq_true, decide_eq_true_eq] at hb
    have hlt : n.toNat < 256 := by simpa using hb.2
    have : ((n.toNat.toUInt8).toNat : Int) = n := by
      have : n.toNat.toUInt8.toNat = n.toNat := by simp [Nat.toUInt8, UInt8.toNat_ofNat']; omega
      omega
    refine ⟨?_, fun cs hc => ?_, by simp [h3]⟩
    · simp [h1]; omega
    · rcases List.mem_cons.1 hc with rfl | hc
      · rfl
      · exact h2 cs hc

theorem VRs.bytes {s : List UInt8} {A : Array Value} (h : VRs σ M (s.map fun b => AV.int .u8 b.toNat) A) : A = (s.map fun b => Value.int .u8 b.toNat).toArray := by
  have h1 := h.1
  simp at h1
  apply Array.ext
  · simp [h1]
  · intro j hj1 hj2
    have hjs : j < s.length := by omega
    obtain ⟨v', e1, e2⟩ := h.2 j (.int .u8 s[j].toNat) (by simp [hjs])
    rw [e2.int_inv] at e1
    have : A[j] = .int .u8 s[j].toNat := by
      have h3 : A[j]? = some A[j] := Array.getElem?_eq_getElem hj1
      rw [h3] at e1; exact Option.some.inj e1
    rw [this]; simp

theorem foldl_push (s : List UInt8) : ∀ acc : ByteArray, (s.map fun b => (b.toNat : Int)).foldl (fun r n => r.push (UInt8.ofNat n.toNat)) acc = ⟨acc.data ++ s.toArray⟩ := by
  induction s with
  | nil => intro acc; simp
  | cons b s ih =>
    intro acc
    simp only [List.map_cons, List.foldl_cons]
    rw [ih]
    apply ByteArray.ext
    simp [ByteArray.push]

theorem run_b2s {s : List UInt8} {x : Value} {m : Nat} {new : Array Value} (hs : Src P w 1 m x new) (hn : new = (s.map fun b => Value.int .u8 b.toNat).toArray) (hx : ∃ a n c, x = .slice a n c) (hm : ∀ a n c, x = .slice a n c → n = m) :
    (Conv.bytesToString x).run P w = .ok (.string ⟨s.toArray⟩) w := by
  obtain ⟨a, n, c, rfl⟩ := hx
  obtain rfl := hm a n c rfl
  have h1 := hs.cells w rfl
  cases a with
  | none =>
    have h2 : new = #[] := by simpa [Builtin.firstCells] using h1.symm
    have h3 : s = [] := by rw [h2] at hn; cases s with
      | nil => rfl
      | cons b s => simp at hn
    subst h3
    rfl
  | some a =>
    simp only [Builtin.firstCells, Nat.mul_one] at h1
    have h2 : new = ((s.map fun b => (b.toNat : Int)).map (Value.int .u8)).toArray := by rw [hn]; simp
    rw [h2] at h1
    rw [run_bytesToString w a n c _ h1, foldl_push]
    simp

theorem sem_b2s {sT d el : TypeId} {x : Operand} (ho : o.op = .convert sT d x) (hs : P.underlying sT = some (.slice el)) (hd : P.underlying d = some .string) (hel : P.underlying el = some (.int .u8)) {x' : AOpd} (hx : copd x = some x')
    {N : AV → Prop} (hl : LN (.b2s x') e h N) : ∃ v, N v ∧ SemVal P o e h v := by
  simp only [LN] at hl
  split at hl <;> first | exact hl.elim | skip
  rename_i hns
  obtain ⟨es, s, h1, h2, h3⟩ := hl
  obtain ⟨g1, g2, g3⟩ := bytesL_ok h2
  refine ⟨_, h3, fun σ M w a hR hA => ?_⟩
  have h5 := copd_ok hx hA
  obtain ⟨new, hS, hV⟩ := src_ok hR (by omega : 0 < 1) h5 h1 g2
  rw [g1] at hV
  have hn := hV.bytes
  have hsl : ∃ (ad : Option Addr) (n c : Nat), a.eval x = .slice ad n c := by
    generalize ev e x' = v at h1 h5 hns
    cases v <;> simp only [srcEls] at h1 <;> first | exact h1.elim | skip
    case str t => exact absurd rfl (hns t)
    case nils => exact ⟨_, _, _, h5.nils_inv⟩
    case emp => obtain ⟨a, ha⟩ := h5.emp_inv; exact ⟨_, _, _, ha⟩
    case isl =>
      generalize a.eval x = q at h5 ⊢
      cases h5 with
      | isl0 _ a c => exact ⟨_, _, _, rfl⟩
      | isl => exact ⟨_, _, _, rfl⟩
    case slc => obtain ⟨L, a, c', e1, _⟩ := h5.slc_inv; exact ⟨_, _, _, e1⟩
  obtain ⟨ad, n, c, e1⟩ := hsl
  have hlen : n = es.length := by
    have := hS.len w
    rw [e1] at this
    simpa [Builtin.lenOf] using this
  refine ⟨_, ?_, VR.str s ⟨s.toArray⟩ (by simp)⟩
  have hr := run_b2s (s := s) hS hn ⟨_, _, _, e1⟩ (fun a n' c' e2 => by rw [e1] at e2; cases e2; exact hlen)
  rw [e1] at hr
  simp [execOp, ho, e1, run_convert_bytes_string w sT d el _ _ _ hs hel hd, hr]

/-- A new row, some of its cells frozen. -/
theorem R.newRowF (hR : R P σ M h w) {j : Nat} (hj : σ j = none) {T : TypeId} {i : TypeInfo} (hi : P.info? T = some i) {es : List (List AV)} (hl : ∀ cs ∈ es, cs.length = i.size) {A rest : Array Value} (hA : VRs σ M es.flatten A) (F : Nat × Nat)
    (hF : Unf F (A ++ rest).size) :
    R P (σ.set j ⟨w.heap.size, 0, (A ++ rest).size, i.size⟩) M (h.set j (.row T es)) (w.alloc (.cells (A ++ rest) T F)) := by
  refine hR.alloc hj rfl ⟨A ++ rest, F, by simp [← World.alloc_eq], rfl, by simp [hi], ?_, fun k cs hk => ⟨?_, hl cs (List.mem_of_getElem? hk)⟩, hF⟩
  · have := hA.1
    rw [flatten_len es hl] at this
    simp [this]
  · have h1 := (rows_of_flat hl hA k cs hk).mono (Emb.le_set (L := ⟨w.heap.size, 0, (A ++ rest).size, i.size⟩) hj) M.le_refl
    have hkl : k < es.length := (List.getElem?_eq_some_iff.1 hk).1
    have hsz : A.size = es.length * i.size := by rw [hA.1, flatten_len es hl]
    have hmul : (k + 1) * i.size ≤ es.length * i.size := Nat.mul_le_mul_right _ hkl
    rw [Nat.add_mul, Nat.one_mul] at hmul
    simp only [Nat.zero_add]
    have : (A ++ rest).extract (k * i.size) (k * i.size + i.size) = A.extract (k * i.size) (k * i.size + i.size) := by
      apply Array.ext'
      simp only [Array.toList_extract, Array.toList_append, List.extract_eq_take_drop]
      rw [List.drop_append_of_le_length (by rw [Array.length_toList]; omega), List.take_append_of_le_length (by rw [List.length_drop, Array.length_toList]; omega)]
    rw [this]; exact h1

theorem modify_push {xs : Array Obj} {ob : Obj} {f : Obj → Obj} : (xs.push ob).modify xs.size f = xs.push (f ob) := by
  apply Array.ext_getElem?
  intro k
  rw [Array.getElem?_modify]
  by_cases hk : xs.size = k
  · subst hk; simp
  · rw [if_neg hk, Array.getElem?_push, Array.getElem?_push, if_neg (Ne.symm hk), if_neg (Ne.symm hk)]

theorem op_s2b {sT d el : TypeId} {x : Operand} {i : TypeInfo} (ho : o.op = .convert sT d x) (hs : P.underlying sT = some .string) (hd : P.underlying d = some (.slice el)) (hel : P.underlying el = some (.int .u8)) (hi : P.info? el = some i) (h1 : i.size = 1)
    {x' : AOpd} (hx : copd x = some x') (hR : R P σ M h w) (hA : ActR σ M e a) (hN : NextS P σ M w a o.dst next nx) (hl : LOp P md (.s2b el x') e h next X) : o.wpIn (fw ro) 0 P a w nx Qx := by
  simp only [LOp] at hl
  split at hl <;> first | exact hl.elim | skip
  rename_i s hv
  have h5 := copd_ok hx hA
  rw [hv] at h5
  obtain ⟨b, e1, hbs⟩ := h5.str_inv
  obtain ⟨j, hj, hjn⟩ := hR.fresh hl
  let cap := grownCap w b.size 0 el
  have hcap : b.size ≤ cap := grownCap_ge _ _ _ _
  let A : Array Value := b.data.map fun c => Value.int .u8 c.toNat
  let rest : Array Value := Array.replicate (cap - b.size) (.int .u8 0)
  have hAsz : A.size = b.size := by show (Array.map _ b.data).size = b.data.size; rw [Array.size_map]
  have htot : (A ++ rest).size = cap := by rw [Array.size_append, hAsz]; show b.size + (Array.replicate (cap - b.size) _).size = cap; rw [Array.size_replicate]; omega
  have hV : VRs σ M (s.map fun c => [AV.int .u8 c.toNat]).flatten A := by
    have hfl : (s.map fun c => [AV.int .u8 c.toNat]).flatten = s.map fun c => AV.int .u8 (c.toNat : Int) := by
      generalize s = l
      induction l with
      | nil => rfl
      | cons c l ih => simp [ih]
    rw [hfl, ← hbs]
    exact VRs.map_of b.data (fun c => AV.int .u8 c.toNat) (fun c => Value.int .u8 c.toNat) (fun c _ => .int _ _)
  have hN' := (hR.drew).newRowF (j := j) hj hi (es := s.map fun c => [AV.int .u8 c.toNat]) (fun cs hc => by obtain ⟨c, _, rfl⟩ := List.mem_map.1 hc; simp [h1]) (A := A) (rest := rest) hV ((A ++ rest).size, (A ++ rest).size + 1)
    (.inr (Nat.le_refl _))
  have hfz : ∀ o : Obj, True := fun _ => trivial
  have hworld : (w.drew.alloc (.cells (A ++ rest) el)).freeze { block := w.heap.size, off := (A ++ rest).size } 1 = w.drew.alloc (.cells (A ++ rest) el ((A ++ rest).size, (A ++ rest).size + 1)) := by
    simp only [World.freeze, ← World.alloc_eq]
    simp only [show ¬ ((1 : Nat) = 0) by omega, if_false]
    congr 1
    exact (modify_push (xs := w.heap)).trans (by simp; rfl)
  have hrun : (execOp a.eval o).run P w = .ok (.value (.slice (some ⟨w.heap.size, 0, none⟩) b.size cap)) (w.drew.alloc (.cells (A ++ rest) el ((A ++ rest).size, (A ++ rest).size + 1))) := by
    have hch : (choose (.appendCap b.size 0 el)).run P w = .ok cap w.drew := by
      rfl
    have hsh : (shape w.heap.size).run P (w.drew.alloc (.cells (A ++ rest) el)) = .ok (some (el, (A ++ rest).size)) (w.drew.alloc (.cells (A ++ rest) el)) :=
      run_shape (F := (0, 0)) (by rw [← World.alloc_eq]; show (w.heap.push _)[w.heap.size]? = _; simp)
    have hfr : (freeze { block := w.heap.size, off := (A ++ rest).size } 1).run P (w.drew.alloc (.cells (A ++ rest) el)) = .ok () (w.drew.alloc (.cells (A ++ rest) el ((A ++ rest).size, (A ++ rest).size + 1))) := by
      rw [← hworld]; rfl
    have hnr : (newRow el (A ++ rest)).run P w.drew = .ok ⟨w.heap.size, 0, none⟩ (w.drew.alloc (.cells (A ++ rest) el)) := by
      simp [newRow]
    have hst : (Conv.stringToBytes el b).run P w = .ok (.slice (some ⟨w.heap.size, 0, none⟩) b.size cap) (w.drew.alloc (.cells (A ++ rest) el ((A ++ rest).size, (A ++ rest).size + 1))) := by
      simp only [Conv.stringToBytes, Sem.run_bind, hch, Result.andThen]
      have : (b.data.map fun c => Value.int .u8 c.toNat) ++ Array.replicate (cap - b.size) (.int .u8 0) = A ++ rest := rfl
      simp only [this, hnr, markStringish, Sem.run_bind, hsh, Result.andThen, hfr, Sem.run_pure]
    simp only [execOp, ho, e1, convert, Sem.run_bind, run_underlying hs, run_underlying hd, run_underlying hel, Result.andThen, hst, Sem.run_pure]
  refine wpIn_of_run hrun (hN _ M _ _ (.slc j 0 s.length none) _ ((Ext.drew).trans (Ext.alloc hj)) hN' ?_ hjn)
  have hsl : s.length = b.size := by rw [← hbs]; exact Array.length_toList
  rw [hsl]
  refine .slc j 0 b.size none _ _ cap (Emb.set_same _ _ _) (fun _ => by simp) hcap (fun _ h => by cases h) (fun _ => ?_)
  show 0 + (0 + cap) * i.size ≤ (A ++ rest).size
  rw [h1, htot]; omega

theorem op_mnz {f : FuncId} {x : Operand} {ts : Array TypeId} {args : Array Operand} {fn : Func} {t el : TypeId} {i : TypeInfo} (ho : o.op = .call { callee := .value (.func f), args, argTypes := ts }) (hargs : args.toList = [x]) (hf : P.funcs[f]? = some fn)
    (hb : fn.body.isNone = true) (hor : fn.origin = "") (hname : fn.name = "internal/bytealg.MakeNoZero") (hres : fn.resultTypes.toList = [t]) (ht : P.underlying t = some (.slice el)) (hi : P.info? el = some i) (h1 : i.size = 1)
    {x' : AOpd} (hx : copd x = some x') (hR : R P σ M h w) (hA : ActR σ M e a) (hN : NextS P σ M w a o.dst next nx) (hl : LOp P md (.mnz el x') e h next X) : o.wpIn (fw ro) 0 P a w nx Qx := by
  have ha : args = #[x] := by rw [← Array.toArray_toList (xs := args), hargs]
  subst ha
  have hrt : fn.resultTypes = #[t] := by rw [← Array.toArray_toList (xs := fn.resultTypes), hres]
  simp only [LOp] at hl
  split at hl <;> first | exact hl.elim | skip
  rename_i n hv
  obtain ⟨m, rfl, hm, hl⟩ := hl
  have h5 := copd_ok hx hA
  rw [hv] at h5
  obtain ⟨j, hj, hjn⟩ := hR.fresh hl
  obtain ⟨cs, hrun, hcs, _⟩ := Lib.run_makeNoZero (P := P) w fn.params t el ht m hm
  have hfind : Extern.findNext fn = none ∧ Extern.find fn = some (Extern.BytealgMakeNoZero.makeNoZero fn.params fn.resultTypes) := by
    cases fn with
    | mk => simp only at hname hor; subst hname; subst hor; exact ⟨by kernel_rfl, by kernel_rfl⟩
  have hr : (execOp a.eval o).run P w = .ok (.value (.slice (some ⟨w.heap.size, 0, none⟩) m cs.size)) (w.drew.drew.alloc (.cells cs el)) := by
    refine exec_externW ho hf hb (by rw [hname]; rfl) (g := Extern.BytealgMakeNoZero.makeNoZero fn.params fn.resultTypes) hfind ?_
    rw [hrt]
    simp only [List.map_toArray, List.map_cons, List.map_nil, h5.int_inv]
    exact hrun
  have hN' := (hR.drew.drew).newRow (j := j) hj hi (es := []) (fun _ h => by simp at h) (A := #[]) (rest := cs) .nil
  rw [Array.empty_append] at hN'
  refine wpIn_of_run hr (hN _ M _ _ (.slc j 0 m none) _ (((Ext.drew).trans Ext.drew).trans (Ext.alloc hj)) hN' ?_ hjn)
  refine .slc j 0 m none _ _ cs.size (Emb.set_same _ _ _) (fun _ => by simp) hcs (fun _ h => by cases h) (fun _ => ?_)
  show 0 + (0 + cs.size) * i.size ≤ cs.size
  rw [h1]; omega

theorem run_ustr {pt it ty el : TypeId} {i : TypeInfo} (hp : P.underlying pt = some (.pointer el)) (hi : P.info? el = some i) (h1 : i.size = 1) {b q cells : Nat} (hsh : w.shape? b = some (el, cells)) (l : List UInt8) (h0 : l ≠ []) (hn : q + l.length ≤ cells)
    (h63 : l.length ≤ 9223372036854775807) {k : IntKind} (hcell : ∀ j x, l[j]? = some x → w.cell? ((⟨b, q, none⟩ : Addr).add j) = some (.int .u8 x.toNat)) :
    (Builtin.unsafeString_ #[pt, it] ty #[.pointer (some ⟨b, q, none⟩), .int k l.length]).run P w = .ok (.string ⟨l.toArray⟩) (w.freeze ⟨b, q, none⟩ l.length) := by
  have hl : l.length ≠ 0 := by simpa using h0
  have hlb := Lib.run_loadBytes (P := P) w l ⟨b, q, none⟩ .empty hcell
  have hlies : liesAt P P.depth el (cells / P.cellsOf el) q el l.length = true := by
    have := liesAt_row (P := P) hi (by omega) (cells := cells) (k := q) (n := l.length) (by rw [h1]; omega)
    rwa [h1, Nat.mul_one] at this
  have h63' : ¬ (9223372036854775807 : Int) < (l.length : Int) := by omega
  have hdef : Builtin.unsafeString_ #[pt, it] ty #[.pointer (some ⟨b, q, none⟩), .int k l.length] =
      (do
        let n ← asInt (.int k l.length)
        if n < 0 then runtimePanic (.error "unsafe.String: len out of range")
        if n > IntKind.i64.max then unsupported (.unsafePointer "String: a length above the largest int")
        if n = 0 then pure (.string .empty)
        else if ← variablesAt ⟨b, q, none⟩ (← elemOf pt) n.toNat then do
          let s ← loadBytes ⟨b, q, none⟩ .empty n.toNat
          freeze ⟨b, q, none⟩ n.toNat
          pure (.string s)
        else unsupported (.unsafePointer "String: not so many bytes at ptr")) := rfl
  rw [hdef]
  have hmax : IntKind.i64.max = 9223372036854775807 := rfl
  have hneg : ¬ (l.length : Int) < 0 := by omega
  simp [asInt, asIntOf, hmax, h63', hneg, hl, variablesAt, hsh, elemOf, run_underlying hp, hlies, hlb]

theorem op_ustr {pt el : TypeId} {x n : Operand} {ts : Array TypeId} {args : Array Operand} {i : TypeInfo} (ho : o.op = .call { callee := .builtin .unsafeString, args, argTypes := ts }) (hargs : args.toList = [x, n]) (h0 : ts[0]? = some pt)
    (hp : P.underlying pt = some (.pointer el)) (hi : P.info? el = some i) (h1 : i.size = 1) {x' n' : AOpd} (hx : copd x = some x') (hn : copd n = some n') (h2 : ts.size = 2)
    (hR : R P σ M h w) (hA : ActR σ M e a) (hN : NextS P σ M w a o.dst next nx) (hl : LOp P md (.ustr el x' n') e h next X) : o.wpIn (fw ro) 0 P a w nx Qx := by
  have ha : args = #[x, n] := by rw [← Array.toArray_toList (xs := args), hargs]
  subst ha
  obtain ⟨it, rfl⟩ : ∃ it, ts = #[pt, it] := by
    refine ⟨ts[1], ?_⟩
    apply Array.ext
    · simp [h2]
    · intro j hj1 hj2
      have : j = 0 ∨ j = 1 := by simp at hj2; omega
      rcases this with rfl | rfl
      · have := Array.getElem?_eq_getElem (xs := ts) hj1
        rw [this] at h0; simpa using h0
      · rfl
  have fin : ∀ {v' : Value} {w' : World}, (Builtin.unsafeString_ #[pt, it] o.type #[a.eval x, a.eval n]).run P w = .ok v' w' → (execOp a.eval o).run P w = .ok (.value v') w' := fun hr => by
    simp [execOp, ho, resolve, invoke, builtin, hr]
  have hm : ∀ {k : IntKind}, k = k := rfl
  have zero : ∀ {p : Option Addr} {k : IntKind}, (Builtin.unsafeString_ #[pt, it] o.type #[.pointer p, .int k 0]).run P w = .ok (.string .empty) w := by
    intro p k
    have hmax : IntKind.i64.max = 9223372036854775807 := rfl
    cases p with
    | none =>
      have hdef : Builtin.unsafeString_ #[pt, it] o.type #[.pointer none, .int k 0] =
          (do
            let n ← asInt (.int k 0)
            if n < 0 then runtimePanic (.error "unsafe.String: len out of range")
            if n > IntKind.i64.max then unsupported (.unsafePointer "String: a length above the largest int")
            if n = 0 then pure (.string .empty)
            else runtimePanic (.error "unsafe.String: ptr is nil and len is not zero")) := rfl
      rw [hdef]
      simp [asInt, asIntOf, hmax]
    | some ad =>
      have hdef : Builtin.unsafeString_ #[pt, it] o.type #[.pointer (some ad), .int k 0] =
          (do
            let n ← asInt (.int k 0)
            if n < 0 then runtimePanic (.error "unsafe.String: len out of range")
            if n > IntKind.i64.max then unsupported (.unsafePointer "String: a length above the largest int")
            if n = 0 then pure (.string .empty)
            else if ← variablesAt ad (← elemOf pt) n.toNat then do
              let s ← loadBytes ad .empty n.toNat
              freeze ad n.toNat
              pure (.string s)
            else unsupported (.unsafePointer "String: not so many bytes at ptr")) := rfl
      rw [hdef]
      simp [asInt, asIntOf, hmax]
  simp only [LOp] at hl
  split at hl <;> first | exact hl.elim | skip
  · rename_i b k K m hv hvn
    obtain ⟨j, rfl, hl⟩ := hl
    have g1 := copd_ok hx hA
    have g2 := copd_ok hn hA
    rw [hv] at g1; rw [hvn] at g2
    obtain ⟨L, hL, e1⟩ := g1.ptr_inv
    have e2 := g2.int_inv
    cases j with
    | zero =>
      refine wpIn_of_run (fin ?_) (hN σ M w h _ _ (.refl _ _ _) hR (VR.str [] .empty rfl) hl)
      rw [e1, e2]; exact zero
    | succ j =>
      obtain ⟨es, s, h3, h4, h63, h5, h6⟩ := hl
      obtain ⟨q1, q2, q3⟩ := bytesL_ok h5
      have hsl : s.length = j + 1 := by rw [← q3]; simp; omega
      obtain ⟨C, F, hb, hsz, hLz, hcap, hes, hF⟩ := hR.blk b _ L h3 hL
      have hz : L.z = 1 := by rw [hi] at hLz; simp only [Option.map_some, Option.some.injEq] at hLz; omega
      have hel : ∀ (y : Nat) (u : UInt8), s[y]? = some u → C[L.o + k + y]? = some (.int .u8 u.toNat) := by
        intro y u hu
        have hyl : y < j + 1 := by rw [← hsl]; exact (List.getElem?_eq_some_iff.1 hu).1
        have hky : k + y < es.length := by omega
        have c1 : ((es.drop k).take (j + 1))[y]? = some es[k + y] := by
          rw [List.getElem?_take_of_lt hyl, List.getElem?_drop]; exact List.getElem?_eq_getElem hky
        have c2 := q2 _ (List.mem_of_getElem? c1)
        obtain ⟨v, hv⟩ := List.length_eq_one_iff.1 c2
        have c3 : ((es.drop k).take (j + 1)).flatten[y]? = some v := by
          obtain ⟨cs, d1, d2⟩ := flatten_get (z := 1) (by omega) _ q2 y ((((es.drop k).take (j + 1)).flatten)[y]'(by rw [q1]; simp; omega)) (List.getElem?_eq_getElem _)
          simp only [Nat.div_one, Nat.mod_one] at d1 d2
          rw [c1] at d1; cases d1
          rw [hv] at d2
          rw [List.getElem?_eq_getElem (by rw [q1]; simp; omega)]
          simpa using d2.symm
        rw [q1, List.getElem?_map, hu] at c3
        simp only [Option.map_some, Option.some.injEq] at c3
        obtain ⟨hV, _⟩ := hes (k + y) _ (List.getElem?_eq_getElem hky)
        rw [hv] at hV
        obtain ⟨v', d1, d2⟩ := hV.2 0 v rfl
        rw [← c3] at d2
        rw [d2.int_inv, Array.getElem?_extract] at d1
        split at d1
        · rw [hz] at d1; simpa [Nat.add_assoc] using d1
        · cases d1
      have hs0 : s ≠ [] := fun e => by rw [e] at hsl; simp at hsl
      have haddr : L.o + k * L.z + 0 = L.o + k := by rw [hz]; omega
      have hlen : L.o + k + s.length ≤ C.size := by rw [hsz, hsl]; rw [hz] at hcap; omega
      have h63 : s.length ≤ 9223372036854775807 := by omega
      · have hr := run_ustr (P := P) (it := it) (ty := o.type) hp hi h1 (w := w) (b := L.b) (q := L.o + k) (cells := C.size) (by simp [World.shape?, hb]) s hs0 hlen h63 (k := K) (fun y u hu => by
          rw [add_none]; simp [World.cell?, hb, hel y u hu])
        refine wpIn_of_run (fin (v' := .string ⟨s.toArray⟩) (w' := w.freeze ⟨L.b, L.o + k, none⟩ s.length) ?_) (hN σ M _ (h.del b) _ _ ?_ ?_ (VR.str s ⟨s.toArray⟩ (by simp)) h6)
        · rw [e1, e2, haddr, ← hsl]; exact hr
        · refine ⟨σ.le_refl, M.le_refl, ?_, ?_, ?_, ?_⟩ <;> (unfold World.freeze; split <;> simp)
        · refine hR.kill h3 hL fun B hB => ?_
          unfold World.freeze
          split
          · rfl
          · simp only [Array.getElem?_modify]; rw [if_neg (by simpa using Ne.symm hB)]
  · rename_i hv hvn
    obtain ⟨rfl, hl⟩ := hl
    have g1 := copd_ok hx hA
    have g2 := copd_ok hn hA
    rw [hv] at g1; rw [hvn] at g2
    have e1 : a.eval x = .pointer none := by generalize a.eval x = q at g1; cases g1; rfl
    refine wpIn_of_run (fin ?_) (hN σ M w h _ _ (.refl _ _ _) hR (VR.str [] .empty rfl) hl)
    rw [e1, g2.int_inv]; exact zero

theorem op_cpy {t el : TypeId} {d sr : Operand} {ts : Array TypeId} {args : Array Operand} {i : TypeInfo} (ho : o.op = .call { callee := .builtin .copy, args, argTypes := ts }) (hargs : args.toList = [d, sr]) (h0 : ts[0]? = some t)
    (ht : P.underlying t = some (.slice el)) (hi : P.info? el = some i) (hz : i.size ≠ 0) {d' s' : AOpd} (hd : copd d = some d') (hs : copd sr = some s')
    (hR : R P σ M h w) (hA : ActR σ M e a) (hN : NextS P σ M w a o.dst next nx) (hl : LOp P md (.cpy el i.size d' s') e h next X) : o.wpIn (fw ro) 0 P a w nx Qx := by
  have ha : args = #[d, sr] := by rw [← Array.toArray_toList (xs := args), hargs]
  subst ha
  simp only [LOp] at hl
  split at hl <;> first | exact hl.elim | skip
  rename_i j k n c hv
  obtain ⟨es, src, h1, h2, h3, h4, h5, h6, h7, h8⟩ := hl
  have g1 := copd_ok hd hA
  have g2 := copd_ok hs hA
  rw [hv] at g1
  obtain ⟨L, ad, c', e1, hL, had, hnc, hk, hu⟩ := g1.slc_inv
  obtain ⟨new, hS, hV⟩ := src_ok hR (Nat.pos_of_ne_zero hz) g2 h2 h4
  have hLz : L.z = i.size := by
    obtain ⟨C, F, hb, hsz, hLz, _⟩ := hR.blk j _ L h1 hL
    rw [hi] at hLz; simpa using hLz.symm
  have hmin : Nat.min src.length n = src.length := Nat.min_eq_left h3
  have hcopy : ∀ {w' : World}, (storeCells ad new.toList).run P w = .ok () w' → (execOp a.eval o).run P w = .ok (.value (.int .i64 src.length)) w' := by
    intro w' hst
    have hc : (Builtin.copy_ ts o.type #[a.eval d, a.eval sr]).run P w = .ok (goInt src.length) w' := by
      have hl1 := hS.len w
      have hl2 := hS.cells w rfl
      simp only [Builtin.copy_, h0, e1, Sem.run_bind, run_underlying ht, Result.andThen, hl1, run_sizeOf' hi, hmin, hl2, hst, Sem.run_pure]
      simp [hl1, hmin, hl2, hst, Result.andThen, run_underlying ht, run_sizeOf' hi]
    simp [execOp, ho, resolve, invoke, builtin, hc, goInt]
  by_cases hc0 : c' = 0
  · have hsrc : src = [] := List.eq_nil_of_length_eq_zero (by omega)
    subst hsrc
    have hnew : new = #[] := by have := hS.size; simp at this; exact this
    have hst : (storeCells ad new.toList).run P w = .ok () w := by simp [hnew, storeCells]
    have hset : h.set j (.row el (es.take k ++ [] ++ es.drop (k + ([] : List (List AV)).length))) = h := hR.set_eq hL (by simp [h1])
    rw [hset] at h8
    exact wpIn_of_run (hcopy hst) (hN σ M w h _ _ (.refl _ _ _) hR (.int _ _) h8)
  · rw [had hc0] at hcopy
    have hroom : L.o + k * L.z + src.length * L.z ≤ L.s := by
      obtain ⟨C, F, hb, hsz, _, hcap, hes, hF⟩ := hR.blk j _ L h1 hL
      rcases h7 with h7 | h7
      · have : (k + src.length) * L.z ≤ es.length * L.z := Nat.mul_le_mul_right _ h7
        rw [Nat.add_mul] at this; omega
      · have h9 := hu h7
        have : (k + src.length) * L.z ≤ (k + c') * L.z := Nat.mul_le_mul_right _ (by omega)
        rw [Nat.add_mul] at this; omega
    obtain ⟨w1, q1, q2, q3⟩ := hR.storeElsX (q := k) hi h1 hL h6 hroom h4 hS.size hV h5
    exact wpIn_of_run (hcopy q1) (hN σ M w1 _ _ _ q3 q2 (.int _ _) h8)

theorem find_noesc (fn : Func) (h : fn.name = "internal/abi.NoEscape") (ho : fn.origin = "") : Extern.findNext fn = none ∧ Extern.find fn = some Extern.AbiNoEscape.same := by
  cases fn with
  | mk => simp only at h ho; subst h; subst ho; exact ⟨by kernel_rfl, by kernel_rfl⟩

theorem sem_noesc {f : FuncId} {x : Operand} {ts : Array TypeId} {args : Array Operand} {fn : Func} (ho : o.op = .call { callee := .value (.func f), args, argTypes := ts }) (hargs : args.toList = [x]) (hf : P.funcs[f]? = some fn)
    (hb : fn.body.isNone = true) (hor : fn.origin = "") (hname : fn.name = "internal/abi.NoEscape") {x' : AOpd} (hx : copd x = some x') {N : AV → Prop} (hl : LN (.mov x') e h N) : ∃ v, N v ∧ SemVal P o e h v := by
  have ha : args = #[x] := by rw [← Array.toArray_toList (xs := args), hargs]
  subst ha
  refine ⟨_, hl, fun σ M w a hR hA => ⟨a.eval x, ?_, copd_ok hx hA⟩⟩
  have h1 : #[x].map a.eval = #[a.eval x] := by simp
  exact exec_externW ho hf hb (by rw [hname]; rfl) (find_noesc fn hname hor) (by rw [h1]; rfl)

theorem find_race (fn : Func) (ho : fn.origin = "") : (fn.name = "internal/race.Disable" → Extern.findNext fn = none ∧ Extern.find fn = some (fun _ => do mark .disable; pure Extern.Race.none_)) ∧
    (fn.name = "internal/race.Enable" → Extern.findNext fn = none ∧ Extern.find fn = some (fun _ => do mark .enable; pure Extern.Race.none_)) ∧
    (fn.name = "internal/race.Acquire" → Extern.findNext fn = none ∧ Extern.find fn = some (Extern.Race.marked .acquire)) ∧
    (fn.name = "internal/race.ReleaseMerge" → Extern.findNext fn = none ∧ Extern.find fn = some (Extern.Race.marked .releaseMerge)) := by
  refine ⟨fun h => ?_, fun h => ?_, fun h => ?_, fun h => ?_⟩ <;>
  · cases fn with
    | mk => simp only at h ho; subst h; subst ho; exact ⟨by kernel_rfl, by kernel_rfl⟩

theorem sem_race0 {f : FuncId} {ts : Array TypeId} {args : Array Operand} {fn : Func} (ho : o.op = .call { callee := .value (.func f), args, argTypes := ts }) (hf : P.funcs[f]? = some fn)
    (hb : fn.body.isNone = true) (hor : fn.origin = "") (hname : fn.name = "internal/race.Disable" ∨ fn.name = "internal/race.Enable") {N : AV → Prop} (hl : LN (.mov (.c (.tup []))) e h N) : ∃ v, N v ∧ SemVal P o e h v := by
  refine ⟨_, hl, fun σ M w a hR hA => ⟨.tuple #[], ?_, VR.tup' .nil⟩⟩
  rcases hname with hname | hname
  · exact exec_externW ho hf hb (by rw [hname]; rfl) ((find_race fn hor).1 hname) rfl
  · exact exec_externW ho hf hb (by rw [hname]; rfl) ((find_race fn hor).2.1 hname) rfl

theorem sem_rac {f : FuncId} {x : Operand} {ts : Array TypeId} {args : Array Operand} {fn : Func} (ho : o.op = .call { callee := .value (.func f), args, argTypes := ts }) (hargs : args.toList = [x]) (hf : P.funcs[f]? = some fn)
    (hb : fn.body.isNone = true) (hor : fn.origin = "") (hname : fn.name = "internal/race.Acquire" ∨ fn.name = "internal/race.ReleaseMerge") {x' : AOpd} (hx : copd x = some x') {N : AV → Prop} (hl : LN (.rac x') e h N) : ∃ v, N v ∧ SemVal P o e h v := by
  have ha : args = #[x] := by rw [← Array.toArray_toList (xs := args), hargs]
  subst ha
  have run : ∀ {a : Act} {w : World} {ad : Addr}, a.eval x = .pointer (some ad) → (execOp a.eval o).run P w = .ok (.value (.tuple #[])) w := by
    intro a w ad he
    have h1 : #[x].map a.eval = #[.pointer (some ad)] := by simp [he]
    rcases hname with hname | hname
    · exact exec_externW ho hf hb (by rw [hname]; rfl) ((find_race fn hor).2.2.1 hname) (by rw [h1]; rfl)
    · exact exec_externW ho hf hb (by rw [hname]; rfl) ((find_race fn hor).2.2.2 hname) (by rw [h1]; rfl)
  simp only [LN] at hl
  split at hl <;> first | exact hl.elim | skip
  · rename_i hv
    refine ⟨_, hl, fun σ M w a hR hA => ?_⟩
    have h5 := copd_ok hx hA
    rw [hv] at h5
    obtain ⟨L, hL, e1⟩ := h5.ptr_inv
    exact ⟨_, run e1, VR.tup' .nil⟩
  · rename_i hv
    refine ⟨_, hl, fun σ M w a hR hA => ?_⟩
    have h5 := copd_ok hx hA
    rw [hv] at h5
    obtain ⟨ad, e1⟩ : ∃ ad, a.eval x = .pointer (some ad) := by
      generalize a.eval x = q at h5 ⊢
      cases h5; exact ⟨_, rfl⟩
    exact ⟨_, run e1, VR.tup' .nil⟩

theorem op_b2b {sT d el el2 : TypeId} {x : Operand} (ho : o.op = .convert sT d x) (hs : P.underlying sT = some (.slice el2)) (hd : P.underlying d = some (.slice el)) (hel : P.underlying el = some (.int .u8)) (hsd : sT = d)
    {x' : AOpd} (hx : copd x = some x') (hR : R P σ M h w) (hA : ActR σ M e a) (hN : NextS P σ M w a o.dst next nx) (hl : LOp P md (.b2b x') e h next X) : o.wpIn (fw ro) 0 P a w nx Qx := by
  simp only [LOp] at hl
  split at hl <;> first | exact hl.elim | skip
  rename_i i k n c hv
  obtain ⟨T, es, h1, hn0, h2⟩ := hl
  have g1 := copd_ok hx hA
  rw [hv] at g1
  obtain ⟨L, ad, c', e1, hL, had, hn, hk, hu⟩ := g1.slc_inv
  have hblock : ad.block = L.b := by rw [had (by omega)]
  obtain ⟨C, F, hb, hsz, hLz, hcap, hes, hF⟩ := hR.blk i _ L h1 hL
  have hlt := hR.placed h1 hL
  let F' : Nat × Nat := if F.1 == F.2 then (C.size, C.size + 1) else (min F.1 C.size, max F.2 (C.size + 1))
  have hF' : Unf F' L.s := by
    right
    show L.s ≤ (if F.1 == F.2 then (C.size, C.size + 1) else (min F.1 C.size, max F.2 (C.size + 1))).1
    split
    · show L.s ≤ C.size; omega
    · rename_i hne
      rcases hF with hF | hF
      · exact absurd (by simpa using hF) hne
      · show L.s ≤ min F.1 C.size; omega
  let w1 := w.freeze { block := L.b, off := C.size } 1
  have hw1 : w1.heap = w.heap.modify L.b fun
      | .cells c elem (lo, hi) => .cells c elem (if lo == hi then (C.size, C.size + 1) else (min lo C.size, max hi (C.size + 1)))
      | o => o := rfl
  have hat : w1.heap[L.b]? = some (.cells C T F') := by
    rw [hw1, Array.getElem?_modify, if_pos rfl, hb]; rfl
  have hoth : ∀ B, B ≠ L.b → w1.heap[B]? = w.heap[B]? := fun B hB => by
    rw [hw1, Array.getElem?_modify, if_neg (Ne.symm hB)]
  have hE : Ext σ M w σ M w1 := ⟨σ.le_refl, M.le_refl, by rw [hw1]; simp, rfl, rfl, rfl⟩
  have hR1 : R P σ M h w1 := by
    have := hR.upd (w' := w1) h1 hL hoth (b' := .row T es) ⟨C, F', hat, hsz, hLz, hcap, hes, hF'⟩
    rwa [hR.set_eq hL h1] at this
  have hrun : (execOp a.eval o).run P w = .ok (.value (.slice (some ad) n c')) w1 := by
    have hsh : (shape ad.block).run P w = .ok (some (T, C.size)) w := by rw [hblock]; exact run_shape hb
    have hfr : (freeze { block := ad.block, off := C.size } 1).run P w = .ok () w1 := by rw [hblock]; rfl
    subst hsd
    obtain rfl : el2 = el := by rw [hs] at hd; cases hd; rfl
    have hbe : (sT == sT) = true := by simp
    simp only [execOp, ho, e1, convert, Sem.run_bind, run_underlying hs, Result.andThen, hbe, run_underlying hel, markStringish, hsh, hfr, Sem.run_pure]
  exact wpIn_of_run hrun (hN σ M w1 h _ _ hE hR1 (.slc i k n c L ad c' hL had hn hk hu) h2)

theorem sem_adr {t el : TypeId} {n : Nat} {j : TypeInfo} {x y : Operand} (ho : o.op = .indexAddr t x y) (ht : P.underlying t = some (.array n el)) (hj : P.info? el = some j) {x' y' : AOpd} (hx : copd x = some x') (hy : copd y = some y') {N : AV → Prop}
    (hl : LN (.adr n j.size x' y') e h N) : ∃ v, N v ∧ SemVal P o e h v := by
  have exec : ∀ {a : Act} {w : World} {b q k : Nat} {kd : IntKind}, a.eval x = .pointer (some ⟨b, q, none⟩) → a.eval y = .int kd k → k < n → (execOp a.eval o).run P w = .ok (.value (.pointer (some ⟨b, q + k * j.size, none⟩))) w := by
    intro a w b q k kd he hn hlt
    have h3 : (k : Int) < n := by omega
    simp [execOp, ho, Instr.indexAt, Instr.sureAddr, hn, asIntOf, run_underlying ht, he, hlt, run_sizeOf' hj, add_none]
  simp only [LN] at hl
  split at hl <;> first | exact hl.elim | skip
  · rename_i g cs q kd m hs hm
    obtain ⟨k, rfl, hlt, hN⟩ := hl
    refine ⟨_, hN, fun σ M w a hR hA => ?_⟩
    have h1 := copd_ok hx hA
    have h2 := copd_ok hy hA
    rw [hs] at h1; rw [hm] at h2
    generalize hv : a.eval x = v at h1
    cases h1 with
    | iptr _ _ _ B O C T F d hM hc hv' => exact ⟨_, exec hv h2.int_inv hlt, by rw [Nat.add_assoc]; exact .iptr g cs (q + k * j.size) B O C T F d hM hc hv'⟩
  · rename_i b k0 q kd m hs hm
    obtain ⟨k, rfl, hlt, hN⟩ := hl
    refine ⟨_, hN, fun σ M w a hR hA => ?_⟩
    have h1 := copd_ok hx hA
    have h2 := copd_ok hy hA
    rw [hs] at h1; rw [hm] at h2
    obtain ⟨L, hL, hv⟩ := h1.ptr_inv
    exact ⟨_, exec hv h2.int_inv hlt, by rw [Nat.add_assoc]; exact .ptr b k0 (q + k * j.size) L hL⟩

theorem sem_mkm {nm : String} {first cap : Array Operand} (ho : o.op = .makeFunc (.method nm) first cap) (hcap : cap.toList = []) {first' : List AOpd} (hx : copds first.toList = some first') {N : AV → Prop} (hl : LN (.mkm nm first') e h N) : ∃ v, N v ∧ SemVal P o e h v := by
  have ha : cap = #[] := by rw [← Array.toArray_toList (xs := cap), hcap]
  subst ha
  refine ⟨_, hl, fun σ M w a hR hA => ?_⟩
  have h1 := copds_ok hx hA
  have h2 : (first.toList.map a.eval).toArray = first.map a.eval := by rw [← Array.toList_map, Array.toArray_toList]
  rw [h2] at h1
  exact ⟨.func (.method nm) (first.map a.eval) #[], by simp [execOp, ho, Instr.makeFunc], VR.func' (fun _ h => by cases h) h1 .nil⟩

theorem find_cmp (fn : Func) (h : fn.name = "internal/bytealg.abigen_runtime_cmpstring") (ho : fn.origin = "") : Extern.findNext fn = none ∧ Extern.find fn = some Extern.BytealgCompare.compare := by
  cases fn with
  | mk => simp only at h ho; subst h; subst ho; exact ⟨by kernel_rfl, by kernel_rfl⟩

theorem sem_xcmp {f : FuncId} {args : Array Operand} {x y : Operand} {ts : Array TypeId} {fn : Func} (ho : o.op = .call { callee := .value (.func f), args, argTypes := ts }) (hargs : args.toList = [x, y]) (hf : P.funcs[f]? = some fn) (hb : fn.body.isNone = true) (hor : fn.origin = "")
    (hn : fn.name = "internal/bytealg.abigen_runtime_cmpstring") {x' y' : AOpd} (hx : copd x = some x') (hy : copd y = some y') {N : AV → Prop} (hl : LN (.xcmp x' y') e h N) : ∃ v, N v ∧ SemVal P o e h v := by
  have ha : args = #[x, y] := by rw [← Array.toArray_toList (xs := args), hargs]
  subst ha
  simp only [LN] at hl
  split at hl <;> first | exact hl.elim | skip
  rename_i s t hs hm
  refine ⟨_, hl, fun σ M w a hR hA => ?_⟩
  have h1 := copd_ok hx hA
  have h2 := copd_ok hy hA
  rw [hs] at h1; rw [hm] at h2
  obtain ⟨b, e1, e2⟩ := h1.str_inv
  obtain ⟨c, e3, e4⟩ := h2.str_inv
  refine ⟨_, exec_extern ho hf hb (by rw [hn]; decide) (find_cmp fn hn hor) (v := .int .i64 (Lib.compareBytes s t)) ?_, .int _ _⟩
  have := Lib.run_compareString (P := P) b c w
  rw [e2, e4] at this
  simpa [e1, e3] using this

theorem sem_cpl {t : TypeId} {x : Operand} (ho : o.op = .unOp .xor t x) {x' : AOpd} (hx : copd x = some x') {N : AV → Prop} (hl : LN (.cpl x') e h N) : ∃ v, N v ∧ SemVal P o e h v := by
  simp only [LN] at hl
  split at hl <;> first | exact hl.elim | skip
  rename_i k n hb
  refine ⟨_, hl, fun σ M w a hR hA => ?_⟩
  have h1 := copd_ok hx hA
  rw [hb] at h1
  refine ⟨.int k (ibits .xor k (cond k.signed (-1) k.max) n), ?_, .int _ _⟩
  cases hs : k.signed <;> simp [execOp, ho, h1.int_inv, Op.unary, Op.intBits, ibits, hs]

theorem LX_sound (hc : compX P o = some ao) (hR : R P σ M h w) (hA : ActR σ M e a) (hN : NextS P σ M w a o.dst next nx) (hl : LOp P md ao e h next X) : o.wpIn (fw ro) 0 P a w nx Qx := by
  unfold compX at hc
  split at hc <;> first | cases hc | skip
  case h_1 s d x ho =>
    split at hc <;> first | cases hc | skip
    · rename_i t hs hd
      split at hc <;> first | cases hc | skip
      rename_i i hi
      split at hc <;> first | cases hc | skip
      rename_i h0
      obtain ⟨x', hx, rfl⟩ := Option.map_some_inv hc
      exact op_read hR hA hN (sem_upc ho hs hd hi (nbeq h0) hx (LOp_N rfl hl))
    · rename_i u hs hd
      split at hc <;> first | cases hc | skip
      rename_i i hi
      split at hc <;> first | cases hc | skip
      rename_i h0
      obtain ⟨x', hx, rfl⟩ := Option.map_some_inv hc
      exact op_read hR hA hN (sem_upt ho hs hd hi (nbeq h0) hx (LOp_N rfl hl))
    · rename_i el hs hd
      split at hc <;> first | cases hc | skip
      rename_i hel
      obtain ⟨x', hx, rfl⟩ := Option.map_some_inv hc
      exact op_read hR hA hN (sem_b2s ho hs hd hel hx (LOp_N rfl hl))
    · rename_i el2 el hs hd
      split at hc <;> first | cases hc | skip
      rename_i hel hsd
      obtain ⟨x', hx, rfl⟩ := Option.map_some_inv hc
      exact op_b2b ho hs hd hel (Nat.eq_of_beq_eq_true hsd) hx hR hA hN hl
    · rename_i el hs hd
      split at hc <;> first | cases hc | skip
      rename_i i hel hi
      split at hc <;> first | cases hc | skip
      rename_i h1
      obtain ⟨x', hx, rfl⟩ := Option.map_some_inv hc
      exact op_s2b ho hs hd hel hi (Nat.eq_of_beq_eq_true h1) hx hR hA hN hl
  case h_2 op xt x y yt ho =>
    split at hc <;> first | cases hc | skip
    · rename_i el hxt
      split at hc <;> first | cases hc | skip
      rename_i i neg x' y' hi hneg hx hy
      split at hc <;> cases hc
      rename_i h0
      exact op_read hR hA hN (sem_peq ho hxt hi (nbeq h0) hneg hx hy (LOp_N rfl hl))
    · rename_i fs hxt
      split at hc <;> cases hc
      rename_i ks neg x' y' hks hneg hx hy
      exact op_read hR hA hN (sem_aeq ho hxt hks hneg hx hy (LOp_N rfl hl))
  case h_3 args ts ho =>
    split at hc <;> first | cases hc | skip
    rename_i d s t hargs h0
    split at hc <;> first | cases hc | skip
    rename_i el ht
    split at hc <;> first | cases hc | skip
    rename_i i d' s' hi hd hs
    split at hc <;> cases hc
    rename_i hz
    exact op_cpy ho hargs h0 ht hi (nbeq hz) hd hs hR hA hN hl
  case h_4 args ts ho =>
    split at hc <;> first | cases hc | skip
    rename_i x hargs
    obtain ⟨x', hx, rfl⟩ := Option.map_some_inv hc
    exact op_read hR hA hN (sem_usd ho hargs hx (LOp_N rfl hl))
  case h_5 args ts ho =>
    split at hc <;> first | cases hc | skip
    rename_i x n pt hargs h0
    split at hc <;> first | cases hc | skip
    rename_i el hp
    split at hc <;> first | cases hc | skip
    rename_i i x' n' hi hx hn
    split at hc <;> cases hc
    rename_i h1
    simp only [Bool.and_eq_true] at h1
    exact op_ustr ho hargs h0 hp hi (Nat.eq_of_beq_eq_true h1.1) hx hn (Nat.eq_of_beq_eq_true h1.2) hR hA hN hl
  case h_6 f args ts ho =>
    split at hc <;> first | cases hc | skip
    rename_i fn hf
    split at hc <;> first | cases hc | skip
    rename_i hcond
    simp only [Bool.and_eq_true, beq_iff_eq] at hcond
    split at hc <;> first | cases hc | skip
    · split at hc <;> cases hc
      rename_i hargs hname
      simp only [Bool.or_eq_true, beq_iff_eq] at hname
      exact op_read hR hA hN (sem_race0 ho hf hcond.1 hcond.2 hname (LOp_N rfl hl))
    · split at hc <;> cases hc
      rename_i hargs _ _ _ x' y' hname hx hy
      exact op_read hR hA hN (sem_xcmp ho hargs hf hcond.1 hcond.2 (by simpa using hname) hx hy (LOp_N rfl hl))
    rename_i x hargs
    split at hc
    · rename_i hname
      simp only [Bool.or_eq_true, beq_iff_eq] at hname
      obtain ⟨x', hx, rfl⟩ := Option.map_some_inv hc
      exact op_read hR hA hN (sem_rac ho hargs hf hcond.1 hcond.2 hname hx (LOp_N rfl hl))
    split at hc
    · rename_i hname
      obtain ⟨x', hx, rfl⟩ := Option.map_some_inv hc
      exact op_read hR hA hN (sem_noesc ho hargs hf hcond.1 hcond.2 (by simpa using hname) hx (LOp_N rfl hl))
    · split at hc <;> first | cases hc | skip
      rename_i t hname hres
      split at hc <;> first | cases hc | skip
      rename_i el ht
      split at hc <;> first | cases hc | skip
      rename_i i hi
      split at hc <;> first | cases hc | skip
      rename_i h1
      obtain ⟨x', hx, rfl⟩ := Option.map_some_inv hc
      exact op_mnz ho hargs hf hcond.1 hcond.2 (by simpa using hname) hres ht hi (Nat.eq_of_beq_eq_true h1) hx hR hA hN hl
  case h_7 t x y ho =>
    split at hc <;> first | cases hc | skip
    rename_i n el ht
    split at hc <;> cases hc
    rename_i hj hx hy
    exact op_read hR hA hN (sem_adr ho ht hj hx hy (LOp_N rfl hl))
  case h_8 t x ho =>
    obtain ⟨x', hx, rfl⟩ := Option.map_some_inv hc
    exact op_read hR hA hN (sem_cpl ho hx (LOp_N rfl hl))
  case h_9 nm first cap ho =>
    split at hc <;> cases hc
    rename_i l hcap hf
    exact op_read hR hA hN (sem_mkm ho hcap hf (LOp_N rfl hl))

theorem inv_nilAhead {name : String} {t : Nat} (hm : (tlook t (invTab P name)).isSome = true) (v : Value) (n : Nat) (w : World) : (nilAhead (n + 1) t v name).run P w = .ok (some false) w := by
  obtain ⟨f, hf⟩ := Option.isSome_iff_exists.1 hm
  have hm := tlook_mem hf
  unfold invTab at hm
  obtain ⟨t', _, ht⟩ := List.mem_filterMap.1 hm
  unfold invOf at ht
  split at ht <;> first | cases ht | skip
  rename_i i hi
  split at ht <;> first | cases ht | skip
  rename_i m hfm
  split at ht <;> first | cases ht | skip
  rename_i p hfp
  split at ht <;> first | cases ht | skip
  rename_i d hd
  split at ht <;> first | cases ht | skip
  rename_i fn hfn
  have hc : invOk d p.2 m.path.isEmpty fn.body.isSome fn.name = true := by
    cases hc : invOk d p.2 m.path.isEmpty fn.body.isSome fn.name with
    | false => rw [hc] at ht; cases ht
    | true => rfl
  rw [hc] at ht
  cases ht
  obtain ⟨f', pr⟩ := p
  unfold invOk at hc
  simp only [Bool.and_eq_true, bne_iff_ne, ne_eq] at hc
  obtain ⟨h1, h2, h3, h4⟩ := hc
  have hpath : m.path.toList = [] := by simpa using h1
  have hti : (typeInfo t).run P w = .ok i w := run_typeInfo' hi w
  simp only [nilAhead, Sem.run_bind, hti, Result.andThen, hfm, hpath, followBlind, Sem.run_pure, hfp]
  cases d with
  | pointer el =>
    have h2' : pr = true := h2
    subst h2'
    rfl
  | _ =>
    have h2' : pr = false := by simpa using h2
    subst h2'
    simp [run_underlying hd]

theorem op_nilm (hc : compNc P o = some ao) (hR : R P σ M h w) (hA : ActR σ M e a) (hN : NextS P σ M w a o.dst next nx) (hl : LOp P md ao e h next X) : o.wpIn (fw ro) 0 P a w nx Qx := by
  unfold compNc at hc
  split at hc <;> first | cases hc | skip
  rename_i x ho
  split at hc <;> first | cases hc | skip
  obtain ⟨x', hx, rfl⟩ := Option.map_some_inv hc
  have h1 := copd_ok hx hA
  simp only [LOp] at hl
  split at hl <;> first | exact hl.elim | skip
  · rename_i f p q hs
    rw [hs] at h1
    obtain ⟨f', c', e1, _⟩ := h1.func_inv
    exact wpIn_of_run (v' := a.eval x) (w' := w) (by rw [e1]; simp [execOp, ho, e1]) (hN σ M w h _ _ (.refl _ _ _) hR h1 hl)
  · rename_i nm t v hs
    rw [hs] at h1
    obtain ⟨f', c', e1, hfi, hca, _⟩ := h1.func_inv
    obtain ⟨u0, q1, q2⟩ := hfi.2 0 _ rfl
    obtain ⟨u, rfl, hu⟩ : ∃ u, u0 = .iface t u ∧ VR σ M v u := by cases q2 with | ifc _ _ u hu => exact ⟨u, rfl, hu⟩
    have hp : (program).run P w = .ok P w := rfl
    have hd : P.types.size + Made.depth = P.types.size + (Made.depth - 1) + 1 := by simp [Made.depth]
    have hna := inv_nilAhead (P := P) hl.1 u (P.types.size + (Made.depth - 1)) w
    exact wpIn_of_run (v' := a.eval x) (w' := w) (by rw [e1]; simp [execOp, ho, e1, q1, hp, hd, hna]) (hN σ M w h _ _ (.refl _ _ _) hR h1 hl.2)

theorem LOp_sound (hc : comp P o = some ao) (hR : R P σ M h w) (hA : ActR σ M e a) (hN : NextS P σ M w a o.dst next nx) (hP : PanS P σ M w a X Qx) (hl : LOp P md ao e h next X) : o.wpIn (fw ro) 0 P a w nx Qx := by
  unfold comp at hc
  split at hc
  · rename_i b hb; cases hc
    unfold compY at hb
    split at hb
    · rename_i c hcN; cases hb; exact op_nilm hcN hR hA hN hl
    · exact LOp_sound3 hb hR hA hN hP hl
  · split at hc
    · rename_i b hb; cases hc; exact LV_sound hb hR hA hN hP hl
    · exact LX_sound hc hR hA hN hl
end
end Go.L
