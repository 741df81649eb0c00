/-
  The logic L, part m2: more operations turned into those of the logic; all operations are sound.
-/
import Derived.Test.YtpmjgnpkbmfimaaGreatDoorLm
import Derived.Test.YtpmjgnpkbmfimaaGreatDoorLf3
import Derived.Test.YtpmjgnpkbmfimaaGreatDoorLl2
import Derived.Test.YtpmjgnpkbmfimaaGreatDoorLt2
namespace Go.L

def eqlNeg : BinOp → Option Bool
  | .eql => some false
  | .neq => some true
  | _ => none

/-- More operations that only read. -/
def compM (P : Program) (o : Oper) : Option AOp :=
  match o.op with
  | .binOp op xt x y _ => do
    let d ← P.underlying xt
    let k ← nilC d y
    let neg ← eqlNeg op
    some (.isnil k neg (← copd x))
  | .slice t x lo hi mx => do
    let .slice el ← P.underlying t | none
    let j ← P.info? el
    if mx.isSome && !hi.isSome then none else
    some (.slcl el j.size (← copd x) (← copdO lo) (← copdO hi) (← copdO mx))
  | .convert s t x => do
    let .string ← P.underlying t | none
    let .string ← P.underlying s | none
    some (.convs (← copd x))
  | .call { callee := .builtin .cap, args, argTypes } => do
    let t ← argTypes[0]?
    let .slice _ ← P.underlying t | none
    match args.toList with
    | [x] => some (.capk (← copd x))
    | _ => none
  | .call { callee := .builtin .min, args, .. } =>
    match args.toList with
    | [x, y] => do some (.mn (← copd x) (← copd y))
    | _ => none
  | .call { callee := .builtin .max, args, .. } =>
    match args.toList with
    | [x, y] => do some (.mx (← copd x) (← copd y))
    | _ => none
  | .call { callee := .value (.func f), args, .. } => do
    let fn ← P.funcs[f]?
    if fn.body.isNone && fn.origin == "" then
      match args.toList with
      | [x, y] =>
        if fn.name == "internal/bytealg.CountString" then do some (.xcount (← copd x) (← copd y))
        else if fn.name == "internal/bytealg.IndexByteString" then do some (.xindex (← copd x) (← copd y))
        else none
      | _ => none
    else none
  | _ => none

/-- More operations that change memory, or call, or panic. -/
def compG (P : Program) (o : Oper) : Option AOp :=
  match o.op with
  | .buildSlice t 0 parts => do
    let .slice el ← P.underlying t | none
    let _ ← P.info? el
    if parts.isEmpty then some (.bslice0 el) else none
  | .call { callee := .builtin .append, args, argTypes } => do
    let t ← argTypes[0]?
    let u ← argTypes[1]?
    let .slice el ← P.underlying t | none
    let .int _ ← P.underlying u | none
    let j ← P.info? el
    let zv ← j.zero
    let z ← cvs zv.cells.toList
    if argTypes.size != 2 || j.size == 0 || zv.cells.size != j.size then none else
    match args.toList with
    | [s, x] => do some (.appz el j.size j.bytes z (← copd s) (← copd x))
    | _ => none
  | .call { callee := .builtin .clear, args, argTypes } => do
    let t ← argTypes[0]?
    let .slice el ← P.underlying t | none
    let j ← P.info? el
    let zv ← j.zero
    let z ← cvs zv.cells.toList
    if j.size == 0 || zv.cells.size != j.size then none else
    match args.toList with
    | [x] => do some (.clr el z (← copd x))
    | _ => none
  | .makeSlice t l c => do
    let .slice el ← P.underlying t | none
    let j ← P.info? el
    let zv ← j.zero
    let z ← cvs zv.cells.toList
    if j.size == 0 || zv.cells.size != j.size then none else
    some (.mkslice el j.size j.bytes z (← copd l) (← copd c))
  | .panic x => (copd x).map .pan
  | .call { callee := .value (.tmp f), args, .. } => do some (.callv (.t f) (← copds args.toList))
  | _ => none

/-- Operations on maps that only read. -/
def compK (P : Program) (o : Oper) : Option AOp :=
  match o.op with
  | .lookup t x k ok => do
    let .map kt et ← P.underlying t | none
    let d ← P.underlying kt
    let m ← mkOf P kt d
    let zi ← P.info? et
    let zv ← zi.zero
    let z ← cv zv
    some (.mlook m z ok (← copd x) (← copd k))
  | .call { callee := .builtin .len, args, argTypes } => do
    let t ← argTypes[0]?
    let .map _ _ ← P.underlying t | none
    match args.toList with
    | [x] => some (.mlen (← copd x))
    | _ => none
  | _ => none

/-- Operations that change maps. -/
def compH (P : Program) (o : Oper) : Option AOp :=
  match o.op with
  | .makeMap _ none => some .mkmap
  | .mapUpdate t x k v => do
    let .map kt _ ← P.underlying t | none
    let d ← P.underlying kt
    let m ← mkOf P kt d
    some (.mupd m (← copd x) (← copd k) (← copd v))
  | .insert t x k v => do
    let .map kt _ ← P.underlying t | none
    let d ← P.underlying kt
    let m ← mkOf P kt d
    some (.mupd m (← copd x) (← copd k) (← copd v))
  | _ => none

def comp2 (P : Program) (o : Oper) : Option AOp :=
  match comp1 P o with
  | some a => some a
  | none => match compG P o with
    | some a => some a
    | none => match compM P o with
      | some a => if isN a then some a else none
      | none => none

/-- An operation as the logic has it. -/
def comp3 (P : Program) (o : Oper) : Option AOp :=
  match comp2 P o with
  | some a => some a
  | none => match compH P o with
    | some a => some a
    | none => match compK P o with
      | some a => if isN a then some a else none
      | none => none

theorem args2 {args : Array Operand} {x y : Operand} (h : args.toList = [x, y]) : args = #[x, y] := by rw [← Array.toArray_toList (xs := args), h]
theorem args1 {args : Array Operand} {x : Operand} (h : args.toList = [x]) : args = #[x] := by rw [← Array.toArray_toList (xs := args), h]

section
variable {P : Program} {ro : Option Nat} {md : Bool} {o : Oper} {ao : AOp} {e : Env} {h : Hp} {next : AV → Prop}

theorem LM_sound (hc : compM P o = some ao) (hl : LN ao e h next) : ∃ v, next v ∧ SemVal P o e h v := by
  unfold compM at hc
  split at hc
  case h_1 op xt x y u ho =>
    obtain ⟨d, hd, hc⟩ := Option.bind_some_inv hc
    obtain ⟨k, hk, hc⟩ := Option.bind_some_inv hc
    obtain ⟨neg, hneg, hc⟩ := Option.bind_some_inv hc
    obtain ⟨x', h1, hc⟩ := Option.bind_some_inv hc
    cases hc
    cases op <;> cases hneg
    · exact LN_isnil ho hd hk (.inl rfl) h1 hl
    · exact LN_isnil ho hd hk (.inr rfl) h1 hl
  case h_2 t x lo hi mx ho =>
    obtain ⟨d, hd, hc⟩ := Option.bind_some_inv hc
    split at hc <;> first | cases hc | skip
    rename_i el
    obtain ⟨j, hj, hc⟩ := Option.bind_some_inv hc
    split at hc <;> first | cases hc | skip
    rename_i hcond
    obtain ⟨x', h1, hc⟩ := Option.bind_some_inv hc
    obtain ⟨lo', h2, hc⟩ := Option.bind_some_inv hc
    obtain ⟨hi', h3, hc⟩ := Option.bind_some_inv hc
    obtain ⟨mx', h4, hc⟩ := Option.bind_some_inv hc
    cases hc
    refine LN_slcl ho hd hj (fun hm => ?_) h1 h2 h3 h4 hl
    rw [hm] at hcond
    cases hh : hi.isSome with
    | true => rfl
    | false => rw [hh] at hcond; exact absurd rfl hcond
  case h_3 s t x ho =>
    obtain ⟨d, hd, hc⟩ := Option.bind_some_inv hc
    split at hc <;> first | cases hc | skip
    obtain ⟨d', hd', hc⟩ := Option.bind_some_inv hc
    split at hc <;> first | cases hc | skip
    obtain ⟨x', h1, hc⟩ := Option.bind_some_inv hc
    cases hc
    exact LN_convs ho hd hd' h1 hl
  case h_4 args ts ho =>
    obtain ⟨t, ht0, hc⟩ := Option.bind_some_inv hc
    obtain ⟨d, hd, hc⟩ := Option.bind_some_inv hc
    split at hc <;> first | cases hc | skip
    split at hc <;> first | cases hc | skip
    rename_i x hargs
    obtain ⟨x', h1, hc⟩ := Option.bind_some_inv hc
    cases hc
    rw [args1 hargs] at ho
    exact LN_capk ho ht0 hd h1 hl
  case h_5 args ts ho =>
    split at hc <;> first | cases hc | skip
    rename_i x y hargs
    obtain ⟨x', h1, hc⟩ := Option.bind_some_inv hc
    obtain ⟨y', h2, hc⟩ := Option.bind_some_inv hc
    cases hc
    rw [args2 hargs] at ho
    exact LN_mn ho h1 h2 hl
  case h_6 args ts ho =>
    split at hc <;> first | cases hc | skip
    rename_i x y hargs
    obtain ⟨x', h1, hc⟩ := Option.bind_some_inv hc
    obtain ⟨y', h2, hc⟩ := Option.bind_some_inv hc
    cases hc
    rw [args2 hargs] at ho
    exact LN_mx ho h1 h2 hl
  case h_7 f args ts ho =>
    obtain ⟨fn, hf, hc⟩ := Option.bind_some_inv hc
    split at hc <;> first | cases hc | skip
    rename_i hcond
    simp only [Bool.and_eq_true, beq_iff_eq] at hcond
    split at hc <;> first | cases hc | skip
    rename_i x y hargs
    rw [args2 hargs] at ho
    split at hc
    · rename_i hn
      obtain ⟨x', h1, hc⟩ := Option.bind_some_inv hc
      obtain ⟨y', h2, hc⟩ := Option.bind_some_inv hc
      cases hc
      exact LN_xcount ho hf hcond.1 (by simpa using hn) hcond.2 h1 h2 hl
    · split at hc <;> first | cases hc | skip
      rename_i hn
      obtain ⟨x', h1, hc⟩ := Option.bind_some_inv hc
      obtain ⟨y', h2, hc⟩ := Option.bind_some_inv hc
      cases hc
      exact LN_xindex ho hf hcond.1 (by simpa using hn) hcond.2 h1 h2 hl
  case h_8 => cases hc
end

section
variable {P : Program} {ro : Option Nat} {md : Bool} {o : Oper} {ao : AOp} {e : Env} {h : Hp} {next X : AV → Hp → Prop} {σ : Emb} {M : Mem} {w : World} {a : Act} {nx : Act → World → Prop} {Qx : Exit → Act → World → Prop}

theorem LG_sound (hc : compG P o = some ao) (hR : R P σ M h w) (hA : ActR σ M e a) (hN : NextS P σ M w a o.dst next nx) (hP : PanS P σ M w a X Qx) (hl : LOp P md ao e h next X) : o.wpIn (fw ro) 0 P a w nx Qx := by
  unfold compG at hc
  split at hc
  case h_1 t parts ho =>
    obtain ⟨d, hd, hc⟩ := Option.bind_some_inv hc
    split at hc
    · rename_i el
      obtain ⟨j, hj, hc2⟩ := Option.bind_some_inv hc
      clear hc
      by_cases hp : parts.isEmpty = true
      · rw [if_pos hp] at hc2
        have : parts = #[] := by simpa using hp
        subst this
        cases hc2; exact op_bslice0 ho hd hj hR hN hl
      · rw [if_neg hp] at hc2; cases hc2
    · cases hc
  case h_2 args ts ho =>
    obtain ⟨t, ht0, hc⟩ := Option.bind_some_inv hc
    obtain ⟨u, hu0, hc⟩ := Option.bind_some_inv hc
    obtain ⟨d, hd, hc⟩ := Option.bind_some_inv hc
    split at hc <;> first | cases hc | skip
    rename_i el
    obtain ⟨du, hdu, hc⟩ := Option.bind_some_inv hc
    split at hc <;> first | cases hc | skip
    obtain ⟨j, hj, hc⟩ := Option.bind_some_inv hc
    obtain ⟨zv, hz, hc⟩ := Option.bind_some_inv hc
    obtain ⟨z, hzz, hc⟩ := Option.bind_some_inv hc
    split at hc <;> first | cases hc | skip
    rename_i hcond
    split at hc <;> first | cases hc | skip
    rename_i sx xx hargs
    obtain ⟨s', h1, hc⟩ := Option.bind_some_inv hc
    obtain ⟨x', h2, hc⟩ := Option.bind_some_inv hc
    cases hc
    simp only [Bool.or_eq_true, not_or, Bool.not_eq_true, bne_eq_false_iff_eq, beq_eq_false_iff_ne, ne_eq] at hcond
    obtain ⟨⟨c2, c3⟩, c4⟩ := hcond
    have hts : ts = #[t, u] := by
      apply Array.ext
      · simp [c2]
      · intro i h1 h2
        have : i = 0 ∨ i = 1 := by simp at h2; omega
        rcases this with rfl | rfl
        · rw [Array.getElem?_eq_getElem h1] at ht0; simpa using ht0
        · rw [Array.getElem?_eq_getElem h1] at hu0; simpa using hu0
    rw [args2 hargs] at ho
    exact op_appz ho hts hd hdu hj hz (Nat.pos_of_ne_zero c3) c4 hzz h1 h2 hR hA hN hl
  case h_3 args ts ho =>
    obtain ⟨t, ht0, hc⟩ := Option.bind_some_inv hc
    obtain ⟨d, hd, hc⟩ := Option.bind_some_inv hc
    split at hc <;> first | cases hc | skip
    obtain ⟨j, hj, hc⟩ := Option.bind_some_inv hc
    obtain ⟨zv, hz, hc⟩ := Option.bind_some_inv hc
    obtain ⟨z, hzz, hc⟩ := Option.bind_some_inv hc
    split at hc <;> first | cases hc | skip
    rename_i hcond
    split at hc <;> first | cases hc | skip
    rename_i xx hargs
    obtain ⟨x', h2, hc⟩ := Option.bind_some_inv hc
    cases hc
    simp only [Bool.or_eq_true, not_or, Bool.not_eq_true, bne_eq_false_iff_eq, beq_eq_false_iff_ne, ne_eq] at hcond
    rw [args1 hargs] at ho
    exact op_clr ho ht0 hd hj hz (Nat.pos_of_ne_zero hcond.1) hcond.2 hzz h2 hR hA hN hl
  case h_4 t l c ho =>
    obtain ⟨d, hd, hc⟩ := Option.bind_some_inv hc
    split at hc <;> first | cases hc | skip
    obtain ⟨j, hj, hc⟩ := Option.bind_some_inv hc
    obtain ⟨zv, hz, hc⟩ := Option.bind_some_inv hc
    obtain ⟨z, hzz, hc⟩ := Option.bind_some_inv hc
    split at hc <;> first | cases hc | skip
    rename_i hcond
    obtain ⟨l', h1, hc⟩ := Option.bind_some_inv hc
    obtain ⟨c', h2, hc⟩ := Option.bind_some_inv hc
    cases hc
    simp only [Bool.or_eq_true, not_or, Bool.not_eq_true, bne_eq_false_iff_eq, beq_eq_false_iff_ne, ne_eq] at hcond
    exact op_mkslice ho hd hj hz (Nat.pos_of_ne_zero hcond.1) hcond.2 hzz h1 h2 hR hA hN hl
  case h_5 x ho => obtain ⟨x', h1, rfl⟩ := Option.map_some_inv hc; exact op_pan ho h1 hR hA hP hl
  case h_6 f args ts ho =>
    obtain ⟨as, h1, hc⟩ := Option.bind_some_inv hc
    cases hc
    exact op_callv (x' := .t f) ho rfl h1 hR hA hN hP hl
  case h_7 => cases hc

theorem LOp_sound2 (hc : comp2 P o = some ao) (hR : R P σ M h w) (hA : ActR σ M e a) (hN : NextS P σ M w a o.dst next nx) (hP : PanS P σ M w a X Qx) (hl : LOp P md ao e h next X) : o.wpIn (fw ro) 0 P a w nx Qx := by
  unfold comp2 at hc
  split at hc
  · rename_i b hb; cases hc; exact LOp_sound1 hb hR hA hN hP hl
  · split at hc
    · rename_i b hb; cases hc; exact LG_sound hb hR hA hN hP hl
    · split at hc <;> first | cases hc | skip
      rename_i b hb
      split at hc <;> first | cases hc | skip
      rename_i hn
      exact op_read hR hA hN (LM_sound hb (LOp_N hn hl))

theorem LK_sound {next : AV → Prop} (hc : compK P o = some ao) (hl : LN ao e h next) : ∃ v, next v ∧ SemVal P o e h v := by
  unfold compK at hc
  split at hc
  case h_1 t x k ok ho =>
    obtain ⟨d0, hd0, hc⟩ := Option.bind_some_inv hc
    split at hc <;> first | cases hc | skip
    obtain ⟨d, hd, hc⟩ := Option.bind_some_inv hc
    obtain ⟨m, hm, hc⟩ := Option.bind_some_inv hc
    obtain ⟨zi, hz, hc⟩ := Option.bind_some_inv hc
    obtain ⟨zv, hzv, hc⟩ := Option.bind_some_inv hc
    obtain ⟨z, hzz, hc⟩ := Option.bind_some_inv hc
    obtain ⟨x', h1, hc⟩ := Option.bind_some_inv hc
    obtain ⟨k', h2, hc⟩ := Option.bind_some_inv hc
    cases hc
    exact LN_mlook ho hd0 hd hm hz hzv hzz h1 h2 hl
  case h_2 args ts ho =>
    obtain ⟨t, ht0, hc⟩ := Option.bind_some_inv hc
    obtain ⟨d, hd, hc⟩ := Option.bind_some_inv hc
    split at hc <;> first | cases hc | skip
    split at hc <;> first | cases hc | skip
    rename_i x hargs
    obtain ⟨x', h1, hc⟩ := Option.bind_some_inv hc
    cases hc
    rw [args1 hargs] at ho
    exact LN_mlen ho ht0 hd h1 hl
  case h_3 => cases hc

theorem LH_sound (hc : compH P o = some ao) (hR : R P σ M h w) (hA : ActR σ M e a) (hN : NextS P σ M w a o.dst next nx) (hl : LOp P md ao e h next X) : o.wpIn (fw ro) 0 P a w nx Qx := by
  unfold compH at hc
  split at hc
  case h_1 t ho => cases hc; exact op_mkmap ho hR hN hl
  case h_2 t x k v ho =>
    obtain ⟨d0, hd0, hc⟩ := Option.bind_some_inv hc
    split at hc <;> first | cases hc | skip
    obtain ⟨d, hd, hc⟩ := Option.bind_some_inv hc
    obtain ⟨m, hm, hc⟩ := Option.bind_some_inv hc
    obtain ⟨x', h1, hc⟩ := Option.bind_some_inv hc
    obtain ⟨k', h2, hc⟩ := Option.bind_some_inv hc
    obtain ⟨v', h3, hc⟩ := Option.bind_some_inv hc
    cases hc
    exact op_mupd (.inl ho) hd0 hd hm h1 h2 h3 hR hA hN hl
  case h_3 t x k v ho =>
    obtain ⟨d0, hd0, hc⟩ := Option.bind_some_inv hc
    split at hc <;> first | cases hc | skip
    obtain ⟨d, hd, hc⟩ := Option.bind_some_inv hc
    obtain ⟨m, hm, hc⟩ := Option.bind_some_inv hc
    obtain ⟨x', h1, hc⟩ := Option.bind_some_inv hc
    obtain ⟨k', h2, hc⟩ := Option.bind_some_inv hc
    obtain ⟨v', h3, hc⟩ := Option.bind_some_inv hc
    cases hc
    exact op_mupd (.inr ho) hd0 hd hm h1 h2 h3 hR hA hN hl
  case h_4 => cases hc

theorem LOp_sound3 (hc : comp3 P o = some ao) (hR : R P σ M h w) (hA : ActR σ M e a) (hN : NextS P σ M w a o.dst next nx) (hP : PanS P σ M w a X Qx) (hl : LOp P md ao e h next X) : o.wpIn (fw ro) 0 P a w nx Qx := by
  unfold comp3 at hc
  split at hc
  · rename_i b hb; cases hc; exact LOp_sound2 hb hR hA hN hP hl
  · split at hc
    · rename_i b hb; cases hc; exact LH_sound hb hR hA hN hl
    · split at hc <;> first | cases hc | skip
      rename_i b hb
      split at hc <;> first | cases hc | skip
      rename_i hn
      exact op_read hR hA hN (LK_sound hb (LOp_N hn hl))
end
end Go.L
