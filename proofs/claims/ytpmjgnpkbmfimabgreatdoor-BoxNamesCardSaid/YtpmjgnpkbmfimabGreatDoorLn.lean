/-
  The logic L, part n: regions, code, functions.
-/
import Derived.Test.YtpmjgnpkbmfimabGreatDoorLr
namespace Go.L

structure AOper where
  dst : Option Nat
  op : AOp
  guard : Option (Nat × Bool)
  deriving Inhabited

/-- X if c is b, else Y. -/
def bcase (c b : Bool) (X Y : Prop) : Prop :=
  match c, b with
  | true, true => X
  | false, false => X
  | _, _ => Y

theorem bcase_intro {c b : Bool} {X Y : Prop} (h1 : c = true → bcase true b X Y) (h2 : c = false → bcase false b X Y) : bcase c b X Y := by
  cases c
  · exact h2 rfl
  · exact h1 rfl

/-- The value, with its head in sight. -/
def force (v : AV) (N : AV → Prop) : Prop :=
  match v with
  | .bool b => N (.bool b)
  | .int k n => N (.int k n)
  | .flt k n => N (.flt k n)
  | .str s => N (.str s)
  | .nilp => N .nilp
  | .ptr i k o => N (.ptr i k o)
  | .iptr g cs o => N (.iptr g cs o)
  | .nils => N .nils
  | .emp => N .emp
  | .slc i k n c => N (.slc i k n c)
  | .isl g es => N (.isl g es)
  | .nilm => N .nilm
  | .map i => N (.map i)
  | .func f a b => N (.func f a b)
  | .nilf => N .nilf
  | .yld i => N (.yld i)
  | .ifc t v => N (.ifc t v)
  | .nili => N .nili
  | .agg cs => N (.agg cs)
  | .tup vs => N (.tup vs)
theorem force_eq (v : AV) (N : AV → Prop) : force v N = N v := by cases v <;> rfl

/-- Operations one behind the other. -/
def LOps (P : Program) (md : Bool) : List AOper → (Env → Hp → Prop) → (AV → Env → Hp → Prop) → Env → Hp → Prop
  | [], K, _, e, h => K e h
  | ⟨d, o, none⟩ :: r, K, X, e, h => LOp P md o e h (fun v h' => force v fun v => LOps P md r K X (e.put d v) h') (fun v h' => X v e h')
  | ⟨d, o, some (t, b)⟩ :: r, K, X, e, h => match e.t t with
      | .bool c => bcase c b (LOp P md o e h (fun v h' => force v fun v => LOps P md r K X (e.put d v) h') (fun v h' => X v e h')) (LOps P md r K X (e.put d (.tup [])) h)
      | .tup _ => LOps P md r K X (e.put d (.tup [])) h
      | _ => False

/-- An operation that the logic does not have: nothing may come to it. -/
def compB (P : Program) (o : Oper) : AOp :=
  match comp P o with
  | some a => a
  | none => .bad

def compOper (P : Program) (n : Nat) (ops : Array Oper) (o : Oper) : Option AOper :=
  match compB P o with
  | a =>
    match (match o.dst with | none => true | some d => Nat.blt d n) with
    | false => none
    | true => match o.guard with
      | none => some ⟨o.dst, a, none⟩
      | some (j, b) => match ops[j]? with
        | none => none
        | some oj => match oj.dst with
          | none => none
          | some t => some ⟨o.dst, a, some (t, b)⟩

def compIdx (P : Program) (n : Nat) (ops : Array Oper) : List Nat → Option (List AOper)
  | [] => some []
  | i :: r => match ops[i]? with
    | none => none
    | some o => match compOper P n ops o, compIdx P n ops r with
      | some a, some l => some (a :: l)
      | _, _ => none

section
variable {P : Program} {ro : Option Nat} {md : Bool}

theorem compOper_inv {n : Nat} {ops : Array Oper} {o : Oper} {a : AOper} (h : compOper P n ops o = some a) :
    compB P o = a.op ∧ a.dst = o.dst ∧ (∀ d, o.dst = some d → d < n) ∧
    ((o.guard = none ∧ a.guard = none) ∨ ∃ j b oj t, o.guard = some (j, b) ∧ ops[j]? = some oj ∧ oj.dst = some t ∧ a.guard = some (t, b)) := by
  unfold compOper at h
  generalize compB P o = ao at h ⊢
  simp only at h
  split at h <;> first | cases h | skip
  rename_i hd
  have hd' : ∀ d, o.dst = some d → d < n := fun d he => by
    rw [he] at hd
    have hd2 : Nat.ble (d + 1) n = true := hd
    exact Nat.le_of_ble_eq_true hd2
  split at h
  · rename_i hg; cases h; exact ⟨rfl, rfl, hd', .inl ⟨hg, rfl⟩⟩
  · rename_i j b hg
    split at h <;> first | cases h | skip
    rename_i oj hoj
    split at h <;> first | cases h | skip
    rename_i t ht
    exact ⟨rfl, rfl, hd', .inr ⟨j, b, oj, t, hg, hoj, ht, rfl⟩⟩

theorem yielded_bool {ops : Array Oper} {σ : Emb} {M : Mem} {e : Env} {a : Act} (hA : ActR σ M e a) {j : Nat} {oj : Oper} {t : Nat} (hj : ops[j]? = some oj) (ht : oj.dst = some t) :
    (∀ c, e.t t = .bool c → yielded ops a.tmps j = some c) ∧ (∀ l, e.t t = .tup l → yielded ops a.tmps j = none) := by
  have h1 := hA.t t
  constructor
  · intro c hc
    rw [hc] at h1
    have h2 := h1.bool_inv
    have h3 : a.tmps[t]? = some (.bool c) := by
      rw [Array.getD_eq_getD_getElem?] at h2
      cases hx : a.tmps[t]? with
      | none => rw [hx] at h2; simp [undef] at h2
      | some v => rw [hx] at h2; simpa using h2
    simp [yielded, hj, ht, h3]
  · intro l hl
    rw [hl] at h1
    obtain ⟨A, h2, _⟩ := h1.tup_inv
    rw [Array.getD_eq_getD_getElem?] at h2
    cases hx : a.tmps[t]? with
    | none => simp [yielded, hj, ht, hx]
    | some v => rw [hx] at h2; simp at h2; subst h2; simp [yielded, hj, ht, hx]

/-- The logic's operation stands for the model's. -/
def Stands (P : Program) (ro : Option Nat) (md : Bool) (o : Oper) (ao : AOp) : Prop :=
  ∀ (e : Env) (h : Hp) (next X : AV → Hp → Prop) (σ : Emb) (M : Mem) (w : World) (a : Act) (nx : Act → World → Prop) (Qx : Exit → Act → World → Prop), R P σ M h w → ActR σ M e a →
    NextS P σ M w a o.dst next nx → PanS P σ M w a X Qx → LOp P md ao e h next X → o.wpIn (fw ro) 0 P a w nx Qx

structure OkOper (P : Program) (ro : Option Nat) (md : Bool) (n : Nat) (ops : Array Oper) (o : Oper) (a : AOper) : Prop where
  snd : Stands P ro md o a.op
  dst : a.dst = o.dst
  lt : ∀ d, o.dst = some d → d < n
  grd : (o.guard = none ∧ a.guard = none) ∨ ∃ j b oj t, o.guard = some (j, b) ∧ ops[j]? = some oj ∧ oj.dst = some t ∧ a.guard = some (t, b)

inductive OkL (P : Program) (ro : Option Nat) (md : Bool) (n : Nat) (ops : Array Oper) : List Nat → List AOper → Prop
  | nil : OkL P ro md n ops [] []
  | cons {i : Nat} {o : Oper} {a : AOper} {l : List Nat} {la : List AOper} (ho : ops[i]? = some o) (ha : OkOper P ro md n ops o a) (r : OkL P ro md n ops l la) : OkL P ro md n ops (i :: l) (a :: la)

theorem stands_bad {o : Oper} : Stands P ro md o .bad := fun _ _ _ _ _ _ _ _ _ _ _ _ _ _ hl => (show False from hl).elim
theorem stands_comp {o : Oper} : Stands P ro md o (compB P o) := by
  cases hc : comp P o with
  | none =>
    have : compB P o = .bad := by unfold compB; rw [hc]
    rw [this]; exact stands_bad
  | some a =>
    have : compB P o = a := by unfold compB; rw [hc]
    rw [this]; exact fun _ _ _ _ _ _ _ _ _ _ hR hA hN hP hl => LOp_sound hc hR hA hN hP hl

theorem okOper_of {n : Nat} {ops : Array Oper} {o : Oper} {a : AOper} (h : compOper P n ops o = some a) : OkOper P ro md n ops o a := by
  obtain ⟨h1, h2, h3, h4⟩ := compOper_inv h
  exact ⟨by rw [← h1]; exact stands_comp, h2, h3, h4⟩

theorem okL_of {n : Nat} {ops : Array Oper} : ∀ (l : List Nat) (la : List AOper), compIdx P n ops l = some la → OkL P ro md n ops l la := by
  intro l
  induction l with
  | nil => intro la hla; cases hla; exact .nil
  | cons i r ih =>
    intro la hla
    unfold compIdx at hla
    split at hla <;> first | cases hla | skip
    rename_i o ho
    split at hla <;> first | cases hla | skip
    rename_i ao lr hao hlr
    exact .cons ho (okOper_of hao) (ih lr hlr)

theorem LOps_sound2 {n : Nat} {ops : Array Oper} {K : Env → Hp → Prop} {X : AV → Env → Hp → Prop} {Q' : Exit → Act → World → Prop} (l2 : List Nat) :
    ∀ (l : List Nat) (la : List AOper), OkL P ro md n ops l la → ∀ (e : Env) (h : Hp) (σ : Emb) (M : Mem) (w : World) (a : Act), e.n = n → R P σ M h w → ActR σ M e a →
      (∀ σ' M' w' h' e' a', Ext σ M w σ' M' w' → R P σ' M' h' w' → ActR σ' M' e' a' → e'.n = n → K e' h' → wpOpsIn (fw ro) 0 P ops Q' l2 a' w') →
      (∀ σ' M' w' h' e' a' v v', Ext σ M w σ' M' w' → R P σ' M' h' w' → ActR σ' M' e' a' → e'.n = n → VR σ' M' v v' → X v e' h' → Q' (.panic [{ v := v', recovered := false }]) a' w') →
      LOps P md la K X e h → wpOpsIn (fw ro) 0 P ops Q' (l ++ l2) a w := by
  intro l
  induction l with
  | nil => intro la hla e h σ M w a hn hR hA hK hX hl; cases hla; exact hK σ M w h e a (.refl _ _ _) hR hA hn hl
  | cons i r ih =>
    intro la hla e h σ M w a hn hR hA hK hX hl
    cases hla with
    | cons ho hao hlr =>
    rename_i o ao lr
    obtain ⟨hc, hd, hdn, hg⟩ := hao
    simp only [List.cons_append, wpOpsIn, ho]
    obtain ⟨ad, aop, ag⟩ := ao
    simp only at hc hd hg
    have run : LOp P md aop e h (fun v h' => force v fun v => LOps P md lr K X (e.put ad v) h') (fun v h' => X v e h') → o.wpIn (fw ro) 0 P a w (wpOpsIn (fw ro) 0 P ops Q' (r ++ l2)) Q' := by
      intro hop
      refine hc _ _ _ _ σ M w a _ _ hR hA ?_ ?_ hop
      · intro σ' M' w' h' v v' hE hR' hv hnext
        rw [force_eq] at hnext
        have hA' : ActR σ' M' (e.put o.dst v) (a.put o.dst v') := (hA.mono hE.s hE.m).put (fun x hx => by rw [hn]; exact hdn x hx) hv
        rw [hd] at hnext
        exact ih lr hlr _ h' σ' M' w' _ (by cases o.dst <;> exact hn) hR' hA' (fun σ2 M2 w2 h2 e2 a2 hE2 => hK σ2 M2 w2 h2 e2 a2 (hE.trans hE2)) (fun σ2 M2 w2 h2 e2 a2 v2 v2' hE2 => hX σ2 M2 w2 h2 e2 a2 v2 v2' (hE.trans hE2)) hnext
      · intro σ' M' w' h' v v' hE hR' hv hx
        exact hX σ' M' w' h' e a v v' hE hR' (hA.mono hE.s hE.m) hn hv hx
    have skip_ : LOps P md lr K X (e.put ad (.tup [])) h → (∀ f, o.about P w a.eval = some f → (fw ro).fn f) ∧ wpOpsIn (fw ro) 0 P ops Q' (r ++ l2) (a.put o.dst undef) w := by
      intro hop
      refine ⟨fun _ _ => trivial, ?_⟩
      rw [hd] at hop
      exact ih lr hlr _ h σ M w _ (by cases o.dst <;> exact hn) hR (hA.put (fun x hx => by rw [hn]; exact hdn x hx) (VR.tup' .nil)) hK hX hop
    rcases hg with ⟨g1, g2⟩ | ⟨j, b, oj, t, g1, g2, g3, g4⟩
    · subst g2
      simp only [LOps] at hl
      have hw : Region.wanted o (yielded ops a.tmps) = true := by simp [Region.wanted, g1]
      rw [if_pos hw]; exact run hl
    · subst g4
      simp only [LOps] at hl
      obtain ⟨y1, y2⟩ := yielded_bool (ops := ops) hA g2 g3
      split at hl <;> first | exact hl.elim | skip
      · rename_i c hc'
        have hy := y1 c hc'
        have hw : Region.wanted o (yielded ops a.tmps) = (c == b) := by simp [Region.wanted, g1, hy]
        rw [hw]
        cases c <;> cases b <;> simp only [bcase] at hl <;> first | (rw [if_pos (by rfl)]; exact run hl) | (rw [if_neg (by simp)]; exact skip_ hl)
      · rename_i l' hl'
        have hy := y2 l' hl'
        have hw : Region.wanted o (yielded ops a.tmps) = false := by simp [Region.wanted, g1, hy]
        rw [hw, if_neg (by simp)]; exact skip_ hl

theorem LOps_sound {n : Nat} {ops : Array Oper} {K : Env → Hp → Prop} {X : AV → Env → Hp → Prop} {Q' : Exit → Act → World → Prop} (l : List Nat) (la : List AOper) (hla : OkL P ro md n ops l la) (e : Env) (h : Hp) (σ : Emb) (M : Mem) (w : World) (a : Act)
    (hn : e.n = n) (hR : R P σ M h w) (hA : ActR σ M e a) (hK : ∀ σ' M' w' h' e' a', Ext σ M w σ' M' w' → R P σ' M' h' w' → ActR σ' M' e' a' → e'.n = n → K e' h' → Q' .normal a' w')
    (hX : ∀ σ' M' w' h' e' a' v v', Ext σ M w σ' M' w' → R P σ' M' h' w' → ActR σ' M' e' a' → e'.n = n → VR σ' M' v v' → X v e' h' → Q' (.panic [{ v := v', recovered := false }]) a' w')
    (hl : LOps P md la K X e h) : wpOpsIn (fw ro) 0 P ops Q' l a w := by
  have := LOps_sound2 (Q' := Q') [] l la hla e h σ M w a hn hR hA hK hX hl
  rwa [List.append_nil] at this

/-! ### Operations that are pure by contract -/

/-- The operation as one that is pure: a call. -/
def toP : AOp → AOp
  | .call f a => .pcall f a
  | .callv x a => .pcallv x a
  | .bslice0 _ => .mov (.c (.isl 0 []))
  | o => o

/-- A slice's text. -/
def compFs (P : Program) (o : Oper) : Option AOp :=
  match o.op with
  | .buildSlice t n parts => do
    let .slice el ← P.underlying t | none
    let j ← P.info? el
    let z ← zcells P el
    if n * j.size > 2 ^ 24 || z.length != j.size || n * j.size == 0 then none else
    some (.fslice el j.size n z (← cparts (fun i => some (i * j.size, j.size)) parts.toList))
  | _ => none

def compBP (P : Program) (o : Oper) : AOp :=
  match compFs P o with
  | some a => a
  | none => toP (compB P o)

def compOperP (P : Program) (n : Nat) (ops : Array Oper) (o : Oper) : Option AOper :=
  match compOper P n ops o with
  | some a => some ⟨a.dst, compBP P o, a.guard⟩
  | none => none

/-- The operation as one that leaves what is there: a call. -/
def toA : AOp → AOp
  | .call f a => .acall f a
  | .callv x a => .acallv x a
  | .bslice0 T => .bslice T 0 0 [] []
  | o => o
def compOperA (P : Program) (n : Nat) (ops : Array Oper) (o : Oper) : Option AOper :=
  match compOper P n ops o with
  | some a => some ⟨a.dst, toA (compB P o), a.guard⟩
  | none => none
def compIdxA (P : Program) (n : Nat) (ops : Array Oper) : List Nat → Option (List AOper)
  | [] => some []
  | i :: r => match ops[i]? with
    | none => none
    | some o => match compOperA P n ops o, compIdxA P n ops r with
      | some a, some l => some (a :: l)
      | _, _ => none

def compIdxP (P : Program) (n : Nat) (ops : Array Oper) : List Nat → Option (List AOper)
  | [] => some []
  | i :: r => match ops[i]? with
    | none => none
    | some o => match compOperP P n ops o, compIdxP P n ops r with
      | some a, some l => some (a :: l)
      | _, _ => none

theorem R.allocM {σ : Emb} {M : Mem} {h : Hp} {w : World} (hR : R P σ M h w) (o : Obj) : R P σ (M.set w.heap.size o) h (w.alloc o) ∧ Ext σ M w σ (M.set w.heap.size o) (w.alloc o) := by
  have hM := hR.mem_new
  refine ⟨⟨hR.fin, hR.dom, fun B x hB => ?_, fun i b L hi hL => ?_, hR.inj, fun i b L hi hL => (hR.blk i b L hi hL).mono σ.le_refl (Mem.le_set hM) (RowKit.Below.heap_alloc _ _ _ (hR.placed hi hL)), hR.al⟩, ⟨σ.le_refl, Mem.le_set hM, by simp, rfl, rfl, rfl⟩⟩
  · by_cases e : B = w.heap.size
    · subst e; simp at hB; subst hB; simp [← World.alloc_eq]
    · simp [Mem.set, e] at hB
      have := hR.mem B x hB
      have hlt : B < w.heap.size := (Array.getElem?_eq_some_iff.1 this).1
      rw [RowKit.Below.heap_alloc _ _ _ hlt]; exact this
  · have := hR.placed hi hL
    show (if L.b = w.heap.size then some (o, 0) else M L.b) = none
    rw [if_neg (by omega)]; exact hR.sep i b L hi hL

theorem VR.isl_mk {σ : Emb} {M : Mem} {g : Nat} {es : List (List AV)} {z B : Nat} {A : Array Value} {T : TypeId} {F : Nat × Nat} (hM : M B = some (.cells A T F, g)) (hl : ∀ cs ∈ es, cs.length = z) (hA : VRs σ M es.flatten A) :
    VR σ M (.isl g es) (.slice (some ⟨B, 0, none⟩) es.length es.length) := by
  have cell : ∀ (k : Nat) (cs : List AV) (j : Nat) (v : AV), es[k]? = some cs → cs[j]? = some v → ∃ v', A[k * z + j]? = some v' ∧ VR σ M v v' := by
    intro k cs j v hk hj
    obtain ⟨x, h1, h2⟩ := (rows_of_flat hl hA k cs hk).2 j v hj
    rw [Array.getElem?_extract] at h1
    split at h1
    · exact ⟨x, h1, h2⟩
    · cases h1
  refine .isl g es z B 0 A T F (fun k j => A.getD (k * z + j) undef) es.length hM (fun k cs hk => hl cs (List.mem_of_getElem? hk)) (Nat.le_refl _) (fun k cs j v hk hj => ?_) (fun k cs j v hk hj => ?_)
  · obtain ⟨x, h1, h2⟩ := cell k cs j v hk hj
    rw [Nat.zero_add]; simp [Array.getD_eq_getD_getElem?, h1]
  · obtain ⟨x, h1, h2⟩ := cell k cs j v hk hj
    simpa [Array.getD_eq_getD_getElem?, h1] using h2

theorem op_fslice {t el : TypeId} {n : Nat} {parts : Array (Nat × Operand)} {j : TypeInfo} {z : List AV} {ps : List (Nat × Nat × AOpd)} {o : Oper} (ho : o.op = .buildSlice t n parts) (ht : P.underlying t = some (.slice el))
    (hj : P.info? el = some j) (hz : zcells P el = some z) (h24 : ¬ n * j.size > 2 ^ 24) (hzl : z.length = j.size) (hn0 : ¬ n * j.size = 0) (hps : cparts (fun i => some (i * j.size, j.size)) parts.toList = some ps) : Stands P ro md o (.fslice el j.size n z ps) := by
  intro e h next X σ M w a nx Qx hR hA hN _ hl
  obtain ⟨cs, hcs, hn⟩ := hl
  obtain ⟨zv, hzr, hzv⟩ := zcells_ok hz w
  have hZ := hzv σ M
  have hzs : zv.cells.size = j.size := by rw [hZ.1, hzl]
  have hbase := rep_VRs hZ n
  rw [hzs] at hbase
  obtain ⟨A, hf, hA'⟩ := fill_lay hA _ _ hps _ _ _ hbase hcs
  have hcl : cs.length = n * j.size := by rw [lay_len _ _ _ hcs, rep_len, hzl]
  have hparts : (parts.map fun (i, x) => (i, a.eval x)).toList = parts.toList.map fun p => (p.1, a.eval p.2) := by rw [Array.toList_map]
  have hrun : (execOp a.eval o).run P w = .ok (.value (.slice (some ⟨w.heap.size, 0, none⟩) n n)) (w.alloc (.cells A el)) := by
    have hf' : Instr.fill (fun i => some (i * j.size, j.size)) ((Array.range (n * j.size)).map fun x => zv.cells[x % j.size]!) (parts.map fun (i, x) => (i, a.eval x)).toList = some A := by
      rw [hparts]; exact hf
    simp only [execOp, ho, Instr.buildSlice, Sem.run_bind, run_underlying ht, Result.andThen, run_sizeOf' hj, if_neg h24, if_neg hn0, hzr, Sem.run_pure, hzs, hf', newRow, newObj, Sem.run]
    rfl
  have hall : ∀ c ∈ chunk j.size n cs, c.length = j.size := fun c hc => by
    obtain ⟨k, hk⟩ := List.getElem?_of_mem hc
    obtain ⟨h1, rfl⟩ := chunk_get n cs k c hk
    have : (k + 1) * j.size ≤ n * j.size := Nat.mul_le_mul_right _ h1
    rw [Nat.add_mul, Nat.one_mul] at this
    simp; omega
  obtain ⟨hR', hE⟩ := hR.allocM (.cells A el)
  have hv := VR.isl_mk (σ := σ) (M := M.set w.heap.size (.cells A el)) (g := 0) (es := chunk j.size n cs) (z := j.size) (Mem.set_same _ _ _) hall (by rw [chunk_flatten n cs hcl]; exact hA'.mono hE.s hE.m)
  rw [chunk_len] at hv
  exact wpIn_of_run hrun (hN σ _ _ _ (.isl 0 (chunk j.size n cs)) _ hE hR' hv hn)

theorem stands_compFs {o : Oper} {ao : AOp} (hc : compFs P o = some ao) : Stands P ro md o ao := by
  unfold compFs at hc
  split at hc <;> first | cases hc | skip
  rename_i t n parts ho
  obtain ⟨d, hd, hc⟩ := Option.bind_some_inv hc
  split at hc <;> first | cases hc | skip
  obtain ⟨j, hj, hc⟩ := Option.bind_some_inv hc
  obtain ⟨z, hz, hc⟩ := Option.bind_some_inv hc
  split at hc
  · cases hc
  · rename_i hcond
    obtain ⟨ps, h1, hc⟩ := Option.bind_some_inv hc
    cases hc
    simp only [Bool.or_eq_true, not_or, Bool.not_eq_true, decide_eq_false_iff_not, bne_eq_false_iff_eq, beq_eq_false_iff_ne, ne_eq, decide_eq_true_eq] at hcond
    exact op_fslice ho hd hj hz hcond.1.1 hcond.1.2 hcond.2 h1

theorem stands_toP {o : Oper} {ao : AOp} (hs : Stands P ro md o ao) : Stands P ro md o (toP ao) := by
  intro e h next X σ M w a nx Qx hR hA hN hP hl
  refine hs e h next X σ M w a nx Qx hR hA hN hP ?_
  cases ao <;> first | exact hl | skip
  case call f args => obtain ⟨v, h1, h2⟩ := hl; exact h1.use h2
  case callv x args =>
    simp only [toP, LOp] at hl ⊢
    split at hl <;> first | exact hl.elim | skip
    rename_i hv
    obtain ⟨h0, v, h1, h2⟩ := hl
    simp only [hv]
    exact ⟨h0, h1.use h2⟩
  case bslice0 T => exact .inl hl

theorem stands_toA {o : Oper} {ao : AOp} (hs : Stands P ro md o ao) : Stands P ro md o (toA ao) := by
  intro e h next X σ M w a nx Qx hR hA hN hP hl
  refine hs e h next X σ M w a nx Qx hR hA hN hP ?_
  cases ao <;> first | exact hl | skip
  case call f args => obtain ⟨K, V, B, h1, h2⟩ := hl; exact h1.use h2
  case callv x args =>
    simp only [toA, LOp] at hl ⊢
    split at hl <;> first | exact hl.elim | skip
    rename_i hv
    obtain ⟨h0, K, V, B, h1, h2⟩ := hl
    simp only [hv]
    exact ⟨h0, h1.use h2⟩
  case bslice0 T =>
    obtain ⟨cs, h1, h2⟩ := hl
    exact .inr h2

theorem okOperA_of {n : Nat} {ops : Array Oper} {o : Oper} {a : AOper} (h : compOperA P n ops o = some a) : OkOper P ro md n ops o a := by
  unfold compOperA at h
  split at h <;> cases h
  rename_i b hb
  have := okOper_of (ro := ro) (md := md) hb
  exact ⟨stands_toA stands_comp, this.dst, this.lt, this.grd⟩

theorem okLA_of {n : Nat} {ops : Array Oper} : ∀ (l : List Nat) (la : List AOper), compIdxA P n ops l = some la → OkL P ro md n ops l la := by
  intro l
  induction l with
  | nil => intro la hla; cases hla; exact .nil
  | cons i r ih =>
    intro la hla
    unfold compIdxA at hla
    split at hla <;> first | cases hla | skip
    rename_i o ho
    split at hla <;> first | cases hla | skip
    rename_i ao lr hao hlr
    exact .cons ho (okOperA_of hao) (ih lr hlr)

theorem stands_compBP {o : Oper} : Stands P ro md o (compBP P o) := by
  cases hc : compFs P o with
  | some a => have : compBP P o = a := by unfold compBP; rw [hc]
              rw [this]; exact stands_compFs hc
  | none => have : compBP P o = toP (compB P o) := by unfold compBP; rw [hc]
            rw [this]; exact stands_toP stands_comp

theorem okOperP_of {n : Nat} {ops : Array Oper} {o : Oper} {a : AOper} (h : compOperP P n ops o = some a) : OkOper P ro md n ops o a := by
  unfold compOperP at h
  split at h <;> cases h
  rename_i b hb
  have := okOper_of (ro := ro) (md := md) hb
  exact ⟨stands_compBP, this.dst, this.lt, this.grd⟩

theorem okLP_of {n : Nat} {ops : Array Oper} : ∀ (l : List Nat) (la : List AOper), compIdxP P n ops l = some la → OkL P ro md n ops l la := by
  intro l
  induction l with
  | nil => intro la hla; cases hla; exact .nil
  | cons i r ih =>
    intro la hla
    unfold compIdxP at hla
    split at hla <;> first | cases hla | skip
    rename_i o ho
    split at hla <;> first | cases hla | skip
    rename_i ao lr hao hlr
    exact .cons ho (okOperP_of hao) (ih lr hlr)

theorem OkL.get {n : Nat} {ops : Array Oper} {l : List Nat} {la : List AOper} (h : OkL P ro md n ops l la) : ∀ (k i : Nat), l[k]? = some i → ∃ o a, ops[i]? = some o ∧ la[k]? = some a ∧ OkOper P ro md n ops o a := by
  induction h with
  | nil => intro k i hk; simp at hk
  | cons ho ha _ ih =>
    intro k i hk
    cases k with
    | zero => simp at hk; subst hk; exact ⟨_, _, ho, rfl, ha⟩
    | succ k => exact ih k i hk

/-- All operations, in whatever order. -/
theorem OkL.order {n : Nat} {ops : Array Oper} {la : List AOper} (h : OkL P ro md n ops (List.range ops.size) la) : ∀ (l : List Nat), (∀ i ∈ l, i < ops.size) → OkL P ro md n ops l (l.map fun i => la.getD i default) := by
  intro l
  induction l with
  | nil => intro _; exact .nil
  | cons i r ih =>
    intro hl
    obtain ⟨o, a, h1, h2, h3⟩ := h.get i i (by rw [List.getElem?_range (hl i (by simp))])
    rw [List.map_cons]
    have : la.getD i default = a := by simp [List.getD, h2]
    rw [this]
    exact .cons h1 h3 (ih fun j hj => hl j (by simp [hj]))
end
end Go.L
