/-
  The logic L, part l: the operations that change memory; calls.
-/
import Derived.Test.YtibdeeejjbmgcaaDoorLk
namespace Go.L

/-- Cells cut into elements. -/
def chunk (z : Nat) : Nat → List AV → List (List AV)
  | 0, _ => []
  | n + 1, cs => cs.take z :: chunk z n (cs.drop z)

def rep (z : List AV) : Nat → List AV
  | 0 => []
  | n + 1 => z ++ rep z n

def mupdN (r : Option AV) (N : MapL → Nat → Prop) (a b : MapL) (c : Nat) : Prop :=
  match r with
  | some _ => N a c
  | none => N b (c + 1)

/-- A function with a body of its own. -/
def HasBody (P : Program) (f : FuncId) : Prop := ∃ fn, P.funcs[f]? = some fn ∧ fn.body.isSome = true ∧ (fn.name == "runtime.NumGoroutine") = false

/-- An operation: 'next' is asked of what it gives, 'X' of what it panics with. -/
def LOp (P : Program) (o : AOp) (e : Env) (h : Hp) (next : AV → Hp → Prop) (X : AV → Hp → Prop) : Prop :=
  match o with
  | .call f args => CallL P f (args.map (ev e)) h fun r h' => match r with
    | .ret v => next v h'
    | .pan v => X v h'
  | .st n x v => match ev e x with
    | .ptr b k q => ∃ T es cs, h b = some (.row T es) ∧ es[k]? = some cs ∧ notTup (ev e v) = true ∧ (ev e v).cells.length = n ∧ flat (ev e v).cells = true ∧ q + n ≤ cs.length ∧
        next (.tup []) (h.set b (.row T (es.set k (cs.take q ++ (ev e v).cells ++ cs.drop (q + n)))))
    | _ => False
  | .box T z x => notTup (ev e x) = true ∧ (ev e x).cells.length = z ∧ ∀ i, Fresh h i → next (.ptr i 0 0) (h.set i (.row T [(ev e x).cells]))
  | .bslice T z n zero parts => ∃ cs, lay e (rep zero n) parts = some cs ∧ ∀ i, Fresh h i → next (.slc i 0 n (some n)) (h.set i (.row T (chunk z n cs)))
  | .app T z by_ s x => LApp T z by_ (ev e s) (ev e x) h next
  | .bslice0 T => next (.isl []) h ∨ ∀ i, Fresh h i → next (.slc i 0 0 (some 0)) (h.set i (.row T []))
  | .callv x args => match ev e x with
    | .func (.func f) first cap => HasBody P f ∧ CallL P f (first ++ args.map (ev e) ++ cap) h fun r h' => match r with
      | .ret v => next v h'
      | .pan v => X v h'
    | _ => False
  | .clr T zero x => match ev e x with
    | .slc i k n _ => ∃ es, h i = some (.row T es) ∧ k + n ≤ es.length ∧ flat zero = true ∧ next (.tup []) (h.set i (.row T (es.take k ++ List.replicate n zero ++ es.drop (k + n))))
    | .nils => next (.tup []) h
    | .emp => next (.tup []) h
    | .isl es => es = [] ∧ next (.tup []) h
    | _ => False
  | .mkslice T _ by_ zero len cap => match ev e len, ev e cap with
    | .int _ l, .int _ c => ∃ l' c' : Nat, l = l' ∧ c = c' ∧ l' ≤ c' ∧ c' * by_ ≤ capMax ∧ c' ≤ capMax ∧ ∀ i, Fresh h i → next (.slc i 0 l' (some c')) (h.set i (.row T (List.replicate c' zero)))
    | _, _ => False
  | .appz T z by_ zero s n => match ev e n with
    | .int _ m => ∃ k : Nat, m = k ∧ k ≤ capMax ∧ k * by_ ≤ capMax ∧ LAppE T z by_ (ev e s) (List.replicate k zero) h next
    | _ => False
  | .pan x => match ev e x with
    | .ifc t v => X (.ifc t v) h
    | _ => False
  | .mkmap => ∀ i, Fresh h i → next (.map i) (h.set i (.map [] 0))
  | .mupd m x k v => match ev e x with
    | .map i => ∃ es c, h i = some (.map es c) ∧ keyM m (ev e k) = true ∧ KeysLike (ev e k) es ∧
        ∀ r, r = mget (ev e k) es → mupdN r (fun es' c' => next (.tup []) (h.set i (.map es' c'))) (mmod (ev e k) (ev e v) es) (es ++ [(ev e k, ev e v, c)]) c
    | _ => False
  | o => LN o e h fun v => next v h

section
variable {P : Program} {σ σ' : Emb} {M M' : Mem} {h : Hp} {w w' : World}

/-- A new block of one element. -/
theorem R.newBox (hR : R P σ M h w) {j : Nat} (hj : σ j = none) {T : TypeId} {i : TypeInfo} (hi : P.info? T = some i) {cs : List AV} (hl : cs.length = i.size) {A : Array Value} (hA : VRs σ M cs A) :
    R P (σ.set j ⟨w.heap.size, 0, A.size, i.size⟩) M (h.set j (.row T [cs])) (w.alloc (.cells A T)) := by
  have := hR.newRow hj hi (es := [cs]) (fun x hx => by simp at hx; subst hx; exact hl) (A := A) (rest := #[]) (by simpa using hA)
  simpa using this

theorem chunk_get {z : Nat} : ∀ (n : Nat) (cs : List AV) (k : Nat) (c : List AV), (chunk z n cs)[k]? = some c → k < n ∧ c = (cs.drop (k * z)).take z := by
  intro n
  induction n with
  | zero => intro cs k c h; simp [chunk] at h
  | succ n ih =>
    intro cs k c h
    cases k with
    | zero => simp [chunk] at h; exact ⟨by omega, by simp [h]⟩
    | succ k =>
      simp only [chunk, List.getElem?_cons_succ] at h
      obtain ⟨h1, h2⟩ := ih _ k c h
      refine ⟨by omega, ?_⟩
      rw [h2, List.drop_drop, Nat.add_mul, Nat.one_mul, Nat.add_comm z]
theorem chunk_len {z : Nat} : ∀ (n : Nat) (cs : List AV), (chunk z n cs).length = n := by
  intro n
  induction n with
  | zero => intro cs; rfl
  | succ n ih => intro cs; simp [chunk, ih]
theorem chunk_flatten {z : Nat} : ∀ (n : Nat) (cs : List AV), cs.length = n * z → (chunk z n cs).flatten = cs := by
  intro n
  induction n with
  | zero => intro cs h; have : cs = [] := List.eq_nil_of_length_eq_zero (by omega); simp [chunk, this]
  | succ n ih =>
    intro cs h
    simp only [chunk, List.flatten_cons]
    rw [ih _ (by rw [List.length_drop, h, Nat.add_mul]; omega), List.take_append_drop]
theorem rep_len {z : List AV} : ∀ n, (rep z n).length = n * z.length := by
  intro n
  induction n with
  | zero => simp [rep]
  | succ n ih => simp only [rep, List.length_append, ih, Nat.add_mul, Nat.one_mul]; omega
theorem lay_len {e : Env} : ∀ (ps : List (Nat × Nat × AOpd)) (cs r : List AV), lay e cs ps = some r → r.length = cs.length := by
  intro ps
  induction ps with
  | nil => intro cs r h; cases h; rfl
  | cons p ps ih =>
    intro cs r h
    obtain ⟨off, n, x⟩ := p
    simp only [lay] at h
    cases hb : (notTup (ev e x) && (Nat.beq (ev e x).cells.length n && Nat.ble (off + n) cs.length)) with
    | false => rw [hb] at h; cases h
    | true =>
      rw [hb, cond_true] at h
      simp only [Bool.and_eq_true, Nat.beq_eq, Nat.ble_eq] at hb
      rw [ih _ _ h]; simp; omega

theorem rep_VRs {z : List AV} {Z : Array Value} (hZ : VRs σ M z Z) : ∀ n, VRs σ M (rep z n) ((Array.range (n * Z.size)).map fun j => Z[j % Z.size]!) := by
  intro n
  induction n with
  | zero => simp only [rep, Nat.zero_mul]; exact ⟨by simp, fun j v h => by simp at h⟩
  | succ n ih =>
    have hs : Z.size = z.length := hZ.1
    refine ⟨by rw [rep_len]; simp [hs], fun j v hj => ?_⟩
    simp only [rep] at hj
    have get : ∀ N, j < N → ((Array.range N).map fun j => Z[j % Z.size]!)[j]? = some Z[j % Z.size]! := fun N hN => by simp [hN]
    by_cases hjz : j < z.length
    · rw [List.getElem?_append_left hjz] at hj
      obtain ⟨v', h1, h2⟩ := hZ.2 j v hj
      refine ⟨v', ?_, h2⟩
      rw [get _ (by rw [Nat.add_mul, Nat.one_mul]; omega), Nat.mod_eq_of_lt (by omega)]
      congr 1
      have : j < Z.size := by omega
      rw [getElem!_pos Z j this]
      rw [getElem?_pos Z j this] at h1
      cases h1; rfl
    · rw [List.getElem?_append_right (by omega)] at hj
      have hjl : j - z.length < n * z.length := by
        rcases Nat.lt_or_ge (j - z.length) (rep z n).length with hh | hh
        · rw [rep_len] at hh; exact hh
        · rw [List.getElem?_eq_none hh] at hj; cases hj
      obtain ⟨v', h1, h2⟩ := ih.2 _ v hj
      refine ⟨v', ?_, h2⟩
      rw [get _ (by rw [Nat.add_mul, Nat.one_mul, hs]; omega)]
      have g2 : ((Array.range (n * Z.size)).map fun j => Z[j % Z.size]!)[j - z.length]? = some Z[(j - z.length) % Z.size]! := by
        have : j - z.length < n * Z.size := by rw [hs]; exact hjl
        simp [this]
      rw [g2] at h1
      rw [← h1, ← hs]
      congr 2
      rw [show j = (j - Z.size) + Z.size by omega, Nat.add_mod_right]; simp
end

section
variable {P : Program} {o : Oper} {e : Env} {h : Hp} {next X : AV → Hp → Prop} {σ : Emb} {M : Mem} {w : World} {a : Act}

/-- An operation that gives a value. -/
theorem wpIn_of_run {nx : Act → World → Prop} {Qx : Exit → Act → World → Prop} {v' : Value} {w' : World} (hr : (execOp a.eval o).run P w = .ok (.value v') w') (hn : nx (a.put o.dst v') w') :
    o.wpIn (fw none) 0 P a w nx Qx := by
  refine ⟨fun _ _ => trivial, ?_⟩
  show Oper.uponIn _ _ _ _ _ _ _ ((o.semAt none a.eval).run P w)
  rw [Oper.semAt_none, hr]; exact hn
theorem wpIn_of_skip {nx : Act → World → Prop} {Qx : Exit → Act → World → Prop} {w' : World} (hr : (execOp a.eval o).run P w = .ok .skip w') (hn : nx (a.put o.dst undef) w') :
    o.wpIn (fw none) 0 P a w nx Qx := by
  refine ⟨fun _ _ => trivial, ?_⟩
  show Oper.uponIn _ _ _ _ _ _ _ ((o.semAt none a.eval).run P w)
  rw [Oper.semAt_none, hr]; exact hn

/-- What is behind an operation: of any later state that stands for an abstract one. -/
def NextS (P : Program) (σ : Emb) (M : Mem) (w : World) (a : Act) (d : Option Nat) (next : AV → Hp → Prop) (nx : Act → World → Prop) : Prop :=
  ∀ σ' M' w' h' v v', Ext σ M w σ' M' w' → R P σ' M' h' w' → VR σ' M' v v' → next v h' → nx (a.put d v') w'
def PanS (P : Program) (σ : Emb) (M : Mem) (w : World) (a : Act) (X : AV → Hp → Prop) (Qx : Exit → Act → World → Prop) : Prop :=
  ∀ σ' M' w' h' v v', Ext σ M w σ' M' w' → R P σ' M' h' w' → VR σ' M' v v' → X v h' → Qx (.panic [{ v := v', recovered := false }]) a w'

variable {nx : Act → World → Prop} {Qx : Exit → Act → World → Prop}

theorem op_read (hR : R P σ M h w) (hA : ActR σ M e a) (hN : NextS P σ M w a o.dst next nx) (hv : ∃ v, next v h ∧ SemVal P o e h v) : o.wpIn (fw none) 0 P a w nx Qx := by
  obtain ⟨v, hn, hs⟩ := hv
  obtain ⟨v', hr, hvr⟩ := hs σ M w a hR hA
  exact wpIn_of_run hr (hN σ M w h v v' (.refl _ _ _) hR hvr hn)

theorem op_call {f : FuncId} {args : Array Operand} {ts : Array TypeId} {fn : Func} (ho : o.op = .call { callee := .value (.func f), args, argTypes := ts }) (hf : P.funcs[f]? = some fn) (hb : fn.body.isSome = true)
    (hn : (fn.name == "runtime.NumGoroutine") = false) {args' : List AOpd} (hx : copds args.toList = some args') (hR : R P σ M h w) (hA : ActR σ M e a) (hN : NextS P σ M w a o.dst next nx) (hP : PanS P σ M w a X Qx)
    (hl : CallL P f (args'.map (ev e)) h fun r h' => match r with | .ret v => next v h' | .pan v => X v h') : o.wpIn (fw none) 0 P a w nx Qx := by
  have hrun : (execOp a.eval o).run P w = .ok (.enter f (args.map a.eval)) w := by
    have hb' : fn.body.isNone = false := by cases hh : fn.body <;> simp_all
    have hc : (callFunc f (args.map a.eval)).run P w = .ok (.enter f (args.map a.eval)) w := by
      have hp : (program).run P w = .ok P w := rfl
      simp only [callFunc, Sem.run_bind, hp, Result.andThen, hf, hn, hb', Bool.false_eq_true, if_false, Sem.run_pure]
    simp [execOp, ho, resolve, Deferred.ofValue, Act.eval, invoke, hc]
  refine ⟨fun _ _ => trivial, ?_⟩
  show Oper.uponIn _ _ _ _ _ _ _ ((o.semAt none a.eval).run P w)
  rw [Oper.semAt_none, hrun]
  refine ⟨fun h => by simp [fw, Fence.wide] at h, ?_⟩
  have hargs : VRs σ M (args'.map (ev e)) (args.map a.eval) := by
    have h1 := copds_ok hx hA
    have h2 : (args.toList.map a.eval).toArray = args.map a.eval := by rw [← Array.toList_map, Array.toArray_toList]
    rw [h2] at h1; exact h1
  refine (hl.run σ M w _ hR hargs).mono fun e' w' ⟨σ', M', h', hE, hR', hr⟩ => ?_
  cases e' with
  | returned v' => obtain ⟨v, hv, hq⟩ := hr; exact hN σ' M' w' h' v v' hE hR' hv hq
  | panicked ch => obtain ⟨v, v', rfl, hv, hq⟩ := hr; exact hP σ' M' w' h' v v' hE hR' hv hq
  | outgrown => exact hr.elim

theorem op_st {t : TypeId} {x v : Operand} {i : TypeInfo} (ho : o.op = .store t x v) (hi : P.info? t = some i) {x' v' : AOpd} (hx : copd x = some x') (hv : copd v = some v') (hR : R P σ M h w) (hA : ActR σ M e a)
    (hN : NextS P σ M w a o.dst next nx) (hl : LOp P (.st i.size x' v') e h next X) : o.wpIn (fw none) 0 P a w nx Qx := by
  simp only [LOp] at hl
  split at hl <;> first | exact hl.elim | skip
  rename_i b k q hp
  obtain ⟨T, es, cs, hb, hk, hnt, hlen, hflat, hle, hn⟩ := hl
  have h1 := copd_ok hx hA
  rw [hp] at h1
  obtain ⟨L, hL, e1⟩ := h1.ptr_inv
  have h2 := (copd_ok hv hA).cells (fun l hl => by rw [hl] at hnt; cases hnt)
  obtain ⟨w1, g1, g2, g3⟩ := hR.store hb hk (by rw [hlen]; exact hle) hL h2 hflat
  have hsz : (a.eval v).cells.size = i.size := by rw [h2.1, hlen]
  have hrun : (execOp a.eval o).run P w = .ok .skip w1 := by
    simp [execOp, ho, Instr.storeAt, e1, Instr.sureAddr, storeVar, run_sizeOf' hi, hsz, g1]
  refine wpIn_of_skip hrun (hN σ M w1 _ (.tup []) undef g2 ?_ (VR.tup' .nil) hn)
  rw [hlen] at g3; exact g3

theorem op_box {t : TypeId} {x : Operand} {i : TypeInfo} (ho : o.op = .box t x) (hi : P.info? t = some i) {x' : AOpd} (hx : copd x = some x') (hR : R P σ M h w) (hA : ActR σ M e a)
    (hN : NextS P σ M w a o.dst next nx) (hl : LOp P (.box t i.size x') e h next X) : o.wpIn (fw none) 0 P a w nx Qx := by
  obtain ⟨hnt, hlen, hn⟩ := hl
  have h2 := (copd_ok hx hA).cells (fun l hl => by rw [hl] at hnt; cases hnt)
  obtain ⟨j, hj, hjh⟩ := hR.fresh
  have hrun : (execOp a.eval o).run P w = .ok (.value (.pointer (some ⟨w.heap.size, 0, none⟩))) (w.alloc (.cells (a.eval x).cells t)) := by
    simp [execOp, ho, Instr.box, newVar, newRow]
  refine wpIn_of_run hrun (hN _ M _ _ (.ptr j 0 0) _ (Ext.alloc hj) (hR.newBox hj hi hlen h2) ?_ (hn j hjh))
  have := VR.ptr (σ := σ.set j ⟨w.heap.size, 0, (a.eval x).cells.size, i.size⟩) (M := M) j 0 0 _ (Emb.set_same _ _ _)
  simpa using this

theorem op_alloc {t : TypeId} {i : TypeInfo} {z : Value} {z' : AV} (ho : o.op = .alloc t) (hi : P.info? t = some i) (hz : i.zero = some z) (hcv : cv z = some z') (hR : R P σ M h w)
    (hN : NextS P σ M w a o.dst next nx) (hl : LOp P (.box t i.size (.c z')) e h next X) : o.wpIn (fw none) 0 P a w nx Qx := by
  obtain ⟨hnt, hlen, hn⟩ := hl
  have h2 : VRs σ M z'.cells z.cells := (cv_ok hcv : VR σ M z' z).cells (fun l hl => by
    have : notTup z' = true := hnt
    rw [hl] at this; cases this)
  obtain ⟨j, hj, hjh⟩ := hR.fresh
  have hrun : (execOp a.eval o).run P w = .ok (.value (.pointer (some ⟨w.heap.size, 0, none⟩))) (w.alloc (.cells z.cells t)) := by
    simp [execOp, ho, Instr.alloc, newVar, newRow, zeroValue, run_typeInfo' hi, hz]
  refine wpIn_of_run hrun (hN _ M _ _ (.ptr j 0 0) _ (Ext.alloc hj) (hR.newBox hj hi hlen h2) ?_ (hn j hjh))
  have := VR.ptr (σ := σ.set j ⟨w.heap.size, 0, z.cells.size, i.size⟩) (M := M) j 0 0 _ (Emb.set_same _ _ _)
  simpa using this

theorem op_bslice {t el : TypeId} {n : Nat} {parts : Array (Nat × Operand)} {j : TypeInfo} {z : List AV} {ps : List (Nat × Nat × AOpd)} (ho : o.op = .buildSlice t n parts) (ht : P.underlying t = some (.slice el))
    (hj : P.info? el = some j) (hz : zcells P el = some z) (h24 : ¬ n * j.size > 2 ^ 24) (hzl : z.length = j.size) (hn0 : ¬ n * j.size = 0) (hps : cparts (fun i => some (i * j.size, j.size)) parts.toList = some ps)
    (hR : R P σ M h w) (hA : ActR σ M e a) (hN : NextS P σ M w a o.dst next nx) (hl : LOp P (.bslice el j.size n z ps) e h next X) : o.wpIn (fw none) 0 P a w nx Qx := by
  obtain ⟨cs, hcs, hn⟩ := hl
  obtain ⟨zv, hzr, hzv⟩ := zcells_ok hz w
  have hZ := hzv σ M
  have hzs : zv.cells.size = j.size := by rw [hZ.1, hzl]
  have hbase := rep_VRs hZ n
  rw [hzs] at hbase
  obtain ⟨A, hf, hA'⟩ := fill_lay hA _ _ hps _ _ _ hbase hcs
  have hcl : cs.length = n * j.size := by rw [lay_len _ _ _ hcs, rep_len, hzl]
  have hparts : (parts.map fun (i, x) => (i, a.eval x)).toList = parts.toList.map fun p => (p.1, a.eval p.2) := by rw [Array.toList_map]
  have hrun : (execOp a.eval o).run P w = .ok (.value (.slice (some ⟨w.heap.size, 0, none⟩) n n)) (w.alloc (.cells A el)) := by
    have hf' : Instr.fill (fun i => some (i * j.size, j.size)) ((Array.range (n * j.size)).map fun x => zv.cells[x % j.size]!) (parts.map fun (i, x) => (i, a.eval x)).toList = some A := by
      rw [hparts]; exact hf
    simp only [execOp, ho, Instr.buildSlice, Sem.run_bind, run_underlying ht, Result.andThen, run_sizeOf' hj, if_neg h24, if_neg hn0, hzr, Sem.run_pure, hzs, hf', newRow, newObj, Sem.run]
    rfl
  obtain ⟨i, hi, hih⟩ := hR.fresh
  have hall : ∀ c ∈ chunk j.size n cs, c.length = j.size := fun c hc => by
    obtain ⟨k, hk⟩ := List.getElem?_of_mem hc
    obtain ⟨h1, rfl⟩ := chunk_get n cs k c hk
    have : (k + 1) * j.size ≤ n * j.size := Nat.mul_le_mul_right _ h1
    rw [Nat.add_mul, Nat.one_mul] at this
    simp; omega
  have hN' := hR.newRow hi hj hall (A := A) (rest := #[]) (by rw [chunk_flatten n cs hcl]; exact hA')
  simp only [Array.append_empty] at hN'
  refine wpIn_of_run hrun (hN _ M _ _ (.slc i 0 n (some n)) _ (Ext.alloc hi) hN' ?_ (hn i hih))
  exact .slc i 0 n (some n) _ _ n (Emb.set_same _ _ _) (fun _ => by simp) (Nat.le_refl _) (fun _ h => by cases h; rfl) (fun h => by cases h)

theorem op_app {t u : TypeId} {s x : Operand} {ts : Array TypeId} (ho : o.op = .call { callee := .builtin .append, args := #[s, x], argTypes := ts }) (hts : ts = #[t, u]) {el : TypeId} {du : TypeDesc} {j : TypeInfo} {z : Value}
    (ht : P.underlying t = some (.slice el)) (hu : P.underlying u = some du) (hdu : ∀ k, du ≠ .int k) (hj : P.info? el = some j) (hz : j.zero = some z) (hj0 : 0 < j.size) (hzs : z.cells.size = j.size) {s' x' : AOpd}
    (hs : copd s = some s') (hx : copd x = some x') (hR : R P σ M h w) (hA : ActR σ M e a) (hN : NextS P σ M w a o.dst next nx) (hl : LOp P (.app el j.size j.bytes s' x') e h next X) : o.wpIn (fw none) 0 P a w nx Qx := by
  obtain ⟨v', w', hrun, σ', M', h', v, hE, hR', hv, hn⟩ := app_ok hR (ty := o.type) ht hu hdu hj hj0 hz hzs (copd_ok hs hA) (copd_ok hx hA) hl
  refine wpIn_of_run (v' := v') (w' := w') ?_ (hN σ' M' w' h' v v' hE hR' hv hn)
  subst hts
  simp [execOp, ho, resolve, invoke, builtin, hrun]
end
end Go.L
