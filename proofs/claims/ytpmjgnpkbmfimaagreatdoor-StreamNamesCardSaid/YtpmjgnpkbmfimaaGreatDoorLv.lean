/-
  The logic L, part v: interface calls, ranges over texts and maps, entries of maps, type assertions.
-/
import Derived.Test.YtpmjgnpkbmfimaaGreatDoorLm2
import Derived.Conc.AtomicLaws2
namespace Go.L

/-- Operations on interface values, maps, texts. -/
def compV (P : Program) (o : Oper) : Option AOp :=
  match o.op with
  | .call { callee := .invoke recv name, args, .. } => do some (.inv (invTab P name) (← copd recv) (← copds args.toList))
  | .range t x => do
    match ← P.underlying t with
    | .string => some (.rngs (← copd x))
    | .map _ _ => some (.rngm (← copd x))
    | _ => none
  | .next x true => (copd x).map .nxs
  | .next x false => (copd x).map .nxm
  | .entry x => (copd x).map .entr
  | .mapEntry t x k => do
    let .map kt et ← P.underlying t | none
    let d ← P.underlying kt
    let m ← mkOf P kt d
    let zi ← P.info? et
    let zv ← zi.zero
    let z ← cv zv
    some (.ment m z (← copd x) (← copd k))
  | .entryStore _ x s v => do some (.mest (← copd x) (← copd s) (← copd v))
  | .typeAssert x _ T ok => do
    let d ← P.underlying T
    match d with
    | .interface _ => none
    | _ =>
      let zi ← P.info? T
      let zv ← zi.zero
      let z ← cv zv
      some (.tass T ok z (← copd x))
  | .call { callee := .value (.func f), args, .. } => do
    let fn ← P.funcs[f]?
    match fn.body.isNone && fn.origin == "" with
    | false => none
    | true => match args.toList with
      | [x, y, z] => if fn.name == "sync/atomic.CompareAndSwapInt32" then do some (.cas .i32 (← copd x) (← copd y) (← copd z)) else none
      | [x, y] => if fn.name == "sync/atomic.AddInt32" then do some (.xadd .i32 (← copd x) (← copd y)) else none
      | _ => none
  | .call { callee := .builtin .delete, args, argTypes } => do
    let t ← argTypes[0]?
    let .map kt _ ← P.underlying t | none
    let d ← P.underlying kt
    let m ← mkOf P kt d
    match args.toList with
    | [x, k] => some (.mdel m (← copd x) (← copd k))
    | _ => none
  | _ => none

section
variable {P : Program} {ro : Option Nat} {md : Bool} {o : Oper} {ao : AOp} {e : Env} {h : Hp} {next X : AV → Hp → Prop} {σ : Emb} {M : Mem} {w : World} {a : Act}
variable {nx : Act → World → Prop} {Qx : Exit → Act → World → Prop}

theorem op_inv {recv : Operand} {name : String} {args : Array Operand} {ts : Array TypeId} (ho : o.op = .call { callee := .invoke recv name, args, argTypes := ts }) {x' : AOpd} {args' : List AOpd} (hx : copd recv = some x') (hargs : copds args.toList = some args')
    (hR : R P σ M h w) (hA : ActR σ M e a) (hN : NextS P σ M w a o.dst next nx) (hP : PanS P σ M w a X Qx) (hl : LOp P md (.inv (invTab P name) x' args') e h next X) : o.wpIn (fw ro) 0 P a w nx Qx := by
  simp only [LOp] at hl
  split at hl <;> first | exact hl.elim | skip
  rename_i t v hv
  split at hl <;> first | exact hl.elim | skip
  rename_i f hf
  have h1 := copd_ok hx hA
  rw [hv] at h1
  obtain ⟨u, e1, hu⟩ : ∃ u, a.eval recv = .iface t u ∧ VR σ M v u := by
    generalize a.eval recv = q at h1
    cases h1 with | ifc _ _ u hu => exact ⟨u, rfl, hu⟩
  have h2 := copds_ok hargs hA
  have h3 : (args.toList.map a.eval).toArray = args.map a.eval := by rw [← Array.toList_map, Array.toArray_toList]
  rw [h3] at h2
  obtain ⟨hmeth, fn, hfn, hb, hn⟩ := run_method (tlook_mem hf) u (P.types.size + (Made.depth - 1)) w
  have hrun : (execOp a.eval o).run P w = .ok (.enter f (#[u] ++ args.map a.eval)) w := by
    have hb' : fn.body.isNone = false := by cases hh : fn.body <;> simp_all
    have hp : (program).run P w = .ok P w := rfl
    have hc : ∀ as, (callFunc f as).run P w = .ok (.enter f as) w := fun as => by
      simp only [callFunc, Sem.run_bind, hp, Result.andThen, hfn, hn, hb', Bool.false_eq_true, if_false, Sem.run_pure]
    have hd : P.types.size + Made.depth = P.types.size + (Made.depth - 1) + 1 := by simp [Made.depth]
    have hext : (#[Value.iface t u] ++ args.map a.eval).extract 1 (#[Value.iface t u] ++ args.map a.eval).size = args.map a.eval := by
      apply Array.toList_inj.1
      simp only [Array.toList_extract, List.extract_eq_take_drop, Array.toList_append, Array.toList_map, Array.size_append, Array.size_map]
      simp only [List.cons_append, List.nil_append, List.drop_succ_cons, List.drop_zero]
      rw [List.take_of_length_le (by simp)]
    simp only [execOp, ho, resolve, e1, Sem.run_bind, Sem.run_pure, Result.andThen, invoke]
    simp only [Array.getElem?_append_left (show 0 < (#[Value.iface t u]).size by simp)]
    simp only [hext]
    simp [callMethod, hp, hd, hmeth, hc]
  refine ⟨fun _ _ => trivial, ?_⟩
  show Oper.uponIn _ _ _ _ _ _ _ ((o.semAt ro a.eval).run P w)
  rw [semAt_of hrun (by simp)]
  refine ⟨fun h => by simp [fw, Fence.wide] at h, ?_⟩
  have hall : VRs σ M (v :: args'.map (ev e)) (#[u] ++ args.map a.eval) := by
    have : #[u] ++ args.map a.eval = (u :: (args.map a.eval).toList).toArray := by apply Array.toList_inj.1; simp
    rw [this]
    exact VRs.cons hu (by rw [Array.toArray_toList]; exact h2)
  refine callsIn_fw ((hl.run σ M w _ hR hall).mono fun e' w' ⟨σ', M', h', hE, hR', hr⟩ => ?_)
  cases e' with
  | returned v' => obtain ⟨v, hv, hq⟩ := hr; exact hN σ' M' w' h' v v' hE hR' hv hq
  | panicked ch => obtain ⟨v, v', rfl, hv, hq⟩ := hr; exact hP σ' M' w' h' v v' hE hR' hv hq
  | outgrown => exact hr.elim

/-! ### Iterators -/

theorem run_newObj (ob : Obj) (w : World) : (newObj ob).run P w = .ok w.heap.size (w.alloc ob) := by
  rfl

theorem op_iter {t : TypeId} {x : Operand} (ho : o.op = .range t x) (hR : R P σ M h w) (hN : NextS P σ M w a o.dst next nx) {ob : Obj} {b : Blk}
    (hrun : (Instr.range t (a.eval x)).run P w = .ok (.pointer (some ⟨w.heap.size, 0, none⟩)) (w.alloc ob)) (hb : ∀ σ', σ.le σ' → BlkR P σ' M (w.alloc ob) ⟨w.heap.size, 0, 0, 0⟩ b)
    (hl : allocN md h fun i => next (.ptr i 0 0) (h.set i b)) : o.wpIn (fw ro) 0 P a w nx Qx := by
  obtain ⟨i, hi, hin⟩ := hR.fresh hl
  have hrun' : (execOp a.eval o).run P w = .ok (.value (.pointer (some ⟨w.heap.size, 0, none⟩))) (w.alloc ob) := by simp [execOp, ho, hrun]
  refine wpIn_of_run hrun' (hN (σ.set i ⟨w.heap.size, 0, 0, 0⟩) M _ _ (.ptr i 0 0) _ (Ext.alloc hi) (hR.alloc hi rfl (hb _ (Emb.le_set hi))) ?_ hin)
  have := VR.ptr (σ := σ.set i ⟨w.heap.size, 0, 0, 0⟩) (M := M) i 0 0 _ (Emb.set_same _ _ _)
  simpa using this

theorem alloc_at (w : World) (ob : Obj) : (w.alloc ob).heap[w.heap.size]? = some ob := by simp [← World.alloc_eq]

theorem op_rngs {t : TypeId} {x : Operand} (ho : o.op = .range t x) (ht : P.underlying t = some .string) {x' : AOpd} (hx : copd x = some x') (hR : R P σ M h w) (hA : ActR σ M e a)
    (hN : NextS P σ M w a o.dst next nx) (hl : LOp P md (.rngs x') e h next X) : o.wpIn (fw ro) 0 P a w nx Qx := by
  simp only [LOp] at hl
  split at hl <;> first | exact hl.elim | skip
  rename_i s hs
  have h1 := copd_ok hx hA
  rw [hs] at h1
  obtain ⟨b, e1, e2⟩ := h1.str_inv
  refine op_iter ho hR hN (ob := .stringIter b 0) (b := .strIter s 0) ?_ (fun σ' _ => ⟨rfl, b, alloc_at _ _, e2⟩) hl
  simp [Instr.range, run_underlying ht, e1, run_newObj]

theorem op_rngm {t kt et : TypeId} {x : Operand} (ho : o.op = .range t x) (ht : P.underlying t = some (.map kt et)) {x' : AOpd} (hx : copd x = some x') (hR : R P σ M h w) (hA : ActR σ M e a)
    (hN : NextS P σ M w a o.dst next nx) (hl : LOp P md (.rngm x') e h next X) : o.wpIn (fw ro) 0 P a w nx Qx := by
  simp only [LOp] at hl
  have h1 := copd_ok hx hA
  split at hl <;> first | exact hl.elim | skip
  · rename_i m hs
    obtain ⟨es, c, hm, hl⟩ := hl
    rw [hs] at h1
    obtain ⟨L, hL, e1⟩ := h1.map_inv
    obtain ⟨m', hm', _⟩ := hR.mapAt hm hL
    have hg : (getObj L.b).run P w = .ok (.map m' c) w := by simp [getObj, Sem.run, hm']
    refine op_iter ho hR hN (ob := .mapIter (some L.b) c #[] c) (b := .mapIter (some m) c [] c) ?_ (fun σ' hs => ⟨rfl, some L.b, alloc_at _ _, L, hs _ _ hL, rfl⟩) hl
    simp [Instr.range, run_underlying ht, e1, hg, run_newObj]
  · rename_i hs
    rw [hs] at h1
    have e1 : a.eval x = .map none := by generalize a.eval x = q at h1; cases h1; rfl
    refine op_iter ho hR hN (ob := .mapIter none 0 #[] 0) (b := .mapIter none 0 [] 0) ?_ (fun σ' hs => ⟨rfl, none, alloc_at _ _, rfl⟩) hl
    simp [Instr.range, run_underlying ht, e1, run_newObj]

/-- A block that is no row of cells, set anew. -/
theorem R.setBlk (hR : R P σ M h w) {i : Nat} {b b' : Blk} {L : Loc} (hi : h i = some b) (hL : σ i = some L) {ob : Obj} (hb : BlkR P σ M { w with heap := w.heap.setIfInBounds L.b ob } L b') :
    Ext σ M w σ M { w with heap := w.heap.setIfInBounds L.b ob } ∧ R P σ M (h.set i b') { w with heap := w.heap.setIfInBounds L.b ob } := by
  refine ⟨⟨σ.le_refl, M.le_refl, by simp, rfl, rfl, rfl⟩, hR.upd hi hL (fun B hB => ?_) hb⟩
  simp [Array.getElem?_setIfInBounds, Ne.symm hB]
theorem set_at {L : Loc} (hlt : L.b < w.heap.size) (ob : Obj) : ({ w with heap := w.heap.setIfInBounds L.b ob } : World).heap[L.b]? = some ob := by simp [hlt]

theorem ptr00 {i : Nat} {v : Value} (hv : VR σ M (.ptr i 0 0) v) : ∃ L, σ i = some L ∧ v = .pointer (some ⟨L.b, L.o, none⟩) := by
  obtain ⟨L, hL, rfl⟩ := hv.ptr_inv
  exact ⟨L, hL, by simp⟩

theorem op_nxs {x : Operand} (ho : o.op = .next x true) {x' : AOpd} (hx : copd x = some x') (hR : R P σ M h w) (hA : ActR σ M e a)
    (hN : NextS P σ M w a o.dst next nx) (hl : LOp P md (.nxs x') e h next X) : o.wpIn (fw ro) 0 P a w nx Qx := by
  simp only [LOp] at hl
  split at hl <;> first | exact hl.elim | skip
  rename_i i hs
  obtain ⟨s, pos, hi, hl⟩ := hl
  have h1 := copd_ok hx hA
  rw [hs] at h1
  obtain ⟨L, hL, e1⟩ := ptr00 h1
  obtain ⟨h0, b, hb, hbs⟩ := hR.blk i _ L hi hL
  have hlt := hR.placed hi hL
  have hg : (getObj L.b).run P w = .ok (.stringIter b pos) w := by simp [getObj, Sem.run, hb]
  have hsz : b.size = s.length := by rw [← hbs]; exact Array.length_toList.symm
  have hbb : (⟨s.toArray⟩ : ByteArray) = b := by cases b; simp at hbs; subst hbs; simp
  have hl := hl _ rfl
  rw [h0] at e1
  by_cases hp : pos < s.length
  · rw [decide_eq_true hp] at hl
    have hl := hl _ rfl
    rw [hbb] at hl
    have hset : (setObj L.b (.stringIter b (pos + (Utf8.decode b pos).2))).run P w = .ok () { w with heap := w.heap.setIfInBounds L.b (.stringIter b (pos + (Utf8.decode b pos).2)) } := by simp [setObj, Sem.run, hb]
    have hrun : (execOp a.eval o).run P w = .ok (.value (.tuple #[.bool true, goInt pos, .int .i32 (Utf8.decode b pos).1])) { w with heap := w.heap.setIfInBounds L.b (.stringIter b (pos + (Utf8.decode b pos).2)) } := by
      have hp' : pos < b.size := by omega
      simp only [execOp, ho, e1, Instr.next, Sem.run_bind, hg, Result.andThen, hp', if_true, hset, Sem.run_pure]
    obtain ⟨g1, g2⟩ := hR.setBlk (P := P) hi hL (ob := .stringIter b (pos + (Utf8.decode b pos).2)) (b' := .strIter s (pos + (Utf8.decode b pos).2)) ⟨h0, b, set_at hlt _, hbs⟩
    exact wpIn_of_run hrun (hN σ M _ _ _ _ g1 g2 (VR.tup' (VRs.cons (.bool _) (VRs.cons (.int _ _) (VRs.cons (.int _ _) .nil)))) hl)
  · rw [decide_eq_false hp] at hl
    have hrun : (execOp a.eval o).run P w = .ok (.value (.tuple #[.bool false])) w := by
      have hp' : ¬ pos < b.size := by omega
      simp only [execOp, ho, e1, Instr.next, Sem.run_bind, hg, Result.andThen, hp', if_false, Sem.run_pure]
    exact wpIn_of_run hrun (hN σ M w h _ _ (.refl _ _ _) hR (VR.tup' (VRs.cons (.bool _) .nil)) hl)

theorem EntsR.at {l : MapL} {m : List MapEntry} (h : EntsR σ M l m) : ∀ (j : Nat) (e : MapEntry), m[j]? = some e → ∃ k v, l[j]? = some (k, v, e.born) ∧ VR σ M k e.key ∧ VR σ M v e.val := by
  intro j e he
  have hj : j < l.length := by rw [← h.len]; exact (List.getElem?_eq_some_iff.1 he).1
  obtain ⟨x, hx⟩ : ∃ x, l[j]? = some x := ⟨_, List.getElem?_eq_getElem hj⟩
  obtain ⟨k, v, n⟩ := x
  obtain ⟨e', h1, h2, h3, h4⟩ := h.get j k v n hx
  rw [he] at h1; cases h1
  exact ⟨k, v, by rw [hx, h4], h2, h3⟩

theorem run_mapNext {n : Nat} (hn : 0 < n) (w : World) : ∃ (j : Nat) (w1 : World), j < n ∧ (w1 = w ∨ w1 = w.drew) ∧ (choose (.mapNext n)).run P w = .ok j w1 := by
  by_cases hf : n ≤ 1
  · exact ⟨0, w, by omega, .inl rfl, by simp [choose, Sem.run, Question.forced, hf]⟩
  · exact ⟨_, w.drew, Nat.mod_lt _ hn, .inr rfl, by
      simp only [choose, Sem.run, Question.forced, decide_eq_true_eq, hf, if_false, Question.cut]
      rfl⟩

/-- What a step of a range over a map may come to. -/
def cands (m : Array MapEntry) (seen : Array Nat) (since : Nat) : Array (Option MapEntry) :=
  let left := m.filter fun e => !seen.contains e.born
  let old := left.filter (·.born < since)
  let new := left.filter (·.born ≥ since)
  (if old.isEmpty then #[none] else #[]) ++ (old ++ new).map some

theorem cands_pos (m : Array MapEntry) (seen : Array Nat) (since : Nat) : 0 < (cands m seen since).size := by
  unfold cands
  simp only []
  generalize Array.filter (fun e => !seen.contains e.born) m = left
  by_cases ho : (left.filter (·.born < since)).isEmpty = true
  · rw [if_pos ho]; simp only [Array.size_append, Array.size_singleton, List.size_toArray, List.length_cons, List.length_nil]; omega
  · rw [if_neg ho]
    have : (left.filter (·.born < since)).size ≠ 0 := fun h => ho (by simp only [Array.isEmpty, h]; rfl)
    simp only [Array.size_append, Array.size_map]; omega
theorem cands_none {m : Array MapEntry} {seen : Array Nat} {since : Nat} (h : none ∈ cands m seen since) : ∀ e ∈ m, seen.contains e.born = false → since ≤ e.born := by
  intro e he hs
  unfold cands at h
  simp only [] at h
  by_cases ho : ((m.filter fun e => !seen.contains e.born).filter (·.born < since)).isEmpty = true
  · rcases Nat.lt_or_ge e.born since with hlt | hge
    · exfalso
      have h1 : e ∈ (m.filter fun e => !seen.contains e.born).filter (·.born < since) := Array.mem_filter.2 ⟨Array.mem_filter.2 ⟨he, by rw [hs]; rfl⟩, by simpa using hlt⟩
      have h2 : (m.filter fun e => !seen.contains e.born).filter (·.born < since) = #[] := by
        have := ho
        simp only [Array.isEmpty, decide_eq_true_eq] at this
        exact Array.eq_empty_of_size_eq_zero this
      rw [h2] at h1; simp at h1
    · exact hge
  · rw [if_neg ho] at h
    rcases Array.mem_append.1 h with h | h <;> simp at h
theorem cands_some {m : Array MapEntry} {seen : Array Nat} {since : Nat} {e : MapEntry} (h : some e ∈ cands m seen since) : e ∈ m ∧ seen.contains e.born = false := by
  unfold cands at h
  simp only [] at h
  have key : e ∈ m.filter fun e => !seen.contains e.born := by
    rcases Array.mem_append.1 h with h | h
    · by_cases ho : ((m.filter fun e => !seen.contains e.born).filter (·.born < since)).isEmpty = true
      · rw [if_pos ho] at h; simp at h
      · rw [if_neg ho] at h; simp at h
    · obtain ⟨y, hy, hye⟩ := Array.mem_map.1 h
      cases hye
      rcases Array.mem_append.1 hy with hy | hy
      · exact (Array.mem_filter.1 hy).1
      · exact (Array.mem_filter.1 hy).1
  obtain ⟨h1, h2⟩ := Array.mem_filter.1 key
  exact ⟨h1, by simpa using h2⟩

theorem next_map {r q since stepped c : Nat} {z : Option Nat} {seen : Array Nat} {m : Array MapEntry} {T : TypeId} (hg : (getObj r).run P w = .ok (.mapIter (some q) since seen stepped) w) (hg2 : (getObj q).run P w = .ok (.map m c) w)
    (hguard : (!seen.isEmpty && !m.isEmpty && m.all (·.born ≥ stepped)) = false) {j : Nat} {w1 : World} (hch : (choose (.mapNext (cands m seen since).size)).run P w = .ok j w1) :
    (Instr.next (.pointer (some ⟨r, 0, z⟩)) false T).run P w = (match (cands m seen since)[j]? with
      | some (some e) => do
        setObj r (.mapIter (some q) since (seen.push e.born) c)
        pure (.tuple #[.bool true, e.key, e.val])
      | some none => pure (.tuple #[.bool false])
      | none => stuck "Next: no such candidate" : Sem Value).run P w1 := by
  simp only [Instr.next, Sem.run_bind, hg, hg2, Result.andThen, hguard, Bool.false_eq_true, if_false]
  have hch' := hch
  unfold cands at hch' ⊢
  simp only [] at hch' ⊢
  simp only [Sem.run_pure, Sem.run_bind, hch', Result.andThen]
  first | rfl | (split <;> rfl)

theorem op_nxm {x : Operand} (ho : o.op = .next x false) {x' : AOpd} (hx : copd x = some x') (hR : R P σ M h w) (hA : ActR σ M e a)
    (hN : NextS P σ M w a o.dst next nx) (hl : LOp P md (.nxm x') e h next X) : o.wpIn (fw ro) 0 P a w nx Qx := by
  simp only [LOp] at hl
  split at hl <;> first | exact hl.elim | skip
  rename_i i hs
  obtain ⟨m, since, seen, stepped, hi, hl⟩ := hl
  have h1 := copd_ok hx hA
  rw [hs] at h1
  obtain ⟨L, hL, e1⟩ := ptr00 h1
  obtain ⟨h0, m', hb, hm'⟩ := hR.blk i _ L hi hL
  rw [h0] at e1
  have hlt := hR.placed hi hL
  have hg : (getObj L.b).run P w = .ok (.mapIter m' since seen.toArray stepped) w := by simp [getObj, Sem.run, hb]
  cases m with
  | none =>
    subst hm'
    have hrun : (execOp a.eval o).run P w = .ok (.value (.tuple #[.bool false])) w := by
      simp only [execOp, ho, e1, Instr.next, Sem.run_bind, hg, Result.andThen, Sem.run_pure]
    rcases hl with hl | hl
    · exact wpIn_of_run hrun (hN σ M w h _ _ (.refl _ _ _) hR (VR.tup' (VRs.cons (.bool _) .nil)) hl)
    · exact wpIn_of_run hrun (hN σ M w _ _ _ (.refl _ _ _) (hR.del i) (VR.tup' (VRs.cons (.bool _) .nil)) hl)
  | some q =>
    obtain ⟨K, hK, rfl⟩ := hm'
    obtain ⟨es, c, hq, hok, hover, hstep⟩ := hl
    obtain ⟨m, hm, he⟩ := hR.mapAt hq hK
    have hg2 : (getObj K.b).run P w = .ok (.map m c) w := by simp [getObj, Sem.run, hm]
    have hguard : (!seen.toArray.isEmpty && !m.isEmpty && m.all (·.born ≥ stepped)) = false := by
      rcases hok with rfl | rfl | ⟨y, hy, hlt⟩
      · simp
      · have : m.toList = [] := List.eq_nil_of_length_eq_zero (by rw [he.len]; rfl)
        have : m = #[] := by simpa using this
        subst this; simp
      · have : m.all (·.born ≥ stepped) = false := by
          obtain ⟨j, hj⟩ := List.getElem?_of_mem hy
          obtain ⟨k, v, n⟩ := y
          obtain ⟨e', g1, _, _, g4⟩ := he.get j k v n hj
          rw [← Array.all_toList, List.all_eq_false]
          exact ⟨e', List.mem_of_getElem? g1, by simp only [decide_eq_true_eq]; simp only at hlt; omega⟩
        simp [this]
    obtain ⟨j, w1, hj, hw1, hch⟩ := run_mapNext (P := P) (cands_pos m seen.toArray since) w
    have hw : w1.heap = w.heap ∧ R P σ M h w1 ∧ Ext σ M w σ M w1 := by
      rcases hw1 with rfl | rfl
      · exact ⟨rfl, hR, .refl _ _ _⟩
      · exact ⟨rfl, hR.drew, Ext.drew⟩
    obtain ⟨hheap, hR1, hE1⟩ := hw
    obtain ⟨cand, hcand⟩ : ∃ x, (cands m seen.toArray since)[j]? = some x := ⟨_, Array.getElem?_eq_getElem hj⟩
    have hmem : cand ∈ cands m seen.toArray since := Array.mem_of_getElem? hcand
    have hnext := next_map (P := P) (z := none) (T := o.type) hg hg2 hguard hch
    rw [hcand] at hnext
    cases cand with
    | none =>
      have hn := hover (fun y hy hns => by
        obtain ⟨j, hj⟩ := List.getElem?_of_mem hy
        obtain ⟨k, v, n⟩ := y
        obtain ⟨e', g1, _, _, g4⟩ := he.get j k v n hj
        have := cands_none hmem e' (Array.mem_of_getElem? (by simpa using g1)) (by rw [g4]; simpa using hns)
        simp only; omega)
      have hrun : (execOp a.eval o).run P w = .ok (.value (.tuple #[.bool false])) w1 := by
        simp only [execOp, ho, e1, Sem.run_bind, hnext, Result.andThen, Sem.run_pure]
      rcases hn with hn | hn
      · exact wpIn_of_run hrun (hN σ M w1 h _ _ hE1 hR1 (VR.tup' (VRs.cons (.bool _) .nil)) hn)
      · exact wpIn_of_run hrun (hN σ M w1 _ _ _ hE1 (hR1.del i) (VR.tup' (VRs.cons (.bool _) .nil)) hn)
    | some y =>
      obtain ⟨hy1, hy2⟩ := cands_some hmem
      obtain ⟨j', hj'⟩ := Array.getElem?_of_mem hy1
      obtain ⟨k, v, g1, g2, g3⟩ := he.at j' y (by simpa using hj')
      have hn := hstep k v y.born (List.mem_of_getElem? g1) (by simpa using hy2)
      have hlt1 : L.b < w1.heap.size := by rw [hheap]; exact hlt
      have hset : (setObj L.b (.mapIter (some K.b) since (seen.toArray.push y.born) c)).run P w1 = .ok () { w1 with heap := w1.heap.setIfInBounds L.b (.mapIter (some K.b) since (seen.toArray.push y.born) c) } := by
        simp [setObj, Sem.run, hheap, hb]
      have hrun : (execOp a.eval o).run P w = .ok (.value (.tuple #[.bool true, y.key, y.val])) { w1 with heap := w1.heap.setIfInBounds L.b (.mapIter (some K.b) since (seen.toArray.push y.born) c) } := by
        simp only [execOp, ho, e1, Sem.run_bind, hnext, hset, Result.andThen, Sem.run_pure]
      obtain ⟨q1, q2⟩ := hR1.setBlk (P := P) hi hL (ob := .mapIter (some K.b) since (seen.toArray.push y.born) c) (b' := .mapIter (some q) since (seen ++ [y.born]) c) ⟨h0, some K.b, by rw [set_at hlt1]; simp, K, hK, rfl⟩
      exact wpIn_of_run hrun (hN σ M _ _ _ _ (hE1.trans q1) q2 (VR.tup' (VRs.cons (.bool _) (VRs.cons g2 (VRs.cons g3 .nil)))) hn)

theorem sem_entr {x : Operand} (ho : o.op = .entry x) {x' : AOpd} (hx : copd x = some x') {N : AV → Prop} (hl : LN (.entr x') e h N) : ∃ v, N v ∧ SemVal P o e h v := by
  simp only [LN] at hl
  split at hl <;> first | exact hl.elim | skip
  rename_i i hs
  obtain ⟨m, since, seen, stepped, es, c, k, v, b, hi, hm, hc, hlast, hf, hn⟩ := hl
  refine ⟨_, hn, fun σ M w a hR hA => ?_⟩
  have h1 := copd_ok hx hA
  rw [hs] at h1
  obtain ⟨L, hL, e1⟩ := ptr00 h1
  obtain ⟨h0, m', hb, K, hK, rfl⟩ := hR.blk i _ L hi hL
  rw [h0] at e1
  have hg : (getObj L.b).run P w = .ok (.mapIter (some K.b) since seen.toArray stepped) w := by simp [getObj, Sem.run, hb]
  obtain ⟨mm, hmm, he⟩ := hR.mapAt hm hK
  have hg2 : (getObj K.b).run P w = .ok (.map mm c) w := by simp [getObj, Sem.run, hmm]
  obtain ⟨h2, l1, l2, h3, h4⟩ := List.find?_eq_some_iff_append.1 hf
  have hidx : es[l1.length]? = some (k, v, b) := by rw [h3]; simp
  obtain ⟨en, g1, g2, g3, g4⟩ := he.get _ k v b hidx
  have hfind : mm.find? (·.born == b) = some en := by
    rw [← Array.find?_toList]
    refine List.find?_eq_some_iff_append.2 ⟨by simp [g4], mm.toList.take l1.length, mm.toList.drop (l1.length + 1), ?_, ?_⟩
    · have hlt := (List.getElem?_eq_some_iff.1 g1)
      rw [← hlt.2, List.getElem_cons_drop hlt.1, List.take_append_drop]
    · intro y hy
      obtain ⟨j, hj⟩ := List.getElem?_of_mem hy
      have hjl : j < l1.length := by
        have := (List.getElem?_eq_some_iff.1 hj).1
        simp at this; omega
      rw [List.getElem?_take_of_lt hjl] at hj
      obtain ⟨k', v', q1, _, _⟩ := he.at j y hj
      have : (k', v', y.born) ∈ l1 := by
        rw [h3, List.getElem?_append_left hjl] at q1
        exact List.mem_of_getElem? q1
      simpa using h4 _ this
  refine ⟨.tuple #[en.key, en.val], ?_, VR.tup' (VRs.cons g2 (VRs.cons g3 .nil))⟩
  have hback : seen.toArray.back? = some b := by simpa [Array.back?, List.getLast?_eq_getElem?] using hlast
  simp [execOp, ho, e1, Instr.entry, hg, hg2, hback, hc, hfind]

theorem mgetB_none {k : AV} : ∀ {es : MapL}, midx k es = none → mgetB k es = none := by
  intro es
  induction es with
  | nil => intro _; rfl
  | cons x es ih =>
    intro h
    cases hs : sameK k x.1 with
    | none => simp only [midx, hs, Option.map_eq_none_iff] at h; simp only [mgetB, hs]; exact ih h
    | some b => cases b with
      | true => simp only [midx, hs] at h; cases h
      | false => simp only [midx, hs, Option.map_eq_none_iff] at h; simp only [mgetB, hs]; exact ih h
theorem mgetB_some {k : AV} : ∀ {es : MapL} {j : Nat}, midx k es = some j → ∃ x, es[j]? = some x ∧ sameK k x.1 = some true ∧ mgetB k es = some (x.2.1, x.2.2) ∧ mget k es = some x.2.1 := by
  intro es
  induction es with
  | nil => intro j h; cases h
  | cons x es ih =>
    intro j h
    have other : (midx k es).map (· + 1) = some j → mgetB k (x :: es) = mgetB k es → mget k (x :: es) = mget k es → ∃ y, (x :: es)[j]? = some y ∧ sameK k y.1 = some true ∧ mgetB k (x :: es) = some (y.2.1, y.2.2) ∧ mget k (x :: es) = some y.2.1 := by
      intro hj e1 e2
      obtain ⟨j', h1, rfl⟩ := Option.map_some_inv hj
      obtain ⟨y, h2, h3, h4, h5⟩ := ih h1
      exact ⟨y, by simpa using h2, h3, by rw [e1]; exact h4, by rw [e2]; exact h5⟩
    cases hs : sameK k x.1 with
    | none => simp only [midx, hs] at h; exact other h (by simp only [mgetB, hs]) (by simp only [mget, hs])
    | some b => cases b with
      | true => simp only [midx, hs, Option.some.injEq] at h; subst h; exact ⟨x, rfl, hs, by simp only [mgetB, hs], by simp only [mget, hs]⟩
      | false => simp only [midx, hs] at h; exact other h (by simp only [mgetB, hs]) (by simp only [mget, hs])
theorem mkey_ok {k : AV} {k' : Value} (hk : VR σ M k k') : ∀ {es : MapL} {m : List MapEntry} {j : Nat}, EntsR σ M es m → midx k es = some j → EntsR σ M (mkey k es) (m.modify j fun e => { e with key := k' }) := by
  intro es m j h
  induction h generalizing j with
  | nil => intro h; cases h
  | @cons x e l m hx ht ih =>
    intro hj
    have other : (midx k l).map (· + 1) = some j → EntsR σ M (x :: mkey k l) ((e :: m).modify j fun e => { e with key := k' }) := by
      intro hj
      obtain ⟨j', h1, rfl⟩ := Option.map_some_inv hj
      rw [List.modify_succ_cons]
      exact .cons hx (ih h1)
    cases hs : sameK k x.1 with
    | none => simp only [midx, hs] at hj; simp only [mkey, hs]; exact other hj
    | some b => cases b with
      | true =>
        simp only [midx, hs, Option.some.injEq] at hj; subst hj
        simp only [mkey, hs, List.modify_cons, if_pos]
        exact .cons ⟨hk, hx.v, hx.n⟩ ht
      | false => simp only [midx, hs] at hj; simp only [mkey, hs]; exact other hj
theorem mdrop_ok {k : AV} : ∀ {es : MapL} {m : List MapEntry}, EntsR σ M es m → EntsR σ M (mdrop k es) (match midx k es with | some j => m.eraseIdx j | none => m) := by
  intro es m h
  induction h with
  | nil => exact .nil
  | @cons x e l m hx ht ih =>
    have other : EntsR σ M (x :: mdrop k l) (match (midx k l).map (· + 1) with | some j => (e :: m).eraseIdx j | none => e :: m) := by
      cases hm : midx k l with
      | none => rw [hm] at ih; exact .cons hx ih
      | some j => rw [hm] at ih; exact .cons hx ih
    cases hs : sameK k x.1 with
    | none => simp only [midx, mdrop, hs]; exact other
    | some b => cases b with
      | true => simp only [midx, mdrop, hs]; exact ht
      | false => simp only [midx, mdrop, hs]; exact other

theorem op_ment {T kt et : TypeId} {x k : Operand} {d : TypeDesc} {m : MK} {zi : TypeInfo} {zv : Value} {z : AV} (ho : o.op = .mapEntry T x k) (hT : P.underlying T = some (.map kt et)) (hkt : P.underlying kt = some d) (hm : mkOf P kt d = some m)
    (hz : P.info? et = some zi) (hzv : zi.zero = some zv) (hzz : cv zv = some z) {x' k' : AOpd} (hx : copd x = some x') (hk : copd k = some k') (hR : R P σ M h w) (hA : ActR σ M e a)
    (hN : NextS P σ M w a o.dst next nx) (hl : LOp P md (.ment m z x' k') e h next X) : o.wpIn (fw ro) 0 P a w nx Qx := by
  simp only [LOp] at hl
  split at hl <;> first | exact hl.elim | skip
  rename_i i hi
  obtain ⟨es, c, h1, h2, h3, h4⟩ := hl
  have hxv := copd_ok hx hA
  rw [hi] at hxv
  have hkv := copd_ok hk hA
  obtain ⟨L, hL, e1⟩ := hxv.map_inv
  obtain ⟨mm, hmm, he⟩ := hR.mapAt h1 hL
  have hlt := hR.placed h1 hL
  have hg : (getObj L.b).run P w = .ok (.map mm c) w := by simp [getObj, Sem.run, hmm]
  have hs : ∀ o, (setObj L.b o).run P w = .ok () { w with heap := w.heap.setIfInBounds L.b o } := fun o => by simp [setObj, Sem.run, hmm]
  have hd := keyM_ok hm h2
  have hc := run_checkKey (P := P) hkt hd hkv false w
  have h4 := h4 _ rfl
  rcases run_findKey (P := P) hkt hkv hd he h3 w with ⟨q1, q2, q3⟩ | ⟨j, u, u', q1, q2, q3, q4⟩
  · rw [mgetB_none q1] at h4
    have hrun : (execOp a.eval o).run P w = .ok (.value (.tuple #[zv, goInt c])) { w with heap := w.heap.setIfInBounds L.b (.map (mm.push { key := a.eval k, val := zv, born := c }) (c + 1)) } := by
      simp [execOp, ho, e1, Instr.mapEntry, run_underlying hT, hg, hc, q3, hs, zeroValue, run_typeInfo' hz, hzv]
    obtain ⟨g1, g2⟩ := hR.setBlk (P := P) h1 hL (ob := .map (mm.push { key := a.eval k, val := zv, born := c }) (c + 1)) (b' := .map (es ++ [(ev e k', z, c)]) (c + 1))
      (BlkR.ofEnts (set_at hlt _) (by rw [Array.toList_push]; exact he.snoc ⟨hkv, cv_ok hzz, rfl⟩))
    exact wpIn_of_run hrun (hN σ M _ _ _ _ g1 g2 (VR.tup' (VRs.cons (cv_ok hzz) (VRs.cons (.int _ _) .nil))) h4)
  · obtain ⟨y, hy, hys, hyb, hym⟩ := mgetB_some q1
    rw [hyb] at h4
    rw [q2] at hym; cases hym
    obtain ⟨en, g1, g2, g3, g4⟩ := he.get j y.1 y.2.1 y.2.2 hy
    rw [Array.getElem?_toList] at g1
    have hstay : (Instr.keyThatStays (((mm[j]?).map (·.key)).getD (a.eval k)) (a.eval k)).run P w = .ok (a.eval k) w := by
      simp [g1, Instr.keyThatStays, sameBits_ok hys hkv g2 9999]
    have hrun : (execOp a.eval o).run P w = .ok (.value (.tuple #[u', goInt (en.born : Nat)])) { w with heap := w.heap.setIfInBounds L.b (.map (mm.modify j fun e => { e with key := a.eval k }) c) } := by
      have hb : ((mm[j]?).map (fun x => (x.born : Int))).getD 0 = en.born := by simp [g1]
      simp only [execOp, ho, e1, Instr.mapEntry, Sem.run_bind, run_underlying hT, Result.andThen, hg, hc, q4, hstay, hs, Sem.run_pure, hb]
    obtain ⟨p1, p2⟩ := hR.setBlk (P := P) h1 hL (ob := .map (mm.modify j fun e => { e with key := a.eval k }) c) (b' := .map (mkey (ev e k') es) c)
      (BlkR.ofEnts (set_at hlt _) (by rw [Array.toList_modify]; exact mkey_ok hkv he q1))
    rw [g4] at hrun
    exact wpIn_of_run hrun (hN σ M _ _ _ _ p1 p2 (VR.tup' (VRs.cons q3 (VRs.cons (.int _ _) .nil))) h4)

theorem mstamp_ok {b : Nat} {v : AV} {v' : Value} (hv : VR σ M v v') : ∀ {es : MapL} {m : List MapEntry}, EntsR σ M es m → (∃ x ∈ es, x.2.2 = b) → ∃ i, m.findIdx? (fun e => (e.born : Int) == (b : Nat)) = some i ∧ EntsR σ M (mstamp b v es) (m.modify i fun e => { e with val := v' }) := by
  intro es m h
  induction h with
  | nil => rintro ⟨x, hx, _⟩; simp at hx
  | @cons x e l m hx ht ih =>
    rintro ⟨y, hy, hyb⟩
    have hxn := hx.n
    by_cases hb : x.2.2 = b
    · refine ⟨0, ?_, ?_⟩
      · have : ((e.born : Int) == (b : Nat)) = true := by rw [hxn, hb]; simp
        simp [List.findIdx?_cons, this]
      · have hbb : Nat.beq x.2.2 b = true := by rw [hb]; exact Nat.beq_refl b
        simp only [mstamp, hbb, List.modify_cons, if_pos]
        exact .cons ⟨hx.k, hv, hx.n⟩ ht
    · have hy' : y ∈ l := by
        rcases List.mem_cons.1 hy with rfl | hy
        · exact absurd hyb hb
        · exact hy
      obtain ⟨i, h1, h2⟩ := ih ⟨y, hy', hyb⟩
      refine ⟨i + 1, ?_, ?_⟩
      · have : ((e.born : Int) == (b : Nat)) = false := by rw [hxn]; simp; omega
        simp [List.findIdx?_cons, this, h1]
      · have hbb : Nat.beq x.2.2 b = false := by
          cases hh : Nat.beq x.2.2 b with
          | false => rfl
          | true => exact absurd (Nat.eq_of_beq_eq_true hh) hb
        simp only [mstamp, hbb, List.modify_succ_cons]
        exact .cons hx h2

theorem op_mest {T : TypeId} {x s v : Operand} (ho : o.op = .entryStore T x s v) {x' s' v' : AOpd} (hx : copd x = some x') (hs : copd s = some s') (hv : copd v = some v') (hR : R P σ M h w) (hA : ActR σ M e a)
    (hN : NextS P σ M w a o.dst next nx) (hl : LOp P md (.mest x' s' v') e h next X) : o.wpIn (fw ro) 0 P a w nx Qx := by
  simp only [LOp] at hl
  split at hl <;> first | exact hl.elim | skip
  rename_i i k n hi hn
  obtain ⟨es, c, b, h1, rfl, h3, h4⟩ := hl
  have hxv := copd_ok hx hA
  rw [hi] at hxv
  have hsv := copd_ok hs hA
  rw [hn] at hsv
  obtain ⟨L, hL, e1⟩ := hxv.map_inv
  obtain ⟨mm, hmm, he⟩ := hR.mapAt h1 hL
  have hlt := hR.placed h1 hL
  have hg : (getObj L.b).run P w = .ok (.map mm c) w := by simp [getObj, Sem.run, hmm]
  have hso : ∀ o, (setObj L.b o).run P w = .ok () { w with heap := w.heap.setIfInBounds L.b o } := fun o => by simp [setObj, Sem.run, hmm]
  obtain ⟨j, q1, q2⟩ := mstamp_ok (copd_ok hv hA) he h3
  have hrun : (execOp a.eval o).run P w = .ok .skip { w with heap := w.heap.setIfInBounds L.b (.map (mm.modify j fun e => { e with val := a.eval v }) c) } := by
    have q1' : mm.findIdx? (fun e => (e.born : Int) == (b : Nat)) = some j := by
      have := List.findIdx?_toArray (fun e : MapEntry => (e.born : Int) == (b : Nat)) mm.toList
      rw [Array.toArray_toList] at this
      rw [this]; exact q1
    simp [execOp, ho, e1, Instr.entryStore, hg, hsv.int_inv, asInt, asIntOf, q1', hso]
  obtain ⟨p1, p2⟩ := hR.setBlk (P := P) h1 hL (ob := .map (mm.modify j fun e => { e with val := a.eval v }) c) (b' := .map (mstamp b (ev e v') es) c)
    (BlkR.ofEnts (set_at hlt _) (by rw [Array.toList_modify]; exact q2))
  exact wpIn_of_skip hrun (hN σ M _ _ (.tup []) undef p1 p2 (VR.tup' .nil) h4)

theorem op_mdel {T kt et : TypeId} {x k : Operand} {ts : Array TypeId} {d : TypeDesc} {m : MK} (ho : o.op = .call { callee := .builtin .delete, args := #[x, k], argTypes := ts }) (h0 : ts[0]? = some T) (hT : P.underlying T = some (.map kt et))
    (hkt : P.underlying kt = some d) (hm : mkOf P kt d = some m) {x' k' : AOpd} (hx : copd x = some x') (hk : copd k = some k') (hR : R P σ M h w) (hA : ActR σ M e a)
    (hN : NextS P σ M w a o.dst next nx) (hl : LOp P md (.mdel m x' k') e h next X) : o.wpIn (fw ro) 0 P a w nx Qx := by
  simp only [LOp] at hl
  have hxv := copd_ok hx hA
  have hkv := copd_ok hk hA
  split at hl <;> first | exact hl.elim | skip
  · rename_i i hi
    obtain ⟨es, c, h1, h2, h3, h4⟩ := hl
    rw [hi] at hxv
    obtain ⟨L, hL, e1⟩ := hxv.map_inv
    obtain ⟨mm, hmm, he⟩ := hR.mapAt h1 hL
    have hlt := hR.placed h1 hL
    have hg : (getObj L.b).run P w = .ok (.map mm c) w := by simp [getObj, Sem.run, hmm]
    have hs : ∀ o, (setObj L.b o).run P w = .ok () { w with heap := w.heap.setIfInBounds L.b o } := fun o => by simp [setObj, Sem.run, hmm]
    have hd := keyM_ok hm h2
    have hc := run_checkKey (P := P) hkt hd hkv mm.isEmpty w
    have hdrop := mdrop_ok (k := ev e k') he
    rcases run_findKey (P := P) hkt hkv hd he h3 w with ⟨q1, q2, q3⟩ | ⟨j, u, u', q1, q2, q3, q4⟩
    · rw [q1] at hdrop
      have hrun : (execOp a.eval o).run P w = .ok (.value (.tuple #[])) { w with heap := w.heap.setIfInBounds L.b (.map mm c) } := by
        simp [execOp, ho, resolve, invoke, builtin, e1, Builtin.delete_, h0, run_underlying hT, hg, hc, q3, hs]
      obtain ⟨p1, p2⟩ := hR.setBlk (P := P) h1 hL (ob := .map mm c) (b' := .map (mdrop (ev e k') es) c) (BlkR.ofEnts (set_at hlt _) hdrop)
      exact wpIn_of_run hrun (hN σ M _ _ (.tup []) _ p1 p2 (VR.tup' .nil) h4)
    · rw [q1] at hdrop
      have hrun : (execOp a.eval o).run P w = .ok (.value (.tuple #[])) { w with heap := w.heap.setIfInBounds L.b (.map (mm.eraseIdxIfInBounds j) c) } := by
        simp [execOp, ho, resolve, invoke, builtin, e1, Builtin.delete_, h0, run_underlying hT, hg, hc, q4, hs]
      obtain ⟨p1, p2⟩ := hR.setBlk (P := P) h1 hL (ob := .map (mm.eraseIdxIfInBounds j) c) (b' := .map (mdrop (ev e k') es) c) (BlkR.ofEnts (set_at hlt _) (by
        rw [Array.toList_eraseIdxIfInBounds]; exact hdrop))
      exact wpIn_of_run hrun (hN σ M _ _ (.tup []) _ p1 p2 (VR.tup' .nil) h4)
  · rename_i hi
    obtain ⟨h2, h4⟩ := hl
    rw [hi] at hxv
    have e1 : a.eval x = .map none := by generalize a.eval x = q at hxv; cases hxv; rfl
    have hc := run_checkKey (P := P) hkt (keyM_ok hm h2) hkv true w
    have hrun : (execOp a.eval o).run P w = .ok (.value (.tuple #[])) w := by
      simp [execOp, ho, resolve, invoke, builtin, e1, Builtin.delete_, h0, run_underlying hT, hc]
    exact wpIn_of_run hrun (hN σ M w h (.tup []) _ (.refl _ _ _) hR (VR.tup' .nil) h4)

theorem sem_tass {x : Operand} {xT T : TypeId} {ok : Bool} {d : TypeDesc} {zi : TypeInfo} {zv : Value} {z : AV} (ho : o.op = .typeAssert x xT T ok) (hT : P.underlying T = some d) (hd : ∀ ms, d ≠ .interface ms) (hz : P.info? T = some zi)
    (hzv : zi.zero = some zv) (hzz : cv zv = some z) {x' : AOpd} (hx : copd x = some x') {N : AV → Prop} (hl : LN (.tass T ok z x') e h N) : ∃ v, N v ∧ SemVal P o e h v := by
  have zr : ∀ w, (zeroValue T).run P w = .ok zv w := fun w => by simp [zeroValue, run_typeInfo' hz, hzv]
  simp only [LN] at hl
  split at hl <;> first | exact hl.elim | skip
  · rename_i t v hs
    split at hl
    · rename_i hb
      obtain rfl := Nat.eq_of_beq_eq_true hb
      refine ⟨_, hl, fun σ M w a hR hA => ?_⟩
      have h1 := copd_ok hx hA
      rw [hs] at h1
      obtain ⟨u, e1, hu⟩ : ∃ u, a.eval x = .iface t u ∧ VR σ M v u := by
        generalize a.eval x = q at h1
        cases h1 with | ifc _ _ u hu => exact ⟨u, rfl, hu⟩
      refine ⟨if ok then .tuple #[u, .bool true] else u, ?_, ?_⟩
      · cases d <;> first | (exact absurd rfl (hd _)) | (simp [execOp, ho, Instr.typeAssert, run_underlying hT, e1])
      · cases ok with
        | true => exact VR.tup' (VRs.cons hu (VRs.cons (.bool _) .nil))
        | false => exact hu
    · rename_i hb
      obtain ⟨rfl, hl⟩ := hl
      have hne : t ≠ T := fun e => by rw [e, Nat.beq_refl] at hb; cases hb
      refine ⟨_, hl, fun σ M w a hR hA => ?_⟩
      have h1 := copd_ok hx hA
      rw [hs] at h1
      obtain ⟨u, e1, hu⟩ : ∃ u, a.eval x = .iface t u ∧ VR σ M v u := by
        generalize a.eval x = q at h1
        cases h1 with | ifc _ _ u hu => exact ⟨u, rfl, hu⟩
      refine ⟨.tuple #[zv, .bool false], ?_, VR.tup' (VRs.cons (cv_ok hzz) (VRs.cons (.bool _) .nil))⟩
      cases d <;> first | (exact absurd rfl (hd _)) | (simp [execOp, ho, Instr.typeAssert, run_underlying hT, e1, hne, zr])
  · rename_i hs
    obtain ⟨rfl, hl⟩ := hl
    refine ⟨_, hl, fun σ M w a hR hA => ?_⟩
    have h1 := copd_ok hx hA
    rw [hs] at h1
    have e1 : a.eval x = .nilIface := by generalize a.eval x = q at h1; cases h1; rfl
    refine ⟨.tuple #[zv, .bool false], ?_, VR.tup' (VRs.cons (cv_ok hzz) (VRs.cons (.bool _) .nil))⟩
    cases d <;> first | (exact absurd rfl (hd _)) | (simp [execOp, ho, Instr.typeAssert, run_underlying hT, e1, zr])

theorem exec_externW {f : FuncId} {args : Array Operand} {ts : Array TypeId} {fn : Func} (ho : o.op = .call { callee := .value (.func f), args, argTypes := ts }) (hf : P.funcs[f]? = some fn) (hb : fn.body.isNone = true)
    (hn : (fn.name == "runtime.NumGoroutine") = false) {g : Array Value → Sem Value} (hx : Extern.findNext fn = none ∧ Extern.find fn = some g) {a : Act} {w w' : World} {v : Value} (hr : (g (args.map a.eval)).run P w = .ok v w') :
    (execOp a.eval o).run P w = .ok (.value v) w' := by
  have hc : (callFunc f (args.map a.eval)).run P w = .ok (.value v) w' := by
    have hp : (program).run P w = .ok P w := rfl
    have hm : (mark (.extern f)).run P w = .ok () w := rfl
    simp only [callFunc, Sem.run_bind, hp, Result.andThen, hf, hn, hb, Bool.false_eq_true, if_false, if_true, hm, hx.1, hx.2, hr, Sem.run_pure]
  simp [execOp, ho, resolve, Deferred.ofValue, Act.eval, invoke, hc]

theorem find_cas (fn : Func) (h : fn.name = "sync/atomic.CompareAndSwapInt32") (ho : fn.origin = "") : Extern.findNext fn = none ∧ Extern.find fn = some (Extern.Atomic.casT (.int .i32)) := by
  cases fn with
  | mk => simp only at h ho; subst h; subst ho; exact ⟨by kernel_rfl, by kernel_rfl⟩
theorem find_xadd (fn : Func) (h : fn.name = "sync/atomic.AddInt32") (ho : fn.origin = "") : Extern.findNext fn = none ∧ Extern.find fn = some (Extern.Atomic.update (Op.intArith .add) .i32 true) := by
  cases fn with
  | mk => simp only at h ho; subst h; subst ho; exact ⟨by kernel_rfl, by kernel_rfl⟩

/-- One cell of a mutable row. -/
theorem R.cellAt (hR : R P σ M h w) {b j q : Nat} {T : TypeId} {es : List (List AV)} {cs : List AV} {v : AV} {L : Loc} (hb : h b = some (.row T es)) (hj : es[j]? = some cs) (hq : cs[q]? = some v) (hL : σ b = some L) :
    ∃ v', w.cell? ⟨L.b, L.o + j * L.z + q, none⟩ = some v' ∧ VR σ M v v' ∧ w.frozen? ⟨L.b, L.o + j * L.z + q, none⟩ = false := by
  obtain ⟨C, F, hbl, hs, hz, hcap, hes, hF⟩ := hR.blk b _ L hb hL
  obtain ⟨v', h1, h2⟩ := (hes j cs hj).1.2 q v hq
  rw [Array.getElem?_extract] at h1
  split at h1
  · refine ⟨v', by simp [World.cell?, hbl, h1], h2, ?_⟩
    have := hF.at (L.o + j * L.z + q) (by rw [← hs]; exact (Array.getElem?_eq_some_iff.1 h1).1)
    simp only [World.frozen?, hbl]
    cases hd : (decide (F.1 ≤ L.o + j * L.z + q) && decide (L.o + j * L.z + q < F.2)) with
    | false => rfl
    | true => simp only [Bool.and_eq_true, decide_eq_true_eq] at hd; exact absurd hd this
  · cases h1

theorem run_store1 {ad : Addr} {v v' : Value} (hc : w.cell? ad = some v') (hf : w.frozen? ad = false) (hs : Value.scalar v = true) (m : Mode) : (store ad v m).run P w = .ok () (w.setCell ad v) := by
  cases v with
  | agg _ => cases hs
  | tuple _ => cases hs
  | _ => simp [store, Sem.run, hc, hf]

/-- A number stored into a cell. -/
theorem R.storeInt (hR : R P σ M h w) {b j q : Nat} {T : TypeId} {es : List (List AV)} {cs : List AV} {v : AV} {L : Loc} (hb : h b = some (.row T es)) (hj : es[j]? = some cs) (hq : cs[q]? = some v) (hL : σ b = some L) (k : IntKind) (n : Int) :
    Ext σ M w σ M (w.setCell ⟨L.b, L.o + j * L.z + q, none⟩ (.int k n)) ∧ R P σ M (h.set b (.row T (es.set j (cs.set q (.int k n))))) (w.setCell ⟨L.b, L.o + j * L.z + q, none⟩ (.int k n)) := by
  obtain ⟨v', h1, _, h3⟩ := hR.cellAt hb hj hq hL
  have hlt : q < cs.length := (List.getElem?_eq_some_iff.1 hq).1
  obtain ⟨w', g1, g2, g3⟩ := hR.store (P := P) hb hj (o := q) (vs := [.int k n]) (A := #[.int k n]) (by simp; omega) hL (VRs.cons (.int k n) .nil) rfl
  have e : w' = w.setCell ⟨L.b, L.o + j * L.z + q, none⟩ (.int k n) := by
    have : (storeCells ⟨L.b, L.o + j * L.z + q, none⟩ [.int k n]).run P w = .ok () w' := g1
    simp only [storeCells, add_none, Nat.add_zero, Sem.run_bind, Sem.run_pure, run_store1 (P := P) h1 h3 (v := .int k n) rfl .plain, Result.andThen] at this
    cases this; rfl
  subst e
  refine ⟨g2, ?_⟩
  have : cs.set q (.int k n) = cs.take q ++ [.int k n] ++ cs.drop (q + [AV.int k n].length) := by
    rw [List.set_eq_take_append_cons_drop, if_pos hlt]; simp
  rw [this]; exact g3

theorem op_cas {f : FuncId} {x y z : Operand} {ts : Array TypeId} {fn : Func} (ho : o.op = .call { callee := .value (.func f), args := #[x, y, z], argTypes := ts }) (hf : P.funcs[f]? = some fn) (hb : fn.body.isNone = true)
    (hn : fn.name = "sync/atomic.CompareAndSwapInt32") (hor : fn.origin = "") {x' y' z' : AOpd} (hx : copd x = some x') (hy : copd y = some y') (hz : copd z = some z') (hR : R P σ M h w) (hA : ActR σ M e a)
    (hN : NextS P σ M w a o.dst next nx) (hl : LOp P md (.cas .i32 x' y' z') e h next X) : o.wpIn (fw ro) 0 P a w nx Qx := by
  simp only [LOp] at hl
  split at hl <;> first | exact hl.elim | skip
  rename_i b j q k1 n k2 c h1 h2 h3
  obtain ⟨rfl, rfl, T, es, cs, m, hb', hj, hq, hn'⟩ := hl
  have v1 := copd_ok hx hA
  have v2 := copd_ok hy hA
  have v3 := copd_ok hz hA
  rw [h1] at v1; rw [h2] at v2; rw [h3] at v3
  obtain ⟨L, hL, e1⟩ := v1.ptr_inv
  obtain ⟨u, g1, g2, g3⟩ := hR.cellAt hb' hj hq hL
  obtain rfl := g2.int_inv
  have hn' := hn' _ rfl
  have hargs : (#[x, y, z] : Array Operand).map a.eval = #[.pointer (some ⟨L.b, L.o + j * L.z + q, none⟩), .int .i32 n, .int .i32 c] := by simp [e1, v2.int_inv, v3.int_inv]
  by_cases hc : m = n
  · subst hc
    have hb1 : (m == m) = true := by simp
    rw [hb1] at hn'
    obtain ⟨q2, q3⟩ := hR.storeInt (P := P) hb' hj hq hL .i32 c
    have hrun : (execOp a.eval o).run P w = .ok (.value (.bool true)) (w.setCell ⟨L.b, L.o + j * L.z + q, none⟩ (.int .i32 c)) := by
      refine exec_externW ho hf hb (by rw [hn]; decide) (find_cas fn hn hor) ?_
      rw [hargs, Conc.casT_eq]; exact Conc.run_cas_hit_entry g1 g3
    exact wpIn_of_run hrun (hN σ M _ _ (.bool true) _ q2 q3 (.bool _) hn')
  · have hb1 : (m == n) = false := by simpa using hc
    rw [hb1] at hn'
    have hrun : (execOp a.eval o).run P w = .ok (.value (.bool false)) w := by
      refine exec_externW ho hf hb (by rw [hn]; decide) (find_cas fn hn hor) ?_
      rw [hargs, Conc.casT_eq]; exact Conc.run_cas_miss_entry g1 g3 hc
    exact wpIn_of_run hrun (hN σ M _ _ (.bool false) _ (.refl _ _ _) hR (.bool _) hn')

theorem op_xadd {f : FuncId} {x y : Operand} {ts : Array TypeId} {fn : Func} (ho : o.op = .call { callee := .value (.func f), args := #[x, y], argTypes := ts }) (hf : P.funcs[f]? = some fn) (hb : fn.body.isNone = true)
    (hn : fn.name = "sync/atomic.AddInt32") (hor : fn.origin = "") {x' y' : AOpd} (hx : copd x = some x') (hy : copd y = some y') (hR : R P σ M h w) (hA : ActR σ M e a)
    (hN : NextS P σ M w a o.dst next nx) (hl : LOp P md (.xadd .i32 x' y') e h next X) : o.wpIn (fw ro) 0 P a w nx Qx := by
  simp only [LOp] at hl
  split at hl <;> first | exact hl.elim | skip
  rename_i b j q k1 d h1 h2
  obtain ⟨rfl, T, es, cs, m, hb', hj, hq, hn'⟩ := hl
  have v1 := copd_ok hx hA
  have v2 := copd_ok hy hA
  rw [h1] at v1; rw [h2] at v2
  obtain ⟨L, hL, e1⟩ := v1.ptr_inv
  obtain ⟨u, g1, g2, g3⟩ := hR.cellAt hb' hj hq hL
  obtain rfl := g2.int_inv
  have hn' := hn' _ rfl
  have hargs : (#[x, y] : Array Operand).map a.eval = #[.pointer (some ⟨L.b, L.o + j * L.z + q, none⟩), .int .i32 d] := by simp [e1, v2.int_inv]
  obtain ⟨q2, q3⟩ := hR.storeInt (P := P) hb' hj hq hL .i32 (IntKind.i32.wrap (m + d))
  have hrun : (execOp a.eval o).run P w = .ok (.value (.int .i32 (IntKind.i32.wrap (m + d)))) (w.setCell ⟨L.b, L.o + j * L.z + q, none⟩ (.int .i32 (IntKind.i32.wrap (m + d)))) := by
    refine exec_externW ho hf hb (by rw [hn]; decide) (find_xadd fn hn hor) ?_
    rw [hargs]; exact Conc.run_add_entry g1 g3
  exact wpIn_of_run hrun (hN σ M _ _ _ _ q2 q3 (.int _ _) hn')

theorem LV_sound (hc : compV P o = some ao) (hR : R P σ M h w) (hA : ActR σ M e a) (hN : NextS P σ M w a o.dst next nx) (hP : PanS P σ M w a X Qx) (hl : LOp P md ao e h next X) : o.wpIn (fw ro) 0 P a w nx Qx := by
  unfold compV at hc
  split at hc
  case h_1 recv name args ts ho =>
    obtain ⟨x', h1, hc⟩ := Option.bind_some_inv hc
    obtain ⟨as, h2, hc⟩ := Option.bind_some_inv hc
    cases hc; exact op_inv ho h1 h2 hR hA hN hP hl
  case h_2 t x ho =>
    obtain ⟨d, hd, hc⟩ := Option.bind_some_inv hc
    split at hc <;> first | cases hc | skip
    · obtain ⟨x', h1, hc⟩ := Option.bind_some_inv hc
      cases hc; exact op_rngs ho hd h1 hR hA hN hl
    · obtain ⟨x', h1, hc⟩ := Option.bind_some_inv hc
      cases hc; exact op_rngm ho hd h1 hR hA hN hl
  case h_3 x ho => obtain ⟨y, hy, rfl⟩ := Option.map_some_inv hc; exact op_nxs ho hy hR hA hN hl
  case h_4 x ho => obtain ⟨y, hy, rfl⟩ := Option.map_some_inv hc; exact op_nxm ho hy hR hA hN hl
  case h_5 x ho => obtain ⟨y, hy, rfl⟩ := Option.map_some_inv hc; exact op_read hR hA hN (sem_entr ho hy (LOp_N rfl hl))
  case h_6 t x k ho =>
    obtain ⟨D, hT, hc⟩ := Option.bind_some_inv hc
    split at hc <;> first | cases hc | skip
    obtain ⟨d, hd, hc⟩ := Option.bind_some_inv hc
    obtain ⟨m, hm, hc⟩ := Option.bind_some_inv hc
    obtain ⟨zi, hz, hc⟩ := Option.bind_some_inv hc
    obtain ⟨zv, hzv, hc⟩ := Option.bind_some_inv hc
    obtain ⟨z, hzz, hc⟩ := Option.bind_some_inv hc
    obtain ⟨x', h1, hc⟩ := Option.bind_some_inv hc
    obtain ⟨k', h2, hc⟩ := Option.bind_some_inv hc
    cases hc; exact op_ment ho hT hd hm hz hzv hzz h1 h2 hR hA hN hl
  case h_7 t x s v ho =>
    obtain ⟨x', h1, hc⟩ := Option.bind_some_inv hc
    obtain ⟨s', h2, hc⟩ := Option.bind_some_inv hc
    obtain ⟨v', h3, hc⟩ := Option.bind_some_inv hc
    cases hc; exact op_mest ho h1 h2 h3 hR hA hN hl
  case h_8 x xt T ok ho =>
    obtain ⟨d, hd, hc⟩ := Option.bind_some_inv hc
    split at hc <;> first | cases hc | skip
    rename_i hni
    obtain ⟨zi, hz, hc⟩ := Option.bind_some_inv hc
    obtain ⟨zv, hzv, hc⟩ := Option.bind_some_inv hc
    obtain ⟨z, hzz, hc⟩ := Option.bind_some_inv hc
    obtain ⟨x', h1, hc⟩ := Option.bind_some_inv hc
    cases hc; exact op_read hR hA hN (sem_tass ho hd (fun ms e => hni ms e) hz hzv hzz h1 (LOp_N rfl hl))
  case h_9 f args ts ho =>
    obtain ⟨fn, hf, hc⟩ := Option.bind_some_inv hc
    split at hc <;> first | cases hc | skip
    rename_i hcond
    simp only [Bool.and_eq_true, beq_iff_eq] at hcond
    split at hc <;> first | cases hc | skip
    · rename_i x y z hargs
      split at hc <;> first | cases hc | skip
      rename_i hn
      obtain ⟨x', h1, hc⟩ := Option.bind_some_inv hc
      obtain ⟨y', h2, hc⟩ := Option.bind_some_inv hc
      obtain ⟨z', h3, hc⟩ := Option.bind_some_inv hc
      cases hc
      have ha : args = #[x, y, z] := by rw [← Array.toArray_toList (xs := args), hargs]
      subst ha
      exact op_cas ho hf hcond.1 (by simpa using hn) hcond.2 h1 h2 h3 hR hA hN hl
    · rename_i x y hargs
      split at hc <;> first | cases hc | skip
      rename_i hn
      obtain ⟨x', h1, hc⟩ := Option.bind_some_inv hc
      obtain ⟨y', h2, hc⟩ := Option.bind_some_inv hc
      cases hc
      have ha : args = #[x, y] := by rw [← Array.toArray_toList (xs := args), hargs]
      subst ha
      exact op_xadd ho hf hcond.1 (by simpa using hn) hcond.2 h1 h2 hR hA hN hl
  case h_10 args ts ho =>
    obtain ⟨t, h0, hc⟩ := Option.bind_some_inv hc
    obtain ⟨D, hT, hc⟩ := Option.bind_some_inv hc
    split at hc <;> first | cases hc | skip
    obtain ⟨d, hd, hc⟩ := Option.bind_some_inv hc
    obtain ⟨m, hm, hc⟩ := Option.bind_some_inv hc
    split at hc <;> first | cases hc | skip
    rename_i x k hargs
    obtain ⟨x', h1, hc⟩ := Option.bind_some_inv hc
    obtain ⟨k', h2, hc⟩ := Option.bind_some_inv hc
    cases hc
    have ha : args = #[x, k] := by rw [← Array.toArray_toList (xs := args), hargs]
    subst ha
    exact op_mdel ho h0 hT hd hm h1 h2 hR hA hN hl
  case h_11 => cases hc

end
end Go.L
