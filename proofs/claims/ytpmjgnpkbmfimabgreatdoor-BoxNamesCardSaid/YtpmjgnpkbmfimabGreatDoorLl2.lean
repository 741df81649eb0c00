/-
  The logic L, part l2: more operations that change memory; calls through a function value; panics.
-/
import Derived.Test.YtpmjgnpkbmfimabGreatDoorLl
namespace Go.L

section
variable {P : Program} {ro : Option Nat} {md : Bool} {σ σ' : Emb} {M M' : Mem} {h : Hp} {w w' : World}

/-- Elements written over those of a row, or behind them. -/
theorem R.storeElsX (hR : R P σ M h w) {b q : Nat} {T : TypeId} {i : TypeInfo} {es es' : List (List AV)} {L : Loc} {new : Array Value} (hi : P.info? T = some i) (hb : h b = some (.row T es)) (hL : σ b = some L) (hq0 : q ≤ es.length) (hq : L.o + q * L.z + es'.length * L.z ≤ L.s)
    (hlen : ∀ cs ∈ es', cs.length = i.size) (hsize : new.size = es'.length * i.size) (hnew : VRs σ M es'.flatten new) (hflat : ∀ cs ∈ es', flat cs = true) :
    ∃ w1, (storeCells ⟨L.b, L.o + q * L.z, none⟩ new.toList).run P w = .ok () w1 ∧ R P σ M (h.set b (.row T (es.take q ++ es' ++ es.drop (q + es'.length)))) w1 ∧ Ext σ M w σ M w1 := by
  obtain ⟨C, F, hbl, hsz, hLz, hcap, hes, hF⟩ := hR.blk b _ L hb hL
  have hz : L.z = i.size := by rw [hi] at hLz; simpa using hLz.symm
  -- the elements laid into cells that stand
  have write : ∀ {L : Loc} {C : Array Value} {F : Nat × Nat} (q : Nat), w.heap[L.b]? = some (.cells C T F) → C.size = L.s → L.z = i.size → Unf F L.s → L.o + q * L.z + es'.length * L.z ≤ L.s →
      (∀ cs ∈ es', flat cs = true) →
      ∃ w', (storeCells ⟨L.b, L.o + q * L.z, none⟩ new.toList).run P w = .ok () w' ∧ w'.heap.size = w.heap.size ∧ w'.os = w.os ∧ w'.tape = w.tape ∧ w'.output = w.output ∧ (∀ B, B ≠ L.b → w'.heap[B]? = w.heap[B]?) ∧
        w'.heap[L.b]? = some (.cells (setMany C (L.o + q * L.z) new.toList) T F) := by
    intro L C F q hbl hsz hz hF hle hf
    have hff := flat_flatten hf
    have hnl : new.toList.length = es'.length * L.z := by rw [Array.length_toList, hsize, hz]
    exact run_storeCells (P := P) L.b (L.o + q * L.z) new.toList 0 w C T F hbl (by rw [hnl]; omega) (fun x hx hx2 => hF.at x (by omega)) (fun u hu => by
      obtain ⟨j, hj⟩ := List.getElem?_of_mem hu
      have hjl : j < es'.flatten.length := by
        rcases Nat.lt_or_ge j es'.flatten.length with hh | hh
        · exact hh
        · rw [List.getElem?_eq_none (by rw [Array.length_toList, hnew.1]; exact hh)] at hj; cases hj
      obtain ⟨v', e1, e2⟩ := hnew.2 j _ (List.getElem?_eq_getElem hjl)
      rw [Array.getElem?_toList, e1] at hj; cases hj
      exact scalar_ok e2 (flat_get hff (List.getElem?_eq_getElem hjl)))
  -- what the written cells read as
  have reads : ∀ {L : Loc} {C : Array Value} (q : Nat) (es : List (List AV)), C.size = L.s → L.z = i.size → L.o + q * L.z + es'.length * L.z ≤ L.s →
      (∀ (j : Nat) (cs : List AV), es[j]? = some cs → VRs σ M cs (C.extract (L.o + j * L.z) (L.o + j * L.z + L.z)) ∧ cs.length = L.z) → L.o + es.length * L.z ≤ L.s →
      ∀ (j : Nat) (cs : List AV), ((q ≤ j ∧ es'[j - q]? = some cs) ∨ ((j < q ∨ q + es'.length ≤ j) ∧ es[j]? = some cs)) →
        VRs σ M cs ((setMany C (L.o + q * L.z) new.toList).extract (L.o + j * L.z) (L.o + j * L.z + L.z)) ∧ cs.length = L.z := by
    intro L C q es hsz hz hle hes hcap j cs hj
    have hnl : new.toList.length = es'.length * L.z := by rw [Array.length_toList, hsize, hz]
    have hget := setMany_get new.toList (L.o + q * L.z) C (by omega)
    have hss := setMany_size new.toList (L.o + q * L.z) C
    rcases hj with ⟨hqj, hj⟩ | ⟨hjq, hj⟩
    · have hjl : j - q < es'.length := by
        rcases Nat.lt_or_ge (j - q) es'.length with hh | hh
        · exact hh
        · rw [List.getElem?_eq_none hh] at hj; cases hj
      have hV := rows_of_flat hlen hnew _ cs hj
      have hcl : cs.length = L.z := by rw [hz]; exact hlen cs (List.mem_of_getElem? hj)
      have hm1 : j * L.z = q * L.z + (j - q) * L.z := by rw [← Nat.add_mul]; congr 1; omega
      have hm2 : (j - q + 1) * L.z ≤ es'.length * L.z := Nat.mul_le_mul_right _ hjl
      rw [Nat.add_mul, Nat.one_mul] at hm2
      refine ⟨⟨by rw [Array.size_extract, hss]; omega, fun x u hx => ?_⟩, hcl⟩
      have hxl : x < L.z := by
        rcases Nat.lt_or_ge x cs.length with hh | hh
        · omega
        · rw [List.getElem?_eq_none hh] at hx; cases hx
      obtain ⟨v', e1, e2⟩ := hV.2 x u hx
      refine ⟨v', ?_, e2⟩
      rw [Array.getElem?_extract] at e1
      split at e1
      · rw [Array.getElem?_extract, if_pos (by rw [hss]; omega), hget, if_pos (by omega), Array.getElem?_toList]
        rw [show L.o + j * L.z + x - (L.o + q * L.z) = (j - q) * L.z + x by omega]
        rw [← hz] at e1; exact e1
      · cases e1
    · obtain ⟨hV, hcl⟩ := hes j cs hj
      refine ⟨⟨by rw [Array.size_extract, hss]; have := hV.1; rw [Array.size_extract] at this; exact this, fun x u hx => ?_⟩, hcl⟩
      have hxl : x < L.z := by
        rcases Nat.lt_or_ge x cs.length with hh | hh
        · omega
        · rw [List.getElem?_eq_none hh] at hx; cases hx
      obtain ⟨v', e1, e2⟩ := hV.2 x u hx
      refine ⟨v', ?_, e2⟩
      rw [Array.getElem?_extract] at e1
      split at e1
      · rename_i hc
        rw [Array.getElem?_extract, if_pos (by rw [hss]; exact hc), hget, if_neg, e1]
        intro hcon
        rcases hjq with hjq | hjq
        · have : (j + 1) * L.z ≤ q * L.z := Nat.mul_le_mul_right _ hjq
          rw [Nat.add_mul, Nat.one_mul] at this
          omega
        · have : (q + es'.length) * L.z ≤ j * L.z := Nat.mul_le_mul_right _ hjq
          rw [Nat.add_mul] at this
          omega
      · cases e1
  have hle : L.o + q * L.z + es'.length * L.z ≤ L.s := hq
  obtain ⟨w1, g1, g2, g3, g4, g5, g6, g7⟩ := write q hbl hsz hz hF hle hflat
  have hnl : L.o + (es.take q ++ es' ++ es.drop (q + es'.length)).length * L.z ≤ L.s := by
    rcases Nat.le_total (q + es'.length) es.length with hh | hh
    · have : (es.take q ++ es' ++ es.drop (q + es'.length)).length = es.length := by simp; omega
      rw [this]; exact hcap
    · have : (es.take q ++ es' ++ es.drop (q + es'.length)).length = q + es'.length := by simp; omega
      rw [this, Nat.add_mul]; omega
  refine ⟨w1, g1, hR.upd hb hL g6 ?_, ⟨σ.le_refl, M.le_refl, by omega, g3, g4, g5⟩⟩
  refine ⟨_, F, g7, by rw [setMany_size]; exact hsz, by simp [hi, hz], hnl, fun x cs hx => ?_, hF⟩
  refine reads q es hsz hz hle hes hcap x cs ?_
  by_cases h5 : x < q
  · right
    rw [List.append_assoc, List.getElem?_append_left (by simp; omega), List.getElem?_take_of_lt h5] at hx
    exact ⟨.inl h5, hx⟩
  · by_cases h6 : x < q + es'.length
    · left
      rw [List.append_assoc, List.getElem?_append_right (by simp; omega), List.getElem?_append_left (by simp; omega)] at hx
      simp only [List.length_take] at hx
      exact ⟨by omega, by rw [show x - q = x - min q es.length by omega]; exact hx⟩
    · right
      rw [List.getElem?_append_right (by simp; omega)] at hx
      simp only [List.length_append, List.length_take, List.getElem?_drop] at hx
      exact ⟨.inr (by omega), by rw [show x = q + es'.length + (x - (min q es.length + es'.length)) by omega]; exact hx⟩

theorem R.storeEls (hR : R P σ M h w) {b q : Nat} {T : TypeId} {i : TypeInfo} {es es' : List (List AV)} {L : Loc} {new : Array Value} (hi : P.info? T = some i) (hb : h b = some (.row T es)) (hL : σ b = some L) (hq : q + es'.length ≤ es.length)
    (hlen : ∀ cs ∈ es', cs.length = i.size) (hsize : new.size = es'.length * i.size) (hnew : VRs σ M es'.flatten new) (hflat : ∀ cs ∈ es', flat cs = true) :
    ∃ w1, (storeCells ⟨L.b, L.o + q * L.z, none⟩ new.toList).run P w = .ok () w1 ∧ R P σ M (h.set b (.row T (es.take q ++ es' ++ es.drop (q + es'.length)))) w1 ∧ Ext σ M w σ M w1 := by
  obtain ⟨C, F, hbl, hsz, hLz, hcap, hes, hF⟩ := hR.blk b _ L hb hL
  have hmm : q * L.z + es'.length * L.z ≤ es.length * L.z := by rw [← Nat.add_mul]; exact Nat.mul_le_mul_right _ hq
  exact hR.storeElsX hi hb hL (by omega) (by omega) hlen hsize hnew hflat

theorem flatten_replicate : ∀ (n : Nat) (z : List AV), (List.replicate n z).flatten = rep z n := by
  intro n z
  induction n with
  | zero => rfl
  | succ n ih => rw [List.replicate_succ, List.flatten_cons, ih]; rfl

theorem zeros_VRs {z : List AV} {Z : Array Value} (hZ : VRs σ M z Z) (n : Nat) : VRs σ M (List.replicate n z).flatten (Builtin.zeroCells Z n) := by
  rw [flatten_replicate]; exact rep_VRs hZ n

/-- A block laid that nothing speaks of. -/
theorem R.junk (hR : R P σ M h w) (o : Obj) : R P σ M h (w.alloc o) ∧ Ext σ M w σ M (w.alloc o) := by
  refine ⟨⟨hR.fin, hR.dom, fun B x hB => ?_, hR.sep, hR.inj, fun i b L hi hL => (hR.blk i b L hi hL).mono σ.le_refl M.le_refl (RowKit.Below.heap_alloc _ _ _ (hR.placed hi hL)), hR.al⟩, ⟨σ.le_refl, M.le_refl, by simp, rfl, rfl, rfl⟩⟩
  have := hR.mem B x hB
  have hlt : B < w.heap.size := (Array.getElem?_eq_some_iff.1 this).1
  rw [RowKit.Below.heap_alloc _ _ _ hlt]; exact this
end

section
variable {P : Program} {ro : Option Nat} {md : Bool} {o : Oper} {e : Env} {h : Hp} {next X : AV → Hp → Prop} {σ : Emb} {M : Mem} {w : World} {a : Act}
variable {nx : Act → World → Prop} {Qx : Exit → Act → World → Prop}

theorem op_bslice0 {t el : TypeId} {j : TypeInfo} (ho : o.op = .buildSlice t 0 #[]) (ht : P.underlying t = some (.slice el)) (hj : P.info? el = some j)
    (hR : R P σ M h w) (hN : NextS P σ M w a o.dst next nx) (hl : LOp P md (.bslice0 el) e h next X) : o.wpIn (fw ro) 0 P a w nx Qx := by
  have hrun : (execOp a.eval o).run P w = .ok (.value (.slice (some ⟨w.heap.size, 0, none⟩) 0 0)) (w.alloc (.cells #[] el)) := by
    simp [execOp, ho, Instr.buildSlice, run_underlying ht, run_sizeOf' hj, Instr.fill, newRow]
    have : Array.range 0 = #[] := by simp
    rw [this]; simp
  rcases hl with hn | hn
  · obtain ⟨h1, h2⟩ := hR.junk (.cells #[] el)
    exact wpIn_of_run hrun (hN _ _ _ _ (.isl 0 []) _ h2 h1 (.isl0 _ _ _) hn)
  · obtain ⟨i, hi, hin⟩ := hR.fresh hn
    have hN' := hR.newRow hi hj (es := []) (fun x hx => by simp at hx) (A := #[]) (rest := #[]) (by simpa using VRs.nil)
    refine wpIn_of_run hrun (hN _ M _ _ (.slc i 0 0 (some 0)) _ (Ext.alloc hi) (by simpa using hN') ?_ hin)
    exact .slc i 0 0 (some 0) _ _ 0 (Emb.set_same _ _ _) (fun h => absurd rfl h) (Nat.le_refl _) (fun _ h => by cases h; rfl) (fun h => by cases h)

theorem roundIn_fw {l : Nat} {f : FuncId} {tmps : Array Value} {ca cb : Code} {R : Ending → World → Prop} (h : RoundIn Fence.wide 0 P l f tmps ca cb w R) : RoundIn (fw ro) 0 P l f tmps ca cb w R := h

theorem tlook_mem {t f : Nat} : ∀ {l : List (Nat × Nat)}, tlook t l = some f → (t, f) ∈ l := by
  intro l
  induction l with
  | nil => intro h; cases h
  | cons x l ih =>
    obtain ⟨u, g⟩ := x
    intro h
    unfold tlook at h
    split at h
    · rename_i hb; cases h; rw [Nat.eq_of_beq_eq_true hb]; simp
    · exact List.mem_cons_of_mem _ (ih h)

theorem run_method {name : String} {t f : Nat} (hm : (t, f) ∈ invTab P name) (v : Value) (n : Nat) (w : World) :
    (method (n + 1) t v name).run P w = .ok (f, v) w ∧ ∃ fn, P.funcs[f]? = some fn ∧ fn.body.isSome = true ∧ (fn.name == "runtime.NumGoroutine") = false := by
  unfold invTab at hm
  obtain ⟨t', _, ht⟩ := List.mem_filterMap.1 hm
  unfold invOf at ht
  split at ht <;> first | cases ht | skip
  rename_i i hi
  split at ht <;> first | cases ht | skip
  rename_i m hfm
  split at ht <;> first | cases ht | skip
  rename_i p hf
  split at ht <;> first | cases ht | skip
  rename_i d hd
  split at ht <;> first | cases ht | skip
  rename_i fn hfn
  have hc : invOk d p.2 m.path.isEmpty fn.body.isSome fn.name = true := by
    cases hc : invOk d p.2 m.path.isEmpty fn.body.isSome fn.name with
    | false => rw [hc] at ht; cases ht
    | true => rfl
  rw [hc] at ht
  cases ht
  obtain ⟨f', pr⟩ := p
  unfold invOk at hc
  simp only [Bool.and_eq_true, bne_iff_ne, ne_eq] at hc
  obtain ⟨h1, h2, h3, h4⟩ := hc
  refine ⟨?_, fn, hfn, h3, by simpa using h4⟩
  have hpath : m.path.toList = [] := by simpa using h1
  have hti : (typeInfo t).run P w = .ok i w := run_typeInfo' hi w
  simp only [method, Sem.run_bind, hti, Result.andThen, hfm, hpath, follow, Sem.run_pure, hf]
  cases d with
  | pointer el =>
    have h2' : pr = true := h2
    subst h2'
    simp [receiverAt, run_underlying hd, Place.get]
  | _ =>
    have h2' : pr = false := by simpa using h2
    subst h2'
    simp [receiverAt, run_underlying hd, Place.get]

theorem op_callv {x : Operand} {args : Array Operand} {ts : Array TypeId} (ho : o.op = .call { callee := .value x, args, argTypes := ts }) {x' : AOpd} {args' : List AOpd} (hx : copd x = some x') (hargs : copds args.toList = some args')
    (hR : R P σ M h w) (hA : ActR σ M e a) (hN : NextS P σ M w a o.dst next nx) (hP : PanS P σ M w a X Qx) (hl : LOp P md (.callv x' args') e h next X) : o.wpIn (fw ro) 0 P a w nx Qx := by
  simp only [LOp] at hl
  split at hl <;> first | exact hl.elim | skip
  rotate_left
  rotate_left
  · rename_i nm t v hv
    split at hl <;> first | exact hl.elim | skip
    rename_i f hf
    have h1 := copd_ok hx hA
    rw [hv] at h1
    obtain ⟨f', c', e1, hfi, hca, _⟩ := h1.func_inv
    obtain ⟨u0, q1, q2⟩ := hfi.2 0 _ rfl
    obtain ⟨u, rfl, hu⟩ : ∃ u, u0 = .iface t u ∧ VR σ M v u := by cases q2 with | ifc _ _ u hu => exact ⟨u, rfl, hu⟩
    have hfe : f' = #[.iface t u] := by
      refine Array.ext (by simpa using hfi.1) fun i h5 h6 => ?_
      have : i = 0 := by simp at h6; omega
      subst this
      simpa using (Array.getElem?_eq_some_iff.1 q1).2
    subst hfe
    have h2 := copds_ok hargs hA
    have h3 : (args.toList.map a.eval).toArray = args.map a.eval := by rw [← Array.toList_map, Array.toArray_toList]
    rw [h3] at h2
    obtain ⟨hmeth, fn, hfn, hb, hn⟩ := run_method (tlook_mem hf) u (P.types.size + (Made.depth - 1)) w
    have hrun : (execOp a.eval o).run P w = .ok (.enter f (#[u] ++ args.map a.eval)) w := by
      have hb' : fn.body.isNone = false := by cases hh : fn.body <;> simp_all
      have hp : (program).run P w = .ok P w := rfl
      have hc : ∀ as, (callFunc f as).run P w = .ok (.enter f as) w := fun as => by
        simp only [callFunc, Sem.run_bind, hp, Result.andThen, hfn, hn, hb', Bool.false_eq_true, if_false, Sem.run_pure]
      have hd : P.types.size + Made.depth = P.types.size + (Made.depth - 1) + 1 := by simp [Made.depth]
      have hext : (#[Value.iface t u] ++ args.map a.eval).extract 1 (#[Value.iface t u] ++ args.map a.eval).size = args.map a.eval := by
        apply Array.toList_inj.1
        simp only [Array.toList_extract, List.extract_eq_take_drop, Array.toList_append, Array.toList_map, Array.size_append, Array.size_map]
        simp only [List.cons_append, List.nil_append, List.drop_succ_cons, List.drop_zero]
        rw [List.take_of_length_le (by simp)]
      simp only [execOp, ho, resolve, Deferred.ofValue, e1, Sem.run_bind, Sem.run_pure, Result.andThen, invoke]
      simp only [Array.getElem?_append_left (show 0 < (#[Value.iface t u]).size by simp)]
      simp only [hext]
      simp [callMethod, hp, hd, hmeth, hc]
    refine ⟨fun _ _ => trivial, ?_⟩
    show Oper.uponIn _ _ _ _ _ _ _ ((o.semAt ro a.eval).run P w)
    rw [semAt_of hrun (by simp)]
    refine ⟨fun h => by simp [fw, Fence.wide] at h, ?_⟩
    have hall : VRs σ M (v :: args'.map (ev e)) (#[u] ++ args.map a.eval) := by
      have : #[u] ++ args.map a.eval = (u :: (args.map a.eval).toList).toArray := by apply Array.toList_inj.1; simp
      rw [this]
      exact VRs.cons hu (by rw [Array.toArray_toList]; exact h2)
    refine callsIn_fw ((hl.run σ M w _ hR hall).mono fun e' w' ⟨σ', M', h', hE, hR', hr⟩ => ?_)
    cases e' with
    | returned v' => obtain ⟨v, hv, hq⟩ := hr; exact hN σ' M' w' h' v v' hE hR' hv hq
    | panicked ch => obtain ⟨v, v', rfl, hv, hq⟩ := hr; exact hP σ' M' w' h' v v' hE hR' hv hq
    | outgrown => exact hr.elim
  rotate_left
  · rename_i i hv
    have h1 := copd_ok hx hA
    rw [hv] at h1
    obtain ⟨L, hL, e1⟩ : ∃ L, σ i = some L ∧ a.eval x = .func (.yield L.b) #[] #[] := by
      generalize a.eval x = u at h1
      cases h1 with | yld _ L h => exact ⟨L, h, rfl⟩
    have h2 := copds_ok hargs hA
    have h3 : (args.toList.map a.eval).toArray = args.map a.eval := by rw [← Array.toList_map, Array.toArray_toList]
    rw [h3] at h2
    obtain ⟨fn, tmps, ca, cb, g1, g2⟩ := hl.run σ M w _ L hR h2 hL
    have hrun : (execOp a.eval o).run P w = .ok (.round L.b fn tmps ca cb) w := by
      simp [execOp, ho, resolve, Deferred.ofValue, e1, invoke, g1]
    refine ⟨fun _ _ => trivial, ?_⟩
    show Oper.uponIn _ _ _ _ _ _ _ ((o.semAt ro a.eval).run P w)
    rw [semAt_of hrun (by simp)]
    refine ⟨fun h => by simp [fw, Fence.wide] at h, ?_⟩
    refine roundIn_fw (g2.mono fun e' w' ⟨σ', M', h', v, v', hE, hR', he, hv, hq⟩ => ?_)
    subst he
    exact hN σ' M' w' h' v v' hE hR' hv hq
  rename_i f first cap hv
  obtain ⟨⟨fn, hf, hb, hn⟩, hl⟩ := hl
  have h1 := copd_ok hx hA
  rw [hv] at h1
  obtain ⟨f', c', e1, hfi, hca, _⟩ := h1.func_inv
  have h2 := copds_ok hargs hA
  have h3 : (args.toList.map a.eval).toArray = args.map a.eval := by rw [← Array.toList_map, Array.toArray_toList]
  rw [h3] at h2
  have hrun : (execOp a.eval o).run P w = .ok (.enter f (f' ++ args.map a.eval ++ c')) w := by
    have hb' : fn.body.isNone = false := by cases hh : fn.body <;> simp_all
    have hc : ∀ as, (callFunc f as).run P w = .ok (.enter f as) w := fun as => by
      have hp : (program).run P w = .ok P w := rfl
      simp only [callFunc, Sem.run_bind, hp, Result.andThen, hf, hn, hb', Bool.false_eq_true, if_false, Sem.run_pure]
    simp [execOp, ho, resolve, Deferred.ofValue, e1, invoke, hc]
  refine ⟨fun _ _ => trivial, ?_⟩
  show Oper.uponIn _ _ _ _ _ _ _ ((o.semAt ro a.eval).run P w)
  rw [semAt_of hrun (by simp)]
  refine ⟨fun h => by simp [fw, Fence.wide] at h, ?_⟩
  refine callsIn_fw ((hl.run σ M w _ hR ((hfi.append h2).append hca)).mono fun e' w' ⟨σ', M', h', hE, hR', hr⟩ => ?_)
  cases e' with
  | returned v' => obtain ⟨v, hv, hq⟩ := hr; exact hN σ' M' w' h' v v' hE hR' hv hq
  | panicked ch => obtain ⟨v, v', rfl, hv, hq⟩ := hr; exact hP σ' M' w' h' v v' hE hR' hv hq
  | outgrown => exact hr.elim

theorem op_pan {x : Operand} (ho : o.op = .panic x) {x' : AOpd} (hx : copd x = some x') (hR : R P σ M h w) (hA : ActR σ M e a) (hP : PanS P σ M w a X Qx) (hl : LOp P md (.pan x') e h next X) : o.wpIn (fw ro) 0 P a w nx Qx := by
  simp only [LOp] at hl
  split at hl <;> first | exact hl.elim | skip
  rename_i t v hv
  have h1 := copd_ok hx hA
  rw [hv] at h1
  obtain ⟨v', e1⟩ : ∃ v', a.eval x = .iface t v' := by
    generalize a.eval x = u at h1
    cases h1 with | ifc _ _ v' _ => exact ⟨v', rfl⟩
  have hrun : (execOp a.eval o).run P w = .halt (.panic (.iface t v')) w := by
    simp [execOp, ho, e1, Instr.panic, goPanic, Sem.run, Result.andThen]
  refine ⟨fun _ _ => trivial, ?_⟩
  show Oper.uponIn _ _ _ _ _ _ _ ((o.semAt ro a.eval).run P w)
  rw [Oper.semAt_eq _ _ _ (fun c hc => by rw [ho] at hc; cases hc), hrun]
  rw [e1] at h1
  exact hP σ M w h _ _ (.refl _ _ _) hR h1 hl

theorem op_appz {t u : TypeId} {s x : Operand} {ts : Array TypeId} (ho : o.op = .call { callee := .builtin .append, args := #[s, x], argTypes := ts }) (hts : ts = #[t, u]) {el : TypeId} {k : IntKind} {j : TypeInfo} {zv : Value} {z : List AV}
    (ht : P.underlying t = some (.slice el)) (hu : P.underlying u = some (.int k)) (hj : P.info? el = some j) (hz : j.zero = some zv) (hj0 : 0 < j.size) (hzs : zv.cells.size = j.size) (hzz : cvs zv.cells.toList = some z) {s' x' : AOpd}
    (hs : copd s = some s') (hx : copd x = some x') (hR : R P σ M h w) (hA : ActR σ M e a) (hN : NextS P σ M w a o.dst next nx) (hl : LOp P md (.appz el j.size j.bytes z s' x') e h next X) : o.wpIn (fw ro) 0 P a w nx Qx := by
  simp only [LOp] at hl
  split at hl <;> first | exact hl.elim | skip
  rename_i k' m hm
  obtain ⟨n, rfl, h1, h2, hl⟩ := hl
  have hx' := copd_ok hx hA
  rw [hm] at hx'
  have hxe := hx'.int_inv
  unfold capMax at h1 h2
  have hZ : VRs σ M z zv.cells := by have := cvs_ok (σ := σ) (M := M) hzz; simpa using this
  have hsem := appz_sem (P := P) (w := w) (t := t) (u := u) (ty := o.type) ht hu hj hj0 hz hzs h1 h2 k'
  obtain ⟨v', w', hrun, σ', M', h', v, hE, hR', hv, hn⟩ := app_core (es' := List.replicate n z) hR hj hj0 hzs (copd_ok hs hA) (by simpa using hsem) (zeros_VRs hZ n) hl
  refine wpIn_of_run (v' := v') (w' := w') ?_ (hN σ' M' w' h' v v' hE hR' hv hn)
  subst hts
  simp [execOp, ho, resolve, invoke, builtin, hxe, hrun]

theorem op_mkslice {t el : TypeId} {l c : Operand} (ho : o.op = .makeSlice t l c) {j : TypeInfo} {zv : Value} {z : List AV} (ht : P.underlying t = some (.slice el)) (hj : P.info? el = some j) (hz : j.zero = some zv) (hj0 : 0 < j.size) (hzs : zv.cells.size = j.size) (hzz : cvs zv.cells.toList = some z)
    {l' c' : AOpd} (hl' : copd l = some l') (hc' : copd c = some c') (hR : R P σ M h w) (hA : ActR σ M e a) (hN : NextS P σ M w a o.dst next nx) (hl : LOp P md (.mkslice el j.size j.bytes z l' c') e h next X) : o.wpIn (fw ro) 0 P a w nx Qx := by
  simp only [LOp] at hl
  split at hl <;> first | exact hl.elim | skip
  rename_i k1 x1 k2 x2 hm1 hm2
  obtain ⟨m, n, rfl, rfl, h1, h2, h3, hl⟩ := hl
  have hx1 := copd_ok hl' hA
  have hx2 := copd_ok hc' hA
  rw [hm1] at hx1; rw [hm2] at hx2
  unfold capMax at h2 h3
  have hw1 : IntKind.i64.wrap (m : Int) = m := IntWalk.i64_in _ ⟨by omega, by omega⟩
  have hw2 : IntKind.i64.wrap (n : Int) = n := IntWalk.i64_in _ ⟨by omega, by omega⟩
  have hb : ¬ ((281474976710656 : Int) < (j.bytes : Int) * (n : Int)) := by
    have : (j.bytes : Int) * (n : Int) = ((n * j.bytes : Nat) : Int) := by simp [Int.mul_comm]
    rw [this]; omega
  have hai : ∀ (k : IntKind) (x : Int) (w' : World), (asInt (.int k x)).run P w' = .ok x w' := fun k x w' => by simp [asInt, asIntOf]
  have hcond : ¬ (n : Int) < (m : Int) := by omega
  have hn0 : ¬ ((n : Int) < 0) := by omega
  have hm0 : ¬ ((m : Int) < 0) := by omega
  have hrm : ∀ w' : World, (askRoom (n * j.bytes)).run P w' = .ok () w' := fun w' => by unfold askRoom; split <;> rfl
  have hz00 : n * j.size = 0 → Builtin.zeroCells zv.cells n = #[] := fun h0 => by
    have : n = 0 := by rcases Nat.mul_eq_zero.1 h0 with h0 | h0 <;> omega
    subst this
    simp [Builtin.zeroCells]
  have hzr : ∀ w' : World, (zeroValue el).run P w' = .ok zv w' := fun w' => by simp [zeroValue, run_typeInfo' hj, hz]
  have hrun : (execOp a.eval o).run P w = .ok (.value (.slice (some ⟨w.heap.size, 0, none⟩) m n)) (w.alloc (.cells (Builtin.zeroCells zv.cells n) el)) := by
    by_cases h0 : n = 0
    · subst h0
      have : m = 0 := by omega
      subst this
      simp [execOp, ho, Instr.makeSlice, run_underlying ht, run_typeInfo' hj, run_sizeOf' hj, hx1.int_inv, hx2.int_inv, hai, show IntKind.i64.wrap 0 = 0 by decide, newRow, Builtin.zeroCells, askRoom]
      have : Array.range 0 = #[] := by simp
      rw [this]; simp
    · have h0' : ¬ j.size = 0 := by omega
      simp [execOp, ho, Instr.makeSlice, run_underlying ht, run_typeInfo' hj, run_sizeOf' hj, hx1.int_inv, hx2.int_inv, hai, hw1, hw2, hb, hcond, hn0, hm0, h0, h0', hrm, hzr, newRow, Builtin.zeroCells, hzs]
      intro hz0'; exact absurd (by rcases Nat.mul_eq_zero.1 hz0' with h | h <;> omega) h0
  have hZ : VRs σ M z zv.cells := by have := cvs_ok (σ := σ) (M := M) hzz; simpa using this
  have hzl : z.length = j.size := by rw [← hZ.1, hzs]
  obtain ⟨i, hi, hin⟩ := hR.fresh hl
  have hall : ∀ cs ∈ List.replicate n z, cs.length = j.size := fun cs hcs => by rw [(List.mem_replicate.1 hcs).2]; exact hzl
  have hN' := hR.newRow hi hj hall (A := Builtin.zeroCells zv.cells n) (rest := #[]) (zeros_VRs hZ n)
  simp only [Array.append_empty] at hN'
  refine wpIn_of_run hrun (hN _ M _ _ (.slc i 0 m (some n)) _ (Ext.alloc hi) hN' ?_ hin)
  exact .slc i 0 m (some n) _ _ n (Emb.set_same _ _ _) (fun _ => by simp) h1 (fun _ h => by cases h; rfl) (fun h => by cases h)

theorem op_clr {t el : TypeId} {x : Operand} {ts : Array TypeId} (ho : o.op = .call { callee := .builtin .clear, args := #[x], argTypes := ts }) (h0 : ts[0]? = some t) {j : TypeInfo} {zv : Value} {z : List AV} (ht : P.underlying t = some (.slice el)) (hj : P.info? el = some j)
    (hz : j.zero = some zv) (hj0 : 0 < j.size) (hzs : zv.cells.size = j.size) (hzz : cvs zv.cells.toList = some z)
    {x' : AOpd} (hx : copd x = some x') (hR : R P σ M h w) (hA : ActR σ M e a) (hN : NextS P σ M w a o.dst next nx) (hl : LOp P md (.clr el z x') e h next X) : o.wpIn (fw ro) 0 P a w nx Qx := by
  have fin : ∀ w1, (Builtin.clear_ ts o.type #[a.eval x]).run P w = .ok (.tuple #[]) w1 → (execOp a.eval o).run P w = .ok (.value (.tuple #[])) w1 := fun w1 hr => by
    simp [execOp, ho, resolve, invoke, builtin, hr]
  have zero : ∀ (ad : Option Addr) (c : Nat), a.eval x = .slice ad 0 c → next (.tup []) h → o.wpIn (fw ro) 0 P a w nx Qx := fun ad c he hn => by
    refine wpIn_of_run (fin w ?_) (hN σ M w h _ _ (.refl _ _ _) hR (VR.tup' .nil) hn)
    cases ad <;> simp [Builtin.clear_, h0, run_underlying ht, he]
  simp only [LOp] at hl
  split at hl <;> first | exact hl.elim | skip
  all_goals
    rename_i hs
    have hv := copd_ok hx hA
    rw [hs] at hv
  · rename_i b k n c
    obtain ⟨es, hb, hkn, hfl, hn⟩ := hl
    obtain ⟨L, ad, c', he, hL, had, hnc, _, _⟩ := hv.slc_inv
    by_cases hn0 : n = 0
    · subst hn0
      refine zero _ c' he ?_
      have : h.set b (.row el (es.take k ++ List.replicate 0 z ++ es.drop (k + 0))) = h := by
        exact hR.set_eq hL (by simp [hb])
      rw [this] at hn; exact hn
    · have hZ : VRs σ M z zv.cells := by have := cvs_ok (σ := σ) (M := M) hzz; simpa using this
      have hzl : z.length = j.size := by rw [← hZ.1, hzs]
      obtain ⟨w1, g1, g2, g3⟩ := hR.storeEls (es' := List.replicate n z) hj hb hL (by simpa using hkn) (fun cs hcs => by rw [(List.mem_replicate.1 hcs).2]; exact hzl) (new := Builtin.zeroCells zv.cells n)
        (by rw [size_zeroCells, hzs]; simp) (zeros_VRs hZ n) (fun cs hcs => by rw [(List.mem_replicate.1 hcs).2]; exact hfl)
      have hzr : ∀ w' : World, (zeroValue el).run P w' = .ok zv w' := fun w' => by simp [zeroValue, run_typeInfo' hj, hz]
      refine wpIn_of_run (fin w1 ?_) (hN σ M w1 _ _ _ g3 g2 (VR.tup' .nil) (by simpa using hn))
      obtain ⟨n', rfl⟩ : ∃ n', n = n' + 1 := ⟨n - 1, by omega⟩
      simp [Builtin.clear_, h0, run_underlying ht, he, hzr, had (by omega), g1]
  · exact zero _ _ hv.nils_inv hl
  · obtain ⟨ad, he⟩ := hv.emp_inv; exact zero _ _ he hl
  · obtain ⟨rfl, hn⟩ := hl
    obtain ⟨ad, c, he⟩ := hv.isl_len
    exact zero _ _ he hn
end
end Go.L
