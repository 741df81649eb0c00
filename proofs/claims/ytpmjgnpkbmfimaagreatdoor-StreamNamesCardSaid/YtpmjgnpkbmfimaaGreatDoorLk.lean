/-
  The logic L, part k: append is sound.
-/
import Derived.Test.YtpmjgnpkbmfimaaGreatDoorLj
namespace Go.L

section
variable {P : Program} {md : Bool} {σ σ' : Emb} {M M' : Mem} {h : Hp} {w w' : World}

/-- What a change of memory ends in. -/
def Done (P : Program) (σ : Emb) (M : Mem) (w : World) (next : AV → Hp → Prop) (v' : Value) (w' : World) : Prop :=
  ∃ σ' M' h' v, Ext σ M w σ' M' w' ∧ R P σ' M' h' w' ∧ VR σ' M' v v' ∧ next v h'

theorem old_nil {z : Nat} {a : Option Addr} {c : Nat} (w' : World) : (Builtin.firstCells z 0 (.slice a 0 c)).run P w' = .ok #[] w' := by
  cases a <;> simp [Builtin.firstCells, loadCells, loadCellsFrom]

/-- What append does with elements that lie in 'new'. -/
structure AppSem (P : Program) (w : World) (i : TypeInfo) (zv : Value) (T : TypeId) (ts : Array TypeId) (ty : TypeId) (x' : Value) (m : Nat) (new : Array Value) : Prop where
  size : new.size = m * i.size
  fit : ∀ {base : Option Addr} {n c : Nat} {w1 : World}, n + m ≤ c → (match base with | some a => (storeCells (a.add (n * i.size)) new.toList).run P w = .ok () w1 | none => w1 = w) →
    (Builtin.append_ ts ty #[.slice base n c, x']).run P w = .ok (.slice base (n + m) c) w1
  grow : ∀ {base : Option Addr} {n c : Nat} {old : Array Value}, c < n + m → (n + m) * i.bytes ≤ 140737488355328 → n + m ≤ 140737488355328 →
    (∀ w' : World, w'.heap = w.heap → (Builtin.firstCells i.size n (.slice base n c)).run P w' = .ok old w') →
    ∃ cap, n + m ≤ cap ∧ (Builtin.append_ ts ty #[.slice base n c, x']).run P w =
      .ok (.slice (some ⟨w.heap.size, 0, none⟩) (n + m) cap) (w.drew.alloc (.cells (old ++ new ++ Builtin.zeroCells zv.cells (cap - (n + m))) T))

theorem app_core (hR : R P σ M h w) {ts : Array TypeId} {ty T : TypeId} {i : TypeInfo} {zv : Value}
    (hi : P.info? T = some i) (hz0 : 0 < i.size) (hzs : zv.cells.size = i.size) {s : AV} {s' x' : Value} (hs : VR σ M s s') {es' : List (List AV)} {new : Array Value} (hSrc : AppSem P w i zv T ts ty x' es'.length new)
    (hnew : VRs σ M es'.flatten new) {next : AV → Hp → Prop} (hl : LAppE md T i.size i.bytes s es' h next) :
    ∃ v' w', (Builtin.append_ ts ty #[s', x']).run P w = .ok v' w' ∧ Done P σ M w next v' w' := by
  obtain ⟨hlen, hl⟩ := hl
  -- nothing is appended
  have idle : ∀ {a : Option Addr} {n c : Nat} {v : AV}, es' = [] → n ≤ c → VR σ M v (.slice a n c) → next v h →
      ∃ v' w', (Builtin.append_ ts ty #[.slice a n c, x']).run P w = .ok v' w' ∧ Done P σ M w next v' w' := by
    intro a n c v he hnc hv hn
    subst he
    simp only [List.length_nil] at hSrc
    have hn0 : new = #[] := by have := hSrc.size; simp at this; exact this
    refine ⟨_, w, hSrc.fit (w1 := w) (by omega) ?_, σ, M, h, v, .refl _ _ _, hR, hv, hn⟩
    cases a with
    | none => rfl
    | some a => simp [hn0, storeCells]
  -- a new row
  have fresh : ∀ {a : Option Addr} {n c : Nat} {olds : List (List AV)} {old : Array Value} {h0 : Hp}, c < n + es'.length → (n + es'.length) * i.bytes ≤ capMax → n + es'.length ≤ capMax →
      olds.length = n → (∀ cs ∈ olds, cs.length = i.size) → VRs σ M olds.flatten old → (∀ w' : World, w'.heap = w.heap → (Builtin.firstCells i.size n (.slice a n c)).run P w' = .ok old w') →
      R P σ M h0 w → (allocN md h fun j => next (.slc j 0 (n + es'.length) none) (h0.set j (.row T (olds ++ es')))) →
      ∃ v' w', (Builtin.append_ ts ty #[.slice a n c, x']).run P w = .ok v' w' ∧ Done P σ M w next v' w' := by
    intro a n c olds old h0 hgrow hb1 hb2 hon hol hold hrun hR0 hn
    unfold capMax at hb1 hb2
    obtain ⟨cap, hcap, happ⟩ := hSrc.grow hgrow hb1 (by omega) hrun
    refine ⟨_, _, happ, ?_⟩
    obtain ⟨j, hj, hjn⟩ := hR.fresh hn
    have hall : ∀ cs ∈ olds ++ es', cs.length = i.size := fun cs hc => by
      rcases List.mem_append.1 hc with hc | hc
      · exact hol cs hc
      · exact hlen cs hc
    have hA : VRs σ M (olds ++ es').flatten (old ++ new) := by rw [List.flatten_append]; exact hold.append hnew
    have hN := (hR0.drew).newRow hj hi hall hA (rest := Builtin.zeroCells zv.cells (cap - (n + es'.length)))
    refine ⟨_, M, _, _, ?_, hN, ?_, hjn⟩
    · exact (Ext.drew).trans (Ext.alloc hj)
    · refine .slc j 0 _ none ⟨w.heap.size, 0, (old ++ new ++ Builtin.zeroCells zv.cells (cap - (n + es'.length))).size, i.size⟩ _ cap (by simp) (fun _ => by simp) hcap (fun _ h => by cases h) (fun _ => ?_)
      have h1 : (old ++ new).size = (n + es'.length) * i.size := by rw [hA.1, flatten_len _ hall]; simp [hon]
      simp only [Nat.zero_add]
      rw [Array.size_append, h1, size_zeroCells, hzs, ← Nat.add_mul]
      rw [show n + es'.length + (cap - (n + es'.length)) = cap by omega]
      exact Nat.le_refl _
  have elen : es' ≠ [] → 0 < es'.length := fun h => List.length_pos_iff.2 h
  have nl : ∀ (a : Option Addr) (v : AV), VR σ M v (.slice a 0 0) → s' = .slice a 0 0 →
      ((es' = [] ∧ next v h) ∨ (es' ≠ [] ∧ es'.length * i.bytes ≤ capMax ∧ es'.length ≤ capMax ∧ allocN md h fun j => next (.slc j 0 es'.length none) (h.set j (.row T es')))) →
      ∃ v' w', (Builtin.append_ ts ty #[s', x']).run P w = .ok v' w' ∧ Done P σ M w next v' w' := by
    intro a v hv he hl
    subst he
    rcases hl with ⟨h1, h2⟩ | ⟨h1, h2, h3, h4⟩
    · exact idle h1 (Nat.le_refl _) hv h2
    · have := elen h1
      refine fresh (n := 0) (c := 0) (olds := []) (old := #[]) (by omega) (by simpa using h2) (by simpa using h3) rfl (fun _ h => by simp at h) .nil (fun w' _ => old_nil w') hR ?_
      simpa using h4
  cases s <;> try exact hl.elim
  case nils => exact nl none _ .nils hs.nils_inv hl
  case emp => obtain ⟨a, he⟩ := hs.emp_inv; exact nl a _ (.emp a) he hl
  case slc b k n c =>
    -- the row that stands
    have row : ∀ {es : List (List AV)}, h b = some (.row T es) → k + n ≤ es.length → ∃ (L : Loc) (a : Addr) (c' : Nat) (C : Array Value) (F : Nat × Nat) (old : Array Value), s' = .slice (some a) n c' ∧ σ b = some L ∧
        (c' ≠ 0 → a = ⟨L.b, L.o + k * L.z, none⟩) ∧ n ≤ c' ∧ (∀ x, c = some x → c' = x) ∧ (c = none → L.o + (k + c') * L.z ≤ L.s) ∧
        w.heap[L.b]? = some (.cells C T F) ∧ C.size = L.s ∧ L.z = i.size ∧ L.o + es.length * L.z ≤ L.s ∧ Unf F L.s ∧
        (∀ (j : Nat) (cs : List AV), es[j]? = some cs → VRs σ M cs (C.extract (L.o + j * L.z) (L.o + j * L.z + L.z)) ∧ cs.length = L.z) ∧
        ((es.drop k).take n).length = n ∧ (∀ cs ∈ (es.drop k).take n, cs.length = i.size) ∧ VRs σ M ((es.drop k).take n).flatten old ∧
        (∀ w' : World, w'.heap = w.heap → (Builtin.firstCells i.size n (.slice (some a) n c')).run P w' = .ok old w') := by
      intro es hb hkn
      obtain ⟨L, a, c', he, hL, ha, hn, hk, hu'⟩ := hs.slc_inv
      obtain ⟨C, F, hbl, hsz, hLz, hcap, hes, hF⟩ := hR.blk b _ L hb hL
      have hz : L.z = i.size := by rw [hi] at hLz; simpa using hLz.symm
      have hdl : ∀ cs ∈ (es.drop k).take n, cs.length = i.size := fun cs hc => by
        obtain ⟨j, hj⟩ := List.getElem?_of_mem (List.mem_of_mem_drop (List.mem_of_mem_take hc))
        rw [← hz]; exact (hes j cs hj).2
      obtain ⟨old, hO, hOv⟩ := src_ok (es := (es.drop k).take n) hR hz0 hs ⟨T, es, hb, hkn, rfl⟩ hdl
      have hlenn : ((es.drop k).take n).length = n := by simp; omega
      rw [hlenn] at hO
      refine ⟨L, a, c', C, F, old, he, hL, ha, hn, hk, hu', hbl, hsz, hz, hcap, hF, hes, hlenn, hdl, hOv, fun w' hw' => ?_⟩
      rw [he] at hO
      exact hO.cells w' hw'
    -- the elements laid into cells that stand
    have write : ∀ {L : Loc} {C : Array Value} {F : Nat × Nat} (q : Nat), w.heap[L.b]? = some (.cells C T F) → C.size = L.s → L.z = i.size → Unf F L.s → L.o + q * L.z + es'.length * L.z ≤ L.s →
        (∀ cs ∈ es', flat cs = true) →
        ∃ w', (storeCells ⟨L.b, L.o + q * L.z, none⟩ new.toList).run P w = .ok () w' ∧ w'.heap.size = w.heap.size ∧ w'.os = w.os ∧ w'.tape = w.tape ∧ w'.output = w.output ∧ (∀ B, B ≠ L.b → w'.heap[B]? = w.heap[B]?) ∧
          w'.heap[L.b]? = some (.cells (setMany C (L.o + q * L.z) new.toList) T F) := by
      intro L C F q hbl hsz hz hF hle hf
      have hff := flat_flatten hf
      have hnl : new.toList.length = es'.length * L.z := by rw [Array.length_toList, hSrc.size, hz]
      exact run_storeCells (P := P) L.b (L.o + q * L.z) new.toList 0 w C T F hbl (by rw [hnl]; omega) (fun x hx hx2 => hF.at x (by omega)) (fun u hu => by
        obtain ⟨j, hj⟩ := List.getElem?_of_mem hu
        have hjl : j < es'.flatten.length := by
          rcases Nat.lt_or_ge j es'.flatten.length with hh | hh
          · exact hh
          · rw [List.getElem?_eq_none (by rw [Array.length_toList, hnew.1]; exact hh)] at hj; cases hj
        obtain ⟨v', e1, e2⟩ := hnew.2 j _ (List.getElem?_eq_getElem hjl)
        rw [Array.getElem?_toList, e1] at hj; cases hj
        exact scalar_ok e2 (flat_get hff (List.getElem?_eq_getElem hjl)))
    -- what the written cells read as
    have reads : ∀ {L : Loc} {C : Array Value} (q : Nat) (es : List (List AV)), C.size = L.s → L.z = i.size → L.o + q * L.z + es'.length * L.z ≤ L.s →
        (∀ (j : Nat) (cs : List AV), es[j]? = some cs → VRs σ M cs (C.extract (L.o + j * L.z) (L.o + j * L.z + L.z)) ∧ cs.length = L.z) → L.o + es.length * L.z ≤ L.s →
        ∀ (j : Nat) (cs : List AV), ((q ≤ j ∧ es'[j - q]? = some cs) ∨ ((j < q ∨ q + es'.length ≤ j) ∧ es[j]? = some cs)) →
          VRs σ M cs ((setMany C (L.o + q * L.z) new.toList).extract (L.o + j * L.z) (L.o + j * L.z + L.z)) ∧ cs.length = L.z := by
      intro L C q es hsz hz hle hes hcap j cs hj
      have hnl : new.toList.length = es'.length * L.z := by rw [Array.length_toList, hSrc.size, hz]
      have hget := setMany_get new.toList (L.o + q * L.z) C (by omega)
      have hss := setMany_size new.toList (L.o + q * L.z) C
      rcases hj with ⟨hqj, hj⟩ | ⟨hjq, hj⟩
      · have hjl : j - q < es'.length := by
          rcases Nat.lt_or_ge (j - q) es'.length with hh | hh
          · exact hh
          · rw [List.getElem?_eq_none hh] at hj; cases hj
        have hV := rows_of_flat hlen hnew _ cs hj
        have hcl : cs.length = L.z := by rw [hz]; exact hlen cs (List.mem_of_getElem? hj)
        have hm1 : j * L.z = q * L.z + (j - q) * L.z := by rw [← Nat.add_mul]; congr 1; omega
        have hm2 : (j - q + 1) * L.z ≤ es'.length * L.z := Nat.mul_le_mul_right _ hjl
        rw [Nat.add_mul, Nat.one_mul] at hm2
        refine ⟨⟨by rw [Array.size_extract, hss]; omega, fun x u hx => ?_⟩, hcl⟩
        have hxl : x < L.z := by
          rcases Nat.lt_or_ge x cs.length with hh | hh
          · omega
          · rw [List.getElem?_eq_none hh] at hx; cases hx
        obtain ⟨v', e1, e2⟩ := hV.2 x u hx
        refine ⟨v', ?_, e2⟩
        rw [Array.getElem?_extract] at e1
        split at e1
        · rw [Array.getElem?_extract, if_pos (by rw [hss]; omega), hget, if_pos (by omega), Array.getElem?_toList]
          rw [show L.o + j * L.z + x - (L.o + q * L.z) = (j - q) * L.z + x by omega]
          rw [← hz] at e1; exact e1
        · cases e1
      · obtain ⟨hV, hcl⟩ := hes j cs hj
        refine ⟨⟨by rw [Array.size_extract, hss]; have := hV.1; rw [Array.size_extract] at this; exact this, fun x u hx => ?_⟩, hcl⟩
        have hxl : x < L.z := by
          rcases Nat.lt_or_ge x cs.length with hh | hh
          · omega
          · rw [List.getElem?_eq_none hh] at hx; cases hx
        obtain ⟨v', e1, e2⟩ := hV.2 x u hx
        refine ⟨v', ?_, e2⟩
        rw [Array.getElem?_extract] at e1
        split at e1
        · rename_i hc
          rw [Array.getElem?_extract, if_pos (by rw [hss]; exact hc), hget, if_neg, e1]
          intro hcon
          rcases hjq with hjq | hjq
          · have : (j + 1) * L.z ≤ q * L.z := Nat.mul_le_mul_right _ hjq
            rw [Nat.add_mul, Nat.one_mul] at this
            omega
          · have : (q + es'.length) * L.z ≤ j * L.z := Nat.mul_le_mul_right _ hjq
            rw [Nat.add_mul] at this
            omega
        · cases e1
    cases c with
    | none =>
      obtain ⟨es, hb, hkn, hflat, hl⟩ := hl
      obtain ⟨L, a, c', C, F, old, he, hL, ha, hn, hk, hu', hbl, hsz, hz, hcap, hF, hes, hdn, hdl, hOv, hOr⟩ := row hb hkn
      subst he
      rcases hl with ⟨h1, h2⟩ | ⟨h1, h2, h3, h4⟩
      · exact idle h1 hn hs h2
      · have hpos := elen h1
        by_cases hfit : n + es'.length ≤ c'
        · -- there is room: written behind what stands
          have hroom := hu' rfl
          have hm : (k + c') * L.z = (k + n) * L.z + (c' - n) * L.z := by rw [← Nat.add_mul]; congr 1; omega
          have hm2 : es'.length * L.z ≤ (c' - n) * L.z := Nat.mul_le_mul_right _ (by omega)
          have hle : L.o + (k + n) * L.z + es'.length * L.z ≤ L.s := by omega
          obtain ⟨w1, g1, g2, g3, g4, g5, g6, g7⟩ := write (k + n) hbl hsz hz hF hle hflat
          have haddr := ha (by omega)
          refine ⟨_, w1, hSrc.fit (w1 := w1) hfit ?_, ?_⟩
          · simp only [haddr, add_none]
            rw [show L.o + k * L.z + n * i.size = L.o + (k + n) * L.z by rw [Nat.add_mul, ← hz]; omega]; exact g1
          · obtain ⟨j, hj, hjn⟩ := hR.fresh h4
            have hM : M L.b = none := hR.sep b _ L hb hL
            have hB : ∀ x c L', (h.del b) x = some c → σ x = some L' → L'.b ≠ L.b := fun x c L' hx hL' he => by
              by_cases e : x = b
              · subst e; simp at hx
              · rw [Hp.del_ne e] at hx; exact e (hR.inj x b c _ L' L hx hb hL' hL he)
            have hR1 := (hR.del b).other hM hB g6
            let K : Loc := ⟨L.b, L.o + k * L.z, L.s, L.z⟩
            have hR2 := hR1.place (j := j) (b := .row T ((es.drop k).take n ++ es')) (L := K) hj hM hB (by
              refine ⟨_, F, g7, by rw [setMany_size]; exact hsz, by simp [hi, K, hz], ?_, fun x cs hx => ?_, hF⟩
              · have hdl' : ((es.drop k).take n ++ es').length = n + es'.length := by simp; omega
                rw [hdl']
                show L.o + k * L.z + (n + es'.length) * L.z ≤ L.s
                rw [Nat.add_mul]; rw [Nat.add_mul] at hle; omega
              · have key := reads (k + n) es hsz hz hle hes hcap (k + x) cs (by
                  by_cases hxn : x < n
                  · right
                    rw [List.getElem?_append_left (by simp; omega), List.getElem?_take_of_lt hxn, List.getElem?_drop] at hx
                    exact ⟨.inl (by omega), hx⟩
                  · left
                    rw [List.getElem?_append_right (by simp; omega), hdn] at hx
                    exact ⟨by omega, by rw [show k + x - (k + n) = x - n by omega]; exact hx⟩)
                have eo : K.o + x * K.z = L.o + (k + x) * L.z := by show L.o + k * L.z + x * L.z = _; rw [Nat.add_mul]; omega
                rw [eo]
                exact ⟨key.1.mono (Emb.le_set hj) M.le_refl, key.2⟩) (by
              obtain ⟨q, hq⟩ := hR.al b _ L hb hL
              exact ⟨q + k, by show L.o + k * L.z = (q + k) * L.z; rw [hq, Nat.add_mul]⟩)
            refine ⟨_, M, _, _, ⟨Emb.le_set hj, M.le_refl, by omega, g3, g4, g5⟩, hR2, ?_, hjn⟩
            refine .slc j 0 _ none K a c' (by simp) (fun _ => ?_) (by omega) (fun _ h => by cases h) (fun _ => ?_)
            · rw [haddr]; simp [K]
            · show L.o + k * L.z + (0 + c') * L.z ≤ L.s
              rw [Nat.zero_add, Nat.add_assoc, ← Nat.add_mul]; exact hroom
        · exact fresh (olds := (es.drop k).take n) (h0 := h.del b) (by omega) h2 h3 hdn hdl hOv hOr (hR.del b) h4
    | some c0 =>
      obtain ⟨es, hb, hkn, hflat, hl⟩ := hl
      obtain ⟨L, a, c', C, F, old, he, hL, ha, hn, hk, hu', hbl, hsz, hz, hcap, hF, hes, hdn, hdl, hOv, hOr⟩ := row hb hkn
      subst he
      obtain rfl := hk c0 rfl
      rcases hl with ⟨h1, h2, h3⟩ | ⟨h1, h2, h3, h4⟩
      · by_cases hc0 : c' = 0
        · have hn0 : n = 0 := by omega
          have he0 : es' = [] := List.eq_nil_of_length_eq_zero (by omega)
          refine idle he0 hn hs ?_
          have hb' : h.set b (.row T (es.take (k + n) ++ es' ++ es.drop (k + n + es'.length))) = h := by
            refine hR.set_eq hL ?_
            simp [he0, hb]
          rw [hb'] at h3
          simpa [he0] using h3
        · have haddr := ha hc0
          have hmm : (k + n) * L.z + es'.length * L.z ≤ es.length * L.z := by rw [← Nat.add_mul]; exact Nat.mul_le_mul_right _ h2
          have hle : L.o + (k + n) * L.z + es'.length * L.z ≤ L.s := by omega
          obtain ⟨w1, g1, g2, g3, g4, g5, g6, g7⟩ := write (k + n) hbl hsz hz hF hle hflat
          refine ⟨_, w1, hSrc.fit (w1 := w1) h1 ?_, ?_⟩
          · simp only [haddr, add_none]
            rw [show L.o + k * L.z + n * i.size = L.o + (k + n) * L.z by rw [Nat.add_mul, ← hz]; omega]; exact g1
          · have hnl : (es.take (k + n) ++ es' ++ es.drop (k + n + es'.length)).length = es.length := by simp; omega
            refine ⟨σ, M, _, _, ⟨σ.le_refl, M.le_refl, by omega, g3, g4, g5⟩, hR.upd hb hL g6 ?_, ?_, h3⟩
            · refine ⟨_, F, g7, by rw [setMany_size]; exact hsz, by simp [hi, hz], by rw [hnl]; exact hcap, fun x cs hx => ?_, hF⟩
              refine reads (k + n) es hsz hz hle hes hcap x cs ?_
              by_cases h5 : x < k + n
              · right
                rw [List.append_assoc, List.getElem?_append_left (by simp; omega), List.getElem?_take_of_lt h5] at hx
                exact ⟨.inl h5, hx⟩
              · by_cases h6 : x < k + n + es'.length
                · left
                  rw [List.append_assoc, List.getElem?_append_right (by simp; omega), List.getElem?_append_left (by simp; omega)] at hx
                  simp only [List.length_take] at hx
                  exact ⟨by omega, by rw [show x - (k + n) = x - min (k + n) es.length by omega]; exact hx⟩
                · right
                  rw [List.getElem?_append_right (by simp; omega)] at hx
                  simp only [List.length_append, List.length_take, List.getElem?_drop] at hx
                  exact ⟨.inr (by omega), by rw [show x = k + n + es'.length + (x - (min (k + n) es.length + es'.length)) by omega]; exact hx⟩
            · exact .slc b k _ (some c') L a c' hL ha h1 (fun _ h => by cases h; rfl) (fun h => by cases h)
      · exact fresh (olds := (es.drop k).take n) (h0 := h) h1 h2 h3 hdn hdl hOv hOr hR h4

theorem app_ok (hR : R P σ M h w) {t u ty T : TypeId} {i : TypeInfo} {zv : Value} (ht : P.underlying t = some (.slice T)) {du : TypeDesc} (hu : P.underlying u = some du) (hdu : ∀ k, du ≠ .int k)
    (hi : P.info? T = some i) (hz0 : 0 < i.size) (hzv : i.zero = some zv) (hzs : zv.cells.size = i.size) {s x : AV} {s' x' : Value} (hs : VR σ M s s') (hx : VR σ M x x') {next : AV → Hp → Prop} (hl : LApp md T i.size i.bytes s x h next) :
    ∃ v' w', (Builtin.append_ #[t, u] ty #[s', x']).run P w = .ok v' w' ∧ Done P σ M w next v' w' := by
  obtain ⟨es', hsrc, hl⟩ := hl
  obtain ⟨new, hSrc, hnew⟩ := src_ok hR hz0 hx hsrc hl.1
  exact app_core hR hi hz0 hzs hs ⟨hSrc.size, fun h1 h2 => run_append_fit ht hu hdu hi hSrc h1 h2, fun h1 h2 h3 h4 => run_append_new ht hu hdu hi hzv hSrc h1 h2 h3 h4⟩ hnew hl

/-- What append takes from 'make([]T, n)...'. -/
theorem appz_sem {t u ty T : TypeId} {i : TypeInfo} {zv : Value} (ht : P.underlying t = some (.slice T)) {k : IntKind} (hu : P.underlying u = some (.int k)) (hi : P.info? T = some i) (hz0 : 0 < i.size) (hzv : i.zero = some zv)
    (hzs : zv.cells.size = i.size) {m : Nat} (hm : m ≤ 140737488355328) (hb : m * i.bytes ≤ 140737488355328) (k' : IntKind) : AppSem P w i zv T #[t, u] ty (.int k' m) m (Builtin.zeroCells zv.cells m) := by
  have hw : IntKind.i64.wrap (m : Int) = m := IntWalk.i64_in _ ⟨by omega, by omega⟩
  have h1 : ¬ ((m : Int) < 0) := by omega
  have h2 : ¬ ((281474976710656 : Int) < (m : Int) * (i.bytes : Int)) := by
    have : (m : Int) * (i.bytes : Int) = ((m * i.bytes : Nat) : Int) := by simp
    rw [this]; omega
  have hai : ∀ w' : World, (asInt (.int k' (m : Int))).run P w' = .ok (m : Int) w' := fun w' => by simp [asInt, asIntOf]
  have hzr : ∀ w' : World, (zeroValue T).run P w' = .ok zv w' := fun w' => by simp [zeroValue, run_typeInfo' hi, hzv]
  have hz00 : m * i.size = 0 → Builtin.zeroCells zv.cells m = #[] := fun h0 => by
    have : m = 0 := by rcases Nat.mul_eq_zero.1 h0 with h0 | h0 <;> omega
    subst this
    simp [Builtin.zeroCells]
  refine ⟨by rw [size_zeroCells, hzs], ?_, ?_⟩
  · intro base n c w1 hroom hst
    cases base with
    | none =>
      subst hst
      simp [Builtin.append_, run_underlying ht, run_underlying hu, run_sizeOf' hi, run_typeInfo' hi, hai, hw, h1, h2, hroom, hzr]
    | some a =>
      simp only at hst
      simp [Builtin.append_, run_underlying ht, run_underlying hu, run_sizeOf' hi, run_typeInfo' hi, hai, hw, h1, h2, hroom]
      split
      · rename_i h0; rw [hz00 h0] at hst; simp at hst; simp [hst]
      · simp [hzr, hst]
  · intro base n c old hgrow hb1 h63 hold
    have hn : ¬ (n + m ≤ c) := by omega
    have hfit := growslice_fits hgrow hb1
    have h63' : ¬ (9223372036854775807 < ((n : Int) + (m : Int))) := by omega
    have h48' : ¬ (281474976710656 < Builtin.nextslicecap (n + m) c * i.bytes) := by omega
    refine ⟨grownCap w (n + m) c T, grownCap_ge _ _ _ _, ?_⟩
    have h2' := hold w.drew rfl
    simp [Builtin.append_, run_underlying ht, run_underlying hu, run_sizeOf' hi, run_typeInfo' hi, hai, hw, h1, h2, hn, h63', h48', Question.forced, h2', newRow, grownCap, hzr]
    intro h0; rw [hz00 h0]; simp
end
end Go.L
