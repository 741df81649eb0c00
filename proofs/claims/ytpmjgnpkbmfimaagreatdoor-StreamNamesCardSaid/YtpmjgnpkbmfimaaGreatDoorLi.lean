/-
  The logic L, part i: append.
-/
import Derived.Test.YtpmjgnpkbmfimaaGreatDoorLh
namespace Go.L

section
variable {P : Program} {σ σ' : Emb} {M M' : Mem} {h : Hp} {w w' : World}

theorem R.heap (hR : R P σ M h w) (hw : w'.heap = w.heap) : R P σ M h w' where
  fin := hR.fin
  dom := hR.dom
  mem := fun B o hB => by rw [hw]; exact hR.mem B o hB
  sep := hR.sep
  inj := hR.inj
  blk := fun i b L hi hL => (hR.blk i b L hi hL).mono σ.le_refl M.le_refl (by rw [hw])
  al := hR.al

theorem R.drew (hR : R P σ M h w) : R P σ M h w.drew := hR.heap rfl
theorem Ext.drew : Ext σ M w σ M w.drew := ⟨σ.le_refl, M.le_refl, Nat.le_refl _, rfl, rfl, rfl⟩

/-- The cells that append takes from its second argument. -/
structure Src (P : Program) (w : World) (z m : Nat) (x : Value) (new : Array Value) : Prop where
  len : ∀ w' : World, (Builtin.lenOf x).run P w' = .ok m w'
  cells : ∀ w' : World, w'.heap = w.heap → (Builtin.firstCells z m x).run P w' = .ok new w'
  size : new.size = m * z

theorem run_append_fit {t u ty e : TypeId} {i : TypeInfo} (ht : P.underlying t = some (.slice e)) {du : TypeDesc} (hu : P.underlying u = some du) (hdu : ∀ k, du ≠ .int k) (hi : P.info? e = some i)
    {base : Option Addr} {n c m : Nat} {x : Value} {new : Array Value} (hx : Src P w i.size m x new) (hroom : n + m ≤ c) {w1 : World}
    (hst : match base with | some a => (storeCells (a.add (n * i.size)) new.toList).run P w = .ok () w1 | none => w1 = w) :
    (Builtin.append_ #[t, u] ty #[.slice base n c, x]).run P w = .ok (.slice base (n + m) c) w1 := by
  have hz : (match du with | .int _ => true | _ => false) = false := by cases du <;> first | rfl | exact absurd rfl (hdu _)
  cases base with
  | none =>
    subst hst
    simp [Builtin.append_, run_underlying ht, run_underlying hu, run_sizeOf' hi, hz, hx.len, hroom, hx.cells _ rfl]
  | some a =>
    simp only at hst
    simp [Builtin.append_, run_underlying ht, run_underlying hu, run_sizeOf' hi, hz, hx.len, hroom, hx.cells _ rfl, hst]

theorem run_append_new {t u ty e : TypeId} {i : TypeInfo} {zv : Value} (ht : P.underlying t = some (.slice e)) {du : TypeDesc} (hu : P.underlying u = some du) (hdu : ∀ k, du ≠ .int k) (hi : P.info? e = some i)
    (hzv : i.zero = some zv) {base : Option Addr} {n c m : Nat} {x : Value} {new old : Array Value} (hx : Src P w i.size m x new) (hgrow : c < n + m) (hb : (n + m) * i.bytes ≤ 140737488355328) (h63 : n + m ≤ 140737488355328)
    (hold : ∀ w' : World, w'.heap = w.heap → (Builtin.firstCells i.size n (.slice base n c)).run P w' = .ok old w') :
    ∃ cap, n + m ≤ cap ∧ (Builtin.append_ #[t, u] ty #[.slice base n c, x]).run P w =
      .ok (.slice (some ⟨w.heap.size, 0, none⟩) (n + m) cap) (w.drew.alloc (.cells (old ++ new ++ Builtin.zeroCells zv.cells (cap - (n + m))) e)) := by
  have hz : (match du with | .int _ => true | _ => false) = false := by cases du <;> first | rfl | exact absurd rfl (hdu _)
  have hn : ¬ (n + m ≤ c) := by omega
  have hfit := growslice_fits hgrow hb
  have h63' : ¬ (9223372036854775807 < ((n : Int) + (m : Int))) := by omega
  have h48' : ¬ (281474976710656 < Builtin.nextslicecap (n + m) c * i.bytes) := by omega
  refine ⟨grownCap w (n + m) c e, grownCap_ge _ _ _ _, ?_⟩
  have h1 := hx.cells w.drew rfl
  have h2 := hold w.drew rfl
  simp [Builtin.append_, run_underlying ht, run_underlying hu, run_sizeOf' hi, run_typeInfo' hi, hz, hx.len, hn, h63', h48', Question.forced, h1, h2, newRow, grownCap, zeroValue, hzv]

theorem flatten_get {α : Type} {z : Nat} (hz : 0 < z) : ∀ (es : List (List α)), (∀ cs ∈ es, cs.length = z) → ∀ (j : Nat) (v : α), es.flatten[j]? = some v → ∃ cs, es[j / z]? = some cs ∧ cs[j % z]? = some v := by
  intro es
  induction es with
  | nil => intro _ j v h; simp at h
  | cons c es ih =>
    intro hl j v h
    have hc : c.length = z := hl c (by simp)
    simp only [List.flatten_cons] at h
    by_cases hj : j < z
    · rw [List.getElem?_append_left (by omega)] at h
      exact ⟨c, by rw [Nat.div_eq_of_lt hj]; rfl, by rw [Nat.mod_eq_of_lt hj]; exact h⟩
    · rw [List.getElem?_append_right (by omega), hc] at h
      obtain ⟨cs, h1, h2⟩ := ih (fun x hx => hl x (by simp [hx])) _ v h
      have e1 : j = (j - z) + z := by omega
      refine ⟨cs, ?_, ?_⟩
      · rw [e1, Nat.add_div_right _ hz]; simpa using h1
      · rw [e1, Nat.add_mod_right]; exact h2

theorem flatten_len {α : Type} {z : Nat} : ∀ (es : List (List α)), (∀ cs ∈ es, cs.length = z) → es.flatten.length = es.length * z := by
  intro es
  induction es with
  | nil => intro _; simp
  | cons c es ih => intro hl; simp only [List.flatten_cons, List.length_append, List.length_cons, ih (fun x hx => hl x (by simp [hx])), hl c (by simp), Nat.add_mul, Nat.one_mul]; omega

theorem src_cells {z m : Nat} {es : List (List AV)} {b q : Nat} {C : Array Value} {T : TypeId} {F : Nat × Nat} (hz : 0 < z) (hm : es.length = m) (hl : ∀ cs ∈ es, cs.length = z) (hb : w.heap[b]? = some (.cells C T F))
    (hc : ∀ (k : Nat) (cs : List AV) (j : Nat) (v : AV), es[k]? = some cs → cs[j]? = some v → ∃ v', C[q + k * z + j]? = some v' ∧ VR σ M v v') (a : Option Addr) (c : Nat) (ha : a = some ⟨b, q, none⟩ ∨ m = 0) :
    ∃ new, Src P w z m (.slice a m c) new ∧ VRs σ M es.flatten new := by
  have hcell : ∀ j v, es.flatten[j]? = some v → ∃ v', C[q + j]? = some v' ∧ VR σ M v v' := fun j v hj => by
    obtain ⟨cs, h1, h2⟩ := flatten_get hz es hl j v hj
    obtain ⟨v', h3, h4⟩ := hc _ cs _ v h1 h2
    refine ⟨v', ?_, h4⟩
    rw [← h3, Nat.add_assoc, Nat.div_add_mod' j z]
  have hlen := flatten_len es hl
  rw [hm] at hlen
  let D : Nat → Value := fun j => C.getD (q + j) undef
  have hD : ∀ j v, es.flatten[j]? = some v → C[q + j]? = some (D j) ∧ VR σ M v (D j) := fun j v hj => by
    obtain ⟨v', h1, h2⟩ := hcell j v hj
    simp only [D, Array.getD_eq_getD_getElem?, h1, Option.getD_some]
    exact ⟨trivial, h2⟩
  refine ⟨(Array.range (m * z)).map D, ⟨fun w' => by simp [Builtin.lenOf], fun w' hw' => ?_, by simp⟩, ⟨by simp [hlen], fun j v hj => ?_⟩⟩
  · cases a with
    | none =>
      have : m = 0 := by
        rcases ha with ha | ha
        · cases ha
        · exact ha
      subst this
      simp [Builtin.firstCells]
    | some a =>
      by_cases h0 : m = 0
      · subst h0; simp [Builtin.firstCells, loadCells, loadCellsFrom]
      · have ha' : a = ⟨b, q, none⟩ := by rcases ha with ha | ha <;> first | (cases ha; rfl) | exact absurd ha h0
        subst ha'
        simp only [Builtin.firstCells]
        refine run_loadCells fun j hj => ?_
        rw [add_none]
        obtain ⟨v, hv⟩ : ∃ v, es.flatten[j]? = some v := ⟨_, List.getElem?_eq_getElem (by rw [hlen]; exact hj)⟩
        simp [World.cell?, hw', hb, (hD j v hv).1]
  · have hjl : j < m * z := by
      rcases Nat.lt_or_ge j (m * z) with hh | hh
      · exact hh
      · rw [List.getElem?_eq_none (by omega)] at hj; cases hj
    exact ⟨D j, by simp [hjl], (hD j v hj).2⟩

theorem src_ok (hR : R P σ M h w) {v : AV} {v' : Value} {es : List (List AV)} {z : Nat} (hz : 0 < z) (hv : VR σ M v v') (hs : srcEls h v es) (hl : ∀ cs ∈ es, cs.length = z) :
    ∃ new, Src P w z es.length v' new ∧ VRs σ M es.flatten new := by
  have none_ : ∀ (a : Option Addr) (c : Nat), ∃ new, Src P w z 0 (.slice a 0 c) new ∧ VRs σ M [] new := fun a c => by
    refine ⟨#[], ⟨fun w' => by simp [Builtin.lenOf], fun w' _ => ?_, by simp⟩, .nil⟩
    cases a <;> simp [Builtin.firstCells, loadCells, loadCellsFrom]
  cases v <;> simp only [srcEls] at hs <;> try exact hs.elim
  case str s =>
    subst hs
    obtain ⟨b, rfl, rfl⟩ := hv.str_inv
    have hz1 : b.data.toList = [] ∨ z = 1 := by
      cases hb : b.data.toList with
      | nil => exact .inl rfl
      | cons c r => right; have := hl [.int .u8 c.toNat] (by rw [hb]; simp); simpa using this.symm
    have hbs : b.size = b.data.toList.length := Array.length_toList.symm
    have hfl : (List.map (fun b : UInt8 => [AV.int IntKind.u8 (b.toNat : Int)]) b.data.toList).flatten = b.data.toList.map fun b : UInt8 => AV.int IntKind.u8 (b.toNat : Int) := by
      generalize b.data.toList = l
      induction l with
      | nil => rfl
      | cons c l ih => simp [ih]
    rw [hfl]
    refine ⟨b.data.map (fun b => Value.int .u8 b.toNat), ⟨fun w' => by simp only [Builtin.lenOf, Sem.run_pure, List.length_map, hbs], fun w' _ => ?_, ?_⟩, ⟨by simp, fun j v hj => ?_⟩⟩
    · simp only [Builtin.firstCells, List.length_map]
      have : (b.extract 0 b.data.toList.length).data = b.data := by
        apply Array.ext'; rw [Lib.extract_data]; simp only [List.drop_zero, Nat.sub_zero, List.take_length]
      rw [this]; rfl
    · simp only [List.length_map, Array.size_map, Array.length_toList]
      rcases hz1 with h0 | h0
      · have : b.data.size = 0 := by rw [← Array.length_toList, h0]; rfl
        rw [this]; simp
      · subst h0; simp
    · rw [List.getElem?_map] at hj
      cases hc : b.data.toList[j]? with
      | none => simp [hc] at hj
      | some c =>
        simp [hc] at hj; subst hj
        refine ⟨.int .u8 c.toNat, ?_, .int _ _⟩
        rw [Array.getElem?_toList] at hc
        simp [hc]
  case nils => subst hs; rw [hv.nils_inv]; exact none_ _ _
  case emp => subst hs; obtain ⟨a, rfl⟩ := hv.emp_inv; exact none_ _ _
  case isl g0 es0 =>
    subst hs
    cases hv with
    | isl0 _ a c => exact none_ a c
    | isl _ _ z0 B O C T F d c hM hz0 hn hc hv' =>
      by_cases h0 : es = []
      · subst h0; exact none_ _ _
      · have hzz : z0 = z := by
          cases es with
          | nil => exact absurd rfl h0
          | cons e0 es => rw [← hz0 0 e0 rfl]; exact hl e0 (by simp)
        subst hzz
        exact src_cells hz rfl hl (hR.mem _ _ hM) (fun k cs j v hk hj => ⟨_, hc k cs j v hk hj, hv' k cs j v hk hj⟩) _ c (.inl rfl)
  case slc i k n c0 =>
    obtain ⟨T, es0, hi, hkn, rfl⟩ := hs
    obtain ⟨L, a, c', rfl, hL, ha, hn, _, _⟩ := hv.slc_inv
    obtain ⟨C, F, hb, hsz, hLz, hcap, hes, hF⟩ := hR.blk i _ L hi hL
    have hlen : ((es0.drop k).take n).length = n := by simp; omega
    rw [hlen]
    by_cases h0 : n = 0
    · subst h0; simp only [List.take_zero]; exact none_ _ _
    · have hzz : L.z = z := by
        have h1 : ((es0.drop k).take n)[0]? = es0[k]? := by rw [List.getElem?_take_of_lt (by omega), List.getElem?_drop]; rfl
        have h2 : es0[k]? = some es0[k] := List.getElem?_eq_getElem (by omega)
        rw [← (hes k _ h2).2]
        exact hl _ (List.mem_of_getElem? (h1.trans h2))
      refine src_cells (q := L.o + k * L.z) hz hlen hl hb (fun j cs x v hj hx => ?_) _ c' ?_
      · have hjn : j < n := by
          rcases Nat.lt_or_ge j n with hh | hh
          · exact hh
          · rw [List.getElem?_eq_none (by omega)] at hj; cases hj
        rw [List.getElem?_take_of_lt hjn, List.getElem?_drop] at hj
        obtain ⟨v', e1, e2⟩ := (hes _ cs hj).1.2 x v hx
        refine ⟨v', ?_, e2⟩
        rw [Array.getElem?_extract] at e1
        split at e1
        · rw [← hzz, show L.o + k * L.z + j * L.z + x = L.o + (k + j) * L.z + x by rw [Nat.add_mul]; omega]; exact e1
        · cases e1
      · left; rw [ha (by omega)]
end
end Go.L
