/-
  The logic L, part f: composite literals; all operations that only read.
-/
import Derived.Test.YtpmjgnpkbmfimabGreatDoorLe
namespace Go.L

section
variable {P : Program} {σ : Emb} {M : Mem} {h : Hp} {w : World}

theorem fold_set (off : Nat) : ∀ (l : List Value) (k : Nat) (C : Array Value), off + k + l.length ≤ C.size →
    ((l.zipIdx k).foldl (fun (cs : Array Value) (p : Value × Nat) => cs.setIfInBounds (off + p.2) p.1) C).size = C.size ∧
    ∀ x, ((l.zipIdx k).foldl (fun (cs : Array Value) (p : Value × Nat) => cs.setIfInBounds (off + p.2) p.1) C)[x]? = if off + k ≤ x ∧ x < off + k + l.length then l[x - (off + k)]? else C[x]? := by
  intro l
  induction l with
  | nil => intro k C _; refine ⟨rfl, fun x => ?_⟩; rw [if_neg (by simp only [List.length_nil]; omega)]; rfl
  | cons v l ih =>
    intro k C hle
    simp only [List.length_cons] at hle
    have := ih (k + 1) (C.setIfInBounds (off + k) v) (by simp; omega)
    simp only [List.zipIdx_cons, List.foldl_cons]
    refine ⟨by rw [this.1]; simp, fun x => ?_⟩
    rw [this.2 x]
    by_cases h1 : off + (k + 1) ≤ x ∧ x < off + (k + 1) + l.length
    · rw [if_pos h1, if_pos (by simp; omega), show x - (off + k) = (x - (off + (k + 1))) + 1 by omega]
      rfl
    · rw [if_neg h1, Array.getElem?_setIfInBounds]
      by_cases h2 : off + k = x
      · subst h2
        rw [if_pos rfl, if_pos (by omega), if_pos (by simp), Nat.sub_self]; rfl
      · rw [if_neg h2, if_neg (by simp; omega)]

theorem VRs.lay1 {cs v : List AV} {C A : Array Value} (hC : VRs σ M cs C) (hv : VRs σ M v A) {off : Nat} (hle : off + v.length ≤ cs.length) :
    VRs σ M (cs.take off ++ v ++ cs.drop (off + v.length)) (A.zipIdx.foldl (fun cs (c, j) => cs.setIfInBounds (off + j) c) C) := by
  have hl : A.zipIdx.foldl (fun (cs : Array Value) ((c, j) : Value × Nat) => cs.setIfInBounds (off + j) c) C =
      (A.toList.zipIdx 0).foldl (fun (cs : Array Value) (p : Value × Nat) => cs.setIfInBounds (off + p.2) p.1) C := by
    rw [← Array.foldl_toList, Array.toList_zipIdx]
  have hA : A.toList.length = v.length := by rw [Array.length_toList]; exact hv.1
  have key := fold_set off A.toList 0 C (by rw [hA, hC.1]; omega)
  rw [hl]
  refine ⟨by rw [key.1, hC.1]; simp; omega, fun j x hj => ?_⟩
  rw [key.2 j]
  simp only [Nat.add_zero]
  by_cases h1 : off ≤ j ∧ j < off + A.toList.length
  · rw [if_pos h1]
    rw [List.append_assoc, List.getElem?_append_right (by simp; omega), List.getElem?_append_left (by simp; omega)] at hj
    simp only [List.length_take] at hj
    obtain ⟨v', e1, e2⟩ := hv.2 _ x hj
    refine ⟨v', ?_, e2⟩
    rw [Array.getElem?_toList, show j - off = j - min off cs.length by omega]; exact e1
  · rw [if_neg h1]
    by_cases h2 : j < off
    · rw [List.append_assoc, List.getElem?_append_left (by simp; omega), List.getElem?_take_of_lt h2] at hj
      exact hC.2 j x hj
    · rw [List.getElem?_append_right (by simp; omega)] at hj
      simp only [List.length_append, List.length_take, List.getElem?_drop] at hj
      rw [show off + v.length + (j - (min off cs.length + v.length)) = j by omega] at hj
      exact hC.2 j x hj

theorem fill_lay {place : Nat → Option (Nat × Nat)} {e : Env} {a : Act} (hA : ActR σ M e a) : ∀ (parts : List (Nat × Operand)) (ps : List (Nat × Nat × AOpd)), cparts place parts = some ps →
    ∀ (cs r : List AV) (C : Array Value), VRs σ M cs C → lay e cs ps = some r → ∃ A, Instr.fill place C (parts.map fun p => (p.1, a.eval p.2)) = some A ∧ VRs σ M r A := by
  intro parts
  induction parts with
  | nil => intro ps hp cs r C hC hl; cases hp; cases hl; exact ⟨C, rfl, hC⟩
  | cons p parts ih =>
    intro ps hp cs r C hC hl
    obtain ⟨i, x⟩ := p
    unfold cparts at hp
    split at hp <;> first | cases hp | skip
    rename_i off n y l h1 h2 h3
    simp only [lay] at hl
    have hcond : ∃ v, VRs σ M v (a.eval x).cells ∧ v.length = n ∧ off + n ≤ cs.length ∧ lay e (cs.take off ++ v ++ cs.drop (off + n)) l = some r := by
      have hx := copd_ok h2 hA
      cases hb : (notTup (ev e y) && (Nat.beq (ev e y).cells.length n && Nat.ble (off + n) cs.length)) with
      | false => rw [hb] at hl; cases hl
      | true =>
        rw [hb, cond_true] at hl
        simp only [Bool.and_eq_true, Nat.beq_eq, Nat.ble_eq] at hb
        exact ⟨_, hx.cells (fun l h => by rw [h] at hb; cases hb.1), hb.2.1, hb.2.2, hl⟩
    obtain ⟨v, hv, hn, hle, hrec⟩ := hcond
    subst hn
    have hV := hC.lay1 hv hle
    obtain ⟨A, e1, e2⟩ := ih l h3 _ r _ hV hrec
    refine ⟨A, ?_, e2⟩
    simp only [List.map_cons, Instr.fill, h1]
    have hs : (a.eval x).cells.size = v.length := hv.1
    have hs2 : C.size = cs.length := hC.1
    rw [if_neg (by simp [hs, hs2]; omega)]
    exact e1
end

section
variable {P : Program} {o : Oper} {e : Env} {h : Hp} {next : AV → Prop}

theorem zcells_ok {t : TypeId} {z : List AV} (hz : zcells P t = some z) (w : World) : ∃ v : Value, (zeroValue t).run P w = .ok v w ∧ ∀ σ M, VRs σ M z v.cells := by
  unfold zcells at hz
  obtain ⟨i, hi, hz⟩ := Option.bind_some_inv hz
  obtain ⟨v, hv, hz⟩ := Option.bind_some_inv hz
  exact ⟨v, by simp [zeroValue, run_typeInfo' hi, hv], fun σ M => by have := cvs_ok (σ := σ) (M := M) hz; simpa using this⟩

theorem places_run : ∀ (l : List Field) (pl : List (Nat × Nat)), places P l = some pl → ∀ w : World, (l.mapM (fun f => do pure (f.offset, ← sizeOf f.type)) : Sem (List (Nat × Nat))).run P w = .ok pl w := by
  intro l
  induction l with
  | nil => intro pl hp w; cases hp; simp
  | cons f l ih =>
    intro pl hp w
    unfold places at hp
    split at hp <;> first | cases hp | skip
    rename_i i r h1 h2
    have h3 := ih r h2 w
    simp only [bind_pure_comp] at h3
    simp [List.mapM_cons, run_sizeOf' h1, h3]

theorem LN_build {t : TypeId} {parts : Array (Nat × Operand)} {z : List AV} {ps : List (Nat × Nat × AOpd)} {d : TypeDesc} (ho : o.op = .build t parts) (hz : zcells P t = some z) (hd : P.underlying t = some d)
    (hp : (∃ fs pl, d = .struct fs ∧ places P fs.toList = some pl ∧ cparts (fun i => pl[i]?) parts.toList = some ps) ∨
      (∃ n el j, d = .array n el ∧ P.info? el = some j ∧ cparts (fun i => some (i * j.size, j.size)) parts.toList = some ps))
    (hl : LN (.build z ps) e h next) : ∃ v, next v ∧ SemVal P o e h v := by
  simp only [LN] at hl
  obtain ⟨cs, hcs, hN⟩ := hl
  refine ok_of hN fun σ M w a hR hA => ?_
  obtain ⟨zv, hzr, hzv⟩ := zcells_ok hz w
  have hparts : (parts.map fun (i, x) => (i, a.eval x)).toList = parts.toList.map fun p => (p.1, a.eval p.2) := by rw [Array.toList_map]
  rcases hp with ⟨fs, pl, rfl, hpl, hps⟩ | ⟨n, el, j, rfl, hj, hps⟩
  · obtain ⟨A, hf, hA'⟩ := fill_lay hA _ _ hps _ _ _ (hzv σ M) hcs
    refine ⟨.agg A, ?_, .agg' hA'⟩
    have hm : (fs.mapM (fun f => do pure (f.offset, ← sizeOf f.type)) : Sem (Array (Nat × Nat))).run P w = .ok pl.toArray w := by
      have := places_run _ _ hpl w
      rw [Array.mapM_eq_mapM_toList]
      simp only [bind_pure_comp] at this
      simp [this]
    have hf' : Instr.fill (fun x => pl.toArray[x]?) zv.cells (parts.map fun (i, x) => (i, a.eval x)).toList = some A := by
      rw [hparts]; simpa using hf
    simp only [execOp, ho, Instr.build, Sem.run_bind, hzr, Result.andThen, run_underlying hd, hm, hf', Sem.run_pure]
  · obtain ⟨A, hf, hA'⟩ := fill_lay hA _ _ hps _ _ _ (hzv σ M) hcs
    refine ⟨.agg A, ?_, .agg' hA'⟩
    have hf' : Instr.fill (fun i => some (i * j.size, j.size)) zv.cells (parts.map fun (i, x) => (i, a.eval x)).toList = some A := by
      rw [hparts]; exact hf
    simp only [execOp, ho, Instr.build, Sem.run_bind, hzr, Result.andThen, run_underlying hd, run_sizeOf' hj, hf', Sem.run_pure]
end
end Go.L
