/-
  The logic L, part e: the operations that only read are sound.
-/
import Derived.Test.YtpmjgnpkbmfimabGreatDoorLd
import Derived.Lib.Strings
namespace Go.L

section
variable {P : Program} {σ : Emb} {M : Mem} {h : Hp} {w : World}

/-- A cell of a mutable block. -/
theorem R.cell (hR : R P σ M h w) {i k o : Nat} {T : TypeId} {es : List (List AV)} {cs : List AV} {v : AV} {L : Loc} (hi : h i = some (.row T es)) (hk : es[k]? = some cs) (ho : cs[o]? = some v)
    (hL : σ i = some L) : ∃ v', w.cell? ⟨L.b, L.o + k * L.z + o, none⟩ = some v' ∧ VR σ M v v' ∧ w.frozen? ⟨L.b, L.o + k * L.z + o, none⟩ = false := by
  obtain ⟨C, F, hb, hs, hz, hle, hes, hF⟩ := hR.blk i _ L hi hL
  obtain ⟨hV, hlen⟩ := hes k cs hk
  obtain ⟨v', h1, h2⟩ := hV.2 o v ho
  have hol : o < cs.length := by
    rcases Nat.lt_or_ge o cs.length with hh | hh
    · exact hh
    · rw [List.getElem?_eq_none hh] at ho; cases ho
  have h3 : C[L.o + k * L.z + o]? = some v' := by
    rw [Array.getElem?_extract] at h1
    split at h1
    · exact h1
    · cases h1
  refine ⟨v', by simp [World.cell?, hb, h3], h2, ?_⟩
  have := hF.at (L.o + k * L.z + o) (by rw [← hs]; exact (Array.getElem?_eq_some_iff.1 h3).1)
  simp only [World.frozen?, hb]
  cases hd : (decide (F.1 ≤ L.o + k * L.z + o) && decide (L.o + k * L.z + o < F.2)) with
  | false => rfl
  | true => simp only [Bool.and_eq_true, decide_eq_true_eq] at hd; exact absurd hd this

theorem run_load_cell {a : Addr} {v : Value} (hc : w.cell? a = some v) : (load a).run P w = .ok v w := by simp [load, Sem.run, hc]

theorem run_loadCellsFrom {a : Addr} : ∀ (n i : Nat) (acc : Array Value) (C : Nat → Value), (∀ j, j < n → w.cell? (a.add (i + j)) = some (C j)) →
    (loadCellsFrom a i n acc).run P w = .ok (acc ++ (Array.range n).map C) w := by
  intro n
  induction n with
  | zero => intro i acc C _; simp [loadCellsFrom]
  | succ n ih =>
    intro i acc C hC
    have h0 := hC 0 (by omega)
    have hrec := ih (i + 1) (acc.push (C 0)) (fun j => C (j + 1)) (fun j hj => by have := hC (j + 1) (by omega); rwa [show i + (j + 1) = i + 1 + j by omega] at this)
    simp only [Nat.add_zero] at h0
    simp only [loadCellsFrom, Sem.run_bind, run_load_cell h0, Result.andThen]
    rw [hrec]
    congr 1
    apply Array.ext'
    simp [List.range_succ_eq_map, Function.comp_def]

theorem run_loadCells {a : Addr} {n : Nat} {C : Nat → Value} (hC : ∀ j, j < n → w.cell? (a.add j) = some (C j)) : (loadCells a n).run P w = .ok ((Array.range n).map C) w := by
  have := run_loadCellsFrom (P := P) (w := w) (a := a) n 0 #[] C (fun j hj => by simpa using hC j hj)
  simpa [loadCells] using this

theorem add_none (b o n : Nat) : (Addr.mk b o none).add n = ⟨b, o + n, none⟩ := by
  unfold Addr.add; split
  · rename_i h; subst h; rfl
  · rfl

/-- The cells that a pointer of the logic leads to. -/
theorem R.ptrCells (hR : R P σ M h w) {i k o n : Nat} {T : TypeId} {es : List (List AV)} {cs : List AV} {L : Loc} (hi : h i = some (.row T es)) (hk : es[k]? = some cs) (ho : o + n ≤ cs.length) (hL : σ i = some L) :
    ∃ A : Array Value, VRs σ M ((cs.drop o).take n) A ∧ (loadCells ⟨L.b, L.o + k * L.z + o, none⟩ n).run P w = .ok A w := by
  have hx : ∀ j, j < n → ∃ v', w.cell? ⟨L.b, L.o + k * L.z + o + j, none⟩ = some v' ∧ VR σ M (cs[o + j]?.getD .nilp) v' := fun j hj => by
    have hlt : o + j < cs.length := by omega
    obtain ⟨v', h1, h2, _⟩ := hR.cell (o := o + j) hi hk (List.getElem?_eq_getElem hlt) hL
    exact ⟨v', by rw [Nat.add_assoc]; exact h1, by simpa [hlt] using h2⟩
  let C : Nat → Value := fun j => if hj : j < n then (hx j hj).choose else undef
  have hC : ∀ j, j < n → w.cell? ⟨L.b, L.o + k * L.z + o + j, none⟩ = some (C j) ∧ VR σ M (cs[o + j]?.getD .nilp) (C j) := fun j hj => by
    simp only [C, hj, dif_pos]; exact (hx j hj).choose_spec
  refine ⟨(Array.range n).map C, ⟨by simp; omega, fun j v hj => ?_⟩, run_loadCells fun j hj => by rw [add_none]; exact (hC j hj).1⟩
  have hjn : j < n := by
    rcases Nat.lt_or_ge j n with hh | hh
    · exact hh
    · rw [List.getElem?_eq_none (by simp; omega)] at hj; cases hj
  rw [List.getElem?_take_of_lt hjn, List.getElem?_drop] at hj
  refine ⟨C j, by simp [hjn], ?_⟩
  have := (hC j hjn).2
  rwa [hj] at this

theorem R.iptrCells (hR : R P σ M h w) {g : Nat} {cs : List AV} {o n : Nat} {v : Value} (hv : VR σ M (.iptr g cs o) v) (ho : o + n ≤ cs.length) :
    ∃ (a : Addr) (A : Array Value), v = .pointer (some a) ∧ VRs σ M ((cs.drop o).take n) A ∧ (loadCells a n).run P w = .ok A w ∧
      ∀ x, cs[o]? = some x → ∃ x', w.cell? a = some x' ∧ VR σ M x x' := by
  cases hv with
  | iptr _ _ _ B O C T F d hM hc hv =>
    have hb := hR.mem B _ hM
    have cell : ∀ (j : Nat) (v : AV), cs[j]? = some v → w.cell? ⟨B, O + j, none⟩ = some (d j) := fun j v hj => by simp [World.cell?, hb, hc j v hj]
    refine ⟨_, (Array.range n).map fun j => d (o + j), rfl, ⟨by simp; omega, fun j v hj => ?_⟩, run_loadCells fun j hj => ?_, fun x hx => ⟨_, cell o x hx, hv o x hx⟩⟩
    · have hjn : j < n := by
        rcases Nat.lt_or_ge j n with hh | hh
        · exact hh
        · rw [List.getElem?_eq_none (by simp; omega)] at hj; cases hj
      rw [List.getElem?_take_of_lt hjn, List.getElem?_drop] at hj
      exact ⟨d (o + j), by simp [hjn], hv _ _ hj⟩
    · rw [add_none, Nat.add_assoc]
      exact cell (o + j) _ (List.getElem?_eq_getElem (by omega))
end

theorem Option.bind_some_inv {α β : Type} {x : Option α} {f : α → Option β} {b : β} (h : x.bind f = some b) : ∃ a, x = some a ∧ f a = some b := by
  cases x with
  | none => cases h
  | some a => exact ⟨a, rfl, h⟩
theorem Option.map_some_inv {α β : Type} {x : Option α} {f : α → β} {b : β} (h : x.map f = some b) : ∃ a, x = some a ∧ f a = b := by
  cases x with
  | none => cases h
  | some a => cases h; exact ⟨a, rfl, rfl⟩

section
variable {P : Program} {o : Oper} {e : Env} {h : Hp} {next : AV → Prop}

theorem ok_of {v : AV} (hn : next v) (hs : SemVal P o e h v) : ∃ v, next v ∧ SemVal P o e h v := ⟨v, hn, hs⟩

theorem LN_mov {x : Operand} (ho : o.op = .move x ∨ o.op = .assign x) {y : AOpd} (hx : copd x = some y) (hl : next (ev e y)) : ∃ v, next v ∧ SemVal P o e h v :=
  ok_of hl fun σ M w a hR hA => ⟨a.eval x, by rcases ho with ho | ho <;> simp [execOp, ho], copd_ok hx hA⟩

theorem LN_pick {c x y : Operand} (ho : o.op = .pick c x y) {c' x' y' : AOpd} (hc : copd c = some c') (hx : copd x = some x') (hy : copd y = some y') (hl : LN (.pick c' x' y') e h next) :
    ∃ v, next v ∧ SemVal P o e h v := by
  simp only [LN] at hl
  split at hl <;> first | exact hl.elim | skip
  rename_i t ht
  refine ok_of hl fun σ M w a hR hA => ?_
  have h1 := copd_ok hc hA
  rw [ht] at h1
  have h2 := h1.bool_inv
  refine ⟨cond t (a.eval x) (a.eval y), by cases t <;> simp [execOp, ho, h2, asBool], ?_⟩
  cases t
  · exact copd_ok hy hA
  · exact copd_ok hx hA

theorem LN_bini {op : BinOp} {t u : TypeId} {x y : Operand} (ho : o.op = .binOp op t x y u) {x' y' : AOpd} (hx : copd x = some x') (hy : copd y = some y') (hl : LN (.bini op x' y') e h next) :
    ∃ v, next v ∧ SemVal P o e h v := by
  simp only [LN] at hl
  split at hl <;> first | exact hl.elim | skip
  rename_i k a0 k' b0 ha hb
  obtain ⟨v, hN, u', hv, hrun⟩ := binI_ok hl t x y
  refine ok_of hN fun σ M w a hR hA => ?_
  have h1 := copd_ok hx hA
  have h2 := copd_ok hy hA
  rw [ha] at h1; rw [hb] at h2
  have hr := hrun P w
  rw [← h1.int_inv, ← h2.int_inv] at hr
  exact ⟨u', by simp only [execOp, ho, Sem.run_bind, hr, Result.andThen, Sem.run_pure], hv σ M⟩

theorem LN_bins {op : BinOp} {t u : TypeId} {x y : Operand} (ho : o.op = .binOp op t x y u) {x' y' : AOpd} (hx : copd x = some x') (hy : copd y = some y') (hl : LN (.bins op x' y') e h next) :
    ∃ v, next v ∧ SemVal P o e h v := by
  simp only [LN] at hl
  split at hl <;> first | exact hl.elim | skip
  rename_i a0 b0 ha hb
  have hl0 : binS op (ByteArray.mk a0.toArray).data.toList (ByteArray.mk b0.toArray).data.toList next := by simpa using hl
  obtain ⟨v, hN, u', hv, hrun⟩ := binS_ok hl0 t x y
  refine ok_of hN fun σ M w a hR hA => ?_
  have h1 := copd_ok hx hA
  have h2 := copd_ok hy hA
  rw [ha] at h1; rw [hb] at h2
  obtain ⟨s1, e1, f1⟩ := h1.str_inv
  obtain ⟨s2, e2, f2⟩ := h2.str_inv
  have g1 : ByteArray.mk a0.toArray = s1 := by subst f1; rfl
  have g2 : ByteArray.mk b0.toArray = s2 := by subst f2; rfl
  have hr := hrun P w
  rw [g1, g2, ← e1, ← e2] at hr
  exact ⟨u', by simp only [execOp, ho, Sem.run_bind, hr, Result.andThen, Sem.run_pure], hv σ M⟩

theorem LN_binb {op : BinOp} {t u : TypeId} {x y : Operand} (ho : o.op = .binOp op t x y u) (ht : P.underlying t = some .bool) {x' y' : AOpd} (hx : copd x = some x') (hy : copd y = some y')
    (hl : LN (.binb op x' y') e h next) : ∃ v, next v ∧ SemVal P o e h v := by
  simp only [LN] at hl
  have hxy : ∃ a b, ev e x' = .bool a ∧ ev e y' = .bool b := by
    unfold binB at hl
    split at hl <;> first | exact hl.elim | exact ⟨_, _, by assumption, by assumption⟩
  obtain ⟨a0, b0, ha, hb⟩ := hxy
  rw [ha, hb] at hl
  obtain ⟨v, hN, u', hv, hrun⟩ := binB_ok hl t x y
  refine ok_of hN fun σ M w a hR hA => ?_
  have h1 := copd_ok hx hA
  have h2 := copd_ok hy hA
  rw [ha] at h1; rw [hb] at h2
  have hr := hrun P w ht
  rw [← h1.bool_inv, ← h2.bool_inv] at hr
  exact ⟨u', by simp only [execOp, ho, Sem.run_bind, hr, Result.andThen, Sem.run_pure], hv σ M⟩

theorem LN_not {t : TypeId} {x : Operand} (ho : o.op = .unOp .not t x) {x' : AOpd} (hx : copd x = some x') (hl : LN (.not x') e h next) : ∃ v, next v ∧ SemVal P o e h v := by
  simp only [LN] at hl
  split at hl <;> first | exact hl.elim | skip
  rename_i b hb
  refine ok_of hl fun σ M w a hR hA => ?_
  have h1 := copd_ok hx hA
  rw [hb] at h1
  exact ⟨.bool (!b), by simp [execOp, ho, h1.bool_inv, Op.unary], .bool _⟩

theorem LN_neg {t : TypeId} {x : Operand} (ho : o.op = .unOp .neg t x) {x' : AOpd} (hx : copd x = some x') (hl : LN (.neg x') e h next) : ∃ v, next v ∧ SemVal P o e h v := by
  simp only [LN] at hl
  split at hl <;> first | exact hl.elim | skip
  rename_i k n hb
  refine ok_of (genI_use hl) fun σ M w a hR hA => ?_
  have h1 := copd_ok hx hA
  rw [hb] at h1
  exact ⟨.int k (k.wrap (0 - n)), by simp only [execOp, ho, h1.int_inv, Op.unary, Op.intArith, Sem.run_bind, Sem.run_pure, Result.andThen], .int _ _⟩

theorem VR.slc_inv {σ : Emb} {M : Mem} {i k n : Nat} {c : Option Nat} {v : Value} (h : VR σ M (.slc i k n c) v) :
    ∃ (L : Loc) (a : Addr) (c' : Nat), v = .slice (some a) n c' ∧ σ i = some L ∧ (c' ≠ 0 → a = ⟨L.b, L.o + k * L.z, none⟩) ∧ n ≤ c' ∧ (∀ x, c = some x → c' = x) ∧ (c = none → L.o + (k + c') * L.z ≤ L.s) := by
  cases h with | slc _ _ _ _ L a c' h ha hn hk hu => exact ⟨L, a, c', rfl, h, ha, hn, hk, hu⟩
theorem VR.nils_inv {σ : Emb} {M : Mem} {v : Value} (h : VR σ M .nils v) : v = .slice none 0 0 := by cases h; rfl
theorem VR.emp_inv {σ : Emb} {M : Mem} {v : Value} (h : VR σ M .emp v) : ∃ a, v = .slice a 0 0 := by cases h with | emp a => exact ⟨a, rfl⟩
theorem VR.isl_len {σ : Emb} {M : Mem} {g : Nat} {es : List (List AV)} {v : Value} (h : VR σ M (.isl g es) v) : ∃ a c, v = .slice a es.length c := by
  cases h with
  | isl0 g a c => exact ⟨a, c, rfl⟩
  | isl _ _ z B O C T F d c h hz hn hc hv => exact ⟨_, c, rfl⟩

theorem run_len {t : TypeId} {v : Value} {w : World} {n : Nat} {ts : Array TypeId} {u : TypeId} (h0 : ts[0]? = some t)
    (h : (∃ b, P.underlying t = some .string ∧ v = .string b ∧ n = b.size) ∨ ∃ el a c, P.underlying t = some (.slice el) ∧ v = .slice a n c) :
    (Builtin.len_ ts u #[v]).run P w = .ok (.int .i64 n) w := by
  rcases h with ⟨b, hu, rfl, rfl⟩ | ⟨el, a, c, hu, rfl⟩
  · simp [Builtin.len_, h0, run_underlying hu, goInt]
  · simp [Builtin.len_, h0, run_underlying hu, goInt]

theorem exec_len {t : TypeId} {x : Operand} {ts : Array TypeId} (ho : o.op = .call { callee := .builtin .len, args := #[x], argTypes := ts }) {a : Act} {w : World} {n : Nat}
    (h : (Builtin.len_ ts o.type #[a.eval x]).run P w = .ok (.int .i64 n) w) : (execOp a.eval o).run P w = .ok (.value (.int .i64 n)) w := by
  simp [execOp, ho, resolve, invoke, builtin, h]

theorem LN_lens {t : TypeId} {x : Operand} {ts : Array TypeId} (ho : o.op = .call { callee := .builtin .len, args := #[x], argTypes := ts }) (h0 : ts[0]? = some t) (ht : P.underlying t = some .string)
    {x' : AOpd} (hx : copd x = some x') (hl : LN (.lens x') e h next) : ∃ v, next v ∧ SemVal P o e h v := by
  simp only [LN] at hl
  split at hl <;> first | exact hl.elim | skip
  rename_i s hs
  refine ok_of hl fun σ M w a hR hA => ?_
  have h1 := copd_ok hx hA
  rw [hs] at h1
  obtain ⟨b, e1, e2⟩ := h1.str_inv
  refine ⟨.int .i64 s.length, exec_len (t := t) ho (run_len h0 (.inl ⟨b, ht, e1, ?_⟩)), .int _ _⟩
  subst e2; exact Array.length_toList

theorem LN_lenl {t el : TypeId} {x : Operand} {ts : Array TypeId} (ho : o.op = .call { callee := .builtin .len, args := #[x], argTypes := ts }) (h0 : ts[0]? = some t) (ht : P.underlying t = some (.slice el))
    {x' : AOpd} (hx : copd x = some x') (hl : LN (.lenl x') e h next) : ∃ v, next v ∧ SemVal P o e h v := by
  simp only [LN] at hl
  split at hl <;> first | exact hl.elim | skip
  all_goals
    rename_i hs
    refine ok_of hl fun σ M w a hR hA => ?_
    have h1 := copd_ok hx hA
    rw [hs] at h1
  · obtain ⟨a0, c, e1⟩ := h1.isl_len
    exact ⟨.int .i64 _, exec_len (t := t) ho (run_len h0 (.inr ⟨el, a0, c, ht, e1⟩)), .int _ _⟩
  · obtain ⟨L, a0, c, e1, _⟩ := h1.slc_inv
    exact ⟨.int .i64 _, exec_len (t := t) ho (run_len h0 (.inr ⟨el, _, c, ht, e1⟩)), .int _ _⟩
  · exact ⟨.int .i64 ((0 : Nat) : Int), exec_len (t := t) ho (run_len h0 (.inr ⟨el, _, _, ht, h1.nils_inv⟩)), .int _ _⟩
  · obtain ⟨a0, e1⟩ := h1.emp_inv
    exact ⟨.int .i64 ((0 : Nat) : Int), exec_len (t := t) ho (run_len h0 (.inr ⟨el, _, _, ht, e1⟩)), .int _ _⟩

theorem LN_ext {i : Nat} {x : Operand} (ho : o.op = .extract x i) {x' : AOpd} (hx : copd x = some x') (hl : LN (.ext i x') e h next) : ∃ v, next v ∧ SemVal P o e h v := by
  simp only [LN] at hl
  split at hl <;> first | exact hl.elim | skip
  rename_i vs hs
  obtain ⟨v, hv, hN⟩ := hl
  refine ok_of hN fun σ M w a hR hA => ?_
  have h1 := copd_ok hx hA
  rw [hs] at h1
  obtain ⟨A, e1, h2⟩ := h1.tup_inv
  obtain ⟨v', e2, h3⟩ := h2.2 i v hv
  exact ⟨v', by simp [execOp, ho, e1, Instr.extract, e2], h3⟩

theorem run_isAgg {t : TypeId} {d : TypeDesc} (ht : P.underlying t = some d) (w : World) : (isAgg t).run P w = .ok (isAggD d) w := by
  simp only [isAgg, Sem.run_bind, run_underlying ht, Result.andThen]
  cases d <;> rfl

theorem LN_fld {t : TypeId} {f : Nat} {fs : Array Field} {fd : Field} {d : TypeDesc} {x : Operand} (ho : o.op = .field t x f) (ht : P.underlying t = some (.struct fs)) (hf : fs[f]? = some fd)
    (hd : P.underlying fd.type = some d) (ha : isAggD d = false) {x' : AOpd} (hx : copd x = some x') (hl : LN (.fld fd.offset x') e h next) : ∃ v, next v ∧ SemVal P o e h v := by
  simp only [LN] at hl
  split at hl <;> first | exact hl.elim | skip
  rename_i cs hs
  obtain ⟨v, hv, hN⟩ := hl
  refine ok_of hN fun σ M w a hR hA => ?_
  have h1 := copd_ok hx hA
  rw [hs] at h1
  obtain ⟨A, e1, h2⟩ := h1.agg_inv
  obtain ⟨v', e2, h3⟩ := h2.2 _ v hv
  exact ⟨v', by simp [execOp, ho, e1, Instr.field, run_underlying ht, hf, asAgg, part, run_isAgg hd, ha, e2], h3⟩

theorem LN_flda {t : TypeId} {f : Nat} {fs : Array Field} {fd : Field} {d : TypeDesc} {i : TypeInfo} {x : Operand} (ho : o.op = .field t x f) (ht : P.underlying t = some (.struct fs)) (hf : fs[f]? = some fd)
    (hd : P.underlying fd.type = some d) (hi : P.info? fd.type = some i) (ha : isAggD d = true) {x' : AOpd} (hx : copd x = some x') (hl : LN (.flda fd.offset i.size x') e h next) : ∃ v, next v ∧ SemVal P o e h v := by
  simp only [LN] at hl
  split at hl <;> first | exact hl.elim | skip
  rename_i cs hs
  obtain ⟨hle, hN⟩ := hl
  refine ok_of hN fun σ M w a hR hA => ?_
  have h1 := copd_ok hx hA
  rw [hs] at h1
  obtain ⟨A, e1, h2⟩ := h1.agg_inv
  exact ⟨.agg (A.extract fd.offset (fd.offset + i.size)), by simp [execOp, ho, e1, Instr.field, run_underlying ht, hf, asAgg, part, run_isAgg hd, ha, run_sizeOf' hi], .agg' (h2.extract _ _ hle)⟩

theorem LN_conv {s t : TypeId} {k : IntKind} {ds : TypeDesc} {x : Operand} (ho : o.op = .convert s t x) (ht : P.underlying t = some (.int k)) (hs : P.underlying s = some ds) {x' : AOpd} (hx : copd x = some x')
    (hl : LN (.conv k x') e h next) : ∃ v, next v ∧ SemVal P o e h v := by
  simp only [LN] at hl
  split at hl <;> first | exact hl.elim | skip
  rename_i k0 n hb
  refine ok_of (genI_use hl) fun σ M w a hR hA => ?_
  have h1 := copd_ok hx hA
  rw [hb] at h1
  refine ⟨.int k (k.wrap n), ?_, .int _ _⟩
  simp only [execOp, ho, convert, Sem.run_bind, run_underlying ht, run_underlying hs, Result.andThen, h1.int_inv, Conv.intToInt, Sem.run_pure]

theorem LN_idxs {t : TypeId} {x i : Operand} (ho : o.op = .index t x i) (ht : P.underlying t = some .string) {x' i' : AOpd} (hx : copd x = some x') (hi : copd i = some i')
    (hl : LN (.idxs x' i') e h next) : ∃ v, next v ∧ SemVal P o e h v := by
  simp only [LN] at hl
  split at hl <;> first | exact hl.elim | skip
  rename_i s k0 n hs hn
  obtain ⟨k, c, rfl, hk, hN⟩ := hl
  refine ok_of hN fun σ M w a hR hA => ?_
  have h1 := copd_ok hx hA
  have h2 := copd_ok hi hA
  rw [hs] at h1; rw [hn] at h2
  obtain ⟨b, e1, e2⟩ := h1.str_inv
  have hb : b[k]? = some c := by
    subst e2
    have hlt : k < b.size := by
      rcases Nat.lt_or_ge k b.size with hh | hh
      · exact hh
      · rw [List.getElem?_eq_none (by rw [Array.length_toList]; exact hh)] at hk; cases hk
    have h3 : b[k]? = some b[k] := getElem?_pos b k hlt
    rw [h3]
    have : b.data.toList[k]? = some b[k] := by
      rw [Array.getElem?_toList]
      exact getElem?_pos b.data k hlt
    rw [this] at hk; exact hk
  refine ⟨.int .u8 c.toNat, ?_, .int _ _⟩
  simp [execOp, ho, Instr.index, h2.int_inv, asIntOf, run_underlying ht, e1, hb]

theorem VR.ptr_inv {σ : Emb} {M : Mem} {i k o : Nat} {v : Value} (h : VR σ M (.ptr i k o) v) : ∃ L, σ i = some L ∧ v = .pointer (some ⟨L.b, L.o + k * L.z + o, none⟩) := by
  cases h with | ptr _ _ _ L h => exact ⟨L, h, rfl⟩

theorem LN_faddr {t : TypeId} {f : Nat} {fs : Array Field} {fd : Field} {i : TypeInfo} {x : Operand} (ho : o.op = .fieldAddr t x f) (ht : P.underlying t = some (.struct fs)) (hf : fs[f]? = some fd)
    (hi : P.info? fd.type = some i) (h0 : ¬ i.size = 0) {x' : AOpd} (hx : copd x = some x') (hl : LN (.faddr fd.offset x') e h next) : ∃ v, next v ∧ SemVal P o e h v := by
  have exec : ∀ {a : Act} {w : World} {b q : Nat}, a.eval x = .pointer (some ⟨b, q, none⟩) → (execOp a.eval o).run P w = .ok (.value (.pointer (some ⟨b, q + fd.offset, none⟩))) w := by
    intro a w b q he
    simp [execOp, ho, Instr.fieldAt, run_underlying ht, hf, he, Instr.sureAddr, fieldPlace, run_sizeOf' hi, h0, add_none]
  simp only [LN] at hl
  split at hl <;> first | exact hl.elim | skip
  · rename_i cs q hs
    refine ok_of hl fun σ M w a hR hA => ?_
    have h1 := copd_ok hx hA
    rw [hs] at h1
    generalize hv : a.eval x = v at h1
    cases h1 with
    | iptr _ _ _ B O C T F d hM hc hv' => exact ⟨_, exec hv, by rw [Nat.add_assoc]; exact .iptr _ cs (q + fd.offset) B O C T F d hM hc hv'⟩
  · rename_i b k q hs
    refine ok_of hl fun σ M w a hR hA => ?_
    have h1 := copd_ok hx hA
    rw [hs] at h1
    obtain ⟨L, hL, hv⟩ := h1.ptr_inv
    exact ⟨_, exec hv, by rw [Nat.add_assoc]; exact .ptr b k (q + fd.offset) L hL⟩

theorem LN_nilc {x : Operand} (ho : o.op = .nilCheck x) {x' : AOpd} (hx : copd x = some x') (hl : LN (.nilc x') e h next) : ∃ v, next v ∧ SemVal P o e h v := by
  simp only [LN] at hl
  split at hl <;> first | exact hl.elim | skip
  all_goals
    refine ok_of hl fun σ M w a hR hA => ?_
    rename_i hs
    have h1 := copd_ok hx hA
    rw [hs] at h1
    generalize hv : a.eval x = v at h1
  · cases h1 with
    | iptr _ _ _ B O C T F d hM hc hv' => exact ⟨_, by simp [execOp, ho, hv], .iptr _ _ _ B O C T F d hM hc hv'⟩
  · obtain ⟨L, hL, rfl⟩ := h1.ptr_inv
    exact ⟨_, by simp [execOp, ho, hv], h1⟩
  · obtain ⟨f', c', rfl, _⟩ := h1.func_inv
    exact ⟨_, by simp [execOp, ho, hv], h1⟩
  · cases h1 with
    | ifc _ _ v' h2 => exact ⟨_, by simp [execOp, ho, hv], .ifc _ _ _ h2⟩

/-- A bound of a slice of a text. -/
theorem bnd_some {x : Operand} {x' : AOpd} (hx : copd x = some x') {k : Nat} {kd : IntKind} (hk : ev e x' = .int kd k) {y : Nat} (hy : k ≤ y) {a : Act} {σ : Emb} {M : Mem} (hA : ActR σ M e a) (code : BoundsCode) (w : World) :
    (Instr.sliceBound (a.eval x) y code).run P w = .ok k w := by
  have h1 := copd_ok hx hA
  rw [hk] at h1
  have : ((k : Int) ≤ (y : Int)) := by omega
  simp [Instr.sliceBound, h1.int_inv, asIntOf, this]

theorem LN_slcs {t : TypeId} {x : Operand} {lo hi : Option Operand} (ho : o.op = .slice t x lo hi none) (ht : P.underlying t = some .string) {x' : AOpd} {lo' hi' : Option AOpd} (hx : copd x = some x')
    (hlo : copdO lo = some lo') (hhi : copdO hi = some hi') (hl : LN (.slcs x' lo' hi') e h next) : ∃ v, next v ∧ SemVal P o e h v := by
  simp only [LN] at hl
  split at hl <;> first | exact hl.elim | skip
  rename_i s hs
  -- both bounds as numbers
  have main : ∃ p q : Nat, p ≤ q ∧ q ≤ s.length ∧ next (.str ((s.take q).drop p)) ∧
      (∀ (σ : Emb) (M : Mem) (a : Act) (w : World), ActR σ M e a → (match hi.map a.eval with | some v => Instr.sliceBound v s.length .sliceAlen | none => pure s.length : Sem Nat).run P w = .ok q w) ∧
      (∀ (σ : Emb) (M : Mem) (a : Act) (w : World), ActR σ M e a → (match lo.map a.eval with | some v => Instr.sliceBound v q .sliceB | none => pure 0 : Sem Nat).run P w = .ok p w) := by
    cases hi with
    | none =>
      cases hhi
      simp only [bndO] at hl
      cases lo with
      | none => cases hlo; simp only [bndO] at hl; exact ⟨0, s.length, hl.1, hl.2.1, hl.2.2, fun _ _ _ _ _ => by simp, fun _ _ _ _ _ => by simp⟩
      | some l =>
        obtain ⟨l', hl1, rfl⟩ := Option.map_some_inv hlo
        simp only [bndO] at hl
        split at hl <;> first | exact hl.elim | skip
        rename_i kd n hn
        obtain ⟨k, rfl, h1, h2, h3⟩ := hl
        exact ⟨k, s.length, h1, h2, h3, fun _ _ _ _ _ => by simp, fun σ M a w hA => bnd_some hl1 hn h1 hA _ w⟩
    | some u =>
      obtain ⟨u', hu1, rfl⟩ := Option.map_some_inv hhi
      simp only [bndO] at hl
      split at hl <;> first | exact hl.elim | skip
      rename_i kd n hn
      obtain ⟨q, rfl, hl⟩ := hl
      cases lo with
      | none => cases hlo; simp only [bndO] at hl; exact ⟨0, q, hl.1, hl.2.1, hl.2.2, fun σ M a w hA => bnd_some hu1 hn hl.2.1 hA _ w, fun _ _ _ _ _ => by simp⟩
      | some l =>
        obtain ⟨l', hl1, rfl⟩ := Option.map_some_inv hlo
        simp only [bndO] at hl
        split at hl <;> first | exact hl.elim | skip
        rename_i kd n hn'
        obtain ⟨k, rfl, h1, h2, h3⟩ := hl
        exact ⟨k, q, h1, h2, h3, fun σ M a w hA => bnd_some hu1 hn h2 hA _ w, fun σ M a w hA => bnd_some hl1 hn' h1 hA _ w⟩
  obtain ⟨p, q, hpq, hq, hN, hh, hll⟩ := main
  refine ok_of hN fun σ M w a hR hA => ?_
  have h1 := copd_ok hx hA
  rw [hs] at h1
  obtain ⟨b, e1, e2⟩ := h1.str_inv
  have hsz : b.size = s.length := by subst e2; exact Array.length_toList.symm
  refine ⟨.string (b.extract p q), ?_, .str _ _ ?_⟩
  · have hb : (Instr.sliceBounds false b.size b.size (lo.map a.eval) (hi.map a.eval) none).run P w = .ok (p, q, b.size) w := by
      rw [hsz]
      have h3 := hh σ M a w hA
      have h4 := hll σ M a w hA
      unfold Instr.sliceBounds
      cases hi with
      | none =>
        simp only [Option.map_none, Sem.run_pure, Result.ok.injEq, and_true] at h3
        subst h3
        cases lo with
        | none => simp only [Option.map_none, Sem.run_pure, Result.ok.injEq, and_true] at h4; subst h4; simp
        | some l => simp only [Option.map_some] at h4; simp [h4]
      | some u =>
        simp only [Option.map_some] at h3
        cases lo with
        | none => simp only [Option.map_none, Sem.run_pure, Result.ok.injEq, and_true] at h4; subst h4; simp [h3]
        | some l => simp only [Option.map_some] at h4; simp [h3, h4]
    simp [execOp, ho, Instr.sliceAt, run_underlying ht, e1, Instr.slice, hb]
  · subst e2
    rw [Lib.extract_data, List.drop_take]

theorem LN_mkifc {t : TypeId} {d : TypeDesc} {x : Operand} (ho : o.op = .makeInterface t x) (ht : P.underlying t = some d) (hd : ∀ ms, d ≠ .interface ms) {x' : AOpd} (hx : copd x = some x') (hl : LN (.mkifc t x') e h next) :
    ∃ v, next v ∧ SemVal P o e h v := by
  refine ok_of hl fun σ M w a hR hA => ⟨.iface t (a.eval x), ?_, .ifc _ _ _ (copd_ok hx hA)⟩
  have : (Instr.makeInterface t (a.eval x)).run P w = .ok (.iface t (a.eval x)) w := by
    simp only [Instr.makeInterface, Sem.run_bind, run_underlying ht, Result.andThen]
    cases d <;> first | rfl | exact absurd rfl (hd _)
  simp [execOp, ho, this]

theorem LN_mkfn {f : FuncId} {first cap : Array Operand} (ho : o.op = .makeFunc (.func f) first cap) {first' cap' : List AOpd} (h0 : copds first.toList = some first') (hx : copds cap.toList = some cap') (hl : LN (.mkfn f first' cap') e h next) :
    ∃ v, next v ∧ SemVal P o e h v := by
  have key : ∀ {xs : Array Operand} {ys : List AOpd} {σ : Emb} {M : Mem} {a : Act}, copds xs.toList = some ys → ActR σ M e a → VRs σ M (ys.map (ev e)) (xs.map a.eval) := by
    intro xs ys σ M a hx hA
    have h1 := copds_ok hx hA
    have h2 : (xs.toList.map a.eval).toArray = xs.map a.eval := by rw [← Array.toList_map, Array.toArray_toList]
    rw [h2] at h1; exact h1
  refine ok_of hl fun σ M w a hR hA => ⟨.func (.func f) (first.map a.eval) (cap.map a.eval), ?_, VR.func' (fun _ h => by cases h) (key h0 hA) (key hx hA)⟩
  simp [execOp, ho, Instr.makeFunc]

theorem LN_ld1 {t : TypeId} {d : TypeDesc} {x : Operand} (ho : o.op = .load t x) (ht : P.underlying t = some d) (ha : isAggD d = false) {x' : AOpd} (hx : copd x = some x') (hl : LN (.ld1 x') e h next) :
    ∃ v, next v ∧ SemVal P o e h v := by
  have exec : ∀ {a : Act} {w : World} {b : Addr} {v : Value}, a.eval x = .pointer (some b) → w.cell? b = some v → (execOp a.eval o).run P w = .ok (.value v) w := by
    intro a w b v he hc
    simp [execOp, ho, Instr.loadAt, he, Instr.sureAddr, loadVar, run_isAgg ht, ha, load, Sem.run, hc]
  simp only [LN] at hl
  split at hl <;> first | exact hl.elim | skip
  · rename_i cs q hs
    obtain ⟨v, hv, hN⟩ := hl
    refine ok_of hN fun σ M w a hR hA => ?_
    have h1 := copd_ok hx hA
    rw [hs] at h1
    obtain ⟨ad, A, e1, _, _, hc⟩ := hR.iptrCells (n := 0) h1 (by
      have : q < cs.length := by
        rcases Nat.lt_or_ge q cs.length with hh | hh
        · exact hh
        · rw [List.getElem?_eq_none hh] at hv; cases hv
      omega)
    obtain ⟨x'', hc1, hc2⟩ := hc v hv
    exact ⟨x'', exec e1 hc1, hc2⟩
  · rename_i b k q hs
    obtain ⟨T, es, cs, v, hb, hk, hv, hN⟩ := hl
    refine ok_of hN fun σ M w a hR hA => ?_
    have h1 := copd_ok hx hA
    rw [hs] at h1
    obtain ⟨L, hL, e1⟩ := h1.ptr_inv
    obtain ⟨v', hc1, hc2, _⟩ := hR.cell hb hk hv hL
    exact ⟨v', exec e1 hc1, hc2⟩

theorem LN_lda {t : TypeId} {d : TypeDesc} {i : TypeInfo} {x : Operand} (ho : o.op = .load t x) (ht : P.underlying t = some d) (hi : P.info? t = some i) (ha : isAggD d = true) {x' : AOpd} (hx : copd x = some x')
    (hl : LN (.lda i.size x') e h next) : ∃ v, next v ∧ SemVal P o e h v := by
  have exec : ∀ {a : Act} {w : World} {b : Addr} {A : Array Value}, a.eval x = .pointer (some b) → (loadCells b i.size).run P w = .ok A w → (execOp a.eval o).run P w = .ok (.value (.agg A)) w := by
    intro a w b v he hc
    simp [execOp, ho, Instr.loadAt, he, Instr.sureAddr, loadVar, run_isAgg ht, ha, run_sizeOf' hi, hc]
  simp only [LN] at hl
  split at hl <;> first | exact hl.elim | skip
  · rename_i cs q hs
    obtain ⟨hle, hN⟩ := hl
    refine ok_of hN fun σ M w a hR hA => ?_
    have h1 := copd_ok hx hA
    rw [hs] at h1
    obtain ⟨ad, A, e1, hA', hrun, _⟩ := hR.iptrCells h1 hle
    exact ⟨.agg A, exec e1 hrun, .agg' hA'⟩
  · rename_i b k q hs
    obtain ⟨T, es, cs, hb, hk, hle, hN⟩ := hl
    refine ok_of hN fun σ M w a hR hA => ?_
    have h1 := copd_ok hx hA
    rw [hs] at h1
    obtain ⟨L, hL, e1⟩ := h1.ptr_inv
    obtain ⟨A, hA', hrun⟩ := hR.ptrCells hb hk hle hL
    exact ⟨.agg A, exec e1 hrun, .agg' hA'⟩

theorem LN_iaddr {t el : TypeId} {i : TypeInfo} {x y : Operand} (ho : o.op = .indexAddr t x y) (ht : P.underlying t = some (.slice el)) (hi : P.info? el = some i) {x' y' : AOpd} (hx : copd x = some x') (hy : copd y = some y')
    (hl : LN (.iaddr el i.size x' y') e h next) : ∃ v, next v ∧ SemVal P o e h v := by
  have exec : ∀ {a : Act} {w : World} {b q k len c : Nat} {kd : IntKind}, a.eval x = .slice (some ⟨b, q, none⟩) len c → a.eval y = .int kd k → k < len →
      (execOp a.eval o).run P w = .ok (.value (.pointer (some ⟨b, q + k * i.size, none⟩))) w := by
    intro a w b q k len c kd he hn hlt
    have h3 : (k : Int) < len := by omega
    simp [execOp, ho, Instr.indexAt, hn, asIntOf, run_underlying ht, he, hlt, run_sizeOf' hi, add_none]
  simp only [LN] at hl
  split at hl <;> first | exact hl.elim | skip
  · rename_i es kd n hs hn
    obtain ⟨k, cs, rfl, hk, hz, hz0, hN⟩ := hl
    have hlt : k < es.length := by
      rcases Nat.lt_or_ge k es.length with hh | hh
      · exact hh
      · rw [List.getElem?_eq_none hh] at hk; cases hk
    refine ok_of hN fun σ M w a hR hA => ?_
    have h1 := copd_ok hx hA
    have h2 := copd_ok hy hA
    rw [hs] at h1; rw [hn] at h2
    generalize hv : a.eval x = v at h1
    cases h1 with
    | isl0 => simp at hk
    | isl _ _ z B O C T F d c hM hz' hc hcell hval =>
      obtain rfl : z = i.size := by rw [← hz' k cs hk]; exact hz
      refine ⟨_, exec hv h2.int_inv hlt, ?_⟩
      have := VR.iptr (σ := σ) (M := M) _ cs 0 B (O + k * i.size) C T F (fun j => d k j) hM (fun j v hj => hcell k cs j v hk hj) (fun j v hj => hval k cs j v hk hj)
      simpa using this
  · rename_i b k0 m c0 kd n hs hn
    obtain ⟨k, rfl, hlt, ⟨es, hb⟩, hN⟩ := hl
    refine ok_of hN fun σ M w a hR hA => ?_
    have h1 := copd_ok hx hA
    have h2 := copd_ok hy hA
    rw [hs] at h1; rw [hn] at h2
    obtain ⟨L, ad, c', e1, hL, had, hmc, _, _⟩ := h1.slc_inv
    obtain ⟨C, F, hb', hs', hz', hle, hes, hF⟩ := hR.blk b _ L hb hL
    have hLz : L.z = i.size := by rw [hi] at hz'; simpa using hz'.symm
    rw [had (by omega)] at e1
    refine ⟨_, exec e1 h2.int_inv hlt, ?_⟩
    rw [show L.o + k0 * L.z + k * i.size = L.o + (k0 + k) * L.z + 0 by rw [hLz, Nat.add_mul]; omega]
    exact .ptr b (k0 + k) 0 L hL
end
end Go.L
