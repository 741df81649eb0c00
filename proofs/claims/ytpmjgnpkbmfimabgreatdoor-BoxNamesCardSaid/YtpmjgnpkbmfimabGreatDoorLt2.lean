/-
  The logic L, part t2: the operations on maps are sound.
-/
import Derived.Test.YtpmjgnpkbmfimabGreatDoorLt
import Derived.Test.YtpmjgnpkbmfimabGreatDoorLl2
import Derived.Test.YtpmjgnpkbmfimabGreatDoorLf3
namespace Go.L

section
variable {P : Program} {ro : Option Nat} {md : Bool} {o : Oper} {e : Env} {h : Hp} {next : AV → Prop}

theorem LN_mlook {T kt et : TypeId} {ok : Bool} {x k : Operand} {d : TypeDesc} {m : MK} {zi : TypeInfo} {zv : Value} {z : AV} (ho : o.op = .lookup T x k ok) (hT : P.underlying T = some (.map kt et)) (hkt : P.underlying kt = some d) (hm : mkOf P kt d = some m)
    (hz : P.info? et = some zi) (hzv : zi.zero = some zv) (hzz : cv zv = some z) {x' k' : AOpd} (hx : copd x = some x') (hk : copd k = some k') (hl : LN (.mlook m z ok x' k') e h next) : ∃ v, next v ∧ SemVal P o e h v := by
  simp only [LN] at hl
  split at hl <;> first | exact hl.elim | skip
  · rename_i i hi
    obtain ⟨es, c, h1, h2, h3, h4⟩ := hl
    have h5 := h4 _ rfl
    refine ⟨cond ok (.tup [(mget (ev e k') es).getD z, .bool (mget (ev e k') es).isSome]) ((mget (ev e k') es).getD z), ?_, fun σ M w a hR hA => ?_⟩
    · cases hg : mget (ev e k') es with
      | some v => rw [hg] at h5; exact h5
      | none => rw [hg] at h5; exact h5
    · have hxv := copd_ok hx hA
      rw [hi] at hxv
      obtain ⟨v', g1, g2⟩ := run_lookup hR hT hkt hz hzv (cv_ok hzz) h1 hxv (copd_ok hk hA) (keyM_ok hm h2) h3 ok
      exact ⟨v', by simp [execOp, ho, g2], g1⟩
  · rename_i hi
    refine ok_of hl.2 fun σ M w a hR hA => ?_
    have hxv := copd_ok hx hA
    rw [hi] at hxv
    have hxe : a.eval x = .map none := by generalize a.eval x = u at hxv; cases hxv; rfl
    obtain ⟨v', g1, g2⟩ := run_lookup_nil (P := P) (σ := σ) (M := M) (w := w) (k' := a.eval k) hT hkt hz hzv (cv_ok hzz) (keyM_ok hm hl.1) (copd_ok hk hA) ok
    exact ⟨v', by simp [execOp, ho, hxe, g2], g1⟩

theorem LN_mlen {t kt et : TypeId} {x : Operand} {ts : Array TypeId} (ho : o.op = .call { callee := .builtin .len, args := #[x], argTypes := ts }) (h0 : ts[0]? = some t) (ht : P.underlying t = some (.map kt et))
    {x' : AOpd} (hx : copd x = some x') (hl : LN (.mlen x') e h next) : ∃ v, next v ∧ SemVal P o e h v := by
  simp only [LN] at hl
  split at hl <;> first | exact hl.elim | skip
  · rename_i i hi
    obtain ⟨es, c, h1, h2⟩ := hl
    refine ok_of h2 fun σ M w a hR hA => ?_
    have hxv := copd_ok hx hA
    rw [hi] at hxv
    obtain ⟨L, hL, he⟩ := hxv.map_inv
    obtain ⟨m, hm, hes⟩ := hR.mapAt h1 hL
    have hg : (getObj L.b).run P w = .ok (.map m c) w := by simp [getObj, Sem.run, hm]
    have hsz : m.size = es.length := by have := hes.len; simpa using this
    refine ⟨.int .i64 es.length, exec_len (t := t) ho ?_, .int _ _⟩
    simp [Builtin.len_, h0, run_underlying ht, he, hg, goInt, hsz]
  · rename_i hi
    refine ok_of hl fun σ M w a hR hA => ?_
    have hxv := copd_ok hx hA
    rw [hi] at hxv
    have hxe : a.eval x = .map none := by generalize a.eval x = u at hxv; cases hxv; rfl
    refine ⟨.int .i64 ((0 : Nat) : Int), exec_len (t := t) ho ?_, .int _ _⟩
    simp [Builtin.len_, h0, run_underlying ht, hxe, goInt]
end

section
variable {P : Program} {ro : Option Nat} {md : Bool} {o : Oper} {e : Env} {h : Hp} {next X : AV → Hp → Prop} {σ : Emb} {M : Mem} {w : World} {a : Act}
variable {nx : Act → World → Prop} {Qx : Exit → Act → World → Prop}

theorem op_mkmap {t : TypeId} (ho : o.op = .makeMap t none) (hR : R P σ M h w) (hN : NextS P σ M w a o.dst next nx) (hl : LOp P md .mkmap e h next X) : o.wpIn (fw ro) 0 P a w nx Qx := by
  have hrun : (execOp a.eval o).run P w = .ok (.value (.map (some w.heap.size))) (w.alloc (.map #[] 0)) := by
    simp [execOp, ho, Instr.makeMap]
  obtain ⟨i, hi, hin⟩ := hR.fresh hl
  let L : Loc := ⟨w.heap.size, 0, 0, 0⟩
  refine wpIn_of_run hrun (hN (σ.set i L) M _ _ (.map i) _ (Ext.alloc hi) (hR.alloc hi rfl ?_) (.map i L (Emb.set_same _ _ _)) hin)
  refine BlkR.ofEnts (m := #[]) ?_ .nil
  show (w.alloc (.map #[] 0)).heap[w.heap.size]? = _
  simp [← World.alloc_eq]

theorem op_mupd {T kt et : TypeId} {x k v : Operand} {d : TypeDesc} {m : MK} (ho : o.op = .mapUpdate T x k v ∨ o.op = .insert T x k v) (hT : P.underlying T = some (.map kt et)) (hkt : P.underlying kt = some d) (hm : mkOf P kt d = some m)
    {x' k' v' : AOpd} (hx : copd x = some x') (hk : copd k = some k') (hv : copd v = some v') (hR : R P σ M h w) (hA : ActR σ M e a) (hN : NextS P σ M w a o.dst next nx) (hl : LOp P md (.mupd m x' k' v') e h next X) : o.wpIn (fw ro) 0 P a w nx Qx := by
  simp only [LOp] at hl
  split at hl <;> first | exact hl.elim | skip
  rename_i i hi
  obtain ⟨es, c, h1, h2, h3, h4⟩ := hl
  have hxv := copd_ok hx hA
  rw [hi] at hxv
  obtain ⟨w', g1, g2, g3⟩ := run_mapUpdate hR hT hkt h1 hxv (copd_ok hk hA) (copd_ok hv hA) (keyM_ok hm h2) h3
  have hrun : (execOp a.eval o).run P w = .ok .skip w' := by rcases ho with ho | ho <;> simp [execOp, ho, g1]
  have h5 := h4 _ rfl
  refine wpIn_of_skip hrun (hN σ M w' _ (.tup []) undef g2 g3 (VR.tup' .nil) ?_)
  cases hg : mget (ev e k') es with
  | some u => rw [hg] at h5; exact h5
  | none => rw [hg] at h5; exact h5
end
end Go.L
