/- The logic L (of no program), and plain laws: texts put together; no conditions. -/
import Derived.Test.YtgjjbfhamlecoacGreatDoorZ4
import Derived.ProofKit
import Derived.Test.YtgjjbfhamlecoacGreatDoorZ3
import Derived.ChangeArms
import Derived.ChangeMaps5
namespace Go.L
open Go.RowKit
def GlbW (P : Program) (w : World) : Prop := ∀ g3 g4, P.globalNamed "unicode/utf8.first" = some g3 → P.globalNamed "unicode/utf8.acceptRanges" = some g4 → Tabs8 g3 g4 w
theorem cell_same {w w' : World} {B i : Nat} {v : Value} (hB : ∀ o, w.heap[B]? = some o → w'.heap[B]? = some o) (h : w.cell? ⟨B, i, none⟩ = some v) : w'.cell? ⟨B, i, none⟩ = some v := by
 unfold World.cell? at h ⊢
 simp only at h ⊢
 cases ho : w.heap[B]? with
 | none => rw [ho] at h; cases h
 | some o => rw [hB o ho]; rw [ho] at h; exact h
theorem GlbW.glb {P : Program} {w : World} (h : GlbW P w) : Glb P (fun B => (w.heap[B]?).map fun o => (o, 0)) := fun g3 g4 h3 h4 w' hw => by
 have hb : ∀ B o, w.heap[B]? = some o → w'.heap[B]? = some o := fun B o ho => hw B (o, 0) (by simp only [ho, Option.map_some])
 obtain ⟨t1, t2⟩ := h g3 g4 h3 h4
 exact ⟨fun c hc => cell_same (hb _) (t1 c hc), fun i hi => ⟨cell_same (hb _) (t2 i hi).1, cell_same (hb _) (t2 i hi).2⟩⟩
theorem GlbW.none {P : Program} {w : World} (h : P.globalNamed "unicode/utf8.first" = none) : GlbW P w := fun g3 g4 h3 => by rw [h] at h3; cases h3
theorem CallL.law {P : Program} {f : FuncId} {args : List AV} {args' : Array Value} {w : World} (k : CallL P f args Hp.nil fun r _ => r = .ret (.bool true))
  (hG : GlbW P w)
  (hA : VRs (fun _ => none) (fun B => (w.heap[B]?).map fun o => (o, 0)) args args') : Calls P f args' w fun e w' => e = .returned (.bool true) ∧ Below w.heap.size w w' := by
 have hR0 : R P (fun _ => none) (fun B => (w.heap[B]?).map fun o => (o, 0)) Hp.nil w :=
  ⟨fun _ _ => rfl, (fun i b hi => by cases hi), (fun B o hB => by simp only [Option.map_eq_some_iff] at hB; obtain ⟨o', h1, rfl⟩ := hB; exact h1), (fun i b L hi => by cases hi), (fun i j bi bj Li Lj hi => by cases hi), (fun i b L hi => by cases hi), (fun i b L hi => by cases hi), hG.glb⟩
 refine (callsIn_wide.1 (k.run _ _ w args' hR0 hA)).mono ?_
 rintro e w' ⟨σ', M', h', hE, hR', hend⟩
 refine ⟨?_, hE.os, hE.tape, hE.output, hE.size, fun B hB => ?_⟩
 ·cases e with
  | returned v' =>
   obtain ⟨v, hv, e1⟩ := hend
   cases e1
   cases hv; rfl
  | panicked ch => obtain ⟨v, v', _, _, e1⟩ := hend; cases e1
  | outgrown => exact hend.elim
 ·have h1 : w.heap[B]? = some w.heap[B] := Array.getElem?_eq_getElem hB
  rw [h1]; exact hR'.mem B (w.heap[B], 0) (hE.m B _ (by simp only [h1, Option.map_some]))
end Go.L

namespace Go.L
open Go
def fieldsB (P : Program) (S : List TypeId) : Nat → List Field → Option Nat
 | o, [] => some o
 | o, f :: r => match Nat.beq f.offset o && S.contains f.type with
  | true => fieldsB P S (o + P.cellsOf f.type) r
  | false => none
def plainT (P : Program) (S : List TypeId) (t : TypeId) : Bool :=
 match P.underlying t with
 | some .bool => true
 | some (.int _) => true
 | some .string => true
 | some (.slice e) => S.contains e && !(Nat.beq (P.cellsOf e) 0)
 | some (.struct fs) => match fieldsB P S 0 fs.toList with
  | some n => Nat.beq n (P.cellsOf t)
  | none => false
 | _ => false
def plainB (P : Program) (S : List TypeId) : Bool := S.all (plainT P S)
mutual
def dcells {H : Type} : DataW H → List AV
 | .lit (.bool b) => [.bool b]
 | .lit (.int k n) => [.int k n]
 | .lit (.string s) => [.str s]
 | .nil => [.isl 0 []]
 | .slice es _ => [.isl 0 (dcellsE es)]
 | .agg ps => dcellsF ps
 | _ => []
def dcellsE {H : Type} : List (DataW H) → List (List AV)
 | [] => []
 | d :: r => dcells d :: dcellsE r
def dcellsF {H : Type} : List (DataW H) → List AV
 | [] => []
 | d :: r => dcells d ++ dcellsF r
end
theorem dcellsE_map {H : Type} (l : List (DataW H)) : dcellsE l = l.map dcells := by
 induction l with
 | nil => rfl
 | cons d r ih => rw [dcellsE, ih]; rfl
section
variable {H : Type} {enc : TypeId × Value → H} {P : Program} {w : World} {base : Nat} {spare : Nat → Bool} {held : Bool}
def memW (w : World) : Mem := fun B => (w.heap[B]?).map fun o => (o, 0)
theorem cells_get {a : Addr} {n : Nat} {cs : List Value} (h : w.cells? base a n = some cs) : cs.length = n ∧ ∀ j, j < n → w.cell? (a.add j) = cs[j]? := by
 unfold World.cells? at h
 split at h <;> first | cases h | skip
 refine ⟨by simpa using mapM_some_length h, fun j hj => mapM_some_get h j j (by simp [hj])⟩
theorem trod_VR {S : List TypeId} (hS : plainB P S = true) {σ : Emb} : ∀ (fuel : Nat) (t : TypeId) (cs : List Value) (x : DataW H × List MemPlace), t ∈ S → DataW.trod enc P w base spare held fuel t cs = some x →
  VRs σ (memW w) (dcells x.1) cs.toArray ∧ (dcells x.1).length = cs.length := by
 intro fuel
 induction fuel with
 | zero => intro t cs x _ h; simp [DataW.trod] at h
 | succ fuel ih =>
  intro t cs x ht h
  have hp : plainT P S t = true := List.all_eq_true.1 hS t ht
  have one : ∀ {v : AV} {u : Value}, VR σ (memW w) v u → VRs σ (memW w) [v] #[u] := fun h => VRs.nil.cons h
  unfold plainT at hp
  split at hp <;> first | cases hp | skip
  ·rename_i hu
   obtain ⟨b, rfl, rfl⟩ := DataW.trod_bool hu h
   exact ⟨one (.bool b), rfl⟩
  ·rename_i k hu
   obtain ⟨n, rfl, rfl, _⟩ := DataW.trod_int hu h
   exact ⟨one (.int k n), rfl⟩
  ·rename_i hu
   obtain ⟨s, rfl, rfl, _⟩ := DataW.trod_string hu h
   exact ⟨one (.str _ s rfl), rfl⟩
  ·rename_i e hu
   simp only [Bool.and_eq_true, Bool.not_eq_true'] at hp
   have heS : e ∈ S := by simpa using hp.1
   rcases DataW.trod_slice hu h with ⟨rfl, rfl⟩ | ⟨a, len, cap, elems, rest, n, hn, rfl, rfl, hb, hlc, _, hel, hget, _⟩
   ·exact ⟨one (.isl0 0 none 0), rfl⟩
   obtain rfl : fuel = n := by omega
   refine ⟨one ?_, rfl⟩
   show VR σ (memW w) (.isl 0 (dcellsE (elems.map (·.1)))) _
   rw [dcellsE_map, List.map_map]
   by_cases h0 : elems = []
   ·subst h0
    obtain rfl : len = 0 := hel.symm
    exact .isl0 _ _ _
   have hpos : 0 < elems.length := List.length_pos_iff.2 h0
   have each : ∀ (k : Nat) (y : DataW H × List MemPlace), elems[k]? = some y → ∃ cs, w.cells? base (a.add (k * P.cellsOf e)) (P.cellsOf e) = some cs ∧ VRs σ (memW w) (dcells y.1) cs.toArray ∧ (dcells y.1).length = cs.length := by
    intro k y hy
    have hk : k < len := by rw [← hel]; exact (List.getElem?_eq_some_iff.1 hy).1
    have := hget k hk
    rw [hy] at this
    cases hc : w.cells? base (a.add (k * P.cellsOf e)) (P.cellsOf e) with
    | none => rw [hc] at this; cases this
    | some cs =>
     rw [hc] at this
     exact ⟨cs, rfl, ih e cs y heS this⟩
   have hz : P.cellsOf e ≠ 0 := fun h0 => by rw [h0] at hp; cases hp.2
   obtain ⟨blk, off, spot⟩ := a
   obtain ⟨C, T, F, hC, rfl⟩ : ∃ (C : Array Value) (T : TypeId) (F : Nat × Nat), w.heap[blk]? = some (.cells C T F) ∧ spot = none := by
    obtain ⟨y, hy⟩ := get_lt hpos
    obtain ⟨cs, h1, _⟩ := each 0 y hy
    obtain ⟨h2, h3⟩ := cells_get h1
    have h4 := h3 0 (by omega)
    obtain ⟨c0, hc0⟩ := get_lt (l := cs) (k := 0) (by omega)
    have e0 : ((⟨blk, off, spot⟩ : Addr).add (0 * P.cellsOf e)).add 0 = ⟨blk, off, spot⟩ := by rw [Nat.zero_mul]; rfl
    rw [hc0, e0] at h4
    unfold World.cell? at h4
    split at h4
    ·rename_i c T F hC
     split at h4
     ·cases h4
     ·rename_i hs
      refine ⟨c, T, F, hC, ?_⟩
      cases spot with
      | none => rfl
      | some s => exact absurd rfl hs
    ·cases h4
   have key : ∀ (k : Nat) (cs' : List AV) (j : Nat) (v : AV), (elems.map (dcells ∘ (·.1)))[k]? = some cs' → cs'[j]? = some v → ∃ u, C[off + k * P.cellsOf e + j]? = some u ∧ VR σ (memW w) v u := by
    intro k cs' j v hk hj
    rw [List.getElem?_map] at hk
    cases hy : elems[k]? with
    | none => rw [hy] at hk; cases hk
    | some y =>
     rw [hy] at hk; cases hk
     obtain ⟨cs, h1, h2, h3⟩ := each k y hy
     obtain ⟨h4, h5⟩ := cells_get h1
     obtain ⟨u, h6, h7⟩ := h2.2 j v hj
     refine ⟨u, ?_, h7⟩
     have hjl : j < P.cellsOf e := by
      have := (List.getElem?_eq_some_iff.1 hj).1
      simp only [Function.comp] at this; omega
     have h8 := h5 j hjl
     simp only [List.getElem?_toArray] at h6
     rw [h6] at h8
     rw [WideShapes.add_plain, WideShapes.add_plain] at h8
     simpa [World.cell?, hC] using h8
   have hlen : (elems.map (dcells ∘ (·.1))).length = len := by rw [List.length_map, hel]
   have := VR.isl (σ := σ) (M := memW w) 0 (elems.map (dcells ∘ (·.1))) (P.cellsOf e) blk off C T F (fun k j => C.getD (off + k * P.cellsOf e + j) undef) cap (by simp [memW, hC])
    (fun k cs' hk => by
     rw [List.getElem?_map] at hk
     cases hy : elems[k]? with
     | none => rw [hy] at hk; cases hk
     | some y =>
      rw [hy] at hk; cases hk
      obtain ⟨cs, h1, h2, h3⟩ := each k y hy
      have := (cells_get h1).1
      simp only [Function.comp]; omega) (by omega)
    (fun k cs' j v hk hj => by obtain ⟨u, h1, h2⟩ := key k cs' j v hk hj; simp [Array.getD_eq_getD_getElem?, h1])
    (fun k cs' j v hk hj => by obtain ⟨u, h1, h2⟩ := key k cs' j v hk hj; simpa [Array.getD_eq_getD_getElem?, h1] using h2)
   rw [hlen] at this
   exact this
  ·rename_i fs hu
   split at hp <;> first | cases hp | skip
   rename_i n hf
   obtain ⟨xs, m, hm, rfl, hcl, hxl, hget⟩ := DataW.trod_struct hu h
   obtain rfl : fuel = m := by omega
   have hn : n = P.cellsOf t := Nat.eq_of_beq_eq_true hp
   show VRs σ (memW w) (dcellsF (xs.map (·.1))) cs.toArray ∧ (dcellsF (xs.map (·.1))).length = cs.length
   have go : ∀ (l : List Field) (o n : Nat) (ys : List (DataW H × List MemPlace)), fieldsB P S o l = some n → ys.length = l.length →
     (∀ (i : Nat) (f : Field), l[i]? = some f → DataW.trod enc P w base spare held fuel f.type ((cs.drop f.offset).take (P.cellsOf f.type)) = ys[i]?) → n ≤ cs.length →
     o ≤ n ∧ VRs σ (memW w) (dcellsF (ys.map (·.1))) ((cs.drop o).take (n - o)).toArray ∧ (dcellsF (ys.map (·.1))).length = n - o := by
    intro l
    induction l with
    | nil =>
     intro o n ys hf hl _ _
     cases hf
     obtain rfl := List.eq_nil_of_length_eq_zero hl
     rw [Nat.sub_self]
     exact ⟨Nat.le_refl _, by simpa [dcellsF] using VRs.nil, rfl⟩
    | cons f l ihl =>
     intro o n ys hf hl hg hnc
     unfold fieldsB at hf
     split at hf <;> first | cases hf | skip
     rename_i hc
     simp only [Bool.and_eq_true] at hc
     have ho : f.offset = o := Nat.eq_of_beq_eq_true hc.1
     have hfS : f.type ∈ S := by simpa using hc.2
     cases ys with
     | nil => cases hl
     | cons y ys =>
      have h1 := hg 0 f rfl
      simp only [List.getElem?_cons_zero] at h1
      obtain ⟨h2, h3⟩ := ih f.type _ y hfS h1
      obtain ⟨h4, h5, h6⟩ := ihl _ n ys hf (by simpa using hl) (fun i f' hi => by have := hg (i + 1) f' (by simpa using hi); simpa using this) hnc
      have hlen : (dcells y.1).length = P.cellsOf f.type := by
       rw [h3]; simp; omega
      refine ⟨by omega, ?_, by simp only [List.map_cons, dcellsF, List.length_append]; omega⟩
      have := h2.append h5
      simp only [List.map_cons, dcellsF]
      have e : ((cs.drop f.offset).take (P.cellsOf f.type)).toArray ++ ((cs.drop (o + P.cellsOf f.type)).take (n - (o + P.cellsOf f.type))).toArray = ((cs.drop o).take (n - o)).toArray := by
       rw [ho, List.append_toArray]
       congr 1
       rw [show n - o = P.cellsOf f.type + (n - (o + P.cellsOf f.type)) by omega, List.take_add, List.drop_drop]
      rw [e] at this; exact this
   obtain ⟨h1, h2, h3⟩ := go fs.toList 0 n xs hf (by simpa using hxl) (fun i f hi => hget i f (by simpa using hi)) (by omega)
   rw [List.drop_zero, Nat.sub_zero, hn, ← hcl, List.take_length] at h2
   exact ⟨h2, by omega⟩
theorem slice_VR {S : List TypeId} (hS : plainB P S = true) {σ : Emb} {t e : TypeId} (ht : t ∈ S) (hu : P.underlying t = some (.slice e)) {r : Reach} {b0 : Nat} {v : Value} (hval : Value.okWide P w r b0 t v) {d : DataW H} {ps : List MemPlace} (h : DataW.Trod enc P w base spare held t v d ps) {x : AV}
  (hd : dcells d = [x]) : VR σ (memW w) x v := by
 obtain ⟨a, n, c, rfl⟩ := WideShapes.okWide_slice hu hval
 obtain ⟨fuel, hf⟩ := h
 have := (trod_VR hS (σ := σ) fuel t _ _ ht hf).1
 simp only [hd] at this
 obtain ⟨u, h1, h2⟩ := this.2 0 x rfl
 have : u = .slice a n c := by simpa [Value.cells] using h1.symm
 rw [this] at h2; exact h2
end
end Go.L

namespace Go.L
open Go
section
variable {H : Type} {enc : TypeId × Value → H} {P : Program} {w : World} {base : Nat} {spare : Nat → Bool} {held : Bool}
theorem weightsAll_flat (e : TypeId) : ∀ l : List (DataW H), DataW.weightsAll P e l = l.flatMap (DataW.weights P e) := fun l => by
 induction l with
 | nil => rfl
 | cons d r ih => rw [DataW.weightsAll, ih]; rfl
theorem slice_of {t e : TypeId} (ht : P.underlying t = some (.slice e)) (hb : P.bytesOf e ≠ 0) {v : Value} {d : DataW H} {ps : List MemPlace} {f : Nat} {cs : List Value} (h : DataW.trod enc P w base spare held f t cs = some (d, ps))
  (hw : ∀ n ∈ d.weights P t, n ≤ reachBytes) : ∃ es : List (DataW H), dcells d = [.isl 0 (es.map dcells)] ∧ es.length ≤ reachBytes ∧ ∀ y ∈ es, (∃ f' cs' ps', DataW.trod enc P w base spare held f' e cs' = some (y, ps')) ∧ ∀ n ∈ y.weights P e, n ≤ reachBytes := by
 rcases DataW.trod_slice ht h with ⟨_, e1⟩ | ⟨a, len, cap, elems, rest, n, _, _, e1, _, _, _, hel, hget, _⟩
 ·cases e1
  exact ⟨[], rfl, Nat.zero_le _, fun _ h => by cases h⟩
 ·cases e1
  refine ⟨elems.map (·.1), ?_, ?_, fun y hy => ?_⟩
  ·show [AV.isl 0 (dcellsE (elems.map (·.1)))] = _
   rw [dcellsE_map]
  ·have h1 : (elems.length + rest.length) * P.bytesOf e ≤ reachBytes := hw _ (by simp only [DataW.weights, ht, List.length_map]; exact List.mem_cons_self)
   rw [List.length_map]
   have h2 : 1 ≤ P.bytesOf e := by omega
   exact Nat.le_trans (Nat.le_trans (Nat.le_add_right _ _) (Nat.le_mul_of_pos_right _ h2)) h1
  ·obtain ⟨z, hz, rfl⟩ := List.mem_map.1 hy
   refine ⟨?_, fun n hn => hw n ?_⟩
   ·obtain ⟨k, hk⟩ := List.getElem?_of_mem hz
    have hkl : k < len := by rw [← hel]; exact (List.getElem?_eq_some_iff.1 hk).1
    have := hget k hkl
    rw [hk] at this
    cases hc : w.cells? base (a.add (k * P.cellsOf e)) (P.cellsOf e) with
    | none => rw [hc] at this; cases this
    | some cs => rw [hc] at this; exact ⟨_, cs, z.2, this⟩
   ·simp only [DataW.weights, ht, weightsAll_flat]
    exact List.mem_cons_of_mem _ (List.mem_append_left _ (List.mem_flatMap.2 ⟨z.1, List.mem_map_of_mem hz, hn⟩))
end
end Go.L

namespace Go.L
open Go
section
variable {H : Type} {enc : TypeId × Value → H} {P : Program} {w : World} {base : Nat} {spare : Nat → Bool} {held : Bool}
theorem nums_of {α : Type} {f : α → List AV} {p : α → Prop} : ∀ es : List (DataW H), (∀ y ∈ es, ∃ n : α, dcells y = f n ∧ p n) → ∃ l : List α, es.map dcells = l.map f ∧ l.length = es.length ∧ ∀ x ∈ l, p x
 | [], _ => ⟨[], rfl, rfl, fun x hx => by cases hx⟩
 | y :: es, hh => by
  obtain ⟨n, q1, q4⟩ := hh y List.mem_cons_self
  obtain ⟨l, q2, q3, q5⟩ := nums_of es fun z hz => hh z (List.mem_cons_of_mem _ hz)
  refine ⟨n :: l, by rw [List.map_cons, q1, q2]; rfl, by rw [List.length_cons, List.length_cons, q3], fun x hx => ?_⟩
  rcases List.mem_cons.1 hx with rfl | h
  ·exact q4
  ·exact q5 x h
theorem words_of {t e : TypeId} (ht : P.underlying t = some (.slice e)) (he : P.underlying e = some (.int .u64)) (hb : P.bytesOf e ≠ 0) {v : Value} {d : DataW H} {ps : List MemPlace} (h : DataW.Trod enc P w base spare held t v d ps)
  (hw : ∀ n ∈ d.weights P t, n ≤ reachBytes) : ∃ l : List Nat, dcells d = [.isl 0 (l.map fun v : Nat => [.int .u64 (v : Nat)])] ∧ l.length ≤ reachBytes ∧ ∀ v ∈ l, v < 18446744073709551616 := by
 obtain ⟨fuel, hf⟩ := h
 obtain ⟨es, h1, h2, h3⟩ := slice_of (v := .bool true) ht hb hf hw
 obtain ⟨l, q1, q2, q3⟩ := nums_of (f := fun v : Nat => [AV.int .u64 (v : Nat)]) (p := fun v => v < 18446744073709551616) es fun y hy => by
  obtain ⟨⟨f', cs', ps', h4⟩, _⟩ := h3 y hy
  obtain ⟨n, _, e2, hwf⟩ := DataW.trod_int he h4
  cases e2
  simp only [Lit.wf, Bool.and_eq_true, decide_eq_true_eq] at hwf
  have q1 : IntKind.u64.min = 0 := rfl
  have q2 : IntKind.u64.max = 18446744073709551615 := rfl
  rw [q1, q2] at hwf
  refine ⟨n.toNat, ?_, by omega⟩
  show [AV.int .u64 n] = _
  rw [Int.toNat_of_nonneg (by omega)]
 exact ⟨l, by rw [h1, q1], by rw [q2]; exact h2, q3⟩
theorem numbers_of {t e : TypeId} (ht : P.underlying t = some (.slice e)) (he : P.underlying e = some (.int .i64)) (hb : P.bytesOf e ≠ 0) {v : Value} {d : DataW H} {ps : List MemPlace} (h : DataW.Trod enc P w base spare held t v d ps)
  (hw : ∀ n ∈ d.weights P t, n ≤ reachBytes) : ∃ l : List Int, dcells d = [.isl 0 (l.map fun n : Int => [.int .i64 n])] ∧ l.length ≤ reachBytes := by
 obtain ⟨fuel, hf⟩ := h
 obtain ⟨es, h1, h2, h3⟩ := slice_of (v := .bool true) ht hb hf hw
 obtain ⟨l, q1, q2, _⟩ := nums_of (f := fun n : Int => [AV.int .i64 n]) (p := fun _ => True) es fun y hy => by
  obtain ⟨⟨f', cs', ps', h4⟩, _⟩ := h3 y hy
  obtain ⟨n, _, e2, _⟩ := DataW.trod_int he h4
  cases e2
  exact ⟨n, rfl, trivial⟩
 exact ⟨l, by rw [h1, q1], by rw [q2]; exact h2⟩
end
end Go.L
