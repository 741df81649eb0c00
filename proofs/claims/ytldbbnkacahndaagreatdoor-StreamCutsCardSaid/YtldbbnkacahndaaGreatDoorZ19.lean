/- Contracts of functions of the given program, in the logic L: texts put together; no conditions. -/
import Derived.Test.YtldbbnkacahndaaGreatDoorZ12
import Derived.Test.YtldbbnkacahndaaGreatDoorZ17
namespace Go.Proofs.YtldbbnkacahndaaGreatDoor
open Go Go.L
section
variable {H : Type} {enc : TypeId × Value → H} {P : Program} {w : World} {base : Nat} {spare : Nat → Bool} {held : Bool}
theorem qQh {t e : TypeId} (ht : P.underlying t = some (.slice e)) (he : P.underlying e = some (.int .i64)) (hb : P.bytesOf e ≠ 0) {v : Value} {d : DataW H} {ps : List MemPlace} (h : DataW.Trod enc P w base spare held t v d ps)
  (hw : ∀ n ∈ d.weights P t, n ≤ reachBytes) : ∃ l : List Int, qI d = [.isl 0 (lc l)] ∧ l.length ≤ reachBytes := by
 obtain ⟨fuel, hf⟩ := h
 obtain ⟨es, h1, h2, h3⟩ := zLx (v := .bool true) ht hb hf hw
 have go : ∀ es : List (DataW H), (∀ y ∈ es, ∃ n : Int, qI y = [.int .i64 n]) → ∃ l : List Int, es.map qI = lc l ∧ l.length = es.length := by
  intro es
  induction es with
  | nil => intro _; exact ⟨[], rfl, rfl⟩
  | cons y es ih =>
   intro hh
   obtain ⟨n, q1⟩ := hh y List.mem_cons_self
   obtain ⟨l, q2, q3⟩ := ih fun z hz => hh z (List.mem_cons_of_mem _ hz)
   exact ⟨n :: l, by rw [List.map_cons, q1, q2]; rfl, by rw [List.length_cons, List.length_cons, q3]⟩
 obtain ⟨l, q1, q2⟩ := go es fun y hy => by
  obtain ⟨⟨f', cs', ps', h4⟩, _⟩ := h3 y hy
  obtain ⟨n, _, e2, _⟩ := DataW.trod_int he h4
  cases e2
  exact ⟨n, rfl⟩
 exact ⟨l, by rw [h1, q1], by rw [q2]; exact h2⟩
theorem jLh {e u : TypeId} {f0 f1 f2 f3 : Field} (he : P.underlying e = some (.struct #[f0, f1, f2, f3])) (h0 : P.underlying f0.type = some (.int .i64)) (h1 : P.underlying f1.type = some (.int .i64)) (h2 : P.underlying f2.type = some (.int .i64)) (h3 : P.underlying f3.type = some (.slice u)) (hu : P.underlying u = some (.int .u8)) (hb : P.bytesOf u ≠ 0)
  {fuel : Nat} {cs : List Value} {y : DataW H} {ps : List MemPlace} (h : DataW.trod enc P w base spare held fuel e cs = some (y, ps)) (hw : ∀ n ∈ y.weights P e, n ≤ reachBytes) :
  ∃ o : OpD, qI y = OpC o.kind o.who o.n 0 o.b ∧ o.b.length ≤ reachBytes ∧ zFO o.who ∧ zFO o.n := by
 obtain ⟨xs, m, hm, hx, hcl, hxl, hget⟩ := DataW.trod_struct he h
 match xs, hxl with
 | [a, b, c, d], _ =>
  have q0 := hget 0 f0 rfl
  have q1 := hget 1 f1 rfl
  have q2 := hget 2 f2 rfl
  have q3 := hget 3 f3 rfl
  cases hx
  obtain ⟨i, _, e0, w0⟩ := DataW.trod_int h0 q0
  obtain ⟨j, _, e1, w1⟩ := DataW.trod_int h1 q1
  obtain ⟨k, _, e2, w2⟩ := DataW.trod_int h2 q2
  obtain ⟨l, g1, g2⟩ := zWm h3 hu hb (d := d.1) (ps := d.2) q3 fun n hn => hw n (by
   simp only [DataW.weights, he, List.map_cons, List.map_nil, DataW.weightsEach]
   simp [hn])
  subst e0 e1 e2
  simp only [Lit.wf, Bool.and_eq_true, decide_eq_true_eq] at w1 w2
  have lo : IntKind.i64.min = -9223372036854775808 := rfl
  have hi : IntKind.i64.max = 9223372036854775807 := rfl
  rw [lo, hi] at w1 w2
  refine ⟨⟨i, j, k, l⟩, ?_, g2, ⟨w1.1, w1.2⟩, ⟨w2.1, w2.2⟩⟩
  show qI _ ++ (qI _ ++ (qI _ ++ (qI d.1 ++ []))) = _
  rw [g1]; rfl
theorem qYx {t e u : TypeId} {f0 f1 f2 f3 : Field} (ht : P.underlying t = some (.slice e)) (he : P.underlying e = some (.struct #[f0, f1, f2, f3])) (h0 : P.underlying f0.type = some (.int .i64)) (h1 : P.underlying f1.type = some (.int .i64)) (h2 : P.underlying f2.type = some (.int .i64)) (h3 : P.underlying f3.type = some (.slice u)) (hu : P.underlying u = some (.int .u8)) (hb : P.bytesOf e ≠ 0) (hb2 : P.bytesOf u ≠ 0)
  {v : Value} {d : DataW H} {ps : List MemPlace} (h : DataW.Trod enc P w base spare held t v d ps) (hw : ∀ n ∈ d.weights P t, n ≤ reachBytes) :
  ∃ l : List OpD, qI d = [.isl 0 (oc l)] ∧ l.length ≤ reachBytes ∧ ∀ o ∈ l, o.b.length ≤ reachBytes ∧ zFO o.who ∧ zFO o.n := by
 obtain ⟨fuel, hf⟩ := h
 obtain ⟨es, q1, q2, q3⟩ := zLx (v := .bool true) ht hb hf hw
 have go : ∀ es : List (DataW H), (∀ y ∈ es, ∃ o : OpD, qI y = OpC o.kind o.who o.n 0 o.b ∧ o.b.length ≤ reachBytes ∧ zFO o.who ∧ zFO o.n) → ∃ l : List OpD, es.map qI = oc l ∧ l.length = es.length ∧ ∀ o ∈ l, o.b.length ≤ reachBytes ∧ zFO o.who ∧ zFO o.n := by
  intro es
  induction es with
  | nil => intro _; exact ⟨[], rfl, rfl, fun _ h => by cases h⟩
  | cons y es ih =>
   intro hh
   obtain ⟨o, g1, g2⟩ := hh y List.mem_cons_self
   obtain ⟨l, g3, g4, g5⟩ := ih fun z hz => hh z (List.mem_cons_of_mem _ hz)
   refine ⟨o :: l, by rw [List.map_cons, g1, g3]; rfl, by rw [List.length_cons, List.length_cons, g4], fun z hz => ?_⟩
   rcases List.mem_cons.1 hz with rfl | hz
   ·exact g2
   ·exact g5 z hz
 obtain ⟨l, g1, g2, g3⟩ := go es fun y hy => by
  obtain ⟨⟨f', cs', ps', h4⟩, h5⟩ := q3 y hy
  exact jLh he h0 h1 h2 h3 hu hb2 h4 h5
 exact ⟨l, by rw [q1, g1], by rw [g2]; exact q2, g3⟩
end
end Go.Proofs.YtldbbnkacahndaaGreatDoor
