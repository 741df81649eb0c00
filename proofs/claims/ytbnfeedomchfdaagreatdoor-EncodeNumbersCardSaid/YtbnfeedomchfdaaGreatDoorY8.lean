/- The logic L (of no program), and plain laws: texts put together; no conditions. -/
import Derived.Test.YtbnfeedomchfdaaGreatDoorY3
import Derived.Test.YtbnfeedomchfdaaGreatDoorY5
import Derived.ProofKit
/-
  Means for contracts: the steps of code as lemmas; pure calls; loops.
-/
namespace Go.L

abbrev Str := List UInt8
def sortS (l : List Str) : List Str := l.mergeSort fun x y => decide (x ≤ y)

/-! ### Truth values and numbers -/
section
variable {N : Bool → Prop} {M : Int → Prop} {a b c : Int}
theorem s_lt (k1 : a < b → N true) (k2 : b ≤ a → N false) : gen (decide (a < b)) N := by
  rintro t rfl; by_cases h : a < b
  · rw [decide_eq_true h]; exact k1 h
  · rw [decide_eq_false h]; exact k2 (Int.not_lt.1 h)
theorem s_le (k1 : a ≤ b → N true) (k2 : b < a → N false) : gen (decide (a ≤ b)) N := by
  rintro t rfl; by_cases h : a ≤ b
  · rw [decide_eq_true h]; exact k1 h
  · rw [decide_eq_false h]; exact k2 (Int.not_le.1 h)
theorem s_eq (k1 : a = b → N true) (k2 : a ≠ b → N false) : gen (a == b) N := by
  rintro t rfl; by_cases h : a = b
  · subst h; simpa using k1 rfl
  · rw [show (a == b) = false by simpa using h]; exact k2 h
theorem s_ne (k1 : a ≠ b → N true) (k2 : a = b → N false) : gen (a != b) N := by
  rintro t rfl; by_cases h : a = b
  · subst h; simpa using k2 rfl
  · rw [show (a != b) = true by simpa using h]; exact k1 h
theorem s_seq {a b : Str} (k1 : a = b → N true) (k2 : a ≠ b → N false) : gen (a == b) N := by
  rintro t rfl; by_cases h : a = b
  · subst h; simpa using k1 rfl
  · rw [show (a == b) = false by simpa using h]; exact k2 h
theorem s_sne {a b : Str} (k1 : a ≠ b → N true) (k2 : a = b → N false) : gen (!(a == b)) N := by
  rintro t rfl; by_cases h : a = b
  · subst h; simpa using k2 rfl
  · rw [show (!(a == b)) = true by simpa using h]; exact k1 h
theorem s_b {t : Bool} (k : N t) : gen t N := by rintro _ rfl; exact k
/-- A truth value, by cases. -/
theorem s_c {t : Bool} (k1 : t = true → N true) (k2 : t = false → N false) : gen t N := by
  intro u hu; subst hu; cases u
  · exact k2 rfl
  · exact k1 rfl
theorem s_i (k : M c) : genI c M := by rintro _ rfl; exact k
theorem s_64 {n : Int} (h1 : -9223372036854775808 ≤ n) (h2 : n ≤ 9223372036854775807) (k : M n) : genI (IntKind.i64.wrap n) M := by
  rintro _ rfl; rw [wrap_i64 h1 h2]; exact k
theorem s_nat {n : Int} (m : Nat) (h : n = m) (h2 : (m : Int) ≤ 9223372036854775807) (k : M (m : Int)) : genI (IntKind.i64.wrap n) M := by
  rintro _ rfl; rw [wrap_i64 (by omega) (by omega), h]; exact k
end

/-! ### Elements -/
/-- The address of an element of what never changes. -/
theorem s_at {α : Type} {l : List α} {f : α → List AV} {z : Nat} {m : Int} {next : List AV → Prop} (k : Nat) (x : α) (hm : m = k) (hx : l[k]? = some x) (hz : (f x).length = z) (hz0 : z ≠ 0) (hn : next (f x)) :
    ∃ (k : Nat) (cs : List AV), m = k ∧ (l.map f)[k]? = some cs ∧ cs.length = z ∧ z ≠ 0 ∧ next cs :=
  ⟨k, f x, hm, by rw [List.getElem?_map, hx]; rfl, hz, hz0, hn⟩
/-- A text's byte. -/
theorem s_byte {s : Str} {m : Int} {next : UInt8 → Prop} (k : Nat) (x : UInt8) (hm : m = k) (hx : s[k]? = some x) (hn : next x) :
    ∃ (k : Nat) (c : UInt8), m = k ∧ s[k]? = some c ∧ next c := ⟨k, x, hm, hx, hn⟩

theorem get_lt {α : Type} {l : List α} {k : Nat} (h : k < l.length) : ∃ x, l[k]? = some x := ⟨_, List.getElem?_eq_getElem h⟩

/-! ### Pure calls -/
section
variable {P : Program} {f : FuncId} {args : List AV} {v : AV}

/-- A pure call that answers yes or no, by cases. -/
theorem PureL.useC {c : Bool} {h : Hp} {Q : Res → Hp → Prop} (k : PureL P f args (.bool c)) (k1 : c = true → Q (.ret (.bool true)) h) (k2 : c = false → Q (.ret (.bool false)) h) : CallL P f args h Q := by
  refine k.use ?_
  cases c
  · exact k2 rfl
  · exact k1 rfl

theorem noids_same {p : Nat → Bool} {g : Nat} {h : Hp} {l : List AV} (hl : noids p l = true) : FzL p g h l l :=
  ⟨rfl, fun q v v' h1 h2 => by rw [h1] at h2; cases h2; exact .same v (noids_get hl q v h1)⟩

/-- A call whose arguments lead to nothing mutable: proved in the empty heap. -/
theorem PureL.nil (ha : noids anyMark args = true) (k : CallL P f args Hp.nil fun r h1 => ∃ u, r = .ret u ∧ Fz mark0 0 h1 u v) : PureL P f args v := by
  intro h
  refine ((CallL.lent (h := Hp.nil) (Q := fun u => u = v) (noids_same ha) (k.mono fun r h1 ⟨u, h2, h3⟩ => ⟨u, v, h2, h3, rfl⟩)) h (fun i b hi => by cases hi)).mono ?_
  rintro r h' ⟨u, rfl, rfl, rfl⟩
  exact ⟨rfl, rfl⟩
/-- The same of arguments of which some are lent. -/
theorem CallL.lentP {args' : List AV} {h : Hp} {Q : Res → Hp → Prop} (k : PureL P f args' v) (ha : FzL anyMark 1 h args args') (hv : noid mark0 v = true) (hq : Q (.ret v) h) : CallL P f args h Q := by
  refine ((CallL.lent (Q := fun u => u = v) ha ((k Hp.nil).mono fun r h1 ⟨h2, _⟩ => ⟨v, v, h2, .same v hv, rfl⟩)) h (fun i b hi => hi)).mono ?_
  rintro r h' ⟨u, rfl, rfl, rfl⟩
  exact hq
end

/-! ### Heaps that grow -/
/-- What was there is as it was. -/
structure Gr (h h' : Hp) : Prop where
  m : ∀ x, h.u x = true → h' x = h x
  u : ∀ x, h.u x = true → h'.u x = true
theorem Hp.used {h : Hp} {i : Nat} {b : Blk} (hi : h i = some b) : h.u i = true := by
  cases hu : h.u i with
  | true => rfl
  | false => rw [h.ok i hu] at hi; cases hi
theorem Gr.refl (h : Hp) : Gr h h := ⟨fun _ _ => rfl, fun _ h => h⟩
theorem Gr.trans {h h1 h2 : Hp} (a : Gr h h1) (b : Gr h1 h2) : Gr h h2 := ⟨fun x hx => (b.m x (a.u x hx)).trans (a.m x hx), fun x hx => b.u x (a.u x hx)⟩
theorem ne_of_u {h : Hp} {x i : Nat} (hx : h.u x = true) (hi : h.u i = false) : x ≠ i := fun e => by rw [e, hi] at hx; cases hx
theorem Gr.set {h h' : Hp} (a : Gr h h') {i : Nat} (hi : h.u i = false) (b : Blk) : Gr h (h'.set i b) :=
  ⟨fun x hx => (Hp.set_ne (ne_of_u hx hi)).trans (a.m x hx), fun x hx => by rw [Hp.set_u, a.u x hx]; simp⟩
theorem Gr.del {h h' : Hp} (a : Gr h h') {i : Nat} (hi : h.u i = false) : Gr h (h'.del i) :=
  ⟨fun x hx => (Hp.del_ne (ne_of_u hx hi)).trans (a.m x hx), fun x hx => by rw [Hp.del_u]; exact a.u x hx⟩
theorem Gr.new {h h' : Hp} (a : Gr h h') {i : Nat} (hi : h'.u i = false) : h.u i = false := by
  cases hu : h.u i with
  | false => rfl
  | true => rw [a.u i hu] at hi; cases hi
theorem Gr.blk {h h' : Hp} (a : Gr h h') {i : Nat} {b : Blk} (hi : h i = some b) : h' i = some b := (a.m i (Hp.used hi)).trans hi
/-- An owned row. -/
def OwnR (T : TypeId) (h h' : Hp) (r : Res) (es : List (List AV)) : Prop :=
  (r = .ret .nils ∧ es = [] ∧ h' = h) ∨ ∃ i c, r = .ret (.slc i 0 es.length c) ∧ (∀ x, c = some x → es.length ≤ x) ∧ h.u i = false ∧ Gr h h' ∧ h' i = some (.row T es)

theorem Hp.set_self {h : Hp} {i : Nat} {b : Blk} (hi : h i = some b) : h.set i b = h := by
  refine Hp.ext (fun j => ?_) (fun j => ?_) <;> by_cases e : j = i
  · subst e; rw [Hp.set_same, hi]
  · rw [Hp.set_ne e]
  · subst e; rw [Hp.set_u, if_pos rfl, Hp.used hi]
  · rw [Hp.set_u, if_neg e]

/-! ### Loops: so many rounds at most; what changes in them is a state -/
section
variable {P : Program} {md : Bool} {Q : Xit → Env → Hp → Prop} {e : Env} {h : Hp}

theorem s_loop {σ : Type} {c : ACode} (N : Nat) (I : Nat → σ → Prop) (S : Nat → σ → List (Nat × AV)) (H : Nat → σ → Hp) (s0 : σ) (hi : I 0 s0) (hh : h = H 0 s0) (hd : e.ds = []) (hs : Has e (S 0 s0)) (hN : ∀ k s, I k s → k ≤ N)
    (step : ∀ k s n g, k ≤ N → I k s → LCode P md c (andThen (fun e' h' => ∃ s', k < N ∧ I (k + 1) s' ∧ h' = H (k + 1) s' ∧ e'.ds = [] ∧ Has e' (S (k + 1) s')) Q) (puts ⟨n, g, []⟩ (S k s)) (H k s)) :
    LCode P md (.loop c) Q e h := by
  refine ⟨fun n e h => ∃ k s, n = N - k ∧ I k s ∧ h = H k s ∧ e.ds = [] ∧ Has e (S k s), ⟨_, 0, s0, rfl, hi, hh, hd, hs⟩, ?_⟩
  rintro n e h ⟨k, s, rfl, hI, rfl, hd, hs⟩
  obtain ⟨n0, g, rfl⟩ := hs.out hd
  refine LCode_mono _ (step k s n0 g (hN k s hI) hI) ?_
  intro y e' h' hy
  cases y with
  | normal => obtain ⟨s', h1, h2, h3, h4, h5⟩ := hy; exact ⟨N - (k + 1), by omega, k + 1, s', rfl, h2, h3, h4, h5⟩
  | exit i => exact hy
  | ret => exact hy
  | pan v => exact hy

/-- A block, with what is asked of its end said once. -/
theorem s_blk {id : Nat} {c : ACode} (Post : Env → Hp → Prop) (k : LCode P md c (fun y e' h' => match y with
      | .normal => Post e' h'
      | .exit j => bif Nat.beq j id then Post e' h' else Q (.exit j) e' h'
      | y => Q y e' h') e h) (post : ∀ e' h', Post e' h' → Q .normal e' h') : LCode P md (.block id c) Q e h := by
  refine LCode_mono c k ?_
  intro y e' h' hy
  cases y with
  | normal => exact post _ _ hy
  | ret => exact hy
  | pan v => exact hy
  | exit j =>
    simp only [inBlk]
    cases hb : Nat.beq j id with
    | true =>
      rw [if_pos (Nat.eq_of_beq_eq_true hb)]
      simp only [hb, cond_true] at hy
      exact post _ _ hy
    | false =>
      rw [if_neg (fun e => by rw [e, Nat.beq_refl] at hb; cases hb)]
      simpa only [hb, cond_false] using hy
/-- Pieces of code one behind the other: what holds between them is said. -/
abbrev toPost (Post : Env → Hp → Prop) (Q : Xit → Env → Hp → Prop) : Xit → Env → Hp → Prop := fun y e' h' => match y with
  | .normal => Post e' h'
  | y => Q y e' h'
theorem s_then {a b : ACode} (Post : Env → Hp → Prop) (k1 : LCode P md a (toPost Post Q) e h) (k2 : ∀ e' h', Post e' h' → LCode P md b Q e' h') : LCode P md (.seq a b) Q e h := by
  refine LCode_mono a k1 ?_
  intro y e' h' hy
  cases y with
  | normal => exact k2 _ _ hy
  | ret => exact hy
  | pan v => exact hy
  | exit j => exact hy
theorem LCode_assoc {a b c : ACode} (k : LCode P md (.seq (.seq a b) c) Q e h) : LCode P md (.seq a (.seq b c)) Q e h := by
  refine LCode_mono a k ?_
  intro y e' h' hy
  cases y with
  | normal =>
    refine LCode_mono b hy ?_
    intro y e' h' hy
    cases y <;> exact hy
  | ret => exact hy
  | pan v => exact hy
  | exit j => exact hy
theorem s_then2 {a b c : ACode} (Post : Env → Hp → Prop) (k1 : LCode P md (.seq a b) (toPost Post Q) e h) (k2 : ∀ e' h', Post e' h' → LCode P md c Q e' h') : LCode P md (.seq a (.seq b c)) Q e h := LCode_assoc (s_then Post k1 k2)
theorem s_then3 {a b c d : ACode} (Post : Env → Hp → Prop) (k1 : LCode P md (.seq a (.seq b c)) (toPost Post Q) e h) (k2 : ∀ e' h', Post e' h' → LCode P md d Q e' h') : LCode P md (.seq a (.seq b (.seq c d))) Q e h := by
  refine LCode_mono a k1 ?_
  intro y e' h' hy
  cases y with
  | normal => exact s_then2 Post hy k2
  | ret => exact hy
  | pan v => exact hy
  | exit j => exact hy
theorem s_then4 {a b c d f : ACode} (Post : Env → Hp → Prop) (k1 : LCode P md (.seq a (.seq b (.seq c d))) (toPost Post Q) e h) (k2 : ∀ e' h', Post e' h' → LCode P md f Q e' h') : LCode P md (.seq a (.seq b (.seq c (.seq d f)))) Q e h := by
  refine LCode_mono a k1 ?_
  intro y e' h' hy
  cases y with
  | normal => exact s_then3 Post hy k2
  | ret => exact hy
  | pan v => exact hy
  | exit j => exact hy
/-- Code, with what is asked of its plain end said once. -/
theorem s_cut {c : ACode} (Post : Env → Hp → Prop) (k : LCode P md c (fun y e' h' => match y with
      | .normal => Post e' h'
      | y => Q y e' h') e h) (post : ∀ e' h', Post e' h' → Q .normal e' h') : LCode P md c Q e h := by
  refine LCode_mono c k ?_
  intro y e' h' hy
  cases y with
  | normal => exact post _ _ hy
  | ret => exact hy
  | pan v => exact hy
  | exit j => exact hy
end

/-! ### What append has made so far -/
def blkOf : AV → Option Nat
  | .slc i _ _ _ => some i
  | _ => none
def Acc (T : TypeId) (h H : Hp) (v : AV) (es : List (List AV)) : Prop :=
  Gr h H ∧ ((v = .nils ∧ es = []) ∨ ∃ j row, v = .slc j 0 es.length none ∧ h.u j = false ∧ H j = some (.row T row) ∧ row.take es.length = es ∧ es.length ≤ row.length)
theorem Acc.shape {T : TypeId} {h H : Hp} {v : AV} {es : List (List AV)} (a : Acc T h H v es) : v = .nils ∨ ∃ j n, v = .slc j 0 n none := by
  obtain ⟨_, ⟨rfl, _⟩ | ⟨j, row, rfl, _⟩⟩ := a
  · exact .inl rfl
  · exact .inr ⟨j, _, rfl⟩
theorem Acc.nil (T : TypeId) (h : Hp) : Acc T h h .nils [] := ⟨Gr.refl h, .inl ⟨rfl, rfl⟩⟩
theorem Acc.app {T z b : Nat} {h H : Hp} {v : AV} {es xs : List (List AV)} {next : AV → Hp → Prop} (a : Acc T h H v es) (hz : ∀ cs ∈ xs, cs.length = z) (hf : ∀ cs ∈ xs, flat cs = true) (hb : (es.length + xs.length) * b ≤ capMax) (hb2 : es.length + xs.length ≤ capMax)
    (k : ∀ v' H', Acc T h H' v' (es ++ xs) → (∀ x, H.u x = true → blkOf v ≠ some x → H' x = H x) → (∀ x, H.u x = true → H'.u x = true) → next v' H') : LAppE false T z b v xs H next := by
  refine ⟨hz, ?_⟩
  obtain ⟨gr, ⟨rfl, rfl⟩ | ⟨j, row, rfl, hj, hr, ht, hl⟩⟩ := a
  · by_cases h0 : xs = []
    · subst h0
      exact .inl ⟨rfl, k .nils H ⟨gr, .inl ⟨rfl, rfl⟩⟩ (fun _ _ _ => rfl) (fun _ h => h)⟩
    · refine .inr ⟨h0, by simpa using hb, by simpa using hb2, fun i hi => ?_⟩
      refine k (.slc i 0 xs.length none) (H.set i (.row T xs)) ⟨gr.set (gr.new hi.1) _, .inr ⟨i, xs, rfl, gr.new hi.1, Hp.set_same _ _ _, List.take_length, Nat.le_refl _⟩⟩ (fun x hx _ => Hp.set_ne (ne_of_u hx hi.1)) (fun x hx => by rw [Hp.set_u, hx]; simp)
  · refine ⟨row, hr, by omega, hf, ?_⟩
    by_cases h0 : xs = []
    · subst h0
      refine .inl ⟨rfl, k _ H ?_ (fun _ _ _ => rfl) (fun _ h => h)⟩
      rw [List.append_nil]
      exact ⟨gr, .inr ⟨j, row, rfl, hj, hr, ht, hl⟩⟩
    · refine .inr ⟨h0, hb, hb2, fun i hi => ?_⟩
      have e : (row.drop 0).take es.length ++ xs = es ++ xs := by rw [List.drop_zero, ht]
      have hjn : j ≠ i := ne_of_u (Hp.used hr) hi.1
      have := k (.slc i 0 (es ++ xs).length none) ((H.del j).set i (.row T (es ++ xs))) ⟨(gr.del hj).set (gr.new hi.1) _, .inr ⟨i, _, rfl, gr.new hi.1, Hp.set_same _ _ _, List.take_length, Nat.le_refl _⟩⟩
        (fun x hx hx2 => (Hp.set_ne (ne_of_u hx hi.1)).trans (Hp.del_ne fun e => hx2 (by rw [e]; rfl))) (fun x hx => by rw [Hp.set_u, Hp.del_u, hx]; simp)
      rw [List.length_append] at this
      rw [e]; exact this
theorem Acc.fz {p : Nat → Bool} {g T : Nat} {h H : Hp} {v : AV} {es : List (List AV)} (a : Acc T h H v es) (hn : noidss p es = true) : Fz p g H v (.isl g es) := by
  obtain ⟨_, ⟨rfl, rfl⟩ | ⟨j, row, rfl, _, hr, ht, hl⟩⟩ := a
  · exact .nilsI g
  · have get : ∀ (k : Nat) (cs cs' : List AV), row[0 + k]? = some cs → es[k]? = some cs' → cs' = cs := fun k cs cs' h1 h2 => by
      have hk := (List.getElem?_eq_some_iff.1 h2).1
      rw [← ht, List.getElem?_take_of_lt hk] at h2
      rw [Nat.zero_add, h2] at h1; cases h1; rfl
    refine .slc j 0 es.length none T row es hr (by omega) rfl (fun k cs cs' h1 h2 => by rw [get k cs cs' h1 h2]) (fun k cs cs' q u u' h1 h2 h3 h4 => ?_)
    obtain rfl := get k cs cs' h1 h2
    rw [h3] at h4; cases h4
    exact .same _ (noidss_get hn k cs' q u h2 h3)
theorem Acc.set {T : Nat} {h H : Hp} {v : AV} {es : List (List AV)} (a : Acc T h H v es) {i : Nat} (hi : H.u i = false) (b : Blk) : Acc T h (H.set i b) v es := by
  obtain ⟨gr, ⟨rfl, rfl⟩ | ⟨j, row, rfl, hj, hr, ht, hl⟩⟩ := a
  · exact ⟨gr.set (gr.new hi) _, .inl ⟨rfl, rfl⟩⟩
  · exact ⟨gr.set (gr.new hi) _, .inr ⟨j, row, rfl, hj, (Hp.set_ne (ne_of_u (Hp.used hr) hi)).trans hr, ht, hl⟩⟩
theorem Acc.keep {T : Nat} {h H H' : Hp} {v : AV} {es : List (List AV)} (a : Acc T h H v es) (g : Gr H H') : Acc T h H' v es := by
  obtain ⟨gr, ⟨rfl, rfl⟩ | ⟨j, row, rfl, hj, hr, ht, hl⟩⟩ := a
  · exact ⟨gr.trans g, .inl ⟨rfl, rfl⟩⟩
  · exact ⟨gr.trans g, .inr ⟨j, row, rfl, hj, g.blk hr, ht, hl⟩⟩

/-- What stands for something frozen does so in a heap that has grown. -/
theorem Fz.gr {p : Nat → Bool} {g : Nat} {h h' : Hp} (k : Gr h h') {v v' : AV} (f : Fz p g h v v') : Fz p g h' v v' := by
  induction f with
  | same v hp => exact .same v hp
  | slc i k0 n c T es es' hi hkn hl hz he ih => exact .slc i k0 n c T es es' (k.blk hi) hkn hl hz ih
  | ptr i k0 o T es cs cs' hi hk hl he ih => exact .ptr i k0 o T es cs cs' (k.blk hi) hk hl ih
  | agg cs cs' hl he ih => exact .agg cs cs' hl ih
  | tup cs cs' hl he ih => exact .tup cs cs' hl ih
  | ifc t v v' he ih => exact .ifc t v v' ih
  | func fn a a' b b' hla hlb ha hb ih1 ih2 => exact .func fn a a' b b' hla hlb ih1 ih2
  | islC g0 es es' hg hl hz he ih => exact .islC g0 es es' hg hl hz ih
  | nilsI g0 => exact .nilsI g0
  | empI g0 => exact .empI g0
  | iptrC g0 cs cs' o hg hl he ih => exact .iptrC g0 cs cs' o hg hl ih

/-! ### Maps whose keys are texts -/
def SKeys (es : MapL) : Prop := ∀ x ∈ es, ∃ s, x.1 = .str s
abbrev sget (es : MapL) (s : Str) : Option AV := mget (.str s) es
theorem SKeys.nil : SKeys [] := fun _ h => by cases h
theorem SKeys.like {es : MapL} (h : SKeys es) (s : Str) : KeysLike (.str s) es := fun x hx => by
  obtain ⟨t, ht⟩ := h x hx; rw [ht]; rfl
theorem sget_cons (t : Str) (v : AV) (c : Nat) (es : MapL) (s : Str) : sget ((.str t, v, c) :: es) s = if s = t then some v else sget es s := by
  by_cases h : s = t
  · subst h; simp [sget, mget, sameK, sameK1]
  · rw [if_neg h]
    have : (s == t) = false := by simpa using h
    simp [sget, mget, sameK, sameK1, this]
theorem SKeys.cons {x : AV × AV × Nat} {es : MapL} (h : SKeys (x :: es)) : (∃ s v c, x = (.str s, v, c)) ∧ SKeys es := by
  obtain ⟨s, hs⟩ := h x List.mem_cons_self
  exact ⟨⟨s, x.2.1, x.2.2, by rw [← hs]⟩, fun y hy => h y (List.mem_cons_of_mem _ hy)⟩
theorem SKeys.snoc {es : MapL} (h : SKeys es) (t : Str) (v : AV) (c : Nat) : SKeys (es ++ [(.str t, v, c)]) := fun x hx => by
  rcases List.mem_append.1 hx with hx | hx
  · exact h x hx
  · rw [List.mem_singleton.1 hx]; exact ⟨t, rfl⟩
theorem sget_snoc {es : MapL} (h : SKeys es) (t : Str) (v : AV) (c : Nat) (s : Str) : sget (es ++ [(.str t, v, c)]) s = match sget es s with
    | some u => some u
    | none => if s = t then some v else none := by
  induction es with
  | nil => rw [List.nil_append, sget_cons]; rfl
  | cons x es ih =>
    obtain ⟨⟨k, u, c', rfl⟩, h2⟩ := h.cons
    rw [List.cons_append, sget_cons, sget_cons, ih h2]
    by_cases e : s = k
    · rw [if_pos e, if_pos e]
    · rw [if_neg e, if_neg e]
theorem mmod_cons (t k : Str) (u v : AV) (c : Nat) (es : MapL) : mmod (.str t) v ((.str k, u, c) :: es) = if t = k then (.str t, v, c) :: es else (.str k, u, c) :: mmod (.str t) v es := by
  by_cases h : t = k
  · subst h; simp [mmod, sameK, sameK1]
  · rw [if_neg h]
    have : (t == k) = false := by simpa using h
    simp [mmod, sameK, sameK1, this]
theorem SKeys.mmod {es : MapL} (h : SKeys es) (t : Str) (v : AV) : SKeys (mmod (.str t) v es) := by
  induction es with
  | nil => exact h
  | cons x es ih =>
    obtain ⟨⟨k, u, c, rfl⟩, h2⟩ := h.cons
    rw [mmod_cons]
    split
    · exact fun y hy => by
        rcases List.mem_cons.1 hy with rfl | hy
        · exact ⟨t, rfl⟩
        · exact h2 y hy
    · exact fun y hy => by
        rcases List.mem_cons.1 hy with rfl | hy
        · exact ⟨k, rfl⟩
        · exact ih h2 y hy
theorem sget_mmod {es : MapL} (h : SKeys es) (t : Str) (v : AV) (hs : sget es t ≠ none) (s : Str) : sget (mmod (.str t) v es) s = if s = t then some v else sget es s := by
  induction es with
  | nil => exact absurd rfl hs
  | cons x es ih =>
    obtain ⟨⟨k, u, c, rfl⟩, h2⟩ := h.cons
    rw [mmod_cons]
    by_cases e : t = k
    · subst e
      rw [if_pos rfl, sget_cons, sget_cons]
      by_cases e2 : s = t
      · rw [if_pos e2, if_pos e2]
      · rw [if_neg e2, if_neg e2, if_neg e2]
    · rw [if_neg e, sget_cons, sget_cons]
      rw [sget_cons, if_neg e] at hs
      rw [ih h2 hs]
      by_cases e2 : s = k
      · subst e2
        rw [if_pos rfl, if_neg (Ne.symm e), if_pos rfl]
      · rw [if_neg e2, if_neg e2]
end Go.L

/-
  The logic L: a slice whose capacity the model chose: the call is looked at for every capacity, with cells behind of which nothing is known.
-/
namespace Go.L

/-- Everything but block i is as it was. -/
structure GrX (i : Nat) (h h' : Hp) : Prop where
  m : ∀ x, h.u x = true → x ≠ i → h' x = h x
  u : ∀ x, h.u x = true → h'.u x = true
theorem GrX.refl (i : Nat) (h : Hp) : GrX i h h := ⟨fun _ _ _ => rfl, fun _ h => h⟩
theorem GrX.set {i : Nat} {h h' : Hp} (k : GrX i h h') (b : Blk) : GrX i h (h'.set i b) :=
  ⟨fun x hx hi => (Hp.set_ne hi).trans (k.m x hx hi), fun x hx => by rw [Hp.set_u, k.u x hx]; simp⟩
theorem GrX.new {i j : Nat} {h h' : Hp} (k : GrX i h h') (hj : h'.u j = false) (b : Blk) : GrX i h (h'.set j b) :=
  ⟨fun x hx hi => (Hp.set_ne (ne_of_u (k.u x hx) hj)).trans (k.m x hx hi), fun x hx => by rw [Hp.set_u, k.u x hx]; simp⟩
theorem GrX.old {i j : Nat} {h h' : Hp} (k : GrX i h h') (hj : h.u j = false) (b : Blk) : GrX i h (h'.set j b) :=
  ⟨fun x hx hi => (Hp.set_ne (ne_of_u hx hj)).trans (k.m x hx hi), fun x hx => by rw [Hp.set_u, k.u x hx]; simp⟩

theorem GrX.trans {i : Nat} {a b c : Hp} (h : GrX i a b) (k : GrX i b c) : GrX i a c :=
  ⟨fun x hx hi => (k.m x (h.u x hx) hi).trans (h.m x hx hi), fun x hx => k.u x (h.u x hx)⟩
/-- What came of the slice: a row of its own, these elements; what lay at i is lost. -/
def InsQ (T : TypeId) (i : Nat) (h : Hp) (es : List (List AV)) (r : Res) (h' : Hp) : Prop :=
  ∃ j, r = .ret (.slc j 0 es.length none) ∧ h.u j = false ∧ h' j = some (.row T es) ∧ GrX i h h'

section
variable {P : Program}
theorem CallL.openCap {f : FuncId} {i n : Nat} {T : TypeId} {es es' : List (List AV)} {rest : List AV} {h : Hp} (hT : (P.info? T).map (·.size) = some 1) (hi : h i = some (.row T es)) (hn : n ≤ es.length)
    (k : ∀ c, n ≤ c → CallL P f (.slc i 0 n (some c) :: rest) (h.set i (.row T (es.take n ++ List.replicate (c - n) [.any]))) fun r h' =>
      (∃ sp, r = .ret (.slc i 0 es'.length (some c)) ∧ es'.length ≤ c ∧ h' i = some (.row T (es' ++ sp)) ∧ GrX i h h') ∨
      (∃ j, r = .ret (.slc j 0 es'.length none) ∧ h.u j = false ∧ h' j = some (.row T es') ∧ GrX i h h')) :
    CallL P f (.slc i 0 n none :: rest) h (InsQ T i h es') := by
  constructor
  intro σ M w args' hR hA
  obtain ⟨v0, hv0, hv⟩ := hA.2 0 _ rfl
  obtain ⟨L, a, c', rfl, hL, ha, hnc, hk, hu⟩ := hv.slc_inv
  have hu := hu rfl
  obtain ⟨C, F, hb, hsz, hLz, hcap, hes, hF⟩ := hR.blk i _ L hi hL
  have hz : L.z = 1 := by
    rw [hT] at hLz; exact (Option.some.inj hLz).symm
  rw [hz] at hcap hu
  -- the row with the cells behind
  have hR2 : R P σ M (h.set i (.row T (es.take n ++ List.replicate (c' - n) [.any]))) w := by
    refine hR.upd hi hL (fun _ _ => rfl) ⟨C, F, hb, hsz, hLz, ?_, fun k cs hk => ?_, hF⟩
    · rw [hz, List.length_append, List.length_take, List.length_replicate]; omega
    · by_cases hkn : k < n
      · rw [List.getElem?_append_left (by rw [List.length_take]; omega), List.getElem?_take_of_lt hkn] at hk
        exact hes k cs hk
      · have hkl := (List.getElem?_eq_some_iff.1 hk).1
        rw [List.length_append, List.length_take, List.length_replicate] at hkl
        rw [List.getElem?_append_right (by rw [List.length_take]; omega), List.getElem?_replicate] at hk
        split at hk
        · cases hk
          rw [hz, Nat.mul_one]
          refine ⟨⟨by rw [Array.size_extract]; show min (L.o + k + 1) C.size - (L.o + k) = 1; omega, fun j v hj => ?_⟩, rfl⟩
          cases j with
          | succ j => simp at hj
          | zero =>
            cases hj
            refine ⟨C.getD (L.o + k) undef, ?_, .any _⟩
            have hlt : L.o + k < C.size := by omega
            rw [Array.getElem?_extract, if_pos (by omega), Nat.add_zero]
            simp [Array.getD_eq_getD_getElem?, Array.getElem?_eq_getElem hlt]
        · cases hk
  have hA2 : VRs σ M (.slc i 0 n (some c') :: rest) args' := by
    refine ⟨hA.1, fun j v hj => ?_⟩
    cases j with
    | zero => cases hj; exact ⟨_, hv0, .slc i 0 n (some c') L a c' hL ha hnc (fun x hx => by cases hx; rfl) (fun h => by cases h)⟩
    | succ j => exact hA.2 (j + 1) v hj
  have hui : h.u i = true := Hp.used hi
  refine ((k c' hnc).run σ M w args' hR2 hA2).mono ?_
  rintro e w' ⟨σ', M', h1, hE, hR1, hend⟩
  cases e with
  | panicked ch => obtain ⟨v, v', _, _, ⟨_, e1, _⟩ | ⟨_, e1, _⟩⟩ := hend <;> cases e1
  | outgrown => exact hend.elim
  | returned v' =>
    obtain ⟨v, hvv, ⟨sp, e1, hle, hi1, hg⟩ | ⟨j, e1, hj, hj1, hg⟩⟩ := hend
    · cases e1
      have hL1 : σ' i = some L := hE.s i L hL
      obtain ⟨i2, hf2⟩ := h1.free
      have hσ2 : σ' i2 = none := hR1.fin i2 hf2.1
      have hne : i ≠ i2 := fun e => by rw [← e, hL1] at hσ2; cases hσ2
      obtain ⟨C1, F1, hb1, hsz1, _, hcap1, hes1, hF1⟩ := hR1.blk i _ L hi1 hL1
      have hd := hR1.del i
      have hp := hd.place (j := i2) (b := .row T es') (L := L) hσ2 (hR1.sep i _ L hi1 hL1)
        (fun x b L' hx hL' he => by
          by_cases e : x = i
          · subst e; simp at hx
          · rw [Hp.del_ne e] at hx; exact e (hR1.inj x i b _ L' L hx hi1 hL' hL1 he))
        (by
          refine BlkR.mono (σ := σ') (M := M') (w := w') (Emb.le_set hσ2) M'.le_refl (rfl) ⟨C1, F1, hb1, hsz1, hLz, ?_, fun k cs hk => ?_, hF1⟩
          · rw [List.length_append] at hcap1
            have : es'.length * L.z ≤ (es'.length + sp.length) * L.z := Nat.mul_le_mul_right _ (by omega)
            omega
          · exact hes1 k cs (by rw [List.getElem?_append_left (List.getElem?_eq_some_iff.1 hk).1]; exact hk))
        (hR1.al i _ L hi1 hL1)
      obtain ⟨L2, a2, c2, e2, hL2, ha2, hn2, hk2, _⟩ := hvv.slc_inv
      rw [hL1] at hL2; cases hL2
      obtain rfl := hk2 c' rfl
      refine ⟨σ'.set i2 L, M', (h1.del i).set i2 (.row T es'), hE.trans ⟨Emb.le_set hσ2, M'.le_refl, Nat.le_refl _, rfl, rfl, rfl⟩, hp, .slc i2 0 es'.length none, ?_, i2, rfl, ?_, Hp.set_same _ _ _, ?_⟩
      · rw [e2]
        exact .slc i2 0 es'.length none L a2 c2 (by simp) ha2 hn2 (fun x hx => by cases hx) (fun _ => by rw [hz]; omega)
      · cases hu2 : h.u i2 with
        | false => rfl
        | true => have := hg.u i2 hu2; rw [hf2.1] at this; cases this
      · refine ⟨fun x hx hxi => ?_, fun x hx => ?_⟩
        · rw [Hp.set_ne (ne_of_u (hg.u x hx) hf2.1), Hp.del_ne hxi]; exact hg.m x hx hxi
        · rw [Hp.set_u, Hp.del_u, hg.u x hx]; simp
    · cases e1
      exact ⟨σ', M', h1, hE, hR1, _, hvv, j, rfl, hj, hj1, hg⟩
end
end Go.L

/-
  The logic L, last part: from a contract to what a law's row asks.
-/
namespace Go.L
open Go.RowKit

/-- What the tables hold when the law begins. -/
def GlbW (P : Program) (w : World) : Prop := ∀ g3 g4, P.globalNamed "unicode/utf8.first" = some g3 → P.globalNamed "unicode/utf8.acceptRanges" = some g4 → Tabs8 g3 g4 w
theorem cell_same {w w' : World} {B i : Nat} {v : Value} (hB : ∀ o, w.heap[B]? = some o → w'.heap[B]? = some o) (h : w.cell? ⟨B, i, none⟩ = some v) : w'.cell? ⟨B, i, none⟩ = some v := by
  unfold World.cell? at h ⊢
  simp only at h ⊢
  cases ho : w.heap[B]? with
  | none => rw [ho] at h; cases h
  | some o => rw [hB o ho]; rw [ho] at h; exact h
theorem GlbW.glb {P : Program} {w : World} (h : GlbW P w) : Glb P (fun B => (w.heap[B]?).map fun o => (o, 0)) := fun g3 g4 h3 h4 w' hw => by
  have hb : ∀ B o, w.heap[B]? = some o → w'.heap[B]? = some o := fun B o ho => hw B (o, 0) (by simp only [ho, Option.map_some])
  obtain ⟨t1, t2⟩ := h g3 g4 h3 h4
  exact ⟨fun c hc => cell_same (hb _) (t1 c hc), fun i hi => ⟨cell_same (hb _) (t2 i hi).1, cell_same (hb _) (t2 i hi).2⟩⟩
theorem GlbW.none {P : Program} {w : World} (h : P.globalNamed "unicode/utf8.first" = none) : GlbW P w := fun g3 g4 h3 => by rw [h] at h3; cases h3

/-- A law that answers true: whatever the call makes, what was there stays. -/
theorem CallL.law {P : Program} {f : FuncId} {args : List AV} {args' : Array Value} {w : World} (k : CallL P f args Hp.nil fun r _ => r = .ret (.bool true))
    (hG : GlbW P w)
    (hA : VRs (fun _ => none) (fun B => (w.heap[B]?).map fun o => (o, 0)) args args') : Calls P f args' w fun e w' => e = .returned (.bool true) ∧ Below w.heap.size w w' := by
  have hR0 : R P (fun _ => none) (fun B => (w.heap[B]?).map fun o => (o, 0)) Hp.nil w :=
    ⟨fun _ _ => rfl, (fun i b hi => by cases hi), (fun B o hB => by simp only [Option.map_eq_some_iff] at hB; obtain ⟨o', h1, rfl⟩ := hB; exact h1), (fun i b L hi => by cases hi), (fun i j bi bj Li Lj hi => by cases hi), (fun i b L hi => by cases hi), (fun i b L hi => by cases hi), hG.glb⟩
  refine (callsIn_wide.1 (k.run _ _ w args' hR0 hA)).mono ?_
  rintro e w' ⟨σ', M', h', hE, hR', hend⟩
  refine ⟨?_, hE.os, hE.tape, hE.output, hE.size, fun B hB => ?_⟩
  · cases e with
    | returned v' =>
      obtain ⟨v, hv, e1⟩ := hend
      cases e1
      cases hv; rfl
    | panicked ch => obtain ⟨v, v', _, _, e1⟩ := hend; cases e1
    | outgrown => exact hend.elim
  · have h1 : w.heap[B]? = some w.heap[B] := Array.getElem?_eq_getElem hB
    rw [h1]; exact hR'.mem B (w.heap[B], 0) (hE.m B _ (by simp only [h1, Option.map_some]))
end Go.L
