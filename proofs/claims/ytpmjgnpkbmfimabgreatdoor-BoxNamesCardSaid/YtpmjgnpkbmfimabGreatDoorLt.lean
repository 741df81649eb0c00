/-
  The logic L, part t: maps (keys: texts, numbers, yes or no).
-/
import Derived.Test.YtpmjgnpkbmfimabGreatDoorLh
import Derived.MapKept
namespace Go.L

/-- A plain key of that type. -/
def keyOf1 (d : TypeDesc) : AV → Bool
  | .str _ => match d with | .string => true | _ => false
  | .int _ _ => match d with | .int _ => true | _ => false
  | .bool _ => match d with | .bool => true | _ => false
  | _ => false

def kc : TypeDesc → Option Nat
  | .string => some 0
  | .int _ => some 1
  | .bool => some 2
  | _ => none

/-- A key's kind. -/
def mkOf (P : Program) (t : TypeId) (d : TypeDesc) : Option MK :=
  match d with
  | .string => some .s
  | .int _ => some .i
  | .bool => some .b
  | .struct fs => match fs.toList with
    | [f, g] => match P.underlying f.type, P.underlying g.type with
      | some d1, some d2 => match kc d1, kc d2 with
        | some x, some y => match (Nat.beq f.offset 0 && Nat.beq g.offset 1) && ((f.name != "_" && g.name != "_") && !(P.stoodInHeld t)) with
          | true => some (.a x y)
          | false => none
        | _, _ => none
      | _, _ => none
    | _ => none
  | _ => none

/-- A key of two plain ones. -/
structure KeyS (P : Program) (t : TypeId) (d : TypeDesc) (k : AV) (f g : Field) (d1 d2 : TypeDesc) (p q : AV) : Prop where
  d : d = .struct #[f, g]
  t1 : P.underlying f.type = some d1
  t2 : P.underlying g.type = some d2
  o1 : f.offset = 0
  o2 : g.offset = 1
  n1 : f.name ≠ "_"
  n2 : g.name ≠ "_"
  s : P.stoodInHeld t = false
  k : k = .agg [p, q]
  k1 : keyOf1 d1 p = true
  k2 : keyOf1 d2 q = true

/-- A key of that type. -/
def keyOf (P : Program) (t : TypeId) (d : TypeDesc) (k : AV) : Prop := keyOf1 d k = true ∨ ∃ f g d1 d2 p q, KeyS P t d k f g d1 d2 p q

theorem kc_ok {d : TypeDesc} {x : Nat} {k : AV} (hd : kc d = some x) (hk : keyC x k = true) : keyOf1 d k = true := by
  unfold kc at hd
  split at hd <;> cases hd <;> (cases k <;> first | rfl | (exact absurd hk (by simp [keyC])))

theorem keyM_ok {P : Program} {t : TypeId} {d : TypeDesc} {m : MK} {k : AV} (hd : mkOf P t d = some m) (hk : keyM m k = true) : keyOf P t d k := by
  unfold mkOf at hd
  split at hd <;> first | cases hd | skip
  · exact .inl (by cases k <;> first | rfl | (exact absurd hk (by simp [keyM])))
  · exact .inl (by cases k <;> first | rfl | (exact absurd hk (by simp [keyM])))
  · exact .inl (by cases k <;> first | rfl | (exact absurd hk (by simp [keyM])))
  · rename_i fs
    split at hd <;> first | cases hd | skip
    rename_i f g hfs
    split at hd <;> first | cases hd | skip
    rename_i d1 d2 h1 h2
    split at hd <;> first | cases hd | skip
    rename_i x y h3 h4
    split at hd <;> cases hd
    rename_i hc
    simp only [Bool.and_eq_true, bne_iff_ne, ne_eq, Bool.not_eq_true'] at hc
    simp only [keyM] at hk
    split at hk <;> first | cases hk | skip
    rename_i p q
    simp only [Bool.and_eq_true] at hk
    exact .inr ⟨f, g, d1, d2, p, q, by rw [← Array.toArray_toList (xs := fs), hfs], h1, h2, Nat.eq_of_beq_eq_true hc.1.1, Nat.eq_of_beq_eq_true hc.1.2, hc.2.1.1, hc.2.1.2, hc.2.2, rfl, kc_ok h3 hk.1, kc_ok h4 hk.2⟩

section
variable {P : Program} {σ σ' : Emb} {M M' : Mem} {h : Hp} {w w' : World}

/-- An entry stands for one. -/
structure EntR (σ : Emb) (M : Mem) (x : AV × AV × Nat) (e : MapEntry) : Prop where
  k : VR σ M x.1 e.key
  v : VR σ M x.2.1 e.val
  n : e.born = x.2.2

inductive EntsR (σ : Emb) (M : Mem) : MapL → List MapEntry → Prop
  | nil : EntsR σ M [] []
  | cons {x : AV × AV × Nat} {e : MapEntry} {l : MapL} {m : List MapEntry} (h : EntR σ M x e) (t : EntsR σ M l m) : EntsR σ M (x :: l) (e :: m)

theorem EntsR.len {l : MapL} {m : List MapEntry} (h : EntsR σ M l m) : m.length = l.length := by
  induction h with
  | nil => rfl
  | cons _ _ ih => simp [ih]
theorem EntsR.get {l : MapL} {m : List MapEntry} (h : EntsR σ M l m) : ∀ (j : Nat) (k v : AV) (n : Nat), l[j]? = some (k, v, n) → ∃ e, m[j]? = some e ∧ VR σ M k e.key ∧ VR σ M v e.val ∧ e.born = n := by
  induction h with
  | nil => intro j k v n hj; simp at hj
  | cons hx _ ih =>
    intro j k v n hj
    cases j with
    | zero => simp at hj; subst hj; exact ⟨_, rfl, hx.k, hx.v, hx.n⟩
    | succ j => exact ih j k v n (by simpa using hj)
theorem EntsR.of : ∀ {l : MapL} {m : List MapEntry}, m.length = l.length → (∀ (j : Nat) (k v : AV) (n : Nat), l[j]? = some (k, v, n) → ∃ e, m[j]? = some e ∧ VR σ M k e.key ∧ VR σ M v e.val ∧ e.born = n) → EntsR σ M l m
  | [], [], _, _ => .nil
  | x :: l, [], h, _ => by simp at h
  | [], e :: m, h, _ => by simp at h
  | x :: l, e :: m, h, hg => by
    obtain ⟨e', h1, h2, h3, h4⟩ := hg 0 x.1 x.2.1 x.2.2 rfl
    simp at h1; subst h1
    exact .cons ⟨h2, h3, h4⟩ (EntsR.of (by simpa using h) fun j k v n hj => hg (j + 1) k v n (by simpa using hj))

theorem sameK1_ok {k x : AV} {k' x' : Value} {b : Bool} (hb : sameK1 k x = some b) (hk : VR σ M k k') (hx : VR σ M x x') {d : TypeDesc} (hd : keyOf1 d k = true) : Instr.sameNow d k' x' = some b := by
  unfold sameK1 at hb
  split at hb
  · obtain ⟨s, rfl, rfl⟩ := hk.str_inv
    obtain ⟨t, rfl, rfl⟩ := hx.str_inv
    cases d <;> simp only [keyOf1] at hd <;> first | cases hd | skip
    cases hb
    simp [Instr.sameNow]
    first | rfl | (rw [Bool.eq_iff_iff]; simp [ByteArray.ext_iff])
  · rename_i k1 a k2 b1
    cases hik : ikeq k1 k2 with
    | false => rw [hik] at hb; cases hb
    | true =>
      obtain rfl := ikeq_ok hik
      rw [hik] at hb; cases hb
      rw [hk.int_inv, hx.int_inv]
      cases d <;> simp only [keyOf1] at hd <;> first | cases hd | skip
      simp [Instr.sameNow]
  · rw [hk.bool_inv, hx.bool_inv]
    cases d <;> simp only [keyOf1] at hd <;> first | cases hd | skip
    cases hb
    simp [Instr.sameNow]
  · cases hb

theorem sameK_base {k x : AV} {d : TypeDesc} (hd : keyOf1 d k = true) : sameK k x = sameK1 k x := by
  cases k <;> first | rfl | (simp [keyOf1] at hd)

theorem findNow_ok {k : AV} {k' : Value} (hk : VR σ M k k') {d : TypeDesc} (hd : keyOf1 d k = true) : ∀ {es : MapL} {m : List MapEntry}, EntsR σ M es m → KeysLike k es → ∀ i,
    (midx k es = none ∧ mget k es = none ∧ Instr.findNow d k' m i = some none) ∨ (∃ j v v', midx k es = some j ∧ mget k es = some v ∧ VR σ M v v' ∧ Instr.findNow d k' m i = some (some (i + j, v'))) := by
  intro es m h
  induction h with
  | nil => intro _ i; exact .inl ⟨rfl, rfl, rfl⟩
  | @cons x e l m hx _ ih =>
    intro hl i
    obtain ⟨b, hb⟩ := Option.isSome_iff_exists.1 (hl x List.mem_cons_self)
    have hs := sameK1_ok (by rw [← sameK_base hd]; exact hb) hk hx.k hd
    cases b with
    | true => exact .inr ⟨0, _, _, by simp [midx, hb], by simp [mget, hb], hx.v, by simp [Instr.findNow, hs]⟩
    | false =>
      rcases ih (fun y hy => hl y (List.mem_cons_of_mem _ hy)) (i + 1) with ⟨h1, h2, h3⟩ | ⟨j, v, v', h1, h2, h3, h4⟩
      · exact .inl ⟨by simp [midx, hb, h1], by simp [mget, hb, h2], by simp [Instr.findNow, hs, h3]⟩
      · exact .inr ⟨j + 1, v, v', by simp [midx, hb, h1], by simp [mget, hb, h2], h3, by simp [Instr.findNow, hs, h4]; omega⟩

theorem keyOf_D {d : TypeDesc} {k : AV} (h : keyOf1 d k = true) : (d = .string ∨ (∃ i, d = .int i) ∨ d = .bool) := by
  unfold keyOf1 at h
  split at h <;> first | cases h | skip
  · split at h <;> first | exact .inl rfl | cases h
  · split at h <;> first | exact .inr (.inl ⟨_, rfl⟩) | cases h
  · split at h <;> first | exact .inr (.inr rfl) | cases h

theorem keyOf_agg {d : TypeDesc} {k : AV} (h : keyOf1 d k = true) : isAggD d = false := by
  rcases keyOf_D h with rfl | ⟨i, rfl⟩ | rfl <;> rfl

theorem run_part1 {t : TypeId} {d : TypeDesc} (ht : P.underlying t = some d) {k : AV} (hd : keyOf1 d k = true) {cs : Array Value} {j : Nat} {v : Value} (hv : cs[j]? = some v) (w : World) : (part t cs j).run P w = .ok v w := by
  simp only [part, Sem.run_bind, run_isAgg ht, Result.andThen, keyOf_agg hd, hv, Sem.run_pure, Bool.false_eq_true, if_false]

theorem run_equalIn1 {t : TypeId} {d : TypeDesc} (ht : P.underlying t = some d) {k x : AV} (hd : keyOf1 d k = true) {b : Bool} (hb : sameK1 k x = some b) {k' x' : Value} (hk : VR σ M k k') (hx : VR σ M x x') (n : Nat) (w : World) : (Op.equalIn (n + 1) t k' x').run P w = .ok b w := by
  unfold sameK1 at hb
  split at hb
  · obtain ⟨s, rfl, rfl⟩ := hk.str_inv
    obtain ⟨t, rfl, rfl⟩ := hx.str_inv
    cases d <;> simp only [keyOf1] at hd <;> first | cases hd | skip
    have h1 : Instr.sameNow .string (.string s) (.string t) = some b := sameK1_ok (d := .string) (show sameK1 (.str s.data.toList) (.str t.data.toList) = some b from hb) hk hx rfl
    have h2 : (s == t) = b := Option.some.inj h1
    simp only [Op.equalIn, Sem.run_bind, run_underlying ht, Result.andThen, Sem.run_pure, h2]
  · rename_i k1 a k2 b1
    cases hik : ikeq k1 k2 with
    | false => rw [hik] at hb; cases hb
    | true =>
      obtain rfl := ikeq_ok hik
      rw [hik] at hb; cases hb
      rw [hk.int_inv, hx.int_inv]
      cases d <;> simp only [keyOf1] at hd <;> first | cases hd | skip
      simp [Op.equalIn, run_underlying ht]
  · rw [hk.bool_inv, hx.bool_inv]
    cases d <;> simp only [keyOf1] at hd <;> first | cases hd | skip
    cases hb
    simp [Op.equalIn, run_underlying ht]
  · cases hb

theorem run_checkKey1 {t : TypeId} {d : TypeDesc} (ht : P.underlying t = some d) {k : AV} (hd : keyOf1 d k = true) (b : Bool) (n : Nat) (v : Value) (w : World) : (Instr.checkKey b (n + 1) t v).run P w = .ok () w := by
  rcases keyOf_D hd with rfl | ⟨i, rfl⟩ | rfl <;> simp [Instr.checkKey, run_underlying ht]

theorem agg2_inv {p q : AV} {v : Value} (hv : VR σ M (.agg [p, q]) v) : ∃ p' q', v = .agg #[p', q'] ∧ VR σ M p p' ∧ VR σ M q q' := by
  obtain ⟨a, rfl, ha⟩ := hv.agg_inv
  obtain ⟨p', h1, h2⟩ := ha.2 0 p rfl
  obtain ⟨q', h3, h4⟩ := ha.2 1 q rfl
  refine ⟨p', q', ?_, h2, h4⟩
  have hs := ha.1
  congr 1
  refine Array.ext (by simpa using hs) fun i h5 h6 => ?_
  have : i = 0 ∨ i = 1 := by simp at h6; omega
  rcases this with rfl | rfl
  · simpa using (Array.getElem?_eq_some_iff.1 h1).2
  · simpa using (Array.getElem?_eq_some_iff.1 h3).2

theorem run_checkKey {t : TypeId} {d : TypeDesc} (ht : P.underlying t = some d) {k : AV} {v : Value} (hd : keyOf P t d k) (hv : VR σ M k v) (b : Bool) (w : World) : (Instr.checkKey b 10000 t v).run P w = .ok () w := by
  rcases hd with hd | ⟨f, g, d1, d2, p, q, hs⟩
  · exact run_checkKey1 ht hd b 9999 v w
  · obtain ⟨rfl, t1, t2, o1, o2, n1, n2, s, rfl, k1, k2⟩ := hs
    obtain ⟨p', q', rfl, hp, hq⟩ := agg2_inv hv
    have c1 := run_checkKey1 t1 k1 b 9998 p' w
    have c2 := run_checkKey1 t2 k2 b 9998 q' w
    have e1 := run_part1 (cs := #[p', q']) (j := 0) t1 k1 rfl w
    have e2 := run_part1 (cs := #[p', q']) (j := 1) t2 k2 rfl w
    show (Instr.checkKey b (9998 + 1 + 1) t (.agg #[p', q'])).run P w = .ok () w
    generalize 9998 + 1 = N at c1 c2 ⊢
    have l1 : #[p', q'][0] = p' := rfl
    have l2 : #[p', q'][1] = q' := rfl
    rw [l1] at e1; rw [l2] at e2
    simp [Instr.checkKey, run_underlying ht, n1, n2, o1, o2, e1, e2, c1, c2]

theorem run_equalS {t : TypeId} {d : TypeDesc} (ht : P.underlying t = some d) {k x : AV} {k' x' : Value} {f g : Field} {d1 d2 : TypeDesc} {p q : AV} (hs : KeyS P t d k f g d1 d2 p q) (hk : VR σ M k k') (hx : VR σ M x x') {b : Bool} (hb : sameK k x = some b) (w : World) :
    (Op.equal t k' x').run P w = .ok b w := by
  obtain ⟨rfl, t1, t2, o1, o2, n1, n2, s, rfl, k1, k2⟩ := hs
  obtain ⟨p', q', rfl, hp, hq⟩ := agg2_inv hk
  unfold sameK at hb
  split at hb
  · rename_i a b' c' d' heq
    cases heq
    split at hb <;> cases hb
    rename_i u y h1 h2
    obtain ⟨x1, x2, rfl, hx1, hx2⟩ := agg2_inv hx
    have c1 := run_equalIn1 t1 k1 h1 hp hx1 9998 w
    have c2 := run_equalIn1 t2 k2 h2 hq hx2 9998 w
    have e1 := run_part1 (cs := #[p', q']) (j := 0) t1 k1 rfl w
    have e2 := run_part1 (cs := #[p', q']) (j := 1) t2 k2 rfl w
    have e3 := run_part1 (cs := #[x1, x2]) (j := 0) t1 k1 rfl w
    have e4 := run_part1 (cs := #[x1, x2]) (j := 1) t2 k2 rfl w
    have hp : (program).run P w = .ok P w := rfl
    show (Op.equalIn (9998 + 1 + 1) t _ _).run P w = _
    generalize 9998 + 1 = N at c1 c2 ⊢
    have l1 : #[p', q'][0] = p' := rfl
    have l2 : #[p', q'][1] = q' := rfl
    have l3 : #[x1, x2][0] = x1 := rfl
    have l4 : #[x1, x2][1] = x2 := rfl
    rw [l1] at e1; rw [l2] at e2; rw [l3] at e3; rw [l4] at e4
    cases u <;> cases y <;> simp [Op.equalIn, run_underlying ht, hp, s, n1, n2, o1, o2, e1, e2, e3, e4, c1, c2]
  · rename_i h1
    cases hb

theorem findAsking_ok {t : TypeId} {d : TypeDesc} (ht : P.underlying t = some d) {k : AV} {k' : Value} {f g : Field} {d1 d2 : TypeDesc} {p q : AV} (hs : KeyS P t d k f g d1 d2 p q) (hk : VR σ M k k') (w : World) : ∀ {es : MapL} {m : List MapEntry}, EntsR σ M es m → KeysLike k es → ∀ i,
    (midx k es = none ∧ mget k es = none ∧ (Instr.findAsking t k' m i).run P w = .ok none w) ∨ (∃ j v v', midx k es = some j ∧ mget k es = some v ∧ VR σ M v v' ∧ (Instr.findAsking t k' m i).run P w = .ok (some (i + j, v')) w) := by
  intro es m h
  induction h with
  | nil => intro _ i; exact .inl ⟨rfl, rfl, by simp [Instr.findAsking]⟩
  | @cons x e l m hx _ ih =>
    intro hl i
    obtain ⟨b, hb⟩ := Option.isSome_iff_exists.1 (hl x List.mem_cons_self)
    have hs := run_equalS ht hs hk hx.k hb w
    cases b with
    | true => exact .inr ⟨0, _, _, by simp [midx, hb], by simp [mget, hb], hx.v, by simp [Instr.findAsking, hs]⟩
    | false =>
      rcases ih (fun y hy => hl y (List.mem_cons_of_mem _ hy)) (i + 1) with ⟨h1, h2, h3⟩ | ⟨j, v, v', h1, h2, h3, h4⟩
      · exact .inl ⟨by simp [midx, hb, h1], by simp [mget, hb, h2], by simp [Instr.findAsking, hs, h3]⟩
      · exact .inr ⟨j + 1, v, v', by simp [midx, hb, h1], by simp [mget, hb, h2], h3, by simp [Instr.findAsking, hs, h4]; omega⟩

theorem run_findKey {t : TypeId} {d : TypeDesc} (ht : P.underlying t = some d) {k : AV} {k' : Value} (hk : VR σ M k k') (hd : keyOf P t d k) {es : MapL} {m : List MapEntry} (he : EntsR σ M es m) (hl : KeysLike k es) (w : World) :
    (midx k es = none ∧ mget k es = none ∧ (Instr.findKey t k' m).run P w = .ok none w) ∨ (∃ j v v', midx k es = some j ∧ mget k es = some v ∧ VR σ M v v' ∧ (Instr.findKey t k' m).run P w = .ok (some (j, v')) w) := by
  rcases hd with hd | ⟨f, g, d1, d2, p, q, hs⟩
  · rcases findNow_ok hk hd he hl 0 with ⟨h1, h2, h3⟩ | ⟨j, v, v', h1, h2, h3, h4⟩
    · exact .inl ⟨h1, h2, by simp [Instr.findKey, run_underlying ht, h3]⟩
    · exact .inr ⟨j, v, v', h1, h2, h3, by simp [Instr.findKey, run_underlying ht, h4]⟩
  · cases he with
    | nil => exact .inl ⟨rfl, rfl, by simp [Instr.findKey, run_underlying ht, Instr.findNow]⟩
    | cons hx he2 =>
      have hnow : ∀ e l, Instr.findNow d k' (e :: l) 0 = none := fun e l => by
        have := hs.d; subst this; simp [Instr.findNow, Instr.sameNow]
      rcases findAsking_ok ht hs hk w (.cons hx he2) hl 0 with ⟨h1, h2, h3⟩ | ⟨j, v, v', h1, h2, h3, h4⟩
      · exact .inl ⟨h1, h2, by simp [Instr.findKey, run_underlying ht, hnow, h3]⟩
      · exact .inr ⟨j, v, v', h1, h2, h3, by simp [Instr.findKey, run_underlying ht, hnow, h4]⟩

/-- A map of the logic, in the state. -/
theorem R.mapAt (hR : R P σ M h w) {i : Nat} {es : MapL} {c : Nat} {L : Loc} (hi : h i = some (.map es c)) (hL : σ i = some L) : ∃ m : Array MapEntry, w.heap[L.b]? = some (.map m c) ∧ EntsR σ M es m.toList := by
  obtain ⟨m, h1, h2, h3⟩ := hR.blk i _ L hi hL
  refine ⟨m, h1, EntsR.of (by simpa using h2) fun j k v n hj => ?_⟩
  obtain ⟨e, e1, e2⟩ := h3 j k v n hj
  exact ⟨e, by simpa using e1, e2⟩

theorem BlkR.ofEnts {L : Loc} {es : MapL} {c : Nat} {m : Array MapEntry} (hb : w.heap[L.b]? = some (.map m c)) (he : EntsR σ M es m.toList) : BlkR P σ M w L (.map es c) := by
  refine ⟨m, hb, by simpa using he.len, fun j k v n hj => ?_⟩
  obtain ⟨e, e1, e2⟩ := he.get j k v n hj
  exact ⟨e, by simpa using e1, e2⟩

theorem VR.map_inv {i : Nat} {v : Value} (hv : VR σ M (.map i) v) : ∃ L, σ i = some L ∧ v = .map (some L.b) := by
  cases hv with | map _ L h => exact ⟨L, h, rfl⟩

theorem run_lookup (hR : R P σ M h w) {T kt et : TypeId} {d : TypeDesc} {zi : TypeInfo} {zv : Value} {z : AV} (hT : P.underlying T = some (.map kt et)) (hkt : P.underlying kt = some d) (hz : P.info? et = some zi) (hzv : zi.zero = some zv) (hzz : VR σ M z zv)
    {i : Nat} {es : MapL} {c : Nat} {x k' : Value} {k : AV} (hi : h i = some (.map es c)) (hx : VR σ M (.map i) x) (hk : VR σ M k k') (hd : keyOf P kt d k) (hl : KeysLike k es) (ok : Bool) :
    ∃ v', VR σ M (cond ok (.tup [(mget k es).getD z, .bool (mget k es).isSome]) ((mget k es).getD z)) v' ∧ (Instr.lookup T x k' ok).run P w = .ok v' w := by
  obtain ⟨L, hL, rfl⟩ := hx.map_inv
  obtain ⟨m, hm, he⟩ := hR.mapAt hi hL
  have hg : (getObj L.b).run P w = .ok (.map m c) w := by simp [getObj, Sem.run, hm]
  have hc := run_checkKey (P := P) hkt hd hk m.isEmpty w
  rcases run_findKey (P := P) hkt hk hd he hl w with ⟨h1, h2, h3⟩ | ⟨j, v, v', h1, h2, h3, h4⟩
  · refine ⟨if ok then .tuple #[zv, .bool false] else zv, ?_, ?_⟩
    · rw [h2]
      cases ok with
      | true => exact VR.tup' (VRs.cons hzz (VRs.cons (.bool _) .nil))
      | false => exact hzz
    · cases ok <;> simp [Instr.lookup, run_underlying hT, hg, hc, h3, zeroValue, run_typeInfo' hz, hzv]
  · refine ⟨if ok then .tuple #[v', .bool true] else v', ?_, ?_⟩
    · rw [h2]
      cases ok with
      | true => exact VR.tup' (VRs.cons h3 (VRs.cons (.bool _) .nil))
      | false => exact h3
    · cases ok <;> simp [Instr.lookup, run_underlying hT, hg, hc, h4]

theorem run_lookup_nil {T kt et : TypeId} {d : TypeDesc} {zi : TypeInfo} {zv : Value} {z : AV} (hT : P.underlying T = some (.map kt et)) (hkt : P.underlying kt = some d) (hz : P.info? et = some zi) (hzv : zi.zero = some zv) (hzz : VR σ M z zv)
    {k' : Value} {k : AV} (hd : keyOf P kt d k) (hk : VR σ M k k') (ok : Bool) :
    ∃ v', VR σ M (cond ok (.tup [z, .bool false]) z) v' ∧ (Instr.lookup T (.map none) k' ok).run P w = .ok v' w := by
  have hc := run_checkKey (P := P) hkt hd hk true w
  have hf : (Instr.findKey kt k' []).run P w = .ok none w := by simp [Instr.findKey, run_underlying hkt, Instr.findNow]
  refine ⟨if ok then .tuple #[zv, .bool false] else zv, ?_, ?_⟩
  · cases ok with
    | true => exact VR.tup' (VRs.cons hzz (VRs.cons (.bool _) .nil))
    | false => exact hzz
  · cases ok <;> simp [Instr.lookup, run_underlying hT, hc, hf, zeroValue, run_typeInfo' hz, hzv]

theorem sameBits1_ok {k x : AV} {k' x' : Value} (hb : sameK1 k x = some true) (hk : VR σ M k k') (hx : VR σ M x x') (n : Nat) : Instr.sameBits n x' k' = true := by
  unfold sameK1 at hb
  split at hb
  · obtain ⟨s, rfl, rfl⟩ := hk.str_inv
    obtain ⟨t, rfl, rfl⟩ := hx.str_inv
    have h1 : s.data.toList = t.data.toList := by simpa using hb
    have h2 : s = t := by cases s; cases t; simp at h1; subst h1; rfl
    subst h2
    have hss : (s == s) = true := by first | exact beq_self_eq_true s | (show (s.data == s.data) = true; simp)
    cases n <;> simp [Instr.sameBits, hss]
  · rename_i k1 a k2 b1
    cases hik : ikeq k1 k2 with
    | false => rw [hik] at hb; cases hb
    | true =>
      obtain rfl := ikeq_ok hik
      rw [hik] at hb
      have h1 : a = b1 := by simpa using hb
      subst h1
      rw [hk.int_inv, hx.int_inv]
      cases n <;> simp [Instr.sameBits]
  · have h1 := hb
    rw [hk.bool_inv, hx.bool_inv]
    simp at h1
    subst h1
    cases n <;> simp [Instr.sameBits]
  · cases hb

theorem sameBits_ok {k x : AV} {k' x' : Value} (hb : sameK k x = some true) (hk : VR σ M k k') (hx : VR σ M x x') (n : Nat) : Instr.sameBits (n + 1) x' k' = true := by
  unfold sameK at hb
  split at hb
  · split at hb <;> first | cases hb | skip
    rename_i u y h1 h2
    have huy : (u && y) = true := Option.some.inj hb
    obtain ⟨p', q', rfl, hp, hq⟩ := agg2_inv hk
    obtain ⟨x1, x2, rfl, hx1, hx2⟩ := agg2_inv hx
    simp only [Bool.and_eq_true] at huy
    obtain ⟨rfl, rfl⟩ := huy
    simp [Instr.sameBits, sameBits1_ok h1 hp hx1, sameBits1_ok h2 hq hx2]
  · exact sameBits1_ok hb hk hx _

theorem midx_get {k : AV} : ∀ {es : MapL} {j : Nat}, midx k es = some j → ∃ x, es[j]? = some x ∧ sameK k x.1 = some true := by
  intro es
  induction es with
  | nil => intro j h; cases h
  | cons x es ih =>
    intro j h
    unfold midx at h
    split at h
    · rename_i hs; cases h; exact ⟨x, rfl, hs⟩
    · obtain ⟨j', h1, rfl⟩ := Option.map_some_inv h
      obtain ⟨y, h2, h3⟩ := ih h1
      exact ⟨y, by simpa using h2, h3⟩

theorem mmod_ok {k v : AV} {k' v' : Value} (hk : VR σ M k k') (hv : VR σ M v v') : ∀ {es : MapL} {m : List MapEntry} {j : Nat}, EntsR σ M es m → midx k es = some j → EntsR σ M (mmod k v es) (m.modify j fun e => { e with key := k', val := v' }) := by
  intro es m j h
  induction h generalizing j with
  | nil => intro h; cases h
  | @cons x e l m hx ht ih =>
    intro hj
    unfold midx at hj
    unfold mmod
    split at hj
    · rename_i hs
      cases hj
      simp only [hs, List.modify_cons, if_pos]
      exact .cons ⟨hk, hv, hx.n⟩ ht
    · rename_i hs
      obtain ⟨j', h1, rfl⟩ := Option.map_some_inv hj
      rw [List.modify_succ_cons]
      exact .cons hx (ih h1)

theorem EntsR.snoc {l : MapL} {m : List MapEntry} (h : EntsR σ M l m) {x : AV × AV × Nat} {e : MapEntry} (hx : EntR σ M x e) : EntsR σ M (l ++ [x]) (m ++ [e]) := by
  induction h with
  | nil => exact .cons hx .nil
  | cons hy _ ih => exact .cons hy ih

/-- The map with v at k. -/
theorem run_mapUpdate (hR : R P σ M h w) {T kt et : TypeId} {d : TypeDesc} (hT : P.underlying T = some (.map kt et)) (hkt : P.underlying kt = some d)
    {i : Nat} {es : MapL} {c : Nat} {x k' v' : Value} {k v : AV} (hi : h i = some (.map es c)) (hx : VR σ M (.map i) x) (hk : VR σ M k k') (hv : VR σ M v v') (hd : keyOf P kt d k) (hl : KeysLike k es) :
    ∃ w', (Instr.mapUpdate T x k' v').run P w = .ok () w' ∧ Ext σ M w σ M w' ∧ R P σ M (h.set i (match mget k es with | some _ => .map (mmod k v es) c | none => .map (es ++ [(k, v, c)]) (c + 1))) w' := by
  obtain ⟨L, hL, rfl⟩ := hx.map_inv
  obtain ⟨m, hm, he⟩ := hR.mapAt hi hL
  have hlt := hR.placed hi hL
  have hg : (getObj L.b).run P w = .ok (.map m c) w := by simp [getObj, Sem.run, hm]
  have hs : ∀ o, (setObj L.b o).run P w = .ok () { w with heap := w.heap.setIfInBounds L.b o } := fun o => by simp [setObj, Sem.run, hm]
  have hc := run_checkKey (P := P) hkt hd hk false w
  have at_ : ∀ o, ({ w with heap := w.heap.setIfInBounds L.b o } : World).heap[L.b]? = some o := fun o => by simp [hlt]
  have oth : ∀ o B, B ≠ L.b → ({ w with heap := w.heap.setIfInBounds L.b o } : World).heap[B]? = w.heap[B]? := fun o B hB => by
    simp [Array.getElem?_setIfInBounds, Ne.symm hB]
  have ext : ∀ o, Ext σ M w σ M { w with heap := w.heap.setIfInBounds L.b o } := fun o => ⟨σ.le_refl, M.le_refl, by simp, rfl, rfl, rfl⟩
  rcases run_findKey (P := P) hkt hk hd he hl w with ⟨h1, h2, h3⟩ | ⟨j, u, u', h1, h2, h3, h4⟩
  · refine ⟨_, ?_, ext (.map (m.push { key := k', val := v', born := c }) (c + 1)), ?_⟩
    · simp [Instr.mapUpdate, run_underlying hT, hg, hc, h3, hs]
    · rw [h2]
      refine hR.upd hi hL (oth _) (BlkR.ofEnts (at_ _) ?_)
      rw [Array.toList_push]
      exact he.snoc ⟨hk, hv, rfl⟩
  · obtain ⟨y, hy, hys⟩ := midx_get h1
    obtain ⟨e, e1, e2, _⟩ := he.get j y.1 y.2.1 y.2.2 hy
    have hstay : (Instr.keyThatStays (((m[j]?).map (·.key)).getD k') k').run P w = .ok k' w := by
      rw [Array.getElem?_toList] at e1
      simp [e1, Instr.keyThatStays, sameBits_ok hys hk e2 9999]
    refine ⟨_, ?_, ext (.map (m.modify j fun e => { e with key := k', val := v' }) c), ?_⟩
    · simp [Instr.mapUpdate, run_underlying hT, hg, hc, h4, hs, hstay]
    · rw [h2]
      refine hR.upd hi hL (oth _) (BlkR.ofEnts (at_ _) ?_)
      rw [Array.toList_modify]
      exact mmod_ok hk hv he h1
end
end Go.L
