/-
  The logic L, part s2: what a call makes is taken over, under new numbers.
-/
import Derived.Test.YtpmjgnpkbmfimabGreatDoorLs
namespace Go.L

mutual
/-- All marks are 0. -/
def m0 : AV → Bool
  | .iptr g cs _ => Nat.beq g 0 && m0s cs
  | .isl g es => Nat.beq g 0 && m0ss es
  | .func _ a b => m0s a && m0s b
  | .ifc _ v => m0 v
  | .agg cs => m0s cs
  | .tup cs => m0s cs
  | _ => true
def m0s : List AV → Bool
  | [] => true
  | v :: l => m0 v && m0s l
def m0ss : List (List AV) → Bool
  | [] => true
  | c :: l => m0s c && m0ss l
end

mutual
/-- All numbers of blocks, moved up by b. -/
def AV.ren (b : Nat) : AV → AV
  | .ptr i k o => .ptr (b + i) k o
  | .slc i k n c => .slc (b + i) k n c
  | .map i => .map (b + i)
  | .yld i => .yld (b + i)
  | .iptr g cs o => .iptr g (rens b cs) o
  | .isl g es => .isl g (renss b es)
  | .func f x y => .func f (rens b x) (rens b y)
  | .ifc t v => .ifc t (v.ren b)
  | .agg cs => .agg (rens b cs)
  | .tup cs => .tup (rens b cs)
  | v => v
def rens (b : Nat) : List AV → List AV
  | [] => []
  | v :: l => v.ren b :: rens b l
def renss (b : Nat) : List (List AV) → List (List AV)
  | [] => []
  | c :: l => rens b c :: renss b l
end

theorem rens_len (b : Nat) : ∀ (l : List AV), (rens b l).length = l.length
  | [] => rfl
  | _ :: l => by simp [rens, rens_len b l]
theorem renss_len (b : Nat) : ∀ (l : List (List AV)), (renss b l).length = l.length
  | [] => rfl
  | _ :: l => by simp [renss, renss_len b l]
theorem rens_get {b : Nat} : ∀ {l : List AV} {j : Nat} {y : AV}, (rens b l)[j]? = some y → ∃ v, l[j]? = some v ∧ y = v.ren b
  | [], j, y, h => by simp [rens] at h
  | v :: l, 0, y, h => by simp [rens] at h; exact ⟨v, rfl, h.symm⟩
  | v :: l, j + 1, y, h => by simp only [rens, List.getElem?_cons_succ] at h ⊢; exact rens_get h
theorem renss_get {b : Nat} : ∀ {l : List (List AV)} {j : Nat} {y : List AV}, (renss b l)[j]? = some y → ∃ v, l[j]? = some v ∧ y = rens b v
  | [], j, y, h => by simp [renss] at h
  | v :: l, 0, y, h => by simp [renss] at h; exact ⟨v, rfl, h.symm⟩
  | v :: l, j + 1, y, h => by simp only [renss, List.getElem?_cons_succ] at h ⊢; exact renss_get h
theorem m0s_get : ∀ {l : List AV}, m0s l = true → ∀ {j : Nat} {v : AV}, l[j]? = some v → m0 v = true
  | [], _, j, v, h => by simp at h
  | x :: l, hm, 0, v, h => by simp only [m0s, Bool.and_eq_true] at hm; simp at h; subst h; exact hm.1
  | x :: l, hm, j + 1, v, h => by simp only [m0s, Bool.and_eq_true] at hm; exact m0s_get hm.2 h
theorem m0ss_get : ∀ {l : List (List AV)}, m0ss l = true → ∀ {j : Nat} {v : List AV}, l[j]? = some v → m0s v = true
  | [], _, j, v, h => by simp at h
  | x :: l, hm, 0, v, h => by simp only [m0ss, Bool.and_eq_true] at hm; simp at h; subst h; exact hm.1
  | x :: l, hm, j + 1, v, h => by simp only [m0ss, Bool.and_eq_true] at hm; exact m0ss_get hm.2 h

section
variable {σ σ' : Emb} {M M' : Mem} {b : Nat}
theorem VR.ren (hs : ∀ i L, σ i = some L → σ' (b + i) = some L) (hM : ∀ B o, M B = some (o, 0) → M' B = some (o, 0)) {v : AV} {x : Value} (hv : VR σ M v x) : m0 v = true → VR σ' M' (v.ren b) x := by
  have pw : ∀ {l : List AV} {d : Nat → Value}, (∀ (j : Nat) (v : AV), l[j]? = some v → m0 v = true → VR σ' M' (v.ren b) (d j)) → m0s l = true → ∀ (j : Nat) (v : AV), (rens b l)[j]? = some v → VR σ' M' v (d j) := by
    intro l d ih hm j y hj
    obtain ⟨v, h1, rfl⟩ := rens_get hj
    exact ih j v h1 (m0s_get hm h1)
  have pc : ∀ {l : List AV} {c : Array Value} {d : Nat → Value} {O : Nat}, (∀ (j : Nat) (v : AV), l[j]? = some v → c[O + j]? = some (d j)) → ∀ (j : Nat) (v : AV), (rens b l)[j]? = some v → c[O + j]? = some (d j) := by
    intro l c d O h j y hj
    obtain ⟨v, h1, rfl⟩ := rens_get hj
    exact h j v h1
  have pc0 : ∀ {l : List AV} {c : Array Value} {d : Nat → Value}, (∀ (j : Nat) (v : AV), l[j]? = some v → c[j]? = some (d j)) → ∀ (j : Nat) (v : AV), (rens b l)[j]? = some v → c[j]? = some (d j) := by
    intro l c d h j y hj
    obtain ⟨v, h1, rfl⟩ := rens_get hj
    exact h j v h1
  induction hv with
  | bool b => exact fun _ => .bool b
  | int k n => exact fun _ => .int k n
  | flt k n => exact fun _ => .flt k n
  | str s b h => exact fun _ => .str s b h
  | nilp => exact fun _ => .nilp
  | ptr i k o L h => exact fun _ => .ptr (b + i) k o L (hs i L h)
  | iptr g cs o B O C T F d h hc hv ih =>
    intro hp
    simp only [m0, Bool.and_eq_true] at hp
    obtain rfl := Nat.eq_of_beq_eq_true hp.1
    exact .iptr 0 _ o B O C T F d (hM _ _ h) (pc hc) (pw ih hp.2)
  | nils => exact fun _ => .nils
  | emp a => exact fun _ => .emp a
  | slc i k n c L a c' h ha hn hk hu => exact fun _ => .slc (b + i) k n c L a c' (hs i L h) ha hn hk hu
  | isl0 g a c => exact fun _ => .isl0 g a c
  | isl g es z B O C T F d c h hz hn hc hv ih =>
    intro hp
    simp only [m0, Bool.and_eq_true] at hp
    obtain rfl := Nat.eq_of_beq_eq_true hp.1
    have := VR.isl (σ := σ') (M := M') 0 (renss b es) z B O C T F d c (hM _ _ h) (fun k cs hk => by obtain ⟨c0, h1, rfl⟩ := renss_get hk; rw [rens_len]; exact hz k c0 h1) (by rw [renss_len]; exact hn)
      (fun k cs j v hk hj => by obtain ⟨c0, h1, rfl⟩ := renss_get hk; exact pc (hc k c0 · · h1) j v hj)
      (fun k cs j v hk hj => by obtain ⟨c0, h1, rfl⟩ := renss_get hk; exact pw (fun j v hj hm => ih k c0 j v h1 hj hm) (m0ss_get hp.2 h1) j v hj)
    rw [renss_len] at this; exact this
  | nilm => exact fun _ => .nilm
  | map i L h => exact fun _ => .map (b + i) L (hs i L h)
  | func fn first cap f' c' d e hy hf hc hf1 hf2 hc1 hc2 ih1 ih2 =>
    intro hp
    simp only [m0, Bool.and_eq_true] at hp
    exact .func fn _ _ f' c' d e hy (by rw [rens_len]; exact hf) (by rw [rens_len]; exact hc) (pc0 hf1) (pw ih1 hp.1) (pc0 hc1) (pw ih2 hp.2)
  | nilf => exact fun _ => .nilf
  | yld i L h => exact fun _ => .yld (b + i) L (hs i L h)
  | ifc t v v' h ih => intro hp; exact .ifc t _ v' (ih hp)
  | nili => exact fun _ => .nili
  | agg cs c' d hn h1 h2 ih => intro hp; exact .agg _ c' d (by rw [rens_len]; exact hn) (pc0 h1) (pw ih hp)
  | tup cs c' d hn h1 h2 ih => intro hp; exact .tup _ c' d (by rw [rens_len]; exact hn) (pc0 h1) (pw ih hp)
theorem VRs.ren (hs : ∀ i L, σ i = some L → σ' (b + i) = some L) (hM : ∀ B o, M B = some (o, 0) → M' B = some (o, 0)) {l : List AV} {a : Array Value} (h : VRs σ M l a) (hm : m0s l = true) : VRs σ' M' (rens b l) a := by
  refine ⟨by rw [rens_len]; exact h.1, fun j y hj => ?_⟩
  obtain ⟨v, h1, rfl⟩ := rens_get hj
  obtain ⟨x, h2, h3⟩ := h.2 j v h1
  exact ⟨x, h2, h3.ren hs hM (m0s_get hm h1)⟩
end

/-- A block, its numbers moved up (none: it is forgotten). -/
def renB (b : Nat) : Option Blk → Option Blk
  | some (.row T es) => cond (m0ss es) (some (.row T (renss b es))) none
  | some (.map es c) => cond (es.all fun x => m0 x.1 && m0 x.2.1) (some (.map (es.map fun x => (x.1.ren b, x.2.1.ren b, x.2.2)) c)) none
  | some (.mapIter m s l t) => some (.mapIter (m.map (b + ·)) s l t)
  | some (.strIter s p) => some (.strIter s p)
  | _ => none

theorem BlkR.ren {P : Program} {σ σ' : Emb} {M M' : Mem} {b : Nat} (hs : ∀ i L, σ i = some L → σ' (b + i) = some L) (hM : ∀ B o, M B = some (o, 0) → M' B = some (o, 0)) {w : World} {L : Loc} {x : Option Blk} {y : Blk} (hx : renB b x = some y)
    (hb : ∀ z, x = some z → BlkR P σ M w L z) : BlkR P σ' M' w L y := by
  unfold renB at hx
  split at hx
  · rename_i T es
    cases hm : m0ss es <;> rw [hm] at hx <;> cases hx
    obtain ⟨C, F, h1, h2, h3, h4, h5, h6⟩ := hb _ rfl
    refine ⟨C, F, h1, h2, h3, by rw [renss_len]; exact h4, fun k cs hk => ?_, h6⟩
    obtain ⟨c0, h7, rfl⟩ := renss_get hk
    exact ⟨(h5 k c0 h7).1.ren hs hM (m0ss_get hm h7), by rw [rens_len]; exact (h5 k c0 h7).2⟩
  · rename_i es c
    cases hm : (es.all fun x => m0 x.1 && m0 x.2.1) <;> rw [hm] at hx <;> cases hx
    obtain ⟨es', h1, h2, h3⟩ := hb _ rfl
    refine ⟨es', h1, by simpa using h2, fun j k v n hj => ?_⟩
    rw [List.getElem?_map] at hj
    cases hx : es[j]? with
    | none => rw [hx] at hj; cases hj
    | some x =>
      rw [hx] at hj; cases hj
      obtain ⟨e, h4, h5, h6, h7⟩ := h3 j _ _ _ hx
      have hm1 := List.all_eq_true.1 hm x (List.mem_of_getElem? hx)
      simp only [Bool.and_eq_true] at hm1
      exact ⟨e, h4, h5.ren hs hM hm1.1, h6.ren hs hM hm1.2, h7⟩
  · cases hx
    obtain ⟨h1, m', h2, h3⟩ := hb _ rfl
    refine ⟨h1, m', h2, ?_⟩
    rename_i m _ _ _
    cases m with
    | none => exact h3
    | some i => obtain ⟨K, h4, h5⟩ := h3; exact ⟨K, hs _ _ h4, h5⟩
  · cases hx
    exact hb _ rfl
  · cases hx

/-- A call whose arguments lead to mutable memory, proved where that never changes and in the empty heap; what it has made is taken over. -/
theorem CallL.adopt {P : Program} {f : FuncId} {args args' : List AV} {h : Hp} {K : Nat} {v0 : AV} {h0 : Hp} {B0 : Nat → Option Blk} (hB0 : ∀ i y, B0 i = some y → h0 i = some y) (ha : FzL anyMark 1 h args args') (k : CallL P f args' Hp.nil fun r h1 => r = .ret v0 ∧ h1 = h0)
    (hK : ∀ i, h0.u i = true → i < K) (hm : m0 v0 = true) : PureAd P f args h K (fun b => v0.ren b) fun b i => renB b (B0 i) := by
  intro h' hle b hfr
  constructor
  intro σ M w x hR hA
  let M0 : Mem := fun B => match M B with | some y => some y | none => (w.heap[B]?).map fun o => (o, 1)
  have hMM0 : ∀ B o c, M B = some (o, c) → M0 B = some (o, c) := fun B o c hB => by simp [M0, hB]
  have hM0w : ∀ B y, M0 B = some y → w.heap[B]? = some y.1 := fun B y hB => by
    simp only [M0] at hB
    split at hB
    · rename_i z hz; cases hB; exact hR.mem B _ hz
    · simp only [Option.map_eq_some_iff] at hB
      obtain ⟨o, h1, rfl⟩ := hB; exact h1
  have hM0old : ∀ B, B < w.heap.size → ∃ y, M0 B = some y := fun B hB => by
    simp only [M0]
    split
    · exact ⟨_, rfl⟩
    · rw [Array.getElem?_eq_getElem hB]; exact ⟨_, rfl⟩
  have hR0 : R P (fun _ => none) M0 Hp.nil w :=
    ⟨fun _ _ => rfl, (fun i b hi => by cases hi), hM0w, (fun i b L hi => by cases hi), (fun i j bi bj Li Lj hi => by cases hi), (fun i b L hi => by cases hi), (fun i b L hi => by cases hi)⟩
  have hA0 : VRs (fun _ => none) M0 args' x := by
    refine ⟨by rw [hA.1, ha.1], fun j y hj => ?_⟩
    obtain ⟨v, hv⟩ := get_of_len ha.1 hj
    obtain ⟨u, h1, h2⟩ := hA.2 j v hv
    refine ⟨u, h1, (ha.2 j v y hv hj).VR (fun i b L hi hL => hR.blk i b L (hle i b hi) hL) (fun B o c _ hB => hMM0 B o c hB) (fun i b L o hi hL ho => ?_) h2⟩
    have := hR.sep i b L (hle i b hi) hL
    simp only [M0, this, ho, Option.map_some]
  refine (k.run _ _ w x hR0 hA0).mono ?_
  rintro e w' ⟨σ1, M1, h1, hE, hR1, hend⟩
  have hret : ∃ x', e = .returned x' ∧ VR σ1 M1 v0 x' ∧ h1 = h0 := by
    cases e with
    | returned x' => obtain ⟨v, hv, e1, e2⟩ := hend; cases e1; exact ⟨x', rfl, hv, e2⟩
    | panicked ch => obtain ⟨v, x', _, _, e1, _⟩ := hend; cases e1
    | outgrown => exact hend.elim
  obtain ⟨x', rfl, hv, rfl⟩ := hret
  have same : ∀ B, B < w.heap.size → w'.heap[B]? = w.heap[B]? := fun B hB => by
    obtain ⟨y, hy⟩ := hM0old B hB
    rw [hM0w B y hy]; exact hR1.mem B y (hE.m B y hy)
  have hMsz : ∀ B y, M B = some y → B < w.heap.size := fun B y hB => (Array.getElem?_eq_some_iff.1 (hR.mem B y hB)).1
  have hM1new : ∀ B, M1 B = none → w.heap.size ≤ B := fun B hB => by
    rcases Nat.lt_or_ge B w.heap.size with hlt | hge
    · obtain ⟨y, hy⟩ := hM0old B hlt
      rw [hE.m B y hy] at hB; cases hB
    · exact hge
  let M2 : Mem := fun B => match M B with | some y => some y | none => if B < w.heap.size then none else M1 B
  have hMM2 : M.le M2 := fun B y hB => by simp [M2, hB]
  have hM12 : ∀ B o, M1 B = some (o, 0) → M2 B = some (o, 0) := fun B o hB => by
    by_cases hlt : B < w.heap.size
    · obtain ⟨y, hy⟩ := hM0old B hlt
      have := hE.m B y hy
      rw [hB] at this; cases this
      simp only [M0] at hy
      split at hy
      · rename_i z hz; cases hy; simp only [M2, hz]
      · simp only [Option.map_eq_some_iff] at hy
        obtain ⟨o', _, h3⟩ := hy; cases h3
    · have h3 : M B = none := by
        cases hm : M B with
        | none => rfl
        | some z => exact absurd (hMsz B z hm) hlt
      simp only [M2, h3, if_neg hlt, hB]
  have hM2none : ∀ B, M1 B = none → M2 B = none := fun B hB => by
    have hge := hM1new B hB
    have h3 : M B = none := by
      cases hm : M B with
      | none => rfl
      | some z => exact absurd (hMsz B z hm) (by omega)
    simp only [M2, h3, if_neg (show ¬ B < w.heap.size by omega), hB]
  let σ2 : Emb := fun i => if b ≤ i ∧ i < b + K then σ1 (i - b) else σ i
  have hσ2 : ∀ i L, σ1 i = some L → σ2 (b + i) = some L := fun i L hi => by
    have hu : h1.u i = true := by
      cases hu : h1.u i with
      | true => rfl
      | false => rw [hR1.fin i hu] at hi; cases hi
    have := hK i hu
    simp only [σ2]
    rw [if_pos (by omega), Nat.add_sub_cancel_left]; exact hi
  have hσσ2 : σ.le σ2 := fun i L hi => by
    simp only [σ2]
    split
    · rename_i hr
      have := (hfr (i - b) (by omega)).1
      rw [show b + (i - b) = i by omega] at this
      rw [hR.fin i this] at hi; cases hi
    · exact hi
  have hin : ∀ i, b ≤ i ∧ i < b + K → σ2 i = σ1 (i - b) := fun i hi => if_pos hi
  have hout : ∀ i, ¬ (b ≤ i ∧ i < b + K) → σ2 i = σ i := fun i hi => if_neg hi
  -- what lies at a number
  have cases2 : ∀ i y, (h'.adopt b K fun i => renB b (B0 i)) i = some y → (b ≤ i ∧ i < b + K ∧ ∃ z, h1 (i - b) = some z ∧ renB b (some z) = some y) ∨ (¬ (b ≤ i ∧ i < b + K) ∧ h' i = some y) := by
    intro i y hi
    by_cases hr : b ≤ i ∧ i < b + K
    · rw [Hp.adopt_in hr] at hi
      refine .inl ⟨hr.1, hr.2, ?_⟩
      cases hz : B0 (i - b) with
      | none => rw [hz] at hi; cases hi
      | some z => rw [hz] at hi; exact ⟨z, hB0 _ _ hz, hi⟩
    · rw [Hp.adopt_out hr] at hi; exact .inr ⟨hr, hi⟩
  refine ⟨σ2, M2, h'.adopt b K fun i => renB b (B0 i), ⟨hσσ2, hMM2, hE.size, hE.os, hE.tape, hE.output⟩, ⟨fun i hi => ?_, fun i y hi => ?_, fun B y hB => ?_, fun i y L hi hL => ?_, fun i j yi yj Li Lj hi hj hLi hLj hb => ?_, fun i y L hi hL => ?_, fun i y L hi hL => ?_⟩, ?_⟩
  · rw [Hp.adopt_u] at hi
    split at hi
    · cases hi
    · rename_i hr; rw [hout i hr]; exact hR.fin i hi
  · rcases cases2 i y hi with ⟨h2, h3, z, hz, _⟩ | ⟨h2, h3⟩
    · rw [hin i ⟨h2, h3⟩]; exact hR1.dom _ z hz
    · rw [hout i h2]; exact hR.dom i y h3
  · simp only [M2] at hB
    split at hB
    · rename_i z hz
      cases hB
      rw [same B (hMsz B _ hz)]; exact hR.mem B _ hz
    · split at hB
      · cases hB
      · exact hR1.mem B y hB
  · rcases cases2 i y hi with ⟨h2, h3, z, hz, _⟩ | ⟨h2, h3⟩
    · rw [hin i ⟨h2, h3⟩] at hL; exact hM2none _ (hR1.sep _ z L hz hL)
    · rw [hout i h2] at hL
      simp only [M2, hR.sep i y L h3 hL, if_pos (hR.placed h3 hL)]
  · rcases cases2 i yi hi with ⟨h2, h3, z, hz, _⟩ | ⟨h2, h3⟩ <;> rcases cases2 j yj hj with ⟨g2, g3, z', hz', _⟩ | ⟨g2, g3⟩
    · rw [hin i ⟨h2, h3⟩] at hLi; rw [hin j ⟨g2, g3⟩] at hLj
      have := hR1.inj _ _ z z' Li Lj hz hz' hLi hLj hb
      omega
    · rw [hin i ⟨h2, h3⟩] at hLi; rw [hout j g2] at hLj
      have q1 := hM1new _ (hR1.sep _ z Li hz hLi)
      have q2 := hR.placed g3 hLj
      omega
    · rw [hout i h2] at hLi; rw [hin j ⟨g2, g3⟩] at hLj
      have q1 := hM1new _ (hR1.sep _ z' Lj hz' hLj)
      have q2 := hR.placed h3 hLi
      omega
    · rw [hout i h2] at hLi; rw [hout j g2] at hLj
      exact hR.inj _ _ yi yj Li Lj h3 g3 hLi hLj hb
  · rcases cases2 i y hi with ⟨h2, h3, z, hz, hy⟩ | ⟨h2, h3⟩
    · rw [hin i ⟨h2, h3⟩] at hL
      exact BlkR.ren hσ2 hM12 hy fun z' e => by cases e; exact hR1.blk _ z L hz hL
    · rw [hout i h2] at hL
      exact (hR.blk i y L h3 hL).mono hσσ2 hMM2 (same _ (hR.placed h3 hL))
  · rcases cases2 i y hi with ⟨h2, h3, z, hz, _⟩ | ⟨h2, h3⟩
    · rw [hin i ⟨h2, h3⟩] at hL; exact hR1.al _ z L hz hL
    · rw [hout i h2] at hL; exact hR.al i y L h3 hL
  · exact ⟨v0.ren b, hv.ren hσ2 hM12 hm, rfl, rfl⟩
end Go.L
