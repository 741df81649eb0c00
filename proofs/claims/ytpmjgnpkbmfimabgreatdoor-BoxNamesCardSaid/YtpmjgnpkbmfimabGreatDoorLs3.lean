/-
  The logic L, part s3: blocks and numbers forgotten.
-/
import Derived.Test.YtpmjgnpkbmfimabGreatDoorLw2
namespace Go.L

mutual
/-- All numbers of blocks are such. -/
def idU (u : Nat → Bool) : AV → Bool
  | .ptr i _ _ => u i
  | .slc i _ _ _ => u i
  | .map i => u i
  | .yld i => u i
  | .iptr _ cs _ => idUs u cs
  | .isl _ es => idUss u es
  | .func _ a b => idUs u a && idUs u b
  | .ifc _ v => idU u v
  | .agg cs => idUs u cs
  | .tup cs => idUs u cs
  | _ => true
def idUs (u : Nat → Bool) : List AV → Bool
  | [] => true
  | v :: l => idU u v && idUs u l
def idUss (u : Nat → Bool) : List (List AV) → Bool
  | [] => true
  | c :: l => idUs u c && idUss u l
end

theorem idUs_get {u : Nat → Bool} : ∀ {l : List AV}, idUs u l = true → ∀ {j : Nat} {v : AV}, l[j]? = some v → idU u v = true
  | [], _, j, v, h => by simp at h
  | x :: l, hm, 0, v, h => by simp only [idUs, Bool.and_eq_true] at hm; simp at h; subst h; exact hm.1
  | x :: l, hm, j + 1, v, h => by simp only [idUs, Bool.and_eq_true] at hm; exact idUs_get hm.2 h
theorem idUss_get {u : Nat → Bool} : ∀ {l : List (List AV)}, idUss u l = true → ∀ {j : Nat} {v : List AV}, l[j]? = some v → idUs u v = true
  | [], _, j, v, h => by simp at h
  | x :: l, hm, 0, v, h => by simp only [idUss, Bool.and_eq_true] at hm; simp at h; subst h; exact hm.1
  | x :: l, hm, j + 1, v, h => by simp only [idUss, Bool.and_eq_true] at hm; exact idUss_get hm.2 h

def Emb.cut (σ : Emb) (u : Nat → Bool) : Emb := fun i => match u i with
  | true => σ i
  | false => none
theorem Emb.cut_some {σ : Emb} {u : Nat → Bool} {i : Nat} {L : Loc} (hu : u i = true) (h : σ i = some L) : σ.cut u i = some L := by simp [Emb.cut, hu, h]
theorem Emb.cut_inv {σ : Emb} {u : Nat → Bool} {i : Nat} {L : Loc} (h : σ.cut u i = some L) : u i = true ∧ σ i = some L := by
  unfold Emb.cut at h
  split at h
  · rename_i hu; exact ⟨hu, h⟩
  · cases h

section
variable {P : Program} {σ : Emb} {M : Mem} {u : Nat → Bool}
theorem VR.cut {v : AV} {x : Value} (hv : VR σ M v x) : idU u v = true → VR (σ.cut u) M v x := by
  induction hv with
  | bool b => exact fun _ => .bool b
  | int k n => exact fun _ => .int k n
  | flt k n => exact fun _ => .flt k n
  | str s b h => exact fun _ => .str s b h
  | nilp => exact fun _ => .nilp
  | ptr i k o L h => exact fun hp => .ptr i k o L (Emb.cut_some hp h)
  | iptr g cs o B O C T F d h hc hv ih => exact fun hp => .iptr g cs o B O C T F d h hc fun j v hj => ih j v hj (idUs_get hp hj)
  | nils => exact fun _ => .nils
  | emp a => exact fun _ => .emp a
  | slc i k n c L a c' h ha hn hk hu => exact fun hp => .slc i k n c L a c' (Emb.cut_some hp h) ha hn hk hu
  | isl0 g a c => exact fun _ => .isl0 g a c
  | isl g es z B O C T F d c h hz hn hc hv ih => exact fun hp => .isl g es z B O C T F d c h hz hn hc fun k cs j v hk hj => ih k cs j v hk hj (idUs_get (idUss_get hp hk) hj)
  | nilm => exact fun _ => .nilm
  | map i L h => exact fun hp => .map i L (Emb.cut_some hp h)
  | func fn first cap f' c' d e hy hf hc hf1 hf2 hc1 hc2 ih1 ih2 =>
    intro hp
    simp only [idU, Bool.and_eq_true] at hp
    exact .func fn first cap f' c' d e hy hf hc hf1 (fun j v hj => ih1 j v hj (idUs_get hp.1 hj)) hc1 fun j v hj => ih2 j v hj (idUs_get hp.2 hj)
  | nilf => exact fun _ => .nilf
  | yld i L h => exact fun hp => .yld i L (Emb.cut_some hp h)
  | ifc t v v' h ih => exact fun hp => .ifc t v v' (ih hp)
  | nili => exact fun _ => .nili
  | agg cs c' d hn h1 h2 ih => exact fun hp => .agg cs c' d hn h1 fun j v hj => ih j v hj (idUs_get hp hj)
  | tup cs c' d hn h1 h2 ih => exact fun hp => .tup cs c' d hn h1 fun j v hj => ih j v hj (idUs_get hp hj)
theorem VRs.cut {l : List AV} {a : Array Value} (h : VRs σ M l a) (hl : idUs u l = true) : VRs (σ.cut u) M l a :=
  ⟨h.1, fun j v hj => let ⟨v', h1, h2⟩ := h.2 j v hj; ⟨v', h1, h2.cut (idUs_get hl hj)⟩⟩

/-- All numbers within a block are such. -/
def blkU (u : Nat → Bool) : Blk → Bool
  | .row _ es => idUss u es
  | .map es _ => es.all fun x => idU u x.1 && idU u x.2.1
  | .mapIter m _ _ _ => match m with
    | none => true
    | some i => u i
  | .strIter _ _ => true
  | .loop .. => false
  | .dfr => true
theorem BlkR.cut {w : World} {L : Loc} {b : Blk} (hb : blkU u b = true) (h : BlkR P σ M w L b) : BlkR P (σ.cut u) M w L b := by
  cases b with
  | row T es =>
    obtain ⟨C, F, h1, h2, h3, h4, h5, h6⟩ := h
    exact ⟨C, F, h1, h2, h3, h4, fun k cs hk => ⟨(h5 k cs hk).1.cut (idUss_get hb hk), (h5 k cs hk).2⟩, h6⟩
  | map es c =>
    obtain ⟨es', h1, h2, h3⟩ := h
    refine ⟨es', h1, h2, fun j k v n hj => ?_⟩
    obtain ⟨e, h4, h5, h6, h7⟩ := h3 j k v n hj
    have := List.all_eq_true.1 hb _ (List.mem_of_getElem? hj)
    simp only [Bool.and_eq_true] at this
    exact ⟨e, h4, h5.cut this.1, h6.cut this.2, h7⟩
  | mapIter m s l t =>
    obtain ⟨h1, m', h2, h3⟩ := h
    refine ⟨h1, m', h2, ?_⟩
    cases m with
    | none => exact h3
    | some i => obtain ⟨K, h4, h5⟩ := h3; exact ⟨K, Emb.cut_some hb h4, h5⟩
  | strIter s p => exact h
  | loop => cases hb
  | dfr => exact h

/-- A call's outcome, of which blocks and numbers are forgotten. -/
theorem CallL.shrink {f : FuncId} {args : List AV} {h : Hp} {Q : Res → Hp → Prop} (k : CallL P f args h fun r h1 => ∃ (v : AV) (h2 : Hp), r = .ret v ∧ Q (.ret v) h2 ∧ idU h2.u v = true ∧ (∀ i b, h2 i = some b → h1 i = some b ∧ h2.u i = true ∧ blkU h2.u b = true) ∧ ∀ i, h.u i = true → h2.u i = true) : CallL P f args h Q := by
  refine ⟨fun σ M w args' hR hA => (k.run σ M w args' hR hA).mono fun e w' ⟨σ', M', h1, hE, hR1, hend⟩ => ?_⟩
  cases e with
  | returned v' =>
    obtain ⟨v0, hv, v, h2, e1, hq, hid, hbl, hu⟩ := hend
    cases e1
    refine ⟨σ'.cut h2.u, M', h2, ⟨fun i L hi => ?_, hE.m, hE.size, hE.os, hE.tape, hE.output⟩, ⟨fun i hi => ?_, fun i b hi => ?_, hR1.mem, fun i b L hi hL => ?_, fun i j bi bj Li Lj hi hj hLi hLj hb => ?_, fun i b L hi hL => ?_, fun i b L hi hL => ?_⟩, _, hv.cut hid, hq⟩
    · have hu0 : h.u i = true := by
        cases hh : h.u i with
        | true => rfl
        | false => rw [hR.fin i hh] at hi; cases hi
      exact Emb.cut_some (hu i hu0) (hE.s i L hi)
    · simp [Emb.cut, hi]
    · obtain ⟨q1, q2, _⟩ := hbl i b hi
      obtain ⟨L, hL⟩ := hR1.dom i b q1
      exact ⟨L, Emb.cut_some q2 hL⟩
    · exact hR1.sep i b L (hbl i b hi).1 (Emb.cut_inv hL).2
    · exact hR1.inj i j bi bj Li Lj (hbl i bi hi).1 (hbl j bj hj).1 (Emb.cut_inv hLi).2 (Emb.cut_inv hLj).2 hb
    · exact (hR1.blk i b L (hbl i b hi).1 (Emb.cut_inv hL).2).cut (hbl i b hi).2.2
    · exact hR1.al i b L (hbl i b hi).1 (Emb.cut_inv hL).2
  | panicked ch => obtain ⟨v, v', _, _, v2, h2, e1, _⟩ := hend; cases e1
  | outgrown => exact hend.elim
end
end Go.L
