/- The logic L (of no program), and plain laws: texts put together; no conditions. -/
import Derived.Test.YtghlipffncbagaaGreatDoorZ3
import Derived.KernelRfl
namespace Go.L
mutual
def AV.mp (ρ : Nat → Nat) : AV → AV
 | .ptr i k o => .ptr (ρ i) k o
 | .slc i k n c => .slc (ρ i) k n c
 | .map i => .map (ρ i)
 | .func f x y => .func f (mps ρ x) (mps ρ y)
 | .ifc t v => .ifc t (v.mp ρ)
 | .agg cs => .agg (mps ρ cs)
 | .tup cs => .tup (mps ρ cs)
 | v => v
def mps (ρ : Nat → Nat) : List AV → List AV
 | [] => []
 | v :: l => v.mp ρ :: mps ρ l
end
def mpss (ρ : Nat → Nat) : List (List AV) → List (List AV)
 | [] => []
 | c :: l => mps ρ c :: mpss ρ l
mutual
def pl : AV → Bool
 | .iptr .. => false
 | .isl .. => false
 | .yld _ => false
 | .func _ x y => pls x && pls y
 | .ifc _ v => pl v
 | .agg cs => pls cs
 | .tup cs => pls cs
 | _ => true
def pls : List AV → Bool
 | [] => true
 | v :: l => pl v && pls l
end
def plss : List (List AV) → Bool
 | [] => true
 | c :: l => pls c && plss l
theorem mps_eq (ρ : Nat → Nat) : ∀ l : List AV, mps ρ l = l.map (AV.mp ρ)
 | [] => rfl
 | v :: l => by rw [mps, mps_eq ρ l]; rfl
theorem mpss_eq (ρ : Nat → Nat) : ∀ l : List (List AV), mpss ρ l = l.map (mps ρ)
 | [] => rfl
 | v :: l => by rw [mpss, mpss_eq ρ l]; rfl
theorem pls_all : ∀ l : List AV, pls l = l.all pl
 | [] => rfl
 | v :: l => by rw [pls, pls_all l]; rfl
theorem plss_all : ∀ l : List (List AV), plss l = l.all pls
 | [] => rfl
 | v :: l => by rw [plss, plss_all l]; rfl
theorem pls_get {l : List AV} (h : pls l = true) {j : Nat} {v : AV} (hj : l[j]? = some v) : pl v = true := by
 rw [pls_all] at h; exact List.all_eq_true.1 h v (List.mem_of_getElem? hj)
theorem plss_get {l : List (List AV)} (h : plss l = true) {j : Nat} {v : List AV} (hj : l[j]? = some v) : pls v = true := by
 rw [plss_all] at h; exact List.all_eq_true.1 h v (List.mem_of_getElem? hj)
theorem mps_get {ρ : Nat → Nat} {l : List AV} {j : Nat} {v : AV} (hj : l[j]? = some v) : (mps ρ l)[j]? = some (v.mp ρ) := by
 rw [mps_eq, List.getElem?_map, hj]; rfl
theorem mps_inv {ρ : Nat → Nat} {l : List AV} {j : Nat} {y : AV} (hj : (mps ρ l)[j]? = some y) : ∃ v, l[j]? = some v ∧ y = v.mp ρ := by
 rw [mps_eq, List.getElem?_map] at hj
 cases hl : l[j]? with
 | none => rw [hl] at hj; cases hj
 | some v => rw [hl] at hj; cases hj; exact ⟨v, rfl, rfl⟩
theorem mps_len (ρ : Nat → Nat) (l : List AV) : (mps ρ l).length = l.length := by rw [mps_eq, List.length_map]
section
variable {ρ : Nat → Nat} {σ σ' : Emb} {M M' : Mem}
theorem VR.mp (hs : ∀ i L, σ i = some L → σ' (ρ i) = some L) {v : AV} {x : Value} (hv : VR σ M v x) : pl v = true → VR σ' M' (v.mp ρ) x := by
 induction hv with
 | bool b => exact fun _ => .bool b
 | int k n => exact fun _ => .int k n
 | flt k n => exact fun _ => .flt k n
 | str s b h => exact fun _ => .str s b h
 | nilp => exact fun _ => .nilp
 | ptr i k o L h => exact fun _ => .ptr (ρ i) k o L (hs i L h)
 | iptr g cs o B O C T F d h hc hv ih => exact fun hp => by cases hp
 | nils => exact fun _ => .nils
 | emp a => exact fun _ => .emp a
 | slc i k n c L a c' h ha hn hk hu => exact fun _ => .slc (ρ i) k n c L a c' (hs i L h) ha hn hk hu
 | isl0 g a c => exact fun hp => by cases hp
 | isl g es z B O C T F d c h hz hn hc hv ih => exact fun hp => by cases hp
 | nilm => exact fun _ => .nilm
 | map i L h => exact fun _ => .map (ρ i) L (hs i L h)
 | func fn first cap f' c' d e hy hf hc hf1 hf2 hc1 hc2 ih1 ih2 =>
  intro hp
  simp only [pl, Bool.and_eq_true] at hp
  exact .func fn _ _ f' c' d e hy (by rw [mps_len]; exact hf) (by rw [mps_len]; exact hc) (fun j y hj => by obtain ⟨v, h1, rfl⟩ := mps_inv hj; exact hf1 j v h1) (fun j y hj => by obtain ⟨v, h1, rfl⟩ := mps_inv hj; exact ih1 j v h1 (pls_get hp.1 h1))
   (fun j y hj => by obtain ⟨v, h1, rfl⟩ := mps_inv hj; exact hc1 j v h1) (fun j y hj => by obtain ⟨v, h1, rfl⟩ := mps_inv hj; exact ih2 j v h1 (pls_get hp.2 h1))
 | nilf => exact fun _ => .nilf
 | yld i L h => exact fun hp => by cases hp
 | ifc t v v' h ih => intro hp; exact .ifc t _ v' (ih hp)
 | nili => exact fun _ => .nili
 | agg cs c' d hn h1 h2 ih => intro hp; exact .agg _ c' d (by rw [mps_len]; exact hn) (fun j y hj => by obtain ⟨v, h3, rfl⟩ := mps_inv hj; exact h1 j v h3) (fun j y hj => by obtain ⟨v, h3, rfl⟩ := mps_inv hj; exact ih j v h3 (pls_get hp h3))
 | tup cs c' d hn h1 h2 ih => intro hp; exact .tup _ c' d (by rw [mps_len]; exact hn) (fun j y hj => by obtain ⟨v, h3, rfl⟩ := mps_inv hj; exact h1 j v h3) (fun j y hj => by obtain ⟨v, h3, rfl⟩ := mps_inv hj; exact ih j v h3 (pls_get hp h3))
 | any v => exact fun _ => .any v
theorem VR.unmp {y : AV} {x : Value} (h : VR σ M y x) : ∀ v : AV, pl v = true → v.mp ρ = y → VR (fun i => σ (ρ i)) M v x := by
 induction h with
 | bool b => intro v hp e; cases v <;> simp only [AV.mp, reduceCtorEq] at e; cases e; exact .bool b
 | int k n => intro v hp e; cases v <;> simp only [AV.mp, reduceCtorEq] at e; cases e; exact .int k n
 | flt k n => intro v hp e; cases v <;> simp only [AV.mp, reduceCtorEq] at e; cases e; exact .flt k n
 | str s b h => intro v hp e; cases v <;> simp only [AV.mp, reduceCtorEq] at e; cases e; exact .str s b h
 | nilp => intro v hp e; cases v <;> simp only [AV.mp, reduceCtorEq] at e; exact .nilp
 | ptr i k o L h => intro v hp e; cases v <;> simp only [AV.mp, reduceCtorEq] at e; cases e; exact .ptr _ k o L h
 | iptr g cs o B O C T F d h hc hv ih => intro v hp e; cases v <;> simp only [AV.mp, reduceCtorEq] at e; cases hp
 | nils => intro v hp e; cases v <;> simp only [AV.mp, reduceCtorEq] at e; exact .nils
 | emp a => intro v hp e; cases v <;> simp only [AV.mp, reduceCtorEq] at e; exact .emp a
 | slc i k n c L a c' h ha hn hk hu => intro v hp e; cases v <;> simp only [AV.mp, reduceCtorEq] at e; cases e; exact .slc _ k n c L a c' h ha hn hk hu
 | isl0 g a c => intro v hp e; cases v <;> simp only [AV.mp, reduceCtorEq] at e; cases hp
 | isl g es z B O C T F d c h hz hn hc hv ih => intro v hp e; cases v <;> simp only [AV.mp, reduceCtorEq] at e; cases hp
 | nilm => intro v hp e; cases v <;> simp only [AV.mp, reduceCtorEq] at e; exact .nilm
 | map i L h => intro v hp e; cases v <;> simp only [AV.mp, reduceCtorEq] at e; cases e; exact .map _ L h
 | func fn first cap f' c' d e hy hf hc hf1 hf2 hc1 hc2 ih1 ih2 =>
  intro v hp e; cases v <;> simp only [AV.mp, reduceCtorEq] at e
  cases e
  simp only [pl, Bool.and_eq_true] at hp
  exact .func _ _ _ f' c' d _ hy (by rw [hf, mps_len]) (by rw [hc, mps_len]) (fun j v hj => hf1 j _ (mps_get hj)) (fun j v hj => ih1 j _ (mps_get hj) v (pls_get hp.1 hj) rfl) (fun j v hj => hc1 j _ (mps_get hj)) (fun j v hj => ih2 j _ (mps_get hj) v (pls_get hp.2 hj) rfl)
 | nilf => intro v hp e; cases v <;> simp only [AV.mp, reduceCtorEq] at e; exact .nilf
 | yld i L h => intro v hp e; cases v <;> simp only [AV.mp, reduceCtorEq] at e; cases hp
 | ifc t w v' h ih => intro v hp e; cases v <;> simp only [AV.mp, reduceCtorEq] at e; cases e; exact .ifc _ _ v' (ih _ hp rfl)
 | nili => intro v hp e; cases v <;> simp only [AV.mp, reduceCtorEq] at e; exact .nili
 | agg cs c' d hn h1 h2 ih =>
  intro v hp e; cases v <;> simp only [AV.mp, reduceCtorEq] at e
  cases e
  exact .agg _ c' d (by rw [hn, mps_len]) (fun j v hj => h1 j _ (mps_get hj)) fun j v hj => ih j _ (mps_get hj) v (pls_get hp hj) rfl
 | tup cs c' d hn h1 h2 ih =>
  intro v hp e; cases v <;> simp only [AV.mp, reduceCtorEq] at e
  cases e
  exact .tup _ c' d (by rw [hn, mps_len]) (fun j v hj => h1 j _ (mps_get hj)) fun j v hj => ih j _ (mps_get hj) v (pls_get hp hj) rfl
 | any v => intro v' hp e; cases v' <;> simp only [AV.mp, reduceCtorEq] at e; exact .any v
theorem VRs.mp (hs : ∀ i L, σ i = some L → σ' (ρ i) = some L) {l : List AV} {a : Array Value} (h : VRs σ M l a) (hp : pls l = true) : VRs σ' M' (mps ρ l) a :=
 ⟨by rw [mps_len]; exact h.1, fun j y hj => by
  obtain ⟨v, h1, rfl⟩ := mps_inv hj
  obtain ⟨x, h2, h3⟩ := h.2 j v h1
  exact ⟨x, h2, h3.mp hs (pls_get hp h1)⟩⟩
theorem VRs.unmp {l : List AV} {a : Array Value} (h : VRs σ M (mps ρ l) a) (hp : pls l = true) : VRs (fun i => σ (ρ i)) M l a :=
 ⟨by rw [h.1, mps_len], fun j v hj => by
  obtain ⟨x, h2, h3⟩ := h.2 j _ (mps_get hj)
  exact ⟨x, h2, h3.unmp v (pls_get hp hj) rfl⟩⟩
end
def Blk.mp (ρ : Nat → Nat) : Blk → Blk
 | .row T es => .row T (mpss ρ es)
 | .map es c => .map (es.map fun x => (x.1.mp ρ, x.2.1.mp ρ, x.2.2)) c
 | b => b
def blkP : Blk → Bool
 | .row _ es => plss es
 | .map es _ => es.all fun x => pl x.1 && pl x.2.1
 | _ => false
section
variable {P : Program} {ρ : Nat → Nat} {σ σ' : Emb} {M M' : Mem} {w : World} {L : Loc}
theorem BlkR.mp (hs : ∀ i L, σ i = some L → σ' (ρ i) = some L) {z : Blk} (hp : blkP z = true) (h : BlkR P σ M w L z) : BlkR P σ' M' w L (z.mp ρ) := by
 cases z with
 | row T es =>
  obtain ⟨C, F, h1, h2, h3, h4, h5, h6⟩ := h
  refine ⟨C, F, h1, h2, h3, by rw [mpss_eq, List.length_map]; exact h4, fun k cs hk => ?_, h6⟩
  rw [mpss_eq, List.getElem?_map] at hk
  cases he : es[k]? with
  | none => rw [he] at hk; cases hk
  | some c0 =>
   rw [he] at hk; cases hk
   exact ⟨(h5 k c0 he).1.mp hs (plss_get hp he), by rw [mps_len]; exact (h5 k c0 he).2⟩
 | map es c =>
  obtain ⟨es', h1, h2, h3⟩ := h
  refine ⟨es', h1, by rw [h2, List.length_map], fun j k v n hj => ?_⟩
  rw [List.getElem?_map] at hj
  cases he : es[j]? with
  | none => rw [he] at hj; cases hj
  | some x =>
   rw [he] at hj; cases hj
   obtain ⟨e, h4, h5, h6, h7⟩ := h3 j _ _ _ he
   have hm1 := List.all_eq_true.1 hp x (List.mem_of_getElem? he)
   simp only [Bool.and_eq_true] at hm1
   exact ⟨e, h4, h5.mp hs hm1.1, h6.mp hs hm1.2, h7⟩
 | mapIter => cases hp
 | strIter => cases hp
 | loop => cases hp
 | dfr => cases hp
theorem BlkR.unmp {z : Blk} (hp : blkP z = true) (h : BlkR P σ M w L (z.mp ρ)) : BlkR P (fun i => σ (ρ i)) M w L z := by
 cases z with
 | row T es =>
  obtain ⟨C, F, h1, h2, h3, h4, h5, h6⟩ := h
  refine ⟨C, F, h1, h2, h3, by rw [mpss_eq, List.length_map] at h4; exact h4, fun k cs hk => ?_, h6⟩
  have := h5 k (mps ρ cs) (by rw [mpss_eq, List.getElem?_map, hk]; rfl)
  exact ⟨this.1.unmp (plss_get hp hk), by have h7 := this.2; rw [mps_len] at h7; exact h7⟩
 | map es c =>
  obtain ⟨es', h1, h2, h3⟩ := h
  refine ⟨es', h1, by rw [h2, List.length_map], fun j k v n hj => ?_⟩
  obtain ⟨e, h4, h5, h6, h7⟩ := h3 j (k.mp ρ) (v.mp ρ) n (by rw [List.getElem?_map, hj]; rfl)
  have hm1 := List.all_eq_true.1 hp (k, v, n) (List.mem_of_getElem? hj)
  simp only [Bool.and_eq_true] at hm1
  exact ⟨e, h4, h5.unmp _ hm1.1 rfl, h6.unmp _ hm1.2 rfl, h7⟩
 | mapIter => cases hp
 | strIter => cases hp
 | loop => cases hp
 | dfr => cases hp
end
structure Img (ρ : Nat → Nat) (X H : Hp) : Prop where
 inj : ∀ i j, X.u i = true → X.u j = true → ρ i = ρ j → i = j
 blk : ∀ i b, X i = some b → H (ρ i) = some (b.mp ρ)
 used : ∀ i, X.u i = true → H.u (ρ i) = true
open Classical in
theorem CallL.frame {P : Program} {f : FuncId} {args : List AV} {H X X' : Hp} {ρ : Nat → Nat} {v : AV} (k : ∀ Q : Res → Hp → Prop, Q (.ret v) X' → CallL P f args X Q) (hI : Img ρ X H)
  (ha : idUs X.u args = true) (hpa : pls args = true) (hpv : pl v = true) (hbl : ∀ i b, X i = some b → blkU X.u b = true ∧ blkP b = true) (hbl' : ∀ i b, X' i = some b → blkP b = true) (hmono : ∀ i, X.u i = true → X'.u i = true) :
  CallL P f (mps ρ args) H fun r H' => ∃ ρ', (∀ i, X.u i = true → ρ' i = ρ i) ∧ r = .ret (v.mp ρ') ∧ Img ρ' X' H' ∧ (∀ i, X'.u i = true → X.u i = false → H.u (ρ' i) = false) ∧ (∀ j, H.u j = true → (∀ i, X.u i = true → ρ i ≠ j) → H' j = H j) ∧ ∀ j, H.u j = true → H'.u j = true := by
 constructor
 intro σ M w x hR hA
 have hXu : ∀ i b, X i = some b → X.u i = true := fun i b hi => by
  cases hu : X.u i with
  | true => rfl
  | false => rw [X.ok i hu] at hi; cases hi
 let own : Nat → Prop := fun B => ∃ i b L, X i = some b ∧ σ (ρ i) = some L ∧ L.b = B
 let M0 : Mem := fun B => match M B with | some y => some y | none => if own B then none else (w.heap[B]?).map fun o => (o, 1)
 have hMM0 : M.le M0 := fun B y hB => by simp [M0, hB]
 have hM0w : ∀ B y, M0 B = some y → w.heap[B]? = some y.1 := fun B y hB => by
  simp only [M0] at hB
  split at hB
  ·rename_i z hz; cases hB; exact hR.mem B _ hz
  ·split at hB
   ·cases hB
   ·simp only [Option.map_eq_some_iff] at hB
    obtain ⟨o, h1, rfl⟩ := hB; exact h1
 have hM0old : ∀ B, B < w.heap.size → ¬ own B → ∃ y, M0 B = some y := fun B hB ho => by
  simp only [M0]
  split
  ·exact ⟨_, rfl⟩
  ·rw [if_neg ho, Array.getElem?_eq_getElem hB]; exact ⟨_, rfl⟩
 let σr : Emb := fun i => σ (ρ i)
 have hR0 : R P (σr.cut X.u) M0 X w := by
  refine ⟨fun i hi => by simp [Emb.cut, hi], fun i b hi => ?_, hM0w, fun i b L hi hL => ?_, fun i j bi bj Li Lj hi hj hLi hLj hb => ?_, fun i b L hi hL => ?_, fun i b L hi hL => ?_, hR.glb.mono hMM0⟩
  ·obtain ⟨L, hL⟩ := hR.dom (ρ i) _ (hI.blk i b hi)
   exact ⟨L, Emb.cut_some (hXu i b hi) hL⟩
  ·have hL' := (Emb.cut_inv hL).2
   have h1 := hR.sep (ρ i) _ L (hI.blk i b hi) hL'
   have h2 : own L.b := ⟨i, b, L, hi, hL', rfl⟩
   simp only [M0, h1, if_pos h2]
  ·exact hI.inj i j (hXu i bi hi) (hXu j bj hj) (hR.inj (ρ i) (ρ j) _ _ Li Lj (hI.blk i bi hi) (hI.blk j bj hj) (Emb.cut_inv hLi).2 (Emb.cut_inv hLj).2 hb)
  ·have h1 := hR.blk (ρ i) _ L (hI.blk i b hi) (Emb.cut_inv hL).2
   exact ((BlkR.unmp (hbl i b hi).2 h1).cut (hbl i b hi).1).mono (Emb.le_refl _) hMM0 rfl
  ·exact hR.al (ρ i) _ L (hI.blk i b hi) (Emb.cut_inv hL).2
 have hA0 : VRs (σr.cut X.u) M0 args x := ((hA.unmp hpa).cut ha).mono (Emb.le_refl _) hMM0
 refine ((k (fun r h => r = .ret v ∧ h = X') ⟨rfl, rfl⟩).run _ _ w x hR0 hA0).mono ?_
 rintro e w' ⟨σ1, M1, h1, hE, hR1, hend⟩
 have hret : ∃ x', e = .returned x' ∧ VR σ1 M1 v x' ∧ h1 = X' := by
  cases e with
  | returned x' => obtain ⟨v0, hv0, e1, e2⟩ := hend; cases e1; exact ⟨x', rfl, hv0, e2⟩
  | panicked ch => obtain ⟨v0, x', _, _, e1, _⟩ := hend; cases e1
  | outgrown => exact hend.elim
 obtain ⟨x', rfl, hvr, rfl⟩ := hret
 have same : ∀ B, B < w.heap.size → ¬ own B → w'.heap[B]? = w.heap[B]? := fun B hB ho => by
  obtain ⟨y, hy⟩ := hM0old B hB ho
  rw [hM0w B y hy]; exact hR1.mem B y (hE.m B y hy)
 have hMM1 : M.le M1 := fun B y hB => hE.m B y (hMM0 B y hB)
 have u1 : ∀ i L, σ1 i = some L → h1.u i = true := fun i L hi => by
  cases hu : h1.u i with
  | true => rfl
  | false => rw [hR1.fin i hu] at hi; cases hi
 obtain ⟨K, hKc⟩ := h1.cof
 obtain ⟨b0, hb0⟩ := H.cof
 let ρ' : Nat → Nat := fun i => if X.u i = true then ρ i else b0 + i
 have hρ : ∀ i, X.u i = true → ρ' i = ρ i := fun i hi => if_pos hi
 have hρn : ∀ i, X.u i = false → ρ' i = b0 + i := fun i hi => if_neg (by rw [hi]; decide)
 have hlt0 : ∀ i, X.u i = true → ρ i < b0 := fun i hi => by
  rcases Nat.lt_or_ge (ρ i) b0 with h | h
  ·exact h
  ·have := hI.used i hi; rw [hb0 _ h] at this; cases this
 have hinj : ∀ i j, ρ' i = ρ' j → i = j := fun i j e => by
  cases hi : X.u i <;> cases hj : X.u j
  ·rw [hρn i hi, hρn j hj] at e; omega
  ·rw [hρn i hi, hρ j hj] at e; have := hlt0 j hj; omega
  ·rw [hρ i hi, hρn j hj] at e; have := hlt0 i hi; omega
  ·rw [hρ i hi, hρ j hj] at e; exact hI.inj i j hi hj e
 let σ2 : Emb := fun j => match σ j with
  | some L => some L
  | none => if h : ∃ i, ρ' i = j then σ1 h.choose else none
 have hσσ2 : σ.le σ2 := fun j L hj => by simp only [σ2, hj]
 have hat : ∀ i, σ (ρ' i) = none → σ2 (ρ' i) = σ1 i := fun i hn => by
  have hex : ∃ i', ρ' i' = ρ' i := ⟨i, rfl⟩
  have hc : hex.choose = i := hinj _ _ hex.choose_spec
  simp only [σ2, hn, dif_pos hex, hc]
 have hσ12 : ∀ i L, σ1 i = some L → σ2 (ρ' i) = some L := fun i L hi => by
  cases hs : σ (ρ' i) with
  | none => rw [hat i hs]; exact hi
  | some L' =>
   have hXi : X.u i = true := by
    cases hu : X.u i with
    | true => rfl
    | false =>
     have hf := hR.fin (b0 + i) (hb0 _ (by omega))
     rw [hρn i hu, hf] at hs; cases hs
   rw [hρ i hXi] at hs
   have h2 : σ1 i = some L' := hE.s i L' (Emb.cut_some hXi hs)
   rw [hi] at h2; cases h2
   rw [hρ i hXi]; exact hσσ2 _ _ hs
 have hσ21 : ∀ i L, h1.u i = true → σ2 (ρ' i) = some L → (∃ y, h1 i = some y) → σ1 i = some L := fun i L hu h2 ⟨y, hy⟩ => by
  obtain ⟨L', hL'⟩ := hR1.dom i y hy
  have := hσ12 i L' hL'
  rw [this] at h2; cases h2; exact hL'
 let m' : Nat → Option Blk := fun j => if h : ∃ i, h1.u i = true ∧ ρ' i = j then (h1 h.choose).map (Blk.mp ρ') else H j
 have hm1 : ∀ i, h1.u i = true → m' (ρ' i) = (h1 i).map (Blk.mp ρ') := fun i hu => by
  have hex : ∃ i', h1.u i' = true ∧ ρ' i' = ρ' i := ⟨i, hu, rfl⟩
  have hc : hex.choose = i := hinj _ _ hex.choose_spec.2
  simp only [m', dif_pos hex, hc]
 have hm2 : ∀ j, (¬ ∃ i, h1.u i = true ∧ ρ' i = j) → m' j = H j := fun j hn => dif_neg hn
 let u' : Nat → Bool := fun j => if ∃ i, h1.u i = true ∧ ρ' i = j then true else H.u j
 have hu1 : ∀ i, h1.u i = true → u' (ρ' i) = true := fun i hu => if_pos ⟨i, hu, rfl⟩
 have hu2 : ∀ j, (¬ ∃ i, h1.u i = true ∧ ρ' i = j) → u' j = H.u j := fun j hn => if_neg hn
 have hu3 : ∀ j, H.u j = true → u' j = true := fun j hj => by
  by_cases h : ∃ i, h1.u i = true ∧ ρ' i = j
  ·exact if_pos h
  ·rw [hu2 j h]; exact hj
 let H2 : Hp := ⟨m', u', fun j hj => by
   by_cases h : ∃ i, h1.u i = true ∧ ρ' i = j
   ·obtain ⟨i, hi, rfl⟩ := h; rw [hu1 i hi] at hj; cases hj
   ·rw [hm2 j h]; rw [hu2 j h] at hj; exact H.ok j hj,
  b0 + K, fun j hj => by
   by_cases h : ∃ i, h1.u i = true ∧ ρ' i = j
   ·obtain ⟨i, hi, rfl⟩ := h
    exfalso
    have hik : i < K := by
     rcases Nat.lt_or_ge i K with h | h
     ·exact h
     ·rw [hKc i h] at hi; cases hi
    cases hx : X.u i with
    | true => rw [hρ i hx] at hj; have := hlt0 i hx; omega
    | false => rw [hρn i hx] at hj; omega
   ·rw [hu2 j h]; exact hb0 j (by omega)⟩
 have cases2 : ∀ j y, H2 j = some y → (∃ i z, h1.u i = true ∧ ρ' i = j ∧ h1 i = some z ∧ y = z.mp ρ') ∨ ((¬ ∃ i, h1.u i = true ∧ ρ' i = j) ∧ H j = some y) := by
  intro j y hj
  by_cases h : ∃ i, h1.u i = true ∧ ρ' i = j
  ·obtain ⟨i, hi, rfl⟩ := h
   have hj : m' (ρ' i) = some y := hj
   rw [hm1 i hi] at hj
   cases hz : h1 i with
   | none => rw [hz] at hj; cases hj
   | some z => rw [hz] at hj; cases hj; exact .inl ⟨i, z, hi, rfl, hz, rfl⟩
  ·exact .inr ⟨h, (hm2 j h).symm.trans hj⟩
 have notOwn : ∀ j y L, (¬ ∃ i, h1.u i = true ∧ ρ' i = j) → H j = some y → σ j = some L → ¬ own L.b := fun j y L hn hj hL ho => by
  obtain ⟨i, b, L', hi, hL', hb⟩ := ho
  have e := hR.inj j (ρ i) y _ L L' hj (hI.blk i b hi) hL hL' hb.symm
  exact hn ⟨i, hmono i (hXu i b hi), by rw [hρ i (hXu i b hi)]; exact e.symm⟩
 have place : ∀ j y L, H j = some y → σ2 j = some L → σ j = some L := fun j y L hj hL => by
  obtain ⟨L', hL'⟩ := hR.dom j y hj
  have := hσσ2 j L' hL'
  rw [hL] at this; cases this; exact hL'
 have frz : ∀ j y L, (¬ ∃ i, h1.u i = true ∧ ρ' i = j) → H j = some y → σ j = some L → ∃ z, M1 L.b = some z := fun j y L hn hj hL => by
  obtain ⟨z, hz⟩ := hM0old L.b (hR.placed hj hL) (notOwn j y L hn hj hL)
  exact ⟨z, hE.m _ _ hz⟩
 have hMn : ∀ B, M1 B = none → M B = none := fun B hB => by
  cases hm : M B with
  | none => rfl
  | some z => have := hMM1 B z hm; rw [hB] at this; cases this
 refine ⟨σ2, M, H2, ⟨hσσ2, Mem.le_refl _, hE.size, hE.os, hE.tape, hE.output⟩, ⟨fun j hj => ?_, fun j y hj => ?_, fun B y hB => hR1.mem B y (hMM1 B y hB), fun j y L hj hL => ?_, fun j j2 yj y2 Lj L2 hj hj2 hLj hL2 hb => ?_, fun j y L hj hL => ?_, fun j y L hj hL => ?_, hR.glb⟩, ?_⟩
 ·have hj : u' j = false := hj
  have hn : ¬ ∃ i, h1.u i = true ∧ ρ' i = j := fun h => by obtain ⟨i, hi, rfl⟩ := h; rw [hu1 i hi] at hj; cases hj
  rw [hu2 j hn] at hj
  have hs := hR.fin j hj
  simp only [σ2, hs]
  split
  ·rename_i h
   refine hR1.fin _ ?_
   cases hu : h1.u h.choose with
   | false => rfl
   | true => exact absurd ⟨_, hu, h.choose_spec⟩ hn
  ·rfl
 ·rcases cases2 j y hj with ⟨i, z, hi, rfl, hz, rfl⟩ | ⟨hn, h3⟩
  ·obtain ⟨L, hL⟩ := hR1.dom i z hz
   exact ⟨L, hσ12 i L hL⟩
  ·obtain ⟨L, hL⟩ := hR.dom j y h3
   exact ⟨L, hσσ2 j L hL⟩
 ·rcases cases2 j y hj with ⟨i, z, hi, rfl, hz, rfl⟩ | ⟨hn, h3⟩
  ·exact hMn _ (hR1.sep i z L hz (hσ21 i L hi hL ⟨z, hz⟩))
  ·exact hR.sep j y L h3 (place j y L h3 hL)
 ·rcases cases2 j yj hj with ⟨i, z, hi, rfl, hz, rfl⟩ | ⟨hn, h3⟩ <;> rcases cases2 j2 y2 hj2 with ⟨i2, z2, hi2, rfl, hz2, rfl⟩ | ⟨hn2, h32⟩
  ·have := hR1.inj i i2 z z2 Lj L2 hz hz2 (hσ21 i Lj hi hLj ⟨z, hz⟩) (hσ21 i2 L2 hi2 hL2 ⟨z2, hz2⟩) hb
   rw [this]
  ·have q1 := hR1.sep i z Lj hz (hσ21 i Lj hi hLj ⟨z, hz⟩)
   obtain ⟨z', hz'⟩ := frz j2 y2 L2 hn2 h32 (place j2 y2 L2 h32 hL2)
   rw [hb, hz'] at q1; cases q1
  ·have q1 := hR1.sep i2 z2 L2 hz2 (hσ21 i2 L2 hi2 hL2 ⟨z2, hz2⟩)
   obtain ⟨z', hz'⟩ := frz j yj Lj hn h3 (place j yj Lj h3 hLj)
   rw [← hb, hz'] at q1; cases q1
  ·exact hR.inj j j2 yj y2 Lj L2 h3 h32 (place j yj Lj h3 hLj) (place j2 y2 L2 h32 hL2) hb
 ·rcases cases2 j y hj with ⟨i, z, hi, rfl, hz, rfl⟩ | ⟨hn, h3⟩
  ·exact BlkR.mp hσ12 (hbl' i z hz) (hR1.blk i z L hz (hσ21 i L hi hL ⟨z, hz⟩))
  ·have hL' := place j y L h3 hL
   exact (hR.blk j y L h3 hL').mono hσσ2 (Mem.le_refl _) (same _ (hR.placed h3 hL') (notOwn j y L hn h3 hL'))
 ·rcases cases2 j y hj with ⟨i, z, hi, rfl, hz, rfl⟩ | ⟨hn, h3⟩
  ·exact hR1.al i z L hz (hσ21 i L hi hL ⟨z, hz⟩)
  ·exact hR.al j y L h3 (place j y L h3 hL)
 ·refine ⟨v.mp ρ', hvr.mp hσ12 hpv, ρ', hρ, rfl, ⟨fun i j _ _ e => hinj i j e, fun i b hi => ?_, fun i hi => hu1 i hi⟩, fun i _ hx => ?_, fun j hj hn => ?_, hu3⟩
  ·have hui : h1.u i = true := by
    cases hu : h1.u i with
    | true => rfl
    | false => rw [h1.ok i hu] at hi; cases hi
   have := hm1 i hui
   rw [hi] at this; exact this
  ·rw [hρn i hx]; exact hb0 _ (by omega)
  ·refine hm2 j fun h => ?_
   obtain ⟨i, hi, e⟩ := h
   cases hx : X.u i with
   | true => rw [hρ i hx] at e; exact hn i hx e
   | false =>
    rw [hρn i hx] at e
    have := hb0 (b0 + i) (by omega)
    rw [e, hj] at this; cases this
end Go.L

namespace Go.L
structure Sm where
 f : FuncId
 args : List AV
 h : HT
 v : AV
 h' : HT
def updT (t : Tr (Option EB)) : List (Nat × Option EB) → Tr (Option EB)
 | [] => t
 | (i, b) :: r => updT (t.set i (some b)) r
def HT.upd (h : HT) (l : List (Nat × Option EB)) (n : Nat) : HT := ⟨updT h.t l, n⟩
def allT {α : Type} (q : Nat → α → Bool) : Tr α → Nat → Nat → Bool
 | .nil, _, _ => true
 | .node l v r, a, m => (match v with
  | none => true
  | some x => q a x) && (allT q l (Nat.add a m) (Nat.mul 2 m) && allT q r (Nat.add a (Nat.mul 2 m)) (Nat.mul 2 m))
theorem allT_ok {α : Type} {q : Nat → α → Bool} : ∀ (t : Tr α) (a m i : Nat) (x : α), allT q t a m = true → t.get i = some x → q (a + m * i) x = true := by
 intro t
 induction t with
 | nil => intro a m i x _ h; rw [Tr.get_nil] at h; cases h
 | node l v r ihl ihr =>
  intro a m i x ht hi
  simp only [allT, Bool.and_eq_true] at ht
  rw [Tr.get_node] at hi
  split at hi
  ·rename_i h0
   obtain rfl := Nat.eq_of_beq_eq_true h0
   subst hi
   rw [Nat.mul_zero, Nat.add_zero]; exact ht.1
  ·rename_i h0
   have hi0 : i ≠ 0 := fun e => by subst e; cases h0
   split at hi
   ·rename_i h4
    have h4' := Nat.eq_of_beq_eq_true h4
    have := ihl _ _ _ _ ht.2.1 hi
    have e : i = 2 * (i / 2) + 1 := by omega
    have e2 : a + m * i = Nat.add a m + Nat.mul 2 m * (i / 2) := by
     show a + m * i = a + m + 2 * m * (i / 2)
     conv => lhs; rw [e]
     rw [Nat.mul_add, Nat.mul_one, ← Nat.mul_assoc, Nat.mul_comm m 2]; omega
    rw [e2]; exact this
   ·rename_i h4
    have h4' : i % 2 ≠ 1 := fun e => by rw [e] at h4; cases h4
    have := ihr _ _ _ _ ht.2.2 hi
    have e : i = 2 * (i / 2 - 1) + 2 := by omega
    have e2 : a + m * i = Nat.add a (Nat.mul 2 m) + Nat.mul 2 m * (i / 2 - 1) := by
     show a + m * i = a + 2 * m + 2 * m * (i / 2 - 1)
     conv => lhs; rw [e]
     rw [Nat.mul_add, ← Nat.mul_assoc, Nat.mul_comm m 2]; omega
    rw [e2]; exact this
theorem allT_get {α : Type} {q : Nat → α → Bool} {t : Tr α} {i : Nat} {x : α} (h : allT q t 0 1 = true) (hi : t.get i = some x) : q i x = true := by
 have := allT_ok t 0 1 i x h hi
 rwa [Nat.zero_add, Nat.one_mul] at this
def uT (h : HT) (i : Nat) : Bool := (h.t.get i).isSome
def partB (h1 h2 : HT) (i : Nat) : Option EB → Bool
 | none => true
 | some (.b x) => blkU (uT h2) x && (match h1.t.get i with
  | some (some b) => eqB (.b x) b
  | _ => false)
 | some (.l ..) => false
def partH (h2 h1 : HT) : Bool := allT (partB h1 h2) h2.t 0 1
def covU (h0 h2 : HT) : Bool := allT (fun i _ => uT h2 i) h0.t 0 1
def isSm (s : Sm) (r : Option (List CR)) : Bool :=
 match r with
 | some [.ret v h] => eqA v s.v && (idU (uT s.h') s.v && (partH s.h' h && covU s.h s.h'))
 | _ => false
def smOf (s : Sm) (f : FuncId) (args : List AV) (h : HT) : Option (List CR) :=
 match Nat.beq f s.f with
 | true => match eqL args s.args && eqH h s.h with
  | true => some [.ret s.v s.h']
  | false => none
 | false => none
def smsOf : List Sm → FuncId → List AV → HT → Option (List CR)
 | [], _, _, _ => none
 | s :: r, f, args, h => match smOf s f args h with
  | some l => some l
  | none => smsOf r f args h
def xMS (P : Program) (hb : FuncId → Bool) (codes : Tr FC) (loops : Nat) (ss : List Sm) : Nat → Run
 | 0 => ⟨fun _ _ _ => none, fun _ _ _ => none, fun _ _ _ _ => none⟩
 | d + 1 => ⟨fun f args h => match smsOf ss f args h with
   | some l => some l
   | none => xFun P hb codes loops (xMS P hb codes loops ss d) f args h, fun c e h => xC P hb (xMS P hb codes loops ss d) loops [] c e h, xDfr P hb codes loops (xMS P hb codes loops ss d)⟩
section
variable {P : Program} {hb : FuncId → Bool}
def SmOK (P : Program) (s : Sm) : Prop := ∀ Q : Res → Hp → Prop, Q (.ret s.v) (s.h'.hp P) → CallL P s.f s.args (s.h.hp P) Q
theorem sm_ok {run : Run} (hrun : RunOK P run) {s : Sm} (hs : isSm s (run.call s.f s.args s.h) = true) : SmOK P s := by
 intro Q hQ
 unfold isSm at hs
 split at hs <;> first | cases hs | skip
 rename_i v h1 hc
 simp only [Bool.and_eq_true] at hs
 obtain ⟨hv, hid, hp, hcov⟩ := hs
 have e1 := eqA_ok _ hv
 subst e1
 refine CallL.shrink (hrun.call _ _ _ _ _ hc fun x hx => ?_)
 rw [List.mem_singleton] at hx
 subst hx
 refine ⟨_, s.h'.hp P, rfl, hQ, hid, fun i b hb => ?_, fun i hi => ?_⟩
 ·have hb' : jn P (s.h'.t.get i) = some b := hb
  cases hg : s.h'.t.get i with
  | none => rw [hg] at hb'; cases hb'
  | some o =>
   have hq := allT_get hp hg
   cases o with
   | none => rw [hg] at hb'; cases hb'
   | some eb =>
    rw [hg] at hb'
    cases eb with
    | l n t ps c d st pend => cases hq
    | b x =>
     cases hb'
     simp only [partB, Bool.and_eq_true] at hq
     obtain ⟨h2, h3⟩ := hq
     split at h3
     ·rename_i b' hg'
      have := eqB_ok h3
      subst this
      refine ⟨hp_at hg', hp_u hg, h2⟩
     ·cases h3
 ·have hi' : (s.h.t.get i).isSome = true := hi
  obtain ⟨x, hx⟩ := Option.isSome_iff_exists.1 hi'
  exact allT_get hcov hx
theorem smOf_ok {s : Sm} (hs : SmOK P s) {f : FuncId} {args : List AV} {h : HT} {l : List CR} {Q : Res → Hp → Prop} (hx : smOf s f args h = some l) (hl : ∀ x ∈ l, CRQ P Q x) : CallL P f args (h.hp P) Q := by
 unfold smOf at hx
 split at hx <;> first | cases hx | skip
 rename_i hf
 split at hx <;> cases hx
 rename_i ha
 simp only [Bool.and_eq_true] at ha
 obtain rfl := Nat.eq_of_beq_eq_true hf
 obtain rfl := eqL_ok _ ha.1
 obtain rfl := eqH_ok ha.2
 exact hs Q (hl _ (List.mem_singleton.2 rfl))
theorem smsOf_ok : ∀ {ss : List Sm}, (∀ s ∈ ss, SmOK P s) → ∀ {f : FuncId} {args : List AV} {h : HT} {l : List CR} {Q : Res → Hp → Prop}, smsOf ss f args h = some l → (∀ x ∈ l, CRQ P Q x) → CallL P f args (h.hp P) Q
 | [], _, _, _, _, _, _, hx, _ => by cases hx
 | s :: r, hs, f, args, h, l, Q, hx, hl => by
  simp only [smsOf] at hx
  split at hx
  ·rename_i l' hl'; cases hx; exact smOf_ok (hs s List.mem_cons_self) hl' hl
  ·exact smsOf_ok (fun s h => hs s (List.mem_cons_of_mem _ h)) hx hl
theorem xMS_ok {ss : List Sm} (hs : ∀ s ∈ ss, SmOK P s) {codes : Tr FC} {loops : Nat} (hk : CodesOK P codes) (hh : BodyOK P hb) : ∀ d, RunOK P (xMS P hb codes loops ss d) := by
 intro d
 induction d with
 | zero =>
  refine ⟨?_, ?_, ?_⟩
  ·intro f args h l Q hx; cases hx
  ·intro c e h l Q hx; cases hx
  ·intro f args u h l Q hx; cases hx
 | succ d ih =>
  refine ⟨fun f args h l Q hx hl => ?_, fun c e h l Q hx hQ hl => xC_ok hh ih c e h l Q hx hQ hl, fun f args u h l Q hx hl => xDfr_ok hk hh ih hx hl⟩
  have hx : (match smsOf ss f args h with
   | some l => some l
   | none => xFun P hb codes loops (xMS P hb codes loops ss d) f args h) = some l := hx
  split at hx
  ·rename_i l' hl'; cases hx; exact smsOf_ok hs hl' hl
  ·exact xFun_ok hk hh ih hx hl
theorem runS_ok {codes : Tr FC} (hk : trOK (GoodFC P) codes id) {ss : List Sm} (hs : ∀ s ∈ ss, SmOK P s) (loops d : Nat) : RunOK P (xMS P (hbOf codes) codes loops ss d) := by
 refine xMS_ok hs (fun f c hc => ?_) (fun f hf => ?_) d
 ·obtain ⟨fn, m, h1, h2, h3, _⟩ := trOK_get codes id f c hk hc
  exact ⟨fn, m, h1, h2, h3⟩
 ·cases hc : codes.get f with
  | none => simp [hbOf, hc] at hf
  | some c =>
   obtain ⟨fn, m, h1, _, h3, h4⟩ := trOK_get codes id f c hk hc
   refine ⟨fn, h1, ?_, h4⟩
   obtain ⟨full, h3, _⟩ := cutF_inv h3
   unfold compF at h3
   split at h3
   ·cases h3
   ·rename_i c' hb; rw [hb]; rfl
theorem SmOK.of {codes : Tr FC} (hk : trOK (GoodFC P) codes id) {ss : List Sm} (hs : ∀ s ∈ ss, SmOK P s) {loops d : Nat} {s : Sm} (hx : isSm s ((xMS P (hbOf codes) codes loops ss d).call s.f s.args s.h) = true) : ∀ x ∈ s :: ss, SmOK P x := by
 intro x hxs
 rcases List.mem_cons.1 hxs with rfl | hxs
 ·exact sm_ok (runS_ok hk hs loops d) hx
 ·exact hs x hxs
theorem CallL.ofRunS {codes : Tr FC} (hk : trOK (GoodFC P) codes id) {ss : List Sm} (hs : ∀ s ∈ ss, SmOK P s) {loops d : Nat} {f : FuncId} {args : List AV} {v : AV} (ha : args.all sc1 = true) (hv : scv v = true)
  (hx : (match (xMS P (hbOf codes) codes loops ss d).call f args HT.nil with | some l => l.all (isRet v) | none => false) = true) : PureL P f args v := by
 intro h
 split at hx <;> first | cases hx | skip
 rename_i l hr
 have k := (runS_ok hk hs loops d).call f args HT.nil l (fun r _ => ∃ x, r = .ret x ∧ scv x = true ∧ x = v) hr fun x hxl => by
  have h1 := List.all_eq_true.1 hx x hxl
  cases x with
  | ret x h' => have := eqA_ok _ h1; subst this; exact ⟨_, rfl, hv, rfl⟩
  | pan x h' => cases h1
 rw [HT.hp_nil] at k
 exact (CallL.closed ha (Q := fun x => x = v) k).mono fun r h' ⟨x, h1, h2, h3⟩ => ⟨by rw [h1, h2], h3⟩
end
end Go.L

namespace Go.L
def okO (h : HT) : Option EB → Bool
 | none => true
 | some (.b x) => blkU (uT h) x && blkP x
 | some (.l ..) => false
def okH (h : HT) : Bool := allT (fun _ o => okO h o) h.t 0 1
theorem okH_ok {P : Program} {h : HT} (hk : okH h = true) {i : Nat} {b : Blk} (hi : (h.hp P) i = some b) : blkU (h.hp P).u b = true ∧ blkP b = true := by
 have hi' : jn P (h.t.get i) = some b := hi
 cases hg : h.t.get i with
 | none => rw [hg] at hi'; cases hi'
 | some o =>
  have hq := allT_get hk hg
  cases o with
  | none => rw [hg] at hi'; cases hi'
  | some eb =>
   rw [hg] at hi'
   cases eb with
   | l n t ps c d st pend => cases hq
   | b x =>
    cases hi'
    simp only [okO, Bool.and_eq_true] at hq
    exact ⟨hq.1, hq.2⟩
theorem covU_ok {P : Program} {h0 h2 : HT} (hk : covU h0 h2 = true) {i : Nat} (hi : (h0.hp P).u i = true) : (h2.hp P).u i = true := by
 have hi' : (h0.t.get i).isSome = true := hi
 obtain ⟨x, hx⟩ := Option.isSome_iff_exists.1 hi'
 exact allT_get hk hx
theorem SmOK.frame {P : Program} {s : Sm} (hs : SmOK P s) (hk : (okH s.h && okH s.h' && covU s.h s.h' && idUs (uT s.h) s.args && pls s.args && pl s.v) = true) {ρ : Nat → Nat} {H : Hp} (hI : Img ρ (s.h.hp P) H) :
  CallL P s.f (mps ρ s.args) H fun r H' => ∃ ρ', (∀ i, (s.h.hp P).u i = true → ρ' i = ρ i) ∧ r = .ret (s.v.mp ρ') ∧ Img ρ' (s.h'.hp P) H' ∧ (∀ i, (s.h'.hp P).u i = true → (s.h.hp P).u i = false → H.u (ρ' i) = false) ∧
   (∀ j, H.u j = true → (∀ i, (s.h.hp P).u i = true → ρ i ≠ j) → H' j = H j) ∧ ∀ j, H.u j = true → H'.u j = true := by
 simp only [Bool.and_eq_true] at hk
 obtain ⟨⟨⟨⟨⟨k1, k2⟩, k3⟩, k4⟩, k5⟩, k6⟩ := hk
 exact CallL.frame hs hI k4 k5 k6 (fun i b hi => okH_ok k1 hi) (fun i b hi => (okH_ok k2 hi).2) fun i hi => covU_ok k3 hi
theorem Img.nil (ρ : Nat → Nat) (H : Hp) : Img ρ Hp.nil H := ⟨fun i j hi => (by cases hi), fun i b hi => (by cases hi), fun i hi => (by cases hi)⟩
theorem Img.keep {ρ : Nat → Nat} {X H H' : Hp} (k : Img ρ X H) (hf : ∀ i, X.u i = true → H' (ρ i) = H (ρ i)) (hu : ∀ j, H.u j = true → H'.u j = true) : Img ρ X H' :=
 ⟨k.inj, fun i b hi => by
  have hx : X.u i = true := by
   cases hu : X.u i with
   | true => rfl
   | false => rw [X.ok i hu] at hi; cases hi
  exact (hf i hx).trans (k.blk i b hi), fun i hi => hu _ (k.used i hi)⟩
theorem Img.gr {ρ : Nat → Nat} {X H H' : Hp} (k : Img ρ X H) (g : Gr H H') : Img ρ X H' := k.keep (fun i hi => g.m _ (k.used i hi)) g.u
mutual
theorem AV.mp_congr {u : Nat → Bool} {ρ ρ' : Nat → Nat} (he : ∀ i, u i = true → ρ i = ρ' i) : ∀ v : AV, idU u v = true → v.mp ρ = v.mp ρ'
 | .ptr i k o, h => by rw [AV.mp, AV.mp, he i h]
 | .slc i k n c, h => by rw [AV.mp, AV.mp, he i h]
 | .map i, h => by rw [AV.mp, AV.mp, he i h]
 | .yld i, h => rfl
 | .iptr g cs o, h => rfl
 | .isl g es, h => rfl
 | .func f x y, h => by
  simp only [idU, Bool.and_eq_true] at h
  rw [AV.mp, AV.mp, mps_congr he x h.1, mps_congr he y h.2]
 | .ifc t v, h => by rw [AV.mp, AV.mp, AV.mp_congr he v h]
 | .agg cs, h => by rw [AV.mp, AV.mp, mps_congr he cs h]
 | .tup cs, h => by rw [AV.mp, AV.mp, mps_congr he cs h]
 | .bool b, _ => rfl
 | .int k n, _ => rfl
 | .flt k n, _ => rfl
 | .str s, _ => rfl
 | .nilp, _ => rfl
 | .nils, _ => rfl
 | .emp, _ => rfl
 | .nilm, _ => rfl
 | .nilf, _ => rfl
 | .nili, _ => rfl
 | .any, _ => rfl
theorem mps_congr {u : Nat → Bool} {ρ ρ' : Nat → Nat} (he : ∀ i, u i = true → ρ i = ρ' i) : ∀ l : List AV, idUs u l = true → mps ρ l = mps ρ' l
 | [], _ => rfl
 | v :: l, h => by
  simp only [idUs, Bool.and_eq_true] at h
  rw [mps, mps, AV.mp_congr he v h.1, mps_congr he l h.2]
end
theorem mpss_congr {u : Nat → Bool} {ρ ρ' : Nat → Nat} (he : ∀ i, u i = true → ρ i = ρ' i) : ∀ l : List (List AV), idUss u l = true → mpss ρ l = mpss ρ' l
 | [], _ => rfl
 | v :: l, h => by
  simp only [idUss, Bool.and_eq_true] at h
  rw [mpss, mpss, mps_congr he v h.1, mpss_congr he l h.2]
theorem Blk.mp_congr {u : Nat → Bool} {ρ ρ' : Nat → Nat} (he : ∀ i, u i = true → ρ i = ρ' i) {b : Blk} (h : blkU u b = true) : b.mp ρ = b.mp ρ' := by
 cases b with
 | row T es => rw [Blk.mp, Blk.mp, mpss_congr he es h]
 | map es c =>
  rw [Blk.mp, Blk.mp]
  congr 1
  refine List.map_congr_left fun x hx => ?_
  have := List.all_eq_true.1 h x hx
  simp only [Bool.and_eq_true] at this
  rw [AV.mp_congr he _ this.1, AV.mp_congr he _ this.2]
 | _ => rfl
theorem Img.set {ρ : Nat → Nat} {X H : Hp} (k : Img ρ X H) {i0 j : Nat} (hi : X.u i0 = false) (hj : H.u j = false) {b : Blk} (hX : ∀ i c, X i = some c → blkU X.u c = true) (hb : blkU X.u b = true) :
  Img (fun i => if i = i0 then j else ρ i) (X.set i0 b) (H.set j (b.mp ρ)) := by
 have hne : ∀ i, X.u i = true → i ≠ i0 := fun i h e => by rw [e, hi] at h; cases h
 have hnj : ∀ i, X.u i = true → ρ i ≠ j := fun i h e => by have := k.used i h; rw [e, hj] at this; cases this
 have hXu : ∀ i c, X i = some c → X.u i = true := fun i c h => by
  cases hu : X.u i with
  | true => rfl
  | false => rw [X.ok i hu] at h; cases h
 have hc : ∀ i, X.u i = true → ρ i = (if i = i0 then j else ρ i) := fun i h => (if_neg (hne i h)).symm
 have hu : ∀ i, (X.set i0 b).u i = true → i = i0 ∨ X.u i = true := fun i h => by
  rw [Hp.set_u] at h
  split at h
  ·rename_i e; exact .inl e
  ·exact .inr h
 refine ⟨fun i i' h h' e => ?_, fun i c h => ?_, fun i h => ?_⟩
 ·rcases hu i h with rfl | h1 <;> rcases hu i' h' with rfl | h2
  ·rfl
  ·rw [if_pos rfl, if_neg (hne i' h2)] at e; exact absurd e.symm (hnj i' h2)
  ·rw [if_pos rfl, if_neg (hne i h1)] at e; exact absurd e (hnj i h1)
  ·rw [if_neg (hne i h1), if_neg (hne i' h2)] at e; exact k.inj i i' h1 h2 e
 ·by_cases e : i = i0
  ·subst e
   rw [Hp.set_same] at h; cases h
   rw [if_pos rfl, Hp.set_same, Blk.mp_congr hc hb]
  ·rw [Hp.set_ne e] at h
   rw [if_neg e, Hp.set_ne (hnj i (hXu i c h)), ← Blk.mp_congr hc (hX i c h)]
   exact k.blk i c h
 ·rcases hu i h with rfl | h1
  ·rw [if_pos rfl, Hp.set_u, if_pos rfl]
  ·rw [if_neg (hne i h1), Hp.set_u, k.used i h1]; simp
def FrQ (ρ : Nat → Nat) (X X' : Hp) (v : AV) (H : Hp) (r : Res) (H' : Hp) : Prop := ∃ ρ', (∀ i, X.u i = true → ρ' i = ρ i) ∧ r = .ret (v.mp ρ') ∧ Img ρ' X' H' ∧ (∀ i, X'.u i = true → X.u i = false → H.u (ρ' i) = false) ∧
 (∀ j, H.u j = true → (∀ i, X.u i = true → ρ i ≠ j) → H' j = H j) ∧ ∀ j, H.u j = true → H'.u j = true
structure Out (ρ : Nat → Nat) (X H : Hp) (B : Nat) : Prop where
 used : H.u B = true
 no : ∀ i, X.u i = true → ρ i ≠ B
theorem Out.new {ρ : Nat → Nat} {X H H' : Hp} {B : Nat} (k : Img ρ X H) (hB : H.u B = false) (hu : H'.u B = true) : Out ρ X H' B := ⟨hu, fun i hi e => by have := k.used i hi; rw [e, hB] at this; cases this⟩
theorem Out.gr {ρ : Nat → Nat} {X H H' : Hp} {B : Nat} (k : Out ρ X H B) (g : Gr H H') : Out ρ X H' B := ⟨g.u _ k.used, k.no⟩
theorem Out.step {ρ ρ' : Nat → Nat} {X X' H H' : Hp} {B : Nat} (k : Out ρ X H B) (h1 : ∀ i, X.u i = true → ρ' i = ρ i) (h2 : ∀ i, X'.u i = true → X.u i = false → H.u (ρ' i) = false) (h3 : ∀ j, H.u j = true → (∀ i, X.u i = true → ρ i ≠ j) → H' j = H j) (h4 : ∀ j, H.u j = true → H'.u j = true) :
  H' B = H B ∧ Out ρ' X' H' B := by
 refine ⟨h3 B k.used k.no, h4 B k.used, fun i hi e => ?_⟩
 cases hx : X.u i with
 | true => exact k.no i hx (by rw [← h1 i hx]; exact e)
 | false => have := h2 i hi hx; rw [e, k.used] at this; cases this
theorem SmOK.frQ {P : Program} {s : Sm} (hs : SmOK P s) (hk : (okH s.h && okH s.h' && covU s.h s.h' && idUs (uT s.h) s.args && pls s.args && pl s.v) = true) {ρ : Nat → Nat} {X X' H : Hp} (hX : X = s.h.hp P) (hX' : X' = s.h'.hp P) (hI : Img ρ X H) {f : FuncId} {args : List AV} {v : AV} (hf : s.f = f) (ha : s.args = args) (hv : s.v = v) :
  CallL P f (mps ρ args) H (FrQ ρ X X' v H) := by
 subst hX hX' hf ha hv
 exact SmOK.frame hs hk hI
end Go.L

namespace Go.L
structure GrX (i : Nat) (h h' : Hp) : Prop where
 m : ∀ x, h.u x = true → x ≠ i → h' x = h x
 u : ∀ x, h.u x = true → h'.u x = true
theorem GrX.refl (i : Nat) (h : Hp) : GrX i h h := ⟨fun _ _ _ => rfl, fun _ h => h⟩
theorem GrX.set {i : Nat} {h h' : Hp} (k : GrX i h h') (b : Blk) : GrX i h (h'.set i b) :=
 ⟨fun x hx hi => (Hp.set_ne hi).trans (k.m x hx hi), fun x hx => by rw [Hp.set_u, k.u x hx]; simp⟩
theorem GrX.new {i j : Nat} {h h' : Hp} (k : GrX i h h') (hj : h'.u j = false) (b : Blk) : GrX i h (h'.set j b) :=
 ⟨fun x hx hi => (Hp.set_ne (ne_of_u (k.u x hx) hj)).trans (k.m x hx hi), fun x hx => by rw [Hp.set_u, k.u x hx]; simp⟩
theorem GrX.old {i j : Nat} {h h' : Hp} (k : GrX i h h') (hj : h.u j = false) (b : Blk) : GrX i h (h'.set j b) :=
 ⟨fun x hx hi => (Hp.set_ne (ne_of_u hx hj)).trans (k.m x hx hi), fun x hx => by rw [Hp.set_u, k.u x hx]; simp⟩
theorem GrX.trans {i : Nat} {a b c : Hp} (h : GrX i a b) (k : GrX i b c) : GrX i a c :=
 ⟨fun x hx hi => (k.m x (h.u x hx) hi).trans (h.m x hx hi), fun x hx => k.u x (h.u x hx)⟩
def InsQ (T : TypeId) (i : Nat) (h : Hp) (es : List (List AV)) (r : Res) (h' : Hp) : Prop :=
 ∃ j, r = .ret (.slc j 0 es.length none) ∧ h.u j = false ∧ h' j = some (.row T es) ∧ GrX i h h'
section
variable {P : Program}
theorem CallL.openCap {f : FuncId} {i n : Nat} {T : TypeId} {es es' : List (List AV)} {rest : List AV} {h : Hp} (hT : (P.info? T).map (·.size) = some 1) (hi : h i = some (.row T es)) (hn : n ≤ es.length)
  (k : ∀ c, n ≤ c → CallL P f (.slc i 0 n (some c) :: rest) (h.set i (.row T (es.take n ++ List.replicate (c - n) [.any]))) fun r h' =>
   (∃ sp, r = .ret (.slc i 0 es'.length (some c)) ∧ es'.length ≤ c ∧ h' i = some (.row T (es' ++ sp)) ∧ GrX i h h') ∨
   (∃ j, r = .ret (.slc j 0 es'.length none) ∧ h.u j = false ∧ h' j = some (.row T es') ∧ GrX i h h')) :
  CallL P f (.slc i 0 n none :: rest) h (InsQ T i h es') := by
 constructor
 intro σ M w args' hR hA
 obtain ⟨v0, hv0, hv⟩ := hA.2 0 _ rfl
 obtain ⟨L, a, c', rfl, hL, ha, hnc, hk, hu⟩ := hv.slc_inv
 have hu := hu rfl
 obtain ⟨C, F, hb, hsz, hLz, hcap, hes, hF⟩ := hR.blk i _ L hi hL
 have hz : L.z = 1 := by
  rw [hT] at hLz; exact (Option.some.inj hLz).symm
 rw [hz] at hcap hu
 have hR2 : R P σ M (h.set i (.row T (es.take n ++ List.replicate (c' - n) [.any]))) w := by
  refine hR.upd hi hL (fun _ _ => rfl) ⟨C, F, hb, hsz, hLz, ?_, fun k cs hk => ?_, hF⟩
  ·rw [hz, List.length_append, List.length_take, List.length_replicate]; omega
  ·by_cases hkn : k < n
   ·rw [List.getElem?_append_left (by rw [List.length_take]; omega), List.getElem?_take_of_lt hkn] at hk
    exact hes k cs hk
   ·have hkl := (List.getElem?_eq_some_iff.1 hk).1
    rw [List.length_append, List.length_take, List.length_replicate] at hkl
    rw [List.getElem?_append_right (by rw [List.length_take]; omega), List.getElem?_replicate] at hk
    split at hk
    ·cases hk
     rw [hz, Nat.mul_one]
     refine ⟨⟨by rw [Array.size_extract]; show min (L.o + k + 1) C.size - (L.o + k) = 1; omega, fun j v hj => ?_⟩, rfl⟩
     cases j with
     | succ j => simp at hj
     | zero =>
      cases hj
      refine ⟨C.getD (L.o + k) undef, ?_, .any _⟩
      have hlt : L.o + k < C.size := by omega
      rw [Array.getElem?_extract, if_pos (by omega), Nat.add_zero]
      simp [Array.getD_eq_getD_getElem?, Array.getElem?_eq_getElem hlt]
    ·cases hk
 have hA2 : VRs σ M (.slc i 0 n (some c') :: rest) args' := by
  refine ⟨hA.1, fun j v hj => ?_⟩
  cases j with
  | zero => cases hj; exact ⟨_, hv0, .slc i 0 n (some c') L a c' hL ha hnc (fun x hx => by cases hx; rfl) (fun h => by cases h)⟩
  | succ j => exact hA.2 (j + 1) v hj
 have hui : h.u i = true := Hp.used hi
 refine ((k c' hnc).run σ M w args' hR2 hA2).mono ?_
 rintro e w' ⟨σ', M', h1, hE, hR1, hend⟩
 cases e with
 | panicked ch => obtain ⟨v, v', _, _, ⟨_, e1, _⟩ | ⟨_, e1, _⟩⟩ := hend <;> cases e1
 | outgrown => exact hend.elim
 | returned v' =>
  obtain ⟨v, hvv, ⟨sp, e1, hle, hi1, hg⟩ | ⟨j, e1, hj, hj1, hg⟩⟩ := hend
  ·cases e1
   have hL1 : σ' i = some L := hE.s i L hL
   obtain ⟨i2, hf2⟩ := h1.free
   have hσ2 : σ' i2 = none := hR1.fin i2 hf2.1
   have hne : i ≠ i2 := fun e => by rw [← e, hL1] at hσ2; cases hσ2
   obtain ⟨C1, F1, hb1, hsz1, _, hcap1, hes1, hF1⟩ := hR1.blk i _ L hi1 hL1
   have hd := hR1.del i
   have hp := hd.place (j := i2) (b := .row T es') (L := L) hσ2 (hR1.sep i _ L hi1 hL1)
    (fun x b L' hx hL' he => by
     by_cases e : x = i
     ·subst e; simp at hx
     ·rw [Hp.del_ne e] at hx; exact e (hR1.inj x i b _ L' L hx hi1 hL' hL1 he))
    (by
     refine BlkR.mono (σ := σ') (M := M') (w := w') (Emb.le_set hσ2) M'.le_refl (rfl) ⟨C1, F1, hb1, hsz1, hLz, ?_, fun k cs hk => ?_, hF1⟩
     ·rw [List.length_append] at hcap1
      have : es'.length * L.z ≤ (es'.length + sp.length) * L.z := Nat.mul_le_mul_right _ (by omega)
      omega
     ·exact hes1 k cs (by rw [List.getElem?_append_left (List.getElem?_eq_some_iff.1 hk).1]; exact hk))
    (hR1.al i _ L hi1 hL1)
   obtain ⟨L2, a2, c2, e2, hL2, ha2, hn2, hk2, _⟩ := hvv.slc_inv
   rw [hL1] at hL2; cases hL2
   obtain rfl := hk2 c' rfl
   refine ⟨σ'.set i2 L, M', (h1.del i).set i2 (.row T es'), hE.trans ⟨Emb.le_set hσ2, M'.le_refl, Nat.le_refl _, rfl, rfl, rfl⟩, hp, .slc i2 0 es'.length none, ?_, i2, rfl, ?_, Hp.set_same _ _ _, ?_⟩
   ·rw [e2]
    exact .slc i2 0 es'.length none L a2 c2 (by simp) ha2 hn2 (fun x hx => by cases hx) (fun _ => by rw [hz]; omega)
   ·cases hu2 : h.u i2 with
    | false => rfl
    | true => have := hg.u i2 hu2; rw [hf2.1] at this; cases this
   ·refine ⟨fun x hx hxi => ?_, fun x hx => ?_⟩
    ·rw [Hp.set_ne (ne_of_u (hg.u x hx) hf2.1), Hp.del_ne hxi]; exact hg.m x hx hxi
    ·rw [Hp.set_u, Hp.del_u, hg.u x hx]; simp
  ·cases e1
   exact ⟨σ', M', h1, hE, hR1, _, hvv, j, rfl, hj, hj1, hg⟩
end
end Go.L

namespace Go.Proofs.YtghlipffncbagaaGreatDoor
open Go.L
abbrev F_lexiconlaw11_works : Nat := 4
def A_lexiconlaw11_works_0 : LA := [o_ 13 (.call 8 []), o_ 14 (.call 5 [(.t 13)]), mv 1 14]
def A_lexiconlaw11_works_1 : LA := [mv 15 1, o_ 16 (.isnil .pt false (.t 15))]
def A_lexiconlaw11_works_2 : LA := [o_ 17 (.build [.int .u64 (0), .str [], .nils] [(0, 1, (.c (.int .u64 18446744073709551615)))]), o_ 18 (.bslice 46 3 1 [.int .u64 (0), .str [], .nils] [(0, 3, (.t 17))]), o_ 19 (.build [.int .i32 (0), .nils, .nils] [(0, 1, (.c (.int .i32 1))), (2, 1, (.t 18))]), o_ 2 (.box 52 3 (.c (.agg [.int .i32 (0), .nils, .nils]))), Wt 3 2 19]
def A_lexiconlaw11_works_3 : LA := [o_ 20 (.build [.int .u64 (0), .str [], .nils] [(0, 1, (.c (.int .u64 1)))]), o_ 21 (.build [.int .u64 (0), .str [], .nils] [(0, 1, (.c (.int .u64 18446744073709551615)))]), o_ 22 (.build [.int .u64 (0), .str [], .nils] [(0, 1, (.c (.int .u64 150)))]), o_ 23 (.bslice 46 3 3 [.int .u64 (0), .str [], .nils] [(0, 3, (.t 20)), (3, 3, (.t 21)), (6, 3, (.t 22))]), o_ 24 (.build [.int .i32 (0), .nils, .nils] [(0, 1, (.c (.int .i32 2))), (2, 1, (.t 23))]), o_ 3 (.box 52 3 (.c (.agg [.int .i32 (0), .nils, .nils]))), Wt 3 3 24]
def A_lexiconlaw11_works_4 : LA := [o_ 25 (.build [.int .u64 (0), .str [], .nils] [(1, 1, (.c (.str [120])))]), o_ 26 (.build [.int .u64 (0), .str [], .nils] []), o_ 27 (.bslice 46 3 2 [.int .u64 (0), .str [], .nils] [(0, 3, (.t 25)), (3, 3, (.t 26))]), o_ 28 (.build [.int .u64 (0), .str [], .nils] []), o_ 29 (.build [.int .u64 (0), .str [], .nils] [(0, 1, (.c (.int .u64 1)))]), o_ 30 (.bslice 46 3 2 [.int .u64 (0), .str [], .nils] [(0, 3, (.t 28)), (3, 3, (.t 29))]), o_ 31 (.build [.int .i32 (0), .nils, .nils] [(0, 1, (.c (.int .i32 3))), (1, 1, (.t 27)), (2, 1, (.t 30))]), o_ 4 (.box 52 3 (.c (.agg [.int .i32 (0), .nils, .nils]))), Wt 3 4 31]
def A_lexiconlaw11_works_5 : LA := [o_ 32 (.build [.str [], .nils, .nils] [(0, 1, (.c (.str [77])))]), o_ 33 (.bslice 55 3 1 [.str [], .nils, .nils] [(0, 3, (.t 32))]), o_ 34 (.build [.int .u64 (0), .str [], .nils] [(2, 1, (.t 33))]), o_ 35 (.bslice 46 3 1 [.int .u64 (0), .str [], .nils] [(0, 3, (.t 34))]), o_ 36 (.build [.int .i32 (0), .nils, .nils] [(0, 1, (.c (.int .i32 4))), (2, 1, (.t 35))]), o_ 5 (.box 52 3 (.c (.agg [.int .i32 (0), .nils, .nils]))), Wt 3 5 36]
def A_lexiconlaw11_works_6 : LA := [Wd 37 3 2, Wd 38 3 3, Wd 39 3 4, Wd 40 3 5, o_ 41 (.bslice 52 3 4 [.int .i32 (0), .nils, .nils] [(0, 3, (.t 37)), (3, 3, (.t 38)), (6, 3, (.t 39)), (9, 3, (.t 40))]), o_ 42 (.bslice 5 1 2 [.int .u8 0] [(0, 1, (.c (.int .u8 40))), (1, 1, (.c (.int .u8 7)))]), o_ 43 (.build [.str [], .nils, .nils] [(0, 1, (.c (.str [77]))), (1, 1, (.t 41)), (2, 1, (.t 42))]), o_ 6 (.box 55 3 (.c (.agg [.str [], .nils, .nils]))), Wt 3 6 43]
def A_lexiconlaw11_works_7 : LA := [mv 45 1, o_ 46 (.mkifc 29 (.t 45)), Wd 47 3 6, o_ 48 (.call 6 [(.t 46), (.t 47)]), mv 44 48, Wx 49 0 44, Wx 50 1 44, mv 7 49, mv 8 50]
def A_lexiconlaw11_works_8 : LA := [mv 52 1, o_ 53 (.mkifc 29 (.t 52)), Wd 54 3 6, o_ 55 (.call 9 [(.t 53), (.t 54)]), mv 51 55, Wx 56 0 51, Wx 57 1 51, mv 9 56, mv 10 57]
def A_lexiconlaw11_works_9 : LA := [mv 59 1, o_ 60 (.mkifc 29 (.t 59)), o_ 61 (.build [.str [], .nils, .nils] [(0, 1, (.c (.str [78])))]), o_ 62 (.call 6 [(.t 60), (.t 61)]), mv 58 62, Wx 63 0 58, Wx 64 1 58, mv 11 63, mv 12 64]
def A_lexiconlaw11_works_10 : LA := [mv 65 8, Wi 66 .eql 65 0, mv 67 66, Wgm 68 10 67, g_ 69 (.bini .eql (.t 68) (i_ 0)) 67, Wp 70 67 69, mv 71 70, Wgm 72 9 71, Wgm 73 7 71, g_ 74 (.lenl (.t 73)) 71, g_ 75 (.bini .eql (.t 72) (.t 74)) 71, Wp 76 71 75, mv 77 76, Wgm 78 7 77, g_ 79 (.b2s (.t 78)) 77, g_ 80 (.bins .eql (.t 79) (.c (.str [8, 255, 255, 255, 255, 255, 255, 255, 255, 255, 1, 18, 4, 2, 1, 172, 2, 26, 4, 10, 0, 16, 1, 26, 5, 10, 1, 120, 16, 0, 34, 0, 40, 7]))) 77, Wp 81 77 80, mv 82 81, Wgm 83 11 82, g_ 84 (.lenl (.t 83)) 82, g_ 85 (.bini .eql (.t 84) (i_ 0)) 82, Wp 86 82 85, mv 87 86, Wgm 88 12 87, g_ 89 (.bini .eql (.t 88) (i_ 100)) 87, Wp 90 87 89, mv 0 90]
def A_lexiconlaw11_works : ACode := (.seq (.ops [Wo 0 false]) (.seq (.ops A_lexiconlaw11_works_0) (.seq (.seq (.ops A_lexiconlaw11_works_1) (.cond (.t 16) .bad .skip)) (.seq (.ops A_lexiconlaw11_works_2) (.seq (.ops A_lexiconlaw11_works_3) (.seq (.ops A_lexiconlaw11_works_4) (.seq (.ops A_lexiconlaw11_works_5) (.seq (.ops A_lexiconlaw11_works_6) (.seq (.ops A_lexiconlaw11_works_7) (.seq (.ops A_lexiconlaw11_works_8) (.seq (.ops A_lexiconlaw11_works_9) (.seq (.ops A_lexiconlaw11_works_10) .ret))))))))))))
def T_lexiconlaw11_works : FC := ⟨91, A_lexiconlaw11_works, [.tmp 0]⟩
abbrev F_q5 : Nat := 5
def A_q5_0 : LA := [mv 6 0, o_ 7 (.call 10 [(.t 6)]), mv 5 7, Wx 8 0 5, Wx 9 1 5, o_ 4 (.box 63 2 (.c (.agg [.int .i64 (0), .str []]))), mv 3 8, Wt 2 4 9]
def A_q5_1 : LA := [mv 10 3, o_ 11 (.isnil .pt false (.t 10))]
def A_q5_2 : LA := [mv 12 3, o_ 13 (.call 11 [(.t 12)]), mv 2 13]
def A_q5 : ACode := (.seq (.ops [o_ 2 (.mov (.c (.nilp)))]) (.seq (.ops A_q5_0) (.seq (.seq (.ops A_q5_1) (.cond (.t 11) .bad .skip)) (.seq (.ops A_q5_2) .ret))))
def T_q5 : FC := ⟨14, A_q5, [.tmp 2]⟩
abbrev F_q6 : Nat := 6
def A_q6_0 : LA := [o_ 3 (.box 55 3 (.t 1)), Wn 4, Wm 5 0]
def A_q6_1 : LA := [mv 12 0, Wd 13 3 3, o_ 14 (.call 12 [(.t 12), (.t 13)]), mv 11 14, Wx 15 0 11, Wx 16 1 11, o_ 6 (.box 55 3 (.c (.agg [.str [], .nils, .nils]))), Wt 3 6 15, mv 7 16]
def A_q6_2 : LA := [mv 17 7, Wi 18 .neq 17 0]
def A_q6_3 : LA := [mv 19 7, Wn 4, mv 5 19]
def A_q6_4 : LA := [o_ 21 (.call 13 [(i_ 16777216)]), mv 20 21, Wx 22 0 20, Wx 23 1 20, mv 8 22, mv 9 23]
def A_q6_5 : LA := [mv 24 8, mv 25 0, o_ 26 (.call 14 []), o_ 27 (.build [.nilp, .nili, .nilm] [(0, 1, (.t 24)), (1, 1, (.t 25)), (2, 1, (.t 26))]), Wd 29 3 6, o_ 28 (.box 78 3 (.t 27)), o_ 30 (.call 15 [(.t 28), (.t 29)])]
def A_q6_6 : LA := [mv 24 8, mv 25 0, Wd 29 3 6, o_ 26 (.call 14 []), o_ 27 (.build [.nilp, .nili, .nilm] [(0, 1, (.t 24)), (1, 1, (.t 25)), (2, 1, (.t 26))]), o_ 28 (.box 78 3 (.t 27)), o_ 30 (.call 15 [(.t 28), (.t 29)])]
def A_q6_7 : LA := [mv 32 8, o_ 33 (.call 16 [(.t 32)]), mv 31 33, Wx 34 0 31, Wx 35 1 31, mv 10 34, mv 7 35]
def A_q6_8 : LA := [mv 36 7, Wi 37 .neq 36 0]
def A_q6_9 : LA := [mv 38 10, mv 4 38, Wm 5 0]
def A_q6 : ACode := (.seq (.ops A_q6_0) (.seq (.ops A_q6_1) (.seq (.seq (.ops A_q6_2) (.cond (.t 18) (.seq (.ops A_q6_3) .ret) .skip)) (.seq (.ops A_q6_4) (.seq (.alts [24, 25, 26, 27, 28, 29, 30] [A_q6_5, A_q6_6]) (.seq (.ops A_q6_7) (.seq (.seq (.ops A_q6_8) (.cond (.t 37) .bad .skip)) (.seq (.ops A_q6_9) .ret))))))))
def T_q6 : FC := ⟨39, A_q6, [.tmp 4, .tmp 5]⟩
abbrev F_q7 : Nat := 7
def A_q7_0 : LA := [mv 3 0, o_ 4 (.bini .or (.t 3) (.c (.int .u64 1))), o_ 5 (.call 17 [(.t 4)]), Wi 6 .add 5 6, Wi 7 .quo 6 7, mv 2 7]
def A_q7 : ACode := (.seq (.ops [Wm 2 0]) (.seq (.ops A_q7_0) .ret))
def T_q7 : FC := ⟨8, A_q7, [.tmp 2]⟩
abbrev F_q8 : Nat := 8
def A_q8_0 : LA := [o_ 2 (.build [.str [], .nils, .nils, .nils, .nils, .nils, .nils] [(0, 1, (.c (.str [77])))]), o_ 1 (.box 37 7 (.c (.agg [.str [], .nils, .nils, .nils, .nils, .nils, .nils]))), Wt 7 1 2]
def A_q8_1 : LA := [Wf 3 1 1, Wl 4 3, o_ 5 (.build [.str [], .int .i32 (0), .int .u8 (0), .int .u8 (0), .str [], .int .u8 (0), .int .i64 (0), .int .u8 (0), .str []] [(0, 1, (.c (.str [97]))), (1, 1, (.c (.int .i32 1))), (2, 1, (.c (.int .u8 1))), (3, 1, (.c (.int .u8 5)))]), o_ 6 (.bslice 28 9 1 [.str [], .int .i32 (0), .int .u8 (0), .int .u8 (0), .str [], .int .u8 (0), .int .i64 (0), .int .u8 (0), .str []] [(0, 9, (.t 5))]), o_ 7 (.app 28 9 80 (.t 4) (.t 6)), Wf 8 1 1, Wt 1 8 7]
def A_q8_2 : LA := [Wf 9 1 1, Wl 10 9, o_ 11 (.build [.str [], .int .i32 (0), .int .u8 (0), .int .u8 (0), .str [], .int .u8 (0), .int .i64 (0), .int .u8 (0), .str []] [(0, 1, (.c (.str [98]))), (1, 1, (.c (.int .i32 2))), (2, 1, (.c (.int .u8 3))), (3, 1, (.c (.int .u8 17)))]), o_ 12 (.bslice 28 9 1 [.str [], .int .i32 (0), .int .u8 (0), .int .u8 (0), .str [], .int .u8 (0), .int .i64 (0), .int .u8 (0), .str []] [(0, 9, (.t 11))]), o_ 13 (.app 28 9 80 (.t 10) (.t 12)), Wf 14 1 1, Wt 1 14 13]
def A_q8_3 : LA := [Wf 15 1 1, Wl 16 15, o_ 17 (.build [.str [], .int .i32 (0), .int .u8 (0), .int .u8 (0), .str [], .int .u8 (0), .int .i64 (0), .int .u8 (0), .str []] [(0, 1, (.c (.str [99]))), (1, 1, (.c (.int .i32 3))), (2, 1, (.c (.int .u8 4))), (5, 1, (.c (.int .u8 9))), (3, 1, (.c (.int .u8 8)))]), o_ 18 (.bslice 28 9 1 [.str [], .int .i32 (0), .int .u8 (0), .int .u8 (0), .str [], .int .u8 (0), .int .i64 (0), .int .u8 (0), .str []] [(0, 9, (.t 17))]), o_ 19 (.app 28 9 80 (.t 16) (.t 18)), Wf 20 1 1, Wt 1 20 19]
def A_q8_4 : LA := [Wf 21 1 1, Wl 22 21, o_ 23 (.build [.str [], .int .i32 (0), .int .u8 (0), .int .u8 (0), .str [], .int .u8 (0), .int .i64 (0), .int .u8 (0), .str []] [(0, 1, (.c (.str [100]))), (1, 1, (.c (.int .i32 4))), (2, 1, (.c (.int .u8 2))), (3, 1, (.c (.int .u8 0))), (4, 1, (.c (.str [77])))]), o_ 24 (.bslice 28 9 1 [.str [], .int .i32 (0), .int .u8 (0), .int .u8 (0), .str [], .int .u8 (0), .int .i64 (0), .int .u8 (0), .str []] [(0, 9, (.t 23))]), o_ 25 (.app 28 9 80 (.t 22) (.t 24)), Wf 26 1 1, Wt 1 26 25]
def A_q8_5 : LA := [Wd 27 7 1, o_ 28 (.bslice 37 7 1 [.str [], .nils, .nils, .nils, .nils, .nils, .nils] [(0, 7, (.t 27))]), o_ 29 (.build [.str [], .str [], .nils, .nils, .nils] [(0, 1, (.c (.str [120]))), (3, 1, (.t 28))]), o_ 30 (.bslice 40 5 1 [.str [], .str [], .nils, .nils, .nils] [(0, 5, (.t 29))]), mv 0 30]
def A_q8 : ACode := (.seq (.ops [Wn 0]) (.seq (.ops A_q8_0) (.seq (.ops A_q8_1) (.seq (.ops A_q8_2) (.seq (.ops A_q8_3) (.seq (.ops A_q8_4) (.seq (.ops A_q8_5) .ret)))))))
def T_q8 : FC := ⟨31, A_q8, [.tmp 0]⟩
abbrev F_q9 : Nat := 9
def A_q9_0 : LA := [o_ 3 (.box 55 3 (.t 1)), Wm 4 0, Wm 5 0]
def A_q9_1 : LA := [mv 9 0, Wd 10 3 3, o_ 11 (.call 6 [(.t 9), (.t 10)]), mv 8 11, Wx 12 0 8, Wx 13 1 8, mv 6 12, mv 7 13]
def A_q9_2 : LA := [mv 14 6, We 15 14, mv 16 7, mv 4 15, mv 5 16]
def A_q9 : ACode := (.seq (.ops A_q9_0) (.seq (.ops A_q9_1) (.seq (.ops A_q9_2) .ret)))
def T_q9 : FC := ⟨17, A_q9, [.tmp 4, .tmp 5]⟩
abbrev F_q10 : Nat := 10
def A_q10_0 : LA := [o_ 2 (.box 61 1 (.c (.nilp))), o_ 3 (.box 63 2 (.c (.agg [.int .i64 (0), .str []])))]
def A_q10_1 : LA := [mv 5 0, We 6 5, Wi 7 .gtr 6 256]
def A_q10_2 : LA := [o_ 9 (.mkmap), o_ 10 (.mkmap), o_ 11 (.mkmap), o_ 12 (.mkmap), o_ 13 (.mkmap), o_ 14 (.build [.nilm, .nils, .nilm, .nilm, .nilm, .nilm] [(0, 1, (.t 9)), (2, 1, (.t 10)), (3, 1, (.t 11)), (4, 1, (.t 12)), (5, 1, (.t 13))]), o_ 15 (.box 91 6 (.t 14)), Wt 1 2 15]
def A_q10_3 : LA := [Wl 16 2, mv 17 0, o_ 18 (.call 20 [(.t 16), (.t 17)])]
def A_q10_4 : LA := [Wl 19 2, o_ 20 (.call 21 [(.t 19)])]
def A_q10_5 : LA := [Wl 21 2, o_ 22 (.call 22 [(.t 21)])]
def A_q10_6 : LA := [Wl 23 2, o_ 24 (.call 23 [(.t 23)])]
def A_q10_7 : LA := [Wl 25 2, o_ 26 (.call 24 [(.t 25)])]
def A_q10_8 : LA := [Wl 27 2, o_ 28 (.call 25 [(.t 27)])]
def A_q10_9 : LA := [Wl 29 2, o_ 30 (.build [.int .i64 (0), .str []] []), Wt 1 2 29, Wt 2 3 30]
def A_q10 : ACode := (.seq (.ops A_q10_0) (.seq (.seq (.ops [o_ 4 (.mkfn 18 [] [(.t 2), (.t 3)])]) (.dfr (.t 4) [])) (.seq (.seq (.ops A_q10_1) (.cond (.t 7) .bad .skip)) (.seq (.ops A_q10_2) (.seq (.ops A_q10_3) (.seq (.ops A_q10_4) (.seq (.ops A_q10_5) (.seq (.ops A_q10_6) (.seq (.ops A_q10_7) (.seq (.ops A_q10_8) (.seq (.ops A_q10_9) .ret)))))))))))
def T_q10 : FC := ⟨31, A_q10, [.cell1 2, .cella 3 2]⟩
abbrev F_q11 : Nat := 11
def A_q11_0 : LA := [mv 3 0, o_ 4 (.mkmap), o_ 5 (.build [.int .i32 (0), .int .u32 (0), .nilp, .nilm] [(2, 1, (.t 3)), (3, 1, (.t 4))]), o_ 6 (.box 102 4 (.t 5)), mv 2 6]
def A_q11 : ACode := (.seq (.ops [o_ 2 (.mov (.c (.nilp)))]) (.seq (.ops A_q11_0) .ret))
def T_q11 : FC := ⟨7, A_q11, [.tmp 2]⟩
abbrev F_q12 : Nat := 12
def A_q12_0 : LA := [o_ 3 (.box 55 3 (.t 1)), o_ 4 (.box 55 3 (.c (.agg [.str [], .nils, .nils]))), Wm 5 0]
def A_q12_1 : LA := [mv 9 0, Wd 10 3 3, o_ 11 (.call 26 [(.t 9), (.t 10)]), mv 8 11, Wx 12 0 8, Wx 13 1 8, mv 6 12, mv 7 13]
def A_q12_2 : LA := [mv 14 6, Wi 15 .neq 14 0]
def A_q12_3 : LA := [o_ 16 (.build [.str [], .nils, .nils] []), mv 17 6, Wt 3 4 16, mv 5 17]
def A_q12_4 : LA := [mv 18 0, Wd 19 3 3, o_ 20 (.call 27 [(.t 18), (.t 19)]), Wt 3 4 20, Wm 5 0]
def A_q12 : ACode := (.seq (.ops A_q12_0) (.seq (.seq (.ops A_q12_1) (.seq (.ops A_q12_2) (.cond (.t 15) (.seq (.ops A_q12_3) .ret) .skip))) (.seq (.ops A_q12_4) .ret)))
def T_q12 : FC := ⟨21, A_q12, [.cella 4 3, .tmp 5]⟩
abbrev F_q13 : Nat := 13
def A_q13_0 : LA := [o_ 2 (.mov (.c (.nilp))), Wm 3 0]
def A_q13_1 : LA := [mv 4 0, Wi 5 .lss 4 0, mv 6 5, Whm 7 0 6, Wh 8 (.bini .gtr (.t 7) (i_ 16777216)) 6, Wq 9 6 8]
def A_q13_2 : LA := [mv 10 0, o_ 11 (.build [.nils, .int .i64 (0), .nils, .int .i64 0] [(1, 1, (.t 10))]), o_ 12 (.box 108 4 (.t 11)), mv 2 12, Wm 3 0]
def A_q13 : ACode := (.seq (.ops A_q13_0) (.seq (.seq (.ops A_q13_1) (.cond (.t 9) .bad .skip)) (.seq (.ops A_q13_2) .ret)))
def T_q13 : FC := ⟨13, A_q13, [.tmp 2, .tmp 3]⟩
abbrev F_q14 : Nat := 14
def A_q14_0 : LA := [o_ 3 (.mkmap), o_ 1 (.box 75 1 (.c (.nilm))), Wt 1 1 3]
def A_q14_1 : LA := [o_ 4 (.mkfn 28 [] [(.t 1)]), mv 2 4]
def A_q14_2 : LA := [mv 5 2, o_ 6 (.build [.int .u8 (0), .nilf] [(0, 1, (.c (.int .u8 0))), (1, 1, (.f 29))]), o_ 7 (.bslice 25 1 6 [.int .u8 0] [(0, 1, (.c (.int .u8 5))), (1, 1, (.c (.int .u8 3))), (2, 1, (.c (.int .u8 13))), (3, 1, (.c (.int .u8 4))), (4, 1, (.c (.int .u8 8))), (5, 1, (.c (.int .u8 14)))]), o_ 8 (.callv (.t 5) [(.t 6), (.t 7)])]
def A_q14_3 : LA := [mv 9 2, o_ 10 (.build [.int .u8 (0), .nilf] [(0, 1, (.c (.int .u8 0))), (1, 1, (.f 30))]), o_ 11 (.bslice 25 1 2 [.int .u8 0] [(0, 1, (.c (.int .u8 17))), (1, 1, (.c (.int .u8 18)))]), o_ 12 (.callv (.t 9) [(.t 10), (.t 11)])]
def A_q14_4 : LA := [mv 13 2, o_ 14 (.build [.int .u8 (0), .nilf] [(0, 1, (.c (.int .u8 1))), (1, 1, (.f 31))]), o_ 15 (.bslice 25 1 3 [.int .u8 0] [(0, 1, (.c (.int .u8 6))), (1, 1, (.c (.int .u8 16))), (2, 1, (.c (.int .u8 1)))]), o_ 16 (.callv (.t 13) [(.t 14), (.t 15)])]
def A_q14_5 : LA := [mv 17 2, o_ 18 (.build [.int .u8 (0), .nilf] [(0, 1, (.c (.int .u8 5))), (1, 1, (.f 32))]), o_ 19 (.bslice 25 1 3 [.int .u8 0] [(0, 1, (.c (.int .u8 7))), (1, 1, (.c (.int .u8 15))), (2, 1, (.c (.int .u8 2)))]), o_ 20 (.callv (.t 17) [(.t 18), (.t 19)])]
def A_q14_6 : LA := [mv 21 2, o_ 22 (.build [.int .u8 (0), .nilf] [(0, 1, (.c (.int .u8 2))), (1, 1, (.f 33))]), o_ 23 (.bslice 25 1 2 [.int .u8 0] [(0, 1, (.c (.int .u8 9))), (1, 1, (.c (.int .u8 12)))]), o_ 24 (.callv (.t 21) [(.t 22), (.t 23)])]
def A_q14_7 : LA := [mv 25 2, o_ 26 (.build [.int .u8 (0), .nilf] [(0, 1, (.c (.int .u8 2))), (1, 1, (.f 34))]), o_ 27 (.bslice 25 1 1 [.int .u8 0] [(0, 1, (.c (.int .u8 11)))]), o_ 28 (.callv (.t 25) [(.t 26), (.t 27)])]
def A_q14_8 : LA := [Wl 29 1, mv 0 29]
def A_q14 : ACode := (.seq (.ops [o_ 0 (.mov (.c (.nilm)))]) (.seq (.ops A_q14_0) (.seq (.ops A_q14_1) (.seq (.ops A_q14_2) (.seq (.ops A_q14_3) (.seq (.ops A_q14_4) (.seq (.ops A_q14_5) (.seq (.ops A_q14_6) (.seq (.ops A_q14_7) (.seq (.ops A_q14_8) .ret))))))))))
def T_q14 : FC := ⟨30, A_q14, [.tmp 0]⟩
abbrev F_q15 : Nat := 15
def A_q15_0 : LA := [mv 11 0, Wc 12 11, Wf 13 1 12, Wl 14 13, Wf 15 0 3, Wl 16 15, o_ 17 (.inv [(29, 306)] (.t 14) [(.t 16)]), mv 10 17, Wx 18 0 10, Wx 19 1 10, mv 4 18, mv 5 19]
def A_q15_1 : LA := [Wf 20 1 3, Wl 21 20, We 22 21, Wm 23 0]
def A_q15_2 : LA := [Wa 25 52 3 21 23, Wd 26 3 25, o_ 7 (.box 52 3 (.c (.agg [.int .i32 (0), .nils, .nils]))), Wt 3 7 26]
def A_q15_3 : LA := [mv 28 4, Wf 29 0 7, Wl 30 29, o_ 31 (.call 35 [(.t 28), (.t 30)]), mv 27 31, Wx 32 0 27, Wx 33 1 27, o_ 8 (.box 120 9 (.c (.agg [.int .i32 (0), .str [], .str [], .int .u8 (0), .int .u8 (0), .int .u8 (0), .bool false, .int .i64 (0), .str []]))), Wt 9 8 32, mv 9 33]
def A_q15_4 : LA := [mv 34 0, Wd 35 9 8, Wd 36 3 7, o_ 37 (.call 36 [(.t 34), (.t 35), (.t 36)])]
def A_q15_5 : LA := [Wi 38 .add 23 1, mv 23 38]
def A_q15_6 : ACode := (.seq (.ops [Wb 24 .lss 23 22]) (.seq (.cond (.t 24) .skip (.exit 0)) (.seq (.block 1 (.seq (.ops A_q15_2) (.seq (.ops A_q15_3) (.ops A_q15_4)))) (.ops A_q15_5))))
def A_q15_7 : LA := [mv 39 0, Wc 40 39, Wf 41 0 40, Wl 42 41, Wf 43 2 3, Wl 44 43, o_ 45 (.call 37 [(.t 42), (.t 44)])]
def A_q15 : ACode := (.seq (.ops [o_ 3 (.box 55 3 (.t 1))]) (.seq (.alts [11, 12, 13, 14, 15, 16, 17, 10, 18, 19, 4, 5] [A_q15_0]) (.seq (.seq (.ops A_q15_1) (.block 0 (.loop A_q15_6))) (.alts [39, 40, 41, 42, 43, 44, 45] [A_q15_7]))))
def T_q15 : FC := ⟨46, A_q15, []⟩
abbrev F_q16 : Nat := 16
def A_q16_0 : LA := [Wn 2, Wm 3 0]
def A_q16_1 : LA := [mv 5 0, Wc 6 5, Wf 7 3 6, Wl 8 7, Wi 9 .neq 8 0, mv 4 9]
def A_q16_2 : LA := [mv 15 0, Wc 16 15, Wf 17 2 16, Wl 18 17, We 19 18, Wi 20 .gtr 19 0, mv 14 20]
def A_q16_3 : LA := [mv 21 0, Wc 22 21, Wf 23 0 22, Wl 24 23, o_ 25 (.call 38 [(.t 24)]), mv 2 25, Wm 3 0]
def A_q16 : ACode := (.seq (.ops A_q16_0) (.seq (.block 0 (.seq (.ops A_q16_1) (.cond (.t 4) .bad (.seq (.ops A_q16_2) (.cond (.t 14) .bad .skip))))) (.seq (.ops A_q16_3) .ret)))
def T_q16 : FC := ⟨26, A_q16, [.tmp 2, .tmp 3]⟩
abbrev F_q17 : Nat := 17
def A_q17_0 : LA := [mv 3 0, o_ 4 (.bini .geq (.t 3) (.c (.int .u64 4294967296)))]
def A_q17_1 : LA := [mv 5 0, o_ 6 (.bini .shr (.t 5) (.c (.int .u64 32))), mv 0 6]
def A_q17_2 : LA := [mv 7 0, o_ 8 (.bini .geq (.t 7) (.c (.int .u64 65536)))]
def A_q17_3 : LA := [mv 9 0, o_ 10 (.bini .shr (.t 9) (.c (.int .u64 16))), mv 0 10]
def A_q17_4 : LA := [mv 11 2, Wi 12 .add 11 16, mv 2 12]
def A_q17_5 : LA := [mv 13 0, o_ 14 (.bini .geq (.t 13) (.c (.int .u64 256)))]
def A_q17_6 : LA := [mv 15 0, o_ 16 (.bini .shr (.t 15) (.c (.int .u64 8))), mv 0 16]
def A_q17_7 : LA := [mv 17 2, Wi 18 .add 17 8, mv 2 18]
def A_q17_8 : LA := [mv 19 2, mv 20 0, o_ 21 (.conv .u8 (.t 20)), o_ 22 (.idxs (.c (.str [0, 1, 2, 2, 3, 3, 3, 3, 4, 4, 4, 4, 4, 4, 4, 4, 5, 5, 5, 5, 5, 5, 5, 5, 5, 5, 5, 5, 5, 5, 5, 5, 6, 6, 6, 6, 6, 6, 6, 6, 6, 6, 6, 6, 6, 6, 6, 6, 6, 6, 6, 6, 6, 6, 6, 6, 6, 6, 6, 6, 6, 6, 6, 6, 7, 7, 7, 7, 7, 7, 7, 7, 7, 7, 7, 7, 7, 7, 7, 7, 7, 7, 7, 7, 7, 7, 7, 7, 7, 7, 7, 7, 7, 7, 7, 7, 7, 7, 7, 7, 7, 7, 7, 7, 7, 7, 7, 7, 7, 7, 7, 7, 7, 7, 7, 7, 7, 7, 7, 7, 7, 7, 7, 7, 7, 7, 7, 7, 8, 8, 8, 8, 8, 8, 8, 8, 8, 8, 8, 8, 8, 8, 8, 8, 8, 8, 8, 8, 8, 8, 8, 8, 8, 8, 8, 8, 8, 8, 8, 8, 8, 8, 8, 8, 8, 8, 8, 8, 8, 8, 8, 8, 8, 8, 8, 8, 8, 8, 8, 8, 8, 8, 8, 8, 8, 8, 8, 8, 8, 8, 8, 8, 8, 8, 8, 8, 8, 8, 8, 8, 8, 8, 8, 8, 8, 8, 8, 8, 8, 8, 8, 8, 8, 8, 8, 8, 8, 8, 8, 8, 8, 8, 8, 8, 8, 8, 8, 8, 8, 8, 8, 8, 8, 8, 8, 8, 8, 8, 8, 8, 8, 8, 8, 8, 8, 8, 8, 8, 8, 8, 8, 8, 8, 8, 8, 8])) (.t 21)), o_ 23 (.conv .i64 (.t 22)), Wb 24 .add 19 23, mv 2 24]
def A_q17 : ACode := (.seq (.ops [Wm 2 0]) (.seq (.seq (.ops A_q17_0) (.cond (.t 4) (.seq (.ops A_q17_1) (.ops [Wm 2 32])) .skip)) (.seq (.seq (.ops A_q17_2) (.cond (.t 8) (.seq (.ops A_q17_3) (.ops A_q17_4)) .skip)) (.seq (.seq (.ops A_q17_5) (.cond (.t 14) (.seq (.ops A_q17_6) (.ops A_q17_7)) .skip)) (.seq (.ops A_q17_8) .ret)))))
def T_q17 : FC := ⟨25, A_q17, [.tmp 2]⟩
abbrev F_q18 : Nat := 18
def A_q18_0 : LA := [mv 6 2, o_ 7 (.isnil .ic true (.t 6))]
def A_q18 : ACode := (.seq (.recv (some 5) [(some 2, (.t 5))]) (.seq (.ops A_q18_0) (.cond (.t 7) .bad .skip)))
def T_q18 : FC := ⟨18, A_q18, []⟩
abbrev F_q20 : Nat := 20
def A_q20_0 : LA := [mv 10 1, We 11 10, Wm 12 0]
def A_q20_1 : LA := [Wa 14 40 5 10 12, Wd 15 5 14, o_ 6 (.box 40 5 (.c (.agg [.str [], .str [], .nils, .nils, .nils]))), Wt 5 6 15]
def A_q20_2 : LA := [mv 16 0, Wc 17 16, Wf 18 0 17, Wl 19 18, Wf 20 0 6, Wl 21 20, o_ 22 (.mlook .s (.nilp) false (.t 19) (.t 21)), o_ 23 (.isnil .pt true (.t 22))]
def A_q20_3 : LA := [mv 29 0, Wc 30 29, Wf 31 0 30, Wl 32 31, Wf 33 0 6, Wl 34 33, Wd 35 5 6, o_ 36 (.acall 39 [(.t 35)]), o_ 37 (.mkmap), o_ 38 (.mkmap), o_ 39 (.build [.str [], .str [], .nils, .nils, .nils, .nilm, .nilm] [(0, 5, (.t 36)), (5, 1, (.t 37)), (6, 1, (.t 38))]), o_ 40 (.box 131 7 (.t 39)), n_ (.mupd .s (.t 32) (.t 34) (.t 40))]
def A_q20_4 : LA := [Wi 41 .add 12 1, mv 12 41]
def A_q20_5 : ACode := (.seq (.ops [Wb 13 .lss 12 11]) (.seq (.cond (.t 13) .skip (.exit 0)) (.seq (.block 1 (.seq (.ops A_q20_1) (.seq (.seq (.alts [16, 17, 18, 19, 20, 21, 22, 23] [A_q20_2]) (.cond (.t 23) .bad .skip)) (.alts [29, 30, 31, 32, 33, 34, 35, 36, 37, 38, 39, 40] [A_q20_3])))) (.ops A_q20_4))))
def A_q20_6 : LA := [mv 42 4, We 43 42, Wi 44 .gtr 43 0]
def A_q20_7 : LA := [mv 48 0, o_ 49 (.call 41 [(.t 48)]), We 50 49, Wm 51 0]
def A_q20_8 : LA := [Wa 53 9 1 49 51, Wl 54 53, mv 8 54]
def A_q20_9 : LA := [mv 55 0, Wc 56 55, Wf 57 0 56, Wl 58 57, mv 59 8, o_ 60 (.mlook .s (.nilp) false (.t 58) (.t 59)), Wc 61 60, Wf 62 0 61, Wd 63 5 62, o_ 64 (.call 42 [(.t 63)]), o_ 9 (.box 63 2 (.c (.agg [.int .i64 (0), .str []]))), Wt 2 9 64]
def A_q20_10 : LA := [Wf 65 0 9, Wl 66 65, Wi 67 .neq 66 0]
def A_q20_11 : LA := [Wi 71 .add 51 1, mv 51 71]
def A_q20_12 : ACode := (.seq (.ops [Wb 52 .lss 51 50]) (.seq (.cond (.t 52) .skip (.exit 2)) (.seq (.block 3 (.seq (.ops A_q20_8) (.seq (.ops A_q20_9) (.seq (.ops A_q20_10) (.cond (.t 67) .bad .skip))))) (.ops A_q20_11))))
def A_q20 : ACode := (.seq (.ops [Wn 4]) (.seq (.seq (.ops A_q20_0) (.block 0 (.loop A_q20_5))) (.seq (.seq (.ops A_q20_6) (.cond (.t 44) .bad .skip)) (.seq (.ops A_q20_7) (.block 2 (.loop A_q20_12))))))
def T_q20 : FC := ⟨72, A_q20, []⟩
abbrev F_q21 : Nat := 21
def A_q21_0 : LA := [mv 6 0, o_ 7 (.call 41 [(.t 6)]), We 8 7, Wm 9 0]
def A_q21_1 : LA := [Wa 11 9 1 7 9, Wl 12 11, mv 3 12]
def A_q21_2 : LA := [mv 13 0, Wc 14 13, Wf 15 0 14, Wl 16 15, mv 17 3, o_ 18 (.mlook .s (.nilp) false (.t 16) (.t 17)), Wc 19 18, Wf 20 0 19, Wf 21 2 20, Wl 22 21, We 23 22, Wm 24 0]
def A_q21_3 : ACode := (.seq (.ops [Wb 25 .lss 24 23]) (.seq (.cond (.t 25) .bad (.exit 2)) .bad))
def A_q21_4 : LA := [Wi 40 .add 9 1, mv 9 40]
def A_q21_5 : ACode := (.seq (.ops [Wb 10 .lss 9 8]) (.seq (.cond (.t 10) .skip (.exit 0)) (.seq (.block 1 (.seq (.ops A_q21_1) (.seq (.ops A_q21_2) (.block 2 (.loop A_q21_3))))) (.ops A_q21_4))))
def A_q21 : ACode := (.seq (.ops A_q21_0) (.block 0 (.loop A_q21_5)))
def T_q21 : FC := ⟨41, A_q21, []⟩
abbrev F_q22 : Nat := 22
def A_q22_0 : LA := [Wl 8 1, o_ 9 (.call 41 [(.t 8)]), We 10 9, Wm 11 0]
def A_q22_1 : LA := [Wa 13 9 1 9 11, Wl 14 13, o_ 3 (.box 9 1 (.c (.str []))), Wt 1 3 14]
def A_q22_2 : LA := [o_ 15 (.mkmap), o_ 4 (.box 128 1 (.c (.nilm))), Wt 1 4 15]
def A_q22_3 : LA := [o_ 16 (.mkfn 43 [] [(.t 1), (.t 3), (.t 4), (.t 5)]), Wt 1 5 16]
def A_q22_4 : LA := [Wl 17 5, Wl 18 3, o_ 19 (.callv (.t 17) [(.t 18)])]
def A_q22_5 : LA := [Wi 20 .add 11 1, mv 11 20]
def A_q22_6 : ACode := (.seq (.ops [Wb 12 .lss 11 10]) (.seq (.cond (.t 12) .skip (.exit 0)) (.seq (.block 1 (.seq (.ops A_q22_1) (.seq (.ops A_q22_2) (.seq (.ops [o_ 5 (.box 137 1 (.c (.nilf)))]) (.seq (.ops A_q22_3) (.ops A_q22_4)))))) (.ops A_q22_5))))
def A_q22_7 : LA := [Wl 21 1, o_ 22 (.call 41 [(.t 21)]), We 23 22, Wm 24 0]
def A_q22_8 : LA := [Wa 26 9 1 22 24, Wl 27 26, mv 7 27]
def A_q22_9 : LA := [Wl 28 1, Wl 29 1, Wc 30 29, Wf 31 0 30, Wl 32 31, mv 33 7, o_ 34 (.mlook .s (.nilp) false (.t 32) (.t 33)), Wc 35 34, Wf 36 5 35, Wl 37 36, mv 38 7, o_ 39 (.call 44 [(.t 28), (.t 37), (.t 38), (.c (.bool true))])]
def A_q22_10 : LA := [Wi 40 .add 24 1, mv 24 40]
def A_q22_11 : ACode := (.seq (.ops [Wb 25 .lss 24 23]) (.seq (.cond (.t 25) .skip (.exit 2)) (.seq (.block 3 (.seq (.ops A_q22_8) (.alts [28, 29, 30, 31, 32, 33, 34, 35, 36, 37, 38, 39] [A_q22_9]))) (.ops A_q22_10))))
def A_q22 : ACode := (.seq (.ops [o_ 1 (.box 61 1 (.t 0))]) (.seq (.seq (.ops A_q22_0) (.block 0 (.loop A_q22_6))) (.seq (.ops A_q22_7) (.block 2 (.loop A_q22_11)))))
def T_q22 : FC := ⟨41, A_q22, []⟩
abbrev F_q23 : Nat := 23
def A_q23_0 : LA := [o_ 15 (.mkmap), mv 2 15]
def A_q23_1 : LA := [mv 16 0, Wc 17 16, Wf 18 0 17, Wl 19 18, o_ 20 (.rngm (.t 19))]
def A_q23_2 : LA := [o_ 21 (.nxm (.t 20)), Wx 22 0 21]
def A_q23_3 : LA := [o_ 23 (.entr (.t 20)), Wx 24 1 23, mv 4 24]
def A_q23_4 : LA := [mv 25 4, Wc 26 25, Wf 27 0 26, Wf 28 1 27, Wl 29 28, o_ 30 (.call 45 [(.t 29)]), We 31 30, Wm 32 0]
def A_q23_5 : ACode := (.seq (.ops [Wb 33 .lss 32 31]) (.seq (.cond (.t 33) .bad (.exit 2)) .bad))
def A_q23_6 : ACode := (.seq (.ops A_q23_2) (.seq (.cond (.t 22) .skip (.exit 0)) (.block 1 (.seq (.ops A_q23_3) (.seq (.ops A_q23_4) (.block 2 (.loop A_q23_5)))))))
def A_q23_7 : LA := [mv 39 0, o_ 40 (.call 41 [(.t 39)]), We 41 40, Wm 42 0]
def A_q23_8 : LA := [Wa 44 9 1 40 42, Wl 45 44, mv 9 45]
def A_q23_9 : LA := [mv 46 0, Wc 47 46, Wf 48 0 47, Wl 49 48, mv 50 9, o_ 51 (.mlook .s (.nilp) false (.t 49) (.t 50)), mv 10 51]
def A_q23_10 : LA := [mv 52 10, Wc 53 52, Wf 54 0 53, Wd 55 5 54, o_ 56 (.call 46 [(.t 55)]), We 57 56, Wm 58 0]
def A_q23_11 : LA := [Wa 60 144 3 56 58, Wd 61 3 60, o_ 12 (.box 144 3 (.c (.agg [.str [], .int .u8 (0), .str []]))), Wt 3 12 61]
def A_q23_12 : LA := [mv 63 0, Wc 64 63, Wf 65 2 64, Wl 66 65, Wf 67 0 12, Wl 68 67, o_ 69 (.mlook .s (.str []) true (.t 66) (.t 68)), mv 62 69, Wx 70 0 62, Wx 71 1 62, mv 13 70, mv 14 71]
def A_q23_13 : LA := [mv 72 14, mv 73 72, Whm 74 2 73, Wh 75 (.faddr 0 (.t 12)) 73, Wh 76 (.ld1 (.t 75)) 73, Wh 77 (.mlook .s (.bool false) false (.t 74) (.t 76)) 73, Wq 78 73 77]
def A_q23_14 : LA := [mv 84 0, Wc 85 84, Wf 86 2 85, Wl 87 86, Wf 88 0 12, Wl 89 88, mv 90 9, n_ (.mupd .s (.t 87) (.t 89) (.t 90))]
def A_q23_15 : LA := [mv 91 10, Wc 92 91, Wf 93 6 92, Wl 94 93, Wf 95 0 12, Wl 96 95, Wf 97 1 12, Wl 98 97, n_ (.mupd .s (.t 94) (.t 96) (.t 98))]
def A_q23_16 : LA := [Wi 99 .add 58 1, mv 58 99]
def A_q23_17 : ACode := (.seq (.ops [Wb 59 .lss 58 57]) (.seq (.cond (.t 59) .skip (.exit 6)) (.seq (.block 7 (.seq (.ops A_q23_11) (.seq (.seq (.alts [63, 64, 65, 66, 67, 68, 69, 62, 70, 71, 13, 14] [A_q23_12]) (.seq (.ops A_q23_13) (.cond (.t 78) .bad .skip))) (.seq (.alts [84, 85, 86, 87, 88, 89, 90] [A_q23_14]) (.alts [91, 92, 93, 94, 95, 96, 97, 98] [A_q23_15]))))) (.ops A_q23_16))))
def A_q23_18 : LA := [Wi 100 .add 42 1, mv 42 100]
def A_q23_19 : ACode := (.seq (.ops [Wb 43 .lss 42 41]) (.seq (.cond (.t 43) .skip (.exit 4)) (.seq (.block 5 (.seq (.ops A_q23_8) (.seq (.ops A_q23_9) (.seq (.ops A_q23_10) (.block 6 (.loop A_q23_17)))))) (.ops A_q23_18))))
def A_q23_20 : LA := [mv 101 7, We 102 101, Wi 103 .gtr 102 0]
def A_q23 : ACode := (.seq (.ops A_q23_0) (.seq (.seq (.ops A_q23_1) (.block 0 (.loop A_q23_6))) (.seq (.ops [Wn 7]) (.seq (.seq (.ops A_q23_7) (.block 4 (.loop A_q23_19))) (.seq (.ops A_q23_20) (.cond (.t 103) .bad .skip))))))
def T_q23 : FC := ⟨107, A_q23, []⟩
abbrev F_q24 : Nat := 24
def A_q24_0 : LA := [mv 5 0, o_ 6 (.call 41 [(.t 5)]), We 7 6, Wm 8 0]
def A_q24_1 : LA := [Wa 10 9 1 6 8, Wl 11 10, mv 3 11]
def A_q24_2 : LA := [mv 12 0, Wc 13 12, Wf 14 0 13, Wl 15 14, mv 16 3, o_ 17 (.mlook .s (.nilp) false (.t 15) (.t 16)), mv 4 17]
def A_q24_3 : LA := [mv 18 0, mv 19 4, mv 20 4, Wc 21 20, Wf 22 0 21, Wf 23 1 22, Wl 24 23, mv 25 4, Wc 26 25, Wf 27 0 26, Wf 28 3 27, Wl 29 28, o_ 30 (.call 47 [(.t 18), (.t 19), (.t 24), (.t 29)])]
def A_q24_4 : LA := [Wi 31 .add 8 1, mv 8 31]
def A_q24_5 : ACode := (.seq (.ops [Wb 9 .lss 8 7]) (.seq (.cond (.t 9) .skip (.exit 0)) (.seq (.block 1 (.seq (.ops A_q24_1) (.seq (.ops A_q24_2) (.alts [18, 19, 20, 21, 22, 23, 24, 25, 26, 27, 28, 29, 30] [A_q24_3])))) (.ops A_q24_4))))
def A_q24 : ACode := (.seq (.ops A_q24_0) (.block 0 (.loop A_q24_5)))
def T_q24 : FC := ⟨32, A_q24, []⟩
abbrev F_q25 : Nat := 25
def A_q25_0 : LA := [o_ 10 (.mkmap), o_ 2 (.box 128 1 (.c (.nilm))), Wt 1 2 10]
def A_q25_1 : LA := [mv 11 0, Wc 12 11, Wf 13 1 12, Wl 14 13, We 15 14, mv 16 0, Wc 17 16, Wf 18 0 17, Wl 19 18, o_ 20 (.mlen (.t 19)), Wb 21 .lss 15 20]
def A_q25_2 : LA := [mv 22 0, o_ 23 (.call 41 [(.t 22)]), We 24 23, Wm 25 0]
def A_q25_3 : LA := [Wa 27 9 1 23 25, Wl 28 27, mv 4 28]
def A_q25_4 : LA := [o_ 29 (.mkfn 48 [] [(.t 2)]), mv 5 29]
def A_q25_5 : LA := [Wl 30 2, mv 31 4, o_ 32 (.mlook .s (.bool false) false (.t 30) (.t 31)), o_ 33 (.not (.t 32)), mv 34 33, Wgm 35 0 34, g_ 36 (.nilc (.t 35)) 34, Wgf 37 0 36 34, Wgl 38 37 34, Wgm 39 4 34, g_ 40 (.mlook .s (.nilp) false (.t 38) (.t 39)) 34, g_ 41 (.nilc (.t 40)) 34, Wgf 42 0 41 34, Wgf 43 2 42 34, Wgl 44 43 34, Wgm 45 5 34, g_ 46 (.call 49 [(.t 44), (.t 45)]) 34, g_ 47 (.not (.t 46)) 34, Wp 48 34 47]
def A_q25_6 : LA := [Wl 49 2, mv 50 4, n_ (.mupd .s (.t 49) (.t 50) (.c (.bool true)))]
def A_q25_7 : LA := [mv 51 0, mv 52 0, Wc 53 52, Wf 54 1 53, Wl 55 54, mv 56 4, o_ 57 (.bslice 9 1 1 [.str []] [(0, 1, (.t 56))]), o_ 58 (.app 9 1 16 (.t 55) (.t 57)), Wc 59 51, Wf 60 1 59, Wt 1 60 58]
def A_q25_8 : LA := [Wi 61 .add 25 1, mv 25 61]
def A_q25_9 : ACode := (.seq (.ops [Wb 26 .lss 25 24]) (.seq (.cond (.t 26) .skip .bad) (.seq (.block 3 (.seq (.ops A_q25_3) (.seq (.ops A_q25_4) (.seq (.ops A_q25_5) (.cond (.t 48) (.seq (.ops A_q25_6) (.seq (.ops A_q25_7) (.exit 2))) .bad))))) (.ops A_q25_8))))
def A_q25_10 : ACode := (.seq (.seq (.alts [11, 12, 13, 14, 15, 16, 17, 18, 19, 20, 21] [A_q25_1]) (.cond (.t 21) .skip (.exit 0))) (.block 1 (.seq (.ops A_q25_2) (.block 2 (.loop A_q25_9)))))
def A_q25_11 : LA := [mv 62 0, Wc 63 62, Wf 64 0 63, Wl 65 64, o_ 66 (.rngm (.t 65))]
def A_q25_12 : LA := [o_ 67 (.nxm (.t 66)), Wx 68 0 67]
def A_q25_13 : LA := [o_ 69 (.entr (.t 66)), Wx 70 1 69, mv 7 70]
def A_q25_14 : LA := [mv 71 0, mv 72 7, Wc 73 72, Wf 74 0 73, Wf 75 1 74, Wl 76 75, mv 77 7, Wc 78 77, Wf 79 0 78, Wf 80 3 79, Wl 81 80, mv 82 7, Wc 83 82, Wf 84 0 83, Wf 85 4 84, Wl 86 85, o_ 87 (.call 50 [(.t 71), (.t 76), (.t 81), (.t 86)])]
def A_q25_15 : ACode := (.seq (.ops A_q25_12) (.seq (.cond (.t 68) .skip (.exit 4)) (.block 5 (.seq (.ops A_q25_13) (.alts [71, 72, 73, 74, 75, 76, 77, 78, 79, 80, 81, 82, 83, 84, 85, 86, 87] [A_q25_14])))))
def A_q25_16 : LA := [mv 88 0, Wc 89 88, Wf 90 5 89, Wl 91 90, o_ 92 (.rngm (.t 91))]
def A_q25_17 : LA := [o_ 93 (.nxm (.t 92)), Wx 94 0 93]
def A_q25_18 : LA := [o_ 95 (.entr (.t 92)), Wx 96 1 95, mv 9 96]
def A_q25_19 : LA := [mv 97 9, o_ 98 (.call 51 [(.t 97)])]
def A_q25_20 : ACode := (.seq (.ops A_q25_17) (.seq (.cond (.t 94) .skip (.exit 6)) (.block 7 (.seq (.ops A_q25_18) (.ops A_q25_19)))))
def A_q25 : ACode := (.seq (.ops A_q25_0) (.seq (.block 0 (.loop A_q25_10)) (.seq (.seq (.ops A_q25_11) (.block 4 (.loop A_q25_15))) (.seq (.ops A_q25_16) (.block 6 (.loop A_q25_20))))))
def T_q25 : FC := ⟨99, A_q25, []⟩
abbrev F_q26 : Nat := 26
def A_q26_0 : LA := [o_ 3 (.box 55 3 (.t 1)), Wm 4 0, o_ 5 (.mov (.c (.str [])))]
def A_q26_1 : LA := [mv 8 0, o_ 9 (.call 52 []), o_ 10 (.build [.nili, .nilf, .nilf, .nilf, .nilf, .nilf, .nilf, .nilf, .nilf, .nilf, .nilf, .nilf, .nilf, .nilf, .nilf, .nilf, .nilf, .nilf, .nilf, .nilf] [(0, 1, (.t 8)), (1, 19, (.t 9))]), o_ 11 (.box 156 20 (.t 10)), mv 6 11]
def A_q26_2 : LA := [mv 12 6, Wd 13 3 3, o_ 14 (.call 53 [(.t 12), (.t 13), (.c (.str [])), (i_ 1)]), mv 7 14]
def A_q26_3 : LA := [mv 15 7, o_ 16 (.isnil .pt true (.t 15))]
def A_q26_4 : LA := [mv 17 7, Wc 18 17, Wf 19 0 18, Wl 20 19, mv 21 7, Wc 22 21, Wf 23 1 22, Wl 24 23, mv 4 20, mv 5 24]
def A_q26_5 : LA := [Wm 4 0, o_ 5 (.mov (.c (.str [])))]
def A_q26 : ACode := (.seq (.ops A_q26_0) (.seq (.ops A_q26_1) (.seq (.seq (.ops A_q26_2) (.seq (.ops A_q26_3) (.cond (.t 16) (.seq (.alts [17, 18, 19, 20, 21, 22, 23, 24, 4, 5] [A_q26_4]) .ret) .skip))) (.seq (.ops A_q26_5) .ret))))
def T_q26 : FC := ⟨25, A_q26, [.tmp 4, .tmp 5]⟩
abbrev F_q27 : Nat := 27
def A_q27_0 : LA := [o_ 3 (.box 55 3 (.t 1)), o_ 4 (.box 55 3 (.c (.agg [.str [], .nils, .nils])))]
def A_q27_1 : LA := [mv 16 0, Wf 17 0 3, Wl 18 17, o_ 19 (.inv [(29, 306)] (.t 16) [(.t 18)]), mv 15 19, Wx 20 0 15, Wx 21 1 15, mv 5 20, mv 6 21]
def A_q27_2 : LA := [Wf 22 0 3, Wl 23 22, Wf 24 2 3, Wl 25 24, o_ 26 (.acall 38 [(.t 25)]), o_ 27 (.build [.str [], .nils, .nils] [(0, 1, (.t 23)), (2, 1, (.t 26))]), o_ 7 (.box 55 3 (.c (.agg [.str [], .nils, .nils]))), Wt 3 7 27]
def A_q27_3 : LA := [Wf 28 1 3, Wl 29 28, We 30 29, Wm 31 0]
def A_q27_4 : LA := [Wa 33 52 3 29 31, Wd 34 3 33, o_ 9 (.box 52 3 (.c (.agg [.int .i32 (0), .nils, .nils]))), Wt 3 9 34]
def A_q27_5 : LA := [mv 36 5, Wf 37 0 9, Wl 38 37, o_ 39 (.call 35 [(.t 36), (.t 38)]), mv 35 39, Wx 40 0 35, Wx 41 1 35, o_ 10 (.box 120 9 (.c (.agg [.int .i32 (0), .str [], .str [], .int .u8 (0), .int .u8 (0), .int .u8 (0), .bool false, .int .i64 (0), .str []]))), Wt 9 10 40, mv 11 41]
def A_q27_6 : LA := [Wd 42 9 10, o_ 43 (.call 54 [(.t 42)]), mv 44 43, Wgf 45 2 9 44, Wgl 46 45 44, g_ 47 (.iaddr 46 3 (.t 46) (i_ 0)) 44, g_ 48 (.lda 3 (.t 47)) 44, g_ 49 (.call 55 [(.t 48)]) 44, Wp 50 44 49]
def A_q27_7 : LA := [Wf 51 0 9, Wl 52 51, Wf 53 1 9, Wl 54 53, o_ 55 (.acall 56 [(.t 54)]), o_ 56 (.build [.int .i32 (0), .nils, .nils] [(0, 1, (.t 52)), (1, 1, (.t 55))]), o_ 12 (.box 52 3 (.c (.agg [.int .i32 (0), .nils, .nils]))), Wt 3 12 56]
def A_q27_8 : LA := [Wf 57 2 9, Wl 58 57, We 59 58, Wm 60 0]
def A_q27_9 : LA := [Wa 62 46 3 58 60, Wd 63 3 62, o_ 14 (.box 46 3 (.c (.agg [.int .u64 (0), .str [], .nils]))), Wt 3 14 63]
def A_q27_10 : LA := [Wf 64 2 12, mv 66 0, Wd 67 3 14, Wl 65 64, o_ 68 (.call 57 [(.t 66), (.t 67)]), o_ 69 (.bslice 46 3 1 [.int .u64 (0), .str [], .nils] [(0, 3, (.t 68))]), o_ 70 (.app 46 3 48 (.t 65) (.t 69)), Wf 71 2 12, Wt 1 71 70]
def A_q27_11 : LA := [Wf 64 2 12, mv 66 0, Wd 67 3 14, o_ 68 (.call 57 [(.t 66), (.t 67)]), Wl 65 64, o_ 69 (.bslice 46 3 1 [.int .u64 (0), .str [], .nils] [(0, 3, (.t 68))]), o_ 70 (.app 46 3 48 (.t 65) (.t 69)), Wf 71 2 12, Wt 1 71 70]
def A_q27_12 : LA := [Wi 72 .add 60 1, mv 60 72]
def A_q27_13 : ACode := (.seq (.ops [Wb 61 .lss 60 59]) (.seq (.cond (.t 61) .skip (.exit 2)) (.seq (.block 3 (.seq (.ops A_q27_9) (.alts [64, 65, 66, 67, 68, 69, 70, 71] [A_q27_10, A_q27_11]))) (.ops A_q27_12))))
def A_q27_14 : LA := [Wf 73 3 10, Wl 74 73, o_ 75 (.bini .eql (.t 74) (.c (.int .u8 4)))]
def A_q27_15 : LA := [Wd 76 9 10, Wd 77 3 12, o_ 78 (.call 58 [(.t 76), (.t 77)]), Wt 3 12 78]
def A_q27_16 : LA := [Wf 79 1 7, Wl 80 79, Wd 81 3 12, o_ 82 (.bslice 52 3 1 [.int .i32 (0), .nils, .nils] [(0, 3, (.t 81))]), o_ 83 (.app 52 3 56 (.t 80) (.t 82)), Wf 84 1 7, Wt 1 84 83]
def A_q27_17 : LA := [Wi 85 .add 31 1, mv 31 85]
def A_q27_18 : ACode := (.seq (.ops [Wb 32 .lss 31 30]) (.seq (.cond (.t 32) .skip (.exit 0)) (.seq (.block 1 (.seq (.ops A_q27_4) (.seq (.ops A_q27_5) (.seq (.seq (.ops A_q27_6) (.cond (.t 50) .bad .skip)) (.seq (.alts [51, 52, 53, 54, 55, 56, 12] [A_q27_7]) (.seq (.seq (.ops A_q27_8) (.block 2 (.loop A_q27_13))) (.seq (.seq (.ops A_q27_14) (.cond (.t 75) (.ops A_q27_15) .skip)) (.ops A_q27_16)))))))) (.ops A_q27_17))))
def A_q27_19 : LA := [Wd 86 3 7, Wt 3 4 86]
def A_q27 : ACode := (.seq (.ops A_q27_0) (.seq (.ops A_q27_1) (.seq (.alts [22, 23, 24, 25, 26, 27, 7] [A_q27_2]) (.seq (.seq (.ops A_q27_3) (.block 0 (.loop A_q27_18))) (.seq (.ops A_q27_19) .ret)))))
def T_q27 : FC := ⟨87, A_q27, [.cella 4 3]⟩
abbrev F_q28 : Nat := 28
def A_q28_0 : LA := [mv 7 1, We 8 7, Wm 9 0]
def A_q28_1 : LA := [Wa 11 25 1 7 9, Wl 12 11, mv 6 12]
def A_q28_2 : LA := [Wl 13 2, mv 14 6, Wd 15 2 3, n_ (.mupd .i (.t 13) (.t 14) (.t 15))]
def A_q28_3 : LA := [Wi 16 .add 9 1, mv 9 16]
def A_q28_4 : ACode := (.seq (.ops [Wb 10 .lss 9 8]) (.seq (.cond (.t 10) .skip (.exit 0)) (.seq (.block 1 (.seq (.ops A_q28_1) (.ops A_q28_2))) (.ops A_q28_3))))
def A_q28 : ACode := (.seq (.ops [o_ 3 (.box 112 2 (.t 0))]) (.seq (.ops A_q28_0) (.block 0 (.loop A_q28_4))))
def T_q28 : FC := ⟨17, A_q28, []⟩
abbrev F_q29 : Nat := 29
def A_q29_0 : LA := [mv 6 0, Wc 7 6, Wf 8 0 7, Wl 9 8, Wf 10 0 5, Wl 11 10, o_ 12 (.call 59 [(.t 9), (.t 11)])]
def A_q29 : ACode := (.seq (.ops [o_ 5 (.box 46 3 (.t 2))]) (.alts [6, 7, 8, 9, 10, 11, 12] [A_q29_0]))
def T_q29 : FC := ⟨13, A_q29, []⟩
abbrev F_q30 : Nat := 30
def A_q30_0 : LA := [mv 6 0, Wc 7 6, Wf 8 0 7, Wf 10 0 5, Wl 11 10, o_ 12 (.conv .i64 (.t 11)), Wl 9 8, o_ 13 (.call 60 [(.t 12)]), o_ 14 (.call 59 [(.t 9), (.t 13)])]
def A_q30_1 : LA := [mv 6 0, Wc 7 6, Wf 8 0 7, Wf 10 0 5, Wl 11 10, o_ 12 (.conv .i64 (.t 11)), o_ 13 (.call 60 [(.t 12)]), Wl 9 8, o_ 14 (.call 59 [(.t 9), (.t 13)])]
def A_q30 : ACode := (.seq (.ops [o_ 5 (.box 46 3 (.t 2))]) (.alts [6, 7, 8, 9, 10, 11, 12, 13, 14] [A_q30_0, A_q30_1]))
def T_q30 : FC := ⟨15, A_q30, []⟩
abbrev F_q33 : Nat := 33
def A_q33_0 : LA := [mv 6 0, Wc 7 6, Wf 8 0 7, Wl 9 8, Wf 10 1 5, Wl 11 10, o_ 12 (.s2b 5 (.t 11)), o_ 13 (.call 63 [(.t 9), (.t 12)])]
def A_q33 : ACode := (.seq (.ops [o_ 5 (.box 46 3 (.t 2))]) (.alts [6, 7, 8, 9, 10, 11, 12, 13] [A_q33_0]))
def T_q33 : FC := ⟨14, A_q33, []⟩
abbrev F_q34 : Nat := 34
def A_q34_0 : LA := [o_ 3 (.box 74 1 (.t 0)), o_ 5 (.box 46 3 (.t 2))]
def A_q34_1 : LA := [Wl 6 3, o_ 7 (.mkfn 65 [] [(.t 3), (.t 5)]), o_ 8 (.call 64 [(.t 6), (.t 7)])]
def A_q34 : ACode := (.seq (.ops A_q34_0) (.ops A_q34_1))
def T_q34 : FC := ⟨9, A_q34, []⟩
abbrev F_q35 : Nat := 35
def A_q35_0 : LA := [o_ 4 (.box 120 9 (.c (.agg [.int .i32 (0), .str [], .str [], .int .u8 (0), .int .u8 (0), .int .u8 (0), .bool false, .int .i64 (0), .str []]))), Wo 5 false]
def A_q35_1 : LA := [mv 9 0, Wc 10 9, Wf 11 3 10, Wl 12 11, mv 13 1, o_ 14 (.mlook .i (.int .i64 0) true (.t 12) (.t 13)), mv 8 14, Wx 15 0 8, Wx 16 1 8, mv 6 15, mv 7 16]
def A_q35_2 : LA := [mv 17 0, mv 18 6, mv 19 7, o_ 20 (.call 66 [(.t 17), (.t 18), (.t 19)]), Wx 21 0 20, Wx 22 1 20, Wt 9 4 21, mv 5 22]
def A_q35 : ACode := (.seq (.ops A_q35_0) (.seq (.ops A_q35_1) (.seq (.ops A_q35_2) .ret)))
def T_q35 : FC := ⟨23, A_q35, [.cella 4 9, .tmp 5]⟩
abbrev F_q36 : Nat := 36
def A_q36_0 : LA := [o_ 3 (.box 74 1 (.t 0)), o_ 4 (.box 120 9 (.t 1)), o_ 5 (.box 52 3 (.t 2))]
def A_q36_1 : LA := [Wf 26 3 4, Wl 27 26, o_ 28 (.bini .eql (.t 27) (.c (.int .u8 4))), mv 25 28]
def A_q36_2 : LA := [Wf 29 2 5, Wl 30 29, We 31 30, Wm 32 0]
def A_q36_3 : LA := [mv 34 32, Wa 35 46 3 30 32, Wd 36 3 35, o_ 6 (.box 3 1 (i_ 0)), o_ 7 (.box 46 3 (.c (.agg [.int .u64 (0), .str [], .nils]))), Wt 1 6 34, Wt 3 7 36]
def A_q36_4 : LA := [Wl 37 3, Wc 38 37, Wf 39 0 38, Wl 40 39, Wf 41 0 4, Wl 42 41, o_ 43 (.call 67 [(.t 40), (.t 42), (.c (.int .u8 2))])]
def A_q36_5 : LA := [Wl 44 3, o_ 45 (.mkfn 68 [] [(.t 3), (.t 4), (.t 5), (.t 6), (.t 7)]), o_ 46 (.call 64 [(.t 44), (.t 45)])]
def A_q36_6 : LA := [Wi 47 .add 32 1, mv 32 47]
def A_q36_7 : ACode := (.seq (.ops [Wb 33 .lss 32 31]) (.seq (.cond (.t 33) .skip (.exit 3)) (.seq (.block 4 (.seq (.ops A_q36_3) (.seq (.alts [37, 38, 39, 40, 41, 42, 43] [A_q36_4]) (.ops A_q36_5)))) (.ops A_q36_6))))
def A_q36_8 : LA := [Wf 49 6 4, Wl 50 49, mv 48 50]
def A_q36_9 : LA := [Wl 51 3, Wc 52 51, Wf 53 0 52, Wl 54 53, Wf 55 0 4, Wl 56 55, o_ 57 (.call 67 [(.t 54), (.t 56), (.c (.int .u8 2))])]
def A_q36_10 : LA := [Wl 58 3, o_ 59 (.mkfn 70 [] [(.t 5), (.t 3), (.t 4)]), o_ 60 (.call 64 [(.t 58), (.t 59)])]
def A_q36_11 : LA := [Wf 10 2 5, Wl 11 10, We 12 11, Wm 13 0]
def A_q36_12 : LA := [Wa 15 46 3 11 13, Wd 16 3 15, o_ 9 (.box 46 3 (.c (.agg [.int .u64 (0), .str [], .nils]))), Wt 3 9 16]
def A_q36_13 : LA := [Wl 17 3, Wf 18 0 4, Wl 19 18, Wf 20 4 4, Wl 21 20, Wd 22 3 9, o_ 23 (.call 69 [(.t 17), (.t 19), (.t 21), (.t 22)])]
def A_q36_14 : LA := [Wi 24 .add 13 1, mv 13 24]
def A_q36_15 : ACode := (.seq (.ops [Wb 14 .lss 13 12]) (.seq (.cond (.t 14) .skip (.exit 1)) (.seq (.block 2 (.seq (.ops A_q36_12) (.ops A_q36_13))) (.ops A_q36_14))))
def A_q36 : ACode := (.seq (.ops A_q36_0) (.block 0 (.seq (.ops A_q36_1) (.cond (.t 25) (.seq (.ops A_q36_2) (.block 3 (.loop A_q36_7))) (.seq (.ops A_q36_8) (.cond (.t 48) (.seq (.alts [51, 52, 53, 54, 55, 56, 57] [A_q36_9]) (.ops A_q36_10)) (.seq (.ops A_q36_11) (.block 1 (.loop A_q36_15)))))))))
def T_q36 : FC := ⟨61, A_q36, []⟩
abbrev F_q37 : Nat := 37
def A_q37_0 : LA := [mv 4 0, mv 5 1, We 6 5, o_ 7 (.call 71 [(.t 4), (.t 6)])]
def A_q37_1 : LA := [mv 8 0, mv 9 0, Wc 10 9, Wf 11 0 10, Wl 12 11, mv 13 1, o_ 14 (.app 5 1 1 (.t 12) (.t 13)), Wc 15 8, Wf 16 0 15, Wt 1 16 14]
def A_q37 : ACode := (.seq (.ops A_q37_0) (.cond (.t 7) (.ops A_q37_1) .bad))
def T_q37 : FC := ⟨17, A_q37, []⟩
abbrev F_q38 : Nat := 38
def A_q38_0 : LA := [mv 3 0, o_ 4 (.isnilu false (.t 3))]
def A_q38_1 : LA := [o_ 5 (.bslice0 5), mv 6 0, o_ 7 (.app 5 1 1 (.t 5) (.t 6)), mv 2 7]
def A_q38 : ACode := (.seq (.ops [Wn 2]) (.seq (.seq (.ops A_q38_0) (.cond (.t 4) (.seq (.ops [Wn 2]) .ret) .skip)) (.seq (.ops A_q38_1) .ret)))
def T_q38 : FC := ⟨8, A_q38, [.tmp 2]⟩
abbrev F_q39 : Nat := 39
def A_q39_0 : LA := [o_ 1 (.box 40 5 (.t 0)), o_ 2 (.box 40 5 (.c (.agg [.str [], .str [], .nils, .nils, .nils])))]
def A_q39_1 : LA := [Wf 3 2 1, Wl 4 3, o_ 5 (.call 72 [(.t 4)]), Wf 6 2 1, Wt 1 6 5]
def A_q39_2 : LA := [Wf 8 3 1, Wl 9 8, Wf 10 4 1, Wl 11 10, o_ 12 (.call 73 [(.t 9), (.t 11)]), mv 7 12, Wx 13 0 7, Wx 14 1 7, Wf 15 3 1, Wt 1 15 13, Wf 16 4 1, Wt 1 16 14]
def A_q39_3 : LA := [Wd 17 5 1, Wt 5 2 17]
def A_q39 : ACode := (.seq (.ops A_q39_0) (.seq (.ops A_q39_1) (.seq (.ops A_q39_2) (.seq (.ops A_q39_3) .ret))))
def T_q39 : FC := ⟨18, A_q39, [.cella 2 5]⟩
abbrev F_q41 : Nat := 41
def A_q41_0 : LA := [mv 3 0, Wc 4 3, Wf 5 0 4, Wl 6 5, o_ 7 (.call 75 [(.t 6)]), o_ 8 (.call 74 [(.t 7)]), mv 2 8]
def A_q41 : ACode := (.seq (.ops [Wn 2]) (.seq (.ops A_q41_0) .ret))
def T_q41 : FC := ⟨9, A_q41, [.tmp 2]⟩
abbrev F_q42 : Nat := 42
def A_q42_0 : LA := [o_ 1 (.box 40 5 (.t 0)), o_ 2 (.box 63 2 (.c (.agg [.int .i64 (0), .str []])))]
def A_q42_1 : LA := [o_ 5 (.mkmap), o_ 6 (.build [.nilm] [(0, 1, (.t 5))]), o_ 7 (.box 191 1 (.t 6)), mv 3 7]
def A_q42_2 : LA := [mv 8 3, Wd 9 5 1, o_ 10 (.call 77 [(.t 8), (.t 9)])]
def A_q42_3 : LA := [o_ 11 (.build [.int .i64 (0), .str []] []), Wt 2 2 11]
def A_q42 : ACode := (.seq (.ops A_q42_0) (.seq (.seq (.ops [o_ 4 (.mkfn 76 [] [(.t 2)])]) (.dfr (.t 4) [])) (.seq (.ops A_q42_1) (.seq (.ops A_q42_2) (.seq (.ops A_q42_3) .ret)))))
def T_q42 : FC := ⟨12, A_q42, [.cella 2 2]⟩
abbrev F_q43 : Nat := 43
def A_q43_0 : LA := [Wl 8 1, Wc 9 8, Wf 10 0 9, Wl 11 10, mv 12 0, o_ 13 (.mlook .s (.nilp) false (.t 11) (.t 12)), Wc 14 13, Wf 15 0 14, Wf 16 2 15, Wl 17 16, We 18 17, Wm 19 0]
def A_q43_1 : ACode := (.seq (.ops [Wb 20 .lss 19 18]) (.seq (.cond (.t 20) .bad (.exit 0)) .bad))
def A_q43 : ACode := (.seq (.ops A_q43_0) (.block 0 (.loop A_q43_1)))
def T_q43 : FC := ⟨42, A_q43, []⟩
abbrev F_q44 : Nat := 44
def A_q44_0 : LA := [mv 10 1, mv 11 2, o_ 12 (.mlook .s (.bool false) false (.t 10) (.t 11)), mv 13 12, Wgm 14 3 13, g_ 15 (.not (.t 14)) 13, Wp 16 13 15]
def A_q44_1 : LA := [mv 17 1, mv 18 2, n_ (.mupd .s (.t 17) (.t 18) (.c (.bool true)))]
def A_q44_2 : LA := [mv 19 0, Wc 20 19, Wf 21 0 20, Wl 22 21, mv 23 2, o_ 24 (.mlook .s (.nilp) false (.t 22) (.t 23)), Wc 25 24, Wf 26 0 25, Wf 27 2 26, Wl 28 27, We 29 28, Wm 30 0]
def A_q44_3 : ACode := (.seq (.ops [Wb 31 .lss 30 29]) (.seq (.cond (.t 31) .bad (.exit 0)) .bad))
def A_q44 : ACode := (.seq (.seq (.ops A_q44_0) (.cond (.t 16) .bad .skip)) (.seq (.ops A_q44_1) (.seq (.ops A_q44_2) (.block 0 (.loop A_q44_3)))))
def T_q44 : FC := ⟨45, A_q44, []⟩
abbrev F_q45 : Nat := 45
def A_q45_0 : LA := [mv 5 0, o_ 6 (.call 78 [(.t 5)])]
def A_q45_1 : LA := [mv 8 4, o_ 9 (.bins .neq (.t 8) (.c (.str [])))]
def A_q45_2 : LA := [Wl 10 3, mv 11 4, o_ 12 (.bslice 9 1 1 [.str []] [(0, 1, (.t 11))]), o_ 13 (.app 9 1 16 (.t 10) (.t 12)), Wt 1 3 13]
def A_q45_3 : LA := [Wl 14 3, mv 2 14]
def A_q45 : ACode := (.seq (.ops [Wn 2]) (.seq (.ops [o_ 3 (.box 32 1 (.c (.nils)))]) (.seq (.seq (.ops A_q45_0) (.block 0 (.rngf (.t 6) [7] (.ops [mv 4 7]) (.block 1 (.seq (.ops A_q45_1) (.cond (.t 9) (.ops A_q45_2) .skip)))))) (.seq (.ops A_q45_3) .ret))))
def T_q45 : FC := ⟨15, A_q45, [.tmp 2]⟩
abbrev F_q46 : Nat := 46
def A_q46_0 : LA := [o_ 1 (.box 40 5 (.t 0)), Wn 2]
def A_q46_1 : LA := [o_ 11 (.mkfn 79 [] [(.t 3), (.t 1)]), o_ 4 (.box 195 1 (.c (.nilf))), Wt 1 4 11]
def A_q46_2 : LA := [o_ 12 (.mkfn 81 [] [(.t 4)]), o_ 5 (.box 201 1 (.c (.nilf))), Wt 1 5 12]
def A_q46_3 : LA := [o_ 13 (.mkfn 82 [] [(.t 4), (.t 6), (.t 5)]), Wt 1 6 13]
def A_q46_4 : LA := [Wf 14 3 1, Wl 15 14, We 16 15, Wm 17 0]
def A_q46_5 : LA := [Wa 19 37 7 15 17, Wd 20 7 19, o_ 8 (.box 37 7 (.c (.agg [.str [], .nils, .nils, .nils, .nils, .nils, .nils]))), Wt 7 8 20]
def A_q46_6 : LA := [Wl 21 6, Wd 22 7 8, Wf 23 1 1, Wl 24 23, o_ 25 (.callv (.t 21) [(.t 22), (.t 24)])]
def A_q46_7 : LA := [Wi 26 .add 17 1, mv 17 26]
def A_q46_8 : ACode := (.seq (.ops [Wb 18 .lss 17 16]) (.seq (.cond (.t 18) .skip (.exit 0)) (.seq (.block 1 (.seq (.ops A_q46_5) (.ops A_q46_6))) (.ops A_q46_7))))
def A_q46_9 : LA := [Wf 27 4 1, Wl 28 27, We 29 28, Wm 30 0]
def A_q46_10 : ACode := (.seq (.ops [Wb 31 .lss 30 29]) (.seq (.cond (.t 31) .bad (.exit 2)) .bad))
def A_q46_11 : LA := [Wl 40 3, o_ 41 (.call 83 [(.t 40), (.f 84)])]
def A_q46_12 : LA := [Wl 42 3, mv 2 42]
def A_q46 : ACode := (.seq (.ops A_q46_0) (.seq (.ops [o_ 3 (.box 140 1 (.c (.nils)))]) (.seq (.ops A_q46_1) (.seq (.ops A_q46_2) (.seq (.ops [o_ 6 (.box 202 1 (.c (.nilf)))]) (.seq (.ops A_q46_3) (.seq (.seq (.ops A_q46_4) (.block 0 (.loop A_q46_8))) (.seq (.seq (.ops A_q46_9) (.block 2 (.loop A_q46_10))) (.seq (.ops A_q46_11) (.seq (.ops A_q46_12) .ret))))))))))
def T_q46 : FC := ⟨43, A_q46, [.tmp 2]⟩
abbrev F_q47 : Nat := 47
def A_q47_0 : LA := [mv 12 3, We 13 12, Wm 14 0]
def A_q47_1 : LA := [mv 16 14, mv 8 16]
def A_q47_2 : LA := [mv 17 3, mv 18 8, Wa 19 37 7 17 18, mv 9 19]
def A_q47_3 : LA := [mv 20 2, mv 21 9, Wc 22 21, Wf 23 0 22, Wl 24 23, o_ 25 (.bslice 9 1 2 [.str []] [(0, 1, (.t 20)), (1, 1, (.t 24))]), o_ 26 (.call 80 [(.t 25)]), mv 10 26]
def A_q47_4 : LA := [mv 27 9, Wc 28 27, Wf 29 1 28, Wl 30 29, We 31 30, Wm 32 0]
def A_q47_5 : LA := [mv 34 32, mv 11 34]
def A_q47_6 : LA := [mv 35 0, mv 36 1, mv 37 10, mv 38 9, Wc 39 38, Wf 40 1 39, Wl 41 40, mv 42 11, Wa 43 28 9 41 42, o_ 44 (.call 88 [(.t 35), (.t 36), (.t 37), (.t 43)])]
def A_q47_7 : LA := [Wi 45 .add 32 1, mv 32 45]
def A_q47_8 : ACode := (.seq (.ops [Wb 33 .lss 32 31]) (.seq (.cond (.t 33) .skip (.exit 2)) (.seq (.block 3 (.seq (.ops A_q47_5) (.ops A_q47_6))) (.ops A_q47_7))))
def A_q47_9 : LA := [mv 46 0, mv 47 1, mv 48 10, mv 49 9, Wc 50 49, Wf 51 3 50, Wl 52 51, o_ 53 (.call 47 [(.t 46), (.t 47), (.t 48), (.t 52)])]
def A_q47_10 : LA := [Wi 54 .add 14 1, mv 14 54]
def A_q47_11 : ACode := (.seq (.ops [Wb 15 .lss 14 13]) (.seq (.cond (.t 15) .skip (.exit 0)) (.seq (.block 1 (.seq (.ops A_q47_1) (.seq (.ops A_q47_2) (.seq (.ops A_q47_3) (.seq (.seq (.ops A_q47_4) (.block 2 (.loop A_q47_8))) (.ops A_q47_9)))))) (.ops A_q47_10))))
def A_q47 : ACode := (.seq (.ops A_q47_0) (.block 0 (.loop A_q47_11)))
def T_q47 : FC := ⟨55, A_q47, []⟩
abbrev F_q49 : Nat := 49
def A_q49_0 : LA := [mv 5 0, mv 6 1, o_ 7 (.call 89 [(.t 5), (.t 6)]), Wi 8 .geq 7 0, mv 4 8]
def A_q49 : ACode := (.seq (.ops [Wo 4 false]) (.seq (.ops A_q49_0) .ret))
def T_q49 : FC := ⟨9, A_q49, [.tmp 4]⟩
abbrev F_q50 : Nat := 50
def A_q50_0 : LA := [mv 15 3, We 16 15, Wm 17 0]
def A_q50_1 : ACode := (.seq (.ops [Wb 18 .lss 17 16]) (.seq (.cond (.t 18) .bad (.exit 0)) .bad))
def A_q50_2 : LA := [mv 32 2, We 33 32, Wm 34 0]
def A_q50_3 : LA := [Wa 36 37 7 32 34, Wd 37 7 36, o_ 11 (.box 37 7 (.c (.agg [.str [], .nils, .nils, .nils, .nils, .nils, .nils]))), Wt 7 11 37]
def A_q50_4 : LA := [mv 38 1, Wf 39 0 11, Wl 40 39, o_ 41 (.bslice 9 1 2 [.str []] [(0, 1, (.t 38)), (1, 1, (.t 40))]), o_ 42 (.call 80 [(.t 41)]), mv 12 42]
def A_q50_5 : LA := [mv 43 0, Wc 44 43, Wf 45 3 44, Wl 46 45, mv 47 12, Wd 48 7 11, n_ (.mupd .s (.t 46) (.t 47) (.t 48))]
def A_q50_6 : LA := [Wf 49 1 11, Wl 50 49, We 51 50, Wm 52 0]
def A_q50_7 : LA := [Wa 54 28 9 50 52, Wd 55 9 54, o_ 14 (.box 28 9 (.c (.agg [.str [], .int .i32 (0), .int .u8 (0), .int .u8 (0), .str [], .int .u8 (0), .int .i64 (0), .int .u8 (0), .str []]))), Wt 9 14 55]
def A_q50_8 : LA := [Wf 56 4 14, Wl 57 56, o_ 58 (.bins .neq (.t 57) (.c (.str []))), mv 59 58, Wgm 60 0 59, g_ 61 (.nilc (.t 60)) 59, Wgf 62 5 61 59, Wgl 63 62 59, Wgf 64 4 14 59, Wgl 65 64 59, g_ 66 (.mlook .s (.nils) false (.t 63) (.t 65)) 59, Wgm 67 12 59, g_ 68 (.call 90 [(.t 66), (.t 67)]) 59, g_ 69 (.not (.t 68)) 59, Wp 70 59 69]
def A_q50_9 : LA := [mv 71 0, Wc 72 71, Wf 73 5 72, Wf 75 4 14, mv 77 0, Wc 78 77, Wf 79 5 78, Wl 80 79, Wf 81 4 14, Wl 82 81, o_ 83 (.mlook .s (.nils) false (.t 80) (.t 82)), mv 84 12, o_ 85 (.fslice 9 1 1 [.str []] [(0, 1, (.t 84))]), Wl 74 73, Wl 76 75, o_ 86 (.app 9 1 16 (.t 83) (.t 85)), n_ (.mupd .s (.t 74) (.t 76) (.t 86))]
def A_q50_10 : LA := [mv 71 0, Wc 72 71, Wf 73 5 72, Wf 75 4 14, mv 77 0, Wc 78 77, Wf 79 5 78, Wl 80 79, Wf 81 4 14, Wl 82 81, o_ 83 (.mlook .s (.nils) false (.t 80) (.t 82)), mv 84 12, o_ 85 (.fslice 9 1 1 [.str []] [(0, 1, (.t 84))]), Wl 74 73, o_ 86 (.app 9 1 16 (.t 83) (.t 85)), Wl 76 75, n_ (.mupd .s (.t 74) (.t 76) (.t 86))]
def A_q50_11 : LA := [mv 71 0, Wc 72 71, Wf 73 5 72, Wf 75 4 14, mv 77 0, Wc 78 77, Wf 79 5 78, Wl 80 79, Wf 81 4 14, Wl 82 81, o_ 83 (.mlook .s (.nils) false (.t 80) (.t 82)), mv 84 12, o_ 85 (.fslice 9 1 1 [.str []] [(0, 1, (.t 84))]), Wl 76 75, Wl 74 73, o_ 86 (.app 9 1 16 (.t 83) (.t 85)), n_ (.mupd .s (.t 74) (.t 76) (.t 86))]
def A_q50_12 : LA := [mv 71 0, Wc 72 71, Wf 73 5 72, Wf 75 4 14, mv 77 0, Wc 78 77, Wf 79 5 78, Wl 80 79, Wf 81 4 14, Wl 82 81, o_ 83 (.mlook .s (.nils) false (.t 80) (.t 82)), mv 84 12, o_ 85 (.fslice 9 1 1 [.str []] [(0, 1, (.t 84))]), Wl 76 75, o_ 86 (.app 9 1 16 (.t 83) (.t 85)), Wl 74 73, n_ (.mupd .s (.t 74) (.t 76) (.t 86))]
def A_q50_13 : LA := [mv 71 0, Wc 72 71, Wf 73 5 72, Wf 75 4 14, mv 77 0, Wc 78 77, Wf 79 5 78, Wl 80 79, Wf 81 4 14, Wl 82 81, o_ 83 (.mlook .s (.nils) false (.t 80) (.t 82)), mv 84 12, o_ 85 (.fslice 9 1 1 [.str []] [(0, 1, (.t 84))]), o_ 86 (.app 9 1 16 (.t 83) (.t 85)), Wl 74 73, Wl 76 75, n_ (.mupd .s (.t 74) (.t 76) (.t 86))]
def A_q50_14 : LA := [Wi 87 .add 52 1, mv 52 87]
def A_q50_15 : ACode := (.seq (.ops [Wb 53 .lss 52 51]) (.seq (.cond (.t 53) .skip (.exit 4)) (.seq (.block 5 (.seq (.ops A_q50_7) (.seq (.alts [56, 57, 58, 59, 60, 61, 62, 63, 64, 65, 66, 67, 68, 69, 70] [A_q50_8]) (.cond (.t 70) (.alts [71, 72, 73, 74, 75, 76, 77, 78, 79, 80, 81, 82, 83, 84, 85, 86] [A_q50_9, A_q50_10, A_q50_11, A_q50_12, A_q50_13]) .skip)))) (.ops A_q50_14))))
def A_q50_16 : LA := [mv 88 0, mv 89 12, Wf 90 3 11, Wl 91 90, Wf 92 4 11, Wl 93 92, o_ 94 (.call 50 [(.t 88), (.t 89), (.t 91), (.t 93)])]
def A_q50_17 : LA := [Wi 95 .add 34 1, mv 34 95]
def A_q50_18 : ACode := (.seq (.ops [Wb 35 .lss 34 33]) (.seq (.cond (.t 35) .skip (.exit 2)) (.seq (.block 3 (.seq (.ops A_q50_3) (.seq (.ops A_q50_4) (.seq (.alts [43, 44, 45, 46, 47, 48] [A_q50_5]) (.seq (.seq (.ops A_q50_6) (.block 4 (.loop A_q50_15))) (.ops A_q50_16)))))) (.ops A_q50_17))))
def A_q50 : ACode := (.seq (.seq (.ops A_q50_0) (.block 0 (.loop A_q50_1))) (.seq (.ops A_q50_2) (.block 2 (.loop A_q50_18))))
def T_q50 : FC := ⟨96, A_q50, []⟩
abbrev F_q51 : Nat := 51
def A_q51_0 : LA := [mv 3 0, We 4 3, mv 2 4]
def A_q51_1 : LA := [mv 5 0, mv 6 2, mv 7 2, o_ 8 (.conv .u64 (.t 7)), o_ 9 (.call 92 [(.t 8)]), o_ 10 (.call 91 [(.t 5), (i_ 0), (.t 6), (.t 9)])]
def A_q51 : ACode := (.seq (.ops A_q51_0) (.ops A_q51_1))
def T_q51 : FC := ⟨11, A_q51, []⟩
abbrev F_q52 : Nat := 52
def A_q52_0 : LA := [mv 6 4, mv 2 6]
def A_q52_1 : LA := [mv 7 2, o_ 8 (.adr 19 1 (.t 1) (.t 7)), n_ (.st 1 (.t 8) (.f 93))]
def A_q52_2 : LA := [Wi 9 .add 4 1, mv 4 9]
def A_q52_3 : ACode := (.seq (.ops [Wi 5 .lss 4 19]) (.seq (.cond (.t 5) .skip (.exit 0)) (.seq (.block 1 (.seq (.ops A_q52_0) (.ops A_q52_1))) (.ops A_q52_2))))
def A_q52_4 : LA := [mv 10 3, mv 11 3, o_ 12 (.adr 19 1 (.t 1) (.c (.int .u8 9))), Wt 1 12 10, o_ 13 (.adr 19 1 (.t 1) (.c (.int .u8 12))), Wt 1 13 11]
def A_q52_5 : LA := [o_ 14 (.adr 19 1 (.t 1) (.c (.int .u8 11))), n_ (.st 1 (.t 14) (.f 96))]
def A_q52_6 : LA := [Wd 15 19 1, Wt 19 0 15]
def A_q52 : ACode := (.seq (.ops [o_ 0 (.box 153 19 (.c (.agg [.nilf, .nilf, .nilf, .nilf, .nilf, .nilf, .nilf, .nilf, .nilf, .nilf, .nilf, .nilf, .nilf, .nilf, .nilf, .nilf, .nilf, .nilf, .nilf])))]) (.seq (.ops [o_ 1 (.box 153 19 (.c (.agg [.nilf, .nilf, .nilf, .nilf, .nilf, .nilf, .nilf, .nilf, .nilf, .nilf, .nilf, .nilf, .nilf, .nilf, .nilf, .nilf, .nilf, .nilf, .nilf])))]) (.seq (.seq (.ops [Wm 4 0]) (.block 0 (.loop A_q52_3))) (.seq (.ops [o_ 3 (.mov (.f 95))]) (.seq (.ops A_q52_4) (.seq (.ops A_q52_5) (.seq (.ops A_q52_6) .ret)))))))
def T_q52 : FC := ⟨16, A_q52, [.cella 0 19]⟩
abbrev F_q53 : Nat := 53
def A_q53_0 : LA := [o_ 5 (.box 55 3 (.t 1)), o_ 8 (.mov (.c (.nilp)))]
def A_q53_1 : LA := [mv 18 3, Wi 19 .gtr 18 100]
def A_q53_2 : LA := [mv 24 0, Wc 25 24, Wf 26 0 25, Wl 27 26, Wf 28 0 5, Wl 29 28, o_ 30 (.inv [(29, 306)] (.t 27) [(.t 29)]), mv 23 30, Wx 31 0 23, Wx 32 1 23, mv 9 31, mv 10 32]
def A_q53_3 : LA := [mv 33 10, Wi 34 .neq 33 0]
def A_q53_4 : LA := [mv 35 2, o_ 36 (.build [.int .i64 (0), .str []] [(0, 1, (i_ 100)), (1, 1, (.t 35))]), o_ 37 (.box 160 2 (.t 36)), mv 8 37]
def A_q53_5 : LA := [o_ 38 (.mkmap), mv 11 38]
def A_q53_6 : LA := [Wf 39 1 5, Wl 40 39, We 41 40, Wm 42 0]
def A_q53_7 : LA := [mv 44 42, Wa 45 52 3 40 42, Wd 46 3 45, o_ 13 (.box 52 3 (.c (.agg [.int .i32 (0), .nils, .nils]))), mv 12 44, Wt 3 13 46]
def A_q53_8 : LA := [mv 48 9, Wf 49 0 13, Wl 50 49, o_ 51 (.call 35 [(.t 48), (.t 50)]), mv 47 51, Wx 52 0 47, Wx 53 1 47, o_ 14 (.box 120 9 (.c (.agg [.int .i32 (0), .str [], .str [], .int .u8 (0), .int .u8 (0), .int .u8 (0), .bool false, .int .i64 (0), .str []]))), Wt 9 14 52, mv 15 53]
def A_q53_9 : LA := [mv 54 2, Wf 55 1 14, Wl 56 55, o_ 57 (.call 97 [(.t 54), (.t 56)]), mv 16 57]
def A_q53_10 : LA := [mv 58 15, o_ 59 (.not (.t 58))]
def A_q53_11 : LA := [mv 68 12, Wi 69 .gtr 68 0, mv 70 69, Wgf 71 0 13 70, Wgl 72 71 70, Wgf 73 1 5 70, Wgl 74 73 70, Wgm 75 12 70, g_ 76 (.bini .sub (.t 75) (i_ 1)) 70, g_ 77 (.iaddr 52 3 (.t 74) (.t 76)) 70, Wgf 78 0 77 70, Wgl 79 78 70, g_ 80 (.bini .leq (.t 72) (.t 79)) 70, Wp 81 70 80, mv 67 81]
def A_q53_12 : LA := [mv 86 15, o_ 87 (.not (.t 86)), mv 85 87]
def A_q53_13 : LA := [Wf 92 7 14, Wl 93 92, Wi 94 .gtr 93 0, mv 95 94, Wgm 96 11 95, Wgf 97 7 14 95, Wgl 98 97 95, g_ 99 (.mlook .i (.int .i32 0) false (.t 96) (.t 98)) 95, g_ 100 (.bini .gtr (.t 99) (.c (.int .i32 0))) 95, Wp 101 95 100, mv 91 101]
def A_q53_14 : LA := [mv 105 11, Wf 106 7 14, Wl 107 106, Wf 108 0 13, Wl 109 108, n_ (.mupd .i (.t 105) (.t 107) (.t 109))]
def A_q53_15 : LA := [mv 110 0, Wd 111 9 14, Wd 112 3 13, mv 113 16, mv 114 3, o_ 115 (.call 99 [(.t 110), (.t 111), (.t 112), (.t 113), (.t 114)]), mv 17 115]
def A_q53_16 : LA := [mv 116 17, o_ 117 (.isnil .pt true (.t 116))]
def A_q53_17 : LA := [Wi 119 .add 42 1, mv 42 119]
def A_q53_18 : ACode := (.seq (.ops [Wb 43 .lss 42 41]) (.seq (.cond (.t 43) .skip (.exit 0)) (.seq (.block 1 (.seq (.ops A_q53_7) (.seq (.ops A_q53_8) (.seq (.ops A_q53_9) (.seq (.seq (.ops A_q53_10) (.cond (.t 59) .bad .skip)) (.seq (.block 2 (.seq (.alts [68, 69, 70, 71, 72, 73, 74, 75, 76, 77, 78, 79, 80, 81, 67] [A_q53_11]) (.cond (.t 67) .bad (.seq (.ops A_q53_12) (.cond (.t 85) .bad (.seq (.ops A_q53_13) (.cond (.t 91) .bad .skip))))))) (.seq (.ops A_q53_14) (.seq (.ops A_q53_15) (.seq (.ops A_q53_16) (.cond (.t 117) .bad .skip)))))))))) (.ops A_q53_17))))
def A_q53_19 : LA := [mv 120 0, mv 121 9, Wf 122 2 5, Wl 123 122, mv 124 2, mv 125 3, o_ 126 (.call 100 [(.t 120), (.t 121), (.t 123), (.t 124), (.t 125)]), mv 8 126]
def A_q53 : ACode := (.seq (.ops A_q53_0) (.seq (.seq (.ops A_q53_1) (.cond (.t 19) .bad .skip)) (.seq (.alts [24, 25, 26, 27, 28, 29, 30, 23, 31, 32, 9, 10] [A_q53_2]) (.seq (.seq (.ops A_q53_3) (.cond (.t 34) (.seq (.ops A_q53_4) .ret) .skip)) (.seq (.ops A_q53_5) (.seq (.seq (.ops A_q53_6) (.block 0 (.loop A_q53_18))) (.seq (.ops A_q53_19) .ret)))))))
def T_q53 : FC := ⟨127, A_q53, [.tmp 8]⟩
abbrev F_q54 : Nat := 54
def A_q54_0 : LA := [o_ 1 (.box 120 9 (.t 0)), Wo 2 false]
def A_q54_1 : LA := [Wf 3 3 1, Wl 4 3, o_ 5 (.bini .eql (.t 4) (.c (.int .u8 1))), mv 6 5, Wgf 7 4 1 6, Wgl 8 7 6, g_ 9 (.bini .neq (.t 8) (.c (.int .u8 11))) 6, Wp 10 6 9, mv 11 10, Wgf 12 7 1 11, Wgl 13 12 11, g_ 14 (.bini .eql (.t 13) (i_ 0)) 11, Wp 15 11 14, mv 2 15]
def A_q54 : ACode := (.seq (.ops A_q54_0) (.seq (.ops A_q54_1) .ret))
def T_q54 : FC := ⟨16, A_q54, [.tmp 2]⟩
abbrev F_q55 : Nat := 55
def A_q55_0 : LA := [o_ 1 (.box 46 3 (.t 0)), Wo 2 false]
def A_q55_1 : LA := [Wf 3 0 1, Wl 4 3, o_ 5 (.bini .eql (.t 4) (.c (.int .u64 0))), mv 6 5, Wgf 7 1 1 6, Wgl 8 7 6, g_ 9 (.bins .eql (.t 8) (.c (.str []))) 6, Wp 10 6 9, mv 11 10, Wgf 12 2 1 11, Wgl 13 12 11, g_ 14 (.lenl (.t 13)) 11, g_ 15 (.bini .eql (.t 14) (i_ 0)) 11, Wp 16 11 15, mv 2 16]
def A_q55 : ACode := (.seq (.ops A_q55_0) (.seq (.ops A_q55_1) .ret))
def T_q55 : FC := ⟨17, A_q55, [.tmp 2]⟩
abbrev F_q56 : Nat := 56
def A_q56_0 : LA := [mv 9 0, We 10 9, Wm 11 0]
def A_q56_1 : LA := [Wa 13 46 3 9 11, Wd 14 3 13, o_ 5 (.box 46 3 (.c (.agg [.int .u64 (0), .str [], .nils]))), Wt 3 5 14]
def A_q56_2 : LA := [Wf 15 0 5, Wl 16 15, Wf 17 1 5, Wl 18 17, o_ 19 (.build [.int .u64 (0), .str [], .nils] [(0, 1, (.t 16)), (1, 1, (.t 18))]), o_ 6 (.box 46 3 (.c (.agg [.int .u64 (0), .str [], .nils]))), Wt 3 6 19]
def A_q56_3 : LA := [Wf 20 2 5, Wl 21 20, We 22 21, Wm 23 0]
def A_q56_4 : ACode := (.seq (.ops [Wb 24 .lss 23 22]) (.seq (.cond (.t 24) .bad (.exit 2)) .bad))
def A_q56_5 : LA := [mv 35 3, Wd 36 3 6, o_ 37 (.bslice 46 3 1 [.int .u64 (0), .str [], .nils] [(0, 3, (.t 36))]), o_ 38 (.app 46 3 48 (.t 35) (.t 37)), mv 3 38]
def A_q56_6 : LA := [Wi 39 .add 11 1, mv 11 39]
def A_q56_7 : ACode := (.seq (.ops [Wb 12 .lss 11 10]) (.seq (.cond (.t 12) .skip (.exit 0)) (.seq (.block 1 (.seq (.ops A_q56_1) (.seq (.ops A_q56_2) (.seq (.seq (.ops A_q56_3) (.block 2 (.loop A_q56_4))) (.ops A_q56_5))))) (.ops A_q56_6))))
def A_q56_8 : LA := [mv 40 3, mv 2 40]
def A_q56 : ACode := (.seq (.ops [Wn 2]) (.seq (.ops [Wn 3]) (.seq (.seq (.ops A_q56_0) (.block 0 (.loop A_q56_7))) (.seq (.ops A_q56_8) .ret))))
def T_q56 : FC := ⟨41, A_q56, [.tmp 2]⟩
abbrev F_q57 : Nat := 57
def A_q57_0 : LA := [o_ 3 (.box 46 3 (.t 1)), o_ 4 (.box 46 3 (.c (.agg [.int .u64 (0), .str [], .nils])))]
def A_q57_1 : LA := [Wf 8 0 3, Wl 9 8, Wf 10 1 3, Wl 11 10, o_ 12 (.build [.int .u64 (0), .str [], .nils] [(0, 1, (.t 9)), (1, 1, (.t 11))]), o_ 5 (.box 46 3 (.c (.agg [.int .u64 (0), .str [], .nils]))), Wt 3 5 12]
def A_q57_2 : LA := [Wf 13 2 3, Wl 14 13, We 15 14, Wm 16 0]
def A_q57_3 : LA := [Wa 18 55 3 14 16, Wd 19 3 18, o_ 7 (.box 55 3 (.c (.agg [.str [], .nils, .nils]))), Wt 3 7 19]
def A_q57_4 : LA := [Wf 20 2 5, mv 22 0, Wd 23 3 7, Wl 21 20, o_ 24 (.call 27 [(.t 22), (.t 23)]), o_ 25 (.bslice 55 3 1 [.str [], .nils, .nils] [(0, 3, (.t 24))]), o_ 26 (.app 55 3 64 (.t 21) (.t 25)), Wf 27 2 5, Wt 1 27 26]
def A_q57_5 : LA := [Wf 20 2 5, mv 22 0, Wd 23 3 7, o_ 24 (.call 27 [(.t 22), (.t 23)]), Wl 21 20, o_ 25 (.bslice 55 3 1 [.str [], .nils, .nils] [(0, 3, (.t 24))]), o_ 26 (.app 55 3 64 (.t 21) (.t 25)), Wf 27 2 5, Wt 1 27 26]
def A_q57_6 : LA := [Wi 28 .add 16 1, mv 16 28]
def A_q57_7 : ACode := (.seq (.ops [Wb 17 .lss 16 15]) (.seq (.cond (.t 17) .skip (.exit 0)) (.seq (.block 1 (.seq (.ops A_q57_3) (.alts [20, 21, 22, 23, 24, 25, 26, 27] [A_q57_4, A_q57_5]))) (.ops A_q57_6))))
def A_q57_8 : LA := [Wd 29 3 5, Wt 3 4 29]
def A_q57 : ACode := (.seq (.ops A_q57_0) (.seq (.ops A_q57_1) (.seq (.seq (.ops A_q57_2) (.block 0 (.loop A_q57_7))) (.seq (.ops A_q57_8) .ret))))
def T_q57 : FC := ⟨30, A_q57, [.cella 4 3]⟩
abbrev F_q58 : Nat := 58
def A_q58_0 : LA := [o_ 2 (.box 120 9 (.t 0)), o_ 3 (.box 52 3 (.t 1)), o_ 4 (.box 52 3 (.c (.agg [.int .i32 (0), .nils, .nils])))]
def A_q58_1 : LA := [o_ 15 (.mkmap), mv 5 15]
def A_q58_2 : LA := [Wf 16 1 3, Wl 17 16, We 18 17, Wm 19 0]
def A_q58_3 : LA := [mv 21 19, Wa 22 46 3 17 19, Wd 23 3 22, o_ 7 (.box 46 3 (.c (.agg [.int .u64 (0), .str [], .nils]))), mv 6 21, Wt 3 7 23]
def A_q58_4 : LA := [mv 24 5, Wf 25 0 7, Wl 26 25, Wf 27 1 7, Wl 28 27, o_ 29 (.build [.int .u64 (0), .str []] [(0, 1, (.t 26)), (1, 1, (.t 28))]), mv 30 6, n_ (.mupd (.a 1 0) (.t 24) (.t 29) (.t 30))]
def A_q58_5 : LA := [Wi 31 .add 19 1, mv 19 31]
def A_q58_6 : ACode := (.seq (.ops [Wb 20 .lss 19 18]) (.seq (.cond (.t 20) .skip (.exit 0)) (.seq (.block 1 (.seq (.ops A_q58_3) (.ops A_q58_4))) (.ops A_q58_5))))
def A_q58_7 : LA := [Wf 32 1 3, Wl 33 32, We 34 33, Wm 35 0]
def A_q58_8 : LA := [mv 37 35, Wa 38 46 3 33 35, Wd 39 3 38, o_ 10 (.box 46 3 (.c (.agg [.int .u64 (0), .str [], .nils]))), mv 9 37, Wt 3 10 39]
def A_q58_9 : LA := [mv 40 5, Wf 41 0 10, Wl 42 41, Wf 43 1 10, Wl 44 43, o_ 45 (.build [.int .u64 (0), .str []] [(0, 1, (.t 42)), (1, 1, (.t 44))]), o_ 46 (.mlook (.a 1 0) (.int .i64 0) false (.t 40) (.t 45)), mv 47 9, Wb 48 .eql 46 47]
def A_q58_10 : LA := [mv 49 8, Wd 50 3 10, Wf 51 2 3, Wl 52 51, mv 53 9, Wa 54 46 3 52 53, Wd 55 3 54, o_ 56 (.build [.int .u64 (0), .str [], .nils, .int .u64 (0), .str [], .nils] [(0, 3, (.t 50)), (3, 3, (.t 55))]), o_ 57 (.bslice 227 6 1 [.int .u64 (0), .str [], .nils, .int .u64 (0), .str [], .nils] [(0, 6, (.t 56))]), o_ 58 (.app 227 6 96 (.t 49) (.t 57)), mv 8 58]
def A_q58_11 : LA := [Wi 59 .add 35 1, mv 35 59]
def A_q58_12 : ACode := (.seq (.ops [Wb 36 .lss 35 34]) (.seq (.cond (.t 36) .skip (.exit 2)) (.seq (.block 3 (.seq (.ops A_q58_8) (.seq (.ops A_q58_9) (.cond (.t 48) (.alts [49, 50, 51, 52, 53, 54, 55, 56, 57, 58, 8] [A_q58_10]) .bad)))) (.ops A_q58_11))))
def A_q58_13 : LA := [o_ 60 (.mkfn 102 [] [(.t 2)]), mv 11 60]
def A_q58_14 : LA := [Wf 61 5 2, Wl 62 61, o_ 63 (.bini .eql (.t 62) (.c (.int .u8 9)))]
def A_q58_15 : LA := [mv 64 8, mv 65 11, o_ 66 (.call 106 [(.t 64), (.t 65)])]
def A_q58_16 : LA := [Wf 67 0 3, Wl 68 67, o_ 69 (.build [.int .i32 (0), .nils, .nils] [(0, 1, (.t 68))]), o_ 12 (.box 52 3 (.c (.agg [.int .i32 (0), .nils, .nils]))), Wt 3 12 69]
def A_q58_17 : LA := [mv 70 8, We 71 70, Wm 72 0]
def A_q58_18 : LA := [Wa 74 227 6 70 72, Wd 75 6 74, o_ 14 (.box 227 6 (.c (.agg [.int .u64 (0), .str [], .nils, .int .u64 (0), .str [], .nils]))), Wt 6 14 75]
def A_q58_19 : LA := [Wf 76 1 12, Wl 77 76, Wf 78 0 14, Wd 79 3 78, o_ 80 (.fslice 46 3 1 [.int .u64 (0), .str [], .nils] [(0, 3, (.t 79))]), Wf 82 2 12, Wf 84 3 14, o_ 81 (.app 46 3 48 (.t 77) (.t 80)), Wl 83 82, Wd 85 3 84, o_ 86 (.fslice 46 3 1 [.int .u64 (0), .str [], .nils] [(0, 3, (.t 85))]), Wf 88 1 12, o_ 87 (.app 46 3 48 (.t 83) (.t 86)), Wt 1 88 81, Wf 89 2 12, Wt 1 89 87]
def A_q58_20 : LA := [Wf 76 1 12, Wl 77 76, Wf 78 0 14, Wd 79 3 78, o_ 80 (.fslice 46 3 1 [.int .u64 (0), .str [], .nils] [(0, 3, (.t 79))]), Wf 82 2 12, Wf 84 3 14, Wl 83 82, o_ 81 (.app 46 3 48 (.t 77) (.t 80)), Wd 85 3 84, o_ 86 (.fslice 46 3 1 [.int .u64 (0), .str [], .nils] [(0, 3, (.t 85))]), Wf 88 1 12, o_ 87 (.app 46 3 48 (.t 83) (.t 86)), Wt 1 88 81, Wf 89 2 12, Wt 1 89 87]
def A_q58_21 : LA := [Wf 76 1 12, Wl 77 76, Wf 78 0 14, Wd 79 3 78, o_ 80 (.fslice 46 3 1 [.int .u64 (0), .str [], .nils] [(0, 3, (.t 79))]), Wf 82 2 12, Wf 84 3 14, Wl 83 82, Wd 85 3 84, o_ 86 (.fslice 46 3 1 [.int .u64 (0), .str [], .nils] [(0, 3, (.t 85))]), o_ 81 (.app 46 3 48 (.t 77) (.t 80)), Wf 88 1 12, o_ 87 (.app 46 3 48 (.t 83) (.t 86)), Wt 1 88 81, Wf 89 2 12, Wt 1 89 87]
def A_q58_22 : LA := [Wf 76 1 12, Wl 77 76, Wf 78 0 14, Wd 79 3 78, o_ 80 (.fslice 46 3 1 [.int .u64 (0), .str [], .nils] [(0, 3, (.t 79))]), Wf 82 2 12, Wf 84 3 14, Wd 85 3 84, o_ 86 (.fslice 46 3 1 [.int .u64 (0), .str [], .nils] [(0, 3, (.t 85))]), o_ 81 (.app 46 3 48 (.t 77) (.t 80)), Wl 83 82, Wf 88 1 12, o_ 87 (.app 46 3 48 (.t 83) (.t 86)), Wt 1 88 81, Wf 89 2 12, Wt 1 89 87]
def A_q58_23 : LA := [Wf 76 1 12, Wl 77 76, Wf 78 0 14, Wd 79 3 78, o_ 80 (.fslice 46 3 1 [.int .u64 (0), .str [], .nils] [(0, 3, (.t 79))]), Wf 82 2 12, Wf 84 3 14, Wd 85 3 84, o_ 86 (.fslice 46 3 1 [.int .u64 (0), .str [], .nils] [(0, 3, (.t 85))]), Wl 83 82, o_ 81 (.app 46 3 48 (.t 77) (.t 80)), Wf 88 1 12, o_ 87 (.app 46 3 48 (.t 83) (.t 86)), Wt 1 88 81, Wf 89 2 12, Wt 1 89 87]
def A_q58_24 : LA := [Wi 90 .add 72 1, mv 72 90]
def A_q58_25 : ACode := (.seq (.ops [Wb 73 .lss 72 71]) (.seq (.cond (.t 73) .skip (.exit 4)) (.seq (.block 5 (.seq (.ops A_q58_18) (.alts [76, 77, 78, 79, 80, 81, 82, 83, 84, 85, 86, 87, 88, 89] [A_q58_19, A_q58_20, A_q58_21, A_q58_22, A_q58_23]))) (.ops A_q58_24))))
def A_q58_26 : LA := [Wd 91 3 12, Wt 3 4 91]
def A_q58 : ACode := (.seq (.ops A_q58_0) (.seq (.ops A_q58_1) (.seq (.seq (.ops A_q58_2) (.block 0 (.loop A_q58_6))) (.seq (.ops [Wn 8]) (.seq (.seq (.ops A_q58_7) (.block 2 (.loop A_q58_12))) (.seq (.ops A_q58_13) (.seq (.seq (.ops A_q58_14) (.cond (.t 63) (.ops [o_ 11 (.mov (.f 104))]) .bad)) (.seq (.ops A_q58_15) (.seq (.ops A_q58_16) (.seq (.seq (.ops A_q58_17) (.block 4 (.loop A_q58_25))) (.seq (.ops A_q58_26) .ret)))))))))))
def T_q58 : FC := ⟨92, A_q58, [.cella 4 3]⟩
abbrev F_q59 : Nat := 59
def A_q59_0 : LA := [mv 4 0, mv 5 1, o_ 6 (.call 7 [(.t 5)]), o_ 7 (.call 71 [(.t 4), (.t 6)])]
def A_q59_1 : LA := [mv 8 0, mv 9 0, Wc 10 9, Wf 11 0 10, Wl 12 11, mv 13 1, o_ 14 (.call 107 [(.t 12), (.t 13)]), Wc 15 8, Wf 16 0 15, Wt 1 16 14]
def A_q59 : ACode := (.seq (.ops A_q59_0) (.cond (.t 7) (.ops A_q59_1) .bad))
def T_q59 : FC := ⟨17, A_q59, []⟩
abbrev F_q60 : Nat := 60
def A_q60_0 : LA := [mv 3 0, o_ 4 (.bini .shl (.t 3) (.c (.int .u64 1))), o_ 5 (.conv .u64 (.t 4)), mv 6 0, o_ 7 (.bini .shr (.t 6) (.c (.int .u64 63))), o_ 8 (.conv .u64 (.t 7)), Wb 9 .xor 5 8, mv 2 9]
def A_q60 : ACode := (.seq (.ops [o_ 2 (.mov (.c (.int .u64 0)))]) (.seq (.ops A_q60_0) .ret))
def T_q60 : FC := ⟨10, A_q60, [.tmp 2]⟩
abbrev F_q63 : Nat := 63
def A_q63_0 : LA := [mv 4 0, mv 5 1, We 6 5, o_ 7 (.conv .u64 (.t 6)), o_ 8 (.call 7 [(.t 7)]), mv 9 1, We 10 9, Wb 11 .add 8 10, o_ 12 (.call 71 [(.t 4), (.t 11)])]
def A_q63_1 : LA := [mv 13 0, mv 14 0, Wc 15 14, Wf 16 0 15, Wl 17 16, mv 18 1, We 19 18, o_ 20 (.conv .u64 (.t 19)), o_ 21 (.call 107 [(.t 17), (.t 20)]), mv 22 1, o_ 23 (.app 5 1 1 (.t 21) (.t 22)), Wc 24 13, Wf 25 0 24, Wt 1 25 23]
def A_q63 : ACode := (.seq (.ops A_q63_0) (.cond (.t 12) (.ops A_q63_1) .bad))
def T_q63 : FC := ⟨26, A_q63, []⟩
abbrev F_q64 : Nat := 64
def A_q64_0 : LA := [mv 5 0, Wc 6 5, Wf 7 0 6, Wl 8 7, o_ 9 (.call 110 [(.t 8)]), mv 4 9]
def A_q64_1 : LA := [mv 10 1, o_ 11 (.callv (.t 10) [])]
def A_q64_2 : LA := [mv 12 0, Wc 13 12, Wf 14 0 13, Wl 15 14, mv 16 4, o_ 17 (.call 111 [(.t 15), (.t 16)])]
def A_q64 : ACode := (.seq (.ops A_q64_0) (.seq (.ops A_q64_1) (.ops A_q64_2)))
def T_q64 : FC := ⟨18, A_q64, []⟩
abbrev F_q65 : Nat := 65
def A_q65_0 : LA := [Wl 2 0, Wf 3 2 1, Wl 4 3, o_ 5 (.iaddr 55 3 (.t 4) (i_ 0)), Wd 6 3 5, o_ 7 (.call 15 [(.t 2), (.t 6)])]
def A_q65 : ACode := (.alts [2, 3, 4, 5, 6, 7] [A_q65_0])
def T_q65 : FC := ⟨8, A_q65, []⟩
abbrev F_q66 : Nat := 66
def A_q66_0 : LA := [o_ 6 (.box 120 9 (.c (.agg [.int .i32 (0), .str [], .str [], .int .u8 (0), .int .u8 (0), .int .u8 (0), .bool false, .int .i64 (0), .str []]))), Wo 7 false]
def A_q66_1 : LA := [mv 8 2, o_ 9 (.not (.t 8))]
def A_q66_2 : LA := [o_ 10 (.build [.int .i32 (0), .str [], .str [], .int .u8 (0), .int .u8 (0), .int .u8 (0), .bool false, .int .i64 (0), .str []] []), Wt 9 6 10, Wo 7 false]
def A_q66_3 : LA := [mv 11 0, Wc 12 11, Wf 13 2 12, Wl 14 13, mv 15 1, Wa 16 120 9 14 15, Wd 17 9 16, Wt 9 6 17, Wo 7 true]
def A_q66 : ACode := (.seq (.ops A_q66_0) (.seq (.seq (.ops A_q66_1) (.cond (.t 9) (.seq (.ops A_q66_2) .ret) .skip)) (.seq (.ops A_q66_3) .ret)))
def T_q66 : FC := ⟨18, A_q66, [.cella 6 9, .tmp 7]⟩
abbrev F_q67 : Nat := 67
def A_q67_0 : LA := [mv 6 0, Wc 7 6, Wf 8 3 7, Wl 9 8, Wi 10 .eql 9 0, mv 11 10, Wgm 12 1 11, g_ 13 (.bini .lss (.t 12) (.c (.int .i32 1))) 11, Wgm 14 13 11, Whm 15 1 14, Wh 16 (.bini .gtr (.t 15) (.c (.int .i32 536870911))) 14, g_ 17 (.pick (.t 14) (.c (.bool true)) (.t 16)) 11, Wgm 18 17 11, Whm 19 2 18, Wh 20 (.bini .gtr (.t 19) (.c (.int .u8 5))) 18, g_ 21 (.pick (.t 18) (.c (.bool true)) (.t 20)) 11, Wp 22 11 21]
def A_q67_1 : LA := [mv 26 0, mv 27 1, o_ 28 (.conv .u64 (.t 27)), o_ 29 (.bini .shl (.t 28) (.c (.int .u64 3))), mv 30 2, o_ 31 (.conv .u64 (.t 30)), Wb 32 .or 29 31, o_ 33 (.call 59 [(.t 26), (.t 32)])]
def A_q67 : ACode := (.seq (.seq (.ops A_q67_0) (.cond (.t 22) .bad .skip)) (.ops A_q67_1))
def T_q67 : FC := ⟨34, A_q67, []⟩
abbrev F_q68 : Nat := 68
def A_q68_0 : LA := [Wl 5 0, Wf 6 5 1, Wl 7 6, Wf 8 1 2, Wl 9 8, Wl 10 3, Wa 11 46 3 9 10, Wd 12 3 11, o_ 13 (.call 69 [(.t 5), (.c (.int .i32 1)), (.t 7), (.t 12)])]
def A_q68_1 : LA := [Wl 14 0, Wf 15 4 1, Wl 16 15, Wd 17 3 4, o_ 18 (.call 69 [(.t 14), (.c (.int .i32 2)), (.t 16), (.t 17)])]
def A_q68 : ACode := (.seq (.alts [5, 6, 7, 8, 9, 10, 11, 12, 13] [A_q68_0]) (.ops A_q68_1))
def T_q68 : FC := ⟨19, A_q68, []⟩
abbrev F_q69 : Nat := 69
def A_q69_0 : LA := [mv 9 0, Wc 10 9, Wf 11 2 10, Wl 12 11, mv 13 2, o_ 14 (.mlook .i (.agg [.int .u8 (0), .nilf]) false (.t 12) (.t 13)), o_ 8 (.box 112 2 (.c (.agg [.int .u8 (0), .nilf]))), Wt 2 8 14]
def A_q69_1 : LA := [mv 15 0, Wc 16 15, Wf 17 0 16, Wl 18 17, mv 19 1, Wf 20 0 8, Wl 21 20, o_ 22 (.call 67 [(.t 18), (.t 19), (.t 21)])]
def A_q69_2 : LA := [Wf 23 1 8, Wl 24 23, mv 25 0, mv 26 2, Wd 27 3 7, o_ 28 (.callv (.t 24) [(.t 25), (.t 26), (.t 27)])]
def A_q69 : ACode := (.seq (.ops [o_ 7 (.box 46 3 (.t 3))]) (.seq (.ops A_q69_0) (.seq (.alts [15, 16, 17, 18, 19, 20, 21, 22] [A_q69_1]) (.ops A_q69_2))))
def T_q69 : FC := ⟨29, A_q69, []⟩
abbrev F_q70 : Nat := 70
def A_q70_0 : LA := [Wf 5 2 0, Wl 6 5, We 7 6, Wm 8 0]
def A_q70_1 : LA := [Wa 10 46 3 6 8, Wd 11 3 10, o_ 4 (.box 46 3 (.c (.agg [.int .u64 (0), .str [], .nils]))), Wt 3 4 11]
def A_q70_2 : LA := [Wl 12 1, Wc 13 12, Wf 14 2 13, Wl 15 14, Wf 16 4 2, Wl 17 16, o_ 18 (.mlook .i (.agg [.int .u8 (0), .nilf]) false (.t 15) (.t 17)), o_ 19 (.fld 1 (.t 18)), Wl 20 1, Wf 21 4 2, Wl 22 21, Wd 23 3 4, o_ 24 (.callv (.t 19) [(.t 20), (.t 22), (.t 23)])]
def A_q70_3 : LA := [Wi 25 .add 8 1, mv 8 25]
def A_q70_4 : ACode := (.seq (.ops [Wb 9 .lss 8 7]) (.seq (.cond (.t 9) .skip (.exit 0)) (.seq (.block 1 (.seq (.ops A_q70_1) (.alts [12, 13, 14, 15, 16, 17, 18, 19, 20, 21, 22, 23, 24] [A_q70_2]))) (.ops A_q70_3))))
def A_q70 : ACode := (.seq (.ops A_q70_0) (.block 0 (.loop A_q70_4)))
def T_q70 : FC := ⟨26, A_q70, []⟩
abbrev F_q71 : Nat := 71
def A_q71_0 : LA := [mv 5 0, Wc 6 5, Wf 7 3 6, Wl 8 7, Wi 9 .eql 8 0, mv 10 9, Wgm 11 1 10, Wgm 12 0 10, g_ 13 (.nilc (.t 12)) 10, Wgf 14 1 13 10, Wgl 15 14 10, Wgm 16 0 10, g_ 17 (.nilc (.t 16)) 10, Wgf 18 0 17 10, Wgl 19 18 10, g_ 20 (.lenl (.t 19)) 10, g_ 21 (.bini .sub (.t 15) (.t 20)) 10, g_ 22 (.bini .gtr (.t 11) (.t 21)) 10, Wp 23 10 22]
def A_q71_1 : LA := [mv 27 0, Wc 28 27, Wf 29 3 28, Wl 30 29, Wi 31 .eql 30 0, mv 4 31]
def A_q71 : ACode := (.seq (.ops [Wo 4 false]) (.seq (.seq (.alts [5, 6, 7, 8, 9, 10, 11, 12, 13, 14, 15, 16, 17, 18, 19, 20, 21, 22, 23] [A_q71_0]) (.cond (.t 23) .bad .skip)) (.seq (.ops A_q71_1) .ret)))
def T_q71 : FC := ⟨32, A_q71, [.tmp 4]⟩
abbrev F_q72 : Nat := 72
def A_q72_0 : LA := [mv 3 0, o_ 4 (.isnilu false (.t 3))]
def A_q72 : ACode := (.seq (.ops [Wn 2]) (.seq (.seq (.ops A_q72_0) (.cond (.t 4) (.seq (.ops [Wn 2]) .ret) .bad)) .bad))
def T_q72 : FC := ⟨8, A_q72, [.tmp 2]⟩
abbrev F_q73 : Nat := 73
def A_q73_0 : LA := [Wn 4, Wn 5]
def A_q73_1 : LA := [mv 12 0, We 13 12, Wm 14 0]
def A_q73_2 : LA := [Wa 16 37 7 12 14, Wd 17 7 16, o_ 8 (.box 37 7 (.c (.agg [.str [], .nils, .nils, .nils, .nils, .nils, .nils]))), Wt 7 8 17]
def A_q73_3 : LA := [mv 18 6, Wd 19 7 8, o_ 20 (.call 112 [(.t 19)]), o_ 21 (.bslice 37 7 1 [.str [], .nils, .nils, .nils, .nils, .nils, .nils] [(0, 7, (.t 20))]), o_ 22 (.app 37 7 160 (.t 18) (.t 21)), mv 6 22]
def A_q73_4 : LA := [Wi 23 .add 14 1, mv 14 23]
def A_q73_5 : ACode := (.seq (.ops [Wb 15 .lss 14 13]) (.seq (.cond (.t 15) .skip (.exit 0)) (.seq (.block 1 (.seq (.ops A_q73_2) (.ops A_q73_3))) (.ops A_q73_4))))
def A_q73_6 : LA := [mv 24 1, We 25 24, Wm 26 0]
def A_q73_7 : ACode := (.seq (.ops [Wb 27 .lss 26 25]) (.seq (.cond (.t 27) .bad (.exit 2)) .bad))
def A_q73_8 : LA := [mv 36 6, mv 37 9, mv 4 36, mv 5 37]
def A_q73 : ACode := (.seq (.ops A_q73_0) (.seq (.ops [Wn 6]) (.seq (.seq (.ops A_q73_1) (.block 0 (.loop A_q73_5))) (.seq (.ops [Wn 9]) (.seq (.seq (.ops A_q73_6) (.block 2 (.loop A_q73_7))) (.seq (.ops A_q73_8) .ret))))))
def T_q73 : FC := ⟨38, A_q73, [.tmp 4, .tmp 5]⟩
abbrev F_q74 : Nat := 74
def A_q74_0 : LA := [mv 4 0, o_ 5 (.call 114 [(.t 4)]), mv 3 5]
def A_q74_1 : LA := [mv 6 3, o_ 7 (.call 51 [(.t 6)])]
def A_q74_2 : LA := [mv 8 3, mv 2 8]
def A_q74 : ACode := (.seq (.ops [Wn 2]) (.seq (.ops A_q74_0) (.seq (.ops A_q74_1) (.seq (.ops A_q74_2) .ret))))
def T_q74 : FC := ⟨9, A_q74, [.tmp 2]⟩
abbrev F_q75 : Nat := 75
def A_q75_0 : LA := [o_ 1 (.box 85 1 (.t 0)), o_ 2 (.mov (.c (.nilf)))]
def A_q75_1 : LA := [o_ 3 (.mkfn 115 [] [(.t 1)]), mv 2 3]
def A_q75 : ACode := (.seq (.ops A_q75_0) (.seq (.ops A_q75_1) .ret))
def T_q75 : FC := ⟨4, A_q75, [.tmp 2]⟩
abbrev F_q76 : Nat := 76
def A_q76 : ACode := (.seq (.recv (some 4) []) (.block 0 (.seq (.ops [o_ 6 (.isnil .ic false (.t 4))]) (.cond (.t 6) (.ops [mv 1 4]) .bad))))
def T_q76 : FC := ⟨12, A_q76, []⟩
abbrev F_q77 : Nat := 77
def A_q77_0 : LA := [Wf 11 0 3, Wl 12 11, Wf 14 0 3, Wl 15 14, o_ 13 (.acall 117 [(.t 12)]), o_ 16 (.acall 116 [(.t 13), (i_ 60), (.t 15)])]
def A_q77_1 : LA := [Wf 17 1 3, Wl 18 17, o_ 19 (.bins .eql (.t 18) (.c (.str []))), mv 20 19, Wh 21 (.faddr 1 (.t 3)) 20, Wh 22 (.ld1 (.t 21)) 20, Wf 25 1 3, Wl 26 25, Wh 23 (.acall 118 [(.t 22)]) 20, Wq 24 20 23, o_ 27 (.acall 116 [(.t 24), (i_ 60), (.t 26)])]
def A_q77_2 : LA := [Wf 28 2 3, Wl 29 28, We 30 29, Wi 31 .leq 30 256, Wf 32 0 3, Wl 33 32, o_ 34 (.call 116 [(.t 31), (i_ 68), (.t 33)])]
def A_q77_3 : LA := [o_ 35 (.mkmap), mv 4 35]
def A_q77_4 : LA := [Wf 36 2 3, Wl 37 36, We 38 37, Wm 39 0]
def A_q77_5 : ACode := (.seq (.ops [Wb 40 .lss 39 38]) (.seq (.cond (.t 40) .bad (.exit 0)) .bad))
def A_q77_6 : LA := [Wf 63 3 3, Wl 64 63, We 65 64, Wm 66 0]
def A_q77_7 : LA := [Wa 68 37 7 64 66, Wd 69 7 68, o_ 8 (.box 37 7 (.c (.agg [.str [], .nils, .nils, .nils, .nils, .nils, .nils]))), Wt 7 8 69]
def A_q77_8 : LA := [mv 70 0, Wd 71 7 8, Wf 72 1 3, Wl 73 72, o_ 74 (.call 119 [(.t 70), (.t 71), (.t 73), (i_ 0)])]
def A_q77_9 : LA := [Wi 75 .add 66 1, mv 66 75]
def A_q77_10 : ACode := (.seq (.ops [Wb 67 .lss 66 65]) (.seq (.cond (.t 67) .skip (.exit 2)) (.seq (.block 3 (.seq (.ops A_q77_7) (.ops A_q77_8))) (.ops A_q77_9))))
def A_q77_11 : LA := [Wf 76 4 3, Wl 77 76, We 78 77, Wm 79 0]
def A_q77_12 : ACode := (.seq (.ops [Wb 80 .lss 79 78]) (.seq (.cond (.t 80) .bad (.exit 4)) .bad))
def A_q77 : ACode := (.seq (.ops [o_ 3 (.box 40 5 (.t 1))]) (.seq (.alts [11, 12, 13, 14, 15, 16] [A_q77_0]) (.seq (.alts [17, 18, 19, 20, 21, 22, 23, 24, 25, 26, 27] [A_q77_1]) (.seq (.ops A_q77_2) (.seq (.ops A_q77_3) (.seq (.seq (.ops A_q77_4) (.block 0 (.loop A_q77_5))) (.seq (.seq (.ops A_q77_6) (.block 2 (.loop A_q77_10))) (.seq (.ops A_q77_11) (.block 4 (.loop A_q77_12))))))))))
def T_q77 : FC := ⟨89, A_q77, []⟩
abbrev F_q78 : Nat := 78
def A_q78_0 : LA := [o_ 1 (.box 9 1 (.t 0)), o_ 2 (.mov (.c (.nilf)))]
def A_q78_1 : LA := [o_ 3 (.mkfn 121 [] [(.t 1)]), mv 2 3]
def A_q78 : ACode := (.seq (.ops A_q78_0) (.seq (.ops A_q78_1) .ret))
def T_q78 : FC := ⟨4, A_q78, [.tmp 2]⟩
abbrev F_q79 : Nat := 79
def A_q79_0 : LA := [mv 10 0, mv 11 1, o_ 12 (.bslice 9 1 2 [.str []] [(0, 1, (.t 10)), (1, 1, (.t 11))]), o_ 13 (.call 80 [(.t 12)]), mv 9 13]
def A_q79_1 : LA := [Wl 14 3, mv 15 9, mv 16 2, Wf 17 0 4, Wl 18 17, o_ 19 (.build [.str [], .int .u8 (0), .str []] [(0, 1, (.t 15)), (1, 1, (.t 16)), (2, 1, (.t 18))]), o_ 20 (.bslice 144 3 1 [.str [], .int .u8 (0), .str []] [(0, 3, (.t 19))]), o_ 21 (.app 144 3 40 (.t 14) (.t 20)), Wt 1 3 21]
def A_q79_2 : LA := [mv 22 9, mv 8 22]
def A_q79 : ACode := (.seq (.ops [o_ 8 (.mov (.c (.str [])))]) (.seq (.ops A_q79_0) (.seq (.ops A_q79_1) (.seq (.ops A_q79_2) .ret))))
def T_q79 : FC := ⟨23, A_q79, [.tmp 8]⟩
abbrev F_q80 : Nat := 80
def A_q80_0 : LA := [mv 6 0, We 7 6, Wm 8 0]
def A_q80_1 : LA := [Wa 10 9 1 6 8, Wl 11 10, mv 5 11]
def A_q80_2 : LA := [mv 12 5, o_ 13 (.bins .neq (.t 12) (.c (.str [])))]
def A_q80_3 : LA := [mv 14 3, mv 15 5, o_ 16 (.bslice 9 1 1 [.str []] [(0, 1, (.t 15))]), o_ 17 (.app 9 1 16 (.t 14) (.t 16)), mv 3 17]
def A_q80_4 : LA := [Wi 18 .add 8 1, mv 8 18]
def A_q80_5 : ACode := (.seq (.ops [Wb 9 .lss 8 7]) (.seq (.cond (.t 9) .skip (.exit 0)) (.seq (.block 1 (.seq (.ops A_q80_1) (.seq (.ops A_q80_2) (.cond (.t 13) (.ops A_q80_3) .skip)))) (.ops A_q80_4))))
def A_q80_6 : LA := [mv 19 3, o_ 20 (.call 123 [(.t 19), (.c (.str [46]))]), mv 2 20]
def A_q80 : ACode := (.seq (.ops [o_ 2 (.mov (.c (.str [])))]) (.seq (.ops [Wn 3]) (.seq (.seq (.ops A_q80_0) (.block 0 (.loop A_q80_5))) (.seq (.ops A_q80_6) .ret))))
def T_q80 : FC := ⟨21, A_q80, [.tmp 2]⟩
abbrev F_q82 : Nat := 82
def A_q82_0 : LA := [Wl 16 2, mv 17 1, Wf 18 0 5, Wl 19 18, o_ 20 (.callv (.t 16) [(.t 17), (.t 19), (.c (.int .u8 1))]), mv 7 20]
def A_q82_1 : LA := [Wf 21 1 5, Wl 22 21, We 23 22, Wm 24 0]
def A_q82_2 : LA := [Wa 26 28 9 22 24, Wd 27 9 26, o_ 9 (.box 28 9 (.c (.agg [.str [], .int .i32 (0), .int .u8 (0), .int .u8 (0), .str [], .int .u8 (0), .int .i64 (0), .int .u8 (0), .str []]))), Wt 9 9 27]
def A_q82_3 : LA := [Wl 28 2, mv 29 7, Wf 30 0 9, Wl 31 30, o_ 32 (.callv (.t 28) [(.t 29), (.t 31), (.c (.int .u8 4))])]
def A_q82_4 : LA := [Wi 33 .add 24 1, mv 24 33]
def A_q82_5 : ACode := (.seq (.ops [Wb 25 .lss 24 23]) (.seq (.cond (.t 25) .skip (.exit 0)) (.seq (.block 1 (.seq (.ops A_q82_2) (.ops A_q82_3))) (.ops A_q82_4))))
def A_q82_6 : LA := [Wf 34 2 5, Wl 35 34, We 36 35, Wm 37 0]
def A_q82_7 : ACode := (.seq (.ops [Wb 38 .lss 37 36]) (.seq (.cond (.t 38) .bad (.exit 2)) .bad))
def A_q82_8 : LA := [Wf 46 3 5, Wl 47 46, We 48 47, Wm 49 0]
def A_q82_9 : ACode := (.seq (.ops [Wb 50 .lss 49 48]) (.seq (.cond (.t 50) .bad (.exit 4)) .bad))
def A_q82_10 : LA := [Wf 58 4 5, Wl 59 58, We 60 59, Wm 61 0]
def A_q82_11 : ACode := (.seq (.ops [Wb 62 .lss 61 60]) (.seq (.cond (.t 62) .bad (.exit 6)) .bad))
def A_q82 : ACode := (.seq (.ops [o_ 5 (.box 37 7 (.t 0))]) (.seq (.ops A_q82_0) (.seq (.seq (.ops A_q82_1) (.block 0 (.loop A_q82_5))) (.seq (.seq (.ops A_q82_6) (.block 2 (.loop A_q82_7))) (.seq (.seq (.ops A_q82_8) (.block 4 (.loop A_q82_9))) (.seq (.ops A_q82_10) (.block 6 (.loop A_q82_11))))))))
def T_q82 : FC := ⟨70, A_q82, []⟩
abbrev F_q83 : Nat := 83
def A_q83_0 : LA := [mv 4 0, mv 5 0, We 6 5, mv 7 1, o_ 8 (.call 124 [(.t 4), (.t 6), (.t 7)])]
def A_q83 : ACode := (.ops A_q83_0)
def T_q83 : FC := ⟨9, A_q83, []⟩
abbrev F_q84 : Nat := 84
def A_q84_0 : LA := [o_ 2 (.box 144 3 (.t 0)), o_ 3 (.box 144 3 (.t 1)), Wm 4 0]
def A_q84_1 : LA := [Wf 5 0 2, Wl 6 5, Wf 7 0 3, Wl 8 7, Wf 10 1 2, Wl 11 10, Wf 12 1 3, Wl 13 12, o_ 9 (.acall 86 [(.t 6), (.t 8)]), o_ 14 (.acall 87 [(.t 11), (.t 13)]), o_ 15 (.bslice 3 1 2 [.int .i64 0] [(0, 1, (.t 9)), (1, 1, (.t 14))]), o_ 16 (.acall 85 [(.t 15)]), mv 4 16]
def A_q84 : ACode := (.seq (.ops A_q84_0) (.seq (.alts [5, 6, 7, 8, 9, 10, 11, 12, 13, 14, 15, 16, 4] [A_q84_1]) .ret))
def T_q84 : FC := ⟨17, A_q84, [.tmp 4]⟩
abbrev F_q85 : Nat := 85
def A_q85_0 : LA := [mv 6 0, We 7 6, Wm 8 0]
def A_q85_1 : LA := [Wa 10 3 1 6 8, Wl 11 10, mv 5 11]
def A_q85_2 : LA := [mv 12 5, mv 13 3, Wb 14 .neq 12 13]
def A_q85_3 : LA := [mv 15 5, mv 2 15]
def A_q85_4 : LA := [Wi 16 .add 8 1, mv 8 16]
def A_q85_5 : ACode := (.seq (.ops [Wb 9 .lss 8 7]) (.seq (.cond (.t 9) .skip .bad) (.seq (.block 1 (.seq (.ops A_q85_1) (.seq (.ops A_q85_2) (.cond (.t 14) (.seq (.ops A_q85_3) .ret) .bad)))) (.ops A_q85_4))))
def A_q85_6 : LA := [mv 17 3, mv 2 17]
def A_q85 : ACode := (.seq (.ops [Wm 2 0]) (.seq (.ops [Wm 3 0]) (.seq (.seq (.ops A_q85_0) (.block 0 (.loop A_q85_5))) (.seq (.ops A_q85_6) .ret))))
def T_q85 : FC := ⟨18, A_q85, [.tmp 2]⟩
abbrev F_q86 : Nat := 86
def A_q86_0 : LA := [mv 7 0, o_ 8 (.call 125 [(.t 7)]), mv 5 8]
def A_q86_1 : LA := [mv 9 1, o_ 10 (.call 125 [(.t 9)]), mv 6 10]
def A_q86_2 : LA := [mv 14 0, mv 15 1, o_ 16 (.bins .lss (.t 14) (.t 15))]
def A_q86_3 : LA := [mv 17 0, mv 18 1, o_ 19 (.bins .gtr (.t 17) (.t 18))]
def A_q86 : ACode := (.seq (.ops [Wm 4 0]) (.seq (.ops A_q86_0) (.seq (.ops A_q86_1) (.seq (.seq (.ops [mv 11 5]) (.cond (.t 11) .bad .skip)) (.seq (.seq (.ops [mv 13 6]) (.cond (.t 13) .bad .skip)) (.seq (.seq (.ops A_q86_2) (.cond (.t 16) .bad .skip)) (.seq (.seq (.ops A_q86_3) (.cond (.t 19) (.seq (.ops [Wm 4 1]) .ret) .bad)) .bad)))))))
def T_q86 : FC := ⟨20, A_q86, [.tmp 4]⟩
abbrev F_q87 : Nat := 87
def A_q87_0 : LA := [mv 7 0, o_ 8 (.call 126 [(.t 7)]), mv 5 8]
def A_q87_1 : LA := [mv 9 1, o_ 10 (.call 126 [(.t 9)]), mv 6 10]
def A_q87_2 : LA := [mv 14 0, mv 15 1, Wb 16 .lss 14 15]
def A_q87_3 : LA := [mv 17 0, mv 18 1, Wb 19 .gtr 17 18]
def A_q87 : ACode := (.seq (.ops [Wm 4 0]) (.seq (.ops A_q87_0) (.seq (.ops A_q87_1) (.seq (.seq (.ops [mv 11 5]) (.cond (.t 11) .bad .skip)) (.seq (.seq (.ops [mv 13 6]) (.cond (.t 13) .bad .skip)) (.seq (.seq (.ops A_q87_2) (.cond (.t 16) .bad .skip)) (.seq (.seq (.ops A_q87_3) (.cond (.t 19) (.seq (.ops [Wm 4 1]) .ret) .skip)) (.seq (.ops [Wm 4 0]) .ret))))))))
def T_q87 : FC := ⟨20, A_q87, [.tmp 4]⟩
abbrev F_q88 : Nat := 88
def A_q88_0 : LA := [mv 13 3, Wc 14 13, Wf 15 3 14, Wl 16 15, o_ 17 (.bini .neq (.t 16) (.c (.int .u8 0))), mv 18 17, Wgm 19 3 18, g_ 20 (.nilc (.t 19)) 18, Wgf 21 3 20 18, Wgl 22 21 18, g_ 23 (.bini .neq (.t 22) (.c (.int .u8 11))) 18, Wp 24 18 23, mv 25 24, Wgm 26 3 25, g_ 27 (.nilc (.t 26)) 25, Wgf 28 3 27 25, Wgl 29 28 25, g_ 30 (.bini .neq (.t 29) (.c (.int .u8 14))) 25, Wp 31 25 30]
def A_q88_1 : LA := [mv 32 2, mv 33 3, Wc 34 33, Wf 35 0 34, Wl 36 35, o_ 37 (.bslice 9 1 2 [.str []] [(0, 1, (.t 32)), (1, 1, (.t 36))]), o_ 38 (.call 80 [(.t 37)]), mv 8 38]
def A_q88_2 : LA := [mv 40 0, mv 41 1, mv 42 2, mv 43 3, Wc 44 43, Wf 45 4 44, Wl 46 45, o_ 47 (.call 127 [(.t 40), (.t 41), (.t 42), (.t 46)]), mv 39 47, Wx 48 0 39, Wx 49 1 39, Wx 50 2 39, mv 9 48, mv 10 49, mv 11 50]
def A_q88_3 : LA := [mv 51 11, Wi 52 .neq 51 0]
def A_q88_4 : LA := [mv 56 10, o_ 57 (.bini .eql (.t 56) (.c (.int .u8 2)))]
def A_q88_5 : LA := [mv 58 3, Wc 59 58, Wf 60 3 59, Wl 61 60, o_ 62 (.bini .neq (.t 61) (.c (.int .u8 0))), mv 63 62, Wgm 64 3 63, g_ 65 (.nilc (.t 64)) 63, Wgf 66 3 65 63, Wgl 67 66 63, Wgm 68 12 63, g_ 69 (.bini .neq (.t 67) (.t 68)) 63, Wp 70 63 69, mv 71 70, Whm 72 3 71, Wh 73 (.nilc (.t 72)) 71, Wh 74 (.faddr 7 (.t 73)) 71, Wh 75 (.ld1 (.t 74)) 71, Wh 76 (.bini .eql (.t 75) (.c (.int .u8 1))) 71, Whm 77 76 71, Wgm 78 12 77, g_ 79 (.bini .eql (.t 78) (.c (.int .u8 11))) 77, Wh 80 (.pick (.t 77) (.t 79) (.c (.bool false))) 71, Wq 81 71 80]
def A_q88_6 : LA := [mv 84 3, mv 85 3, mv 86 12, mv 87 9, Wc 88 84, Wf 89 3 88, Wt 1 89 86, Wc 90 85, Wf 91 4 90, Wt 1 91 87]
def A_q88 : ACode := (.seq (.seq (.ops A_q88_0) (.cond (.t 31) .ret .skip)) (.seq (.ops A_q88_1) (.seq (.ops A_q88_2) (.seq (.seq (.ops A_q88_3) (.cond (.t 52) .bad .skip)) (.seq (.ops [o_ 12 (.mov (.c (.int .u8 11)))]) (.seq (.seq (.ops A_q88_4) (.cond (.t 57) .bad .skip)) (.seq (.seq (.ops A_q88_5) (.cond (.t 81) .bad .skip)) (.ops A_q88_6))))))))
def T_q88 : FC := ⟨92, A_q88, []⟩
abbrev F_q89 : Nat := 89
def A_q89_0 : LA := [mv 6 0, We 7 6, Wm 8 0]
def A_q89_1 : ACode := (.seq (.ops [Wb 9 .lss 8 7]) (.seq (.cond (.t 9) .bad (.exit 0)) .bad))
def A_q89 : ACode := (.seq (.ops [Wm 4 0]) (.seq (.seq (.ops A_q89_0) (.block 0 (.loop A_q89_1))) (.seq (.ops [Wm 4 (-1)]) .ret)))
def T_q89 : FC := ⟨19, A_q89, [.tmp 4]⟩
abbrev F_q90 : Nat := 90
def A_q90_0 : LA := [mv 5 0, mv 6 1, o_ 7 (.call 128 [(.t 5), (.t 6)]), Wi 8 .geq 7 0, mv 4 8]
def A_q90 : ACode := (.seq (.ops [Wo 4 false]) (.seq (.ops A_q90_0) .ret))
def T_q90 : FC := ⟨9, A_q90, [.tmp 4]⟩
abbrev F_q91 : Nat := 91
def A_q91_0 : LA := [mv 19 2, mv 20 1, Wb 21 .sub 19 20, mv 10 21]
def A_q91_1 : LA := [mv 22 10, Wi 23 .leq 22 12]
def A_q91_2 : LA := [mv 24 0, mv 25 1, mv 26 2, o_ 27 (.call 129 [(.t 24), (.t 25), (.t 26)])]
def A_q91_3 : ACode := (.block 1 (.seq (.ops A_q91_0) (.seq (.seq (.ops A_q91_1) (.cond (.t 23) (.seq (.ops A_q91_2) .ret) .bad)) .bad)))
def A_q91 : ACode := (.seq (.ops [Wo 8 true]) (.seq (.ops [Wo 9 true]) (.block 0 (.loop A_q91_3))))
def T_q91 : FC := ⟨134, A_q91, []⟩
abbrev F_q92 : Nat := 92
def A_q92_0 : LA := [mv 6 0, o_ 7 (.call 17 [(.t 6)]), mv 2 7]
def A_q92 : ACode := (.seq (.ops [Wm 2 0]) (.seq (.cond (.c (.bool false)) .bad .skip) (.seq (.ops A_q92_0) .ret)))
def T_q92 : FC := ⟨8, A_q92, [.tmp 2]⟩
abbrev F_q93 : Nat := 93
def A_q93_0 : LA := [o_ 2 (.box 46 3 (.t 0)), Wo 4 false]
def A_q93_1 : LA := [mv 5 1, Wf 6 0 2, Wl 7 6, o_ 8 (.call 94 [(.t 5), (.t 7)]), mv 9 8, Wgf 10 1 2 9, Wgl 11 10 9, g_ 12 (.bins .eql (.t 11) (.c (.str []))) 9, Wp 13 9 12, mv 14 13, Wgf 15 2 2 14, Wgl 16 15 14, g_ 17 (.lenl (.t 16)) 14, g_ 18 (.bini .eql (.t 17) (i_ 0)) 14, Wp 19 14 18, mv 4 19]
def A_q93 : ACode := (.seq (.ops A_q93_0) (.seq (.ops A_q93_1) .ret))
def T_q93 : FC := ⟨20, A_q93, [.tmp 4]⟩
abbrev F_q94 : Nat := 94
def A_q94_0 : LA := [mv 5 0, o_ 6 (.call 139 [(.t 5)])]
def A_q94_1 : LA := [Wi 8 .eql 6 0, mv 7 8]
def A_q94_2 : LA := [Wi 10 .eql 6 1, mv 9 10]
def A_q94_3 : LA := [mv 11 1, o_ 12 (.bini .leq (.t 11) (.c (.int .u64 1))), mv 4 12]
def A_q94_4 : LA := [Wi 14 .eql 6 2, mv 13 14]
def A_q94_5 : LA := [mv 15 1, o_ 16 (.conv .i64 (.t 15)), mv 17 1, o_ 18 (.conv .i32 (.t 17)), o_ 19 (.conv .i64 (.t 18)), Wb 20 .eql 16 19, mv 4 20]
def A_q94 : ACode := (.seq (.ops [Wo 4 false]) (.seq (.seq (.ops A_q94_0) (.block 0 (.seq (.ops A_q94_1) (.cond (.t 7) .bad (.seq (.ops A_q94_2) (.cond (.t 9) (.seq (.ops A_q94_3) .ret) (.seq (.ops A_q94_4) (.cond (.t 13) (.seq (.ops A_q94_5) .ret) .bad)))))))) (.seq (.ops [Wo 4 true]) .ret)))
def T_q94 : FC := ⟨26, A_q94, [.tmp 4]⟩
abbrev F_q95 : Nat := 95
def A_q95_0 : LA := [o_ 2 (.box 46 3 (.t 0)), Wo 4 false]
def A_q95_1 : LA := [Wf 5 0 2, Wl 6 5, o_ 7 (.bini .eql (.t 6) (.c (.int .u64 0))), mv 8 7, Wgf 9 2 2 8, Wgl 10 9 8, g_ 11 (.lenl (.t 10)) 8, g_ 12 (.bini .eql (.t 11) (i_ 0)) 8, Wp 13 8 12, mv 4 13]
def A_q95 : ACode := (.seq (.ops A_q95_0) (.seq (.ops A_q95_1) .ret))
def T_q95 : FC := ⟨14, A_q95, [.tmp 4]⟩
abbrev F_q96 : Nat := 96
def A_q96_0 : LA := [o_ 2 (.box 46 3 (.t 0)), Wo 4 false]
def A_q96_1 : LA := [Wf 5 0 2, Wl 6 5, o_ 7 (.bini .eql (.t 6) (.c (.int .u64 0))), mv 8 7, Wgf 9 1 2 8, Wgl 10 9 8, g_ 11 (.bins .eql (.t 10) (.c (.str []))) 8, Wp 12 8 11, mv 13 12, Wgf 14 2 2 13, Wgl 15 14 13, g_ 16 (.lenl (.t 15)) 13, g_ 17 (.bini .eql (.t 16) (i_ 1)) 13, Wp 18 13 17, mv 4 18]
def A_q96 : ACode := (.seq (.ops A_q96_0) (.seq (.ops A_q96_1) .ret))
def T_q96 : FC := ⟨19, A_q96, [.tmp 4]⟩
abbrev F_q97 : Nat := 97
def A_q97_0 : LA := [mv 5 0, o_ 6 (.bins .eql (.t 5) (.c (.str [])))]
def A_q97_1 : LA := [mv 7 1, mv 4 7]
def A_q97 : ACode := (.seq (.ops [o_ 4 (.mov (.c (.str [])))]) (.seq (.seq (.ops A_q97_0) (.cond (.t 6) (.seq (.ops A_q97_1) .ret) .bad)) .bad))
def T_q97 : FC := ⟨12, A_q97, [.tmp 4]⟩
abbrev F_q98 : Nat := 98
def A_q98_0 : LA := [mv 3 0, o_ 4 (.call 140 [(.t 3)]), mv 2 4]
def A_q98 : ACode := (.seq (.ops [o_ 2 (.mov (.c (.str [])))]) (.seq (.ops A_q98_0) .ret))
def T_q98 : FC := ⟨5, A_q98, [.tmp 2]⟩
abbrev F_q99 : Nat := 99
def A_q99_0 : LA := [o_ 6 (.box 120 9 (.t 1)), o_ 7 (.box 52 3 (.t 2)), o_ 10 (.mov (.c (.nilp)))]
def A_q99_1 : LA := [Wf 18 3 6, Wl 19 18, o_ 20 (.bini .eql (.t 19) (.c (.int .u8 3))), mv 21 20, Wh 22 (.faddr 3 (.t 6)) 21, Wh 23 (.ld1 (.t 22)) 21, Wh 24 (.bini .eql (.t 23) (.c (.int .u8 4))) 21, Wq 25 21 24, mv 11 25]
def A_q99_2 : LA := [Wf 26 3 6, Wl 27 26, o_ 28 (.bini .eql (.t 27) (.c (.int .u8 4)))]
def A_q99_3 : LA := [Wf 29 2 7, Wl 30 29, We 31 30, mv 12 31]
def A_q99_4 : LA := [Wf 32 2 7, Wl 33 32, We 34 33, Wi 35 .eql 34 0, mv 36 35, Whm 37 11 36, Wh 38 (.not (.t 37)) 36, Whm 39 38 36, Wgf 40 2 7 39, Wgl 41 40 39, g_ 42 (.lenl (.t 41)) 39, g_ 43 (.bini .gtr (.t 42) (i_ 1)) 39, Wh 44 (.pick (.t 39) (.t 43) (.c (.bool false))) 36, Wq 45 36 44, mv 46 45, Wh 47 (.faddr 1 (.t 7)) 46, Wh 48 (.ld1 (.t 47)) 46, Wh 49 (.lenl (.t 48)) 46, Whm 50 12 46, Wh 51 (.bini .neq (.t 49) (.t 50)) 46, Wq 52 46 51]
def A_q99_5 : LA := [Wf 56 2 7, Wl 57 56, We 58 57, Wm 59 0]
def A_q99_6 : LA := [mv 61 59, Wa 62 46 3 57 59, Wd 63 3 62, o_ 14 (.box 46 3 (.c (.agg [.int .u64 (0), .str [], .nils]))), mv 13 61, Wt 3 14 63]
def A_q99_7 : LA := [mv 64 3, mv 15 64]
def A_q99_8 : LA := [mv 66 15, mv 67 13, o_ 68 (.call 98 [(.t 67)]), o_ 69 (.bins .add (.c (.str [91])) (.t 68)), o_ 70 (.bins .add (.t 69) (.c (.str [93]))), o_ 71 (.bins .add (.t 66) (.t 70)), mv 15 71]
def A_q99_9 : LA := [Wf 72 3 6, Wl 73 72, o_ 74 (.bini .eql (.t 73) (.c (.int .u8 4)))]
def A_q99_10 : LA := [mv 75 0, Wf 76 5 6, Wl 77 76, Wf 78 1 7, Wl 79 78, mv 80 13, Wa 81 46 3 79 80, Wd 82 3 81, mv 83 15, mv 84 4, o_ 85 (.call 141 [(.t 75), (.t 77), (.c (.str [])), (.t 82), (.t 83), (.t 84)]), mv 16 85]
def A_q99_11 : LA := [mv 86 16, o_ 87 (.isnil .pt true (.t 86))]
def A_q99_12 : LA := [mv 89 0, Wf 90 4 6, Wl 91 90, Wf 92 8 6, Wl 93 92, Wd 94 3 14, mv 95 15, mv 96 4, o_ 97 (.call 141 [(.t 89), (.t 91), (.t 93), (.t 94), (.t 95), (.t 96)]), mv 17 97]
def A_q99_13 : LA := [mv 98 17, o_ 99 (.isnil .pt true (.t 98))]
def A_q99_14 : LA := [Wi 101 .add 59 1, mv 59 101]
def A_q99_15 : ACode := (.seq (.ops [Wb 60 .lss 59 58]) (.seq (.cond (.t 60) .skip (.exit 0)) (.seq (.block 1 (.seq (.ops A_q99_6) (.seq (.ops A_q99_7) (.seq (.seq (.ops [mv 65 11]) (.cond (.t 65) (.ops A_q99_8) .skip)) (.seq (.seq (.ops A_q99_9) (.cond (.t 74) (.seq (.alts [75, 76, 77, 78, 79, 80, 81, 82, 83, 84, 85, 16] [A_q99_10]) (.seq (.ops A_q99_11) (.cond (.t 87) .bad .skip))) .skip)) (.seq (.ops A_q99_12) (.seq (.ops A_q99_13) (.cond (.t 99) .bad .skip)))))))) (.ops A_q99_14))))
def A_q99 : ACode := (.seq (.ops A_q99_0) (.seq (.ops A_q99_1) (.seq (.ops [Wm 12 0]) (.seq (.seq (.ops A_q99_2) (.cond (.t 28) (.ops A_q99_3) .skip)) (.seq (.seq (.ops A_q99_4) (.cond (.t 52) .bad .skip)) (.seq (.seq (.ops A_q99_5) (.block 0 (.loop A_q99_15))) (.seq (.ops [o_ 10 (.mov (.c (.nilp)))]) .ret)))))))
def T_q99 : FC := ⟨102, A_q99, [.tmp 10]⟩
abbrev F_q100 : Nat := 100
def A_q100_0 : LA := [o_ 6 (.box 116 1 (.t 1)), o_ 8 (.box 9 1 (.t 3)), o_ 10 (.box 157 1 (.c (.nilp)))]
def A_q100_1 : LA := [mv 17 2, mv 18 4, o_ 19 (.bini .sub (i_ 100) (.t 18)), o_ 20 (.call 142 [(.t 17), (.t 19)]), mv 16 20, Wx 21 0 16, Wx 22 1 16, mv 11 21, mv 12 22]
def A_q100_2 : LA := [mv 23 11, Wi 24 .neq 23 0]
def A_q100_3 : LA := [mv 28 2, mv 29 4, o_ 30 (.bini .sub (i_ 100) (.t 29)), o_ 31 (.call 143 [(.t 28), (.t 30)])]
def A_q100_4 : LA := [o_ 13 (.box 267 5 (.c (.agg [.int .i32 (0), .int .u8 (0), .int .i64 (0), .int .u64 (0), .nils]))), Wt 5 13 32]
def A_q100_5 : LA := [Wl 34 6, Wf 35 0 13, Wl 36 35, o_ 37 (.call 35 [(.t 34), (.t 36)]), mv 33 37, Wx 38 0 33, Wx 39 1 33, o_ 14 (.box 120 9 (.c (.agg [.int .i32 (0), .str [], .str [], .int .u8 (0), .int .u8 (0), .int .u8 (0), .bool false, .int .i64 (0), .str []]))), Wt 9 14 38, mv 15 39]
def A_q100_6 : LA := [mv 40 15, mv 41 40, g_ 42 (.lda 9 (.t 14)) 41, Wgf 43 1 13 41, Wgl 44 43 41, g_ 45 (.call 144 [(.t 42), (.t 44)]) 41, Wp 46 41 45]
def A_q100_7 : LA := [Wl 47 8, o_ 48 (.build [.int .i64 (0), .str []] [(0, 1, (i_ 106)), (1, 1, (.t 47))]), o_ 49 (.box 160 2 (.t 48)), Wt 1 10 49]
def A_q100 : ACode := (.seq (.ops A_q100_0) (.seq (.seq (.ops A_q100_1) (.seq (.ops A_q100_2) (.cond (.t 24) .bad .skip))) (.seq (.seq (.ops A_q100_3) (.block 0 (.rngf (.t 31) [32] (.ops A_q100_4) (.block 1 (.seq (.ops A_q100_5) (.seq (.ops A_q100_6) (.cond (.t 46) (.seq (.ops A_q100_7) .ret) .skip))))))) (.seq (.ops [n_ (.st 1 (.t 10) (.c (.nilp)))]) .ret))))
def T_q100 : FC := ⟨50, A_q100, [.cell1 10]⟩
abbrev F_q104 : Nat := 104
def A_q104_0 : LA := [o_ 2 (.box 227 6 (.t 0)), o_ 3 (.box 227 6 (.t 1)), Wm 4 0]
def A_q104_1 : LA := [Wf 5 0 2, Wf 6 1 5, Wl 7 6, Wf 8 0 3, Wf 9 1 8, Wl 10 9, o_ 11 (.call 105 [(.t 7), (.t 10)]), mv 4 11]
def A_q104 : ACode := (.seq (.ops A_q104_0) (.seq (.ops A_q104_1) .ret))
def T_q104 : FC := ⟨12, A_q104, [.tmp 4]⟩
abbrev F_q105 : Nat := 105
def A_q105_0 : LA := [mv 5 0, mv 6 1, o_ 7 (.call 149 [(.t 5), (.t 6)]), mv 4 7]
def A_q105 : ACode := (.seq (.ops [Wm 4 0]) (.seq (.ops A_q105_0) .ret))
def T_q105 : FC := ⟨8, A_q105, [.tmp 4]⟩
abbrev F_q106 : Nat := 106
def A_q106_0 : LA := [mv 5 0, We 6 5, mv 4 6]
def A_q106_1 : LA := [mv 7 0, mv 8 4, mv 9 4, o_ 10 (.conv .u64 (.t 9)), o_ 11 (.call 92 [(.t 10)]), mv 12 1, o_ 13 (.call 150 [(.t 7), (i_ 0), (.t 8), (.t 11), (.t 12)])]
def A_q106 : ACode := (.seq (.ops A_q106_0) (.ops A_q106_1))
def T_q106 : FC := ⟨14, A_q106, []⟩
abbrev F_q107 : Nat := 107
def A_q107_0 : LA := [mv 5 1, o_ 6 (.bini .geq (.t 5) (.c (.int .u64 128)))]
def A_q107_1 : LA := [mv 7 0, mv 8 1, o_ 9 (.conv .u8 (.t 8)), o_ 10 (.bini .or (.t 9) (.c (.int .u8 128))), o_ 11 (.bslice 5 1 1 [.int .u8 0] [(0, 1, (.t 10))]), o_ 12 (.app 5 1 1 (.t 7) (.t 11)), mv 0 12]
def A_q107_2 : LA := [mv 13 1, o_ 14 (.bini .shr (.t 13) (.c (.int .u64 7))), mv 1 14]
def A_q107_3 : ACode := (.seq (.seq (.ops A_q107_0) (.cond (.t 6) .skip (.exit 0))) (.block 1 (.seq (.ops A_q107_1) (.ops A_q107_2))))
def A_q107_4 : LA := [mv 15 0, mv 16 1, o_ 17 (.conv .u8 (.t 16)), o_ 18 (.bslice 5 1 1 [.int .u8 0] [(0, 1, (.t 17))]), o_ 19 (.app 5 1 1 (.t 15) (.t 18)), mv 4 19]
def A_q107 : ACode := (.seq (.ops [Wn 4]) (.seq (.block 0 (.loop A_q107_3)) (.seq (.ops A_q107_4) .ret)))
def T_q107 : FC := ⟨20, A_q107, [.tmp 4]⟩
abbrev F_q110 : Nat := 110
def A_q110_0 : LA := [mv 3 0, Wc 4 3, Wf 5 3 4, Wl 6 5, Wi 7 .neq 6 0]
def A_q110_1 : LA := [mv 8 0, mv 9 0, Wc 10 9, Wf 11 2 10, Wl 12 11, mv 13 0, Wc 14 13, Wf 15 0 14, Wl 16 15, We 17 16, o_ 18 (.bslice 3 1 1 [.int .i64 0] [(0, 1, (.t 17))]), o_ 19 (.app 3 1 8 (.t 12) (.t 18)), Wc 20 8, Wf 21 2 20, Wt 1 21 19]
def A_q110_2 : LA := [mv 22 0, Wc 23 22, Wf 24 0 23, Wl 25 24, We 26 25, mv 2 26]
def A_q110 : ACode := (.seq (.ops [Wm 2 0]) (.seq (.seq (.ops A_q110_0) (.cond (.t 7) .bad .skip)) (.seq (.alts [8, 9, 10, 11, 12, 13, 14, 15, 16, 17, 18, 19, 20, 21] [A_q110_1]) (.seq (.ops A_q110_2) .ret))))
def T_q110 : FC := ⟨27, A_q110, [.tmp 2]⟩
abbrev F_q111 : Nat := 111
def A_q111_0 : LA := [mv 6 0, Wc 7 6, Wf 8 2 7, Wl 9 8, We 10 9, mv 4 10]
def A_q111_1 : LA := [mv 11 0, Wc 12 11, Wf 13 3 12, Wl 14 13, Wi 15 .neq 14 0]
def A_q111_2 : LA := [mv 16 4, Wi 17 .eql 16 0, mv 18 17, Whm 19 0 18, Wh 20 (.nilc (.t 19)) 18, Wh 21 (.faddr 2 (.t 20)) 18, Wh 22 (.ld1 (.t 21)) 18, Whm 23 4 18, Wh 24 (.bini .sub (.t 23) (i_ 1)) 18, Wh 25 (.iaddr 3 1 (.t 22) (.t 24)) 18, Wh 26 (.ld1 (.t 25)) 18, Whm 27 1 18, Wh 28 (.bini .neq (.t 26) (.t 27)) 18, Wq 29 18 28]
def A_q111_3 : LA := [mv 33 0, Wc 34 33, Wf 35 0 34, Wl 36 35, We 37 36, mv 38 1, Wb 39 .sub 37 38, o_ 40 (.conv .u64 (.t 39)), o_ 41 (.call 107 [(.c (.nils)), (.t 40)]), mv 5 41]
def A_q111_4 : LA := [mv 42 0, mv 43 5, We 44 43, o_ 45 (.call 71 [(.t 42), (.t 44)])]
def A_q111_5 : LA := [mv 46 0, mv 47 0, Wc 48 47, Wf 49 0 48, Wl 50 49, mv 51 1, mv 52 5, o_ 53 (.call 155 [(.t 50), (.t 51), (.t 52)]), Wc 54 46, Wf 55 0 54, Wt 1 55 53]
def A_q111_6 : LA := [mv 56 0, mv 57 0, Wc 58 57, Wf 59 2 58, Wl 60 59, mv 61 4, Wi 62 .sub 61 1, o_ 63 (.slcl 3 1 (.t 60) none (some (.t 62)) none), Wc 64 56, Wf 65 2 64, Wt 1 65 63]
def A_q111 : ACode := (.seq (.ops A_q111_0) (.seq (.seq (.ops A_q111_1) (.cond (.t 15) .bad .skip)) (.seq (.seq (.ops A_q111_2) (.cond (.t 29) .bad .skip)) (.seq (.ops A_q111_3) (.seq (.ops A_q111_4) (.cond (.t 45) (.seq (.ops A_q111_5) (.ops A_q111_6)) .bad))))))
def T_q111 : FC := ⟨66, A_q111, []⟩
abbrev F_q112 : Nat := 112
def A_q112_0 : LA := [o_ 1 (.box 37 7 (.t 0)), o_ 2 (.box 37 7 (.c (.agg [.str [], .nils, .nils, .nils, .nils, .nils, .nils])))]
def A_q112_1 : LA := [Wf 3 1 1, Wl 4 3, o_ 5 (.call 156 [(.t 4)]), Wf 6 1 1, Wt 1 6 5]
def A_q112_2 : LA := [Wf 7 2 1, Wl 8 7, o_ 9 (.call 157 [(.t 8)]), Wf 10 2 1, Wt 1 10 9]
def A_q112_3 : LA := [Wf 11 5 1, Wl 12 11, o_ 13 (.call 158 [(.t 12)]), Wf 14 5 1, Wt 1 14 13]
def A_q112_4 : LA := [Wf 15 6 1, Wl 16 15, o_ 17 (.call 157 [(.t 16)]), Wf 18 6 1, Wt 1 18 17]
def A_q112_5 : LA := [Wf 20 3 1, Wl 21 20, Wf 22 4 1, Wl 23 22, o_ 24 (.call 73 [(.t 21), (.t 23)]), mv 19 24, Wx 25 0 19, Wx 26 1 19, Wf 27 3 1, Wt 1 27 25, Wf 28 4 1, Wt 1 28 26]
def A_q112_6 : LA := [Wd 29 7 1, Wt 7 2 29]
def A_q112 : ACode := (.seq (.ops A_q112_0) (.seq (.ops A_q112_1) (.seq (.ops A_q112_2) (.seq (.ops A_q112_3) (.seq (.ops A_q112_4) (.seq (.ops A_q112_5) (.seq (.ops A_q112_6) .ret)))))))
def T_q112 : FC := ⟨30, A_q112, [.cella 2 7]⟩
abbrev F_q114 : Nat := 114
def A_q114_0 : LA := [mv 3 0, o_ 4 (.call 160 [(.c (.nils)), (.t 3)]), mv 2 4]
def A_q114 : ACode := (.seq (.ops [Wn 2]) (.seq (.ops A_q114_0) .ret))
def T_q114 : FC := ⟨5, A_q114, [.tmp 2]⟩
abbrev F_q115 : Nat := 115
def A_q115_0 : LA := [Wl 4 1, o_ 5 (.rngm (.t 4))]
def A_q115_1 : LA := [o_ 6 (.nxm (.t 5)), Wx 7 0 6]
def A_q115_2 : LA := [o_ 8 (.entr (.t 5)), Wx 9 0 8, mv 3 9]
def A_q115_3 : LA := [mv 10 0, mv 11 3, o_ 12 (.callv (.t 10) [(.t 11)]), o_ 13 (.not (.t 12))]
def A_q115_4 : ACode := (.seq (.ops A_q115_1) (.seq (.cond (.t 7) .skip (.exit 0)) (.block 1 (.seq (.ops A_q115_2) (.seq (.ops A_q115_3) (.cond (.t 13) .bad .skip))))))
def A_q115 : ACode := (.seq (.ops A_q115_0) (.block 0 (.loop A_q115_4)))
def T_q115 : FC := ⟨14, A_q115, []⟩
abbrev F_q116 : Nat := 116
def A_q116_0 : LA := [mv 6 0, o_ 7 (.not (.t 6))]
def A_q116 : ACode := (.seq (.ops A_q116_0) (.cond (.t 7) .bad .skip))
def T_q116 : FC := ⟨13, A_q116, []⟩
abbrev F_q117 : Nat := 117
def A_q117_0 : LA := [mv 5 0, o_ 6 (.bins .eql (.t 5) (.c (.str []))), mv 7 6, Whm 8 0 7, Wh 9 (.lens (.t 8)) 7, Wh 10 (.bini .gtr (.t 9) (i_ 255)) 7, Wq 11 7 10]
def A_q117_1 : LA := [mv 12 0, o_ 13 (.lens (.t 12)), Wm 14 0]
def A_q117_2 : LA := [mv 16 14, mv 3 16]
def A_q117_3 : LA := [mv 17 0, mv 18 3, o_ 19 (.idxs (.t 17) (.t 18)), mv 4 19]
def A_q117_4 : LA := [mv 20 4, o_ 21 (.bini .lss (.t 20) (.c (.int .u8 33))), mv 22 21, Whm 23 4 22, Wh 24 (.bini .gtr (.t 23) (.c (.int .u8 126))) 22, Wq 25 22 24, mv 26 25, Whm 27 4 26, Wh 28 (.bini .eql (.t 27) (.c (.int .u8 34))) 26, Wq 29 26 28, mv 30 29, Whm 31 4 30, Wh 32 (.bini .eql (.t 31) (.c (.int .u8 92))) 30, Wq 33 30 32]
def A_q117_5 : LA := [Wi 34 .add 14 1, mv 14 34]
def A_q117_6 : ACode := (.seq (.ops [Wb 15 .lss 14 13]) (.seq (.cond (.t 15) .skip (.exit 0)) (.seq (.block 1 (.seq (.ops A_q117_2) (.seq (.ops A_q117_3) (.seq (.ops A_q117_4) (.cond (.t 33) .bad .skip))))) (.ops A_q117_5))))
def A_q117 : ACode := (.seq (.ops [Wo 2 false]) (.seq (.seq (.ops A_q117_0) (.cond (.t 11) .bad .skip)) (.seq (.seq (.ops A_q117_1) (.block 0 (.loop A_q117_6))) (.seq (.ops [Wo 2 true]) .ret))))
def T_q117 : FC := ⟨35, A_q117, [.tmp 2]⟩
abbrev F_q118 : Nat := 118
def A_q118_0 : LA := [mv 5 0, o_ 6 (.lens (.t 5)), Wi 7 .gtr 6 255]
def A_q118_1 : LA := [mv 8 0, o_ 9 (.call 161 [(.t 8), (.c (.str [46]))]), We 10 9, Wm 11 0]
def A_q118_2 : LA := [Wa 13 9 1 9 11, Wl 14 13, mv 4 14]
def A_q118_3 : LA := [mv 15 4, o_ 16 (.call 162 [(.t 15)]), o_ 17 (.not (.t 16))]
def A_q118_4 : LA := [Wi 18 .add 11 1, mv 11 18]
def A_q118_5 : ACode := (.seq (.ops [Wb 12 .lss 11 10]) (.seq (.cond (.t 12) .skip (.exit 0)) (.seq (.block 1 (.seq (.ops A_q118_2) (.seq (.ops A_q118_3) (.cond (.t 17) .bad .skip)))) (.ops A_q118_4))))
def A_q118 : ACode := (.seq (.ops [Wo 2 false]) (.seq (.seq (.ops A_q118_0) (.cond (.t 7) .bad .skip)) (.seq (.seq (.ops A_q118_1) (.block 0 (.loop A_q118_5))) (.seq (.ops [Wo 2 true]) .ret))))
def T_q118 : FC := ⟨19, A_q118, [.tmp 2]⟩
abbrev F_q119 : Nat := 119
def A_q119_0 : LA := [mv 17 2, Wf 18 0 5, Wl 19 18, o_ 20 (.bslice 9 1 2 [.str []] [(0, 1, (.t 17)), (1, 1, (.t 19))]), o_ 21 (.call 80 [(.t 20)]), mv 8 21]
def A_q119_1 : LA := [mv 22 0, Wf 23 0 5, Wl 24 23, mv 25 8, o_ 26 (.call 163 [(.t 22), (.t 24), (.t 25)])]
def A_q119_2 : LA := [mv 27 3, Wi 28 .lss 27 16, mv 29 28, Wgf 30 1 5 29, Wgl 31 30 29, g_ 32 (.lenl (.t 31)) 29, g_ 33 (.bini .leq (.t 32) (i_ 1000)) 29, Wp 34 29 33, mv 35 8, o_ 36 (.call 116 [(.t 34), (i_ 68), (.t 35)])]
def A_q119_3 : LA := [Wf 37 5 5, Wl 38 37, mv 39 8, o_ 40 (.call 164 [(.t 38), (.c (.int .i32 1)), (.c (.int .i32 536870911)), (.t 39)])]
def A_q119_4 : LA := [Wf 41 6 5, Wl 42 41, mv 43 8, o_ 44 (.call 165 [(.t 42), (.t 43)])]
def A_q119_5 : LA := [Wf 45 1 5, Wl 46 45, We 47 46, Wm 48 0]
def A_q119_6 : LA := [mv 50 48, mv 9 50]
def A_q119_7 : LA := [mv 51 0, Wd 52 7 5, mv 53 9, mv 54 8, o_ 55 (.call 166 [(.t 51), (.t 52), (.t 53), (.t 54)])]
def A_q119_8 : LA := [Wi 56 .add 48 1, mv 48 56]
def A_q119_9 : ACode := (.seq (.ops [Wb 49 .lss 48 47]) (.seq (.cond (.t 49) .skip (.exit 0)) (.seq (.block 1 (.seq (.ops A_q119_6) (.ops A_q119_7))) (.ops A_q119_8))))
def A_q119_10 : LA := [Wf 57 2 5, Wl 58 57, We 59 58, Wm 60 0]
def A_q119_11 : ACode := (.seq (.ops [Wb 61 .lss 60 59]) (.seq (.cond (.t 61) .bad (.exit 2)) .bad))
def A_q119_12 : LA := [Wf 80 3 5, Wl 81 80, We 82 81, Wm 83 0]
def A_q119_13 : ACode := (.seq (.ops [Wb 84 .lss 83 82]) (.seq (.cond (.t 84) .bad (.exit 4)) .bad))
def A_q119_14 : LA := [Wf 94 4 5, Wl 95 94, We 96 95, Wm 97 0]
def A_q119_15 : ACode := (.seq (.ops [Wb 98 .lss 97 96]) (.seq (.cond (.t 98) .bad (.exit 6)) .bad))
def A_q119 : ACode := (.seq (.ops [o_ 5 (.box 37 7 (.t 1))]) (.seq (.ops A_q119_0) (.seq (.ops A_q119_1) (.seq (.ops A_q119_2) (.seq (.ops A_q119_3) (.seq (.ops A_q119_4) (.seq (.seq (.ops A_q119_5) (.block 0 (.loop A_q119_9))) (.seq (.seq (.ops A_q119_10) (.block 2 (.loop A_q119_11))) (.seq (.seq (.ops A_q119_12) (.block 4 (.loop A_q119_13))) (.seq (.ops A_q119_14) (.block 6 (.loop A_q119_15))))))))))))
def T_q119 : FC := ⟨106, A_q119, []⟩
abbrev F_q121 : Nat := 121
def A_q121_0 : LA := [Wl 4 1, mv 3 4]
def A_q121_1 : LA := [mv 5 0, mv 6 3, o_ 7 (.callv (.t 5) [(.t 6)]), mv 8 7, Wgm 9 3 8, g_ 10 (.bins .neq (.t 9) (.c (.str []))) 8, Wp 11 8 10]
def A_q121_2 : LA := [mv 13 3, o_ 14 (.call 122 [(.t 13)]), mv 12 14, Wx 15 0 12, Wx 16 1 12, mv 3 15]
def A_q121_3 : ACode := (.seq (.seq (.ops A_q121_1) (.cond (.t 11) .skip (.exit 0))) (.block 1 (.ops A_q121_2)))
def A_q121 : ACode := (.seq (.ops A_q121_0) (.block 0 (.loop A_q121_3)))
def T_q121 : FC := ⟨17, A_q121, []⟩
abbrev F_q122 : Nat := 122
def A_q122_0 : LA := [o_ 2 (.mov (.c (.str []))), o_ 3 (.mov (.c (.str [])))]
def A_q122_1 : LA := [mv 5 0, o_ 6 (.call 172 [(.t 5), (.c (.int .u8 46))]), mv 4 6]
def A_q122_2 : LA := [mv 7 4, Wi 8 .lss 7 0]
def A_q122_3 : LA := [mv 9 0, o_ 2 (.mov (.c (.str []))), mv 3 9]
def A_q122 : ACode := (.seq (.ops A_q122_0) (.seq (.ops A_q122_1) (.seq (.seq (.ops A_q122_2) (.cond (.t 8) (.seq (.ops A_q122_3) .ret) .bad)) .bad)))
def T_q122 : FC := ⟨17, A_q122, [.tmp 2, .tmp 3]⟩
abbrev F_q123 : Nat := 123
def A_q123_0 : LA := [mv 11 0, We 12 11]
def A_q123_1 : LA := [Wi 14 .eql 12 0, mv 13 14]
def A_q123_2 : LA := [Wi 16 .eql 12 1, mv 15 16]
def A_q123_3 : LA := [mv 17 0, o_ 18 (.iaddr 9 1 (.t 17) (i_ 0)), Wl 19 18, mv 4 19]
def A_q123_4 : LA := [mv 20 1, o_ 21 (.lens (.t 20)), Wi 22 .gtr 21 0]
def A_q123_5 : LA := [mv 23 1, o_ 24 (.lens (.t 23)), mv 25 0, We 26 25, Wi 27 .sub 26 1, o_ 28 (.bini .quo (i_ 9223372036854775807) (.t 27)), Wb 29 .geq 24 28]
def A_q123_6 : LA := [mv 31 5, mv 32 1, o_ 33 (.lens (.t 32)), mv 34 0, We 35 34, Wi 36 .sub 35 1, Wb 37 .mul 33 36, Wb 38 .add 31 37, mv 5 38]
def A_q123_7 : LA := [mv 39 0, We 40 39, Wm 41 0]
def A_q123_8 : LA := [Wa 43 9 1 39 41, Wl 44 43, mv 7 44]
def A_q123_9 : LA := [mv 45 7, o_ 46 (.lens (.t 45)), mv 47 5, o_ 48 (.bini .sub (i_ 9223372036854775807) (.t 47)), Wb 49 .gtr 46 48]
def A_q123_10 : LA := [mv 51 5, mv 52 7, o_ 53 (.lens (.t 52)), Wb 54 .add 51 53, mv 5 54]
def A_q123_11 : LA := [Wi 55 .add 41 1, mv 41 55]
def A_q123_12 : ACode := (.seq (.ops [Wb 42 .lss 41 40]) (.seq (.cond (.t 42) .skip (.exit 1)) (.seq (.block 2 (.seq (.ops A_q123_8) (.seq (.seq (.ops A_q123_9) (.cond (.t 49) .bad .skip)) (.ops A_q123_10)))) (.ops A_q123_11))))
def A_q123_13 : LA := [mv 56 5, o_ 57 (.call 173 [(.t 8), (.t 56)])]
def A_q123_14 : LA := [mv 58 0, o_ 59 (.iaddr 9 1 (.t 58) (i_ 0)), Wl 60 59, o_ 61 (.call 174 [(.t 8), (.t 60)])]
def A_q123_15 : LA := [mv 62 0, o_ 63 (.slcl 9 1 (.t 62) (some (i_ 1)) none none), We 64 63, Wm 65 0]
def A_q123_16 : LA := [Wa 67 9 1 63 65, Wl 68 67, mv 10 68]
def A_q123_17 : LA := [mv 69 1, o_ 70 (.call 174 [(.t 8), (.t 69)])]
def A_q123_18 : LA := [mv 71 10, o_ 72 (.call 174 [(.t 8), (.t 71)])]
def A_q123_19 : LA := [Wi 73 .add 65 1, mv 65 73]
def A_q123_20 : ACode := (.seq (.ops [Wb 66 .lss 65 64]) (.seq (.cond (.t 66) .skip (.exit 3)) (.seq (.block 4 (.seq (.ops A_q123_16) (.seq (.ops A_q123_17) (.ops A_q123_18)))) (.ops A_q123_19))))
def A_q123_21 : LA := [o_ 74 (.call 175 [(.t 8)]), mv 4 74]
def A_q123 : ACode := (.seq (.ops [o_ 4 (.mov (.c (.str [])))]) (.seq (.seq (.ops A_q123_0) (.block 0 (.seq (.ops A_q123_1) (.cond (.t 13) .bad (.seq (.ops A_q123_2) (.cond (.t 15) (.seq (.ops A_q123_3) .ret) .skip)))))) (.seq (.ops [Wm 5 0]) (.seq (.seq (.ops A_q123_4) (.cond (.t 22) (.seq (.seq (.ops A_q123_5) (.cond (.t 29) .bad .skip)) (.ops A_q123_6)) .bad)) (.seq (.seq (.ops A_q123_7) (.block 1 (.loop A_q123_12))) (.seq (.ops [o_ 8 (.box 296 2 (.c (.agg [.nilp, .nils])))]) (.seq (.ops A_q123_13) (.seq (.ops A_q123_14) (.seq (.seq (.ops A_q123_15) (.block 3 (.loop A_q123_20))) (.seq (.ops A_q123_21) .ret))))))))))
def T_q123 : FC := ⟨75, A_q123, [.tmp 4]⟩
abbrev F_q124 : Nat := 124
def A_q124_0 : LA := [mv 10 6, Wm 7 0, mv 8 10]
def A_q124_1 : LA := [mv 11 8, mv 12 1, Wb 13 .leq 11 12]
def A_q124_2 : ACode := (.seq (.seq (.ops A_q124_1) (.cond (.t 13) .bad (.exit 0))) .bad)
def A_q124_3 : LA := [mv 23 0, mv 24 7, mv 25 1, mv 26 2, o_ 27 (.call 176 [(.t 23), (.t 24), (.t 25), (.t 26)])]
def A_q124_4 : LA := [mv 28 6, mv 29 1, Wb 30 .lss 28 29]
def A_q124_5 : ACode := (.seq (.seq (.ops A_q124_4) (.cond (.t 30) .bad (.exit 2))) .bad)
def A_q124 : ACode := (.seq (.ops [Wm 6 20]) (.seq (.ops A_q124_0) (.seq (.block 0 (.loop A_q124_2)) (.seq (.ops A_q124_3) (.block 2 (.loop A_q124_5))))))
def T_q124 : FC := ⟨63, A_q124, []⟩
abbrev F_q125 : Nat := 125
def A_q125_0 : LA := [mv 3 0, mv 4 0, o_ 5 (.bins .neq (.t 3) (.t 4)), mv 2 5]
def A_q125 : ACode := (.seq (.ops [Wo 2 false]) (.seq (.ops A_q125_0) .ret))
def T_q125 : FC := ⟨6, A_q125, [.tmp 2]⟩
abbrev F_q126 : Nat := 126
def A_q126_0 : LA := [mv 3 0, mv 4 0, Wb 5 .neq 3 4, mv 2 5]
def A_q126 : ACode := (.seq (.ops [Wo 2 false]) (.seq (.ops A_q126_0) .ret))
def T_q126 : FC := ⟨6, A_q126, [.tmp 2]⟩
abbrev F_q127 : Nat := 127
def A_q127_0 : LA := [o_ 8 (.mov (.c (.str []))), o_ 9 (.mov (.c (.int .u8 0))), Wm 10 0]
def A_q127_1 : LA := [mv 20 0, mv 21 1, Wc 22 21, Wf 23 5 22, Wl 24 23, o_ 25 (.call 180 [(.t 24)]), o_ 26 (.call 74 [(.t 25)]), o_ 27 (.call 179 [(.t 20), (.t 26)]), mv 28 0, mv 29 0, o_ 30 (.call 41 [(.t 29)]), o_ 31 (.call 179 [(.t 28), (.t 30)]), mv 12 27, mv 13 31]
def A_q127_2 : LA := [mv 33 0, mv 34 12, mv 35 2, mv 36 3, o_ 37 (.call 181 [(.t 33), (.t 34), (.t 35), (.t 36)]), mv 32 37, Wx 38 0 32, Wx 39 1 32, mv 14 38, mv 15 39]
def A_q127_3 : LA := [mv 40 12, mv 41 14, o_ 42 (.call 182 [(.t 40), (.t 41)]), mv 16 42]
def A_q127_4 : LA := [mv 43 15, mv 44 43, Wgm 45 11 44, Wgm 46 16 44, g_ 47 (.callv (.t 45) [(.t 46)]) 44, Wp 48 44 47]
def A_q127_5 : LA := [mv 49 14, mv 50 16, mv 8 49, mv 9 50, Wm 10 0]
def A_q127 : ACode := (.seq (.ops A_q127_0) (.seq (.ops [o_ 11 (.mov (.f 178))]) (.seq (.ops A_q127_1) (.seq (.ops A_q127_2) (.seq (.ops A_q127_3) (.seq (.seq (.ops A_q127_4) (.cond (.t 48) (.seq (.ops A_q127_5) .ret) .bad)) .bad))))))
def T_q127 : FC := ⟨82, A_q127, [.tmp 8, .tmp 9, .tmp 10]⟩
abbrev F_q128 : Nat := 128
def A_q128_0 : LA := [mv 6 0, We 7 6, Wm 8 0]
def A_q128_1 : ACode := (.seq (.ops [Wb 9 .lss 8 7]) (.seq (.cond (.t 9) .bad (.exit 0)) .bad))
def A_q128 : ACode := (.seq (.ops [Wm 4 0]) (.seq (.seq (.ops A_q128_0) (.block 0 (.loop A_q128_1))) (.seq (.ops [Wm 4 (-1)]) .ret)))
def T_q128 : FC := ⟨19, A_q128, [.tmp 4]⟩
abbrev F_q129 : Nat := 129
def A_q129_0 : LA := [mv 8 1, Wi 9 .add 8 1, mv 6 9]
def A_q129_1 : LA := [mv 10 6, mv 11 2, Wb 12 .lss 10 11]
def A_q129_2 : ACode := (.seq (.seq (.ops A_q129_1) (.cond (.t 12) .bad (.exit 0))) .bad)
def A_q129 : ACode := (.seq (.ops A_q129_0) (.block 0 (.loop A_q129_2)))
def T_q129 : FC := ⟨49, A_q129, []⟩
abbrev F_q139 : Nat := 139
def A_q139_0 : LA := [o_ 5 (.bini .eql (.t 3) (.c (.int .u8 8))), mv 4 5]
def A_q139_1 : LA := [o_ 7 (.bini .eql (.t 3) (.c (.int .u8 5))), mv 6 7]
def A_q139_2 : LA := [o_ 9 (.bini .eql (.t 3) (.c (.int .u8 17))), mv 8 9]
def A_q139 : ACode := (.seq (.ops [Wm 2 0]) (.seq (.seq (.ops [mv 3 0]) (.block 0 (.seq (.block 10 (.seq (.block 9 (.seq (.block 8 (.seq (.block 7 (.seq (.block 6 (.seq (.block 5 (.block 4 (.block 3 (.block 2 (.seq (.block 1 (.seq (.seq (.seq (.ops A_q139_0) (.cond (.t 4) (.exit 1) .skip)) (.seq (.seq (.ops A_q139_1) (.cond (.t 6) (.exit 2) .skip)) (.seq (.seq (.ops A_q139_2) (.cond (.t 8) (.exit 3) .bad)) .bad))) .bad)) (.seq (.seq (.ops [Wm 2 1]) .ret) .bad)))))) (.seq (.seq (.ops [Wm 2 2]) .ret) .bad))) (.seq (.seq (.ops [Wm 2 3]) .ret) .bad))) (.seq (.seq (.ops [Wm 2 4]) .ret) .bad))) (.seq (.seq (.ops [Wm 2 5]) .ret) .bad))) (.seq (.seq (.ops [Wm 2 6]) .ret) .bad))) (.seq (.seq (.ops [Wm 2 7]) .ret) .bad)))) (.seq (.ops [Wm 2 0]) .ret)))
def T_q139 : FC := ⟨28, A_q139, [.tmp 2]⟩
abbrev F_q140 : Nat := 140
def A_q140_0 : LA := [mv 3 0, o_ 4 (.call 188 [(.t 3), (i_ 10)]), mv 2 4]
def A_q140 : ACode := (.seq (.ops [o_ 2 (.mov (.c (.str [])))]) (.seq (.ops A_q140_0) .ret))
def T_q140 : FC := ⟨5, A_q140, [.tmp 2]⟩
abbrev F_q141 : Nat := 141
def A_q141_0 : LA := [o_ 9 (.box 46 3 (.t 3)), o_ 12 (.mov (.c (.nilp)))]
def A_q141_1 : LA := [mv 14 1, o_ 15 (.conv .i64 (.t 14)), Wi 16 .geq 15 19, mv 17 16, Whm 18 0 17, Whm 19 1 17, Wh 20 (.nilc (.t 18)) 17, Wh 21 (.faddr 1 (.t 20)) 17, Wh 22 (.adr 19 1 (.t 21) (.t 19)) 17, Wh 23 (.ld1 (.t 22)) 17, Wh 24 (.lda 3 (.t 9)) 17, Whm 25 1 17, Wh 26 (.callv (.t 23) [(.t 24), (.t 25)]) 17, Wh 27 (.not (.t 26)) 17, Wq 28 17 27, mv 29 28, Whm 30 1 29, Wh 31 (.bini .eql (.t 30) (.c (.int .u8 11))) 29, Whm 32 31 29, Wgf 33 2 9 32, Wgl 34 33 32, g_ 35 (.iaddr 55 3 (.t 34) (i_ 0)) 32, Wgf 36 0 35 32, Wgl 37 36 32, Wgm 38 2 32, g_ 39 (.bins .neq (.t 37) (.t 38)) 32, Wh 40 (.pick (.t 32) (.t 39) (.c (.bool false))) 29, Wq 41 29 40, mv 13 41]
def A_q141_2 : LA := [mv 46 1, o_ 47 (.bini .eql (.t 46) (.c (.int .u8 9))), mv 48 47, Wgf 49 1 9 48, Wgl 50 49 48, g_ 51 (.call 189 [(.t 50)]) 48, g_ 52 (.bini .geq (.t 51) (i_ 0)) 48, Wp 53 48 52, mv 45 53]
def A_q141_3 : LA := [mv 58 1, o_ 59 (.bini .eql (.t 58) (.c (.int .u8 11))), mv 57 59]
def A_q141_4 : LA := [mv 60 0, Wf 61 2 9, Wl 62 61, o_ 63 (.iaddr 55 3 (.t 62) (i_ 0)), Wd 64 3 63, mv 65 4, mv 66 5, Wi 67 .add 66 1, o_ 68 (.call 53 [(.t 60), (.t 64), (.t 65), (.t 67)]), mv 12 68]
def A_q141 : ACode := (.seq (.ops A_q141_0) (.seq (.block 0 (.seq (.alts [14, 15, 16, 17, 18, 19, 20, 21, 22, 23, 24, 25, 26, 27, 28, 29, 30, 31, 32, 33, 34, 35, 36, 37, 38, 39, 40, 41, 13] [A_q141_1]) (.cond (.t 13) .bad (.seq (.ops A_q141_2) (.cond (.t 45) .bad (.seq (.ops A_q141_3) (.cond (.t 57) (.seq (.ops A_q141_4) .ret) .skip))))))) (.seq (.ops [o_ 12 (.mov (.c (.nilp)))]) .ret)))
def T_q141 : FC := ⟨69, A_q141, [.tmp 12]⟩
abbrev F_q142 : Nat := 142
def A_q142_0 : LA := [Wm 4 0, Wm 5 0]
def A_q142_1 : LA := [mv 12 0, o_ 13 (.call 190 [(.t 12)]), mv 6 13]
def A_q142_2 : LA := [mv 14 6, o_ 15 (.call 191 [(.t 14)]), Wi 16 .gtr 15 0]
def A_q142_3 : LA := [mv 17 6, o_ 18 (.call 192 [(.t 17)]), mv 7 18]
def A_q142_4 : LA := [mv 20 6, o_ 21 (.call 193 [(.t 20)]), mv 19 21, Wx 22 0 19, Wx 23 1 19, mv 8 22, mv 9 23]
def A_q142_5 : LA := [mv 25 6, o_ 26 (.call 194 [(.t 25)]), mv 24 26, Wx 27 0 24, Wx 28 1 24, mv 10 27, mv 11 28]
def A_q142_6 : LA := [mv 29 10, Wi 30 .eql 29 0, mv 31 30, Wgm 32 9 31, g_ 33 (.bini .eql (.t 32) (.c (.int .u8 4))) 31, Wp 34 31 33]
def A_q142_7 : LA := [mv 36 6, mv 37 8, mv 38 9, mv 39 1, o_ 40 (.call 195 [(.t 36), (.t 37), (.t 38), (.t 39)])]
def A_q142_8 : ACode := (.seq (.seq (.ops A_q142_2) (.cond (.t 16) .skip (.exit 0))) (.block 1 (.seq (.ops A_q142_3) (.seq (.ops A_q142_4) (.seq (.seq (.ops A_q142_5) (.seq (.ops A_q142_6) (.cond (.t 34) .bad .skip))) (.ops A_q142_7))))))
def A_q142_9 : LA := [mv 41 6, o_ 42 (.call 194 [(.t 41)]), Wx 43 0 42, Wx 44 1 42, mv 4 43, mv 5 44]
def A_q142 : ACode := (.seq (.ops A_q142_0) (.seq (.ops A_q142_1) (.seq (.block 0 (.loop A_q142_8)) (.seq (.ops A_q142_9) .ret))))
def T_q142 : FC := ⟨45, A_q142, [.tmp 4, .tmp 5]⟩
abbrev F_q143 : Nat := 143
def A_q143_0 : LA := [o_ 3 (.box 3 1 (.t 1)), o_ 4 (.mov (.c (.nilf)))]
def A_q143_1 : LA := [mv 6 0, o_ 7 (.call 38 [(.t 6)]), o_ 5 (.box 47 1 (.c (.nils))), Wt 1 5 7]
def A_q143_2 : LA := [o_ 8 (.mkfn 196 [] [(.t 5), (.t 3)]), mv 4 8]
def A_q143 : ACode := (.seq (.ops A_q143_0) (.seq (.ops A_q143_1) (.seq (.ops A_q143_2) .ret)))
def T_q143 : FC := ⟨9, A_q143, [.tmp 4]⟩
abbrev F_q149 : Nat := 149
def A_q149_0 : LA := [mv 5 0, mv 6 1, o_ 7 (.xcmp (.t 5) (.t 6)), mv 4 7]
def A_q149 : ACode := (.seq (.ops [Wm 4 0]) (.seq (.ops A_q149_0) .ret))
def T_q149 : FC := ⟨8, A_q149, [.tmp 4]⟩
abbrev F_q150 : Nat := 150
def A_q150_0 : LA := [mv 21 2, mv 22 1, Wb 23 .sub 21 22, mv 12 23]
def A_q150_1 : LA := [mv 24 12, Wi 25 .leq 24 12]
def A_q150_2 : LA := [mv 26 0, mv 27 1, mv 28 2, mv 29 4, o_ 30 (.call 200 [(.t 26), (.t 27), (.t 28), (.t 29)])]
def A_q150_3 : ACode := (.block 1 (.seq (.ops A_q150_0) (.seq (.seq (.ops A_q150_1) (.cond (.t 25) (.seq (.ops A_q150_2) .ret) .bad)) .bad)))
def A_q150 : ACode := (.seq (.ops [Wo 10 true]) (.seq (.ops [Wo 11 true]) (.block 0 (.loop A_q150_3))))
def T_q150 : FC := ⟨148, A_q150, []⟩
abbrev F_q156 : Nat := 156
def A_q156_0 : LA := [mv 3 0, o_ 4 (.isnilu false (.t 3))]
def A_q156_1 : LA := [o_ 5 (.bslice0 28), mv 6 0, o_ 7 (.app 28 9 80 (.t 5) (.t 6)), mv 2 7]
def A_q156 : ACode := (.seq (.ops [Wn 2]) (.seq (.seq (.ops A_q156_0) (.cond (.t 4) (.seq (.ops [Wn 2]) .ret) .skip)) (.seq (.ops A_q156_1) .ret)))
def T_q156 : FC := ⟨8, A_q156, [.tmp 2]⟩
abbrev F_q157 : Nat := 157
def A_q157_0 : LA := [mv 3 0, o_ 4 (.isnilu false (.t 3))]
def A_q157 : ACode := (.seq (.ops [Wn 2]) (.seq (.seq (.ops A_q157_0) (.cond (.t 4) (.seq (.ops [Wn 2]) .ret) .bad)) .bad))
def T_q157 : FC := ⟨8, A_q157, [.tmp 2]⟩
abbrev F_q158 : Nat := 158
def A_q158_0 : LA := [mv 3 0, o_ 4 (.isnilu false (.t 3))]
def A_q158 : ACode := (.seq (.ops [Wn 2]) (.seq (.seq (.ops A_q158_0) (.cond (.t 4) (.seq (.ops [Wn 2]) .ret) .bad)) .bad))
def T_q158 : FC := ⟨8, A_q158, [.tmp 2]⟩
abbrev F_q160 : Nat := 160
def A_q160_0 : LA := [o_ 2 (.box 32 1 (.t 0)), Wn 4]
def A_q160_1 : LA := [Wl 8 2, mv 9 5, o_ 10 (.bslice 9 1 1 [.str []] [(0, 1, (.t 9))]), o_ 11 (.app 9 1 16 (.t 8) (.t 10)), Wt 1 2 11]
def A_q160_2 : LA := [Wl 12 2, mv 4 12]
def A_q160 : ACode := (.seq (.ops A_q160_0) (.seq (.seq (.ops [mv 6 1]) (.block 0 (.rngf (.t 6) [7] (.ops [mv 5 7]) (.block 1 (.ops A_q160_1))))) (.seq (.ops A_q160_2) .ret)))
def T_q160 : FC := ⟨13, A_q160, [.tmp 4]⟩
abbrev F_q161 : Nat := 161
def A_q161_0 : LA := [mv 5 0, mv 6 1, o_ 7 (.call 210 [(.t 5), (.t 6), (i_ 0), (i_ (-1))]), mv 4 7]
def A_q161 : ACode := (.seq (.ops [Wn 4]) (.seq (.ops A_q161_0) .ret))
def T_q161 : FC := ⟨8, A_q161, [.tmp 4]⟩
abbrev F_q162 : Nat := 162
def A_q162_0 : LA := [mv 5 0, o_ 6 (.bins .eql (.t 5) (.c (.str []))), mv 7 6, Whm 8 0 7, Wh 9 (.lens (.t 8)) 7, Wh 10 (.bini .gtr (.t 9) (i_ 255)) 7, Wq 11 7 10, mv 12 11, Whm 13 0 12, Wh 14 (.idxs (.t 13) (i_ 0)) 12, Wh 15 (.call 211 [(.t 14)]) 12, Wq 16 12 15]
def A_q162_1 : LA := [mv 17 0, o_ 18 (.lens (.t 17)), Wm 19 0]
def A_q162_2 : LA := [mv 21 19, mv 3 21]
def A_q162_3 : LA := [mv 22 0, mv 23 3, o_ 24 (.idxs (.t 22) (.t 23)), mv 4 24]
def A_q162_4 : LA := [mv 25 4, o_ 26 (.call 212 [(.t 25)]), o_ 27 (.not (.t 26)), mv 28 27, Wgm 29 4 28, g_ 30 (.call 213 [(.t 29)]) 28, g_ 31 (.not (.t 30)) 28, Wp 32 28 31, mv 33 32, Wgm 34 4 33, g_ 35 (.call 211 [(.t 34)]) 33, g_ 36 (.not (.t 35)) 33, Wp 37 33 36, mv 38 37, Wgm 39 4 38, g_ 40 (.bini .neq (.t 39) (.c (.int .u8 95))) 38, Wp 41 38 40]
def A_q162_5 : LA := [Wi 42 .add 19 1, mv 19 42]
def A_q162_6 : ACode := (.seq (.ops [Wb 20 .lss 19 18]) (.seq (.cond (.t 20) .skip (.exit 0)) (.seq (.block 1 (.seq (.ops A_q162_2) (.seq (.ops A_q162_3) (.seq (.ops A_q162_4) (.cond (.t 41) .bad .skip))))) (.ops A_q162_5))))
def A_q162 : ACode := (.seq (.ops [Wo 2 false]) (.seq (.seq (.ops A_q162_0) (.cond (.t 16) .bad .skip)) (.seq (.seq (.ops A_q162_1) (.block 0 (.loop A_q162_6))) (.seq (.ops [Wo 2 true]) .ret))))
def T_q162 : FC := ⟨43, A_q162, [.tmp 2]⟩
abbrev F_q163 : Nat := 163
def A_q163_0 : LA := [mv 6 1, o_ 7 (.call 162 [(.t 6)]), mv 8 7, Wgm 9 2 8, g_ 10 (.lens (.t 9)) 8, g_ 11 (.bini .leq (.t 10) (i_ 255)) 8, Wp 12 8 11, mv 13 2, o_ 14 (.call 116 [(.t 12), (i_ 60), (.t 13)])]
def A_q163_1 : LA := [mv 15 0, Wc 16 15, Wf 17 0 16, Wl 18 17, mv 19 2, o_ 20 (.mlook .s (.int .i64 0) false (.t 18) (.t 19)), Wi 21 .add 20 1, n_ (.mupd .s (.t 18) (.t 19) (.t 21))]
def A_q163_2 : LA := [mv 22 0, Wc 23 22, Wf 24 0 23, Wl 25 24, mv 26 2, o_ 27 (.mlook .s (.int .i64 0) false (.t 25) (.t 26)), Wi 28 .eql 27 1, mv 29 2, o_ 30 (.call 116 [(.t 28), (i_ 61), (.t 29)])]
def A_q163 : ACode := (.seq (.ops A_q163_0) (.seq (.ops A_q163_1) (.ops A_q163_2)))
def T_q163 : FC := ⟨31, A_q163, []⟩
abbrev F_q164 : Nat := 164
def A_q164_0 : LA := [mv 12 0, We 13 12, Wm 14 0]
def A_q164_1 : ACode := (.seq (.ops [Wb 15 .lss 14 13]) (.seq (.cond (.t 15) .bad (.exit 0)) .bad))
def A_q164 : ACode := (.seq (.ops A_q164_0) (.block 0 (.loop A_q164_1)))
def T_q164 : FC := ⟨62, A_q164, []⟩
abbrev F_q165 : Nat := 165
def A_q165_0 : LA := [mv 7 0, We 8 7, Wm 9 0]
def A_q165_1 : ACode := (.seq (.ops [Wb 10 .lss 9 8]) (.seq (.cond (.t 10) .bad (.exit 0)) .bad))
def A_q165 : ACode := (.seq (.ops A_q165_0) (.block 0 (.loop A_q165_1)))
def T_q165 : FC := ⟨31, A_q165, []⟩
abbrev F_q166 : Nat := 166
def A_q166_0 : LA := [Wf 13 1 5, Wl 14 13, mv 15 2, Wa 16 28 9 14 15, Wd 17 9 16, Wf 18 1 5, mv 20 2, Wl 19 18, o_ 21 (.slcl 28 9 (.t 19) none (some (.t 20)) none), o_ 8 (.box 28 9 (.c (.agg [.str [], .int .i32 (0), .int .u8 (0), .int .u8 (0), .str [], .int .u8 (0), .int .i64 (0), .int .u8 (0), .str []]))), Wt 9 8 17, mv 9 21]
def A_q166_1 : LA := [Wf 13 1 5, Wl 14 13, mv 15 2, Wa 16 28 9 14 15, Wd 17 9 16, Wf 18 1 5, mv 20 2, Wl 19 18, o_ 8 (.box 28 9 (.c (.agg [.str [], .int .i32 (0), .int .u8 (0), .int .u8 (0), .str [], .int .u8 (0), .int .i64 (0), .int .u8 (0), .str []]))), o_ 21 (.slcl 28 9 (.t 19) none (some (.t 20)) none), Wt 9 8 17, mv 9 21]
def A_q166_2 : LA := [Wf 13 1 5, Wl 14 13, mv 15 2, Wa 16 28 9 14 15, Wd 17 9 16, Wf 18 1 5, mv 20 2, Wl 19 18, o_ 8 (.box 28 9 (.c (.agg [.str [], .int .i32 (0), .int .u8 (0), .int .u8 (0), .str [], .int .u8 (0), .int .i64 (0), .int .u8 (0), .str []]))), Wt 9 8 17, o_ 21 (.slcl 28 9 (.t 19) none (some (.t 20)) none), mv 9 21]
def A_q166_3 : LA := [Wf 13 1 5, Wl 14 13, mv 15 2, Wa 16 28 9 14 15, Wd 17 9 16, Wf 18 1 5, mv 20 2, o_ 8 (.box 28 9 (.c (.agg [.str [], .int .i32 (0), .int .u8 (0), .int .u8 (0), .str [], .int .u8 (0), .int .i64 (0), .int .u8 (0), .str []]))), Wl 19 18, o_ 21 (.slcl 28 9 (.t 19) none (some (.t 20)) none), Wt 9 8 17, mv 9 21]
def A_q166_4 : LA := [Wf 13 1 5, Wl 14 13, mv 15 2, Wa 16 28 9 14 15, Wd 17 9 16, Wf 18 1 5, mv 20 2, o_ 8 (.box 28 9 (.c (.agg [.str [], .int .i32 (0), .int .u8 (0), .int .u8 (0), .str [], .int .u8 (0), .int .i64 (0), .int .u8 (0), .str []]))), Wl 19 18, Wt 9 8 17, o_ 21 (.slcl 28 9 (.t 19) none (some (.t 20)) none), mv 9 21]
def A_q166_5 : LA := [Wf 13 1 5, Wl 14 13, mv 15 2, Wa 16 28 9 14 15, Wd 17 9 16, Wf 18 1 5, mv 20 2, o_ 8 (.box 28 9 (.c (.agg [.str [], .int .i32 (0), .int .u8 (0), .int .u8 (0), .str [], .int .u8 (0), .int .i64 (0), .int .u8 (0), .str []]))), Wt 9 8 17, Wl 19 18, o_ 21 (.slcl 28 9 (.t 19) none (some (.t 20)) none), mv 9 21]
def A_q166_6 : LA := [mv 22 3, Wf 23 0 8, Wl 24 23, o_ 25 (.bslice 9 1 2 [.str []] [(0, 1, (.t 22)), (1, 1, (.t 24))]), o_ 26 (.call 80 [(.t 25)]), mv 10 26]
def A_q166_7 : LA := [mv 27 0, Wf 28 0 8, Wl 29 28, mv 30 10, o_ 31 (.call 163 [(.t 27), (.t 29), (.t 30)])]
def A_q166_8 : LA := [Wf 32 6 5, Wl 33 32, Wf 34 0 8, Wl 35 34, o_ 36 (.call 90 [(.t 33), (.t 35)]), o_ 37 (.not (.t 36)), mv 38 10, o_ 39 (.call 116 [(.t 37), (i_ 63), (.t 38)])]
def A_q166_9 : LA := [Wf 40 1 8, Wl 41 40, o_ 42 (.call 214 [(.t 41)]), mv 43 42, Wgm 44 9 43, g_ 45 (.mkfn 215 [] [(.t 8)]) 43, g_ 46 (.call 167 [(.t 44), (.t 45)]) 43, g_ 47 (.not (.t 46)) 43, Wp 48 43 47, mv 49 10, o_ 50 (.call 116 [(.t 48), (i_ 62), (.t 49)])]
def A_q166_10 : LA := [Wf 51 5 5, Wl 52 51, Wf 53 1 8, Wl 54 53, o_ 55 (.call 169 [(.t 52), (.t 54)]), o_ 56 (.not (.t 55)), mv 57 10, o_ 58 (.call 116 [(.t 56), (i_ 63), (.t 57)])]
def A_q166_11 : LA := [Wf 59 2 8, Wl 60 59, o_ 61 (.bini .geq (.t 60) (.c (.int .u8 1))), mv 62 61, Wgf 63 2 8 62, Wgl 64 63 62, g_ 65 (.bini .leq (.t 64) (.c (.int .u8 4))) 62, Wp 66 62 65, mv 67 66, Wgf 68 3 8 67, Wgl 69 68 67, g_ 70 (.bini .eql (.t 69) (.c (.int .u8 0))) 67, Wgm 71 70 67, Wh 72 (.faddr 3 (.t 8)) 71, Wh 73 (.ld1 (.t 72)) 71, Wh 74 (.call 216 [(.t 73)]) 71, g_ 75 (.pick (.t 71) (.c (.bool true)) (.t 74)) 67, Wp 76 67 75, mv 77 10, o_ 78 (.call 116 [(.t 76), (i_ 69), (.t 77)])]
def A_q166_12 : LA := [Wf 79 3 8, Wl 80 79, o_ 81 (.call 217 [(.t 80)])]
def A_q166_13 : LA := [Wf 82 4 8, Wl 83 82, o_ 84 (.call 218 [(.t 83)]), mv 85 10, o_ 86 (.call 116 [(.t 84), (i_ 69), (.t 85)])]
def A_q166_14 : LA := [Wf 87 4 8, Wl 88 87, o_ 89 (.bins .eql (.t 88) (.c (.str []))), mv 90 10, o_ 91 (.call 116 [(.t 89), (i_ 69), (.t 90)])]
def A_q166_15 : LA := [Wf 92 2 8, Wl 93 92, o_ 94 (.bini .eql (.t 93) (.c (.int .u8 4)))]
def A_q166_16 : LA := [Wf 95 5 8, Wl 96 95, o_ 97 (.call 219 [(.t 96)]), mv 98 10, o_ 99 (.call 116 [(.t 97), (i_ 65), (.t 98)])]
def A_q166_17 : LA := [Wf 100 5 8, Wl 101 100, o_ 102 (.bini .eql (.t 101) (.c (.int .u8 0))), mv 103 10, o_ 104 (.call 116 [(.t 102), (i_ 65), (.t 103)])]
def A_q166_18 : LA := [Wf 105 6 8, Wl 106 105, Wi 107 .geq 106 0, mv 108 107, Wgf 109 6 8 108, Wgl 110 109 108, Wgf 111 2 5 108, Wgl 112 111 108, g_ 113 (.lenl (.t 112)) 108, g_ 114 (.bini .leq (.t 110) (.t 113)) 108, Wp 115 108 114, mv 116 115, Wgf 117 6 8 116, Wgl 118 117 116, g_ 119 (.bini .eql (.t 118) (i_ 0)) 116, Wgm 120 119 116, Wh 121 (.faddr 2 (.t 8)) 120, Wh 122 (.ld1 (.t 121)) 120, Wh 123 (.bini .eql (.t 122) (.c (.int .u8 1))) 120, g_ 124 (.pick (.t 120) (.c (.bool true)) (.t 123)) 116, Wp 125 116 124, mv 126 10, o_ 127 (.call 116 [(.t 125), (i_ 64), (.t 126)])]
def A_q166_19 : LA := [Wf 128 7 8, Wl 129 128, o_ 130 (.bini .leq (.t 129) (.c (.int .u8 2))), mv 131 130, Wgf 132 7 8 131, Wgl 133 132 131, g_ 134 (.bini .eql (.t 133) (.c (.int .u8 0))) 131, Wgm 135 134 131, Wh 136 (.faddr 2 (.t 8)) 135, Wh 137 (.ld1 (.t 136)) 135, Wh 138 (.bini .eql (.t 137) (.c (.int .u8 3))) 135, Whm 139 138 135, Wgf 140 3 8 139, Wgl 141 140 139, g_ 142 (.call 220 [(.t 141)]) 139, Wh 143 (.pick (.t 139) (.t 142) (.c (.bool false))) 135, g_ 144 (.pick (.t 135) (.c (.bool true)) (.t 143)) 131, Wp 145 131 144, mv 146 10, o_ 147 (.call 116 [(.t 145), (i_ 67), (.t 146)])]
def A_q166_20 : LA := [Wf 148 8 8, Wl 149 148, o_ 150 (.call 189 [(.t 149)]), Wi 151 .lss 150 0, mv 152 151, Wgf 153 8 8 152, Wgl 154 153 152, g_ 155 (.lens (.t 154)) 152, g_ 156 (.bini .leq (.t 155) (i_ 255)) 152, Wp 157 152 156, mv 158 157, Wgf 159 8 8 158, Wgl 160 159 158, g_ 161 (.call 221 [(.t 160), (.c (.str [64]))]) 158, g_ 162 (.not (.t 161)) 158, Wp 163 158 162, mv 164 10, o_ 165 (.call 116 [(.t 163), (i_ 60), (.t 164)])]
def A_q166_21 : LA := [mv 166 9, We 167 166, Wm 168 0]
def A_q166_22 : LA := [Wa 170 28 9 166 168, Wd 171 9 170, o_ 12 (.box 28 9 (.c (.agg [.str [], .int .i32 (0), .int .u8 (0), .int .u8 (0), .str [], .int .u8 (0), .int .i64 (0), .int .u8 (0), .str []]))), Wt 9 12 171]
def A_q166_23 : LA := [Wd 172 9 12, Wd 174 9 8, mv 191 10, o_ 173 (.acall 222 [(.t 172)]), o_ 175 (.acall 222 [(.t 174)]), o_ 176 (.bins .neq (.t 173) (.t 175)), mv 177 176, g_ 178 (.lda 9 (.t 12)) 177, Wgf 180 0 8 177, Wgl 181 180 177, g_ 179 (.acall 222 [(.t 178)]) 177, g_ 182 (.bins .neq (.t 179) (.t 181)) 177, Wp 183 177 182, mv 184 183, Wgf 185 0 12 184, Wgl 186 185 184, g_ 187 (.lda 9 (.t 8)) 184, g_ 188 (.acall 222 [(.t 187)]) 184, g_ 189 (.bins .neq (.t 186) (.t 188)) 184, Wp 190 184 189, o_ 192 (.acall 116 [(.t 190), (i_ 61), (.t 191)])]
def A_q166_24 : LA := [Wi 193 .add 168 1, mv 168 193]
def A_q166_25 : ACode := (.seq (.ops [Wb 169 .lss 168 167]) (.seq (.cond (.t 169) .skip (.exit 0)) (.seq (.block 1 (.seq (.ops A_q166_22) (.alts [172, 173, 174, 175, 176, 177, 178, 179, 180, 181, 182, 183, 184, 185, 186, 187, 188, 189, 190, 191, 192] [A_q166_23]))) (.ops A_q166_24))))
def A_q166 : ACode := (.seq (.ops [o_ 5 (.box 37 7 (.t 1))]) (.seq (.alts [13, 14, 15, 16, 17, 18, 19, 20, 21, 8, 9] [A_q166_0, A_q166_1, A_q166_2, A_q166_3, A_q166_4, A_q166_5]) (.seq (.ops A_q166_6) (.seq (.ops A_q166_7) (.seq (.ops A_q166_8) (.seq (.ops A_q166_9) (.seq (.ops A_q166_10) (.seq (.ops A_q166_11) (.seq (.seq (.ops A_q166_12) (.cond (.t 81) (.ops A_q166_13) (.ops A_q166_14))) (.seq (.seq (.ops A_q166_15) (.cond (.t 94) (.ops A_q166_16) (.ops A_q166_17))) (.seq (.ops A_q166_18) (.seq (.ops A_q166_19) (.seq (.ops A_q166_20) (.seq (.ops A_q166_21) (.block 0 (.loop A_q166_25))))))))))))))))
def T_q166 : FC := ⟨194, A_q166, []⟩
abbrev F_q167 : Nat := 167
def A_q167_0 : LA := [mv 5 0, mv 6 1, o_ 7 (.call 223 [(.t 5), (.t 6)]), Wi 8 .geq 7 0, mv 4 8]
def A_q167 : ACode := (.seq (.ops [Wo 4 false]) (.seq (.ops A_q167_0) .ret))
def T_q167 : FC := ⟨9, A_q167, [.tmp 4]⟩
abbrev F_q169 : Nat := 169
def A_q169_0 : LA := [o_ 3 (.box 21 1 (.t 1)), Wo 4 false]
def A_q169_1 : LA := [mv 5 0, o_ 6 (.mkfn 225 [] [(.t 3)]), o_ 7 (.call 224 [(.t 5), (.t 6)]), mv 4 7]
def A_q169 : ACode := (.seq (.ops A_q169_0) (.seq (.ops A_q169_1) .ret))
def T_q169 : FC := ⟨8, A_q169, [.tmp 4]⟩
abbrev F_q172 : Nat := 172
def A_q172_0 : LA := [mv 5 0, mv 6 1, o_ 7 (.call 227 [(.t 5), (.t 6)]), mv 4 7]
def A_q172 : ACode := (.seq (.ops [Wm 4 0]) (.seq (.ops A_q172_0) .ret))
def T_q172 : FC := ⟨8, A_q172, [.tmp 4]⟩
abbrev F_q173 : Nat := 173
def A_q173_0 : LA := [mv 4 0, o_ 5 (.call 228 [(.t 4)])]
def A_q173_1 : LA := [mv 6 1, Wi 7 .lss 6 0]
def A_q173_2 : LA := [mv 9 0, Wc 10 9, Wf 11 1 10, Wl 12 11, o_ 13 (.capk (.t 12)), mv 14 0, Wc 15 14, Wf 16 1 15, Wl 17 16, We 18 17, Wb 19 .sub 13 18, mv 20 1, Wb 21 .lss 19 20]
def A_q173_3 : LA := [mv 22 0, mv 23 1, o_ 24 (.call 229 [(.t 22), (.t 23)])]
def A_q173 : ACode := (.seq (.ops A_q173_0) (.seq (.seq (.ops A_q173_1) (.cond (.t 7) .bad .skip)) (.seq (.alts [9, 10, 11, 12, 13, 14, 15, 16, 17, 18, 19, 20, 21] [A_q173_2]) (.cond (.t 21) (.ops A_q173_3) .bad))))
def T_q173 : FC := ⟨25, A_q173, []⟩
abbrev F_q174 : Nat := 174
def A_q174_0 : LA := [Wm 4 0, o_ 5 (.mov (.c (.nili)))]
def A_q174_1 : LA := [mv 6 0, o_ 7 (.call 228 [(.t 6)])]
def A_q174_2 : LA := [mv 8 0, mv 9 0, Wc 10 9, Wf 11 1 10, Wl 12 11, mv 13 1, o_ 14 (.app 5 1 1 (.t 12) (.t 13)), Wc 15 8, Wf 16 1 15, Wt 1 16 14]
def A_q174_3 : LA := [mv 17 1, o_ 18 (.lens (.t 17)), mv 4 18, o_ 5 (.mov (.c (.nili)))]
def A_q174 : ACode := (.seq (.ops A_q174_0) (.seq (.ops A_q174_1) (.seq (.ops A_q174_2) (.seq (.ops A_q174_3) .ret))))
def T_q174 : FC := ⟨19, A_q174, [.tmp 4, .tmp 5]⟩
abbrev F_q175 : Nat := 175
def A_q175_0 : LA := [mv 3 0, Wc 4 3, Wf 5 1 4, Wl 6 5, o_ 7 (.usd (.t 6)), mv 8 0, Wc 9 8, Wf 10 1 9, Wl 11 10, We 12 11, o_ 13 (.ustr 5 (.t 7) (.t 12)), mv 2 13]
def A_q175 : ACode := (.seq (.ops [o_ 2 (.mov (.c (.str [])))]) (.seq (.alts [3, 4, 5, 6, 7, 8, 9, 10, 11, 12, 13, 2] [A_q175_0]) .ret))
def T_q175 : FC := ⟨14, A_q175, [.tmp 2]⟩
abbrev F_q176 : Nat := 176
def A_q176_0 : LA := [mv 10 1, Wi 11 .add 10 1, mv 8 11]
def A_q176_1 : LA := [mv 12 8, mv 13 2, Wb 14 .lss 12 13]
def A_q176_2 : LA := [mv 17 8, mv 9 17]
def A_q176_3 : LA := [mv 18 9, mv 19 1, Wb 20 .gtr 18 19, mv 21 20, Wgm 22 3 21, Wgm 23 0 21, Wgm 24 9 21, g_ 25 (.iaddr 144 3 (.t 23) (.t 24)) 21, g_ 26 (.lda 3 (.t 25)) 21, Wgm 27 0 21, Wgm 28 9 21, g_ 29 (.bini .sub (.t 28) (i_ 1)) 21, g_ 30 (.iaddr 144 3 (.t 27) (.t 29)) 21, g_ 31 (.lda 3 (.t 30)) 21, g_ 32 (.callv (.t 22) [(.t 26), (.t 31)]) 21, g_ 33 (.bini .lss (.t 32) (i_ 0)) 21, Wp 34 21 33]
def A_q176_4 : ACode := (.seq (.seq (.alts [18, 19, 20, 21, 22, 23, 24, 25, 26, 27, 28, 29, 30, 31, 32, 33, 34] [A_q176_3]) (.cond (.t 34) .bad (.exit 2))) .bad)
def A_q176_5 : LA := [mv 15 8, Wi 16 .add 15 1, mv 8 16]
def A_q176_6 : ACode := (.seq (.seq (.ops A_q176_1) (.cond (.t 14) .skip (.exit 0))) (.seq (.block 1 (.seq (.ops A_q176_2) (.block 2 (.loop A_q176_4)))) (.ops A_q176_5)))
def A_q176 : ACode := (.seq (.ops A_q176_0) (.block 0 (.loop A_q176_6)))
def T_q176 : FC := ⟨53, A_q176, []⟩
abbrev F_q178 : Nat := 178
def A_q178_0 : LA := [mv 3 0, o_ 4 (.bini .eql (.t 3) (.c (.int .u8 1))), mv 5 4, Whm 6 0 5, Wh 7 (.bini .eql (.t 6) (.c (.int .u8 2))) 5, Wq 8 5 7, mv 2 8]
def A_q178 : ACode := (.seq (.ops [Wo 2 false]) (.seq (.ops A_q178_0) .ret))
def T_q178 : FC := ⟨9, A_q178, [.tmp 2]⟩
abbrev F_q179 : Nat := 179
def A_q179_0 : LA := [mv 8 1, We 9 8, Wm 10 0]
def A_q179_1 : LA := [Wa 12 9 1 8 10, Wl 13 12, mv 7 13]
def A_q179_2 : LA := [mv 14 5, mv 15 0, Wc 16 15, Wf 17 0 16, Wl 18 17, mv 19 7, o_ 20 (.mlook .s (.nilp) false (.t 18) (.t 19)), o_ 21 (.bslice 126 1 1 [.nilp] [(0, 1, (.t 20))]), o_ 22 (.app 126 1 8 (.t 14) (.t 21)), mv 5 22]
def A_q179_3 : LA := [Wi 23 .add 10 1, mv 10 23]
def A_q179_4 : ACode := (.seq (.ops [Wb 11 .lss 10 9]) (.seq (.cond (.t 11) .skip (.exit 0)) (.seq (.block 1 (.seq (.ops A_q179_1) (.ops A_q179_2))) (.ops A_q179_3))))
def A_q179_5 : LA := [mv 24 5, mv 4 24]
def A_q179 : ACode := (.seq (.ops [Wn 4]) (.seq (.ops [Wn 5]) (.seq (.seq (.ops A_q179_0) (.block 0 (.loop A_q179_4))) (.seq (.ops A_q179_5) .ret))))
def T_q179 : FC := ⟨25, A_q179, [.tmp 4]⟩
abbrev F_q180 : Nat := 180
def A_q180_0 : LA := [o_ 1 (.box 128 1 (.t 0)), o_ 2 (.mov (.c (.nilf)))]
def A_q180_1 : LA := [o_ 3 (.mkfn 231 [] [(.t 1)]), mv 2 3]
def A_q180 : ACode := (.seq (.ops A_q180_0) (.seq (.ops A_q180_1) .ret))
def T_q180 : FC := ⟨4, A_q180, [.tmp 2]⟩
abbrev F_q181 : Nat := 181
def A_q181_0 : LA := [o_ 5 (.box 304 1 (.t 1)), o_ 7 (.box 9 1 (.t 3)), o_ 8 (.box 9 1 (.c (.str []))), o_ 9 (.box 4 1 (.c (.bool false)))]
def A_q181_1 : LA := [Wl 22 7, o_ 23 (.call 232 [(.t 22), (.c (.str [46]))]), mv 21 23, Wx 24 0 21, Wx 25 1 21, mv 10 24, mv 11 25]
def A_q181_2 : LA := [Wl 29 7, o_ 30 (.call 233 [(.t 29), (.c (.str [46]))]), mv 28 30, Wx 31 0 28, Wx 32 1 28, Wx 33 2 28, o_ 12 (.box 9 1 (.c (.str []))), o_ 14 (.box 4 1 (.c (.bool false))), Wt 1 12 31, mv 13 32, Wt 1 14 33]
def A_q181_3 : LA := [mv 34 2, o_ 35 (.call 78 [(.t 34)])]
def A_q181_4 : LA := [mv 37 15, Wl 38 12, o_ 39 (.bslice 9 1 2 [.str []] [(0, 1, (.t 37)), (1, 1, (.t 38))]), o_ 40 (.call 80 [(.t 39)]), mv 16 40]
def A_q181_5 : LA := [Wl 41 5, We 42 41, Wm 43 0]
def A_q181_6 : LA := [Wa 45 126 1 41 43, Wl 46 45, mv 18 46]
def A_q181_7 : LA := [mv 47 18, Wc 48 47, Wf 49 6 48, Wl 50 49, mv 51 16, o_ 52 (.mlook .s (.int .u8 0) false (.t 50) (.t 51)), mv 19 52]
def A_q181_8 : LA := [Wl 53 14, mv 54 53, Wgm 55 18 54, g_ 56 (.nilc (.t 55)) 54, Wgf 57 0 56 54, Wgf 58 1 57 54, Wgl 59 58 54, Wgm 60 16 54, g_ 61 (.bins .eql (.t 59) (.t 60)) 54, Wgm 62 61 54, Whm 63 18 62, Wh 64 (.nilc (.t 63)) 62, Wh 65 (.faddr 0 (.t 64)) 62, Wh 66 (.faddr 1 (.t 65)) 62, Wh 67 (.ld1 (.t 66)) 62, Whm 68 16 62, Wh 69 (.bins .add (.t 68) (.c (.str [46]))) 62, Wh 70 (.call 234 [(.t 67), (.t 69)]) 62, g_ 71 (.pick (.t 62) (.c (.bool true)) (.t 70)) 54, Wp 72 54 71, mv 20 72]
def A_q181_9 : LA := [mv 73 19, o_ 74 (.bini .eql (.t 73) (.c (.int .u8 1))), mv 75 74, Wh 76 (.ld1 (.t 14)) 75, Wh 77 (.not (.t 76)) 75, Whm 78 77 75, Wgm 79 19 78, g_ 80 (.bini .eql (.t 79) (.c (.int .u8 2))) 78, Wh 81 (.pick (.t 78) (.t 80) (.c (.bool false))) 75, Wq 82 75 81, mv 83 82, Whm 84 20 83, Wq 85 83 84]
def A_q181_10 : LA := [mv 86 15, Wl 87 7, o_ 88 (.bslice 9 1 2 [.str []] [(0, 1, (.t 86)), (1, 1, (.t 87))]), o_ 89 (.call 80 [(.t 88)]), Wt 1 8 89, n_ (.st 1 (.t 9) (.c (.bool true)))]
def A_q181_11 : LA := [Wi 90 .add 43 1, mv 43 90]
def A_q181_12 : ACode := (.seq (.ops [Wb 44 .lss 43 42]) (.seq (.cond (.t 44) .skip (.exit 2)) (.seq (.block 3 (.seq (.ops A_q181_6) (.seq (.ops A_q181_7) (.seq (.ops A_q181_8) (.seq (.ops A_q181_9) (.cond (.t 85) (.seq (.ops A_q181_10) .ret) .skip)))))) (.ops A_q181_11))))
def A_q181_13 : LA := [n_ (.st 1 (.t 8) (.c (.str []))), n_ (.st 1 (.t 9) (.c (.bool false)))]
def A_q181 : ACode := (.seq (.ops A_q181_0) (.seq (.seq (.ops A_q181_1) (.seq (.ops [mv 26 11]) (.cond (.t 26) .bad .skip))) (.seq (.ops A_q181_2) (.seq (.seq (.ops A_q181_3) (.block 0 (.rngf (.t 35) [36] (.ops [mv 15 36]) (.block 1 (.seq (.ops A_q181_4) (.seq (.ops A_q181_5) (.block 2 (.loop A_q181_12)))))))) (.seq (.ops A_q181_13) .ret)))))
def T_q181 : FC := ⟨91, A_q181, [.cell1 8, .cell1 9]⟩
abbrev F_q182 : Nat := 182
def A_q182_0 : LA := [mv 8 0, We 9 8, Wm 10 0]
def A_q182_1 : LA := [Wa 12 126 1 8 10, Wl 13 12, mv 6 13]
def A_q182_2 : LA := [mv 14 6, Wc 15 14, Wf 16 6 15, Wl 17 16, mv 18 1, o_ 19 (.mlook .s (.int .u8 0) false (.t 17) (.t 18)), mv 7 19]
def A_q182_3 : LA := [mv 20 7, o_ 21 (.bini .neq (.t 20) (.c (.int .u8 0)))]
def A_q182_4 : LA := [mv 22 7, mv 4 22]
def A_q182_5 : LA := [Wi 23 .add 10 1, mv 10 23]
def A_q182_6 : ACode := (.seq (.ops [Wb 11 .lss 10 9]) (.seq (.cond (.t 11) .skip .bad) (.seq (.block 1 (.seq (.ops A_q182_1) (.seq (.ops A_q182_2) (.seq (.ops A_q182_3) (.cond (.t 21) (.seq (.ops A_q182_4) .ret) .bad))))) (.ops A_q182_5))))
def A_q182 : ACode := (.seq (.ops [o_ 4 (.mov (.c (.int .u8 0)))]) (.seq (.seq (.ops A_q182_0) (.block 0 (.loop A_q182_6))) (.seq (.ops [o_ 4 (.mov (.c (.int .u8 0)))]) .ret)))
def T_q182 : FC := ⟨24, A_q182, [.tmp 4]⟩
abbrev F_q188 : Nat := 188
def A_q188_0 : LA := [mv 10 1, Wi 11 .eql 10 10]
def A_q188_1 : LA := [mv 12 0, o_ 13 (.bini .leq (i_ 0) (.t 12)), mv 14 13, Wgm 15 0 14, g_ 16 (.bini .lss (.t 15) (i_ 100)) 14, Wp 17 14 16]
def A_q188_2 : LA := [mv 18 0, o_ 19 (.call 236 [(.t 18)]), mv 4 19]
def A_q188 : ACode := (.seq (.ops [o_ 4 (.mov (.c (.str [])))]) (.seq (.seq (.ops A_q188_0) (.cond (.t 11) (.seq (.seq (.ops A_q188_1) (.cond (.t 17) (.seq (.ops A_q188_2) .ret) .bad)) .bad) .bad)) .bad))
def T_q188 : FC := ⟨54, A_q188, [.tmp 4]⟩
abbrev F_q189 : Nat := 189
def A_q189_0 : LA := [mv 7 0, o_ 8 (.rngs (.t 7))]
def A_q189_1 : LA := [o_ 9 (.nxs (.t 8)), Wx 10 0 9]
def A_q189_2 : LA := [Wx 11 1 9, Wx 12 2 9, mv 3 11, mv 4 12]
def A_q189_3 : LA := [mv 13 4, o_ 14 (.bini .neq (.t 13) (.c (.int .i32 65533)))]
def A_q189_4 : ACode := (.seq (.ops A_q189_1) (.seq (.cond (.t 10) .skip (.exit 0)) (.block 1 (.seq (.ops A_q189_2) (.seq (.seq (.ops A_q189_3) (.cond (.t 14) (.exit 1) .bad)) .bad)))))
def A_q189 : ACode := (.seq (.ops [Wm 2 0]) (.seq (.seq (.ops A_q189_0) (.block 0 (.loop A_q189_4))) (.seq (.ops [Wm 2 (-1)]) .ret)))
def T_q189 : FC := ⟨25, A_q189, [.tmp 2]⟩
abbrev F_q190 : Nat := 190
def A_q190_0 : LA := [mv 3 0, o_ 4 (.call 38 [(.t 3)]), mv 5 0, We 6 5, o_ 7 (.build [.nils, .int .i64 (0), .int .i64 (0), .int .i64 (0), .int .i64 0] [(0, 1, (.t 4)), (2, 1, (.t 6))]), o_ 8 (.box 357 5 (.t 7)), mv 2 8]
def A_q190 : ACode := (.seq (.ops [o_ 2 (.mov (.c (.nilp)))]) (.seq (.ops A_q190_0) .ret))
def T_q190 : FC := ⟨9, A_q190, [.tmp 2]⟩
abbrev F_q191 : Nat := 191
def A_q191_0 : LA := [mv 3 0, Wc 4 3, Wf 5 3 4, Wl 6 5, Wi 7 .neq 6 0]
def A_q191_1 : LA := [mv 8 0, Wc 9 8, Wf 10 2 9, Wl 11 10, mv 12 0, Wc 13 12, Wf 14 1 13, Wl 15 14, Wb 16 .sub 11 15, mv 2 16]
def A_q191 : ACode := (.seq (.ops [Wm 2 0]) (.seq (.seq (.ops A_q191_0) (.cond (.t 7) .bad .skip)) (.seq (.alts [8, 9, 10, 11, 12, 13, 14, 15, 16, 2] [A_q191_1]) .ret)))
def T_q191 : FC := ⟨17, A_q191, [.tmp 2]⟩
abbrev F_q192 : Nat := 192
def A_q192_0 : LA := [mv 3 0, Wc 4 3, Wf 5 1 4, Wl 6 5, mv 2 6]
def A_q192 : ACode := (.seq (.ops [Wm 2 0]) (.seq (.ops A_q192_0) .ret))
def T_q192 : FC := ⟨7, A_q192, [.tmp 2]⟩
abbrev F_q193 : Nat := 193
def A_q193_0 : LA := [o_ 2 (.mov (.c (.int .i32 0))), o_ 3 (.mov (.c (.int .u8 0)))]
def A_q193_1 : LA := [mv 7 0, Wc 8 7, Wf 9 1 8, Wl 10 9, mv 4 10]
def A_q193_2 : LA := [mv 11 0, o_ 12 (.call 241 [(.t 11)]), mv 5 12]
def A_q193_3 : LA := [mv 13 0, Wc 14 13, Wf 15 3 14, Wl 16 15, Wi 17 .neq 16 0]
def A_q193_4 : LA := [mv 18 5, o_ 19 (.bini .and (.t 18) (.c (.int .u64 7))), o_ 20 (.conv .u8 (.t 19)), mv 6 20]
def A_q193_5 : LA := [mv 21 5, o_ 22 (.bini .gtr (.t 21) (.c (.int .u64 4294967295))), mv 23 22, Whm 24 5 23, Wh 25 (.bini .shr (.t 24) (.c (.int .u64 3))) 23, Wh 26 (.bini .eql (.t 25) (.c (.int .u64 0))) 23, Wq 27 23 26, mv 28 27, Whm 29 6 28, Wh 30 (.bini .gtr (.t 29) (.c (.int .u8 5))) 28, Wq 31 28 30]
def A_q193_6 : LA := [mv 39 5, o_ 40 (.bini .shr (.t 39) (.c (.int .u64 3))), o_ 41 (.conv .i32 (.t 40)), mv 42 6, mv 2 41, mv 3 42]
def A_q193 : ACode := (.seq (.ops A_q193_0) (.seq (.ops A_q193_1) (.seq (.ops A_q193_2) (.seq (.seq (.ops A_q193_3) (.cond (.t 17) .bad .skip)) (.seq (.ops A_q193_4) (.seq (.seq (.ops A_q193_5) (.cond (.t 31) .bad .skip)) (.seq (.ops A_q193_6) .ret)))))))
def T_q193 : FC := ⟨43, A_q193, [.tmp 2, .tmp 3]⟩
abbrev F_q194 : Nat := 194
def A_q194_0 : LA := [Wm 2 0, Wm 3 0]
def A_q194_1 : LA := [mv 4 0, Wc 5 4, Wf 6 3 5, Wl 7 6, Wi 8 .eql 7 0]
def A_q194_2 : LA := [Wm 2 0, Wm 3 0]
def A_q194 : ACode := (.seq (.ops A_q194_0) (.seq (.seq (.ops A_q194_1) (.cond (.t 8) (.seq (.ops A_q194_2) .ret) .bad)) .bad))
def T_q194 : FC := ⟨17, A_q194, [.tmp 2, .tmp 3]⟩
abbrev F_q195 : Nat := 195
def A_q195_0 : LA := [mv 10 0, Wc 11 10, Wf 12 1 11, Wl 13 12, mv 9 13]
def A_q195_1 : LA := [mv 15 1, o_ 16 (.bini .lss (.t 15) (.c (.int .i32 1))), mv 17 16, Whm 18 1 17, Wh 19 (.bini .gtr (.t 18) (.c (.int .i32 536870911))) 17, Wq 20 17 19, mv 21 20, Whm 22 2 21, Wh 23 (.bini .gtr (.t 22) (.c (.int .u8 5))) 21, Wq 24 21 23, mv 14 24]
def A_q195_2 : LA := [mv 32 2, o_ 33 (.bini .eql (.t 32) (.c (.int .u8 4))), mv 31 33]
def A_q195_3 : LA := [mv 40 0, Wc 41 40, Wf 42 3 41, Wl 43 42, Wi 44 .eql 43 0]
def A_q195_4 : LA := [mv 45 0, mv 46 1, mv 47 2, mv 48 3, o_ 49 (.call 243 [(.t 45), (.t 46), (.t 47), (.t 48)])]
def A_q195_5 : LA := [mv 50 0, Wc 51 50, Wf 52 3 51, Wl 53 52, Wi 54 .neq 53 0]
def A_q195_6 : LA := [mv 59 0, Wc 60 59, Wf 61 0 60, Wl 62 61, mv 63 9, mv 64 0, Wc 65 64, Wf 66 1 65, Wl 67 66, o_ 68 (.slcl 5 1 (.t 62) (some (.t 63)) (some (.t 67)) none), o_ 69 (.call 38 [(.t 68)]), mv 8 69]
def A_q195 : ACode := (.seq (.ops [Wn 8]) (.seq (.ops A_q195_0) (.seq (.block 0 (.seq (.ops A_q195_1) (.cond (.t 14) .bad (.seq (.ops A_q195_2) (.cond (.t 31) .bad .skip))))) (.seq (.seq (.ops A_q195_3) (.cond (.t 44) (.ops A_q195_4) .bad)) (.seq (.seq (.ops A_q195_5) (.cond (.t 54) .bad .skip)) (.seq (.alts [59, 60, 61, 62, 63, 64, 65, 66, 67, 68, 69, 8] [A_q195_6]) .ret))))))
def T_q195 : FC := ⟨70, A_q195, [.tmp 8]⟩
abbrev F_q196 : Nat := 196
def A_q196_0 : LA := [Wl 7 1, o_ 8 (.call 190 [(.t 7)]), mv 4 8]
def A_q196_1 : LA := [mv 9 4, o_ 10 (.call 191 [(.t 9)]), Wi 11 .gtr 10 0]
def A_q196_2 : LA := [mv 13 4, Wl 14 2, o_ 15 (.call 197 [(.t 13), (.t 14)]), mv 12 15, Wx 16 0 12, Wx 17 1 12, o_ 5 (.box 267 5 (.c (.agg [.int .i32 (0), .int .u8 (0), .int .i64 (0), .int .u64 (0), .nils]))), Wt 5 5 16, mv 6 17]
def A_q196_3 : LA := [mv 18 6, o_ 19 (.not (.t 18)), mv 20 19, Whm 21 0 20, Wh 22 (.lda 5 (.t 5)) 20, Wh 23 (.callv (.t 21) [(.t 22)]) 20, Wh 24 (.not (.t 23)) 20, Wq 25 20 24]
def A_q196_4 : ACode := (.seq (.seq (.ops A_q196_1) (.cond (.t 11) .skip (.exit 0))) (.block 1 (.seq (.ops A_q196_2) (.seq (.ops A_q196_3) (.cond (.t 25) .bad .skip)))))
def A_q196 : ACode := (.seq (.ops A_q196_0) (.block 0 (.loop A_q196_4)))
def T_q196 : FC := ⟨26, A_q196, []⟩
abbrev F_q197 : Nat := 197
def A_q197_0 : LA := [o_ 4 (.box 267 5 (.c (.agg [.int .i32 (0), .int .u8 (0), .int .i64 (0), .int .u64 (0), .nils]))), Wo 5 false]
def A_q197_1 : LA := [mv 12 0, o_ 13 (.call 192 [(.t 12)]), o_ 14 (.build [.int .i32 (0), .int .u8 (0), .int .i64 (0), .int .u64 (0), .nils] [(2, 1, (.t 13))]), o_ 6 (.box 267 5 (.c (.agg [.int .i32 (0), .int .u8 (0), .int .i64 (0), .int .u64 (0), .nils]))), Wt 5 6 14]
def A_q197_2 : LA := [mv 16 0, o_ 17 (.call 193 [(.t 16)]), mv 15 17, Wx 18 0 15, Wx 19 1 15, Wf 20 0 6, Wt 1 20 18, Wf 21 1 6, Wt 1 21 19]
def A_q197_3 : LA := [mv 22 0, o_ 23 (.call 192 [(.t 22)]), mv 7 23]
def A_q197_4 : LA := [Wf 24 1 6, Wl 25 24]
def A_q197_5 : LA := [o_ 37 (.bini .eql (.t 25) (.c (.int .u8 0))), mv 36 37]
def A_q197_6 : LA := [mv 38 0, o_ 39 (.call 241 [(.t 38)]), Wf 40 3 6, Wt 1 40 39]
def A_q197_7 : LA := [mv 68 0, o_ 69 (.call 194 [(.t 68)]), mv 67 69, Wx 70 0 67, Wx 71 1 67, mv 10 70, mv 11 71]
def A_q197_8 : LA := [Wd 72 5 6, mv 73 10, Wi 74 .eql 73 0, Wt 5 4 72, mv 5 74]
def A_q197 : ACode := (.seq (.ops A_q197_0) (.seq (.ops A_q197_1) (.seq (.ops A_q197_2) (.seq (.ops A_q197_3) (.seq (.seq (.ops A_q197_4) (.block 0 (.seq (.ops A_q197_5) (.cond (.t 36) (.ops A_q197_6) .bad)))) (.seq (.ops A_q197_7) (.seq (.ops A_q197_8) .ret)))))))
def T_q197 : FC := ⟨75, A_q197, [.cella 4 5, .tmp 5]⟩
abbrev F_q200 : Nat := 200
def A_q200_0 : LA := [mv 10 1, Wi 11 .add 10 1, mv 8 11]
def A_q200_1 : LA := [mv 12 8, mv 13 2, Wb 14 .lss 12 13]
def A_q200_2 : LA := [mv 17 8, mv 9 17]
def A_q200_3 : LA := [mv 18 9, mv 19 1, Wb 20 .gtr 18 19, mv 21 20, Wgm 22 3 21, Wgm 23 0 21, Wgm 24 9 21, g_ 25 (.iaddr 227 6 (.t 23) (.t 24)) 21, g_ 26 (.lda 6 (.t 25)) 21, Wgm 27 0 21, Wgm 28 9 21, g_ 29 (.bini .sub (.t 28) (i_ 1)) 21, g_ 30 (.iaddr 227 6 (.t 27) (.t 29)) 21, g_ 31 (.lda 6 (.t 30)) 21, g_ 32 (.callv (.t 22) [(.t 26), (.t 31)]) 21, g_ 33 (.bini .lss (.t 32) (i_ 0)) 21, Wp 34 21 33]
def A_q200_4 : LA := [mv 37 0, mv 38 9, mv 39 0, mv 40 9, Wi 41 .sub 40 1, mv 42 0, mv 43 9, Wi 44 .sub 43 1, Wa 45 227 6 42 44, Wd 46 6 45, mv 47 0, mv 48 9, Wa 49 227 6 47 48, Wd 50 6 49, Wa 51 227 6 37 38, Wt 6 51 46, Wa 52 227 6 39 41, Wt 6 52 50]
def A_q200_5 : LA := [mv 35 9, Wi 36 .sub 35 1, mv 9 36]
def A_q200_6 : ACode := (.seq (.seq (.alts [18, 19, 20, 21, 22, 23, 24, 25, 26, 27, 28, 29, 30, 31, 32, 33, 34] [A_q200_3]) (.cond (.t 34) .skip (.exit 2))) (.seq (.block 3 (.alts [37, 38, 39, 40, 41, 42, 43, 44, 45, 46, 47, 48, 49, 50, 51, 52] [A_q200_4])) (.ops A_q200_5)))
def A_q200_7 : LA := [mv 15 8, Wi 16 .add 15 1, mv 8 16]
def A_q200_8 : ACode := (.seq (.seq (.ops A_q200_1) (.cond (.t 14) .skip (.exit 0))) (.seq (.block 1 (.seq (.ops A_q200_2) (.block 2 (.loop A_q200_6)))) (.ops A_q200_7)))
def A_q200 : ACode := (.seq (.ops A_q200_0) (.block 0 (.loop A_q200_8)))
def T_q200 : FC := ⟨53, A_q200, []⟩
abbrev F_q210 : Nat := 210
def A_q210_0 : LA := [mv 12 3, Wi 13 .eql 12 0]
def A_q210_1 : LA := [mv 14 1, o_ 15 (.bins .eql (.t 14) (.c (.str [])))]
def A_q210_2 : LA := [mv 19 3, Wi 20 .lss 19 0]
def A_q210_3 : LA := [mv 21 0, mv 22 1, o_ 23 (.call 254 [(.t 21), (.t 22)]), Wi 24 .add 23 1, mv 3 24]
def A_q210_4 : LA := [mv 25 3, mv 26 0, o_ 27 (.lens (.t 26)), Wi 28 .add 27 1, o_ 29 (.mn (.t 25) (.t 28)), mv 3 29]
def A_q210_5 : LA := [mv 30 3, o_ 31 (.mkslice 9 1 16 [.str []] (.t 30) (.t 30)), mv 9 31]
def A_q210_6 : LA := [mv 32 3, Wi 33 .sub 32 1, mv 3 33]
def A_q210_7 : LA := [mv 34 10, mv 35 3, Wb 36 .lss 34 35]
def A_q210_8 : ACode := (.seq (.seq (.ops A_q210_7) (.cond (.t 36) .bad (.exit 0))) .bad)
def A_q210_9 : LA := [mv 58 9, mv 59 10, mv 60 0, Wa 61 9 1 58 59, Wt 1 61 60]
def A_q210_10 : LA := [mv 62 9, mv 63 10, Wi 64 .add 63 1, o_ 65 (.slcl 9 1 (.t 62) none (some (.t 64)) none), mv 8 65]
def A_q210 : ACode := (.seq (.ops [Wn 8]) (.seq (.seq (.ops A_q210_0) (.cond (.t 13) .bad .skip)) (.seq (.seq (.ops A_q210_1) (.cond (.t 15) .bad .skip)) (.seq (.seq (.ops A_q210_2) (.cond (.t 20) (.ops A_q210_3) .bad)) (.seq (.ops A_q210_4) (.seq (.ops A_q210_5) (.seq (.ops A_q210_6) (.seq (.ops [Wm 10 0]) (.seq (.block 0 (.loop A_q210_8)) (.seq (.ops A_q210_9) (.seq (.ops A_q210_10) .ret)))))))))))
def T_q210 : FC := ⟨66, A_q210, [.tmp 8]⟩
abbrev F_q211 : Nat := 211
def A_q211_0 : LA := [mv 3 0, o_ 4 (.bini .geq (.t 3) (.c (.int .u8 48))), mv 5 4, Wgm 6 0 5, g_ 7 (.bini .leq (.t 6) (.c (.int .u8 57))) 5, Wp 8 5 7, mv 2 8]
def A_q211 : ACode := (.seq (.ops [Wo 2 false]) (.seq (.ops A_q211_0) .ret))
def T_q211 : FC := ⟨9, A_q211, [.tmp 2]⟩
abbrev F_q212 : Nat := 212
def A_q212_0 : LA := [mv 3 0, o_ 4 (.bini .geq (.t 3) (.c (.int .u8 97))), mv 5 4, Wgm 6 0 5, g_ 7 (.bini .leq (.t 6) (.c (.int .u8 122))) 5, Wp 8 5 7, mv 2 8]
def A_q212 : ACode := (.seq (.ops [Wo 2 false]) (.seq (.ops A_q212_0) .ret))
def T_q212 : FC := ⟨9, A_q212, [.tmp 2]⟩
abbrev F_q213 : Nat := 213
def A_q213_0 : LA := [mv 3 0, o_ 4 (.bini .geq (.t 3) (.c (.int .u8 65))), mv 5 4, Wgm 6 0 5, g_ 7 (.bini .leq (.t 6) (.c (.int .u8 90))) 5, Wp 8 5 7, mv 2 8]
def A_q213 : ACode := (.seq (.ops [Wo 2 false]) (.seq (.ops A_q213_0) .ret))
def T_q213 : FC := ⟨9, A_q213, [.tmp 2]⟩
abbrev F_q214 : Nat := 214
def A_q214_0 : LA := [mv 3 0, o_ 4 (.bini .geq (.t 3) (.c (.int .i32 1))), mv 5 4, Wgm 6 0 5, g_ 7 (.bini .leq (.t 6) (.c (.int .i32 536870911))) 5, Wp 8 5 7, mv 9 8, Wgm 10 0 9, g_ 11 (.bini .lss (.t 10) (.c (.int .i32 19000))) 9, Wgm 12 11 9, Whm 13 0 12, Wh 14 (.bini .gtr (.t 13) (.c (.int .i32 19999))) 12, g_ 15 (.pick (.t 12) (.c (.bool true)) (.t 14)) 9, Wp 16 9 15, mv 2 16]
def A_q214 : ACode := (.seq (.ops [Wo 2 false]) (.seq (.ops A_q214_0) .ret))
def T_q214 : FC := ⟨17, A_q214, [.tmp 2]⟩
abbrev F_q215 : Nat := 215
def A_q215_0 : LA := [o_ 2 (.box 28 9 (.t 0)), Wo 3 false]
def A_q215_1 : LA := [Wf 4 1 2, Wl 5 4, Wf 6 1 1, Wl 7 6, Wb 8 .eql 5 7, mv 3 8]
def A_q215 : ACode := (.seq (.ops A_q215_0) (.seq (.ops A_q215_1) .ret))
def T_q215 : FC := ⟨9, A_q215, [.tmp 3]⟩
abbrev F_q216 : Nat := 216
def A_q216_0 : LA := [mv 3 0, o_ 4 (.bini .geq (.t 3) (.c (.int .u8 1))), mv 5 4, Wgm 6 0 5, g_ 7 (.bini .leq (.t 6) (.c (.int .u8 18))) 5, Wp 8 5 7, mv 9 8, Wgm 10 0 9, g_ 11 (.bini .neq (.t 10) (.c (.int .u8 10))) 9, Wp 12 9 11, mv 2 12]
def A_q216 : ACode := (.seq (.ops [Wo 2 false]) (.seq (.ops A_q216_0) .ret))
def T_q216 : FC := ⟨13, A_q216, [.tmp 2]⟩
abbrev F_q217 : Nat := 217
def A_q217_0 : LA := [mv 3 0, o_ 4 (.bini .eql (.t 3) (.c (.int .u8 0))), mv 5 4, Whm 6 0 5, Wh 7 (.bini .eql (.t 6) (.c (.int .u8 11))) 5, Wq 8 5 7, mv 9 8, Whm 10 0 9, Wh 11 (.bini .eql (.t 10) (.c (.int .u8 14))) 9, Wq 12 9 11, mv 2 12]
def A_q217 : ACode := (.seq (.ops [Wo 2 false]) (.seq (.ops A_q217_0) .ret))
def T_q217 : FC := ⟨13, A_q217, [.tmp 2]⟩
abbrev F_q218 : Nat := 218
def A_q218_0 : LA := [mv 6 0, o_ 7 (.call 232 [(.t 6), (.c (.str [46]))]), mv 5 7, Wx 8 0 5, Wx 9 1 5, mv 3 8, mv 4 9]
def A_q218_1 : LA := [mv 18 0, o_ 19 (.call 118 [(.t 18)]), mv 2 19]
def A_q218 : ACode := (.seq (.ops [Wo 2 false]) (.seq (.seq (.ops A_q218_0) (.seq (.ops [mv 10 4]) (.cond (.t 10) .bad .skip))) (.seq (.ops A_q218_1) .ret)))
def T_q218 : FC := ⟨20, A_q218, [.tmp 2]⟩
abbrev F_q219 : Nat := 219
def A_q219_0 : LA := [mv 3 0, o_ 4 (.call 216 [(.t 3)]), mv 5 4, Wgm 6 0 5, g_ 7 (.bini .neq (.t 6) (.c (.int .u8 1))) 5, Wp 8 5 7, mv 9 8, Wgm 10 0 9, g_ 11 (.bini .neq (.t 10) (.c (.int .u8 2))) 9, Wp 12 9 11, mv 13 12, Wgm 14 0 13, g_ 15 (.bini .neq (.t 14) (.c (.int .u8 12))) 13, Wp 16 13 15, mv 17 16, Wgm 18 0 17, g_ 19 (.bini .neq (.t 18) (.c (.int .u8 11))) 17, Wp 20 17 19, mv 21 20, Wgm 22 0 21, g_ 23 (.bini .neq (.t 22) (.c (.int .u8 14))) 21, Wp 24 21 23, mv 2 24]
def A_q219 : ACode := (.seq (.ops [Wo 2 false]) (.seq (.ops A_q219_0) .ret))
def T_q219 : FC := ⟨25, A_q219, [.tmp 2]⟩
abbrev F_q220 : Nat := 220
def A_q220_0 : LA := [mv 3 0, o_ 4 (.bini .neq (.t 3) (.c (.int .u8 9))), mv 5 4, Wgm 6 0 5, g_ 7 (.bini .neq (.t 6) (.c (.int .u8 12))) 5, Wp 8 5 7, mv 9 8, Wgm 10 0 9, g_ 11 (.bini .neq (.t 10) (.c (.int .u8 11))) 9, Wp 12 9 11, mv 2 12]
def A_q220 : ACode := (.seq (.ops [Wo 2 false]) (.seq (.ops A_q220_0) .ret))
def T_q220 : FC := ⟨13, A_q220, [.tmp 2]⟩
abbrev F_q221 : Nat := 221
def A_q221_0 : LA := [mv 5 0, mv 6 1, o_ 7 (.call 255 [(.t 5), (.t 6)]), Wi 8 .geq 7 0, mv 4 8]
def A_q221 : ACode := (.seq (.ops [Wo 4 false]) (.seq (.ops A_q221_0) .ret))
def T_q221 : FC := ⟨9, A_q221, [.tmp 4]⟩
abbrev F_q222 : Nat := 222
def A_q222_0 : LA := [o_ 1 (.box 28 9 (.t 0)), o_ 2 (.mov (.c (.str [])))]
def A_q222_1 : LA := [Wf 3 8 1, Wl 4 3, o_ 5 (.bins .neq (.t 4) (.c (.str [])))]
def A_q222_2 : LA := [Wf 8 0 1, Wl 9 8, o_ 10 (.call 256 [(.t 9)]), mv 2 10]
def A_q222 : ACode := (.seq (.ops A_q222_0) (.seq (.seq (.ops A_q222_1) (.cond (.t 5) .bad .skip)) (.seq (.ops A_q222_2) .ret)))
def T_q222 : FC := ⟨11, A_q222, [.tmp 2]⟩
abbrev F_q223 : Nat := 223
def A_q223_0 : LA := [mv 6 0, We 7 6, Wm 8 0]
def A_q223_1 : LA := [mv 10 8, mv 5 10]
def A_q223_2 : LA := [mv 11 1, mv 12 0, mv 13 5, Wa 14 28 9 12 13, Wd 15 9 14, o_ 16 (.callv (.t 11) [(.t 15)])]
def A_q223_3 : LA := [Wi 18 .add 8 1, mv 8 18]
def A_q223_4 : ACode := (.seq (.ops [Wb 9 .lss 8 7]) (.seq (.cond (.t 9) .skip (.exit 0)) (.seq (.block 1 (.seq (.ops A_q223_1) (.seq (.ops A_q223_2) (.cond (.t 16) .bad .skip)))) (.ops A_q223_3))))
def A_q223 : ACode := (.seq (.ops [Wm 4 0]) (.seq (.seq (.ops A_q223_0) (.block 0 (.loop A_q223_4))) (.seq (.ops [Wm 4 (-1)]) .ret)))
def T_q223 : FC := ⟨19, A_q223, [.tmp 4]⟩
abbrev F_q224 : Nat := 224
def A_q224_0 : LA := [mv 5 0, mv 6 1, o_ 7 (.call 257 [(.t 5), (.t 6)]), Wi 8 .geq 7 0, mv 4 8]
def A_q224 : ACode := (.seq (.ops [Wo 4 false]) (.seq (.ops A_q224_0) .ret))
def T_q224 : FC := ⟨9, A_q224, [.tmp 4]⟩
abbrev F_q227 : Nat := 227
def A_q227_0 : LA := [mv 6 0, o_ 7 (.lens (.t 6)), Wi 8 .sub 7 1, mv 5 8]
def A_q227_1 : LA := [mv 9 5, Wi 10 .geq 9 0]
def A_q227_2 : LA := [mv 13 0, mv 14 5, o_ 15 (.idxs (.t 13) (.t 14)), mv 16 1, Wb 17 .eql 15 16]
def A_q227_3 : LA := [mv 11 5, Wi 12 .sub 11 1, mv 5 12]
def A_q227_4 : ACode := (.seq (.seq (.ops A_q227_1) (.cond (.t 10) .skip (.exit 0))) (.seq (.block 1 (.seq (.ops A_q227_2) (.cond (.t 17) .bad .skip))) (.ops A_q227_3)))
def A_q227 : ACode := (.seq (.ops [Wm 4 0]) (.seq (.seq (.ops A_q227_0) (.block 0 (.loop A_q227_4))) (.seq (.ops [Wm 4 (-1)]) .ret)))
def T_q227 : FC := ⟨19, A_q227, [.tmp 4]⟩
abbrev F_q228 : Nat := 228
def A_q228_0 : LA := [mv 2 0, Wc 3 2, Wf 4 0 3, Wl 5 4, o_ 6 (.isnil .pt false (.t 5))]
def A_q228_1 : LA := [mv 7 0, mv 8 0, o_ 9 (.upc (.t 8)), mv 10 9, o_ 11 (.upt 296 (.t 10)), Wc 12 7, Wf 13 0 12, Wt 1 13 11]
def A_q228_2 : LA := [mv 14 0, Wc 15 14, Wf 16 0 15, Wl 17 16, mv 18 0, o_ 19 (.peq true (.t 17) (.t 18))]
def A_q228 : ACode := (.seq (.ops A_q228_0) (.cond (.t 6) (.ops A_q228_1) (.seq (.ops A_q228_2) (.cond (.t 19) .bad .skip))))
def T_q228 : FC := ⟨20, A_q228, []⟩
abbrev F_q229 : Nat := 229
def A_q229_0 : LA := [mv 5 0, Wc 6 5, Wf 7 1 6, Wl 8 7, o_ 9 (.capk (.t 8)), o_ 10 (.bini .mul (i_ 2) (.t 9)), mv 11 1, Wb 12 .add 10 11, mv 14 0, Wc 15 14, Wf 16 1 15, Wl 17 16, We 18 17, o_ 13 (.mnz 5 (.t 12)), o_ 19 (.slcl 5 1 (.t 13) none (some (.t 18)) none), mv 4 19]
def A_q229_1 : LA := [mv 20 4, mv 21 0, Wc 22 21, Wf 23 1 22, Wl 24 23, o_ 25 (.cpy 5 1 (.t 20) (.t 24))]
def A_q229_2 : LA := [mv 26 0, mv 27 4, Wc 28 26, Wf 29 1 28, Wt 1 29 27]
def A_q229 : ACode := (.seq (.alts [5, 6, 7, 8, 9, 10, 11, 12, 13, 14, 15, 16, 17, 18, 19, 4] [A_q229_0]) (.seq (.ops A_q229_1) (.ops A_q229_2)))
def T_q229 : FC := ⟨30, A_q229, []⟩
abbrev F_q231 : Nat := 231
def A_q231_0 : LA := [Wl 4 1, o_ 5 (.rngm (.t 4))]
def A_q231_1 : LA := [o_ 6 (.nxm (.t 5)), Wx 7 0 6]
def A_q231_2 : LA := [o_ 8 (.entr (.t 5)), Wx 9 0 8, mv 3 9]
def A_q231_3 : LA := [mv 10 0, mv 11 3, o_ 12 (.callv (.t 10) [(.t 11)]), o_ 13 (.not (.t 12))]
def A_q231_4 : ACode := (.seq (.ops A_q231_1) (.seq (.cond (.t 7) .skip (.exit 0)) (.block 1 (.seq (.ops A_q231_2) (.seq (.ops A_q231_3) (.cond (.t 13) .bad .skip))))))
def A_q231 : ACode := (.seq (.ops A_q231_0) (.block 0 (.loop A_q231_4)))
def T_q231 : FC := ⟨14, A_q231, []⟩
abbrev F_q232 : Nat := 232
def A_q232_0 : LA := [o_ 4 (.mov (.c (.str []))), Wo 5 false]
def A_q232_1 : LA := [mv 6 0, mv 7 1, o_ 8 (.call 261 [(.t 6), (.t 7)]), Wx 9 0 8, Wx 10 1 8, mv 4 9, mv 5 10]
def A_q232 : ACode := (.seq (.ops A_q232_0) (.seq (.ops A_q232_1) .ret))
def T_q232 : FC := ⟨11, A_q232, [.tmp 4, .tmp 5]⟩
abbrev F_q233 : Nat := 233
def A_q233_0 : LA := [o_ 4 (.mov (.c (.str []))), o_ 5 (.mov (.c (.str []))), Wo 6 false]
def A_q233_1 : LA := [mv 7 0, mv 8 1, o_ 9 (.call 262 [(.t 7), (.t 8)]), Wx 10 0 9, Wx 11 1 9, Wx 12 2 9, mv 4 10, mv 5 11, mv 6 12]
def A_q233 : ACode := (.seq (.ops A_q233_0) (.seq (.ops A_q233_1) .ret))
def T_q233 : FC := ⟨13, A_q233, [.tmp 4, .tmp 5, .tmp 6]⟩
abbrev F_q236 : Nat := 236
def A_q236_0 : LA := [mv 3 0, Wi 4 .lss 3 10]
def A_q236_1 : LA := [mv 5 0, mv 6 0, Wi 7 .add 6 1, o_ 8 (.slcs (.c (.str [48, 49, 50, 51, 52, 53, 54, 55, 56, 57, 97, 98, 99, 100, 101, 102, 103, 104, 105, 106, 107, 108, 109, 110, 111, 112, 113, 114, 115, 116, 117, 118, 119, 120, 121, 122])) (some (.t 5)) (some (.t 7))), mv 2 8]
def A_q236 : ACode := (.seq (.ops [o_ 2 (.mov (.c (.str [])))]) (.seq (.seq (.ops A_q236_0) (.cond (.t 4) (.seq (.ops A_q236_1) .ret) .bad)) .bad))
def T_q236 : FC := ⟨15, A_q236, [.tmp 2]⟩
abbrev F_q241 : Nat := 241
def A_q241_0 : LA := [mv 6 0, Wc 7 6, Wf 8 3 7, Wl 9 8, Wi 10 .neq 9 0]
def A_q241_1 : LA := [mv 11 4, Wi 12 .lss 11 10]
def A_q241_2 : LA := [mv 15 0, Wc 16 15, Wf 17 1 16, Wl 18 17, mv 19 4, Wb 20 .add 18 19, mv 21 0, Wc 22 21, Wf 23 2 22, Wl 24 23, Wb 25 .geq 20 24]
def A_q241_3 : LA := [mv 32 0, Wc 33 32, Wf 34 0 33, Wl 35 34, mv 36 0, Wc 37 36, Wf 38 1 37, Wl 39 38, mv 40 4, Wb 41 .add 39 40, Wa 42 5 1 35 41, Wl 43 42, mv 5 43]
def A_q241_4 : LA := [mv 44 4, Wi 45 .eql 44 9, mv 46 45, Wgm 47 5 46, g_ 48 (.bini .gtr (.t 47) (.c (.int .u8 1))) 46, Wp 49 46 48]
def A_q241_5 : LA := [mv 50 3, mv 51 5, o_ 52 (.bini .and (.t 51) (.c (.int .u8 127))), o_ 53 (.conv .u64 (.t 52)), mv 54 4, o_ 55 (.bini .mul (i_ 7) (.t 54)), Wb 56 .shl 53 55, Wb 57 .or 50 56, mv 3 57]
def A_q241_6 : LA := [mv 58 5, o_ 59 (.bini .lss (.t 58) (.c (.int .u8 128)))]
def A_q241_7 : LA := [mv 60 0, Wc 61 60, Wf 62 1 61, Wl 63 62, mv 64 4, Wi 65 .add 64 1, Wb 66 .add 63 65, Wc 67 60, Wf 68 1 67, Wt 1 68 66]
def A_q241_8 : LA := [mv 69 3, mv 2 69]
def A_q241_9 : LA := [mv 13 4, Wi 14 .add 13 1, mv 4 14]
def A_q241_10 : ACode := (.seq (.seq (.ops A_q241_1) (.cond (.t 12) .skip .bad)) (.seq (.block 1 (.seq (.seq (.alts [15, 16, 17, 18, 19, 20, 21, 22, 23, 24, 25] [A_q241_2]) (.cond (.t 25) .bad .skip)) (.seq (.alts [32, 33, 34, 35, 36, 37, 38, 39, 40, 41, 42, 43, 5] [A_q241_3]) (.seq (.seq (.ops A_q241_4) (.cond (.t 49) .bad .skip)) (.seq (.ops A_q241_5) (.seq (.ops A_q241_6) (.cond (.t 59) (.seq (.ops A_q241_7) (.seq (.ops A_q241_8) .ret)) .bad))))))) (.ops A_q241_9)))
def A_q241_11 : LA := [mv 70 0, mv 71 0, Wc 72 71, Wf 73 1 72, Wl 74 73, o_ 75 (.call 242 [(.t 70), (i_ 11), (.t 74)])]
def A_q241 : ACode := (.seq (.ops [o_ 2 (.mov (.c (.int .u64 0)))]) (.seq (.ops [o_ 3 (.mov (.c (.int .u64 0)))]) (.seq (.seq (.ops A_q241_0) (.cond (.t 10) .bad .skip)) (.seq (.seq (.ops [Wm 4 0]) (.block 0 (.loop A_q241_10))) (.seq (.ops A_q241_11) (.seq (.ops [o_ 2 (.mov (.c (.int .u64 0)))]) .ret))))))
def T_q241 : FC := ⟨76, A_q241, [.tmp 2]⟩
abbrev F_q243 : Nat := 243
def A_q243_0 : LA := [o_ 10 (.bini .eql (.t 8) (.c (.int .u8 0))), mv 9 10]
def A_q243_1 : LA := [mv 11 0, o_ 12 (.call 241 [(.t 11)])]
def A_q243 : ACode := (.seq (.ops [mv 8 2]) (.block 0 (.seq (.ops A_q243_0) (.cond (.t 9) (.ops A_q243_1) .bad))))
def T_q243 : FC := ⟨31, A_q243, []⟩
abbrev F_q254 : Nat := 254
def A_q254_0 : LA := [mv 7 1, o_ 8 (.lens (.t 7)), Wi 9 .eql 8 0]
def A_q254_1 : LA := [mv 13 1, o_ 14 (.lens (.t 13)), Wi 15 .eql 14 1]
def A_q254_2 : LA := [mv 16 0, mv 17 1, o_ 18 (.idxs (.t 17) (i_ 0)), o_ 19 (.xcount (.t 16) (.t 18)), mv 4 19]
def A_q254 : ACode := (.seq (.ops [Wm 4 0]) (.seq (.seq (.ops A_q254_0) (.cond (.t 9) .bad .skip)) (.seq (.seq (.ops A_q254_1) (.cond (.t 15) (.seq (.ops A_q254_2) .ret) .bad)) .bad)))
def T_q254 : FC := ⟨34, A_q254, [.tmp 4]⟩
abbrev F_q255 : Nat := 255
def A_q255_0 : LA := [mv 5 0, mv 6 1, o_ 7 (.call 278 [(.t 5), (.t 6)]), mv 4 7]
def A_q255 : ACode := (.seq (.ops [Wm 4 0]) (.seq (.ops A_q255_0) .ret))
def T_q255 : FC := ⟨8, A_q255, [.tmp 4]⟩
abbrev F_q256 : Nat := 256
def A_q256_0 : LA := [mv 7 0, o_ 8 (.lens (.t 7)), Wm 9 0]
def A_q256_1 : LA := [mv 11 9, mv 5 11]
def A_q256_2 : LA := [mv 12 0, mv 13 5, o_ 14 (.idxs (.t 12) (.t 13)), mv 6 14]
def A_q256_3 : LA := [mv 15 6, o_ 16 (.bini .eql (.t 15) (.c (.int .u8 95)))]
def A_q256_4 : LA := [mv 17 4, mv 18 17, Wgm 19 6 18, g_ 20 (.call 212 [(.t 19)]) 18, Wp 21 18 20]
def A_q256_5 : LA := [mv 24 6, o_ 25 (.call 279 [(.t 3), (.t 24)])]
def A_q256_6 : LA := [Wi 26 .add 9 1, mv 9 26]
def A_q256_7 : ACode := (.seq (.ops [Wb 10 .lss 9 8]) (.seq (.cond (.t 10) .skip (.exit 0)) (.seq (.block 1 (.seq (.ops A_q256_1) (.seq (.ops A_q256_2) (.seq (.seq (.ops A_q256_3) (.cond (.t 16) .bad .skip)) (.seq (.seq (.ops A_q256_4) (.cond (.t 21) .bad .skip)) (.seq (.ops A_q256_5) (.ops [Wo 4 false]))))))) (.ops A_q256_6))))
def A_q256_8 : LA := [o_ 27 (.call 175 [(.t 3)]), mv 2 27]
def A_q256 : ACode := (.seq (.ops [o_ 2 (.mov (.c (.str [])))]) (.seq (.ops [o_ 3 (.box 296 2 (.c (.agg [.nilp, .nils])))]) (.seq (.ops [Wo 4 false]) (.seq (.seq (.ops A_q256_0) (.block 0 (.loop A_q256_7))) (.seq (.ops A_q256_8) .ret)))))
def T_q256 : FC := ⟨28, A_q256, [.tmp 2]⟩
abbrev F_q257 : Nat := 257
def A_q257_0 : LA := [mv 6 0, We 7 6, Wm 8 0]
def A_q257_1 : ACode := (.seq (.ops [Wb 9 .lss 8 7]) (.seq (.cond (.t 9) .bad (.exit 0)) .bad))
def A_q257 : ACode := (.seq (.ops [Wm 4 0]) (.seq (.seq (.ops A_q257_0) (.block 0 (.loop A_q257_1))) (.seq (.ops [Wm 4 (-1)]) .ret)))
def T_q257 : FC := ⟨19, A_q257, [.tmp 4]⟩
abbrev F_q261 : Nat := 261
def A_q261_0 : LA := [o_ 4 (.mov (.c (.str []))), Wo 5 false]
def A_q261_1 : LA := [mv 6 0, mv 7 1, o_ 8 (.call 263 [(.t 6), (.t 7)]), o_ 9 (.not (.t 8))]
def A_q261_2 : LA := [mv 10 0, mv 4 10, Wo 5 false]
def A_q261 : ACode := (.seq (.ops A_q261_0) (.seq (.seq (.ops A_q261_1) (.cond (.t 9) (.seq (.ops A_q261_2) .ret) .bad)) .bad))
def T_q261 : FC := ⟨15, A_q261, [.tmp 4, .tmp 5]⟩
abbrev F_q262 : Nat := 262
def A_q262_0 : LA := [o_ 4 (.mov (.c (.str []))), o_ 5 (.mov (.c (.str []))), Wo 6 false]
def A_q262_1 : LA := [mv 8 0, mv 9 1, o_ 10 (.call 278 [(.t 8), (.t 9)]), mv 7 10]
def A_q262_2 : LA := [mv 11 7, Wi 12 .geq 11 0]
def A_q262_3 : LA := [mv 22 0, mv 4 22, o_ 5 (.mov (.c (.str []))), Wo 6 false]
def A_q262 : ACode := (.seq (.ops A_q262_0) (.seq (.seq (.ops A_q262_1) (.seq (.ops A_q262_2) (.cond (.t 12) .bad .skip))) (.seq (.ops A_q262_3) .ret)))
def T_q262 : FC := ⟨23, A_q262, [.tmp 4, .tmp 5, .tmp 6]⟩
abbrev F_q263 : Nat := 263
def A_q263_0 : LA := [mv 5 0, o_ 6 (.lens (.t 5)), mv 7 1, o_ 8 (.lens (.t 7)), Wb 9 .geq 6 8, mv 10 9, Wgm 11 0 10, Wgm 12 1 10, g_ 13 (.lens (.t 12)) 10, g_ 14 (.slcs (.t 11) none (some (.t 13))) 10, Wgm 15 1 10, g_ 16 (.bins .eql (.t 14) (.t 15)) 10, Wp 17 10 16, mv 4 17]
def A_q263 : ACode := (.seq (.ops [Wo 4 false]) (.seq (.ops A_q263_0) .ret))
def T_q263 : FC := ⟨18, A_q263, [.tmp 4]⟩
abbrev F_q278 : Nat := 278
def A_q278_0 : LA := [mv 14 1, o_ 15 (.lens (.t 14)), mv 5 15]
def A_q278_1 : LA := [mv 17 5, Wi 18 .eql 17 0, mv 19 18, Whm 20 1 19, Whm 21 0 19, Wh 22 (.bins .eql (.t 20) (.t 21)) 19, Wq 23 19 22, mv 16 23]
def A_q278_2 : LA := [mv 25 5, Wi 26 .eql 25 1, mv 24 26]
def A_q278_3 : LA := [mv 27 0, mv 28 1, o_ 29 (.idxs (.t 28) (i_ 0)), o_ 30 (.call 284 [(.t 27), (.t 29)]), mv 4 30]
def A_q278_4 : LA := [mv 48 1, o_ 49 (.idxs (.t 48) (i_ 0)), mv 6 49]
def A_q278_5 : LA := [mv 50 1, o_ 51 (.idxs (.t 50) (i_ 1)), mv 7 51]
def A_q278_6 : LA := [mv 52 0, o_ 53 (.lens (.t 52)), mv 54 5, Wb 55 .sub 53 54, Wi 56 .add 55 1, mv 9 56]
def A_q278_7 : LA := [mv 57 8, mv 58 9, Wb 59 .lss 57 58]
def A_q278_8 : ACode := (.seq (.seq (.ops A_q278_7) (.cond (.t 59) .bad .bad)) .bad)
def A_q278 : ACode := (.seq (.ops [Wm 4 0]) (.seq (.ops A_q278_0) (.seq (.block 0 (.seq (.ops A_q278_1) (.cond (.t 16) .bad (.seq (.ops A_q278_2) (.cond (.t 24) (.seq (.ops A_q278_3) .ret) .bad))))) (.seq (.ops A_q278_4) (.seq (.ops A_q278_5) (.seq (.ops [Wm 8 0]) (.seq (.ops A_q278_6) (.seq (.ops [Wm 10 0]) (.seq (.block 1 (.loop A_q278_8)) (.seq (.ops [Wm 4 (-1)]) .ret))))))))))
def T_q278 : FC := ⟨143, A_q278, [.tmp 4]⟩
abbrev F_q279 : Nat := 279
def A_q279_0 : LA := [mv 5 0, o_ 6 (.call 228 [(.t 5)])]
def A_q279_1 : LA := [mv 7 0, mv 8 0, Wc 9 8, Wf 10 1 9, Wl 11 10, mv 12 1, o_ 13 (.bslice 5 1 1 [.int .u8 0] [(0, 1, (.t 12))]), o_ 14 (.app 5 1 1 (.t 11) (.t 13)), Wc 15 7, Wf 16 1 15, Wt 1 16 14]
def A_q279 : ACode := (.seq (.ops [o_ 4 (.mov (.c (.nili)))]) (.seq (.ops A_q279_0) (.seq (.ops A_q279_1) (.seq (.ops [o_ 4 (.mov (.c (.nili)))]) .ret))))
def T_q279 : FC := ⟨17, A_q279, [.tmp 4]⟩
abbrev F_q284 : Nat := 284
def A_q284_0 : LA := [mv 5 0, mv 6 1, o_ 7 (.xindex (.t 5) (.t 6)), mv 4 7]
def A_q284 : ACode := (.seq (.ops [Wm 4 0]) (.seq (.ops A_q284_0) .ret))
def T_q284 : FC := ⟨8, A_q284, [.tmp 4]⟩
abbrev F_q306 : Nat := 306
def A_q306_0 : LA := [o_ 4 (.mov (.c (.nilp))), Wm 5 0]
def A_q306_1 : LA := [mv 9 0, Wc 10 9, Wf 11 0 10, o_ 12 (.call 307 [(.t 11)])]
def A_q306_2 : LA := [mv 13 0, Wc 14 13, Wf 15 0 14]
def A_q306_3 : LA := [mv 16 0, Wc 17 16, Wf 18 3 17, Wl 19 18, mv 20 1, o_ 21 (.mlook .s (.nilp) false (.t 19) (.t 20)), mv 6 21]
def A_q306_4 : LA := [mv 22 6, o_ 23 (.isnil .pt true (.t 22))]
def A_q306_5 : LA := [mv 24 6, mv 4 24, Wm 5 0]
def A_q306_6 : LA := [mv 26 0, Wc 27 26, Wf 28 2 27, Wl 29 28, mv 30 1, o_ 31 (.call 309 [(.t 29), (.t 30)]), mv 25 31, Wx 32 0 25, Wx 33 1 25, mv 7 32, mv 8 33]
def A_q306_7 : LA := [mv 34 8, Wi 35 .eql 34 0]
def A_q306_8 : LA := [mv 36 0, Wc 37 36, Wf 38 3 37, Wl 39 38, mv 40 1, mv 41 7, n_ (.mupd .s (.t 39) (.t 40) (.t 41))]
def A_q306_9 : LA := [mv 42 7, mv 43 8, mv 4 42, mv 5 43]
def A_q306 : ACode := (.seq (.ops A_q306_0) (.seq (.ops A_q306_1) (.seq (.seq (.ops A_q306_2) (.dfr (.f 308) [(.t 15)])) (.seq (.seq (.ops A_q306_3) (.seq (.ops A_q306_4) (.cond (.t 23) (.seq (.ops A_q306_5) .ret) .skip))) (.seq (.ops A_q306_6) (.seq (.seq (.ops A_q306_7) (.cond (.t 35) (.ops A_q306_8) .skip)) (.seq (.ops A_q306_9) .ret)))))))
def T_q306 : FC := ⟨44, A_q306, [.tmp 4, .tmp 5]⟩
abbrev F_q307 : Nat := 307
def A_q307_0 : LA := [mv 2 0, Wc 3 2, Wf 4 0 3, o_ 5 (.call 310 [(.t 4)])]
def A_q307 : ACode := (.ops A_q307_0)
def T_q307 : FC := ⟨6, A_q307, []⟩
abbrev F_q308 : Nat := 308
def A_q308_0 : LA := [mv 2 0, Wc 3 2, Wf 4 0 3, o_ 5 (.call 311 [(.t 4)])]
def A_q308 : ACode := (.ops A_q308_0)
def T_q308 : FC := ⟨6, A_q308, []⟩
abbrev F_q309 : Nat := 309
def A_q309_0 : LA := [o_ 4 (.mov (.c (.nilp))), Wm 5 0]
def A_q309_1 : LA := [mv 14 0, mv 15 1, o_ 16 (.call 312 [(.t 14), (.t 15)]), mv 13 16, Wx 17 0 13, Wx 18 1 13, o_ 6 (.box 37 7 (.c (.agg [.str [], .nils, .nils, .nils, .nils, .nils, .nils]))), Wt 7 6 17, mv 7 18]
def A_q309_2 : LA := [mv 19 7, o_ 20 (.not (.t 19))]
def A_q309_3 : LA := [o_ 4 (.mov (.c (.nilp))), Wm 5 90]
def A_q309_4 : LA := [mv 21 1, Wf 22 2 6, Wl 23 22, o_ 24 (.call 157 [(.t 23)]), o_ 25 (.mkmap), o_ 26 (.mkmap), o_ 27 (.mkmap), o_ 28 (.build [.str [], .nils, .nils, .nilm, .nilm, .nilm] [(0, 1, (.t 21)), (1, 1, (.t 24)), (3, 1, (.t 25)), (4, 1, (.t 26)), (5, 1, (.t 27))]), o_ 29 (.box 175 6 (.t 28)), mv 8 29]
def A_q309_5 : LA := [Wf 30 1 6, Wl 31 30, We 32 31, Wm 33 0]
def A_q309_6 : LA := [Wa 35 28 9 31 33, Wd 36 9 35, o_ 10 (.box 28 9 (.c (.agg [.str [], .int .i32 (0), .int .u8 (0), .int .u8 (0), .str [], .int .u8 (0), .int .i64 (0), .int .u8 (0), .str []]))), Wt 9 10 36]
def A_q309_7 : LA := [mv 37 8, mv 38 8, Wc 39 38, Wf 40 2 39, Wl 41 40, Wd 42 9 10, o_ 43 (.acall 313 [(.t 42)]), o_ 44 (.bslice 120 9 1 [.int .i32 (0), .str [], .str [], .int .u8 (0), .int .u8 (0), .int .u8 (0), .bool false, .int .i64 (0), .str []] [(0, 9, (.t 43))]), o_ 45 (.app 120 9 72 (.t 41) (.t 44)), Wc 46 37, Wf 47 2 46, Wt 1 47 45]
def A_q309_8 : LA := [Wi 48 .add 33 1, mv 33 48]
def A_q309_9 : ACode := (.seq (.ops [Wb 34 .lss 33 32]) (.seq (.cond (.t 34) .skip (.exit 0)) (.seq (.block 1 (.seq (.ops A_q309_6) (.alts [37, 38, 39, 40, 41, 42, 43, 44, 45, 46, 47] [A_q309_7]))) (.ops A_q309_8))))
def A_q309_10 : LA := [mv 49 8, Wc 50 49, Wf 51 2 50, Wl 52 51, o_ 53 (.call 314 [(.t 52), (.f 315)])]
def A_q309_11 : LA := [mv 54 8, Wc 55 54, Wf 56 2 55, Wl 57 56, We 58 57, Wm 59 0]
def A_q309_12 : LA := [mv 61 59, Wa 62 120 9 57 59, Wd 63 9 62, o_ 12 (.box 120 9 (.c (.agg [.int .i32 (0), .str [], .str [], .int .u8 (0), .int .u8 (0), .int .u8 (0), .bool false, .int .i64 (0), .str []]))), mv 11 61, Wt 9 12 63]
def A_q309_13 : LA := [mv 64 8, Wc 65 64, Wf 66 3 65, Wl 67 66, Wf 68 0 12, Wl 69 68, mv 70 8, Wc 71 70, Wf 72 4 71, Wl 73 72, Wf 74 1 12, mv 76 8, Wc 77 76, Wf 78 5 77, Wl 79 78, Wf 80 2 12, mv 82 11, mv 83 11, mv 84 11, Wl 75 74, Wl 81 80, o_ 85 (.ment .i (.int .i64 0) (.t 67) (.t 69)), Wx 86 1 85, n_ (.mest (.t 67) (.t 86) (.t 82)), o_ 87 (.ment .s (.int .i64 0) (.t 73) (.t 75)), Wx 88 1 87, n_ (.mest (.t 73) (.t 88) (.t 83)), o_ 89 (.ment .s (.int .i64 0) (.t 79) (.t 81)), Wx 90 1 89, n_ (.mest (.t 79) (.t 90) (.t 84))]
def A_q309_14 : LA := [mv 64 8, Wc 65 64, Wf 66 3 65, Wl 67 66, Wf 68 0 12, Wl 69 68, mv 70 8, Wc 71 70, Wf 72 4 71, Wl 73 72, Wf 74 1 12, mv 76 8, Wc 77 76, Wf 78 5 77, Wl 79 78, Wf 80 2 12, mv 82 11, mv 83 11, mv 84 11, Wl 75 74, o_ 85 (.ment .i (.int .i64 0) (.t 67) (.t 69)), Wx 86 1 85, Wl 81 80, n_ (.mest (.t 67) (.t 86) (.t 82)), o_ 87 (.ment .s (.int .i64 0) (.t 73) (.t 75)), Wx 88 1 87, n_ (.mest (.t 73) (.t 88) (.t 83)), o_ 89 (.ment .s (.int .i64 0) (.t 79) (.t 81)), Wx 90 1 89, n_ (.mest (.t 79) (.t 90) (.t 84))]
def A_q309_15 : LA := [mv 64 8, Wc 65 64, Wf 66 3 65, Wl 67 66, Wf 68 0 12, Wl 69 68, mv 70 8, Wc 71 70, Wf 72 4 71, Wl 73 72, Wf 74 1 12, mv 76 8, Wc 77 76, Wf 78 5 77, Wl 79 78, Wf 80 2 12, mv 82 11, mv 83 11, mv 84 11, Wl 75 74, o_ 85 (.ment .i (.int .i64 0) (.t 67) (.t 69)), Wx 86 1 85, n_ (.mest (.t 67) (.t 86) (.t 82)), Wl 81 80, o_ 87 (.ment .s (.int .i64 0) (.t 73) (.t 75)), Wx 88 1 87, n_ (.mest (.t 73) (.t 88) (.t 83)), o_ 89 (.ment .s (.int .i64 0) (.t 79) (.t 81)), Wx 90 1 89, n_ (.mest (.t 79) (.t 90) (.t 84))]
def A_q309_16 : LA := [mv 64 8, Wc 65 64, Wf 66 3 65, Wl 67 66, Wf 68 0 12, Wl 69 68, mv 70 8, Wc 71 70, Wf 72 4 71, Wl 73 72, Wf 74 1 12, mv 76 8, Wc 77 76, Wf 78 5 77, Wl 79 78, Wf 80 2 12, mv 82 11, mv 83 11, mv 84 11, Wl 75 74, o_ 85 (.ment .i (.int .i64 0) (.t 67) (.t 69)), Wx 86 1 85, n_ (.mest (.t 67) (.t 86) (.t 82)), o_ 87 (.ment .s (.int .i64 0) (.t 73) (.t 75)), Wx 88 1 87, Wl 81 80, n_ (.mest (.t 73) (.t 88) (.t 83)), o_ 89 (.ment .s (.int .i64 0) (.t 79) (.t 81)), Wx 90 1 89, n_ (.mest (.t 79) (.t 90) (.t 84))]
def A_q309_17 : LA := [mv 64 8, Wc 65 64, Wf 66 3 65, Wl 67 66, Wf 68 0 12, Wl 69 68, mv 70 8, Wc 71 70, Wf 72 4 71, Wl 73 72, Wf 74 1 12, mv 76 8, Wc 77 76, Wf 78 5 77, Wl 79 78, Wf 80 2 12, mv 82 11, mv 83 11, mv 84 11, Wl 75 74, o_ 85 (.ment .i (.int .i64 0) (.t 67) (.t 69)), Wx 86 1 85, n_ (.mest (.t 67) (.t 86) (.t 82)), o_ 87 (.ment .s (.int .i64 0) (.t 73) (.t 75)), Wx 88 1 87, n_ (.mest (.t 73) (.t 88) (.t 83)), Wl 81 80, o_ 89 (.ment .s (.int .i64 0) (.t 79) (.t 81)), Wx 90 1 89, n_ (.mest (.t 79) (.t 90) (.t 84))]
def A_q309_18 : LA := [mv 64 8, Wc 65 64, Wf 66 3 65, Wl 67 66, Wf 68 0 12, Wl 69 68, mv 70 8, Wc 71 70, Wf 72 4 71, Wl 73 72, Wf 74 1 12, mv 76 8, Wc 77 76, Wf 78 5 77, Wl 79 78, Wf 80 2 12, mv 82 11, mv 83 11, mv 84 11, Wl 81 80, Wl 75 74, o_ 85 (.ment .i (.int .i64 0) (.t 67) (.t 69)), Wx 86 1 85, n_ (.mest (.t 67) (.t 86) (.t 82)), o_ 87 (.ment .s (.int .i64 0) (.t 73) (.t 75)), Wx 88 1 87, n_ (.mest (.t 73) (.t 88) (.t 83)), o_ 89 (.ment .s (.int .i64 0) (.t 79) (.t 81)), Wx 90 1 89, n_ (.mest (.t 79) (.t 90) (.t 84))]
def A_q309_19 : LA := [mv 64 8, Wc 65 64, Wf 66 3 65, Wl 67 66, Wf 68 0 12, Wl 69 68, mv 70 8, Wc 71 70, Wf 72 4 71, Wl 73 72, Wf 74 1 12, mv 76 8, Wc 77 76, Wf 78 5 77, Wl 79 78, Wf 80 2 12, mv 82 11, mv 83 11, mv 84 11, Wl 81 80, o_ 85 (.ment .i (.int .i64 0) (.t 67) (.t 69)), Wx 86 1 85, Wl 75 74, n_ (.mest (.t 67) (.t 86) (.t 82)), o_ 87 (.ment .s (.int .i64 0) (.t 73) (.t 75)), Wx 88 1 87, n_ (.mest (.t 73) (.t 88) (.t 83)), o_ 89 (.ment .s (.int .i64 0) (.t 79) (.t 81)), Wx 90 1 89, n_ (.mest (.t 79) (.t 90) (.t 84))]
def A_q309_20 : LA := [mv 64 8, Wc 65 64, Wf 66 3 65, Wl 67 66, Wf 68 0 12, Wl 69 68, mv 70 8, Wc 71 70, Wf 72 4 71, Wl 73 72, Wf 74 1 12, mv 76 8, Wc 77 76, Wf 78 5 77, Wl 79 78, Wf 80 2 12, mv 82 11, mv 83 11, mv 84 11, Wl 81 80, o_ 85 (.ment .i (.int .i64 0) (.t 67) (.t 69)), Wx 86 1 85, n_ (.mest (.t 67) (.t 86) (.t 82)), Wl 75 74, o_ 87 (.ment .s (.int .i64 0) (.t 73) (.t 75)), Wx 88 1 87, n_ (.mest (.t 73) (.t 88) (.t 83)), o_ 89 (.ment .s (.int .i64 0) (.t 79) (.t 81)), Wx 90 1 89, n_ (.mest (.t 79) (.t 90) (.t 84))]
def A_q309_21 : LA := [mv 64 8, Wc 65 64, Wf 66 3 65, Wl 67 66, Wf 68 0 12, Wl 69 68, mv 70 8, Wc 71 70, Wf 72 4 71, Wl 73 72, Wf 74 1 12, mv 76 8, Wc 77 76, Wf 78 5 77, Wl 79 78, Wf 80 2 12, mv 82 11, mv 83 11, mv 84 11, o_ 85 (.ment .i (.int .i64 0) (.t 67) (.t 69)), Wx 86 1 85, Wl 75 74, Wl 81 80, n_ (.mest (.t 67) (.t 86) (.t 82)), o_ 87 (.ment .s (.int .i64 0) (.t 73) (.t 75)), Wx 88 1 87, n_ (.mest (.t 73) (.t 88) (.t 83)), o_ 89 (.ment .s (.int .i64 0) (.t 79) (.t 81)), Wx 90 1 89, n_ (.mest (.t 79) (.t 90) (.t 84))]
def A_q309_22 : LA := [mv 64 8, Wc 65 64, Wf 66 3 65, Wl 67 66, Wf 68 0 12, Wl 69 68, mv 70 8, Wc 71 70, Wf 72 4 71, Wl 73 72, Wf 74 1 12, mv 76 8, Wc 77 76, Wf 78 5 77, Wl 79 78, Wf 80 2 12, mv 82 11, mv 83 11, mv 84 11, o_ 85 (.ment .i (.int .i64 0) (.t 67) (.t 69)), Wx 86 1 85, Wl 75 74, n_ (.mest (.t 67) (.t 86) (.t 82)), Wl 81 80, o_ 87 (.ment .s (.int .i64 0) (.t 73) (.t 75)), Wx 88 1 87, n_ (.mest (.t 73) (.t 88) (.t 83)), o_ 89 (.ment .s (.int .i64 0) (.t 79) (.t 81)), Wx 90 1 89, n_ (.mest (.t 79) (.t 90) (.t 84))]
def A_q309_23 : LA := [mv 64 8, Wc 65 64, Wf 66 3 65, Wl 67 66, Wf 68 0 12, Wl 69 68, mv 70 8, Wc 71 70, Wf 72 4 71, Wl 73 72, Wf 74 1 12, mv 76 8, Wc 77 76, Wf 78 5 77, Wl 79 78, Wf 80 2 12, mv 82 11, mv 83 11, mv 84 11, o_ 85 (.ment .i (.int .i64 0) (.t 67) (.t 69)), Wx 86 1 85, Wl 75 74, n_ (.mest (.t 67) (.t 86) (.t 82)), o_ 87 (.ment .s (.int .i64 0) (.t 73) (.t 75)), Wx 88 1 87, Wl 81 80, n_ (.mest (.t 73) (.t 88) (.t 83)), o_ 89 (.ment .s (.int .i64 0) (.t 79) (.t 81)), Wx 90 1 89, n_ (.mest (.t 79) (.t 90) (.t 84))]
def A_q309_24 : LA := [mv 64 8, Wc 65 64, Wf 66 3 65, Wl 67 66, Wf 68 0 12, Wl 69 68, mv 70 8, Wc 71 70, Wf 72 4 71, Wl 73 72, Wf 74 1 12, mv 76 8, Wc 77 76, Wf 78 5 77, Wl 79 78, Wf 80 2 12, mv 82 11, mv 83 11, mv 84 11, o_ 85 (.ment .i (.int .i64 0) (.t 67) (.t 69)), Wx 86 1 85, Wl 75 74, n_ (.mest (.t 67) (.t 86) (.t 82)), o_ 87 (.ment .s (.int .i64 0) (.t 73) (.t 75)), Wx 88 1 87, n_ (.mest (.t 73) (.t 88) (.t 83)), Wl 81 80, o_ 89 (.ment .s (.int .i64 0) (.t 79) (.t 81)), Wx 90 1 89, n_ (.mest (.t 79) (.t 90) (.t 84))]
def A_q309_25 : LA := [mv 64 8, Wc 65 64, Wf 66 3 65, Wl 67 66, Wf 68 0 12, Wl 69 68, mv 70 8, Wc 71 70, Wf 72 4 71, Wl 73 72, Wf 74 1 12, mv 76 8, Wc 77 76, Wf 78 5 77, Wl 79 78, Wf 80 2 12, mv 82 11, mv 83 11, mv 84 11, o_ 85 (.ment .i (.int .i64 0) (.t 67) (.t 69)), Wx 86 1 85, Wl 81 80, Wl 75 74, n_ (.mest (.t 67) (.t 86) (.t 82)), o_ 87 (.ment .s (.int .i64 0) (.t 73) (.t 75)), Wx 88 1 87, n_ (.mest (.t 73) (.t 88) (.t 83)), o_ 89 (.ment .s (.int .i64 0) (.t 79) (.t 81)), Wx 90 1 89, n_ (.mest (.t 79) (.t 90) (.t 84))]
def A_q309_26 : LA := [mv 64 8, Wc 65 64, Wf 66 3 65, Wl 67 66, Wf 68 0 12, Wl 69 68, mv 70 8, Wc 71 70, Wf 72 4 71, Wl 73 72, Wf 74 1 12, mv 76 8, Wc 77 76, Wf 78 5 77, Wl 79 78, Wf 80 2 12, mv 82 11, mv 83 11, mv 84 11, o_ 85 (.ment .i (.int .i64 0) (.t 67) (.t 69)), Wx 86 1 85, Wl 81 80, n_ (.mest (.t 67) (.t 86) (.t 82)), Wl 75 74, o_ 87 (.ment .s (.int .i64 0) (.t 73) (.t 75)), Wx 88 1 87, n_ (.mest (.t 73) (.t 88) (.t 83)), o_ 89 (.ment .s (.int .i64 0) (.t 79) (.t 81)), Wx 90 1 89, n_ (.mest (.t 79) (.t 90) (.t 84))]
def A_q309_27 : LA := [mv 64 8, Wc 65 64, Wf 66 3 65, Wl 67 66, Wf 68 0 12, Wl 69 68, mv 70 8, Wc 71 70, Wf 72 4 71, Wl 73 72, Wf 74 1 12, mv 76 8, Wc 77 76, Wf 78 5 77, Wl 79 78, Wf 80 2 12, mv 82 11, mv 83 11, mv 84 11, o_ 85 (.ment .i (.int .i64 0) (.t 67) (.t 69)), Wx 86 1 85, n_ (.mest (.t 67) (.t 86) (.t 82)), Wl 75 74, Wl 81 80, o_ 87 (.ment .s (.int .i64 0) (.t 73) (.t 75)), Wx 88 1 87, n_ (.mest (.t 73) (.t 88) (.t 83)), o_ 89 (.ment .s (.int .i64 0) (.t 79) (.t 81)), Wx 90 1 89, n_ (.mest (.t 79) (.t 90) (.t 84))]
def A_q309_28 : LA := [mv 64 8, Wc 65 64, Wf 66 3 65, Wl 67 66, Wf 68 0 12, Wl 69 68, mv 70 8, Wc 71 70, Wf 72 4 71, Wl 73 72, Wf 74 1 12, mv 76 8, Wc 77 76, Wf 78 5 77, Wl 79 78, Wf 80 2 12, mv 82 11, mv 83 11, mv 84 11, o_ 85 (.ment .i (.int .i64 0) (.t 67) (.t 69)), Wx 86 1 85, n_ (.mest (.t 67) (.t 86) (.t 82)), Wl 75 74, o_ 87 (.ment .s (.int .i64 0) (.t 73) (.t 75)), Wx 88 1 87, Wl 81 80, n_ (.mest (.t 73) (.t 88) (.t 83)), o_ 89 (.ment .s (.int .i64 0) (.t 79) (.t 81)), Wx 90 1 89, n_ (.mest (.t 79) (.t 90) (.t 84))]
def A_q309_29 : LA := [mv 64 8, Wc 65 64, Wf 66 3 65, Wl 67 66, Wf 68 0 12, Wl 69 68, mv 70 8, Wc 71 70, Wf 72 4 71, Wl 73 72, Wf 74 1 12, mv 76 8, Wc 77 76, Wf 78 5 77, Wl 79 78, Wf 80 2 12, mv 82 11, mv 83 11, mv 84 11, o_ 85 (.ment .i (.int .i64 0) (.t 67) (.t 69)), Wx 86 1 85, n_ (.mest (.t 67) (.t 86) (.t 82)), Wl 75 74, o_ 87 (.ment .s (.int .i64 0) (.t 73) (.t 75)), Wx 88 1 87, n_ (.mest (.t 73) (.t 88) (.t 83)), Wl 81 80, o_ 89 (.ment .s (.int .i64 0) (.t 79) (.t 81)), Wx 90 1 89, n_ (.mest (.t 79) (.t 90) (.t 84))]
def A_q309_30 : LA := [Wi 91 .add 59 1, mv 59 91]
def A_q309_31 : ACode := (.seq (.ops [Wb 60 .lss 59 58]) (.seq (.cond (.t 60) .skip (.exit 2)) (.seq (.block 3 (.seq (.ops A_q309_12) (.alts [64, 65, 66, 67, 68, 69, 70, 71, 72, 73, 74, 75, 76, 77, 78, 79, 80, 81, 82, 83, 84, 85, 86, 87, 88, 89, 90] [A_q309_13, A_q309_14, A_q309_15, A_q309_16, A_q309_17, A_q309_18, A_q309_19, A_q309_20, A_q309_21, A_q309_22, A_q309_23, A_q309_24, A_q309_25, A_q309_26, A_q309_27, A_q309_28, A_q309_29]))) (.ops A_q309_30))))
def A_q309_32 : LA := [mv 92 8, mv 4 92, Wm 5 0]
def A_q309 : ACode := (.seq (.ops A_q309_0) (.seq (.ops A_q309_1) (.seq (.seq (.ops A_q309_2) (.cond (.t 20) (.seq (.ops A_q309_3) .ret) .skip)) (.seq (.ops A_q309_4) (.seq (.seq (.ops A_q309_5) (.block 0 (.loop A_q309_9))) (.seq (.ops A_q309_10) (.seq (.seq (.ops A_q309_11) (.block 2 (.loop A_q309_31))) (.seq (.ops A_q309_32) .ret))))))))
def T_q309 : FC := ⟨93, A_q309, [.tmp 4, .tmp 5]⟩
abbrev F_q310 : Nat := 310
def A_q310_0 : LA := [mv 3 0, Wc 4 3, Wf 5 0 4, o_ 6 (.cas .i32 (.t 5) (.c (.int .i32 0)) (.c (.int .i32 1)))]
def A_q310_1 : LA := [mv 8 0, o_ 9 (.upc (.t 8)), o_ 10 (.rac (.t 9))]
def A_q310 : ACode := (.seq (.ops [o_ 2 (.mov (.c (.tup [])))]) (.seq (.seq (.ops A_q310_0) (.cond (.t 6) (.seq (.cond (.c (.bool true)) (.seq (.ops [o_ 7 (.mov (.c (.tup [])))]) (.ops A_q310_1)) .bad) .ret) .bad)) .bad))
def T_q310 : FC := ⟨13, A_q310, []⟩
abbrev F_q311 : Nat := 311
def A_q311_0 : LA := [mv 3 0, Wc 4 3, Wf 5 0 4, Wl 6 5]
def A_q311_1 : LA := [mv 7 0, o_ 8 (.upc (.t 7)), o_ 9 (.rac (.t 8))]
def A_q311_2 : LA := [mv 11 0, Wc 12 11, Wf 13 0 12, o_ 14 (.xadd .i32 (.t 13) (.c (.int .i32 (-1)))), mv 2 14]
def A_q311_3 : LA := [mv 15 2, o_ 16 (.bini .neq (.t 15) (.c (.int .i32 0)))]
def A_q311 : ACode := (.seq (.cond (.c (.bool true)) (.seq (.ops A_q311_0) (.seq (.ops A_q311_1) (.ops [o_ 10 (.mov (.c (.tup [])))]))) .bad) (.seq (.ops A_q311_2) (.seq (.seq (.ops A_q311_3) (.cond (.t 16) .bad .skip)) (.ops [o_ 20 (.mov (.c (.tup [])))]))))
def T_q311 : FC := ⟨21, A_q311, []⟩
abbrev F_q312 : Nat := 312
def A_q312_0 : LA := [o_ 4 (.box 37 7 (.c (.agg [.str [], .nils, .nils, .nils, .nils, .nils, .nils]))), Wo 5 false]
def A_q312_1 : LA := [mv 9 0, Wc 10 9, Wf 11 3 10, Wl 12 11, mv 13 1, o_ 14 (.mlook .s (.agg [.str [], .nils, .nils, .nils, .nils, .nils, .nils]) true (.t 12) (.t 13)), mv 8 14, Wx 15 0 8, Wx 16 1 8, o_ 6 (.box 37 7 (.c (.agg [.str [], .nils, .nils, .nils, .nils, .nils, .nils]))), Wt 7 6 15, mv 7 16]
def A_q312_2 : LA := [Wd 17 7 6, o_ 18 (.call 112 [(.t 17)]), mv 19 7, Wt 7 4 18, mv 5 19]
def A_q312 : ACode := (.seq (.ops A_q312_0) (.seq (.ops A_q312_1) (.seq (.ops A_q312_2) .ret)))
def T_q312 : FC := ⟨20, A_q312, [.cella 4 7, .tmp 5]⟩
abbrev F_q313 : Nat := 313
def A_q313_0 : LA := [o_ 1 (.box 28 9 (.t 0)), o_ 2 (.box 120 9 (.c (.agg [.int .i32 (0), .str [], .str [], .int .u8 (0), .int .u8 (0), .int .u8 (0), .bool false, .int .i64 (0), .str []])))]
def A_q313_1 : LA := [Wf 4 1 1, Wl 5 4, Wf 6 0 1, Wl 7 6, Wf 8 8 1, Wl 9 8, Wf 10 0 1, Wl 11 10, Wf 15 2 1, Wl 16 15, Wf 17 3 1, Wl 18 17, Wf 19 5 1, Wl 20 19, Wf 21 2 1, Wl 22 21, o_ 23 (.bini .eql (.t 22) (.c (.int .u8 3))), Wf 34 6 1, Wl 35 34, o_ 12 (.acall 256 [(.t 11)]), o_ 13 (.bslice 9 1 2 [.str []] [(0, 1, (.t 9)), (1, 1, (.t 12))]), o_ 14 (.acall 325 [(.t 13)]), mv 24 23, Wgf 25 3 1 24, Wgl 26 25 24, g_ 27 (.acall 326 [(.t 26)]) 24, Wp 28 24 27, mv 29 28, Wgf 30 7 1 29, Wgl 31 30 29, g_ 32 (.bini .neq (.t 31) (.c (.int .u8 2))) 29, Wp 33 29 32, o_ 36 (.build [.int .i32 (0), .str [], .str [], .int .u8 (0), .int .u8 (0), .int .u8 (0), .bool false, .int .i64 (0), .str []] [(0, 1, (.t 5)), (1, 1, (.t 7)), (2, 1, (.t 14)), (3, 1, (.t 16)), (4, 1, (.t 18)), (5, 1, (.t 20)), (6, 1, (.t 33)), (7, 1, (.t 35))]), o_ 3 (.box 120 9 (.c (.agg [.int .i32 (0), .str [], .str [], .int .u8 (0), .int .u8 (0), .int .u8 (0), .bool false, .int .i64 (0), .str []]))), Wt 9 3 36]
def A_q313_2 : LA := [Wf 37 3 1, Wl 38 37, o_ 39 (.bini .eql (.t 38) (.c (.int .u8 11))), mv 40 39, Wh 41 (.faddr 3 (.t 1)) 40, Wh 42 (.ld1 (.t 41)) 40, Wh 43 (.bini .eql (.t 42) (.c (.int .u8 14))) 40, Wq 44 40 43]
def A_q313_3 : LA := [Wf 45 4 1, Wl 46 45, Wf 47 8 3, Wt 1 47 46]
def A_q313_4 : LA := [Wd 48 9 3, Wt 9 2 48]
def A_q313 : ACode := (.seq (.ops A_q313_0) (.seq (.alts [4, 5, 6, 7, 8, 9, 10, 11, 12, 13, 14, 15, 16, 17, 18, 19, 20, 21, 22, 23, 24, 25, 26, 27, 28, 29, 30, 31, 32, 33, 34, 35, 36, 3] [A_q313_1]) (.seq (.seq (.ops A_q313_2) (.cond (.t 44) (.ops A_q313_3) .skip)) (.seq (.ops A_q313_4) .ret))))
def T_q313 : FC := ⟨49, A_q313, [.cella 2 9]⟩
abbrev F_q314 : Nat := 314
def A_q314_0 : LA := [mv 4 0, mv 5 0, We 6 5, mv 7 1, o_ 8 (.call 327 [(.t 4), (.t 6), (.t 7)])]
def A_q314 : ACode := (.ops A_q314_0)
def T_q314 : FC := ⟨9, A_q314, []⟩
abbrev F_q315 : Nat := 315
def A_q315_0 : LA := [o_ 2 (.box 120 9 (.t 0)), o_ 3 (.box 120 9 (.t 1)), Wm 4 0]
def A_q315_1 : LA := [Wf 5 0 2, Wl 6 5, Wf 7 0 3, Wl 8 7, o_ 9 (.call 316 [(.t 6), (.t 8)]), mv 4 9]
def A_q315 : ACode := (.seq (.ops A_q315_0) (.seq (.ops A_q315_1) .ret))
def T_q315 : FC := ⟨10, A_q315, [.tmp 4]⟩
abbrev F_q316 : Nat := 316
def A_q316_0 : LA := [mv 7 0, o_ 8 (.call 328 [(.t 7)]), mv 5 8]
def A_q316_1 : LA := [mv 9 1, o_ 10 (.call 328 [(.t 9)]), mv 6 10]
def A_q316_2 : LA := [mv 14 0, mv 15 1, Wb 16 .lss 14 15]
def A_q316_3 : LA := [mv 17 0, mv 18 1, Wb 19 .gtr 17 18]
def A_q316 : ACode := (.seq (.ops [Wm 4 0]) (.seq (.ops A_q316_0) (.seq (.ops A_q316_1) (.seq (.seq (.ops [mv 11 5]) (.cond (.t 11) .bad .skip)) (.seq (.seq (.ops [mv 13 6]) (.cond (.t 13) .bad .skip)) (.seq (.seq (.ops A_q316_2) (.cond (.t 16) .bad .skip)) (.seq (.seq (.ops A_q316_3) (.cond (.t 19) (.seq (.ops [Wm 4 1]) .ret) .bad)) .bad)))))))
def T_q316 : FC := ⟨20, A_q316, [.tmp 4]⟩
abbrev F_q325 : Nat := 325
def A_q325_0 : LA := [mv 6 0, We 7 6, Wm 8 0]
def A_q325_1 : LA := [Wa 10 9 1 6 8, Wl 11 10, mv 5 11]
def A_q325_2 : LA := [mv 12 5, mv 13 3, o_ 14 (.bins .neq (.t 12) (.t 13))]
def A_q325_3 : LA := [mv 15 5, mv 2 15]
def A_q325_4 : LA := [Wi 16 .add 8 1, mv 8 16]
def A_q325_5 : ACode := (.seq (.ops [Wb 9 .lss 8 7]) (.seq (.cond (.t 9) .skip .bad) (.seq (.block 1 (.seq (.ops A_q325_1) (.seq (.ops A_q325_2) (.cond (.t 14) (.seq (.ops A_q325_3) .ret) .skip)))) (.ops A_q325_4))))
def A_q325_6 : LA := [mv 17 3, mv 2 17]
def A_q325 : ACode := (.seq (.ops [o_ 2 (.mov (.c (.str [])))]) (.seq (.ops [o_ 3 (.mov (.c (.str [])))]) (.seq (.seq (.ops A_q325_0) (.block 0 (.loop A_q325_5))) (.seq (.ops A_q325_6) .ret))))
def T_q325 : FC := ⟨18, A_q325, [.tmp 2]⟩
abbrev F_q326 : Nat := 326
def A_q326_0 : LA := [mv 3 0, o_ 4 (.bini .neq (.t 3) (.c (.int .u8 9))), mv 5 4, Wgm 6 0 5, g_ 7 (.bini .neq (.t 6) (.c (.int .u8 12))) 5, Wp 8 5 7, mv 9 8, Wgm 10 0 9, g_ 11 (.bini .neq (.t 10) (.c (.int .u8 11))) 9, Wp 12 9 11, mv 2 12]
def A_q326 : ACode := (.seq (.ops [Wo 2 false]) (.seq (.ops A_q326_0) .ret))
def T_q326 : FC := ⟨13, A_q326, [.tmp 2]⟩
abbrev F_q327 : Nat := 327
def A_q327_0 : LA := [mv 10 6, Wm 7 0, mv 8 10]
def A_q327_1 : LA := [mv 11 8, mv 12 1, Wb 13 .leq 11 12]
def A_q327_2 : ACode := (.seq (.seq (.ops A_q327_1) (.cond (.t 13) .bad (.exit 0))) .bad)
def A_q327_3 : LA := [mv 23 0, mv 24 7, mv 25 1, mv 26 2, o_ 27 (.call 336 [(.t 23), (.t 24), (.t 25), (.t 26)])]
def A_q327_4 : LA := [mv 28 6, mv 29 1, Wb 30 .lss 28 29]
def A_q327_5 : ACode := (.seq (.seq (.ops A_q327_4) (.cond (.t 30) .bad (.exit 2))) .bad)
def A_q327 : ACode := (.seq (.ops [Wm 6 20]) (.seq (.ops A_q327_0) (.seq (.block 0 (.loop A_q327_2)) (.seq (.ops A_q327_3) (.block 2 (.loop A_q327_5))))))
def T_q327 : FC := ⟨63, A_q327, []⟩
abbrev F_q328 : Nat := 328
def A_q328_0 : LA := [mv 3 0, mv 4 0, Wb 5 .neq 3 4, mv 2 5]
def A_q328 : ACode := (.seq (.ops [Wo 2 false]) (.seq (.ops A_q328_0) .ret))
def T_q328 : FC := ⟨6, A_q328, [.tmp 2]⟩
abbrev F_q336 : Nat := 336
def A_q336_0 : LA := [mv 10 1, Wi 11 .add 10 1, mv 8 11]
def A_q336_1 : LA := [mv 12 8, mv 13 2, Wb 14 .lss 12 13]
def A_q336_2 : LA := [mv 17 8, mv 9 17]
def A_q336_3 : LA := [mv 18 9, mv 19 1, Wb 20 .gtr 18 19, mv 21 20, Wgm 22 3 21, Wgm 23 0 21, Wgm 24 9 21, g_ 25 (.iaddr 120 9 (.t 23) (.t 24)) 21, g_ 26 (.lda 9 (.t 25)) 21, Wgm 27 0 21, Wgm 28 9 21, g_ 29 (.bini .sub (.t 28) (i_ 1)) 21, g_ 30 (.iaddr 120 9 (.t 27) (.t 29)) 21, g_ 31 (.lda 9 (.t 30)) 21, g_ 32 (.callv (.t 22) [(.t 26), (.t 31)]) 21, g_ 33 (.bini .lss (.t 32) (i_ 0)) 21, Wp 34 21 33]
def A_q336_4 : ACode := (.seq (.seq (.alts [18, 19, 20, 21, 22, 23, 24, 25, 26, 27, 28, 29, 30, 31, 32, 33, 34] [A_q336_3]) (.cond (.t 34) .bad (.exit 2))) .bad)
def A_q336_5 : LA := [mv 15 8, Wi 16 .add 15 1, mv 8 16]
def A_q336_6 : ACode := (.seq (.seq (.ops A_q336_1) (.cond (.t 14) .skip (.exit 0))) (.seq (.block 1 (.seq (.ops A_q336_2) (.block 2 (.loop A_q336_4)))) (.ops A_q336_5)))
def A_q336 : ACode := (.seq (.ops A_q336_0) (.block 0 (.loop A_q336_6)))
def T_q336 : FC := ⟨53, A_q336, []⟩
end Go.Proofs.YtghlipffncbagaaGreatDoor

namespace Go.Proofs.YtghlipffncbagaaGreatDoor
open Go.L
set_option maxRecDepth 100000
def Codes : Tr FC := (.node (.node (.node (.node (.node (.node (.node (.node (.node .nil (some T_q255) .nil) (some T_q127) .nil) (some T_q63) (.node .nil (some T_q191) .nil)) none (.node .nil (some T_q95) (.node .nil (some T_q223) .nil))) (some T_q15) (.node (.node (.node .nil (some T_q143) .nil) (some T_q79) .nil) (some T_q47) (.node (.node .nil (some T_q175) .nil) (some T_q111) .nil))) (some T_q7) (.node (.node (.node (.node (.node .nil (some T_q263) .nil) none .nil) (some T_q71) (.node (.node .nil (some T_q327) .nil) none .nil)) (some T_q39) (.node (.node .nil (some T_q167) .nil) none (.node .nil (some T_q231) .nil))) (some T_q23) (.node (.node (.node (.node .nil (some T_q279) .nil) none .nil) (some T_q87) (.node .nil (some T_q215) .nil)) (some T_q55) (.node (.node (.node .nil (some T_q311) .nil) none .nil) (some T_q119) .nil)))) none (.node (.node (.node (.node .nil (some T_q67) (.node .nil (some T_q195) .nil)) (some T_q35) (.node (.node .nil (some T_q163) .nil) (some T_q99) (.node .nil (some T_q227) .nil))) none (.node (.node .nil (some T_q83) (.node .nil (some T_q211) .nil)) (some T_q51) (.node (.node (.node .nil (some T_q307) .nil) (some T_q179) .nil) (some T_q115) (.node .nil (some T_q243) .nil)))) (some T_q11) (.node (.node (.node (.node .nil (some T_q139) .nil) (some T_q75) .nil) (some T_q43) (.node .nil (some T_q107) .nil)) (some T_q27) (.node (.node .nil (some T_q91) (.node .nil (some T_q219) .nil)) (some T_q59) (.node (.node (.node .nil (some T_q315) .nil) none .nil) (some T_q123) .nil))))) none (.node (.node (.node (.node (.node (.node (.node .nil (some T_q257) .nil) (some T_q129) .nil) (some T_q65) (.node .nil (some T_q193) .nil)) (some T_q33) (.node (.node .nil (some T_q161) .nil) (some T_q97) .nil)) (some T_q17) (.node .nil (some T_q49) (.node .nil none (.node .nil (some T_q241) .nil)))) (some T_q9) (.node (.node (.node .nil (some T_q73) .nil) (some T_q41) (.node (.node .nil (some T_q169) .nil) (some T_q105) (.node .nil (some T_q233) .nil))) (some T_q25) (.node (.node .nil (some T_q89) (.node .nil (some T_q217) .nil)) (some T_q57) (.node (.node (.node .nil (some T_q313) .nil) none .nil) (some T_q121) .nil)))) (some T_q5) (.node (.node (.node (.node (.node (.node .nil (some T_q261) .nil) none .nil) (some T_q69) (.node (.node .nil (some T_q325) .nil) (some T_q197) .nil)) (some T_q37) (.node (.node .nil (some T_q165) .nil) none (.node .nil (some T_q229) .nil))) (some T_q21) (.node (.node (.node .nil (some T_q149) .nil) (some T_q85) (.node .nil (some T_q213) .nil)) (some T_q53) (.node (.node (.node .nil (some T_q309) .nil) (some T_q181) .nil) (some T_q117) .nil))) (some T_q13) (.node (.node (.node (.node .nil (some T_q141) .nil) (some T_q77) .nil) (some T_q45) (.node (.node .nil (some T_q173) .nil) none .nil)) (some T_q29) (.node (.node (.node .nil (some T_q157) .nil) (some T_q93) (.node .nil (some T_q221) .nil)) none (.node (.node .nil (some T_q189) .nil) (some T_q125) .nil)))))) none (.node (.node (.node (.node (.node (.node (.node (.node .nil (some T_q256) .nil) (some T_q128) .nil) (some T_q64) (.node .nil (some T_q192) .nil)) none (.node (.node .nil (some T_q160) .nil) (some T_q96) (.node .nil (some T_q224) .nil))) (some T_q16) (.node (.node .nil (some T_q80) (.node (.node .nil (some T_q336) .nil) none .nil)) none (.node (.node .nil (some T_q176) .nil) (some T_q112) .nil))) (some T_q8) (.node (.node (.node .nil (some T_q72) (.node (.node .nil (some T_q328) .nil) (some T_q200) .nil)) none (.node .nil (some T_q104) (.node .nil (some T_q232) .nil))) (some T_q24) (.node (.node .nil (some T_q88) (.node .nil (some T_q216) .nil)) (some T_q56) (.node (.node (.node .nil (some T_q312) .nil) none .nil) none .nil)))) (some T_lexiconlaw11_works) (.node (.node (.node (.node .nil (some T_q68) (.node .nil (some T_q196) .nil)) (some T_q36) (.node (.node .nil (some T_q164) .nil) (some T_q100) (.node .nil (some T_q228) .nil))) (some T_q20) (.node (.node .nil (some T_q84) (.node .nil (some T_q212) .nil)) (some T_q52) (.node (.node (.node .nil (some T_q308) .nil) (some T_q180) .nil) (some T_q116) .nil))) (some T_q12) (.node (.node (.node (.node .nil (some T_q140) .nil) (some T_q76) .nil) (some T_q44) (.node (.node .nil (some T_q172) .nil) none (.node .nil (some T_q236) .nil))) (some T_q28) (.node (.node (.node (.node .nil (some T_q284) .nil) (some T_q156) .nil) (some T_q92) (.node .nil (some T_q220) .nil)) (some T_q60) (.node (.node (.node .nil (some T_q316) .nil) (some T_q188) .nil) (some T_q124) .nil))))) none (.node (.node (.node (.node (.node .nil (some T_q66) (.node .nil (some T_q194) .nil)) (some T_q34) (.node (.node .nil (some T_q162) .nil) (some T_q98) .nil)) (some T_q18) (.node (.node .nil (some T_q82) (.node .nil (some T_q210) .nil)) (some T_q50) (.node (.node (.node .nil (some T_q306) .nil) (some T_q178) .nil) (some T_q114) .nil))) (some T_q10) (.node (.node (.node .nil (some T_q74) .nil) (some T_q42) (.node .nil (some T_q106) .nil)) (some T_q26) (.node (.node .nil (some T_q90) (.node .nil (some T_q218) .nil)) (some T_q58) (.node (.node (.node .nil (some T_q314) .nil) none .nil) (some T_q122) .nil)))) (some T_q6) (.node (.node (.node (.node (.node (.node .nil (some T_q262) .nil) none .nil) (some T_q70) (.node (.node .nil (some T_q326) .nil) none .nil)) (some T_q38) (.node (.node .nil (some T_q166) .nil) none .nil)) (some T_q22) (.node (.node (.node (.node .nil (some T_q278) .nil) (some T_q150) .nil) (some T_q86) (.node .nil (some T_q214) .nil)) (some T_q54) (.node (.node (.node .nil (some T_q310) .nil) (some T_q182) .nil) (some T_q118) .nil))) (some T_q14) (.node (.node (.node (.node .nil (some T_q142) .nil) (some T_q78) .nil) (some T_q46) (.node (.node .nil (some T_q174) .nil) (some T_q110) .nil)) (some T_q30) (.node (.node (.node .nil (some T_q158) .nil) (some T_q94) (.node .nil (some T_q222) .nil)) none (.node (.node .nil (some T_q190) .nil) (some T_q126) (.node .nil (some T_q254) .nil))))))))
end Go.Proofs.YtghlipffncbagaaGreatDoor
