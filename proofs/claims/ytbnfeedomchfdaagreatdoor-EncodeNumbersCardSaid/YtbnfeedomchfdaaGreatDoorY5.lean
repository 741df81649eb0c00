/- The logic L (of no program), and plain laws: texts put together; no conditions. -/
import Derived.Test.YtbnfeedomchfdaaGreatDoorY4
import Derived.KernelRfl
import Derived.Test.YtbnfeedomchfdaaGreatDoorY3
/- The table of the codes; the run of the law, computed by the kernel (of whatever program has these codes). Printed by program (gen_all.py). -/
namespace Go.Proofs.YtbnfeedomchfdaaGreatDoor
open Go.L
set_option maxRecDepth 100000
def Codes : Tr FC := (.node (.node (.node (.node (.node (.node (.node (.node (.node .nil (some T_q255) .nil) (some T_q127) .nil) (some T_q63) (.node .nil (some T_q191) .nil)) (some T_q31) (.node .nil (some T_q95) (.node .nil (some T_q223) .nil))) (some T_q15) (.node (.node (.node .nil (some T_q143) .nil) none .nil) (some T_q47) (.node (.node .nil (some T_q175) .nil) (some T_q111) .nil))) (some T_q7) (.node (.node (.node (.node (.node .nil (some T_q263) .nil) none .nil) (some T_q71) (.node (.node .nil (some T_q327) .nil) none .nil)) (some T_q39) (.node (.node .nil (some T_q167) .nil) (some T_q103) (.node .nil (some T_q231) .nil))) (some T_q23) (.node (.node (.node (.node .nil (some T_q279) .nil) none .nil) (some T_q87) (.node .nil (some T_q215) .nil)) (some T_q55) (.node (.node (.node .nil (some T_q311) .nil) none .nil) none .nil)))) (some T_lexiconlaw11_EncodeNumbers) (.node (.node (.node (.node .nil (some T_q67) (.node .nil (some T_q195) .nil)) (some T_q35) (.node (.node .nil (some T_q163) .nil) none (.node .nil (some T_q227) .nil))) (some T_q19) (.node (.node .nil (some T_q83) (.node .nil (some T_q211) .nil)) (some T_q51) (.node (.node (.node .nil (some T_q307) .nil) (some T_q179) .nil) (some T_q115) (.node .nil (some T_q243) .nil)))) (some T_q11) (.node (.node (.node (.node .nil (some T_q139) .nil) (some T_q75) .nil) (some T_q43) .nil) (some T_q27) (.node (.node .nil (some T_q91) (.node .nil (some T_q219) .nil)) none (.node (.node (.node .nil (some T_q315) .nil) none .nil) (some T_q123) .nil))))) none (.node (.node (.node (.node (.node (.node (.node .nil (some T_q257) .nil) none .nil) (some T_q65) (.node .nil (some T_q193) .nil)) (some T_q33) (.node (.node .nil (some T_q161) .nil) (some T_q97) .nil)) none (.node (.node .nil (some T_q81) .nil) (some T_q49) (.node .nil (some T_q113) (.node .nil (some T_q241) .nil)))) (some T_q9) (.node (.node (.node .nil (some T_q73) .nil) (some T_q41) (.node (.node .nil (some T_q169) .nil) (some T_q105) (.node .nil (some T_q233) .nil))) (some T_q25) (.node (.node .nil (some T_q89) (.node .nil (some T_q217) .nil)) (some T_q57) (.node (.node (.node .nil (some T_q313) .nil) none .nil) (some T_q121) .nil)))) (some T_q5) (.node (.node (.node (.node (.node (.node .nil (some T_q261) .nil) none .nil) (some T_q69) (.node (.node .nil (some T_q325) .nil) (some T_q197) .nil)) (some T_q37) (.node (.node .nil (some T_q165) .nil) none (.node .nil (some T_q229) .nil))) (some T_q21) (.node (.node (.node .nil (some T_q149) .nil) (some T_q85) (.node .nil (some T_q213) .nil)) (some T_q53) (.node (.node (.node .nil (some T_q309) .nil) (some T_q181) .nil) (some T_q117) .nil))) (some T_q13) (.node (.node (.node (.node .nil (some T_q141) .nil) (some T_q77) .nil) (some T_q45) (.node (.node .nil (some T_q173) .nil) (some T_q109) .nil)) none (.node (.node (.node .nil (some T_q157) .nil) (some T_q93) (.node .nil (some T_q221) .nil)) (some T_q61) (.node (.node .nil (some T_q189) .nil) (some T_q125) .nil)))))) none (.node (.node (.node (.node (.node (.node (.node (.node .nil (some T_q256) .nil) (some T_q128) .nil) (some T_q64) (.node .nil (some T_q192) .nil)) (some T_q32) (.node (.node .nil (some T_q160) .nil) (some T_q96) (.node .nil (some T_q224) .nil))) (some T_q16) (.node (.node .nil (some T_q80) (.node (.node .nil (some T_q336) .nil) none .nil)) (some T_q48) (.node (.node .nil (some T_q176) .nil) none .nil))) (some T_q8) (.node (.node (.node .nil (some T_q72) (.node (.node .nil (some T_q328) .nil) (some T_q200) .nil)) (some T_q40) (.node .nil (some T_q104) (.node .nil (some T_q232) .nil))) (some T_q24) (.node (.node .nil (some T_q88) (.node .nil (some T_q216) .nil)) (some T_q56) (.node (.node (.node .nil (some T_q312) .nil) none .nil) (some T_q120) .nil)))) (some T_q4) (.node (.node (.node (.node .nil (some T_q68) (.node .nil (some T_q196) .nil)) (some T_q36) (.node (.node .nil (some T_q164) .nil) none (.node .nil (some T_q228) .nil))) (some T_q20) (.node (.node .nil (some T_q84) (.node .nil (some T_q212) .nil)) (some T_q52) (.node (.node (.node .nil (some T_q308) .nil) (some T_q180) .nil) (some T_q116) .nil))) (some T_q12) (.node (.node (.node (.node .nil (some T_q140) .nil) (some T_q76) .nil) (some T_q44) (.node (.node .nil (some T_q172) .nil) none (.node .nil (some T_q236) .nil))) (some T_q28) (.node (.node (.node (.node .nil (some T_q284) .nil) (some T_q156) .nil) (some T_q92) .nil) none (.node (.node (.node .nil (some T_q316) .nil) (some T_q188) .nil) (some T_q124) .nil))))) none (.node (.node (.node (.node (.node .nil (some T_q66) (.node .nil (some T_q194) .nil)) (some T_q34) (.node (.node .nil (some T_q162) .nil) (some T_q98) .nil)) (some T_q18) (.node (.node .nil (some T_q82) (.node .nil (some T_q210) .nil)) (some T_q50) (.node (.node (.node .nil (some T_q306) .nil) (some T_q178) .nil) (some T_q114) .nil))) (some T_q10) (.node (.node (.node (.node .nil (some T_q138) .nil) (some T_q74) .nil) (some T_q42) (.node .nil (some T_q106) .nil)) (some T_q26) (.node (.node .nil (some T_q90) (.node .nil (some T_q218) .nil)) (some T_q58) (.node (.node (.node .nil (some T_q314) .nil) none .nil) (some T_q122) .nil)))) (some T_q6) (.node (.node (.node (.node (.node (.node .nil (some T_q262) .nil) none .nil) (some T_q70) (.node (.node .nil (some T_q326) .nil) none .nil)) none (.node (.node .nil (some T_q166) .nil) (some T_q102) .nil)) (some T_q22) (.node (.node (.node (.node .nil (some T_q278) .nil) (some T_q150) .nil) (some T_q86) (.node .nil (some T_q214) .nil)) (some T_q54) (.node (.node (.node .nil (some T_q310) .nil) (some T_q182) .nil) (some T_q118) .nil))) (some T_q14) (.node (.node (.node (.node .nil (some T_q142) .nil) (some T_q78) .nil) none (.node (.node .nil (some T_q174) .nil) (some T_q110) .nil)) none (.node (.node (.node .nil (some T_q158) .nil) (some T_q94) (.node .nil (some T_q222) .nil)) (some T_q62) (.node (.node .nil (some T_q190) .nil) (some T_q126) (.node .nil (some T_q254) .nil))))))))
end Go.Proofs.YtbnfeedomchfdaaGreatDoor

/-
  The logic L, part s3: blocks and numbers forgotten.
-/
namespace Go.L

mutual
/-- All numbers of blocks are such. -/
def idU (u : Nat → Bool) : AV → Bool
  | .ptr i _ _ => u i
  | .slc i _ _ _ => u i
  | .map i => u i
  | .yld i => u i
  | .iptr _ cs _ => idUs u cs
  | .isl _ es => idUss u es
  | .func _ a b => idUs u a && idUs u b
  | .ifc _ v => idU u v
  | .agg cs => idUs u cs
  | .tup cs => idUs u cs
  | _ => true
def idUs (u : Nat → Bool) : List AV → Bool
  | [] => true
  | v :: l => idU u v && idUs u l
def idUss (u : Nat → Bool) : List (List AV) → Bool
  | [] => true
  | c :: l => idUs u c && idUss u l
end

theorem idUs_get {u : Nat → Bool} : ∀ {l : List AV}, idUs u l = true → ∀ {j : Nat} {v : AV}, l[j]? = some v → idU u v = true
  | [], _, j, v, h => by simp at h
  | x :: l, hm, 0, v, h => by simp only [idUs, Bool.and_eq_true] at hm; simp at h; subst h; exact hm.1
  | x :: l, hm, j + 1, v, h => by simp only [idUs, Bool.and_eq_true] at hm; exact idUs_get hm.2 h
theorem idUss_get {u : Nat → Bool} : ∀ {l : List (List AV)}, idUss u l = true → ∀ {j : Nat} {v : List AV}, l[j]? = some v → idUs u v = true
  | [], _, j, v, h => by simp at h
  | x :: l, hm, 0, v, h => by simp only [idUss, Bool.and_eq_true] at hm; simp at h; subst h; exact hm.1
  | x :: l, hm, j + 1, v, h => by simp only [idUss, Bool.and_eq_true] at hm; exact idUss_get hm.2 h

def Emb.cut (σ : Emb) (u : Nat → Bool) : Emb := fun i => match u i with
  | true => σ i
  | false => none
theorem Emb.cut_some {σ : Emb} {u : Nat → Bool} {i : Nat} {L : Loc} (hu : u i = true) (h : σ i = some L) : σ.cut u i = some L := by simp [Emb.cut, hu, h]
theorem Emb.cut_inv {σ : Emb} {u : Nat → Bool} {i : Nat} {L : Loc} (h : σ.cut u i = some L) : u i = true ∧ σ i = some L := by
  unfold Emb.cut at h
  split at h
  · rename_i hu; exact ⟨hu, h⟩
  · cases h

section
variable {P : Program} {σ : Emb} {M : Mem} {u : Nat → Bool}
theorem VR.cut {v : AV} {x : Value} (hv : VR σ M v x) : idU u v = true → VR (σ.cut u) M v x := by
  induction hv with
  | bool b => exact fun _ => .bool b
  | int k n => exact fun _ => .int k n
  | flt k n => exact fun _ => .flt k n
  | str s b h => exact fun _ => .str s b h
  | nilp => exact fun _ => .nilp
  | ptr i k o L h => exact fun hp => .ptr i k o L (Emb.cut_some hp h)
  | iptr g cs o B O C T F d h hc hv ih => exact fun hp => .iptr g cs o B O C T F d h hc fun j v hj => ih j v hj (idUs_get hp hj)
  | nils => exact fun _ => .nils
  | emp a => exact fun _ => .emp a
  | slc i k n c L a c' h ha hn hk hu => exact fun hp => .slc i k n c L a c' (Emb.cut_some hp h) ha hn hk hu
  | isl0 g a c => exact fun _ => .isl0 g a c
  | isl g es z B O C T F d c h hz hn hc hv ih => exact fun hp => .isl g es z B O C T F d c h hz hn hc fun k cs j v hk hj => ih k cs j v hk hj (idUs_get (idUss_get hp hk) hj)
  | nilm => exact fun _ => .nilm
  | map i L h => exact fun hp => .map i L (Emb.cut_some hp h)
  | func fn first cap f' c' d e hy hf hc hf1 hf2 hc1 hc2 ih1 ih2 =>
    intro hp
    simp only [idU, Bool.and_eq_true] at hp
    exact .func fn first cap f' c' d e hy hf hc hf1 (fun j v hj => ih1 j v hj (idUs_get hp.1 hj)) hc1 fun j v hj => ih2 j v hj (idUs_get hp.2 hj)
  | nilf => exact fun _ => .nilf
  | yld i L h => exact fun hp => .yld i L (Emb.cut_some hp h)
  | ifc t v v' h ih => exact fun hp => .ifc t v v' (ih hp)
  | nili => exact fun _ => .nili
  | agg cs c' d hn h1 h2 ih => exact fun hp => .agg cs c' d hn h1 fun j v hj => ih j v hj (idUs_get hp hj)
  | tup cs c' d hn h1 h2 ih => exact fun hp => .tup cs c' d hn h1 fun j v hj => ih j v hj (idUs_get hp hj)
  | any v => exact fun _ => .any v
theorem VRs.cut {l : List AV} {a : Array Value} (h : VRs σ M l a) (hl : idUs u l = true) : VRs (σ.cut u) M l a :=
  ⟨h.1, fun j v hj => let ⟨v', h1, h2⟩ := h.2 j v hj; ⟨v', h1, h2.cut (idUs_get hl hj)⟩⟩

/-- All numbers within a block are such. -/
def blkU (u : Nat → Bool) : Blk → Bool
  | .row _ es => idUss u es
  | .map es _ => es.all fun x => idU u x.1 && idU u x.2.1
  | .mapIter m _ _ _ => match m with
    | none => true
    | some i => u i
  | .strIter _ _ => true
  | .loop .. => false
  | .dfr => true
theorem BlkR.cut {w : World} {L : Loc} {b : Blk} (hb : blkU u b = true) (h : BlkR P σ M w L b) : BlkR P (σ.cut u) M w L b := by
  cases b with
  | row T es =>
    obtain ⟨C, F, h1, h2, h3, h4, h5, h6⟩ := h
    exact ⟨C, F, h1, h2, h3, h4, fun k cs hk => ⟨(h5 k cs hk).1.cut (idUss_get hb hk), (h5 k cs hk).2⟩, h6⟩
  | map es c =>
    obtain ⟨es', h1, h2, h3⟩ := h
    refine ⟨es', h1, h2, fun j k v n hj => ?_⟩
    obtain ⟨e, h4, h5, h6, h7⟩ := h3 j k v n hj
    have := List.all_eq_true.1 hb _ (List.mem_of_getElem? hj)
    simp only [Bool.and_eq_true] at this
    exact ⟨e, h4, h5.cut this.1, h6.cut this.2, h7⟩
  | mapIter m s l t =>
    obtain ⟨h1, m', h2, h3⟩ := h
    refine ⟨h1, m', h2, ?_⟩
    cases m with
    | none => exact h3
    | some i => obtain ⟨K, h4, h5⟩ := h3; exact ⟨K, Emb.cut_some hb h4, h5⟩
  | strIter s p => exact h
  | loop => cases hb
  | dfr => exact h

/-- A call's outcome, of which blocks and numbers are forgotten. -/
theorem CallL.shrink {f : FuncId} {args : List AV} {h : Hp} {Q : Res → Hp → Prop} (k : CallL P f args h fun r h1 => ∃ (v : AV) (h2 : Hp), r = .ret v ∧ Q (.ret v) h2 ∧ idU h2.u v = true ∧ (∀ i b, h2 i = some b → h1 i = some b ∧ h2.u i = true ∧ blkU h2.u b = true) ∧ ∀ i, h.u i = true → h2.u i = true) : CallL P f args h Q := by
  refine ⟨fun σ M w args' hR hA => (k.run σ M w args' hR hA).mono fun e w' ⟨σ', M', h1, hE, hR1, hend⟩ => ?_⟩
  cases e with
  | returned v' =>
    obtain ⟨v0, hv, v, h2, e1, hq, hid, hbl, hu⟩ := hend
    cases e1
    refine ⟨σ'.cut h2.u, M', h2, ⟨fun i L hi => ?_, hE.m, hE.size, hE.os, hE.tape, hE.output⟩, ⟨fun i hi => ?_, fun i b hi => ?_, hR1.mem, fun i b L hi hL => ?_, fun i j bi bj Li Lj hi hj hLi hLj hb => ?_, fun i b L hi hL => ?_, fun i b L hi hL => ?_, hR1.glb⟩, _, hv.cut hid, hq⟩
    · have hu0 : h.u i = true := by
        cases hh : h.u i with
        | true => rfl
        | false => rw [hR.fin i hh] at hi; cases hi
      exact Emb.cut_some (hu i hu0) (hE.s i L hi)
    · simp [Emb.cut, hi]
    · obtain ⟨q1, q2, _⟩ := hbl i b hi
      obtain ⟨L, hL⟩ := hR1.dom i b q1
      exact ⟨L, Emb.cut_some q2 hL⟩
    · exact hR1.sep i b L (hbl i b hi).1 (Emb.cut_inv hL).2
    · exact hR1.inj i j bi bj Li Lj (hbl i bi hi).1 (hbl j bj hj).1 (Emb.cut_inv hLi).2 (Emb.cut_inv hLj).2 hb
    · exact (hR1.blk i b L (hbl i b hi).1 (Emb.cut_inv hL).2).cut (hbl i b hi).2.2
    · exact hR1.al i b L (hbl i b hi).1 (Emb.cut_inv hL).2
  | panicked ch => obtain ⟨v, v', _, _, v2, h2, e1, _⟩ := hend; cases e1
  | outgrown => exact hend.elim
end
end Go.L

/-
  The logic L computed, part h: a run in parts: calls that have been computed before; what is garbage behind them is forgotten.
-/
namespace Go.L

/-- A call, what it gave. -/
structure Sm where
  f : FuncId
  args : List AV
  h : HT
  v : AV
  h' : HT

/-- A heap out of another one: some places set anew. -/
def updT (t : Tr (Option EB)) : List (Nat × Option EB) → Tr (Option EB)
  | [] => t
  | (i, b) :: r => updT (t.set i (some b)) r
def HT.upd (h : HT) (l : List (Nat × Option EB)) (n : Nat) : HT := ⟨updT h.t l, n⟩

/-- Of all places of a tree. -/
def allT {α : Type} (q : Nat → α → Bool) : Tr α → Nat → Nat → Bool
  | .nil, _, _ => true
  | .node l v r, a, m => (match v with
    | none => true
    | some x => q a x) && (allT q l (Nat.add a m) (Nat.mul 2 m) && allT q r (Nat.add a (Nat.mul 2 m)) (Nat.mul 2 m))
theorem allT_ok {α : Type} {q : Nat → α → Bool} : ∀ (t : Tr α) (a m i : Nat) (x : α), allT q t a m = true → t.get i = some x → q (a + m * i) x = true := by
  intro t
  induction t with
  | nil => intro a m i x _ h; rw [Tr.get_nil] at h; cases h
  | node l v r ihl ihr =>
    intro a m i x ht hi
    simp only [allT, Bool.and_eq_true] at ht
    rw [Tr.get_node] at hi
    split at hi
    · rename_i h0
      obtain rfl := Nat.eq_of_beq_eq_true h0
      subst hi
      rw [Nat.mul_zero, Nat.add_zero]; exact ht.1
    · rename_i h0
      have hi0 : i ≠ 0 := fun e => by subst e; cases h0
      split at hi
      · rename_i h4
        have h4' := Nat.eq_of_beq_eq_true h4
        have := ihl _ _ _ _ ht.2.1 hi
        have e : i = 2 * (i / 2) + 1 := by omega
        have e2 : a + m * i = Nat.add a m + Nat.mul 2 m * (i / 2) := by
          show a + m * i = a + m + 2 * m * (i / 2)
          conv => lhs; rw [e]
          rw [Nat.mul_add, Nat.mul_one, ← Nat.mul_assoc, Nat.mul_comm m 2]; omega
        rw [e2]; exact this
      · rename_i h4
        have h4' : i % 2 ≠ 1 := fun e => by rw [e] at h4; cases h4
        have := ihr _ _ _ _ ht.2.2 hi
        have e : i = 2 * (i / 2 - 1) + 2 := by omega
        have e2 : a + m * i = Nat.add a (Nat.mul 2 m) + Nat.mul 2 m * (i / 2 - 1) := by
          show a + m * i = a + 2 * m + 2 * m * (i / 2 - 1)
          conv => lhs; rw [e]
          rw [Nat.mul_add, ← Nat.mul_assoc, Nat.mul_comm m 2]; omega
        rw [e2]; exact this
theorem allT_get {α : Type} {q : Nat → α → Bool} {t : Tr α} {i : Nat} {x : α} (h : allT q t 0 1 = true) (hi : t.get i = some x) : q i x = true := by
  have := allT_ok t 0 1 i x h hi
  rwa [Nat.zero_add, Nat.one_mul] at this

/-- The numbers that are taken. -/
def uT (h : HT) (i : Nat) : Bool := (h.t.get i).isSome
/-- A heap that is a part of another one, whole in itself. -/
def partB (h1 h2 : HT) (i : Nat) : Option EB → Bool
  | none => true
  | some (.b x) => blkU (uT h2) x && (match h1.t.get i with
    | some (some b) => eqB (.b x) b
    | _ => false)
  | some (.l ..) => false
def partH (h2 h1 : HT) : Bool := allT (partB h1 h2) h2.t 0 1
def covU (h0 h2 : HT) : Bool := allT (fun i _ => uT h2 i) h0.t 0 1

def isSm (s : Sm) (r : Option (List CR)) : Bool :=
  match r with
  | some [.ret v h] => eqA v s.v && (idU (uT s.h') s.v && (partH s.h' h && covU s.h s.h'))
  | _ => false
def smOf (s : Sm) (f : FuncId) (args : List AV) (h : HT) : Option (List CR) :=
  match Nat.beq f s.f with
  | true => match eqL args s.args && eqH h s.h with
    | true => some [.ret s.v s.h']
    | false => none
  | false => none
def smsOf : List Sm → FuncId → List AV → HT → Option (List CR)
  | [], _, _, _ => none
  | s :: r, f, args, h => match smOf s f args h with
    | some l => some l
    | none => smsOf r f args h

/-- The calls, at most so deep; those that have been computed before are looked up. -/
def xMS (P : Program) (hb : FuncId → Bool) (codes : Tr FC) (loops : Nat) (ss : List Sm) : Nat → Run
  | 0 => ⟨fun _ _ _ => none, fun _ _ _ => none, fun _ _ _ _ => none⟩
  | d + 1 => ⟨fun f args h => match smsOf ss f args h with
      | some l => some l
      | none => xFun P hb codes loops (xMS P hb codes loops ss d) f args h, fun c e h => xC P hb (xMS P hb codes loops ss d) loops [] c e h, xDfr P hb codes loops (xMS P hb codes loops ss d)⟩

section
variable {P : Program} {hb : FuncId → Bool}

/-- Such a call is so. -/
def SmOK (P : Program) (s : Sm) : Prop := ∀ Q : Res → Hp → Prop, Q (.ret s.v) (s.h'.hp P) → CallL P s.f s.args (s.h.hp P) Q

theorem sm_ok {run : Run} (hrun : RunOK P run) {s : Sm} (hs : isSm s (run.call s.f s.args s.h) = true) : SmOK P s := by
  intro Q hQ
  unfold isSm at hs
  split at hs <;> first | cases hs | skip
  rename_i v h1 hc
  simp only [Bool.and_eq_true] at hs
  obtain ⟨hv, hid, hp, hcov⟩ := hs
  have e1 := eqA_ok _ hv
  subst e1
  refine CallL.shrink (hrun.call _ _ _ _ _ hc fun x hx => ?_)
  rw [List.mem_singleton] at hx
  subst hx
  refine ⟨_, s.h'.hp P, rfl, hQ, hid, fun i b hb => ?_, fun i hi => ?_⟩
  · have hb' : jn P (s.h'.t.get i) = some b := hb
    cases hg : s.h'.t.get i with
    | none => rw [hg] at hb'; cases hb'
    | some o =>
      have hq := allT_get hp hg
      cases o with
      | none => rw [hg] at hb'; cases hb'
      | some eb =>
        rw [hg] at hb'
        cases eb with
        | l n t ps c d st pend => cases hq
        | b x =>
          cases hb'
          simp only [partB, Bool.and_eq_true] at hq
          obtain ⟨h2, h3⟩ := hq
          split at h3
          · rename_i b' hg'
            have := eqB_ok h3
            subst this
            refine ⟨hp_at hg', hp_u hg, h2⟩
          · cases h3
  · have hi' : (s.h.t.get i).isSome = true := hi
    obtain ⟨x, hx⟩ := Option.isSome_iff_exists.1 hi'
    exact allT_get hcov hx

theorem smOf_ok {s : Sm} (hs : SmOK P s) {f : FuncId} {args : List AV} {h : HT} {l : List CR} {Q : Res → Hp → Prop} (hx : smOf s f args h = some l) (hl : ∀ x ∈ l, CRQ P Q x) : CallL P f args (h.hp P) Q := by
  unfold smOf at hx
  split at hx <;> first | cases hx | skip
  rename_i hf
  split at hx <;> cases hx
  rename_i ha
  simp only [Bool.and_eq_true] at ha
  obtain rfl := Nat.eq_of_beq_eq_true hf
  obtain rfl := eqL_ok _ ha.1
  obtain rfl := eqH_ok ha.2
  exact hs Q (hl _ (List.mem_singleton.2 rfl))
theorem smsOf_ok : ∀ {ss : List Sm}, (∀ s ∈ ss, SmOK P s) → ∀ {f : FuncId} {args : List AV} {h : HT} {l : List CR} {Q : Res → Hp → Prop}, smsOf ss f args h = some l → (∀ x ∈ l, CRQ P Q x) → CallL P f args (h.hp P) Q
  | [], _, _, _, _, _, _, hx, _ => by cases hx
  | s :: r, hs, f, args, h, l, Q, hx, hl => by
    simp only [smsOf] at hx
    split at hx
    · rename_i l' hl'; cases hx; exact smOf_ok (hs s List.mem_cons_self) hl' hl
    · exact smsOf_ok (fun s h => hs s (List.mem_cons_of_mem _ h)) hx hl

theorem xMS_ok {ss : List Sm} (hs : ∀ s ∈ ss, SmOK P s) {codes : Tr FC} {loops : Nat} (hk : CodesOK P codes) (hh : BodyOK P hb) : ∀ d, RunOK P (xMS P hb codes loops ss d) := by
  intro d
  induction d with
  | zero =>
    refine ⟨?_, ?_, ?_⟩
    · intro f args h l Q hx; cases hx
    · intro c e h l Q hx; cases hx
    · intro f args u h l Q hx; cases hx
  | succ d ih =>
    refine ⟨fun f args h l Q hx hl => ?_, fun c e h l Q hx hQ hl => xC_ok hh ih c e h l Q hx hQ hl, fun f args u h l Q hx hl => xDfr_ok hk hh ih hx hl⟩
    have hx : (match smsOf ss f args h with
      | some l => some l
      | none => xFun P hb codes loops (xMS P hb codes loops ss d) f args h) = some l := hx
    split at hx
    · rename_i l' hl'; cases hx; exact smsOf_ok hs hl' hl
    · exact xFun_ok hk hh ih hx hl

theorem runS_ok {codes : Tr FC} (hk : trOK (GoodFC P) codes id) {ss : List Sm} (hs : ∀ s ∈ ss, SmOK P s) (loops d : Nat) : RunOK P (xMS P (hbOf codes) codes loops ss d) := by
  refine xMS_ok hs (fun f c hc => ?_) (fun f hf => ?_) d
  · obtain ⟨fn, m, h1, h2, h3, _⟩ := trOK_get codes id f c hk hc
    exact ⟨fn, m, h1, h2, h3⟩
  · cases hc : codes.get f with
    | none => simp [hbOf, hc] at hf
    | some c =>
      obtain ⟨fn, m, h1, _, h3, h4⟩ := trOK_get codes id f c hk hc
      refine ⟨fn, h1, ?_, h4⟩
      obtain ⟨full, h3, _⟩ := cutF_inv h3
      unfold compF at h3
      split at h3
      · cases h3
      · rename_i c' hb; rw [hb]; rfl

/-- One more part. -/
theorem SmOK.of {codes : Tr FC} (hk : trOK (GoodFC P) codes id) {ss : List Sm} (hs : ∀ s ∈ ss, SmOK P s) {loops d : Nat} {s : Sm} (hx : isSm s ((xMS P (hbOf codes) codes loops ss d).call s.f s.args s.h) = true) : ∀ x ∈ s :: ss, SmOK P x := by
  intro x hxs
  rcases List.mem_cons.1 hxs with rfl | hxs
  · exact sm_ok (runS_ok hk hs loops d) hx
  · exact hs x hxs

/-- A closed run, its last part. -/
theorem CallL.ofRunS {codes : Tr FC} (hk : trOK (GoodFC P) codes id) {ss : List Sm} (hs : ∀ s ∈ ss, SmOK P s) {loops d : Nat} {f : FuncId} {args : List AV} {v : AV} (ha : args.all sc1 = true) (hv : scv v = true)
    (hx : (match (xMS P (hbOf codes) codes loops ss d).call f args HT.nil with | some l => l.all (isRet v) | none => false) = true) : PureL P f args v := by
  intro h
  split at hx <;> first | cases hx | skip
  rename_i l hr
  have k := (runS_ok hk hs loops d).call f args HT.nil l (fun r _ => ∃ x, r = .ret x ∧ scv x = true ∧ x = v) hr fun x hxl => by
    have h1 := List.all_eq_true.1 hx x hxl
    cases x with
    | ret x h' => have := eqA_ok _ h1; subst this; exact ⟨_, rfl, hv, rfl⟩
    | pan x h' => cases h1
  rw [HT.hp_nil] at k
  exact (CallL.closed ha (Q := fun x => x = v) k).mono fun r h' ⟨x, h1, h2, h3⟩ => ⟨by rw [h1, h2], h3⟩
end
end Go.L
