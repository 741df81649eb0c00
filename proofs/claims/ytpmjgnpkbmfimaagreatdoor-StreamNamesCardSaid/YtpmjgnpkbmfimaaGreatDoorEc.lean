/-
  The logic L computed, part c: tables of codes; a closed run serves in every heap.
-/
import Derived.Test.YtpmjgnpkbmfimaaGreatDoorEg
namespace Go.L

/-- A function's code is what the logic makes of it. -/
def GoodFC (P : Program) (f : FuncId) (c : FC) : Prop := ∃ fn m, P.funcs[f]? = some fn ∧ fn.ntmps = c.n ∧ cutF m (compF P fn) = some (c.c, c.r) ∧ (fn.name == "runtime.NumGoroutine") = false

def trOK {α : Type} (Q : Nat → α → Prop) : Tr α → (Nat → Nat) → Prop
  | .nil, _ => True
  | .node l v r, g => (match v with | none => True | some c => Q (g 0) c) ∧ trOK Q l (fun k => g (2 * k + 1)) ∧ trOK Q r (fun k => g (2 * k + 2))
theorem trOK_get {α : Type} {Q : Nat → α → Prop} : ∀ (t : Tr α) (g : Nat → Nat) (i : Nat) (c : α), trOK Q t g → t.get i = some c → Q (g i) c := by
  intro t
  induction t with
  | nil => intro g i c _ h; rw [Tr.get_nil] at h; cases h
  | node l v r ihl ihr =>
    intro g i c h hi
    obtain ⟨h1, h2, h3⟩ := h
    rw [Tr.get_node] at hi
    split at hi
    · rename_i h0
      obtain rfl := Nat.eq_of_beq_eq_true h0
      subst hi; exact h1
    · rename_i h0
      have hi0 : i ≠ 0 := fun e => by subst e; cases h0
      split at hi
      · rename_i h4
        have h4' := Nat.eq_of_beq_eq_true h4
        have := ihl _ _ _ h2 hi
        rwa [show 2 * (i / 2) + 1 = i by omega] at this
      · rename_i h4
        have h4' : i % 2 ≠ 1 := fun e => by rw [e] at h4; cases h4
        have := ihr _ _ _ h3 hi
        rwa [show 2 * (i / 2 - 1) + 2 = i by omega] at this

def hbOf (codes : Tr FC) (f : FuncId) : Bool := (codes.get f).isSome

theorem run_ok {P : Program} {codes : Tr FC} (h : trOK (GoodFC P) codes id) (loops d : Nat) : RunOK P (xM P (hbOf codes) codes loops d) := by
  refine xM_ok (fun f c hc => ?_) (fun f hf => ?_) d
  · obtain ⟨fn, m, h1, h2, h3, _⟩ := trOK_get codes id f c h hc
    exact ⟨fn, m, h1, h2, h3⟩
  · cases hc : codes.get f with
    | none => simp [hbOf, hc] at hf
    | some c =>
      obtain ⟨fn, m, h1, _, h3, h4⟩ := trOK_get codes id f c h hc
      refine ⟨fn, h1, ?_, h4⟩
      obtain ⟨full, h3, _⟩ := cutF_inv h3
      unfold compF at h3
      split at h3
      · cases h3
      · rename_i c' hb; rw [hb]; rfl

/-- Nothing in memory. -/
def sc1 : AV → Bool
  | .bool _ | .int _ _ | .flt _ _ | .str _ | .nilp | .nils | .nilm | .nilf | .nili => true
  | _ => false
def scv : AV → Bool
  | .tup vs => vs.all sc1
  | v => sc1 v
theorem sc1_VR {σ σ' : Emb} {M M' : Mem} {v : AV} {v' : Value} (h : sc1 v = true) (hv : VR σ M v v') : VR σ' M' v v' := by
  cases hv <;> first
    | (simp [sc1] at h; done)
    | exact .bool _
    | exact .int _ _
    | exact .flt _ _
    | exact .nilp
    | exact .nils
    | exact .nilm
    | exact .nilf
    | exact .nili
    | (exact .str _ _ ‹_›)
theorem scv_VR {σ σ' : Emb} {M M' : Mem} {v : AV} {v' : Value} (h : scv v = true) (hv : VR σ M v v') : VR σ' M' v v' := by
  have one : sc1 v = true → VR σ' M' v v' := fun h => sc1_VR h hv
  cases v <;> first | exact one h | skip
  rename_i vs
  obtain ⟨a, rfl, ha⟩ := hv.tup_inv
  refine VR.tup' ⟨ha.1, fun j x hx => ?_⟩
  obtain ⟨y, h1, h2⟩ := ha.2 j x hx
  exact ⟨y, h1, sc1_VR (List.all_eq_true.1 h x (List.mem_of_getElem? hx)) h2⟩

/-- A contract in the empty heap, of a call whose arguments and results are no memory: in every heap. -/
theorem CallL.closed {P : Program} {f : FuncId} {args : List AV} {h : Hp} {Q : AV → Prop} (ha : args.all sc1 = true) (k : CallL P f args Hp.nil fun r _ => ∃ v, r = .ret v ∧ scv v = true ∧ Q v) :
    CallL P f args h fun r h' => ∃ v, r = .ret v ∧ Q v ∧ h' = h := by
  constructor
  intro σ M w args' hR hA
  have hR0 : R P (fun _ => none) (fun B => (w.heap[B]?).map fun o => (o, 0)) Hp.nil w :=
    ⟨fun _ _ => rfl, (fun i b hi => by cases hi), (fun B o hB => by simp only [Option.map_eq_some_iff] at hB; obtain ⟨o', h1, rfl⟩ := hB; exact h1), (fun i b L hi => by cases hi), (fun i j bi bj Li Lj hi => by cases hi), (fun i b L hi => by cases hi), (fun i b L hi => by cases hi)⟩
  have hA0 : VRs (fun _ => none) (fun B => (w.heap[B]?).map fun o => (o, 0)) args args' := ⟨hA.1, fun j v hj => by
    obtain ⟨v', h1, h2⟩ := hA.2 j v hj
    exact ⟨v', h1, sc1_VR (List.all_eq_true.1 ha v (List.mem_of_getElem? hj)) h2⟩⟩
  refine (k.run _ _ w args' hR0 hA0).mono ?_
  rintro e w' ⟨σ', M', h', hE, hR', hend⟩
  have same : ∀ B, B < w.heap.size → w'.heap[B]? = w.heap[B]? := fun B hB => by
    have h1 : w.heap[B]? = some w.heap[B] := Array.getElem?_eq_getElem hB
    rw [h1]; exact hR'.mem B (w.heap[B], 0) (hE.m B _ (by simp only [h1, Option.map_some]))
  refine ⟨σ, M, h, ⟨σ.le_refl, M.le_refl, hE.size, hE.os, hE.tape, hE.output⟩, ⟨hR.fin, hR.dom, fun B o hB => ?_, hR.sep, hR.inj, fun i b L hi hL => ?_, hR.al⟩, ?_⟩
  · have := hR.mem B o hB
    rw [same B (Array.getElem?_eq_some_iff.1 this).1]; exact this
  · exact (hR.blk i b L hi hL).mono σ.le_refl M.le_refl (same _ (hR.placed hi hL))
  · cases e with
    | returned v' =>
      obtain ⟨v, hv, v1, e1, h1, h2⟩ := hend
      cases e1
      exact ⟨v, scv_VR h1 hv, v, rfl, h2, rfl⟩
    | panicked ch => obtain ⟨v, v', _, _, v1, e1, _⟩ := hend; cases e1
    | outgrown => exact hend

def isRet (v : AV) : CR → Bool
  | .ret x _ => eqA x v
  | .pan _ _ => false
/-- A closed run: computed once, it serves in every heap. -/
theorem CallL.ofRun {P : Program} {codes : Tr FC} (hk : trOK (GoodFC P) codes id) {loops d : Nat} {f : FuncId} {args : List AV} {v : AV} (ha : args.all sc1 = true) (hv : scv v = true)
    (hx : (match (xM P (hbOf codes) codes loops d).call f args HT.nil with | some l => l.all (isRet v) | none => false) = true) : PureL P f args v := by
  intro h
  split at hx <;> first | cases hx | skip
  rename_i l hr
  have k := (run_ok hk loops d).call f args HT.nil l (fun r _ => ∃ x, r = .ret x ∧ scv x = true ∧ x = v) hr fun x hxl => by
    have h1 := List.all_eq_true.1 hx x hxl
    cases x with
    | ret x h' => have := eqA_ok _ h1; subst this; exact ⟨_, rfl, hv, rfl⟩
    | pan x h' => cases h1
  rw [HT.hp_nil] at k
  exact (CallL.closed ha (Q := fun x => x = v) k).mono fun r h' ⟨x, h1, h2, h3⟩ => ⟨by rw [h1, h2], h3⟩
end Go.L
