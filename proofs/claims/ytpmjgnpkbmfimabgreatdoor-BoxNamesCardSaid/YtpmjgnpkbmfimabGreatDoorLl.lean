/-
  The logic L, part l: the operations that change memory; calls.
-/
import Derived.Test.YtpmjgnpkbmfimabGreatDoorLk
import Derived.RangeFuncCalls
namespace Go.L

/-- Cells cut into elements. -/
def chunk (z : Nat) : Nat → List AV → List (List AV)
  | 0, _ => []
  | n + 1, cs => cs.take z :: chunk z n (cs.drop z)

def rep (z : List AV) : Nat → List AV
  | 0 => []
  | n + 1 => z ++ rep z n

def mupdN (r : Option AV) (N : MapL → Nat → Prop) (a b : MapL) (c : Nat) : Prop :=
  match r with
  | some _ => N a c
  | none => N b (c + 1)

def tlook (t : Nat) : List (Nat × Nat) → Option Nat
  | [] => none
  | (u, f) :: r => match Nat.beq u t with
    | true => some f
    | false => tlook t r

/-- What the map holds at k, and since when. -/
def mgetB (k : AV) : MapL → Option (AV × Nat)
  | [] => none
  | x :: es => match sameK k x.1 with
    | some true => some (x.2.1, x.2.2)
    | _ => mgetB k es
/-- The map, its key at k written anew. -/
def mkey (k : AV) : MapL → MapL
  | [] => []
  | x :: es => match sameK k x.1 with
    | some true => (k, x.2.1, x.2.2) :: es
    | _ => x :: mkey k es
/-- The map with v at the entry that is there since b. -/
def mstamp (b : Nat) (v : AV) : MapL → MapL
  | [] => []
  | x :: es => match Nat.beq x.2.2 b with
    | true => (x.1, v, x.2.2) :: es
    | false => x :: mstamp b v es
/-- The map without k. -/
def mdrop (k : AV) : MapL → MapL
  | [] => []
  | x :: es => match sameK k x.1 with
    | some true => es
    | _ => x :: mdrop k es

/-- A function with a body of its own. -/
def HasBody (P : Program) (f : FuncId) : Prop := ∃ fn, P.funcs[f]? = some fn ∧ fn.body.isSome = true ∧ (fn.name == "runtime.NumGoroutine") = false

/-- One call of yield: a round of the loop that lies at block i. -/
structure RoundL (P : Program) (i : Nat) (args : List AV) (h : Hp) (Q : AV → Hp → Prop) : Prop where
  run : ∀ (σ : Emb) (M : Mem) (w : World) (args' : Array Value) (L : Loc), R P σ M h w → VRs σ M args args' → σ i = some L →
    ∃ fn tmps ca cb, (Instr.yield L.b args').run P w = .ok (.round L.b fn tmps ca cb) w ∧ RoundIn Fence.wide 0 P L.b fn tmps ca cb w fun e w' =>
      ∃ σ' M' h' v v', Ext σ M w σ' M' w' ∧ R P σ' M' h' w' ∧ e = .returned v' ∧ VR σ' M' v v' ∧ Q v h'
theorem RoundL.mono {P : Program} {i : Nat} {args : List AV} {h : Hp} {Q Q' : AV → Hp → Prop} (k : RoundL P i args h Q) (hq : ∀ v h', Q v h' → Q' v h') : RoundL P i args h Q' :=
  ⟨fun σ M w args' L hR hA hL => let ⟨fn, tmps, ca, cb, h1, h2⟩ := k.run σ M w args' L hR hA hL
    ⟨fn, tmps, ca, cb, h1, h2.mono fun _ _ ⟨σ', M', h', v, v', g1, g2, g3, g4, g5⟩ => ⟨σ', M', h', v, v', g1, g2, g3, g4, hq _ _ g5⟩⟩⟩

/-- A call that returns v and changes nothing. -/
def PureL (P : Program) (f : FuncId) (args : List AV) (v : AV) : Prop := ∀ h, CallL P f args h fun r h' => r = .ret v ∧ h' = h

theorem PureL.use {P : Program} {f : FuncId} {args : List AV} {v : AV} {h : Hp} {Q : Res → Hp → Prop} (k : PureL P f args v) (hq : Q (.ret v) h) : CallL P f args h Q :=
  (k h).mono fun r h' ⟨hr, hh⟩ => by rw [hr, hh]; exact hq

/-- All that h has, k has. -/
def Hp.le (h k : Hp) : Prop := ∀ i b, h i = some b → k i = some b
theorem Hp.le_refl (h : Hp) : h.le h := fun _ _ x => x
theorem Hp.le_trans {a b c : Hp} (h : a.le b) (k : b.le c) : a.le c := fun i x hx => k i x (h i x hx)
theorem Hp.le_set {h : Hp} {a : Nat} {b : Blk} (ha : h a = none) : h.le (h.set a b) := fun i x hx => by
  have : i ≠ a := fun e => by subst e; rw [ha] at hx; cases hx
  rw [Hp.set_ne this]; exact hx

/-- A call that returns v and changes nothing, in all heaps that have what h has. -/
def PureAt (P : Program) (f : FuncId) (args : List AV) (h : Hp) (v : AV) : Prop := ∀ h', h.le h' → CallL P f args h' fun r h'' => r = .ret v ∧ h'' = h'
theorem PureL.at {P : Program} {f : FuncId} {args : List AV} {v : AV} (k : PureL P f args v) (h : Hp) : PureAt P f args h v := fun h' _ => k h'
theorem PureAt.use {P : Program} {f : FuncId} {args : List AV} {v : AV} {h : Hp} {Q : Res → Hp → Prop} (k : PureAt P f args h v) (hq : Q (.ret v) h) : CallL P f args h Q :=
  (k h h.le_refl).mono fun r h' ⟨hr, hh⟩ => by rw [hr, hh]; exact hq

/-- A call that changes nothing that is there, in all heaps that have what h has; what it makes gets numbers from b on. -/
def PureAd (P : Program) (f : FuncId) (args : List AV) (h : Hp) (K : Nat) (V : Nat → AV) (B : Nat → Nat → Option Blk) : Prop :=
  ∀ h', h.le h' → ∀ b, (∀ i, i < K → Fresh h' (b + i)) → CallL P f args h' fun r h'' => r = .ret (V b) ∧ h'' = h'.adopt b K (B b)
theorem PureAd.use {P : Program} {f : FuncId} {args : List AV} {h : Hp} {K : Nat} {V : Nat → AV} {B : Nat → Nat → Option Blk} {md : Bool} {Q : Res → Hp → Prop} (k : PureAd P f args h K V B) (hq : allocK md h K fun b => Q (.ret (V b)) (h.adopt b K (B b))) :
    CallL P f args h Q := by
  obtain ⟨b, hb, hq⟩ := hq.one
  exact (k h h.le_refl b hb).mono fun r h' ⟨hr, hh⟩ => by rw [hr, hh]; exact hq

/-- The iterator may be dropped. -/
def orDel (i : Nat) (next : Hp → Prop) (h : Hp) : Prop := next h ∨ next (h.del i)
theorem orDel.mono {i : Nat} {f g : Hp → Prop} {h : Hp} (k : orDel i f h) (hfg : ∀ h, f h → g h) : orDel i g h := Or.imp (hfg _) (hfg _) k

def invOk (d : TypeDesc) (pr empty body : Bool) (name : String) : Bool :=
  empty && ((match d with | .pointer _ => pr | _ => !pr) && (body && name != "runtime.NumGoroutine"))
/-- The functions behind a method's name, of each type that has it plainly. -/
def invOf (P : Program) (name : String) (t : Nat) : Option (Nat × Nat) :=
  match P.info? t with
  | none => none
  | some i => match i.methods.find? (·.name == name) with
    | none => none
    | some m => match m.func with
      | none => none
      | some p => match P.underlying t with
        | none => none
        | some d => match P.funcs[p.1]? with
          | none => none
          | some fn => match invOk d p.2 m.path.isEmpty fn.body.isSome fn.name with
            | true => some (t, p.1)
            | false => none
def invTab (P : Program) (name : String) : List (Nat × Nat) := (List.range P.types.size).filterMap (invOf P name)

/-- An operation: 'next' is asked of what it gives, 'X' of what it panics with. -/
def LOp (P : Program) (md : Bool) (o : AOp) (e : Env) (h : Hp) (next : AV → Hp → Prop) (X : AV → Hp → Prop) : Prop :=
  match o with
  | .call f args => CallL P f (args.map (ev e)) h fun r h' => match r with
    | .ret v => next v h'
    | .pan v => X v h'
  | .st n x v => match ev e x with
    | .ptr b k q => ∃ T es cs, h b = some (.row T es) ∧ es[k]? = some cs ∧ notTup (ev e v) = true ∧ (ev e v).cells.length = n ∧ flat (ev e v).cells = true ∧ q + n ≤ cs.length ∧
        next (.tup []) (h.set b (.row T (es.set k (cs.take q ++ (ev e v).cells ++ cs.drop (q + n)))))
    | _ => False
  | .box T z x => notTup (ev e x) = true ∧ (ev e x).cells.length = z ∧ allocN md h fun i => next (.ptr i 0 0) (h.set i (.row T [(ev e x).cells]))
  | .bslice T z n zero parts => ∃ cs, lay e (rep zero n) parts = some cs ∧ allocN md h fun i => next (.slc i 0 n (some n)) (h.set i (.row T (chunk z n cs)))
  | .app T z by_ s x => LApp md T z by_ (ev e s) (ev e x) h next
  | .bslice0 T => next (.isl 0 []) h ∨ allocN md h fun i => next (.slc i 0 0 (some 0)) (h.set i (.row T []))
  | .callv x args => match ev e x with
    | .func (.func f) first cap => HasBody P f ∧ CallL P f (first ++ args.map (ev e) ++ cap) h fun r h' => match r with
      | .ret v => next v h'
      | .pan v => X v h'
    | .yld i => RoundL P i (args.map (ev e)) h next
    | .func (.method nm) [.ifc t v] [] => match tlook t (invTab P nm) with
      | some f => CallL P f (v :: args.map (ev e)) h fun r h' => match r with
        | .ret v => next v h'
        | .pan v => X v h'
      | none => False
    | _ => False
  | .nilm x => match ev e x with
    | .func (.func f) a b => next (.func (.func f) a b) h
    | .func (.method nm) [.ifc t v] [] => (tlook t (invTab P nm)).isSome = true ∧ next (.func (.method nm) [.ifc t v] []) h
    | _ => False
  | .clr T zero x => match ev e x with
    | .slc i k n _ => ∃ es, h i = some (.row T es) ∧ k + n ≤ es.length ∧ flat zero = true ∧ next (.tup []) (h.set i (.row T (es.take k ++ List.replicate n zero ++ es.drop (k + n))))
    | .nils => next (.tup []) h
    | .emp => next (.tup []) h
    | .isl _ es => es = [] ∧ next (.tup []) h
    | _ => False
  | .mkslice T _ by_ zero len cap => match ev e len, ev e cap with
    | .int _ l, .int _ c => ∃ l' c' : Nat, l = l' ∧ c = c' ∧ l' ≤ c' ∧ c' * by_ ≤ capMax ∧ c' ≤ capMax ∧ allocN md h fun i => next (.slc i 0 l' (some c')) (h.set i (.row T (List.replicate c' zero)))
    | _, _ => False
  | .appz T z by_ zero s n => match ev e n with
    | .int _ m => ∃ k : Nat, m = k ∧ k ≤ capMax ∧ k * by_ ≤ capMax ∧ LAppE md T z by_ (ev e s) (List.replicate k zero) h next
    | _ => False
  | .pan x => match ev e x with
    | .ifc t v => X (.ifc t v) h
    | _ => False
  | .mkmap => allocN md h fun i => next (.map i) (h.set i (.map [] 0))
  | .mupd m x k v => match ev e x with
    | .map i => ∃ es c, h i = some (.map es c) ∧ keyM m (ev e k) = true ∧ KeysLike (ev e k) es ∧
        ∀ r, r = mget (ev e k) es → mupdN r (fun es' c' => next (.tup []) (h.set i (.map es' c'))) (mmod (ev e k) (ev e v) es) (es ++ [(ev e k, ev e v, c)]) c
    | _ => False
  | .inv tab x args => match ev e x with
    | .ifc t v => match tlook t tab with
      | some f => CallL P f (v :: args.map (ev e)) h fun r h' => match r with
        | .ret v => next v h'
        | .pan v => X v h'
      | none => False
    | _ => False
  | .rngs x => match ev e x with
    | .str s => allocN md h fun i => next (.ptr i 0 0) (h.set i (.strIter s 0))
    | _ => False
  | .rngm x => match ev e x with
    | .map m => ∃ es c, h m = some (.map es c) ∧ allocN md h fun i => next (.ptr i 0 0) (h.set i (.mapIter (some m) c [] c))
    | .nilm => allocN md h fun i => next (.ptr i 0 0) (h.set i (.mapIter none 0 [] 0))
    | _ => False
  | .nxs x => match ev e x with
    | .ptr i 0 0 => ∃ s pos, h i = some (.strIter s pos) ∧ ∀ t, t = decide (pos < s.length) → match t with
      | true => ∀ r, r = Utf8.decode ⟨s.toArray⟩ pos → next (.tup [.bool true, .int .i64 pos, .int .i32 r.1]) (h.set i (.strIter s (pos + r.2)))
      | false => next (.tup [.bool false]) h
    | _ => False
  | .nxm x => match ev e x with
    | .ptr i 0 0 => ∃ m since seen stepped, h i = some (.mapIter m since seen stepped) ∧ match m with
      | none => orDel i (next (.tup [.bool false])) h
      | some m => ∃ es c, h m = some (.map es c) ∧ (seen = [] ∨ es = [] ∨ ∃ x ∈ es, x.2.2 < stepped) ∧
          ((∀ x ∈ es, x.2.2 ∉ seen → since ≤ x.2.2) → orDel i (next (.tup [.bool false])) h) ∧
          ∀ k v b, (k, v, b) ∈ es → b ∉ seen → next (.tup [.bool true, k, v]) (h.set i (.mapIter (some m) since (seen ++ [b]) c))
    | _ => False
  | .ment m z x k => match ev e x with
    | .map i => ∃ es c, h i = some (.map es c) ∧ keyM m (ev e k) = true ∧ KeysLike (ev e k) es ∧ ∀ r, r = mgetB (ev e k) es → match r with
      | some (v, b) => next (.tup [v, .int .i64 b]) (h.set i (.map (mkey (ev e k) es) c))
      | none => next (.tup [z, .int .i64 c]) (h.set i (.map (es ++ [(ev e k, z, c)]) (c + 1)))
    | _ => False
  | .mest x s v => match ev e x, ev e s with
    | .map i, .int _ n => ∃ es c b, h i = some (.map es c) ∧ n = (b : Nat) ∧ (∃ x ∈ es, x.2.2 = b) ∧ next (.tup []) (h.set i (.map (mstamp b (ev e v) es) c))
    | _, _ => False
  | .mdel m x k => match ev e x with
    | .map i => ∃ es c, h i = some (.map es c) ∧ keyM m (ev e k) = true ∧ KeysLike (ev e k) es ∧ next (.tup []) (h.set i (.map (mdrop (ev e k) es) c))
    | .nilm => keyM m (ev e k) = true ∧ next (.tup []) h
    | _ => False
  | .cas k x o n => match ev e x, ev e o, ev e n with
    | .ptr b j q, .int k1 a, .int k2 c => k1 = k ∧ k2 = k ∧ ∃ T es cs m, h b = some (.row T es) ∧ es[j]? = some cs ∧ cs[q]? = some (.int k m) ∧ ∀ t, t = (m == a) → match t with
      | true => next (.bool true) (h.set b (.row T (es.set j (cs.set q (.int k c)))))
      | false => next (.bool false) h
    | _, _, _ => False
  | .xadd k x y => match ev e x, ev e y with
    | .ptr b j q, .int k1 d => k1 = k ∧ ∃ T es cs m, h b = some (.row T es) ∧ es[j]? = some cs ∧ cs[q]? = some (.int k m) ∧ ∀ t, t = k.wrap (m + d) → next (.int k t) (h.set b (.row T (es.set j (cs.set q (.int k t)))))
    | _, _ => False
  | .cpy T z d s => match ev e d with
    | .slc i k n c => ∃ es src, h i = some (.row T es) ∧ srcEls h (ev e s) src ∧ src.length ≤ n ∧ (∀ cs ∈ src, cs.length = z) ∧ (∀ cs ∈ src, flat cs = true) ∧ k ≤ es.length ∧ (k + src.length ≤ es.length ∨ c = none) ∧
        next (.int .i64 src.length) (h.set i (.row T (es.take k ++ src ++ es.drop (k + src.length))))
    | _ => False
  | .mnz T x => match ev e x with
    | .int .i64 n => ∃ m : Nat, n = m ∧ m ≤ 281474976710656 ∧ allocN md h fun i => next (.slc i 0 m none) (h.set i (.row T []))
    | _ => False
  | .ustr T x n => match ev e x, ev e n with
    | .ptr i k 0, .int _ m => ∃ j : Nat, m = j ∧ match j with
      | 0 => next (.str []) h
      | _ => ∃ es s, h i = some (.row T es) ∧ k + j ≤ es.length ∧ j ≤ 9223372036854775807 ∧ bytesL ((es.drop k).take j) = some s ∧ next (.str s) (h.del i)
    | .nilp, .int _ m => m = 0 ∧ next (.str []) h
    | _, _ => False
  | .b2b x => match ev e x with
    | .slc i k n c => ∃ T es, h i = some (.row T es) ∧ 0 < n ∧ next (.slc i k n c) h
    | _ => False
  | .s2b T x => match ev e x with
    | .str s => allocN md h fun i => next (.slc i 0 s.length none) (h.set i (.row T (s.map fun b => [.int .u8 b.toNat])))
    | _ => False
  | .pcall f args => ∃ v, PureAt P f (args.map (ev e)) h v ∧ next v h
  | .acall f args => ∃ K V B, PureAd P f (args.map (ev e)) h K V B ∧ allocK md h K fun b => next (V b) (h.adopt b K (B b))
  | .acallv x args => match ev e x with
    | .func (.func f) first cap => HasBody P f ∧ ∃ K V B, PureAd P f (first ++ args.map (ev e) ++ cap) h K V B ∧ allocK md h K fun b => next (V b) (h.adopt b K (B b))
    | _ => False
  | .pcallv x args => match ev e x with
    | .func (.func f) first cap => HasBody P f ∧ ∃ v, PureAt P f (first ++ args.map (ev e) ++ cap) h v ∧ next v h
    | _ => False
  | .fslice _ z n zero parts => ∃ cs, lay e (rep zero n) parts = some cs ∧ next (.isl 0 (chunk z n cs)) h
  | o => LN o e h fun v => next v h

section
variable {P : Program} {ro : Option Nat} {md : Bool} {σ σ' : Emb} {M M' : Mem} {h : Hp} {w w' : World}

/-- A new block of one element. -/
theorem R.newBox (hR : R P σ M h w) {j : Nat} (hj : σ j = none) {T : TypeId} {i : TypeInfo} (hi : P.info? T = some i) {cs : List AV} (hl : cs.length = i.size) {A : Array Value} (hA : VRs σ M cs A) :
    R P (σ.set j ⟨w.heap.size, 0, A.size, i.size⟩) M (h.set j (.row T [cs])) (w.alloc (.cells A T)) := by
  have := hR.newRow hj hi (es := [cs]) (fun x hx => by simp at hx; subst hx; exact hl) (A := A) (rest := #[]) (by simpa using hA)
  simpa using this

theorem chunk_get {z : Nat} : ∀ (n : Nat) (cs : List AV) (k : Nat) (c : List AV), (chunk z n cs)[k]? = some c → k < n ∧ c = (cs.drop (k * z)).take z := by
  intro n
  induction n with
  | zero => intro cs k c h; simp [chunk] at h
  | succ n ih =>
    intro cs k c h
    cases k with
    | zero => simp [chunk] at h; exact ⟨by omega, by simp [h]⟩
    | succ k =>
      simp only [chunk, List.getElem?_cons_succ] at h
      obtain ⟨h1, h2⟩ := ih _ k c h
      refine ⟨by omega, ?_⟩
      rw [h2, List.drop_drop, Nat.add_mul, Nat.one_mul, Nat.add_comm z]
theorem chunk_len {z : Nat} : ∀ (n : Nat) (cs : List AV), (chunk z n cs).length = n := by
  intro n
  induction n with
  | zero => intro cs; rfl
  | succ n ih => intro cs; simp [chunk, ih]
theorem chunk_flatten {z : Nat} : ∀ (n : Nat) (cs : List AV), cs.length = n * z → (chunk z n cs).flatten = cs := by
  intro n
  induction n with
  | zero => intro cs h; have : cs = [] := List.eq_nil_of_length_eq_zero (by omega); simp [chunk, this]
  | succ n ih =>
    intro cs h
    simp only [chunk, List.flatten_cons]
    rw [ih _ (by rw [List.length_drop, h, Nat.add_mul]; omega), List.take_append_drop]
theorem rep_len {z : List AV} : ∀ n, (rep z n).length = n * z.length := by
  intro n
  induction n with
  | zero => simp [rep]
  | succ n ih => simp only [rep, List.length_append, ih, Nat.add_mul, Nat.one_mul]; omega
theorem lay_len {e : Env} : ∀ (ps : List (Nat × Nat × AOpd)) (cs r : List AV), lay e cs ps = some r → r.length = cs.length := by
  intro ps
  induction ps with
  | nil => intro cs r h; cases h; rfl
  | cons p ps ih =>
    intro cs r h
    obtain ⟨off, n, x⟩ := p
    simp only [lay] at h
    cases hb : (notTup (ev e x) && (Nat.beq (ev e x).cells.length n && Nat.ble (off + n) cs.length)) with
    | false => rw [hb] at h; cases h
    | true =>
      rw [hb, cond_true] at h
      simp only [Bool.and_eq_true, Nat.beq_eq, Nat.ble_eq] at hb
      rw [ih _ _ h]; simp; omega

theorem rep_VRs {z : List AV} {Z : Array Value} (hZ : VRs σ M z Z) : ∀ n, VRs σ M (rep z n) ((Array.range (n * Z.size)).map fun j => Z[j % Z.size]!) := by
  intro n
  induction n with
  | zero => simp only [rep, Nat.zero_mul]; exact ⟨by simp, fun j v h => by simp at h⟩
  | succ n ih =>
    have hs : Z.size = z.length := hZ.1
    refine ⟨by rw [rep_len]; simp [hs], fun j v hj => ?_⟩
    simp only [rep] at hj
    have get : ∀ N, j < N → ((Array.range N).map fun j => Z[j % Z.size]!)[j]? = some Z[j % Z.size]! := fun N hN => by simp [hN]
    by_cases hjz : j < z.length
    · rw [List.getElem?_append_left hjz] at hj
      obtain ⟨v', h1, h2⟩ := hZ.2 j v hj
      refine ⟨v', ?_, h2⟩
      rw [get _ (by rw [Nat.add_mul, Nat.one_mul]; omega), Nat.mod_eq_of_lt (by omega)]
      congr 1
      have : j < Z.size := by omega
      rw [getElem!_pos Z j this]
      rw [getElem?_pos Z j this] at h1
      cases h1; rfl
    · rw [List.getElem?_append_right (by omega)] at hj
      have hjl : j - z.length < n * z.length := by
        rcases Nat.lt_or_ge (j - z.length) (rep z n).length with hh | hh
        · rw [rep_len] at hh; exact hh
        · rw [List.getElem?_eq_none hh] at hj; cases hj
      obtain ⟨v', h1, h2⟩ := ih.2 _ v hj
      refine ⟨v', ?_, h2⟩
      rw [get _ (by rw [Nat.add_mul, Nat.one_mul, hs]; omega)]
      have g2 : ((Array.range (n * Z.size)).map fun j => Z[j % Z.size]!)[j - z.length]? = some Z[(j - z.length) % Z.size]! := by
        have : j - z.length < n * Z.size := by rw [hs]; exact hjl
        simp [this]
      rw [g2] at h1
      rw [← h1, ← hs]
      congr 2
      rw [show j = (j - Z.size) + Z.size by omega, Nat.add_mod_right]; simp
end

section
variable {P : Program} {ro : Option Nat} {md : Bool} {o : Oper} {e : Env} {h : Hp} {next X : AV → Hp → Prop} {σ : Emb} {M : Mem} {w : World} {a : Act}

/-- In a round as elsewhere, but for 'defer'. -/
theorem semAt_of {r : Next} {w' : World} (hr : (execOp a.eval o).run P w = .ok r w') (hd : ∀ d, r ≠ .defer d) : (o.semAt ro a.eval).run P w = .ok r w' := by
  rw [Oper.semAt_eq, hr]
  intro c hc
  simp only [execOp, hc, Sem.run_bind] at hr
  cases hq : (resolve a.eval c o.type).run P w with
  | ok d w1 => rw [hq] at hr; simp only [Result.andThen, Sem.run_pure, Result.ok.injEq] at hr; exact hd d hr.1.symm
  | halt x w1 => rw [hq] at hr; simp [Result.andThen] at hr
theorem callsIn_fw {f : FuncId} {args : Array Value} {R : Ending → World → Prop} (h : CallsIn Fence.wide 0 P f args w R) : CallsIn (fw ro) 0 P f args w R := by
  cases ro with
  | none => exact h
  | some l => exact h.inRound l
theorem wpIn_of_run {nx : Act → World → Prop} {Qx : Exit → Act → World → Prop} {v' : Value} {w' : World} (hr : (execOp a.eval o).run P w = .ok (.value v') w') (hn : nx (a.put o.dst v') w') :
    o.wpIn (fw ro) 0 P a w nx Qx := by
  refine ⟨fun _ _ => trivial, ?_⟩
  show Oper.uponIn _ _ _ _ _ _ _ ((o.semAt ro a.eval).run P w)
  rw [semAt_of hr (by simp)]; exact hn
theorem wpIn_of_skip {nx : Act → World → Prop} {Qx : Exit → Act → World → Prop} {w' : World} (hr : (execOp a.eval o).run P w = .ok .skip w') (hn : nx (a.put o.dst undef) w') :
    o.wpIn (fw ro) 0 P a w nx Qx := by
  refine ⟨fun _ _ => trivial, ?_⟩
  show Oper.uponIn _ _ _ _ _ _ _ ((o.semAt ro a.eval).run P w)
  rw [semAt_of hr (by simp)]; exact hn

/-- What is behind an operation: of any later state that stands for an abstract one. -/
def NextS (P : Program) (σ : Emb) (M : Mem) (w : World) (a : Act) (d : Option Nat) (next : AV → Hp → Prop) (nx : Act → World → Prop) : Prop :=
  ∀ σ' M' w' h' v v', Ext σ M w σ' M' w' → R P σ' M' h' w' → VR σ' M' v v' → next v h' → nx (a.put d v') w'
def PanS (P : Program) (σ : Emb) (M : Mem) (w : World) (a : Act) (X : AV → Hp → Prop) (Qx : Exit → Act → World → Prop) : Prop :=
  ∀ σ' M' w' h' v v', Ext σ M w σ' M' w' → R P σ' M' h' w' → VR σ' M' v v' → X v h' → Qx (.panic [{ v := v', recovered := false }]) a w'

variable {nx : Act → World → Prop} {Qx : Exit → Act → World → Prop}

theorem op_read (hR : R P σ M h w) (hA : ActR σ M e a) (hN : NextS P σ M w a o.dst next nx) (hv : ∃ v, next v h ∧ SemVal P o e h v) : o.wpIn (fw ro) 0 P a w nx Qx := by
  obtain ⟨v, hn, hs⟩ := hv
  obtain ⟨v', hr, hvr⟩ := hs σ M w a hR hA
  exact wpIn_of_run hr (hN σ M w h v v' (.refl _ _ _) hR hvr hn)

theorem op_call {f : FuncId} {args : Array Operand} {ts : Array TypeId} {fn : Func} (ho : o.op = .call { callee := .value (.func f), args, argTypes := ts }) (hf : P.funcs[f]? = some fn) (hb : fn.body.isSome = true)
    (hn : (fn.name == "runtime.NumGoroutine") = false) {args' : List AOpd} (hx : copds args.toList = some args') (hR : R P σ M h w) (hA : ActR σ M e a) (hN : NextS P σ M w a o.dst next nx) (hP : PanS P σ M w a X Qx)
    (hl : CallL P f (args'.map (ev e)) h fun r h' => match r with | .ret v => next v h' | .pan v => X v h') : o.wpIn (fw ro) 0 P a w nx Qx := by
  have hrun : (execOp a.eval o).run P w = .ok (.enter f (args.map a.eval)) w := by
    have hb' : fn.body.isNone = false := by cases hh : fn.body <;> simp_all
    have hc : (callFunc f (args.map a.eval)).run P w = .ok (.enter f (args.map a.eval)) w := by
      have hp : (program).run P w = .ok P w := rfl
      simp only [callFunc, Sem.run_bind, hp, Result.andThen, hf, hn, hb', Bool.false_eq_true, if_false, Sem.run_pure]
    simp [execOp, ho, resolve, Deferred.ofValue, Act.eval, invoke, hc]
  refine ⟨fun _ _ => trivial, ?_⟩
  show Oper.uponIn _ _ _ _ _ _ _ ((o.semAt ro a.eval).run P w)
  rw [semAt_of hrun (by simp)]
  refine ⟨fun h => by simp [fw, Fence.wide] at h, ?_⟩
  have hargs : VRs σ M (args'.map (ev e)) (args.map a.eval) := by
    have h1 := copds_ok hx hA
    have h2 : (args.toList.map a.eval).toArray = args.map a.eval := by rw [← Array.toList_map, Array.toArray_toList]
    rw [h2] at h1; exact h1
  refine callsIn_fw ((hl.run σ M w _ hR hargs).mono fun e' w' ⟨σ', M', h', hE, hR', hr⟩ => ?_)
  cases e' with
  | returned v' => obtain ⟨v, hv, hq⟩ := hr; exact hN σ' M' w' h' v v' hE hR' hv hq
  | panicked ch => obtain ⟨v, v', rfl, hv, hq⟩ := hr; exact hP σ' M' w' h' v v' hE hR' hv hq
  | outgrown => exact hr.elim

theorem op_st {t : TypeId} {x v : Operand} {i : TypeInfo} (ho : o.op = .store t x v) (hi : P.info? t = some i) {x' v' : AOpd} (hx : copd x = some x') (hv : copd v = some v') (hR : R P σ M h w) (hA : ActR σ M e a)
    (hN : NextS P σ M w a o.dst next nx) (hl : LOp P md (.st i.size x' v') e h next X) : o.wpIn (fw ro) 0 P a w nx Qx := by
  simp only [LOp] at hl
  split at hl <;> first | exact hl.elim | skip
  rename_i b k q hp
  obtain ⟨T, es, cs, hb, hk, hnt, hlen, hflat, hle, hn⟩ := hl
  have h1 := copd_ok hx hA
  rw [hp] at h1
  obtain ⟨L, hL, e1⟩ := h1.ptr_inv
  have h2 := (copd_ok hv hA).cells (fun l hl => by rw [hl] at hnt; cases hnt)
  obtain ⟨w1, g1, g2, g3⟩ := hR.store hb hk (by rw [hlen]; exact hle) hL h2 hflat
  have hsz : (a.eval v).cells.size = i.size := by rw [h2.1, hlen]
  have hrun : (execOp a.eval o).run P w = .ok .skip w1 := by
    simp [execOp, ho, Instr.storeAt, e1, Instr.sureAddr, storeVar, run_sizeOf' hi, hsz, g1]
  refine wpIn_of_skip hrun (hN σ M w1 _ (.tup []) undef g2 ?_ (VR.tup' .nil) hn)
  rw [hlen] at g3; exact g3

theorem op_box {t : TypeId} {x : Operand} {i : TypeInfo} (ho : o.op = .box t x) (hi : P.info? t = some i) {x' : AOpd} (hx : copd x = some x') (hR : R P σ M h w) (hA : ActR σ M e a)
    (hN : NextS P σ M w a o.dst next nx) (hl : LOp P md (.box t i.size x') e h next X) : o.wpIn (fw ro) 0 P a w nx Qx := by
  obtain ⟨hnt, hlen, hn⟩ := hl
  have h2 := (copd_ok hx hA).cells (fun l hl => by rw [hl] at hnt; cases hnt)
  obtain ⟨j, hj, hjn⟩ := hR.fresh hn
  have hrun : (execOp a.eval o).run P w = .ok (.value (.pointer (some ⟨w.heap.size, 0, none⟩))) (w.alloc (.cells (a.eval x).cells t)) := by
    simp [execOp, ho, Instr.box, newVar, newRow]
  refine wpIn_of_run hrun (hN _ M _ _ (.ptr j 0 0) _ (Ext.alloc hj) (hR.newBox hj hi hlen h2) ?_ hjn)
  have := VR.ptr (σ := σ.set j ⟨w.heap.size, 0, (a.eval x).cells.size, i.size⟩) (M := M) j 0 0 _ (Emb.set_same _ _ _)
  simpa using this

theorem op_alloc {t : TypeId} {i : TypeInfo} {z : Value} {z' : AV} (ho : o.op = .alloc t) (hi : P.info? t = some i) (hz : i.zero = some z) (hcv : cv z = some z') (hR : R P σ M h w)
    (hN : NextS P σ M w a o.dst next nx) (hl : LOp P md (.box t i.size (.c z')) e h next X) : o.wpIn (fw ro) 0 P a w nx Qx := by
  obtain ⟨hnt, hlen, hn⟩ := hl
  have h2 : VRs σ M z'.cells z.cells := (cv_ok hcv : VR σ M z' z).cells (fun l hl => by
    have : notTup z' = true := hnt
    rw [hl] at this; cases this)
  obtain ⟨j, hj, hjn⟩ := hR.fresh hn
  have hrun : (execOp a.eval o).run P w = .ok (.value (.pointer (some ⟨w.heap.size, 0, none⟩))) (w.alloc (.cells z.cells t)) := by
    simp [execOp, ho, Instr.alloc, newVar, newRow, zeroValue, run_typeInfo' hi, hz]
  refine wpIn_of_run hrun (hN _ M _ _ (.ptr j 0 0) _ (Ext.alloc hj) (hR.newBox hj hi hlen h2) ?_ hjn)
  have := VR.ptr (σ := σ.set j ⟨w.heap.size, 0, z.cells.size, i.size⟩) (M := M) j 0 0 _ (Emb.set_same _ _ _)
  simpa using this

theorem op_bslice {t el : TypeId} {n : Nat} {parts : Array (Nat × Operand)} {j : TypeInfo} {z : List AV} {ps : List (Nat × Nat × AOpd)} (ho : o.op = .buildSlice t n parts) (ht : P.underlying t = some (.slice el))
    (hj : P.info? el = some j) (hz : zcells P el = some z) (h24 : ¬ n * j.size > 2 ^ 24) (hzl : z.length = j.size) (hn0 : ¬ n * j.size = 0) (hps : cparts (fun i => some (i * j.size, j.size)) parts.toList = some ps)
    (hR : R P σ M h w) (hA : ActR σ M e a) (hN : NextS P σ M w a o.dst next nx) (hl : LOp P md (.bslice el j.size n z ps) e h next X) : o.wpIn (fw ro) 0 P a w nx Qx := by
  obtain ⟨cs, hcs, hn⟩ := hl
  obtain ⟨zv, hzr, hzv⟩ := zcells_ok hz w
  have hZ := hzv σ M
  have hzs : zv.cells.size = j.size := by rw [hZ.1, hzl]
  have hbase := rep_VRs hZ n
  rw [hzs] at hbase
  obtain ⟨A, hf, hA'⟩ := fill_lay hA _ _ hps _ _ _ hbase hcs
  have hcl : cs.length = n * j.size := by rw [lay_len _ _ _ hcs, rep_len, hzl]
  have hparts : (parts.map fun (i, x) => (i, a.eval x)).toList = parts.toList.map fun p => (p.1, a.eval p.2) := by rw [Array.toList_map]
  have hrun : (execOp a.eval o).run P w = .ok (.value (.slice (some ⟨w.heap.size, 0, none⟩) n n)) (w.alloc (.cells A el)) := by
    have hf' : Instr.fill (fun i => some (i * j.size, j.size)) ((Array.range (n * j.size)).map fun x => zv.cells[x % j.size]!) (parts.map fun (i, x) => (i, a.eval x)).toList = some A := by
      rw [hparts]; exact hf
    simp only [execOp, ho, Instr.buildSlice, Sem.run_bind, run_underlying ht, Result.andThen, run_sizeOf' hj, if_neg h24, if_neg hn0, hzr, Sem.run_pure, hzs, hf', newRow, newObj, Sem.run]
    rfl
  obtain ⟨i, hi, hin⟩ := hR.fresh hn
  have hall : ∀ c ∈ chunk j.size n cs, c.length = j.size := fun c hc => by
    obtain ⟨k, hk⟩ := List.getElem?_of_mem hc
    obtain ⟨h1, rfl⟩ := chunk_get n cs k c hk
    have : (k + 1) * j.size ≤ n * j.size := Nat.mul_le_mul_right _ h1
    rw [Nat.add_mul, Nat.one_mul] at this
    simp; omega
  have hN' := hR.newRow hi hj hall (A := A) (rest := #[]) (by rw [chunk_flatten n cs hcl]; exact hA')
  simp only [Array.append_empty] at hN'
  refine wpIn_of_run hrun (hN _ M _ _ (.slc i 0 n (some n)) _ (Ext.alloc hi) hN' ?_ hin)
  exact .slc i 0 n (some n) _ _ n (Emb.set_same _ _ _) (fun _ => by simp) (Nat.le_refl _) (fun _ h => by cases h; rfl) (fun h => by cases h)

theorem op_app {t u : TypeId} {s x : Operand} {ts : Array TypeId} (ho : o.op = .call { callee := .builtin .append, args := #[s, x], argTypes := ts }) (hts : ts = #[t, u]) {el : TypeId} {du : TypeDesc} {j : TypeInfo} {z : Value}
    (ht : P.underlying t = some (.slice el)) (hu : P.underlying u = some du) (hdu : ∀ k, du ≠ .int k) (hj : P.info? el = some j) (hz : j.zero = some z) (hj0 : 0 < j.size) (hzs : z.cells.size = j.size) {s' x' : AOpd}
    (hs : copd s = some s') (hx : copd x = some x') (hR : R P σ M h w) (hA : ActR σ M e a) (hN : NextS P σ M w a o.dst next nx) (hl : LOp P md (.app el j.size j.bytes s' x') e h next X) : o.wpIn (fw ro) 0 P a w nx Qx := by
  obtain ⟨v', w', hrun, σ', M', h', v, hE, hR', hv, hn⟩ := app_ok hR (ty := o.type) ht hu hdu hj hj0 hz hzs (copd_ok hs hA) (copd_ok hx hA) hl
  refine wpIn_of_run (v' := v') (w' := w') ?_ (hN σ' M' w' h' v v' hE hR' hv hn)
  subst hts
  simp [execOp, ho, resolve, invoke, builtin, hrun]
end
end Go.L
