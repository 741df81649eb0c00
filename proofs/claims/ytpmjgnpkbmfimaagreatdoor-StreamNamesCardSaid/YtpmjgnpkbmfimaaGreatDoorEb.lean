/-
  The logic L computed, part b: operations that change memory; code; functions.
-/
import Derived.Test.YtpmjgnpkbmfimaaGreatDoorEa
namespace Go.L

/-! ## Memory -/

/-- A block, as it is computed with. -/
inductive EB where
  | b (x : Blk)
  | l (n : Nat) (t : Tr AV) (ps : List Nat) (a b : ACode) (st : LSt) (pend : Option Jmp)
def EB.bk (P : Program) : EB → Blk
  | .b x => x
  | .l n t ps c d st pend => loopB P n (fun x => (t.get x).getD (.tup [])) ps c d st pend

/-- A heap, as a tree: a number that is taken and has no block: some none. n: the next number. -/
structure HT where
  t : Tr (Option EB)
  n : Nat
def jn (P : Program) : Option (Option EB) → Option Blk
  | some (some b) => some (b.bk P)
  | _ => none
theorem Tr.cof {α : Type} : ∀ (t : Tr α), ∃ n, ∀ i, n ≤ i → t.get i = none
  | .nil => ⟨0, fun _ _ => Tr.get_nil _⟩
  | .node l v r => by
    obtain ⟨a, ha⟩ := Tr.cof l
    obtain ⟨b, hb⟩ := Tr.cof r
    refine ⟨2 * (a + b) + 3, fun i hi => ?_⟩
    rw [Tr.get_node]
    have h0 : Nat.beq i 0 = false := by
      cases h : Nat.beq i 0 with
      | false => rfl
      | true => have := Nat.eq_of_beq_eq_true h; omega
    rw [h0]
    simp only
    split
    · exact ha _ (by omega)
    · exact hb _ (by omega)
def HT.hp (P : Program) (s : HT) : Hp where
  m := fun i => jn P (s.t.get i)
  u := fun i => (s.t.get i).isSome
  ok := fun i hi => by
    cases h : s.t.get i with
    | none => rfl
    | some x => rw [h] at hi; cases hi
  cof := let ⟨n, hn⟩ := s.t.cof; ⟨n, fun i hi => by rw [hn i hi]; rfl⟩
def HT.set (s : HT) (i : Nat) (b : EB) : HT := ⟨s.t.set i (some (some b)), Nat.max s.n (i + 1)⟩
def HT.del (s : HT) (i : Nat) : HT := match s.t.get i with
  | none => s
  | some _ => ⟨s.t.set i (some none), s.n⟩
def HT.nil : HT := ⟨.nil, 0⟩
section
variable {P : Program}
theorem HT.hp_set (s : HT) (i : Nat) (b : EB) : (s.set i b).hp P = (s.hp P).set i (b.bk P) := by
  refine Hp.ext (fun j => ?_) (fun j => ?_)
  · show jn P ((s.t.set i (some (some b))).get j) = if j = i then some (b.bk P) else jn P (s.t.get j)
    rw [Tr.get_set]; split <;> rfl
  · show ((s.t.set i (some (some b))).get j).isSome = if j = i then true else (s.t.get j).isSome
    rw [Tr.get_set]; split <;> rfl
theorem HT.hp_del (s : HT) (i : Nat) : (s.del i).hp P = (s.hp P).del i := by
  unfold HT.del
  split
  · rename_i h0
    refine Hp.ext (fun j => ?_) (fun j => rfl)
    show jn P (s.t.get j) = if j = i then none else jn P (s.t.get j)
    by_cases e : j = i
    · subst e; rw [h0]; simp [jn]
    · rw [if_neg e]
  · rename_i x h0
    refine Hp.ext (fun j => ?_) (fun j => ?_)
    · show jn P ((s.t.set i (some none)).get j) = if j = i then none else jn P (s.t.get j)
      rw [Tr.get_set]; split <;> rfl
    · show ((s.t.set i (some none)).get j).isSome = (s.t.get j).isSome
      rw [Tr.get_set]; split
      · rename_i e; rw [e, h0]; rfl
      · rfl
theorem HT.hp_nil : HT.nil.hp P = Hp.nil := by
  refine Hp.ext (fun i => ?_) (fun i => ?_)
  · show jn P ((Tr.nil : Tr (Option EB)).get i) = none
    rw [Tr.get_nil]; rfl
  · show ((Tr.nil : Tr (Option EB)).get i).isSome = false
    rw [Tr.get_nil]; rfl
end

inductive Chg where
  | set (i : Nat) (b : Blk)
  | del (i : Nat)
def Hp.chg (h : Hp) : List Chg → Hp
  | [] => h
  | .set i b :: r => Hp.chg (h.set i b) r
  | .del i :: r => Hp.chg (h.del i) r
def HT.chg (h : HT) : List Chg → HT
  | [] => h
  | .set i b :: r => HT.chg (h.set i (.b b)) r
  | .del i :: r => HT.chg (h.del i) r
theorem HT.hp_chg {P : Program} : ∀ (l : List Chg) (s : HT), (s.chg l).hp P = (s.hp P).chg l
  | [], _ => rfl
  | .set i b :: r, s => by rw [HT.chg, Hp.chg, HT.hp_chg r, HT.hp_set]; rfl
  | .del i :: r, s => by rw [HT.chg, Hp.chg, HT.hp_chg r, HT.hp_del]

abbrev EO := Option (AV × List Chg)
def guardE (c : Bool) (v : EO) : EO := match c with | true => v | false => none
theorem guardE_some {c : Bool} {o : EO} {v : AV × List Chg} (h : guardE c o = some v) : c = true ∧ o = some v := by
  cases c
  · cases h
  · exact ⟨rfl, h⟩

def capOk (n by_ : Nat) : Bool := Nat.ble (n * by_) 140737488355328 && Nat.ble n 140737488355328
theorem capOk_ok {n b : Nat} (h : capOk n b = true) : n * b ≤ capMax ∧ n ≤ capMax := by
  simp only [capOk, Bool.and_eq_true] at h
  exact ⟨Nat.le_of_ble_eq_true h.1, Nat.le_of_ble_eq_true h.2⟩

def eApp (nx : Nat) (T : TypeId) (z by_ : Nat) (s : AV) (es' : List (List AV)) (h : Hp) : EO :=
  guardE (!(h.u nx) && es'.all fun cs => Nat.beq cs.length z)
  (match s with
  | .nils => match es' with
    | [] => some (.nils, [])
    | _ => guardE (capOk es'.length by_) (some (.slc nx 0 es'.length none, [.set nx (.row T es')]))
  | .emp => match es' with
    | [] => some (.emp, [])
    | _ => guardE (capOk es'.length by_) (some (.slc nx 0 es'.length none, [.set nx (.row T es')]))
  | .slc i k n none => match h i with
    | some (.row T' es) => guardE (Nat.beq T' T && (Nat.ble (k + n) es.length && es'.all flat))
      (match es' with
      | [] => some (.slc i k n none, [])
      | _ => guardE (capOk (n + es'.length) by_) (some (.slc nx 0 (n + es'.length) none, [.del i, .set nx (.row T ((es.drop k).take n ++ es'))])))
    | _ => none
  | .slc i k n (some c) => match h i with
    | some (.row T' es) => guardE (Nat.beq T' T && (Nat.ble (k + n) es.length && es'.all flat))
      (match Nat.ble (n + es'.length) c with
      | true => guardE (Nat.ble (k + n + es'.length) es.length) (some (.slc i k (n + es'.length) (some c), [.set i (.row T (es.take (k + n) ++ es' ++ es.drop (k + n + es'.length)))]))
      | false => guardE (capOk (n + es'.length) by_) (some (.slc nx 0 (n + es'.length) none, [.set nx (.row T ((es.drop k).take n ++ es'))])))
    | _ => none
  | _ => none)

theorem eApp_ok {nx : Nat} {T : TypeId} {z b : Nat} {s : AV} {es' : List (List AV)} {h : Hp} {v : AV} {l : List Chg} {next : AV → Hp → Prop} (hv : eApp nx T z b s es' h = some (v, l)) (hn : next v (h.chg l)) :
    LAppE true T z b s es' h next := by
  unfold eApp at hv
  have hg := guardE_some hv
  clear hv
  obtain ⟨h1, hv⟩ := hg
  simp only [Bool.and_eq_true, Bool.not_eq_true'] at h1
  have hfr : Fresh h nx := ⟨h1.1, h.ok nx h1.1⟩
  refine ⟨fun cs hcs => Nat.eq_of_beq_eq_true (List.all_eq_true.1 h1.2 cs hcs), ?_⟩
  have fl : es'.all flat = true → ∀ cs ∈ es', flat cs = true := fun h cs hcs => List.all_eq_true.1 h cs hcs
  cases s <;> simp only at hv <;> first | (cases hv; done) | skip
  case nils =>
    cases es' with
    | nil => cases hv; exact .inl ⟨rfl, hn⟩
    | cons a r =>
      obtain ⟨h2, hv⟩ := guardE_some hv; cases hv
      exact .inr ⟨by simp, (capOk_ok h2).1, (capOk_ok h2).2, nx, hfr, hn⟩
  case emp =>
    cases es' with
    | nil => cases hv; exact .inl ⟨rfl, hn⟩
    | cons a r =>
      obtain ⟨h2, hv⟩ := guardE_some hv; cases hv
      exact .inr ⟨by simp, (capOk_ok h2).1, (capOk_ok h2).2, nx, hfr, hn⟩
  case slc i k n c =>
    cases c with
    | none =>
      simp only at hv
      split at hv <;> first | cases hv | skip
      rename_i T' es hb
      obtain ⟨h2, hv⟩ := guardE_some hv
      simp only [Bool.and_eq_true] at h2
      obtain rfl := Nat.eq_of_beq_eq_true h2.1
      refine ⟨es, hb, Nat.le_of_ble_eq_true h2.2.1, fl h2.2.2, ?_⟩
      cases es' with
      | nil => cases hv; exact .inl ⟨rfl, hn⟩
      | cons a r =>
        obtain ⟨h3, hv⟩ := guardE_some hv; cases hv
        exact .inr ⟨by simp, (capOk_ok h3).1, (capOk_ok h3).2, nx, hfr, hn⟩
    | some c =>
      simp only at hv
      split at hv <;> first | cases hv | skip
      rename_i T' es hb
      obtain ⟨h2, hv⟩ := guardE_some hv
      simp only [Bool.and_eq_true] at h2
      obtain rfl := Nat.eq_of_beq_eq_true h2.1
      refine ⟨es, hb, Nat.le_of_ble_eq_true h2.2.1, fl h2.2.2, ?_⟩
      split at hv
      · rename_i hc
        obtain ⟨h3, hv⟩ := guardE_some hv; cases hv
        exact .inl ⟨Nat.le_of_ble_eq_true hc, Nat.le_of_ble_eq_true h3, hn⟩
      · rename_i hc
        obtain ⟨h3, hv⟩ := guardE_some hv; cases hv
        refine .inr ⟨?_, (capOk_ok h3).1, (capOk_ok h3).2, nx, hfr, hn⟩
        rcases Nat.lt_or_ge c (n + es'.length) with hh | hh
        · exact hh
        · rw [Nat.ble_eq_true_of_le hh] at hc; cases hc

/-- An operation that changes memory. -/
def eE_st (nx : Nat) (n : Nat) (x : AOpd) (v : AOpd) (e : Env) (h : Hp) : EO :=
  match ev e x with
  | .ptr b k q => match h b with
    | some (.row T es) => match es[k]? with
      | some cs => guardE (notTup (ev e v) && (Nat.beq (ev e v).cells.length n && (flat (ev e v).cells && Nat.ble (q + n) cs.length)))
          (some (.tup [], [.set b (.row T (es.set k (cs.take q ++ (ev e v).cells ++ cs.drop (q + n))))]))
      | none => none
    | _ => none
  | _ => none

def eE_box (nx : Nat) (T : TypeId) (z : Nat) (x : AOpd) (e : Env) (h : Hp) : EO :=
  guardE (!(h.u nx) && (notTup (ev e x) && Nat.beq (ev e x).cells.length z)) (some (.ptr nx 0 0, [.set nx (.row T [(ev e x).cells])]))

def eE_bslice (nx : Nat) (T : TypeId) (z : Nat) (n : Nat) (zero : List AV) (parts : List (Nat × Nat × AOpd)) (e : Env) (h : Hp) : EO :=
  match lay e (rep zero n) parts with
  | some cs => guardE (!(h.u nx)) (some (.slc nx 0 n (some n), [.set nx (.row T (chunk z n cs))]))
  | none => none

def eE_app (nx : Nat) (T : TypeId) (z : Nat) (by_ : Nat) (s : AOpd) (x : AOpd) (e : Env) (h : Hp) : EO :=
  match eSrc h (ev e x) with
  | some es' => eApp nx T z by_ (ev e s) es' h
  | none => none

def eE_bslice0 (nx : Nat) (T : TypeId) (e : Env) (h : Hp) : EO :=
  guardE (!(h.u nx)) (some (.slc nx 0 0 (some 0), [.set nx (.row T [])]))

def eE_clr (nx : Nat) (T : TypeId) (zero : List AV) (x : AOpd) (e : Env) (h : Hp) : EO :=
  match ev e x with
  | .slc i k n _ => match h i with
    | some (.row T' es) => guardE (Nat.beq T' T && (Nat.ble (k + n) es.length && flat zero)) (some (.tup [], [.set i (.row T (es.take k ++ List.replicate n zero ++ es.drop (k + n)))]))
    | _ => none
  | .nils => some (.tup [], [])
  | .emp => some (.tup [], [])
  | .isl _ es => guardE es.isEmpty (some (.tup [], []))
  | _ => none

def eE_mkslice (nx : Nat) (T : TypeId) (_ : Nat) (by_ : Nat) (zero : List AV) (len : AOpd) (cap : AOpd) (e : Env) (h : Hp) : EO :=
  match nat? (ev e len), nat? (ev e cap) with
  | some l, some c => guardE (!(h.u nx) && (Nat.ble l c && capOk c by_)) (some (.slc nx 0 l (some c), [.set nx (.row T (List.replicate c zero))]))
  | _, _ => none

def eE_appz (nx : Nat) (T : TypeId) (z : Nat) (by_ : Nat) (zero : List AV) (s : AOpd) (n : AOpd) (e : Env) (h : Hp) : EO :=
  match nat? (ev e n) with
  | some k => guardE (capOk k by_) (eApp nx T z by_ (ev e s) (List.replicate k zero) h)
  | none => none

def eE_fslice (nx : Nat) (_ : TypeId) (z : Nat) (n : Nat) (zero : List AV) (parts : List (Nat × Nat × AOpd)) (e : Env) (h : Hp) : EO :=
  match lay e (rep zero n) parts with
  | some cs => some (.isl 0 (chunk z n cs), [])
  | none => none

def eE_mupd (nx : Nat) (m : MK) (x : AOpd) (k : AOpd) (v : AOpd) (e : Env) (h : Hp) : EO :=
  match ev e x with
  | .map i => match h i with
    | some (.map es c) => guardE (keyM m (ev e k) && eKeys (ev e k) es)
        (match mget (ev e k) es with
        | some _ => some (.tup [], [.set i (.map (mmod (ev e k) (ev e v) es) c)])
        | none => some (.tup [], [.set i (.map (es ++ [(ev e k, ev e v, c)]) (c + 1))]))
    | _ => none
  | _ => none

def eE_rngs (nx : Nat) (x : AOpd) (e : Env) (h : Hp) : EO :=
  match ev e x with
  | .str s => guardE (!(h.u nx)) (some (.ptr nx 0 0, [.set nx (.strIter s 0)]))
  | _ => none

def eE_rngm (nx : Nat) (x : AOpd) (e : Env) (h : Hp) : EO :=
  match ev e x with
  | .map m => match h m with
    | some (.map _ c) => guardE (!(h.u nx)) (some (.ptr nx 0 0, [.set nx (.mapIter (some m) c [] c)]))
    | _ => none
  | .nilm => guardE (!(h.u nx)) (some (.ptr nx 0 0, [.set nx (.mapIter none 0 [] 0)]))
  | _ => none

def eE_nxs (nx : Nat) (x : AOpd) (e : Env) (h : Hp) : EO :=
  match ev e x with
  | .ptr i 0 0 => match h i with
    | some (.strIter s pos) => match decide (pos < s.length) with
      | true => some (.tup [.bool true, .int .i64 pos, .int .i32 (Utf8.decode ⟨s.toArray⟩ pos).1], [.set i (.strIter s (pos + (Utf8.decode ⟨s.toArray⟩ pos).2))])
      | false => some (.tup [.bool false], [])
    | _ => none
  | _ => none

def eE_ment (nx : Nat) (m : MK) (z : AV) (x : AOpd) (k : AOpd) (e : Env) (h : Hp) : EO :=
  match ev e x with
  | .map i => match h i with
    | some (.map es c) => guardE (keyM m (ev e k) && eKeys (ev e k) es)
        (match mgetB (ev e k) es with
        | some (v, b) => some (.tup [v, .int .i64 b], [.set i (.map (mkey (ev e k) es) c)])
        | none => some (.tup [z, .int .i64 c], [.set i (.map (es ++ [(ev e k, z, c)]) (c + 1))]))
    | _ => none
  | _ => none

def eE_mest (nx : Nat) (x : AOpd) (s : AOpd) (v : AOpd) (e : Env) (h : Hp) : EO :=
  match ev e x, nat? (ev e s) with
  | .map i, some b => match h i with
    | some (.map es c) => guardE (es.any fun x => Nat.beq x.2.2 b) (some (.tup [], [.set i (.map (mstamp b (ev e v) es) c)]))
    | _ => none
  | _, _ => none

def eE_mdel (nx : Nat) (m : MK) (x : AOpd) (k : AOpd) (e : Env) (h : Hp) : EO :=
  match ev e x with
  | .map i => match h i with
    | some (.map es c) => guardE (keyM m (ev e k) && eKeys (ev e k) es) (some (.tup [], [.set i (.map (mdrop (ev e k) es) c)]))
    | _ => none
  | .nilm => guardE (keyM m (ev e k)) (some (.tup [], []))
  | _ => none

def eE_cas (nx : Nat) (k : IntKind) (x : AOpd) (o : AOpd) (n : AOpd) (e : Env) (h : Hp) : EO :=
  match ev e x, ev e o, ev e n with
  | .ptr b j q, .int k1 a, .int k2 c => match h b with
    | some (.row T es) => match es[j]? with
      | some cs => match cs[q]? with
        | some (.int k3 m) => guardE (ikeq k1 k && (ikeq k2 k && ikeq k3 k))
          (match m == a with
          | true => some (.bool true, [.set b (.row T (es.set j (cs.set q (.int k c))))])
          | false => some (.bool false, []))
        | _ => none
      | none => none
    | _ => none
  | _, _, _ => none

def eE_xadd (nx : Nat) (k : IntKind) (x : AOpd) (y : AOpd) (e : Env) (h : Hp) : EO :=
  match ev e x, ev e y with
  | .ptr b j q, .int k1 d => match h b with
    | some (.row T es) => match es[j]? with
      | some cs => match cs[q]? with
        | some (.int k3 m) => guardE (ikeq k1 k && ikeq k3 k) (some (.int k (k.wrap (m + d)), [.set b (.row T (es.set j (cs.set q (.int k (k.wrap (m + d))))))]))
        | _ => none
      | none => none
    | _ => none
  | _, _ => none

def eE_cpy (nx : Nat) (T : TypeId) (z : Nat) (d : AOpd) (sr : AOpd) (e : Env) (h : Hp) : EO :=
  match ev e d with
  | .slc i k n c => match h i with
    | some (.row T' es) => match eSrc h (ev e sr) with
      | some src => guardE (Nat.beq T' T && (Nat.ble src.length n && ((src.all fun cs => Nat.beq cs.length z && flat cs) && (Nat.ble k es.length && (Nat.ble (k + src.length) es.length || c.isNone)))))
          (some (.int .i64 src.length, [.set i (.row T (es.take k ++ src ++ es.drop (k + src.length)))]))
      | none => none
    | _ => none
  | _ => none

def eE_mnz (nx : Nat) (T : TypeId) (x : AOpd) (e : Env) (h : Hp) : EO :=
  match ev e x with
  | .int .i64 n => guardE (!(h.u nx) && (decide (0 ≤ n) && Nat.ble n.toNat 281474976710656)) (some (.slc nx 0 n.toNat none, [.set nx (.row T [])]))
  | _ => none

def eE_ustr (nx : Nat) (T : TypeId) (x : AOpd) (n : AOpd) (e : Env) (h : Hp) : EO :=
  match ev e x, nat? (ev e n) with
  | .ptr i k 0, some j => match j with
    | 0 => some (.str [], [])
    | j + 1 => match h i with
      | some (.row T' es) => guardE (Nat.beq T' T && (Nat.ble (k + (j + 1)) es.length && Nat.ble (j + 1) 9223372036854775807))
        (match bytesL ((es.drop k).take (j + 1)) with
        | some s => some (.str s, [.del i])
        | none => none)
      | _ => none
  | .nilp, some j => match j with
    | 0 => some (.str [], [])
    | _ => none
  | _, _ => none

def eE_b2b (nx : Nat) (x : AOpd) (e : Env) (h : Hp) : EO :=
  match ev e x with
  | .slc i k n c => match h i with
    | some (.row _ _) => guardE (Nat.blt 0 n) (some (.slc i k n c, []))
    | _ => none
  | _ => none

def eE_s2b (nx : Nat) (T : TypeId) (x : AOpd) (e : Env) (h : Hp) : EO :=
  match ev e x with
  | .str s => guardE (!(h.u nx)) (some (.slc nx 0 s.length none, [.set nx (.row T (s.map fun b => [.int .u8 b.toNat]))]))
  | _ => none

def eE (nx : Nat) (o : AOp) (e : Env) (h : Hp) : EO :=
  match o with
  | .st n x v => eE_st nx n x v e h
  | .box T z x => eE_box nx T z x e h
  | .bslice T z n zero parts => eE_bslice nx T z n zero parts e h
  | .app T z by_ s x => eE_app nx T z by_ s x e h
  | .bslice0 T => eE_bslice0 nx T e h
  | .clr T zero x => eE_clr nx T zero x e h
  | .mkslice T y1 by_ zero len cap => eE_mkslice nx T y1 by_ zero len cap e h
  | .appz T z by_ zero s n => eE_appz nx T z by_ zero s n e h
  | .fslice y0 z n zero parts => eE_fslice nx y0 z n zero parts e h
  | .mkmap => guardE (!(h.u nx)) (some (.map nx, [.set nx (.map [] 0)]))
  | .mupd m x k v => eE_mupd nx m x k v e h
  | .rngs x => eE_rngs nx x e h
  | .rngm x => eE_rngm nx x e h
  | .nxs x => eE_nxs nx x e h
  | .ment m z x k => eE_ment nx m z x k e h
  | .mest x s v => eE_mest nx x s v e h
  | .mdel m x k => eE_mdel nx m x k e h
  | .cas k x o n => eE_cas nx k x o n e h
  | .xadd k x y => eE_xadd nx k x y e h
  | .cpy T z d sr => eE_cpy nx T z d sr e h
  | .mnz T x => eE_mnz nx T x e h
  | .ustr T x n => eE_ustr nx T x n e h
  | .b2b x => eE_b2b nx x e h
  | .s2b T x => eE_s2b nx T x e h
  | o => match eN o e h with
    | some v => guardE (isN o) (some (v, []))
    | none => none

theorem eE_ok {P : Program} {nx : Nat} {o : AOp} {e : Env} {h : Hp} {v : AV} {l : List Chg} {next : AV → Hp → Prop} {X : AV → Hp → Prop} (hv : eE nx o e h = some (v, l)) (hn : next v (h.chg l)) : LOp P true o e h next X := by
  have fr : h.u nx = false → Fresh h nx := fun hu => ⟨hu, h.ok nx hu⟩
  have rd : ∀ {o : AOp}, (match eN o e h with | some v => guardE (isN o) (some (v, ([] : List Chg))) | none => none) = some (v, l) → LN o e h fun v => next v h := by
    intro o hv
    split at hv <;> first | cases hv | skip
    rename_i v' hv'
    obtain ⟨_, hv⟩ := guardE_some hv; cases hv
    exact eN_ok hv' hn
  cases o <;> simp only [eE, eE_st, eE_box, eE_bslice, eE_app, eE_bslice0, eE_clr, eE_mkslice, eE_appz, eE_fslice, eE_mupd, eE_rngs, eE_rngm, eE_nxs, eE_ment, eE_mest, eE_mdel, eE_cas, eE_xadd, eE_cpy, eE_mnz, eE_ustr, eE_b2b, eE_s2b] at hv <;> first | (have k := rd hv; exact k) | skip
  case mov x => exact rd (o := .mov x) hv
  case mkifc t x => exact rd (o := .mkifc t x) hv
  case mkfn f a c => exact rd (o := .mkfn f a c) hv
  case call f a => exact (rd (o := .call f a) hv).elim
  case callv f a => exact (rd (o := .callv f a) hv).elim
  case pan x => exact (rd (o := .pan x) hv).elim
  case bad => exact (rd (o := .bad) hv).elim
  case pcall f a => exact (rd (o := .pcall f a) hv).elim
  case pcallv x a => exact (rd (o := .pcallv x a) hv).elim
  case acall f a => exact (rd (o := .acall f a) hv).elim
  case mkm nm a => exact rd (o := .mkm nm a) hv
  case nilm x => exact (rd (o := .nilm x) hv).elim
  case acallv x a => exact (rd (o := .acallv x a) hv).elim
  case st n x v' =>
    split at hv <;> first | cases hv | skip
    rename_i b k q h1
    split at hv <;> first | cases hv | skip
    rename_i T es hb
    split at hv <;> first | cases hv | skip
    rename_i cs hcs
    obtain ⟨h2, hv⟩ := guardE_some hv; cases hv
    simp only [Bool.and_eq_true] at h2
    simp only [LOp, h1]
    exact ⟨T, es, cs, hb, hcs, h2.1, Nat.eq_of_beq_eq_true h2.2.1, h2.2.2.1, Nat.le_of_ble_eq_true h2.2.2.2, hn⟩
  case box T z x =>
    obtain ⟨h2, hv⟩ := guardE_some hv; cases hv
    simp only [Bool.and_eq_true] at h2
    exact ⟨h2.2.1, Nat.eq_of_beq_eq_true h2.2.2, nx, fr (by simpa using h2.1), hn⟩
  case bslice T z n zero parts =>
    split at hv <;> first | cases hv | skip
    rename_i cs hcs
    obtain ⟨h2, hv⟩ := guardE_some hv; cases hv
    exact ⟨cs, hcs, nx, fr (by simpa using h2), hn⟩
  case app T z by_ s x =>
    split at hv <;> first | cases hv | skip
    rename_i es' hes
    exact ⟨es', eSrc_ok hes, eApp_ok hv hn⟩
  case bslice0 T => obtain ⟨h2, hv⟩ := guardE_some hv; cases hv; exact .inr ⟨nx, fr (by simpa using h2), hn⟩
  case clr T zero x =>
    split at hv <;> first | cases hv | skip
    · rename_i i k n c h1
      split at hv <;> first | cases hv | skip
      rename_i T' es hb
      obtain ⟨h2, hv⟩ := guardE_some hv; cases hv
      simp only [Bool.and_eq_true] at h2
      obtain rfl := Nat.eq_of_beq_eq_true h2.1
      simp only [LOp, h1]
      exact ⟨es, hb, Nat.le_of_ble_eq_true h2.2.1, h2.2.2, hn⟩
    · rename_i h1; simp only [LOp, h1]; exact hn
    · rename_i h1; simp only [LOp, h1]; exact hn
    · rename_i es h1
      obtain ⟨h2, hv⟩ := guardE_some hv; cases hv
      simp only [LOp, h1]; exact ⟨by simpa using h2, hn⟩
  case mkslice T z by_ zero len cap =>
    split at hv <;> first | cases hv | skip
    rename_i l' c' h1 h2
    obtain ⟨h3, hv⟩ := guardE_some hv; cases hv
    obtain ⟨K1, h1⟩ := nat?_ok h1
    obtain ⟨K2, h2⟩ := nat?_ok h2
    simp only [Bool.and_eq_true] at h3
    simp only [LOp, h1, h2]
    exact ⟨l', c', rfl, rfl, Nat.le_of_ble_eq_true h3.2.1, (capOk_ok h3.2.2).1, (capOk_ok h3.2.2).2, nx, fr (by simpa using h3.1), hn⟩
  case appz T z by_ zero s n =>
    split at hv <;> first | cases hv | skip
    rename_i k h1
    obtain ⟨h3, hv⟩ := guardE_some hv
    obtain ⟨K1, h1⟩ := nat?_ok h1
    simp only [LOp, h1]
    exact ⟨k, rfl, (capOk_ok h3).2, (capOk_ok h3).1, eApp_ok hv hn⟩
  case mkmap => obtain ⟨h2, hv⟩ := guardE_some hv; cases hv; exact ⟨nx, fr (by simpa using h2), hn⟩
  case fslice T z n zero parts =>
    split at hv <;> cases hv
    rename_i cs hcs
    exact ⟨cs, hcs, hn⟩
  case mupd m x k v' =>
    split at hv <;> first | cases hv | skip
    rename_i i h1
    split at hv <;> first | cases hv | skip
    rename_i es c hb
    obtain ⟨h2, hv⟩ := guardE_some hv
    simp only [Bool.and_eq_true] at h2
    simp only [LOp, h1]
    refine ⟨es, c, hb, h2.1, eKeys_ok h2.2, fun r hr => ?_⟩
    rw [hr]
    split at hv <;> cases hv <;> rename_i h3 <;> rw [h3] <;> exact hn
  case rngs x =>
    split at hv <;> first | cases hv | skip
    rename_i s h1
    obtain ⟨h2, hv⟩ := guardE_some hv; cases hv
    simp only [LOp, h1]; exact ⟨nx, fr (by simpa using h2), hn⟩
  case rngm x =>
    split at hv <;> first | cases hv | skip
    · rename_i m h1
      split at hv <;> first | cases hv | skip
      rename_i es c hb
      obtain ⟨h2, hv⟩ := guardE_some hv; cases hv
      simp only [LOp, h1]; exact ⟨es, c, hb, nx, fr (by simpa using h2), hn⟩
    · rename_i h1
      obtain ⟨h2, hv⟩ := guardE_some hv; cases hv
      simp only [LOp, h1]; exact ⟨nx, fr (by simpa using h2), hn⟩
  case nxs x =>
    split at hv <;> first | cases hv | skip
    rename_i i h1
    split at hv <;> first | cases hv | skip
    rename_i s pos hb
    simp only [LOp, h1]
    refine ⟨s, pos, hb, fun t ht => ?_⟩
    rw [ht]
    split at hv <;> cases hv <;> rename_i h3 <;> rw [h3]
    · intro r hr; rw [hr]; exact hn
    · exact hn
  case nxm x => exact (rd (o := .nxm x) hv).elim
  case inv t x a => exact (rd (o := .inv t x a) hv).elim
  case cpy T z d sr =>
    split at hv <;> first | cases hv | skip
    rename_i i k n c h1
    split at hv <;> first | cases hv | skip
    rename_i T' es hb
    split at hv <;> first | cases hv | skip
    rename_i src hsrc
    obtain ⟨h2, hv⟩ := guardE_some hv; cases hv
    simp only [Bool.and_eq_true, Bool.or_eq_true] at h2
    obtain ⟨h2, h3, h4, h5, h6⟩ := h2
    obtain rfl := Nat.eq_of_beq_eq_true h2
    simp only [LOp, h1]
    have h4' : ∀ cs ∈ src, cs.length = z ∧ flat cs = true := fun cs hcs => by
      have := List.all_eq_true.1 h4 cs hcs
      simp only [Bool.and_eq_true] at this
      exact ⟨Nat.eq_of_beq_eq_true this.1, this.2⟩
    exact ⟨es, src, hb, eSrc_ok hsrc, Nat.le_of_ble_eq_true h3, fun cs hcs => (h4' cs hcs).1, fun cs hcs => (h4' cs hcs).2, Nat.le_of_ble_eq_true h5, h6.imp Nat.le_of_ble_eq_true (fun h => by simpa using h), hn⟩
  case mnz T x =>
    split at hv <;> first | cases hv | skip
    rename_i n h1
    obtain ⟨h2, hv⟩ := guardE_some hv; cases hv
    simp only [Bool.and_eq_true, decide_eq_true_eq] at h2
    simp only [LOp, h1]
    exact ⟨n.toNat, by omega, Nat.le_of_ble_eq_true h2.2.2, nx, fr (by simpa using h2.1), hn⟩
  case ustr T x n =>
    split at hv <;> first | cases hv | skip
    · rename_i i k j h1 h2
      obtain ⟨K, hK⟩ := nat?_ok h2
      simp only [LOp, h1, hK]
      refine ⟨j, rfl, ?_⟩
      cases j with
      | zero => cases hv; exact hn
      | succ j =>
        simp only at hv
        split at hv <;> first | cases hv | skip
        rename_i T' es hb
        obtain ⟨h3, hv⟩ := guardE_some hv
        split at hv <;> cases hv
        rename_i s hs
        simp only [Bool.and_eq_true] at h3
        obtain rfl := Nat.eq_of_beq_eq_true h3.1
        exact ⟨es, s, hb, Nat.le_of_ble_eq_true h3.2.1, Nat.le_of_ble_eq_true h3.2.2, hs, hn⟩
    · rename_i j h1 h2
      obtain ⟨K, hK⟩ := nat?_ok h2
      cases j with
      | zero => cases hv; simp only [LOp, h1, hK]; exact ⟨rfl, hn⟩
      | succ j => cases hv
  case b2b x =>
    split at hv <;> first | cases hv | skip
    rename_i i k n c h1
    split at hv <;> first | cases hv | skip
    rename_i T es hb
    obtain ⟨h2, hv⟩ := guardE_some hv; cases hv
    simp only [LOp, h1]; exact ⟨T, es, hb, Nat.le_of_ble_eq_true h2, hn⟩
  case s2b T x =>
    split at hv <;> first | cases hv | skip
    rename_i s h1
    obtain ⟨h2, hv⟩ := guardE_some hv; cases hv
    simp only [LOp, h1]; exact ⟨nx, fr (by simpa using h2), hn⟩
  case ment m z x k =>
    split at hv <;> first | cases hv | skip
    rename_i i h1
    split at hv <;> first | cases hv | skip
    rename_i es c hb
    obtain ⟨h2, hv⟩ := guardE_some hv
    simp only [Bool.and_eq_true] at h2
    simp only [LOp, h1]
    refine ⟨es, c, hb, h2.1, eKeys_ok h2.2, fun r hr => ?_⟩
    rw [hr]
    split at hv <;> cases hv <;> rename_i h3 <;> rw [h3] <;> exact hn
  case mest x s v' =>
    split at hv <;> first | cases hv | skip
    rename_i i b h1 h2
    split at hv <;> first | cases hv | skip
    rename_i es c hb
    obtain ⟨h3, hv⟩ := guardE_some hv; cases hv
    obtain ⟨K, hK⟩ := nat?_ok h2
    obtain ⟨y, hy, hyb⟩ := List.any_eq_true.1 h3
    simp only [LOp, h1, hK]
    exact ⟨es, c, b, hb, rfl, ⟨y, hy, Nat.eq_of_beq_eq_true hyb⟩, hn⟩
  case mdel m x k =>
    split at hv <;> first | cases hv | skip
    · rename_i i h1
      split at hv <;> first | cases hv | skip
      rename_i es c hb
      obtain ⟨h2, hv⟩ := guardE_some hv; cases hv
      simp only [Bool.and_eq_true] at h2
      simp only [LOp, h1]; exact ⟨es, c, hb, h2.1, eKeys_ok h2.2, hn⟩
    · rename_i h1
      obtain ⟨h2, hv⟩ := guardE_some hv; cases hv
      simp only [LOp, h1]; exact ⟨h2, hn⟩
  case cas k x o n =>
    split at hv <;> first | cases hv | skip
    rename_i b j q k1 a k2 c h1 h2 h3
    split at hv <;> first | cases hv | skip
    rename_i T es hb
    split at hv <;> first | cases hv | skip
    rename_i cs hcs
    split at hv <;> first | cases hv | skip
    rename_i k3 m hq
    obtain ⟨h4, hv⟩ := guardE_some hv
    simp only [Bool.and_eq_true] at h4
    obtain rfl := ikeq_ok h4.1
    obtain rfl := ikeq_ok h4.2.1
    obtain rfl := ikeq_ok h4.2.2
    simp only [LOp, h1, h2, h3]
    refine ⟨trivial, trivial, T, es, cs, m, hb, hcs, hq, fun t ht => ?_⟩
    rw [ht]
    split at hv <;> cases hv <;> rename_i h5 <;> rw [h5] <;> exact hn
  case xadd k x y =>
    split at hv <;> first | cases hv | skip
    rename_i b j q k1 d h1 h2
    split at hv <;> first | cases hv | skip
    rename_i T es hb
    split at hv <;> first | cases hv | skip
    rename_i cs hcs
    split at hv <;> first | cases hv | skip
    rename_i k3 m hq
    obtain ⟨h4, hv⟩ := guardE_some hv; cases hv
    simp only [Bool.and_eq_true] at h4
    obtain rfl := ikeq_ok h4.1
    obtain rfl := ikeq_ok h4.2
    simp only [LOp, h1, h2]
    exact ⟨trivial, T, es, cs, m, hb, hcs, hq, fun t ht => by rw [ht]; exact hn⟩

/-- What an operation is to the evaluator: it reads; it changes memory; else. -/
inductive XOp where
  | n (f : Env → Hp → Option AV)
  | e (f : Nat → Env → Hp → EO)
  | o

def prepOp : AOp → XOp
  | .mov x => .n (fun e h => some (ev e x))
  | .pick c a b => .n (eN_pick c a b)
  | .bini op x y => .n (eN_bini op x y)
  | .bins op x y => .n (eN_bins op x y)
  | .binb op x y => .n (fun e h => eBinB op (ev e x) (ev e y))
  | .not x => .n (eN_not x)
  | .neg x => .n (eN_neg x)
  | .lens x => .n (eN_lens x)
  | .lenl x => .n (eN_lenl x)
  | .ext i x => .n (eN_ext i x)
  | .fld off x => .n (eN_fld off x)
  | .flda off n x => .n (eN_flda off n x)
  | .conv k x => .n (eN_conv k x)
  | .idxs x i => .n (eN_idxs x i)
  | .slcs x lo hi => .n (eN_slcs x lo hi)
  | .iaddr T z x i => .n (eN_iaddr T z x i)
  | .faddr off x => .n (eN_faddr off x)
  | .nilc x => .n (eN_nilc x)
  | .ld1 x => .n (eN_ld1 x)
  | .lda n x => .n (eN_lda n x)
  | .mkifc t x => .n (fun e h => some (.ifc t (ev e x)))
  | .mkfn f first cap => .n (fun e h => some (.func (.func f) (first.map (ev e)) (cap.map (ev e))))
  | .slcl T z x lo hi mx => .n (eN_slcl T z x lo hi mx)
  | .isnil k neg x => .n (eN_isnil k neg x)
  | .capk x => .n (eN_capk x)
  | .convs x => .n (eN_convs x)
  | .xcount x c => .n (eN_xcount x c)
  | .xindex x c => .n (eN_xindex x c)
  | .mn x y => .n (eN_mn x y)
  | .mx x y => .n (eN_mx x y)
  | .mlook m z ok x k => .n (eN_mlook m z ok x k)
  | .mlen x => .n (eN_mlen x)
  | .build zero parts => .n (eN_build zero parts)
  | .tass T ok z x => .n (eN_tass T ok z x)
  | .entr x => .n (eN_entr x)
  | .upc x => .n (eN_upc x)
  | .upt T x => .n (eN_upt T x)
  | .peq neg x y => .n (eN_peq neg x y)
  | .adr n z x i => .n (eN_adr n z x i)
  | .aeq neg ks x y => .n (eN_aeq neg ks x y)
  | .mkm nm first => .n (fun e h => some (.func (.method nm) (first.map (ev e)) []))
  | .xcmp x y => .n (eN_xcmp x y)
  | .cpl x => .n (eN_cpl x)
  | .usd x => .n (eN_usd x)
  | .rac x => .n (eN_rac x)
  | .b2s x => .n (eN_b2s x)
  | .st n x v => .e (fun nx => eE_st nx n x v)
  | .box T z x => .e (fun nx => eE_box nx T z x)
  | .bslice T z n zero parts => .e (fun nx => eE_bslice nx T z n zero parts)
  | .app T z by_ s x => .e (fun nx => eE_app nx T z by_ s x)
  | .bslice0 T => .e (fun nx => eE_bslice0 nx T)
  | .clr T zero x => .e (fun nx => eE_clr nx T zero x)
  | .mkslice T y1 by_ zero len cap => .e (fun nx => eE_mkslice nx T y1 by_ zero len cap)
  | .appz T z by_ zero s n => .e (fun nx => eE_appz nx T z by_ zero s n)
  | .fslice y0 z n zero parts => .e (fun nx => eE_fslice nx y0 z n zero parts)
  | .mkmap => .e (fun nx e h => guardE (!(h.u nx)) (some (.map nx, [.set nx (.map [] 0)])))
  | .mupd m x k v => .e (fun nx => eE_mupd nx m x k v)
  | .rngs x => .e (fun nx => eE_rngs nx x)
  | .rngm x => .e (fun nx => eE_rngm nx x)
  | .nxs x => .e (fun nx => eE_nxs nx x)
  | .ment m z x k => .e (fun nx => eE_ment nx m z x k)
  | .mest x s v => .e (fun nx => eE_mest nx x s v)
  | .mdel m x k => .e (fun nx => eE_mdel nx m x k)
  | .cas k x o n => .e (fun nx => eE_cas nx k x o n)
  | .xadd k x y => .e (fun nx => eE_xadd nx k x y)
  | .cpy T z d sr => .e (fun nx => eE_cpy nx T z d sr)
  | .mnz T x => .e (fun nx => eE_mnz nx T x)
  | .ustr T x n => .e (fun nx => eE_ustr nx T x n)
  | .b2b x => .e (fun nx => eE_b2b nx x)
  | .s2b T x => .e (fun nx => eE_s2b nx T x)
  | _ => .o

theorem prepN_ok {o : AOp} {f : Env → Hp → Option AV} (h : prepOp o = .n f) : isN o = true ∧ ∀ e h, f e h = eN o e h := by
  cases o <;> cases h <;> exact ⟨rfl, fun _ _ => rfl⟩
theorem prepE_ok {o : AOp} {f : Nat → Env → Hp → EO} (h : prepOp o = .e f) : ∀ nx e h, f nx e h = eE nx o e h := by
  cases o <;> cases h <;> exact fun _ _ _ => rfl

/-! ## Frozen -/

def fzM (f : AV → Option AV) : List AV → Option (List AV)
  | [] => some []
  | v :: l => match f v with
    | some v' => match fzM f l with
      | some l' => some (v' :: l')
      | none => none
    | none => none
def fzMM (f : AV → Option AV) : List (List AV) → Option (List (List AV))
  | [] => some []
  | c :: l => match fzM f c with
    | some c' => match fzMM f l with
      | some l' => some (c' :: l')
      | none => none
    | none => none

/-- What a value is, frozen. -/
def fzV (p : Nat → Bool) (g : Nat) (h : Hp) : Nat → AV → Option AV
  | 0, _ => none
  | n + 1, v => match v with
    | .slc i k m _ => match h i with
      | some (.row _ es) => match Nat.ble (k + m) es.length with
        | true => match fzMM (fzV p g h n) ((es.drop k).take m) with
          | some es' => some (.isl g es')
          | none => none
        | false => none
      | _ => none
    | .ptr i k o => match h i with
      | some (.row _ es) => match es[k]? with
        | some cs => match fzM (fzV p g h n) cs with
          | some cs' => some (.iptr g cs' o)
          | none => none
        | none => none
      | _ => none
    | .isl g0 es => match noidss p es && p g0 with
      | true => some (.isl g0 es)
      | false => match p g0 with
        | true => match fzMM (fzV p g h n) es with
          | some es' => some (.isl g0 es')
          | none => none
        | false => none
    | .iptr g0 cs o => match noids p cs && p g0 with
      | true => some (.iptr g0 cs o)
      | false => match p g0 with
        | true => match fzM (fzV p g h n) cs with
          | some cs' => some (.iptr g0 cs' o)
          | none => none
        | false => none
    | .agg cs => match fzM (fzV p g h n) cs with
      | some cs' => some (.agg cs')
      | none => none
    | .tup cs => match fzM (fzV p g h n) cs with
      | some cs' => some (.tup cs')
      | none => none
    | .ifc t v => match fzV p g h n v with
      | some v' => some (.ifc t v')
      | none => none
    | .func fn a b => match fzM (fzV p g h n) a, fzM (fzV p g h n) b with
      | some a', some b' => some (.func fn a' b')
      | _, _ => none
    | v => match noid p v with
      | true => some v
      | false => none

theorem fzM_ok {f : AV → Option AV} : ∀ {l l' : List AV}, fzM f l = some l' → l'.length = l.length ∧ ∀ (q : Nat) (v v' : AV), l[q]? = some v → l'[q]? = some v' → f v = some v' := by
  intro l
  induction l with
  | nil => intro l' h; cases h; exact ⟨rfl, fun q v v' h => by simp at h⟩
  | cons a l ih =>
    intro l' h
    unfold fzM at h
    split at h <;> first | cases h | skip
    rename_i x hx
    split at h <;> cases h
    rename_i r hr
    obtain ⟨h1, h2⟩ := ih hr
    refine ⟨by simp [h1], fun q v v' hv hv' => ?_⟩
    cases q with
    | zero => simp at hv hv'; subst hv; subst hv'; exact hx
    | succ q => exact h2 q v v' (by simpa using hv) (by simpa using hv')
theorem fzMM_ok {f : AV → Option AV} : ∀ {l l' : List (List AV)}, fzMM f l = some l' → l'.length = l.length ∧ ∀ (q : Nat) (c c' : List AV), l[q]? = some c → l'[q]? = some c' → fzM f c = some c' := by
  intro l
  induction l with
  | nil => intro l' h; cases h; exact ⟨rfl, fun q v v' h => by simp at h⟩
  | cons a l ih =>
    intro l' h
    unfold fzMM at h
    split at h <;> first | cases h | skip
    rename_i x hx
    split at h <;> cases h
    rename_i r hr
    obtain ⟨h1, h2⟩ := ih hr
    refine ⟨by simp [h1], fun q v v' hv hv' => ?_⟩
    cases q with
    | zero => simp at hv hv'; subst hv; subst hv'; exact hx
    | succ q => exact h2 q v v' (by simpa using hv) (by simpa using hv')

theorem fzV_ok {p : Nat → Bool} {g : Nat} {h : Hp} : ∀ (n : Nat) (v v' : AV), fzV p g h n v = some v' → Fz p g h v v' := by
  intro n
  induction n with
  | zero => intro v v' hv; cases hv
  | succ n ih =>
    intro v v' hv
    have pw : ∀ {l l' : List AV}, fzM (fzV p g h n) l = some l' → l'.length = l.length ∧ ∀ (q : Nat) (v v' : AV), l[q]? = some v → l'[q]? = some v' → Fz p g h v v' := fun hl =>
      ⟨(fzM_ok hl).1, fun q v v' h1 h2 => ih v v' ((fzM_ok hl).2 q v v' h1 h2)⟩
    unfold fzV at hv
    split at hv
    · rename_i i k m c
      split at hv <;> first | cases hv | skip
      rename_i T es hi
      split at hv <;> first | cases hv | skip
      rename_i hkm
      split at hv <;> cases hv
      rename_i es' hes
      have hkm' := Nat.le_of_ble_eq_true hkm
      obtain ⟨h1, h2⟩ := fzMM_ok hes
      have hlen : es'.length = m := by rw [h1]; simp; omega
      have get : ∀ (j : Nat) (cs cs' : List AV), es[k + j]? = some cs → es'[j]? = some cs' → fzM (fzV p g h n) cs = some cs' := fun j cs cs' hc hc' => by
        refine h2 j cs cs' ?_ hc'
        have : j < m := by rw [← hlen]; exact (List.getElem?_eq_some_iff.1 hc').1
        rw [List.getElem?_take_of_lt this, List.getElem?_drop]; exact hc
      exact .slc i k m c T es es' hi hkm' hlen (fun j cs cs' hc hc' => (fzM_ok (get j cs cs' hc hc')).1) fun j cs cs' q v v' hc hc' hq hq' => (pw (get j cs cs' hc hc')).2 q v v' hq hq'
    · rename_i i k o
      split at hv <;> first | cases hv | skip
      rename_i T es hi
      split at hv <;> first | cases hv | skip
      rename_i cs hcs
      split at hv <;> cases hv
      rename_i cs' hcs'
      exact .ptr i k o T es cs cs' hi hcs (pw hcs').1 (pw hcs').2
    · rename_i g0 es
      split at hv
      · rename_i h1; cases hv; simp only [Bool.and_eq_true] at h1; exact .same _ (by simp only [noid, Bool.and_eq_true]; exact ⟨h1.2, h1.1⟩)
      · split at hv <;> first | cases hv | skip
        rename_i hg
        split at hv <;> cases hv
        rename_i es' hes
        obtain ⟨h1, h2⟩ := fzMM_ok hes
        exact .islC g0 es es' hg h1 (fun j cs cs' hc hc' => (fzM_ok (h2 j cs cs' hc hc')).1) fun j cs cs' q v v' hc hc' hq hq' => (pw (h2 j cs cs' hc hc')).2 q v v' hq hq'
    · rename_i g0 cs o
      split at hv
      · rename_i h1; cases hv; simp only [Bool.and_eq_true] at h1; exact .same _ (by simp only [noid, Bool.and_eq_true]; exact ⟨h1.2, h1.1⟩)
      · split at hv <;> first | cases hv | skip
        rename_i hg
        split at hv <;> cases hv
        rename_i cs' hcs'
        exact .iptrC g0 cs cs' o hg (pw hcs').1 (pw hcs').2
    · split at hv <;> cases hv
      rename_i cs cs' hcs'
      exact .agg _ cs' (pw hcs').1 (pw hcs').2
    · split at hv <;> cases hv
      rename_i cs cs' hcs'
      exact .tup _ cs' (pw hcs').1 (pw hcs').2
    · split at hv <;> cases hv
      rename_i v1 h1
      exact .ifc _ _ v1 (ih _ _ h1)
    · split at hv <;> cases hv
      rename_i a' b' h1 h2
      exact .func _ _ a' _ b' (pw h1).1 (pw h2).1 (pw h1).2 (pw h2).2
    · split at hv <;> cases hv
      rename_i h1
      exact .same _ h1

end Go.L
