/-
  The logic L, part f3: more operations that only read: against nil, cap, min, max, the stand-ins that count and find a byte.
-/
import Derived.Test.YtpmjgnpkbmfimaaGreatDoorLf2
namespace Go.L

section
variable {P : Program} {o : Oper} {e : Env} {h : Hp} {next : AV → Prop}

/-- The nil of a type. -/
def nilC (d : TypeDesc) (c : Operand) : Option NK :=
  match d with
  | .slice _ => match c with | .const (.slice none 0 0) => some .sl | _ => none
  | .pointer _ => match c with | .const (.pointer none) => some .pt | _ => none
  | .map _ _ => match c with | .const (.map none) => some .mp | _ => none
  | .func _ _ _ => match c with | .const .nilFunc => some .fn | _ => none
  | .interface _ => match c with | .const .nilIface => some .ic | _ => none
  | _ => none

def NKv : NK → Value
  | .sl => .slice none 0 0
  | .pt => .pointer none
  | .mp => .map none
  | .fn => .nilFunc
  | .ic => .nilIface

def NKd : NK → TypeDesc → Prop
  | .sl, d => ∃ e, d = .slice e
  | .pt, d => ∃ e, d = .pointer e
  | .mp, d => ∃ a b, d = .map a b
  | .fn, d => ∃ a b c, d = .func a b c
  | .ic, d => ∃ m, d = .interface m

theorem nilC_ok {d : TypeDesc} {c : Operand} {k : NK} (h : nilC d c = some k) : NKd k d ∧ c = .const (NKv k) := by
  unfold nilC at h
  split at h <;> first | cases h | skip
  all_goals
    split at h <;> cases h
    exact ⟨by simp [NKd], rfl⟩

theorem nilN_ok {k : NK} {v : AV} {N : Bool → Prop} (h : nilN k v N) : ∃ b, N b ∧ ∀ (σ : Emb) (M : Mem) (x : Value), VR σ M v x → ∀ (P : Program) (t : TypeId) (d : TypeDesc) (w : World) (y c : Operand) (op : BinOp), P.underlying t = some d → NKd k d →
    c = .const (NKv k) → (op = .eql ∨ op = .neq) → (do eqGuard op t y c x (NKv k); binOp op t x (NKv k) : Sem Value).run P w = .ok (.bool (if op = .eql then b else !b)) w := by
  have key : ∀ b, N b → (∀ (σ : Emb) (M : Mem) (x : Value), VR σ M v x → (∀ (P : Program) (t : TypeId) (d : TypeDesc) (w : World) (n : Nat), P.underlying t = some d → NKd k d → (Op.equalIn (n + 1) t x (NKv k)).run P w = .ok b w) ∧
      (∀ op t, (op = .eql → binOp op t x (NKv k) = (do pure (.bool (← Op.equal t x (NKv k))))) ∧ (op = .neq → binOp op t x (NKv k) = (do pure (.bool (!(← Op.equal t x (NKv k)))))))) →
      ∃ b, N b ∧ ∀ (σ : Emb) (M : Mem) (x : Value), VR σ M v x → ∀ (P : Program) (t : TypeId) (d : TypeDesc) (w : World) (y c : Operand) (op : BinOp), P.underlying t = some d → NKd k d →
        c = .const (NKv k) → (op = .eql ∨ op = .neq) → (do eqGuard op t y c x (NKv k); binOp op t x (NKv k) : Sem Value).run P w = .ok (.bool (if op = .eql then b else !b)) w := by
    intro b hN hk
    refine ⟨b, hN, fun σ M x hx P t d w y c op ht hd hc hop => ?_⟩
    obtain ⟨h1, h2⟩ := hk σ M x hx
    have hq : (Op.equal t x (NKv k)).run P w = .ok b w := h1 P t d w 9999 ht hd
    have hg : (eqGuard op t y c x (NKv k)).run P w = .ok () w := by
      subst hc
      unfold eqGuard
      rcases hop with rfl | rfl <;> cases k <;> cases x <;> simp [NKv]
    rcases hop with rfl | rfl
    · simp [hg, (h2 .eql t).1 rfl, hq]
    · simp [hg, (h2 .neq t).2 rfl, hq]
  unfold nilN at h
  split at h <;> (split at h <;> first | exact h.elim | skip)
  all_goals first
    | (refine key true h fun σ M x hx => ⟨fun P t d w n ht hd => ?_, fun op t => ⟨fun h => ?_, fun h => ?_⟩⟩)
    | (refine key false h fun σ M x hx => ⟨fun P t d w n ht hd => ?_, fun op t => ⟨fun h => ?_, fun h => ?_⟩⟩)
    | (refine key false h.2 fun σ M x hx => ⟨fun P t d w n ht hd => ?_, fun op t => ⟨fun h => ?_, fun h => ?_⟩⟩)
  all_goals first
    | (subst h; cases hx <;> rfl)
    | (simp only [NKd] at hd; (try obtain ⟨_, rfl⟩ := hd); (try obtain ⟨_, _, rfl⟩ := hd); (try obtain ⟨_, _, _, rfl⟩ := hd); cases hx <;> first | (simp [Op.equalIn, run_underlying ht, NKv]; done) | (simp at h; done) | (exact absurd rfl h.1))

theorem LN_isnil {op : BinOp} {t u : TypeId} {d : TypeDesc} {x y : Operand} {k : NK} (ho : o.op = .binOp op t x y u) (ht : P.underlying t = some d) (hy : nilC d y = some k) (hop : op = .eql ∨ op = .neq)
    {x' : AOpd} (hx : copd x = some x') (hl : LN (.isnil k (decide (op = .neq)) x') e h next) : ∃ v, next v ∧ SemVal P o e h v := by
  obtain ⟨hd, rfl⟩ := nilC_ok hy
  obtain ⟨b, hN, hk⟩ := nilN_ok (k := k) (v := ev e x') (N := fun b => next (.bool (cond (decide (op = .neq)) (!b) b))) hl
  refine ok_of hN fun σ M w a hR hA => ⟨_, ?_, .bool _⟩
  have := hk σ M _ (copd_ok hx hA) P t d w x (.const (NKv k)) op ht hd rfl hop
  have he : a.eval (.const (NKv k)) = NKv k := rfl
  simp only [execOp, ho, he, Sem.run_bind, this, Result.andThen, Sem.run_pure]
  rcases hop with rfl | rfl <;> rfl

theorem LN_capk {t el : TypeId} {x : Operand} {ts : Array TypeId} (ho : o.op = .call { callee := .builtin .cap, args := #[x], argTypes := ts }) (h0 : ts[0]? = some t) (ht : P.underlying t = some (.slice el))
    {x' : AOpd} (hx : copd x = some x') (hl : LN (.capk x') e h next) : ∃ v, next v ∧ SemVal P o e h v := by
  have exec : ∀ (a : Act) (w : World) (ad : Option Addr) (n c : Nat), a.eval x = .slice ad n c → (execOp a.eval o).run P w = .ok (.value (.int .i64 c)) w := fun a w ad n c hv => by
    have : (Builtin.cap_ ts o.type #[a.eval x]).run P w = .ok (.int .i64 c) w := by simp [Builtin.cap_, h0, run_underlying ht, hv, goInt]
    simp [execOp, ho, resolve, invoke, builtin, this]
  simp only [LN] at hl
  split at hl <;> first | exact hl.elim | skip
  all_goals
    rename_i hs
    refine ok_of hl fun σ M w a hR hA => ?_
    have h1 := copd_ok hx hA
    rw [hs] at h1
  · obtain ⟨L, a0, c, e1, _, _, _, hk, _⟩ := h1.slc_inv
    exact ⟨_, exec a w _ _ _ e1, by rw [hk _ rfl]; exact .int _ _⟩
  · exact ⟨_, exec a w _ _ _ h1.nils_inv, .int .i64 ((0 : Nat) : Int)⟩
  · obtain ⟨a0, e1⟩ := h1.emp_inv
    exact ⟨_, exec a w _ _ _ e1, .int .i64 ((0 : Nat) : Int)⟩

theorem LN_convs {s t : TypeId} {x : Operand} (ho : o.op = .convert s t x) (ht : P.underlying t = some .string) (hs : P.underlying s = some .string) {x' : AOpd} (hx : copd x = some x') (hl : LN (.convs x') e h next) :
    ∃ v, next v ∧ SemVal P o e h v := by
  simp only [LN] at hl
  split at hl <;> first | exact hl.elim | skip
  rename_i b hb
  refine ok_of hl fun σ M w a hR hA => ?_
  have h1 := copd_ok hx hA
  rw [hb] at h1
  obtain ⟨b', e1, e2⟩ := h1.str_inv
  exact ⟨.string b', by simp [execOp, ho, convert, run_underlying ht, run_underlying hs, e1], .str _ _ e2⟩

theorem find_count (fn : Func) (h : fn.name = "internal/bytealg.CountString") (ho : fn.origin = "") : Extern.findNext fn = none ∧ Extern.find fn = some Extern.BytealgCount.count := by
  cases fn with
  | mk => simp only at h ho; subst h; subst ho; exact ⟨by kernel_rfl, by kernel_rfl⟩

theorem find_index (fn : Func) (h : fn.name = "internal/bytealg.IndexByteString") (ho : fn.origin = "") : Extern.findNext fn = none ∧ Extern.find fn = some Extern.BytealgIndexByte.indexByte := by
  cases fn with
  | mk => simp only at h ho; subst h; subst ho; exact ⟨by kernel_rfl, by kernel_rfl⟩

theorem exec_extern {f : FuncId} {args : Array Operand} {ts : Array TypeId} {fn : Func} (ho : o.op = .call { callee := .value (.func f), args, argTypes := ts }) (hf : P.funcs[f]? = some fn) (hb : fn.body.isNone = true)
    (hn : (fn.name == "runtime.NumGoroutine") = false) {g : Array Value → Sem Value} (hx : Extern.findNext fn = none ∧ Extern.find fn = some g) {a : Act} {w : World} {v : Value} (hr : (g (args.map a.eval)).run P w = .ok v w) :
    (execOp a.eval o).run P w = .ok (.value v) w := by
  have hc : (callFunc f (args.map a.eval)).run P w = .ok (.value v) w := by
    have hp : (program).run P w = .ok P w := rfl
    have hm : (mark (.extern f)).run P w = .ok () w := rfl
    simp only [callFunc, Sem.run_bind, hp, Result.andThen, hf, hn, hb, Bool.false_eq_true, if_false, if_true, hm, hx.1, hx.2, hr, Sem.run_pure]
  simp [execOp, ho, resolve, Deferred.ofValue, Act.eval, invoke, hc]

theorem LN_xcount {f : FuncId} {x c : Operand} {ts : Array TypeId} {fn : Func} (ho : o.op = .call { callee := .value (.func f), args := #[x, c], argTypes := ts }) (hf : P.funcs[f]? = some fn) (hb : fn.body.isNone = true)
    (hn : fn.name = "internal/bytealg.CountString") (hor : fn.origin = "") {x' c' : AOpd} (hx : copd x = some x') (hc : copd c = some c') (hl : LN (.xcount x' c') e h next) : ∃ v, next v ∧ SemVal P o e h v := by
  simp only [LN] at hl
  split at hl <;> first | exact hl.elim | skip
  rename_i s n hs hm
  refine ok_of hl fun σ M w a hR hA => ?_
  have h1 := copd_ok hx hA
  have h2 := copd_ok hc hA
  rw [hs] at h1; rw [hm] at h2
  obtain ⟨b, e1, e2⟩ := h1.str_inv
  refine ⟨_, exec_extern ho hf hb (by rw [hn]; decide) (find_count fn hn hor) (v := .int .i64 (Lib.countByte s n.toNat.toUInt8 : Nat)) ?_, .int _ _⟩
  have := Lib.run_countString (P := P) b n w
  rw [e2] at this
  simpa [e1, h2.int_inv] using this

theorem LN_xindex {f : FuncId} {x c : Operand} {ts : Array TypeId} {fn : Func} (ho : o.op = .call { callee := .value (.func f), args := #[x, c], argTypes := ts }) (hf : P.funcs[f]? = some fn) (hb : fn.body.isNone = true)
    (hn : fn.name = "internal/bytealg.IndexByteString") (hor : fn.origin = "") {x' c' : AOpd} (hx : copd x = some x') (hc : copd c = some c') (hl : LN (.xindex x' c') e h next) : ∃ v, next v ∧ SemVal P o e h v := by
  simp only [LN] at hl
  split at hl <;> first | exact hl.elim | skip
  rename_i s n hs hm
  refine ok_of (genI_use hl) fun σ M w a hR hA => ?_
  have h1 := copd_ok hx hA
  have h2 := copd_ok hc hA
  rw [hs] at h1; rw [hm] at h2
  obtain ⟨b, e1, e2⟩ := h1.str_inv
  refine ⟨_, exec_extern ho hf hb (by rw [hn]; decide) (find_index fn hn hor) (v := .int .i64 (Lib.indexByte s n.toNat.toUInt8)) ?_, .int _ _⟩
  have := Lib.run_indexByteString (P := P) b n w
  rw [e2] at this
  simpa [e1, h2.int_inv] using this

theorem LN_mn {x y : Operand} {ts : Array TypeId} (ho : o.op = .call { callee := .builtin .min, args := #[x, y], argTypes := ts }) {x' y' : AOpd} (hx : copd x = some x') (hy : copd y = some y') (hl : LN (.mn x' y') e h next) :
    ∃ v, next v ∧ SemVal P o e h v := by
  simp only [LN] at hl
  split at hl <;> first | exact hl.elim | skip
  rename_i k p k' q hs hm
  cases hk : ikeq k k' with
  | false => simp [hk] at hl
  | true =>
    simp only [hk, cond_true] at hl
    refine ok_of (genI_use hl) fun σ M w a hR hA => ?_
    have h1 := copd_ok hx hA
    have h2 := copd_ok hy hA
    rw [hs] at h1; rw [hm] at h2
    exact ⟨.int k (if q < p then q else p), by simp [execOp, ho, resolve, invoke, builtin, Builtin.min_, h1.int_inv, h2.int_inv, Builtin.min2], .int _ _⟩

theorem LN_mx {x y : Operand} {ts : Array TypeId} (ho : o.op = .call { callee := .builtin .max, args := #[x, y], argTypes := ts }) {x' y' : AOpd} (hx : copd x = some x') (hy : copd y = some y') (hl : LN (.mx x' y') e h next) :
    ∃ v, next v ∧ SemVal P o e h v := by
  simp only [LN] at hl
  split at hl <;> first | exact hl.elim | skip
  rename_i k p k' q hs hm
  cases hk : ikeq k k' with
  | false => simp [hk] at hl
  | true =>
    simp only [hk, cond_true] at hl
    refine ok_of (genI_use hl) fun σ M w a hR hA => ?_
    have h1 := copd_ok hx hA
    have h2 := copd_ok hy hA
    rw [hs] at h1; rw [hm] at h2
    exact ⟨.int k (if p < q then q else p), by simp [execOp, ho, resolve, invoke, builtin, Builtin.max_, h1.int_inv, h2.int_inv, Builtin.max2], .int _ _⟩
end
end Go.L
