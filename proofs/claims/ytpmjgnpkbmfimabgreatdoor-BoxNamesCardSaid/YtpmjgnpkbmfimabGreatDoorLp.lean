/-
  The logic L, part p: small means for proofs.
-/
import Derived.Test.YtpmjgnpkbmfimabGreatDoorLo
namespace Go.L

/-- Slots and what they hold. -/
def Has (e : Env) : List (Nat × AV) → Prop
  | [] => True
  | (t, v) :: l => e.t t = v ∧ Has e l

def puts (e : Env) : List (Nat × AV) → Env
  | [] => e
  | (t, v) :: l => (puts e l).put (some t) v

theorem Has.puts_eq {e : Env} : ∀ {l : List (Nat × AV)}, Has e l → puts e l = e := by
  intro l
  induction l with
  | nil => intro _; rfl
  | cons p l ih =>
    intro h
    obtain ⟨t, v⟩ := p
    obtain ⟨h1, h2⟩ := h
    show (puts e l).put (some t) v = e
    rw [ih h2]
    cases e with
    | mk n g ds =>
      simp only [Env.put, Env.mk.injEq, true_and, and_true]
      funext x
      cases hb : Nat.beq x t with
      | false => rfl
      | true => rw [Nat.eq_of_beq_eq_true hb]; exact h1.symm

/-- An activation of which some slots are known, written out. -/
theorem Has.out {e : Env} {l : List (Nat × AV)} (h : Has e l) (hd : e.ds = []) : ∃ n g, e = puts ⟨n, g, []⟩ l := by
  refine ⟨e.n, e.t, ?_⟩
  rw [← hd]; exact h.puts_eq.symm

/-- A pure call that answers yes or no. -/
theorem PureL.useB {P : Program} {f : FuncId} {args : List AV} {c : Bool} {h : Hp} {Q : Res → Hp → Prop} (k : PureL P f args (.bool c)) (hq : ∀ t, t = c → Q (.ret (.bool t)) h) : CallL P f args h Q :=
  k.use (hq c rfl)

theorem wrap_i64 {n : Int} (h1 : -9223372036854775808 ≤ n) (h2 : n ≤ 9223372036854775807) : IntKind.i64.wrap n = n := IntWalk.i64_in n ⟨h1, h2⟩

theorem Res.bool_eq {a b : Bool} (h : a = b) : Res.ret (.bool a) = Res.ret (.bool b) := by rw [h]
theorem Res.str_eq {a b : List UInt8} (h : a = b) : Res.ret (.str a) = Res.ret (.str b) := by rw [h]
theorem Res.int_eq {k : IntKind} {a b : Int} (h : a = b) : Res.ret (.int k a) = Res.ret (.int k b) := by rw [h]
end Go.L
