/- The logic L (of no program), and plain laws: texts put together; no conditions. -/
import Derived.Test.YtghlipffncbagaaGreatDoorZ3
import Derived.ChangeArms
import Derived.ChangeMaps5
namespace Go.L
open Go
section
variable {H : Type} {enc : TypeId × Value → H} {P : Program} {w : World} {base : Nat} {spare : Nat → Bool} {held : Bool}
def memW (w : World) : Mem := fun B => (w.heap[B]?).map fun o => (o, 0)
end
end Go.L

namespace Go.L
open Go
section
variable {H : Type} {enc : TypeId × Value → H} {P : Program} {w : World} {base : Nat} {spare : Nat → Bool} {held : Bool}
theorem int_of {σ : Emb} {M : Mem} {t : TypeId} {k : IntKind} (ht : P.underlying t = some (.int k)) {r : Reach} {b0 : Nat} {v : Value} (hval : Value.okWide P w r b0 t v) : ∃ n : Int, VR σ M (.int k n) v := by
 obtain ⟨n, rfl⟩ := WideShapes.okWide_int ht hval
 exact ⟨n, .int k n⟩
end
end Go.L

namespace Go.L
open Go
section
variable {P : Program} {w : World}
theorem bool_of {σ : Emb} {M : Mem} {t : TypeId} (ht : P.underlying t = some .bool) {r : Reach} {b0 : Nat} {v : Value} (hval : Value.okWide P w r b0 t v) : ∃ b : Bool, VR σ M (.bool b) v := by
 have : ∃ b, v = .bool b := by
  simp only [Value.okWide, ht, Cell.okWide] at hval
  cases v <;> simp_all [Cell.ok]
 obtain ⟨b, rfl⟩ := this
 exact ⟨b, .bool b⟩
theorem word_of {σ : Emb} {M : Mem} {t : TypeId} (ht : P.underlying t = some (.int .u64)) {r : Reach} {b0 : Nat} {v : Value} (hval : Value.okWide P w r b0 t v) : ∃ n : Nat, VR σ M (.int .u64 (n : Nat)) v ∧ n < 18446744073709551616 := by
 obtain ⟨n, rfl⟩ := WideShapes.okWide_int ht hval
 simp only [Value.okWide, ht, Cell.okWide, Cell.ok, IntKind.has, Bool.and_eq_true, decide_eq_true_eq] at hval
 have q1 : IntKind.u64.min = 0 := rfl
 have q2 : IntKind.u64.max = 18446744073709551615 := rfl
 have hb : 0 ≤ n ∧ n ≤ 18446744073709551615 := by
  rw [q1, q2] at hval
  first | exact hval | exact hval.2 | exact hval.1 | omega
 obtain ⟨m, rfl⟩ := Int.eq_ofNat_of_zero_le hb.1
 exact ⟨m, .int _ _, by omega⟩
end
end Go.L
