/- Contracts of functions of the given program, in the logic L: texts put together; no conditions. -/
import Derived.Test.YtghlipffncbagaaGreatDoorProg
import Derived.Test.YtghlipffncbagaaGreatDoorRows
import Derived.SevenTiedAt
import Derived.KernelRfl
namespace Go.Proofs.YtghlipffncbagaaGreatDoor
open Go
set_option maxRecDepth 100000
theorem goes_no {P : Program} (h : P.funcs.toList.any Func.goes = false) (f : FuncId) : P.goes f = false := by
 have one : ∀ g : FuncId, (P.funcs[g]?).any Func.goes = false := fun g => by
  cases hg : P.funcs[g]? with
  | none => rfl
  | some fn =>
   rw [List.any_eq_false] at h
   have hm : fn ∈ P.funcs.toList := by
    rw [← Array.getElem?_toList] at hg
    exact List.mem_of_getElem? hg
   simpa using h fn hm
 unfold Program.goes
 rw [Bool.or_eq_false_iff]
 constructor
 ·rw [List.any_eq_false]; intro g _; rw [one g]; exact Bool.false_ne_true
 ·rw [← Array.any_toList, h, Bool.and_false]
theorem goes_no2 {P : Program} (h : P.funcs.toList.any Func.goes = false) (c : OpenClaim) : c.goesBy P = false := by
 unfold OpenClaim.goesBy Program.goesAt Program.goesFrom
 rw [Bool.or_eq_false_iff]
 constructor
 ·cases P.funcNamed c.func with
  | none => rfl
  | some f => exact goes_no h f
 ·cases c.start <;> first | rfl | (rw [List.any_eq_false]; intro g _; rw [goes_no h g]; exact Bool.false_ne_true)
theorem kN : Tryz.pinned.checked.prog.funcs.toList.any Func.goes = false := by kernel_rfl
theorem kG : false = Rows.encodeManyRow.goesBy Tryz.pinned.checked.prog := (goes_no2 kN _).symm
end Go.Proofs.YtghlipffncbagaaGreatDoor
