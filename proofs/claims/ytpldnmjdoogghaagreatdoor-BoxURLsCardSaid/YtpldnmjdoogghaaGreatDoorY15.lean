/- Contracts of functions of the given program, in the logic L: texts put together; no conditions. -/
import Derived.Test.YtpldnmjdoogghaaGreatDoorY14
import Derived.Test.YtpldnmjdoogghaaGreatDoorY4
import Derived.Test.YtpldnmjdoogghaaGreatDoorRows
import Derived.Lib.LaidU8T
import Derived.LaidMore
import Derived.PinnedBridge
import Derived.KernelRfl
/-
  The tables of unicode/utf8 hold what the row says that they hold when the call begins.
-/
namespace Go.Proofs.YtpldnmjdoogghaaGreatDoor
open Go.L

theorem glbW {l : List (String × DataW Unit)} {W : World} (hp : laidMetH Tryz.prog l W = laidMet Tryz.prog l W) (h1 : ("unicode/utf8.first", Rows.laid_unicode_utf8_first) ∈ l) (h2 : ("unicode/utf8.acceptRanges", (Rows.laid_unicode_utf8_acceptRanges : DataW Unit)) ∈ l)
    (h : laidMetH Tryz.prog l W) : GlbW Tryz.prog W := by
  rw [hp] at h
  have r1 : Lib.VarReads Tryz.prog W "unicode/utf8.first" Lib.firstData := by
    have := Lib.laidMet.reads h h1
    rwa [show Rows.laid_unicode_utf8_first = Lib.firstData by kernel_rfl] at this
  have r2 : Lib.VarReads Tryz.prog W "unicode/utf8.acceptRanges" Lib.acceptData := by
    have := Lib.laidMet.reads h h2
    rwa [show (Rows.laid_unicode_utf8_acceptRanges : DataW Unit) = Lib.acceptData by kernel_rfl] at this
  have hU := utf8Tabs_of_readsT (ρ := decLaid_ren) { decLaid with } ⟨by kernel_rfl, by kernel_rfl, by kernel_rfl, by kernel_rfl, by kernel_rfl, by kernel_rfl, by kernel_rfl⟩ r1 r2
  intro g3 g4 h3 h4
  have e3 : Tryz.prog.globalNamed "unicode/utf8.first" = some (decLaid_ren.g 3) := by kernel_rfl
  have e4 : Tryz.prog.globalNamed "unicode/utf8.acceptRanges" = some (decLaid_ren.g 4) := by kernel_rfl
  rw [e3] at h3; rw [e4] at h4
  cases h3; cases h4
  exact hU
end Go.Proofs.YtpldnmjdoogghaaGreatDoor
