/- Contracts of functions of the given program, in the logic L: texts put together; no conditions. -/
import Derived.Test.YtbnfeedomchfdaaGreatDoorProg
import Derived.Shelf.Unicode.DecodeAny
import Derived.Test.YtbnfeedomchfdaaGreatDoorY8
import Derived.Test.YtbnfeedomchfdaaGreatDoorRows
import Derived.Lib.LaidU8T
import Derived.LaidMore
import Derived.PinnedBridge
import Derived.KernelRfl
/- The laying of utf8.DecodeRuneInString in the given program: the shelf's contract may be used; no conditions. Printed by program. -/
namespace Go.Proofs.YtbnfeedomchfdaaGreatDoor
open Go.Shelf
def decLaid_ren : Go.Shelf.Ren := ⟨fun | 197 => 240 | 260 => 268 | n => n, fun | 9 => 9 | 21 => 21 | 3 => 3 | 4 => 4 | 5 => 5 | 105 => 353 | 119 => 382 | 0 => 0 | 46 => 212 | 139 => 385 | 138 => 384 | n => n, fun | 3 => 2 | 4 => 3 | n => n⟩
theorem decLaid : Go.Proofs.Lays.n197 Tryz.prog decLaid_ren := {
  mixed := by kernel_rfl
  f197 := Tryz.func240.trans (congrArg some (by kernel_rfl))
  f260 := Tryz.func268.trans (congrArg some (by kernel_rfl))
  t0 := Tryz.underlying0
  a0 := Tryz.isAgg0
  z0 := Tryz.sizeOf0
  v0 := Tryz.zeroValue0
  t3 := Tryz.underlying3
  a3 := Tryz.isAgg3
  z3 := Tryz.sizeOf3
  v3 := Tryz.zeroValue3
  t4 := Tryz.underlying4
  a4 := Tryz.isAgg4
  z4 := Tryz.sizeOf4
  v4 := Tryz.zeroValue4
  t5 := Tryz.underlying5
  a5 := Tryz.isAgg5
  z5 := Tryz.sizeOf5
  v5 := Tryz.zeroValue5
  t9 := Tryz.underlying9
  a9 := Tryz.isAgg9
  z9 := Tryz.sizeOf9
  v9 := Tryz.zeroValue9
  t21 := Tryz.underlying21
  a21 := Tryz.isAgg21
  z21 := Tryz.sizeOf21
  v21 := Tryz.zeroValue21
  t46 := Tryz.underlying212
  a46 := Tryz.isAgg212
  z46 := Tryz.sizeOf212
  v46 := Tryz.zeroValue212
  t105 := Tryz.underlying353
  a105 := Tryz.isAgg353
  z105 := Tryz.sizeOf353
  v105 := Tryz.zeroValue353
  t119 := Tryz.underlying382
  a119 := Tryz.isAgg382
  z119 := Tryz.sizeOf382
  t138 := Tryz.underlying384
  a138 := Tryz.isAgg384
  z138 := Tryz.sizeOf384
  v138 := Tryz.zeroValue384
  t139 := Tryz.underlying385
  a139 := Tryz.isAgg385
  z139 := Tryz.sizeOf385
  v139 := Tryz.zeroValue385
  g3 := by kernel_rfl
  g4 := by kernel_rfl }
end Go.Proofs.YtbnfeedomchfdaaGreatDoor

/-
  The tables of unicode/utf8 hold what the row says that they hold when the call begins.
-/
namespace Go.Proofs.YtbnfeedomchfdaaGreatDoor
open Go.L

theorem glbW {l : List (String × DataW Unit)} {W : World} (hp : laidMetH Tryz.prog l W = laidMet Tryz.prog l W) (h1 : ("unicode/utf8.first", Rows.laid_unicode_utf8_first) ∈ l) (h2 : ("unicode/utf8.acceptRanges", (Rows.laid_unicode_utf8_acceptRanges : DataW Unit)) ∈ l)
    (h : laidMetH Tryz.prog l W) : GlbW Tryz.prog W := by
  rw [hp] at h
  have r1 : Lib.VarReads Tryz.prog W "unicode/utf8.first" Lib.firstData := by
    have := Lib.laidMet.reads h h1
    rwa [show Rows.laid_unicode_utf8_first = Lib.firstData by kernel_rfl] at this
  have r2 : Lib.VarReads Tryz.prog W "unicode/utf8.acceptRanges" Lib.acceptData := by
    have := Lib.laidMet.reads h h2
    rwa [show (Rows.laid_unicode_utf8_acceptRanges : DataW Unit) = Lib.acceptData by kernel_rfl] at this
  have hU := utf8Tabs_of_readsT (ρ := decLaid_ren) { decLaid with } ⟨by kernel_rfl, by kernel_rfl, by kernel_rfl, by kernel_rfl, by kernel_rfl, by kernel_rfl, by kernel_rfl⟩ r1 r2
  intro g3 g4 h3 h4
  have e3 : Tryz.prog.globalNamed "unicode/utf8.first" = some (decLaid_ren.g 3) := by kernel_rfl
  have e4 : Tryz.prog.globalNamed "unicode/utf8.acceptRanges" = some (decLaid_ren.g 4) := by kernel_rfl
  rw [e3] at h3; rw [e4] at h4
  cases h3; cases h4
  exact hU
end Go.Proofs.YtbnfeedomchfdaaGreatDoor
