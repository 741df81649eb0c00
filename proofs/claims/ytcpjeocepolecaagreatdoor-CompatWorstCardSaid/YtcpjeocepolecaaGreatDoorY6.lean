/- Contracts of functions of the given program, in the logic L: texts put together; no conditions. -/
import Derived.Test.YtcpjeocepolecaaGreatDoorY3
import Derived.Test.YtcpjeocepolecaaGreatDoorProg
import Derived.KernelRfl
/- The codes of functions as the logic L has them; each is what the logic makes of the given program (by the kernel). Printed by program (gen_codes.py). -/
namespace Go.Proofs.YtcpjeocepolecaaGreatDoor
open Go.L

-- lexicon/compat.badness
abbrev F_compat_badness : Nat := 15
def A_compat_badness_0 : List AOper := [o_ 4 (.build [.int .i64 (0), .int .i64 (0), .int .i64 (0), .int .i64 (0), .int .i64 (0), .int .i64 (0), .int .i64 (0), .int .i64 (0)] [(0, 1, (i_ 0)), (1, 1, (i_ 1)), (2, 1, (i_ 3)), (3, 1, (i_ 4)), (4, 1, (i_ 2)), (5, 1, (i_ 6)), (6, 1, (i_ 7)), (7, 1, (i_ 5))]), o_ 3 (.box 79 8 (.c (.agg [.int .i64 (0), .int .i64 (0), .int .i64 (0), .int .i64 (0), .int .i64 (0), .int .i64 (0), .int .i64 (0), .int .i64 (0)]))), n_ (.st 8 (.t 3) (.t 4))]
def A_compat_badness_1 : List AOper := [mv 5 0, o_ 6 (.conv .i64 (.t 5)), o_ 7 (.bini .lss (.t 6) (i_ 8))]
def A_compat_badness_2 : List AOper := [mv 8 0, o_ 9 (.adr 8 1 (.t 3) (.t 8)), o_ 10 (.ld1 (.t 9)), mv 2 10]
def A_compat_badness : ACode := (.seq (.ops [o_ 2 (.mov (i_ 0))]) (.seq (.ops A_compat_badness_0) (.seq (.seq (.ops A_compat_badness_1) (.cond (.t 7) (.seq (.ops A_compat_badness_2) .ret) .skip)) (.seq (.ops [o_ 2 (.mov (i_ 0))]) .ret))))
def R_compat_badness : List ARes := [.tmp 2]
theorem C_compat_badness : compF Tryz.prog Tryz.f15 = some (A_compat_badness, R_compat_badness) := by kernel_rfl
theorem K_compat_badness {md : Bool} {args : List AV} {h : Hp} {Q : Res → Hp → Prop} (hl : LCode Tryz.prog md A_compat_badness (EndQ R_compat_badness Q) (env0 11 args) h) (hn : args.length ≤ 11 := by (simp; done)) : CallL Tryz.prog F_compat_badness args h Q :=
  CallL.of (md := md) Tryz.func15 C_compat_badness (by rw [Tryz.ntmps15]; exact hn) (by rw [Tryz.ntmps15]; exact hl)

-- lexicon/compat.Worst
abbrev F_compat_Worst : Nat := 6
def A_compat_Worst_0 : List AOper := [mv 6 0, o_ 7 (.lenl (.t 6)), o_ 8 (.mov (i_ 0))]
def A_compat_Worst_1 : List AOper := [o_ 10 (.iaddr 27 3 (.t 6) (.t 8)), o_ 11 (.lda 3 (.t 10)), o_ 5 (.box 27 3 (.c (.agg [.str [], .int .i32 (0), .int .u8 (0)]))), n_ (.st 3 (.t 5) (.t 11))]
def A_compat_Worst_2 : List AOper := [o_ 12 (.faddr 2 (.t 5)), o_ 13 (.ld1 (.t 12)), o_ 14 (.call 15 [(.t 13)]), mv 15 3, o_ 16 (.call 15 [(.t 15)]), o_ 17 (.bini .gtr (.t 14) (.t 16))]
def A_compat_Worst_3 : List AOper := [o_ 18 (.faddr 2 (.t 5)), o_ 19 (.ld1 (.t 18)), mv 3 19]
def A_compat_Worst_4 : List AOper := [o_ 20 (.bini .add (.t 8) (i_ 1)), mv 8 20]
def A_compat_Worst_5 : ACode := (.seq (.ops [o_ 9 (.bini .lss (.t 8) (.t 7))]) (.seq (.cond (.t 9) .skip (.exit 0)) (.seq (.block 1 (.seq (.ops A_compat_Worst_1) (.seq (.ops A_compat_Worst_2) (.cond (.t 17) (.ops A_compat_Worst_3) .skip)))) (.ops A_compat_Worst_4))))
def A_compat_Worst_6 : List AOper := [mv 21 3, mv 2 21]
def A_compat_Worst : ACode := (.seq (.ops [o_ 2 (.mov (.c (.int .u8 (0))))]) (.seq (.ops [o_ 3 (.mov (.c (.int .u8 (1))))]) (.seq (.seq (.ops A_compat_Worst_0) (.block 0 (.loop A_compat_Worst_5))) (.seq (.ops A_compat_Worst_6) .ret))))
def R_compat_Worst : List ARes := [.tmp 2]
theorem C_compat_Worst : compF Tryz.prog Tryz.f6 = some (A_compat_Worst, R_compat_Worst) := by kernel_rfl
theorem K_compat_Worst {md : Bool} {args : List AV} {h : Hp} {Q : Res → Hp → Prop} (hl : LCode Tryz.prog md A_compat_Worst (EndQ R_compat_Worst Q) (env0 22 args) h) (hn : args.length ≤ 22 := by (simp; done)) : CallL Tryz.prog F_compat_Worst args h Q :=
  CallL.of (md := md) Tryz.func6 C_compat_Worst (by rw [Tryz.ntmps6]; exact hn) (by rw [Tryz.ntmps6]; exact hl)

-- lexicon/lexiconref00.SameVerdicts
abbrev F_lexiconref00_SameVerdicts : Nat := 7
def A_lexiconref00_SameVerdicts_0 : List AOper := [mv 6 0, o_ 7 (.lenl (.t 6)), mv 8 1, o_ 9 (.lenl (.t 8)), o_ 10 (.bini .neq (.t 7) (.t 9))]
def A_lexiconref00_SameVerdicts_1 : List AOper := [mv 11 5, mv 12 0, o_ 13 (.lenl (.t 12)), o_ 14 (.bini .lss (.t 11) (.t 13))]
def A_lexiconref00_SameVerdicts_2 : List AOper := [mv 17 0, mv 18 5, o_ 19 (.iaddr 27 3 (.t 17) (.t 18)), o_ 20 (.lda 3 (.t 19)), mv 21 1, mv 22 5, o_ 23 (.iaddr 27 3 (.t 21) (.t 22)), o_ 24 (.lda 3 (.t 23)), o_ 25 (.aeq true [0, 1, 1] (.t 20) (.t 24))]
def A_lexiconref00_SameVerdicts_3 : List AOper := [mv 15 5, o_ 16 (.bini .add (.t 15) (i_ 1)), mv 5 16]
def A_lexiconref00_SameVerdicts_4 : ACode := (.seq (.seq (.ops A_lexiconref00_SameVerdicts_1) (.cond (.t 14) .skip (.exit 0))) (.seq (.block 1 (.seq (.alts [17, 18, 19, 20, 21, 22, 23, 24, 25] [A_lexiconref00_SameVerdicts_2]) (.cond (.t 25) (.seq (.ops [o_ 4 (.mov (.c (.bool false)))]) .ret) .skip))) (.ops A_lexiconref00_SameVerdicts_3)))
def A_lexiconref00_SameVerdicts : ACode := (.seq (.ops [o_ 4 (.mov (.c (.bool false)))]) (.seq (.seq (.ops A_lexiconref00_SameVerdicts_0) (.cond (.t 10) (.seq (.ops [o_ 4 (.mov (.c (.bool false)))]) .ret) .skip)) (.seq (.seq (.ops [o_ 5 (.mov (i_ 0))]) (.block 0 (.loop A_lexiconref00_SameVerdicts_4))) (.seq (.ops [o_ 4 (.mov (.c (.bool true)))]) .ret))))
def R_lexiconref00_SameVerdicts : List ARes := [.tmp 4]
theorem C_lexiconref00_SameVerdicts : compF Tryz.prog Tryz.f7 = some (A_lexiconref00_SameVerdicts, R_lexiconref00_SameVerdicts) := by kernel_rfl
theorem K_lexiconref00_SameVerdicts {md : Bool} {args : List AV} {h : Hp} {Q : Res → Hp → Prop} (hl : LCode Tryz.prog md A_lexiconref00_SameVerdicts (EndQ R_lexiconref00_SameVerdicts Q) (env0 26 args) h) (hn : args.length ≤ 26 := by (simp; done)) : CallL Tryz.prog F_lexiconref00_SameVerdicts args h Q :=
  CallL.of (md := md) Tryz.func7 C_lexiconref00_SameVerdicts (by rw [Tryz.ntmps7]; exact hn) (by rw [Tryz.ntmps7]; exact hl)

-- lexicon/lexiconref17.Worst
abbrev F_lexiconref17_Worst : Nat := 8
def A_lexiconref17_Worst_0 : List AOper := [o_ 7 (.bslice 23 1 7 [.int .u8 (0)] [(0, 1, (.c (.int .u8 (1)))), (1, 1, (.c (.int .u8 (4)))), (2, 1, (.c (.int .u8 (2)))), (3, 1, (.c (.int .u8 (3)))), (4, 1, (.c (.int .u8 (7)))), (5, 1, (.c (.int .u8 (5)))), (6, 1, (.c (.int .u8 (6))))]), mv 3 7]
def A_lexiconref17_Worst_1 : List AOper := [mv 8 5, mv 9 3, o_ 10 (.lenl (.t 9)), o_ 11 (.bini .lss (.t 8) (.t 10))]
def A_lexiconref17_Worst_2 : List AOper := [mv 14 6, mv 15 0, o_ 16 (.lenl (.t 15)), o_ 17 (.bini .lss (.t 14) (.t 16))]
def A_lexiconref17_Worst_3 : List AOper := [mv 20 0, mv 21 6, o_ 22 (.iaddr 27 3 (.t 20) (.t 21)), o_ 23 (.faddr 2 (.t 22)), o_ 24 (.ld1 (.t 23)), mv 25 3, mv 26 5, o_ 27 (.iaddr 23 1 (.t 25) (.t 26)), o_ 28 (.ld1 (.t 27)), o_ 29 (.bini .eql (.t 24) (.t 28))]
def A_lexiconref17_Worst_4 : List AOper := [mv 30 3, mv 31 5, o_ 32 (.iaddr 23 1 (.t 30) (.t 31)), o_ 33 (.ld1 (.t 32)), mv 4 33]
def A_lexiconref17_Worst_5 : List AOper := [mv 18 6, o_ 19 (.bini .add (.t 18) (i_ 1)), mv 6 19]
def A_lexiconref17_Worst_6 : ACode := (.seq (.seq (.ops A_lexiconref17_Worst_2) (.cond (.t 17) .skip (.exit 2))) (.seq (.block 3 (.seq (.alts [20, 21, 22, 23, 24, 25, 26, 27, 28, 29] [A_lexiconref17_Worst_3]) (.cond (.t 29) (.ops A_lexiconref17_Worst_4) .skip))) (.ops A_lexiconref17_Worst_5)))
def A_lexiconref17_Worst_7 : List AOper := [mv 12 5, o_ 13 (.bini .add (.t 12) (i_ 1)), mv 5 13]
def A_lexiconref17_Worst_8 : ACode := (.seq (.seq (.ops A_lexiconref17_Worst_1) (.cond (.t 11) .skip (.exit 0))) (.seq (.block 1 (.seq (.ops [o_ 6 (.mov (i_ 0))]) (.block 2 (.loop A_lexiconref17_Worst_6)))) (.ops A_lexiconref17_Worst_7)))
def A_lexiconref17_Worst_9 : List AOper := [mv 34 4, mv 2 34]
def A_lexiconref17_Worst : ACode := (.seq (.ops [o_ 2 (.mov (.c (.int .u8 (0))))]) (.seq (.ops A_lexiconref17_Worst_0) (.seq (.ops [o_ 4 (.mov (.c (.int .u8 (1))))]) (.seq (.seq (.ops [o_ 5 (.mov (i_ 0))]) (.block 0 (.loop A_lexiconref17_Worst_8))) (.seq (.ops A_lexiconref17_Worst_9) .ret)))))
def R_lexiconref17_Worst : List ARes := [.tmp 2]
theorem C_lexiconref17_Worst : compF Tryz.prog Tryz.f8 = some (A_lexiconref17_Worst, R_lexiconref17_Worst) := by kernel_rfl
theorem K_lexiconref17_Worst {md : Bool} {args : List AV} {h : Hp} {Q : Res → Hp → Prop} (hl : LCode Tryz.prog md A_lexiconref17_Worst (EndQ R_lexiconref17_Worst Q) (env0 35 args) h) (hn : args.length ≤ 35 := by (simp; done)) : CallL Tryz.prog F_lexiconref17_Worst args h Q :=
  CallL.of (md := md) Tryz.func8 C_lexiconref17_Worst (by rw [Tryz.ntmps8]; exact hn) (by rw [Tryz.ntmps8]; exact hl)

-- lexicon/lexiconlaw17.CompatWorst
abbrev F_lexiconlaw17_CompatWorst : Nat := 4
def A_lexiconlaw17_CompatWorst_0 : List AOper := [o_ 11 (.call 5 []), mv 3 11]
def A_lexiconlaw17_CompatWorst_1 : List AOper := [mv 12 0, o_ 13 (.lenl (.t 12)), o_ 14 (.bini .gtr (.t 13) (i_ 4194304)), mv 4 14]
def A_lexiconlaw17_CompatWorst_2 : List AOper := [mv 16 3, mv 2 16]
def A_lexiconlaw17_CompatWorst_3 : List AOper := [mv 17 5, mv 18 0, o_ 19 (.app 27 3 24 (.t 17) (.t 18)), mv 5 19]
def A_lexiconlaw17_CompatWorst_4 : List AOper := [mv 20 5, o_ 21 (.build [.str [], .int .i32 (0), .int .u8 (0)] [(2, 1, (.c (.int .u8 (88))))]), o_ 22 (.build [.str [], .int .i32 (0), .int .u8 (0)] [(2, 1, (.c (.int .u8 (89))))]), o_ 23 (.bslice 27 3 2 [.str [], .int .i32 (0), .int .u8 (0)] [(0, 3, (.t 21)), (3, 3, (.t 22))]), o_ 24 (.app 27 3 24 (.t 20) (.t 23)), mv 5 24]
def A_lexiconlaw17_CompatWorst_5 : List AOper := [mv 25 5, mv 26 0, o_ 27 (.lenl (.t 26)), o_ 28 (.slcl 27 3 (.t 25) none (some (.t 27)) none), o_ 29 (.call 6 [(.t 28)]), mv 6 29]
def A_lexiconlaw17_CompatWorst_6 : List AOper := [mv 30 5, mv 31 0, o_ 32 (.lenl (.t 31)), o_ 33 (.slcl 27 3 (.t 30) none (some (.t 32)) none), mv 34 0, o_ 35 (.call 7 [(.t 33), (.t 34)]), mv 7 35]
def A_lexiconlaw17_CompatWorst_7 : List AOper := [mv 36 5, mv 37 0, o_ 38 (.lenl (.t 37)), o_ 39 (.iaddr 27 3 (.t 36) (.t 38)), o_ 40 (.lda 3 (.t 39)), o_ 41 (.build [.str [], .int .i32 (0), .int .u8 (0)] [(2, 1, (.c (.int .u8 (88))))]), o_ 42 (.aeq false [0, 1, 1] (.t 40) (.t 41)), mv 43 42, g_ 44 (.mov (.t 5)) 43, g_ 45 (.mov (.t 0)) 43, g_ 46 (.lenl (.t 45)) 43, g_ 47 (.bini .add (.t 46) (i_ 1)) 43, g_ 48 (.iaddr 27 3 (.t 44) (.t 47)) 43, g_ 49 (.lda 3 (.t 48)) 43, g_ 50 (.build [.str [], .int .i32 (0), .int .u8 (0)] [(2, 1, (.c (.int .u8 (89))))]) 43, g_ 51 (.aeq false [0, 1, 1] (.t 49) (.t 50)) 43, o_ 52 (.pick (.t 43) (.t 51) (.c (.bool false))), mv 8 52]
def A_lexiconlaw17_CompatWorst_8 : List AOper := [mv 53 9, mv 54 5, o_ 55 (.lenl (.t 54)), o_ 56 (.bini .lss (.t 53) (.t 55))]
def A_lexiconlaw17_CompatWorst_9 : List AOper := [mv 59 5, mv 60 9, o_ 61 (.build [.str [], .int .i32 (0), .int .u8 (0)] [(2, 1, (.c (.int .u8 (6))))]), o_ 62 (.iaddr 27 3 (.t 59) (.t 60)), n_ (.st 3 (.t 62) (.t 61))]
def A_lexiconlaw17_CompatWorst_10 : List AOper := [mv 57 9, o_ 58 (.bini .add (.t 57) (i_ 1)), mv 9 58]
def A_lexiconlaw17_CompatWorst_11 : ACode := (.seq (.seq (.ops A_lexiconlaw17_CompatWorst_8) (.cond (.t 56) .skip (.exit 0))) (.seq (.block 1 (.ops A_lexiconlaw17_CompatWorst_9)) (.ops A_lexiconlaw17_CompatWorst_10)))
def A_lexiconlaw17_CompatWorst_12 : List AOper := [mv 63 5, mv 64 0, o_ 65 (.lenl (.t 64)), o_ 66 (.slcl 27 3 (.t 63) none (some (.t 65)) none), o_ 67 (.call 6 [(.t 66)]), mv 10 67]
def A_lexiconlaw17_CompatWorst_13 : List AOper := [mv 68 3, mv 69 68, g_ 70 (.mov (.t 7)) 69, o_ 71 (.pick (.t 69) (.t 70) (.c (.bool false))), mv 72 71, g_ 73 (.mov (.t 8)) 72, o_ 74 (.pick (.t 72) (.t 73) (.c (.bool false))), mv 75 74, g_ 76 (.mov (.t 6)) 75, g_ 77 (.mov (.t 0)) 75, g_ 78 (.call 8 [(.t 77)]) 75, g_ 79 (.bini .eql (.t 76) (.t 78)) 75, o_ 80 (.pick (.t 75) (.t 79) (.c (.bool false))), mv 81 80, g_ 82 (.mov (.t 10)) 81, g_ 83 (.mov (.t 5)) 81, g_ 84 (.mov (.t 0)) 81, g_ 85 (.lenl (.t 84)) 81, g_ 86 (.slcl 27 3 (.t 83) none (some (.t 85)) none) 81, g_ 87 (.call 8 [(.t 86)]) 81, g_ 88 (.bini .eql (.t 82) (.t 87)) 81, o_ 89 (.pick (.t 81) (.t 88) (.c (.bool false))), mv 2 89]
def A_lexiconlaw17_CompatWorst : ACode := (.seq (.ops [o_ 2 (.mov (.c (.bool false)))]) (.seq (.ops A_lexiconlaw17_CompatWorst_0) (.seq (.ops A_lexiconlaw17_CompatWorst_1) (.seq (.seq (.ops [mv 15 4]) (.cond (.t 15) (.seq (.ops A_lexiconlaw17_CompatWorst_2) .ret) .skip)) (.seq (.ops [o_ 5 (.mov (.c (.nils)))]) (.seq (.ops A_lexiconlaw17_CompatWorst_3) (.seq (.ops A_lexiconlaw17_CompatWorst_4) (.seq (.ops A_lexiconlaw17_CompatWorst_5) (.seq (.ops A_lexiconlaw17_CompatWorst_6) (.seq (.ops A_lexiconlaw17_CompatWorst_7) (.seq (.seq (.ops [o_ 9 (.mov (i_ 0))]) (.block 0 (.loop A_lexiconlaw17_CompatWorst_11))) (.seq (.ops A_lexiconlaw17_CompatWorst_12) (.seq (.ops A_lexiconlaw17_CompatWorst_13) .ret)))))))))))))
def R_lexiconlaw17_CompatWorst : List ARes := [.tmp 2]
theorem C_lexiconlaw17_CompatWorst : compF Tryz.prog Tryz.f4 = some (A_lexiconlaw17_CompatWorst, R_lexiconlaw17_CompatWorst) := by kernel_rfl
theorem K_lexiconlaw17_CompatWorst {md : Bool} {args : List AV} {h : Hp} {Q : Res → Hp → Prop} (hl : LCode Tryz.prog md A_lexiconlaw17_CompatWorst (EndQ R_lexiconlaw17_CompatWorst Q) (env0 90 args) h) (hn : args.length ≤ 90 := by (simp; done)) : CallL Tryz.prog F_lexiconlaw17_CompatWorst args h Q :=
  CallL.of (md := md) Tryz.func4 C_lexiconlaw17_CompatWorst (by rw [Tryz.ntmps4]; exact hn) (by rw [Tryz.ntmps4]; exact hl)
end Go.Proofs.YtcpjeocepolecaaGreatDoor

/-
  Contracts: verdicts: the worst of them, by the code and by the document; lists of them compared.
-/
namespace Go.Proofs.YtcpjeocepolecaaGreatDoor
open Go.L

/-- A verdict: its type's name, its number, what it says. -/
abbrev V := Str × Int × Int
def vr (x : V) : List AV := [.str x.1, .int .i32 x.2.1, .int .u8 x.2.2]
def vx (l : List V) : List (List AV) := l.map vr
theorem noids_vx (p : Nat → Bool) : ∀ l : List V, noidss p (vx l) = true
  | [] => rfl
  | x :: l => by
    show (noids p (vr x) && noidss p (vx l)) = true
    rw [noids_vx p l]; rfl
theorem noid_isl_vx (g : Nat) (l : List V) : noids anyMark [.isl g (vx l)] = true := by
  show (noid anyMark (.isl g (vx l)) && true) = true
  simp [noid, anyMark, noids_vx]
theorem vx_len (l : List V) : (vx l).length = l.length := List.length_map ..

/-- How bad a word is. -/
def bd (w : Int) : Int := if w = 1 then 1 else if w = 2 then 3 else if w = 3 then 4 else if w = 4 then 2 else if w = 5 then 6 else if w = 6 then 7 else if w = 7 then 5 else 0

def bds : List AV := [.int .i64 0, .int .i64 1, .int .i64 3, .int .i64 4, .int .i64 2, .int .i64 6, .int .i64 7, .int .i64 5]
def bd0 : List AV := [.int .i64 0, .int .i64 0, .int .i64 0, .int .i64 0, .int .i64 0, .int .i64 0, .int .i64 0, .int .i64 0]
theorem lay_bd (e : Env) : lay e bd0 [(0, 1, i_ 0), (1, 1, i_ 1), (2, 1, i_ 3), (3, 1, i_ 4), (4, 1, i_ 2), (5, 1, i_ 6), (6, 1, i_ 7), (7, 1, i_ 5)] = some bds := by kernel_rfl
theorem bds_at : ∀ k : Nat, k < 8 → bds[0 + k * 1]? = some (.int .i64 (bd k))
  | 0, _ => rfl
  | 1, _ => rfl
  | 2, _ => rfl
  | 3, _ => rfl
  | 4, _ => rfl
  | 5, _ => rfl
  | 6, _ => rfl
  | 7, _ => rfl
  | k + 8, h => absurd h (by omega)
theorem badness_L (w : Int) (h0 : 0 ≤ w) (h1 : w < 256) : PureL Tryz.prog F_compat_badness [.int .u8 w] (.int .i64 (bd w)) := by
  refine PureL.nil rfl ?_
  refine K_compat_badness (md := false) ?_
  refine ⟨bds, lay_bd _, rfl, rfl, ?_⟩
  intro i hi
  have e1 : (Hp.nil.set i (.row 79 [bd0])).m i = some (.row 79 [bd0]) := Hp.set_same _ _ _
  have e2 : ((Hp.nil.set i (.row 79 [bd0])).set i (.row 79 [bds])).m i = some (.row 79 [bds]) := Hp.set_same _ _ _
  refine ⟨79, [bd0], bd0, e1, rfl, rfl, rfl, rfl, Nat.le_refl _, ?_⟩
  refine s_64 (by omega) (by omega) ?_
  refine s_lt (fun h2 => ?_) (fun h2 => ?_)
  · obtain ⟨k, rfl⟩ := Int.eq_ofNat_of_zero_le h0
    have hk : k < 8 := by omega
    have hb := bds_at k hk
    refine ⟨k, rfl, hk, ?_⟩
    refine ⟨79, [bds], bds, _, e2, rfl, hb, ?_⟩
    exact ⟨rfl, _, rfl, .same _ rfl⟩
  · refine ⟨rfl, _, rfl, ?_⟩
    have : bd w = 0 := by
      unfold bd
      rw [if_neg (by omega), if_neg (by omega), if_neg (by omega), if_neg (by omega), if_neg (by omega), if_neg (by omega), if_neg (by omega)]
    rw [this]
    exact .same _ rfl

theorem vr_same (x y : V) : sameL (vr x) (vr y) = some (decide (x = y)) := by
  obtain ⟨a, b, c⟩ := x
  obtain ⟨a', b', c'⟩ := y
  show some ((a == a') && ((b == b') && ((c == c') && true))) = _
  congr 1
  rw [Bool.eq_iff_iff]
  simp
theorem s_dec {p : Prop} [Decidable p] {N : Bool → Prop} (k1 : p → N true) (k2 : ¬ p → N false) : N (decide p) := by
  by_cases h : p
  · rw [decide_eq_true h]; exact k1 h
  · rw [decide_eq_false h]; exact k2 h

theorem sameV_L (ga gb : Nat) (a b : List V) (ha : a.length ≤ 1000000000000) (hb : b.length ≤ 1000000000000) : PureL Tryz.prog F_lexiconref00_SameVerdicts [.isl ga (vx a), .isl gb (vx b)] (.bool (decide (a = b))) := by
  intro h
  have hta := vx_len a
  have htb := vx_len b
  refine K_lexiconref00_SameVerdicts (md := false) ?_
  have no : a ≠ b → false = decide (a = b) := fun h => (decide_eq_false h).symm
  refine s_ne (fun h1 => ?_) (fun h1 => ?_)
  · exact ⟨rfl, Res.bool_eq (no fun e => h1 (by rw [e])), rfl⟩
  refine s_loop a.length (fun k (_ : Unit) => k ≤ a.length ∧ ∀ (j : Nat), j < k → a[j]? = b[j]?) (fun k _ => [(0, .isl ga (vx a)), (1, .isl gb (vx b)), (5, .int .i64 k)]) (fun _ _ => h) ()
    ⟨Nat.zero_le _, fun j hj => by omega⟩ rfl rfl ⟨rfl, rfl, rfl, trivial⟩ (fun k s hI => hI.1) ?_
  intro k _ n0 g0 hk ⟨_, hall⟩
  refine s_lt (fun h2 => ?_) (fun h2 => ?_)
  · obtain ⟨x, hx⟩ := get_lt (l := a) (k := k) (by omega)
    obtain ⟨y, hy⟩ := get_lt (l := b) (k := k) (by omega)
    refine s_at k x rfl hx rfl (by decide) ?_
    refine ⟨Nat.le_refl _, ?_⟩
    refine s_at k y rfl hy rfl (by decide) ?_
    refine ⟨Nat.le_refl _, ?_⟩
    refine ⟨rfl, _, vr_same x y, ?_⟩
    by_cases h3 : x = y
    · rw [decide_eq_true h3]
      refine s_nat (k + 1) (by omega) (by omega) ?_
      refine ⟨(), by omega, ⟨by omega, fun j hj => ?_⟩, rfl, rfl, rfl, rfl, rfl, trivial⟩
      by_cases e : j = k
      · subst e; rw [hx, hy, h3]
      · exact hall j (by omega)
    · rw [decide_eq_false h3]
      refine ⟨rfl, Res.bool_eq (no fun e => h3 ?_), rfl⟩
      subst e; rw [hx] at hy; cases hy; rfl
  · refine ⟨rfl, Res.bool_eq ?_, rfl⟩
    symm; rw [decide_eq_true_eq]
    refine List.ext_getElem? fun j => ?_
    rcases Nat.lt_or_ge j k with hj | hj
    · exact hall j hj
    · rw [List.getElem?_eq_none (by omega), List.getElem?_eq_none (by omega)]

/-- The worst, by the code. -/
def wst : List V → Int → Int
  | [], w => w
  | x :: r, w => wst r (if bd x.2.2 > bd w then x.2.2 else w)
theorem wst_drop {l : List V} {k : Nat} {x : V} (h : l[k]? = some x) (w : Int) : wst (l.drop k) w = wst (l.drop (k + 1)) (if bd x.2.2 > bd w then x.2.2 else w) := by
  obtain ⟨h1, h2⟩ := List.getElem?_eq_some_iff.1 h
  rw [List.drop_eq_getElem_cons h1, h2, wst]

def v0 : List AV := [.str [], .int .i32 0, .int .u8 0]
theorem Worst_L (g : Nat) (l : List V) (hl : l.length ≤ 1000000000000) (hw : ∀ x ∈ l, 0 ≤ x.2.2 ∧ x.2.2 < 256) : PureL Tryz.prog F_compat_Worst [.isl g (vx l)] (.int .u8 (wst l 1)) := by
  refine PureL.nil (noid_isl_vx g l) ?_
  have hta := vx_len l
  refine K_compat_Worst (md := false) ?_
  refine s_blk (id := 0) (fun e' h' => e'.ds = [] ∧ Has e' [(3, .int .u8 (wst l 1))]) ?_ ?_
  · refine s_loop l.length (fun k (s : Int × Hp) => k ≤ l.length ∧ 0 ≤ s.1 ∧ s.1 < 256 ∧ wst (l.drop k) s.1 = wst l 1) (fun k s => [(3, .int .u8 s.1), (6, .isl g (vx l)), (7, .int .i64 l.length), (8, .int .i64 k)]) (fun _ s => s.2) (1, Hp.nil) ⟨Nat.zero_le _, by decide, by decide, rfl⟩ rfl rfl ⟨rfl, rfl, congrArg (fun n : Nat => AV.int .i64 n) hta, rfl, trivial⟩ (fun k s hI => hI.1) ?_
    rintro k ⟨w, h⟩ n0 g0 hk ⟨_, hw0, hw1, hm⟩
    dsimp only at hw0 hw1 hm
    refine s_lt (fun h1 => ?_) (fun h1 => ?_)
    · obtain ⟨x, hx⟩ := get_lt (l := l) (k := k) (by omega)
      have hxw := hw x (List.mem_of_getElem? hx)
      rw [wst_drop hx] at hm
      refine s_at k x rfl hx rfl (by decide) ?_
      refine ⟨Nat.le_refl _, rfl, rfl, fun i hi => ?_⟩
      have e1 : (h.set i (.row 27 [v0])).m i = some (.row 27 [v0]) := Hp.set_same _ _ _
      have e2 : ((h.set i (.row 27 [v0])).set i (.row 27 [vr x])).m i = some (.row 27 [vr x]) := Hp.set_same _ _ _
      refine ⟨27, [v0], v0, e1, rfl, rfl, rfl, rfl, Nat.le_refl _, ?_⟩
      refine ⟨27, [vr x], vr x, _, e2, rfl, rfl, ?_⟩
      refine (badness_L _ hxw.1 hxw.2).use ?_
      refine (badness_L _ hw0 hw1).use ?_
      refine s_lt (fun h2 => ?_) (fun h2 => ?_)
      · rw [if_pos h2] at hm
        refine ⟨27, [vr x], vr x, _, e2, rfl, rfl, ?_⟩
        refine s_nat (k + 1) (by omega) (by omega) ?_
        exact ⟨(x.2.2, _), by omega, ⟨by omega, hxw.1, hxw.2, hm⟩, rfl, rfl, rfl, rfl, rfl, rfl, trivial⟩
      · rw [if_neg (by omega)] at hm
        refine s_nat (k + 1) (by omega) (by omega) ?_
        exact ⟨(w, _), by omega, ⟨by omega, hw0, hw1, hm⟩, rfl, rfl, rfl, rfl, rfl, rfl, trivial⟩
    · rw [List.drop_of_length_le (by omega)] at hm
      have hm' : w = wst l 1 := hm
      exact ⟨rfl, congrArg (AV.int .u8) hm', trivial⟩
  rintro e' h' ⟨hd, hs⟩
  obtain ⟨n0, g0, rfl⟩ := hs.out hd
  exact ⟨rfl, _, rfl, .same _ rfl⟩

/-- The document's order. -/
def ord : List Int := [1, 4, 2, 3, 7, 5, 6]
def hasW (l : List V) (w : Int) : Bool := l.any fun x => x.2.2 == w
def pickW (l : List V) : List Int → Int → Int
  | [], o => o
  | w :: r, o => pickW l r (if hasW l w then w else o)
def ordB : List (List AV) := [[.int .u8 1], [.int .u8 4], [.int .u8 2], [.int .u8 3], [.int .u8 7], [.int .u8 5], [.int .u8 6]]
theorem ord_at : ∀ {k : Nat} {w : Int}, ord[k]? = some w → ordB[0 + k]? = some [.int .u8 w]
  | 0, _, h => by cases h; rfl
  | 1, _, h => by cases h; rfl
  | 2, _, h => by cases h; rfl
  | 3, _, h => by cases h; rfl
  | 4, _, h => by cases h; rfl
  | 5, _, h => by cases h; rfl
  | 6, _, h => by cases h; rfl
  | k + 7, _, h => by simp [ord] at h
theorem lay_ord (e : Env) : (lay e (rep [.int .u8 0] 7) [(0, 1, .c (.int .u8 1)), (1, 1, .c (.int .u8 4)), (2, 1, .c (.int .u8 2)), (3, 1, .c (.int .u8 3)), (4, 1, .c (.int .u8 7)), (5, 1, .c (.int .u8 5)), (6, 1, .c (.int .u8 6))]) = some ordB.flatten := by kernel_rfl
theorem chunk_ord : chunk 1 7 ordB.flatten = ordB := by kernel_rfl
theorem pickW_drop {l : List V} {k : Nat} {w : Int} (h : ord[k]? = some w) (o : Int) : pickW l (ord.drop k) o = pickW l (ord.drop (k + 1)) (if hasW l w then w else o) := by
  obtain ⟨h1, h2⟩ := List.getElem?_eq_some_iff.1 h
  rw [List.drop_eq_getElem_cons h1, h2, pickW]
theorem hasW_take {l : List V} {i : Nat} {x : V} (h : l[i]? = some x) (w : Int) : hasW (l.take (i + 1)) w = (hasW (l.take i) w || x.2.2 == w) := by
  rw [List.take_add_one, h]
  simp [hasW, List.any_append]

theorem rWorst_L (g : Nat) (l : List V) (hl : l.length ≤ 1000000000000) : PureL Tryz.prog F_lexiconref17_Worst [.isl g (vx l)] (.int .u8 (pickW l ord 1)) := by
  refine PureL.nil (noid_isl_vx g l) ?_
  have hta := vx_len l
  refine K_lexiconref17_Worst (md := false) ?_
  have eH : ∀ b : Nat, Hp.nil.set b (.row 23 (chunk 1 7 ordB.flatten)) = Hp.nil.set b (.row 23 ordB) := fun b => by rw [chunk_ord]
  refine ⟨_, lay_ord _, fun b hb => ?_⟩
  have hB : (Hp.nil.set b (.row 23 ordB)).m b = some (.row 23 ordB) := Hp.set_same _ _ _
  refine s_blk (id := 0) (fun e' h' => e'.ds = [] ∧ Has e' [(4, .int .u8 (pickW l ord 1))]) ?_ ?_
  · refine s_loop 7 (fun k (o : Int) => k ≤ 7 ∧ pickW l (ord.drop k) o = pickW l ord 1) (fun k o => [(0, .isl g (vx l)), (3, .slc b 0 7 (some 7)), (4, .int .u8 o), (5, .int .i64 k)]) (fun _ _ => Hp.nil.set b (.row 23 ordB)) 1 ⟨Nat.zero_le _, rfl⟩ (eH b) rfl ⟨rfl, rfl, rfl, rfl, trivial⟩ (fun k s hI => hI.1) ?_
    rintro k o n0 g0 hk ⟨_, hm⟩
    refine s_lt (fun h1 => ?_) (fun h1 => ?_)
    · obtain ⟨w, hwk⟩ := get_lt (l := ord) (k := k) (by show k < 7; omega)
      have hwb := ord_at hwk
      rw [pickW_drop hwk] at hm
      refine s_loop l.length (fun i (o' : Int) => i ≤ l.length ∧ o' = if hasW (l.take i) w then w else o) (fun i o' => [(0, .isl g (vx l)), (3, .slc b 0 7 (some 7)), (4, .int .u8 o'), (5, .int .i64 k), (6, .int .i64 i)]) (fun _ _ => Hp.nil.set b (.row 23 ordB)) o ⟨Nat.zero_le _, rfl⟩ rfl rfl ⟨rfl, rfl, rfl, rfl, rfl, trivial⟩ (fun i s hI => hI.1) ?_
      rintro i o' n1 g1 hi ⟨_, ho⟩
      refine s_lt (fun h2 => ?_) (fun h2 => ?_)
      · obtain ⟨x, hx⟩ := get_lt (l := l) (k := i) (by omega)
        have ht := hasW_take hx w
        refine s_at i x rfl hx rfl (by decide) ?_
        refine ⟨_, rfl, ?_⟩
        refine ⟨k, rfl, by omega, ⟨_, hB⟩, ?_⟩
        refine ⟨_, _, _, _, hB, hwb, rfl, ?_⟩
        refine s_eq (fun h3 => ?_) (fun h3 => ?_)
        · refine ⟨k, rfl, by omega, ⟨_, hB⟩, ?_⟩
          refine ⟨_, _, _, _, hB, hwb, rfl, ?_⟩
          refine s_nat (i + 1) (by omega) (by omega) ?_
          refine ⟨w, by omega, ⟨by omega, ?_⟩, rfl, rfl, rfl, rfl, rfl, rfl, rfl, trivial⟩
          rw [ht, h3]; simp
        · refine s_nat (i + 1) (by omega) (by omega) ?_
          refine ⟨o', by omega, ⟨by omega, ?_⟩, rfl, rfl, rfl, rfl, rfl, rfl, rfl, trivial⟩
          rw [ht, show (x.2.2 == w) = false from beq_eq_false_iff_ne.2 h3, Bool.or_false]; exact ho
      · rw [List.take_of_length_le (by omega)] at ho
        refine s_nat (k + 1) (by omega) (by omega) ?_
        refine ⟨o', by omega, ⟨by omega, by rw [ho]; exact hm⟩, rfl, rfl, rfl, rfl, rfl, rfl, trivial⟩
    · obtain rfl : k = 7 := by omega
      have hm' : o = pickW l ord 1 := hm
      exact ⟨rfl, congrArg (AV.int .u8) hm', trivial⟩
  rintro e' h' ⟨hd, hs⟩
  obtain ⟨n0, g0, rfl⟩ := hs.out hd
  exact ⟨rfl, _, rfl, .same _ rfl⟩

/-! ### The two answer alike -/
theorem wst_max : ∀ (l : List V) (w : Int), bd w ≤ bd (wst l w) ∧ (∀ x ∈ l, bd x.2.2 ≤ bd (wst l w)) ∧ (wst l w = w ∨ ∃ x ∈ l, x.2.2 = wst l w)
  | [], w => ⟨Int.le_refl _, (fun _ h => by cases h), .inl rfl⟩
  | x :: r, w => by
    rw [wst]
    obtain ⟨h1, h2, h3⟩ := wst_max r (if bd x.2.2 > bd w then x.2.2 else w)
    by_cases hb : bd x.2.2 > bd w
    · rw [if_pos hb] at h1 h2 h3 ⊢
      refine ⟨by omega, fun y hy => ?_, .inr ?_⟩
      · rcases List.mem_cons.1 hy with rfl | hy
        · exact h1
        · exact h2 y hy
      · rcases h3 with h3 | ⟨y, hy, h3⟩
        · exact ⟨x, List.mem_cons_self, h3.symm⟩
        · exact ⟨y, List.mem_cons_of_mem _ hy, h3⟩
    · rw [if_neg hb] at h1 h2 h3 ⊢
      refine ⟨h1, fun y hy => ?_, ?_⟩
      · rcases List.mem_cons.1 hy with rfl | hy
        · omega
        · exact h2 y hy
      · rcases h3 with h3 | ⟨y, hy, h3⟩
        · exact .inl h3
        · exact .inr ⟨y, List.mem_cons_of_mem _ hy, h3⟩
theorem hasW_true {l : List V} {w : Int} : hasW l w = true ↔ ∃ x ∈ l, x.2.2 = w := by simp [hasW]
theorem bd_pos {w : Int} (h : 1 ≤ bd w) : w = 1 ∨ w = 2 ∨ w = 3 ∨ w = 4 ∨ w = 5 ∨ w = 6 ∨ w = 7 := by
  unfold bd at h
  repeat' split at h
  all_goals omega
theorem worst_eq (l : List V) : wst l 1 = pickW l ord 1 := by
  obtain ⟨h1, h2, h3⟩ := wst_max l 1
  have up : ∀ w : Int, hasW l w = true → bd w ≤ bd (wst l 1) := fun w h => by
    obtain ⟨x, hx, rfl⟩ := hasW_true.1 h
    exact h2 x hx
  have is : wst l 1 = 1 ∨ hasW l (wst l 1) = true := h3.imp id fun ⟨x, hx, e⟩ => hasW_true.2 ⟨x, hx, e⟩
  generalize wst l 1 = r at h1 up is
  clear h2 h3
  have u2 := up 2; have u3 := up 3; have u4 := up 4; have u5 := up 5; have u6 := up 6; have u7 := up 7
  simp only [show bd 1 = 1 from rfl, show bd 2 = 3 from rfl, show bd 3 = 4 from rfl, show bd 4 = 2 from rfl, show bd 5 = 6 from rfl, show bd 6 = 7 from rfl, show bd 7 = 5 from rfl] at h1 u2 u3 u4 u5 u6 u7
  simp only [pickW, ord]
  rcases bd_pos h1 with rfl | rfl | rfl | rfl | rfl | rfl | rfl <;>
    simp only [show bd 1 = 1 from rfl, show bd 2 = 3 from rfl, show bd 3 = 4 from rfl, show bd 4 = 2 from rfl, show bd 5 = 6 from rfl, show bd 6 = 7 from rfl, show bd 7 = 5 from rfl] at u2 u3 u4 u5 u6 u7 <;>
    cases c1 : hasW l 1 <;> cases c2 : hasW l 2 <;> cases c3 : hasW l 3 <;> cases c4 : hasW l 4 <;> cases c5 : hasW l 5 <;> cases c6 : hasW l 6 <;> cases c7 : hasW l 7 <;> simp_all
end Go.Proofs.YtcpjeocepolecaaGreatDoor

/-
  Contract: the law CompatWorst.
-/
namespace Go.Proofs.YtcpjeocepolecaaGreatDoor
open Go.L

theorem vx_app (l m : List V) : vx (l ++ m) = vx l ++ vx m := List.map_append ..
theorem vx_get {l : List V} {k : Nat} {x : V} (h : l[k]? = some x) : (vx l)[k]? = some (vr x) := by rw [vx, List.getElem?_map, h]; rfl
theorem vx_three (l : List V) : ∀ cs ∈ vx l, cs.length = 3 := fun cs h => by
  obtain ⟨x, _, rfl⟩ := List.mem_map.1 h; rfl
theorem vx_flat (l : List V) : ∀ cs ∈ vx l, flat cs = true := fun cs h => by
  obtain ⟨x, _, rfl⟩ := List.mem_map.1 h; rfl
/-- A list lent out of a longer one. -/
theorem Fz_vx {g i T : Nat} {h : Hp} {l : List V} {rest : List (List AV)} {c : Option Nat} (hi : h i = some (.row T (vx l ++ rest))) : Fz anyMark g h (.slc i 0 l.length c) (.isl g (vx l)) := by
  have get : ∀ (k : Nat) (cs cs' : List AV), (vx l ++ rest)[0 + k]? = some cs → (vx l)[k]? = some cs' → cs' = cs := fun k cs cs' h1 h2 => by
    rw [Nat.zero_add, List.getElem?_append_left (List.getElem?_eq_some_iff.1 h2).1, h2] at h1; cases h1; rfl
  refine .slc i 0 l.length _ T _ _ hi (by rw [List.length_append, vx_len]; omega) (vx_len l) (fun k cs cs' h1 h2 => by rw [get k cs cs' h1 h2]) (fun k cs cs' q u u' h1 h2 h3 h4 => ?_)
  obtain rfl := get k cs cs' h1 h2
  rw [h3] at h4; cases h4
  exact .same _ (noidss_get (noids_vx anyMark l) k cs' q u h2 h3)
theorem noid_vx (p : Nat → Bool) (g : Nat) (l : List V) (hg : p g = true) : noid p (.isl g (vx l)) = true := by simp [noid, hg, noids_vx]

theorem FzL_single {p : Nat → Bool} {g : Nat} {h : Hp} {a a' : AV} (h1 : Fz p g h a a') : FzL p g h [a] [a'] := by
  refine ⟨rfl, fun q v v' e1 e2 => ?_⟩
  match q with
  | 0 => cases e1; cases e2; exact h1
  | q + 1 => simp at e1

def m88 : V := ([], 0, 88)
def m89 : V := ([], 0, 89)
def m6 : V := ([], 0, 6)

theorem lay_88 (e : Env) : lay e [.str [], .int .i32 0, .int .u8 0] [(2, 1, .c (.int .u8 88))] = some (vr m88) := by kernel_rfl
theorem lay_89 (e : Env) : lay e [.str [], .int .i32 0, .int .u8 0] [(2, 1, .c (.int .u8 89))] = some (vr m89) := by kernel_rfl
theorem lay_two {e : Env} {x y : AOpd} (hx : ev e x = .agg (vr m88)) (hy : ev e y = .agg (vr m89)) : lay e (rep [.str [], .int .i32 0, .int .u8 0] 2) [(0, 3, x), (3, 3, y)] = some (vr m88 ++ vr m89) := by
  simp only [lay, hx, hy]; rfl
theorem chunk_two : chunk 3 2 (vr m88 ++ vr m89) = vx [m88, m89] := by kernel_rfl
theorem last_L (l : List V) (j : Nat) (rest : List (List AV)) (e : Env) (h : Hp) (hl : l.length ≤ 4194304) (hw : ∀ x ∈ l, 0 ≤ x.2.2 ∧ x.2.2 < 256)
    (hj : h j = some (.row 27 (vx (List.replicate l.length m6) ++ rest))) (hd : e.ds = [])
    (hs : Has e [(0, .isl 0 (vx l)), (3, .bool true), (5, .slc j 0 (l.length + 2) none), (6, .int .u8 (wst l 1)), (7, .bool true), (8, .bool true)]) :
    LCode Tryz.prog false (.seq (.ops A_lexiconlaw17_CompatWorst_12) (.seq (.ops A_lexiconlaw17_CompatWorst_13) .ret)) (EndQ R_lexiconlaw17_CompatWorst fun r _ => r = .ret (.bool true)) e h := by
  obtain ⟨n0, g0, rfl⟩ := hs.out hd
  clear hs hd
  have hta := vx_len l
  have hlen : (List.replicate l.length m6).length = l.length := List.length_replicate
  have hfz : Fz anyMark 1 h (.slc j 0 l.length none) (.isl 1 (vx (List.replicate l.length m6))) := by
    have := Fz_vx (g := 1) (c := none) hj
    rwa [hlen] at this
  have h6 : ∀ x ∈ List.replicate l.length m6, 0 ≤ x.2.2 ∧ x.2.2 < 256 := fun x hx => by
    obtain rfl := List.eq_of_mem_replicate hx
    decide
  have pw := Worst_L 1 (List.replicate l.length m6) (by omega) h6
  have pr := rWorst_L 0 l (by omega)
  have pr2 := rWorst_L 1 (List.replicate l.length m6) (by omega)
  have e1 := worst_eq l
  have e2 := worst_eq (List.replicate l.length m6)
  refine ⟨⟨_, hj⟩, l.length, congrArg _ hta, Nat.zero_le _, ?_, ?_⟩
  · show l.length ≤ l.length + 2; omega
  refine CallL.lentP pw (FzL_single hfz) rfl ?_
  refine pr.use ?_
  refine s_eq (fun _ => ?_) (fun h1 => absurd e1 h1)
  refine ⟨⟨_, hj⟩, l.length, congrArg _ hta, Nat.zero_le _, ?_, ?_⟩
  · show l.length ≤ l.length + 2; omega
  refine CallL.lentP pr2 (FzL_single hfz) rfl ?_
  refine s_eq (fun _ => ?_) (fun h1 => absurd e2 h1)
  exact ⟨rfl, rfl⟩

theorem spoil_L (l : List V) (j : Nat) (row : List (List AV)) (e : Env) (h : Hp) (hl : l.length ≤ 4194304) (hw : ∀ x ∈ l, 0 ≤ x.2.2 ∧ x.2.2 < 256)
    (hj : h j = some (.row 27 row)) (hrow : row.take (l.length + 2) = vx (l ++ [m88, m89])) (hd : e.ds = [])
    (hs : Has e [(0, .isl 0 (vx l)), (3, .bool true), (5, .slc j 0 (l.length + 2) none), (6, .int .u8 (wst l 1)), (7, .bool true), (8, .bool true)]) :
    LCode Tryz.prog false (.seq (.seq (.ops [o_ 9 (.mov (i_ 0))]) (.block 0 (.loop A_lexiconlaw17_CompatWorst_11))) (.seq (.ops A_lexiconlaw17_CompatWorst_12) (.seq (.ops A_lexiconlaw17_CompatWorst_13) .ret))) (EndQ R_lexiconlaw17_CompatWorst fun r _ => r = .ret (.bool true)) e h := by
  obtain ⟨n0, g0, rfl⟩ := hs.out hd
  clear hs hd
  have at_ : ∀ k : Nat, k < l.length + 2 → ∃ x : V, row[k]? = some (vr x) := fun k hk => by
    obtain ⟨x, hx⟩ := get_lt (l := l ++ [m88, m89]) (k := k) (by simp; omega)
    refine ⟨x, ?_⟩
    have := vx_get hx
    rw [← hrow, List.getElem?_take_of_lt hk] at this
    exact this
  refine s_then (fun e' h' => h' j = some (.row 27 (vx (List.replicate l.length m6) ++ (vx [m6, m6] ++ row.drop (l.length + 2)))) ∧ e'.ds = [] ∧ Has e' [(0, .isl 0 (vx l)), (3, .bool true), (5, .slc j 0 (l.length + 2) none), (6, .int .u8 (wst l 1)), (7, .bool true), (8, .bool true)]) ?_ (fun e' h' ⟨h1, h2, h3⟩ => last_L l j _ e' h' hl hw h1 h2 h3)
  refine s_loop (l.length + 2) (fun k (_ : Unit) => k ≤ l.length + 2) (fun k _ => [(0, .isl 0 (vx l)), (3, .bool true), (5, .slc j 0 (l.length + 2) none), (6, .int .u8 (wst l 1)), (7, .bool true), (8, .bool true), (9, .int .i64 k)]) (fun k _ => h.set j (.row 27 (vx (List.replicate k m6) ++ row.drop k))) () (Nat.zero_le _) (by rw [List.drop_zero]; exact (Hp.set_self hj).symm) rfl ⟨rfl, rfl, rfl, rfl, rfl, rfl, rfl, trivial⟩ (fun k s hI => hI) ?_
  intro k _ n1 g1 hk _
  have hH : (h.set j (.row 27 (vx (List.replicate k m6) ++ row.drop k))).m j = some (.row 27 (vx (List.replicate k m6) ++ row.drop k)) := Hp.set_same _ _ _
  refine s_lt (fun h1 => ?_) (fun h1 => ?_)
  · have hk2 : k < l.length + 2 := by omega
    obtain ⟨x, hx⟩ := at_ k hk2
    have hg : (vx (List.replicate k m6) ++ row.drop k)[0 + k]? = some (vr x) := by
      rw [Nat.zero_add, List.getElem?_append_right (by rw [vx_len, List.length_replicate]; exact Nat.le_refl _), vx_len, List.length_replicate, Nat.sub_self, List.getElem?_drop]; exact hx
    have hset : (vx (List.replicate k m6) ++ row.drop k).set (0 + k) (vr m6) = vx (List.replicate (k + 1) m6) ++ row.drop (k + 1) := by
      obtain ⟨q1, q2⟩ := List.getElem?_eq_some_iff.1 hx
      rw [Nat.zero_add, List.set_append_right _ _ (by rw [vx_len, List.length_replicate]; exact Nat.le_refl _), vx_len, List.length_replicate, Nat.sub_self, List.drop_eq_getElem_cons q1, List.set_cons_zero, List.replicate_succ', vx_app, List.append_assoc]
      rfl
    refine ⟨_, rfl, k, rfl, hk2, ⟨_, hH⟩, ?_⟩
    refine ⟨_, _, _, hH, hg, rfl, rfl, rfl, Nat.le_refl _, ?_⟩
    refine s_nat (k + 1) (by omega) (by omega) ?_
    refine ⟨(), by omega, by omega, ?_, rfl, rfl, rfl, rfl, rfl, rfl, rfl, rfl, trivial⟩
    rw [Hp.set_set]
    exact congrArg (fun es => h.set j (.row 27 es)) hset
  · obtain rfl : k = l.length + 2 := by omega
    refine ⟨?_, rfl, rfl, rfl, rfl, rfl, rfl, rfl, trivial⟩
    have e : List.replicate (l.length + 2) m6 = List.replicate l.length m6 ++ [m6, m6] := by
      rw [List.replicate_succ', List.replicate_succ', List.append_assoc]; rfl
    rw [hH, e, vx_app, List.append_assoc]

theorem check_L (l : List V) (j : Nat) (row : List (List AV)) (e : Env) (h : Hp) (hl : l.length ≤ 4194304) (hw : ∀ x ∈ l, 0 ≤ x.2.2 ∧ x.2.2 < 256)
    (hj : h j = some (.row 27 row)) (hrow : row.take (l.length + 2) = vx (l ++ [m88, m89])) (hd : e.ds = [])
    (hs : Has e [(0, .isl 0 (vx l)), (3, .bool true), (5, .slc j 0 (l.length + 2) none)]) :
    LCode Tryz.prog false (.seq (.ops A_lexiconlaw17_CompatWorst_5) (.seq (.ops A_lexiconlaw17_CompatWorst_6) (.seq (.ops A_lexiconlaw17_CompatWorst_7) (.seq (.seq (.ops [o_ 9 (.mov (i_ 0))]) (.block 0 (.loop A_lexiconlaw17_CompatWorst_11))) (.seq (.ops A_lexiconlaw17_CompatWorst_12) (.seq (.ops A_lexiconlaw17_CompatWorst_13) .ret)))))) (EndQ R_lexiconlaw17_CompatWorst fun r _ => r = .ret (.bool true)) e h := by
  refine s_then3 (fun e' h' => h' = h ∧ e'.ds = [] ∧ Has e' [(0, .isl 0 (vx l)), (3, .bool true), (5, .slc j 0 (l.length + 2) none), (6, .int .u8 (wst l 1)), (7, .bool true), (8, .bool true)]) ?_ (fun e' h' ⟨h1, h2, h3⟩ => spoil_L l j row e' h' hl hw (by rw [h1]; exact hj) hrow h2 h3)
  obtain ⟨n0, g0, rfl⟩ := hs.out hd
  clear hs hd
  have hta := vx_len l
  have hsplit : row = vx l ++ (vx [m88, m89] ++ row.drop (l.length + 2)) := by
    rw [← List.append_assoc, ← vx_app, ← hrow, List.take_append_drop]
  have hj2 : h j = some (.row 27 (vx l ++ (vx [m88, m89] ++ row.drop (l.length + 2)))) := by rw [← hsplit]; exact hj
  have hfz : Fz anyMark 1 h (.slc j 0 l.length none) (.isl 1 (vx l)) := Fz_vx hj2
  have r1 : row[0 + l.length]? = some (vr m88) := by
    rw [hsplit, Nat.zero_add, List.getElem?_append_right (by omega), hta, Nat.sub_self]; rfl
  have r2 : row[0 + (l.length + 1)]? = some (vr m89) := by
    rw [hsplit, Nat.zero_add, List.getElem?_append_right (by omega), hta, show l.length + 1 - l.length = 1 by omega]; rfl
  have pw := Worst_L 1 l (by omega) hw
  have ps := sameV_L 1 0 l l (by omega) (by omega)
  rw [decide_eq_true rfl] at ps
  refine ⟨⟨_, hj⟩, l.length, congrArg _ hta, Nat.zero_le _, ?_, ?_⟩
  · show l.length ≤ l.length + 2; omega
  refine CallL.lentP pw (FzL_single hfz) rfl ?_
  refine ⟨⟨_, hj⟩, l.length, congrArg _ hta, Nat.zero_le _, ?_, ?_⟩
  · show l.length ≤ l.length + 2; omega
  refine CallL.lentP ps (FzL.two hfz (.same _ (noid_vx _ _ _ rfl))) rfl ?_
  refine ⟨l.length, congrArg _ hta, by omega, ⟨_, hj⟩, ?_⟩
  refine ⟨_, _, _, hj, r1, Nat.le_refl _, ?_⟩
  refine ⟨vr m88, lay_88 _, rfl, true, rfl, ?_⟩
  refine s_nat (l.length + 1) (by rw [hta]; rfl) (by omega) ?_
  refine ⟨l.length + 1, rfl, by omega, ⟨_, hj⟩, ?_⟩
  refine ⟨_, _, _, hj, r2, Nat.le_refl _, ?_⟩
  refine ⟨vr m89, lay_89 _, rfl, true, rfl, ?_⟩
  exact ⟨rfl, rfl, rfl, rfl, rfl, rfl, rfl, rfl, trivial⟩

theorem CompatWorst_L (l : List V) (hl : l.length ≤ 1000000000000000) (hw : ∀ x ∈ l, 0 ≤ x.2.2 ∧ x.2.2 < 256) (up : PureL Tryz.prog 5 [] (.bool true)) :
    CallL Tryz.prog F_lexiconlaw17_CompatWorst [.isl 0 (vx l)] Hp.nil fun r _ => r = .ret (.bool true) := by
  have hta := vx_len l
  refine K_lexiconlaw17_CompatWorst (md := false) ?_
  refine s_then4 (fun e' _ => l.length ≤ 4194304 ∧ e'.ds = [] ∧ Has e' [(0, .isl 0 (vx l)), (3, .bool true)]) ?_ ?_
  · refine up.use ?_
    refine s_lt (fun h1 => ?_) (fun h1 => ?_)
    · exact ⟨rfl, rfl⟩
    · exact ⟨by omega, rfl, rfl, rfl, trivial⟩
  rintro e h ⟨hn, hd, hs⟩
  refine s_then3 (fun e' h' => ∃ j row, h' j = some (.row 27 row) ∧ row.take (l.length + 2) = vx (l ++ [m88, m89]) ∧ e'.ds = [] ∧ Has e' [(0, .isl 0 (vx l)), (3, .bool true), (5, .slc j 0 (l.length + 2) none)]) ?_ (fun e' h' ⟨j, row, h1, h2, h3, h4⟩ => check_L l j row e' h' hn hw h1 h2 h3 h4)
  obtain ⟨n0, g0, rfl⟩ := hs.out hd
  clear hs hd
  refine ⟨_, rfl, ?_⟩
  refine Acc.app (Acc.nil 27 h) (vx_three l) (vx_flat l) (by rw [hta, List.length_nil]; unfold capMax; omega) (by rw [hta, List.length_nil]; unfold capMax; omega) fun v1 H1 a1 _ _ => ?_
  have fin : ∀ (v2 : AV) (H2 : Hp), Acc 27 h H2 v2 (([] ++ vx l) ++ vx [m88, m89]) → ∃ j row, v2 = .slc j 0 (l.length + 2) none ∧ H2 j = some (.row 27 row) ∧ row.take (l.length + 2) = vx (l ++ [m88, m89]) := fun v2 H2 a2 => by
    obtain ⟨j, row, h1, _, h2, h3, _⟩ := a2.slc (by simp [vx])
    have e : (([] ++ vx l) ++ vx [m88, m89]).length = l.length + 2 := by rw [List.nil_append, List.length_append, hta]; rfl
    rw [e] at h1 h3
    exact ⟨j, row, h1, h2, by rw [h3, List.nil_append, vx_app]⟩
  have hb : (([] : List (List AV)) ++ vx l).length + (vx [m88, m89]).length = l.length + 2 := by rw [List.nil_append, hta]; rfl
  have src : ∀ tb : Nat, (H1.set tb (.row 27 (chunk 3 2 (vr m88 ++ vr m89)))).m tb = some (.row 27 (vx [m88, m89])) := fun tb => by rw [chunk_two]; exact Hp.set_same _ _ _
  rcases a1.shape with rfl | ⟨j1, n1, rfl⟩
  · refine ⟨vr m88, lay_88 _, vr m89, lay_89 _, _, lay_two rfl rfl, fun tb htb => ?_⟩
    refine ⟨vx [m88, m89], ⟨_, _, src tb, Nat.le_refl _, rfl⟩, ?_⟩
    refine Acc.app (a1.set htb.1 _) (vx_three _) (vx_flat _) (by rw [hb]; unfold capMax; omega) (by rw [hb]; unfold capMax; omega) fun v2 H2 a2 _ _ => ?_
    obtain ⟨j, row, rfl, h2, h3⟩ := fin v2 H2 a2
    exact ⟨j, row, h2, h3, rfl, rfl, rfl, rfl, trivial⟩
  · refine ⟨vr m88, lay_88 _, vr m89, lay_89 _, _, lay_two rfl rfl, fun tb htb => ?_⟩
    refine ⟨vx [m88, m89], ⟨_, _, src tb, Nat.le_refl _, rfl⟩, ?_⟩
    refine Acc.app (a1.set htb.1 _) (vx_three _) (vx_flat _) (by rw [hb]; unfold capMax; omega) (by rw [hb]; unfold capMax; omega) fun v2 H2 a2 _ _ => ?_
    obtain ⟨j, row, rfl, h2, h3⟩ := fin v2 H2 a2
    exact ⟨j, row, h2, h3, rfl, rfl, rfl, rfl, trivial⟩
end Go.Proofs.YtcpjeocepolecaaGreatDoor
