/- The logic L (of no program), and plain laws: texts put together; no conditions. -/
import Derived.Test.YtpmjgnpkbmfimabGreatDoorY3
/- The codes of functions as the logic has them. Printed by program (gen_all.py). -/
namespace Go.Proofs.YtpmjgnpkbmfimabGreatDoor
open Go.L
abbrev F_q413 : Nat := 413
def A_q413_0 : List AOper := [mv 10 6, o_ 7 (.mov (i_ 0)), mv 8 10]
def A_q413_1 : List AOper := [mv 11 8, mv 12 1, o_ 13 (.bini .leq (.t 11) (.t 12))]
def A_q413_2 : List AOper := [mv 14 0, mv 15 7, mv 16 8, mv 17 2, o_ 18 (.call 421 [(.t 14), (.t 15), (.t 16), (.t 17)])]
def A_q413_3 : List AOper := [mv 19 8, mv 7 19]
def A_q413_4 : List AOper := [mv 20 8, mv 21 6, o_ 22 (.bini .add (.t 20) (.t 21)), mv 8 22]
def A_q413_5 : ACode := (.seq (.seq (.ops A_q413_1) (.cond (.t 13) .bad (.exit 0))) (.block 1 (.seq (.ops A_q413_2) (.seq (.ops A_q413_3) (.ops A_q413_4)))))
def A_q413_6 : List AOper := [mv 23 0, mv 24 7, mv 25 1, mv 26 2, o_ 27 (.call 421 [(.t 23), (.t 24), (.t 25), (.t 26)])]
def A_q413_7 : List AOper := [mv 28 6, mv 29 1, o_ 30 (.bini .lss (.t 28) (.t 29))]
def A_q413_8 : List AOper := [mv 31 6, o_ 32 (.bini .mul (i_ 2) (.t 31)), o_ 7 (.mov (i_ 0)), mv 8 32]
def A_q413_9 : List AOper := [mv 33 8, mv 34 1, o_ 35 (.bini .leq (.t 33) (.t 34))]
def A_q413_10 : List AOper := [mv 36 0, mv 37 7, mv 38 7, mv 39 6, o_ 40 (.bini .add (.t 38) (.t 39)), mv 41 8, mv 42 2, o_ 43 (.call 422 [(.t 36), (.t 37), (.t 40), (.t 41), (.t 42)])]
def A_q413_11 : List AOper := [mv 44 8, mv 7 44]
def A_q413_12 : List AOper := [mv 45 8, mv 46 6, o_ 47 (.bini .mul (i_ 2) (.t 46)), o_ 48 (.bini .add (.t 45) (.t 47)), mv 8 48]
def A_q413_13 : ACode := (.seq (.seq (.ops A_q413_9) (.cond (.t 35) .bad .bad)) (.block 5 (.seq (.ops A_q413_10) (.seq (.ops A_q413_11) (.ops A_q413_12)))))
def A_q413_14 : List AOper := [mv 49 7, mv 50 6, o_ 51 (.bini .add (.t 49) (.t 50)), mv 9 51]
def A_q413_15 : List AOper := [mv 52 9, mv 53 1, o_ 54 (.bini .lss (.t 52) (.t 53))]
def A_q413_16 : List AOper := [mv 61 6, o_ 62 (.bini .mul (.t 61) (i_ 2)), mv 6 62]
def A_q413_17 : ACode := (.seq (.seq (.ops A_q413_7) (.cond (.t 30) .bad (.exit 2))) (.block 3 (.seq (.ops A_q413_8) (.seq (.block 4 (.loop A_q413_13)) (.seq (.seq (.ops A_q413_14) (.seq (.ops A_q413_15) (.cond (.t 54) .bad .bad))) (.ops A_q413_16))))))
def A_q413 : ACode := (.seq (.ops [o_ 6 (.mov (i_ 20))]) (.seq (.ops A_q413_0) (.seq (.block 0 (.loop A_q413_5)) (.seq (.ops A_q413_6) (.block 2 (.loop A_q413_17))))))
def R_q413 : List ARes := []
def T_q413 : FC := ⟨63, A_q413, R_q413⟩
abbrev F_q421 : Nat := 421
def A_q421_0 : List AOper := [mv 10 1, o_ 11 (.bini .add (.t 10) (i_ 1)), mv 8 11]
def A_q421_1 : List AOper := [mv 12 8, mv 13 2, o_ 14 (.bini .lss (.t 12) (.t 13))]
def A_q421_2 : List AOper := [mv 17 8, mv 9 17]
def A_q421_3 : List AOper := [mv 18 9, mv 19 1, o_ 20 (.bini .gtr (.t 18) (.t 19)), mv 21 20, g_ 22 (.mov (.t 3)) 21, g_ 23 (.mov (.t 0)) 21, g_ 24 (.mov (.t 9)) 21, g_ 25 (.iaddr 146 9 (.t 23) (.t 24)) 21, g_ 26 (.lda 9 (.t 25)) 21, g_ 27 (.mov (.t 0)) 21, g_ 28 (.mov (.t 9)) 21, g_ 29 (.bini .sub (.t 28) (i_ 1)) 21, g_ 30 (.iaddr 146 9 (.t 27) (.t 29)) 21, g_ 31 (.lda 9 (.t 30)) 21, g_ 32 (.callv (.t 22) [(.t 26), (.t 31)]) 21, g_ 33 (.bini .lss (.t 32) (i_ 0)) 21, o_ 34 (.pick (.t 21) (.t 33) (.c (.bool false)))]
def A_q421_4 : List AOper := [mv 37 0, mv 38 9, mv 39 0, mv 40 9, o_ 41 (.bini .sub (.t 40) (i_ 1)), mv 42 0, mv 43 9, o_ 44 (.bini .sub (.t 43) (i_ 1)), o_ 45 (.iaddr 146 9 (.t 42) (.t 44)), o_ 46 (.lda 9 (.t 45)), mv 47 0, mv 48 9, o_ 49 (.iaddr 146 9 (.t 47) (.t 48)), o_ 50 (.lda 9 (.t 49)), o_ 51 (.iaddr 146 9 (.t 37) (.t 38)), n_ (.st 9 (.t 51) (.t 46)), o_ 52 (.iaddr 146 9 (.t 39) (.t 41)), n_ (.st 9 (.t 52) (.t 50))]
def A_q421_5 : List AOper := [mv 35 9, o_ 36 (.bini .sub (.t 35) (i_ 1)), mv 9 36]
def A_q421_6 : ACode := (.seq (.seq (.alts [18, 19, 20, 21, 22, 23, 24, 25, 26, 27, 28, 29, 30, 31, 32, 33, 34] [A_q421_3]) (.cond (.t 34) .bad (.exit 2))) (.seq (.block 3 (.alts [37, 38, 39, 40, 41, 42, 43, 44, 45, 46, 47, 48, 49, 50, 51, 52] [A_q421_4])) (.ops A_q421_5)))
def A_q421_7 : List AOper := [mv 15 8, o_ 16 (.bini .add (.t 15) (i_ 1)), mv 8 16]
def A_q421_8 : ACode := (.seq (.seq (.ops A_q421_1) (.cond (.t 14) .skip (.exit 0))) (.seq (.block 1 (.seq (.ops A_q421_2) (.block 2 (.loop A_q421_6)))) (.ops A_q421_7)))
def A_q421 : ACode := (.seq (.ops A_q421_0) (.block 0 (.loop A_q421_8)))
def R_q421 : List ARes := []
def T_q421 : FC := ⟨53, A_q421, R_q421⟩
end Go.Proofs.YtpmjgnpkbmfimabGreatDoor
