/- Contracts of functions of the given program, in the logic L: texts put together; no conditions. -/
import Derived.Test.YtgjjbfhamlecoabGreatDoorZ2
import Derived.Test.YtgjjbfhamlecoabGreatDoorZ3
import Derived.Test.YtgjjbfhamlecoabGreatDoorProg
import Derived.KernelRfl
import Derived.Test.YtgjjbfhamlecoabGreatDoorZ10
namespace Go.Proofs.YtgjjbfhamlecoabGreatDoor
open Go.L
abbrev F_table_Set_Table : Nat := 338
def A_table_Set_Table_0 : LA := [o_ 4 (.mov (.c (.nilp))), Wm 5 0]
def A_table_Set_Table_1 : LA := [mv 9 0, Wc 10 9, Wf 11 0 10, o_ 12 (.call 339 [(.t 11)])]
def A_table_Set_Table_2 : LA := [mv 13 0, Wc 14 13, Wf 15 0 14]
def A_table_Set_Table_3 : LA := [mv 16 0, Wc 17 16, Wf 18 3 17, Wl 19 18, mv 20 1, o_ 21 (.mlook .s (.nilp) false (.t 19) (.t 20)), mv 6 21]
def A_table_Set_Table_4 : LA := [mv 22 6, o_ 23 (.isnil .pt true (.t 22))]
def A_table_Set_Table_5 : LA := [mv 24 6, mv 4 24, Wm 5 0]
def A_table_Set_Table_6 : LA := [mv 26 0, Wc 27 26, Wf 28 2 27, Wl 29 28, mv 30 1, o_ 31 (.call 341 [(.t 29), (.t 30)]), mv 25 31, Wx 32 0 25, Wx 33 1 25, mv 7 32, mv 8 33]
def A_table_Set_Table_7 : LA := [mv 34 8, Wi 35 .eql 34 0]
def A_table_Set_Table_8 : LA := [mv 36 0, Wc 37 36, Wf 38 3 37, Wl 39 38, mv 40 1, mv 41 7, n_ (.mupd .s (.t 39) (.t 40) (.t 41))]
def A_table_Set_Table_9 : LA := [mv 42 7, mv 43 8, mv 4 42, mv 5 43]
def A_table_Set_Table : ACode := (.seq (.ops A_table_Set_Table_0) (.seq (.ops A_table_Set_Table_1) (.seq (.seq (.ops A_table_Set_Table_2) (.dfr (.f 340) [(.t 15)])) (.seq (.seq (.ops A_table_Set_Table_3) (.seq (.ops A_table_Set_Table_4) (.cond (.t 23) (.seq (.ops A_table_Set_Table_5) .ret) .skip))) (.seq (.ops A_table_Set_Table_6) (.seq (.seq (.ops A_table_Set_Table_7) (.cond (.t 35) (.ops A_table_Set_Table_8) .skip)) (.seq (.ops A_table_Set_Table_9) .ret)))))))
def R_table_Set_Table : List ARes := [.tmp 4, .tmp 5]
theorem C_table_Set_Table : compF Tryz.prog Tryz.f338 = some (A_table_Set_Table, R_table_Set_Table) := by kernel_rfl
abbrev F_sync_Mutex_Lock : Nat := 339
def A_sync_Mutex_Lock_0 : LA := [mv 2 0, Wc 3 2, Wf 4 0 3, o_ 5 (.call 342 [(.t 4)])]
def A_sync_Mutex_Lock : ACode := (.ops A_sync_Mutex_Lock_0)
def R_sync_Mutex_Lock : List ARes := []
theorem C_sync_Mutex_Lock : compF Tryz.prog Tryz.f339 = some (A_sync_Mutex_Lock, R_sync_Mutex_Lock) := by kernel_rfl
theorem K_sync_Mutex_Lock {md : Bool} {args : List AV} {h : Hp} {Q : Res → Hp → Prop} (hl : LCode Tryz.prog md A_sync_Mutex_Lock (EndQ R_sync_Mutex_Lock Q) (env0 6 args) h) (hn : args.length ≤ 6 := by (simp; done)) : CallL Tryz.prog F_sync_Mutex_Lock args h Q :=
 CallL.of (md := md) Tryz.func339 C_sync_Mutex_Lock (by rw [Tryz.ntmps339]; exact hn) (by rw [Tryz.ntmps339]; exact hl)
abbrev F_sync_Mutex_Unlock : Nat := 340
def A_sync_Mutex_Unlock_0 : LA := [mv 2 0, Wc 3 2, Wf 4 0 3, o_ 5 (.call 343 [(.t 4)])]
def A_sync_Mutex_Unlock : ACode := (.ops A_sync_Mutex_Unlock_0)
def R_sync_Mutex_Unlock : List ARes := []
theorem C_sync_Mutex_Unlock : compF Tryz.prog Tryz.f340 = some (A_sync_Mutex_Unlock, R_sync_Mutex_Unlock) := by kernel_rfl
abbrev F_isync_Lock : Nat := 342
def A_isync_Lock_0 : LA := [mv 3 0, Wc 4 3, Wf 5 0 4, o_ 6 (.cas .i32 (.t 5) (.c (.int .i32 0)) (.c (.int .i32 1)))]
def A_isync_Lock_1 : LA := [mv 8 0, o_ 9 (.upc (.t 8)), o_ 10 (.rac (.t 9))]
def A_isync_Lock_2 : LA := [mv 11 0, o_ 12 (.call 353 [(.t 11)])]
def A_isync_Lock : ACode := (.seq (.ops [o_ 2 (.mov (.c (.tup [])))]) (.seq (.seq (.ops A_isync_Lock_0) (.cond (.t 6) (.seq (.cond (.c (.bool true)) (.seq (.ops [o_ 7 (.mov (.c (.tup [])))]) (.ops A_isync_Lock_1)) .skip) .ret) .skip)) (.ops A_isync_Lock_2)))
def R_isync_Lock : List ARes := []
theorem C_isync_Lock : compF Tryz.prog Tryz.f342 = some (A_isync_Lock, R_isync_Lock) := by kernel_rfl
theorem K_isync_Lock {md : Bool} {args : List AV} {h : Hp} {Q : Res → Hp → Prop} (hl : LCode Tryz.prog md A_isync_Lock (EndQ R_isync_Lock Q) (env0 13 args) h) (hn : args.length ≤ 13 := by (simp; done)) : CallL Tryz.prog F_isync_Lock args h Q :=
 CallL.of (md := md) Tryz.func342 C_isync_Lock (by rw [Tryz.ntmps342]; exact hn) (by rw [Tryz.ntmps342]; exact hl)
abbrev F_isync_Unlock : Nat := 343
def A_isync_Unlock_0 : LA := [mv 3 0, Wc 4 3, Wf 5 0 4, Wl 6 5]
def A_isync_Unlock_1 : LA := [mv 7 0, o_ 8 (.upc (.t 7)), o_ 9 (.rac (.t 8))]
def A_isync_Unlock_2 : LA := [mv 11 0, Wc 12 11, Wf 13 0 12, o_ 14 (.xadd .i32 (.t 13) (.c (.int .i32 (-1)))), mv 2 14]
def A_isync_Unlock_3 : LA := [mv 15 2, o_ 16 (.bini .neq (.t 15) (.c (.int .i32 0)))]
def A_isync_Unlock_4 : LA := [mv 17 0, mv 18 2, o_ 19 (.call 356 [(.t 17), (.t 18)])]
def A_isync_Unlock : ACode := (.seq (.cond (.c (.bool true)) (.seq (.ops A_isync_Unlock_0) (.seq (.ops A_isync_Unlock_1) (.ops [o_ 10 (.mov (.c (.tup [])))]))) .skip) (.seq (.ops A_isync_Unlock_2) (.seq (.seq (.ops A_isync_Unlock_3) (.cond (.t 16) (.ops A_isync_Unlock_4) .skip)) (.ops [o_ 20 (.mov (.c (.tup [])))]))))
def R_isync_Unlock : List ARes := []
theorem C_isync_Unlock : compF Tryz.prog Tryz.f343 = some (A_isync_Unlock, R_isync_Unlock) := by kernel_rfl
theorem K_isync_Unlock {md : Bool} {args : List AV} {h : Hp} {Q : Res → Hp → Prop} (hl : LCode Tryz.prog md A_isync_Unlock (EndQ R_isync_Unlock Q) (env0 21 args) h) (hn : args.length ≤ 21 := by (simp; done)) : CallL Tryz.prog F_isync_Unlock args h Q :=
 CallL.of (md := md) Tryz.func343 C_isync_Unlock (by rw [Tryz.ntmps343]; exact hn) (by rw [Tryz.ntmps343]; exact hl)
abbrev F_table_Table_Find : Nat := 80
def A_table_Table_Find_0 : LA := [o_ 4 (.box 186 9 (.c (.agg [.int .i32 (0), .str [], .str [], .int .u8 (0), .int .u8 (0), .int .u8 (0), .bool false, .int .i64 (0), .str []]))), Wo 5 false]
def A_table_Table_Find_1 : LA := [mv 9 0, Wc 10 9, Wf 11 3 10, Wl 12 11, mv 13 1, o_ 14 (.mlook .i (.int .i64 0) true (.t 12) (.t 13)), mv 8 14, Wx 15 0 8, Wx 16 1 8, mv 6 15, mv 7 16]
def A_table_Table_Find_2 : LA := [mv 17 0, mv 18 6, mv 19 7, o_ 20 (.call 139 [(.t 17), (.t 18), (.t 19)]), Wx 21 0 20, Wx 22 1 20, Ws 9 4 21, mv 5 22]
def A_table_Table_Find : ACode := (.seq (.ops A_table_Table_Find_0) (.seq (.ops A_table_Table_Find_1) (.seq (.ops A_table_Table_Find_2) .ret)))
def R_table_Table_Find : List ARes := [.cella 4 9, .tmp 5]
theorem C_table_Table_Find : compF Tryz.prog Tryz.f80 = some (A_table_Table_Find, R_table_Table_Find) := by kernel_rfl
theorem K_table_Table_Find {md : Bool} {args : List AV} {h : Hp} {Q : Res → Hp → Prop} (hl : LCode Tryz.prog md A_table_Table_Find (EndQ R_table_Table_Find Q) (env0 23 args) h) (hn : args.length ≤ 23 := by (simp; done)) : CallL Tryz.prog F_table_Table_Find args h Q :=
 CallL.of (md := md) Tryz.func80 C_table_Table_Find (by rw [Tryz.ntmps80]; exact hn) (by rw [Tryz.ntmps80]; exact hl)
abbrev F_table_Table_at : Nat := 139
def A_table_Table_at_0 : LA := [o_ 6 (.box 186 9 (.c (.agg [.int .i32 (0), .str [], .str [], .int .u8 (0), .int .u8 (0), .int .u8 (0), .bool false, .int .i64 (0), .str []]))), Wo 7 false]
def A_table_Table_at_1 : LA := [mv 8 2, o_ 9 (.not (.t 8))]
def A_table_Table_at_2 : LA := [o_ 10 (.build [.int .i32 (0), .str [], .str [], .int .u8 (0), .int .u8 (0), .int .u8 (0), .bool false, .int .i64 (0), .str []] []), Ws 9 6 10, Wo 7 false]
def A_table_Table_at_3 : LA := [mv 11 0, Wc 12 11, Wf 13 2 12, Wl 14 13, mv 15 1, Wa 16 186 9 14 15, Wd 17 9 16, Ws 9 6 17, Wo 7 true]
def A_table_Table_at : ACode := (.seq (.ops A_table_Table_at_0) (.seq (.seq (.ops A_table_Table_at_1) (.cond (.t 9) (.seq (.ops A_table_Table_at_2) .ret) .skip)) (.seq (.ops A_table_Table_at_3) .ret)))
def R_table_Table_at : List ARes := [.cella 6 9, .tmp 7]
theorem C_table_Table_at : compF Tryz.prog Tryz.f139 = some (A_table_Table_at, R_table_Table_at) := by kernel_rfl
theorem K_table_Table_at {md : Bool} {args : List AV} {h : Hp} {Q : Res → Hp → Prop} (hl : LCode Tryz.prog md A_table_Table_at (EndQ R_table_Table_at Q) (env0 18 args) h) (hn : args.length ≤ 18 := by (simp; done)) : CallL Tryz.prog F_table_Table_at args h Q :=
 CallL.of (md := md) Tryz.func139 C_table_Table_at (by rw [Tryz.ntmps139]; exact hn) (by rw [Tryz.ntmps139]; exact hl)
abbrev F_table_Table_Type : Nat := 87
def A_table_Table_Type_0 : LA := [mv 3 0, Wc 4 3, Wf 5 0 4, Wl 6 5, mv 2 6]
def A_table_Table_Type : ACode := (.seq (.ops [o_ 2 (.mov (.c (.str [])))]) (.seq (.ops A_table_Table_Type_0) .ret))
def R_table_Table_Type : List ARes := [.tmp 2]
theorem C_table_Table_Type : compF Tryz.prog Tryz.f87 = some (A_table_Table_Type, R_table_Table_Type) := by kernel_rfl
theorem K_table_Table_Type {md : Bool} {args : List AV} {h : Hp} {Q : Res → Hp → Prop} (hl : LCode Tryz.prog md A_table_Table_Type (EndQ R_table_Table_Type Q) (env0 7 args) h) (hn : args.length ≤ 7 := by (simp; done)) : CallL Tryz.prog F_table_Table_Type args h Q :=
 CallL.of (md := md) Tryz.func87 C_table_Table_Type (by rw [Tryz.ntmps87]; exact hn) (by rw [Tryz.ntmps87]; exact hl)
abbrev F_decode_Decode : Nat := 8
def A_decode_Decode_0 : LA := [o_ 6 (.box 40 3 (.c (.agg [.str [], .nils, .nils]))), Wm 7 0, Wm 8 0]
def A_decode_Decode_1 : LA := [mv 9 0, mv 10 1, o_ 11 (.build [.str [], .nils, .nils] [(0, 1, (.t 10))]), mv 12 2, o_ 13 (.call 19 [(.t 9), (.t 11), (.t 12)]), Wx 14 0 13, Wx 15 1 13, Wx 16 2 13, Ws 3 6 14, mv 7 15, mv 8 16]
def A_decode_Decode : ACode := (.seq (.ops A_decode_Decode_0) (.seq (.ops A_decode_Decode_1) .ret))
def R_decode_Decode : List ARes := [.cella 6 3, .tmp 7, .tmp 8]
theorem C_decode_Decode : compF Tryz.prog Tryz.f8 = some (A_decode_Decode, R_decode_Decode) := by kernel_rfl
theorem K_decode_Decode {md : Bool} {args : List AV} {h : Hp} {Q : Res → Hp → Prop} (hl : LCode Tryz.prog md A_decode_Decode (EndQ R_decode_Decode Q) (env0 17 args) h) (hn : args.length ≤ 17 := by (simp; done)) : CallL Tryz.prog F_decode_Decode args h Q :=
 CallL.of (md := md) Tryz.func8 C_decode_Decode (by rw [Tryz.ntmps8]; exact hn) (by rw [Tryz.ntmps8]; exact hl)
abbrev F_decode_Into : Nat := 19
def A_decode_Into_0 : LA := [o_ 4 (.box 40 3 (.t 1)), o_ 6 (.box 40 3 (.c (.agg [.str [], .nils, .nils]))), o_ 7 (.box 25 1 (i_ 0)), o_ 8 (.box 3 1 (i_ 0))]
def A_decode_Into_1 : LA := [mv 16 0, Wf 17 0 4, Wl 18 17, o_ 19 (.inv [(36, 338)] (.t 16) [(.t 18)]), mv 15 19, Wx 20 0 15, Wx 21 1 15, mv 9 20, mv 10 21]
def A_decode_Into_2 : LA := [mv 22 10, Wi 23 .neq 22 0]
def A_decode_Into_3 : LA := [o_ 24 (.build [.str [], .nils, .nils] []), mv 25 10, Ws 3 6 24, Ws 1 7 25, n_ (.st 1 (.t 8) (i_ 0))]
def A_decode_Into_4 : LA := [mv 27 0, Wd 28 3 4, o_ 29 (.call 39 [(.t 27), (.t 28)]), mv 26 29, Wx 30 0 26, Wx 31 1 26, o_ 11 (.box 40 3 (.c (.agg [.str [], .nils, .nils]))), Ws 3 11 30, mv 12 31]
def A_decode_Into_5 : LA := [mv 32 12, Wi 33 .neq 32 0]
def A_decode_Into_6 : LA := [o_ 34 (.build [.str [], .nils, .nils] []), mv 35 12, Ws 3 6 34, Ws 1 7 35, n_ (.st 1 (.t 8) (i_ 0))]
def A_decode_Into_7 : LA := [mv 36 2, We 37 36, Wi 38 .gtr 37 16777216]
def A_decode_Into_8 : LA := [o_ 39 (.build [.str [], .nils, .nils] []), Ws 3 6 39, n_ (.st 1 (.t 7) (i_ 15)), n_ (.st 1 (.t 8) (i_ 0))]
def A_decode_Into_9 : LA := [mv 41 0, mv 42 2, o_ 43 (.call 41 []), o_ 44 (.build [.nili, .nils, .nils] [(0, 1, (.t 41)), (1, 1, (.t 42)), (2, 1, (.t 43))]), o_ 45 (.box 134 3 (.t 44)), mv 13 45]
def A_decode_Into_10 : LA := [mv 46 13, Wd 47 3 11, o_ 48 (.call 42 [(.t 46), (.t 47)]), mv 14 48]
def A_decode_Into_11 : LA := [mv 49 13, mv 50 14, mv 51 2, o_ 52 (.call 20 [(.t 51)]), o_ 53 (.call 43 [(.t 49), (.t 50), (.t 52), (i_ 1)])]
def A_decode_Into_12 : LA := [mv 54 14, o_ 55 (.call 44 [(.t 54)]), Ws 3 6 55, n_ (.st 1 (.t 7) (i_ 0)), n_ (.st 1 (.t 8) (i_ 0))]
def A_decode_Into : ACode := (.seq (.ops A_decode_Into_0) (.seq (.seq (.ops A_decode_Into_1) (.seq (.ops A_decode_Into_2) (.cond (.t 23) (.seq (.ops A_decode_Into_3) .ret) .skip))) (.seq (.ops A_decode_Into_4) (.seq (.seq (.ops A_decode_Into_5) (.cond (.t 33) (.seq (.ops A_decode_Into_6) .ret) .skip)) (.seq (.seq (.ops A_decode_Into_7) (.cond (.t 38) (.seq (.ops A_decode_Into_8) .ret) .skip)) (.seq (.seq (.ops [o_ 40 (.mkfn 40 [] [(.t 6), (.t 7), (.t 8)])]) (.dfr (.t 40) [])) (.seq (.ops A_decode_Into_9) (.seq (.ops A_decode_Into_10) (.seq (.ops A_decode_Into_11) (.seq (.ops A_decode_Into_12) .ret))))))))))
def R_decode_Into : List ARes := [.cella 6 3, .cell1 7, .cell1 8]
theorem C_decode_Into : compF Tryz.prog Tryz.f19 = some (A_decode_Into, R_decode_Into) := by kernel_rfl
abbrev F_decode_Into_c1 : Nat := 40
def A_decode_Into_c1_0 : LA := [o_ 9 (.tass 129 true (.agg [.int .i64 (0), .int .i64 0]) (.t 6)), Wx 10 1 9, Wx 11 0 9]
def A_decode_Into_c1_1 : LA := [o_ 4 (.box 129 2 (.c (.agg [.int .i64 (0), .int .i64 0]))), Ws 2 4 11]
def A_decode_Into_c1_2 : LA := [o_ 12 (.build [.str [], .nils, .nils] []), Wf 13 0 4, Wf 15 1 4, Wl 14 13, Wl 16 15, Ws 3 0 12, Ws 1 1 14, Ws 1 2 16]
def A_decode_Into_c1_3 : LA := [o_ 12 (.build [.str [], .nils, .nils] []), Wf 13 0 4, Wf 15 1 4, Wl 14 13, Ws 3 0 12, Wl 16 15, Ws 1 1 14, Ws 1 2 16]
def A_decode_Into_c1_4 : LA := [o_ 12 (.build [.str [], .nils, .nils] []), Wf 13 0 4, Wf 15 1 4, Wl 14 13, Ws 3 0 12, Ws 1 1 14, Wl 16 15, Ws 1 2 16]
def A_decode_Into_c1_5 : LA := [o_ 12 (.build [.str [], .nils, .nils] []), Wf 13 0 4, Wf 15 1 4, Wl 16 15, Wl 14 13, Ws 3 0 12, Ws 1 1 14, Ws 1 2 16]
def A_decode_Into_c1_6 : LA := [o_ 12 (.build [.str [], .nils, .nils] []), Wf 13 0 4, Wf 15 1 4, Wl 16 15, Ws 3 0 12, Wl 14 13, Ws 1 1 14, Ws 1 2 16]
def A_decode_Into_c1_7 : LA := [o_ 12 (.build [.str [], .nils, .nils] []), Wf 13 0 4, Wf 15 1 4, Ws 3 0 12, Wl 14 13, Wl 16 15, Ws 1 1 14, Ws 1 2 16]
def A_decode_Into_c1_8 : LA := [o_ 12 (.build [.str [], .nils, .nils] []), Wf 13 0 4, Wf 15 1 4, Ws 3 0 12, Wl 14 13, Ws 1 1 14, Wl 16 15, Ws 1 2 16]
def A_decode_Into_c1_9 : LA := [o_ 12 (.build [.str [], .nils, .nils] []), Wf 13 0 4, Wf 15 1 4, Wl 14 13, Wl 16 15, Ws 3 0 12, Ws 1 1 14, Ws 1 2 16]
def A_decode_Into_c1_10 : LA := [o_ 12 (.build [.str [], .nils, .nils] []), Wf 13 0 4, Wf 15 1 4, Wl 14 13, Ws 3 0 12, Wl 16 15, Ws 1 1 14, Ws 1 2 16]
def A_decode_Into_c1_11 : LA := [o_ 12 (.build [.str [], .nils, .nils] []), Wf 13 0 4, Wf 15 1 4, Wl 14 13, Ws 3 0 12, Ws 1 1 14, Wl 16 15, Ws 1 2 16]
def A_decode_Into_c1_12 : LA := [o_ 12 (.build [.str [], .nils, .nils] []), Wf 13 0 4, Wf 15 1 4, Wl 16 15, Wl 14 13, Ws 3 0 12, Ws 1 1 14, Ws 1 2 16]
def A_decode_Into_c1_13 : LA := [o_ 12 (.build [.str [], .nils, .nils] []), Wf 13 0 4, Wf 15 1 4, Wl 16 15, Ws 3 0 12, Wl 14 13, Ws 1 1 14, Ws 1 2 16]
def A_decode_Into_c1_14 : LA := [o_ 12 (.build [.str [], .nils, .nils] []), Wf 13 0 4, Wf 15 1 4, Ws 3 0 12, Wl 14 13, Wl 16 15, Ws 1 1 14, Ws 1 2 16]
def A_decode_Into_c1_15 : LA := [o_ 12 (.build [.str [], .nils, .nils] []), Wf 13 0 4, Wf 15 1 4, Ws 3 0 12, Wl 14 13, Ws 1 1 14, Wl 16 15, Ws 1 2 16]
def A_decode_Into_c1_16 : LA := [mv 7 5, n_ (.pan (.t 7))]
def A_decode_Into_c1 : ACode := (.seq (.recv (some 6) []) (.block 0 (.seq (.ops [o_ 8 (.isnil .ic false (.t 6))]) (.cond (.t 8) (.ops [mv 3 6]) (.seq (.ops A_decode_Into_c1_0) (.cond (.t 10) (.seq (.ops A_decode_Into_c1_1) (.orr (.alts [12, 13, 14, 15, 16] [A_decode_Into_c1_2, A_decode_Into_c1_3, A_decode_Into_c1_4, A_decode_Into_c1_5, A_decode_Into_c1_6, A_decode_Into_c1_7, A_decode_Into_c1_8]) (.alts [12, 13, 14, 15, 16] [A_decode_Into_c1_9, A_decode_Into_c1_10, A_decode_Into_c1_11, A_decode_Into_c1_12, A_decode_Into_c1_13, A_decode_Into_c1_14, A_decode_Into_c1_15]))) (.seq (.ops [mv 5 6]) (.ops A_decode_Into_c1_16))))))))
def R_decode_Into_c1 : List ARes := []
theorem C_decode_Into_c1 : compF Tryz.prog Tryz.f40 = some (A_decode_Into_c1, R_decode_Into_c1) := by kernel_rfl
abbrev F_decode_ways : Nat := 41
def A_decode_ways_0 : LA := [o_ 1 (.build [.nilf, .nilf] [(0, 1, (.f 72)), (1, 1, (.f 73))]), o_ 2 (.build [.nilf, .nilf] [(0, 1, (.f 74)), (1, 1, (.f 76))]), o_ 3 (.build [.nilf, .nilf] [(0, 1, (.f 77)), (1, 1, (.f 78))]), o_ 4 (.bslice 191 2 3 [.nilf, .nilf] [(0, 2, (.t 1)), (2, 2, (.t 2)), (4, 2, (.t 3))]), mv 0 4]
def A_decode_ways : ACode := (.seq (.ops [Wn 0]) (.seq (.ops A_decode_ways_0) .ret))
def R_decode_ways : List ARes := [.tmp 0]
theorem C_decode_ways : compF Tryz.prog Tryz.f41 = some (A_decode_ways, R_decode_ways) := by kernel_rfl
theorem K_decode_ways {md : Bool} {args : List AV} {h : Hp} {Q : Res → Hp → Prop} (hl : LCode Tryz.prog md A_decode_ways (EndQ R_decode_ways Q) (env0 5 args) h) (hn : args.length ≤ 5 := by (simp; done)) : CallL Tryz.prog F_decode_ways args h Q :=
 CallL.of (md := md) Tryz.func41 C_decode_ways (by rw [Tryz.ntmps41]; exact hn) (by rw [Tryz.ntmps41]; exact hl)
abbrev F_decode_decoder_node : Nat := 42
def A_decode_decoder_node_0 : LA := [o_ 3 (.box 40 3 (.t 1)), o_ 4 (.mov (.c (.nilp)))]
def A_decode_decoder_node_1 : LA := [mv 16 0, Wf 17 0 3, Wl 18 17, o_ 19 (.call 79 [(.t 16), (.t 18), (i_ 0)]), mv 5 19]
def A_decode_decoder_node_2 : LA := [mv 20 5, Wf 21 2 3, Wl 22 21, o_ 23 (.call 45 [(.t 22)]), Wc 24 20, Wf 25 2 24, Ws 1 25 23]
def A_decode_decoder_node_3 : LA := [Wf 26 1 3, Wl 27 26, We 28 27, Wm 29 0]
def A_decode_decoder_node_4 : LA := [Wa 31 53 3 27 29, Wd 32 3 31, o_ 7 (.box 53 3 (.c (.agg [.int .i32 (0), .nils, .nils]))), Ws 3 7 32]
def A_decode_decoder_node_5 : LA := [mv 34 5, Wc 35 34, Wf 36 0 35, Wl 37 36, Wf 38 0 7, Wl 39 38, o_ 40 (.acall 80 [(.t 37), (.t 39)]), mv 33 40, Wx 41 0 33, Wx 42 1 33, o_ 8 (.box 186 9 (.c (.agg [.int .i32 (0), .str [], .str [], .int .u8 (0), .int .u8 (0), .int .u8 (0), .bool false, .int .i64 (0), .str []]))), Ws 9 8 41, mv 9 42]
def A_decode_decoder_node_6 : LA := [mv 34 5, Wc 35 34, Wf 36 0 35, Wl 37 36, Wf 38 0 7, Wl 39 38, o_ 40 (.pcall 80 [(.t 37), (.t 39)]), mv 33 40, Wx 41 0 33, Wx 42 1 33, o_ 8 (.box 186 9 (.c (.agg [.int .i32 (0), .str [], .str [], .int .u8 (0), .int .u8 (0), .int .u8 (0), .bool false, .int .i64 (0), .str []]))), Ws 9 8 41, mv 9 42]
def A_decode_decoder_node_7 : LA := [mv 34 5, Wc 35 34, Wf 36 0 35, Wl 37 36, Wf 38 0 7, Wl 39 38, o_ 40 (.call 80 [(.t 37), (.t 39)]), mv 33 40, Wx 41 0 33, Wx 42 1 33, o_ 8 (.box 186 9 (.c (.agg [.int .i32 (0), .str [], .str [], .int .u8 (0), .int .u8 (0), .int .u8 (0), .bool false, .int .i64 (0), .str []]))), Ws 9 8 41, mv 9 42]
def A_decode_decoder_node_8 : LA := [mv 34 5, Wc 35 34, Wf 36 0 35, Wl 37 36, Wf 38 0 7, Wl 39 38, o_ 8 (.box 186 9 (.c (.agg [.int .i32 (0), .str [], .str [], .int .u8 (0), .int .u8 (0), .int .u8 (0), .bool false, .int .i64 (0), .str []]))), o_ 40 (.call 80 [(.t 37), (.t 39)]), mv 33 40, Wx 41 0 33, Wx 42 1 33, Ws 9 8 41, mv 9 42]
def A_decode_decoder_node_9 : LA := [mv 43 5, Wd 44 9 8, o_ 45 (.call 81 [(.t 43), (.t 44)]), mv 10 45]
def A_decode_decoder_node_10 : LA := [mv 46 10, Wf 47 1 7, Wl 48 47, o_ 49 (.call 82 [(.t 48)]), Wc 50 46, Wf 51 9 50, Ws 1 51 49]
def A_decode_decoder_node_11 : LA := [Wf 52 1 7, Wl 53 52, We 54 53, Wm 55 0]
def A_decode_decoder_node_12 : LA := [mv 57 55, Wa 58 50 3 53 55, Wd 59 3 58, o_ 12 (.box 50 3 (.c (.agg [.int .u64 (0), .str [], .nils]))), mv 11 57, Ws 3 12 59]
def A_decode_decoder_node_13 : LA := [mv 60 10, Wc 61 60, Wf 62 11 61, Wl 63 62, Wf 64 0 12, Wl 65 64, Wf 66 1 12, Wl 67 66, o_ 68 (.build [.int .u64 (0), .str []] [(0, 1, (.t 65)), (1, 1, (.t 67))]), mv 69 11, n_ (.mupd (.a 1 0) (.t 63) (.t 68) (.t 69))]
def A_decode_decoder_node_14 : LA := [Wi 70 .add 55 1, mv 55 70]
def A_decode_decoder_node_15 : ACode := (.seq (.ops [Wb 56 .lss 55 54]) (.seq (.cond (.t 56) .skip (.exit 2)) (.seq (.block 3 (.seq (.ops A_decode_decoder_node_12) (.alts [60, 61, 62, 63, 64, 65, 66, 67, 68, 69] [A_decode_decoder_node_13]))) (.ops A_decode_decoder_node_14))))
def A_decode_decoder_node_16 : LA := [Wf 71 2 7, Wl 72 71, We 73 72, Wm 74 0]
def A_decode_decoder_node_17 : LA := [Wa 76 50 3 72 74, Wd 77 3 76, o_ 14 (.box 50 3 (.c (.agg [.int .u64 (0), .str [], .nils]))), Ws 3 14 77]
def A_decode_decoder_node_18 : LA := [Wd 78 3 14, o_ 79 (.build [.int .u64 (0), .str [], .nils, .nilp] [(0, 3, (.t 78))]), o_ 15 (.box 209 4 (.c (.agg [.int .u64 (0), .str [], .nils, .nilp]))), Ws 4 15 79]
def A_decode_decoder_node_19 : LA := [Wf 80 2 14, Wl 81 80, We 82 81, Wi 83 .gtr 82 0]
def A_decode_decoder_node_20 : LA := [mv 84 0, Wf 85 2 14, Wl 86 85, o_ 87 (.iaddr 40 3 (.t 86) (i_ 0)), Wd 88 3 87, o_ 89 (.call 42 [(.t 84), (.t 88)]), Wf 90 3 15, Ws 1 90 89]
def A_decode_decoder_node_21 : LA := [mv 91 10, mv 92 10, Wc 93 92, Wf 94 10 93, Wl 95 94, Wd 96 4 15, o_ 97 (.bslice 209 4 1 [.int .u64 (0), .str [], .nils, .nilp] [(0, 4, (.t 96))]), o_ 98 (.app 209 4 56 (.t 95) (.t 97)), Wc 99 91, Wf 100 10 99, Ws 1 100 98]
def A_decode_decoder_node_22 : LA := [Wi 101 .add 74 1, mv 74 101]
def A_decode_decoder_node_23 : ACode := (.seq (.ops [Wb 75 .lss 74 73]) (.seq (.cond (.t 75) .skip (.exit 4)) (.seq (.block 5 (.seq (.ops A_decode_decoder_node_17) (.seq (.ops A_decode_decoder_node_18) (.seq (.seq (.ops A_decode_decoder_node_19) (.cond (.t 83) (.ops A_decode_decoder_node_20) .skip)) (.alts [91, 92, 93, 94, 95, 96, 97, 98, 99, 100] [A_decode_decoder_node_21]))))) (.ops A_decode_decoder_node_22))))
def A_decode_decoder_node_24 : LA := [Wi 102 .add 29 1, mv 29 102]
def A_decode_decoder_node_25 : ACode := (.seq (.ops [Wb 30 .lss 29 28]) (.seq (.cond (.t 30) .skip (.exit 0)) (.seq (.block 1 (.seq (.ops A_decode_decoder_node_4) (.seq (.orr (.alts [34, 35, 36, 37, 38, 39, 40, 33, 41, 42, 8, 9] [A_decode_decoder_node_5]) (.orr (.alts [34, 35, 36, 37, 38, 39, 40, 33, 41, 42, 8, 9] [A_decode_decoder_node_6]) (.alts [34, 35, 36, 37, 38, 39, 40, 33, 41, 42, 8, 9] [A_decode_decoder_node_7, A_decode_decoder_node_8]))) (.seq (.ops A_decode_decoder_node_9) (.seq (.ops A_decode_decoder_node_10) (.seq (.seq (.ops A_decode_decoder_node_11) (.block 2 (.loop A_decode_decoder_node_15))) (.seq (.ops A_decode_decoder_node_16) (.block 4 (.loop A_decode_decoder_node_23))))))))) (.ops A_decode_decoder_node_24))))
def A_decode_decoder_node_26 : LA := [mv 103 5, mv 4 103]
def A_decode_decoder_node : ACode := (.seq (.ops A_decode_decoder_node_0) (.seq (.ops A_decode_decoder_node_1) (.seq (.ops A_decode_decoder_node_2) (.seq (.seq (.ops A_decode_decoder_node_3) (.block 0 (.loop A_decode_decoder_node_25))) (.seq (.ops A_decode_decoder_node_26) .ret)))))
def R_decode_decoder_node : List ARes := [.tmp 4]
theorem C_decode_decoder_node : compF Tryz.prog Tryz.f42 = some (A_decode_decoder_node, R_decode_decoder_node) := by kernel_rfl
theorem K_decode_decoder_node {md : Bool} {args : List AV} {h : Hp} {Q : Res → Hp → Prop} (hl : LCode Tryz.prog md A_decode_decoder_node (EndQ R_decode_decoder_node Q) (env0 104 args) h) (hn : args.length ≤ 104 := by (simp; done)) : CallL Tryz.prog F_decode_decoder_node args h Q :=
 CallL.of (md := md) Tryz.func42 C_decode_decoder_node (by rw [Tryz.ntmps42]; exact hn) (by rw [Tryz.ntmps42]; exact hl)
abbrev F_decode_decoder_empty : Nat := 79
def A_decode_decoder_empty_0 : LA := [mv 10 0, Wc 11 10, Wf 12 0 11, Wl 13 12, mv 14 1, o_ 15 (.inv [(36, 338)] (.t 13) [(.t 14)]), mv 9 15, Wx 16 0 9, Wx 17 1 9, mv 7 16, mv 8 17]
def A_decode_decoder_empty_1 : LA := [mv 18 8, Wi 19 .neq 18 0]
def A_decode_decoder_empty_2 : LA := [mv 20 8, mv 21 2, o_ 22 (.build [.int .i64 (0), .int .i64 0] [(0, 1, (.t 20)), (1, 1, (.t 21))]), o_ 23 (.mkifc 129 (.t 22)), n_ (.pan (.t 23))]
def A_decode_decoder_empty_3 : LA := [mv 24 7, o_ 25 (.mkmap), o_ 26 (.build [.nilp, .nilm, .nils] [(0, 1, (.t 24)), (1, 1, (.t 25))]), o_ 27 (.box 196 3 (.t 26)), mv 6 27]
def A_decode_decoder_empty : ACode := (.seq (.ops [o_ 6 (.mov (.c (.nilp)))]) (.seq (.ops A_decode_decoder_empty_0) (.seq (.seq (.ops A_decode_decoder_empty_1) (.cond (.t 19) (.ops A_decode_decoder_empty_2) .skip)) (.seq (.ops A_decode_decoder_empty_3) .ret))))
def R_decode_decoder_empty : List ARes := [.tmp 6]
theorem C_decode_decoder_empty : compF Tryz.prog Tryz.f79 = some (A_decode_decoder_empty, R_decode_decoder_empty) := by kernel_rfl
theorem K_decode_decoder_empty {md : Bool} {args : List AV} {h : Hp} {Q : Res → Hp → Prop} (hl : LCode Tryz.prog md A_decode_decoder_empty (EndQ R_decode_decoder_empty Q) (env0 28 args) h) (hn : args.length ≤ 28 := by (simp; done)) : CallL Tryz.prog F_decode_decoder_empty args h Q :=
 CallL.of (md := md) Tryz.func79 C_decode_decoder_empty (by rw [Tryz.ntmps79]; exact hn) (by rw [Tryz.ntmps79]; exact hl)
abbrev F_decode_decoder_records : Nat := 43
def A_decode_decoder_records_0 : LA := [mv 14 2, o_ 15 (.call 21 [(.t 14)]), Wi 16 .gtr 15 0]
def A_decode_decoder_records_1 : LA := [mv 18 2, o_ 19 (.call 83 [(.t 18)]), mv 17 19, Wx 20 0 17, Wx 21 1 17, Wx 22 2 17, o_ 9 (.box 93 1 (.c (.int .u8 0))), mv 8 20, Ws 1 9 21, mv 10 22]
def A_decode_decoder_records_2 : LA := [mv 24 1, Wc 25 24, Wf 26 0 25, Wl 27 26, mv 28 8, o_ 29 (.call 80 [(.t 27), (.t 28)]), mv 23 29, Wx 30 0 23, Wx 31 1 23, o_ 11 (.box 186 9 (.c (.agg [.int .i32 (0), .str [], .str [], .int .u8 (0), .int .u8 (0), .int .u8 (0), .bool false, .int .i64 (0), .str []]))), Ws 9 11 30, mv 12 31]
def A_decode_decoder_records_3 : LA := [mv 33 0, Wc 34 33, Wf 35 2 34, Wl 36 35, o_ 37 (.mkfn 85 [] [(.t 11), (.t 9)]), o_ 38 (.call 84 [(.t 36), (.t 37)]), mv 13 38]
def A_decode_decoder_records_4 : LA := [mv 39 13, Wi 40 .geq 39 0]
def A_decode_decoder_records_5 : LA := [mv 41 0, Wc 42 41, Wf 43 2 42, Wl 44 43, mv 45 13, Wa 46 191 2 44 45, Wf 47 1 46, Wl 48 47, mv 49 0, mv 50 1, Wd 51 9 11, mv 52 2, mv 53 3, mv 54 10, o_ 55 (.callv (.t 48) [(.t 49), (.t 50), (.t 51), (.t 52), (.t 53), (.t 54)])]
def A_decode_decoder_records_6 : LA := [mv 56 2, mv 57 8, Wl 58 9, mv 59 3, o_ 60 (.bini .sub (i_ 100) (.t 59)), o_ 61 (.call 25 [(.t 56), (.t 57), (.t 58), (.t 60)])]
def A_decode_decoder_records_7 : LA := [mv 62 2, o_ 63 (.call 86 [(.t 62)])]
def A_decode_decoder_records_8 : LA := [mv 64 1, mv 65 1, Wc 66 65, Wf 67 2 66, Wl 68 67, mv 69 0, Wc 70 69, Wf 71 1 70, Wl 72 71, mv 73 10, mv 74 2, o_ 75 (.acall 22 [(.t 74)]), o_ 76 (.slcl 5 1 (.t 72) (some (.t 73)) (some (.t 75)) none), o_ 77 (.app 5 1 1 (.t 68) (.t 76)), Wc 78 64, Wf 79 2 78, Ws 1 79 77]
def A_decode_decoder_records_9 : LA := [mv 64 1, mv 65 1, Wc 66 65, Wf 67 2 66, Wl 68 67, mv 69 0, Wc 70 69, Wf 71 1 70, Wl 72 71, mv 73 10, mv 74 2, o_ 75 (.pcall 22 [(.t 74)]), o_ 76 (.slcl 5 1 (.t 72) (some (.t 73)) (some (.t 75)) none), o_ 77 (.app 5 1 1 (.t 68) (.t 76)), Wc 78 64, Wf 79 2 78, Ws 1 79 77]
def A_decode_decoder_records_10 : LA := [mv 64 1, mv 65 1, Wc 66 65, Wf 67 2 66, mv 69 0, Wc 70 69, Wf 71 1 70, mv 73 10, mv 74 2, Wl 68 67, Wl 72 71, o_ 75 (.call 22 [(.t 74)]), o_ 76 (.slcl 5 1 (.t 72) (some (.t 73)) (some (.t 75)) none), o_ 77 (.app 5 1 1 (.t 68) (.t 76)), Wc 78 64, Wf 79 2 78, Ws 1 79 77]
def A_decode_decoder_records_11 : LA := [mv 64 1, mv 65 1, Wc 66 65, Wf 67 2 66, mv 69 0, Wc 70 69, Wf 71 1 70, mv 73 10, mv 74 2, Wl 68 67, o_ 75 (.call 22 [(.t 74)]), Wl 72 71, o_ 76 (.slcl 5 1 (.t 72) (some (.t 73)) (some (.t 75)) none), o_ 77 (.app 5 1 1 (.t 68) (.t 76)), Wc 78 64, Wf 79 2 78, Ws 1 79 77]
def A_decode_decoder_records_12 : LA := [mv 64 1, mv 65 1, Wc 66 65, Wf 67 2 66, mv 69 0, Wc 70 69, Wf 71 1 70, mv 73 10, mv 74 2, Wl 72 71, Wl 68 67, o_ 75 (.call 22 [(.t 74)]), o_ 76 (.slcl 5 1 (.t 72) (some (.t 73)) (some (.t 75)) none), o_ 77 (.app 5 1 1 (.t 68) (.t 76)), Wc 78 64, Wf 79 2 78, Ws 1 79 77]
def A_decode_decoder_records_13 : LA := [mv 64 1, mv 65 1, Wc 66 65, Wf 67 2 66, mv 69 0, Wc 70 69, Wf 71 1 70, mv 73 10, mv 74 2, Wl 72 71, o_ 75 (.call 22 [(.t 74)]), Wl 68 67, o_ 76 (.slcl 5 1 (.t 72) (some (.t 73)) (some (.t 75)) none), o_ 77 (.app 5 1 1 (.t 68) (.t 76)), Wc 78 64, Wf 79 2 78, Ws 1 79 77]
def A_decode_decoder_records_14 : LA := [mv 64 1, mv 65 1, Wc 66 65, Wf 67 2 66, mv 69 0, Wc 70 69, Wf 71 1 70, mv 73 10, mv 74 2, o_ 75 (.call 22 [(.t 74)]), Wl 68 67, Wl 72 71, o_ 76 (.slcl 5 1 (.t 72) (some (.t 73)) (some (.t 75)) none), o_ 77 (.app 5 1 1 (.t 68) (.t 76)), Wc 78 64, Wf 79 2 78, Ws 1 79 77]
def A_decode_decoder_records_15 : ACode := (.seq (.seq (.ops A_decode_decoder_records_0) (.cond (.t 16) .skip (.exit 0))) (.block 1 (.seq (.ops A_decode_decoder_records_1) (.seq (.ops A_decode_decoder_records_2) (.seq (.ops [Wm 13 (-1)]) (.seq (.seq (.ops [mv 32 12]) (.cond (.t 32) (.ops A_decode_decoder_records_3) .skip)) (.seq (.seq (.ops A_decode_decoder_records_4) (.cond (.t 40) (.seq (.alts [41, 42, 43, 44, 45, 46, 47, 48, 49, 50, 51, 52, 53, 54, 55] [A_decode_decoder_records_5]) (.exit 1)) .skip)) (.seq (.ops A_decode_decoder_records_6) (.seq (.ops A_decode_decoder_records_7) (.orr (.alts [64, 65, 66, 67, 68, 69, 70, 71, 72, 73, 74, 75, 76, 77, 78, 79] [A_decode_decoder_records_8]) (.orr (.alts [64, 65, 66, 67, 68, 69, 70, 71, 72, 73, 74, 75, 76, 77, 78, 79] [A_decode_decoder_records_9]) (.alts [64, 65, 66, 67, 68, 69, 70, 71, 72, 73, 74, 75, 76, 77, 78, 79] [A_decode_decoder_records_10, A_decode_decoder_records_11, A_decode_decoder_records_12, A_decode_decoder_records_13, A_decode_decoder_records_14]))))))))))))
def A_decode_decoder_records : ACode := (.block 0 (.loop A_decode_decoder_records_15))
def R_decode_decoder_records : List ARes := []
theorem C_decode_decoder_records : compF Tryz.prog Tryz.f43 = some (A_decode_decoder_records, R_decode_decoder_records) := by kernel_rfl
theorem K_decode_decoder_records {md : Bool} {args : List AV} {h : Hp} {Q : Res → Hp → Prop} (hl : LCode Tryz.prog md A_decode_decoder_records (EndQ R_decode_decoder_records Q) (env0 80 args) h) (hn : args.length ≤ 80 := by (simp; done)) : CallL Tryz.prog F_decode_decoder_records args h Q :=
 CallL.of (md := md) Tryz.func43 C_decode_decoder_records (by rw [Tryz.ntmps43]; exact hn) (by rw [Tryz.ntmps43]; exact hl)
abbrev F_decode_tag : Nat := 83
def A_decode_tag_0 : LA := [o_ 2 (.mov (.c (.int .i32 0))), o_ 3 (.mov (.c (.int .u8 0))), Wm 4 0]
def A_decode_tag_1 : LA := [mv 8 0, o_ 9 (.call 22 [(.t 8)]), mv 5 9]
def A_decode_tag_2 : LA := [mv 11 0, o_ 12 (.call 23 [(.t 11)]), mv 10 12, Wx 13 0 10, Wx 14 1 10, mv 6 13, mv 7 14]
def A_decode_tag_3 : LA := [mv 15 0, o_ 16 (.call 86 [(.t 15)])]
def A_decode_tag_4 : LA := [mv 17 7, o_ 18 (.bini .eql (.t 17) (.c (.int .u8 4)))]
def A_decode_tag_5 : LA := [mv 19 5, o_ 20 (.build [.int .i64 (0), .int .i64 0] [(0, 1, (i_ 13)), (1, 1, (.t 19))]), o_ 21 (.mkifc 129 (.t 20)), n_ (.pan (.t 21))]
def A_decode_tag_6 : LA := [mv 22 6, mv 23 7, mv 24 5, mv 2 22, mv 3 23, mv 4 24]
def A_decode_tag : ACode := (.seq (.ops A_decode_tag_0) (.seq (.ops A_decode_tag_1) (.seq (.ops A_decode_tag_2) (.seq (.ops A_decode_tag_3) (.seq (.seq (.ops A_decode_tag_4) (.cond (.t 18) (.ops A_decode_tag_5) .skip)) (.seq (.ops A_decode_tag_6) .ret))))))
def R_decode_tag : List ARes := [.tmp 2, .tmp 3, .tmp 4]
theorem C_decode_tag : compF Tryz.prog Tryz.f83 = some (A_decode_tag, R_decode_tag) := by kernel_rfl
theorem K_decode_tag {md : Bool} {args : List AV} {h : Hp} {Q : Res → Hp → Prop} (hl : LCode Tryz.prog md A_decode_tag (EndQ R_decode_tag Q) (env0 25 args) h) (hn : args.length ≤ 25 := by (simp; done)) : CallL Tryz.prog F_decode_tag args h Q :=
 CallL.of (md := md) Tryz.func83 C_decode_tag (by rw [Tryz.ntmps83]; exact hn) (by rw [Tryz.ntmps83]; exact hl)
abbrev F_decode_right : Nat := 86
def A_decode_right_0 : LA := [mv 5 0, o_ 6 (.call 24 [(.t 5)]), mv 4 6, Wx 7 0 4, Wx 8 1 4, mv 2 7, mv 3 8]
def A_decode_right_1 : LA := [mv 9 2, Wi 10 .neq 9 0]
def A_decode_right_2 : LA := [mv 11 2, mv 12 3, o_ 13 (.build [.int .i64 (0), .int .i64 0] [(0, 1, (.t 11)), (1, 1, (.t 12))]), o_ 14 (.mkifc 129 (.t 13)), n_ (.pan (.t 14))]
def A_decode_right : ACode := (.seq (.ops A_decode_right_0) (.seq (.ops A_decode_right_1) (.cond (.t 10) (.ops A_decode_right_2) .skip)))
def R_decode_right : List ARes := []
theorem C_decode_right : compF Tryz.prog Tryz.f86 = some (A_decode_right, R_decode_right) := by kernel_rfl
theorem K_decode_right {md : Bool} {args : List AV} {h : Hp} {Q : Res → Hp → Prop} (hl : LCode Tryz.prog md A_decode_right (EndQ R_decode_right Q) (env0 15 args) h) (hn : args.length ≤ 15 := by (simp; done)) : CallL Tryz.prog F_decode_right args h Q :=
 CallL.of (md := md) Tryz.func86 C_decode_right (by rw [Tryz.ntmps86]; exact hn) (by rw [Tryz.ntmps86]; exact hl)
abbrev F_decode_node_msg : Nat := 44
def A_decode_node_msg_0 : LA := [mv 13 0, Wc 14 13, Wf 15 0 14, Wl 16 15, mv 18 0, Wc 19 18, Wf 20 2 19, Wl 21 20, o_ 17 (.acall 87 [(.t 16)]), o_ 22 (.build [.str [], .nils, .nils] [(0, 1, (.t 17)), (2, 1, (.t 21))]), o_ 3 (.box 40 3 (.c (.agg [.str [], .nils, .nils]))), Ws 3 3 22]
def A_decode_node_msg_1 : LA := [mv 13 0, Wc 14 13, Wf 15 0 14, Wl 16 15, o_ 17 (.pcall 87 [(.t 16)]), mv 18 0, Wc 19 18, Wf 20 2 19, Wl 21 20, o_ 22 (.build [.str [], .nils, .nils] [(0, 1, (.t 17)), (2, 1, (.t 21))]), o_ 3 (.box 40 3 (.c (.agg [.str [], .nils, .nils]))), Ws 3 3 22]
def A_decode_node_msg_2 : LA := [mv 13 0, Wc 14 13, Wf 15 0 14, Wl 16 15, mv 18 0, Wc 19 18, Wf 20 2 19, o_ 17 (.call 87 [(.t 16)]), Wl 21 20, o_ 22 (.build [.str [], .nils, .nils] [(0, 1, (.t 17)), (2, 1, (.t 21))]), o_ 3 (.box 40 3 (.c (.agg [.str [], .nils, .nils]))), Ws 3 3 22]
def A_decode_node_msg_3 : LA := [mv 13 0, Wc 14 13, Wf 15 0 14, Wl 16 15, mv 18 0, Wc 19 18, Wf 20 2 19, Wl 21 20, o_ 17 (.call 87 [(.t 16)]), o_ 22 (.build [.str [], .nils, .nils] [(0, 1, (.t 17)), (2, 1, (.t 21))]), o_ 3 (.box 40 3 (.c (.agg [.str [], .nils, .nils]))), Ws 3 3 22]
def A_decode_node_msg_4 : LA := [mv 13 0, Wc 14 13, Wf 15 0 14, Wl 16 15, mv 18 0, Wc 19 18, Wf 20 2 19, Wl 21 20, o_ 3 (.box 40 3 (.c (.agg [.str [], .nils, .nils]))), o_ 17 (.call 87 [(.t 16)]), o_ 22 (.build [.str [], .nils, .nils] [(0, 1, (.t 17)), (2, 1, (.t 21))]), Ws 3 3 22]
def A_decode_node_msg_5 : LA := [mv 13 0, Wc 14 13, Wf 15 0 14, Wl 16 15, mv 18 0, Wc 19 18, Wf 20 2 19, o_ 3 (.box 40 3 (.c (.agg [.str [], .nils, .nils]))), o_ 17 (.call 87 [(.t 16)]), Wl 21 20, o_ 22 (.build [.str [], .nils, .nils] [(0, 1, (.t 17)), (2, 1, (.t 21))]), Ws 3 3 22]
def A_decode_node_msg_6 : LA := [mv 13 0, Wc 14 13, Wf 15 0 14, Wl 16 15, mv 18 0, Wc 19 18, Wf 20 2 19, o_ 3 (.box 40 3 (.c (.agg [.str [], .nils, .nils]))), Wl 21 20, o_ 17 (.call 87 [(.t 16)]), o_ 22 (.build [.str [], .nils, .nils] [(0, 1, (.t 17)), (2, 1, (.t 21))]), Ws 3 3 22]
def A_decode_node_msg_7 : LA := [mv 23 0, Wc 24 23, Wf 25 1 24, Wl 26 25, o_ 27 (.call 89 [(.t 26)]), o_ 28 (.call 88 [(.t 27)]), We 29 28, Wm 30 0]
def A_decode_node_msg_8 : LA := [Wa 32 21 1 28 30, Wl 33 32, mv 5 33]
def A_decode_node_msg_9 : LA := [mv 34 0, Wc 35 34, Wf 36 1 35, Wl 37 36, mv 38 5, o_ 39 (.mlook .i (.nilp) false (.t 37) (.t 38)), o_ 6 (.box 199 1 (.c (.nilp))), Ws 1 6 39]
def A_decode_node_msg_10 : LA := [Wl 40 6, Wc 41 40, Wf 42 10 41, Wl 43 42, We 44 43, o_ 45 (.mkslice 3 1 8 [.int .i64 0] (.t 44) (.t 44)), mv 7 45]
def A_decode_node_msg_11 : LA := [mv 46 7, We 47 46, Wm 48 0]
def A_decode_node_msg_12 : LA := [mv 50 48, mv 8 50]
def A_decode_node_msg_13 : LA := [mv 51 7, mv 52 8, mv 53 8, Wa 54 3 1 51 52, Ws 1 54 53]
def A_decode_node_msg_14 : LA := [Wi 55 .add 48 1, mv 48 55]
def A_decode_node_msg_15 : ACode := (.seq (.ops [Wb 49 .lss 48 47]) (.seq (.cond (.t 49) .skip (.exit 2)) (.seq (.block 3 (.seq (.ops A_decode_node_msg_12) (.ops A_decode_node_msg_13))) (.ops A_decode_node_msg_14))))
def A_decode_node_msg_16 : LA := [Wl 56 6, Wc 57 56, Wf 58 0 57, Wf 59 3 58, Wl 60 59, o_ 61 (.bini .eql (.t 60) (.c (.int .u8 4)))]
def A_decode_node_msg_17 : LA := [mv 62 7, o_ 63 (.mkfn 91 [] [(.t 6)]), o_ 64 (.call 90 [(.t 62), (.t 63)])]
def A_decode_node_msg_18 : LA := [mv 65 5, o_ 66 (.build [.int .i32 (0), .nils, .nils] [(0, 1, (.t 65))]), o_ 9 (.box 53 3 (.c (.agg [.int .i32 (0), .nils, .nils]))), Ws 3 9 66]
def A_decode_node_msg_19 : LA := [mv 67 7, We 68 67, Wm 69 0]
def A_decode_node_msg_20 : LA := [Wa 71 3 1 67 69, Wl 72 71, mv 11 72]
def A_decode_node_msg_21 : LA := [Wl 73 6, Wc 74 73, Wf 75 10 74, Wl 76 75, mv 77 11, Wa 78 209 4 76 77, Wf 79 0 78, Wd 80 3 79, o_ 12 (.box 50 3 (.c (.agg [.int .u64 (0), .str [], .nils]))), Ws 3 12 80]
def A_decode_node_msg_22 : LA := [Wl 81 6, Wc 82 81, Wf 83 10 82, Wl 84 83, mv 85 11, Wa 86 209 4 84 85, Wf 87 3 86, Wl 88 87, o_ 89 (.isnil .pt true (.t 88))]
def A_decode_node_msg_23 : LA := [Wl 90 6, Wc 91 90, Wf 92 10 91, Wl 93 92, mv 94 11, Wa 95 209 4 93 94, Wf 96 3 95, Wl 97 96, o_ 98 (.call 44 [(.t 97)]), o_ 99 (.bslice 40 3 1 [.str [], .nils, .nils] [(0, 3, (.t 98))]), o_ 100 (.build [.int .u64 (0), .str [], .nils] [(2, 1, (.t 99))]), Ws 3 12 100]
def A_decode_node_msg_24 : LA := [Wf 101 2 9, Wl 102 101, Wd 103 3 12, o_ 104 (.bslice 50 3 1 [.int .u64 (0), .str [], .nils] [(0, 3, (.t 103))]), o_ 105 (.app 50 3 48 (.t 102) (.t 104)), Wf 106 2 9, Ws 1 106 105]
def A_decode_node_msg_25 : LA := [Wl 107 6, Wc 108 107, Wf 109 0 108, Wf 110 3 109, Wl 111 110, o_ 112 (.bini .eql (.t 111) (.c (.int .u8 4)))]
def A_decode_node_msg_26 : LA := [Wf 113 1 9, Wl 114 113, Wl 115 6, Wc 116 115, Wf 117 9 116, Wl 118 117, mv 119 11, Wa 120 50 3 118 119, Wd 121 3 120, o_ 122 (.bslice 50 3 1 [.int .u64 (0), .str [], .nils] [(0, 3, (.t 121))]), o_ 123 (.app 50 3 48 (.t 114) (.t 122)), Wf 124 1 9, Ws 1 124 123]
def A_decode_node_msg_27 : LA := [Wi 125 .add 69 1, mv 69 125]
def A_decode_node_msg_28 : ACode := (.seq (.ops [Wb 70 .lss 69 68]) (.seq (.cond (.t 70) .skip (.exit 4)) (.seq (.block 5 (.seq (.ops A_decode_node_msg_20) (.seq (.ops A_decode_node_msg_21) (.seq (.seq (.ops A_decode_node_msg_22) (.cond (.t 89) (.ops A_decode_node_msg_23) .skip)) (.seq (.ops A_decode_node_msg_24) (.seq (.ops A_decode_node_msg_25) (.cond (.t 112) (.alts [113, 114, 115, 116, 117, 118, 119, 120, 121, 122, 123, 124] [A_decode_node_msg_26]) .skip))))))) (.ops A_decode_node_msg_27))))
def A_decode_node_msg_29 : LA := [Wf 126 2 9, Wl 127 126, We 128 127, Wi 129 .eql 128 0, mv 130 129, Wh 131 (.ld1 (.t 6)) 130, Wh 132 (.nilc (.t 131)) 130, Wh 133 (.faddr 0 (.t 132)) 130, Wh 134 (.lda 9 (.t 133)) 130, Wh 135 (.call 93 [(.t 134)]) 130, Whm 136 135 130, Wgf 137 2 9 136, Wgl 138 137 136, g_ 139 (.iaddr 50 3 (.t 138) (i_ 0)) 136, Wgf 140 0 139 136, Wgl 141 140 136, g_ 142 (.bini .eql (.t 141) (.c (.int .u64 0))) 136, Wh 143 (.pick (.t 136) (.t 142) (.c (.bool false))) 130, Whm 144 143 130, Wgf 145 2 9 144, Wgl 146 145 144, g_ 147 (.iaddr 50 3 (.t 146) (i_ 0)) 144, Wgf 148 1 147 144, Wgl 149 148 144, g_ 150 (.bins .eql (.t 149) (.c (.str []))) 144, Wh 151 (.pick (.t 144) (.t 150) (.c (.bool false))) 130, Wq 152 130 151]
def A_decode_node_msg_30 : LA := [Wf 153 1 3, Wl 154 153, Wd 155 3 9, o_ 156 (.bslice 53 3 1 [.int .i32 (0), .nils, .nils] [(0, 3, (.t 155))]), o_ 157 (.app 53 3 56 (.t 154) (.t 156)), Wf 158 1 3, Ws 1 158 157]
def A_decode_node_msg_31 : LA := [Wi 159 .add 30 1, mv 30 159]
def A_decode_node_msg_32 : ACode := (.seq (.ops [Wb 31 .lss 30 29]) (.seq (.cond (.t 31) .skip (.exit 0)) (.seq (.block 1 (.seq (.ops A_decode_node_msg_8) (.seq (.ops A_decode_node_msg_9) (.seq (.ops A_decode_node_msg_10) (.seq (.seq (.ops A_decode_node_msg_11) (.block 2 (.loop A_decode_node_msg_15))) (.seq (.seq (.ops A_decode_node_msg_16) (.cond (.t 61) (.ops A_decode_node_msg_17) .skip)) (.seq (.ops A_decode_node_msg_18) (.seq (.seq (.ops A_decode_node_msg_19) (.block 4 (.loop A_decode_node_msg_28))) (.seq (.seq (.ops A_decode_node_msg_29) (.cond (.t 152) (.exit 1) .skip)) (.ops A_decode_node_msg_30)))))))))) (.ops A_decode_node_msg_31))))
def A_decode_node_msg_33 : LA := [Wd 160 3 3, Ws 3 2 160]
def A_decode_node_msg : ACode := (.seq (.ops [o_ 2 (.box 40 3 (.c (.agg [.str [], .nils, .nils])))]) (.seq (.orr (.alts [13, 14, 15, 16, 17, 18, 19, 20, 21, 22, 3] [A_decode_node_msg_0]) (.orr (.alts [13, 14, 15, 16, 17, 18, 19, 20, 21, 22, 3] [A_decode_node_msg_1]) (.alts [13, 14, 15, 16, 17, 18, 19, 20, 21, 22, 3] [A_decode_node_msg_2, A_decode_node_msg_3, A_decode_node_msg_4, A_decode_node_msg_5, A_decode_node_msg_6]))) (.seq (.seq (.ops A_decode_node_msg_7) (.block 0 (.loop A_decode_node_msg_32))) (.seq (.ops A_decode_node_msg_33) .ret))))
def R_decode_node_msg : List ARes := [.cella 2 3]
theorem C_decode_node_msg : compF Tryz.prog Tryz.f44 = some (A_decode_node_msg, R_decode_node_msg) := by kernel_rfl
theorem K_decode_node_msg {md : Bool} {args : List AV} {h : Hp} {Q : Res → Hp → Prop} (hl : LCode Tryz.prog md A_decode_node_msg (EndQ R_decode_node_msg Q) (env0 161 args) h) (hn : args.length ≤ 161 := by (simp; done)) : CallL Tryz.prog F_decode_node_msg args h Q :=
 CallL.of (md := md) Tryz.func44 C_decode_node_msg (by rw [Tryz.ntmps44]; exact hn) (by rw [Tryz.ntmps44]; exact hl)
end Go.Proofs.YtgjjbfhamlecoabGreatDoor

namespace Go.Proofs.YtgjjbfhamlecoabGreatDoor
open Go.L
theorem isync_Lock_L {S T : Nat} {cs : List AV} {h : Hp} (hS : h S = some (.row T [.int .i32 0 :: cs])) : CallL Tryz.prog F_isync_Lock [.ptr S 0 0] h fun r h' => r = .ret (.tup []) ∧ h' = h.set S (.row T [.int .i32 1 :: cs]) := by
 refine K_isync_Lock (md := false) ?_
 refine ⟨rfl, rfl, _, _, _, _, hS, rfl, rfl, ?_⟩
 refine s_eq (fun _ => ?_) (fun h1 => absurd rfl h1)
 refine ⟨_, _, _, Hp.set_same _ _ _, rfl, by show 0 < _ + 1; omega, ?_⟩
 exact ⟨rfl, rfl, rfl⟩
theorem Lock_L {S T : Nat} {cs : List AV} {h : Hp} (hS : h S = some (.row T [.int .i32 0 :: cs])) : CallL Tryz.prog F_sync_Mutex_Lock [.ptr S 0 0] h fun r h' => r = .ret (.tup []) ∧ h' = h.set S (.row T [.int .i32 1 :: cs]) := by
 refine K_sync_Mutex_Lock (md := false) ?_
 refine (isync_Lock_L hS).mono ?_
 rintro r h' ⟨rfl, rfl⟩
 exact ⟨rfl, rfl, rfl⟩
theorem isync_Unlock_L {S T : Nat} {cs : List AV} {h : Hp} (hS : h S = some (.row T [.int .i32 1 :: cs])) : CallL Tryz.prog F_isync_Unlock [.ptr S 0 0] h fun r h' => r = .ret (.tup []) ∧ h' = h.set S (.row T [.int .i32 0 :: cs]) := by
 refine K_isync_Unlock (md := false) ?_
 refine ⟨_, _, _, _, hS, rfl, rfl, ?_⟩
 refine ⟨_, _, _, hS, rfl, by show 0 < _ + 1; omega, ?_⟩
 refine ⟨rfl, _, _, _, _, hS, rfl, rfl, ?_⟩
 refine s_ie (d := 0) (by decide) ?_
 refine s_ne (fun h1 => absurd rfl h1) (fun _ => ?_)
 exact ⟨rfl, rfl, rfl⟩
theorem Unlock_D {S T : Nat} {cs : List AV} {h : Hp} {u : Um} (hS : h S = some (.row T [.int .i32 1 :: cs])) : DefL Tryz.prog F_sync_Mutex_Unlock [.ptr S 0 0] u h fun r u' h' => r = .ret (.tup []) ∧ u' = u ∧ h' = h.set S (.row T [.int .i32 0 :: cs]) := by
 refine DefL.of (md := false) Tryz.func340 C_sync_Mutex_Unlock (by rw [Tryz.ntmps340]; exact (show 1 ≤ 6 by decide)) (by
  rw [Tryz.ntmps340]
  refine (isync_Unlock_L hS).mono ?_
  rintro r h' ⟨rfl, rfl⟩
  exact ⟨rfl, rfl, rfl, rfl⟩)
abbrev TSet : TypeId := 86
abbrev SetC (z l md : AV) : List AV := [.int .i32 0, z, l, md]
theorem Has_Unlock : HasBody Tryz.prog F_sync_Mutex_Unlock := ⟨_, Tryz.func340, by kernel_rfl, by kernel_rfl⟩
theorem TableHit_L {S MD Tt clk : Nat} {z l : AV} {es : MapL} {full : Str} {h : Hp} (hS : h S = some (.row TSet [SetC z l (.map MD)])) (hM : h MD = some (.map es clk)) (hk : SKeys es) (hg : sget es full = some (.ptr Tt 0 0)) :
  CallL Tryz.prog F_table_Set_Table [.ptr S 0 0, .str full] h fun r h' => r = .ret (.tup [.ptr Tt 0 0, .int .i64 0]) ∧ h' = h := by
 have hne : MD ≠ S := fun e => by rw [e, hS] at hM; cases hM
 refine CallL.ofD (md := false) Tryz.func338 C_table_Set_Table (by rw [Tryz.ntmps338]; exact (show 2 ≤ 44 by decide)) (by
  rw [Tryz.ntmps338]
  refine (Lock_L hS).mono ?_
  rintro r h' ⟨rfl, rfl⟩
  refine ⟨_, _, _, _, Hp.set_same _ _ _, rfl, rfl, ?_⟩
  refine ⟨_, _, (Hp.set_ne hne).trans hM, rfl, hk.like full, fun r hr => ?_⟩
  obtain rfl : r = some (.ptr Tt 0 0) := hr.trans hg
  refine ⟨Has_Unlock, (Unlock_D (Hp.set_same _ _ _)).mono ?_⟩
  rintro r u h' ⟨rfl, rfl, rfl⟩
  exact ⟨rfl, (Hp.set_set _ _ _ _).trans (Hp.set_self hS)⟩)
end Go.Proofs.YtgjjbfhamlecoabGreatDoor

namespace Go.Proofs.YtgjjbfhamlecoabGreatDoor
open Go.L
abbrev wrongV (e p : Int) : AV := .ifc 129 (.agg [.int .i64 e, .int .i64 p])
theorem dright_L {R : Nat} {cv : AV} {at_ en w : Int} {h : Hp} (hR : h R = some (.row TR [RdC cv at_ en 0 w])) : CallL Tryz.prog F_decode_right [.ptr R 0 0] h fun r h' => r = .ret (.tup []) ∧ h' = h := by
 refine K_decode_right (md := false) ?_
 refine (rErr_L R cv at_ en 0 w h hR).mono ?_
 rintro r h' ⟨rfl, rfl⟩
 refine ⟨_, rfl, _, rfl, ?_⟩
 refine s_ne (fun h1 => absurd rfl h1) (fun _ => ?_)
 exact ⟨rfl, rfl, rfl⟩
theorem drightE_L {R : Nat} {cv : AV} {at_ en e w : Int} {h : Hp} (hR : h R = some (.row TR [RdC cv at_ en e w])) (he : e ≠ 0) : CallL Tryz.prog F_decode_right [.ptr R 0 0] h fun r h' => r = .pan (wrongV e w) ∧ h' = h := by
 refine K_decode_right (md := false) ?_
 have e1 : (if e = 0 then 0 else w) = w := if_neg he
 have k := rErr_L R cv at_ en e w h hR
 rw [e1] at k
 refine k.mono ?_
 rintro r h' ⟨rfl, rfl⟩
 refine ⟨_, rfl, _, rfl, ?_⟩
 refine s_ne (fun _ => ?_) (fun h1 => absurd h1 he)
 exact ⟨_, rfl, rfl, rfl, rfl⟩
def DTagQ (R : Nat) (cv : AV) (at_ en : Nat) (w : Int) (h : Hp) (x : WR (Nat × Nat)) (r : Res) (h' : Hp) : Prop := match x with
 | .ok (n, k) m => h' = h.set R (.row TR [RdC cv (at_ + m : Nat) en 0 w]) ∧ ((k = 4 ∧ r = .pan (wrongV 13 at_)) ∨ (k ≠ 4 ∧ r = .ret (.tup [.int .i32 n, .int .u8 k, .int .i64 at_])))
 | .bad e p => r = .pan (wrongV e (at_ + p : Nat)) ∧ ∃ a : Nat, h' = h.set R (.row TR [RdC cv a en e (at_ + p : Nat)])
theorem dtag_L {R : Nat} {cv : AV} {b : Str} {at_ en : Nat} {w : Int} {h : Hp} (k : RdOK R cv b at_ en w h) :
  CallL Tryz.prog F_decode_tag [.ptr R 0 0] h (DTagQ R cv at_ en w h (tagR (rest b at_ en))) := by
 refine K_decode_tag (md := false) ?_
 refine (rAt_L R cv at_ en 0 w _ k.row).mono ?_
 rintro r h' ⟨rfl, rfl⟩
 refine (Tag_L k).mono ?_
 rintro r h2 hq
 cases hx : tagR (rest b at_ en) with
 | bad e p =>
  rw [hx] at hq
  obtain ⟨rfl, a, rfl⟩ := hq
  have he := tagR_bad hx
  refine ⟨_, rfl, _, rfl, ?_⟩
  refine (drightE_L (Hp.set_same _ _ _) (by omega)).mono ?_
  rintro r h3 ⟨rfl, rfl⟩
  exact ⟨rfl, rfl, a, rfl⟩
 | ok x m =>
  obtain ⟨n, c⟩ := x
  rw [hx] at hq
  obtain ⟨rfl, rfl⟩ := hq
  refine ⟨_, rfl, _, rfl, ?_⟩
  refine (dright_L (Hp.set_same _ _ _)).mono ?_
  rintro r h3 ⟨rfl, rfl⟩
  refine s_eq (fun (h1 : (c : Int) = 4) => ?_) (fun (h1 : (c : Int) ≠ 4) => ?_)
  ·exact ⟨_, rfl, rfl, rfl, .inl ⟨by omega, rfl⟩⟩
  ·exact ⟨rfl, rfl, .inr ⟨by omega, rfl⟩⟩
abbrev TTab : TypeId := 275
abbrev TRow : TypeId := 186
abbrev TabC (full os rs nm nv jv : AV) : List AV := [full, os, rs, nm, nv, jv]
abbrev row0 : List AV := [.int .i32 0, .str [], .str [], .int .u8 0, .int .u8 0, .int .u8 0, .bool false, .int .i64 0, .str []]
theorem at0_L {Tt : Nat} {i : Int} {h : Hp} : CallL Tryz.prog F_table_Table_at [.ptr Tt 0 0, .int .i64 i, .bool false] h fun r h' => r = .ret (.tup [.agg row0, .bool false]) ∧ Gr h h' := by
 refine K_table_Table_at (md := false) ?_
 refine ⟨rfl, rfl, fun B hB => ?_⟩
 refine ⟨_, rfl, ?_⟩
 refine ⟨_, _, _, Hp.set_same _ _ _, rfl, rfl, rfl, rfl, by show 9 ≤ 9; decide, ?_⟩
 refine ⟨rfl, ?_⟩
 refine ⟨_, _, _, Hp.set_same _ _ _, rfl, by show 9 ≤ 9; decide, ?_⟩
 exact ⟨rfl, ((Gr.refl h).set hB.1 _).set hB.1 _⟩
theorem Find0_L {Tt NM clk : Nat} {full os rs nv jv : AV} {n : Int} {h : Hp} (hT : h Tt = some (.row TTab [TabC full os rs (.map NM) nv jv])) (hN : h NM = some (.map [] clk)) :
  CallL Tryz.prog F_table_Table_Find [.ptr Tt 0 0, .int .i32 n] h fun r h' => r = .ret (.tup [.agg row0, .bool false]) ∧ Gr h h' := by
 refine K_table_Table_Find (md := false) ?_
 refine ⟨rfl, rfl, fun B hB => ?_⟩
 have hBT : Tt ≠ B := ne_of_u (Hp.used hT) hB.1
 have hBN : NM ≠ B := ne_of_u (Hp.used hN) hB.1
 refine ⟨_, _, _, _, (Hp.set_ne hBT).trans hT, rfl, rfl, ?_⟩
 refine ⟨_, _, (Hp.set_ne hBN).trans hN, rfl, fun x hx => (by cases hx), fun r hr => ?_⟩
 obtain rfl : r = none := hr
 refine ⟨_, rfl, _, rfl, ?_⟩
 refine at0_L.mono ?_
 rintro r h2 ⟨rfl, g2⟩
 refine ⟨_, rfl, _, rfl, ?_⟩
 have hB2 := g2.blk (Hp.set_same _ _ _)
 refine ⟨_, _, _, hB2, rfl, rfl, rfl, rfl, by show 9 ≤ 9; decide, ?_⟩
 refine ⟨rfl, ?_⟩
 refine ⟨_, _, _, Hp.set_same _ _ _, rfl, by show 9 ≤ 9; decide, ?_⟩
 exact ⟨rfl, (((Gr.refl h).set hB.1 _).trans g2).set hB.1 _⟩
end Go.Proofs.YtgjjbfhamlecoabGreatDoor

namespace Go.Proofs.YtgjjbfhamlecoabGreatDoor
open Go.L
abbrev TN : TypeId := 196
abbrev TD : TypeId := 134
theorem row_ne {H : Hp} {i j T U : Nat} {es fs : List (List AV)} (hi : H i = some (.row T es)) (hj : H j = some (.row U fs)) (hn : T ≠ U) : i ≠ j := fun e => by
 rw [e, hj] at hi
 injection hi with hi
 injection hi with h1 _
 exact hn h1.symm
theorem map_ne {H : Hp} {i j T c : Nat} {es : List (List AV)} {ms : MapL} (hi : H i = some (.row T es)) (hj : H j = some (.map ms c)) : i ≠ j := fun e => by
 rw [e, hj] at hi; cases hi
theorem AccE.put {T : TypeId} {h0 H : Hp} {u : AV} {es : List (List AV)} (a : AccE T h0 H u es) {R : Nat} (hR : h0.u R = false) (hn : blkOf u ≠ some R) (x : Blk) : AccE T h0 (H.set R x) u es := by
 obtain ⟨g, ⟨rfl, rfl⟩ | ⟨j, rfl, h1, h2⟩⟩ := a
 ·exact ⟨g.set hR _, .inl ⟨rfl, rfl⟩⟩
 ·exact ⟨g.set hR _, .inr ⟨j, rfl, h1, (Hp.set_ne fun e => hn (by rw [← e]; rfl)).trans h2⟩⟩
theorem AccE.blk {T : TypeId} {h0 H : Hp} {u : AV} {es : List (List AV)} (a : AccE T h0 H u es) {B : Nat} (hb : blkOf u = some B) : ∃ row, H B = some (.row T row) := by
 obtain ⟨_, ⟨rfl, rfl⟩ | ⟨j, rfl, h1, h2⟩⟩ := a
 ·cases hb
 ·cases hb; exact ⟨_, h2⟩
theorem OwnX.blk {T : TypeId} {H : Hp} {u : AV} {es : List (List AV)} (a : OwnX T H u es) {B : Nat} (hb : blkOf u = some B) : ∃ row, H B = some (.row T row) := by
 rcases a with ⟨rfl, rfl⟩ | ⟨b, row, q, rfl, h1, _⟩
 ·cases hb
 ·cases hb; exact ⟨_, h1⟩
structure Rec0 (h0 : Hp) (Tt N FM cF R : Nat) (cv : AV) (b : Str) (u : AV) (o : Nat) (l : Str) (H : Hp) : Prop where
 g : Gr h0 H
 nd : H N = some (.row TN [[.ptr Tt 0 0, .map FM, u]])
 fm : H FM = some (.map [] cF)
 rd : RdOK R cv b o b.length 0 H
 ac : AccE Tb h0 H u (bt l)
 nN : h0.u N = false
 nF : h0.u FM = false
 nR : h0.u R = false
 cu : ∀ B, blkOf cv = some B → blkOf u ≠ some B
section
variable {h0 H : Hp} {Tt N FM cF R : Nat} {cv u : AV} {b l : Str} {o : Nat}
theorem Rec0.NR (k : Rec0 h0 Tt N FM cF R cv b u o l H) : N ≠ R := row_ne k.nd k.rd.row (by decide)
theorem Rec0.NF (k : Rec0 h0 Tt N FM cF R cv b u o l H) : N ≠ FM := map_ne k.nd k.fm
theorem Rec0.RF (k : Rec0 h0 Tt N FM cF R cv b u o l H) : R ≠ FM := map_ne k.rd.row k.fm
theorem Rec0.uN (k : Rec0 h0 Tt N FM cF R cv b u o l H) : blkOf u ≠ some N := fun e => let ⟨_, h⟩ := AccE.blk k.ac e; row_ne h k.nd (by decide) rfl
theorem Rec0.uR (k : Rec0 h0 Tt N FM cF R cv b u o l H) : blkOf u ≠ some R := fun e => let ⟨_, h⟩ := AccE.blk k.ac e; row_ne h k.rd.row (by decide) rfl
theorem Rec0.uF (k : Rec0 h0 Tt N FM cF R cv b u o l H) : blkOf u ≠ some FM := fun e => let ⟨_, h⟩ := AccE.blk k.ac e; map_ne h k.fm rfl
theorem Rec0.cN (k : Rec0 h0 Tt N FM cF R cv b u o l H) : blkOf cv ≠ some N := fun e => let ⟨_, h⟩ := OwnX.blk k.rd.own e; row_ne h k.nd (by decide) rfl
theorem Rec0.gr (k : Rec0 h0 Tt N FM cF R cv b u o l H) {H' : Hp} (g : Gr H H') : Rec0 h0 Tt N FM cF R cv b u o l H' :=
 ⟨k.g.trans g, g.blk k.nd, g.blk k.fm, k.rd.gr g, k.ac.keep g, k.nN, k.nF, k.nR, k.cu⟩
theorem Rec0.read (k : Rec0 h0 Tt N FM cF R cv b u o l H) {o' : Nat} (ho : o' ≤ b.length) : Rec0 h0 Tt N FM cF R cv b u o' l (H.set R (.row TR [RdC cv o' b.length 0 0])) :=
 ⟨k.g.set k.nR _, (Hp.set_ne k.NR).trans k.nd, (Hp.set_ne k.RF.symm).trans k.fm, k.rd.put 0 ho, AccE.put k.ac k.nR k.uR _, k.nN, k.nF, k.nR, k.cu⟩
theorem Rec0.app (k : Rec0 h0 Tt N FM cF R cv b u o l H) {H' : Hp} {v : AV} {l' : Str} (ha : AccE Tb h0 H' v (bt l')) (hf : ∀ x, H.u x = true → blkOf u ≠ some x → H' x = H x)
  (hb : ∀ x, blkOf v = some x → blkOf u = some x ∨ H.u x = false) : Rec0 h0 Tt N FM cF R cv b v o l' (H'.set N (.row TN [[.ptr Tt 0 0, .map FM, v]])) := by
 have hR : H' R = some (.row TR [RdC cv o b.length 0 0]) := (hf R (Hp.used k.rd.row) k.uR).trans k.rd.row
 have hF : H' FM = some (.map [] cF) := (hf FM (Hp.used k.fm) k.uF).trans k.fm
 have vN : blkOf v ≠ some N := fun e => by
  rcases hb N e with h | h
  ·exact k.uN h
  ·rw [Hp.used k.nd] at h; cases h
 have hcu : ∀ B, blkOf cv = some B → blkOf v ≠ some B := fun B hB e => by
  rcases hb B e with h | h
  ·exact k.cu B hB h
  ·rw [k.rd.own.used hB] at h; cases h
 have own : OwnX Tb H' cv (bt b) := by
  rcases k.rd.own with ⟨rfl, h⟩ | ⟨B, row, q, rfl, h1, h2⟩
  ·exact .inl ⟨rfl, h⟩
  ·exact .inr ⟨B, row, q, rfl, (hf B (Hp.used h1) (k.cu B rfl)).trans h1, h2⟩
 exact ⟨ha.1.set k.nN _, Hp.set_same _ _ _, (Hp.set_ne k.NF.symm).trans hF, ⟨(Hp.set_ne k.NR.symm).trans hR, OwnX.setne own k.cN _, k.rd.ne, k.rd.le, k.rd.len, k.rd.big⟩, AccE.put ha k.nN vN _, k.nN, k.nF, k.nR, hcu⟩
end
def Recs0Q (h0 : Hp) (Tt N FM cF R : Nat) (cv : AV) (b : Str) (x : Nat × Nat) (r : Res) (h' : Hp) : Prop :=
 (x.1 = 0 ∧ r = .ret (.tup []) ∧ ∃ u, Rec0 h0 Tt N FM cF R cv b u b.length b h') ∨ (x.1 ≠ 0 ∧ r = .pan (wrongV x.1 x.2) ∧ Gr h0 h')
theorem Recs0Q.bad {h0 : Hp} {Tt N FM cF R : Nat} {cv : AV} {b : Str} {x : Nat × Nat} {e p : Nat} (hx : x = (e, p)) (he : e ≠ 0) {h' : Hp} (g : Gr h0 h') : Recs0Q h0 Tt N FM cF R cv b x (.pan (wrongV e p)) h' := by
 subst hx; exact .inr ⟨he, rfl, g⟩
set_option maxHeartbeats 2000000 in
theorem records0_L {h0 h1 : Hp} {D Tt NM clk N FM cF R gb : Nat} {tv wv full os rs nv jv cv : AV} {b : Str} (hD : h0 D = some (.row TD [[tv, .isl gb (bt b), wv]])) (hT : h0 Tt = some (.row TTab [TabC full os rs (.map NM) nv jv])) (hNM : h0 NM = some (.map [] clk))
  (k1 : Rec0 h0 Tt N FM cF R cv b .nils 0 [] h1) : CallL Tryz.prog F_decode_decoder_records [.ptr D 0 0, .ptr N 0 0, .ptr R 0 0, .int .i64 1] h1 (Recs0Q h0 Tt N FM cF R cv b (checkR 99 b)) := by
 have hbl := bt_len b
 have hbig := k1.rd.big
 refine K_decode_decoder_records (md := false) ?_
 generalize hX : checkR 99 b = X
 refine s_blk (id := 0) (fun e' h' => e'.ds = [] ∧ X.1 = 0 ∧ ∃ u, Rec0 h0 Tt N FM cF R cv b u b.length b h') ?_ ?_
 ·refine s_loop b.length (fun q (s : Nat × AV × Hp) => q ≤ s.1 ∧ s.1 ≤ b.length ∧ Rec0 h0 Tt N FM cF R cv b s.2.1 s.1 (b.take s.1) s.2.2 ∧ ∀ g, b.length < g + s.1 → X = fldR 99 b g s.1)
   (fun _ _ => [(0, .ptr D 0 0), (1, .ptr N 0 0), (2, .ptr R 0 0), (3, .int .i64 1)]) (fun _ s => s.2.2) (0, .nils, h1) ⟨Nat.zero_le _, Nat.zero_le _, k1, fun g hg => ?_⟩ rfl rfl ⟨rfl, rfl, rfl, rfl, trivial⟩ (fun q s hs => Nat.le_trans hs.1 hs.2.1) ?_
  ·rw [← hX]; exact fldR_fuel _ _ _ (by omega) hg
  rintro q ⟨o, u, H⟩ n0 g0 hq ⟨q1, q2, k, q5⟩
  simp only at q1 q2 k q5
  refine (Left_L R cv o b.length 0 H k.rd.row q2 hbig).mono ?_
  rintro r HH ⟨rfl, rfl⟩
  refine s_lt (fun (h2 : (0 : Int) < (b.length - o : Nat)) => ?_) (fun (h2 : ((b.length - o : Nat) : Int) ≤ 0) => ?_)
  ·have hpos : b ≠ [] := fun e => by rw [e] at h2; simp at h2
   have hX1 := q5 (b.length + 1) (by omega)
   rw [fldR, if_neg (by omega)] at hX1
   refine (dtag_L k.rd).mono ?_
   rintro r h2' hq2
   rw [rest_all] at hq2
   cases hx : tagR (b.drop o) with
   | bad e p =>
    rw [hx] at hq2 hX1
    obtain ⟨rfl, a, rfl⟩ := hq2
    exact ⟨rfl, Recs0Q.bad hX1 (tagR_bad hx) (k.g.set k.nR _)⟩
   | ok x m =>
    obtain ⟨n, c⟩ := x
    rw [hx] at hq2 hX1
    obtain ⟨rfl, hq2⟩ := hq2
    have hm := tagR_ok hx
    rw [List.length_drop] at hm
    have km := k.read (o' := o + m) (by omega)
    rcases hq2 with ⟨h4, rfl⟩ | ⟨h4, rfl⟩
    ·have hX2 : X = (13, o) := hX1.trans (if_pos h4)
     exact ⟨rfl, Recs0Q.bad hX2 (by decide) km.g⟩
    have hX2 : X = (match conR 99 n c (b.drop (o + m)) with | .bad e p => (e, o + m + p) | .ok _ q => fldR 99 b b.length (o + m + q)) := hX1.trans (if_neg h4)
    refine ⟨_, rfl, _, rfl, _, rfl, ?_⟩
    refine ⟨rfl, rfl, fun B9 hB9 => ?_⟩
    have g9 := (Gr.refl _).set hB9.1 (Blk.row 93 [[.int .u8 0]])
    refine ⟨_, _, _, Hp.set_same _ _ _, rfl, rfl, rfl, rfl, by show 1 ≤ 1; decide, ?_⟩
    have k9 := km.gr (g9.set hB9.1 (Blk.row 93 [[.int .u8 c]]))
    refine ⟨_, _, _, _, k9.nd, rfl, rfl, ?_⟩
    refine (Find0_L (k9.g.blk hT) (k9.g.blk hNM)).mono ?_
    rintro r hF ⟨rfl, gF⟩
    have kF := k9.gr gF
    have h9F := gF.blk (Hp.set_same (((HH.set R (.row TR [RdC cv (o + m : Nat) b.length 0 0])).set B9 (.row 93 [[.int .u8 0]]))) B9 (Blk.row 93 [[.int .u8 c]]))
    refine ⟨_, rfl, _, rfl, ?_⟩
    refine ⟨rfl, rfl, fun B1 hB1 => ?_⟩
    refine ⟨_, _, _, Hp.set_same _ _ _, rfl, rfl, rfl, rfl, by show 9 ≤ 9; decide, ?_⟩
    have g1 := ((Gr.refl hF).set hB1.1 (Blk.row TRow [row0])).set hB1.1 (Blk.row TRow [row0])
    have k11 := kF.gr g1
    refine s_le (fun h => absurd h (by decide)) (fun _ => ?_)
    refine ⟨_, _, _, _, g1.blk h9F, rfl, rfl, ?_⟩
    refine s_nat 99 rfl (by decide) ?_
    refine (Skip_L k11.rd (d := 99) hm.2.2.1 hm.2.2.2.1 hm.2.2.2.2 h4 (by decide) hpos).mono ?_
    rintro r h4' hq3
    rw [rest_all] at hq3
    unfold SkipQ at hq3
    cases hy : conR 99 n c (b.drop (o + m)) with
    | bad e p =>
     rw [hy] at hq3 hX2
     obtain ⟨rfl, rfl⟩ := hq3
     have he := conR_bad _ _ _ _ _ _ hy
     refine (drightE_L (Hp.set_same _ _ _) (by omega)).mono ?_
     rintro r h5' ⟨rfl, rfl⟩
     exact ⟨rfl, Recs0Q.bad hX2 he (k11.g.set k.nR _)⟩
    | ok y z =>
     rw [hy] at hq3 hX2
     obtain ⟨v', rfl, _, gz, _⟩ := hq3
     have hz := conR_ok _ _ _ _ _ _ hy
     rw [List.length_drop] at hz
     have kz := (k11.read (o' := o + m + z) (by omega)).gr gz
     refine (dright_L kz.rd.row).mono ?_
     rintro r h5' ⟨rfl, rfl⟩
     refine .inr (.inl ?_)
     refine ⟨_, _, _, _, kz.nd, rfl, rfl, ?_⟩
     refine ⟨_, _, _, _, kz.g.blk hD, rfl, rfl, ?_⟩
     refine ⟨.int .i64 (o + m + z : Nat), fun h' hle => rAt_L R cv (o + m + z : Nat) b.length 0 0 h' (hle _ _ kz.rd.row), ?_⟩
     refine ⟨bt_one _, o + m + z, rfl, o, rfl, by omega, by omega, Nat.le_refl _, .inr ?_⟩
     have ex : bt ((b.take (o + m + z)).drop o) = ((bt b).take (o + m + z)).drop o := by rw [bt_drop, bt_take]
     have exl : (bt (b.take o)).length + (bt ((b.take (o + m + z)).drop o)).length ≤ 2000000000000 := by rw [bt_len, bt_len, List.length_take, List.length_drop, List.length_take]; omega
     refine ⟨bt ((b.take (o + m + z)).drop o), ex, ?_⟩
     refine AccE.app kz.ac (bt_one _) (bt_flat _) (by unfold capMax; omega) (by unfold capMax; omega) fun v H5 ha hf hu hb => ?_
     have hap : bt (b.take o) ++ bt ((b.take (o + m + z)).drop o) = bt (b.take (o + m + z)) := by
      rw [← bt_app, List.drop_take, show o + m + z - o = m + z by omega, Nat.add_assoc o m z, ← List.take_add]
     rw [hap] at ha
     have hN5 := (hf N (Hp.used kz.nd) kz.uN).trans kz.nd
     have kk := kz.app ha hf hb
     have hone := AccE.one ha
     refine ⟨_, _, _, hN5, rfl, hone.1, by show v.cells.length = 1; rw [hone.2.1]; rfl, by show flat v.cells = true; rw [hone.2.1]; exact hone.2.2, by show 3 ≤ 3; decide, ?_⟩
     have hset : (Blk.row TN [([AV.ptr Tt 0 0, .map FM, u] : List AV).take 2 ++ v.cells ++ ([AV.ptr Tt 0 0, .map FM, u] : List AV).drop 3]) = .row TN [[.ptr Tt 0 0, .map FM, v]] := by rw [hone.2.1]; rfl
     exact ⟨(o + m + z, v, _), by omega, ⟨by show q + 1 ≤ o + m + z; omega, by show o + m + z ≤ b.length; omega, kk, fun g hg => hX2.trans (fldR_fuel _ _ _ (by omega) hg)⟩, congrArg (fun x => H5.set N x) hset, rfl, rfl, rfl, rfl, rfl, trivial⟩
  ·have hX1 := q5 (b.length + 1) (by omega)
   rw [fldR, if_pos (by omega)] at hX1
   obtain rfl : o = b.length := by omega
   rw [List.take_length] at k
   exact ⟨rfl, by rw [hX1], u, k⟩
 ·rintro e' h' ⟨hd, hx, u, k⟩
  exact ⟨hd, .inl ⟨hx, rfl, u, k⟩⟩
end Go.Proofs.YtgjjbfhamlecoabGreatDoor

namespace Go.Proofs.YtgjjbfhamlecoabGreatDoor
open Go.L
abbrev F_slices_insertionSortOrdered : Nat := 251
def A_slices_insertionSortOrdered_0 : LA := [mv 8 1, Wi 9 .add 8 1, mv 6 9]
def A_slices_insertionSortOrdered_1 : LA := [mv 10 6, mv 11 2, Wb 12 .lss 10 11]
def A_slices_insertionSortOrdered_2 : LA := [mv 15 6, mv 7 15]
def A_slices_insertionSortOrdered_3 : LA := [mv 16 7, mv 17 1, Wb 18 .gtr 16 17, mv 19 18, Wgm 20 0 19, Wgm 21 7 19, g_ 22 (.iaddr 21 1 (.t 20) (.t 21)) 19, Wgl 23 22 19, Wgm 24 0 19, Wgm 25 7 19, g_ 26 (.bini .sub (.t 25) (i_ 1)) 19, g_ 27 (.iaddr 21 1 (.t 24) (.t 26)) 19, Wgl 28 27 19, g_ 29 (.call 257 [(.t 23), (.t 28)]) 19, Wp 30 19 29]
def A_slices_insertionSortOrdered_4 : LA := [mv 33 0, mv 34 7, mv 35 0, mv 36 7, Wi 37 .sub 36 1, mv 38 0, mv 39 7, Wi 40 .sub 39 1, Wa 41 21 1 38 40, Wl 42 41, mv 43 0, mv 44 7, Wa 45 21 1 43 44, Wl 46 45, Wa 47 21 1 33 34, Ws 1 47 42, Wa 48 21 1 35 37, Ws 1 48 46]
def A_slices_insertionSortOrdered_5 : LA := [mv 31 7, Wi 32 .sub 31 1, mv 7 32]
def A_slices_insertionSortOrdered_6 : ACode := (.seq (.seq (.alts [16, 17, 18, 19, 20, 21, 22, 23, 24, 25, 26, 27, 28, 29, 30] [A_slices_insertionSortOrdered_3]) (.cond (.t 30) .skip (.exit 2))) (.seq (.block 3 (.alts [33, 34, 35, 36, 37, 38, 39, 40, 41, 42, 43, 44, 45, 46, 47, 48] [A_slices_insertionSortOrdered_4])) (.ops A_slices_insertionSortOrdered_5)))
def A_slices_insertionSortOrdered_7 : LA := [mv 13 6, Wi 14 .add 13 1, mv 6 14]
def A_slices_insertionSortOrdered_8 : ACode := (.seq (.seq (.ops A_slices_insertionSortOrdered_1) (.cond (.t 12) .skip (.exit 0))) (.seq (.block 1 (.seq (.ops A_slices_insertionSortOrdered_2) (.block 2 (.loop A_slices_insertionSortOrdered_6)))) (.ops A_slices_insertionSortOrdered_7)))
def A_slices_insertionSortOrdered : ACode := (.seq (.ops A_slices_insertionSortOrdered_0) (.block 0 (.loop A_slices_insertionSortOrdered_8)))
def R_slices_insertionSortOrdered : List ARes := []
theorem C_slices_insertionSortOrdered : compF Tryz.prog Tryz.f251 = some (A_slices_insertionSortOrdered, R_slices_insertionSortOrdered) := by kernel_rfl
theorem K_slices_insertionSortOrdered {md : Bool} {args : List AV} {h : Hp} {Q : Res → Hp → Prop} (hl : LCode Tryz.prog md A_slices_insertionSortOrdered (EndQ R_slices_insertionSortOrdered Q) (env0 49 args) h) (hn : args.length ≤ 49 := by (simp; done)) : CallL Tryz.prog F_slices_insertionSortOrdered args h Q :=
 CallL.of (md := md) Tryz.func251 C_slices_insertionSortOrdered (by rw [Tryz.ntmps251]; exact hn) (by rw [Tryz.ntmps251]; exact hl)
abbrev F_slices_pdqsortOrdered : Nat := 196
def A_slices_pdqsortOrdered_0 : LA := [mv 19 2, mv 20 1, Wb 21 .sub 19 20, mv 10 21]
def A_slices_pdqsortOrdered_1 : LA := [mv 22 10, Wi 23 .leq 22 12]
def A_slices_pdqsortOrdered_2 : LA := [mv 24 0, mv 25 1, mv 26 2, o_ 27 (.call 251 [(.t 24), (.t 25), (.t 26)])]
def A_slices_pdqsortOrdered_3 : LA := [mv 28 3, Wi 29 .eql 28 0]
def A_slices_pdqsortOrdered_4 : LA := [mv 30 0, mv 31 1, mv 32 2, o_ 33 (.call 252 [(.t 30), (.t 31), (.t 32)])]
def A_slices_pdqsortOrdered_5 : LA := [mv 34 8, o_ 35 (.not (.t 34))]
def A_slices_pdqsortOrdered_6 : LA := [mv 36 0, mv 37 1, mv 38 2, o_ 39 (.call 253 [(.t 36), (.t 37), (.t 38)])]
def A_slices_pdqsortOrdered_7 : LA := [mv 40 3, Wi 41 .sub 40 1, mv 3 41]
def A_slices_pdqsortOrdered_8 : LA := [mv 43 0, mv 44 1, mv 45 2, o_ 46 (.call 254 [(.t 43), (.t 44), (.t 45)]), mv 42 46, Wx 47 0 42, Wx 48 1 42, mv 11 47, mv 12 48]
def A_slices_pdqsortOrdered_9 : LA := [mv 49 12, Wi 50 .eql 49 2]
def A_slices_pdqsortOrdered_10 : LA := [mv 51 0, mv 52 1, mv 53 2, o_ 54 (.call 255 [(.t 51), (.t 52), (.t 53)])]
def A_slices_pdqsortOrdered_11 : LA := [mv 55 2, Wi 56 .sub 55 1, mv 57 11, mv 58 1, Wb 59 .sub 57 58, Wb 60 .sub 56 59, mv 11 60]
def A_slices_pdqsortOrdered_12 : LA := [mv 61 8, mv 62 61, Wgm 63 9 62, Wp 64 62 63, mv 65 64, Wgm 66 12 65, g_ 67 (.bini .eql (.t 66) (i_ 1)) 65, Wp 68 65 67]
def A_slices_pdqsortOrdered_13 : LA := [mv 69 0, mv 70 1, mv 71 2, o_ 72 (.call 256 [(.t 69), (.t 70), (.t 71)])]
def A_slices_pdqsortOrdered_14 : LA := [mv 73 1, Wi 74 .gtr 73 0, mv 75 74, Wgm 76 0 75, Wgm 77 1 75, g_ 78 (.bini .sub (.t 77) (i_ 1)) 75, g_ 79 (.iaddr 21 1 (.t 76) (.t 78)) 75, Wgl 80 79 75, Wgm 81 0 75, Wgm 82 11 75, g_ 83 (.iaddr 21 1 (.t 81) (.t 82)) 75, Wgl 84 83 75, g_ 85 (.call 257 [(.t 80), (.t 84)]) 75, g_ 86 (.not (.t 85)) 75, Wp 87 75 86]
def A_slices_pdqsortOrdered_15 : LA := [mv 88 0, mv 89 1, mv 90 2, mv 91 11, o_ 92 (.call 258 [(.t 88), (.t 89), (.t 90), (.t 91)]), mv 13 92]
def A_slices_pdqsortOrdered_16 : LA := [mv 93 13, mv 1 93]
def A_slices_pdqsortOrdered_17 : LA := [mv 95 0, mv 96 1, mv 97 2, mv 98 11, o_ 99 (.call 259 [(.t 95), (.t 96), (.t 97), (.t 98)]), mv 94 99, Wx 100 0 94, Wx 101 1 94, mv 14 100, mv 15 101]
def A_slices_pdqsortOrdered_18 : LA := [mv 102 15, mv 9 102]
def A_slices_pdqsortOrdered_19 : LA := [mv 103 14, mv 104 1, Wb 105 .sub 103 104, mv 106 2, mv 107 14, Wb 108 .sub 106 107, mv 16 105, mv 17 108]
def A_slices_pdqsortOrdered_20 : LA := [mv 109 10, Wi 110 .quo 109 8, mv 18 110]
def A_slices_pdqsortOrdered_21 : LA := [mv 111 16, mv 112 17, Wb 113 .lss 111 112]
def A_slices_pdqsortOrdered_22 : LA := [mv 114 16, mv 115 18, Wb 116 .geq 114 115, mv 8 116]
def A_slices_pdqsortOrdered_23 : LA := [mv 117 0, mv 118 1, mv 119 14, mv 120 3, o_ 121 (.call 196 [(.t 117), (.t 118), (.t 119), (.t 120)])]
def A_slices_pdqsortOrdered_24 : LA := [mv 122 14, Wi 123 .add 122 1, mv 1 123]
def A_slices_pdqsortOrdered_25 : LA := [mv 124 17, mv 125 18, Wb 126 .geq 124 125, mv 8 126]
def A_slices_pdqsortOrdered_26 : LA := [mv 127 0, mv 128 14, Wi 129 .add 128 1, mv 130 2, mv 131 3, o_ 132 (.call 196 [(.t 127), (.t 129), (.t 130), (.t 131)])]
def A_slices_pdqsortOrdered_27 : LA := [mv 133 14, mv 2 133]
def A_slices_pdqsortOrdered_28 : ACode := (.block 1 (.seq (.ops A_slices_pdqsortOrdered_0) (.seq (.seq (.ops A_slices_pdqsortOrdered_1) (.cond (.t 23) (.seq (.ops A_slices_pdqsortOrdered_2) .ret) .skip)) (.seq (.seq (.ops A_slices_pdqsortOrdered_3) (.cond (.t 29) (.seq (.ops A_slices_pdqsortOrdered_4) .ret) .skip)) (.seq (.seq (.ops A_slices_pdqsortOrdered_5) (.cond (.t 35) (.seq (.ops A_slices_pdqsortOrdered_6) (.ops A_slices_pdqsortOrdered_7)) .skip)) (.seq (.ops A_slices_pdqsortOrdered_8) (.seq (.seq (.ops A_slices_pdqsortOrdered_9) (.cond (.t 50) (.seq (.ops A_slices_pdqsortOrdered_10) (.seq (.ops A_slices_pdqsortOrdered_11) (.ops [Wm 12 1]))) .skip)) (.seq (.seq (.ops A_slices_pdqsortOrdered_12) (.cond (.t 68) (.seq (.ops A_slices_pdqsortOrdered_13) (.cond (.t 72) .ret .skip)) .skip)) (.seq (.seq (.alts [73, 74, 75, 76, 77, 78, 79, 80, 81, 82, 83, 84, 85, 86, 87] [A_slices_pdqsortOrdered_14]) (.cond (.t 87) (.seq (.ops A_slices_pdqsortOrdered_15) (.seq (.ops A_slices_pdqsortOrdered_16) (.exit 1))) .skip)) (.seq (.ops A_slices_pdqsortOrdered_17) (.seq (.ops A_slices_pdqsortOrdered_18) (.seq (.ops A_slices_pdqsortOrdered_19) (.seq (.ops A_slices_pdqsortOrdered_20) (.seq (.ops A_slices_pdqsortOrdered_21) (.cond (.t 113) (.seq (.ops A_slices_pdqsortOrdered_22) (.seq (.ops A_slices_pdqsortOrdered_23) (.ops A_slices_pdqsortOrdered_24))) (.seq (.ops A_slices_pdqsortOrdered_25) (.seq (.ops A_slices_pdqsortOrdered_26) (.ops A_slices_pdqsortOrdered_27))))))))))))))))))
def A_slices_pdqsortOrdered : ACode := (.seq (.ops [Wo 8 true]) (.seq (.ops [Wo 9 true]) (.block 0 (.loop A_slices_pdqsortOrdered_28))))
def R_slices_pdqsortOrdered : List ARes := []
theorem C_slices_pdqsortOrdered : compF Tryz.prog Tryz.f196 = some (A_slices_pdqsortOrdered, R_slices_pdqsortOrdered) := by kernel_rfl
theorem K_slices_pdqsortOrdered {md : Bool} {args : List AV} {h : Hp} {Q : Res → Hp → Prop} (hl : LCode Tryz.prog md A_slices_pdqsortOrdered (EndQ R_slices_pdqsortOrdered Q) (env0 134 args) h) (hn : args.length ≤ 134 := by (simp; done)) : CallL Tryz.prog F_slices_pdqsortOrdered args h Q :=
 CallL.of (md := md) Tryz.func196 C_slices_pdqsortOrdered (by rw [Tryz.ntmps196]; exact hn) (by rw [Tryz.ntmps196]; exact hl)
abbrev F_slices_Sort : Nat := 141
def A_slices_Sort_0 : LA := [mv 3 0, We 4 3, mv 2 4]
def A_slices_Sort_1 : LA := [mv 5 0, mv 6 2, mv 7 2, o_ 8 (.conv .u64 (.t 7)), o_ 9 (.call 69 [(.t 8)]), o_ 10 (.call 196 [(.t 5), (i_ 0), (.t 6), (.t 9)])]
def A_slices_Sort : ACode := (.seq (.ops A_slices_Sort_0) (.ops A_slices_Sort_1))
def R_slices_Sort : List ARes := []
theorem C_slices_Sort : compF Tryz.prog Tryz.f141 = some (A_slices_Sort, R_slices_Sort) := by kernel_rfl
theorem K_slices_Sort {md : Bool} {args : List AV} {h : Hp} {Q : Res → Hp → Prop} (hl : LCode Tryz.prog md A_slices_Sort (EndQ R_slices_Sort Q) (env0 11 args) h) (hn : args.length ≤ 11 := by (simp; done)) : CallL Tryz.prog F_slices_Sort args h Q :=
 CallL.of (md := md) Tryz.func141 C_slices_Sort (by rw [Tryz.ntmps141]; exact hn) (by rw [Tryz.ntmps141]; exact hl)
abbrev F_maps_Keys_F : Nat := 89
def A_maps_Keys_F_0 : LA := [o_ 1 (.box 194 1 (.t 0)), o_ 2 (.mov (.c (.nilf)))]
def A_maps_Keys_F_1 : LA := [o_ 3 (.mkfn 142 [] [(.t 1)]), mv 2 3]
def A_maps_Keys_F : ACode := (.seq (.ops A_maps_Keys_F_0) (.seq (.ops A_maps_Keys_F_1) .ret))
def R_maps_Keys_F : List ARes := [.tmp 2]
theorem C_maps_Keys_F : compF Tryz.prog Tryz.f89 = some (A_maps_Keys_F, R_maps_Keys_F) := by kernel_rfl
theorem K_maps_Keys_F {md : Bool} {args : List AV} {h : Hp} {Q : Res → Hp → Prop} (hl : LCode Tryz.prog md A_maps_Keys_F (EndQ R_maps_Keys_F Q) (env0 4 args) h) (hn : args.length ≤ 4 := by (simp; done)) : CallL Tryz.prog F_maps_Keys_F args h Q :=
 CallL.of (md := md) Tryz.func89 C_maps_Keys_F (by rw [Tryz.ntmps89]; exact hn) (by rw [Tryz.ntmps89]; exact hl)
abbrev F_maps_Keys_F1 : Nat := 142
def A_maps_Keys_F1_0 : LA := [Wl 4 1, o_ 5 (.rngm (.t 4))]
def A_maps_Keys_F1_1 : LA := [o_ 6 (.nxm (.t 5)), Wx 7 0 6]
def A_maps_Keys_F1_2 : LA := [o_ 8 (.entr (.t 5)), Wx 9 0 8, mv 3 9]
def A_maps_Keys_F1_3 : LA := [mv 10 0, mv 11 3, o_ 12 (.callv (.t 10) [(.t 11)]), o_ 13 (.not (.t 12))]
def A_maps_Keys_F1_4 : ACode := (.seq (.ops A_maps_Keys_F1_1) (.seq (.cond (.t 7) .skip (.exit 0)) (.block 1 (.seq (.ops A_maps_Keys_F1_2) (.seq (.ops A_maps_Keys_F1_3) (.cond (.t 13) .ret .skip))))))
def A_maps_Keys_F1 : ACode := (.seq (.ops A_maps_Keys_F1_0) (.block 0 (.loop A_maps_Keys_F1_4)))
def R_maps_Keys_F1 : List ARes := []
theorem C_maps_Keys_F1 : compF Tryz.prog Tryz.f142 = some (A_maps_Keys_F1, R_maps_Keys_F1) := by kernel_rfl
theorem K_maps_Keys_F1 {md : Bool} {args : List AV} {h : Hp} {Q : Res → Hp → Prop} (hl : LCode Tryz.prog md A_maps_Keys_F1 (EndQ R_maps_Keys_F1 Q) (env0 14 args) h) (hn : args.length ≤ 14 := by (simp; done)) : CallL Tryz.prog F_maps_Keys_F1 args h Q :=
 CallL.of (md := md) Tryz.func142 C_maps_Keys_F1 (by rw [Tryz.ntmps142]; exact hn) (by rw [Tryz.ntmps142]; exact hl)
abbrev F_slices_AppendSeq : Nat := 195
def A_slices_AppendSeq_0 : LA := [o_ 2 (.box 216 1 (.t 0)), Wn 4]
def A_slices_AppendSeq_1 : LA := [Wl 8 2, mv 9 5, o_ 10 (.bslice 21 1 1 [.int .i32 0] [(0, 1, (.t 9))]), o_ 11 (.app 21 1 4 (.t 8) (.t 10)), Ws 1 2 11]
def A_slices_AppendSeq_2 : LA := [Wl 12 2, mv 4 12]
def A_slices_AppendSeq : ACode := (.seq (.ops A_slices_AppendSeq_0) (.seq (.seq (.ops [mv 6 1]) (.block 0 (.rngf (.t 6) [7] (.ops [mv 5 7]) (.block 1 (.ops A_slices_AppendSeq_1))))) (.seq (.ops A_slices_AppendSeq_2) .ret)))
def R_slices_AppendSeq : List ARes := [.tmp 4]
theorem C_slices_AppendSeq : compF Tryz.prog Tryz.f195 = some (A_slices_AppendSeq, R_slices_AppendSeq) := by kernel_rfl
abbrev F_slices_Collect : Nat := 140
def A_slices_Collect_0 : LA := [mv 3 0, o_ 4 (.call 195 [(.c (.nils)), (.t 3)]), mv 2 4]
def A_slices_Collect : ACode := (.seq (.ops [Wn 2]) (.seq (.ops A_slices_Collect_0) .ret))
def R_slices_Collect : List ARes := [.tmp 2]
theorem C_slices_Collect : compF Tryz.prog Tryz.f140 = some (A_slices_Collect, R_slices_Collect) := by kernel_rfl
theorem K_slices_Collect {md : Bool} {args : List AV} {h : Hp} {Q : Res → Hp → Prop} (hl : LCode Tryz.prog md A_slices_Collect (EndQ R_slices_Collect Q) (env0 5 args) h) (hn : args.length ≤ 5 := by (simp; done)) : CallL Tryz.prog F_slices_Collect args h Q :=
 CallL.of (md := md) Tryz.func140 C_slices_Collect (by rw [Tryz.ntmps140]; exact hn) (by rw [Tryz.ntmps140]; exact hl)
abbrev F_slices_Sorted : Nat := 88
def A_slices_Sorted_0 : LA := [mv 4 0, o_ 5 (.call 140 [(.t 4)]), mv 3 5]
def A_slices_Sorted_1 : LA := [mv 6 3, o_ 7 (.call 141 [(.t 6)])]
def A_slices_Sorted_2 : LA := [mv 8 3, mv 2 8]
def A_slices_Sorted : ACode := (.seq (.ops [Wn 2]) (.seq (.ops A_slices_Sorted_0) (.seq (.ops A_slices_Sorted_1) (.seq (.ops A_slices_Sorted_2) .ret))))
def R_slices_Sorted : List ARes := [.tmp 2]
theorem C_slices_Sorted : compF Tryz.prog Tryz.f88 = some (A_slices_Sorted, R_slices_Sorted) := by kernel_rfl
theorem K_slices_Sorted {md : Bool} {args : List AV} {h : Hp} {Q : Res → Hp → Prop} (hl : LCode Tryz.prog md A_slices_Sorted (EndQ R_slices_Sorted Q) (env0 9 args) h) (hn : args.length ≤ 9 := by (simp; done)) : CallL Tryz.prog F_slices_Sorted args h Q :=
 CallL.of (md := md) Tryz.func88 C_slices_Sorted (by rw [Tryz.ntmps88]; exact hn) (by rw [Tryz.ntmps88]; exact hl)
abbrev F_math_bits_Len : Nat := 69
def A_math_bits_Len_0 : LA := [mv 3 0, o_ 4 (.conv .u32 (.t 3)), o_ 5 (.call 124 [(.t 4)]), mv 2 5]
def A_math_bits_Len_1 : LA := [mv 6 0, o_ 7 (.call 125 [(.t 6)]), mv 2 7]
def A_math_bits_Len : ACode := (.seq (.ops [Wm 2 0]) (.seq (.cond (.c (.bool false)) (.seq (.ops A_math_bits_Len_0) .ret) .skip) (.seq (.ops A_math_bits_Len_1) .ret)))
def R_math_bits_Len : List ARes := [.tmp 2]
theorem C_math_bits_Len : compF Tryz.prog Tryz.f69 = some (A_math_bits_Len, R_math_bits_Len) := by kernel_rfl
theorem K_math_bits_Len {md : Bool} {args : List AV} {h : Hp} {Q : Res → Hp → Prop} (hl : LCode Tryz.prog md A_math_bits_Len (EndQ R_math_bits_Len Q) (env0 8 args) h) (hn : args.length ≤ 8 := by (simp; done)) : CallL Tryz.prog F_math_bits_Len args h Q :=
 CallL.of (md := md) Tryz.func69 C_math_bits_Len (by rw [Tryz.ntmps69]; exact hn) (by rw [Tryz.ntmps69]; exact hl)
end Go.Proofs.YtgjjbfhamlecoabGreatDoor

namespace Go.Proofs.YtgjjbfhamlecoabGreatDoor
open Go.L
theorem Len_L (v : Nat) (hv : v < 18446744073709551616) (h : Hp) : CallL Tryz.prog F_math_bits_Len [.int .u64 v] h fun r h' => (∃ n : Nat, n ≤ 64 ∧ r = .ret (.int .i64 n)) ∧ h' = h := by
 refine K_math_bits_Len (md := false) ?_
 refine (Len64_L v hv h).mono ?_
 rintro r h' ⟨⟨n, hn, rfl⟩, rfl⟩
 exact ⟨rfl, ⟨n, hn, rfl⟩, rfl⟩
theorem insert0_L (h : Hp) : CallL Tryz.prog F_slices_insertionSortOrdered [.nils, .int .i64 0, .int .i64 0] h fun r h' => r = .ret (.tup []) ∧ h' = h := by
 refine K_slices_insertionSortOrdered (md := false) ?_
 refine s_nat 1 rfl (by decide) ?_
 refine s_blk (id := 0) (fun e' h' => h' = h ∧ e'.ds = []) ?_ ?_
 ·refine s_loop 0 (fun q (_ : Unit) => q ≤ 0) (fun _ _ => [(2, .int .i64 0), (6, .int .i64 1)]) (fun _ _ => h) () (Nat.le_refl _) rfl rfl ⟨rfl, rfl, trivial⟩ (fun _ _ h => h) ?_
  rintro q _ n0 g0 _ _
  refine s_lt (fun h1 => absurd h1 (by decide)) (fun _ => ?_)
  exact ⟨rfl, rfl⟩
 ·rintro e' h' ⟨rfl, hd⟩
  exact ⟨hd, rfl, rfl⟩
theorem pdq0_L (h : Hp) (q : Int) : CallL Tryz.prog F_slices_pdqsortOrdered [.nils, .int .i64 0, .int .i64 0, .int .i64 q] h fun r h' => r = .ret (.tup []) ∧ h' = h := by
 refine K_slices_pdqsortOrdered (md := false) ?_
 refine ⟨fun _ e h' => h' = h ∧ e.ds = [] ∧ Has e [(0, .nils), (1, .int .i64 0), (2, .int .i64 0), (3, .int .i64 q)], ⟨0, rfl, rfl, rfl, rfl, rfl, rfl, trivial⟩, ?_⟩
 rintro n' e h' ⟨rfl, hd, hh⟩
 obtain ⟨n0, g, rfl⟩ := hh.out hd
 clear hh hd
 refine s_nat 0 rfl (by decide) ?_
 refine s_le (fun _ => ?_) (fun h1 => absurd h1 (by decide))
 refine (insert0_L h').mono ?_
 rintro r h2 ⟨rfl, rfl⟩
 exact ⟨rfl, rfl, rfl⟩
theorem Sort0_L (h : Hp) : CallL Tryz.prog F_slices_Sort [.nils] h fun r h' => r = .ret (.tup []) ∧ h' = h := by
 refine K_slices_Sort (md := false) ?_
 refine s_ie (u64_nat (v := 0) (by decide)) ?_
 refine (Len_L 0 (by decide) h).mono ?_
 rintro r h' ⟨⟨n, hn, rfl⟩, rfl⟩
 refine (pdq0_L h' n).mono ?_
 rintro r h2 ⟨rfl, rfl⟩
 exact ⟨rfl, rfl, rfl⟩
theorem Has_KeysF : HasBody Tryz.prog F_maps_Keys_F1 := ⟨_, Tryz.func142, by kernel_rfl, by kernel_rfl⟩
theorem keys0_L {c m clk Tc j : Nat} {h : Hp} (hc : h c = some (.row Tc [[.map m]])) (hm : h m = some (.map [] clk)) :
  CallL Tryz.prog F_maps_Keys_F1 [.yld j, .ptr c 0 0] h fun r h' => (∃ v, r = .ret v) ∧ Gr h h' := by
 refine K_maps_Keys_F1 (md := false) ?_
 refine ⟨Tc, _, _, _, hc, rfl, rfl, ?_⟩
 refine ⟨[], clk, hm, fun it hit => ?_⟩
 have dm : m ≠ it := ne_of_u (Hp.used hm) hit.1
 refine s_blk (id := 0) (fun e' h' => e'.ds = [] ∧ Gr h h') ?_ ?_
 ·refine s_loop 0 (fun q (_ : Unit) => q ≤ 0) (fun _ _ => [(5, .ptr it 0 0)]) (fun _ _ => h.set it (.mapIter (some m) clk [] clk)) () (Nat.le_refl _) rfl rfl ⟨rfl, trivial⟩ (fun _ _ h => h) ?_
  rintro q _ n0 g0 _ _
  refine ⟨some m, clk, _, clk, Hp.set_same _ _ _, [], clk, (Hp.set_ne dm).trans hm, .inl rfl, fun _ => .inl ?_, fun kk v b hin => by cases hin⟩
  exact ⟨_, rfl, rfl, (Gr.refl h).set hit.1 _⟩
 ·rintro e' h' ⟨hd, g⟩
  exact ⟨hd, ⟨_, rfl⟩, g⟩
theorem AppendSeq0_L {c m clk Tc : Nat} {h : Hp} (hc : h c = some (.row Tc [[.map m]])) (hm : h m = some (.map [] clk)) :
  CallL Tryz.prog F_slices_AppendSeq [.nils, .func (.func F_maps_Keys_F1) [] [.ptr c 0 0]] h fun r h' => r = .ret .nils ∧ Gr h h' := by
 refine CallL.ofD (md := false) Tryz.func195 C_slices_AppendSeq (by rw [Tryz.ntmps195]; exact (show 2 ≤ 13 by decide)) (by
  rw [Tryz.ntmps195]
  refine ⟨rfl, rfl, fun ib hib => ?_⟩
  refine ⟨Has_KeysF, fun id hid j hj => ?_⟩
  have gb := (Gr.refl h).set hib.1 (.row 216 [[.nils]])
  have gd := gb.set (gb.new hid.1) .dfr
  have nj : ib ≠ j := ne_of_u (by rw [Hp.set_u, Hp.set_u]; simp) hj.1
  have nd : ib ≠ id := ne_of_u (by rw [Hp.set_u]; simp) hid.1
  have ndj : id ≠ j := ne_of_u (by rw [Hp.set_u]; simp) hj.1
  refine (keys0_L (j := j) ((Hp.set_ne ?_).trans (gd.blk hc)) ((Hp.set_ne ?_).trans (gd.blk hm))).mono ?_
  ·exact ne_of_u (gd.u _ (Hp.used hc)) hj.1
  ·exact ne_of_u (gd.u _ (Hp.used hm)) hj.1
  ·rintro r H ⟨⟨v, rfl⟩, g⟩
   have hjH := g.blk (Hp.set_same _ _ _)
   refine ⟨none, _, _, _, _, _, _, hjH, ⟨by simp, rfl⟩, .inl ?_⟩
   have hib2 := g.blk ((Hp.set_ne nj).trans ((Hp.set_ne nd).trans (Hp.set_same h ib (.row 216 [[.nils]]))))
   refine ⟨_, _, _, _, (Hp.set_ne nj).trans hib2, rfl, rfl, ?_⟩
   have hid2 := g.blk ((Hp.set_ne ndj).trans (Hp.set_same _ id .dfr))
   refine ⟨(Hp.set_ne ndj).trans hid2, ?_⟩
   have g2 := (gd.set (gd.new hj.1) (.dfr)).trans (Gr.refl _)
   have hju : h.u j = false := gd.new hj.1
   have hidu : h.u id = false := gb.new hid.1
   refine ⟨rfl, ?_⟩
   refine Gr.del (Gr.set (Gr.trans (gd.set hju _) g) hju _) hidu)
theorem Sorted0_L {c m clk Tc : Nat} {h : Hp} (hc : h c = some (.row Tc [[.map m]])) (hm : h m = some (.map [] clk)) :
  CallL Tryz.prog F_slices_Sorted [.func (.func F_maps_Keys_F1) [] [.ptr c 0 0]] h fun r h' => r = .ret .nils ∧ Gr h h' := by
 refine K_slices_Sorted (md := false) ?_
 refine CallL.mono (Q := fun r h' => r = .ret .nils ∧ Gr h h') ?_ ?_
 ·refine K_slices_Collect (md := false) ?_
  refine (AppendSeq0_L hc hm).mono ?_
  rintro r h' ⟨rfl, g⟩
  exact ⟨rfl, rfl, g⟩
 ·rintro r h' ⟨rfl, g⟩
  refine (Sort0_L h').mono ?_
  rintro r h2 ⟨rfl, rfl⟩
  exact ⟨rfl, rfl, g⟩
theorem KeysF_L (m : Nat) (h : Hp) : CallL Tryz.prog F_maps_Keys_F [.map m] h fun r h' => ∃ c, r = .ret (.func (.func F_maps_Keys_F1) [] [.ptr c 0 0]) ∧ h.u c = false ∧ ∃ Tc, h' = h.set c (.row Tc [[.map m]]) := by
 refine K_maps_Keys_F (md := false) ?_
 refine ⟨rfl, rfl, fun c hc => ?_⟩
 exact ⟨rfl, c, rfl, hc.1, _, rfl⟩
end Go.Proofs.YtgjjbfhamlecoabGreatDoor

namespace Go.Proofs.YtgjjbfhamlecoabGreatDoor
open Go.L
theorem Type_L {Tt : Nat} {full : Str} {os rs nm nv jv : AV} {h : Hp} (hT : h Tt = some (.row TTab [TabC (.str full) os rs nm nv jv])) : CallL Tryz.prog F_table_Table_Type [.ptr Tt 0 0] h fun r h' => r = .ret (.str full) ∧ h' = h := by
 refine K_table_Table_Type (md := false) ?_
 refine ⟨_, _, _, _, hT, rfl, rfl, ?_⟩
 exact ⟨rfl, rfl, rfl⟩
abbrev TM : TypeId := 40
def MsgC (full : Str) (fs un : AV) : List AV := [.str full, fs, un]
theorem Msg_lay {full : Str} {u : AV} (hv : notTup u = true ∧ u.cells = [u] ∧ flat [u] = true) {e : Env} {x y : AOpd} (hx : ev e x = .str full) (hy : ev e y = u) : lay e [.str [], .nils, .nils] [(0, 1, x), (2, 1, y)] = some (MsgC full .nils u) := by
 rw [lay, hx]
 show lay e _ _ = _
 rw [lay, hy, hv.1, hv.2.1]
 rfl
theorem MsgC_len (full : Str) (fs un : AV) : (MsgC full fs un).length = 3 := rfl
theorem Msg_flat {full : Str} {u : AV} (hv : flat [u] = true) : flat (MsgC full .nils u) = true := by
 simp only [flat, MsgC, List.all_cons, List.all_nil, Bool.and_true, Bool.and_eq_true] at hv ⊢
 exact ⟨rfl, rfl, hv⟩
set_option maxHeartbeats 1000000 in
theorem msg0_L {h : Hp} {N Tt FM cF : Nat} {full : Str} {os rs nm nv jv u : AV} (hN : h N = some (.row TN [[.ptr Tt 0 0, .map FM, u]])) (hT : h Tt = some (.row TTab [TabC (.str full) os rs nm nv jv])) (hF : h FM = some (.map [] cF))
  (hu : notTup u = true ∧ u.cells = [u] ∧ flat [u] = true) : CallL Tryz.prog F_decode_node_msg [.ptr N 0 0] h fun r h' => r = .ret (.agg (MsgC full .nils u)) ∧ Gr h h' := by
 refine K_decode_node_msg (md := false) ?_
 refine ⟨rfl, rfl, fun B hB => ?_⟩
 have g1 := (Gr.refl h).set hB.1 (.row TM [[.str [], .nils, .nils]])
 refine .inr (.inl ?_)
 refine ⟨_, _, _, _, g1.blk hN, rfl, rfl, ?_⟩
 refine ⟨.str full, fun h' hle => Type_L (hle _ _ (g1.blk hT)), ?_⟩
 refine ⟨_, _, _, _, g1.blk hN, rfl, rfl, ?_⟩
 refine ⟨_, Msg_lay hu rfl rfl, ?_⟩
 refine ⟨rfl, rfl, fun B2 hB2 => ?_⟩
 refine ⟨_, _, _, Hp.set_same _ _ _, rfl, rfl, MsgC_len _ _ _, Msg_flat hu.2.2, by show 3 ≤ 3; decide, ?_⟩
 have g3 := (g1.set (g1.new hB2.1) (.row TM [[.str [], .nils, .nils]])).set (g1.new hB2.1) (.row TM [MsgC full .nils u])
 have hBu : ((h.set B (.row TM [[.str [], .nils, .nils]])).u B) = true := by rw [Hp.set_u]; simp
 have hBB : B ≠ B2 := ne_of_u hBu hB2.1
 refine ⟨_, _, _, _, g3.blk hN, rfl, rfl, ?_⟩
 refine (KeysF_L FM _).mono ?_
 rintro r h4 ⟨c, rfl, hc, Tc, rfl⟩
 have g4 := g3.set (g3.new hc) (.row Tc [[.map FM]])
 refine (Sorted0_L (Hp.set_same _ _ _) (g4.blk hF)).mono ?_
 rintro r h5 ⟨rfl, g5⟩
 have hB2' := g5.blk ((Hp.set_ne (ne_of_u (by rw [Hp.set_u]; simp) hc)).trans (Hp.set_same ((h.set B (.row TM [[.str [], .nils, .nils]])).set B2 (.row TM [[.str [], .nils, .nils]])) B2 (.row TM [MsgC full .nils u])))
 have hB' := g5.blk ((Hp.set_ne (ne_of_u (by rw [Hp.set_u, Hp.set_u, Hp.set_u]; simp) hc)).trans ((Hp.set_ne hBB).trans ((Hp.set_ne hBB).trans (Hp.set_same h B (.row TM [[.str [], .nils, .nils]])))))
 refine s_blk (id := 0) (fun e' h' => h' = h5 ∧ e'.ds = [] ∧ Has e' [(2, .ptr B 0 0), (3, .ptr B2 0 0)]) ?_ ?_
 ·refine s_loop 0 (fun q (_ : Unit) => q ≤ 0) (fun _ _ => [(2, .ptr B 0 0), (3, .ptr B2 0 0), (29, .int .i64 0), (30, .int .i64 0)]) (fun _ _ => h5) () (Nat.le_refl _) rfl rfl ⟨rfl, rfl, rfl, rfl, trivial⟩ (fun _ _ h => h) ?_
  rintro q _ n0 g0 _ _
  refine s_lt (fun h1 => absurd h1 (by decide)) (fun _ => ?_)
  exact ⟨rfl, rfl, rfl, rfl, trivial⟩
 rintro e' h' ⟨rfl, hd, hh⟩
 obtain ⟨n0, g0, rfl⟩ := hh.out hd
 refine ⟨_, _, _, hB2', rfl, by show 3 ≤ 3; decide, ?_⟩
 refine ⟨_, _, _, hB', rfl, rfl, rfl, Msg_flat hu.2.2, by show 3 ≤ 3; decide, ?_⟩
 refine ⟨rfl, ?_⟩
 refine ⟨_, _, _, Hp.set_same _ _ _, rfl, by show 3 ≤ 3; decide, ?_⟩
 exact ⟨rfl, (g4.trans g5).set hB.1 _⟩
theorem CloneNil_L (h : Hp) : CallL Tryz.prog F_slices_Clone [.nils] h fun r h' => r = .ret .nils ∧ h' = h := by
 refine K_slices_Clone (md := false) ?_
 exact ⟨rfl, rfl, rfl⟩
def NewN (Tt : Nat) (h : Hp) (r : Res) (h' : Hp) : Prop := ∃ N FM, r = .ret (.ptr N 0 0) ∧ h.u N = false ∧ h.u FM = false ∧ Gr h h' ∧ h' N = some (.row TN [[.ptr Tt 0 0, .map FM, .nils]]) ∧ h' FM = some (.map [] 0)
theorem empty_L {D S Tt : Nat} {full : Str} {h : Hp} {bv wv : AV} {a : Int} (hD : h D = some (.row TD [[.ifc 36 (.ptr S 0 0), bv, wv]]))
  (hTab : CallL Tryz.prog F_table_Set_Table [.ptr S 0 0, .str full] h fun r h' => r = .ret (.tup [.ptr Tt 0 0, .int .i64 0]) ∧ h' = h) :
  CallL Tryz.prog F_decode_decoder_empty [.ptr D 0 0, .str full, .int .i64 a] h (NewN Tt h) := by
 refine K_decode_decoder_empty (md := false) ?_
 refine ⟨_, _, _, _, hD, rfl, rfl, ?_⟩
 refine hTab.mono ?_
 rintro r h' ⟨rfl, rfl⟩
 refine ⟨_, rfl, _, rfl, ?_⟩
 refine s_ne (fun h1 => absurd rfl h1) (fun _ => ?_)
 intro FM hFM
 refine ⟨_, rfl, ?_⟩
 refine ⟨rfl, rfl, fun N hN => ?_⟩
 have hFN : FM ≠ N := ne_of_u (by rw [Hp.set_u]; simp) hN.1
 have g1 := (Gr.refl h').set hFM.1 (.map [] 0)
 exact ⟨rfl, N, FM, rfl, g1.new hN.1, hFM.1, g1.set (g1.new hN.1) _, Hp.set_same _ _ _, (Hp.set_ne hFN).trans (Hp.set_same _ _ _)⟩
theorem node0_L {D S Tt : Nat} {full : Str} {h : Hp} {bv wv : AV} (hD : h D = some (.row TD [[.ifc 36 (.ptr S 0 0), bv, wv]]))
  (hTab : ∀ h', Gr h h' → CallL Tryz.prog F_table_Set_Table [.ptr S 0 0, .str full] h' fun r h'' => r = .ret (.tup [.ptr Tt 0 0, .int .i64 0]) ∧ h'' = h') :
  CallL Tryz.prog F_decode_decoder_node [.ptr D 0 0, .agg (MsgC full .nils .nils)] h (NewN Tt h) := by
 refine K_decode_decoder_node (md := false) ?_
 refine ⟨rfl, rfl, fun B hB => ?_⟩
 have g1 := (Gr.refl h).set hB.1 (.row TM [MsgC full .nils .nils])
 refine ⟨_, _, _, _, Hp.set_same _ _ _, rfl, rfl, ?_⟩
 refine (empty_L (g1.blk hD) (hTab _ g1)).mono ?_
 rintro r h2 ⟨N, FM, rfl, hN, hFM, g2, k1, k2⟩
 have hB2 := g2.blk (Hp.set_same h B (.row TM [MsgC full .nils .nils]))
 refine ⟨_, _, _, _, hB2, rfl, rfl, ?_⟩
 refine (CloneNil_L h2).mono ?_
 rintro r h3 ⟨rfl, rfl⟩
 refine ⟨_, _, _, k1, rfl, rfl, rfl, rfl, by show 3 ≤ 3; decide, ?_⟩
 have hNB : B ≠ N := ne_of_u (by rw [Hp.set_u]; simp) hN
 have hFN : FM ≠ N := fun e => by rw [e, k1] at k2; cases k2
 have g3 := (g1.trans g2).set (g1.new hN) (.row TN [[.ptr Tt 0 0, .map FM, .nils]])
 refine ⟨_, _, _, _, (Hp.set_ne hNB).trans hB2, rfl, rfl, ?_⟩
 refine s_blk (id := 0) (fun e' h' => h' = h3.set N (.row TN [[.ptr Tt 0 0, .map FM, .nils]]) ∧ e'.ds = [] ∧ Has e' [(5, .ptr N 0 0)]) ?_ ?_
 ·refine s_loop 0 (fun q (_ : Unit) => q ≤ 0) (fun _ _ => [(5, .ptr N 0 0), (28, .int .i64 0), (29, .int .i64 0)]) (fun _ _ => h3.set N (.row TN [[.ptr Tt 0 0, .map FM, .nils]])) () (Nat.le_refl _) rfl rfl ⟨rfl, rfl, rfl, trivial⟩ (fun _ _ h => h) ?_
  rintro q _ n0 g0 _ _
  refine s_lt (fun h1 => absurd h1 (by decide)) (fun _ => ?_)
  exact ⟨rfl, rfl, rfl, trivial⟩
 rintro e' h' ⟨rfl, hd, hh⟩
 obtain ⟨n0, g0, rfl⟩ := hh.out hd
 exact ⟨rfl, N, FM, rfl, g1.new hN, g1.new hFM, g3, Hp.set_same _ _ _, (Hp.set_ne hFN).trans k2⟩
end Go.Proofs.YtgjjbfhamlecoabGreatDoor

namespace Go.Proofs.YtgjjbfhamlecoabGreatDoor
open Go.L
def el (z : Int) : List AV := [.int .i32 z]
def rwI (zs : List Int) : Blk := .row 21 (zs.map el)
def But (j k : Nat) (ys : List Int) : Prop := ∀ (p q : Nat) (x y : Int), p < q → q ≤ k → q ≠ j → ys[p]? = some x → ys[q]? = some y → x ≤ y
def SortedTo (k : Nat) (ys : List Int) : Prop := ∀ (p q : Nat) (x y : Int), p < q → q < k → ys[p]? = some x → ys[q]? = some y → x ≤ y
theorem But.step {l r : List Int} {a b : Int} {k : Nat} (hb : But (l.length + 1) k (l ++ a :: b :: r)) (hk : l.length + 1 ≤ k) (hab : b < a) : But l.length k (l ++ b :: a :: r) := by
 have g1 : ∀ (c d : Int), (l ++ c :: d :: r)[l.length]? = some c := fun c d => by simp
 have g2 : ∀ (c d : Int), (l ++ c :: d :: r)[l.length + 1]? = some d := fun c d => by
  rw [List.getElem?_append_right (by omega)]; simp
 have g3 : ∀ (p : Nat), p ≠ l.length → p ≠ l.length + 1 → (l ++ b :: a :: r)[p]? = (l ++ a :: b :: r)[p]? := fun p h1 h2 => by
  rcases Nat.lt_or_ge p l.length with h | h
  ·rw [List.getElem?_append_left h, List.getElem?_append_left h]
  ·rw [List.getElem?_append_right h, List.getElem?_append_right h]
   obtain ⟨n, hn⟩ : ∃ n, p - l.length = n + 2 := ⟨p - l.length - 2, by omega⟩
   rw [hn]; simp
 intro p q x y hpq hq hne hx hy
 by_cases q1 : q = l.length + 1
 ·subst q1
  rw [g2] at hy; cases hy
  by_cases p1 : p = l.length
  ·subst p1; rw [g1] at hx; cases hx; omega
  ·rw [g3 p p1 (by omega)] at hx
   exact hb p l.length x a (by omega) (by omega) (by omega) hx (g1 a b)
 ·rw [g3 q hne q1] at hy
  by_cases p1 : p = l.length
  ·subst p1; rw [g1] at hx; cases hx
   exact hb (l.length + 1) q _ y (by omega) hq q1 (g2 a b) hy
  ·by_cases p2 : p = l.length + 1
   ·subst p2; rw [g2] at hx; cases hx
    exact hb l.length q _ y (by omega) hq q1 (g1 a b) hy
   ·rw [g3 p p1 p2] at hx
    exact hb p q x y hpq hq q1 hx hy
theorem But.done {l r : List Int} {a b : Int} {k : Nat} (hb : But (l.length + 1) k (l ++ a :: b :: r)) (hk : l.length + 1 ≤ k) (hab : ¬ b < a) : SortedTo (k + 1) (l ++ a :: b :: r) := by
 intro p q x y hpq hq hx hy
 by_cases q1 : q = l.length + 1
 ·subst q1
  have hy' : y = b := by
   rw [List.getElem?_append_right (by omega)] at hy; simp at hy; exact hy.symm
  subst hy'
  have ga : (l ++ a :: y :: r)[l.length]? = some a := by simp
  by_cases p1 : p = l.length
  ·subst p1; rw [ga] at hx; cases hx; omega
  ·have := hb p l.length x a (by omega) (by omega) (by omega) hx ga
   omega
 ·exact hb p q x y hpq (by omega) q1 hx hy
abbrev Ent := AV × AV × Nat
def keyI (x : Ent) : Int := match x.1 with | .int _ z => z | _ => 0
structure K0 (h0 : Hp) (n : Nat) (t : Nat → AV) (a b : ACode) (ib id j : Nat) (l : List Ent) (hh : Hp) : Prop where
 base : ∀ x, h0.u x = true → hh x = h0 x
 mono : ∀ x, h0.u x = true → hh.u x = true
 jj : hh j = some (loopB Tryz.prog n t [7] a b .ready none)
 dd : hh id = some .dfr
 new : h0.u ib = false ∧ h0.u id = false ∧ h0.u j = false
 ne : ib ≠ id ∧ ib ≠ j ∧ id ≠ j
 box : ∃ T sv, hh ib = some (.row T [[sv]]) ∧ ((l = [] ∧ sv = .nils) ∨ ∃ is, l ≠ [] ∧ sv = .slc is 0 l.length none ∧ hh is = some (rwI (l.map keyI)) ∧ h0.u is = false ∧ is ≠ ib ∧ is ≠ id ∧ is ≠ j)
def NotS (hh : Hp) (ib y : Nat) : Prop := ∀ T n, hh ib ≠ some (.row T [[.slc y 0 n none]])
theorem used {h : Hp} {i : Nat} {b : Blk} (hi : h i = some b) : h.u i = true := by
 cases hu : h.u i with
 | true => rfl
 | false => rw [h.ok i hu] at hi; cases hi
theorem ne_new {h : Hp} {x y : Nat} (hx : h.u x = true) (hy : h.u y = false) : x ≠ y := fun e => by subst e; rw [hx] at hy; cases hy
theorem NotS.of {H : Hp} {ib y T is n : Nat} (hb : H ib = some (.row T [[.slc is 0 n none]])) (hne : y ≠ is) : NotS H ib y := fun T' n' e => by
 rw [hb] at e; cases e; exact hne rfl
theorem K0.next {h0 : Hp} {n : Nat} {t : Nat → AV} {a b : ACode} {ib id j : Nat} {l : List Ent} {hh H : Hp} (k : K0 h0 n t a b ib id j l hh) {x : Ent} {is T : Nat} (hf : hh.u is = false)
  (hk : ∀ y, hh.u y = true → y ≠ ib → y ≠ j → NotS hh ib y → H y = hh y) (hu : ∀ y, hh.u y = true → H.u y = true)
  (hj : H j = some (loopB Tryz.prog n t [7] a b .ready none)) (hb : H ib = some (.row T [[.slc is 0 (l.length + 1) none]])) (hs : H is = some (rwI (l.map keyI ++ [keyI x]))) : K0 h0 n t a b ib id j (l ++ [x]) H := by
 have notS : ∀ y, (∀ z, h0.u z = false → z ≠ ib → z ≠ id → z ≠ j → y ≠ z) → NotS hh ib y := fun y hy T n e => by
  obtain ⟨T', sv, h1, h2⟩ := k.box
  rw [h1] at e; cases e
  rcases h2 with ⟨_, h2⟩ | ⟨is', _, h2, _, h3, h4, h5, h6⟩
  ·cases h2
  ·cases h2; exact hy _ h3 h4 h5 h6 rfl
 refine ⟨fun y hy => ?_, fun y hy => hu y (k.mono y hy), hj, ?_, k.new, k.ne, T, _, hb, .inr ⟨is, by simp, by simp, by rw [List.map_append]; exact hs, ?_, ?_, ?_, ?_⟩⟩
 ·rw [hk y (k.mono y hy) (ne_new hy k.new.1) (ne_new hy k.new.2.2) (notS y fun z hz _ _ _ => ne_new hy hz)]; exact k.base y hy
 ·rw [hk id (used k.dd) (Ne.symm k.ne.1) k.ne.2.2 (notS id fun z _ _ hz _ => Ne.symm hz)]; exact k.dd
 ·cases hz : h0.u is with
  | false => rfl
  | true => rw [k.mono is hz] at hf; cases hf
 ·obtain ⟨T', sv, h1, _⟩ := k.box
  exact Ne.symm (ne_new (used h1) hf)
 ·exact Ne.symm (ne_new (used k.dd) hf)
 ·exact Ne.symm (ne_new (used k.jj) hf)
end Go.Proofs.YtgjjbfhamlecoabGreatDoor

namespace Go.Proofs.YtgjjbfhamlecoabGreatDoor
open Go.L
abbrev F_ways_c1 : Nat := 72
abbrev F_ways_c2 : Nat := 74
abbrev F_ways_c3 : Nat := 77
abbrev F_decode_decoder_one : Nat := 76
abbrev F_decode_decoder_run : Nat := 78
end Go.Proofs.YtgjjbfhamlecoabGreatDoor

namespace Go.Proofs.YtgjjbfhamlecoabGreatDoor
open Go.L
abbrev TI : TypeId := 209
abbrev TF : TypeId := 205
abbrev TWay : TypeId := 191
def rowR : List AV := [.int .i32 2, .str [114], .str [114], .int .u8 3, .int .u8 5, .int .u8 0, .bool true, .int .i64 0, .str []]
def fldC (v : AV) (AM : Nat) : List AV := rowR ++ [.nils, v, .map AM]
def narI (v : Int) : Int := IntKind.u64.wrap (IntKind.i64.wrap (IntKind.i32.wrap v))
def itC (x : Nat) : List AV := [.int .u64 (narI x), .str [], .nils, .nilp]
abbrev items (xs : List Nat) : List (List AV) := xs.map itC
structure Rec1 (h0 : Hp) (Tt N FM R : Nat) (cv : AV) (b : Str) (ep : Option (Nat × List AV)) (fs : Option (Nat × AV)) (o : Nat) (xs : List Nat) (H : Hp) : Prop where
 g : Gr h0 H
 nd : H N = some (.row TN [[.ptr Tt 0 0, .map FM, .nils]])
 rd : RdOK R cv b o b.length 0 H
 nN : h0.u N = false
 nF : h0.u FM = false
 nR : h0.u R = false
 pr : ∀ P rw, ep = some (P, rw) → H P = some (.row TR [rw]) ∧ P ≠ R ∧ h0.u P = false
 f0 : fs = none → H FM = some (.map [] 0) ∧ xs = []
 f1 : ∀ F v, fs = some (F, v) → H FM = some (.map [(.int .i32 2, .ptr F 0 0, 0)] 1) ∧ (∃ AM, H F = some (.row TF [fldC v AM])) ∧ h0.u F = false ∧ AccE TI h0 H v (items xs)
section
variable {h0 H : Hp} {Tt N FM R : Nat} {cv : AV} {b : Str} {o : Nat} {ep : Option (Nat × List AV)} {fs : Option (Nat × AV)} {xs : List Nat}
theorem Rec1.fm (k : Rec1 h0 Tt N FM R cv b ep fs o xs H) : ∃ es c, H FM = some (.map es c) := by
 cases fs with
 | none => exact ⟨_, _, (k.f0 rfl).1⟩
 | some q => exact ⟨_, _, (k.f1 q.1 q.2 rfl).1⟩
theorem Rec1.NR (k : Rec1 h0 Tt N FM R cv b ep fs o xs H) : N ≠ R := row_ne k.nd k.rd.row (by decide)
theorem Rec1.NF (k : Rec1 h0 Tt N FM R cv b ep fs o xs H) : N ≠ FM := let ⟨_, _, h⟩ := k.fm; map_ne k.nd h
theorem Rec1.RF (k : Rec1 h0 Tt N FM R cv b ep fs o xs H) : R ≠ FM := let ⟨_, _, h⟩ := k.fm; map_ne k.rd.row h
theorem Rec1.cN (k : Rec1 h0 Tt N FM R cv b ep fs o xs H) : blkOf cv ≠ some N := fun e => let ⟨_, h⟩ := OwnX.blk k.rd.own e; row_ne h k.nd (by decide) rfl
theorem Rec1.cF (k : Rec1 h0 Tt N FM R cv b ep fs o xs H) : blkOf cv ≠ some FM := fun e => let ⟨_, h⟩ := OwnX.blk k.rd.own e; let ⟨_, _, h2⟩ := k.fm; map_ne h h2 rfl
theorem Rec1.frame (k : Rec1 h0 Tt N FM R cv b ep fs o xs H) {H' : Hp} (g : Gr h0 H') (hN : H' N = H N) (hR : H' R = H R) (hF : H' FM = H FM) (hc : ∀ B, blkOf cv = some B → H' B = H B) (hP : ∀ P rw, ep = some (P, rw) → H' P = H P)
  (hf : ∀ F v, fs = some (F, v) → H' F = H F ∧ ∀ B, blkOf v = some B → H' B = H B) : Rec1 h0 Tt N FM R cv b ep fs o xs H' := by
 refine ⟨g, hN.trans k.nd, ⟨hR.trans k.rd.row, ?_, k.rd.ne, k.rd.le, k.rd.len, k.rd.big⟩, k.nN, k.nF, k.nR, fun P rw e => ⟨(hP P rw e).trans (k.pr P rw e).1, (k.pr P rw e).2⟩, fun e => ⟨hF.trans (k.f0 e).1, (k.f0 e).2⟩, fun F v e => ?_⟩
 ·rcases k.rd.own with ⟨rfl, h⟩ | ⟨B, row, q, rfl, h1, h2⟩
  ·exact .inl ⟨rfl, h⟩
  ·exact .inr ⟨B, row, q, rfl, (hc B rfl).trans h1, h2⟩
 ·obtain ⟨h1, ⟨AM, h2⟩, h3, h4⟩ := k.f1 F v e
  refine ⟨hF.trans h1, ⟨AM, (hf F v e).1.trans h2⟩, h3, g, ?_⟩
  rcases h4.2 with ⟨rfl, h⟩ | ⟨j, rfl, h5, h6⟩
  ·exact .inl ⟨rfl, h⟩
  ·exact .inr ⟨j, rfl, h5, ((hf F _ e).2 j rfl).trans h6⟩
theorem Rec1.gr (k : Rec1 h0 Tt N FM R cv b ep fs o xs H) {H' : Hp} (g : Gr H H') : Rec1 h0 Tt N FM R cv b ep fs o xs H' := by
 refine k.frame (k.g.trans g) (g.m _ (Hp.used k.nd)) (g.m _ (Hp.used k.rd.row)) ?_ (fun B hB => g.m _ (k.rd.own.used hB)) (fun P rw e => g.m _ (Hp.used (k.pr P rw e).1)) fun F v e => ?_
 ·obtain ⟨_, _, h⟩ := k.fm; exact g.m _ (Hp.used h)
 ·obtain ⟨_, ⟨AM, h2⟩, _, h4⟩ := k.f1 F v e
  exact ⟨g.m _ (Hp.used h2), fun B hB => g.m _ (AccE.used h4 hB).2⟩
theorem Rec1.read (k : Rec1 h0 Tt N FM R cv b ep fs o xs H) {o' : Nat} (ho : o' ≤ b.length) : Rec1 h0 Tt N FM R cv b ep fs o' xs (H.set R (.row TR [RdC cv o' b.length 0 0])) := by
 have hF : ∀ F v, fs = some (F, v) → F ≠ R := fun F v e => by obtain ⟨_, ⟨AM, h2⟩, _⟩ := k.f1 F v e; exact row_ne h2 k.rd.row (by decide)
 have hv : ∀ F v, fs = some (F, v) → blkOf v ≠ some R := fun F v e e2 => by obtain ⟨_, _, _, h4⟩ := k.f1 F v e; obtain ⟨_, h5⟩ := AccE.blk h4 e2; exact row_ne h5 k.rd.row (by decide) rfl
 refine ⟨k.g.set k.nR _, (Hp.set_ne k.NR).trans k.nd, k.rd.put 0 ho, k.nN, k.nF, k.nR, fun P rw e => ⟨(Hp.set_ne (k.pr P rw e).2.1).trans (k.pr P rw e).1, (k.pr P rw e).2⟩, fun e => ⟨(Hp.set_ne k.RF.symm).trans (k.f0 e).1, (k.f0 e).2⟩, fun F v e => ?_⟩
 obtain ⟨h1, ⟨AM, h2⟩, h3, h4⟩ := k.f1 F v e
 exact ⟨(Hp.set_ne k.RF.symm).trans h1, ⟨AM, (Hp.set_ne (hF F v e)).trans h2⟩, h3, AccE.put h4 k.nR (hv F v e) _⟩
theorem Rec1.setP (k : Rec1 h0 Tt N FM R cv b ep fs o xs H) {P : Nat} (hP : h0.u P = false) (hPR : P ≠ R) (hr : (∃ rw, H P = some (.row TR rw)) ∨ H.u P = false) (rw : List AV) : Rec1 h0 Tt N FM R cv b (some (P, rw)) fs o xs (H.set P (.row TR [rw])) := by
 have key : ∀ {x T : Nat} {es : List (List AV)}, H x = some (.row T es) → T ≠ TR → x ≠ P := fun {x T es} hx hT => by
  rcases hr with ⟨rw', h⟩ | h
  ·exact row_ne hx h hT
  ·exact ne_of_u (Hp.used hx) h
 have keyM : ∀ {x c : Nat} {es : MapL}, H x = some (.map es c) → x ≠ P := fun {x c es} hx => by
  rcases hr with ⟨rw', h⟩ | h
  ·exact (map_ne h hx).symm
  ·exact ne_of_u (Hp.used hx) h
 obtain ⟨_, _, hFM⟩ := k.fm
 have hcP : blkOf cv ≠ some P := fun e => by obtain ⟨_, h⟩ := OwnX.blk k.rd.own e; exact key h (by decide) rfl
 have kk : Rec1 h0 Tt N FM R cv b none fs o xs (H.set P (.row TR [rw])) := by
  have k0 : Rec1 h0 Tt N FM R cv b none fs o xs H := ⟨k.g, k.nd, k.rd, k.nN, k.nF, k.nR, (fun _ _ e => by cases e), k.f0, k.f1⟩
  refine k0.frame (k.g.set hP _) (Hp.set_ne (key k.nd (by decide))) (Hp.set_ne hPR.symm) (Hp.set_ne (keyM hFM)) (fun B hB => Hp.set_ne fun e => hcP (by rw [← e]; exact hB)) (fun _ _ e => by cases e) fun F v e => ?_
  obtain ⟨_, ⟨AM, h2⟩, _, h4⟩ := k.f1 F v e
  exact ⟨Hp.set_ne (key h2 (by decide)), fun B hB => by obtain ⟨_, h⟩ := AccE.blk h4 hB; exact Hp.set_ne (key h (by decide))⟩
 exact ⟨kk.g, kk.nd, kk.rd, kk.nN, kk.nF, kk.nR, (fun P' rw' e => by cases e; exact ⟨Hp.set_same _ _ _, hPR, hP⟩), kk.f0, kk.f1⟩
theorem Rec1.part {P p e : Nat} (k : Rec1 h0 Tt N FM R cv b (some (P, RdC cv p e 0 0)) fs o xs H) (h1 : p ≤ e) (h2 : e ≤ b.length) : RdOK P cv b p e 0 H :=
 ⟨(k.pr P _ rfl).1, k.rd.own, fun h => by obtain ⟨_, h3⟩ := OwnX.blk k.rd.own h; exact row_ne h3 (k.pr P _ rfl).1 (by decide) rfl, h1, h2, k.rd.big⟩
theorem Rec1.push {F : Nat} {v : AV} (k : Rec1 h0 Tt N FM R cv b ep (some (F, v)) o xs H) {AM : Nat} {H' : Hp} {v' : AV} {ys : List Nat} (ha : AccE TI h0 H' v' (items ys)) (hf : ∀ x, H.u x = true → blkOf v ≠ some x → H' x = H x)
  (hb : ∀ x, blkOf v' = some x → blkOf v = some x ∨ H.u x = false) : Rec1 h0 Tt N FM R cv b ep (some (F, v')) o ys (H'.set F (.row TF [fldC v' AM])) := by
 obtain ⟨h1, ⟨AM', h2⟩, h3, h4⟩ := k.f1 F v rfl
 have vt : ∀ {x T : Nat} {es : List (List AV)}, H x = some (.row T es) → T ≠ TI → blkOf v ≠ some x := fun {x T es} hx hT e => by obtain ⟨_, h⟩ := AccE.blk h4 e; exact row_ne hx h hT rfl
 have vm : ∀ {x c : Nat} {es : MapL}, H x = some (.map es c) → blkOf v ≠ some x := fun {x c es} hx e => by obtain ⟨_, h⟩ := AccE.blk h4 e; exact map_ne h hx rfl
 have hv'F : blkOf v' ≠ some F := fun e => by
  rcases hb F e with h | h
  ·exact vt h2 (by decide) h
  ·rw [Hp.used h2] at h; cases h
 have keep : ∀ {x T : Nat} {es : List (List AV)}, H x = some (.row T es) → T ≠ TI → x ≠ F → (H'.set F (.row TF [fldC v' AM])) x = H x := fun {x T es} hx hT hn => (Hp.set_ne hn).trans (hf x (Hp.used hx) (vt hx hT))
 refine ⟨ha.1.set h3 _, (keep k.nd (by decide) (row_ne k.nd h2 (by decide))).trans k.nd, ⟨(keep k.rd.row (by decide) (row_ne k.rd.row h2 (by decide))).trans k.rd.row, ?_, k.rd.ne, k.rd.le, k.rd.len, k.rd.big⟩, k.nN, k.nF, k.nR,
  fun P rw e => ⟨(keep (k.pr P rw e).1 (by decide) (row_ne (k.pr P rw e).1 h2 (by decide))).trans (k.pr P rw e).1, (k.pr P rw e).2⟩, (fun e => by cases e), fun F' v'' e => ?_⟩
 ·rcases k.rd.own with ⟨rfl, h⟩ | ⟨B, row, q, rfl, h5, h6⟩
  ·exact .inl ⟨rfl, h⟩
  ·exact .inr ⟨B, row, q, rfl, (keep h5 (by decide) (row_ne h5 h2 (by decide))).trans h5, h6⟩
 ·cases e
  exact ⟨(Hp.set_ne (map_ne h2 h1).symm).trans ((hf FM (Hp.used h1) (vm h1)).trans h1), ⟨AM, Hp.set_same _ _ _⟩, h3, AccE.put ha h3 hv'F _⟩
end
end Go.Proofs.YtgjjbfhamlecoabGreatDoor

namespace Go.Proofs.YtgjjbfhamlecoabGreatDoor
open Go.L
abbrev fnV (f : Nat) : AV := .func (.func f) [] []
def waysR : List (List AV) := [[fnV F_ways_c1, fnV 73], [fnV F_ways_c2, fnV F_decode_decoder_one], [fnV F_ways_c3, fnV F_decode_decoder_run]]
theorem Gr.put {h h1 : Hp} (g : Gr h h1) {P : Nat} (hP : h.u P = true) (x : Blk) : Gr (h.set P x) (h1.set P x) := by
 refine ⟨fun y hy => ?_, fun y hy => ?_⟩
 ·by_cases e : y = P
  ·subst e; rw [Hp.set_same, Hp.set_same]
  ·rw [Hp.set_ne e, Hp.set_ne e]
   rw [Hp.set_u, if_neg e] at hy
   exact g.m y hy
 ·by_cases e : y = P
  ·subst e; rw [Hp.set_u, if_pos rfl]
  ·rw [Hp.set_u, if_neg e] at hy ⊢
   exact g.u y hy
end Go.Proofs.YtgjjbfhamlecoabGreatDoor

namespace Go.Proofs.YtgjjbfhamlecoabGreatDoor
open Go.L
theorem GrX.blk {i : Nat} {h h' : Hp} (g : GrX i h h') {x : Nat} {b : Blk} (hx : h x = some b) (hn : x ≠ i) : h' x = some b := (g.m x (Hp.used hx) hn).trans hx
end Go.Proofs.YtgjjbfhamlecoabGreatDoor

namespace Go.Proofs.YtgjjbfhamlecoabGreatDoor
open Go.L
def VS (t : Str) (v : Nat) : Prop := ∀ r, rdV (t ++ r) = .ok v t.length
theorem VS.pos {t : Str} {v : Nat} (h : VS t v) : 0 < t.length := (rdV_ok (h [])).2
def byts (l : List (Str × Nat)) : Str := l.flatMap (·.1)
end Go.Proofs.YtgjjbfhamlecoabGreatDoor

namespace Go.Proofs.YtgjjbfhamlecoabGreatDoor
open Go.L
inductive Rn where
 | one (t : Str) (v : Nat)
 | run (hd : Str) (l : List (Str × Nat))
def Rn.bytes : Rn → Str
 | .one t _ => 16 :: t
 | .run hd l => 18 :: (hd ++ byts l)
def Rn.ok : Rn → Prop
 | .one t v => VS t v
 | .run hd l => VS hd (byts l).length ∧ ∀ p ∈ l, VS p.1 p.2
theorem Rn.pos (p : Rn) : 0 < p.bytes.length := by cases p <;> exact Nat.succ_pos _
end Go.Proofs.YtgjjbfhamlecoabGreatDoor

namespace Go.Proofs.YtgjjbfhamlecoabGreatDoor
open Go.L
abbrev Tint : TypeId := 3
structure MF (h : Hp) (B B2 : Nat) (full : Str) (fv : AV) (H : Hp) : Prop where
 g : Gr h H
 b2 : H B2 = some (.row TM [MsgC full fv .nils])
 b : H B = some (.row TM [[.str [], .nils, .nils]])
 n2 : h.u B2 = false
theorem MF.gr {h H H' : Hp} {B B2 : Nat} {full : Str} {fv : AV} (k : MF h B B2 full fv H) (g : Gr H H') : MF h B B2 full fv H' := ⟨k.g.trans g, g.blk k.b2, g.blk k.b, k.n2⟩
section
variable {h H : Hp} {N Tt FM F j AM B B2 is : Nat} {full : Str} {xs : List Nat}
end
end Go.Proofs.YtgjjbfhamlecoabGreatDoor

namespace Go.Proofs.YtgjjbfhamlecoabGreatDoor
open Go.L
theorem Has_Into1 : HasBody Tryz.prog F_decode_Into_c1 := ⟨_, Tryz.func40, by kernel_rfl, by kernel_rfl⟩
theorem IntoD_ret (a b c : AV) (h : Hp) : DefL Tryz.prog F_decode_Into_c1 [a, b, c] .ret h fun r u h' => r = .ret (.tup []) ∧ u = .ret ∧ h' = h := by
 refine DefL.ofS (md := false) Tryz.func40 C_decode_Into_c1 (by rw [Tryz.ntmps40]; exact (show 3 ≤ 17 by decide)) (by
  rw [Tryz.ntmps40]
  exact ⟨rfl, rfl, rfl, rfl⟩)
abbrev eC (n : Int) : List AV := [.int .i64 n]
theorem IntoD_pan {O E A : Nat} {TE TA : TypeId} {oc ec ac : List AV} {e p : Int} {h : Hp} (hO : h O = some (.row TM [oc])) (hoc : oc.length = 3) (hE : h E = some (.row TE [ec])) (hec : ec.length = 1) (hA : h A = some (.row TA [ac])) (hac : ac.length = 1) (h1 : O ≠ E) (h2 : O ≠ A) (h3 : E ≠ A) :
  DefL Tryz.prog F_decode_Into_c1 [.ptr O 0 0, .ptr E 0 0, .ptr A 0 0] (.pan (wrongV e p)) h fun r u h' => r = .ret (.tup []) ∧ settleU u = .ret ∧ h' O = some (.row TM [MsgC [] .nils .nils]) ∧ h' E = some (.row TE [eC e]) ∧ h' A = some (.row TA [eC p]) ∧ ∀ x, h.u x = true → x ≠ O → x ≠ E → x ≠ A → h' x = h x := by
 obtain ⟨o1, o2, o3, rfl⟩ : ∃ a b c, oc = [a, b, c] := by
  match oc, hoc with
  | [a, b, c], _ => exact ⟨a, b, c, rfl⟩
 obtain ⟨e1, rfl⟩ := List.length_eq_one_iff.1 hec
 obtain ⟨a1, rfl⟩ := List.length_eq_one_iff.1 hac
 refine DefL.ofS (md := false) Tryz.func40 C_decode_Into_c1 (by rw [Tryz.ntmps40]; exact (show 3 ≤ 17 by decide)) (by
  rw [Tryz.ntmps40]
  refine ⟨_, rfl, _, rfl, ?_⟩
  refine ⟨rfl, rfl, fun B hB => ?_⟩
  refine ⟨_, _, _, Hp.set_same _ _ _, rfl, rfl, rfl, rfl, by show 2 ≤ 2; decide, ?_⟩
  have hBO : B ≠ O := (ne_of_u (Hp.used hO) hB.1).symm
  have hBE : B ≠ E := (ne_of_u (Hp.used hE) hB.1).symm
  have hBA : B ≠ A := (ne_of_u (Hp.used hA) hB.1).symm
  have g1 := ((Gr.refl h).set hB.1 (.row 129 [[.int .i64 0, .int .i64 0]])).set hB.1 (.row 129 [[.int .i64 e, .int .i64 p]])
  have kB : ((h.set B (.row 129 [[.int .i64 0, .int .i64 0]])).set B (.row 129 [[.int .i64 e, .int .i64 p]])) B = some (.row 129 [[.int .i64 e, .int .i64 p]]) := Hp.set_same _ _ _
  have kO := g1.blk hO
  have kE := g1.blk hE
  have kA := g1.blk hA
  refine .inl ⟨?_, ?_, ?_, ?_, ?_, ?_, ?_⟩
  ·refine ⟨_, rfl, ?_⟩
   refine ⟨_, _, _, _, kB, rfl, rfl, ?_⟩
   refine ⟨_, _, _, _, kB, rfl, rfl, ?_⟩
   refine ⟨_, _, _, kO, rfl, rfl, rfl, rfl, by show 3 ≤ 3; decide, ?_⟩
   refine ⟨_, _, _, (Hp.set_ne h1.symm).trans (kE), rfl, rfl, rfl, rfl, by show 1 ≤ 1; decide, ?_⟩
   refine ⟨_, _, _, (Hp.set_ne h3.symm).trans ((Hp.set_ne h2.symm).trans (kA)), rfl, rfl, rfl, rfl, by show 1 ≤ 1; decide, ?_⟩
   exact ⟨rfl, rfl, rfl, (Hp.set_ne h2).trans ((Hp.set_ne h1).trans (Hp.set_same _ _ _)), (Hp.set_ne h3).trans (Hp.set_same _ _ _), Hp.set_same _ _ _, fun x hx n1 n2 n3 => (Hp.set_ne n3).trans ((Hp.set_ne n2).trans ((Hp.set_ne n1).trans (g1.m x hx)))⟩
  ·refine ⟨_, rfl, ?_⟩
   refine ⟨_, _, _, _, kB, rfl, rfl, ?_⟩
   refine ⟨_, _, _, kO, rfl, rfl, rfl, rfl, by show 3 ≤ 3; decide, ?_⟩
   refine ⟨_, _, _, _, (Hp.set_ne hBO).trans (kB), rfl, rfl, ?_⟩
   refine ⟨_, _, _, (Hp.set_ne h1.symm).trans (kE), rfl, rfl, rfl, rfl, by show 1 ≤ 1; decide, ?_⟩
   refine ⟨_, _, _, (Hp.set_ne h3.symm).trans ((Hp.set_ne h2.symm).trans (kA)), rfl, rfl, rfl, rfl, by show 1 ≤ 1; decide, ?_⟩
   exact ⟨rfl, rfl, rfl, (Hp.set_ne h2).trans ((Hp.set_ne h1).trans (Hp.set_same _ _ _)), (Hp.set_ne h3).trans (Hp.set_same _ _ _), Hp.set_same _ _ _, fun x hx n1 n2 n3 => (Hp.set_ne n3).trans ((Hp.set_ne n2).trans ((Hp.set_ne n1).trans (g1.m x hx)))⟩
  ·refine ⟨_, rfl, ?_⟩
   refine ⟨_, _, _, _, kB, rfl, rfl, ?_⟩
   refine ⟨_, _, _, kO, rfl, rfl, rfl, rfl, by show 3 ≤ 3; decide, ?_⟩
   refine ⟨_, _, _, (Hp.set_ne h1.symm).trans (kE), rfl, rfl, rfl, rfl, by show 1 ≤ 1; decide, ?_⟩
   refine ⟨_, _, _, _, (Hp.set_ne hBE).trans ((Hp.set_ne hBO).trans (kB)), rfl, rfl, ?_⟩
   refine ⟨_, _, _, (Hp.set_ne h3.symm).trans ((Hp.set_ne h2.symm).trans (kA)), rfl, rfl, rfl, rfl, by show 1 ≤ 1; decide, ?_⟩
   exact ⟨rfl, rfl, rfl, (Hp.set_ne h2).trans ((Hp.set_ne h1).trans (Hp.set_same _ _ _)), (Hp.set_ne h3).trans (Hp.set_same _ _ _), Hp.set_same _ _ _, fun x hx n1 n2 n3 => (Hp.set_ne n3).trans ((Hp.set_ne n2).trans ((Hp.set_ne n1).trans (g1.m x hx)))⟩
  ·refine ⟨_, rfl, ?_⟩
   refine ⟨_, _, _, _, kB, rfl, rfl, ?_⟩
   refine ⟨_, _, _, _, kB, rfl, rfl, ?_⟩
   refine ⟨_, _, _, kO, rfl, rfl, rfl, rfl, by show 3 ≤ 3; decide, ?_⟩
   refine ⟨_, _, _, (Hp.set_ne h1.symm).trans (kE), rfl, rfl, rfl, rfl, by show 1 ≤ 1; decide, ?_⟩
   refine ⟨_, _, _, (Hp.set_ne h3.symm).trans ((Hp.set_ne h2.symm).trans (kA)), rfl, rfl, rfl, rfl, by show 1 ≤ 1; decide, ?_⟩
   exact ⟨rfl, rfl, rfl, (Hp.set_ne h2).trans ((Hp.set_ne h1).trans (Hp.set_same _ _ _)), (Hp.set_ne h3).trans (Hp.set_same _ _ _), Hp.set_same _ _ _, fun x hx n1 n2 n3 => (Hp.set_ne n3).trans ((Hp.set_ne n2).trans ((Hp.set_ne n1).trans (g1.m x hx)))⟩
  ·refine ⟨_, rfl, ?_⟩
   refine ⟨_, _, _, _, kB, rfl, rfl, ?_⟩
   refine ⟨_, _, _, kO, rfl, rfl, rfl, rfl, by show 3 ≤ 3; decide, ?_⟩
   refine ⟨_, _, _, _, (Hp.set_ne hBO).trans (kB), rfl, rfl, ?_⟩
   refine ⟨_, _, _, (Hp.set_ne h1.symm).trans (kE), rfl, rfl, rfl, rfl, by show 1 ≤ 1; decide, ?_⟩
   refine ⟨_, _, _, (Hp.set_ne h3.symm).trans ((Hp.set_ne h2.symm).trans (kA)), rfl, rfl, rfl, rfl, by show 1 ≤ 1; decide, ?_⟩
   exact ⟨rfl, rfl, rfl, (Hp.set_ne h2).trans ((Hp.set_ne h1).trans (Hp.set_same _ _ _)), (Hp.set_ne h3).trans (Hp.set_same _ _ _), Hp.set_same _ _ _, fun x hx n1 n2 n3 => (Hp.set_ne n3).trans ((Hp.set_ne n2).trans ((Hp.set_ne n1).trans (g1.m x hx)))⟩
  ·refine ⟨_, rfl, ?_⟩
   refine ⟨_, _, _, kO, rfl, rfl, rfl, rfl, by show 3 ≤ 3; decide, ?_⟩
   refine ⟨_, _, _, _, (Hp.set_ne hBO).trans (kB), rfl, rfl, ?_⟩
   refine ⟨_, _, _, _, (Hp.set_ne hBO).trans (kB), rfl, rfl, ?_⟩
   refine ⟨_, _, _, (Hp.set_ne h1.symm).trans (kE), rfl, rfl, rfl, rfl, by show 1 ≤ 1; decide, ?_⟩
   refine ⟨_, _, _, (Hp.set_ne h3.symm).trans ((Hp.set_ne h2.symm).trans (kA)), rfl, rfl, rfl, rfl, by show 1 ≤ 1; decide, ?_⟩
   exact ⟨rfl, rfl, rfl, (Hp.set_ne h2).trans ((Hp.set_ne h1).trans (Hp.set_same _ _ _)), (Hp.set_ne h3).trans (Hp.set_same _ _ _), Hp.set_same _ _ _, fun x hx n1 n2 n3 => (Hp.set_ne n3).trans ((Hp.set_ne n2).trans ((Hp.set_ne n1).trans (g1.m x hx)))⟩
  ·refine ⟨_, rfl, ?_⟩
   refine ⟨_, _, _, kO, rfl, rfl, rfl, rfl, by show 3 ≤ 3; decide, ?_⟩
   refine ⟨_, _, _, _, (Hp.set_ne hBO).trans (kB), rfl, rfl, ?_⟩
   refine ⟨_, _, _, (Hp.set_ne h1.symm).trans (kE), rfl, rfl, rfl, rfl, by show 1 ≤ 1; decide, ?_⟩
   refine ⟨_, _, _, _, (Hp.set_ne hBE).trans ((Hp.set_ne hBO).trans (kB)), rfl, rfl, ?_⟩
   refine ⟨_, _, _, (Hp.set_ne h3.symm).trans ((Hp.set_ne h2.symm).trans (kA)), rfl, rfl, rfl, rfl, by show 1 ≤ 1; decide, ?_⟩
   exact ⟨rfl, rfl, rfl, (Hp.set_ne h2).trans ((Hp.set_ne h1).trans (Hp.set_same _ _ _)), (Hp.set_ne h3).trans (Hp.set_same _ _ _), Hp.set_same _ _ _, fun x hx n1 n2 n3 => (Hp.set_ne n3).trans ((Hp.set_ne n2).trans ((Hp.set_ne n1).trans (g1.m x hx)))⟩)
theorem ways_L (h : Hp) : CallL Tryz.prog F_decode_ways [] h fun r h' => ∃ W, r = .ret (.slc W 0 3 (some 3)) ∧ h.u W = false ∧ h' = h.set W (.row TWay waysR) := by
 refine K_decode_ways (md := false) ?_
 refine ⟨_, rfl, _, rfl, _, rfl, ?_⟩
 refine ⟨_, rfl, fun W hW => ?_⟩
 exact ⟨rfl, W, rfl, hW.1, rfl⟩
end Go.Proofs.YtgjjbfhamlecoabGreatDoor
