/- Contracts of functions of the given program, in the logic L: texts put together; no conditions. -/
import Derived.Test.YtghlipffncbagaaGreatDoorZ6
import Derived.Test.YtghlipffncbagaaGreatDoorZ7
import Derived.Test.YtghlipffncbagaaGreatDoorZ8
import Derived.Test.YtghlipffncbagaaGreatDoorZ9
import Derived.Test.YtghlipffncbagaaGreatDoorZ10
import Derived.Test.YtghlipffncbagaaGreatDoorZ11
import Derived.Test.YtghlipffncbagaaGreatDoorZ12
import Derived.Test.YtghlipffncbagaaGreatDoorZ13
import Derived.Test.YtghlipffncbagaaGreatDoorZ14
import Derived.Test.YtghlipffncbagaaGreatDoorZ20
namespace Go.Proofs.YtghlipffncbagaaGreatDoor
open Go.L
set_option maxRecDepth 100000
theorem lawRun : PureL Tryz.prog 4 [] (.bool true) := by
 have hk := codes_ok
 have h0 : ∀ s ∈ ([] : List Sm), SmOK Tryz.prog s := fun s hs => nomatch hs
 have h1 := SmOK.of hk h0 (part1 Tryz.prog)
 have h2 := SmOK.of hk h1 (part2 Tryz.prog)
 have h3 := SmOK.of hk h2 (part3 Tryz.prog)
 have h4 := SmOK.of hk h3 (part4 Tryz.prog)
 have h5 := SmOK.of hk h4 (part5 Tryz.prog)
 have h6 := SmOK.of hk h5 (part6 Tryz.prog)
 have h7 := SmOK.of hk h6 (part7 Tryz.prog)
 have h8 := SmOK.of hk h7 (part8 Tryz.prog)
 have h9 : ∀ s ∈ [S9, S8, S7, S6, S5, S4, S3, S2, S1], SmOK Tryz.prog s := fun s hs => (List.mem_cons.1 hs).elim (fun e => e ▸ insert9) (h8 s)
 have h10 : ∀ s ∈ [S10, S9, S8, S7, S6, S5, S4, S3, S2, S1], SmOK Tryz.prog s := fun s hs => (List.mem_cons.1 hs).elim (fun e => e ▸ insert10) (h9 s)
 have h11 : ∀ s ∈ [S11, S10, S9, S8, S7, S6, S5, S4, S3, S2, S1], SmOK Tryz.prog s := fun s hs => (List.mem_cons.1 hs).elim (fun e => e ▸ insert11) (h10 s)
 have h12 : ∀ s ∈ [S12, S11, S10, S9, S8, S7, S6, S5, S4, S3, S2, S1], SmOK Tryz.prog s := fun s hs => (List.mem_cons.1 hs).elim (fun e => e ▸ insert12) (h11 s)
 have h13 := SmOK.of hk h12 (part13 Tryz.prog)
 have h14 : ∀ s ∈ [S14, S13, S12, S11, S10, S9, S8, S7, S6, S5, S4, S3, S2, S1], SmOK Tryz.prog s := fun s hs => (List.mem_cons.1 hs).elim (fun e => e ▸ insert14) (h13 s)
 have h15 : ∀ s ∈ [S15, S14, S13, S12, S11, S10, S9, S8, S7, S6, S5, S4, S3, S2, S1], SmOK Tryz.prog s := fun s hs => (List.mem_cons.1 hs).elim (fun e => e ▸ insert15) (h14 s)
 have h16 : ∀ s ∈ [S16, S15, S14, S13, S12, S11, S10, S9, S8, S7, S6, S5, S4, S3, S2, S1], SmOK Tryz.prog s := fun s hs => (List.mem_cons.1 hs).elim (fun e => e ▸ insert16) (h15 s)
 have h17 : ∀ s ∈ [S17, S16, S15, S14, S13, S12, S11, S10, S9, S8, S7, S6, S5, S4, S3, S2, S1], SmOK Tryz.prog s := fun s hs => (List.mem_cons.1 hs).elim (fun e => e ▸ insert17) (h16 s)
 exact CallL.ofRunS hk h17 (loops := 1000) (d := 60) (f := 4) (args := []) (v := .bool true) rfl rfl (by kernel_rfl)
end Go.Proofs.YtghlipffncbagaaGreatDoor
