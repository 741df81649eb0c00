/- Contracts of functions of the given program, in the logic L: texts put together; no conditions. -/
import Derived.Test.YtcpjeocepolecaaGreatDoorY8
import Derived.Test.YtcpjeocepolecaaGreatDoorY9
import Derived.Test.YtcpjeocepolecaaGreatDoorY10
import Derived.Test.YtcpjeocepolecaaGreatDoorY11
import Derived.Test.YtcpjeocepolecaaGreatDoorY15
/- The law, its last part. Printed by program (gen_parts.py). -/
namespace Go.Proofs.YtcpjeocepolecaaGreatDoor
open Go.L
set_option maxRecDepth 100000
theorem lawRun : PureL Tryz.prog 3 [] (.bool true) := by
  have hk := codes_ok
  have h0 : ∀ s ∈ ([] : List Sm), SmOK Tryz.prog s := fun s hs => nomatch hs
  have h1 := SmOK.of hk h0 (part1 Tryz.prog)
  have h2 := SmOK.of hk h1 (part2 Tryz.prog)
  have h3 := SmOK.of hk h2 (part3 Tryz.prog)
  have h4 : ∀ s ∈ [S4, S3, S2, S1], SmOK Tryz.prog s := fun s hs => (List.mem_cons.1 hs).elim (fun e => e ▸ sorted4) (h3 s)
  have h5 := SmOK.of hk h4 (part5 Tryz.prog)
  have h6 : ∀ s ∈ [S6, S5, S4, S3, S2, S1], SmOK Tryz.prog s := fun s hs => (List.mem_cons.1 hs).elim (fun e => e ▸ sorted6) (h5 s)
  have h7 : ∀ s ∈ [S7, S6, S5, S4, S3, S2, S1], SmOK Tryz.prog s := fun s hs => (List.mem_cons.1 hs).elim (fun e => e ▸ sorted7) (h6 s)
  exact CallL.ofRunS hk h7 (loops := 1000) (d := 60) (f := 3) (args := []) (v := .bool true) rfl rfl (by kernel_rfl)
theorem lawRun5 : PureL Tryz.prog 5 [] (.bool true) := by
  have hk := codes_ok
  have h0 : ∀ s ∈ ([] : List Sm), SmOK Tryz.prog s := fun s hs => nomatch hs
  have h1 := SmOK.of hk h0 (part1 Tryz.prog)
  have h2 := SmOK.of hk h1 (part2 Tryz.prog)
  have h3 := SmOK.of hk h2 (part3 Tryz.prog)
  have h4 : ∀ s ∈ [S4, S3, S2, S1], SmOK Tryz.prog s := fun s hs => (List.mem_cons.1 hs).elim (fun e => e ▸ sorted4) (h3 s)
  have h5 := SmOK.of hk h4 (part5 Tryz.prog)
  have h6 : ∀ s ∈ [S6, S5, S4, S3, S2, S1], SmOK Tryz.prog s := fun s hs => (List.mem_cons.1 hs).elim (fun e => e ▸ sorted6) (h5 s)
  have h7 : ∀ s ∈ [S7, S6, S5, S4, S3, S2, S1], SmOK Tryz.prog s := fun s hs => (List.mem_cons.1 hs).elim (fun e => e ▸ sorted7) (h6 s)
  exact CallL.ofRunS hk h7 (loops := 1000) (d := 60) (f := 5) (args := []) (v := .bool true) rfl rfl (by kernel_rfl)
end Go.Proofs.YtcpjeocepolecaaGreatDoor
