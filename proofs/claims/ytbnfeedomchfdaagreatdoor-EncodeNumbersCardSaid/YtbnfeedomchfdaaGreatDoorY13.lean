/- Contracts of functions of the given program, in the logic L: texts put together; no conditions. -/
import Derived.Test.YtbnfeedomchfdaaGreatDoorY7
import Derived.Test.YtbnfeedomchfdaaGreatDoorY12
/- The law, its last part. Printed by program (gen_parts.py). -/
namespace Go.Proofs.YtbnfeedomchfdaaGreatDoor
open Go.L
set_option maxRecDepth 100000
theorem lawRun : PureL Tryz.prog 3 [] (.bool true) := by
  have hk := codes_ok
  have h0 : ∀ s ∈ ([] : List Sm), SmOK Tryz.prog s := fun s hs => nomatch hs
  have h1 : ∀ s ∈ [S1], SmOK Tryz.prog s := fun s hs => (List.mem_cons.1 hs).elim (fun e => e ▸ insert1) (h0 s)
  have h2 : ∀ s ∈ [S2, S1], SmOK Tryz.prog s := fun s hs => (List.mem_cons.1 hs).elim (fun e => e ▸ insert2) (h1 s)
  have h3 : ∀ s ∈ [S3, S2, S1], SmOK Tryz.prog s := fun s hs => (List.mem_cons.1 hs).elim (fun e => e ▸ insert3) (h2 s)
  have h4 : ∀ s ∈ [S4, S3, S2, S1], SmOK Tryz.prog s := fun s hs => (List.mem_cons.1 hs).elim (fun e => e ▸ insert4) (h3 s)
  have h5 := SmOK.of hk h4 (part5 Tryz.prog)
  have h6 : ∀ s ∈ [S6, S5, S4, S3, S2, S1], SmOK Tryz.prog s := fun s hs => (List.mem_cons.1 hs).elim (fun e => e ▸ insert6) (h5 s)
  have h7 : ∀ s ∈ [S7, S6, S5, S4, S3, S2, S1], SmOK Tryz.prog s := fun s hs => (List.mem_cons.1 hs).elim (fun e => e ▸ insert7) (h6 s)
  have h8 : ∀ s ∈ [S8, S7, S6, S5, S4, S3, S2, S1], SmOK Tryz.prog s := fun s hs => (List.mem_cons.1 hs).elim (fun e => e ▸ insert8) (h7 s)
  have h9 : ∀ s ∈ [S9, S8, S7, S6, S5, S4, S3, S2, S1], SmOK Tryz.prog s := fun s hs => (List.mem_cons.1 hs).elim (fun e => e ▸ insert9) (h8 s)
  exact CallL.ofRunS hk h9 (loops := 1000) (d := 60) (f := 3) (args := []) (v := .bool true) rfl rfl (by kernel_rfl)
end Go.Proofs.YtbnfeedomchfdaaGreatDoor
