/- The logic L (of no program), and plain laws: texts put together; no conditions. -/
import Derived.Test.YtpldnmjdoogghaaGreatDoorY8
import Derived.Test.YtpldnmjdoogghaaGreatDoorY9
import Derived.Test.YtpldnmjdoogghaaGreatDoorY10
import Derived.Test.YtpldnmjdoogghaaGreatDoorY11
/- The law, its last part. Printed by program (gen_parts.py). -/
namespace Go.Proofs.YtpldnmjdoogghaaGreatDoor
open Go.L
set_option maxRecDepth 100000
theorem lawRun {P : Go.Program} (hk : trOK (GoodFC P) Codes id) : PureL P 4 [] (.bool true) := by
  have h0 : ∀ s ∈ ([] : List Sm), SmOK P s := fun s hs => nomatch hs
  have h1 := SmOK.of hk h0 (part1 P)
  have h2 := SmOK.of hk h1 (part2 P)
  have h3 := SmOK.of hk h2 (part3 P)
  have h4 := SmOK.of hk h3 (part4 P)
  have h5 := SmOK.of hk h4 (part5 P)
  have h6 := SmOK.of hk h5 (part6 P)
  have h7 := SmOK.of hk h6 (part7 P)
  have h8 := SmOK.of hk h7 (part8 P)
  have h9 := SmOK.of hk h8 (part9 P)
  have h10 := SmOK.of hk h9 (part10 P)
  have h11 := SmOK.of hk h10 (part11 P)
  exact CallL.ofRunS hk h11 (loops := 1000) (d := 60) (f := 4) (args := []) (v := .bool true) rfl rfl (by kernel_rfl)
end Go.Proofs.YtpldnmjdoogghaaGreatDoor
