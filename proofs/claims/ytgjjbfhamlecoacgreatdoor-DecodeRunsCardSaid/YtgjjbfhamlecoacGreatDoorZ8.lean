/- The logic L (of no program), and plain laws: texts put together; no conditions. -/
import Derived.Test.YtgjjbfhamlecoacGreatDoorZ5
import Derived.Test.YtgjjbfhamlecoacGreatDoorZ6
import Derived.Test.YtgjjbfhamlecoacGreatDoorZ7
namespace Go.Proofs.YtgjjbfhamlecoacGreatDoor
open Go.L
set_option maxRecDepth 100000
theorem lawRun {P : Go.Program} (hk : trOK (GoodFC P) Codes id) : PureL P 4 [] (.bool true) := by
 have h0 : ∀ s ∈ ([] : List Sm), SmOK P s := fun s hs => nomatch hs
 have h1 := SmOK.of hk h0 (part1 P)
 have h2 := SmOK.of hk h1 (part2 P)
 have h3 := SmOK.of hk h2 (part3 P)
 have h4 := SmOK.of hk h3 (part4 P)
 have h5 := SmOK.of hk h4 (part5 P)
 exact CallL.ofRunS hk h5 (loops := 1000) (d := 60) (f := 4) (args := []) (v := .bool true) rfl rfl (by kernel_rfl)
end Go.Proofs.YtgjjbfhamlecoacGreatDoor
