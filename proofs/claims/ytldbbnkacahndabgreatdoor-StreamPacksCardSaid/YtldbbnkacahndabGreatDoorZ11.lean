/- The logic L (of no program), and plain laws: texts put together; no conditions. -/
import Derived.Test.YtldbbnkacahndabGreatDoorZ6
import Derived.Test.YtldbbnkacahndabGreatDoorZ7
import Derived.Test.YtldbbnkacahndabGreatDoorZ8
import Derived.Test.YtldbbnkacahndabGreatDoorZ9
import Derived.Test.YtldbbnkacahndabGreatDoorZ10
namespace Go.Proofs.YtldbbnkacahndabGreatDoor
open Go.L
set_option maxRecDepth 100000
theorem lawRun {P : Go.Program} (hk : trOK (GoodFC P) Codes id) : PureL P 5 [] (.bool true) := by
 have h0 : ∀ s ∈ ([] : List Sm), SmOK P s := fun s hs => nomatch hs
 have h1 := SmOK.of hk h0 (part1 P)
 have h2 := SmOK.of hk h1 (part2 P)
 have h3 := SmOK.of hk h2 (part3 P)
 have h4 := SmOK.of hk h3 (part4 P)
 have h5 := SmOK.of hk h4 (part5 P)
 have h6 := SmOK.of hk h5 (part6 P)
 have h7 := SmOK.of hk h6 (part7 P)
 have h8 := SmOK.of hk h7 (part8 P)
 have h9 := SmOK.of hk h8 (part9 P)
 have h10 := SmOK.of hk h9 (part10 P)
 exact CallL.ofRunS hk h10 (loops := 1000) (d := 60) (f := 5) (args := []) (v := .bool true) rfl rfl (by kernel_rfl)
end Go.Proofs.YtldbbnkacahndabGreatDoor
