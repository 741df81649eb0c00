/- The logic L (of no program), and plain laws: texts put together; no conditions. -/
import Derived.Test.YtldbbnkacahndaaGreatDoorZ6
import Derived.Test.YtldbbnkacahndaaGreatDoorZ7
import Derived.Test.YtldbbnkacahndaaGreatDoorZ8
import Derived.Test.YtldbbnkacahndaaGreatDoorZ9
import Derived.Test.YtldbbnkacahndaaGreatDoorZ10
namespace Go.Proofs.YtldbbnkacahndaaGreatDoor
open Go.L
set_option maxRecDepth 100000
theorem qZT {P : Go.Program} (hk : trOK (zA P) zCA id) : PureL P 4 [] (.bool true) := by
 have h0 : ∀ s ∈ ([] : List Sm), SmOK P s := fun s hs => nomatch hs
 have h1 := SmOK.of hk h0 (jLc P)
 have h2 := SmOK.of hk h1 (jLb P)
 have h3 := SmOK.of hk h2 (jLa P)
 have h4 := SmOK.of hk h3 (jLZ P)
 have h5 := SmOK.of hk h4 (jLY P)
 have h6 := SmOK.of hk h5 (jLX P)
 have h7 := SmOK.of hk h6 (jLW P)
 have h8 := SmOK.of hk h7 (jLV P)
 have h9 := SmOK.of hk h8 (jLU P)
 have h10 := SmOK.of hk h9 (qYv P)
 exact CallL.ofRunS hk h10 (loops := 1000) (d := 60) (f := 4) (args := []) (v := .bool true) rfl rfl (by kernel_rfl)
end Go.Proofs.YtldbbnkacahndaaGreatDoor
