/- The rest of the law, computed by the kernel (of whatever program has these codes). Printed by program (gen_all.py). -/
import Derived.Test.YtmnhoegjccdkpadGreatDoorGs
namespace Go.Proofs.YtmnhoegjccdkpadGreatDoor
open Go.L
set_option maxRecDepth 100000
theorem lawRun {P : Go.Program} (hk : trOK (GoodFC P) Codes id) : PureL P 3 [] (.bool true) := CallL.ofRunS hk S1 (loops := 1000) (d := 60) (f := 3) (args := []) (v := .bool true) (runsA P) rfl rfl (by kernel_rfl)
end Go.Proofs.YtmnhoegjccdkpadGreatDoor
