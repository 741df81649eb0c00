/- Contracts of functions of the given program, in the logic L: texts put together; no conditions. -/
import Derived.Test.YtcpjeocepolecaaGreatDoorY5
import Derived.Test.YtcpjeocepolecaaGreatDoorY12
import Derived.Test.YtcpjeocepolecaaGreatDoorY14
import Derived.KernelRfl
/- The calls of slices.Sorted at a map's keys, by contract. Printed by program (gen_parts.py). -/
namespace Go.Proofs.YtcpjeocepolecaaGreatDoor
open Go.L
set_option maxRecDepth 100000
theorem sorted4 : SmOK Tryz.prog S4 :=
  have hL : PureL Tryz.prog 78 [.int .u64 7] (.int .i64 3) := CallL.ofRunS codes_ok (ss := []) (fun s hs => nomatch hs) (loops := 1000) (d := 60) rfl rfl (by kernel_rfl)
  sorted_sm (s := S4) (c := 2350) (m := 2331) (clk := 7) (is := 2351) (Tc := 102) (n := 2352) (es := [(.int .i32 (1), .bool true, 0), (.int .i32 (2), .bool true, 1), (.int .i32 (3), .bool true, 2), (.int .i32 (4), .bool true, 3), (.int .i32 (5), .bool true, 4), (.int .i32 (6), .bool true, 5), (.int .i32 (7), .bool true, 6)]) (zs := [1, 2, 3, 4, 5, 6, 7]) rfl rfl (by kernel_rfl) (by kernel_rfl) (by kernel_rfl) (by decide) (by intro h; cases h) rfl rfl (by kernel_rfl) (by kernel_rfl) (by kernel_rfl) (by kernel_rfl) hL
theorem sorted6 : SmOK Tryz.prog S6 :=
  have hL : PureL Tryz.prog 78 [.int .u64 6] (.int .i64 3) := CallL.ofRunS codes_ok (ss := []) (fun s hs => nomatch hs) (loops := 1000) (d := 60) rfl rfl (by kernel_rfl)
  sorted_sm (s := S6) (c := 2766) (m := 2749) (clk := 6) (is := 2767) (Tc := 102) (n := 2768) (es := [(.int .i32 (1), .bool true, 0), (.int .i32 (2), .bool true, 1), (.int .i32 (3), .bool true, 2), (.int .i32 (4), .bool true, 3), (.int .i32 (5), .bool true, 4), (.int .i32 (6), .bool true, 5)]) (zs := [1, 2, 3, 4, 5, 6]) rfl rfl (by kernel_rfl) (by kernel_rfl) (by kernel_rfl) (by decide) (by intro h; cases h) rfl rfl (by kernel_rfl) (by kernel_rfl) (by kernel_rfl) (by kernel_rfl) hL
theorem sorted7 : SmOK Tryz.prog S7 :=
  have hL : PureL Tryz.prog 78 [.int .u64 6] (.int .i64 3) := CallL.ofRunS codes_ok (ss := []) (fun s hs => nomatch hs) (loops := 1000) (d := 60) rfl rfl (by kernel_rfl)
  sorted_sm (s := S7) (c := 3013) (m := 2999) (clk := 6) (is := 3014) (Tc := 102) (n := 3015) (es := [(.int .i32 (1), .bool true, 0), (.int .i32 (2), .bool true, 1), (.int .i32 (3), .bool true, 2), (.int .i32 (4), .bool true, 3), (.int .i32 (5), .bool true, 4), (.int .i32 (6), .bool true, 5)]) (zs := [1, 2, 3, 4, 5, 6]) rfl rfl (by kernel_rfl) (by kernel_rfl) (by kernel_rfl) (by decide) (by intro h; cases h) rfl rfl (by kernel_rfl) (by kernel_rfl) (by kernel_rfl) (by kernel_rfl) hL
end Go.Proofs.YtcpjeocepolecaaGreatDoor
