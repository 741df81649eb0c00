/- Contracts of functions of the given program, in the logic L: texts put together; no conditions. -/
import Derived.Test.YtbnfeedomchfdaaGreatDoorY6
import Derived.Test.YtbnfeedomchfdaaGreatDoorY9
import Derived.Test.YtbnfeedomchfdaaGreatDoorY11
import Derived.KernelRfl
/- The calls of slices.Insert at bytes, by contract. Printed by program (gen_parts.py). -/
namespace Go.Proofs.YtbnfeedomchfdaaGreatDoor
open Go.L
set_option maxRecDepth 100000
theorem insert1 : SmOK Tryz.prog S1 :=
  insert_sm (s := S1) (i := 783) (j := 785) (is := 786) (p := 12) (n := 787) (cv := none) (bs := [8, 255, 255, 255, 255, 255, 255, 255, 255, 255, 1, 18, 2, 1, 172, 2]) (vs := [4]) (X := bt []) (rv := bt []) rfl rfl (by kernel_rfl) (by kernel_rfl) (by decide) (by decide) (by decide) rfl (by kernel_rfl) (by kernel_rfl) (by kernel_rfl)
theorem insert2 : SmOK Tryz.prog S2 :=
  insert_sm (s := S2) (i := 814) (j := 816) (is := 817) (p := 18) (n := 818) (cv := none) (bs := [8, 255, 255, 255, 255, 255, 255, 255, 255, 255, 1, 18, 4, 2, 1, 172, 2, 26, 10, 0, 16, 1]) (vs := [4]) (X := bt []) (rv := bt []) rfl rfl (by kernel_rfl) (by kernel_rfl) (by decide) (by decide) (by decide) rfl (by kernel_rfl) (by kernel_rfl) (by kernel_rfl)
theorem insert3 : SmOK Tryz.prog S3 :=
  insert_sm (s := S3) (i := 839) (j := 841) (is := 842) (p := 24) (n := 843) (cv := none) (bs := [8, 255, 255, 255, 255, 255, 255, 255, 255, 255, 1, 18, 4, 2, 1, 172, 2, 26, 4, 10, 0, 16, 1, 26, 10, 1, 120, 16, 0]) (vs := [5]) (X := bt []) (rv := bt []) rfl rfl (by kernel_rfl) (by kernel_rfl) (by decide) (by decide) (by decide) rfl (by kernel_rfl) (by kernel_rfl) (by kernel_rfl)
theorem insert4 : SmOK Tryz.prog S4 :=
  insert_sm (s := S4) (i := 854) (j := 861) (is := 862) (p := 31) (n := 863) (cv := none) (bs := [8, 255, 255, 255, 255, 255, 255, 255, 255, 255, 1, 18, 4, 2, 1, 172, 2, 26, 4, 10, 0, 16, 1, 26, 5, 10, 1, 120, 16, 0, 34]) (vs := [0]) (X := bt []) (rv := bt []) rfl rfl (by kernel_rfl) (by kernel_rfl) (by decide) (by decide) (by decide) rfl (by kernel_rfl) (by kernel_rfl) (by kernel_rfl)
theorem insert6 : SmOK Tryz.prog S6 :=
  insert_sm (s := S6) (i := 1152) (j := 1154) (is := 1155) (p := 12) (n := 1156) (cv := none) (bs := [8, 255, 255, 255, 255, 255, 255, 255, 255, 255, 1, 18, 2, 1, 172, 2]) (vs := [4]) (X := bt []) (rv := bt []) rfl rfl (by kernel_rfl) (by kernel_rfl) (by decide) (by decide) (by decide) rfl (by kernel_rfl) (by kernel_rfl) (by kernel_rfl)
theorem insert7 : SmOK Tryz.prog S7 :=
  insert_sm (s := S7) (i := 1183) (j := 1185) (is := 1186) (p := 18) (n := 1187) (cv := none) (bs := [8, 255, 255, 255, 255, 255, 255, 255, 255, 255, 1, 18, 4, 2, 1, 172, 2, 26, 10, 0, 16, 1]) (vs := [4]) (X := bt []) (rv := bt []) rfl rfl (by kernel_rfl) (by kernel_rfl) (by decide) (by decide) (by decide) rfl (by kernel_rfl) (by kernel_rfl) (by kernel_rfl)
theorem insert8 : SmOK Tryz.prog S8 :=
  insert_sm (s := S8) (i := 1208) (j := 1210) (is := 1211) (p := 24) (n := 1212) (cv := none) (bs := [8, 255, 255, 255, 255, 255, 255, 255, 255, 255, 1, 18, 4, 2, 1, 172, 2, 26, 4, 10, 0, 16, 1, 26, 10, 1, 120, 16, 0]) (vs := [5]) (X := bt []) (rv := bt []) rfl rfl (by kernel_rfl) (by kernel_rfl) (by decide) (by decide) (by decide) rfl (by kernel_rfl) (by kernel_rfl) (by kernel_rfl)
theorem insert9 : SmOK Tryz.prog S9 :=
  insert_sm (s := S9) (i := 1223) (j := 1230) (is := 1231) (p := 31) (n := 1232) (cv := none) (bs := [8, 255, 255, 255, 255, 255, 255, 255, 255, 255, 1, 18, 4, 2, 1, 172, 2, 26, 4, 10, 0, 16, 1, 26, 5, 10, 1, 120, 16, 0, 34]) (vs := [0]) (X := bt []) (rv := bt []) rfl rfl (by kernel_rfl) (by kernel_rfl) (by decide) (by decide) (by decide) rfl (by kernel_rfl) (by kernel_rfl) (by kernel_rfl)
end Go.Proofs.YtbnfeedomchfdaaGreatDoor
