/-
  What is known by heart (printed by wip/facts2.py).
-/
import Derived.Test.YtmoihglcdmmmlaaGreatDoorAbK
set_option maxRecDepth 100000
namespace Go.Proofs.YtmoihglcdmmmlaaGreatDoor
open Go
theorem Tryz.w6x5 : FactOk Tryz.prog glA (18, [(.str [40,97,41]), .nils], (.str [40,110,97,109,101,32,97,41])) := Tryz.fact1 (by kernel_rfl)
theorem Tryz.w6x6 : FactOk Tryz.prog glA (18, [(.str [45,97,91,49,93,46,98,45,62,99]), .nils], (.str [40,117,110,97,114,121,32,45,32,40,109,101,109,98,101,114,32,45,62,99,32,40,109,101,109,98,101,114,32,46,98,32,40,105,110,100,101,120,32,40,110,97,109,101,32,97,41,32,40,105,110,116,32,49,41,41,41,41,41])) := Tryz.fact1 (by kernel_rfl)
theorem Tryz.w6x7 : FactOk Tryz.prog glA (18, [(.str [102,40,41]), .nils], (.str [40,99,97,108,108,32,40,110,97,109,101,32,102,41,41])) := Tryz.fact1 (by kernel_rfl)
theorem Tryz.w6x8 : FactOk Tryz.prog glA (18, [(.str [102,40,97,44,32,40,98,44,32,99,41,41]), .nils], (.str [40,99,97,108,108,32,40,110,97,109,101,32,102,41,32,40,110,97,109,101,32,97,41,32,40,99,111,109,109,97,32,40,110,97,109,101,32,98,41,32,40,110,97,109,101,32,99,41,41,41])) := Tryz.fact1 (by kernel_rfl)
theorem Tryz.w6x9 : FactOk Tryz.prog glA (18, [(.str [43,43,42,112]), .nils], (.str [40,112,114,101,32,43,43,32,40,117,110,97,114,121,32,42,32,40,110,97,109,101,32,112,41,41,41])) := Tryz.fact1 (by kernel_rfl)
end Go.Proofs.YtmoihglcdmmmlaaGreatDoor
