/-
  What is known by heart (printed by wip/facts2.py).
-/
import Derived.Test.YtmoihglcdmmmlaaGreatDoorAbK
set_option maxRecDepth 100000
namespace Go.Proofs.YtmoihglcdmmmlaaGreatDoor
open Go
theorem Tryz.w6x0 : FactOk Tryz.prog glA (18, [(.str [97,44,32,98,44,32,99]), .nils], (.str [40,99,111,109,109,97,32,40,99,111,109,109,97,32,40,110,97,109,101,32,97,41,32,40,110,97,109,101,32,98,41,41,32,40,110,97,109,101,32,99,41,41])) := Tryz.fact1 (by kernel_rfl)
theorem Tryz.w6x1 : FactOk Tryz.prog glA (18, [(.str [97,32,61,32,98,32,61,32,99]), .nils], (.str [40,97,115,115,105,103,110,32,61,32,40,110,97,109,101,32,97,41,32,40,97,115,115,105,103,110,32,61,32,40,110,97,109,101,32,98,41,32,40,110,97,109,101,32,99,41,41,41])) := Tryz.fact1 (by kernel_rfl)
theorem Tryz.w6x2 : FactOk Tryz.prog glA (18, [(.str [97,32,43,61,32,98]), .nils], (.str [40,97,115,115,105,103,110,32,43,61,32,40,110,97,109,101,32,97,41,32,40,110,97,109,101,32,98,41,41])) := Tryz.fact1 (by kernel_rfl)
theorem Tryz.w6x3 : FactOk Tryz.prog glA (18, [(.str [97,32,63,32,98,32,58,32,99,32,63,32,100,32,58,32,101]), .nils], (.str [40,99,111,110,100,32,40,110,97,109,101,32,97,41,32,40,110,97,109,101,32,98,41,32,40,99,111,110,100,32,40,110,97,109,101,32,99,41,32,40,110,97,109,101,32,100,41,32,40,110,97,109,101,32,101,41,41,41])) := Tryz.fact1 (by kernel_rfl)
theorem Tryz.w6x4 : FactOk Tryz.prog glA (18, [(.str [42,112,43,43]), .nils], (.str [40,117,110,97,114,121,32,42,32,40,112,111,115,116,32,43,43,32,40,110,97,109,101,32,112,41,41,41])) := Tryz.fact1 (by kernel_rfl)
end Go.Proofs.YtmoihglcdmmmlaaGreatDoor
