/-
  What is known by heart (printed by wip/facts2.py).
-/
import Derived.Test.YtmoihglcdmmmlaaGreatDoorAbK
set_option maxRecDepth 100000
namespace Go.Proofs.YtmoihglcdmmmlaaGreatDoor
open Go
theorem Tryz.w10x0 : FactOk Tryz.prog glA (31, [(.str [59]), .nils], (.str [40,101,109,112,116,121,41])) := Tryz.fact1 (by kernel_rfl)
theorem Tryz.w10x1 : FactOk Tryz.prog glA (31, [(.str [97,59]), .nils], (.str [40,101,120,112,114,32,40,110,97,109,101,32,97,41,41])) := Tryz.fact1 (by kernel_rfl)
theorem Tryz.w10x2 : FactOk Tryz.prog glA (31, [(.str [123,32,125]), .nils], (.str [40,98,108,111,99,107,41])) := Tryz.fact1 (by kernel_rfl)
theorem Tryz.w10x3 : FactOk Tryz.prog glA (31, [(.str [123,32,97,59,32,59,32,125]), .nils], (.str [40,98,108,111,99,107,32,40,101,120,112,114,32,40,110,97,109,101,32,97,41,41,32,40,101,109,112,116,121,41,41])) := Tryz.fact1 (by kernel_rfl)
theorem Tryz.w10x4 : FactOk Tryz.prog glA (31, [(.str [120,58,32,97,59]), .nils], (.str [40,108,97,98,101,108,32,120,32,40,101,120,112,114,32,40,110,97,109,101,32,97,41,41,41])) := Tryz.fact1 (by kernel_rfl)
end Go.Proofs.YtmoihglcdmmmlaaGreatDoor
