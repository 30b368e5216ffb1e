/-
  What is known by heart (printed by wip/facts2.py).
-/
import Derived.Test.YtmoihglcdmmmlaaGreatDoorAbK
set_option maxRecDepth 100000
namespace Go.Proofs.YtmoihglcdmmmlaaGreatDoor
open Go
theorem Tryz.w10x10 : FactOk Tryz.prog glA (31, [(.str [100,111,32,97,59,32,119,104,105,108,101,32,40,98,41,59]), .nils], (.str [40,100,111,32,40,101,120,112,114,32,40,110,97,109,101,32,97,41,41,32,40,110,97,109,101,32,98,41,41])) := Tryz.fact1 (by kernel_rfl)
theorem Tryz.w10x11 : FactOk Tryz.prog glA (31, [(.str [102,111,114,32,40,97,59,32,98,59,32,99,41,32,100,59]), .nils], (.str [40,102,111,114,32,40,110,97,109,101,32,97,41,32,40,110,97,109,101,32,98,41,32,40,110,97,109,101,32,99,41,32,40,101,120,112,114,32,40,110,97,109,101,32,100,41,41,41])) := Tryz.fact1 (by kernel_rfl)
theorem Tryz.w10x12 : FactOk Tryz.prog glA (31, [(.str [102,111,114,32,40,105,110,116,32,105,32,61,32,48,59,59,41,32,59]), .nils], (.str [40,102,111,114,32,40,100,101,99,108,97,114,101,32,40,115,112,101,99,115,32,40,116,121,112,101,32,105,110,116,41,41,32,40,105,110,105,116,32,40,110,97,109,101,32,105,41,32,40,105,110,116,32,48,41,41,41,32,40,110,111,110,101,41,32,40,110,111,110,101,41,32,40,101,109,112,116,121,41,41])) := Tryz.fact1 (by kernel_rfl)
theorem Tryz.w10x13 : FactOk Tryz.prog glA (31, [(.str [103,111,116,111,32,120,59]), .nils], (.str [40,103,111,116,111,32,120,41])) := Tryz.fact1 (by kernel_rfl)
theorem Tryz.w10x14 : FactOk Tryz.prog glA (31, [(.str [99,111,110,116,105,110,117,101,59]), .nils], (.str [40,99,111,110,116,105,110,117,101,41])) := Tryz.fact1 (by kernel_rfl)
end Go.Proofs.YtmoihglcdmmmlaaGreatDoor
