/-
  What is known by heart (printed by wip/facts2.py).
-/
import Derived.Test.YtmoihglcdmmmlaaGreatDoorAbK
set_option maxRecDepth 100000
namespace Go.Proofs.YtmoihglcdmmmlaaGreatDoor
open Go
theorem Tryz.w10x5 : FactOk Tryz.prog glA (31, [(.str [99,97,115,101,32,49,58,32,97,59]), .nils], (.str [40,99,97,115,101,32,40,105,110,116,32,49,41,32,40,101,120,112,114,32,40,110,97,109,101,32,97,41,41,41])) := Tryz.fact1 (by kernel_rfl)
theorem Tryz.w10x6 : FactOk Tryz.prog glA (31, [(.str [100,101,102,97,117,108,116,58,32,59]), .nils], (.str [40,100,101,102,97,117,108,116,32,40,101,109,112,116,121,41,41])) := Tryz.fact1 (by kernel_rfl)
theorem Tryz.w10x7 : FactOk Tryz.prog glA (31, [(.str [105,102,32,40,97,41,32,98,59]), .nils], (.str [40,105,102,32,40,110,97,109,101,32,97,41,32,40,101,120,112,114,32,40,110,97,109,101,32,98,41,41,41])) := Tryz.fact1 (by kernel_rfl)
theorem Tryz.w10x8 : FactOk Tryz.prog glA (31, [(.str [115,119,105,116,99,104,32,40,97,41,32,98,59]), .nils], (.str [40,115,119,105,116,99,104,32,40,110,97,109,101,32,97,41,32,40,101,120,112,114,32,40,110,97,109,101,32,98,41,41,41])) := Tryz.fact1 (by kernel_rfl)
theorem Tryz.w10x9 : FactOk Tryz.prog glA (31, [(.str [119,104,105,108,101,32,40,97,41,32,59]), .nils], (.str [40,119,104,105,108,101,32,40,110,97,109,101,32,97,41,32,40,101,109,112,116,121,41,41])) := Tryz.fact1 (by kernel_rfl)
end Go.Proofs.YtmoihglcdmmmlaaGreatDoor
