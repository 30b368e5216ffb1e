/-
  What is known by heart (printed by wip/facts2.py).
-/
import Derived.Test.YtmoihglcdmmmlaaGreatDoorAbK
set_option maxRecDepth 100000
namespace Go.Proofs.YtmoihglcdmmmlaaGreatDoor
open Go
theorem Tryz.w10x15 : FactOk Tryz.prog glA (31, [(.str [98,114,101,97,107,59]), .nils], (.str [40,98,114,101,97,107,41])) := Tryz.fact1 (by kernel_rfl)
theorem Tryz.w10x16 : FactOk Tryz.prog glA (31, [(.str [114,101,116,117,114,110,59]), .nils], (.str [40,114,101,116,117,114,110,41])) := Tryz.fact1 (by kernel_rfl)
theorem Tryz.w10x17 : FactOk Tryz.prog glA (31, [(.str [114,101,116,117,114,110,32,97,44,32,98,59]), .nils], (.str [40,114,101,116,117,114,110,32,40,99,111,109,109,97,32,40,110,97,109,101,32,97,41,32,40,110,97,109,101,32,98,41,41,41])) := Tryz.fact1 (by kernel_rfl)
theorem Tryz.w10x18 : FactOk Tryz.prog glA (31, [(.str [123,32,105,110,116,32,97,59,32,125]), .nils], (.str [40,98,108,111,99,107,32,40,100,101,99,108,97,114,101,32,40,115,112,101,99,115,32,40,116,121,112,101,32,105,110,116,41,41,32,40,110,97,109,101,32,97,41,41,41])) := Tryz.fact1 (by kernel_rfl)
theorem Tryz.w10x19 : FactOk Tryz.prog glA (31, [(.str [123,32,105,110,116,32,97,32,61,32,49,44,32,42,98,59,32,125]), .nils], (.str [40,98,108,111,99,107,32,40,100,101,99,108,97,114,101,32,40,115,112,101,99,115,32,40,116,121,112,101,32,105,110,116,41,41,32,40,105,110,105,116,32,40,110,97,109,101,32,97,41,32,40,105,110,116,32,49,41,41,32,40,112,111,105,110,116,101,114,32,40,110,97,109,101,32,98,41,41,41,41])) := Tryz.fact1 (by kernel_rfl)
end Go.Proofs.YtmoihglcdmmmlaaGreatDoor
