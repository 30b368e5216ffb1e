/-
  What is known by heart (printed by wip/facts2.py).
-/
import Derived.Test.YtmoihglcdmmmlaaGreatDoorAbK
set_option maxRecDepth 100000
namespace Go.Proofs.YtmoihglcdmmmlaaGreatDoor
open Go
theorem Tryz.w6x10 : FactOk Tryz.prog glA (18, [(.str [115,105,122,101,111,102,32,97]), .nils], (.str [40,115,105,122,101,111,102,32,40,110,97,109,101,32,97,41,41])) := Tryz.fact1 (by kernel_rfl)
theorem Tryz.w6x11 : FactOk Tryz.prog glA (18, [(.str [115,105,122,101,111,102,32,40,97,41]), .nils], (.str [40,115,105,122,101,111,102,32,40,110,97,109,101,32,97,41,41])) := Tryz.fact1 (by kernel_rfl)
theorem Tryz.w6x12 : FactOk Tryz.prog glA (18, [(.str [95,65,108,105,103,110,111,102,40,105,110,116,41]), .nils], (.str [40,97,108,105,103,110,111,102,32,40,116,121,112,101,110,97,109,101,32,40,115,112,101,99,115,32,40,116,121,112,101,32,105,110,116,41,41,32,40,110,111,110,101,41,41,41])) := Tryz.fact1 (by kernel_rfl)
theorem Tryz.w6x13 : FactOk Tryz.prog glA (18, [(.str [40,105,110,116,41,97]), .nils], (.str [40,99,97,115,116,32,40,116,121,112,101,110,97,109,101,32,40,115,112,101,99,115,32,40,116,121,112,101,32,105,110,116,41,41,32,40,110,111,110,101,41,41,32,40,110,97,109,101,32,97,41,41])) := Tryz.fact1 (by kernel_rfl)
theorem Tryz.w6x14 : FactOk Tryz.prog glA (18, [(.str [40,105,110,116,42,41,97]), .nils], (.str [40,99,97,115,116,32,40,116,121,112,101,110,97,109,101,32,40,115,112,101,99,115,32,40,116,121,112,101,32,105,110,116,41,41,32,40,112,111,105,110,116,101,114,32,40,110,111,110,101,41,41,41,32,40,110,97,109,101,32,97,41,41])) := Tryz.fact1 (by kernel_rfl)
end Go.Proofs.YtmoihglcdmmmlaaGreatDoor
