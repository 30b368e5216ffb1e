/-
  What is known by heart (printed by wip/facts2.py).
-/
import Derived.Test.YtmoihglcdmmmlaaGreatDoorAbB
set_option maxRecDepth 100000
namespace Go.Proofs.YtmoihglcdmmmlaaGreatDoor
open Go
theorem Tryz.kind15 : FactOk Tryz.prog glA (155, [(.str [105,110,116])], (.str [116,121,112,101])) := Tryz.base.fact (fs := []) (F := []) (fb := noFb) (by simp) (noFb_ok _ _) (k := 100000) (by kernel_rfl)
theorem Tryz.kind16 : FactOk Tryz.prog glA (155, [(.str [115])], (.str [])) := Tryz.base.fact (fs := []) (F := []) (fb := noFb) (by simp) (noFb_ok _ _) (k := 100000) (by kernel_rfl)
theorem Tryz.kind17 : FactOk Tryz.prog glA (155, [(.str [115,116,97,116,105,99])], (.str [115,116,111,114,97,103,101])) := Tryz.base.fact (fs := []) (F := []) (fb := noFb) (by simp) (noFb_ok _ _) (k := 100000) (by kernel_rfl)
theorem Tryz.kind18 : FactOk Tryz.prog glA (155, [(.str [115,116,114,117,99,116])], (.str [115,116,114,117,99,116])) := Tryz.base.fact (fs := []) (F := []) (fb := noFb) (by simp) (noFb_ok _ _) (k := 100000) (by kernel_rfl)
theorem Tryz.kind19 : FactOk Tryz.prog glA (155, [(.str [116,121,112,101,100,101,102])], (.str [115,116,111,114,97,103,101])) := Tryz.base.fact (fs := []) (F := []) (fb := noFb) (by simp) (noFb_ok _ _) (k := 100000) (by kernel_rfl)
theorem Tryz.kind20 : FactOk Tryz.prog glA (155, [(.str [118,111,108,97,116,105,108,101])], (.str [113,117,97,108,105,102,105,101,114])) := Tryz.base.fact (fs := []) (F := []) (fb := noFb) (by simp) (noFb_ok _ _) (k := 100000) (by kernel_rfl)
theorem Tryz.kind21 : FactOk Tryz.prog glA (155, [(.str [120])], (.str [])) := Tryz.base.fact (fs := []) (F := []) (fb := noFb) (by simp) (noFb_ok _ _) (k := 100000) (by kernel_rfl)
theorem Tryz.kind22 : FactOk Tryz.prog glA (155, [(.str [125])], (.str [])) := Tryz.base.fact (fs := []) (F := []) (fb := noFb) (by simp) (noFb_ok _ _) (k := 100000) (by kernel_rfl)
theorem Tryz.kind23 : FactOk Tryz.prog glA (155, [(.str [84])], (.str [])) := Tryz.base.fact (fs := []) (F := []) (fb := noFb) (by simp) (noFb_ok _ _) (k := 100000) (by kernel_rfl)
theorem Tryz.kind24 : FactOk Tryz.prog glA (155, [(.str [121])], (.str [])) := Tryz.base.fact (fs := []) (F := []) (fb := noFb) (by simp) (noFb_ok _ _) (k := 100000) (by kernel_rfl)
theorem Tryz.kind25 : FactOk Tryz.prog glA (155, [(.str [122])], (.str [])) := Tryz.base.fact (fs := []) (F := []) (fb := noFb) (by simp) (noFb_ok _ _) (k := 100000) (by kernel_rfl)
theorem Tryz.kind26 : FactOk Tryz.prog glA (155, [(.str [103])], (.str [])) := Tryz.base.fact (fs := []) (F := []) (fb := noFb) (by simp) (noFb_ok _ _) (k := 100000) (by kernel_rfl)
theorem Tryz.kind27 : FactOk Tryz.prog glA (155, [(.str [85])], (.str [])) := Tryz.base.fact (fs := []) (F := []) (fb := noFb) (by simp) (noFb_ok _ _) (k := 100000) (by kernel_rfl)
theorem Tryz.kind28 : FactOk Tryz.prog glA (155, [(.str [102])], (.str [])) := Tryz.base.fact (fs := []) (F := []) (fb := noFb) (by simp) (noFb_ok _ _) (k := 100000) (by kernel_rfl)
theorem Tryz.kind29 : FactOk Tryz.prog glA (155, [(.str [99])], (.str [])) := Tryz.base.fact (fs := []) (F := []) (fb := noFb) (by simp) (noFb_ok _ _) (k := 100000) (by kernel_rfl)
end Go.Proofs.YtmoihglcdmmmlaaGreatDoor
