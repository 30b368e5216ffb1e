/-
  What is known by heart (printed by wip/facts2.py).
-/
import Derived.Test.YtmoihglcdmmmlaaGreatDoorAbB
set_option maxRecDepth 100000
namespace Go.Proofs.YtmoihglcdmmmlaaGreatDoor
open Go
theorem Tryz.kind30 : FactOk Tryz.prog glA (155, [(.str [78])], (.str [])) := Tryz.base.fact (fs := []) (F := []) (fb := noFb) (by simp) (noFb_ok _ _) (k := 100000) (by kernel_rfl)
theorem Tryz.kind31 : FactOk Tryz.prog glA (155, [(.str [77])], (.str [])) := Tryz.base.fact (fs := []) (F := []) (fb := noFb) (by simp) (noFb_ok _ _) (k := 100000) (by kernel_rfl)
theorem Tryz.kind32 : FactOk Tryz.prog glA (155, [(.str [118])], (.str [])) := Tryz.base.fact (fs := []) (F := []) (fb := noFb) (by simp) (noFb_ok _ _) (k := 100000) (by kernel_rfl)
theorem Tryz.kind33 : FactOk Tryz.prog glA (155, [(.str [43])], (.str [])) := Tryz.base.fact (fs := []) (F := []) (fb := noFb) (by simp) (noFb_ok _ _) (k := 100000) (by kernel_rfl)
theorem Tryz.kind34 : FactOk Tryz.prog glA (155, [(.str [123])], (.str [])) := Tryz.base.fact (fs := []) (F := []) (fb := noFb) (by simp) (noFb_ok _ _) (k := 100000) (by kernel_rfl)
theorem Tryz.kind35 : FactOk Tryz.prog glA (155, [(.str [61])], (.str [])) := Tryz.base.fact (fs := []) (F := []) (fb := noFb) (by simp) (noFb_ok _ _) (k := 100000) (by kernel_rfl)
theorem Tryz.kind36 : FactOk Tryz.prog glA (155, [(.str [46])], (.str [])) := Tryz.base.fact (fs := []) (F := []) (fb := noFb) (by simp) (noFb_ok _ _) (k := 100000) (by kernel_rfl)
theorem Tryz.kind37 : FactOk Tryz.prog glA (155, [(.str [118,111,105,100])], (.str [116,121,112,101])) := Tryz.base.fact (fs := []) (F := []) (fb := noFb) (by simp) (noFb_ok _ _) (k := 100000) (by kernel_rfl)
theorem Tryz.kind38 : FactOk Tryz.prog glA (155, [(.str [114,101,116,117,114,110])], (.str [])) := Tryz.base.fact (fs := []) (F := []) (fb := noFb) (by simp) (noFb_ok _ _) (k := 100000) (by kernel_rfl)
theorem Tryz.kind39 : FactOk Tryz.prog glA (155, [(.str [105,102])], (.str [])) := Tryz.base.fact (fs := []) (F := []) (fb := noFb) (by simp) (noFb_ok _ _) (k := 100000) (by kernel_rfl)
theorem Tryz.kind40 : FactOk Tryz.prog glA (155, [(.str [101,108,115,101])], (.str [])) := Tryz.base.fact (fs := []) (F := []) (fb := noFb) (by simp) (noFb_ok _ _) (k := 100000) (by kernel_rfl)
theorem Tryz.kind41 : FactOk Tryz.prog glA (155, [(.str [102,111,114])], (.str [])) := Tryz.base.fact (fs := []) (F := []) (fb := noFb) (by simp) (noFb_ok _ _) (k := 100000) (by kernel_rfl)
theorem Tryz.kind42 : FactOk Tryz.prog glA (155, [(.str [106])], (.str [])) := Tryz.base.fact (fs := []) (F := []) (fb := noFb) (by simp) (noFb_ok _ _) (k := 100000) (by kernel_rfl)
end Go.Proofs.YtmoihglcdmmmlaaGreatDoor
