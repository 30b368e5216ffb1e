/-
  What is known by heart (printed by wip/facts2.py).
-/
import Derived.Test.YtmoihglcdmmmlaaGreatDoorAbB
set_option maxRecDepth 100000
namespace Go.Proofs.YtmoihglcdmmmlaaGreatDoor
open Go
theorem Tryz.kind0 : FactOk Tryz.prog glA (155, [(.str [40])], (.str [])) := Tryz.base.fact (fs := []) (F := []) (fb := noFb) (by simp) (noFb_ok _ _) (k := 100000) (by kernel_rfl)
theorem Tryz.kind1 : FactOk Tryz.prog glA (155, [(.str [41])], (.str [])) := Tryz.base.fact (fs := []) (F := []) (fb := noFb) (by simp) (noFb_ok _ _) (k := 100000) (by kernel_rfl)
theorem Tryz.kind2 : FactOk Tryz.prog glA (155, [(.str [42])], (.str [])) := Tryz.base.fact (fs := []) (F := []) (fb := noFb) (by simp) (noFb_ok _ _) (k := 100000) (by kernel_rfl)
theorem Tryz.kind3 : FactOk Tryz.prog glA (155, [(.str [44])], (.str [])) := Tryz.base.fact (fs := []) (F := []) (fb := noFb) (by simp) (noFb_ok _ _) (k := 100000) (by kernel_rfl)
theorem Tryz.kind4 : FactOk Tryz.prog glA (155, [(.str [49])], (.str [])) := Tryz.base.fact (fs := []) (F := []) (fb := noFb) (by simp) (noFb_ok _ _) (k := 100000) (by kernel_rfl)
theorem Tryz.kind5 : FactOk Tryz.prog glA (155, [(.str [58])], (.str [])) := Tryz.base.fact (fs := []) (F := []) (fb := noFb) (by simp) (noFb_ok _ _) (k := 100000) (by kernel_rfl)
theorem Tryz.kind6 : FactOk Tryz.prog glA (155, [(.str [59])], (.str [])) := Tryz.base.fact (fs := []) (F := []) (fb := noFb) (by simp) (noFb_ok _ _) (k := 100000) (by kernel_rfl)
theorem Tryz.kind7 : FactOk Tryz.prog glA (155, [(.str [91])], (.str [])) := Tryz.base.fact (fs := []) (F := []) (fb := noFb) (by simp) (noFb_ok _ _) (k := 100000) (by kernel_rfl)
theorem Tryz.kind8 : FactOk Tryz.prog glA (155, [(.str [97])], (.str [])) := Tryz.base.fact (fs := []) (F := []) (fb := noFb) (by simp) (noFb_ok _ _) (k := 100000) (by kernel_rfl)
theorem Tryz.kind9 : FactOk Tryz.prog glA (155, [(.str [98])], (.str [])) := Tryz.base.fact (fs := []) (F := []) (fb := noFb) (by simp) (noFb_ok _ _) (k := 100000) (by kernel_rfl)
theorem Tryz.kind10 : FactOk Tryz.prog glA (155, [(.str [99,104,97,114])], (.str [116,121,112,101])) := Tryz.base.fact (fs := []) (F := []) (fb := noFb) (by simp) (noFb_ok _ _) (k := 100000) (by kernel_rfl)
theorem Tryz.kind11 : FactOk Tryz.prog glA (155, [(.str [99,111,110,115,116])], (.str [113,117,97,108,105,102,105,101,114])) := Tryz.base.fact (fs := []) (F := []) (fb := noFb) (by simp) (noFb_ok _ _) (k := 100000) (by kernel_rfl)
theorem Tryz.kind12 : FactOk Tryz.prog glA (155, [(.str [101])], (.str [])) := Tryz.base.fact (fs := []) (F := []) (fb := noFb) (by simp) (noFb_ok _ _) (k := 100000) (by kernel_rfl)
theorem Tryz.kind13 : FactOk Tryz.prog glA (155, [(.str [101,110,117,109])], (.str [101,110,117,109])) := Tryz.base.fact (fs := []) (F := []) (fb := noFb) (by simp) (noFb_ok _ _) (k := 100000) (by kernel_rfl)
theorem Tryz.kind14 : FactOk Tryz.prog glA (155, [(.str [105])], (.str [])) := Tryz.base.fact (fs := []) (F := []) (fb := noFb) (by simp) (noFb_ok _ _) (k := 100000) (by kernel_rfl)
end Go.Proofs.YtmoihglcdmmmlaaGreatDoor
