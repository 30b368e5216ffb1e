/-
  What is known by heart (printed by wip/facts2.py).
-/
import Derived.Test.YtmoihglcdmmmlaaGreatDoorAbK1
set_option maxRecDepth 100000
namespace Go.Proofs.YtmoihglcdmmmlaaGreatDoor
open Go
theorem Tryz.a30x0 : FactOk Tryz.prog glA (31, [(.str [105,102,32,40,97,41,32,98,59,32,101,108,115,101,32,59]), .nils], (.str [40,105,102,32,40,110,97,109,101,32,97,41,32,40,101,120,112,114,32,40,110,97,109,101,32,98,41,41,32,40,101,109,112,116,121,41,41])) := Tryz.fact1 (by kernel_rfl)
theorem Tryz.a30x1 : FactOk Tryz.prog glA (31, [(.str [123,32,84,32,42,32,120,59,32,125]), .nils], (.str [40,98,108,111,99,107,32,40,101,120,112,114,32,40,98,105,110,97,114,121,32,42,32,40,110,97,109,101,32,84,41,32,40,110,97,109,101,32,120,41,41,41,41])) := Tryz.fact1 (by kernel_rfl)
theorem Tryz.a30x2 : FactOk Tryz.prog glA (31, [(.str [102,111,114,32,40,59,59,41,32,98,114,101,97,107,59]), .nils], (.str [40,102,111,114,32,40,110,111,110,101,41,32,40,110,111,110,101,41,32,40,110,111,110,101,41,32,40,98,114,101,97,107,41,41])) := Tryz.fact1 (by kernel_rfl)
theorem Tryz.a30x3 : FactOk Tryz.prog glA (31, [(.str [120]), .nils], (.str [])) := Tryz.fact1 (by kernel_rfl)
def factsA30 : Facts := [(31, [(.str [105,102,32,40,97,41,32,98,59,32,101,108,115,101,32,59]), .nils], (.str [40,105,102,32,40,110,97,109,101,32,97,41,32,40,101,120,112,114,32,40,110,97,109,101,32,98,41,41,32,40,101,109,112,116,121,41,41])),
 (31, [(.str [123,32,84,32,42,32,120,59,32,125]), .nils], (.str [40,98,108,111,99,107,32,40,101,120,112,114,32,40,98,105,110,97,114,121,32,42,32,40,110,97,109,101,32,84,41,32,40,110,97,109,101,32,120,41,41,41,41])),
 (31, [(.str [102,111,114,32,40,59,59,41,32,98,114,101,97,107,59]), .nils], (.str [40,102,111,114,32,40,110,111,110,101,41,32,40,110,111,110,101,41,32,40,110,111,110,101,41,32,40,98,114,101,97,107,41,41])),
 (31, [(.str [120]), .nils], (.str []))]
theorem Tryz.factsA30_ok : ∀ x ∈ factsA30, FactOk Tryz.prog glA x := by
  intro x hx
  simp only [factsA30, List.mem_cons, List.not_mem_nil, or_false] at hx
  rcases hx with rfl | rfl | rfl | rfl
  · exact Tryz.a30x0
  · exact Tryz.a30x1
  · exact Tryz.a30x2
  · exact Tryz.a30x3

theorem Tryz.awake30 : FactOk Tryz.prog glA (30, [], .bool true) :=
  Tryz.base.fact (fs := [31]) (F := factsA30) (fb := runF env1 1000000) Tryz.factsA30_ok Tryz.env1_ok (k := 1000000) (by kernel_rfl)
end Go.Proofs.YtmoihglcdmmmlaaGreatDoor
