/-
  What is known by heart (printed by wip/facts2.py).
-/
import Derived.Test.YtmoihglcdmmmlaaGreatDoorAbK1
set_option maxRecDepth 100000
namespace Go.Proofs.YtmoihglcdmmmlaaGreatDoor
open Go
theorem Tryz.a19x0 : FactOk Tryz.prog glA (18, [(.str [40,84,41,45,49]), .nils], (.str [40,98,105,110,97,114,121,32,45,32,40,110,97,109,101,32,84,41,32,40,105,110,116,32,49,41,41])) := Tryz.fact1 (by kernel_rfl)
theorem Tryz.a19x1 : FactOk Tryz.prog glA (18, [(.str [97,32,61,32,98,32,63,32,99,32,58,32,100,44,32,101]), .nils], (.str [40,99,111,109,109,97,32,40,97,115,115,105,103,110,32,61,32,40,110,97,109,101,32,97,41,32,40,99,111,110,100,32,40,110,97,109,101,32,98,41,32,40,110,97,109,101,32,99,41,32,40,110,97,109,101,32,100,41,41,41,32,40,110,97,109,101,32,101,41,41])) := Tryz.fact1 (by kernel_rfl)
theorem Tryz.a19x2 : FactOk Tryz.prog glA (18, [(.str [97,32,43]), .nils], (.str [])) := Tryz.fact1 (by kernel_rfl)
def factsA19 : Facts := [(18, [(.str [40,84,41,45,49]), .nils], (.str [40,98,105,110,97,114,121,32,45,32,40,110,97,109,101,32,84,41,32,40,105,110,116,32,49,41,41])),
 (18, [(.str [97,32,61,32,98,32,63,32,99,32,58,32,100,44,32,101]), .nils], (.str [40,99,111,109,109,97,32,40,97,115,115,105,103,110,32,61,32,40,110,97,109,101,32,97,41,32,40,99,111,110,100,32,40,110,97,109,101,32,98,41,32,40,110,97,109,101,32,99,41,32,40,110,97,109,101,32,100,41,41,41,32,40,110,97,109,101,32,101,41,41])),
 (18, [(.str [97,32,43]), .nils], (.str []))]
theorem Tryz.factsA19_ok : ∀ x ∈ factsA19, FactOk Tryz.prog glA x := by
  intro x hx
  simp only [factsA19, List.mem_cons, List.not_mem_nil, or_false] at hx
  rcases hx with rfl | rfl | rfl
  · exact Tryz.a19x0
  · exact Tryz.a19x1
  · exact Tryz.a19x2

theorem Tryz.awake19 : FactOk Tryz.prog glA (19, [], .bool true) :=
  Tryz.base.fact (fs := [18]) (F := factsA19) (fb := runF env1 1000000) Tryz.factsA19_ok Tryz.env1_ok (k := 1000000) (by kernel_rfl)
end Go.Proofs.YtmoihglcdmmmlaaGreatDoor
