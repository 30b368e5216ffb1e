/-
  What is known by heart (printed by wip/facts2.py).
-/
import Derived.Test.YtmoihglcdmmmlaaGreatDoorAbKx0
import Derived.Test.YtmoihglcdmmmlaaGreatDoorAbKx1
import Derived.Test.YtmoihglcdmmmlaaGreatDoorAbKx2
set_option maxRecDepth 100000
namespace Go.Proofs.YtmoihglcdmmmlaaGreatDoor
open Go
def kfacts : Facts := [(155, [(.str [40])], (.str [])),
 (155, [(.str [41])], (.str [])),
 (155, [(.str [42])], (.str [])),
 (155, [(.str [44])], (.str [])),
 (155, [(.str [49])], (.str [])),
 (155, [(.str [58])], (.str [])),
 (155, [(.str [59])], (.str [])),
 (155, [(.str [91])], (.str [])),
 (155, [(.str [97])], (.str [])),
 (155, [(.str [98])], (.str [])),
 (155, [(.str [99,104,97,114])], (.str [116,121,112,101])),
 (155, [(.str [99,111,110,115,116])], (.str [113,117,97,108,105,102,105,101,114])),
 (155, [(.str [101])], (.str [])),
 (155, [(.str [101,110,117,109])], (.str [101,110,117,109])),
 (155, [(.str [105])], (.str [])),
 (155, [(.str [105,110,116])], (.str [116,121,112,101])),
 (155, [(.str [115])], (.str [])),
 (155, [(.str [115,116,97,116,105,99])], (.str [115,116,111,114,97,103,101])),
 (155, [(.str [115,116,114,117,99,116])], (.str [115,116,114,117,99,116])),
 (155, [(.str [116,121,112,101,100,101,102])], (.str [115,116,111,114,97,103,101])),
 (155, [(.str [118,111,108,97,116,105,108,101])], (.str [113,117,97,108,105,102,105,101,114])),
 (155, [(.str [120])], (.str [])),
 (155, [(.str [125])], (.str [])),
 (155, [(.str [84])], (.str [])),
 (155, [(.str [121])], (.str [])),
 (155, [(.str [122])], (.str [])),
 (155, [(.str [103])], (.str [])),
 (155, [(.str [85])], (.str [])),
 (155, [(.str [102])], (.str [])),
 (155, [(.str [99])], (.str [])),
 (155, [(.str [78])], (.str [])),
 (155, [(.str [77])], (.str [])),
 (155, [(.str [118])], (.str [])),
 (155, [(.str [43])], (.str [])),
 (155, [(.str [123])], (.str [])),
 (155, [(.str [61])], (.str [])),
 (155, [(.str [46])], (.str [])),
 (155, [(.str [118,111,105,100])], (.str [116,121,112,101])),
 (155, [(.str [114,101,116,117,114,110])], (.str [])),
 (155, [(.str [105,102])], (.str [])),
 (155, [(.str [101,108,115,101])], (.str [])),
 (155, [(.str [102,111,114])], (.str [])),
 (155, [(.str [106])], (.str []))]
theorem Tryz.kfacts_ok : ∀ x ∈ kfacts, FactOk Tryz.prog glA x := by
  intro x hx
  simp only [kfacts, List.mem_cons, List.not_mem_nil, or_false] at hx
  rcases hx with rfl | rfl | rfl | rfl | rfl | rfl | rfl | rfl | rfl | rfl | rfl | rfl | rfl | rfl | rfl | rfl | rfl | rfl | rfl | rfl | rfl | rfl | rfl | rfl | rfl | rfl | rfl | rfl | rfl | rfl | rfl | rfl | rfl | rfl | rfl | rfl | rfl | rfl | rfl | rfl | rfl | rfl | rfl
  · exact Tryz.kind0
  · exact Tryz.kind1
  · exact Tryz.kind2
  · exact Tryz.kind3
  · exact Tryz.kind4
  · exact Tryz.kind5
  · exact Tryz.kind6
  · exact Tryz.kind7
  · exact Tryz.kind8
  · exact Tryz.kind9
  · exact Tryz.kind10
  · exact Tryz.kind11
  · exact Tryz.kind12
  · exact Tryz.kind13
  · exact Tryz.kind14
  · exact Tryz.kind15
  · exact Tryz.kind16
  · exact Tryz.kind17
  · exact Tryz.kind18
  · exact Tryz.kind19
  · exact Tryz.kind20
  · exact Tryz.kind21
  · exact Tryz.kind22
  · exact Tryz.kind23
  · exact Tryz.kind24
  · exact Tryz.kind25
  · exact Tryz.kind26
  · exact Tryz.kind27
  · exact Tryz.kind28
  · exact Tryz.kind29
  · exact Tryz.kind30
  · exact Tryz.kind31
  · exact Tryz.kind32
  · exact Tryz.kind33
  · exact Tryz.kind34
  · exact Tryz.kind35
  · exact Tryz.kind36
  · exact Tryz.kind37
  · exact Tryz.kind38
  · exact Tryz.kind39
  · exact Tryz.kind40
  · exact Tryz.kind41
  · exact Tryz.kind42

/-- The bare surroundings. -/
noncomputable def env0 : Env := mkEnv fnT glA 191 [] [] noFb
/-- With what is known of kindOf. -/
noncomputable def env1 : Env := mkEnv fnT glA 191 [155] kfacts (runF env0 100000)
theorem Tryz.env0_ok : ∀ w0, CallsOk Tryz.prog glA w0 (runF env0 100000) := fun w0 => Tryz.base.runOk (by simp) (noFb_ok _ _) w0 _
/-- A fact, by a run in those. -/
theorem Tryz.fact1 {f : FuncId} {xs : List AV} {v : AV} (h : (AV.noMems xs && (AV.noMem v && comes (runF env1 1000000 f xs St.nil) v)) = true) : FactOk Tryz.prog glA (f, xs, v) :=
  Tryz.base.fact (fs := [155]) (F := kfacts) (fb := runF env0 100000) Tryz.kfacts_ok Tryz.env0_ok h
end Go.Proofs.YtmoihglcdmmmlaaGreatDoor
