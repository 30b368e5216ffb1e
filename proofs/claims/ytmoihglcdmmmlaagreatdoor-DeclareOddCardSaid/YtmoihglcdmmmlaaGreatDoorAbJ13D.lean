/-
  DeclareOdd: the run of each case, by the kernel (printed by wip/caselaw.py).
-/
import Derived.Test.YtmoihglcdmmmlaaGreatDoorAbA21
import Derived.Test.YtmoihglcdmmmlaaGreatDoorAbG
set_option maxRecDepth 100000
namespace Go.Proofs.YtmoihglcdmmmlaaGreatDoor
open Go

def declareOddFacts : Facts := (30, [], .bool true) :: kfacts
theorem Tryz.declareOddFacts_ok : ∀ x ∈ declareOddFacts, FactOk Tryz.prog glA x := by
  intro x hx
  rcases List.mem_cons.1 hx with rfl | hx
  · exact Tryz.awake30
  · exact Tryz.kfacts_ok x hx
noncomputable def declareOddEnv : Env := mkEnv fnT glA 191 [30, 155] declareOddFacts (runF env0 100000)
def declareOddT (a : Int) : Tm := [.int .i64 a, (.bool false), (.sl 1 20 [(.str [97]),(.str [123,32,97,59]),(.str [105,102,32,97]),(.str [105,102,32,40,97,41]),(.str [102,111,114,32,40,97,59,41]),(.str [100,111,32,59,32,119,104,105,108,101,32,40,97,41]),(.str [103,111,116,111,32,49,59]),(.str [99,97,115,101,32,58,32,97,59]),(.str [114,101,116,117,114,110,32,97]),(.str [123,32,105,110,116,32,49,59,32,125]),(.str [123,32,105,110,116,32,97,32,61,32,59,32,125]),(.str [101,108,115,101,32,97,59]),(.str [120,58]),(.str [123,32,105,110,116,32,97,32,98,59,32,125]),(.str [123,32,115,116,114,117,99,116,32,123,32,125,32,97,59,32,125]),(.str [123,32,101,110,117,109,32,123,32,125,32,97,59,32,125]),(.str [123,32,95,83,116,97,116,105,99,95,97,115,115,101,114,116,40,49,44,32,50,41,59,32,125]),(.str [119,104,105,108,101,32,40,41]),(.str [123,32,116,121,112,101,100,101,102,59,32,43,32,125]),(.str [115,119,105,116,99,104,32,40,97,41,32,123])]), (.sl 2 20 [(.int .i64 (.ofNat 1)),(.int .i64 (.ofNat 3)),(.int .i64 (.ofNat 1)),(.int .i64 (.ofNat 4)),(.int .i64 (.ofNat 4)),(.int .i64 (.ofNat 6)),(.int .i64 (.ofNat 1)),(.int .i64 (.ofNat 1)),(.int .i64 (.ofNat 2)),(.int .i64 (.ofNat 2)),(.int .i64 (.ofNat 4)),(.int .i64 (.ofNat 0)),(.int .i64 (.ofNat 2)),(.int .i64 (.ofNat 3)),(.int .i64 (.ofNat 3)),(.int .i64 (.ofNat 3)),(.int .i64 (.ofNat 5)),(.int .i64 (.ofNat 2)),(.int .i64 (.ofNat 4)),(.int .i64 (.ofNat 5))]), undefA, undefA, undefA, undefA, undefA, undefA, undefA, undefA, undefA, undefA, undefA, undefA, undefA, undefA, undefA, undefA, undefA, undefA, undefA, undefA, undefA, undefA, undefA, undefA, undefA, undefA, undefA]
def declareOddS : St := { hp := .lf, nx := 0, tk := (Tr.set (Tr.set .lf 1 (.f 20 1 9)) 2 (.f 20 1 3)), nt := 3, ty := .lf }
def declareOddC : LC := lc13.snd'.snd'.snd'.snd'
end Go.Proofs.YtmoihglcdmmmlaaGreatDoor
