/-
  ExpressDeclares: the run of each case, by the kernel (printed by wip/caselaw.py).
-/
import Derived.Test.YtmoihglcdmmmlaaGreatDoorAbJ8D
set_option maxRecDepth 100000
namespace Go.Proofs.YtmoihglcdmmmlaaGreatDoor
open Go
theorem Tryz.expressDeclares_c18 (a : Int) : endsIn lf8.res (exec expressDeclaresEnv 100000 expressDeclaresC (tset (expressDeclaresT a) 4 (.int .i64 18)) expressDeclaresS) (.bool true) = true := by kernel_rfl
theorem Tryz.expressDeclares_c19 (a : Int) : endsIn lf8.res (exec expressDeclaresEnv 100000 expressDeclaresC (tset (expressDeclaresT a) 4 (.int .i64 19)) expressDeclaresS) (.bool true) = true := by kernel_rfl
theorem Tryz.expressDeclares_c20 (a : Int) : endsIn lf8.res (exec expressDeclaresEnv 100000 expressDeclaresC (tset (expressDeclaresT a) 4 (.int .i64 20)) expressDeclaresS) (.bool true) = true := by kernel_rfl
end Go.Proofs.YtmoihglcdmmmlaaGreatDoor
