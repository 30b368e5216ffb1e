/-
  ExpressDeclares: the run of each case, by the kernel (printed by wip/caselaw.py).
-/
import Derived.Test.YtmoihglcdmmmlaaGreatDoorAbJ8D
set_option maxRecDepth 100000
namespace Go.Proofs.YtmoihglcdmmmlaaGreatDoor
open Go
theorem Tryz.expressDeclares_c0 (a : Int) : endsIn lf8.res (exec expressDeclaresEnv 100000 expressDeclaresC (tset (expressDeclaresT a) 4 (.int .i64 0)) expressDeclaresS) (.bool true) = true := by kernel_rfl
theorem Tryz.expressDeclares_c1 (a : Int) : endsIn lf8.res (exec expressDeclaresEnv 100000 expressDeclaresC (tset (expressDeclaresT a) 4 (.int .i64 1)) expressDeclaresS) (.bool true) = true := by kernel_rfl
theorem Tryz.expressDeclares_c2 (a : Int) : endsIn lf8.res (exec expressDeclaresEnv 100000 expressDeclaresC (tset (expressDeclaresT a) 4 (.int .i64 2)) expressDeclaresS) (.bool true) = true := by kernel_rfl
theorem Tryz.expressDeclares_c3 (a : Int) : endsIn lf8.res (exec expressDeclaresEnv 100000 expressDeclaresC (tset (expressDeclaresT a) 4 (.int .i64 3)) expressDeclaresS) (.bool true) = true := by kernel_rfl
theorem Tryz.expressDeclares_c4 (a : Int) : endsIn lf8.res (exec expressDeclaresEnv 100000 expressDeclaresC (tset (expressDeclaresT a) 4 (.int .i64 4)) expressDeclaresS) (.bool true) = true := by kernel_rfl
theorem Tryz.expressDeclares_c5 (a : Int) : endsIn lf8.res (exec expressDeclaresEnv 100000 expressDeclaresC (tset (expressDeclaresT a) 4 (.int .i64 5)) expressDeclaresS) (.bool true) = true := by kernel_rfl
end Go.Proofs.YtmoihglcdmmmlaaGreatDoor
