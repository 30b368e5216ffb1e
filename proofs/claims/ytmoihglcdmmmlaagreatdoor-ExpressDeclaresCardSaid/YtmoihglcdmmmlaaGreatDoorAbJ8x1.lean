/-
  ExpressDeclares: the run of each case, by the kernel (printed by wip/caselaw.py).
-/
import Derived.Test.YtmoihglcdmmmlaaGreatDoorAbJ8D
set_option maxRecDepth 100000
namespace Go.Proofs.YtmoihglcdmmmlaaGreatDoor
open Go
theorem Tryz.expressDeclares_c6 (a : Int) : endsIn lf8.res (exec expressDeclaresEnv 100000 expressDeclaresC (tset (expressDeclaresT a) 4 (.int .i64 6)) expressDeclaresS) (.bool true) = true := by kernel_rfl
theorem Tryz.expressDeclares_c7 (a : Int) : endsIn lf8.res (exec expressDeclaresEnv 100000 expressDeclaresC (tset (expressDeclaresT a) 4 (.int .i64 7)) expressDeclaresS) (.bool true) = true := by kernel_rfl
theorem Tryz.expressDeclares_c8 (a : Int) : endsIn lf8.res (exec expressDeclaresEnv 100000 expressDeclaresC (tset (expressDeclaresT a) 4 (.int .i64 8)) expressDeclaresS) (.bool true) = true := by kernel_rfl
theorem Tryz.expressDeclares_c9 (a : Int) : endsIn lf8.res (exec expressDeclaresEnv 100000 expressDeclaresC (tset (expressDeclaresT a) 4 (.int .i64 9)) expressDeclaresS) (.bool true) = true := by kernel_rfl
theorem Tryz.expressDeclares_c10 (a : Int) : endsIn lf8.res (exec expressDeclaresEnv 100000 expressDeclaresC (tset (expressDeclaresT a) 4 (.int .i64 10)) expressDeclaresS) (.bool true) = true := by kernel_rfl
theorem Tryz.expressDeclares_c11 (a : Int) : endsIn lf8.res (exec expressDeclaresEnv 100000 expressDeclaresC (tset (expressDeclaresT a) 4 (.int .i64 11)) expressDeclaresS) (.bool true) = true := by kernel_rfl
end Go.Proofs.YtmoihglcdmmmlaaGreatDoor
