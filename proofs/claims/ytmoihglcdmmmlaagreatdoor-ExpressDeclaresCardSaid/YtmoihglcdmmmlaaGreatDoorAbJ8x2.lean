/-
  ExpressDeclares: the run of each case, by the kernel (printed by wip/caselaw.py).
-/
import Derived.Test.YtmoihglcdmmmlaaGreatDoorAbJ8D
set_option maxRecDepth 100000
namespace Go.Proofs.YtmoihglcdmmmlaaGreatDoor
open Go
theorem Tryz.expressDeclares_c12 (a : Int) : endsIn lf8.res (exec expressDeclaresEnv 100000 expressDeclaresC (tset (expressDeclaresT a) 4 (.int .i64 12)) expressDeclaresS) (.bool true) = true := by kernel_rfl
theorem Tryz.expressDeclares_c13 (a : Int) : endsIn lf8.res (exec expressDeclaresEnv 100000 expressDeclaresC (tset (expressDeclaresT a) 4 (.int .i64 13)) expressDeclaresS) (.bool true) = true := by kernel_rfl
theorem Tryz.expressDeclares_c14 (a : Int) : endsIn lf8.res (exec expressDeclaresEnv 100000 expressDeclaresC (tset (expressDeclaresT a) 4 (.int .i64 14)) expressDeclaresS) (.bool true) = true := by kernel_rfl
theorem Tryz.expressDeclares_c15 (a : Int) : endsIn lf8.res (exec expressDeclaresEnv 100000 expressDeclaresC (tset (expressDeclaresT a) 4 (.int .i64 15)) expressDeclaresS) (.bool true) = true := by kernel_rfl
theorem Tryz.expressDeclares_c16 (a : Int) : endsIn lf8.res (exec expressDeclaresEnv 100000 expressDeclaresC (tset (expressDeclaresT a) 4 (.int .i64 16)) expressDeclaresS) (.bool true) = true := by kernel_rfl
theorem Tryz.expressDeclares_c17 (a : Int) : endsIn lf8.res (exec expressDeclaresEnv 100000 expressDeclaresC (tset (expressDeclaresT a) 4 (.int .i64 17)) expressDeclaresS) (.bool true) = true := by kernel_rfl
end Go.Proofs.YtmoihglcdmmmlaaGreatDoor
