/-
  DeclareOdd: the run of each case, by the kernel (printed by wip/caselaw.py).
-/
import Derived.Test.YtmoihglcdmmmlaaGreatDoorAbJ13D
set_option maxRecDepth 100000
namespace Go.Proofs.YtmoihglcdmmmlaaGreatDoor
open Go
theorem Tryz.declareOdd_c0 (a : Int) : endsIn lf13.res (exec declareOddEnv 100000 declareOddC (tset (declareOddT a) 4 (.int .i64 0)) declareOddS) (.bool true) = true := by kernel_rfl
theorem Tryz.declareOdd_c1 (a : Int) : endsIn lf13.res (exec declareOddEnv 100000 declareOddC (tset (declareOddT a) 4 (.int .i64 1)) declareOddS) (.bool true) = true := by kernel_rfl
theorem Tryz.declareOdd_c2 (a : Int) : endsIn lf13.res (exec declareOddEnv 100000 declareOddC (tset (declareOddT a) 4 (.int .i64 2)) declareOddS) (.bool true) = true := by kernel_rfl
theorem Tryz.declareOdd_c3 (a : Int) : endsIn lf13.res (exec declareOddEnv 100000 declareOddC (tset (declareOddT a) 4 (.int .i64 3)) declareOddS) (.bool true) = true := by kernel_rfl
theorem Tryz.declareOdd_c4 (a : Int) : endsIn lf13.res (exec declareOddEnv 100000 declareOddC (tset (declareOddT a) 4 (.int .i64 4)) declareOddS) (.bool true) = true := by kernel_rfl
theorem Tryz.declareOdd_c5 (a : Int) : endsIn lf13.res (exec declareOddEnv 100000 declareOddC (tset (declareOddT a) 4 (.int .i64 5)) declareOddS) (.bool true) = true := by kernel_rfl
theorem Tryz.declareOdd_c6 (a : Int) : endsIn lf13.res (exec declareOddEnv 100000 declareOddC (tset (declareOddT a) 4 (.int .i64 6)) declareOddS) (.bool true) = true := by kernel_rfl
end Go.Proofs.YtmoihglcdmmmlaaGreatDoor
