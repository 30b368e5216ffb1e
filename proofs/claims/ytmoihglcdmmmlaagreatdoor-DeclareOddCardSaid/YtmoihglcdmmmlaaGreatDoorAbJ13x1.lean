/-
  DeclareOdd: the run of each case, by the kernel (printed by wip/caselaw.py).
-/
import Derived.Test.YtmoihglcdmmmlaaGreatDoorAbJ13D
set_option maxRecDepth 100000
namespace Go.Proofs.YtmoihglcdmmmlaaGreatDoor
open Go
theorem Tryz.declareOdd_c7 (a : Int) : endsIn lf13.res (exec declareOddEnv 100000 declareOddC (tset (declareOddT a) 4 (.int .i64 7)) declareOddS) (.bool true) = true := by kernel_rfl
theorem Tryz.declareOdd_c8 (a : Int) : endsIn lf13.res (exec declareOddEnv 100000 declareOddC (tset (declareOddT a) 4 (.int .i64 8)) declareOddS) (.bool true) = true := by kernel_rfl
theorem Tryz.declareOdd_c9 (a : Int) : endsIn lf13.res (exec declareOddEnv 100000 declareOddC (tset (declareOddT a) 4 (.int .i64 9)) declareOddS) (.bool true) = true := by kernel_rfl
theorem Tryz.declareOdd_c10 (a : Int) : endsIn lf13.res (exec declareOddEnv 100000 declareOddC (tset (declareOddT a) 4 (.int .i64 10)) declareOddS) (.bool true) = true := by kernel_rfl
theorem Tryz.declareOdd_c11 (a : Int) : endsIn lf13.res (exec declareOddEnv 100000 declareOddC (tset (declareOddT a) 4 (.int .i64 11)) declareOddS) (.bool true) = true := by kernel_rfl
theorem Tryz.declareOdd_c12 (a : Int) : endsIn lf13.res (exec declareOddEnv 100000 declareOddC (tset (declareOddT a) 4 (.int .i64 12)) declareOddS) (.bool true) = true := by kernel_rfl
theorem Tryz.declareOdd_c13 (a : Int) : endsIn lf13.res (exec declareOddEnv 100000 declareOddC (tset (declareOddT a) 4 (.int .i64 13)) declareOddS) (.bool true) = true := by kernel_rfl
end Go.Proofs.YtmoihglcdmmmlaaGreatDoor
