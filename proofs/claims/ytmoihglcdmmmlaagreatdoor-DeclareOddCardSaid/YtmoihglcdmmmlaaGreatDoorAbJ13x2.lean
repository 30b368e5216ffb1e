/-
  DeclareOdd: the run of each case, by the kernel (printed by wip/caselaw.py).
-/
import Derived.Test.YtmoihglcdmmmlaaGreatDoorAbJ13D
set_option maxRecDepth 100000
namespace Go.Proofs.YtmoihglcdmmmlaaGreatDoor
open Go
theorem Tryz.declareOdd_c14 (a : Int) : endsIn lf13.res (exec declareOddEnv 100000 declareOddC (tset (declareOddT a) 4 (.int .i64 14)) declareOddS) (.bool true) = true := by kernel_rfl
theorem Tryz.declareOdd_c15 (a : Int) : endsIn lf13.res (exec declareOddEnv 100000 declareOddC (tset (declareOddT a) 4 (.int .i64 15)) declareOddS) (.bool true) = true := by kernel_rfl
theorem Tryz.declareOdd_c16 (a : Int) : endsIn lf13.res (exec declareOddEnv 100000 declareOddC (tset (declareOddT a) 4 (.int .i64 16)) declareOddS) (.bool true) = true := by kernel_rfl
theorem Tryz.declareOdd_c17 (a : Int) : endsIn lf13.res (exec declareOddEnv 100000 declareOddC (tset (declareOddT a) 4 (.int .i64 17)) declareOddS) (.bool true) = true := by kernel_rfl
theorem Tryz.declareOdd_c18 (a : Int) : endsIn lf13.res (exec declareOddEnv 100000 declareOddC (tset (declareOddT a) 4 (.int .i64 18)) declareOddS) (.bool true) = true := by kernel_rfl
theorem Tryz.declareOdd_c19 (a : Int) : endsIn lf13.res (exec declareOddEnv 100000 declareOddC (tset (declareOddT a) 4 (.int .i64 19)) declareOddS) (.bool true) = true := by kernel_rfl
end Go.Proofs.YtmoihglcdmmmlaaGreatDoor
