/-
  DeclareForms: the run of each case, by the kernel (printed by wip/caselaw.py).
-/
import Derived.Test.YtmoihglcdmmmlaaGreatDoorAbJ10D
set_option maxRecDepth 100000
namespace Go.Proofs.YtmoihglcdmmmlaaGreatDoor
open Go
theorem Tryz.declareForms_c0 (a : Int) : endsIn lf10.res (exec declareFormsEnv 100000 declareFormsC (tset (declareFormsT a) 4 (.int .i64 0)) declareFormsS) (.bool true) = true := by kernel_rfl
theorem Tryz.declareForms_c1 (a : Int) : endsIn lf10.res (exec declareFormsEnv 100000 declareFormsC (tset (declareFormsT a) 4 (.int .i64 1)) declareFormsS) (.bool true) = true := by kernel_rfl
theorem Tryz.declareForms_c2 (a : Int) : endsIn lf10.res (exec declareFormsEnv 100000 declareFormsC (tset (declareFormsT a) 4 (.int .i64 2)) declareFormsS) (.bool true) = true := by kernel_rfl
theorem Tryz.declareForms_c3 (a : Int) : endsIn lf10.res (exec declareFormsEnv 100000 declareFormsC (tset (declareFormsT a) 4 (.int .i64 3)) declareFormsS) (.bool true) = true := by kernel_rfl
theorem Tryz.declareForms_c4 (a : Int) : endsIn lf10.res (exec declareFormsEnv 100000 declareFormsC (tset (declareFormsT a) 4 (.int .i64 4)) declareFormsS) (.bool true) = true := by kernel_rfl
theorem Tryz.declareForms_c5 (a : Int) : endsIn lf10.res (exec declareFormsEnv 100000 declareFormsC (tset (declareFormsT a) 4 (.int .i64 5)) declareFormsS) (.bool true) = true := by kernel_rfl
theorem Tryz.declareForms_c6 (a : Int) : endsIn lf10.res (exec declareFormsEnv 100000 declareFormsC (tset (declareFormsT a) 4 (.int .i64 6)) declareFormsS) (.bool true) = true := by kernel_rfl
theorem Tryz.declareForms_c7 (a : Int) : endsIn lf10.res (exec declareFormsEnv 100000 declareFormsC (tset (declareFormsT a) 4 (.int .i64 7)) declareFormsS) (.bool true) = true := by kernel_rfl
theorem Tryz.declareForms_c8 (a : Int) : endsIn lf10.res (exec declareFormsEnv 100000 declareFormsC (tset (declareFormsT a) 4 (.int .i64 8)) declareFormsS) (.bool true) = true := by kernel_rfl
theorem Tryz.declareForms_c9 (a : Int) : endsIn lf10.res (exec declareFormsEnv 100000 declareFormsC (tset (declareFormsT a) 4 (.int .i64 9)) declareFormsS) (.bool true) = true := by kernel_rfl
theorem Tryz.declareForms_c10 (a : Int) : endsIn lf10.res (exec declareFormsEnv 100000 declareFormsC (tset (declareFormsT a) 4 (.int .i64 10)) declareFormsS) (.bool true) = true := by kernel_rfl
theorem Tryz.declareForms_c11 (a : Int) : endsIn lf10.res (exec declareFormsEnv 100000 declareFormsC (tset (declareFormsT a) 4 (.int .i64 11)) declareFormsS) (.bool true) = true := by kernel_rfl
theorem Tryz.declareForms_c12 (a : Int) : endsIn lf10.res (exec declareFormsEnv 100000 declareFormsC (tset (declareFormsT a) 4 (.int .i64 12)) declareFormsS) (.bool true) = true := by kernel_rfl
theorem Tryz.declareForms_c13 (a : Int) : endsIn lf10.res (exec declareFormsEnv 100000 declareFormsC (tset (declareFormsT a) 4 (.int .i64 13)) declareFormsS) (.bool true) = true := by kernel_rfl
theorem Tryz.declareForms_c14 (a : Int) : endsIn lf10.res (exec declareFormsEnv 100000 declareFormsC (tset (declareFormsT a) 4 (.int .i64 14)) declareFormsS) (.bool true) = true := by kernel_rfl
theorem Tryz.declareForms_c15 (a : Int) : endsIn lf10.res (exec declareFormsEnv 100000 declareFormsC (tset (declareFormsT a) 4 (.int .i64 15)) declareFormsS) (.bool true) = true := by kernel_rfl
theorem Tryz.declareForms_c16 (a : Int) : endsIn lf10.res (exec declareFormsEnv 100000 declareFormsC (tset (declareFormsT a) 4 (.int .i64 16)) declareFormsS) (.bool true) = true := by kernel_rfl
theorem Tryz.declareForms_c17 (a : Int) : endsIn lf10.res (exec declareFormsEnv 100000 declareFormsC (tset (declareFormsT a) 4 (.int .i64 17)) declareFormsS) (.bool true) = true := by kernel_rfl
theorem Tryz.declareForms_c18 (a : Int) : endsIn lf10.res (exec declareFormsEnv 100000 declareFormsC (tset (declareFormsT a) 4 (.int .i64 18)) declareFormsS) (.bool true) = true := by kernel_rfl
theorem Tryz.declareForms_c19 (a : Int) : endsIn lf10.res (exec declareFormsEnv 100000 declareFormsC (tset (declareFormsT a) 4 (.int .i64 19)) declareFormsS) (.bool true) = true := by kernel_rfl
theorem Tryz.declareForms_c20 (a : Int) : endsIn lf10.res (exec declareFormsEnv 100000 declareFormsC (tset (declareFormsT a) 4 (.int .i64 20)) declareFormsS) (.bool true) = true := by kernel_rfl
theorem Tryz.declareForms_c21 (a : Int) : endsIn lf10.res (exec declareFormsEnv 100000 declareFormsC (tset (declareFormsT a) 4 (.int .i64 21)) declareFormsS) (.bool true) = true := by kernel_rfl
theorem Tryz.declareForms_c22 (a : Int) : endsIn lf10.res (exec declareFormsEnv 100000 declareFormsC (tset (declareFormsT a) 4 (.int .i64 22)) declareFormsS) (.bool true) = true := by kernel_rfl
theorem Tryz.declareForms_c23 (a : Int) : endsIn lf10.res (exec declareFormsEnv 100000 declareFormsC (tset (declareFormsT a) 4 (.int .i64 23)) declareFormsS) (.bool true) = true := by kernel_rfl
theorem Tryz.declareForms_c24 (a : Int) : endsIn lf10.res (exec declareFormsEnv 100000 declareFormsC (tset (declareFormsT a) 4 (.int .i64 24)) declareFormsS) (.bool true) = true := by kernel_rfl
end Go.Proofs.YtmoihglcdmmmlaaGreatDoor
