/-
  ExpressForms: the run of each case, by the kernel (printed by wip/caselaw.py).
-/
import Derived.Test.YtmoihglcdmmmlaaGreatDoorAbJ6D
set_option maxRecDepth 100000
namespace Go.Proofs.YtmoihglcdmmmlaaGreatDoor
open Go
theorem Tryz.expressForms_c0 (a : Int) : endsIn lf6.res (exec expressFormsEnv 100000 expressFormsC (tset (expressFormsT a) 4 (.int .i64 0)) expressFormsS) (.bool true) = true := by kernel_rfl
theorem Tryz.expressForms_c1 (a : Int) : endsIn lf6.res (exec expressFormsEnv 100000 expressFormsC (tset (expressFormsT a) 4 (.int .i64 1)) expressFormsS) (.bool true) = true := by kernel_rfl
theorem Tryz.expressForms_c2 (a : Int) : endsIn lf6.res (exec expressFormsEnv 100000 expressFormsC (tset (expressFormsT a) 4 (.int .i64 2)) expressFormsS) (.bool true) = true := by kernel_rfl
theorem Tryz.expressForms_c3 (a : Int) : endsIn lf6.res (exec expressFormsEnv 100000 expressFormsC (tset (expressFormsT a) 4 (.int .i64 3)) expressFormsS) (.bool true) = true := by kernel_rfl
theorem Tryz.expressForms_c4 (a : Int) : endsIn lf6.res (exec expressFormsEnv 100000 expressFormsC (tset (expressFormsT a) 4 (.int .i64 4)) expressFormsS) (.bool true) = true := by kernel_rfl
theorem Tryz.expressForms_c5 (a : Int) : endsIn lf6.res (exec expressFormsEnv 100000 expressFormsC (tset (expressFormsT a) 4 (.int .i64 5)) expressFormsS) (.bool true) = true := by kernel_rfl
theorem Tryz.expressForms_c6 (a : Int) : endsIn lf6.res (exec expressFormsEnv 100000 expressFormsC (tset (expressFormsT a) 4 (.int .i64 6)) expressFormsS) (.bool true) = true := by kernel_rfl
theorem Tryz.expressForms_c7 (a : Int) : endsIn lf6.res (exec expressFormsEnv 100000 expressFormsC (tset (expressFormsT a) 4 (.int .i64 7)) expressFormsS) (.bool true) = true := by kernel_rfl
theorem Tryz.expressForms_c8 (a : Int) : endsIn lf6.res (exec expressFormsEnv 100000 expressFormsC (tset (expressFormsT a) 4 (.int .i64 8)) expressFormsS) (.bool true) = true := by kernel_rfl
theorem Tryz.expressForms_c9 (a : Int) : endsIn lf6.res (exec expressFormsEnv 100000 expressFormsC (tset (expressFormsT a) 4 (.int .i64 9)) expressFormsS) (.bool true) = true := by kernel_rfl
theorem Tryz.expressForms_c10 (a : Int) : endsIn lf6.res (exec expressFormsEnv 100000 expressFormsC (tset (expressFormsT a) 4 (.int .i64 10)) expressFormsS) (.bool true) = true := by kernel_rfl
theorem Tryz.expressForms_c11 (a : Int) : endsIn lf6.res (exec expressFormsEnv 100000 expressFormsC (tset (expressFormsT a) 4 (.int .i64 11)) expressFormsS) (.bool true) = true := by kernel_rfl
theorem Tryz.expressForms_c12 (a : Int) : endsIn lf6.res (exec expressFormsEnv 100000 expressFormsC (tset (expressFormsT a) 4 (.int .i64 12)) expressFormsS) (.bool true) = true := by kernel_rfl
theorem Tryz.expressForms_c13 (a : Int) : endsIn lf6.res (exec expressFormsEnv 100000 expressFormsC (tset (expressFormsT a) 4 (.int .i64 13)) expressFormsS) (.bool true) = true := by kernel_rfl
theorem Tryz.expressForms_c14 (a : Int) : endsIn lf6.res (exec expressFormsEnv 100000 expressFormsC (tset (expressFormsT a) 4 (.int .i64 14)) expressFormsS) (.bool true) = true := by kernel_rfl
theorem Tryz.expressForms_c15 (a : Int) : endsIn lf6.res (exec expressFormsEnv 100000 expressFormsC (tset (expressFormsT a) 4 (.int .i64 15)) expressFormsS) (.bool true) = true := by kernel_rfl
theorem Tryz.expressForms_c16 (a : Int) : endsIn lf6.res (exec expressFormsEnv 100000 expressFormsC (tset (expressFormsT a) 4 (.int .i64 16)) expressFormsS) (.bool true) = true := by kernel_rfl
theorem Tryz.expressForms_c17 (a : Int) : endsIn lf6.res (exec expressFormsEnv 100000 expressFormsC (tset (expressFormsT a) 4 (.int .i64 17)) expressFormsS) (.bool true) = true := by kernel_rfl
theorem Tryz.expressForms_c18 (a : Int) : endsIn lf6.res (exec expressFormsEnv 100000 expressFormsC (tset (expressFormsT a) 4 (.int .i64 18)) expressFormsS) (.bool true) = true := by kernel_rfl
theorem Tryz.expressForms_c19 (a : Int) : endsIn lf6.res (exec expressFormsEnv 100000 expressFormsC (tset (expressFormsT a) 4 (.int .i64 19)) expressFormsS) (.bool true) = true := by kernel_rfl
theorem Tryz.expressForms_c20 (a : Int) : endsIn lf6.res (exec expressFormsEnv 100000 expressFormsC (tset (expressFormsT a) 4 (.int .i64 20)) expressFormsS) (.bool true) = true := by kernel_rfl
theorem Tryz.expressForms_c21 (a : Int) : endsIn lf6.res (exec expressFormsEnv 100000 expressFormsC (tset (expressFormsT a) 4 (.int .i64 21)) expressFormsS) (.bool true) = true := by kernel_rfl
theorem Tryz.expressForms_c22 (a : Int) : endsIn lf6.res (exec expressFormsEnv 100000 expressFormsC (tset (expressFormsT a) 4 (.int .i64 22)) expressFormsS) (.bool true) = true := by kernel_rfl
theorem Tryz.expressForms_c23 (a : Int) : endsIn lf6.res (exec expressFormsEnv 100000 expressFormsC (tset (expressFormsT a) 4 (.int .i64 23)) expressFormsS) (.bool true) = true := by kernel_rfl
theorem Tryz.expressForms_c24 (a : Int) : endsIn lf6.res (exec expressFormsEnv 100000 expressFormsC (tset (expressFormsT a) 4 (.int .i64 24)) expressFormsS) (.bool true) = true := by kernel_rfl
end Go.Proofs.YtmoihglcdmmmlaaGreatDoor
