/-
  DeclareForms: the run of each case, by the kernel (printed by wip/caselaw.py).
-/
import Derived.Test.YtmoihglcdmmmlaaGreatDoorAbJ10x0
set_option maxRecDepth 100000
namespace Go.Proofs.YtmoihglcdmmmlaaGreatDoor
open Go
theorem Tryz.declareForms_run (a : Int) : EvC declareFormsEnv 10 [.int .i64 a] St.nil (fun v _ => v = .bool true) := by
  refine EvC.ev (lf := lf10) rfl rfl rfl ?_
  refine Ev.reg (h := rfl) ?_
  refine Ev.reg (h := rfl) ?_
  refine Ev.reg (t' := declareFormsT a) (s' := declareFormsS) (h := by kernel_rfl) ?_
  obtain ⟨h0, h1⟩ := rest_lt a 25 (by decide) (by decide)
  generalize hx : (wrapI .i64 (a.tmod 25 + 25)).tmod 25 = x at h0 h1
  refine Ev.reg (t' := tset (declareFormsT a) 4 (.int .i64 x)) (s' := declareFormsS) (by rw [← hx]; kernel_rfl) ?_
  have hc : x = 0 ∨ x = 1 ∨ x = 2 ∨ x = 3 ∨ x = 4 ∨ x = 5 ∨ x = 6 ∨ x = 7 ∨ x = 8 ∨ x = 9 ∨ x = 10 ∨ x = 11 ∨ x = 12 ∨ x = 13 ∨ x = 14 ∨ x = 15 ∨ x = 16 ∨ x = 17 ∨ x = 18 ∨ x = 19 ∨ x = 20 ∨ x = 21 ∨ x = 22 ∨ x = 23 ∨ x = 24 := by omega
  rcases hc with rfl | rfl | rfl | rfl | rfl | rfl | rfl | rfl | rfl | rfl | rfl | rfl | rfl | rfl | rfl | rfl | rfl | rfl | rfl | rfl | rfl | rfl | rfl | rfl | rfl
  · exact Ev.ends 100000 (Tryz.declareForms_c0 a)
  · exact Ev.ends 100000 (Tryz.declareForms_c1 a)
  · exact Ev.ends 100000 (Tryz.declareForms_c2 a)
  · exact Ev.ends 100000 (Tryz.declareForms_c3 a)
  · exact Ev.ends 100000 (Tryz.declareForms_c4 a)
  · exact Ev.ends 100000 (Tryz.declareForms_c5 a)
  · exact Ev.ends 100000 (Tryz.declareForms_c6 a)
  · exact Ev.ends 100000 (Tryz.declareForms_c7 a)
  · exact Ev.ends 100000 (Tryz.declareForms_c8 a)
  · exact Ev.ends 100000 (Tryz.declareForms_c9 a)
  · exact Ev.ends 100000 (Tryz.declareForms_c10 a)
  · exact Ev.ends 100000 (Tryz.declareForms_c11 a)
  · exact Ev.ends 100000 (Tryz.declareForms_c12 a)
  · exact Ev.ends 100000 (Tryz.declareForms_c13 a)
  · exact Ev.ends 100000 (Tryz.declareForms_c14 a)
  · exact Ev.ends 100000 (Tryz.declareForms_c15 a)
  · exact Ev.ends 100000 (Tryz.declareForms_c16 a)
  · exact Ev.ends 100000 (Tryz.declareForms_c17 a)
  · exact Ev.ends 100000 (Tryz.declareForms_c18 a)
  · exact Ev.ends 100000 (Tryz.declareForms_c19 a)
  · exact Ev.ends 100000 (Tryz.declareForms_c20 a)
  · exact Ev.ends 100000 (Tryz.declareForms_c21 a)
  · exact Ev.ends 100000 (Tryz.declareForms_c22 a)
  · exact Ev.ends 100000 (Tryz.declareForms_c23 a)
  · exact Ev.ends 100000 (Tryz.declareForms_c24 a)

theorem Tryz.declareForms_fin (a : Int) (w0 w : World) (M : Mem) (args : Array Value) (hw : W glA w0 M St.nil w) (hx : CR M [.int .i64 a] args.toList) : ∃ s', Fin Tryz.prog glA w0 M St.nil 10 args w (.bool true) s' := by
  obtain ⟨k, v, s', h1, rfl⟩ := (Tryz.declareForms_run a).run
  exact ⟨s', Tryz.base.runOk Tryz.declareFormsFacts_ok Tryz.env1_ok w0 k 10 _ _ _ _ _ _ _ h1 hw hx⟩
end Go.Proofs.YtmoihglcdmmmlaaGreatDoor
