/-
  DeclareOdd: the run of each case, by the kernel (printed by wip/caselaw.py).
-/
import Derived.Test.YtmoihglcdmmmlaaGreatDoorAbJ13x0
import Derived.Test.YtmoihglcdmmmlaaGreatDoorAbJ13x1
import Derived.Test.YtmoihglcdmmmlaaGreatDoorAbJ13x2
set_option maxRecDepth 100000
namespace Go.Proofs.YtmoihglcdmmmlaaGreatDoor
open Go
theorem Tryz.declareOdd_run (a : Int) : EvC declareOddEnv 13 [.int .i64 a] St.nil (fun v _ => v = .bool true) := by
  refine EvC.ev (lf := lf13) rfl rfl rfl ?_
  refine Ev.reg (h := rfl) ?_
  refine Ev.reg (h := rfl) ?_
  refine Ev.reg (t' := declareOddT a) (s' := declareOddS) (h := rfl) ?_
  obtain ⟨h0, h1⟩ := rest_lt a 20 (by decide) (by decide)
  generalize hx : (wrapI .i64 (a.tmod 20 + 20)).tmod 20 = x at h0 h1
  refine Ev.reg (t' := tset (declareOddT a) 4 (.int .i64 x)) (s' := declareOddS) (by rw [← hx]; rfl) ?_
  have hc : x = 0 ∨ x = 1 ∨ x = 2 ∨ x = 3 ∨ x = 4 ∨ x = 5 ∨ x = 6 ∨ x = 7 ∨ x = 8 ∨ x = 9 ∨ x = 10 ∨ x = 11 ∨ x = 12 ∨ x = 13 ∨ x = 14 ∨ x = 15 ∨ x = 16 ∨ x = 17 ∨ x = 18 ∨ x = 19 := by omega
  rcases hc with rfl | rfl | rfl | rfl | rfl | rfl | rfl | rfl | rfl | rfl | rfl | rfl | rfl | rfl | rfl | rfl | rfl | rfl | rfl | rfl
  · exact Ev.ends 100000 (Tryz.declareOdd_c0 a)
  · exact Ev.ends 100000 (Tryz.declareOdd_c1 a)
  · exact Ev.ends 100000 (Tryz.declareOdd_c2 a)
  · exact Ev.ends 100000 (Tryz.declareOdd_c3 a)
  · exact Ev.ends 100000 (Tryz.declareOdd_c4 a)
  · exact Ev.ends 100000 (Tryz.declareOdd_c5 a)
  · exact Ev.ends 100000 (Tryz.declareOdd_c6 a)
  · exact Ev.ends 100000 (Tryz.declareOdd_c7 a)
  · exact Ev.ends 100000 (Tryz.declareOdd_c8 a)
  · exact Ev.ends 100000 (Tryz.declareOdd_c9 a)
  · exact Ev.ends 100000 (Tryz.declareOdd_c10 a)
  · exact Ev.ends 100000 (Tryz.declareOdd_c11 a)
  · exact Ev.ends 100000 (Tryz.declareOdd_c12 a)
  · exact Ev.ends 100000 (Tryz.declareOdd_c13 a)
  · exact Ev.ends 100000 (Tryz.declareOdd_c14 a)
  · exact Ev.ends 100000 (Tryz.declareOdd_c15 a)
  · exact Ev.ends 100000 (Tryz.declareOdd_c16 a)
  · exact Ev.ends 100000 (Tryz.declareOdd_c17 a)
  · exact Ev.ends 100000 (Tryz.declareOdd_c18 a)
  · exact Ev.ends 100000 (Tryz.declareOdd_c19 a)

theorem Tryz.declareOdd_fin (a : Int) (w0 w : World) (M : Mem) (args : Array Value) (hw : W glA w0 M St.nil w) (hx : CR M [.int .i64 a] args.toList) : ∃ s', Fin Tryz.prog glA w0 M St.nil 13 args w (.bool true) s' := by
  obtain ⟨k, v, s', h1, rfl⟩ := (Tryz.declareOdd_run a).run
  exact ⟨s', Tryz.base.runOk Tryz.declareOddFacts_ok Tryz.env0_ok w0 k 13 _ _ _ _ _ _ _ h1 hw hx⟩
end Go.Proofs.YtmoihglcdmmmlaaGreatDoor
