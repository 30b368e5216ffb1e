/-
  Closed facts of the program that each row asks.
-/
import Derived.Test.YtmoihglcdmmmlaaGreatDoorRows
import Derived.Test.YtmoihglcdmmmlaaGreatDoorTie
import Derived.ProofKit
import Derived.JoinedOf
import Derived.SevenTiedAt
set_option maxRecDepth 100000
namespace Go.Proofs.YtmoihglcdmmmlaaGreatDoor
open Go
theorem and_mk {a b : Bool} (h : a = true) (k : b = true) : (a && b) = true := by rw [h, k]; rfl
theorem Tryz.s_laidOut : laidOutB Tryz.prog = true := by kernel_rfl
theorem Tryz.s_mapsRowed : mapsRowed Tryz.prog = true := by kernel_rfl
theorem Tryz.s_stopsHeard : Tryz.prog.stopsHeard = true := by kernel_rfl
theorem Tryz.s_mayEnter : Tryz.prog.mayEnter = true := by kernel_rfl
theorem Tryz.s_main : Tryz.pinned.checked.prog.mainIs = some (true, ("6abe43545066b86bec9e84dc82df264985506e715363bbb6df4da7a8be078729" : String).toList) := by kernel_rfl
theorem Tryz.s_looks : false = Tryz.prog.looks [] := by kernel_rfl
theorem Tryz.s_stand3 : Tryz.prog.wantsStandIn 3 = false := by kernel_rfl
theorem Tryz.s_stand4 : Tryz.prog.wantsStandIn 4 = false := by kernel_rfl
end Go.Proofs.YtmoihglcdmmmlaaGreatDoor
