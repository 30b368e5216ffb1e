/-
  Calls by what is known of kindOf.
-/
import Derived.Test.YtmoihglcdmmmlaaGreatDoorAbK
set_option maxRecDepth 100000
namespace Go.Proofs.YtmoihglcdmmmlaaGreatDoor
open Go
theorem Tryz.env1_ok : ∀ w0, CallsOk Tryz.prog glA w0 (runF env1 1000000) := fun w0 => Tryz.base.runOk Tryz.kfacts_ok Tryz.env0_ok w0 _
end Go.Proofs.YtmoihglcdmmmlaaGreatDoor
