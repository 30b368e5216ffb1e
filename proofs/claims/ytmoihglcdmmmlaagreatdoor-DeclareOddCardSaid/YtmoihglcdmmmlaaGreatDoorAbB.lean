/-
  What is asked of the program.
-/
import Derived.Test.YtmoihglcdmmmlaaGreatDoorChecked
import Derived.Test.YtmoihglcdmmmlaaGreatDoorAb20
import Derived.Test.YtmoihglcdmmmlaaGreatDoorAbL3
import Derived.KernelRfl
set_option maxRecDepth 100000
namespace Go.Proofs.YtmoihglcdmmmlaaGreatDoor
open Go

def u8s (l : List Nat) : List AV := mapU8 l

/-- strings.asciiSpace. -/
def asciiA : List AV := u8s ((List.replicate 9 0) ++ ([1,1,1,1,1] ++ ((List.replicate 18 0) ++ (1 :: List.replicate 223 0))))

def glA : Nat → Option (List AV) := fun g => bif Nat.beq g 0 then some asciiA else none

theorem Tryz.fnsOk : trAll (fun f lf => okF Tryz.prog glA lf f) fnT id = true := by kernel_rfl

theorem Tryz.base : Base Tryz.prog fnT glA 191 where
  mixed := by kernel_rfl
  fns := Tryz.fnsOk
  gf := by
    intro g cs h
    unfold glA at h
    cases hb : Nat.beq g 0 with
    | true => simp only [hb, cond_true, Option.some.injEq] at h; subst h; kernel_rfl
    | false => simp [hb] at h
  esc := ⟨_, rfl, by kernel_rfl, by kernel_rfl, by kernel_rfl, by kernel_rfl⟩

end Go.Proofs.YtmoihglcdmmmlaaGreatDoor
