/-
  From a known call to a call of the program, as the rows say it.
-/
import Derived.Test.YtmoihglcdmmmlaaGreatDoorAb20
set_option linter.unusedSimpArgs false
set_option linter.unusedVariables false
namespace Go.Proofs.YtmoihglcdmmmlaaGreatDoor
open Go Go.RowKit

section
variable {P : Program} {G : Nat → Option (List AV)} {w0 : World} {M : Mem} {s : St} {w : World}

theorem calls_of_fin {f : FuncId} {fn : Func} {args : Array Value} {v : AV} {s' : St} (hf : P.funcs[f]? = some fn) (hb : fn.body.isSome = true) (hn : (fn.name == "runtime.NumGoroutine") = false)
    (h : Fin P G w0 M s f args w v s') : Calls P f args w fun
      | .returned v', w' => ∃ M', Ext M s M' s' ∧ W G w0 M' s' w' ∧ CR M' [v] [v']
      | _, _ => False := by
  have hcf : (callFunc f args).run P w = .ok (.enter f args) w := by
    have h1 : ¬ fn.name = "runtime.NumGoroutine" := by simpa using hn
    cases hbd : fn.body with
    | none => simp [hbd] at hb
    | some c => simp [callFunc, hf, hbd, h1]
  have := h { dst := some 0, op := .pick (.tmp 0) (.tmp 0) (.tmp 0), type := 0, pos := "", after := #[], guard := none } { tmps := #[undef], defers := [] }
    (fun a' w' => ∃ M' v', a'.tmps[0]? = some v' ∧ Ext M s M' s' ∧ W G w0 M' s' w' ∧ CR M' [v] [v']) (fun _ _ _ => False)
    (fun M' v' w' h1 h2 h3 => ⟨M', v', by simp [Act.put], h1, h2, h3⟩)
  rw [hcf, Oper.upon_enter] at this
  refine this.mono fun e w' he => ?_
  cases e with
  | returned v' =>
    obtain ⟨M', v2, h0, h1, h2, h3⟩ := he
    have : v2 = v' := by simp [Act.put] at h0; exact h0.symm
    subst this
    exact ⟨M', h1, h2, h3⟩
  | panicked c => exact he.elim
  | outgrown => obtain ⟨_, _, h⟩ := he; exact h.elim

/-- The tables' cells, as a world has them. -/
def Mem.tables (F : Nat → Nat → Option Value) : Mem := { φ := fun _ => none, F := F, H := fun _ _ => none, Z := fun _ => none }

/-- A world in which the tables hold what they hold. -/
theorem W.start (w : World) {F : Nat → Nat → Option Value} (hF : ∀ B o v, F B o = some v → w.cell? ⟨B, o, none⟩ = some v)
    (hG : ∀ g cs, G g = some cs → ∃ us, (∀ i v, us[i]? = some v → F g i = some v) ∧ CR (Mem.tables F) cs us) : W G w (Mem.tables F) St.nil w := by
  have hget : ∀ {α : Type} (k : Nat), (Tr.lf : Tr α).get k = none := fun k => by cases k <;> rfl
  refine ⟨Below.refl _ w, fun g cs hg => ?_, hF, fun b B hb => by simp [Mem.tables] at hb, fun b b' B hb => by simp [Mem.tables] at hb, Nat.one_pos, fun t n B cap e hH => by simp [Mem.tables] at hH, fun t _ => ⟨rfl, fun _ => rfl⟩,
    fun t k hk => by simp [St.nil, hget] at hk, fun t n sz e hk => by simp [St.nil, hget] at hk, fun t sz e els hk => by simp [St.nil, hget] at hk, ?_, fun b T hb => by simp [St.nil, hget] at hb⟩
  · obtain ⟨us, h1, h2⟩ := hG g cs hg
    have := CR.eptr (M := Mem.tables F) (o := 0) (B := g) (O := 0) (fun i v hv => by rw [Nat.zero_add]; exact h1 i v hv) h2 (.nil)
    simpa using this
  · intro t t' B ho
    rcases ho with ⟨_, _, _, _, _, k1, _⟩ | ⟨_, _, _, _, _, k1, _⟩
    · simp [St.nil, hget] at k1
    · simp [St.nil, hget] at k1
end

end Go.Proofs.YtmoihglcdmmmlaaGreatDoor
