/-
  The executor's surroundings: the printed functions, what is known by heart, internal/abi.NoEscape.
-/
import Derived.Test.YtmoihglcdmmmlaaGreatDoorAb19
import Derived.Laws.Externs
set_option linter.unusedSimpArgs false
set_option linter.unusedVariables false
namespace Go.Proofs.YtmoihglcdmmmlaaGreatDoor
open Go Go.RowKit

def trAll (p : Nat → LF → Bool) : Tr LF → (Nat → Nat) → Bool
  | .lf, _ => true
  | .nd v l r, κ => (match v with
    | some x => p (κ 0) x
    | none => true) && (trAll p l (fun k => κ (2 * k + 1)) && trAll p r (fun k => κ (2 * k + 2)))

theorem trAll_get {p : Nat → LF → Bool} : ∀ {t : Tr LF} {κ : Nat → Nat}, trAll p t κ = true → ∀ n x, t.get n = some x → p (κ n) x = true
  | .lf, κ, _, n, x, h => by cases n <;> simp [Tr.get] at h
  | .nd v l r, κ, ha, n, x, h => by
    simp only [trAll, Bool.and_eq_true] at ha
    obtain ⟨h1, h2, h3⟩ := ha
    cases n with
    | zero => simp only [Tr.get] at h; subst h; exact h1
    | succ n =>
      simp only [Tr.get] at h
      cases hb : Nat.beq (n % 2) 0 with
      | true =>
        have := Nat.eq_of_beq_eq_true hb
        simp only [hb, cond_true] at h
        have := trAll_get h2 (n / 2) x h
        rwa [show 2 * (n / 2) + 1 = n + 1 by omega] at this
      | false =>
        have : ¬ n % 2 = 0 := fun e => by rw [e] at hb; simp at hb
        simp only [hb, cond_false] at h
        have := trAll_get h3 (n / 2) x h
        rwa [show 2 * (n / 2) + 2 = n + 1 by omega] at this

/-- internal/abi.NoEscape: the pointer as it is. -/
def noEsc : List AV → St → Rv
  | [x], s => .ok x s
  | _, _ => .no

noncomputable def mkEnv (fn : Tr LF) (gl : Nat → Option (List AV)) (ne : Nat) (fs : List Nat) (F : Facts) (fb : FuncId → List AV → St → Rv) : Env where
  fn := fn.get
  it := fun f => bif Nat.beq f ne then some noEsc else bif memN f fs then some (factsIt F fb f) else none
  gl := gl

/-- What is asked of the program, once. -/
structure Base (P : Program) (fn : Tr LF) (gl : Nat → Option (List AV)) (ne : Nat) : Prop where
  mixed : P.follows .mixedOrders = true
  fns : trAll (fun f lf => okF P gl lf f) fn id = true
  gf : GFree gl
  esc : ∃ x, P.funcs[ne]? = some x ∧ (x.name == "runtime.NumGoroutine") = false ∧ x.body.isNone = true ∧ Extern.findNext x = none ∧ Extern.find x = some Extern.AbiNoEscape.same

section
variable {P : Program} {fn : Tr LF} {gl : Nat → Option (List AV)} {ne : Nat} {fs : List Nat} {F : Facts} {fb : FuncId → List AV → St → Rv}

theorem Base.itOk (hB : Base P fn gl ne) (hF : ∀ x ∈ F, FactOk P gl x) (hfb : ∀ w0, CallsOk P gl w0 fb) (w0 : World) : ItOk P (mkEnv fn gl ne fs F fb) w0 := by
  intro f g hg as s v s' M w args h hw hx
  simp only [mkEnv] at hg
  cases hb : Nat.beq f ne with
  | true =>
    have := Nat.eq_of_beq_eq_true hb
    subst this
    simp only [hb, cond_true, Option.some.injEq] at hg
    subst hg
    unfold noEsc at h
    split at h
    · cases h
      obtain ⟨x, h1, h2, h3, h4, h5⟩ := hB.esc
      obtain ⟨u, us, he, hu, hr⟩ := hx.uncons
      cases hr
      have hargs : args = #[u] := Array.ext' he
      subst hargs
      intro o a K Q hk
      rw [run_callFunc_extern h1 h2 h3 h4 h5, Go.Lib.run_noEscape]
      exact hk M u w (.refl M _) hw hu
    · cases h
  | false =>
    simp only [hb, cond_false] at hg
    cases hm : memN f fs with
    | false => simp [hm] at hg
    | true =>
      simp only [hm, cond_true, Option.some.injEq] at hg
      subst hg
      unfold factsIt at h
      split at h
      · rename_i u hl
        cases h
        exact hF _ (look_mem hl) w0 M _ w args hw hx
      · exact hfb w0 f as s v s' M w args h hw hx

theorem Base.fnOk (hB : Base P fn gl ne) : FnOk P (mkEnv fn gl ne fs F fb) := by
  intro f lf h
  exact trAll_get hB.fns f lf h

/-- A call of the program, by a run of the executor. -/
theorem Base.runOk (hB : Base P fn gl ne) (hF : ∀ x ∈ F, FactOk P gl x) (hfb : ∀ w0, CallsOk P gl w0 fb) (w0 : World) (k : Nat) : CallsOk P gl w0 (runF (mkEnv fn gl ne fs F fb) k) :=
  runF_ok (E := mkEnv fn gl ne fs F fb) hB.mixed (hB.itOk hF hfb w0) hB.fnOk k

/-- Does the run come to this? -/
def comes (r : Rv) (v : AV) : Bool :=
  match r with
  | .ok u _ => AV.beq u v
  | .no => false

theorem Base.fact (hB : Base P fn gl ne) (hF : ∀ x ∈ F, FactOk P gl x) (hfb : ∀ w0, CallsOk P gl w0 fb) {k : Nat} {f : FuncId} {as : List AV} {v : AV} (h : (AV.noMems as && (AV.noMem v && comes (runF (mkEnv fn gl ne fs F fb) k f as St.nil) v)) = true) :
    FactOk P gl (f, as, v) := by
  simp only [Bool.and_eq_true] at h
  exact fact_of_run (E := mkEnv fn gl ne fs F fb) hB.mixed (hB.itOk hF hfb) hB.fnOk hB.gf h.1 h.2.1 h.2.2
end

end Go.Proofs.YtmoihglcdmmmlaaGreatDoor
