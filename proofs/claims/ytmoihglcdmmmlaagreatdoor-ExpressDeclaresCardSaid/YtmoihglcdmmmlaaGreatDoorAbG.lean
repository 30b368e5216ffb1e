/-
  A law of one number, of which the rest by a constant counts: steps of the executor, one after the other.
-/
import Derived.Test.YtmoihglcdmmmlaaGreatDoorAbB
import Derived.Test.YtmoihglcdmmmlaaGreatDoorAb21
import Derived.Test.YtmoihglcdmmmlaaGreatDoorAb23
namespace Go.Proofs.YtmoihglcdmmmlaaGreatDoor
open Go

/-- No calls in it. -/
def ih0 : LC → Tm → St → R := fun _ _ _ => .no

theorem ih0_le (ih : LC → Tm → St → R) : IhLe ih0 ih := fun _ _ _ _ _ _ h => by cases h

/-- Behind a region that calls nothing. -/
theorem Ev.reg {E : Env} {ops : List LS} {c : LC} {t t' : Tm} {s s' : St} {Q : Ex → Tm → St → Prop} (h : opsA E ih0 ops t s = .ok .nrm t' s') (k : Ev E c t' s' Q) : Ev E (.seq (.reg ops) c) t s Q := by
  obtain ⟨e, t1, s1, h1, h2⟩ := k
  refine ⟨e, t1, s1, .succ (.succ (h1.mono fun j hj => ?_)), h2⟩
  rw [exec_succ]
  simp only [execS]
  rw [show exec E (j + 1) (.reg ops) t s = .ok .nrm t' s' from opsA_mono (ih0_le _) h]
  exact exec_step _ _ _ _ _ _ _ hj

/-- The end of a function's code. -/
def endQ (res : List LR) (Q : AV → St → Prop) (e : Ex) (t : Tm) (s : St) : Prop :=
  match e with
  | .nrm => okv (resv t s res) Q
  | .ret => okv (resv t s res) Q
  | _ => False

theorem EvC.ev {E : Env} {f : FuncId} {lf : LF} {xs : List AV} {s : St} {Q : AV → St → Prop} (hi : E.it f = none) (hf : E.fn f = some lf) (hn : Nat.ble xs.length lf.np = true)
    (h : Ev E lf.code (xs ++ List.replicate (lf.n - xs.length) undefA) s (endQ lf.res Q)) : EvC E f xs s Q := by
  obtain ⟨e, t1, s1, h1, h2⟩ := h
  cases e with
  | nrm =>
    obtain ⟨v, s2, h3, h4⟩ := okv_ex h2
    exact ⟨v, s2, h1.mono fun k p => by simp only [callA, hi, hf, hn, cond_true, p]; exact h3, h4⟩
  | ret =>
    obtain ⟨v, s2, h3, h4⟩ := okv_ex h2
    exact ⟨v, s2, h1.mono fun k p => by simp only [callA, hi, hf, hn, cond_true, p]; exact h3, h4⟩
  | exit i => exact h2.elim
  | goto l => exact h2.elim

/-- Does the code come to its function's end, with this result? -/
noncomputable def endsIn (res : List LR) (r : R) (v : AV) : Bool :=
  match r with
  | .ok .nrm t s => comes (resv t s res) v
  | .ok .ret t s => comes (resv t s res) v
  | _ => false

theorem Ev.ends {E : Env} {c : LC} {t : Tm} {s : St} {res : List LR} {v : AV} (k : Nat) (h : endsIn res (exec E k c t s) v = true) : Ev E c t s (endQ res fun u _ => u = v) := by
  unfold endsIn at h
  have fin : ∀ {r : Rv}, comes r v = true → okv r fun u _ => u = v := by
    intro r hr
    unfold comes at hr
    split at hr
    · exact AV.beq_eq hr
    · cases hr
  split at h
  · rename_i t1 s1 hx; exact Ev.of_run k hx (fin h)
  · rename_i t1 s1 hx; exact Ev.of_run k hx (fin h)
  · cases h

/-- What stands behind the first part. -/
def LC.snd' : LC → LC
  | .seq _ b => b
  | c => c

/-- The rest by n, from 0 on. -/
theorem rest_lt (a n : Int) (h0 : 0 < n) (h1 : n < 1000000) : 0 ≤ (wrapI .i64 (a.tmod n + n)).tmod n ∧ (wrapI .i64 (a.tmod n + n)).tmod n < n := by
  have h2 : -n < a.tmod n := by have := Int.lt_tmod_of_pos a h0; omega
  have h3 : a.tmod n < n := Int.tmod_lt_of_pos a h0
  rw [wrapI_eq, IntKind.wrap_i64]
  have h4 : (a.tmod n + n + 9223372036854775808) % 18446744073709551616 - 9223372036854775808 = a.tmod n + n := by omega
  first
    | (rw [h4]; exact ⟨Int.tmod_nonneg _ (by omega), Int.tmod_lt_of_pos _ h0⟩)
    | skip

end Go.Proofs.YtmoihglcdmmmlaaGreatDoor
