/-
  With more steps a run comes to the same.
-/
import Derived.Test.YtmoihglcdmmmlaaGreatDoorAb22
set_option linter.unusedSimpArgs false
set_option linter.unusedVariables false
namespace Go.Proofs.YtmoihglcdmmmlaaGreatDoor
open Go

def IhLe (ih ih' : LC → Tm → St → R) : Prop := ∀ c t s e t' s', ih c t s = .ok e t' s' → ih' c t s = .ok e t' s'

section
variable {E : Env} {ih ih' : LC → Tm → St → R}

theorem callA_mono (hi : IhLe ih ih') {f : FuncId} {as : List AV} {s s' : St} {v : AV} (h : callA E ih f as s = .ok v s') : callA E ih' f as s = .ok v s' := by
  unfold callA at h ⊢
  split at h
  · exact h
  · split at h
    · exact h
    · rename_i lf hlf
      cases hb : Nat.ble as.length lf.np with
      | false => simp [hb] at h
      | true =>
        simp only [hb, cond_true] at h ⊢
        split at h
        · rename_i t s1 hx; rw [hi _ _ _ _ _ _ hx]; exact h
        · rename_i t s1 hx; rw [hi _ _ _ _ _ _ hx]; exact h
        · cases h

theorem apK_mono (hi : IhLe ih ih') {f : K} {xs : List AV} {s s' : St} {v : AV} (h : apK E ih f xs s = .ok v s') : apK E ih' f xs s = .ok v s' := by
  cases f with
  | call f => exact callA_mono hi h
  | callv =>
    simp only [apK] at h ⊢
    split at h
    · exact callA_mono hi h
    · cases h
  | _ => exact h

theorem bnd_inv {r : Rv} {f : AV → St → Rv} {v : AV} {s' : St} (h : bnd r f = .ok v s') : ∃ u s1, r = .ok u s1 ∧ f u s1 = .ok v s' := by
  cases r with
  | no => cases h
  | ok u s1 => exact ⟨u, s1, rfl, h⟩

theorem evX_mono (hi : IhLe ih ih') {t : Tm} : ∀ {x : X} {s s' : St} {v : AV}, evX E ih t x s = .ok v s' → evX E ih' t x s = .ok v s'
  | .od o, s, s', v, h => h
  | .u d f x, s, s', v, h => by
    rw [evX_u] at h ⊢
    obtain ⟨u, s1, h1, h2⟩ := bnd_inv h
    rw [evX_mono hi h1]; exact h2
  | .b d sw f x y, s, s', v, h => by
    cases sw with
    | true =>
      rw [evX_bs] at h ⊢
      obtain ⟨u, s1, h1, h2⟩ := bnd_inv h
      obtain ⟨u', s2, h3, h4⟩ := bnd_inv h2
      rw [evX_mono hi h1]; simp only [bnd]; rw [evX_mono hi h3]; exact h4
    | false =>
      rw [evX_b] at h ⊢
      obtain ⟨u, s1, h1, h2⟩ := bnd_inv h
      obtain ⟨u', s2, h3, h4⟩ := bnd_inv h2
      rw [evX_mono hi h1]; simp only [bnd]; rw [evX_mono hi h3]; exact h4
  | .k d f x, s, s', v, h => by
    rw [evX_k] at h ⊢
    obtain ⟨u, s1, h1, h2⟩ := bnd_inv h
    rw [evX_mono hi h1]
    simp only [bnd]
    unfold apKt at h2 ⊢
    split at h2
    · exact apK_mono hi h2
    · cases h2
  | .nil, s, s', v, h => h
  | .cons x y, s, s', v, h => by
    rw [evX_cons] at h ⊢
    obtain ⟨u, s1, h1, h2⟩ := bnd_inv h
    obtain ⟨u', s2, h3, h4⟩ := bnd_inv h2
    rw [evX_mono hi h1]; simp only [bnd]; rw [evX_mono hi h3]; exact h4
  | .a d z e, s, s', v, h => h
  | .gd d w df c b, s, s', v, h => by
    rw [evX_gd] at h ⊢
    obtain ⟨u, s1, h1, h2⟩ := bnd_inv h
    rw [evX_mono hi h1]
    simp only [bnd]
    unfold gdA at h2 ⊢
    split at h2
    · rename_i c'
      cases hb : (c' == w) with
      | true => simp only [hb, cond_true] at h2 ⊢; exact evX_mono hi h2
      | false => simp only [hb, cond_false] at h2 ⊢; exact h2
    · cases h2

theorem opsA_mono (hi : IhLe ih ih') : ∀ {l : List LS} {t t' : Tm} {s s' : St} {e : Ex}, opsA E ih l t s = .ok e t' s' → opsA E ih' l t s = .ok e t' s'
  | [], t, t', s, s', e, h => h
  | o :: os, t, t', s, s', e, h => by
    rw [opsA_cons] at h ⊢
    unfold stmA at h ⊢
    cases hw : wantedA t o.g with
    | true =>
      simp only [hw, cond_true] at h ⊢
      split at h
      · rename_i v s1 hx; rw [evX_mono hi hx]; exact opsA_mono hi h
      · cases h
    | false => simp only [hw, cond_false] at h ⊢; exact opsA_mono hi h

theorem chk1_mono (hi : IhLe ih ih') {c : Chk} : ∀ {ss : List St} {i : Nat}, chk1 E ih c ss i = true → chk1 E ih' c ss i = true
  | [], i, h => rfl
  | s :: ss, i, h => by
    simp only [chk1, Bool.and_eq_true] at h ⊢
    refine ⟨?_, chk1_mono hi h.2⟩
    have h1 := h.1
    cases hb : Nat.ble c.lo i && Nat.ble i c.hi with
    | false => rfl
    | true =>
      simp only [hb, cond_true] at h1 ⊢
      unfold rvEq at h1
      split at h1
      · rename_i x s1 hx; rw [evX_mono hi hx]; exact h1
      · cases h1

theorem chks_mono (hi : IhLe ih ih') {ss : List St} : ∀ {cs : List Chk}, chks E ih ss cs = true → chks E ih' ss cs = true
  | [], h => rfl
  | c :: cs, h => by
    simp only [chks, Bool.and_eq_true] at h ⊢
    exact ⟨chk1_mono hi h.1, chks_mono hi h.2⟩

theorem drawRun_mono (hi : IhLe ih ih') : ∀ {l : List DO} {nx : Nat} {t t' : Tm} {s s' : St} {ss : List St} {cs : List Chk} {e : Ex}, drawRun E ih l nx t s ss cs = .ok e t' s' → drawRun E ih' l nx t s ss cs = .ok e t' s'
  | [], nx, t, t', s, s', ss, cs, e, h => by
    unfold drawRun at h ⊢
    cases hc : chks E ih ss.reverse cs with
    | true => rw [chks_mono hi hc]; rw [hc] at h; exact h
    | false => simp [hc] at h
  | o :: os, nx, t, t', s, s', ss, cs, e, h => by
    unfold drawRun at h ⊢
    cases hk : o.k with
    | a => simp only [hk] at h ⊢; exact drawRun_mono hi h
    | p =>
      simp only [hk] at h ⊢
      cases hw : wantedA t o.o.g with
      | true =>
        simp only [hw, cond_true] at h ⊢
        split at h
        · rename_i v s1 hx; rw [evX_mono hi hx]; exact drawRun_mono hi h
        · cases h
      | false => simp only [hw, cond_false] at h ⊢; exact drawRun_mono hi h
    | l lo hi' =>
      simp only [hk] at h ⊢
      cases hw : wantedA t o.o.g with
      | true =>
        simp only [hw, cond_true] at h ⊢
        split at h
        · rename_i v s1 hx; rw [evX_mono hi hx]; exact drawRun_mono hi h
        · cases h
      | false => simp only [hw, cond_false] at h ⊢; exact drawRun_mono hi h
    | m =>
      simp only [hk] at h ⊢
      cases hw : wantedA t o.o.g with
      | true =>
        simp only [hw, cond_true] at h ⊢
        split at h
        · rename_i v s1 hx; rw [evX_mono hi hx]; exact drawRun_mono hi h
        · cases h
      | false => simp only [hw, cond_false] at h ⊢; exact drawRun_mono hi h

theorem execS_mono (hi : IhLe ih ih') : IhLe (execS E ih) (execS E ih') := by
  have hseq : ∀ {r : R} {k k' : Tm → St → R} {e t' s'}, execSeq r k = .ok e t' s' → (∀ t s, k t s = .ok e t' s' → k' t s = .ok e t' s') → execSeq r k' = .ok e t' s' := by
    intro r k k' e t' s' h hk
    unfold execSeq at h ⊢
    split at h
    · exact hk _ _ h
    · exact h
  intro c t s e t' s' h
  cases c with
  | seq a b =>
    simp only [execS] at h ⊢
    cases ha : ih a t s with
    | no => rw [ha] at h; cases h
    | ok e1 t1 s1 =>
      rw [hi _ _ _ _ _ _ ha]
      rw [ha] at h
      exact hseq h fun t s hk => hi _ _ _ _ _ _ hk
  | reg ops => exact opsA_mono hi h
  | cond c a b =>
    simp only [execS] at h ⊢
    unfold execCond at h ⊢
    split at h
    · exact hi _ _ _ _ _ _ h
    · exact hi _ _ _ _ _ _ h
    · cases h
  | drw l => exact drawRun_mono hi h
  | blk id c =>
    simp only [execS] at h ⊢
    cases ha : ih c t s with
    | no => rw [ha] at h; cases h
    | ok e1 t1 s1 => rw [hi _ _ _ _ _ _ ha]; rw [ha] at h; exact h
  | loop c =>
    simp only [execS] at h ⊢
    cases ha : ih c t s with
    | no => rw [ha] at h; cases h
    | ok e1 t1 s1 =>
      rw [hi _ _ _ _ _ _ ha]
      rw [ha] at h
      exact hseq h fun t s hk => hi _ _ _ _ _ _ hk
  | scope c => exact hi _ _ _ _ _ _ h
  | again c r =>
    simp only [execS] at h ⊢
    cases ha : ih r t s with
    | no => rw [ha] at h; cases h
    | ok e1 t1 s1 =>
      rw [hi _ _ _ _ _ _ ha]
      rw [ha] at h
      unfold execAgain at h ⊢
      split at h
      · split at h
        · exact hi _ _ _ _ _ _ h
        · exact h
      · exact h
  | _ => exact h
end

theorem exec_step {E : Env} : ∀ k, IhLe (exec E k) (exec E (k + 1))
  | 0 => fun c t s e t' s' h => by cases h
  | k + 1 => fun c t s e t' s' h => by
    rw [exec_succ] at h ⊢
    exact execS_mono (exec_step k) c t s e t' s' h

theorem exec_le {E : Env} {k j : Nat} (h : k ≤ j) : IhLe (exec E k) (exec E j) := by
  induction h with
  | refl => exact fun _ _ _ _ _ _ h => h
  | step _ ih => exact fun c t s e t' s' h => exec_step _ _ _ _ _ _ _ (ih _ _ _ _ _ _ h)

/-- By a run of so many steps. -/
theorem Ev.of_run {E : Env} {c : LC} {t t' : Tm} {s s' : St} {e : Ex} {Q : Ex → Tm → St → Prop} (k : Nat) (h : exec E k c t s = .ok e t' s') (hq : Q e t' s') : Ev E c t s Q :=
  ⟨e, t', s', ⟨k, fun j hj => exec_le hj _ _ _ _ _ _ h⟩, hq⟩

theorem EvC.of_run {E : Env} {f : FuncId} {as : List AV} {s s' : St} {v : AV} {Q : AV → St → Prop} (k : Nat) (h : runF E k f as s = .ok v s') (hq : Q v s') : EvC E f as s Q :=
  ⟨v, s', ⟨k, fun j hj => callA_mono (exec_le hj) h⟩, hq⟩

/-- By the kernel's own run: it comes to this value. -/
theorem EvC.of_comes {E : Env} {f : FuncId} {as : List AV} {s : St} {v : AV} (k : Nat) (h : comes (runF E k f as s) v = true) : EvC E f as s (fun u _ => u = v) := by
  unfold comes at h
  split at h
  · rename_i u s1 hr
    exact EvC.of_run k hr (AV.beq_eq h)
  · cases h

end Go.Proofs.YtmoihglcdmmmlaaGreatDoor
