/-
  The code of a function, and a call of it.
-/
import Derived.Test.YtmoihglcdmmmlaaGreatDoorAbE
set_option linter.unusedSimpArgs false
set_option linter.unusedVariables false
namespace Go.Proofs.YtmoihglcdmmmlaaGreatDoor
open Go Go.RowKit

def okC (P : Program) (G : Nat → Option (List AV)) (m : List Nat) (N : Nat) : LC → Code → Bool
  | .skip, .skip => true
  | .reg ls, .region _ ops false => okS P G m N ops ls ops.toList
  | .drw ls, .region _ ops true => okD P G m N ops ls
  | .seq a b, .seq c d => okC P G m N a c && okC P G m N b d
  | .cond o a b, .cond x c d => roOk G m (.o o) x && (okC P G m N a c && okC P G m N b d)
  | .blk i a, .block j c => Nat.beq i j && okC P G m N a c
  | .loop a, .loop c => okC P G m N a c
  | .exit i, .exit j => Nat.beq i j
  | .scope a, .scope c => okC P G m N a c
  | .label i, .label j => Nat.beq i j
  | .goto i, .goto j => Nat.beq i j
  | .ret, .ret => true
  | .stop, c => (match c with
    | .seq _ _ | .label _ => false
    | _ => true)
  | _, _ => false

def Ex.out : Ex → Exit
  | .nrm => .normal
  | .exit i => .exit i
  | .goto l => .goto l
  | .ret => .ret

theorem findL_ok {P : Program} {G : Nat → Option (List AV)} {m : List Nat} {N : Nat} : ∀ (lc : LC) (c : Code) (l : Nat), okC P G m N lc c = true →
    (findL lc l = none → findLabel c l = none) ∧ (∀ r, findL lc l = some r → ∃ r', findLabel c l = some r' ∧ okC P G m N r r' = true) := by
  intro lc
  induction lc with
  | seq a b iha ihb =>
    intro c l h
    cases c <;> simp only [okC, Bool.false_eq_true] at h
    rename_i c d
    simp only [Bool.and_eq_true] at h
    obtain ⟨a1, a2⟩ := iha c l h.1
    obtain ⟨b1, b2⟩ := ihb d l h.2
    constructor
    · intro hn
      simp only [findL] at hn
      split at hn
      · cases hn
      · rename_i ha
        simp only [findLabel, a1 ha]
        exact b1 hn
    · intro r hr
      simp only [findL] at hr
      split at hr
      · rename_i ra ha
        cases hr
        obtain ⟨r', h1, h2⟩ := a2 ra ha
        exact ⟨.seq r' d, by simp only [findLabel, h1], by simp only [okC, h2, h.2, Bool.and_self]⟩
      · rename_i ha
        obtain ⟨r', h1, h2⟩ := b2 r hr
        exact ⟨r', by simp only [findLabel, a1 ha, h1], h2⟩
  | label i =>
    intro c l h
    cases c <;> simp only [okC, Bool.false_eq_true] at h
    rename_i j
    have := Nat.eq_of_beq_eq_true h
    subst this
    simp only [findL, findLabel]
    cases hb : Nat.beq i l with
    | true =>
      have hil := Nat.eq_of_beq_eq_true hb
      simp [hil, okC]
    | false =>
      have : ¬ i = l := fun e => by subst e; simp at hb
      simp [this]
  | stop =>
    intro c l h
    constructor
    · intro _
      cases c <;> first | rfl | (simp [okC] at h; done)
    · intro r hr; simp [findL] at hr
  | _ =>
    intro c l h
    constructor
    · intro _
      cases c <;> first | rfl | (simp [okC] at h; done) | (rename_i o dr; cases dr <;> simp [okC] at h; done)
    · intro r hr; simp [findL] at hr

section
variable {P : Program} {a : Act} {w : World} {Q : Exit → Act → World → Prop}

/-- A loop's body, with the loop behind it. -/
def LoopWp (P : Program) (c : Code) (Q : Exit → Act → World → Prop) (a : Act) (w : World) : Prop :=
  ∀ b k cs, ∃ e a' w', Q e a' w' ∧ Arrives P (lone (b.at a (.code c :: .inLoop c :: k)) cs w) b k cs e a' w'

theorem LoopWp.wp {c : Code} (h : LoopWp P c Q a w) : (Code.loop c).wp P Q a w := by
  intro b k cs
  obtain ⟨e, a', w', hq, harr⟩ := h b k cs
  exact ⟨e, a', w', hq, .of_steps (.one step_loop) harr⟩

theorem LoopWp.of {c : Code} (h : c.wp P (Exit.then (LoopWp P c Q) Q) a w) : LoopWp P c Q a w := by
  intro b k cs
  obtain ⟨e, a₁, w₁, hq, harr⟩ := h b (.inLoop c :: k) cs
  cases e with
  | normal =>
    obtain ⟨e₂, a₂, w₂, hq₂, harr₂⟩ := hq b k cs
    exact ⟨e₂, a₂, w₂, hq₂, .of_steps (Steps.trans harr (.one step_inLoop)) harr₂⟩
  | exit id => exact ⟨_, a₁, w₁, hq, .pass (x := .inLoop c) rfl (fun _ _ => .inl (by simp)) harr⟩
  | goto l => exact ⟨_, a₁, w₁, hq, .pass (x := .inLoop c) rfl (fun _ _ => .inl (by simp)) harr⟩
  | ret => exact ⟨_, a₁, w₁, hq, .pass (x := .inLoop c) rfl (fun _ _ => .inl (by simp)) harr⟩
  | panic ch => exact ⟨_, a₁, w₁, hq, .pass (x := .inLoop c) rfl (fun _ _ => .inl (by simp)) harr⟩
  | outgrown => exact ⟨_, a₁, w₁, hq, .pass (x := .inLoop c) rfl (fun _ _ => .inl (by simp)) harr⟩

/-- What is left of a scope. -/
def AgainWp (P : Program) (c r : Code) (Q : Exit → Act → World → Prop) (a : Act) (w : World) : Prop :=
  ∀ b k cs, ∃ e a' w', Q e a' w' ∧ Arrives P (lone (b.at a (.code r :: .inScope c :: k)) cs w) b k cs e a' w'

theorem AgainWp.scope {c : Code} (h : AgainWp P c c Q a w) : (Code.scope c).wp P Q a w := by
  intro b k cs
  obtain ⟨e, a', w', hq, harr⟩ := h b k cs
  exact ⟨e, a', w', hq, .of_steps (.one step_scope) harr⟩

def Exit.againQ (P : Program) (c : Code) (Q : Exit → Act → World → Prop) : Exit → Act → World → Prop
  | .goto l, a, w => (match findLabel c l with
    | some r => AgainWp P c r Q a w
    | none => Q (.goto l) a w)
  | e, a, w => Q e a w

theorem AgainWp.of {c r : Code} (h : r.wp P (Exit.againQ P c Q) a w) : AgainWp P c r Q a w := by
  intro b k cs
  obtain ⟨e, a₁, w₁, hq, harr⟩ := h b (.inScope c :: k) cs
  cases e with
  | normal => exact ⟨.normal, a₁, w₁, hq, Steps.trans harr (.one step_inScope)⟩
  | exit id => exact ⟨.exit id, a₁, w₁, hq, fun k' hk => harr k' (by simp [exitTo, hk])⟩
  | goto l =>
    simp only [Exit.againQ] at hq
    cases hf : findLabel c l with
    | some r2 =>
      simp only [hf] at hq
      have hg : gotoIn l (.inScope c :: k) = some (.code r2 :: .inScope c :: k) := by simp [gotoIn, hf]
      obtain ⟨e₂, a₂, w₂, hq₂, harr₂⟩ := hq b k cs
      exact ⟨e₂, a₂, w₂, hq₂, .of_steps (harr _ hg) harr₂⟩
    | none =>
      simp only [hf] at hq
      exact ⟨.goto l, a₁, w₁, hq, fun k' hk => harr k' (by simp [gotoIn, hf, hk])⟩
  | ret => exact ⟨_, a₁, w₁, hq, harr⟩
  | panic ch => exact ⟨_, a₁, w₁, hq, harr⟩
  | outgrown => exact ⟨_, a₁, w₁, hq, harr⟩
end

-- ---------------------------------------------------------------- the code
structure CodeOk (P : Program) (E : Env) (w0 : World) (m : List Nat) (N : Nat) (lc : LC) (a : Act) (w : World) (Q : Exit → Act → World → Prop) : Prop where
  code : ∀ c, okC P E.gl m N lc c = true → c.wp P Q a w
  loop : ∀ l c, lc = .loop l → okC P E.gl m N l c = true → LoopWp P c Q a w
  again : ∀ l r c c', lc = .again l r → okC P E.gl m N l c = true → okC P E.gl m N r c' = true → AgainWp P c c' Q a w

def ExecOk (P : Program) (E : Env) (w0 : World) (k : Nat) : Prop :=
  ∀ m N, nodupN m = true → ∀ lc t s e t' s', exec E k lc t s = .ok e t' s' → ∀ M a w Q, W E.gl w0 M s w → TR M m t a → N ≤ a.tmps.size → Post E w0 m M s a t' s' (Q e.out) → CodeOk P E w0 m N lc a w Q

section
variable {P : Program} {E : Env} {w0 : World}

theorem exec_ok (hP : P.follows .mixedOrders = true) {k : Nat} (hC : CallsOk P E.gl w0 (callA E (exec E k))) (hE : ExecOk P E w0 k) : ExecOk P E w0 (k + 1) := by
  intro m N hnd lc t s e t' s' h M a w Q hw ht hn hk
  rw [exec_succ] at h
  have plain : ∀ {lc : LC} {Q : Exit → Act → World → Prop}, (∀ c, okC P E.gl m N lc c = true → c.wp P Q a w) → (∀ l, lc ≠ .loop l) → (∀ l r, lc ≠ .again l r) → CodeOk P E w0 m N lc a w Q :=
    fun h1 h2 h3 => ⟨h1, fun l c he => absurd he (h2 l), fun l r c c' he => absurd he (h3 l r)⟩
  have post0 : Post E w0 m M s a t s (Q e.out) → Q e.out a w := fun h => h a M w (.refl M s) hw ht rfl rfl
  cases lc with
  | skip =>
    refine plain (fun c hc => ?_) (by simp) (by simp)
    cases c <;> simp only [okC, Bool.false_eq_true] at hc
    simp only [execS] at h; cases h
    exact wp_skip (post0 hk)
  | reg ops =>
    refine plain (fun c hc => ?_) (by simp) (by simp)
    cases c <;> (try simp only [okC, Bool.false_eq_true] at hc)
    rename_i id o dr
    cases dr
    case true => simp [okC] at hc
    simp only [okC] at hc
    simp only [execS] at h
    have he : e = .nrm := opsA_nrm ops t s h
    subst he
    exact wp_region_list (opsA_ok hC hnd ops o.toList t s .nrm t' s' M w a Q hc h hw ht hn hk).2
  | drw ops =>
    refine plain (fun c hc => ?_) (by simp) (by simp)
    cases c <;> (try simp only [okC, Bool.false_eq_true] at hc)
    rename_i id o dr
    cases dr
    case false => simp [okC] at hc
    simp only [okC] at hc
    simp only [execS] at h
    have hd : ∀ Q, Post E w0 m M s a t' s' (Q .normal) → e = .nrm ∧ (Code.region id o true).wp P Q a w := fun Q hk => draw_ok hP hC hnd hc h hw ht hn hk
    have he : e = .nrm := (hd (fun _ _ _ => True) (fun _ _ _ _ _ _ _ _ => trivial)).1
    subst he
    exact (hd Q hk).2
  | seq x y =>
    refine plain (fun c hc => ?_) (by simp) (by simp)
    cases c <;> simp only [okC, Bool.false_eq_true] at hc
    rename_i c d
    simp only [Bool.and_eq_true] at hc
    simp only [execS, execSeq] at h
    refine wp_seq ?_
    cases hx : exec E k x t s with
    | no => simp [hx] at h
    | ok e1 t1 s1 =>
      rw [hx] at h
      refine (hE m N hnd x t s e1 t1 s1 hx M a w _ hw ht hn fun a1 M1 w1 k1 k2 k3 k4 k5 => ?_).code c hc.1
      cases e1 with
      | nrm =>
        simp only at h
        exact (hE m N hnd y t1 s1 e t' s' h M1 a1 w1 Q k2 k3 (by rw [k4]; exact hn) (hk.next k1 k4 k5)).code d hc.2
      | exit i => simp only at h; cases h; exact hk a1 M1 w1 k1 k2 k3 k4 k5
      | goto l => simp only at h; cases h; exact hk a1 M1 w1 k1 k2 k3 k4 k5
      | ret => simp only at h; cases h; exact hk a1 M1 w1 k1 k2 k3 k4 k5
  | cond o x y =>
    refine plain (fun c hc => ?_) (by simp) (by simp)
    cases c <;> simp only [okC, Bool.false_eq_true] at hc
    rename_i z c d
    simp only [Bool.and_eq_true] at hc
    simp only [execS, execCond] at h
    have hcr := ro_eval (v := E.ev t o) hw ht hc.1 rfl
    split at h
    · rename_i hb
      rw [hb] at hcr
      generalize hge : a.eval z = rc at *
      cases hcr
      exact wp_cond_true hge ((hE m N hnd x t s e t' s' h M a w Q hw ht hn hk).code c hc.2.1)
    · rename_i hb
      rw [hb] at hcr
      generalize hge : a.eval z = rc at *
      cases hcr
      exact wp_cond_false hge ((hE m N hnd y t s e t' s' h M a w Q hw ht hn hk).code d hc.2.2)
    · cases h
  | blk i x =>
    refine plain (fun c hc => ?_) (by simp) (by simp)
    cases c <;> simp only [okC, Bool.false_eq_true] at hc
    rename_i j c
    simp only [Bool.and_eq_true] at hc
    have hij := Nat.eq_of_beq_eq_true hc.1
    subst hij
    simp only [execS, execBlk] at h
    refine wp_block ?_
    cases hx : exec E k x t s with
    | no => simp [hx] at h
    | ok e1 t1 s1 =>
      rw [hx] at h
      refine (hE m N hnd x t s e1 t1 s1 hx M a w _ hw ht hn fun a1 M1 w1 k1 k2 k3 k4 k5 => ?_).code c hc.2
      cases e1 with
      | nrm => simp only at h; cases h; exact hk a1 M1 w1 k1 k2 k3 k4 k5
      | exit q =>
        simp only at h
        cases hb : Nat.beq q i with
        | true =>
          simp only [hb, cond_true] at h; cases h
          have := Nat.eq_of_beq_eq_true hb
          simp only [Ex.out, Exit.inBlock, this, if_true]
          exact hk a1 M1 w1 k1 k2 k3 k4 k5
        | false =>
          simp only [hb, cond_false] at h; cases h
          have : ¬ q = i := fun e => by subst e; simp at hb
          simp only [Ex.out, Exit.inBlock, this, if_false]
          exact hk a1 M1 w1 k1 k2 k3 k4 k5
      | goto l => simp only at h; cases h; exact hk a1 M1 w1 k1 k2 k3 k4 k5
      | ret => simp only at h; cases h; exact hk a1 M1 w1 k1 k2 k3 k4 k5
  | loop x =>
    have key : ∀ c, okC P E.gl m N x c = true → LoopWp P c Q a w := by
      intro c hc
      simp only [execS, execSeq] at h
      refine LoopWp.of ?_
      cases hx : exec E k x t s with
      | no => simp [hx] at h
      | ok e1 t1 s1 =>
        rw [hx] at h
        refine (hE m N hnd x t s e1 t1 s1 hx M a w _ hw ht hn fun a1 M1 w1 k1 k2 k3 k4 k5 => ?_).code c hc
        cases e1 with
        | nrm =>
          simp only at h
          exact (hE m N hnd (.loop x) t1 s1 e t' s' h M1 a1 w1 Q k2 k3 (by rw [k4]; exact hn) (hk.next k1 k4 k5)).loop x c rfl hc
        | exit i => simp only at h; cases h; exact hk a1 M1 w1 k1 k2 k3 k4 k5
        | goto l => simp only at h; cases h; exact hk a1 M1 w1 k1 k2 k3 k4 k5
        | ret => simp only at h; cases h; exact hk a1 M1 w1 k1 k2 k3 k4 k5
    refine ⟨fun c hc => ?_, fun l c he hc => ?_, fun l r c c' he => by cases he⟩
    · cases c <;> simp only [okC, Bool.false_eq_true] at hc
      exact (key _ hc).wp
    · cases he; exact key c hc
  | exit i =>
    refine plain (fun c hc => ?_) (by simp) (by simp)
    cases c <;> simp only [okC, Bool.false_eq_true] at hc
    have := Nat.eq_of_beq_eq_true hc
    subst this
    simp only [execS] at h; cases h
    exact wp_exit (post0 hk)
  | scope x =>
    refine plain (fun c hc => ?_) (by simp) (by simp)
    cases c <;> simp only [okC, Bool.false_eq_true] at hc
    rename_i c
    simp only [execS] at h
    exact ((hE m N hnd (.again x x) t s e t' s' h M a w Q hw ht hn hk).again x x c c rfl hc hc).scope
  | again x r =>
    refine CodeOk.mk (fun c hc => by cases c <;> simp [okC] at hc) (fun l c he => by cases he) (fun l r' c c' he hc hc' => ?_)
    cases he
    simp only [execS, execAgain] at h
    refine AgainWp.of ?_
    cases hx : exec E k r t s with
    | no => simp [hx] at h
    | ok e1 t1 s1 =>
      rw [hx] at h
      refine (hE m N hnd r t s e1 t1 s1 hx M a w _ hw ht hn fun a1 M1 w1 k1 k2 k3 k4 k5 => ?_).code c' hc'
      cases e1 with
      | nrm => simp only at h; cases h; exact hk a1 M1 w1 k1 k2 k3 k4 k5
      | exit i => simp only at h; cases h; exact hk a1 M1 w1 k1 k2 k3 k4 k5
      | goto l =>
        simp only at h
        simp only [Ex.out, Exit.againQ]
        obtain ⟨f1, f2⟩ := findL_ok x c l hc
        cases hf : findL x l with
        | some r2 =>
          rw [hf] at h
          obtain ⟨c2, g1, g2⟩ := f2 r2 hf
          simp only [g1]
          exact (hE m N hnd (.again x r2) t1 s1 e t' s' h M1 a1 w1 Q k2 k3 (by rw [k4]; exact hn) (hk.next k1 k4 k5)).again x r2 c c2 rfl hc g2
        | none =>
          rw [hf] at h
          cases h
          simp only [f1 hf]
          exact hk a1 M1 w1 k1 k2 k3 k4 k5
      | ret => simp only at h; cases h; exact hk a1 M1 w1 k1 k2 k3 k4 k5
  | label i =>
    refine plain (fun c hc => ?_) (by simp) (by simp)
    cases c <;> simp only [okC, Bool.false_eq_true] at hc
    simp only [execS] at h; cases h
    exact wp_label (post0 hk)
  | goto i =>
    refine plain (fun c hc => ?_) (by simp) (by simp)
    cases c <;> simp only [okC, Bool.false_eq_true] at hc
    have := Nat.eq_of_beq_eq_true hc
    subst this
    simp only [execS] at h; cases h
    exact wp_goto (post0 hk)
  | ret =>
    refine plain (fun c hc => ?_) (by simp) (by simp)
    cases c <;> simp only [okC, Bool.false_eq_true] at hc
    simp only [execS] at h; cases h
    exact wp_ret (post0 hk)
  | stop =>
    simp only [execS] at h; cases h
end

end Go.Proofs.YtmoihglcdmmmlaaGreatDoor
