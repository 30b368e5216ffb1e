/-
  What a run of the executor comes to, said without the bound on its steps: what has to hold ahead of code, so that something holds behind it.
-/
import Derived.Test.YtmoihglcdmmmlaaGreatDoorAb20
set_option linter.unusedSimpArgs false
set_option linter.unusedVariables false
namespace Go.Proofs.YtmoihglcdmmmlaaGreatDoor
open Go

/-- From some number of steps on. -/
def Even (p : Nat → Prop) : Prop := ∃ k0, ∀ k, k0 ≤ k → p k

theorem Even.of {p : Nat → Prop} (h : ∀ k, p k) : Even p := ⟨0, fun k _ => h k⟩
theorem Even.and {p q r : Nat → Prop} (h : Even p) (h' : Even q) (hr : ∀ k, p k → q k → r k) : Even r := by
  obtain ⟨a, ha⟩ := h
  obtain ⟨b, hb⟩ := h'
  exact ⟨max a b, fun k hk => hr k (ha k (by omega)) (hb k (by omega))⟩
theorem Even.mono {p q : Nat → Prop} (h : Even p) (hr : ∀ k, p k → q k) : Even q := by
  obtain ⟨a, ha⟩ := h
  exact ⟨a, fun k hk => hr k (ha k hk)⟩
theorem Even.succ {p : Nat → Prop} (h : Even fun k => p (k + 1)) : Even p := by
  obtain ⟨a, ha⟩ := h
  refine ⟨a + 1, fun k hk => ?_⟩
  obtain ⟨j, rfl⟩ : ∃ j, k = j + 1 := ⟨k - 1, by omega⟩
  exact ha j (by omega)
theorem Even.ex {p : Nat → Prop} (h : Even p) : ∃ k, p k := by
  obtain ⟨a, ha⟩ := h
  exact ⟨a, ha a (Nat.le_refl _)⟩

section
variable (E : Env)

/-- The code comes to an end of which Q holds. -/
def Ev (c : LC) (t : Tm) (s : St) (Q : Ex → Tm → St → Prop) : Prop := ∃ e t' s', Even (fun k => exec E k c t s = .ok e t' s') ∧ Q e t' s'
def EvX (t : Tm) (x : X) (s : St) (Q : AV → St → Prop) : Prop := ∃ v s', Even (fun k => evX E (exec E k) t x s = .ok v s') ∧ Q v s'
def EvC (f : FuncId) (as : List AV) (s : St) (Q : AV → St → Prop) : Prop := ∃ v s', Even (fun k => callA E (exec E k) f as s = .ok v s') ∧ Q v s'
def EvO (l : List LS) (t : Tm) (s : St) (Q : Tm → St → Prop) : Prop := ∃ t' s', Even (fun k => opsA E (exec E k) l t s = .ok .nrm t' s') ∧ Q t' s'
end

theorem Ev.mono {E : Env} {t : Tm} {s : St} {c : LC} {Q Q' : Ex → Tm → St → Prop} (h : Ev E c t s Q) (hq : ∀ e t s, Q e t s → Q' e t s) : Ev E c t s Q' := by
  obtain ⟨e, t', s', a, b⟩ := h; exact ⟨e, t', s', a, hq _ _ _ b⟩
theorem EvC.mono {E : Env} {s : St} {f : FuncId} {as : List AV} {Q Q' : AV → St → Prop} (h : EvC E f as s Q) (hq : ∀ v s, Q v s → Q' v s) : EvC E f as s Q' := by
  obtain ⟨v, s', a, b⟩ := h; exact ⟨v, s', a, hq _ _ b⟩

/-- A result, of which Q holds. -/
def okv (r : Rv) (Q : AV → St → Prop) : Prop :=
  match r with
  | .ok v s => Q v s
  | .no => False
def oko (r : Option AV) (s : St) (Q : AV → St → Prop) : Prop :=
  match r with
  | some v => Q v s
  | none => False

-- ---------------------------------------------------------------- what has to hold
def wpK (E : Env) (f : K) (xs : List AV) (s : St) (Q : AV → St → Prop) : Prop :=
  match f with
  | .call f => EvC E f xs s Q
  | .callv => (match xs with
    | .fn f first captured :: as => EvC E f (first ++ (as ++ captured)) s Q
    | _ => False)
  | .pick => (match xs with
    | [.bool c, x, y] => Q (bif c then x else y) s
    | _ => False)
  | .build z ps => (match buildA z ps xs with
    | some cs => Q (.agg cs) s
    | none => False)
  | .bsl sz e => bslA sz xs = true ∧ okv (newSl sz e xs s) Q
  | .mkf f n => n ≤ xs.length ∧ Q (.fn f (xs.take n) (xs.drop n)) s
  | .sls a b => (match xs with
    | .str x :: ys => (match bounds a b x.length ys with
      | some (l, h) => oko (slsA (.str x) l h) s Q
      | none => False)
    | _ => False)
  | .slv sz a b => (match xs with
    | x :: ys => (match lenA x with
      | some n => (match bounds a b n ys with
        | some (l, h) => oko (slvA sz x l h) s Q
        | none => False)
      | none => False)
    | _ => False)

def wpKt (E : Env) (f : K) (w : AV) (s : St) (Q : AV → St → Prop) : Prop :=
  match w with
  | .tup vs => wpK E f vs s Q
  | _ => False

def wpGd (w df : Bool) (c : AV) (s : St) (Q : AV → St → Prop) (b : St → Prop) : Prop :=
  match c with
  | .bool c => if c = w then b s else Q (.bool df) s
  | _ => False

def wpX (E : Env) (t : Tm) : X → St → (AV → St → Prop) → Prop
  | .od o, s, Q => Q (E.ev t o) s
  | .u _ f x, s, Q => wpX E t x s (fun v s => okv (apU f v s) Q)
  | .b _ sw f x y, s, Q => bif sw then wpX E t y s (fun w s => wpX E t x s (fun v s => okv (apB f v w s) Q)) else wpX E t x s (fun v s => wpX E t y s (fun w s => okv (apB f v w s) Q))
  | .k _ f x, s, Q => wpX E t x s (fun w s => wpKt E f w s Q)
  | .nil, s, Q => Q (.tup []) s
  | .cons x y, s, Q => wpX E t x s (fun v s => wpX E t y s (fun w s => okv (consA v w s) Q))
  | .a _ z e, s, Q => okv (newBox e z s) Q
  | .gd _ w df c b, s, Q => wpX E t c s (fun c s => wpGd w df c s Q (fun s => wpX E t b s Q))

def wpO (E : Env) : List LS → Tm → St → (Tm → St → Prop) → Prop
  | [], t, s, Q => Q t s
  | o :: os, t, s, Q => if wantedA t o.g = true then wpX E t o.x s (fun v s => wpO E os (putA t o.d v) s Q) else wpO E os (putA t o.d undefA) s Q

/-- A reading that comes to the same in each of these states. -/
def wpChk (E : Env) (c : Chk) : List St → Nat → Prop
  | [], _ => True
  | s :: ss, i => (c.lo ≤ i → i ≤ c.hi → wpX E c.t c.x s (fun v _ => v = c.v)) ∧ wpChk E c ss (i + 1)

def wpChks (E : Env) (ss : List St) : List Chk → Prop
  | [] => True
  | c :: cs => wpChk E c ss 0 ∧ wpChks E ss cs

def wpD (E : Env) : List DO → Nat → Tm → St → List St → List Chk → (Tm → St → Prop) → Prop
  | [], _, t, s, ss, cs, Q => wpChks E ss.reverse cs ∧ Q t s
  | o :: os, nx, t, s, ss, cs, Q =>
    match o.k with
    | .a => wpD E os (nx + 1) (putA t o.o.d (.ptr nx 0)) s ss cs Q
    | .p => if wantedA t o.o.g = true then wpX E t o.o.x s (fun v _ => wpD E os nx (putA t o.o.d v) s ss cs Q) else wpD E os nx (putA t o.o.d undefA) s ss cs Q
    | .l lo hi => if wantedA t o.o.g = true then wpX E t o.o.x s (fun v _ => wpD E os nx (putA t o.o.d v) s ss (bif Nat.beq lo hi then cs else { x := o.o.x, t := t, v := v, lo := lo, hi := hi } :: cs) Q)
      else wpD E os nx (putA t o.o.d undefA) s ss cs Q
    | .m => if wantedA t o.o.g = true then wpX E t o.o.x s (fun v s => wpD E os nx (putA t o.o.d v) s (s :: ss) cs Q) else wpD E os nx (putA t o.o.d undefA) s (s :: ss) cs Q

def wpSeq (Q : Ex → Tm → St → Prop) (k : Tm → St → Prop) (e : Ex) (t : Tm) (s : St) : Prop :=
  match e with
  | .nrm => k t s
  | e => Q e t s

def wpCond (v : AV) (a b : Prop) : Prop :=
  match v with
  | .bool c => if c = true then a else b
  | _ => False

def wpBlk (id : Nat) (Q : Ex → Tm → St → Prop) (e : Ex) (t : Tm) (s : St) : Prop :=
  match e with
  | .exit i => if i = id then Q .nrm t s else Q (.exit i) t s
  | e => Q e t s

def wpC (E : Env) : LC → Tm → St → (Ex → Tm → St → Prop) → Prop
  | .seq a b, t, s, Q => wpC E a t s (wpSeq Q (fun t s => wpC E b t s Q))
  | .reg ops, t, s, Q => wpO E ops t s (Q .nrm)
  | .cond c a b, t, s, Q => wpCond (E.ev t c) (wpC E a t s Q) (wpC E b t s Q)
  | .skip, t, s, Q => Q .nrm t s
  | .drw l, t, s, Q => wpD E l s.nx t (drawNew l s) [drawNew l s] [] (Q .nrm)
  | .blk id c, t, s, Q => wpC E c t s (wpBlk id Q)
  | .loop c, t, s, Q => Ev E (.loop c) t s Q
  | .exit id, t, s, Q => Q (.exit id) t s
  | .scope c, t, s, Q => Ev E (.again c c) t s Q
  | .again c r, t, s, Q => Ev E (.again c r) t s Q
  | .label _, t, s, Q => Q .nrm t s
  | .goto l, t, s, Q => Q (.goto l) t s
  | .ret, t, s, Q => Q .ret t s
  | .stop, _, _, _ => False

-- ---------------------------------------------------------------- it is so
theorem okv_ex {r : Rv} {Q : AV → St → Prop} (h : okv r Q) : ∃ v s, r = .ok v s ∧ Q v s := by
  cases r with
  | no => exact h.elim
  | ok v s => exact ⟨v, s, rfl, h⟩
theorem oko_ex {r : Option AV} {s : St} {Q : AV → St → Prop} (h : oko r s Q) : ∃ v, r = some v ∧ Q v s := by
  cases r with
  | none => exact h.elim
  | some v => exact ⟨v, rfl, h⟩

theorem wpK_ok {E : Env} {f : K} {xs : List AV} {s : St} {Q : AV → St → Prop} (h : wpK E f xs s Q) : ∃ v s', Even (fun k => apK E (exec E k) f xs s = .ok v s') ∧ Q v s' := by
  unfold wpK at h
  split at h
  · exact h
  · split at h
    · exact h
    · exact h.elim
  · split at h
    · exact ⟨_, _, .of fun k => rfl, h⟩
    · exact h.elim
  · split at h
    · rename_i cs hb; exact ⟨_, _, .of fun k => by simp only [apK, hb], h⟩
    · exact h.elim
  · obtain ⟨v, s', h1, h2⟩ := okv_ex h.2
    exact ⟨v, s', .of fun k => by simp only [apK, h.1, cond_true]; exact h1, h2⟩
  · exact ⟨_, _, .of fun k => by simp only [apK, Nat.ble_eq_true_of_le h.1, cond_true], h.2⟩
  · split at h
    · split at h
      · rename_i l u hb
        obtain ⟨v, h1, h2⟩ := oko_ex h
        exact ⟨v, s, .of fun k => by simp only [apK, hb, h1, opt], h2⟩
      · exact h.elim
    · exact h.elim
  · split at h
    · split at h
      · rename_i n hn
        split at h
        · rename_i l u hb
          obtain ⟨v, h1, h2⟩ := oko_ex h
          exact ⟨v, s, .of fun k => by simp only [apK, hn, hb, h1, opt], h2⟩
        · exact h.elim
      · exact h.elim
    · exact h.elim

theorem wpX_ok {E : Env} {t : Tm} : ∀ {x : X} {s : St} {Q : AV → St → Prop}, wpX E t x s Q → EvX E t x s Q
  | .od o, s, Q, h => ⟨_, _, .of fun k => rfl, h⟩
  | .u d f x, s, Q, h => by
    obtain ⟨v, s1, h1, h2⟩ := wpX_ok (x := x) h
    obtain ⟨w, s2, h3, h4⟩ := okv_ex h2
    exact ⟨w, s2, h1.mono fun k hk => by rw [evX_u, hk]; exact h3, h4⟩
  | .b d sw f x y, s, Q, h => by
    cases sw with
    | true =>
      obtain ⟨w, s1, h1, h2⟩ := wpX_ok (x := y) h
      obtain ⟨v, s2, h3, h4⟩ := wpX_ok (x := x) h2
      obtain ⟨u, s3, h5, h6⟩ := okv_ex h4
      exact ⟨u, s3, h1.and h3 fun k a b => by rw [evX_bs, a]; simp only [bnd]; rw [b]; exact h5, h6⟩
    | false =>
      obtain ⟨v, s1, h1, h2⟩ := wpX_ok (x := x) h
      obtain ⟨w, s2, h3, h4⟩ := wpX_ok (x := y) h2
      obtain ⟨u, s3, h5, h6⟩ := okv_ex h4
      exact ⟨u, s3, h1.and h3 fun k a b => by rw [evX_b, a]; simp only [bnd]; rw [b]; exact h5, h6⟩
  | .k d f x, s, Q, h => by
    obtain ⟨w, s1, h1, h2⟩ := wpX_ok (x := x) h
    unfold wpKt at h2
    split at h2
    · rename_i vs
      obtain ⟨v, s2, h3, h4⟩ := wpK_ok h2
      exact ⟨v, s2, h1.and h3 fun k a b => by rw [evX_k, a]; exact b, h4⟩
    · exact h2.elim
  | .nil, s, Q, h => ⟨_, _, .of fun k => rfl, h⟩
  | .cons x y, s, Q, h => by
    obtain ⟨v, s1, h1, h2⟩ := wpX_ok (x := x) h
    obtain ⟨w, s2, h3, h4⟩ := wpX_ok (x := y) h2
    obtain ⟨u, s3, h5, h6⟩ := okv_ex h4
    exact ⟨u, s3, h1.and h3 fun k a b => by rw [evX_cons, a]; simp only [bnd]; rw [b]; exact h5, h6⟩
  | .a d z e, s, Q, h => by
    obtain ⟨u, s3, h5, h6⟩ := okv_ex h
    exact ⟨u, s3, .of fun k => h5, h6⟩
  | .gd d w df c b, s, Q, h => by
    obtain ⟨v, s1, h1, h2⟩ := wpX_ok (x := c) h
    unfold wpGd at h2
    split at h2
    · rename_i c'
      split at h2
      · rename_i hc
        obtain ⟨u, s3, h5, h6⟩ := wpX_ok (x := b) h2
        refine ⟨u, s3, h1.and h5 fun k p q => ?_, h6⟩
        rw [evX_gd, p]; subst hc; simp only [bnd, gdA, beq_self_eq_true, cond_true]; exact q
      · rename_i hc
        refine ⟨_, _, h1.mono fun k p => ?_, h2⟩
        rw [evX_gd, p]; simp only [bnd, gdA, beq_eq_false_iff_ne.2 hc, cond_false]
    · exact h2.elim

theorem wpO_ok {E : Env} : ∀ {l : List LS} {t : Tm} {s : St} {Q : Tm → St → Prop}, wpO E l t s Q → EvO E l t s Q
  | [], t, s, Q, h => ⟨_, _, .of fun k => rfl, h⟩
  | o :: os, t, s, Q, h => by
    unfold wpO at h
    split at h
    · rename_i hw
      obtain ⟨v, s1, h1, h2⟩ := wpX_ok h
      obtain ⟨t', s', h3, h4⟩ := wpO_ok (l := os) h2
      exact ⟨t', s', h1.and h3 fun k a b => by rw [opsA_cons, stmA, hw, cond_true, a]; exact b, h4⟩
    · rename_i hw
      obtain ⟨t', s', h3, h4⟩ := wpO_ok (l := os) h
      exact ⟨t', s', h3.mono fun k b => by rw [opsA_cons, stmA, Bool.not_eq_true _ |>.mp hw, cond_false]; exact b, h4⟩

mutual
theorem AV.beq_refl : ∀ (x : AV), AV.beq x x = true
  | .bool a => by simp [AV.beq]
  | .int j a => by simp [AV.beq]
  | .str a => by simp [AV.beq]
  | .nilp => rfl
  | .ptr a b => by simp [AV.beq]
  | .eptr a b => by simp [AV.beq, AV.beqs_refl a]
  | .nils => rfl
  | .sl a b c => by simp [AV.beq, AV.beqs_refl c]
  | .ms a b c => by simp [AV.beq]
  | .gs a b => by simp [AV.beq]
  | .gp a b c d => by simp [AV.beq]
  | .tp a b c => by simp [AV.beq, AV.beqs_refl c]
  | .fn f a b => by simp [AV.beq, AV.beqs_refl a, AV.beqs_refl b]
  | .nilfn => rfl
  | .niface => rfl
  | .agg a => by simp [AV.beq, AV.beqs_refl a]
  | .tup a => by simp [AV.beq, AV.beqs_refl a]
theorem AV.beqs_refl : ∀ (x : List AV), AV.beqs x x = true
  | [] => rfl
  | x :: xs => by simp [AV.beqs, AV.beq_refl x, AV.beqs_refl xs]
end

theorem wpChk_ok {E : Env} {c : Chk} : ∀ {ss : List St} {i : Nat}, wpChk E c ss i → Even fun k => chk1 E (exec E k) c ss i = true
  | [], i, h => .of fun k => rfl
  | s :: ss, i, h => by
    unfold wpChk at h
    have h2 := wpChk_ok (ss := ss) h.2
    by_cases hb : (Nat.ble c.lo i && Nat.ble i c.hi) = true
    · have hb' := hb
      simp only [Bool.and_eq_true, Nat.ble_eq] at hb'
      obtain ⟨v, s', h3, h4⟩ := wpX_ok (h.1 hb'.1 hb'.2)
      subst h4
      refine h2.and h3 fun k a b => ?_
      simp only [chk1, hb, cond_true, b, rvEq, AV.beq_refl, a, Bool.and_self]
    · have hb := Bool.eq_false_iff.2 hb
      exact h2.mono fun k a => by simp only [chk1, hb, cond_false, a, Bool.and_self]

theorem wpChks_ok {E : Env} {ss : List St} : ∀ {cs : List Chk}, wpChks E ss cs → Even fun k => chks E (exec E k) ss cs = true
  | [], h => .of fun k => rfl
  | c :: cs, h => (wpChk_ok h.1).and (wpChks_ok h.2) fun k a b => by simp only [chks, a, b, Bool.and_self]

theorem wpD_ok {E : Env} : ∀ {l : List DO} {nx : Nat} {t : Tm} {s : St} {ss : List St} {cs : List Chk} {Q : Tm → St → Prop}, wpD E l nx t s ss cs Q →
    ∃ t' s', Even (fun k => drawRun E (exec E k) l nx t s ss cs = .ok .nrm t' s') ∧ Q t' s'
  | [], nx, t, s, ss, cs, Q, h => by
    unfold wpD at h
    exact ⟨t, s, (wpChks_ok h.1).mono fun k a => by simp only [drawRun, a, cond_true], h.2⟩
  | o :: os, nx, t, s, ss, cs, Q, h => by
    unfold wpD at h
    split at h
    · rename_i hk
      obtain ⟨t', s', h1, h2⟩ := wpD_ok h
      exact ⟨t', s', h1.mono fun k a => by simp only [drawRun, hk]; exact a, h2⟩
    · rename_i hk
      split at h
      · rename_i hw
        obtain ⟨v, s1, h1, h2⟩ := wpX_ok h
        obtain ⟨t', s', h3, h4⟩ := wpD_ok h2
        exact ⟨t', s', h1.and h3 fun k a b => by simp only [drawRun, hk, hw, cond_true, a]; exact b, h4⟩
      · rename_i hw
        have hw := Bool.eq_false_iff.2 hw
        obtain ⟨t', s', h3, h4⟩ := wpD_ok h
        exact ⟨t', s', h3.mono fun k b => by simp only [drawRun, hk, hw, cond_false]; exact b, h4⟩
    · rename_i lo hi hk
      split at h
      · rename_i hw
        obtain ⟨v, s1, h1, h2⟩ := wpX_ok h
        obtain ⟨t', s', h3, h4⟩ := wpD_ok h2
        exact ⟨t', s', h1.and h3 fun k a b => by simp only [drawRun, hk, hw, cond_true, a]; exact b, h4⟩
      · rename_i hw
        have hw := Bool.eq_false_iff.2 hw
        obtain ⟨t', s', h3, h4⟩ := wpD_ok h
        exact ⟨t', s', h3.mono fun k b => by simp only [drawRun, hk, hw, cond_false]; exact b, h4⟩
    · rename_i hk
      split at h
      · rename_i hw
        obtain ⟨v, s1, h1, h2⟩ := wpX_ok h
        obtain ⟨t', s', h3, h4⟩ := wpD_ok h2
        exact ⟨t', s', h1.and h3 fun k a b => by simp only [drawRun, hk, hw, cond_true, a]; exact b, h4⟩
      · rename_i hw
        have hw := Bool.eq_false_iff.2 hw
        obtain ⟨t', s', h3, h4⟩ := wpD_ok h
        exact ⟨t', s', h3.mono fun k b => by simp only [drawRun, hk, hw, cond_false]; exact b, h4⟩

theorem wpC_ok {E : Env} : ∀ {c : LC} {t : Tm} {s : St} {Q : Ex → Tm → St → Prop}, wpC E c t s Q → Ev E c t s Q
  | .seq a b, t, s, Q, h => by
    obtain ⟨e, t1, s1, h1, h2⟩ := wpC_ok (c := a) h
    unfold wpSeq at h2
    split at h2
    · obtain ⟨e, t2, s2, h3, h4⟩ := wpC_ok (c := b) h2
      exact ⟨e, t2, s2, .succ (h1.and h3 fun k p q => by rw [exec_succ]; simp only [execS, p, execSeq]; exact q), h4⟩
    · rename_i hne
      refine ⟨e, t1, s1, .succ (h1.mono fun k p => ?_), h2⟩
      rw [exec_succ]; simp only [execS, p]
      cases e <;> first | rfl | exact absurd rfl hne
  | .reg ops, t, s, Q, h => by
    obtain ⟨t1, s1, h1, h2⟩ := wpO_ok h
    exact ⟨_, t1, s1, .succ (h1.mono fun k p => by rw [exec_succ]; exact p), h2⟩
  | .cond c a b, t, s, Q, h => by
    simp only [wpC, wpCond] at h
    split at h
    · rename_i b' hb
      split at h
      · rename_i hc
        subst hc
        obtain ⟨e, t1, s1, h1, h2⟩ := wpC_ok (c := a) h
        exact ⟨e, t1, s1, .succ (h1.mono fun k p => by rw [exec_succ]; simp only [execS, hb, execCond]; exact p), h2⟩
      · rename_i hc
        have hc := Bool.eq_false_iff.2 hc
        subst hc
        obtain ⟨e, t1, s1, h1, h2⟩ := wpC_ok (c := b) h
        exact ⟨e, t1, s1, .succ (h1.mono fun k p => by rw [exec_succ]; simp only [execS, hb, execCond]; exact p), h2⟩
    · exact h.elim
  | .skip, t, s, Q, h => ⟨_, _, _, .succ (.of fun k => rfl), h⟩
  | .drw l, t, s, Q, h => by
    obtain ⟨t', s', h1, h2⟩ := wpD_ok h
    exact ⟨_, t', s', .succ (h1.mono fun k p => by rw [exec_succ]; exact p), h2⟩
  | .blk id c, t, s, Q, h => by
    obtain ⟨e, t1, s1, h1, h2⟩ := wpC_ok (c := c) h
    unfold wpBlk at h2
    split at h2
    · rename_i i
      split at h2
      · rename_i hi
        subst hi
        exact ⟨_, t1, s1, .succ (h1.mono fun k p => by rw [exec_succ]; simp only [execS, p, execBlk, Nat.beq_refl, cond_true]), h2⟩
      · rename_i hi
        refine ⟨_, t1, s1, .succ (h1.mono fun k p => ?_), h2⟩
        have : Nat.beq i id = false := Bool.eq_false_iff.2 fun h => hi (Nat.eq_of_beq_eq_true h)
        rw [exec_succ]; simp only [execS, p, execBlk, this, cond_false]
    · rename_i hne
      refine ⟨_, t1, s1, .succ (h1.mono fun k p => ?_), h2⟩
      rw [exec_succ]; simp only [execS, p]
      cases e <;> first | rfl | exact absurd rfl (hne _)
  | .loop c, t, s, Q, h => h
  | .exit id, t, s, Q, h => ⟨_, _, _, .succ (.of fun k => rfl), h⟩
  | .scope c, t, s, Q, h => by
    obtain ⟨e, t', s', h1, h2⟩ : Ev E (.again c c) t s Q := h
    exact ⟨e, t', s', .succ (h1.mono fun k p => by rw [exec_succ]; exact p), h2⟩
  | .again c r, t, s, Q, h => h
  | .label _, t, s, Q, h => ⟨_, _, _, .succ (.of fun k => rfl), h⟩
  | .goto l, t, s, Q, h => ⟨_, _, _, .succ (.of fun k => rfl), h⟩
  | .ret, t, s, Q, h => ⟨_, _, _, .succ (.of fun k => rfl), h⟩
  | .stop, _, _, _, h => h.elim

/-- One more round of a loop. -/
theorem Ev.loop_round {E : Env} {c : LC} {t : Tm} {s : St} {Q : Ex → Tm → St → Prop} (h : wpC E c t s (wpSeq Q fun t s => Ev E (.loop c) t s Q)) : Ev E (.loop c) t s Q := by
  obtain ⟨e, t1, s1, h1, h2⟩ := wpC_ok h
  unfold wpSeq at h2
  split at h2
  · obtain ⟨e, t2, s2, h3, h4⟩ := h2
    exact ⟨e, t2, s2, .succ (h1.and h3 fun k p q => by rw [exec_succ]; simp only [execS, p, execSeq]; exact q), h4⟩
  · rename_i hne
    refine ⟨e, t1, s1, .succ (h1.mono fun k p => ?_), h2⟩
    rw [exec_succ]; simp only [execS, p]
    cases e <;> first | rfl | exact absurd rfl hne

/-- A loop, by what holds ahead of each round, and a number that falls. -/
theorem Ev.loop {E : Env} {c : LC} {Q : Ex → Tm → St → Prop} (I : Nat → Tm → St → Prop)
    (h : ∀ n t s, I n t s → wpC E c t s (wpSeq Q fun t s => ∃ m, m < n ∧ I m t s)) : ∀ n t s, I n t s → Ev E (.loop c) t s Q := by
  intro n
  induction n using Nat.strongRecOn with
  | ind n ih =>
    intro t s hi
    obtain ⟨e, t1, s1, h1, h2⟩ := wpC_ok (h n t s hi)
    unfold wpSeq at h2
    split at h2
    · obtain ⟨m, hm, hi'⟩ := h2
      obtain ⟨e, t2, s2, h3, h4⟩ := ih m hm _ _ hi'
      exact ⟨e, t2, s2, .succ (h1.and h3 fun k p q => by rw [exec_succ]; simp only [execS, p, execSeq]; exact q), h4⟩
    · rename_i hne
      refine ⟨e, t1, s1, .succ (h1.mono fun k p => ?_), h2⟩
      rw [exec_succ]; simp only [execS, p]
      cases e <;> first | rfl | exact absurd rfl hne

/-- Code with labels: its end, or a jump to one of them. -/
theorem Ev.again {E : Env} {c r : LC} {t : Tm} {s : St} {Q : Ex → Tm → St → Prop} (h : wpC E r t s (fun e t s => match e with
    | .goto l => (match findL c l with
      | some r' => Ev E (.again c r') t s Q
      | none => Q (.goto l) t s)
    | e => Q e t s)) : Ev E (.again c r) t s Q := by
  obtain ⟨e, t1, s1, h1, h2⟩ := wpC_ok h
  split at h2
  · rename_i l
    split at h2
    · rename_i r' hr
      obtain ⟨e, t2, s2, h3, h4⟩ := h2
      exact ⟨e, t2, s2, .succ (h1.and h3 fun k p q => by rw [exec_succ]; simp only [execS, p, execAgain, hr]; exact q), h4⟩
    · rename_i hr
      exact ⟨_, t1, s1, .succ (h1.mono fun k p => by rw [exec_succ]; simp only [execS, p, execAgain, hr]), h2⟩
  · rename_i hne
    refine ⟨e, t1, s1, .succ (h1.mono fun k p => ?_), h2⟩
    rw [exec_succ]; simp only [execS, p]
    cases e <;> first | rfl | exact absurd rfl (hne _)

/-- A call, by the function's code. -/
theorem EvC.code {E : Env} {f : FuncId} {lf : LF} {as : List AV} {s : St} {Q : AV → St → Prop} (hi : E.it f = none) (hf : E.fn f = some lf) (hn : Nat.ble as.length lf.np = true)
    (h : wpC E lf.code (as ++ List.replicate (lf.n - as.length) undefA) s (fun e t s => match e with
      | .nrm => okv (resv t s lf.res) Q
      | .ret => okv (resv t s lf.res) Q
      | _ => False)) : EvC E f as s Q := by
  obtain ⟨e, t1, s1, h1, h2⟩ := wpC_ok h
  cases e with
  | nrm =>
    obtain ⟨v, s2, h3, h4⟩ := okv_ex h2
    exact ⟨v, s2, h1.mono fun k p => by simp only [callA, hi, hf, hn, cond_true, p]; exact h3, h4⟩
  | ret =>
    obtain ⟨v, s2, h3, h4⟩ := okv_ex h2
    exact ⟨v, s2, h1.mono fun k p => by simp only [callA, hi, hf, hn, cond_true, p]; exact h3, h4⟩
  | exit i => exact h2.elim
  | goto l => exact h2.elim

/-- A call, by what is known of it. -/
theorem EvC.known {E : Env} {f : FuncId} {g : List AV → St → Rv} {as : List AV} {s : St} {Q : AV → St → Prop} (hi : E.it f = some g) (h : okv (g as s) Q) : EvC E f as s Q := by
  obtain ⟨v, s2, h3, h4⟩ := okv_ex h
  exact ⟨v, s2, .of fun k => by simp only [callA, hi]; exact h3, h4⟩

theorem EvC.run {E : Env} {f : FuncId} {as : List AV} {s : St} {Q : AV → St → Prop} (h : EvC E f as s Q) : ∃ k v s', runF E k f as s = .ok v s' ∧ Q v s' := by
  obtain ⟨v, s', h1, h2⟩ := h
  obtain ⟨k, hk⟩ := h1.ex
  exact ⟨k, v, s', hk, h2⟩

end Go.Proofs.YtmoihglcdmmmlaaGreatDoor
