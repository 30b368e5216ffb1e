/-
  Expressions: the operations of a region, in order, and the tree that stands for them.
-/
import Derived.Test.YtmoihglcdmmmlaaGreatDoorAb13
set_option linter.unusedSimpArgs false
set_option linter.unusedVariables false
namespace Go.Proofs.YtmoihglcdmmmlaaGreatDoor
open Go Go.RowKit

/-- Where an expression's value stands: nowhere; in one of the program's slots; it is an operand. -/
inductive RO where
  | n
  | s (d : Nat)
  | o (od : Od)

def roOk (G : Nat → Option (List AV)) (m : List Nat) : RO → Operand → Bool
  | .s d, .tmp k => Nat.beq d k
  | .o (.t i), .tmp k => (match nth m i with
    | some j => Nat.beq j k
    | none => false)
  | .o (.c v), .const x => cOk v x
  | .o (.c v), .func f => cOk v (.func (.func f) #[] #[])
  | .o (.g n), .global k => Nat.beq n k && (G n).isSome
  | _, _ => false

def roOks (G : Nat → Option (List AV)) (m : List Nat) : List RO → List Operand → Bool
  | [], [] => true
  | r :: rs, x :: xs => roOk G m r x && roOks G m rs xs
  | _, _ => false

def memN (d : Nat) : List Nat → Bool
  | [] => false
  | x :: xs => Nat.beq d x || memN d xs

def disjN : List Nat → List Nat → Bool
  | [], _ => true
  | x :: xs, ys => !memN x ys && disjN xs ys

theorem memN_eq {d : Nat} {l : List Nat} : memN d l = true ↔ d ∈ l := by
  induction l with
  | nil => simp [memN]
  | cons x xs ih => simp [memN, ih]

theorem disjN_eq {xs ys : List Nat} (h : disjN xs ys = true) : ∀ d ∈ xs, d ∉ ys := by
  induction xs with
  | nil => simp
  | cons x xs ih =>
    simp only [disjN, Bool.and_eq_true, Bool.not_eq_true'] at h
    intro d hd
    rcases List.mem_cons.1 hd with rfl | hd
    · intro hm; rw [memN_eq.2 hm] at h; cases h.1
    · exact ih h.2 d hd

def optEq : Option Nat → Option Nat → Bool
  | none, none => true
  | some a, some b => Nat.beq a b
  | _, _ => false

theorem optEq_eq {a b : Option Nat} (h : optEq a b = true) : a = b := by
  cases a <;> cases b <;> simp [optEq] at h <;> first | rfl | rw [h]

abbrev Gd := Option (Nat × Bool × Nat)

def guardOk : Gd → Option (Nat × Bool) → Bool
  | none, none => true
  | some (j, w, _), some (j', w') => Nat.beq j j' && w == w'
  | _, _ => false

def X.isL : X → Bool
  | .nil | .cons _ _ => true
  | _ => false

def dOf : Option Nat → RO
  | none => .n
  | some d => .s d

def addW : Option Nat → List Nat → List Nat
  | none, ws => ws
  | some d, ws => d :: ws

def okOp (m : List Nat) (N : Nat) (gd : Gd) (d : Option Nat) (ws : List Nat) (o : Oper) : Bool :=
  optEq d o.dst && (guardOk gd o.guard && (disjN ws m && (match d with
    | some k => Nat.blt k N
    | none => true)))

def okU (P : Program) (G : Nat → Option (List AV)) (m : List Nat) (N : Nat) (gd : Gd) (d : Option Nat) (f : U) : Option (List RO × List Nat × List Oper) → Option (List RO × List Nat × List Oper)
  | some ([r], ws, o :: l) => (match uOf P f o.op with
    | some x => bif roOk G m r x && okOp m N gd d ws o then some ([dOf d], addW d ws, l) else none
    | none => none)
  | _ => none

def okB (P : Program) (G : Nat → Option (List AV)) (m : List Nat) (N : Nat) (gd : Gd) (d : Option Nat) (f : B) (rx ry : RO) (ws : List Nat) : List Oper → Option (List RO × List Nat × List Oper)
  | o :: l => (match bOf P f o.op with
    | some (x, y) => bif roOk G m rx x && (roOk G m ry y && okOp m N gd d ws o) then some ([dOf d], addW d ws, l) else none
    | none => none)
  | _ => none

def okK (P : Program) (G : Nat → Option (List AV)) (m : List Nat) (N : Nat) (gd : Gd) (d : Option Nat) (f : K) : Option (List RO × List Nat × List Oper) → Option (List RO × List Nat × List Oper)
  | some (rs, ws, o :: l) => (match kOf P f o.op with
    | some xs => bif roOks G m rs xs && okOp m N gd d ws o then some ([dOf d], addW d ws, l) else none
    | none => none)
  | _ => none

/-- The last operation behind which so many are left. -/
def lastOf (ops : Array Oper) (l : List Oper) : Nat := ops.size - l.length - 1

def okPick (m : List Nat) (N : Nat) (gd : Gd) (d : Option Nat) (w df : Bool) (dc : Nat) (rb : RO) (ws : List Nat) : List Oper → Option (List RO × List Nat × List Oper)
  | o :: l => (match o.op with
    | .pick (.tmp c) x y =>
      bif Nat.beq c dc && (roOk (fun _ => none) [] rb (bif w then x else y) && (roOk (fun _ => none) [] (.o (.c (.bool df))) (bif w then y else x) && okOp m N gd d ws o)) then some ([dOf d], addW d ws, l) else none
    | _ => none)
  | _ => none

def okGd (m : List Nat) (N : Nat) (ops : Array Oper) (gd : Gd) (d : Option Nat) (w df : Bool) (c : Option (List RO × List Nat × List Oper))
    (b : Gd → List Oper → Option (List RO × List Nat × List Oper)) : Option (List RO × List Nat × List Oper) :=
  match c with
  | some ([.s dc], wc, l1) =>
    (match b (some (lastOf ops l1, w, dc)) l1 with
    | some ([.s db], wb, l2) =>
      bif optEq ((ops[lastOf ops l1]?).bind (·.dst)) (some dc) && (memN dc wc && (disjN wc wb && (disjN wb wc))) then okPick m N gd d w df dc (.s db) (wc ++ wb) l2 else none
    | _ => none)
  | _ => none

def alcOk (P : Program) (z : List AV) (e0 : Nat) (op : Op) : Bool :=
  match op with
  | .alloc e => Nat.beq e e0 && (match P.info? e with
    | some i => (match i.zero with
      | some zv => cOks z zv.cells.toList
      | none => false)
    | none => false)
  | _ => false

def okA (P : Program) (m : List Nat) (N : Nat) (gd : Gd) (d : Option Nat) (z : List AV) (e : Nat) : List Oper → Option (List RO × List Nat × List Oper)
  | o :: l => bif alcOk P z e o.op && okOp m N gd d [] o then some ([dOf d], addW d [], l) else none
  | _ => none

/-- The tree against the operations that are left: where its value stands, which slots are written, what is left then. -/
def okX (P : Program) (G : Nat → Option (List AV)) (m : List Nat) (N : Nat) (ops : Array Oper) : X → Gd → List Oper → Option (List RO × List Nat × List Oper)
  | .od o, _, l => some ([.o o], [], l)
  | .u d f x, gd, l => bif x.isL then none else okU P G m N gd d f (okX P G m N ops x gd l)
  | .b d sw f x y, gd, l =>
    bif x.isL || y.isL then none else
    bif sw then
      (match okX P G m N ops y gd l with
      | some ([ry], wy, l1) => (match okX P G m N ops x gd l1 with
        | some ([rx], wx, l2) => bif disjN wy wx then okB P G m N gd d f rx ry (wy ++ wx) l2 else none
        | _ => none)
      | _ => none)
    else
      (match okX P G m N ops x gd l with
      | some ([rx], wx, l1) => (match okX P G m N ops y gd l1 with
        | some ([ry], wy, l2) => bif disjN wx wy then okB P G m N gd d f rx ry (wx ++ wy) l2 else none
        | _ => none)
      | _ => none)
  | .k d f x, gd, l => bif x.isL then okK P G m N gd d f (okX P G m N ops x gd l) else none
  | .nil, _, l => some ([], [], l)
  | .cons x y, gd, l =>
    bif x.isL || !y.isL then none else
    (match okX P G m N ops x gd l with
    | some ([rx], wx, l1) => (match okX P G m N ops y gd l1 with
      | some (rs, wy, l2) => bif disjN wx wy && disjN wx m then some (rx :: rs, wx ++ wy, l2) else none
      | _ => none)
    | _ => none)
  | .a d z e, gd, l => okA P m N gd d z e l
  | .gd d w df c b, gd, l => bif c.isL || b.isL then none else okGd m N ops gd d w df (okX P G m N ops c gd l) (okX P G m N ops b)

-- ---------------------------------------------------------------- a frame
/-- The executor's frame, and a run's. -/
structure TR (M : Mem) (m : List Nat) (t : Tm) (a : Act) : Prop where
  len : m.length = t.length
  cr : ∀ (i k : Nat), m[i]? = some k → CR M [tget t i] [a.eval (.tmp k)]

/-- Nothing else has been written. -/
structure Same (ws : List Nat) (a a' : Act) : Prop where
  size : a'.tmps.size = a.tmps.size
  defers : a'.defers = a.defers
  keep : ∀ d, d ∉ ws → a'.tmps[d]? = a.tmps[d]?

def roCR (E : Env) (M : Mem) (t : Tm) (a : Act) : RO → AV → Prop
  | .n, _ => True
  | .s d, v => CR M [v] [a.eval (.tmp d)]
  | .o od, v => v = E.ev t od

def roCRs (E : Env) (M : Mem) (t : Tm) (a : Act) : List RO → List AV → Prop
  | [], [] => True
  | r :: rs, v :: vs => roCR E M t a r v ∧ roCRs E M t a rs vs
  | _, _ => False

def vals (l : Bool) (v : AV) : List AV :=
  match l, v with
  | true, .tup vs => vs
  | _, v => [v]

def Holds (ops : Array Oper) (gd : Gd) (a : Act) : Prop :=
  ∀ j w d, gd = some (j, w, d) → (ops[j]?).bind (·.dst) = some d ∧ a.tmps[d]? = some (.bool w)

def Fails (ops : Array Oper) (gd : Gd) (a : Act) : Prop :=
  ∃ j w d, gd = some (j, w, d) ∧ (ops[j]?).bind (·.dst) = some d ∧ a.tmps[d]? ≠ some (.bool w)

def Off (gd : Gd) (ws : List Nat) : Prop := ∀ j w d, gd = some (j, w, d) → d ∉ ws

theorem Same.refl (ws : List Nat) (a : Act) : Same ws a a := ⟨rfl, rfl, fun _ _ => rfl⟩

theorem Same.trans {ws ws' : List Nat} {a b c : Act} (h : Same ws a b) (k : Same ws' b c) : Same (ws ++ ws') a c :=
  ⟨k.size.trans h.size, k.defers.trans h.defers, fun d hd => by
    simp only [List.mem_append, not_or] at hd
    rw [k.keep d hd.2, h.keep d hd.1]⟩

theorem Same.put {a : Act} (d : Option Nat) (v : Value) : Same (addW d []) a (a.put d v) := by
  cases d with
  | none => exact ⟨rfl, rfl, fun _ _ => rfl⟩
  | some d =>
    refine ⟨by simp [Act.put], rfl, fun k hk => ?_⟩
    simp only [addW, List.mem_singleton] at hk
    simp [Act.put, Array.getElem?_setIfInBounds_ne (Ne.symm hk)]

theorem Same.eval {ws : List Nat} {a a' : Act} (h : Same ws a a') {d : Nat} (hd : d ∉ ws) : a'.eval (.tmp d) = a.eval (.tmp d) := by
  simp only [Act.eval, Array.getD_eq_getD_getElem?, h.keep d hd]

theorem eval_put {a : Act} {d : Nat} {v : Value} (h : d < a.tmps.size) : (a.put (some d) v).eval (.tmp d) = v := by
  simp [Act.eval, Act.put, Array.getD_eq_getD_getElem?, Array.getElem?_setIfInBounds_self, h]

theorem TR.mono {M M' : Mem} {m : List Nat} {t : Tm} {a : Act} (h : TR M m t a) (hM : M.le M') : TR M' m t a :=
  ⟨h.len, fun i k hk => (h.cr i k hk).mono hM⟩

theorem TR.same {M : Mem} {m ws : List Nat} {t : Tm} {a a' : Act} (h : TR M m t a) (hs : Same ws a a') (hd : ∀ d ∈ ws, d ∉ m) : TR M m t a' :=
  ⟨h.len, fun i k hk => by rw [hs.eval fun hm => hd k hm (List.mem_of_getElem? hk)]; exact h.cr i k hk⟩

theorem roCR.mono {E : Env} {M M' : Mem} {t : Tm} {a : Act} {r : RO} {v : AV} (h : roCR E M t a r v) (hM : M.le M') : roCR E M' t a r v := by
  cases r with
  | n => exact trivial
  | s d => exact CR.mono hM h
  | o od => exact h

/-- The slots of the places. -/
def roW : RO → List Nat
  | .s d => [d]
  | _ => []

theorem roCR.same {E : Env} {M : Mem} {t : Tm} {a a' : Act} {ws : List Nat} {r : RO} {v : AV} (h : roCR E M t a r v) (hs : Same ws a a') (hd : ∀ d ∈ roW r, d ∉ ws) : roCR E M t a' r v := by
  cases r with
  | n => exact trivial
  | s d => show CR M [v] [a'.eval (.tmp d)]; rw [hs.eval (hd d (by simp [roW]))]; exact h
  | o od => exact h

theorem Holds.same {ops : Array Oper} {gd : Gd} {a a' : Act} {ws : List Nat} (h : Holds ops gd a) (hs : Same ws a a') (ho : Off gd ws) : Holds ops gd a' :=
  fun j w d hg => ⟨(h j w d hg).1, by rw [hs.keep d (ho j w d hg)]; exact (h j w d hg).2⟩

theorem Fails.same {ops : Array Oper} {gd : Gd} {a a' : Act} {ws : List Nat} (h : Fails ops gd a) (hs : Same ws a a') (ho : Off gd ws) : Fails ops gd a' := by
  obtain ⟨j, w, d, hg, h1, h2⟩ := h
  exact ⟨j, w, d, hg, h1, by rw [hs.keep d (ho j w d hg)]; exact h2⟩

theorem Off.left {gd : Gd} {xs ys : List Nat} (h : Off gd (xs ++ ys)) : Off gd xs := fun j w d hg hm => h j w d hg (List.mem_append_left _ hm)
theorem Off.right {gd : Gd} {xs ys : List Nat} (h : Off gd (xs ++ ys)) : Off gd ys := fun j w d hg hm => h j w d hg (List.mem_append_right _ hm)
theorem Off.add {gd : Gd} {d : Option Nat} {ws : List Nat} (h : Off gd (addW d ws)) : Off gd ws := fun j w k hg hm => h j w k hg (by cases d <;> simp [addW, hm])

theorem wanted_yes {ops : Array Oper} {gd : Gd} {a : Act} {o : Oper} (hg : guardOk gd o.guard = true) (h : Holds ops gd a) : Region.wanted o (yielded ops a.tmps) = true := by
  unfold Region.wanted
  cases gd with
  | none => cases ho : o.guard with
    | none => rfl
    | some p => simp [guardOk, ho] at hg
  | some p =>
    obtain ⟨j, w, d⟩ := p
    cases ho : o.guard with
    | none => simp [guardOk, ho] at hg
    | some q =>
      obtain ⟨j', w'⟩ := q
      simp only [guardOk, ho, Bool.and_eq_true, beq_iff_eq] at hg
      have hj := Nat.eq_of_beq_eq_true hg.1
      obtain ⟨rfl, rfl⟩ : j = j' ∧ w = w' := ⟨hj, hg.2⟩
      obtain ⟨h1, h2⟩ := h j w d rfl
      simp [yielded, h1, h2]

theorem wanted_no {ops : Array Oper} {gd : Gd} {a : Act} {o : Oper} (hg : guardOk gd o.guard = true) (h : Fails ops gd a) : Region.wanted o (yielded ops a.tmps) = false := by
  obtain ⟨j, w, d, rfl, h1, h2⟩ := h
  unfold Region.wanted
  cases ho : o.guard with
  | none => simp [guardOk, ho] at hg
  | some q =>
    obtain ⟨j', w'⟩ := q
    simp only [guardOk, ho, Bool.and_eq_true, beq_iff_eq] at hg
    have hj := Nat.eq_of_beq_eq_true hg.1
    obtain ⟨rfl, rfl⟩ : j = j' ∧ w = w' := ⟨hj, hg.2⟩
    cases hd : a.tmps[d]? with
    | none => simp [yielded, h1, hd]
    | some v =>
      cases v <;> simp [yielded, h1, hd]
      rename_i b
      rw [hd] at h2
      intro e; subst e; exact h2 rfl

/-- Where an expression's value stands is written by it. -/
theorem okOp_dst {m : List Nat} {N : Nat} {gd : Gd} {d : Option Nat} {ws : List Nat} {o : Oper} (h : okOp m N gd d ws o = true) :
    o.dst = d ∧ guardOk gd o.guard = true ∧ (∀ k ∈ ws, k ∉ m) ∧ ∀ k, d = some k → k < N := by
  simp only [okOp, Bool.and_eq_true] at h
  obtain ⟨h1, h2, h3, h4⟩ := h
  refine ⟨(optEq_eq h1).symm, h2, disjN_eq h3, fun k hk => ?_⟩
  subst hk
  simpa [Nat.blt_eq] using h4

section
variable {P : Program} {E : Env} {ih : LC → Tm → St → R} {w0 : World} {m : List Nat} {N : Nat} {ops : Array Oper} {t : Tm}

theorem ro_eval {M : Mem} {s : St} {w : World} (hw : W E.gl w0 M s w) {a : Act} (ht : TR M m t a) {r : RO} {x : Operand} {v : AV} (h : roOk E.gl m r x = true) (hv : roCR E M t a r v) : CR M [v] [a.eval x] := by
  cases r with
  | n => cases x <;> simp [roOk] at h
  | s d =>
    cases x <;> simp only [roOk, reduceCtorEq, Bool.false_eq_true] at h
    rw [← Nat.eq_of_beq_eq_true h]; exact hv
  | o od =>
    unfold roCR at hv
    subst hv
    cases od with
    | t i =>
      cases x <;> simp only [roOk, reduceCtorEq, Bool.false_eq_true] at h
      split at h
      · rename_i j hj
        rw [← Nat.eq_of_beq_eq_true h]
        rw [nth_eq] at hj
        exact ht.cr i j hj
      · cases h
    | c v =>
      cases x <;> simp only [roOk, reduceCtorEq, Bool.false_eq_true] at h
      · exact cOk_cr M h
      · exact cOk_cr M h
    | g n =>
      cases x <;> simp only [roOk, reduceCtorEq, Bool.false_eq_true, Bool.and_eq_true] at h
      rw [← Nat.eq_of_beq_eq_true h.1]
      cases hg : E.gl n with
      | none => simp [hg] at h
      | some cs =>
        have := hw.gl n cs hg
        simpa [Env.ev, hg, Act.eval] using this

theorem ros_eval {M : Mem} {s : St} {w : World} (hw : W E.gl w0 M s w) {a : Act} (ht : TR M m t a) : ∀ {rs : List RO} {xs : List Operand} {vs : List AV}, roOks E.gl m rs xs = true → roCRs E M t a rs vs → CR M vs (xs.map a.eval)
  | [], [], [], _, _ => .nil
  | [], [], _ :: _, _, h => h.elim
  | [], _ :: _, _, h, _ => by simp [roOks] at h
  | _ :: _, [], _, h, _ => by simp [roOks] at h
  | _ :: _, _ :: _, [], _, h => h.elim
  | r :: rs, x :: xs, v :: vs, h, hv => by
    simp only [roOks, Bool.and_eq_true] at h
    exact CR.cons (ro_eval hw ht h.1 hv.1) (ros_eval hw ht h.2 hv.2)

theorem cond_some {α : Type} {b : Bool} {x y : α} (h : (bif b then some x else none) = some y) : b = true ∧ x = y := by
  cases b
  · cases h
  · exact ⟨rfl, by simpa using h⟩

theorem okU_inv {G : Nat → Option (List AV)} {gd : Gd} {d : Option Nat} {f : U} {q : Option (List RO × List Nat × List Oper)} {rs : List RO} {ws : List Nat} {l' : List Oper}
    (h : okU P G m N gd d f q = some (rs, ws, l')) :
    ∃ r ws0 o x, q = some ([r], ws0, o :: l') ∧ uOf P f o.op = some x ∧ roOk G m r x = true ∧ okOp m N gd d ws0 o = true ∧ rs = [dOf d] ∧ ws = addW d ws0 := by
  unfold okU at h
  split at h
  · split at h
    · rename_i x hx
      obtain ⟨h1, h2⟩ := cond_some h
      simp only [Bool.and_eq_true] at h1
      simp only [Prod.mk.injEq] at h2
      obtain ⟨rfl, rfl, rfl⟩ := h2
      exact ⟨_, _, _, _, rfl, hx, h1.1, h1.2, rfl, rfl⟩
    · cases h
  · cases h

theorem okB_inv {G : Nat → Option (List AV)} {gd : Gd} {d : Option Nat} {f : B} {rx ry : RO} {ws0 : List Nat} {l : List Oper} {rs : List RO} {ws : List Nat} {l' : List Oper}
    (h : okB P G m N gd d f rx ry ws0 l = some (rs, ws, l')) :
    ∃ o x y, l = o :: l' ∧ bOf P f o.op = some (x, y) ∧ roOk G m rx x = true ∧ roOk G m ry y = true ∧ okOp m N gd d ws0 o = true ∧ rs = [dOf d] ∧ ws = addW d ws0 := by
  unfold okB at h
  split at h
  · split at h
    · rename_i x y hx
      obtain ⟨h1, h2⟩ := cond_some h
      simp only [Bool.and_eq_true] at h1
      simp only [Prod.mk.injEq] at h2
      obtain ⟨rfl, rfl, rfl⟩ := h2
      exact ⟨_, _, _, rfl, hx, h1.1, h1.2.1, h1.2.2, rfl, rfl⟩
    · cases h
  · cases h

theorem okK_inv {G : Nat → Option (List AV)} {gd : Gd} {d : Option Nat} {f : K} {q : Option (List RO × List Nat × List Oper)} {rs : List RO} {ws : List Nat} {l' : List Oper}
    (h : okK P G m N gd d f q = some (rs, ws, l')) :
    ∃ r ws0 o x, q = some (r, ws0, o :: l') ∧ kOf P f o.op = some x ∧ roOks G m r x = true ∧ okOp m N gd d ws0 o = true ∧ rs = [dOf d] ∧ ws = addW d ws0 := by
  unfold okK at h
  split at h
  · split at h
    · rename_i x hx
      obtain ⟨h1, h2⟩ := cond_some h
      simp only [Bool.and_eq_true] at h1
      simp only [Prod.mk.injEq] at h2
      obtain ⟨rfl, rfl, rfl⟩ := h2
      exact ⟨_, _, _, _, rfl, hx, h1.1, h1.2, rfl, rfl⟩
    · cases h
  · cases h

theorem okPick_inv {gd : Gd} {d : Option Nat} {w df : Bool} {dc : Nat} {rb : RO} {ws0 : List Nat} {l : List Oper} {rs : List RO} {ws : List Nat} {l' : List Oper}
    (h : okPick m N gd d w df dc rb ws0 l = some (rs, ws, l')) :
    ∃ o x y, l = o :: l' ∧ o.op = .pick (.tmp dc) x y ∧ roOk (fun _ => none) [] rb (bif w then x else y) = true ∧ roOk (fun _ => none) [] (.o (.c (.bool df))) (bif w then y else x) = true ∧
      okOp m N gd d ws0 o = true ∧ rs = [dOf d] ∧ ws = addW d ws0 := by
  unfold okPick at h
  split at h
  · split at h
    · rename_i c x y hx
      obtain ⟨h1, h2⟩ := cond_some h
      simp only [Bool.and_eq_true] at h1
      simp only [Prod.mk.injEq] at h2
      obtain ⟨rfl, rfl, rfl⟩ := h2
      have hc := Nat.eq_of_beq_eq_true h1.1
      subst hc
      exact ⟨_, _, _, rfl, hx, h1.2.1, h1.2.2.1, h1.2.2.2, rfl, rfl⟩
    · cases h
  · cases h

/-- What is said of an expression. -/
structure XOk (P : Program) (E : Env) (ih : LC → Tm → St → R) (w0 : World) (m : List Nat) (N : Nat) (ops : Array Oper) (t : Tm) (x : X) (gd : Gd) (l : List Oper) (rs : List RO) (ws : List Nat) (l' : List Oper) : Prop where
  ro : ∀ r ∈ rs, ∀ d ∈ roW r, d ∈ ws
  yes : ∀ s v s' M w a, evX E ih t x s = .ok v s' → W E.gl w0 M s w → TR M m t a → N ≤ a.tmps.size → Holds ops gd a → Off gd ws → ∀ Q : Exit → Act → World → Prop,
    (∀ a' M' w', Ext M s M' s' → W E.gl w0 M' s' w' → Same ws a a' → roCRs E M' t a' rs (vals x.isL v) → wpList P ops Q l' a' w') → wpList P ops Q l a w
  no : ∀ a w, N ≤ a.tmps.size → Fails ops gd a → Off gd ws → ∀ Q : Exit → Act → World → Prop,
    (∀ a', Same ws a a' → (∀ r ∈ rs, ∀ d ∈ roW r, a'.tmps[d]? = some undef) → wpList P ops Q l' a' w) → wpList P ops Q l a w

theorem ro_dOf (d : Option Nat) (ws : List Nat) : ∀ r ∈ [dOf d], ∀ k ∈ roW r, k ∈ addW d ws := by
  intro r hr k hk
  simp only [List.mem_singleton] at hr
  subst hr
  cases d <;> simp_all [dOf, roW, addW]

theorem did_alc {G : Nat → Option (List AV)} {M : Mem} {s : St} {w : World} {o : Oper} {ρ : Operand → Value} {z : List AV} {v : AV} {s' : St} (hw : W G w0 M s w) {e0 : Nat} (ho : alcOk P z e0 o.op = true) (h : newBox e0 z s = .ok v s') : Did P G w0 M s o ρ w v s' := by
  unfold alcOk at ho
  split at ho
  · rename_i e heq
    simp only [Bool.and_eq_true] at ho
    obtain ⟨he0, ho⟩ := ho
    have := Nat.eq_of_beq_eq_true he0
    subst this
    cases hi : P.info? e with
    | none => simp [hi] at ho
    | some i =>
      cases hz : i.zero with
      | none => simp [hi, hz] at ho
      | some zv =>
        simp only [hi, hz] at ho
        unfold newBox at h
        cases h
        obtain ⟨h1, h2⟩ := hw.newBox (cOks_cr M _ z _ (Nat.le_refl _) ho) e
        exact ⟨_, .pointer (some ⟨w.heap.size, 0, none⟩), _, .value _, by simp [execOp, heq, Instr.alloc, zeroValue, typeInfo, hi, hz, newVar, newRow], .inl rfl, h2, h1, .ptr (by simp [Mem.box]) .nil⟩
  · cases ho

theorem step_yes {M : Mem} {s s' : St} {w : World} {a : Act} {v : AV} {o : Oper} {gd : Gd} {d : Option Nat} {ws : List Nat} {l : List Oper} {Q : Exit → Act → World → Prop} (ho : okOp m N gd d ws o = true)
    (hn : N ≤ a.tmps.size) (hh : Holds ops gd a) (hd : OpDid P E.gl w0 M s o a w v s')
    (h : ∀ a' M' w', Ext M s M' s' → W E.gl w0 M' s' w' → Same (addW d []) a a' → roCRs E M' t a' [dOf d] [v] → wpList P ops Q l a' w') : wpList P ops Q (o :: l) a w := by
  obtain ⟨h1, h2, h3, h4⟩ := okOp_dst ho
  unfold wpList
  rw [if_pos (wanted_yes h2 hh)]
  refine .inl (hd _ _ fun M' v' w' k1 k2 k3 => h _ M' w' k1 k2 (by rw [h1]; exact Same.put d v') ?_)
  rw [h1]
  cases d with
  | none => exact ⟨trivial, trivial⟩
  | some k =>
    refine ⟨?_, trivial⟩
    show CR M' [v] [(a.put (some k) v').eval (.tmp k)]
    rw [eval_put (Nat.lt_of_lt_of_le (h4 k rfl) hn)]
    exact k3

theorem step_no {w : World} {a : Act} {o : Oper} {gd : Gd} {d : Option Nat} {ws : List Nat} {l : List Oper} {Q : Exit → Act → World → Prop} (ho : okOp m N gd d ws o = true)
    (hn : N ≤ a.tmps.size) (hh : Fails ops gd a)
    (h : ∀ a', Same (addW d []) a a' → (∀ r ∈ [dOf d], ∀ k ∈ roW r, a'.tmps[k]? = some undef) → wpList P ops Q l a' w) : wpList P ops Q (o :: l) a w := by
  obtain ⟨h1, h2, h3, h4⟩ := okOp_dst ho
  refine wpList_skip (wanted_no h2 hh) (h _ (by rw [h1]; exact Same.put d undef) ?_)
  rw [h1]
  intro r hr k hk
  simp only [List.mem_singleton] at hr
  subst hr
  cases d with
  | none => simp [dOf, roW] at hk
  | some d =>
    simp only [dOf, roW, List.mem_singleton] at hk
    subst hk
    have := Nat.lt_of_lt_of_le (h4 k rfl) hn
    simp [Act.put, Array.getElem?_setIfInBounds_self, this]

theorem addW_append (d : Option Nat) (ws : List Nat) {a b c : Act} (h : Same ws a b) (k : Same (addW d []) b c) : Same (addW d ws) a c := by
  have := h.trans k
  refine ⟨this.size, this.defers, fun q hq => this.keep q ?_⟩
  cases d <;> simp_all [addW]

theorem vals_false (v : AV) : vals false v = [v] := by unfold vals; split <;> simp_all

theorem bnd_ok {r : Rv} {f : AV → St → Rv} {v : AV} {s' : St} (h : bnd r f = .ok v s') : ∃ v1 s1, r = .ok v1 s1 ∧ f v1 s1 = .ok v s' := by
  cases r with
  | no => cases h
  | ok v1 s1 => exact ⟨v1, s1, rfl, h⟩

theorem evX_ok (hC : CallsOk P E.gl w0 (callA E ih)) : ∀ (x : X) (gd : Gd) (l : List Oper) (rs : List RO) (ws : List Nat) (l' : List Oper), okX P E.gl m N ops x gd l = some (rs, ws, l') →
    XOk P E ih w0 m N ops t x gd l rs ws l' := by
  intro x
  induction x with
  | od o =>
    intro gd l rs ws l' h
    simp only [okX, Option.some.injEq, Prod.mk.injEq] at h
    obtain ⟨rfl, rfl, rfl⟩ := h
    refine ⟨fun r hr d hd => by simp at hr; subst hr; simp [roW] at hd, ?_, ?_⟩
    · intro s v s' M w a hv hw ht hn hh ho Q hk
      rw [evX_od] at hv
      cases hv
      exact hk a M w (.refl M s) hw (.refl _ a) ⟨rfl, trivial⟩
    · intro a w hn hf ho Q hk
      exact hk a (.refl _ a) (fun r hr d hd => by simp at hr; subst hr; simp [roW] at hd)
  | u d f x ihx =>
    intro gd l rs ws l' h
    simp only [okX] at h
    cases hl : x.isL with
    | true => simp [hl] at h
    | false =>
      simp only [hl, cond_false] at h
      obtain ⟨r, ws0, o, y, hq, h1, h2, h3, rfl, rfl⟩ := okU_inv h
      have hx := ihx gd l _ _ _ hq
      refine ⟨ro_dOf d ws0, ?_, ?_⟩
      · intro s v s' M w a hv hw ht hn hh ho Q hk
        rw [evX_u] at hv
        obtain ⟨v1, s1, hv1, hv2⟩ := bnd_ok hv
        refine hx.yes s v1 s1 M w a hv1 hw ht hn hh ho.add Q fun a1 M1 w1 e1 hw1 hs1 hr1 => ?_
        rw [hl, vals_false] at hr1
        have ht1 : TR M1 m t a1 := (ht.mono e1.le).same hs1 (okOp_dst h3).2.2.1
        refine step_yes (t := t) h3 (by rw [hs1.size]; exact hn) (hh.same hs1 ho.add) (did_u hw1 h1 (ro_eval hw1 ht1 h2 hr1.1) hv2).op fun a2 M2 w2 e2 hw2 hs2 hr2 => ?_
        exact hk a2 M2 w2 (e1.trans e2) hw2 (addW_append d ws0 hs1 hs2) (by rw [show (X.u d f x).isL = false from rfl, vals_false]; exact hr2)
      · intro a w hn hf ho Q hk
        refine hx.no a w hn hf ho.add Q fun a1 hs1 _ => ?_
        refine step_no h3 (by rw [hs1.size]; exact hn) (hf.same hs1 ho.add) fun a2 hs2 hr2 => ?_
        exact hk a2 (addW_append d ws0 hs1 hs2) hr2
  | b d sw f x y ihx ihy =>
    intro gd l rs ws l' h
    simp only [okX] at h
    cases hlx : x.isL with
    | true => simp [hlx] at h
    | false =>
      cases hly : y.isL with
      | true => simp [hlx, hly] at h
      | false =>
        simp only [hlx, hly, Bool.or_false, cond_false] at h
        cases sw with
        | true =>
          simp only [cond_true] at h
          split at h
          · rename_i ry wy l1 hqy
            split at h
            · rename_i rx wx l2 hqx
              cases hdj : disjN wy wx with
              | false => simp [hdj] at h
              | true =>
                simp only [hdj, cond_true] at h
                obtain ⟨o, x', y', rfl, h1, h2, h3, h4, rfl, rfl⟩ := okB_inv h
                have hx := ihx gd l1 _ _ _ hqx
                have hy := ihy gd l _ _ _ hqy
                refine ⟨ro_dOf d _, ?_, ?_⟩
                · intro s v s' M w a hv hw ht hn hh ho Q hk
                  rw [evX_bs] at hv
                  obtain ⟨v1, s1, hv1, hv2⟩ := bnd_ok hv
                  obtain ⟨v2, s2, hv2, hv3⟩ := bnd_ok hv2
                  have hm := (okOp_dst h4).2.2.1
                  refine hy.yes s v1 s1 M w a hv1 hw ht hn hh ho.add.left Q fun a1 M1 w1 e1 hw1 hs1 hr1 => ?_
                  rw [hly, vals_false] at hr1
                  have ht1 : TR M1 m t a1 := (ht.mono e1.le).same hs1 fun d hd => hm d (List.mem_append_left _ hd)
                  refine hx.yes s1 v2 s2 M1 w1 a1 hv2 hw1 ht1 (by rw [hs1.size]; exact hn) (hh.same hs1 ho.add.left) ho.add.right Q fun a2 M2 w2 e2 hw2 hs2 hr2 => ?_
                  rw [hlx, vals_false] at hr2
                  have ht2 : TR M2 m t a2 := (ht1.mono e2.le).same hs2 fun d hd => hm d (List.mem_append_right _ hd)
                  have hr1' : roCR E M2 t a2 ry v1 := (hr1.1.mono e2.le).same hs2 fun d hd => disjN_eq hdj d (hy.ro _ (by simp) d hd)
                  refine step_yes (t := t) h4 (by rw [hs2.size, hs1.size]; exact hn) ((hh.same hs1 ho.add.left).same hs2 ho.add.right)
                    (did_b hw2 h1 (ro_eval hw2 ht2 h2 hr2.1) (ro_eval hw2 ht2 h3 hr1') hv3).op fun a3 M3 w3 e3 hw3 hs3 hr3 => ?_
                  exact hk a3 M3 w3 ((e1.trans e2).trans e3) hw3 (addW_append d _ (hs1.trans hs2) hs3) (by rw [show (X.b d true f x y).isL = false from rfl, vals_false]; exact hr3)
                · intro a w hn hf ho Q hk
                  refine hy.no a w hn hf ho.add.left Q fun a1 hs1 _ => ?_
                  refine hx.no a1 w (by rw [hs1.size]; exact hn) (hf.same hs1 ho.add.left) ho.add.right Q fun a2 hs2 _ => ?_
                  refine step_no h4 (by rw [hs2.size, hs1.size]; exact hn) ((hf.same hs1 ho.add.left).same hs2 ho.add.right) fun a3 hs3 hr3 => ?_
                  exact hk a3 (addW_append d _ (hs1.trans hs2) hs3) hr3
            · cases h
          · cases h
        | false =>
          simp only [cond_false] at h
          split at h
          · rename_i rx wx l1 hqx
            split at h
            · rename_i ry wy l2 hqy
              cases hdj : disjN wx wy with
              | false => simp [hdj] at h
              | true =>
                simp only [hdj, cond_true] at h
                obtain ⟨o, x', y', rfl, h1, h2, h3, h4, rfl, rfl⟩ := okB_inv h
                have hx := ihx gd l _ _ _ hqx
                have hy := ihy gd l1 _ _ _ hqy
                refine ⟨ro_dOf d _, ?_, ?_⟩
                · intro s v s' M w a hv hw ht hn hh ho Q hk
                  rw [evX_b] at hv
                  obtain ⟨v1, s1, hv1, hv2⟩ := bnd_ok hv
                  obtain ⟨v2, s2, hv2, hv3⟩ := bnd_ok hv2
                  have hm := (okOp_dst h4).2.2.1
                  refine hx.yes s v1 s1 M w a hv1 hw ht hn hh ho.add.left Q fun a1 M1 w1 e1 hw1 hs1 hr1 => ?_
                  rw [hlx, vals_false] at hr1
                  have ht1 : TR M1 m t a1 := (ht.mono e1.le).same hs1 fun d hd => hm d (List.mem_append_left _ hd)
                  refine hy.yes s1 v2 s2 M1 w1 a1 hv2 hw1 ht1 (by rw [hs1.size]; exact hn) (hh.same hs1 ho.add.left) ho.add.right Q fun a2 M2 w2 e2 hw2 hs2 hr2 => ?_
                  rw [hly, vals_false] at hr2
                  have ht2 : TR M2 m t a2 := (ht1.mono e2.le).same hs2 fun d hd => hm d (List.mem_append_right _ hd)
                  have hr1' : roCR E M2 t a2 rx v1 := (hr1.1.mono e2.le).same hs2 fun d hd => disjN_eq hdj d (hx.ro _ (by simp) d hd)
                  refine step_yes (t := t) h4 (by rw [hs2.size, hs1.size]; exact hn) ((hh.same hs1 ho.add.left).same hs2 ho.add.right)
                    (did_b hw2 h1 (ro_eval hw2 ht2 h2 hr1') (ro_eval hw2 ht2 h3 hr2.1) hv3).op fun a3 M3 w3 e3 hw3 hs3 hr3 => ?_
                  exact hk a3 M3 w3 ((e1.trans e2).trans e3) hw3 (addW_append d _ (hs1.trans hs2) hs3) (by rw [show (X.b d false f x y).isL = false from rfl, vals_false]; exact hr3)
                · intro a w hn hf ho Q hk
                  refine hx.no a w hn hf ho.add.left Q fun a1 hs1 _ => ?_
                  refine hy.no a1 w (by rw [hs1.size]; exact hn) (hf.same hs1 ho.add.left) ho.add.right Q fun a2 hs2 _ => ?_
                  refine step_no h4 (by rw [hs2.size, hs1.size]; exact hn) ((hf.same hs1 ho.add.left).same hs2 ho.add.right) fun a3 hs3 hr3 => ?_
                  exact hk a3 (addW_append d _ (hs1.trans hs2) hs3) hr3
            · cases h
          · cases h
  | k d f x ihx =>
    intro gd l rs ws l' h
    simp only [okX] at h
    cases hl : x.isL with
    | false => simp [hl] at h
    | true =>
      simp only [hl, cond_true] at h
      obtain ⟨r, ws0, o, y, hq, h1, h2, h3, rfl, rfl⟩ := okK_inv h
      have hx := ihx gd l _ _ _ hq
      refine ⟨ro_dOf d ws0, ?_, ?_⟩
      · intro s v s' M w a hv hw ht hn hh ho Q hk
        rw [evX_k] at hv
        obtain ⟨v1, s1, hv1, hv2⟩ := bnd_ok hv
        refine hx.yes s v1 s1 M w a hv1 hw ht hn hh ho.add Q fun a1 M1 w1 e1 hw1 hs1 hr1 => ?_
        rw [hl] at hr1
        have ht1 : TR M1 m t a1 := (ht.mono e1.le).same hs1 (okOp_dst h3).2.2.1
        unfold apKt at hv2
        split at hv2
        · rename_i vs
          refine step_yes (t := t) h3 (by rw [hs1.size]; exact hn) (hh.same hs1 ho.add) (did_k hC hw1 h1 (ros_eval hw1 ht1 h2 hr1) hv2) fun a2 M2 w2 e2 hw2 hs2 hr2 => ?_
          exact hk a2 M2 w2 (e1.trans e2) hw2 (addW_append d ws0 hs1 hs2) (by rw [show (X.k d f x).isL = false from rfl, vals_false]; exact hr2)
        · cases hv2
      · intro a w hn hf ho Q hk
        refine hx.no a w hn hf ho.add Q fun a1 hs1 _ => ?_
        refine step_no h3 (by rw [hs1.size]; exact hn) (hf.same hs1 ho.add) fun a2 hs2 hr2 => ?_
        exact hk a2 (addW_append d ws0 hs1 hs2) hr2
  | nil =>
    intro gd l rs ws l' h
    simp only [okX, Option.some.injEq, Prod.mk.injEq] at h
    obtain ⟨rfl, rfl, rfl⟩ := h
    refine ⟨by simp, ?_, ?_⟩
    · intro s v s' M w a hv hw ht hn hh ho Q hk
      rw [evX_nil] at hv
      cases hv
      exact hk a M w (.refl M s) hw (.refl _ a) trivial
    · intro a w hn hf ho Q hk
      exact hk a (.refl _ a) (by simp)
  | cons x y ihx ihy =>
    intro gd l rs ws l' h
    simp only [okX] at h
    cases hlx : x.isL with
    | true => simp [hlx] at h
    | false =>
      cases hly : y.isL with
      | false => simp [hlx, hly] at h
      | true =>
        simp only [hlx, hly, Bool.not_true, Bool.or_false, cond_false] at h
        split at h
        · rename_i rx wx l1 hqx
          split at h
          · rename_i ry wy l2 hqy
            obtain ⟨hdj, he⟩ := cond_some h
            simp only [Bool.and_eq_true] at hdj
            obtain ⟨hdj, hdm⟩ := hdj
            simp only [Prod.mk.injEq] at he
            obtain ⟨rfl, rfl, rfl⟩ := he
            have hx := ihx gd l _ _ _ hqx
            have hy := ihy gd l1 _ _ _ hqy
            refine ⟨?_, ?_, ?_⟩
            · intro r hr d hd
              rcases List.mem_cons.1 hr with rfl | hr
              · exact List.mem_append_left _ (hx.ro _ (by simp) d hd)
              · exact List.mem_append_right _ (hy.ro r hr d hd)
            · intro s v s' M w a hv hw ht hn hh ho Q hk
              rw [evX_cons] at hv
              obtain ⟨v1, s1, hv1, hv2⟩ := bnd_ok hv
              obtain ⟨v2, s2, hv2, hv3⟩ := bnd_ok hv2
              refine hx.yes s v1 s1 M w a hv1 hw ht hn hh ho.left Q fun a1 M1 w1 e1 hw1 hs1 hr1 => ?_
              rw [hlx, vals_false] at hr1
              have ht1 : TR M1 m t a1 := (ht.mono e1.le).same hs1 (disjN_eq hdm)
              refine hy.yes s1 v2 s2 M1 w1 a1 hv2 hw1 ht1 (by rw [hs1.size]; exact hn) (hh.same hs1 ho.left) ho.right Q fun a2 M2 w2 e2 hw2 hs2 hr2 => ?_
              rw [hly] at hr2
              unfold consA at hv3
              split at hv3
              · cases hv3
                exact hk a2 M2 w2 (e1.trans e2) hw2 (hs1.trans hs2) ⟨(hr1.1.mono e2.le).same hs2 fun d hd => disjN_eq hdj d (hx.ro _ (by simp) d hd), hr2⟩
              · cases hv3
            · intro a w hn hf ho Q hk
              refine hx.no a w hn hf ho.left Q fun a1 hs1 hr1 => ?_
              refine hy.no a1 w (by rw [hs1.size]; exact hn) (hf.same hs1 ho.left) ho.right Q fun a2 hs2 hr2 => ?_
              refine hk a2 (hs1.trans hs2) fun r hr d hd => ?_
              rcases List.mem_cons.1 hr with rfl | hr
              · rw [hs2.keep d (disjN_eq hdj d (hx.ro _ (by simp) d hd))]; exact hr1 _ (by simp) d hd
              · exact hr2 r hr d hd
          · cases h
        · cases h
  | a d z e =>
    intro gd l rs ws l' h
    simp only [okX, okA] at h
    split at h
    · rename_i o l0
      obtain ⟨hc, he⟩ := cond_some h
      simp only [Prod.mk.injEq] at he
      obtain ⟨rfl, rfl, rfl⟩ := he
      simp only [Bool.and_eq_true] at hc
      refine ⟨ro_dOf d [], ?_, ?_⟩
      · intro s v s' M w a hv hw ht hn hh ho Q hk
        rw [evX_a] at hv
        exact step_yes (t := t) hc.2 hn hh (did_alc hw hc.1 hv).op fun a2 M2 w2 e2 hw2 hs2 hr2 => hk a2 M2 w2 e2 hw2 hs2 (by rw [show (X.a d z e).isL = false from rfl, vals_false]; exact hr2)
      · intro a w hn hf ho Q hk
        exact step_no hc.2 hn hf fun a2 hs2 hr2 => hk a2 hs2 hr2
    · cases h
  | gd d w df c b ihc ihb =>
    intro gd l rs ws l' h
    simp only [okX] at h
    cases hlc : c.isL with
    | true => simp [hlc] at h
    | false =>
      cases hlb : b.isL with
      | true => simp [hlc, hlb] at h
      | false =>
        simp only [hlc, hlb, Bool.or_false, cond_false] at h
        unfold okGd at h
        split at h
        · rename_i dc wc l1 hqc
          split at h
          · rename_i db wb l2 hqb
            cases hcond : optEq ((ops[lastOf ops l1]?).bind (·.dst)) (some dc) && (memN dc wc && (disjN wc wb && disjN wb wc)) with
            | false => simp [hcond] at h
            | true =>
              simp only [hcond, cond_true] at h
              simp only [Bool.and_eq_true] at hcond
              obtain ⟨c1, c2, c3, c4⟩ := hcond
              have c1 := optEq_eq c1
              have c2 := memN_eq.1 c2
              have c3 := disjN_eq c3
              have c4 := disjN_eq c4
              obtain ⟨o, x', y', rfl, h1, h2, h3, h4, rfl, rfl⟩ := okPick_inv h
              have hc := ihc gd l _ _ _ hqc
              have hb := ihb _ l1 _ _ _ hqb
              have hoffb : Off (some (lastOf ops l1, w, dc)) wb := fun j w' d' hg hm => by cases hg; exact c3 _ c2 hm
              refine ⟨ro_dOf d _, ?_, ?_⟩
              · intro s v s' M w1 a hv hw ht hn hh ho Q hk
                rw [evX_gd] at hv
                obtain ⟨vc, s1, hv1, hv2⟩ := bnd_ok hv
                have hm := (okOp_dst h4).2.2.1
                refine hc.yes s vc s1 M w1 a hv1 hw ht hn hh ho.add.left Q fun a1 M1 w2 e1 hw1 hs1 hr0 => ?_
                rw [hlc, vals_false] at hr0
                have ht1 : TR M1 m t a1 := (ht.mono e1.le).same hs1 fun d hd => hm d (List.mem_append_left _ hd)
                have hr1 : CR M1 [vc] [a1.eval (.tmp dc)] := hr0.1
                clear hr0
                unfold gdA at hv2
                split at hv2
                · rename_i cb
                  generalize hge : a1.eval (.tmp dc) = rc at *
                  cases hr1
                  have hdc : a1.tmps[dc]? = some (.bool cb) := by
                    simp only [Act.eval, Array.getD_eq_getD_getElem?] at hge
                    cases hq : a1.tmps[dc]? with
                    | none => rw [hq] at hge; exact absurd hge (by simp [undef])
                    | some q => rw [hq] at hge; simp at hge; rw [hge]
                  have fin : ∀ a2 M2 w3 s2, Ext M1 s1 M2 s2 → W E.gl w0 M2 s2 w3 → Same wb a1 a2 → CR M2 [v] [if cb then a2.eval x' else a2.eval y'] → s2 = s' → wpList P ops Q (o :: l') a2 w3 := by
                    intro a2 M2 w3 s2 e2 hw2 hs2 hcr he
                    subst he
                    have hdc2 : a2.eval (.tmp dc) = .bool cb := by rw [hs2.eval (c3 _ c2), hge]
                    have hD : Did P E.gl w0 M2 s2 o a2.eval w3 v s2 := Did.pure hw2 (v' := if cb then a2.eval x' else a2.eval y') (by simp [execOp, h1, hdc2, asBool]) hcr
                    refine step_yes (t := t) h4 (by rw [hs2.size, hs1.size]; exact hn) ((hh.same hs1 ho.add.left).same hs2 ho.add.right) hD.op fun a3 M3 w4 e3 hw3 hs3 hr3 => ?_
                    exact hk a3 M3 w4 ((e1.trans e2).trans e3) hw3 (addW_append d _ (hs1.trans hs2) hs3) (by rw [show (X.gd d w df c b).isL = false from rfl, vals_false]; exact hr3)
                  cases hcw : (cb == w) with
                  | true =>
                    simp only [hcw, cond_true] at hv2
                    have hcw' : cb = w := by simpa using hcw
                    subst hcw'
                    refine hb.yes s1 v s' M1 w2 a1 hv2 hw1 ht1 (by rw [hs1.size]; exact hn) (fun j w' d' hg => by cases hg; exact ⟨c1, hdc⟩) hoffb Q fun a2 M2 w3 e2 hw2 hs2 hr2 => ?_
                    rw [hlb, vals_false] at hr2
                    refine fin a2 M2 w3 s' e2 hw2 hs2 ?_ rfl
                    have hr2 : CR M2 [v] [a2.eval (.tmp db)] := hr2.1
                    have hx : roOk (fun _ => none) [] (.s db) (if cb then x' else y') = true := by cases cb <;> exact h2
                    have : (if cb then a2.eval x' else a2.eval y') = a2.eval (if cb then x' else y') := by cases cb <;> rfl
                    rw [this]
                    generalize (if cb then x' else y') = z at *
                    cases z <;> simp only [roOk, reduceCtorEq, Bool.false_eq_true] at hx
                    rw [← Nat.eq_of_beq_eq_true hx]; exact hr2
                  | false =>
                    simp only [hcw, cond_false] at hv2
                    obtain ⟨rfl, rfl⟩ : AV.bool df = v ∧ s1 = s' := by cases hv2; exact ⟨rfl, rfl⟩
                    have hcw' : cb = !w := by cases cb <;> cases w <;> simp_all
                    refine hb.no a1 w2 (by rw [hs1.size]; exact hn) ⟨_, _, _, rfl, c1, by rw [hdc, hcw']; simp⟩ hoffb Q fun a2 hs2 _ => ?_
                    refine fin a2 M1 w2 s1 (.refl _ _) hw1 hs2 ?_ rfl
                    have hx : roOk (fun _ => none) [] (.o (.c (.bool df))) (if cb then x' else y') = true := by
                      cases w <;> simp_all
                    have : (if cb then a2.eval x' else a2.eval y') = a2.eval (if cb then x' else y') := by cases cb <;> rfl
                    rw [this]
                    generalize (if cb then x' else y') = z at *
                    cases z <;> simp only [roOk, reduceCtorEq, Bool.false_eq_true] at hx
                    · exact cOk_cr M1 hx
                    · simp [cOk] at hx
                · cases hv2
              · intro a w1 hn hf ho Q hk
                refine hc.no a w1 hn hf ho.add.left Q fun a1 hs1 hr1 => ?_
                have hu : a1.tmps[dc]? = some undef := hr1 (.s dc) (by simp) dc (by simp [roW])
                refine hb.no a1 w1 (by rw [hs1.size]; exact hn) ⟨_, _, _, rfl, c1, by rw [hu]; simp [undef]⟩ hoffb Q fun a2 hs2 _ => ?_
                refine step_no h4 (by rw [hs2.size, hs1.size]; exact hn) ((hf.same hs1 ho.add.left).same hs2 ho.add.right) fun a3 hs3 hr3 => ?_
                exact hk a3 (addW_append d _ (hs1.trans hs2) hs3) hr3
          · cases h
        · cases h
end

end Go.Proofs.YtmoihglcdmmmlaaGreatDoor
