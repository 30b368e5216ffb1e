/-
  Statements: a region that runs in the order of the text.
-/
import Derived.Test.YtmoihglcdmmmlaaGreatDoorAb14
set_option linter.unusedSimpArgs false
set_option linter.unusedVariables false
namespace Go.Proofs.YtmoihglcdmmmlaaGreatDoor
open Go Go.RowKit

/-- Of the slots that are written, none but this one is the frame's. -/
def butN (k : Nat) (m : List Nat) : List Nat → Bool
  | [] => true
  | x :: xs => (Nat.beq x k || !memN x m) && butN k m xs

theorem butN_eq {k : Nat} {m ws : List Nat} (h : butN k m ws = true) : ∀ d ∈ ws, d = k ∨ d ∉ m := by
  induction ws with
  | nil => simp
  | cons x xs ih =>
    simp only [butN, Bool.and_eq_true, Bool.or_eq_true, Bool.not_eq_true'] at h
    intro d hd
    rcases List.mem_cons.1 hd with rfl | hd
    · rcases h.1 with h1 | h1
      · exact .inl (Nat.eq_of_beq_eq_true h1)
      · exact .inr fun hm => by rw [memN_eq.2 hm] at h1; cases h1
    · exact ih h.2 d hd

def rootOk (m : List Nat) (d : Option Nat) (r : RO) (ws : List Nat) : Bool :=
  match d with
  | none => disjN ws m
  | some i => (match r, nth m i with
    | .s k, some k' => Nat.beq k k' && butN k m ws
    | _, _ => false)

/-- The guard of a statement. -/
def stGd (m : List Nat) (g : Option (Nat × Bool)) (l : List Oper) : Option Gd :=
  match g with
  | none => some none
  | some (i, b) => (match nth m i, l with
    | some k, o :: _ => (match o.guard with
      | some (j, _) => some (some (j, b, k))
      | none => none)
    | _, _ => none)

def gdIs (ops : Array Oper) (gd : Gd) (ws : List Nat) : Bool :=
  match gd with
  | none => true
  | some (j, _, k) => optEq ((ops[j]?).bind (·.dst)) (some k) && !memN k ws

def isOd : X → Bool
  | .od _ => true
  | _ => false

def okS (P : Program) (G : Nat → Option (List AV)) (m : List Nat) (N : Nat) (ops : Array Oper) : List LS → List Oper → Bool
  | [], l => (match l with
    | [] => true
    | _ => false)
  | s :: ss, l =>
    match stGd m s.g l with
    | none => false
    | some gd => bif s.x.isL || isOd s.x then false else
      (match okX P G m N ops s.x gd l with
      | some ([r], ws, l') => gdIs ops gd ws && (rootOk m s.d r ws && okS P G m N ops ss l')
      | _ => false)

def nodupN : List Nat → Bool
  | [] => true
  | x :: xs => !memN x xs && nodupN xs

theorem nodupN_eq {l : List Nat} (h : nodupN l = true) : ∀ (i j : Nat) (x : Nat), l[i]? = some x → l[j]? = some x → i = j := by
  induction l with
  | nil => intro i j x hi; simp at hi
  | cons y ys ih =>
    simp only [nodupN, Bool.and_eq_true, Bool.not_eq_true'] at h
    have hn : y ∉ ys := fun hm => by rw [memN_eq.2 hm] at h; cases h.1
    intro i j x hi hj
    cases i with
    | zero =>
      cases j with
      | zero => rfl
      | succ j =>
        simp at hi hj
        subst hi
        exact absurd (List.mem_of_getElem? hj) hn
    | succ i =>
      cases j with
      | zero =>
        simp at hi hj
        subst hj
        exact absurd (List.mem_of_getElem? hi) hn
      | succ j =>
        simp at hi hj
        rw [ih h.2 i j x hi hj]

theorem tget_eq : ∀ (t : Tm) (i : Nat), tget t i = t.getD i undefA
  | [], i => rfl
  | x :: xs, 0 => rfl
  | x :: xs, i + 1 => by rw [tget_succ, tget_eq xs i]; simp

theorem tset_eq : ∀ (t : Tm) (i : Nat) (v : AV), tset t i v = t.set i v
  | [], i, v => rfl
  | x :: xs, 0, v => rfl
  | x :: xs, i + 1, v => by rw [tset_succ, tset_eq xs i v]; rfl

theorem tget_tset (t : Tm) (i j : Nat) (v : AV) (h : i < t.length) : tget (tset t i v) j = if j = i then v else tget t j := by
  rw [tget_eq, tset_eq, tget_eq]
  simp only [List.getD_eq_getElem?_getD, List.getElem?_set]
  by_cases hj : j = i
  · subst hj; simp [h]
  · rw [if_neg (Ne.symm hj), if_neg hj]

theorem tset_length (t : Tm) (i : Nat) (v : AV) : (tset t i v).length = t.length := by rw [tset_eq]; simp

section
variable {P : Program} {E : Env} {ih : LC → Tm → St → R} {w0 : World} {m : List Nat} {N : Nat} {ops : Array Oper}

/-- The frame, when a value has been put where a statement puts it. -/
theorem TR.root {M M' : Mem} {t : Tm} {a a' : Act} {d : Option Nat} {r : RO} {ws : List Nat} {v : AV} (hnd : nodupN m = true) (ht : TR M m t a) (hM : M.le M') (hs : Same ws a a') (hr : rootOk m d r ws = true)
    (hv : ∀ k, r = .s k → CR M' [v] [a'.eval (.tmp k)]) : TR M' m (putA t d v) a' := by
  cases d with
  | none => exact (ht.mono hM).same hs (disjN_eq hr)
  | some i =>
    unfold rootOk at hr
    simp only at hr
    split at hr
    · rename_i k k' hk
      simp only [Bool.and_eq_true] at hr
      have := Nat.eq_of_beq_eq_true hr.1
      subst this
      rw [nth_eq] at hk
      have hlt : i < t.length := by rw [← ht.len]; exact (List.getElem?_eq_some_iff.1 hk).1
      refine ⟨by rw [putA, tset_length]; exact ht.len, fun j q hj => ?_⟩
      rw [putA, tget_tset _ _ _ _ hlt]
      by_cases hji : j = i
      · subst hji
        rw [hk] at hj; cases hj
        rw [if_pos rfl]
        exact hv k rfl
      · rw [if_neg hji]
        have hq : q ∉ ws := fun hm => by
          rcases butN_eq hr.2 q hm with e | e
          · subst e; exact hji (nodupN_eq hnd j i q hj hk)
          · exact e (List.mem_of_getElem? hj)
        rw [hs.eval hq]
        exact (ht.cr j q hj).mono hM
    · cases hr

theorem cr_bool {M : Mem} {x : AV} {b : Bool} (h : CR M [x] [.bool b]) : x = .bool b := by cases h; rfl

theorem undef_eq : undef = .tuple #[] := rfl

theorem cr_undef (M : Mem) : CR M [undefA] [undef] := .tup (us := #[]) .nil .nil

theorem tmp_of_bool {a : Act} {k : Nat} {b : Bool} (h : a.eval (.tmp k) = .bool b) : a.tmps[k]? = some (.bool b) := by
  simp only [Act.eval, Array.getD_eq_getD_getElem?] at h
  cases hq : a.tmps[k]? with
  | none => rw [hq] at h; exact absurd h (by simp [undef])
  | some q => rw [hq] at h; simp at h; rw [h]

theorem tmp_undef {a : Act} {k : Nat} (h : a.tmps[k]? = some undef) : a.eval (.tmp k) = undef := by
  simp [Act.eval, Array.getD_eq_getD_getElem?, h]

/-- What comes of a region, said of all that may follow. -/
def Post (E : Env) (w0 : World) (m : List Nat) (M : Mem) (s : St) (a : Act) (t' : Tm) (s' : St) (K : Act → World → Prop) : Prop :=
  ∀ a' M' w', Ext M s M' s' → W E.gl w0 M' s' w' → TR M' m t' a' → a'.tmps.size = a.tmps.size → a'.defers = a.defers → K a' w'

theorem Post.next {M M1 : Mem} {s s1 s' : St} {a a1 : Act} {t' : Tm} {K : Act → World → Prop} (h : Post E w0 m M s a t' s' K) (he : Ext M s M1 s1) (h1 : a1.tmps.size = a.tmps.size) (h2 : a1.defers = a.defers) :
    Post E w0 m M1 s1 a1 t' s' K :=
  fun a' M' w' k1 k2 k3 k4 k5 => h a' M' w' (he.trans k1) k2 k3 (k4.trans h1) (k5.trans h2)

theorem stm_ok (hC : CallsOk P E.gl w0 (callA E ih)) (hnd : nodupN m = true) {o : LS} {gd : Gd} {l l' : List Oper} {r : RO} {ws : List Nat} {t : Tm}
    (hg : stGd m o.g l = some gd) (hL : o.x.isL = false) (hx : okX P E.gl m N ops o.x gd l = some ([r], ws, l')) (hgd : gdIs ops gd ws = true) (hr : rootOk m o.d r ws = true)
    {s : St} {k : Tm → St → R} {e : Ex} {t' : Tm} {s' : St} (h : stmA E ih o t s k = .ok e t' s') {M : Mem} {w : World} {a : Act} (hw : W E.gl w0 M s w) (ht : TR M m t a) (hn : N ≤ a.tmps.size)
    {Q : Exit → Act → World → Prop}
    (hk : ∀ t1 s1, k t1 s1 = .ok e t' s' → ∀ a1 M1 w1, Ext M s M1 s1 → W E.gl w0 M1 s1 w1 → TR M1 m t1 a1 → a1.tmps.size = a.tmps.size → a1.defers = a.defers → wpList P ops Q l' a1 w1) :
    wpList P ops Q l a w := by
  have hX := evX_ok (t := t) hC o.x gd l _ _ _ hx
  have hoff : Off gd ws := by
    intro j w' d hg'
    subst hg'
    simp only [gdIs, Bool.and_eq_true, Bool.not_eq_true'] at hgd
    intro hm
    rw [memN_eq.2 hm] at hgd; cases hgd.2
  unfold stmA at h
  have yes : Holds ops gd a → (match evX E ih t o.x s with
    | .ok v s => k (putA t o.d v) s
    | .no => .no) = R.ok e t' s' → wpList P ops Q l a w := by
    intro hh h
    split at h
    · rename_i v s1 hv
      refine hX.yes s v s1 M w a hv hw ht hn hh hoff Q fun a1 M1 w1 e1 hw1 hs1 hr1 => ?_
      rw [hL, vals_false] at hr1
      refine hk _ _ h a1 M1 w1 e1 hw1 (TR.root hnd ht e1.le hs1 hr fun q hq => ?_) hs1.size hs1.defers
      subst hq
      exact hr1.1
    · cases h
  have no : Fails ops gd a → k (putA t o.d undefA) s = R.ok e t' s' → wpList P ops Q l a w := by
    intro hf h
    refine hX.no a w hn hf hoff Q fun a1 hs1 hr1 => ?_
    refine hk _ _ h a1 M w (.refl M s) hw (TR.root hnd ht (.refl M) hs1 hr fun q hq => ?_) hs1.size hs1.defers
    subst hq
    rw [tmp_undef (hr1 (.s q) (by simp) q (by simp [roW]))]
    exact cr_undef M
  unfold stGd at hg
  cases hog : o.g with
  | none =>
    simp only [hog, Option.some.injEq] at hg
    subst hg
    simp only [hog, wantedA, cond_true] at h
    exact yes (fun j w' d hg' => by cases hg') h
  | some p =>
    obtain ⟨i, b⟩ := p
    simp only [hog] at hg h
    split at hg
    · rename_i q o' l0 hq
      split at hg
      · rename_i j b' hgd'
        simp only [Option.some.injEq] at hg
        subst hg
        rw [nth_eq] at hq
        have hcr := ht.cr i q hq
        simp only [gdIs, Bool.and_eq_true] at hgd
        have hdst := optEq_eq hgd.1
        cases hwa : wantedA t (some (i, b)) with
        | true =>
          simp only [hwa, cond_true] at h
          refine yes (fun j' w' d hg' => ?_) h
          cases hg'
          refine ⟨hdst, ?_⟩
          unfold wantedA at hwa
          simp only at hwa
          split at hwa
          · rename_i b2 hb2
            rw [hb2] at hcr
            have : b2 = b := by simpa using hwa
            subst this
            generalize hge : a.eval (.tmp q) = rc at *
            cases hcr
            exact tmp_of_bool hge
          · cases hwa
        | false =>
          simp only [hwa, cond_false] at h
          refine no ⟨j, b, q, rfl, hdst, fun hc => ?_⟩ h
          have he : a.eval (.tmp q) = .bool b := by simp [Act.eval, Array.getD_eq_getD_getElem?, hc]
          rw [he] at hcr
          have := cr_bool hcr
          simp [wantedA, this] at hwa
      · cases hg
    · cases hg

theorem opsA_nrm {e : Ex} {t' : Tm} {s' : St} : ∀ (ss : List LS) (t : Tm) (s : St), opsA E ih ss t s = .ok e t' s' → e = .nrm
  | [], t, s, h => by rw [opsA_nil] at h; cases h; rfl
  | o :: ss, t, s, h => by
    rw [opsA_cons] at h
    unfold stmA at h
    cases hw : wantedA t o.g with
    | true =>
      simp only [hw, cond_true] at h
      split at h
      · exact opsA_nrm ss _ _ h
      · cases h
    | false =>
      simp only [hw, cond_false] at h
      exact opsA_nrm ss _ _ h

theorem opsA_ok (hC : CallsOk P E.gl w0 (callA E ih)) (hnd : nodupN m = true) : ∀ (ss : List LS) (l : List Oper) (t : Tm) (s : St) (e : Ex) (t' : Tm) (s' : St) (M : Mem) (w : World) (a : Act) (Q : Exit → Act → World → Prop),
    okS P E.gl m N ops ss l = true → opsA E ih ss t s = .ok e t' s' → W E.gl w0 M s w → TR M m t a → N ≤ a.tmps.size → Post E w0 m M s a t' s' (Q .normal) → e = .nrm ∧ wpList P ops Q l a w := by
  intro ss
  induction ss with
  | nil =>
    intro l t s e t' s' M w a Q hl h hw ht hn hk
    unfold okS at hl
    split at hl
    · rw [opsA_nil] at h
      cases h
      exact ⟨rfl, hk a M w (.refl M s) hw ht rfl rfl⟩
    · cases hl
  | cons o ss ihs =>
    intro l t s e t' s' M w a Q hl h hw ht hn hk
    unfold okS at hl
    split at hl
    · cases hl
    · rename_i gd hg
      cases hL : o.x.isL || isOd o.x with
      | true => simp [hL] at hl
      | false =>
        simp only [hL, cond_false] at hl
        simp only [Bool.or_eq_false_iff] at hL
        split at hl
        · rename_i r ws l' hx
          simp only [Bool.and_eq_true] at hl
          obtain ⟨h1, h2, h3⟩ := hl
          rw [opsA_cons] at h
          have he : e = .nrm := opsA_nrm (o :: ss) t s (by rw [opsA_cons]; exact h)
          refine ⟨he, stm_ok hC hnd hg hL.1 hx h1 h2 h hw ht hn fun t1 s1 hk1 a1 M1 w1 e1 hw1 ht1 q1 q2 => ?_⟩
          exact (ihs l' t1 s1 e t' s' M1 w1 a1 Q h3 hk1 hw1 ht1 (by rw [q1]; exact hn) (hk.next e1 q1 q2)).2
        · cases hl
end

end Go.Proofs.YtmoihglcdmmmlaaGreatDoor
