/-
  A region that draws its order: what is looked at beforehand, and what the executor's run in the order of the text has shown.
-/
import Derived.Test.YtmoihglcdmmmlaaGreatDoorAb15
set_option linter.unusedSimpArgs false
set_option linter.unusedVariables false
namespace Go.Proofs.YtmoihglcdmmmlaaGreatDoor
open Go Go.RowKit

theorem AV.beqs_eq : ∀ (n : Nat) (xs ys : List AV), SizeOf.sizeOf xs ≤ n → AV.beqs xs ys = true → xs = ys := by
  intro n
  induction n with
  | zero => intro xs ys hn; cases xs <;> simp at hn
  | succ n ih =>
    intro xs ys hn h
    cases xs with
    | nil => cases ys with
      | nil => rfl
      | cons v vs => simp [AV.beqs] at h
    | cons x xs =>
      cases ys with
      | nil => simp [AV.beqs] at h
      | cons y ys =>
        simp only [AV.beqs, Bool.and_eq_true] at h
        obtain ⟨h1, h2⟩ := h
        have hs : SizeOf.sizeOf x + SizeOf.sizeOf xs ≤ n := by
          simp only [List.cons.sizeOf_spec] at hn; omega
        rw [ih xs ys (by omega) h2]
        congr 1
        cases x <;> cases y <;> simp only [AV.beq, reduceCtorEq, Bool.and_eq_true, decide_eq_true_eq, beq_iff_eq, Nat.beq_eq_true_eq, Bool.false_eq_true] at h1
        case bool.bool => rw [h1]
        case int.int => rw [h1.1, h1.2]
        case str.str => rw [h1]
        case nilp.nilp => rfl
        case ptr.ptr => rw [Nat.eq_of_beq_eq_true h1.1, Nat.eq_of_beq_eq_true h1.2]
        case eptr.eptr => simp only [AV.eptr.sizeOf_spec] at hs; rw [Nat.eq_of_beq_eq_true h1.1, ih _ _ (by omega) h1.2]
        case nils.nils => rfl
        case sl.sl => simp only [AV.sl.sizeOf_spec] at hs; rw [Nat.eq_of_beq_eq_true h1.1, Nat.eq_of_beq_eq_true h1.2.1, ih _ _ (by omega) h1.2.2]
        case ms.ms => rw [Nat.eq_of_beq_eq_true h1.1, Nat.eq_of_beq_eq_true h1.2.1, Nat.eq_of_beq_eq_true h1.2.2]
        case gs.gs => rw [Nat.eq_of_beq_eq_true h1.1, Nat.eq_of_beq_eq_true h1.2]
        case gp.gp => rw [Nat.eq_of_beq_eq_true h1.1, Nat.eq_of_beq_eq_true h1.2.1, Nat.eq_of_beq_eq_true h1.2.2.1, Nat.eq_of_beq_eq_true h1.2.2.2]
        case tp.tp => simp only [AV.tp.sizeOf_spec] at hs; rw [Nat.eq_of_beq_eq_true h1.1, Nat.eq_of_beq_eq_true h1.2.1, ih _ _ (by omega) h1.2.2]
        case fn.fn => simp only [AV.fn.sizeOf_spec] at hs; rw [Nat.eq_of_beq_eq_true h1.1, ih _ _ (by omega) h1.2.1, ih _ _ (by omega) h1.2.2]
        case nilfn.nilfn => rfl
        case niface.niface => rfl
        case agg.agg => simp only [AV.agg.sizeOf_spec] at hs; rw [ih _ _ (by omega) h1]
        case tup.tup => simp only [AV.tup.sizeOf_spec] at hs; rw [ih _ _ (by omega) h1]

theorem AV.beq_eq {x y : AV} (h : AV.beq x y = true) : x = y := by
  have := AV.beqs_eq _ [x] [y] (Nat.le_refl _) (by simp [AV.beqs, h])
  simpa using this

theorem rvEq_ok {r : Rv} {v : AV} (h : rvEq r v = true) : ∃ s, r = .ok v s := by
  cases r with
  | no => cases h
  | ok x s => exact ⟨s, by rw [AV.beq_eq h]⟩

def DO.isM (o : DO) : Bool :=
  match o.k with
  | .m => true
  | _ => false

def DO.isA (o : DO) : Bool :=
  match o.k with
  | .a => true
  | _ => false

-- ---------------------------------------------------------------- expressions that change nothing
def pureU : U → Bool
  | .mv | .fad _ | .nck | .un _ | .cvi _ | .cvid | .cvbs | .fld _ _ _ | .ext _ | .len | .lens => true
  | _ => false

def readU : U → Bool
  | .ld | .lda _ | .usd | .cvp _ _ => true
  | f => pureU f

def pureB : B → Bool
  | .bin _ | .eqp _ | .eqb _ | .eqs _ | .iad _ | .iaa _ _ | .ixs | .mx | .mn | .ust _ => true
  | _ => false

def pureK : K → Bool
  | .pick | .build _ _ | .mkf _ _ | .sls _ _ | .slv _ _ _ => true
  | _ => false

def pureX (p : U → Bool) : X → Bool
  | .od _ => true
  | .u _ f x => p f && pureX p x
  | .b _ _ f x y => pureB f && (pureX p x && pureX p y)
  | .k _ f x => pureK f && pureX p x
  | .nil => true
  | .cons x y => pureX p x && pureX p y
  | .a _ _ _ => false
  | .gd _ _ _ c b => pureX p c && pureX p b

def rdX : X → List Nat
  | .od (.t i) => [i]
  | .od _ => []
  | .u _ _ x => rdX x
  | .b _ _ _ x y => rdX x ++ rdX y
  | .k _ _ x => rdX x
  | .nil => []
  | .cons x y => rdX x ++ rdX y
  | .a _ _ _ => []
  | .gd _ _ _ c b => rdX c ++ rdX b

section
variable {E : Env} {ih : LC → Tm → St → R}

theorem opt_all {s s' : St} {x : Option AV} {v : AV} (h : opt s x = .ok v s') : s' = s ∧ ∀ s2, opt s2 x = .ok v s2 := by
  unfold opt at *
  split at h
  · cases h; exact ⟨rfl, fun _ => rfl⟩
  · cases h

theorem apU_pure {f : U} (hf : pureU f = true) {x v : AV} {s s' : St} (h : apU f x s = .ok v s') : s' = s ∧ ∀ s2, apU f x s2 = .ok v s2 := by
  cases f <;> simp only [pureU, Bool.false_eq_true] at hf <;> simp only [apU] at h ⊢
  all_goals first
    | exact opt_all h
    | (cases h; exact ⟨rfl, fun _ => rfl⟩)
    | (split at h
       · cases h; exact ⟨rfl, fun _ => rfl⟩
       · cases h)

theorem apU_read {f : U} (hf : readU f = true) {x v : AV} {s s' : St} (h : apU f x s = .ok v s') : s' = s := by
  by_cases hp : pureU f = true
  · exact (apU_pure hp h).1
  · cases f <;> simp only [readU, Bool.false_eq_true] at hf <;> first
      | exact absurd hf hp
      | exact (opt_all h).1

theorem apB_pure {f : B} (hf : pureB f = true) {x y v : AV} {s s' : St} (h : apB f x y s = .ok v s') : s' = s ∧ ∀ s2, apB f x y s2 = .ok v s2 := by
  cases f <;> simp only [pureB, Bool.false_eq_true] at hf <;> simp only [apB] at h ⊢
  all_goals exact opt_all h

theorem apK_pure {f : K} (hf : pureK f = true) {x v : AV} {s s' : St} (h : apKt E ih f x s = .ok v s') : s' = s ∧ ∀ s2, apKt E ih f x s2 = .ok v s2 := by
  unfold apKt at *
  split at h
  · rename_i vs
    cases f <;> simp only [pureK, Bool.false_eq_true] at hf <;> simp only [apK] at h ⊢
    · split at h
      · cases h; exact ⟨rfl, fun _ => rfl⟩
      · cases h
    · split at h
      · cases h; exact ⟨rfl, fun _ => rfl⟩
      · cases h
    · rename_i f n
      cases hb : Nat.ble n vs.length with
      | false => simp [hb] at h
      | true => simp only [hb, cond_true] at h ⊢; cases h; exact ⟨rfl, fun _ => rfl⟩
    · split at h
      · split at h
        · exact opt_all h
        · cases h
      · cases h
    · split at h
      · split at h
        · split at h
          · exact opt_all h
          · cases h
        · cases h
      · cases h
  · cases h

theorem evX_keep (t : Tm) : ∀ (x : X), pureX readU x = true → ∀ s v s', evX E ih t x s = .ok v s' → s' = s := by
  intro x
  induction x with
  | od o => intro _ s v s' h; rw [evX_od] at h; cases h; rfl
  | u d f x ihx =>
    intro hp s v s' h
    simp only [pureX, Bool.and_eq_true] at hp
    rw [evX_u] at h
    obtain ⟨v1, s1, h1, h2⟩ := bnd_ok h
    rw [apU_read hp.1 h2, ihx hp.2 _ _ _ h1]
  | b d sw f x y ihx ihy =>
    intro hp s v s' h
    simp only [pureX, Bool.and_eq_true] at hp
    cases sw with
    | true =>
      rw [evX_bs] at h
      obtain ⟨v1, s1, h1, h2⟩ := bnd_ok h
      obtain ⟨v2, s2, h2, h3⟩ := bnd_ok h2
      rw [(apB_pure hp.1 h3).1, ihx hp.2.1 _ _ _ h2, ihy hp.2.2 _ _ _ h1]
    | false =>
      rw [evX_b] at h
      obtain ⟨v1, s1, h1, h2⟩ := bnd_ok h
      obtain ⟨v2, s2, h2, h3⟩ := bnd_ok h2
      rw [(apB_pure hp.1 h3).1, ihy hp.2.2 _ _ _ h2, ihx hp.2.1 _ _ _ h1]
  | k d f x ihx =>
    intro hp s v s' h
    simp only [pureX, Bool.and_eq_true] at hp
    rw [evX_k] at h
    obtain ⟨v1, s1, h1, h2⟩ := bnd_ok h
    rw [(apK_pure hp.1 h2).1, ihx hp.2 _ _ _ h1]
  | nil => intro _ s v s' h; rw [evX_nil] at h; cases h; rfl
  | cons x y ihx ihy =>
    intro hp s v s' h
    simp only [pureX, Bool.and_eq_true] at hp
    rw [evX_cons] at h
    obtain ⟨v1, s1, h1, h2⟩ := bnd_ok h
    obtain ⟨v2, s2, h2, h3⟩ := bnd_ok h2
    unfold consA at h3
    split at h3
    · cases h3; rw [ihy hp.2 _ _ _ h2, ihx hp.1 _ _ _ h1]
    · cases h3
  | a d z e => intro hp; simp [pureX] at hp
  | gd d w df c b ihc ihb =>
    intro hp s v s' h
    simp only [pureX, Bool.and_eq_true] at hp
    rw [evX_gd] at h
    obtain ⟨v1, s1, h1, h2⟩ := bnd_ok h
    have := ihc hp.1 _ _ _ h1
    subst this
    unfold gdA at h2
    split at h2
    · rename_i cb
      cases hcw : (cb == w) with
      | true => simp only [hcw, cond_true] at h2; exact ihb hp.2 _ _ _ h2
      | false => simp only [hcw, cond_false] at h2; cases h2; rfl
    · cases h2

theorem evX_any (t : Tm) : ∀ (x : X), pureX pureU x = true → ∀ s v s', evX E ih t x s = .ok v s' → ∀ s2, evX E ih t x s2 = .ok v s2 := by
  intro x
  induction x with
  | od o => intro _ s v s' h s2; rw [evX_od] at h ⊢; cases h; rfl
  | u d f x ihx =>
    intro hp s v s' h s2
    simp only [pureX, Bool.and_eq_true] at hp
    rw [evX_u] at h ⊢
    obtain ⟨v1, s1, h1, h2⟩ := bnd_ok h
    rw [ihx hp.2 _ _ _ h1 s2]
    exact (apU_pure hp.1 h2).2 s2
  | b d sw f x y ihx ihy =>
    intro hp s v s' h s2
    simp only [pureX, Bool.and_eq_true] at hp
    cases sw with
    | true =>
      rw [evX_bs] at h ⊢
      obtain ⟨v1, s1, h1, h2⟩ := bnd_ok h
      obtain ⟨v2, s3, h2, h3⟩ := bnd_ok h2
      rw [ihy hp.2.2 _ _ _ h1 s2]
      simp only [bnd]
      rw [ihx hp.2.1 _ _ _ h2 s2]
      exact (apB_pure hp.1 h3).2 s2
    | false =>
      rw [evX_b] at h ⊢
      obtain ⟨v1, s1, h1, h2⟩ := bnd_ok h
      obtain ⟨v2, s3, h2, h3⟩ := bnd_ok h2
      rw [ihx hp.2.1 _ _ _ h1 s2]
      simp only [bnd]
      rw [ihy hp.2.2 _ _ _ h2 s2]
      exact (apB_pure hp.1 h3).2 s2
  | k d f x ihx =>
    intro hp s v s' h s2
    simp only [pureX, Bool.and_eq_true] at hp
    rw [evX_k] at h ⊢
    obtain ⟨v1, s1, h1, h2⟩ := bnd_ok h
    rw [ihx hp.2 _ _ _ h1 s2]
    exact (apK_pure hp.1 h2).2 s2
  | nil => intro _ s v s' h s2; rw [evX_nil] at h ⊢; cases h; rfl
  | cons x y ihx ihy =>
    intro hp s v s' h s2
    simp only [pureX, Bool.and_eq_true] at hp
    rw [evX_cons] at h ⊢
    obtain ⟨v1, s1, h1, h2⟩ := bnd_ok h
    obtain ⟨v2, s3, h2, h3⟩ := bnd_ok h2
    rw [ihx hp.1 _ _ _ h1 s2]
    simp only [bnd]
    rw [ihy hp.2 _ _ _ h2 s2]
    unfold consA at h3
    split at h3
    · cases h3; rfl
    · cases h3
  | a d z e => intro hp; simp [pureX] at hp
  | gd d w df c b ihc ihb =>
    intro hp s v s' h s2
    simp only [pureX, Bool.and_eq_true] at hp
    rw [evX_gd] at h ⊢
    obtain ⟨v1, s1, h1, h2⟩ := bnd_ok h
    rw [ihc hp.1 _ _ _ h1 s2]
    simp only [bnd]
    unfold gdA at h2 ⊢
    split at h2
    · rename_i cb
      cases hcw : (cb == w) with
      | true => simp only [hcw, cond_true] at h2 ⊢; exact ihb hp.2 _ _ _ h2 s2
      | false => simp only [hcw, cond_false] at h2 ⊢; cases h2; rfl
    · cases h2

theorem evX_congr {t t' : Tm} : ∀ (x : X), (∀ i ∈ rdX x, tget t i = tget t' i) → evX E ih t x = evX E ih t' x := by
  intro x
  induction x with
  | od o =>
    intro h; funext s
    rw [evX_od, evX_od]
    cases o with
    | t i => simp only [Env.ev]; rw [h i (by simp [rdX])]
    | c v => rfl
    | g n => rfl
  | u d f x ihx => intro h; funext s; rw [evX_u, evX_u, ihx h]
  | b d sw f x y ihx ihy =>
    intro h; funext s
    simp only [rdX, List.mem_append] at h
    cases sw with
    | true => rw [evX_bs, evX_bs, ihx fun i hi => h i (.inl hi), ihy fun i hi => h i (.inr hi)]
    | false => rw [evX_b, evX_b, ihx fun i hi => h i (.inl hi), ihy fun i hi => h i (.inr hi)]
  | k d f x ihx => intro h; funext s; rw [evX_k, evX_k, ihx h]
  | nil => intro h; funext s; rw [evX_nil, evX_nil]
  | cons x y ihx ihy =>
    intro h; funext s
    simp only [rdX, List.mem_append] at h
    rw [evX_cons, evX_cons, ihx fun i hi => h i (.inl hi), ihy fun i hi => h i (.inr hi)]
  | a d z e => intro h; funext s; rw [evX_a, evX_a]
  | gd d w df c b ihc ihb =>
    intro h; funext s
    simp only [rdX, List.mem_append] at h
    rw [evX_gd, evX_gd, ihc fun i hi => h i (.inl hi), ihb fun i hi => h i (.inr hi)]
end

-- ---------------------------------------------------------------- by numbers
def cmAt : List DO → Nat → Nat
  | _, 0 => 0
  | [], _ + 1 => 0
  | o :: os, i + 1 => cmAt os i + (bif o.isM then 1 else 0)

def nwAt : List DO → Nat → Nat
  | _, 0 => 0
  | [], _ + 1 => 0
  | o :: os, i + 1 => nwAt os i + (bif o.isA then 1 else 0)

noncomputable def Tat : List DO → (Nat → AV) → Tm → Nat → Tm
  | _, _, t, 0 => t
  | [], _, t, _ + 1 => t
  | o :: os, V, t, i + 1 => Tat os (fun k => V (k + 1)) (putA t o.o.d (V 0)) i

/-- What the run in the order of the text has shown. -/
structure TrOk (E : Env) (ih : LC → Tm → St → R) (l : List DO) (nx : Nat) (t : Tm) (V : Nat → AV) (S : Nat → St) (fin : List St) : Prop where
  fa : ∀ i o, l[i]? = some o → o.k = .a → V i = .ptr (nx + nwAt l i) 0
  fp : ∀ i o, l[i]? = some o → o.k = .p → (wantedA (Tat l V t i) o.o.g = true ∧ ∃ s2, evX E ih (Tat l V t i) o.o.x (S (cmAt l i)) = .ok (V i) s2) ∨ (wantedA (Tat l V t i) o.o.g = false ∧ V i = undefA)
  fl : ∀ i o lo hi, l[i]? = some o → o.k = .l lo hi → (wantedA (Tat l V t i) o.o.g = true ∧ (∃ s2, evX E ih (Tat l V t i) o.o.x (S (cmAt l i)) = .ok (V i) s2) ∧
      (lo = hi ∨ ∀ q sq, fin[q]? = some sq → lo ≤ q → q ≤ hi → ∃ s2, evX E ih (Tat l V t i) o.o.x sq = .ok (V i) s2)) ∨ (wantedA (Tat l V t i) o.o.g = false ∧ V i = undefA)
  fm : ∀ i o, l[i]? = some o → o.k = .m → (wantedA (Tat l V t i) o.o.g = true ∧ evX E ih (Tat l V t i) o.o.x (S (cmAt l i)) = .ok (V i) (S (cmAt l i + 1))) ∨
      (wantedA (Tat l V t i) o.o.g = false ∧ V i = undefA ∧ S (cmAt l i + 1) = S (cmAt l i))

def consN {α : Type} (x : α) (f : Nat → α) : Nat → α
  | 0 => x
  | n + 1 => f n

section
variable {E : Env} {ih : LC → Tm → St → R}

theorem chk1_ok {c : Chk} : ∀ {ss : List St} {i : Nat}, chk1 E ih c ss i = true → ∀ q sq, ss[q]? = some sq → c.lo ≤ i + q → i + q ≤ c.hi → ∃ s2, evX E ih c.t c.x sq = .ok c.v s2
  | [], i, h, q, sq, hq, _, _ => by simp at hq
  | s :: ss, i, h, q, sq, hq, h1, h2 => by
    simp only [chk1, Bool.and_eq_true] at h
    cases q with
    | zero =>
      simp at hq
      subst hq
      have hb : (Nat.ble c.lo i && Nat.ble i c.hi) = true := by
        simp only [Bool.and_eq_true]
        exact ⟨by rw [Nat.ble_eq]; simpa using h1, by rw [Nat.ble_eq]; simpa using h2⟩
      rw [hb, cond_true] at h
      exact rvEq_ok h.1
    | succ q =>
      simp at hq
      exact chk1_ok h.2 q sq hq (by omega) (by omega)

theorem chks_ok {ss : List St} : ∀ {cs : List Chk}, chks E ih ss cs = true → ∀ c ∈ cs, ∀ q sq, ss[q]? = some sq → c.lo ≤ q → q ≤ c.hi → ∃ s2, evX E ih c.t c.x sq = .ok c.v s2
  | [], _, c, hc => by simp at hc
  | c' :: cs, h, c, hc => by
    simp only [chks, Bool.and_eq_true] at h
    rcases List.mem_cons.1 hc with rfl | hc
    · intro q sq hq h1 h2; exact chk1_ok h.1 q sq hq (by omega) (by omega)
    · exact chks_ok h.2 c hc

/-- One operation more, ahead. -/
theorem TrOk.cons {o : DO} {os : List DO} {nx : Nat} {t : Tm} {v : AV} {V : Nat → AV} {s : St} {S : Nat → St} {fin : List St}
    (h : TrOk E ih os (nx + (bif o.isA then 1 else 0)) (putA t o.o.d v) V S fin)
    (ha : o.k = .a → v = .ptr nx 0)
    (hp : o.k = .p → (wantedA t o.o.g = true ∧ ∃ s2, evX E ih t o.o.x s = .ok v s2) ∨ (wantedA t o.o.g = false ∧ v = undefA))
    (hl : ∀ lo hi, o.k = .l lo hi → (wantedA t o.o.g = true ∧ (∃ s2, evX E ih t o.o.x s = .ok v s2) ∧ (lo = hi ∨ ∀ q sq, fin[q]? = some sq → lo ≤ q → q ≤ hi → ∃ s2, evX E ih t o.o.x sq = .ok v s2)) ∨ (wantedA t o.o.g = false ∧ v = undefA))
    (hm : o.k = .m → (wantedA t o.o.g = true ∧ evX E ih t o.o.x s = .ok v (S 0)) ∨ (wantedA t o.o.g = false ∧ v = undefA ∧ S 0 = s))
    (hS : o.isM = false → S 0 = s) :
    TrOk E ih (o :: os) nx t (consN v V) (bif o.isM then consN s S else S) fin := by
  have hcm : ∀ i, (bif o.isM then consN s S else S) (cmAt (o :: os) (i + 1)) = S (cmAt os i) := by
    intro i
    simp only [cmAt]
    cases hM : o.isM <;> simp [consN]
  have hcm1 : ∀ i, (bif o.isM then consN s S else S) (cmAt (o :: os) (i + 1) + 1) = S (cmAt os i + 1) := by
    intro i
    simp only [cmAt]
    cases hM : o.isM <;> simp [consN]
  have hS0 : (bif o.isM then consN s S else S) (cmAt (o :: os) 0) = s := by
    simp only [cmAt]
    cases hM : o.isM with
    | true => simp [consN]
    | false => simp [hS hM]
  have hT : ∀ i, Tat (o :: os) (consN v V) t (i + 1) = Tat os V (putA t o.o.d v) i := fun i => rfl
  constructor
  · intro i o' hi hk
    cases i with
    | zero => simp at hi; subst hi; simp only [consN, nwAt, Nat.add_zero]; exact ha hk
    | succ i =>
      simp at hi
      rw [show consN v V (i + 1) = V i from rfl, h.fa i o' hi hk]
      simp only [nwAt]
      congr 1
      omega
  · intro i o' hi hk
    cases i with
    | zero => simp at hi; subst hi; rw [hS0]; exact hp hk
    | succ i => simp at hi; rw [hT, hcm]; exact h.fp i o' hi hk
  · intro i o' lo hi' hi hk
    cases i with
    | zero => simp at hi; subst hi; rw [hS0]; exact hl lo hi' hk
    | succ i => simp at hi; rw [hT, hcm]; exact h.fl i o' lo hi' hi hk
  · intro i o' hi hk
    cases i with
    | zero =>
      simp at hi; subst hi
      rw [hS0]
      have hM : o.isM = true := by simp [DO.isM, hk]
      have : (bif o.isM then consN s S else S) (cmAt (o :: os) 0 + 1) = S 0 := by rw [hM]; rfl
      rw [this]
      exact hm hk
    | succ i => simp at hi; rw [hT, hcm, hcm1]; exact h.fm i o' hi hk

theorem drawRun_tr : ∀ (l : List DO) (nx : Nat) (t : Tm) (s : St) (ss : List St) (cs : List Chk) (e : Ex) (t' : Tm) (s' : St), drawRun E ih l nx t s ss cs = .ok e t' s' →
    e = .nrm ∧ ∃ V S fin sts, S 0 = s ∧ fin = ss.reverse ++ sts ∧ (∀ q, q < cmAt l l.length → sts[q]? = some (S (q + 1))) ∧ t' = Tat l V t l.length ∧ s' = S (cmAt l l.length) ∧
      (∀ c ∈ cs, ∀ q sq, fin[q]? = some sq → c.lo ≤ q → q ≤ c.hi → ∃ s2, evX E ih c.t c.x sq = .ok c.v s2) ∧ TrOk E ih l nx t V S fin := by
  intro l
  induction l with
  | nil =>
    intro nx t s ss cs e t' s' h
    simp only [drawRun] at h
    cases hb : chks E ih ss.reverse cs with
    | false => simp [hb] at h
    | true =>
      simp only [hb, cond_true] at h
      cases h
      exact ⟨rfl, fun _ => undefA, fun _ => s, ss.reverse, [], rfl, by simp, fun q hq => by simp [cmAt] at hq, rfl, rfl, chks_ok hb,
        ⟨fun i o hi => by simp at hi, fun i o hi => by simp at hi, fun i o lo hi' hi => by simp at hi, fun i o hi => by simp at hi⟩⟩
  | cons o os ihl =>
    intro nx t s ss cs e t' s' h
    -- an operation that leaves the state
    have quiet : ∀ (v : AV) (cs' : List Chk) (nx' : Nat), o.isM = false → nx' = nx + (bif o.isA then 1 else 0) → (∀ c ∈ cs, c ∈ cs') → drawRun E ih os nx' (putA t o.o.d v) s ss cs' = .ok e t' s' →
        (o.k = .a → v = .ptr nx 0) →
        (o.k = .p → (wantedA t o.o.g = true ∧ ∃ s2, evX E ih t o.o.x s = .ok v s2) ∨ (wantedA t o.o.g = false ∧ v = undefA)) →
        (∀ lo hi, o.k = .l lo hi → (wantedA t o.o.g = true ∧ (∃ s2, evX E ih t o.o.x s = .ok v s2) ∧ (lo = hi ∨ { x := o.o.x, t := t, v := v, lo := lo, hi := hi } ∈ cs')) ∨ (wantedA t o.o.g = false ∧ v = undefA)) →
        e = .nrm ∧ ∃ V S fin sts, S 0 = s ∧ fin = ss.reverse ++ sts ∧ (∀ q, q < cmAt (o :: os) (o :: os).length → sts[q]? = some (S (q + 1))) ∧ t' = Tat (o :: os) V t (o :: os).length ∧ s' = S (cmAt (o :: os) (o :: os).length) ∧
          (∀ c ∈ cs, ∀ q sq, fin[q]? = some sq → c.lo ≤ q → q ≤ c.hi → ∃ s2, evX E ih c.t c.x sq = .ok c.v s2) ∧ TrOk E ih (o :: os) nx t V S fin := by
      intro v cs' nx' hM hnx hcs hrun ha hp hl
      obtain ⟨he, V, S, fin, sts, q1, q2, q3, q4, q5, q6, q7⟩ := ihl nx' _ s ss cs' e t' s' hrun
      subst hnx
      refine ⟨he, consN v V, S, fin, sts, q1, q2, ?_, ?_, ?_, fun c hc => q6 c (hcs c hc), ?_⟩
      · simp only [List.length_cons, cmAt, hM, cond_false, Nat.add_zero]; exact q3
      · rw [q4]; rfl
      · simp only [List.length_cons, cmAt, hM, cond_false, Nat.add_zero]; exact q5
      · have := TrOk.cons (o := o) (s := s) q7 ha hp (fun lo hi hk => ?_) (fun hk => by simp [DO.isM, hk] at hM) (fun _ => q1)
        · rw [hM, cond_false] at this; exact this
        · rcases hl lo hi hk with ⟨h1, h2, h3⟩ | h1
          · refine .inl ⟨h1, h2, ?_⟩
            rcases h3 with h3 | h3
            · exact .inl h3
            · exact .inr (q6 _ h3)
          · exact .inr h1
    -- a main one
    have main : ∀ (v : AV) (s1 : St), o.k = .m → drawRun E ih os nx (putA t o.o.d v) s1 (s1 :: ss) cs = .ok e t' s' →
        ((wantedA t o.o.g = true ∧ evX E ih t o.o.x s = .ok v s1) ∨ (wantedA t o.o.g = false ∧ v = undefA ∧ s1 = s)) →
        e = .nrm ∧ ∃ V S fin sts, S 0 = s ∧ fin = ss.reverse ++ sts ∧ (∀ q, q < cmAt (o :: os) (o :: os).length → sts[q]? = some (S (q + 1))) ∧ t' = Tat (o :: os) V t (o :: os).length ∧ s' = S (cmAt (o :: os) (o :: os).length) ∧
          (∀ c ∈ cs, ∀ q sq, fin[q]? = some sq → c.lo ≤ q → q ≤ c.hi → ∃ s2, evX E ih c.t c.x sq = .ok c.v s2) ∧ TrOk E ih (o :: os) nx t V S fin := by
      intro v s1 hk hrun hm
      have hM : o.isM = true := by simp [DO.isM, hk]
      have hA : o.isA = false := by simp [DO.isA, hk]
      obtain ⟨he, V, S, fin, sts, q1, q2, q3, q4, q5, q6, q7⟩ := ihl nx _ s1 (s1 :: ss) cs e t' s' hrun
      refine ⟨he, consN v V, consN s S, fin, s1 :: sts, rfl, by rw [q2]; simp, ?_, ?_, ?_, q6, ?_⟩
      · intro q hq
        simp only [List.length_cons, cmAt, hM, cond_true] at hq
        cases q with
        | zero => simp [consN, q1]
        | succ q => simp only [List.getElem?_cons_succ]; exact q3 q (by omega)
      · rw [q4]; rfl
      · simp only [List.length_cons, cmAt, hM, cond_true]; exact q5
      · have := TrOk.cons (o := o) (s := s) (v := v) (nx := nx) (t := t) (os := os) (V := V) (S := S) (fin := fin) (by rw [hA]; exact q7) (fun h => by rw [hk] at h; cases h) (fun h => by rw [hk] at h; cases h) (fun lo hi h => by rw [hk] at h; cases h)
          (fun _ => by rw [q1]; exact hm) (fun h => by rw [hM] at h; cases h)
        rw [hM, cond_true] at this; exact this
    simp only [drawRun] at h
    cases hk : o.k with
    | a =>
      simp only [hk] at h
      exact quiet _ cs (nx + 1) (by simp [DO.isM, hk]) (by simp [DO.isA, hk]) (fun _ hc => hc) h (fun _ => rfl) (fun h => by rw [hk] at h; cases h) (fun lo hi h => by rw [hk] at h; cases h)
    | p =>
      simp only [hk] at h
      cases hw : wantedA t o.o.g with
      | true =>
        simp only [hw, cond_true] at h
        split at h
        · rename_i v s2 hv
          exact quiet v cs nx (by simp [DO.isM, hk]) (by simp [DO.isA, hk]) (fun _ hc => hc) h (fun h => by rw [hk] at h; cases h) (fun _ => .inl ⟨hw, s2, hv⟩) (fun lo hi h => by rw [hk] at h; cases h)
        · cases h
      | false =>
        simp only [hw, cond_false] at h
        exact quiet undefA cs nx (by simp [DO.isM, hk]) (by simp [DO.isA, hk]) (fun _ hc => hc) h (fun h => by rw [hk] at h; cases h) (fun _ => .inr ⟨hw, rfl⟩) (fun lo hi h => by rw [hk] at h; cases h)
    | l lo hi =>
      simp only [hk] at h
      cases hw : wantedA t o.o.g with
      | true =>
        simp only [hw, cond_true] at h
        split at h
        · rename_i v s2 hv
          refine quiet v _ nx (by simp [DO.isM, hk]) (by simp [DO.isA, hk]) (fun c hc => ?_) h (fun h => by rw [hk] at h; cases h) (fun h => by rw [hk] at h; cases h) (fun lo' hi' h' => ?_)
          · cases Nat.beq lo hi
            · exact List.mem_cons_of_mem _ hc
            · exact hc
          · rw [hk] at h'; cases h'
            refine .inl ⟨hw, ⟨s2, hv⟩, ?_⟩
            cases hb : Nat.beq lo hi with
            | true => exact .inl (Nat.eq_of_beq_eq_true hb)
            | false => exact .inr (by simp)
        · cases h
      | false =>
        simp only [hw, cond_false] at h
        exact quiet undefA cs nx (by simp [DO.isM, hk]) (by simp [DO.isA, hk]) (fun _ hc => hc) h (fun h => by rw [hk] at h; cases h) (fun h => by rw [hk] at h; cases h) (fun lo' hi' h' => .inr ⟨hw, rfl⟩)
    | m =>
      simp only [hk] at h
      cases hw : wantedA t o.o.g with
      | true =>
        simp only [hw, cond_true] at h
        split at h
        · rename_i v s1 hv
          exact main v s1 hk h (.inl ⟨hw, hv⟩)
        · cases h
      | false =>
        simp only [hw, cond_false] at h
        exact main undefA s hk h (.inr ⟨hw, rfl, rfl⟩)
end

end Go.Proofs.YtmoihglcdmmmlaaGreatDoor
