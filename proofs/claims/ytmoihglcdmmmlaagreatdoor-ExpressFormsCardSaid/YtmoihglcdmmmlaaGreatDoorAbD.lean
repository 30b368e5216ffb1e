/-
  A region that draws its order comes, in whatever order, to what it comes to in the order of the text.
-/
import Derived.Test.YtmoihglcdmmmlaaGreatDoorAb16
set_option linter.unusedSimpArgs false
set_option linter.unusedVariables false
namespace Go.Proofs.YtmoihglcdmmmlaaGreatDoor
open Go Go.RowKit

def allIx (f : Nat → DO → Bool) : List DO → Nat → Bool
  | [], _ => true
  | o :: os, i => f i o && allIx f os (i + 1)

theorem allIx_eq {f : Nat → DO → Bool} : ∀ {l : List DO} {i : Nat}, allIx f l i = true → ∀ k o, l[k]? = some o → f (i + k) o = true
  | [], i, h, k, o, hk => by simp at hk
  | x :: xs, i, h, k, o, hk => by
    simp only [allIx, Bool.and_eq_true] at h
    cases k with
    | zero => simp at hk; subst hk; exact h.1
    | succ k =>
      simp at hk
      have := allIx_eq h.2 k o hk
      rwa [show i + 1 + k = i + (k + 1) by omega] at this

def memL (d : Nat) (l : List Nat) : Bool := memN d l

/-- The binding edges account for all that is said to go ahead. -/
def prOk (l : List DO) (es : List Edge) : List Nat → Bool
  | [] => true
  | j :: js => es.any (fun e => Region.binds .any e && (Nat.beq e.on j || (match nth l e.on with
      | some o => memN j o.pr
      | none => false))) && prOk l es js

def onOk (i : Nat) : List Edge → Bool
  | [] => true
  | e :: es => (!Region.binds .any e || Nat.blt e.on i) && onOk i es

/-- The slots that an operation looks at. -/
def DO.rd (o : DO) : List Nat :=
  match o.o.g with
  | none => rdX o.o.x
  | some (i, _) => i :: rdX o.o.x

/-- Two operations that may not pass each other. -/
def clash (o o' : DO) : Bool :=
  match o'.o.d with
  | none => false
  | some x => memN x o.rd || optEq o.o.d (some x)

def pairOk (i : Nat) (o : DO) (k : Nat) (o' : DO) : Bool :=
  bif Nat.beq i k then true else
  bif clash o o' || (o.isM && o'.isM) then (bif Nat.blt k i then memN k o.pr else memN i o'.pr) else true

def loOk (l : List DO) (o : DO) (lo : Nat) : Bool :=
  Nat.beq lo 0 || o.pr.any (fun k => match nth l k with
    | some o' => o'.isM && Nat.beq (cmAt l k + 1) lo
    | none => false)

def hiOk (l : List DO) (i : Nat) (hi : Nat) : Bool :=
  Nat.beq hi (cmAt l l.length) || !(allIx (fun k o' => !(o'.isM && (Nat.beq (cmAt l k) hi && memN i o'.pr))) l 0)

def kindOk (P : Program) (G : Nat → Option (List AV)) (m : List Nat) (N : Nat) (ops : Array Oper) (l : List DO) (i : Nat) (o : DO) (op : Oper) : Bool :=
  match o.k with
  | .a => (match o.o.x with
    | .a _ _ _ => o.o.g.isNone && (match okX P G m N ops o.o.x none [op] with
      | some ([r], ws, []) => rootOk m o.o.d r ws
      | _ => false)
    | _ => false)
  | .p => okS P G m N ops [o.o] [op] && pureX pureU o.o.x
  | .l lo hi => okS P G m N ops [o.o] [op] && (pureX readU o.o.x && (loOk l o lo && (hiOk l i hi && (Nat.ble lo (cmAt l i) && Nat.ble (cmAt l i) hi))))
  | .m => okS P G m N ops [o.o] [op]

def dOk (m : List Nat) (o : DO) : Bool :=
  match o.o.d with
  | none => true
  | some x => Nat.blt x m.length

def okD (P : Program) (G : Nat → Option (List AV)) (m : List Nat) (N : Nat) (ops : Array Oper) (l : List DO) : Bool :=
  Nat.beq l.length ops.size &&
  allIx (fun i o => match nth ops.toList i with
    | none => false
    | some op => kindOk P G m N ops l i o op && (dOk m o && (prOk l op.after.toList o.pr && (onOk i op.after.toList && allIx (pairOk i o) l 0)))) l 0

-- ---------------------------------------------------------------- counting
def cnt (f : Nat → Bool) : Nat → Nat
  | 0 => 0
  | n + 1 => cnt f n + (bif f n then 1 else 0)

theorem cnt_congr {f g : Nat → Bool} : ∀ {n : Nat}, (∀ k, k < n → f k = g k) → cnt f n = cnt g n
  | 0, _ => rfl
  | n + 1, h => by simp only [cnt]; rw [cnt_congr fun k hk => h k (by omega), h n (by omega)]

theorem cnt_le {f g : Nat → Bool} : ∀ {n : Nat}, (∀ k, k < n → f k = true → g k = true) → cnt f n ≤ cnt g n
  | 0, _ => Nat.le_refl _
  | n + 1, h => by
    simp only [cnt]
    have := cnt_le (n := n) fun k hk => h k (by omega)
    cases hf : f n with
    | false => simp; omega
    | true => rw [h n (by omega) hf]; simp; omega

theorem cnt_tail {f : Nat → Bool} {i : Nat} : ∀ {n : Nat}, i ≤ n → (∀ k, i ≤ k → k < n → f k = false) → cnt f n = cnt f i
  | 0, hi, _ => by
    obtain rfl : i = 0 := by omega
    rfl
  | n + 1, hi, h => by
    rcases Nat.lt_or_ge n i with hlt | hge
    · have : i = n + 1 := by omega
      subst this; rfl
    · simp only [cnt]
      rw [h n hge (by omega), cnt_tail hge fun k h1 h2 => h k h1 (by omega)]
      rfl

theorem cnt_mono {f : Nat → Bool} {i : Nat} : ∀ {n : Nat}, i ≤ n → cnt f i ≤ cnt f n
  | 0, hi => by
    obtain rfl : i = 0 := by omega
    exact Nat.le_refl _
  | n + 1, hi => by
    rcases Nat.lt_or_ge n i with hlt | hge
    · have : i = n + 1 := by omega
      subst this; exact Nat.le_refl _
    · simp only [cnt]; have := cnt_mono (f := f) hge; omega

theorem cnt_set {f g : Nat → Bool} {i : Nat} : ∀ {n : Nat}, i < n → f i = false → g i = true → (∀ k, k < n → k ≠ i → g k = f k) → cnt g n = cnt f n + 1
  | 0, hi, _, _, _ => by omega
  | n + 1, hi, hf, hg, h => by
    simp only [cnt]
    by_cases hin : i = n
    · subst hin
      rw [hf, hg, cnt_congr fun k hk => h k (by omega) (by omega)]
      simp
    · rw [cnt_set (n := n) (by omega) hf hg fun k hk hne => h k (by omega) hne, h n (by omega) (Ne.symm hin)]
      omega

theorem cnt_zero {f : Nat → Bool} : ∀ {n : Nat}, cnt f n = 0 → ∀ k, k < n → f k = false
  | 0, _, k, hk => by omega
  | n + 1, h, k, hk => by
    simp only [cnt] at h
    cases hf : f n with
    | true => rw [hf] at h; simp at h
    | false =>
      rw [hf] at h
      rcases Nat.lt_or_ge k n with hlt | hge
      · exact cnt_zero (by simpa using h) k hlt
      · have : k = n := by omega
        subst this; exact hf

def isMn (l : List DO) (k : Nat) : Bool :=
  match l[k]? with
  | some o => o.isM
  | none => false

def isAn (l : List DO) (k : Nat) : Bool :=
  match l[k]? with
  | some o => o.isA
  | none => false

theorem cnt_shift (f : Nat → Bool) : ∀ n, cnt f (n + 1) = cnt (fun k => f (k + 1)) n + (bif f 0 then 1 else 0)
  | 0 => by simp [cnt]
  | n + 1 => by
    rw [cnt, cnt_shift f n, cnt]
    omega

theorem cmAt_eq : ∀ (l : List DO) (i : Nat), cmAt l i = cnt (isMn l) i
  | _, 0 => by cases ‹List DO› <;> rfl
  | [], i + 1 => by
    rw [cnt_tail (i := 0) (Nat.zero_le _) (fun k _ _ => by simp [isMn])]
    rfl
  | o :: os, i + 1 => by
    rw [cnt_shift]
    simp only [cmAt]
    rw [cmAt_eq os i]
    have : (fun k => isMn (o :: os) (k + 1)) = isMn os := by funext k; simp [isMn]
    rw [this]
    simp [isMn]

theorem nwAt_eq : ∀ (l : List DO) (i : Nat), nwAt l i = cnt (isAn l) i
  | _, 0 => by cases ‹List DO› <;> rfl
  | [], i + 1 => by
    rw [cnt_tail (i := 0) (Nat.zero_le _) (fun k _ _ => by simp [isAn])]
    rfl
  | o :: os, i + 1 => by
    rw [cnt_shift]
    simp only [nwAt]
    rw [nwAt_eq os i]
    have : (fun k => isAn (o :: os) (k + 1)) = isAn os := by funext k; simp [isAn]
    rw [this]
    simp [isAn]

-- ---------------------------------------------------------------- the slots
theorem putA_length (t : Tm) (d : Option Nat) (v : AV) : (putA t d v).length = t.length := by
  cases d with
  | none => rfl
  | some i => exact tset_length t i v

theorem tget_putA (t : Tm) (d : Option Nat) (v : AV) (x : Nat) (h : ∀ i, d = some i → i < t.length) : tget (putA t d v) x = if d = some x then v else tget t x := by
  cases d with
  | none => simp [putA]
  | some i =>
    rw [putA, tget_tset _ _ _ _ (h i rfl)]
    by_cases hx : x = i
    · subst hx; simp
    · rw [if_neg hx, if_neg (by simpa using Ne.symm hx)]

theorem Tat_length : ∀ (l : List DO) (V : Nat → AV) (t : Tm) (i : Nat), (Tat l V t i).length = t.length
  | _, _, _, 0 => by cases ‹List DO› <;> rfl
  | [], _, _, i + 1 => rfl
  | o :: os, V, t, i + 1 => by simp only [Tat]; rw [Tat_length, putA_length]

theorem Tat_snoc : ∀ (l : List DO) (V : Nat → AV) (t : Tm) (i : Nat) (o : DO), l[i]? = some o → Tat l V t (i + 1) = putA (Tat l V t i) o.o.d (V i)
  | [], _, _, _, _, h => by simp at h
  | o :: os, V, t, 0, o', h => by
    simp at h; subst h
    simp only [Tat]
  | o :: os, V, t, i + 1, o', h => by
    simp at h
    have := Tat_snoc os (fun k => V (k + 1)) (putA t o.o.d (V 0)) i o' h
    simp only [Tat] at this ⊢
    exact this

noncomputable def lastV (l : List DO) (V : Nat → AV) (t : Tm) (L : Nat → Bool) (x : Nat) : Nat → AV
  | 0 => tget t x
  | k + 1 => match l[k]? with
    | some o => bif L k && optEq o.o.d (some x) then V k else lastV l V t L x k
    | none => lastV l V t L x k

section
variable {l : List DO} {V : Nat → AV} {t : Tm} {L L' : Nat → Bool} {x : Nat}

theorem optEq_true {a : Option Nat} {x : Nat} : optEq a (some x) = true ↔ a = some x :=
  ⟨optEq_eq, fun h => by subst h; simp [optEq]⟩

theorem optEq_false {a : Option Nat} {x : Nat} : optEq a (some x) = false ↔ a ≠ some x := by
  rw [← Bool.not_eq_true, optEq_true]

theorem lastV_congr : ∀ {n : Nat}, (∀ j o, j < n → l[j]? = some o → o.o.d = some x → L j = L' j) → lastV l V t L x n = lastV l V t L' x n
  | 0, _ => rfl
  | n + 1, h => by
    simp only [lastV]
    have ih := lastV_congr (n := n) fun j o hj => h j o (by omega)
    cases hn : l[n]? with
    | none => exact ih
    | some o =>
      simp only
      cases hd : optEq o.o.d (some x) with
      | false => simp only [Bool.and_false, cond_false]; exact ih
      | true => rw [h n o (by omega) hn (optEq_true.1 hd), ih]

theorem lastV_tail {i : Nat} : ∀ {n : Nat}, i ≤ n → (∀ j o, i ≤ j → j < n → l[j]? = some o → o.o.d = some x → L j = false) → lastV l V t L x n = lastV l V t L x i
  | 0, hi, _ => by
    obtain rfl : i = 0 := by omega
    rfl
  | n + 1, hi, h => by
    rcases Nat.lt_or_ge n i with hlt | hge
    · have : i = n + 1 := by omega
      subst this; rfl
    · simp only [lastV]
      have ih := lastV_tail hge fun j o h1 h2 => h j o h1 (by omega)
      cases hn : l[n]? with
      | none => exact ih
      | some o =>
        simp only
        cases hd : optEq o.o.d (some x) with
        | false => simp only [Bool.and_false, cond_false]; exact ih
        | true => rw [h n o hge (by omega) hn (optEq_true.1 hd)]; exact ih

theorem lastV_none (n : Nat) : lastV l V t (fun _ => false) x n = tget t x := lastV_tail (Nat.zero_le _) fun _ _ _ _ _ _ => rfl

theorem lastV_all (hd : ∀ (j : Nat) (o : DO) (y : Nat), l[j]? = some o → o.o.d = some y → y < t.length) : ∀ {n : Nat}, n ≤ l.length → lastV l V t (fun _ => true) x n = tget (Tat l V t n) x
  | 0, _ => by cases l <;> rfl
  | n + 1, h => by
    have hn : l[n]? = some l[n] := List.getElem?_eq_getElem (by omega)
    rw [Tat_snoc l V t n _ hn, tget_putA _ _ _ _ fun y hy => by rw [Tat_length]; exact hd n _ y hn hy]
    simp only [lastV, hn]
    by_cases hx : l[n].o.d = some x
    · rw [if_pos hx, optEq_true.2 hx]; rfl
    · rw [if_neg hx, optEq_false.2 hx]
      simp only [Bool.and_false, cond_false]
      exact lastV_all hd (by omega)
end

end Go.Proofs.YtmoihglcdmmmlaaGreatDoor
