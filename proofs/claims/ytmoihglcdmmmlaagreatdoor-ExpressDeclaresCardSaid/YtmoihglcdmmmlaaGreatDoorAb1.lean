/-
  What the executor's values are, and how they stand to the values of a run: slices as lists that nobody writes any more, boxes by number. Nothing here is of any program.
-/
import Derived.Laws.Cells
import Derived.Laws.CopyRow
import Derived.Orders
import Derived.ScopeJumps
import Derived.Below
namespace Go.Proofs.YtmoihglcdmmmlaaGreatDoor
open Go Go.RowKit

/-- A tree by the digits of a number: the boxes, the tokens. -/
inductive Tr (α : Type) where
  | lf
  | nd (v : Option α) (l r : Tr α)

def Tr.get {α : Type} : Tr α → Nat → Option α
  | .lf, _ => none
  | .nd v l r, n =>
    match n with
    | 0 => v
    | m + 1 => bif Nat.beq (m % 2) 0 then l.get (m / 2) else r.get (m / 2)

def Tr.setF {α : Type} (x : α) : Nat → Tr α → Nat → Tr α
  | 0, t, _ => t
  | k + 1, t, n =>
    match t with
    | .lf =>
      match n with
      | 0 => .nd (some x) .lf .lf
      | m + 1 => bif Nat.beq (m % 2) 0 then .nd none (Tr.setF x k .lf (m / 2)) .lf else .nd none .lf (Tr.setF x k .lf (m / 2))
    | .nd v l r =>
      match n with
      | 0 => .nd (some x) l r
      | m + 1 => bif Nat.beq (m % 2) 0 then .nd v (Tr.setF x k l (m / 2)) r else .nd v l (Tr.setF x k r (m / 2))

def Tr.set {α : Type} (t : Tr α) (n : Nat) (x : α) : Tr α := Tr.setF x (n + 1) t n

theorem Tr.get_setF {α : Type} (x : α) : ∀ (k : Nat) (t : Tr α) (n m : Nat), n < k → (Tr.setF x k t n).get m = if m = n then some x else t.get m := by
  intro k
  induction k with
  | zero => intro t n m h; omega
  | succ k ih =>
    intro t n m h
    cases t with
    | lf =>
      cases n with
      | zero => cases m with
        | zero => simp [Tr.setF, Tr.get]
        | succ m => simp [Tr.setF, Tr.get]
      | succ n =>
        have hlt : n / 2 < k := by omega
        cases hb : Nat.beq (n % 2) 0 with
        | true =>
          have hb' : n % 2 = 0 := Nat.eq_of_beq_eq_true hb
          cases m with
          | zero => simp [Tr.setF, Tr.get, hb]
          | succ m =>
            simp only [Tr.setF, hb, cond_true, Tr.get]
            cases hm : Nat.beq (m % 2) 0 with
            | true =>
              have hm' : m % 2 = 0 := Nat.eq_of_beq_eq_true hm
              simp only [cond_true, ih _ _ _ hlt, Tr.get]
              by_cases e : m = n
              · subst e; simp
              · rw [if_neg (by omega), if_neg (by omega)]
            | false =>
              have hm' : ¬ m % 2 = 0 := fun e => by rw [e] at hm; simp at hm
              simp only [cond_false]
              rw [if_neg (by omega)]
        | false =>
          have hb' : ¬ n % 2 = 0 := fun e => by rw [e] at hb; simp at hb
          cases m with
          | zero => simp [Tr.setF, Tr.get, hb]
          | succ m =>
            simp only [Tr.setF, hb, cond_false, Tr.get]
            cases hm : Nat.beq (m % 2) 0 with
            | true =>
              have hm' : m % 2 = 0 := Nat.eq_of_beq_eq_true hm
              simp only [cond_true]
              rw [if_neg (by omega)]
            | false =>
              have hm' : ¬ m % 2 = 0 := fun e => by rw [e] at hm; simp at hm
              simp only [cond_false, ih _ _ _ hlt, Tr.get]
              by_cases e : m = n
              · subst e; simp
              · rw [if_neg (by omega), if_neg (by omega)]
    | nd v l r =>
      cases n with
      | zero => cases m with
        | zero => simp [Tr.setF, Tr.get]
        | succ m => simp [Tr.setF, Tr.get]
      | succ n =>
        have hlt : n / 2 < k := by omega
        cases hb : Nat.beq (n % 2) 0 with
        | true =>
          have hb' : n % 2 = 0 := Nat.eq_of_beq_eq_true hb
          cases m with
          | zero => simp [Tr.setF, Tr.get, hb]
          | succ m =>
            simp only [Tr.setF, hb, cond_true, Tr.get]
            cases hm : Nat.beq (m % 2) 0 with
            | true =>
              have hm' : m % 2 = 0 := Nat.eq_of_beq_eq_true hm
              simp only [cond_true, ih _ _ _ hlt]
              by_cases e : m = n
              · subst e; simp
              · rw [if_neg (by omega), if_neg (by omega)]
            | false =>
              have hm' : ¬ m % 2 = 0 := fun e => by rw [e] at hm; simp at hm
              simp only [cond_false]
              rw [if_neg (by omega)]
        | false =>
          have hb' : ¬ n % 2 = 0 := fun e => by rw [e] at hb; simp at hb
          cases m with
          | zero => simp [Tr.setF, Tr.get, hb]
          | succ m =>
            simp only [Tr.setF, hb, cond_false, Tr.get]
            cases hm : Nat.beq (m % 2) 0 with
            | true =>
              have hm' : m % 2 = 0 := Nat.eq_of_beq_eq_true hm
              simp only [cond_true]
              rw [if_neg (by omega)]
            | false =>
              have hm' : ¬ m % 2 = 0 := fun e => by rw [e] at hm; simp at hm
              simp only [cond_false, ih _ _ _ hlt]
              by_cases e : m = n
              · subst e; simp
              · rw [if_neg (by omega), if_neg (by omega)]

theorem Tr.get_set {α : Type} (t : Tr α) (n m : Nat) (x : α) : (t.set n x).get m = if m = n then some x else t.get m :=
  Tr.get_setF x (n + 1) t n m (Nat.lt_succ_self n)

/-- A value as the executor has it. -/
inductive AV where
  | bool (b : Bool)
  | int (k : IntKind) (n : Int)
  | str (s : List Nat)
  | nilp
  | ptr (b o : Nat)
  | eptr (cs : List AV) (o : Nat)
  | nils
  | sl (t n : Nat) (els : List AV)
  | ms (b o n : Nat)
  | gs (t n : Nat)
  | gp (t n z p : Nat)
  | tp (e n : Nat) (els : List AV)
  | fn (f : FuncId) (first captured : List AV)
  | nilfn
  | niface
  | agg (cs : List AV)
  | tup (vs : List AV)

def AV.cells : AV → List AV
  | .agg cs => cs
  | x => [x]

def flat : List AV → List AV
  | [] => []
  | x :: xs => x.cells ++ flat xs

/-- One cell? -/
def AV.one : AV → Bool
  | .agg _ | .tup _ => false
  | _ => true

def nth {α : Type} : List α → Nat → Option α
  | [], _ => none
  | x :: _, 0 => some x
  | _ :: xs, n + 1 => nth xs n

theorem nth_eq {α : Type} : ∀ (l : List α) (n : Nat), nth l n = l[n]? := by
  intro l
  induction l with
  | nil => intro n; simp [nth]
  | cons x xs ih => intro n; cases n with
    | zero => simp [nth]
    | succ n => simp [nth, ih]

/-- Which block is which, what nobody writes any more, and where a slice lay when it had so many elements. -/
structure Mem where
  φ : Nat → Option Nat
  F : Nat → Nat → Option Value
  H : Nat → Nat → Option (Nat × Nat × Nat)
  Z : Nat → Option Nat

structure Mem.le (M M' : Mem) : Prop where
  φ : ∀ b B, M.φ b = some B → M'.φ b = some B
  F : ∀ B o v, M.F B o = some v → M'.F B o = some v
  H : ∀ t n x, M.H t n = some x → M'.H t n = some x
  Z : ∀ t x, M.Z t = some x → M'.Z t = some x

theorem Mem.le.refl (M : Mem) : M.le M := ⟨fun _ _ h => h, fun _ _ _ h => h, fun _ _ _ h => h, fun _ _ h => h⟩
theorem Mem.le.trans {A B C : Mem} (h : A.le B) (k : B.le C) : A.le C :=
  ⟨fun _ _ x => k.φ _ _ (h.φ _ _ x), fun _ _ _ x => k.F _ _ _ (h.F _ _ _ x), fun _ _ _ x => k.H _ _ _ (h.H _ _ _ x), fun _ _ x => k.Z _ _ (h.Z _ _ x)⟩

def Row (M : Mem) (B O : Nat) (us : List Value) : Prop := ∀ i v, us[i]? = some v → M.F B (O + i) = some v

theorem Row.mono {M M' : Mem} (h : M.le M') {B O : Nat} {us : List Value} (r : Row M B O us) : Row M' B O us :=
  fun i v hv => h.F _ _ _ (r i v hv)

/-- The executor's values, and a run's, side by side. -/
inductive CR (M : Mem) : List AV → List Value → Prop where
  | nil : CR M [] []
  | bool {b : Bool} {xs : List AV} {vs : List Value} : CR M xs vs → CR M (.bool b :: xs) (.bool b :: vs)
  | int {k : IntKind} {n : Int} {xs : List AV} {vs : List Value} : CR M xs vs → CR M (.int k n :: xs) (.int k n :: vs)
  | str {s : List Nat} {bs : ByteArray} {xs : List AV} {vs : List Value} : bs.data.toList.map UInt8.toNat = s → CR M xs vs → CR M (.str s :: xs) (.string bs :: vs)
  | nilp {xs : List AV} {vs : List Value} : CR M xs vs → CR M (.nilp :: xs) (.pointer none :: vs)
  | ptr {b o B : Nat} {xs : List AV} {vs : List Value} : M.φ b = some B → CR M xs vs → CR M (.ptr b o :: xs) (.pointer (some ⟨B, o, none⟩) :: vs)
  | eptr {cs : List AV} {us : List Value} {o B O : Nat} {xs : List AV} {vs : List Value} :
      Row M B O us → CR M cs us → CR M xs vs → CR M (.eptr cs o :: xs) (.pointer (some ⟨B, O + o, none⟩) :: vs)
  | nils {xs : List AV} {vs : List Value} : CR M xs vs → CR M (.nils :: xs) (.slice none 0 0 :: vs)
  | sl {t n sz cap B O : Nat} {els : List AV} {us : List Value} {xs : List AV} {vs : List Value} :
      n ≤ cap → els.length = n → (∀ e ∈ els, e.cells.length = sz) → Row M B O us → CR M (flat els) us →
      (t ≠ 0 → O = 0 ∧ M.Z t = some sz ∧ ∃ e, M.H t n = some (B, cap, e)) → CR M xs vs → CR M (.sl t n els :: xs) (.slice (some ⟨B, O, none⟩) n cap :: vs)
  | ms {b o n cap B : Nat} {xs : List AV} {vs : List Value} : M.φ b = some B → n ≤ cap → CR M xs vs →
      CR M (.ms b o n :: xs) (.slice (some ⟨B, o, none⟩) n cap :: vs)
  | gs {t n cap B e : Nat} {xs : List AV} {vs : List Value} : M.H t n = some (B, cap, e) → CR M xs vs →
      CR M (.gs t n :: xs) (.slice (some ⟨B, 0, none⟩) n cap :: vs)
  | gp {t n z p cap B e : Nat} {xs : List AV} {vs : List Value} : M.H t n = some (B, cap, e) → CR M xs vs →
      CR M (.gp t n z p :: xs) (.pointer (some ⟨B, p, none⟩) :: vs)
  | tp {t n cap B e : Nat} {els : List AV} {us : List Value} {xs : List AV} {vs : List Value} : M.H t n = some (B, cap, e) → els.length = n →
      Row M B 0 us → CR M (flat els) us → CR M xs vs → CR M (.tp e n els :: xs) (.pointer (some ⟨B, 0, none⟩) :: vs)
  | fn {f : FuncId} {fs cs : List AV} {fs' cs' : Array Value} {xs : List AV} {vs : List Value} :
      CR M fs fs'.toList → CR M cs cs'.toList → CR M xs vs → CR M (.fn f fs cs :: xs) (.func (.func f) fs' cs' :: vs)
  | nilfn {xs : List AV} {vs : List Value} : CR M xs vs → CR M (.nilfn :: xs) (.nilFunc :: vs)
  | niface {xs : List AV} {vs : List Value} : CR M xs vs → CR M (.niface :: xs) (.nilIface :: vs)
  | agg {cs : List AV} {us : Array Value} {xs : List AV} {vs : List Value} : CR M cs us.toList → CR M xs vs → CR M (.agg cs :: xs) (.agg us :: vs)
  | tup {cs : List AV} {us : Array Value} {xs : List AV} {vs : List Value} : CR M cs us.toList → CR M xs vs → CR M (.tup cs :: xs) (.tuple us :: vs)

theorem CR.mono {M M' : Mem} (h : M.le M') {xs : List AV} {vs : List Value} (r : CR M xs vs) : CR M' xs vs := by
  induction r with
  | nil => exact .nil
  | bool _ ih => exact .bool ih
  | int _ ih => exact .int ih
  | str e _ ih => exact .str e ih
  | nilp _ ih => exact .nilp ih
  | ptr e _ ih => exact .ptr (h.φ _ _ e) ih
  | eptr e _ _ ih1 ih2 => exact .eptr (e.mono h) ih1 ih2
  | nils _ ih => exact .nils ih
  | sl a b c d _ f _ ih1 ih2 => exact .sl a b c (d.mono h) ih1 (fun ht => ⟨(f ht).1, h.Z _ _ (f ht).2.1, (f ht).2.2.imp fun _ => h.H _ _ _⟩) ih2
  | ms e l _ ih => exact .ms (h.φ _ _ e) l ih
  | gs e _ ih => exact .gs (h.H _ _ _ e) ih
  | gp e _ ih => exact .gp (h.H _ _ _ e) ih
  | tp e l r _ _ ih1 ih2 => exact .tp (h.H _ _ _ e) l (r.mono h) ih1 ih2
  | fn _ _ _ ih1 ih2 ih3 => exact .fn ih1 ih2 ih3
  | nilfn _ ih => exact .nilfn ih
  | niface _ ih => exact .niface ih
  | agg _ _ ih1 ih2 => exact .agg ih1 ih2
  | tup _ _ ih1 ih2 => exact .tup ih1 ih2

theorem CR.length {M : Mem} {xs : List AV} {vs : List Value} (r : CR M xs vs) : xs.length = vs.length := by
  induction r <;> simp_all

theorem CR.cons {M : Mem} {x : AV} {v : Value} {xs : List AV} {vs : List Value} (h : CR M [x] [v]) (r : CR M xs vs) : CR M (x :: xs) (v :: vs) := by
  cases h with
  | bool _ => exact .bool r
  | int _ => exact .int r
  | str e _ => exact .str e r
  | nilp _ => exact .nilp r
  | ptr e _ => exact .ptr e r
  | eptr e a _ => exact .eptr e a r
  | nils _ => exact .nils r
  | sl a b c d e f _ => exact .sl a b c d e f r
  | ms e l _ => exact .ms e l r
  | gs e _ => exact .gs e r
  | gp e _ => exact .gp e r
  | tp e l a b _ => exact .tp e l a b r
  | fn a b _ => exact .fn a b r
  | nilfn _ => exact .nilfn r
  | niface _ => exact .niface r
  | agg a _ => exact .agg a r
  | tup a _ => exact .tup a r

theorem CR.uncons {M : Mem} {x : AV} {xs : List AV} {vs : List Value} (h : CR M (x :: xs) vs) : ∃ v us, vs = v :: us ∧ CR M [x] [v] ∧ CR M xs us := by
  cases h with
  | bool r => exact ⟨_, _, rfl, .bool .nil, r⟩
  | int r => exact ⟨_, _, rfl, .int .nil, r⟩
  | str e r => exact ⟨_, _, rfl, .str e .nil, r⟩
  | nilp r => exact ⟨_, _, rfl, .nilp .nil, r⟩
  | ptr e r => exact ⟨_, _, rfl, .ptr e .nil, r⟩
  | eptr e a r => exact ⟨_, _, rfl, .eptr e a .nil, r⟩
  | nils r => exact ⟨_, _, rfl, .nils .nil, r⟩
  | sl a b c d e f r => exact ⟨_, _, rfl, .sl a b c d e f .nil, r⟩
  | ms e l r => exact ⟨_, _, rfl, .ms e l .nil, r⟩
  | gs e r => exact ⟨_, _, rfl, .gs e .nil, r⟩
  | gp e r => exact ⟨_, _, rfl, .gp e .nil, r⟩
  | tp e l a b r => exact ⟨_, _, rfl, .tp e l a b .nil, r⟩
  | fn a b r => exact ⟨_, _, rfl, .fn a b .nil, r⟩
  | nilfn r => exact ⟨_, _, rfl, .nilfn .nil, r⟩
  | niface r => exact ⟨_, _, rfl, .niface .nil, r⟩
  | agg a r => exact ⟨_, _, rfl, .agg a .nil, r⟩
  | tup a r => exact ⟨_, _, rfl, .tup a .nil, r⟩

theorem CR.append {M : Mem} {xs ys : List AV} {vs us : List Value} (h : CR M xs vs) (r : CR M ys us) : CR M (xs ++ ys) (vs ++ us) := by
  induction xs generalizing vs with
  | nil => cases h; simpa using r
  | cons x xs ih =>
    obtain ⟨v, us', rfl, h1, h2⟩ := h.uncons
    exact CR.cons h1 (ih h2)

theorem CR.take {M : Mem} (n : Nat) {xs : List AV} {vs : List Value} (h : CR M xs vs) : CR M (xs.take n) (vs.take n) := by
  induction xs generalizing vs n with
  | nil => cases h; simpa using CR.nil
  | cons x xs ih =>
    obtain ⟨v, us', rfl, h1, h2⟩ := h.uncons
    cases n with
    | zero => exact .nil
    | succ n => exact CR.cons h1 (ih n h2)

theorem CR.drop {M : Mem} (n : Nat) {xs : List AV} {vs : List Value} (h : CR M xs vs) : CR M (xs.drop n) (vs.drop n) := by
  induction xs generalizing vs n with
  | nil => cases h; simpa using CR.nil
  | cons x xs ih =>
    obtain ⟨v, us', rfl, h1, h2⟩ := h.uncons
    cases n with
    | zero => exact CR.cons h1 h2
    | succ n => exact ih n h2

theorem CR.get {M : Mem} {xs : List AV} {vs : List Value} (h : CR M xs vs) {i : Nat} {x : AV} (hx : xs[i]? = some x) : ∃ v, vs[i]? = some v ∧ CR M [x] [v] := by
  induction xs generalizing vs i with
  | nil => simp at hx
  | cons y xs ih =>
    obtain ⟨v, us', rfl, h1, h2⟩ := h.uncons
    cases i with
    | zero => simp at hx; subst hx; exact ⟨v, by simp, h1⟩
    | succ i => simp at hx; simpa using ih h2 hx

theorem CR.set {M : Mem} {xs : List AV} {vs : List Value} (h : CR M xs vs) (i : Nat) {x : AV} {v : Value} (hv : CR M [x] [v]) : CR M (xs.set i x) (vs.set i v) := by
  induction xs generalizing vs i with
  | nil => cases h; simpa using CR.nil
  | cons y xs ih =>
    obtain ⟨u, us', rfl, h1, h2⟩ := h.uncons
    cases i with
    | zero => exact CR.cons hv h2
    | succ i => exact CR.cons h1 (ih h2 i)

theorem CR.replicate {M : Mem} {x : AV} {v : Value} (h : CR M [x] [v]) (n : Nat) : CR M (List.replicate n x) (List.replicate n v) := by
  induction n with
  | zero => exact .nil
  | succ n ih => exact CR.cons h ih

theorem CR.cells {M : Mem} {x : AV} {v : Value} (h : CR M [x] [v]) : CR M x.cells v.cells.toList := by
  cases h with
  | agg a _ => simpa [AV.cells, Value.cells] using a
  | _ => first | exact .bool .nil | exact .int .nil | exact .str ‹_› .nil | exact .nilp .nil | exact .ptr ‹_› .nil | exact .eptr ‹_› ‹_› .nil | exact .nils .nil | exact .sl ‹_› ‹_› ‹_› ‹_› ‹_› ‹_› .nil | exact .ms ‹_› ‹_› .nil | exact .gs ‹_› .nil | exact .gp ‹_› .nil | exact .tp ‹_› ‹_› ‹_› ‹_› .nil | exact .fn ‹_› ‹_› .nil | exact .nilfn .nil | exact .niface .nil | exact .tup ‹_› .nil

theorem CR.one {M : Mem} {x : AV} {v : Value} (h : CR M [x] [v]) : v.oneCell' = x.one := by
  cases h <;> rfl

theorem CR.all_one {M : Mem} {xs : List AV} {vs : List Value} (h : CR M xs vs) (ho : xs.all AV.one = true) : ∀ v ∈ vs, v.oneCell' = true := by
  induction xs generalizing vs with
  | nil => cases h; simp
  | cons x xs ih =>
    obtain ⟨v, us, rfl, h1, h2⟩ := h.uncons
    simp only [List.all_cons, Bool.and_eq_true] at ho
    intro u hu
    rcases List.mem_cons.1 hu with rfl | hu
    · rw [h1.one]; exact ho.1
    · exact ih h2 ho.2 u hu

/-- A token's slice: told (nobody writes its elements any more): how many, of how many cells each; or still its maker's own: its elements. -/
inductive TK where
  | f (n sz e : Nat)
  | g (sz e : Nat) (els : List AV)

/-- What the executor keeps: the boxes, the next one's number; of each token what its slice is now. -/
structure St where
  hp : Tr (List AV)
  nx : Nat
  tk : Tr TK
  nt : Nat
  ty : Tr Nat

/-- A token's own block: where it has room, or may still write. -/
def Own (M : Mem) (s : St) (t B : Nat) : Prop :=
  (∃ n sz e cap e', s.tk.get t = some (.f n sz e) ∧ M.H t n = some (B, cap, e') ∧ n < cap) ∨
  (∃ sz e els cap e', s.tk.get t = some (.g sz e els) ∧ M.H t els.length = some (B, cap, e'))

/-- The executor's state, and a world: w0 is the world in which all began; G: what the tables of the program hold. -/
structure W (G : Nat → Option (List AV)) (w0 : World) (M : Mem) (s : St) (w : World) : Prop where
  below : Below w0.heap.size w0 w
  gl : ∀ g cs, G g = some cs → CR M [.eptr cs 0] [.pointer (some ⟨g, 0, none⟩)]
  fz : ∀ B o v, M.F B o = some v → w.cell? ⟨B, o, none⟩ = some v
  hp : ∀ b B, M.φ b = some B → b < s.nx ∧ w0.heap.size ≤ B ∧ (∀ o, M.F B o = none) ∧
    ∃ cs vs e, s.hp.get b = some cs ∧ w.heap[B]? = some (.cells vs e (0, 0)) ∧ CR M cs vs.toList
  inj : ∀ b b' B, M.φ b = some B → M.φ b' = some B → b = b'
  nt : 0 < s.nt
  hb : ∀ t n B cap e, M.H t n = some (B, cap, e) → w0.heap.size ≤ B ∧ ∃ vs fr, w.heap[B]? = some (.cells vs e fr)
  ht : ∀ t, (t = 0 ∨ s.nt ≤ t) → M.Z t = none ∧ ∀ n, M.H t n = none
  tb : ∀ t k, s.tk.get t = some k → 0 < t ∧ t < s.nt
  tf : ∀ t n sz e, s.tk.get t = some (.f n sz e) → M.Z t = some sz ∧ (∀ m, n < m → M.H t m = none) ∧
    ∀ B cap e', M.H t n = some (B, cap, e') → e' = e ∧ (n < cap →
      w0.heap.size ≤ B ∧ (∀ b, M.φ b ≠ some B) ∧ (∀ o v, M.F B o = some v → o < n * sz) ∧
      ∃ vs lo hi, w.heap[B]? = some (.cells vs e (lo, hi)) ∧ cap * sz ≤ vs.size ∧ hi ≤ n * sz)
  tg : ∀ t sz e els, s.tk.get t = some (.g sz e els) → M.Z t = some sz ∧ (∀ m, els.length < m → M.H t m = none) ∧ (∀ e ∈ els, e.cells.length = sz) ∧
    ∃ B cap vs, M.H t els.length = some (B, cap, e) ∧ els.length ≤ cap ∧ w0.heap.size ≤ B ∧ (∀ b, M.φ b ≠ some B) ∧ (∀ o, M.F B o = none) ∧
      w.heap[B]? = some (.cells vs e (0, 0)) ∧ cap * sz ≤ vs.size ∧ CR M (flat els) (vs.toList.take (els.length * sz))
  tinj : ∀ t t' B, Own M s t B → Own M s t' B → t = t'
  ty : ∀ b T, s.ty.get b = some T → b < s.nx ∧ ∀ B, M.φ b = some B → ∃ vs fr, w.heap[B]? = some (.cells vs T fr)

/-- From (M, s) on to (M', s'): what was there is there; boxes that no run has made yet are as they were. -/
structure Ext (M : Mem) (s : St) (M' : Mem) (s' : St) : Prop where
  le : M.le M'
  nx : s.nx ≤ s'.nx
  un : ∀ b, b < s.nx → M.φ b = none → M'.φ b = none ∧ s'.hp.get b = s.hp.get b
  ty : ∀ b, b < s.nx → s'.ty.get b = s.ty.get b

theorem Ext.refl (M : Mem) (s : St) : Ext M s M s := ⟨.refl M, Nat.le_refl _, fun _ _ h => ⟨h, rfl⟩, fun _ _ => rfl⟩
theorem Ext.trans {M M' M'' : Mem} {s s' s'' : St} (h : Ext M s M' s') (k : Ext M' s' M'' s'') : Ext M s M'' s'' :=
  ⟨h.le.trans k.le, Nat.le_trans h.nx k.nx, fun b hb hn =>
    let ⟨h1, h2⟩ := h.un b hb hn
    let ⟨k1, k2⟩ := k.un b (Nat.lt_of_lt_of_le hb h.nx) h1
    ⟨k1, k2.trans h2⟩, fun b hb => (k.ty b (Nat.lt_of_lt_of_le hb h.nx)).trans (h.ty b hb)⟩

theorem W.drawn {G : Nat → Option (List AV)} {w0 : World} {M : Mem} {s : St} {w : World} (h : W G w0 M s w) (n : Nat) : W G w0 M s { w with drawn := n } :=
  ⟨⟨h.below.os, h.below.tape, h.below.output, h.below.size, h.below.block⟩, h.gl, h.fz, h.hp, h.inj, h.nt, h.hb, h.ht, h.tb, h.tf, h.tg, h.tinj, h.ty⟩

end Go.Proofs.YtmoihglcdmmmlaaGreatDoor
