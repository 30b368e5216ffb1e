/-
  The operations of two operands, the rest.
-/
import Derived.Test.YtmoihglcdmmmlaaGreatDoorAb8
import Derived.Laws.MakeOwn
import Derived.LaidEql
set_option linter.unusedSimpArgs false
set_option linter.unusedVariables false
namespace Go.Proofs.YtmoihglcdmmmlaaGreatDoor
open Go Go.RowKit

def fnIs (f : Nat) : Fn → Bool
  | .func g => Nat.beq f g
  | _ => false

def noEls {α : Type} : List α → Bool
  | [] => true
  | _ => false

mutual
/-- A constant, as the program has it and as the executor has it. -/
def cOk : AV → Value → Bool
  | .bool a, .bool b => a == b
  | .int j a, .int k b => kEq j k && ieqI a b
  | .str s, .string bs => strEq (bs.data.toList.map UInt8.toNat) s
  | .nilp, .pointer p => p.isNone
  | .nils, .slice a l c => a.isNone && (Nat.beq l 0 && Nat.beq c 0)
  | .fn f fs cs, .func g a b => fnIs f g && (noEls fs && (noEls cs && (noEls a.toList && noEls b.toList)))
  | .nilfn, .nilFunc => true
  | .niface, .nilIface => true
  | .agg cs, .agg us => cOks cs us.toList
  | .tup cs, .tuple us => cOks cs us.toList
  | _, _ => false
def cOks : List AV → List Value → Bool
  | [], [] => true
  | x :: xs, v :: vs => cOk x v && cOks xs vs
  | _, _ => false
end

theorem kEq_eq {j k : IntKind} (h : kEq j k = true) : j = k := by
  cases j <;> cases k <;> first | rfl | (simp [kEq] at h; done)

theorem ieqI_of {a b : Int} (h : ieqI a b = true) : a = b := by
  rw [ieqI_eq] at h; exact eq_of_beq h

theorem strEq_of {a b : List Nat} (h : strEq a b = true) : a = b := by
  rw [strEq_eq] at h; exact eq_of_beq h

theorem cOks_cr (M : Mem) : ∀ (n : Nat) (xs : List AV) (vs : List Value), SizeOf.sizeOf xs ≤ n → cOks xs vs = true → CR M xs vs := by
  intro n
  induction n with
  | zero => intro xs vs hn; cases xs <;> simp at hn
  | succ n ih =>
    intro xs vs hn h
    cases xs with
    | nil => cases vs with
      | nil => exact .nil
      | cons v vs => simp [cOks] at h
    | cons x xs =>
      cases vs with
      | nil => simp [cOks] at h
      | cons v vs =>
        simp only [cOks, Bool.and_eq_true] at h
        obtain ⟨h1, h2⟩ := h
        have hs : SizeOf.sizeOf x + SizeOf.sizeOf xs ≤ n := by
          simp only [List.cons.sizeOf_spec] at hn; omega
        have hr := ih xs vs (by omega) h2
        refine CR.cons ?_ hr
        cases x <;> cases v <;> simp only [cOk, reduceCtorEq] at h1
        case bool.bool => rw [eq_of_beq h1]; exact .bool .nil
        case int.int =>
          simp only [Bool.and_eq_true] at h1
          rw [kEq_eq h1.1, ieqI_of h1.2]; exact .int .nil
        case str.string => exact .str (strEq_of h1) .nil
        case nilp.pointer p => cases p with
          | none => exact .nilp .nil
          | some p => exact absurd h1 (by simp)
        case nils.slice a l c =>
          simp only [Bool.and_eq_true] at h1
          obtain ⟨h1, h2, h3⟩ := h1
          have h2 := Nat.eq_of_beq_eq_true h2
          have h3 := Nat.eq_of_beq_eq_true h3
          subst h2; subst h3
          cases a with
          | some a => exact absurd h1 (by simp)
          | none => exact .nils .nil
        case fn.func f fs cs g a b =>
          simp only [Bool.and_eq_true] at h1
          obtain ⟨h1, h2, h3, h4, h5⟩ := h1
          have nil : ∀ {α : Type} (l : List α), noEls l = true → l = [] := fun l h => by cases l with | nil => rfl | cons _ _ => simp [noEls] at h
          cases nil _ h2; cases nil _ h3
          have ha : a = #[] := Array.ext' (nil _ h4)
          have hb : b = #[] := Array.ext' (nil _ h5)
          subst ha; subst hb
          cases g <;> simp only [fnIs, reduceCtorEq] at h1
          rw [Nat.eq_of_beq_eq_true h1]
          exact .fn .nil .nil .nil
        case nilfn.nilFunc => exact .nilfn .nil
        case niface.nilIface => exact .niface .nil
        case agg.agg cs us =>
          exact .agg (ih cs us.toList (by simp only [AV.agg.sizeOf_spec] at hs; omega) h1) .nil
        case tup.tuple cs us =>
          exact .tup (ih cs us.toList (by simp only [AV.tup.sizeOf_spec] at hs; omega) h1) .nil

theorem cOk_cr (M : Mem) {x : AV} {v : Value} (h : cOk x v = true) : CR M [x] [v] :=
  cOks_cr M _ [x] [v] (Nat.le_refl _) (by simp [cOks, h])

theorem CR.flatten {M : Mem} {xs : List AV} {vs : List Value} (h : CR M xs vs) (n : Nat) : CR M (List.replicate n xs).flatten (List.replicate n vs).flatten := by
  induction n with
  | zero => exact .nil
  | succ n ih => simp only [List.replicate_succ, List.flatten_cons]; exact h.append ih

theorem madeCells_flat (z : Array Value) : ∀ (c : Nat), (madeCells z (c * z.size)).toList = (List.replicate c z.toList).flatten := by
  intro c
  apply List.ext_getElem?
  intro i
  rcases Nat.eq_zero_or_pos z.size with hz | hz
  · have : z = #[] := Array.eq_empty_of_size_eq_zero hz
    subst this
    simp [madeCells]
  · induction c generalizing i with
    | zero => simp [madeCells]
    | succ c ih =>
      rw [List.replicate_succ, List.flatten_cons]
      have hget : ∀ (n j : Nat), (madeCells z n).toList[j]? = if j < n then some z[j % z.size]! else none := by
        intro n j
        simp only [madeCells, Array.toList_map, Array.toList_range, List.getElem?_map]
        by_cases hj : j < n
        · rw [List.getElem?_range hj, if_pos hj]; rfl
        · rw [List.getElem?_eq_none (by simp; omega), if_neg hj]; rfl
      rw [hget]
      by_cases hi : i < z.size
      · rw [if_pos (by rw [Nat.succ_mul]; omega), List.getElem?_append_left (by simpa using hi), Nat.mod_eq_of_lt hi]
        simp [getElem!_pos, hi]
      · rw [List.getElem?_append_right (by simpa using Nat.le_of_not_lt hi), ← ih (i - z.toList.length), hget]
        simp only [Array.length_toList]
        rw [Nat.succ_mul]
        by_cases h2 : i < c * z.size + z.size
        · rw [if_pos h2, if_pos (by omega), ← Nat.mod_eq_sub_mod (by omega)]
        · rw [if_neg h2, if_neg (by omega)]

section
variable {P : Program} {G : Nat → Option (List AV)} {w0 : World} {M : Mem} {s : St} {w : World} {o : Oper} {ρ : Operand → Value} {v : AV} {s' : St}

/-- x == y, or x != y, of no aggregates and no interfaces. -/
theorem run_eqn {n : Bool} {p : BinOp} {t u : TypeId} {x y : Operand} {rx ry : Value} (hp : p = (if n then .neq else .eql)) (ho : o.op = .binOp p t x y u) (hgx : ρ x = rx) (hgy : ρ y = ry)
    (hne : ∀ us, rx ≠ .agg us) (hni : rx ≠ .nilIface) (h1 : ∀ k a k' b, rx = .int k a → ry ≠ .int k' b) (h2 : ∀ k a k' b, rx = .float k a → ry ≠ .float k' b)
    (h3 : ∀ k a b k' c d, rx = .complex k a b → ry ≠ .complex k' c d) (h4 : ∀ a b, rx = .string a → ry ≠ .string b) {r : Bool} (hr : (Op.equal t rx ry).run P w = .ok r w) :
    (execOp ρ o).run P w = .ok (.value (.bool (if n then !r else r))) w := by
  have hg : (eqGuard p t x y rx ry).run P w = .ok () w := by
    unfold eqGuard
    cases rx <;> first | (exact absurd rfl (hne _)) | (exact absurd rfl hni) | (subst hp; cases n <;> cases ry <;> rfl)
  have hb : (binOp p t rx ry).run P w = .ok (.bool (if n then !r else r)) w := by
    subst hp
    cases n
    · cases rx <;> cases ry <;> first
        | exact absurd rfl (h1 _ _ _ _ rfl)
        | exact absurd rfl (h2 _ _ _ _ rfl)
        | exact absurd rfl (h3 _ _ _ _ _ _ rfl)
        | exact absurd rfl (h4 _ _ rfl)
        | simp [binOp, hr]
    · cases rx <;> cases ry <;> first
        | exact absurd rfl (h1 _ _ _ _ rfl)
        | exact absurd rfl (h2 _ _ _ _ rfl)
        | exact absurd rfl (h3 _ _ _ _ _ _ rfl)
        | exact absurd rfl (h4 _ _ rfl)
        | simp [binOp, hr]
  simp [execOp, ho, hgx, hgy, hg, hb]

theorem equal_eq (t : TypeId) (x y : Value) : Op.equal t x y = Op.equalIn (9999 + 1) t x y := rfl

theorem neg'_eq (n b : Bool) : neg' n b = .bool (if n then !b else b) := by cases n <;> rfl

theorem did_eqp (hw : W G w0 M s w) {n : Bool} {p : BinOp} {t u : TypeId} {x y : Operand} {xv yv : AV} (hp : p = (if n then .neq else .eql)) (ho : o.op = .binOp p t x y u) (ht : ptrOk P t = true)
    (hx : CR M [xv] [ρ x]) (hy : CR M [yv] [ρ y]) (h : eqpA n xv yv = some v) : Did P G w0 M s o ρ w v s := by
  generalize hgx : ρ x = rx at *
  generalize hgy : ρ y = ry at *
  unfold ptrOk at ht
  cases hu : P.underlying t with
  | none => simp [hu] at ht
  | some d =>
    cases d <;> simp [hu] at ht
    rename_i e
    cases hi : P.info? e with
    | none => simp [hi] at ht
    | some i =>
      simp only [hi, bne_iff_ne, ne_eq, decide_eq_true_eq] at ht
      have fin : ∀ (a b : Option Addr) (r : Bool), rx = .pointer a → ry = .pointer b → (Op.equal t rx ry).run P w = .ok r w → v = neg' n r → Did P G w0 M s o ρ w v s := by
        intro a b r ha hb hr hv
        subst ha; subst hb; subst hv
        exact Did.pure hw (run_eqn (P := P) (w := w) hp ho hgx hgy (by simp) (by simp) (by simp) (by simp) (by simp) (by simp) hr) (by rw [neg'_eq]; exact .bool .nil)
      unfold eqpA at h
      cases xv <;> cases yv <;> simp only [reduceCtorEq, Option.some.injEq] at h
      case nilp.nilp =>
        cases hx; cases hy
        exact fin _ _ true rfl rfl (by rw [equal_eq, Op.equalIn]; simp [run_underlying hu]) h.symm
      case nilp.ptr =>
        cases hx; cases hy
        exact fin _ _ false rfl rfl (by rw [equal_eq, Op.equalIn]; simp [run_underlying hu]) h.symm
      case nilp.eptr =>
        cases hx; cases hy
        exact fin _ _ false rfl rfl (by rw [equal_eq, Op.equalIn]; simp [run_underlying hu]) h.symm
      case ptr.nilp =>
        cases hx; cases hy
        exact fin _ _ false rfl rfl (by rw [equal_eq, Op.equalIn]; simp [run_underlying hu]) h.symm
      case eptr.nilp =>
        cases hx; cases hy
        exact fin _ _ false rfl rfl (by rw [equal_eq, Op.equalIn]; simp [run_underlying hu]) h.symm
      case ptr.ptr b1 o1 b2 o2 =>
        cases hbb : Nat.beq b1 b2 with
        | false => simp [hbb] at h
        | true =>
          simp only [hbb, cond_true, Option.some.injEq] at h
          have := Nat.eq_of_beq_eq_true hbb
          subst this
          cases hx with
          | ptr hφ _ =>
          cases hy with
          | ptr hφ' _ =>
            rw [hφ] at hφ'; cases hφ'
            refine fin _ _ (Nat.beq o1 o2) rfl rfl ?_ h.symm
            rw [equal_eq, Op.equalIn]
            simp [run_underlying hu, sizeOf, typeInfo, hi, ht, sameAddr]
            rw [Bool.eq_iff_iff]; simp

theorem did_eqb (hw : W G w0 M s w) {n : Bool} {p : BinOp} {t u : TypeId} {x y : Operand} {xv yv : AV} (hp : p = (if n then .neq else .eql)) (ho : o.op = .binOp p t x y u) (ht : isBoolT P t = true)
    (hx : CR M [xv] [ρ x]) (hy : CR M [yv] [ρ y]) (h : eqbA n xv yv = some v) : Did P G w0 M s o ρ w v s := by
  generalize hgx : ρ x = rx at *
  generalize hgy : ρ y = ry at *
  unfold isBoolT at ht
  cases hu : P.underlying t with
  | none => simp [hu] at ht
  | some d =>
    cases d <;> simp [hu] at ht
    unfold eqbA at h
    cases xv <;> cases yv <;> simp only [reduceCtorEq, Option.some.injEq] at h
    cases hx; cases hy
    subst h
    exact Did.pure hw (run_eqn (P := P) (w := w) hp ho hgx hgy (by simp) (by simp) (by simp) (by simp) (by simp) (by simp)
      (run_equal_bool w t _ _ hu)) (by rw [neg'_eq]; exact .bool .nil)

theorem did_eqs (hw : W G w0 M s w) {n : Bool} {p : BinOp} {t u : TypeId} {x y : Operand} {xv yv : AV} (hp : p = (if n then .neq else .eql)) (ho : o.op = .binOp p t x y u) (ht : isSliceT P t = true)
    (hx : CR M [xv] [ρ x]) (hy : CR M [yv] [ρ y]) (h : eqsA n xv yv = some v) : Did P G w0 M s o ρ w v s := by
  generalize hgx : ρ x = rx at *
  generalize hgy : ρ y = ry at *
  unfold isSliceT at ht
  cases hu : P.underlying t with
  | none => simp [hu] at ht
  | some d =>
    cases d <;> simp [hu] at ht
    unfold eqsA at h
    have fin : ∀ (a b : Option Addr) (l c l' c' : Nat) (r : Bool), rx = .slice a l c → ry = .slice b l' c' → (Op.equal t rx ry).run P w = .ok r w → v = neg' n r → Did P G w0 M s o ρ w v s := by
      intro a b l c l' c' r ha hb hr hv
      subst ha; subst hb; subst hv
      exact Did.pure hw (run_eqn (P := P) (w := w) hp ho hgx hgy (by simp) (by simp) (by simp) (by simp) (by simp) (by simp) hr) (by rw [neg'_eq]; exact .bool .nil)
    cases xv <;> cases yv <;> simp only [reduceCtorEq, Option.some.injEq] at h
    case nils.nils => cases hx; cases hy; exact fin _ _ _ _ _ _ true rfl rfl (by rw [equal_eq, Op.equalIn]; simp [run_underlying hu]) h.symm
    all_goals cases hx; cases hy; exact fin _ _ _ _ _ _ false rfl rfl (by rw [equal_eq, Op.equalIn]; simp [run_underlying hu]) h.symm

theorem natOf_cr {i : AV} {n : Nat} {r : Value} (hi : natOf i = some n) (h : CR M [i] [r]) : ∃ k, r = .int k (n : Int) := by
  unfold natOf at hi
  split at hi
  · cases hi; cases h; exact ⟨_, rfl⟩
  · cases hi

theorem did_iad (hw : W G w0 M s w) {t : TypeId} {sz : Nat} {x y : Operand} {xv yv : AV} (ho : o.op = .indexAddr t x y) (ht : elemOk P t sz = true)
    (hx : CR M [xv] [ρ x]) (hy : CR M [yv] [ρ y]) (h : iadA sz xv yv = some v) : Did P G w0 M s o ρ w v s := by
  generalize hgx : ρ x = rx at *
  generalize hgy : ρ y = ry at *
  unfold elemOk at ht
  cases hu : P.underlying t with
  | none => simp [hu] at ht
  | some d =>
    cases d <;> simp [hu] at ht
    rename_i e
    cases hi : P.info? e with
    | none => simp [hi] at ht
    | some i =>
      simp only [hi, beq_iff_eq] at ht
      subst ht
      unfold iadA at h
      cases hn : natOf yv with
      | none => simp [hn] at h
      | some n =>
        obtain ⟨k, rfl⟩ := natOf_cr hn hy
        simp only [hn] at h
        have run : ∀ (B O l c : Nat), rx = .slice (some ⟨B, O, none⟩) l c → n < l → (execOp ρ o).run P w = .ok (.value (.pointer (some ⟨B, O + n * i.size, none⟩))) w := by
          intro B O l c hr hlt
          simp [execOp, ho, hgx, hgy, hr, Instr.indexAt, asIntOf, run_underlying hu, hlt, sizeOf, typeInfo, hi, addr_add]
        cases xv <;> simp only [reduceCtorEq] at h
        case sl t' m els =>
          cases hb : Nat.blt n m with
          | false => simp [hb] at h
          | true =>
            have hlt : n < m := by simpa [Nat.blt_eq] using hb
            simp only [hb, cond_true, nth_eq] at h
            cases he : els[n]? with
            | none => simp [he] at h
            | some el =>
              simp only [he] at h
              cases hl : Nat.beq el.cells.length i.size with
              | false => simp [hl] at h
              | true =>
                simp only [hl, cond_true, Option.some.injEq] at h
                subst h
                have hl' := Nat.eq_of_beq_eq_true hl
                cases hx with
                | @sl _ _ sz2 cap B O _ us _ _ h1 h2 h3 h4 h5 h6 _ =>
                  have hsz2 : sz2 = i.size := by rw [← h3 el (List.mem_of_getElem? he)]; exact hl'
                  rw [hsz2] at h3 h6
                  refine Did.pure hw (run _ _ _ _ rfl hlt) ?_
                  have hrow : Row M B (O + n * i.size) ((us.drop (n * i.size)).take i.size) := by
                    intro j u hu'
                    rw [List.getElem?_take] at hu'
                    split at hu'
                    · rw [List.getElem?_drop] at hu'
                      have := h4 _ _ hu'
                      rwa [← Nat.add_assoc] at this
                    · cases hu'
                  have hcr := (h5.drop (n * i.size)).take i.size
                  rw [flat_drop_take h3 he] at hcr
                  have := CR.eptr (o := 0) hrow hcr (.nil (M := M))
                  simpa using this
        case ms b o' m =>
          cases hb : Nat.blt n m with
          | false => simp [hb] at h
          | true =>
            have hlt : n < m := by simpa [Nat.blt_eq] using hb
            simp only [hb, cond_true, Option.some.injEq] at h
            subst h
            cases hx with
            | ms hφ hle _ => exact Did.pure hw (run _ _ _ _ rfl hlt) (.ptr hφ .nil)
        case gs t' m =>
          cases hb : Nat.blt n m with
          | false => simp [hb] at h
          | true =>
            have hlt : n < m := by simpa [Nat.blt_eq] using hb
            simp only [hb, cond_true, Option.some.injEq] at h
            subst h
            cases hx with
            | gs hH _ =>
              have := run _ 0 _ _ rfl hlt
              rw [Nat.zero_add] at this
              exact Did.pure hw this (.gp hH .nil)

theorem did_ixs (hw : W G w0 M s w) {t : TypeId} {x y : Operand} {xv yv : AV} (ho : o.op = .index t x y) (ht : isStrT P t = true)
    (hx : CR M [xv] [ρ x]) (hy : CR M [yv] [ρ y]) (h : ixsA xv yv = some v) : Did P G w0 M s o ρ w v s := by
  generalize hgx : ρ x = rx at *
  generalize hgy : ρ y = ry at *
  unfold isStrT at ht
  cases hu : P.underlying t with
  | none => simp [hu] at ht
  | some d =>
    cases d <;> simp [hu] at ht
    unfold ixsA at h
    cases xv <;> cases hn : natOf yv <;> simp only [hn, reduceCtorEq] at h
    rename_i z n
    obtain ⟨k, rfl⟩ := natOf_cr hn hy
    simp only [nth_eq] at h
    cases hz : z[n]? with
    | none => simp [hz] at h
    | some c =>
      simp only [hz, Option.some.injEq] at h
      subst h
      cases hx with
      | @str _ bs _ _ hb _ =>
        subst hb
        rw [List.getElem?_map] at hz
        cases hc : bs.data.toList[n]? with
        | none => simp [hc] at hz
        | some b =>
          simp only [hc, Option.map_some, Option.some.injEq] at hz
          subst hz
          refine Did.pure hw (v' := .int .u8 b.toNat) ?_ (.int .nil)
          have hlt : n < bs.data.size := by
            have := (List.getElem?_eq_some_iff.1 hc).1; simpa using this
          have hget : bs[n]? = some b := by
            have hlt' : n < bs.size := hlt
            rw [getElem?_pos bs n hlt']
            have := (List.getElem?_eq_some_iff.1 hc).2
            rw [← this]; rfl
          simp [execOp, ho, hgx, hgy, Instr.index, asIntOf, run_underlying hu, hget]

theorem did_mn (hw : W G w0 M s w) {x y : Operand} {xv yv : AV} {c : Call} (ho : o.op = .call c) (hc : c.callee = .builtin .min) (ha : c.args.toList = [x, y])
    (hx : CR M [xv] [ρ x]) (hy : CR M [yv] [ρ y]) (h : mnA xv yv = some v) : Did P G w0 M s o ρ w v s := by
  obtain ⟨callee, args, argTypes⟩ := c
  simp only at hc ha
  subst hc
  have ha' : args = #[x, y] := Array.ext' ha
  subst ha'
  generalize hgx : ρ x = rx at *
  generalize hgy : ρ y = ry at *
  unfold mnA at h
  cases xv <;> cases yv <;> simp only [reduceCtorEq] at h
  rename_i k a k' b
  cases hk : kEq k k' with
  | false => simp [hk] at h
  | true =>
    have := kEq_eq hk
    subst this
    simp only [hk, cond_true, Option.some.injEq, iltI_eq] at h
    subst h
    cases hx; cases hy
    refine Did.pure hw (v' := .int k (if b < a then b else a)) (by simp [execOp, ho, resolve, hgx, hgy, invoke, builtin, Builtin.min_, Builtin.min2]) ?_
    have : (bif decide (b < a) then b else a) = if b < a then b else a := by by_cases hlt : b < a <;> simp [hlt]
    rw [this]; exact .int .nil

theorem did_mx (hw : W G w0 M s w) {x y : Operand} {xv yv : AV} {c : Call} (ho : o.op = .call c) (hc : c.callee = .builtin .max) (ha : c.args.toList = [x, y])
    (hx : CR M [xv] [ρ x]) (hy : CR M [yv] [ρ y]) (h : mxA xv yv = some v) : Did P G w0 M s o ρ w v s := by
  obtain ⟨callee, args, argTypes⟩ := c
  simp only at hc ha
  subst hc
  have ha' : args = #[x, y] := Array.ext' ha
  subst ha'
  generalize hgx : ρ x = rx at *
  generalize hgy : ρ y = ry at *
  unfold mxA at h
  cases xv <;> cases yv <;> simp only [reduceCtorEq] at h
  rename_i k a k' b
  cases hk : kEq k k' with
  | false => simp [hk] at h
  | true =>
    have := kEq_eq hk
    subst this
    simp only [hk, cond_true, Option.some.injEq, iltI_eq] at h
    subst h
    cases hx; cases hy
    refine Did.pure hw (v' := .int k (if a < b then b else a)) (by simp [execOp, ho, resolve, hgx, hgy, invoke, builtin, Builtin.max_, Builtin.max2]) ?_
    have : (bif decide (a < b) then b else a) = if a < b then b else a := by by_cases hlt : a < b <;> simp [hlt]
    rw [this]; exact .int .nil
end

end Go.Proofs.YtmoihglcdmmmlaaGreatDoor
