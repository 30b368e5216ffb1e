/-
  The operations of two operands.
-/
import Derived.Test.YtmoihglcdmmmlaaGreatDoorAb7
import Derived.Laws.BytesString
import Derived.Lib.UnsafeStr
set_option linter.unusedSimpArgs false
set_option linter.unusedVariables false
namespace Go.Proofs.YtmoihglcdmmmlaaGreatDoor
open Go Go.RowKit

theorem ieqI_eq (a b : Int) : ieqI a b = (a == b) := by
  unfold ieqI
  split
  · rename_i a b
    rw [Bool.eq_iff_iff, beq_iff_eq]
    constructor
    · intro h; rw [Nat.eq_of_beq_eq_true h]
    · intro h; cases h; exact Nat.beq_refl _
  · rename_i a b
    rw [Bool.eq_iff_iff, beq_iff_eq]
    constructor
    · intro h; rw [Nat.eq_of_beq_eq_true h]
    · intro h; cases h; exact Nat.beq_refl _
  · rename_i h1 h2
    symm
    rw [beq_eq_false_iff_ne]
    rintro rfl
    cases a with
    | ofNat a => exact h1 a a rfl rfl
    | negSucc a => exact h2 a a rfl rfl

theorem iltI_eq (a b : Int) : iltI a b = decide (a < b) := by
  unfold iltI
  split
  · rename_i a b
    rw [Bool.eq_iff_iff]
    simp only [Nat.blt_eq, decide_eq_true_eq]
    exact Int.ofNat_lt.symm
  · rename_i a b
    symm; rw [decide_eq_true_eq]; exact Int.lt_of_lt_of_le (Int.negSucc_lt_zero a) (Int.natCast_nonneg b)
  · rename_i a b
    symm; rw [decide_eq_false_iff_not]; intro h
    have := Int.negSucc_lt_zero b
    have h2 := Int.natCast_nonneg a
    have h3 : (Int.ofNat a) = (a : Int) := rfl
    omega
  · rfl

theorem isubI_eq (a b : Int) : isubI a b = a - b := by
  unfold isubI
  split
  · rename_i a b
    cases hb : Nat.ble b a with
    | false => rfl
    | true =>
      have := Nat.le_of_ble_eq_true hb
      simp only [cond_true]
      show ((a - b : Nat) : Int) = (a : Int) - (b : Int)
      omega
  · rfl

theorem strEq_eq (x y : List Nat) : strEq x y = (x == y) := by
  induction x generalizing y with
  | nil => cases y <;> rfl
  | cons a x ih =>
    cases y with
    | nil => rfl
    | cons b y =>
      simp only [strEq, ih]
      rw [Bool.eq_iff_iff]
      simp

theorem map_toNat_inj {a b : List UInt8} : a.map UInt8.toNat = b.map UInt8.toNat ↔ a = b := by
  constructor
  · intro h
    induction a generalizing b with
    | nil => cases b with
      | nil => rfl
      | cons _ _ => simp at h
    | cons x a ih =>
      cases b with
      | nil => simp at h
      | cons y b =>
        simp only [List.map_cons, List.cons.injEq] at h
        rw [UInt8.toNat_inj.1 h.1, ih h.2]
  · rintro rfl; rfl

theorem strEq_bytes (a b : List UInt8) : strEq (a.map UInt8.toNat) (b.map UInt8.toNat) = (a == b) := by
  rw [strEq_eq, Bool.eq_iff_iff]
  simp only [beq_iff_eq]
  exact map_toNat_inj

theorem strLt_bytes (a b : List UInt8) : strLt (a.map UInt8.toNat) (b.map UInt8.toNat) = Op.bytesLess a b := by
  induction a generalizing b with
  | nil => cases b <;> rfl
  | cons x a ih =>
    cases b with
    | nil => rfl
    | cons y b =>
      simp only [List.map_cons, strLt, Op.bytesLess, ih]
      have h1 : Nat.blt x.toNat y.toNat = decide (x < y) := by
        rw [Bool.eq_iff_iff]; simp [Nat.blt_eq, UInt8.lt_iff_toNat_lt]
      have h2 : Nat.beq x.toNat y.toNat = (x == y) := by
        rw [Bool.eq_iff_iff]; simp [UInt8.toNat_inj]
      rw [h1, h2]

def elemOk (P : Program) (t sz : Nat) : Bool :=
  match P.underlying t with
  | some (.slice e) => (match P.info? e with
    | some i => i.size == sz
    | none => false)
  | _ => false

def arrOk (P : Program) (t n sz : Nat) : Bool :=
  match P.underlying t with
  | some (.array m e) => m == n && (match P.info? e with
    | some i => i.size == sz
    | none => false)
  | _ => false

def appOk (P : Program) (t u sz bytes e : Nat) : Bool :=
  (match P.underlying t with
  | some (.slice e') => e' == e
  | _ => false) &&
  (match P.info? e with
  | some i => i.size == sz && i.bytes == bytes && (match i.zero with
    | some z => z.cells.size == sz
    | none => false) && sz != 0 && bytes != 0
  | none => false) &&
  (match P.underlying u with
  | some .string | some (.slice _) => true
  | _ => false)

def ptrOk (P : Program) (t : Nat) : Bool :=
  match P.underlying t with
  | some (.pointer e) => (match P.info? e with
    | some i => i.size != 0
    | none => false)
  | _ => false

def isBoolT (P : Program) (t : TypeId) : Bool :=
  match P.underlying t with
  | some .bool => true
  | _ => false

def ptrTo (P : Program) (t e : Nat) : Bool :=
  match P.underlying t with
  | some (.pointer e') => e' == e && P.cellsOf e == 1
  | _ => false

def oneCell (P : Program) (t : TypeId) : Bool :=
  match P.info? t with
  | some i => i.size == 1
  | none => false

section
variable {P : Program} {G : Nat → Option (List AV)} {w0 : World} {M : Mem} {s : St} {w : World} {o : Oper} {ρ : Operand → Value} {v : AV} {s' : St}

theorem appOk_elem {t u sz bytes e : Nat} (h : appOk P t u sz bytes e = true) : ElemOk P t e sz bytes [] ∧ NotInt P u := by
  unfold appOk at h
  simp only [Bool.and_eq_true] at h
  obtain ⟨⟨h1, h2⟩, h3⟩ := h
  refine ⟨⟨?_, ?_, ?_, ?_⟩, ?_⟩
  · cases hu : P.underlying t with
    | none => simp [hu] at h1
    | some d => cases d <;> simp [hu] at h1; rw [h1]
  · cases hi : P.info? e with
    | none => simp [hi] at h2
    | some i =>
      simp only [hi, Bool.and_eq_true, beq_iff_eq, bne_iff_ne, ne_eq] at h2
      obtain ⟨⟨⟨⟨h21, h22⟩, h23⟩, h24⟩, h25⟩ := h2
      cases hz : i.zero with
      | none => simp [hz] at h23
      | some z => simp only [hz, beq_iff_eq] at h23; exact ⟨i, z, rfl, h21, h22, hz, h23⟩
  · cases hi : P.info? e with
    | none => simp [hi] at h2
    | some i =>
      simp only [hi, Bool.and_eq_true, beq_iff_eq, bne_iff_ne, ne_eq] at h2; omega
  · cases hi : P.info? e with
    | none => simp [hi] at h2
    | some i =>
      simp only [hi, Bool.and_eq_true, beq_iff_eq, bne_iff_ne, ne_eq] at h2; omega
  · cases hu : P.underlying u with
    | none => simp [hu] at h3
    | some d =>
      cases d <;> simp [hu] at h3
      · exact .inl hu
      · exact .inr ⟨_, hu⟩

theorem did_bin (hw : W G w0 M s w) {x y : Operand} {xv yv : AV} {p : BinOp} {t u : TypeId} (ho : o.op = .binOp p t x y u) (hx : CR M [xv] [ρ x]) (hy : CR M [yv] [ρ y])
    (h : binA p xv yv = some v) : Did P G w0 M s o ρ w v s := by
  generalize hgx : ρ x = rx at *
  generalize hgy : ρ y = ry at *
  unfold binA at h
  cases xv <;> cases yv <;> simp only [reduceCtorEq] at h
  case int.int k a k' b =>
    cases hx with
    | int _ =>
    cases hy with
    | int _ =>
    have hg : (eqGuard p t x y (.int k a) (.int k' b)).run P w = .ok () w := by
      unfold eqGuard; cases p <;> rfl
    have run : ∀ r, (binOp p t (.int k a) (.int k' b)).run P w = .ok r w → (execOp ρ o).run P w = .ok (.value r) w := by
      intro r hr
      simp [execOp, ho, hgx, hgy, hg, hr]
    cases hs : isShift p with
    | true =>
      simp only [hs, cond_true] at h
      unfold shiftA at h
      rw [iltI_eq] at h
      cases hb : decide (b < 0) with
      | true => simp [hb] at h
      | false =>
        have hb' : ¬ b < 0 := of_decide_eq_false hb
        simp only [hb, cond_false] at h
        cases p <;> simp [isShift] at hs <;> simp only [Option.some.injEq] at h <;> subst h
        · exact Did.pure hw (v' := .int _ _) (run _ (by simp [binOp, Op.shift, hb'])) (.int .nil)
        · exact Did.pure hw (v' := .int _ _) (run _ (by simp [binOp, Op.shift, hb'])) (.int .nil)
    | false =>
      simp only [hs, cond_false] at h
      cases hk : kEq k k' with
      | false => simp [hk] at h
      | true =>
        have hkk : k = k' := by cases k <;> cases k' <;> first | rfl | (simp [kEq] at hk; done)
        subst hkk
        simp only [hk, cond_true] at h
        unfold intA at h
        cases p <;> simp [isShift] at hs <;> simp only [reduceCtorEq, Option.some.injEq, wrapI_eq, isubI_eq, ieqI_eq, iltI_eq] at h
        case add => subst h; exact Did.pure hw (v' := .int _ _) (run _ (by simp [binOp, Op.intArith])) (.int .nil)
        case sub => subst h; exact Did.pure hw (v' := .int _ _) (run _ (by simp [binOp, Op.intArith])) (.int .nil)
        case mul => subst h; exact Did.pure hw (v' := .int _ _) (run _ (by simp [binOp, Op.intArith])) (.int .nil)
        case quo =>
          cases hb : (b == 0) with
          | true => simp [hb] at h
          | false =>
            simp only [hb, cond_false, Option.some.injEq] at h
            have : ¬ b = 0 := by simpa using hb
            subst h; exact Did.pure hw (v' := .int _ _) (run _ (by simp [binOp, Op.intDiv, this])) (.int .nil)
        case rem =>
          cases hb : (b == 0) with
          | true => simp [hb] at h
          | false =>
            simp only [hb, cond_false, Option.some.injEq] at h
            have : ¬ b = 0 := by simpa using hb
            subst h; exact Did.pure hw (v' := .int _ _) (run _ (by simp [binOp, Op.intDiv, this])) (.int .nil)
        case and => subst h; exact Did.pure hw (v' := .int _ _) (run _ (by simp [binOp, Op.intBits])) (.int .nil)
        case or => subst h; exact Did.pure hw (v' := .int _ _) (run _ (by simp [binOp, Op.intBits])) (.int .nil)
        case xor => subst h; exact Did.pure hw (v' := .int _ _) (run _ (by simp [binOp, Op.intBits])) (.int .nil)
        case andNot => subst h; exact Did.pure hw (v' := .int _ _) (run _ (by simp [binOp, Op.intBits])) (.int .nil)
        case eql => subst h; exact Did.pure hw (v' := .bool _) (run _ (by simp [binOp, Op.intCmp])) (.bool .nil)
        case neq => subst h; exact Did.pure hw (v' := .bool _) (run _ (by simp [binOp, Op.intCmp, bne])) (.bool .nil)
        case lss => subst h; exact Did.pure hw (v' := .bool _) (run _ (by simp [binOp, Op.intCmp])) (.bool .nil)
        case leq => subst h; exact Did.pure hw (v' := .bool (decide (a ≤ b))) (run _ (by simp [binOp, Op.intCmp])) (by rw [show (!decide (b < a)) = decide (a ≤ b) from by rw [Bool.eq_iff_iff]; simp [Int.not_lt]]; exact .bool .nil)
        case gtr => subst h; exact Did.pure hw (v' := .bool _) (run _ (by simp [binOp, Op.intCmp])) (.bool .nil)
        case geq => subst h; exact Did.pure hw (v' := .bool (decide (a ≥ b))) (run _ (by simp [binOp, Op.intCmp])) (by rw [show (!decide (a < b)) = decide (a ≥ b) from by rw [Bool.eq_iff_iff]; simp [Int.not_lt]]; exact .bool .nil)
  case str.str a b =>
    cases hx with
    | @str _ xs _ _ hxs _ =>
    cases hy with
    | @str _ ys _ _ hys _ =>
    have hg : (eqGuard p t x y (.string xs) (.string ys)).run P w = .ok () w := by
      unfold eqGuard; cases p <;> rfl
    have run : ∀ r, (binOp p t (.string xs) (.string ys)).run P w = .ok r w → (execOp ρ o).run P w = .ok (.value r) w := by
      intro r hr
      simp [execOp, ho, hgx, hgy, hg, hr]
    subst hxs; subst hys
    unfold strA at h
    have heq := strEq_bytes xs.data.toList ys.data.toList
    have hlt := strLt_bytes xs.data.toList ys.data.toList
    cases p <;> simp only [reduceCtorEq, Option.some.injEq, heq, hlt] at h
    case add =>
      cases hb : Nat.ble ((xs.data.toList.map UInt8.toNat).length + (ys.data.toList.map UInt8.toNat).length) 9223372036854775807 with
      | false => simp only [hb, cond_false, reduceCtorEq] at h
      | true =>
        simp only [hb, cond_true, Option.some.injEq] at h
        have hle := Nat.le_of_ble_eq_true hb
        simp only [List.length_map, Array.length_toList] at hle
        subst h
        refine Did.pure hw (v' := .string (xs ++ ys)) (run _ ?_) (.str (by simp) .nil)
        have hmax : IntKind.i64.max = 9223372036854775807 := rfl
        have hsx : xs.size = xs.data.size := rfl
        have hsy : ys.size = ys.data.size := rfl
        simp only [binOp, Op.stringOp]
        rw [if_neg (by rw [hmax, hsx, hsy]; omega)]
        rfl
    case eql => subst h; exact Did.pure hw (v' := .bool _) (run _ (by simp [binOp, Op.stringOp, ByteArray.toList_eq])) (.bool .nil)
    case neq => subst h; exact Did.pure hw (v' := .bool _) (run _ (by simp [binOp, Op.stringOp, ByteArray.toList_eq])) (.bool .nil)
    case lss => subst h; exact Did.pure hw (v' := .bool _) (run _ (by simp [binOp, Op.stringOp, ByteArray.toList_eq])) (.bool .nil)
    case leq => subst h; exact Did.pure hw (v' := .bool _) (run _ (by simp [binOp, Op.stringOp, ByteArray.toList_eq])) (.bool .nil)
    case gtr => subst h; exact Did.pure hw (v' := .bool _) (run _ (by simp [binOp, Op.stringOp, ByteArray.toList_eq])) (.bool .nil)
    case geq => subst h; exact Did.pure hw (v' := .bool _) (run _ (by simp [binOp, Op.stringOp, ByteArray.toList_eq])) (.bool .nil)
end

end Go.Proofs.YtmoihglcdmmmlaaGreatDoor
