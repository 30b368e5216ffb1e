/-
  Each operation of one operand: what the executor has is what a run does, in whatever world.
-/
import Derived.Test.YtmoihglcdmmmlaaGreatDoorAb4
import Derived.IntWalk
import Derived.Lib.Builder
set_option linter.unusedSimpArgs false
set_option linter.unusedVariables false
namespace Go.Proofs.YtmoihglcdmmmlaaGreatDoor
open Go Go.RowKit

def aggOf (P : Program) (t : TypeId) : Option Nat :=
  match P.underlying t with
  | some (.struct _) | some (.array _ _) => (P.info? t).map (·.size)
  | _ => none

def notAgg (P : Program) (t : TypeId) : Bool :=
  match P.underlying t with
  | some (.struct _) | some (.array _ _) | none => false
  | some _ => true

def fieldOk (P : Program) (t : TypeId) (f o : Nat) : Bool :=
  match P.underlying t with
  | some (.struct fs) => (match fs[f]? with
    | some fd => fd.offset == o && (match P.info? fd.type with
      | some i => i.size != 0
      | none => false)
    | none => false)
  | _ => false

def isIntT (P : Program) (t : TypeId) : Bool :=
  match P.underlying t with
  | some (.int _) => true
  | _ => false

def isIntK (P : Program) (t : TypeId) (k : IntKind) : Bool :=
  match P.underlying t with
  | some (.int k') => decide (k = k')
  | _ => false

def isStrT (P : Program) (t : TypeId) : Bool :=
  match P.underlying t with
  | some .string => true
  | _ => false

def isBytesT (P : Program) (t : TypeId) : Bool :=
  match P.underlying t with
  | some (.slice e) => isIntK P e .u8
  | _ => false

def isSliceT (P : Program) (t : TypeId) : Bool :=
  match P.underlying t with
  | some (.slice _) => true
  | _ => false

def fldOk (P : Program) (t : TypeId) (f o n : Nat) (a : Bool) : Bool :=
  match P.underlying t with
  | some (.struct fs) => (match fs[f]? with
    | some fd => fd.offset == o && (if a then aggOf P fd.type == some n else notAgg P fd.type)
    | none => false)
  | _ => false

def isPtrT (P : Program) (t e : TypeId) : Bool :=
  match P.underlying t with
  | some (.pointer e') => Nat.beq e e'
  | _ => false

def isUnsT (P : Program) (t : TypeId) : Bool :=
  match P.underlying t with
  | some .unsafePointer => true
  | _ => false

def cvpOk (P : Program) (e n : Nat) (src dst : TypeId) : Bool :=
  (match P.info? e with
  | some i => !Nat.beq i.size 0
  | none => false) &&
  ((isPtrT P src e && (isUnsT P dst && Nat.blt 0 n)) || (isUnsT P src && (isPtrT P dst e && liesAt P P.depth e (n / P.cellsOf e) 0 e 1)))

/-- The operand of an operation, if it is that one of one operand. -/
def uOf (P : Program) (f : U) (op : Op) : Option Operand :=
  match f, op with
  | .mv, .move x => some x
  | .mv, .assign x => some x
  | .ld, .load t x => if notAgg P t then some x else none
  | .lda n, .load t x => if aggOf P t = some n then some x else none
  | .fad o, .fieldAddr t x f => if fieldOk P t f o then some x else none
  | .nck, .nilCheck x => some x
  | .un o, .unOp o' _ x => if o = o' then some x else none
  | .cvi k, .convert src dst x => if isIntT P src && isIntK P dst k then some x else none
  | .cvid, .convert src dst x => if isStrT P src && isStrT P dst then some x else none
  | .cvbs, .convert src dst x => if isBytesT P src && isStrT P dst then some x else none
  | .fld o n a, .field t x f => if fldOk P t f o n a then some x else none
  | .ext i, .extract x j => if i = j then some x else none
  | .len, .call c =>
    (match c.callee, c.args.toList, c.argTypes.toList with
    | .builtin .len, [x], [t] => if isSliceT P t then some x else none
    | _, _, _ => none)
  | .lens, .call c =>
    (match c.callee, c.args.toList, c.argTypes.toList with
    | .builtin .len, [x], [t] => if isStrT P t then some x else none
    | _, _, _ => none)
  | .usd, .call c =>
    (match c.callee, c.args.toList with
    | .builtin .unsafeSliceData, [x] => some x
    | _, _ => none)
  | .box e, .box t x => if Nat.beq e t then some x else none
  | .cvp e n, .convert src dst x => if cvpOk P e n src dst then some x else none
  | _, _ => none

/-- The operation runs, and comes to v, and to s'. -/
def Did (P : Program) (G : Nat → Option (List AV)) (w0 : World) (M : Mem) (s : St) (o : Oper) (ρ : Operand → Value) (w : World) (v : AV) (s' : St) : Prop :=
  ∃ M' v' w' nx, (execOp ρ o).run P w = .ok nx w' ∧ (nx = .value v' ∨ (nx = .skip ∧ v' = undef)) ∧ Ext M s M' s' ∧ W G w0 M' s' w' ∧ CR M' [v] [v']

section
variable {P : Program} {G : Nat → Option (List AV)} {w0 : World} {M : Mem} {s : St} {w : World} {o : Oper} {ρ : Operand → Value} {v : AV} {s' : St}

theorem Did.pure (hw : W G w0 M s w) {v' : Value} (hr : (execOp ρ o).run P w = .ok (.value v') w) (hv : CR M [v] [v']) : Did P G w0 M s o ρ w v s :=
  ⟨M, v', w, .value v', hr, .inl rfl, .refl M s, hw, hv⟩

theorem opt_ok {s s' : St} {x : Option AV} {v : AV} (h : opt s x = .ok v s') : x = some v ∧ s' = s := by
  unfold opt at h
  split at h
  · cases h; exact ⟨rfl, rfl⟩
  · cases h

theorem addr_add (B o n : Nat) : (⟨B, o, none⟩ : Addr).add n = ⟨B, o + n, none⟩ := by unfold Addr.add; split <;> simp_all

theorem run_underlying' {t : TypeId} {d : TypeDesc} (h : P.underlying t = some d) (w : World) : (underlying t).run P w = .ok d w := run_underlying h w

theorem run_typeInfo' {t : TypeId} {i : TypeInfo} (h : P.info? t = some i) (w : World) : (typeInfo t).run P w = .ok i w := by simp [typeInfo, h]
theorem run_sizeOf' {t : TypeId} {i : TypeInfo} (h : P.info? t = some i) (w : World) : (sizeOf t).run P w = .ok i.size w := by simp [sizeOf, run_typeInfo' h]
theorem run_zeroValue' {t : TypeId} {i : TypeInfo} {z : Value} (h : P.info? t = some i) (hz : i.zero = some z) (w : World) : (zeroValue t).run P w = .ok z w := by
  simp [zeroValue, run_typeInfo' h, hz]

theorem run_isAgg_no {t : TypeId} (h : notAgg P t = true) (w : World) : (isAgg t).run P w = .ok false w := by
  unfold notAgg at h
  cases hu : P.underlying t with
  | none => simp [hu] at h
  | some d => cases d <;> simp [hu] at h <;> simp [isAgg, run_underlying' hu]

theorem run_isAgg_yes {t : TypeId} {n : Nat} (h : aggOf P t = some n) (w : World) : (isAgg t).run P w = .ok true w ∧ (sizeOf t).run P w = .ok n w := by
  unfold aggOf at h
  cases hu : P.underlying t with
  | none => simp [hu] at h
  | some d =>
    cases d <;> simp [hu] at h
    all_goals
      obtain ⟨i, hi, rfl⟩ := h
      exact ⟨by simp [isAgg, run_underlying' hu], run_sizeOf' hi w⟩

/-- What the executor has behind a pointer lies there. -/
theorem W.cellsAt (hw : W G w0 M s w) {p : AV} {pv : Value} {cs : List AV} {i : Nat} (hp : CR M [p] [pv]) (hc : cellsAt s p = some (cs, i)) :
    ∃ B O us, pv = .pointer (some ⟨B, O + i, none⟩) ∧ CR M cs us ∧ ∀ j u, us[j]? = some u → w.cell? ⟨B, O + j, none⟩ = some u := by
  unfold YtmoihglcdmmmlaaGreatDoor.cellsAt at hc
  cases p <;> simp only [reduceCtorEq] at hc
  case ptr b o =>
    cases hp with
    | @ptr _ _ B _ _ hφ _ =>
      obtain ⟨h1, h2, h3, cs', vs, e, h4, h5, h6⟩ := hw.hp b B hφ
      rw [h4] at hc
      cases hc
      refine ⟨B, 0, vs.toList, by simp, h6, fun j u hu => ?_⟩
      simp only [World.cell?, h5, Option.isSome_none, Bool.false_eq_true, if_false, Nat.zero_add]
      simpa using hu
  case eptr cs' o =>
    cases hc
    cases hp with
    | eptr hr hcr _ => exact ⟨_, _, _, rfl, hcr, fun j u hu => hw.fz _ _ _ (hr j u hu)⟩
  case gp t n z p =>
    have hdm := Nat.div_add_mod' p z
    generalize p / z = k at *
    generalize p % z = o at *
    subst hdm
    unfold gel at hc
    cases hp with
    | @gp _ _ _ _ cap B ty _ _ hH _ =>
      cases hk : s.tk.get t with
      | none => simp [hk] at hc
      | some kk =>
        cases kk with
        | f _ _ _ => simp [hk] at hc
        | g z' ty' els =>
          simp only [hk] at hc
          cases hb : Nat.beq n els.length && Nat.beq z z' with
          | false => simp [hb] at hc
          | true =>
            simp only [hb, cond_true, nth_eq] at hc
            simp only [Bool.and_eq_true] at hb
            have hn : n = els.length := Nat.eq_of_beq_eq_true hb.1
            have hz : z = z' := Nat.eq_of_beq_eq_true hb.2
            subst hn; subst hz
            cases he : els[k]? with
            | none => simp [he] at hc
            | some e =>
              simp only [he, Option.some.injEq, Prod.mk.injEq] at hc
              obtain ⟨rfl, rfl⟩ := hc
              obtain ⟨k1, k2, k3, B', cap', vs, k4, k5, k6, k7, k8, k9, k10, k11⟩ := hw.tg t z ty' els hk
              rw [hH] at k4; cases k4
              have hlt : k < els.length := by rcases Nat.lt_or_ge k els.length with h | h; exact h; rw [List.getElem?_eq_none h] at he; cases he
              have hlen : e.cells.length = z := k3 e (List.mem_of_getElem? he)
              refine ⟨B, k * z, ((vs.toList.take (els.length * z)).drop (k * z)).take z, rfl, ?_, fun j u hu => ?_⟩
              · have h1 := ((k11.drop (k * z)).take z)
                have : ((flat els).drop (k * z)).take z = e.cells := by
                  apply List.ext_getElem?
                  intro q
                  rw [List.getElem?_take]
                  split
                  · rename_i hq
                    rw [List.getElem?_drop]
                    rw [flat_get k3 he (List.getElem?_eq_getElem (by omega)), List.getElem?_eq_getElem (by omega)]
                  · rw [List.getElem?_eq_none (by omega)]
                rwa [this] at h1
              · rw [List.getElem?_take] at hu
                split at hu
                · rw [List.getElem?_drop, List.getElem?_take] at hu
                  split at hu
                  · simp only [World.cell?, k9, Option.isSome_none, Bool.false_eq_true, if_false]
                    simpa using hu
                  · cases hu
                · cases hu

theorem did_mv (hw : W G w0 M s w) {x : Operand} {xv : AV} (ho : o.op = .move x ∨ o.op = .assign x) (hx : CR M [xv] [ρ x]) : Did P G w0 M s o ρ w xv s := by
  refine Did.pure hw (v' := ρ x) ?_ hx
  rcases ho with ho | ho <;> simp [execOp, ho]

theorem did_ld (hw : W G w0 M s w) {x : Operand} {xv : AV} {t : TypeId} (ho : o.op = .load t x) (ht : notAgg P t = true) (hx : CR M [xv] [ρ x])
    (h : ldA s xv = some v) : Did P G w0 M s o ρ w v s := by
  unfold ldA at h
  cases hc : cellsAt s xv with
  | none => simp [hc] at h
  | some q =>
    obtain ⟨cs, i⟩ := q
    simp only [hc, nth_eq] at h
    obtain ⟨B, O, us, hp, hcr, hcell⟩ := hw.cellsAt hx hc
    obtain ⟨u, hu, hvu⟩ := hcr.get h
    refine Did.pure hw (v' := u) ?_ hvu
    simp [execOp, ho, Instr.loadAt, Instr.sureAddr, hp, loadVar, run_isAgg_no ht, hcell i u hu]

theorem did_lda (hw : W G w0 M s w) {x : Operand} {xv : AV} {t : TypeId} {n : Nat} (ho : o.op = .load t x) (ht : aggOf P t = some n) (hx : CR M [xv] [ρ x])
    (h : ldaA n s xv = some v) : Did P G w0 M s o ρ w v s := by
  unfold ldaA at h
  cases hc : cellsAt s xv with
  | none => simp [hc] at h
  | some q =>
    obtain ⟨cs, i⟩ := q
    simp only [hc, cut] at h
    cases hb : Nat.ble (i + n) cs.length with
    | false => simp [hb] at h
    | true =>
      simp only [hb, cond_true, Option.some.injEq] at h
      subst h
      have hle : i + n ≤ cs.length := Nat.le_of_ble_eq_true hb
      obtain ⟨B, O, us, hp, hcr, hcell⟩ := hw.cellsAt hx hc
      have hul := hcr.length
      refine Did.pure hw (v' := .agg ((us.drop i).take n).toArray) ?_ (.agg (by simpa using (hcr.drop i).take n) .nil)
      have hl := run_loadCells_list (P := P) w ⟨B, O + i, none⟩ ((us.drop i).take n) (fun j u hu => by
        rw [addr_add, Nat.add_assoc]
        rw [List.getElem?_take] at hu
        split at hu
        · rw [List.getElem?_drop] at hu; exact hcell _ _ hu
        · cases hu)
      have hlen : ((us.drop i).take n).length = n := by rw [List.length_take, List.length_drop]; omega
      rw [hlen] at hl
      simp [execOp, ho, Instr.loadAt, Instr.sureAddr, hp, loadVar, run_isAgg_yes ht, hl]

theorem did_fad (hw : W G w0 M s w) {x : Operand} {xv : AV} {t : TypeId} {f n : Nat} (ho : o.op = .fieldAddr t x f) (ht : fieldOk P t f n = true) (hx : CR M [xv] [ρ x])
    (h : fadA n xv = some v) : Did P G w0 M s o ρ w v s := by
  unfold fieldOk at ht
  cases hu : P.underlying t with
  | none => simp [hu] at ht
  | some d =>
    cases d <;> simp [hu] at ht
    rename_i fs
    cases hf : fs[f]? with
    | none => simp [hf] at ht
    | some fd =>
      simp only [hf, Bool.and_eq_true, beq_iff_eq] at ht
      obtain ⟨hoff, hsz⟩ := ht
      cases hi : P.info? fd.type with
      | none => simp [hi] at hsz
      | some i =>
        simp only [hi, bne_iff_ne, ne_eq] at hsz
        have key : ∀ (B O : Nat), ρ x = .pointer (some ⟨B, O, none⟩) → (execOp ρ o).run P w = .ok (.value (.pointer (some ⟨B, O + n, none⟩))) w := by
          intro B O hp
          simp [execOp, ho, Instr.fieldAt, run_underlying' hu, hf, hp, Instr.sureAddr, fieldPlace, run_sizeOf' hi, hsz, addr_add, hoff]
        unfold fadA at h
        cases xv <;> simp only [reduceCtorEq, Option.some.injEq] at h
        case ptr b p =>
          subst h
          generalize hg : ρ x = pv at *
          cases hx with
          | ptr hφ _ => exact Did.pure hw (key _ _ rfl) (.ptr hφ .nil)
        case eptr cs p =>
          subst h
          generalize hg : ρ x = pv at *
          cases hx with
          | eptr hr hc _ => exact Did.pure hw (key _ _ rfl) (by rw [Nat.add_assoc]; exact .eptr hr hc .nil)
        case gp q m i p =>
          subst h
          generalize hg : ρ x = pv at *
          cases hx with
          | gp hH _ => exact Did.pure hw (key _ _ rfl) (.gp hH .nil)

theorem did_nck (hw : W G w0 M s w) {x : Operand} {xv : AV} (ho : o.op = .nilCheck x) (hx : CR M [xv] [ρ x])
    (h : nckA xv = some v) : Did P G w0 M s o ρ w v s := by
  have hv : v = xv := by unfold nckA at h; split at h <;> simp_all
  subst hv
  refine Did.pure hw (v' := ρ x) ?_ hx
  simp only [execOp, ho]
  generalize hg : ρ x = pv at *
  cases hx <;> first | rfl | (simp [nckA] at h; done)

theorem run_int {α : Type} (w : World) (a : α) : (Pure.pure a : Sem α).run P w = .ok a w := rfl

theorem wrapI_eq (k : IntKind) (n : Int) : wrapI k n = k.wrap n := by
  unfold wrapI
  split
  · rename_i m
    cases hb : Nat.ble m 9223372036854775807 with
    | false => rfl
    | true =>
      have : m ≤ 9223372036854775807 := Nat.le_of_ble_eq_true hb
      have e : (Int.ofNat m) = (m : Int) := rfl
      rw [cond_true, e, IntWalk.i64_in _ (by omega)]
  · rfl

theorem did_un (hw : W G w0 M s w) {x : Operand} {xv : AV} {p : UnOp} {t : TypeId} (ho : o.op = .unOp p t x) (hx : CR M [xv] [ρ x])
    (h : unA p xv = some v) : Did P G w0 M s o ρ w v s := by
  generalize hg : ρ x = pv at *
  unfold unA at h
  cases p <;> cases xv <;> simp only [reduceCtorEq, Option.some.injEq] at h <;> subst h <;> cases hx
  · exact Did.pure hw (v' := .int _ _) (by simp [execOp, ho, hg, Op.unary, Op.intArith]) (.int .nil)
  · exact Did.pure hw (v' := .int _ _) (by simp [execOp, ho, hg, Op.unary, Op.intBits]) (.int .nil)
  · exact Did.pure hw (v' := .bool _) (by simp [execOp, ho, hg, Op.unary]) (.bool .nil)

theorem did_cvi (hw : W G w0 M s w) {x : Operand} {xv : AV} {src dst : TypeId} {k : IntKind} (ho : o.op = .convert src dst x) (h1 : isIntT P src = true) (h2 : isIntK P dst k = true)
    (hx : CR M [xv] [ρ x]) (h : cviA k xv = some v) : Did P G w0 M s o ρ w v s := by
  generalize hg : ρ x = pv at *
  unfold cviA at h
  cases xv <;> simp only [reduceCtorEq, Option.some.injEq] at h
  subst h
  rename_i k1 n1
  have hp : pv = .int k1 n1 := by cases hx; rfl
  subst hp
  unfold isIntT at h1; unfold isIntK at h2
  cases hs : P.underlying src with
  | none => simp [hs] at h1
  | some d1 =>
    cases d1 <;> simp [hs] at h1
    cases hd : P.underlying dst with
    | none => simp [hd] at h2
    | some d2 =>
      cases d2 <;> simp [hd] at h2
      subst h2
      exact Did.pure hw (v' := .int k (k.wrap n1)) (by simp [execOp, ho, hg, convert, run_underlying' hs, run_underlying' hd, Conv.intToInt]) (by rw [wrapI_eq]; exact .int .nil)

theorem did_cvid (hw : W G w0 M s w) {x : Operand} {xv : AV} {src dst : TypeId} (ho : o.op = .convert src dst x) (h1 : isStrT P src = true) (h2 : isStrT P dst = true)
    (hx : CR M [xv] [ρ x]) (h : cvidA xv = some v) : Did P G w0 M s o ρ w v s := by
  generalize hg : ρ x = pv at *
  unfold cvidA at h
  cases xv <;> simp only [reduceCtorEq, Option.some.injEq] at h
  subst h; cases hx
  rename_i hb _
  unfold isStrT at h1 h2
  cases hs : P.underlying src with
  | none => simp [hs] at h1
  | some d1 =>
    cases d1 <;> simp [hs] at h1
    cases hd : P.underlying dst with
    | none => simp [hd] at h2
    | some d2 =>
      cases d2 <;> simp [hd] at h2
      exact Did.pure hw (v' := .string _) (by simp [execOp, ho, hg, convert, run_underlying' hs, run_underlying' hd]) (.str hb .nil)

theorem did_ext (hw : W G w0 M s w) {x : Operand} {xv : AV} {i : Nat} (ho : o.op = .extract x i) (hx : CR M [xv] [ρ x])
    (h : extA i xv = some v) : Did P G w0 M s o ρ w v s := by
  generalize hg : ρ x = pv at *
  unfold extA at h
  cases xv <;> simp only [reduceCtorEq, nth_eq] at h
  cases hx with
  | @tup _ us _ _ hc _ =>
    obtain ⟨u, hu, hvu⟩ := hc.get h
    refine Did.pure hw (v' := u) ?_ hvu
    have hu' : us[i]? = some u := by simpa using hu
    simp [execOp, ho, hg, Instr.extract, hu']

theorem did_fld (hw : W G w0 M s w) {x : Operand} {xv : AV} {t : TypeId} {f i n : Nat} {b : Bool} (ho : o.op = .field t x f) (ht : fldOk P t f i n b = true) (hx : CR M [xv] [ρ x])
    (h : fldA i n b xv = some v) : Did P G w0 M s o ρ w v s := by
  generalize hg : ρ x = pv at *
  unfold fldOk at ht
  cases hu : P.underlying t with
  | none => simp [hu] at ht
  | some d =>
    cases d <;> simp [hu] at ht
    rename_i fs
    cases hf : fs[f]? with
    | none => simp [hf] at ht
    | some fd =>
      simp only [hf, Bool.and_eq_true, beq_iff_eq] at ht
      obtain ⟨hoff, hk⟩ := ht
      unfold fldA at h
      cases xv <;> simp only [reduceCtorEq] at h
      cases hx with
      | agg hc _ =>
        rename_i us _
        cases b with
        | true =>
          simp only [cond_true, Option.some.injEq] at h
          simp only [if_true, beq_iff_eq] at hk
          subst h
          refine Did.pure hw (v' := .agg ((us.toList.drop i).take n).toArray) ?_ (.agg (by simpa using (hc.drop i).take n) .nil)
          simp only [execOp, ho, hg, Instr.field, Sem.run_bind, run_underlying' hu, Result.andThen_ok, hf, asAgg, Sem.run_pure, part, run_isAgg_yes hk, hoff, if_true]
          congr 4
          apply Array.ext'
          simp
        | false =>
          simp only [cond_false, nth_eq] at h
          simp only [Bool.false_eq_true, if_false] at hk
          obtain ⟨u, hu', hvu⟩ := hc.get h
          refine Did.pure hw (v' := u) ?_ hvu
          have hu'' : us[i]? = some u := by simpa using hu'
          simp [execOp, ho, hg, Instr.field, run_underlying' hu, hf, asAgg, part, run_isAgg_no hk, hoff, hu'']

theorem did_box (hw : W G w0 M s w) {x : Operand} {xv : AV} {t : TypeId} (ho : o.op = .box t x) (hx : CR M [xv] [ρ x])
    (h : newBox t xv.cells s = .ok v s') : Did P G w0 M s o ρ w v s' := by
  unfold newBox at h
  cases h
  obtain ⟨h1, h2⟩ := hw.newBox hx.cells t
  exact ⟨_, .pointer (some ⟨w.heap.size, 0, none⟩), _, .value _, by simp [execOp, ho, Instr.box, newVar, newRow], .inl rfl, h2, h1, .ptr (by simp [Mem.box]) .nil⟩

theorem did_cvp (hw : W G w0 M s w) {x : Operand} {xv : AV} {src dst : TypeId} {e n : Nat} (ho : o.op = .convert src dst x) (hk : cvpOk P e n src dst = true) (hx : CR M [xv] [ρ x])
    (h : cvpA e n s xv = some v) : Did P G w0 M s o ρ w v s := by
  generalize hg : ρ x = pv at *
  unfold cvpA at h
  split at h
  · rename_i b
    split at h
    · rename_i e' cs hty hcs
      cases hb : Nat.beq e e' && Nat.beq cs.length n with
      | false => simp [hb] at h
      | true =>
        simp only [hb, cond_true, Option.some.injEq] at h
        subst h
        simp only [Bool.and_eq_true] at hb
        have h1 := Nat.eq_of_beq_eq_true hb.1
        have h2 := Nat.eq_of_beq_eq_true hb.2
        subst h1; subst h2
        cases hx with
        | @ptr _ _ B _ _ hφ _ =>
          obtain ⟨k1, k2, k3, cs', vs, e2, k4, k5, k6⟩ := hw.hp b B hφ
          rw [hcs] at k4; cases k4
          obtain ⟨vs2, fr2, k7⟩ := (hw.ty b e hty).2 B hφ
          rw [k5] at k7; cases k7
          have hlen : cs.length = vs.size := by simpa using k6.length
          have hsh : w.shape? (⟨B, 0, none⟩ : Addr).block = some (e, vs.size) := by simp [World.shape?, k5]
          unfold cvpOk at hk
          cases hi : P.info? e with
          | none => simp [hi] at hk
          | some i =>
            simp only [hi, Bool.and_eq_true, Bool.not_eq_true', Bool.or_eq_true] at hk
            obtain ⟨hsz, hk⟩ := hk
            have hsz : i.size ≠ 0 := fun e0 => by rw [e0] at hsz; simp at hsz
            refine Did.pure hw (v' := .pointer (some ⟨B, 0, none⟩)) ?_ (.ptr hφ .nil)
            have ptr : ∀ t, isPtrT P t e = true → P.underlying t = some (.pointer e) := by
              intro t ht
              unfold isPtrT at ht
              split at ht
              · rename_i e' hu; rw [hu, Nat.eq_of_beq_eq_true ht]
              · cases ht
            have uns : ∀ t, isUnsT P t = true → P.underlying t = some .unsafePointer := by
              intro t ht
              unfold isUnsT at ht
              split at ht
              · assumption
              · cases ht
            rcases hk with ⟨q1, q2, q3⟩ | ⟨q1, q2, q3⟩
            · have hr := Go.Lib.run_to_unsafe (P := P) w ⟨B, 0, none⟩ (ptr _ q1) (uns _ q2) hi hsz hsh (by rw [hlen] at q3; simpa [Nat.blt_eq] using q3)
              simp [execOp, ho, hg, hr]
            · have hr := Go.Lib.run_from_unsafe (P := P) w ⟨B, 0, none⟩ (uns _ q1) (ptr _ q2) hi hsh (by rw [hlen] at q3; exact q3)
              simp [execOp, ho, hg, hr]
    · cases h
  · cases h

theorem did_len (hw : W G w0 M s w) {x : Operand} {xv : AV} {c : Call} {t : TypeId} {n : Nat} (ho : o.op = .call c) (hc : c.callee = .builtin .len) (ha : c.args.toList = [x]) (hat : c.argTypes.toList = [t])
    (ht : isStrT P t = true ∨ isSliceT P t = true) (hx : CR M [xv] [ρ x]) (h : lenA xv = some n) (hk : isStrT P t = true → ∃ z, xv = .str z) (hk' : isSliceT P t = true → ∀ z, xv ≠ .str z) :
    Did P G w0 M s o ρ w (.int .i64 (.ofNat n)) s := by
  obtain ⟨callee, args, argTypes⟩ := c
  simp only at hc ha hat
  subst hc
  have ha' : args = #[x] := Array.ext' ha
  have hat' : argTypes = #[t] := Array.ext' hat
  subst ha'; subst hat'
  generalize hg : ρ x = pv at *
  have run : ∀ (m : Nat), (Builtin.len_ #[t] o.type #[pv]).run P w = .ok (goInt m) w → (execOp ρ o).run P w = .ok (.value (goInt m)) w := by
    intro m hm
    simp [execOp, ho, resolve, hg, invoke, builtin, hm]
  rcases ht with ht | ht
  · obtain ⟨z, rfl⟩ := hk ht
    cases hx with
    | str hb _ =>
      rename_i bs _
      simp only [lenA, Option.some.injEq] at h
      subst h
      have hz : z.length = bs.size := by rw [← hb, List.length_map, Array.length_toList]; rfl
      unfold isStrT at ht
      cases hs : P.underlying t with
      | none => simp [hs] at ht
      | some d1 =>
        cases d1 <;> simp [hs] at ht
        refine Did.pure hw (run z.length ?_) (.int .nil)
        simp [Builtin.len_, run_underlying' hs, hz]
  · have hno := hk' ht
    unfold isSliceT at ht
    cases hs : P.underlying t with
    | none => simp [hs] at ht
    | some d1 =>
      cases d1 <;> simp [hs] at ht
      unfold lenA at h
      cases hx <;> simp only [reduceCtorEq, Option.some.injEq] at h
      all_goals first
        | exact absurd rfl (hno _)
        | (subst h; exact Did.pure hw (run _ (by simp [Builtin.len_, run_underlying' hs])) (.int .nil))

theorem did_usd (hw : W G w0 M s w) {x : Operand} {xv : AV} {c : Call} (ho : o.op = .call c) (hc : c.callee = .builtin .unsafeSliceData) (ha : c.args.toList = [x])
    (hx : CR M [xv] [ρ x]) (h : usdA s xv = some v) : Did P G w0 M s o ρ w v s := by
  obtain ⟨callee, args, argTypes⟩ := c
  simp only at hc ha
  subst hc
  have ha' : args = #[x] := Array.ext' ha
  subst ha'
  generalize hg : ρ x = pv at *
  have run : ∀ (m : Value), (Builtin.unsafeSliceData_ argTypes o.type #[pv]).run P w = .ok m w → (execOp ρ o).run P w = .ok (.value m) w := by
    intro m hm
    simp [execOp, ho, resolve, hg, invoke, builtin, hm]
  unfold usdA at h
  cases xv <;> simp only [reduceCtorEq, Option.some.injEq] at h
  case nils =>
    subst h; cases hx
    exact Did.pure hw (run (.pointer none) rfl) (.nilp .nil)
  case sl t n els =>
    cases hb : Nat.beq n 0 || Nat.beq t 0 with
    | true => simp [hb] at h
    | false =>
      simp only [hb, cond_false] at h
      simp only [Bool.or_eq_false_iff] at hb
      have hn : n ≠ 0 := fun e => by rw [e] at hb; simp at hb
      have ht : t ≠ 0 := fun e => by rw [e] at hb; simp at hb
      cases hk : s.tk.get t with
      | none => simp [hk] at h
      | some kk =>
        cases kk with
        | g _ _ _ => simp [hk] at h
        | f n' sz' e =>
          simp only [hk] at h
          cases hnn : Nat.beq n n' with
          | false => simp [hnn] at h
          | true =>
            simp only [hnn, cond_true, Option.some.injEq] at h
            subst h
            have hnn' : n = n' := Nat.eq_of_beq_eq_true hnn
            subst hnn'
            cases hx with
            | sl h1 h2 h3 h4 h5 h6 _ =>
              obtain ⟨rfl, _, e', hH⟩ := h6 ht
              have := ((hw.tf t n sz' e hk).2.2 _ _ _ hH).1
              subst this
              exact Did.pure hw (run (.pointer (some _)) (by show Sem.run P (if _ ≠ 0 then _ else _) w = _; rw [if_pos (by omega)]; rfl)) (.tp hH h2 h4 h5 .nil)
end

end Go.Proofs.YtmoihglcdmmmlaaGreatDoor
