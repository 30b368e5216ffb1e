/-
  An operation of the program and a node of the lean form: which of one's operands are the other's; and that the operation does what the node comes to.
-/
import Derived.Test.YtmoihglcdmmmlaaGreatDoorAb12
set_option linter.unusedSimpArgs false
set_option linter.unusedVariables false
namespace Go.Proofs.YtmoihglcdmmmlaaGreatDoor
open Go Go.RowKit

def eqOp (n : Bool) : BinOp := if n then .neq else .eql

/-- The operands of an operation, if it is that one of two operands. -/
def bOf (P : Program) (f : B) (op : Op) : Option (Operand × Operand) :=
  match f, op with
  | .bin o, .binOp o' _ x y _ => if o = o' then some (x, y) else none
  | .eqp n, .binOp o t x y _ => if decide (o = eqOp n) && ptrOk P t then some (x, y) else none
  | .eqb n, .binOp o t x y _ => if decide (o = eqOp n) && isBoolT P t then some (x, y) else none
  | .eqs n, .binOp o t x y _ => if decide (o = eqOp n) && isSliceT P t then some (x, y) else none
  | .st, .store t x y => if oneCell P t then some (x, y) else none
  | .sta n, .store t x y => if aggOf P t = some n then some (x, y) else none
  | .iad sz, .indexAddr t x y => if elemOk P t sz then some (x, y) else none
  | .iaa n sz, .indexAddr t x y => if arrOk P t n sz then some (x, y) else none
  | .ixs, .index t x y => if isStrT P t then some (x, y) else none
  | .app sz b e, .call c =>
    (match c.callee, c.args.toList, c.argTypes.toList with
    | .builtin .append, [x, y], [t, u] => if appOk P t u sz b e then some (x, y) else none
    | _, _, _ => none)
  | .appg sz b e, .call c =>
    (match c.callee, c.args.toList, c.argTypes.toList with
    | .builtin .append, [x, y], [t, u] => if appOk P t u sz b e then some (x, y) else none
    | _, _, _ => none)
  | .mx, .call c =>
    (match c.callee, c.args.toList with
    | .builtin .max, [x, y] => some (x, y)
    | _, _ => none)
  | .mn, .call c =>
    (match c.callee, c.args.toList with
    | .builtin .min, [x, y] => some (x, y)
    | _, _ => none)
  | .ust e, .call c =>
    (match c.callee, c.args.toList, c.argTypes.toList with
    | .builtin .unsafeString, [x, y], [t, _] => if ptrTo P t e then some (x, y) else none
    | _, _, _ => none)
  | .mks z b e, .makeSlice t x y => if mksOk P t z b e then some (x, y) else none
  | _, _ => none

def natsEq : List Nat → List Nat → Bool
  | [], [] => true
  | a :: x, b :: y => Nat.beq a b && natsEq x y
  | _, _ => false

def upTo : Nat → List Nat → Bool
  | _, [] => true
  | n, m :: ms => Nat.beq n m && upTo (n + 1) ms

/-- The operands of an operation, if it is that one of a list of operands. -/
def kOf (P : Program) (f : K) (op : Op) : Option (List Operand) :=
  match f, op with
  | .pick, .pick c x y => some [c, x, y]
  | .build z ps, .build t parts => if plOk P t z (parts.toList.map (·.1)) ps then some (parts.toList.map (·.2)) else none
  | .bsl sz e, .buildSlice t n parts => if bslOk P t n sz e && (upTo 0 (parts.toList.map (·.1)) && Nat.beq parts.toList.length n) then some (parts.toList.map (·.2)) else none
  | .mkf f n, .makeFunc (.func g) fs cs => if Nat.beq f g && Nat.beq fs.size n then some (fs.toList ++ cs.toList) else none
  | .sls a b, .slice t x lo hi none => if isStrT P t && (lo.isSome == a && hi.isSome == b) then some (x :: (lo.toList ++ hi.toList)) else none
  | .slv sz a b, .slice t x lo hi none => if elemOk P t sz && (lo.isSome == a && hi.isSome == b) then some (x :: (lo.toList ++ hi.toList)) else none
  | .call f, .call c =>
    (match c.callee with
    | .value (.func g) => if Nat.beq f g then some c.args.toList else none
    | _ => none)
  | .callv, .call c =>
    (match c.callee with
    | .value x => some (x :: c.args.toList)
    | _ => none)
  | _, _ => none

theorem upTo_eq : ∀ (l : List Nat) (n : Nat), upTo n l = true → l = List.range' n l.length
  | [], n, _ => rfl
  | m :: ms, n, h => by
    simp only [upTo, Bool.and_eq_true] at h
    rw [List.length_cons, List.range'_succ, ← upTo_eq ms (n + 1) h.2, Nat.eq_of_beq_eq_true h.1]

section
variable {P : Program} {G : Nat → Option (List AV)} {w0 : World} {M : Mem} {s : St} {w : World} {o : Oper} {ρ : Operand → Value} {v : AV} {s' : St}

theorem did_iaa (hw : W G w0 M s w) {t : TypeId} {n sz : Nat} {x y : Operand} {xv yv : AV} (ho : o.op = .indexAddr t x y) (ht : arrOk P t n sz = true)
    (hx : CR M [xv] [ρ x]) (hy : CR M [yv] [ρ y]) (h : iaaA n sz xv yv = some v) : Did P G w0 M s o ρ w v s := by
  generalize hgx : ρ x = rx at *
  generalize hgy : ρ y = ry at *
  unfold arrOk at ht
  cases hu : P.underlying t with
  | none => simp [hu] at ht
  | some d =>
    cases d <;> simp [hu] at ht
    rename_i len e
    obtain ⟨hlen, ht⟩ := ht
    subst hlen
    cases hi : P.info? e with
    | none => simp [hi] at ht
    | some i =>
      simp only [hi, beq_iff_eq] at ht
      subst ht
      unfold iaaA at h
      cases hn : natOf yv with
      | none => simp [hn] at h
      | some k =>
        obtain ⟨q, rfl⟩ := natOf_cr hn hy
        simp only [hn] at h
        cases hb : Nat.blt k len with
        | false => simp [hb] at h
        | true =>
          have hlt : k < len := by simpa [Nat.blt_eq] using hb
          simp only [hb, cond_true] at h
          have run : ∀ (B O : Nat), rx = .pointer (some ⟨B, O, none⟩) → (execOp ρ o).run P w = .ok (.value (.pointer (some ⟨B, O + k * i.size, none⟩))) w := by
            intro B O hr
            simp [execOp, ho, hgx, hgy, hr, Instr.indexAt, Instr.sureAddr, asIntOf, run_underlying hu, hlt, sizeOf, typeInfo, hi, addr_add]
          unfold fadA at h
          cases xv <;> simp only [reduceCtorEq, Option.some.injEq] at h
          case ptr b p =>
            subst h
            cases hx with
            | ptr hφ _ => exact Did.pure hw (run _ _ rfl) (.ptr hφ .nil)
          case eptr cs p =>
            subst h
            cases hx with
            | eptr hr hc _ => exact Did.pure hw (run _ _ rfl) (by rw [Nat.add_assoc]; exact .eptr hr hc .nil)
          case gp q' m z p =>
            subst h
            cases hx with
            | gp hH _ => exact Did.pure hw (run _ _ rfl) (.gp hH .nil)

theorem did_u (hw : W G w0 M s w) {f : U} {x : Operand} {xv : AV} (hf : uOf P f o.op = some x) (hx : CR M [xv] [ρ x]) (h : apU f xv s = .ok v s') : Did P G w0 M s o ρ w v s' := by
  unfold uOf at hf
  split at hf
  · simp only [Option.some.injEq] at hf; subst hf
    simp only [apU] at h; cases h
    rename_i ho; exact did_mv hw (.inl ho) hx
  · simp only [Option.some.injEq] at hf; subst hf
    simp only [apU] at h; cases h
    rename_i ho; exact did_mv hw (.inr ho) hx
  · rename_i ho
    split at hf
    · rename_i hc; cases hf; obtain ⟨h1, rfl⟩ := opt_ok h; exact did_ld hw ho hc hx h1
    · cases hf
  · rename_i ho
    split at hf
    · rename_i hc; cases hf; obtain ⟨h1, rfl⟩ := opt_ok h; exact did_lda hw ho hc hx h1
    · cases hf
  · rename_i ho
    split at hf
    · rename_i hc; cases hf; obtain ⟨h1, rfl⟩ := opt_ok h; exact did_fad hw ho hc hx h1
    · cases hf
  · rename_i ho; cases hf; obtain ⟨h1, rfl⟩ := opt_ok h; exact did_nck hw ho hx h1
  · rename_i ho
    split at hf
    · rename_i hc; cases hf; subst hc; obtain ⟨h1, rfl⟩ := opt_ok h; exact did_un hw ho hx h1
    · cases hf
  · rename_i ho
    split at hf
    · rename_i hc; cases hf; simp only [Bool.and_eq_true] at hc; obtain ⟨h1, rfl⟩ := opt_ok h; exact did_cvi hw ho hc.1 hc.2 hx h1
    · cases hf
  · rename_i ho
    split at hf
    · rename_i hc; cases hf; simp only [Bool.and_eq_true] at hc; obtain ⟨h1, rfl⟩ := opt_ok h; exact did_cvid hw ho hc.1 hc.2 hx h1
    · cases hf
  · rename_i ho
    split at hf
    · rename_i hc; cases hf; simp only [Bool.and_eq_true] at hc; obtain ⟨h1, rfl⟩ := opt_ok h; exact did_cvbs hw ho hc.1 hc.2 hx h1
    · cases hf
  · rename_i ho
    split at hf
    · rename_i hc; cases hf; obtain ⟨h1, rfl⟩ := opt_ok h; exact did_fld hw ho hc hx h1
    · cases hf
  · rename_i ho
    split at hf
    · rename_i hc; cases hf; subst hc; obtain ⟨h1, rfl⟩ := opt_ok h; exact did_ext hw ho hx h1
    · cases hf
  · rename_i ho
    split at hf
    · rename_i h1 h2 h3
      split at hf
      · rename_i hc
        cases hf
        simp only [apU] at h
        cases hl : lenV xv with
        | none => simp [hl] at h
        | some n =>
          simp only [hl] at h
          cases h
          have hns : ∀ z, xv ≠ .str z := fun z e => by subst e; simp [lenV] at hl
          have hla : lenA xv = some n := by unfold lenV at hl; split at hl; cases hl; exact hl
          exact did_len hw ho h1 h2 h3 (.inr hc) hx hla (fun hs => by unfold isStrT at hs; unfold isSliceT at hc; split at hs <;> simp_all) (fun _ => hns)
      · cases hf
    · cases hf
  · rename_i ho
    split at hf
    · rename_i h1 h2 h3
      split at hf
      · rename_i hc
        cases hf
        simp only [apU] at h
        cases hl : lenS xv with
        | none => simp [hl] at h
        | some n =>
          simp only [hl] at h
          cases h
          have hs : ∃ z, xv = .str z ∧ lenA xv = some n := by
            unfold lenS at hl
            split at hl
            · exact ⟨_, rfl, hl⟩
            · cases hl
          obtain ⟨z, rfl, hla⟩ := hs
          exact did_len hw ho h1 h2 h3 (.inl hc) hx hla (fun _ => ⟨z, rfl⟩) (fun hs => by unfold isStrT at hc; unfold isSliceT at hs; split at hs <;> simp_all)
      · cases hf
    · cases hf
  · rename_i ho
    split at hf
    · rename_i h1 h2
      cases hf
      obtain ⟨h3, rfl⟩ := opt_ok h
      exact did_usd hw ho h1 h2 hx h3
    · cases hf
  · rename_i ho
    split at hf
    · rename_i hc; cases hf
      have := Nat.eq_of_beq_eq_true hc
      subst this
      exact did_box hw ho hx h
    · cases hf
  · rename_i ho
    split at hf
    · rename_i hc; cases hf; obtain ⟨h1, rfl⟩ := opt_ok h; exact did_cvp hw ho hc hx h1
    · cases hf
  · cases hf

theorem did_b (hw : W G w0 M s w) {f : B} {x y : Operand} {xv yv : AV} (hf : bOf P f o.op = some (x, y)) (hx : CR M [xv] [ρ x]) (hy : CR M [yv] [ρ y]) (h : apB f xv yv s = .ok v s') : Did P G w0 M s o ρ w v s' := by
  unfold bOf at hf
  split at hf
  · rename_i ho
    split at hf
    · rename_i hc; cases hf; subst hc; obtain ⟨h1, rfl⟩ := opt_ok h; exact did_bin hw ho hx hy h1
    · cases hf
  · rename_i ho
    split at hf
    · rename_i hc; cases hf; simp only [Bool.and_eq_true, decide_eq_true_eq] at hc; obtain ⟨h1, rfl⟩ := opt_ok h; exact did_eqp hw hc.1 ho hc.2 hx hy h1
    · cases hf
  · rename_i ho
    split at hf
    · rename_i hc; cases hf; simp only [Bool.and_eq_true, decide_eq_true_eq] at hc; obtain ⟨h1, rfl⟩ := opt_ok h; exact did_eqb hw hc.1 ho hc.2 hx hy h1
    · cases hf
  · rename_i ho
    split at hf
    · rename_i hc; cases hf; simp only [Bool.and_eq_true, decide_eq_true_eq] at hc; obtain ⟨h1, rfl⟩ := opt_ok h; exact did_eqs hw hc.1 ho hc.2 hx hy h1
    · cases hf
  · rename_i ho
    split at hf
    · rename_i hc; cases hf
      refine did_st hw ho ?_ hx hy h
      unfold oneCell at hc
      split at hc
      · rename_i i hi; exact ⟨i, hi, by simpa using hc⟩
      · cases hc
    · cases hf
  · rename_i ho
    split at hf
    · rename_i hc; cases hf; exact did_sta hw ho hc hx hy h
    · cases hf
  · rename_i ho
    split at hf
    · rename_i hc; cases hf; obtain ⟨h1, rfl⟩ := opt_ok h; exact did_iad hw ho hc hx hy h1
    · cases hf
  · rename_i ho
    split at hf
    · rename_i hc; cases hf; obtain ⟨h1, rfl⟩ := opt_ok h; exact did_iaa hw ho hc hx hy h1
    · cases hf
  · rename_i ho
    split at hf
    · rename_i hc; cases hf; obtain ⟨h1, rfl⟩ := opt_ok h; exact did_ixs hw ho hc hx hy h1
    · cases hf
  · rename_i ho
    split at hf
    · rename_i h1 h2 h3
      split at hf
      · rename_i hc; cases hf; exact did_app hw ho h1 h2 h3 (appOk_elem hc).1 (appOk_elem hc).2 hx hy h
      · cases hf
    · cases hf
  · rename_i ho
    split at hf
    · rename_i h1 h2 h3
      split at hf
      · rename_i hc; cases hf; exact did_appg hw ho h1 h2 h3 (appOk_elem hc).1 (appOk_elem hc).2 hx hy h
      · cases hf
    · cases hf
  · rename_i ho
    split at hf
    · rename_i h1 h2; cases hf; obtain ⟨h3, rfl⟩ := opt_ok h; exact did_mx hw ho h1 h2 hx hy h3
    · cases hf
  · rename_i ho
    split at hf
    · rename_i h1 h2; cases hf; obtain ⟨h3, rfl⟩ := opt_ok h; exact did_mn hw ho h1 h2 hx hy h3
    · cases hf
  · rename_i ho
    split at hf
    · rename_i h1 h2 h3
      split at hf
      · rename_i hc; cases hf; obtain ⟨h4, rfl⟩ := opt_ok h; exact did_ust hw ho h1 h2 h3 hc hx hy h4
      · cases hf
    · cases hf
  · rename_i ho
    split at hf
    · rename_i hc; cases hf; exact did_mks hw ho hc hx hy h
    · cases hf
  · cases hf
end

-- ---------------------------------------------------------------- calls, and operations in a frame
/-- What a call of f comes to, whatever the operation and the frame. -/
def Fin (P : Program) (G : Nat → Option (List AV)) (w0 : World) (M : Mem) (s : St) (f : FuncId) (args : Array Value) (w : World) (v : AV) (s' : St) : Prop :=
  ∀ (o : Oper) (a : Act) (K : Act → World → Prop) (Q : Exit → Act → World → Prop),
    (∀ M' v' w', Ext M s M' s' → W G w0 M' s' w' → CR M' [v] [v'] → K (a.put o.dst v') w') → o.upon P a K Q ((callFunc f args).run P w)

/-- What an operation of a frame comes to. -/
def OpDid (P : Program) (G : Nat → Option (List AV)) (w0 : World) (M : Mem) (s : St) (o : Oper) (a : Act) (w : World) (v : AV) (s' : St) : Prop :=
  ∀ (K : Act → World → Prop) (Q : Exit → Act → World → Prop),
    (∀ M' v' w', Ext M s M' s' → W G w0 M' s' w' → CR M' [v] [v'] → K (a.put o.dst v') w') → o.wp P a w K Q

/-- What is said of the table of calls. -/
def CallsOk (P : Program) (G : Nat → Option (List AV)) (w0 : World) (g : FuncId → List AV → St → Rv) : Prop :=
  ∀ f as s v s' M w args, g f as s = .ok v s' → W G w0 M s w → CR M as args.toList → Fin P G w0 M s f args w v s'

section
variable {P : Program} {G : Nat → Option (List AV)} {w0 : World} {M : Mem} {s : St} {w : World} {o : Oper} {a : Act} {v : AV} {s' : St}

theorem Did.op (h : Did P G w0 M s o a.eval w v s') : OpDid P G w0 M s o a w v s' := by
  obtain ⟨M', v', w', nx, hr, hn, he, hw, hc⟩ := h
  intro K Q hk
  unfold Oper.wp
  rw [hr]
  rcases hn with rfl | ⟨rfl, rfl⟩
  · exact hk M' v' w' he hw hc
  · exact hk M' undef w' he hw hc

theorem did_k {E : Env} {ih : LC → Tm → St → R} (hC : CallsOk P G w0 (callA E ih)) (hw : W G w0 M s w) {f : K} {xs : List Operand} {vs : List AV} (hf : kOf P f o.op = some xs)
    (hx : CR M vs (xs.map a.eval)) (h : apK E ih f vs s = .ok v s') : OpDid P G w0 M s o a w v s' := by
  unfold kOf at hf
  split at hf
  · rename_i c x y ho
    cases hf
    simp only [apK] at h
    split at h
    · cases h
      obtain ⟨v1, us1, he1, h1, hx⟩ := hx.uncons
      obtain ⟨v2, us2, he2, h2, hx⟩ := hx.uncons
      obtain ⟨v3, us3, he3, h3, hx⟩ := hx.uncons
      subst he2; subst he3
      simp only [List.map_cons, List.map_nil, List.cons.injEq] at he1
      obtain ⟨rfl, rfl, rfl, _⟩ := he1
      exact (did_pick hw ho h1 h2 h3).op
    · cases h
  · rename_i z ps t parts ho
    split at hf
    · rename_i hc
      cases hf
      simp only [apK] at h
      split at h
      · rename_i cs hb
        cases h
        exact (did_build hw ho hc (by simpa [List.map_map, Function.comp_def] using hx) hb).op
      · cases h
    · cases hf
  · rename_i sz e t n parts ho
    split at hf
    · rename_i hc
      cases hf
      simp only [Bool.and_eq_true] at hc
      simp only [apK] at h
      cases hb : bslA sz vs with
      | false => simp [hb] at h
      | true =>
        simp only [hb, cond_true] at h
        have hl := Nat.eq_of_beq_eq_true hc.2.2
        have hi := upTo_eq _ _ hc.2.1
        rw [List.length_map, hl] at hi
        exact (did_bsl hw ho hc.1 hi (by simpa [List.map_map, Function.comp_def] using hx) hb h).op
    · cases hf
  · rename_i f n g fs cs ho
    split at hf
    · rename_i hc
      cases hf
      simp only [Bool.and_eq_true] at hc
      have h1 := Nat.eq_of_beq_eq_true hc.1
      have h2 := Nat.eq_of_beq_eq_true hc.2
      subst h1
      simp only [apK] at h
      cases hb : Nat.ble n vs.length with
      | false => simp [hb] at h
      | true =>
        simp only [hb, cond_true] at h
        cases h
        exact (did_mkf hw ho h2 hx).op
    · cases hf
  · rename_i p q t x lo hi ho
    split at hf
    · rename_i hc
      cases hf
      simp only [Bool.and_eq_true, beq_iff_eq] at hc
      simp only [apK] at h
      split at h
      · rename_i z ys
        obtain ⟨v1, us1, he1, h1, hx⟩ := hx.uncons
        simp only [List.map_cons, List.cons.injEq] at he1
        obtain ⟨rfl, rfl⟩ := he1
        split at h
        · rename_i l hh hb
          obtain ⟨h3, rfl⟩ := opt_ok h
          exact (did_sls hw ho hc.1 hc.2.1 hc.2.2 h1 hx hb h3).op
        · cases h
      · cases h
    · cases hf
  · rename_i sz p q t x lo hi ho
    split at hf
    · rename_i hc
      cases hf
      simp only [Bool.and_eq_true, beq_iff_eq] at hc
      simp only [apK] at h
      split at h
      · rename_i xv ys
        obtain ⟨v1, us1, he1, h1, hx⟩ := hx.uncons
        simp only [List.map_cons, List.cons.injEq] at he1
        obtain ⟨rfl, rfl⟩ := he1
        split at h
        · rename_i n hn
          split at h
          · rename_i l hh hb
            obtain ⟨h3, rfl⟩ := opt_ok h
            exact (did_slv hw ho hc.1 hc.2.1 hc.2.2 h1 hx hn hb h3).op
          · cases h
        · cases h
      · cases h
    · cases hf
  · rename_i f c ho
    split at hf
    · rename_i g hcal
      split at hf
      · rename_i hc
        cases hf
        have hfg := Nat.eq_of_beq_eq_true hc
        subst hfg
        simp only [apK] at h
        intro K Q hk
        have hF := hC f vs s v s' M w (c.args.map a.eval) h hw (by simpa using hx) o a K Q hk
        unfold Oper.wp
        have : (execOp a.eval o).run P w = (callFunc f (c.args.map a.eval)).run P w := by
          simp [execOp, ho, resolve, hcal, Act.eval, Deferred.ofValue, invoke]
        rw [this]; exact hF
      · cases hf
    · cases hf
  · rename_i c ho
    split at hf
    · rename_i x hcal
      cases hf
      simp only [apK] at h
      split at h
      · rename_i f first captured as
        obtain ⟨v1, us1, he1, h1, hx⟩ := hx.uncons
        simp only [List.map_cons, List.cons.injEq] at he1
        obtain ⟨rfl, rfl⟩ := he1
        generalize hgx : a.eval x = rx at *
        cases h1 with
        | @fn _ _ _ fs' cs' _ _ hf1 hf2 _ =>
          intro K Q hk
          have hF := hC f (first ++ (as ++ captured)) s v s' M w (fs' ++ c.args.map a.eval ++ cs') h hw (by simpa using hf1.append (hx.append hf2)) o a K Q hk
          unfold Oper.wp
          have : (execOp a.eval o).run P w = (callFunc f (fs' ++ c.args.map a.eval ++ cs')).run P w := by
            simp [execOp, ho, resolve, hcal, hgx, Deferred.ofValue, invoke]
          rw [this]; exact hF
      · cases h
    · cases hf
  · cases hf
end

end Go.Proofs.YtmoihglcdmmmlaaGreatDoor
