/-
  Cells written behind a pointer; a slice that stays its maker's own put behind; a slice told.
-/
import Derived.Test.YtmoihglcdmmmlaaGreatDoorAb6
set_option linter.unusedSimpArgs false
set_option linter.unusedVariables false
namespace Go.Proofs.YtmoihglcdmmmlaaGreatDoor
open Go Go.RowKit

theorem splice_eq : ∀ (cs : List AV) (o : Nat) (vs : List AV), o + vs.length ≤ cs.length → splice cs o vs = cs.take o ++ vs ++ cs.drop (o + vs.length) := by
  intro cs
  induction cs with
  | nil =>
    intro o vs h
    simp at h
    obtain ⟨rfl, rfl⟩ := h
    rfl
  | cons c cs ih =>
    intro o vs h
    cases o with
    | zero =>
      cases vs with
      | nil => simp [splice]
      | cons v vs =>
        have := ih 0 vs (by simp at h ⊢; omega)
        simp only [splice, this, List.take_zero, List.nil_append, List.length_cons, Nat.zero_add, List.drop_succ_cons, List.cons_append]
    | succ o =>
      have := ih o vs (by simp at h ⊢; omega)
      simp only [splice, this, List.take_succ_cons, List.cons_append]
      rw [show o + 1 + vs.length = (o + vs.length) + 1 from by omega, List.drop_succ_cons]

theorem CR.splice {M : Mem} {cs vs : List AV} {us xs : List Value} (h : CR M cs us) (k : CR M vs xs) (o : Nat) (hl : o + vs.length ≤ cs.length) :
    CR M (splice cs o vs) (us.take o ++ xs ++ us.drop (o + xs.length)) := by
  rw [splice_eq cs o vs hl, ← k.length]
  exact ((h.take o).append k).append (h.drop _)

theorem setNth_eq {α : Type} : ∀ (l : List α) (n : Nat) (x : α), setNth l n x = l.set n x := by
  intro l
  induction l with
  | nil => intro n x; rfl
  | cons a l ih => intro n x; cases n with
    | zero => rfl
    | succ n => simp [setNth, ih]

theorem put_cells {e : AV} {o : Nat} {vs : List AV} (h : o + vs.length ≤ e.cells.length) (h1 : vs.all AV.one = true) : (e.put o vs).cells = splice e.cells o vs := by
  unfold AV.put
  split
  · rfl
  · rename_i hne
    have hc : e.cells = [e] := by cases e <;> first | rfl | exact absurd rfl (hne _)
    rw [hc] at h ⊢
    simp at h
    split
    · rename_i v
      simp at h
      subst h
      simp only [List.all_cons, List.all_nil, Bool.and_true] at h1
      simp only [splice]
      cases v <;> first | rfl | (simp [AV.one] at h1; done)
    · rename_i hv
      cases vs with
      | nil =>
        simp at h
        cases o with
        | zero => simp [splice, hc]
        | succ o => have : o = 0 := by omega
                    subst this; simp [splice, hc]
      | cons v vs =>
        cases vs with
        | nil => exact absurd rfl (hv v)
        | cons _ _ => simp at h; omega

theorem flat_set {els : List AV} {sz i : Nat} {e e' : AV} (h : ∀ x ∈ els, x.cells.length = sz) (hi : els[i]? = some e) (he : e'.cells.length = sz) :
    flat (els.set i e') = (flat els).take (i * sz) ++ e'.cells ++ (flat els).drop (i * sz + sz) := by
  induction els generalizing i with
  | nil => simp at hi
  | cons y ys ih =>
    have hy : y.cells.length = sz := h y (by simp)
    cases i with
    | zero =>
      simp only [List.set_cons_zero, flat, Nat.zero_mul, List.take_zero, List.nil_append, Nat.zero_add]
      rw [List.drop_append_of_le_length (by omega), List.drop_of_length_le (by omega), List.nil_append]
    | succ i =>
      simp only [List.getElem?_cons_succ] at hi
      simp only [List.set_cons_succ, flat, ih (fun x hx => h x (by simp [hx])) hi]
      rw [show (i + 1) * sz = y.cells.length + i * sz from by rw [hy, Nat.add_mul, Nat.one_mul, Nat.add_comm]]
      rw [List.take_length_add_append, show y.cells.length + i * sz + sz = y.cells.length + (i * sz + sz) from by omega, List.drop_length_add_append]
      simp [List.append_assoc]

theorem flat_drop_take {els : List AV} {sz i : Nat} {e : AV} (h : ∀ x ∈ els, x.cells.length = sz) (hi : els[i]? = some e) :
    ((flat els).drop (i * sz)).take sz = e.cells := by
  have hlen : e.cells.length = sz := h e (List.mem_of_getElem? hi)
  apply List.ext_getElem?
  intro q
  rw [List.getElem?_take]
  split
  · rename_i hq
    rw [List.getElem?_drop, flat_get h hi (List.getElem?_eq_getElem (by omega)), List.getElem?_eq_getElem (by omega)]
  · rw [List.getElem?_eq_none (by omega)]

theorem flat_put {els : List AV} {sz i o : Nat} {e : AV} {vs : List AV} (h : ∀ x ∈ els, x.cells.length = sz) (hi : els[i]? = some e) (hl : o + vs.length ≤ e.cells.length)
    (h1 : vs.all AV.one = true) : flat (els.set i (e.put o vs)) = splice (flat els) (i * sz + o) vs := by
  have hlen : e.cells.length = sz := h e (List.mem_of_getElem? hi)
  have hpc := put_cells hl h1
  have hpl : (e.put o vs).cells.length = sz := by
    rw [hpc, splice_eq _ _ _ hl]; simp; omega
  have hil : i < els.length := by rcases Nat.lt_or_ge i els.length with h' | h'; exact h'; rw [List.getElem?_eq_none h'] at hi; cases hi
  have hfl : (flat els).length = els.length * sz := flat_length h
  have hle : i * sz + sz ≤ els.length * sz := by rw [← Nat.succ_mul]; exact Nat.mul_le_mul_right _ hil
  rw [flat_set h hi hpl, hpc, splice_eq _ _ _ hl, splice_eq _ _ _ (by omega)]
  have hd := flat_drop_take h hi
  have e1 : e.cells.take o = ((flat els).drop (i * sz)).take o := by
    rw [← hd, List.take_take]; congr 1; omega
  have e2 : e.cells.drop (o + vs.length) ++ (flat els).drop (i * sz + sz) = (flat els).drop (i * sz + o + vs.length) := by
    rw [← hd]
    have : (flat els).drop (i * sz + sz) = ((flat els).drop (i * sz)).drop sz := by rw [List.drop_drop]
    rw [this]
    have e3 : ∀ l : List AV, (l.take sz).drop (o + vs.length) ++ l.drop sz = l.drop (o + vs.length) := by
      intro l
      have h4 : l = l.take sz ++ l.drop sz := (List.take_append_drop sz l).symm
      by_cases hc : sz ≤ l.length
      · conv => rhs; rw [h4]
        rw [List.drop_append_of_le_length (by rw [List.length_take]; omega)]
      · have h5 : l.drop sz = [] := List.drop_of_length_le (by omega)
        rw [h5, List.take_of_length_le (by omega), List.append_nil]
    rw [e3, List.drop_drop, Nat.add_assoc]
  rw [e1]
  simp only [List.append_assoc] at e2 ⊢
  rw [e2]
  have e5 : (flat els).take (i * sz) ++ ((flat els).drop (i * sz)).take o = (flat els).take (i * sz + o) := by
    rw [List.take_add]
  rw [← List.append_assoc, e5]

section
variable {P : Program} {G : Nat → Option (List AV)} {w0 : World} {M : Mem} {s : St} {w : World} {o : Oper} {ρ : Operand → Value} {v : AV} {s' : St}

/-- Cells are written: what storeCells does, and what becomes of the state. -/
theorem W.store (hw : W G w0 M s w) {p : AV} {pv : Value} {vs : List AV} {xs : List Value} (hp : CR M [p] [pv]) (hv : CR M vs xs) (h : storeA p vs s = .ok v s') :
    v = undefA ∧ ∃ a w', pv = .pointer (some a) ∧ (storeCells a xs).run P w = .ok () w' ∧ ∃ M', Ext M s M' s' ∧ W G w0 M' s' w' := by
  unfold storeA at h
  cases hone : vs.all AV.one with
  | false => simp [hone] at h
  | true =>
    simp only [hone, cond_true] at h
    have h1 := hv.all_one hone
    cases p <;> simp only [reduceCtorEq] at h
    case ptr b o =>
      cases hp with
      | @ptr _ _ B _ _ hφ _ =>
        obtain ⟨k1, k2, k3, cs, cells, ty, k4, k5, k6⟩ := hw.hp b B hφ
        simp only [k4] at h
        cases hb : Nat.ble (o + vs.length) cs.length with
        | false => simp [hb] at h
        | true =>
          simp only [hb, cond_true] at h
          cases h
          have hle : o + vs.length ≤ cs.length := Nat.le_of_ble_eq_true hb
          have hlen := k6.length
          have hst := run_storeCells_at P B o ty xs 0 cells w k5 (by rw [← hv.length]; simp at hlen ⊢; omega) h1
          simp only [Nat.add_zero] at hst
          have := hw.setBox (vs' := (cells.toList.take o ++ xs ++ cells.toList.drop (o + xs.length)).toArray) hφ (by simpa using k6.splice hv o hle)
          exact ⟨rfl, _, _, rfl, hst, M, this.2, this.1⟩
    case gp t n z p =>
      have hdm := Nat.div_add_mod' p z
      generalize p / z = i at *
      generalize p % z = o at *
      subst hdm
      unfold stgA at h
      cases hk : s.tk.get t with
      | none => simp [hk] at h
      | some kk =>
        cases kk with
        | f _ _ _ => simp [hk] at h
        | g sz ty els =>
          simp only [hk, nth_eq] at h
          cases he : els[i]? with
          | none => simp [he] at h
          | some e =>
            simp only [he] at h
            cases hb : Nat.beq n els.length && (Nat.beq z sz && Nat.ble (o + vs.length) e.cells.length) with
            | false => simp [hb] at h
            | true =>
              simp only [hb, cond_true] at h
              simp only [Bool.and_eq_true] at hb
              have hn : n = els.length := Nat.eq_of_beq_eq_true hb.1
              have hle := Nat.le_of_ble_eq_true hb.2.2
              have hzz : z = sz := Nat.eq_of_beq_eq_true hb.2.1
              cases h
              subst hn; subst hzz
              cases hp with
              | @gp _ _ _ _ cap B ty' _ _ hH _ =>
                obtain ⟨q1, q2, q3, B', cap', cells, q4, q5, q6, q7, q8, q9, q10, q11⟩ := hw.tg t z ty els hk
                rw [hH] at q4; cases q4
                have hlen : e.cells.length = z := q3 e (List.mem_of_getElem? he)
                have hil : i < els.length := by rcases Nat.lt_or_ge i els.length with h' | h'; exact h'; rw [List.getElem?_eq_none h'] at he; cases he
                have hfl : (flat els).length = els.length * z := flat_length q3
                have hle2 : i * z + z ≤ els.length * z := by rw [← Nat.succ_mul]; exact Nat.mul_le_mul_right _ hil
                have hle3 : els.length * z ≤ cap * z := Nat.mul_le_mul_right _ q5
                have hxl := hv.length
                have hst := run_storeCells_at P B (i * z + o) ty xs 0 cells w q9 (by omega) h1
                simp only [Nat.add_zero] at hst
                have htb := hw.tb t _ hk
                have hset : (setNth els i (e.put o vs)).length = els.length := by rw [setNth_eq]; simp
                have hflat : flat (setNth els i (e.put o vs)) = splice (flat els) (i * z + o) vs := by rw [setNth_eq]; exact flat_put q3 he hle hone
                have hpl : (e.put o vs).cells.length = z := by rw [put_cells hle hone, splice_eq _ _ _ hle]; simp; omega
                have := hw.tokG (w' := w.setRow B (cells.toList.take (i * z + o) ++ xs ++ cells.toList.drop (i * z + o + xs.length)).toArray) (t := t) (B := B) (sz := z) (cap := cap)
                  (els := setNth els i (e.put o vs)) (vs := (cells.toList.take (i * z + o) ++ xs ++ cells.toList.drop (i * z + o + xs.length)).toArray) (ty := ty)
                  (hw.but_setRow q6 _) htb.1 htb.2 q6 (.inl (.inr ⟨z, ty, els, cap, ty, hk, hH⟩)) (.inr q1) (by rw [hset]; exact q2) (.inr (by rw [hset]; exact hH))
                  (setRow_heap w B cells _ ty (0, 0) q9) (by simp only [List.size_toArray, List.length_append, List.length_take, List.length_drop, Array.length_toList]; omega) q8 (by rw [hset]; exact q5)
                  (by
                    intro x hx
                    rw [setNth_eq] at hx
                    rcases List.mem_or_eq_of_mem_set hx with hx | hx
                    · exact q3 x hx
                    · rw [hx]; exact hpl)
                  (by
                    rw [hflat, hset]
                    have hs := q11.splice hv (i * z + o) (by omega)
                    have e1 : (cells.toList.take (i * z + o) ++ xs ++ cells.toList.drop (i * z + o + xs.length)).take (els.length * z) =
                        (cells.toList.take (els.length * z)).take (i * z + o) ++ xs ++ (cells.toList.take (els.length * z)).drop (i * z + o + xs.length) := by
                      have hcl : els.length * z ≤ cells.toList.length := by simp; omega
                      rw [List.take_take, Nat.min_eq_left (by omega)]
                      rw [List.take_append, List.take_of_length_le (by simp; omega)]
                      congr 1
                      simp only [List.length_append, List.length_take]
                      rw [Nat.min_eq_left (by omega), List.drop_take]
                    simp only [List.toList_toArray]
                    rw [e1]; exact hs)
                exact ⟨rfl, _, _, rfl, hst, _, this.2.1, this.1⟩

theorem did_st (hw : W G w0 M s w) {x y : Operand} {xv yv : AV} {t : TypeId} (ho : o.op = .store t x y) (ht : ∃ i, P.info? t = some i ∧ i.size = 1)
    (hx : CR M [xv] [ρ x]) (hy : CR M [yv] [ρ y]) (h : stA xv yv s = .ok v s') : Did P G w0 M s o ρ w v s' := by
  obtain ⟨rfl, a, w', h1, h2, M', h3, h4⟩ := hw.store (P := P) hx hy h
  have hone : (ρ y).oneCell' = true := by
    unfold stA storeA at h
    cases hq : [yv].all AV.one with
    | false => simp [hq] at h
    | true => simp at hq; rw [hy.one]; exact hq
  have hc : (ρ y).cells = #[ρ y] := by
    cases hr : ρ y <;> first | rfl | (rw [hr] at hone; simp [Value.oneCell'] at hone)
  obtain ⟨i, hi, hs1⟩ := ht
  refine ⟨M', undef, w', .skip, ?_, .inr ⟨rfl, rfl⟩, h3, h4, .tup .nil .nil⟩
  simp [execOp, ho, Instr.storeAt, h1, Instr.sureAddr, storeVar, hc, run_sizeOf' hi, hs1, h2]

theorem did_sta (hw : W G w0 M s w) {x y : Operand} {xv yv : AV} {t : TypeId} {n : Nat} (ho : o.op = .store t x y) (ht : aggOf P t = some n)
    (hx : CR M [xv] [ρ x]) (hy : CR M [yv] [ρ y]) (h : staA n xv yv s = .ok v s') : Did P G w0 M s o ρ w v s' := by
  unfold staA at h
  cases yv <;> simp only [reduceCtorEq] at h
  rename_i vs
  generalize hg : ρ y = ry at *
  cases hy with
  | @agg _ us _ _ hc _ =>
    cases hb : Nat.beq vs.length n with
    | false => simp [hb] at h
    | true =>
      simp only [hb, cond_true] at h
      have hn : vs.length = n := Nat.eq_of_beq_eq_true hb
      obtain ⟨rfl, a, w', h1, h2, M', h3, h4⟩ := hw.store (P := P) hx hc h
      have hul : us.size = n := by rw [← hn, hc.length]; simp
      refine ⟨M', undef, w', .skip, ?_, .inr ⟨rfl, rfl⟩, h3, h4, .tup .nil .nil⟩
      simp [execOp, ho, Instr.storeAt, h1, Instr.sureAddr, storeVar, hg, Value.cells, run_isAgg_yes ht, hul, h2]

/-- A slice that was its maker's own is told. -/
theorem W.tell (hw : W G w0 M s w) {x : AV} {xv : Value} (hx : CR M [x] [xv]) (h : tell x s = .ok v s') : ∃ M', Ext M s M' s' ∧ W G w0 M' s' w ∧ CR M' [v] [xv] := by
  unfold YtmoihglcdmmmlaaGreatDoor.tell at h
  split at h
  · rename_i t n
    cases hk : s.tk.get t with
    | none => simp [hk] at h
    | some kk =>
      cases kk with
      | f _ _ _ => simp [hk] at h
      | g sz ty els =>
        simp only [hk] at h
        cases hb : Nat.beq n els.length with
        | false => simp [hb] at h
        | true =>
          simp only [hb, cond_true] at h
          cases h
          have hn : n = els.length := Nat.eq_of_beq_eq_true hb
          subst hn
          cases hx with
          | @gs _ _ cap B ty' _ _ hH _ =>
            obtain ⟨q1, q2, q3, B', cap', cells, q4, q5, q6, q7, q8, q9, q10, q11⟩ := hw.tg t sz ty els hk
            rw [hH] at q4; cases q4
            have htb := hw.tb t _ hk
            have := hw.tokF (w' := w) (t := t) (B := B) (n := els.length) (sz := sz) (cap := cap) (els := els) (vs := cells) (ty := ty) (lo := 0) (hi := 0)
              ⟨hw.below, fun k x hk hx => hx, fun vs e fr hx => ⟨vs, hx⟩⟩ htb.1 htb.2 q6 (.inl (.inr ⟨sz, ty, els, cap, ty, hk, hH⟩)) (.inr q1) q2 (.inr hH) q9 q10 (Nat.zero_le _)
              (fun o v hf => by rw [q8] at hf; cases hf) q5 rfl q3 q11
            exact ⟨_, this.2.1, this.1, this.2.2⟩
  · cases h
    exact ⟨M, .refl M s, hw, hx⟩
end

end Go.Proofs.YtmoihglcdmmmlaaGreatDoor
