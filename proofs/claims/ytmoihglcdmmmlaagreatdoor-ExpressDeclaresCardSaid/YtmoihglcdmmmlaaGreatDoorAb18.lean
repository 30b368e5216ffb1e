/-
  A function's results, and calls.
-/
import Derived.Test.YtmoihglcdmmmlaaGreatDoorAb17
set_option linter.unusedSimpArgs false
set_option linter.unusedVariables false
namespace Go.Proofs.YtmoihglcdmmmlaaGreatDoor
open Go Go.RowKit

def resOk (P : Program) (m : List Nat) : List LR → List ResultVar → Bool
  | [], [] => true
  | .t i :: rs, .tmp k :: xs => optEq (nth m i) (some k) && resOk P m rs xs
  | .c i :: rs, .cell k t :: xs => optEq (nth m i) (some k) && (notAgg P t && resOk P m rs xs)
  | .ca i n :: rs, .cell k t :: xs => optEq (nth m i) (some k) && (optEq (aggOf P t) (some n) && resOk P m rs xs)
  | _, _ => false

/-- The first slots are the parameters; none of the others is one. -/
def parOk (np : Nat) : Nat → List Nat → Bool
  | _, [] => true
  | i, k :: ks => (bif Nat.blt i np then Nat.beq k i else Nat.ble np k) && parOk np (i + 1) ks

def allLt (N : Nat) : List Nat → Bool
  | [] => true
  | k :: ks => Nat.blt k N && allLt N ks

def okF (P : Program) (G : Nat → Option (List AV)) (lf : LF) (f : FuncId) : Bool :=
  match P.funcs[f]? with
  | none => false
  | some fn =>
    match fn.body with
    | none => false
    | some c => !(fn.name == "runtime.NumGoroutine") && (nodupN lf.m && (parOk lf.np 0 lf.m && (Nat.beq lf.m.length lf.n && (Nat.ble lf.np lf.n &&
        (okC P G lf.m fn.ntmps lf.code c && resOk P lf.m lf.res fn.results.toList)))))

theorem parOk_eq {np : Nat} : ∀ {l : List Nat} {i : Nat}, parOk np i l = true → ∀ j k, l[j]? = some k → if i + j < np then k = i + j else np ≤ k
  | [], i, h, j, k, hj => by simp at hj
  | x :: xs, i, h, j, k, hj => by
    simp only [parOk, Bool.and_eq_true] at h
    cases j with
    | zero =>
      simp at hj
      subst hj
      have h1 := h.1
      cases hb : Nat.blt i np with
      | true =>
        have : i < np := by simpa [Nat.blt_eq] using hb
        rw [hb, cond_true] at h1
        rw [if_pos (by omega)]
        exact Nat.eq_of_beq_eq_true h1
      | false =>
        have : ¬ i < np := fun hlt => Bool.false_ne_true (hb.symm.trans (by simpa [Nat.blt_eq] using hlt))
        rw [hb, cond_false] at h1
        rw [if_neg (by omega)]
        exact Nat.le_of_ble_eq_true h1
    | succ j =>
      simp at hj
      have := parOk_eq h.2 j k hj
      rw [show i + 1 + j = i + (j + 1) by omega] at this
      exact this

def resSem (tmps : Array Value) : ResultVar → Sem Value
  | .tmp t => pure (tmps.getD t undef)
  | .cell a t => do loadVar t (← asAddr (tmps.getD a undef))

theorem results_eq (fn : Func) (tmps : Array Value) : results fn tmps = (do let vs ← fn.results.mapM (resSem tmps); pure (if h : vs.size = 1 then vs[0] else .tuple vs)) := by
  have : resSem tmps = (fun | .tmp t => pure (tmps.getD t undef) | .cell a t => do loadVar t (← asAddr (tmps.getD a undef))) := by
    funext x; cases x <;> rfl
  rw [this]; rfl

section
variable {P : Program} {E : Env} {w0 : World} {m : List Nat}

theorem run_loadVar {G : Nat → Option (List AV)} {M : Mem} {s : St} {w : World} (hw : W G w0 M s w) {p v : AV} {pv : Value} {t : TypeId} (hp : CR M [p] [pv])
    (h : (notAgg P t = true ∧ ldA s p = some v) ∨ ∃ n, aggOf P t = some n ∧ ldaA n s p = some v) : ∃ v', (do loadVar t (← asAddr pv) : Sem Value).run P w = .ok v' w ∧ CR M [v] [v'] := by
  let o : Oper := { dst := none, op := .load t (.const pv), type := 0, pos := "", after := #[], guard := none }
  have key : ∀ (h : Did P G w0 M s o (fun _ => pv) w v s) , True := fun _ => trivial
  rcases h with ⟨h1, h2⟩ | ⟨n, h1, h2⟩
  · unfold ldA at h2
    cases hc : cellsAt s p with
    | none => simp [hc] at h2
    | some q =>
      obtain ⟨cs, i⟩ := q
      simp only [hc, nth_eq] at h2
      obtain ⟨B, O, us, hp', hcr, hcell⟩ := hw.cellsAt hp hc
      obtain ⟨u, hu, hvu⟩ := hcr.get h2
      subst hp'
      exact ⟨u, by simp [asAddr, loadVar, run_isAgg_no h1, hcell i u hu], hvu⟩
  · unfold ldaA at h2
    cases hc : cellsAt s p with
    | none => simp [hc] at h2
    | some q =>
      obtain ⟨cs, i⟩ := q
      simp only [hc, cut] at h2
      cases hb : Nat.ble (i + n) cs.length with
      | false => simp [hb] at h2
      | true =>
        simp only [hb, cond_true, Option.some.injEq] at h2
        subst h2
        have hle : i + n ≤ cs.length := Nat.le_of_ble_eq_true hb
        obtain ⟨B, O, us, hp', hcr, hcell⟩ := hw.cellsAt hp hc
        subst hp'
        have hul := hcr.length
        refine ⟨.agg ((us.drop i).take n).toArray, ?_, .agg (by simpa using (hcr.drop i).take n) .nil⟩
        have hl := run_loadCells_list (P := P) w ⟨B, O + i, none⟩ ((us.drop i).take n) (fun j u hu => by
          rw [addr_add, Nat.add_assoc]
          rw [List.getElem?_take] at hu
          split at hu
          · rw [List.getElem?_drop] at hu; exact hcell _ _ hu
          · cases hu)
        have hlen : ((us.drop i).take n).length = n := by rw [List.length_take, List.length_drop]; omega
        rw [hlen] at hl
        simp [asAddr, loadVar, run_isAgg_yes h1, hl]

theorem ress_ok {G : Nat → Option (List AV)} {M : Mem} {s : St} {w : World} {t : Tm} {a : Act} (hw : W G w0 M s w) (ht : TR M m t a) : ∀ (l : List LR) (xs : List ResultVar) (vs : List AV),
    resOk P m l xs = true → ress t s l = some vs →
    ∃ us, (xs.mapM (resSem a.tmps)).run P w = .ok us w ∧ CR M vs us
  | [], [], vs, _, h => by simp only [ress, Option.some.injEq] at h; subst h; exact ⟨[], by simp, .nil⟩
  | [], _ :: _, vs, h, _ => by simp [resOk] at h
  | .t i :: l, [], vs, h, _ => by simp [resOk] at h
  | .c i :: l, [], vs, h, _ => by simp [resOk] at h
  | .ca i n :: l, [], vs, h, _ => by simp [resOk] at h
  | r :: l, x :: xs, vs, h, hr => by
    simp only [ress] at hr
    cases h1 : resA t s r with
    | none => simp [h1] at hr
    | some v =>
      cases h2 : ress t s l with
      | none => simp [h1, h2] at hr
      | some vs' =>
        simp only [h1, h2, Option.some.injEq] at hr
        subst hr
        cases r <;> cases x <;> simp only [resOk, Bool.and_eq_true, Bool.false_eq_true] at h
        · rename_i i k
          obtain ⟨us, k1, k2⟩ := ress_ok hw ht l xs vs' h.2 h2
          have hk := optEq_eq h.1
          rw [nth_eq] at hk
          simp only [resA, Option.some.injEq] at h1
          subst h1
          have q1' : (resSem a.tmps (.tmp k)).run P w = .ok (a.eval (.tmp k)) w := rfl
          exact ⟨_, by rw [List.mapM_cons]; simp only [Sem.run_bind, q1', k1, Result.andThen_ok, Sem.run_pure], CR.cons (ht.cr i k hk) k2⟩
        · rename_i i k ty
          obtain ⟨us, k1, k2⟩ := ress_ok hw ht l xs vs' h.2.2 h2
          have hk := optEq_eq h.1
          rw [nth_eq] at hk
          simp only [resA] at h1
          obtain ⟨v', q1, q2⟩ := run_loadVar (P := P) (t := ty) hw (ht.cr i k hk) (.inl ⟨h.2.1, h1⟩)
          have q1' : (resSem a.tmps (.cell k ty)).run P w = .ok v' w := q1
          exact ⟨v' :: us, by rw [List.mapM_cons]; simp only [Sem.run_bind, q1', k1, Result.andThen_ok, Sem.run_pure], CR.cons q2 k2⟩
        · rename_i i n k ty
          obtain ⟨us, k1, k2⟩ := ress_ok hw ht l xs vs' h.2.2 h2
          have hk := optEq_eq h.1
          rw [nth_eq] at hk
          simp only [resA] at h1
          obtain ⟨v', q1, q2⟩ := run_loadVar (P := P) (t := ty) hw (ht.cr i k hk) (.inr ⟨n, optEq_eq h.2.1, h1⟩)
          have q1' : (resSem a.tmps (.cell k ty)).run P w = .ok v' w := q1
          exact ⟨v' :: us, by rw [List.mapM_cons]; simp only [Sem.run_bind, q1', k1, Result.andThen_ok, Sem.run_pure], CR.cons q2 k2⟩

theorem CR.reverse {M : Mem} {xs : List AV} {vs : List Value} (h : CR M xs vs) : CR M xs.reverse vs.reverse := by
  induction xs generalizing vs with
  | nil => cases h; exact .nil
  | cons x xs ih =>
    obtain ⟨v, us, rfl, h1, h2⟩ := h.uncons
    simp only [List.reverse_cons]
    exact (ih h2).append h1

theorem tells_ok {G : Nat → Option (List AV)} : ∀ (vs acc : List AV) (M : Mem) (s : St) (w : World) (us uacc : List Value) (v : AV) (s' : St), W G w0 M s w → CR M vs us → CR M acc uacc → tells vs acc s = .ok v s' →
    ∃ M', Ext M s M' s' ∧ W G w0 M' s' w ∧ CR M' [v] [.tuple (uacc.reverse ++ us).toArray]
  | [], acc, M, s, w, us, uacc, v, s', hw, hv, ha, h => by
    cases hv
    simp only [tells] at h
    cases h
    exact ⟨M, .refl M _, hw, .tup (by simpa using ha.reverse) .nil⟩
  | x :: vs, acc, M, s, w, us, uacc, v, s', hw, hv, ha, h => by
    obtain ⟨u, us', rfl, h1, h2⟩ := hv.uncons
    simp only [tells] at h
    split at h
    · rename_i y s1 hy
      obtain ⟨M1, e1, hw1, hc1⟩ := hw.tell h1 hy
      obtain ⟨M2, e2, hw2, hc2⟩ := tells_ok vs (y :: acc) M1 s1 w us' (u :: uacc) v s' hw1 (h2.mono e1.le) (CR.cons hc1 (ha.mono e1.le)) h
      exact ⟨M2, e1.trans e2, hw2, by simpa using hc2⟩
    · cases h

theorem resv_ok {G : Nat → Option (List AV)} {M : Mem} {s s' : St} {w : World} {t : Tm} {a : Act} {fn : Func} {l : List LR} {v : AV} (hw : W G w0 M s w) (ht : TR M m t a)
    (hr : resOk P m l fn.results.toList = true) (h : resv t s l = .ok v s') :
    ∃ v' M', (results fn a.tmps).run P w = .ok v' w ∧ Ext M s M' s' ∧ W G w0 M' s' w ∧ CR M' [v] [v'] := by
  unfold resv at h
  have run : ∀ us, (fn.results.toList.mapM (resSem a.tmps)).run P w = .ok us w →
      (results fn a.tmps).run P w = .ok (if h : us.length = 1 then us[0] else .tuple us.toArray) w := by
    intro us hu
    rw [results_eq, Array.mapM_eq_mapM_toList]
    simp [hu]
  split at h
  · cases h
  · rename_i v0 hv
    obtain ⟨us, k1, k2⟩ := ress_ok hw ht l _ _ hr hv
    have hl := k2.length
    cases us with
    | nil => simp at hl
    | cons u us =>
      cases us with
      | cons _ _ => simp at hl
      | nil =>
        obtain ⟨M', e, hw', hc⟩ := hw.tell k2 h
        exact ⟨u, M', by simpa using run _ k1, e, hw', hc⟩
  · rename_i vs hv hne
    obtain ⟨us, k1, k2⟩ := ress_ok hw ht l _ _ hr hne
    obtain ⟨M', e, hw', hc⟩ := tells_ok vs [] M s w us [] v s' hw k2 .nil h
    have hl := k2.length
    have hus : us.length ≠ 1 := by
      intro e1
      rw [e1] at hl
      cases vs with
      | nil => simp at hl
      | cons x xs => cases xs with
        | nil => exact hv x rfl
        | cons _ _ => simp at hl
    refine ⟨.tuple us.toArray, M', ?_, e, hw', by simpa using hc⟩
    have := run _ k1
    rw [dif_neg hus] at this
    exact this

/-- What is said of the known calls. -/
def ItOk (P : Program) (E : Env) (w0 : World) : Prop := ∀ f g, E.it f = some g → ∀ as s v s' M w args, g as s = .ok v s' → W E.gl w0 M s w → CR M as args.toList → Fin P E.gl w0 M s f args w v s'

def FnOk (P : Program) (E : Env) : Prop := ∀ f lf, E.fn f = some lf → okF P E.gl lf f = true

theorem calls_ok (hI : ItOk P E w0) (hF : FnOk P E) {k : Nat} (hE : ExecOk P E w0 k) : CallsOk P E.gl w0 (callA E (exec E k)) := by
  intro f as s v s' M w args h hw hx
  unfold callA at h
  split at h
  · rename_i g hg
    exact hI f g hg as s v s' M w args h hw hx
  · split at h
    · cases h
    · rename_i lf hlf
      have hok := hF f lf hlf
      unfold okF at hok
      cases hle : Nat.ble as.length lf.np with
      | false => simp [hle] at h
      | true =>
        simp only [hle, cond_true] at h
        have hle := Nat.le_of_ble_eq_true hle
        split at hok
        · cases hok
        · rename_i fn hfn
          split at hok
          · cases hok
          · rename_i c hc
            simp only [Bool.and_eq_true, Bool.not_eq_true'] at hok
            obtain ⟨n1, n2, n3, n4, n5, n6, n7⟩ := hok
            have n4 := Nat.eq_of_beq_eq_true n4
            have n5 := Nat.le_of_ble_eq_true n5
            have hlen : as.length = args.size := by rw [hx.length]; simp
            let a : Act := { tmps := args ++ Array.replicate (fn.ntmps - args.size) undef, defers := [] }
            have ht : TR M lf.m (as ++ List.replicate (lf.n - as.length) undefA) a := by
              refine ⟨by simp; omega, fun i q hi => ?_⟩
              have hp := parOk_eq n3 i q hi
              rw [Nat.zero_add] at hp
              rw [tget_eq]
              simp only [List.getD_eq_getElem?_getD]
              by_cases hia : i < as.length
              · rw [if_pos (by omega)] at hp
                subst hp
                rw [List.getElem?_append_left hia, List.getElem?_eq_getElem hia]
                obtain ⟨u, hu1, hu2⟩ := hx.get (List.getElem?_eq_getElem hia)
                have : a.eval (.tmp q) = u := by
                  simp only [a, Act.eval, Array.getD_eq_getD_getElem?]
                  rw [Array.getElem?_append_left (by omega)]
                  simp only [Array.getElem?_toList] at hu1
                  rw [hu1]; rfl
                rw [this]; exact hu2
              · have hq : as.length ≤ q := by split at hp <;> omega
                have e1 : (as ++ List.replicate (lf.n - as.length) undefA)[i]?.getD undefA = undefA := by
                  rw [List.getElem?_append_right (by omega), List.getElem?_replicate]
                  split <;> rfl
                have e2 : a.eval (.tmp q) = undef := by
                  simp only [a, Act.eval, Array.getD_eq_getD_getElem?]
                  rw [Array.getElem?_append_right (by omega), Array.getElem?_replicate]
                  split <;> rfl
                rw [e1, e2]
                exact cr_undef M
            have hn : fn.ntmps ≤ a.tmps.size := by simp only [a, Array.size_append, Array.size_replicate]; omega
            let R : Ending → World → Prop := fun
                | .returned v', w' => ∃ M', Ext M s M' s' ∧ W E.gl w0 M' s' w' ∧ CR M' [v] [v']
                | _, _ => False
            have hcalls : Calls P f args w R := by
              refine calls_of_wp hfn hc ?_
              have post : ∀ (e : Ex) (t1 : Tm) (s1 : St), (e = .nrm ∨ e = .ret) → exec E k lf.code (as ++ List.replicate (lf.n - as.length) undefA) s = .ok e t1 s1 → resv t1 s1 lf.res = .ok v s' →
                  c.wp P (bodyPost P fn R) a w := by
                intro e t1 s1 he hx1 hr1
                refine (hE lf.m fn.ntmps n2 lf.code _ s e t1 s1 hx1 M a w _ hw ht hn fun a1 M1 w1 k1 k2 k3 k4 k5 => ?_).code c n6
                obtain ⟨v', M2, q1, q2, q3, q4⟩ := resv_ok (fn := fn) k2 k3 n7 hr1
                rcases he with rfl | rfl
                · exact ⟨k5, v', q1, M2, k1.trans q2, q3, q4⟩
                · exact ⟨k5, v', q1, M2, k1.trans q2, q3, q4⟩
              split at h
              · rename_i t1 s1 hx1; exact post .nrm t1 s1 (.inl rfl) hx1 h
              · rename_i t1 s1 hx1; exact post .ret t1 s1 (.inr rfl) hx1 h
              · cases h
            intro o a0 K Q hk
            have hcf : (callFunc f args).run P w = .ok (.enter f args) w := by
              have n1' : ¬ fn.name = "runtime.NumGoroutine" := by simpa using n1
              simp [callFunc, hfn, hc, n1']
            rw [hcf]
            refine Calls.mono hcalls fun e w' he => ?_
            cases e with
            | returned v' => obtain ⟨M', q1, q2, q3⟩ := he; exact hk M' v' w' q1 q2 q3
            | panicked ch => exact he.elim
            | outgrown => exact he.elim

/-- The executor says what a run does. -/
theorem sound (hP : P.follows .mixedOrders = true) (hI : ItOk P E w0) (hF : FnOk P E) : ∀ k, ExecOk P E w0 k
  | 0 => fun m N hnd lc t s e t' s' h => by rw [exec_zero] at h; cases h
  | k + 1 => exec_ok hP (calls_ok hI hF (sound hP hI hF k)) (sound hP hI hF k)

theorem runF_ok (hP : P.follows .mixedOrders = true) (hI : ItOk P E w0) (hF : FnOk P E) (k : Nat) : CallsOk P E.gl w0 (runF E k) :=
  calls_ok hI hF (sound hP hI hF k)
end

end Go.Proofs.YtmoihglcdmmmlaaGreatDoor
