/-
  A region that draws its order: each order.
-/
import Derived.Test.YtmoihglcdmmmlaaGreatDoorAbD
set_option linter.unusedSimpArgs false
set_option linter.unusedVariables false
namespace Go.Proofs.YtmoihglcdmmmlaaGreatDoor
open Go Go.RowKit

/-- What the check says of an operation. -/
structure OpOk (P : Program) (G : Nat → Option (List AV)) (m : List Nat) (N : Nat) (ops : Array Oper) (l : List DO) (i : Nat) (o : DO) (op : Oper) : Prop where
  kind : kindOk P G m N ops l i o op = true
  d : ∀ x, o.o.d = some x → x < m.length
  pr : prOk l op.after.toList o.pr = true
  on : onOk i op.after.toList = true
  pair : ∀ k o', l[k]? = some o' → pairOk i o k o' = true

theorem okD_op {P : Program} {G : Nat → Option (List AV)} {m : List Nat} {N : Nat} {ops : Array Oper} {l : List DO} (h : okD P G m N ops l = true) :
    l.length = ops.size ∧ ∀ i o, l[i]? = some o → ∃ op, ops[i]? = some op ∧ OpOk P G m N ops l i o op := by
  simp only [okD, Bool.and_eq_true] at h
  refine ⟨Nat.eq_of_beq_eq_true h.1, fun i o hi => ?_⟩
  have := allIx_eq h.2 i o hi
  simp only [Nat.zero_add, nth_eq] at this
  cases hop : ops.toList[i]? with
  | none => simp [hop] at this
  | some op =>
    simp only [hop, Bool.and_eq_true] at this
    obtain ⟨h1, h2, h3, h4, h5⟩ := this
    refine ⟨op, by simpa using hop, h1, fun x hx => ?_, h3, h4, fun k o' hk => ?_⟩
    · simp only [dOk, hx] at h2
      simpa [Nat.blt_eq] using h2
    · have := allIx_eq h5 k o' hk
      rwa [Nat.zero_add] at this

theorem prOk_eq {l : List DO} {es : List Edge} : ∀ {ps : List Nat}, prOk l es ps = true → ∀ j ∈ ps, ∃ e ∈ es, Region.binds .any e = true ∧ (e.on = j ∨ ∃ o, l[e.on]? = some o ∧ j ∈ o.pr)
  | [], _, j, hj => by simp at hj
  | p :: ps, h, j, hj => by
    simp only [prOk, Bool.and_eq_true, List.any_eq_true, Bool.or_eq_true] at h
    rcases List.mem_cons.1 hj with rfl | hj
    · obtain ⟨e, he, h1, h2⟩ := h.1
      refine ⟨e, he, h1, ?_⟩
      rcases h2 with h2 | h2
      · exact .inl (Nat.eq_of_beq_eq_true h2)
      · rw [nth_eq] at h2
        cases ho : l[e.on]? with
        | none => simp [ho] at h2
        | some o => simp only [ho] at h2; exact .inr ⟨o, rfl, memN_eq.1 h2⟩
    · exact prOk_eq h.2 j hj

theorem onOk_eq {i : Nat} : ∀ {es : List Edge}, onOk i es = true → ∀ e ∈ es, Region.binds .any e = true → e.on < i
  | [], _, e, he, _ => by simp at he
  | x :: xs, h, e, he, hb => by
    simp only [onOk, Bool.and_eq_true, Bool.or_eq_true, Bool.not_eq_true'] at h
    rcases List.mem_cons.1 he with rfl | he
    · rcases h.1 with h1 | h1
      · rw [h1] at hb; cases hb
      · simpa [Nat.blt_eq] using h1
    · exact onOk_eq h.2 e he hb

theorem drawNew_ok {G : Nat → Option (List AV)} {w0 : World} {M : Mem} {w : World} : ∀ (l : List DO) (s : St), (∀ o ∈ l, o.k = .a → ∃ d z e, o.o.x = .a d z e) → W G w0 M s w →
    W G w0 M (drawNew l s) w ∧ s.nx ≤ (drawNew l s).nx ∧ (∀ b, b < s.nx → (drawNew l s).hp.get b = s.hp.get b) ∧
    (∀ b, b < s.nx → (drawNew l s).ty.get b = s.ty.get b) ∧ ∀ i o d z e, l[i]? = some o → o.k = .a → o.o.x = .a d z e → (drawNew l s).hp.get (s.nx + nwAt l i) = some z ∧ s.nx + nwAt l i < (drawNew l s).nx ∧ (drawNew l s).ty.get (s.nx + nwAt l i) = some e
  | [], s, _, hw => ⟨hw, Nat.le_refl _, fun _ _ => rfl, fun _ _ => rfl, fun i o d z e hi => by simp at hi⟩
  | o :: os, s, hx, hw => by
    have hx' : ∀ o ∈ os, o.k = .a → ∃ d z e, o.o.x = .a d z e := fun o ho => hx o (List.mem_cons_of_mem _ ho)
    by_cases hk : o.k = .a
    · obtain ⟨d, z, e, hz⟩ := hx o (by simp) hk
      have hA : o.isA = true := by simp [DO.isA, hk]
      have hd : drawNew (o :: os) s = drawNew os { s with hp := s.hp.set s.nx z, nx := s.nx + 1, ty := s.ty.set s.nx e } := by simp only [drawNew, hk, hz]
      obtain ⟨h1, h2, h3, h5, h4⟩ := drawNew_ok os { s with hp := s.hp.set s.nx z, nx := s.nx + 1, ty := s.ty.set s.nx e } hx' (hw.put z e)
      rw [hd]
      simp only at h2 h3 h4 h5
      refine ⟨h1, by omega, fun b hb => ?_, fun b hb => ?_, fun i o' d' z' e' hi hk' hz' => ?_⟩
      · rw [h3 b (by omega), Tr.get_set, if_neg (by omega)]
      · rw [h5 b (by omega), Tr.get_set, if_neg (by omega)]
      · cases i with
        | zero =>
          simp at hi; subst hi
          rw [hz] at hz'; cases hz'
          simp only [nwAt, Nat.add_zero]
          exact ⟨by rw [h3 _ (by omega), Tr.get_set, if_pos rfl], by omega, by rw [h5 _ (by omega), Tr.get_set, if_pos rfl]⟩
        | succ i =>
          simp at hi
          have := h4 i o' d' z' e' hi hk' hz'
          simp only [nwAt, hA, cond_true]
          rw [show s.nx + (nwAt os i + 1) = s.nx + 1 + nwAt os i by omega]
          exact this
    · have hA : o.isA = false := by
        unfold DO.isA
        cases hkk : o.k <;> first | rfl | exact absurd hkk hk
      have hd : drawNew (o :: os) s = drawNew os s := by
        simp only [drawNew]
        split
        · rename_i h _; exact absurd h hk
        · rfl
      obtain ⟨h1, h2, h3, h5, h4⟩ := drawNew_ok os s hx' hw
      rw [hd]
      refine ⟨h1, h2, h3, h5, fun i o' d' z' e' hi hk' hz' => ?_⟩
      cases i with
      | zero => simp at hi; subst hi; exact absurd hk' hk
      | succ i =>
        simp at hi
        have := h4 i o' d' z' e' hi hk' hz'
        simp only [nwAt, hA, cond_false, Nat.add_zero]
        exact this

theorem wpOp_of_list {P : Program} {ops : Array Oper} {Q : Exit → Act → World → Prop} {K : Act → World → Prop} {i : Nat} {op : Oper} {a : Act} {w : World} (hi : ops[i]? = some op)
    (h : wpList P ops (Exit.then K Q) [op] a w) : wpOp P ops Q i K a w := by
  unfold wpOp
  simp only [hi]
  unfold wpList at h
  split
  · rename_i hw
    rw [if_pos hw] at h
    rcases h with h | h
    · left
      unfold Oper.wp at *
      generalize (execOp a.eval op).run P w = r at *
      cases r with
      | ok n w' =>
        cases n <;> simp only [Oper.upon] at h ⊢ <;> first
          | exact h
          | exact Calls.mono h (fun e w'' he => by cases e <;> exact he)
          | exact Rows.mono h (fun _ _ he => he)
      | halt x w' => cases x <;> simp only [Oper.upon] at h ⊢ <;> exact h
    · exact .inr h
  · rename_i hw
    rw [if_neg hw] at h
    exact h

section
variable {P : Program} {E : Env} {ih : LC → Tm → St → R} {w0 : World} {m : List Nat} {N : Nat} {ops : Array Oper} {l : List DO} {V : Nat → AV} {S : Nat → St} {t : Tm} {M0 : Mem} {s0 : St} {a0 : Act} {fin : List St}

def mains (l : List DO) (L : Nat → Bool) : Nat := cnt (fun k => isMn l k && L k) l.length

/-- In the middle of a region: these have been done. -/
structure Inv (E : Env) (w0 : World) (m : List Nat) (l : List DO) (V : Nat → AV) (S : Nat → St) (t : Tm) (M0 : Mem) (s0 : St) (a0 : Act) (L : Nat → Bool) (a : Act) (w : World) (M : Mem) : Prop where
  w : W E.gl w0 M (S (mains l L)) w
  ext : Ext M0 s0 M (S (mains l L))
  tr : ∀ (x q : Nat), m[x]? = some q → CR M [lastV l V t L x l.length] [a.eval (.tmp q)]
  size : a.tmps.size = a0.tmps.size
  defers : a.defers = a0.defers
  new : ∀ (i : Nat) (o : DO) (d : Option Nat) (z : List AV) (e : Nat), l[i]? = some o → o.k = .a → o.o.x = .a d z e → L i = false → M.φ (s0.nx + nwAt l i) = none ∧ (S (mains l L)).hp.get (s0.nx + nwAt l i) = some z ∧ s0.nx + nwAt l i < (S (mains l L)).nx ∧ (S (mains l L)).ty.get (s0.nx + nwAt l i) = some e
  cl : ∀ (i : Nat) (o : DO) (j : Nat), l[i]? = some o → L i = true → j ∈ o.pr → L j = true

noncomputable def tL (m : List Nat) (l : List DO) (V : Nat → AV) (t : Tm) (L : Nat → Bool) : Tm := (List.range m.length).map fun x => lastV l V t L x l.length

theorem tget_tL {L : Nat → Bool} {x : Nat} : tget (tL m l V t L) x = if x < m.length then lastV l V t L x l.length else undefA := by
  rw [tget_eq]
  unfold tL
  simp only [List.getD_eq_getElem?_getD, List.getElem?_map]
  by_cases h : x < m.length
  · rw [List.getElem?_range h, if_pos h]; rfl
  · rw [List.getElem?_eq_none (by simpa using Nat.le_of_not_lt h), if_neg h]; rfl

def addL (L : Nat → Bool) (i : Nat) : Nat → Bool := fun k => Nat.beq k i || L k

theorem addL_self (L : Nat → Bool) (i : Nat) : addL L i i = true := by simp [addL]
theorem addL_ne {L : Nat → Bool} {i k : Nat} (h : k ≠ i) : addL L i k = L k := by
  have : Nat.beq k i = false := by rw [← Bool.not_eq_true]; intro e; exact h (Nat.eq_of_beq_eq_true e)
  simp [addL, this]

theorem inv_step (hC : CallsOk P E.gl w0 (callA E ih)) (hnd : nodupN m = true) (hok : okD P E.gl m N ops l = true) (htr : TrOk E ih l s0.nx t V S fin) (hlen : m.length = t.length) (hN : N ≤ a0.tmps.size)
    (hfin : ∀ q, q ≤ cmAt l l.length → fin[q]? = some (S q))
    {L : Nat → Bool} {a : Act} {w : World} {M : Mem} (hI : Inv E w0 m l V S t M0 s0 a0 L a w M) {i : Nat} {o : DO} (hi : l[i]? = some o) (hLi : L i = false) (hpr : ∀ j ∈ o.pr, L j = true)
    {Q : Exit → Act → World → Prop} {K : Act → World → Prop} (hK : ∀ a' w' M', Inv E w0 m l V S t M0 s0 a0 (addL L i) a' w' M' → K a' w') : wpOp P ops Q i K a w := by
  obtain ⟨hl, hops⟩ := okD_op hok
  obtain ⟨op, hop, hO⟩ := hops i o hi
  have hin : i < l.length := (List.getElem?_eq_some_iff.1 hi).1
  -- what may not pass it
  have ord : ∀ (k : Nat) (o' : DO), l[k]? = some o' → (clash o o' || (o.isM && o'.isM)) = true → (k < i → L k = true) ∧ (i < k → L k = false) := by
    intro k o' hk hc
    have hp := hO.pair k o' hk
    unfold pairOk at hp
    constructor
    · intro hlt
      have h1 : Nat.beq i k = false := by rw [← Bool.not_eq_true]; intro e; have := Nat.eq_of_beq_eq_true e; omega
      have h2 : Nat.blt k i = true := by rw [Nat.blt_eq]; exact hlt
      rw [h1, cond_false, hc, cond_true, h2, cond_true] at hp
      exact hpr k (memN_eq.1 hp)
    · intro hlt
      have h1 : Nat.beq i k = false := by rw [← Bool.not_eq_true]; intro e; have := Nat.eq_of_beq_eq_true e; omega
      have h2 : Nat.blt k i = false := by rw [← Bool.not_eq_true, Nat.blt_eq]; omega
      rw [h1, cond_false, hc, cond_true, h2, cond_false] at hp
      rw [← Bool.not_eq_true]
      intro hLk
      have := hI.cl k o' i hk hLk (memN_eq.1 hp)
      rw [hLi] at this; cases this
  have hcl : ∀ {o' : DO} {x : Nat}, o'.o.d = some x → x ∈ o.rd → clash o o' = true := by
    intro o' x hd hx
    simp only [clash, hd, memN_eq.2 hx, Bool.true_or]
  -- the frame, as a list
  have hT : TR M m (tL m l V t L) a := by
    refine ⟨by simp [tL], fun x q hq => ?_⟩
    rw [tget_tL, if_pos (List.getElem?_eq_some_iff.1 hq).1]
    exact hI.tr x q hq
  have hd : ∀ (j : Nat) (o : DO) (y : Nat), l[j]? = some o → o.o.d = some y → y < t.length := by
    intro j o' y hj hy
    obtain ⟨op', _, hO'⟩ := hops j o' hj
    rw [← hlen]; exact hO'.d y hy
  have hread : ∀ x ∈ o.rd, tget (tL m l V t L) x = tget (Tat l V t i) x := by
    intro x hx
    rw [tget_tL]
    by_cases hlt : x < m.length
    · rw [if_pos hlt, lastV_tail (i := i) (Nat.le_of_lt hin) fun j o' h1 h2 hj hdj => ?_, lastV_congr (L' := fun _ => true) fun j o' h1 hj hdj => ?_, lastV_all hd (Nat.le_of_lt hin)]
      · exact (ord j o' hj (by rw [hcl hdj hx, Bool.true_or])).1 h1
      · rcases Nat.lt_or_eq_of_le h1 with h1 | h1
        · exact (ord j o' hj (by rw [hcl hdj hx, Bool.true_or])).2 h1
        · subst h1; exact hLi
    · rw [if_neg hlt, tget_eq, List.getD_eq_getElem?_getD, List.getElem?_eq_none (by rw [Tat_length, ← hlen]; omega)]; rfl
  have hrdx : ∀ x ∈ rdX o.o.x, x ∈ o.rd := by
    intro x hx
    unfold DO.rd
    split
    · exact hx
    · exact List.mem_cons_of_mem _ hx
  have hev : evX E ih (tL m l V t L) o.o.x = evX E ih (Tat l V t i) o.o.x := evX_congr _ fun x hx => hread x (hrdx x hx)
  have hwa : wantedA (tL m l V t L) o.o.g = wantedA (Tat l V t i) o.o.g := by
    cases hg : o.o.g with
    | none => rfl
    | some p =>
      obtain ⟨x, b⟩ := p
      simp only [wantedA]
      rw [hread x (by simp [DO.rd, hg])]
  -- after it
  have hlast : ∀ x, lastV l V t (addL L i) x l.length = if o.o.d = some x then V i else lastV l V t L x l.length := by
    intro x
    by_cases hx : o.o.d = some x
    · rw [if_pos hx, lastV_tail (i := i + 1) (by omega) fun j o' h1 h2 hj hdj => ?_]
      · simp only [lastV, hi, addL_self, optEq_true.2 hx, Bool.and_self, cond_true]
      · rw [addL_ne (by omega)]
        exact (ord j o' hj (by simp [clash, hdj, optEq_true.2 hx])).2 (by omega)
    · rw [if_neg hx]
      exact lastV_congr fun j o' h1 hj hdj => addL_ne (by rintro rfl; rw [hi] at hj; cases hj; exact hx hdj)
  have htr' : ∀ (M' : Mem) (a' : Act), TR M' m (putA (tL m l V t L) o.o.d (V i)) a' → ∀ (x q : Nat), m[x]? = some q → CR M' [lastV l V t (addL L i) x l.length] [a'.eval (.tmp q)] := by
    intro M' a' h x q hq
    have hx := (List.getElem?_eq_some_iff.1 hq).1
    have := h.cr x q hq
    rw [tget_putA _ _ _ _ fun y hy => by simp only [tL, List.length_map, List.length_range]; exact hO.d y hy, tget_tL, if_pos hx] at this
    rw [hlast x]; exact this
  have hcl' : ∀ (k : Nat) (o' : DO) (j : Nat), l[k]? = some o' → addL L i k = true → j ∈ o'.pr → addL L i j = true := by
    intro k o' j hk hLk hj
    have up : L j = true → addL L i j = true := fun h => by simp [addL, h]
    by_cases hki : k = i
    · subst hki; rw [hi] at hk; cases hk; exact up (hpr j hj)
    · rw [addL_ne hki] at hLk; exact up (hI.cl k o' j hk hLk hj)
  have hmains : mains l (addL L i) = mains l L + (bif o.isM then 1 else 0) := by
    unfold mains
    cases hM : o.isM with
    | true =>
      exact cnt_set hin (by simp [hLi]) (by simp [addL_self, isMn, hi, hM]) fun k hk hne => by rw [addL_ne hne]
    | false =>
      rw [cond_false, Nat.add_zero]
      refine cnt_congr fun k hk => ?_
      by_cases hki : k = i
      · subst hki; simp [isMn, hi, hM]
      · rw [addL_ne hki]
  have hmain : o.isM = true → mains l L = cmAt l i := by
    intro hM
    unfold mains
    rw [cmAt_eq, cnt_tail (i := i) (Nat.le_of_lt hin) fun k h1 h2 => ?_]
    · refine cnt_congr fun k hk => ?_
      cases hk' : isMn l k with
      | false => rfl
      | true =>
        unfold isMn at hk'
        cases ho' : l[k]? with
        | none => simp [ho'] at hk'
        | some o' =>
          simp only [ho'] at hk'
          simp [(ord k o' ho' (by simp [hM, hk'])).1 hk]
    · rcases Nat.lt_or_eq_of_le h1 with h1 | h1
      · cases hk' : isMn l k with
        | false => rfl
        | true =>
          unfold isMn at hk'
          cases ho' : l[k]? with
          | none => simp [ho'] at hk'
          | some o' =>
            simp only [ho'] at hk'
            simp [(ord k o' ho' (by simp [hM, hk'])).2 h1]
      · subst h1; simp [hLi]
  -- an operation that is no new box
  have go : okS P E.gl m N ops [o.o] [op] = true → opsA E ih [o.o] (tL m l V t L) (S (mains l L)) = .ok .nrm (putA (tL m l V t L) o.o.d (V i)) (S (mains l (addL L i))) → o.k ≠ .a → wpOp P ops Q i K a w := by
    intro hs hrun hka
    refine wpOp_of_list hop (opsA_ok hC hnd [o.o] [op] _ _ _ _ _ M w a _ hs hrun hI.w hT (by rw [hI.size]; exact hN) ?_).2
    intro a' M' w' k1 k2 k3 k4 k5
    refine hK a' w' M' ⟨k2, hI.ext.trans k1, htr' M' a' k3, k4.trans hI.size, k5.trans hI.defers, ?_, hcl'⟩
    intro j o' d z e hj hk hz hLj
    have hji : j ≠ i := by rintro rfl; rw [addL_self] at hLj; cases hLj
    rw [addL_ne hji] at hLj
    obtain ⟨n1, n2, n3, n4⟩ := hI.new j o' d z e hj hk hz hLj
    obtain ⟨u1, u2⟩ := k1.un _ n3 n1
    exact ⟨u1, u2.trans n2, Nat.lt_of_lt_of_le n3 k1.nx, (k1.ty _ n3).trans n4⟩
  have stm : ∀ (s1 : St), ((wantedA (Tat l V t i) o.o.g = true ∧ evX E ih (Tat l V t i) o.o.x (S (mains l L)) = .ok (V i) s1) ∨ (wantedA (Tat l V t i) o.o.g = false ∧ V i = undefA ∧ s1 = S (mains l L))) →
      opsA E ih [o.o] (tL m l V t L) (S (mains l L)) = .ok .nrm (putA (tL m l V t L) o.o.d (V i)) s1 := by
    intro s1 h
    rw [opsA_cons]
    unfold stmA
    rcases h with ⟨h1, h2⟩ | ⟨h1, h2, h3⟩
    · rw [hwa, h1, cond_true, hev, h2]; rfl
    · rw [hwa, h1, cond_false, h2, h3]; rfl
  have hkind := hO.kind
  unfold kindOk at hkind
  cases hk : o.k with
  | p =>
    simp only [hk, Bool.and_eq_true] at hkind
    have hM : o.isM = false := by simp [DO.isM, hk]
    refine go hkind.1 (stm _ ?_) (by rw [hk]; simp)
    rw [hmains, hM, cond_false, Nat.add_zero]
    rcases htr.fp i o hi hk with ⟨h1, s2, h2⟩ | ⟨h1, h2⟩
    · exact .inl ⟨h1, evX_any _ _ hkind.2 _ _ _ h2 _⟩
    · exact .inr ⟨h1, h2, rfl⟩
  | l lo hi' =>
    simp only [hk, Bool.and_eq_true] at hkind
    obtain ⟨c1, c2, c3, c4, c5, c6⟩ := hkind
    have c5 := Nat.le_of_ble_eq_true c5
    have c6 := Nat.le_of_ble_eq_true c6
    have hM : o.isM = false := by simp [DO.isM, hk]
    refine go c1 (stm _ ?_) (by rw [hk]; simp)
    rw [hmains, hM, cond_false, Nat.add_zero]
    -- how many main ones have been done
    have hlo : lo ≤ mains l L := by
      unfold loOk at c3
      simp only [Bool.or_eq_true, List.any_eq_true] at c3
      rcases c3 with c3 | ⟨k, hk1, hk2⟩
      · have := Nat.eq_of_beq_eq_true c3; omega
      · rw [nth_eq] at hk2
        cases ho' : l[k]? with
        | none => simp [ho'] at hk2
        | some o' =>
          simp only [ho', Bool.and_eq_true] at hk2
          have e1 := Nat.eq_of_beq_eq_true hk2.2
          have hLk := hpr k hk1
          have hkn : k < l.length := (List.getElem?_eq_some_iff.1 ho').1
          unfold mains
          have h1 := cnt_mono (f := fun k => isMn l k && L k) (i := k + 1) (n := l.length) (by omega)
          have h2 : cnt (fun k => isMn l k && L k) (k + 1) = cnt (isMn l) (k + 1) := by
            refine cnt_congr fun j hj => ?_
            cases hj' : isMn l j with
            | false => rfl
            | true =>
              rcases Nat.lt_or_eq_of_le (Nat.le_of_lt_succ hj) with hlt | heq
              · unfold isMn at hj'
                cases hoj : l[j]? with
                | none => simp [hoj] at hj'
                | some oj =>
                  simp only [hoj] at hj'
                  obtain ⟨opk, _, hOk⟩ := hops k o' ho'
                  have hp := hOk.pair j oj hoj
                  unfold pairOk at hp
                  have q1 : Nat.beq k j = false := by rw [← Bool.not_eq_true]; intro e; have := Nat.eq_of_beq_eq_true e; omega
                  have q2 : Nat.blt j k = true := by rw [Nat.blt_eq]; exact hlt
                  rw [q1, cond_false, hk2.1, hj', Bool.and_self, Bool.or_true, cond_true, q2, cond_true] at hp
                  simp [hI.cl k o' j ho' hLk (memN_eq.1 hp)]
              · subst heq; simp [hLk]
          have h3 : cnt (isMn l) (k + 1) = cmAt l k + 1 := by
            rw [cmAt_eq]; simp [cnt, isMn, ho', hk2.1]
          omega
    have hle : mains l L ≤ cmAt l l.length := by
      unfold mains
      rw [cmAt_eq]
      exact cnt_le fun k hk h => by simp only [Bool.and_eq_true] at h; exact h.1
    have hhi : mains l L ≤ hi' := by
      unfold hiOk at c4
      simp only [Bool.or_eq_true, Bool.not_eq_true'] at c4
      rcases c4 with c4 | c4
      · have := Nat.eq_of_beq_eq_true c4; omega
      · have hex : ∃ k o', l[k]? = some o' ∧ o'.isM = true ∧ cmAt l k = hi' ∧ i ∈ o'.pr := by
          have key : ∀ (xs : List DO) (j : Nat) (f : Nat → DO → Bool), allIx f xs j = false → ∃ k o', xs[k]? = some o' ∧ f (j + k) o' = false := by
            intro xs
            induction xs with
            | nil => intro j f h; simp [allIx] at h
            | cons y ys ihy =>
              intro j f h
              simp only [allIx, Bool.and_eq_false_iff] at h
              rcases h with h | h
              · exact ⟨0, y, rfl, h⟩
              · obtain ⟨k, o', h1, h2⟩ := ihy (j + 1) f h
                exact ⟨k + 1, o', h1, by rwa [show j + (k + 1) = j + 1 + k by omega]⟩
          obtain ⟨k, o', h1, h2⟩ := key l 0 _ c4
          simp only [Nat.zero_add, Bool.not_eq_false', Bool.and_eq_true] at h2
          exact ⟨k, o', h1, h2.1, Nat.eq_of_beq_eq_true h2.2.1, memN_eq.1 h2.2.2⟩
        obtain ⟨k, o', h1, h2, h3, h4⟩ := hex
        have hLk : L k = false := by
          rw [← Bool.not_eq_true]; intro hLk
          have := hI.cl k o' i h1 hLk h4
          rw [hLi] at this; cases this
        have hkn : k < l.length := (List.getElem?_eq_some_iff.1 h1).1
        unfold mains
        rw [cnt_tail (i := k) (Nat.le_of_lt hkn) fun j q1 q2 => ?_]
        · rw [← h3, cmAt_eq]
          exact cnt_le fun j hj h => by simp only [Bool.and_eq_true] at h; exact h.1
        · rcases Nat.lt_or_eq_of_le q1 with hlt | heq
          · cases hj' : isMn l j with
            | false => rfl
            | true =>
              unfold isMn at hj'
              cases hoj : l[j]? with
              | none => simp [hoj] at hj'
              | some oj =>
                simp only [hoj] at hj'
                obtain ⟨opk, _, hOk⟩ := hops k o' h1
                have hp := hOk.pair j oj hoj
                unfold pairOk at hp
                have r1 : Nat.beq k j = false := by rw [← Bool.not_eq_true]; intro e; have := Nat.eq_of_beq_eq_true e; omega
                have r2 : Nat.blt j k = false := by rw [← Bool.not_eq_true, Nat.blt_eq]; omega
                rw [r1, cond_false, h2, hj', Bool.and_self, Bool.or_true, cond_true, r2, cond_false] at hp
                have : L j = false := by
                  rw [← Bool.not_eq_true]; intro hLj
                  have := hI.cl j oj k hoj hLj (memN_eq.1 hp)
                  rw [hLk] at this; cases this
                simp [this]
          · subst heq; simp [hLk]
    rcases htr.fl i o lo hi' hi hk with ⟨h1, ⟨s2, h2⟩, h3⟩ | ⟨h1, h2⟩
    · refine .inl ⟨h1, ?_⟩
      rcases h3 with h3 | h3
      · have : mains l L = cmAt l i := by omega
        rw [this]
        have := evX_keep _ _ c2 _ _ _ h2
        rw [this] at h2; exact h2
      · obtain ⟨s3, h4⟩ := h3 (mains l L) _ (hfin _ hle) hlo hhi
        have := evX_keep _ _ c2 _ _ _ h4
        rw [this] at h4; exact h4
    · exact .inr ⟨h1, h2, rfl⟩
  | m =>
    simp only [hk] at hkind
    have hM : o.isM = true := by simp [DO.isM, hk]
    refine go hkind (stm _ ?_) (by rw [hk]; simp)
    rw [hmains, hM, cond_true, hmain hM]
    exact htr.fm i o hi hk
  | a =>
    simp only [hk] at hkind
    have hM : o.isM = false := by simp [DO.isM, hk]
    split at hkind
    · rename_i d z e0 hz
      simp only [Bool.and_eq_true] at hkind
      obtain ⟨hg, hkind⟩ := hkind
      split at hkind
      · rename_i r ws hx
        rw [hz] at hx
        simp only [okX, okA] at hx
        obtain ⟨hc, he⟩ := cond_some hx
        simp only [Prod.mk.injEq, List.cons.injEq, and_true] at he
        obtain ⟨rfl, rfl⟩ := he
        simp only [Bool.and_eq_true] at hc
        obtain ⟨o1, o2, o3, o4⟩ := okOp_dst hc.2
        obtain ⟨n1, n2, n3, n4⟩ := hI.new i o d z e0 hi hk hz hLi
        have hV := htr.fa i o hi hk
        generalize hb : s0.nx + nwAt l i = b at *
        refine wpOp_of_list hop ?_
        unfold wpList
        rw [if_pos (wanted_yes (a := a) (ops := ops) o2 (fun j w d h => by cases h))]
        left
        unfold alcOk at hc
        split at hc
        · rename_i e heq
          simp only [Bool.and_eq_true] at hc
          obtain ⟨⟨he0, hc1⟩, hc2⟩ := hc
          have := Nat.eq_of_beq_eq_true he0
          subst this
          have hc := And.intro hc1 hc2
          clear hc1 hc2
          cases hie : P.info? e with
          | none => simp [hie] at hc
          | some ie =>
            cases hze : ie.zero with
            | none => simp [hie, hze] at hc
            | some zv =>
              simp only [hie, hze] at hc
              unfold Oper.wp
              have hrun : (execOp a.eval op).run P w = .ok (.value (.pointer (some ⟨w.heap.size, 0, none⟩))) (w.alloc (.cells zv.cells e)) := by
                simp [execOp, heq, Instr.alloc, zeroValue, typeInfo, hie, hze, newVar, newRow]
              rw [hrun]
              have hf := hI.w.fresh (Nat.le_refl w.heap.size)
              have hr := (hI.w.alloc (.cells zv.cells e)).realize (b := b) (B := w.heap.size) (cs := z) (vs := zv.cells) (e := e) n3 n1 hI.w.below.size hf n2 (by rw [heap_alloc, if_pos rfl])
                (cOks_cr M _ z _ (Nat.le_refl _) hc.1) (fun T hT => by rw [n4] at hT; cases hT; rfl)
              refine hK _ _ (M.box b w.heap.size) ⟨?_, ?_, htr' _ _ ?_, ?_, ?_, ?_, hcl'⟩
              · rw [hmains, hM, cond_false, Nat.add_zero]; exact hr.1
              · rw [hmains, hM, cond_false, Nat.add_zero]
                refine ⟨hI.ext.le.trans hr.2, hI.ext.nx, fun b' hb' hn' => ?_, hI.ext.ty⟩
                obtain ⟨u1, u2⟩ := hI.ext.un b' hb' hn'
                exact ⟨by simp only [Mem.box]; rw [if_neg (by omega)]; exact u1, u2⟩
              · refine TR.root hnd hT hr.2 (by rw [o1]; exact Same.put d _) hkind fun q hq => ?_
                rw [hV]
                cases d with
                | none => simp [dOf] at hq
                | some d =>
                  simp only [dOf, RO.s.injEq] at hq
                  subst hq
                  rw [o1, eval_put (by rw [hI.size]; exact Nat.lt_of_lt_of_le (o4 d rfl) hN)]
                  exact .ptr (by simp [Mem.box]) .nil
              · cases hd' : op.dst <;> simp [Act.put, hI.size]
              · cases hd' : op.dst <;> simp [Act.put, hI.defers]
              · intro j o' d' z' e' hj hk' hz' hLj
                have hji : j ≠ i := by rintro rfl; rw [addL_self] at hLj; cases hLj
                rw [addL_ne hji] at hLj
                rw [hmains, hM, cond_false, Nat.add_zero]
                obtain ⟨m1, m2, m3, m4⟩ := hI.new j o' d' z' e' hj hk' hz' hLj
                have hne : s0.nx + nwAt l j ≠ b := by
                  rw [← hb]
                  have hjn : j < l.length := (List.getElem?_eq_some_iff.1 hj).1
                  have hAi : isAn l i = true := by simp [isAn, hi, DO.isA, hk]
                  have hAj : isAn l j = true := by simp [isAn, hj, DO.isA, hk']
                  rw [nwAt_eq, nwAt_eq]
                  rcases Nat.lt_or_gt_of_ne hji with hlt | hgt
                  · have := cnt_mono (f := isAn l) (i := j + 1) (n := i) (by omega)
                    simp only [cnt, hAj, cond_true] at this; omega
                  · have := cnt_mono (f := isAn l) (i := i + 1) (n := j) (by omega)
                    simp only [cnt, hAi, cond_true] at this; omega
                exact ⟨by simp only [Mem.box]; rw [if_neg hne]; exact m1, m2, m3, m4⟩
        · simp at hc
      · cases hkind
    · cases hkind

theorem getD_set {listed : Array Bool} {i : Nat} (h : i < listed.size) : (fun k => (listed.setIfInBounds i true).getD k false) = addL (fun k => listed.getD k false) i := by
  funext k
  by_cases hk : k = i
  · subst hk
    rw [addL_self]
    simp [Array.getD_eq_getD_getElem?, Array.getElem?_setIfInBounds_self, h]
  · rw [addL_ne hk]
    simp [Array.getD_eq_getD_getElem?, Array.getElem?_setIfInBounds_ne (Ne.symm hk)]

theorem any_ok (hC : CallsOk P E.gl w0 (callA E ih)) (hnd : nodupN m = true) (hok : okD P E.gl m N ops l = true) (htr : TrOk E ih l s0.nx t V S fin) (hlen : m.length = t.length) (hN : N ≤ a0.tmps.size)
    (hfin : ∀ q, q ≤ cmAt l l.length → fin[q]? = some (S q)) {Q : Exit → Act → World → Prop} (hQ : ∀ L a w M, (∀ k, k < l.length → L k = true) → Inv E w0 m l V S t M0 s0 a0 L a w M → Q .normal a w) :
    ∀ (fuel : Nat) (listed : Array Bool) (a : Act) (w : World) (M : Mem), listed.size = l.length → cnt (fun k => !(listed.getD k false)) l.length = fuel → Inv E w0 m l V S t M0 s0 a0 (fun k => listed.getD k false) a w M →
    wpAny P .any ops Q fuel listed a w := by
  obtain ⟨hl, hops⟩ := okD_op hok
  have hmem : ∀ (listed : Array Bool) (i : Nat), listed.size = l.length → (i ∈ Region.ready .any ops listed ↔ i < l.length ∧ listed.getD i false = false ∧ ∀ op, ops[i]? = some op → ∀ e ∈ op.after.toList, Region.binds .any e = true → listed.getD e.on false = true) := by
    intro listed i hs
    unfold Region.ready
    simp only [List.mem_filter, List.mem_range, Bool.and_eq_true, Bool.not_eq_true']
    constructor
    · rintro ⟨h1, h2, h3⟩
      have hil : i < listed.size := by omega
      refine ⟨by omega, ?_, fun op ho e he hb => ?_⟩
      · simp only [Array.getD_eq_getD_getElem?, Array.getElem?_eq_getElem hil, Option.getD_some] at h2 ⊢; exact h2
      · simp only [ho, Option.map_some, Option.getD_some] at h3
        have := Array.all_eq_true'.1 h3 e (by simpa using he)
        rw [hb] at this
        simpa using this
    · rintro ⟨h1, h2, h3⟩
      have hil : i < listed.size := by omega
      have hio : i < ops.size := by omega
      refine ⟨by omega, ?_, ?_⟩
      · simp only [Array.getD_eq_getD_getElem?, Array.getElem?_eq_getElem hil, Option.getD_some] at h2 ⊢; exact h2
      · rw [Array.getElem?_eq_getElem hio]
        simp only [Option.map_some, Option.getD_some]
        refine Array.all_eq_true'.2 fun e he => ?_
        cases hb : Region.binds .any e with
        | false => rfl
        | true => simp only [Bool.not_true, Bool.false_or]; exact h3 _ (Array.getElem?_eq_getElem hio) e (by simpa using he) hb
  intro fuel
  induction fuel with
  | zero =>
    intro listed a w M hs hc hI
    have hall : ∀ k, k < l.length → listed.getD k false = true := fun k hk => by simpa using cnt_zero hc k hk
    refine ⟨?_, hQ _ a w M hall hI⟩
    cases hr : Region.ready .any ops listed with
    | nil => rfl
    | cons i is =>
      have hi : i ∈ Region.ready .any ops listed := by rw [hr]; simp
      obtain ⟨h1, h2, _⟩ := (hmem listed i hs).1 hi
      rw [hall i h1] at h2; cases h2
  | succ fuel ihf =>
    intro listed a w M hs hc hI
    refine ⟨fun hr => ?_, fun i hi => ?_⟩
    · have hall : ∀ k, k < l.length → listed.getD k false = true := by
        intro k
        induction k using Nat.strongRecOn with
        | _ k ihk =>
          intro hk
          cases hlk : listed.getD k false with
          | true => rfl
          | false =>
            have : k ∈ Region.ready .any ops listed := (hmem listed k hs).2 ⟨hk, hlk, fun op ho e he hb => by
              obtain ⟨op', ho', hO⟩ := hops k _ (List.getElem?_eq_getElem hk)
              rw [ho] at ho'; cases ho'
              have := onOk_eq hO.on e he hb
              exact ihk e.on this (by omega)⟩
            rw [hr] at this; simp at this
      exact hQ _ a w M hall hI
    · obtain ⟨h1, h2, h3⟩ := (hmem listed i hs).1 hi
      obtain ⟨op, hop, hO⟩ := hops i _ (List.getElem?_eq_getElem h1)
      refine inv_step hC hnd hok htr hlen hN hfin hI (List.getElem?_eq_getElem h1) h2 (fun j hj => ?_) fun a' w' M' hI' => ?_
      · obtain ⟨e, he, hb, h4⟩ := prOk_eq hO.pr j hj
        have hon := h3 op hop e he hb
        rcases h4 with h4 | ⟨o', h4, h5⟩
        · rw [← h4]; exact hon
        · exact hI.cl e.on o' j h4 hon h5
      · have hset := getD_set (listed := listed) (i := i) (by omega)
        refine ihf _ a' w' M' (by simpa using hs) ?_ (by rw [hset]; exact hI')
        have := cnt_set (f := fun k => !((listed.setIfInBounds i true).getD k false)) (g := fun k => !(listed.getD k false)) (i := i) (n := l.length) h1
          (by have e : (listed.setIfInBounds i true).getD i false = addL (fun k => listed.getD k false) i i := congrFun hset i
              rw [e, addL_self]; rfl) (by rw [h2]; rfl)
          (fun k hk hne => by have e : (listed.setIfInBounds i true).getD k false = addL (fun k => listed.getD k false) i k := congrFun hset k
                              rw [e, addL_ne hne])
        omega

theorem draw_ok (hP : P.follows .mixedOrders = true) (hC : CallsOk P E.gl w0 (callA E ih)) (hnd : nodupN m = true)
    {l : List DO} {t : Tm} {s : St} {e : Ex} {t' : Tm} {s' : St} {M : Mem} {w : World} {a : Act} {Q : Exit → Act → World → Prop} {id : Nat}
    (ho : okD P E.gl m N ops l = true) (h : drawA E ih l t s = .ok e t' s') (hw : W E.gl w0 M s w) (ht : TR M m t a) (hn : N ≤ a.tmps.size) (hk : Post E w0 m M s a t' s' (Q .normal)) :
    e = .nrm ∧ (Code.region id ops true).wp P Q a w := by
  obtain ⟨hl, hops⟩ := okD_op ho
  unfold drawA at h
  simp only at h
  obtain ⟨he, V, S, fin, sts, q1, q2, q3, q4, q5, _, htr⟩ := drawRun_tr l s.nx t (drawNew l s) [drawNew l s] [] e t' s' h
  refine ⟨he, wp_region_any hP ?_⟩
  have hxa : ∀ o ∈ l, o.k = .a → ∃ d z e, o.o.x = .a d z e := by
    intro o hol hka
    obtain ⟨i, hi⟩ := List.getElem?_of_mem hol
    obtain ⟨op, hop, hO⟩ := hops i o hi
    have hkind := hO.kind
    unfold kindOk at hkind
    simp only [hka] at hkind
    split at hkind
    · rename_i d z e hz; exact ⟨d, z, e, hz⟩
    · cases hkind
  obtain ⟨n1, n2, n3, n5, n4⟩ := drawNew_ok l s hxa (hw.drawn (w.drawn + 1))
  have hfin : ∀ q, q ≤ cmAt l l.length → fin[q]? = some (S q) := by
    intro q hq
    rw [q2]
    cases q with
    | zero => simp [q1]
    | succ q => simpa using q3 q (by omega)
  have hm0 : mains l (fun k => (Array.replicate ops.size false).getD k false) = 0 := by
    unfold mains
    rw [cnt_tail (i := 0) (Nat.zero_le _) fun k _ hk => ?_]
    · rfl
    · simp [Array.getD_eq_getD_getElem?, Array.getElem?_replicate]
      split <;> simp
  have hf0 : ∀ k, (Array.replicate ops.size false).getD k false = false := by
    intro k
    simp only [Array.getD_eq_getD_getElem?, Array.getElem?_replicate]
    split <;> rfl
  refine any_ok (M0 := M) (s0 := s) (a0 := a) hC hnd ho htr ht.len hn hfin (fun L a' w' M' hall hI => ?_) ops.size _ a _ M (by simp [hl]) ?_ ⟨?_, ?_, ?_, rfl, rfl, ?_, ?_⟩
  · have hmn : mains l L = cmAt l l.length := by
      unfold mains
      rw [cmAt_eq]
      exact cnt_congr fun k hk => by rw [hall k hk, Bool.and_true]
    have hIw := hI.w
    have hIe := hI.ext
    rw [hmn, ← q5] at hIw hIe
    refine hk a' M' w' hIe hIw ⟨by rw [q4, Tat_length]; exact ht.len, fun x q hq => ?_⟩ hI.size hI.defers
    have := hI.tr x q hq
    rw [lastV_congr (L' := fun _ => true) fun j o hj _ _ => hall j hj, lastV_all (fun j o y hj hy => by
      obtain ⟨op, _, hO⟩ := hops j o hj
      rw [← ht.len]; exact hO.d y hy) (Nat.le_refl _), ← q4] at this
    exact this
  · have : cnt (fun k => !((Array.replicate ops.size false).getD k false)) l.length = cnt (fun _ => true) l.length := cnt_congr fun k _ => by rw [hf0]; rfl
    rw [this, ← hl]
    have : ∀ n, cnt (fun _ => true) n = n := by
      intro n
      induction n with
      | zero => rfl
      | succ n ih => simp [cnt, ih]
    exact this _
  · rw [hm0, q1]; exact n1
  · rw [hm0, q1]
    exact ⟨.refl M, n2, fun b hb hn' => ⟨hn', n3 b hb⟩, n5⟩
  · intro x q hq
    have : (fun k => (Array.replicate ops.size false).getD k false) = fun _ => false := funext hf0
    rw [this, lastV_none]
    exact ht.cr x q hq
  · intro i o d z e hi hka hz _
    rw [hm0, q1]
    obtain ⟨g1, g2, g3⟩ := n4 i o d z e hi hka hz
    exact ⟨hw.φ_nx (by omega), g1, g2, g3⟩
  · intro i o j hi hL
    simp only [hf0] at hL; cases hL
end

end Go.Proofs.YtmoihglcdmmmlaaGreatDoor
