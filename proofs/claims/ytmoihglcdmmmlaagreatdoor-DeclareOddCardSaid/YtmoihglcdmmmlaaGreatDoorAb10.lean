/-
  The operations that make something, and those of a list of operands.
-/
import Derived.Test.YtmoihglcdmmmlaaGreatDoorAb9
import Derived.Laws.Tables
set_option linter.unusedSimpArgs false
set_option linter.unusedVariables false
namespace Go.Proofs.YtmoihglcdmmmlaaGreatDoor
open Go Go.RowKit

theorem bytesOf_eq : ∀ {xs : List AV} {l : List Nat}, bytesOf xs = some l → xs = mapU8 l ∧ ∀ n ∈ l, n < 256
  | [], l, h => by simp [bytesOf] at h; subst h; exact ⟨rfl, by simp⟩
  | x :: xs, l, h => by
    unfold bytesOf at h
    split at h
    · rename_i heq; cases heq
    · rename_i n ys heq
      obtain ⟨rfl, rfl⟩ := List.cons.inj heq
      cases hb : Nat.blt n 256 with
      | false => simp [hb] at h
      | true =>
        simp only [hb, cond_true] at h
        cases hr : bytesOf xs with
        | none => simp [hr] at h
        | some l' =>
          simp only [hr, Option.some.injEq] at h
          subst h
          obtain ⟨k1, k2⟩ := bytesOf_eq hr
          have hlt : n < 256 := by simpa [Nat.blt_eq] using hb
          exact ⟨by rw [k1]; rfl, by intro m hm; rcases List.mem_cons.1 hm with rfl | hm; exact hlt; exact k2 m hm⟩
    · cases h

theorem crU8 {M : Mem} : ∀ {l : List Nat} {vs : List Value}, CR M (mapU8 l) vs → vs = l.map fun (n : Nat) => Value.int .u8 (n : Int)
  | [], vs, h => by cases h; rfl
  | n :: l, vs, h => by
    cases h with
    | int r => rw [crU8 r]; rfl

theorem toNat_map (l : List Nat) (h : ∀ n ∈ l, n < 256) : (l.map UInt8.ofNat).map UInt8.toNat = l := by
  induction l with
  | nil => rfl
  | cons n l ih =>
    simp only [List.map_cons, List.mem_cons, forall_eq_or_imp] at h ⊢
    rw [ih h.2, UInt8.toNat_ofNat_of_lt' h.1]

theorem push_foldl (l : List Nat) : ∀ (b : ByteArray), ((l.map fun (n : Nat) => (n : Int)).foldl (fun r n => r.push (UInt8.ofNat n.toNat)) b).data.toList = b.data.toList ++ l.map UInt8.ofNat := by
  induction l with
  | nil => intro b; simp
  | cons n l ih => intro b; simp only [List.map_cons, List.foldl_cons]; rw [ih]; simp

/-- The parts' cells, put in. -/
def fillL : List Value → List (Option (Nat × Nat)) → List Value → Option (List Value)
  | z, [], [] => some z
  | z, some (o, n) :: ps, x :: xs =>
    if x.cells.size = n ∧ o + n ≤ z.length then fillL (z.take o ++ x.cells.toList ++ z.drop (o + x.cells.size)) ps xs else none
  | _, _, _ => none

theorem setIn_fold (cs : List Value) : ∀ (k : Nat) (off : Nat) (cells : Array Value), off + k + cs.length ≤ cells.size →
    (cs.zipIdx k).foldl (fun a (c, j) => a.setIfInBounds (off + j) c) cells = (cells.toList.take (off + k) ++ cs ++ cells.toList.drop (off + k + cs.length)).toArray := by
  induction cs with
  | nil => intro k off cells h; simp
  | cons c cs ih =>
    intro k off cells h
    simp only [List.length_cons] at h
    rw [List.zipIdx_cons, List.foldl_cons, ih (k + 1) off _ (by simp; omega)]
    congr 1
    simp only [Array.toList_setIfInBounds]
    apply List.ext_getElem?
    intro i
    simp only [List.append_assoc, List.getElem?_append, List.length_take, List.length_set, Array.length_toList, List.getElem?_take, List.getElem?_drop, List.length_cons, List.getElem?_set]
    have hm : min (off + (k + 1)) cells.size = off + k + 1 := by omega
    have hm2 : min (off + k) cells.size = off + k := by omega
    rw [hm, hm2]
    by_cases h1 : i < off + k
    · rw [if_pos (by omega), if_pos (by omega), if_neg (by omega), if_pos h1, if_pos h1]
    · by_cases h2 : i = off + k
      · subst h2
        rw [if_pos (by omega), if_pos (by omega), if_pos rfl, if_pos (by omega), if_neg (by omega), if_pos (by omega)]
        simp
      · rw [if_neg (by omega), if_neg h1]
        by_cases h3 : i < off + k + 1 + cs.length
        · rw [if_pos (by omega), if_pos (by omega)]
          have : i - (off + k) = (i - (off + k + 1)) + 1 := by omega
          rw [this, List.getElem?_cons_succ]
        · rw [if_neg (by omega), if_neg (by omega), if_neg (by omega)]
          congr 1
          omega

theorem fill_eq (place : Nat → Option (Nat × Nat)) : ∀ (parts : List (Nat × Value)) (cells : Array Value) (res : List Value),
    fillL cells.toList (parts.map fun p => place p.1) (parts.map (·.2)) = some res → Instr.fill place cells parts = some res.toArray
  | [], cells, res, h => by
    simp only [List.map_nil, fillL, Option.some.injEq] at h
    subst h
    simp [Instr.fill]
  | (i, v) :: parts, cells, res, h => by
    simp only [List.map_cons] at h
    cases hp : place i with
    | none => simp [hp, fillL] at h
    | some on =>
      obtain ⟨off, n⟩ := on
      simp only [hp, fillL] at h
      split at h
      · rename_i hc
        obtain ⟨h1, h2⟩ := hc
        simp only [Array.length_toList] at h2
        unfold Instr.fill
        simp only [hp]
        rw [if_neg (by simp only [Bool.or_eq_true, bne_iff_ne, ne_eq, decide_eq_true_eq, gt_iff_lt, not_or]; omega)]
        have hf := setIn_fold v.cells.toList 0 off cells (by simp; omega)
        simp only [Nat.add_zero, Array.length_toList] at hf
        have hz : v.cells.zipIdx.foldl (fun cs (c, j) => cs.setIfInBounds (off + j) c) cells = (cells.toList.take off ++ v.cells.toList ++ cells.toList.drop (off + v.cells.size)).toArray := by
          rw [← hf, ← Array.foldl_toList]
          rw [Array.toList_zipIdx]
        rw [hz]
        exact fill_eq place parts _ res (by simpa using h)
      · cases h

theorem build_cr {M : Mem} : ∀ {ps : List (Nat × Nat)} {xs : List AV} {vs : List Value} {z cs : List AV} {zs : List Value}, CR M z zs → CR M xs vs → buildA z ps xs = some cs →
    ∃ res, fillL zs (ps.map some) vs = some res ∧ CR M cs res
  | [], [], vs, z, cs, zs, hz, hx, h => by
    cases hx
    simp only [buildA, Option.some.injEq] at h
    subst h
    exact ⟨zs, rfl, hz⟩
  | [], _ :: _, vs, z, cs, zs, hz, hx, h => by simp [buildA] at h
  | _ :: _, [], vs, z, cs, zs, hz, hx, h => by simp [buildA] at h
  | (o, n) :: ps, x :: xs, vs, z, cs, zs, hz, hx, h => by
    obtain ⟨v, us, rfl, h1, h2⟩ := hx.uncons
    simp only [buildA] at h
    cases hb : Nat.beq x.cells.length n && Nat.ble (o + n) z.length with
    | false => simp [hb] at h
    | true =>
      simp only [hb, cond_true] at h
      simp only [Bool.and_eq_true] at hb
      have hn := Nat.eq_of_beq_eq_true hb.1
      have hle := Nat.le_of_ble_eq_true hb.2
      have hl := h1.cells.length
      have hzl := hz.length
      obtain ⟨res, k1, k2⟩ := build_cr (hz.splice h1.cells o (by omega)) h2 h
      refine ⟨res, ?_, k2⟩
      simp only [List.map_cons, fillL]
      rw [if_pos ⟨by simp at hl; omega, by omega⟩]
      simpa using k1

theorem fillL_row {sz : Nat} : ∀ (vs : List Value) (k : Nat) (pre : List Value) (zs : List Value), pre.length = k * sz → zs.length = vs.length * sz → (∀ v ∈ vs, v.cells.size = sz) →
    fillL (pre ++ zs) ((List.range' k vs.length).map fun i => some (i * sz, sz)) vs = some (pre ++ (vs.map fun v => v.cells.toList).flatten)
  | [], k, pre, zs, hp, hz, hv => by
    simp at hz
    simp [fillL, hz]
  | v :: vs, k, pre, zs, hp, hz, hv => by
    simp only [List.length_cons] at hz
    have hvs := hv v (by simp)
    rw [List.length_cons, List.range'_succ]
    simp only [List.map_cons, fillL]
    rw [Nat.succ_mul] at hz
    rw [if_pos ⟨hvs, by simp; omega⟩]
    have e : (pre ++ zs).take (k * sz) ++ v.cells.toList ++ (pre ++ zs).drop (k * sz + v.cells.size) = (pre ++ v.cells.toList) ++ zs.drop sz := by
      rw [← hp, List.take_left, hvs, List.drop_append]
      simp
    rw [e, fillL_row vs (k + 1) (pre ++ v.cells.toList) (zs.drop sz) (by simp [hvs, hp, Nat.succ_mul]) (by simp; omega) (fun u hu => hv u (by simp [hu]))]
    simp [List.append_assoc]

theorem flat_cr {M : Mem} : ∀ {xs : List AV} {vs : List Value}, CR M xs vs → CR M (flat xs) (vs.map fun v => v.cells.toList).flatten
  | [], vs, h => by cases h; exact .nil
  | x :: xs, vs, h => by
    obtain ⟨v, us, rfl, h1, h2⟩ := h.uncons
    simp only [flat, List.map_cons, List.flatten_cons]
    exact h1.cells.append (flat_cr h2)

def psEq : List (Option (Nat × Nat)) → List (Nat × Nat) → Bool
  | [], [] => true
  | some (a, b) :: xs, (c, d) :: ys => Nat.beq a c && (Nat.beq b d && psEq xs ys)
  | _, _ => false

theorem psEq_eq : ∀ {xs : List (Option (Nat × Nat))} {ys : List (Nat × Nat)}, psEq xs ys = true → xs = ys.map some
  | [], [], _ => rfl
  | [], _ :: _, h => by simp [psEq] at h
  | none :: _, _, h => by simp [psEq] at h
  | some (a, b) :: xs, [], h => by simp [psEq] at h
  | some (a, b) :: xs, (c, d) :: ys, h => by
    simp only [psEq, Bool.and_eq_true] at h
    rw [Nat.eq_of_beq_eq_true h.1, Nat.eq_of_beq_eq_true h.2.1, psEq_eq h.2.2]; rfl

/-- The type's zero, and where its parts lie. -/
def plOk (P : Program) (t : TypeId) (z : List AV) (is : List Nat) (ps : List (Nat × Nat)) : Bool :=
  match P.info? t, P.underlying t with
  | some it, some (.array _ e) =>
    (match it.zero, P.info? e with
    | some zv, some ie => cOks z zv.cells.toList && psEq (is.map fun i => some (i * ie.size, ie.size)) ps
    | _, _ => false)
  | some it, some (.struct fields) =>
    (match it.zero, fields.toList.mapM (fun f => (P.info? f.type).map fun i => (f.offset, i.size)) with
    | some zv, some places => cOks z zv.cells.toList && psEq (is.map (places.toArray[·]?)) ps
    | _, _ => false)
  | _, _ => false

def bslOk (P : Program) (t n sz e : Nat) : Bool :=
  match P.underlying t with
  | some (.slice e') => Nat.beq e e' && (match P.info? e with
    | some i => Nat.beq i.size sz && (Nat.blt 0 sz && (Nat.ble (n * sz) 16777216 && (match i.zero with
      | some z => Nat.beq z.cells.size sz
      | none => false)))
    | none => false)
  | _ => false

def mksOk (P : Program) (t : Nat) (z : List AV) (bytes e0 : Nat) : Bool :=
  match P.underlying t with
  | some (.slice e) => Nat.beq e e0 && (match P.info? e with
    | some i => Nat.beq i.bytes bytes && (match i.zero with
      | some zv => cOks z zv.cells.toList && Nat.beq zv.cells.size i.size
      | none => false)
    | none => false)
  | _ => false

section
variable {P : Program} {G : Nat → Option (List AV)} {w0 : World} {M : Mem} {s : St} {w : World} {o : Oper} {ρ : Operand → Value} {v : AV} {s' : St}

theorem did_pick (hw : W G w0 M s w) {c x y : Operand} {cv : Bool} {xv yv : AV} (ho : o.op = .pick c x y) (hc : CR M [.bool cv] [ρ c]) (hx : CR M [xv] [ρ x]) (hy : CR M [yv] [ρ y]) :
    Did P G w0 M s o ρ w (bif cv then xv else yv) s := by
  generalize hg : ρ c = rc at *
  cases hc
  refine Did.pure hw (v' := if cv then ρ x else ρ y) (by simp [execOp, ho, hg, asBool]) ?_
  cases cv
  · exact hy
  · exact hx

theorem did_mkf (hw : W G w0 M s w) {f : FuncId} {n : Nat} {fs cs : Array Operand} {xs : List AV} (ho : o.op = .makeFunc (.func f) fs cs) (hn : fs.size = n)
    (hx : CR M xs ((fs.toList ++ cs.toList).map ρ)) : Did P G w0 M s o ρ w (.fn f (xs.take n) (xs.drop n)) s := by
  subst hn
  refine Did.pure hw (v' := .func (.func f) (fs.map ρ) (cs.map ρ)) (by simp [execOp, ho, Instr.makeFunc]) (.fn ?_ ?_ .nil)
  · have := hx.take fs.size
    simpa using this
  · have := hx.drop fs.size
    simpa using this

theorem did_build (hw : W G w0 M s w) {t : TypeId} {parts : Array (Nat × Operand)} {z cs xs : List AV} {ps : List (Nat × Nat)} (ho : o.op = .build t parts)
    (hk : plOk P t z (parts.toList.map (·.1)) ps = true) (hx : CR M xs (parts.toList.map fun p => ρ p.2)) (h : buildA z ps xs = some cs) : Did P G w0 M s o ρ w (.agg cs) s := by
  have fin : ∀ (place : Nat → Option (Nat × Nat)) (zv : Value), cOks z zv.cells.toList = true → psEq (parts.toList.map fun p => place p.1) ps = true →
      ∃ res, CR M cs res ∧ Instr.fill place zv.cells ((parts.map fun (i, x) => (i, ρ x))).toList = some res.toArray := by
    intro place zv hz hp
    obtain ⟨res, k1, k2⟩ := build_cr (cOks_cr M _ z _ (Nat.le_refl _) hz) hx h
    refine ⟨res, k2, fill_eq place _ _ _ ?_⟩
    rw [← psEq_eq hp] at k1
    simpa [List.map_map, Function.comp_def] using k1
  have key : ∃ res, CR M cs res ∧ P.built t ((parts.map fun (i, x) => (i, ρ x))).toList = some res.toArray := by
    unfold plOk at hk
    unfold Program.built
    split at hk
    · rename_i it n e hit hu
      split at hk
      · rename_i zv ie hz hie
        simp only [Bool.and_eq_true] at hk
        obtain ⟨res, k1, k2⟩ := fin (fun i => some (i * ie.size, ie.size)) zv hk.1 (by simpa [List.map_map, Function.comp_def] using hk.2)
        exact ⟨res, k1, by simp only [hit, hu, hz, hie]; exact k2⟩
      · cases hk
    · rename_i it fields hit hu
      split at hk
      · rename_i zv places hz hpl
        simp only [Bool.and_eq_true] at hk
        obtain ⟨res, k1, k2⟩ := fin (places.toArray[·]?) zv hk.1 (by simpa [List.map_map, Function.comp_def] using hk.2)
        exact ⟨res, k1, by simp only [hit, hu, hz, hpl]; exact k2⟩
      · cases hk
    · cases hk
  obtain ⟨res, k1, k2⟩ := key
  refine Did.pure hw (v' := .agg res.toArray) ?_ (.agg (by simpa using k1) .nil)
  simp [execOp, ho, run_build w t _ _ k2]

theorem did_bsl (hw : W G w0 M s w) {t : TypeId} {n sz e : Nat} {parts : Array (Nat × Operand)} {xs : List AV} (ho : o.op = .buildSlice t n parts) (hk : bslOk P t n sz e = true)
    (hi : parts.toList.map (·.1) = List.range' 0 n) (hx : CR M xs (parts.toList.map fun p => ρ p.2)) (hb : bslA sz xs = true) (h : newSl sz e xs s = .ok v s') : Did P G w0 M s o ρ w v s' := by
  unfold bslOk at hk
  cases hu : P.underlying t with
  | none => simp [hu] at hk
  | some d =>
    cases d <;> simp [hu] at hk
    obtain ⟨rfl, hk⟩ := hk
    cases hie : P.info? e with
    | none => simp [hie] at hk
    | some i =>
      simp only [hie, Bool.and_eq_true] at hk
      obtain ⟨k1, k2, k3, k4⟩ := hk
      cases hz : i.zero with
      | none => simp [hz] at k4
      | some z =>
        simp only [hz] at k4
        have k1 : i.size = sz := by simpa using k1
        have k2 : 0 < sz := by simpa [Nat.blt_eq] using k2
        have k3 : n * sz ≤ 16777216 := by simpa using k3
        have k4 : z.cells.size = sz := by simpa using k4
        subst k1
        have hlen : parts.toList.length = n := by have := congrArg List.length hi; simpa using this
        have hxl := hx.length
        have hsz := bslA_eq hb
        have hvs : ∀ u ∈ parts.toList.map (fun p => ρ p.2), u.cells.size = i.size := by
          intro u hu'
          obtain ⟨j, hj⟩ := List.getElem?_of_mem hu'
          have hjl : j < xs.length := by rw [hxl]; exact (List.getElem?_eq_some_iff.1 hj).1
          obtain ⟨u', hu1, hu2⟩ := hx.get (List.getElem?_eq_getElem hjl)
          rw [hj] at hu1; cases hu1
          have := hu2.cells.length
          rw [hsz _ (List.getElem_mem hjl)] at this
          simpa using this.symm
        have hrow := fillL_row (sz := i.size) (parts.toList.map fun p => ρ p.2) 0 [] ((Array.range (n * i.size)).map (z.cells[· % z.cells.size]!)).toList (by simp) (by simp at hlen ⊢; rw [hlen]) hvs
        simp only [List.nil_append, List.length_map, hlen] at hrow
        have hfill := fill_eq (fun j => some (j * i.size, i.size)) ((parts.map fun (i, x) => (i, ρ x))).toList ((Array.range (n * i.size)).map (z.cells[· % z.cells.size]!)) _ (by
          simp only [Array.toList_map, List.map_map, Function.comp_def]
          rw [← hi, List.map_map] at hrow
          simpa [Function.comp_def] using hrow)
        have hrun : (Instr.buildSlice t n (parts.map fun (i, x) => (i, ρ x))).run P w =
            .ok (.slice (some ⟨w.heap.size, 0, none⟩) n n) (w.alloc (.cells (((parts.toList.map fun p => ρ p.2).map fun v => v.cells.toList).flatten).toArray e)) := by
          have hmax : ¬ (n * i.size > 2 ^ 24) := by omega
          by_cases h0 : n * i.size = 0
          · have hn0 : n = 0 := by rcases Nat.mul_eq_zero.1 h0 with h | h <;> omega
            have hp0 : parts = #[] := by
              apply Array.ext'; apply List.eq_nil_of_length_eq_zero; omega
            subst hp0; subst hn0
            simp [Instr.buildSlice, run_underlying hu, sizeOf, typeInfo, hie, newRow, Instr.fill]
            congr 2; apply Array.ext'; simp
          · simp only [Instr.buildSlice, Sem.run_bind, run_underlying hu, Result.andThen_ok, sizeOf, typeInfo, run_program, hie, Sem.run_pure, if_neg hmax, if_neg h0, zeroValue, hz]
            simp only [hfill]
            simp [newRow, Function.comp_def]
        unfold newSl at h
        cases h
        obtain ⟨M', q1, q2, q3⟩ := did_new_f (s := s) hw (els := xs) (vs := (((parts.toList.map fun p => ρ p.2).map fun v => v.cells.toList).flatten).toArray) (n := xs.length) (sz := i.size) (cap := xs.length) (ty := e)
          (Nat.le_refl _) rfl hsz (by have := (flat_cr hx).length; rw [flat_length hsz] at this; simp only [List.size_toArray]; omega)
          (by have := (flat_cr hx).length; rw [flat_length hsz] at this; simp only [List.toList_toArray]; rw [List.take_of_length_le (by omega)]; exact flat_cr hx)
        have hxn : xs.length = n := by rw [hxl]; simpa using hlen
        exact ⟨M', _, _, .value _, by simp only [execOp, ho, Sem.run_bind, hrun, Result.andThen_ok, Sem.run_pure]; rw [← hxn], .inl rfl, q2, q1, q3⟩
end

end Go.Proofs.YtmoihglcdmmmlaaGreatDoor
