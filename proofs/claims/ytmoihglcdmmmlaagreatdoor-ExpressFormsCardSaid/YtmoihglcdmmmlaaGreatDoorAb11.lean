/-
  Append to a slice that is still its maker's own, make, strings out of bytes, parts of strings and of slices.
-/
import Derived.Test.YtmoihglcdmmmlaaGreatDoorAb10
set_option linter.unusedSimpArgs false
set_option linter.unusedVariables false
namespace Go.Proofs.YtmoihglcdmmmlaaGreatDoor
open Go Go.RowKit Go.Lib

theorem run_sliceBounds' {P : Program} {w : World} {sl : Bool} {len cap l h : Nat} {lo hi : Option Value} (hl : (lo = none ∧ l = 0) ∨ ∃ k, lo = some (.int k (l : Int)))
    (hh : (hi = none ∧ h = len) ∨ ∃ k, hi = some (.int k (h : Int))) (h1 : l ≤ h) (h2 : h ≤ cap) : (Instr.sliceBounds sl len cap lo hi none).run P w = .ok (l, h, cap) w := by
  rcases hl with ⟨rfl, rfl⟩ | ⟨k, rfl⟩ <;> rcases hh with ⟨rfl, rfl⟩ | ⟨k', rfl⟩ <;> simp [Instr.sliceBounds, Instr.sliceBound, asIntOf, h1, h2]

theorem bounds_ok {M : Mem} {ρ : Operand → Value} {a b : Bool} {n l h : Nat} {ys : List AV} {lo hi : Option Operand} (ha : lo.isSome = a) (hb : hi.isSome = b)
    (hy : CR M ys ((lo.toList ++ hi.toList).map ρ)) (hk : bounds a b n ys = some (l, h)) :
    ((lo.map ρ = none ∧ l = 0) ∨ ∃ k, lo.map ρ = some (.int k (l : Int))) ∧ ((hi.map ρ = none ∧ h = n) ∨ ∃ k, hi.map ρ = some (.int k (h : Int))) := by
  subst ha; subst hb
  cases lo with
  | none =>
    cases hi with
    | none =>
      cases hy
      simp only [bounds, Option.isSome_none, Option.some.injEq, Prod.mk.injEq] at hk
      exact ⟨.inl ⟨rfl, hk.1.symm⟩, .inl ⟨rfl, hk.2.symm⟩⟩
    | some q =>
      simp only [Option.toList_none, Option.toList_some, List.nil_append, List.map_cons, List.map_nil] at hy
      cases ys with
      | nil => cases hy
      | cons y ys =>
        obtain ⟨v, us, he, h1, h2⟩ := hy.uncons
        cases he
        cases h2
        simp only [bounds, Option.isSome_none, Option.isSome_some] at hk
        cases hn : natOf y with
        | none => simp [hn] at hk
        | some m =>
          simp only [hn, Option.some.injEq, Prod.mk.injEq] at hk
          obtain ⟨k, hv⟩ := natOf_cr hn h1
          exact ⟨.inl ⟨rfl, hk.1.symm⟩, .inr ⟨k, by simp [hv, hk.2]⟩⟩
  | some p =>
    cases hi with
    | none =>
      simp only [Option.toList_none, Option.toList_some, List.append_nil, List.map_cons, List.map_nil] at hy
      cases ys with
      | nil => cases hy
      | cons y ys =>
        obtain ⟨v, us, he, h1, h2⟩ := hy.uncons
        cases he
        cases h2
        simp only [bounds, Option.isSome_none, Option.isSome_some] at hk
        cases hn : natOf y with
        | none => simp [hn] at hk
        | some m =>
          simp only [hn, Option.some.injEq, Prod.mk.injEq] at hk
          obtain ⟨k, hv⟩ := natOf_cr hn h1
          exact ⟨.inr ⟨k, by simp [hv, hk.1]⟩, .inl ⟨rfl, hk.2.symm⟩⟩
    | some q =>
      simp only [Option.toList_some, List.cons_append, List.nil_append, List.map_cons, List.map_nil] at hy
      cases ys with
      | nil => cases hy
      | cons y ys =>
        obtain ⟨v, us, he, h1, h2⟩ := hy.uncons
        cases he
        cases ys with
        | nil => cases h2
        | cons y' ys =>
          obtain ⟨v', us', he', h1', h2'⟩ := h2.uncons
          cases he'
          cases h2'
          simp only [bounds, Option.isSome_some] at hk
          cases hn : natOf y with
          | none => simp [hn] at hk
          | some m =>
            cases hn' : natOf y' with
            | none => simp [hn, hn'] at hk
            | some m' =>
              simp only [hn, hn', Option.some.injEq, Prod.mk.injEq] at hk
              obtain ⟨k, hv⟩ := natOf_cr hn h1
              obtain ⟨k', hv'⟩ := natOf_cr hn' h1'
              exact ⟨.inr ⟨k, by simp [hv, hk.1]⟩, .inr ⟨k', by simp [hv', hk.2]⟩⟩

theorem flat_part {els : List AV} {sz : Nat} (h : ∀ e ∈ els, e.cells.length = sz) (lo n : Nat) : flat ((els.drop lo).take n) = ((flat els).drop (lo * sz)).take (n * sz) := by
  induction els generalizing lo n with
  | nil => simp [flat]
  | cons e els ih =>
    have he : e.cells.length = sz := h e (by simp)
    have hr : ∀ e ∈ els, e.cells.length = sz := fun x hx => h x (by simp [hx])
    cases lo with
    | zero =>
      cases n with
      | zero => simp [flat]
      | succ n =>
        have := ih hr 0 n
        simp only [List.drop_zero, Nat.zero_mul] at this ⊢
        simp only [List.take_succ_cons, flat]
        have hle : e.cells.length ≤ (n + 1) * sz := by rw [he, Nat.succ_mul]; omega
        rw [this, List.take_append, he, List.take_of_length_le hle]
        congr 2
        rw [Nat.succ_mul]; omega
    | succ lo =>
      simp only [List.drop_succ_cons, flat]
      have hle : e.cells.length ≤ (lo + 1) * sz := by rw [he, Nat.succ_mul]; omega
      rw [ih hr lo n, List.drop_append, he, List.drop_of_length_le hle, List.nil_append]
      congr 2
      rw [Nat.succ_mul]; omega

section
variable {P : Program} {G : Nat → Option (List AV)} {w0 : World} {M : Mem} {s : St} {w : World} {o : Oper} {ρ : Operand → Value} {v : AV} {s' : St}

theorem did_sls (hw : W G w0 M s w) {t : TypeId} {x : Operand} {lo hi : Option Operand} {a b : Bool} {z : List Nat} {ys : List AV} {l h : Nat} (ho : o.op = .slice t x lo hi none) (ht : isStrT P t = true)
    (ha : lo.isSome = a) (hb : hi.isSome = b) (hx : CR M [.str z] [ρ x]) (hy : CR M ys ((lo.toList ++ hi.toList).map ρ)) (hk : bounds a b z.length ys = some (l, h))
    (hv : slsA (.str z) l h = some v) : Did P G w0 M s o ρ w v s := by
  generalize hgx : ρ x = rx at *
  unfold isStrT at ht
  cases hu : P.underlying t with
  | none => simp [hu] at ht
  | some d =>
    cases d <;> simp [hu] at ht
    simp only [slsA] at hv
    cases hc : Nat.ble l h && Nat.ble h z.length with
    | false => simp [hc] at hv
    | true =>
      simp only [hc, cond_true, Option.some.injEq] at hv
      subst hv
      simp only [Bool.and_eq_true] at hc
      have h1 := Nat.le_of_ble_eq_true hc.1
      have h2 := Nat.le_of_ble_eq_true hc.2
      cases hx with
      | @str _ bs _ _ hbs _ =>
        have hz : z.length = bs.size := by rw [← hbs, List.length_map, Array.length_toList]; rfl
        obtain ⟨b1, b2⟩ := bounds_ok ha hb hy hk
        rw [hz] at b2 h2
        refine Did.pure hw (v' := .string (bs.extract l h)) ?_ (.str ?_ .nil)
        · have := run_sliceBounds' (P := P) (w := w) (sl := false) (cap := bs.size) b1 b2 h1 h2
          simp [execOp, ho, hgx, Instr.sliceAt, run_underlying hu, Instr.slice, this]
        · rw [← hbs]
          simp only [ByteArray.data_extract, Array.toList_extract, List.extract_eq_take_drop, List.map_take, List.map_drop]

theorem did_slv (hw : W G w0 M s w) {t : TypeId} {x : Operand} {lo hi : Option Operand} {a b : Bool} {xv : AV} {ys : List AV} {sz n l h : Nat} (ho : o.op = .slice t x lo hi none) (ht : elemOk P t sz = true)
    (ha : lo.isSome = a) (hb : hi.isSome = b) (hx : CR M [xv] [ρ x]) (hy : CR M ys ((lo.toList ++ hi.toList).map ρ)) (hn : lenA xv = some n) (hk : bounds a b n ys = some (l, h))
    (hv : slvA sz xv l h = some v) : Did P G w0 M s o ρ w v s := by
  generalize hgx : ρ x = rx at *
  unfold elemOk at ht
  cases hu : P.underlying t with
  | none => simp [hu] at ht
  | some d =>
    cases d <;> simp [hu] at ht
    rename_i e
    cases hie : P.info? e with
    | none => simp [hie] at ht
    | some i =>
      simp only [hie, beq_iff_eq] at ht
      subst ht
      obtain ⟨b1, b2⟩ := bounds_ok ha hb hy hk
      have run : ∀ (ad : Option Addr) (cap : Nat), rx = .slice ad n cap → l ≤ h → h ≤ cap →
          (execOp ρ o).run P w = .ok (.value (.slice (if cap = l then ad else ad.map (·.add (l * i.size))) (h - l) (cap - l))) w := by
        intro ad cap hr h1 h2
        have := run_sliceBounds' (P := P) (w := w) (sl := true) (cap := cap) b1 b2 h1 h2
        simp [execOp, ho, hgx, hr, Instr.sliceAt, run_underlying hu, Instr.slice, this, sizeOf, typeInfo, hie]
      unfold slvA at hv
      cases xv <;> simp only [reduceCtorEq] at hv
      case nils =>
        simp only [lenA, Option.some.injEq] at hn
        subst hn
        cases hc : Nat.beq l 0 && Nat.beq h 0 with
        | false => simp [hc] at hv
        | true =>
          simp only [hc, cond_true, Option.some.injEq] at hv
          subst hv
          simp only [Bool.and_eq_true] at hc
          have h1 := Nat.eq_of_beq_eq_true hc.1
          have h2 := Nat.eq_of_beq_eq_true hc.2
          subst h1; subst h2
          cases hx
          exact Did.pure hw (run none 0 rfl (Nat.le_refl _) (Nat.le_refl _)) (.nils .nil)
      case sl t' m els =>
        simp only [lenA, Option.some.injEq] at hn
        subst hn
        cases hc : Nat.ble l h && Nat.ble h m with
        | false => simp [hc] at hv
        | true =>
          simp only [hc, cond_true] at hv
          simp only [Bool.and_eq_true] at hc
          have h1 := Nat.le_of_ble_eq_true hc.1
          have h2 := Nat.le_of_ble_eq_true hc.2
          cases hx with
          | @sl _ _ sz2 cap B O _ us _ _ k1 k2 k3 k4 k5 k6 _ =>
            have hr := run (some ⟨B, O, none⟩) cap rfl h1 (by omega)
            cases hc2 : Nat.beq l 0 && Nat.beq h m with
            | true =>
              simp only [hc2, cond_true, Option.some.injEq] at hv
              subst hv
              simp only [Bool.and_eq_true] at hc2
              have h3 := Nat.eq_of_beq_eq_true hc2.1
              have h4 := Nat.eq_of_beq_eq_true hc2.2
              subst h3; subst h4
              have : (if cap = 0 then some (⟨B, O, none⟩ : Addr) else (some ⟨B, O, none⟩ : Option Addr).map (·.add (0 * i.size))) = some ⟨B, O, none⟩ := by
                split
                · rfl
                · simp [addr_add]
              rw [this] at hr
              exact Did.pure hw hr (.sl k1 k2 k3 k4 k5 k6 .nil)
            | false =>
              simp only [hc2, cond_false] at hv
              cases hb2 : bslA i.size els with
              | false => simp [hb2] at hv
              | true =>
                simp only [hb2, cond_true, Option.some.injEq] at hv
                subst hv
                have hsz := bslA_eq hb2
                have hlen : ((els.drop l).take (h - l)).length = h - l := by rw [List.length_take, List.length_drop]; omega
                have hse : ∀ e ∈ (els.drop l).take (h - l), e.cells.length = i.size := fun e he => hsz e (List.mem_of_mem_drop (List.mem_of_mem_take he))
                by_cases hcl : cap = l
                · rw [if_pos hcl] at hr
                  have h0 : h - l = 0 := by omega
                  rw [h0] at hr hse ⊢
                  exact Did.pure hw hr (.sl (us := []) (by omega) (by simp) hse (fun j u hu' => by simp at hu') (by simpa [flat] using CR.nil) (fun h => absurd rfl h) .nil)
                · rw [if_neg hcl] at hr
                  simp only [Option.map_some, addr_add] at hr
                  refine Did.pure hw hr (.sl (us := (us.drop (l * i.size)).take ((h - l) * i.size)) (by omega) hlen hse ?_ ?_ (fun h => absurd rfl h) .nil)
                  · intro j u hu'
                    rw [List.getElem?_take] at hu'
                    split at hu'
                    · rw [List.getElem?_drop] at hu'
                      have := k4 _ _ hu'
                      rwa [← Nat.add_assoc] at this
                    · cases hu'
                  · rw [flat_part hsz]
                    exact (k5.drop _).take _
      case ms b' o' m =>
        simp only [lenA, Option.some.injEq] at hn
        subst hn
        cases hc : Nat.ble l h && Nat.ble h m with
        | false => simp [hc] at hv
        | true =>
          simp only [hc, cond_true] at hv
          simp only [Bool.and_eq_true] at hc
          have h1 := Nat.le_of_ble_eq_true hc.1
          have h2 := Nat.le_of_ble_eq_true hc.2
          cases hx with
          | @ms _ _ _ cap B _ _ hφ hle _ =>
            have hr := run (some ⟨B, o', none⟩) cap rfl h1 (by omega)
            cases hc2 : Nat.beq (h - l) 0 with
            | true =>
              simp only [hc2, cond_true, Option.some.injEq] at hv
              subst hv
              have h3 := Nat.eq_of_beq_eq_true hc2
              rw [h3] at hr
              by_cases hcl : cap = l
              · rw [if_pos hcl] at hr
                exact Did.pure hw hr (.sl (us := []) (sz := 0) (by omega) (by simp) (by simp) (fun j u hu' => by simp at hu') (by simpa [flat] using CR.nil) (fun h => absurd rfl h) .nil)
              · rw [if_neg hcl] at hr
                simp only [Option.map_some, addr_add] at hr
                exact Did.pure hw hr (.sl (us := []) (sz := 0) (by omega) (by simp) (by simp) (fun j u hu' => by simp at hu') (by simpa [flat] using CR.nil) (fun h => absurd rfl h) .nil)
            | false =>
              simp only [hc2, cond_false, Option.some.injEq] at hv
              subst hv
              have h3 : h - l ≠ 0 := fun e => by rw [e] at hc2; simp at hc2
              rw [if_neg (by omega)] at hr
              simp only [Option.map_some, addr_add] at hr
              exact Did.pure hw hr (.ms hφ (by omega) .nil)

theorem did_cvbs (hw : W G w0 M s w) {x : Operand} {xv : AV} {src dst : TypeId} (ho : o.op = .convert src dst x) (h1 : isBytesT P src = true) (h2 : isStrT P dst = true)
    (hx : CR M [xv] [ρ x]) (h : cvbsA xv = some v) : Did P G w0 M s o ρ w v s := by
  generalize hgx : ρ x = rx at *
  unfold isBytesT at h1
  unfold isStrT at h2
  cases hu : P.underlying src with
  | none => simp [hu] at h1
  | some d =>
    cases d <;> simp [hu] at h1
    rename_i e
    unfold isIntK at h1
    cases hue : P.underlying e with
    | none => simp [hue] at h1
    | some d1 =>
      cases d1 <;> simp [hue] at h1
      subst h1
      cases hd : P.underlying dst with
      | none => simp [hd] at h2
      | some d2 =>
        cases d2 <;> simp [hd] at h2
        have run : ∀ (ad : Option Addr) (l c : Nat) (r : Value), rx = .slice ad l c → (Conv.bytesToString (.slice ad l c)).run P w = .ok r w → (execOp ρ o).run P w = .ok (.value r) w := by
          intro ad l c r hr hb
          subst hr
          simp [execOp, ho, hgx, run_convert_bytes_string w src dst e ad l c hu hue hd, hb]
        unfold cvbsA at h
        cases xv <;> simp only [reduceCtorEq] at h
        case nils =>
          simp only [Option.some.injEq] at h
          subst h
          cases hx
          exact Did.pure hw (run none 0 0 (.string .empty) rfl rfl) (.str rfl .nil)
        case sl t' n els =>
          cases hb : bytesOf els with
          | none => simp [hb] at h
          | some l =>
            simp only [hb, Option.some.injEq] at h
            subst h
            obtain ⟨k1, k2⟩ := bytesOf_eq hb
            subst k1
            cases hx with
            | @sl _ _ sz2 cap B O _ us _ _ q1 q2 q3 q4 q5 q6 _ =>
              rw [flat_mapU8] at q5
              have hus := crU8 q5
              have hl := row_cells (P := P) hw q4 w.drawn
              have hw' : ({ w with drawn := w.drawn } : World) = w := rfl
              rw [hw'] at hl
              have hlen : us.length = n := by rw [← q5.length]; exact q2
              rw [hlen] at hl
              have hm : us.toArray = ((l.map fun (n : Nat) => (n : Int)).map (Value.int .u8)).toArray := by rw [hus]; simp [Function.comp_def]
              rw [hm] at hl
              refine Did.pure hw (run _ _ _ _ rfl (run_bytesToString w ⟨B, O, none⟩ n cap _ hl)) (.str ?_ .nil)
              rw [push_foldl]
              have := toNat_map l k2
              simpa using this

theorem did_mks (hw : W G w0 M s w) {t : TypeId} {x y : Operand} {xv yv : AV} {z : List AV} {bytes e0 : Nat} (ho : o.op = .makeSlice t x y) (hk : mksOk P t z bytes e0 = true)
    (hx : CR M [xv] [ρ x]) (hy : CR M [yv] [ρ y]) (h : mksA z bytes e0 xv yv s = .ok v s') : Did P G w0 M s o ρ w v s' := by
  generalize hgx : ρ x = rx at *
  generalize hgy : ρ y = ry at *
  unfold mksOk at hk
  cases hu : P.underlying t with
  | none => simp [hu] at hk
  | some d =>
    cases d <;> simp [hu] at hk
    rename_i e
    obtain ⟨he0, hk⟩ := hk
    subst he0
    cases hie : P.info? e with
    | none => simp [hie] at hk
    | some i =>
      simp only [hie, Bool.and_eq_true] at hk
      obtain ⟨k1, k2⟩ := hk
      cases hz : i.zero with
      | none => simp [hz] at k2
      | some zv =>
        simp only [hz, Bool.and_eq_true] at k2
        obtain ⟨k2, k3⟩ := k2
        have k1 : i.bytes = bytes := by simpa using k1
        have k3 : zv.cells.size = i.size := by simpa using k3
        subst k1
        unfold mksA at h
        cases hl : natOf xv with
        | none => simp [hl] at h
        | some l =>
          cases hc : natOf yv with
          | none => simp [hl, hc] at h
          | some c =>
            simp only [hl, hc] at h
            obtain ⟨kl, rfl⟩ := natOf_cr hl hx
            obtain ⟨kc, rfl⟩ := natOf_cr hc hy
            cases hcond : Nat.ble l c && Nat.ble (i.bytes * c) 281474976710656 && Nat.ble c 9223372036854775807 with
            | false => simp [hcond] at h
            | true =>
              simp only [hcond, cond_true] at h
              cases h
              simp only [Bool.and_eq_true] at hcond
              have c1 := Nat.le_of_ble_eq_true hcond.1.1
              have c2 := Nat.le_of_ble_eq_true hcond.1.2
              have c3 := Nat.le_of_ble_eq_true hcond.2
              have hr := run_make (P := P) w t e i zv hu hie hz kl kc (l : Int) (c : Int) (by omega) (by omega) (by rw [← Int.natCast_mul]; omega) (by omega)
              simp only [Int.toNat_natCast] at hr
              have hcr : CR M (List.replicate c z).flatten (madeCells zv.cells (c * i.size)).toList := by
                rw [← k3, madeCells_flat]
                exact (cOks_cr M _ z _ (Nat.le_refl _) k2).flatten c
              obtain ⟨h1, h2⟩ := hw.newBox hcr e
              exact ⟨_, .slice (some ⟨w.heap.size, 0, none⟩) l c, _, .value _, by simp [execOp, ho, hgx, hgy, hr], .inl rfl, h2, h1, .ms (by simp [Mem.box]) c1 .nil⟩

theorem did_ust (hw : W G w0 M s w) {x y : Operand} {xv yv : AV} {c : Call} {t u e : Nat} (ho : o.op = .call c) (hc : c.callee = .builtin .unsafeString) (ha : c.args.toList = [x, y])
    (hat : c.argTypes.toList = [t, u]) (hp : ptrTo P t e = true) (hx : CR M [xv] [ρ x]) (hy : CR M [yv] [ρ y]) (h : ustA e xv yv = some v) : Did P G w0 M s o ρ w v s := by
  obtain ⟨callee, args, argTypes⟩ := c
  simp only at hc ha hat
  subst hc
  have ha' : args = #[x, y] := Array.ext' ha
  have hat' : argTypes = #[t, u] := Array.ext' hat
  subst ha'; subst hat'
  generalize hgx : ρ x = rx at *
  generalize hgy : ρ y = ry at *
  have run : ∀ (r : Value) (w' : World), (Builtin.unsafeString_ #[t, u] o.type #[rx, ry]).run P w = .ok r w' → (execOp ρ o).run P w = .ok (.value r) w' := by
    intro r w' hm
    simp [execOp, ho, resolve, hgx, hgy, invoke, builtin, hm]
  unfold ptrTo at hp
  cases hu : P.underlying t with
  | none => simp [hu] at hp
  | some d =>
    cases d <;> simp [hu] at hp
    rename_i e1
    obtain ⟨he1, hcells⟩ := hp
    subst he1
    have hny : ∀ n, nat64 yv = some n → ry = .int .i64 (n : Int) := by
      intro n hn
      unfold nat64 at hn
      split at hn
      · cases hn; cases hy; rfl
      · cases hn
    unfold ustA at h
    split at h
    · rename_i hn
      simp only [Option.some.injEq] at h
      subst h
      have := hny _ hn
      subst this
      cases hx
      exact Did.pure hw (run _ _ (run_unsafeString_none w t u o.type none)) (.str rfl .nil)
    · rename_i e' m els n hn
      have := hny _ hn
      subst this
      cases hcond : Nat.beq n m && (Nat.beq e1 e' && Nat.ble n 9223372036854775807) with
      | false => simp [hcond] at h
      | true =>
        simp only [hcond, cond_true] at h
        simp only [Bool.and_eq_true] at hcond
        have c1 := Nat.eq_of_beq_eq_true hcond.1
        have c2 := Nat.eq_of_beq_eq_true hcond.2.1
        have hin := Nat.le_of_ble_eq_true hcond.2.2
        subst c1; subst c2
        cases hb : bytesOf els with
        | none => simp [hb] at h
        | some l =>
          simp only [hb, Option.some.injEq] at h
          subst h
          obtain ⟨k1, k2⟩ := bytesOf_eq hb
          subst k1
          cases hx with
          | @tp t' _ cap B _ _ us _ _ hH q2 q4 q5 _ =>
            rw [flat_mapU8] at q5
            have hus := crU8 q5
            have hul : us.length = l.length := by rw [hus]; simp
            have hnl : n = l.length := by rw [← q2]; rw [mapU8_eq]; simp
            cases hl0 : l with
            | nil =>
              rw [hl0] at hnl
              subst hnl
              exact Did.pure hw (run _ _ (run_unsafeString_none w t u o.type _)) (.str rfl .nil)
            | cons a0 l0 =>
              rw [← hl0]
              have hne : l ≠ [] := by rw [hl0]; simp
              obtain ⟨hge, vs, fr, hh⟩ := hw.hb _ _ _ _ _ hH
              have hrt := row_take hw q4 hh
              have hsz : us.length ≤ vs.size := by
                have := congrArg List.length hrt
                rw [List.length_take] at this
                simp at this; omega
              have hmap : (l.map UInt8.ofNat).length = l.length := by simp
              have hr := run_unsafeString_row (P := P) w t u o.type _ hu hcells B vs.size (by simp [World.shape?, hh]) (l.map UInt8.ofNat) (by simp [hne]) (by simp; omega) (by simp; omega) (by
                intro j x hj
                rw [addr_add, Nat.zero_add]
                have hj' : (l.map UInt8.ofNat)[j]? = some x := hj
                rw [List.getElem?_map] at hj'
                cases hlj : l[j]? with
                | none => simp [hlj] at hj'
                | some c =>
                  simp only [hlj, Option.map_some, Option.some.injEq] at hj'
                  subst hj'
                  have hc256 := k2 c (List.mem_of_getElem? hlj)
                  have := hw.fz _ _ _ (q4 j (.int .u8 (c : Int)) (by rw [hus, List.getElem?_map, hlj]; rfl))
                  rw [Nat.zero_add] at this
                  rw [this, UInt8.toNat_ofNat_of_lt' hc256])
              rw [hmap] at hr
              rw [← hnl] at hr
              have hfr := hw.freeze (B := B) (o := 0) (n := n) (by rw [hnl, hl0]; simp) (fun i hi => by
                have hi' : i < us.length := by omega
                exact ⟨us[i], q4 i _ (List.getElem?_eq_getElem hi')⟩) hge
              exact ⟨M, _, _, .value _, run _ _ hr, .inl rfl, .refl M s, hfr, .str (by simpa using toNat_map l k2) .nil⟩
    · cases h
end

end Go.Proofs.YtmoihglcdmmmlaaGreatDoor
