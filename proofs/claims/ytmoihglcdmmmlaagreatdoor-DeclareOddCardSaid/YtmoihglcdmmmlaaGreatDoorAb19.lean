/-
  Known calls: a call whose arguments and whose result hold no memory may be run on its own, from nothing, and leaves the executor's state as it is.
-/
import Derived.Test.YtmoihglcdmmmlaaGreatDoorAb18
set_option linter.unusedSimpArgs false
set_option linter.unusedVariables false
namespace Go.Proofs.YtmoihglcdmmmlaaGreatDoor
open Go Go.RowKit

mutual
/-- No memory in it. -/
def AV.noMem : AV → Bool
  | .bool _ | .int _ _ | .str _ | .nilp | .nils | .nilfn | .niface => true
  | .agg cs | .tup cs => AV.noMems cs
  | _ => false
def AV.noMems : List AV → Bool
  | [] => true
  | x :: xs => AV.noMem x && AV.noMems xs
end

theorem CR.free {M : Mem} (M' : Mem) {xs : List AV} {vs : List Value} (r : CR M xs vs) (h : AV.noMems xs = true) : CR M' xs vs := by
  induction r with
  | nil => exact .nil
  | bool _ ih => simp only [AV.noMems, Bool.and_eq_true] at h; exact .bool (ih h.2)
  | int _ ih => simp only [AV.noMems, Bool.and_eq_true] at h; exact .int (ih h.2)
  | str e _ ih => simp only [AV.noMems, Bool.and_eq_true] at h; exact .str e (ih h.2)
  | nilp _ ih => simp only [AV.noMems, Bool.and_eq_true] at h; exact .nilp (ih h.2)
  | nils _ ih => simp only [AV.noMems, Bool.and_eq_true] at h; exact .nils (ih h.2)
  | nilfn _ ih => simp only [AV.noMems, Bool.and_eq_true] at h; exact .nilfn (ih h.2)
  | niface _ ih => simp only [AV.noMems, Bool.and_eq_true] at h; exact .niface (ih h.2)
  | agg _ _ ih1 ih2 => simp only [AV.noMems, AV.noMem, Bool.and_eq_true] at h; exact .agg (ih1 h.1) (ih2 h.2)
  | tup _ _ ih1 ih2 => simp only [AV.noMems, AV.noMem, Bool.and_eq_true] at h; exact .tup (ih1 h.1) (ih2 h.2)
  | _ => simp [AV.noMems, AV.noMem] at h

/-- The tables of the program hold no memory. -/
def GFree (G : Nat → Option (List AV)) : Prop := ∀ g cs, G g = some cs → AV.noMems cs = true

section
variable {P : Program} {G : Nat → Option (List AV)} {w0 : World} {M : Mem} {s : St} {w w1 : World}

theorem W.same (h : W G w0 M s w) (hb : Below w0.heap.size w0 w1) (heq : ∀ k, k < w.heap.size → w1.heap[k]? = w.heap[k]?) : W G w0 M s w1 := by
  have hne : ∀ {B : Nat} {x : Obj}, w.heap[B]? = some x → w1.heap[B]? = some x := by
    intro B x hx
    rw [heq B (Array.getElem?_eq_some_iff.1 hx).1]; exact hx
  refine ⟨hb, h.gl, ?_, ?_, h.inj, h.nt, fun t n B cap ty hH => ⟨(h.hb t n B cap ty hH).1, (h.hb t n B cap ty hH).2.imp fun _ => Exists.imp fun _ => hne⟩, h.ht, h.tb, ?_, ?_, h.tinj,
    fun b T hb => ⟨(h.ty b T hb).1, fun B hB => ((h.ty b T hb).2 B hB).imp fun _ => Exists.imp fun _ => hne⟩⟩
  · intro B i v hf
    rw [World.cell?_of_block (a := ⟨B, i, none⟩) (heq B (h.F_lt hf))]; exact h.fz B i v hf
  · intro b B hb
    obtain ⟨h1, h2, h3, cs, vs, e, h4, h5, h6⟩ := h.hp b B hb
    exact ⟨h1, h2, h3, cs, vs, e, h4, hne h5, h6⟩
  · intro t n sz ty ht
    refine ⟨(h.tf t n sz ty ht).1, (h.tf t n sz ty ht).2.1, fun B cap ty' hH => ⟨((h.tf t n sz ty ht).2.2 B cap ty' hH).1, fun hlt => ?_⟩⟩
    obtain ⟨h1, h2, h3, vs, lo, hi, h4, h5⟩ := ((h.tf t n sz ty ht).2.2 B cap ty' hH).2 hlt
    exact ⟨h1, h2, h3, vs, lo, hi, hne h4, h5⟩
  · intro t sz ty els ht
    obtain ⟨h1, h2, h3, B, cap, vs, h4, h5, h6, h7, h8, h9, h10⟩ := h.tg t sz ty els ht
    exact ⟨h1, h2, h3, B, cap, vs, h4, h5, h6, h7, h8, hne h9, h10⟩

def Mem.anew (M : Mem) : Mem := { φ := fun _ => none, F := M.F, H := fun _ _ => none, Z := fun _ => none }

/-- The same world, from nothing. -/
theorem W.anew (h : W G w0 M s w) (hG : GFree G) : W G w M.anew St.nil w := by
  have hget : ∀ {α : Type} (k : Nat), (Tr.lf : Tr α).get k = none := fun k => by cases k <;> rfl
  refine ⟨Below.refl _ w, fun g cs hg => ?_, h.fz, fun b B hb => by simp [Mem.anew] at hb, fun b b' B hb => by simp [Mem.anew] at hb, Nat.one_pos, fun t n B cap e hH => by simp [Mem.anew] at hH, fun t _ => ⟨rfl, fun _ => rfl⟩,
    fun t k hk => by simp [St.nil, hget] at hk, fun t n sz e hk => by simp [St.nil, hget] at hk, fun t sz e els hk => by simp [St.nil, hget] at hk, ?_, fun b T hb => by simp [St.nil, hget] at hb⟩
  · have := h.gl g cs hg
    generalize hv : Value.pointer (some ⟨g, 0, none⟩) = v at this
    cases this with
    | @eptr _ us _ B O _ _ hr hc _ =>
      have hr' : Row M.anew B O us := hr
      exact .eptr (o := 0) hr' (hc.free _ (hG g cs hg)) .nil
  · intro t t' B ho
    rcases ho with ⟨_, _, _, _, _, k1, _⟩ | ⟨_, _, _, _, _, k1, _⟩
    · simp [St.nil, hget] at k1
    · simp [St.nil, hget] at k1

theorem fin_anew {f : FuncId} {as : List AV} {args : Array Value} {v : AV} {s1 : St} (hG : GFree G) (hw : W G w0 M s w) (hx : CR M as args.toList) (ha : AV.noMems as = true) (hv : AV.noMem v = true)
    (hf : ∀ M0, W G w M0 St.nil w → CR M0 as args.toList → Fin P G w M0 St.nil f args w v s1) : Fin P G w0 M s f args w v s := by
  intro o a K Q hk
  refine hf M.anew (hw.anew hG) (hx.free _ ha) o a K Q fun M' v' w' h1 h2 h3 => ?_
  have hb := h2.below
  refine hk M v' w' (.refl M s) (hw.same ?_ fun k hk => hb.block k hk) (h3.free _ (by simp [AV.noMems, hv]))
  exact hw.below.trans (hb.mono hw.below.size)
end

/-- What is known by heart: of these functions, with these arguments, this result. -/
abbrev Facts := List (FuncId × List AV × AV)

def Facts.look : Facts → FuncId → List AV → Option AV
  | [], _, _ => none
  | (g, bs, v) :: r, f, as => bif Nat.beq g f && AV.beqs bs as then some v else Facts.look r f as

def factsIt (F : Facts) (fb : FuncId → List AV → St → Rv) (f : FuncId) (as : List AV) (s : St) : Rv :=
  match F.look f as with
  | some v => .ok v s
  | none => fb f as s

/-- Nothing else is known. -/
def noFb (_ : FuncId) (_ : List AV) (_ : St) : Rv := .no

theorem noFb_ok (P : Program) (G : Nat → Option (List AV)) (w0 : World) : CallsOk P G w0 noFb := fun f as s v s' M w args h => by cases h

theorem look_mem : ∀ {F : Facts} {f : FuncId} {as : List AV} {v : AV}, F.look f as = some v → (f, as, v) ∈ F
  | [], _, _, _, h => by simp [Facts.look] at h
  | (g, bs, u) :: r, f, as, v, h => by
    simp only [Facts.look] at h
    cases hb : Nat.beq g f && AV.beqs bs as with
    | true =>
      simp only [hb, cond_true, Option.some.injEq] at h
      simp only [Bool.and_eq_true] at hb
      rw [← Nat.eq_of_beq_eq_true hb.1, ← AV.beqs_eq _ bs as (Nat.le_refl _) hb.2, h]
      exact List.mem_cons_self
    | false =>
      simp only [hb, cond_false] at h
      exact List.mem_cons_of_mem _ (look_mem h)

/-- A fact, out of a run of the executor that knows others. -/
def FactOk (P : Program) (G : Nat → Option (List AV)) (x : FuncId × List AV × AV) : Prop :=
  ∀ w0 M s w args, W G w0 M s w → CR M x.2.1 args.toList → Fin P G w0 M s x.1 args w x.2.2 s

theorem fact_of_run {P : Program} {E : Env} (hP : P.follows .mixedOrders = true) (hI : ∀ w0, ItOk P E w0) (hF : FnOk P E) (hG : GFree E.gl) {k : Nat} {f : FuncId} {as : List AV} {v : AV}
    (ha : AV.noMems as = true) (hv : AV.noMem v = true) (h : (match runF E k f as St.nil with
      | .ok u _ => AV.beq u v
      | .no => false) = true) : FactOk P E.gl (f, as, v) := by
  intro w0 M s w args hw hx
  split at h
  · rename_i u s1 hr
    have := AV.beq_eq h
    subst this
    exact fin_anew hG hw hx ha hv fun M0 h1 h2 => runF_ok (w0 := w) hP (hI w) hF k f as St.nil u s1 M0 w args hr h1 h2
  · cases h
end Go.Proofs.YtmoihglcdmmmlaaGreatDoor
