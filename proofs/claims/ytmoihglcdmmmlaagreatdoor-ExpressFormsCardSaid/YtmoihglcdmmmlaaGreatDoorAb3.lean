/-
  What becomes of the executor's state and the world side by side: a new box, a box written, a new slice, a slice put behind, an element written, a slice told.
-/
import Derived.Test.YtmoihglcdmmmlaaGreatDoorAb2
import Derived.Lib.FrozenHead
import Derived.Laws.CopyOwn
set_option linter.unusedSimpArgs false
set_option linter.unusedVariables false
namespace Go.Proofs.YtmoihglcdmmmlaaGreatDoor
open Go Go.RowKit

section
variable {G : Nat → Option (List AV)} {w0 : World} {M : Mem} {s : St} {w : World}

theorem W.F_lt (h : W G w0 M s w) {B o : Nat} {v : Value} (hf : M.F B o = some v) : B < w.heap.size := by
  have := h.fz B o v hf
  exact World.block_lt_of_cell? w ⟨B, o, none⟩ this

theorem W.φ_lt (h : W G w0 M s w) {b B : Nat} (hf : M.φ b = some B) : B < w.heap.size := by
  obtain ⟨_, _, _, cs, vs, e, _, hh, _⟩ := h.hp b B hf
  exact (Array.getElem?_eq_some_iff.1 hh).1

theorem W.own_lt (h : W G w0 M s w) {t B : Nat} (ho : Own M s t B) : B < w.heap.size := by
  rcases ho with ⟨n, sz, ty, cap, ty', ht, hH, hlt⟩ | ⟨sz, ty, els, cap, ty', ht, hH⟩
  · obtain ⟨_, _, _, vs, lo, hi, hh, _⟩ := ((h.tf t n sz ty ht).2.2 B cap ty' hH).2 hlt
    exact (Array.getElem?_eq_some_iff.1 hh).1
  · obtain ⟨_, _, _, B', cap', vs, hH', _, _, _, _, hh, _⟩ := h.tg t sz ty els ht
    rw [hH] at hH'; cases hH'
    exact (Array.getElem?_eq_some_iff.1 hh).1

theorem W.own_φ (h : W G w0 M s w) {t B : Nat} (ho : Own M s t B) (b : Nat) : M.φ b ≠ some B := by
  rcases ho with ⟨n, sz, ty, cap, ty', ht, hH, hlt⟩ | ⟨sz, ty, els, cap, ty', ht, hH⟩
  · exact (((h.tf t n sz ty ht).2.2 B cap ty' hH).2 hlt).2.1 b
  · obtain ⟨_, _, _, B', cap', vs, hH', _, _, hφ, _⟩ := h.tg t sz ty els ht
    rw [hH] at hH'; cases hH'
    exact hφ b

theorem heap_alloc (w : World) (o : Obj) (k : Nat) : (w.alloc o).heap[k]? = if k = w.heap.size then some o else w.heap[k]? := by
  show (w.heap.push o)[k]? = _
  rw [Array.getElem?_push]

/-- A new block that nothing speaks of. -/
theorem W.alloc (h : W G w0 M s w) (o : Obj) : W G w0 M s (w.alloc o) := by
  have hne : ∀ {B : Nat} {x : Obj}, w.heap[B]? = some x → (w.alloc o).heap[B]? = some x := by
    intro B x hx
    rw [heap_alloc, if_neg (by have := (Array.getElem?_eq_some_iff.1 hx).1; omega)]; exact hx
  refine ⟨h.below.alloc h.below.size o, h.gl, ?_, ?_, h.inj, h.nt, fun t n B cap ty hH => ⟨(h.hb t n B cap ty hH).1, (h.hb t n B cap ty hH).2.imp fun _ => Exists.imp fun _ => hne⟩, h.ht, h.tb, ?_, ?_, h.tinj, fun b T hb => ⟨(h.ty b T hb).1, fun B hB => ((h.ty b T hb).2 B hB).imp fun _ => Exists.imp fun _ => hne⟩⟩
  · intro B i v hf
    rw [World.cell?_alloc_lt w o ⟨B, i, none⟩ (h.F_lt hf)]; exact h.fz B i v hf
  · intro b B hb
    obtain ⟨h1, h2, h3, cs, vs, e, h4, h5, h6⟩ := h.hp b B hb
    exact ⟨h1, h2, h3, cs, vs, e, h4, hne h5, h6⟩
  · intro t n sz ty ht
    refine ⟨(h.tf t n sz ty ht).1, (h.tf t n sz ty ht).2.1, fun B cap ty' hH => ⟨((h.tf t n sz ty ht).2.2 B cap ty' hH).1, fun hlt => ?_⟩⟩
    obtain ⟨h1, h2, h3, vs, lo, hi, h4, h5⟩ := ((h.tf t n sz ty ht).2.2 B cap ty' hH).2 hlt
    exact ⟨h1, h2, h3, vs, lo, hi, hne h4, h5⟩
  · intro t sz ty els ht
    obtain ⟨h1, h2, h3, B, cap, vs, h4, h5, h6, h7, h8, h9, h10⟩ := h.tg t sz ty els ht
    exact ⟨h1, h2, h3, B, cap, vs, h4, h5, h6, h7, h8, hne h9, h10⟩

/-- A block that nothing speaks of. -/
structure Fresh (M : Mem) (s : St) (B : Nat) : Prop where
  φ : ∀ b, M.φ b ≠ some B
  F : ∀ o, M.F B o = none
  own : ∀ t, ¬ Own M s t B

theorem W.fresh (h : W G w0 M s w) {B : Nat} (hB : w.heap.size ≤ B) : Fresh M s B :=
  ⟨fun b e => by have := h.φ_lt e; omega, fun o => by
    cases hf : M.F B o with
    | none => rfl
    | some v => have := h.F_lt hf; omega, fun t ho => by have := h.own_lt ho; omega⟩

def Mem.box (M : Mem) (b B : Nat) : Mem := { M with φ := fun x => if x = b then some B else M.φ x }

theorem Mem.le_box {M : Mem} {b B : Nat} (h : M.φ b = none) : M.le (M.box b B) :=
  ⟨fun x y hx => by
    show (if x = b then some B else M.φ x) = some y
    split
    · rename_i e; subst e; rw [h] at hx; cases hx
    · exact hx, fun _ _ _ h => h, fun _ _ _ h => h, fun _ _ h => h⟩

theorem W.φ_nx (h : W G w0 M s w) {b : Nat} (hb : s.nx ≤ b) : M.φ b = none := by
  cases hf : M.φ b with
  | none => rfl
  | some B => have := (h.hp b B hf).1; omega

theorem Own.box {M : Mem} {s s' : St} {b B t B' : Nat} (hs : s'.tk = s.tk) : Own (M.box b B) s' t B' ↔ Own M s t B' := by
  unfold Own Mem.box; rw [hs]

/-- A fresh block becomes a box: one that stands in the state already (b below nx, with these cells, and not made yet). -/
theorem W.realize (h : W G w0 M s w) {b B : Nat} {cs : List AV} {vs : Array Value} {e : TypeId} (hlt : b < s.nx) (hn : M.φ b = none)
    (hB : w0.heap.size ≤ B) (hf : Fresh M s B) (hcs : s.hp.get b = some cs) (hh : w.heap[B]? = some (.cells vs e (0, 0))) (hc : CR M cs vs.toList)
    (hTy : ∀ T, s.ty.get b = some T → T = e) :
    W G w0 (M.box b B) s w ∧ M.le (M.box b B) := by
  have hle : M.le (M.box b B) := Mem.le_box hn
  refine ⟨⟨h.below, fun g cs hg => (h.gl g cs hg).mono hle, h.fz, ?_, ?_, h.nt, h.hb, h.ht, h.tb, ?_, ?_, ?_, fun x T hx => ⟨(h.ty x T hx).1, fun y hy => ?_⟩⟩, hle⟩
  · intro x y hx
    by_cases hxb : x = b
    · subst hxb
      have : y = B := by simpa [Mem.box] using hx.symm
      subst this
      exact ⟨hlt, hB, hf.F, cs, vs, e, hcs, hh, hc.mono hle⟩
    · have hx' : M.φ x = some y := by simpa [Mem.box, hxb] using hx
      obtain ⟨h1, h2, h3, cs', vs', e', h4, h5, h6⟩ := h.hp x y hx'
      exact ⟨h1, h2, h3, cs', vs', e', h4, h5, h6.mono hle⟩
  · intro x x' y hx hx'
    by_cases hxb : x = b <;> by_cases hxb' : x' = b
    · omega
    · have e1 : y = B := by simpa [Mem.box, hxb] using hx.symm
      have e2 : M.φ x' = some y := by simpa [Mem.box, hxb'] using hx'
      exact absurd (e1 ▸ e2) (hf.φ x')
    · have e1 : y = B := by simpa [Mem.box, hxb'] using hx'.symm
      have e2 : M.φ x = some y := by simpa [Mem.box, hxb] using hx
      exact absurd (e1 ▸ e2) (hf.φ x)
    · exact h.inj x x' y (by simpa [Mem.box, hxb] using hx) (by simpa [Mem.box, hxb'] using hx')
  · intro t n sz ty ht
    refine ⟨(h.tf t n sz ty ht).1, (h.tf t n sz ty ht).2.1, fun B' cap ty' hH => ⟨((h.tf t n sz ty ht).2.2 B' cap ty' hH).1, fun hnc => ?_⟩⟩
    obtain ⟨h1, h2, h3, h4⟩ := ((h.tf t n sz ty ht).2.2 B' cap ty' hH).2 hnc
    refine ⟨h1, fun x => ?_, h3, h4⟩
    by_cases hxb : x = b
    · subst hxb
      intro e
      have : B = B' := by simpa [Mem.box] using e
      exact hf.own t (.inl ⟨n, sz, ty, cap, ty', ht, this ▸ hH, hnc⟩)
    · simpa [Mem.box, hxb] using h2 x
  · intro t sz ty els ht
    obtain ⟨h1, h2, h3, B', cap, vs', h4, h5, h6, h7, h8, h9, h10, h11⟩ := h.tg t sz ty els ht
    refine ⟨h1, h2, h3, B', cap, vs', h4, h5, h6, fun x => ?_, h8, h9, h10, h11.mono hle⟩
    by_cases hxb : x = b
    · subst hxb
      intro e
      have : B = B' := by simpa [Mem.box] using e
      exact hf.own t (.inr ⟨sz, ty, els, cap, ty, ht, this ▸ h4⟩)
    · simpa [Mem.box, hxb] using h7 x
  · intro t t' B' h1 h2
    exact h.tinj t t' B' ((Own.box rfl).1 h1) ((Own.box rfl).1 h2)
  · by_cases hxb : x = b
    · subst hxb
      have : y = B := by simpa [Mem.box] using hy.symm
      subst this
      exact ⟨vs, (0, 0), by rw [hTy T hx]; exact hh⟩
    · exact (h.ty x T hx).2 y (by simpa [Mem.box, hxb] using hy)

/-- A box in the state that no run has made yet. -/
theorem W.put (h : W G w0 M s w) (cs : List AV) (e : Nat) : W G w0 M { s with hp := s.hp.set s.nx cs, nx := s.nx + 1, ty := s.ty.set s.nx e } w := by
  refine ⟨h.below, h.gl, h.fz, fun b B hb => ?_, h.inj, h.nt, h.hb, h.ht, h.tb, h.tf, h.tg, h.tinj, fun b T hb => ?_⟩
  · obtain ⟨h1, h2, h3, cs', vs, e, h4, h5, h6⟩ := h.hp b B hb
    refine ⟨by show b < s.nx + 1; omega, h2, h3, cs', vs, e, ?_, h5, h6⟩
    rw [Tr.get_set, if_neg (by omega)]; exact h4
  · have hb' : (s.ty.set s.nx e).get b = some T := hb
    rw [Tr.get_set] at hb'
    by_cases hbn : b = s.nx
    · subst hbn
      exact ⟨Nat.lt_succ_self _, fun B hB => by rw [h.φ_nx (Nat.le_refl _)] at hB; cases hB⟩
    · rw [if_neg hbn] at hb'
      exact ⟨Nat.lt_succ_of_lt (h.ty b T hb').1, (h.ty b T hb').2⟩

theorem W.newBox (h : W G w0 M s w) {cs : List AV} {vs : Array Value} (hc : CR M cs vs.toList) (e : TypeId) :
    W G w0 (M.box s.nx w.heap.size) { s with hp := s.hp.set s.nx cs, nx := s.nx + 1, ty := s.ty.set s.nx e } (w.alloc (.cells vs e)) ∧
    Ext M s (M.box s.nx w.heap.size) { s with hp := s.hp.set s.nx cs, nx := s.nx + 1, ty := s.ty.set s.nx e } := by
  have h1 := ((h.alloc (.cells vs e)).put cs e)
  have hn : M.φ s.nx = none := h.φ_nx (Nat.le_refl _)
  have hf : Fresh M { s with hp := s.hp.set s.nx cs, nx := s.nx + 1, ty := s.ty.set s.nx e } w.heap.size := by
    have := h.fresh (Nat.le_refl w.heap.size)
    exact ⟨this.φ, this.F, this.own⟩
  have := h1.realize (b := s.nx) (B := w.heap.size) (cs := cs) (vs := vs) (e := e) (Nat.lt_succ_self _) hn h.below.size hf
    (by rw [Tr.get_set, if_pos rfl]) (by rw [heap_alloc, if_pos rfl]) hc (fun T hT => by rw [Tr.get_set, if_pos rfl] at hT; cases hT; rfl)
  refine ⟨this.1, ⟨this.2, Nat.le_succ _, fun b hb hnb => ⟨?_, ?_⟩, fun b hb => ?_⟩⟩
  · simp [Mem.box, Nat.ne_of_lt hb, hnb]
  · rw [Tr.get_set, if_neg (by omega)]
  · show (s.ty.set s.nx e).get b = _
    rw [Tr.get_set, if_neg (by omega)]

/-- A box is written. -/
theorem W.setBox (h : W G w0 M s w) {b B : Nat} {cs : List AV} {vs' : Array Value} (hb : M.φ b = some B) (hc : CR M cs vs'.toList) :
    W G w0 M { s with hp := s.hp.set b cs } (w.setRow B vs') ∧ Ext M s M { s with hp := s.hp.set b cs } := by
  obtain ⟨h1, h2, h3, cs0, vs0, e0, h4, h5, h6⟩ := h.hp b B hb
  have hne : ∀ {k : Nat} {x : Obj}, k ≠ B → w.heap[k]? = some x → (w.setRow B vs').heap[k]? = some x := fun hk hx => by
    rw [setRow_other w B _ vs' hk]; exact hx
  refine ⟨⟨below_setRow h.below h2 vs', h.gl, ?_, ?_, h.inj, h.nt, ?_, h.ht, h.tb, ?_, ?_, h.tinj, fun x T hx => ⟨(h.ty x T hx).1, fun y hy => ?_⟩⟩, ⟨.refl M, Nat.le_refl _, fun x hx hnx => ⟨hnx, ?_⟩, fun _ _ => rfl⟩⟩
  · intro B' o v hf
    rw [cell_setRow_other w B vs' ⟨B', o, none⟩ (by intro e; simp only at e; subst e; rw [h3 o] at hf; cases hf)]
    exact h.fz B' o v hf
  · intro x y hx
    by_cases hxb : x = b
    · subst hxb
      rw [hb] at hx; cases hx
      exact ⟨h1, h2, h3, cs, vs', e0, by rw [Tr.get_set, if_pos rfl], setRow_heap w B vs0 vs' e0 (0, 0) h5, hc⟩
    · obtain ⟨k1, k2, k3, cs', vs1, e1, k4, k5, k6⟩ := h.hp x y hx
      refine ⟨k1, k2, k3, cs', vs1, e1, by rw [Tr.get_set, if_neg hxb]; exact k4, hne (fun e => hxb (h.inj x b B (e ▸ hx) hb)) k5, k6⟩
  · intro t n B' cap ty hH
    obtain ⟨k1, vs, fr, k2⟩ := h.hb t n B' cap ty hH
    refine ⟨k1, ?_⟩
    by_cases e : B' = B
    · subst e
      rw [h5] at k2; cases k2
      exact ⟨vs', (0, 0), setRow_heap w B' vs0 vs' _ (0, 0) h5⟩
    · exact ⟨vs, fr, hne e k2⟩
  · intro t n sz ty ht
    refine ⟨(h.tf t n sz ty ht).1, (h.tf t n sz ty ht).2.1, fun B' cap ty' hH => ⟨((h.tf t n sz ty ht).2.2 B' cap ty' hH).1, fun hlt => ?_⟩⟩
    obtain ⟨k1, k2, k3, vs, lo, hi, k4, k5⟩ := ((h.tf t n sz ty ht).2.2 B' cap ty' hH).2 hlt
    exact ⟨k1, k2, k3, vs, lo, hi, hne (fun e => k2 b (e ▸ hb)) k4, k5⟩
  · intro t sz ty els ht
    obtain ⟨k1, k2, k3, B', cap, vs, k4, k5, k6, k7, k8, k9, k10⟩ := h.tg t sz ty els ht
    exact ⟨k1, k2, k3, B', cap, vs, k4, k5, k6, k7, k8, hne (fun e => k7 b (e ▸ hb)) k9, k10⟩
  · obtain ⟨vs2, fr2, k1⟩ := (h.ty x T hx).2 y hy
    by_cases e : y = B
    · subst e
      rw [h5] at k1; cases k1
      exact ⟨vs', (0, 0), setRow_heap w y vs0 vs' _ (0, 0) h5⟩
    · exact ⟨vs2, fr2, hne e k1⟩
  · rw [Tr.get_set, if_neg (by intro e; subst e; rw [hb] at hnx; cases hnx)]
end

-- ---------------------------------------------------------------- slices and their tokens
theorem flat_length {els : List AV} {sz : Nat} (h : ∀ e ∈ els, e.cells.length = sz) : (flat els).length = els.length * sz := by
  induction els with
  | nil => simp [flat]
  | cons x xs ih =>
    simp only [flat, List.length_append, List.length_cons]
    rw [h x (by simp), ih (fun e he => h e (by simp [he])), Nat.add_mul, Nat.one_mul, Nat.add_comm]

theorem flat_append (xs ys : List AV) : flat (xs ++ ys) = flat xs ++ flat ys := by
  induction xs with
  | nil => rfl
  | cons x xs ih => simp [flat, ih, List.append_assoc]

theorem flat_get {els : List AV} {sz i o : Nat} {e x : AV} (h : ∀ e ∈ els, e.cells.length = sz) (hi : els[i]? = some e) (ho : e.cells[o]? = some x) :
    (flat els)[i * sz + o]? = some x := by
  induction els generalizing i with
  | nil => simp at hi
  | cons y ys ih =>
    have hy : y.cells.length = sz := h y (by simp)
    cases i with
    | zero =>
      simp at hi; subst hi
      have hlt : o < y.cells.length := by rcases Nat.lt_or_ge o y.cells.length with h' | h'; exact h'; rw [List.getElem?_eq_none h'] at ho; cases ho
      simp only [flat, Nat.zero_mul, Nat.zero_add]
      rw [List.getElem?_append_left hlt]; exact ho
    | succ i =>
      simp only [List.getElem?_cons_succ] at hi
      have := ih (fun e he => h e (by simp [he])) hi
      simp only [flat]
      rw [List.getElem?_append_right (by rw [hy, Nat.add_mul, Nat.one_mul]; omega), hy,
        show (i + 1) * sz + o - sz = i * sz + o from by rw [Nat.add_mul, Nat.one_mul]; omega]
      exact this

/-- More is told: cells o .. of a block hold these, and nobody writes them any more; of a token, where its slice lay at a length. -/
def Mem.told (M : Mem) (B k : Nat) (vs : List Value) : Mem := { M with F := fun B' o => if B' = B ∧ o < k then vs[o]? else M.F B' o }
def Mem.at (M : Mem) (t n : Nat) (x : Nat × Nat × Nat) : Mem := { M with H := fun t' n' => if t' = t ∧ n' = n then some x else M.H t' n' }
def Mem.sized (M : Mem) (t sz : Nat) : Mem := { M with Z := fun t' => if t' = t then some sz else M.Z t' }

theorem Mem.le_told {M : Mem} {B k : Nat} {vs : List Value} (h : ∀ o v, M.F B o = some v → o < k → vs[o]? = some v) : M.le (M.told B k vs) :=
  ⟨fun _ _ h => h, fun B' o v hf => by
    show (if B' = B ∧ o < k then vs[o]? else M.F B' o) = some v
    split
    · rename_i e; exact h o v (e.1 ▸ hf) e.2
    · exact hf, fun _ _ _ h => h, fun _ _ h => h⟩

theorem Mem.le_at {M : Mem} {t n : Nat} {x : Nat × Nat × Nat} (h : M.H t n = none ∨ M.H t n = some x) : M.le (M.at t n x) :=
  ⟨fun _ _ h => h, fun _ _ _ h => h, fun t' n' y hy => by
    show (if t' = t ∧ n' = n then some x else M.H t' n') = some y
    split
    · rename_i e; obtain ⟨rfl, rfl⟩ := e
      rcases h with h | h <;> rw [h] at hy
      · cases hy
      · exact hy
    · exact hy, fun _ _ h => h⟩

theorem Mem.le_sized {M : Mem} {t sz : Nat} (h : M.Z t = none) : M.le (M.sized t sz) :=
  ⟨fun _ _ h => h, fun _ _ _ h => h, fun _ _ _ h => h, fun t' y hy => by
    show (if t' = t then some sz else M.Z t') = some y
    split
    · rename_i e; subst e; rw [h] at hy; cases hy
    · exact hy⟩

theorem Mem.le_sized' {M : Mem} {t sz : Nat} (h : M.Z t = none ∨ M.Z t = some sz) : M.le (M.sized t sz) := by
  rcases h with h | h
  · exact Mem.le_sized h
  · refine ⟨fun _ _ h => h, fun _ _ _ h => h, fun _ _ _ h => h, fun t' y hy => ?_⟩
    show (if t' = t then some sz else M.Z t') = some y
    split
    · rename_i e; subst e; rw [h] at hy; exact hy
    · exact hy

section
variable {G : Nat → Option (List AV)} {w0 : World} {M : Mem} {s : St} {w : World}

/-- What is asked of a world w' in which block B alone has turned: as seen from all else. -/
structure But (w0 w w' : World) (B : Nat) : Prop where
  below : Below w0.heap.size w0 w'
  other : ∀ k x, k ≠ B → w.heap[k]? = some x → w'.heap[k]? = some x
  kind : ∀ vs e fr, w.heap[B]? = some (.cells vs e fr) → ∃ vs', w'.heap[B]? = some (.cells vs' e fr)

theorem W.but_setRow (h : W G w0 M s w) {B : Nat} (hB : w0.heap.size ≤ B) (vs : Array Value) : But w0 w (w.setRow B vs) B :=
  ⟨below_setRow h.below hB vs, fun k x hk hx => by rw [setRow_other w B k vs hk]; exact hx, fun vs0 e fr hx => ⟨vs, setRow_heap w B vs0 vs e fr hx⟩⟩

theorem W.but_alloc (h : W G w0 M s w) (o : Obj) : But w0 w (w.alloc o) w.heap.size :=
  ⟨h.below.alloc h.below.size o, fun k x hk hx => by rw [heap_alloc, if_neg hk]; exact hx, fun vs e fr hx => by have := (Array.getElem?_eq_some_iff.1 hx).1; omega⟩

/-- A token's slice, told: its block is fresh, or the token's own, and now holds its elements. -/
theorem W.tokF (h : W G w0 M s w) {w' : World} {t B n sz cap : Nat} {els : List AV} {vs : Array Value} {ty : TypeId} {lo hi : Nat}
    (hb : But w0 w w' B) (ht0 : 0 < t) (ht1 : t < s.nt) (hB : w0.heap.size ≤ B)
    (hown : Own M s t B ∨ Fresh M s B)
    (hZ : M.Z t = none ∨ M.Z t = some sz) (hH : ∀ m, n < m → M.H t m = none) (hHn : M.H t n = none ∨ M.H t n = some (B, cap, ty))
    (hh : w'.heap[B]? = some (.cells vs ty (lo, hi))) (hcap : cap * sz ≤ vs.size) (hfr : hi ≤ n * sz)
    (hF : ∀ o v, M.F B o = some v → o < n * sz ∧ vs[o]? = some v) (hn : n ≤ cap) (hlen : els.length = n) (hsz : ∀ e ∈ els, e.cells.length = sz)
    (hc : CR M (flat els) (vs.toList.take (n * sz))) :
    let M' := ((M.told B (n * sz) vs.toList).sized t sz).at t n (B, cap, ty)
    let s' : St := { s with tk := s.tk.set t (.f n sz ty) }
    W G w0 M' s' w' ∧ Ext M s M' s' ∧ CR M' [.sl t n els] [.slice (some ⟨B, 0, none⟩) n cap] := by
  intro M' s'
  have hle1 : M.le (M.told B (n * sz) vs.toList) := Mem.le_told fun o v hf hlt => by simpa using (hF o v hf).2
  have hle2 : (M.told B (n * sz) vs.toList).le ((M.told B (n * sz) vs.toList).sized t sz) := Mem.le_sized' hZ
  have hle : M.le M' := (hle1.trans hle2).trans (Mem.le_at (M := (M.told B (n * sz) vs.toList).sized t sz) hHn)
  have hφ : ∀ b, M.φ b ≠ some B := fun b => by
    rcases hown with ho | ho
    · exact h.own_φ ho b
    · exact ho.φ b
  have hoth : ∀ t', t' ≠ t → ¬ Own M s t' B := fun t' hne ho => by
    rcases hown with ho' | ho'
    · exact hne (h.tinj t' t B ho ho')
    · exact ho'.own t' ho
  have hownne : ∀ t' B', t' ≠ t → Own M' s' t' B' → Own M s t' B' := by
    intro t' B' hne ho
    rcases ho with ⟨n', sz', ty1, cap', ty2, k1, k2, k3⟩ | ⟨sz', ty1, els', cap', ty2, k1, k2⟩
    · refine .inl ⟨n', sz', ty1, cap', ty2, ?_, ?_, k3⟩
      · have : (s.tk.set t (.f n sz ty)).get t' = some (.f n' sz' ty1) := k1
        rwa [Tr.get_set, if_neg hne] at this
      · simpa [M', Mem.at, Mem.told, Mem.sized, hne] using k2
    · refine .inr ⟨sz', ty1, els', cap', ty2, ?_, ?_⟩
      · have : (s.tk.set t (.f n sz ty)).get t' = some (.g sz' ty1 els') := k1
        rwa [Tr.get_set, if_neg hne] at this
      · simpa [M', Mem.at, Mem.told, Mem.sized, hne] using k2
  have hownt : ∀ B', Own M' s' t B' → B' = B := by
    intro B' ho
    rcases ho with ⟨n', sz', ty1, cap', ty2, k1, k2, k3⟩ | ⟨sz', ty1, els', cap', ty2, k1, k2⟩
    · have k1' : (s.tk.set t (.f n sz ty)).get t = some (.f n' sz' ty1) := k1
      rw [Tr.get_set, if_pos rfl] at k1'
      cases k1'
      have : (B, cap, ty) = (B', cap', ty2) := by simpa [M', Mem.at] using k2
      cases this; rfl
    · have k1' : (s.tk.set t (.f n sz ty)).get t = some (.g sz' ty1 els') := k1
      rw [Tr.get_set, if_pos rfl] at k1'
      cases k1'
  refine ⟨⟨hb.below, fun g cs hg => (h.gl g cs hg).mono hle, ?_, ?_, h.inj, h.nt, ?_, ?_, ?_, ?_, ?_, ?_, fun x T hx => ⟨(h.ty x T hx).1, fun y hy => let ⟨vs2, fr2, k⟩ := (h.ty x T hx).2 y hy; ⟨vs2, fr2, hb.other y _ (fun e => hφ x (e ▸ hy)) k⟩⟩⟩, ⟨hle, Nat.le_refl _, fun b _ hn => ⟨hn, rfl⟩, fun _ _ => rfl⟩, ?_⟩
  · intro B' o v hf
    by_cases hB' : B' = B
    · subst hB'
      have : vs[o]? = some v := by
        by_cases ho : o < n * sz
        · simpa [M', Mem.at, Mem.told, Mem.sized, ho] using hf
        · have : M.F B' o = some v := by simpa [M', Mem.at, Mem.told, Mem.sized, ho] using hf
          exact (hF o v this).2
      simp [World.cell?, hh, this]
    · have hf' : M.F B' o = some v := by simpa [M', Mem.at, Mem.told, Mem.sized, hB'] using hf
      have h1 := h.fz B' o v hf'
      have hlt := h.F_lt hf'
      have : w'.heap[B']? = w.heap[B']? := by
        have hx : w.heap[B']? = some w.heap[B'] := Array.getElem?_eq_getElem hlt
        rw [hx]; exact hb.other B' _ hB' hx
      rw [World.cell?_of_block (a := ⟨B', o, none⟩) this]; exact h1
  · intro b B' hb'
    obtain ⟨h1, h2, h3, cs, vs', e', h4, h5, h6⟩ := h.hp b B' hb'
    have hne : B' ≠ B := fun e => hφ b (e ▸ hb')
    exact ⟨h1, h2, fun o => by simpa [M', Mem.at, Mem.told, Mem.sized, hne] using h3 o, cs, vs', e', h4, hb.other B' _ hne h5, h6.mono hle⟩
  · intro t' n' B' cap' ty' hx
    by_cases e : t' = t ∧ n' = n
    · have : (B, cap, ty) = (B', cap', ty') := by simpa [M', Mem.at, e.1, e.2] using hx
      cases this; exact ⟨hB, vs, (lo, hi), hh⟩
    · obtain ⟨k1, vs1, fr1, k2⟩ := h.hb t' n' B' cap' ty' (by simpa [M', Mem.at, Mem.told, Mem.sized, e] using hx)
      refine ⟨k1, ?_⟩
      by_cases eB : B' = B
      · subst eB; obtain ⟨vs2, k3⟩ := hb.kind vs1 ty' fr1 k2; exact ⟨vs2, fr1, k3⟩
      · exact ⟨vs1, fr1, hb.other B' _ eB k2⟩
  · intro t' h'
    have hne : t' ≠ t := by
      rcases h' with h' | h'
      · omega
      · have : s.nt ≤ t' := h'
        omega
    refine ⟨by simpa [M', Mem.at, Mem.told, Mem.sized, hne] using (h.ht t' h').1, fun m => ?_⟩
    simpa [M', Mem.at, Mem.told, Mem.sized, hne] using (h.ht t' h').2 m
  · intro t' k hk
    by_cases hne : t' = t
    · subst hne; exact ⟨ht0, ht1⟩
    · have : (s.tk.set t (.f n sz ty)).get t' = some k := hk
      rw [Tr.get_set, if_neg hne] at this
      exact h.tb t' k this
  · intro t' n' sz' ty1 hk
    have hk' : (s.tk.set t (.f n sz ty)).get t' = some (.f n' sz' ty1) := hk
    by_cases hne : t' = t
    · subst hne
      rw [Tr.get_set, if_pos rfl] at hk'
      cases hk'
      refine ⟨by simp [M', Mem.at, Mem.told, Mem.sized], fun m hm => ?_, fun B' cap' ty' hH' => ?_⟩
      · have : m ≠ n := by omega
        simpa [M', Mem.at, Mem.told, Mem.sized, this] using hH m hm
      · have : (B, cap, ty) = (B', cap', ty') := by simpa [M', Mem.at] using hH'
        cases this
        refine ⟨rfl, fun _ => ⟨hB, hφ, fun o v hf => ?_, vs, lo, hi, hh, hcap, hfr⟩⟩
        by_cases ho : o < n * sz
        · exact ho
        · have : M.F B o = some v := by simpa [M', Mem.at, Mem.told, Mem.sized, ho] using hf
          exact (hF o v this).1
    · rw [Tr.get_set, if_neg hne] at hk'
      refine ⟨by simpa [M', Mem.at, Mem.told, Mem.sized, hne] using (h.tf t' n' sz' ty1 hk').1, fun m hm => by simpa [M', Mem.at, Mem.told, Mem.sized, hne] using (h.tf t' n' sz' ty1 hk').2.1 m hm, fun B' cap' ty' hH' => ?_⟩
      have hH'' : M.H t' n' = some (B', cap', ty') := by simpa [M', Mem.at, Mem.told, Mem.sized, hne] using hH'
      refine ⟨((h.tf t' n' sz' ty1 hk').2.2 B' cap' ty' hH'').1, fun hlt => ?_⟩
      obtain ⟨k1, k2, k3, vs', lo', hi', k4, k5⟩ := ((h.tf t' n' sz' ty1 hk').2.2 B' cap' ty' hH'').2 hlt
      have hneB : B' ≠ B := fun e => hoth t' hne (.inl ⟨n', sz', ty1, cap', ty', hk', e ▸ hH'', hlt⟩)
      exact ⟨k1, k2, fun o v hf => k3 o v (by simpa [M', Mem.at, Mem.told, Mem.sized, hneB] using hf), vs', lo', hi', hb.other B' _ hneB k4, k5⟩
  · intro t' sz' ty1 els' hk
    have hk' : (s.tk.set t (.f n sz ty)).get t' = some (.g sz' ty1 els') := hk
    by_cases hne : t' = t
    · subst hne; rw [Tr.get_set, if_pos rfl] at hk'; cases hk'
    · rw [Tr.get_set, if_neg hne] at hk'
      obtain ⟨k1, k2, k3, B', cap', vs', k4, k5, k6, k7, k8, k9, k10, k11⟩ := h.tg t' sz' ty1 els' hk'
      have hneB : B' ≠ B := fun e => hoth t' hne (.inr ⟨sz', ty1, els', cap', ty1, hk', e ▸ k4⟩)
      refine ⟨by simpa [M', Mem.at, Mem.told, Mem.sized, hne] using k1, fun m hm => by simpa [M', Mem.at, Mem.told, Mem.sized, hne] using k2 m hm, k3, B', cap', vs', by simpa [M', Mem.at, Mem.told, Mem.sized, hne] using k4, k5, k6, k7,
        fun o => by simpa [M', Mem.at, Mem.told, Mem.sized, hneB] using k8 o, hb.other B' _ hneB k9, k10, k11.mono hle⟩
  · intro t1 t2 B' h1 h2
    by_cases e1 : t1 = t <;> by_cases e2 : t2 = t
    · omega
    · subst e1
      have := hownt B' h1; subst this
      exact absurd (hownne t2 _ e2 h2) (hoth t2 e2)
    · subst e2
      have := hownt B' h2; subst this
      exact absurd (hownne t1 _ e1 h1) (hoth t1 e1)
    · exact h.tinj t1 t2 B' (hownne t1 B' e1 h1) (hownne t2 B' e2 h2)
  · refine .sl (O := 0) (us := vs.toList.take (n * sz)) hn hlen hsz ?_ (hc.mono hle) (fun _ => ⟨rfl, by simp [M', Mem.at, Mem.sized], ty, by simp [M', Mem.at]⟩) .nil
    intro i v hv
    rw [List.getElem?_take] at hv
    split at hv
    · rename_i hlt
      simp only [Nat.zero_add]
      simpa [M', Mem.at, Mem.told, Mem.sized, hlt] using hv
    · cases hv
end

end Go.Proofs.YtmoihglcdmmmlaaGreatDoor
