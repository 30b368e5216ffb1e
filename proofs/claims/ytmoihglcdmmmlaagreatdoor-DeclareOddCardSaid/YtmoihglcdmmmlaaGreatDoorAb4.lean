/-
  The same, for a slice that stays its maker's own, and for bytes that become a string's.
-/
import Derived.Test.YtmoihglcdmmmlaaGreatDoorAb3
set_option linter.unusedSimpArgs false
set_option linter.unusedVariables false
namespace Go.Proofs.YtmoihglcdmmmlaaGreatDoor
open Go Go.RowKit

section
variable {G : Nat → Option (List AV)} {w0 : World} {M : Mem} {s : St} {w : World}

theorem W.bump (h : W G w0 M s w) : W G w0 M { s with nt := s.nt + 1 } w :=
  ⟨h.below, h.gl, h.fz, h.hp, h.inj, Nat.succ_pos _, h.hb, fun t ht => h.ht t (by rcases ht with ht | ht; exact .inl ht; exact .inr (by have : s.nt + 1 ≤ t := ht; omega)),
    fun t k hk => ⟨(h.tb t k hk).1, Nat.lt_succ_of_lt (h.tb t k hk).2⟩, h.tf, h.tg, h.tinj, h.ty⟩

theorem W.tk_nt (h : W G w0 M s w) {t : Nat} (ht : s.nt ≤ t) : s.tk.get t = none := by
  cases hk : s.tk.get t with
  | none => rfl
  | some k => have := (h.tb t k hk).2; omega

/-- A token's slice, its maker's own. -/
theorem W.tokG (h : W G w0 M s w) {w' : World} {t B sz cap : Nat} {els : List AV} {vs : Array Value} {ty : TypeId}
    (hb : But w0 w w' B) (ht0 : 0 < t) (ht1 : t < s.nt) (hB : w0.heap.size ≤ B)
    (hown : Own M s t B ∨ Fresh M s B)
    (hZ : M.Z t = none ∨ M.Z t = some sz)
    (hH : ∀ m, els.length < m → M.H t m = none) (hHn : M.H t els.length = none ∨ M.H t els.length = some (B, cap, ty))
    (hh : w'.heap[B]? = some (.cells vs ty (0, 0))) (hcap : cap * sz ≤ vs.size)
    (hF : ∀ o, M.F B o = none) (hn : els.length ≤ cap) (hsz : ∀ e ∈ els, e.cells.length = sz)
    (hc : CR M (flat els) (vs.toList.take (els.length * sz))) :
    let M' := (M.sized t sz).at t els.length (B, cap, ty)
    let s' : St := { s with tk := s.tk.set t (.g sz ty els) }
    W G w0 M' s' w' ∧ Ext M s M' s' ∧ CR M' [.gs t els.length] [.slice (some ⟨B, 0, none⟩) els.length cap] := by
  intro M' s'
  have hle1 : M.le (M.sized t sz) := Mem.le_sized' hZ
  have hle : M.le M' := hle1.trans (Mem.le_at (M := M.sized t sz) hHn)
  have hφ : ∀ b, M.φ b ≠ some B := fun b => by
    rcases hown with ho | ho
    · exact h.own_φ ho b
    · exact ho.φ b
  have hoth : ∀ t', t' ≠ t → ¬ Own M s t' B := fun t' hne ho => by
    rcases hown with ho' | ho'
    · exact hne (h.tinj t' t B ho ho')
    · exact ho'.own t' ho
  have hownne : ∀ t' B', t' ≠ t → Own M' s' t' B' → Own M s t' B' := by
    intro t' B' hne ho
    rcases ho with ⟨n', sz', ty1, cap', ty2, k1, k2, k3⟩ | ⟨sz', ty1, els', cap', ty2, k1, k2⟩
    · refine .inl ⟨n', sz', ty1, cap', ty2, ?_, ?_, k3⟩
      · have : (s.tk.set t (.g sz ty els)).get t' = some (.f n' sz' ty1) := k1
        rwa [Tr.get_set, if_neg hne] at this
      · simpa [M', Mem.at, Mem.sized, hne] using k2
    · refine .inr ⟨sz', ty1, els', cap', ty2, ?_, ?_⟩
      · have : (s.tk.set t (.g sz ty els)).get t' = some (.g sz' ty1 els') := k1
        rwa [Tr.get_set, if_neg hne] at this
      · simpa [M', Mem.at, Mem.sized, hne] using k2
  have hownt : ∀ B', Own M' s' t B' → B' = B := by
    intro B' ho
    rcases ho with ⟨n', sz', ty1, cap', ty2, k1, k2, k3⟩ | ⟨sz', ty1, els', cap', ty2, k1, k2⟩
    · have k1' : (s.tk.set t (.g sz ty els)).get t = some (.f n' sz' ty1) := k1
      rw [Tr.get_set, if_pos rfl] at k1'
      cases k1'
    · have k1' : (s.tk.set t (.g sz ty els)).get t = some (.g sz' ty1 els') := k1
      rw [Tr.get_set, if_pos rfl] at k1'
      cases k1'
      have : (B, cap, ty) = (B', cap', ty2) := by simpa [M', Mem.at] using k2
      cases this; rfl
  refine ⟨⟨hb.below, fun g cs hg => (h.gl g cs hg).mono hle, ?_, ?_, h.inj, h.nt, ?_, ?_, ?_, ?_, ?_, ?_, fun x T hx => ⟨(h.ty x T hx).1, fun y hy => let ⟨vs2, fr2, k⟩ := (h.ty x T hx).2 y hy; ⟨vs2, fr2, hb.other y _ (fun e => hφ x (e ▸ hy)) k⟩⟩⟩, ⟨hle, Nat.le_refl _, fun b _ hn => ⟨hn, rfl⟩, fun _ _ => rfl⟩, ?_⟩
  · intro B' o v hf
    have hf' : M.F B' o = some v := hf
    have hB' : B' ≠ B := fun e => by rw [e, hF o] at hf'; cases hf'
    have h1 := h.fz B' o v hf'
    have hlt := h.F_lt hf'
    have : w'.heap[B']? = w.heap[B']? := by
      have hx : w.heap[B']? = some w.heap[B'] := Array.getElem?_eq_getElem hlt
      rw [hx]; exact hb.other B' _ hB' hx
    rw [World.cell?_of_block (a := ⟨B', o, none⟩) this]; exact h1
  · intro b B' hb'
    obtain ⟨h1, h2, h3, cs, vs', e', h4, h5, h6⟩ := h.hp b B' hb'
    have hne : B' ≠ B := fun e => hφ b (e ▸ hb')
    exact ⟨h1, h2, h3, cs, vs', e', h4, hb.other B' _ hne h5, h6.mono hle⟩
  · intro t' n' B' cap' ty' hx
    by_cases e : t' = t ∧ n' = els.length
    · have : (B, cap, ty) = (B', cap', ty') := by simpa [M', Mem.at, e.1, e.2] using hx
      cases this; exact ⟨hB, vs, (0, 0), hh⟩
    · obtain ⟨k1, vs1, fr1, k2⟩ := h.hb t' n' B' cap' ty' (by simpa [M', Mem.at, Mem.sized, e] using hx)
      refine ⟨k1, ?_⟩
      by_cases eB : B' = B
      · subst eB; obtain ⟨vs2, k3⟩ := hb.kind vs1 ty' fr1 k2; exact ⟨vs2, fr1, k3⟩
      · exact ⟨vs1, fr1, hb.other B' _ eB k2⟩
  · intro t' h'
    have hne : t' ≠ t := by
      rcases h' with h' | h'
      · omega
      · have : s.nt ≤ t' := h'
        omega
    refine ⟨by simpa [M', Mem.at, Mem.sized, hne] using (h.ht t' h').1, fun m => ?_⟩
    simpa [M', Mem.at, Mem.sized, hne] using (h.ht t' h').2 m
  · intro t' k hk
    by_cases hne : t' = t
    · subst hne; exact ⟨ht0, ht1⟩
    · have : (s.tk.set t (.g sz ty els)).get t' = some k := hk
      rw [Tr.get_set, if_neg hne] at this
      exact h.tb t' k this
  · intro t' n' sz' ty1 hk
    have hk' : (s.tk.set t (.g sz ty els)).get t' = some (.f n' sz' ty1) := hk
    by_cases hne : t' = t
    · subst hne; rw [Tr.get_set, if_pos rfl] at hk'; cases hk'
    · rw [Tr.get_set, if_neg hne] at hk'
      refine ⟨by simpa [M', Mem.at, Mem.sized, hne] using (h.tf t' n' sz' ty1 hk').1, fun m hm => by simpa [M', Mem.at, Mem.sized, hne] using (h.tf t' n' sz' ty1 hk').2.1 m hm, fun B' cap' ty' hH' => ?_⟩
      have hH'' : M.H t' n' = some (B', cap', ty') := by simpa [M', Mem.at, Mem.sized, hne] using hH'
      refine ⟨((h.tf t' n' sz' ty1 hk').2.2 B' cap' ty' hH'').1, fun hlt => ?_⟩
      obtain ⟨k1, k2, k3, vs', lo', hi', k4, k5⟩ := ((h.tf t' n' sz' ty1 hk').2.2 B' cap' ty' hH'').2 hlt
      have hneB : B' ≠ B := fun e => hoth t' hne (.inl ⟨n', sz', ty1, cap', ty', hk', e ▸ hH'', hlt⟩)
      exact ⟨k1, k2, k3, vs', lo', hi', hb.other B' _ hneB k4, k5⟩
  · intro t' sz' ty1 els' hk
    have hk' : (s.tk.set t (.g sz ty els)).get t' = some (.g sz' ty1 els') := hk
    by_cases hne : t' = t
    · subst hne
      rw [Tr.get_set, if_pos rfl] at hk'
      cases hk'
      refine ⟨by simp [M', Mem.at, Mem.sized], fun m hm => ?_, hsz, B, cap, vs, by simp [M', Mem.at], hn, hB, hφ, hF, hh, hcap, hc.mono hle⟩
      have : m ≠ els.length := by omega
      simpa [M', Mem.at, Mem.sized, this] using hH m hm
    · rw [Tr.get_set, if_neg hne] at hk'
      obtain ⟨k1, k2, k3, B', cap', vs', k4, k5, k6, k7, k8, k9, k10, k11⟩ := h.tg t' sz' ty1 els' hk'
      have hneB : B' ≠ B := fun e => hoth t' hne (.inr ⟨sz', ty1, els', cap', ty1, hk', e ▸ k4⟩)
      refine ⟨by simpa [M', Mem.at, Mem.sized, hne] using k1, fun m hm => by simpa [M', Mem.at, Mem.sized, hne] using k2 m hm, k3, B', cap', vs', by simpa [M', Mem.at, Mem.sized, hne] using k4, k5, k6, k7,
        k8, hb.other B' _ hneB k9, k10, k11.mono hle⟩
  · intro t1 t2 B' h1 h2
    by_cases e1 : t1 = t <;> by_cases e2 : t2 = t
    · omega
    · subst e1
      have := hownt B' h1; subst this
      exact absurd (hownne t2 _ e2 h2) (hoth t2 e2)
    · subst e2
      have := hownt B' h2; subst this
      exact absurd (hownne t1 _ e1 h1) (hoth t1 e1)
    · exact h.tinj t1 t2 B' (hownne t1 B' e1 h1) (hownne t2 B' e2 h2)
  · exact .gs (e := ty) (by simp [M', Mem.at]) .nil

theorem heap_freeze (w : World) (a : Addr) (n k : Nat) (hn : n ≠ 0) :
    (w.freeze a n).heap[k]? = if a.block = k then (w.heap[k]?).map (fun | .cells c elem (lo, hi) => .cells c elem (if lo == hi then (a.off, a.off + n) else (min lo a.off, max hi (a.off + n))) | o => o) else w.heap[k]? := by
  unfold World.freeze
  rw [if_neg hn]
  simp only [Array.getElem?_modify]
  rfl

/-- Bytes that nobody writes any more become a string's. -/
theorem W.freeze (h : W G w0 M s w) {B o n : Nat} (hn : n ≠ 0) (hF : ∀ i, i < n → ∃ v, M.F B (o + i) = some v) (hge : w0.heap.size ≤ B) :
    W G w0 M s (w.freeze ⟨B, o, none⟩ n) := by
  have hoth : ∀ k, k ≠ B → (w.freeze ⟨B, o, none⟩ n).heap[k]? = w.heap[k]? := fun k hk => by
    rw [heap_freeze _ _ _ _ hn, if_neg (by simpa using Ne.symm hk)]
  obtain ⟨v0, hv0⟩ := hF 0 (by omega)
  have hcell : ∀ (B' i : Nat), (w.freeze ⟨B, o, none⟩ n).cell? ⟨B', i, none⟩ = w.cell? ⟨B', i, none⟩ := by
    intro B' i
    by_cases hk : B' = B
    · subst hk
      unfold World.cell?
      simp only [heap_freeze _ _ _ _ hn, if_true]
      cases hx : w.heap[B']? with
      | none => rfl
      | some x => cases x <;> rfl
    · exact World.cell?_of_block (a := ⟨B', i, none⟩) (hoth B' hk)
  refine ⟨⟨?_, ?_, ?_, ?_, fun k hk => ?_⟩, h.gl, fun B' i v hf => by rw [hcell]; exact h.fz B' i v hf, ?_, h.inj, h.nt, ?_, h.ht, h.tb, ?_, ?_, h.tinj, fun x T hx => ⟨(h.ty x T hx).1, fun y hy => ?_⟩⟩
  · have := h.below.os; unfold World.freeze; split <;> exact this
  · have := h.below.tape; unfold World.freeze; split <;> exact this
  · have := h.below.output; unfold World.freeze; split <;> exact this
  · have := h.below.size; unfold World.freeze; split
    · exact this
    · simpa using this
  · rw [hoth k (by omega)]; exact h.below.block k hk
  · intro b B' hb
    obtain ⟨h1, h2, h3, cs, vs, e, h4, h5, h6⟩ := h.hp b B' hb
    have hne : B' ≠ B := fun e => by subst e; rw [h3] at hv0; cases hv0
    exact ⟨h1, h2, h3, cs, vs, e, h4, by rw [hoth B' hne]; exact h5, h6⟩
  · intro t m B' cap ty hH
    obtain ⟨k1, vs, fr, k2⟩ := h.hb t m B' cap ty hH
    refine ⟨k1, ?_⟩
    by_cases hk : B' = B
    · subst hk
      exact ⟨vs, _, by rw [heap_freeze _ _ _ _ hn, if_pos rfl, k2]; rfl⟩
    · exact ⟨vs, fr, by rw [hoth B' hk]; exact k2⟩
  · intro t m sz ty ht
    refine ⟨(h.tf t m sz ty ht).1, (h.tf t m sz ty ht).2.1, fun B' cap ty' hH => ⟨((h.tf t m sz ty ht).2.2 B' cap ty' hH).1, fun hlt => ?_⟩⟩
    obtain ⟨h1, h2, h3, vs, lo, hi, h4, h5, h6⟩ := ((h.tf t m sz ty ht).2.2 B' cap ty' hH).2 hlt
    by_cases hk : B' = B
    · subst hk
      obtain ⟨v1, hv1⟩ := hF (n - 1) (by omega)
      have hbd := h3 _ v1 hv1
      have hb' : o + n ≤ m * sz := by omega
      by_cases hlo : lo = hi
      · subst hlo
        exact ⟨h1, h2, h3, vs, o, o + n, by rw [heap_freeze _ _ _ _ hn, if_pos rfl, h4]; simp, h5, hb'⟩
      · exact ⟨h1, h2, h3, vs, min lo o, max hi (o + n), by rw [heap_freeze _ _ _ _ hn, if_pos rfl, h4]; simp [hlo], h5, by omega⟩
    · exact ⟨h1, h2, h3, vs, lo, hi, by rw [hoth B' hk]; exact h4, h5, h6⟩
  · intro t sz ty els ht
    obtain ⟨k1, k2, k3, B', cap, vs, k4, k5, k6, k7, k8, k9, k10⟩ := h.tg t sz ty els ht
    have hne : B' ≠ B := fun e => by subst e; rw [k8] at hv0; cases hv0
    exact ⟨k1, k2, k3, B', cap, vs, k4, k5, k6, k7, k8, by rw [hoth B' hne]; exact k9, k10⟩
  · obtain ⟨vs2, fr2, k⟩ := (h.ty x T hx).2 y hy
    have hne : y ≠ B := fun e => by subst e; rw [(h.hp x y hy).2.2.1] at hv0; cases hv0
    exact ⟨vs2, fr2, by rw [hoth y hne]; exact k⟩
end

end Go.Proofs.YtmoihglcdmmmlaaGreatDoor
