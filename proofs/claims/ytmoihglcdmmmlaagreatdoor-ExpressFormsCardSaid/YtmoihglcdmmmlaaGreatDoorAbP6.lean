/-
  ExpressForms answers true, whatever its arguments: the row, and its tied card. The listed variables (strings.asciiSpace, unicode.White_Space) hold what the program's text lays in them: the card ties that.
-/
import Derived.Test.YtmoihglcdmmmlaaGreatDoorAbJ6
import Derived.Test.YtmoihglcdmmmlaaGreatDoorAbR
import Derived.Test.YtmoihglcdmmmlaaGreatDoorAbS
import Derived.Test.YtmoihglcdmmmlaaGreatDoorCards
import Derived.SevenTiedAt
set_option maxRecDepth 100000
namespace Go.Proofs.YtmoihglcdmmmlaaGreatDoor.expressForms
open Go Go.ChangeShapes Go.WideShapes Go.ChangeAt Go.RowKit

theorem walk (a0 : Int) (w : World) (hL : laidMetH Tryz.prog laidL w) : Calls Tryz.prog 6 #[.int .i64 a0] w fun e w' => e = .returned (.bool true) ∧ Below w.heap.size w w' :=
  Tryz.returns Tryz.func6 (by kernel_rfl) (by kernel_rfl) hL (fun M hw hx => Tryz.expressForms_fin a0 w w M _ hw hx) (.int .nil)

theorem lifted (os : Os) (started : os.Started) (H : Type) (enc : TypeId × Value → H) :
    ReturnsInHanded {} Tryz.checked os 6 .any (fun w args => (Rows.expressFormsSpec.pre enc Tryz.prog Tryz.f6 [] false w args ∧ laidMetH Tryz.prog laidL w) ∧ sizedMet enc Tryz.prog Tryz.f6 (OpenSpec.ofChange Rows.expressFormsSpec) false w args)
      (Rows.expressFormsSpec.post enc Tryz.prog Tryz.f6 false true false false) := by
  refine returnsInHanded_of_change_and (C := Tryz.checked) (X := fun w _ => laidMetH Tryz.prog laidL w) (fun _ _ _ hh h => h.of_heap hh) Tryz.own started (by kernel_rfl) Tryz.func6
    (ChangeSpec.witness_shaped (enc := enc) (C := Tryz.checked) (os := os) (X := fun w _ => laidMetH Tryz.prog laidL w) false (World.doorLaid Tryz.prog 33 os) #[.int .i64 0] 8 rfl (World.shaped_of_RefB (by kernel_rfl) (by kernel_rfl)) (by kernel_rfl) (by kernel_rfl) (by kernel_rfl) (Tryz.door_met os _)) ?_
  intro W base args ds gs before hval0 hW _ _ hL _
  have hval : ∀ (j : Nat) t v, Tryz.f6.params[j]? = some t → args[j]? = some v → Value.okWide Tryz.prog W .any base t v := hval0
  have hW' := hW
  obtain ⟨p, q, hA0, hV, rfl, hfz, hnd⟩ := hW
  have hA : DataW.TrodAll enc Tryz.prog W 0 (fun _ => true) true Tryz.f6.params.toList args.toList ds p := hA0
  rw [Tryz.params6] at hA hval
  obtain ⟨v0, vs0, d0, ds0, p0, q0, hargs, rfl, rfl, h0, r0⟩ := trodAll_cons hA
  obtain ⟨rfl, rfl, rfl⟩ := trodAll_nil r0
  obtain rfl : args = #[v0] := by cases args; simp_all
  obtain ⟨rfl, rfl⟩ := trodVars_none hV
  obtain ⟨a0, rfl, rfl, rfl, w0⟩ := open_int Tryz.underlying3 (hval 0 3 v0 rfl rfl) h0
  clear hA0 hval0
  simp only [List.append_nil] at hW'
  refine (walk a0 W hL).mono fun e W' ⟨he, hb⟩ => ?_
  subst he
  refine ⟨_, rfl, _, _, _, [], [], [], hW', ?_, ?_, ?_, hb.frame _, fun h => by cases h⟩
  · exact (trodAll_cons_mk (shut_bool Tryz.underlying4 true) trodAll_mk0)
  · exact (trodAll_cons_mk (shut_int Tryz.underlying3 w0) trodAll_mk0)
  · rfl

theorem cf0 : (Rows.expressFormsRow.wf (OpenSpec.ofChange Rows.expressFormsSpec)) = true := by kernel_rfl
theorem cf3 : (Tryz.f6.params.all (Tryz.prog.readableRec ·)) = true := by kernel_rfl
theorem cf4 : (namedTie Tryz.prog Rows.expressFormsRow.named Rows.expressFormsSpec.vars) = true := by kernel_rfl
theorem cf5 : ((Rows.expressFormsRow.stops == [])) = true := by kernel_rfl
theorem cf6 : ((Tryz.prog.stops == [])) = true := by kernel_rfl
theorem cf7 : ((Rows.expressFormsRow.knobs == [])) = true := by kernel_rfl
theorem cf8 : ((Tryz.prog.stopKnobs == [])) = true := by kernel_rfl
theorem cf9 : ((Rows.expressFormsRow.inPlace == Tryz.prog.inPlace 6)) = true := by kernel_rfl
theorem cf10 : ((Rows.expressFormsRow.unfollowed == Tryz.prog.unfollowed 6)) = true := by kernel_rfl
theorem cf11 : ((Rows.expressFormsRow.recurses == Tryz.prog.recurses 6)) = true := by kernel_rfl
theorem cf12 : ((Rows.expressFormsRow.named == Tryz.prog.varsNamed 6)) = true := by kernel_rfl
theorem cf13 : ((Rows.expressFormsRow.maps == (Tryz.f6.params.toList ++ Rows.expressFormsSpec.plain.varTypes Tryz.prog).any (Tryz.prog.mapsRec ·))) = true := by kernel_rfl
theorem cf14 : ((Rows.expressFormsRow.ifaces == (Tryz.f6.params.toList ++ Rows.expressFormsSpec.plain.varTypes Tryz.prog).any (Tryz.prog.ifacesRec ·))) = true := by kernel_rfl
theorem cf15 : ((Rows.expressFormsRow.mapsOut == Tryz.prog.mapsAmong Tryz.f6.resultTypes.toList)) = true := by kernel_rfl
theorem cf16 : ((Rows.expressFormsRow.loops == (Tryz.f6.params.toList ++ Rows.expressFormsSpec.plain.varTypes Tryz.prog).any (Tryz.prog.loopsFrom ·))) = true := by kernel_rfl
theorem cf17 : ((Rows.expressFormsRow.wideKeys == (Tryz.f6.params.toList ++ Rows.expressFormsSpec.plain.varTypes Tryz.prog ++ Tryz.f6.resultTypes.toList).any (Tryz.prog.wideKeysFrom ·))) = true := by kernel_rfl
theorem cf18 : (Rows.expressFormsSpec.vars.all (Tryz.prog.varReadable ·)) = true := by kernel_rfl
theorem cf19 : (Tryz.f6.resultTypes.all (fun t => Tryz.prog.readableRec t && decide (t < Tryz.prog.types.size))) = true := by kernel_rfl
theorem cf20 : ((Rows.expressFormsRow.ifacesOut == Tryz.f6.resultTypes.toList.any (Tryz.prog.ifacesRec ·))) = true := by kernel_rfl
theorem cf21 : ((Rows.expressFormsRow.loopsOut == Tryz.f6.resultTypes.toList.any (Tryz.prog.loopsFrom ·))) = true := by kernel_rfl
theorem cf22 : ((Rows.expressFormsRow.plainKeys == Tryz.prog.plainKeys)) = true := by kernel_rfl
theorem cf23 : (Rows.expressFormsRow.shortTexts.isNone) = true := by kernel_rfl
theorem cf26 : ((Rows.expressFormsRow.lifted == Tryz.prog.liftsFinal)) = true := by kernel_rfl
theorem cf27 : ((Tryz.prog.make == some Rows.expressFormsRow.make)) = true := by kernel_rfl
theorem cf28 : ((Rows.expressFormsRow.kinds == (if Rows.expressFormsRow.domain.isEmpty then [] else Tryz.f6.params.toList.map fun t => match Tryz.prog.underlying t with | some (.int k) => some k | _ => none))) = true := by kernel_rfl
theorem cf29 : ((Rows.expressFormsRow.pinned == Rows.expressFormsRow.pinnedBy)) = true := by kernel_rfl
theorem cf30 : ((Rows.expressFormsRow.veiled == (Tryz.f6.params.toList ++ Rows.expressFormsSpec.plain.varTypes Tryz.prog ++ Tryz.f6.resultTypes.toList).any (Tryz.prog.veiledRec ·))) = true := by kernel_rfl
theorem cf31 : (Rows.expressFormsRow.veiledFits Tryz.prog Tryz.f6.params.toList (Tryz.f6.params.toList ++ Rows.expressFormsSpec.plain.varTypes Tryz.prog ++ Tryz.f6.resultTypes.toList)) = true := by kernel_rfl
theorem closed : joinedFacts Tryz.prog 6 Tryz.f6 Rows.expressFormsSpec Rows.expressFormsRow = true := (and_mk (and_mk (and_mk (and_mk (and_mk (and_mk (and_mk (and_mk (and_mk (and_mk (and_mk (and_mk (and_mk (and_mk (and_mk (and_mk (and_mk (and_mk (and_mk (and_mk (and_mk (and_mk (and_mk (and_mk (and_mk (and_mk (and_mk (and_mk (and_mk (and_mk (and_mk cf0 Tryz.s_laidOut) Tryz.s_mapsRowed) cf3) cf4) cf5) cf6) cf7) cf8) cf9) cf10) cf11) cf12) cf13) cf14) cf15) cf16) cf17) cf18) cf19) cf20) cf21) cf22) cf23) Tryz.s_stopsHeard) Tryz.s_mayEnter) cf26) cf27) cf28) cf29) cf30) cf31)
theorem over : Rows.expressFormsRow.holds Tryz.pinned (OpenSpec.ofChange Rows.expressFormsSpec) :=
  OpenClaim.holds_of_wide 6 Tryz.f6 rfl rfl rfl rfl rfl rfl rfl ⟨rfl, rfl, rfl, rfl, rfl⟩ rfl rfl rfl rfl rfl (by kernel_rfl) Tryz.func6 closed
    (of_decide_eq_true (by kernel_rfl)) (by unfold Func.isWrapper; first | (rw [if_pos (by decide +kernel)]; kernel_rfl) | (rw [if_neg (by decide +kernel)]; exact ⟨rfl, rfl⟩))
    (fun os started H enc _ => lifted os started H enc)

theorem said : Rows.ExpressFormsSaid := over

theorem c_wf : Rows.expressFormsRow.wfByText (OpenSpec.ofChange Rows.expressFormsSpec) = true := by kernel_rfl
theorem c_name : Tryz.prog.funcNamed Rows.expressFormsRow.func = some 6 := by kernel_rfl
theorem c_goes : false = Rows.expressFormsRow.goesBy Tryz.prog := by kernel_rfl
/-- The tied card. -/
theorem card_holds : Rows.ExpressFormsCardSaid :=
  Claim7.holds_tied_plain_at .later [] [.listed, .data] true (true, "6abe43545066b86bec9e84dc82df264985506e715363bbb6df4da7a8be078729") false
    over (fun _ h => by cases h) c_wf (fun _ h => by cases h) expressForms_row_tie rfl ⟨rfl, rfl⟩ Tryz.s_main rfl
    (fun f fn hf hfn => by
      obtain rfl : f = 6 := Option.some.inj (c_name.symm.trans hf) |>.symm
      obtain rfl : fn = Tryz.f6 := (Option.some.inj (Tryz.func6.symm.trans hfn)).symm
      exact ⟨Tryz.s_looks, fun j t ht => by
        rw [Tryz.params6] at ht
        have h3 : t = 3 := by
          rcases j with _ | j
          · simp at ht; exact ht.symm
          simp at ht
        subst h3
        exact Tryz.s_stand3⟩)
    c_goes
#print axioms card_holds
end Go.Proofs.YtmoihglcdmmmlaaGreatDoor.expressForms
