/-
  From the row's premise on the tables to the executor's start; the worlds that meet the premise.
-/
import Derived.Test.YtmoihglcdmmmlaaGreatDoorRows
import Derived.Test.YtmoihglcdmmmlaaGreatDoorTie
import Derived.Test.YtmoihglcdmmmlaaGreatDoorAbB
import Derived.Test.YtmoihglcdmmmlaaGreatDoorAb21
import Derived.ProofKit
import Derived.LaidMore
import Derived.OpenShut
import Derived.Stop.Joined
import Derived.Stop.LaidErr
import Derived.Lib.LaidTab
set_option maxRecDepth 100000
namespace Go.Proofs.YtmoihglcdmmmlaaGreatDoor
open Go Go.ChangeShapes Go.WideShapes Go.ChangeAt Go.RowKit

abbrev laidL : List (String × DataW Unit) := [("unicode.White_Space", Rows.laid_unicode_White_Space), ("strings.asciiSpace", Rows.laid_strings_asciiSpace)]

theorem Tryz.own : ownKnob Tryz.prog.godebug = none := by kernel_rfl
theorem Tryz.gAscii : Tryz.prog.globalNamed "strings.asciiSpace" = some 0 := by kernel_rfl

/-- strings.asciiSpace, as numbers. -/
def asciiN : List Nat := (List.replicate 9 0) ++ ([1,1,1,1,1] ++ ((List.replicate 18 0) ++ (1 :: List.replicate 223 0)))

theorem Tryz.asciiTy : ∃ t e, (Tryz.prog.globals[0]?).map (·.type) = some t ∧ Tryz.prog.underlying t = some (.array 256 e) ∧ Tryz.prog.underlying e = some (.int .u8) ∧ Tryz.prog.cellsOf e = 1 ∧ Tryz.prog.cellsOf t = 256 :=
  ⟨246, 5, rfl, by kernel_rfl, by kernel_rfl, by kernel_rfl, by kernel_rfl⟩

theorem ascii_data : (Rows.laid_strings_asciiSpace : DataW Unit) = Lib.tabData .u8 (asciiN.map Int.ofNat) := by rfl

def asciiV : List Value := asciiN.map fun c => .int .u8 (.ofNat c)

def tabF : Nat → Nat → Option Value := fun B o => if B = 0 then asciiV[o]? else none

theorem cr_u8 (M : Mem) : ∀ l : List Nat, CR M (mapU8 l) (l.map fun c => .int .u8 (.ofNat c))
  | [] => .nil
  | _ :: l => .int (cr_u8 M l)

/-- The row's premise is the executor's start. -/
theorem Tryz.begin {w : World} (h : laidMetH Tryz.prog laidL w) : W glA w (Mem.tables tabF) St.nil w := by
  have h1 : laidMet Tryz.prog laidL w := by
    rw [MakeChecks.laidMetH_plain _ _ _ (by kernel_rfl)] at h
    exact h
  have h2 := h1.tail
  rw [ascii_data] at h2
  obtain ⟨t, e, k1, k2, k3, k4, k5⟩ := Tryz.asciiTy
  have tab : Lib.TabIs Tryz.prog w "strings.asciiSpace" .u8 (asciiN.map Int.ofNat) := Lib.tabIs_of_head Tryz.gAscii k1 k2 k3 k4 k5 h2
  refine W.start w (F := tabF) (fun B o v hv => ?_) fun g cs hg => ?_
  · unfold tabF at hv
    split at hv
    · rename_i hB
      subst hB
      have ho : o < asciiV.length := (List.getElem?_eq_some_iff.1 hv).1
      have := tab.cell Tryz.gAscii o (by simpa [asciiV] using ho)
      rw [this, ← hv, asciiV]
      have ho' : o < asciiN.length := by simpa [asciiV] using ho
      simp [List.getD, List.getElem?_map, List.getElem?_eq_getElem ho']
    · cases hv
  · unfold glA at hg
    cases hb : Nat.beq g 0 with
    | false => simp [hb] at hg
    | true =>
      simp only [hb, cond_true, Option.some.injEq] at hg
      subst hg
      have : g = 0 := Nat.eq_of_beq_eq_true hb
      subst this
      exact ⟨asciiV, fun i v hi => by simpa [tabF] using hi, cr_u8 _ _⟩

/-- The heap that the program's own start leaves meets the premise. -/
theorem Tryz.door_met (os : Os) (args : Array Value) : laidMetH Tryz.prog laidL ((World.doorLaid Tryz.prog 33 os).forCall (fun _ _ => 0) ⟨#[], args, []⟩).memory :=
  laidMetH_of_parts3 (fuel := 8) (laidMet_of_run' 8 (by kernel_rfl) (by kernel_rfl)) (by kernel_rfl) (by kernel_rfl)

/-- A call that the executor runs to 'true'. -/
theorem Tryz.returns {f : FuncId} {fn : Func} {xs : List AV} {args : Array Value} {w : World} (hf : Tryz.prog.funcs[f]? = some fn) (hb : fn.body.isSome = true) (hn : (fn.name == "runtime.NumGoroutine") = false)
    (h : laidMetH Tryz.prog laidL w) (hfin : ∀ M, W glA w M St.nil w → CR M xs args.toList → ∃ s', Fin Tryz.prog glA w M St.nil f args w (.bool true) s') (hx : CR (Mem.tables tabF) xs args.toList) :
    Calls Tryz.prog f args w fun e w' => e = .returned (.bool true) ∧ Below w.heap.size w w' := by
  have hw := Tryz.begin h
  obtain ⟨s', hfin⟩ := hfin _ hw hx
  refine (calls_of_fin hf hb hn hfin).mono fun e w' he => ?_
  cases e with
  | returned v =>
    obtain ⟨M', _, h2, h3⟩ := he
    cases h3
    rename_i hnil
    cases hnil
    exact ⟨rfl, h2.below⟩
  | panicked c => exact he.elim
  | outgrown => exact he.elim

end Go.Proofs.YtmoihglcdmmmlaaGreatDoor
