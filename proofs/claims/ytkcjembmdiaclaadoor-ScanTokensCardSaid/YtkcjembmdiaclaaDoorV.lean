/- From a row of this seat to what the walks ask of the world; the witness' world. -/
import Derived.Test.YtkcjembmdiaclaaDoorCards
import Derived.Test.YtkcjembmdiaclaaDoorTie
import Derived.Test.YtkcjembmdiaclaaDoorT
import Derived.PinnedBridge
import Derived.Lib.LaidU8
import Derived.WalkKit
import Derived.ProofKit
import Derived.OpenShut
import Derived.SizedLaws
import Derived.SliceStrings
import Derived.ShutString
import Derived.Deep.DeepHandedRow
namespace Go.Proofs.YtkcjembmdiaclaaDoor
open Go.ChangeShapes Go.WideShapes Go.ChangeAt Go.RowKit
set_option linter.unusedVariables false
set_option linter.unusedSimpArgs false

theorem own : ownKnob Tryd.prog.godebug = none := by kernel_rfl
theorem laidOut : laidOutB Tryd.prog = true := by kernel_rfl
def laidTwo : List (String × DataW Unit) := [("unicode/utf8.acceptRanges", Rows.laid_unicode_utf8_acceptRanges), ("unicode/utf8.first", Rows.laid_unicode_utf8_first)]
theorem accept_eq : Rows.laid_unicode_utf8_acceptRanges (H := Unit) = Lib.acceptData := by kernel_rfl
theorem first_eq : Rows.laid_unicode_utf8_first = Lib.firstData := Pinned.utf8First_eq

/-- WHAT THE ROW's LIST AND THE WORLD's SHAPE GIVE. -/
theorem glob_of {W : World} (h : laidMetH Tryd.prog laidTwo W) (hsh : W.ShapedOpen Tryd.prog) : Glob W := by
  have hl : laidMet Tryd.prog laidTwo W := h
  have r1 := Lib.laidMet.reads hl (n := "unicode/utf8.acceptRanges") (d := Rows.laid_unicode_utf8_acceptRanges) (.head _)
  have r2 := Lib.laidMet.reads hl (n := "unicode/utf8.first") (d := Rows.laid_unicode_utf8_first) (.tail _ (.head _))
  rw [accept_eq] at r1
  rw [first_eq] at r2
  exact ⟨utf8Tabs_of_reads { Tryd.lays197 with } ⟨by kernel_rfl, by kernel_rfl, by kernel_rfl, by kernel_rfl, by kernel_rfl, by kernel_rfl, by kernel_rfl⟩ r2 r1, Tryd.laysM143.s1_3 W hsh⟩

/-- A block of cells, filled. -/
def fillObj (cs : List Value) : Obj → Obj
  | .cells _ t frozen => .cells cs.toArray t frozen
  | o => o
/-- The settled world, the two tables holding what their initialisers lay: the witness. -/
noncomputable def laidWorld (os : Os) : World :=
  { World.holding Tryd.prog os ⟨#[], #[], []⟩ with heap := ((World.holding Tryd.prog os ⟨#[], #[], []⟩).heap.modify 0 (fillObj (Lib.firstTab.map fun z => Value.int .u8 z))).modify 1 (fillObj ((List.range 16).flatMap fun i => [Value.int .u8 (Lib.accLo i : Nat), Value.int .u8 (Lib.accHi i : Nat)])) }
theorem laid_met (os : Os) (args : Array Value) : laidMet Tryd.prog laidTwo ((laidWorld os).forCall (fun _ _ => 0) ⟨#[], args, []⟩).memory :=
  laidMet_of_run' 8 (by kernel_rfl) (by kernel_rfl)
end Go.Proofs.YtkcjembmdiaclaaDoor
