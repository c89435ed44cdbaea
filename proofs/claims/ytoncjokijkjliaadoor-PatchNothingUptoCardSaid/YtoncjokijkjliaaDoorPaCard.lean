/- What the closings of this seat's rows share: the variables that a row lists, and the tables that they are. Own work; printed from wip/law22/card.in by pre3.py. -/
import Derived.Test.YtoncjokijkjliaaDoorPaSh
import Derived.Test.YtoncjokijkjliaaDoorCore11
import Derived.Test.YtoncjokijkjliaaDoorCore25
import Derived.Test.YtoncjokijkjliaaDoorTie
import Derived.Test.YtoncjokijkjliaaDoorCards
import Derived.PinnedBridge
import Derived.Lay
import Derived.LaidOnce
import Derived.SevenTiedAt
import Derived.Deep.DeepHandedRow
namespace Go.Proofs.YtoncjokijkjliaaDoor
open Go.ChangeShapes Go.WideShapes Go.ChangeAt Go.RowKit Go.Sv
set_option linter.unusedVariables false

theorem own : ownKnob Tryd.prog.godebug = none := by kernel_rfl
theorem laidOut : laidOutB Tryd.prog = true := by kernel_rfl
theorem bulk (H : Type) : Bulk (H := H) Rows.uptoBulk Rows.uptoBulkAll :=
  ⟨fun s => by simp only [Rows.uptoBulk], fun l => by cases l <;> simp [Rows.uptoBulk], by simp only [Rows.uptoBulk], fun e s => by simp only [Rows.uptoBulk], by simp only [Rows.uptoBulkAll], fun d r => by simp only [Rows.uptoBulkAll]⟩
theorem bulkS (H : Type) : BulkS H Rows.uptoBulk Rows.uptoBulkAll := ⟨bulk H, fun l => by simp only [Rows.uptoBulk]⟩
def laidL : List (String × DataW Unit) := [("unicode/utf8.acceptRanges", Rows.laid_unicode_utf8_acceptRanges), ("unicode/utf8.first", Rows.laid_unicode_utf8_first)]
theorem accept_eq : (Rows.laid_unicode_utf8_acceptRanges : DataW Unit) = Lib.acceptData := by kernel_rfl
theorem first_eq : Rows.laid_unicode_utf8_first = Lib.firstData := Pinned.utf8First_eq
theorem tabs_row {W : World} (h : laidMetH Tryd.prog laidL W) : TabAt T8 W (sealAll W) := by
  rw [MakeChecks.laidMetH_plain _ _ _ (by kernel_rfl)] at h
  have h1 := Lib.laidMet.reads h (n := "unicode/utf8.first") (d := Rows.laid_unicode_utf8_first) (.tail _ (.head _))
  have h2 := Lib.laidMet.reads h (n := "unicode/utf8.acceptRanges") (d := Rows.laid_unicode_utf8_acceptRanges) (.head _)
  rw [first_eq] at h1
  rw [accept_eq] at h2
  exact tabs_laid h1 h2
set_option maxRecDepth 100000 in
theorem laid_world (os : Os) (args : Array Value) : laidMetH Tryd.prog laidL ((World.laidAll Tryd.prog os laidL).forCall (fun _ _ => 0) ⟨#[], args, []⟩).memory := by
  rw [MakeChecks.laidMetH_plain _ _ _ (by kernel_rfl)]
  exact laidMet_laidAll _ (by kernel_rfl) (by kernel_rfl)
set_option maxRecDepth 100000 in
theorem shaped_world (os : Os) (args : Array Value) : ((World.laidAll Tryd.prog os laidL).forCall (fun _ _ => 0) ⟨#[], args, []⟩).Shaped Tryd.prog := World.shaped_of_ZipB (by kernel_rfl) (by kernel_rfl)
theorem no_stand {k : FuncId} {ps : Array TypeId} (h : (ps.toList.all fun t => !Tryd.prog.wantsStandIn t) = true) (j : Nat) (t : TypeId) (ht : ps[j]? = some t) : Tryd.prog.wantsStandIn t = false := by
  have := List.all_eq_true.1 h t (Array.mem_toList_iff.2 (Array.mem_of_getElem? ht))
  simpa using this
end Go.Proofs.YtoncjokijkjliaaDoor
