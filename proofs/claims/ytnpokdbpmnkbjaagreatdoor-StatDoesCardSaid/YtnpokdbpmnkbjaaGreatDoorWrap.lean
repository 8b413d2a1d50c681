/- What every wrap of this seat needs: what the listed tables give, a world for the witness in which they lie, and the row's last step over a world of which it is known that nothing old has turned. -/
import Derived.Test.YtnpokdbpmnkbjaaGreatDoorCards
import Derived.Test.YtnpokdbpmnkbjaaGreatDoorTie
import Derived.Test.YtnpokdbpmnkbjaaGreatDoorShelf
import Derived.WalkKit
import Derived.ProofKit
import Derived.OpenShut
import Derived.Deep.DeepHandedRow
import Derived.Lib.LaidTab
import Derived.Lib.LaidU8T
namespace Go.Proofs.YtnpokdbpmnkbjaaGreatDoor
open Go.ChangeShapes Go.WideShapes Go.ChangeAt Go.RowKit

section
variable {H : Type} {enc : TypeId × Value → H} {P : Program}
end

theorem own : ownKnob Tryz.prog.godebug = none := by kernel_rfl

def theLaid : List (String × DataW Unit) := Rows.statDoesRow.laid
theorem first_is : Rows.laid_unicode_utf8_first = Lib.firstData := by kernel_rfl
theorem accept_is : (Rows.laid_unicode_utf8_acceptRanges : DataW Unit) = Lib.acceptData := by kernel_rfl
theorem extra : U8Extra Tryz.prog Tryz.lays260_ren := {
  n3 := by kernel_rfl
  n4 := by kernel_rfl
  y3 := by kernel_rfl
  y4 := by kernel_rfl
  c5 := by kernel_rfl
  c119 := by kernel_rfl
  c138 := by kernel_rfl }
/-- What the rows' list gives: the two tables' cells. -/
theorem tabs {W : World} (h : laidMetH Tryz.prog theLaid W) : Lib.Utf8Tabs 0 1 W := by
  have h' : laidMet Tryz.prog theLaid W := h
  refine utf8Tabs_of_reads (P := Tryz.prog) (ρ := Tryz.lays260_ren) Tryz.lays260 extra ?_ ?_
  · rw [← first_is]
    exact Lib.laidMet.reads h' (List.mem_cons_of_mem _ (List.mem_cons_self ..))
  · rw [← accept_is]
    exact Lib.laidMet.reads h' (List.mem_cons_self ..)

def accV : Array Value := ((List.range 32).map fun i => Value.int .u8 (if i % 2 = 0 then (Lib.accLo (i / 2) : Int) else (Lib.accHi (i / 2) : Int))).toArray
def layCells (xs : Array Value) : Obj → Obj
  | .cells _ t frozen => .cells xs t frozen
  | o => o
/-- A world for the witness: the settled one, the two tables holding what their initialisers lay. -/
noncomputable def laidWorld (os : Os) : World :=
  { World.holding Tryz.prog os ⟨#[], #[], []⟩ with heap := ((World.holding Tryz.prog os ⟨#[], #[], []⟩).heap.modify 0 (layCells (Lib.firstTab.map (Value.int .u8)).toArray)).modify 1 (layCells accV) }

end Go.Proofs.YtnpokdbpmnkbjaaGreatDoor
