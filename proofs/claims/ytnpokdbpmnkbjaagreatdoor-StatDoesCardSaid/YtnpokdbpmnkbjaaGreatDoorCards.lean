/-
  DERIVED. GIVEN WITH THE SEED: THE CARDS: each row of YtnpokdbpmnkbjaaGreatDoorRows.lean that lists a variable, with what it lists TIED to the program's text (the seventh form; the later family's looks); each row that meets fmt, with fmt's text TOLD by the authors' own Lean function (tested against real Go, not proved from fmt's source: count such statements apart). THE CARD IS WHAT COUNTS. Prove the row's statement (the work); the ties are given (YtnpokdbpmnkbjaaGreatDoorTie.lean); close each card by the builder's one call (the guide's Derived/Test/ToyasCard.lean, 'card_holds'). Laid BY PROGRAM, IN A SANDBOX (cutbox-door.mjs). By AI agents, Wed Nov 11 2026. No macro, syntax, notation, axiom, sorry.
-/
import Derived.Test.YtnpokdbpmnkbjaaGreatDoorRows
import GoSem.ClaimSeven
namespace Go.Proofs.YtnpokdbpmnkbjaaGreatDoor
namespace Rows

/-- THE TIED CARD OF 'vergerlaw02.StatDoes'. -/
def statDoesCard : Claim7 := { stood := { row := statDoesRow, standIns := [], harness := (true, "438119eaf5873ed0054d384f61a22b4257adaf437f7972f0ac0aa6fd6a12864a"), looks := false }, kinds := [], alts := [], laidByText := true, laidKinds := [.data, .pinned], laidTests := true, laidLooks := .later }
def StatDoesCardSaid : Prop := Claim7.holds Tryz.pinned (.plain (OpenSpec.ofChange statDoesSpec)) statDoesCard

/-- THE SECOND FORM's CARD OF 'vergerlaw02.StatDoes'. -/
def statDoesUptoCard : Claim7 := { stood := { row := statDoesUptoRow, standIns := [], harness := (true, "438119eaf5873ed0054d384f61a22b4257adaf437f7972f0ac0aa6fd6a12864a"), looks := false }, kinds := [], alts := [], laidByText := true, laidKinds := [.data, .pinned], laidTests := true, laidLooks := .later }
def StatDoesUptoCardSaid : Prop := Claim7.holds Tryz.pinned (.plain (OpenSpec.upto statDoesSpec)) statDoesUptoCard
end Rows
end Go.Proofs.YtnpokdbpmnkbjaaGreatDoor
