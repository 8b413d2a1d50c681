/-
  DERIVED. GIVEN WITH THE SEED: THE CARDS: each row of YtmcekhgmmocajaaGreatDoorRows.lean that lists a variable, with what it lists TIED to the program's text (the seventh form; the later family's looks); each row that meets fmt, with fmt's text TOLD by the authors' own Lean function (tested against real Go, not proved from fmt's source: count such statements apart). THE CARD IS WHAT COUNTS. Prove the row's statement (the work); the ties are given (YtmcekhgmmocajaaGreatDoorTie.lean); close each card by the builder's one call (the guide's Derived/Test/ToyasCard.lean, 'card_holds'). Laid BY PROGRAM, IN A SANDBOX (cutbox-door.mjs). By AI agents, Wed Nov 11 2026. No macro, syntax, notation, axiom, sorry.
-/
import Derived.Test.YtmcekhgmmocajaaGreatDoorRows
import GoSem.ClaimSeven
namespace Go.Proofs.YtmcekhgmmocajaaGreatDoor
namespace Rows

/-- THE TIED CARD OF 'vergerlaw21.DumpOneForm'. -/
def dumpOneFormCard : Claim7 := { stood := { row := dumpOneFormRow, standIns := [], harness := (true, "bfc899188c4366ed75f7ec5fb10866130b33c7467bdfcb02a37e995c9e9b2744"), looks := true }, kinds := [], alts := [], laidByText := true, laidKinds := [.data, .pinned], laidTests := true, laidLooks := .later }
def DumpOneFormCardSaid : Prop := Claim7.holds Tryz.pinned (.plain (OpenSpec.ofChange dumpOneFormSpec)) dumpOneFormCard

/-- THE TIED CARD OF 'vergerlaw21.DumpBytes'. -/
def dumpBytesCard : Claim7 := { stood := { row := dumpBytesRow, standIns := [], harness := (true, "bfc899188c4366ed75f7ec5fb10866130b33c7467bdfcb02a37e995c9e9b2744"), looks := true }, kinds := [], alts := [], laidByText := true, laidKinds := [.data, .pinned], laidTests := true, laidLooks := .later }
def DumpBytesCardSaid : Prop := Claim7.holds Tryz.pinned (.plain (OpenSpec.ofChange dumpBytesSpec)) dumpBytesCard

/-- THE TIED CARD OF 'vergerlaw21.DumpDiffs'. -/
def dumpDiffsCard : Claim7 := { stood := { row := dumpDiffsRow, standIns := [], harness := (true, "bfc899188c4366ed75f7ec5fb10866130b33c7467bdfcb02a37e995c9e9b2744"), looks := true }, kinds := [], alts := [], laidByText := true, laidKinds := [.data, .pinned], laidTests := true, laidLooks := .later }
def DumpDiffsCardSaid : Prop := Claim7.holds Tryz.pinned (.plain (OpenSpec.ofChange dumpDiffsSpec)) dumpDiffsCard

/-- THE SECOND FORM's CARD OF 'vergerlaw21.DumpOneForm'. -/
def dumpOneFormUptoCard : Claim7 := { stood := { row := dumpOneFormUptoRow, standIns := [], harness := (true, "bfc899188c4366ed75f7ec5fb10866130b33c7467bdfcb02a37e995c9e9b2744"), looks := true }, kinds := [], alts := [], laidByText := true, laidKinds := [.data, .pinned], laidTests := true, laidLooks := .later }
def DumpOneFormUptoCardSaid : Prop := Claim7.holds Tryz.pinned (.plain (OpenSpec.upto dumpOneFormSpec)) dumpOneFormUptoCard

/-- THE SECOND FORM's CARD OF 'vergerlaw21.DumpBytes'. -/
def dumpBytesUptoCard : Claim7 := { stood := { row := dumpBytesUptoRow, standIns := [], harness := (true, "bfc899188c4366ed75f7ec5fb10866130b33c7467bdfcb02a37e995c9e9b2744"), looks := true }, kinds := [], alts := [], laidByText := true, laidKinds := [.data, .pinned], laidTests := true, laidLooks := .later }
def DumpBytesUptoCardSaid : Prop := Claim7.holds Tryz.pinned (.plain (OpenSpec.upto dumpBytesSpec)) dumpBytesUptoCard

/-- THE SECOND FORM's CARD OF 'vergerlaw21.DumpDiffs'. -/
def dumpDiffsUptoCard : Claim7 := { stood := { row := dumpDiffsUptoRow, standIns := [], harness := (true, "bfc899188c4366ed75f7ec5fb10866130b33c7467bdfcb02a37e995c9e9b2744"), looks := true }, kinds := [], alts := [], laidByText := true, laidKinds := [.data, .pinned], laidTests := true, laidLooks := .later }
def DumpDiffsUptoCardSaid : Prop := Claim7.holds Tryz.pinned (.plain (OpenSpec.upto dumpDiffsSpec)) dumpDiffsUptoCard
end Rows
end Go.Proofs.YtmcekhgmmocajaaGreatDoor
