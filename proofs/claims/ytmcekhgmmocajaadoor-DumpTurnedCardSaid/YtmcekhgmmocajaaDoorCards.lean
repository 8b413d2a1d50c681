/-
  DERIVED. GIVEN WITH THE SEED: THE CARDS: each row of YtmcekhgmmocajaaDoorRows.lean that lists a variable, with what it lists TIED to the program's text (the seventh form; the later family's looks); each row that meets fmt, with fmt's text TOLD by the authors' own Lean function (tested against real Go, not proved from fmt's source: count such statements apart). THE CARD IS WHAT COUNTS. Prove the row's statement (the work); the ties are given (YtmcekhgmmocajaaDoorTie.lean); close each card by the builder's one call (the guide's Derived/Test/ToyasCard.lean, 'card_holds'). Laid BY PROGRAM, IN A SANDBOX (cutbox-door.mjs). By AI agents, Wed Nov 11 2026. No macro, syntax, notation, axiom, sorry.
-/
import Derived.Test.YtmcekhgmmocajaaDoorRows
import GoSem.ClaimSeven
namespace Go.Proofs.YtmcekhgmmocajaaDoor
namespace Rows

/-- THE TIED CARD OF 'vergerlaw21.DumpNumbers'. -/
def dumpNumbersCard : Claim7 := { stood := { row := dumpNumbersRow, standIns := [], harness := (true, "e23414bf1af9f35baae5b1b6845a3931701460f722c0f20cc736043bff11968a"), looks := true }, kinds := [], alts := [], laidByText := true, laidKinds := [.data, .pinned], laidTests := true, laidLooks := .later }
def DumpNumbersCardSaid : Prop := Claim7.holds Tryd.pinned (.plain (OpenSpec.ofChange dumpNumbersSpec)) dumpNumbersCard

/-- THE TIED CARD OF 'vergerlaw21.DumpTurned'. -/
def dumpTurnedCard : Claim7 := { stood := { row := dumpTurnedRow, standIns := [], harness := (true, "e23414bf1af9f35baae5b1b6845a3931701460f722c0f20cc736043bff11968a"), looks := true }, kinds := [], alts := [], laidByText := true, laidKinds := [.data, .pinned], laidTests := true, laidLooks := .later }
def DumpTurnedCardSaid : Prop := Claim7.holds Tryd.pinned (.plain (OpenSpec.ofChange dumpTurnedSpec)) dumpTurnedCard

/-- THE SECOND FORM's CARD OF 'vergerlaw21.DumpNumbers'. -/
def dumpNumbersUptoCard : Claim7 := { stood := { row := dumpNumbersUptoRow, standIns := [], harness := (true, "e23414bf1af9f35baae5b1b6845a3931701460f722c0f20cc736043bff11968a"), looks := true }, kinds := [], alts := [], laidByText := true, laidKinds := [.data, .pinned], laidTests := true, laidLooks := .later }
def DumpNumbersUptoCardSaid : Prop := Claim7.holds Tryd.pinned (.plain (OpenSpec.upto dumpNumbersSpec)) dumpNumbersUptoCard

/-- THE SECOND FORM's CARD OF 'vergerlaw21.DumpTurned'. -/
def dumpTurnedUptoCard : Claim7 := { stood := { row := dumpTurnedUptoRow, standIns := [], harness := (true, "e23414bf1af9f35baae5b1b6845a3931701460f722c0f20cc736043bff11968a"), looks := true }, kinds := [], alts := [], laidByText := true, laidKinds := [.data, .pinned], laidTests := true, laidLooks := .later }
def DumpTurnedUptoCardSaid : Prop := Claim7.holds Tryd.pinned (.plain (OpenSpec.upto dumpTurnedSpec)) dumpTurnedUptoCard
end Rows
end Go.Proofs.YtmcekhgmmocajaaDoor
