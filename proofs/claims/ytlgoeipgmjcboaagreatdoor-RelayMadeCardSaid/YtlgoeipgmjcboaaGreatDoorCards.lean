/-
  DERIVED. GIVEN WITH THE SEED: THE CARDS: each row of YtlgoeipgmjcboaaGreatDoorRows.lean that lists a variable, with what it lists TIED to the program's text (the seventh form; the later family's looks); each row that meets fmt, with fmt's text TOLD by the authors' own Lean function (tested against real Go, not proved from fmt's source: count such statements apart). THE CARD IS WHAT COUNTS. Prove the row's statement (the work); the ties are given (YtlgoeipgmjcboaaGreatDoorTie.lean); close each card by the builder's one call (the guide's Derived/Test/ToyasCard.lean, 'card_holds'). Laid BY PROGRAM, IN A SANDBOX (cutbox-door.mjs). By AI agents, Wed Nov 11 2026. No macro, syntax, notation, axiom, sorry.
-/
import Derived.Test.YtlgoeipgmjcboaaGreatDoorRows
import GoSem.ClaimSeven
namespace Go.Proofs.YtlgoeipgmjcboaaGreatDoor
namespace Rows

/-- THE TIED CARD OF 'vergerlaw20.RelayNames'. -/
def relayNamesCard : Claim7 := { stood := { row := relayNamesRow, standIns := [], harness := (true, "aefaf1bb8f60651c8ab4c1f6e04cc001b18d933311b086cb072f49a4f044b99d"), looks := true }, kinds := [], alts := [], laidByText := true, laidKinds := [.data, .data, .data, .data, .sentinel, .sentinel, .pinned], laidTests := true, laidLooks := .later }
def RelayNamesCardSaid : Prop := Claim7.holds Tryz.pinned (.plain (OpenSpec.ofChange relayNamesSpec)) relayNamesCard

/-- THE TIED CARD OF 'vergerlaw20.RelayMade'. -/
def relayMadeCard : Claim7 := { stood := { row := relayMadeRow, standIns := [], harness := (true, "aefaf1bb8f60651c8ab4c1f6e04cc001b18d933311b086cb072f49a4f044b99d"), looks := true }, kinds := [], alts := [], laidByText := true, laidKinds := [.data, .data, .data, .data, .sentinel, .sentinel, .pinned], laidTests := true, laidLooks := .later }
def RelayMadeCardSaid : Prop := Claim7.holds Tryz.pinned (.plain (OpenSpec.ofChange relayMadeSpec)) relayMadeCard

/-- THE TIED CARD OF 'vergerlaw20.RelayDoes'. -/
def relayDoesCard : Claim7 := { stood := { row := relayDoesRow, standIns := [], harness := (true, "aefaf1bb8f60651c8ab4c1f6e04cc001b18d933311b086cb072f49a4f044b99d"), looks := true }, kinds := [], alts := [], laidByText := true, laidKinds := [.data, .data, .data, .data, .sentinel, .sentinel, .pinned], laidTests := true, laidLooks := .later }
def RelayDoesCardSaid : Prop := Claim7.holds Tryz.pinned (.plain (OpenSpec.ofChange relayDoesSpec)) relayDoesCard

/-- THE SECOND FORM's CARD OF 'vergerlaw20.RelayNames'. -/
def relayNamesUptoCard : Claim7 := { stood := { row := relayNamesUptoRow, standIns := [], harness := (true, "aefaf1bb8f60651c8ab4c1f6e04cc001b18d933311b086cb072f49a4f044b99d"), looks := true }, kinds := [], alts := [], laidByText := true, laidKinds := [.data, .data, .data, .data, .sentinel, .sentinel, .pinned], laidTests := true, laidLooks := .later }
def RelayNamesUptoCardSaid : Prop := Claim7.holds Tryz.pinned (.plain (OpenSpec.upto relayNamesSpec)) relayNamesUptoCard

/-- THE SECOND FORM's CARD OF 'vergerlaw20.RelayMade'. -/
def relayMadeUptoCard : Claim7 := { stood := { row := relayMadeUptoRow, standIns := [], harness := (true, "aefaf1bb8f60651c8ab4c1f6e04cc001b18d933311b086cb072f49a4f044b99d"), looks := true }, kinds := [], alts := [], laidByText := true, laidKinds := [.data, .data, .data, .data, .sentinel, .sentinel, .pinned], laidTests := true, laidLooks := .later }
def RelayMadeUptoCardSaid : Prop := Claim7.holds Tryz.pinned (.plain (OpenSpec.upto relayMadeSpec)) relayMadeUptoCard

/-- THE SECOND FORM's CARD OF 'vergerlaw20.RelayDoes'. -/
def relayDoesUptoCard : Claim7 := { stood := { row := relayDoesUptoRow, standIns := [], harness := (true, "aefaf1bb8f60651c8ab4c1f6e04cc001b18d933311b086cb072f49a4f044b99d"), looks := true }, kinds := [], alts := [], laidByText := true, laidKinds := [.data, .data, .data, .data, .sentinel, .sentinel, .pinned], laidTests := true, laidLooks := .later }
def RelayDoesUptoCardSaid : Prop := Claim7.holds Tryz.pinned (.plain (OpenSpec.upto relayDoesSpec)) relayDoesUptoCard
end Rows
end Go.Proofs.YtlgoeipgmjcboaaGreatDoor
