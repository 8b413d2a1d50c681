/-
  DERIVED. GIVEN WITH THE SEED: THE CARDS: each row of YtedddekkbgaolaaDoorRows.lean that lists a variable, with what it lists TIED to the program's text (the seventh form; the later family's looks); each row that meets fmt, with fmt's text TOLD by the authors' own Lean function (tested against real Go, not proved from fmt's source: count such statements apart). THE CARD IS WHAT COUNTS. Prove the row's statement (the work); the ties are given (YtedddekkbgaolaaDoorTie.lean); close each card by the builder's one call (the guide's Derived/Test/ToyasCard.lean, 'card_holds'). Laid BY PROGRAM, IN A SANDBOX (cutbox-door.mjs). By AI agents, Wed Nov 11 2026. No macro, syntax, notation, axiom, sorry.
-/
import Derived.Test.YtedddekkbgaolaaDoorRows
import GoSem.ClaimSeven
namespace Go.Proofs.YtedddekkbgaolaaDoor
namespace Rows

/-- THE TIED CARD OF 'vergerlaw01.WireJoins'. -/
def wireJoinsCard : Claim7 := { stood := { row := wireJoinsRow, standIns := [], harness := (true, "71aeb12655d3dc500ae3cb24432a36d16550fef29007bdaeebc52fd76338fdce"), looks := false }, kinds := [], alts := [], laidByText := true, laidKinds := [.data, .pinned], laidTests := true, laidLooks := .later }
def WireJoinsCardSaid : Prop := Claim7.holds Tryd.pinned (.plain (OpenSpec.ofChange wireJoinsSpec)) wireJoinsCard

/-- THE TIED CARD OF 'vergerlaw01.WireMade'. -/
def wireMadeCard : Claim7 := { stood := { row := wireMadeRow, standIns := [], harness := (true, "71aeb12655d3dc500ae3cb24432a36d16550fef29007bdaeebc52fd76338fdce"), looks := false }, kinds := [], alts := [], laidByText := true, laidKinds := [.data, .pinned], laidTests := true, laidLooks := .later }
def WireMadeCardSaid : Prop := Claim7.holds Tryd.pinned (.plain (OpenSpec.ofChange wireMadeSpec)) wireMadeCard

/-- THE TIED CARD OF 'vergerlaw01.WireNames'. -/
def wireNamesCard : Claim7 := { stood := { row := wireNamesRow, standIns := [], harness := (true, "71aeb12655d3dc500ae3cb24432a36d16550fef29007bdaeebc52fd76338fdce"), looks := false }, kinds := [], alts := [], laidByText := true, laidKinds := [.data, .pinned], laidTests := true, laidLooks := .later }
def WireNamesCardSaid : Prop := Claim7.holds Tryd.pinned (.plain (OpenSpec.ofChange wireNamesSpec)) wireNamesCard

/-- THE TIED CARD OF 'vergerlaw01.WireWrites'. -/
def wireWritesCard : Claim7 := { stood := { row := wireWritesRow, standIns := [], harness := (true, "71aeb12655d3dc500ae3cb24432a36d16550fef29007bdaeebc52fd76338fdce"), looks := false }, kinds := [], alts := [], laidByText := true, laidKinds := [.data, .pinned], laidTests := true, laidLooks := .later }
def WireWritesCardSaid : Prop := Claim7.holds Tryd.pinned (.plain (OpenSpec.ofChange wireWritesSpec)) wireWritesCard

/-- THE TIED CARD OF 'vergerlaw01.WireGood'. -/
def wireGoodCard : Claim7 := { stood := { row := wireGoodRow, standIns := [], harness := (true, "71aeb12655d3dc500ae3cb24432a36d16550fef29007bdaeebc52fd76338fdce"), looks := false }, kinds := [], alts := [], laidByText := true, laidKinds := [.data, .pinned], laidTests := true, laidLooks := .later }
def WireGoodCardSaid : Prop := Claim7.holds Tryd.pinned (.plain (OpenSpec.ofChange wireGoodSpec)) wireGoodCard

/-- THE TIED CARD OF 'vergerlaw01.WireReads'. -/
def wireReadsCard : Claim7 := { stood := { row := wireReadsRow, standIns := [], harness := (true, "71aeb12655d3dc500ae3cb24432a36d16550fef29007bdaeebc52fd76338fdce"), looks := false }, kinds := [], alts := [], laidByText := true, laidKinds := [.data, .pinned], laidTests := true, laidLooks := .later }
def WireReadsCardSaid : Prop := Claim7.holds Tryd.pinned (.plain (OpenSpec.ofChange wireReadsSpec)) wireReadsCard

/-- THE TIED CARD OF 'vergerlaw01.WireBack'. -/
def wireBackCard : Claim7 := { stood := { row := wireBackRow, standIns := [], harness := (true, "71aeb12655d3dc500ae3cb24432a36d16550fef29007bdaeebc52fd76338fdce"), looks := false }, kinds := [], alts := [], laidByText := true, laidKinds := [.data, .pinned], laidTests := true, laidLooks := .later }
def WireBackCardSaid : Prop := Claim7.holds Tryd.pinned (.plain (OpenSpec.ofChange wireBackSpec)) wireBackCard

/-- THE TIED CARD OF 'vergerlaw01.WireStays'. -/
def wireStaysCard : Claim7 := { stood := { row := wireStaysRow, standIns := [], harness := (true, "71aeb12655d3dc500ae3cb24432a36d16550fef29007bdaeebc52fd76338fdce"), looks := false }, kinds := [], alts := [], laidByText := true, laidKinds := [.data, .pinned], laidTests := true, laidLooks := .later }
def WireStaysCardSaid : Prop := Claim7.holds Tryd.pinned (.plain (OpenSpec.ofChange wireStaysSpec)) wireStaysCard

/-- THE TIED CARD OF 'vergerlaw02.StatNumbers'. -/
def statNumbersCard : Claim7 := { stood := { row := statNumbersRow, standIns := [], harness := (true, "71aeb12655d3dc500ae3cb24432a36d16550fef29007bdaeebc52fd76338fdce"), looks := false }, kinds := [], alts := [], laidByText := true, laidKinds := [.data, .pinned], laidTests := true, laidLooks := .later }
def StatNumbersCardSaid : Prop := Claim7.holds Tryd.pinned (.plain (OpenSpec.ofChange statNumbersSpec)) statNumbersCard

/-- THE TIED CARD OF 'vergerlaw02.StatBack'. -/
def statBackCard : Claim7 := { stood := { row := statBackRow, standIns := [], harness := (true, "71aeb12655d3dc500ae3cb24432a36d16550fef29007bdaeebc52fd76338fdce"), looks := false }, kinds := [], alts := [], laidByText := true, laidKinds := [.data, .pinned], laidTests := true, laidLooks := .later }
def StatBackCardSaid : Prop := Claim7.holds Tryd.pinned (.plain (OpenSpec.ofChange statBackSpec)) statBackCard

/-- THE TIED CARD OF 'vergerlaw02.StatOneForm'. -/
def statOneFormCard : Claim7 := { stood := { row := statOneFormRow, standIns := [], harness := (true, "71aeb12655d3dc500ae3cb24432a36d16550fef29007bdaeebc52fd76338fdce"), looks := false }, kinds := [], alts := [], laidByText := true, laidKinds := [.data, .pinned], laidTests := true, laidLooks := .later }
def StatOneFormCardSaid : Prop := Claim7.holds Tryd.pinned (.plain (OpenSpec.ofChange statOneFormSpec)) statOneFormCard

/-- THE TIED CARD OF 'vergerlaw02.StatPieces'. -/
def statPiecesCard : Claim7 := { stood := { row := statPiecesRow, standIns := [], harness := (true, "71aeb12655d3dc500ae3cb24432a36d16550fef29007bdaeebc52fd76338fdce"), looks := false }, kinds := [], alts := [], laidByText := true, laidKinds := [.data, .pinned], laidTests := true, laidLooks := .later }
def StatPiecesCardSaid : Prop := Claim7.holds Tryd.pinned (.plain (OpenSpec.ofChange statPiecesSpec)) statPiecesCard

/-- THE TIED CARD OF 'vergerlaw02.StatTouches'. -/
def statTouchesCard : Claim7 := { stood := { row := statTouchesRow, standIns := [], harness := (true, "71aeb12655d3dc500ae3cb24432a36d16550fef29007bdaeebc52fd76338fdce"), looks := false }, kinds := [], alts := [], laidByText := true, laidKinds := [.data, .pinned], laidTests := true, laidLooks := .later }
def StatTouchesCardSaid : Prop := Claim7.holds Tryd.pinned (.plain (OpenSpec.ofChange statTouchesSpec)) statTouchesCard

/-- THE SECOND FORM's CARD OF 'vergerlaw01.WireJoins'. -/
def wireJoinsUptoCard : Claim7 := { stood := { row := wireJoinsUptoRow, standIns := [], harness := (true, "71aeb12655d3dc500ae3cb24432a36d16550fef29007bdaeebc52fd76338fdce"), looks := false }, kinds := [], alts := [], laidByText := true, laidKinds := [.data, .pinned], laidTests := true, laidLooks := .later }
def WireJoinsUptoCardSaid : Prop := Claim7.holds Tryd.pinned (.plain (OpenSpec.upto wireJoinsSpec)) wireJoinsUptoCard

/-- THE SECOND FORM's CARD OF 'vergerlaw01.WireMade'. -/
def wireMadeUptoCard : Claim7 := { stood := { row := wireMadeUptoRow, standIns := [], harness := (true, "71aeb12655d3dc500ae3cb24432a36d16550fef29007bdaeebc52fd76338fdce"), looks := false }, kinds := [], alts := [], laidByText := true, laidKinds := [.data, .pinned], laidTests := true, laidLooks := .later }
def WireMadeUptoCardSaid : Prop := Claim7.holds Tryd.pinned (.plain (OpenSpec.upto wireMadeSpec)) wireMadeUptoCard

/-- THE SECOND FORM's CARD OF 'vergerlaw01.WireNames'. -/
def wireNamesUptoCard : Claim7 := { stood := { row := wireNamesUptoRow, standIns := [], harness := (true, "71aeb12655d3dc500ae3cb24432a36d16550fef29007bdaeebc52fd76338fdce"), looks := false }, kinds := [], alts := [], laidByText := true, laidKinds := [.data, .pinned], laidTests := true, laidLooks := .later }
def WireNamesUptoCardSaid : Prop := Claim7.holds Tryd.pinned (.plain (OpenSpec.upto wireNamesSpec)) wireNamesUptoCard

/-- THE SECOND FORM's CARD OF 'vergerlaw01.WireWrites'. -/
def wireWritesUptoCard : Claim7 := { stood := { row := wireWritesUptoRow, standIns := [], harness := (true, "71aeb12655d3dc500ae3cb24432a36d16550fef29007bdaeebc52fd76338fdce"), looks := false }, kinds := [], alts := [], laidByText := true, laidKinds := [.data, .pinned], laidTests := true, laidLooks := .later }
def WireWritesUptoCardSaid : Prop := Claim7.holds Tryd.pinned (.plain (OpenSpec.upto wireWritesSpec)) wireWritesUptoCard

/-- THE SECOND FORM's CARD OF 'vergerlaw01.WireGood'. -/
def wireGoodUptoCard : Claim7 := { stood := { row := wireGoodUptoRow, standIns := [], harness := (true, "71aeb12655d3dc500ae3cb24432a36d16550fef29007bdaeebc52fd76338fdce"), looks := false }, kinds := [], alts := [], laidByText := true, laidKinds := [.data, .pinned], laidTests := true, laidLooks := .later }
def WireGoodUptoCardSaid : Prop := Claim7.holds Tryd.pinned (.plain (OpenSpec.upto wireGoodSpec)) wireGoodUptoCard

/-- THE SECOND FORM's CARD OF 'vergerlaw01.WireReads'. -/
def wireReadsUptoCard : Claim7 := { stood := { row := wireReadsUptoRow, standIns := [], harness := (true, "71aeb12655d3dc500ae3cb24432a36d16550fef29007bdaeebc52fd76338fdce"), looks := false }, kinds := [], alts := [], laidByText := true, laidKinds := [.data, .pinned], laidTests := true, laidLooks := .later }
def WireReadsUptoCardSaid : Prop := Claim7.holds Tryd.pinned (.plain (OpenSpec.upto wireReadsSpec)) wireReadsUptoCard

/-- THE SECOND FORM's CARD OF 'vergerlaw01.WireBack'. -/
def wireBackUptoCard : Claim7 := { stood := { row := wireBackUptoRow, standIns := [], harness := (true, "71aeb12655d3dc500ae3cb24432a36d16550fef29007bdaeebc52fd76338fdce"), looks := false }, kinds := [], alts := [], laidByText := true, laidKinds := [.data, .pinned], laidTests := true, laidLooks := .later }
def WireBackUptoCardSaid : Prop := Claim7.holds Tryd.pinned (.plain (OpenSpec.upto wireBackSpec)) wireBackUptoCard

/-- THE SECOND FORM's CARD OF 'vergerlaw01.WireStays'. -/
def wireStaysUptoCard : Claim7 := { stood := { row := wireStaysUptoRow, standIns := [], harness := (true, "71aeb12655d3dc500ae3cb24432a36d16550fef29007bdaeebc52fd76338fdce"), looks := false }, kinds := [], alts := [], laidByText := true, laidKinds := [.data, .pinned], laidTests := true, laidLooks := .later }
def WireStaysUptoCardSaid : Prop := Claim7.holds Tryd.pinned (.plain (OpenSpec.upto wireStaysSpec)) wireStaysUptoCard

/-- THE SECOND FORM's CARD OF 'vergerlaw02.StatNumbers'. -/
def statNumbersUptoCard : Claim7 := { stood := { row := statNumbersUptoRow, standIns := [], harness := (true, "71aeb12655d3dc500ae3cb24432a36d16550fef29007bdaeebc52fd76338fdce"), looks := false }, kinds := [], alts := [], laidByText := true, laidKinds := [.data, .pinned], laidTests := true, laidLooks := .later }
def StatNumbersUptoCardSaid : Prop := Claim7.holds Tryd.pinned (.plain (OpenSpec.upto statNumbersSpec)) statNumbersUptoCard

/-- THE SECOND FORM's CARD OF 'vergerlaw02.StatBack'. -/
def statBackUptoCard : Claim7 := { stood := { row := statBackUptoRow, standIns := [], harness := (true, "71aeb12655d3dc500ae3cb24432a36d16550fef29007bdaeebc52fd76338fdce"), looks := false }, kinds := [], alts := [], laidByText := true, laidKinds := [.data, .pinned], laidTests := true, laidLooks := .later }
def StatBackUptoCardSaid : Prop := Claim7.holds Tryd.pinned (.plain (OpenSpec.upto statBackSpec)) statBackUptoCard

/-- THE SECOND FORM's CARD OF 'vergerlaw02.StatOneForm'. -/
def statOneFormUptoCard : Claim7 := { stood := { row := statOneFormUptoRow, standIns := [], harness := (true, "71aeb12655d3dc500ae3cb24432a36d16550fef29007bdaeebc52fd76338fdce"), looks := false }, kinds := [], alts := [], laidByText := true, laidKinds := [.data, .pinned], laidTests := true, laidLooks := .later }
def StatOneFormUptoCardSaid : Prop := Claim7.holds Tryd.pinned (.plain (OpenSpec.upto statOneFormSpec)) statOneFormUptoCard

/-- THE SECOND FORM's CARD OF 'vergerlaw02.StatPieces'. -/
def statPiecesUptoCard : Claim7 := { stood := { row := statPiecesUptoRow, standIns := [], harness := (true, "71aeb12655d3dc500ae3cb24432a36d16550fef29007bdaeebc52fd76338fdce"), looks := false }, kinds := [], alts := [], laidByText := true, laidKinds := [.data, .pinned], laidTests := true, laidLooks := .later }
def StatPiecesUptoCardSaid : Prop := Claim7.holds Tryd.pinned (.plain (OpenSpec.upto statPiecesSpec)) statPiecesUptoCard

/-- THE SECOND FORM's CARD OF 'vergerlaw02.StatTouches'. -/
def statTouchesUptoCard : Claim7 := { stood := { row := statTouchesUptoRow, standIns := [], harness := (true, "71aeb12655d3dc500ae3cb24432a36d16550fef29007bdaeebc52fd76338fdce"), looks := false }, kinds := [], alts := [], laidByText := true, laidKinds := [.data, .pinned], laidTests := true, laidLooks := .later }
def StatTouchesUptoCardSaid : Prop := Claim7.holds Tryd.pinned (.plain (OpenSpec.upto statTouchesSpec)) statTouchesUptoCard
end Rows
end Go.Proofs.YtedddekkbgaolaaDoor
