/-
  NARROWER THAN 'FOR EVERY INPUT', by the rows' own cells (each row's printed sentence says how): WireJoins: laid · WireMade: laid · WireNames: laid · WireWrites: laid · WireGood: laid · WireReads: laid · WireBack: laid · WireStays: laid · StatNumbers: laid · StatBack: laid · StatOneForm: laid · StatPieces: laid · StatTouches: laid.
  DERIVED. THE GIVEN ROWS OF THIS SEAT. 13 by the template 'for every input the law returns true; each argument reads behind the call as it read before'; 0 by the template 'total and deterministic' (their statements: YtedddekkbgaolaaDoorTotals.lean).
  GIVEN WITH THE SEED: the statements are not yours to turn. If you find one false, say at which input.
  Laid BY PROGRAM, IN A SANDBOX (cutbox-rows.mjs): the forced cells as the released guide's own fill.sh prints them over the translation 08daf431b06ae5fa… (all of the seat's roots in one cut). By AI agents, Wed Nov 11 2026. No macro, syntax, notation, axiom, sorry.
-/
import Derived.Test.YtedddekkbgaolaaDoorChecked
import GoSem.PinnedTables
import GoSem.Claim
import GoSem.ClaimJoined
import GoSem.ClaimMapViews
import Derived.JoinedTies
import Derived.KernelRfl
namespace Go.Proofs.YtedddekkbgaolaaDoor
/- THE CELL 'sum', in the pinned program and in every row, IS THE sha256 OF THE DUMP (.gsa) THAT YtedddekkbgaolaaDoorProg.lean LOADS. Nothing in Lean hashes anything: it is a label: what it is worth is what the hold of that sum in a sandbox is worth. -/
noncomputable def Tryd.pinned : Pinned := { name := "ytedddekkbgaolaadoor", sum := "08daf431b06ae5fad1311158c1c65848b0164cfebaebcdcea55d5605bae734e6", checked := Tryd.checked }
namespace Rows
def none {H : Type} : Left H := { results := [], args := [] }

/- WHAT THE LISTED PACKAGE-LEVEL VARIABLES READ AS WHEN THE CALL BEGINS. Each datum BY PROGRAM (the guide's laid-datum.mjs) off the statement by which the dump's own 'gosem.cut.vars' lays the variable. In a bare row this is a premise. The card (YtedddekkbgaolaaDoorCards.lean) ties it to the program's text. -/
def laid_unicode_utf8_acceptRanges {H : Type} : DataW H := .agg [.agg [.lit (.int .u8 128), .lit (.int .u8 191)], .agg [.lit (.int .u8 160), .lit (.int .u8 191)], .agg [.lit (.int .u8 128), .lit (.int .u8 159)], .agg [.lit (.int .u8 144), .lit (.int .u8 191)], .agg [.lit (.int .u8 128), .lit (.int .u8 143)], .agg [.lit (.int .u8 0), .lit (.int .u8 0)], .agg [.lit (.int .u8 0), .lit (.int .u8 0)], .agg [.lit (.int .u8 0), .lit (.int .u8 0)], .agg [.lit (.int .u8 0), .lit (.int .u8 0)], .agg [.lit (.int .u8 0), .lit (.int .u8 0)], .agg [.lit (.int .u8 0), .lit (.int .u8 0)], .agg [.lit (.int .u8 0), .lit (.int .u8 0)], .agg [.lit (.int .u8 0), .lit (.int .u8 0)], .agg [.lit (.int .u8 0), .lit (.int .u8 0)], .agg [.lit (.int .u8 0), .lit (.int .u8 0)], .agg [.lit (.int .u8 0), .lit (.int .u8 0)]]
/-- One of Go's own tables, pinned by name: the form's constant. -/
def laid_unicode_utf8_first : DataW Unit := Go.Pinned.utf8First

/-- 'vergerlaw01.WireJoins': WHATEVER THE INPUT: true; the input reads as it did. -/
def wireJoinsSpec : ChangeSpec := { name := "wireJoins", fn := fun _ => fun
  | [d1, d2, d3] => { results := [.lit (.bool true)], args := [d1, d2, d3] }
  | _ => none }
def wireJoinsRow : OpenClaim := { program := "ytedddekkbgaolaadoor", sum := "08daf431b06ae5fad1311158c1c65848b0164cfebaebcdcea55d5605bae734e6", func := "verger/vergerlaw01.WireJoins", spec := "wireJoins", named := ["unicode/utf8.first", "unicode/utf8.acceptRanges"], apart := false, laid := [("unicode/utf8.acceptRanges", laid_unicode_utf8_acceptRanges), ("unicode/utf8.first", laid_unicode_utf8_first)] }
def WireJoinsSaid : Prop := wireJoinsRow.holds Tryd.pinned (OpenSpec.ofChange wireJoinsSpec)

/-- ITS FALSE NEIGHBOUR: 'it returns false'. Refute it at one input. -/
def wireJoinsWrong : ChangeSpec := { name := "wireJoins", fn := fun _ => fun
  | [d1, d2, d3] => { results := [.lit (.bool false)], args := [d1, d2, d3] }
  | _ => none }
def WireJoinsWrongFalsely : Prop := wireJoinsRow.holds Tryd.pinned (OpenSpec.ofChange wireJoinsWrong)

/-- 'vergerlaw01.WireMade': WHATEVER THE INPUT: true; the input reads as it did. -/
def wireMadeSpec : ChangeSpec := { name := "wireMade", fn := fun _ => fun
  | [d1, d2, d3] => { results := [.lit (.bool true)], args := [d1, d2, d3] }
  | _ => none }
def wireMadeRow : OpenClaim := { program := "ytedddekkbgaolaadoor", sum := "08daf431b06ae5fad1311158c1c65848b0164cfebaebcdcea55d5605bae734e6", func := "verger/vergerlaw01.WireMade", spec := "wireMade", named := ["unicode/utf8.first", "unicode/utf8.acceptRanges"], apart := false, laid := [("unicode/utf8.acceptRanges", laid_unicode_utf8_acceptRanges), ("unicode/utf8.first", laid_unicode_utf8_first)] }
def WireMadeSaid : Prop := wireMadeRow.holds Tryd.pinned (OpenSpec.ofChange wireMadeSpec)

/-- ITS FALSE NEIGHBOUR: 'it returns false'. Refute it at one input. -/
def wireMadeWrong : ChangeSpec := { name := "wireMade", fn := fun _ => fun
  | [d1, d2, d3] => { results := [.lit (.bool false)], args := [d1, d2, d3] }
  | _ => none }
def WireMadeWrongFalsely : Prop := wireMadeRow.holds Tryd.pinned (OpenSpec.ofChange wireMadeWrong)

/-- 'vergerlaw01.WireNames': WHATEVER THE INPUT: true; the input reads as it did. -/
def wireNamesSpec : ChangeSpec := { name := "wireNames", fn := fun _ => fun
  | [] => { results := [.lit (.bool true)], args := [] }
  | _ => none }
def wireNamesRow : OpenClaim := { program := "ytedddekkbgaolaadoor", sum := "08daf431b06ae5fad1311158c1c65848b0164cfebaebcdcea55d5605bae734e6", func := "verger/vergerlaw01.WireNames", spec := "wireNames", named := ["unicode/utf8.first", "unicode/utf8.acceptRanges"], apart := false, laid := [("unicode/utf8.acceptRanges", laid_unicode_utf8_acceptRanges), ("unicode/utf8.first", laid_unicode_utf8_first)] }
def WireNamesSaid : Prop := wireNamesRow.holds Tryd.pinned (OpenSpec.ofChange wireNamesSpec)

/-- ITS FALSE NEIGHBOUR: 'it returns false'. Refute it at one input. -/
def wireNamesWrong : ChangeSpec := { name := "wireNames", fn := fun _ => fun
  | [] => { results := [.lit (.bool false)], args := [] }
  | _ => none }
def WireNamesWrongFalsely : Prop := wireNamesRow.holds Tryd.pinned (OpenSpec.ofChange wireNamesWrong)

/-- 'vergerlaw01.WireWrites': WHATEVER THE INPUT: true; the input reads as it did. -/
def wireWritesSpec : ChangeSpec := { name := "wireWrites", fn := fun _ => fun
  | [d1, d2] => { results := [.lit (.bool true)], args := [d1, d2] }
  | _ => none }
def wireWritesRow : OpenClaim := { program := "ytedddekkbgaolaadoor", sum := "08daf431b06ae5fad1311158c1c65848b0164cfebaebcdcea55d5605bae734e6", func := "verger/vergerlaw01.WireWrites", spec := "wireWrites", named := ["unicode/utf8.first", "unicode/utf8.acceptRanges"], apart := false, laid := [("unicode/utf8.acceptRanges", laid_unicode_utf8_acceptRanges), ("unicode/utf8.first", laid_unicode_utf8_first)] }
def WireWritesSaid : Prop := wireWritesRow.holds Tryd.pinned (OpenSpec.ofChange wireWritesSpec)

/-- ITS FALSE NEIGHBOUR: 'it returns false'. Refute it at one input. -/
def wireWritesWrong : ChangeSpec := { name := "wireWrites", fn := fun _ => fun
  | [d1, d2] => { results := [.lit (.bool false)], args := [d1, d2] }
  | _ => none }
def WireWritesWrongFalsely : Prop := wireWritesRow.holds Tryd.pinned (OpenSpec.ofChange wireWritesWrong)

/-- 'vergerlaw01.WireGood': WHATEVER THE INPUT: true; the input reads as it did. -/
def wireGoodSpec : ChangeSpec := { name := "wireGood", fn := fun _ => fun
  | [d1, d2] => { results := [.lit (.bool true)], args := [d1, d2] }
  | _ => none }
def wireGoodRow : OpenClaim := { program := "ytedddekkbgaolaadoor", sum := "08daf431b06ae5fad1311158c1c65848b0164cfebaebcdcea55d5605bae734e6", func := "verger/vergerlaw01.WireGood", spec := "wireGood", named := ["unicode/utf8.first", "unicode/utf8.acceptRanges"], apart := false, laid := [("unicode/utf8.acceptRanges", laid_unicode_utf8_acceptRanges), ("unicode/utf8.first", laid_unicode_utf8_first)] }
def WireGoodSaid : Prop := wireGoodRow.holds Tryd.pinned (OpenSpec.ofChange wireGoodSpec)

/-- ITS FALSE NEIGHBOUR: 'it returns false'. Refute it at one input. -/
def wireGoodWrong : ChangeSpec := { name := "wireGood", fn := fun _ => fun
  | [d1, d2] => { results := [.lit (.bool false)], args := [d1, d2] }
  | _ => none }
def WireGoodWrongFalsely : Prop := wireGoodRow.holds Tryd.pinned (OpenSpec.ofChange wireGoodWrong)

/-- 'vergerlaw01.WireReads': WHATEVER THE INPUT: true; the input reads as it did. -/
def wireReadsSpec : ChangeSpec := { name := "wireReads", fn := fun _ => fun
  | [d1, d2] => { results := [.lit (.bool true)], args := [d1, d2] }
  | _ => none }
def wireReadsRow : OpenClaim := { program := "ytedddekkbgaolaadoor", sum := "08daf431b06ae5fad1311158c1c65848b0164cfebaebcdcea55d5605bae734e6", func := "verger/vergerlaw01.WireReads", spec := "wireReads", named := ["unicode/utf8.first", "unicode/utf8.acceptRanges"], apart := false, laid := [("unicode/utf8.acceptRanges", laid_unicode_utf8_acceptRanges), ("unicode/utf8.first", laid_unicode_utf8_first)] }
def WireReadsSaid : Prop := wireReadsRow.holds Tryd.pinned (OpenSpec.ofChange wireReadsSpec)

/-- ITS FALSE NEIGHBOUR: 'it returns false'. Refute it at one input. -/
def wireReadsWrong : ChangeSpec := { name := "wireReads", fn := fun _ => fun
  | [d1, d2] => { results := [.lit (.bool false)], args := [d1, d2] }
  | _ => none }
def WireReadsWrongFalsely : Prop := wireReadsRow.holds Tryd.pinned (OpenSpec.ofChange wireReadsWrong)

/-- 'vergerlaw01.WireBack': WHATEVER THE INPUT: true; the input reads as it did. -/
def wireBackSpec : ChangeSpec := { name := "wireBack", fn := fun _ => fun
  | [d] => { results := [.lit (.bool true)], args := [d] }
  | _ => none }
def wireBackRow : OpenClaim := { program := "ytedddekkbgaolaadoor", sum := "08daf431b06ae5fad1311158c1c65848b0164cfebaebcdcea55d5605bae734e6", func := "verger/vergerlaw01.WireBack", spec := "wireBack", named := ["unicode/utf8.first", "unicode/utf8.acceptRanges"], apart := false, laid := [("unicode/utf8.acceptRanges", laid_unicode_utf8_acceptRanges), ("unicode/utf8.first", laid_unicode_utf8_first)] }
def WireBackSaid : Prop := wireBackRow.holds Tryd.pinned (OpenSpec.ofChange wireBackSpec)

/-- ITS FALSE NEIGHBOUR: 'it returns false'. Refute it at one input. -/
def wireBackWrong : ChangeSpec := { name := "wireBack", fn := fun _ => fun
  | [d] => { results := [.lit (.bool false)], args := [d] }
  | _ => none }
def WireBackWrongFalsely : Prop := wireBackRow.holds Tryd.pinned (OpenSpec.ofChange wireBackWrong)

/-- 'vergerlaw01.WireStays': WHATEVER THE INPUT: true; the input reads as it did. -/
def wireStaysSpec : ChangeSpec := { name := "wireStays", fn := fun _ => fun
  | [d1, d2, d3] => { results := [.lit (.bool true)], args := [d1, d2, d3] }
  | _ => none }
def wireStaysRow : OpenClaim := { program := "ytedddekkbgaolaadoor", sum := "08daf431b06ae5fad1311158c1c65848b0164cfebaebcdcea55d5605bae734e6", func := "verger/vergerlaw01.WireStays", spec := "wireStays", named := ["unicode/utf8.first", "unicode/utf8.acceptRanges"], apart := false, laid := [("unicode/utf8.acceptRanges", laid_unicode_utf8_acceptRanges), ("unicode/utf8.first", laid_unicode_utf8_first)] }
def WireStaysSaid : Prop := wireStaysRow.holds Tryd.pinned (OpenSpec.ofChange wireStaysSpec)

/-- ITS FALSE NEIGHBOUR: 'it returns false'. Refute it at one input. -/
def wireStaysWrong : ChangeSpec := { name := "wireStays", fn := fun _ => fun
  | [d1, d2, d3] => { results := [.lit (.bool false)], args := [d1, d2, d3] }
  | _ => none }
def WireStaysWrongFalsely : Prop := wireStaysRow.holds Tryd.pinned (OpenSpec.ofChange wireStaysWrong)

/-- 'vergerlaw02.StatNumbers': WHATEVER THE INPUT: true; the input reads as it did. -/
def statNumbersSpec : ChangeSpec := { name := "statNumbers", fn := fun _ => fun
  | [] => { results := [.lit (.bool true)], args := [] }
  | _ => none }
def statNumbersRow : OpenClaim := { program := "ytedddekkbgaolaadoor", sum := "08daf431b06ae5fad1311158c1c65848b0164cfebaebcdcea55d5605bae734e6", func := "verger/vergerlaw02.StatNumbers", spec := "statNumbers", named := ["unicode/utf8.first", "unicode/utf8.acceptRanges"], apart := false, laid := [("unicode/utf8.acceptRanges", laid_unicode_utf8_acceptRanges), ("unicode/utf8.first", laid_unicode_utf8_first)] }
def StatNumbersSaid : Prop := statNumbersRow.holds Tryd.pinned (OpenSpec.ofChange statNumbersSpec)

/-- ITS FALSE NEIGHBOUR: 'it returns false'. Refute it at one input. -/
def statNumbersWrong : ChangeSpec := { name := "statNumbers", fn := fun _ => fun
  | [] => { results := [.lit (.bool false)], args := [] }
  | _ => none }
def StatNumbersWrongFalsely : Prop := statNumbersRow.holds Tryd.pinned (OpenSpec.ofChange statNumbersWrong)

/-- 'vergerlaw02.StatBack': WHATEVER THE INPUT: true; the input reads as it did. -/
def statBackSpec : ChangeSpec := { name := "statBack", fn := fun _ => fun
  | [d] => { results := [.lit (.bool true)], args := [d] }
  | _ => none }
def statBackRow : OpenClaim := { program := "ytedddekkbgaolaadoor", sum := "08daf431b06ae5fad1311158c1c65848b0164cfebaebcdcea55d5605bae734e6", func := "verger/vergerlaw02.StatBack", spec := "statBack", named := ["unicode/utf8.first", "unicode/utf8.acceptRanges"], apart := false, laid := [("unicode/utf8.acceptRanges", laid_unicode_utf8_acceptRanges), ("unicode/utf8.first", laid_unicode_utf8_first)] }
def StatBackSaid : Prop := statBackRow.holds Tryd.pinned (OpenSpec.ofChange statBackSpec)

/-- ITS FALSE NEIGHBOUR: 'it returns false'. Refute it at one input. -/
def statBackWrong : ChangeSpec := { name := "statBack", fn := fun _ => fun
  | [d] => { results := [.lit (.bool false)], args := [d] }
  | _ => none }
def StatBackWrongFalsely : Prop := statBackRow.holds Tryd.pinned (OpenSpec.ofChange statBackWrong)

/-- 'vergerlaw02.StatOneForm': WHATEVER THE INPUT: true; the input reads as it did. -/
def statOneFormSpec : ChangeSpec := { name := "statOneForm", fn := fun _ => fun
  | [d] => { results := [.lit (.bool true)], args := [d] }
  | _ => none }
def statOneFormRow : OpenClaim := { program := "ytedddekkbgaolaadoor", sum := "08daf431b06ae5fad1311158c1c65848b0164cfebaebcdcea55d5605bae734e6", func := "verger/vergerlaw02.StatOneForm", spec := "statOneForm", unfollowed := true, recurses := true, named := ["unicode/utf8.first", "unicode/utf8.acceptRanges"], apart := false, laid := [("unicode/utf8.acceptRanges", laid_unicode_utf8_acceptRanges), ("unicode/utf8.first", laid_unicode_utf8_first)] }
def StatOneFormSaid : Prop := statOneFormRow.holds Tryd.pinned (OpenSpec.ofChange statOneFormSpec)

/-- ITS FALSE NEIGHBOUR: 'it returns false'. Refute it at one input. -/
def statOneFormWrong : ChangeSpec := { name := "statOneForm", fn := fun _ => fun
  | [d] => { results := [.lit (.bool false)], args := [d] }
  | _ => none }
def StatOneFormWrongFalsely : Prop := statOneFormRow.holds Tryd.pinned (OpenSpec.ofChange statOneFormWrong)

/-- 'vergerlaw02.StatPieces': WHATEVER THE INPUT: true; the input reads as it did. -/
def statPiecesSpec : ChangeSpec := { name := "statPieces", fn := fun _ => fun
  | [d1, d2] => { results := [.lit (.bool true)], args := [d1, d2] }
  | _ => none }
def statPiecesRow : OpenClaim := { program := "ytedddekkbgaolaadoor", sum := "08daf431b06ae5fad1311158c1c65848b0164cfebaebcdcea55d5605bae734e6", func := "verger/vergerlaw02.StatPieces", spec := "statPieces", unfollowed := true, recurses := true, named := ["unicode/utf8.first", "unicode/utf8.acceptRanges"], apart := false, laid := [("unicode/utf8.acceptRanges", laid_unicode_utf8_acceptRanges), ("unicode/utf8.first", laid_unicode_utf8_first)] }
def StatPiecesSaid : Prop := statPiecesRow.holds Tryd.pinned (OpenSpec.ofChange statPiecesSpec)

/-- ITS FALSE NEIGHBOUR: 'it returns false'. Refute it at one input. -/
def statPiecesWrong : ChangeSpec := { name := "statPieces", fn := fun _ => fun
  | [d1, d2] => { results := [.lit (.bool false)], args := [d1, d2] }
  | _ => none }
def StatPiecesWrongFalsely : Prop := statPiecesRow.holds Tryd.pinned (OpenSpec.ofChange statPiecesWrong)

/-- 'vergerlaw02.StatTouches': WHATEVER THE INPUT: true; the input reads as it did. -/
def statTouchesSpec : ChangeSpec := { name := "statTouches", fn := fun _ => fun
  | [d1, d2] => { results := [.lit (.bool true)], args := [d1, d2] }
  | _ => none }
def statTouchesRow : OpenClaim := { program := "ytedddekkbgaolaadoor", sum := "08daf431b06ae5fad1311158c1c65848b0164cfebaebcdcea55d5605bae734e6", func := "verger/vergerlaw02.StatTouches", spec := "statTouches", named := ["unicode/utf8.first", "unicode/utf8.acceptRanges"], apart := false, laid := [("unicode/utf8.acceptRanges", laid_unicode_utf8_acceptRanges), ("unicode/utf8.first", laid_unicode_utf8_first)] }
def StatTouchesSaid : Prop := statTouchesRow.holds Tryd.pinned (OpenSpec.ofChange statTouchesSpec)

/-- ITS FALSE NEIGHBOUR: 'it returns false'. Refute it at one input. -/
def statTouchesWrong : ChangeSpec := { name := "statTouches", fn := fun _ => fun
  | [d1, d2] => { results := [.lit (.bool false)], args := [d1, d2] }
  | _ => none }
def StatTouchesWrongFalsely : Prop := statTouchesRow.holds Tryd.pinned (OpenSpec.ofChange statTouchesWrong)

/- THE SECOND FORM. 'bulk': how many values and letters a reading holds, each counted each time it is reached (what is shared counts as often as it is met; a slice's spare places count too). A statement '..UptoSaid' is the law's where the arguments, and the package variables that the reading takes, are together of bulk at most 1048576: NARROWER than '..Said'. Prove '..Said' where nothing that the law and all that it calls make is longer than what came in: it says more and counts as full. Else prove '..UptoSaid'. A law counts once. -/
mutual
def uptoBulk {H : Type} : DataW H → Nat
  | .lit (.string bytes) => bytes.length + 1
  | .lit _ => 1
  | .nil => 1
  | .ptr d => uptoBulk d + 1
  | .slice elems spare => uptoBulkAll elems + uptoBulkAll spare + 1
  | .agg parts => uptoBulkAll parts + 1
  | .iface _ d => uptoBulk d + 1
  | .map entries => uptoBulkEntries entries + 1
  | .held _ => 1
def uptoBulkAll {H : Type} : List (DataW H) → Nat
  | [] => 0
  | d :: r => uptoBulk d + uptoBulkAll r
def uptoBulkEntries {H : Type} : List (Lit × DataW H) → Nat
  | [] => 0
  | x :: r => uptoBulkEntry x + uptoBulkEntries r
def uptoBulkEntry {H : Type} : Lit × DataW H → Nat
  | (.string bytes, d) => bytes.length + uptoBulk d + 1
  | (_, d) => uptoBulk d + 1
 end
def uptoSmall : (H : Type) → List (DataW H) → Bool := fun _ ds => decide (uptoBulkAll ds ≤ 1048576)
def OpenSpec.upto (s : _root_.Go.ChangeSpec) : _root_.Go.OpenSpec := { _root_.Go.OpenSpec.ofChange s with cond := some uptoSmall }

/-- 'vergerlaw01.WireJoins', WHERE WHAT IT READS IS OF BULK AT MOST 1048576: true; the input reads as it did. -/
def wireJoinsUptoRow : OpenClaim := { program := "ytedddekkbgaolaadoor", sum := "08daf431b06ae5fad1311158c1c65848b0164cfebaebcdcea55d5605bae734e6", func := "verger/vergerlaw01.WireJoins", spec := "wireJoins", named := ["unicode/utf8.first", "unicode/utf8.acceptRanges"], apart := false, laid := [("unicode/utf8.acceptRanges", laid_unicode_utf8_acceptRanges), ("unicode/utf8.first", laid_unicode_utf8_first)], narrowed := true }
def WireJoinsUptoSaid : Prop := wireJoinsUptoRow.holds Tryd.pinned (OpenSpec.upto wireJoinsSpec)

/-- 'vergerlaw01.WireMade', WHERE WHAT IT READS IS OF BULK AT MOST 1048576: true; the input reads as it did. -/
def wireMadeUptoRow : OpenClaim := { program := "ytedddekkbgaolaadoor", sum := "08daf431b06ae5fad1311158c1c65848b0164cfebaebcdcea55d5605bae734e6", func := "verger/vergerlaw01.WireMade", spec := "wireMade", named := ["unicode/utf8.first", "unicode/utf8.acceptRanges"], apart := false, laid := [("unicode/utf8.acceptRanges", laid_unicode_utf8_acceptRanges), ("unicode/utf8.first", laid_unicode_utf8_first)], narrowed := true }
def WireMadeUptoSaid : Prop := wireMadeUptoRow.holds Tryd.pinned (OpenSpec.upto wireMadeSpec)

/-- 'vergerlaw01.WireNames', WHERE WHAT IT READS IS OF BULK AT MOST 1048576: true; the input reads as it did. -/
def wireNamesUptoRow : OpenClaim := { program := "ytedddekkbgaolaadoor", sum := "08daf431b06ae5fad1311158c1c65848b0164cfebaebcdcea55d5605bae734e6", func := "verger/vergerlaw01.WireNames", spec := "wireNames", named := ["unicode/utf8.first", "unicode/utf8.acceptRanges"], apart := false, laid := [("unicode/utf8.acceptRanges", laid_unicode_utf8_acceptRanges), ("unicode/utf8.first", laid_unicode_utf8_first)], narrowed := true }
def WireNamesUptoSaid : Prop := wireNamesUptoRow.holds Tryd.pinned (OpenSpec.upto wireNamesSpec)

/-- 'vergerlaw01.WireWrites', WHERE WHAT IT READS IS OF BULK AT MOST 1048576: true; the input reads as it did. -/
def wireWritesUptoRow : OpenClaim := { program := "ytedddekkbgaolaadoor", sum := "08daf431b06ae5fad1311158c1c65848b0164cfebaebcdcea55d5605bae734e6", func := "verger/vergerlaw01.WireWrites", spec := "wireWrites", named := ["unicode/utf8.first", "unicode/utf8.acceptRanges"], apart := false, laid := [("unicode/utf8.acceptRanges", laid_unicode_utf8_acceptRanges), ("unicode/utf8.first", laid_unicode_utf8_first)], narrowed := true }
def WireWritesUptoSaid : Prop := wireWritesUptoRow.holds Tryd.pinned (OpenSpec.upto wireWritesSpec)

/-- 'vergerlaw01.WireGood', WHERE WHAT IT READS IS OF BULK AT MOST 1048576: true; the input reads as it did. -/
def wireGoodUptoRow : OpenClaim := { program := "ytedddekkbgaolaadoor", sum := "08daf431b06ae5fad1311158c1c65848b0164cfebaebcdcea55d5605bae734e6", func := "verger/vergerlaw01.WireGood", spec := "wireGood", named := ["unicode/utf8.first", "unicode/utf8.acceptRanges"], apart := false, laid := [("unicode/utf8.acceptRanges", laid_unicode_utf8_acceptRanges), ("unicode/utf8.first", laid_unicode_utf8_first)], narrowed := true }
def WireGoodUptoSaid : Prop := wireGoodUptoRow.holds Tryd.pinned (OpenSpec.upto wireGoodSpec)

/-- 'vergerlaw01.WireReads', WHERE WHAT IT READS IS OF BULK AT MOST 1048576: true; the input reads as it did. -/
def wireReadsUptoRow : OpenClaim := { program := "ytedddekkbgaolaadoor", sum := "08daf431b06ae5fad1311158c1c65848b0164cfebaebcdcea55d5605bae734e6", func := "verger/vergerlaw01.WireReads", spec := "wireReads", named := ["unicode/utf8.first", "unicode/utf8.acceptRanges"], apart := false, laid := [("unicode/utf8.acceptRanges", laid_unicode_utf8_acceptRanges), ("unicode/utf8.first", laid_unicode_utf8_first)], narrowed := true }
def WireReadsUptoSaid : Prop := wireReadsUptoRow.holds Tryd.pinned (OpenSpec.upto wireReadsSpec)

/-- 'vergerlaw01.WireBack', WHERE WHAT IT READS IS OF BULK AT MOST 1048576: true; the input reads as it did. -/
def wireBackUptoRow : OpenClaim := { program := "ytedddekkbgaolaadoor", sum := "08daf431b06ae5fad1311158c1c65848b0164cfebaebcdcea55d5605bae734e6", func := "verger/vergerlaw01.WireBack", spec := "wireBack", named := ["unicode/utf8.first", "unicode/utf8.acceptRanges"], apart := false, laid := [("unicode/utf8.acceptRanges", laid_unicode_utf8_acceptRanges), ("unicode/utf8.first", laid_unicode_utf8_first)], narrowed := true }
def WireBackUptoSaid : Prop := wireBackUptoRow.holds Tryd.pinned (OpenSpec.upto wireBackSpec)

/-- 'vergerlaw01.WireStays', WHERE WHAT IT READS IS OF BULK AT MOST 1048576: true; the input reads as it did. -/
def wireStaysUptoRow : OpenClaim := { program := "ytedddekkbgaolaadoor", sum := "08daf431b06ae5fad1311158c1c65848b0164cfebaebcdcea55d5605bae734e6", func := "verger/vergerlaw01.WireStays", spec := "wireStays", named := ["unicode/utf8.first", "unicode/utf8.acceptRanges"], apart := false, laid := [("unicode/utf8.acceptRanges", laid_unicode_utf8_acceptRanges), ("unicode/utf8.first", laid_unicode_utf8_first)], narrowed := true }
def WireStaysUptoSaid : Prop := wireStaysUptoRow.holds Tryd.pinned (OpenSpec.upto wireStaysSpec)

/-- 'vergerlaw02.StatNumbers', WHERE WHAT IT READS IS OF BULK AT MOST 1048576: true; the input reads as it did. -/
def statNumbersUptoRow : OpenClaim := { program := "ytedddekkbgaolaadoor", sum := "08daf431b06ae5fad1311158c1c65848b0164cfebaebcdcea55d5605bae734e6", func := "verger/vergerlaw02.StatNumbers", spec := "statNumbers", named := ["unicode/utf8.first", "unicode/utf8.acceptRanges"], apart := false, laid := [("unicode/utf8.acceptRanges", laid_unicode_utf8_acceptRanges), ("unicode/utf8.first", laid_unicode_utf8_first)], narrowed := true }
def StatNumbersUptoSaid : Prop := statNumbersUptoRow.holds Tryd.pinned (OpenSpec.upto statNumbersSpec)

/-- 'vergerlaw02.StatBack', WHERE WHAT IT READS IS OF BULK AT MOST 1048576: true; the input reads as it did. -/
def statBackUptoRow : OpenClaim := { program := "ytedddekkbgaolaadoor", sum := "08daf431b06ae5fad1311158c1c65848b0164cfebaebcdcea55d5605bae734e6", func := "verger/vergerlaw02.StatBack", spec := "statBack", named := ["unicode/utf8.first", "unicode/utf8.acceptRanges"], apart := false, laid := [("unicode/utf8.acceptRanges", laid_unicode_utf8_acceptRanges), ("unicode/utf8.first", laid_unicode_utf8_first)], narrowed := true }
def StatBackUptoSaid : Prop := statBackUptoRow.holds Tryd.pinned (OpenSpec.upto statBackSpec)

/-- 'vergerlaw02.StatOneForm', WHERE WHAT IT READS IS OF BULK AT MOST 1048576: true; the input reads as it did. -/
def statOneFormUptoRow : OpenClaim := { program := "ytedddekkbgaolaadoor", sum := "08daf431b06ae5fad1311158c1c65848b0164cfebaebcdcea55d5605bae734e6", func := "verger/vergerlaw02.StatOneForm", spec := "statOneForm", unfollowed := true, recurses := true, named := ["unicode/utf8.first", "unicode/utf8.acceptRanges"], apart := false, laid := [("unicode/utf8.acceptRanges", laid_unicode_utf8_acceptRanges), ("unicode/utf8.first", laid_unicode_utf8_first)], narrowed := true }
def StatOneFormUptoSaid : Prop := statOneFormUptoRow.holds Tryd.pinned (OpenSpec.upto statOneFormSpec)

/-- 'vergerlaw02.StatPieces', WHERE WHAT IT READS IS OF BULK AT MOST 1048576: true; the input reads as it did. -/
def statPiecesUptoRow : OpenClaim := { program := "ytedddekkbgaolaadoor", sum := "08daf431b06ae5fad1311158c1c65848b0164cfebaebcdcea55d5605bae734e6", func := "verger/vergerlaw02.StatPieces", spec := "statPieces", unfollowed := true, recurses := true, named := ["unicode/utf8.first", "unicode/utf8.acceptRanges"], apart := false, laid := [("unicode/utf8.acceptRanges", laid_unicode_utf8_acceptRanges), ("unicode/utf8.first", laid_unicode_utf8_first)], narrowed := true }
def StatPiecesUptoSaid : Prop := statPiecesUptoRow.holds Tryd.pinned (OpenSpec.upto statPiecesSpec)

/-- 'vergerlaw02.StatTouches', WHERE WHAT IT READS IS OF BULK AT MOST 1048576: true; the input reads as it did. -/
def statTouchesUptoRow : OpenClaim := { program := "ytedddekkbgaolaadoor", sum := "08daf431b06ae5fad1311158c1c65848b0164cfebaebcdcea55d5605bae734e6", func := "verger/vergerlaw02.StatTouches", spec := "statTouches", named := ["unicode/utf8.first", "unicode/utf8.acceptRanges"], apart := false, laid := [("unicode/utf8.acceptRanges", laid_unicode_utf8_acceptRanges), ("unicode/utf8.first", laid_unicode_utf8_first)], narrowed := true }
def StatTouchesUptoSaid : Prop := statTouchesUptoRow.holds Tryd.pinned (OpenSpec.upto statTouchesSpec)

end Rows
end Go.Proofs.YtedddekkbgaolaaDoor
