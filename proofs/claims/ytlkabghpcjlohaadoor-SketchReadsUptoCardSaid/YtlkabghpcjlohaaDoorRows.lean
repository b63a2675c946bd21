/-
  NARROWER THAN 'FOR EVERY INPUT', by the rows' own cells (each row's printed sentence says how): UtfEncodes: laid · UtfRanges: laid · UtfStops: laid · UtfCuts: laid · UtfFixes: laid · UtfLines: laid · SketchReads: laid · SketchWrites: laid · SketchCanon: laid · SketchBlanks: laid · UtfExact: laid · FoldTwice: laid.
  DERIVED. THE GIVEN ROWS OF THIS SEAT. 12 by the template 'for every input the law returns true; each argument reads behind the call as it read before'; 0 by the template 'total and deterministic' (their statements: YtlkabghpcjlohaaDoorTotals.lean).
  GIVEN WITH THE SEED: the statements are not yours to turn. If you find one false, say at which input.
  Laid BY PROGRAM, IN A SANDBOX (cutbox-rows.mjs): the forced cells as the released guide's own fill.sh prints them over the translation 2e51e59e634a3389… (all of the seat's roots in one cut). By AI agents, Wed Nov 11 2026. No macro, syntax, notation, axiom, sorry.
-/
import Derived.Test.YtlkabghpcjlohaaDoorChecked
import GoSem.PinnedTables
import GoSem.Claim
import GoSem.ClaimJoined
import GoSem.ClaimMapViews
import Derived.JoinedTies
import Derived.KernelRfl
namespace Go.Proofs.YtlkabghpcjlohaaDoor
/- THE CELL 'sum', in the pinned program and in every row, IS THE sha256 OF THE DUMP (.gsa) THAT YtlkabghpcjlohaaDoorProg.lean LOADS. Nothing in Lean hashes anything: it is a label: what it is worth is what the hold of that sum in a sandbox is worth. -/
noncomputable def Tryd.pinned : Pinned := { name := "ytlkabghpcjlohaadoor", sum := "2e51e59e634a3389c1f6630ba0e1fe6b903fafb1db06c6f54db93a89e2fa16c4", checked := Tryd.checked }
namespace Rows
def none {H : Type} : Left H := { results := [], args := [] }

/- WHAT THE LISTED PACKAGE-LEVEL VARIABLES READ AS WHEN THE CALL BEGINS. Each datum BY PROGRAM (the guide's laid-datum.mjs) off the statement by which the dump's own 'gosem.cut.vars' lays the variable. In a bare row this is a premise. The card (YtlkabghpcjlohaaDoorCards.lean) ties it to the program's text. -/
def laid_unicode_utf8_acceptRanges {H : Type} : DataW H := .agg [.agg [.lit (.int .u8 128), .lit (.int .u8 191)], .agg [.lit (.int .u8 160), .lit (.int .u8 191)], .agg [.lit (.int .u8 128), .lit (.int .u8 159)], .agg [.lit (.int .u8 144), .lit (.int .u8 191)], .agg [.lit (.int .u8 128), .lit (.int .u8 143)], .agg [.lit (.int .u8 0), .lit (.int .u8 0)], .agg [.lit (.int .u8 0), .lit (.int .u8 0)], .agg [.lit (.int .u8 0), .lit (.int .u8 0)], .agg [.lit (.int .u8 0), .lit (.int .u8 0)], .agg [.lit (.int .u8 0), .lit (.int .u8 0)], .agg [.lit (.int .u8 0), .lit (.int .u8 0)], .agg [.lit (.int .u8 0), .lit (.int .u8 0)], .agg [.lit (.int .u8 0), .lit (.int .u8 0)], .agg [.lit (.int .u8 0), .lit (.int .u8 0)], .agg [.lit (.int .u8 0), .lit (.int .u8 0)], .agg [.lit (.int .u8 0), .lit (.int .u8 0)]]
/-- One of Go's own tables, pinned by name: the form's constant. -/
def laid_unicode_utf8_first : DataW Unit := Go.Pinned.utf8First

/-- 'rebuslaw01.UtfEncodes': WHATEVER THE INPUT: true; the input reads as it did. -/
def utfEncodesSpec : ChangeSpec := { name := "utfEncodes", fn := fun _ => fun
  | [d] => { results := [.lit (.bool true)], args := [d] }
  | _ => none }
def utfEncodesRow : OpenClaim := { program := "ytlkabghpcjlohaadoor", sum := "2e51e59e634a3389c1f6630ba0e1fe6b903fafb1db06c6f54db93a89e2fa16c4", func := "rebus/rebuslaw01.UtfEncodes", spec := "utfEncodes", named := ["unicode/utf8.first", "unicode/utf8.acceptRanges"], apart := false, laid := [("unicode/utf8.acceptRanges", laid_unicode_utf8_acceptRanges), ("unicode/utf8.first", laid_unicode_utf8_first)] }
def UtfEncodesSaid : Prop := utfEncodesRow.holds Tryd.pinned (OpenSpec.ofChange utfEncodesSpec)

/-- ITS FALSE NEIGHBOUR: 'it returns false'. Refute it at one input. -/
def utfEncodesWrong : ChangeSpec := { name := "utfEncodes", fn := fun _ => fun
  | [d] => { results := [.lit (.bool false)], args := [d] }
  | _ => none }
def UtfEncodesWrongFalsely : Prop := utfEncodesRow.holds Tryd.pinned (OpenSpec.ofChange utfEncodesWrong)

/-- 'rebuslaw01.UtfRanges': WHATEVER THE INPUT: true; the input reads as it did. -/
def utfRangesSpec : ChangeSpec := { name := "utfRanges", fn := fun _ => fun
  | [d] => { results := [.lit (.bool true)], args := [d] }
  | _ => none }
def utfRangesRow : OpenClaim := { program := "ytlkabghpcjlohaadoor", sum := "2e51e59e634a3389c1f6630ba0e1fe6b903fafb1db06c6f54db93a89e2fa16c4", func := "rebus/rebuslaw01.UtfRanges", spec := "utfRanges", unfollowed := true, recurses := true, named := ["unicode/utf8.first", "unicode/utf8.acceptRanges"], apart := false, laid := [("unicode/utf8.acceptRanges", laid_unicode_utf8_acceptRanges), ("unicode/utf8.first", laid_unicode_utf8_first)] }
def UtfRangesSaid : Prop := utfRangesRow.holds Tryd.pinned (OpenSpec.ofChange utfRangesSpec)

/-- ITS FALSE NEIGHBOUR: 'it returns false'. Refute it at one input. -/
def utfRangesWrong : ChangeSpec := { name := "utfRanges", fn := fun _ => fun
  | [d] => { results := [.lit (.bool false)], args := [d] }
  | _ => none }
def UtfRangesWrongFalsely : Prop := utfRangesRow.holds Tryd.pinned (OpenSpec.ofChange utfRangesWrong)

/-- 'rebuslaw01.UtfStops': WHATEVER THE INPUT: true; the input reads as it did. -/
def utfStopsSpec : ChangeSpec := { name := "utfStops", fn := fun _ => fun
  | [d1, d2] => { results := [.lit (.bool true)], args := [d1, d2] }
  | _ => none }
def utfStopsRow : OpenClaim := { program := "ytlkabghpcjlohaadoor", sum := "2e51e59e634a3389c1f6630ba0e1fe6b903fafb1db06c6f54db93a89e2fa16c4", func := "rebus/rebuslaw01.UtfStops", spec := "utfStops", unfollowed := true, recurses := true, named := ["unicode/utf8.first", "unicode/utf8.acceptRanges"], apart := false, laid := [("unicode/utf8.acceptRanges", laid_unicode_utf8_acceptRanges), ("unicode/utf8.first", laid_unicode_utf8_first)] }
def UtfStopsSaid : Prop := utfStopsRow.holds Tryd.pinned (OpenSpec.ofChange utfStopsSpec)

/-- ITS FALSE NEIGHBOUR: 'it returns false'. Refute it at one input. -/
def utfStopsWrong : ChangeSpec := { name := "utfStops", fn := fun _ => fun
  | [d1, d2] => { results := [.lit (.bool false)], args := [d1, d2] }
  | _ => none }
def UtfStopsWrongFalsely : Prop := utfStopsRow.holds Tryd.pinned (OpenSpec.ofChange utfStopsWrong)

/-- 'rebuslaw01.UtfCuts': WHATEVER THE INPUT: true; the input reads as it did. -/
def utfCutsSpec : ChangeSpec := { name := "utfCuts", fn := fun _ => fun
  | [d1, d2] => { results := [.lit (.bool true)], args := [d1, d2] }
  | _ => none }
def utfCutsRow : OpenClaim := { program := "ytlkabghpcjlohaadoor", sum := "2e51e59e634a3389c1f6630ba0e1fe6b903fafb1db06c6f54db93a89e2fa16c4", func := "rebus/rebuslaw01.UtfCuts", spec := "utfCuts", inPlace := ["internal/abi.NoEscape"], unfollowed := true, recurses := true, named := ["unicode/utf8.first", "unicode/utf8.acceptRanges"], apart := false, laid := [("unicode/utf8.acceptRanges", laid_unicode_utf8_acceptRanges), ("unicode/utf8.first", laid_unicode_utf8_first)] }
def UtfCutsSaid : Prop := utfCutsRow.holds Tryd.pinned (OpenSpec.ofChange utfCutsSpec)

/-- ITS FALSE NEIGHBOUR: 'it returns false'. Refute it at one input. -/
def utfCutsWrong : ChangeSpec := { name := "utfCuts", fn := fun _ => fun
  | [d1, d2] => { results := [.lit (.bool false)], args := [d1, d2] }
  | _ => none }
def UtfCutsWrongFalsely : Prop := utfCutsRow.holds Tryd.pinned (OpenSpec.ofChange utfCutsWrong)

/-- 'rebuslaw01.UtfFixes': WHATEVER THE INPUT: true; the input reads as it did. -/
def utfFixesSpec : ChangeSpec := { name := "utfFixes", fn := fun _ => fun
  | [d] => { results := [.lit (.bool true)], args := [d] }
  | _ => none }
def utfFixesRow : OpenClaim := { program := "ytlkabghpcjlohaadoor", sum := "2e51e59e634a3389c1f6630ba0e1fe6b903fafb1db06c6f54db93a89e2fa16c4", func := "rebus/rebuslaw01.UtfFixes", spec := "utfFixes", inPlace := ["internal/abi.NoEscape"], unfollowed := true, recurses := true, named := ["unicode/utf8.first", "unicode/utf8.acceptRanges"], apart := false, laid := [("unicode/utf8.acceptRanges", laid_unicode_utf8_acceptRanges), ("unicode/utf8.first", laid_unicode_utf8_first)] }
def UtfFixesSaid : Prop := utfFixesRow.holds Tryd.pinned (OpenSpec.ofChange utfFixesSpec)

/-- ITS FALSE NEIGHBOUR: 'it returns false'. Refute it at one input. -/
def utfFixesWrong : ChangeSpec := { name := "utfFixes", fn := fun _ => fun
  | [d] => { results := [.lit (.bool false)], args := [d] }
  | _ => none }
def UtfFixesWrongFalsely : Prop := utfFixesRow.holds Tryd.pinned (OpenSpec.ofChange utfFixesWrong)

/-- 'rebuslaw01.UtfLines': WHATEVER THE INPUT: true; the input reads as it did. -/
def utfLinesSpec : ChangeSpec := { name := "utfLines", fn := fun _ => fun
  | [d] => { results := [.lit (.bool true)], args := [d] }
  | _ => none }
def utfLinesRow : OpenClaim := { program := "ytlkabghpcjlohaadoor", sum := "2e51e59e634a3389c1f6630ba0e1fe6b903fafb1db06c6f54db93a89e2fa16c4", func := "rebus/rebuslaw01.UtfLines", spec := "utfLines", inPlace := ["internal/bytealg.IndexByteString", "internal/bytealg.IndexString"], named := ["unicode/utf8.first", "unicode/utf8.acceptRanges", "internal/bytealg.MaxLen"], apart := false, laid := [("unicode/utf8.acceptRanges", laid_unicode_utf8_acceptRanges), ("unicode/utf8.first", laid_unicode_utf8_first)] }
def UtfLinesSaid : Prop := utfLinesRow.holds Tryd.pinned (OpenSpec.ofChange utfLinesSpec)

/-- ITS FALSE NEIGHBOUR: 'it returns false'. Refute it at one input. -/
def utfLinesWrong : ChangeSpec := { name := "utfLines", fn := fun _ => fun
  | [d] => { results := [.lit (.bool false)], args := [d] }
  | _ => none }
def UtfLinesWrongFalsely : Prop := utfLinesRow.holds Tryd.pinned (OpenSpec.ofChange utfLinesWrong)

/-- 'rebuslaw08.SketchReads': WHATEVER THE INPUT: true; the input reads as it did. -/
def sketchReadsSpec : ChangeSpec := { name := "sketchReads", fn := fun _ => fun
  | [d] => { results := [.lit (.bool true)], args := [d] }
  | _ => none }
def sketchReadsRow : OpenClaim := { program := "ytlkabghpcjlohaadoor", sum := "2e51e59e634a3389c1f6630ba0e1fe6b903fafb1db06c6f54db93a89e2fa16c4", func := "rebus/rebuslaw08.SketchReads", spec := "sketchReads", inPlace := ["internal/abi.NoEscape"], named := ["unicode/utf8.first", "unicode/utf8.acceptRanges"], apart := false, laid := [("unicode/utf8.acceptRanges", laid_unicode_utf8_acceptRanges), ("unicode/utf8.first", laid_unicode_utf8_first)] }
def SketchReadsSaid : Prop := sketchReadsRow.holds Tryd.pinned (OpenSpec.ofChange sketchReadsSpec)

/-- ITS FALSE NEIGHBOUR: 'it returns false'. Refute it at one input. -/
def sketchReadsWrong : ChangeSpec := { name := "sketchReads", fn := fun _ => fun
  | [d] => { results := [.lit (.bool false)], args := [d] }
  | _ => none }
def SketchReadsWrongFalsely : Prop := sketchReadsRow.holds Tryd.pinned (OpenSpec.ofChange sketchReadsWrong)

/-- 'rebuslaw08.SketchWrites': WHATEVER THE INPUT: true; the input reads as it did. -/
def sketchWritesSpec : ChangeSpec := { name := "sketchWrites", fn := fun _ => fun
  | [d] => { results := [.lit (.bool true)], args := [d] }
  | _ => none }
def sketchWritesRow : OpenClaim := { program := "ytlkabghpcjlohaadoor", sum := "2e51e59e634a3389c1f6630ba0e1fe6b903fafb1db06c6f54db93a89e2fa16c4", func := "rebus/rebuslaw08.SketchWrites", spec := "sketchWrites", inPlace := ["internal/abi.NoEscape"], named := ["unicode/utf8.first", "unicode/utf8.acceptRanges"], apart := false, laid := [("unicode/utf8.acceptRanges", laid_unicode_utf8_acceptRanges), ("unicode/utf8.first", laid_unicode_utf8_first)] }
def SketchWritesSaid : Prop := sketchWritesRow.holds Tryd.pinned (OpenSpec.ofChange sketchWritesSpec)

/-- ITS FALSE NEIGHBOUR: 'it returns false'. Refute it at one input. -/
def sketchWritesWrong : ChangeSpec := { name := "sketchWrites", fn := fun _ => fun
  | [d] => { results := [.lit (.bool false)], args := [d] }
  | _ => none }
def SketchWritesWrongFalsely : Prop := sketchWritesRow.holds Tryd.pinned (OpenSpec.ofChange sketchWritesWrong)

/-- 'rebuslaw08.SketchCanon': WHATEVER THE INPUT: true; the input reads as it did. -/
def sketchCanonSpec : ChangeSpec := { name := "sketchCanon", fn := fun _ => fun
  | [d] => { results := [.lit (.bool true)], args := [d] }
  | _ => none }
def sketchCanonRow : OpenClaim := { program := "ytlkabghpcjlohaadoor", sum := "2e51e59e634a3389c1f6630ba0e1fe6b903fafb1db06c6f54db93a89e2fa16c4", func := "rebus/rebuslaw08.SketchCanon", spec := "sketchCanon", inPlace := ["internal/abi.NoEscape"], named := ["unicode/utf8.first", "unicode/utf8.acceptRanges"], apart := false, laid := [("unicode/utf8.acceptRanges", laid_unicode_utf8_acceptRanges), ("unicode/utf8.first", laid_unicode_utf8_first)] }
def SketchCanonSaid : Prop := sketchCanonRow.holds Tryd.pinned (OpenSpec.ofChange sketchCanonSpec)

/-- ITS FALSE NEIGHBOUR: 'it returns false'. Refute it at one input. -/
def sketchCanonWrong : ChangeSpec := { name := "sketchCanon", fn := fun _ => fun
  | [d] => { results := [.lit (.bool false)], args := [d] }
  | _ => none }
def SketchCanonWrongFalsely : Prop := sketchCanonRow.holds Tryd.pinned (OpenSpec.ofChange sketchCanonWrong)

/-- 'rebuslaw08.SketchBlanks': WHATEVER THE INPUT: true; the input reads as it did. -/
def sketchBlanksSpec : ChangeSpec := { name := "sketchBlanks", fn := fun _ => fun
  | [d1, d2] => { results := [.lit (.bool true)], args := [d1, d2] }
  | _ => none }
def sketchBlanksRow : OpenClaim := { program := "ytlkabghpcjlohaadoor", sum := "2e51e59e634a3389c1f6630ba0e1fe6b903fafb1db06c6f54db93a89e2fa16c4", func := "rebus/rebuslaw08.SketchBlanks", spec := "sketchBlanks", inPlace := ["internal/abi.NoEscape"], named := ["unicode/utf8.first", "unicode/utf8.acceptRanges"], apart := false, laid := [("unicode/utf8.acceptRanges", laid_unicode_utf8_acceptRanges), ("unicode/utf8.first", laid_unicode_utf8_first)] }
def SketchBlanksSaid : Prop := sketchBlanksRow.holds Tryd.pinned (OpenSpec.ofChange sketchBlanksSpec)

/-- ITS FALSE NEIGHBOUR: 'it returns false'. Refute it at one input. -/
def sketchBlanksWrong : ChangeSpec := { name := "sketchBlanks", fn := fun _ => fun
  | [d1, d2] => { results := [.lit (.bool false)], args := [d1, d2] }
  | _ => none }
def SketchBlanksWrongFalsely : Prop := sketchBlanksRow.holds Tryd.pinned (OpenSpec.ofChange sketchBlanksWrong)

/-- 'rebuslaw01.UtfExact': WHATEVER THE INPUT: true; the input reads as it did. -/
def utfExactSpec : ChangeSpec := { name := "utfExact", fn := fun _ => fun
  | [d1, d2, d3] => { results := [.lit (.bool true)], args := [d1, d2, d3] }
  | _ => none }
def utfExactRow : OpenClaim := { program := "ytlkabghpcjlohaadoor", sum := "2e51e59e634a3389c1f6630ba0e1fe6b903fafb1db06c6f54db93a89e2fa16c4", func := "rebus/rebuslaw01.UtfExact", spec := "utfExact", inPlace := ["internal/abi.NoEscape", "internal/bytealg.IndexByteString", "internal/bytealg.IndexString"], unfollowed := true, recurses := true, named := ["unicode/utf8.first", "unicode/utf8.acceptRanges", "internal/bytealg.MaxLen"], apart := false, laid := [("unicode/utf8.acceptRanges", laid_unicode_utf8_acceptRanges), ("unicode/utf8.first", laid_unicode_utf8_first)] }
def UtfExactSaid : Prop := utfExactRow.holds Tryd.pinned (OpenSpec.ofChange utfExactSpec)

/-- ITS FALSE NEIGHBOUR: 'it returns false'. Refute it at one input. -/
def utfExactWrong : ChangeSpec := { name := "utfExact", fn := fun _ => fun
  | [d1, d2, d3] => { results := [.lit (.bool false)], args := [d1, d2, d3] }
  | _ => none }
def UtfExactWrongFalsely : Prop := utfExactRow.holds Tryd.pinned (OpenSpec.ofChange utfExactWrong)

/-- 'rebuslaw02.FoldTwice': WHATEVER THE INPUT: true; the input reads as it did. -/
def foldTwiceSpec : ChangeSpec := { name := "foldTwice", fn := fun _ => fun
  | [d1, d2] => { results := [.lit (.bool true)], args := [d1, d2] }
  | _ => none }
def foldTwiceRow : OpenClaim := { program := "ytlkabghpcjlohaadoor", sum := "2e51e59e634a3389c1f6630ba0e1fe6b903fafb1db06c6f54db93a89e2fa16c4", func := "rebus/rebuslaw02.FoldTwice", spec := "foldTwice", inPlace := ["internal/abi.NoEscape"], unfollowed := true, recurses := true, named := ["unicode/utf8.first", "unicode/utf8.acceptRanges"], apart := false, laid := [("unicode/utf8.acceptRanges", laid_unicode_utf8_acceptRanges), ("unicode/utf8.first", laid_unicode_utf8_first)] }
def FoldTwiceSaid : Prop := foldTwiceRow.holds Tryd.pinned (OpenSpec.ofChange foldTwiceSpec)

/-- ITS FALSE NEIGHBOUR: 'it returns false'. Refute it at one input. -/
def foldTwiceWrong : ChangeSpec := { name := "foldTwice", fn := fun _ => fun
  | [d1, d2] => { results := [.lit (.bool false)], args := [d1, d2] }
  | _ => none }
def FoldTwiceWrongFalsely : Prop := foldTwiceRow.holds Tryd.pinned (OpenSpec.ofChange foldTwiceWrong)

/- THE SECOND FORM. 'bulk': how many values and letters a reading holds, each counted each time it is reached (what is shared counts as often as it is met; a slice's spare places count too). A statement '..UptoSaid' is the law's where the arguments, and the package variables that the reading takes, are together of bulk at most 1048576: NARROWER than '..Said'. Prove '..Said' where nothing that the law and all that it calls make is longer than what came in: it says more and counts as full. Else prove '..UptoSaid'. A law counts once. -/
mutual
def uptoBulk {H : Type} : DataW H → Nat
  | .lit (.string bytes) => bytes.length + 1
  | .lit _ => 1
  | .nil => 1
  | .ptr d => uptoBulk d + 1
  | .slice elems spare => uptoBulkAll elems + uptoBulkAll spare + 1
  | .agg parts => uptoBulkAll parts + 1
  | .iface _ d => uptoBulk d + 1
  | .map entries => uptoBulkEntries entries + 1
  | .held _ => 1
def uptoBulkAll {H : Type} : List (DataW H) → Nat
  | [] => 0
  | d :: r => uptoBulk d + uptoBulkAll r
def uptoBulkEntries {H : Type} : List (Lit × DataW H) → Nat
  | [] => 0
  | x :: r => uptoBulkEntry x + uptoBulkEntries r
def uptoBulkEntry {H : Type} : Lit × DataW H → Nat
  | (.string bytes, d) => bytes.length + uptoBulk d + 1
  | (_, d) => uptoBulk d + 1
 end
def uptoSmall : (H : Type) → List (DataW H) → Bool := fun _ ds => decide (uptoBulkAll ds ≤ 1048576)
def OpenSpec.upto (s : _root_.Go.ChangeSpec) : _root_.Go.OpenSpec := { _root_.Go.OpenSpec.ofChange s with cond := some uptoSmall }

/-- 'rebuslaw01.UtfEncodes', WHERE WHAT IT READS IS OF BULK AT MOST 1048576: true; the input reads as it did. -/
def utfEncodesUptoRow : OpenClaim := { program := "ytlkabghpcjlohaadoor", sum := "2e51e59e634a3389c1f6630ba0e1fe6b903fafb1db06c6f54db93a89e2fa16c4", func := "rebus/rebuslaw01.UtfEncodes", spec := "utfEncodes", named := ["unicode/utf8.first", "unicode/utf8.acceptRanges"], apart := false, laid := [("unicode/utf8.acceptRanges", laid_unicode_utf8_acceptRanges), ("unicode/utf8.first", laid_unicode_utf8_first)], narrowed := true }
def UtfEncodesUptoSaid : Prop := utfEncodesUptoRow.holds Tryd.pinned (OpenSpec.upto utfEncodesSpec)

/-- 'rebuslaw01.UtfRanges', WHERE WHAT IT READS IS OF BULK AT MOST 1048576: true; the input reads as it did. -/
def utfRangesUptoRow : OpenClaim := { program := "ytlkabghpcjlohaadoor", sum := "2e51e59e634a3389c1f6630ba0e1fe6b903fafb1db06c6f54db93a89e2fa16c4", func := "rebus/rebuslaw01.UtfRanges", spec := "utfRanges", unfollowed := true, recurses := true, named := ["unicode/utf8.first", "unicode/utf8.acceptRanges"], apart := false, laid := [("unicode/utf8.acceptRanges", laid_unicode_utf8_acceptRanges), ("unicode/utf8.first", laid_unicode_utf8_first)], narrowed := true }
def UtfRangesUptoSaid : Prop := utfRangesUptoRow.holds Tryd.pinned (OpenSpec.upto utfRangesSpec)

/-- 'rebuslaw01.UtfStops', WHERE WHAT IT READS IS OF BULK AT MOST 1048576: true; the input reads as it did. -/
def utfStopsUptoRow : OpenClaim := { program := "ytlkabghpcjlohaadoor", sum := "2e51e59e634a3389c1f6630ba0e1fe6b903fafb1db06c6f54db93a89e2fa16c4", func := "rebus/rebuslaw01.UtfStops", spec := "utfStops", unfollowed := true, recurses := true, named := ["unicode/utf8.first", "unicode/utf8.acceptRanges"], apart := false, laid := [("unicode/utf8.acceptRanges", laid_unicode_utf8_acceptRanges), ("unicode/utf8.first", laid_unicode_utf8_first)], narrowed := true }
def UtfStopsUptoSaid : Prop := utfStopsUptoRow.holds Tryd.pinned (OpenSpec.upto utfStopsSpec)

/-- 'rebuslaw01.UtfCuts', WHERE WHAT IT READS IS OF BULK AT MOST 1048576: true; the input reads as it did. -/
def utfCutsUptoRow : OpenClaim := { program := "ytlkabghpcjlohaadoor", sum := "2e51e59e634a3389c1f6630ba0e1fe6b903fafb1db06c6f54db93a89e2fa16c4", func := "rebus/rebuslaw01.UtfCuts", spec := "utfCuts", inPlace := ["internal/abi.NoEscape"], unfollowed := true, recurses := true, named := ["unicode/utf8.first", "unicode/utf8.acceptRanges"], apart := false, laid := [("unicode/utf8.acceptRanges", laid_unicode_utf8_acceptRanges), ("unicode/utf8.first", laid_unicode_utf8_first)], narrowed := true }
def UtfCutsUptoSaid : Prop := utfCutsUptoRow.holds Tryd.pinned (OpenSpec.upto utfCutsSpec)

/-- 'rebuslaw01.UtfFixes', WHERE WHAT IT READS IS OF BULK AT MOST 1048576: true; the input reads as it did. -/
def utfFixesUptoRow : OpenClaim := { program := "ytlkabghpcjlohaadoor", sum := "2e51e59e634a3389c1f6630ba0e1fe6b903fafb1db06c6f54db93a89e2fa16c4", func := "rebus/rebuslaw01.UtfFixes", spec := "utfFixes", inPlace := ["internal/abi.NoEscape"], unfollowed := true, recurses := true, named := ["unicode/utf8.first", "unicode/utf8.acceptRanges"], apart := false, laid := [("unicode/utf8.acceptRanges", laid_unicode_utf8_acceptRanges), ("unicode/utf8.first", laid_unicode_utf8_first)], narrowed := true }
def UtfFixesUptoSaid : Prop := utfFixesUptoRow.holds Tryd.pinned (OpenSpec.upto utfFixesSpec)

/-- 'rebuslaw01.UtfLines', WHERE WHAT IT READS IS OF BULK AT MOST 1048576: true; the input reads as it did. -/
def utfLinesUptoRow : OpenClaim := { program := "ytlkabghpcjlohaadoor", sum := "2e51e59e634a3389c1f6630ba0e1fe6b903fafb1db06c6f54db93a89e2fa16c4", func := "rebus/rebuslaw01.UtfLines", spec := "utfLines", inPlace := ["internal/bytealg.IndexByteString", "internal/bytealg.IndexString"], named := ["unicode/utf8.first", "unicode/utf8.acceptRanges", "internal/bytealg.MaxLen"], apart := false, laid := [("unicode/utf8.acceptRanges", laid_unicode_utf8_acceptRanges), ("unicode/utf8.first", laid_unicode_utf8_first)], narrowed := true }
def UtfLinesUptoSaid : Prop := utfLinesUptoRow.holds Tryd.pinned (OpenSpec.upto utfLinesSpec)

/-- 'rebuslaw08.SketchReads', WHERE WHAT IT READS IS OF BULK AT MOST 1048576: true; the input reads as it did. -/
def sketchReadsUptoRow : OpenClaim := { program := "ytlkabghpcjlohaadoor", sum := "2e51e59e634a3389c1f6630ba0e1fe6b903fafb1db06c6f54db93a89e2fa16c4", func := "rebus/rebuslaw08.SketchReads", spec := "sketchReads", inPlace := ["internal/abi.NoEscape"], named := ["unicode/utf8.first", "unicode/utf8.acceptRanges"], apart := false, laid := [("unicode/utf8.acceptRanges", laid_unicode_utf8_acceptRanges), ("unicode/utf8.first", laid_unicode_utf8_first)], narrowed := true }
def SketchReadsUptoSaid : Prop := sketchReadsUptoRow.holds Tryd.pinned (OpenSpec.upto sketchReadsSpec)

/-- 'rebuslaw08.SketchWrites', WHERE WHAT IT READS IS OF BULK AT MOST 1048576: true; the input reads as it did. -/
def sketchWritesUptoRow : OpenClaim := { program := "ytlkabghpcjlohaadoor", sum := "2e51e59e634a3389c1f6630ba0e1fe6b903fafb1db06c6f54db93a89e2fa16c4", func := "rebus/rebuslaw08.SketchWrites", spec := "sketchWrites", inPlace := ["internal/abi.NoEscape"], named := ["unicode/utf8.first", "unicode/utf8.acceptRanges"], apart := false, laid := [("unicode/utf8.acceptRanges", laid_unicode_utf8_acceptRanges), ("unicode/utf8.first", laid_unicode_utf8_first)], narrowed := true }
def SketchWritesUptoSaid : Prop := sketchWritesUptoRow.holds Tryd.pinned (OpenSpec.upto sketchWritesSpec)

/-- 'rebuslaw08.SketchCanon', WHERE WHAT IT READS IS OF BULK AT MOST 1048576: true; the input reads as it did. -/
def sketchCanonUptoRow : OpenClaim := { program := "ytlkabghpcjlohaadoor", sum := "2e51e59e634a3389c1f6630ba0e1fe6b903fafb1db06c6f54db93a89e2fa16c4", func := "rebus/rebuslaw08.SketchCanon", spec := "sketchCanon", inPlace := ["internal/abi.NoEscape"], named := ["unicode/utf8.first", "unicode/utf8.acceptRanges"], apart := false, laid := [("unicode/utf8.acceptRanges", laid_unicode_utf8_acceptRanges), ("unicode/utf8.first", laid_unicode_utf8_first)], narrowed := true }
def SketchCanonUptoSaid : Prop := sketchCanonUptoRow.holds Tryd.pinned (OpenSpec.upto sketchCanonSpec)

/-- 'rebuslaw08.SketchBlanks', WHERE WHAT IT READS IS OF BULK AT MOST 1048576: true; the input reads as it did. -/
def sketchBlanksUptoRow : OpenClaim := { program := "ytlkabghpcjlohaadoor", sum := "2e51e59e634a3389c1f6630ba0e1fe6b903fafb1db06c6f54db93a89e2fa16c4", func := "rebus/rebuslaw08.SketchBlanks", spec := "sketchBlanks", inPlace := ["internal/abi.NoEscape"], named := ["unicode/utf8.first", "unicode/utf8.acceptRanges"], apart := false, laid := [("unicode/utf8.acceptRanges", laid_unicode_utf8_acceptRanges), ("unicode/utf8.first", laid_unicode_utf8_first)], narrowed := true }
def SketchBlanksUptoSaid : Prop := sketchBlanksUptoRow.holds Tryd.pinned (OpenSpec.upto sketchBlanksSpec)

/-- 'rebuslaw01.UtfExact', WHERE WHAT IT READS IS OF BULK AT MOST 1048576: true; the input reads as it did. -/
def utfExactUptoRow : OpenClaim := { program := "ytlkabghpcjlohaadoor", sum := "2e51e59e634a3389c1f6630ba0e1fe6b903fafb1db06c6f54db93a89e2fa16c4", func := "rebus/rebuslaw01.UtfExact", spec := "utfExact", inPlace := ["internal/abi.NoEscape", "internal/bytealg.IndexByteString", "internal/bytealg.IndexString"], unfollowed := true, recurses := true, named := ["unicode/utf8.first", "unicode/utf8.acceptRanges", "internal/bytealg.MaxLen"], apart := false, laid := [("unicode/utf8.acceptRanges", laid_unicode_utf8_acceptRanges), ("unicode/utf8.first", laid_unicode_utf8_first)], narrowed := true }
def UtfExactUptoSaid : Prop := utfExactUptoRow.holds Tryd.pinned (OpenSpec.upto utfExactSpec)

/-- 'rebuslaw02.FoldTwice', WHERE WHAT IT READS IS OF BULK AT MOST 1048576: true; the input reads as it did. -/
def foldTwiceUptoRow : OpenClaim := { program := "ytlkabghpcjlohaadoor", sum := "2e51e59e634a3389c1f6630ba0e1fe6b903fafb1db06c6f54db93a89e2fa16c4", func := "rebus/rebuslaw02.FoldTwice", spec := "foldTwice", inPlace := ["internal/abi.NoEscape"], unfollowed := true, recurses := true, named := ["unicode/utf8.first", "unicode/utf8.acceptRanges"], apart := false, laid := [("unicode/utf8.acceptRanges", laid_unicode_utf8_acceptRanges), ("unicode/utf8.first", laid_unicode_utf8_first)], narrowed := true }
def FoldTwiceUptoSaid : Prop := foldTwiceUptoRow.holds Tryd.pinned (OpenSpec.upto foldTwiceSpec)

end Rows
end Go.Proofs.YtlkabghpcjlohaaDoor
