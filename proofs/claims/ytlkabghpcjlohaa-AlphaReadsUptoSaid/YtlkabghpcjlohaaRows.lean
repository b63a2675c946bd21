/-
  No cell of these rows narrows 'for every input' (looked for: loops, veiled, ifaces, maps, wideKeys, modest, calm, conditions, laid).
  DERIVED. THE GIVEN ROWS OF THIS SEAT. 18 by the template 'for every input the law returns true; each argument reads behind the call as it read before'; 0 by the template 'total and deterministic' (their statements: YtlkabghpcjlohaaTotals.lean).
  GIVEN WITH THE SEED: the statements are not yours to turn. If you find one false, say at which input.
  Laid BY PROGRAM, IN A SANDBOX (cutbox-rows.mjs): the forced cells as the released guide's own fill.sh prints them over the translation a35a0bbe34c33bca… (all of the seat's roots in one cut). By AI agents, Wed Nov 11 2026. No macro, syntax, notation, axiom, sorry.
-/
import Derived.Test.YtlkabghpcjlohaaChecked
import GoSem.Claim
import GoSem.ClaimJoined
import GoSem.ClaimMapViews
import Derived.JoinedTies
import Derived.KernelRfl
namespace Go.Proofs.Ytlkabghpcjlohaa
/- THE CELL 'sum', in the pinned program and in every row, IS THE sha256 OF THE DUMP (.gsa) THAT YtlkabghpcjlohaaProg.lean LOADS. Nothing in Lean hashes anything: it is a label: what it is worth is what the hold of that sum in a sandbox is worth. -/
noncomputable def Try.pinned : Pinned := { name := "ytlkabghpcjlohaa", sum := "a35a0bbe34c33bcabc0e7a25afa1a25d5afdc65f3b00d3f52764394f58adbfdc", checked := Try.checked }
namespace Rows
def none {H : Type} : Left H := { results := [], args := [] }

/-- 'rebuslaw20.WrapRunes': WHATEVER THE INPUT: true; the input reads as it did. -/
def wrapRunesSpec : ChangeSpec := { name := "wrapRunes", fn := fun _ => fun
  | [d] => { results := [.lit (.bool true)], args := [d] }
  | _ => none }
def wrapRunesRow : OpenClaim := { program := "ytlkabghpcjlohaa", sum := "a35a0bbe34c33bcabc0e7a25afa1a25d5afdc65f3b00d3f52764394f58adbfdc", func := "rebus/rebuslaw20.WrapRunes", spec := "wrapRunes", unfollowed := true, recurses := true, apart := false }
def WrapRunesSaid : Prop := wrapRunesRow.holds Try.pinned (OpenSpec.ofChange wrapRunesSpec)

/-- ITS FALSE NEIGHBOUR: 'it returns false'. Refute it at one input. -/
def wrapRunesWrong : ChangeSpec := { name := "wrapRunes", fn := fun _ => fun
  | [d] => { results := [.lit (.bool false)], args := [d] }
  | _ => none }
def WrapRunesWrongFalsely : Prop := wrapRunesRow.holds Try.pinned (OpenSpec.ofChange wrapRunesWrong)

/-- 'rebuslaw20.WrapLines': WHATEVER THE INPUT: true; the input reads as it did. -/
def wrapLinesSpec : ChangeSpec := { name := "wrapLines", fn := fun _ => fun
  | [d1, d2] => { results := [.lit (.bool true)], args := [d1, d2] }
  | _ => none }
def wrapLinesRow : OpenClaim := { program := "ytlkabghpcjlohaa", sum := "a35a0bbe34c33bcabc0e7a25afa1a25d5afdc65f3b00d3f52764394f58adbfdc", func := "rebus/rebuslaw20.WrapLines", spec := "wrapLines", unfollowed := true, recurses := true, apart := false }
def WrapLinesSaid : Prop := wrapLinesRow.holds Try.pinned (OpenSpec.ofChange wrapLinesSpec)

/-- ITS FALSE NEIGHBOUR: 'it returns false'. Refute it at one input. -/
def wrapLinesWrong : ChangeSpec := { name := "wrapLines", fn := fun _ => fun
  | [d1, d2] => { results := [.lit (.bool false)], args := [d1, d2] }
  | _ => none }
def WrapLinesWrongFalsely : Prop := wrapLinesRow.holds Try.pinned (OpenSpec.ofChange wrapLinesWrong)

/-- 'rebuslaw20.WrapWords': WHATEVER THE INPUT: true; the input reads as it did. -/
def wrapWordsSpec : ChangeSpec := { name := "wrapWords", fn := fun _ => fun
  | [d1, d2] => { results := [.lit (.bool true)], args := [d1, d2] }
  | _ => none }
def wrapWordsRow : OpenClaim := { program := "ytlkabghpcjlohaa", sum := "a35a0bbe34c33bcabc0e7a25afa1a25d5afdc65f3b00d3f52764394f58adbfdc", func := "rebus/rebuslaw20.WrapWords", spec := "wrapWords", unfollowed := true, recurses := true, apart := false }
def WrapWordsSaid : Prop := wrapWordsRow.holds Try.pinned (OpenSpec.ofChange wrapWordsSpec)

/-- ITS FALSE NEIGHBOUR: 'it returns false'. Refute it at one input. -/
def wrapWordsWrong : ChangeSpec := { name := "wrapWords", fn := fun _ => fun
  | [d1, d2] => { results := [.lit (.bool false)], args := [d1, d2] }
  | _ => none }
def WrapWordsWrongFalsely : Prop := wrapWordsRow.holds Try.pinned (OpenSpec.ofChange wrapWordsWrong)

/-- 'rebuslaw20.WrapFewest': WHATEVER THE INPUT: true; the input reads as it did. -/
def wrapFewestSpec : ChangeSpec := { name := "wrapFewest", fn := fun _ => fun
  | [d1, d2] => { results := [.lit (.bool true)], args := [d1, d2] }
  | _ => none }
def wrapFewestRow : OpenClaim := { program := "ytlkabghpcjlohaa", sum := "a35a0bbe34c33bcabc0e7a25afa1a25d5afdc65f3b00d3f52764394f58adbfdc", func := "rebus/rebuslaw20.WrapFewest", spec := "wrapFewest", unfollowed := true, recurses := true, apart := false }
def WrapFewestSaid : Prop := wrapFewestRow.holds Try.pinned (OpenSpec.ofChange wrapFewestSpec)

/-- ITS FALSE NEIGHBOUR: 'it returns false'. Refute it at one input. -/
def wrapFewestWrong : ChangeSpec := { name := "wrapFewest", fn := fun _ => fun
  | [d1, d2] => { results := [.lit (.bool false)], args := [d1, d2] }
  | _ => none }
def WrapFewestWrongFalsely : Prop := wrapFewestRow.holds Try.pinned (OpenSpec.ofChange wrapFewestWrong)

/-- 'rebuslaw20.WrapFits': WHATEVER THE INPUT: true; the input reads as it did. -/
def wrapFitsSpec : ChangeSpec := { name := "wrapFits", fn := fun _ => fun
  | [d1, d2, d3] => { results := [.lit (.bool true)], args := [d1, d2, d3] }
  | _ => none }
def wrapFitsRow : OpenClaim := { program := "ytlkabghpcjlohaa", sum := "a35a0bbe34c33bcabc0e7a25afa1a25d5afdc65f3b00d3f52764394f58adbfdc", func := "rebus/rebuslaw20.WrapFits", spec := "wrapFits", inPlace := ["internal/abi.NoEscape"], unfollowed := true, recurses := true, apart := false }
def WrapFitsSaid : Prop := wrapFitsRow.holds Try.pinned (OpenSpec.ofChange wrapFitsSpec)

/-- ITS FALSE NEIGHBOUR: 'it returns false'. Refute it at one input. -/
def wrapFitsWrong : ChangeSpec := { name := "wrapFits", fn := fun _ => fun
  | [d1, d2, d3] => { results := [.lit (.bool false)], args := [d1, d2, d3] }
  | _ => none }
def WrapFitsWrongFalsely : Prop := wrapFitsRow.holds Try.pinned (OpenSpec.ofChange wrapFitsWrong)

/-- 'rebuslaw02.FoldRunes': WHATEVER THE INPUT: true; the input reads as it did. -/
def foldRunesSpec : ChangeSpec := { name := "foldRunes", fn := fun _ => fun
  | [d] => { results := [.lit (.bool true)], args := [d] }
  | _ => none }
def foldRunesRow : OpenClaim := { program := "ytlkabghpcjlohaa", sum := "a35a0bbe34c33bcabc0e7a25afa1a25d5afdc65f3b00d3f52764394f58adbfdc", func := "rebus/rebuslaw02.FoldRunes", spec := "foldRunes", inPlace := ["internal/abi.NoEscape"], unfollowed := true, recurses := true, apart := false }
def FoldRunesSaid : Prop := foldRunesRow.holds Try.pinned (OpenSpec.ofChange foldRunesSpec)

/-- ITS FALSE NEIGHBOUR: 'it returns false'. Refute it at one input. -/
def foldRunesWrong : ChangeSpec := { name := "foldRunes", fn := fun _ => fun
  | [d] => { results := [.lit (.bool false)], args := [d] }
  | _ => none }
def FoldRunesWrongFalsely : Prop := foldRunesRow.holds Try.pinned (OpenSpec.ofChange foldRunesWrong)

/-- 'rebuslaw02.FoldCapitals': WHATEVER THE INPUT: true; the input reads as it did. -/
def foldCapitalsSpec : ChangeSpec := { name := "foldCapitals", fn := fun _ => fun
  | [d] => { results := [.lit (.bool true)], args := [d] }
  | _ => none }
def foldCapitalsRow : OpenClaim := { program := "ytlkabghpcjlohaa", sum := "a35a0bbe34c33bcabc0e7a25afa1a25d5afdc65f3b00d3f52764394f58adbfdc", func := "rebus/rebuslaw02.FoldCapitals", spec := "foldCapitals", inPlace := ["internal/abi.NoEscape"], unfollowed := true, recurses := true, apart := false }
def FoldCapitalsSaid : Prop := foldCapitalsRow.holds Try.pinned (OpenSpec.ofChange foldCapitalsSpec)

/-- ITS FALSE NEIGHBOUR: 'it returns false'. Refute it at one input. -/
def foldCapitalsWrong : ChangeSpec := { name := "foldCapitals", fn := fun _ => fun
  | [d] => { results := [.lit (.bool false)], args := [d] }
  | _ => none }
def FoldCapitalsWrongFalsely : Prop := foldCapitalsRow.holds Try.pinned (OpenSpec.ofChange foldCapitalsWrong)

/-- 'rebuslaw02.FoldWords': WHATEVER THE INPUT: true; the input reads as it did. -/
def foldWordsSpec : ChangeSpec := { name := "foldWords", fn := fun _ => fun
  | [d1, d2] => { results := [.lit (.bool true)], args := [d1, d2] }
  | _ => none }
def foldWordsRow : OpenClaim := { program := "ytlkabghpcjlohaa", sum := "a35a0bbe34c33bcabc0e7a25afa1a25d5afdc65f3b00d3f52764394f58adbfdc", func := "rebus/rebuslaw02.FoldWords", spec := "foldWords", inPlace := ["internal/abi.NoEscape"], unfollowed := true, recurses := true, apart := false }
def FoldWordsSaid : Prop := foldWordsRow.holds Try.pinned (OpenSpec.ofChange foldWordsSpec)

/-- ITS FALSE NEIGHBOUR: 'it returns false'. Refute it at one input. -/
def foldWordsWrong : ChangeSpec := { name := "foldWords", fn := fun _ => fun
  | [d1, d2] => { results := [.lit (.bool false)], args := [d1, d2] }
  | _ => none }
def FoldWordsWrongFalsely : Prop := foldWordsRow.holds Try.pinned (OpenSpec.ofChange foldWordsWrong)

/-- 'rebuslaw02.FoldAscii': WHATEVER THE INPUT: true; the input reads as it did. -/
def foldAsciiSpec : ChangeSpec := { name := "foldAscii", fn := fun _ => fun
  | [d1, d2] => { results := [.lit (.bool true)], args := [d1, d2] }
  | _ => none }
def foldAsciiRow : OpenClaim := { program := "ytlkabghpcjlohaa", sum := "a35a0bbe34c33bcabc0e7a25afa1a25d5afdc65f3b00d3f52764394f58adbfdc", func := "rebus/rebuslaw02.FoldAscii", spec := "foldAscii", inPlace := ["internal/abi.NoEscape"], unfollowed := true, recurses := true, apart := false }
def FoldAsciiSaid : Prop := foldAsciiRow.holds Try.pinned (OpenSpec.ofChange foldAsciiSpec)

/-- ITS FALSE NEIGHBOUR: 'it returns false'. Refute it at one input. -/
def foldAsciiWrong : ChangeSpec := { name := "foldAscii", fn := fun _ => fun
  | [d1, d2] => { results := [.lit (.bool false)], args := [d1, d2] }
  | _ => none }
def FoldAsciiWrongFalsely : Prop := foldAsciiRow.holds Try.pinned (OpenSpec.ofChange foldAsciiWrong)

/-- 'rebuslaw02.FoldJoins': WHATEVER THE INPUT: true; the input reads as it did. -/
def foldJoinsSpec : ChangeSpec := { name := "foldJoins", fn := fun _ => fun
  | [d1, d2, d3] => { results := [.lit (.bool true)], args := [d1, d2, d3] }
  | _ => none }
def foldJoinsRow : OpenClaim := { program := "ytlkabghpcjlohaa", sum := "a35a0bbe34c33bcabc0e7a25afa1a25d5afdc65f3b00d3f52764394f58adbfdc", func := "rebus/rebuslaw02.FoldJoins", spec := "foldJoins", inPlace := ["internal/abi.NoEscape"], unfollowed := true, recurses := true, apart := false }
def FoldJoinsSaid : Prop := foldJoinsRow.holds Try.pinned (OpenSpec.ofChange foldJoinsSpec)

/-- ITS FALSE NEIGHBOUR: 'it returns false'. Refute it at one input. -/
def foldJoinsWrong : ChangeSpec := { name := "foldJoins", fn := fun _ => fun
  | [d1, d2, d3] => { results := [.lit (.bool false)], args := [d1, d2, d3] }
  | _ => none }
def FoldJoinsWrongFalsely : Prop := foldJoinsRow.holds Try.pinned (OpenSpec.ofChange foldJoinsWrong)

/-- 'rebuslaw02.FoldTexts': WHATEVER THE INPUT: true; the input reads as it did. -/
def foldTextsSpec : ChangeSpec := { name := "foldTexts", fn := fun _ => fun
  | [d] => { results := [.lit (.bool true)], args := [d] }
  | _ => none }
def foldTextsRow : OpenClaim := { program := "ytlkabghpcjlohaa", sum := "a35a0bbe34c33bcabc0e7a25afa1a25d5afdc65f3b00d3f52764394f58adbfdc", func := "rebus/rebuslaw02.FoldTexts", spec := "foldTexts", inPlace := ["internal/abi.NoEscape"], unfollowed := true, recurses := true, apart := false }
def FoldTextsSaid : Prop := foldTextsRow.holds Try.pinned (OpenSpec.ofChange foldTextsSpec)

/-- ITS FALSE NEIGHBOUR: 'it returns false'. Refute it at one input. -/
def foldTextsWrong : ChangeSpec := { name := "foldTexts", fn := fun _ => fun
  | [d] => { results := [.lit (.bool false)], args := [d] }
  | _ => none }
def FoldTextsWrongFalsely : Prop := foldTextsRow.holds Try.pinned (OpenSpec.ofChange foldTextsWrong)

/-- 'rebuslaw03.AlphaNews': WHATEVER THE INPUT: true; the input reads as it did. -/
def alphaNewsSpec : ChangeSpec := { name := "alphaNews", fn := fun _ => fun
  | [d] => { results := [.lit (.bool true)], args := [d] }
  | _ => none }
def alphaNewsRow : OpenClaim := { program := "ytlkabghpcjlohaa", sum := "a35a0bbe34c33bcabc0e7a25afa1a25d5afdc65f3b00d3f52764394f58adbfdc", func := "rebus/rebuslaw03.AlphaNews", spec := "alphaNews", unfollowed := true, recurses := true, apart := false }
def AlphaNewsSaid : Prop := alphaNewsRow.holds Try.pinned (OpenSpec.ofChange alphaNewsSpec)

/-- ITS FALSE NEIGHBOUR: 'it returns false'. Refute it at one input. -/
def alphaNewsWrong : ChangeSpec := { name := "alphaNews", fn := fun _ => fun
  | [d] => { results := [.lit (.bool false)], args := [d] }
  | _ => none }
def AlphaNewsWrongFalsely : Prop := alphaNewsRow.holds Try.pinned (OpenSpec.ofChange alphaNewsWrong)

/-- 'rebuslaw20.WrapTexts': WHATEVER THE INPUT: true; the input reads as it did. -/
def wrapTextsSpec : ChangeSpec := { name := "wrapTexts", fn := fun _ => fun
  | [d1, d2] => { results := [.lit (.bool true)], args := [d1, d2] }
  | _ => none }
def wrapTextsRow : OpenClaim := { program := "ytlkabghpcjlohaa", sum := "a35a0bbe34c33bcabc0e7a25afa1a25d5afdc65f3b00d3f52764394f58adbfdc", func := "rebus/rebuslaw20.WrapTexts", spec := "wrapTexts", inPlace := ["internal/abi.NoEscape", "internal/bytealg.MakeNoZero"], unfollowed := true, recurses := true, apart := false }
def WrapTextsSaid : Prop := wrapTextsRow.holds Try.pinned (OpenSpec.ofChange wrapTextsSpec)

/-- ITS FALSE NEIGHBOUR: 'it returns false'. Refute it at one input. -/
def wrapTextsWrong : ChangeSpec := { name := "wrapTexts", fn := fun _ => fun
  | [d1, d2] => { results := [.lit (.bool false)], args := [d1, d2] }
  | _ => none }
def WrapTextsWrongFalsely : Prop := wrapTextsRow.holds Try.pinned (OpenSpec.ofChange wrapTextsWrong)

/-- 'rebuslaw03.AlphaReads': WHATEVER THE INPUT: true; the input reads as it did. -/
def alphaReadsSpec : ChangeSpec := { name := "alphaReads", fn := fun _ => fun
  | [d1, d2] => { results := [.lit (.bool true)], args := [d1, d2] }
  | _ => none }
def alphaReadsRow : OpenClaim := { program := "ytlkabghpcjlohaa", sum := "a35a0bbe34c33bcabc0e7a25afa1a25d5afdc65f3b00d3f52764394f58adbfdc", func := "rebus/rebuslaw03.AlphaReads", spec := "alphaReads", unfollowed := true, recurses := true, apart := false }
def AlphaReadsSaid : Prop := alphaReadsRow.holds Try.pinned (OpenSpec.ofChange alphaReadsSpec)

/-- ITS FALSE NEIGHBOUR: 'it returns false'. Refute it at one input. -/
def alphaReadsWrong : ChangeSpec := { name := "alphaReads", fn := fun _ => fun
  | [d1, d2] => { results := [.lit (.bool false)], args := [d1, d2] }
  | _ => none }
def AlphaReadsWrongFalsely : Prop := alphaReadsRow.holds Try.pinned (OpenSpec.ofChange alphaReadsWrong)

/-- 'rebuslaw03.AlphaWrites': WHATEVER THE INPUT: true; the input reads as it did. -/
def alphaWritesSpec : ChangeSpec := { name := "alphaWrites", fn := fun _ => fun
  | [d1, d2] => { results := [.lit (.bool true)], args := [d1, d2] }
  | _ => none }
def alphaWritesRow : OpenClaim := { program := "ytlkabghpcjlohaa", sum := "a35a0bbe34c33bcabc0e7a25afa1a25d5afdc65f3b00d3f52764394f58adbfdc", func := "rebus/rebuslaw03.AlphaWrites", spec := "alphaWrites", inPlace := ["internal/abi.NoEscape"], unfollowed := true, recurses := true, apart := false }
def AlphaWritesSaid : Prop := alphaWritesRow.holds Try.pinned (OpenSpec.ofChange alphaWritesSpec)

/-- ITS FALSE NEIGHBOUR: 'it returns false'. Refute it at one input. -/
def alphaWritesWrong : ChangeSpec := { name := "alphaWrites", fn := fun _ => fun
  | [d1, d2] => { results := [.lit (.bool false)], args := [d1, d2] }
  | _ => none }
def AlphaWritesWrongFalsely : Prop := alphaWritesRow.holds Try.pinned (OpenSpec.ofChange alphaWritesWrong)

/-- 'rebuslaw03.AlphaAll': WHATEVER THE INPUT: true; the input reads as it did. -/
def alphaAllSpec : ChangeSpec := { name := "alphaAll", fn := fun _ => fun
  | [d1, d2] => { results := [.lit (.bool true)], args := [d1, d2] }
  | _ => none }
def alphaAllRow : OpenClaim := { program := "ytlkabghpcjlohaa", sum := "a35a0bbe34c33bcabc0e7a25afa1a25d5afdc65f3b00d3f52764394f58adbfdc", func := "rebus/rebuslaw03.AlphaAll", spec := "alphaAll", inPlace := ["internal/abi.NoEscape"], unfollowed := true, recurses := true, apart := false }
def AlphaAllSaid : Prop := alphaAllRow.holds Try.pinned (OpenSpec.ofChange alphaAllSpec)

/-- ITS FALSE NEIGHBOUR: 'it returns false'. Refute it at one input. -/
def alphaAllWrong : ChangeSpec := { name := "alphaAll", fn := fun _ => fun
  | [d1, d2] => { results := [.lit (.bool false)], args := [d1, d2] }
  | _ => none }
def AlphaAllWrongFalsely : Prop := alphaAllRow.holds Try.pinned (OpenSpec.ofChange alphaAllWrong)

/-- 'rebuslaw03.AlphaSingles': WHATEVER THE INPUT: true; the input reads as it did. -/
def alphaSinglesSpec : ChangeSpec := { name := "alphaSingles", fn := fun _ => fun
  | [d1, d2] => { results := [.lit (.bool true)], args := [d1, d2] }
  | _ => none }
def alphaSinglesRow : OpenClaim := { program := "ytlkabghpcjlohaa", sum := "a35a0bbe34c33bcabc0e7a25afa1a25d5afdc65f3b00d3f52764394f58adbfdc", func := "rebus/rebuslaw03.AlphaSingles", spec := "alphaSingles", inPlace := ["internal/abi.NoEscape"], unfollowed := true, recurses := true, apart := false }
def AlphaSinglesSaid : Prop := alphaSinglesRow.holds Try.pinned (OpenSpec.ofChange alphaSinglesSpec)

/-- ITS FALSE NEIGHBOUR: 'it returns false'. Refute it at one input. -/
def alphaSinglesWrong : ChangeSpec := { name := "alphaSingles", fn := fun _ => fun
  | [d1, d2] => { results := [.lit (.bool false)], args := [d1, d2] }
  | _ => none }
def AlphaSinglesWrongFalsely : Prop := alphaSinglesRow.holds Try.pinned (OpenSpec.ofChange alphaSinglesWrong)

/-- 'rebuslaw03.AlphaBack': WHATEVER THE INPUT: true; the input reads as it did. -/
def alphaBackSpec : ChangeSpec := { name := "alphaBack", fn := fun _ => fun
  | [d1, d2] => { results := [.lit (.bool true)], args := [d1, d2] }
  | _ => none }
def alphaBackRow : OpenClaim := { program := "ytlkabghpcjlohaa", sum := "a35a0bbe34c33bcabc0e7a25afa1a25d5afdc65f3b00d3f52764394f58adbfdc", func := "rebus/rebuslaw03.AlphaBack", spec := "alphaBack", inPlace := ["internal/abi.NoEscape"], unfollowed := true, recurses := true, apart := false }
def AlphaBackSaid : Prop := alphaBackRow.holds Try.pinned (OpenSpec.ofChange alphaBackSpec)

/-- ITS FALSE NEIGHBOUR: 'it returns false'. Refute it at one input. -/
def alphaBackWrong : ChangeSpec := { name := "alphaBack", fn := fun _ => fun
  | [d1, d2] => { results := [.lit (.bool false)], args := [d1, d2] }
  | _ => none }
def AlphaBackWrongFalsely : Prop := alphaBackRow.holds Try.pinned (OpenSpec.ofChange alphaBackWrong)

/- THE SECOND FORM. 'bulk': how many values and letters a reading holds, each counted each time it is reached (what is shared counts as often as it is met; a slice's spare places count too). A statement '..UptoSaid' is the law's where the arguments, and the package variables that the reading takes, are together of bulk at most 1048576: NARROWER than '..Said'. Prove '..Said' where nothing that the law and all that it calls make is longer than what came in: it says more and counts as full. Else prove '..UptoSaid'. A law counts once. -/
mutual
def uptoBulk {H : Type} : DataW H → Nat
  | .lit (.string bytes) => bytes.length + 1
  | .lit _ => 1
  | .nil => 1
  | .ptr d => uptoBulk d + 1
  | .slice elems spare => uptoBulkAll elems + uptoBulkAll spare + 1
  | .agg parts => uptoBulkAll parts + 1
  | .iface _ d => uptoBulk d + 1
  | .map entries => uptoBulkEntries entries + 1
  | .held _ => 1
def uptoBulkAll {H : Type} : List (DataW H) → Nat
  | [] => 0
  | d :: r => uptoBulk d + uptoBulkAll r
def uptoBulkEntries {H : Type} : List (Lit × DataW H) → Nat
  | [] => 0
  | x :: r => uptoBulkEntry x + uptoBulkEntries r
def uptoBulkEntry {H : Type} : Lit × DataW H → Nat
  | (.string bytes, d) => bytes.length + uptoBulk d + 1
  | (_, d) => uptoBulk d + 1
 end
def uptoSmall : (H : Type) → List (DataW H) → Bool := fun _ ds => decide (uptoBulkAll ds ≤ 1048576)
def OpenSpec.upto (s : _root_.Go.ChangeSpec) : _root_.Go.OpenSpec := { _root_.Go.OpenSpec.ofChange s with cond := some uptoSmall }

/-- 'rebuslaw20.WrapRunes', WHERE WHAT IT READS IS OF BULK AT MOST 1048576: true; the input reads as it did. -/
def wrapRunesUptoRow : OpenClaim := { program := "ytlkabghpcjlohaa", sum := "a35a0bbe34c33bcabc0e7a25afa1a25d5afdc65f3b00d3f52764394f58adbfdc", func := "rebus/rebuslaw20.WrapRunes", spec := "wrapRunes", unfollowed := true, recurses := true, apart := false, narrowed := true }
def WrapRunesUptoSaid : Prop := wrapRunesUptoRow.holds Try.pinned (OpenSpec.upto wrapRunesSpec)

/-- 'rebuslaw20.WrapLines', WHERE WHAT IT READS IS OF BULK AT MOST 1048576: true; the input reads as it did. -/
def wrapLinesUptoRow : OpenClaim := { program := "ytlkabghpcjlohaa", sum := "a35a0bbe34c33bcabc0e7a25afa1a25d5afdc65f3b00d3f52764394f58adbfdc", func := "rebus/rebuslaw20.WrapLines", spec := "wrapLines", unfollowed := true, recurses := true, apart := false, narrowed := true }
def WrapLinesUptoSaid : Prop := wrapLinesUptoRow.holds Try.pinned (OpenSpec.upto wrapLinesSpec)

/-- 'rebuslaw20.WrapWords', WHERE WHAT IT READS IS OF BULK AT MOST 1048576: true; the input reads as it did. -/
def wrapWordsUptoRow : OpenClaim := { program := "ytlkabghpcjlohaa", sum := "a35a0bbe34c33bcabc0e7a25afa1a25d5afdc65f3b00d3f52764394f58adbfdc", func := "rebus/rebuslaw20.WrapWords", spec := "wrapWords", unfollowed := true, recurses := true, apart := false, narrowed := true }
def WrapWordsUptoSaid : Prop := wrapWordsUptoRow.holds Try.pinned (OpenSpec.upto wrapWordsSpec)

/-- 'rebuslaw20.WrapFewest', WHERE WHAT IT READS IS OF BULK AT MOST 1048576: true; the input reads as it did. -/
def wrapFewestUptoRow : OpenClaim := { program := "ytlkabghpcjlohaa", sum := "a35a0bbe34c33bcabc0e7a25afa1a25d5afdc65f3b00d3f52764394f58adbfdc", func := "rebus/rebuslaw20.WrapFewest", spec := "wrapFewest", unfollowed := true, recurses := true, apart := false, narrowed := true }
def WrapFewestUptoSaid : Prop := wrapFewestUptoRow.holds Try.pinned (OpenSpec.upto wrapFewestSpec)

/-- 'rebuslaw20.WrapFits', WHERE WHAT IT READS IS OF BULK AT MOST 1048576: true; the input reads as it did. -/
def wrapFitsUptoRow : OpenClaim := { program := "ytlkabghpcjlohaa", sum := "a35a0bbe34c33bcabc0e7a25afa1a25d5afdc65f3b00d3f52764394f58adbfdc", func := "rebus/rebuslaw20.WrapFits", spec := "wrapFits", inPlace := ["internal/abi.NoEscape"], unfollowed := true, recurses := true, apart := false, narrowed := true }
def WrapFitsUptoSaid : Prop := wrapFitsUptoRow.holds Try.pinned (OpenSpec.upto wrapFitsSpec)

/-- 'rebuslaw02.FoldRunes', WHERE WHAT IT READS IS OF BULK AT MOST 1048576: true; the input reads as it did. -/
def foldRunesUptoRow : OpenClaim := { program := "ytlkabghpcjlohaa", sum := "a35a0bbe34c33bcabc0e7a25afa1a25d5afdc65f3b00d3f52764394f58adbfdc", func := "rebus/rebuslaw02.FoldRunes", spec := "foldRunes", inPlace := ["internal/abi.NoEscape"], unfollowed := true, recurses := true, apart := false, narrowed := true }
def FoldRunesUptoSaid : Prop := foldRunesUptoRow.holds Try.pinned (OpenSpec.upto foldRunesSpec)

/-- 'rebuslaw02.FoldCapitals', WHERE WHAT IT READS IS OF BULK AT MOST 1048576: true; the input reads as it did. -/
def foldCapitalsUptoRow : OpenClaim := { program := "ytlkabghpcjlohaa", sum := "a35a0bbe34c33bcabc0e7a25afa1a25d5afdc65f3b00d3f52764394f58adbfdc", func := "rebus/rebuslaw02.FoldCapitals", spec := "foldCapitals", inPlace := ["internal/abi.NoEscape"], unfollowed := true, recurses := true, apart := false, narrowed := true }
def FoldCapitalsUptoSaid : Prop := foldCapitalsUptoRow.holds Try.pinned (OpenSpec.upto foldCapitalsSpec)

/-- 'rebuslaw02.FoldWords', WHERE WHAT IT READS IS OF BULK AT MOST 1048576: true; the input reads as it did. -/
def foldWordsUptoRow : OpenClaim := { program := "ytlkabghpcjlohaa", sum := "a35a0bbe34c33bcabc0e7a25afa1a25d5afdc65f3b00d3f52764394f58adbfdc", func := "rebus/rebuslaw02.FoldWords", spec := "foldWords", inPlace := ["internal/abi.NoEscape"], unfollowed := true, recurses := true, apart := false, narrowed := true }
def FoldWordsUptoSaid : Prop := foldWordsUptoRow.holds Try.pinned (OpenSpec.upto foldWordsSpec)

/-- 'rebuslaw02.FoldAscii', WHERE WHAT IT READS IS OF BULK AT MOST 1048576: true; the input reads as it did. -/
def foldAsciiUptoRow : OpenClaim := { program := "ytlkabghpcjlohaa", sum := "a35a0bbe34c33bcabc0e7a25afa1a25d5afdc65f3b00d3f52764394f58adbfdc", func := "rebus/rebuslaw02.FoldAscii", spec := "foldAscii", inPlace := ["internal/abi.NoEscape"], unfollowed := true, recurses := true, apart := false, narrowed := true }
def FoldAsciiUptoSaid : Prop := foldAsciiUptoRow.holds Try.pinned (OpenSpec.upto foldAsciiSpec)

/-- 'rebuslaw02.FoldJoins', WHERE WHAT IT READS IS OF BULK AT MOST 1048576: true; the input reads as it did. -/
def foldJoinsUptoRow : OpenClaim := { program := "ytlkabghpcjlohaa", sum := "a35a0bbe34c33bcabc0e7a25afa1a25d5afdc65f3b00d3f52764394f58adbfdc", func := "rebus/rebuslaw02.FoldJoins", spec := "foldJoins", inPlace := ["internal/abi.NoEscape"], unfollowed := true, recurses := true, apart := false, narrowed := true }
def FoldJoinsUptoSaid : Prop := foldJoinsUptoRow.holds Try.pinned (OpenSpec.upto foldJoinsSpec)

/-- 'rebuslaw02.FoldTexts', WHERE WHAT IT READS IS OF BULK AT MOST 1048576: true; the input reads as it did. -/
def foldTextsUptoRow : OpenClaim := { program := "ytlkabghpcjlohaa", sum := "a35a0bbe34c33bcabc0e7a25afa1a25d5afdc65f3b00d3f52764394f58adbfdc", func := "rebus/rebuslaw02.FoldTexts", spec := "foldTexts", inPlace := ["internal/abi.NoEscape"], unfollowed := true, recurses := true, apart := false, narrowed := true }
def FoldTextsUptoSaid : Prop := foldTextsUptoRow.holds Try.pinned (OpenSpec.upto foldTextsSpec)

/-- 'rebuslaw03.AlphaNews', WHERE WHAT IT READS IS OF BULK AT MOST 1048576: true; the input reads as it did. -/
def alphaNewsUptoRow : OpenClaim := { program := "ytlkabghpcjlohaa", sum := "a35a0bbe34c33bcabc0e7a25afa1a25d5afdc65f3b00d3f52764394f58adbfdc", func := "rebus/rebuslaw03.AlphaNews", spec := "alphaNews", unfollowed := true, recurses := true, apart := false, narrowed := true }
def AlphaNewsUptoSaid : Prop := alphaNewsUptoRow.holds Try.pinned (OpenSpec.upto alphaNewsSpec)

/-- 'rebuslaw20.WrapTexts', WHERE WHAT IT READS IS OF BULK AT MOST 1048576: true; the input reads as it did. -/
def wrapTextsUptoRow : OpenClaim := { program := "ytlkabghpcjlohaa", sum := "a35a0bbe34c33bcabc0e7a25afa1a25d5afdc65f3b00d3f52764394f58adbfdc", func := "rebus/rebuslaw20.WrapTexts", spec := "wrapTexts", inPlace := ["internal/abi.NoEscape", "internal/bytealg.MakeNoZero"], unfollowed := true, recurses := true, apart := false, narrowed := true }
def WrapTextsUptoSaid : Prop := wrapTextsUptoRow.holds Try.pinned (OpenSpec.upto wrapTextsSpec)

/-- 'rebuslaw03.AlphaReads', WHERE WHAT IT READS IS OF BULK AT MOST 1048576: true; the input reads as it did. -/
def alphaReadsUptoRow : OpenClaim := { program := "ytlkabghpcjlohaa", sum := "a35a0bbe34c33bcabc0e7a25afa1a25d5afdc65f3b00d3f52764394f58adbfdc", func := "rebus/rebuslaw03.AlphaReads", spec := "alphaReads", unfollowed := true, recurses := true, apart := false, narrowed := true }
def AlphaReadsUptoSaid : Prop := alphaReadsUptoRow.holds Try.pinned (OpenSpec.upto alphaReadsSpec)

/-- 'rebuslaw03.AlphaWrites', WHERE WHAT IT READS IS OF BULK AT MOST 1048576: true; the input reads as it did. -/
def alphaWritesUptoRow : OpenClaim := { program := "ytlkabghpcjlohaa", sum := "a35a0bbe34c33bcabc0e7a25afa1a25d5afdc65f3b00d3f52764394f58adbfdc", func := "rebus/rebuslaw03.AlphaWrites", spec := "alphaWrites", inPlace := ["internal/abi.NoEscape"], unfollowed := true, recurses := true, apart := false, narrowed := true }
def AlphaWritesUptoSaid : Prop := alphaWritesUptoRow.holds Try.pinned (OpenSpec.upto alphaWritesSpec)

/-- 'rebuslaw03.AlphaAll', WHERE WHAT IT READS IS OF BULK AT MOST 1048576: true; the input reads as it did. -/
def alphaAllUptoRow : OpenClaim := { program := "ytlkabghpcjlohaa", sum := "a35a0bbe34c33bcabc0e7a25afa1a25d5afdc65f3b00d3f52764394f58adbfdc", func := "rebus/rebuslaw03.AlphaAll", spec := "alphaAll", inPlace := ["internal/abi.NoEscape"], unfollowed := true, recurses := true, apart := false, narrowed := true }
def AlphaAllUptoSaid : Prop := alphaAllUptoRow.holds Try.pinned (OpenSpec.upto alphaAllSpec)

/-- 'rebuslaw03.AlphaSingles', WHERE WHAT IT READS IS OF BULK AT MOST 1048576: true; the input reads as it did. -/
def alphaSinglesUptoRow : OpenClaim := { program := "ytlkabghpcjlohaa", sum := "a35a0bbe34c33bcabc0e7a25afa1a25d5afdc65f3b00d3f52764394f58adbfdc", func := "rebus/rebuslaw03.AlphaSingles", spec := "alphaSingles", inPlace := ["internal/abi.NoEscape"], unfollowed := true, recurses := true, apart := false, narrowed := true }
def AlphaSinglesUptoSaid : Prop := alphaSinglesUptoRow.holds Try.pinned (OpenSpec.upto alphaSinglesSpec)

/-- 'rebuslaw03.AlphaBack', WHERE WHAT IT READS IS OF BULK AT MOST 1048576: true; the input reads as it did. -/
def alphaBackUptoRow : OpenClaim := { program := "ytlkabghpcjlohaa", sum := "a35a0bbe34c33bcabc0e7a25afa1a25d5afdc65f3b00d3f52764394f58adbfdc", func := "rebus/rebuslaw03.AlphaBack", spec := "alphaBack", inPlace := ["internal/abi.NoEscape"], unfollowed := true, recurses := true, apart := false, narrowed := true }
def AlphaBackUptoSaid : Prop := alphaBackUptoRow.holds Try.pinned (OpenSpec.upto alphaBackSpec)

end Rows
end Go.Proofs.Ytlkabghpcjlohaa
