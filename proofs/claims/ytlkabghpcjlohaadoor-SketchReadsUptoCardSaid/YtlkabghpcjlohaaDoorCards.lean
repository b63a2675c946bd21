/-
  DERIVED. GIVEN WITH THE SEED: THE CARDS: each row of YtlkabghpcjlohaaDoorRows.lean that lists a variable, with what it lists TIED to the program's text (the seventh form; the later family's looks); each row that meets fmt, with fmt's text TOLD by the authors' own Lean function (tested against real Go, not proved from fmt's source: count such statements apart). THE CARD IS WHAT COUNTS. Prove the row's statement (the work); the ties are given (YtlkabghpcjlohaaDoorTie.lean); close each card by the builder's one call (the guide's Derived/Test/ToyasCard.lean, 'card_holds'). Laid BY PROGRAM, IN A SANDBOX (cutbox-door.mjs). By AI agents, Wed Nov 11 2026. No macro, syntax, notation, axiom, sorry.
-/
import Derived.Test.YtlkabghpcjlohaaDoorRows
import GoSem.ClaimSeven
namespace Go.Proofs.YtlkabghpcjlohaaDoor
namespace Rows

/-- THE TIED CARD OF 'rebuslaw01.UtfEncodes'. -/
def utfEncodesCard : Claim7 := { stood := { row := utfEncodesRow, standIns := [], harness := (true, "78c9365295477fef27216118d569a83cb31c2b2d0701928184a821334bada0e4"), looks := false }, kinds := [], alts := [], laidByText := true, laidKinds := [.data, .pinned], laidTests := true, laidLooks := .later }
def UtfEncodesCardSaid : Prop := Claim7.holds Tryd.pinned (.plain (OpenSpec.ofChange utfEncodesSpec)) utfEncodesCard

/-- THE TIED CARD OF 'rebuslaw01.UtfRanges'. -/
def utfRangesCard : Claim7 := { stood := { row := utfRangesRow, standIns := [], harness := (true, "78c9365295477fef27216118d569a83cb31c2b2d0701928184a821334bada0e4"), looks := false }, kinds := [], alts := [], laidByText := true, laidKinds := [.data, .pinned], laidTests := true, laidLooks := .later }
def UtfRangesCardSaid : Prop := Claim7.holds Tryd.pinned (.plain (OpenSpec.ofChange utfRangesSpec)) utfRangesCard

/-- THE TIED CARD OF 'rebuslaw01.UtfStops'. -/
def utfStopsCard : Claim7 := { stood := { row := utfStopsRow, standIns := [], harness := (true, "78c9365295477fef27216118d569a83cb31c2b2d0701928184a821334bada0e4"), looks := false }, kinds := [], alts := [], laidByText := true, laidKinds := [.data, .pinned], laidTests := true, laidLooks := .later }
def UtfStopsCardSaid : Prop := Claim7.holds Tryd.pinned (.plain (OpenSpec.ofChange utfStopsSpec)) utfStopsCard

/-- THE TIED CARD OF 'rebuslaw01.UtfCuts'. -/
def utfCutsCard : Claim7 := { stood := { row := utfCutsRow, standIns := [], harness := (true, "78c9365295477fef27216118d569a83cb31c2b2d0701928184a821334bada0e4"), looks := false }, kinds := [], alts := [], laidByText := true, laidKinds := [.data, .pinned], laidTests := true, laidLooks := .later }
def UtfCutsCardSaid : Prop := Claim7.holds Tryd.pinned (.plain (OpenSpec.ofChange utfCutsSpec)) utfCutsCard

/-- THE TIED CARD OF 'rebuslaw01.UtfFixes'. -/
def utfFixesCard : Claim7 := { stood := { row := utfFixesRow, standIns := [], harness := (true, "78c9365295477fef27216118d569a83cb31c2b2d0701928184a821334bada0e4"), looks := false }, kinds := [], alts := [], laidByText := true, laidKinds := [.data, .pinned], laidTests := true, laidLooks := .later }
def UtfFixesCardSaid : Prop := Claim7.holds Tryd.pinned (.plain (OpenSpec.ofChange utfFixesSpec)) utfFixesCard

/-- THE TIED CARD OF 'rebuslaw01.UtfLines'. -/
def utfLinesCard : Claim7 := { stood := { row := utfLinesRow, standIns := [], harness := (true, "78c9365295477fef27216118d569a83cb31c2b2d0701928184a821334bada0e4"), looks := false }, kinds := [], alts := [], laidByText := true, laidKinds := [.data, .pinned], laidTests := true, laidLooks := .later }
def UtfLinesCardSaid : Prop := Claim7.holds Tryd.pinned (.plain (OpenSpec.ofChange utfLinesSpec)) utfLinesCard

/-- THE TIED CARD OF 'rebuslaw08.SketchReads'. -/
def sketchReadsCard : Claim7 := { stood := { row := sketchReadsRow, standIns := [], harness := (true, "78c9365295477fef27216118d569a83cb31c2b2d0701928184a821334bada0e4"), looks := false }, kinds := [], alts := [], laidByText := true, laidKinds := [.data, .pinned], laidTests := true, laidLooks := .later }
def SketchReadsCardSaid : Prop := Claim7.holds Tryd.pinned (.plain (OpenSpec.ofChange sketchReadsSpec)) sketchReadsCard

/-- THE TIED CARD OF 'rebuslaw08.SketchWrites'. -/
def sketchWritesCard : Claim7 := { stood := { row := sketchWritesRow, standIns := [], harness := (true, "78c9365295477fef27216118d569a83cb31c2b2d0701928184a821334bada0e4"), looks := false }, kinds := [], alts := [], laidByText := true, laidKinds := [.data, .pinned], laidTests := true, laidLooks := .later }
def SketchWritesCardSaid : Prop := Claim7.holds Tryd.pinned (.plain (OpenSpec.ofChange sketchWritesSpec)) sketchWritesCard

/-- THE TIED CARD OF 'rebuslaw08.SketchCanon'. -/
def sketchCanonCard : Claim7 := { stood := { row := sketchCanonRow, standIns := [], harness := (true, "78c9365295477fef27216118d569a83cb31c2b2d0701928184a821334bada0e4"), looks := false }, kinds := [], alts := [], laidByText := true, laidKinds := [.data, .pinned], laidTests := true, laidLooks := .later }
def SketchCanonCardSaid : Prop := Claim7.holds Tryd.pinned (.plain (OpenSpec.ofChange sketchCanonSpec)) sketchCanonCard

/-- THE TIED CARD OF 'rebuslaw08.SketchBlanks'. -/
def sketchBlanksCard : Claim7 := { stood := { row := sketchBlanksRow, standIns := [], harness := (true, "78c9365295477fef27216118d569a83cb31c2b2d0701928184a821334bada0e4"), looks := false }, kinds := [], alts := [], laidByText := true, laidKinds := [.data, .pinned], laidTests := true, laidLooks := .later }
def SketchBlanksCardSaid : Prop := Claim7.holds Tryd.pinned (.plain (OpenSpec.ofChange sketchBlanksSpec)) sketchBlanksCard

/-- THE TIED CARD OF 'rebuslaw01.UtfExact'. -/
def utfExactCard : Claim7 := { stood := { row := utfExactRow, standIns := [], harness := (true, "78c9365295477fef27216118d569a83cb31c2b2d0701928184a821334bada0e4"), looks := false }, kinds := [], alts := [], laidByText := true, laidKinds := [.data, .pinned], laidTests := true, laidLooks := .later }
def UtfExactCardSaid : Prop := Claim7.holds Tryd.pinned (.plain (OpenSpec.ofChange utfExactSpec)) utfExactCard

/-- THE TIED CARD OF 'rebuslaw02.FoldTwice'. -/
def foldTwiceCard : Claim7 := { stood := { row := foldTwiceRow, standIns := [], harness := (true, "78c9365295477fef27216118d569a83cb31c2b2d0701928184a821334bada0e4"), looks := false }, kinds := [], alts := [], laidByText := true, laidKinds := [.data, .pinned], laidTests := true, laidLooks := .later }
def FoldTwiceCardSaid : Prop := Claim7.holds Tryd.pinned (.plain (OpenSpec.ofChange foldTwiceSpec)) foldTwiceCard

/-- THE SECOND FORM's CARD OF 'rebuslaw01.UtfEncodes'. -/
def utfEncodesUptoCard : Claim7 := { stood := { row := utfEncodesUptoRow, standIns := [], harness := (true, "78c9365295477fef27216118d569a83cb31c2b2d0701928184a821334bada0e4"), looks := false }, kinds := [], alts := [], laidByText := true, laidKinds := [.data, .pinned], laidTests := true, laidLooks := .later }
def UtfEncodesUptoCardSaid : Prop := Claim7.holds Tryd.pinned (.plain (OpenSpec.upto utfEncodesSpec)) utfEncodesUptoCard

/-- THE SECOND FORM's CARD OF 'rebuslaw01.UtfRanges'. -/
def utfRangesUptoCard : Claim7 := { stood := { row := utfRangesUptoRow, standIns := [], harness := (true, "78c9365295477fef27216118d569a83cb31c2b2d0701928184a821334bada0e4"), looks := false }, kinds := [], alts := [], laidByText := true, laidKinds := [.data, .pinned], laidTests := true, laidLooks := .later }
def UtfRangesUptoCardSaid : Prop := Claim7.holds Tryd.pinned (.plain (OpenSpec.upto utfRangesSpec)) utfRangesUptoCard

/-- THE SECOND FORM's CARD OF 'rebuslaw01.UtfStops'. -/
def utfStopsUptoCard : Claim7 := { stood := { row := utfStopsUptoRow, standIns := [], harness := (true, "78c9365295477fef27216118d569a83cb31c2b2d0701928184a821334bada0e4"), looks := false }, kinds := [], alts := [], laidByText := true, laidKinds := [.data, .pinned], laidTests := true, laidLooks := .later }
def UtfStopsUptoCardSaid : Prop := Claim7.holds Tryd.pinned (.plain (OpenSpec.upto utfStopsSpec)) utfStopsUptoCard

/-- THE SECOND FORM's CARD OF 'rebuslaw01.UtfCuts'. -/
def utfCutsUptoCard : Claim7 := { stood := { row := utfCutsUptoRow, standIns := [], harness := (true, "78c9365295477fef27216118d569a83cb31c2b2d0701928184a821334bada0e4"), looks := false }, kinds := [], alts := [], laidByText := true, laidKinds := [.data, .pinned], laidTests := true, laidLooks := .later }
def UtfCutsUptoCardSaid : Prop := Claim7.holds Tryd.pinned (.plain (OpenSpec.upto utfCutsSpec)) utfCutsUptoCard

/-- THE SECOND FORM's CARD OF 'rebuslaw01.UtfFixes'. -/
def utfFixesUptoCard : Claim7 := { stood := { row := utfFixesUptoRow, standIns := [], harness := (true, "78c9365295477fef27216118d569a83cb31c2b2d0701928184a821334bada0e4"), looks := false }, kinds := [], alts := [], laidByText := true, laidKinds := [.data, .pinned], laidTests := true, laidLooks := .later }
def UtfFixesUptoCardSaid : Prop := Claim7.holds Tryd.pinned (.plain (OpenSpec.upto utfFixesSpec)) utfFixesUptoCard

/-- THE SECOND FORM's CARD OF 'rebuslaw01.UtfLines'. -/
def utfLinesUptoCard : Claim7 := { stood := { row := utfLinesUptoRow, standIns := [], harness := (true, "78c9365295477fef27216118d569a83cb31c2b2d0701928184a821334bada0e4"), looks := false }, kinds := [], alts := [], laidByText := true, laidKinds := [.data, .pinned], laidTests := true, laidLooks := .later }
def UtfLinesUptoCardSaid : Prop := Claim7.holds Tryd.pinned (.plain (OpenSpec.upto utfLinesSpec)) utfLinesUptoCard

/-- THE SECOND FORM's CARD OF 'rebuslaw08.SketchReads'. -/
def sketchReadsUptoCard : Claim7 := { stood := { row := sketchReadsUptoRow, standIns := [], harness := (true, "78c9365295477fef27216118d569a83cb31c2b2d0701928184a821334bada0e4"), looks := false }, kinds := [], alts := [], laidByText := true, laidKinds := [.data, .pinned], laidTests := true, laidLooks := .later }
def SketchReadsUptoCardSaid : Prop := Claim7.holds Tryd.pinned (.plain (OpenSpec.upto sketchReadsSpec)) sketchReadsUptoCard

/-- THE SECOND FORM's CARD OF 'rebuslaw08.SketchWrites'. -/
def sketchWritesUptoCard : Claim7 := { stood := { row := sketchWritesUptoRow, standIns := [], harness := (true, "78c9365295477fef27216118d569a83cb31c2b2d0701928184a821334bada0e4"), looks := false }, kinds := [], alts := [], laidByText := true, laidKinds := [.data, .pinned], laidTests := true, laidLooks := .later }
def SketchWritesUptoCardSaid : Prop := Claim7.holds Tryd.pinned (.plain (OpenSpec.upto sketchWritesSpec)) sketchWritesUptoCard

/-- THE SECOND FORM's CARD OF 'rebuslaw08.SketchCanon'. -/
def sketchCanonUptoCard : Claim7 := { stood := { row := sketchCanonUptoRow, standIns := [], harness := (true, "78c9365295477fef27216118d569a83cb31c2b2d0701928184a821334bada0e4"), looks := false }, kinds := [], alts := [], laidByText := true, laidKinds := [.data, .pinned], laidTests := true, laidLooks := .later }
def SketchCanonUptoCardSaid : Prop := Claim7.holds Tryd.pinned (.plain (OpenSpec.upto sketchCanonSpec)) sketchCanonUptoCard

/-- THE SECOND FORM's CARD OF 'rebuslaw08.SketchBlanks'. -/
def sketchBlanksUptoCard : Claim7 := { stood := { row := sketchBlanksUptoRow, standIns := [], harness := (true, "78c9365295477fef27216118d569a83cb31c2b2d0701928184a821334bada0e4"), looks := false }, kinds := [], alts := [], laidByText := true, laidKinds := [.data, .pinned], laidTests := true, laidLooks := .later }
def SketchBlanksUptoCardSaid : Prop := Claim7.holds Tryd.pinned (.plain (OpenSpec.upto sketchBlanksSpec)) sketchBlanksUptoCard

/-- THE SECOND FORM's CARD OF 'rebuslaw01.UtfExact'. -/
def utfExactUptoCard : Claim7 := { stood := { row := utfExactUptoRow, standIns := [], harness := (true, "78c9365295477fef27216118d569a83cb31c2b2d0701928184a821334bada0e4"), looks := false }, kinds := [], alts := [], laidByText := true, laidKinds := [.data, .pinned], laidTests := true, laidLooks := .later }
def UtfExactUptoCardSaid : Prop := Claim7.holds Tryd.pinned (.plain (OpenSpec.upto utfExactSpec)) utfExactUptoCard

/-- THE SECOND FORM's CARD OF 'rebuslaw02.FoldTwice'. -/
def foldTwiceUptoCard : Claim7 := { stood := { row := foldTwiceUptoRow, standIns := [], harness := (true, "78c9365295477fef27216118d569a83cb31c2b2d0701928184a821334bada0e4"), looks := false }, kinds := [], alts := [], laidByText := true, laidKinds := [.data, .pinned], laidTests := true, laidLooks := .later }
def FoldTwiceUptoCardSaid : Prop := Claim7.holds Tryd.pinned (.plain (OpenSpec.upto foldTwiceSpec)) foldTwiceUptoCard
end Rows
end Go.Proofs.YtlkabghpcjlohaaDoor
