/-
  DERIVED. GIVEN WITH THE SEED: THE CARDS: each row of YtonibpilbkafnaaDoorRows.lean that lists a variable, with what it lists TIED to the program's text (the seventh form; the later family's looks); each row that meets fmt, with fmt's text TOLD by the authors' own Lean function (tested against real Go, not proved from fmt's source: count such statements apart). THE CARD IS WHAT COUNTS. Prove the row's statement (the work); the ties are given (YtonibpilbkafnaaDoorTie.lean); close each card by the builder's one call (the guide's Derived/Test/ToyasCard.lean, 'card_holds'). Laid BY PROGRAM, IN A SANDBOX (cutbox-door.mjs). By AI agents, Wed Nov 11 2026. No macro, syntax, notation, axiom, sorry.
-/
import Derived.Test.YtonibpilbkafnaaDoorRows
import GoSem.ClaimSeven
namespace Go.Proofs.YtonibpilbkafnaaDoor
namespace Rows

/-- THE TIED CARD OF 'rebustop.WholeGrids'. -/
def wholeGridsCard : Claim7 := { stood := { row := wholeGridsRow, standIns := [], harness := (true, "8c991bf10667778ab1359cf7f550ff11689b6dcd6130065cf2186d0a90a90f9c"), looks := false }, kinds := [], alts := [], laidByText := true, laidKinds := [.data, .pinned], laidTests := true, laidLooks := .later }
def WholeGridsCardSaid : Prop := Claim7.holds Tryd.pinned (.plain (OpenSpec.ofChange wholeGridsSpec)) wholeGridsCard

/-- THE SECOND FORM's CARD OF 'rebustop.WholeGrids'. -/
def wholeGridsUptoCard : Claim7 := { stood := { row := wholeGridsUptoRow, standIns := [], harness := (true, "8c991bf10667778ab1359cf7f550ff11689b6dcd6130065cf2186d0a90a90f9c"), looks := false }, kinds := [], alts := [], laidByText := true, laidKinds := [.data, .pinned], laidTests := true, laidLooks := .later }
def WholeGridsUptoCardSaid : Prop := Claim7.holds Tryd.pinned (.plain (OpenSpec.upto wholeGridsSpec)) wholeGridsUptoCard
end Rows
end Go.Proofs.YtonibpilbkafnaaDoor
