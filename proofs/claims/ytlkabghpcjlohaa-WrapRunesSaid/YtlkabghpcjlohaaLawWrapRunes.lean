/- WrapRunes: for every rune the call returns true. -/
import Derived.Test.YtlkabghpcjlohaaW6
import Derived.Test.YtlkabghpcjlohaaW7
namespace Go.Proofs.Ytlkabghpcjlohaa
set_option linter.unusedVariables false
set_option linter.unusedSimpArgs false
open Go.RowKit Go.Lib

set_option maxHeartbeats 2000000 in
set_option maxRecDepth 100000 in
theorem wrapRunes_any (r : Int) (w : World) (h0 : -2147483648 ≤ r) (h1 : r ≤ 2147483647) :
    Calls Try.prog 3 #[.int .i32 r] w fun e w' => e = .returned (.bool true) ∧ Below w.heap.size w w' := by
  have HA := Lib.hid (fun W => awake20_any W)
  have cW := fun W => Width_any r W h0 h1
  have cR := fun W => refWidth_any r W h0 h1
  generalize colW r = q at *
  have CW := Lib.hid cW; have CR := Lib.hid cR; clear cW cR
  go_enter Try.func3, Try.ntmps3
  go_wp2_with (first
    | (go_at_call 21; refine (HA.out _).mono ?_; rintro e w1 ⟨rfl, hb1⟩)
    | (go_at_call 22; refine (CW.out _).mono ?_; rintro e w2 ⟨rfl, hb2⟩)
    | (go_at_call 23; refine (CR.out _).mono ?_; rintro e w3 ⟨rfl, rfl⟩))
  go_ret
  exact ⟨rfl, hb1.trans (hb2.mono hb1.size)⟩
end Go.Proofs.Ytlkabghpcjlohaa
