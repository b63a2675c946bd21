/- FoldRunes: for every rune the call returns true. -/
import Derived.Test.YtlkabghpcjlohaaG1
namespace Go.Proofs.Ytlkabghpcjlohaa
set_option linter.unusedVariables false
set_option linter.unusedSimpArgs false
open Go.RowKit Go.Lib

set_option maxHeartbeats 4000000 in
set_option maxRecDepth 100000 in
theorem foldRunes_any (r : Int) (w : World) (h0 : -2147483648 ≤ r) (h1 : r ≤ 2147483647) :
    Calls Try.prog 8 #[.int .i32 r] w fun e w' => e = .returned (.bool true) ∧ Below w.heap.size w w' := by
  have HA : From w 32 #[] (.bool true) := .below fun W _ => awake2_any W
  have HU := From.upr w r h0 h1
  have HC := From.cls w r
  have HP := From.plain w r h0 h1
  have HRC : From w 34 #[.int .i32 r] (.int .i64 (cls r)) := .same fun W _ => refClass_any r W h0 h1
  have HRU : From w 36 #[.int .i32 r] (.int .i32 (upr r)) := .same fun W _ => refUpper_any r W h0 h1
  have HRP : From w 38 #[.int .i32 r] (.string (plainB r)) := .below fun W _ => refPlain_any r W h0 h1
  have hb0 := Below.refl w.heap.size w
  generalize plainB r = P at *
  generalize upr r = u at *
  generalize cls r = c at *
  have hcc : (c == c) = true := by simp
  have huu : (u == u) = true := by simp
  go_enter Try.func8, Try.ntmps8
  go_wp2_with (first
      | (go_at_call 32; (with_reducible refine (HA.at_ (by assumption)).mono ?_); rintro e wq0 ⟨rfl, hbq0⟩)
      | (go_at_call 35; (with_reducible refine (HU.at_ (by assumption)).mono ?_); rintro e wq1 ⟨rfl, hbq1⟩)
      | (go_at_call 33; (with_reducible refine (HC.at_ (by assumption)).mono ?_); rintro e wq2 ⟨rfl, hbq2⟩)
      | (go_at_call 37; (with_reducible refine (HP.at_ (by assumption)).mono ?_); rintro e wq3 ⟨rfl, hbq3⟩)
      | (go_at_call 34; (with_reducible refine (HRC.at_ (by assumption)).mono ?_); rintro e wq4 ⟨rfl, hbq4⟩)
      | (go_at_call 36; (with_reducible refine (HRU.at_ (by assumption)).mono ?_); rintro e wq5 ⟨rfl, hbq5⟩)
      | (go_at_call 38; (with_reducible refine (HRP.at_ (by assumption)).mono ?_); rintro e wq6 ⟨rfl, hbq6⟩))
  go_ret
  exact ⟨rfl, by assumption⟩
end Go.Proofs.Ytlkabghpcjlohaa
