/- WrapTexts: for every text that holds at most 1048576 bytes, and every number, the call returns true. -/
import Derived.Test.YtlkabghpcjlohaaW7
import Derived.Test.YtlkabghpcjlohaaW10
namespace Go.Proofs.Ytlkabghpcjlohaa
set_option linter.unusedVariables false
set_option linter.unusedSimpArgs false
open Go.RowKit Go.Lib

set_option maxHeartbeats 2000000 in
set_option maxRecDepth 100000 in
theorem wrapTexts_any (s : ByteArray) (n : Int) (w : World) (hs : s.size ≤ 1048576) (hn0 : -9223372036854775808 ≤ n) (hn1 : n ≤ 9223372036854775807) :
    Calls Try.prog 15 #[.string s, .int .i64 n] w fun e w' => e = .returned (.bool true) ∧ Below w.heap.size w w' := by
  have HA : From w 21 #[] (.bool true) := .below fun W _ => awake20_any W
  have H1 : From w 28 #[.string s] _ := .below fun W _ => Columns_any s W (by omega)
  have H2 : From w 52 #[.string s] _ := .below fun W _ => refColumns_any s W (by omega)
  have H3 : From w 29 #[.string s, .int .i64 n] _ := .below fun W _ => Fit_any s n W hn0 hn1 (by omega)
  have H4 : From w 53 #[.string s, .int .i64 n] _ := .below fun W _ => refFit_any s n W hn0 hn1 (by omega)
  have H5 : From w 54 #[.string s, .int .i64 n] _ := .below fun W _ => Pad_any s n W hn0 hn1 (by omega)
  have H6 : From w 55 #[.string s, .int .i64 n] _ := .below fun W _ => refPad_any s n W hn0 hn1 (by omega)
  generalize (⟨(padL (bl s) n).toArray⟩ : ByteArray) = a at *
  generalize (⟨(fitL (bl s) n).toArray⟩ : ByteArray) = b at *
  generalize colsL (bl s) = q at *
  have hb0 := Below.refl w.heap.size w
  go_enter Try.func15, Try.ntmps15
  go_wp2_with (first
      | (go_at_call 21; (with_reducible refine (HA.at_ (by assumption)).mono ?_); rintro e wq0 ⟨rfl, hbq0⟩)
      | (go_at_call 28; (with_reducible refine (H1.at_ (by assumption)).mono ?_); rintro e wq1 ⟨rfl, hbq1⟩)
      | (go_at_call 52; (with_reducible refine (H2.at_ (by assumption)).mono ?_); rintro e wq2 ⟨rfl, hbq2⟩)
      | (go_at_call 29; (with_reducible refine (H3.at_ (by assumption)).mono ?_); rintro e wq3 ⟨rfl, hbq3⟩)
      | (go_at_call 53; (with_reducible refine (H4.at_ (by assumption)).mono ?_); rintro e wq4 ⟨rfl, hbq4⟩)
      | (go_at_call 54; (with_reducible refine (H5.at_ (by assumption)).mono ?_); rintro e wq5 ⟨rfl, hbq5⟩)
      | (go_at_call 55; (with_reducible refine (H6.at_ (by assumption)).mono ?_); rintro e wq6 ⟨rfl, hbq6⟩))
  all_goals go_ret
  all_goals exact ⟨rfl, by assumption⟩
end Go.Proofs.Ytlkabghpcjlohaa
