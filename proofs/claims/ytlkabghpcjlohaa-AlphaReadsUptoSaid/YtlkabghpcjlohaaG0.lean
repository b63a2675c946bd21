/- Walks of the reference of layer 2: a rune's class, capital and plain form. -/
import Derived.Test.YtlkabghpcjlohaaF1
import Derived.Test.YtlkabghpcjlohaaE1
namespace Go.Proofs.Ytlkabghpcjlohaa
set_option linter.unusedVariables false
set_option linter.unusedSimpArgs false
open Go.RowKit Go.Lib

set_option maxHeartbeats 16000000 in
set_option maxRecDepth 100000 in
theorem refClass_any (r : Int) (w : World) (h0 : -2147483648 ≤ r) (h1 : r ≤ 2147483647) : Calls Try.prog 34 #[.int .i32 r] w fun e w' => e = .returned (.int .i64 (cls r)) ∧ w = w' := by
  go_enter Try.func34, Try.ntmps34
  go_wp2
  all_goals go_ret
  all_goals refine ⟨ret_i ?_, rfl⟩
  all_goals (try simp only [bne, Bool.not_eq_true', Bool.not_eq_false', beq_iff_eq, beq_eq_false_iff_ne, ne_eq, Bool.and_eq_true, Bool.or_eq_true, decide_eq_true_eq] at *)
  all_goals (unfold cls; repeat' split)
  all_goals first | rfl | omega

set_option maxHeartbeats 16000000 in
set_option maxRecDepth 100000 in
theorem refUpper_any (r : Int) (w : World) (h0 : -2147483648 ≤ r) (h1 : r ≤ 2147483647) : Calls Try.prog 36 #[.int .i32 r] w fun e w' => e = .returned (.int .i32 (upr r)) ∧ w = w' := by
  go_enter Try.func36, Try.ntmps36
  go_wp2
  all_goals go_ret
  all_goals refine ⟨ret_i ?_, rfl⟩
  all_goals (try simp only [bne, Bool.not_eq_true', Bool.not_eq_false', beq_iff_eq, beq_eq_false_iff_ne, ne_eq, Bool.and_eq_true, Bool.or_eq_true, decide_eq_true_eq] at *)
  all_goals (unfold upr; repeat' split)
  all_goals first | rfl | omega

end Go.Proofs.Ytlkabghpcjlohaa
