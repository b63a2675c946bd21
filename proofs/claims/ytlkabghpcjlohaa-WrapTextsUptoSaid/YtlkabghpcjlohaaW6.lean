/- The reference's Width; the statements' own 'awake' of layer 20. -/
import Derived.Test.YtlkabghpcjlohaaW5
namespace Go.Proofs.Ytlkabghpcjlohaa
set_option linter.unusedVariables false
set_option linter.unusedSimpArgs false
open Go.RowKit Go.Lib

set_option maxHeartbeats 16000000 in
set_option maxRecDepth 100000 in
theorem refWidth_any (r : Int) (w : World) (h0 : -2147483648 ≤ r) (h1 : r ≤ 2147483647) : Calls Try.prog 23 #[.int .i32 r] w fun e w' => e = .returned (.int .i64 (colW r : Nat)) ∧ w = w' := by
  go_enter Try.func23, Try.ntmps23
  go_wp2
  all_goals go_ret
  all_goals refine ⟨ret_i ?_, rfl⟩
  all_goals (try simp only [bne, Bool.not_eq_true', Bool.not_eq_false', beq_iff_eq, beq_eq_false_iff_ne, ne_eq, Bool.and_eq_true, Bool.or_eq_true, decide_eq_true_eq] at *)
  all_goals (unfold colW; repeat' split)
  all_goals first | rfl | omega
end Go.Proofs.Ytlkabghpcjlohaa
