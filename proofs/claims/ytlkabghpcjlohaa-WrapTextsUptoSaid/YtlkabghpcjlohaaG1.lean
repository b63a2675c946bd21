/- Walks of the reference of layer 2: a rune's class, capital and plain form. -/
import Derived.Test.YtlkabghpcjlohaaF4
import Derived.Test.YtlkabghpcjlohaaE1
namespace Go.Proofs.Ytlkabghpcjlohaa
set_option linter.unusedVariables false
set_option linter.unusedSimpArgs false
open Go.RowKit Go.Lib

set_option maxHeartbeats 16000000 in
set_option maxRecDepth 100000 in
theorem refClass_any (r : Int) (w : World) (h0 : -2147483648 ≤ r) (h1 : r ≤ 2147483647) : Calls Try.prog 34 #[.int .i32 r] w fun e w' => e = .returned (.int .i64 (cls r)) ∧ w = w' := by
  go_enter Try.func34, Try.ntmps34
  go_wp2
  all_goals go_ret
  all_goals refine ⟨ret_i ?_, rfl⟩
  all_goals (try simp only [bne, Bool.not_eq_true', Bool.not_eq_false', beq_iff_eq, beq_eq_false_iff_ne, ne_eq, Bool.and_eq_true, Bool.or_eq_true, decide_eq_true_eq] at *)
  all_goals (unfold cls; repeat' split)
  all_goals first | rfl | omega

set_option maxHeartbeats 16000000 in
set_option maxRecDepth 100000 in
theorem refUpper_any (r : Int) (w : World) (h0 : -2147483648 ≤ r) (h1 : r ≤ 2147483647) : Calls Try.prog 36 #[.int .i32 r] w fun e w' => e = .returned (.int .i32 (upr r)) ∧ w = w' := by
  go_enter Try.func36, Try.ntmps36
  go_wp2
  all_goals go_ret
  all_goals refine ⟨ret_i ?_, rfl⟩
  all_goals (try simp only [bne, Bool.not_eq_true', Bool.not_eq_false', beq_iff_eq, beq_eq_false_iff_ne, ne_eq, Bool.and_eq_true, Bool.or_eq_true, decide_eq_true_eq] at *)
  all_goals (unfold upr; repeat' split)
  all_goals first | rfl | omega

theorem among_any (n lo hi : Int) (w : World) (h0 : -2147483648 ≤ n) (h1 : n ≤ 2147483647) (g0 : 0 ≤ lo) (g1 : lo ≤ 65536) : Calls Try.prog 76 #[.int .i64 n, .int .i64 lo, .int .i64 hi] w fun e w' => e = .returned (.bool (decide (amg n lo hi))) ∧ w = w' := by
  go_enter Try.func76, Try.ntmps76
  go_wp2
  all_goals go_ret
  all_goals refine ⟨ret_b ?_, rfl⟩
  all_goals (rw [Bool.eq_iff_iff])
  all_goals (simp only [beq_iff_eq, beq_eq_false_iff_ne, ne_eq, decide_eq_true_eq, amg, Bool.decide_and, Bool.and_eq_true, Bool.false_eq_true, false_iff, true_iff] at *)
  all_goals omega

set_option maxHeartbeats 32000000 in
set_option maxRecDepth 100000 in
theorem refPlain_any (r : Int) (w : World) (h0 : -2147483648 ≤ r) (h1 : r ≤ 2147483647) : Calls Try.prog 38 #[.int .i32 r] w fun e w' => e = .returned (.string (plainB r)) ∧ Below w.heap.size w w' := by
  have cE := refEncode_any r w h0 h1
  have HP : ∃ P, P = plainB r := ⟨_, rfl⟩
  obtain ⟨P, hP⟩ := HP
  rw [← hP]
  generalize hE : Utf8.encode r = E at cE
  have HE := Lib.hid hE; clear hE
  have HPP := Lib.hid hP; clear hP
  have HC := Lib.hid cE; clear cE
  go_enter Try.func38, Try.ntmps38
  go_wp2_with (first
    | (go_at_call 76; (refine (among_any _ _ _ _ (by omega) (by omega) (by omega) (by omega)).mono ?_); rintro e w1 ⟨rfl, rfl⟩)
    | (go_at_call 77; refine HC.out.mono ?_; rintro e w1 ⟨rfl, hb1⟩))
  all_goals go_ret
  all_goals first
    | (refine ⟨ret_s ?_, by assumption⟩)
    | (refine ⟨ret_s ?_, Below.refl _ _⟩)
  all_goals (rw [HPP.out])
  all_goals clear HPP HC
  all_goals (try simp only [bne, Bool.not_eq_true', Bool.not_eq_false', beq_iff_eq, beq_eq_false_iff_ne, ne_eq, decide_eq_true_eq, decide_eq_false_iff_not] at *)
  all_goals first
    | (have e : plainL r = [] := by
        unfold plainL
        repeat rw [if_neg (by (try simp only [amg]); omega)]
       rw [← HE.out]; simp only [plainB, e, if_true]; done)
    | (refine (plain_at r _ ?_ (by simp)).symm
       unfold plainL
       repeat rw [if_neg (by (try simp only [amg]); omega)]
       rw [if_pos (by (try simp only [amg]); omega)])
end Go.Proofs.Ytlkabghpcjlohaa
