/- Walks of package wrap: Width. -/
import Derived.Test.YtlkabghpcjlohaaW2
import Derived.Test.YtlkabghpcjlohaaA2
namespace Go.Proofs.Ytlkabghpcjlohaa
set_option linter.unusedVariables false
set_option linter.unusedSimpArgs false
open Go.RowKit Go.Lib

/-- the rows of the table -/
def wtab : List (Int × Int × Nat) := [(0, 31, 0), (127, 159, 0), (768, 879, 0), (4352, 4447, 2), (11904, 42191, 2), (44032, 55203, 2), (63744, 64255, 2), (65280, 65376, 2), (127744, 129791, 2)]
def widthFrom (r : Int) : List (Int × Int × Nat) → Nat
  | [] => 1
  | x :: t => if x.1 ≤ r ∧ r ≤ x.2.1 then x.2.2 else widthFrom r t
theorem width_tab (r : Int) : widthFrom r wtab = colW r := by
  unfold wtab colW
  simp only [widthFrom]
  repeat' split
  all_goals omega

abbrev wagg : Value := .agg #[.int .i32 0, .int .i32 31, .int .i32 0, .int .i32 127, .int .i32 159, .int .i32 0, .int .i32 768, .int .i32 879, .int .i32 0, .int .i32 4352, .int .i32 4447, .int .i32 2, .int .i32 11904, .int .i32 42191, .int .i32 2, .int .i32 44032, .int .i32 55203, .int .i32 2, .int .i32 63744, .int .i32 64255, .int .i32 2, .int .i32 65280, .int .i32 65376, .int .i32 2, .int .i32 127744, .int .i32 129791, .int .i32 2]
theorem wagg0 (W : World) : (Instr.index 77 (.agg #[.int .i32 0, .int .i32 31, .int .i32 0, .int .i32 127, .int .i32 159, .int .i32 0, .int .i32 768, .int .i32 879, .int .i32 0, .int .i32 4352, .int .i32 4447, .int .i32 2, .int .i32 11904, .int .i32 42191, .int .i32 2, .int .i32 44032, .int .i32 55203, .int .i32 2, .int .i32 63744, .int .i32 64255, .int .i32 2, .int .i32 65280, .int .i32 65376, .int .i32 2, .int .i32 127744, .int .i32 129791, .int .i32 2]) (.int .i64 0)).run Try.prog W = .ok (.agg #[.int .i32 0, .int .i32 31, .int .i32 0]) W := by kernel_rfl
theorem wagg1 (W : World) : (Instr.index 77 (.agg #[.int .i32 0, .int .i32 31, .int .i32 0, .int .i32 127, .int .i32 159, .int .i32 0, .int .i32 768, .int .i32 879, .int .i32 0, .int .i32 4352, .int .i32 4447, .int .i32 2, .int .i32 11904, .int .i32 42191, .int .i32 2, .int .i32 44032, .int .i32 55203, .int .i32 2, .int .i32 63744, .int .i32 64255, .int .i32 2, .int .i32 65280, .int .i32 65376, .int .i32 2, .int .i32 127744, .int .i32 129791, .int .i32 2]) (.int .i64 1)).run Try.prog W = .ok (.agg #[.int .i32 127, .int .i32 159, .int .i32 0]) W := by kernel_rfl
theorem wagg2 (W : World) : (Instr.index 77 (.agg #[.int .i32 0, .int .i32 31, .int .i32 0, .int .i32 127, .int .i32 159, .int .i32 0, .int .i32 768, .int .i32 879, .int .i32 0, .int .i32 4352, .int .i32 4447, .int .i32 2, .int .i32 11904, .int .i32 42191, .int .i32 2, .int .i32 44032, .int .i32 55203, .int .i32 2, .int .i32 63744, .int .i32 64255, .int .i32 2, .int .i32 65280, .int .i32 65376, .int .i32 2, .int .i32 127744, .int .i32 129791, .int .i32 2]) (.int .i64 2)).run Try.prog W = .ok (.agg #[.int .i32 768, .int .i32 879, .int .i32 0]) W := by kernel_rfl
theorem wagg3 (W : World) : (Instr.index 77 (.agg #[.int .i32 0, .int .i32 31, .int .i32 0, .int .i32 127, .int .i32 159, .int .i32 0, .int .i32 768, .int .i32 879, .int .i32 0, .int .i32 4352, .int .i32 4447, .int .i32 2, .int .i32 11904, .int .i32 42191, .int .i32 2, .int .i32 44032, .int .i32 55203, .int .i32 2, .int .i32 63744, .int .i32 64255, .int .i32 2, .int .i32 65280, .int .i32 65376, .int .i32 2, .int .i32 127744, .int .i32 129791, .int .i32 2]) (.int .i64 3)).run Try.prog W = .ok (.agg #[.int .i32 4352, .int .i32 4447, .int .i32 2]) W := by kernel_rfl
theorem wagg4 (W : World) : (Instr.index 77 (.agg #[.int .i32 0, .int .i32 31, .int .i32 0, .int .i32 127, .int .i32 159, .int .i32 0, .int .i32 768, .int .i32 879, .int .i32 0, .int .i32 4352, .int .i32 4447, .int .i32 2, .int .i32 11904, .int .i32 42191, .int .i32 2, .int .i32 44032, .int .i32 55203, .int .i32 2, .int .i32 63744, .int .i32 64255, .int .i32 2, .int .i32 65280, .int .i32 65376, .int .i32 2, .int .i32 127744, .int .i32 129791, .int .i32 2]) (.int .i64 4)).run Try.prog W = .ok (.agg #[.int .i32 11904, .int .i32 42191, .int .i32 2]) W := by kernel_rfl
theorem wagg5 (W : World) : (Instr.index 77 (.agg #[.int .i32 0, .int .i32 31, .int .i32 0, .int .i32 127, .int .i32 159, .int .i32 0, .int .i32 768, .int .i32 879, .int .i32 0, .int .i32 4352, .int .i32 4447, .int .i32 2, .int .i32 11904, .int .i32 42191, .int .i32 2, .int .i32 44032, .int .i32 55203, .int .i32 2, .int .i32 63744, .int .i32 64255, .int .i32 2, .int .i32 65280, .int .i32 65376, .int .i32 2, .int .i32 127744, .int .i32 129791, .int .i32 2]) (.int .i64 5)).run Try.prog W = .ok (.agg #[.int .i32 44032, .int .i32 55203, .int .i32 2]) W := by kernel_rfl
theorem wagg6 (W : World) : (Instr.index 77 (.agg #[.int .i32 0, .int .i32 31, .int .i32 0, .int .i32 127, .int .i32 159, .int .i32 0, .int .i32 768, .int .i32 879, .int .i32 0, .int .i32 4352, .int .i32 4447, .int .i32 2, .int .i32 11904, .int .i32 42191, .int .i32 2, .int .i32 44032, .int .i32 55203, .int .i32 2, .int .i32 63744, .int .i32 64255, .int .i32 2, .int .i32 65280, .int .i32 65376, .int .i32 2, .int .i32 127744, .int .i32 129791, .int .i32 2]) (.int .i64 6)).run Try.prog W = .ok (.agg #[.int .i32 63744, .int .i32 64255, .int .i32 2]) W := by kernel_rfl
theorem wagg7 (W : World) : (Instr.index 77 (.agg #[.int .i32 0, .int .i32 31, .int .i32 0, .int .i32 127, .int .i32 159, .int .i32 0, .int .i32 768, .int .i32 879, .int .i32 0, .int .i32 4352, .int .i32 4447, .int .i32 2, .int .i32 11904, .int .i32 42191, .int .i32 2, .int .i32 44032, .int .i32 55203, .int .i32 2, .int .i32 63744, .int .i32 64255, .int .i32 2, .int .i32 65280, .int .i32 65376, .int .i32 2, .int .i32 127744, .int .i32 129791, .int .i32 2]) (.int .i64 7)).run Try.prog W = .ok (.agg #[.int .i32 65280, .int .i32 65376, .int .i32 2]) W := by kernel_rfl
theorem wagg8 (W : World) : (Instr.index 77 (.agg #[.int .i32 0, .int .i32 31, .int .i32 0, .int .i32 127, .int .i32 159, .int .i32 0, .int .i32 768, .int .i32 879, .int .i32 0, .int .i32 4352, .int .i32 4447, .int .i32 2, .int .i32 11904, .int .i32 42191, .int .i32 2, .int .i32 44032, .int .i32 55203, .int .i32 2, .int .i32 63744, .int .i32 64255, .int .i32 2, .int .i32 65280, .int .i32 65376, .int .i32 2, .int .i32 127744, .int .i32 129791, .int .i32 2]) (.int .i64 8)).run Try.prog W = .ok (.agg #[.int .i32 127744, .int .i32 129791, .int .i32 2]) W := by kernel_rfl

set_option maxHeartbeats 4000000 in
set_option maxRecDepth 100000 in
theorem Width_any (r : Int) (w : World) (h0 : -2147483648 ≤ r) (h1 : r ≤ 2147483647) :
    Calls Try.prog 22 #[.int .i32 r] w fun e w' => e = .returned (.int .i64 (colW r : Nat)) ∧ Below w.heap.size w w' := by
  go_enter Try.func22, Try.ntmps22
  go_wp2
  go_loopw [4, 15] (fun _ u15 wr => ∃ k : Int, u15 = .int .i64 k ∧ 0 ≤ k ∧ k ≤ 9 ∧ widthFrom r (wtab.drop k.toNat) = colW r ∧ Below w.heap.size w wr) (fun _ u15 _ => 9 - (intOf u15).toNat)
  case atStart => exact ⟨0, rfl, by omega, by omega, width_tab r, Below.refl _ _⟩
  case round =>
    obtain ⟨k, rfl, hk0, hk, hw, hbw⟩ := hrel
    have hsz := hbw.size
    by_cases hlt : k < 9
    · rcases (show k = 0 ∨ k = 1 ∨ k = 2 ∨ k = 3 ∨ k = 4 ∨ k = 5 ∨ k = 6 ∨ k = 7 ∨ k = 8 by omega) with rfl | rfl | rfl | rfl | rfl | rfl | rfl | rfl | rfl
      · simp only [wtab, widthFrom, List.drop, Int.toNat_zero, Int.reduceToNat] at hw
        have hidx := fun W => wagg0 W
        go_wp2
        all_goals (try simp only [decide_eq_true_eq, decide_eq_false_iff_not, Int.not_le] at *)
        all_goals first
          | (rw [if_pos (by omega)] at hw
             go_ret
             exact ⟨ret_i (by rw [← hw]; rfl), hbw.alloc hbw.size _⟩)
          | (rw [if_neg (by omega)] at hw
             refine ⟨⟨1, rfl, by omega, by omega, ?_, hbw.alloc hbw.size _⟩, by simp [intOf]⟩
             simp only [wtab, widthFrom, List.drop, Int.toNat_zero, Int.reduceToNat]
             exact hw)
      · simp only [wtab, widthFrom, List.drop, Int.toNat_zero, Int.reduceToNat] at hw
        have hidx := fun W => wagg1 W
        go_wp2
        all_goals (try simp only [decide_eq_true_eq, decide_eq_false_iff_not, Int.not_le] at *)
        all_goals first
          | (rw [if_pos (by omega)] at hw
             go_ret
             exact ⟨ret_i (by rw [← hw]; rfl), hbw.alloc hbw.size _⟩)
          | (rw [if_neg (by omega)] at hw
             refine ⟨⟨2, rfl, by omega, by omega, ?_, hbw.alloc hbw.size _⟩, by simp [intOf]⟩
             simp only [wtab, widthFrom, List.drop, Int.toNat_zero, Int.reduceToNat]
             exact hw)
      · simp only [wtab, widthFrom, List.drop, Int.toNat_zero, Int.reduceToNat] at hw
        have hidx := fun W => wagg2 W
        go_wp2
        all_goals (try simp only [decide_eq_true_eq, decide_eq_false_iff_not, Int.not_le] at *)
        all_goals first
          | (rw [if_pos (by omega)] at hw
             go_ret
             exact ⟨ret_i (by rw [← hw]; rfl), hbw.alloc hbw.size _⟩)
          | (rw [if_neg (by omega)] at hw
             refine ⟨⟨3, rfl, by omega, by omega, ?_, hbw.alloc hbw.size _⟩, by simp [intOf]⟩
             simp only [wtab, widthFrom, List.drop, Int.toNat_zero, Int.reduceToNat]
             exact hw)
      · simp only [wtab, widthFrom, List.drop, Int.toNat_zero, Int.reduceToNat] at hw
        have hidx := fun W => wagg3 W
        go_wp2
        all_goals (try simp only [decide_eq_true_eq, decide_eq_false_iff_not, Int.not_le] at *)
        all_goals first
          | (rw [if_pos (by omega)] at hw
             go_ret
             exact ⟨ret_i (by rw [← hw]; rfl), hbw.alloc hbw.size _⟩)
          | (rw [if_neg (by omega)] at hw
             refine ⟨⟨4, rfl, by omega, by omega, ?_, hbw.alloc hbw.size _⟩, by simp [intOf]⟩
             simp only [wtab, widthFrom, List.drop, Int.toNat_zero, Int.reduceToNat]
             exact hw)
      · simp only [wtab, widthFrom, List.drop, Int.toNat_zero, Int.reduceToNat] at hw
        have hidx := fun W => wagg4 W
        go_wp2
        all_goals (try simp only [decide_eq_true_eq, decide_eq_false_iff_not, Int.not_le] at *)
        all_goals first
          | (rw [if_pos (by omega)] at hw
             go_ret
             exact ⟨ret_i (by rw [← hw]; rfl), hbw.alloc hbw.size _⟩)
          | (rw [if_neg (by omega)] at hw
             refine ⟨⟨5, rfl, by omega, by omega, ?_, hbw.alloc hbw.size _⟩, by simp [intOf]⟩
             simp only [wtab, widthFrom, List.drop, Int.toNat_zero, Int.reduceToNat]
             exact hw)
      · simp only [wtab, widthFrom, List.drop, Int.toNat_zero, Int.reduceToNat] at hw
        have hidx := fun W => wagg5 W
        go_wp2
        all_goals (try simp only [decide_eq_true_eq, decide_eq_false_iff_not, Int.not_le] at *)
        all_goals first
          | (rw [if_pos (by omega)] at hw
             go_ret
             exact ⟨ret_i (by rw [← hw]; rfl), hbw.alloc hbw.size _⟩)
          | (rw [if_neg (by omega)] at hw
             refine ⟨⟨6, rfl, by omega, by omega, ?_, hbw.alloc hbw.size _⟩, by simp [intOf]⟩
             simp only [wtab, widthFrom, List.drop, Int.toNat_zero, Int.reduceToNat]
             exact hw)
      · simp only [wtab, widthFrom, List.drop, Int.toNat_zero, Int.reduceToNat] at hw
        have hidx := fun W => wagg6 W
        go_wp2
        all_goals (try simp only [decide_eq_true_eq, decide_eq_false_iff_not, Int.not_le] at *)
        all_goals first
          | (rw [if_pos (by omega)] at hw
             go_ret
             exact ⟨ret_i (by rw [← hw]; rfl), hbw.alloc hbw.size _⟩)
          | (rw [if_neg (by omega)] at hw
             refine ⟨⟨7, rfl, by omega, by omega, ?_, hbw.alloc hbw.size _⟩, by simp [intOf]⟩
             simp only [wtab, widthFrom, List.drop, Int.toNat_zero, Int.reduceToNat]
             exact hw)
      · simp only [wtab, widthFrom, List.drop, Int.toNat_zero, Int.reduceToNat] at hw
        have hidx := fun W => wagg7 W
        go_wp2
        all_goals (try simp only [decide_eq_true_eq, decide_eq_false_iff_not, Int.not_le] at *)
        all_goals first
          | (rw [if_pos (by omega)] at hw
             go_ret
             exact ⟨ret_i (by rw [← hw]; rfl), hbw.alloc hbw.size _⟩)
          | (rw [if_neg (by omega)] at hw
             refine ⟨⟨8, rfl, by omega, by omega, ?_, hbw.alloc hbw.size _⟩, by simp [intOf]⟩
             simp only [wtab, widthFrom, List.drop, Int.toNat_zero, Int.reduceToNat]
             exact hw)
      · simp only [wtab, widthFrom, List.drop, Int.toNat_zero, Int.reduceToNat] at hw
        have hidx := fun W => wagg8 W
        go_wp2
        all_goals (try simp only [decide_eq_true_eq, decide_eq_false_iff_not, Int.not_le] at *)
        all_goals first
          | (rw [if_pos (by omega)] at hw
             go_ret
             exact ⟨ret_i (by rw [← hw]; rfl), hbw.alloc hbw.size _⟩)
          | (rw [if_neg (by omega)] at hw
             refine ⟨⟨9, rfl, by omega, by omega, ?_, hbw.alloc hbw.size _⟩, by simp [intOf]⟩
             simp only [wtab, widthFrom, List.drop, Int.toNat_zero, Int.reduceToNat]
             exact hw)
    · obtain rfl : k = 9 := by omega
      go_wp2
      go_ret
      exact ⟨ret_i (by rw [← hw]; rfl), hbw⟩
end Go.Proofs.Ytlkabghpcjlohaa
