/- Walks of package fold: a rune's class, capital and plain form. -/
import Derived.Test.YtlkabghpcjlohaaA6
namespace Go.Proofs.Ytlkabghpcjlohaa
set_option linter.unusedVariables false
set_option linter.unusedSimpArgs false
open Go.RowKit Go.Lib

theorem in_any (r lo hi : Int) (w : World) : Calls Try.prog 75 #[.int .i32 r, .int .i32 lo, .int .i32 hi] w fun e w' => e = .returned (.bool (decide (lo ≤ r ∧ r ≤ hi))) ∧ w = w' := by
  by_cases h1 : lo ≤ r
  · by_cases h2 : r ≤ hi
    · go_enter Try.func75, Try.ntmps75
      go_wp2
      go_ret
      exact ⟨ret_b (by simp [h1, h2]), rfl⟩
    · go_enter Try.func75, Try.ntmps75
      go_wp2
      go_ret
      exact ⟨ret_b (by simp; omega), rfl⟩
  · go_enter Try.func75, Try.ntmps75
    go_wp2
    go_ret
    exact ⟨ret_b (by simp; omega), rfl⟩

/-- 1 letter, 2 digit, 3 blank, 4 sign, 0 none -/
def cls (n : Int) : Int :=
  if 48 ≤ n ∧ n ≤ 57 then 2
  else if (9 ≤ n ∧ n ≤ 13) ∨ n = 32 ∨ n = 160 then 3
  else if 768 ≤ n ∧ n ≤ 879 then 4
  else if n = 215 ∨ n = 247 ∨ n = 930 then 0
  else if (65 ≤ n ∧ n ≤ 90) ∨ (97 ≤ n ∧ n ≤ 122) ∨ (192 ≤ n ∧ n ≤ 383) ∨ (913 ≤ n ∧ n ≤ 937) ∨ (945 ≤ n ∧ n ≤ 969) ∨ (1024 ≤ n ∧ n ≤ 1119) then 1
  else 0

set_option maxHeartbeats 8000000 in
set_option maxRecDepth 100000 in
theorem Class_any (r : Int) (w : World) : Calls Try.prog 33 #[.int .i32 r] w fun e w' => e = .returned (.int .i64 (cls r)) ∧ w = w' := by
  go_enter Try.func33, Try.ntmps33
  go_wp2_with (go_at_call 75; refine (in_any _ _ _ _).mono ?_; rintro e w1 ⟨rfl, rfl⟩)
  all_goals go_ret
  all_goals refine ⟨ret_i ?_, rfl⟩
  all_goals (try simp only [beq_iff_eq, beq_eq_false_iff_ne, ne_eq] at *)
  all_goals (unfold cls; repeat' split)
  all_goals first | rfl | omega

/-- the capital -/
def upr (n : Int) : Int :=
  if n = 247 ∨ n = 305 then n
  else if n = 255 then 376
  else if n = 962 then 931
  else if (97 ≤ n ∧ n ≤ 122) ∨ (224 ≤ n ∧ n ≤ 254) ∨ (945 ≤ n ∧ n ≤ 969) ∨ (1072 ≤ n ∧ n ≤ 1103) then n - 32
  else if 1104 ≤ n ∧ n ≤ 1119 then n - 80
  else if (256 ≤ n ∧ n ≤ 311) ∨ (330 ≤ n ∧ n ≤ 375) then n - n % 2
  else if (313 ≤ n ∧ n ≤ 328) ∨ (377 ≤ n ∧ n ≤ 382) then n - 1 + n % 2
  else n
theorem andNot_one (n : Int) (h0 : 0 ≤ n) (h1 : n < 512) : bits .andNot .i32 n 1 = n - n % 2 := by
  obtain ⟨k, rfl⟩ : ∃ k : Nat, n = k := ⟨n.toNat, by omega⟩
  have : ∀ x : Fin 512, bits .andNot .i32 ((x.val : Nat) : Int) 1 = (x.val : Int) - (x.val : Int) % 2 := by decide +kernel
  exact this ⟨k, by omega⟩
theorem and_one (n : Int) (h0 : 0 ≤ n) (h1 : n < 512) : bits .and .i32 n 1 = n % 2 := by
  obtain ⟨k, rfl⟩ : ∃ k : Nat, n = k := ⟨n.toNat, by omega⟩
  have : ∀ x : Fin 512, bits .and .i32 ((x.val : Nat) : Int) 1 = (x.val : Int) % 2 := by decide +kernel
  exact this ⟨k, by omega⟩

set_option maxHeartbeats 8000000 in
set_option maxRecDepth 100000 in
theorem Upper_any (r : Int) (w : World) (h0 : -2147483648 ≤ r) (h1 : r ≤ 2147483647) : Calls Try.prog 35 #[.int .i32 r] w fun e w' => e = .returned (.int .i32 (upr r)) ∧ w = w' := by
  go_enter Try.func35, Try.ntmps35
  go_wp2_with (go_at_call 75; refine (in_any _ _ _ _).mono ?_; rintro e w1 ⟨rfl, rfl⟩)
  all_goals go_ret
  all_goals refine ⟨ret_i ?_, rfl⟩
  all_goals (try simp only [beq_iff_eq, beq_eq_false_iff_ne, ne_eq] at *)
  all_goals (try rw [andNot_one r (by omega) (by omega)])
  all_goals (try rw [and_one r (by omega) (by omega)])
  all_goals (unfold upr; repeat' split)
  all_goals first | rfl | omega | (simp only [wrap32]; omega)
end Go.Proofs.Ytlkabghpcjlohaa
