/- Walks of the reference of layer 1: the row of a byte, the rune at a place. -/
import Derived.Test.YtlkabghpcjlohaaE1
import Derived.Lib.DecodeNEq
namespace Go.Proofs.Ytlkabghpcjlohaa
set_option linter.unusedVariables false
set_option linter.unusedSimpArgs false
open Go.RowKit Go.Lib

/-- the width of the row that begins so, and the bounds of its second byte -/
def rowN (b : Nat) : Nat × Nat × Nat :=
  if b < 128 then (1, 0, 0)
  else if 194 ≤ b ∧ b ≤ 223 then (2, 128, 191)
  else if b = 224 then (3, 160, 191)
  else if b = 237 then (3, 128, 159)
  else if 225 ≤ b ∧ b ≤ 239 then (3, 128, 191)
  else if b = 240 then (4, 144, 191)
  else if 241 ≤ b ∧ b ≤ 243 then (4, 128, 191)
  else if b = 244 then (4, 128, 143)
  else (0, 0, 0)

theorem row3 {a b c a' b' c' : Int} (h1 : a = a') (h2 : b = b') (h3 : c = c') : Ending.returned (.tuple #[.int .i64 a, .int .u8 b, .int .u8 c]) = Ending.returned (.tuple #[.int .i64 a', .int .u8 b', .int .u8 c']) := by rw [h1, h2, h3]
set_option maxHeartbeats 4000000 in
set_option maxRecDepth 100000 in
theorem refRow_any (b : Nat) (w : World) (hb : b < 256) : Calls Try.prog 104 #[.int .u8 (b : Int)] w fun e w' => e = .returned (.tuple #[.int .i64 ((rowN b).1 : Int), .int .u8 ((rowN b).2.1 : Int), .int .u8 ((rowN b).2.2 : Int)]) ∧ w = w' := by
  go_enter Try.func104, Try.ntmps104
  go_wp2
  all_goals go_ret3
  all_goals refine ⟨?_, rfl⟩
  all_goals (try simp only [beq_iff_eq, beq_eq_false_iff_ne, ne_eq] at *)
  all_goals (unfold rowN; repeat' split)
  all_goals first | rfl | (exfalso; omega)

theorem decode_row (n b0 b1 b2 b3 : Nat) (hn : 1 ≤ n) (h0 : b0 < 256) (h1 : b1 < 256) (h2 : b2 < 256) (h3 : b3 < 256) :
    decodeN n b0 b1 b2 b3 = if (rowN b0).1 = 0 ∨ n < (rowN b0).1 then (65533, 1) else if (rowN b0).1 = 1 then (b0, 1) else slowN n b0 b1 b2 b3 (rowN b0).1 (rowN b0).2.1 (rowN b0).2.2 := by
  unfold rowN
  by_cases c1 : b0 < 128
  · simp only [if_pos c1]
    rw [if_neg (by omega)]
    simp [decodeN, c1]
  simp only [if_neg c1]
  by_cases c2 : 194 ≤ b0 ∧ b0 ≤ 223
  · simp only [if_pos c2]
    rw [← slow_C2 n b0 b1 b2 b3 hn h1 h2 h3 (by omega)]
    by_cases g : n < 2
    · rw [if_pos (.inr g)]; simp [slowN, g]
    · rw [if_neg (by omega), if_neg (by omega)]
  simp only [if_neg c2]
  by_cases c3 : b0 = 224
  · simp only [if_pos c3]
    rw [← slow_E0 n b0 b1 b2 b3 hn h1 h2 h3 c3]
    by_cases g : n < 3
    · rw [if_pos (.inr g)]; simp [slowN, g]
    · rw [if_neg (by omega), if_neg (by omega)]
  simp only [if_neg c3]
  by_cases c4 : b0 = 237
  · simp only [if_pos c4]
    rw [← slow_ED n b0 b1 b2 b3 hn h1 h2 h3 c4]
    by_cases g : n < 3
    · rw [if_pos (.inr g)]; simp [slowN, g]
    · rw [if_neg (by omega), if_neg (by omega)]
  simp only [if_neg c4]
  by_cases c5 : 225 ≤ b0 ∧ b0 ≤ 239
  · simp only [if_pos c5]
    rw [← slow_E1 n b0 b1 b2 b3 hn h1 h2 h3 (by omega)]
    by_cases g : n < 3
    · rw [if_pos (.inr g)]; simp [slowN, g]
    · rw [if_neg (by omega), if_neg (by omega)]
  simp only [if_neg c5]
  by_cases c6 : b0 = 240
  · simp only [if_pos c6]
    rw [← slow_F0 n b0 b1 b2 b3 hn h1 h2 h3 c6]
    by_cases g : n < 4
    · rw [if_pos (.inr g)]; simp [slowN, g]
    · rw [if_neg (by omega), if_neg (by omega)]
  simp only [if_neg c6]
  by_cases c7 : 241 ≤ b0 ∧ b0 ≤ 243
  · simp only [if_pos c7]
    rw [← slow_F1 n b0 b1 b2 b3 hn h1 h2 h3 (by omega)]
    by_cases g : n < 4
    · rw [if_pos (.inr g)]; simp [slowN, g]
    · rw [if_neg (by omega), if_neg (by omega)]
  simp only [if_neg c7]
  by_cases c8 : b0 = 244
  · simp only [if_pos c8]
    rw [← slow_F4 n b0 b1 b2 b3 hn h1 h2 h3 c8]
    by_cases g : n < 4
    · rw [if_pos (.inr g)]; simp [slowN, g]
    · rw [if_neg (by omega), if_neg (by omega)]
  simp only [if_neg c8]
  rw [if_pos (.inl trivial)]
  unfold decodeN
  rw [if_neg c1]
  repeat' split
  all_goals first | rfl | (exfalso; omega)
end Go.Proofs.Ytlkabghpcjlohaa
