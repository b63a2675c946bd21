/- Plain Lean: a step each way, in numbers. -/
import Derived.Test.YtonibpilbkafnaaO7
namespace Go.Proofs.Ytonibpilbkafnaa
set_option linter.unusedVariables false
set_option linter.unusedSimpArgs false

theorem st_none {h w i d : Nat} {B R D : Nat → Bool} (hn : ¬ besIn h w i d) : stW h w B R D i d = none := by
  unfold stW
  split
  · rfl
  · first | rfl | rw [if_neg hn]
theorem st_in {h w i d : Nat} {B R D : Nat → Bool} (hi : i < h * w) (hb : B i = false) (hin : besIn h w i d) : stW h w B R D i d = if B (besW w i d) || barB R D i (besW w i d) d then none else some (besW w i d) := by
  unfold stW
  rw [if_neg (by rintro (h1 | h1)
                 · omega
                 · rw [hb] at h1; cases h1), if_pos hin]
  cases B (besW w i d) <;> cases barB R D i (besW w i d) d <;> simp
theorem st0 {h w i : Nat} {B R D : Nat → Bool} (hi : i < h * w) (hb : B i = false) : (¬ i % w + 1 < w → stW h w B R D i 0 = none) ∧ (i % w + 1 < w → i + 1 < h * w ∧ stW h w B R D i 0 = if B (i + 1) || R i then none else some (i + 1)) := by
  obtain ⟨h1, h2, h3, h4⟩ := in_of hi
  constructor
  · intro hn
    refine st_none fun hin => hn ?_
    obtain ⟨_, _, _, k4⟩ := hin
    rw [show dcW 0 = 1 from rfl] at k4
    unfold colW' at k4
    omega
  · intro hl
    have hin : besIn h w i 0 := by
      unfold besIn inG
      rw [show drW 0 = 0 from rfl, show dcW 0 = 1 from rfl]
      unfold colW' at h3 h4 ⊢
      refine ⟨by omega, by omega, by omega, by omega⟩
    have e := ((bes_far (by omega) hi hin).1 rfl).1
    have hlt := bes_lt hin
    have := st_in (R := R) (D := D) hi hb hin
    rw [e] at this hlt
    refine ⟨hlt, ?_⟩
    rw [this]
    unfold barB
    rw [show min i (i + 1) = i by omega]
    rfl
theorem st1 {h w i : Nat} {B R D : Nat → Bool} (hi : i < h * w) (hb : B i = false) : (¬ i / w + 1 < h → stW h w B R D i 1 = none) ∧ (i / w + 1 < h → i + w < h * w ∧ stW h w B R D i 1 = if B (i + w) || D i then none else some (i + w)) := by
  obtain ⟨h1, h2, h3, h4⟩ := in_of hi
  constructor
  · intro hn
    refine st_none fun hin => hn ?_
    obtain ⟨_, k4, _, _⟩ := hin
    rw [show drW 1 = 1 from rfl] at k4
    unfold rowW at k4
    omega
  · intro hl
    have hin : besIn h w i 1 := by
      unfold besIn inG
      rw [show drW 1 = 1 from rfl, show dcW 1 = 0 from rfl]
      unfold rowW at h1 h2 ⊢
      refine ⟨by omega, by omega, by omega, by omega⟩
    have e := (bes_far (by omega) hi hin).2.1 rfl
    have hlt := bes_lt hin
    have := st_in (R := R) (D := D) hi hb hin
    rw [e] at this hlt
    refine ⟨hlt, ?_⟩
    rw [this]
    unfold barB
    rw [show min i (i + w) = i by omega]
    rfl
theorem st2 {h w i : Nat} {B R D : Nat → Bool} (hi : i < h * w) (hb : B i = false) : (¬ 1 ≤ i % w → stW h w B R D i 2 = none) ∧ (1 ≤ i % w → 1 ≤ i ∧ stW h w B R D i 2 = if B (i - 1) || R (i - 1) then none else some (i - 1)) := by
  obtain ⟨h1, h2, h3, h4⟩ := in_of hi
  constructor
  · intro hn
    refine st_none fun hin => hn ?_
    obtain ⟨_, _, k4, _⟩ := hin
    rw [show dcW 2 = -1 from rfl] at k4
    unfold colW' at k4
    omega
  · intro hl
    have hin : besIn h w i 2 := by
      unfold besIn inG
      rw [show drW 2 = 0 from rfl, show dcW 2 = -1 from rfl]
      unfold colW' at h3 h4 ⊢
      refine ⟨by omega, by omega, by omega, by omega⟩
    have e := ((bes_far (by omega) hi hin).2.2.1 rfl).1
    have := st_in (R := R) (D := D) hi hb hin
    have e2 : besW w i 2 = i - 1 := by omega
    rw [e2] at this
    refine ⟨by omega, ?_⟩
    rw [this]
    unfold barB
    rw [show min i (i - 1) = i - 1 by omega]
    rfl
theorem st3 {h w i : Nat} {B R D : Nat → Bool} (hi : i < h * w) (hb : B i = false) : (¬ 1 ≤ i / w → stW h w B R D i 3 = none) ∧ (1 ≤ i / w → w ≤ i ∧ stW h w B R D i 3 = if B (i - w) || D (i - w) then none else some (i - w)) := by
  obtain ⟨h1, h2, h3, h4⟩ := in_of hi
  constructor
  · intro hn
    refine st_none fun hin => hn ?_
    obtain ⟨k4, _, _, _⟩ := hin
    rw [show drW 3 = -1 from rfl] at k4
    unfold rowW at k4
    omega
  · intro hl
    have hin : besIn h w i 3 := by
      unfold besIn inG
      rw [show drW 3 = -1 from rfl, show dcW 3 = 0 from rfl]
      unfold rowW at h1 h2 ⊢
      refine ⟨by omega, by omega, by omega, by omega⟩
    have e := (bes_far (by omega) hi hin).2.2.2 rfl
    have := st_in (R := R) (D := D) hi hb hin
    have e2 : besW w i 3 = i - w := by omega
    rw [e2] at this
    refine ⟨by omega, ?_⟩
    rw [this]
    unfold barB
    rw [show min i (i - w) = i - w by omega]
    rfl
/-- what Step answers -/
def stepV : Option Nat → Ending
  | none => .returned (.tuple #[.int .i64 0, .bool false])
  | some j => .returned (.tuple #[.int .i64 (j : Nat), .bool true])
end Go.Proofs.Ytonibpilbkafnaa
