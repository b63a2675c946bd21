/- Plain Lean: the columns of a text, what fits, a text's lines. -/
import Derived.Test.YtlkabghpcjlohaaP4
namespace Go.Proofs.Ytlkabghpcjlohaa
set_option linter.unusedVariables false
set_option linter.unusedSimpArgs false
open Go.Lib

def colW (n : Int) : Nat :=
  if (0 ≤ n ∧ n ≤ 31) ∨ (127 ≤ n ∧ n ≤ 159) ∨ (768 ≤ n ∧ n ≤ 879) then 0
  else if (4352 ≤ n ∧ n ≤ 4447) ∨ (11904 ≤ n ∧ n ≤ 42191) ∨ (44032 ≤ n ∧ n ≤ 55203) ∨ (63744 ≤ n ∧ n ≤ 64255) ∨ (65280 ≤ n ∧ n ≤ 65376) ∨ (127744 ≤ n ∧ n ≤ 129791) then 2
  else 1
theorem colW_le (n : Int) : colW n ≤ 2 := by
  unfold colW
  split
  · omega
  · split <;> omega
def colsR (rs : List Nat) : Nat := (rs.map fun (r : Nat) => colW (r : Int)).sum
def colsC (cs : List (Nat × List UInt8)) : Nat := colsR (cs.map (·.1))
def colsL (l : List UInt8) : Nat := colsR (runes l)
theorem colsL_eq (l : List UInt8) : colsL l = colsC (chop l) := rfl
theorem colsR_append (a b : List Nat) : colsR (a ++ b) = colsR a + colsR b := by simp [colsR]
theorem colsR_cons (r : Nat) (b : List Nat) : colsR (r :: b) = colW (r : Int) + colsR b := by simp [colsR]
theorem colsC_append (a b : List (Nat × List UInt8)) : colsC (a ++ b) = colsC a + colsC b := by simp [colsC, colsR_append]
theorem colsC_cons (c : Nat × List UInt8) (b : List (Nat × List UInt8)) : colsC (c :: b) = colW (c.1 : Int) + colsC b := by simp [colsC, colsR_cons]
theorem colsR_le : ∀ rs : List Nat, colsR rs ≤ 2 * rs.length
  | [] => by simp [colsR]
  | r :: rs => by
    have := colsR_le rs
    have := colW_le (r : Int)
    rw [colsR_cons, List.length_cons]; omega
theorem colsL_le (l : List UInt8) : colsL l ≤ 2 * l.length := by
  have h := colsR_le (runes l)
  have h2 := chop_length_le l
  rw [runes_length] at h
  unfold colsL; omega
theorem colsL_nil : colsL [] = 0 := rfl

/-! ### what fits -/
def fitC : Int → List (Nat × List UInt8) → List (Nat × List UInt8)
  | _, [] => []
  | n, c :: cs => if (colW (c.1 : Int) : Int) ≤ n then c :: fitC (n - colW (c.1 : Int)) cs else []
def fitL (l : List UInt8) (n : Int) : List UInt8 := glue (fitC n (chop l))
theorem fitC_take : ∀ (n : Int) (cs : List (Nat × List UInt8)), fitC n cs = cs.take (fitC n cs).length
  | n, [] => rfl
  | n, c :: cs => by
    unfold fitC
    split
    · rw [List.length_cons, List.take_succ_cons]
      exact congrArg (c :: ·) (fitC_take _ cs)
    · rfl
theorem fitC_neg (n : Int) (h : n < 0) (cs : List (Nat × List UInt8)) : fitC n cs = [] := by
  cases cs with
  | nil => rfl
  | cons c cs => unfold fitC; rw [if_neg (by omega)]
theorem fitC_cols : ∀ (n : Int) (cs : List (Nat × List UInt8)), 0 ≤ n → (colsC (fitC n cs) : Int) ≤ n
  | n, [], h => by simpa [fitC, colsC, colsR] using h
  | n, c :: cs, h => by
    unfold fitC
    split
    · rename_i h1
      have := fitC_cols (n - colW (c.1 : Int)) cs (by omega)
      rw [colsC_cons]; omega
    · simpa [colsC, colsR] using h
theorem fitC_next : ∀ (n : Int) (cs : List (Nat × List UInt8)) (c : Nat × List UInt8) (r : List (Nat × List UInt8)), 0 ≤ n → cs.drop (fitC n cs).length = c :: r → n < colsC (fitC n cs) + colW (c.1 : Int)
  | n, [], c, r, h, he => by simp at he
  | n, d :: cs, c, r, h, he => by
    unfold fitC at he ⊢
    split
    · rename_i h1
      rw [if_pos h1, List.length_cons, List.drop_succ_cons] at he
      have := fitC_next (n - colW (d.1 : Int)) cs c r (by omega) he
      rw [colsC_cons]; omega
    · rename_i h1
      rw [if_neg h1] at he
      simp only [List.length_nil, List.drop_zero, List.cons.injEq] at he
      obtain ⟨rfl, rfl⟩ := he
      simp only [colsC, colsR, List.map_nil, List.sum_nil]
      omega
theorem chop_fit (l : List UInt8) (n : Int) : chop (fitL l n) = fitC n (chop l) := by
  unfold fitL
  rw [fitC_take, chop_first]
theorem fit_len (l : List UInt8) (n : Int) : (fitL l n).length ≤ l.length := by
  unfold fitL
  rw [fitC_take]
  exact glue_take_le l _
theorem fit_prefix (l : List UInt8) (n : Int) : fitL l n = l.take (fitL l n).length := by
  unfold fitL
  rw [fitC_take]
  exact glue_take l _
theorem chop_fit_rest (l : List UInt8) (n : Int) : chop (l.drop (fitL l n).length) = (chop l).drop (fitC n (chop l)).length := by
  have := chop_rest l (fitC n (chop l)).length
  rw [← fitC_take] at this
  exact this
theorem cols_fit_rest (l : List UInt8) (n : Int) : colsL l = colsL (fitL l n) + colsL (l.drop (fitL l n).length) := by
  rw [colsL_eq, colsL_eq, colsL_eq, chop_fit, chop_fit_rest, ← colsC_append]
  congr 1
  conv => lhs; rw [← List.take_append_drop (fitC n (chop l)).length (chop l)]
  rw [← fitC_take]
theorem cols_fit (l : List UInt8) (n : Int) (h : 0 ≤ n) : (colsL (fitL l n) : Int) ≤ n := by
  rw [colsL_eq, chop_fit]
  exact fitC_cols n _ h

/-! ### a word that is too wide -/
def pieceL (w : List UInt8) (width : Int) : List UInt8 := if 0 < colsL (fitL w width) then fitL w width else fitL w 2
theorem piece_is (w : List UInt8) (width : Int) (h : 0 ≤ width) : ∃ n, 0 ≤ n ∧ pieceL w width = fitL w n := by
  unfold pieceL
  split
  · exact ⟨width, h, rfl⟩
  · exact ⟨2, by omega, rfl⟩
theorem pieceL_len (w : List UInt8) (width : Int) : (pieceL w width).length ≤ w.length := by
  unfold pieceL
  split <;> exact fit_len _ _
theorem piece_prefix (w : List UInt8) (width : Int) : pieceL w width = w.take (pieceL w width).length := by
  unfold pieceL
  split <;> exact fit_prefix _ _
theorem piece_cols (w : List UInt8) (width : Int) : colsL w = colsL (pieceL w width) + colsL (w.drop (pieceL w width).length) := by
  unfold pieceL
  split <;> exact cols_fit_rest _ _
theorem piece_pos (w : List UInt8) (width : Int) (h : width < colsL w) (h1 : 0 ≤ width) : 0 < (pieceL w width).length := by
  unfold pieceL
  split
  · rename_i hc
    rcases Nat.eq_zero_or_pos (fitL w width).length with h0 | h0
    · rw [List.length_eq_zero_iff.1 h0, colsL_nil] at hc; omega
    · exact h0
  · rcases hcw : chop w with _ | ⟨c, cs⟩
    · rw [colsL_eq, hcw] at h
      simp [colsC, colsR] at h; omega
    · have hp := chop_piece w c (by rw [hcw]; exact List.mem_cons_self ..)
      unfold fitL
      rw [hcw]
      unfold fitC
      rw [if_pos (by have := colW_le (c.1 : Int); omega)]
      have := List.length_pos_iff.2 hp
      simp only [glue, List.map_cons, List.flatten_cons, List.length_append]
      omega

def cutsF (width : Int) : Nat → List UInt8 → List (List UInt8) × List UInt8
  | 0, w => ([], w)
  | f + 1, w => if width < colsL w then (pieceL w width :: (cutsF width f (w.drop (pieceL w width).length)).1, (cutsF width f (w.drop (pieceL w width).length)).2) else ([], w)
def cuts (width : Int) (w : List UInt8) : List (List UInt8) × List UInt8 := cutsF width w.length w
theorem cutsF_eq (width : Int) (h1 : 0 ≤ width) : ∀ (f : Nat) (w : List UInt8), w.length ≤ f → cutsF width f w = cuts width w := by
  intro f
  induction f using Nat.strongRecOn with
  | ind f ih =>
    intro w hw
    unfold cuts
    cases f with
    | zero => rw [show w.length = 0 by omega]
    | succ f =>
      rcases hl : w.length with _ | n
      · have : w = [] := List.length_eq_zero_iff.1 hl
        subst this
        simp only [cutsF]
        rw [if_neg]
        rw [colsL_nil]; omega
      · by_cases hc : width < colsL w
        · have hp := piece_pos w width hc h1
          simp only [cutsF]
          rw [if_pos hc, if_pos hc, ih f (by omega) _ (by rw [List.length_drop]; omega), ih n (by omega) _ (by rw [List.length_drop]; omega)]
        · simp only [cutsF]
          rw [if_neg hc, if_neg hc]
theorem cuts_step {width : Int} {w : List UInt8} (h1 : 0 ≤ width) (h : width < colsL w) : cuts width w = (pieceL w width :: (cuts width (w.drop (pieceL w width).length)).1, (cuts width (w.drop (pieceL w width).length)).2) := by
  rw [← cutsF_eq width h1 (w.length + 1) w (by omega)]
  simp only [cutsF]
  rw [if_pos h, cutsF_eq width h1 w.length _ (by rw [List.length_drop]; omega)]
theorem cuts_done {width : Int} {w : List UInt8} (h : ¬ width < colsL w) : cuts width w = ([], w) := by
  unfold cuts
  cases w.length with
  | zero => rfl
  | succ n => simp only [cutsF]; rw [if_neg h]
theorem cuts_count (width : Int) (h1 : 0 ≤ width) : ∀ (n : Nat) (w : List UInt8), w.length ≤ n → (cuts width w).1.length + (cuts width w).2.length ≤ w.length
  | 0, w, h => by
    have : w = [] := List.length_eq_zero_iff.1 (by omega)
    subst this
    simp [cuts, cutsF]
  | n + 1, w, h => by
    by_cases hc : width < colsL w
    · have hp := piece_pos w width hc h1
      have hl := pieceL_len w width
      have := cuts_count width h1 n (w.drop (pieceL w width).length) (by rw [List.length_drop]; omega)
      rw [cuts_step h1 hc]
      rw [List.length_drop] at this
      simp only [List.length_cons]; omega
    · rw [cuts_done hc]; simp

/-! ### lines -/
def optL (l : List UInt8) : List (List UInt8) := if l = [] then [] else [l]
theorem optL_len (l : List UInt8) : (optL l).length ≤ l.length := by
  unfold optL
  split
  · simp
  · have : 0 < l.length := List.length_pos_iff.2 (by assumption)
    simp; omega
def stepW (width : Int) (st : List (List UInt8) × List UInt8) (w : List UInt8) : List (List UInt8) × List UInt8 :=
  if st.2 ≠ [] ∧ (colsL st.2 : Int) + 1 + colsL w ≤ width then (st.1, st.2 ++ 32 :: w)
  else (st.1 ++ optL st.2 ++ (cuts width w).1, (cuts width w).2)
def wrapS (width : Int) (ws : List (List UInt8)) : List (List UInt8) × List UInt8 := ws.foldl (stepW width) ([], [])
def wrapL (width : Int) (ws : List (List UInt8)) : List (List UInt8) := (wrapS width ws).1 ++ optL (wrapS width ws).2
theorem wrapS_snoc (width : Int) (ws : List (List UInt8)) (w : List UInt8) : wrapS width (ws ++ [w]) = stepW width (wrapS width ws) w := by
  unfold wrapS
  rw [List.foldl_append]; rfl
theorem step_count (width : Int) (h1 : 0 ≤ width) (st : List (List UInt8) × List UInt8) (w : List UInt8) :
    (stepW width st w).1.length + (optL (stepW width st w).2).length ≤ st.1.length + (optL st.2).length + w.length := by
  unfold stepW
  split
  · rename_i h
    have e : optL (st.2 ++ 32 :: w) = [st.2 ++ 32 :: w] := by unfold optL; rw [if_neg (by simp)]
    have e2 : optL st.2 = [st.2] := by unfold optL; rw [if_neg h.1]
    simp only [e, e2, List.length_singleton]; omega
  · have := cuts_count width h1 _ w (Nat.le_refl _)
    have := optL_len (cuts width w).2
    simp only [List.length_append]; omega
theorem step_line (width : Int) (h1 : 0 ≤ width) (st : List (List UInt8) × List UInt8) (w : List UInt8) (hw : w ≠ []) :
    (stepW width st w).2.length ≤ st.2.length + 2 * w.length := by
  have := List.length_pos_iff.2 hw
  unfold stepW
  split
  · simp only [List.length_append, List.length_cons]; omega
  · have := cuts_count width h1 _ w (Nat.le_refl _)
    simp only; omega
theorem wrapS_bounds (width : Int) (h1 : 0 ≤ width) (ws : List (List UInt8)) (hw : ∀ w ∈ ws, w ≠ []) : ∀ k, k ≤ ws.length →
    (wrapS width (ws.take k)).1.length + (optL (wrapS width (ws.take k)).2).length ≤ (ws.take k).flatten.length ∧ (wrapS width (ws.take k)).2.length ≤ 2 * (ws.take k).flatten.length
  | 0, _ => by simp [wrapS, optL]
  | k + 1, hk => by
    have ih := wrapS_bounds width h1 ws hw k (by omega)
    have hlt : k < ws.length := by omega
    rw [List.take_succ_eq_append_getElem hlt, wrapS_snoc]
    have a := step_count width h1 (wrapS width (ws.take k)) ws[k]
    have b := step_line width h1 (wrapS width (ws.take k)) ws[k] (hw _ (List.getElem_mem hlt))
    rw [List.flatten_append, List.length_append, List.flatten_cons, List.flatten_nil, List.append_nil]
    omega
end Go.Proofs.Ytlkabghpcjlohaa
