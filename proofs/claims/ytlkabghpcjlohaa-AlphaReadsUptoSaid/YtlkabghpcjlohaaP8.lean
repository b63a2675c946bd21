/- Plain Lean: a text that is split has a way. -/
import Derived.Test.YtlkabghpcjlohaaP7
namespace Go.Proofs.Ytlkabghpcjlohaa
set_option linter.unusedVariables false
set_option linter.unusedSimpArgs false

theorem le_sum_mem : ∀ (l : List Nat) (a : Nat), a ∈ l → a ≤ l.sum
  | [], a, h => by simp at h
  | b :: l, a, h => by
    rw [List.sum_cons]
    rcases List.mem_cons.1 h with rfl | h
    · omega
    · have := le_sum_mem l a h; omega
theorem cnt_pos {xs : List (List UInt8)} {r : List UInt8} {i : Nat} (hr : r ≠ []) (hs : std xs r i = true) (hc : 0 < cntL xs (r.drop (nm xs i).length)) : 0 < cntL xs r := by
  rw [cntL_cons xs hr, addAll_eq _ _ _ _ (Nat.zero_le _)]
  have hm : cntL xs (r.drop (nm xs i).length) ∈ (List.range xs.length).map fun j => if std xs r j then cntL xs (r.drop (nm xs j).length) else 0 :=
    List.mem_map.2 ⟨i, List.mem_range.2 (std_lt hs), by rw [if_pos hs]⟩
  have := le_sum_mem _ _ hm
  unfold maxWays
  omega
/-- what was split goes on with its best letter -/
theorem split_step {xs : List (List UInt8)} {f : Nat} {r : List UInt8} {acc l : List Nat} (hr : r ≠ []) (h : splitF xs f r acc = .good l) :
    ∃ f' i, f = f' + 1 ∧ bestL xs r = some i ∧ splitF xs f' (r.drop (nm xs i).length) (acc ++ [i]) = .good l := by
  cases f with
  | zero => rw [splitF_zero xs hr] at h; cases h
  | succ f' =>
    cases hb : bestL xs r with
    | none => rw [splitF_none xs f' hr acc hb] at h; cases h
    | some i => exact ⟨f', i, rfl, rfl, by rw [← h, splitF_some xs f' hr acc hb]⟩
theorem split_cnt (xs : List (List UInt8)) : ∀ (f : Nat) (r : List UInt8) (acc l : List Nat), splitF xs f r acc = .good l → 0 < cntL xs r
  | f, [], acc, l, _ => by rw [cntL_nil]; omega
  | 0, b :: t, acc, l, h => by rw [splitF_zero xs (by simp)] at h; cases h
  | f + 1, b :: t, acc, l, h => by
    obtain ⟨f', i, hf, hb, h'⟩ := split_step (by simp) h
    obtain rfl : f = f' := by omega
    have hs := bestL_is xs (b :: t)
    rw [hb] at hs
    exact cnt_pos (by simp) hs.1 (split_cnt xs f _ _ l h')
theorem split_len (xs : List (List UInt8)) : ∀ (f : Nat) (r : List UInt8) (acc l : List Nat), splitF xs f r acc = .good l → acc.length ≤ l.length
  | f, [], acc, l, h => by rw [splitF_nil] at h; injection h with h; subst h; omega
  | 0, b :: t, acc, l, h => by rw [splitF_zero xs (by simp)] at h; cases h
  | f + 1, b :: t, acc, l, h => by
    obtain ⟨f', i, hf, hb, h'⟩ := split_step (by simp) h
    obtain rfl : f = f' := by omega
    have := split_len xs f _ _ l h'
    rw [List.length_append] at this
    omega
end Go.Proofs.Ytlkabghpcjlohaa
