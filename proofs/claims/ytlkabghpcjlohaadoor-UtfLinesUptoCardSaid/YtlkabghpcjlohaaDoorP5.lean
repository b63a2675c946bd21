/- Plain Lean: a text's lines. -/
import Derived.Test.YtlkabghpcjlohaaDoorP2
import Derived.Lib.IndexMore
import Derived.Lib.IndexBytes
import Derived.Lib.IndexLaws
namespace Go.Proofs.YtlkabghpcjlohaaDoor
set_option linter.unusedVariables false
set_option linter.unusedSimpArgs false
open Go.Lib

/-- without a trailing byte 13 -/
def trim13 (l : List UInt8) : List UInt8 := if l.getLast? = some 13 then l.take (l.length - 1) else l
def linesC : List UInt8 → List UInt8 → List (List UInt8)
  | cur, [] => if cur = [] then [] else [cur]
  | cur, b :: t => if b = 10 then trim13 cur :: linesC [] t else linesC (cur ++ [b]) t
def linesL (l : List UInt8) : List (List UInt8) := linesC [] l

theorem linesC_skip : ∀ (a cur t : List UInt8), (∀ b ∈ a, b ≠ 10) → linesC cur (a ++ t) = linesC (cur ++ a) t
  | [], cur, t, _ => by simp
  | b :: a, cur, t, h => by
    rw [List.cons_append, linesC, if_neg (h b (List.mem_cons_self ..)), linesC_skip a _ t (fun x hx => h x (List.mem_cons_of_mem _ hx))]
    simp
theorem linesL_line (a t : List UInt8) (h : ∀ b ∈ a, b ≠ 10) : linesL (a ++ 10 :: t) = trim13 a :: linesL t := by
  unfold linesL
  rw [linesC_skip a [] _ h, List.nil_append, linesC, if_pos rfl]
theorem linesL_last (a : List UInt8) (h : ∀ b ∈ a, b ≠ 10) (hn : a ≠ []) : linesL a = [a] := by
  have := linesC_skip a [] [] h
  rw [List.append_nil, List.nil_append] at this
  unfold linesL
  rw [this, linesC, if_neg hn]
theorem trim13_eq (l : List UInt8) : trimSuffix l [13] = trim13 l := by
  unfold trimSuffix trim13 hasSuffix
  have : ([13] : List UInt8).isSuffixOf l = decide (l.getLast? = some 13) := by
    rw [Bool.eq_iff_iff]
    simp only [List.isSuffixOf_iff_suffix, decide_eq_true_eq]
    constructor
    · rintro ⟨t, rfl⟩; simp
    · intro h
      obtain ⟨ys, rfl⟩ := List.getLast?_eq_some_iff.1 h
      exact ⟨ys, rfl⟩
  rw [this]
  by_cases h : l.getLast? = some 13
  · simp [h]
  · simp [h]
theorem not10 {s : List UInt8} {n : Nat} (h : ∀ k, k < n → s[k]? ≠ some 10) (hn : n ≤ s.length) : ∀ b ∈ s.take n, b ≠ 10 := by
  intro b hb
  obtain ⟨k, hk, rfl⟩ := List.getElem_of_mem hb
  rw [List.length_take] at hk
  rw [List.getElem_take]
  intro h2
  exact h k (by omega) (by rw [List.getElem?_eq_getElem (by omega), h2])
/-- what the library's Cut at a byte 10 tells of the lines -/
theorem cut10 (s : List UInt8) (hs : s ≠ []) :
    ((cut s [10]).2.2 = true ∧ linesL s = trim13 (cut s [10]).1 :: linesL (cut s [10]).2.1 ∧ (cut s [10]).2.1.length < s.length ∧ (cut s [10]).1.length ≤ s.length) ∨
    ((cut s [10]).2.2 = false ∧ linesL s = [(cut s [10]).1] ∧ (cut s [10]).2.1 = [] ∧ (cut s [10]).1.length ≤ s.length) := by
  have hi : index s [10] = indexByte s 10 := index_one s 10
  unfold cut
  by_cases h : 0 ≤ index s [10]
  · rw [if_pos h]
    left
    have hroom := index_room s [10] h
    obtain ⟨o, ho⟩ : ∃ o : Nat, index s [10] = o := ⟨(index s [10]).toNat, by omega⟩
    rw [ho] at hroom hi ⊢
    simp only [List.length_cons, List.length_nil, Int.toNat_natCast] at hroom ⊢
    obtain ⟨h1, h2⟩ := indexByte_some hi.symm
    have hlt : o < s.length := by omega
    have hso : s = s.take o ++ 10 :: s.drop (o + 1) := by
      have e : s[o] = 10 := by
        rw [List.getElem?_eq_getElem hlt] at h1
        exact Option.some.inj h1
      have := List.drop_eq_getElem_cons hlt
      rw [e] at this
      rw [← this, List.take_append_drop]
    refine ⟨trivial, ?_, ?_, ?_⟩
    · have := linesL_line (s.take o) (s.drop (o + 1)) (not10 h2 (by omega))
      rw [← hso] at this
      exact this
    · rw [List.length_drop]; omega
    · rw [List.length_take]; omega
  · rw [if_neg h]
    right
    have hn : indexByte s 10 = -1 := by
      rw [← hi]
      rcases index_spec s [10] with ⟨h1, _⟩ | ⟨i, h1, _⟩
      · exact h1
      · omega
    have h2 := indexByte_none hn
    refine ⟨rfl, linesL_last s ?_ hs, rfl, Nat.le_refl _⟩
    intro b hb
    have := not10 (s := s) (n := s.length) (fun k _ => h2 k) (Nat.le_refl _) b
    rw [List.take_length] at this
    exact this hb
theorem linesC_total : ∀ (t cur : List UInt8), (linesC cur t).length ≤ cur.length + t.length
  | [], cur => by
    unfold linesC
    split
    · simp
    · rename_i h
      have := List.length_pos_iff.2 h
      simp; omega
  | b :: t, cur => by
    unfold linesC
    split
    · have := linesC_total t []
      simp only [List.length_cons, List.length_nil] at *; omega
    · have := linesC_total t (cur ++ [b])
      simp only [List.length_cons, List.length_append, List.length_nil] at *; omega
theorem linesL_count (l : List UInt8) : (linesL l).length ≤ l.length := by
  have := linesC_total l []
  rw [List.length_nil, Nat.zero_add] at this
  exact this
end Go.Proofs.YtlkabghpcjlohaaDoor
