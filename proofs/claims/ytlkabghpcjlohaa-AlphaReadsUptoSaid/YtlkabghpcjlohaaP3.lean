/- Plain Lean: a text's words (the pieces between runes of a kind), and that the library's spans are these. -/
import Derived.Test.YtlkabghpcjlohaaP2
import Derived.Lib.FieldsP
namespace Go.Proofs.Ytlkabghpcjlohaa
set_option linter.unusedVariables false
set_option linter.unusedSimpArgs false
open Go.Lib

def wordsC (p : Nat → Bool) : List UInt8 → List (Nat × List UInt8) → List (List UInt8)
  | cur, [] => if cur = [] then [] else [cur]
  | cur, c :: cs => if p c.1 then (if cur = [] then wordsC p [] cs else cur :: wordsC p [] cs) else wordsC p (cur ++ c.2) cs

theorem spans_words (p : Nat → Bool) (s : ByteArray) : ∀ (f pos : Nat) (st : Option Nat) (acc : List (Nat × Nat)), s.size ≤ pos + f → pos ≤ s.size → (∀ a, st = some a → a < pos) →
    ((closeSpans s (spansFromP p s f pos st acc)).map fun x => (s.extract x.1 x.2).data.toList) =
      (acc.map fun x => (s.extract x.1 x.2).data.toList) ++ wordsC p (match st with | some a => (s.data.toList.drop a).take (pos - a) | none => []) (chop (s.data.toList.drop pos))
  | f, pos, st, acc, hf, hp, hst => by
    have hsz : s.data.toList.length = s.size := (size_eq s).symm
    by_cases hlt : pos < s.size
    · obtain ⟨f, rfl⟩ : ∃ k, f = k + 1 := ⟨f - 1, by omega⟩
      have hne : s.data.toList.drop pos ≠ [] := by
        intro h0
        have := congrArg List.length h0
        rw [List.length_drop, hsz] at this; simp at this; omega
      have hwd := wd_pos (s.data.toList.drop pos)
      have hwl := wd_le _ hne
      rw [List.length_drop, hsz] at hwl
      have ed : Utf8.decode s pos = (rn (s.data.toList.drop pos), wd (s.data.toList.drop pos)) := (decodeL_drop s pos).symm
      rw [chop_ne hne, List.drop_drop]
      unfold spansFromP
      rw [if_pos hlt, ed]
      simp only [wordsC]
      by_cases hpr : p (rn (s.data.toList.drop pos)) = true
      · rw [if_pos hpr, if_pos hpr]
        cases st with
        | none =>
          simp only
          rw [spans_words p s f _ none acc (by omega) (by omega) (by intro a h; cases h), if_pos trivial]
        | some a =>
          have ha := hst a rfl
          have hcur : (s.data.toList.drop a).take (pos - a) ≠ [] := by
            intro h0
            have := congrArg List.length h0
            rw [List.length_take, List.length_drop, hsz] at this; simp at this; omega
          simp only
          rw [spans_words p s f _ none _ (by omega) (by omega) (by intro a h; cases h), if_neg hcur, List.map_append, List.append_assoc]
          congr 1
          simp only [List.map_cons, List.map_nil, List.cons_append, List.nil_append]
          congr 1
          exact extract_data s a pos
      · rw [if_neg hpr, if_neg hpr]
        cases st with
        | none =>
          simp only
          rw [spans_words p s f _ (some pos) acc (by omega) (by omega) (by intro a h; cases h; omega)]
          simp only [List.nil_append, Nat.add_sub_cancel_left]
        | some a =>
          have ha := hst a rfl
          simp only
          rw [spans_words p s f _ (some a) acc (by omega) (by omega) (by intro b h; cases h; omega)]
          congr 2
          simp only
          have e1 : pos + wd (s.data.toList.drop pos) - a = (pos - a) + wd (s.data.toList.drop pos) := by omega
          rw [e1, List.take_add, List.drop_drop, show a + (pos - a) = pos by omega]
    · obtain rfl : pos = s.size := by omega
      rw [spansFromP_end p s f _ st acc hlt, List.drop_of_length_le (by omega)]
      unfold closeSpans
      cases st with
      | none => simp [wordsC, chop_nil]
      | some a =>
        have ha := hst a rfl
        have hcur : (s.data.toList.drop a).take (s.size - a) ≠ [] := by
          intro h0
          have := congrArg List.length h0
          rw [List.length_take, List.length_drop, hsz] at this; simp at this; omega
        simp only [List.map_append, List.map_cons, List.map_nil, wordsC, chop_nil, if_neg hcur]
        congr 1
        congr 1
        exact extract_data s a s.size
def wordsP (p : Nat → Bool) (l : List UInt8) : List (List UInt8) := wordsC p [] (chop l)
theorem fields_words (p : Nat → Bool) (s : ByteArray) : (goFieldsP p s).map (fun x => x.data.toList) = wordsP p s.data.toList := by
  have := spans_words p s s.size 0 none [] (by omega) (by omega) (by intro a h; cases h)
  unfold goFieldsP spansOfP
  rw [List.map_map]
  rw [List.drop_zero] at this
  exact this
end Go.Proofs.Ytlkabghpcjlohaa
