/- Plain Lean: words joined by spaces are the same words; their letters are the text's. -/
import Derived.Test.YtlkabghpcjlohaaP3
namespace Go.Proofs.Ytlkabghpcjlohaa
set_option linter.unusedVariables false
set_option linter.unusedSimpArgs false
open Go.Lib

/-! ### a piece in the middle -/
theorem chop_mid (l : List UInt8) (a b c : List (Nat × List UInt8)) (h : chop l = a ++ b ++ c) : chop (glue b) = b := by
  have h1 := chop_rest l a.length
  rw [h, List.append_assoc, List.take_left, List.drop_left] at h1
  have h2 := chop_first (l.drop (glue a).length) b.length
  rw [h1, List.take_left] at h2
  exact h2
theorem chop_piece (l : List UInt8) : ∀ c ∈ chop l, c.2 ≠ [] := by
  induction l using chop_ind with
  | h0 => intro c hc; simp [chop_nil] at hc
  | h1 l h ih =>
    intro c hc
    rw [chop_ne h] at hc
    rcases List.mem_cons.1 hc with rfl | hc
    · intro h0
      have := congrArg List.length h0
      have := wd_pos l; have := wd_le l h
      simp only [List.length_take, List.length_nil] at *; omega
    · exact ih c hc

/-! ### an ASCII byte ends what stands before it -/
set_option maxRecDepth 100000 in
set_option maxHeartbeats 4000000 in
theorem decodeN_cont (n b0 b1 b2 b3 : Nat) : (1 < (decodeN n b0 b1 b2 b3).2 → 128 ≤ b1) ∧ (2 < (decodeN n b0 b1 b2 b3).2 → 128 ≤ b2) ∧ (3 < (decodeN n b0 b1 b2 b3).2 → 128 ≤ b3) := by
  unfold decodeN
  repeat' split
  all_goals (simp only)
  all_goals omega
theorem wd_cont (l : List UInt8) (h : l ≠ []) (k : Nat) (hk : 1 ≤ k) (hw : k < wd l) : 128 ≤ (l.getD k 0).toNat := by
  have h4 := wd_le4 l h
  unfold wd at hw h4
  rw [decodeL_N] at hw h4
  obtain ⟨c1, c2, c3⟩ := decodeN_cont l.length (l.getD 0 0).toNat (l.getD 1 0).toNat (l.getD 2 0).toNat (l.getD 3 0).toNat
  rcases (show k = 1 ∨ k = 2 ∨ k = 3 by omega) with rfl | rfl | rfl
  · exact c1 hw
  · exact c2 hw
  · exact c3 hw
theorem dec_ascii (w t : List UInt8) (b : UInt8) (hw : w ≠ []) (hb : b.toNat < 128) : decodeL (w ++ b :: t) = decodeL w := by
  have hl : 0 < w.length := List.length_pos_iff.2 hw
  have h1 : wd (w ++ b :: t) ≤ w.length := by
    rcases Nat.lt_or_ge w.length (wd (w ++ b :: t)) with h | h
    · exfalso
      have := wd_cont (w ++ b :: t) (by simp) w.length hl h
      simp [List.getD] at this
      omega
    · exact h
  have := dec_take (w ++ b :: t) w.length hl (by simp) h1
  rw [List.take_left] at this
  exact this.symm
theorem chop_ascii (b : UInt8) (hb : b.toNat < 128) (t : List UInt8) : chop (b :: t) = (b.toNat, [b]) :: chop t := by
  have hd : decodeL (b :: t) = (b.toNat, 1) := by
    rw [decodeL_N]
    unfold decodeN
    simp only [List.getD_cons_zero]
    rw [if_pos hb]
  have h1 : rn (b :: t) = b.toNat := congrArg (·.1) hd
  have h2 : wd (b :: t) = 1 := congrArg (·.2) hd
  rw [chop_ne (by simp), h1, h2]
  rfl
theorem chop_before (b : UInt8) (hb : b.toNat < 128) (t : List UInt8) : ∀ w, chop (w ++ b :: t) = chop w ++ (b.toNat, [b]) :: chop t := by
  intro w
  induction w using chop_ind with
  | h0 => rw [chop_nil, List.nil_append, List.nil_append, chop_ascii b hb]
  | h1 w h ih =>
    have hd := dec_ascii w t b h hb
    have h1 : rn (w ++ b :: t) = rn w := congrArg (·.1) hd
    have h2 : wd (w ++ b :: t) = wd w := congrArg (·.2) hd
    have hle := wd_le w h
    rw [chop_ne (by simp), h1, h2, chop_ne h, List.take_append_of_le_length hle, List.drop_append_of_le_length hle, ih]
    rfl

/-! ### words -/
theorem wordsC_skip (p : Nat → Bool) : ∀ (cs : List (Nat × List UInt8)) (cur : List UInt8) (rest : List (Nat × List UInt8)), (∀ c ∈ cs, p c.1 = false) →
    wordsC p cur (cs ++ rest) = wordsC p (cur ++ glue cs) rest
  | [], cur, rest, _ => by simp [glue]
  | c :: cs, cur, rest, h => by
    have hc := h c (List.mem_cons_self ..)
    have e : glue (c :: cs) = c.2 ++ glue cs := by simp [glue]
    rw [List.cons_append, wordsC, if_neg (by simp [hc]), wordsC_skip p cs _ rest (fun x hx => h x (List.mem_cons_of_mem _ hx)), e, List.append_assoc]

/-- a word: no blank in it, not empty -/
def isWord (p : Nat → Bool) (w : List UInt8) : Prop := w ≠ [] ∧ ∀ c ∈ chop w, p c.1 = false
theorem words_are (p : Nat → Bool) (l : List UInt8) : ∀ (cs cur a : List (Nat × List UInt8)), chop l = a ++ cur ++ cs → (∀ c ∈ cur, p c.1 = false) → ∀ w ∈ wordsC p (glue cur) cs, isWord p w
  | [], cur, a, h, hc, w, hw => by
    unfold wordsC at hw
    split at hw
    · simp at hw
    · rw [List.mem_singleton] at hw
      subst hw
      refine ⟨by assumption, ?_⟩
      rw [chop_mid l a cur [] h]; exact hc
  | c :: cs, cur, a, h, hc, w, hw => by
    unfold wordsC at hw
    have h' : chop l = a ++ (cur ++ [c]) ++ cs := by rw [h]; simp
    have e : glue (cur ++ [c]) = glue cur ++ c.2 := by simp [glue]
    split at hw
    · have ih := words_are p l cs [] (a ++ (cur ++ [c])) (by rw [h']; simp) (by simp)
      have e0 : glue ([] : List (Nat × List UInt8)) = [] := rfl
      rw [e0] at ih
      split at hw
      · exact ih w hw
      · rcases List.mem_cons.1 hw with rfl | hw
        · refine ⟨by assumption, ?_⟩
          rw [chop_mid l a cur (c :: cs) h]; exact hc
        · exact ih w hw
    · rename_i hp
      rw [← e] at hw
      exact words_are p l cs (cur ++ [c]) a h' (by
        intro x hx
        rcases List.mem_append.1 hx with hx | hx
        · exact hc x hx
        · rw [List.mem_singleton] at hx; subst hx; simpa using hp) w hw
theorem words_word (p : Nat → Bool) (l : List UInt8) : ∀ w ∈ wordsP p l, isWord p w := words_are p l (chop l) [] [] (by simp) (by simp)

/-- what is kept of the runes that are no blanks -/
theorem words_flat (p : Nat → Bool) (g : Nat → List UInt8) (hg : ∀ r, p r = true → g r = []) (l : List UInt8) : ∀ (cs cur a : List (Nat × List UInt8)), chop l = a ++ cur ++ cs → (∀ c ∈ cur, p c.1 = false) →
    ((wordsC p (glue cur) cs).map fun w => ((runes w).map g).flatten).flatten = ((cur ++ cs).map fun c => g c.1).flatten
  | [], cur, a, h, hc => by
    unfold wordsC
    have hm := chop_mid l a cur [] h
    split
    · rename_i h0
      have : cur = [] := by rw [h0, chop_nil] at hm; exact hm.symm
      subst this
      simp
    · simp only [List.map_cons, List.map_nil, List.flatten_cons, List.flatten_nil, List.append_nil]
      unfold runes
      rw [hm, List.map_map]; rfl
  | c :: cs, cur, a, h, hc => by
    unfold wordsC
    have h' : chop l = a ++ (cur ++ [c]) ++ cs := by rw [h]; simp
    have e : glue (cur ++ [c]) = glue cur ++ c.2 := by simp [glue]
    have hm := chop_mid l a cur (c :: cs) h
    split
    · rename_i hp
      have ih := words_flat p g hg l cs [] (a ++ (cur ++ [c])) (by rw [h']; simp) (by simp)
      have e0 : glue ([] : List (Nat × List UInt8)) = [] := rfl
      rw [e0] at ih
      split
      · rename_i h0
        have : cur = [] := by rw [h0, chop_nil] at hm; exact hm.symm
        subst this
        rw [ih]; simp [hg _ hp]
      · rw [List.map_cons, List.flatten_cons, ih]
        unfold runes
        rw [hm, List.map_map]
        simp [hg _ hp, Function.comp_def]
    · rename_i hp
      rw [← e, words_flat p g hg l cs (cur ++ [c]) a h' (by
        intro x hx
        rcases List.mem_append.1 hx with hx | hx
        · exact hc x hx
        · rw [List.mem_singleton] at hx; subst hx; simpa using hp)]
      simp
theorem words_letters (p : Nat → Bool) (g : Nat → List UInt8) (hg : ∀ r, p r = true → g r = []) (l : List UInt8) :
    ((wordsP p l).map fun w => ((runes w).map g).flatten).flatten = ((runes l).map g).flatten := by
  have := words_flat p g hg l (chop l) [] [] (by simp) (by simp)
  unfold wordsP
  have e0 : glue ([] : List (Nat × List UInt8)) = [] := rfl
  rw [e0] at this
  rw [this]
  unfold runes
  rw [List.map_map]; rfl
theorem words_size (p : Nat → Bool) : ∀ (cs : List (Nat × List UInt8)) (cur : List UInt8), ((wordsC p cur cs).flatten).length ≤ cur.length + (glue cs).length
  | [], cur => by
    unfold wordsC
    split <;> simp
  | c :: cs, cur => by
    have e : glue (c :: cs) = c.2 ++ glue cs := by simp [glue]
    unfold wordsC
    split
    · have ih := words_size p cs []
      rw [List.length_nil] at ih
      split
      · rw [e, List.length_append]; omega
      · rw [List.flatten_cons, List.length_append, e, List.length_append]; omega
    · have ih := words_size p cs (cur ++ c.2)
      rw [List.length_append] at ih
      rw [e, List.length_append]; omega
theorem words_total (p : Nat → Bool) (l : List UInt8) : ((wordsP p l).flatten).length ≤ l.length := by
  have := words_size p (chop l) []
  rw [glue_chop, List.length_nil, Nat.zero_add] at this
  exact this

/-- words joined by spaces -/
def joinAll : List (List UInt8) → List UInt8
  | [] => []
  | [x] => x
  | x :: y :: ys => x ++ 32 :: joinAll (y :: ys)
theorem joinAll_snoc : ∀ (xs : List (List UInt8)) (y : List UInt8), joinAll (xs ++ [y]) = if xs = [] then y else joinAll xs ++ 32 :: y
  | [], y => rfl
  | [x], y => rfl
  | x :: z :: zs, y => by
    have := joinAll_snoc (z :: zs) y
    rw [if_neg (by simp)] at this
    rw [if_neg (by simp)]
    show x ++ 32 :: joinAll (z :: (zs ++ [y])) = x ++ 32 :: joinAll (z :: zs) ++ 32 :: y
    rw [← List.cons_append, this]
    simp
theorem words_join (p : Nat → Bool) (hp : p 32 = true) : ∀ ws : List (List UInt8), (∀ w ∈ ws, isWord p w) → wordsP p (joinAll ws) = ws
  | [], _ => by simp [joinAll, wordsP, chop_nil, wordsC]
  | [x], h => by
    obtain ⟨h1, h2⟩ := h x (List.mem_cons_self ..)
    have := wordsC_skip p (chop x) [] [] h2
    rw [List.append_nil, glue_chop, List.nil_append] at this
    show wordsC p [] (chop x) = [x]
    rw [this, wordsC, if_neg h1]
  | x :: y :: ys, h => by
    obtain ⟨h1, h2⟩ := h x (List.mem_cons_self ..)
    have ih := words_join p hp (y :: ys) (fun w hw => h w (List.mem_cons_of_mem _ hw))
    have e32 : (32 : UInt8).toNat = 32 := by decide
    show wordsC p [] (chop (x ++ 32 :: joinAll (y :: ys))) = x :: y :: ys
    rw [chop_before 32 (by decide), wordsC_skip p (chop x) [] _ h2, glue_chop, List.nil_append, wordsC, e32, if_pos hp, if_neg h1]
    exact congrArg (x :: ·) ih
theorem joinAll_le : ∀ ws : List (List UInt8), (∀ w ∈ ws, w ≠ []) → (joinAll ws).length ≤ 2 * ws.flatten.length
  | [], _ => by simp [joinAll]
  | [x], _ => by simp [joinAll]; omega
  | x :: y :: ys, h => by
    have ih := joinAll_le (y :: ys) (fun w hw => h w (List.mem_cons_of_mem _ hw))
    have hx := List.length_pos_iff.2 (h x (List.mem_cons_self ..))
    rw [List.flatten_cons, List.length_append]
    show (x ++ 32 :: joinAll (y :: ys)).length ≤ _
    rw [List.length_append, List.length_cons]; omega
theorem flat_take_le (ws : List (List UInt8)) (k : Nat) : ((ws.take k).flatten).length ≤ (ws.flatten).length := by
  have := congrArg List.length (congrArg List.flatten (List.take_append_drop k ws))
  rw [List.flatten_append, List.length_append] at this; omega
theorem flat_mem_le : ∀ (ws : List (List UInt8)) (w : List UInt8), w ∈ ws → w.length ≤ (ws.flatten).length
  | x :: xs, w, h => by
    rw [List.flatten_cons, List.length_append]
    rcases List.mem_cons.1 h with rfl | h
    · omega
    · have := flat_mem_le xs w h; omega
theorem flat_count_le : ∀ (ws : List (List UInt8)), (∀ w ∈ ws, w ≠ []) → ws.length ≤ (ws.flatten).length
  | [], _ => by simp
  | x :: xs, h => by
    have hx := List.length_pos_iff.2 (h x (List.mem_cons_self ..))
    have := flat_count_le xs (fun w hw => h w (List.mem_cons_of_mem _ hw))
    rw [List.flatten_cons, List.length_append, List.length_cons]; omega
end Go.Proofs.Ytlkabghpcjlohaa
