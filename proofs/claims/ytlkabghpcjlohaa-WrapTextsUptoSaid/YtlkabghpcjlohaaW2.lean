/- Plain Lean: the lines are the words; no way has fewer lines. -/
import Derived.Test.YtlkabghpcjlohaaW1
namespace Go.Proofs.Ytlkabghpcjlohaa
set_option linter.unusedVariables false
set_option linter.unusedSimpArgs false
open Go.Lib

theorem word_no32 {p : Nat → Bool} (hp : p 32 = true) {w : List UInt8} (h : ∀ c ∈ chop w, p c.1 = false) : (32 : UInt8) ∉ w := by
  intro hm
  obtain ⟨a, t, rfl⟩ := List.append_of_mem hm
  have e : (32 : UInt8).toNat = 32 := by decide
  have := h ((32 : UInt8).toNat, [32]) (by rw [chop_before 32 (by decide)]; simp)
  rw [e] at this
  simp only at this
  rw [hp] at this
  exact absurd this (by decide)
theorem cols_join (a b : List UInt8) : colsL (a ++ 32 :: b) = colsL a + 1 + colsL b := by
  have e : colW (((32 : UInt8).toNat : Nat) : Int) = 1 := by decide
  rw [colsL_eq, chop_before 32 (by decide), colsC_append, colsC_cons, e, colsL_eq, colsL_eq]
  omega
def wideR (rs : List Nat) : Nat := (rs.filter fun (r : Nat) => decide (0 < colW (r : Int))).length
def wideL (l : List UInt8) : Nat := wideR (runes l)
def wideC (cs : List (Nat × List UInt8)) : Nat := wideR (cs.map (·.1))
theorem wideC_cons (c : Nat × List UInt8) (cs : List (Nat × List UInt8)) : wideC (c :: cs) = (if 0 < colW (c.1 : Int) then 1 else 0) + wideC cs := by
  unfold wideC wideR
  rw [List.map_cons, List.filter_cons]
  by_cases h : 0 < colW (c.1 : Int)
  · rw [if_pos h, if_pos (by simpa using h), List.length_cons]; omega
  · rw [if_neg h, if_neg (by simpa using h)]; omega
theorem fit0_wide : ∀ cs : List (Nat × List UInt8), wideC (fitC 0 cs) = 0
  | [] => rfl
  | c :: cs => by
    unfold fitC
    split
    · rename_i h
      have e : colW (c.1 : Int) = 0 := by omega
      rw [wideC_cons, e, if_neg (by omega)]
      have := fit0_wide cs
      simpa using this
    · rfl
theorem fit2_wide : ∀ cs : List (Nat × List UInt8), colsC (fitC 1 cs) = 0 → colsC (fitC 2 cs) = 2 → wideC (fitC 2 cs) = 1
  | [], _, h => by simp [fitC, colsC, colsR] at h
  | c :: cs, h1, h2 => by
    have hw := colW_le (c.1 : Int)
    unfold fitC at h1 h2 ⊢
    rw [if_pos (by omega)] at h2 ⊢
    rw [colsC_cons] at h2
    rw [wideC_cons]
    rcases (show colW (c.1 : Int) = 0 ∨ colW (c.1 : Int) = 1 ∨ colW (c.1 : Int) = 2 by omega) with e | e | e
    · rw [if_pos (by omega), colsC_cons, e] at h1
      rw [e] at h2 ⊢
      rw [if_neg (by omega)]
      have := fit2_wide cs (by simpa using h1) (by simpa using h2)
      simpa using this
    · rw [if_pos (by omega), colsC_cons, e] at h1
      omega
    · rw [e, if_pos (by omega)]
      have := fit0_wide cs
      have e0 : (2 : Int) - ((2 : Nat) : Int) = 0 := by omega
      rw [e0, this]
theorem piece_wide (w : List UInt8) (width : Int) (h1 : 1 ≤ width) : (colsL (pieceL w width) : Int) ≤ width ∨ wideL (pieceL w width) = 1 := by
  unfold pieceL
  split
  · exact .inl (cols_fit w width (by omega))
  · rename_i h0
    have h2 := cols_fit w 2 (by omega)
    by_cases hlt : width < (colsL (fitL w 2) : Int)
    · right
      obtain rfl : width = 1 := by omega
      have e2 : colsL (fitL w 2) = 2 := by omega
      have e1 : colsL (fitL w 1) = 0 := by omega
      rw [colsL_eq, chop_fit] at e1 e2
      have := fit2_wide _ e1 e2
      unfold wideL runes
      rw [chop_fit]
      exact this
    · exact .inl (by omega)

def okLine (width : Int) (x : List UInt8) : Prop := x ≠ [] ∧ x.head? ≠ some 32 ∧ x.getLast? ≠ some 32 ∧ ((colsL x : Int) ≤ width ∨ wideL x = 1)
theorem okLine_of {width : Int} {x : List UInt8} (h0 : x ≠ []) (h : (32 : UInt8) ∉ x) (h2 : (colsL x : Int) ≤ width ∨ wideL x = 1) : okLine width x := by
  refine ⟨h0, fun e => h ?_, fun e => h (List.mem_of_getLast? e), h2⟩
  cases x with
  | nil => simp at e
  | cons a t => simp at e; subst e; exact List.mem_cons_self ..
theorem cuts_flat (width : Int) (h1 : 0 ≤ width) : ∀ (n : Nat) (w : List UInt8), w.length ≤ n → (cuts width w).1.flatten ++ (cuts width w).2 = w
  | 0, w, h => by
    have : w = [] := List.length_eq_zero_iff.1 (by omega)
    subst this
    simp [cuts, cutsF]
  | n + 1, w, h => by
    by_cases hc : width < colsL w
    · have hp := piece_pos w width hc h1
      have hpre := piece_prefix w width
      have := cuts_flat width h1 n (w.drop (pieceL w width).length) (by rw [List.length_drop]; omega)
      rw [cuts_step h1 hc]
      simp only [List.flatten_cons, List.append_assoc]
      rw [this]
      conv => lhs; lhs; rw [hpre]
      exact List.take_append_drop _ _
    · rw [cuts_done hc]; simp
theorem cuts_ok (width : Int) (h1 : 1 ≤ width) : ∀ (n : Nat) (w : List UInt8), w.length ≤ n → (∀ x ∈ (cuts width w).1, x ≠ [] ∧ ((colsL x : Int) ≤ width ∨ wideL x = 1)) ∧ (colsL (cuts width w).2 : Int) ≤ width
  | 0, w, h => by
    have : w = [] := List.length_eq_zero_iff.1 (by omega)
    subst this
    simp [cuts, cutsF, colsL_nil]; omega
  | n + 1, w, h => by
    by_cases hc : width < colsL w
    · have hp := piece_pos w width hc (by omega)
      have ih := cuts_ok width h1 n (w.drop (pieceL w width).length) (by rw [List.length_drop]; omega)
      rw [cuts_step (by omega) hc]
      refine ⟨?_, ih.2⟩
      intro x hx
      rcases List.mem_cons.1 hx with rfl | hx
      · exact ⟨List.length_pos_iff.1 hp, piece_wide w width h1⟩
      · exact ih.1 x hx
    · rw [cuts_done hc]
      simp; omega

def sans (l : List UInt8) : List UInt8 := l.filter fun b => decide (b ≠ 32)
theorem sans_id {l : List UInt8} (h : (32 : UInt8) ∉ l) : sans l = l := by
  apply List.filter_eq_self.2
  intro a ha
  simp only [ne_eq, decide_not, Bool.not_eq_true', decide_eq_false_iff_not]
  rintro rfl; exact h ha
theorem optL_flat (l : List UInt8) : (optL l).flatten = l := by
  unfold optL
  split
  · rename_i h; rw [h]; rfl
  · simp

def InvW (width : Int) (st : List (List UInt8) × List UInt8) (done : List UInt8) : Prop :=
  (∀ x ∈ st.1, okLine width x) ∧ (st.2 ≠ [] → okLine width st.2) ∧ sans (st.1.flatten ++ st.2) = done
theorem step_inv {p : Nat → Bool} (hp : p 32 = true) (width : Int) (h1 : 1 ≤ width) {st : List (List UInt8) × List UInt8} {done w : List UInt8} (hw : isWord p w) (h : InvW width st done) :
    InvW width (stepW width st w) (done ++ w) := by
  obtain ⟨i1, i2, i3⟩ := h
  have hn := word_no32 hp hw.2
  unfold stepW
  split
  · rename_i hc
    have ho := i2 hc.1
    refine ⟨i1, fun _ => ⟨by simp, ?_, ?_, .inl ?_⟩, ?_⟩
    · simp only
      have h2 := ho.2.1
      revert h2
      cases hst : st.2 with
      | nil => exact absurd hst hc.1
      | cons a t => simp
    · simp only
      rw [List.getLast?_append, List.getLast?_cons]
      obtain ⟨a, ha⟩ : ∃ a, w.getLast? = some a := by
        cases hg : w.getLast? with
        | none => exact absurd (List.getLast?_eq_none_iff.1 hg) hw.1
        | some a => exact ⟨a, rfl⟩
      rw [ha]
      simp only [Option.getD_some, Option.some_or, ne_eq, Option.some.injEq]
      rintro rfl
      exact hn (List.mem_of_getLast? ha)
    · simp only
      rw [cols_join]
      have := hc.2
      omega
    · rw [← i3]
      have e := sans_id hn
      simp only [sans, List.filter_append, List.filter_cons] at e ⊢
      rw [e]
      simp
  · have hf := cuts_flat width (by omega) _ w (Nat.le_refl _)
    have hk := cuts_ok width h1 _ w (Nat.le_refl _)
    have hm : ∀ x ∈ (cuts width w).1, (32 : UInt8) ∉ x := fun x hx h32 => hn (by
      rw [← hf]
      exact List.mem_append_left _ (List.mem_flatten.2 ⟨x, hx, h32⟩))
    have hm2 : (32 : UInt8) ∉ (cuts width w).2 := fun h32 => hn (by
      rw [← hf]
      exact List.mem_append_right _ h32)
    refine ⟨?_, fun h0 => okLine_of h0 hm2 (.inl hk.2), ?_⟩
    · intro x hx
      simp only [List.mem_append] at hx
      rcases hx with (hx | hx) | hx
      · exact i1 x hx
      · unfold optL at hx
        split at hx
        · simp at hx
        · rw [List.mem_singleton] at hx
          subst hx
          exact i2 (by assumption)
      · exact okLine_of (hk.1 x hx).1 (hm x hx) (hk.1 x hx).2
    · rw [← i3]
      have e := sans_id hn
      simp only
      rw [List.flatten_append, List.flatten_append, optL_flat, List.append_assoc, hf]
      simp only [sans, List.filter_append] at e ⊢
      rw [e]
theorem fold_inv {p : Nat → Bool} (hp : p 32 = true) (width : Int) (h1 : 1 ≤ width) : ∀ (ws : List (List UInt8)) (st : List (List UInt8) × List UInt8) (done : List UInt8), (∀ w ∈ ws, isWord p w) → InvW width st done →
    InvW width (ws.foldl (stepW width) st) (done ++ ws.flatten)
  | [], st, done, _, h => by simpa using h
  | w :: ws, st, done, hw, h => by
    have := fold_inv hp width h1 ws _ _ (fun x hx => hw x (List.mem_cons_of_mem _ hx)) (step_inv hp width h1 (hw w (List.mem_cons_self ..)) h)
    rw [List.foldl_cons, List.flatten_cons, ← List.append_assoc]
    exact this
theorem wrap_ok {p : Nat → Bool} (hp : p 32 = true) (width : Int) (h1 : 1 ≤ width) (ws : List (List UInt8)) (hw : ∀ w ∈ ws, isWord p w) :
    (∀ x ∈ wrapL width ws, okLine width x) ∧ sans (wrapL width ws).flatten = ws.flatten := by
  have h := fold_inv hp width h1 ws ([], []) [] hw ⟨by simp, by simp, rfl⟩
  obtain ⟨i1, i2, i3⟩ := h
  unfold wrapL wrapS
  constructor
  · intro x hx
    rcases List.mem_append.1 hx with hx | hx
    · exact i1 x hx
    · unfold optL at hx
      split at hx
      · simp at hx
      · rw [List.mem_singleton] at hx
        subst hx
        exact i2 (by assumption)
  · rw [List.flatten_append, optL_flat, i3, List.nil_append]
theorem wrap_total {p : Nat → Bool} (width : Int) (h1 : 0 ≤ width) (ws : List (List UInt8)) (hw : ∀ w ∈ ws, w ≠ []) : (wrapL width ws).length ≤ ws.flatten.length := by
  have := (wrapS_bounds width h1 ws hw ws.length (Nat.le_refl _)).1
  rw [List.take_length] at this
  unfold wrapL
  rw [List.length_append]; exact this

/-! ### no way has fewer lines -/
def linesN (width : Int) (ws : List (List UInt8)) (i : Nat) : Nat := (wrapL width (ws.take i)).length
/-- columns of the first words, one more for each -/
def colSum (ws : List (List UInt8)) (i : Nat) : Nat := ((ws.take i).map fun w => 1 + colsL w).sum
theorem colSum_succ (ws : List (List UInt8)) (i : Nat) (h : i < ws.length) : colSum ws (i + 1) = colSum ws i + 1 + colsL ws[i] := by
  unfold colSum
  rw [List.take_succ_eq_append_getElem h, List.map_append, List.sum_append]
  simp; omega
theorem colSum_mono (ws : List (List UInt8)) (a : Nat) : ∀ b, a ≤ b → b ≤ ws.length → colSum ws a ≤ colSum ws b
  | 0, h, _ => by rw [show a = 0 by omega]; exact Nat.le_refl _
  | b + 1, h, hb => by
    rcases Nat.lt_or_ge b a with h1 | h1
    · rw [show a = b + 1 by omega]; exact Nat.le_refl _
    · have := colSum_mono ws a b h1 (by omega)
      rw [colSum_succ ws b (by omega)]; omega
theorem linesN_zero (width : Int) (ws : List (List UInt8)) : linesN width ws 0 = 0 := by simp [linesN, wrapL, wrapS, optL]
theorem wrap_prefix (width : Int) (ws : List (List UInt8)) (hw : ∀ w ∈ ws, w ≠ []) : ∀ i, i < ws.length → (∀ j (hj : j < ws.length), j ≤ i → (colsL ws[j] : Int) ≤ width) →
    ∃ s, s ≤ i ∧ (wrapS width (ws.take (i + 1))).1.length = linesN width ws s ∧ (wrapS width (ws.take (i + 1))).2 ≠ [] ∧
      (colsL (wrapS width (ws.take (i + 1))).2 : Nat) + 1 + colSum ws s = colSum ws (i + 1) ∧ (colsL (wrapS width (ws.take (i + 1))).2 : Int) ≤ width
  | 0, hi, hc => by
    have e : wrapS width (ws.take (0 + 1)) = ([], ws[0]) := by
      rw [List.take_succ_eq_append_getElem hi, List.take_zero, List.nil_append]
      unfold wrapS
      rw [List.foldl_cons, List.foldl_nil]
      unfold stepW
      rw [if_neg (by simp), cuts_done (by have := hc 0 hi (Nat.le_refl _); omega)]
      simp [optL]
    rw [e]
    refine ⟨0, Nat.le_refl _, ?_, hw _ (List.getElem_mem hi), ?_, hc 0 hi (Nat.le_refl _)⟩
    · simp [linesN_zero]
    · rw [colSum_succ ws 0 hi]; simp [colSum]; omega
  | i + 1, hi, hc => by
    obtain ⟨s, hs, h1, h2, h3, h4⟩ := wrap_prefix width ws hw i (by omega) (fun j hj hji => hc j hj (by omega))
    have hci := hc (i + 1) hi (Nat.le_refl _)
    rw [List.take_succ_eq_append_getElem hi, wrapS_snoc]
    unfold stepW
    split
    · rename_i hcd
      refine ⟨s, by omega, h1, by simp, ?_, ?_⟩
      · simp only
        rw [cols_join, colSum_succ ws (i + 1) hi]; omega
      · simp only
        rw [cols_join]
        have := hcd.2
        omega
    · rw [cuts_done (by omega)]
      refine ⟨i + 1, Nat.le_refl _, ?_, hw _ (List.getElem_mem hi), ?_, hci⟩
      · simp [linesN, wrapL]
      · simp only
        rw [colSum_succ ws (i + 1) hi]; omega
theorem linesN_succ (width : Int) (ws : List (List UInt8)) (hw : ∀ w ∈ ws, w ≠ []) (i : Nat) (hi : i < ws.length) (hc : ∀ j (hj : j < ws.length), j ≤ i → (colsL ws[j] : Int) ≤ width) :
    ∃ s, s ≤ i ∧ linesN width ws (i + 1) = linesN width ws s + 1 ∧ ((colSum ws (i + 1) : Int) - colSum ws s - 1 ≤ width) := by
  obtain ⟨s, hs, h1, h2, h3, h4⟩ := wrap_prefix width ws hw i hi hc
  refine ⟨s, hs, ?_, by omega⟩
  have e : linesN width ws (i + 1) = (wrapS width (ws.take (i + 1))).1.length + 1 := by
    unfold linesN wrapL
    rw [List.length_append]
    unfold optL
    rw [if_neg h2]; rfl
  rw [e, h1]
/-- what a step does: the line stays and grows, or a new one begins at the word -/
theorem linesN_step (width : Int) (ws : List (List UInt8)) (hw : ∀ w ∈ ws, w ≠ []) (k : Nat) : ∀ i, k ≤ i → i ≤ ws.length → (∀ j (hj : j < ws.length), j < i → (colsL ws[j] : Int) ≤ width) →
    (k < i → (colSum ws i : Int) - colSum ws k - 1 ≤ width) →
    (linesN width ws i ≤ linesN width ws k) ∨ (linesN width ws i = linesN width ws k + 1 ∧ (wrapS width (ws.take i)).2 ≠ [] ∧ (colsL (wrapS width (ws.take i)).2 : Int) ≤ (colSum ws i : Int) - colSum ws k - 1)
  | 0, hk, hi, hc, hsp => by
    left
    rw [show k = 0 by omega]; exact Nat.le_refl _
  | i + 1, hk, hi, hc, hsp => by
    rcases Nat.lt_or_ge i k with h0 | h0
    · left
      rw [show k = i + 1 by omega]; exact Nat.le_refl _
    · have hlt : i < ws.length := by omega
      have hs1 := hsp (by omega)
      have hcs := colSum_succ ws i hlt
      have ih := linesN_step width ws hw k i h0 (by omega) (fun j hj hji => hc j hj (by omega)) (fun _ => by omega)
      have hci := hc i hlt (by omega)
      have hmono := colSum_mono ws k i h0 (by omega)
      have eN : ∀ j, linesN width ws j = (wrapS width (ws.take j)).1.length + (optL (wrapS width (ws.take j)).2).length := fun j => by
        unfold linesN wrapL
        rw [List.length_append]
      have hne : ws[i] ≠ [] := hw _ (List.getElem_mem hlt)
      have eS : wrapS width (ws.take (i + 1)) = stepW width (wrapS width (ws.take i)) ws[i] := by
        rw [List.take_succ_eq_append_getElem hlt, wrapS_snoc]
      have o1 : ∀ (l : List UInt8), l ≠ [] → (optL l).length = 1 := fun l hl => by unfold optL; rw [if_neg hl]; rfl
      have hi1 := eN (i + 1)
      have hi0 := eN i
      rw [eS] at hi1 ⊢
      generalize wrapS width (ws.take i) = st at *
      unfold stepW at hi1 ⊢
      by_cases hcd : st.2 ≠ [] ∧ (colsL st.2 : Int) + 1 + colsL ws[i] ≤ width
      · rw [if_pos hcd] at hi1 ⊢
        simp only at hi1 ⊢
        rw [o1 _ (by simp)] at hi1
        rw [o1 _ hcd.1] at hi0
        rcases ih with ih | ⟨ih1, ih2, ih3⟩
        · left; omega
        · right
          refine ⟨by omega, by simp, ?_⟩
          rw [cols_join]
          omega
      · rw [if_neg hcd, cuts_done (by omega)] at hi1 ⊢
        simp only [List.append_nil, List.length_append] at hi1 ⊢
        rw [o1 _ hne] at hi1
        rcases ih with ih | ⟨ih1, ih2, ih3⟩
        · rcases Nat.lt_or_ge (linesN width ws i) (linesN width ws k) with h5 | h5
          · left; omega
          · right
            refine ⟨by omega, hne, ?_⟩
            omega
        · exfalso
          apply hcd
          refine ⟨ih2, ?_⟩
          omega
theorem linesN_le (width : Int) (ws : List (List UInt8)) (hw : ∀ w ∈ ws, w ≠ []) (k i : Nat) (hk : k < i) (hi : i ≤ ws.length) (hc : ∀ j (hj : j < ws.length), j < i → (colsL ws[j] : Int) ≤ width)
    (hsp : (colSum ws i : Int) - colSum ws k - 1 ≤ width) : linesN width ws i ≤ linesN width ws k + 1 := by
  rcases linesN_step width ws hw k i (by omega) hi hc (fun _ => hsp) with h | h
  · omega
  · omega
theorem linesN_top (width : Int) (ws : List (List UInt8)) (hw : ∀ w ∈ ws, w ≠ []) : ∀ i, i ≤ ws.length → (∀ j (hj : j < ws.length), j < i → (colsL ws[j] : Int) ≤ width) → linesN width ws i ≤ i
  | 0, _, _ => by rw [linesN_zero]; exact Nat.le_refl _
  | i + 1, hi, hc => by
    have hlt : i < ws.length := by omega
    have ih := linesN_top width ws hw i (by omega) (fun j hj hji => hc j hj (by omega))
    have := linesN_le width ws hw i (i + 1) (by omega) hi hc (by
      have := colSum_succ ws i hlt
      have := hc i hlt (by omega)
      omega)
    omega
end Go.Proofs.Ytlkabghpcjlohaa
