/- Plain Lean: the merge of two sorted neighbours by a cut, a turn and two smaller merges. -/
import Derived.Test.YtlkabghpcjlohaaA1
namespace Go.Proofs.Ytlkabghpcjlohaa
set_option linter.unusedVariables false
set_option linter.unusedSimpArgs false

/-- rising by a key -/
def srt (f : Nat → Int) (l : List Nat) : Prop := l.Pairwise fun x y => f x ≤ f y
theorem srt_append {f : Nat → Int} {a b : List Nat} : srt f (a ++ b) ↔ srt f a ∧ srt f b ∧ ∀ x ∈ a, ∀ y ∈ b, f x ≤ f y := List.pairwise_append
theorem srt_last {f : Nat → Int} {a : List Nat} (h : srt f a) {x z : Nat} (hx : x ∈ a) (hz : a.getLast? = some z) : f x ≤ f z := by
  obtain ⟨ys, rfl⟩ := List.getLast?_eq_some_iff.1 hz
  rcases List.mem_append.1 hx with h1 | h1
  · exact (srt_append.1 h).2.2 x h1 z (List.mem_singleton.2 rfl)
  · rw [List.mem_singleton] at h1; subst h1; exact Int.le_refl _
theorem srt_head {f : Nat → Int} {a : List Nat} (h : srt f a) {x z : Nat} (hx : x ∈ a) (hz : a.head? = some z) : f z ≤ f x := by
  cases a with
  | nil => simp at hz
  | cons c t =>
    simp only [List.head?_cons, Option.some.injEq] at hz
    subst hz
    rcases List.mem_cons.1 hx with rfl | h1
    · exact Int.le_refl _
    · exact (List.pairwise_cons.1 h).1 x h1
theorem last_of_mem {a : List Nat} {x : Nat} (h : x ∈ a) : ∃ z, a.getLast? = some z := by
  cases hg : a.getLast? with
  | none => rw [List.getLast?_eq_none_iff.1 hg] at h; simp at h
  | some z => exact ⟨z, rfl⟩
theorem head_of_mem {a : List Nat} {x : Nat} (h : x ∈ a) : ∃ z, a.head? = some z := by
  cases a with
  | nil => simp at h
  | cons c t => exact ⟨c, rfl⟩
/-- two sorted neighbours A, B, each cut in two; the inner two change places; each half is merged: the whole is sorted -/
theorem sym_step (f : Nat → Int) (A1 A2 B1 B2 C1 C2 : List Nat) (hA : srt f (A1 ++ A2)) (hB : srt f (B1 ++ B2))
    (h1 : ∀ x y, A1.getLast? = some x → B2.head? = some y → f x ≤ f y) (h2 : ∀ x y, B1.getLast? = some x → A2.head? = some y → f x ≤ f y)
    (p1 : C1.Perm (A1 ++ B1)) (s1 : srt f C1) (p2 : C2.Perm (A2 ++ B2)) (s2 : srt f C2) : srt f (C1 ++ C2) ∧ (C1 ++ C2).Perm ((A1 ++ A2) ++ (B1 ++ B2)) := by
  obtain ⟨a1, a2, a3⟩ := srt_append.1 hA
  obtain ⟨b1, b2, b3⟩ := srt_append.1 hB
  refine ⟨srt_append.2 ⟨s1, s2, fun x hx y hy => ?_⟩, ?_⟩
  · have hx' := p1.mem_iff.1 hx
    have hy' := p2.mem_iff.1 hy
    rcases List.mem_append.1 hx' with hx1 | hx1 <;> rcases List.mem_append.1 hy' with hy1 | hy1
    · exact a3 x hx1 y hy1
    · obtain ⟨u, hu⟩ := last_of_mem hx1
      obtain ⟨v, hv⟩ := head_of_mem hy1
      have := srt_last a1 hx1 hu
      have := srt_head b2 hy1 hv
      have := h1 u v hu hv
      omega
    · obtain ⟨u, hu⟩ := last_of_mem hx1
      obtain ⟨v, hv⟩ := head_of_mem hy1
      have := srt_last b1 hx1 hu
      have := srt_head a2 hy1 hv
      have := h2 u v hu hv
      omega
    · exact b3 x hx1 y hy1
  · refine (p1.append p2).trans ?_
    rw [List.append_assoc, List.append_assoc]
    refine List.Perm.append_left _ ?_
    rw [← List.append_assoc, ← List.append_assoc]
    exact (List.perm_append_comm).append_right _
/-- one ahead of a sorted list, put where it belongs -/
theorem ins_step (f : Nat → Int) (x : Nat) (B1 B2 : List Nat) (hB : srt f (B1 ++ B2)) (h1 : ∀ y ∈ B1, f y ≤ f x) (h2 : ∀ y ∈ B2, f x ≤ f y) : srt f (B1 ++ x :: B2) := by
  obtain ⟨b1, b2, b3⟩ := srt_append.1 hB
  refine srt_append.2 ⟨b1, List.pairwise_cons.2 ⟨h2, b2⟩, fun y hy z hz => ?_⟩
  rcases List.mem_cons.1 hz with rfl | hz
  · exact h1 y hy
  · exact b3 y hy z hz
end Go.Proofs.Ytlkabghpcjlohaa
