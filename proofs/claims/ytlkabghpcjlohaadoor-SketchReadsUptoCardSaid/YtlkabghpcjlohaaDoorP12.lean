/- Plain Lean: rows of a grid's text: as many, as long as each other; a cell by its number. -/
import Derived.Test.YtlkabghpcjlohaaDoorP10
namespace Go.Proofs.YtlkabghpcjlohaaDoor
set_option linter.unusedVariables false
set_option linter.unusedSimpArgs false

theorem runC_full : ∀ (l : List (Nat × List UInt8)) (p : Nat) (cs : List Cl), runC 16 l p [] = .good cs → cs = []
  | [], p, cs, h => by rw [runC] at h; injection h with h; exact h.symm
  | c :: l, p, cs, h => by
    rw [runC] at h
    have hs : stepC 16 [] p c.1 = .good [] ∨ ∃ a e, stepC 16 [] p c.1 = .bad a e := by
      unfold stepC
      cases sg c.1 with
      | line => exact .inl rfl
      | cell b => exact .inr ⟨p, 50, by simp⟩
      | right => exact .inr ⟨p, 83, rfl⟩
      | below => exact .inr ⟨p, 83, rfl⟩
      | blank => exact .inl rfl
      | none => exact .inr ⟨p, 80, rfl⟩
    rcases hs with hs | ⟨a, e, hs⟩
    · rw [hs] at h
      exact runC_full l _ cs h
    · rw [hs] at h
      cases h
structure Shp (rows : List (List Cl)) : Prop where
  len : rows.length ≤ 16
  row : ∀ r ∈ rows, 1 ≤ r.length ∧ r.length ≤ 16 ∧ r.length = (rows.headD []).length
theorem Shp.nil : Shp [] := ⟨by simp, fun r hr => by cases hr⟩
theorem Shp.snoc {rows : List (List Cl)} {cs : List Cl} (h : Shp rows) (hc : cs ≠ []) (h16 : cs.length ≤ 16) (hl : rows.length < 16) (hw : ¬ (rows ≠ [] ∧ (rows.headD []).length ≠ cs.length)) : Shp (rows ++ [cs]) := by
  have h1 : 1 ≤ cs.length := List.length_pos_iff.2 hc
  refine ⟨by simp; omega, fun r hr => ?_⟩
  cases rows with
  | nil =>
    obtain rfl : r = cs := by simpa using hr
    exact ⟨h1, h16, rfl⟩
  | cons r0 rs =>
    have e : ((r0 :: rs ++ [cs]).headD []) = r0 := rfl
    rw [e]
    rcases List.mem_append.1 hr with hr | hr
    · exact h.row r hr
    · obtain rfl := List.mem_singleton.1 hr
      refine ⟨h1, h16, ?_⟩
      by_cases hh : r0.length = r.length
      · exact hh.symm
      · exact absurd ⟨by simp, hh⟩ hw
theorem flat_at (W : Nat) (hW : 1 ≤ W) : ∀ rows : List (List Cl), (∀ r ∈ rows, r.length = W) → rows.flatten.length = rows.length * W ∧ ∀ i, i < rows.length * W → rows.flatten[i]? = (rows.getD (i / W) [])[i % W]?
  | [], _ => ⟨by simp, fun i hi => by simp at hi⟩
  | r :: rs, h => by
    have hr := h r (List.mem_cons_self ..)
    obtain ⟨i1, i2⟩ := flat_at W hW rs (fun x hx => h x (List.mem_cons_of_mem _ hx))
    refine ⟨by rw [List.flatten_cons, List.length_append, i1, hr, List.length_cons, Nat.add_mul]; omega, fun i hi => ?_⟩
    rw [List.flatten_cons]
    by_cases hlt : i < W
    · rw [List.getElem?_append_left (by omega), Nat.div_eq_of_lt hlt, Nat.mod_eq_of_lt hlt]
      rfl
    · obtain ⟨j, rfl⟩ : ∃ j, i = j + W := ⟨i - W, by omega⟩
      rw [List.length_cons, Nat.add_mul] at hi
      rw [List.getElem?_append_right (by omega), hr, Nat.add_sub_cancel, i2 j (by omega), Nat.add_div_right _ (by omega), Nat.add_mod_right]
      rfl
/-- a row that is being filled -/
def tk (l : List Bool) (n i : Nat) : List Bool := l.take i ++ List.replicate (n - i) false
theorem tk_zero (l : List Bool) (n : Nat) : tk l n 0 = List.replicate n false := by simp [tk]
theorem tk_len (l : List Bool) (n i : Nat) (hl : l.length = n) (hi : i ≤ n) : (tk l n i).length = n := by
  unfold tk
  rw [List.length_append, List.length_take, List.length_replicate]; omega
theorem tk_all (l : List Bool) (n : Nat) (hl : l.length = n) : tk l n n = l := by
  unfold tk
  rw [Nat.sub_self, List.take_of_length_le (by omega)]
  simp
theorem tk_set (l : List Bool) (n i : Nat) (hl : l.length = n) (hi : i < n) (x : Bool) (hx : l[i]? = some x) : (tk l n i).set i x = tk l n (i + 1) := by
  unfold tk
  have h1 : (l.take i).length = i := by rw [List.length_take]; omega
  obtain ⟨k, hk⟩ : ∃ k, n - i = k + 1 := ⟨n - i - 1, by omega⟩
  rw [List.set_append_right _ _ (by omega), h1, Nat.sub_self, hk, List.replicate_succ, List.set_cons_zero, List.take_add_one, hx, show n - (i + 1) = k by omega]
  simp
/-- the grid that rows make is the one that was read -/
theorem grid_rows (rows : List (List Cl)) : gdOf (rdRows rows 0) = ⟨rows.length, (rows.headD []).length, rows.flatten.map (·.1), rows.flatten.map (·.2.1), rows.flatten.map (·.2.2)⟩ := rfl
end Go.Proofs.YtlkabghpcjlohaaDoor
