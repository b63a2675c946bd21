/- Plain Lean: the slots, each with its way; how they are gathered. -/
import Derived.Test.YtonibpilbkafnaaO7
namespace Go.Proofs.Ytonibpilbkafnaa
set_option linter.unusedVariables false
set_option linter.unusedSimpArgs false

theorem gath_more {st : Nat → Nat → Option Nat} {d n i j f : Nat} (hup : ∀ i j, st i d = some j → i < j ∧ j < n) (hs : st i d = some j) (hf : n ≤ i + f + 1) : ∃ f', n ≤ j + f' + 1 ∧ gath st d f i = i :: gath st d f' j := by
  obtain ⟨h1, h2⟩ := hup i j hs
  obtain ⟨f', rfl⟩ : ∃ f', f = f' + 1 := ⟨f - 1, by omega⟩
  refine ⟨f', by omega, ?_⟩
  show (match st i d with | none => [i] | some j => i :: gath st d f' j) = _
  rw [hs]
theorem gath_stop {st : Nat → Nat → Option Nat} {d i f : Nat} (hs : st i d = none) : gath st d f i = [i] := by
  cases f with
  | zero => rfl
  | succ f =>
    show (match st i d with | none => [i] | some j => i :: gath st d f j) = _
    rw [hs]
/-- what was gathered, and what is still to come -/
def GInv (st : Nat → Nat → Option Nat) (d n i0 : Nat) (pre : List Nat) (i : Nat) : Prop := ∃ f, n ≤ i + f + 1 ∧ gath st d n i0 = pre ++ (gath st d f i).tail
theorem GInv.start (st : Nat → Nat → Option Nat) (d n i0 : Nat) : GInv st d n i0 [i0] i0 := by
  refine ⟨n, by omega, ?_⟩
  obtain ⟨l, hl⟩ := gath_cons st d n i0
  rw [hl]; rfl
theorem GInv.go {st : Nat → Nat → Option Nat} {d n i0 i j : Nat} {pre : List Nat} (hup : ∀ i j, st i d = some j → i < j ∧ j < n) (h : GInv st d n i0 pre i) (hs : st i d = some j) : GInv st d n i0 (pre ++ [j]) j := by
  obtain ⟨f, hf, e⟩ := h
  obtain ⟨f', hf', e'⟩ := gath_more hup hs hf
  refine ⟨f', hf', ?_⟩
  obtain ⟨l, hl⟩ := gath_cons st d f' j
  rw [e, e', hl]
  simp
theorem GInv.stop {st : Nat → Nat → Option Nat} {d n i0 i : Nat} {pre : List Nat} (h : GInv st d n i0 pre i) (hs : st i d = none) : gath st d n i0 = pre := by
  obtain ⟨f, hf, e⟩ := h
  rw [e, gath_stop hs]
  simp
/-- one cell's slots of one way -/
def slotW (st : Nat → Nat → Option Nat) (n i d : Nat) : List (Bool × List Nat) := if begB st i d then [(decide (d = 1), gath st d n i)] else []
/-- the slots of the cells ahead of one, each with its way -/
def slotsL (st : Nat → Nat → Option Nat) (n : Nat) : Nat → List (Bool × List Nat)
  | 0 => []
  | i + 1 => slotsL st n i ++ slotW st n i 0 ++ slotW st n i 1
theorem slotsL_to (st : Nat → Nat → Option Nat) (n : Nat) : ∀ i, (slotsL st n i).map (·.2) = slotsTo st n i
  | 0 => rfl
  | i + 1 => by
    rw [slotsTo_succ, ← slotsL_to st n i]
    show (slotsL st n i ++ slotW st n i 0 ++ slotW st n i 1).map (·.2) = _
    unfold slotsAt slotW
    rw [List.map_append, List.map_append, List.append_assoc]
    congr 1
    cases h0 : begB st i 0 <;> cases h1 : begB st i 1 <;> simp [h0, h1]
theorem begB_no1 {st : Nat → Nat → Option Nat} {i d j : Nat} (h : st i (opp d) = some j) : begB st i d = false := by unfold begB; rw [h]; rfl
theorem begB_no2 {st : Nat → Nat → Option Nat} {i d : Nat} (h : st i d = none) : begB st i d = false := by unfold begB; rw [h]; simp
theorem begB_yes {st : Nat → Nat → Option Nat} {i d j : Nat} (h : st i (opp d) = none) (h2 : st i d = some j) : begB st i d = true := by unfold begB; rw [h, h2]; rfl
end Go.Proofs.Ytonibpilbkafnaa
