/- Plain Lean: a grid's slots, and that a symmetry takes each to one of them. -/
import Derived.Test.YtonibpilbkafnaaZ4
namespace Go.Proofs.Ytonibpilbkafnaa
set_option linter.unusedVariables false
set_option linter.unusedSimpArgs false

def begB (st : Nat → Nat → Option Nat) (i d : Nat) : Bool := (st i (opp d)).isNone && (st i d).isSome
theorem begB_iff {st : Nat → Nat → Option Nat} {i d : Nat} : begB st i d = true ↔ Begins st d i := by
  unfold begB
  rw [Bool.and_eq_true, Option.isNone_iff_eq_none]
  constructor
  · rintro ⟨h1, h2⟩
    exact ⟨h1, fun e => by rw [e] at h2; cases h2⟩
  · rintro ⟨h1, h2⟩
    refine ⟨h1, ?_⟩
    cases h : st i d with
    | none => exact absurd h h2
    | some j => rfl
/-- the slots that begin at a cell -/
def slotsAt (st : Nat → Nat → Option Nat) (n i : Nat) : List (List Nat) := ([0, 1].filter (begB st i)).map fun d => gath st d n i
/-- the slots of the cells ahead of one -/
def slotsTo (st : Nat → Nat → Option Nat) (n i : Nat) : List (List Nat) := ((List.range i).map (slotsAt st n)).flatten
theorem slotsTo_succ (st : Nat → Nat → Option Nat) (n i : Nat) : slotsTo st n (i + 1) = slotsTo st n i ++ slotsAt st n i := by
  unfold slotsTo
  rw [List.range_succ, List.map_append, List.flatten_append]
  simp
theorem mem_slots {st : Nat → Nat → Option Nat} {n : Nat} {s : List Nat} : s ∈ slotsTo st n n ↔ ∃ i d, i < n ∧ d < 2 ∧ Begins st d i ∧ s = gath st d n i := by
  unfold slotsTo slotsAt
  rw [List.mem_flatten]
  constructor
  · rintro ⟨l, hl, hs⟩
    obtain ⟨i, hi, rfl⟩ := List.mem_map.1 hl
    obtain ⟨d, hd, rfl⟩ := List.mem_map.1 hs
    obtain ⟨hd1, hd2⟩ := List.mem_filter.1 hd
    refine ⟨i, d, List.mem_range.1 hi, ?_, begB_iff.1 hd2, rfl⟩
    simp at hd1
    omega
  · rintro ⟨i, d, hi, hd, hb, rfl⟩
    refine ⟨_, List.mem_map.2 ⟨i, List.mem_range.2 hi, rfl⟩, List.mem_map.2 ⟨d, List.mem_filter.2 ⟨?_, begB_iff.2 hb⟩, rfl⟩⟩
    simp
    omega
theorem gath_lt {h w d : Nat} {B R D : Nat → Bool} (hd : d < 2) : ∀ (f i : Nat), i < h * w → ∀ c ∈ gath (stW h w B R D) d f i, c < h * w
  | 0, i, hi, c, hc => by
    unfold gath at hc
    rw [List.mem_singleton.1 hc]; exact hi
  | f + 1, i, hi, c, hc => by
    unfold gath at hc
    cases hs : stW h w B R D i d with
    | none => rw [hs] at hc; rw [List.mem_singleton.1 hc]; exact hi
    | some j =>
      rw [hs] at hc
      rcases List.mem_cons.1 hc with rfl | hc
      · exact hi
      · exact gath_lt hd f j (st_up hd hs).2 c hc
/-- what is found for each slot -/
theorem slot_found {h w k : Nat} {B R D : Nat → Bool} (hs : SymG h w k B R D) {s : List Nat} (hm : s ∈ slotsTo (stW h w B R D) (h * w) (h * w)) :
    ∃ o ∈ slotsTo (stW h w B R D) (h * w) (h * w), o.length = s.length ∧ ∀ c ∈ o, ∃ x ∈ s, c = sigW h w k x := by
  obtain ⟨i, d, hi, hd, hb, rfl⟩ := mem_slots.1 hm
  obtain ⟨i', d', h1, h2, h3, h4⟩ := slots_sym hs hd hi hb
  refine ⟨_, mem_slots.2 ⟨i', d', h2, h1, h3, rfl⟩, ?_, ?_⟩
  · rcases h4 with h4 | h4 <;> rw [h4] <;> simp
  · intro c hc
    have hc' : c ∈ (gath (stW h w B R D) d (h * w) i).map (sigW h w k) := by
      rcases h4 with h4 | h4
      · rw [h4] at hc; exact hc
      · rw [h4] at hc; exact List.mem_reverse.1 hc
    obtain ⟨x, hx, rfl⟩ := List.mem_map.1 hc'
    exact ⟨x, hx, rfl⟩
theorem slot_lt {h w : Nat} {B R D : Nat → Bool} {s : List Nat} (hm : s ∈ slotsTo (stW h w B R D) (h * w) (h * w)) : ∀ c ∈ s, c < h * w := by
  obtain ⟨i, d, hi, hd, hb, rfl⟩ := mem_slots.1 hm
  exact gath_lt hd _ _ hi
end Go.Proofs.Ytonibpilbkafnaa
