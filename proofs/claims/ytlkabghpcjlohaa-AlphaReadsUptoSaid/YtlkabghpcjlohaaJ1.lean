/- What the laws of the alphabet share: letters' sizes. -/
import Derived.Test.YtlkabghpcjlohaaH9
import Derived.Test.YtlkabghpcjlohaaP4
namespace Go.Proofs.Ytlkabghpcjlohaa
set_option linter.unusedVariables false
set_option linter.unusedSimpArgs false
open Go.RowKit Go.Lib

theorem Good.sz {xs : List (List UInt8)} (h : Good xs) : ∀ x ∈ xs, x ≠ [] ∧ x.length ≤ 12 := by
  intro x hx
  obtain ⟨i, hi, rfl⟩ := List.mem_iff_getElem.1 hx
  have := (h.all i hi).1
  rw [nm_lt hi] at this
  exact ⟨right_ne this, right_size this⟩
theorem Good.sz2 {xs : List (List UInt8)} (h : Good xs) : ∀ x ∈ xs, x.length ≤ 12 := fun x hx => (h.sz x hx).2
theorem flat_sz {xs : List (List UInt8)} (z : xs.flatten.length + xs.length ≤ 1048576) : ∀ x ∈ xs, x.length ≤ 17592186044416 := fun x hx => by have := flat_mem_le _ _ hx; omega
theorem okCells_back {n : Nat} {cs : List Int} : (cs.map fun z => z.toNat).map (fun (n : Nat) => (n : Int)) = cs ∨ okCells n cs = false := by
  cases h : okCells n cs with
  | false => exact .inr rfl
  | true =>
    refine .inl ?_
    rw [List.map_map]
    have hc := okCells_iff.1 h
    conv => rhs; rw [← List.map_id cs]
    exact List.map_congr_left fun c hm => by have := (hc c hm).1; simp only [Function.comp, id]; omega
theorem Below.next3 {B : Nat} {w a b : World} (h : Below B w a) (hB : B ≤ w.heap.size) (k : Below a.heap.size a b) : Below B w b := h.trans (k.mono (by have := h.size; omega))
end Go.Proofs.Ytlkabghpcjlohaa
