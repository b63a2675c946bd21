/- Rows with slices of whole numbers: what the argument reads, as a list. -/
import Derived.Test.YtlkabghpcjlohaaR1
namespace Go.Proofs.Ytlkabghpcjlohaa
set_option linter.unusedVariables false
set_option linter.unusedSimpArgs false
open Go.ChangeShapes Go.WideShapes Go.ChangeAt Go.RowKit Go.WideElems Go.Lib

set_option maxRecDepth 100000 in
theorem open_intsl {H : Type} {enc : TypeId × Value → H} {W : World} {b0 b1 : Nat} {sp : Nat → Bool} {held : Bool} {r : Reach} {t e : TypeId} {v : Value} {d : DataW H} {ps : List MemPlace} (ht : Try.prog.underlying t = some (.slice e)) (he : Try.prog.underlying e = some (.int .i64)) (hc : Try.prog.cellsOf e = 1)
    (hval : Value.okWide Try.prog W r b1 t v) (h : DataW.Trod enc Try.prog W b0 sp held t v d ps) :
    ∃ l : List Int, (∀ x ∈ l, -9223372036854775808 ≤ x ∧ x ≤ 9223372036854775807) ∧ Sl W W.heap.size v (l.map (Value.int .i64)) ∧ l.length ≤ Rows.uptoBulk d := by
  obtain ⟨a, len, cap, rfl⟩ := okWide_slice ht hval
  obtain ⟨fuel, hf⟩ := h
  rcases open_ints ht he hc hf with ⟨hcs, hx⟩ | ⟨a', len', cap', zs, hcs, _, hl, hm, hz, hx, hcell, hwf⟩
  · rw [cells_slice] at hcs
    injection hcs with h1 _
    rw [h1]
    exact ⟨[], by simp, Sl.nil_ _ _, by simp⟩
  · rw [cells_slice] at hcs
    injection hcs with h1 _
    have hd := congrArg Prod.fst hx
    simp only at hd
    have hle : len' ≤ zs.length := by rw [hz]; split <;> omega
    have hln : (zs.take len').length = len' := by rw [List.length_take]; omega
    refine ⟨zs.take len', ?_, ?_, ?_⟩
    · intro x hx2
      have := bounds_i64 (hwf x (List.mem_of_mem_take hx2))
      omega
    · refine ⟨some a', cap', by rw [h1]; simp; omega, by simp; omega, fun hpos => ⟨a', rfl, ?_, ?_⟩⟩
      · have h0 : 0 < zs.length := by
          rw [List.length_map, hln] at hpos; omega
        have := lt_heap (hcell 0 h0)
        rwa [block_add] at this
      · intro j u hu
        simp only [List.getElem?_map, Option.map_eq_some_iff] at hu
        obtain ⟨z, hs, rfl⟩ := hu
        have hj : j < zs.length := by
          have := (List.getElem?_eq_some_iff.1 hs).1
          rw [List.length_take] at this; omega
        have hs2 : zs[j]? = some z := by
          rw [List.getElem?_take] at hs
          split at hs
          · exact hs
          · cases hs
        rw [hcell j hj, List.getD, hs2]
        rfl
    · rw [hd]
      simp only [Rows.uptoBulk]
      have := bulk_lits (H := H) .i64 (zs.take len')
      omega
end Go.Proofs.Ytlkabghpcjlohaa
