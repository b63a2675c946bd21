/- Rows with slices: what the argument reads, as a list. -/
import Derived.Test.YtlkabghpcjlohaaR0
import Derived.Test.YtlkabghpcjlohaaS1
import Derived.ChangeSlices
import Derived.SliceStrings
namespace Go.Proofs.Ytlkabghpcjlohaa
set_option linter.unusedVariables false
set_option linter.unusedSimpArgs false
open Go.ChangeShapes Go.WideShapes Go.ChangeAt Go.RowKit Go.WideElems Go.Lib

theorem cells_slice (a : Option Addr) (n c : Nat) : (Value.slice a n c).cells.toList = [.slice a n c] := rfl
theorem bulk_strs {H : Type} : ∀ ss : List ByteArray, (ss.map ByteArray.size).sum + ss.length ≤ Rows.uptoBulkAll (ChangeShapes.strs ss : List (DataW H))
  | [] => by simp
  | s :: ss => by
    have := bulk_strs (H := H) ss
    have e : (ChangeShapes.strs (s :: ss) : List (DataW H)) = .lit (.string s.data.toList) :: ChangeShapes.strs ss := rfl
    have hs := Lib.size_eq s
    rw [e]
    simp only [Rows.uptoBulkAll, Rows.uptoBulk, List.map_cons, List.sum_cons, List.length_cons]
    omega
theorem bulk_lits {H : Type} (k : IntKind) : ∀ zs : List Int, zs.length ≤ Rows.uptoBulkAll (ChangeShapes.lits k zs : List (DataW H))
  | [] => by simp
  | z :: zs => by
    have := bulk_lits (H := H) k zs
    have e : (ChangeShapes.lits k (z :: zs) : List (DataW H)) = .lit (.int k z) :: ChangeShapes.lits k zs := rfl
    rw [e]
    simp only [Rows.uptoBulkAll, Rows.uptoBulk, List.length_cons]
    omega

theorem lt_heap {w : World} {a : Addr} {v : Value} (h : w.cell? a = some v) : a.block < w.heap.size := by
  rcases Nat.lt_or_ge a.block w.heap.size with h1 | h1
  · exact h1
  · simp [World.cell?, Array.getElem?_eq_none h1] at h
set_option maxRecDepth 100000 in
theorem open_strs {H : Type} {enc : TypeId × Value → H} {W : World} {b0 b1 : Nat} {sp : Nat → Bool} {held : Bool} {r : Reach} {t e : TypeId} {v : Value} {d : DataW H} {ps : List MemPlace} (ht : Try.prog.underlying t = some (.slice e)) (he : Try.prog.underlying e = some .string) (hc : Try.prog.cellsOf e = 1)
    (hval : Value.okWide Try.prog W r b1 t v) (h : DataW.Trod enc Try.prog W b0 sp held t v d ps) :
    ∃ l : List (List UInt8), Sl W W.heap.size v (l.map fun x => Value.string ⟨x.toArray⟩) ∧ l.flatten.length + l.length ≤ Rows.uptoBulk d := by
  obtain ⟨a, len, cap, rfl⟩ := okWide_slice ht hval
  obtain ⟨fuel, hf⟩ := h
  rcases open_strings ht he hc hf with ⟨hcs, hx⟩ | ⟨a', len', cap', ss, hcs, _, hl, hm, hz, hx, hcell, hsz⟩
  · rw [cells_slice] at hcs
    injection hcs with h1 _
    rw [h1]
    exact ⟨[], Sl.nil_ _ _, by simp⟩
  · rw [cells_slice] at hcs
    injection hcs with h1 _
    have hd := congrArg Prod.fst hx
    simp only at hd
    have hle : len' ≤ ss.length := by rw [hz]; split <;> omega
    have hln : (ss.take len').length = len' := by rw [List.length_take]; omega
    refine ⟨(ss.take len').map fun s => s.data.toList, ?_, ?_⟩
    · refine ⟨some a', cap', by rw [h1]; simp; omega, by simp; omega, fun hpos => ⟨a', rfl, ?_, ?_⟩⟩
      · have h0 : 0 < ss.length := by
          rw [List.length_map, List.length_map, hln] at hpos; omega
        have := lt_heap (hcell 0 h0)
        rwa [block_add] at this
      · intro j u hu
        simp only [List.map_map, List.getElem?_map, Option.map_eq_some_iff] at hu
        obtain ⟨s, hs, rfl⟩ := hu
        have hj : j < ss.length := by
          have := (List.getElem?_eq_some_iff.1 hs).1
          rw [List.length_take] at this; omega
        have hs2 : ss[j]? = some s := by
          rw [List.getElem?_take] at hs
          split at hs
          · exact hs
          · cases hs
        rw [hcell j hj, List.getD, hs2]
        rfl
    · rw [hd]
      simp only [Rows.uptoBulk]
      have := bulk_strs (H := H) (ss.take len')
      have e : (((ss.take len').map fun s => s.data.toList).flatten).length = ((ss.take len').map ByteArray.size).sum := by
        rw [List.length_flatten, List.map_map]
        congr 1
      rw [e, List.length_map]
      omega

set_option maxRecDepth 100000 in
theorem open_bytes {H : Type} {enc : TypeId × Value → H} {W : World} {b0 b1 : Nat} {sp : Nat → Bool} {held : Bool} {r : Reach} {t e : TypeId} {v : Value} {d : DataW H} {ps : List MemPlace} (ht : Try.prog.underlying t = some (.slice e)) (he : Try.prog.underlying e = some (.int .u8)) (hc : Try.prog.cellsOf e = 1)
    (hval : Value.okWide Try.prog W r b1 t v) (h : DataW.Trod enc Try.prog W b0 sp held t v d ps) :
    ∃ l : List Nat, (∀ x ∈ l, x < 256) ∧ Sl W W.heap.size v (l.map fun (x : Nat) => Value.int .u8 (x : Int)) ∧ l.length ≤ Rows.uptoBulk d := by
  obtain ⟨a, len, cap, rfl⟩ := okWide_slice ht hval
  obtain ⟨fuel, hf⟩ := h
  rcases open_ints ht he hc hf with ⟨hcs, hx⟩ | ⟨a', len', cap', zs, hcs, _, hl, hm, hz, hx, hcell, hwf⟩
  · rw [cells_slice] at hcs
    injection hcs with h1 _
    rw [h1]
    exact ⟨[], by simp, Sl.nil_ _ _, by simp⟩
  · rw [cells_slice] at hcs
    injection hcs with h1 _
    have hd := congrArg Prod.fst hx
    simp only at hd
    have hle : len' ≤ zs.length := by rw [hz]; split <;> omega
    have hln : (zs.take len').length = len' := by rw [List.length_take]; omega
    have hb : ∀ z ∈ zs, 0 ≤ z ∧ z < 256 := by
      intro z hzm
      have := bounds_u8 (hwf z hzm)
      omega
    refine ⟨(zs.take len').map Int.toNat, ?_, ?_, ?_⟩
    · intro x hx2
      obtain ⟨z, hz2, rfl⟩ := List.mem_map.1 hx2
      have := hb z (List.mem_of_mem_take hz2); omega
    · refine ⟨some a', cap', by rw [h1]; simp; omega, by simp; omega, fun hpos => ⟨a', rfl, ?_, ?_⟩⟩
      · have h0 : 0 < zs.length := by
          rw [List.length_map, List.length_map, hln] at hpos; omega
        have := lt_heap (hcell 0 h0)
        rwa [block_add] at this
      · intro j u hu
        simp only [List.map_map, List.getElem?_map, Option.map_eq_some_iff] at hu
        obtain ⟨z, hs, rfl⟩ := hu
        have hj : j < zs.length := by
          have := (List.getElem?_eq_some_iff.1 hs).1
          rw [List.length_take] at this; omega
        have hs2 : zs[j]? = some z := by
          rw [List.getElem?_take] at hs
          split at hs
          · exact hs
          · cases hs
        have hz0 := hb z (List.mem_of_getElem? hs2)
        rw [hcell j hj, List.getD, hs2]
        simp only [Option.getD_some, Function.comp]
        rw [Int.toNat_of_nonneg hz0.1]
    · rw [hd]
      simp only [Rows.uptoBulk]
      have := bulk_lits (H := H) .u8 (zs.take len')
      rw [List.length_map]
      omega
end Go.Proofs.Ytlkabghpcjlohaa
