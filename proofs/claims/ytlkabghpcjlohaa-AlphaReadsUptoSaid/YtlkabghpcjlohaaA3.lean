/- Walks of package utf that read the library's tables: Next, Valid; and Places, Cut. -/
import Derived.Test.YtlkabghpcjlohaaA2
set_option linter.unusedVariables false
set_option linter.unusedSimpArgs false
namespace Go.Proofs.Ytlkabghpcjlohaa
open Go.RowKit Go.Lib

theorem bl_extract (s : ByteArray) (a b : Nat) : bl (s.extract a b) = ((bl s).drop a).take (b - a) := extract_data s a b
theorem bl_from (s : ByteArray) (a : Nat) : bl (s.extract a s.size) = (bl s).drop a := by
  rw [bl_extract, List.take_of_length_le]
  rw [List.length_drop, bl_length]; exact Nat.le_refl _
theorem bl_to (s : ByteArray) (b : Nat) : bl (s.extract 0 b) = (bl s).take b := by rw [bl_extract]; simp
theorem bl_inj {s t : ByteArray} (h : bl s = bl t) : s = t := by
  cases s; cases t; simp only [bl] at h
  congr 1
  exact Array.ext' h
theorem bl_mk (l : List UInt8) : bl ⟨l.toArray⟩ = l := rfl


theorem own_iterAt {w : World} {B e size n : Nat} {v : Value} {xs : List Value} (h : w.ownsRow B e size v n xs) {k : Nat} {s : ByteArray} {pos : Nat} (hk : w.heap[k]? = some (.stringIter s pos)) (p' : Nat) :
    (w.iterAt k s p').ownsRow B e size v n xs := by
  refine h.kept (row := some k) ⟨rfl, rfl, rfl, by rw [iterAt_size]; exact Nat.le_refl _, fun j _ hj => iterAt_other w k j s p' (fun e => hj (by rw [e]))⟩ ?_
  rcases h.2 with ⟨rfl, _⟩ | ⟨g, cap, cur, rfl, _, hg, _⟩
  · exact .inl rfl
  · refine .inr ?_
    simp only [Value.ownBlock, ne_eq, Option.some.injEq]
    rintro rfl
    rw [hk] at hg; cases hg
theorem own_ne_iter {w : World} {B e size n : Nat} {v : Value} {xs : List Value} (h : w.ownsRow B e size v n xs) {k : Nat} {s : ByteArray} {pos : Nat} (hk : w.heap[k]? = some (.stringIter s pos)) : some k ≠ v.ownBlock := by
  rcases h.2 with ⟨rfl, _⟩ | ⟨g, cap, cur, rfl, _, hg, _⟩
  · simp [Value.ownBlock]
  · simp only [Value.ownBlock, ne_eq, Option.some.injEq]
    rintro rfl
    rw [hk] at hg; cases hg

theorem infoInt : (Try.prog.info? 3).map (fun i => (i.zero, i.size, i.bytes)) = some (some (.int .i64 0), 1, 8) := by kernel_rfl
theorem infoStr : (Try.prog.info? 9).map (fun i => (i.zero, i.size, i.bytes)) = some (some (.string ⟨#[]⟩), 1, 16) := by kernel_rfl
abbrev ints (l : List Nat) : List Value := l.map fun (n : Nat) => Value.int .i64 (n : Int)

end Go.Proofs.Ytlkabghpcjlohaa
