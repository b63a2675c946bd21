/- Package alpha: Each gives its closure. -/
import Derived.Test.YtlkabghpcjlohaaX5
namespace Go.Proofs.Ytlkabghpcjlohaa
set_option linter.unusedVariables false
set_option linter.unusedSimpArgs false
open Go.RowKit Go.Lib Go.Shelf

theorem Each_any (p : Nat) (s : ByteArray) (w : World) :
    Calls Try.prog 62 #[.pointer (some ⟨p, 0, none⟩), .string s] w fun e w' => e = .returned (.func (.func 95) #[] #[.pointer (some ⟨w.heap.size, 0, none⟩), .pointer (some ⟨w.heap.size + 1, 0, none⟩)]) ∧ w' = (w.alloc (.cells #[.pointer (some ⟨p, 0, none⟩)] 48)).alloc (.cells #[.string s] 9) := by
  go_enter Try.func62, Try.ntmps62
  go_wp2
  go_ret
  exact ⟨rfl, rfl⟩

/-- what split makes of a text: joined again it is the text, sure, and there is a way -/
theorem back_facts {xs : List (List UInt8)} {s : List UInt8} {l : List Nat} (h : splitL xs s = .good l) :
    l.length ≤ 32 ∧ joinB xs (l.map fun (n : Nat) => (n : Int)) = ⟨s.toArray⟩ ∧ joinE xs (l.map fun (n : Nat) => (n : Int)) = 0 ∧ sureB xs (l.map fun (n : Nat) => (n : Int)) = true ∧ 0 < cntL xs s := by
  obtain ⟨h1, h2, h3⟩ := split_join xs 32 s [] l h (by simp)
  rw [List.length_nil] at h2
  rw [joinC_nil, List.nil_append] at h1
  have hok : okCells xs.length (l.map fun (n : Nat) => (n : Int)) = true := by
    rw [okCells_iff]
    intro c hc
    obtain ⟨i, hi, rfl⟩ := List.mem_map.1 hc
    have := h3 i hi
    omega
  have hj : joinI xs (l.map fun (n : Nat) => (n : Int)) = s := by
    unfold joinI
    rw [List.map_map, ← h1]
    congr 1
    exact (List.map_congr_left (fun x _ => by simp)).trans (List.map_id _)
  refine ⟨by omega, ?_, ?_, ?_, split_cnt xs 32 s [] l h⟩
  · unfold joinB; rw [if_pos hok, hj]
  · unfold joinE; rw [if_pos hok]
  · unfold sureB; rw [hok, hj, h]; simp
end Go.Proofs.Ytlkabghpcjlohaa
