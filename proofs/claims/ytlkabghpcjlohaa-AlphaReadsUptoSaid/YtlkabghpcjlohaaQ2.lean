/- Package alpha: the comparison that New hands to the sort. -/
import Derived.Test.YtlkabghpcjlohaaS1
import Derived.Deep.QuietTactic
namespace Go.Proofs.Ytlkabghpcjlohaa
set_option linter.unusedVariables false
set_option linter.unusedSimpArgs false
open Go.RowKit Go.Lib

set_option maxHeartbeats 1000000 in
set_option maxRecDepth 100000 in
theorem cmp_any (i j : Nat) (xs : List (List UInt8)) (B Bs : Nat) (v : Value) (w : World) (hbox : w.cell? ⟨B, 0, none⟩ = some v) (hv : Sl w Bs v (strs xs)) (hi : i < xs.length) (hj : j < xs.length) (hz : ∀ x ∈ xs, x.length ≤ 17592186044416) :
    Calls Try.prog 85 #[.int .i64 (i : Nat), .int .i64 (j : Nat), .pointer (some ⟨B, 0, none⟩)] w fun e w' => e = .returned (.int .i64 (((xs[j]'hj).length : Int) - ((xs[i]'hi).length : Int))) ∧ ∃ n, w' = w.drewN n := by
  have hzi := hz _ (List.getElem_mem hi)
  have hzj := hz _ (List.getElem_mem hj)
  obtain ⟨A, c, rfl, hc, hA⟩ := hv
  rw [List.length_map] at hbox hc hA
  obtain ⟨ad, rfl, hlt, hcell⟩ : ∃ ad, A = some ad ∧ ad.block < Bs ∧ ∀ k (hk : k < xs.length), w.cell? (ad.add k) = some (.string ⟨(xs[k]'hk).toArray⟩) := by
    obtain ⟨ad, e, hb, hcl⟩ := hA (by simpa using (by omega : 0 < xs.length))
    refine ⟨ad, e, hb, fun k hk => hcl k _ ?_⟩
    rw [List.getElem?_map, List.getElem?_eq_getElem hk]; rfl
  have g1 := hcell i hi
  have g2 := hcell j hj
  have i1 : (i : Int) < (xs.length : Int) := by omega
  have j1 : (j : Int) < (xs.length : Int) := by omega
  go_enter Try.func85, Try.ntmps85
  go_wp2
  go_quiet (fail)
  go_wp2
  go_ret
  refine ⟨ret_i ?_, nq, rfl⟩
  go_num
end Go.Proofs.Ytlkabghpcjlohaa
