/- The reader of a sketch: row. -/
import Derived.Test.YtlkabghpcjlohaaDoorT4
namespace Go.Proofs.YtlkabghpcjlohaaDoor
set_option linter.unusedVariables false
set_option linter.unusedSimpArgs false
open Go.RowKit Go.Lib

/-- a reader's block -/
def RdBlk (p : Nat) (h w c : Nat) (b r d : Value) (W : World) : Prop := W.heap[p]? = some (.cells #[.int .i64 (h : Int), .int .i64 (w : Int), b, r, d, .int .i64 (c : Int)] 76 (0, 0))
/-- what row does -/
inductive RowPost (p h w c : Nat) (W : World) : Ending → World → Prop
  | none (h0 : c = 0) : RowPost p h w c W (.returned (.bool true)) W
  | bad (q : Nat) (h0 : c ≠ 0) (h1 : 0 < h) (h2 : c ≠ w) : RowPost p h w c W (.returned (.bool false)) (W.drewN q)
  | good (q : Nat) (h0 : c ≠ 0) (h1 : ¬ (0 < h ∧ c ≠ w)) : RowPost p h w c W (.returned (.bool true)) ((((W.drewN q).setCell ⟨p, 0, none⟩ (.int .i64 ((h : Int) + 1))).setCell ⟨p, 1, none⟩ (.int .i64 (c : Int))).setCell ⟨p, 5, none⟩ (.int .i64 0))
set_option maxHeartbeats 4000000 in
set_option maxRecDepth 100000 in
theorem row_any (p h w c : Nat) (b r d : Value) (W : World) (hp : RdBlk p h w c b r d W) (hh : h ≤ 16) (hw : w ≤ 16) (hc : c ≤ 16) :
    Calls Tryd.prog 54 #[.pointer (some ⟨p, 0, none⟩)] W (RowPost p h w c W) := by
  have p0 := Lib.cell_of_heap hp 0
  have p1 := Lib.cell_of_heap hp 1
  have p5 := Lib.cell_of_heap hp 5
  have f0 := Lib.frozen_of_heap hp 0
  have f1 := Lib.frozen_of_heap hp 1
  have f5 := Lib.frozen_of_heap hp 5
  clear hp
  by_cases h0 : c = 0
  · subst h0
    go_enter Tryd.func54, Tryd.ntmps54
    go_wp2
    go_ret
    exact .none rfl
  · have t0 : ((c : Int) == 0) = false := by simp; omega
    have t0' : ¬ (c : Int) = 0 := by omega
    have H0 := Lib.hid h0; clear h0
    by_cases h1 : 0 < h
    · have t1 : decide (0 < h) = true := decide_eq_true h1
      have t1' : (0 : Int) < (h : Int) := by omega
      have H1 := Lib.hid h1; clear h1
      by_cases h2 : c = w
      · subst h2
        have t2 : ((c : Int) != (c : Int)) = false := by simp
        have t2' : decide ((c : Int) = (c : Int)) = true := by simp
        go_enter Tryd.func54, Tryd.ntmps54
        go_wp2
        go_quiet (fail)
        go_wp2
        go_ret
        exact .good _ H0.out (fun h => h.2 rfl)
      · have t2 : ((c : Int) != (w : Int)) = true := by simp; omega
        have H2 := Lib.hid h2; clear h2
        go_enter Tryd.func54, Tryd.ntmps54
        go_wp2
        go_quiet (fail)
        go_wp2
        go_ret
        exact .bad _ H0.out H1.out H2.out
    · obtain rfl : h = 0 := by omega
      have H1 := Lib.hid h1; clear h1
      go_enter Tryd.func54, Tryd.ntmps54
      go_wp2
      go_quiet (fail)
      go_wp2
      go_ret
      exact .good _ H0.out (fun h => H1.out h.1)
end Go.Proofs.YtlkabghpcjlohaaDoor
