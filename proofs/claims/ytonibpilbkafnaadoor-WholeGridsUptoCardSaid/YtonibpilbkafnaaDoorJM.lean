/- Joined texts: O20: walks and plain laws for this seat's program, each stated where it stands; conditions: as each states. -/
import Derived.Test.YtonibpilbkafnaaDoorJI
import Derived.BigRegion
/- The reference of layer 5: Blank; the drawn grid of the tops. -/
namespace Go.Proofs.YtonibpilbkafnaaDoor
set_option linter.unusedVariables false
set_option linter.unusedSimpArgs false
open Go.RowKit Go.Lib

theorem rows3 (w : World) (n : Nat) (X : Obj) (a b d : Nat) (ha : a = w.heap.size + 1 ∨ a = w.heap.size + 2 ∨ a = w.heap.size + 3) (hb : b = w.heap.size + 1 ∨ b = w.heap.size + 2 ∨ b = w.heap.size + 3) (hd : d = w.heap.size + 1 ∨ d = w.heap.size + 2 ∨ d = w.heap.size + 3) (ab : a ≠ b) (ad : a ≠ d) (bd : b ≠ d) :
    Rows3 w n a b d ((((w.alloc X).alloc (.cells (madeCells #[.bool false] n) 4)).alloc (.cells (madeCells #[.bool false] n) 4)).alloc (.cells (madeCells #[.bool false] n) 4)).drew := by
  have hx : ∀ k, k = w.heap.size + 1 ∨ k = w.heap.size + 2 ∨ k = w.heap.size + 3 → ((((w.alloc X).alloc (.cells (madeCells #[.bool false] n) 4)).alloc (.cells (madeCells #[.bool false] n) 4)).alloc (.cells (madeCells #[.bool false] n) 4)).drew.heap[k]? = some (.cells (madeCells #[.bool false] n) 4 (0, 0)) := by
    intro k hk
    show ((((w.alloc X).alloc (.cells (madeCells #[.bool false] n) 4)).alloc (.cells (madeCells #[.bool false] n) 4)).alloc (.cells (madeCells #[.bool false] n) 4)).heap[k]? = _
    rcases hk with rfl | rfl | rfl
    · rw [Below.heap_alloc _ _ _ (by simp), Below.heap_alloc _ _ _ (by simp)]
      have := World.alloc_heap_new (w.alloc X) (.cells (madeCells #[.bool false] n) 4)
      rw [World.size_alloc] at this
      exact this
    · rw [Below.heap_alloc _ _ _ (by simp)]
      have := World.alloc_heap_new ((w.alloc X).alloc (.cells (madeCells #[.bool false] n) 4)) (.cells (madeCells #[.bool false] n) 4)
      rw [World.size_alloc, World.size_alloc] at this
      exact this
    · have := World.alloc_heap_new (((w.alloc X).alloc (.cells (madeCells #[.bool false] n) 4)).alloc (.cells (madeCells #[.bool false] n) 4)) (.cells (madeCells #[.bool false] n) 4)
      rw [World.size_alloc, World.size_alloc, World.size_alloc] at this
      exact this
  exact ⟨(((((Below.refl _ w).alloc (Nat.le_refl _) _).alloc (by simp) _).alloc (by simp; omega) _).alloc (by simp; omega) _).drew, by omega, by omega, by omega, ab, ad, bd, hx a ha, hx b hb, hx d hd⟩
theorem first_alloc4 (w : World) (X Y : Obj) : ((((w.alloc X).alloc Y).alloc Y).alloc Y).drew.heap[w.heap.size]? = some X := by
  show ((((w.alloc X).alloc Y).alloc Y).alloc Y).heap[w.heap.size]? = _
  rw [Below.heap_alloc _ _ _ (by simp; omega), Below.heap_alloc _ _ _ (by simp; omega), Below.heap_alloc _ _ _ (by simp)]
  exact World.alloc_heap_new w X

set_option maxHeartbeats 16000000 in
set_option maxRecDepth 100000 in
theorem refBlank_any (h c n : Nat) (w : World) (h1 : 1 ≤ h) (h2 : h ≤ 16) (c1 : 1 ≤ c) (c2 : c ≤ 16) (hn : h * c = n) :
    Calls Tryd.prog 16 #[.int .i64 (h : Int), .int .i64 (c : Int)] w fun e w' => ∃ a b d, e = .returned (.tuple #[.agg #[.int .i64 (h : Int), .int .i64 (c : Int), .slice (some ⟨a, 0, none⟩) n n, .slice (some ⟨b, 0, none⟩) n n, .slice (some ⟨d, 0, none⟩) n n], .int .i64 0]) ∧ Rows3 w n a b d w' := by
  have hn2 : n ≤ 256 := by rw [← hn]; exact Nat.mul_le_mul h2 c2
  have kw : (h : Int) * (c : Int) = (n : Int) := by rw [← hn]; push_cast; rfl
  have e1 : sideB (h : Int) = true := sideB_iff.2 ⟨by omega, by omega⟩
  have e2 : sideB (c : Int) = true := sideB_iff.2 ⟨by omega, by omega⟩
  have cH := fun W => refSide_any (h : Int) W
  have cC := fun W => refSide_any (c : Int) W
  rw [e1] at cH
  rw [e2] at cC
  have CH := Lib.hid cH; have CC := Lib.hid cC
  have hmk := run_make_row' (P := Tryd.prog) 25 4 (.bool false) 1 Tryd.underlying25 infoBoolZ rfl .i64 .i64 n (by omega) (by omega)
  clear cH cC e1 e2 hn
  go_enter Tryd.func16, Tryd.ntmps16
  go_wp2_with (go_at_call 34; (first | with_reducible refine (CH.out _).mono ?_ | with_reducible refine (CC.out _).mono ?_); rintro e w' ⟨rfl, rfl⟩)
  go_region
  all_goals go_wp2
  all_goals refine bodyPost_ret (results_grid2 Tryd.results16 _ _ w.heap.size 27 _ _ _ _ _ (0, 0) rfl (first_alloc4 w _ _)) rfl ⟨_, _, _, rfl, rows3 w n _ _ _ _ (by omega) (by omega) (by omega) (by omega) (by omega) (by omega)⟩

theorem results_gridc {fn : Func} {p : Tmp} (h : fn.results = #[.cell p 27]) (tmps : Array Value) (W : World) (g : Nat) (t : TypeId) (c0 c1 c2 c3 c4 : Value) (fr : Nat × Nat)
    (hp : tmps.getD p undef = .pointer (some ⟨g, 0, none⟩)) (hg : W.heap[g]? = some (.cells #[c0, c1, c2, c3, c4] t fr)) :
    (results fn tmps).run Tryd.prog W = .ok (.agg #[c0, c1, c2, c3, c4]) W := by
  have hp' : tmps[p]?.getD undef = .pointer (some ⟨g, 0, none⟩) := by simpa using hp
  have hl := run_loadVar_row (P := Tryd.prog) W g t 27 _ fr _ hg Tryd.underlying27 rfl (by kernel_rfl)
  simp [results, h, hp', asAddr, hl]
def blankG (h c : Nat) : Gd := ⟨h, c, List.replicate (h * c) false, List.replicate (h * c) false, List.replicate (h * c) false⟩
set_option maxHeartbeats 8000000 in
set_option maxRecDepth 100000 in
theorem blank_any (h c : Nat) (w : World) (h1 : 1 ≤ h) (h2 : h ≤ 16) (c1 : 1 ≤ c) (c2 : c ≤ 16) :
    Calls Tryd.prog 5 #[.int .i64 (h : Int), .int .i64 (c : Int)] w fun e w' => ∃ u, e = .returned u ∧ GdAt w' w'.heap.size u (blankG h c) ∧ Below w.heap.size w w' := by
  have hm : h * c ≤ 256 := Nat.mul_le_mul h2 c2
  obtain ⟨n, hn⟩ : ∃ n, h * c = n := ⟨_, rfl⟩
  have cb := fun W => refBlank_any h c n W h1 h2 c1 c2 hn
  have CB := Lib.hid cb; clear cb
  have HN := Lib.hid hn
  rw [hn] at hm
  clear hn
  go_enter Tryd.func5, Tryd.ntmps5
  go_wp2_with fail
  refine (CB.out _).mono ?_
  rintro e w1 ⟨a, b, d, rfl, hr⟩
  have hb1 := hr.below
  have er := (hb1.block w.heap.size (by simp)).trans (World.alloc_heap_new w (.cells #[.int .i64 0, .int .i64 0, .slice none 0 0, .slice none 0 0, .slice none 0 0] 27))
  have y0 : w1.cell? ⟨w.heap.size, 0, none⟩ = some (.int .i64 0) := Lib.cell_of_heap er 0
  have y1 : w1.cell? ⟨w.heap.size, 1, none⟩ = some (.int .i64 0) := Lib.cell_of_heap er 1
  have y2 : w1.cell? ⟨w.heap.size, 2, none⟩ = some (.slice none 0 0) := Lib.cell_of_heap er 2
  have y3 : w1.cell? ⟨w.heap.size, 3, none⟩ = some (.slice none 0 0) := Lib.cell_of_heap er 3
  have y4 : w1.cell? ⟨w.heap.size, 4, none⟩ = some (.slice none 0 0) := Lib.cell_of_heap er 4
  have x0 : w1.frozen? ⟨w.heap.size, 0, none⟩ = false := Lib.frozen_of_heap er 0
  have x1 : w1.frozen? ⟨w.heap.size, 1, none⟩ = false := Lib.frozen_of_heap er 1
  have x2 : w1.frozen? ⟨w.heap.size, 2, none⟩ = false := Lib.frozen_of_heap er 2
  have x3 : w1.frozen? ⟨w.heap.size, 3, none⟩ = false := Lib.frozen_of_heap er 3
  have x4 : w1.frozen? ⟨w.heap.size, 4, none⟩ = false := Lib.frozen_of_heap er 4
  have l1 : w.heap.size < w1.heap.size := (Array.getElem?_eq_some_iff.1 er).1
  have HBW : Hid (Below w.heap.size w w1) := Lib.hid (((Below.refl _ w).alloc (Nat.le_refl _) _).trans (hb1.mono (by simp)))
  have HR := Lib.hid hr; have ER := Lib.hid er
  clear hr hb1 er
  go_wp2_with fail
  have hf := HR.out.fill hm
  have la := HR.out.la; have lb := HR.out.lb; have ld := HR.out.ld
  simp only [World.size_alloc] at la lb ld
  have gg := stored5 (.int .i64 (h : Int)) (.int .i64 (c : Int)) (.slice (some ⟨a, 0, none⟩) n n) (.slice (some ⟨b, 0, none⟩) n n) (.slice (some ⟨d, 0, none⟩) n n) ER.out
  have oa := own5o hf.oa (show a ≠ w.heap.size by omega) (.int .i64 (h : Int)) (.int .i64 (c : Int)) (.slice (some ⟨a, 0, none⟩) n n) (.slice (some ⟨b, 0, none⟩) n n) (.slice (some ⟨d, 0, none⟩) n n)
  have ob := own5o hf.ob (show b ≠ w.heap.size by omega) (.int .i64 (h : Int)) (.int .i64 (c : Int)) (.slice (some ⟨a, 0, none⟩) n n) (.slice (some ⟨b, 0, none⟩) n n) (.slice (some ⟨d, 0, none⟩) n n)
  have od := own5o hf.od (show d ≠ w.heap.size by omega) (.int .i64 (h : Int)) (.int .i64 (c : Int)) (.slice (some ⟨a, 0, none⟩) n n) (.slice (some ⟨b, 0, none⟩) n n) (.slice (some ⟨d, 0, none⟩) n n)
  have bb := below5 (x0 := (.int .i64 (h : Int))) (x1 := (.int .i64 (c : Int))) (x2 := (.slice (some ⟨a, 0, none⟩) n n)) (x3 := (.slice (some ⟨b, 0, none⟩) n n)) (x4 := (.slice (some ⟨d, 0, none⟩) n n)) HBW.out (Nat.le_refl w.heap.size)
  clear y0 y1 y2 y3 y4 x0 x1 x2 x3 x4
  generalize (((((w1.setCell ⟨w.heap.size, 0, none⟩ (.int .i64 (h : Int))).setCell ⟨w.heap.size, 1, none⟩ (.int .i64 (c : Int))).setCell ⟨w.heap.size, 2, none⟩ (.slice (some ⟨a, 0, none⟩) n n)).setCell ⟨w.heap.size, 3, none⟩ (.slice (some ⟨b, 0, none⟩) n n)).setCell ⟨w.heap.size, 4, none⟩ (.slice (some ⟨d, 0, none⟩) n n)) = W5 at *
  have l5 := (Array.getElem?_eq_some_iff.1 gg).1
  have b5 := fun X => (Below.refl W5.heap.size W5).alloc (Nat.le_refl _) X
  refine bodyPost_ret (results_gridc Tryd.results5 _ _ w.heap.size 27 _ _ _ _ _ (0, 0) rfl ((Below.heap_alloc _ _ _ l5).trans gg)) rfl ⟨_, rfl, ?_, bb.alloc (Below.size bb) _⟩
  have hnn := HN.out
  subst hnn
  exact ⟨by simp only [blankG]; omega, by simp only [blankG]; omega, _, _, _, rfl, Sl.of_own (own_belowS oa (b5 _)), Sl.of_own (own_belowS ob (b5 _)), Sl.of_own (own_belowS od (b5 _))⟩
end Go.Proofs.YtonibpilbkafnaaDoor
