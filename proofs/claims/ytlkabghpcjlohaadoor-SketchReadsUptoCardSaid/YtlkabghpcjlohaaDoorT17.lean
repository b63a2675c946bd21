/- The reference of layer 5: Blank. -/
import Derived.Test.YtlkabghpcjlohaaDoorT16
import Derived.BigRegion
import Derived.Deep.OwnRows
namespace Go.Proofs.YtlkabghpcjlohaaDoor
set_option linter.unusedVariables false
set_option linter.unusedSimpArgs false
open Go.RowKit Go.Lib

/-- three new rows of false -/
structure Rows3 (w : World) (n : Nat) (a b d : Nat) (w' : World) : Prop where
  below : Below w.heap.size w w'
  la : w.heap.size < a
  lb : w.heap.size < b
  ld : w.heap.size < d
  ab : a ≠ b
  ad : a ≠ d
  bd : b ≠ d
  oa : w'.heap[a]? = some (.cells (madeCells #[.bool false] n) 4 (0, 0))
  ob : w'.heap[b]? = some (.cells (madeCells #[.bool false] n) 4 (0, 0))
  od : w'.heap[d]? = some (.cells (madeCells #[.bool false] n) 4 (0, 0))

theorem rows3 (w : World) (n : Nat) (X : Obj) (a b d : Nat) (ha : a = w.heap.size + 1 ∨ a = w.heap.size + 2 ∨ a = w.heap.size + 3) (hb : b = w.heap.size + 1 ∨ b = w.heap.size + 2 ∨ b = w.heap.size + 3) (hd : d = w.heap.size + 1 ∨ d = w.heap.size + 2 ∨ d = w.heap.size + 3) (ab : a ≠ b) (ad : a ≠ d) (bd : b ≠ d) :
    Rows3 w n a b d ((((w.alloc X).alloc (.cells (madeCells #[.bool false] n) 4)).alloc (.cells (madeCells #[.bool false] n) 4)).alloc (.cells (madeCells #[.bool false] n) 4)).drew := by
  have hx : ∀ k, k = w.heap.size + 1 ∨ k = w.heap.size + 2 ∨ k = w.heap.size + 3 → ((((w.alloc X).alloc (.cells (madeCells #[.bool false] n) 4)).alloc (.cells (madeCells #[.bool false] n) 4)).alloc (.cells (madeCells #[.bool false] n) 4)).drew.heap[k]? = some (.cells (madeCells #[.bool false] n) 4 (0, 0)) := by
    intro k hk
    show ((((w.alloc X).alloc (.cells (madeCells #[.bool false] n) 4)).alloc (.cells (madeCells #[.bool false] n) 4)).alloc (.cells (madeCells #[.bool false] n) 4)).heap[k]? = _
    rcases hk with rfl | rfl | rfl
    · rw [Below.heap_alloc _ _ _ (by simp), Below.heap_alloc _ _ _ (by simp)]
      have := World.alloc_heap_new (w.alloc X) (.cells (madeCells #[.bool false] n) 4)
      rw [World.size_alloc] at this
      exact this
    · rw [Below.heap_alloc _ _ _ (by simp)]
      have := World.alloc_heap_new ((w.alloc X).alloc (.cells (madeCells #[.bool false] n) 4)) (.cells (madeCells #[.bool false] n) 4)
      rw [World.size_alloc, World.size_alloc] at this
      exact this
    · have := World.alloc_heap_new (((w.alloc X).alloc (.cells (madeCells #[.bool false] n) 4)).alloc (.cells (madeCells #[.bool false] n) 4)) (.cells (madeCells #[.bool false] n) 4)
      rw [World.size_alloc, World.size_alloc, World.size_alloc] at this
      exact this
  exact ⟨(((((Below.refl _ w).alloc (Nat.le_refl _) _).alloc (by simp) _).alloc (by simp; omega) _).alloc (by simp; omega) _).drew, by omega, by omega, by omega, ab, ad, bd, hx a ha, hx b hb, hx d hd⟩
theorem results_grid2 {fn : Func} {p u : Tmp} (h : fn.results = #[.cell p 45, .tmp u]) (tmps : Array Value) (W : World) (g : Nat) (t : TypeId) (c0 c1 c2 c3 c4 : Value) (fr : Nat × Nat)
    (hp : tmps.getD p undef = .pointer (some ⟨g, 0, none⟩)) (hg : W.heap[g]? = some (.cells #[c0, c1, c2, c3, c4] t fr)) :
    (results fn tmps).run Tryd.prog W = .ok (.tuple #[.agg #[c0, c1, c2, c3, c4], tmps.getD u undef]) W := by
  have hp' : tmps[p]?.getD undef = .pointer (some ⟨g, 0, none⟩) := by simpa using hp
  have hl := run_loadVar_row (P := Tryd.prog) W g t 45 _ fr _ hg Tryd.underlying45 rfl (by kernel_rfl)
  simp [results, h, hp', asAddr, hl]
theorem first_alloc4 (w : World) (X Y : Obj) : ((((w.alloc X).alloc Y).alloc Y).alloc Y).drew.heap[w.heap.size]? = some X := by
  show ((((w.alloc X).alloc Y).alloc Y).alloc Y).heap[w.heap.size]? = _
  rw [Below.heap_alloc _ _ _ (by simp; omega), Below.heap_alloc _ _ _ (by simp; omega), Below.heap_alloc _ _ _ (by simp)]
  exact World.alloc_heap_new w X

set_option maxHeartbeats 16000000 in
set_option maxRecDepth 100000 in
theorem refBlank_any (h c n : Nat) (w : World) (h1 : 1 ≤ h) (h2 : h ≤ 16) (c1 : 1 ≤ c) (c2 : c ≤ 16) (hn : h * c = n) :
    Calls Tryd.prog 57 #[.int .i64 (h : Int), .int .i64 (c : Int)] w fun e w' => ∃ a b d, e = .returned (.tuple #[.agg #[.int .i64 (h : Int), .int .i64 (c : Int), .slice (some ⟨a, 0, none⟩) n n, .slice (some ⟨b, 0, none⟩) n n, .slice (some ⟨d, 0, none⟩) n n], .int .i64 0]) ∧ Rows3 w n a b d w' := by
  have hn2 : n ≤ 256 := by rw [← hn]; exact Nat.mul_le_mul h2 c2
  have kw : (h : Int) * (c : Int) = (n : Int) := by rw [← hn]; push_cast; rfl
  have e1 : sideB (h : Int) = true := sideB_iff.2 ⟨by omega, by omega⟩
  have e2 : sideB (c : Int) = true := sideB_iff.2 ⟨by omega, by omega⟩
  have cH := fun W => refSide_any (h : Int) W
  have cC := fun W => refSide_any (c : Int) W
  rw [e1] at cH
  rw [e2] at cC
  have CH := Lib.hid cH; have CC := Lib.hid cC
  have hmk := run_make_row' (P := Tryd.prog) 43 4 (.bool false) 1 Tryd.underlying43 infoBool rfl .i64 .i64 n (by omega) (by omega)
  clear cH cC e1 e2 hn
  go_enter Tryd.func57, Tryd.ntmps57
  go_wp2_with (go_at_call 75; (first | with_reducible refine (CH.out _).mono ?_ | with_reducible refine (CC.out _).mono ?_); rintro e w' ⟨rfl, rfl⟩)
  go_region
  all_goals go_wp2
  all_goals refine bodyPost_ret (results_grid2 Tryd.results57 _ _ w.heap.size 45 _ _ _ _ _ (0, 0) rfl (first_alloc4 w _ _)) rfl ⟨_, _, _, rfl, rows3 w n _ _ _ _ (by omega) (by omega) (by omega) (by omega) (by omega) (by omega)⟩
end Go.Proofs.YtlkabghpcjlohaaDoor
