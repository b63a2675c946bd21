/- Joined texts: O10: walks and plain laws for this seat's program, each stated where it stands; conditions: as each states. -/
import Derived.Test.YtonibpilbkafnaaDoorJE
import Derived.Stop.RegionWithIn
import Derived.Deep.RegionLaw
import Derived.IntWalk
import Derived.Deep.RegionHeld3
/- Package grid: Blank. -/
namespace Go.Proofs.YtonibpilbkafnaaDoor
set_option linter.unusedVariables false
set_option linter.unusedSimpArgs false
open Go.RowKit Go.Lib

theorem infoBoolZ : (Tryd.prog.info? 4).map (fun i => (i.zero, i.size, i.bytes)) = some (some (.bool false), 1, 1) := by kernel_rfl
/-- three new rows of false -/
structure Rows3 (w : World) (n : Nat) (a b d : Nat) (w' : World) : Prop where
  below : Below w.heap.size w w'
  la : w.heap.size < a
  lb : w.heap.size < b
  ld : w.heap.size < d
  ab : a ≠ b
  ad : a ≠ d
  bd : b ≠ d
  oa : w'.heap[a]? = some (.cells (madeCells #[.bool false] n) 4 (0, 0))
  ob : w'.heap[b]? = some (.cells (madeCells #[.bool false] n) 4 (0, 0))
  od : w'.heap[d]? = some (.cells (madeCells #[.bool false] n) 4 (0, 0))
theorem Rows3.fill {w W : World} {n a b d : Nat} (h : Rows3 w n a b d W) (hn : n ≤ 256) : FillAt W a b d n (List.replicate n false) (List.replicate n false) (List.replicate n false) :=
  FillAt.made h.ab h.ad h.bd h.oa h.ob h.od hn
theorem results_grid2 {fn : Func} {p u : Tmp} (h : fn.results = #[.cell p 27, .tmp u]) (tmps : Array Value) (W : World) (g : Nat) (t : TypeId) (c0 c1 c2 c3 c4 : Value) (fr : Nat × Nat)
    (hp : tmps.getD p undef = .pointer (some ⟨g, 0, none⟩)) (hg : W.heap[g]? = some (.cells #[c0, c1, c2, c3, c4] t fr)) :
    (results fn tmps).run Tryd.prog W = .ok (.tuple #[.agg #[c0, c1, c2, c3, c4], tmps.getD u undef]) W := by
  have hp' : tmps[p]?.getD undef = .pointer (some ⟨g, 0, none⟩) := by simpa using hp
  have hl := run_loadVar_row (P := Tryd.prog) W g t 27 _ fr _ hg Tryd.underlying27 rfl (by kernel_rfl)
  simp [results, h, hp', asAddr, hl]
theorem third6 (w : World) (X1 X2 X3 Y : Obj) : ((((((w.alloc X1).alloc X2).alloc X3).alloc Y).alloc Y).alloc Y).drew.heap[w.heap.size + 1 + 1]? = some X3 := by
  show ((((((w.alloc X1).alloc X2).alloc X3).alloc Y).alloc Y).alloc Y).heap[w.heap.size + 1 + 1]? = some X3
  rw [Below.heap_alloc _ _ _ (by simp <;> omega), Below.heap_alloc _ _ _ (by simp <;> omega), Below.heap_alloc _ _ _ (by simp)]
  have := World.alloc_heap_new ((w.alloc X1).alloc X2) X3
  rw [World.size_alloc, World.size_alloc] at this
  exact this
theorem rows6 (w : World) (n : Nat) (X1 X2 X3 : Obj) : Rows3 w n (w.heap.size + 1 + 1 + 1) (w.heap.size + 1 + 1 + 1 + 1) (w.heap.size + 1 + 1 + 1 + 1 + 1) ((((((w.alloc X1).alloc X2).alloc X3).alloc (.cells (madeCells #[.bool false] n) 4)).alloc (.cells (madeCells #[.bool false] n) 4)).alloc (.cells (madeCells #[.bool false] n) 4)).drew := by
  generalize hY : (Obj.cells (madeCells #[.bool false] n) 4 (0, 0)) = Y
  have hb : Below w.heap.size w ((((((w.alloc X1).alloc X2).alloc X3).alloc Y).alloc Y).alloc Y).drew := ((((((((Below.refl _ w).alloc (Nat.le_refl _) _).alloc (by simp) _).alloc (by simp <;> omega) _).alloc (by simp <;> omega) _).alloc (by simp <;> omega) _).alloc (by simp <;> omega) _).drew)
  refine ⟨hb, by omega, by omega, by omega, by omega, by omega, by omega, ?_, ?_, ?_⟩
  all_goals rw [hY]
  · show ((((((w.alloc X1).alloc X2).alloc X3).alloc Y).alloc Y).alloc Y).heap[w.heap.size + 1 + 1 + 1]? = some Y
    rw [Below.heap_alloc _ _ _ (by simp <;> omega), Below.heap_alloc _ _ _ (by simp)]
    have := World.alloc_heap_new (((w.alloc X1).alloc X2).alloc X3) Y
    rw [World.size_alloc, World.size_alloc, World.size_alloc] at this
    exact this
  · show ((((((w.alloc X1).alloc X2).alloc X3).alloc Y).alloc Y).alloc Y).heap[w.heap.size + 1 + 1 + 1 + 1]? = some Y
    rw [Below.heap_alloc _ _ _ (by simp)]
    have := World.alloc_heap_new ((((w.alloc X1).alloc X2).alloc X3).alloc Y) Y
    rw [World.size_alloc, World.size_alloc, World.size_alloc, World.size_alloc] at this
    exact this
  · have := World.alloc_heap_new (((((w.alloc X1).alloc X2).alloc X3).alloc Y).alloc Y) Y
    rw [World.size_alloc, World.size_alloc, World.size_alloc, World.size_alloc, World.size_alloc] at this
    exact this
theorem blank1_any (h c n b0 b1 : Nat) (w : World) (h0 : 1 ≤ h ∧ h ≤ 16) (c0 : 1 ≤ c ∧ c ≤ 16) (hn : h * c = n) (e0 : w.cell? ⟨b0, 0, none⟩ = some (.int .i64 (h : Nat))) (e1 : w.cell? ⟨b1, 0, none⟩ = some (.int .i64 (c : Nat))) :
    Calls Tryd.prog 37 #[.pointer (some ⟨b0, 0, none⟩), .pointer (some ⟨b1, 0, none⟩)] w fun e w' => e = .returned (.slice (some ⟨w.heap.size, 0, none⟩) n n) ∧ w.alloc (.cells (madeCells #[.bool false] n) 4) = w' := by
  have hn2 : n ≤ 256 := by rw [← hn]; exact Nat.mul_le_mul h0.2 c0.2
  have kw : (h : Int) * (c : Int) = (n : Int) := by rw [← hn]; push_cast; rfl
  have hmk := run_make_row' (P := Tryd.prog) 25 4 (.bool false) 1 Tryd.underlying25 infoBoolZ rfl .i64 .i64 n (by omega) (by omega)
  clear hn
  go_enter Tryd.func37, Tryd.ntmps37
  go_wp2
  go_ret
  exact ⟨rfl, rfl⟩
set_option maxHeartbeats 8000000 in
set_option maxRecDepth 100000 in
theorem Blank_any (h c n : Nat) (w : World) (h0 : 1 ≤ h ∧ h ≤ 16) (c0 : 1 ≤ c ∧ c ≤ 16) (hn : h * c = n) :
    Calls Tryd.prog 23 #[.int .i64 (h : Nat), .int .i64 (c : Nat)] w fun e w' => ∃ a b d, e = .returned (.tuple #[.agg #[.int .i64 (h : Int), .int .i64 (c : Int), .slice (some ⟨a, 0, none⟩) n n, .slice (some ⟨b, 0, none⟩) n n, .slice (some ⟨d, 0, none⟩) n n], .int .i64 0]) ∧ Rows3 w n a b d w' := by
  have e1 : sideB (h : Int) = true := sideB_iff.2 ⟨by omega, by omega⟩
  have e2 : sideB (c : Int) = true := sideB_iff.2 ⟨by omega, by omega⟩
  have cH := fun W => side_any (h : Int) W
  have cC := fun W => side_any (c : Int) W
  rw [e1] at cH
  rw [e2] at cC
  have CH := Lib.hid cH; have CC := Lib.hid cC
  have B1 := Lib.hid (fun b0 b1 W => blank1_any h c n b0 b1 W h0 c0 hn)
  clear cH cC e1 e2 hn
  go_enter Tryd.func23, Tryd.ntmps23
  go_wp2_with (go_at_call 32; (first | with_reducible refine (CH.out _).mono ?_ | with_reducible refine (CC.out _).mono ?_); rintro e w' ⟨rfl, rfl⟩)
  go_region_with (go_at_call 37; (refine (B1.out w.heap.size (w.heap.size + 1) _ (by go_simp) (by go_simp)).mono ?_); rintro e w1 ⟨rfl, rfl⟩)
  all_goals go_wp2
  all_goals refine bodyPost_ret (results_grid2 Tryd.results23 _ _ (w.heap.size + 1 + 1) 27 _ _ _ _ _ (0, 0) rfl (third6 w _ _ _ _)) rfl ⟨_, _, _, rfl, rows6 w n _ _ _⟩
end Go.Proofs.YtonibpilbkafnaaDoor
