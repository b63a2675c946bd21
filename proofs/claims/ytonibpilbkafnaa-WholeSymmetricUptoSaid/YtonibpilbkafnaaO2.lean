/- Package turn: is, laid, place, Place. -/
import Derived.Test.YtonibpilbkafnaaO7
namespace Go.Proofs.Ytonibpilbkafnaa
set_option linter.unusedVariables false
set_option linter.unusedSimpArgs false
open Go.RowKit Go.Lib

theorem place_in {h w k i : Nat} (hk : k < 8) (hi : i < h * w) : inG (if k % 2 = 1 then w else h : Nat) (widW h w k : Nat) (laidR h w k (rowW w i) (colW' w i)) (laidC h w k (rowW w i) (colW' w i)) := by
  have hin := in_of hi
  unfold inG at hin ⊢
  unfold widW
  rcases eight hk with rfl | rfl | rfl | rfl | rfl | rfl | rfl | rfl <;> simp [laidR, laidC, mirC] <;> omega
theorem place_int {h w k i : Nat} (hk : k < 8) (hi : i < h * w) : laidR h w k (rowW w i) (colW' w i) * (widW h w k : Nat) + laidC h w k (rowW w i) (colW' w i) = ((placeW h w k i : Nat) : Int) := by
  obtain ⟨h1, h2, h3, h4⟩ := place_in hk hi
  unfold placeW idxW
  rw [Int.toNat_of_nonneg]
  have := Int.mul_nonneg h1 (Int.natCast_nonneg (widW h w k))
  omega
theorem is_any (k : Nat) (w : World) (hk : k < 8) : Calls Try.prog 15 #[.int .i64 (k : Nat)] w fun e w' => e = .returned (.bool true) ∧ w = w' := by
  have h1 : (0 : Int) ≤ (k : Int) := by omega
  have h2 : (k : Int) < 8 := by omega
  clear hk
  go_enter Try.func15, Try.ntmps15
  go_wp2
  go_ret
  exact ⟨rfl, rfl⟩
theorem results_arr {fn : Func} {p : Tmp} (h : fn.results = #[.cell p 52]) (tmps : Array Value) (W : World) (g : Nat) (t : TypeId) (c0 c1 : Value) (fr : Nat × Nat)
    (hp : tmps.getD p undef = .pointer (some ⟨g, 0, none⟩)) (hg : W.heap[g]? = some (.cells #[c0, c1] t fr)) :
    (results fn tmps).run Try.prog W = .ok (.agg #[c0, c1]) W := by
  have hp' : tmps[p]?.getD undef = .pointer (some ⟨g, 0, none⟩) := by simpa using hp
  have hl := run_loadVar_row (P := Try.prog) W g t 52 _ fr _ hg Try.underlying52 rfl (by kernel_rfl)
  simp [results, h, hp', asAddr, hl]
theorem stored2 {W : World} {g : Nat} {t : TypeId} {a0 a1 : Value} (x0 x1 : Value) (hg : W.heap[g]? = some (.cells #[a0, a1] t (0, 0))) :
    ((W.setCell ⟨g, 0, none⟩ x0).setCell ⟨g, 1, none⟩ x1).heap[g]? = some (.cells #[x0, x1] t (0, 0)) :=
  heap_setCell_same _ g 1 _ _ _ (heap_setCell_same W g 0 _ _ _ hg)
theorem below2 {B g : Nat} {w W : World} {x0 x1 : Value} (h : Below B w W) (hg : B ≤ g) : Below B w ((W.setCell ⟨g, 0, none⟩ x0).setCell ⟨g, 1, none⟩ x1) :=
  (h.setCell (p := ⟨g, 0, none⟩) hg x0).setCell (p := ⟨g, 1, none⟩) hg x1
theorem laid_end {fn : Func} {p : Tmp} {act : Act} {w : World} {n : Nat} {X : Obj} {t : TypeId} {a0 a1 x0 x1 : Value} {r0 r1 : Int} (h : fn.results = #[.cell p 52]) (hd : act.defers = []) (hp : act.tmps.getD p undef = .pointer (some ⟨w.heap.size + 1, 0, none⟩)) (e0 : x0 = .int .i64 r0) (e1 : x1 = .int .i64 r1) :
    bodyPost Try.prog fn (fun e w' => e = .returned (.agg #[.int .i64 r0, .int .i64 r1]) ∧ Below w.heap.size w w') Exit.ret act (((((w.alloc X).alloc (.cells #[a0, a1] t)).drewN n).setCell ⟨w.heap.size + 1, 0, none⟩ x0).setCell ⟨w.heap.size + 1, 1, none⟩ x1) := by
  subst e0; subst e1
  have hg : (((w.alloc X).alloc (.cells #[a0, a1] t)).drewN n).heap[w.heap.size + 1]? = some (.cells #[a0, a1] t (0, 0)) := by
    have := World.alloc_heap_new (w.alloc X) (.cells #[a0, a1] t)
    rw [World.size_alloc] at this
    exact this
  refine bodyPost_ret (results_arr h _ _ _ t _ _ (0, 0) hp (stored2 _ _ hg)) hd ⟨rfl, below2 ?_ (Nat.le_succ _)⟩
  exact bdraw (((Below.refl _ w).alloc (Nat.le_refl _) _).alloc (by simp) _) n
set_option maxHeartbeats 4000000 in
set_option maxRecDepth 100000 in
theorem laid_any (h c k : Nat) (r q : Int) (w : World) (hk : k < 8) (h0 : 1 ≤ h ∧ h ≤ 16) (c0 : 1 ≤ c ∧ c ≤ 16) (r0 : 0 ≤ r ∧ r ≤ 16) (q0 : 0 ≤ q ∧ q ≤ 16) :
    Calls Try.prog 24 #[.int .i64 (h : Nat), .int .i64 (c : Nat), .agg #[.int .i64 r, .int .i64 q], .int .i64 (k : Nat)] w fun e w' => e = .returned (.agg #[.int .i64 (laidR h c k r q), .int .i64 (laidC h c k r q)]) ∧ Below w.heap.size w w' := by
  obtain ⟨h1, h2⟩ := h0
  obtain ⟨c1, c2⟩ := c0
  obtain ⟨r1, r2⟩ := r0
  obtain ⟨q1, q2⟩ := q0
  rcases eight hk with rfl | rfl | rfl | rfl | rfl | rfl | rfl | rfl
  all_goals clear hk
  all_goals go_enter Try.func24, Try.ntmps24
  all_goals go_wp2
  all_goals go_quiet (fail)
  all_goals go_wp2
  all_goals exact laid_end Try.results24 rfl rfl (by simp [laidR, mirC]) (by simp [laidC, mirC])
end Go.Proofs.Ytonibpilbkafnaa
