/- Package turn: place, Place. -/
import Derived.Test.YtonibpilbkafnaaO3
import Derived.Stop.RegionWithIn
import Derived.Deep.RegionLaw
import Derived.IntWalk
namespace Go.Proofs.Ytonibpilbkafnaa
set_option linter.unusedVariables false
set_option linter.unusedSimpArgs false
open Go.RowKit Go.Lib

set_option maxHeartbeats 4000000 in
set_option maxRecDepth 100000 in
theorem place_any (h c k i : Nat) (w : World) (hk : k < 8) (h0 : 1 ≤ h ∧ h ≤ 16) (c0 : 1 ≤ c ∧ c ≤ 16) (hi : i < h * c) :
    Calls Try.prog 16 #[.int .i64 (h : Nat), .int .i64 (c : Nat), .int .i64 (i : Nat), .int .i64 (k : Nat)] w fun e w' => e = .returned (.int .i64 (placeW h c k i : Nat)) ∧ Below w.heap.size w w' := by
  obtain ⟨j0, j1, j2, j3⟩ := in_of hi
  have hm : h * c ≤ 256 := Nat.mul_le_mul h0.2 c0.2
  have hp := place_int hk hi
  have hin := place_in hk hi
  have hpl := place_lt hk hi
  have cl := fun W => laid_any h c k (rowW c i) (colW' c i) W hk h0 c0 ⟨j0, by omega⟩ ⟨j2, by omega⟩
  have k3 : (i : Int).tmod (c : Int) = colW' c i := rfl
  have k4 : (i : Int).tdiv (c : Int) = rowW c i := rfl
  have k5 : (k : Int).tmod 2 = ((k % 2 : Nat) : Int) := rfl
  have cz : ¬ (c : Int) = 0 := by omega
  obtain ⟨i1, i2, i3, i4⟩ := hin
  generalize placeW h c k i = P at *
  generalize laidR h c k (rowW c i) (colW' c i) = lr at *
  generalize laidC h c k (rowW c i) (colW' c i) = lc at *
  generalize rowW c i = r at *
  generalize colW' c i = q at *
  have kr : IntKind.i64.wrap r = r := IntWalk.i64_in _ (by omega)
  have kq : IntKind.i64.wrap q = q := IntWalk.i64_in _ (by omega)
  have CL := Lib.hid cl; clear cl
  unfold widW at hp i4
  by_cases ho : k % 2 = 1
  · rw [if_pos ho] at hp i4 i2
    rw [ho] at k5
    obtain ⟨z, kz⟩ : ∃ z, lr * (h : Int) = z := ⟨_, rfl⟩
    rw [kz] at hp
    have z1 : 0 ≤ z := by rw [← kz]; exact Int.mul_nonneg i1 (by omega)
    have hpx : z + lc = (P : Int) := hp
    clear hp ho
    have AL := Lib.hid (fun (w1 : World) (hq : Below (w.alloc (.cells #[.int .i64 0, .int .i64 0] 52)).drew.heap.size (w.alloc (.cells #[.int .i64 0, .int .i64 0] 52)).drew w1) => (hq.block w.heap.size (by simp)).trans (show (w.alloc (.cells #[.int .i64 0, .int .i64 0] 52)).heap[w.heap.size]? = _ from World.alloc_heap_new w _))
    go_enter Try.func16, Try.ntmps16
    go_wp2
    go_region_with (go_at_call 24; (with_reducible refine (CL.out _).mono ?_); rintro e w1 ⟨rfl, hb1⟩; (try ((have hq : Below (w.alloc (.cells #[.int .i64 0, .int .i64 0] 52)).drew.heap.size (w.alloc (.cells #[.int .i64 0, .int .i64 0] 52)).drew w1 := by with_reducible exact hb1); have g9 := AL.out w1 hq; have p0 := Lib.cell_of_heap g9 0; have p1 := Lib.cell_of_heap g9 1; have f0 := Lib.frozen_of_heap g9 0; have f1 := Lib.frozen_of_heap g9 1)))
    all_goals go_wp2
    all_goals go_ret
    all_goals (first | exact ⟨ret_i rfl, Below.trans (bdraw (Below.refl _ w) 1) (hb1.alloc (Below.size hb1) _)⟩ | exact ⟨ret_i rfl, below2 ((((Below.refl _ w).alloc (Nat.le_refl _) _).drew).trans (hb1.mono (by simp))) (Nat.le_refl _)⟩)
  · rw [if_neg ho] at hp i4 i2
    have ho2 : k % 2 = 0 := by omega
    rw [ho2] at k5
    obtain ⟨z, kz⟩ : ∃ z, lr * (c : Int) = z := ⟨_, rfl⟩
    rw [kz] at hp
    have z1 : 0 ≤ z := by rw [← kz]; exact Int.mul_nonneg i1 (by omega)
    have hpx : z + lc = (P : Int) := hp
    clear hp ho ho2
    have AL := Lib.hid (fun (w1 : World) (hq : Below (w.alloc (.cells #[.int .i64 0, .int .i64 0] 52)).drew.heap.size (w.alloc (.cells #[.int .i64 0, .int .i64 0] 52)).drew w1) => (hq.block w.heap.size (by simp)).trans (show (w.alloc (.cells #[.int .i64 0, .int .i64 0] 52)).heap[w.heap.size]? = _ from World.alloc_heap_new w _))
    go_enter Try.func16, Try.ntmps16
    go_wp2
    go_region_with (go_at_call 24; (with_reducible refine (CL.out _).mono ?_); rintro e w1 ⟨rfl, hb1⟩; (try ((have hq : Below (w.alloc (.cells #[.int .i64 0, .int .i64 0] 52)).drew.heap.size (w.alloc (.cells #[.int .i64 0, .int .i64 0] 52)).drew w1 := by with_reducible exact hb1); have g9 := AL.out w1 hq; have p0 := Lib.cell_of_heap g9 0; have p1 := Lib.cell_of_heap g9 1; have f0 := Lib.frozen_of_heap g9 0; have f1 := Lib.frozen_of_heap g9 1)))
    all_goals go_wp2
    all_goals go_ret
    all_goals (first | exact ⟨ret_i rfl, Below.trans (bdraw (Below.refl _ w) 1) (hb1.alloc (Below.size hb1) _)⟩ | exact ⟨ret_i rfl, below2 ((((Below.refl _ w).alloc (Nat.le_refl _) _).drew).trans (hb1.mono (by simp))) (Nat.le_refl _)⟩)
set_option maxHeartbeats 4000000 in
set_option maxRecDepth 100000 in
theorem Place_any (h c k i : Nat) (w : World) (hk : k < 8) (h0 : 1 ≤ h ∧ h ≤ 16) (c0 : 1 ≤ c ∧ c ≤ 16) (hi : i < h * c) :
    Calls Try.prog 7 #[.int .i64 (h : Nat), .int .i64 (c : Nat), .int .i64 (i : Nat), .int .i64 (k : Nat)] w fun e w' => e = .returned (.tuple #[.int .i64 (placeW h c k i : Nat), .int .i64 0]) ∧ Below w.heap.size w w' := by
  have cp := fun W => place_any h c k i W hk h0 c0 hi
  have ci := fun W => is_any k W hk
  have hm : h * c ≤ 256 := Nat.mul_le_mul h0.2 c0.2
  have kz : (h : Int) * (c : Int) = ((h * c : Nat) : Int) := by push_cast; rfl
  obtain ⟨h1, h2⟩ := h0
  obtain ⟨c1, c2⟩ := c0
  generalize placeW h c k i = P at *
  generalize h * c = m at *
  have d1 : decide ((h : Int) < 1) = false := decide_eq_false (by omega)
  have d2 : decide ((h : Int) > 16) = false := decide_eq_false (by omega)
  have d3 : decide ((c : Int) < 1) = false := decide_eq_false (by omega)
  have d4 : decide ((c : Int) > 16) = false := decide_eq_false (by omega)
  have d5 : decide ((i : Int) < 0) = false := decide_eq_false (by omega)
  have d6 : decide ((m : Int) ≤ (i : Int)) = false := decide_eq_false (by omega)
  have CP := Lib.hid cp; have CI := Lib.hid ci
  clear cp ci
  go_enter Try.func7, Try.ntmps7
  go_wp2_with (first | (go_at_call 15; (with_reducible refine (CI.out _).mono ?_); rintro e w' ⟨rfl, rfl⟩) | (go_at_call 16; (with_reducible refine (CP.out _).mono ?_); rintro e w1 ⟨rfl, hb1⟩))
  go_ret2
  exact ⟨rfl, hb1⟩
end Go.Proofs.Ytonibpilbkafnaa
