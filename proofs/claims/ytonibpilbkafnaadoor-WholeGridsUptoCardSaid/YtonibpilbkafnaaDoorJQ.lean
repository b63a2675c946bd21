/- Joined texts: U7: walks and plain laws for this seat's program, each stated where it stands; conditions: as each states. -/
import Derived.Test.YtonibpilbkafnaaDoorJP
import Derived.Test.YtonibpilbkafnaaDoorJT
import Derived.ArgAppend
/- Package grid: a queue of cells in memory (Parts). -/
namespace Go.Proofs.YtonibpilbkafnaaDoor
set_option linter.unusedVariables false
set_option linter.unusedSimpArgs false
open Go.RowKit Go.Lib

/-- a slice of numbers, wherever it begins in its block -/
structure QAt (W : World) (B : Nat) (v : Value) (xs : List Nat) (g : Nat) : Prop where
  ex : ∃ off c cur, v = .slice (some ⟨g, off, none⟩) xs.length c ∧ xs.length ≤ c ∧ W.heap[g]? = some (.cells cur 3 (0, 0)) ∧ off + c ≤ cur.size ∧ ∀ (j x : Nat), xs[j]? = some x → W.cell? ⟨g, off + j, none⟩ = some (.int .i64 (x : Nat))
  hB : B ≤ g
theorem QAt.lt {W : World} {B : Nat} {v : Value} {xs : List Nat} {g : Nat} (h : QAt W B v xs g) : g < W.heap.size := by
  obtain ⟨off, c, cur, _, _, hg, _⟩ := h.ex
  exact (Array.getElem?_eq_some_iff.1 hg).1
theorem QAt.same {W W' : World} {B : Nat} {v : Value} {xs : List Nat} {g : Nat} (h : QAt W B v xs g) (hb : W'.heap[g]? = W.heap[g]?) : QAt W' B v xs g := by
  obtain ⟨off, c, cur, h1, h2, h3, h4, h5⟩ := h.ex
  exact ⟨⟨off, c, cur, h1, h2, hb.trans h3, h4, fun j x hx => (World.cell?_of_block (a := ⟨g, off + j, none⟩) hb).trans (h5 j x hx)⟩, h.hB⟩
theorem QAt.below {W W' : World} {B : Nat} {v : Value} {xs : List Nat} {g : Nat} (h : QAt W B v xs g) (hb : Below W.heap.size W W') : QAt W' B v xs g := h.same (hb.block g h.lt)
theorem QAt.new (W : World) (x : Nat) (B : Nat) (hB : B ≤ W.heap.size) : QAt (W.alloc (.cells #[.int .i64 (x : Nat)] 3)) B (.slice (some ⟨W.heap.size, 0, none⟩) 1 1) [x] W.heap.size := by
  have hh := World.alloc_heap_new W (.cells #[.int .i64 (x : Nat)] 3)
  refine ⟨⟨0, 1, _, rfl, Nat.le_refl _, hh, Nat.le_refl _, fun j y hy => ?_⟩, hB⟩
  cases j with
  | zero =>
    simp only [List.getElem?_cons_zero, Option.some.injEq] at hy
    subst hy
    exact Lib.cell_of_heap hh 0
  | succ j => simp at hy
/-- one number put behind it -/
theorem append_q {W : World} {B : Nat} {v : Value} {xs : List Nat} {g : Nat} (h : QAt W B v xs g) (x q : Nat) (hq : ∀ j u, [Value.int .i64 (x : Nat)][j]? = some u → W.cell? ((⟨q, 0, none⟩ : Addr).add j) = some u) (hl : xs.length + 1 ≤ 100000) (hBW : B ≤ W.heap.size) :
    ∃ c' g' off' w', (Builtin.append_ #[37, 37] 37 #[v, .slice (some ⟨q, 0, none⟩) 1 1]).run Tryd.prog W = .ok (.slice (some ⟨g', off', none⟩) (xs.length + 1) c') w' ∧ QAt w' B (.slice (some ⟨g', off', none⟩) (xs.length + 1) c') (xs ++ [x]) g' ∧ (g' = g ∨ g' = W.heap.size) ∧ W.grownBy w' (some g) := by
  obtain ⟨i0, hi9, hz0, hz1, hz2⟩ := info_parts infoInt
  have hgl := h.lt
  obtain ⟨off, c, cur, rfl, h2, h3, h4, h5⟩ := h.ex
  by_cases hroom : xs.length + 1 ≤ c
  · have hr := run_append_room_cells (P := Tryd.prog) (w := W) 37 37 3 i0 Tryd.underlying37 hi9 g off xs.length c ⟨q, 0, none⟩ 1 1 [.int .i64 (x : Nat)] (by rw [hz1]; rfl) hq (by simp [Value.oneCell']) hroom
      (fun j hj => by
        obtain rfl : j = 0 := by simpa using hj
        rw [hz1, Nat.mul_one, Nat.add_zero, Lib.cell_of_heap h3, Array.getElem?_eq_getElem (by omega)]; rfl)
      (fun j hj => Lib.frozen_of_heap h3 _)
    have e : W.setCells g (off + xs.length * i0.size) [.int .i64 (x : Nat)] = W.setCell ⟨g, off + xs.length, none⟩ (.int .i64 (x : Nat)) := by rw [hz1, Nat.mul_one]; rfl
    rw [e] at hr
    have hs := heap_setCell_same W g (off + xs.length) cur 3 (.int .i64 (x : Nat)) h3
    refine ⟨c, g, off, _, hr, ⟨⟨off, c, _, by rw [List.length_append]; rfl, by rw [List.length_append]; exact hroom, hs, by simpa using h4, fun j y hy => ?_⟩, h.hB⟩, .inl rfl, ⟨rfl, rfl, rfl, by simp, fun k hk hne => Below.heap_setCell _ _ _ _ (fun e9 => hne (by rw [e9]))⟩⟩
    rw [Lib.cell_of_heap hs]
    rcases Nat.lt_or_ge j xs.length with hj | hj
    · rw [List.getElem?_append_left hj] at hy
      rw [Array.getElem?_setIfInBounds, if_neg (by omega), ← Lib.cell_of_heap h3]
      exact h5 j y hy
    · rw [List.getElem?_append_right hj] at hy
      have hj2 : j = xs.length := by
        have := (List.getElem?_eq_some_iff.1 hy).1
        simp at this; omega
      subst hj2
      rw [Nat.sub_self, List.getElem?_cons_zero] at hy
      injection hy with hy
      subst hy
      rw [Array.getElem?_setIfInBounds, if_pos rfl, if_pos (by omega)]
  · have hr := run_append_grow (P := Tryd.prog) W 37 37 3 i0 (.int .i64 0) Tryd.underlying37 hi9 hz0 ⟨g, off, none⟩ xs.length c (ints xs) (by rw [hz1]; simp [ints]) (fun j u hu => by
        unfold ints at hu
        rw [List.getElem?_map, Option.map_eq_some_iff] at hu
        obtain ⟨y, hy, rfl⟩ := hu
        have hadd : (⟨g, off, none⟩ : Addr).add j = ⟨g, off + j, none⟩ := by unfold Addr.add; split <;> simp_all
        rw [hadd]
        exact h5 j y hy) ⟨q, 0, none⟩ 1 1 [.int .i64 (x : Nat)] (by rw [hz1]; rfl) hq (by omega) (by omega) (growslice_fits (by omega) (by rw [hz2]; omega))
    have hge := grownCap_ge W (xs.length + 1) c 3
    generalize grownCap W (xs.length + 1) c 3 = cc at *
    have hnew := World.alloc_heap_new W.drew (.cells ((ints xs).toArray ++ [Value.int .i64 (x : Nat)].toArray ++ Builtin.zeroCells (Value.int .i64 0).cells (cc - (xs.length + 1))) 3)
    rw [show W.drew.heap.size = W.heap.size from rfl] at hnew
    refine ⟨cc, W.heap.size, 0, _, hr, ⟨⟨0, cc, _, by rw [List.length_append]; rfl, by rw [List.length_append]; exact hge, hnew, ?_, fun j y hy => ?_⟩, hBW⟩, .inr rfl, ⟨rfl, rfl, rfl, by simp, fun k hk hne => Below.heap_alloc _ _ _ hk⟩⟩
    · simp [ints, Builtin.zeroCells, Value.cells]; omega
    · have hjl : j < xs.length + 1 := by
        have := (List.getElem?_eq_some_iff.1 hy).1
        rw [List.length_append] at this; exact this
      rw [Nat.zero_add, Lib.cell_of_heap hnew]
      have e1 : ((ints xs).toArray ++ [Value.int .i64 (x : Nat)].toArray ++ Builtin.zeroCells (Value.int .i64 0).cells (cc - (xs.length + 1)))[j]? = (ints (xs ++ [x]))[j]? := by
        rw [Array.getElem?_append_left (by simp [ints]; omega)]
        simp [ints]
      rw [e1]
      unfold ints
      rw [List.getElem?_map, hy]
      rfl
end Go.Proofs.YtonibpilbkafnaaDoor
