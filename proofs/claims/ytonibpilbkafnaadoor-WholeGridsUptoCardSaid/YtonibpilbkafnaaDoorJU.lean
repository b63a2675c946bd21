/- Joined texts: U9: walks and plain laws for this seat's program, each stated where it stands; conditions: as each states. -/
import Derived.Test.YtonibpilbkafnaaDoorJR
import Derived.Deep.RegionHeld3
/- The tops: the lengths of slots, counted; facts for WholeGrids. -/
namespace Go.Proofs.YtonibpilbkafnaaDoor
set_option linter.unusedVariables false
set_option linter.unusedSimpArgs false
open Go.RowKit Go.Lib

theorem and7 (k : Int) : ∃ kk : Nat, kk < 8 ∧ bits .and .i64 k 7 = (kk : Int) := by
  have h7 : (BitVec.ofInt 64 k &&& BitVec.ofInt 64 7).toNat ≤ 7 := by
    rw [BitVec.toNat_and]
    have h2 : (BitVec.ofInt 64 7).toNat = 7 := by decide
    rw [h2]
    exact Nat.and_le_right
  refine ⟨(BitVec.ofInt 64 k &&& BitVec.ofInt 64 7).toNat, by omega, ?_⟩
  show IntKind.wrap .i64 ((BitVec.ofInt 64 k &&& BitVec.ofInt 64 7).toNat : Int) = _
  rw [IntKind.wrap_i64]; omega
def LensAt (P : List Int) (f : Nat → Int) : Prop := P.length = 17 ∧ ∀ L, L < 17 → P[L]? = some (f L)
theorem LensAt.zero : LensAt (List.replicate 17 0) fun _ => 0 := ⟨by simp, fun L h => by rw [List.getElem?_replicate, if_pos h]⟩
theorem LensAt.set {P : List Int} {f f' : Nat → Int} {l : Nat} (h : LensAt P f) {u : Int} (hl : l < 17) (hf : ∀ L, f' L = if L = l then u else f L) : LensAt (P.set l u) f' := by
  refine ⟨by rw [List.length_set]; exact h.1, fun L hL => ?_⟩
  rw [List.getElem?_set, hf L]
  by_cases e : l = L
  · rw [if_pos e, if_pos (by rw [h.1]; exact hl), if_pos e.symm]
  · rw [if_neg e, if_neg (fun e' => e e'.symm)]; exact h.2 L hL
theorem LensAt.nil {P : List Int} {f : Nat → Int} (h : LensAt P f) (h0 : ∀ L, f L = 0) : P = List.replicate 17 0 := by
  apply List.ext_getElem?
  intro L
  rcases Nat.lt_or_ge L 17 with hL | hL
  · rw [h.2 L hL, h0, List.getElem?_replicate, if_pos hL]
  · rw [List.getElem?_eq_none (by rw [h.1]; exact hL), List.getElem?_eq_none (by rw [List.length_replicate]; exact hL)]
theorem lenC_take {l : List (Bool × List Nat)} {i : Nat} {s : Bool × List Nat} (hi : i < l.length) (e : l[i] = s) (L : Nat) : lenC (l.take (i + 1)) L = lenC (l.take i) L + if L = s.2.length then 1 else 0 := by
  rw [List.take_succ_eq_append_getElem hi, e, lenC_append]
  congr 1
  unfold lenC
  by_cases h : L = s.2.length
  · rw [if_pos h]; simp [h]
  · rw [if_neg h]; simp [Ne.symm h]
theorem lenC_le (l : List (Bool × List Nat)) (L : Nat) : lenC l L ≤ l.length := List.length_filter_le _ _
theorem lenC_take_le (l : List (Bool × List Nat)) (i L : Nat) : lenC (l.take i) L ≤ l.length := Nat.le_trans (lenC_le _ _) (by rw [List.length_take]; omega)
abbrev upF (L1 : List (Bool × List Nat)) (i L : Nat) : Int := (lenC (L1.take i) L : Nat)
abbrev downF (L1 L2 : List (Bool × List Nat)) (i L : Nat) : Int := (lenC L1 L : Nat) - (lenC (L2.take i) L : Nat)
theorem lens_up {L1 : List (Bool × List Nat)} {i : Nat} {s : Bool × List Nat} {P : List Int} (hi : i < L1.length) (e : L1[i] = s) (h : LensAt P (upF L1 i)) (hl : s.2.length < 17) {pl : Int} (hp : pl = upF L1 i s.2.length) : LensAt (P.set s.2.length (pl + 1)) (upF L1 (i + 1)) := by
  refine h.set hl fun L => ?_
  unfold upF at *
  rw [lenC_take hi e]
  split
  · rename_i e2; subst e2; omega
  · simp
theorem lens_down {L1 L2 : List (Bool × List Nat)} {i : Nat} {s : Bool × List Nat} {P : List Int} (hi : i < L2.length) (e : L2[i] = s) (h : LensAt P (downF L1 L2 i)) (hl : s.2.length < 17) {pl : Int} (hp : pl = downF L1 L2 i s.2.length) : LensAt (P.set s.2.length (pl - 1)) (downF L1 L2 (i + 1)) := by
  refine h.set hl fun L => ?_
  unfold downF at *
  rw [lenC_take hi e]
  split
  · rename_i e2; subst e2; omega
  · simp
theorem run_len0 (W : World) : Sem.run Tryd.prog (zeroValue 34) W = .ok (.agg #[.int .i64 0, .int .i64 0, .int .i64 0, .int .i64 0, .int .i64 0, .int .i64 0, .int .i64 0, .int .i64 0, .int .i64 0, .int .i64 0, .int .i64 0, .int .i64 0, .int .i64 0, .int .i64 0, .int .i64 0, .int .i64 0, .int .i64 0]) W := by kernel_rfl
theorem run_eq17 (W : World) : Sem.run Tryd.prog (Op.equalIn 10000 34 (.agg #[.int .i64 0, .int .i64 0, .int .i64 0, .int .i64 0, .int .i64 0, .int .i64 0, .int .i64 0, .int .i64 0, .int .i64 0, .int .i64 0, .int .i64 0, .int .i64 0, .int .i64 0, .int .i64 0, .int .i64 0, .int .i64 0, .int .i64 0]) (.agg #[.int .i64 0, .int .i64 0, .int .i64 0, .int .i64 0, .int .i64 0, .int .i64 0, .int .i64 0, .int .i64 0, .int .i64 0, .int .i64 0, .int .i64 0, .int .i64 0, .int .i64 0, .int .i64 0, .int .i64 0, .int .i64 0, .int .i64 0])) W = .ok true W := by kernel_rfl
theorem len0_eq : intsZ (List.replicate 17 0) = #[.int .i64 0, .int .i64 0, .int .i64 0, .int .i64 0, .int .i64 0, .int .i64 0, .int .i64 0, .int .i64 0, .int .i64 0, .int .i64 0, .int .i64 0, .int .i64 0, .int .i64 0, .int .i64 0, .int .i64 0, .int .i64 0, .int .i64 0] := rfl
theorem blank12_print : printL (blankG 1 2) = [46, 46, 10] := by decide +kernel
theorem blank12_ok : OkG (blankG 1 2) := ok_of_check (by decide +kernel)
/-- what a slot's box and a length's new count leave -/
theorem len_set {W0 W : World} {bl l : Nat} {P : List Int} {X : Obj} {u : Int} (hl : W.heap[bl]? = some (.cells (intsZ P) 34 (0, 0)))
    (hk : ∀ kx, kx ≠ bl → kx < W0.heap.size → W.heap[kx]? = W0.heap[kx]?) (hz : W0.heap.size ≤ W.heap.size) :
    ((W.setCell ⟨bl, l, none⟩ (.int .i64 u)).alloc X).heap[bl]? = some (.cells (intsZ (P.set l u)) 34 (0, 0)) ∧
    (∀ kx, kx ≠ bl → kx < W0.heap.size → ((W.setCell ⟨bl, l, none⟩ (.int .i64 u)).alloc X).heap[kx]? = W0.heap[kx]?) ∧ W0.heap.size ≤ ((W.setCell ⟨bl, l, none⟩ (.int .i64 u)).alloc X).heap.size := by
  have hb := (Array.getElem?_eq_some_iff.1 hl).1
  refine ⟨?_, fun kx hn hx => ?_, by simp; omega⟩
  · rw [Below.heap_alloc _ X bl (by simp; exact hb), heap_setCell_same W bl l _ _ (.int .i64 u) hl, intsZ_set]
  · exact (Below.heap_alloc _ X kx (by simp; omega)).trans ((Below.heap_setCell W ⟨bl, l, none⟩ _ kx hn).trans (hk kx hn hx))
theorem cell_kept {W0 W : World} {bl : Nat} (hk : ∀ kx, kx ≠ bl → kx < W0.heap.size → W.heap[kx]? = W0.heap[kx]?) {x y : Nat} {v : Value} (hn : x ≠ bl) (h : W0.cell? ⟨x, y, none⟩ = some v) : W.cell? ⟨x, y, none⟩ = some v :=
  (World.cell?_of_block (a := ⟨x, y, none⟩) (hk x hn (World.block_lt_of_cell? W0 _ h))).trans h
theorem keepR {W W' : World} {b o : Nat} {cs : List Value} (hb : Below W.heap.size W W') (h : W.rangeAt b o cs) : W'.rangeAt b o cs := fun j v hv => keepC' hb (h j v hv)
theorem keepBB {W0 W W1 : World} (h : Below W0.heap.size W0 W) (hb : Below W.heap.size W W1) : Below W0.heap.size W0 W1 := h.trans (hb.mono h.size)
theorem range_of {w : World} {b : Nat} {C : Array Value} {t : TypeId} {fr : Nat × Nat} (hb : w.heap[b]? = some (.cells C t fr)) {cs : List Value} (hc : C = cs.toArray) : w.drew.rangeAt b 0 cs := fun j v hv => by
  subst hc
  rw [Nat.zero_add]
  exact (Lib.cell_of_heap hb j).trans (by rw [List.getElem?_toArray]; exact hv)
end Go.Proofs.YtonibpilbkafnaaDoor
