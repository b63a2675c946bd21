/- Rows with a grid: what the argument reads. -/
import Derived.Test.YtonibpilbkafnaaR0
import Derived.Test.YtonibpilbkafnaaT1
import Derived.ChangeSlices
import Derived.SliceStrings
import Derived.Lib.SmallJoins
import Derived.Deep.Grids
namespace Go.Proofs.Ytonibpilbkafnaa
set_option linter.unusedVariables false
set_option linter.unusedSimpArgs false
open Go.Joins Go.ChangeShapes Go.WideShapes Go.ChangeAt Go.RowKit Go.Deep Go.WideElems Go.Lib

theorem lt_heap {w : World} {a : Addr} {v : Value} (h : w.cell? a = some v) : a.block < w.heap.size := by
  rcases Nat.lt_or_ge a.block w.heap.size with h1 | h1
  · exact h1
  · simp [World.cell?, Array.getElem?_eq_none h1] at h

section
variable {H : Type} {enc : TypeId × Value → H} {P : Program} {w : World} {base : Nat} {spare : Nat → Bool} {held : Bool}
theorem open_agg5 {r : Reach} {b0 : Nat} {t : TypeId} {f0 f1 f2 f3 f4 : Field} {v : Value} {d : DataW H} {p : List MemPlace} (hs : P.underlying t = some (.struct #[f0, f1, f2, f3, f4])) (hone : oneCellFields P #[f0, f1, f2, f3, f4] = true) (hC : P.cellsOf t = 5)
    (hv : Value.okWide P w r b0 t v) (h : DataW.Trod enc P w base spare held t v d p) :
    ∃ (v0 v1 v2 v3 v4 : Value) (y0 y1 y2 y3 y4 : DataW H × List MemPlace) (n : Nat), v = .agg #[v0, v1, v2, v3, v4] ∧ d = .agg [y0.1, y1.1, y2.1, y3.1, y4.1] ∧ p = y0.2 ++ (y1.2 ++ (y2.2 ++ (y3.2 ++ y4.2))) ∧
      DataW.trod enc P w base spare held n f0.type [v0] = some y0 ∧ DataW.trod enc P w base spare held n f1.type [v1] = some y1 ∧ DataW.trod enc P w base spare held n f2.type [v2] = some y2 ∧ DataW.trod enc P w base spare held n f3.type [v3] = some y3 ∧ DataW.trod enc P w base spare held n f4.type [v4] = some y4 := by
  obtain ⟨cs, rfl, hsz⟩ := okWide_struct hs hv
  obtain ⟨l⟩ := cs
  match l, hsz.trans hC with
  | [c0, c1, c2, c3, c4], _ =>
    obtain ⟨fuel, hf⟩ := h
    obtain ⟨xs, n, _, hx, _, hlen, hg⟩ := DataW.trod_struct hs hf
    obtain ⟨o0, k0⟩ := hone_of hone 0 f0 rfl
    obtain ⟨o1, k1⟩ := hone_of hone 1 f1 rfl
    obtain ⟨o2, k2⟩ := hone_of hone 2 f2 rfl
    obtain ⟨o3, k3⟩ := hone_of hone 3 f3 rfl
    obtain ⟨o4, k4⟩ := hone_of hone 4 f4 rfl
    match xs, hlen with
    | [y0, y1, y2, y3, y4], _ =>
      simp only [Prod.mk.injEq] at hx
      exact ⟨c0, c1, c2, c3, c4, y0, y1, y2, y3, y4, n, rfl, by simpa using hx.1, by simpa using hx.2, by simpa [Value.cells, o0, k0] using hg 0 f0 rfl, by simpa [Value.cells, o1, k1] using hg 1 f1 rfl, by simpa [Value.cells, o2, k2] using hg 2 f2 rfl, by simpa [Value.cells, o3, k3] using hg 3 f3 rfl, by simpa [Value.cells, o4, k4] using hg 4 f4 rfl⟩
end
theorem bulk_bools {H : Type} (B : Nat → Bool) : ∀ (n k : Nat), n ≤ Rows.uptoBulkAll (((List.range' k n).map fun i => (.lit (.bool (B i)) : DataW H)))
  | 0, k => by simp
  | n + 1, k => by
    have := bulk_bools (H := H) B n (k + 1)
    rw [List.range'_succ, List.map_cons]
    simp only [Rows.uptoBulkAll, Rows.uptoBulk]
    omega
theorem open_boolsl {H : Type} {enc : TypeId × Value → H} {W : World} {b0 n : Nat} {held : Bool} {t e : TypeId} {c : Value} {x : DataW H × List MemPlace} (ht : Try.prog.underlying t = some (.slice e)) (he : Try.prog.underlying e = some .bool) (hc : Try.prog.cellsOf e = 1)
    (h : DataW.trod enc Try.prog W b0 (fun _ => true) held n t [c] = some x) :
    ∃ l : List Bool, Sl W W.heap.size c (bools l) ∧ l.length ≤ Rows.uptoBulk x.1 := by
  rcases open_bools ht he hc h with ⟨hcs, hx⟩ | ⟨a, len, cap, B, hcs, _, hl, hm, hx, hcell⟩
  · injection hcs with h1 _
    rw [h1]
    exact ⟨[], Sl.nil_ _ _, by simp⟩
  · injection hcs with h1 _
    refine ⟨(List.range len).map B, ⟨some a, cap, by rw [h1]; simp, by simpa using hl, fun hpos => ⟨a, rfl, ?_, ?_⟩⟩, ?_⟩
    · have h0 : 0 < cap := by simp at hpos; omega
      have := lt_heap (hcell 0 h0)
      rwa [block_add] at this
    · intro j u hu
      simp only [bools, List.map_map, List.getElem?_map, Option.map_eq_some_iff] at hu
      obtain ⟨q, hq, rfl⟩ := hu
      obtain ⟨hj, rfl⟩ := List.getElem?_eq_some_iff.1 hq
      rw [List.length_range] at hj
      rw [List.getElem_range]
      exact hcell j (by omega)
    · rw [hx]
      unfold boolRow
      simp only [Rows.uptoBulk]
      have := bulk_bools (H := H) B len 0
      rw [← List.range_eq_range'] at this
      rw [List.length_map, List.length_range]
      omega
set_option maxRecDepth 100000 in
theorem open_grid {H : Type} {enc : TypeId × Value → H} {W : World} {b0 b1 : Nat} {held : Bool} {r : Reach} {v : Value} {d : DataW H} {ps : List MemPlace}
    (hval : Value.okWide Try.prog W r b1 24 v) (h : DataW.Trod enc Try.prog W b0 (fun _ => true) held 24 v d ps) :
    ∃ g : Gd, GdAt W W.heap.size v g ∧ g.B.length + g.R.length + g.D.length ≤ Rows.uptoBulk d := by
  obtain ⟨v0, v1, v2, v3, v4, y0, y1, y2, y3, y4, n, rfl, rfl, rfl, t0, t1, t2, t3, t4⟩ := open_agg5 Try.underlying24 (by kernel_rfl) (by kernel_rfl) hval h
  obtain ⟨a, ha, _, wa⟩ := DataW.trod_int Try.underlying3 t0
  obtain ⟨c, hc, _, wc⟩ := DataW.trod_int Try.underlying3 t1
  injection ha with ha _
  injection hc with hc _
  subst ha
  subst hc
  obtain ⟨B, sB, bB⟩ := open_boolsl Try.underlying22 Try.underlying4 (by kernel_rfl) t2
  obtain ⟨R, sR, bR⟩ := open_boolsl Try.underlying22 Try.underlying4 (by kernel_rfl) t3
  obtain ⟨D, sD, bD⟩ := open_boolsl Try.underlying22 Try.underlying4 (by kernel_rfl) t4
  have ba := bounds_i64 wa
  have bc := bounds_i64 wc
  refine ⟨⟨a, c, B, R, D⟩, ⟨by simp only; omega, by simp only; omega, v2, v3, v4, rfl, sB, sR, sD⟩, ?_⟩
  simp only [Rows.uptoBulk, Rows.uptoBulkAll]
  omega
end Go.Proofs.Ytonibpilbkafnaa
