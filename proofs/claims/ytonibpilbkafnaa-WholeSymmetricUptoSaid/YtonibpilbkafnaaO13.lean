/- Package turn: Turn: what stands in memory while a grid is turned. -/
import Derived.Test.YtonibpilbkafnaaO10
import Derived.Test.YtonibpilbkafnaaO12
import Derived.Deep.RegionHeld
namespace Go.Proofs.Ytonibpilbkafnaa
set_option linter.unusedVariables false
set_option linter.unusedSimpArgs false
open Go.RowKit Go.Lib

structure TEnv (w W : World) (hh ww k : Nat) (vb vr vd : Value) (bg bk bw bt br a b d h2 w2 n : Nat) (t : Td) : Prop where
  below : Below w.heap.size w W
  eg : W.heap[bg]? = some (.cells #[.int .i64 (hh : Nat), .int .i64 (ww : Nat), vb, vr, vd] 24 (0, 0))
  ek : W.heap[bk]? = some (.cells #[.int .i64 (k : Nat)] 3 (0, 0))
  ew : W.heap[bw]? = some (.cells #[.int .i64 (w2 : Nat)] 3 (0, 0))
  et : W.heap[bt]? = some (.cells #[.int .i64 (h2 : Nat), .int .i64 (w2 : Nat), .slice (some ⟨a, 0, none⟩) n n, .slice (some ⟨b, 0, none⟩) n n, .slice (some ⟨d, 0, none⟩) n n] 24 (0, 0))
  er : W.heap[br]? = some (.cells #[.int .i64 0, .int .i64 0, .slice none 0 0, .slice none 0 0, .slice none 0 0] 24 (0, 0))
  fill : FillAt W a b d n t.B t.R t.D
  oa : w.heap.size ≤ a
  ob : w.heap.size ≤ b
  od : w.heap.size ≤ d
  na : a ≠ bg ∧ a ≠ bk ∧ a ≠ bw ∧ a ≠ bt ∧ a ≠ br
  nb : b ≠ bg ∧ b ≠ bk ∧ b ≠ bw ∧ b ≠ bt ∧ b ≠ br
  nd : d ≠ bg ∧ d ≠ bk ∧ d ≠ bw ∧ d ≠ bt ∧ d ≠ br
theorem heap_set_ne (W : World) {x y : Nat} (i : Nat) (v : Value) (h : x ≠ y) : (W.setCell ⟨x, i, none⟩ v).heap[y]? = W.heap[y]? := Below.heap_setCell _ _ _ _ (Ne.symm h)
variable {w W W' : World} {hh ww k : Nat} {vb vr vd : Value} {bg bk bw bt br a b d h2 w2 n : Nat} {t : Td}
theorem TEnv.move (h : TEnv w W hh ww k vb vr vd bg bk bw bt br a b d h2 w2 n t) (hb : Below W.heap.size W W') : TEnv w W' hh ww k vb vr vd bg bk bw bt br a b d h2 w2 n t :=
  ⟨h.below.trans (hb.mono h.below.size), (hb.block _ (Array.getElem?_eq_some_iff.1 h.eg).1).trans h.eg, (hb.block _ (Array.getElem?_eq_some_iff.1 h.ek).1).trans h.ek, (hb.block _ (Array.getElem?_eq_some_iff.1 h.ew).1).trans h.ew, (hb.block _ (Array.getElem?_eq_some_iff.1 h.et).1).trans h.et, (hb.block _ (Array.getElem?_eq_some_iff.1 h.er).1).trans h.er, h.fill.below hb, h.oa, h.ob, h.od, h.na, h.nb, h.nd⟩
theorem TEnv.draw (h : TEnv w W hh ww k vb vr vd bg bk bw bt br a b d h2 w2 n t) (q : Nat) : TEnv w (W.drewN q) hh ww k vb vr vd bg bk bw bt br a b d h2 w2 n t := h.move (bdraw (Below.refl _ W) q)
theorem TEnv.putB (h : TEnv w W hh ww k vb vr vd bg bk bw bt br a b d h2 w2 n t) (i : Nat) (x : Bool) : TEnv w (W.setCell ⟨a, i, none⟩ (.bool x)) hh ww k vb vr vd bg bk bw bt br a b d h2 w2 n { t with B := t.B.set i x } :=
  ⟨h.below.setCell (p := ⟨a, i, none⟩) h.oa _, (heap_set_ne W i _ h.na.1).trans h.eg, (heap_set_ne W i _ h.na.2.1).trans h.ek, (heap_set_ne W i _ h.na.2.2.1).trans h.ew, (heap_set_ne W i _ h.na.2.2.2.1).trans h.et, (heap_set_ne W i _ h.na.2.2.2.2).trans h.er, h.fill.setA i x, h.oa, h.ob, h.od, h.na, h.nb, h.nd⟩
theorem TEnv.putR (h : TEnv w W hh ww k vb vr vd bg bk bw bt br a b d h2 w2 n t) (i : Nat) (x : Bool) : TEnv w (W.setCell ⟨b, i, none⟩ (.bool x)) hh ww k vb vr vd bg bk bw bt br a b d h2 w2 n { t with R := t.R.set i x } :=
  ⟨h.below.setCell (p := ⟨b, i, none⟩) h.ob _, (heap_set_ne W i _ h.nb.1).trans h.eg, (heap_set_ne W i _ h.nb.2.1).trans h.ek, (heap_set_ne W i _ h.nb.2.2.1).trans h.ew, (heap_set_ne W i _ h.nb.2.2.2.1).trans h.et, (heap_set_ne W i _ h.nb.2.2.2.2).trans h.er, h.fill.setB i x, h.oa, h.ob, h.od, h.na, h.nb, h.nd⟩
theorem TEnv.putD (h : TEnv w W hh ww k vb vr vd bg bk bw bt br a b d h2 w2 n t) (i : Nat) (x : Bool) : TEnv w (W.setCell ⟨d, i, none⟩ (.bool x)) hh ww k vb vr vd bg bk bw bt br a b d h2 w2 n { t with D := t.D.set i x } :=
  ⟨h.below.setCell (p := ⟨d, i, none⟩) h.od _, (heap_set_ne W i _ h.nd.1).trans h.eg, (heap_set_ne W i _ h.nd.2.1).trans h.ek, (heap_set_ne W i _ h.nd.2.2.1).trans h.ew, (heap_set_ne W i _ h.nd.2.2.2.1).trans h.et, (heap_set_ne W i _ h.nd.2.2.2.2).trans h.er, h.fill.setD i x, h.oa, h.ob, h.od, h.na, h.nb, h.nd⟩
/-- a cell of a row of our own -/
theorem row_cell {x m : Nat} {l : List Bool} (h : W.ownsRow x 4 1 (.slice (some ⟨x, 0, none⟩) n n) n (bools l)) (hm : m < n) : ∃ v, W.cell? ⟨x, m, none⟩ = some v := by
  have h1 := h.cellAt m (by omega)
  have hl : (bools l).length = n := by have := h.1; omega
  rw [List.getElem?_eq_getElem (by omega)] at h1
  exact ⟨_, h1⟩
theorem row_frozen {x m : Nat} {l : List Bool} (h : W.ownsRow x 4 1 (.slice (some ⟨x, 0, none⟩) n n) n (bools l)) (hm : m < n) : W.frozen? ⟨x, m, none⟩ = false := h.frozenAt m
/-- a bar, turned -/
theorem bar_env {i j : Nat} (h : TEnv w W hh ww k vb vr vd bg bk bw bt br a b d h2 w2 n t) (hk : k < 8) (h0 : 1 ≤ hh ∧ hh ≤ 16) (c0 : 1 ≤ ww ∧ ww ≤ 16) (hi : i < hh * ww) (hj : j < hh * ww) (hn : hh * ww = n) (hw2 : 1 ≤ w2 ∧ w2 ≤ 16) :
    Calls Try.prog 18 #[.int .i64 (i : Nat), .int .i64 (j : Nat), .pointer (some ⟨bg, 0, none⟩), .pointer (some ⟨bk, 0, none⟩), .pointer (some ⟨bw, 0, none⟩), .pointer (some ⟨bt, 0, none⟩)] W
      fun e W' => e = .returned (.tuple #[]) ∧ TEnv w W' hh ww k vb vr vd bg bk bw bt br a b d h2 w2 n (barT w2 (placeW hh ww k i) (placeW hh ww k j) t) := by
  refine (bar_any hh ww k n i j bg bk bw bt b d w2 vb vr vd _ _ _ W hk h0 c0 hi hj hn hw2 h.eg h.ek h.ew h.et (fun x hx => row_cell h.fill.ob hx) (fun x hx => row_cell h.fill.od hx) (fun x hx => row_frozen h.fill.ob hx) (fun x hx => row_frozen h.fill.od hx)).mono ?_
  rintro e W' ⟨rfl, W1, hb, rfl⟩
  refine ⟨rfl, ?_⟩
  cases hr : rightB w2 (placeW hh ww k i) (placeW hh ww k j) with
  | true => rw [if_pos rfl, barT_right hr]; exact (h.move hb).putR _ _
  | false => rw [if_neg (by decide), barT_down hr]; exact (h.move hb).putD _ _
abbrev zG : Obj := .cells #[.int .i64 0, .int .i64 0, .slice none 0 0, .slice none 0 0, .slice none 0 0] 24
theorem env_start {w1 w3 : World} {gB gR gD : List Bool} (hbw : Below w.heap.size w w1) (z1 : w.heap.size + 3 ≤ w1.heap.size) (eg : w1.heap[w.heap.size]? = some (.cells #[.int .i64 (hh : Nat), .int .i64 (ww : Nat), vb, vr, vd] 24 (0, 0)))
    (ek : w1.heap[w.heap.size + 1]? = some (.cells #[.int .i64 (k : Nat)] 3 (0, 0))) (er : w1.heap[w.heap.size + 1 + 1]? = some zG) (hr : Rows3 (w1.alloc (.cells #[.int .i64 (w2 : Nat)] 3)).drew n a b d w3) (hn : hh * ww = n) (h256 : n ≤ 256) :
    TEnv w (w3.alloc (.cells #[.int .i64 (h2 : Nat), .int .i64 (w2 : Nat), .slice (some ⟨a, 0, none⟩) n n, .slice (some ⟨b, 0, none⟩) n n, .slice (some ⟨d, 0, none⟩) n n] 24)) hh ww k vb vr vd w.heap.size (w.heap.size + 1) w1.heap.size w3.heap.size (w.heap.size + 1 + 1) a b d h2 w2 n (turnN hh ww k gB gR gD 0) := by
  generalize hX : (Obj.cells #[.int .i64 (h2 : Nat), .int .i64 (w2 : Nat), .slice (some ⟨a, 0, none⟩) n n, .slice (some ⟨b, 0, none⟩) n n, .slice (some ⟨d, 0, none⟩) n n] 24 (0, 0)) = X
  have b1 : Below w1.heap.size w1 (w1.alloc (.cells #[.int .i64 (w2 : Nat)] 3)).drew := ((Below.refl _ w1).alloc (Nat.le_refl _) _).drew
  have z2 : (w1.alloc (.cells #[.int .i64 (w2 : Nat)] 3)).drew.heap.size = w1.heap.size + 1 := by
    show (w1.alloc _).heap.size = _
    rw [World.size_alloc]
  have b3 := hr.below
  have la := hr.la; have lb := hr.lb; have ld := hr.ld
  rw [z2] at b3 la lb ld
  have z3 := b3.size
  rw [z2] at z3
  have b4 : Below w3.heap.size w3 (w3.alloc X) := (Below.refl _ w3).alloc (Nat.le_refl _) _
  have bb : Below w1.heap.size w1 w3 := b1.trans (b3.mono (by omega))
  have bc : Below w1.heap.size w1 (w3.alloc X) := bb.trans (b4.mono (by omega))
  have la3 := (Array.getElem?_eq_some_iff.1 hr.oa).1
  have lb3 := (Array.getElem?_eq_some_iff.1 hr.ob).1
  have ld3 := (Array.getElem?_eq_some_iff.1 hr.od).1
  have ew : (w3.alloc X).heap[w1.heap.size]? = some (.cells #[.int .i64 (w2 : Nat)] 3 (0, 0)) := by
    refine (b4.block _ (by omega)).trans ((b3.block _ (by omega)).trans ?_)
    exact World.alloc_heap_new w1 _
  refine ⟨hbw.trans (bc.mono (by omega)), (bc.block _ (by omega)).trans eg, (bc.block _ (by omega)).trans ek, ew, (World.alloc_heap_new w3 X).trans (by rw [hX]), (bc.block _ (by omega)).trans er, ?_, by omega, by omega, by omega, by omega, by omega, by omega⟩
  refine (FillAt.below ?_ b4)
  have := hr.fill h256
  show FillAt w3 a b d n (List.replicate (hh * ww) false) (List.replicate (hh * ww) false) (List.replicate (hh * ww) false)
  rw [hn]
  exact this
theorem stored5 {g : Nat} {T : TypeId} {a0 a1 a2 a3 a4 : Value} (x0 x1 x2 x3 x4 : Value) (hg : W.heap[g]? = some (.cells #[a0, a1, a2, a3, a4] T (0, 0))) :
    (((((W.setCell ⟨g, 0, none⟩ x0).setCell ⟨g, 1, none⟩ x1).setCell ⟨g, 2, none⟩ x2).setCell ⟨g, 3, none⟩ x3).setCell ⟨g, 4, none⟩ x4).heap[g]? = some (.cells #[x0, x1, x2, x3, x4] T (0, 0)) :=
  heap_setCell_same _ g 4 _ _ _ (heap_setCell_same _ g 3 _ _ _ (heap_setCell_same _ g 2 _ _ _ (heap_setCell_same _ g 1 _ _ _ (heap_setCell_same W g 0 _ _ _ hg))))
theorem below5 {g B : Nat} {x0 x1 x2 x3 x4 : Value} (h : Below B w W) (hB : B ≤ g) :
    Below B w (((((W.setCell ⟨g, 0, none⟩ x0).setCell ⟨g, 1, none⟩ x1).setCell ⟨g, 2, none⟩ x2).setCell ⟨g, 3, none⟩ x3).setCell ⟨g, 4, none⟩ x4) :=
  ((((h.setCell (p := ⟨g, 0, none⟩) hB _).setCell (p := ⟨g, 1, none⟩) hB _).setCell (p := ⟨g, 2, none⟩) hB _).setCell (p := ⟨g, 3, none⟩) hB _).setCell (p := ⟨g, 4, none⟩) hB _
theorem own5o {g x e : Nat} {xs : List Value} (h : W.ownsRow x e 1 (.slice (some ⟨x, 0, none⟩) n n) n xs) (hg : x ≠ g) (x0 x1 x2 x3 x4 : Value) :
    (((((W.setCell ⟨g, 0, none⟩ x0).setCell ⟨g, 1, none⟩ x1).setCell ⟨g, 2, none⟩ x2).setCell ⟨g, 3, none⟩ x3).setCell ⟨g, 4, none⟩ x4).ownsRow x e 1 (.slice (some ⟨x, 0, none⟩) n n) n xs :=
  ownsRow_setCell_other (ownsRow_setCell_other (ownsRow_setCell_other (ownsRow_setCell_other (ownsRow_setCell_other h (a := ⟨g, 0, none⟩) (by simp [Value.ownBlock]; exact hg) _) (a := ⟨g, 1, none⟩) (by simp [Value.ownBlock]; exact hg) _) (a := ⟨g, 2, none⟩) (by simp [Value.ownBlock]; exact hg) _) (a := ⟨g, 3, none⟩) (by simp [Value.ownBlock]; exact hg) _) (a := ⟨g, 4, none⟩) (by simp [Value.ownBlock]; exact hg) _
/-- the turned grid, behind the loop -/
theorem TEnv.result {gB gR gD : List Bool} (h : TEnv w W hh ww k vb vr vd bg bk bw bt br a b d h2 w2 n (turnN hh ww k gB gR gD n)) (hn : hh * ww = n) (h0 : 1 ≤ hh ∧ hh ≤ 16) (c0 : 1 ≤ ww ∧ ww ≤ 16) (h2e : h2 = if k % 2 = 1 then ww else hh) (w2e : w2 = if k % 2 = 1 then hh else ww) :
    GdAt (((((W.setCell ⟨br, 0, none⟩ (.int .i64 (h2 : Nat))).setCell ⟨br, 1, none⟩ (.int .i64 (w2 : Nat))).setCell ⟨br, 2, none⟩ (.slice (some ⟨a, 0, none⟩) n n)).setCell ⟨br, 3, none⟩ (.slice (some ⟨b, 0, none⟩) n n)).setCell ⟨br, 4, none⟩ (.slice (some ⟨d, 0, none⟩) n n))
      (((((W.setCell ⟨br, 0, none⟩ (.int .i64 (h2 : Nat))).setCell ⟨br, 1, none⟩ (.int .i64 (w2 : Nat))).setCell ⟨br, 2, none⟩ (.slice (some ⟨a, 0, none⟩) n n)).setCell ⟨br, 3, none⟩ (.slice (some ⟨b, 0, none⟩) n n)).setCell ⟨br, 4, none⟩ (.slice (some ⟨d, 0, none⟩) n n)).heap.size
      (.agg #[.int .i64 (h2 : Nat), .int .i64 (w2 : Nat), .slice (some ⟨a, 0, none⟩) n n, .slice (some ⟨b, 0, none⟩) n n, .slice (some ⟨d, 0, none⟩) n n]) (turnG ⟨(hh : Nat), (ww : Nat), gB, gR, gD⟩ k) := by
  have e : turnG ⟨(hh : Nat), (ww : Nat), gB, gR, gD⟩ k = ⟨(h2 : Nat), (w2 : Nat), (turnN hh ww k gB gR gD n).B, (turnN hh ww k gB gR gD n).R, (turnN hh ww k gB gR gD n).D⟩ := by
    unfold turnG
    simp only [Int.toNat_natCast]
    rw [hn, h2e, w2e]
    by_cases hk : k % 2 = 1
    · simp only [hk, if_true]
    · simp only [hk, if_false]
  rw [e]
  have hb2 : h2 ≤ 16 ∧ w2 ≤ 16 := by
    rw [h2e, w2e]
    split <;> exact ⟨by omega, by omega⟩
  exact ⟨by simp only; omega, by simp only; omega, _, _, _, rfl, Sl.of_own (own5o h.fill.oa h.na.2.2.2.2 _ _ _ _ _), Sl.of_own (own5o h.fill.ob h.nb.2.2.2.2 _ _ _ _ _), Sl.of_own (own5o h.fill.od h.nd.2.2.2.2 _ _ _ _ _)⟩
theorem keepC {x y : Nat} {v : Value} (hb : Below W.heap.size W W') (h : W.cell? ⟨x, y, none⟩ = some v) : W'.cell? ⟨x, y, none⟩ = some v := (hb.cell (p := ⟨x, y, none⟩) (World.block_lt_of_cell? W _ h)).trans h
theorem keepF {x y : Nat} {v : Value} (hb : Below W.heap.size W W') (h : W.cell? ⟨x, y, none⟩ = some v) (hf : W.frozen? ⟨x, y, none⟩ = false) : W'.frozen? ⟨x, y, none⟩ = false := (hb.frozen (p := ⟨x, y, none⟩) (World.block_lt_of_cell? W _ h)).trans hf
theorem setC {g i x y : Nat} {u v : Value} (h : W.cell? ⟨x, y, none⟩ = some v) (hn : g ≠ x) : (W.setCell ⟨g, i, none⟩ u).cell? ⟨x, y, none⟩ = some v := (World.cell?_setCell_far _ _ _ _ hn).trans h
/-- what a cell holds -/
def valAt (W : World) (g i : Nat) : Value := (W.cell? ⟨g, i, none⟩).getD undef
theorem valAt_of {g i : Nat} {v : Value} (h : W.cell? ⟨g, i, none⟩ = some v) : W.cell? ⟨g, i, none⟩ = some (valAt W g i) := by unfold valAt; rw [h]; rfl
theorem keepV {g i : Nat} (hb : Below W.heap.size W W') (h : W.cell? ⟨g, i, none⟩ = some (valAt W g i)) : W'.cell? ⟨g, i, none⟩ = some (valAt W' g i) := valAt_of (keepC hb h)
theorem setV {g i : Nat} {u : Value} (h : W.cell? ⟨g, i, none⟩ = some (valAt W g i)) : (W.setCell ⟨g, i, none⟩ u).cell? ⟨g, i, none⟩ = some (valAt (W.setCell ⟨g, i, none⟩ u) g i) := valAt_of (World.cell?_setCell_same _ _ _ h)
theorem setF {g i : Nat} {u : Value} (h : W.frozen? ⟨g, i, none⟩ = false) : (W.setCell ⟨g, i, none⟩ u).frozen? ⟨g, i, none⟩ = false := by rw [World.frozen?_setCell]; exact h
theorem keepB (hb : Below W.heap.size W W') (h : Below w.heap.size w W) : Below w.heap.size w W' := h.trans (hb.mono h.size)
end Go.Proofs.Ytonibpilbkafnaa
