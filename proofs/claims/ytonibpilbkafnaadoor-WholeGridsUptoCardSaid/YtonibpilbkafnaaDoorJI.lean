/- Joined texts: O13 O14: walks and plain laws for this seat's program, each stated where it stands; conditions: as each states. -/
import Derived.Test.YtonibpilbkafnaaDoorJG
import Derived.Test.YtonibpilbkafnaaDoorJH
import Derived.Deep.RegionHeld
import Derived.RegionTactic
import Derived.Deep.RegionHeld3
/- Package turn: Turn: what stands in memory while a grid is turned. -/
namespace Go.Proofs.YtonibpilbkafnaaDoor
set_option linter.unusedVariables false
set_option linter.unusedSimpArgs false
open Go.RowKit Go.Lib

structure TEnv (w W : World) (hh ww k : Nat) (vb vr vd : Value) (bg bk bw bt br a b d h2 w2 n : Nat) (t : Td) : Prop where
  below : Below w.heap.size w W
  eg : W.heap[bg]? = some (.cells #[.int .i64 (hh : Nat), .int .i64 (ww : Nat), vb, vr, vd] 27 (0, 0))
  ek : W.heap[bk]? = some (.cells #[.int .i64 (k : Nat)] 3 (0, 0))
  ew : W.heap[bw]? = some (.cells #[.int .i64 (w2 : Nat)] 3 (0, 0))
  et : W.heap[bt]? = some (.cells #[.int .i64 (h2 : Nat), .int .i64 (w2 : Nat), .slice (some ⟨a, 0, none⟩) n n, .slice (some ⟨b, 0, none⟩) n n, .slice (some ⟨d, 0, none⟩) n n] 27 (0, 0))
  er : W.heap[br]? = some (.cells #[.int .i64 0, .int .i64 0, .slice none 0 0, .slice none 0 0, .slice none 0 0] 27 (0, 0))
  fill : FillAt W a b d n t.B t.R t.D
  oa : w.heap.size ≤ a
  ob : w.heap.size ≤ b
  od : w.heap.size ≤ d
  na : a ≠ bg ∧ a ≠ bk ∧ a ≠ bw ∧ a ≠ bt ∧ a ≠ br
  nb : b ≠ bg ∧ b ≠ bk ∧ b ≠ bw ∧ b ≠ bt ∧ b ≠ br
  nd : d ≠ bg ∧ d ≠ bk ∧ d ≠ bw ∧ d ≠ bt ∧ d ≠ br
theorem heap_set_ne (W : World) {x y : Nat} (i : Nat) (v : Value) (h : x ≠ y) : (W.setCell ⟨x, i, none⟩ v).heap[y]? = W.heap[y]? := Below.heap_setCell _ _ _ _ (Ne.symm h)
variable {w W W' : World} {hh ww k : Nat} {vb vr vd : Value} {bg bk bw bt br a b d h2 w2 n : Nat} {t : Td}
theorem TEnv.move (h : TEnv w W hh ww k vb vr vd bg bk bw bt br a b d h2 w2 n t) (hb : Below W.heap.size W W') : TEnv w W' hh ww k vb vr vd bg bk bw bt br a b d h2 w2 n t :=
  ⟨h.below.trans (hb.mono h.below.size), (hb.block _ (Array.getElem?_eq_some_iff.1 h.eg).1).trans h.eg, (hb.block _ (Array.getElem?_eq_some_iff.1 h.ek).1).trans h.ek, (hb.block _ (Array.getElem?_eq_some_iff.1 h.ew).1).trans h.ew, (hb.block _ (Array.getElem?_eq_some_iff.1 h.et).1).trans h.et, (hb.block _ (Array.getElem?_eq_some_iff.1 h.er).1).trans h.er, h.fill.below hb, h.oa, h.ob, h.od, h.na, h.nb, h.nd⟩
theorem TEnv.draw (h : TEnv w W hh ww k vb vr vd bg bk bw bt br a b d h2 w2 n t) (q : Nat) : TEnv w (W.drewN q) hh ww k vb vr vd bg bk bw bt br a b d h2 w2 n t := h.move (bdraw (Below.refl _ W) q)
theorem TEnv.putB (h : TEnv w W hh ww k vb vr vd bg bk bw bt br a b d h2 w2 n t) (i : Nat) (x : Bool) : TEnv w (W.setCell ⟨a, i, none⟩ (.bool x)) hh ww k vb vr vd bg bk bw bt br a b d h2 w2 n { t with B := t.B.set i x } :=
  ⟨h.below.setCell (p := ⟨a, i, none⟩) h.oa _, (heap_set_ne W i _ h.na.1).trans h.eg, (heap_set_ne W i _ h.na.2.1).trans h.ek, (heap_set_ne W i _ h.na.2.2.1).trans h.ew, (heap_set_ne W i _ h.na.2.2.2.1).trans h.et, (heap_set_ne W i _ h.na.2.2.2.2).trans h.er, h.fill.setA i x, h.oa, h.ob, h.od, h.na, h.nb, h.nd⟩
theorem TEnv.putR (h : TEnv w W hh ww k vb vr vd bg bk bw bt br a b d h2 w2 n t) (i : Nat) (x : Bool) : TEnv w (W.setCell ⟨b, i, none⟩ (.bool x)) hh ww k vb vr vd bg bk bw bt br a b d h2 w2 n { t with R := t.R.set i x } :=
  ⟨h.below.setCell (p := ⟨b, i, none⟩) h.ob _, (heap_set_ne W i _ h.nb.1).trans h.eg, (heap_set_ne W i _ h.nb.2.1).trans h.ek, (heap_set_ne W i _ h.nb.2.2.1).trans h.ew, (heap_set_ne W i _ h.nb.2.2.2.1).trans h.et, (heap_set_ne W i _ h.nb.2.2.2.2).trans h.er, h.fill.setB i x, h.oa, h.ob, h.od, h.na, h.nb, h.nd⟩
theorem TEnv.putD (h : TEnv w W hh ww k vb vr vd bg bk bw bt br a b d h2 w2 n t) (i : Nat) (x : Bool) : TEnv w (W.setCell ⟨d, i, none⟩ (.bool x)) hh ww k vb vr vd bg bk bw bt br a b d h2 w2 n { t with D := t.D.set i x } :=
  ⟨h.below.setCell (p := ⟨d, i, none⟩) h.od _, (heap_set_ne W i _ h.nd.1).trans h.eg, (heap_set_ne W i _ h.nd.2.1).trans h.ek, (heap_set_ne W i _ h.nd.2.2.1).trans h.ew, (heap_set_ne W i _ h.nd.2.2.2.1).trans h.et, (heap_set_ne W i _ h.nd.2.2.2.2).trans h.er, h.fill.setD i x, h.oa, h.ob, h.od, h.na, h.nb, h.nd⟩
/-- a cell of a row of our own -/
theorem row_cell {x m : Nat} {l : List Bool} (h : W.ownsRow x 4 1 (.slice (some ⟨x, 0, none⟩) n n) n (bools l)) (hm : m < n) : ∃ v, W.cell? ⟨x, m, none⟩ = some v := by
  have h1 := h.cellAt m (by omega)
  have hl : (bools l).length = n := by have := h.1; omega
  rw [List.getElem?_eq_getElem (by omega)] at h1
  exact ⟨_, h1⟩
theorem row_frozen {x m : Nat} {l : List Bool} (h : W.ownsRow x 4 1 (.slice (some ⟨x, 0, none⟩) n n) n (bools l)) (hm : m < n) : W.frozen? ⟨x, m, none⟩ = false := h.frozenAt m
/-- a bar, turned -/
theorem bar_env {i j : Nat} (h : TEnv w W hh ww k vb vr vd bg bk bw bt br a b d h2 w2 n t) (hk : k < 8) (h0 : 1 ≤ hh ∧ hh ≤ 16) (c0 : 1 ≤ ww ∧ ww ≤ 16) (hi : i < hh * ww) (hj : j < hh * ww) (hn : hh * ww = n) (hw2 : 1 ≤ w2 ∧ w2 ≤ 16) :
    Calls Tryd.prog 24 #[.int .i64 (i : Nat), .int .i64 (j : Nat), .pointer (some ⟨bg, 0, none⟩), .pointer (some ⟨bk, 0, none⟩), .pointer (some ⟨bw, 0, none⟩), .pointer (some ⟨bt, 0, none⟩)] W
      fun e W' => e = .returned (.tuple #[]) ∧ TEnv w W' hh ww k vb vr vd bg bk bw bt br a b d h2 w2 n (barT w2 (placeW hh ww k i) (placeW hh ww k j) t) := by
  refine (tbar_any hh ww k n i j bg bk bw bt b d w2 vb vr vd _ _ _ W hk h0 c0 hi hj hn hw2 h.eg h.ek h.ew h.et (fun x hx => row_cell h.fill.ob hx) (fun x hx => row_cell h.fill.od hx) (fun x hx => row_frozen h.fill.ob hx) (fun x hx => row_frozen h.fill.od hx)).mono ?_
  rintro e W' ⟨rfl, W1, hb, rfl⟩
  refine ⟨rfl, ?_⟩
  cases hr : rightB w2 (placeW hh ww k i) (placeW hh ww k j) with
  | true => rw [if_pos rfl, barT_right hr]; exact (h.move hb).putR _ _
  | false => rw [if_neg (by decide), barT_down hr]; exact (h.move hb).putD _ _
abbrev zG : Obj := .cells #[.int .i64 0, .int .i64 0, .slice none 0 0, .slice none 0 0, .slice none 0 0] 27
theorem env_start {w1 w3 : World} {gB gR gD : List Bool} (hbw : Below w.heap.size w w1) (z1 : w.heap.size + 3 ≤ w1.heap.size) (eg : w1.heap[w.heap.size]? = some (.cells #[.int .i64 (hh : Nat), .int .i64 (ww : Nat), vb, vr, vd] 27 (0, 0)))
    (ek : w1.heap[w.heap.size + 1]? = some (.cells #[.int .i64 (k : Nat)] 3 (0, 0))) (er : w1.heap[w.heap.size + 1 + 1]? = some zG) (hr : Rows3 (w1.alloc (.cells #[.int .i64 (w2 : Nat)] 3)).drew n a b d w3) (hn : hh * ww = n) (h256 : n ≤ 256) :
    TEnv w (w3.alloc (.cells #[.int .i64 (h2 : Nat), .int .i64 (w2 : Nat), .slice (some ⟨a, 0, none⟩) n n, .slice (some ⟨b, 0, none⟩) n n, .slice (some ⟨d, 0, none⟩) n n] 27)) hh ww k vb vr vd w.heap.size (w.heap.size + 1) w1.heap.size w3.heap.size (w.heap.size + 1 + 1) a b d h2 w2 n (turnN hh ww k gB gR gD 0) := by
  generalize hX : (Obj.cells #[.int .i64 (h2 : Nat), .int .i64 (w2 : Nat), .slice (some ⟨a, 0, none⟩) n n, .slice (some ⟨b, 0, none⟩) n n, .slice (some ⟨d, 0, none⟩) n n] 27 (0, 0)) = X
  have b1 : Below w1.heap.size w1 (w1.alloc (.cells #[.int .i64 (w2 : Nat)] 3)).drew := ((Below.refl _ w1).alloc (Nat.le_refl _) _).drew
  have z2 : (w1.alloc (.cells #[.int .i64 (w2 : Nat)] 3)).drew.heap.size = w1.heap.size + 1 := by
    show (w1.alloc _).heap.size = _
    rw [World.size_alloc]
  have b3 := hr.below
  have la := hr.la; have lb := hr.lb; have ld := hr.ld
  rw [z2] at b3 la lb ld
  have z3 := b3.size
  rw [z2] at z3
  have b4 : Below w3.heap.size w3 (w3.alloc X) := (Below.refl _ w3).alloc (Nat.le_refl _) _
  have bb : Below w1.heap.size w1 w3 := b1.trans (b3.mono (by omega))
  have bc : Below w1.heap.size w1 (w3.alloc X) := bb.trans (b4.mono (by omega))
  have la3 := (Array.getElem?_eq_some_iff.1 hr.oa).1
  have lb3 := (Array.getElem?_eq_some_iff.1 hr.ob).1
  have ld3 := (Array.getElem?_eq_some_iff.1 hr.od).1
  have ew : (w3.alloc X).heap[w1.heap.size]? = some (.cells #[.int .i64 (w2 : Nat)] 3 (0, 0)) := by
    refine (b4.block _ (by omega)).trans ((b3.block _ (by omega)).trans ?_)
    exact World.alloc_heap_new w1 _
  refine ⟨hbw.trans (bc.mono (by omega)), (bc.block _ (by omega)).trans eg, (bc.block _ (by omega)).trans ek, ew, (World.alloc_heap_new w3 X).trans (by rw [hX]), (bc.block _ (by omega)).trans er, ?_, by omega, by omega, by omega, by omega, by omega, by omega⟩
  refine (FillAt.below ?_ b4)
  have := hr.fill h256
  show FillAt w3 a b d n (List.replicate (hh * ww) false) (List.replicate (hh * ww) false) (List.replicate (hh * ww) false)
  rw [hn]
  exact this
theorem own5o {g x e : Nat} {xs : List Value} (h : W.ownsRow x e 1 (.slice (some ⟨x, 0, none⟩) n n) n xs) (hg : x ≠ g) (x0 x1 x2 x3 x4 : Value) :
    (((((W.setCell ⟨g, 0, none⟩ x0).setCell ⟨g, 1, none⟩ x1).setCell ⟨g, 2, none⟩ x2).setCell ⟨g, 3, none⟩ x3).setCell ⟨g, 4, none⟩ x4).ownsRow x e 1 (.slice (some ⟨x, 0, none⟩) n n) n xs :=
  ownsRow_setCell_other (ownsRow_setCell_other (ownsRow_setCell_other (ownsRow_setCell_other (ownsRow_setCell_other h (a := ⟨g, 0, none⟩) (by simp [Value.ownBlock]; exact hg) _) (a := ⟨g, 1, none⟩) (by simp [Value.ownBlock]; exact hg) _) (a := ⟨g, 2, none⟩) (by simp [Value.ownBlock]; exact hg) _) (a := ⟨g, 3, none⟩) (by simp [Value.ownBlock]; exact hg) _) (a := ⟨g, 4, none⟩) (by simp [Value.ownBlock]; exact hg) _
/-- the turned grid, behind the loop -/
theorem TEnv.result {gB gR gD : List Bool} (h : TEnv w W hh ww k vb vr vd bg bk bw bt br a b d h2 w2 n (turnN hh ww k gB gR gD n)) (hn : hh * ww = n) (h0 : 1 ≤ hh ∧ hh ≤ 16) (c0 : 1 ≤ ww ∧ ww ≤ 16) (h2e : h2 = if k % 2 = 1 then ww else hh) (w2e : w2 = if k % 2 = 1 then hh else ww) :
    GdAt (((((W.setCell ⟨br, 0, none⟩ (.int .i64 (h2 : Nat))).setCell ⟨br, 1, none⟩ (.int .i64 (w2 : Nat))).setCell ⟨br, 2, none⟩ (.slice (some ⟨a, 0, none⟩) n n)).setCell ⟨br, 3, none⟩ (.slice (some ⟨b, 0, none⟩) n n)).setCell ⟨br, 4, none⟩ (.slice (some ⟨d, 0, none⟩) n n))
      (((((W.setCell ⟨br, 0, none⟩ (.int .i64 (h2 : Nat))).setCell ⟨br, 1, none⟩ (.int .i64 (w2 : Nat))).setCell ⟨br, 2, none⟩ (.slice (some ⟨a, 0, none⟩) n n)).setCell ⟨br, 3, none⟩ (.slice (some ⟨b, 0, none⟩) n n)).setCell ⟨br, 4, none⟩ (.slice (some ⟨d, 0, none⟩) n n)).heap.size
      (.agg #[.int .i64 (h2 : Nat), .int .i64 (w2 : Nat), .slice (some ⟨a, 0, none⟩) n n, .slice (some ⟨b, 0, none⟩) n n, .slice (some ⟨d, 0, none⟩) n n]) (turnG ⟨(hh : Nat), (ww : Nat), gB, gR, gD⟩ k) := by
  have e : turnG ⟨(hh : Nat), (ww : Nat), gB, gR, gD⟩ k = ⟨(h2 : Nat), (w2 : Nat), (turnN hh ww k gB gR gD n).B, (turnN hh ww k gB gR gD n).R, (turnN hh ww k gB gR gD n).D⟩ := by
    unfold turnG
    simp only [Int.toNat_natCast]
    rw [hn, h2e, w2e]
    by_cases hk : k % 2 = 1
    · simp only [hk, if_true]
    · simp only [hk, if_false]
  rw [e]
  have hb2 : h2 ≤ 16 ∧ w2 ≤ 16 := by
    rw [h2e, w2e]
    split <;> exact ⟨by omega, by omega⟩
  exact ⟨by simp only; omega, by simp only; omega, _, _, _, rfl, Sl.of_own (own5o h.fill.oa h.na.2.2.2.2 _ _ _ _ _), Sl.of_own (own5o h.fill.ob h.nb.2.2.2.2 _ _ _ _ _), Sl.of_own (own5o h.fill.od h.nd.2.2.2.2 _ _ _ _ _)⟩
theorem keepC {x y : Nat} {v : Value} (hb : Below W.heap.size W W') (h : W.cell? ⟨x, y, none⟩ = some v) : W'.cell? ⟨x, y, none⟩ = some v := (hb.cell (p := ⟨x, y, none⟩) (World.block_lt_of_cell? W _ h)).trans h
theorem keepF {x y : Nat} {v : Value} (hb : Below W.heap.size W W') (h : W.cell? ⟨x, y, none⟩ = some v) (hf : W.frozen? ⟨x, y, none⟩ = false) : W'.frozen? ⟨x, y, none⟩ = false := (hb.frozen (p := ⟨x, y, none⟩) (World.block_lt_of_cell? W _ h)).trans hf
theorem setC {g i x y : Nat} {u v : Value} (h : W.cell? ⟨x, y, none⟩ = some v) (hn : g ≠ x) : (W.setCell ⟨g, i, none⟩ u).cell? ⟨x, y, none⟩ = some v := (World.cell?_setCell_far _ _ _ _ hn).trans h
/-- what a cell holds -/
def valAt (W : World) (g i : Nat) : Value := (W.cell? ⟨g, i, none⟩).getD undef
theorem valAt_of {g i : Nat} {v : Value} (h : W.cell? ⟨g, i, none⟩ = some v) : W.cell? ⟨g, i, none⟩ = some (valAt W g i) := by unfold valAt; rw [h]; rfl
theorem keepV {g i : Nat} (hb : Below W.heap.size W W') (h : W.cell? ⟨g, i, none⟩ = some (valAt W g i)) : W'.cell? ⟨g, i, none⟩ = some (valAt W' g i) := valAt_of (keepC hb h)
theorem setV {g i : Nat} {u : Value} (h : W.cell? ⟨g, i, none⟩ = some (valAt W g i)) : (W.setCell ⟨g, i, none⟩ u).cell? ⟨g, i, none⟩ = some (valAt (W.setCell ⟨g, i, none⟩ u) g i) := valAt_of (World.cell?_setCell_same _ _ _ h)
theorem setF {g i : Nat} {u : Value} (h : W.frozen? ⟨g, i, none⟩ = false) : (W.setCell ⟨g, i, none⟩ u).frozen? ⟨g, i, none⟩ = false := by rw [World.frozen?_setCell]; exact h
theorem keepB (hb : Below W.heap.size W W') (h : Below w.heap.size w W) : Below w.heap.size w W' := h.trans (hb.mono h.size)
end Go.Proofs.YtonibpilbkafnaaDoor

/- Package turn: Turn. -/
namespace Go.Proofs.YtonibpilbkafnaaDoor
set_option linter.unusedVariables false
set_option linter.unusedSimpArgs false
open Go.RowKit Go.Lib

theorem three_new (w : World) (X Y Z : Obj) : ∀ wA, ((w.alloc X).alloc Y).alloc Z = wA → wA.heap.size = w.heap.size + 3 ∧ Below w.heap.size w wA ∧ wA.heap[w.heap.size]? = some X ∧ wA.heap[w.heap.size + 1]? = some Y ∧ wA.heap[w.heap.size + 1 + 1]? = some Z := by
  rintro wA rfl
  refine ⟨by simp, (((Below.refl _ w).alloc (Nat.le_refl _) _).alloc (by simp) _).alloc (by simp <;> omega) _, ?_, ?_, ?_⟩
  · rw [Below.heap_alloc _ _ _ (by simp <;> omega), Below.heap_alloc _ _ _ (by simp)]
    exact World.alloc_heap_new w X
  · rw [Below.heap_alloc _ _ _ (by simp)]
    have := World.alloc_heap_new (w.alloc X) Y
    rw [World.size_alloc] at this
    exact this
  · have := World.alloc_heap_new ((w.alloc X).alloc Y) Z
    rw [World.size_alloc, World.size_alloc] at this
    exact this
set_option maxHeartbeats 8000000 in
set_option maxRecDepth 100000 in
theorem Turn_any (v : Value) (g : Gd) (k B : Nat) (w : World) (h : GdAt w B v g) (hB : B ≤ w.heap.size) (hg : OkG g) (hk : k < 8) :
    Calls Tryd.prog 7 #[v, .int .i64 (k : Nat)] w fun e w' => (∃ u, e = .returned (.tuple #[u, .int .i64 0]) ∧ GdAt w' w'.heap.size u (turnG g k)) ∧ Below w.heap.size w w' := by
  obtain ⟨e1, e2, e3, e4, e5⟩ := area_le hg
  have hck := check_of_ok hg
  have hlB := hg.b; have hlR := hg.r; have hlD := hg.d
  have cch := fun W (hb : Below B w W) (hz : B ≤ W.heap.size) => Check_any v g B W (h.below hb) hz (by omega)
  rw [hck] at cch
  obtain ⟨Ab, Ar, Ad, cb, cr, cd, rfl⟩ := h.form
  obtain ⟨H, W, gB, gR, gD⟩ := g
  have hH := hg.h0; have hW := hg.w0
  simp only at hH hW e1 e2 e3 e4 e5 hlB hlR hlD
  obtain ⟨hh, rfl⟩ : ∃ a : Nat, H = (a : Int) := ⟨H.toNat, by omega⟩
  obtain ⟨ww, rfl⟩ : ∃ c : Nat, W = (c : Int) := ⟨W.toNat, by omega⟩
  simp only [Int.toNat_natCast] at e1 e2 e3 e4 e5 hlB hlR hlD
  simp only [gdV] at cch h ⊢
  rw [hlB, hlR, hlD] at cch h ⊢
  have hpos : 0 < hh * ww := Nat.mul_pos e4 e2
  have hSB := h.eq
  obtain ⟨vb, vr, vd, hveq, s1, s2, s3⟩ := hSB
  injection hveq with hveq
  injection hveq with hveq
  simp only [List.cons.injEq, and_true, true_and] at hveq
  obtain ⟨rfl, rfl, rfl⟩ := hveq
  obtain ⟨b1, o1, rfl, zb⟩ := s1.boolsAt hpos
  obtain ⟨b2, o2, rfl, zr⟩ := s2.boolsAt hpos
  obtain ⟨b3, o3, rfl, zd⟩ := s3.boolsAt hpos
  have ZB := Lib.hid zb; have ZR := Lib.hid zr; have ZD := Lib.hid zd
  clear zb zr zd s1 s2 s3
  have ci := fun W => is_any k W hk
  have CI := Lib.hid ci; have CH := Lib.hid cch; have HG := Lib.hid hg; have HAT := Lib.hid h
  have HLB := Lib.hid hlB; have HLR := Lib.hid hlR; have HLD := Lib.hid hlD
  clear ci cch hck h hg hlB hlR hlD
  generalize hn : hh * ww = n at *
  have HN := Lib.hid hn; clear hn
  go_enter Tryd.func7, Tryd.ntmps7
  go_wp2_with (first | (go_at_call 22; (with_reducible refine (CI.out _).mono ?_); rintro e w' ⟨rfl, rfl⟩) | (go_at_call 13; (refine (CH.out _ ?_ ?_).mono ?_); (exact (((Below.refl B w).alloc hB _).alloc (by simp; omega) _).alloc (by simp; omega) _); (simp; omega); rintro e w1 ⟨rfl, hb1⟩))
  have hwA : ∀ wA, (((w.alloc (.cells #[.int .i64 (hh : Int), .int .i64 (ww : Int), .slice (some ⟨b1, o1, none⟩) n cb, .slice (some ⟨b2, o2, none⟩) n cr, .slice (some ⟨b3, o3, none⟩) n cd] 27)).alloc (.cells #[.int .i64 (k : Int)] 3)).alloc (.cells #[.int .i64 0, .int .i64 0, .slice none 0 0, .slice none 0 0, .slice none 0 0] 27)) = wA →
      wA.heap.size = w.heap.size + 3 ∧ Below w.heap.size w wA ∧ wA.heap[w.heap.size]? = some (.cells #[.int .i64 (hh : Int), .int .i64 (ww : Int), .slice (some ⟨b1, o1, none⟩) n cb, .slice (some ⟨b2, o2, none⟩) n cr, .slice (some ⟨b3, o3, none⟩) n cd] 27 (0, 0)) ∧ wA.heap[w.heap.size + 1]? = some (.cells #[.int .i64 (k : Int)] 3 (0, 0)) ∧ wA.heap[w.heap.size + 1 + 1]? = some (.cells #[.int .i64 0, .int .i64 0, .slice none 0 0, .slice none 0 0, .slice none 0 0] 27 (0, 0)) := three_new w _ _ _
  obtain ⟨zA, hbA, a0, a1, a2⟩ := hwA _ rfl
  have hbw : Below w.heap.size w w1 := hbA.trans (hb1.mono (by rw [zA]; omega))
  have z1 : w.heap.size + 3 ≤ w1.heap.size := by have := hb1.size; rw [zA] at this; exact this
  have EG := Lib.hid ((hb1.block _ (by rw [zA]; omega)).trans a0)
  have EK := Lib.hid ((hb1.block _ (by rw [zA]; omega)).trans a1)
  have ER := Lib.hid ((hb1.block _ (by rw [zA]; omega)).trans a2)
  have HBW := Lib.hid hbw
  clear hwA zA hbA a0 a1 a2 hb1 hbw
  have p0 : w1.cell? ⟨w.heap.size, 0, none⟩ = some (.int .i64 (hh : Nat)) := Lib.cell_of_heap EG.out 0
  have p1 : w1.cell? ⟨w.heap.size, 1, none⟩ = some (.int .i64 (ww : Nat)) := Lib.cell_of_heap EG.out 1
  have p2 : w1.cell? ⟨w.heap.size + 1, 0, none⟩ = some (.int .i64 (k : Nat)) := Lib.cell_of_heap EK.out 0
  have l0 : w.heap.size < w1.heap.size := by omega
  have l1 : w.heap.size + 1 < w1.heap.size := by omega
  have k5 : (k : Int).tmod 2 = ((k % 2 : Nat) : Int) := rfl
  go_region
  by_cases ho : k % 2 = 1
  · skip
    have HWD : Hid (widW hh ww k = hh) := Lib.hid (by unfold widW; simp only [ho, if_true, if_false])
    have HH2 : Hid (ww = if k % 2 = 1 then ww else hh) := Lib.hid (by simp only [ho, if_true, if_false])
    have HW2 : Hid (hh = if k % 2 = 1 then hh else ww) := Lib.hid (by simp only [ho, if_true, if_false])
    have cbl := fun W => Blank_any ww hh n W ⟨by omega, by omega⟩ ⟨by omega, by omega⟩ (by rw [Nat.mul_comm]; exact HN.out)
    have CBL := Lib.hid cbl; clear cbl
    rw [ho] at k5
    clear ho
    go_wp2_with fail
    refine (CBL.out _).mono ?_
    rintro e w3 ⟨a, b, d, rfl, hr3⟩
    have HE0 := Lib.hid (env_start (h2 := ww) (gB := gB) (gR := gR) (gD := gD) HBW.out z1 EG.out EK.out ER.out hr3 HN.out e1)
    have hb3 := hr3.below.mono (show w1.heap.size ≤ (w1.alloc (.cells #[.int .i64 (hh : Nat)] 3)).drew.heap.size by simp)
    have hz3 : w1.heap.size ≤ w3.heap.size := by have := hr3.below.size; simp at this; omega
    have q2 : w3.cell? ⟨w.heap.size, 2, none⟩ = some (.slice (some ⟨b1, o1, none⟩) n cb) := (hb3.cell (p := ⟨w.heap.size, 2, none⟩) l0).trans (((((Below.refl _ w1).alloc (Nat.le_refl _) _).drew).cell (p := ⟨w.heap.size, 2, none⟩) l0).trans (Lib.cell_of_heap EG.out 2))
    have l3 : w.heap.size < w3.heap.size := by omega
    clear hr3 hb3 p0 p1 p2
    go_wp2_with fail
    generalize w3.alloc (.cells #[.int .i64 (ww : Int), .int .i64 (hh : Int), .slice (some ⟨a, 0, none⟩) n n, .slice (some ⟨b, 0, none⟩) n n, .slice (some ⟨d, 0, none⟩) n n] 27) = W0 at *
    go_loopg [12, 42] n (fun gf _ u42 wr => ∃ i : Nat, u42 = .int .i64 i ∧ i ≤ n ∧ n ≤ i + gf ∧ Hid (TEnv w wr hh ww k (.slice (some ⟨b1, o1, none⟩) n cb) (.slice (some ⟨b2, o2, none⟩) n cr) (.slice (some ⟨b3, o3, none⟩) n cd) w.heap.size (w.heap.size + 1) w1.heap.size w3.heap.size (w.heap.size + 1 + 1) a b d ww hh n (turnN hh ww k gB gR gD i)))
    case atStart => exact ⟨0, rfl, Nat.zero_le _, by omega, HE0⟩
    case round =>
      rename World => w5
      obtain ⟨i, rfl, hi, hfu, HE⟩ := hrel
      by_cases hlt : i < n
      · obtain ⟨g', rfl⟩ : ∃ g', gk = g' + 1 := ⟨gk - 1, by omega⟩
        have hE := HE.out
        have hp := place_lt (h := hh) (w := ww) (k := k) (i := i) hk (by have := HN.out; omega)
        rw [HN.out] at hp
        have CP := Lib.hid (fun W => place_any hh ww k i W hk ⟨e4, e5⟩ ⟨e2, e3⟩ (by have := HN.out; omega))
        have HJR : Hid (gR.getD i false = true → i + 1 < n) := Lib.hid (fun h => by have h9 := ok_right HG.out (i := i) (by have := HN.out; simp only [Int.toNat_natCast]; omega) h; simp only [Int.toNat_natCast] at h9; have := next_in (i := i) (a := hh) (c := ww) e2 (by have := HN.out; omega) h9; have := HN.out; omega)
        have HJD : Hid (gD.getD i false = true → i + ww < n) := Lib.hid (fun h => by have h9 := ok_down HG.out (i := i) (by have := HN.out; simp only [Int.toNat_natCast]; omega) h; simp only [Int.toNat_natCast] at h9; have := below_in (i := i) (a := hh) (c := ww) e2 (by have := HN.out; omega) h9; have := HN.out; omega)
        obtain ⟨pv, hpv⟩ : ∃ pv, placeW hh ww k i = pv := ⟨_, rfl⟩
        rw [hpv] at hp CP
        obtain ⟨v0, hv0⟩ := row_cell hE.fill.oa hp
        have N1 : a ≠ w3.heap.size := hE.na.2.2.2.1
        have N2 : a ≠ w.heap.size := hE.na.1
        have N3 : a ≠ w.heap.size + 1 := hE.na.2.1
        have N4 : a ≠ b1 := by have := World.block_lt_of_cell? w _ (ZB.out i hlt); have := hE.oa; simp only at *; omega
        have A0 : w5.drew.cell? ⟨w3.heap.size, 2, none⟩ = some (.slice (some ⟨a, 0, none⟩) n n) := Lib.cell_of_heap hE.et 2
        have A1 : w5.drew.cell? ⟨w.heap.size, 0, none⟩ = some (.int .i64 (hh : Nat)) := Lib.cell_of_heap hE.eg 0
        have A2 : w5.drew.cell? ⟨w.heap.size, 1, none⟩ = some (.int .i64 (ww : Nat)) := Lib.cell_of_heap hE.eg 1
        have A3 : w5.drew.cell? ⟨w.heap.size + 1, 0, none⟩ = some (.int .i64 (k : Nat)) := Lib.cell_of_heap hE.ek 0
        have A4 : w5.drew.cell? ⟨w.heap.size, 2, none⟩ = some (.slice (some ⟨b1, o1, none⟩) n cb) := Lib.cell_of_heap hE.eg 2
        obtain ⟨xb, hxb⟩ : ∃ xb, gB.getD i false = xb := ⟨_, rfl⟩
        have A5 : w5.drew.cell? ⟨b1, o1 + i, none⟩ = some (.bool xb) := (hE.below.cell (p := ⟨b1, o1 + i, none⟩) (World.block_lt_of_cell? w _ (ZB.out i hlt))).trans ((ZB.out i hlt).trans (by rw [hxb]))
        have HXB := Lib.hid hxb; clear hxb
        have A6 : w5.drew.cell? ⟨a, pv, none⟩ = some (valAt w5.drew a pv) := valAt_of (show w5.drew.cell? ⟨a, pv, none⟩ = some v0 from hv0)
        have A7 : w5.drew.frozen? ⟨a, pv, none⟩ = false := row_frozen hE.fill.oa hp
        have HPV := Lib.hid hpv; have HE5 := Lib.hid hE
        clear hpv hE hv0 HE
        have i1 : (0 : Int) ≤ (i : Int) := by omega
        have i2 : (i : Int) < (n : Int) := by omega
        have i3 : (0 : Int) ≤ (pv : Int) := by omega
        have i4 : (pv : Int) < (n : Int) := by omega
        go_wp2_with fail
        go_region_held3 (fun w' => w'.cell? ⟨w3.heap.size, 2, none⟩ = some (.slice (some ⟨a, 0, none⟩) n n) ∧ w'.cell? ⟨w.heap.size, 0, none⟩ = some (.int .i64 (hh : Nat)) ∧ w'.cell? ⟨w.heap.size, 1, none⟩ = some (.int .i64 (ww : Nat)) ∧ w'.cell? ⟨w.heap.size + 1, 0, none⟩ = some (.int .i64 (k : Nat)) ∧ w'.cell? ⟨w.heap.size, 2, none⟩ = some (.slice (some ⟨b1, o1, none⟩) n cb) ∧ w'.cell? ⟨b1, o1 + i, none⟩ = some (.bool xb) ∧ w'.cell? ⟨a, pv, none⟩ = some (valAt w' a pv) ∧ w'.frozen? ⟨a, pv, none⟩ = false)
          (first
            | (with_reducible exact ⟨A0, A1, A2, A3, A4, A5, A6, A7⟩)
            | (go_split_ands; (with_reducible refine ⟨keepC hb1 ?_, keepC hb1 ?_, keepC hb1 ?_, keepC hb1 ?_, keepC hb1 ?_, keepC hb1 ?_, keepV hb1 ?_, keepF hb1 (v := valAt w5.drew a pv) ?_ ?_⟩) <;> assumption)
            | (go_split_ands; (with_reducible refine ⟨setC ?_ N1, setC ?_ N2, setC ?_ N2, setC ?_ N3, setC ?_ N2, setC ?_ N4, setV ?_, setF ?_⟩) <;> assumption))
          ((go_at_call 25; (with_reducible refine (CP.out _).mono ?_); rintro e w6 ⟨rfl, hb1⟩))
        have hB6 : Below w5.heap.size w5 w6 := ((Below.refl _ w5).drew).trans hb1
        have hE7 := (HE5.out.move hB6).putB pv xb
        clear A0 A1 A2 A3 A4 A5 A6 A7
        generalize w6.setCell ⟨a, pv, none⟩ (.bool xb) = w7 at *
        clear hB6 hb1
        rw [← HPV.out] at hE7
        cases hrb : gR.getD i false with
        | true =>
          cases hdb : gD.getD i false with
          | true =>
            have hw7 := hE7
            have g3 : w7.cell? ⟨w.heap.size, 3, none⟩ = some (.slice (some ⟨b2, o2, none⟩) n cr) := Lib.cell_of_heap hE7.eg 3
            have xr : w7.cell? ⟨b2, o2 + i, none⟩ = some (.bool true) := (hE7.below.cell (p := ⟨b2, o2 + i, none⟩) (World.block_lt_of_cell? w _ (ZR.out i hlt))).trans ((ZR.out i hlt).trans (by rw [hrb]))
            have g4 : w7.cell? ⟨w.heap.size, 4, none⟩ = some (.slice (some ⟨b3, o3, none⟩) n cd) := Lib.cell_of_heap hE7.eg 4
            have xd : w7.cell? ⟨b3, o3 + i, none⟩ = some (.bool true) := (hE7.below.cell (p := ⟨b3, o3 + i, none⟩) (World.block_lt_of_cell? w _ (ZD.out i hlt))).trans ((ZD.out i hlt).trans (by rw [hdb]))
            have g1 : w7.cell? ⟨w.heap.size, 1, none⟩ = some (.int .i64 (ww : Nat)) := Lib.cell_of_heap hE7.eg 1
            have HRB := Lib.hid hrb; have HDB := Lib.hid hdb; clear hrb hdb
            have HE7 := Lib.hid hE7; clear hE7 hw7
            have cR := bar_env (i := i) (j := i + 1) HE7.out hk ⟨e4, e5⟩ ⟨e2, e3⟩ (by have := HN.out; omega) (by have := HN.out; have := HJR.out HRB.out; omega) HN.out (by omega)
            rw [show (((i + 1 : Nat) : Int)) = (i : Int) + 1 from by push_cast; rfl] at cR
            have CR := Lib.hid cR; clear cR
            go_wp2_with fail
            refine CR.out.mono ?_
            rintro e w8 ⟨rfl, hE8⟩
            clear g3 xr g4 xd g1
            have g4 : w8.cell? ⟨w.heap.size, 4, none⟩ = some (.slice (some ⟨b3, o3, none⟩) n cd) := Lib.cell_of_heap hE8.eg 4
            have xd : w8.cell? ⟨b3, o3 + i, none⟩ = some (.bool true) := (hE8.below.cell (p := ⟨b3, o3 + i, none⟩) (World.block_lt_of_cell? w _ (ZD.out i hlt))).trans ((ZD.out i hlt).trans (by rw [HDB.out]))
            have g1 : w8.cell? ⟨w.heap.size, 1, none⟩ = some (.int .i64 (ww : Nat)) := Lib.cell_of_heap hE8.eg 1
            have HE8 := Lib.hid hE8; clear hE8
            have cD := bar_env (i := i) (j := i + ww) HE8.out hk ⟨e4, e5⟩ ⟨e2, e3⟩ (by have := HN.out; omega) (by have := HN.out; have := HJD.out HDB.out; omega) HN.out (by omega)
            rw [show (((i + ww : Nat) : Int)) = (i : Int) + (ww : Int) from by push_cast; rfl] at cD
            have CD := Lib.hid cD; clear cD
            have jd : i + ww < n := HJD.out HDB.out
            go_wp2_with fail
            refine CD.out.mono ?_
            rintro e w9 ⟨rfl, hE9⟩
            have HE9 := Lib.hid hE9; clear hE9
            have HX := Lib.hid (show TEnv w _ hh ww k (.slice (some ⟨b1, o1, none⟩) n cb) (.slice (some ⟨b2, o2, none⟩) n cr) (.slice (some ⟨b3, o3, none⟩) n cd) w.heap.size (w.heap.size + 1) w1.heap.size w3.heap.size (w.heap.size + 1 + 1) a b d ww hh n (turnN hh ww k gB gR gD (i + 1)) from by
              rw [turnN_succ]; unfold turnStep; simp only; rw [show widW hh ww k = hh from HWD.out, show gB.getD i false = xb from HXB.out, show gR.getD i false = true from HRB.out, show gD.getD i false = true from HDB.out]; simp only [if_true, if_false, Bool.false_eq_true]
              exact HE9.out)
            go_wp2_with fail
            go_roundg g'
            case measure => omega
            case rel => exact ⟨i + 1, by go_num, by omega, by omega, HX⟩
          | false =>
            have hw7 := hE7
            have g3 : w7.cell? ⟨w.heap.size, 3, none⟩ = some (.slice (some ⟨b2, o2, none⟩) n cr) := Lib.cell_of_heap hE7.eg 3
            have xr : w7.cell? ⟨b2, o2 + i, none⟩ = some (.bool true) := (hE7.below.cell (p := ⟨b2, o2 + i, none⟩) (World.block_lt_of_cell? w _ (ZR.out i hlt))).trans ((ZR.out i hlt).trans (by rw [hrb]))
            have g4 : w7.cell? ⟨w.heap.size, 4, none⟩ = some (.slice (some ⟨b3, o3, none⟩) n cd) := Lib.cell_of_heap hE7.eg 4
            have xd : w7.cell? ⟨b3, o3 + i, none⟩ = some (.bool false) := (hE7.below.cell (p := ⟨b3, o3 + i, none⟩) (World.block_lt_of_cell? w _ (ZD.out i hlt))).trans ((ZD.out i hlt).trans (by rw [hdb]))
            have g1 : w7.cell? ⟨w.heap.size, 1, none⟩ = some (.int .i64 (ww : Nat)) := Lib.cell_of_heap hE7.eg 1
            have HRB := Lib.hid hrb; have HDB := Lib.hid hdb; clear hrb hdb
            have HE7 := Lib.hid hE7; clear hE7 hw7
            have cR := bar_env (i := i) (j := i + 1) HE7.out hk ⟨e4, e5⟩ ⟨e2, e3⟩ (by have := HN.out; omega) (by have := HN.out; have := HJR.out HRB.out; omega) HN.out (by omega)
            rw [show (((i + 1 : Nat) : Int)) = (i : Int) + 1 from by push_cast; rfl] at cR
            have CR := Lib.hid cR; clear cR
            go_wp2_with fail
            refine CR.out.mono ?_
            rintro e w8 ⟨rfl, hE8⟩
            clear g3 xr g4 xd g1
            have g4 : w8.cell? ⟨w.heap.size, 4, none⟩ = some (.slice (some ⟨b3, o3, none⟩) n cd) := Lib.cell_of_heap hE8.eg 4
            have xd : w8.cell? ⟨b3, o3 + i, none⟩ = some (.bool false) := (hE8.below.cell (p := ⟨b3, o3 + i, none⟩) (World.block_lt_of_cell? w _ (ZD.out i hlt))).trans ((ZD.out i hlt).trans (by rw [HDB.out]))
            have g1 : w8.cell? ⟨w.heap.size, 1, none⟩ = some (.int .i64 (ww : Nat)) := Lib.cell_of_heap hE8.eg 1
            have HE8 := Lib.hid hE8; clear hE8
            have HX := Lib.hid (show TEnv w _ hh ww k (.slice (some ⟨b1, o1, none⟩) n cb) (.slice (some ⟨b2, o2, none⟩) n cr) (.slice (some ⟨b3, o3, none⟩) n cd) w.heap.size (w.heap.size + 1) w1.heap.size w3.heap.size (w.heap.size + 1 + 1) a b d ww hh n (turnN hh ww k gB gR gD (i + 1)) from by
              rw [turnN_succ]; unfold turnStep; simp only; rw [show widW hh ww k = hh from HWD.out, show gB.getD i false = xb from HXB.out, show gR.getD i false = true from HRB.out, show gD.getD i false = false from HDB.out]; simp only [if_true, if_false, Bool.false_eq_true]
              exact HE8.out)
            go_wp2_with fail
            go_roundg g'
            case measure => omega
            case rel => exact ⟨i + 1, by go_num, by omega, by omega, HX⟩
        | false =>
          cases hdb : gD.getD i false with
          | true =>
            have hw7 := hE7
            have g3 : w7.cell? ⟨w.heap.size, 3, none⟩ = some (.slice (some ⟨b2, o2, none⟩) n cr) := Lib.cell_of_heap hE7.eg 3
            have xr : w7.cell? ⟨b2, o2 + i, none⟩ = some (.bool false) := (hE7.below.cell (p := ⟨b2, o2 + i, none⟩) (World.block_lt_of_cell? w _ (ZR.out i hlt))).trans ((ZR.out i hlt).trans (by rw [hrb]))
            have g4 : w7.cell? ⟨w.heap.size, 4, none⟩ = some (.slice (some ⟨b3, o3, none⟩) n cd) := Lib.cell_of_heap hE7.eg 4
            have xd : w7.cell? ⟨b3, o3 + i, none⟩ = some (.bool true) := (hE7.below.cell (p := ⟨b3, o3 + i, none⟩) (World.block_lt_of_cell? w _ (ZD.out i hlt))).trans ((ZD.out i hlt).trans (by rw [hdb]))
            have g1 : w7.cell? ⟨w.heap.size, 1, none⟩ = some (.int .i64 (ww : Nat)) := Lib.cell_of_heap hE7.eg 1
            have HRB := Lib.hid hrb; have HDB := Lib.hid hdb; clear hrb hdb
            have HE7 := Lib.hid hE7; clear hE7 hw7
            have cD := bar_env (i := i) (j := i + ww) HE7.out hk ⟨e4, e5⟩ ⟨e2, e3⟩ (by have := HN.out; omega) (by have := HN.out; have := HJD.out HDB.out; omega) HN.out (by omega)
            rw [show (((i + ww : Nat) : Int)) = (i : Int) + (ww : Int) from by push_cast; rfl] at cD
            have CD := Lib.hid cD; clear cD
            have jd : i + ww < n := HJD.out HDB.out
            go_wp2_with fail
            refine CD.out.mono ?_
            rintro e w9 ⟨rfl, hE9⟩
            have HE9 := Lib.hid hE9; clear hE9
            have HX := Lib.hid (show TEnv w _ hh ww k (.slice (some ⟨b1, o1, none⟩) n cb) (.slice (some ⟨b2, o2, none⟩) n cr) (.slice (some ⟨b3, o3, none⟩) n cd) w.heap.size (w.heap.size + 1) w1.heap.size w3.heap.size (w.heap.size + 1 + 1) a b d ww hh n (turnN hh ww k gB gR gD (i + 1)) from by
              rw [turnN_succ]; unfold turnStep; simp only; rw [show widW hh ww k = hh from HWD.out, show gB.getD i false = xb from HXB.out, show gR.getD i false = false from HRB.out, show gD.getD i false = true from HDB.out]; simp only [if_true, if_false, Bool.false_eq_true]
              exact HE9.out)
            go_wp2_with fail
            go_roundg g'
            case measure => omega
            case rel => exact ⟨i + 1, by go_num, by omega, by omega, HX⟩
          | false =>
            have hw7 := hE7
            have g3 : w7.cell? ⟨w.heap.size, 3, none⟩ = some (.slice (some ⟨b2, o2, none⟩) n cr) := Lib.cell_of_heap hE7.eg 3
            have xr : w7.cell? ⟨b2, o2 + i, none⟩ = some (.bool false) := (hE7.below.cell (p := ⟨b2, o2 + i, none⟩) (World.block_lt_of_cell? w _ (ZR.out i hlt))).trans ((ZR.out i hlt).trans (by rw [hrb]))
            have g4 : w7.cell? ⟨w.heap.size, 4, none⟩ = some (.slice (some ⟨b3, o3, none⟩) n cd) := Lib.cell_of_heap hE7.eg 4
            have xd : w7.cell? ⟨b3, o3 + i, none⟩ = some (.bool false) := (hE7.below.cell (p := ⟨b3, o3 + i, none⟩) (World.block_lt_of_cell? w _ (ZD.out i hlt))).trans ((ZD.out i hlt).trans (by rw [hdb]))
            have g1 : w7.cell? ⟨w.heap.size, 1, none⟩ = some (.int .i64 (ww : Nat)) := Lib.cell_of_heap hE7.eg 1
            have HRB := Lib.hid hrb; have HDB := Lib.hid hdb; clear hrb hdb
            have HE7 := Lib.hid hE7; clear hE7 hw7
            have HX := Lib.hid (show TEnv w _ hh ww k (.slice (some ⟨b1, o1, none⟩) n cb) (.slice (some ⟨b2, o2, none⟩) n cr) (.slice (some ⟨b3, o3, none⟩) n cd) w.heap.size (w.heap.size + 1) w1.heap.size w3.heap.size (w.heap.size + 1 + 1) a b d ww hh n (turnN hh ww k gB gR gD (i + 1)) from by
              rw [turnN_succ]; unfold turnStep; simp only; rw [show widW hh ww k = hh from HWD.out, show gB.getD i false = xb from HXB.out, show gR.getD i false = false from HRB.out, show gD.getD i false = false from HDB.out]; simp only [if_true, if_false, Bool.false_eq_true]
              exact HE7.out)
            go_wp2_with fail
            go_roundg g'
            case measure => omega
            case rel => exact ⟨i + 1, by go_num, by omega, by omega, HX⟩
      · obtain rfl : n = i := by omega
        have hE := HE.out
        have u0 : w5.cell? ⟨w3.heap.size, 0, none⟩ = some (.int .i64 (ww : Nat)) := Lib.cell_of_heap hE.et 0
        have u1 : w5.cell? ⟨w3.heap.size, 1, none⟩ = some (.int .i64 (hh : Nat)) := Lib.cell_of_heap hE.et 1
        have u2 : w5.cell? ⟨w3.heap.size, 2, none⟩ = some (.slice (some ⟨a, 0, none⟩) n n) := Lib.cell_of_heap hE.et 2
        have u3 : w5.cell? ⟨w3.heap.size, 3, none⟩ = some (.slice (some ⟨b, 0, none⟩) n n) := Lib.cell_of_heap hE.et 3
        have u4 : w5.cell? ⟨w3.heap.size, 4, none⟩ = some (.slice (some ⟨d, 0, none⟩) n n) := Lib.cell_of_heap hE.et 4
        have y0 : w5.cell? ⟨w.heap.size + 1 + 1, 0, none⟩ = some (.int .i64 0) := Lib.cell_of_heap hE.er 0
        have y1 : w5.cell? ⟨w.heap.size + 1 + 1, 1, none⟩ = some (.int .i64 0) := Lib.cell_of_heap hE.er 1
        have y2 : w5.cell? ⟨w.heap.size + 1 + 1, 2, none⟩ = some (.slice none 0 0) := Lib.cell_of_heap hE.er 2
        have y3 : w5.cell? ⟨w.heap.size + 1 + 1, 3, none⟩ = some (.slice none 0 0) := Lib.cell_of_heap hE.er 3
        have y4 : w5.cell? ⟨w.heap.size + 1 + 1, 4, none⟩ = some (.slice none 0 0) := Lib.cell_of_heap hE.er 4
        have x0 : w5.frozen? ⟨w.heap.size + 1 + 1, 0, none⟩ = false := Lib.frozen_of_heap hE.er 0
        have x1 : w5.frozen? ⟨w.heap.size + 1 + 1, 1, none⟩ = false := Lib.frozen_of_heap hE.er 1
        have x2 : w5.frozen? ⟨w.heap.size + 1 + 1, 2, none⟩ = false := Lib.frozen_of_heap hE.er 2
        have x3 : w5.frozen? ⟨w.heap.size + 1 + 1, 3, none⟩ = false := Lib.frozen_of_heap hE.er 3
        have x4 : w5.frozen? ⟨w.heap.size + 1 + 1, 4, none⟩ = false := Lib.frozen_of_heap hE.er 4
        clear hE
        go_wp2_with fail
        have hE := HE.out
        refine bodyPost_ret (results_grid2 Tryd.results7 _ _ (w.heap.size + 1 + 1) 27 _ _ _ _ _ (0, 0) rfl (stored5 _ _ _ _ _ hE.er)) rfl ⟨⟨_, rfl, hE.result HN.out ⟨e4, e5⟩ ⟨e2, e3⟩ HH2.out HW2.out⟩, below5 hE.below (by omega)⟩
  · skip
    have HWD : Hid (widW hh ww k = ww) := Lib.hid (by unfold widW; simp only [ho, if_true, if_false])
    have HH2 : Hid (hh = if k % 2 = 1 then ww else hh) := Lib.hid (by simp only [ho, if_true, if_false])
    have HW2 : Hid (ww = if k % 2 = 1 then hh else ww) := Lib.hid (by simp only [ho, if_true, if_false])
    have cbl := fun W => Blank_any hh ww n W ⟨by omega, by omega⟩ ⟨by omega, by omega⟩ (HN.out)
    have CBL := Lib.hid cbl; clear cbl
    rw [show k % 2 = 0 by omega] at k5
    clear ho
    go_wp2_with fail
    refine (CBL.out _).mono ?_
    rintro e w3 ⟨a, b, d, rfl, hr3⟩
    have HE0 := Lib.hid (env_start (h2 := hh) (gB := gB) (gR := gR) (gD := gD) HBW.out z1 EG.out EK.out ER.out hr3 HN.out e1)
    have hb3 := hr3.below.mono (show w1.heap.size ≤ (w1.alloc (.cells #[.int .i64 (ww : Nat)] 3)).drew.heap.size by simp)
    have hz3 : w1.heap.size ≤ w3.heap.size := by have := hr3.below.size; simp at this; omega
    have q2 : w3.cell? ⟨w.heap.size, 2, none⟩ = some (.slice (some ⟨b1, o1, none⟩) n cb) := (hb3.cell (p := ⟨w.heap.size, 2, none⟩) l0).trans (((((Below.refl _ w1).alloc (Nat.le_refl _) _).drew).cell (p := ⟨w.heap.size, 2, none⟩) l0).trans (Lib.cell_of_heap EG.out 2))
    have l3 : w.heap.size < w3.heap.size := by omega
    clear hr3 hb3 p0 p1 p2
    go_wp2_with fail
    generalize w3.alloc (.cells #[.int .i64 (hh : Int), .int .i64 (ww : Int), .slice (some ⟨a, 0, none⟩) n n, .slice (some ⟨b, 0, none⟩) n n, .slice (some ⟨d, 0, none⟩) n n] 27) = W0 at *
    go_loopg [12, 42] n (fun gf _ u42 wr => ∃ i : Nat, u42 = .int .i64 i ∧ i ≤ n ∧ n ≤ i + gf ∧ Hid (TEnv w wr hh ww k (.slice (some ⟨b1, o1, none⟩) n cb) (.slice (some ⟨b2, o2, none⟩) n cr) (.slice (some ⟨b3, o3, none⟩) n cd) w.heap.size (w.heap.size + 1) w1.heap.size w3.heap.size (w.heap.size + 1 + 1) a b d hh ww n (turnN hh ww k gB gR gD i)))
    case atStart => exact ⟨0, rfl, Nat.zero_le _, by omega, HE0⟩
    case round =>
      rename World => w5
      obtain ⟨i, rfl, hi, hfu, HE⟩ := hrel
      by_cases hlt : i < n
      · obtain ⟨g', rfl⟩ : ∃ g', gk = g' + 1 := ⟨gk - 1, by omega⟩
        have hE := HE.out
        have hp := place_lt (h := hh) (w := ww) (k := k) (i := i) hk (by have := HN.out; omega)
        rw [HN.out] at hp
        have CP := Lib.hid (fun W => place_any hh ww k i W hk ⟨e4, e5⟩ ⟨e2, e3⟩ (by have := HN.out; omega))
        have HJR : Hid (gR.getD i false = true → i + 1 < n) := Lib.hid (fun h => by have h9 := ok_right HG.out (i := i) (by have := HN.out; simp only [Int.toNat_natCast]; omega) h; simp only [Int.toNat_natCast] at h9; have := next_in (i := i) (a := hh) (c := ww) e2 (by have := HN.out; omega) h9; have := HN.out; omega)
        have HJD : Hid (gD.getD i false = true → i + ww < n) := Lib.hid (fun h => by have h9 := ok_down HG.out (i := i) (by have := HN.out; simp only [Int.toNat_natCast]; omega) h; simp only [Int.toNat_natCast] at h9; have := below_in (i := i) (a := hh) (c := ww) e2 (by have := HN.out; omega) h9; have := HN.out; omega)
        obtain ⟨pv, hpv⟩ : ∃ pv, placeW hh ww k i = pv := ⟨_, rfl⟩
        rw [hpv] at hp CP
        obtain ⟨v0, hv0⟩ := row_cell hE.fill.oa hp
        have N1 : a ≠ w3.heap.size := hE.na.2.2.2.1
        have N2 : a ≠ w.heap.size := hE.na.1
        have N3 : a ≠ w.heap.size + 1 := hE.na.2.1
        have N4 : a ≠ b1 := by have := World.block_lt_of_cell? w _ (ZB.out i hlt); have := hE.oa; simp only at *; omega
        have A0 : w5.drew.cell? ⟨w3.heap.size, 2, none⟩ = some (.slice (some ⟨a, 0, none⟩) n n) := Lib.cell_of_heap hE.et 2
        have A1 : w5.drew.cell? ⟨w.heap.size, 0, none⟩ = some (.int .i64 (hh : Nat)) := Lib.cell_of_heap hE.eg 0
        have A2 : w5.drew.cell? ⟨w.heap.size, 1, none⟩ = some (.int .i64 (ww : Nat)) := Lib.cell_of_heap hE.eg 1
        have A3 : w5.drew.cell? ⟨w.heap.size + 1, 0, none⟩ = some (.int .i64 (k : Nat)) := Lib.cell_of_heap hE.ek 0
        have A4 : w5.drew.cell? ⟨w.heap.size, 2, none⟩ = some (.slice (some ⟨b1, o1, none⟩) n cb) := Lib.cell_of_heap hE.eg 2
        obtain ⟨xb, hxb⟩ : ∃ xb, gB.getD i false = xb := ⟨_, rfl⟩
        have A5 : w5.drew.cell? ⟨b1, o1 + i, none⟩ = some (.bool xb) := (hE.below.cell (p := ⟨b1, o1 + i, none⟩) (World.block_lt_of_cell? w _ (ZB.out i hlt))).trans ((ZB.out i hlt).trans (by rw [hxb]))
        have HXB := Lib.hid hxb; clear hxb
        have A6 : w5.drew.cell? ⟨a, pv, none⟩ = some (valAt w5.drew a pv) := valAt_of (show w5.drew.cell? ⟨a, pv, none⟩ = some v0 from hv0)
        have A7 : w5.drew.frozen? ⟨a, pv, none⟩ = false := row_frozen hE.fill.oa hp
        have HPV := Lib.hid hpv; have HE5 := Lib.hid hE
        clear hpv hE hv0 HE
        have i1 : (0 : Int) ≤ (i : Int) := by omega
        have i2 : (i : Int) < (n : Int) := by omega
        have i3 : (0 : Int) ≤ (pv : Int) := by omega
        have i4 : (pv : Int) < (n : Int) := by omega
        go_wp2_with fail
        go_region_held3 (fun w' => w'.cell? ⟨w3.heap.size, 2, none⟩ = some (.slice (some ⟨a, 0, none⟩) n n) ∧ w'.cell? ⟨w.heap.size, 0, none⟩ = some (.int .i64 (hh : Nat)) ∧ w'.cell? ⟨w.heap.size, 1, none⟩ = some (.int .i64 (ww : Nat)) ∧ w'.cell? ⟨w.heap.size + 1, 0, none⟩ = some (.int .i64 (k : Nat)) ∧ w'.cell? ⟨w.heap.size, 2, none⟩ = some (.slice (some ⟨b1, o1, none⟩) n cb) ∧ w'.cell? ⟨b1, o1 + i, none⟩ = some (.bool xb) ∧ w'.cell? ⟨a, pv, none⟩ = some (valAt w' a pv) ∧ w'.frozen? ⟨a, pv, none⟩ = false)
          (first
            | (with_reducible exact ⟨A0, A1, A2, A3, A4, A5, A6, A7⟩)
            | (go_split_ands; (with_reducible refine ⟨keepC hb1 ?_, keepC hb1 ?_, keepC hb1 ?_, keepC hb1 ?_, keepC hb1 ?_, keepC hb1 ?_, keepV hb1 ?_, keepF hb1 (v := valAt w5.drew a pv) ?_ ?_⟩) <;> assumption)
            | (go_split_ands; (with_reducible refine ⟨setC ?_ N1, setC ?_ N2, setC ?_ N2, setC ?_ N3, setC ?_ N2, setC ?_ N4, setV ?_, setF ?_⟩) <;> assumption))
          ((go_at_call 25; (with_reducible refine (CP.out _).mono ?_); rintro e w6 ⟨rfl, hb1⟩))
        have hB6 : Below w5.heap.size w5 w6 := ((Below.refl _ w5).drew).trans hb1
        have hE7 := (HE5.out.move hB6).putB pv xb
        clear A0 A1 A2 A3 A4 A5 A6 A7
        generalize w6.setCell ⟨a, pv, none⟩ (.bool xb) = w7 at *
        clear hB6 hb1
        rw [← HPV.out] at hE7
        cases hrb : gR.getD i false with
        | true =>
          cases hdb : gD.getD i false with
          | true =>
            have hw7 := hE7
            have g3 : w7.cell? ⟨w.heap.size, 3, none⟩ = some (.slice (some ⟨b2, o2, none⟩) n cr) := Lib.cell_of_heap hE7.eg 3
            have xr : w7.cell? ⟨b2, o2 + i, none⟩ = some (.bool true) := (hE7.below.cell (p := ⟨b2, o2 + i, none⟩) (World.block_lt_of_cell? w _ (ZR.out i hlt))).trans ((ZR.out i hlt).trans (by rw [hrb]))
            have g4 : w7.cell? ⟨w.heap.size, 4, none⟩ = some (.slice (some ⟨b3, o3, none⟩) n cd) := Lib.cell_of_heap hE7.eg 4
            have xd : w7.cell? ⟨b3, o3 + i, none⟩ = some (.bool true) := (hE7.below.cell (p := ⟨b3, o3 + i, none⟩) (World.block_lt_of_cell? w _ (ZD.out i hlt))).trans ((ZD.out i hlt).trans (by rw [hdb]))
            have g1 : w7.cell? ⟨w.heap.size, 1, none⟩ = some (.int .i64 (ww : Nat)) := Lib.cell_of_heap hE7.eg 1
            have HRB := Lib.hid hrb; have HDB := Lib.hid hdb; clear hrb hdb
            have HE7 := Lib.hid hE7; clear hE7 hw7
            have cR := bar_env (i := i) (j := i + 1) HE7.out hk ⟨e4, e5⟩ ⟨e2, e3⟩ (by have := HN.out; omega) (by have := HN.out; have := HJR.out HRB.out; omega) HN.out (by omega)
            rw [show (((i + 1 : Nat) : Int)) = (i : Int) + 1 from by push_cast; rfl] at cR
            have CR := Lib.hid cR; clear cR
            go_wp2_with fail
            refine CR.out.mono ?_
            rintro e w8 ⟨rfl, hE8⟩
            clear g3 xr g4 xd g1
            have g4 : w8.cell? ⟨w.heap.size, 4, none⟩ = some (.slice (some ⟨b3, o3, none⟩) n cd) := Lib.cell_of_heap hE8.eg 4
            have xd : w8.cell? ⟨b3, o3 + i, none⟩ = some (.bool true) := (hE8.below.cell (p := ⟨b3, o3 + i, none⟩) (World.block_lt_of_cell? w _ (ZD.out i hlt))).trans ((ZD.out i hlt).trans (by rw [HDB.out]))
            have g1 : w8.cell? ⟨w.heap.size, 1, none⟩ = some (.int .i64 (ww : Nat)) := Lib.cell_of_heap hE8.eg 1
            have HE8 := Lib.hid hE8; clear hE8
            have cD := bar_env (i := i) (j := i + ww) HE8.out hk ⟨e4, e5⟩ ⟨e2, e3⟩ (by have := HN.out; omega) (by have := HN.out; have := HJD.out HDB.out; omega) HN.out (by omega)
            rw [show (((i + ww : Nat) : Int)) = (i : Int) + (ww : Int) from by push_cast; rfl] at cD
            have CD := Lib.hid cD; clear cD
            have jd : i + ww < n := HJD.out HDB.out
            go_wp2_with fail
            refine CD.out.mono ?_
            rintro e w9 ⟨rfl, hE9⟩
            have HE9 := Lib.hid hE9; clear hE9
            have HX := Lib.hid (show TEnv w _ hh ww k (.slice (some ⟨b1, o1, none⟩) n cb) (.slice (some ⟨b2, o2, none⟩) n cr) (.slice (some ⟨b3, o3, none⟩) n cd) w.heap.size (w.heap.size + 1) w1.heap.size w3.heap.size (w.heap.size + 1 + 1) a b d hh ww n (turnN hh ww k gB gR gD (i + 1)) from by
              rw [turnN_succ]; unfold turnStep; simp only; rw [show widW hh ww k = ww from HWD.out, show gB.getD i false = xb from HXB.out, show gR.getD i false = true from HRB.out, show gD.getD i false = true from HDB.out]; simp only [if_true, if_false, Bool.false_eq_true]
              exact HE9.out)
            go_wp2_with fail
            go_roundg g'
            case measure => omega
            case rel => exact ⟨i + 1, by go_num, by omega, by omega, HX⟩
          | false =>
            have hw7 := hE7
            have g3 : w7.cell? ⟨w.heap.size, 3, none⟩ = some (.slice (some ⟨b2, o2, none⟩) n cr) := Lib.cell_of_heap hE7.eg 3
            have xr : w7.cell? ⟨b2, o2 + i, none⟩ = some (.bool true) := (hE7.below.cell (p := ⟨b2, o2 + i, none⟩) (World.block_lt_of_cell? w _ (ZR.out i hlt))).trans ((ZR.out i hlt).trans (by rw [hrb]))
            have g4 : w7.cell? ⟨w.heap.size, 4, none⟩ = some (.slice (some ⟨b3, o3, none⟩) n cd) := Lib.cell_of_heap hE7.eg 4
            have xd : w7.cell? ⟨b3, o3 + i, none⟩ = some (.bool false) := (hE7.below.cell (p := ⟨b3, o3 + i, none⟩) (World.block_lt_of_cell? w _ (ZD.out i hlt))).trans ((ZD.out i hlt).trans (by rw [hdb]))
            have g1 : w7.cell? ⟨w.heap.size, 1, none⟩ = some (.int .i64 (ww : Nat)) := Lib.cell_of_heap hE7.eg 1
            have HRB := Lib.hid hrb; have HDB := Lib.hid hdb; clear hrb hdb
            have HE7 := Lib.hid hE7; clear hE7 hw7
            have cR := bar_env (i := i) (j := i + 1) HE7.out hk ⟨e4, e5⟩ ⟨e2, e3⟩ (by have := HN.out; omega) (by have := HN.out; have := HJR.out HRB.out; omega) HN.out (by omega)
            rw [show (((i + 1 : Nat) : Int)) = (i : Int) + 1 from by push_cast; rfl] at cR
            have CR := Lib.hid cR; clear cR
            go_wp2_with fail
            refine CR.out.mono ?_
            rintro e w8 ⟨rfl, hE8⟩
            clear g3 xr g4 xd g1
            have g4 : w8.cell? ⟨w.heap.size, 4, none⟩ = some (.slice (some ⟨b3, o3, none⟩) n cd) := Lib.cell_of_heap hE8.eg 4
            have xd : w8.cell? ⟨b3, o3 + i, none⟩ = some (.bool false) := (hE8.below.cell (p := ⟨b3, o3 + i, none⟩) (World.block_lt_of_cell? w _ (ZD.out i hlt))).trans ((ZD.out i hlt).trans (by rw [HDB.out]))
            have g1 : w8.cell? ⟨w.heap.size, 1, none⟩ = some (.int .i64 (ww : Nat)) := Lib.cell_of_heap hE8.eg 1
            have HE8 := Lib.hid hE8; clear hE8
            have HX := Lib.hid (show TEnv w _ hh ww k (.slice (some ⟨b1, o1, none⟩) n cb) (.slice (some ⟨b2, o2, none⟩) n cr) (.slice (some ⟨b3, o3, none⟩) n cd) w.heap.size (w.heap.size + 1) w1.heap.size w3.heap.size (w.heap.size + 1 + 1) a b d hh ww n (turnN hh ww k gB gR gD (i + 1)) from by
              rw [turnN_succ]; unfold turnStep; simp only; rw [show widW hh ww k = ww from HWD.out, show gB.getD i false = xb from HXB.out, show gR.getD i false = true from HRB.out, show gD.getD i false = false from HDB.out]; simp only [if_true, if_false, Bool.false_eq_true]
              exact HE8.out)
            go_wp2_with fail
            go_roundg g'
            case measure => omega
            case rel => exact ⟨i + 1, by go_num, by omega, by omega, HX⟩
        | false =>
          cases hdb : gD.getD i false with
          | true =>
            have hw7 := hE7
            have g3 : w7.cell? ⟨w.heap.size, 3, none⟩ = some (.slice (some ⟨b2, o2, none⟩) n cr) := Lib.cell_of_heap hE7.eg 3
            have xr : w7.cell? ⟨b2, o2 + i, none⟩ = some (.bool false) := (hE7.below.cell (p := ⟨b2, o2 + i, none⟩) (World.block_lt_of_cell? w _ (ZR.out i hlt))).trans ((ZR.out i hlt).trans (by rw [hrb]))
            have g4 : w7.cell? ⟨w.heap.size, 4, none⟩ = some (.slice (some ⟨b3, o3, none⟩) n cd) := Lib.cell_of_heap hE7.eg 4
            have xd : w7.cell? ⟨b3, o3 + i, none⟩ = some (.bool true) := (hE7.below.cell (p := ⟨b3, o3 + i, none⟩) (World.block_lt_of_cell? w _ (ZD.out i hlt))).trans ((ZD.out i hlt).trans (by rw [hdb]))
            have g1 : w7.cell? ⟨w.heap.size, 1, none⟩ = some (.int .i64 (ww : Nat)) := Lib.cell_of_heap hE7.eg 1
            have HRB := Lib.hid hrb; have HDB := Lib.hid hdb; clear hrb hdb
            have HE7 := Lib.hid hE7; clear hE7 hw7
            have cD := bar_env (i := i) (j := i + ww) HE7.out hk ⟨e4, e5⟩ ⟨e2, e3⟩ (by have := HN.out; omega) (by have := HN.out; have := HJD.out HDB.out; omega) HN.out (by omega)
            rw [show (((i + ww : Nat) : Int)) = (i : Int) + (ww : Int) from by push_cast; rfl] at cD
            have CD := Lib.hid cD; clear cD
            have jd : i + ww < n := HJD.out HDB.out
            go_wp2_with fail
            refine CD.out.mono ?_
            rintro e w9 ⟨rfl, hE9⟩
            have HE9 := Lib.hid hE9; clear hE9
            have HX := Lib.hid (show TEnv w _ hh ww k (.slice (some ⟨b1, o1, none⟩) n cb) (.slice (some ⟨b2, o2, none⟩) n cr) (.slice (some ⟨b3, o3, none⟩) n cd) w.heap.size (w.heap.size + 1) w1.heap.size w3.heap.size (w.heap.size + 1 + 1) a b d hh ww n (turnN hh ww k gB gR gD (i + 1)) from by
              rw [turnN_succ]; unfold turnStep; simp only; rw [show widW hh ww k = ww from HWD.out, show gB.getD i false = xb from HXB.out, show gR.getD i false = false from HRB.out, show gD.getD i false = true from HDB.out]; simp only [if_true, if_false, Bool.false_eq_true]
              exact HE9.out)
            go_wp2_with fail
            go_roundg g'
            case measure => omega
            case rel => exact ⟨i + 1, by go_num, by omega, by omega, HX⟩
          | false =>
            have hw7 := hE7
            have g3 : w7.cell? ⟨w.heap.size, 3, none⟩ = some (.slice (some ⟨b2, o2, none⟩) n cr) := Lib.cell_of_heap hE7.eg 3
            have xr : w7.cell? ⟨b2, o2 + i, none⟩ = some (.bool false) := (hE7.below.cell (p := ⟨b2, o2 + i, none⟩) (World.block_lt_of_cell? w _ (ZR.out i hlt))).trans ((ZR.out i hlt).trans (by rw [hrb]))
            have g4 : w7.cell? ⟨w.heap.size, 4, none⟩ = some (.slice (some ⟨b3, o3, none⟩) n cd) := Lib.cell_of_heap hE7.eg 4
            have xd : w7.cell? ⟨b3, o3 + i, none⟩ = some (.bool false) := (hE7.below.cell (p := ⟨b3, o3 + i, none⟩) (World.block_lt_of_cell? w _ (ZD.out i hlt))).trans ((ZD.out i hlt).trans (by rw [hdb]))
            have g1 : w7.cell? ⟨w.heap.size, 1, none⟩ = some (.int .i64 (ww : Nat)) := Lib.cell_of_heap hE7.eg 1
            have HRB := Lib.hid hrb; have HDB := Lib.hid hdb; clear hrb hdb
            have HE7 := Lib.hid hE7; clear hE7 hw7
            have HX := Lib.hid (show TEnv w _ hh ww k (.slice (some ⟨b1, o1, none⟩) n cb) (.slice (some ⟨b2, o2, none⟩) n cr) (.slice (some ⟨b3, o3, none⟩) n cd) w.heap.size (w.heap.size + 1) w1.heap.size w3.heap.size (w.heap.size + 1 + 1) a b d hh ww n (turnN hh ww k gB gR gD (i + 1)) from by
              rw [turnN_succ]; unfold turnStep; simp only; rw [show widW hh ww k = ww from HWD.out, show gB.getD i false = xb from HXB.out, show gR.getD i false = false from HRB.out, show gD.getD i false = false from HDB.out]; simp only [if_true, if_false, Bool.false_eq_true]
              exact HE7.out)
            go_wp2_with fail
            go_roundg g'
            case measure => omega
            case rel => exact ⟨i + 1, by go_num, by omega, by omega, HX⟩
      · obtain rfl : n = i := by omega
        have hE := HE.out
        have u0 : w5.cell? ⟨w3.heap.size, 0, none⟩ = some (.int .i64 (hh : Nat)) := Lib.cell_of_heap hE.et 0
        have u1 : w5.cell? ⟨w3.heap.size, 1, none⟩ = some (.int .i64 (ww : Nat)) := Lib.cell_of_heap hE.et 1
        have u2 : w5.cell? ⟨w3.heap.size, 2, none⟩ = some (.slice (some ⟨a, 0, none⟩) n n) := Lib.cell_of_heap hE.et 2
        have u3 : w5.cell? ⟨w3.heap.size, 3, none⟩ = some (.slice (some ⟨b, 0, none⟩) n n) := Lib.cell_of_heap hE.et 3
        have u4 : w5.cell? ⟨w3.heap.size, 4, none⟩ = some (.slice (some ⟨d, 0, none⟩) n n) := Lib.cell_of_heap hE.et 4
        have y0 : w5.cell? ⟨w.heap.size + 1 + 1, 0, none⟩ = some (.int .i64 0) := Lib.cell_of_heap hE.er 0
        have y1 : w5.cell? ⟨w.heap.size + 1 + 1, 1, none⟩ = some (.int .i64 0) := Lib.cell_of_heap hE.er 1
        have y2 : w5.cell? ⟨w.heap.size + 1 + 1, 2, none⟩ = some (.slice none 0 0) := Lib.cell_of_heap hE.er 2
        have y3 : w5.cell? ⟨w.heap.size + 1 + 1, 3, none⟩ = some (.slice none 0 0) := Lib.cell_of_heap hE.er 3
        have y4 : w5.cell? ⟨w.heap.size + 1 + 1, 4, none⟩ = some (.slice none 0 0) := Lib.cell_of_heap hE.er 4
        have x0 : w5.frozen? ⟨w.heap.size + 1 + 1, 0, none⟩ = false := Lib.frozen_of_heap hE.er 0
        have x1 : w5.frozen? ⟨w.heap.size + 1 + 1, 1, none⟩ = false := Lib.frozen_of_heap hE.er 1
        have x2 : w5.frozen? ⟨w.heap.size + 1 + 1, 2, none⟩ = false := Lib.frozen_of_heap hE.er 2
        have x3 : w5.frozen? ⟨w.heap.size + 1 + 1, 3, none⟩ = false := Lib.frozen_of_heap hE.er 3
        have x4 : w5.frozen? ⟨w.heap.size + 1 + 1, 4, none⟩ = false := Lib.frozen_of_heap hE.er 4
        clear hE
        go_wp2_with fail
        have hE := HE.out
        refine bodyPost_ret (results_grid2 Tryd.results7 _ _ (w.heap.size + 1 + 1) 27 _ _ _ _ _ (0, 0) rfl (stored5 _ _ _ _ _ hE.er)) rfl ⟨⟨_, rfl, hE.result HN.out ⟨e4, e5⟩ ⟨e2, e3⟩ HH2.out HW2.out⟩, below5 hE.below (by omega)⟩
end Go.Proofs.YtonibpilbkafnaaDoor
