/- The reader of a sketch in memory: put. -/
import Derived.Test.YtlkabghpcjlohaaDoorT5
import Derived.Laws.OwnMore
import Derived.OneCell
import Derived.Maps.AppendAt
namespace Go.Proofs.YtlkabghpcjlohaaDoor
set_option linter.unusedVariables false
set_option linter.unusedSimpArgs false
open Go.RowKit Go.Lib

/-- two slices of ours that share no block -/
def Apart (a b : Value) : Prop := ∀ j, a.ownBlock = some j → b.ownBlock ≠ some j
theorem Apart.symm {a b : Value} (h : Apart a b) : Apart b a := fun j hj h2 => h j h2 hj
theorem own_apart {w w' : World} {B e n : Nat} {a b : Value} {xs : List Value} (hb : w.ownsRow B e 1 b n xs) (hg : w.grownBy w' a.ownBlock) (h : Apart a b) : w'.ownsRow B e 1 b n xs :=
  hb.kept hg (by
    cases hx : b.ownBlock with
    | none => exact .inl rfl
    | some j => exact .inr (fun h2 => h j h2.symm hx))
theorem apart_new {w : World} {B e n N : Nat} {a a' b : Value} {xs : List Value} (hb : w.ownsRow B e 1 b n xs) (hN : w.heap.size ≤ N) (hat : a'.ownBlock = a.ownBlock ∨ a'.ownBlock = some N) (h : Apart a b) : Apart a' b := by
  intro j hj h2
  rcases hat with h3 | h3
  · exact h j (h3 ▸ hj) h2
  · have := (hb.lt j h2).2
    rw [h3] at hj
    injection hj with hj
    omega
theorem own_below6 {w w' : World} {B e n : Nat} {v : Value} {xs : List Value} (h : w.ownsRow B e 1 v n xs) (hb : Below w.heap.size w w') : w'.ownsRow B e 1 v n xs :=
  h.kept (row := none) ⟨hb.os, hb.tape, hb.output, hb.size, fun k hk _ => hb.block k hk⟩ (by
    rcases Classical.em (v.ownBlock = none) with h1 | h1
    · exact .inl h1
    · exact .inr h1)
theorem own_form6 {w : World} {B e : Nat} {v : Value} {n : Nat} {xs : List Value} (h : w.ownsRow B e 1 v n xs) : ∃ A c, v = .slice A n c := by
  rcases h.2 with ⟨hv, h0⟩ | ⟨g, cap, cur, hv, _⟩
  · exact ⟨none, 0, by rw [hv, h0]⟩
  · exact ⟨_, _, hv⟩
theorem infoBool : (Tryd.prog.info? 4).map (fun i => (i.zero, i.size, i.bytes)) = some (some (.bool false), 1, 1) := by kernel_rfl

/-- what has been read stays small -/
structure RdOk (s : Rd) : Prop where
  h : s.h ≤ 16
  w : s.w ≤ 16
  c : s.c ≤ 16
  b : s.B.length = s.h * s.w + s.c ∨ (s.h = 0 ∧ s.B.length = s.c)
  r : s.R.length = s.B.length
  d : s.D.length = s.B.length
  g : s.c ≠ 0 → s.h < 16
theorem RdOk.small {s : Rd} (k : RdOk s) : s.B.length ≤ 272 := by
  have h1 := k.h; have h2 := k.w; have h3 := k.c
  have := Nat.mul_le_mul h1 h2
  rcases k.b with h | h <;> omega
theorem RdOk.put {s : Rd} (k : RdOk s) (hc : ¬ (s.c = 16 ∨ s.h = 16)) (b : Bool) : RdOk { s with c := s.c + 1, B := s.B ++ [b], R := s.R ++ [false], D := s.D ++ [false] } := by
  have h1 := k.h; have h2 := k.w; have h3 := k.c; have h4 := k.r; have h5 := k.d
  refine ⟨h1, h2, by show s.c + 1 ≤ 16; omega, ?_, by simp [h4], by simp [h5], fun _ => by show s.h < 16; omega⟩
  simp only [List.length_append, List.length_singleton]
  rcases k.b with h | h
  · exact .inl (by omega)
  · exact .inr (by omega)
/-- a reader in memory: its block p, its three rows behind it -/
structure RdAt (p : Nat) (s : Rd) (W : World) (b r d : Value) : Prop where
  blk : RdBlk p s.h s.w s.c b r d W
  oB : W.ownsRow (p + 1) 4 1 b s.B.length (bools s.B)
  oR : W.ownsRow (p + 1) 4 1 r s.R.length (bools s.R)
  oD : W.ownsRow (p + 1) 4 1 d s.D.length (bools s.D)
  br : Apart b r
  bd : Apart b d
  rd : Apart r d
theorem RdAt.lt {p : Nat} {s : Rd} {W : World} {b r d : Value} (h : RdAt p s W b r d) : p < W.heap.size := (Array.getElem?_eq_some_iff.1 h.blk).1
theorem RdAt.draw {p : Nat} {s : Rd} {W : World} {b r d : Value} (h : RdAt p s W b r d) (q : Nat) : RdAt p s (W.drewN q) b r d := ⟨h.blk, h.oB, h.oR, h.oD, h.br, h.bd, h.rd⟩
theorem RdAt.f {p : Nat} {s : Rd} {W : World} {b r d : Value} (h : RdAt p s W b r d) (f : Nat) : RdAt p { s with f := f } W b r d := ⟨h.blk, h.oB, h.oR, h.oD, h.br, h.bd, h.rd⟩
theorem RdAt.below {p : Nat} {s : Rd} {W W' : World} {b r d : Value} (h : RdAt p s W b r d) (hb : Below W.heap.size W W') : RdAt p s W' b r d :=
  ⟨(hb.block p h.lt).trans h.blk, own_below6 h.oB hb, own_below6 h.oR hb, own_below6 h.oD hb, h.br, h.bd, h.rd⟩

theorem row_step {p e : Nat} {Wa w1 : World} {cs : Array Value} {T : TypeId} {v : Value} {n : Nat} {xs : List Value} {o : Obj} (hblk : Wa.heap[p]? = some (.cells cs T (0, 0))) (hown : Wa.ownsRow (p + 1) e 1 v n xs) (hg : (Wa.alloc o).grownBy w1 v.ownBlock) :
    w1.heap[p]? = some (.cells cs T (0, 0)) ∧ Below p Wa w1 := by
  have hp := (Array.getElem?_eq_some_iff.1 hblk).1
  refine ⟨(hg.block p (by simp; omega) (fun e => by have := (hown.lt p e.symm).1; omega)).trans ((Below.heap_alloc Wa o p hp).trans hblk), ?_⟩
  exact ((Below.refl p Wa).alloc (by omega) o).grown hg (by simp; omega) (fun j hj => by have := (hown.lt j hj).1; omega)
theorem news_at {W : World} {b : Addr} {u x : Value} {t : TypeId} : ∀ j v, [x][j]? = some v → ((W.setCell b u).alloc (.cells #[x] t)).cell? ((⟨W.heap.size, 0, none⟩ : Addr).add j) = some v := by
  intro j v hj
  have h := cell_one_new (W.setCell b u) x t j v hj
  rw [World.size_setCell] at h
  exact h
/-- what put answers -/
inductive PutPost (p : Nat) (s : Rd) (x : Bool) (W : World) : Ending → World → Prop
  | full (h : s.c = 16 ∨ s.h = 16) : PutPost p s x W (.returned (.bool false)) W
  | good (b r d : Value) (W' : World) (h : ¬ (s.c = 16 ∨ s.h = 16)) (hr : RdAt p { s with c := s.c + 1, B := s.B ++ [x], R := s.R ++ [false], D := s.D ++ [false] } W' b r d) (hb : Below p W W') : PutPost p s x W (.returned (.bool true)) W'

set_option maxHeartbeats 8000000 in
set_option maxRecDepth 100000 in
theorem put_any (p : Nat) (s : Rd) (x : Bool) (b r d : Value) (W : World) (hR : RdAt p s W b r d) (hk : RdOk s) :
    Calls Tryd.prog 52 #[.pointer (some ⟨p, 0, none⟩), .bool x] W (PutPost p s x W) := by
  obtain ⟨i0, hi, hz0, hz1, hz2⟩ := info_parts infoBool
  have hsm := hk.small
  have h4 := hk.r; have h5 := hk.d
  have kh := hk.h; have kc := hk.c
  obtain ⟨h, w, c, B, R, D, f⟩ := s
  simp only at hsm h4 h5 kh kc
  have hp := hR.lt
  obtain ⟨Ab, cb, rfl⟩ := own_form6 hR.oB
  obtain ⟨Ar, cr, rfl⟩ := own_form6 hR.oR
  obtain ⟨Ad, cd, rfl⟩ := own_form6 hR.oD
  have p0 := Lib.cell_of_heap hR.blk 0
  have p1 := Lib.cell_of_heap hR.blk 5
  have f1 := Lib.frozen_of_heap hR.blk 5
  have HR := Lib.hid hR
  have H4 := Lib.hid h4; have H5 := Lib.hid h5
  have l4 : R.length ≤ 272 := by omega
  have l5 : D.length ≤ 272 := by omega
  clear hR hk h4 h5
  by_cases h16 : c = 16
  · have t1 : ((c : Int) == 16) = true := by rw [beq_iff_eq]; omega
    have HC := Lib.hid h16; clear h16
    go_enter Tryd.func52, Tryd.ntmps52
    go_wp2
    go_ret
    exact .full (.inl HC.out)
  · have t1 : ((c : Int) == 16) = false := by simp; omega
    by_cases g16 : h = 16
    · have t2 : ((h : Int) == 16) = true := by rw [beq_iff_eq]; omega
      have HC := Lib.hid g16; have HC2 := Lib.hid h16; clear h16 g16
      go_enter Tryd.func52, Tryd.ntmps52
      go_wp2
      go_ret
      exact .full (.inr HC.out)
    · have t2 : ((h : Int) == 16) = false := by simp; omega
      have HC := Lib.hid g16; have HC2 := Lib.hid h16; clear h16 g16
      have q0 : (W.setCell ⟨p, 5, none⟩ (.int .i64 ((c : Int) + 1))).heap[p]? = some (.cells #[.int .i64 (h : Int), .int .i64 (w : Int), .slice Ab B.length cb, .slice Ar R.length cr, .slice Ad D.length cd, .int .i64 ((c : Int) + 1)] 76 (0, 0)) := heap_setCell_same W p 5 _ _ _ HR.out.blk
      have p2 := Lib.cell_of_heap HR.out.blk 2
      have oB : (W.setCell ⟨p, 5, none⟩ (.int .i64 ((c : Int) + 1))).ownsRow (p + 1) 4 1 (.slice Ab B.length cb) B.length (bools B) := ownsRow_setCell_below HR.out.oB (a := ⟨p, 5, none⟩) (Nat.lt_succ_self p) (.int .i64 ((c : Int) + 1))
      have oR : (W.setCell ⟨p, 5, none⟩ (.int .i64 ((c : Int) + 1))).ownsRow (p + 1) 4 1 (.slice Ar R.length cr) R.length (bools R) := ownsRow_setCell_below HR.out.oR (a := ⟨p, 5, none⟩) (Nat.lt_succ_self p) (.int .i64 ((c : Int) + 1))
      have oD : (W.setCell ⟨p, 5, none⟩ (.int .i64 ((c : Int) + 1))).ownsRow (p + 1) 4 1 (.slice Ad D.length cd) D.length (bools D) := ownsRow_setCell_below HR.out.oD (a := ⟨p, 5, none⟩) (Nat.lt_succ_self p) (.int .i64 ((c : Int) + 1))
      have k1 : Below p W (W.setCell ⟨p, 5, none⟩ (.int .i64 ((c : Int) + 1))) := (Below.refl p W).setCell (p := ⟨p, 5, none⟩) (Nat.le_refl _) _
      have aBR := HR.out.br; have aBD := HR.out.bd; have aRD := HR.out.rd
      have Q0 := Lib.hid q0; have AB := Lib.hid (And.intro aBR (And.intro aBD aRD)); have K1 := Lib.hid k1
      have OR := Lib.hid oR; have OD := Lib.hid oD; have OB := Lib.hid oB
      clear q0 aBR aBD aRD k1 oR oD oB
      go_enter Tryd.func52, Tryd.ntmps52
      go_wp2_with (first
        | (at_builtin; refine wpList_append_own_at _ rfl (.tmp 30) (.tmp 32) 43 rfl (p + 1) 4 i0 (.bool false) 1 1 Tryd.underlying43 hi hz0 hz1 hz2 rfl (by decide) _ _ _ rfl (OB.out.alloc _) ⟨W.heap.size, 0, none⟩ 1 1 [.bool x] rfl rfl news_at (by simp [Value.oneCell']) (by unfold maxLen; omega) (by omega) (by simp; omega) ?_; intro v1 w1 hown1 hg1 _ hat1; obtain ⟨A1, c1, rfl⟩ := own_form6 hown1; have s1 := Lib.hid (row_step Q0.out OB.out hg1); have z1 : p < w1.heap.size := (Array.getElem?_eq_some_iff.1 s1.out.1).1; have d2 := Lib.cell_of_heap s1.out.1 2; have e2 := Lib.cell_of_heap s1.out.1 3; have g2 := Lib.frozen_of_heap s1.out.1 2; have OR1 := Lib.hid (own_apart (OR.out.alloc _) hg1 AB.out.1); have OD1 := Lib.hid (own_apart (OD.out.alloc _) hg1 AB.out.2.1); have B1 := Lib.hid hown1; have T1 := Lib.hid hat1; clear hown1 hg1 hat1)
        | (at_builtin; refine wpList_append_own_at _ rfl (.tmp 42) (.tmp 43) 43 rfl (p + 1) 4 i0 (.bool false) 1 1 Tryd.underlying43 hi hz0 hz1 hz2 rfl (by decide) _ _ _ rfl ((ownsRow_setCell_below OR1.out (by simp) _).alloc _) ⟨w1.heap.size, 0, none⟩ 1 1 [.bool false] rfl rfl news_at (by simp [Value.oneCell']) (by unfold maxLen; omega) (by omega) (by simp; omega) ?_; intro v2 w2 hown2 hg2 _ hat2; obtain ⟨A2, c2, rfl⟩ := own_form6 hown2; have s2 := Lib.hid (row_step (heap_setCell_same w1 p 2 _ _ _ s1.out.1) (ownsRow_setCell_below OR1.out (a := ⟨p, 2, none⟩) (Nat.lt_succ_self p) _) hg2); have z2 : p < w2.heap.size := (Array.getElem?_eq_some_iff.1 s2.out.1).1; have d3 := Lib.cell_of_heap s2.out.1 3; have e3 := Lib.cell_of_heap s2.out.1 4; have g3 := Lib.frozen_of_heap s2.out.1 3; have OB2 := Lib.hid (own_apart ((ownsRow_setCell_below B1.out (a := ⟨p, 2, none⟩) (Nat.lt_succ_self p) _).alloc _) hg2 (apart_new OR.out (by simp) T1.out AB.out.1).symm); have OD2 := Lib.hid (own_apart ((ownsRow_setCell_below OD1.out (a := ⟨p, 2, none⟩) (Nat.lt_succ_self p) _).alloc _) hg2 AB.out.2.2); have B2 := Lib.hid hown2; have T2 := Lib.hid hat2; clear hown2 hg2 hat2)
        | (at_builtin; refine wpList_append_own_at _ rfl (.tmp 53) (.tmp 54) 43 rfl (p + 1) 4 i0 (.bool false) 1 1 Tryd.underlying43 hi hz0 hz1 hz2 rfl (by decide) _ _ _ rfl ((ownsRow_setCell_below OD2.out (by simp) _).alloc _) ⟨w2.heap.size, 0, none⟩ 1 1 [.bool false] rfl rfl news_at (by simp [Value.oneCell']) (by unfold maxLen; omega) (by omega) (by simp; omega) ?_; intro v3 w3 hown3 hg3 _ hat3; obtain ⟨A3, c3, rfl⟩ := own_form6 hown3; have s3 := Lib.hid (row_step (heap_setCell_same w2 p 3 _ _ _ s2.out.1) (ownsRow_setCell_below OD2.out (a := ⟨p, 3, none⟩) (Nat.lt_succ_self p) _) hg3); have d4 := Lib.cell_of_heap s3.out.1 4; have g4 := Lib.frozen_of_heap s3.out.1 4; have B3 := Lib.hid hown3; have T3 := Lib.hid hat3; have G3 := Lib.hid hg3; clear hown3 hg3 hat3))
      go_ret
      have lt := Nat.lt_succ_self p
      have P1 := apart_new OR.out (by simp) T1.out AB.out.1
      have P2 := apart_new OD.out (by simp) T1.out AB.out.2.1
      have P3 := apart_new (ownsRow_setCell_below B1.out (a := ⟨p, 2, none⟩) lt (.slice A1 (B.length + 1) c1)) (by simp) T2.out P1.symm
      have P4 := apart_new (ownsRow_setCell_below OD1.out (a := ⟨p, 2, none⟩) lt (.slice A1 (B.length + 1) c1)) (by simp) T2.out AB.out.2.2
      have P5 := apart_new (ownsRow_setCell_below OB2.out (a := ⟨p, 3, none⟩) lt (.slice A2 (R.length + 1) c2)) (by simp) T3.out P2.symm
      have P6 := apart_new (ownsRow_setCell_below B2.out (a := ⟨p, 3, none⟩) lt (.slice A2 (R.length + 1) c2)) (by simp) T3.out P4.symm
      have OB3 := own_apart ((ownsRow_setCell_below OB2.out (a := ⟨p, 3, none⟩) lt (.slice A2 (R.length + 1) c2)).alloc _) G3.out P2.symm
      have OR3 := own_apart ((ownsRow_setCell_below B2.out (a := ⟨p, 3, none⟩) lt (.slice A2 (R.length + 1) c2)).alloc _) G3.out P4.symm
      refine .good _ _ _ _ (fun e => e.elim HC2.out HC.out) ⟨heap_setCell_same w3 p 4 _ _ _ s3.out.1, ?_, ?_, ?_, P3.symm, P5.symm, P6.symm⟩ ?_
      · have := ownsRow_setCell_below OB3 (a := ⟨p, 4, none⟩) lt (.slice A3 (D.length + 1) c3)
        simpa [bools] using this
      · have := ownsRow_setCell_below OR3 (a := ⟨p, 4, none⟩) lt (.slice A3 (D.length + 1) c3)
        simpa [bools] using this
      · have := ownsRow_setCell_below B3.out (a := ⟨p, 4, none⟩) lt (.slice A3 (D.length + 1) c3)
        simpa [bools] using this
      · exact (((K1.out.trans s1.out.2).setCell (p := ⟨p, 2, none⟩) (Nat.le_refl _) _).trans s2.out.2 |>.setCell (p := ⟨p, 3, none⟩) (Nat.le_refl _) _).trans s3.out.2 |>.setCell (p := ⟨p, 4, none⟩) (Nat.le_refl _) _
end Go.Proofs.YtlkabghpcjlohaaDoor
