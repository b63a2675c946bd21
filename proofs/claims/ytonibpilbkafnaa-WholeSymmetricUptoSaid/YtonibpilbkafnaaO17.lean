/- Package grid: open, Open, Step. -/
import Derived.Test.YtonibpilbkafnaaO16
namespace Go.Proofs.Ytonibpilbkafnaa
set_option linter.unusedVariables false
set_option linter.unusedSimpArgs false
open Go.RowKit Go.Lib

set_option maxHeartbeats 8000000 in
set_option maxRecDepth 100000 in
theorem open_any (v : Value) (g : Gd) (i B : Nat) (w : World) (h : GdAt w B v g) (hB : B ≤ w.heap.size) (hg : OkG g) (hi : i < g.H.toNat * g.W.toNat) :
    Calls Try.prog 26 #[v, .int .i64 (i : Nat)] w fun e w' => e = .returned (.bool (!(gt g.B i))) ∧ Below w.heap.size w w' := by
  obtain ⟨e1, e2, e3, e4, e5⟩ := area_le hg
  have hlB := hg.b; have hlR := hg.r; have hlD := hg.d
  obtain ⟨Ab, Ar, Ad, cb, cr, cd, rfl⟩ := h.form
  obtain ⟨H, W, gB, gR, gD⟩ := g
  simp only at e1 e2 e3 e4 e5 hlB hlR hlD hi ⊢
  simp only [gdV] at h ⊢
  rw [hlB, hlR, hlD] at h ⊢
  obtain ⟨vb, vr, vd, hveq, s1, s2, s3⟩ := h.eq
  injection hveq with hveq
  injection hveq with hveq
  simp only [List.cons.injEq, and_true, true_and] at hveq
  obtain ⟨rfl, rfl, rfl⟩ := hveq
  have hpos : 0 < H.toNat * W.toNat := Nat.mul_pos e4 e2
  obtain ⟨b1, o1, rfl, zb⟩ := s1.boolsAt hpos
  have G1 : w.cell? ⟨b1, o1 + i, none⟩ = some (.bool (gt gB i)) := zb i hi
  have lb1 := World.block_lt_of_cell? w _ G1
  simp only at lb1
  clear zb s1 s2 s3 h hg hlB hlR hlD
  generalize H.toNat * W.toNat = n at *
  have i0 : (0 : Int) ≤ (i : Int) := by omega
  have i1 : (i : Int) < (n : Int) := by omega
  generalize gt gB i = x at *
  go_enter Try.func26, Try.ntmps26
  go_wp2
  go_ret
  exact ⟨rfl, (Below.refl _ w).alloc (Nat.le_refl _) _⟩
set_option maxHeartbeats 8000000 in
set_option maxRecDepth 100000 in
theorem Open_any (v : Value) (g : Gd) (i B : Nat) (w : World) (h : GdAt w B v g) (hB : B ≤ w.heap.size) (hg : OkG g) (hi : i < g.H.toNat * g.W.toNat) :
    Calls Try.prog 22 #[v, .int .i64 (i : Nat)] w fun e w' => e = .returned (.bool (!(gt g.B i))) ∧ Below w.heap.size w w' := by
  have e1 := (area_le hg).1
  have cch := fun W (hb : Below B w W) (hz : B ≤ W.heap.size) => Check_any v g B W (h.below hb) hz (by have := hg.b; have := hg.r; have := hg.d; omega)
  rw [check_of_ok hg] at cch
  have co := fun W (hb : Below B w W) (hz : B ≤ W.heap.size) => open_any v g i B W (h.below hb) hz hg hi
  obtain ⟨Ab, Ar, Ad, cb, cr, cd, rfl⟩ := h.form
  clear h hg
  generalize gt g.B i = x at *
  obtain ⟨H, W, gB, gR, gD⟩ := g
  simp only [gdV] at *
  generalize gB.length = nb at *
  generalize gR.length = nr at *
  generalize gD.length = nd at *
  have CCH := Lib.hid cch; have CO := Lib.hid co; clear cch co
  go_enter Try.func22, Try.ntmps22
  go_wp2_with fail
  have hba : Below w.heap.size w _ := (Below.refl _ w).alloc (Nat.le_refl _) (.cells #[.int .i64 H, .int .i64 W, .slice Ab nb cb, .slice Ar nr cr, .slice Ad nd cd] 24)
  have hg0 := World.alloc_heap_new w (.cells #[.int .i64 H, .int .i64 W, .slice Ab nb cb, .slice Ar nr cr, .slice Ad nd cd] 24)
  have hz0 : w.heap.size + 1 = (w.alloc (.cells #[.int .i64 H, .int .i64 W, .slice Ab nb cb, .slice Ar nr cr, .slice Ad nd cd] 24)).heap.size := by simp
  refine (CCH.out _ (hba.mono hB) (by omega)).mono ?_
  rintro e w1 ⟨rfl, hb1⟩
  have hg1 := (hb1.block w.heap.size (by omega)).trans hg0
  have p0 := Lib.cell_of_heap hg1 0
  have p1 := Lib.cell_of_heap hg1 1
  have p2 := Lib.cell_of_heap hg1 2
  have p3 := Lib.cell_of_heap hg1 3
  have p4 := Lib.cell_of_heap hg1 4
  have z1 := hb1.size
  have HBW := Lib.hid (hba.trans (hb1.mono (by omega)))
  have CO2 := Lib.hid (CO.out w1 (HBW.out.mono hB) (by omega))
  have HZ1 := Lib.hid (show w.heap.size ≤ w1.heap.size by omega)
  clear hba hg0 hz0 hb1 hg1 z1
  go_wp2_with fail
  refine CO2.out.mono ?_
  rintro e w2 ⟨rfl, hb2⟩
  have HB2 := Lib.hid (HBW.out.trans (hb2.mono HZ1.out)); clear hb2
  go_wp2_with fail
  go_ret
  exact ⟨rfl, HB2.out⟩
set_option maxHeartbeats 8000000 in
set_option maxRecDepth 100000 in
theorem Step_any (v : Value) (g : Gd) (i d B : Nat) (w : World) (h : GdAt w B v g) (hB : B ≤ w.heap.size) (hg : OkG g) (hi : i < g.H.toNat * g.W.toNat) (hd : d < 4) :
    Calls Try.prog 14 #[v, .int .i64 (i : Nat), .int .i64 (d : Nat)] w fun e w' => e = stepV (stW g.H.toNat g.W.toNat (gt g.B) (gt g.R) (gt g.D) i d) ∧ Below w.heap.size w w' := by
  have co := fun W (hb : Below B w W) (hz : B ≤ W.heap.size) => Open_any v g i B W (h.below hb) hz hg hi
  have cst : ∀ W (hb : Below B w W) (hz : B ≤ W.heap.size) (hx : gt g.B i = false), Calls Try.prog 23 #[v, .int .i64 (i : Nat), .int .i64 (d : Nat)] W fun e w' => e = stepV (stW g.H.toNat g.W.toNat (gt g.B) (gt g.R) (gt g.D) i d) ∧ Below W.heap.size W w' := by
    intro W hb hz hx
    rcases four hd with rfl | rfl | rfl | rfl
    · exact step0_any v g i B W (h.below hb) hz hg hi hx
    · exact step1_any v g i B W (h.below hb) hz hg hi hx
    · exact step2_any v g i B W (h.below hb) hz hg hi hx
    · exact step3_any v g i B W (h.below hb) hz hg hi hx
  have hno : gt g.B i = true → stW g.H.toNat g.W.toNat (gt g.B) (gt g.R) (gt g.D) i d = none := fun hx => by unfold stW; rw [if_pos (.inr hx)]
  generalize stW g.H.toNat g.W.toNat (gt g.B) (gt g.R) (gt g.D) i d = sv at *
  obtain ⟨Ab, Ar, Ad, cb, cr, cd, rfl⟩ := h.form
  clear h hg
  have d1 : ¬ (d : Int) < 0 := by omega
  have d2 : ¬ (3 : Int) < (d : Int) := by omega
  generalize hx : gt g.B i = x at *
  obtain ⟨H, W, gB, gR, gD⟩ := g
  simp only [gdV] at *
  generalize gB.length = nb at *
  generalize gR.length = nr at *
  generalize gD.length = nd at *
  have CS := Lib.hid cst; have CO := Lib.hid co; have HNO := Lib.hid hno; clear cst co hno hx
  go_enter Try.func14, Try.ntmps14
  go_wp2_with fail
  have hba : Below w.heap.size w _ := (Below.refl _ w).alloc (Nat.le_refl _) (.cells #[.int .i64 H, .int .i64 W, .slice Ab nb cb, .slice Ar nr cr, .slice Ad nd cd] 24)
  have hg0 := World.alloc_heap_new w (.cells #[.int .i64 H, .int .i64 W, .slice Ab nb cb, .slice Ar nr cr, .slice Ad nd cd] 24)
  have hz0 : w.heap.size + 1 = (w.alloc (.cells #[.int .i64 H, .int .i64 W, .slice Ab nb cb, .slice Ar nr cr, .slice Ad nd cd] 24)).heap.size := by simp
  refine (CO.out _ (hba.mono hB) (by omega)).mono ?_
  rintro e w1 ⟨rfl, hb1⟩
  have hg1 := (hb1.block w.heap.size (by omega)).trans hg0
  have p0 := Lib.cell_of_heap hg1 0
  have p1 := Lib.cell_of_heap hg1 1
  have p2 := Lib.cell_of_heap hg1 2
  have p3 := Lib.cell_of_heap hg1 3
  have p4 := Lib.cell_of_heap hg1 4
  have z1 := hb1.size
  have HBW := Lib.hid (hba.trans (hb1.mono (by omega)))
  have CO2 := Lib.hid (CS.out w1 (HBW.out.mono hB) (by omega))
  have HZ1 := Lib.hid (show w.heap.size ≤ w1.heap.size by omega)
  clear hba hg0 hz0 hb1 hg1 z1
  cases x with
  | true =>
    have SV := Lib.hid (HNO.out rfl)
    go_wp2_with fail
    go_ret2
    exact ⟨by rw [SV.out]; rfl, HBW.out⟩
  | false =>
    go_wp2_with fail
    refine (CO2.out (by simp)).mono ?_
    rintro e w2 ⟨rfl, hb2⟩
    have HB2 := Lib.hid (HBW.out.trans (hb2.mono HZ1.out)); clear hb2
    cases sv with
    | none =>
      unfold stepV
      go_wp2_with fail
      go_ret2
      exact ⟨rfl, HB2.out⟩
    | some j =>
      unfold stepV
      go_wp2_with fail
      go_ret2
      exact ⟨rfl, HB2.out⟩
end Go.Proofs.Ytonibpilbkafnaa
