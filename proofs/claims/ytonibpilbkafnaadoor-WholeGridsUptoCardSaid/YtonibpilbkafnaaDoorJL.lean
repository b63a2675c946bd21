/- Joined texts: O17 O18 O19: walks and plain laws for this seat's program, each stated where it stands; conditions: as each states. -/
import Derived.Test.YtonibpilbkafnaaDoorJK
/- Package grid: open, Open, Step. -/
namespace Go.Proofs.YtonibpilbkafnaaDoor
set_option linter.unusedVariables false
set_option linter.unusedSimpArgs false
open Go.RowKit Go.Lib

set_option maxHeartbeats 8000000 in
set_option maxRecDepth 100000 in
theorem open_any (v : Value) (g : Gd) (i B : Nat) (w : World) (h : GdAt w B v g) (hB : B ≤ w.heap.size) (hg : OkG g) (hi : i < g.H.toNat * g.W.toNat) :
    Calls Tryd.prog 44 #[v, .int .i64 (i : Nat)] w fun e w' => e = .returned (.bool (!(gt g.B i))) ∧ Below w.heap.size w w' := by
  obtain ⟨e1, e2, e3, e4, e5⟩ := area_le hg
  have hlB := hg.b; have hlR := hg.r; have hlD := hg.d
  obtain ⟨Ab, Ar, Ad, cb, cr, cd, rfl⟩ := h.form
  obtain ⟨H, W, gB, gR, gD⟩ := g
  simp only at e1 e2 e3 e4 e5 hlB hlR hlD hi ⊢
  simp only [gdV] at h ⊢
  rw [hlB, hlR, hlD] at h ⊢
  obtain ⟨vb, vr, vd, hveq, s1, s2, s3⟩ := h.eq
  injection hveq with hveq
  injection hveq with hveq
  simp only [List.cons.injEq, and_true, true_and] at hveq
  obtain ⟨rfl, rfl, rfl⟩ := hveq
  have hpos : 0 < H.toNat * W.toNat := Nat.mul_pos e4 e2
  obtain ⟨b1, o1, rfl, zb⟩ := s1.boolsAt hpos
  have G1 : w.cell? ⟨b1, o1 + i, none⟩ = some (.bool (gt gB i)) := zb i hi
  have lb1 := World.block_lt_of_cell? w _ G1
  simp only at lb1
  clear zb s1 s2 s3 h hg hlB hlR hlD
  generalize H.toNat * W.toNat = n at *
  have i0 : (0 : Int) ≤ (i : Int) := by omega
  have i1 : (i : Int) < (n : Int) := by omega
  generalize gt gB i = x at *
  go_enter Tryd.func44, Tryd.ntmps44
  go_wp2
  go_ret
  exact ⟨rfl, (Below.refl _ w).alloc (Nat.le_refl _) _⟩
set_option maxHeartbeats 8000000 in
set_option maxRecDepth 100000 in
theorem Open_any (v : Value) (g : Gd) (i B : Nat) (w : World) (h : GdAt w B v g) (hB : B ≤ w.heap.size) (hg : OkG g) (hi : i < g.H.toNat * g.W.toNat) :
    Calls Tryd.prog 39 #[v, .int .i64 (i : Nat)] w fun e w' => e = .returned (.bool (!(gt g.B i))) ∧ Below w.heap.size w w' := by
  have e1 := (area_le hg).1
  have cch := fun W (hb : Below B w W) (hz : B ≤ W.heap.size) => Check_any v g B W (h.below hb) hz (by have := hg.b; have := hg.r; have := hg.d; omega)
  rw [check_of_ok hg] at cch
  have co := fun W (hb : Below B w W) (hz : B ≤ W.heap.size) => open_any v g i B W (h.below hb) hz hg hi
  obtain ⟨Ab, Ar, Ad, cb, cr, cd, rfl⟩ := h.form
  clear h hg
  generalize gt g.B i = x at *
  obtain ⟨H, W, gB, gR, gD⟩ := g
  simp only [gdV] at *
  generalize gB.length = nb at *
  generalize gR.length = nr at *
  generalize gD.length = nd at *
  have CCH := Lib.hid cch; have CO := Lib.hid co; clear cch co
  go_enter Tryd.func39, Tryd.ntmps39
  go_wp2_with fail
  have hba : Below w.heap.size w _ := (Below.refl _ w).alloc (Nat.le_refl _) (.cells #[.int .i64 H, .int .i64 W, .slice Ab nb cb, .slice Ar nr cr, .slice Ad nd cd] 27)
  have hg0 := World.alloc_heap_new w (.cells #[.int .i64 H, .int .i64 W, .slice Ab nb cb, .slice Ar nr cr, .slice Ad nd cd] 27)
  have hz0 : w.heap.size + 1 = (w.alloc (.cells #[.int .i64 H, .int .i64 W, .slice Ab nb cb, .slice Ar nr cr, .slice Ad nd cd] 27)).heap.size := by simp
  refine (CCH.out _ (hba.mono hB) (by omega)).mono ?_
  rintro e w1 ⟨rfl, hb1⟩
  have hg1 := (hb1.block w.heap.size (by omega)).trans hg0
  have p0 := Lib.cell_of_heap hg1 0
  have p1 := Lib.cell_of_heap hg1 1
  have p2 := Lib.cell_of_heap hg1 2
  have p3 := Lib.cell_of_heap hg1 3
  have p4 := Lib.cell_of_heap hg1 4
  have z1 := hb1.size
  have HBW := Lib.hid (hba.trans (hb1.mono (by omega)))
  have CO2 := Lib.hid (CO.out w1 (HBW.out.mono hB) (by omega))
  have HZ1 := Lib.hid (show w.heap.size ≤ w1.heap.size by omega)
  clear hba hg0 hz0 hb1 hg1 z1
  go_wp2_with fail
  refine CO2.out.mono ?_
  rintro e w2 ⟨rfl, hb2⟩
  have HB2 := Lib.hid (HBW.out.trans (hb2.mono HZ1.out)); clear hb2
  go_wp2_with fail
  go_ret
  exact ⟨rfl, HB2.out⟩
set_option maxHeartbeats 8000000 in
set_option maxRecDepth 100000 in
theorem Step_any (v : Value) (g : Gd) (i d B : Nat) (w : World) (h : GdAt w B v g) (hB : B ≤ w.heap.size) (hg : OkG g) (hi : i < g.H.toNat * g.W.toNat) (hd : d < 4) :
    Calls Tryd.prog 28 #[v, .int .i64 (i : Nat), .int .i64 (d : Nat)] w fun e w' => e = stpV (stW g.H.toNat g.W.toNat (gt g.B) (gt g.R) (gt g.D) i d) ∧ Below w.heap.size w w' := by
  have co := fun W (hb : Below B w W) (hz : B ≤ W.heap.size) => Open_any v g i B W (h.below hb) hz hg hi
  have cst : ∀ W (hb : Below B w W) (hz : B ≤ W.heap.size) (hx : gt g.B i = false), Calls Tryd.prog 40 #[v, .int .i64 (i : Nat), .int .i64 (d : Nat)] W fun e w' => e = stpV (stW g.H.toNat g.W.toNat (gt g.B) (gt g.R) (gt g.D) i d) ∧ Below W.heap.size W w' := by
    intro W hb hz hx
    rcases four hd with rfl | rfl | rfl | rfl
    · exact step0_any v g i B W (h.below hb) hz hg hi hx
    · exact step1_any v g i B W (h.below hb) hz hg hi hx
    · exact step2_any v g i B W (h.below hb) hz hg hi hx
    · exact step3_any v g i B W (h.below hb) hz hg hi hx
  have hno : gt g.B i = true → stW g.H.toNat g.W.toNat (gt g.B) (gt g.R) (gt g.D) i d = none := fun hx => by unfold stW; rw [if_pos (.inr hx)]
  generalize stW g.H.toNat g.W.toNat (gt g.B) (gt g.R) (gt g.D) i d = sv at *
  obtain ⟨Ab, Ar, Ad, cb, cr, cd, rfl⟩ := h.form
  clear h hg
  have d1 : ¬ (d : Int) < 0 := by omega
  have d2 : ¬ (3 : Int) < (d : Int) := by omega
  generalize hx : gt g.B i = x at *
  obtain ⟨H, W, gB, gR, gD⟩ := g
  simp only [gdV] at *
  generalize gB.length = nb at *
  generalize gR.length = nr at *
  generalize gD.length = nd at *
  have CS := Lib.hid cst; have CO := Lib.hid co; have HNO := Lib.hid hno; clear cst co hno hx
  go_enter Tryd.func28, Tryd.ntmps28
  go_wp2_with fail
  have hba : Below w.heap.size w _ := (Below.refl _ w).alloc (Nat.le_refl _) (.cells #[.int .i64 H, .int .i64 W, .slice Ab nb cb, .slice Ar nr cr, .slice Ad nd cd] 27)
  have hg0 := World.alloc_heap_new w (.cells #[.int .i64 H, .int .i64 W, .slice Ab nb cb, .slice Ar nr cr, .slice Ad nd cd] 27)
  have hz0 : w.heap.size + 1 = (w.alloc (.cells #[.int .i64 H, .int .i64 W, .slice Ab nb cb, .slice Ar nr cr, .slice Ad nd cd] 27)).heap.size := by simp
  refine (CO.out _ (hba.mono hB) (by omega)).mono ?_
  rintro e w1 ⟨rfl, hb1⟩
  have hg1 := (hb1.block w.heap.size (by omega)).trans hg0
  have p0 := Lib.cell_of_heap hg1 0
  have p1 := Lib.cell_of_heap hg1 1
  have p2 := Lib.cell_of_heap hg1 2
  have p3 := Lib.cell_of_heap hg1 3
  have p4 := Lib.cell_of_heap hg1 4
  have z1 := hb1.size
  have HBW := Lib.hid (hba.trans (hb1.mono (by omega)))
  have CO2 := Lib.hid (CS.out w1 (HBW.out.mono hB) (by omega))
  have HZ1 := Lib.hid (show w.heap.size ≤ w1.heap.size by omega)
  clear hba hg0 hz0 hb1 hg1 z1
  cases x with
  | true =>
    have SV := Lib.hid (HNO.out rfl)
    go_wp2_with fail
    go_ret2
    exact ⟨by rw [SV.out]; rfl, HBW.out⟩
  | false =>
    go_wp2_with fail
    refine (CO2.out (by simp)).mono ?_
    rintro e w2 ⟨rfl, hb2⟩
    have HB2 := Lib.hid (HBW.out.trans (hb2.mono HZ1.out)); clear hb2
    cases sv with
    | none =>
      unfold stpV
      go_wp2_with fail
      go_ret2
      exact ⟨rfl, HB2.out⟩
    | some j =>
      unfold stpV
      go_wp2_with fail
      go_ret2
      exact ⟨rfl, HB2.out⟩
end Go.Proofs.YtonibpilbkafnaaDoor

/- Package slots: List's gather. -/
namespace Go.Proofs.YtonibpilbkafnaaDoor
set_option linter.unusedVariables false
set_option linter.unusedSimpArgs false
open Go.RowKit Go.Lib

abbrev stpG (g : Gd) : Nat → Nat → Option Nat := stW g.H.toNat g.W.toNat (gt g.B) (gt g.R) (gt g.D)
theorem own_one (w : World) (x : Nat) : (w.alloc (.cells #[.int .i64 (x : Nat)] 3)).ownsRow w.heap.size 3 1 (.slice (some ⟨w.heap.size, 0, none⟩) 1 1) 1 (ints [x]) := by
  refine ⟨rfl, .inr ⟨w.heap.size, 1, _, rfl, Nat.le_refl _, World.alloc_heap_new w _, Nat.le_refl _, by unfold maxLen; omega, by simp, ?_⟩⟩
  simp [ints]
set_option maxHeartbeats 8000000 in
set_option maxRecDepth 100000 in
theorem gather_any (v : Value) (g : Gd) (i d B bg : Nat) (w : World) (h : GdAt w B v g) (hB : B ≤ w.heap.size) (hg : OkG g) (hi : i < g.H.toNat * g.W.toNat) (hd : d < 2) (eg : ∃ xs, v = .agg xs ∧ w.heap[bg]? = some (.cells xs 27 (0, 0))) :
    Calls Tryd.prog 27 #[.int .i64 (i : Nat), .int .i64 (d : Nat), .pointer (some ⟨bg, 0, none⟩)] w fun e w' => ∃ A c, e = .returned (.slice A (gath (stpG g) d (g.H.toNat * g.W.toNat) i).length c) ∧
      w'.ownsRow w.heap.size 3 1 (.slice A (gath (stpG g) d (g.H.toNat * g.W.toNat) i).length c) (gath (stpG g) d (g.H.toNat * g.W.toNat) i).length (ints (gath (stpG g) d (g.H.toNat * g.W.toNat) i)) ∧ Below w.heap.size w w' := by
  have h256 := (area_le hg).1
  have cs := fun (j : Nat) (W : World) (hj : j < g.H.toNat * g.W.toNat) (hb : Below w.heap.size w W) => Step_any v g j d B W (h.below (hb.mono hB)) (Nat.le_trans hB hb.size) hg hj (by omega)
  have hup : ∀ i j, stpG g i d = some j → i < j ∧ j < g.H.toNat * g.W.toNat := fun i j hs => st_up hd hs
  obtain ⟨Ab, Ar, Ad, cb, cr, cd, rfl⟩ := h.form
  obtain ⟨xs, hxs, eg⟩ := eg
  injection hxs with hxs
  obtain ⟨i0, hi0, hz0, hz1, hz2⟩ := info_parts infoInt
  clear h hg
  unfold stpG at *
  generalize stW g.H.toNat g.W.toNat (gt g.B) (gt g.R) (gt g.D) = st at *
  generalize g.H.toNat * g.W.toNat = n at *
  subst hxs
  have lbg := (Array.getElem?_eq_some_iff.1 eg).1
  have CS := Lib.hid cs; have HUP := Lib.hid hup; have EG := Lib.hid eg
  clear cs hup eg
  simp only [gdV] at CS
  obtain ⟨gH, gW, gB, gR, gD⟩ := g
  simp only at CS EG
  generalize gB.length = nb at *
  generalize gR.length = nr at *
  generalize gD.length = nd at *
  generalize hgl : gath st d n i = gl at *
  have HGL := Lib.hid hgl; clear hgl
  go_enter Tryd.func27, Tryd.ntmps27
  go_wp2
  have ho1 := own_one w i
  have hb1 : Below w.heap.size w _ := (Below.refl _ w).alloc (Nat.le_refl _) (.cells #[.int .i64 (i : Nat)] 3)
  generalize w.alloc (.cells #[.int .i64 (i : Nat)] 3) = W0 at *
  have HO1 := Lib.hid ho1; have HB1 := Lib.hid hb1; clear ho1 hb1
  have HGI := Lib.hid (GInv.start st d n i)
  go_loopg [0, 6, 7, 8] n (fun gf u0 u6 _ _ wr => ∃ (j : Nat) (pre : List Nat) (A : Option Addr) (c : Nat), u0 = .int .i64 j ∧ u6 = .slice A pre.length c ∧ j < n ∧ n ≤ j + gf ∧ pre.length ≤ j + 1 ∧ Hid (GInv st d n i pre j) ∧ Hid (Below w.heap.size w wr) ∧ Hid (wr.ownsRow w.heap.size 3 1 (.slice A pre.length c) pre.length (ints pre)))
  case atStart => exact ⟨i, [i], some ⟨w.heap.size, 0, none⟩, 1, rfl, rfl, hi, by omega, by simp, HGI, HB1, HO1⟩
  case round =>
    rename World => w5
    obtain ⟨j, pre, A, c, rfl, rfl, hj, hfu, hpl, HI, HB, HO⟩ := hrel
    have eg5 := (HB.out.block bg lbg).trans EG.out
    have p0 := Lib.cell_of_heap eg5 0
    have p1 := Lib.cell_of_heap eg5 1
    have p2 := Lib.cell_of_heap eg5 2
    have p3 := Lib.cell_of_heap eg5 3
    have p4 := Lib.cell_of_heap eg5 4
    clear eg5
    have z5 := HB.out.size
    go_wp2_with fail
    refine (CS.out j w5 hj HB.out).mono ?_
    rintro e w6 ⟨rfl, hb6⟩
    have z6 := hb6.size
    have HB6 := Lib.hid (HB.out.trans (hb6.mono z5))
    have hown := own_belowS HO.out hb6
    clear hb6 p0 p1 p2 p3 p4
    cases hs : st j d with
    | none =>
      have HE := Lib.hid (HGL.out.symm.trans (HI.out.stop hs))
      clear hs
      have HOW := Lib.hid hown; clear hown
      unfold stpV
      go_wp2_with fail
      go_ret
      refine ⟨A, c, ?_, ?_, HB6.out⟩
      · rw [HE.out]; rfl
      · rw [HE.out]; exact HOW.out
    | some j2 =>
      obtain ⟨u1, u2⟩ := HUP.out j j2 hs
      have HI2 := Lib.hid (HI.out.go HUP.out hs)
      clear hs
      obtain ⟨g', rfl⟩ : ∃ g', gk = g' + 1 := ⟨gk - 1, by omega⟩
      unfold stpV
      go_wp2_with (at_builtin; refine wpList_append_own_at _ rfl (.tmp 21) (.tmp 23) 37 rfl w.heap.size 3 i0 (.int .i64 0) 1 8 Tryd.underlying37 hi0 hz0 hz1 hz2 rfl (by decide) _ _ _ rfl (hown.alloc _) ⟨w6.heap.size, 0, none⟩ 1 1 [.int .i64 (j2 : Int)] rfl rfl (cell_one_new _ _ _) (by simp [Value.oneCell']) (by unfold maxLen; omega) (by omega) (by simp only [World.size_alloc]; omega) ?_; intro v' w7 hown7 hg7 _ _; obtain ⟨A7, c7, rfl⟩ := own_formZ hown7)
      have hb7 : Below w.heap.size w w7 := ((HB6.out.alloc (by omega) (.cells #[.int .i64 (j2 : Int)] 3)).grown hg7 (by simp only [World.size_alloc]; omega) (fun k hk => (hown.lt k hk).1))
      go_roundg g'
      case measure => omega
      case rel => exact ⟨j2, pre ++ [j2], A7, c7, rfl, by rw [List.length_append]; rfl, u2, by omega, by rw [List.length_append, List.length_singleton]; omega, HI2, Lib.hid hb7, Lib.hid (by rw [List.length_append, List.length_singleton, ints, List.map_append]; exact hown7)⟩
end Go.Proofs.YtonibpilbkafnaaDoor

/- Package slots: List. -/
namespace Go.Proofs.YtonibpilbkafnaaDoor
set_option linter.unusedVariables false
set_option linter.unusedSimpArgs false
open Go.RowKit Go.Lib

/-- the slots ahead of one way of one cell -/
def slotsD (st : Nat → Nat → Option Nat) (n i : Nat) : Nat → List (Bool × List Nat)
  | 0 => slotsL st n i
  | d + 1 => slotsD st n i d ++ slotW st n i d
theorem slotsD_two (st : Nat → Nat → Option Nat) (n i : Nat) : slotsD st n i 2 = slotsL st n (i + 1) := rfl
theorem slotW_len (st : Nat → Nat → Option Nat) (n i d : Nat) : (slotW st n i d).length ≤ 1 := by unfold slotW; split <;> simp
theorem slotsL_len (st : Nat → Nat → Option Nat) (n : Nat) : ∀ i, (slotsL st n i).length ≤ 2 * i
  | 0 => Nat.le_refl _
  | i + 1 => by
    have h := slotsL_len st n i
    have h0 := slotW_len st n i 0
    have h1 := slotW_len st n i 1
    show (slotsL st n i ++ slotW st n i 0 ++ slotW st n i 1).length ≤ _
    rw [List.length_append, List.length_append]
    omega
theorem news3 (w : World) (x y z : Value) (t : TypeId) : ∀ j u, [x, y, z][j]? = some u → (w.alloc (.cells #[x, y, z] t)).cell? ((⟨w.heap.size, 0, none⟩ : Addr).add j) = some u :=
  World.news_of_block (cs := #[x, y, z]) (t := t) (fr := (0, 0)) (World.alloc_heap_new w _)
set_option maxHeartbeats 8000000 in
set_option maxRecDepth 100000 in
theorem List_any (v : Value) (g : Gd) (B : Nat) (w : World) (h : GdAt w B v g) (hB : B ≤ w.heap.size) (hg : OkG g) :
    Calls Tryd.prog 9 #[v] w fun e w' => ∃ vs A c, e = .returned (.slice A (slotsL (stpG g) (g.H.toNat * g.W.toNat) (g.H.toNat * g.W.toNat)).length c) ∧
      SlotsAt w' w.heap.size (.slice A (slotsL (stpG g) (g.H.toNat * g.W.toNat) (g.H.toNat * g.W.toNat)).length c) vs (slotsL (stpG g) (g.H.toNat * g.W.toNat) (g.H.toNat * g.W.toNat)) ∧ Below w.heap.size w w' := by
  have h256 := (area_le hg).1
  have hlB := hg.b
  have cch := fun W (hb : Below B w W) (hz : B ≤ W.heap.size) => Check_any v g B W (h.below hb) hz (by have := hg.b; have := hg.r; have := hg.d; omega)
  rw [check_of_ok hg] at cch
  have cs := fun (j d : Nat) (W : World) (hj : j < g.H.toNat * g.W.toNat) (hd : d < 4) (hb : Below w.heap.size w W) => Step_any v g j d B W (h.below (hb.mono hB)) (Nat.le_trans hB hb.size) hg hj hd
  have cg := fun (j d : Nat) (W : World) (hj : j < g.H.toNat * g.W.toNat) (hd : d < 2) (hb : Below w.heap.size w W) => gather_any v g j d B w.heap.size W (h.below (hb.mono hB)) (Nat.le_trans hB hb.size) hg hj hd
  obtain ⟨Ab, Ar, Ad, cb, cr, cd, rfl⟩ := h.form
  obtain ⟨i0, hi0, hz0, hz1, hz2⟩ := info_parts infoSlot
  clear h hg
  unfold stpG at *
  generalize stW g.H.toNat g.W.toNat (gt g.B) (gt g.R) (gt g.D) = st at *
  generalize g.H.toNat * g.W.toNat = n at *
  obtain ⟨gH, gW, gB, gR, gD⟩ := g
  simp only [gdV] at cch cs cg hlB ⊢
  rw [hlB] at cch cs cg ⊢
  generalize gR.length = nr at *
  generalize gD.length = nd at *
  have CCH := Lib.hid cch; have CS := Lib.hid cs; have CG := Lib.hid cg; clear cch cs cg hlB
  have HB0 := Lib.hid hB; clear hB
  go_enter Tryd.func9, Tryd.ntmps9
  go_wp2_with fail
  have hba : Below w.heap.size w _ := (Below.refl _ w).alloc (Nat.le_refl _) (.cells #[.int .i64 gH, .int .i64 gW, .slice Ab n cb, .slice Ar nr cr, .slice Ad nd cd] 27)
  have hg0 := World.alloc_heap_new w (.cells #[.int .i64 gH, .int .i64 gW, .slice Ab n cb, .slice Ar nr cr, .slice Ad nd cd] 27)
  have hz3 : w.heap.size + 1 = (w.alloc (.cells #[.int .i64 gH, .int .i64 gW, .slice Ab n cb, .slice Ar nr cr, .slice Ad nd cd] 27)).heap.size := by simp
  refine (CCH.out _ (hba.mono HB0.out) (by have := HB0.out; omega)).mono ?_
  rintro e w1 ⟨rfl, hb1⟩
  have hg1 := (hb1.block w.heap.size (by omega)).trans hg0
  have p2 := Lib.cell_of_heap hg1 2
  have z1 := hb1.size
  have HBW := Lib.hid (hba.trans (hb1.mono (by omega)))
  have HG1 := Lib.hid hg1
  clear hba hg0 hz3 hb1 hg1
  go_wp2_with fail
  --LOOP
  have hzb := (Array.getElem?_eq_some_iff.1 HG1.out).1
  go_loopg [3, 5, 6, 7, 8, 9, 10, 11, 12, 20] n (fun gf u3 u5 _ _ _ _ _ _ _ u20 wr => ∃ (i num : Nat) (L : List (Bool × List Nat)) (vs : List Value) (A : Option Addr) (c : Nat), u20 = .int .i64 i ∧ i ≤ n ∧ n ≤ i + gf ∧ u5 = .int .i64 num ∧ num ≤ i ∧ u3 = .slice A L.length c ∧ Hid (L = slotsL st n i) ∧
    Hid (Below w.heap.size w wr) ∧ Hid (wr.heap[w.heap.size]? = some (.cells #[.int .i64 gH, .int .i64 gW, .slice Ab n cb, .slice Ar nr cr, .slice Ad nd cd] 27 (0, 0))) ∧ Hid (SlotsAt wr (w.heap.size + 1) (.slice A L.length c) vs L))
  case atStart => exact ⟨0, 0, [], [], none, 0, rfl, Nat.zero_le _, by omega, rfl, Nat.le_refl _, rfl, Lib.hid rfl, HBW, HG1, Lib.hid (SlotsAt.nil _ _)⟩
  case round =>
    rename World => w5
    obtain ⟨i, num0, L0, vs0, A0, c0, rfl, hin, hfu, rfl, hnum0, rfl, HL0, HB5, HH5, HS5⟩ := hrel
    by_cases hi : i < n
    · obtain ⟨g', rfl⟩ : ∃ g', gk = g' + 1 := ⟨gk - 1, by omega⟩
      go_wp2_with fail
      go_step3
      go_wp2_with fail
      go_step3
      go_wp2_with fail
      go_loopg [3, 5, 7, 8, 9, 10, 11, 12, 23] 2 (fun gf u3 u5 u7 _ _ _ _ _ u23 wr => ∃ (d num : Nat) (bb : Bool) (L : List (Bool × List Nat)) (vs : List Value) (A : Option Addr) (c : Nat), u23 = .int .i64 d ∧ d ≤ 2 ∧ 2 ≤ d + gf ∧ u5 = .int .i64 num ∧ u7 = .bool bb ∧ num ≤ i + bb.toNat ∧ u3 = .slice A L.length c ∧ Hid (L = slotsD st n i d) ∧
        Hid (Below w.heap.size w wr) ∧ Hid (wr.heap[w.heap.size]? = some (.cells #[.int .i64 gH, .int .i64 gW, .slice Ab n cb, .slice Ar nr cr, .slice Ad nd cd] 27 (0, 0))) ∧ Hid (SlotsAt wr (w.heap.size + 1) (.slice A L.length c) vs L))
      case atStart => exact ⟨0, num0, false, L0, vs0, A0, c0, rfl, by omega, by omega, rfl, rfl, by simp; omega, rfl, HL0, HB5, HH5, HS5⟩
      case round =>
        clear HL0 HB5 HH5 HS5
        rename World => w6
        obtain ⟨d, num, bb, L, vs, A, c, rfl, hd2, hfu2, rfl, rfl, hnum, rfl, HL, HB, HH, HS⟩ := hrel
        have hLl : L.length ≤ 512 := by
          rw [HL.out]
          have := slotsL_len st n i
          have := slotW_len st n i 0
          have := slotW_len st n i 1
          rcases (by omega : d = 0 ∨ d = 1 ∨ d = 2) with rfl | rfl | rfl
          · show (slotsL st n i).length ≤ _; omega
          · show (slotsL st n i ++ slotW st n i 0).length ≤ _; rw [List.length_append]; omega
          · show (slotsL st n i ++ slotW st n i 0 ++ slotW st n i 1).length ≤ _; rw [List.length_append, List.length_append]; omega
        have hbb : bb.toNat ≤ 1 := by cases bb <;> simp
        have z6 : w.heap.size + 1 ≤ w6.heap.size := (Array.getElem?_eq_some_iff.1 HH.out).1
        by_cases hd : d < 2
        · obtain ⟨g2, rfl⟩ : ∃ g2, gk = g2 + 1 := ⟨gk - 1, by omega⟩
          rcases (by omega : d = 0 ∨ d = 1) with rfl | rfl
          · skip
            have WG := HH
            have p0 := Lib.cell_of_heap WG.out 0
            have p1 := Lib.cell_of_heap WG.out 1
            have p2 := Lib.cell_of_heap WG.out 2
            have p3 := Lib.cell_of_heap WG.out 3
            have p4 := Lib.cell_of_heap WG.out 4
            go_wp2_with fail
            refine (CS.out i 2 w6 hi (by omega) HB.out).mono ?_
            rintro e w7 ⟨rfl, hb7⟩
            have z7 := hb7.size
            have HB7 := Lib.hid (HB.out.trans (hb7.mono (by omega)))
            have HH7 := Lib.hid ((hb7.block w.heap.size (by omega)).trans HH.out)
            have HS7 := Lib.hid (HS.out.below hb7)
            clear hb7 p0 p1 p2 p3 p4
            cases hs1 : st i 2 with
            | some j1 =>
              have HL2 : Hid (L = slotsD st n i 1) := Lib.hid (by show L = slotsD st n i 0 ++ slotW st n i 0; rw [HL.out]; unfold slotW; rw [begB_no1 hs1]; simp)
              clear hs1
              unfold stpV
              go_wp2_with fail
              go_roundg g2
              case measure => omega
              case rel => exact ⟨1, num, bb, L, vs, A, c, by go_num, by omega, by omega, rfl, rfl, hnum, rfl, HL2, HB7, HH7, HS7⟩
            | none =>
              have HS1 := Lib.hid hs1; clear hs1
              unfold stpV
              have WG := HH7
              have p0 := Lib.cell_of_heap WG.out 0
              have p1 := Lib.cell_of_heap WG.out 1
              have p2 := Lib.cell_of_heap WG.out 2
              have p3 := Lib.cell_of_heap WG.out 3
              have p4 := Lib.cell_of_heap WG.out 4
              go_wp2_with fail
              refine (CS.out i 0 w7 hi (by omega) HB7.out).mono ?_
              rintro e w8 ⟨rfl, hb8⟩
              have z8 := hb8.size
              have HB8 := Lib.hid (HB7.out.trans (hb8.mono (by omega)))
              have HH8 := Lib.hid ((hb8.block w.heap.size (by omega)).trans HH7.out)
              have HS8 := Lib.hid (HS7.out.below hb8)
              clear hb8 p0 p1 p2 p3 p4
              cases hs2 : st i 0 with
              | none =>
                have HL2 : Hid (L = slotsD st n i 1) := Lib.hid (by show L = slotsD st n i 0 ++ slotW st n i 0; rw [HL.out]; unfold slotW; rw [begB_no2 hs2]; simp)
                clear hs2
                unfold stpV
                go_wp2_with fail
                go_roundg g2
                case measure => omega
                case rel => exact ⟨1, num, bb, L, vs, A, c, by go_num, by omega, by omega, rfl, rfl, hnum, rfl, HL2, HB8, HH8, HS8⟩
              | some j2 =>
                have HL2 : Hid (L ++ [(decide (0 = 1), gath st 0 n i)] = slotsD st n i 1) := Lib.hid (by show _ = slotsD st n i 0 ++ slotW st n i 0; rw [HL.out]; unfold slotW; rw [begB_yes HS1.out hs2]; rfl)
                clear hs2
                unfold stpV
                cases bb with
                | true =>
                  go_wp2_with fail
                  refine (CG.out i 0 w8 hi (by omega) HB8.out ⟨_, rfl, HH8.out⟩).mono ?_
                  rintro e w9 ⟨A9, c9, rfl, hown9, hb9⟩
                  have z9 := hb9.size
                  have HB9 := Lib.hid (HB8.out.trans (hb9.mono (by omega)))
                  have HH9 := Lib.hid ((hb9.block w.heap.size (by omega)).trans HH8.out)
                  have HS9 := Lib.hid (HS8.out.below hb9)
                  have HO9 := Lib.hid (own_base hown9 (show w.heap.size + 1 ≤ w8.heap.size by omega))
                  clear hb9 hown9
                  generalize hgl : gath st 0 n i = gl at *
                  clear hgl
                  have hown := HS9.out.own
                  go_wp2_with (at_builtin; refine wpList_append_own_at _ rfl (.tmp 48) (.tmp 57) 35 rfl (w.heap.size + 1) 39 i0 (.agg #[.int .i64 0, .bool false, .slice none 0 0]) 3 40 Tryd.underlying35 hi0 hz0 hz1 hz2 rfl (by decide) _ _ _ rfl (hown.alloc _) ⟨w9.heap.size, 0, none⟩ 1 1 [.int .i64 (num : Int), .bool false, .slice A9 gl.length c9] rfl rfl (news3 _ _ _ _ _) (by simp [Value.oneCell']) (by unfold maxLen; omega) (by omega) (by simp only [World.size_alloc]; omega) ?_; intro v' wa howna hga _ _; obtain ⟨Aa, ca, rfl⟩ := own_formZ howna)
                  have HBa : Hid (Below w.heap.size w wa) := Lib.hid ((HB9.out.alloc (by omega) (.cells #[.int .i64 (num : Int), .bool false, .slice A9 gl.length c9] 39)).grown hga (by simp only [World.size_alloc]; omega) (fun k hk => Nat.le_of_succ_le (hown.lt k hk).1))
                  have hne : Value.ownBlock (.slice A L.length c) ≠ some w.heap.size := fun e => by have := (hown.lt _ e).1; omega
                  have HHa := Lib.hid ((hga.block w.heap.size (by simp only [World.size_alloc]; omega) (Ne.symm hne)).trans ((Below.heap_alloc _ _ _ (by omega)).trans HH9.out))
                  have HSa := Lib.hid ((HS9.out.below ((Below.refl _ w9).alloc (Nat.le_refl _) (.cells #[.int .i64 (num : Int), .bool false, .slice A9 gl.length c9] 39))).snoc (s := (false, gl)) (num := num) (HO9.out.alloc _) hga howna)
                  have HLl : Hid (L.length + 1 = (L ++ [(false, gl)]).length) := Lib.hid (by rw [List.length_append]; rfl)
                  clear hown howna hga hne
                  go_roundg g2
                  case measure => omega
                  case rel => exact ⟨1, num, true, L ++ [(false, gl)], _, Aa, ca, by go_num, by omega, by omega, rfl, rfl, hnum, by rw [← HLl.out], HL2, HBa, HHa, Lib.hid (by rw [← HLl.out]; exact HSa.out)⟩
                | false =>
                  go_wp2_with fail
                  refine (CG.out i 0 w8 hi (by omega) HB8.out ⟨_, rfl, HH8.out⟩).mono ?_
                  rintro e w9 ⟨A9, c9, rfl, hown9, hb9⟩
                  have z9 := hb9.size
                  have HB9 := Lib.hid (HB8.out.trans (hb9.mono (by omega)))
                  have HH9 := Lib.hid ((hb9.block w.heap.size (by omega)).trans HH8.out)
                  have HS9 := Lib.hid (HS8.out.below hb9)
                  have HO9 := Lib.hid (own_base hown9 (show w.heap.size + 1 ≤ w8.heap.size by omega))
                  clear hb9 hown9
                  generalize hgl : gath st 0 n i = gl at *
                  clear hgl
                  have hown := HS9.out.own
                  go_wp2_with (at_builtin; refine wpList_append_own_at _ rfl (.tmp 48) (.tmp 57) 35 rfl (w.heap.size + 1) 39 i0 (.agg #[.int .i64 0, .bool false, .slice none 0 0]) 3 40 Tryd.underlying35 hi0 hz0 hz1 hz2 rfl (by decide) _ _ _ rfl (hown.alloc _) ⟨w9.heap.size, 0, none⟩ 1 1 [.int .i64 ((num : Int) + 1), .bool false, .slice A9 gl.length c9] rfl rfl (news3 _ _ _ _ _) (by simp [Value.oneCell']) (by unfold maxLen; omega) (by omega) (by simp only [World.size_alloc]; omega) ?_; intro v' wa howna hga _ _; obtain ⟨Aa, ca, rfl⟩ := own_formZ howna)
                  have HBa : Hid (Below w.heap.size w wa) := Lib.hid ((HB9.out.alloc (by omega) (.cells #[.int .i64 ((num : Int) + 1), .bool false, .slice A9 gl.length c9] 39)).grown hga (by simp only [World.size_alloc]; omega) (fun k hk => Nat.le_of_succ_le (hown.lt k hk).1))
                  have hne : Value.ownBlock (.slice A L.length c) ≠ some w.heap.size := fun e => by have := (hown.lt _ e).1; omega
                  have HHa := Lib.hid ((hga.block w.heap.size (by simp only [World.size_alloc]; omega) (Ne.symm hne)).trans ((Below.heap_alloc _ _ _ (by omega)).trans HH9.out))
                  have HSa := Lib.hid ((HS9.out.below ((Below.refl _ w9).alloc (Nat.le_refl _) (.cells #[.int .i64 ((num : Int) + 1), .bool false, .slice A9 gl.length c9] 39))).snoc (s := (false, gl)) (num := (num : Int) + 1) (HO9.out.alloc _) hga howna)
                  have HLl : Hid (L.length + 1 = (L ++ [(false, gl)]).length) := Lib.hid (by rw [List.length_append]; rfl)
                  clear hown howna hga hne
                  go_roundg g2
                  case measure => omega
                  case rel => exact ⟨1, num + 1, true, L ++ [(false, gl)], _, Aa, ca, by go_num, by omega, by omega, by go_num, rfl, by have h9 : num ≤ i := hnum; show num + 1 ≤ i + 1; omega, by rw [← HLl.out], HL2, HBa, HHa, Lib.hid (by rw [← HLl.out]; exact HSa.out)⟩
          · skip
            have WG := HH
            have p0 := Lib.cell_of_heap WG.out 0
            have p1 := Lib.cell_of_heap WG.out 1
            have p2 := Lib.cell_of_heap WG.out 2
            have p3 := Lib.cell_of_heap WG.out 3
            have p4 := Lib.cell_of_heap WG.out 4
            go_wp2_with fail
            refine (CS.out i 3 w6 hi (by omega) HB.out).mono ?_
            rintro e w7 ⟨rfl, hb7⟩
            have z7 := hb7.size
            have HB7 := Lib.hid (HB.out.trans (hb7.mono (by omega)))
            have HH7 := Lib.hid ((hb7.block w.heap.size (by omega)).trans HH.out)
            have HS7 := Lib.hid (HS.out.below hb7)
            clear hb7 p0 p1 p2 p3 p4
            cases hs1 : st i 3 with
            | some j1 =>
              have HL2 : Hid (L = slotsD st n i 2) := Lib.hid (by show L = slotsD st n i 1 ++ slotW st n i 1; rw [HL.out]; unfold slotW; rw [begB_no1 hs1]; simp)
              clear hs1
              unfold stpV
              go_wp2_with fail
              go_roundg g2
              case measure => omega
              case rel => exact ⟨2, num, bb, L, vs, A, c, by go_num, by omega, by omega, rfl, rfl, hnum, rfl, HL2, HB7, HH7, HS7⟩
            | none =>
              have HS1 := Lib.hid hs1; clear hs1
              unfold stpV
              have WG := HH7
              have p0 := Lib.cell_of_heap WG.out 0
              have p1 := Lib.cell_of_heap WG.out 1
              have p2 := Lib.cell_of_heap WG.out 2
              have p3 := Lib.cell_of_heap WG.out 3
              have p4 := Lib.cell_of_heap WG.out 4
              go_wp2_with fail
              refine (CS.out i 1 w7 hi (by omega) HB7.out).mono ?_
              rintro e w8 ⟨rfl, hb8⟩
              have z8 := hb8.size
              have HB8 := Lib.hid (HB7.out.trans (hb8.mono (by omega)))
              have HH8 := Lib.hid ((hb8.block w.heap.size (by omega)).trans HH7.out)
              have HS8 := Lib.hid (HS7.out.below hb8)
              clear hb8 p0 p1 p2 p3 p4
              cases hs2 : st i 1 with
              | none =>
                have HL2 : Hid (L = slotsD st n i 2) := Lib.hid (by show L = slotsD st n i 1 ++ slotW st n i 1; rw [HL.out]; unfold slotW; rw [begB_no2 hs2]; simp)
                clear hs2
                unfold stpV
                go_wp2_with fail
                go_roundg g2
                case measure => omega
                case rel => exact ⟨2, num, bb, L, vs, A, c, by go_num, by omega, by omega, rfl, rfl, hnum, rfl, HL2, HB8, HH8, HS8⟩
              | some j2 =>
                have HL2 : Hid (L ++ [(decide (1 = 1), gath st 1 n i)] = slotsD st n i 2) := Lib.hid (by show _ = slotsD st n i 1 ++ slotW st n i 1; rw [HL.out]; unfold slotW; rw [begB_yes HS1.out hs2]; rfl)
                clear hs2
                unfold stpV
                cases bb with
                | true =>
                  go_wp2_with fail
                  refine (CG.out i 1 w8 hi (by omega) HB8.out ⟨_, rfl, HH8.out⟩).mono ?_
                  rintro e w9 ⟨A9, c9, rfl, hown9, hb9⟩
                  have z9 := hb9.size
                  have HB9 := Lib.hid (HB8.out.trans (hb9.mono (by omega)))
                  have HH9 := Lib.hid ((hb9.block w.heap.size (by omega)).trans HH8.out)
                  have HS9 := Lib.hid (HS8.out.below hb9)
                  have HO9 := Lib.hid (own_base hown9 (show w.heap.size + 1 ≤ w8.heap.size by omega))
                  clear hb9 hown9
                  generalize hgl : gath st 1 n i = gl at *
                  clear hgl
                  have hown := HS9.out.own
                  go_wp2_with (at_builtin; refine wpList_append_own_at _ rfl (.tmp 48) (.tmp 57) 35 rfl (w.heap.size + 1) 39 i0 (.agg #[.int .i64 0, .bool false, .slice none 0 0]) 3 40 Tryd.underlying35 hi0 hz0 hz1 hz2 rfl (by decide) _ _ _ rfl (hown.alloc _) ⟨w9.heap.size, 0, none⟩ 1 1 [.int .i64 (num : Int), .bool true, .slice A9 gl.length c9] rfl rfl (news3 _ _ _ _ _) (by simp [Value.oneCell']) (by unfold maxLen; omega) (by omega) (by simp only [World.size_alloc]; omega) ?_; intro v' wa howna hga _ _; obtain ⟨Aa, ca, rfl⟩ := own_formZ howna)
                  have HBa : Hid (Below w.heap.size w wa) := Lib.hid ((HB9.out.alloc (by omega) (.cells #[.int .i64 (num : Int), .bool true, .slice A9 gl.length c9] 39)).grown hga (by simp only [World.size_alloc]; omega) (fun k hk => Nat.le_of_succ_le (hown.lt k hk).1))
                  have hne : Value.ownBlock (.slice A L.length c) ≠ some w.heap.size := fun e => by have := (hown.lt _ e).1; omega
                  have HHa := Lib.hid ((hga.block w.heap.size (by simp only [World.size_alloc]; omega) (Ne.symm hne)).trans ((Below.heap_alloc _ _ _ (by omega)).trans HH9.out))
                  have HSa := Lib.hid ((HS9.out.below ((Below.refl _ w9).alloc (Nat.le_refl _) (.cells #[.int .i64 (num : Int), .bool true, .slice A9 gl.length c9] 39))).snoc (s := (true, gl)) (num := num) (HO9.out.alloc _) hga howna)
                  have HLl : Hid (L.length + 1 = (L ++ [(true, gl)]).length) := Lib.hid (by rw [List.length_append]; rfl)
                  clear hown howna hga hne
                  go_roundg g2
                  case measure => omega
                  case rel => exact ⟨2, num, true, L ++ [(true, gl)], _, Aa, ca, by go_num, by omega, by omega, rfl, rfl, hnum, by rw [← HLl.out], HL2, HBa, HHa, Lib.hid (by rw [← HLl.out]; exact HSa.out)⟩
                | false =>
                  go_wp2_with fail
                  refine (CG.out i 1 w8 hi (by omega) HB8.out ⟨_, rfl, HH8.out⟩).mono ?_
                  rintro e w9 ⟨A9, c9, rfl, hown9, hb9⟩
                  have z9 := hb9.size
                  have HB9 := Lib.hid (HB8.out.trans (hb9.mono (by omega)))
                  have HH9 := Lib.hid ((hb9.block w.heap.size (by omega)).trans HH8.out)
                  have HS9 := Lib.hid (HS8.out.below hb9)
                  have HO9 := Lib.hid (own_base hown9 (show w.heap.size + 1 ≤ w8.heap.size by omega))
                  clear hb9 hown9
                  generalize hgl : gath st 1 n i = gl at *
                  clear hgl
                  have hown := HS9.out.own
                  go_wp2_with (at_builtin; refine wpList_append_own_at _ rfl (.tmp 48) (.tmp 57) 35 rfl (w.heap.size + 1) 39 i0 (.agg #[.int .i64 0, .bool false, .slice none 0 0]) 3 40 Tryd.underlying35 hi0 hz0 hz1 hz2 rfl (by decide) _ _ _ rfl (hown.alloc _) ⟨w9.heap.size, 0, none⟩ 1 1 [.int .i64 ((num : Int) + 1), .bool true, .slice A9 gl.length c9] rfl rfl (news3 _ _ _ _ _) (by simp [Value.oneCell']) (by unfold maxLen; omega) (by omega) (by simp only [World.size_alloc]; omega) ?_; intro v' wa howna hga _ _; obtain ⟨Aa, ca, rfl⟩ := own_formZ howna)
                  have HBa : Hid (Below w.heap.size w wa) := Lib.hid ((HB9.out.alloc (by omega) (.cells #[.int .i64 ((num : Int) + 1), .bool true, .slice A9 gl.length c9] 39)).grown hga (by simp only [World.size_alloc]; omega) (fun k hk => Nat.le_of_succ_le (hown.lt k hk).1))
                  have hne : Value.ownBlock (.slice A L.length c) ≠ some w.heap.size := fun e => by have := (hown.lt _ e).1; omega
                  have HHa := Lib.hid ((hga.block w.heap.size (by simp only [World.size_alloc]; omega) (Ne.symm hne)).trans ((Below.heap_alloc _ _ _ (by omega)).trans HH9.out))
                  have HSa := Lib.hid ((HS9.out.below ((Below.refl _ w9).alloc (Nat.le_refl _) (.cells #[.int .i64 ((num : Int) + 1), .bool true, .slice A9 gl.length c9] 39))).snoc (s := (true, gl)) (num := (num : Int) + 1) (HO9.out.alloc _) hga howna)
                  have HLl : Hid (L.length + 1 = (L ++ [(true, gl)]).length) := Lib.hid (by rw [List.length_append]; rfl)
                  clear hown howna hga hne
                  go_roundg g2
                  case measure => omega
                  case rel => exact ⟨2, num + 1, true, L ++ [(true, gl)], _, Aa, ca, by go_num, by omega, by omega, by go_num, rfl, by have h9 : num ≤ i := hnum; show num + 1 ≤ i + 1; omega, by rw [← HLl.out], HL2, HBa, HHa, Lib.hid (by rw [← HLl.out]; exact HSa.out)⟩
        · obtain rfl : 2 = d := by omega
          have HL2 : Hid (L = slotsL st n (i + 1)) := HL
          go_wp2_with fail
          rw [Exit.noGoto_normal]
          go_wp2_with fail
          go_roundg g'
          case measure => omega
          case rel => exact ⟨i + 1, num, L, vs, A, c, by go_num, by omega, by omega, rfl, by omega, rfl, HL2, HB, HH, HS⟩
    · obtain rfl : n = i := by omega
      go_wp2_with fail
      go_ret
      refine ⟨vs0, A0, c0, ?_, ?_, HB5.out⟩
      · rw [← HL0.out]; rfl
      · rw [← HL0.out]
        exact ⟨own_base HS5.out.own (by omega), fun k s hk => by obtain ⟨m, u, e1, e2, e3, o⟩ := HS5.out.row k s hk; exact ⟨m, u, e1, e2, e3, own_base o (by omega)⟩⟩
end Go.Proofs.YtonibpilbkafnaaDoor
