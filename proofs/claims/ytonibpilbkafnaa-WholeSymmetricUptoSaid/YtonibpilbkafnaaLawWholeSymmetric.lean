/- The tops: WholeSymmetric. -/
import Derived.Test.YtonibpilbkafnaaO21
namespace Go.Proofs.Ytonibpilbkafnaa
set_option linter.unusedVariables false
set_option linter.unusedSimpArgs false
open Go.RowKit Go.Lib

set_option maxHeartbeats 16000000 in
set_option maxRecDepth 100000 in
theorem wholeSymmetric_any (v : Value) (g : Gd) (w : World) (h : GdAt w w.heap.size v g) (hl : g.B.length + g.R.length + g.D.length ≤ 1048576) :
    Calls Try.prog 3 #[v] w fun e w' => e = .returned (.bool true) ∧ Below w.heap.size w w' := by
  have cbl := fun W => blank_any 2 2 W (by omega) (by omega) (by omega) (by omega)
  have csy := fun (v : Value) (g : Gd) (W : World) (h : GdAt W W.heap.size v g) (hl : g.B.length ≤ 17592186044416 ∧ g.R.length ≤ 17592186044416 ∧ g.D.length ≤ 17592186044416) => Symmetries_any v g W.heap.size W h (Nat.le_refl _) hl
  have cli := fun (W : World) (hb : Below w.heap.size w W) => List_all v g w.heap.size W (h.below hb) hb.size (by omega)
  have csg := fun (W : World) (hb : Below w.heap.size w W) => csy v g W ((h.below hb).more hb.size) (by omega)
  have HAT := Lib.hid h
  obtain ⟨Ab, Ar, Ad, cb, cr, cd, rfl⟩ := h.form
  have CBL := Lib.hid cbl; have CSY := Lib.hid csy; have CLI := Lib.hid cli; have CSG := Lib.hid csg
  clear cbl csy cli csg h
  have HL := Lib.hid hl; clear hl
  simp only [gdV] at *
  go_enter Try.func3, Try.ntmps3
  go_wp2_with fail
  have hba : Below w.heap.size w _ := (Below.refl _ w).alloc (Nat.le_refl _) (.cells #[.int .i64 g.H, .int .i64 g.W, .slice Ab g.B.length cb, .slice Ar g.R.length cr, .slice Ad g.D.length cd] 24)
  have hg0 := World.alloc_heap_new w (.cells #[.int .i64 g.H, .int .i64 g.W, .slice Ab g.B.length cb, .slice Ar g.R.length cr, .slice Ad g.D.length cd] 24)
  have hz0 : w.heap.size + 1 = (w.alloc (.cells #[.int .i64 g.H, .int .i64 g.W, .slice Ab g.B.length cb, .slice Ar g.R.length cr, .slice Ad g.D.length cd] 24)).heap.size := by simp
  generalize w.alloc (.cells #[.int .i64 g.H, .int .i64 g.W, .slice Ab g.B.length cb, .slice Ar g.R.length cr, .slice Ad g.D.length cd] 24) = W0 at *
  refine (CBL.out W0).mono ?_
  rintro e w1 ⟨u, rfl, hu, hb1⟩
  obtain ⟨Eb, Er, Ed, fb, fr, fd, rfl⟩ := hu.form
  have CS1 := Lib.hid (CSY.out _ _ w1 hu (by simp [blankG]))
  have HB1 := Lib.hid (hba.trans (hb1.mono (by omega)))
  have HG1 := Lib.hid ((hb1.block w.heap.size (by omega)).trans hg0)
  have z1 := hb1.size
  clear hba hg0 hb1 hu
  go_wp2_with fail
  refine CS1.out.mono ?_
  rw [show symsG (blankG 2 2) = symsG aw22 from rfl, aw22_syms]
  rintro e w2 ⟨A2, c2, rfl, _, hb2⟩
  have z2 := hb2.size
  have HB2 := Lib.hid (HB1.out.trans (hb2.mono (by omega)))
  have HG2 := Lib.hid ((hb2.block w.heap.size (by omega)).trans HG1.out)
  have p0 := Lib.cell_of_heap HG2.out 0
  have p1 := Lib.cell_of_heap HG2.out 1
  have p2 := Lib.cell_of_heap HG2.out 2
  have p3 := Lib.cell_of_heap HG2.out 3
  have p4 := Lib.cell_of_heap HG2.out 4
  clear hb2
  go_wp2_with fail
  refine (CLI.out w2 HB2.out).mono ?_
  rintro e w3 ⟨vs, A3, c3, rfl, hsl, hb3⟩
  have z3 := hb3.size
  have HB3 := Lib.hid (HB2.out.trans (hb3.mono (by omega)))
  have HG3 := Lib.hid ((hb3.block w.heap.size (by omega)).trans HG2.out)
  have HSL := Lib.hid hsl
  clear p0 p1 p2 p3 p4 hb3 hsl
  have p0 := Lib.cell_of_heap HG3.out 0
  have p1 := Lib.cell_of_heap HG3.out 1
  have p2 := Lib.cell_of_heap HG3.out 2
  have p3 := Lib.cell_of_heap HG3.out 3
  have p4 := Lib.cell_of_heap HG3.out 4
  go_wp2_with fail
  refine (CSG.out w3 HB3.out).mono ?_
  rintro e w4 ⟨A4, c4, rfl, hsy, hb4⟩
  have z4 := hb4.size
  have HB4 := Lib.hid (HB3.out.trans (hb4.mono (by omega)))
  have HG4 := Lib.hid ((hb4.block w.heap.size (by omega)).trans HG3.out)
  have HSL4 := Lib.hid (HSL.out.below hb4)
  have HSY := Lib.hid hsy
  clear p0 p1 p2 p3 p4 hb4 hsy
  go_wp2_with fail
  have HSF := Lib.hid (fun k (hk : k ∈ symsG g) s (hs : s ∈ slotsA g) => sym_found hk hs)
  have HSC := Lib.hid (fun s (hs : s ∈ slotsA g) => slotsA_cells hs)
  have hLl := slotsA_len g
  have hSl := symsG_len g
  have HSS := Lib.hid (fun s (hs : s ∈ slotsA g) => slotsA_short hs)
  have hSk := Lib.hid (fun k (hk : k ∈ symsG g) => (syms_mem hk).2.1)
  generalize slotsA g = L at *
  generalize symsG g = S at *
  go_loopg [6, 8, 9, 11, 12, 13, 14, 16, 17, 19, 30] S.length (fun gf _ _ _ _ _ _ _ _ _ _ u30 wr => ∃ m : Nat, u30 = .int .i64 m ∧ m ≤ S.length ∧ S.length ≤ m + gf ∧ Hid (Below w4.heap.size w4 wr))
  case atStart => exact ⟨0, rfl, Nat.zero_le _, by omega, Lib.hid (Below.refl _ _)⟩
  case round =>
    rename World => w5
    obtain ⟨m, rfl, hm, hfu, HB5⟩ := hrel
    by_cases hlt : m < S.length
    · obtain ⟨g1, rfl⟩ : ∃ g1, gk = g1 + 1 := ⟨gk - 1, by omega⟩
      obtain ⟨gs, cap, hv, _⟩ := own_headZ HSY.out (by omega)
      injection hv with hv1 hv2 hv3
      subst hv1
      subst hv3
      obtain ⟨k, hk⟩ : ∃ k, S[m] = k := ⟨_, rfl⟩
      have hkm : k ∈ S := by rw [← hk]; exact List.getElem_mem _
      have hcell : w5.cell? ⟨gs, m, none⟩ = some (.int .i64 (k : Nat)) := by
        have h1 := HSY.out.cellAt m (by omega)
        rw [ints, List.getElem?_map, List.getElem?_eq_getElem hlt, hk] at h1
        exact keepC HB5.out h1
      have i1 : (0 : Int) ≤ (m : Int) := by omega
      have i2 : (m : Int) < (S.length : Int) := by omega
      have hk8 := hSk.out k hkm
      have HKM := Lib.hid hkm
      clear hk hkm
      go_wp2_with fail
      clear hcell
      go_loopg [8, 9, 11, 12, 13, 14, 16, 17, 19, 36] L.length (fun gf _ _ _ _ _ _ _ _ _ u36 wr => ∃ i : Nat, u36 = .int .i64 i ∧ i ≤ L.length ∧ L.length ≤ i + gf ∧ Hid (Below w4.heap.size w4 wr))
      case atStart => exact ⟨0, rfl, Nat.zero_le _, by omega, HB5⟩
      case round =>
        clear HB5
        rename World => w6
        obtain ⟨i, rfl, hi, hfu2, HB6⟩ := hrel
        by_cases hi2 : i < L.length
        · obtain ⟨g2, rfl⟩ : ∃ g2, gk = g2 + 1 := ⟨gk - 1, by omega⟩
          obtain ⟨gl, cap3, hv, _⟩ := own_headZ HSL4.out.own (by omega)
          injection hv with hv1 hv2 hv3
          subst hv1
          subst hv3
          obtain ⟨s, hs⟩ : ∃ s, L[i] = s := ⟨_, rfl⟩
          have hsm : s ∈ L := by rw [← hs]; exact List.getElem_mem _
          obtain ⟨num, As, cs, q0, q1, q2, oc⟩ := HSL4.out.at_ (i := i) (s := s) (by rw [List.getElem?_eq_getElem hi2, hs])
          have r0 := keepC HB6.out q0
          have r1 := keepC HB6.out q1
          have r2 := keepC HB6.out q2
          have HOC := Lib.hid oc
          have HSM := Lib.hid hsm
          have i3 : (0 : Int) ≤ (i : Int) := by omega
          have i4 : (i : Int) < (L.length : Int) := by omega
          have hsl := HSS.out s hsm
          clear q0 q1 q2 oc hs hsm
          have hz0 := run_went0
          go_wp2_with fail
          clear hz0 r0 r1 r2
          obtain ⟨hok, hsg, hcl⟩ := HSC.out s HSM.out
          have har := area_le hok
          obtain ⟨N, hN⟩ : ∃ N, g.H.toNat * g.W.toNat = N := ⟨_, rfl⟩
          have hN256 : N ≤ 256 := by rw [← hN]; exact har.1
          have CP := Lib.hid (fun (x : Nat) (W : World) (hx : x < N) => Place_g hok (k := k) (x := x) hk8 (by rw [hN]; exact hx) W)
          have HPL := Lib.hid (fun (x : Nat) (hx : x < N) => (by have := place_lt (h := g.H.toNat) (w := g.W.toNat) (k := k) (i := x) hk8 (by rw [hN]; exact hx); rw [hN] at this; exact this : placeW g.H.toNat g.W.toNat k x < N))
          have HCL : Hid (∀ c ∈ s.2, c < N) := Lib.hid (by rw [← hN]; exact hcl)
          have HAN := Lib.hid (HSF.out k HKM.out s HSM.out)
          have HNN := Lib.hid hN
          clear hok hsg hcl har hN
          generalize placeW g.H.toNat g.W.toNat k = pf at *
          have hX := World.alloc_heap_new w6 (.cells #[.int .i64 num, .bool s.1, .slice As s.2.length cs] 31)
          have hbX : Below w4.heap.size w4 _ := HB6.out.alloc (Below.size HB6.out) (.cells #[.int .i64 num, .bool s.1, .slice As s.2.length cs] 31)
          have hzX : (w6.alloc (.cells #[.int .i64 num, .bool s.1, .slice As s.2.length cs] 31)).heap.size = w6.heap.size + 1 := World.size_alloc _ _
          have hwX := World.alloc_heap_new (w6.alloc (.cells #[.int .i64 num, .bool s.1, .slice As s.2.length cs] 31)) (.cells (wentA (z256)) 32)
          rw [hzX] at hwX
          have hbW := hbX.alloc (Below.size hbX) (.cells (wentA (z256)) 32)
          have hX2 := (Below.heap_alloc (w6.alloc (.cells #[.int .i64 num, .bool s.1, .slice As s.2.length cs] 31)) (.cells (wentA (z256)) 32) w6.heap.size (by rw [hzX]; omega)).trans hX
          have q2 : ((w6.alloc (.cells #[.int .i64 num, .bool s.1, .slice As s.2.length cs] 31)).alloc (.cells (wentA (z256)) 32)).cell? ⟨w6.heap.size, 2, none⟩ = some (.slice As s.2.length cs) := Lib.cell_of_heap hX2 2
          generalize (w6.alloc (.cells #[.int .i64 num, .bool s.1, .slice As s.2.length cs] 31)).alloc (.cells (wentA (z256)) 32) = w7 at *
          have HX2 := Lib.hid hX2; have HW7 := Lib.hid hwX; have HB7 := Lib.hid hbW
          have z46 := HB6.out.size
          clear hX hbX hzX hwX hbW hX2
          go_wp2_with fail
          clear q2
          go_loopg [11, 12, 13, 43] s.2.length (fun gf _ _ _ u43 wr => ∃ c : Nat, u43 = .int .i64 c ∧ c ≤ s.2.length ∧ s.2.length ≤ c + gf ∧ Hid (Below w4.heap.size w4 wr) ∧ Hid (wr.heap[w6.heap.size]? = some (.cells #[.int .i64 num, .bool s.1, .slice As s.2.length cs] 31 (0, 0))) ∧
            Hid (wr.heap[w6.heap.size + 1]? = some (.cells (wentA (wentL pf (s.2.take c))) 32 (0, 0))))
          case atStart => exact ⟨0, rfl, Nat.zero_le _, by omega, HB7, HX2, HW7⟩
          case round =>
            clear HB7 HX2 HW7
            rename World => w8
            obtain ⟨c, rfl, hc, hfu3, HB8, HX8, HW8⟩ := hrel
            by_cases hc2 : c < s.2.length
            · obtain ⟨g3, rfl⟩ : ∃ g3, gk = g3 + 1 := ⟨gk - 1, by omega⟩
              obtain ⟨gc, capc, hv, _⟩ := own_headZ HOC.out (by omega)
              injection hv with hv1 hv2 hv4
              subst hv1
              subst hv4
              obtain ⟨x, hx⟩ : ∃ x, s.2[c] = x := ⟨_, rfl⟩
              have hxN : x < N := HCL.out x (by rw [← hx]; exact List.getElem_mem _)
              have q3 : w8.cell? ⟨gc, c, none⟩ = some (.int .i64 (x : Nat)) := by
                have h1 := HOC.out.cellAt c (by omega)
                rw [ints, List.getElem?_map, List.getElem?_eq_getElem hc2, hx] at h1
                exact keepC HB8.out h1
              have hTS : Hid (s.2.take (c + 1) = s.2.take c ++ [x]) := Lib.hid (by rw [List.take_succ_eq_append_getElem hc2, hx])
              have q0 : w8.cell? ⟨w.heap.size, 0, none⟩ = some (.int .i64 g.H) := keepC HB8.out (Lib.cell_of_heap HG4.out 0)
              have q1 : w8.cell? ⟨w.heap.size, 1, none⟩ = some (.int .i64 g.W) := keepC HB8.out (Lib.cell_of_heap HG4.out 1)
              have i5 : (0 : Int) ≤ (c : Int) := by omega
              have i6 : (c : Int) < (s.2.length : Int) := by omega
              clear hx
              go_wp2_with fail
              refine (CP.out x w8 hxN).mono ?_
              have hpx := HPL.out x hxN
              obtain ⟨px, hpe⟩ : ∃ px, pf x = px := ⟨_, rfl⟩
              rw [hpe] at hpx ⊢
              rintro e w9 ⟨rfl, hb9⟩
              have hw9 := (hb9.block _ (Array.getElem?_eq_some_iff.1 HW8.out).1).trans HW8.out
              have hx9 := (hb9.block _ (Array.getElem?_eq_some_iff.1 HX8.out).1).trans HX8.out
              have hB9 : Below w4.heap.size w4 w9 := HB8.out.trans (hb9.mono HB8.out.size)
              have k1 : w9.cell? ⟨w6.heap.size + 1, px, none⟩ = some (.bool ((wentL pf (s.2.take c)).getD px false)) := (Lib.cell_of_heap hw9 px).trans (wentA_get (by rw [wentL_len]; omega))
              have k2 : w9.frozen? ⟨w6.heap.size + 1, px, none⟩ = false := Lib.frozen_of_heap hw9 px
              have hw10 := heap_setCell_same w9 (w6.heap.size + 1) px _ _ (.bool true) hw9
              rw [wentA_set, ← hpe, ← wentL_snoc, ← hTS.out, hpe] at hw10
              have hx10 := (heap_setCell_other w9 ⟨w6.heap.size + 1, px, none⟩ w6.heap.size (.bool true) (by simp)).trans hx9
              have hB10 : Below w4.heap.size w4 (w9.setCell ⟨w6.heap.size + 1, px, none⟩ (.bool true)) := hB9.setCell (p := ⟨w6.heap.size + 1, px, none⟩) (by show w4.heap.size ≤ w6.heap.size + 1; omega) _
              have HW10 := Lib.hid hw10; have HX10 := Lib.hid hx10; have HB10 := Lib.hid hB10
              generalize (wentL pf (s.2.take c)).getD px false = ob at *
              have t1 : ¬ (255 : Int) < (px : Int) := by omega
              have t2 : ¬ (px : Int) < 0 := by omega
              have t3 : (0 : Int) ≤ (px : Int) := by omega
              have t4 : (px : Int) < 256 := by omega
              clear hpe hb9 hw9 hx9 hB9 hw10 hx10 hB10 q0 q1 q3
              go_wp2_with fail
              go_roundg g3
              case measure => omega
              case rel => exact ⟨c + 1, by go_num, by omega, by omega, HB10, HX10, HW10⟩
            · obtain rfl : s.2.length = c := by omega
              have hw8 := HW8.out
              rw [List.take_length] at hw8
              have HWT := Lib.hid hw8
              clear hw8 HW8
              obtain ⟨T, hT⟩ : ∃ T, wentL pf s.2 = T := ⟨_, rfl⟩
              have hTl : T.length = 256 := by rw [← hT]; exact wentL_len _ _
              rw [hT] at HWT HAN
              clear hT
              go_wp2_with fail
              go_loopg [14, 16, 17, 19, 72] L.length (fun gf u14 _ _ _ u72 wr => ∃ j : Nat, u72 = .int .i64 j ∧ j ≤ L.length ∧ L.length ≤ j + gf ∧ u14 = .bool ((L.take j).any fun o => allB T s.2.length o.2) ∧ Hid (Below w4.heap.size w4 wr) ∧ Hid (wr.heap[w6.heap.size]? = some (.cells #[.int .i64 num, .bool s.1, .slice As s.2.length cs] 31 (0, 0))) ∧
                Hid (wr.heap[w6.heap.size + 1]? = some (.cells (wentA T) 32 (0, 0))))
              case atStart => exact ⟨0, rfl, Nat.zero_le _, by omega, rfl, HB8, HX8, HWT⟩
              case round =>
                clear HB8 HX8 HWT
                rename World => w9
                obtain ⟨j, rfl, hj, hfu4, rfl, HB9, HX9, HW9⟩ := hrel
                by_cases hj2 : j < L.length
                · obtain ⟨g4, rfl⟩ : ∃ g4, gk = g4 + 1 := ⟨gk - 1, by omega⟩
                  obtain ⟨o, ho⟩ : ∃ o, L[j] = o := ⟨_, rfl⟩
                  have hom : o ∈ L := by rw [← ho]; exact List.getElem_mem _
                  have HTA : Hid (((L.take (j + 1)).any fun o => allB T s.2.length o.2) = (((L.take j).any fun o => allB T s.2.length o.2) || allB T s.2.length o.2)) := Lib.hid (by rw [List.take_succ_eq_append_getElem hj2, ho, List.any_append]; simp)
                  obtain ⟨num2, Ao, co, q0, q1, q2, oc2⟩ := HSL4.out.at_ (i := j) (s := o) (by rw [List.getElem?_eq_getElem hj2, ho])
                  have r0 := keepC HB9.out q0
                  have r1 := keepC HB9.out q1
                  have r2 := keepC HB9.out q2
                  have HOO := Lib.hid oc2
                  have hos := HSS.out o hom
                  have HOL : Hid (∀ c ∈ o.2, c < N) := Lib.hid (fun c hc => by have := (HSC.out o hom).2.2 c hc; rw [HNN.out] at this; exact this)
                  have i7 : (0 : Int) ≤ (j : Int) := by omega
                  have i8 : (j : Int) < (L.length : Int) := by omega
                  have y2 : w9.cell? ⟨w6.heap.size, 2, none⟩ = some (.slice As s.2.length cs) := Lib.cell_of_heap HX9.out 2
                  have ly : w6.heap.size < w9.heap.size := (Array.getElem?_eq_some_iff.1 HX9.out).1
                  have HX10 := Lib.hid (fun X => (Below.heap_alloc w9 X w6.heap.size ly).trans HX9.out)
                  have HW10 := Lib.hid (fun X => (Below.heap_alloc w9 X (w6.heap.size + 1) (Array.getElem?_eq_some_iff.1 HW9.out).1).trans HW9.out)
                  have HB10 := Lib.hid (fun X => HB9.out.alloc (Below.size HB9.out) X)
                  generalize hfd : ((L.take j).any fun o => allB T s.2.length o.2) = fd at *
                  have HFD := Lib.hid hfd
                  clear q0 q1 q2 oc2 ho hom hfd
                  obtain ⟨eb, heb⟩ : ∃ eb, decide (o.2.length = s.2.length) = eb := ⟨_, rfl⟩
                  have hte : ((o.2.length : Int) == (s.2.length : Int)) = eb := by rw [← heb, Bool.eq_iff_iff, beq_iff_eq, decide_eq_true_eq]; omega
                  have HEB := Lib.hid heb; clear heb
                  cases eb
                  all_goals
                    go_wp2_with fail
                    clear hte r0 r1 r2 y2
                    have HB11 := Lib.hid (HB10.out (.cells #[.int .i64 num2, .bool o.1, .slice Ao o.2.length co] 31))
                    have HX11 := Lib.hid (HX10.out (.cells #[.int .i64 num2, .bool o.1, .slice Ao o.2.length co] 31))
                    have HW11 := Lib.hid (HW10.out (.cells #[.int .i64 num2, .bool o.1, .slice Ao o.2.length co] 31))
                    clear HB10 HX10 HW10
                    generalize w9.alloc (.cells #[.int .i64 num2, .bool o.1, .slice Ao o.2.length co] 31) = w11 at *
                  · skip
                    go_loopg [17, 19, 86] o.2.length (fun gf u17 _ u86 wr => ∃ (c : Nat) (ab : Bool), u86 = .int .i64 c ∧ c ≤ o.2.length ∧ o.2.length ≤ c + gf ∧ u17 = .bool ab ∧ Hid ((false && (o.2.take c).all fun x => T.getD x false) = ab) ∧ w11 = wr)
                    case atStart => exact ⟨0, false, rfl, Nat.zero_le _, by omega, rfl, Lib.hid rfl, rfl⟩
                    case round =>
                      rename World => w12
                      obtain ⟨c, ab, rfl, hc, hfu5, rfl, HAB, rfl⟩ := hrel
                      by_cases hc2 : c < o.2.length
                      · obtain ⟨g5, rfl⟩ : ∃ g5, gk = g5 + 1 := ⟨gk - 1, by omega⟩
                        obtain ⟨gc, capc, hv, _⟩ := own_headZ HOO.out (by omega)
                        injection hv with hv1 hv2 hv4
                        subst hv1
                        subst hv4
                        obtain ⟨x, hx⟩ : ∃ x, o.2[c] = x := ⟨_, rfl⟩
                        have hxN : x < N := HOL.out x (by rw [← hx]; exact List.getElem_mem _)
                        have q3 : w11.cell? ⟨gc, c, none⟩ = some (.int .i64 (x : Nat)) := by
                          have h1 := HOO.out.cellAt c (by omega)
                          rw [ints, List.getElem?_map, List.getElem?_eq_getElem hc2, hx] at h1
                          exact keepC HB11.out h1
                        have k1 : w11.cell? ⟨w6.heap.size + 1, x, none⟩ = some (.bool (T.getD x false)) := (Lib.cell_of_heap HW11.out x).trans (wentA_get (by omega))
                        have HN2 : Hid ((false && (o.2.take (c + 1)).all fun x => T.getD x false) = (ab && T.getD x false)) := Lib.hid (by rw [← HAB.out, List.take_succ_eq_append_getElem hc2, hx, List.all_append]; simp [Bool.and_assoc])
                        generalize T.getD x false = tb at *
                        have i5 : (0 : Int) ≤ (c : Int) := by omega
                        have i6 : (c : Int) < (o.2.length : Int) := by omega
                        have i7 : (0 : Int) ≤ (x : Int) := by omega
                        have i8 : (x : Int) < 256 := by omega
                        have HOS := Lib.hid (show c + 1 ≤ 257 by omega)
                        clear hx
                        cases ab
                        · go_wp2_with fail
                          go_roundg g5
                          case measure => omega
                          case rel => exact ⟨c + 1, false, by go_num, by omega, by omega, rfl, Lib.hid (by rw [HN2.out]; rfl), rfl⟩
                        · go_wp2_with fail
                          go_roundg g5
                          case measure => omega
                          case rel => exact ⟨c + 1, tb, by go_num, by omega, by omega, rfl, Lib.hid (by rw [HN2.out]; rfl), rfl⟩
                      · obtain rfl : o.2.length = c := by omega
                        have hab := HAB.out
                        rw [List.take_length] at hab
                        have HAL : Hid (allB T s.2.length o.2 = ab) := Lib.hid (by unfold allB; rw [HEB.out]; exact hab)
                        clear hab
                        cases fd
                        all_goals
                          go_wp2_with fail
                          go_roundg g4
                          case measure => omega
                          case rel => exact ⟨j + 1, by go_num, by omega, by omega, by rw [HTA.out, HAL.out]; simp, HB11, HX11, HW11⟩
                  · skip
                    go_loopg [17, 19, 86] o.2.length (fun gf u17 _ u86 wr => ∃ (c : Nat) (ab : Bool), u86 = .int .i64 c ∧ c ≤ o.2.length ∧ o.2.length ≤ c + gf ∧ u17 = .bool ab ∧ Hid ((true && (o.2.take c).all fun x => T.getD x false) = ab) ∧ w11 = wr)
                    case atStart => exact ⟨0, true, rfl, Nat.zero_le _, by omega, rfl, Lib.hid rfl, rfl⟩
                    case round =>
                      rename World => w12
                      obtain ⟨c, ab, rfl, hc, hfu5, rfl, HAB, rfl⟩ := hrel
                      by_cases hc2 : c < o.2.length
                      · obtain ⟨g5, rfl⟩ : ∃ g5, gk = g5 + 1 := ⟨gk - 1, by omega⟩
                        obtain ⟨gc, capc, hv, _⟩ := own_headZ HOO.out (by omega)
                        injection hv with hv1 hv2 hv4
                        subst hv1
                        subst hv4
                        obtain ⟨x, hx⟩ : ∃ x, o.2[c] = x := ⟨_, rfl⟩
                        have hxN : x < N := HOL.out x (by rw [← hx]; exact List.getElem_mem _)
                        have q3 : w11.cell? ⟨gc, c, none⟩ = some (.int .i64 (x : Nat)) := by
                          have h1 := HOO.out.cellAt c (by omega)
                          rw [ints, List.getElem?_map, List.getElem?_eq_getElem hc2, hx] at h1
                          exact keepC HB11.out h1
                        have k1 : w11.cell? ⟨w6.heap.size + 1, x, none⟩ = some (.bool (T.getD x false)) := (Lib.cell_of_heap HW11.out x).trans (wentA_get (by omega))
                        have HN2 : Hid ((true && (o.2.take (c + 1)).all fun x => T.getD x false) = (ab && T.getD x false)) := Lib.hid (by rw [← HAB.out, List.take_succ_eq_append_getElem hc2, hx, List.all_append]; simp [Bool.and_assoc])
                        generalize T.getD x false = tb at *
                        have i5 : (0 : Int) ≤ (c : Int) := by omega
                        have i6 : (c : Int) < (o.2.length : Int) := by omega
                        have i7 : (0 : Int) ≤ (x : Int) := by omega
                        have i8 : (x : Int) < 256 := by omega
                        have HOS := Lib.hid (show c + 1 ≤ 257 by omega)
                        clear hx
                        cases ab
                        · go_wp2_with fail
                          go_roundg g5
                          case measure => omega
                          case rel => exact ⟨c + 1, false, by go_num, by omega, by omega, rfl, Lib.hid (by rw [HN2.out]; rfl), rfl⟩
                        · go_wp2_with fail
                          go_roundg g5
                          case measure => omega
                          case rel => exact ⟨c + 1, tb, by go_num, by omega, by omega, rfl, Lib.hid (by rw [HN2.out]; rfl), rfl⟩
                      · obtain rfl : o.2.length = c := by omega
                        have hab := HAB.out
                        rw [List.take_length] at hab
                        have HAL : Hid (allB T s.2.length o.2 = ab) := Lib.hid (by unfold allB; rw [HEB.out]; exact hab)
                        clear hab
                        cases fd
                        all_goals
                          go_wp2_with fail
                          go_roundg g4
                          case measure => omega
                          case rel => exact ⟨j + 1, by go_num, by omega, by omega, by rw [HTA.out, HAL.out]; simp, HB11, HX11, HW11⟩
                · obtain rfl : L.length = j := by omega
                  rw [List.take_length, HAN.out]
                  go_wp2_with fail
                  go_roundg g2
                  case measure => omega
                  case rel => exact ⟨i + 1, by go_num, by omega, by omega, HB9⟩
        · obtain rfl : L.length = i := by omega
          go_wp2_with fail
          go_roundg g1
          case measure => omega
          case rel => exact ⟨m + 1, by go_num, by omega, by omega, HB6⟩
    · obtain rfl : S.length = m := by omega
      go_wp2_with fail
      go_ret
      exact ⟨rfl, HB4.out.trans (HB5.out.mono HB4.out.size)⟩
end Go.Proofs.Ytonibpilbkafnaa
