/- Package slots: List. -/
import Derived.Test.YtonibpilbkafnaaO18
namespace Go.Proofs.Ytonibpilbkafnaa
set_option linter.unusedVariables false
set_option linter.unusedSimpArgs false
open Go.RowKit Go.Lib

/-- the slots ahead of one way of one cell -/
def slotsD (st : Nat → Nat → Option Nat) (n i : Nat) : Nat → List (Bool × List Nat)
  | 0 => slotsL st n i
  | d + 1 => slotsD st n i d ++ slotW st n i d
theorem slotsD_two (st : Nat → Nat → Option Nat) (n i : Nat) : slotsD st n i 2 = slotsL st n (i + 1) := rfl
theorem slotW_len (st : Nat → Nat → Option Nat) (n i d : Nat) : (slotW st n i d).length ≤ 1 := by unfold slotW; split <;> simp
theorem slotsL_len (st : Nat → Nat → Option Nat) (n : Nat) : ∀ i, (slotsL st n i).length ≤ 2 * i
  | 0 => Nat.le_refl _
  | i + 1 => by
    have h := slotsL_len st n i
    have h0 := slotW_len st n i 0
    have h1 := slotW_len st n i 1
    show (slotsL st n i ++ slotW st n i 0 ++ slotW st n i 1).length ≤ _
    rw [List.length_append, List.length_append]
    omega
theorem news3 (w : World) (x y z : Value) (t : TypeId) : ∀ j u, [x, y, z][j]? = some u → (w.alloc (.cells #[x, y, z] t)).cell? ((⟨w.heap.size, 0, none⟩ : Addr).add j) = some u :=
  World.news_of_block (cs := #[x, y, z]) (t := t) (fr := (0, 0)) (World.alloc_heap_new w _)
set_option maxHeartbeats 8000000 in
set_option maxRecDepth 100000 in
theorem List_any (v : Value) (g : Gd) (B : Nat) (w : World) (h : GdAt w B v g) (hB : B ≤ w.heap.size) (hg : OkG g) :
    Calls Try.prog 6 #[v] w fun e w' => ∃ vs A c, e = .returned (.slice A (slotsL (stG g) (g.H.toNat * g.W.toNat) (g.H.toNat * g.W.toNat)).length c) ∧
      SlotsAt w' w.heap.size (.slice A (slotsL (stG g) (g.H.toNat * g.W.toNat) (g.H.toNat * g.W.toNat)).length c) vs (slotsL (stG g) (g.H.toNat * g.W.toNat) (g.H.toNat * g.W.toNat)) ∧ Below w.heap.size w w' := by
  have h256 := (area_le hg).1
  have hlB := hg.b
  have cch := fun W (hb : Below B w W) (hz : B ≤ W.heap.size) => Check_any v g B W (h.below hb) hz (by have := hg.b; have := hg.r; have := hg.d; omega)
  rw [check_of_ok hg] at cch
  have cs := fun (j d : Nat) (W : World) (hj : j < g.H.toNat * g.W.toNat) (hd : d < 4) (hb : Below w.heap.size w W) => Step_any v g j d B W (h.below (hb.mono hB)) (Nat.le_trans hB hb.size) hg hj hd
  have cg := fun (j d : Nat) (W : World) (hj : j < g.H.toNat * g.W.toNat) (hd : d < 2) (hb : Below w.heap.size w W) => gather_any v g j d B w.heap.size W (h.below (hb.mono hB)) (Nat.le_trans hB hb.size) hg hj hd
  obtain ⟨Ab, Ar, Ad, cb, cr, cd, rfl⟩ := h.form
  obtain ⟨i0, hi0, hz0, hz1, hz2⟩ := info_parts infoSlot
  clear h hg
  unfold stG at *
  generalize stW g.H.toNat g.W.toNat (gt g.B) (gt g.R) (gt g.D) = st at *
  generalize g.H.toNat * g.W.toNat = n at *
  obtain ⟨gH, gW, gB, gR, gD⟩ := g
  simp only [gdV] at cch cs cg hlB ⊢
  rw [hlB] at cch cs cg ⊢
  generalize gR.length = nr at *
  generalize gD.length = nd at *
  have CCH := Lib.hid cch; have CS := Lib.hid cs; have CG := Lib.hid cg; clear cch cs cg hlB
  have HB0 := Lib.hid hB; clear hB
  go_enter Try.func6, Try.ntmps6
  go_wp2_with fail
  have hba : Below w.heap.size w _ := (Below.refl _ w).alloc (Nat.le_refl _) (.cells #[.int .i64 gH, .int .i64 gW, .slice Ab n cb, .slice Ar nr cr, .slice Ad nd cd] 24)
  have hg0 := World.alloc_heap_new w (.cells #[.int .i64 gH, .int .i64 gW, .slice Ab n cb, .slice Ar nr cr, .slice Ad nd cd] 24)
  have hz3 : w.heap.size + 1 = (w.alloc (.cells #[.int .i64 gH, .int .i64 gW, .slice Ab n cb, .slice Ar nr cr, .slice Ad nd cd] 24)).heap.size := by simp
  refine (CCH.out _ (hba.mono HB0.out) (by have := HB0.out; omega)).mono ?_
  rintro e w1 ⟨rfl, hb1⟩
  have hg1 := (hb1.block w.heap.size (by omega)).trans hg0
  have p2 := Lib.cell_of_heap hg1 2
  have z1 := hb1.size
  have HBW := Lib.hid (hba.trans (hb1.mono (by omega)))
  have HG1 := Lib.hid hg1
  clear hba hg0 hz3 hb1 hg1
  go_wp2_with fail
  --LOOP
  have hzb := (Array.getElem?_eq_some_iff.1 HG1.out).1
  go_loopg [3, 5, 6, 7, 8, 9, 10, 11, 12, 20] n (fun gf u3 u5 _ _ _ _ _ _ _ u20 wr => ∃ (i num : Nat) (L : List (Bool × List Nat)) (vs : List Value) (A : Option Addr) (c : Nat), u20 = .int .i64 i ∧ i ≤ n ∧ n ≤ i + gf ∧ u5 = .int .i64 num ∧ num ≤ i ∧ u3 = .slice A L.length c ∧ Hid (L = slotsL st n i) ∧
    Hid (Below w.heap.size w wr) ∧ Hid (wr.heap[w.heap.size]? = some (.cells #[.int .i64 gH, .int .i64 gW, .slice Ab n cb, .slice Ar nr cr, .slice Ad nd cd] 24 (0, 0))) ∧ Hid (SlotsAt wr (w.heap.size + 1) (.slice A L.length c) vs L))
  case atStart => exact ⟨0, 0, [], [], none, 0, rfl, Nat.zero_le _, by omega, rfl, Nat.le_refl _, rfl, Lib.hid rfl, HBW, HG1, Lib.hid (SlotsAt.nil _ _)⟩
  case round =>
    rename World => w5
    obtain ⟨i, num0, L0, vs0, A0, c0, rfl, hin, hfu, rfl, hnum0, rfl, HL0, HB5, HH5, HS5⟩ := hrel
    by_cases hi : i < n
    · obtain ⟨g', rfl⟩ : ∃ g', gk = g' + 1 := ⟨gk - 1, by omega⟩
      go_wp2_with fail
      go_step3
      go_wp2_with fail
      go_step3
      go_wp2_with fail
      go_loopg [3, 5, 7, 8, 9, 10, 11, 12, 23] 2 (fun gf u3 u5 u7 _ _ _ _ _ u23 wr => ∃ (d num : Nat) (bb : Bool) (L : List (Bool × List Nat)) (vs : List Value) (A : Option Addr) (c : Nat), u23 = .int .i64 d ∧ d ≤ 2 ∧ 2 ≤ d + gf ∧ u5 = .int .i64 num ∧ u7 = .bool bb ∧ num ≤ i + bb.toNat ∧ u3 = .slice A L.length c ∧ Hid (L = slotsD st n i d) ∧
        Hid (Below w.heap.size w wr) ∧ Hid (wr.heap[w.heap.size]? = some (.cells #[.int .i64 gH, .int .i64 gW, .slice Ab n cb, .slice Ar nr cr, .slice Ad nd cd] 24 (0, 0))) ∧ Hid (SlotsAt wr (w.heap.size + 1) (.slice A L.length c) vs L))
      case atStart => exact ⟨0, num0, false, L0, vs0, A0, c0, rfl, by omega, by omega, rfl, rfl, by simp; omega, rfl, HL0, HB5, HH5, HS5⟩
      case round =>
        clear HL0 HB5 HH5 HS5
        rename World => w6
        obtain ⟨d, num, bb, L, vs, A, c, rfl, hd2, hfu2, rfl, rfl, hnum, rfl, HL, HB, HH, HS⟩ := hrel
        have hLl : L.length ≤ 512 := by
          rw [HL.out]
          have := slotsL_len st n i
          have := slotW_len st n i 0
          have := slotW_len st n i 1
          rcases (by omega : d = 0 ∨ d = 1 ∨ d = 2) with rfl | rfl | rfl
          · show (slotsL st n i).length ≤ _; omega
          · show (slotsL st n i ++ slotW st n i 0).length ≤ _; rw [List.length_append]; omega
          · show (slotsL st n i ++ slotW st n i 0 ++ slotW st n i 1).length ≤ _; rw [List.length_append, List.length_append]; omega
        have hbb : bb.toNat ≤ 1 := by cases bb <;> simp
        have z6 : w.heap.size + 1 ≤ w6.heap.size := (Array.getElem?_eq_some_iff.1 HH.out).1
        by_cases hd : d < 2
        · obtain ⟨g2, rfl⟩ : ∃ g2, gk = g2 + 1 := ⟨gk - 1, by omega⟩
          rcases (by omega : d = 0 ∨ d = 1) with rfl | rfl
          · skip
            have WG := HH
            have p0 := Lib.cell_of_heap WG.out 0
            have p1 := Lib.cell_of_heap WG.out 1
            have p2 := Lib.cell_of_heap WG.out 2
            have p3 := Lib.cell_of_heap WG.out 3
            have p4 := Lib.cell_of_heap WG.out 4
            go_wp2_with fail
            refine (CS.out i 2 w6 hi (by omega) HB.out).mono ?_
            rintro e w7 ⟨rfl, hb7⟩
            have z7 := hb7.size
            have HB7 := Lib.hid (HB.out.trans (hb7.mono (by omega)))
            have HH7 := Lib.hid ((hb7.block w.heap.size (by omega)).trans HH.out)
            have HS7 := Lib.hid (HS.out.below hb7)
            clear hb7 p0 p1 p2 p3 p4
            cases hs1 : st i 2 with
            | some j1 =>
              have HL2 : Hid (L = slotsD st n i 1) := Lib.hid (by show L = slotsD st n i 0 ++ slotW st n i 0; rw [HL.out]; unfold slotW; rw [begB_no1 hs1]; simp)
              clear hs1
              unfold stepV
              go_wp2_with fail
              go_roundg g2
              case measure => omega
              case rel => exact ⟨1, num, bb, L, vs, A, c, by go_num, by omega, by omega, rfl, rfl, hnum, rfl, HL2, HB7, HH7, HS7⟩
            | none =>
              have HS1 := Lib.hid hs1; clear hs1
              unfold stepV
              have WG := HH7
              have p0 := Lib.cell_of_heap WG.out 0
              have p1 := Lib.cell_of_heap WG.out 1
              have p2 := Lib.cell_of_heap WG.out 2
              have p3 := Lib.cell_of_heap WG.out 3
              have p4 := Lib.cell_of_heap WG.out 4
              go_wp2_with fail
              refine (CS.out i 0 w7 hi (by omega) HB7.out).mono ?_
              rintro e w8 ⟨rfl, hb8⟩
              have z8 := hb8.size
              have HB8 := Lib.hid (HB7.out.trans (hb8.mono (by omega)))
              have HH8 := Lib.hid ((hb8.block w.heap.size (by omega)).trans HH7.out)
              have HS8 := Lib.hid (HS7.out.below hb8)
              clear hb8 p0 p1 p2 p3 p4
              cases hs2 : st i 0 with
              | none =>
                have HL2 : Hid (L = slotsD st n i 1) := Lib.hid (by show L = slotsD st n i 0 ++ slotW st n i 0; rw [HL.out]; unfold slotW; rw [begB_no2 hs2]; simp)
                clear hs2
                unfold stepV
                go_wp2_with fail
                go_roundg g2
                case measure => omega
                case rel => exact ⟨1, num, bb, L, vs, A, c, by go_num, by omega, by omega, rfl, rfl, hnum, rfl, HL2, HB8, HH8, HS8⟩
              | some j2 =>
                have HL2 : Hid (L ++ [(decide (0 = 1), gath st 0 n i)] = slotsD st n i 1) := Lib.hid (by show _ = slotsD st n i 0 ++ slotW st n i 0; rw [HL.out]; unfold slotW; rw [begB_yes HS1.out hs2]; rfl)
                clear hs2
                unfold stepV
                cases bb with
                | true =>
                  go_wp2_with fail
                  refine (CG.out i 0 w8 hi (by omega) HB8.out ⟨_, rfl, HH8.out⟩).mono ?_
                  rintro e w9 ⟨A9, c9, rfl, hown9, hb9⟩
                  have z9 := hb9.size
                  have HB9 := Lib.hid (HB8.out.trans (hb9.mono (by omega)))
                  have HH9 := Lib.hid ((hb9.block w.heap.size (by omega)).trans HH8.out)
                  have HS9 := Lib.hid (HS8.out.below hb9)
                  have HO9 := Lib.hid (own_base hown9 (show w.heap.size + 1 ≤ w8.heap.size by omega))
                  clear hb9 hown9
                  generalize hgl : gath st 0 n i = gl at *
                  clear hgl
                  have hown := HS9.out.own
                  go_wp2_with (at_builtin; refine wpList_append_own_at _ rfl (.tmp 48) (.tmp 57) 28 rfl (w.heap.size + 1) 31 i0 (.agg #[.int .i64 0, .bool false, .slice none 0 0]) 3 40 Try.underlying28 hi0 hz0 hz1 hz2 rfl (by decide) _ _ _ rfl (hown.alloc _) ⟨w9.heap.size, 0, none⟩ 1 1 [.int .i64 (num : Int), .bool false, .slice A9 gl.length c9] rfl rfl (news3 _ _ _ _ _) (by simp [Value.oneCell']) (by unfold maxLen; omega) (by omega) (by simp only [World.size_alloc]; omega) ?_; intro v' wa howna hga _ _; obtain ⟨Aa, ca, rfl⟩ := own_formZ howna)
                  have HBa : Hid (Below w.heap.size w wa) := Lib.hid ((HB9.out.alloc (by omega) (.cells #[.int .i64 (num : Int), .bool false, .slice A9 gl.length c9] 31)).grown hga (by simp only [World.size_alloc]; omega) (fun k hk => Nat.le_of_succ_le (hown.lt k hk).1))
                  have hne : Value.ownBlock (.slice A L.length c) ≠ some w.heap.size := fun e => by have := (hown.lt _ e).1; omega
                  have HHa := Lib.hid ((hga.block w.heap.size (by simp only [World.size_alloc]; omega) (Ne.symm hne)).trans ((Below.heap_alloc _ _ _ (by omega)).trans HH9.out))
                  have HSa := Lib.hid ((HS9.out.below ((Below.refl _ w9).alloc (Nat.le_refl _) (.cells #[.int .i64 (num : Int), .bool false, .slice A9 gl.length c9] 31))).snoc (s := (false, gl)) (num := num) (HO9.out.alloc _) hga howna)
                  have HLl : Hid (L.length + 1 = (L ++ [(false, gl)]).length) := Lib.hid (by rw [List.length_append]; rfl)
                  clear hown howna hga hne
                  go_roundg g2
                  case measure => omega
                  case rel => exact ⟨1, num, true, L ++ [(false, gl)], _, Aa, ca, by go_num, by omega, by omega, rfl, rfl, hnum, by rw [← HLl.out], HL2, HBa, HHa, Lib.hid (by rw [← HLl.out]; exact HSa.out)⟩
                | false =>
                  go_wp2_with fail
                  refine (CG.out i 0 w8 hi (by omega) HB8.out ⟨_, rfl, HH8.out⟩).mono ?_
                  rintro e w9 ⟨A9, c9, rfl, hown9, hb9⟩
                  have z9 := hb9.size
                  have HB9 := Lib.hid (HB8.out.trans (hb9.mono (by omega)))
                  have HH9 := Lib.hid ((hb9.block w.heap.size (by omega)).trans HH8.out)
                  have HS9 := Lib.hid (HS8.out.below hb9)
                  have HO9 := Lib.hid (own_base hown9 (show w.heap.size + 1 ≤ w8.heap.size by omega))
                  clear hb9 hown9
                  generalize hgl : gath st 0 n i = gl at *
                  clear hgl
                  have hown := HS9.out.own
                  go_wp2_with (at_builtin; refine wpList_append_own_at _ rfl (.tmp 48) (.tmp 57) 28 rfl (w.heap.size + 1) 31 i0 (.agg #[.int .i64 0, .bool false, .slice none 0 0]) 3 40 Try.underlying28 hi0 hz0 hz1 hz2 rfl (by decide) _ _ _ rfl (hown.alloc _) ⟨w9.heap.size, 0, none⟩ 1 1 [.int .i64 ((num : Int) + 1), .bool false, .slice A9 gl.length c9] rfl rfl (news3 _ _ _ _ _) (by simp [Value.oneCell']) (by unfold maxLen; omega) (by omega) (by simp only [World.size_alloc]; omega) ?_; intro v' wa howna hga _ _; obtain ⟨Aa, ca, rfl⟩ := own_formZ howna)
                  have HBa : Hid (Below w.heap.size w wa) := Lib.hid ((HB9.out.alloc (by omega) (.cells #[.int .i64 ((num : Int) + 1), .bool false, .slice A9 gl.length c9] 31)).grown hga (by simp only [World.size_alloc]; omega) (fun k hk => Nat.le_of_succ_le (hown.lt k hk).1))
                  have hne : Value.ownBlock (.slice A L.length c) ≠ some w.heap.size := fun e => by have := (hown.lt _ e).1; omega
                  have HHa := Lib.hid ((hga.block w.heap.size (by simp only [World.size_alloc]; omega) (Ne.symm hne)).trans ((Below.heap_alloc _ _ _ (by omega)).trans HH9.out))
                  have HSa := Lib.hid ((HS9.out.below ((Below.refl _ w9).alloc (Nat.le_refl _) (.cells #[.int .i64 ((num : Int) + 1), .bool false, .slice A9 gl.length c9] 31))).snoc (s := (false, gl)) (num := (num : Int) + 1) (HO9.out.alloc _) hga howna)
                  have HLl : Hid (L.length + 1 = (L ++ [(false, gl)]).length) := Lib.hid (by rw [List.length_append]; rfl)
                  clear hown howna hga hne
                  go_roundg g2
                  case measure => omega
                  case rel => exact ⟨1, num + 1, true, L ++ [(false, gl)], _, Aa, ca, by go_num, by omega, by omega, by go_num, rfl, by have h9 : num ≤ i := hnum; show num + 1 ≤ i + 1; omega, by rw [← HLl.out], HL2, HBa, HHa, Lib.hid (by rw [← HLl.out]; exact HSa.out)⟩
          · skip
            have WG := HH
            have p0 := Lib.cell_of_heap WG.out 0
            have p1 := Lib.cell_of_heap WG.out 1
            have p2 := Lib.cell_of_heap WG.out 2
            have p3 := Lib.cell_of_heap WG.out 3
            have p4 := Lib.cell_of_heap WG.out 4
            go_wp2_with fail
            refine (CS.out i 3 w6 hi (by omega) HB.out).mono ?_
            rintro e w7 ⟨rfl, hb7⟩
            have z7 := hb7.size
            have HB7 := Lib.hid (HB.out.trans (hb7.mono (by omega)))
            have HH7 := Lib.hid ((hb7.block w.heap.size (by omega)).trans HH.out)
            have HS7 := Lib.hid (HS.out.below hb7)
            clear hb7 p0 p1 p2 p3 p4
            cases hs1 : st i 3 with
            | some j1 =>
              have HL2 : Hid (L = slotsD st n i 2) := Lib.hid (by show L = slotsD st n i 1 ++ slotW st n i 1; rw [HL.out]; unfold slotW; rw [begB_no1 hs1]; simp)
              clear hs1
              unfold stepV
              go_wp2_with fail
              go_roundg g2
              case measure => omega
              case rel => exact ⟨2, num, bb, L, vs, A, c, by go_num, by omega, by omega, rfl, rfl, hnum, rfl, HL2, HB7, HH7, HS7⟩
            | none =>
              have HS1 := Lib.hid hs1; clear hs1
              unfold stepV
              have WG := HH7
              have p0 := Lib.cell_of_heap WG.out 0
              have p1 := Lib.cell_of_heap WG.out 1
              have p2 := Lib.cell_of_heap WG.out 2
              have p3 := Lib.cell_of_heap WG.out 3
              have p4 := Lib.cell_of_heap WG.out 4
              go_wp2_with fail
              refine (CS.out i 1 w7 hi (by omega) HB7.out).mono ?_
              rintro e w8 ⟨rfl, hb8⟩
              have z8 := hb8.size
              have HB8 := Lib.hid (HB7.out.trans (hb8.mono (by omega)))
              have HH8 := Lib.hid ((hb8.block w.heap.size (by omega)).trans HH7.out)
              have HS8 := Lib.hid (HS7.out.below hb8)
              clear hb8 p0 p1 p2 p3 p4
              cases hs2 : st i 1 with
              | none =>
                have HL2 : Hid (L = slotsD st n i 2) := Lib.hid (by show L = slotsD st n i 1 ++ slotW st n i 1; rw [HL.out]; unfold slotW; rw [begB_no2 hs2]; simp)
                clear hs2
                unfold stepV
                go_wp2_with fail
                go_roundg g2
                case measure => omega
                case rel => exact ⟨2, num, bb, L, vs, A, c, by go_num, by omega, by omega, rfl, rfl, hnum, rfl, HL2, HB8, HH8, HS8⟩
              | some j2 =>
                have HL2 : Hid (L ++ [(decide (1 = 1), gath st 1 n i)] = slotsD st n i 2) := Lib.hid (by show _ = slotsD st n i 1 ++ slotW st n i 1; rw [HL.out]; unfold slotW; rw [begB_yes HS1.out hs2]; rfl)
                clear hs2
                unfold stepV
                cases bb with
                | true =>
                  go_wp2_with fail
                  refine (CG.out i 1 w8 hi (by omega) HB8.out ⟨_, rfl, HH8.out⟩).mono ?_
                  rintro e w9 ⟨A9, c9, rfl, hown9, hb9⟩
                  have z9 := hb9.size
                  have HB9 := Lib.hid (HB8.out.trans (hb9.mono (by omega)))
                  have HH9 := Lib.hid ((hb9.block w.heap.size (by omega)).trans HH8.out)
                  have HS9 := Lib.hid (HS8.out.below hb9)
                  have HO9 := Lib.hid (own_base hown9 (show w.heap.size + 1 ≤ w8.heap.size by omega))
                  clear hb9 hown9
                  generalize hgl : gath st 1 n i = gl at *
                  clear hgl
                  have hown := HS9.out.own
                  go_wp2_with (at_builtin; refine wpList_append_own_at _ rfl (.tmp 48) (.tmp 57) 28 rfl (w.heap.size + 1) 31 i0 (.agg #[.int .i64 0, .bool false, .slice none 0 0]) 3 40 Try.underlying28 hi0 hz0 hz1 hz2 rfl (by decide) _ _ _ rfl (hown.alloc _) ⟨w9.heap.size, 0, none⟩ 1 1 [.int .i64 (num : Int), .bool true, .slice A9 gl.length c9] rfl rfl (news3 _ _ _ _ _) (by simp [Value.oneCell']) (by unfold maxLen; omega) (by omega) (by simp only [World.size_alloc]; omega) ?_; intro v' wa howna hga _ _; obtain ⟨Aa, ca, rfl⟩ := own_formZ howna)
                  have HBa : Hid (Below w.heap.size w wa) := Lib.hid ((HB9.out.alloc (by omega) (.cells #[.int .i64 (num : Int), .bool true, .slice A9 gl.length c9] 31)).grown hga (by simp only [World.size_alloc]; omega) (fun k hk => Nat.le_of_succ_le (hown.lt k hk).1))
                  have hne : Value.ownBlock (.slice A L.length c) ≠ some w.heap.size := fun e => by have := (hown.lt _ e).1; omega
                  have HHa := Lib.hid ((hga.block w.heap.size (by simp only [World.size_alloc]; omega) (Ne.symm hne)).trans ((Below.heap_alloc _ _ _ (by omega)).trans HH9.out))
                  have HSa := Lib.hid ((HS9.out.below ((Below.refl _ w9).alloc (Nat.le_refl _) (.cells #[.int .i64 (num : Int), .bool true, .slice A9 gl.length c9] 31))).snoc (s := (true, gl)) (num := num) (HO9.out.alloc _) hga howna)
                  have HLl : Hid (L.length + 1 = (L ++ [(true, gl)]).length) := Lib.hid (by rw [List.length_append]; rfl)
                  clear hown howna hga hne
                  go_roundg g2
                  case measure => omega
                  case rel => exact ⟨2, num, true, L ++ [(true, gl)], _, Aa, ca, by go_num, by omega, by omega, rfl, rfl, hnum, by rw [← HLl.out], HL2, HBa, HHa, Lib.hid (by rw [← HLl.out]; exact HSa.out)⟩
                | false =>
                  go_wp2_with fail
                  refine (CG.out i 1 w8 hi (by omega) HB8.out ⟨_, rfl, HH8.out⟩).mono ?_
                  rintro e w9 ⟨A9, c9, rfl, hown9, hb9⟩
                  have z9 := hb9.size
                  have HB9 := Lib.hid (HB8.out.trans (hb9.mono (by omega)))
                  have HH9 := Lib.hid ((hb9.block w.heap.size (by omega)).trans HH8.out)
                  have HS9 := Lib.hid (HS8.out.below hb9)
                  have HO9 := Lib.hid (own_base hown9 (show w.heap.size + 1 ≤ w8.heap.size by omega))
                  clear hb9 hown9
                  generalize hgl : gath st 1 n i = gl at *
                  clear hgl
                  have hown := HS9.out.own
                  go_wp2_with (at_builtin; refine wpList_append_own_at _ rfl (.tmp 48) (.tmp 57) 28 rfl (w.heap.size + 1) 31 i0 (.agg #[.int .i64 0, .bool false, .slice none 0 0]) 3 40 Try.underlying28 hi0 hz0 hz1 hz2 rfl (by decide) _ _ _ rfl (hown.alloc _) ⟨w9.heap.size, 0, none⟩ 1 1 [.int .i64 ((num : Int) + 1), .bool true, .slice A9 gl.length c9] rfl rfl (news3 _ _ _ _ _) (by simp [Value.oneCell']) (by unfold maxLen; omega) (by omega) (by simp only [World.size_alloc]; omega) ?_; intro v' wa howna hga _ _; obtain ⟨Aa, ca, rfl⟩ := own_formZ howna)
                  have HBa : Hid (Below w.heap.size w wa) := Lib.hid ((HB9.out.alloc (by omega) (.cells #[.int .i64 ((num : Int) + 1), .bool true, .slice A9 gl.length c9] 31)).grown hga (by simp only [World.size_alloc]; omega) (fun k hk => Nat.le_of_succ_le (hown.lt k hk).1))
                  have hne : Value.ownBlock (.slice A L.length c) ≠ some w.heap.size := fun e => by have := (hown.lt _ e).1; omega
                  have HHa := Lib.hid ((hga.block w.heap.size (by simp only [World.size_alloc]; omega) (Ne.symm hne)).trans ((Below.heap_alloc _ _ _ (by omega)).trans HH9.out))
                  have HSa := Lib.hid ((HS9.out.below ((Below.refl _ w9).alloc (Nat.le_refl _) (.cells #[.int .i64 ((num : Int) + 1), .bool true, .slice A9 gl.length c9] 31))).snoc (s := (true, gl)) (num := (num : Int) + 1) (HO9.out.alloc _) hga howna)
                  have HLl : Hid (L.length + 1 = (L ++ [(true, gl)]).length) := Lib.hid (by rw [List.length_append]; rfl)
                  clear hown howna hga hne
                  go_roundg g2
                  case measure => omega
                  case rel => exact ⟨2, num + 1, true, L ++ [(true, gl)], _, Aa, ca, by go_num, by omega, by omega, by go_num, rfl, by have h9 : num ≤ i := hnum; show num + 1 ≤ i + 1; omega, by rw [← HLl.out], HL2, HBa, HHa, Lib.hid (by rw [← HLl.out]; exact HSa.out)⟩
        · obtain rfl : 2 = d := by omega
          have HL2 : Hid (L = slotsL st n (i + 1)) := HL
          go_wp2_with fail
          rw [Exit.noGoto_normal]
          go_wp2_with fail
          go_roundg g'
          case measure => omega
          case rel => exact ⟨i + 1, num, L, vs, A, c, by go_num, by omega, by omega, rfl, by omega, rfl, HL2, HB, HH, HS⟩
    · obtain rfl : n = i := by omega
      go_wp2_with fail
      go_ret
      refine ⟨vs0, A0, c0, ?_, ?_, HB5.out⟩
      · rw [← HL0.out]; rfl
      · rw [← HL0.out]
        exact ⟨own_base HS5.out.own (by omega), fun k s hk => by obtain ⟨m, u, e1, e2, e3, o⟩ := HS5.out.row k s hk; exact ⟨m, u, e1, e2, e3, own_base o (by omega)⟩⟩
end Go.Proofs.Ytonibpilbkafnaa
