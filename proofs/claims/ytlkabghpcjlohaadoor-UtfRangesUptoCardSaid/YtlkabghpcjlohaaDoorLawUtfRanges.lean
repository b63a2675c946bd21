/- UtfRanges: for every text that holds at most 1048576 bytes the call returns true. -/
import Derived.Test.YtlkabghpcjlohaaDoorU1
namespace Go.Proofs.YtlkabghpcjlohaaDoor
set_option linter.unusedVariables false
set_option linter.unusedSimpArgs false
open Go.RowKit Go.Lib Go.Shelf
attribute [local go_sem] Oper.semAt_some

set_option maxHeartbeats 16000000 in
set_option maxRecDepth 100000 in
theorem utfRanges_any (s : ByteArray) (w : World) (hs : s.size ≤ 1048576) (hT : Tabs w) :
    Calls Tryd.prog 4 #[.string s] w fun e w' => e = .returned (.bool true) ∧ Below w.heap.size w w' := by
  have hle := chop_length_le (bl s)
  rw [bl_length] at hle
  obtain ⟨i0, hi, hz0, hz1, hz2⟩ := info_parts infoInt
  obtain ⟨j0, hj, hy0, hy1, hy2⟩ := info_parts infoI32
  have hTW := hT.below ((Below.refl w.heap.size w).alloc (Nat.le_refl _) (.cells #[.bool false] 4))
  have CA := Lib.hid (awake_any (w.alloc (.cells #[.bool false] 4)) hTW)
  clear hTW
  refine (callsIn_wide (n := 6)).1 ?_
  refine callsIn_of_wp_marks Tryd.func4 rfl trivial ?_ rfl
  refine wpIn_wide.2 ?_
  simp only [Tryd.ntmps4, List.size_toArray, List.length_cons, List.length_nil, Nat.reduceAdd, Nat.reduceSub, Array.replicate_succ, Array.replicate_zero, List.push_toArray, List.append_toArray, List.nil_append, List.cons_append]
  go_wp2_with (go_at_call 15; refine CA.out.mono ?_; rintro e w1 ⟨rfl, hb1⟩)
  have hs1 := hb1.size
  rw [World.size_alloc] at hs1
  go_loopg [5, 6] s.size (fun gf _ _ wr => ∃ (v u : Value) (pre : List (Nat × Nat)) (pos : Nat), RW w1.heap.size s pos (pre.map (·.1)) (pre.map (·.2)) wr v u ∧ Below w1.heap.size w1 wr ∧
    pre ++ stepsFrom pos (chop ((bl s).drop pos)) = steps (bl s) ∧ pre.length ≤ pos ∧ pos ≤ s.size ∧ s.size ≤ pos + gf)
  case atStart =>
    refine ⟨.slice none 0 0, .slice none 0 0, [], 0, ⟨?_, ?_, ?_, World.ownsRow_nil _ _ _ _, World.ownsRow_nil _ _ _ _, fun j hj => by cases hj⟩, ?_, by simp [steps], Nat.le_refl _, Nat.zero_le _, by omega⟩
    · have := World.iter_heap ((w1.alloc (.cells #[.slice none 0 0] 29)).alloc (.cells #[.slice none 0 0] 30)) s 0
      rwa [World.size_alloc, World.size_alloc] at this
    · exact (Below.heap_alloc _ _ _ (by simp only [World.size_alloc]; omega)).trans ((Below.heap_alloc _ _ _ (by simp)).trans (World.alloc_heap_new w1 _))
    · refine (Below.heap_alloc _ _ _ (by simp)).trans ?_
      have := World.alloc_heap_new (w1.alloc (.cells #[.slice none 0 0] 29)) (.cells #[.slice none 0 0] 30); rwa [World.size_alloc] at this
    · exact (((Below.refl _ w1).alloc (Nat.le_refl _) _).alloc (by simp) _).alloc (by simp; omega) _
  case round =>
    obtain ⟨v, u, pre, pos, hR, hbw, hx, hal, hps, hfu⟩ := hrel
    by_cases hp : pos < s.size
    · obtain ⟨g', rfl⟩ : ∃ g', gk = g' + 1 := ⟨gk - 1, by omega⟩
      have hnx : ∀ ty, (Instr.next (.pointer (some ⟨w1.heap.size + 2, 0, none⟩)) true ty).run Tryd.prog wr = _ := fun ty => Lib.run_next_any_at wr (w1.heap.size + 2) s pos ty hR.it hp
      have hwd := Lib.width_pos s pos
      have hwl := width_le s pos hp
      have hpl := piece_len s pos hp
      rw [chop_at s pos hp, stepsFrom, hpl] at hx
      have hR2 := hR.iter (pos + (Utf8.decode s pos).2)
      have hbw2 := Lib.below_iterAt hbw (k := w1.heap.size + 2) (by omega) s (pos + (Utf8.decode s pos).2)
      clear hpl
      generalize Utf8.decode s pos = d at *
      have HX := Lib.hid hx; clear hx
      generalize hW : wr.iterAt (w1.heap.size + 2) s (pos + d.2) = W at hnx hR2 hbw2
      clear hW hR hbw
      have hcv := Lib.cell_of_heap hR2.cv 0
      have hln : pre.length ≤ 1048576 := by omega
      have hlW := hR2.lt
      have hR3 := hR2.alloc (.cells #[.int .i64 (pos : Int)] 3)
      have ho1 := hR3.ov
      have H2 := Lib.hid hR2; have H3 := Lib.hid hR3
      rw [List.length_map] at ho1
      have hE1 : ints ((pre ++ [(pos, d.1)]).map (·.1)) = ints (pre.map (·.1)) ++ [.int .i64 (pos : Int)] := by simp [ints]
      have hE2 : runeVs ((pre ++ [(pos, d.1)]).map (·.2)) = runeVs (pre.map (·.2)) ++ [.int .i32 (d.1 : Int)] := by simp [runeVs]
      have hL1 : ((pre ++ [(pos, d.1)]).map (·.1)).length = pre.length + 1 := by simp
      have hL2 : ((pre ++ [(pos, d.1)]).map (·.2)).length = pre.length + 1 := by simp
      have HE1 := Lib.hid hE1; have HE2 := Lib.hid hE2; have HL1 := Lib.hid hL1; have HL2 := Lib.hid hL2
      clear hE1 hE2 hL1 hL2 hR2 hR3
      go_wp2_with (first
        | (at_builtin; refine wpList_append_own_at _ rfl (.tmp 25) (.tmp 27) 29 rfl (w1.heap.size + 3) 3 i0 (.int .i64 0) 1 8 Tryd.underlying29 hi hz0 hz1 hz2 rfl (by decide) _ _ _ rfl ho1 ⟨W.heap.size, 0, none⟩ 1 1 [.int .i64 (pos : Int)] rfl rfl (cell_one_new _ _ _) (by simp [Value.oneCell']) (by unfold maxLen; omega) (by omega) (by simp only [World.size_alloc]; omega) ?_; intro v' w2 hown1 hg1 _ hat1; obtain ⟨A1, c1, rfl⟩ := own_form hown1; have m1 := H3.out.mid hg1; have cm1 := Lib.cell_of_heap m1 0; have fm1 := Lib.frozen_of_heap m1 0; have m2 := (hg1.block (w1.heap.size + 1) (by simp only [World.size_alloc]; omega) (own_lt_ne H3.out.ov (by omega))).trans H3.out.cu; have cm2 := Lib.cell_of_heap m2 0; have fm2 := Lib.frozen_of_heap m2 0; have hsg := hg1.size; have hb3 := ((hbw2.alloc (by omega) (.cells #[.int .i64 (pos : Int)] 3)).grown hg1 (by simp only [World.size_alloc]; omega) (fun j hj => by have := (H3.out.ov.lt j hj).1; omega)).setCell (p := ⟨w1.heap.size, 0, none⟩) (by simp) (.slice A1 (pre.length + 1) c1); have hR4 := Lib.hid (H3.out.put1 (ps' := (pre ++ [(pos, d.1)]).map (·.1)) (by rw [HE1.out, HL1.out]; exact hown1) hg1 hat1); have hR5 := Lib.hid (hR4.out.alloc (.cells #[.int .i32 (d.1 : Int)] 21)); have ho2 := hR5.out.ou; rw [List.length_map] at ho2)
        | (at_builtin; refine wpList_append_own_at _ rfl (.tmp 29) (.tmp 31) 30 rfl (w1.heap.size + 3) 21 j0 (.int .i32 0) 1 4 Tryd.underlying30 hj hy0 hy1 hy2 rfl (by decide) _ _ _ rfl ho2 ⟨w2.heap.size, 0, none⟩ 1 1 [.int .i32 (d.1 : Int)] rfl rfl (by first | exact cell_one_new _ _ _ | (simpa using cell_one_new (w2.setCell ⟨w1.heap.size, 0, none⟩ (.slice A1 (pre.length + 1) c1)) (.int .i32 (d.1 : Int)) 21)) (by simp [Value.oneCell']) (by unfold maxLen; omega) (by omega) (by simp at hsg ⊢; omega) ?_; intro u' w3 hown2 hg2 _ hat2; obtain ⟨A2, c2, rfl⟩ := own_form hown2; have m3 := hR5.out.mid2 hg2; have cm3 := Lib.cell_of_heap m3 0; have fm3 := Lib.frozen_of_heap m3 0; have hb4 := ((hb3.alloc (by simp at hsg ⊢; omega) (.cells #[.int .i32 (d.1 : Int)] 21)).grown hg2 (by simp at hsg ⊢; omega) (fun j hj => by have := (hR5.out.ou.lt j hj).1; omega)).setCell (p := ⟨w1.heap.size + 1, 0, none⟩) (by simp) (.slice A2 (pre.length + 1) c2); have hR6 := Lib.hid (hR5.out.put2 (rs' := (pre ++ [(pos, d.1)]).map (·.2)) (by rw [HE2.out, HL2.out]; exact hown2) hg2 hat2)))
      go_roundg g'
      case measure => omega
      case rel => exact ⟨_, _, pre ++ [(pos, d.1)], pos + d.2, hR6.out, hb4, by rw [List.append_assoc]; exact HX.out, by simp; omega, by omega, by omega⟩
    · have hnx : ∀ ty, (Instr.next (.pointer (some ⟨w1.heap.size + 2, 0, none⟩)) true ty).run Tryd.prog wr = _ := fun ty => Lib.run_next_end_at wr (w1.heap.size + 2) s pos ty hR.it hp
      rw [chop_end s pos hp, stepsFrom, List.append_nil] at hx
      subst hx
      rw [steps_places, steps_runes] at hR
      obtain ⟨A1, c1, rfl⟩ := own_form hR.ov
      obtain ⟨A2, c2, rfl⟩ := own_form hR.ou
      rw [places_length] at hR
      rw [runes_length] at hR
      have hcv := Lib.cell_of_heap hR.cv 0
      have hcu := Lib.cell_of_heap hR.cu 0
      have CP := Lib.hid (fun W => Places_any s W (by omega))
      have HR := Lib.hid hR; clear hR
      have cc := fun W => Count_any s W (by omega)
      have hlen := places_length (bl s)
      generalize hN : (chop (bl s)).length = N at *
      have HN := Lib.hid hN; clear hN
      have CC := Lib.hid cc; clear cc
      have HL := Lib.hid hlen; clear hlen
      clear hal hfu
      go_wp2_with (go_at_call 21; refine (CP.out _).mono ?_; rintro e w2 ⟨g, rfl, hown2, hb2⟩; rw [HL.out] at hown2; obtain ⟨A3, c3, rfl⟩ := own_form hown2)
      have hlw := HR.out.lt
      have hsw2 := hb2.size
      have sg := Sl.of_own hown2
      have sv : Sl w2 w2.heap.size (.slice A1 N c1) (ints (places (bl s))) := ((Sl.of_own HR.out.ov).below hb2).more hsw2
      have RB : Hid (∀ (W : World), Below wr.heap.size wr W → W.heap[w.heap.size]? = some (.cells #[.bool false] 4 (0, 0))) := Lib.hid (fun W hb => by
        rw [hb.block _ (by omega), hbw.block _ (by omega), hb1.block _ (by simp)]
        exact World.alloc_heap_new w _)
      have RW0 : Hid (∀ (W : World), Below wr.heap.size wr W → Below w.heap.size w W) := Lib.hid (fun W hb => (((Below.refl _ w).alloc (Nat.le_refl _) _).trans (hb1.mono (by simp))).trans ((hbw.mono (by omega)).trans (hb.mono (by omega))))
      have FV := Lib.hid (fun (W : World) (hb : Below wr.heap.size wr W) => (hb.cell (p := ⟨w1.heap.size, 0, none⟩) (by simp only; omega)).trans hcv)
      have FU := Lib.hid (fun (W : World) (hb : Below wr.heap.size wr W) => (hb.cell (p := ⟨w1.heap.size + 1, 0, none⟩) (by simp only; omega)).trans hcu)
      have FP : Hid (∀ (W : World) (k p : Nat), Below wr.heap.size wr W → (places (bl s))[k]? = some p → ∃ g, A1 = some ⟨g, 0, none⟩ ∧ W.cell? ⟨g, k, none⟩ = some (.int .i64 (p : Int))) := Lib.hid (fun W k p hb hp => by
        obtain ⟨g, cap, e, hc⟩ := own_cell (own_below HR.out.ov hb) (k := k) (u := .int .i64 (p : Int)) (by rw [List.getElem?_map, hp]; rfl)
        injection e with e1 e2 e3
        exact ⟨g, e1, hc⟩)
      have FR : Hid (∀ (W : World) (k r : Nat), Below wr.heap.size wr W → (runes (bl s))[k]? = some r → ∃ g, A2 = some ⟨g, 0, none⟩ ∧ W.cell? ⟨g, k, none⟩ = some (.int .i32 (r : Int))) := Lib.hid (fun W k r hb hp => by
        obtain ⟨g, cap, e, hc⟩ := own_cell (own_below HR.out.ou hb) (k := k) (u := .int .i32 (r : Int)) (by rw [List.getElem?_map, hp]; rfl)
        injection e with e1 e2 e3
        exact ⟨g, e1, hc⟩)
      have cs : ∀ W, Below w2.heap.size w2 W → Calls Tryd.prog 22 #[.slice A3 N c3, .slice A1 N c1] W fun e w' => e = .returned (.bool true) ∧ Below W.heap.size W w' := fun W hb =>
        (SameInts_any _ _ (places (bl s)) (places (bl s)) w2.heap.size W (sg.below hb) (sv.below hb) (by rw [HL.out]; omega) (by rw [HL.out]; omega)).mono fun e w' ⟨he, hb'⟩ => ⟨by rw [he]; simp, hb'⟩
      have CS := Lib.hid cs; clear cs
      have cv2 : w2.drew.cell? ⟨w1.heap.size, 0, none⟩ = some (.slice A1 N c1) := (hb2.cell (p := ⟨w1.heap.size, 0, none⟩) (by simp only; omega)).trans hcv
      have SG := Lib.hid sg; have SV := Lib.hid sv
      clear sg sv
      refine Code.wp_mono (Q := fun e a' w' => match e with | .normal => ((∃ u35 u36 u37 u38 u39 u40 u41 u42 u43 u44, a' = { tmps := #[.string s, undef, .pointer (some ⟨w.heap.size, 0, none⟩), .pointer (some ⟨w1.heap.size, 0, none⟩), .pointer (some ⟨w1.heap.size + 1, 0, none⟩), u5, u6, .slice A3 N c3, undef, undef, undef, undef, undef, undef, undef, undef, undef, .bool true, .bool false, .string s, .pointer (some ⟨w1.heap.size + 1 + 1, 0, none⟩), .tuple #[.bool false], .bool false, u23, u24, u25, u26, u27, u28, u29, u30, u31, u32, .string s, .slice A3 N c3, u35, u36, u37, u38, u39, u40, u41, u42, u43, u44, .bool false, undef, undef, undef, undef, undef, undef, undef, undef, undef, undef, undef, undef, undef, undef, undef, undef, undef, undef, undef, undef, undef, undef, undef, undef, undef, undef, undef, undef, undef, undef, undef, undef, undef, undef, undef, undef, undef, undef, undef, undef, undef, undef, undef, undef, undef, undef, undef, undef, undef, undef, undef, undef, undef, undef, undef, undef, undef, undef, undef, undef, undef, undef, undef, undef, undef, undef, undef, undef, undef, undef, undef, undef, undef, undef, undef, undef, undef, undef, undef, undef, undef, undef, undef, undef, undef, undef, undef, undef, undef, undef, undef, undef], defers := [] }) ∧ Below w2.heap.size w2 w') | _ => False) ?_ ?_
      rotate_left
      · go_region_with (first
          | (go_at_call 22; refine (CS.out _ (Below.refl _ w2).drew).mono ?_; rintro e w3 ⟨rfl, hb3⟩; have cv3 := (hb3.cell (p := ⟨w1.heap.size, 0, none⟩) (by show w1.heap.size < w2.heap.size; omega)).trans cv2)
          | (go_at_call 19; refine (CC.out _).mono ?_; rintro e w4 ⟨rfl, hb4⟩; have cv4 := (hb4.cell (p := ⟨w1.heap.size, 0, none⟩) (by have := hb3.size; simp only; show w1.heap.size < w3.heap.size; have h9 : w2.heap.size ≤ w3.heap.size := hb3.size; omega)).trans cv3))
        all_goals exact ⟨⟨_, _, _, _, _, _, _, _, _, _, rfl⟩, Below.trans (Below.refl _ w2).drew (hb3.trans (hb4.mono hb3.size))⟩
      · intro e a' W3 hq
        cases e <;> try exact hq.elim
        obtain ⟨⟨u35, u36, u37, u38, u39, u40, u41, u42, u43, u44, rfl⟩, hb3⟩ := hq
        have hbr : Below wr.heap.size wr W3 := hb2.trans (hb3.mono hsw2)
        have cv3 := FV.out W3 hbr
        have hTr : Tabs W3 := ((hT.below ((Below.refl w.heap.size w).alloc (Nat.le_refl _) (.cells #[.bool false] 4))).below hb1).below ((hbw.mono (Nat.le_refl _)).trans (hbr.mono hbw.size))
        have HT := Lib.hid hTr
        clear hcv hcu hT
        go_wp2
        go_loopg [8, 9, 10, 11, 12, 48] N (fun gf _ _ _ _ _ u48 w3 => ∃ k : Nat, u48 = .int .i64 k ∧ k ≤ N ∧ N ≤ k + gf ∧ Below W3.heap.size W3 w3)
        case atStart => exact ⟨0, rfl, Nat.zero_le _, by omega, Below.refl _ _⟩
        case round =>
          rename World => w5
          obtain ⟨k, rfl, hk, hfu, hb5⟩ := hrel
          by_cases hlt : k < N
          · obtain ⟨g', rfl⟩ : ∃ g', gk = g' + 1 := ⟨gk - 1, by omega⟩
            have hb5r : Below wr.heap.size wr w5 := hbr.trans (hb5.mono hbr.size)
            obtain ⟨⟨p, r⟩, hx⟩ : ∃ x, (steps (bl s))[k]? = some x := ⟨_, List.getElem?_eq_getElem (by rw [steps_length, HN.out]; exact hlt)⟩
            obtain ⟨wd, hnx, hpl, hw1, hend⟩ := step_next (bl s) k p r hx
            rw [steps_length, HN.out] at hend
            have hpk : (places (bl s))[k]? = some p := by rw [← steps_places, List.getElem?_map, hx]; rfl
            have hrk : (runes (bl s))[k]? = some r := by rw [← steps_runes, List.getElem?_map, hx]; rfl
            obtain ⟨g1, e1, hc1⟩ := FP.out w5 k p hb5r hpk
            obtain ⟨g2, e2, _⟩ := FR.out w5 k r hb5r hrk
            obtain rfl := e1
            obtain rfl := e2
            have cN := Next_any s (p : Int) w5 (HT.out.below hb5) (by omega)
            rw [hnx] at cN
            rw [bl_length] at hpl hend
            have i0' : (0 : Int) ≤ (k : Int) := by omega
            have i1 : (k : Int) < (N : Int) := by omega
            have CN := Lib.hid cN
            by_cases hk1 : k + 1 < N
            · obtain ⟨hpk1, hpw⟩ : (places (bl s))[k + 1]? = some (p + wd) ∧ p + wd ≤ s.size := by
                rcases hend with ⟨h1, _⟩ | ⟨q, h1, h2⟩
                · omega
                · have h3 : (places (bl s))[k + 1]? = some (p + wd) := by rw [← steps_places, List.getElem?_map, h1, ← h2]; rfl
                  refine ⟨h3, ?_⟩
                  have h4 := places_at (bl s) (k + 1) (by rw [HN.out]; exact hk1)
                  rw [h3] at h4
                  have := glue_take_le (bl s) (k + 1)
                  rw [bl_length] at this
                  injection h4 with h4
                  omega
              have i2 : (k : Int) + 1 < (N : Int) := by omega
              have i3 : (0 : Int) ≤ (k : Int) + 1 := by omega
              have HPK := Lib.hid hpk1; have HRK := Lib.hid hrk
              clear hpk hrk hpk1 hnx hx cN hend
              go_wp2_with (go_at_call 18; refine CN.out.mono ?_; rintro e w6 ⟨rfl, hb6⟩; have hb6r : Below wr.heap.size wr w6 := hb5r.trans (hb6.mono hb5r.size); have cv6 := FV.out w6 hb6r; have cu6 := FU.out w6 hb6r; obtain ⟨g3, e3, c6⟩ := FP.out w6 (k + 1) (p + wd) hb6r HPK.out; obtain rfl : g1 = g3 := (by simpa using e3); obtain ⟨g4, e4, d6⟩ := FR.out w6 k r hb6r HRK.out; obtain rfl : g2 = g4 := (by simpa using e4); rw [Int.natCast_add] at c6; clear e3 e4)
              go_roundg g'
              case measure => omega
              case rel => exact ⟨k + 1, by go_num, by omega, by omega, hb5.trans (hb6.mono hb5.size)⟩
            · have hpw : p + wd = s.size := by
                rcases hend with ⟨_, h2⟩ | ⟨q, h1, h2⟩
                · exact h2
                · have := (List.getElem?_eq_some_iff.1 h1).1
                  rw [steps_length, HN.out] at this
                  omega
              have hne : ((p : Int) + (wd : Int) != (s.size : Int)) = false := by simp; omega
              have i2 : ¬ (k : Int) + 1 < (N : Int) := by omega
              have HRK := Lib.hid hrk
              have HPW := Lib.hid hpw
              have hpz : p + wd ≤ s.size := by omega
              clear hpk hrk hnx hx cN hend hpw
              go_wp2_with (go_at_call 18; refine CN.out.mono ?_; rintro e w6 ⟨rfl, hb6⟩; have hb6r : Below wr.heap.size wr w6 := hb5r.trans (hb6.mono hb5r.size); have cv6 := FV.out w6 hb6r; have cu6 := FU.out w6 hb6r; obtain ⟨g4, e4, d6⟩ := FR.out w6 k r hb6r HRK.out; obtain rfl : g2 = g4 := (by simpa using e4); clear e4)
              go_roundg g'
              case measure => omega
              case rel => exact ⟨k + 1, by go_num, by omega, by omega, hb5.trans (hb6.mono hb5.size)⟩
          · obtain rfl : N = k := by omega
            have hb5r : Below wr.heap.size wr w5 := hbr.trans (hb5.mono hbr.size)
            go_wp2_with (go_at_call 23; refine (callsIn_wide.1 (All_in Fence.wide 6 trivial rfl s _)).mono ?_; rintro e w' ⟨rfl, rfl⟩)
            obtain ⟨W0, hW0⟩ : ∃ W0, (w5.alloc (.cells #[.int .i64 0] 3)).alloc (.cells #[.string s] 9) = W0 := ⟨_, rfl⟩
            have hs5 := hb5r.size
            have hs0 : W0.heap.size = w5.heap.size + 2 := by rw [← hW0]; simp
            have hBk : W0.heap[w5.heap.size]? = some (.cells #[.int .i64 0] 3 (0, 0)) := by
              rw [← hW0]; exact (Below.heap_alloc _ _ _ (by simp)).trans (World.alloc_heap_new w5 _)
            have hBs : W0.heap[w5.heap.size + 1]? = some (.cells #[.string s] 9 (0, 0)) := by
              rw [← hW0]
              have := World.alloc_heap_new (w5.alloc (.cells #[.int .i64 0] 3)) (.cells #[.string s] 9); rwa [World.size_alloc] at this
            have hB5 : Below w5.heap.size w5 W0 := by
              rw [← hW0]; exact ((Below.refl _ w5).alloc (Nat.le_refl _) _).alloc (by simp) _
            rw [hW0]
            clear hW0
            refine (wpIn_wide (n := 6)).1 ?_
            refine wpIn_rangeFunc_ownF (n := 6) rfl (by omega) (gf := 46) (lb := #[.pointer (some ⟨w5.heap.size + 1, 0, none⟩)]) rfl trivial (enters_of Tryd.func46 (by kernel_rfl) rfl)
              (All_stops Fence.wide _ trivial rfl (by omega) s (w5.heap.size + 1) W0 (by omega) (Lib.cell_of_heap hBs 0)) walksK_t walksK_b (Below.refl _ _) (fun _ => rfl)
              (fun (pre : List (Step s)) W => (W.cell? ⟨w5.heap.size, 0, none⟩ = some (.int .i64 (pre.length : Nat)) ∧ W.frozen? ⟨w5.heap.size, 0, none⟩ = false) ∧ Below w5.heap.size w5 W)
              (fun c (pre : List (Step s)) W => (c = .ret ∧ ¬ (raw pre <+: steps (bl s))) ∧ Below w.heap.size w W)
              (OwnFrom.and (Own.from (fun st A B row hs hg hr => ⟨cell_kept hs.1 hg hr, (frozen_kept hs.1 hg hr).trans hs.2⟩) _) (ownFrom_below (Nat.le_refl _) (by omega)))
              (fun c => OwnFrom.and (Own.from (fun st A B row hs hg hr => hs) _) (ownFrom_below (Nat.le_refl _) (by omega)))
              ⟨⟨Lib.cell_of_heap hBk 0, Lib.frozen_of_heap hBk 0⟩, hB5⟩
              (fun (x : Step s) => { tmps := #[.string s, undef, .pointer (some ⟨w.heap.size, 0, none⟩), .pointer (some ⟨w1.heap.size, 0, none⟩), .pointer (some ⟨w1.heap.size + 1, 0, none⟩), u5, u6, .slice A3 N c3, u8, u9, u10, u11, u12, .pointer (some ⟨w5.heap.size, 0, none⟩), .int .i64 (x.1.1 : Int), .int .i32 (x.1.2 : Int), undef, .bool true, .bool false, .string s, .pointer (some ⟨w1.heap.size + 1 + 1, 0, none⟩), .tuple #[.bool false], .bool false, u23, u24, u25, u26, u27, u28, u29, u30, u31, u32, .string s, .slice A3 N c3, u35, u36, u37, u38, u39, u40, u41, u42, u43, u44, .bool false, .slice A1 N c1, .int .i64 (N : Int), .int .i64 (N : Int), .bool false, u50, u51, u52, u53, u54, u55, u56, u57, u58, u59, u60, u61, u62, u63, u64, u65, u66, u67, u68, u69, u70, u71, u72, u73, u74, u75, u76, u77, u78, u79, u80, u81, u82, u83, u84, .string s, .func (.func 46) #[] #[.pointer (some ⟨w5.heap.size + 1, 0, none⟩)], .int .i64 (x.1.1 : Int), .int .i32 (x.1.2 : Int), undef, undef, undef, undef, undef, undef, undef, undef, undef, undef, undef, undef, undef, undef, undef, undef, undef, undef, undef, undef, undef, undef, undef, undef, undef, undef, undef, undef, undef, undef, undef, undef, undef, undef, undef, undef, undef, undef, undef, undef, undef, undef, undef, undef, undef, undef, undef, undef, undef], defers := [] }) ?assign ?body ?done ?stop
            case assign =>
              intro l x W K hK
              gi_wp2
              exact hK
            case body =>
              rintro l pre x W ⟨⟨ck, fk⟩, hbw5⟩ hlen
              obtain ⟨⟨p, r⟩, hp, hr⟩ := x
              rw [HN.out] at hlen
              have hbr6 : Below wr.heap.size wr W := hb5r.trans (hbw5.mono hs5)
              obtain ⟨⟨p', r'⟩, hx⟩ : ∃ x, (steps (bl s))[pre.length]? = some x := ⟨_, List.getElem?_eq_getElem (by rw [steps_length, HN.out]; exact hlen)⟩
              have hpk : (places (bl s))[pre.length]? = some p' := by rw [← steps_places, List.getElem?_map, hx]; rfl
              have hrk : (runes (bl s))[pre.length]? = some r' := by rw [← steps_runes, List.getElem?_map, hx]; rfl
              obtain ⟨g1, e1, hc1⟩ := FP.out W pre.length p' hbr6 hpk
              obtain ⟨g2, e2, hc2⟩ := FR.out W pre.length r' hbr6 hrk
              obtain rfl := e1
              obtain rfl := e2
              have cv6 := FV.out W hbr6
              have cu6 := FU.out W hbr6
              have hb2 := Lib.cell_of_heap (RB.out W hbr6) 0
              have hf2 := Lib.frozen_of_heap (RB.out W hbr6) 0
              have HX := Lib.hid hx
              clear hpk hrk hx
              have i0' : (0 : Int) ≤ (pre.length : Int) := by omega
              have i1 : (pre.length : Int) < (N : Int) := by omega
              have hno : ¬ (p = p' ∧ r = r') → ¬ (raw (pre ++ [(⟨(p, r), hp, hr⟩ : Step s)]) <+: steps (bl s)) := by
                rintro hne ⟨t, ht⟩
                have h1 : (raw (pre ++ [(⟨(p, r), hp, hr⟩ : Step s)]) ++ t)[pre.length]? = some (p, r) := by
                  rw [List.getElem?_append_left (by simp), raw, List.map_append, List.getElem?_append_right (by simp)]
                  simp
                rw [ht, HX.out] at h1
                simp only [Option.some.injEq, Prod.mk.injEq] at h1
                exact hne ⟨h1.1.symm, h1.2.symm⟩
              have HNo := Lib.hid hno; clear hno
              have hk0 : Hid ((pre ++ [(⟨(p, r), hp, hr⟩ : Step s)]).length = pre.length + 1) := Lib.hid (by simp)
              generalize pre.length = K at *
              by_cases hpp : p = p'
              · by_cases hrr : r = r'
                · subst hpp
                  subst hrr
                  gi_wp2
                  have hk : KeepsOthers W (W.setCell ⟨w5.heap.size, 0, none⟩ (.int .i64 ((K : Int) + 1))) := KeepsOthers.setCell _ _ _
                  refine ⟨hk, hk.walks, ⟨?_, ?_⟩, hbw5.setCell (by simp) _⟩
                  · rw [World.cell?_setCell_same' _ _ _ (by rw [ck]; rfl), hk0]
                    simp
                  · rw [World.frozen?_setCell]; exact fk
                · have hne : ((r : Int) != (r' : Int)) = true := by simp; omega
                  subst hpp
                  gi_wp2
                  have hk : KeepsOthers W (W.setCell ⟨w.heap.size, 0, none⟩ (.bool false)) := KeepsOthers.setCell _ _ _
                  exact ⟨hk, ⟨rfl, HNo.out (by omega)⟩, (RW0.out W hbr6).setCell (by simp) _⟩
              · have hne : ((p : Int) != (p' : Int)) = true := by simp; omega
                gi_wp2
                have hk : KeepsOthers W (W.setCell ⟨w.heap.size, 0, none⟩ (.bool false)) := KeepsOthers.setCell _ _ _
                exact ⟨hk, ⟨rfl, HNo.out (by omega)⟩, (RW0.out W hbr6).setCell (by simp) _⟩
            case done =>
              rintro D xs W hD hxs ⟨⟨ck, fk⟩, hbw5⟩ hK
              have hbr6 : Below wr.heap.size wr W := hb5r.trans (hbw5.mono hs5)
              have hln : xs.length = N := by
                have := congrArg List.length hxs
                rwa [List.length_map, steps_length, HN.out] at this
              rw [hln] at ck
              have cv6 := FV.out W hbr6
              have cu6 := FU.out W hbr6
              have hK0 := Lib.hid hK
              clear hln hK hxs
              have hb2W : Below w2.heap.size w2 W := (hb3.trans (hb5.mono hb3.size)).trans (hbw5.mono (by have := hb3.size; have := hb5.size; omega))
              have hoW := own_below hown2 hb2W
              have HOW := Lib.hid hoW; clear hoW hown2
              have hDl := (Array.getElem?_eq_some_iff.1 hK0.out).1
              go_wp2
              clear ck fk hbw5
              go_loopg [16, 117] N (fun gf _ u117 w7 => ∃ (k : Nat) (xs : List Value), u117 = .int .i64 k ∧ k ≤ N ∧ N ≤ k + gf ∧ Below wr.heap.size wr w7 ∧ w7.heap[D]? = some (.deferred (some [])) ∧ w7.ownsRow wr.heap.size 3 1 (.slice A3 N c3) N xs)
              case atStart => exact ⟨0, _, rfl, Nat.zero_le _, by omega, hbr6, hK0.out, HOW.out⟩
              case round =>
                rename World => w7
                obtain ⟨k, xs, rfl, hk, hfu, hb7, hD7, ho7⟩ := hrel
                by_cases hlt : k < N
                · obtain ⟨g', rfl⟩ : ∃ g', gk = g' + 1 := ⟨gk - 1, by omega⟩
                  obtain ⟨g3, e3, hg3⟩ := own_headat ho7 (by omega)
                  obtain rfl := e3
                  have hxl : xs.length = N := by simpa using ho7.1
                  obtain ⟨v7, hc7⟩ : ∃ v, w7.cell? ⟨g3, k, none⟩ = some v := ⟨_, (ho7.cellAt k (by omega)).trans (List.getElem?_eq_getElem (by omega))⟩
                  have hf7 := ho7.frozenAt k
                  have hst := ho7.stored k (.int .i64 (-7))
                  have i0' : (0 : Int) ≤ (k : Int) := by omega
                  have i1 : (k : Int) < (N : Int) := by omega
                  have hDg : D ≠ g3 := by
                    rintro rfl
                    rcases ho7.2 with ⟨hv, h0⟩ | ⟨g, cap, cur, hv, hB, hgg, _⟩
                    · cases hv
                    · injection hv with e1 e2 e3
                      injection e1 with e1
                      injection e1 with e1
                      subst e1
                      rw [hD7] at hgg; cases hgg
                  have HST := Lib.hid hst; have HO7 := Lib.hid ho7
                  clear hst ho7 hxl
                  go_wp2
                  go_roundg g'
                  case measure => omega
                  case rel => exact ⟨k + 1, _, by go_num, by omega, by omega, hb7.setCell (by simp only; omega) _, (heap_setCell_other _ _ _ _ (by simp only; omega)).trans hD7, HST.out.1⟩
                · obtain rfl : N = k := by omega
                  go_wp2
                  have HCP := Lib.hid (fun W => CP.out W)
                  have hwr : IntKind.i64.wrap ((N : Int) + 1) = (N : Int) + 1 := by rw [IntKind.wrap_i64]; omega
                  have SI : Hid (∀ (W : World) (v : Value), Sl W W.heap.size v (ints (places (bl s))) → Below wr.heap.size wr W → Calls Tryd.prog 22 #[v, .slice A1 N c1] W fun e w' => e = .returned (.bool true) ∧ Below W.heap.size W w') := Lib.hid (fun W v hv hb =>
                    (SameInts_any v _ (places (bl s)) (places (bl s)) W.heap.size W hv (((Sl.of_own HR.out.ov).below hb).more hb.size) (by rw [HL.out]; omega) (by rw [HL.out]; omega)).mono fun e w' ⟨he, hb'⟩ => ⟨by rw [he]; simp, hb'⟩)
                  have hb7d : Below wr.heap.size wr w7.drew := hb7.trans (Below.refl _ w7).drew
                  have HO7 := Lib.hid (show w7.drew.ownsRow wr.heap.size 3 1 (.slice A3 N c3) N xs from ho7)
                  have cv7 := FV.out _ hb7d
                  have hs7 := hb7.size
                  have cv7a := FV.out (w7.alloc (.cells #[.int .i64 (-8)] 3)).drew ((hb7.alloc hs7 _).trans (Below.refl _ _).drew)
                  have RB7 := Lib.hid (RB.out _ hb7d)
                  have HD7 := Lib.hid hD7
                  clear hD7 ho7
                  refine Code.wp_mono (Q := fun e a' w' => match e with | .normal => ((∃ u124 u125 u126 u127 u128 u129 u130 u131 u132 u133 u134 u135 u136 u137, a' = { tmps := #[.string s, undef, .pointer (some ⟨w.heap.size, 0, none⟩), .pointer (some ⟨w1.heap.size, 0, none⟩), .pointer (some ⟨w1.heap.size + 1, 0, none⟩), u5, u6, .slice A3 N c3, u8, u9, u10, u11, u12, .pointer (some ⟨w5.heap.size, 0, none⟩), undef, undef, u16, .bool true, .bool false, .string s, .pointer (some ⟨w1.heap.size + 1 + 1, 0, none⟩), .tuple #[.bool false], .bool false, u23, u24, u25, u26, u27, u28, u29, u30, u31, u32, .string s, .slice A3 N c3, u35, u36, u37, u38, u39, u40, u41, u42, u43, u44, .bool false, .slice A1 N c1, .int .i64 ↑N, .int .i64 ↑N, .bool false, u50, u51, u52, u53, u54, u55, u56, u57, u58, u59, u60, u61, u62, u63, u64, u65, u66, u67, u68, u69, u70, u71, u72, u73, u74, u75, u76, u77, u78, u79, u80, u81, u82, u83, u84, .string s, .func (.func 46) #[] #[.pointer (some ⟨w5.heap.size + 1, 0, none⟩)], undef, undef, undef, undef, undef, undef, undef, undef, undef, undef, undef, undef, undef, undef, undef, undef, undef, undef, undef, undef, undef, undef, undef, undef, .int .i64 ↑N, .slice A1 N c1, .int .i64 ↑N, .bool false, .slice A3 N c3, .int .i64 ↑N, .int .i64 ↑N, .bool false, u119, u120, u121, u122, u123, u124, u125, u126, u127, u128, u129, u130, u131, u132, u133, u134, u135, u136, u137], defers := [{ target := .collected D, args := #[] }] }) ∧ w'.heap[w.heap.size]? = some (.cells #[.bool true] 4 (0, 0)) ∧ w'.heap[D]? = some (.deferred (some [])) ∧ Below w.heap.size w w') | _ => False) ?_ ?_
                  rotate_left
                  · go_region_law (first
                      | (refine step_append_own_at rfl (.tmp 124) (.tmp 125) 29 rfl wr.heap.size 3 i0 (.int .i64 0) 1 8 Tryd.underlying29 hi hz0 hz1 hz2 rfl (by decide) _ _ _ (by simp [Act.eval, Act.put]) (HO7.out.alloc _) ⟨w7.heap.size, 0, none⟩ 1 1 [.int .i64 (-8)] (by simp [Act.eval, Act.put]) rfl (cell_one_new _ _ _) (by simp [Value.oneCell']) (by unfold maxLen; omega) (by omega) (by simp; omega) ?_; intro v8 w8 ho8 hg8 _ _; obtain ⟨A8, c8, rfl⟩ := own_form ho8; have hb8 : Below wr.heap.size wr w8 := (hb7d.alloc (by simpa using hs7) (.cells #[.int .i64 (-8)] 3)).grown hg8 (by simp; omega) (fun j hj => (HO7.out.lt j hj).1); have cv8 := FV.out _ hb8; have hD8 := (hg8.block D (by have := (Array.getElem?_eq_some_iff.1 HD7.out).1; simp; omega) (own_ne_def HO7.out HD7.out)).trans ((Below.heap_alloc _ _ _ (by have := (Array.getElem?_eq_some_iff.1 HD7.out).1; simpa using this)).trans HD7.out))
                      | (go_simp; go_at_call 21; refine (HCP.out _).mono ?_; rintro e w9 ⟨v9, rfl, ho9, hb9⟩; rw [HL.out] at ho9; obtain ⟨A9, c9, rfl⟩ := own_form ho9; have hb9r : Below wr.heap.size wr w9 := hb8.trans (hb9.mono hb8.size); have cv9 := FV.out _ hb9r)
                      | (go_simp; go_at_call 22; refine (SI.out _ _ (Sl.of_own ho9) hb9r).mono ?_; rintro e w10 ⟨rfl, hb10⟩; have hb10r : Below wr.heap.size wr w10 := hb9r.trans (hb10.mono hb9r.size); have b2 := Lib.cell_of_heap (RB.out _ hb10r) 0; have f2 := Lib.frozen_of_heap (RB.out _ hb10r) 0))
                    all_goals
                      have hD9 := (hb9.block D (Array.getElem?_eq_some_iff.1 hD8).1).trans hD8
                      have hD10 := (hb10.block D (Array.getElem?_eq_some_iff.1 hD9).1).trans hD9
                      exact ⟨⟨_, _, _, _, _, _, _, _, _, _, _, _, _, _, rfl⟩, one_setCell (RB.out _ hb10r), (heap_setCell_other _ _ _ _ (by simp only; omega)).trans hD10, (RW0.out w10 hb10r).setCell (by simp) _⟩
                  · intro e a' W8 hq
                    cases e <;> try exact hq.elim
                    obtain ⟨⟨u124, u125, u126, u127, u128, u129, u130, u131, u132, u133, u134, u135, u136, u137, rfl⟩, hb8, hD8, hw8⟩ := hq
                    have hcell := Lib.cell_of_heap hb8 0
                    go_wp2
                    refine ⟨by simp, .inl ⟨_, _, rfl, run_takeDeferred hD8, ?_⟩⟩
                    have hc5 := cell_kept hcell (grownBy_putObj' _ D (.deferred none)) (fun r e => by cases e; exact ⟨_, hD8, rfl⟩)
                    exact ⟨_, results_cell_bool rfl rfl hc5, rfl, hw8.trans (belowK_b (w := w) (Nat.le_refl _) W8 D _ _ (by omega) hD8 rfl rfl)⟩
            case stop =>
              rintro D c pre W hD hpre ⟨⟨_, hno⟩, _⟩ _
              exact (hno hpre).elim
end Go.Proofs.YtlkabghpcjlohaaDoor
