/- The reference of layer 8: the walk of a line. -/
import Derived.Test.YtlkabghpcjlohaaDoorT15
namespace Go.Proofs.YtlkabghpcjlohaaDoor
set_option linter.unusedVariables false
set_option linter.unusedSimpArgs false
open Go.RowKit Go.Lib

theorem rightC_nil : rightC [] = none := rfl
theorem belowC_nil : belowC [] = none := rfl
theorem rightC_snoc (ys : List Cl) (c : Cl) : rightC (ys ++ [c]) = if c.2.1 then none else some (ys ++ [(c.1, true, c.2.2)]) := by simp [rightC]
theorem belowC_snoc (ys : List Cl) (c : Cl) : belowC (ys ++ [c]) = if c.2.2 then none else some (ys ++ [(c.1, c.2.1, true)]) := by simp [belowC]

set_option maxHeartbeats 16000000 in
set_option maxRecDepth 100000 in
theorem refLine_any (s : ByteArray) (h f e : Nat) (w : World) (hl : LnEnd s f e) (hs : s.size ≤ 65536) (hh : h ≤ 1048576) :
    Calls Tryd.prog 56 #[.string s, .int .i64 (f : Nat), .int .i64 (e : Nat), .int .i64 (h : Nat)] w (LinePost s h f e w) := by
  obtain ⟨i0, hi, hz0, hz1, hz2⟩ := info_parts infoCell
  have hfe := hl.fe; have hes := hl.he
  have HL := Lib.hid hl; clear hl
  go_enter Tryd.func56, Tryd.ntmps56
  go_wp2
  go_loopg [1, 11, 12, 13, 14, 15] (e - f) (fun gf u1 u11 u12 u13 u14 u15 wr => ∃ (p : Nat) (cs : List Cl), u1 = .int .i64 p ∧ f ≤ p ∧ p ≤ e ∧ e ≤ p + gf ∧ cs.length ≤ 16 ∧ Hid (wr.ownsRow w.heap.size 88 3 u11 cs.length (cellsV cs)) ∧ Hid (Below w.heap.size w wr) ∧ Hid (contC s h f e [] = contC s h p e cs))
  case atStart => exact ⟨f, [], rfl, Nat.le_refl _, hfe, by omega, by simp, Lib.hid (World.ownsRow_nil _ _ _ _), Lib.hid (Below.refl _ _), Lib.hid rfl⟩
  case round =>
    rename World => w5
    obtain ⟨p, cs, rfl, hfp, hpe, hfu, hcl, HR, HB, HC⟩ := hrel
    by_cases hlt : p < e
    · obtain ⟨g', rfl⟩ : ∃ g', gk = g' + 1 := ⟨gk - 1, by omega⟩
      obtain ⟨_, q2, _, q4, q5, q6⟩ := seg_step s p f e HL.out hfp hlt
      have hst := contC_step s h p f e cs HL.out hfp hlt
      rw [← HC.out] at hst
      have e9 : nextL (bl s) (p : Int) = Utf8.decode s p := by
        unfold nextL
        rw [if_neg (by rw [bl_length]; omega), Int.toNat_natCast, ← dec_at]
      have cN := fun W => refNext_any s (p : Int) W (by omega) (by omega) (by omega)
      rw [e9] at cN
      generalize Utf8.decode s p = d at *
      obtain ⟨r, wdt⟩ := d
      simp only at q2 q4 q5 q6 hst cN
      have cM := fun W => refMark_any r W q6
      obtain ⟨A, c, rfl⟩ := own_form3 HR.out
      have CN := Lib.hid cN
      have t1 : ((p : Nat) : Int) < (e : Int) := by omega
      obtain ⟨q, hq⟩ : ∃ q, q = p + wdt := ⟨_, rfl⟩
      rw [← hq] at q2 hst
      have kp : (p : Int) + (wdt : Int) = (q : Int) := by omega
      have hpq : p < q := by omega
      have HQ := Lib.hid hq; clear hq
      have hb0 := HB.out.size
      clear cN e9 HC
      cases hk : sg r with
      | line => exact absurd ((sg10 r).1 hk) q5
      | none =>
        have hm : markN r = -1 := by unfold markN; rw [hk]
        rw [hm] at cM
        have CM := Lib.hid cM
        unfold stepC at hst
        rw [hk] at hst
        simp only at hst
        clear cM hm hk q5 q6
        have HST := Lib.hid hst; clear hst
        go_wp2_with (first | (go_at_call 35; refine (CN.out _).mono ?_; rintro e w1 ⟨rfl, rfl⟩) | (go_at_call 74; refine (CM.out _).mono ?_; rintro e w1 ⟨rfl, rfl⟩))
        go_ret3
        exact LinePost.bad HST.out HB.out
      | blank =>
        have hm : markN r = 0 := by unfold markN; rw [hk]
        rw [hm] at cM
        have CM := Lib.hid cM
        unfold stepC at hst
        rw [hk] at hst
        simp only at hst
        clear cM hm hk q5 q6
        simp only [Ln.then] at hst
        have HST := Lib.hid hst; clear hst
        go_wp2_with (first | (go_at_call 35; refine (CN.out _).mono ?_; rintro e w1 ⟨rfl, rfl⟩) | (go_at_call 74; refine (CM.out _).mono ?_; rintro e w1 ⟨rfl, rfl⟩))
        go_roundg g'
        case measure => omega
        case rel => exact ⟨q, cs, by go_num, by omega, by omega, by omega, hcl, HR, HB, HST⟩
      | cell b =>
        have hm : markN r = if b then 1 else 2 := by unfold markN; rw [hk]; cases b <;> rfl
        rw [hm] at cM
        unfold stepC at hst
        rw [hk] at hst
        simp only at hst
        clear hm hk q5 q6
        by_cases hfull : cs.length = 16 ∨ h = 16
        · rw [if_pos hfull] at hst
          have HST := Lib.hid hst; clear hst
          by_cases h16 : cs.length = 16
          · have t2 : ((cs.length : Int) == 16) = true := by rw [beq_iff_eq]; omega
            cases b
            all_goals (have CM := Lib.hid cM; clear cM hfull)
            all_goals go_wp2_with (first | (go_at_call 35; refine (CN.out _).mono ?_; rintro e w1 ⟨rfl, rfl⟩) | (go_at_call 74; refine (CM.out _).mono ?_; rintro e w1 ⟨rfl, rfl⟩))
            all_goals go_ret3
            all_goals exact LinePost.bad HST.out HB.out
          · have t2 : ((cs.length : Int) == 16) = false := by simp; omega
            have t3 : ((h : Int) == 16) = true := by rw [beq_iff_eq]; omega
            cases b
            all_goals (have CM := Lib.hid cM; clear cM hfull)
            all_goals go_wp2_with (first | (go_at_call 35; refine (CN.out _).mono ?_; rintro e w1 ⟨rfl, rfl⟩) | (go_at_call 74; refine (CM.out _).mono ?_; rintro e w1 ⟨rfl, rfl⟩))
            all_goals go_ret3
            all_goals exact LinePost.bad HST.out HB.out
        · rw [if_neg hfull] at hst
          simp only [Ln.then] at hst
          have HST := Lib.hid hst; clear hst
          have t2 : ((cs.length : Int) == 16) = false := by simp; omega
          have t3 : ((h : Int) == 16) = false := by simp; omega
          have hl' : cs.length + 1 ≤ 16 := by omega
          cases b
          all_goals (have CM := Lib.hid cM; clear cM hfull)
          · go_wp2_with (first | (go_at_call 35; refine (CN.out _).mono ?_; rintro e w1 ⟨rfl, rfl⟩) | (go_at_call 74; refine (CM.out _).mono ?_; rintro e w1 ⟨rfl, rfl⟩) | (at_builtin; refine wpList_append_own_at _ rfl (.tmp 89) (.tmp 93) 82 rfl w.heap.size 88 i0 (.agg #[.bool false, .bool false, .bool false]) 3 3 Tryd.underlying82 hi hz0 hz1 hz2 rfl (by decide) _ _ _ rfl (HR.out.alloc _) ⟨w5.heap.size, 0, none⟩ 1 1 [.bool false, .bool false, .bool false] rfl rfl news3 (by simp [Value.oneCell']) (by unfold maxLen; omega) (by omega) (by simp; omega) ?_; intro v2 w2 hown2 hg2 _ hat2; obtain ⟨A2, c2, rfl⟩ := own_form3 hown2; have HR2 := Lib.hid hown2; have HB2 : Hid (Below w.heap.size w w2) := Lib.hid ((HB.out.alloc (by omega) _).grown hg2 (by simp; omega) (fun k hk => (HR.out.lt k hk).1)); clear hown2 hg2 hat2))
            go_roundg g'
            case measure => omega
            case rel => exact ⟨q, cs ++ [(false, false, false)], by go_num, by omega, by omega, by omega, by rw [List.length_append]; exact hl', Lib.hid (by rw [List.length_append, cellsV_snoc]; exact HR2.out), HB2, HST⟩
          · go_wp2_with (first | (go_at_call 35; refine (CN.out _).mono ?_; rintro e w1 ⟨rfl, rfl⟩) | (go_at_call 74; refine (CM.out _).mono ?_; rintro e w1 ⟨rfl, rfl⟩) | (at_builtin; refine wpList_append_own_at _ rfl (.tmp 89) (.tmp 93) 82 rfl w.heap.size 88 i0 (.agg #[.bool false, .bool false, .bool false]) 3 3 Tryd.underlying82 hi hz0 hz1 hz2 rfl (by decide) _ _ _ rfl (HR.out.alloc _) ⟨w5.heap.size, 0, none⟩ 1 1 [.bool true, .bool false, .bool false] rfl rfl news3 (by simp [Value.oneCell']) (by unfold maxLen; omega) (by omega) (by simp; omega) ?_; intro v2 w2 hown2 hg2 _ hat2; obtain ⟨A2, c2, rfl⟩ := own_form3 hown2; have HR2 := Lib.hid hown2; have HB2 : Hid (Below w.heap.size w w2) := Lib.hid ((HB.out.alloc (by omega) _).grown hg2 (by simp; omega) (fun k hk => (HR.out.lt k hk).1)); clear hown2 hg2 hat2))
            go_roundg g'
            case measure => omega
            case rel => exact ⟨q, cs ++ [(true, false, false)], by go_num, by omega, by omega, by omega, by rw [List.length_append]; exact hl', Lib.hid (by rw [List.length_append, cellsV_snoc]; exact HR2.out), HB2, HST⟩
      | right =>
        have hm : markN r = 3 := by unfold markN; rw [hk]
        rw [hm] at cM
        have CM := Lib.hid cM
        unfold stepC at hst
        rw [hk] at hst
        simp only at hst
        clear cM hm hk q5 q6
        rcases List.eq_nil_or_concat cs with rfl | ⟨ys, c9, rfl⟩
        · rw [rightC_nil] at hst
          simp only [Ln.then] at hst
          have HST := Lib.hid hst; clear hst
          have n1 : (List.length ([] : List Cl) : Int) = 0 := rfl
          go_wp2_with (first | (go_at_call 35; refine (CN.out _).mono ?_; rintro e w1 ⟨rfl, rfl⟩) | (go_at_call 74; refine (CM.out _).mono ?_; rintro e w1 ⟨rfl, rfl⟩))
          go_ret3
          exact LinePost.bad HST.out HB.out
        · rw [List.concat_eq_append] at *
          rw [rightC_snoc] at hst
          have hln : (ys ++ [c9]).length = ys.length + 1 := by simp
          rw [hln] at HR hcl ⊢
          obtain ⟨b9, x9, y9⟩ := c9
          obtain ⟨g9, cap9, ev9, hg9⟩ := own_head3 HR.out (by omega)
          injection ev9 with ev1 ev2 ev3
          subst ev1; subst ev3
          have d0 := (HR.out.cellAt (ys.length * 3 + 1) (by omega)).trans (cellsV_last ys (b9, x9, y9)).2.1
          have d1 := HR.out.frozenAt (ys.length * 3 + 1)
          have n0 : ((ys.length + 1 : Nat) : Int) - 1 = (ys.length : Int) := by omega
          have n1 : (0 : Int) ≤ (ys.length : Int) := by omega
          have n2 : (ys.length : Int) < ((ys.length + 1 : Nat) : Int) := by omega
          have n3 : decide ((ys.length : Int) < 0) = false := by simp
          simp only at hst d0
          cases x9
          · simp only [if_neg (show ¬ false = true by decide), Ln.then] at hst
            have HST := Lib.hid hst; clear hst
            have HR2 := Lib.hid (HR.out.stored (ys.length * 3 + 1) (.bool true)).1
            have HB2 := Lib.hid (HB.out.setCell (p := ⟨g9, ys.length * 3 + 1, none⟩) hg9 (.bool true))
            go_wp2_with (first | (go_at_call 35; refine (CN.out _).mono ?_; rintro e w1 ⟨rfl, rfl⟩) | (go_at_call 74; refine (CM.out _).mono ?_; rintro e w1 ⟨rfl, rfl⟩))
            go_roundg g'
            case measure => omega
            case rel => exact ⟨q, ys ++ [(b9, true, y9)], by go_num, by omega, by omega, by omega, by rw [List.length_append]; exact hcl, Lib.hid (by rw [List.length_append, ← cellsV_set1 ys (b9, false, y9)]; exact HR2.out), HB2, HST⟩
          · simp only [if_pos, Ln.then] at hst
            have HST := Lib.hid hst; clear hst
            go_wp2_with (first | (go_at_call 35; refine (CN.out _).mono ?_; rintro e w1 ⟨rfl, rfl⟩) | (go_at_call 74; refine (CM.out _).mono ?_; rintro e w1 ⟨rfl, rfl⟩))
            go_ret3
            exact LinePost.bad HST.out HB.out
      | below =>
        have hm : markN r = 4 := by unfold markN; rw [hk]
        rw [hm] at cM
        have CM := Lib.hid cM
        unfold stepC at hst
        rw [hk] at hst
        simp only at hst
        clear cM hm hk q5 q6
        rcases List.eq_nil_or_concat cs with rfl | ⟨ys, c9, rfl⟩
        · rw [belowC_nil] at hst
          simp only [Ln.then] at hst
          have HST := Lib.hid hst; clear hst
          have n1 : (List.length ([] : List Cl) : Int) = 0 := rfl
          go_wp2_with (first | (go_at_call 35; refine (CN.out _).mono ?_; rintro e w1 ⟨rfl, rfl⟩) | (go_at_call 74; refine (CM.out _).mono ?_; rintro e w1 ⟨rfl, rfl⟩))
          go_ret3
          exact LinePost.bad HST.out HB.out
        · rw [List.concat_eq_append] at *
          rw [belowC_snoc] at hst
          have hln : (ys ++ [c9]).length = ys.length + 1 := by simp
          rw [hln] at HR hcl ⊢
          obtain ⟨b9, x9, y9⟩ := c9
          obtain ⟨g9, cap9, ev9, hg9⟩ := own_head3 HR.out (by omega)
          injection ev9 with ev1 ev2 ev3
          subst ev1; subst ev3
          have d0 := (HR.out.cellAt (ys.length * 3 + 2) (by omega)).trans (cellsV_last ys (b9, x9, y9)).2.2
          have d1 := HR.out.frozenAt (ys.length * 3 + 2)
          have n0 : ((ys.length + 1 : Nat) : Int) - 1 = (ys.length : Int) := by omega
          have n1 : (0 : Int) ≤ (ys.length : Int) := by omega
          have n2 : (ys.length : Int) < ((ys.length + 1 : Nat) : Int) := by omega
          have n3 : decide ((ys.length : Int) < 0) = false := by simp
          simp only at hst d0
          cases y9
          · simp only [if_neg (show ¬ false = true by decide), Ln.then] at hst
            have HST := Lib.hid hst; clear hst
            have HR2 := Lib.hid (HR.out.stored (ys.length * 3 + 2) (.bool true)).1
            have HB2 := Lib.hid (HB.out.setCell (p := ⟨g9, ys.length * 3 + 2, none⟩) hg9 (.bool true))
            go_wp2_with (first | (go_at_call 35; refine (CN.out _).mono ?_; rintro e w1 ⟨rfl, rfl⟩) | (go_at_call 74; refine (CM.out _).mono ?_; rintro e w1 ⟨rfl, rfl⟩))
            go_roundg g'
            case measure => omega
            case rel => exact ⟨q, ys ++ [(b9, x9, true)], by go_num, by omega, by omega, by omega, by rw [List.length_append]; exact hcl, Lib.hid (by rw [List.length_append, ← cellsV_set2 ys (b9, x9, false)]; exact HR2.out), HB2, HST⟩
          · simp only [if_pos, Ln.then] at hst
            have HST := Lib.hid hst; clear hst
            go_wp2_with (first | (go_at_call 35; refine (CN.out _).mono ?_; rintro e w1 ⟨rfl, rfl⟩) | (go_at_call 74; refine (CM.out _).mono ?_; rintro e w1 ⟨rfl, rfl⟩))
            go_ret3
            exact LinePost.bad HST.out HB.out
    · obtain rfl : p = e := by omega
      rw [contC_end] at HC
      obtain ⟨A, c, rfl⟩ := own_form3 HR.out
      go_wp2
      go_ret3
      exact LinePost.good HC.out HB.out hcl HR.out
end Go.Proofs.YtlkabghpcjlohaaDoor
