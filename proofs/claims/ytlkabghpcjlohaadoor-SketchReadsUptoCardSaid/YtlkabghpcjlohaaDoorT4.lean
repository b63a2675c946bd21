/- The reference's Check of a grid. -/
import Derived.Test.YtlkabghpcjlohaaDoorT3
namespace Go.Proofs.YtlkabghpcjlohaaDoor
set_option linter.unusedVariables false
set_option linter.unusedSimpArgs false
open Go.RowKit Go.Lib

theorem refSide_any (n : Int) (w : World) : Calls Tryd.prog 75 #[.int .i64 n] w fun e w' => e = .returned (.bool (sideB n)) ∧ w = w' := by
  go_enter Tryd.func75, Tryd.ntmps75
  by_cases h1 : 1 ≤ n
  · by_cases h2 : n ≤ 16
    · go_wp2
      go_ret
      exact ⟨by unfold sideB; simp [h1, h2], rfl⟩
    · go_wp2
      go_ret
      exact ⟨by unfold sideB; simp [h1, h2], rfl⟩
  · go_wp2
    go_ret
    have h9 : sideB n = false := by
      cases h : sideB n with
      | false => rfl
      | true => have := sideB_iff.1 h; omega
    rw [h9]
    exact ⟨rfl, rfl⟩


set_option maxHeartbeats 8000000 in
set_option maxRecDepth 100000 in
theorem refCheck_any (v : Value) (g : Gd) (B : Nat) (w : World) (h : GdAt w B v g) (hB : B ≤ w.heap.size) (hl : g.B.length ≤ 17592186044416 ∧ g.R.length ≤ 17592186044416 ∧ g.D.length ≤ 17592186044416) :
    Calls Tryd.prog 58 #[v] w fun e w' => e = .returned (.int .i64 (checkG g)) ∧ Below w.heap.size w w' := by
  obtain ⟨hh, hw, b, r, d, rfl, hb, hr, hd⟩ := h
  obtain ⟨H, W, gB, gR, gD⟩ := g
  simp only at hh hw hb hr hd hl
  obtain ⟨Ab, cb, rfl, hcb, hAb⟩ := hb
  obtain ⟨Ar, cr, rfl, hcr, hAr⟩ := hr
  obtain ⟨Ad, cd, rfl, hcd, hAd⟩ := hd
  rw [List.length_map] at hcb hcr hcd ⊢
  rw [List.length_map, List.length_map]
  have CS := Lib.hid refSide_any
  have HAB := Lib.hid hAb; have HAR := Lib.hid hAr; have HAD := Lib.hid hAd
  clear hAb hAr hAd
  cases h1 : sideB H with
  | false =>
    have CH := Lib.hid (fun W => refSide_any H W)
    rw [h1] at CH
    have HE := Lib.hid (chk_side (g := ⟨H, W, gB, gR, gD⟩) (.inl h1))
    clear h1
    go_enter Tryd.func58, Tryd.ntmps58
    go_wp2_with (go_at_call 75; refine (CH.out _).mono ?_; rintro e w' ⟨rfl, rfl⟩)
    go_ret
    exact ⟨ret_i HE.out.symm, (Below.refl _ w).alloc (Nat.le_refl _) _⟩
  | true =>
    cases h2 : sideB W with
    | false =>
      have CH := Lib.hid (fun w => refSide_any H w)
      have CW := Lib.hid (fun w => refSide_any W w)
      rw [h1] at CH
      rw [h2] at CW
      have HE := Lib.hid (chk_side (g := ⟨H, W, gB, gR, gD⟩) (.inr h2))
      have h3 : H ≠ W := by intro e; rw [e, h2] at h1; cases h1
      have H3 := Lib.hid h3
      clear h1 h2 h3
      go_enter Tryd.func58, Tryd.ntmps58
      go_wp2_with (go_at_call 75; (first | with_reducible refine (CH.out _).mono ?_ | with_reducible refine (CW.out _).mono ?_); rintro e w' ⟨rfl, rfl⟩)
      go_ret
      exact ⟨ret_i HE.out.symm, (Below.refl _ w).alloc (Nat.le_refl _) _⟩
    | true =>
      have hH := sideB_iff.1 h1
      have hW := sideB_iff.1 h2
      obtain ⟨a, rfl⟩ : ∃ a : Nat, H = (a : Int) := ⟨H.toNat, by omega⟩
      obtain ⟨c, rfl⟩ : ∃ c : Nat, W = (c : Int) := ⟨W.toNat, by omega⟩
      have CH := Lib.hid (fun w => refSide_any (a : Int) w)
      have CW := Lib.hid (fun w => refSide_any (c : Int) w)
      rw [h1] at CH
      rw [h2] at CW
      have hm : a * c ≤ 256 := Nat.mul_le_mul (show a ≤ 16 by omega) (show c ≤ 16 by omega)
      have kw : (a : Int) * (c : Int) = ((a * c : Nat) : Int) := by push_cast; rfl
      by_cases hsz : gB.length = a * c ∧ gR.length = a * c ∧ gD.length = a * c
      · have hck := chk_bar (g := ⟨a, c, gB, gR, gD⟩) h1 h2 (by simpa using hsz)
        have HCK0 := Lib.hid hck; clear hck h1 h2
        have hSB : Sl w B (.slice Ab gB.length cb) (bools gB) := ⟨Ab, cb, by rw [List.length_map], by rw [List.length_map]; exact hcb, HAB.out⟩
        have hSR : Sl w B (.slice Ar gR.length cr) (bools gR) := ⟨Ar, cr, by rw [List.length_map], by rw [List.length_map]; exact hcr, HAR.out⟩
        have hSD : Sl w B (.slice Ad gD.length cd) (bools gD) := ⟨Ad, cd, by rw [List.length_map], by rw [List.length_map]; exact hcd, HAD.out⟩
        have hB1 := (Below.refl w.heap.size w).alloc (Nat.le_refl _) (.cells #[.int .i64 (a : Int), .int .i64 (c : Int), .slice Ab gB.length cb, .slice Ar gR.length cr, .slice Ad gD.length cd] 45)
        have CB := Lib.hid (barred_any a c _ _ _ gB gR gD B (w.alloc (.cells #[.int .i64 (a : Int), .int .i64 (c : Int), .slice Ab gB.length cb, .slice Ar gR.length cr, .slice Ad gD.length cd] 45)) (by have := hB1.size; omega) (hSB.below (hB1.mono hB)) (hSR.below (hB1.mono hB)) (hSD.below (hB1.mono hB)) (by omega) (by omega) hsz)
        have HB1 := Lib.hid hB1
        obtain ⟨s1, s2, s3⟩ := hsz
        clear hSB hSR hSD hB1 HAB HAR HAD
        rw [s1, s2, s3] at CB HB1
        rw [s1, s2, s3]
        clear s1 s2 s3
        generalize a * c = m at *
        generalize barred ⟨a, c, gB, gR, gD⟩ = bd at *
        cases bd
        · have HE := Lib.hid HCK0.out; clear HCK0
          go_enter Tryd.func58, Tryd.ntmps58
          go_wp2_with (first
            | (go_at_call 75; (first | with_reducible refine (CH.out _).mono ?_ | with_reducible refine (CW.out _).mono ?_); rintro e w' ⟨rfl, rfl⟩)
            | (go_at_call 76; refine CB.out.mono ?_; rintro e w' ⟨rfl, hb2⟩))
          go_ret
          exact ⟨ret_i HE.out.symm, HB1.out.trans (hb2.mono HB1.out.size)⟩
        · have HE := Lib.hid HCK0.out; clear HCK0
          go_enter Tryd.func58, Tryd.ntmps58
          go_wp2_with (first
            | (go_at_call 75; (first | with_reducible refine (CH.out _).mono ?_ | with_reducible refine (CW.out _).mono ?_); rintro e w' ⟨rfl, rfl⟩)
            | (go_at_call 76; refine CB.out.mono ?_; rintro e w' ⟨rfl, hb2⟩))
          go_ret
          exact ⟨ret_i HE.out.symm, HB1.out.trans (hb2.mono HB1.out.size)⟩
      · have HE := Lib.hid (chk_size (g := ⟨a, c, gB, gR, gD⟩) h1 h2 (by simpa using hsz))
        clear h1 h2
        generalize a * c = m at *
        by_cases s1 : gB.length = m
        · by_cases s2 : gR.length = m
          · have s3 : ¬ gD.length = m := fun h => hsz ⟨s1, s2, h⟩
            have t1 : ((gB.length : Int) != (m : Int)) = false := by simp; omega
            have t2 : ((gR.length : Int) != (m : Int)) = false := by simp; omega
            have t3 : ((gD.length : Int) != (m : Int)) = true := by simp; omega
            clear hsz s1 s2 s3
            go_enter Tryd.func58, Tryd.ntmps58
            go_wp2_with (go_at_call 75; (first | with_reducible refine (CH.out _).mono ?_ | with_reducible refine (CW.out _).mono ?_); rintro e w' ⟨rfl, rfl⟩)
            go_ret
            exact ⟨ret_i HE.out.symm, (Below.refl _ w).alloc (Nat.le_refl _) _⟩
          · have t1 : ((gB.length : Int) != (m : Int)) = false := by simp; omega
            have t2 : ((gR.length : Int) != (m : Int)) = true := by simp; omega
            clear hsz s1 s2
            go_enter Tryd.func58, Tryd.ntmps58
            go_wp2_with (go_at_call 75; (first | with_reducible refine (CH.out _).mono ?_ | with_reducible refine (CW.out _).mono ?_); rintro e w' ⟨rfl, rfl⟩)
            go_ret
            exact ⟨ret_i HE.out.symm, (Below.refl _ w).alloc (Nat.le_refl _) _⟩
        · have t1 : ((gB.length : Int) != (m : Int)) = true := by simp; omega
          clear hsz s1
          go_enter Tryd.func58, Tryd.ntmps58
          go_wp2_with (go_at_call 75; (first | with_reducible refine (CH.out _).mono ?_ | with_reducible refine (CW.out _).mono ?_); rintro e w' ⟨rfl, rfl⟩)
          go_ret
          exact ⟨ret_i HE.out.symm, (Below.refl _ w).alloc (Nat.le_refl _) _⟩
end Go.Proofs.YtlkabghpcjlohaaDoor
