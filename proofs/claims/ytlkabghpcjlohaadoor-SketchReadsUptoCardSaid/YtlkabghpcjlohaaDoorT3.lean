/- The reference's barred. -/
import Derived.Test.YtlkabghpcjlohaaDoorT2
namespace Go.Proofs.YtlkabghpcjlohaaDoor
set_option linter.unusedVariables false
set_option linter.unusedSimpArgs false
open Go.RowKit Go.Lib

set_option maxHeartbeats 8000000 in
set_option maxRecDepth 100000 in
theorem barred_any (a c : Nat) (vb vr vd : Value) (gB gR gD : List Bool) (B : Nat) (w : World) (hB : B ≤ w.heap.size) (hb : Sl w B vb (bools gB)) (hr : Sl w B vr (bools gR)) (hd : Sl w B vd (bools gD))
    (ha : 1 ≤ a ∧ a ≤ 16) (hc : 1 ≤ c ∧ c ≤ 16) (hsz : gB.length = a * c ∧ gR.length = a * c ∧ gD.length = a * c) :
    Calls Tryd.prog 76 #[.agg #[.int .i64 (a : Int), .int .i64 (c : Int), vb, vr, vd]] w fun e w' => e = .returned (.bool (barred ⟨a, c, gB, gR, gD⟩)) ∧ Below w.heap.size w w' := by
  obtain ⟨Ab, cb, rfl, hcb, hAb⟩ := hb
  obtain ⟨Ar, cr, rfl, hcr, hAr⟩ := hr
  obtain ⟨Ad, cd, rfl, hcd, hAd⟩ := hd
  rw [List.length_map] at hcb hcr hcd ⊢
  rw [List.length_map, List.length_map]
  have HAB := Lib.hid hAb; have HAR := Lib.hid hAr; have HAD := Lib.hid hAd
  clear hAb hAr hAd
  have hm : a * c ≤ 256 := Nat.mul_le_mul (show a ≤ 16 by omega) (show c ≤ 16 by omega)
  have kw : (a : Int) * (c : Int) = ((a * c : Nat) : Int) := by push_cast; rfl
  obtain ⟨s1, s2, s3⟩ := hsz
  have hSB : Sl w B (.slice Ab gB.length cb) (bools gB) := ⟨Ab, cb, by rw [List.length_map], by rw [List.length_map]; exact hcb, HAB.out⟩
  have hSR : Sl w B (.slice Ar gR.length cr) (bools gR) := ⟨Ar, cr, by rw [List.length_map], by rw [List.length_map]; exact hcr, HAR.out⟩
  have hSD : Sl w B (.slice Ad gD.length cd) (bools gD) := ⟨Ad, cd, by rw [List.length_map], by rw [List.length_map]; exact hcd, HAD.out⟩
  rw [s1] at hSB hcb ⊢
  rw [s2] at hSR hcr ⊢
  rw [s3] at hSD hcd ⊢
  have hin1 : ∀ i, i < a * c → i % c ≠ c - 1 → i + 1 < a * c := fun i => next_in (by omega)
  have hin2 : ∀ i, i < a * c → i / c ≠ a - 1 → i + c < a * c := fun i => below_in (by omega)
  have hpos : 0 < a * c := Nat.mul_pos (by omega) (by omega)
  have hdv : ∀ i, i < a * c → i / c < a := fun i h => by rw [Nat.div_lt_iff_lt_mul (by omega)]; exact h
  have HI1 := Lib.hid hin1; have HI2 := Lib.hid hin2; have HDV := Lib.hid hdv
  have HSB := Lib.hid hSB; have HSR := Lib.hid hSR; have HSD := Lib.hid hSD
  have HMM : Hid (∀ i, i < a * c → badAt a c gB gR gD i = true → barred ⟨a, c, gB, gR, gD⟩ = true) := Lib.hid (fun i hi hbad => by
    unfold barred
    exact List.any_eq_true.2 ⟨i, List.mem_range.2 (by simpa using hi), by simpa using hbad⟩)
  have HEN : Hid ((∀ i, i < a * c → badAt a c gB gR gD i = false) → barred ⟨a, c, gB, gR, gD⟩ = false) := Lib.hid (fun h => by
    cases hbr : barred ⟨a, c, gB, gR, gD⟩ with
    | false => rfl
    | true =>
      unfold barred at hbr
      rw [List.any_eq_true] at hbr
      obtain ⟨i, hi, hb⟩ := hbr
      have hi' := List.mem_range.1 hi
      have := h i (by simpa using hi')
      simp only [Int.toNat_natCast] at hb
      rw [this] at hb
      cases hb)
  clear hin1 hin2 hSB hSR hSD hdv s1 s2 s3 HAB HAR HAD
  generalize a * c = m at *
  have c0 : ¬ (c : Int) = 0 := by omega
  have hw1 := World.alloc_heap_new w (.cells #[.int .i64 (a : Int), .int .i64 (c : Int), .slice Ab m cb, .slice Ar m cr, .slice Ad m cd] 45)
  have HW1 := Lib.hid hw1; clear hw1
  have hB1 := Lib.hid ((Below.refl w.heap.size w).alloc (Nat.le_refl _) (.cells #[.int .i64 (a : Int), .int .i64 (c : Int), .slice Ab m cb, .slice Ar m cr, .slice Ad m cd] 45))
  go_enter Tryd.func76, Tryd.ntmps76
  go_wp2_with fail
  generalize w.alloc (.cells #[.int .i64 (a : Int), .int .i64 (c : Int), .slice Ab m cb, .slice Ar m cr, .slice Ad m cd] 45) = w1 at *
  go_loopg [3] m (fun gf u45 wr => ∃ k : Nat, u45 = .int .i64 k ∧ k ≤ m ∧ m ≤ k + gf ∧ Hid (∃ q, wr = w1.drewN q) ∧ Hid (∀ i, i < k → badAt a c gB gR gD i = false))
  case atStart => exact ⟨0, rfl, Nat.zero_le _, by omega, Lib.hid ⟨0, rfl⟩, Lib.hid (fun i hi => by omega)⟩
  case round =>
    rename World => w5
    obtain ⟨k, rfl, hk, hfu, HQ, HNO⟩ := hrel
    have hbw : Hid (Below w.heap.size w w5) := by obtain ⟨q, rfl⟩ := HQ; exact Lib.hid (bdraw hB1.out q)
    by_cases hlt : k < m
    · obtain ⟨g', rfl⟩ : ∃ g', gk = g' + 1 := ⟨gk - 1, by omega⟩
      have hcx : ∀ j, w5.cell? ⟨w.heap.size, j, none⟩ = w1.cell? ⟨w.heap.size, j, none⟩ := by obtain ⟨q, rfl⟩ := HQ; intro j; rfl
      have p0 := (hcx 0).trans (Lib.cell_of_heap HW1.out 0)
      have p1 := (hcx 1).trans (Lib.cell_of_heap HW1.out 1)
      have p2 := (hcx 2).trans (Lib.cell_of_heap HW1.out 2)
      have p3 := (hcx 3).trans (Lib.cell_of_heap HW1.out 3)
      have p4 := (hcx 4).trans (Lib.cell_of_heap HW1.out 4)
      clear hcx
      obtain ⟨b1, o1, rfl, z1⟩ := ((HSB.out.below (hbw.out.mono hB))).boolsAt hpos
      obtain ⟨b2, o2, rfl, z2⟩ := ((HSR.out.below (hbw.out.mono hB))).boolsAt hpos
      obtain ⟨b3, o3, rfl, z3⟩ := ((HSD.out.below (hbw.out.mono hB))).boolsAt hpos
      have g1 := z1 k hlt; have g2 := z2 k hlt; have g3 := z3 k hlt
      have GX1 : Hid (decide (k % c = c - 1) = false → k + 1 < m ∧ w5.cell? ⟨b1, o1 + (k + 1), none⟩ = some (.bool (gB.getD (k + 1) false))) := Lib.hid (fun h => by
        have h2 := HI1.out k hlt (of_decide_eq_false h)
        exact ⟨h2, z1 _ h2⟩)
      have GX2 : Hid (decide (k / c = a - 1) = false → k + c < m ∧ w5.cell? ⟨b1, o1 + (k + c), none⟩ = some (.bool (gB.getD (k + c) false))) := Lib.hid (fun h => by
        have h2 := HI2.out k hlt (of_decide_eq_false h)
        exact ⟨h2, z1 _ h2⟩)
      have HBA : Hid (badAt a c gB gR gD k = ((gR.getD k false && (gB.getD k false || decide (k % c = c - 1) || gB.getD (k + 1) false)) || (gD.getD k false && (gB.getD k false || decide (k / c = a - 1) || gB.getD (k + c) false)))) := Lib.hid rfl
      have HCK := Lib.hid (HMM.out k hlt)
      have HNX : Hid (badAt a c gB gR gD k = false → Hid (∀ i, i < k + 1 → badAt a c gB gR gD i = false)) := Lib.hid (fun h => Lib.hid (fun i hi => by
        rcases Nat.lt_or_ge i k with h1 | h1
        · exact HNO.out i h1
        · obtain rfl : i = k := by omega
          exact h))
      have HQ2 : Hid (∀ n, Hid (∃ q, w5.drewN n = w1.drewN q)) := Lib.hid (fun n => by obtain ⟨q, hq⟩ := HQ; exact Lib.hid ⟨q + n, by rw [hq, World.drewN_drewN]⟩)
      have HQB : Hid (∀ n, Below w.heap.size w (w5.drewN n)) := Lib.hid (fun n => bdraw hbw.out n)
      have hml := Nat.mod_lt k (show 0 < c by omega)
      have hdl := HDV.out k hlt
      have k3 : (k : Int).tmod (c : Int) = ((k % c : Nat) : Int) := rfl
      have k4 : (k : Int).tdiv (c : Int) = ((k / c : Nat) : Int) := rfl
      have E1 : (((k % c : Nat) : Int) == (c : Int) - 1) = decide (k % c = c - 1) := by rw [Bool.eq_iff_iff, beq_iff_eq, decide_eq_true_eq]; omega
      have E2 : (((k / c : Nat) : Int) == (a : Int) - 1) = decide (k / c = a - 1) := by
        generalize k / c = q at *
        rw [Bool.eq_iff_iff, beq_iff_eq, decide_eq_true_eq]; omega
      clear z1 z2 z3 hbw HQ HNO
      have i1 : (0 : Int) ≤ (k : Int) := by omega
      have i2 : (k : Int) < (m : Int) := by omega
      have i3 : (0 : Int) ≤ (k : Int) + 1 := by omega
      have i4 : (0 : Int) ≤ (k : Int) + (c : Int) := by omega
      have i5 : ((k : Int) + 1).toNat = k + 1 := by omega
      have i6 : ((k : Int) + (c : Int)).toNat = k + c := by omega
      generalize decide (k % c = c - 1) = e1 at *
      generalize decide (k / c = a - 1) = e2 at *
      generalize gB.getD (k + 1) false = x1 at *
      generalize gB.getD (k + c) false = x2 at *
      generalize gB.getD k false = bb at *
      generalize gR.getD k false = rb at *
      generalize gD.getD k false = db at *
      generalize k % c = kr at *
      generalize k / c = kq at *
      cases rb with
      | true =>
        cases bb with
        | true =>
          have HBD := Lib.hid (HBA.out); simp only [Bool.and_true, Bool.true_and, Bool.and_false, Bool.false_and, Bool.or_true, Bool.true_or, Bool.or_false, Bool.false_or] at HBD; clear HBA
          go_wp2; go_quiet (fail); go_wp2
          go_ret
          first | exact ⟨ret_b (HCK.out HBD.out).symm, HQB.out _⟩ | exact ⟨ret_b (HCK.out HBD.out).symm, bdraw (HQB.out _) _⟩
        | false =>
          cases e1 with
          | true =>
            have HBD := Lib.hid (HBA.out); simp only [Bool.and_true, Bool.true_and, Bool.and_false, Bool.false_and, Bool.or_true, Bool.true_or, Bool.or_false, Bool.false_or] at HBD; clear HBA
            go_wp2; go_quiet (fail); go_wp2
            go_ret
            first | exact ⟨ret_b (HCK.out HBD.out).symm, HQB.out _⟩ | exact ⟨ret_b (HCK.out HBD.out).symm, bdraw (HQB.out _) _⟩
          | false =>
            cases x1 with
            | true =>
              obtain ⟨r1, G1⟩ := GX1.out rfl; have r1' : (k : Int) + 1 < (m : Int) := by omega
              have HBD := Lib.hid (HBA.out); simp only [Bool.and_true, Bool.true_and, Bool.and_false, Bool.false_and, Bool.or_true, Bool.true_or, Bool.or_false, Bool.false_or] at HBD; clear HBA
              go_wp2; go_quiet (fail); go_wp2
              go_ret
              first | exact ⟨ret_b (HCK.out HBD.out).symm, HQB.out _⟩ | exact ⟨ret_b (HCK.out HBD.out).symm, bdraw (HQB.out _) _⟩
            | false =>
              cases db with
              | true =>
                cases e2 with
                | true =>
                  obtain ⟨r1, G1⟩ := GX1.out rfl; have r1' : (k : Int) + 1 < (m : Int) := by omega
                  have HBD := Lib.hid (HBA.out); simp only [Bool.and_true, Bool.true_and, Bool.and_false, Bool.false_and, Bool.or_true, Bool.true_or, Bool.or_false, Bool.false_or] at HBD; clear HBA
                  go_wp2; go_quiet (fail); go_wp2; go_quiet (fail); go_wp2
                  go_ret
                  first | exact ⟨ret_b (HCK.out HBD.out).symm, HQB.out _⟩ | exact ⟨ret_b (HCK.out HBD.out).symm, bdraw (HQB.out _) _⟩
                | false =>
                  cases x2 with
                  | true =>
                    obtain ⟨r1, G1⟩ := GX1.out rfl; have r1' : (k : Int) + 1 < (m : Int) := by omega
                    obtain ⟨r2, G2⟩ := GX2.out rfl; have r2' : (k : Int) + (c : Int) < (m : Int) := by omega
                    have HBD := Lib.hid (HBA.out); simp only [Bool.and_true, Bool.true_and, Bool.and_false, Bool.false_and, Bool.or_true, Bool.true_or, Bool.or_false, Bool.false_or] at HBD; clear HBA
                    go_wp2; go_quiet (fail); go_wp2; go_quiet (fail); go_wp2
                    go_ret
                    first | exact ⟨ret_b (HCK.out HBD.out).symm, HQB.out _⟩ | exact ⟨ret_b (HCK.out HBD.out).symm, bdraw (HQB.out _) _⟩
                  | false =>
                    obtain ⟨r1, G1⟩ := GX1.out rfl; have r1' : (k : Int) + 1 < (m : Int) := by omega
                    obtain ⟨r2, G2⟩ := GX2.out rfl; have r2' : (k : Int) + (c : Int) < (m : Int) := by omega
                    have HBD := Lib.hid (HBA.out); simp only [Bool.and_true, Bool.true_and, Bool.and_false, Bool.false_and, Bool.or_true, Bool.true_or, Bool.or_false, Bool.false_or] at HBD; clear HBA
                    go_wp2; go_quiet (fail); go_wp2; go_quiet (fail); go_wp2
                    go_roundg g'
                    case measure => omega
                    case rel => exact ⟨k + 1, by go_num, by omega, by omega, HQ2.out _, HNX.out HBD.out⟩
              | false =>
                obtain ⟨r1, G1⟩ := GX1.out rfl; have r1' : (k : Int) + 1 < (m : Int) := by omega
                have HBD := Lib.hid (HBA.out); simp only [Bool.and_true, Bool.true_and, Bool.and_false, Bool.false_and, Bool.or_true, Bool.true_or, Bool.or_false, Bool.false_or] at HBD; clear HBA
                go_wp2; go_quiet (fail); go_wp2; go_quiet (fail); go_wp2
                go_roundg g'
                case measure => omega
                case rel => exact ⟨k + 1, by go_num, by omega, by omega, HQ2.out _, HNX.out HBD.out⟩
      | false =>
        cases db with
        | true =>
          cases bb with
          | true =>
            have HBD := Lib.hid (HBA.out); simp only [Bool.and_true, Bool.true_and, Bool.and_false, Bool.false_and, Bool.or_true, Bool.true_or, Bool.or_false, Bool.false_or] at HBD; clear HBA
            go_wp2; go_quiet (fail); go_wp2; go_quiet (fail); go_wp2
            go_ret
            first | exact ⟨ret_b (HCK.out HBD.out).symm, HQB.out _⟩ | exact ⟨ret_b (HCK.out HBD.out).symm, bdraw (HQB.out _) _⟩
          | false =>
            cases e2 with
            | true =>
              have HBD := Lib.hid (HBA.out); simp only [Bool.and_true, Bool.true_and, Bool.and_false, Bool.false_and, Bool.or_true, Bool.true_or, Bool.or_false, Bool.false_or] at HBD; clear HBA
              go_wp2; go_quiet (fail); go_wp2; go_quiet (fail); go_wp2
              go_ret
              first | exact ⟨ret_b (HCK.out HBD.out).symm, HQB.out _⟩ | exact ⟨ret_b (HCK.out HBD.out).symm, bdraw (HQB.out _) _⟩
            | false =>
              cases x2 with
              | true =>
                obtain ⟨r2, G2⟩ := GX2.out rfl; have r2' : (k : Int) + (c : Int) < (m : Int) := by omega
                have HBD := Lib.hid (HBA.out); simp only [Bool.and_true, Bool.true_and, Bool.and_false, Bool.false_and, Bool.or_true, Bool.true_or, Bool.or_false, Bool.false_or] at HBD; clear HBA
                go_wp2; go_quiet (fail); go_wp2; go_quiet (fail); go_wp2
                go_ret
                first | exact ⟨ret_b (HCK.out HBD.out).symm, HQB.out _⟩ | exact ⟨ret_b (HCK.out HBD.out).symm, bdraw (HQB.out _) _⟩
              | false =>
                obtain ⟨r2, G2⟩ := GX2.out rfl; have r2' : (k : Int) + (c : Int) < (m : Int) := by omega
                have HBD := Lib.hid (HBA.out); simp only [Bool.and_true, Bool.true_and, Bool.and_false, Bool.false_and, Bool.or_true, Bool.true_or, Bool.or_false, Bool.false_or] at HBD; clear HBA
                go_wp2; go_quiet (fail); go_wp2; go_quiet (fail); go_wp2
                go_roundg g'
                case measure => omega
                case rel => exact ⟨k + 1, by go_num, by omega, by omega, HQ2.out _, HNX.out HBD.out⟩
        | false =>
          have HBD := Lib.hid (HBA.out); simp only [Bool.and_true, Bool.true_and, Bool.and_false, Bool.false_and, Bool.or_true, Bool.true_or, Bool.or_false, Bool.false_or] at HBD; clear HBA
          go_wp2; go_quiet (fail); go_wp2; go_quiet (fail); go_wp2
          go_roundg g'
          case measure => omega
          case rel => exact ⟨k + 1, by go_num, by omega, by omega, HQ2.out _, HNX.out HBD.out⟩
    · obtain rfl : m = k := by omega
      have HE := Lib.hid (HEN.out HNO.out)
      have hcx : ∀ j, w5.cell? ⟨w.heap.size, j, none⟩ = w1.cell? ⟨w.heap.size, j, none⟩ := by obtain ⟨q, rfl⟩ := HQ; intro j; rfl
      have p0 := (hcx 0).trans (Lib.cell_of_heap HW1.out 0)
      have p1 := (hcx 1).trans (Lib.cell_of_heap HW1.out 1)
      clear hcx
      go_wp2
      go_ret
      exact ⟨ret_b HE.out.symm, hbw.out⟩
end Go.Proofs.YtlkabghpcjlohaaDoor
