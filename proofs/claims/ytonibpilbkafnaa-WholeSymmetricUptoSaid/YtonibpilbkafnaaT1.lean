/- Package grid: side, Check of a grid in memory. -/
import Derived.Test.YtonibpilbkafnaaO0
import Derived.BigQuiet
namespace Go.Proofs.Ytonibpilbkafnaa
set_option linter.unusedVariables false
set_option linter.unusedSimpArgs false
open Go.RowKit Go.Lib

abbrev bools (l : List Bool) : List Value := l.map Value.bool
/-- a grid's value in a world: its three slices lie below B -/
structure GdAt (w : World) (B : Nat) (v : Value) (g : Gd) : Prop where
  h0 : -9223372036854775808 ≤ g.H ∧ g.H ≤ 9223372036854775807
  w0 : -9223372036854775808 ≤ g.W ∧ g.W ≤ 9223372036854775807
  eq : ∃ b r d, v = .agg #[.int .i64 g.H, .int .i64 g.W, b, r, d] ∧ Sl w B b (bools g.B) ∧ Sl w B r (bools g.R) ∧ Sl w B d (bools g.D)

theorem Sl.boolsAt {w : World} {B : Nat} {A : Option Addr} {n c : Nat} {l : List Bool} (h : Sl w B (.slice A n c) (bools l)) (hn : 0 < n) : ∃ b off, A = some ⟨b, off, none⟩ ∧ ∀ i, i < n → w.cell? ⟨b, off + i, none⟩ = some (.bool (l.getD i false)) := by
  obtain ⟨A', c', hv, hc, hA⟩ := h
  injection hv with e1 e2 e3
  obtain ⟨ad, e, hB, hcell⟩ := hA (by omega)
  have h0 := hcell 0 _ (List.getElem?_eq_getElem (by omega))
  have hsp : ad.spot = none := by
    cases hs : ad.spot with
    | none => rfl
    | some k =>
      exfalso
      simp only [Addr.add, if_true, World.cell?] at h0
      rw [hs] at h0
      revert h0
      split <;> simp
  rw [List.length_map] at e2
  refine ⟨ad.block, ad.off, ?_, fun i hi => ?_⟩
  · rw [e1, e]; obtain ⟨b, o, s⟩ := ad; simp only at hsp; subst hsp; rfl
  · have hil : i < l.length := by omega
    have := hcell i (.bool (l.getD i false)) (by rw [List.getElem?_map, List.getElem?_eq_getElem hil, List.getD_eq_getElem?_getD, List.getElem?_eq_getElem hil]; rfl)
    obtain ⟨b, o, s⟩ := ad
    simp only at hsp
    subst hsp
    unfold Addr.add at this
    split at this <;> simp_all
def sideB (n : Int) : Bool := decide (1 ≤ n) && decide (n ≤ 16)
theorem next_in {i a c : Nat} (hc : 1 ≤ c) (h : i < a * c) (h1 : i % c ≠ c - 1) : i + 1 < a * c := by
  have e := Nat.div_add_mod i c
  have l := Nat.mod_lt i (show 0 < c by omega)
  have d : i / c < a := by rw [Nat.div_lt_iff_lt_mul (by omega)]; exact h
  have m : c * (i / c + 1) ≤ c * a := Nat.mul_le_mul (Nat.le_refl _) d
  rw [Nat.mul_add, Nat.mul_one, Nat.mul_comm c a] at m
  omega
theorem below_in {i a c : Nat} (hc : 1 ≤ c) (h : i < a * c) (h1 : i / c ≠ a - 1) : i + c < a * c := by
  have e := Nat.div_add_mod i c
  have l := Nat.mod_lt i (show 0 < c by omega)
  have d : i / c < a := by rw [Nat.div_lt_iff_lt_mul (by omega)]; exact h
  generalize i / c = q at *
  have m : c * (q + 2) ≤ c * a := Nat.mul_le_mul (Nat.le_refl _) (by omega)
  rw [Nat.mul_add, Nat.mul_comm c a] at m
  omega
theorem sideB_iff {n : Int} : sideB n = true ↔ 1 ≤ n ∧ n ≤ 16 := by unfold sideB; simp
theorem chk_side {g : Gd} (h : sideB g.H = false ∨ sideB g.W = false) : checkG g = 50 := by
  unfold checkG
  rw [if_pos]
  rintro ⟨a, b, c, d⟩
  rcases h with h | h
  · rw [sideB_iff.2 ⟨a, b⟩] at h; cases h
  · rw [sideB_iff.2 ⟨c, d⟩] at h; cases h
theorem chk_size {g : Gd} (h1 : sideB g.H = true) (h2 : sideB g.W = true) (h : ¬ (g.B.length = g.H.toNat * g.W.toNat ∧ g.R.length = g.H.toNat * g.W.toNat ∧ g.D.length = g.H.toNat * g.W.toNat)) : checkG g = 51 := by
  unfold checkG
  rw [if_neg (fun hn => hn ⟨(sideB_iff.1 h1).1, (sideB_iff.1 h1).2, (sideB_iff.1 h2).1, (sideB_iff.1 h2).2⟩), if_pos h]
theorem chk_bar {g : Gd} (h1 : sideB g.H = true) (h2 : sideB g.W = true) (h : g.B.length = g.H.toNat * g.W.toNat ∧ g.R.length = g.H.toNat * g.W.toNat ∧ g.D.length = g.H.toNat * g.W.toNat) : checkG g = if barred g then 52 else 0 := by
  unfold checkG
  rw [if_neg (fun hn => hn ⟨(sideB_iff.1 h1).1, (sideB_iff.1 h1).2, (sideB_iff.1 h2).1, (sideB_iff.1 h2).2⟩), if_neg (fun hn => hn h)]

theorem side_any (n : Int) (w : World) : Calls Try.prog 21 #[.int .i64 n] w fun e w' => e = .returned (.bool (sideB n)) ∧ w = w' := by
  go_enter Try.func21, Try.ntmps21
  by_cases h1 : 1 ≤ n
  · by_cases h2 : n ≤ 16
    · go_wp2
      go_ret
      exact ⟨by unfold sideB; simp [h1, h2], rfl⟩
    · go_wp2
      go_ret
      exact ⟨by unfold sideB; simp [h1, h2], rfl⟩
  · go_wp2
    go_ret
    have h9 : sideB n = false := by
      cases h : sideB n with
      | false => rfl
      | true => have := sideB_iff.1 h; omega
    rw [h9]
    exact ⟨rfl, rfl⟩

set_option maxHeartbeats 8000000 in
set_option maxRecDepth 100000 in
theorem Check_any (v : Value) (g : Gd) (B : Nat) (w : World) (h : GdAt w B v g) (hB : B ≤ w.heap.size) (hl : g.B.length ≤ 17592186044416 ∧ g.R.length ≤ 17592186044416 ∧ g.D.length ≤ 17592186044416) :
    Calls Try.prog 12 #[v] w fun e w' => e = .returned (.int .i64 (checkG g)) ∧ Below w.heap.size w w' := by
  obtain ⟨hh, hw, b, r, d, rfl, hb, hr, hd⟩ := h
  obtain ⟨H, W, gB, gR, gD⟩ := g
  simp only at hh hw hb hr hd hl
  obtain ⟨Ab, cb, rfl, hcb, hAb⟩ := hb
  obtain ⟨Ar, cr, rfl, hcr, hAr⟩ := hr
  obtain ⟨Ad, cd, rfl, hcd, hAd⟩ := hd
  rw [List.length_map] at hcb hcr hcd ⊢
  rw [List.length_map, List.length_map]
  have CS := Lib.hid side_any
  have HAB := Lib.hid hAb; have HAR := Lib.hid hAr; have HAD := Lib.hid hAd
  clear hAb hAr hAd
  cases h1 : sideB H with
  | false =>
    have CH := Lib.hid (fun W => side_any H W)
    rw [h1] at CH
    have HE := Lib.hid (chk_side (g := ⟨H, W, gB, gR, gD⟩) (.inl h1))
    clear h1
    go_enter Try.func12, Try.ntmps12
    go_wp2_with (go_at_call 21; refine (CH.out _).mono ?_; rintro e w' ⟨rfl, rfl⟩)
    go_ret
    exact ⟨ret_i HE.out.symm, (Below.refl _ w).alloc (Nat.le_refl _) _⟩
  | true =>
    cases h2 : sideB W with
    | false =>
      have CH := Lib.hid (fun w => side_any H w)
      have CW := Lib.hid (fun w => side_any W w)
      rw [h1] at CH
      rw [h2] at CW
      have HE := Lib.hid (chk_side (g := ⟨H, W, gB, gR, gD⟩) (.inr h2))
      have h3 : H ≠ W := by intro e; rw [e, h2] at h1; cases h1
      have H3 := Lib.hid h3
      clear h1 h2 h3
      go_enter Try.func12, Try.ntmps12
      go_wp2_with (go_at_call 21; (first | with_reducible refine (CH.out _).mono ?_ | with_reducible refine (CW.out _).mono ?_); rintro e w' ⟨rfl, rfl⟩)
      go_ret
      exact ⟨ret_i HE.out.symm, (Below.refl _ w).alloc (Nat.le_refl _) _⟩
    | true =>
      have hH := sideB_iff.1 h1
      have hW := sideB_iff.1 h2
      obtain ⟨a, rfl⟩ : ∃ a : Nat, H = (a : Int) := ⟨H.toNat, by omega⟩
      obtain ⟨c, rfl⟩ : ∃ c : Nat, W = (c : Int) := ⟨W.toNat, by omega⟩
      have CH := Lib.hid (fun w => side_any (a : Int) w)
      have CW := Lib.hid (fun w => side_any (c : Int) w)
      rw [h1] at CH
      rw [h2] at CW
      have hm : a * c ≤ 256 := Nat.mul_le_mul (show a ≤ 16 by omega) (show c ≤ 16 by omega)
      have kw : (a : Int) * (c : Int) = ((a * c : Nat) : Int) := by push_cast; rfl
      by_cases hsz : gB.length = a * c ∧ gR.length = a * c ∧ gD.length = a * c
      · have hck := chk_bar (g := ⟨a, c, gB, gR, gD⟩) h1 h2 (by simpa using hsz)
        have HCK0 := Lib.hid hck; clear hck h1 h2
        obtain ⟨s1, s2, s3⟩ := hsz
        have hSB : Sl w B (.slice Ab gB.length cb) (bools gB) := ⟨Ab, cb, by rw [List.length_map], by rw [List.length_map]; exact hcb, HAB.out⟩
        have hSR : Sl w B (.slice Ar gR.length cr) (bools gR) := ⟨Ar, cr, by rw [List.length_map], by rw [List.length_map]; exact hcr, HAR.out⟩
        have hSD : Sl w B (.slice Ad gD.length cd) (bools gD) := ⟨Ad, cd, by rw [List.length_map], by rw [List.length_map]; exact hcd, HAD.out⟩
        rw [s1] at hSB hcb ⊢
        rw [s2] at hSR hcr ⊢
        rw [s3] at hSD hcd ⊢
        have hin1 : ∀ i, i < a * c → i % c ≠ c - 1 → i + 1 < a * c := fun i => next_in (by omega)
        have hin2 : ∀ i, i < a * c → i / c ≠ a - 1 → i + c < a * c := fun i => below_in (by omega)
        have hpos : 0 < a * c := Nat.mul_pos (by omega) (by omega)
        have hdv : ∀ i, i < a * c → i / c < a := fun i h => by rw [Nat.div_lt_iff_lt_mul (by omega)]; exact h
        have HI1 := Lib.hid hin1; have HI2 := Lib.hid hin2; have HDV := Lib.hid hdv
        have HSB := Lib.hid hSB; have HSR := Lib.hid hSR; have HSD := Lib.hid hSD
        have HMM : Hid (∀ i, i < a * c → badAt a c gB gR gD i = true → checkG ⟨a, c, gB, gR, gD⟩ = 52) := Lib.hid (fun i hi hbad => by
          rw [HCK0.out, if_pos]
          unfold barred
          exact List.any_eq_true.2 ⟨i, List.mem_range.2 (by simpa using hi), by simpa using hbad⟩)
        have HEN : Hid ((∀ i, i < a * c → badAt a c gB gR gD i = false) → checkG ⟨a, c, gB, gR, gD⟩ = 0) := Lib.hid (fun h => by
          rw [HCK0.out, if_neg]
          unfold barred
          rw [List.any_eq_true]
          rintro ⟨i, hi, hb⟩
          have hi' := List.mem_range.1 hi
          have := h i (by simpa using hi')
          simp only [Int.toNat_natCast] at hb
          rw [this] at hb
          cases hb)
        clear hin1 hin2 hSB hSR hSD hdv s1 s2 s3 HAB HAR HAD HCK0
        generalize a * c = m at *
        have c0 : ¬ (c : Int) = 0 := by omega
        have hw1 := World.alloc_heap_new w (.cells #[.int .i64 (a : Int), .int .i64 (c : Int), .slice Ab m cb, .slice Ar m cr, .slice Ad m cd] 24)
        have HW1 := Lib.hid hw1; clear hw1
        have hB1 := Lib.hid ((Below.refl w.heap.size w).alloc (Nat.le_refl _) (.cells #[.int .i64 (a : Int), .int .i64 (c : Int), .slice Ab m cb, .slice Ar m cr, .slice Ad m cd] 24))
        go_enter Try.func12, Try.ntmps12
        go_wp2_with (go_at_call 21; (first | with_reducible refine (CH.out _).mono ?_ | with_reducible refine (CW.out _).mono ?_); rintro e w' ⟨rfl, rfl⟩)
        generalize w.alloc (.cells #[.int .i64 (a : Int), .int .i64 (c : Int), .slice Ab m cb, .slice Ar m cr, .slice Ad m cd] 24) = w1 at *
        go_loopg [4, 5, 6, 7, 45] m (fun gf _ _ _ _ u45 wr => ∃ k : Nat, u45 = .int .i64 k ∧ k ≤ m ∧ m ≤ k + gf ∧ Hid (∃ q, wr = w1.drewN q) ∧ Hid (∀ i, i < k → badAt a c gB gR gD i = false))
        case atStart => exact ⟨0, rfl, Nat.zero_le _, by omega, Lib.hid ⟨0, rfl⟩, Lib.hid (fun i hi => by omega)⟩
        case round =>
          rename World => w5
          obtain ⟨k, rfl, hk, hfu, HQ, HNO⟩ := hrel
          have hbw : Hid (Below w.heap.size w w5) := by obtain ⟨q, rfl⟩ := HQ; exact Lib.hid (bdraw hB1.out q)
          by_cases hlt : k < m
          · obtain ⟨g', rfl⟩ : ∃ g', gk = g' + 1 := ⟨gk - 1, by omega⟩
            have hcx : ∀ j, w5.cell? ⟨w.heap.size, j, none⟩ = w1.cell? ⟨w.heap.size, j, none⟩ := by obtain ⟨q, rfl⟩ := HQ; intro j; rfl
            have p0 := (hcx 0).trans (Lib.cell_of_heap HW1.out 0)
            have p1 := (hcx 1).trans (Lib.cell_of_heap HW1.out 1)
            have p2 := (hcx 2).trans (Lib.cell_of_heap HW1.out 2)
            have p3 := (hcx 3).trans (Lib.cell_of_heap HW1.out 3)
            have p4 := (hcx 4).trans (Lib.cell_of_heap HW1.out 4)
            clear hcx
            obtain ⟨b1, o1, rfl, z1⟩ := ((HSB.out.below (hbw.out.mono hB))).boolsAt hpos
            obtain ⟨b2, o2, rfl, z2⟩ := ((HSR.out.below (hbw.out.mono hB))).boolsAt hpos
            obtain ⟨b3, o3, rfl, z3⟩ := ((HSD.out.below (hbw.out.mono hB))).boolsAt hpos
            have g1 := z1 k hlt; have g2 := z2 k hlt; have g3 := z3 k hlt
            have GX1 : Hid (decide (k % c = c - 1) = false → k + 1 < m ∧ w5.cell? ⟨b1, o1 + (k + 1), none⟩ = some (.bool (gB.getD (k + 1) false))) := Lib.hid (fun h => by
              have h2 := HI1.out k hlt (of_decide_eq_false h)
              exact ⟨h2, z1 _ h2⟩)
            have GX2 : Hid (decide (k / c = a - 1) = false → k + c < m ∧ w5.cell? ⟨b1, o1 + (k + c), none⟩ = some (.bool (gB.getD (k + c) false))) := Lib.hid (fun h => by
              have h2 := HI2.out k hlt (of_decide_eq_false h)
              exact ⟨h2, z1 _ h2⟩)
            have HBA : Hid (badAt a c gB gR gD k = ((gR.getD k false && (gB.getD k false || decide (k % c = c - 1) || gB.getD (k + 1) false)) || (gD.getD k false && (gB.getD k false || decide (k / c = a - 1) || gB.getD (k + c) false)))) := Lib.hid rfl
            have HCK := Lib.hid (HMM.out k hlt)
            have HNX : Hid (badAt a c gB gR gD k = false → Hid (∀ i, i < k + 1 → badAt a c gB gR gD i = false)) := Lib.hid (fun h => Lib.hid (fun i hi => by
              rcases Nat.lt_or_ge i k with h1 | h1
              · exact HNO.out i h1
              · obtain rfl : i = k := by omega
                exact h))
            have HQ2 : Hid (∀ n, Hid (∃ q, w5.drewN n = w1.drewN q)) := Lib.hid (fun n => by obtain ⟨q, hq⟩ := HQ; exact Lib.hid ⟨q + n, by rw [hq, World.drewN_drewN]⟩)
            have HQB : Hid (∀ n, Below w.heap.size w (w5.drewN n)) := Lib.hid (fun n => bdraw hbw.out n)
            have hml := Nat.mod_lt k (show 0 < c by omega)
            have hdl := HDV.out k hlt
            have k3 : (k : Int).tmod (c : Int) = ((k % c : Nat) : Int) := rfl
            have k4 : (k : Int).tdiv (c : Int) = ((k / c : Nat) : Int) := rfl
            have E1 : (((k % c : Nat) : Int) == (c : Int) - 1) = decide (k % c = c - 1) := by rw [Bool.eq_iff_iff, beq_iff_eq, decide_eq_true_eq]; omega
            have E2 : (((k / c : Nat) : Int) == (a : Int) - 1) = decide (k / c = a - 1) := by
              generalize k / c = q at *
              rw [Bool.eq_iff_iff, beq_iff_eq, decide_eq_true_eq]; omega
            clear z1 z2 z3 hbw HQ HNO
            have i1 : (0 : Int) ≤ (k : Int) := by omega
            have i2 : (k : Int) < (m : Int) := by omega
            have i3 : (0 : Int) ≤ (k : Int) + 1 := by omega
            have i4 : (0 : Int) ≤ (k : Int) + (c : Int) := by omega
            have i5 : ((k : Int) + 1).toNat = k + 1 := by omega
            have i6 : ((k : Int) + (c : Int)).toNat = k + c := by omega
            generalize decide (k % c = c - 1) = e1 at *
            generalize decide (k / c = a - 1) = e2 at *
            generalize gB.getD (k + 1) false = x1 at *
            generalize gB.getD (k + c) false = x2 at *
            generalize gB.getD k false = bb at *
            generalize gR.getD k false = rb at *
            generalize gD.getD k false = db at *
            generalize k % c = kr at *
            generalize k / c = kq at *
            cases rb with
            | true =>
              cases bb with
              | true =>
                have HBD := Lib.hid (HBA.out); simp only [Bool.and_true, Bool.true_and, Bool.and_false, Bool.false_and, Bool.or_true, Bool.true_or, Bool.or_false, Bool.false_or] at HBD; clear HBA
                go_wp2; go_quiet (fail); go_wp2
                go_ret
                exact ⟨ret_i (HCK.out HBD.out).symm, HQB.out _⟩
              | false =>
                cases e1 with
                | true =>
                  have HBD := Lib.hid (HBA.out); simp only [Bool.and_true, Bool.true_and, Bool.and_false, Bool.false_and, Bool.or_true, Bool.true_or, Bool.or_false, Bool.false_or] at HBD; clear HBA
                  go_wp2; go_quiet (fail); go_wp2
                  go_ret
                  exact ⟨ret_i (HCK.out HBD.out).symm, HQB.out _⟩
                | false =>
                  cases x1 with
                  | true =>
                    obtain ⟨r1, G1⟩ := GX1.out rfl; have r1' : (k : Int) + 1 < (m : Int) := by omega
                    have HBD := Lib.hid (HBA.out); simp only [Bool.and_true, Bool.true_and, Bool.and_false, Bool.false_and, Bool.or_true, Bool.true_or, Bool.or_false, Bool.false_or] at HBD; clear HBA
                    go_wp2; go_quiet (fail); go_wp2
                    go_ret
                    exact ⟨ret_i (HCK.out HBD.out).symm, HQB.out _⟩
                  | false =>
                    cases db with
                    | true =>
                      cases e2 with
                      | true =>
                        obtain ⟨r1, G1⟩ := GX1.out rfl; have r1' : (k : Int) + 1 < (m : Int) := by omega
                        have HBD := Lib.hid (HBA.out); simp only [Bool.and_true, Bool.true_and, Bool.and_false, Bool.false_and, Bool.or_true, Bool.true_or, Bool.or_false, Bool.false_or] at HBD; clear HBA
                        go_wp2; go_quiet (fail); go_wp2
                        go_ret
                        exact ⟨ret_i (HCK.out HBD.out).symm, HQB.out _⟩
                      | false =>
                        cases x2 with
                        | true =>
                          obtain ⟨r1, G1⟩ := GX1.out rfl; have r1' : (k : Int) + 1 < (m : Int) := by omega
                          obtain ⟨r2, G2⟩ := GX2.out rfl; have r2' : (k : Int) + (c : Int) < (m : Int) := by omega
                          have HBD := Lib.hid (HBA.out); simp only [Bool.and_true, Bool.true_and, Bool.and_false, Bool.false_and, Bool.or_true, Bool.true_or, Bool.or_false, Bool.false_or] at HBD; clear HBA
                          go_wp2; go_quiet (fail); go_wp2
                          go_ret
                          exact ⟨ret_i (HCK.out HBD.out).symm, HQB.out _⟩
                        | false =>
                          obtain ⟨r1, G1⟩ := GX1.out rfl; have r1' : (k : Int) + 1 < (m : Int) := by omega
                          obtain ⟨r2, G2⟩ := GX2.out rfl; have r2' : (k : Int) + (c : Int) < (m : Int) := by omega
                          have HBD := Lib.hid (HBA.out); simp only [Bool.and_true, Bool.true_and, Bool.and_false, Bool.false_and, Bool.or_true, Bool.true_or, Bool.or_false, Bool.false_or] at HBD; clear HBA
                          go_wp2; go_quiet (fail); go_wp2
                          go_roundg g'
                          case measure => omega
                          case rel => exact ⟨k + 1, by go_num, by omega, by omega, HQ2.out _, HNX.out HBD.out⟩
                    | false =>
                      obtain ⟨r1, G1⟩ := GX1.out rfl; have r1' : (k : Int) + 1 < (m : Int) := by omega
                      have HBD := Lib.hid (HBA.out); simp only [Bool.and_true, Bool.true_and, Bool.and_false, Bool.false_and, Bool.or_true, Bool.true_or, Bool.or_false, Bool.false_or] at HBD; clear HBA
                      go_wp2; go_quiet (fail); go_wp2
                      go_roundg g'
                      case measure => omega
                      case rel => exact ⟨k + 1, by go_num, by omega, by omega, HQ2.out _, HNX.out HBD.out⟩
            | false =>
              cases db with
              | true =>
                cases bb with
                | true =>
                  have HBD := Lib.hid (HBA.out); simp only [Bool.and_true, Bool.true_and, Bool.and_false, Bool.false_and, Bool.or_true, Bool.true_or, Bool.or_false, Bool.false_or] at HBD; clear HBA
                  go_wp2; go_quiet (fail); go_wp2
                  go_ret
                  exact ⟨ret_i (HCK.out HBD.out).symm, HQB.out _⟩
                | false =>
                  cases e2 with
                  | true =>
                    have HBD := Lib.hid (HBA.out); simp only [Bool.and_true, Bool.true_and, Bool.and_false, Bool.false_and, Bool.or_true, Bool.true_or, Bool.or_false, Bool.false_or] at HBD; clear HBA
                    go_wp2; go_quiet (fail); go_wp2
                    go_ret
                    exact ⟨ret_i (HCK.out HBD.out).symm, HQB.out _⟩
                  | false =>
                    cases x2 with
                    | true =>
                      obtain ⟨r2, G2⟩ := GX2.out rfl; have r2' : (k : Int) + (c : Int) < (m : Int) := by omega
                      have HBD := Lib.hid (HBA.out); simp only [Bool.and_true, Bool.true_and, Bool.and_false, Bool.false_and, Bool.or_true, Bool.true_or, Bool.or_false, Bool.false_or] at HBD; clear HBA
                      go_wp2; go_quiet (fail); go_wp2
                      go_ret
                      exact ⟨ret_i (HCK.out HBD.out).symm, HQB.out _⟩
                    | false =>
                      obtain ⟨r2, G2⟩ := GX2.out rfl; have r2' : (k : Int) + (c : Int) < (m : Int) := by omega
                      have HBD := Lib.hid (HBA.out); simp only [Bool.and_true, Bool.true_and, Bool.and_false, Bool.false_and, Bool.or_true, Bool.true_or, Bool.or_false, Bool.false_or] at HBD; clear HBA
                      go_wp2; go_quiet (fail); go_wp2
                      go_roundg g'
                      case measure => omega
                      case rel => exact ⟨k + 1, by go_num, by omega, by omega, HQ2.out _, HNX.out HBD.out⟩
              | false =>
                have HBD := Lib.hid (HBA.out); simp only [Bool.and_true, Bool.true_and, Bool.and_false, Bool.false_and, Bool.or_true, Bool.true_or, Bool.or_false, Bool.false_or] at HBD; clear HBA
                go_wp2; go_quiet (fail); go_wp2
                go_roundg g'
                case measure => omega
                case rel => exact ⟨k + 1, by go_num, by omega, by omega, HQ2.out _, HNX.out HBD.out⟩
          · obtain rfl : m = k := by omega
            have HE := Lib.hid (HEN.out HNO.out)
            go_wp2
            go_ret
            exact ⟨ret_i HE.out.symm, hbw.out⟩
      · have HE := Lib.hid (chk_size (g := ⟨a, c, gB, gR, gD⟩) h1 h2 (by simpa using hsz))
        clear h1 h2
        generalize a * c = m at *
        by_cases s1 : gB.length = m
        · by_cases s2 : gR.length = m
          · have s3 : ¬ gD.length = m := fun h => hsz ⟨s1, s2, h⟩
            have t1 : ((gB.length : Int) != (m : Int)) = false := by simp; omega
            have t2 : ((gR.length : Int) != (m : Int)) = false := by simp; omega
            have t3 : ((gD.length : Int) != (m : Int)) = true := by simp; omega
            clear hsz s1 s2 s3
            go_enter Try.func12, Try.ntmps12
            go_wp2_with (go_at_call 21; (first | with_reducible refine (CH.out _).mono ?_ | with_reducible refine (CW.out _).mono ?_); rintro e w' ⟨rfl, rfl⟩)
            go_ret
            exact ⟨ret_i HE.out.symm, (Below.refl _ w).alloc (Nat.le_refl _) _⟩
          · have t1 : ((gB.length : Int) != (m : Int)) = false := by simp; omega
            have t2 : ((gR.length : Int) != (m : Int)) = true := by simp; omega
            clear hsz s1 s2
            go_enter Try.func12, Try.ntmps12
            go_wp2_with (go_at_call 21; (first | with_reducible refine (CH.out _).mono ?_ | with_reducible refine (CW.out _).mono ?_); rintro e w' ⟨rfl, rfl⟩)
            go_ret
            exact ⟨ret_i HE.out.symm, (Below.refl _ w).alloc (Nat.le_refl _) _⟩
        · have t1 : ((gB.length : Int) != (m : Int)) = true := by simp; omega
          clear hsz s1
          go_enter Try.func12, Try.ntmps12
          go_wp2_with (go_at_call 21; (first | with_reducible refine (CH.out _).mono ?_ | with_reducible refine (CW.out _).mono ?_); rintro e w' ⟨rfl, rfl⟩)
          go_ret
          exact ⟨ret_i HE.out.symm, (Below.refl _ w).alloc (Nat.le_refl _) _⟩
end Go.Proofs.Ytonibpilbkafnaa
