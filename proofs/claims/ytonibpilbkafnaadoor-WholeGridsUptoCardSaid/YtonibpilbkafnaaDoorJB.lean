/- Joined texts: T1 T2 T3 T4 T5 T6 T7: walks and plain laws for this seat's program, each stated where it stands; conditions: as each states. -/
import Derived.Test.YtonibpilbkafnaaDoorJA
import Derived.BigQuiet
import Derived.Laws.OwnMore
import Derived.OneCell
import Derived.Maps.AppendAt
/- Package grid: side, Check of a grid in memory. -/
namespace Go.Proofs.YtonibpilbkafnaaDoor
set_option linter.unusedVariables false
set_option linter.unusedSimpArgs false
open Go.RowKit Go.Lib

abbrev bools (l : List Bool) : List Value := l.map Value.bool
/-- a grid's value in a world: its three slices lie below B -/
structure GdAt (w : World) (B : Nat) (v : Value) (g : Gd) : Prop where
  h0 : -9223372036854775808 ≤ g.H ∧ g.H ≤ 9223372036854775807
  w0 : -9223372036854775808 ≤ g.W ∧ g.W ≤ 9223372036854775807
  eq : ∃ b r d, v = .agg #[.int .i64 g.H, .int .i64 g.W, b, r, d] ∧ Sl w B b (bools g.B) ∧ Sl w B r (bools g.R) ∧ Sl w B d (bools g.D)

theorem Sl.boolsAt {w : World} {B : Nat} {A : Option Addr} {n c : Nat} {l : List Bool} (h : Sl w B (.slice A n c) (bools l)) (hn : 0 < n) : ∃ b off, A = some ⟨b, off, none⟩ ∧ ∀ i, i < n → w.cell? ⟨b, off + i, none⟩ = some (.bool (l.getD i false)) := by
  obtain ⟨A', c', hv, hc, hA⟩ := h
  injection hv with e1 e2 e3
  obtain ⟨ad, e, hB, hcell⟩ := hA (by omega)
  have h0 := hcell 0 _ (List.getElem?_eq_getElem (by omega))
  have hsp : ad.spot = none := by
    cases hs : ad.spot with
    | none => rfl
    | some k =>
      exfalso
      simp only [Addr.add, if_true, World.cell?] at h0
      rw [hs] at h0
      revert h0
      split <;> simp
  rw [List.length_map] at e2
  refine ⟨ad.block, ad.off, ?_, fun i hi => ?_⟩
  · rw [e1, e]; obtain ⟨b, o, s⟩ := ad; simp only at hsp; subst hsp; rfl
  · have hil : i < l.length := by omega
    have := hcell i (.bool (l.getD i false)) (by rw [List.getElem?_map, List.getElem?_eq_getElem hil, List.getD_eq_getElem?_getD, List.getElem?_eq_getElem hil]; rfl)
    obtain ⟨b, o, s⟩ := ad
    simp only at hsp
    subst hsp
    unfold Addr.add at this
    split at this <;> simp_all
def sideB (n : Int) : Bool := decide (1 ≤ n) && decide (n ≤ 16)
theorem next_in {i a c : Nat} (hc : 1 ≤ c) (h : i < a * c) (h1 : i % c ≠ c - 1) : i + 1 < a * c := by
  have e := Nat.div_add_mod i c
  have l := Nat.mod_lt i (show 0 < c by omega)
  have d : i / c < a := by rw [Nat.div_lt_iff_lt_mul (by omega)]; exact h
  have m : c * (i / c + 1) ≤ c * a := Nat.mul_le_mul (Nat.le_refl _) d
  rw [Nat.mul_add, Nat.mul_one, Nat.mul_comm c a] at m
  omega
theorem below_in {i a c : Nat} (hc : 1 ≤ c) (h : i < a * c) (h1 : i / c ≠ a - 1) : i + c < a * c := by
  have e := Nat.div_add_mod i c
  have l := Nat.mod_lt i (show 0 < c by omega)
  have d : i / c < a := by rw [Nat.div_lt_iff_lt_mul (by omega)]; exact h
  generalize i / c = q at *
  have m : c * (q + 2) ≤ c * a := Nat.mul_le_mul (Nat.le_refl _) (by omega)
  rw [Nat.mul_add, Nat.mul_comm c a] at m
  omega
theorem sideB_iff {n : Int} : sideB n = true ↔ 1 ≤ n ∧ n ≤ 16 := by unfold sideB; simp
theorem chk_side {g : Gd} (h : sideB g.H = false ∨ sideB g.W = false) : checkG g = 50 := by
  unfold checkG
  rw [if_pos]
  rintro ⟨a, b, c, d⟩
  rcases h with h | h
  · rw [sideB_iff.2 ⟨a, b⟩] at h; cases h
  · rw [sideB_iff.2 ⟨c, d⟩] at h; cases h
theorem chk_size {g : Gd} (h1 : sideB g.H = true) (h2 : sideB g.W = true) (h : ¬ (g.B.length = g.H.toNat * g.W.toNat ∧ g.R.length = g.H.toNat * g.W.toNat ∧ g.D.length = g.H.toNat * g.W.toNat)) : checkG g = 51 := by
  unfold checkG
  rw [if_neg (fun hn => hn ⟨(sideB_iff.1 h1).1, (sideB_iff.1 h1).2, (sideB_iff.1 h2).1, (sideB_iff.1 h2).2⟩), if_pos h]
theorem chk_bar {g : Gd} (h1 : sideB g.H = true) (h2 : sideB g.W = true) (h : g.B.length = g.H.toNat * g.W.toNat ∧ g.R.length = g.H.toNat * g.W.toNat ∧ g.D.length = g.H.toNat * g.W.toNat) : checkG g = if barred g then 52 else 0 := by
  unfold checkG
  rw [if_neg (fun hn => hn ⟨(sideB_iff.1 h1).1, (sideB_iff.1 h1).2, (sideB_iff.1 h2).1, (sideB_iff.1 h2).2⟩), if_neg (fun hn => hn h)]

theorem side_any (n : Int) (w : World) : Calls Tryd.prog 32 #[.int .i64 n] w fun e w' => e = .returned (.bool (sideB n)) ∧ w = w' := by
  go_enter Tryd.func32, Tryd.ntmps32
  by_cases h1 : 1 ≤ n
  · by_cases h2 : n ≤ 16
    · go_wp2
      go_ret
      exact ⟨by unfold sideB; simp [h1, h2], rfl⟩
    · go_wp2
      go_ret
      exact ⟨by unfold sideB; simp [h1, h2], rfl⟩
  · go_wp2
    go_ret
    have h9 : sideB n = false := by
      cases h : sideB n with
      | false => rfl
      | true => have := sideB_iff.1 h; omega
    rw [h9]
    exact ⟨rfl, rfl⟩

set_option maxHeartbeats 8000000 in
set_option maxRecDepth 100000 in
theorem Check_any (v : Value) (g : Gd) (B : Nat) (w : World) (h : GdAt w B v g) (hB : B ≤ w.heap.size) (hl : g.B.length ≤ 17592186044416 ∧ g.R.length ≤ 17592186044416 ∧ g.D.length ≤ 17592186044416) :
    Calls Tryd.prog 13 #[v] w fun e w' => e = .returned (.int .i64 (checkG g)) ∧ Below w.heap.size w w' := by
  obtain ⟨hh, hw, b, r, d, rfl, hb, hr, hd⟩ := h
  obtain ⟨H, W, gB, gR, gD⟩ := g
  simp only at hh hw hb hr hd hl
  obtain ⟨Ab, cb, rfl, hcb, hAb⟩ := hb
  obtain ⟨Ar, cr, rfl, hcr, hAr⟩ := hr
  obtain ⟨Ad, cd, rfl, hcd, hAd⟩ := hd
  rw [List.length_map] at hcb hcr hcd ⊢
  rw [List.length_map, List.length_map]
  have CS := Lib.hid side_any
  have HAB := Lib.hid hAb; have HAR := Lib.hid hAr; have HAD := Lib.hid hAd
  clear hAb hAr hAd
  cases h1 : sideB H with
  | false =>
    have CH := Lib.hid (fun W => side_any H W)
    rw [h1] at CH
    have HE := Lib.hid (chk_side (g := ⟨H, W, gB, gR, gD⟩) (.inl h1))
    clear h1
    go_enter Tryd.func13, Tryd.ntmps13
    go_wp2_with (go_at_call 32; refine (CH.out _).mono ?_; rintro e w' ⟨rfl, rfl⟩)
    go_ret
    exact ⟨ret_i HE.out.symm, (Below.refl _ w).alloc (Nat.le_refl _) _⟩
  | true =>
    cases h2 : sideB W with
    | false =>
      have CH := Lib.hid (fun w => side_any H w)
      have CW := Lib.hid (fun w => side_any W w)
      rw [h1] at CH
      rw [h2] at CW
      have HE := Lib.hid (chk_side (g := ⟨H, W, gB, gR, gD⟩) (.inr h2))
      have h3 : H ≠ W := by intro e; rw [e, h2] at h1; cases h1
      have H3 := Lib.hid h3
      clear h1 h2 h3
      go_enter Tryd.func13, Tryd.ntmps13
      go_wp2_with (go_at_call 32; (first | with_reducible refine (CH.out _).mono ?_ | with_reducible refine (CW.out _).mono ?_); rintro e w' ⟨rfl, rfl⟩)
      go_ret
      exact ⟨ret_i HE.out.symm, (Below.refl _ w).alloc (Nat.le_refl _) _⟩
    | true =>
      have hH := sideB_iff.1 h1
      have hW := sideB_iff.1 h2
      obtain ⟨a, rfl⟩ : ∃ a : Nat, H = (a : Int) := ⟨H.toNat, by omega⟩
      obtain ⟨c, rfl⟩ : ∃ c : Nat, W = (c : Int) := ⟨W.toNat, by omega⟩
      have CH := Lib.hid (fun w => side_any (a : Int) w)
      have CW := Lib.hid (fun w => side_any (c : Int) w)
      rw [h1] at CH
      rw [h2] at CW
      have hm : a * c ≤ 256 := Nat.mul_le_mul (show a ≤ 16 by omega) (show c ≤ 16 by omega)
      have kw : (a : Int) * (c : Int) = ((a * c : Nat) : Int) := by push_cast; rfl
      by_cases hsz : gB.length = a * c ∧ gR.length = a * c ∧ gD.length = a * c
      · have hck := chk_bar (g := ⟨a, c, gB, gR, gD⟩) h1 h2 (by simpa using hsz)
        have HCK0 := Lib.hid hck; clear hck h1 h2
        obtain ⟨s1, s2, s3⟩ := hsz
        have hSB : Sl w B (.slice Ab gB.length cb) (bools gB) := ⟨Ab, cb, by rw [List.length_map], by rw [List.length_map]; exact hcb, HAB.out⟩
        have hSR : Sl w B (.slice Ar gR.length cr) (bools gR) := ⟨Ar, cr, by rw [List.length_map], by rw [List.length_map]; exact hcr, HAR.out⟩
        have hSD : Sl w B (.slice Ad gD.length cd) (bools gD) := ⟨Ad, cd, by rw [List.length_map], by rw [List.length_map]; exact hcd, HAD.out⟩
        rw [s1] at hSB hcb ⊢
        rw [s2] at hSR hcr ⊢
        rw [s3] at hSD hcd ⊢
        have hin1 : ∀ i, i < a * c → i % c ≠ c - 1 → i + 1 < a * c := fun i => next_in (by omega)
        have hin2 : ∀ i, i < a * c → i / c ≠ a - 1 → i + c < a * c := fun i => below_in (by omega)
        have hpos : 0 < a * c := Nat.mul_pos (by omega) (by omega)
        have hdv : ∀ i, i < a * c → i / c < a := fun i h => by rw [Nat.div_lt_iff_lt_mul (by omega)]; exact h
        have HI1 := Lib.hid hin1; have HI2 := Lib.hid hin2; have HDV := Lib.hid hdv
        have HSB := Lib.hid hSB; have HSR := Lib.hid hSR; have HSD := Lib.hid hSD
        have HMM : Hid (∀ i, i < a * c → badAt a c gB gR gD i = true → checkG ⟨a, c, gB, gR, gD⟩ = 52) := Lib.hid (fun i hi hbad => by
          rw [HCK0.out, if_pos]
          unfold barred
          exact List.any_eq_true.2 ⟨i, List.mem_range.2 (by simpa using hi), by simpa using hbad⟩)
        have HEN : Hid ((∀ i, i < a * c → badAt a c gB gR gD i = false) → checkG ⟨a, c, gB, gR, gD⟩ = 0) := Lib.hid (fun h => by
          rw [HCK0.out, if_neg]
          unfold barred
          rw [List.any_eq_true]
          rintro ⟨i, hi, hb⟩
          have hi' := List.mem_range.1 hi
          have := h i (by simpa using hi')
          simp only [Int.toNat_natCast] at hb
          rw [this] at hb
          cases hb)
        clear hin1 hin2 hSB hSR hSD hdv s1 s2 s3 HAB HAR HAD HCK0
        generalize a * c = m at *
        have c0 : ¬ (c : Int) = 0 := by omega
        have hw1 := World.alloc_heap_new w (.cells #[.int .i64 (a : Int), .int .i64 (c : Int), .slice Ab m cb, .slice Ar m cr, .slice Ad m cd] 27)
        have HW1 := Lib.hid hw1; clear hw1
        have hB1 := Lib.hid ((Below.refl w.heap.size w).alloc (Nat.le_refl _) (.cells #[.int .i64 (a : Int), .int .i64 (c : Int), .slice Ab m cb, .slice Ar m cr, .slice Ad m cd] 27))
        go_enter Tryd.func13, Tryd.ntmps13
        go_wp2_with (go_at_call 32; (first | with_reducible refine (CH.out _).mono ?_ | with_reducible refine (CW.out _).mono ?_); rintro e w' ⟨rfl, rfl⟩)
        generalize w.alloc (.cells #[.int .i64 (a : Int), .int .i64 (c : Int), .slice Ab m cb, .slice Ar m cr, .slice Ad m cd] 27) = w1 at *
        go_loopg [4, 5, 6, 7, 45] m (fun gf _ _ _ _ u45 wr => ∃ k : Nat, u45 = .int .i64 k ∧ k ≤ m ∧ m ≤ k + gf ∧ Hid (∃ q, wr = w1.drewN q) ∧ Hid (∀ i, i < k → badAt a c gB gR gD i = false))
        case atStart => exact ⟨0, rfl, Nat.zero_le _, by omega, Lib.hid ⟨0, rfl⟩, Lib.hid (fun i hi => by omega)⟩
        case round =>
          rename World => w5
          obtain ⟨k, rfl, hk, hfu, HQ, HNO⟩ := hrel
          have hbw : Hid (Below w.heap.size w w5) := by obtain ⟨q, rfl⟩ := HQ; exact Lib.hid (bdraw hB1.out q)
          by_cases hlt : k < m
          · obtain ⟨g', rfl⟩ : ∃ g', gk = g' + 1 := ⟨gk - 1, by omega⟩
            have hcx : ∀ j, w5.cell? ⟨w.heap.size, j, none⟩ = w1.cell? ⟨w.heap.size, j, none⟩ := by obtain ⟨q, rfl⟩ := HQ; intro j; rfl
            have p0 := (hcx 0).trans (Lib.cell_of_heap HW1.out 0)
            have p1 := (hcx 1).trans (Lib.cell_of_heap HW1.out 1)
            have p2 := (hcx 2).trans (Lib.cell_of_heap HW1.out 2)
            have p3 := (hcx 3).trans (Lib.cell_of_heap HW1.out 3)
            have p4 := (hcx 4).trans (Lib.cell_of_heap HW1.out 4)
            clear hcx
            obtain ⟨b1, o1, rfl, z1⟩ := ((HSB.out.below (hbw.out.mono hB))).boolsAt hpos
            obtain ⟨b2, o2, rfl, z2⟩ := ((HSR.out.below (hbw.out.mono hB))).boolsAt hpos
            obtain ⟨b3, o3, rfl, z3⟩ := ((HSD.out.below (hbw.out.mono hB))).boolsAt hpos
            have g1 := z1 k hlt; have g2 := z2 k hlt; have g3 := z3 k hlt
            have GX1 : Hid (decide (k % c = c - 1) = false → k + 1 < m ∧ w5.cell? ⟨b1, o1 + (k + 1), none⟩ = some (.bool (gB.getD (k + 1) false))) := Lib.hid (fun h => by
              have h2 := HI1.out k hlt (of_decide_eq_false h)
              exact ⟨h2, z1 _ h2⟩)
            have GX2 : Hid (decide (k / c = a - 1) = false → k + c < m ∧ w5.cell? ⟨b1, o1 + (k + c), none⟩ = some (.bool (gB.getD (k + c) false))) := Lib.hid (fun h => by
              have h2 := HI2.out k hlt (of_decide_eq_false h)
              exact ⟨h2, z1 _ h2⟩)
            have HBA : Hid (badAt a c gB gR gD k = ((gR.getD k false && (gB.getD k false || decide (k % c = c - 1) || gB.getD (k + 1) false)) || (gD.getD k false && (gB.getD k false || decide (k / c = a - 1) || gB.getD (k + c) false)))) := Lib.hid rfl
            have HCK := Lib.hid (HMM.out k hlt)
            have HNX : Hid (badAt a c gB gR gD k = false → Hid (∀ i, i < k + 1 → badAt a c gB gR gD i = false)) := Lib.hid (fun h => Lib.hid (fun i hi => by
              rcases Nat.lt_or_ge i k with h1 | h1
              · exact HNO.out i h1
              · obtain rfl : i = k := by omega
                exact h))
            have HQ2 : Hid (∀ n, Hid (∃ q, w5.drewN n = w1.drewN q)) := Lib.hid (fun n => by obtain ⟨q, hq⟩ := HQ; exact Lib.hid ⟨q + n, by rw [hq, World.drewN_drewN]⟩)
            have HQB : Hid (∀ n, Below w.heap.size w (w5.drewN n)) := Lib.hid (fun n => bdraw hbw.out n)
            have hml := Nat.mod_lt k (show 0 < c by omega)
            have hdl := HDV.out k hlt
            have k3 : (k : Int).tmod (c : Int) = ((k % c : Nat) : Int) := rfl
            have k4 : (k : Int).tdiv (c : Int) = ((k / c : Nat) : Int) := rfl
            have E1 : (((k % c : Nat) : Int) == (c : Int) - 1) = decide (k % c = c - 1) := by rw [Bool.eq_iff_iff, beq_iff_eq, decide_eq_true_eq]; omega
            have E2 : (((k / c : Nat) : Int) == (a : Int) - 1) = decide (k / c = a - 1) := by
              generalize k / c = q at *
              rw [Bool.eq_iff_iff, beq_iff_eq, decide_eq_true_eq]; omega
            clear z1 z2 z3 hbw HQ HNO
            have i1 : (0 : Int) ≤ (k : Int) := by omega
            have i2 : (k : Int) < (m : Int) := by omega
            have i3 : (0 : Int) ≤ (k : Int) + 1 := by omega
            have i4 : (0 : Int) ≤ (k : Int) + (c : Int) := by omega
            have i5 : ((k : Int) + 1).toNat = k + 1 := by omega
            have i6 : ((k : Int) + (c : Int)).toNat = k + c := by omega
            generalize decide (k % c = c - 1) = e1 at *
            generalize decide (k / c = a - 1) = e2 at *
            generalize gB.getD (k + 1) false = x1 at *
            generalize gB.getD (k + c) false = x2 at *
            generalize gB.getD k false = bb at *
            generalize gR.getD k false = rb at *
            generalize gD.getD k false = db at *
            generalize k % c = kr at *
            generalize k / c = kq at *
            cases rb with
            | true =>
              cases bb with
              | true =>
                have HBD := Lib.hid (HBA.out); simp only [Bool.and_true, Bool.true_and, Bool.and_false, Bool.false_and, Bool.or_true, Bool.true_or, Bool.or_false, Bool.false_or] at HBD; clear HBA
                go_wp2; go_quiet (fail); go_wp2
                go_ret
                exact ⟨ret_i (HCK.out HBD.out).symm, HQB.out _⟩
              | false =>
                cases e1 with
                | true =>
                  have HBD := Lib.hid (HBA.out); simp only [Bool.and_true, Bool.true_and, Bool.and_false, Bool.false_and, Bool.or_true, Bool.true_or, Bool.or_false, Bool.false_or] at HBD; clear HBA
                  go_wp2; go_quiet (fail); go_wp2
                  go_ret
                  exact ⟨ret_i (HCK.out HBD.out).symm, HQB.out _⟩
                | false =>
                  cases x1 with
                  | true =>
                    obtain ⟨r1, G1⟩ := GX1.out rfl; have r1' : (k : Int) + 1 < (m : Int) := by omega
                    have HBD := Lib.hid (HBA.out); simp only [Bool.and_true, Bool.true_and, Bool.and_false, Bool.false_and, Bool.or_true, Bool.true_or, Bool.or_false, Bool.false_or] at HBD; clear HBA
                    go_wp2; go_quiet (fail); go_wp2
                    go_ret
                    exact ⟨ret_i (HCK.out HBD.out).symm, HQB.out _⟩
                  | false =>
                    cases db with
                    | true =>
                      cases e2 with
                      | true =>
                        obtain ⟨r1, G1⟩ := GX1.out rfl; have r1' : (k : Int) + 1 < (m : Int) := by omega
                        have HBD := Lib.hid (HBA.out); simp only [Bool.and_true, Bool.true_and, Bool.and_false, Bool.false_and, Bool.or_true, Bool.true_or, Bool.or_false, Bool.false_or] at HBD; clear HBA
                        go_wp2; go_quiet (fail); go_wp2
                        go_ret
                        exact ⟨ret_i (HCK.out HBD.out).symm, HQB.out _⟩
                      | false =>
                        cases x2 with
                        | true =>
                          obtain ⟨r1, G1⟩ := GX1.out rfl; have r1' : (k : Int) + 1 < (m : Int) := by omega
                          obtain ⟨r2, G2⟩ := GX2.out rfl; have r2' : (k : Int) + (c : Int) < (m : Int) := by omega
                          have HBD := Lib.hid (HBA.out); simp only [Bool.and_true, Bool.true_and, Bool.and_false, Bool.false_and, Bool.or_true, Bool.true_or, Bool.or_false, Bool.false_or] at HBD; clear HBA
                          go_wp2; go_quiet (fail); go_wp2
                          go_ret
                          exact ⟨ret_i (HCK.out HBD.out).symm, HQB.out _⟩
                        | false =>
                          obtain ⟨r1, G1⟩ := GX1.out rfl; have r1' : (k : Int) + 1 < (m : Int) := by omega
                          obtain ⟨r2, G2⟩ := GX2.out rfl; have r2' : (k : Int) + (c : Int) < (m : Int) := by omega
                          have HBD := Lib.hid (HBA.out); simp only [Bool.and_true, Bool.true_and, Bool.and_false, Bool.false_and, Bool.or_true, Bool.true_or, Bool.or_false, Bool.false_or] at HBD; clear HBA
                          go_wp2; go_quiet (fail); go_wp2
                          go_roundg g'
                          case measure => omega
                          case rel => exact ⟨k + 1, by go_num, by omega, by omega, HQ2.out _, HNX.out HBD.out⟩
                    | false =>
                      obtain ⟨r1, G1⟩ := GX1.out rfl; have r1' : (k : Int) + 1 < (m : Int) := by omega
                      have HBD := Lib.hid (HBA.out); simp only [Bool.and_true, Bool.true_and, Bool.and_false, Bool.false_and, Bool.or_true, Bool.true_or, Bool.or_false, Bool.false_or] at HBD; clear HBA
                      go_wp2; go_quiet (fail); go_wp2
                      go_roundg g'
                      case measure => omega
                      case rel => exact ⟨k + 1, by go_num, by omega, by omega, HQ2.out _, HNX.out HBD.out⟩
            | false =>
              cases db with
              | true =>
                cases bb with
                | true =>
                  have HBD := Lib.hid (HBA.out); simp only [Bool.and_true, Bool.true_and, Bool.and_false, Bool.false_and, Bool.or_true, Bool.true_or, Bool.or_false, Bool.false_or] at HBD; clear HBA
                  go_wp2; go_quiet (fail); go_wp2
                  go_ret
                  exact ⟨ret_i (HCK.out HBD.out).symm, HQB.out _⟩
                | false =>
                  cases e2 with
                  | true =>
                    have HBD := Lib.hid (HBA.out); simp only [Bool.and_true, Bool.true_and, Bool.and_false, Bool.false_and, Bool.or_true, Bool.true_or, Bool.or_false, Bool.false_or] at HBD; clear HBA
                    go_wp2; go_quiet (fail); go_wp2
                    go_ret
                    exact ⟨ret_i (HCK.out HBD.out).symm, HQB.out _⟩
                  | false =>
                    cases x2 with
                    | true =>
                      obtain ⟨r2, G2⟩ := GX2.out rfl; have r2' : (k : Int) + (c : Int) < (m : Int) := by omega
                      have HBD := Lib.hid (HBA.out); simp only [Bool.and_true, Bool.true_and, Bool.and_false, Bool.false_and, Bool.or_true, Bool.true_or, Bool.or_false, Bool.false_or] at HBD; clear HBA
                      go_wp2; go_quiet (fail); go_wp2
                      go_ret
                      exact ⟨ret_i (HCK.out HBD.out).symm, HQB.out _⟩
                    | false =>
                      obtain ⟨r2, G2⟩ := GX2.out rfl; have r2' : (k : Int) + (c : Int) < (m : Int) := by omega
                      have HBD := Lib.hid (HBA.out); simp only [Bool.and_true, Bool.true_and, Bool.and_false, Bool.false_and, Bool.or_true, Bool.true_or, Bool.or_false, Bool.false_or] at HBD; clear HBA
                      go_wp2; go_quiet (fail); go_wp2
                      go_roundg g'
                      case measure => omega
                      case rel => exact ⟨k + 1, by go_num, by omega, by omega, HQ2.out _, HNX.out HBD.out⟩
              | false =>
                have HBD := Lib.hid (HBA.out); simp only [Bool.and_true, Bool.true_and, Bool.and_false, Bool.false_and, Bool.or_true, Bool.true_or, Bool.or_false, Bool.false_or] at HBD; clear HBA
                go_wp2; go_quiet (fail); go_wp2
                go_roundg g'
                case measure => omega
                case rel => exact ⟨k + 1, by go_num, by omega, by omega, HQ2.out _, HNX.out HBD.out⟩
          · obtain rfl : m = k := by omega
            have HE := Lib.hid (HEN.out HNO.out)
            go_wp2
            go_ret
            exact ⟨ret_i HE.out.symm, hbw.out⟩
      · have HE := Lib.hid (chk_size (g := ⟨a, c, gB, gR, gD⟩) h1 h2 (by simpa using hsz))
        clear h1 h2
        generalize a * c = m at *
        by_cases s1 : gB.length = m
        · by_cases s2 : gR.length = m
          · have s3 : ¬ gD.length = m := fun h => hsz ⟨s1, s2, h⟩
            have t1 : ((gB.length : Int) != (m : Int)) = false := by simp; omega
            have t2 : ((gR.length : Int) != (m : Int)) = false := by simp; omega
            have t3 : ((gD.length : Int) != (m : Int)) = true := by simp; omega
            clear hsz s1 s2 s3
            go_enter Tryd.func13, Tryd.ntmps13
            go_wp2_with (go_at_call 32; (first | with_reducible refine (CH.out _).mono ?_ | with_reducible refine (CW.out _).mono ?_); rintro e w' ⟨rfl, rfl⟩)
            go_ret
            exact ⟨ret_i HE.out.symm, (Below.refl _ w).alloc (Nat.le_refl _) _⟩
          · have t1 : ((gB.length : Int) != (m : Int)) = false := by simp; omega
            have t2 : ((gR.length : Int) != (m : Int)) = true := by simp; omega
            clear hsz s1 s2
            go_enter Tryd.func13, Tryd.ntmps13
            go_wp2_with (go_at_call 32; (first | with_reducible refine (CH.out _).mono ?_ | with_reducible refine (CW.out _).mono ?_); rintro e w' ⟨rfl, rfl⟩)
            go_ret
            exact ⟨ret_i HE.out.symm, (Below.refl _ w).alloc (Nat.le_refl _) _⟩
        · have t1 : ((gB.length : Int) != (m : Int)) = true := by simp; omega
          clear hsz s1
          go_enter Tryd.func13, Tryd.ntmps13
          go_wp2_with (go_at_call 32; (first | with_reducible refine (CH.out _).mono ?_ | with_reducible refine (CW.out _).mono ?_); rintro e w' ⟨rfl, rfl⟩)
          go_ret
          exact ⟨ret_i HE.out.symm, (Below.refl _ w).alloc (Nat.le_refl _) _⟩
end Go.Proofs.YtonibpilbkafnaaDoor

/- The reference's Same: are two grids the same? -/
namespace Go.Proofs.YtonibpilbkafnaaDoor
set_option linter.unusedVariables false
set_option linter.unusedSimpArgs false
open Go.RowKit Go.Lib

theorem getD_eq {l : List Bool} {i : Nat} (h : i < l.length) : l.getD i false = l[i] := by rw [List.getD_eq_getElem?_getD, List.getElem?_eq_getElem h]; rfl
set_option maxHeartbeats 4000000 in
set_option maxRecDepth 100000 in
theorem sameBools_any (v u : Value) (xs ys : List Bool) (B : Nat) (w : World) (hv : Sl w B v (bools xs)) (hu : Sl w B u (bools ys)) (hx : xs.length ≤ 17592186044416) (hy : ys.length ≤ 17592186044416) :
    Calls Tryd.prog 26 #[v, u] w fun e w' => e = .returned (.bool (decide (xs = ys))) ∧ ∃ q, w' = w.drewN q := by
  have hv0 := hv; have hu0 := hu
  obtain ⟨A, c, rfl, hc, _⟩ := hv
  obtain ⟨A', c', rfl, hc', _⟩ := hu
  rw [List.length_map] at hv0 hc ⊢
  rw [List.length_map] at hu0 hc' ⊢
  by_cases hl : xs.length = ys.length
  · have H1 := Lib.hid hv0; have H2 := Lib.hid (hl ▸ hu0 : Sl w B (.slice A' xs.length c') (bools ys))
    have HL := Lib.hid hl
    rw [← hl]
    clear hv0 hu0 hl
    generalize hn : xs.length = n at *
    have HN := Lib.hid hn; clear hn
    go_enter Tryd.func26, Tryd.ntmps26
    go_wp2
    go_loopg [5] n (fun gf u5 wr => ∃ k : Nat, u5 = .int .i64 k ∧ k ≤ n ∧ n ≤ k + gf ∧ Hid (∃ q, wr = w.drewN q) ∧ Hid (∀ i, i < k → xs.getD i false = ys.getD i false))
    case atStart => exact ⟨0, rfl, Nat.zero_le _, by omega, Lib.hid ⟨0, rfl⟩, Lib.hid (fun i hi => by omega)⟩
    case round =>
      rename World => w5
      obtain ⟨k, rfl, hk, hfu, HQ, HE⟩ := hrel
      by_cases hlt : k < n
      · obtain ⟨g', rfl⟩ : ∃ g', gk = g' + 1 := ⟨gk - 1, by omega⟩
        have h1 : Sl w5 B (.slice A n c) (bools xs) := by obtain ⟨q, rfl⟩ := HQ; exact H1.out
        have h2 : Sl w5 B (.slice A' n c') (bools ys) := by obtain ⟨q, rfl⟩ := HQ; exact H2.out
        obtain ⟨b1, o1, rfl, z1⟩ := h1.boolsAt (by omega)
        obtain ⟨b2, o2, rfl, z2⟩ := h2.boolsAt (by omega)
        have g1 := z1 k hlt; have g2 := z2 k hlt
        clear z1 z2 h1 h2
        have HQ2 : Hid (∀ n, Hid (∃ q, w5.drewN n = w.drewN q)) := Lib.hid (fun n => by obtain ⟨q, hq⟩ := HQ; exact Lib.hid ⟨q + n, by rw [hq, World.drewN_drewN]⟩)
        have HNX : Hid (xs.getD k false = ys.getD k false → Hid (∀ i, i < k + 1 → xs.getD i false = ys.getD i false)) := Lib.hid (fun h => Lib.hid (fun i hi => by
          rcases Nat.lt_or_ge i k with h1 | h1
          · exact HE.out i h1
          · obtain rfl : i = k := by omega
            exact h))
        have HNE : Hid (xs.getD k false ≠ ys.getD k false → decide (xs = ys) = false) := Lib.hid (fun h => decide_eq_false (fun e => h (by rw [e])))
        clear HQ HE
        have i1 : (0 : Int) ≤ (k : Int) := by omega
        have i2 : (k : Int) < (n : Int) := by omega
        generalize xs.getD k false = x at *
        generalize ys.getD k false = y at *
        have HG1 := Lib.hid g1
        cases x <;> cases y
        · go_wp2; go_quiet (fail); go_wp2
          go_roundg g'
          case measure => omega
          case rel => exact ⟨k + 1, by go_num, by omega, by omega, HQ2.out _, HNX.out trivial⟩
        · have HF := Lib.hid (HNE.out (by decide))
          go_wp2; go_quiet (fail); go_wp2
          go_ret
          exact ⟨ret_b HF.out.symm, HQ2.out _⟩
        · have HF := Lib.hid (HNE.out (by decide))
          go_wp2; go_quiet (fail); go_wp2
          go_ret
          exact ⟨ret_b HF.out.symm, HQ2.out _⟩
        · go_wp2; go_quiet (fail); go_wp2
          go_roundg g'
          case measure => omega
          case rel => exact ⟨k + 1, by go_num, by omega, by omega, HQ2.out _, HNX.out trivial⟩
      · obtain rfl : n = k := by omega
        have HF : Hid (decide (xs = ys) = true) := Lib.hid (decide_eq_true (by
          refine List.ext_getElem (HN.out.trans HL.out) fun i h1 h2 => ?_
          rw [← getD_eq h1, ← getD_eq h2]
          exact HE.out i (by have := HN.out; omega)))
        go_wp2
        go_ret
        exact ⟨ret_b HF.out.symm, HQ⟩
  · have HF : Hid (decide (xs = ys) = false) := Lib.hid (decide_eq_false (fun e => hl (by rw [e])))
    have t1 : ((xs.length : Int) != (ys.length : Int)) = true := by simp; omega
    clear hv0 hu0 hl
    go_enter Tryd.func26, Tryd.ntmps26
    go_wp2
    go_ret
    exact ⟨ret_b HF.out.symm, 0, rfl⟩

theorem GdAt.below {w w' : World} {B : Nat} {v : Value} {g : Gd} (h : GdAt w B v g) (hb : Below B w w') : GdAt w' B v g := by
  obtain ⟨b, r, d, e, h1, h2, h3⟩ := h.eq
  exact ⟨h.h0, h.w0, b, r, d, e, h1.below hb, h2.below hb, h3.below hb⟩
theorem gd_eq {g h : Gd} : g = h ↔ g.H = h.H ∧ g.W = h.W ∧ g.B = h.B ∧ g.R = h.R ∧ g.D = h.D := by
  obtain ⟨a, b, c, d, e⟩ := g
  obtain ⟨a', b', c', d', e'⟩ := h
  simp

set_option maxHeartbeats 4000000 in
set_option maxRecDepth 100000 in
theorem Same_any (v u : Value) (g h : Gd) (B : Nat) (w : World) (hg : GdAt w B v g) (hh : GdAt w B u h) (hB : B ≤ w.heap.size)
    (lg : g.B.length ≤ 17592186044416 ∧ g.R.length ≤ 17592186044416 ∧ g.D.length ≤ 17592186044416) (lh : h.B.length ≤ 17592186044416 ∧ h.R.length ≤ 17592186044416 ∧ h.D.length ≤ 17592186044416) :
    Calls Tryd.prog 8 #[v, u] w fun e w' => e = .returned (.bool (decide (g = h))) ∧ Below w.heap.size w w' := by
  obtain ⟨b, r, d, rfl, h1, h2, h3⟩ := hg.eq
  obtain ⟨b', r', d', rfl, k1, k2, k3⟩ := hh.eq
  clear hg hh
  have C1 := Lib.hid (fun (W : World) (hb : Below B w W) => sameBools_any b b' g.B h.B B W (h1.below hb) (k1.below hb) lg.1 lh.1)
  have C2 := Lib.hid (fun (W : World) (hb : Below B w W) => sameBools_any r r' g.R h.R B W (h2.below hb) (k2.below hb) lg.2.1 lh.2.1)
  have C3 := Lib.hid (fun (W : World) (hb : Below B w W) => sameBools_any d d' g.D h.D B W (h3.below hb) (k3.below hb) lg.2.2 lh.2.2)
  have HD : Hid (decide (g = h) = (decide (g.H = h.H) && decide (g.W = h.W) && decide (g.B = h.B) && decide (g.R = h.R) && decide (g.D = h.D))) := Lib.hid (by
    rw [Bool.eq_iff_iff]
    simp only [Bool.and_eq_true, decide_eq_true_eq, gd_eq, and_assoc])
  obtain ⟨A1, c1, e1, _, _⟩ := h1
  obtain ⟨A2, c2, e2, _, _⟩ := h2
  obtain ⟨A3, c3, e3, _, _⟩ := h3
  obtain ⟨A4, c4, e4, _, _⟩ := k1
  obtain ⟨A5, c5, e5, _, _⟩ := k2
  obtain ⟨A6, c6, e6, _, _⟩ := k3
  subst e1; subst e2; subst e3; subst e4; subst e5; subst e6
  generalize decide (g.B = h.B) = x1 at *
  generalize decide (g.R = h.R) = x2 at *
  generalize decide (g.D = h.D) = x3 at *
  clear lg lh
  obtain ⟨gH, gW, gB, gR, gD⟩ := g
  obtain ⟨hH, hW, hB', hR, hD⟩ := h
  simp only [List.length_map] at *
  have hbZ := Lib.hid (((Below.refl w.heap.size w).alloc (Nat.le_refl _) (.cells #[.int .i64 gH, .int .i64 gW, .slice A1 gB.length c1, .slice A2 gR.length c2, .slice A3 gD.length c3] 27)).alloc (by simp) (.cells #[.int .i64 hH, .int .i64 hW, .slice A4 hB'.length c4, .slice A5 hR.length c5, .slice A6 hD.length c6] 27))
  have hbA := hbZ.out.mono hB
  by_cases e1 : gH = hH
  · by_cases e2 : gW = hW
    · have t1 : (gH == hH) = true := by simpa using e1
      have t2 : (gW == hW) = true := by simpa using e2
      rw [decide_eq_true e1, decide_eq_true e2] at HD
      clear e1 e2
      cases x1 <;> cases x2
      · go_enter Tryd.func8, Tryd.ntmps8
        go_wp2_with (go_at_call 26; (first | with_reducible refine (C1.out _ (by assumption)).mono ?_ | with_reducible refine (C2.out _ (by assumption)).mono ?_ | with_reducible refine (C3.out _ (by assumption)).mono ?_); rintro e w' ⟨rfl, q, rfl⟩; have hbA := bdraw hbA q; have hbZ := Lib.hid (bdraw hbZ.out q); (try rw [World.drewN_drewN] at hbA hbZ))
        go_ret
        exact ⟨ret_b HD.out.symm, hbZ.out⟩
      · go_enter Tryd.func8, Tryd.ntmps8
        go_wp2_with (go_at_call 26; (first | with_reducible refine (C1.out _ (by assumption)).mono ?_ | with_reducible refine (C2.out _ (by assumption)).mono ?_ | with_reducible refine (C3.out _ (by assumption)).mono ?_); rintro e w' ⟨rfl, q, rfl⟩; have hbA := bdraw hbA q; have hbZ := Lib.hid (bdraw hbZ.out q); (try rw [World.drewN_drewN] at hbA hbZ))
        go_ret
        exact ⟨ret_b HD.out.symm, hbZ.out⟩
      · go_enter Tryd.func8, Tryd.ntmps8
        go_wp2_with (go_at_call 26; (first | with_reducible refine (C1.out _ (by assumption)).mono ?_ | with_reducible refine (C2.out _ (by assumption)).mono ?_ | with_reducible refine (C3.out _ (by assumption)).mono ?_); rintro e w' ⟨rfl, q, rfl⟩; have hbA := bdraw hbA q; have hbZ := Lib.hid (bdraw hbZ.out q); (try rw [World.drewN_drewN] at hbA hbZ))
        go_ret
        exact ⟨ret_b HD.out.symm, hbZ.out⟩
      · go_enter Tryd.func8, Tryd.ntmps8
        go_wp2_with (go_at_call 26; (first | with_reducible refine (C1.out _ (by assumption)).mono ?_ | with_reducible refine (C2.out _ (by assumption)).mono ?_ | with_reducible refine (C3.out _ (by assumption)).mono ?_); rintro e w' ⟨rfl, q, rfl⟩; have hbA := bdraw hbA q; have hbZ := Lib.hid (bdraw hbZ.out q); (try rw [World.drewN_drewN] at hbA hbZ))
        go_ret
        exact ⟨ret_b HD.out.symm, hbZ.out⟩
    · have t1 : (gH == hH) = true := by simpa using e1
      have t2 : (gW == hW) = false := by simpa using e2
      rw [decide_eq_true e1, decide_eq_false e2] at HD
      clear e1 e2
      go_enter Tryd.func8, Tryd.ntmps8
      go_wp2_with (go_at_call 26; (first | with_reducible refine (C1.out _ (by assumption)).mono ?_ | with_reducible refine (C2.out _ (by assumption)).mono ?_ | with_reducible refine (C3.out _ (by assumption)).mono ?_); rintro e w' ⟨rfl, q, rfl⟩; have hbA := bdraw hbA q; have hbZ := Lib.hid (bdraw hbZ.out q); (try rw [World.drewN_drewN] at hbA hbZ))
      go_ret
      exact ⟨ret_b HD.out.symm, hbZ.out⟩
  · have t1 : (gH == hH) = false := by simpa using e1
    rw [decide_eq_false e1] at HD
    clear e1
    go_enter Tryd.func8, Tryd.ntmps8
    go_wp2_with (go_at_call 26; (first | with_reducible refine (C1.out _ (by assumption)).mono ?_ | with_reducible refine (C2.out _ (by assumption)).mono ?_ | with_reducible refine (C3.out _ (by assumption)).mono ?_); rintro e w' ⟨rfl, q, rfl⟩; have hbA := bdraw hbA q; have hbZ := Lib.hid (bdraw hbZ.out q); (try rw [World.drewN_drewN] at hbA hbZ))
    go_ret
    exact ⟨ret_b HD.out.symm, hbZ.out⟩
end Go.Proofs.YtonibpilbkafnaaDoor

/- The reference's barred. -/
namespace Go.Proofs.YtonibpilbkafnaaDoor
set_option linter.unusedVariables false
set_option linter.unusedSimpArgs false
open Go.RowKit Go.Lib

end Go.Proofs.YtonibpilbkafnaaDoor

/- The reference's Check of a grid. -/
namespace Go.Proofs.YtonibpilbkafnaaDoor
set_option linter.unusedVariables false
set_option linter.unusedSimpArgs false
open Go.RowKit Go.Lib

theorem refSide_any (n : Int) (w : World) : Calls Tryd.prog 34 #[.int .i64 n] w fun e w' => e = .returned (.bool (sideB n)) ∧ w = w' := by
  go_enter Tryd.func34, Tryd.ntmps34
  by_cases h1 : 1 ≤ n
  · by_cases h2 : n ≤ 16
    · go_wp2
      go_ret
      exact ⟨by unfold sideB; simp [h1, h2], rfl⟩
    · go_wp2
      go_ret
      exact ⟨by unfold sideB; simp [h1, h2], rfl⟩
  · go_wp2
    go_ret
    have h9 : sideB n = false := by
      cases h : sideB n with
      | false => rfl
      | true => have := sideB_iff.1 h; omega
    rw [h9]
    exact ⟨rfl, rfl⟩


end Go.Proofs.YtonibpilbkafnaaDoor

/- The reader of a sketch: row. -/
namespace Go.Proofs.YtonibpilbkafnaaDoor
set_option linter.unusedVariables false
set_option linter.unusedSimpArgs false
open Go.RowKit Go.Lib

/-- a reader's block -/
def RdBlk (p : Nat) (h w c : Nat) (b r d : Value) (W : World) : Prop := W.heap[p]? = some (.cells #[.int .i64 (h : Int), .int .i64 (w : Int), b, r, d, .int .i64 (c : Int)] 56 (0, 0))
/-- what row does -/
inductive RowPost (p h w c : Nat) (W : World) : Ending → World → Prop
  | none (h0 : c = 0) : RowPost p h w c W (.returned (.bool true)) W
  | bad (q : Nat) (h0 : c ≠ 0) (h1 : 0 < h) (h2 : c ≠ w) : RowPost p h w c W (.returned (.bool false)) (W.drewN q)
  | good (q : Nat) (h0 : c ≠ 0) (h1 : ¬ (0 < h ∧ c ≠ w)) : RowPost p h w c W (.returned (.bool true)) ((((W.drewN q).setCell ⟨p, 0, none⟩ (.int .i64 ((h : Int) + 1))).setCell ⟨p, 1, none⟩ (.int .i64 (c : Int))).setCell ⟨p, 5, none⟩ (.int .i64 0))
set_option maxHeartbeats 4000000 in
set_option maxRecDepth 100000 in
theorem row_any (p h w c : Nat) (b r d : Value) (W : World) (hp : RdBlk p h w c b r d W) (hh : h ≤ 16) (hw : w ≤ 16) (hc : c ≤ 16) :
    Calls Tryd.prog 21 #[.pointer (some ⟨p, 0, none⟩)] W (RowPost p h w c W) := by
  have p0 := Lib.cell_of_heap hp 0
  have p1 := Lib.cell_of_heap hp 1
  have p5 := Lib.cell_of_heap hp 5
  have f0 := Lib.frozen_of_heap hp 0
  have f1 := Lib.frozen_of_heap hp 1
  have f5 := Lib.frozen_of_heap hp 5
  clear hp
  by_cases h0 : c = 0
  · subst h0
    go_enter Tryd.func21, Tryd.ntmps21
    go_wp2
    go_ret
    exact .none rfl
  · have t0 : ((c : Int) == 0) = false := by simp; omega
    have t0' : ¬ (c : Int) = 0 := by omega
    have H0 := Lib.hid h0; clear h0
    by_cases h1 : 0 < h
    · have t1 : decide (0 < h) = true := decide_eq_true h1
      have t1' : (0 : Int) < (h : Int) := by omega
      have H1 := Lib.hid h1; clear h1
      by_cases h2 : c = w
      · subst h2
        have t2 : ((c : Int) != (c : Int)) = false := by simp
        have t2' : decide ((c : Int) = (c : Int)) = true := by simp
        go_enter Tryd.func21, Tryd.ntmps21
        go_wp2
        go_quiet (fail)
        go_wp2
        go_ret
        exact .good _ H0.out (fun h => h.2 rfl)
      · have t2 : ((c : Int) != (w : Int)) = true := by simp; omega
        have H2 := Lib.hid h2; clear h2
        go_enter Tryd.func21, Tryd.ntmps21
        go_wp2
        go_quiet (fail)
        go_wp2
        go_ret
        exact .bad _ H0.out H1.out H2.out
    · obtain rfl : h = 0 := by omega
      have H1 := Lib.hid h1; clear h1
      go_enter Tryd.func21, Tryd.ntmps21
      go_wp2
      go_quiet (fail)
      go_wp2
      go_ret
      exact .good _ H0.out (fun h => H1.out h.1)
end Go.Proofs.YtonibpilbkafnaaDoor

/- The reader of a sketch in memory: put. -/
namespace Go.Proofs.YtonibpilbkafnaaDoor
set_option linter.unusedVariables false
set_option linter.unusedSimpArgs false
open Go.RowKit Go.Lib

/-- two slices of ours that share no block -/
def Apart (a b : Value) : Prop := ∀ j, a.ownBlock = some j → b.ownBlock ≠ some j
theorem Apart.symm {a b : Value} (h : Apart a b) : Apart b a := fun j hj h2 => h j h2 hj
theorem own_apart {w w' : World} {B e n : Nat} {a b : Value} {xs : List Value} (hb : w.ownsRow B e 1 b n xs) (hg : w.grownBy w' a.ownBlock) (h : Apart a b) : w'.ownsRow B e 1 b n xs :=
  hb.kept hg (by
    cases hx : b.ownBlock with
    | none => exact .inl rfl
    | some j => exact .inr (fun h2 => h j h2.symm hx))
theorem apart_new {w : World} {B e n N : Nat} {a a' b : Value} {xs : List Value} (hb : w.ownsRow B e 1 b n xs) (hN : w.heap.size ≤ N) (hat : a'.ownBlock = a.ownBlock ∨ a'.ownBlock = some N) (h : Apart a b) : Apart a' b := by
  intro j hj h2
  rcases hat with h3 | h3
  · exact h j (h3 ▸ hj) h2
  · have := (hb.lt j h2).2
    rw [h3] at hj
    injection hj with hj
    omega
theorem own_below6 {w w' : World} {B e n : Nat} {v : Value} {xs : List Value} (h : w.ownsRow B e 1 v n xs) (hb : Below w.heap.size w w') : w'.ownsRow B e 1 v n xs :=
  h.kept (row := none) ⟨hb.os, hb.tape, hb.output, hb.size, fun k hk _ => hb.block k hk⟩ (by
    rcases Classical.em (v.ownBlock = none) with h1 | h1
    · exact .inl h1
    · exact .inr h1)
theorem own_form6 {w : World} {B e : Nat} {v : Value} {n : Nat} {xs : List Value} (h : w.ownsRow B e 1 v n xs) : ∃ A c, v = .slice A n c := by
  rcases h.2 with ⟨hv, h0⟩ | ⟨g, cap, cur, hv, _⟩
  · exact ⟨none, 0, by rw [hv, h0]⟩
  · exact ⟨_, _, hv⟩
theorem infoBool : (Tryd.prog.info? 4).map (fun i => (i.zero, i.size, i.bytes)) = some (some (.bool false), 1, 1) := by kernel_rfl

/-- what has been read stays small -/
structure RdOk (s : Rd) : Prop where
  h : s.h ≤ 16
  w : s.w ≤ 16
  c : s.c ≤ 16
  b : s.B.length = s.h * s.w + s.c ∨ (s.h = 0 ∧ s.B.length = s.c)
  r : s.R.length = s.B.length
  d : s.D.length = s.B.length
  g : s.c ≠ 0 → s.h < 16
theorem RdOk.small {s : Rd} (k : RdOk s) : s.B.length ≤ 272 := by
  have h1 := k.h; have h2 := k.w; have h3 := k.c
  have := Nat.mul_le_mul h1 h2
  rcases k.b with h | h <;> omega
theorem RdOk.put {s : Rd} (k : RdOk s) (hc : ¬ (s.c = 16 ∨ s.h = 16)) (b : Bool) : RdOk { s with c := s.c + 1, B := s.B ++ [b], R := s.R ++ [false], D := s.D ++ [false] } := by
  have h1 := k.h; have h2 := k.w; have h3 := k.c; have h4 := k.r; have h5 := k.d
  refine ⟨h1, h2, by show s.c + 1 ≤ 16; omega, ?_, by simp [h4], by simp [h5], fun _ => by show s.h < 16; omega⟩
  simp only [List.length_append, List.length_singleton]
  rcases k.b with h | h
  · exact .inl (by omega)
  · exact .inr (by omega)
/-- a reader in memory: its block p, its three rows behind it -/
structure RdAt (p : Nat) (s : Rd) (W : World) (b r d : Value) : Prop where
  blk : RdBlk p s.h s.w s.c b r d W
  oB : W.ownsRow (p + 1) 4 1 b s.B.length (bools s.B)
  oR : W.ownsRow (p + 1) 4 1 r s.R.length (bools s.R)
  oD : W.ownsRow (p + 1) 4 1 d s.D.length (bools s.D)
  br : Apart b r
  bd : Apart b d
  rd : Apart r d
theorem RdAt.lt {p : Nat} {s : Rd} {W : World} {b r d : Value} (h : RdAt p s W b r d) : p < W.heap.size := (Array.getElem?_eq_some_iff.1 h.blk).1
theorem RdAt.draw {p : Nat} {s : Rd} {W : World} {b r d : Value} (h : RdAt p s W b r d) (q : Nat) : RdAt p s (W.drewN q) b r d := ⟨h.blk, h.oB, h.oR, h.oD, h.br, h.bd, h.rd⟩
theorem RdAt.f {p : Nat} {s : Rd} {W : World} {b r d : Value} (h : RdAt p s W b r d) (f : Nat) : RdAt p { s with f := f } W b r d := ⟨h.blk, h.oB, h.oR, h.oD, h.br, h.bd, h.rd⟩
theorem RdAt.below {p : Nat} {s : Rd} {W W' : World} {b r d : Value} (h : RdAt p s W b r d) (hb : Below W.heap.size W W') : RdAt p s W' b r d :=
  ⟨(hb.block p h.lt).trans h.blk, own_below6 h.oB hb, own_below6 h.oR hb, own_below6 h.oD hb, h.br, h.bd, h.rd⟩

theorem row_step {p e : Nat} {Wa w1 : World} {cs : Array Value} {T : TypeId} {v : Value} {n : Nat} {xs : List Value} {o : Obj} (hblk : Wa.heap[p]? = some (.cells cs T (0, 0))) (hown : Wa.ownsRow (p + 1) e 1 v n xs) (hg : (Wa.alloc o).grownBy w1 v.ownBlock) :
    w1.heap[p]? = some (.cells cs T (0, 0)) ∧ Below p Wa w1 := by
  have hp := (Array.getElem?_eq_some_iff.1 hblk).1
  refine ⟨(hg.block p (by simp; omega) (fun e => by have := (hown.lt p e.symm).1; omega)).trans ((Below.heap_alloc Wa o p hp).trans hblk), ?_⟩
  exact ((Below.refl p Wa).alloc (by omega) o).grown hg (by simp; omega) (fun j hj => by have := (hown.lt j hj).1; omega)
theorem news_at {W : World} {b : Addr} {u x : Value} {t : TypeId} : ∀ j v, [x][j]? = some v → ((W.setCell b u).alloc (.cells #[x] t)).cell? ((⟨W.heap.size, 0, none⟩ : Addr).add j) = some v := by
  intro j v hj
  have h := cell_one_new (W.setCell b u) x t j v hj
  rw [World.size_setCell] at h
  exact h
/-- what put answers -/
inductive PutPost (p : Nat) (s : Rd) (x : Bool) (W : World) : Ending → World → Prop
  | full (h : s.c = 16 ∨ s.h = 16) : PutPost p s x W (.returned (.bool false)) W
  | good (b r d : Value) (W' : World) (h : ¬ (s.c = 16 ∨ s.h = 16)) (hr : RdAt p { s with c := s.c + 1, B := s.B ++ [x], R := s.R ++ [false], D := s.D ++ [false] } W' b r d) (hb : Below p W W') : PutPost p s x W (.returned (.bool true)) W'

set_option maxHeartbeats 8000000 in
set_option maxRecDepth 100000 in
theorem put_any (p : Nat) (s : Rd) (x : Bool) (b r d : Value) (W : World) (hR : RdAt p s W b r d) (hk : RdOk s) :
    Calls Tryd.prog 19 #[.pointer (some ⟨p, 0, none⟩), .bool x] W (PutPost p s x W) := by
  obtain ⟨i0, hi, hz0, hz1, hz2⟩ := info_parts infoBool
  have hsm := hk.small
  have h4 := hk.r; have h5 := hk.d
  have kh := hk.h; have kc := hk.c
  obtain ⟨h, w, c, B, R, D, f⟩ := s
  simp only at hsm h4 h5 kh kc
  have hp := hR.lt
  obtain ⟨Ab, cb, rfl⟩ := own_form6 hR.oB
  obtain ⟨Ar, cr, rfl⟩ := own_form6 hR.oR
  obtain ⟨Ad, cd, rfl⟩ := own_form6 hR.oD
  have p0 := Lib.cell_of_heap hR.blk 0
  have p1 := Lib.cell_of_heap hR.blk 5
  have f1 := Lib.frozen_of_heap hR.blk 5
  have HR := Lib.hid hR
  have H4 := Lib.hid h4; have H5 := Lib.hid h5
  have l4 : R.length ≤ 272 := by omega
  have l5 : D.length ≤ 272 := by omega
  clear hR hk h4 h5
  by_cases h16 : c = 16
  · have t1 : ((c : Int) == 16) = true := by rw [beq_iff_eq]; omega
    have HC := Lib.hid h16; clear h16
    go_enter Tryd.func19, Tryd.ntmps19
    go_wp2
    go_ret
    exact .full (.inl HC.out)
  · have t1 : ((c : Int) == 16) = false := by simp; omega
    by_cases g16 : h = 16
    · have t2 : ((h : Int) == 16) = true := by rw [beq_iff_eq]; omega
      have HC := Lib.hid g16; have HC2 := Lib.hid h16; clear h16 g16
      go_enter Tryd.func19, Tryd.ntmps19
      go_wp2
      go_ret
      exact .full (.inr HC.out)
    · have t2 : ((h : Int) == 16) = false := by simp; omega
      have HC := Lib.hid g16; have HC2 := Lib.hid h16; clear h16 g16
      have q0 : (W.setCell ⟨p, 5, none⟩ (.int .i64 ((c : Int) + 1))).heap[p]? = some (.cells #[.int .i64 (h : Int), .int .i64 (w : Int), .slice Ab B.length cb, .slice Ar R.length cr, .slice Ad D.length cd, .int .i64 ((c : Int) + 1)] 56 (0, 0)) := heap_setCell_same W p 5 _ _ _ HR.out.blk
      have p2 := Lib.cell_of_heap HR.out.blk 2
      have oB : (W.setCell ⟨p, 5, none⟩ (.int .i64 ((c : Int) + 1))).ownsRow (p + 1) 4 1 (.slice Ab B.length cb) B.length (bools B) := ownsRow_setCell_below HR.out.oB (a := ⟨p, 5, none⟩) (Nat.lt_succ_self p) (.int .i64 ((c : Int) + 1))
      have oR : (W.setCell ⟨p, 5, none⟩ (.int .i64 ((c : Int) + 1))).ownsRow (p + 1) 4 1 (.slice Ar R.length cr) R.length (bools R) := ownsRow_setCell_below HR.out.oR (a := ⟨p, 5, none⟩) (Nat.lt_succ_self p) (.int .i64 ((c : Int) + 1))
      have oD : (W.setCell ⟨p, 5, none⟩ (.int .i64 ((c : Int) + 1))).ownsRow (p + 1) 4 1 (.slice Ad D.length cd) D.length (bools D) := ownsRow_setCell_below HR.out.oD (a := ⟨p, 5, none⟩) (Nat.lt_succ_self p) (.int .i64 ((c : Int) + 1))
      have k1 : Below p W (W.setCell ⟨p, 5, none⟩ (.int .i64 ((c : Int) + 1))) := (Below.refl p W).setCell (p := ⟨p, 5, none⟩) (Nat.le_refl _) _
      have aBR := HR.out.br; have aBD := HR.out.bd; have aRD := HR.out.rd
      have Q0 := Lib.hid q0; have AB := Lib.hid (And.intro aBR (And.intro aBD aRD)); have K1 := Lib.hid k1
      have OR := Lib.hid oR; have OD := Lib.hid oD; have OB := Lib.hid oB
      clear q0 aBR aBD aRD k1 oR oD oB
      go_enter Tryd.func19, Tryd.ntmps19
      go_wp2_with (first
        | (at_builtin; refine wpList_append_own_at _ rfl (.tmp 30) (.tmp 32) 25 rfl (p + 1) 4 i0 (.bool false) 1 1 Tryd.underlying25 hi hz0 hz1 hz2 rfl (by decide) _ _ _ rfl (OB.out.alloc _) ⟨W.heap.size, 0, none⟩ 1 1 [.bool x] rfl rfl news_at (by simp [Value.oneCell']) (by unfold maxLen; omega) (by omega) (by simp; omega) ?_; intro v1 w1 hown1 hg1 _ hat1; obtain ⟨A1, c1, rfl⟩ := own_form6 hown1; have s1 := Lib.hid (row_step Q0.out OB.out hg1); have z1 : p < w1.heap.size := (Array.getElem?_eq_some_iff.1 s1.out.1).1; have d2 := Lib.cell_of_heap s1.out.1 2; have e2 := Lib.cell_of_heap s1.out.1 3; have g2 := Lib.frozen_of_heap s1.out.1 2; have OR1 := Lib.hid (own_apart (OR.out.alloc _) hg1 AB.out.1); have OD1 := Lib.hid (own_apart (OD.out.alloc _) hg1 AB.out.2.1); have B1 := Lib.hid hown1; have T1 := Lib.hid hat1; clear hown1 hg1 hat1)
        | (at_builtin; refine wpList_append_own_at _ rfl (.tmp 42) (.tmp 43) 25 rfl (p + 1) 4 i0 (.bool false) 1 1 Tryd.underlying25 hi hz0 hz1 hz2 rfl (by decide) _ _ _ rfl ((ownsRow_setCell_below OR1.out (by simp) _).alloc _) ⟨w1.heap.size, 0, none⟩ 1 1 [.bool false] rfl rfl news_at (by simp [Value.oneCell']) (by unfold maxLen; omega) (by omega) (by simp; omega) ?_; intro v2 w2 hown2 hg2 _ hat2; obtain ⟨A2, c2, rfl⟩ := own_form6 hown2; have s2 := Lib.hid (row_step (heap_setCell_same w1 p 2 _ _ _ s1.out.1) (ownsRow_setCell_below OR1.out (a := ⟨p, 2, none⟩) (Nat.lt_succ_self p) _) hg2); have z2 : p < w2.heap.size := (Array.getElem?_eq_some_iff.1 s2.out.1).1; have d3 := Lib.cell_of_heap s2.out.1 3; have e3 := Lib.cell_of_heap s2.out.1 4; have g3 := Lib.frozen_of_heap s2.out.1 3; have OB2 := Lib.hid (own_apart ((ownsRow_setCell_below B1.out (a := ⟨p, 2, none⟩) (Nat.lt_succ_self p) _).alloc _) hg2 (apart_new OR.out (by simp) T1.out AB.out.1).symm); have OD2 := Lib.hid (own_apart ((ownsRow_setCell_below OD1.out (a := ⟨p, 2, none⟩) (Nat.lt_succ_self p) _).alloc _) hg2 AB.out.2.2); have B2 := Lib.hid hown2; have T2 := Lib.hid hat2; clear hown2 hg2 hat2)
        | (at_builtin; refine wpList_append_own_at _ rfl (.tmp 53) (.tmp 54) 25 rfl (p + 1) 4 i0 (.bool false) 1 1 Tryd.underlying25 hi hz0 hz1 hz2 rfl (by decide) _ _ _ rfl ((ownsRow_setCell_below OD2.out (by simp) _).alloc _) ⟨w2.heap.size, 0, none⟩ 1 1 [.bool false] rfl rfl news_at (by simp [Value.oneCell']) (by unfold maxLen; omega) (by omega) (by simp; omega) ?_; intro v3 w3 hown3 hg3 _ hat3; obtain ⟨A3, c3, rfl⟩ := own_form6 hown3; have s3 := Lib.hid (row_step (heap_setCell_same w2 p 3 _ _ _ s2.out.1) (ownsRow_setCell_below OD2.out (a := ⟨p, 3, none⟩) (Nat.lt_succ_self p) _) hg3); have d4 := Lib.cell_of_heap s3.out.1 4; have g4 := Lib.frozen_of_heap s3.out.1 4; have B3 := Lib.hid hown3; have T3 := Lib.hid hat3; have G3 := Lib.hid hg3; clear hown3 hg3 hat3))
      go_ret
      have lt := Nat.lt_succ_self p
      have P1 := apart_new OR.out (by simp) T1.out AB.out.1
      have P2 := apart_new OD.out (by simp) T1.out AB.out.2.1
      have P3 := apart_new (ownsRow_setCell_below B1.out (a := ⟨p, 2, none⟩) lt (.slice A1 (B.length + 1) c1)) (by simp) T2.out P1.symm
      have P4 := apart_new (ownsRow_setCell_below OD1.out (a := ⟨p, 2, none⟩) lt (.slice A1 (B.length + 1) c1)) (by simp) T2.out AB.out.2.2
      have P5 := apart_new (ownsRow_setCell_below OB2.out (a := ⟨p, 3, none⟩) lt (.slice A2 (R.length + 1) c2)) (by simp) T3.out P2.symm
      have P6 := apart_new (ownsRow_setCell_below B2.out (a := ⟨p, 3, none⟩) lt (.slice A2 (R.length + 1) c2)) (by simp) T3.out P4.symm
      have OB3 := own_apart ((ownsRow_setCell_below OB2.out (a := ⟨p, 3, none⟩) lt (.slice A2 (R.length + 1) c2)).alloc _) G3.out P2.symm
      have OR3 := own_apart ((ownsRow_setCell_below B2.out (a := ⟨p, 3, none⟩) lt (.slice A2 (R.length + 1) c2)).alloc _) G3.out P4.symm
      refine .good _ _ _ _ (fun e => e.elim HC2.out HC.out) ⟨heap_setCell_same w3 p 4 _ _ _ s3.out.1, ?_, ?_, ?_, P3.symm, P5.symm, P6.symm⟩ ?_
      · have := ownsRow_setCell_below OB3 (a := ⟨p, 4, none⟩) lt (.slice A3 (D.length + 1) c3)
        simpa [bools] using this
      · have := ownsRow_setCell_below OR3 (a := ⟨p, 4, none⟩) lt (.slice A3 (D.length + 1) c3)
        simpa [bools] using this
      · have := ownsRow_setCell_below B3.out (a := ⟨p, 4, none⟩) lt (.slice A3 (D.length + 1) c3)
        simpa [bools] using this
      · exact (((K1.out.trans s1.out.2).setCell (p := ⟨p, 2, none⟩) (Nat.le_refl _) _).trans s2.out.2 |>.setCell (p := ⟨p, 3, none⟩) (Nat.le_refl _) _).trans s3.out.2 |>.setCell (p := ⟨p, 4, none⟩) (Nat.le_refl _) _
end Go.Proofs.YtonibpilbkafnaaDoor

/- The reader of a sketch in memory: bar. -/
namespace Go.Proofs.YtonibpilbkafnaaDoor
set_option linter.unusedVariables false
set_option linter.unusedSimpArgs false
open Go.RowKit Go.Lib

theorem barL_snoc (c : Nat) (l : List Bool) (x : Bool) (hc : c ≠ 0) : barL c (l ++ [x]) = if x then none else some (l ++ [true]) := by
  unfold barL
  cases x <;> simp [hc]
theorem bools_set (l : List Bool) (x y : Bool) : (bools (l ++ [x])).set l.length (.bool y) = bools (l ++ [y]) := by
  unfold bools
  rw [List.map_append, List.map_append, List.set_append_right _ _ (by simp)]
  simp
/-- what bar answers -/
inductive BarPost (c : Nat) (l : List Bool) (v : Value) (W : World) : Ending → World → Prop
  | no (h : barL c l = none) : BarPost c l v W (.returned (.bool false)) W
  | yes (g cap : Nat) (k : List Bool) (hl : l = k ++ [false]) (hc : c ≠ 0) (hv : v = .slice (some ⟨g, 0, none⟩) l.length cap) : BarPost c l v W (.returned (.bool true)) (W.setCell ⟨g, k.length, none⟩ (.bool true))

set_option maxHeartbeats 4000000 in
set_option maxRecDepth 100000 in
theorem bar_any (p h w c : Nat) (b r d v : Value) (l : List Bool) (W : World) (hp : RdBlk p h w c b r d W) (hv : W.ownsRow (p + 1) 4 1 v l.length (bools l)) (hc : c ≠ 0 → l ≠ []) (hl : l.length ≤ 272) (hc16 : c ≤ 16) :
    Calls Tryd.prog 20 #[.pointer (some ⟨p, 0, none⟩), v] W (BarPost c l v W) := by
  have p5 := Lib.cell_of_heap hp 5
  clear hp
  obtain ⟨A, cap, rfl⟩ := own_form6 hv
  by_cases h0 : c = 0
  · subst h0
    go_enter Tryd.func20, Tryd.ntmps20
    go_wp2
    go_ret
    exact .no (by simp [barL])
  · have t0 : ((c : Int) == 0) = false := by simp; omega
    have t0' : ¬ (c : Int) = 0 := by omega
    obtain ⟨k, x, rfl⟩ : ∃ k x, l = k ++ [x] := by
      rcases List.eq_nil_or_concat l with rfl | ⟨k, x, rfl⟩
      · exact absurd rfl (hc h0)
      · exact ⟨k, x, by simp⟩
    have H0 := Lib.hid h0; clear h0 hc
    have hkl : (k ++ [x]).length = k.length + 1 := by simp
    rw [hkl] at hv hl ⊢
    have HKL := Lib.hid hkl; clear hkl
    obtain ⟨g, rfl⟩ : ∃ g, A = some ⟨g, 0, none⟩ := by
      rcases hv.2 with ⟨_, h0⟩ | ⟨g, _, _, h9, _⟩
      · omega
      · injection h9 with h9; exact ⟨g, h9⟩
    have c1 : W.cell? ⟨g, k.length, none⟩ = some (.bool x) := (hv.cellAt k.length (by omega)).trans (by unfold bools; rw [List.map_append, List.getElem?_append_right (by simp)]; simp)
    have f1 := hv.frozenAt k.length
    clear hv
    generalize hn : k.length = n at *
    have HN := Lib.hid hn; clear hn
    have i0 : (0 : Int) ≤ (n : Int) := by omega
    have i1 : (n : Int) < (n : Int) + 1 := by omega
    cases x with
    | true =>
      go_enter Tryd.func20, Tryd.ntmps20
      go_wp2
      go_ret
      exact .no (by rw [barL_snoc _ _ _ H0.out]; rfl)
    | false =>
      go_enter Tryd.func20, Tryd.ntmps20
      go_wp2
      go_ret
      have := BarPost.yes (c := c) (l := k ++ [false]) (v := .slice (some ⟨g, 0, none⟩) (n + 1) cap) (W := W) g cap k rfl H0.out (by rw [HKL.out])
      rw [HN.out] at this
      exact this
theorem blk_other {p g o h w c : Nat} {b r d u : Value} {W : World} (hp : RdBlk p h w c b r d W) (hg : g ≠ p) : RdBlk p h w c b r d (W.setCell ⟨g, o, none⟩ u) := by
  unfold RdBlk at hp ⊢
  rw [Below.heap_setCell _ _ _ _ (fun e => hg e.symm)]
  exact hp
theorem row_block {W : World} {B e g n cap : Nat} {xs : List Value} (h : W.ownsRow B e 1 (.slice (some ⟨g, 0, none⟩) n cap) n xs) : B ≤ g := (h.lt g rfl).1
theorem RdAt.barR {p g cap : Nat} {s : Rd} {W : World} {b r d : Value} {k : List Bool} (h : RdAt p s W b r d) (hk : s.R = k ++ [false]) (hr : r = .slice (some ⟨g, 0, none⟩) s.R.length cap) :
    RdAt p { s with R := k ++ [true] } (W.setCell ⟨g, k.length, none⟩ (.bool true)) b r d := by
  have h1 := h.oR; have h2 := h.br; have h3 := h.rd
  rw [hr] at h1 h2 h3 ⊢
  have hg := row_block h1
  have e : s.R.length = (k ++ [true]).length := by rw [hk]; simp
  have h4 := (h1.stored k.length (.bool true)).1
  rw [hk, bools_set] at h4
  refine ⟨blk_other (hr ▸ h.blk) (by omega), ownsRow_setCell_other h.oB (fun e => h2.symm g rfl e) _, ?_, ownsRow_setCell_other h.oD (fun e => h3 g rfl e) _, h2, h.bd, h3⟩
  show World.ownsRow _ _ _ _ _ (k ++ [true]).length _
  rw [hk]
  have e2 : (k ++ [true]).length = (k ++ [false]).length := by simp
  rw [e2]
  exact h4
theorem RdAt.barD {p g cap : Nat} {s : Rd} {W : World} {b r d : Value} {k : List Bool} (h : RdAt p s W b r d) (hk : s.D = k ++ [false]) (hr : d = .slice (some ⟨g, 0, none⟩) s.D.length cap) :
    RdAt p { s with D := k ++ [true] } (W.setCell ⟨g, k.length, none⟩ (.bool true)) b r d := by
  have h1 := h.oD; have h2 := h.bd; have h3 := h.rd
  rw [hr] at h1 h2 h3 ⊢
  have hg := row_block h1
  have h4 := (h1.stored k.length (.bool true)).1
  rw [hk, bools_set] at h4
  refine ⟨blk_other (hr ▸ h.blk) (by omega), ownsRow_setCell_other h.oB (fun e => h2.symm g rfl e) _, ownsRow_setCell_other h.oR (fun e => h3.symm g rfl e) _, ?_, h.br, h2, h3⟩
  show World.ownsRow _ _ _ _ _ (k ++ [true]).length _
  rw [hk]
  have e2 : (k ++ [true]).length = (k ++ [false]).length := by simp
  rw [e2]
  exact h4
end Go.Proofs.YtonibpilbkafnaaDoor
