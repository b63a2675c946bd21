/- Package grid: Same. -/
import Derived.Test.YtonibpilbkafnaaO3
namespace Go.Proofs.Ytonibpilbkafnaa
set_option linter.unusedVariables false
set_option linter.unusedSimpArgs false
open Go.RowKit Go.Lib

theorem getD_eq {l : List Bool} {i : Nat} (h : i < l.length) : l.getD i false = l[i] := by rw [List.getD_eq_getElem?_getD, List.getElem?_eq_getElem h]; rfl
set_option maxHeartbeats 4000000 in
set_option maxRecDepth 100000 in
theorem equalB_any (v u : Value) (xs ys : List Bool) (B : Nat) (w : World) (hv : Sl w B v (bools xs)) (hu : Sl w B u (bools ys)) (hx : xs.length ≤ 17592186044416) (hy : ys.length ≤ 17592186044416) :
    Calls Try.prog 19 #[v, u] w fun e w' => e = .returned (.bool (decide (xs = ys))) ∧ ∃ q, w' = w.drewN q := by
  have hv0 := hv; have hu0 := hu
  obtain ⟨A, c, rfl, hc, _⟩ := hv
  obtain ⟨A', c', rfl, hc', _⟩ := hu
  rw [List.length_map] at hv0 hc ⊢
  rw [List.length_map] at hu0 hc' ⊢
  by_cases hl : xs.length = ys.length
  · have H1 := Lib.hid hv0; have H2 := Lib.hid (hl ▸ hu0 : Sl w B (.slice A' xs.length c') (bools ys))
    have HL := Lib.hid hl
    rw [← hl]
    clear hv0 hu0 hl
    generalize hn : xs.length = n at *
    have HN := Lib.hid hn; clear hn
    go_enter Try.func19, Try.ntmps19
    go_wp2
    go_loopg [5, 13] n (fun gf _ u13 wr => ∃ k : Nat, u13 = .int .i64 k ∧ k ≤ n ∧ n ≤ k + gf ∧ Hid (∃ q, wr = w.drewN q) ∧ Hid (∀ i, i < k → xs.getD i false = ys.getD i false))
    case atStart => exact ⟨0, rfl, Nat.zero_le _, by omega, Lib.hid ⟨0, rfl⟩, Lib.hid (fun i hi => by omega)⟩
    case round =>
      rename World => w5
      obtain ⟨k, rfl, hk, hfu, HQ, HE⟩ := hrel
      by_cases hlt : k < n
      · obtain ⟨g', rfl⟩ : ∃ g', gk = g' + 1 := ⟨gk - 1, by omega⟩
        have h1 : Sl w5 B (.slice A n c) (bools xs) := by obtain ⟨q, rfl⟩ := HQ; exact H1.out
        have h2 : Sl w5 B (.slice A' n c') (bools ys) := by obtain ⟨q, rfl⟩ := HQ; exact H2.out
        obtain ⟨b1, o1, rfl, z1⟩ := h1.boolsAt (by omega)
        obtain ⟨b2, o2, rfl, z2⟩ := h2.boolsAt (by omega)
        have g1 := z1 k hlt; have g2 := z2 k hlt
        clear z1 z2 h1 h2
        have HQ2 : Hid (∀ n, Hid (∃ q, w5.drewN n = w.drewN q)) := Lib.hid (fun n => by obtain ⟨q, hq⟩ := HQ; exact Lib.hid ⟨q + n, by rw [hq, World.drewN_drewN]⟩)
        have HNX : Hid (xs.getD k false = ys.getD k false → Hid (∀ i, i < k + 1 → xs.getD i false = ys.getD i false)) := Lib.hid (fun h => Lib.hid (fun i hi => by
          rcases Nat.lt_or_ge i k with h1 | h1
          · exact HE.out i h1
          · obtain rfl : i = k := by omega
            exact h))
        have HNE : Hid (xs.getD k false ≠ ys.getD k false → decide (xs = ys) = false) := Lib.hid (fun h => decide_eq_false (fun e => h (by rw [e])))
        clear HQ HE
        have i1 : (0 : Int) ≤ (k : Int) := by omega
        have i2 : (k : Int) < (n : Int) := by omega
        generalize xs.getD k false = x at *
        generalize ys.getD k false = y at *
        have HG1 := Lib.hid g1
        cases x <;> cases y
        · go_wp2; go_quiet (fail); go_wp2
          go_roundg g'
          case measure => omega
          case rel => exact ⟨k + 1, by go_num, by omega, by omega, HQ2.out _, HNX.out trivial⟩
        · have HF := Lib.hid (HNE.out (by decide))
          go_wp2; go_quiet (fail); go_wp2
          go_ret
          exact ⟨ret_b HF.out.symm, HQ2.out _⟩
        · have HF := Lib.hid (HNE.out (by decide))
          go_wp2; go_quiet (fail); go_wp2
          go_ret
          exact ⟨ret_b HF.out.symm, HQ2.out _⟩
        · go_wp2; go_quiet (fail); go_wp2
          go_roundg g'
          case measure => omega
          case rel => exact ⟨k + 1, by go_num, by omega, by omega, HQ2.out _, HNX.out trivial⟩
      · obtain rfl : n = k := by omega
        have HF : Hid (decide (xs = ys) = true) := Lib.hid (decide_eq_true (by
          refine List.ext_getElem (HN.out.trans HL.out) fun i h1 h2 => ?_
          rw [← getD_eq h1, ← getD_eq h2]
          exact HE.out i (by have := HN.out; omega)))
        go_wp2
        go_ret
        exact ⟨ret_b HF.out.symm, HQ⟩
  · have HF : Hid (decide (xs = ys) = false) := Lib.hid (decide_eq_false (fun e => hl (by rw [e])))
    have t1 : ((xs.length : Int) != (ys.length : Int)) = true := by simp; omega
    clear hv0 hu0 hl
    go_enter Try.func19, Try.ntmps19
    go_wp2
    go_ret
    exact ⟨ret_b HF.out.symm, 0, rfl⟩

set_option maxHeartbeats 4000000 in
set_option maxRecDepth 100000 in
theorem Same_any (v u : Value) (g h : Gd) (B : Nat) (w : World) (hg : GdAt w B v g) (hh : GdAt w B u h) (hB : B ≤ w.heap.size)
    (lg : g.B.length ≤ 17592186044416 ∧ g.R.length ≤ 17592186044416 ∧ g.D.length ≤ 17592186044416) (lh : h.B.length ≤ 17592186044416 ∧ h.R.length ≤ 17592186044416 ∧ h.D.length ≤ 17592186044416) :
    Calls Try.prog 10 #[v, u] w fun e w' => e = .returned (.bool (decide (g = h))) ∧ Below w.heap.size w w' := by
  obtain ⟨b, r, d, rfl, h1, h2, h3⟩ := hg.eq
  obtain ⟨b', r', d', rfl, k1, k2, k3⟩ := hh.eq
  clear hg hh
  have C1 := Lib.hid (fun (W : World) (hb : Below B w W) => equalB_any b b' g.B h.B B W (h1.below hb) (k1.below hb) lg.1 lh.1)
  have C2 := Lib.hid (fun (W : World) (hb : Below B w W) => equalB_any r r' g.R h.R B W (h2.below hb) (k2.below hb) lg.2.1 lh.2.1)
  have C3 := Lib.hid (fun (W : World) (hb : Below B w W) => equalB_any d d' g.D h.D B W (h3.below hb) (k3.below hb) lg.2.2 lh.2.2)
  have HD : Hid (decide (g = h) = (decide (g.H = h.H) && decide (g.W = h.W) && decide (g.B = h.B) && decide (g.R = h.R) && decide (g.D = h.D))) := Lib.hid (by
    rw [Bool.eq_iff_iff]
    simp only [Bool.and_eq_true, decide_eq_true_eq, gd_eq, and_assoc])
  obtain ⟨A1, c1, e1, _, _⟩ := h1
  obtain ⟨A2, c2, e2, _, _⟩ := h2
  obtain ⟨A3, c3, e3, _, _⟩ := h3
  obtain ⟨A4, c4, e4, _, _⟩ := k1
  obtain ⟨A5, c5, e5, _, _⟩ := k2
  obtain ⟨A6, c6, e6, _, _⟩ := k3
  subst e1; subst e2; subst e3; subst e4; subst e5; subst e6
  generalize decide (g.B = h.B) = x1 at *
  generalize decide (g.R = h.R) = x2 at *
  generalize decide (g.D = h.D) = x3 at *
  clear lg lh
  obtain ⟨gH, gW, gB, gR, gD⟩ := g
  obtain ⟨hH, hW, hB', hR, hD⟩ := h
  simp only [List.length_map] at *
  have hbZ := Lib.hid (((Below.refl w.heap.size w).alloc (Nat.le_refl _) (.cells #[.int .i64 gH, .int .i64 gW, .slice A1 gB.length c1, .slice A2 gR.length c2, .slice A3 gD.length c3] 24)).alloc (by simp) (.cells #[.int .i64 hH, .int .i64 hW, .slice A4 hB'.length c4, .slice A5 hR.length c5, .slice A6 hD.length c6] 24))
  have hbA := hbZ.out.mono hB
  by_cases e1 : gH = hH
  · by_cases e2 : gW = hW
    · have t1 : (gH == hH) = true := by simpa using e1
      have t2 : (gW == hW) = true := by simpa using e2
      rw [decide_eq_true e1, decide_eq_true e2] at HD
      clear e1 e2
      cases x1 <;> cases x2
      · go_enter Try.func10, Try.ntmps10
        go_wp2_with (go_at_call 19; (first | with_reducible refine (C1.out _ (by assumption)).mono ?_ | with_reducible refine (C2.out _ (by assumption)).mono ?_ | with_reducible refine (C3.out _ (by assumption)).mono ?_); rintro e w' ⟨rfl, q, rfl⟩; have hbA := bdraw hbA q; have hbZ := Lib.hid (bdraw hbZ.out q); (try rw [World.drewN_drewN] at hbA hbZ))
        go_ret
        exact ⟨ret_b HD.out.symm, hbZ.out⟩
      · go_enter Try.func10, Try.ntmps10
        go_wp2_with (go_at_call 19; (first | with_reducible refine (C1.out _ (by assumption)).mono ?_ | with_reducible refine (C2.out _ (by assumption)).mono ?_ | with_reducible refine (C3.out _ (by assumption)).mono ?_); rintro e w' ⟨rfl, q, rfl⟩; have hbA := bdraw hbA q; have hbZ := Lib.hid (bdraw hbZ.out q); (try rw [World.drewN_drewN] at hbA hbZ))
        go_ret
        exact ⟨ret_b HD.out.symm, hbZ.out⟩
      · go_enter Try.func10, Try.ntmps10
        go_wp2_with (go_at_call 19; (first | with_reducible refine (C1.out _ (by assumption)).mono ?_ | with_reducible refine (C2.out _ (by assumption)).mono ?_ | with_reducible refine (C3.out _ (by assumption)).mono ?_); rintro e w' ⟨rfl, q, rfl⟩; have hbA := bdraw hbA q; have hbZ := Lib.hid (bdraw hbZ.out q); (try rw [World.drewN_drewN] at hbA hbZ))
        go_ret
        exact ⟨ret_b HD.out.symm, hbZ.out⟩
      · go_enter Try.func10, Try.ntmps10
        go_wp2_with (go_at_call 19; (first | with_reducible refine (C1.out _ (by assumption)).mono ?_ | with_reducible refine (C2.out _ (by assumption)).mono ?_ | with_reducible refine (C3.out _ (by assumption)).mono ?_); rintro e w' ⟨rfl, q, rfl⟩; have hbA := bdraw hbA q; have hbZ := Lib.hid (bdraw hbZ.out q); (try rw [World.drewN_drewN] at hbA hbZ))
        go_ret
        exact ⟨ret_b HD.out.symm, hbZ.out⟩
    · have t1 : (gH == hH) = true := by simpa using e1
      have t2 : (gW == hW) = false := by simpa using e2
      rw [decide_eq_true e1, decide_eq_false e2] at HD
      clear e1 e2
      go_enter Try.func10, Try.ntmps10
      go_wp2_with (go_at_call 19; (first | with_reducible refine (C1.out _ (by assumption)).mono ?_ | with_reducible refine (C2.out _ (by assumption)).mono ?_ | with_reducible refine (C3.out _ (by assumption)).mono ?_); rintro e w' ⟨rfl, q, rfl⟩; have hbA := bdraw hbA q; have hbZ := Lib.hid (bdraw hbZ.out q); (try rw [World.drewN_drewN] at hbA hbZ))
      go_ret
      exact ⟨ret_b HD.out.symm, hbZ.out⟩
  · have t1 : (gH == hH) = false := by simpa using e1
    rw [decide_eq_false e1] at HD
    clear e1
    go_enter Try.func10, Try.ntmps10
    go_wp2_with (go_at_call 19; (first | with_reducible refine (C1.out _ (by assumption)).mono ?_ | with_reducible refine (C2.out _ (by assumption)).mono ?_ | with_reducible refine (C3.out _ (by assumption)).mono ?_); rintro e w' ⟨rfl, q, rfl⟩; have hbA := bdraw hbA q; have hbZ := Lib.hid (bdraw hbZ.out q); (try rw [World.drewN_drewN] at hbA hbZ))
    go_ret
    exact ⟨ret_b HD.out.symm, hbZ.out⟩
end Go.Proofs.Ytonibpilbkafnaa
