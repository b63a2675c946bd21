/- Joined texts: U6: walks and plain laws for this seat's program, each stated where it stands; conditions: as each states. -/
import Derived.Test.YtonibpilbkafnaaDoorJO
/- Package slots: Crossings. -/
namespace Go.Proofs.YtonibpilbkafnaaDoor
set_option linter.unusedVariables false
set_option linter.unusedSimpArgs false
open Go.RowKit Go.Lib

set_option maxHeartbeats 8000000 in
set_option maxRecDepth 100000 in
theorem Crossings_any (v : Value) (g : Gd) (B : Nat) (w : World) (h : GdAt w B v g) (hB : B ≤ w.heap.size) (hg : OkG g) :
    Calls Tryd.prog 12 #[v] w fun e w' => e = .returned (.int .i64 (cnt (gN g) (cr (gS g)) : Nat)) ∧ Below w.heap.size w w' := by
  rw [← cross_cnt]
  have h256 := (area_le hg).1
  have cse := fun (W : World) (hb : Below B w W) (hz : B ≤ W.heap.size) => Seats_any v g B W (h.below hb) hz hg
  obtain ⟨Ab, Ar, Ad, cb, cr, cd, rfl⟩ := h.form
  clear h hg
  unfold gN gS at *
  generalize slotsL (stW g.H.toNat g.W.toNat (gt g.B) (gt g.R) (gt g.D)) (g.H.toNat * g.W.toNat) (g.H.toNat * g.W.toNat) = L at *
  generalize g.H.toNat * g.W.toNat = n at *
  obtain ⟨gH, gW, gB, gR, gD⟩ := g
  simp only [gdV] at cse ⊢
  generalize gB.length = nb at *
  generalize gR.length = nr at *
  generalize gD.length = nd at *
  have CSE := Lib.hid cse; clear cse
  have HB0 := Lib.hid hB; clear hB
  go_enter Tryd.func12, Tryd.ntmps12
  go_wp2_with fail
  have hba : Below w.heap.size w _ := (Below.refl _ w).alloc (Nat.le_refl _) (.cells #[.int .i64 gH, .int .i64 gW, .slice Ab nb cb, .slice Ar nr cr, .slice Ad nd cd] 27)
  have hz3 : w.heap.size + 1 = (w.alloc (.cells #[.int .i64 gH, .int .i64 gW, .slice Ab nb cb, .slice Ar nr cr, .slice Ad nd cd] 27)).heap.size := by simp
  refine (CSE.out _ (hba.mono HB0.out) (by have := HB0.out; omega)).mono ?_
  rintro e w1 ⟨g0, c0, g1, c1, l0, l1, rfl, o0, o1, m0, m1, hb1⟩
  have z1 := hb1.size
  have HBW := Lib.hid (hba.trans (hb1.mono (by omega)))
  have HO0 := Lib.hid o0; have HO1 := Lib.hid o1; have HM0 := Lib.hid m0; have HM1 := Lib.hid m1
  clear hba hz3 hb1 o0 o1 m0 m1
  go_wp2_with fail
  go_loopg [5, 6, 7, 15] n (fun gf u5 _ _ u15 wr => ∃ i m : Nat, u15 = .int .i64 i ∧ i ≤ n ∧ n ≤ i + gf ∧ u5 = .int .i64 m ∧ m ≤ i ∧ Hid (m = cnt i fun i => markd false L i && markd true L i) ∧ Hid (Below w1.heap.size w1 wr))
  case atStart => exact ⟨0, 0, rfl, Nat.zero_le _, by omega, rfl, Nat.le_refl _, Lib.hid rfl, Lib.hid (Below.refl _ _)⟩
  case round =>
    rename World => w2
    obtain ⟨i, m, rfl, hi, hfu, rfl, hmi, HM, HB2⟩ := hrel
    by_cases hlt : i < n
    · obtain ⟨g', rfl⟩ : ∃ g', gk = g' + 1 := ⟨gk - 1, by omega⟩
      have ll0 := HM0.out.len
      have ll1 := HM1.out.len
      obtain ⟨p, hp⟩ : ∃ p, l0[i]? = some p := ⟨_, List.getElem?_eq_getElem (by omega)⟩
      obtain ⟨q, hq⟩ : ∃ q, l1[i]? = some q := ⟨_, List.getElem?_eq_getElem (by omega)⟩
      obtain ⟨v1, v2⟩ := seatV_get l0 i p hp
      obtain ⟨v3, v4⟩ := seatV_get l1 i q hq
      have k1 : w2.cell? ⟨g0, i * 2, none⟩ = some (.int .i64 p.1) := keepC HB2.out ((HO0.out.cellAt (i * 2) (by omega)).trans v1)
      have k2 : w2.cell? ⟨g0, i * 2 + 1, none⟩ = some (.int .i64 p.2) := keepC HB2.out ((HO0.out.cellAt (i * 2 + 1) (by omega)).trans v2)
      have k3 : w2.cell? ⟨g1, i * 2, none⟩ = some (.int .i64 q.1) := keepC HB2.out ((HO1.out.cellAt (i * 2) (by omega)).trans v3)
      have lk3 := World.block_lt_of_cell? w2 _ k3
      simp only at lk3
      have b0 := HM0.out.at_ i p hp
      have b1 := HM1.out.at_ i q hq
      have HMS : Hid (cnt (i + 1) (fun i => markd false L i && markd true L i) = m + if decide (0 ≤ p.1) && decide (0 ≤ q.1) then 1 else 0) := Lib.hid (by rw [cnt_succ, ← HM.out, b0, b1])
      have HBX := Lib.hid (fun X => HB2.out.alloc (o := X) (Below.size HB2.out))
      clear b0 b1 v1 v2 v3 v4 hp hq ll0 ll1
      obtain ⟨p1, p2⟩ := p
      obtain ⟨q1, q2⟩ := q
      simp only at k1 k2 k3 HMS
      have i1 : (0 : Int) ≤ (i : Int) := by omega
      have i2 : (i : Int) < (n : Int) := by omega
      obtain ⟨x, hx⟩ : ∃ x, decide (0 ≤ p1) = x := ⟨_, rfl⟩
      obtain ⟨y, hy⟩ : ∃ y, decide (0 ≤ q1) = y := ⟨_, rfl⟩
      rw [hx, hy] at HMS
      cases x with
      | false =>
        have hx2 : ¬ 0 ≤ p1 := of_decide_eq_false hx
        clear hx hy
        go_wp2_with fail
        go_roundg g'
        case measure => omega
        case rel => exact ⟨i + 1, m, by go_num, by omega, by omega, rfl, by omega, Lib.hid HMS.out.symm, HBX.out _ |> Lib.hid⟩
      | true =>
        have hx2 : 0 ≤ p1 := of_decide_eq_true hx
        cases y with
        | false =>
          have hy2 : ¬ 0 ≤ q1 := of_decide_eq_false hy
          clear hx hy
          go_wp2_with fail
          go_roundg g'
          case measure => omega
          case rel => exact ⟨i + 1, m, by go_num, by omega, by omega, rfl, by omega, Lib.hid HMS.out.symm, HBX.out _ |> Lib.hid⟩
        | true =>
          have hy2 : 0 ≤ q1 := of_decide_eq_true hy
          clear hx hy
          go_wp2_with fail
          go_roundg g'
          case measure => omega
          case rel => exact ⟨i + 1, m + 1, by go_num, by omega, by omega, by go_num, by omega, Lib.hid HMS.out.symm, HBX.out _ |> Lib.hid⟩
    · obtain rfl : n = i := by omega
      go_wp2_with fail
      go_ret
      exact ⟨by rw [← HM.out]; rfl, HBW.out.trans (HB2.out.mono (Below.size HBW.out))⟩
end Go.Proofs.YtonibpilbkafnaaDoor
