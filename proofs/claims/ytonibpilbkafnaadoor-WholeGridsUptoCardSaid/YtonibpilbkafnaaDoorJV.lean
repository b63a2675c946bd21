/- Joined texts: LawSketchCanon LawWholeGrids: walks and plain laws for this seat's program, each stated where it stands; conditions: as each states. -/
import Derived.Test.YtonibpilbkafnaaDoorJU
/- SketchCanon: for every text of at most 1048576 bytes the call returns true. -/
namespace Go.Proofs.YtonibpilbkafnaaDoor
set_option linter.unusedVariables false
set_option linter.unusedSimpArgs false
open Go.RowKit Go.Lib

theorem step_ne {s : Rd} {p r a e : Nat} (h : stepS s p r = .bad a e) : e ≠ 0 := by
  unfold stepS at h
  cases hs : sg r <;> rw [hs] at h <;> simp only at h
  · split at h
    · injection h with h1 h2; omega
    · cases h
  · split at h
    · injection h with h1 h2; omega
    · cases h
  · split at h
    · injection h with h1 h2; omega
    · cases h
  · split at h
    · injection h with h1 h2; omega
    · cases h
  · cases h
  · injection h with h1 h2; omega
theorem run_ne : ∀ (cs : List (Nat × List UInt8)) (p : Nat) (s : Rd) (a e : Nat), runS cs p s = .bad a e → e ≠ 0
  | [], p, s, a, e, h => by simp [runS] at h
  | c :: cs, p, s, a, e, h => by
    rw [runS] at h
    cases hs : stepS s p c.1 with
    | bad a' e' => rw [hs] at h; simp only [Rs.then, Rs.bad.injEq] at h; exact h.2 ▸ step_ne hs
    | good t => rw [hs] at h; exact run_ne cs _ _ a e h
theorem parse_ne {l : List UInt8} {a : Nat} {e : Int} (h : parseL l = .bad a e) : e ≠ 0 := by
  unfold parseL at h
  split at h
  · injection h with h1 h2; omega
  · split at h
    · rename_i he
      injection h with h1 h2
      have := run_ne _ _ _ _ _ he
      omega
    · unfold endS at h
      split at h
      · injection h with h1 h2; omega
      · split at h
        · injection h with h1 h2; omega
        · split at h
          · rename_i h3; injection h with h1 h2; omega
          · cases h
theorem Same_refl (v u : Value) (g : Gd) (w : World) (hg : GdAt w w.heap.size v g) (hh : GdAt w w.heap.size u g) (ho : OkG g) :
    Calls Tryd.prog 8 #[v, u] w fun e w' => e = .returned (.bool true) ∧ Below w.heap.size w w' := by
  have ha := (area_le ho).1
  have hb := ho.b; have hr := ho.r; have hd := ho.d
  have hl : g.B.length ≤ 17592186044416 ∧ g.R.length ≤ 17592186044416 ∧ g.D.length ≤ 17592186044416 := ⟨by omega, by omega, by omega⟩
  have := Same_any v u g g w.heap.size w hg hh (Nat.le_refl _) hl hl
  rw [decide_eq_true rfl] at this
  exact this

end Go.Proofs.YtonibpilbkafnaaDoor

/- WholeGrids: for every text of at most 1048576 bytes and every k the call returns true. -/
namespace Go.Proofs.YtonibpilbkafnaaDoor
set_option linter.unusedVariables false
set_option linter.unusedSimpArgs false
open Go.RowKit Go.Lib

set_option maxHeartbeats 16000000 in
set_option maxRecDepth 100000 in
theorem wholeGrids_any (s : ByteArray) (k : Int) (w : World) (hs : s.size ≤ 1048576) (hk1 : -9223372036854775808 ≤ k) (hk2 : k ≤ 9223372036854775807) (hT : Tabs w) :
    Calls Tryd.prog 3 #[.string s, .int .i64 k] w fun e w' => e = .returned (.bool true) ∧ Below w.heap.size w w' := by
  have HT := Lib.hid hT; clear hT
  have CBL := Lib.hid (blank_any 1 2 w (by omega) (by omega) (by omega) (by omega))
  have CPR : Hid (∀ (v : Value) (W : World), GdAt W W.heap.size v (blankG 1 2) → Calls Tryd.prog 4 #[v] W fun e w' => e = .returned (.tuple #[.string ⟨#[46, 46, 10]⟩, .int .i64 0]) ∧ Below W.heap.size W w') := Lib.hid (fun v W h => by
    have := Print_good v (blankG 1 2) W.heap.size W h (Nat.le_refl _) blank12_ok
    rw [blank12_print] at this
    exact this)
  obtain ⟨kk, hkk, hk7⟩ := and7 k
  go_enter Tryd.func3, Tryd.ntmps3
  go_wp2_with fail
  refine CBL.out.mono ?_
  rintro e w1 ⟨u, rfl, hu, hb1⟩
  have CP0 := Lib.hid (CPR.out _ w1 hu)
  obtain ⟨Eb, Er, Ed, fb, fr, fd, rfl⟩ := hu.form
  clear CBL CPR hu
  go_wp2_with fail
  refine CP0.out.mono ?_
  rintro e w2 ⟨rfl, hb2⟩
  have HB2 := Lib.hid (hb1.trans (hb2.mono hb1.size))
  clear hb1 hb2 CP0
  cases hp : parseL (bl s) with
  | bad a er =>
    have hne := parse_ne hp
    have hpl := parse_place hp
    rw [bl_length] at hpl
    have CP := Lib.hid (Parse_bad hp w2 (HT.out.below HB2.out) (by omega))
    have t1 : (er != 0) = true := by simp [hne]
    have q1 : (0 : Int) ≤ (a : Int) := by omega
    have q2 : (a : Int) ≤ (s.size : Int) := by omega
    clear hp hne hpl
    go_wp2_with fail
    refine CP.out.mono ?_
    rintro e w3 ⟨rfl, hb3⟩
    have HB3 := Lib.hid ((HB2.out.trans (hb3.mono HB2.out.size)).alloc (Nat.le_trans HB2.out.size hb3.size) (.cells #[.int .i64 0, .int .i64 0, .slice none 0 0, .slice none 0 0, .slice none 0 0] 27))
    clear hb3
    go_wp2_with fail
    go_ret
    exact ⟨rfl, HB3.out⟩
  | good g =>
    have hok := parse_ok hp
    have CP := Lib.hid (Parse_good hp w2 (HT.out.below HB2.out) (by omega))
    have hkt := ok_turned hok hkk
    have hpp := parse_print (turnG g kk) hkt
    have hpz := printL_le (turnG g kk) hkt
    have hlen := lens_turned hok hkk
    have hpar := parts_turned hok hkk
    have hcro := cross_turned hok hkk
    have hcou := count_turned (g := g) hkk
    have hsg1 := hok.h0
    have sh1 : ∀ x ∈ slotsL (gS g) (gN g) (gN g), 2 ≤ x.2.length ∧ x.2.length ≤ 16 := fun x hx => slot_len (area_le hok).2.2.2.2 (area_le hok).2.2.1 hx
    have sh2 : ∀ x ∈ slotsL (gS (turnG g kk)) (gN (turnG g kk)) (gN (turnG g kk)), 2 ≤ x.2.length ∧ x.2.length ≤ 16 := fun x hx => slot_len (area_le hkt).2.2.2.2 (area_le hkt).2.2.1 hx
    have sl1 := slotsL_len (gS g) (gN g) (gN g)
    have sl2 := slotsL_len (gS (turnG g kk)) (gN (turnG g kk)) (gN (turnG g kk))
    have sn1 : gN g ≤ 256 := (area_le hok).1
    have sn2 : gN (turnG g kk) ≤ 256 := (area_le hkt).1
    have CT := Lib.hid (fun (v : Value) (B : Nat) (W : World) (h : GdAt W B v g) (hB : B ≤ W.heap.size) => Turn_any v g kk B W h hB hok hkk)
    have CL1 := Lib.hid (fun (v : Value) (B : Nat) (W : World) (h : GdAt W B v g) (hB : B ≤ W.heap.size) => List_any v g B W h hB hok)
    have CA1 := Lib.hid (fun (v : Value) (B : Nat) (W : World) (h : GdAt W B v g) (hB : B ≤ W.heap.size) => Parts_any v g B W h hB hok)
    have CC1 := Lib.hid (fun (v : Value) (B : Nat) (W : World) (h : GdAt W B v g) (hB : B ≤ W.heap.size) => Count_any v g B W h hB hok)
    have CX1 := Lib.hid (fun (v : Value) (B : Nat) (W : World) (h : GdAt W B v g) (hB : B ≤ W.heap.size) => Crossings_any v g B W h hB hok)
    generalize turnG g kk = t at *
    have ca2 := fun (v : Value) (B : Nat) (W : World) (h : GdAt W B v t) (hB : B ≤ W.heap.size) => Parts_any v t B W h hB hkt
    have cc2 := fun (v : Value) (B : Nat) (W : World) (h : GdAt W B v t) (hB : B ≤ W.heap.size) => Count_any v t B W h hB hkt
    have cx2 := fun (v : Value) (B : Nat) (W : World) (h : GdAt W B v t) (hB : B ≤ W.heap.size) => Crossings_any v t B W h hB hkt
    rw [hpar] at ca2
    rw [hcou] at cc2
    rw [hcro] at cx2
    have CA2 := Lib.hid ca2; have CC2 := Lib.hid cc2; have CX2 := Lib.hid cx2
    have CL2 := Lib.hid (fun (v : Value) (B : Nat) (W : World) (h : GdAt W B v t) (hB : B ≤ W.heap.size) => List_any v t B W h hB hkt)
    have CS := Lib.hid (fun v u W h1 h2 => Same_refl v u t W h1 h2 hkt)
    obtain ⟨T, hTe⟩ : ∃ T : ByteArray, T = ⟨(printL t).toArray⟩ := ⟨_, rfl⟩
    have htb : bl T = printL t := by rw [hTe]
    have htz : T.size ≤ 4096 := by rw [← bl_length, htb]; exact hpz
    rw [← htb] at hpp
    have CR : Hid (∀ (v : Value) (B : Nat) (W : World), GdAt W B v t → B ≤ W.heap.size → Calls Tryd.prog 4 #[v] W fun e w' => e = .returned (.tuple #[.string T, .int .i64 0]) ∧ Below W.heap.size W w') := Lib.hid (fun v B W h hB => by
      have := Print_good v t B W h hB hkt
      rw [← hTe] at this
      exact this)
    have CP2 : Hid (∀ W, Below w.heap.size w W → _) := Lib.hid (fun W hW => Parse_good hpp W (HT.out.below hW) (by omega))
    have HLE := Lib.hid hlen; have HS1 := Lib.hid sh1; have HS2 := Lib.hid sh2
    clear hp hpp hpz hpar hcro hcou hok hkt ca2 cc2 cx2 hTe htb hlen sh1 sh2 hsg1
    generalize slotsL (gS g) (gN g) (gN g) = L1 at *
    generalize slotsL (gS t) (gN t) (gN t) = L2 at *
    generalize parts (gN g) (opG g) (gS g) = nP at *
    generalize cnt (gN g) (fun i => !gt g.B i) = nC at *
    generalize cnt (gN g) (cr (gS g)) = nX at *
    go_wp2_with fail
    refine CP.out.mono ?_
    rintro e w3 ⟨Ab, Ar, Ad, cb, cr, cd, rfl, hg3, hb3⟩
    simp only [gdV] at hg3 ⊢
    have HB3 := Lib.hid (HB2.out.trans (hb3.mono HB2.out.size))
    have HG3 := Lib.hid hg3
    have hx := World.alloc_heap_new w3 (.cells #[.int .i64 g.H, .int .i64 g.W, .slice Ab g.B.length cb, .slice Ar g.R.length cr, .slice Ad g.D.length cd] 27)
    have hbx : Below w3.heap.size w3 _ := (Below.refl _ w3).alloc (Nat.le_refl _) (.cells #[.int .i64 g.H, .int .i64 g.W, .slice Ab g.B.length cb, .slice Ar g.R.length cr, .slice Ad g.D.length cd] 27)
    have zx : w3.heap.size + 1 = (w3.alloc (.cells #[.int .i64 g.H, .int .i64 g.W, .slice Ab g.B.length cb, .slice Ar g.R.length cr, .slice Ad g.D.length cd] 27)).heap.size := by simp
    clear hg3 hb3 CP HB2
    go_wp2_with fail
    generalize w3.alloc (.cells #[.int .i64 g.H, .int .i64 g.W, .slice Ab g.B.length cb, .slice Ar g.R.length cr, .slice Ad g.D.length cd] 27) = w4 at *
    refine (CT.out _ _ _ (HG3.out.below hbx) (by omega)).mono ?_
    rintro e w5 ⟨⟨u, rfl, ht⟩, hb5⟩
    obtain ⟨Tb, Tr, Td, tb, tr, td, rfl⟩ := ht.form
    simp only [gdV] at ht ⊢
    have HB35 := Lib.hid (hbx.trans (hb5.mono (by omega)))
    have h75 := (hb5.block w3.heap.size (by omega)).trans hx
    have HT5 := Lib.hid ht
    have z5 := hb5.size
    have hy := World.alloc_heap_new w5 (.cells #[.int .i64 t.H, .int .i64 t.W, .slice Tb t.B.length tb, .slice Tr t.R.length tr, .slice Td t.D.length td] 27)
    have hby : Below w5.heap.size w5 _ := (Below.refl _ w5).alloc (Nat.le_refl _) (.cells #[.int .i64 t.H, .int .i64 t.W, .slice Tb t.B.length tb, .slice Tr t.R.length tr, .slice Td t.D.length td] 27)
    have zy : w5.heap.size + 1 = (w5.alloc (.cells #[.int .i64 t.H, .int .i64 t.W, .slice Tb t.B.length tb, .slice Tr t.R.length tr, .slice Td t.D.length td] 27)).heap.size := by simp
    have h76 := (hby.block w3.heap.size (by omega)).trans h75
    clear hx hbx ht hb5 h75 CT
    go_wp2_with fail
    generalize w5.alloc (.cells #[.int .i64 t.H, .int .i64 t.W, .slice Tb t.B.length tb, .slice Tr t.R.length tr, .slice Td t.D.length td] 27) = w6 at *
    have HT6 := Lib.hid (fun (W : World) (h : Below w6.heap.size w6 W) => HT5.out.below (hby.trans (h.mono (by omega))))
    have HB36 := Lib.hid (HB35.out.trans (hby.mono (by omega)))
    have HG6 := Lib.hid (fun (W : World) (h : Below w6.heap.size w6 W) => HG3.out.below (HB36.out.trans (h.mono (by omega))))
    have HBW := Lib.hid (fun (W : World) (h : Below w6.heap.size w6 W) => (HB3.out.trans (HB36.out.mono HB3.out.size)).trans (h.mono (by have := HB3.out.size; omega)))
    have H7 := Lib.hid (fun (W : World) (h : Below w6.heap.size w6 W) => (h.block w3.heap.size (by omega)).trans h76)
    have H10 := Lib.hid (fun (W : World) (h : Below w6.heap.size w6 W) => (h.block w5.heap.size (by omega)).trans hy)
    clear hy hby h76 HB35 HG3 HT5 HB3
    refine (CR.out _ _ _ (HT6.out _ (Below.refl _ _)) (by omega)).mono ?_
    rintro e w7 ⟨rfl, hb7⟩
    have z7 := hb7.size
    have HB7 := Lib.hid hb7
    clear hb7 CR
    go_wp2_with fail
    refine (CP2.out _ (HBW.out _ HB7.out)).mono ?_
    rintro e w8 ⟨Ub, Ur, Ud, ub, ur, ud, rfl, hg8, hb8⟩
    simp only [gdV] at hg8 ⊢
    have z8 := hb8.size
    have HB8 := Lib.hid (HB7.out.trans (hb8.mono (by omega)))
    have hb9 := HB8.out.alloc (Below.size HB8.out) (.cells #[.int .i64 t.H, .int .i64 t.W, .slice Ub t.B.length ub, .slice Ur t.R.length ur, .slice Ud t.D.length ud] 27)
    have hb89 : Below w8.heap.size w8 _ := (Below.refl _ w8).alloc (Nat.le_refl _) (.cells #[.int .i64 t.H, .int .i64 t.W, .slice Ub t.B.length ub, .slice Ur t.R.length ur, .slice Ud t.D.length ud] 27)
    have zz : w8.heap.size + 1 = (w8.alloc (.cells #[.int .i64 t.H, .int .i64 t.W, .slice Ub t.B.length ub, .slice Ur t.R.length ur, .slice Ud t.D.length ud] 27)).heap.size := by simp
    have k7 := H10.out _ hb9
    have n0 := Lib.cell_of_heap k7 0
    have n1 := Lib.cell_of_heap k7 1
    have n2 := Lib.cell_of_heap k7 2
    have n3 := Lib.cell_of_heap k7 3
    have n4 := Lib.cell_of_heap k7 4
    clear hb8 CP2 k7
    go_wp2_with fail
    generalize w8.alloc (.cells #[.int .i64 t.H, .int .i64 t.W, .slice Ub t.B.length ub, .slice Ur t.R.length ur, .slice Ud t.D.length ud] 27) = w9 at *
    have HS9 := Lib.hid (CS.out _ _ w9 ((HT6.out _ hb9).more (by omega)) ((hg8.below hb89).more (by omega)))
    have HB9 := Lib.hid hb9
    clear hg8 hb9 hb89 HB8 CS n0 n1 n2 n3 n4
    refine HS9.out.mono ?_
    rintro e w10 ⟨rfl, hb10⟩
    have z10 := hb10.size
    have HB10 := Lib.hid (HB9.out.trans (hb10.mono (by omega)))
    clear hb10 HS9
    have hz0 := run_len0
    have hl11 := World.alloc_heap_new w10 (.cells #[.int .i64 0, .int .i64 0, .int .i64 0, .int .i64 0, .int .i64 0, .int .i64 0, .int .i64 0, .int .i64 0, .int .i64 0, .int .i64 0, .int .i64 0, .int .i64 0, .int .i64 0, .int .i64 0, .int .i64 0, .int .i64 0, .int .i64 0] 34)
    have hb11 := HB10.out.alloc (Below.size HB10.out) (.cells #[.int .i64 0, .int .i64 0, .int .i64 0, .int .i64 0, .int .i64 0, .int .i64 0, .int .i64 0, .int .i64 0, .int .i64 0, .int .i64 0, .int .i64 0, .int .i64 0, .int .i64 0, .int .i64 0, .int .i64 0, .int .i64 0, .int .i64 0] 34)
    have z11 : w10.heap.size + 1 = (w10.alloc (.cells #[.int .i64 0, .int .i64 0, .int .i64 0, .int .i64 0, .int .i64 0, .int .i64 0, .int .i64 0, .int .i64 0, .int .i64 0, .int .i64 0, .int .i64 0, .int .i64 0, .int .i64 0, .int .i64 0, .int .i64 0, .int .i64 0, .int .i64 0] 34)).heap.size := by simp
    have k7 := H7.out _ hb11
    have n0 := Lib.cell_of_heap k7 0
    have n1 := Lib.cell_of_heap k7 1
    have n2 := Lib.cell_of_heap k7 2
    have n3 := Lib.cell_of_heap k7 3
    have n4 := Lib.cell_of_heap k7 4
    clear k7
    go_wp2_with fail
    clear hz0
    generalize w10.alloc (.cells #[.int .i64 0, .int .i64 0, .int .i64 0, .int .i64 0, .int .i64 0, .int .i64 0, .int .i64 0, .int .i64 0, .int .i64 0, .int .i64 0, .int .i64 0, .int .i64 0, .int .i64 0, .int .i64 0, .int .i64 0, .int .i64 0, .int .i64 0] 34) = w11 at *
    refine (CL1.out _ _ w11 (HG6.out _ hb11) (by omega)).mono ?_
    rintro e w12 ⟨vs1, A1, c1, rfl, hsl1, hb12⟩
    have z12 := hb12.size
    have HB12 := Lib.hid (hb11.trans (hb12.mono (by omega)))
    have HL12 := Lib.hid ((hb12.block w10.heap.size (by omega)).trans hl11)
    have HSL1 := Lib.hid hsl1
    clear hb12 hsl1 hl11 hb11 CL1 n0 n1 n2 n3 n4
    go_wp2_with fail
    obtain ⟨P0, hP0⟩ : ∃ P0 : List Int, P0 = List.replicate 17 0 := ⟨_, rfl⟩
    have hl0 := HL12.out
    rw [← len0_eq, ← hP0] at hl0
    have hl0' := Lib.hid hl0
    have HP0 : Hid (LensAt P0 (upF L1 0)) := Lib.hid (by rw [hP0]; exact LensAt.zero)
    clear hl0 hP0 HL12
    have HL12 := hl0'
    clear hl0'
    go_loopg [18, 85] L1.length (fun gf _ u85 wr => ∃ (i : Nat) (P : List Int), u85 = .int .i64 i ∧ i ≤ L1.length ∧ L1.length ≤ i + gf ∧ Hid (LensAt P (upF L1 i)) ∧ Hid (Below w6.heap.size w6 wr) ∧ Hid (wr.heap[w10.heap.size]? = some (.cells (intsZ P) 34 (0, 0))) ∧
      Hid (∀ kx, kx ≠ w10.heap.size → kx < w12.heap.size → wr.heap[kx]? = w12.heap[kx]?) ∧ w12.heap.size ≤ wr.heap.size)
    case atStart => exact ⟨0, P0, rfl, Nat.zero_le _, by omega, HP0, HB12, HL12, Lib.hid (fun _ _ _ => rfl), Nat.le_refl _⟩
    case round =>
      rename World => wr
      obtain ⟨i, P, rfl, hi, hfu, HP, HBR, HLR, HKR, zr⟩ := hrel
      by_cases hlt : i < L1.length
      · obtain ⟨g1, rfl⟩ : ∃ g1, gk = g1 + 1 := ⟨gk - 1, by omega⟩
        obtain ⟨gl, cap, hv, hgl⟩ := own_headZ HSL1.out.own (by omega)
        injection hv with hv1 hv2 hv3
        subst hv1
        subst hv3
        obtain ⟨s, hs⟩ : ∃ s, L1[i] = s := ⟨_, rfl⟩
        obtain ⟨hs2, hs16⟩ := HS1.out s (by rw [← hs]; exact List.getElem_mem _)
        obtain ⟨num, As, cs, q0, q1, q2, _⟩ := HSL1.out.at_ (i := i) (s := s) (by rw [List.getElem?_eq_getElem hlt, hs])
        have r0 := cell_kept HKR.out (by omega) q0
        have r1 := cell_kept HKR.out (by omega) q1
        have r2 := cell_kept HKR.out (by omega) q2
        obtain ⟨pl, hpl⟩ : ∃ pl, pl = upF L1 i s.2.length := ⟨_, rfl⟩
        have HPN := Lib.hid (lens_up hlt hs HP.out (by omega) hpl)
        have lb1 := lenC_take_le L1 i s.2.length
        have lb2 := lenC_le L1 s.2.length
        have hb1 : -1000 < pl ∧ pl < 1000 := by rw [hpl]; unfold upF; omega
        obtain ⟨hb1, hb2⟩ := hb1
        have hpc : (intsZ P)[s.2.length]? = some (.int .i64 pl) := by rw [hpl]; exact intsZ_get (HP.out.2 _ (by omega))
        have hbl : w10.heap.size < wr.heap.size := (Array.getElem?_eq_some_iff.1 HLR.out).1
        have m0 : (wr.alloc (.cells #[.int .i64 num, .bool s.1, .slice As s.2.length cs] 39)).cell? ⟨w10.heap.size, s.2.length, none⟩ = some (.int .i64 pl) := (Lib.cell_of_heap ((Below.heap_alloc wr _ _ hbl).trans HLR.out) _).trans hpc
        have m1 : (wr.alloc (.cells #[.int .i64 num, .bool s.1, .slice As s.2.length cs] 39)).frozen? ⟨w10.heap.size, s.2.length, none⟩ = false := Lib.frozen_of_heap ((Below.heap_alloc wr _ _ hbl).trans HLR.out) _
        have hne := len_set (X := .cells #[.int .i64 num, .bool s.1, .slice As s.2.length cs] 39) (l := s.2.length) (u := pl + 1) HLR.out HKR.out zr
        have HLN := Lib.hid hne.1; have HKN := Lib.hid hne.2.1; have zn := hne.2.2
        have HBN := Lib.hid ((HBR.out.setCell (p := ⟨w10.heap.size, s.2.length, none⟩) (show w6.heap.size ≤ w10.heap.size by omega) (.int .i64 (pl + 1))).alloc (by have := Below.size HBR.out; simp; exact this) (.cells #[.int .i64 num, .bool s.1, .slice As s.2.length cs] 39))
        have i1 : (0 : Int) ≤ (i : Int) := by omega
        have i2 : (i : Int) < (L1.length : Int) := by omega
        have i3 : ¬ (s.2.length : Int) < 2 := by omega
        have i4 : ¬ (16 : Int) < (s.2.length : Int) := by omega
        have i5 : (0 : Int) ≤ (s.2.length : Int) := by omega
        have i6 : (s.2.length : Int) < 17 := by omega
        clear q0 q1 q2 hne hpl hpc hs hgl lb1 lb2
        go_wp2_with fail
        go_roundg g1
        case measure => omega
        case rel => exact ⟨i + 1, _, by go_num, by omega, by omega, HPN, HBN, HLN, HKN, zn⟩
      · obtain rfl : L1.length = i := by omega
        have hpe := HP.out
        rw [show upF L1 L1.length = fun L => ((lenC L1 L : Nat) : Int) from by funext L; unfold upF; rw [List.take_length]] at hpe
        have HPE := Lib.hid hpe
        clear hpe HP
        have HB13 := Lib.hid HBR.out
        have HL13 := Lib.hid HLR.out
        have z13 : w12.heap.size ≤ wr.heap.size := zr
        clear HB12 HL12 HP0 HBR HLR HKR HSL1 hlt hi hfu zr
        generalize wr = w13 at *
        have k7 := H10.out _ HB13.out
        have n0 := Lib.cell_of_heap k7 0
        have n1 := Lib.cell_of_heap k7 1
        have n2 := Lib.cell_of_heap k7 2
        have n3 := Lib.cell_of_heap k7 3
        have n4 := Lib.cell_of_heap k7 4
        clear k7
        go_wp2_with fail
        refine (CL2.out _ _ w13 (HT6.out _ HB13.out) (by omega)).mono ?_
        rintro e w14 ⟨vs2, A2, c2, rfl, hsl2, hb14⟩
        have z14 := hb14.size
        have HB14 := Lib.hid (HB13.out.trans (hb14.mono (by omega)))
        have HL14 := Lib.hid ((hb14.block w10.heap.size (by omega)).trans HL13.out)
        have HSL2 := Lib.hid hsl2
        clear hb14 hsl2 HB13 HL13 CL2 n0 n1 n2 n3 n4
        go_wp2_with fail
        generalize P = P0 at *
        have HP0 : Hid (LensAt P0 (downF L1 L2 0)) := Lib.hid (by
          have h9 := HPE.out
          have e9 : downF L1 L2 0 = fun L => ((lenC L1 L : Nat) : Int) := by funext L; unfold downF; simp [lenC]
          rw [e9]; exact h9)
        clear HPE
        go_loopg [20, 110] L2.length (fun gf _ u110 wr => ∃ (i : Nat) (P : List Int), u110 = .int .i64 i ∧ i ≤ L2.length ∧ L2.length ≤ i + gf ∧ Hid (LensAt P (downF L1 L2 i)) ∧ Hid (Below w6.heap.size w6 wr) ∧ Hid (wr.heap[w10.heap.size]? = some (.cells (intsZ P) 34 (0, 0))) ∧
          Hid (∀ kx, kx ≠ w10.heap.size → kx < w14.heap.size → wr.heap[kx]? = w14.heap[kx]?) ∧ w14.heap.size ≤ wr.heap.size)
        case atStart => exact ⟨0, P0, rfl, Nat.zero_le _, by omega, HP0, HB14, HL14, Lib.hid (fun _ _ _ => rfl), Nat.le_refl _⟩
        case round =>
          rename World => wr
          obtain ⟨i, P, rfl, hi, hfu, HP, HBR, HLR, HKR, zr⟩ := hrel
          by_cases hlt : i < L2.length
          · obtain ⟨g1, rfl⟩ : ∃ g1, gk = g1 + 1 := ⟨gk - 1, by omega⟩
            obtain ⟨gl, cap, hv, hgl⟩ := own_headZ HSL2.out.own (by omega)
            injection hv with hv1 hv2 hv3
            subst hv1
            subst hv3
            obtain ⟨s, hs⟩ : ∃ s, L2[i] = s := ⟨_, rfl⟩
            obtain ⟨hs2, hs16⟩ := HS2.out s (by rw [← hs]; exact List.getElem_mem _)
            obtain ⟨num, As, cs, q0, q1, q2, _⟩ := HSL2.out.at_ (i := i) (s := s) (by rw [List.getElem?_eq_getElem hlt, hs])
            have r0 := cell_kept HKR.out (by omega) q0
            have r1 := cell_kept HKR.out (by omega) q1
            have r2 := cell_kept HKR.out (by omega) q2
            obtain ⟨pl, hpl⟩ : ∃ pl, pl = downF L1 L2 i s.2.length := ⟨_, rfl⟩
            have HPN := Lib.hid (lens_down hlt hs HP.out (by omega) hpl)
            have lb1 := lenC_take_le L2 i s.2.length
            have lb2 := lenC_le L1 s.2.length
            have hb1 : -1000 < pl ∧ pl < 1000 := by rw [hpl]; unfold downF; omega
            obtain ⟨hb1, hb2⟩ := hb1
            have hpc : (intsZ P)[s.2.length]? = some (.int .i64 pl) := by rw [hpl]; exact intsZ_get (HP.out.2 _ (by omega))
            have hbl : w10.heap.size < wr.heap.size := (Array.getElem?_eq_some_iff.1 HLR.out).1
            have m0 : (wr.alloc (.cells #[.int .i64 num, .bool s.1, .slice As s.2.length cs] 39)).cell? ⟨w10.heap.size, s.2.length, none⟩ = some (.int .i64 pl) := (Lib.cell_of_heap ((Below.heap_alloc wr _ _ hbl).trans HLR.out) _).trans hpc
            have m1 : (wr.alloc (.cells #[.int .i64 num, .bool s.1, .slice As s.2.length cs] 39)).frozen? ⟨w10.heap.size, s.2.length, none⟩ = false := Lib.frozen_of_heap ((Below.heap_alloc wr _ _ hbl).trans HLR.out) _
            have hne := len_set (X := .cells #[.int .i64 num, .bool s.1, .slice As s.2.length cs] 39) (l := s.2.length) (u := pl - 1) HLR.out HKR.out zr
            have HLN := Lib.hid hne.1; have HKN := Lib.hid hne.2.1; have zn := hne.2.2
            have HBN := Lib.hid ((HBR.out.setCell (p := ⟨w10.heap.size, s.2.length, none⟩) (show w6.heap.size ≤ w10.heap.size by omega) (.int .i64 (pl - 1))).alloc (by have := Below.size HBR.out; simp; exact this) (.cells #[.int .i64 num, .bool s.1, .slice As s.2.length cs] 39))
            have i1 : (0 : Int) ≤ (i : Int) := by omega
            have i2 : (i : Int) < (L2.length : Int) := by omega
            have i3 : ¬ (s.2.length : Int) < 2 := by omega
            have i4 : ¬ (16 : Int) < (s.2.length : Int) := by omega
            have i5 : (0 : Int) ≤ (s.2.length : Int) := by omega
            have i6 : (s.2.length : Int) < 17 := by omega
            clear q0 q1 q2 hne hpl hpc hs hgl lb1 lb2
            go_wp2_with fail
            go_roundg g1
            case measure => omega
            case rel => exact ⟨i + 1, _, by go_num, by omega, by omega, HPN, HBN, HLN, HKN, zn⟩
          · obtain rfl : L2.length = i := by omega
            have hpe := HP.out
            rw [show downF L1 L2 L2.length = fun L => ((lenC L1 L : Nat) : Int) - ((lenC L2 L : Nat) : Int) from by funext L; unfold downF; rw [List.take_length]] at hpe
            have HPE := Lib.hid hpe
            clear hpe HP
            have hpz := HPE.out.nil (fun L => by rw [HLE.out L]; omega)
            have hl15 := HLR.out
            rw [hpz, len0_eq] at hl15
            have HL15 := Lib.hid hl15
            have HB15 := Lib.hid HBR.out
            have z15 : w14.heap.size ≤ wr.heap.size := zr
            clear HB14 HL14 HP0 HBR HLR HKR HSL2 hlt hi hfu zr hl15 HPE hpz
            generalize wr = w15 at *
            have k7 := H7.out _ HB15.out
            have n0 := Lib.cell_of_heap k7 0
            have n1 := Lib.cell_of_heap k7 1
            have n2 := Lib.cell_of_heap k7 2
            have n3 := Lib.cell_of_heap k7 3
            have n4 := Lib.cell_of_heap k7 4
            clear k7
            go_wp2_with fail
            refine (CA1.out _ _ w15 (HG6.out _ HB15.out) (by omega)).mono ?_
            rintro e w16 ⟨a1, rfl, hb16⟩
            have z16 := hb16.size
            have HB16 := Lib.hid (HB15.out.trans (hb16.mono (by omega)))
            have HL16 := Lib.hid ((hb16.block w10.heap.size (by omega)).trans HL15.out)
            clear hb16 HB15 HL15 CA1 n0 n1 n2 n3 n4
            have k7 := H10.out _ HB16.out
            have n0 := Lib.cell_of_heap k7 0
            have n1 := Lib.cell_of_heap k7 1
            have n2 := Lib.cell_of_heap k7 2
            have n3 := Lib.cell_of_heap k7 3
            have n4 := Lib.cell_of_heap k7 4
            clear k7
            go_wp2_with fail
            refine (CA2.out _ _ w16 (HT6.out _ HB16.out) (by omega)).mono ?_
            rintro e w17 ⟨a2, rfl, hb17⟩
            have z17 := hb17.size
            have HB17 := Lib.hid (HB16.out.trans (hb17.mono (by omega)))
            have HL17 := Lib.hid ((hb17.block w10.heap.size (by omega)).trans HL16.out)
            clear hb17 HB16 HL16 CA2 n0 n1 n2 n3 n4
            have k7 := H7.out _ HB17.out
            have k8 := H10.out _ HB17.out
            have k9 := HL17.out
            have A0 : w17.drew.cell? ⟨w3.heap.size, 0, none⟩ = some (.int .i64 g.H) := Lib.cell_of_heap k7 0
            have A1 : w17.drew.cell? ⟨w3.heap.size, 1, none⟩ = some (.int .i64 g.W) := Lib.cell_of_heap k7 1
            have A2 : w17.drew.cell? ⟨w3.heap.size, 2, none⟩ = some (.slice Ab g.B.length cb) := Lib.cell_of_heap k7 2
            have A3 : w17.drew.cell? ⟨w3.heap.size, 3, none⟩ = some (.slice Ar g.R.length cr) := Lib.cell_of_heap k7 3
            have A4 : w17.drew.cell? ⟨w3.heap.size, 4, none⟩ = some (.slice Ad g.D.length cd) := Lib.cell_of_heap k7 4
            have B0 : w17.drew.cell? ⟨w5.heap.size, 0, none⟩ = some (.int .i64 t.H) := Lib.cell_of_heap k8 0
            have B1 : w17.drew.cell? ⟨w5.heap.size, 1, none⟩ = some (.int .i64 t.W) := Lib.cell_of_heap k8 1
            have B2 : w17.drew.cell? ⟨w5.heap.size, 2, none⟩ = some (.slice Tb t.B.length tb) := Lib.cell_of_heap k8 2
            have B3 : w17.drew.cell? ⟨w5.heap.size, 3, none⟩ = some (.slice Tr t.R.length tr) := Lib.cell_of_heap k8 3
            have B4 : w17.drew.cell? ⟨w5.heap.size, 4, none⟩ = some (.slice Td t.D.length td) := Lib.cell_of_heap k8 4
            have C0 : w17.drew.rangeAt w10.heap.size 0 [.int .i64 0, .int .i64 0, .int .i64 0, .int .i64 0, .int .i64 0, .int .i64 0, .int .i64 0, .int .i64 0, .int .i64 0, .int .i64 0, .int .i64 0, .int .i64 0, .int .i64 0, .int .i64 0, .int .i64 0, .int .i64 0, .int .i64 0] := range_of k9 rfl
            have hty : Tryd.prog.underlying 34 = some (.array 17 3) := by kernel_rfl
            have hsz : (Tryd.prog.info? 34).map (·.size) = some ([.int .i64 0, .int .i64 0, .int .i64 0, .int .i64 0, .int .i64 0, .int .i64 0, .int .i64 0, .int .i64 0, .int .i64 0, .int .i64 0, .int .i64 0, .int .i64 0, .int .i64 0, .int .i64 0, .int .i64 0, .int .i64 0, .int .i64 0] : List Value).length := by kernel_rfl
            have GB : Below w6.heap.size w6 w17.drew := HB17.out.drew
            have D1 := Lib.hid (fun (W : World) (h : Below w6.heap.size w6 W) => CC1.out _ _ W (HG6.out W h) (by have := h.size; omega))
            have D2 := Lib.hid (fun (W : World) (h : Below w6.heap.size w6 W) => CC2.out _ _ W (HT6.out W h) (by have := h.size; omega))
            have D3 := Lib.hid (fun (W : World) (h : Below w6.heap.size w6 W) => CX1.out _ _ W (HG6.out W h) (by have := h.size; omega))
            have D4 := Lib.hid (fun (W : World) (h : Below w6.heap.size w6 W) => CX2.out _ _ W (HT6.out W h) (by have := h.size; omega))
            have hz0 := run_len0
            have hz1 := run_eq17
            clear k7 k8 k9 CC1 CC2 CX1 CX2 HG6 HT6 H7 H10
            go_wp2_with fail
            go_region_held3 (fun w' => w'.cell? ⟨w3.heap.size, 0, none⟩ = some (.int .i64 g.H) ∧ w'.cell? ⟨w3.heap.size, 1, none⟩ = some (.int .i64 g.W) ∧ w'.cell? ⟨w3.heap.size, 2, none⟩ = some (.slice Ab g.B.length cb) ∧ w'.cell? ⟨w3.heap.size, 3, none⟩ = some (.slice Ar g.R.length cr) ∧ w'.cell? ⟨w3.heap.size, 4, none⟩ = some (.slice Ad g.D.length cd) ∧ w'.cell? ⟨w5.heap.size, 0, none⟩ = some (.int .i64 t.H) ∧ w'.cell? ⟨w5.heap.size, 1, none⟩ = some (.int .i64 t.W) ∧ w'.cell? ⟨w5.heap.size, 2, none⟩ = some (.slice Tb t.B.length tb) ∧ w'.cell? ⟨w5.heap.size, 3, none⟩ = some (.slice Tr t.R.length tr) ∧ w'.cell? ⟨w5.heap.size, 4, none⟩ = some (.slice Td t.D.length td) ∧ w'.rangeAt w10.heap.size 0 [.int .i64 0, .int .i64 0, .int .i64 0, .int .i64 0, .int .i64 0, .int .i64 0, .int .i64 0, .int .i64 0, .int .i64 0, .int .i64 0, .int .i64 0, .int .i64 0, .int .i64 0, .int .i64 0, .int .i64 0, .int .i64 0, .int .i64 0] ∧ Below w6.heap.size w6 w')
              (first
                | (with_reducible exact ⟨A0, A1, A2, A3, A4, B0, B1, B2, B3, B4, C0, GB⟩)
                | (go_split_ands; (with_reducible refine ⟨keepC hb1 ?_, keepC hb1 ?_, keepC hb1 ?_, keepC hb1 ?_, keepC hb1 ?_, keepC hb1 ?_, keepC hb1 ?_, keepC hb1 ?_, keepC hb1 ?_, keepC hb1 ?_, keepR hb1 ?_, keepBB ?_ hb1⟩) <;> assumption)
                | (trace_state; fail))
              (first
                | (go_at_call 11; (with_reducible refine (D1.out _ ?_).mono ?_); (· go_split_ands; assumption); rintro e w1 ⟨rfl, hb1⟩)
                | (go_at_call 11; (with_reducible refine (D2.out _ ?_).mono ?_); (· go_split_ands; assumption); rintro e w1 ⟨rfl, hb1⟩)
                | (go_at_call 12; (with_reducible refine (D3.out _ ?_).mono ?_); (· go_split_ands; assumption); rintro e w1 ⟨rfl, hb1⟩)
                | (go_at_call 12; (with_reducible refine (D4.out _ ?_).mono ?_); (· go_split_ands; assumption); rintro e w1 ⟨rfl, hb1⟩))
            have hBB : Below w6.heap.size w6 w1 := by go_split_ands; assumption
            go_wp2_with fail
            go_ret
            exact ⟨rfl, HBW.out _ hBB⟩
end Go.Proofs.YtonibpilbkafnaaDoor
