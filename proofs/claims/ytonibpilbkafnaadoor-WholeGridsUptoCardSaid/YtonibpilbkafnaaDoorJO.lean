/- Joined texts: U4: walks and plain laws for this seat's program, each stated where it stands; conditions: as each states. -/
import Derived.Test.YtonibpilbkafnaaDoorJN
import Derived.Deep.QuietTactic
import Derived.Deep.DeepCutAuto
/- Package slots: Seats. -/
namespace Go.Proofs.YtonibpilbkafnaaDoor
set_option linter.unusedVariables false
set_option linter.unusedSimpArgs false
open Go.RowKit Go.Lib

theorem news2 (w : World) (x y : Value) (t : TypeId) : ∀ j u, [x, y][j]? = some u → (w.alloc (.cells #[x, y] t)).cell? ((⟨w.heap.size, 0, none⟩ : Addr).add j) = some u :=
  World.news_of_block (cs := #[x, y]) (t := t) (fr := (0, 0)) (World.alloc_heap_new w _)
theorem two_set {W : World} {b : Nat} {t : TypeId} {x y u : Value} (h : W.heap[b]? = some (.cells #[x, y] t (0, 0))) : (W.setCell ⟨b, 0, none⟩ u).heap[b]? = some (.cells #[u, y] t (0, 0)) ∧ (W.setCell ⟨b, 1, none⟩ u).heap[b]? = some (.cells #[x, u] t (0, 0)) :=
  ⟨heap_setCell_same W b 0 _ _ _ h, heap_setCell_same W b 1 _ _ _ h⟩
def apartV (a b : Value) : Prop := a.ownBlock = none ∨ a.ownBlock ≠ b.ownBlock
set_option maxHeartbeats 16000000 in
set_option maxRecDepth 100000 in
theorem Seats_any (v : Value) (g : Gd) (B : Nat) (w : World) (h : GdAt w B v g) (hB : B ≤ w.heap.size) (hg : OkG g) :
    Calls Tryd.prog 31 #[v] w fun e w' => ∃ g0 c0 g1 c1 l0 l1, e = .returned (.tuple #[.slice (some ⟨g0, 0, none⟩) (gN g) c0, .slice (some ⟨g1, 0, none⟩) (gN g) c1]) ∧
      w'.ownsRow w.heap.size 77 2 (.slice (some ⟨g0, 0, none⟩) (gN g) c0) (gN g) (seatV l0) ∧ w'.ownsRow w.heap.size 77 2 (.slice (some ⟨g1, 0, none⟩) (gN g) c1) (gN g) (seatV l1) ∧
      MK l0 (gN g) (markd false (slotsL (gS g) (gN g) (gN g))) ∧ MK l1 (gN g) (markd true (slotsL (gS g) (gN g) (gN g))) ∧ Below w.heap.size w w' := by
  have h256 := (area_le hg).1
  have hlB := hg.b
  have hpos : 0 < gN g := Nat.mul_pos (area_le hg).2.2.2.1 (area_le hg).2.1
  have cch := fun W (hb : Below B w W) (hz : B ≤ W.heap.size) => Check_any v g B W (h.below hb) hz (by have := hg.b; have := hg.r; have := hg.d; omega)
  rw [check_of_ok hg] at cch
  have cli := fun (W : World) (hb : Below w.heap.size w W) => List_any v g B W (h.below (hb.mono hB)) (Nat.le_trans hB hb.size) hg
  have hcl : ∀ s ∈ slotsL (gS g) (gN g) (gN g), s.2.length ≤ 16 ∧ ∀ c ∈ s.2, c < gN g := fun s hs => by
    have ha := area_le hg
    refine ⟨(slot_len ha.2.2.2.2 ha.2.2.1 hs).2, ?_⟩
    refine slot_lt (B := gt g.B) (R := gt g.R) (D := gt g.D) (s := s.2) ?_
    rw [← slotsL_to]
    exact List.mem_map_of_mem hs
  have hLl := slotsL_len (gS g) (gN g) (gN g)
  obtain ⟨Ab, Ar, Ad, cb, cr, cd, rfl⟩ := h.form
  obtain ⟨i0, hi0, hz0, hz1, hz2⟩ := info_parts infoSeat
  clear h hg
  unfold stpG at cli
  unfold gN gS at *
  generalize slotsL (stW g.H.toNat g.W.toNat (gt g.B) (gt g.R) (gt g.D)) (g.H.toNat * g.W.toNat) (g.H.toNat * g.W.toNat) = L at *
  generalize g.H.toNat * g.W.toNat = n at *
  obtain ⟨gH, gW, gB, gR, gD⟩ := g
  simp only [gdV] at cch cli hlB ⊢
  rw [hlB] at cch cli ⊢
  generalize gR.length = nr at *
  generalize gD.length = nd at *
  have CCH := Lib.hid cch; have CLI := Lib.hid cli; have HCL := Lib.hid hcl; clear cch cli hcl hlB
  have HB0 := Lib.hid hB; clear hB
  go_enter Tryd.func31, Tryd.ntmps31
  go_wp2_with fail
  have hba : Below w.heap.size w _ := (Below.refl _ w).alloc (Nat.le_refl _) (.cells #[.int .i64 gH, .int .i64 gW, .slice Ab n cb, .slice Ar nr cr, .slice Ad nd cd] 27)
  have hg0 := World.alloc_heap_new w (.cells #[.int .i64 gH, .int .i64 gW, .slice Ab n cb, .slice Ar nr cr, .slice Ad nd cd] 27)
  have hz3 : w.heap.size + 1 = (w.alloc (.cells #[.int .i64 gH, .int .i64 gW, .slice Ab n cb, .slice Ar nr cr, .slice Ad nd cd] 27)).heap.size := by simp
  refine (CCH.out _ (hba.mono HB0.out) (by have := HB0.out; omega)).mono ?_
  rintro e w1 ⟨rfl, hb1⟩
  have hg1 := (hb1.block w.heap.size (by omega)).trans hg0
  have p2 := Lib.cell_of_heap hg1 2
  have z1 := hb1.size
  have HBW := Lib.hid (hba.trans (hb1.mono (by omega)))
  have HG1 := Lib.hid hg1
  clear hba hg0 hz3 hb1 hg1
  have lw1 : w.heap.size < w1.heap.size := (Array.getElem?_eq_some_iff.1 HG1.out).1
  go_wp2_with fail
  clear p2
  have HX0 : Hid ((w1.alloc (.cells #[.slice none 0 0, .slice none 0 0] 89)).heap[w1.heap.size]? = some (.cells #[.slice none 0 0, .slice none 0 0] 89 (0, 0))) := Lib.hid (World.alloc_heap_new w1 _)
  have HG2 : Hid ((w1.alloc (.cells #[.slice none 0 0, .slice none 0 0] 89)).heap[w.heap.size]? = some (.cells #[.int .i64 gH, .int .i64 gW, .slice Ab n cb, .slice Ar nr cr, .slice Ad nd cd] 27 (0, 0))) := Lib.hid ((Below.heap_alloc _ _ _ lw1).trans HG1.out)
  have HB2 : Hid (Below w.heap.size w (w1.alloc (.cells #[.slice none 0 0, .slice none 0 0] 89))) := Lib.hid (HBW.out.alloc (by omega) _)
  generalize w1.alloc (.cells #[.slice none 0 0, .slice none 0 0] 89) = w2 at *
  generalize hbs : w1.heap.size = bs at *
  clear hbs
  go_loopg [16] n (fun gf u16 wr => ∃ (i : Nat) (A0 A1 : Option Addr) (c0 c1 : Nat), u16 = .int .i64 i ∧ i ≤ n ∧ n ≤ i + gf ∧ Hid (Below w.heap.size w wr) ∧ Hid (wr.heap[w.heap.size]? = some (.cells #[.int .i64 gH, .int .i64 gW, .slice Ab n cb, .slice Ar nr cr, .slice Ad nd cd] 27 (0, 0))) ∧
    Hid (wr.heap[bs]? = some (.cells #[.slice A0 i c0, .slice A1 i c1] 89 (0, 0))) ∧ Hid (wr.ownsRow (bs + 1) 77 2 (.slice A0 i c0) i (seatV (List.replicate i ((-1 : Int), (0 : Int))))) ∧
    Hid (wr.ownsRow (bs + 1) 77 2 (.slice A1 i c1) i (seatV (List.replicate i ((-1 : Int), (0 : Int))))) ∧ Hid (Apart (.slice A0 i c0) (.slice A1 i c1)))
  case atStart => exact ⟨0, none, none, 0, 0, rfl, Nat.zero_le _, by omega, HB2, HG2, HX0, Lib.hid (World.ownsRow_nil _ _ _ _), Lib.hid (World.ownsRow_nil _ _ _ _), Lib.hid (fun j hj => by cases hj)⟩
  case round =>
    clear HB2 HG2 HX0
    rename World => w5
    obtain ⟨i, A0, A1, c0, c1, rfl, hi, hfu, HB5, HG5, HX5, HO0, HO1, HAP⟩ := hrel
    have lbs : bs < w5.heap.size := (Array.getElem?_eq_some_iff.1 HX5.out).1
    by_cases hlt : i < n
    · obtain ⟨g', rfl⟩ : ∃ g', gk = g' + 1 := ⟨gk - 1, by omega⟩
      have r0 := Lib.cell_of_heap HX5.out 0
      go_upto_region 7 with (at_builtin; refine wpList_append_own_at _ rfl (.tmp 19) (.tmp 21) 73 rfl (bs + 1) 77 i0 (.agg #[.int .i64 0, .int .i64 0]) 2 16 Tryd.underlying73 hi0 hz0 hz1 hz2 rfl (by decide) (.slice A0 i c0) i (seatV (List.replicate i ((-1 : Int), (0 : Int)))) rfl (HO0.out.alloc _) ⟨w5.heap.size, 0, none⟩ 1 1 [.int .i64 (-1), .int .i64 0] rfl rfl (news2 _ _ _ _) (by simp [Value.oneCell']) (by unfold maxLen; omega) (by omega) (by simp only [World.size_alloc]; omega) ?_; intro v' w6 hown6 hg6 _ hat6; obtain ⟨A6, c6, rfl⟩ := own_formZ hown6; have hx6 := (hg6.block bs (by simp only [World.size_alloc]; omega) (fun e => by have := (HO0.out.lt _ e.symm).1; omega)).trans ((Below.heap_alloc _ _ _ lbs).trans HX5.out); have s0 := Lib.cell_of_heap hx6 0; have s1 := Lib.cell_of_heap hx6 1; have s2 := Lib.frozen_of_heap hx6 0; have s3 := Lib.frozen_of_heap hx6 1)
      have hlw6 : (w5.alloc (.cells #[.int .i64 (-1), .int .i64 0] 77)).heap.size ≤ w6.heap.size := hg6.size
      have hB6 : Below w.heap.size w w6 := (HB5.out.alloc (by omega) (.cells #[.int .i64 (-1), .int .i64 0] 77)).grown hg6 (by simp only [World.size_alloc]; omega) (fun j hj => by have := (HO0.out.lt j hj).1; omega)
      have hG6 := (hg6.block w.heap.size (by simp only [World.size_alloc]; omega) (fun e => by have := (HO0.out.lt _ e.symm).1; omega)).trans ((Below.heap_alloc _ _ _ (by omega)).trans HG5.out)
      have hO1 := (HO1.out.alloc (.cells #[.int .i64 (-1), .int .i64 0] 77)).kept hg6 (by
        cases hx : Value.ownBlock (.slice A1 i c1) with
        | none => exact .inl rfl
        | some j => exact .inr (fun h2 => HAP.out j h2.symm hx))
      have hAP : Apart (.slice A6 (i + 1) c6) (.slice A1 i c1) := by
        intro j hj h2
        rcases hat6 with h3 | h3
        · exact HAP.out j (h3 ▸ hj) h2
        · have := (HO1.out.lt j h2).2
          rw [h3] at hj
          injection hj with hj
          simp only [World.size_alloc] at hj
          omega
      have hO0 : w6.ownsRow (bs + 1) 77 2 (.slice A6 (i + 1) c6) (i + 1) (seatV (List.replicate (i + 1) ((-1 : Int), (0 : Int)))) := by
        rw [List.replicate_succ', seatV_append]; exact hown6
      have hx7 := (two_set (u := .slice A6 (i + 1) c6) hx6).1
      have hO07 := ownsRow_setCell_below hO0 (a := ⟨bs, 0, none⟩) (show bs < bs + 1 by omega) (.slice A6 (i + 1) c6)
      have hO17 := ownsRow_setCell_below hO1 (a := ⟨bs, 0, none⟩) (show bs < bs + 1 by omega) (.slice A6 (i + 1) c6)
      have hB7 := hB6.setCell (p := ⟨bs, 0, none⟩) (show w.heap.size ≤ bs by omega) (.slice A6 (i + 1) c6)
      have hG7 := (Below.heap_setCell w6 ⟨bs, 0, none⟩ (.slice A6 (i + 1) c6) w.heap.size (show w.heap.size ≠ bs by omega)).trans hG6
      generalize w6.setCell ⟨bs, 0, none⟩ (.slice A6 (i + 1) c6) = w7 at *
      have HO07 := Lib.hid hO07; have HO17 := Lib.hid hO17; have HB7 := Lib.hid hB7; have HG7 := Lib.hid hG7; have HX7 := Lib.hid hx7; have HAP7 := Lib.hid hAP
      have rr1 := Lib.cell_of_heap hx7 1
      have lbs7 : bs < w7.heap.size := (Array.getElem?_eq_some_iff.1 hx7).1
      clear hO07 hO17 hB7 hG7 hx7 hAP hx6 s0 s1 s2 s3 r0 hO0 hO1 hG6 hB6 hlw6 hat6 hg6 hown6
      go_wp2_with (at_builtin; refine wpList_append_own_at _ rfl (.tmp 25) (.tmp 27) 73 rfl (bs + 1) 77 i0 (.agg #[.int .i64 0, .int .i64 0]) 2 16 Tryd.underlying73 hi0 hz0 hz1 hz2 rfl (by decide) (.slice A1 i c1) i (seatV (List.replicate i ((-1 : Int), (0 : Int)))) rfl (HO17.out.alloc _) ⟨w7.heap.size, 0, none⟩ 1 1 [.int .i64 (-1), .int .i64 0] rfl rfl (news2 _ _ _ _) (by simp [Value.oneCell']) (by unfold maxLen; omega) (by omega) (by simp only [World.size_alloc]; omega) ?_; intro v' w8 hown8 hg8 _ hat8; obtain ⟨A8, c8, rfl⟩ := own_formZ hown8; have hx8 := (hg8.block bs (by simp only [World.size_alloc]; omega) (fun e => by have := (HO17.out.lt _ e.symm).1; omega)).trans ((Below.heap_alloc _ _ _ lbs7).trans HX7.out); have s0 := Lib.cell_of_heap hx8 0; have s1 := Lib.cell_of_heap hx8 1; have s2 := Lib.frozen_of_heap hx8 0; have s3 := Lib.frozen_of_heap hx8 1)
      have hB8 : Below w.heap.size w w8 := (HB7.out.alloc (by omega) (.cells #[.int .i64 (-1), .int .i64 0] 77)).grown hg8 (by simp only [World.size_alloc]; omega) (fun j hj => by have := (HO17.out.lt j hj).1; omega)
      have hG8 := (hg8.block w.heap.size (by simp only [World.size_alloc]; omega) (fun e => by have := (HO17.out.lt _ e.symm).1; omega)).trans ((Below.heap_alloc _ _ _ (by omega)).trans HG7.out)
      have hO0 := (HO07.out.alloc (.cells #[.int .i64 (-1), .int .i64 0] 77)).kept hg8 (by
        cases hx : Value.ownBlock (.slice A6 (i + 1) c6) with
        | none => exact .inl rfl
        | some j => exact .inr (fun h2 => HAP7.out j hx h2.symm))
      have hAP : Apart (.slice A6 (i + 1) c6) (.slice A8 (i + 1) c8) := by
        intro j hj h2
        rcases hat8 with h3 | h3
        · exact HAP7.out j hj (h3 ▸ h2)
        · have := (HO07.out.lt j hj).2
          rw [h3] at h2
          injection h2 with h2
          simp only [World.size_alloc] at h2
          omega
      have hO1 : w8.ownsRow (bs + 1) 77 2 (.slice A8 (i + 1) c8) (i + 1) (seatV (List.replicate (i + 1) ((-1 : Int), (0 : Int)))) := by
        rw [List.replicate_succ', seatV_append]; exact hown8
      have hx9 := (two_set (u := .slice A8 (i + 1) c8) hx8).2
      have hO09 := ownsRow_setCell_below hO0 (a := ⟨bs, 1, none⟩) (show bs < bs + 1 by omega) (.slice A8 (i + 1) c8)
      have hO19 := ownsRow_setCell_below hO1 (a := ⟨bs, 1, none⟩) (show bs < bs + 1 by omega) (.slice A8 (i + 1) c8)
      have hB9 := hB8.setCell (p := ⟨bs, 1, none⟩) (show w.heap.size ≤ bs by omega) (.slice A8 (i + 1) c8)
      have hG9 := (Below.heap_setCell w8 ⟨bs, 1, none⟩ (.slice A8 (i + 1) c8) w.heap.size (show w.heap.size ≠ bs by omega)).trans hG8
      go_roundg g'
      case measure => omega
      case rel => exact ⟨i + 1, A6, A8, c6, c8, by go_num, by omega, by omega, Lib.hid hB9, Lib.hid hG9, Lib.hid hx9, Lib.hid hO09, Lib.hid hO19, Lib.hid hAP⟩
    · obtain rfl : n = i := by omega
      obtain ⟨g0, c0', hv0⟩ := own_row_new HO0.out hpos
      injection hv0 with e1 _ e3
      subst e1
      subst e3
      obtain ⟨g1, c1', hv1⟩ := own_row_new HO1.out hpos
      injection hv1 with e1 _ e3
      subst e1
      subst e3
      have HSE : Hid (SeatsAt w5 bs g0 c0 g1 c1 n (List.replicate n ((-1 : Int), (0 : Int))) (List.replicate n ((-1 : Int), (0 : Int)))) := Lib.hid ⟨HX5.out, HO0.out, HO1.out, fun e => HAP.out g0 rfl (by rw [e]; rfl)⟩
      have hlg0 := (HO0.out.lt g0 rfl).2
      have hlg1 := (HO1.out.lt g1 rfl).2
      have hlg2 := (HO0.out.lt g0 rfl).1
      have hlg3 := (HO1.out.lt g1 rfl).1
      clear HX5 HO0 HO1 HAP
      have p0 := Lib.cell_of_heap HG5.out 0
      have p1 := Lib.cell_of_heap HG5.out 1
      have p2 := Lib.cell_of_heap HG5.out 2
      have p3 := Lib.cell_of_heap HG5.out 3
      have p4 := Lib.cell_of_heap HG5.out 4
      go_wp2_with fail
      refine (CLI.out w5 HB5.out).mono ?_
      rintro e w6 ⟨vs, A3, c3, rfl, hsl, hb6⟩
      clear p0 p1 p2 p3 p4
      have z6 := hb6.size
      have HB6 := Lib.hid (HB5.out.trans (hb6.mono (by omega)))
      have HSE6 := Lib.hid (HSE.out.below hb6)
      have HSL6 := Lib.hid hsl
      clear hb6 hsl HSE
      go_wp2_with fail
      go_loopg [5, 6, 7, 8, 9, 34] L.length (fun gf _ _ _ _ _ u34 wr => ∃ (m : Nat) (l0 l1 : List (Int × Int)), u34 = .int .i64 m ∧ m ≤ L.length ∧ L.length ≤ m + gf ∧ Hid (Below w.heap.size w wr) ∧ w5.heap.size ≤ wr.heap.size ∧
        Hid (SlotsAt wr w5.heap.size (.slice A3 L.length c3) vs L) ∧ Hid (SeatsAt wr bs g0 c0 g1 c1 n l0 l1) ∧ Hid (MK l0 n (markd false (L.take m))) ∧ Hid (MK l1 n (markd true (L.take m))))
      case atStart => exact ⟨0, _, _, rfl, Nat.zero_le _, by omega, HB6, z6, HSL6, HSE6, Lib.hid (MK.new n), Lib.hid (MK.new n)⟩
      case round =>
        clear HB6 HSL6 HSE6 z6
        rename World => w7
        obtain ⟨m, l0, l1, rfl, hm, hfu2, HB7, z7, HSL7, HSE7, HM0, HM1⟩ := hrel
        by_cases hm2 : m < L.length
        · obtain ⟨g2, rfl⟩ : ∃ g2, gk = g2 + 1 := ⟨gk - 1, by omega⟩
          obtain ⟨gl, cap3, hv, _⟩ := own_headZ HSL7.out.own (by omega)
          injection hv with hv1 _ hv3
          subst hv1
          subst hv3
          obtain ⟨s, hs⟩ : ∃ s, L[m] = s := ⟨_, rfl⟩
          have hsm : s ∈ L := by rw [← hs]; exact List.getElem_mem _
          have HTK : Hid (L.take (m + 1) = L.take m ++ [s]) := Lib.hid (by rw [List.take_succ_eq_append_getElem hm2, hs])
          obtain ⟨num, As, cs, q0, q1, q2, oc⟩ := HSL7.out.at_ (i := m) (s := s) (by rw [List.getElem?_eq_getElem hm2, hs])
          obtain ⟨hs16, hcn⟩ := HCL.out s hsm
          have HOC := Lib.hid oc; have HCN := Lib.hid hcn
          have i3 : (0 : Int) ≤ (m : Int) := by omega
          have i4 : (m : Int) < (L.length : Int) := by omega
          clear oc hs hsm hcn
          obtain ⟨sb, sc⟩ := s
          simp only at *
          cases sb
          · skip
            go_wp2_with fail
            have hbX : Below w.heap.size w _ := HB7.out.alloc (by omega) (.cells #[.int .i64 num, .bool false, .slice As sc.length cs] 39)
            have hX := World.alloc_heap_new w7 (.cells #[.int .i64 num, .bool false, .slice As sc.length cs] 39)
            have hseX := HSE7.out.below ((Below.refl _ w7).alloc (Nat.le_refl _) (.cells #[.int .i64 num, .bool false, .slice As sc.length cs] 39))
            have hslX := HSL7.out.below ((Below.refl _ w7).alloc (Nat.le_refl _) (.cells #[.int .i64 num, .bool false, .slice As sc.length cs] 39))
            have hocX := own_belowS HOC.out ((Below.refl _ w7).alloc (Nat.le_refl _) (.cells #[.int .i64 num, .bool false, .slice As sc.length cs] 39))
            have zX : w5.heap.size ≤ (w7.alloc (.cells #[.int .i64 num, .bool false, .slice As sc.length cs] 39)).heap.size := by rw [World.size_alloc]; omega
            have q2X : (w7.alloc (.cells #[.int .i64 num, .bool false, .slice As sc.length cs] 39)).cell? ⟨w7.heap.size, 2, none⟩ = some (.slice As sc.length cs) := Lib.cell_of_heap hX 2
            generalize w7.alloc (.cells #[.int .i64 num, .bool false, .slice As sc.length cs] 39) = w8 at *
            have HB8 := Lib.hid hbX; have HX8 := Lib.hid hX; have HSE8 := Lib.hid hseX; have HSL8 := Lib.hid hslX; have HOC8 := Lib.hid hocX
            clear hbX hX hseX hslX hocX q0 q1 q2
            go_wp2_with fail
            clear q2X
            go_loopg [8, 9, 44] sc.length (fun gf _ _ u44 wr => ∃ (c : Nat) (l0b l1b : List (Int × Int)), u44 = .int .i64 c ∧ c ≤ sc.length ∧ sc.length ≤ c + gf ∧ Hid (Below w.heap.size w wr) ∧ w5.heap.size ≤ wr.heap.size ∧ Hid (wr.heap[w7.heap.size]? = some (.cells #[.int .i64 num, .bool false, .slice As sc.length cs] 39 (0, 0))) ∧
              Hid (SlotsAt wr w5.heap.size (.slice (some ⟨gl, 0, none⟩) L.length c3) vs L) ∧ Hid (SeatsAt wr bs g0 c0 g1 c1 n l0b l1b) ∧ Hid (wr.ownsRow w5.heap.size 3 1 (.slice As sc.length cs) sc.length (ints sc)) ∧ Hid (MK l0b n (fun i => markd false (L.take m) i || (sc.take c).contains i)) ∧ Hid (MK l1b n (markd true (L.take m))))
            case atStart => exact ⟨0, l0, l1, rfl, Nat.zero_le _, by omega, HB8, zX, HX8, HSL8, HSE8, HOC8, Lib.hid (HM0.out.congr (fun i hi => by simp)), Lib.hid (HM1.out.congr (fun i hi => by simp))⟩
            case round =>
              clear HB8 HX8 HSL8 HSE8 HOC8 zX
              rename World => w9
              obtain ⟨c, l0b, l1b, rfl, hc, hfu3, HB9, z9, HX9, HSL9, HSE9, HOC9, HM0b, HM1b⟩ := hrel
              by_cases hc2 : c < sc.length
              · obtain ⟨g3, rfl⟩ : ∃ g3, gk = g3 + 1 := ⟨gk - 1, by omega⟩
                obtain ⟨gc, capc, hv, _⟩ := own_headZ HOC9.out (by omega)
                injection hv with hv1 _ hv4
                subst hv1
                subst hv4
                obtain ⟨x, hx⟩ : ∃ x, sc[c] = x := ⟨_, rfl⟩
                have hxn : x < n := HCN.out x (by rw [← hx]; exact List.getElem_mem _)
                have q3 : w9.cell? ⟨gc, c, none⟩ = some (.int .i64 (x : Nat)) := by
                  have h1 := HOC9.out.cellAt c (by omega)
                  rw [ints, List.getElem?_map, List.getElem?_eq_getElem hc2, hx] at h1
                  exact h1
                have HTC : Hid (sc.take (c + 1) = sc.take c ++ [x]) := Lib.hid (by rw [List.take_succ_eq_append_getElem hc2, hx])
                have r0 := Lib.cell_of_heap HSE9.out.box 0
                have r1 := Lib.cell_of_heap HSE9.out.box 1
                have hll : l0b.length = n := HM0b.out.len
                obtain ⟨pp, hpp⟩ : ∃ pp, l0b[x]? = some pp := ⟨_, List.getElem?_eq_getElem (by omega)⟩
                obtain ⟨v1, v2⟩ := seatV_get l0b x pp hpp
                have k1 : w9.cell? ⟨g0, x * 2, none⟩ = some (.int .i64 pp.1) := (HSE9.out.o0.cellAt (x * 2) (by omega)).trans v1
                have k2 : w9.cell? ⟨g0, x * 2 + 1, none⟩ = some (.int .i64 pp.2) := (HSE9.out.o0.cellAt (x * 2 + 1) (by omega)).trans v2
                have k3 : w9.frozen? ⟨g0, x * 2, none⟩ = false := HSE9.out.o0.frozenAt (x * 2)
                have k4 : w9.frozen? ⟨g0, x * 2 + 1, none⟩ = false := HSE9.out.o0.frozenAt (x * 2 + 1)
                have i5 : (0 : Int) ≤ (c : Int) := by omega
                have i6 : (c : Int) < (sc.length : Int) := by omega
                have i7 : (0 : Int) ≤ (x : Int) := by omega
                have i8 : (x : Int) < (n : Int) := by omega
                have HSE10 := Lib.hid (HSE9.out.put0 x (m : Int) (c : Int))
                have HSL10 := Lib.hid ((HSL9.out.setBelow (g := g0) (i := x * 2) (u := .int .i64 (m : Int)) (by omega)).setBelow (g := g0) (i := x * 2 + 1) (u := .int .i64 (c : Int)) (by omega))
                have HOC10 := Lib.hid (ownsRow_setCell_below (ownsRow_setCell_below HOC9.out (a := ⟨g0, x * 2, none⟩) (show g0 < w5.heap.size by omega) (.int .i64 (m : Int))) (a := ⟨g0, x * 2 + 1, none⟩) (show g0 < w5.heap.size by omega) (.int .i64 (c : Int)))
                have HB10 := Lib.hid ((HB9.out.setCell (p := ⟨g0, x * 2, none⟩) (show w.heap.size ≤ g0 by omega) (.int .i64 (m : Int))).setCell (p := ⟨g0, x * 2 + 1, none⟩) (show w.heap.size ≤ g0 by omega) (.int .i64 (c : Int)))
                have HX10 := Lib.hid ((Below.heap_setCell (w9.setCell ⟨g0, x * 2, none⟩ (.int .i64 (m : Int))) ⟨g0, x * 2 + 1, none⟩ (.int .i64 (c : Int)) w7.heap.size (show w7.heap.size ≠ g0 by omega)).trans ((Below.heap_setCell w9 ⟨g0, x * 2, none⟩ (.int .i64 (m : Int)) w7.heap.size (show w7.heap.size ≠ g0 by omega)).trans HX9.out))
                have HMN : Hid (MK (l0b.set x ((m : Int), (c : Int))) n fun i => markd false (L.take m) i || (sc.take (c + 1)).contains i) := Lib.hid ((HM0b.out.set (m : Int) (c : Int) (by omega)).congr (fun i hi => by rw [HTC.out, Bool.or_assoc]; congr 1; simp [List.contains_append, Bool.or_comm, eq_comm]))
                have HZ10 : Hid (w5.heap.size ≤ ((w9.setCell ⟨g0, x * 2, none⟩ (.int .i64 (m : Int))).setCell ⟨g0, x * 2 + 1, none⟩ (.int .i64 (c : Int))).heap.size) := Lib.hid (by simp; omega)
                generalize pp.1 = pa at *
                generalize pp.2 = pb at *
                clear hx hpp v1 v2 hll
                go_wp2_with fail
                go_roundg g3
                case measure => omega
                case rel => exact ⟨c + 1, l0b.set x ((m : Int), (c : Int)), l1b, by go_num, by omega, by omega, HB10, HZ10.out, HX10, HSL10, HSE10, HOC10, HMN, HM1b⟩
              · obtain rfl : sc.length = c := by omega
                have HM0c := HM0b.out
                have HM1c := HM1b.out
                rw [List.take_length] at HM0c
                go_wp2_with fail
                go_roundg g2
                case measure => omega
                case rel => exact ⟨m + 1, l0b, l1b, by go_num, by omega, by omega, HB9, z9, HSL9, HSE9, Lib.hid (HM0c.congr (fun i hi => by rw [HTK.out, markd_snoc]; simp)), Lib.hid (HM1c.congr (fun i hi => by rw [HTK.out, markd_snoc]; simp))⟩
          · skip
            go_wp2_with fail
            have hbX : Below w.heap.size w _ := HB7.out.alloc (by omega) (.cells #[.int .i64 num, .bool true, .slice As sc.length cs] 39)
            have hX := World.alloc_heap_new w7 (.cells #[.int .i64 num, .bool true, .slice As sc.length cs] 39)
            have hseX := HSE7.out.below ((Below.refl _ w7).alloc (Nat.le_refl _) (.cells #[.int .i64 num, .bool true, .slice As sc.length cs] 39))
            have hslX := HSL7.out.below ((Below.refl _ w7).alloc (Nat.le_refl _) (.cells #[.int .i64 num, .bool true, .slice As sc.length cs] 39))
            have hocX := own_belowS HOC.out ((Below.refl _ w7).alloc (Nat.le_refl _) (.cells #[.int .i64 num, .bool true, .slice As sc.length cs] 39))
            have zX : w5.heap.size ≤ (w7.alloc (.cells #[.int .i64 num, .bool true, .slice As sc.length cs] 39)).heap.size := by rw [World.size_alloc]; omega
            have q2X : (w7.alloc (.cells #[.int .i64 num, .bool true, .slice As sc.length cs] 39)).cell? ⟨w7.heap.size, 2, none⟩ = some (.slice As sc.length cs) := Lib.cell_of_heap hX 2
            generalize w7.alloc (.cells #[.int .i64 num, .bool true, .slice As sc.length cs] 39) = w8 at *
            have HB8 := Lib.hid hbX; have HX8 := Lib.hid hX; have HSE8 := Lib.hid hseX; have HSL8 := Lib.hid hslX; have HOC8 := Lib.hid hocX
            clear hbX hX hseX hslX hocX q0 q1 q2
            go_wp2_with fail
            clear q2X
            go_loopg [8, 9, 44] sc.length (fun gf _ _ u44 wr => ∃ (c : Nat) (l0b l1b : List (Int × Int)), u44 = .int .i64 c ∧ c ≤ sc.length ∧ sc.length ≤ c + gf ∧ Hid (Below w.heap.size w wr) ∧ w5.heap.size ≤ wr.heap.size ∧ Hid (wr.heap[w7.heap.size]? = some (.cells #[.int .i64 num, .bool true, .slice As sc.length cs] 39 (0, 0))) ∧
              Hid (SlotsAt wr w5.heap.size (.slice (some ⟨gl, 0, none⟩) L.length c3) vs L) ∧ Hid (SeatsAt wr bs g0 c0 g1 c1 n l0b l1b) ∧ Hid (wr.ownsRow w5.heap.size 3 1 (.slice As sc.length cs) sc.length (ints sc)) ∧ Hid (MK l0b n (markd false (L.take m))) ∧ Hid (MK l1b n (fun i => markd true (L.take m) i || (sc.take c).contains i)))
            case atStart => exact ⟨0, l0, l1, rfl, Nat.zero_le _, by omega, HB8, zX, HX8, HSL8, HSE8, HOC8, Lib.hid (HM0.out.congr (fun i hi => by simp)), Lib.hid (HM1.out.congr (fun i hi => by simp))⟩
            case round =>
              clear HB8 HX8 HSL8 HSE8 HOC8 zX
              rename World => w9
              obtain ⟨c, l0b, l1b, rfl, hc, hfu3, HB9, z9, HX9, HSL9, HSE9, HOC9, HM0b, HM1b⟩ := hrel
              by_cases hc2 : c < sc.length
              · obtain ⟨g3, rfl⟩ : ∃ g3, gk = g3 + 1 := ⟨gk - 1, by omega⟩
                obtain ⟨gc, capc, hv, _⟩ := own_headZ HOC9.out (by omega)
                injection hv with hv1 _ hv4
                subst hv1
                subst hv4
                obtain ⟨x, hx⟩ : ∃ x, sc[c] = x := ⟨_, rfl⟩
                have hxn : x < n := HCN.out x (by rw [← hx]; exact List.getElem_mem _)
                have q3 : w9.cell? ⟨gc, c, none⟩ = some (.int .i64 (x : Nat)) := by
                  have h1 := HOC9.out.cellAt c (by omega)
                  rw [ints, List.getElem?_map, List.getElem?_eq_getElem hc2, hx] at h1
                  exact h1
                have HTC : Hid (sc.take (c + 1) = sc.take c ++ [x]) := Lib.hid (by rw [List.take_succ_eq_append_getElem hc2, hx])
                have r0 := Lib.cell_of_heap HSE9.out.box 0
                have r1 := Lib.cell_of_heap HSE9.out.box 1
                have hll : l1b.length = n := HM1b.out.len
                obtain ⟨pp, hpp⟩ : ∃ pp, l1b[x]? = some pp := ⟨_, List.getElem?_eq_getElem (by omega)⟩
                obtain ⟨v1, v2⟩ := seatV_get l1b x pp hpp
                have k1 : w9.cell? ⟨g1, x * 2, none⟩ = some (.int .i64 pp.1) := (HSE9.out.o1.cellAt (x * 2) (by omega)).trans v1
                have k2 : w9.cell? ⟨g1, x * 2 + 1, none⟩ = some (.int .i64 pp.2) := (HSE9.out.o1.cellAt (x * 2 + 1) (by omega)).trans v2
                have k3 : w9.frozen? ⟨g1, x * 2, none⟩ = false := HSE9.out.o1.frozenAt (x * 2)
                have k4 : w9.frozen? ⟨g1, x * 2 + 1, none⟩ = false := HSE9.out.o1.frozenAt (x * 2 + 1)
                have i5 : (0 : Int) ≤ (c : Int) := by omega
                have i6 : (c : Int) < (sc.length : Int) := by omega
                have i7 : (0 : Int) ≤ (x : Int) := by omega
                have i8 : (x : Int) < (n : Int) := by omega
                have HSE10 := Lib.hid (HSE9.out.put1 x (m : Int) (c : Int))
                have HSL10 := Lib.hid ((HSL9.out.setBelow (g := g1) (i := x * 2) (u := .int .i64 (m : Int)) (by omega)).setBelow (g := g1) (i := x * 2 + 1) (u := .int .i64 (c : Int)) (by omega))
                have HOC10 := Lib.hid (ownsRow_setCell_below (ownsRow_setCell_below HOC9.out (a := ⟨g1, x * 2, none⟩) (show g1 < w5.heap.size by omega) (.int .i64 (m : Int))) (a := ⟨g1, x * 2 + 1, none⟩) (show g1 < w5.heap.size by omega) (.int .i64 (c : Int)))
                have HB10 := Lib.hid ((HB9.out.setCell (p := ⟨g1, x * 2, none⟩) (show w.heap.size ≤ g1 by omega) (.int .i64 (m : Int))).setCell (p := ⟨g1, x * 2 + 1, none⟩) (show w.heap.size ≤ g1 by omega) (.int .i64 (c : Int)))
                have HX10 := Lib.hid ((Below.heap_setCell (w9.setCell ⟨g1, x * 2, none⟩ (.int .i64 (m : Int))) ⟨g1, x * 2 + 1, none⟩ (.int .i64 (c : Int)) w7.heap.size (show w7.heap.size ≠ g1 by omega)).trans ((Below.heap_setCell w9 ⟨g1, x * 2, none⟩ (.int .i64 (m : Int)) w7.heap.size (show w7.heap.size ≠ g1 by omega)).trans HX9.out))
                have HMN : Hid (MK (l1b.set x ((m : Int), (c : Int))) n fun i => markd true (L.take m) i || (sc.take (c + 1)).contains i) := Lib.hid ((HM1b.out.set (m : Int) (c : Int) (by omega)).congr (fun i hi => by rw [HTC.out, Bool.or_assoc]; congr 1; simp [List.contains_append, Bool.or_comm, eq_comm]))
                have HZ10 : Hid (w5.heap.size ≤ ((w9.setCell ⟨g1, x * 2, none⟩ (.int .i64 (m : Int))).setCell ⟨g1, x * 2 + 1, none⟩ (.int .i64 (c : Int))).heap.size) := Lib.hid (by simp; omega)
                generalize pp.1 = pa at *
                generalize pp.2 = pb at *
                clear hx hpp v1 v2 hll
                go_wp2_with fail
                go_roundg g3
                case measure => omega
                case rel => exact ⟨c + 1, l0b, l1b.set x ((m : Int), (c : Int)), by go_num, by omega, by omega, HB10, HZ10.out, HX10, HSL10, HSE10, HOC10, HM0b, HMN⟩
              · obtain rfl : sc.length = c := by omega
                have HM0c := HM0b.out
                have HM1c := HM1b.out
                rw [List.take_length] at HM1c
                go_wp2_with fail
                go_roundg g2
                case measure => omega
                case rel => exact ⟨m + 1, l0b, l1b, by go_num, by omega, by omega, HB9, z9, HSL9, HSE9, Lib.hid (HM0c.congr (fun i hi => by rw [HTK.out, markd_snoc]; simp)), Lib.hid (HM1c.congr (fun i hi => by rw [HTK.out, markd_snoc]; simp))⟩
        · obtain rfl : L.length = m := by omega
          rw [List.take_length] at HM0 HM1
          have r0 := Lib.cell_of_heap HSE7.out.box 0
          have r1 := Lib.cell_of_heap HSE7.out.box 1
          have HQ := Lib.hid (fun q => bdraw HB7.out q)
          go_wp2_with fail
          go_quiet (fail)
          go_wp2_with fail
          go_ret2
          refine ⟨g0, c0, g1, c1, l0, l1, rfl, own_base (own_belowS HSE7.out.o0 (bdraw (Below.refl _ w7) _)) (by omega), own_base (own_belowS HSE7.out.o1 (bdraw (Below.refl _ w7) _)) (by omega), HM0.out, HM1.out, HQ.out _⟩
end Go.Proofs.YtonibpilbkafnaaDoor
