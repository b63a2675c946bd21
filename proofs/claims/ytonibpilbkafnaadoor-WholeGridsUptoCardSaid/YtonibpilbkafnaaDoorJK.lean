/- Joined texts: O16: walks and plain laws for this seat's program, each stated where it stands; conditions: as each states. -/
import Derived.Test.YtonibpilbkafnaaDoorJE
import Derived.IntWalk
/- Package grid: ways, step, open, Open, Step. -/
namespace Go.Proofs.YtonibpilbkafnaaDoor
set_option linter.unusedVariables false
set_option linter.unusedSimpArgs false
open Go.RowKit Go.Lib

theorem results_way {fn : Func} {p : Tmp} (h : fn.results = #[.cell p 92]) (tmps : Array Value) (W : World) (g : Nat) (t : TypeId) (c0 c1 c2 c3 c4 c5 c6 c7 : Value) (fr : Nat × Nat)
    (hp : tmps.getD p undef = .pointer (some ⟨g, 0, none⟩)) (hg : W.heap[g]? = some (.cells #[c0, c1, c2, c3, c4, c5, c6, c7] t fr)) :
    (results fn tmps).run Tryd.prog W = .ok (.agg #[c0, c1, c2, c3, c4, c5, c6, c7]) W := by
  have hp' : tmps[p]?.getD undef = .pointer (some ⟨g, 0, none⟩) := by simpa using hp
  have hl := run_loadVar_row (P := Tryd.prog) W g t 92 _ fr _ hg Tryd.underlying92 rfl (by kernel_rfl)
  simp [results, h, hp', asAddr, hl]
theorem stepV_at {j : Nat} {x : Int} (h : x = (j : Int)) : Ending.returned (.tuple #[.int .i64 x, .bool true]) = stpV (some j) := by rw [h]; rfl
theorem keepC' {w W : World} {x y : Nat} {v : Value} (hb : Below w.heap.size w W) (h : w.cell? ⟨x, y, none⟩ = some v) : W.cell? ⟨x, y, none⟩ = some v := (hb.cell (p := ⟨x, y, none⟩) (World.block_lt_of_cell? w _ h)).trans h
theorem ways_any (w : World) : Calls Tryd.prog 45 #[] w fun e w' => e = .returned (.agg #[.int .i64 0, .int .i64 1, .int .i64 1, .int .i64 0, .int .i64 0, .int .i64 (-1), .int .i64 (-1), .int .i64 0]) ∧ Below w.heap.size w w' := by
  go_enter Tryd.func45, Tryd.ntmps45
  go_wp2
  refine bodyPost_ret (results_way Tryd.results45 _ _ w.heap.size 92 _ _ _ _ _ _ _ _ (0, 0) rfl (World.alloc_heap_new w _)) rfl ⟨rfl, (Below.refl _ w).alloc (Nat.le_refl _) _⟩
theorem wway0 (W : World) : (Instr.index 92 (.agg #[.int .i64 0, .int .i64 1, .int .i64 1, .int .i64 0, .int .i64 0, .int .i64 (-1), .int .i64 (-1), .int .i64 0]) (.int .i64 0)).run Tryd.prog W = .ok (.agg #[.int .i64 0, .int .i64 1]) W := by kernel_rfl
theorem wway1 (W : World) : (Instr.index 92 (.agg #[.int .i64 0, .int .i64 1, .int .i64 1, .int .i64 0, .int .i64 0, .int .i64 (-1), .int .i64 (-1), .int .i64 0]) (.int .i64 1)).run Tryd.prog W = .ok (.agg #[.int .i64 1, .int .i64 0]) W := by kernel_rfl
theorem wway2 (W : World) : (Instr.index 92 (.agg #[.int .i64 0, .int .i64 1, .int .i64 1, .int .i64 0, .int .i64 0, .int .i64 (-1), .int .i64 (-1), .int .i64 0]) (.int .i64 2)).run Tryd.prog W = .ok (.agg #[.int .i64 0, .int .i64 (-1)]) W := by kernel_rfl
theorem wway3 (W : World) : (Instr.index 92 (.agg #[.int .i64 0, .int .i64 1, .int .i64 1, .int .i64 0, .int .i64 0, .int .i64 (-1), .int .i64 (-1), .int .i64 0]) (.int .i64 3)).run Tryd.prog W = .ok (.agg #[.int .i64 (-1), .int .i64 0]) W := by kernel_rfl
set_option maxHeartbeats 8000000 in
set_option maxRecDepth 100000 in
theorem step0_any (v : Value) (g : Gd) (i B : Nat) (w : World) (h : GdAt w B v g) (hB : B ≤ w.heap.size) (hg : OkG g) (hi : i < g.H.toNat * g.W.toNat) (hb : gt g.B i = false) :
    Calls Tryd.prog 40 #[v, .int .i64 (i : Nat), .int .i64 0] w fun e w' => e = stpV (stW g.H.toNat g.W.toNat (gt g.B) (gt g.R) (gt g.D) i 0) ∧ Below w.heap.size w w' := by
  obtain ⟨e1, e2, e3, e4, e5⟩ := area_le hg
  have hs := st0 (R := gt g.R) (D := gt g.D) hi hb
  have hlB := hg.b; have hlR := hg.r; have hlD := hg.d
  obtain ⟨Ab, Ar, Ad, cb, cr, cd, rfl⟩ := h.form
  obtain ⟨H, W, gB, gR, gD⟩ := g
  have hH := hg.h0; have hW := hg.w0
  simp only at hH hW e1 e2 e3 e4 e5 hlB hlR hlD hi hb hs ⊢
  obtain ⟨hh, rfl⟩ : ∃ a : Nat, H = (a : Int) := ⟨H.toNat, by omega⟩
  obtain ⟨ww, rfl⟩ : ∃ c : Nat, W = (c : Int) := ⟨W.toNat, by omega⟩
  simp only [Int.toNat_natCast] at e1 e2 e3 e4 e5 hlB hlR hlD hi hb hs ⊢
  simp only [gdV] at h ⊢
  rw [hlB, hlR, hlD] at h ⊢
  have hpos : 0 < hh * ww := Nat.mul_pos e4 e2
  obtain ⟨vb, vr, vd, hveq, s1, s2, s3⟩ := h.eq
  injection hveq with hveq
  injection hveq with hveq
  simp only [List.cons.injEq, and_true, true_and] at hveq
  obtain ⟨rfl, rfl, rfl⟩ := hveq
  obtain ⟨b1, o1, rfl, zb⟩ := s1.boolsAt hpos
  obtain ⟨b2, o2, rfl, zr⟩ := s2.boolsAt hpos
  obtain ⟨b3, o3, rfl, zd⟩ := s3.boolsAt hpos
  have ZB := Lib.hid zb; have ZR := Lib.hid zr; have ZD := Lib.hid zd
  clear zb zr zd s1 s2 s3 h hg hlB hlR hlD
  generalize stW hh ww (gt gB) (gt gR) (gt gD) i 0 = sv at *
  have hq : i / ww < hh := by rw [Nat.div_lt_iff_lt_mul (by omega)]; exact hi
  have hm : i % ww < ww := Nat.mod_lt _ (by omega)
  have hdm : i / ww * ww + i % ww = i := by have := Nat.div_add_mod i ww; rw [Nat.mul_comm]; exact this
  have k3 : (i : Int).tmod (ww : Int) = ((i % ww : Nat) : Int) := rfl
  have k4 : (i : Int).tdiv (ww : Int) = ((i / ww : Nat) : Int) := rfl
  obtain ⟨z, hz⟩ : ∃ z : Nat, i / ww * ww = z := ⟨_, rfl⟩
  have kz : ((i / ww : Nat) : Int) * (ww : Int) = (z : Int) := by rw [← hz]; push_cast; rfl
  have hzi : z + i % ww = i := by rw [← hz]; exact hdm
  clear hdm
  generalize hh * ww = n at *
  clear hz
  generalize i / ww = q at *
  generalize i % ww = m at *
  have kj : (z : Int) + ((m : Int) + 1) = (i : Int) + 1 := by omega
  have cw : ¬ (ww : Int) = 0 := by omega
  have C1 := Lib.hid (fun W => ways_any W)
  have HS := Lib.hid hs; clear hs
  have HB := Lib.hid hb; clear hb
  by_cases hc : m + 1 < ww
  · obtain ⟨jn, sve⟩ := HS.out.2 hc
    have SVE := Lib.hid sve; clear sve
    have wx := wway0
    go_enter Tryd.func40, Tryd.ntmps40
    go_wp2_with fail
    refine (C1.out _).mono ?_
    rintro e w1 ⟨rfl, hb1⟩
    have eg1 := (hb1.block w.heap.size (by simp)).trans (World.alloc_heap_new w _)
    have p0 := Lib.cell_of_heap eg1 0
    have p1 := Lib.cell_of_heap eg1 1
    have p2 := Lib.cell_of_heap eg1 2
    have p3 := Lib.cell_of_heap eg1 3
    have p4 := Lib.cell_of_heap eg1 4
    have l1 : w.heap.size < w1.heap.size := (Array.getElem?_eq_some_iff.1 eg1).1
    have HB1 := Lib.hid (((Below.refl w.heap.size w).alloc (Nat.le_refl _) _).trans (hb1.mono (by simp)))
    clear eg1 hb1
    have G1 := keepC' HB1.out (ZB.out (i + 1) (by omega))
    have G2 := keepC' HB1.out (ZR.out (i) (by omega))
    have lb1 := World.block_lt_of_cell? w1 _ G1
    have lb2 := World.block_lt_of_cell? w1 _ G2
    simp only at lb1 lb2
    have i0 : (0 : Int) ≤ (i : Int) := by omega
    have i1 : (i : Int) < (n : Int) := by omega
    have i2 : (0 : Int) ≤ (i : Int) + 1 := by omega
    have i3 : (i : Int) + 1 < (n : Int) := by omega
    have i5 : ((i : Int) + 1).toNat = i + 1 := by omega
    have m1 : min (i : Int) ((i : Int) + 1) = (i : Int) := by omega
    have HQ := Lib.hid (fun X q => bdraw (HB1.out.alloc (o := X) (Below.size HB1.out)) q)
    have hx1' : ∃ x1, gB.getD (i + 1) false = x1 := ⟨_, rfl⟩
    have hx2' : ∃ x2, gR.getD (i) false = x2 := ⟨_, rfl⟩
    obtain ⟨x1, hx1⟩ := hx1'
    obtain ⟨x2, hx2⟩ := hx2'
    rw [hx1] at G1
    rw [hx2] at G2
    have HX := Lib.hid (show sv = if x1 || x2 then none else some (i + 1) from by rw [SVE.out, show gt gB (i + 1) = x1 from hx1, show gt gR (i) = x2 from hx2])
    clear hx1 hx2
    go_wp2_with fail
    cases x1 <;> cases x2
    all_goals go_quiet (fail)
    all_goals go_wp2
    all_goals go_ret2
    all_goals exact ⟨by rw [HX.out]; first | rfl | exact stepV_at (by omega), HQ.out _ _⟩
  · have SVE := Lib.hid (HS.out.1 hc)
    have wx := wway0
    go_enter Tryd.func40, Tryd.ntmps40
    go_wp2_with fail
    refine (C1.out _).mono ?_
    rintro e w1 ⟨rfl, hb1⟩
    have eg1 := (hb1.block w.heap.size (by simp)).trans (World.alloc_heap_new w _)
    have p0 := Lib.cell_of_heap eg1 0
    have p1 := Lib.cell_of_heap eg1 1
    have l1 : w.heap.size < w1.heap.size := (Array.getElem?_eq_some_iff.1 eg1).1
    have HB1 := Lib.hid (((Below.refl w.heap.size w).alloc (Nat.le_refl _) _).trans (hb1.mono (by simp)))
    have HQ := Lib.hid (fun X q => bdraw (HB1.out.alloc (o := X) (Below.size HB1.out)) q)
    clear eg1 hb1
    go_wp2_with fail
    go_quiet (fail)
    go_wp2
    go_ret2
    exact ⟨by rw [SVE.out]; rfl, HQ.out _ _⟩
set_option maxHeartbeats 8000000 in
set_option maxRecDepth 100000 in
theorem step1_any (v : Value) (g : Gd) (i B : Nat) (w : World) (h : GdAt w B v g) (hB : B ≤ w.heap.size) (hg : OkG g) (hi : i < g.H.toNat * g.W.toNat) (hb : gt g.B i = false) :
    Calls Tryd.prog 40 #[v, .int .i64 (i : Nat), .int .i64 1] w fun e w' => e = stpV (stW g.H.toNat g.W.toNat (gt g.B) (gt g.R) (gt g.D) i 1) ∧ Below w.heap.size w w' := by
  obtain ⟨e1, e2, e3, e4, e5⟩ := area_le hg
  have hs := st1 (R := gt g.R) (D := gt g.D) hi hb
  have hlB := hg.b; have hlR := hg.r; have hlD := hg.d
  obtain ⟨Ab, Ar, Ad, cb, cr, cd, rfl⟩ := h.form
  obtain ⟨H, W, gB, gR, gD⟩ := g
  have hH := hg.h0; have hW := hg.w0
  simp only at hH hW e1 e2 e3 e4 e5 hlB hlR hlD hi hb hs ⊢
  obtain ⟨hh, rfl⟩ : ∃ a : Nat, H = (a : Int) := ⟨H.toNat, by omega⟩
  obtain ⟨ww, rfl⟩ : ∃ c : Nat, W = (c : Int) := ⟨W.toNat, by omega⟩
  simp only [Int.toNat_natCast] at e1 e2 e3 e4 e5 hlB hlR hlD hi hb hs ⊢
  simp only [gdV] at h ⊢
  rw [hlB, hlR, hlD] at h ⊢
  have hpos : 0 < hh * ww := Nat.mul_pos e4 e2
  obtain ⟨vb, vr, vd, hveq, s1, s2, s3⟩ := h.eq
  injection hveq with hveq
  injection hveq with hveq
  simp only [List.cons.injEq, and_true, true_and] at hveq
  obtain ⟨rfl, rfl, rfl⟩ := hveq
  obtain ⟨b1, o1, rfl, zb⟩ := s1.boolsAt hpos
  obtain ⟨b2, o2, rfl, zr⟩ := s2.boolsAt hpos
  obtain ⟨b3, o3, rfl, zd⟩ := s3.boolsAt hpos
  have ZB := Lib.hid zb; have ZR := Lib.hid zr; have ZD := Lib.hid zd
  clear zb zr zd s1 s2 s3 h hg hlB hlR hlD
  generalize stW hh ww (gt gB) (gt gR) (gt gD) i 1 = sv at *
  have hq : i / ww < hh := by rw [Nat.div_lt_iff_lt_mul (by omega)]; exact hi
  have hm : i % ww < ww := Nat.mod_lt _ (by omega)
  have hdm : i / ww * ww + i % ww = i := by have := Nat.div_add_mod i ww; rw [Nat.mul_comm]; exact this
  have k3 : (i : Int).tmod (ww : Int) = ((i % ww : Nat) : Int) := rfl
  have k4 : (i : Int).tdiv (ww : Int) = ((i / ww : Nat) : Int) := rfl
  obtain ⟨z, hz⟩ : ∃ z : Nat, (i / ww + 1) * ww = z := ⟨_, rfl⟩
  have kz : (((i / ww : Nat) : Int) + 1) * (ww : Int) = (z : Int) := by rw [← hz]; push_cast; rfl
  have hzi : z + i % ww = i + ww := by rw [← hz, Nat.add_mul, Nat.one_mul]; omega
  clear hdm
  generalize hh * ww = n at *
  clear hz
  generalize i / ww = q at *
  generalize i % ww = m at *
  have kj : (z : Int) + (m : Int) = (i : Int) + (ww : Int) := by omega
  have cw : ¬ (ww : Int) = 0 := by omega
  have C1 := Lib.hid (fun W => ways_any W)
  have HS := Lib.hid hs; clear hs
  have HB := Lib.hid hb; clear hb
  by_cases hc : q + 1 < hh
  · obtain ⟨jn, sve⟩ := HS.out.2 hc
    have SVE := Lib.hid sve; clear sve
    have wx := wway1
    go_enter Tryd.func40, Tryd.ntmps40
    go_wp2_with fail
    refine (C1.out _).mono ?_
    rintro e w1 ⟨rfl, hb1⟩
    have eg1 := (hb1.block w.heap.size (by simp)).trans (World.alloc_heap_new w _)
    have p0 := Lib.cell_of_heap eg1 0
    have p1 := Lib.cell_of_heap eg1 1
    have p2 := Lib.cell_of_heap eg1 2
    have p3 := Lib.cell_of_heap eg1 3
    have p4 := Lib.cell_of_heap eg1 4
    have l1 : w.heap.size < w1.heap.size := (Array.getElem?_eq_some_iff.1 eg1).1
    have HB1 := Lib.hid (((Below.refl w.heap.size w).alloc (Nat.le_refl _) _).trans (hb1.mono (by simp)))
    clear eg1 hb1
    have G1 := keepC' HB1.out (ZB.out (i + ww) (by omega))
    have G2 := keepC' HB1.out (ZD.out (i) (by omega))
    have lb1 := World.block_lt_of_cell? w1 _ G1
    have lb2 := World.block_lt_of_cell? w1 _ G2
    simp only at lb1 lb2
    have i0 : (0 : Int) ≤ (i : Int) := by omega
    have i1 : (i : Int) < (n : Int) := by omega
    have i2 : (0 : Int) ≤ (i : Int) + (ww : Int) := by omega
    have i3 : (i : Int) + (ww : Int) < (n : Int) := by omega
    have i5 : ((i : Int) + (ww : Int)).toNat = i + ww := by omega
    have m1 : min (i : Int) ((i : Int) + (ww : Int)) = (i : Int) := by omega
    have HQ := Lib.hid (fun X q => bdraw (HB1.out.alloc (o := X) (Below.size HB1.out)) q)
    have hx1' : ∃ x1, gB.getD (i + ww) false = x1 := ⟨_, rfl⟩
    have hx2' : ∃ x2, gD.getD (i) false = x2 := ⟨_, rfl⟩
    obtain ⟨x1, hx1⟩ := hx1'
    obtain ⟨x2, hx2⟩ := hx2'
    rw [hx1] at G1
    rw [hx2] at G2
    have HX := Lib.hid (show sv = if x1 || x2 then none else some (i + ww) from by rw [SVE.out, show gt gB (i + ww) = x1 from hx1, show gt gD (i) = x2 from hx2])
    clear hx1 hx2
    go_wp2_with fail
    cases x1 <;> cases x2
    all_goals go_quiet (fail)
    all_goals go_wp2
    all_goals go_ret2
    all_goals exact ⟨by rw [HX.out]; first | rfl | exact stepV_at (by omega), HQ.out _ _⟩
  · have SVE := Lib.hid (HS.out.1 hc)
    have wx := wway1
    go_enter Tryd.func40, Tryd.ntmps40
    go_wp2_with fail
    refine (C1.out _).mono ?_
    rintro e w1 ⟨rfl, hb1⟩
    have eg1 := (hb1.block w.heap.size (by simp)).trans (World.alloc_heap_new w _)
    have p0 := Lib.cell_of_heap eg1 0
    have p1 := Lib.cell_of_heap eg1 1
    have l1 : w.heap.size < w1.heap.size := (Array.getElem?_eq_some_iff.1 eg1).1
    have HB1 := Lib.hid (((Below.refl w.heap.size w).alloc (Nat.le_refl _) _).trans (hb1.mono (by simp)))
    have HQ := Lib.hid (fun X q => bdraw (HB1.out.alloc (o := X) (Below.size HB1.out)) q)
    clear eg1 hb1
    go_wp2_with fail
    go_quiet (fail)
    go_wp2
    go_ret2
    exact ⟨by rw [SVE.out]; rfl, HQ.out _ _⟩
set_option maxHeartbeats 8000000 in
set_option maxRecDepth 100000 in
theorem step2_any (v : Value) (g : Gd) (i B : Nat) (w : World) (h : GdAt w B v g) (hB : B ≤ w.heap.size) (hg : OkG g) (hi : i < g.H.toNat * g.W.toNat) (hb : gt g.B i = false) :
    Calls Tryd.prog 40 #[v, .int .i64 (i : Nat), .int .i64 2] w fun e w' => e = stpV (stW g.H.toNat g.W.toNat (gt g.B) (gt g.R) (gt g.D) i 2) ∧ Below w.heap.size w w' := by
  obtain ⟨e1, e2, e3, e4, e5⟩ := area_le hg
  have hs := st2 (R := gt g.R) (D := gt g.D) hi hb
  have hlB := hg.b; have hlR := hg.r; have hlD := hg.d
  obtain ⟨Ab, Ar, Ad, cb, cr, cd, rfl⟩ := h.form
  obtain ⟨H, W, gB, gR, gD⟩ := g
  have hH := hg.h0; have hW := hg.w0
  simp only at hH hW e1 e2 e3 e4 e5 hlB hlR hlD hi hb hs ⊢
  obtain ⟨hh, rfl⟩ : ∃ a : Nat, H = (a : Int) := ⟨H.toNat, by omega⟩
  obtain ⟨ww, rfl⟩ : ∃ c : Nat, W = (c : Int) := ⟨W.toNat, by omega⟩
  simp only [Int.toNat_natCast] at e1 e2 e3 e4 e5 hlB hlR hlD hi hb hs ⊢
  simp only [gdV] at h ⊢
  rw [hlB, hlR, hlD] at h ⊢
  have hpos : 0 < hh * ww := Nat.mul_pos e4 e2
  obtain ⟨vb, vr, vd, hveq, s1, s2, s3⟩ := h.eq
  injection hveq with hveq
  injection hveq with hveq
  simp only [List.cons.injEq, and_true, true_and] at hveq
  obtain ⟨rfl, rfl, rfl⟩ := hveq
  obtain ⟨b1, o1, rfl, zb⟩ := s1.boolsAt hpos
  obtain ⟨b2, o2, rfl, zr⟩ := s2.boolsAt hpos
  obtain ⟨b3, o3, rfl, zd⟩ := s3.boolsAt hpos
  have ZB := Lib.hid zb; have ZR := Lib.hid zr; have ZD := Lib.hid zd
  clear zb zr zd s1 s2 s3 h hg hlB hlR hlD
  generalize stW hh ww (gt gB) (gt gR) (gt gD) i 2 = sv at *
  have hq : i / ww < hh := by rw [Nat.div_lt_iff_lt_mul (by omega)]; exact hi
  have hm : i % ww < ww := Nat.mod_lt _ (by omega)
  have hdm : i / ww * ww + i % ww = i := by have := Nat.div_add_mod i ww; rw [Nat.mul_comm]; exact this
  have k3 : (i : Int).tmod (ww : Int) = ((i % ww : Nat) : Int) := rfl
  have k4 : (i : Int).tdiv (ww : Int) = ((i / ww : Nat) : Int) := rfl
  obtain ⟨z, hz⟩ : ∃ z : Nat, i / ww * ww = z := ⟨_, rfl⟩
  have kz : ((i / ww : Nat) : Int) * (ww : Int) = (z : Int) := by rw [← hz]; push_cast; rfl
  have hzi : z + i % ww = i := by rw [← hz]; exact hdm
  clear hdm
  generalize hh * ww = n at *
  clear hz
  generalize i / ww = q at *
  generalize i % ww = m at *
  have kj : (z : Int) + ((m : Int) + -1) = (i : Int) - 1 := by omega
  have cw : ¬ (ww : Int) = 0 := by omega
  have C1 := Lib.hid (fun W => ways_any W)
  have HS := Lib.hid hs; clear hs
  have HB := Lib.hid hb; clear hb
  by_cases hc : 1 ≤ m
  · obtain ⟨jn, sve⟩ := HS.out.2 hc
    have SVE := Lib.hid sve; clear sve
    have wx := wway2
    go_enter Tryd.func40, Tryd.ntmps40
    go_wp2_with fail
    refine (C1.out _).mono ?_
    rintro e w1 ⟨rfl, hb1⟩
    have eg1 := (hb1.block w.heap.size (by simp)).trans (World.alloc_heap_new w _)
    have p0 := Lib.cell_of_heap eg1 0
    have p1 := Lib.cell_of_heap eg1 1
    have p2 := Lib.cell_of_heap eg1 2
    have p3 := Lib.cell_of_heap eg1 3
    have p4 := Lib.cell_of_heap eg1 4
    have l1 : w.heap.size < w1.heap.size := (Array.getElem?_eq_some_iff.1 eg1).1
    have HB1 := Lib.hid (((Below.refl w.heap.size w).alloc (Nat.le_refl _) _).trans (hb1.mono (by simp)))
    clear eg1 hb1
    have G1 := keepC' HB1.out (ZB.out (i - 1) (by omega))
    have G2 := keepC' HB1.out (ZR.out (i - 1) (by omega))
    have lb1 := World.block_lt_of_cell? w1 _ G1
    have lb2 := World.block_lt_of_cell? w1 _ G2
    simp only at lb1 lb2
    have i0 : (0 : Int) ≤ (i : Int) := by omega
    have i1 : (i : Int) < (n : Int) := by omega
    have i2 : (0 : Int) ≤ (i : Int) - 1 := by omega
    have i3 : (i : Int) - 1 < (n : Int) := by omega
    have i5 : ((i : Int) - 1).toNat = i - 1 := by omega
    have m1 : min (i : Int) ((i : Int) - 1) = (i : Int) - 1 := by omega
    have HQ := Lib.hid (fun X q => bdraw (HB1.out.alloc (o := X) (Below.size HB1.out)) q)
    have hx1' : ∃ x1, gB.getD (i - 1) false = x1 := ⟨_, rfl⟩
    have hx2' : ∃ x2, gR.getD (i - 1) false = x2 := ⟨_, rfl⟩
    obtain ⟨x1, hx1⟩ := hx1'
    obtain ⟨x2, hx2⟩ := hx2'
    rw [hx1] at G1
    rw [hx2] at G2
    have HX := Lib.hid (show sv = if x1 || x2 then none else some (i - 1) from by rw [SVE.out, show gt gB (i - 1) = x1 from hx1, show gt gR (i - 1) = x2 from hx2])
    clear hx1 hx2
    go_wp2_with fail
    cases x1 <;> cases x2
    all_goals go_quiet (fail)
    all_goals go_wp2
    all_goals go_ret2
    all_goals exact ⟨by rw [HX.out]; first | rfl | exact stepV_at (by omega), HQ.out _ _⟩
  · have SVE := Lib.hid (HS.out.1 hc)
    have wx := wway2
    go_enter Tryd.func40, Tryd.ntmps40
    go_wp2_with fail
    refine (C1.out _).mono ?_
    rintro e w1 ⟨rfl, hb1⟩
    have eg1 := (hb1.block w.heap.size (by simp)).trans (World.alloc_heap_new w _)
    have p0 := Lib.cell_of_heap eg1 0
    have p1 := Lib.cell_of_heap eg1 1
    have l1 : w.heap.size < w1.heap.size := (Array.getElem?_eq_some_iff.1 eg1).1
    have HB1 := Lib.hid (((Below.refl w.heap.size w).alloc (Nat.le_refl _) _).trans (hb1.mono (by simp)))
    have HQ := Lib.hid (fun X q => bdraw (HB1.out.alloc (o := X) (Below.size HB1.out)) q)
    clear eg1 hb1
    go_wp2_with fail
    go_quiet (fail)
    go_wp2
    go_ret2
    exact ⟨by rw [SVE.out]; rfl, HQ.out _ _⟩
set_option maxHeartbeats 8000000 in
set_option maxRecDepth 100000 in
theorem step3_any (v : Value) (g : Gd) (i B : Nat) (w : World) (h : GdAt w B v g) (hB : B ≤ w.heap.size) (hg : OkG g) (hi : i < g.H.toNat * g.W.toNat) (hb : gt g.B i = false) :
    Calls Tryd.prog 40 #[v, .int .i64 (i : Nat), .int .i64 3] w fun e w' => e = stpV (stW g.H.toNat g.W.toNat (gt g.B) (gt g.R) (gt g.D) i 3) ∧ Below w.heap.size w w' := by
  obtain ⟨e1, e2, e3, e4, e5⟩ := area_le hg
  have hs := st3 (R := gt g.R) (D := gt g.D) hi hb
  have hlB := hg.b; have hlR := hg.r; have hlD := hg.d
  obtain ⟨Ab, Ar, Ad, cb, cr, cd, rfl⟩ := h.form
  obtain ⟨H, W, gB, gR, gD⟩ := g
  have hH := hg.h0; have hW := hg.w0
  simp only at hH hW e1 e2 e3 e4 e5 hlB hlR hlD hi hb hs ⊢
  obtain ⟨hh, rfl⟩ : ∃ a : Nat, H = (a : Int) := ⟨H.toNat, by omega⟩
  obtain ⟨ww, rfl⟩ : ∃ c : Nat, W = (c : Int) := ⟨W.toNat, by omega⟩
  simp only [Int.toNat_natCast] at e1 e2 e3 e4 e5 hlB hlR hlD hi hb hs ⊢
  simp only [gdV] at h ⊢
  rw [hlB, hlR, hlD] at h ⊢
  have hpos : 0 < hh * ww := Nat.mul_pos e4 e2
  obtain ⟨vb, vr, vd, hveq, s1, s2, s3⟩ := h.eq
  injection hveq with hveq
  injection hveq with hveq
  simp only [List.cons.injEq, and_true, true_and] at hveq
  obtain ⟨rfl, rfl, rfl⟩ := hveq
  obtain ⟨b1, o1, rfl, zb⟩ := s1.boolsAt hpos
  obtain ⟨b2, o2, rfl, zr⟩ := s2.boolsAt hpos
  obtain ⟨b3, o3, rfl, zd⟩ := s3.boolsAt hpos
  have ZB := Lib.hid zb; have ZR := Lib.hid zr; have ZD := Lib.hid zd
  clear zb zr zd s1 s2 s3 h hg hlB hlR hlD
  generalize stW hh ww (gt gB) (gt gR) (gt gD) i 3 = sv at *
  have hq : i / ww < hh := by rw [Nat.div_lt_iff_lt_mul (by omega)]; exact hi
  have hm : i % ww < ww := Nat.mod_lt _ (by omega)
  have hdm : i / ww * ww + i % ww = i := by have := Nat.div_add_mod i ww; rw [Nat.mul_comm]; exact this
  have k3 : (i : Int).tmod (ww : Int) = ((i % ww : Nat) : Int) := rfl
  have k4 : (i : Int).tdiv (ww : Int) = ((i / ww : Nat) : Int) := rfl
  obtain ⟨z, hz⟩ : ∃ z : Int, (((i / ww : Nat) : Int) - 1) * (ww : Int) = z := ⟨_, rfl⟩
  have kz : (((i / ww : Nat) : Int) + -1) * (ww : Int) = z := hz
  have hzi : z + (i % ww : Nat) = (i : Int) - (ww : Int) := by
    rw [← hz, Int.sub_mul, Int.one_mul]
    have : ((i / ww : Nat) : Int) * (ww : Int) + ((i % ww : Nat) : Int) = (i : Int) := by rw [← Int.natCast_mul, ← Int.natCast_add, hdm]
    omega
  clear hdm
  generalize hh * ww = n at *
  clear hz
  generalize i / ww = q at *
  generalize i % ww = m at *
  have kj : (z : Int) + (m : Int) = (i : Int) - (ww : Int) := by omega
  have cw : ¬ (ww : Int) = 0 := by omega
  have C1 := Lib.hid (fun W => ways_any W)
  have HS := Lib.hid hs; clear hs
  have HB := Lib.hid hb; clear hb
  by_cases hc : 1 ≤ q
  · obtain ⟨jn, sve⟩ := HS.out.2 hc
    have SVE := Lib.hid sve; clear sve
    have wx := wway3
    go_enter Tryd.func40, Tryd.ntmps40
    go_wp2_with fail
    refine (C1.out _).mono ?_
    rintro e w1 ⟨rfl, hb1⟩
    have eg1 := (hb1.block w.heap.size (by simp)).trans (World.alloc_heap_new w _)
    have p0 := Lib.cell_of_heap eg1 0
    have p1 := Lib.cell_of_heap eg1 1
    have p2 := Lib.cell_of_heap eg1 2
    have p3 := Lib.cell_of_heap eg1 3
    have p4 := Lib.cell_of_heap eg1 4
    have l1 : w.heap.size < w1.heap.size := (Array.getElem?_eq_some_iff.1 eg1).1
    have HB1 := Lib.hid (((Below.refl w.heap.size w).alloc (Nat.le_refl _) _).trans (hb1.mono (by simp)))
    clear eg1 hb1
    have G1 := keepC' HB1.out (ZB.out (i - ww) (by omega))
    have G2 := keepC' HB1.out (ZD.out (i - ww) (by omega))
    have lb1 := World.block_lt_of_cell? w1 _ G1
    have lb2 := World.block_lt_of_cell? w1 _ G2
    simp only at lb1 lb2
    have i0 : (0 : Int) ≤ (i : Int) := by omega
    have i1 : (i : Int) < (n : Int) := by omega
    have i2 : (0 : Int) ≤ (i : Int) - (ww : Int) := by omega
    have i3 : (i : Int) - (ww : Int) < (n : Int) := by omega
    have i5 : ((i : Int) - (ww : Int)).toNat = i - ww := by omega
    have m1 : min (i : Int) ((i : Int) - (ww : Int)) = (i : Int) - (ww : Int) := by omega
    have HQ := Lib.hid (fun X q => bdraw (HB1.out.alloc (o := X) (Below.size HB1.out)) q)
    have hx1' : ∃ x1, gB.getD (i - ww) false = x1 := ⟨_, rfl⟩
    have hx2' : ∃ x2, gD.getD (i - ww) false = x2 := ⟨_, rfl⟩
    obtain ⟨x1, hx1⟩ := hx1'
    obtain ⟨x2, hx2⟩ := hx2'
    rw [hx1] at G1
    rw [hx2] at G2
    have HX := Lib.hid (show sv = if x1 || x2 then none else some (i - ww) from by rw [SVE.out, show gt gB (i - ww) = x1 from hx1, show gt gD (i - ww) = x2 from hx2])
    clear hx1 hx2
    go_wp2_with fail
    cases x1 <;> cases x2
    all_goals go_quiet (fail)
    all_goals go_wp2
    all_goals go_ret2
    all_goals exact ⟨by rw [HX.out]; first | rfl | exact stepV_at (by omega), HQ.out _ _⟩
  · have SVE := Lib.hid (HS.out.1 hc)
    have wx := wway3
    go_enter Tryd.func40, Tryd.ntmps40
    go_wp2_with fail
    refine (C1.out _).mono ?_
    rintro e w1 ⟨rfl, hb1⟩
    have eg1 := (hb1.block w.heap.size (by simp)).trans (World.alloc_heap_new w _)
    have p0 := Lib.cell_of_heap eg1 0
    have p1 := Lib.cell_of_heap eg1 1
    have l1 : w.heap.size < w1.heap.size := (Array.getElem?_eq_some_iff.1 eg1).1
    have HB1 := Lib.hid (((Below.refl w.heap.size w).alloc (Nat.le_refl _) _).trans (hb1.mono (by simp)))
    have HQ := Lib.hid (fun X q => bdraw (HB1.out.alloc (o := X) (Below.size HB1.out)) q)
    clear eg1 hb1
    go_wp2_with fail
    go_quiet (fail)
    go_wp2
    go_ret2
    exact ⟨by rw [SVE.out]; rfl, HQ.out _ _⟩
end Go.Proofs.YtonibpilbkafnaaDoor
