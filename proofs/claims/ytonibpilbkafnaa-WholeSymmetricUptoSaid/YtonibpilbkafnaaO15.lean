/- Package turn: Turn of a grid that is not right; Symmetries. -/
import Derived.Test.YtonibpilbkafnaaO14
import Derived.Test.YtonibpilbkafnaaO11
import Derived.Test.YtonibpilbkafnaaO4
namespace Go.Proofs.Ytonibpilbkafnaa
set_option linter.unusedVariables false
set_option linter.unusedSimpArgs false
open Go.RowKit Go.Lib

def nilG : Value := .agg #[.int .i64 0, .int .i64 0, .slice none 0 0, .slice none 0 0, .slice none 0 0]
set_option maxHeartbeats 8000000 in
set_option maxRecDepth 100000 in
theorem Turn_bad (v : Value) (g : Gd) (k B : Nat) (w : World) (h : GdAt w B v g) (hB : B ≤ w.heap.size) (hl : g.B.length ≤ 17592186044416 ∧ g.R.length ≤ 17592186044416 ∧ g.D.length ≤ 17592186044416) (hc : checkG g ≠ 0) (hk : k < 8) :
    Calls Try.prog 9 #[v, .int .i64 (k : Nat)] w fun e w' => e = .returned (.tuple #[nilG, .int .i64 (checkG g)]) ∧ Below w.heap.size w w' := by
  have cch := fun W (hb : Below B w W) (hz : B ≤ W.heap.size) => Check_any v g B W (h.below hb) hz hl
  have ci := fun W => is_any k W hk
  obtain ⟨Ab, Ar, Ad, cb, cr, cd, rfl⟩ := h.form
  have t1 : (checkG g != 0) = true := by rw [bne_iff_ne]; exact hc
  generalize checkG g = cx at *
  obtain ⟨H, W, gB, gR, gD⟩ := g
  simp only [gdV] at cch h ⊢
  simp only at hl
  generalize gB.length = nb at *
  generalize gR.length = nr at *
  generalize gD.length = nd at *
  have CI := Lib.hid ci; have CH := Lib.hid cch
  clear ci cch h hl hc
  go_enter Try.func9, Try.ntmps9
  go_wp2_with (first | (go_at_call 15; (with_reducible refine (CI.out _).mono ?_); rintro e w' ⟨rfl, rfl⟩))
  refine (CH.out _ ?_ ?_).mono ?_
  · exact (((Below.refl B w).alloc hB _).alloc (by simp; omega) _).alloc (by simp; omega) _
  · simp; omega
  rintro e w1 ⟨rfl, hb1⟩
  obtain ⟨zA, hbA, a0, a1, a2⟩ := three_new w (.cells #[.int .i64 H, .int .i64 W, .slice Ab nb cb, .slice Ar nr cr, .slice Ad nd cd] 24) (.cells #[.int .i64 (k : Int)] 3) (.cells #[.int .i64 0, .int .i64 0, .slice none 0 0, .slice none 0 0, .slice none 0 0] 24) _ rfl
  have hbw : Below w.heap.size w w1 := hbA.trans (hb1.mono (by rw [zA]; omega))
  have er := (hb1.block _ (by rw [zA]; omega)).trans a2
  have ER := Lib.hid er; have HBW := Lib.hid hbw
  have y0 : w1.cell? ⟨w.heap.size + 1 + 1, 0, none⟩ = some (.int .i64 0) := Lib.cell_of_heap er 0
  have y1 : w1.cell? ⟨w.heap.size + 1 + 1, 1, none⟩ = some (.int .i64 0) := Lib.cell_of_heap er 1
  have y2 : w1.cell? ⟨w.heap.size + 1 + 1, 2, none⟩ = some (.slice none 0 0) := Lib.cell_of_heap er 2
  have y3 : w1.cell? ⟨w.heap.size + 1 + 1, 3, none⟩ = some (.slice none 0 0) := Lib.cell_of_heap er 3
  have y4 : w1.cell? ⟨w.heap.size + 1 + 1, 4, none⟩ = some (.slice none 0 0) := Lib.cell_of_heap er 4
  have x0 : w1.frozen? ⟨w.heap.size + 1 + 1, 0, none⟩ = false := Lib.frozen_of_heap er 0
  have x1 : w1.frozen? ⟨w.heap.size + 1 + 1, 1, none⟩ = false := Lib.frozen_of_heap er 1
  have x2 : w1.frozen? ⟨w.heap.size + 1 + 1, 2, none⟩ = false := Lib.frozen_of_heap er 2
  have x3 : w1.frozen? ⟨w.heap.size + 1 + 1, 3, none⟩ = false := Lib.frozen_of_heap er 3
  have x4 : w1.frozen? ⟨w.heap.size + 1 + 1, 4, none⟩ = false := Lib.frozen_of_heap er 4
  clear zA hbA a0 a1 a2 hb1 hbw er
  go_wp2_with fail
  refine bodyPost_ret (results_grid2 Try.results9 _ _ (w.heap.size + 1 + 1) 24 _ _ _ _ _ (0, 0) rfl (stored5 _ _ _ _ _ ER.out)) rfl ⟨rfl, below5 HBW.out (by omega)⟩

/-- does a turn change nothing? -/
def sameB (g : Gd) (k : Nat) : Bool := decide (checkG g = 0) && decide (turnG g k = g)
theorem syms_filter (g : Gd) : symsG g = (List.range 8).filter (sameB g) := by
  unfold symsG sameB
  split
  · rename_i h; congr 1; funext k; simp [h]
  · rename_i h; rw [List.filter_eq_nil_iff.2]; intro k _; simp [h]
set_option maxHeartbeats 8000000 in
set_option maxRecDepth 100000 in
theorem same1_any (v : Value) (g : Gd) (k B bg : Nat) (w : World) (h : GdAt w B v g) (hB : B ≤ w.heap.size) (hl : g.B.length ≤ 17592186044416 ∧ g.R.length ≤ 17592186044416 ∧ g.D.length ≤ 17592186044416) (hk : k < 8)
    (eg : ∃ xs, v = .agg xs ∧ w.heap[bg]? = some (.cells xs 24 (0, 0))) :
    Calls Try.prog 8 #[.int .i64 (k : Nat), .pointer (some ⟨bg, 0, none⟩)] w fun e w' => e = .returned (.bool (sameB g k)) ∧ Below w.heap.size w w' := by
  obtain ⟨xs, hv, eg⟩ := eg
  have lbg := (Array.getElem?_eq_some_iff.1 eg).1
  obtain ⟨Ab, Ar, Ad, cb, cr, cd, rfl⟩ := h.form
  injection hv with hv
  subst hv
  have g0 := Lib.cell_of_heap eg 0
  have g1 := Lib.cell_of_heap eg 1
  have g2 := Lib.cell_of_heap eg 2
  have g3 := Lib.cell_of_heap eg 3
  have g4 := Lib.cell_of_heap eg 4
  have EG := Lib.hid eg
  by_cases hc : checkG g = 0
  · have hok := ok_of_check hc
    have ct := Turn_any _ g k B w h hB hok hk
    have hsb : sameB g k = decide (turnG g k = g) := by unfold sameB; rw [decide_eq_true hc]; rfl
    rw [hsb]
    have har := area_le hok
    have hlt : (turnG g k).B.length ≤ 17592186044416 ∧ (turnG g k).R.length ≤ 17592186044416 ∧ (turnG g k).D.length ≤ 17592186044416 := by
      obtain ⟨t1, t2, t3⟩ := turn_len g.H.toNat g.W.toNat k g.B g.R g.D (g.H.toNat * g.W.toNat)
      have d1 : (turnG g k).B.length = _ := t1
      have d2 : (turnG g k).R.length = _ := t2
      have d3 : (turnG g k).D.length = _ := t3
      omega
    have CT := Lib.hid ct; have HAT := Lib.hid h; have HLT := Lib.hid hlt; have HL := Lib.hid hl
    have HOK := Lib.hid hok
    clear ct h hlt hl hok hc hsb har eg
    go_enter Try.func8, Try.ntmps8
    go_wp2_with fail
    refine CT.out.mono ?_
    rintro e w1 ⟨⟨u, rfl, hu⟩, hb1⟩
    obtain ⟨Eb, Er, Ed, fb, fr, fd, rfl⟩ := hu.form
    have cs := fun W (hb : Below w1.heap.size w1 W) (hz : w1.heap.size ≤ W.heap.size) => Same_any _ _ (turnG g k) g w1.heap.size W (hu.below hb) ((HAT.out.below (hb1.mono hB)).more (Nat.le_trans hB hb1.size) |>.below hb) hz HLT.out HL.out
    have CS := Lib.hid cs; clear cs
    have HB1 := Lib.hid hb1
    have l1 : bg < w1.heap.size := by have := hb1.size; omega
    have k0 := (hb1.cell (p := ⟨bg, 0, none⟩) lbg).trans g0
    have k1 := (hb1.cell (p := ⟨bg, 1, none⟩) lbg).trans g1
    have k2 := (hb1.cell (p := ⟨bg, 2, none⟩) lbg).trans g2
    have k3 := (hb1.cell (p := ⟨bg, 3, none⟩) lbg).trans g3
    have k4 := (hb1.cell (p := ⟨bg, 4, none⟩) lbg).trans g4
    clear g0 g1 g2 g3 g4 hu hb1
    go_wp2_with fail
    refine (CS.out _ ((Below.refl _ w1).alloc (Nat.le_refl _) _) (by simp)).mono ?_
    rintro e w2 ⟨rfl, hb2⟩
    have HB2 := Lib.hid ((HB1.out.alloc (o := (Obj.cells #[Value.int IntKind.i64 (turnG g k).H, Value.int IntKind.i64 (turnG g k).W, Value.slice Eb (turnG g k).B.length fb, Value.slice Er (turnG g k).R.length fr, Value.slice Ed (turnG g k).D.length fd] 24 (0, 0))) (Below.size HB1.out)).trans (hb2.mono (by have := HB1.out.size; simp; omega)))
    clear hb2
    go_wp2_with fail
    go_ret
    exact ⟨rfl, HB2.out⟩
  · have ct := Turn_bad _ g k B w h hB hl hc hk
    have hsb : sameB g k = false := by unfold sameB; rw [decide_eq_false hc]; rfl
    rw [hsb]
    have t1 : (checkG g == 0) = false := by rw [beq_eq_false_iff_ne]; exact hc
    have CT := Lib.hid ct
    clear ct h hl hc hsb eg
    generalize checkG g = cx at *
    unfold nilG at CT
    go_enter Try.func8, Try.ntmps8
    go_wp2_with fail
    refine CT.out.mono ?_
    rintro e w1 ⟨rfl, hb1⟩
    have HB1 := Lib.hid hb1; clear hb1
    go_wp2_with fail
    go_ret
    exact ⟨rfl, HB1.out.alloc (Below.size HB1.out) _⟩

theorem filter_snoc (f : Nat → Bool) (k : Nat) : (List.range (k + 1)).filter f = (List.range k).filter f ++ if f k then [k] else [] := by
  rw [List.range_succ, List.filter_append]
  congr 1
  cases h : f k <;> simp [h]
set_option maxHeartbeats 8000000 in
set_option maxRecDepth 100000 in
theorem Symmetries_any (v : Value) (g : Gd) (B : Nat) (w : World) (h : GdAt w B v g) (hB : B ≤ w.heap.size) (hl : g.B.length ≤ 17592186044416 ∧ g.R.length ≤ 17592186044416 ∧ g.D.length ≤ 17592186044416) :
    Calls Try.prog 4 #[v] w fun e w' => ∃ A c, e = .returned (.slice A (symsG g).length c) ∧ w'.ownsRow w.heap.size 3 1 (.slice A (symsG g).length c) (symsG g).length (ints (symsG g)) ∧ Below w.heap.size w w' := by
  rw [syms_filter]
  have cs := fun (k : Nat) (W : World) (hk : k < 8) (hb : Below w.heap.size w W) (eg : ∃ xs, v = .agg xs ∧ W.heap[w.heap.size]? = some (.cells xs 24 (0, 0))) => same1_any v g k B w.heap.size W (h.below (hb.mono hB)) (Nat.le_trans hB hb.size) hl hk eg
  obtain ⟨Ab, Ar, Ad, cb, cr, cd, rfl⟩ := h.form
  clear h
  obtain ⟨i0, hi0, hz0, hz1, hz2⟩ := info_parts infoInt
  have CS := Lib.hid cs; clear cs
  simp only [gdV] at CS ⊢
  generalize hxs : (#[.int .i64 g.H, .int .i64 g.W, .slice Ab g.B.length cb, .slice Ar g.R.length cr, .slice Ad g.D.length cd] : Array Value) = xs at *
  generalize sameB g = f at *
  obtain ⟨gH, gW, gB, gR, gD⟩ := g
  simp only at hxs hl
  generalize gB.length = nb at *
  generalize gR.length = nr at *
  generalize gD.length = nd at *
  subst hxs
  go_enter Try.func4, Try.ntmps4
  go_wp2
  have hw0 := World.alloc_heap_new w (.cells #[.int .i64 gH, .int .i64 gW, .slice Ab nb cb, .slice Ar nr cr, .slice Ad nd cd] 24)
  have hb0 : Below w.heap.size w _ := (Below.refl _ w).alloc (Nat.le_refl _) (.cells #[.int .i64 gH, .int .i64 gW, .slice Ab nb cb, .slice Ar nr cr, .slice Ad nd cd] 24)
  generalize w.alloc (.cells #[.int .i64 gH, .int .i64 gW, .slice Ab nb cb, .slice Ar nr cr, .slice Ad nd cd] 24) = W0 at *
  have HS0 : Hid (w.heap.size + 1 ≤ W0.heap.size) := Lib.hid (Array.getElem?_eq_some_iff.1 hw0).1
  have HW0 := Lib.hid hw0; have HB0 := Lib.hid hb0
  clear hw0 hb0
  go_loopg [4, 5, 7] 8 (fun gf u4 _ u7 wr => ∃ k : Nat, u7 = .int .i64 k ∧ k ≤ 8 ∧ 8 ≤ k + gf ∧ Hid (Below w.heap.size w wr) ∧ Hid (wr.heap[w.heap.size]? = some (.cells #[.int .i64 gH, .int .i64 gW, .slice Ab nb cb, .slice Ar nr cr, .slice Ad nd cd] 24 (0, 0))) ∧
    ∃ (acc : List Nat) (A : Option Addr) (c : Nat), u4 = .slice A acc.length c ∧ Hid (acc = (List.range k).filter f) ∧ acc.length ≤ k ∧ Hid (wr.ownsRow (w.heap.size + 1) 3 1 (.slice A acc.length c) acc.length (ints acc)))
  case atStart => exact ⟨0, rfl, Nat.zero_le _, by omega, HB0, HW0, [], none, 0, rfl, Lib.hid rfl, Nat.le_refl _, Lib.hid (World.ownsRow_nil _ _ _ _)⟩
  case round =>
    rename World => w5
    obtain ⟨k, rfl, hk, hfu, HB5, HW5, acc, A, c, rfl, HAC, hal, HO⟩ := hrel
    have z5 : w.heap.size + 1 ≤ w5.heap.size := (Array.getElem?_eq_some_iff.1 HW5.out).1
    by_cases hlt : k < 8
    · obtain ⟨g', rfl⟩ : ∃ g', gk = g' + 1 := ⟨gk - 1, by omega⟩
      go_wp2_with fail
      refine (CS.out k w5 hlt HB5.out ⟨_, rfl, HW5.out⟩).mono ?_
      rintro e w6 ⟨rfl, hb6⟩
      have z6 := hb6.size
      have HB6 := Lib.hid (HB5.out.trans (hb6.mono (by omega)))
      have HW6 := Lib.hid ((hb6.block w.heap.size (by omega)).trans HW5.out)
      have hown := own_belowS HO.out hb6
      clear hb6
      cases hf : f k with
      | true =>
        have HF : Hid (acc ++ [k] = (List.range (k + 1)).filter f) := Lib.hid (by rw [filter_snoc, hf, HAC.out]; rfl)
        clear hf
        go_wp2_with (at_builtin; refine wpList_append_own_at _ rfl (.tmp 13) (.tmp 15) 25 rfl (w.heap.size + 1) 3 i0 (.int .i64 0) 1 8 Try.underlying25 hi0 hz0 hz1 hz2 rfl (by decide) _ _ _ rfl (hown.alloc _) ⟨w6.heap.size, 0, none⟩ 1 1 [.int .i64 (k : Int)] rfl rfl (cell_one_new _ _ _) (by simp [Value.oneCell']) (by unfold maxLen; omega) (by omega) (by simp only [World.size_alloc]; omega) ?_; intro v' w7 hown7 hg7 _ _; obtain ⟨A7, c7, rfl⟩ := own_formZ hown7)
        have hb7 : Below w.heap.size w w7 := ((HB6.out.alloc (by omega) (.cells #[.int .i64 (k : Int)] 3)).grown hg7 (by simp only [World.size_alloc]; omega) (fun j hj => Nat.le_of_succ_le (hown.lt j hj).1))
        have hne : Value.ownBlock (.slice A acc.length c) ≠ some w.heap.size := fun e => by have := (hown.lt _ e).1; omega
        have hw7 := (hg7.block w.heap.size (by simp only [World.size_alloc]; omega) (Ne.symm hne)).trans ((Below.heap_alloc _ _ _ (by omega)).trans HW6.out)
        go_roundg g'
        case measure => omega
        case rel => exact ⟨k + 1, by go_num, by omega, by omega, Lib.hid hb7, Lib.hid hw7, acc ++ [k], A7, c7, by rw [List.length_append]; rfl, HF, by rw [List.length_append, List.length_singleton]; omega, Lib.hid (by rw [List.length_append, List.length_singleton, ints, List.map_append]; exact hown7)⟩
      | false =>
        have HF : Hid (acc = (List.range (k + 1)).filter f) := Lib.hid (by rw [filter_snoc, hf, HAC.out]; simp)
        clear hf
        go_wp2_with fail
        go_roundg g'
        case measure => omega
        case rel => exact ⟨k + 1, by go_num, by omega, by omega, HB6, HW6, acc, A, c, rfl, HF, by omega, Lib.hid hown⟩
    · obtain rfl : 8 = k := by omega
      go_wp2_with fail
      go_ret
      refine ⟨A, c, ?_, ?_, HB5.out⟩
      · rw [← HAC.out]; rfl
      · rw [← HAC.out]; exact own_base HO.out (by omega)
end Go.Proofs.Ytonibpilbkafnaa
