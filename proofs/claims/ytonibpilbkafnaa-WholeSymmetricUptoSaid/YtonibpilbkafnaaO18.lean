/- Package slots: List's gather. -/
import Derived.Test.YtonibpilbkafnaaO17
import Derived.Test.YtonibpilbkafnaaO9
import Derived.Test.YtonibpilbkafnaaO4
namespace Go.Proofs.Ytonibpilbkafnaa
set_option linter.unusedVariables false
set_option linter.unusedSimpArgs false
open Go.RowKit Go.Lib

abbrev stG (g : Gd) : Nat → Nat → Option Nat := stW g.H.toNat g.W.toNat (gt g.B) (gt g.R) (gt g.D)
theorem own_one (w : World) (x : Nat) : (w.alloc (.cells #[.int .i64 (x : Nat)] 3)).ownsRow w.heap.size 3 1 (.slice (some ⟨w.heap.size, 0, none⟩) 1 1) 1 (ints [x]) := by
  refine ⟨rfl, .inr ⟨w.heap.size, 1, _, rfl, Nat.le_refl _, World.alloc_heap_new w _, Nat.le_refl _, by unfold maxLen; omega, by simp, ?_⟩⟩
  simp [ints]
set_option maxHeartbeats 8000000 in
set_option maxRecDepth 100000 in
theorem gather_any (v : Value) (g : Gd) (i d B bg : Nat) (w : World) (h : GdAt w B v g) (hB : B ≤ w.heap.size) (hg : OkG g) (hi : i < g.H.toNat * g.W.toNat) (hd : d < 2) (eg : ∃ xs, v = .agg xs ∧ w.heap[bg]? = some (.cells xs 24 (0, 0))) :
    Calls Try.prog 13 #[.int .i64 (i : Nat), .int .i64 (d : Nat), .pointer (some ⟨bg, 0, none⟩)] w fun e w' => ∃ A c, e = .returned (.slice A (gath (stG g) d (g.H.toNat * g.W.toNat) i).length c) ∧
      w'.ownsRow w.heap.size 3 1 (.slice A (gath (stG g) d (g.H.toNat * g.W.toNat) i).length c) (gath (stG g) d (g.H.toNat * g.W.toNat) i).length (ints (gath (stG g) d (g.H.toNat * g.W.toNat) i)) ∧ Below w.heap.size w w' := by
  have h256 := (area_le hg).1
  have cs := fun (j : Nat) (W : World) (hj : j < g.H.toNat * g.W.toNat) (hb : Below w.heap.size w W) => Step_any v g j d B W (h.below (hb.mono hB)) (Nat.le_trans hB hb.size) hg hj (by omega)
  have hup : ∀ i j, stG g i d = some j → i < j ∧ j < g.H.toNat * g.W.toNat := fun i j hs => st_up hd hs
  obtain ⟨Ab, Ar, Ad, cb, cr, cd, rfl⟩ := h.form
  obtain ⟨xs, hxs, eg⟩ := eg
  injection hxs with hxs
  obtain ⟨i0, hi0, hz0, hz1, hz2⟩ := info_parts infoInt
  clear h hg
  unfold stG at *
  generalize stW g.H.toNat g.W.toNat (gt g.B) (gt g.R) (gt g.D) = st at *
  generalize g.H.toNat * g.W.toNat = n at *
  subst hxs
  have lbg := (Array.getElem?_eq_some_iff.1 eg).1
  have CS := Lib.hid cs; have HUP := Lib.hid hup; have EG := Lib.hid eg
  clear cs hup eg
  simp only [gdV] at CS
  obtain ⟨gH, gW, gB, gR, gD⟩ := g
  simp only at CS EG
  generalize gB.length = nb at *
  generalize gR.length = nr at *
  generalize gD.length = nd at *
  generalize hgl : gath st d n i = gl at *
  have HGL := Lib.hid hgl; clear hgl
  go_enter Try.func13, Try.ntmps13
  go_wp2
  have ho1 := own_one w i
  have hb1 : Below w.heap.size w _ := (Below.refl _ w).alloc (Nat.le_refl _) (.cells #[.int .i64 (i : Nat)] 3)
  generalize w.alloc (.cells #[.int .i64 (i : Nat)] 3) = W0 at *
  have HO1 := Lib.hid ho1; have HB1 := Lib.hid hb1; clear ho1 hb1
  have HGI := Lib.hid (GInv.start st d n i)
  go_loopg [0, 6, 7, 8] n (fun gf u0 u6 _ _ wr => ∃ (j : Nat) (pre : List Nat) (A : Option Addr) (c : Nat), u0 = .int .i64 j ∧ u6 = .slice A pre.length c ∧ j < n ∧ n ≤ j + gf ∧ pre.length ≤ j + 1 ∧ Hid (GInv st d n i pre j) ∧ Hid (Below w.heap.size w wr) ∧ Hid (wr.ownsRow w.heap.size 3 1 (.slice A pre.length c) pre.length (ints pre)))
  case atStart => exact ⟨i, [i], some ⟨w.heap.size, 0, none⟩, 1, rfl, rfl, hi, by omega, by simp, HGI, HB1, HO1⟩
  case round =>
    rename World => w5
    obtain ⟨j, pre, A, c, rfl, rfl, hj, hfu, hpl, HI, HB, HO⟩ := hrel
    have eg5 := (HB.out.block bg lbg).trans EG.out
    have p0 := Lib.cell_of_heap eg5 0
    have p1 := Lib.cell_of_heap eg5 1
    have p2 := Lib.cell_of_heap eg5 2
    have p3 := Lib.cell_of_heap eg5 3
    have p4 := Lib.cell_of_heap eg5 4
    clear eg5
    have z5 := HB.out.size
    go_wp2_with fail
    refine (CS.out j w5 hj HB.out).mono ?_
    rintro e w6 ⟨rfl, hb6⟩
    have z6 := hb6.size
    have HB6 := Lib.hid (HB.out.trans (hb6.mono z5))
    have hown := own_belowS HO.out hb6
    clear hb6 p0 p1 p2 p3 p4
    cases hs : st j d with
    | none =>
      have HE := Lib.hid (HGL.out.symm.trans (HI.out.stop hs))
      clear hs
      have HOW := Lib.hid hown; clear hown
      unfold stepV
      go_wp2_with fail
      go_ret
      refine ⟨A, c, ?_, ?_, HB6.out⟩
      · rw [HE.out]; rfl
      · rw [HE.out]; exact HOW.out
    | some j2 =>
      obtain ⟨u1, u2⟩ := HUP.out j j2 hs
      have HI2 := Lib.hid (HI.out.go HUP.out hs)
      clear hs
      obtain ⟨g', rfl⟩ : ∃ g', gk = g' + 1 := ⟨gk - 1, by omega⟩
      unfold stepV
      go_wp2_with (at_builtin; refine wpList_append_own_at _ rfl (.tmp 21) (.tmp 23) 25 rfl w.heap.size 3 i0 (.int .i64 0) 1 8 Try.underlying25 hi0 hz0 hz1 hz2 rfl (by decide) _ _ _ rfl (hown.alloc _) ⟨w6.heap.size, 0, none⟩ 1 1 [.int .i64 (j2 : Int)] rfl rfl (cell_one_new _ _ _) (by simp [Value.oneCell']) (by unfold maxLen; omega) (by omega) (by simp only [World.size_alloc]; omega) ?_; intro v' w7 hown7 hg7 _ _; obtain ⟨A7, c7, rfl⟩ := own_formZ hown7)
      have hb7 : Below w.heap.size w w7 := ((HB6.out.alloc (by omega) (.cells #[.int .i64 (j2 : Int)] 3)).grown hg7 (by simp only [World.size_alloc]; omega) (fun k hk => (hown.lt k hk).1))
      go_roundg g'
      case measure => omega
      case rel => exact ⟨j2, pre ++ [j2], A7, c7, rfl, by rw [List.length_append]; rfl, u2, by omega, by rw [List.length_append, List.length_singleton]; omega, HI2, Lib.hid hb7, Lib.hid (by rw [List.length_append, List.length_singleton, ints, List.map_append]; exact hown7)⟩
end Go.Proofs.Ytonibpilbkafnaa
