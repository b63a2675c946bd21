/- SketchReads: for every text of at most 1048576 bytes the call returns true. -/
import Derived.Test.YtlkabghpcjlohaaDoorT19
namespace Go.Proofs.YtlkabghpcjlohaaDoor
set_option linter.unusedVariables false
set_option linter.unusedSimpArgs false
open Go.RowKit Go.Lib

theorem refParse_bad {s : ByteArray} {a : Nat} {er : Int} (hp : parseL (bl s) = .bad a er) (w : World) (hs : s.size ≤ 17592186044416) :
    Calls Tryd.prog 31 #[.string s] w fun e w' => e = .returned (.tuple #[.agg #[.int .i64 0, .int .i64 0, .slice none 0 0, .slice none 0 0, .slice none 0 0], .int .i64 (a : Nat), .int .i64 er]) ∧ Below w.heap.size w w' :=
  (refParse_any s w hs).mono fun e w' h => by
    unfold ParsePost at h
    rw [hp] at h
    exact ⟨h.2, h.1⟩
theorem refParse_good {s : ByteArray} {g : Gd} (hp : parseL (bl s) = .good g) (w : World) (hs : s.size ≤ 17592186044416) :
    Calls Tryd.prog 31 #[.string s] w fun e w' => ∃ Ab Ar Ad cb cr cd, e = .returned (.tuple #[gdV g Ab Ar Ad cb cr cd, .int .i64 0, .int .i64 0]) ∧ GdAt w' w'.heap.size (gdV g Ab Ar Ad cb cr cd) g ∧ Below w.heap.size w w' :=
  (refParse_any s w hs).mono fun e w' h => by
    unfold ParsePost at h
    rw [hp] at h
    obtain ⟨h1, v, rfl, h2⟩ := h
    obtain ⟨Ab, Ar, Ad, cb, cr, cd, rfl⟩ := h2.form
    exact ⟨Ab, Ar, Ad, cb, cr, cd, rfl, h2, h1⟩
theorem gd0_at (w : World) (B : Nat) : GdAt w B (.agg #[.int .i64 0, .int .i64 0, .slice none 0 0, .slice none 0 0, .slice none 0 0]) ⟨0, 0, [], [], []⟩ :=
  ⟨⟨by decide, by decide⟩, ⟨by decide, by decide⟩, _, _, _, rfl, ⟨none, 0, rfl, Nat.le_refl _, fun h => by simp at h⟩, ⟨none, 0, rfl, Nat.le_refl _, fun h => by simp at h⟩, ⟨none, 0, rfl, Nat.le_refl _, fun h => by simp at h⟩⟩
theorem Same_nil (w : World) : Calls Tryd.prog 32 #[.agg #[.int .i64 0, .int .i64 0, .slice none 0 0, .slice none 0 0, .slice none 0 0], .agg #[.int .i64 0, .int .i64 0, .slice none 0 0, .slice none 0 0, .slice none 0 0]] w fun e w' => e = .returned (.bool true) ∧ Below w.heap.size w w' := by
  have := Same_any _ _ ⟨0, 0, [], [], []⟩ ⟨0, 0, [], [], []⟩ w.heap.size w (gd0_at w _) (gd0_at w _) (Nat.le_refl _) ⟨by decide, by decide, by decide⟩ ⟨by decide, by decide, by decide⟩
  rw [decide_eq_true rfl] at this
  exact this

set_option maxHeartbeats 16000000 in
set_option maxRecDepth 100000 in
theorem sketchReads_any (s : ByteArray) (w : World) (hs : s.size ≤ 1048576) (hT : Tabs w) :
    Calls Tryd.prog 9 #[.string s] w fun e w' => e = .returned (.bool true) ∧ Below w.heap.size w w' := by
  have CA := Lib.hid (awake8_any w hT)
  have HT := Lib.hid hT; clear hT
  cases hp : parseL (bl s) with
  | bad a er =>
    have CP : Hid (∀ W, Below w.heap.size w W → _) := Lib.hid (fun W hW => Parse_bad hp W (HT.out.below hW) (by omega))
    have CR := Lib.hid (fun W => refParse_bad hp W (by omega))
    have CS := Lib.hid Same_nil
    clear hp
    go_enter Tryd.func9, Tryd.ntmps9
    go_wp2_with (first
      | (go_at_call 29; refine CA.out.mono ?_; rintro e w1 ⟨rfl, hb1⟩; have HB1 := Lib.hid hb1; clear hb1)
      | (go_at_call 30; refine (CP.out _ HB1.out).mono ?_; rintro e w2 ⟨rfl, hb2⟩; have HB2 := Lib.hid (HB1.out.trans (hb2.mono HB1.out.size)); clear hb2)
      | (go_at_call 31; refine (CR.out _).mono ?_; rintro e w3 ⟨rfl, hb3⟩; have HB3 := Lib.hid (((Below.refl w2.heap.size w2).alloc (Nat.le_refl _) _).trans (hb3.mono (by simp))); have hk3 := Lib.hid ((hb3.block w2.heap.size (by simp)).trans (World.alloc_heap_new w2 _)); have z23 : w2.heap.size < w3.heap.size := (by have := hb3.size; simp at this; omega); have hp3 := Lib.hid ((Below.heap_alloc w3 grid0 w2.heap.size z23).trans hk3.out); have hr3 := Lib.hid (World.alloc_heap_new w3 grid0); have p0 := Lib.cell_of_heap hp3.out 0; have p1 := Lib.cell_of_heap hp3.out 1; have p2 := Lib.cell_of_heap hp3.out 2; have p3 := Lib.cell_of_heap hp3.out 3; have p4 := Lib.cell_of_heap hp3.out 4; have r0 := Lib.cell_of_heap hr3.out 0; have r1 := Lib.cell_of_heap hr3.out 1; have r2 := Lib.cell_of_heap hr3.out 2; have r3 := Lib.cell_of_heap hr3.out 3; have r4 := Lib.cell_of_heap hr3.out 4; clear hb3)
      | (go_at_call 32; refine (CS.out _).mono ?_; rintro e w4 ⟨rfl, hb4⟩))
    go_ret
    exact ⟨rfl, HB2.out.trans ((HB3.out.trans (((Below.refl w3.heap.size w3).alloc (Nat.le_refl _) _).trans (hb4.mono (by simp)) |>.mono (Nat.le_of_lt z23))).mono HB2.out.size)⟩
  | good g =>
    have hok := parse_ok hp
    have CP : Hid (∀ W, Below w.heap.size w W → _) := Lib.hid (fun W hW => Parse_good hp W (HT.out.below hW) (by omega))
    have CR := Lib.hid (fun W => refParse_good hp W (by omega))
    have CS := Lib.hid (fun v u W h1 h2 => Same_refl v u g W h1 h2 hok)
    clear hp hok
    go_enter Tryd.func9, Tryd.ntmps9
    go_wp2_with (first
      | (go_at_call 29; refine CA.out.mono ?_; rintro e w1 ⟨rfl, hb1⟩; have HB1 := Lib.hid hb1; clear hb1)
      | (go_at_call 30; refine (CP.out _ HB1.out).mono ?_; rintro e w2 ⟨Ab, Ar, Ad, cb, cr, cd, rfl, hg2, hb2⟩; have HG2 := Lib.hid hg2; have HB2 := Lib.hid (HB1.out.trans (hb2.mono HB1.out.size)); clear hg2 hb2)
      | (go_at_call 31; refine (CR.out _).mono ?_; rintro e w3 ⟨A2, R2, D2, cb2, cr2, cd2, rfl, hg3, hb3⟩; have HG3 := Lib.hid hg3; have HB3 := Lib.hid (((Below.refl w2.heap.size w2).alloc (Nat.le_refl _) _).trans (hb3.mono (by simp))); have hk3 := Lib.hid ((hb3.block w2.heap.size (by simp)).trans (World.alloc_heap_new w2 _)); have z23 : w2.heap.size < w3.heap.size := (by have := hb3.size; simp at this; omega); have hp3 := Lib.hid ((Below.heap_alloc w3 (.cells #[.int .i64 g.H, .int .i64 g.W, .slice A2 g.B.length cb2, .slice R2 g.R.length cr2, .slice D2 g.D.length cd2] 45) w2.heap.size z23).trans hk3.out); have hr3 := Lib.hid (World.alloc_heap_new w3 (.cells #[.int .i64 g.H, .int .i64 g.W, .slice A2 g.B.length cb2, .slice R2 g.R.length cr2, .slice D2 g.D.length cd2] 45)); have p0 := Lib.cell_of_heap hp3.out 0; have p1 := Lib.cell_of_heap hp3.out 1; have p2 := Lib.cell_of_heap hp3.out 2; have p3 := Lib.cell_of_heap hp3.out 3; have p4 := Lib.cell_of_heap hp3.out 4; have r0 := Lib.cell_of_heap hr3.out 0; have r1 := Lib.cell_of_heap hr3.out 1; have r2 := Lib.cell_of_heap hr3.out 2; have r3 := Lib.cell_of_heap hr3.out 3; have r4 := Lib.cell_of_heap hr3.out 4; clear hg3 hb3)
      | (go_at_call 32; refine (CS.out _ _ _ (((HG2.out.below HB3.out).below (((Below.refl w3.heap.size w3).alloc (Nat.le_refl _) _).mono (Nat.le_of_lt z23))).more (by simp; omega)) ((HG3.out.below ((Below.refl w3.heap.size w3).alloc (Nat.le_refl _) _)).more (by simp))).mono ?_; rintro e w4 ⟨rfl, hb4⟩))
    go_ret
    exact ⟨rfl, HB2.out.trans ((HB3.out.trans (((Below.refl w3.heap.size w3).alloc (Nat.le_refl _) _).trans (hb4.mono (by simp)) |>.mono (Nat.le_of_lt z23))).mono HB2.out.size)⟩
end Go.Proofs.YtlkabghpcjlohaaDoor
