/- Package slots: List of a grid that is not right; the slots of any grid. -/
import Derived.Test.YtonibpilbkafnaaO19
import Derived.Test.YtonibpilbkafnaaO15
import Derived.Test.YtonibpilbkafnaaO20
namespace Go.Proofs.Ytonibpilbkafnaa
set_option linter.unusedVariables false
set_option linter.unusedSimpArgs false
open Go.RowKit Go.Lib

set_option maxHeartbeats 8000000 in
set_option maxRecDepth 100000 in
theorem List_bad (v : Value) (g : Gd) (B : Nat) (w : World) (h : GdAt w B v g) (hB : B ≤ w.heap.size) (hl : g.B.length ≤ 17592186044416 ∧ g.R.length ≤ 17592186044416 ∧ g.D.length ≤ 17592186044416) (hc : checkG g ≠ 0) :
    Calls Try.prog 6 #[v] w fun e w' => e = .returned (.slice none 0 0) ∧ Below w.heap.size w w' := by
  have cch := fun W (hb : Below B w W) (hz : B ≤ W.heap.size) => Check_any v g B W (h.below hb) hz hl
  obtain ⟨Ab, Ar, Ad, cb, cr, cd, rfl⟩ := h.form
  have t1 : (checkG g != 0) = true := by rw [bne_iff_ne]; exact hc
  generalize checkG g = cx at *
  obtain ⟨H, W, gB, gR, gD⟩ := g
  simp only [gdV] at cch h ⊢
  simp only at hl
  generalize gB.length = nb at *
  generalize gR.length = nr at *
  generalize gD.length = nd at *
  have CH := Lib.hid cch
  clear cch h hl hc
  go_enter Try.func6, Try.ntmps6
  go_wp2_with fail
  refine (CH.out _ ((Below.refl B w).alloc hB _) (by simp; omega)).mono ?_
  rintro e w1 ⟨rfl, hb1⟩
  have HBW := Lib.hid (((Below.refl w.heap.size w).alloc (Nat.le_refl _) _).trans (hb1.mono (by simp)))
  clear hb1
  go_wp2_with fail
  go_ret
  exact ⟨rfl, HBW.out⟩
/-- the slots of any grid: none, if it is not right -/
def slotsA (g : Gd) : List (Bool × List Nat) := if checkG g = 0 then slotsL (stG g) (g.H.toNat * g.W.toNat) (g.H.toNat * g.W.toNat) else []
theorem List_all (v : Value) (g : Gd) (B : Nat) (w : World) (h : GdAt w B v g) (hB : B ≤ w.heap.size) (hl : g.B.length ≤ 17592186044416 ∧ g.R.length ≤ 17592186044416 ∧ g.D.length ≤ 17592186044416) :
    Calls Try.prog 6 #[v] w fun e w' => ∃ vs A c, e = .returned (.slice A (slotsA g).length c) ∧ SlotsAt w' w.heap.size (.slice A (slotsA g).length c) vs (slotsA g) ∧ Below w.heap.size w w' := by
  by_cases hc : checkG g = 0
  · have : slotsA g = slotsL (stG g) (g.H.toNat * g.W.toNat) (g.H.toNat * g.W.toNat) := by unfold slotsA; rw [if_pos hc]
    rw [this]
    exact List_any v g B w h hB (ok_of_check hc)
  · have : slotsA g = [] := by unfold slotsA; rw [if_neg hc]
    rw [this]
    refine (List_bad v g B w h hB hl hc).mono ?_
    rintro e w' ⟨rfl, hb⟩
    exact ⟨[], none, 0, rfl, SlotsAt.nil _ _, hb⟩
theorem slotsA_len (g : Gd) : (slotsA g).length ≤ 512 := by
  unfold slotsA
  split
  · rename_i hc
    have h1 := slotsL_len (stG g) (g.H.toNat * g.W.toNat) (g.H.toNat * g.W.toNat)
    have h2 := (area_le (ok_of_check hc)).1
    omega
  · simp
theorem slotsA_cells {g : Gd} {s : Bool × List Nat} (h : s ∈ slotsA g) : OkG g ∧ s.2 ∈ slotsG g ∧ (∀ c ∈ s.2, c < g.H.toNat * g.W.toNat) := by
  unfold slotsA at h
  split at h
  · rename_i hc
    have h2 : s.2 ∈ slotsG g := by
      unfold slotsG
      rw [← slotsL_to]
      exact List.mem_map_of_mem h
    exact ⟨ok_of_check hc, h2, slot_lt h2⟩
  · cases h
theorem gath_len (st : Nat → Nat → Option Nat) (d : Nat) : ∀ f i, (gath st d f i).length ≤ f + 1
  | 0, i => by simp [gath]
  | f + 1, i => by
    unfold gath
    split
    · simp
    · have := gath_len st d f ‹Nat›
      simp only [List.length_cons]
      rename_i j _
      have := gath_len st d f j
      omega
theorem slotsA_short {g : Gd} {s : Bool × List Nat} (h : s ∈ slotsA g) : s.2.length ≤ 257 := by
  obtain ⟨h1, h2, _⟩ := slotsA_cells h
  obtain ⟨i, d, _, _, _, e⟩ := mem_slots.1 h2
  rw [e]
  have := gath_len (stW g.H.toNat g.W.toNat (gt g.B) (gt g.R) (gt g.D)) d (g.H.toNat * g.W.toNat) i
  have := (area_le h1).1
  omega
theorem symsG_len (g : Gd) : (symsG g).length ≤ 8 := by
  rw [syms_filter]
  exact Nat.le_trans (List.length_filter_le _ _) (by simp)
theorem slotsA_map {g : Gd} (h : OkG g) : (slotsA g).map (·.2) = slotsG g := by
  unfold slotsA
  rw [if_pos (check_of_ok h), slotsL_to]
  rfl
/-- of a symmetric grid, a slot's cells, turned, are a slot's -/
theorem sym_found {g : Gd} {k : Nat} (hk : k ∈ symsG g) {s : Bool × List Nat} (hs : s ∈ slotsA g) :
    (slotsA g).any (fun o => allB (wentL (placeW g.H.toNat g.W.toNat k) s.2) s.2.length o.2) = true := by
  obtain ⟨h1, h2, h3⟩ := syms_mem hk
  obtain ⟨_, hm, _⟩ := slotsA_cells hs
  have := found_any (sym_ok h1 h2 h3) (area_le h1).1 hm
  have e : (slotsG g).any (allB (wentL (placeW g.H.toNat g.W.toNat k) s.2) s.2.length) = true := this
  rw [← slotsA_map h1, List.any_map] at e
  exact e
/-- the marks as cells -/
def wentA (l : List Bool) : Array Value := (bools l).toArray
def z256 : List Bool := List.replicate 256 false
theorem run_went0 (W : World) : Sem.run Try.prog (zeroValue 32) W = .ok (.agg (wentA z256)) W := by kernel_rfl
theorem wentA_get {l : List Bool} {j : Nat} (h : j < l.length) : (wentA l)[j]? = some (.bool (l.getD j false)) := by
  unfold wentA bools
  rw [List.getElem?_toArray, List.getElem?_map, List.getD_eq_getElem?_getD, List.getElem?_eq_getElem h]
  rfl
theorem wentA_set (l : List Bool) (j : Nat) (x : Bool) : (wentA l).setIfInBounds j (.bool x) = wentA (l.set j x) := by
  unfold wentA
  rw [← bools_put]
  simp
theorem Place_g {g : Gd} (hg : OkG g) {k x : Nat} (hk : k < 8) (hx : x < g.H.toNat * g.W.toNat) (W : World) :
    Calls Try.prog 7 #[.int .i64 g.H, .int .i64 g.W, .int .i64 (x : Nat), .int .i64 (k : Nat)] W fun e w' => e = .returned (.tuple #[.int .i64 (placeW g.H.toNat g.W.toNat k x : Nat), .int .i64 0]) ∧ Below W.heap.size W w' := by
  obtain ⟨e1, e2, e3, e4, e5⟩ := area_le hg
  have := Place_any g.H.toNat g.W.toNat k x W hk ⟨e4, e5⟩ ⟨e2, e3⟩ hx
  rw [Int.toNat_of_nonneg (by have := hg.h0; omega), Int.toNat_of_nonneg (by have := hg.w0; omega)] at this
  exact this
end Go.Proofs.Ytonibpilbkafnaa
