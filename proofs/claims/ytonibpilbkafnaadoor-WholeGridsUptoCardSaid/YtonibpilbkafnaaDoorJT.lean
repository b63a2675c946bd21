/- Joined texts: U5: walks and plain laws for this seat's program, each stated where it stands; conditions: as each states. -/
import Derived.Test.YtonibpilbkafnaaDoorJE
import Derived.Laws.CopyOwn
import Derived.Deep.RegionLaw
import Derived.Test.YtonibpilbkafnaaDoorShelf
/- Package slices: Repeat of one number. -/
namespace Go.Proofs.YtonibpilbkafnaaDoor
set_option linter.unusedVariables false
set_option linter.unusedSimpArgs false
open Go.RowKit Go.Lib

/-- so many filled, the rest nought -/
def fillN (n k : Nat) : List Value := List.replicate k (.int .i64 (-1)) ++ List.replicate (n - k) (.int .i64 0)
theorem fillN_len {n k : Nat} (h : k ≤ n) : (fillN n k).length = n := by unfold fillN; rw [List.length_append, List.length_replicate, List.length_replicate]; omega
theorem fillN_made (n : Nat) : (madeCells #[Value.int .i64 0] n) = (fillN n 0).toArray := by
  apply Array.ext'
  apply List.ext_getElem
  · simp [madeCells, fillN]
  · intro i h1 h2
    simp [madeCells, fillN, Nat.mod_one]
theorem fillN_splice {n k m : Nat} (h : k + m ≤ n) : splice (fillN n k) k (List.replicate m (.int .i64 (-1))) = fillN n (k + m) := by
  unfold splice fillN
  rw [List.take_left' (by simp), List.drop_append, List.length_replicate, List.length_replicate, List.drop_eq_nil_of_le (by simp), List.nil_append, List.drop_replicate]
  rw [show n - k - (k + m - k) = n - (k + m) by omega, ← List.append_assoc, List.replicate_append_replicate]
theorem fillN_all (n : Nat) : fillN n n = List.replicate n (.int .i64 (-1)) := by unfold fillN; simp
theorem fillN_get {n k j : Nat} (h : j < k) : (fillN n k)[j]? = some (.int .i64 (-1)) := by
  unfold fillN
  rw [List.getElem?_append_left (by simpa using h), List.getElem?_replicate, if_pos h]
theorem sizeInt : (Tryd.prog.info? 3).map (·.size) = some 1 := by kernel_rfl
theorem one_src {W : World} {g : Nat} {x : Value} (h : W.cell? ⟨g, 0, none⟩ = some x) : ∀ j v, [x][j]? = some v → W.cell? ((⟨g, 0, none⟩ : Addr).add j) = some v := by
  intro j v hv
  cases j with
  | zero => simp only [List.getElem?_cons_zero, Option.some.injEq] at hv; subst hv; simpa [Addr.add] using h
  | succ j => simp at hv
theorem many_src {W : World} {g n k m : Nat} (h : W.heap[g]? = some (.cells (fillN n k).toArray 3 (0, 0))) (hm : m ≤ k := by omega) : ∀ j v, (List.replicate m (Value.int .i64 (-1)))[j]? = some v → W.cell? ((⟨g, 0, none⟩ : Addr).add j) = some v := by
  intro j v hv
  rw [List.getElem?_replicate] at hv
  split at hv
  · injection hv with hv
    subst hv
    refine World.news_of_block h j _ ?_
    exact fillN_get (by omega)
  · cases hv
set_option maxHeartbeats 8000000 in
set_option maxRecDepth 100000 in
theorem Repeat_any (g0 cap n : Nat) (w : World) (hc : w.cell? ⟨g0, 0, none⟩ = some (.int .i64 (-1))) (h1 : 1 ≤ n) (h2 : n ≤ 256) :
    Calls Tryd.prog 29 #[.slice (some ⟨g0, 0, none⟩) 1 cap, .int .i64 (n : Nat)] w fun e w' => ∃ gp, e = .returned (.slice (some ⟨gp, 0, none⟩) n n) ∧ w.heap.size ≤ gp ∧ w'.heap[gp]? = some (.cells (fillN n n).toArray 3 (0, 0)) ∧ Below w.heap.size w w' := by
  have cm := fun W => Tryd.bits_Mul 1 n (by omega) (by omega) W
  rw [Nat.one_mul, Nat.div_eq_of_lt (by omega), Nat.mod_eq_of_lt (by omega)] at cm
  have CM := Lib.hid cm; clear cm
  have hmk := run_make_row' (P := Tryd.prog) 37 3 (.int .i64 0) 8 Tryd.underlying37 infoInt rfl .i64 .i64 n (by omega) (by omega)
  have lg0 := World.block_lt_of_cell? w _ hc
  go_enter Tryd.func29, Tryd.ntmps29
  go_wp2_with fail
  refine (CM.out _).mono ?_
  rintro e w1 ⟨rfl, rfl⟩
  have hgm : (w1.alloc (.cells (madeCells #[.int .i64 0] n) 3)).heap[w1.heap.size]? = some (.cells (fillN n 0).toArray 3 (0, 0)) := by rw [← fillN_made]; exact World.alloc_heap_new w1 _
  have hbm : Below w1.heap.size w1 (w1.alloc (.cells (madeCells #[.int .i64 0] n) 3)) := (Below.refl _ w1).alloc (Nat.le_refl _) _
  have hcm : (w1.alloc (.cells (madeCells #[.int .i64 0] n) 3)).cell? ⟨g0, 0, none⟩ = some (.int .i64 (-1)) := (hbm.cell (p := ⟨g0, 0, none⟩) lg0).trans hc
  have hl0 := fillN_len (n := n) (k := 0) (by omega)
  have HGM := Lib.hid hgm; have HBM := Lib.hid hbm; have HCM := Lib.hid hcm
  clear hgm hbm hcm
  go_wp2_with (refine wpList_copy_splice rfl (.tmp 31) (.tmp 32) 37 37 rfl 3 Tryd.underlying37 sizeInt (some ⟨w1.heap.size, 0, none⟩) (some ⟨g0, 0, none⟩) n n 1 cap rfl rfl w1.heap.size 0 (fillN n 0) 3 HGM.out [.int .i64 (-1)] (by show 1 = Nat.min 1 n; simp [Nat.min_def]; omega) (fun _ => ⟨rfl, _, rfl, one_src HCM.out⟩) (by rw [hl0]; simp; omega) (by simp [Value.oneCell']) w1.heap.size w1 HBM.out (Nat.le_refl _) ?_; intro w2 hg2 hb2)
  have HG2 : Hid (w2.heap[w1.heap.size]? = some (.cells (fillN n 1).toArray 3 (0, 0))) := Lib.hid (by have := hg2; rw [show splice (fillN n 0) 0 [Value.int .i64 (-1)] = fillN n 1 from fillN_splice (n := n) (k := 0) (m := 1) (by omega)] at this; exact this)
  have HB2 := Lib.hid hb2
  clear hg2 hb2 hl0 HGM HBM HCM
  generalize hgp : w1.heap.size = gp at *
  have HGP := Lib.hid hgp; clear hgp
  go_loopg [8] n (fun gf u8 wr => ∃ k : Nat, u8 = .int .i64 k ∧ 1 ≤ k ∧ k ≤ n ∧ n ≤ k + gf ∧ Hid (wr.heap[gp]? = some (.cells (fillN n k).toArray 3 (0, 0))) ∧ Hid (Below gp w1 wr))
  case atStart => exact ⟨1, rfl, Nat.le_refl _, h1, by omega, HG2, HB2⟩
  case round =>
    clear HG2 HB2
    rename World => w3
    obtain ⟨k, rfl, hk1, hk, hfu, HG3, HB3⟩ := hrel
    by_cases hlt : k < n
    · obtain ⟨g', rfl⟩ : ∃ g', gk = g' + 1 := ⟨gk - 1, by omega⟩
      have hlk := fillN_len (n := n) (k := k) (by omega)
      have i1 : (0 : Int) ≤ (k : Int) := by omega
      have i2 : (k : Int) ≤ (n : Int) := by omega
      go_wp2_with fail
      have hnk : ¬ n = k := by omega
      have hnk2 : ¬ k = n := by omega
      have hsrc := many_src HG3.out (m := min k (n - k)) (by omega)
      have hfit : k + (List.replicate (min k (n - k)) (Value.int .i64 (-1))).length ≤ (fillN n k).length := by rw [hlk, List.length_replicate]; omega
      have hlen : (List.replicate (min k (n - k)) (Value.int .i64 (-1))).length = Nat.min k (n - k) := List.length_replicate
      have hone : ∀ v ∈ List.replicate (min k (n - k)) (Value.int .i64 (-1)), v.oneCell' = true := fun v hv => by rw [List.eq_of_mem_replicate hv]; rfl
      have hcp := run_copy_row (P := Tryd.prog) w3.drew 37 37 3 3 gp k (n - k) (n - k) ⟨gp, 0, none⟩ k n (fillN n k).toArray 3 (List.replicate (min k (n - k)) (.int .i64 (-1))) Tryd.underlying37 sizeInt HG3.out hlen hsrc (by simpa using hfit) hone
      have hgr := setRow_heap w3.drew gp _ (((fillN n k).toArray.toList.take k ++ List.replicate (min k (n - k)) (Value.int .i64 (-1)) ++ (fillN n k).toArray.toList.drop (k + (List.replicate (min k (n - k)) (Value.int .i64 (-1))).length)).toArray) 3 (0, 0) HG3.out
      have hbr := below_setRow (g := gp) HB3.out.drew (Nat.le_refl gp) (((fillN n k).toArray.toList.take k ++ List.replicate (min k (n - k)) (Value.int .i64 (-1)) ++ (fillN n k).toArray.toList.drop (k + (List.replicate (min k (n - k)) (Value.int .i64 (-1))).length)).toArray)
      generalize w3.drew.setRow gp _ = w4 at *
      rw [List.length_replicate] at hcp hgr
      obtain ⟨m, hm⟩ : ∃ m, min k (n - k) = m := ⟨_, rfl⟩
      rw [hm] at hcp hgr
      have hm1 : 1 ≤ m := by omega
      have hm2 : k + m ≤ n := by omega
      have hgr2 : w4.heap[gp]? = some (.cells (fillN n (k + m)).toArray 3 (0, 0)) := by
        rw [hgr, ← fillN_splice hm2]
        unfold splice
        simp
      have HG4 := Lib.hid hgr2; have HB4 := Lib.hid hbr
      clear hgr hgr2 hbr hm hsrc hfit hlen hone hlk HG3 HB3
      go_region
      go_wp2_with fail
      go_roundg g'
      case measure => omega
      case rel => exact ⟨k + m, by go_num, by omega, by omega, by omega, HG4, HB4⟩
    · obtain rfl : n = k := by omega
      go_wp2_with fail
      go_ret
      exact ⟨gp, rfl, by rw [HGP.out]; exact Nat.le_refl _, HG3.out, by rw [HGP.out]; exact HB3.out⟩
end Go.Proofs.YtonibpilbkafnaaDoor
