/- Walks of the reference of layer 1: Places, Runes, Count, Valid, Cut. -/
import Derived.Test.YtlkabghpcjlohaaG3
import Derived.Test.YtlkabghpcjlohaaA6
import Derived.Test.YtlkabghpcjlohaaS1
namespace Go.Proofs.Ytlkabghpcjlohaa
set_option linter.unusedVariables false
set_option linter.unusedSimpArgs false
open Go.RowKit Go.Lib

theorem next_dec (s : ByteArray) (p : Nat) (h : p < s.size) : nextL (bl s) (p : Int) = Utf8.decode s p := by
  unfold nextL
  rw [if_neg (by rw [bl_length]; omega), Int.toNat_natCast, ← dec_at]

set_option maxHeartbeats 2000000 in
set_option maxRecDepth 100000 in
theorem refPlaces_any (s : ByteArray) (w : World) (hs : s.size ≤ 17592186044416) :
    Calls Try.prog 100 #[.string s] w fun e w' => ∃ v, e = .returned v ∧ w'.ownsRow w.heap.size 3 1 v (places (bl s)).length (ints (places (bl s))) ∧ Below w.heap.size w w' := by
  obtain ⟨i0, hi, hz0, hz1, hz2⟩ := info_parts infoInt
  have hle := chop_length_le (bl s)
  rw [bl_length] at hle
  go_enter Try.func100, Try.ntmps100
  go_wp2
  go_loopg [3, 4, 5, 6] s.size (fun gf v u4 _ _ wr => ∃ (pos : Nat) (acc : List Nat), u4 = .int .i64 pos ∧ Below w.heap.size w wr ∧
    wr.ownsRow w.heap.size 3 1 v acc.length (ints acc) ∧ acc ++ placesFrom pos (chop ((bl s).drop pos)) = places (bl s) ∧ acc.length ≤ pos ∧ pos ≤ s.size ∧ s.size ≤ pos + gf)
  case atStart => exact ⟨0, [], rfl, Below.refl _ w, World.ownsRow_nil _ _ _ _, by simp [places], Nat.le_refl _, Nat.zero_le _, by omega⟩
  case round =>
    obtain ⟨pos, acc, rfl, hbw, hown, hc, hal, hps, hfu⟩ := hrel
    by_cases hp : pos < s.size
    · obtain ⟨g', rfl⟩ : ∃ g', gk = g' + 1 := ⟨gk - 1, by omega⟩
      have hwd := Lib.width_pos s pos
      have hwl := width_le s pos hp
      have hpl := piece_len s pos hp
      rw [chop_at s pos hp, placesFrom, hpl] at hc
      have cN := fun W => refNext_any s (pos : Int) W (by omega) (by omega) (by omega)
      rw [next_dec s pos hp] at cN
      clear hpl
      generalize Utf8.decode s pos = d at *
      have HC := Lib.hid hc; clear hc
      have CN := Lib.hid cN; clear cN
      have j1 : (pos : Int) < (s.size : Int) := by omega
      have hsz := hbw.size
      go_wp2_with (first
        | (go_at_call 80; refine (CN.out _).mono ?_; rintro e w2 ⟨rfl, rfl⟩)
        | (at_builtin; refine wpList_append_own _ rfl (.tmp 11) (.tmp 13) 35 rfl w.heap.size 3 i0 (.int .i64 0) 1 8 Try.underlying35 hi hz0 hz1 hz2 rfl (by decide) _ _ _ rfl (hown.alloc _) ⟨wr.heap.size, 0, none⟩ 1 1 [.int .i64 (pos : Int)] rfl rfl (cell_one_new _ _ _) (by simp [Value.oneCell']) (by unfold maxLen; omega) (by omega) (by simp; omega) ?_; intro v' w1 hown' hgrow _))
      have hbw3 : Below w.heap.size w w1 := (hbw.alloc hbw.size _).grown hgrow (by simp; have := hbw.size; omega) (fun j hj => (hown.lt j hj).1)
      go_roundg g'
      case measure => omega
      case rel => exact ⟨pos + d.2, acc ++ [pos], by go_num, hbw3, by simpa [ints] using hown', by rw [List.append_assoc]; exact HC.out, by simp; omega, by omega, by omega⟩
    · rw [chop_end s pos hp, placesFrom, List.append_nil] at hc
      subst hc
      have j1 : (s.size : Int) ≤ (pos : Int) := by omega
      go_wp2
      go_ret
      exact ⟨_, rfl, hown, hbw⟩

theorem infoI32 : (Try.prog.info? 21).map (fun i => (i.zero, i.size, i.bytes)) = some (some (.int .i32 0), 1, 4) := by kernel_rfl
abbrev runeVs (l : List Nat) : List Value := l.map fun (n : Nat) => Value.int .i32 (n : Int)

set_option maxHeartbeats 2000000 in
set_option maxRecDepth 100000 in
theorem refRunes_any (s : ByteArray) (w : World) (hs : s.size ≤ 17592186044416) :
    Calls Try.prog 79 #[.string s] w fun e w' => ∃ v, e = .returned v ∧ w'.ownsRow w.heap.size 21 1 v (runes (bl s)).length (runeVs (runes (bl s))) ∧ Below w.heap.size w w' := by
  obtain ⟨i0, hi, hz0, hz1, hz2⟩ := info_parts infoI32
  have hle := chop_length_le (bl s)
  rw [bl_length] at hle
  go_enter Try.func79, Try.ntmps79
  go_wp2
  go_loopg [3, 4, 5, 6] s.size (fun gf v u4 _ _ wr => ∃ (pos : Nat) (acc : List Nat), u4 = .int .i64 pos ∧ Below w.heap.size w wr ∧
    wr.ownsRow w.heap.size 21 1 v acc.length (runeVs acc) ∧ acc ++ runes ((bl s).drop pos) = runes (bl s) ∧ acc.length ≤ pos ∧ pos ≤ s.size ∧ s.size ≤ pos + gf)
  case atStart => exact ⟨0, [], rfl, Below.refl _ w, World.ownsRow_nil _ _ _ _, by simp, Nat.le_refl _, Nat.zero_le _, by omega⟩
  case round =>
    obtain ⟨pos, acc, rfl, hbw, hown, hc, hal, hps, hfu⟩ := hrel
    by_cases hp : pos < s.size
    · obtain ⟨g', rfl⟩ : ∃ g', gk = g' + 1 := ⟨gk - 1, by omega⟩
      have hwd := Lib.width_pos s pos
      have hwl := width_le s pos hp
      unfold runes at hc
      rw [chop_at s pos hp, List.map_cons] at hc
      have cN := fun W => refNext_any s (pos : Int) W (by omega) (by omega) (by omega)
      rw [next_dec s pos hp] at cN
      generalize Utf8.decode s pos = d at *
      have HC := Lib.hid hc; clear hc
      have CN := Lib.hid cN; clear cN
      have j1 : (pos : Int) < (s.size : Int) := by omega
      have hsz := hbw.size
      go_wp2_with (first
        | (go_at_call 80; refine (CN.out _).mono ?_; rintro e w2 ⟨rfl, rfl⟩)
        | (at_builtin; refine wpList_append_own _ rfl (.tmp 17) (.tmp 19) 93 rfl w.heap.size 21 i0 (.int .i32 0) 1 4 Try.underlying93 hi hz0 hz1 hz2 rfl (by decide) _ _ _ rfl (hown.alloc _) ⟨wr.heap.size, 0, none⟩ 1 1 [.int .i32 (d.1 : Int)] rfl rfl (cell_one_new _ _ _) (by simp [Value.oneCell']) (by unfold maxLen; omega) (by omega) (by simp; omega) ?_; intro v' w1 hown' hgrow _))
      have hbw3 : Below w.heap.size w w1 := (hbw.alloc hbw.size _).grown hgrow (by simp; have := hbw.size; omega) (fun j hj => (hown.lt j hj).1)
      go_roundg g'
      case measure => omega
      case rel => exact ⟨pos + d.2, acc ++ [d.1], by go_num, hbw3, by simpa [runeVs] using hown', by rw [List.append_assoc]; exact HC.out, by simp; omega, by omega, by omega⟩
    · unfold runes at hc
      rw [chop_end s pos hp, List.map_nil, List.append_nil] at hc
      have hc2 : acc = runes (bl s) := hc
      subst hc2
      have j1 : (s.size : Int) ≤ (pos : Int) := by omega
      go_wp2
      go_ret
      exact ⟨_, rfl, hown, hbw⟩

theorem own_form {w : World} {B e : Nat} {v : Value} {n : Nat} {xs : List Value} (h : w.ownsRow B e 1 v n xs) : ∃ A c, v = .slice A n c := by
  obtain ⟨A, c, hv, _⟩ := Sl.of_own h
  have hl : xs.length = n := by simpa using h.1
  rw [hl] at hv
  exact ⟨A, c, hv⟩
theorem places_length (l : List UInt8) : (places l).length = (chop l).length := placesFrom_length 0 (chop l)

set_option maxHeartbeats 2000000 in
set_option maxRecDepth 100000 in
theorem refCount_any (s : ByteArray) (w : World) (hs : s.size ≤ 17592186044416) :
    Calls Try.prog 67 #[.string s] w fun e w' => e = .returned (.int .i64 (chop (bl s)).length) ∧ Below w.heap.size w w' := by
  have c := fun W => refPlaces_any s W hs
  rw [places_length] at c
  have HC := Lib.hid c; clear c
  go_enter Try.func67, Try.ntmps67
  go_wp2_with (go_at_call 100; refine (HC.out _).mono ?_; rintro e w1 ⟨v, rfl, hown, hb⟩; obtain ⟨A, c, rfl⟩ := own_form hown)
  go_ret
  exact ⟨rfl, hb⟩
end Go.Proofs.Ytlkabghpcjlohaa
