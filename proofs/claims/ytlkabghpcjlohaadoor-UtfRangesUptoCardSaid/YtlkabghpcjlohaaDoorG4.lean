/- Walks of the reference of layer 1: Places, Runes, Count, Valid, Cut. -/
import Derived.Test.YtlkabghpcjlohaaDoorG3
import Derived.Test.YtlkabghpcjlohaaDoorA6
import Derived.Test.YtlkabghpcjlohaaDoorS1
namespace Go.Proofs.YtlkabghpcjlohaaDoor
set_option linter.unusedVariables false
set_option linter.unusedSimpArgs false
open Go.RowKit Go.Lib

theorem next_dec (s : ByteArray) (p : Nat) (h : p < s.size) : nextL (bl s) (p : Int) = Utf8.decode s p := by
  unfold nextL
  rw [if_neg (by rw [bl_length]; omega), Int.toNat_natCast, ← dec_at]

set_option maxHeartbeats 2000000 in
set_option maxRecDepth 100000 in
theorem refPlaces_any (s : ByteArray) (w : World) (hs : s.size ≤ 17592186044416) :
    Calls Tryd.prog 36 #[.string s] w fun e w' => ∃ v, e = .returned v ∧ w'.ownsRow w.heap.size 3 1 v (places (bl s)).length (ints (places (bl s))) ∧ Below w.heap.size w w' := by
  obtain ⟨i0, hi, hz0, hz1, hz2⟩ := info_parts infoInt
  have hle := chop_length_le (bl s)
  rw [bl_length] at hle
  go_enter Tryd.func36, Tryd.ntmps36
  go_wp2
  go_loopg [3, 4, 5, 6] s.size (fun gf v u4 _ _ wr => ∃ (pos : Nat) (acc : List Nat), u4 = .int .i64 pos ∧ Below w.heap.size w wr ∧
    wr.ownsRow w.heap.size 3 1 v acc.length (ints acc) ∧ acc ++ placesFrom pos (chop ((bl s).drop pos)) = places (bl s) ∧ acc.length ≤ pos ∧ pos ≤ s.size ∧ s.size ≤ pos + gf)
  case atStart => exact ⟨0, [], rfl, Below.refl _ w, World.ownsRow_nil _ _ _ _, by simp [places], Nat.le_refl _, Nat.zero_le _, by omega⟩
  case round =>
    obtain ⟨pos, acc, rfl, hbw, hown, hc, hal, hps, hfu⟩ := hrel
    by_cases hp : pos < s.size
    · obtain ⟨g', rfl⟩ : ∃ g', gk = g' + 1 := ⟨gk - 1, by omega⟩
      have hwd := Lib.width_pos s pos
      have hwl := width_le s pos hp
      have hpl := piece_len s pos hp
      rw [chop_at s pos hp, placesFrom, hpl] at hc
      have cN := fun W => refNext_any s (pos : Int) W (by omega) (by omega) (by omega)
      rw [next_dec s pos hp] at cN
      clear hpl
      generalize Utf8.decode s pos = d at *
      have HC := Lib.hid hc; clear hc
      have CN := Lib.hid cN; clear cN
      have j1 : (pos : Int) < (s.size : Int) := by omega
      have hsz := hbw.size
      go_wp2_with (first
        | (go_at_call 35; refine (CN.out _).mono ?_; rintro e w2 ⟨rfl, rfl⟩)
        | (at_builtin; refine wpList_append_own _ rfl (.tmp 11) (.tmp 13) 29 rfl w.heap.size 3 i0 (.int .i64 0) 1 8 Tryd.underlying29 hi hz0 hz1 hz2 rfl (by decide) _ _ _ rfl (hown.alloc _) ⟨wr.heap.size, 0, none⟩ 1 1 [.int .i64 (pos : Int)] rfl rfl (cell_one_new _ _ _) (by simp [Value.oneCell']) (by unfold maxLen; omega) (by omega) (by simp; omega) ?_; intro v' w1 hown' hgrow _))
      have hbw3 : Below w.heap.size w w1 := (hbw.alloc hbw.size _).grown hgrow (by simp; have := hbw.size; omega) (fun j hj => (hown.lt j hj).1)
      go_roundg g'
      case measure => omega
      case rel => exact ⟨pos + d.2, acc ++ [pos], by go_num, hbw3, by simpa [ints] using hown', by rw [List.append_assoc]; exact HC.out, by simp; omega, by omega, by omega⟩
    · rw [chop_end s pos hp, placesFrom, List.append_nil] at hc
      subst hc
      have j1 : (s.size : Int) ≤ (pos : Int) := by omega
      go_wp2
      go_ret
      exact ⟨_, rfl, hown, hbw⟩

theorem infoI32 : (Tryd.prog.info? 21).map (fun i => (i.zero, i.size, i.bytes)) = some (some (.int .i32 0), 1, 4) := by kernel_rfl
abbrev runeVs (l : List Nat) : List Value := l.map fun (n : Nat) => Value.int .i32 (n : Int)

set_option maxHeartbeats 2000000 in
set_option maxRecDepth 100000 in
theorem refRunes_any (s : ByteArray) (w : World) (hs : s.size ≤ 17592186044416) :
    Calls Tryd.prog 63 #[.string s] w fun e w' => ∃ v, e = .returned v ∧ w'.ownsRow w.heap.size 21 1 v (runes (bl s)).length (runeVs (runes (bl s))) ∧ Below w.heap.size w w' := by
  obtain ⟨i0, hi, hz0, hz1, hz2⟩ := info_parts infoI32
  have hle := chop_length_le (bl s)
  rw [bl_length] at hle
  go_enter Tryd.func63, Tryd.ntmps63
  go_wp2
  go_loopg [3, 4, 5, 6] s.size (fun gf v u4 _ _ wr => ∃ (pos : Nat) (acc : List Nat), u4 = .int .i64 pos ∧ Below w.heap.size w wr ∧
    wr.ownsRow w.heap.size 21 1 v acc.length (runeVs acc) ∧ acc ++ runes ((bl s).drop pos) = runes (bl s) ∧ acc.length ≤ pos ∧ pos ≤ s.size ∧ s.size ≤ pos + gf)
  case atStart => exact ⟨0, [], rfl, Below.refl _ w, World.ownsRow_nil _ _ _ _, by simp, Nat.le_refl _, Nat.zero_le _, by omega⟩
  case round =>
    obtain ⟨pos, acc, rfl, hbw, hown, hc, hal, hps, hfu⟩ := hrel
    by_cases hp : pos < s.size
    · obtain ⟨g', rfl⟩ : ∃ g', gk = g' + 1 := ⟨gk - 1, by omega⟩
      have hwd := Lib.width_pos s pos
      have hwl := width_le s pos hp
      unfold runes at hc
      rw [chop_at s pos hp, List.map_cons] at hc
      have cN := fun W => refNext_any s (pos : Int) W (by omega) (by omega) (by omega)
      rw [next_dec s pos hp] at cN
      generalize Utf8.decode s pos = d at *
      have HC := Lib.hid hc; clear hc
      have CN := Lib.hid cN; clear cN
      have j1 : (pos : Int) < (s.size : Int) := by omega
      have hsz := hbw.size
      go_wp2_with (first
        | (go_at_call 35; refine (CN.out _).mono ?_; rintro e w2 ⟨rfl, rfl⟩)
        | (at_builtin; refine wpList_append_own _ rfl (.tmp 17) (.tmp 19) 30 rfl w.heap.size 21 i0 (.int .i32 0) 1 4 Tryd.underlying30 hi hz0 hz1 hz2 rfl (by decide) _ _ _ rfl (hown.alloc _) ⟨wr.heap.size, 0, none⟩ 1 1 [.int .i32 (d.1 : Int)] rfl rfl (cell_one_new _ _ _) (by simp [Value.oneCell']) (by unfold maxLen; omega) (by omega) (by simp; omega) ?_; intro v' w1 hown' hgrow _))
      have hbw3 : Below w.heap.size w w1 := (hbw.alloc hbw.size _).grown hgrow (by simp; have := hbw.size; omega) (fun j hj => (hown.lt j hj).1)
      go_roundg g'
      case measure => omega
      case rel => exact ⟨pos + d.2, acc ++ [d.1], by go_num, hbw3, by simpa [runeVs] using hown', by rw [List.append_assoc]; exact HC.out, by simp; omega, by omega, by omega⟩
    · unfold runes at hc
      rw [chop_end s pos hp, List.map_nil, List.append_nil] at hc
      have hc2 : acc = runes (bl s) := hc
      subst hc2
      have j1 : (s.size : Int) ≤ (pos : Int) := by omega
      go_wp2
      go_ret
      exact ⟨_, rfl, hown, hbw⟩

theorem own_form {w : World} {B e : Nat} {v : Value} {n : Nat} {xs : List Value} (h : w.ownsRow B e 1 v n xs) : ∃ A c, v = .slice A n c := by
  obtain ⟨A, c, hv, _⟩ := Sl.of_own h
  have hl : xs.length = n := by simpa using h.1
  rw [hl] at hv
  exact ⟨A, c, hv⟩
theorem places_length (l : List UInt8) : (places l).length = (chop l).length := placesFrom_length 0 (chop l)

set_option maxHeartbeats 2000000 in
set_option maxRecDepth 100000 in
theorem refCount_any (s : ByteArray) (w : World) (hs : s.size ≤ 17592186044416) :
    Calls Tryd.prog 37 #[.string s] w fun e w' => e = .returned (.int .i64 (chop (bl s)).length) ∧ Below w.heap.size w w' := by
  have c := fun W => refPlaces_any s W hs
  rw [places_length] at c
  have HC := Lib.hid c; clear c
  go_enter Tryd.func37, Tryd.ntmps37
  go_wp2_with (go_at_call 36; refine (HC.out _).mono ?_; rintro e w1 ⟨v, rfl, hown, hb⟩; obtain ⟨A, c, rfl⟩ := own_form hown)
  go_ret
  exact ⟨rfl, hb⟩
set_option maxHeartbeats 2000000 in
set_option maxRecDepth 100000 in
theorem refValid_any (s : ByteArray) (w : World) (hs : s.size ≤ 17592186044416) :
    Calls Tryd.prog 38 #[.string s] w fun e w' => e = .returned (.bool (validL (bl s))) ∧ w = w' := by
  go_enter Tryd.func38, Tryd.ntmps38
  go_wp2
  go_loopg [3, 4, 5] s.size (fun gf u3 _ _ wr => ∃ (pos : Nat), u3 = .int .i64 pos ∧ w = wr ∧ (chop ((bl s).drop pos)).all okC = validL (bl s) ∧ pos ≤ s.size ∧ s.size ≤ pos + gf)
  case atStart => exact ⟨0, rfl, rfl, by simp [validL], by omega, by omega⟩
  case round =>
    obtain ⟨pos, rfl, rfl, hc, hps, hfu⟩ := hrel
    by_cases hp : pos < s.size
    · obtain ⟨g', rfl⟩ : ∃ g', gk = g' + 1 := ⟨gk - 1, by omega⟩
      have hwd := Lib.width_pos s pos
      have hwl := width_le s pos hp
      rw [chop_at s pos hp, List.all_cons] at hc
      have hpl := piece_len s pos hp
      have hok : okC ((Utf8.decode s pos).1, ((bl s).drop pos).take (Utf8.decode s pos).2) = !(decide ((Utf8.decode s pos).1 = 65533) && decide ((Utf8.decode s pos).2 = 1)) := by
        unfold okC; rw [hpl]
      rw [hok] at hc
      have cN := fun W => refNext_any s (pos : Int) W (by omega) (by omega) (by omega)
      rw [next_dec s pos hp] at cN
      generalize Utf8.decode s pos = d at *
      clear hok hpl
      have CN := Lib.hid cN; clear cN
      have j1 : (pos : Int) < (s.size : Int) := by omega
      by_cases c1 : d.1 = 65533 ∧ d.2 = 1
      · have c1' : ((d.1 : Int) == 65533) = true := by rw [c1.1]; rfl
        have c2' : ((d.2 : Int) == 1) = true := by rw [c1.2]; rfl
        have hv : false = validL (bl s) := by rw [← hc]; simp [c1.1, c1.2]
        have HC1 := Lib.hid c1; clear c1
        have HV := Lib.hid hv; clear hv hc
        go_wp2_with (go_at_call 35; refine (CN.out _).mono ?_; rintro e w2 ⟨rfl, rfl⟩)
        go_ret
        exact ⟨ret_b HV.out, rfl⟩
      · have hv : (chop ((bl s).drop (pos + d.2))).all okC = validL (bl s) := by
          rw [← hc]
          have : (decide (d.1 = 65533) && decide (d.2 = 1)) = false := by
            rcases Classical.em (d.1 = 65533) with h1 | h1
            · have : ¬ d.2 = 1 := fun h2 => c1 ⟨h1, h2⟩
              simp [this]
            · simp [h1]
          rw [this]; rfl
        have cc : (((d.1 : Int) == 65533) && ((d.2 : Int) == 1)) = false := by
          rcases Classical.em (d.1 = 65533) with h1 | h1
          · have : ¬ d.2 = 1 := fun h2 => c1 ⟨h1, h2⟩
            have : ((d.2 : Int) == 1) = false := by simp; omega
            rw [this, Bool.and_false]
          · have : ((d.1 : Int) == 65533) = false := by simp; omega
            rw [this, Bool.false_and]
        have HV := Lib.hid hv; clear hv hc
        have hcx := c1; clear c1
        go_wp2_with (go_at_call 35; refine (CN.out _).mono ?_; rintro e w2 ⟨rfl, rfl⟩)
        all_goals first
          | (go_roundg g'
             case measure => omega
             case rel => exact ⟨pos + d.2, by go_num, rfl, HV.out, by omega, by omega⟩)
          | (exfalso; apply hcx; constructor <;> (simp only [beq_iff_eq, Bool.and_eq_true] at *; omega))
    · rw [chop_end s pos hp, List.all_nil] at hc
      have HV := Lib.hid hc; clear hc
      have j1 : (s.size : Int) ≤ (pos : Int) := by omega
      go_wp2
      go_ret
      exact ⟨ret_b HV.out, rfl⟩
end Go.Proofs.YtlkabghpcjlohaaDoor
