/- Walk of the reference's Next: the rune at a place, and its width. -/
import Derived.Test.YtlkabghpcjlohaaG2
namespace Go.Proofs.Ytlkabghpcjlohaa
set_option linter.unusedVariables false
set_option linter.unusedSimpArgs false
open Go.RowKit Go.Lib

def nextL (l : List UInt8) (at' : Int) : Nat × Nat := if at' < 0 ∨ (l.length : Int) ≤ at' then (0, 0) else decodeL (l.drop at'.toNat)

/-- the rest of a row: from its k-th byte on, f bytes are still to be read -/
def restN (W lo hi : Nat) (b : Nat → Nat) : Nat → Nat → Nat → Nat × Nat
  | 0, _, v => (v, W)
  | f + 1, k, v => if (k = 1 ∧ (b k < lo ∨ hi < b k)) ∨ b k < 128 ∨ 191 < b k then (65533, 1) else restN W lo hi b f (k + 1) (v * 64 + b k % 64)
def rowM (W : Nat) : Nat := if W = 2 then 32 else if W = 3 then 16 else 8
theorem slow_rest (n b0 W lo hi : Nat) (b : Nat → Nat) (hW : 2 ≤ W ∧ W ≤ 4) (hn : W ≤ n) (hlo : 128 ≤ lo) (hhi : hi ≤ 191) :
    slowN n b0 (b 1) (b 2) (b 3) W lo hi = restN W lo hi b (W - 1) 1 (b0 % rowM W) := by
  obtain ⟨h2, h4⟩ := hW
  rcases (show W = 2 ∨ W = 3 ∨ W = 4 by omega) with rfl | rfl | rfl
  all_goals (simp only [slowN, restN, rowM, Nat.reduceSub, Nat.reduceLeDiff, if_false, if_true, Nat.reduceEqDiff, Nat.le_refl, Nat.reduceAdd, true_and, false_and, false_or])
  all_goals (rw [if_neg (by omega)])
  all_goals (repeat' split)
  all_goals first | rfl | (exfalso; omega) | exact Prod.ext (by simp only; omega) rfl
theorem rowN_facts (b : Nat) : (rowN b).1 ≤ 4 ∧ (rowN b).2.1 < 256 ∧ (rowN b).2.2 < 256 ∧ (2 ≤ (rowN b).1 → 128 ≤ (rowN b).2.1 ∧ (rowN b).2.2 ≤ 191) ∧ ((rowN b).1 = 1 → b < 128) := by
  unfold rowN
  repeat' split
  all_goals (simp only)
  all_goals omega

/-- byte k behind a place -/
def byteAt (s : ByteArray) (p k : Nat) : Nat := (s.get! (p + k)).toNat
theorem byteAt_lt (s : ByteArray) (p k : Nat) : byteAt s p k < 256 := UInt8.toNat_lt _
theorem next_row (s : ByteArray) (p : Nat) (hp : p < s.size) : nextL (bl s) (p : Int) =
    if (rowN (byteAt s p 0)).1 = 0 ∨ s.size - p < (rowN (byteAt s p 0)).1 then (65533, 1) else if (rowN (byteAt s p 0)).1 = 1 then (byteAt s p 0, 1)
    else restN (rowN (byteAt s p 0)).1 (rowN (byteAt s p 0)).2.1 (rowN (byteAt s p 0)).2.2 (byteAt s p) ((rowN (byteAt s p 0)).1 - 1) 1 (byteAt s p 0 % rowM (rowN (byteAt s p 0)).1) := by
  unfold nextL
  rw [if_neg (by rw [bl_length]; omega), Int.toNat_natCast]
  have h1 : decodeL ((bl s).drop p) = decodeN (s.size - p) (byteAt s p 0) (byteAt s p 1) (byteAt s p 2) (byteAt s p 3) := by
    rw [← dec_at, decode_at]; rfl
  rw [h1, decode_row _ _ _ _ _ (by omega) (byteAt_lt ..) (byteAt_lt ..) (byteAt_lt ..) (byteAt_lt ..)]
  obtain ⟨f1, f2, f3, f4, f5⟩ := rowN_facts (byteAt s p 0)
  split
  · rfl
  · split
    · rfl
    · have := f4 (by omega)
      exact slow_rest _ _ _ _ _ (byteAt s p) (by omega) (by omega) this.1 this.2
theorem ret2 {a b c d : Int} (h : a = c) (h' : b = d) : Ending.returned (.tuple #[.int .i32 a, .int .i64 b]) = Ending.returned (.tuple #[.int .i32 c, .int .i64 d]) := by rw [h, h']

set_option maxHeartbeats 4000000 in
set_option maxRecDepth 100000 in
theorem refNext_any (s : ByteArray) (at' : Int) (w : World) (hs : s.size ≤ 4611686018427387904) (h0 : -9223372036854775808 ≤ at') (h1 : at' ≤ 9223372036854775807) :
    Calls Try.prog 80 #[.string s, .int .i64 at'] w fun e w' => e = .returned (.tuple #[.int .i32 (nextL (bl s) at').1, .int .i64 (nextL (bl s) at').2]) ∧ w = w' := by
  by_cases c1 : at' < 0
  · unfold nextL
    rw [if_pos (.inl c1)]
    go_enter Try.func80, Try.ntmps80
    go_wp2
    go_ret2
    exact ⟨rfl, rfl⟩
  by_cases c2 : (s.size : Int) ≤ at'
  · unfold nextL
    rw [if_pos (.inr (by rw [bl_length]; exact c2))]
    go_enter Try.func80, Try.ntmps80
    go_wp2
    go_ret2
    exact ⟨rfl, rfl⟩
  obtain ⟨p, rfl⟩ : ∃ p : Nat, at' = p := ⟨at'.toNat, by omega⟩
  have hp : p < s.size := by omega
  have hN := next_row s p hp
  obtain ⟨f1, f2, f3, f4, f5⟩ := rowN_facts (byteAt s p 0)
  generalize nextL (bl s) (p : Int) = D at *
  have hgt : ∀ j (hj : j < s.size), s[j].toNat = (s.get! j).toNat := fun j hj => by
    congr 1
    show s[j] = s.data[j]!
    rw [getElem!_pos s.data j hj]
    rfl
  have hb0 : s[p].toNat = byteAt s p 0 := hgt p hp
  have HN := Lib.hid hN; clear hN
  have hR := fun W => refRow_any (s[p].toNat) W (UInt8.toNat_lt _)
  rw [hb0] at hR
  have HG := Lib.hid hgt; clear hgt
  have hB := byteAt_lt s p 0
  generalize hro : rowN (byteAt s p 0) = ro at *
  have HRO := Lib.hid hro; clear hro
  have HR := Lib.hid hR; clear hR
  obtain ⟨W, lo, hi⟩ := ro
  simp only at *
  go_enter Try.func80, Try.ntmps80
  by_cases c3 : W = 0
  · subst c3
    have h0 := HN.out
    rw [if_pos (.inl rfl)] at h0
    subst h0
    go_wp2_with (go_at_call 104; refine (HR.out _).mono ?_; rintro e w1 ⟨rfl, rfl⟩)
    go_ret2
    exact ⟨rfl, rfl⟩
  by_cases c4 : s.size - p < W
  · have h0 := HN.out
    rw [if_pos (.inr c4)] at h0
    subst h0
    have c3' : ((W : Int) == 0) = false := by simp; omega
    have c4' : (s.size : Int) - (p : Int) < (W : Int) := by omega
    go_wp2_with (go_at_call 104; refine (HR.out _).mono ?_; rintro e w1 ⟨rfl, rfl⟩)
    go_ret2
    exact ⟨rfl, rfl⟩
  have c3' : ((W : Int) == 0) = false := by simp; omega
  have c4' : (W : Int) ≤ (s.size : Int) - (p : Int) := by omega
  have HM : Hid (D = restN W lo hi (byteAt s p) (W - 1) 1 (byteAt s p 0 % (if W = 1 then 256 else rowM W))) := Lib.hid (by
    rw [HN.out, if_neg (by omega)]
    by_cases c5 : W = 1
    · subst c5
      rw [if_pos rfl, if_pos rfl, Nat.mod_eq_of_lt hB]; rfl
    · rw [if_neg c5, if_neg c5])
  clear HN f4 f5
  have hvB : ∃ v : Nat, v = byteAt s p 0 % (if W = 1 then 256 else rowM W) := ⟨_, rfl⟩
  obtain ⟨v, hv⟩ := hvB
  have hv256 : v < 256 := by rw [hv]; exact Nat.lt_of_le_of_lt (Nat.mod_le _ _) hB
  rw [← hv] at HM
  have m1 : W = 1 → ((byteAt s p 0 : Nat) : Int) = (v : Int) := fun h => by rw [hv, if_pos h, Nat.mod_eq_of_lt hB]
  have m2 : W = 2 → ((byteAt s p 0 : Nat) : Int) % 32 = (v : Int) := fun h => by rw [hv, if_neg (by omega), show rowM W = 32 by rw [h]; rfl]; omega
  have m3 : W = 3 → ((byteAt s p 0 : Nat) : Int) % 16 = (v : Int) := fun h => by rw [hv, if_neg (by omega), show rowM W = 16 by rw [h]; rfl]; omega
  have m4 : W = 4 → ((byteAt s p 0 : Nat) : Int) % 8 = (v : Int) := fun h => by rw [hv, if_neg (by omega), show rowM W = 8 by rw [h]; rfl]; omega
  have hvH := Lib.hid hv; clear hv
  have hB2 : ((byteAt s p 0 : Nat) : Int) < 256 := by omega
  rcases (show W = 1 ∨ W = 2 ∨ W = 3 ∨ W = 4 by omega) with h2 | h2 | h2 | h2
  · have mm : v = byteAt s p 0 := by have := m1 h2; omega
    subst mm
    have w2 : ((W : Int) == 2) = false := by simp; omega
    have w3 : ((W : Int) == 3) = false := by simp; omega
    have w4 : ((W : Int) == 4) = false := by simp; omega
    have HW := Lib.hid h2; clear h2 m1 m2 m3 m4
    go_wp2_with (go_at_call 104; refine (HR.out _).mono ?_; rintro e w1 ⟨rfl, rfl⟩)
    go_loopw [9, 10, 11] (fun u9 u10 _ wr => ∃ k v : Nat, u9 = .int .i64 v ∧ u10 = .int .i64 k ∧ 1 ≤ k ∧ k ≤ W ∧ (k ≤ 1 → v < 256) ∧ (k ≤ 2 → v < 16384) ∧ (k ≤ 3 → v < 1048576) ∧ v < 67108864 ∧ Hid (D = restN W lo hi (byteAt s p) (W - k) k v) ∧ w = wr) (fun _ u10 _ _ => W - (intOf u10).toNat)
    case atStart => first | exact ⟨1, v, congrArg (Value.int .i64) MM.out, rfl, by omega, by omega, by omega, by omega, by omega, by omega, HM, rfl⟩ | exact ⟨1, _, rfl, rfl, by omega, by omega, by omega, by omega, by omega, by omega, HM, rfl⟩
    case round =>
      obtain ⟨k, v, rfl, rfl, k1, k2, v1, v2, v3, v4, HD, rfl⟩ := hrel
      by_cases hlt : k < W
      · have hgk : s[p + k].toNat = byteAt s p k := HG.out (p + k) (by omega)
        have hbk := byteAt_lt s p k
        have hD := HD.out
        rw [show W - k = (W - (k + 1)) + 1 by omega, restN] at hD
        have HD2 := Lib.hid hD; clear hD
        have i1 : (k : Int) < (W : Int) := by omega
        have i2 : (0 : Int) ≤ (p : Int) + (k : Int) := by omega
        have i3 : (p : Int) + (k : Int) < (s.size : Int) := by omega
        generalize byteAt s p k = b at *
        go_wp2
        all_goals first
          | (have hx : D = (65533, 1) := by rw [HD2.out, if_pos (by omega)]
             subst hx
             go_ret2
             exact ⟨rfl, rfl⟩)
          | (refine ⟨⟨k + 1, v * 64 + b % 64, congrArg (Value.int .i64) (by omega), congrArg (Value.int .i64) (by omega), by omega, by omega, by omega, by omega, by omega, by omega, Lib.hid (by rw [HD2.out, if_neg (by omega)]), trivial⟩, by simp [intOf]; omega⟩)
      · obtain rfl : k = W := by omega
        have hD := HD.out
        rw [Nat.sub_self, restN] at hD
        subst hD
        have i1 : (k : Int) ≤ (k : Int) := by omega
        go_wp2
        go_ret2
        exact ⟨rfl, rfl⟩
  · have MM := Lib.hid (m2 h2)
    have w2 : ((W : Int) == 2) = true := by simp; omega
    have HW := Lib.hid h2; clear h2 m1 m2 m3 m4
    go_wp2_with (go_at_call 104; refine (HR.out _).mono ?_; rintro e w1 ⟨rfl, rfl⟩)
    go_loopw [9, 10, 11] (fun u9 u10 _ wr => ∃ k v : Nat, u9 = .int .i64 v ∧ u10 = .int .i64 k ∧ 1 ≤ k ∧ k ≤ W ∧ (k ≤ 1 → v < 256) ∧ (k ≤ 2 → v < 16384) ∧ (k ≤ 3 → v < 1048576) ∧ v < 67108864 ∧ Hid (D = restN W lo hi (byteAt s p) (W - k) k v) ∧ w = wr) (fun _ u10 _ _ => W - (intOf u10).toNat)
    case atStart => first | exact ⟨1, v, congrArg (Value.int .i64) MM.out, rfl, by omega, by omega, by omega, by omega, by omega, by omega, HM, rfl⟩ | exact ⟨1, _, rfl, rfl, by omega, by omega, by omega, by omega, by omega, by omega, HM, rfl⟩
    case round =>
      obtain ⟨k, v, rfl, rfl, k1, k2, v1, v2, v3, v4, HD, rfl⟩ := hrel
      by_cases hlt : k < W
      · have hgk : s[p + k].toNat = byteAt s p k := HG.out (p + k) (by omega)
        have hbk := byteAt_lt s p k
        have hD := HD.out
        rw [show W - k = (W - (k + 1)) + 1 by omega, restN] at hD
        have HD2 := Lib.hid hD; clear hD
        have i1 : (k : Int) < (W : Int) := by omega
        have i2 : (0 : Int) ≤ (p : Int) + (k : Int) := by omega
        have i3 : (p : Int) + (k : Int) < (s.size : Int) := by omega
        generalize byteAt s p k = b at *
        go_wp2
        all_goals first
          | (have hx : D = (65533, 1) := by rw [HD2.out, if_pos (by omega)]
             subst hx
             go_ret2
             exact ⟨rfl, rfl⟩)
          | (refine ⟨⟨k + 1, v * 64 + b % 64, congrArg (Value.int .i64) (by omega), congrArg (Value.int .i64) (by omega), by omega, by omega, by omega, by omega, by omega, by omega, Lib.hid (by rw [HD2.out, if_neg (by omega)]), trivial⟩, by simp [intOf]; omega⟩)
      · obtain rfl : k = W := by omega
        have hD := HD.out
        rw [Nat.sub_self, restN] at hD
        subst hD
        have i1 : (k : Int) ≤ (k : Int) := by omega
        go_wp2
        go_ret2
        exact ⟨rfl, rfl⟩
  · have MM := Lib.hid (m3 h2)
    have w2 : ((W : Int) == 2) = false := by simp; omega
    have w3 : ((W : Int) == 3) = true := by simp; omega
    have HW := Lib.hid h2; clear h2 m1 m2 m3 m4
    go_wp2_with (go_at_call 104; refine (HR.out _).mono ?_; rintro e w1 ⟨rfl, rfl⟩)
    go_loopw [9, 10, 11] (fun u9 u10 _ wr => ∃ k v : Nat, u9 = .int .i64 v ∧ u10 = .int .i64 k ∧ 1 ≤ k ∧ k ≤ W ∧ (k ≤ 1 → v < 256) ∧ (k ≤ 2 → v < 16384) ∧ (k ≤ 3 → v < 1048576) ∧ v < 67108864 ∧ Hid (D = restN W lo hi (byteAt s p) (W - k) k v) ∧ w = wr) (fun _ u10 _ _ => W - (intOf u10).toNat)
    case atStart => first | exact ⟨1, v, congrArg (Value.int .i64) MM.out, rfl, by omega, by omega, by omega, by omega, by omega, by omega, HM, rfl⟩ | exact ⟨1, _, rfl, rfl, by omega, by omega, by omega, by omega, by omega, by omega, HM, rfl⟩
    case round =>
      obtain ⟨k, v, rfl, rfl, k1, k2, v1, v2, v3, v4, HD, rfl⟩ := hrel
      by_cases hlt : k < W
      · have hgk : s[p + k].toNat = byteAt s p k := HG.out (p + k) (by omega)
        have hbk := byteAt_lt s p k
        have hD := HD.out
        rw [show W - k = (W - (k + 1)) + 1 by omega, restN] at hD
        have HD2 := Lib.hid hD; clear hD
        have i1 : (k : Int) < (W : Int) := by omega
        have i2 : (0 : Int) ≤ (p : Int) + (k : Int) := by omega
        have i3 : (p : Int) + (k : Int) < (s.size : Int) := by omega
        generalize byteAt s p k = b at *
        go_wp2
        all_goals first
          | (have hx : D = (65533, 1) := by rw [HD2.out, if_pos (by omega)]
             subst hx
             go_ret2
             exact ⟨rfl, rfl⟩)
          | (refine ⟨⟨k + 1, v * 64 + b % 64, congrArg (Value.int .i64) (by omega), congrArg (Value.int .i64) (by omega), by omega, by omega, by omega, by omega, by omega, by omega, Lib.hid (by rw [HD2.out, if_neg (by omega)]), trivial⟩, by simp [intOf]; omega⟩)
      · obtain rfl : k = W := by omega
        have hD := HD.out
        rw [Nat.sub_self, restN] at hD
        subst hD
        have i1 : (k : Int) ≤ (k : Int) := by omega
        go_wp2
        go_ret2
        exact ⟨rfl, rfl⟩
  · have MM := Lib.hid (m4 h2)
    have w2 : ((W : Int) == 2) = false := by simp; omega
    have w3 : ((W : Int) == 3) = false := by simp; omega
    have w4 : ((W : Int) == 4) = true := by simp; omega
    have HW := Lib.hid h2; clear h2 m1 m2 m3 m4
    go_wp2_with (go_at_call 104; refine (HR.out _).mono ?_; rintro e w1 ⟨rfl, rfl⟩)
    go_loopw [9, 10, 11] (fun u9 u10 _ wr => ∃ k v : Nat, u9 = .int .i64 v ∧ u10 = .int .i64 k ∧ 1 ≤ k ∧ k ≤ W ∧ (k ≤ 1 → v < 256) ∧ (k ≤ 2 → v < 16384) ∧ (k ≤ 3 → v < 1048576) ∧ v < 67108864 ∧ Hid (D = restN W lo hi (byteAt s p) (W - k) k v) ∧ w = wr) (fun _ u10 _ _ => W - (intOf u10).toNat)
    case atStart => first | exact ⟨1, v, congrArg (Value.int .i64) MM.out, rfl, by omega, by omega, by omega, by omega, by omega, by omega, HM, rfl⟩ | exact ⟨1, _, rfl, rfl, by omega, by omega, by omega, by omega, by omega, by omega, HM, rfl⟩
    case round =>
      obtain ⟨k, v, rfl, rfl, k1, k2, v1, v2, v3, v4, HD, rfl⟩ := hrel
      by_cases hlt : k < W
      · have hgk : s[p + k].toNat = byteAt s p k := HG.out (p + k) (by omega)
        have hbk := byteAt_lt s p k
        have hD := HD.out
        rw [show W - k = (W - (k + 1)) + 1 by omega, restN] at hD
        have HD2 := Lib.hid hD; clear hD
        have i1 : (k : Int) < (W : Int) := by omega
        have i2 : (0 : Int) ≤ (p : Int) + (k : Int) := by omega
        have i3 : (p : Int) + (k : Int) < (s.size : Int) := by omega
        generalize byteAt s p k = b at *
        go_wp2
        all_goals first
          | (have hx : D = (65533, 1) := by rw [HD2.out, if_pos (by omega)]
             subst hx
             go_ret2
             exact ⟨rfl, rfl⟩)
          | (refine ⟨⟨k + 1, v * 64 + b % 64, congrArg (Value.int .i64) (by omega), congrArg (Value.int .i64) (by omega), by omega, by omega, by omega, by omega, by omega, by omega, Lib.hid (by rw [HD2.out, if_neg (by omega)]), trivial⟩, by simp [intOf]; omega⟩)
      · obtain rfl : k = W := by omega
        have hD := HD.out
        rw [Nat.sub_self, restN] at hD
        subst hD
        have i1 : (k : Int) ≤ (k : Int) := by omega
        go_wp2
        go_ret2
        exact ⟨rfl, rfl⟩
end Go.Proofs.Ytlkabghpcjlohaa
