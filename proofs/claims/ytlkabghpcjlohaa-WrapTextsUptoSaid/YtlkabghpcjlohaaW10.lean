/- Package wrap's Pad and the reference's. -/
import Derived.Test.YtlkabghpcjlohaaW9
import Derived.Test.YtlkabghpcjlohaaShelf
namespace Go.Proofs.Ytlkabghpcjlohaa
set_option linter.unusedVariables false
set_option linter.unusedSimpArgs false
open Go.RowKit Go.Lib

def padN (l : List UInt8) (n : Int) : Nat := (min n 120 - (colsL l : Int)).toNat
def padL (l : List UInt8) (n : Int) : List UInt8 := l ++ List.replicate (padN l n) 32
theorem padN_le (l : List UInt8) (n : Int) : padN l n ≤ 120 := by unfold padN; omega
theorem rep32 (c : Nat) : Lib.repeatL [32] c = List.replicate c 32 := by
  induction c with
  | zero => rfl
  | succ c ih => simp [Lib.repeatL, ih, List.replicate_succ]
theorem repeat_any (c : Nat) (hc : c ≤ 120) (w : World) : Calls Try.prog 88 #[.string ⟨#[32]⟩, .int .i64 (c : Nat)] w fun e w' => e = .returned (.string ⟨(List.replicate c (32 : UInt8)).toArray⟩) ∧ Below w.heap.size w w' := by
  rcases (show c = 0 ∨ c = 1 ∨ 2 ≤ c by omega) with rfl | rfl | h
  · exact (Try.strings_Repeat_zero ⟨#[32]⟩ w).mono fun e w' ⟨h1, h2⟩ => ⟨h1, h2 ▸ Below.refl _ _⟩
  · exact (Try.strings_Repeat_one ⟨#[32]⟩ w).mono fun e w' ⟨h1, h2⟩ => ⟨h1, h2 ▸ Below.refl _ _⟩
  · have h0 : (⟨#[32]⟩ : ByteArray).size = 1 := rfl
    refine (Try.strings_Repeat_main ⟨#[32]⟩ c w h (by omega) (by rw [h0]; omega) (by rw [h0]; omega)).mono fun e w' ⟨h1, h2⟩ => ⟨?_, h2⟩
    rw [h1]
    exact congrArg (fun x => Ending.returned (Value.string ⟨x⟩)) (congrArg List.toArray (rep32 c))

set_option maxHeartbeats 2000000 in
set_option maxRecDepth 100000 in
theorem Pad_any (s : ByteArray) (n : Int) (w : World) (hn0 : -9223372036854775808 ≤ n) (hn1 : n ≤ 9223372036854775807) (hs : s.size ≤ 17592186044416) :
    Calls Try.prog 54 #[.string s, .int .i64 n] w fun e w' => e = .returned (.string ⟨(padL (bl s) n).toArray⟩) ∧ Below w.heap.size w w' := by
  have hcl := colsL_le (bl s)
  rw [bl_length] at hcl
  have hc := padN_le (bl s) n
  have HN : Hid (max 0 (max 0 (min n 120) - ((colsL (bl s) : Nat) : Int)) = ((padN (bl s) n : Nat) : Int)) := Lib.hid (by unfold padN; omega)
  have HE : Hid ((⟨(padL (bl s) n).toArray⟩ : ByteArray) = s ++ ⟨(List.replicate (padN (bl s) n) (32 : UInt8)).toArray⟩) := Lib.hid (by
    unfold padL
    conv => rhs; rw [show s = ⟨(bl s).toArray⟩ from bl_inj rfl]
    rw [w_app])
  have CR := Lib.hid (fun W => repeat_any (padN (bl s) n) hc W)
  have hrz := wz (List.replicate (padN (bl s) n) (32 : UInt8))
  rw [List.length_replicate] at hrz
  have CC := Lib.hid (fun W => Columns_any s W hs)
  generalize (⟨(List.replicate (padN (bl s) n) (32 : UInt8)).toArray⟩ : ByteArray) = R at *
  generalize colsL (bl s) = q at *
  generalize padN (bl s) n = p at *
  have hsum : s.size + R.size ≤ 9223372036854775807 := by omega
  go_enter Try.func54, Try.ntmps54
  go_wp2_with (first
    | (go_at_call 28; refine (CC.out _).mono ?_; rintro e w1 ⟨rfl, hb1⟩)
    | (go_at_call 88; rw [HN.out]; refine (CR.out _).mono ?_; rintro e w2 ⟨rfl, hb2⟩))
  go_ret
  exact ⟨ret_s (by rw [HE.out]), hb1.trans (hb2.mono hb1.size)⟩

set_option maxHeartbeats 2000000 in
set_option maxRecDepth 100000 in
theorem refPad_any (s : ByteArray) (n : Int) (w : World) (hn0 : -9223372036854775808 ≤ n) (hn1 : n ≤ 9223372036854775807) (hs : s.size ≤ 17592186044416) :
    Calls Try.prog 55 #[.string s, .int .i64 n] w fun e w' => e = .returned (.string ⟨(padL (bl s) n).toArray⟩) ∧ Below w.heap.size w w' := by
  have hcl := colsL_le (bl s)
  rw [bl_length] at hcl
  have HN : Hid ((padN (bl s) n : Nat) = (min n 120 - ((colsL (bl s) : Nat) : Int)).toNat) := Lib.hid rfl
  have HE : Hid ((⟨(padL (bl s) n).toArray⟩ : ByteArray) = s ++ ⟨(List.replicate (padN (bl s) n) (32 : UInt8)).toArray⟩) := Lib.hid (by
    unfold padL
    conv => rhs; rw [show s = ⟨(bl s).toArray⟩ from bl_inj rfl]
    rw [w_app])
  have CC := Lib.hid (fun W => refColumns_any s W hs)
  generalize colsL (bl s) = q at *
  generalize padN (bl s) n = p at *
  go_enter Try.func55, Try.ntmps55
  go_wp2_with (go_at_call 52; refine (CC.out _).mono ?_; rintro e w1 ⟨rfl, hb1⟩)
  go_loopw [0, 5] (fun u0 u5 wr => ∃ (k : Nat) (X : ByteArray), u5 = .int .i64 ((q : Int) + k) ∧ k ≤ p ∧ u0 = .string X ∧ Hid (X = s ++ ⟨(List.replicate k (32 : UInt8)).toArray⟩) ∧ X.size = s.size + k ∧ w1 = wr) (fun _ u5 _ => p + q - (intOf u5).toNat)
  case atStart => exact ⟨0, s, by go_num, Nat.zero_le _, rfl, Lib.hid (by
    refine bl_inj (show bl s = bl (s ++ ⟨(List.replicate 0 (32 : UInt8)).toArray⟩) from ?_)
    simp [bl]), rfl, rfl⟩
  case round =>
    obtain ⟨k, X, rfl, hk, rfl, hX, hXs, rfl⟩ := hrel
    have hNN := HN.out
    by_cases hlt : k < p
    · have h1 : (q : Int) + k < n := by omega
      have h2 : (q : Int) + k < 120 := by omega
      have hcat : X ++ (⟨#[32]⟩ : ByteArray) = s ++ ⟨(List.replicate (k + 1) (32 : UInt8)).toArray⟩ := by
        rw [hX.out, ByteArray.append_assoc, show (⟨#[32]⟩ : ByteArray) = ⟨([32] : List UInt8).toArray⟩ from rfl, w_app (List.replicate k (32 : UInt8)) [32], ← List.replicate_succ']
      have HC := Lib.hid hcat; clear hcat
      have hone : (⟨#[32]⟩ : ByteArray).size = 1 := rfl
      have zz : X.size + (⟨#[32]⟩ : ByteArray).size ≤ 9223372036854775807 := by omega
      clear hNN
      go_wp2
      exact ⟨⟨k + 1, _, by go_num, by omega, rfl, HC, by rw [ByteArray.size_append]; omega, trivial⟩, by simp [intOf]; omega⟩
    · obtain rfl : k = p := by omega
      have hend : n ≤ (q : Int) + k ∨ (120 : Int) ≤ (q : Int) + k := by omega
      have HX := Lib.hid (congrArg Value.string (hX.out.trans HE.out.symm))
      clear hNN
      rcases Classical.em (n ≤ (q : Int) + k) with h1 | h1
      · go_wp2
        go_ret
        exact ⟨ret_v HX.out, hb1⟩
      · have h2 : (120 : Int) ≤ (q : Int) + k := by omega
        have h3 : (q : Int) + k < n := by omega
        go_wp2
        go_ret
        exact ⟨ret_v HX.out, hb1⟩
end Go.Proofs.Ytlkabghpcjlohaa
