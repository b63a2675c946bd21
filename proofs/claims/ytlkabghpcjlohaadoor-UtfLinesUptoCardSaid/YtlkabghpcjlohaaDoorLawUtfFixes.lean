/- UtfFixes: for every text of at most 1048576 bytes the call returns true. -/
import Derived.Test.YtlkabghpcjlohaaDoorL1
import Derived.Test.YtlkabghpcjlohaaDoorA6
namespace Go.Proofs.YtlkabghpcjlohaaDoor
set_option linter.unusedVariables false
set_option linter.unusedSimpArgs false
open Go.RowKit Go.Lib

theorem From.back (w : World) (s : ByteArray) (h : s.size ≤ 17592186044416) : From w 26 #[.string s] (.string ⟨(backL (bl s)).toArray⟩) := .below fun W _ => Back_any s W h
theorem From.count (w : World) (s : ByteArray) (h : s.size < 9223372036854775807) : From w 19 #[.string s] (.int .i64 (chop (bl s)).length) := .below fun W _ => Count_any s W h
theorem From.valid (w : World) (hT : Tabs w) (s : ByteArray) (h : s.size < 9223372036854775807) : From w 20 #[.string s] (.bool (validL (bl s))) := .below fun W hb => Valid_any s W (hT.below hb) h
theorem From.awake (w : World) (hT : Tabs w) : From w 15 #[] (.bool true) := .below fun W hb => awake_any W (hT.below hb)
theorem From.cut (w : World) (s : ByteArray) (n : Int) (h0 : -9223372036854775808 ≤ n) (h1 : n ≤ 9223372036854775807) (h : s.size < 9223372036854775807) : From w 24 #[.string s, .int .i64 n] (.string ⟨(cutL (bl s) n).toArray⟩) := .below fun W _ => Cut_any s n W h0 h1 h
theorem size_mk (l : List UInt8) : (⟨l.toArray⟩ : ByteArray).size = l.length := by rw [← bl_length]

set_option maxHeartbeats 4000000 in
set_option maxRecDepth 100000 in
theorem utfFixes_any (s : ByteArray) (w : World) (hs : s.size ≤ 1048576) (hT : Tabs w) :
    Calls Tryd.prog 7 #[.string s] w fun e w' => e = .returned (.bool true) ∧ Below w.heap.size w w' := by
  have hfl := fix_length_le (bl s)
  have hbl := back_length (bl s)
  rw [bl_length] at hfl
  have HA := From.awake w hT
  have HF := From.fix w s (by omega)
  have HB := From.back w s (by omega)
  have HC := From.count w s (by omega)
  have HV := From.valid w hT s (by omega)
  have HVf := From.valid w hT ⟨(fixL (bl s)).toArray⟩ (by rw [size_mk]; omega)
  have HCf := From.count w ⟨(fixL (bl s)).toArray⟩ (by rw [size_mk]; omega)
  have HFf := From.fix w ⟨(fixL (bl s)).toArray⟩ (by rw [size_mk]; omega)
  have HBb := From.back w ⟨(backL (bl s)).toArray⟩ (by rw [size_mk]; omega)
  have HFb := From.fix w ⟨(backL (bl s)).toArray⟩ (by rw [size_mk]; omega)
  rw [bl_mk, valid_fix] at HVf
  rw [bl_mk, ← runes_length, runes_fix, runes_length] at HCf
  rw [bl_mk, fix_fix] at HFf
  rw [bl_mk, back_back] at HBb
  rw [bl_mk, fix_back] at HFb
  have hlen : (⟨(backL (bl s)).toArray⟩ : ByteArray).size = (⟨(fixL (bl s)).toArray⟩ : ByteArray).size := by rw [size_mk, size_mk, hbl]
  have hvs : validL (bl s) = true → (⟨(fixL (bl s)).toArray⟩ : ByteArray) = s := fun h => bl_inj (by rw [bl_mk, fix_valid _ h])
  have hc0 : (0 : Int) ≤ (chop (bl s)).length := by omega
  clear hfl hbl
  generalize (⟨(fixL (bl s)).toArray⟩ : ByteArray) = f at *
  generalize (⟨(backL (bl s)).toArray⟩ : ByteArray) = b at *
  generalize validL (bl s) = v at *
  generalize ((chop (bl s)).length : Int) = c at *
  have hb0 := Below.refl w.heap.size w
  have HL := Lib.hid hlen; clear hlen
  cases v
  · clear hvs
    go_enter Tryd.func7, Tryd.ntmps7
    go_wp2_with (first
      | (go_at_call 15; (with_reducible refine (HA.at_ (by assumption)).mono ?_); rintro e wq0 ⟨rfl, hbq0⟩)
      | (go_at_call 25; (with_reducible refine (HF.at_ (by assumption)).mono ?_); rintro e wq1 ⟨rfl, hbq1⟩)
      | (go_at_call 25; (with_reducible refine (HFf.at_ (by assumption)).mono ?_); rintro e wq1 ⟨rfl, hbq1⟩)
      | (go_at_call 25; (with_reducible refine (HFb.at_ (by assumption)).mono ?_); rintro e wq1 ⟨rfl, hbq1⟩)
      | (go_at_call 26; (with_reducible refine (HB.at_ (by assumption)).mono ?_); rintro e wq2 ⟨rfl, hbq2⟩)
      | (go_at_call 26; (with_reducible refine (HBb.at_ (by assumption)).mono ?_); rintro e wq2 ⟨rfl, hbq2⟩)
      | (go_at_call 19; (with_reducible refine (HC.at_ (by assumption)).mono ?_); rintro e wq3 ⟨rfl, hbq3⟩)
      | (go_at_call 19; (with_reducible refine (HCf.at_ (by assumption)).mono ?_); rintro e wq3 ⟨rfl, hbq3⟩)
      | (go_at_call 20; (with_reducible refine (HV.at_ (by assumption)).mono ?_); rintro e wq4 ⟨rfl, hbq4⟩)
      | (go_at_call 20; (with_reducible refine (HVf.at_ (by assumption)).mono ?_); rintro e wq4 ⟨rfl, hbq4⟩))
    all_goals go_ret
    all_goals first | exact ⟨rfl, by assumption⟩ | (exfalso; have := HL.out; omega)
  · obtain rfl := hvs rfl
    clear hvs
    go_enter Tryd.func7, Tryd.ntmps7
    go_wp2_with (first
      | (go_at_call 15; (with_reducible refine (HA.at_ (by assumption)).mono ?_); rintro e wq0 ⟨rfl, hbq0⟩)
      | (go_at_call 25; (with_reducible refine (HF.at_ (by assumption)).mono ?_); rintro e wq1 ⟨rfl, hbq1⟩)
      | (go_at_call 25; (with_reducible refine (HFb.at_ (by assumption)).mono ?_); rintro e wq1 ⟨rfl, hbq1⟩)
      | (go_at_call 26; (with_reducible refine (HB.at_ (by assumption)).mono ?_); rintro e wq2 ⟨rfl, hbq2⟩)
      | (go_at_call 26; (with_reducible refine (HBb.at_ (by assumption)).mono ?_); rintro e wq2 ⟨rfl, hbq2⟩)
      | (go_at_call 19; (with_reducible refine (HC.at_ (by assumption)).mono ?_); rintro e wq3 ⟨rfl, hbq3⟩)
      | (go_at_call 20; (with_reducible refine (HV.at_ (by assumption)).mono ?_); rintro e wq4 ⟨rfl, hbq4⟩))
    all_goals go_ret
    all_goals first | exact ⟨rfl, by assumption⟩ | (exfalso; have := HL.out; omega)
end Go.Proofs.YtlkabghpcjlohaaDoor
