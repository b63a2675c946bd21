/- FoldJoins: for every two texts that hold at most 1048576 bytes the call returns true. -/
import Derived.Test.YtlkabghpcjlohaaF4
namespace Go.Proofs.Ytlkabghpcjlohaa
set_option linter.unusedVariables false
set_option linter.unusedSimpArgs false
open Go.RowKit Go.Lib

theorem bl_append (a b : ByteArray) : bl (a ++ b) = bl a ++ bl b := by simp [bl]
theorem size_mk (l : List UInt8) : (⟨l.toArray⟩ : ByteArray).size = l.length := by rw [← bl_length]
theorem mk_append (a b : List UInt8) : (⟨(a ++ b).toArray⟩ : ByteArray) = (⟨a.toArray⟩ : ByteArray) ++ ⟨b.toArray⟩ := by apply bl_inj; rw [bl_append]
theorem foldL_le (p : Bool) (l : List UInt8) : (foldL p l).length ≤ 4 * l.length := by
  have h := foldR_le p (runes l)
  have h2 := chop_length_le l
  rw [runes_length] at h
  unfold foldL; omega
theorem foldL_fix (p : Bool) (l : List UInt8) : foldL p (fixL l) = foldL p l := by unfold foldL; rw [runes_fix]
theorem foldL_fix_append (p : Bool) (l t : List UInt8) : foldL p (fixL l ++ t) = foldL p (fixL l) ++ foldL p t := by
  unfold foldL runes
  rw [chop_fix_append, List.map_append, foldR_append]

set_option maxHeartbeats 4000000 in
set_option maxRecDepth 100000 in
theorem foldJoins_any (s t : ByteArray) (p : Bool) (w : World) (hs : s.size ≤ 1048576) (ht : t.size ≤ 1048576) :
    Calls Try.prog 12 #[.string s, .string t, .bool p] w fun e w' => e = .returned (.bool true) ∧ Below w.heap.size w w' := by
  have hfl := fix_length_le (bl s)
  rw [bl_length] at hfl
  have HA : From w 32 #[] (.bool true) := .below fun W _ => awake2_any W
  have HX := From.fix w s (by omega)
  have z1 : ((⟨(fixL (bl s)).toArray⟩ : ByteArray) ++ t).size ≤ 17592186044416 := by rw [← bl_length, bl_append, List.length_append, bl_mk, bl_length]; omega
  have H1 := From.fold w ((⟨(fixL (bl s)).toArray⟩ : ByteArray) ++ t) p z1
  have H2 := From.fold w (⟨(fixL (bl s)).toArray⟩ : ByteArray) p (by rw [size_mk]; omega)
  have H3 := From.fold w t p (by omega)
  have H4 := From.fold w s p (by omega)
  rw [bl_append, bl_mk, foldL_fix_append, mk_append, foldL_fix] at H1
  rw [bl_mk, foldL_fix] at H2
  have z2 : (⟨(foldL p (bl s)).toArray⟩ : ByteArray).size + (⟨(foldL p (bl t)).toArray⟩ : ByteArray).size ≤ 9223372036854775807 := by
    rw [size_mk, size_mk]
    have a1 := foldL_le p (bl s); have a2 := foldL_le p (bl t)
    rw [bl_length] at a1 a2; omega
  have z3 : (⟨(fixL (bl s)).toArray⟩ : ByteArray).size + t.size ≤ 9223372036854775807 := by rw [size_mk]; omega
  clear hfl z1
  generalize (⟨(foldL p (bl s)).toArray⟩ : ByteArray) = fs at *
  generalize (⟨(foldL p (bl t)).toArray⟩ : ByteArray) = ft at *
  generalize (⟨(fixL (bl s)).toArray⟩ : ByteArray) = a at *
  have hb0 := Below.refl w.heap.size w
  go_enter Try.func12, Try.ntmps12
  go_wp2_with (first
      | (go_at_call 32; (with_reducible refine (HA.at_ (by assumption)).mono ?_); rintro e wq0 ⟨rfl, hbq0⟩)
      | (go_at_call 31; (with_reducible refine (HX.at_ (by assumption)).mono ?_); rintro e wq1 ⟨rfl, hbq1⟩)
      | (go_at_call 40; (with_reducible refine (H1.at_ (by assumption)).mono ?_); rintro e wq2 ⟨rfl, hbq2⟩)
      | (go_at_call 40; (with_reducible refine (H2.at_ (by assumption)).mono ?_); rintro e wq2 ⟨rfl, hbq2⟩)
      | (go_at_call 40; (with_reducible refine (H3.at_ (by assumption)).mono ?_); rintro e wq2 ⟨rfl, hbq2⟩)
      | (go_at_call 40; (with_reducible refine (H4.at_ (by assumption)).mono ?_); rintro e wq2 ⟨rfl, hbq2⟩))
  all_goals go_ret
  all_goals exact ⟨rfl, by assumption⟩
end Go.Proofs.Ytlkabghpcjlohaa
