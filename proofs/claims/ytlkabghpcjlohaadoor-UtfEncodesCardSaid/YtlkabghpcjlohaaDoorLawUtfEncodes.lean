/- UtfEncodes: for every rune the call returns true. Conditions: none beyond the row's. -/
import Derived.Test.YtlkabghpcjlohaaDoorL1
namespace Go.Proofs.YtlkabghpcjlohaaDoor
set_option linter.unusedVariables false
set_option linter.unusedSimpArgs false
open Go.RowKit Go.Lib

theorem enc_facts (r : Int) : (chop (bl (Utf8.encode r))).length = 1 ∧ validL (bl (Utf8.encode r)) = true ∧ nextL (bl (Utf8.encode r)) 0 = (fixr r, (Utf8.encode r).size) := by
  have h := chop_enc r []
  rw [List.append_nil, chop_nil] at h
  refine ⟨by rw [encode_bytes, h]; rfl, ?_, ?_⟩
  · have := valid_encs [fixr r] (by intro x hx; simp at hx; subst hx; have := fixr_valid r; unfold scalar; rw [valid_iff]; omega)
    rw [encs_cons, encs_nil, List.append_nil, enc_fixr] at this
    rw [encode_bytes]; exact this
  · have hd := dec_enc r []
    rw [List.append_nil] at hd
    have hl := (enc_length r).1
    unfold nextL
    rw [if_neg (by rw [encode_bytes]; omega), encode_bytes, ← bl_length, encode_bytes]
    exact hd

set_option maxHeartbeats 4000000 in
set_option maxRecDepth 100000 in
theorem utfEncodes_any (r : Int) (w : World) (h0 : -2147483648 ≤ r) (h1 : r ≤ 2147483647) (hT : Tabs w) :
    Calls Tryd.prog 3 #[.int .i32 r] w fun e w' => e = .returned (.bool true) ∧ Below w.heap.size w w' := by
  obtain ⟨f1, f2, f3⟩ := enc_facts r
  have hes : (Utf8.encode r).size ≤ 4 := by rw [← bl_length, encode_bytes]; exact (enc_length _).2
  have hfix : (r < 0 ∨ r > 1114111 ∨ (r ≥ 55296 ∧ r ≤ 57343)) ∧ (fixr r : Int) = 65533 ∨ ¬ (r < 0 ∨ r > 1114111 ∨ (r ≥ 55296 ∧ r ≤ 57343)) ∧ (fixr r : Int) = r := by
    unfold fixr
    by_cases hv : Utf8.valid r = true
    · rw [if_pos hv]; rw [valid_iff] at hv; right; omega
    · rw [if_neg hv]; rw [valid_iff] at hv; left; omega
  have HA : From w 15 #[] (.bool true) := .below fun W hb => awake_any W (hT.below hb)
  have HE : From w 16 #[.int .i32 r] (.string (Utf8.encode r)) := .same fun W _ => Encode_any r W h0 h1
  have HR : From w 17 #[.int .i32 r] (.string (Utf8.encode r)) := .below fun W _ => refEncode_any r W h0 h1
  have HN : From w 18 #[.string (Utf8.encode r), .int .i64 0] (.tuple #[.int .i32 (fixr r), .int .i64 (Utf8.encode r).size]) := .below fun W hb => by
    have := Next_any (Utf8.encode r) 0 W (hT.below hb) (by omega)
    rwa [f3] at this
  have HC : From w 19 #[.string (Utf8.encode r)] (.int .i64 1) := .below fun W hb => by
    have := Count_any (Utf8.encode r) W (by omega)
    rwa [f1] at this
  have HV : From w 20 #[.string (Utf8.encode r)] (.bool true) := .below fun W hb => by
    have := Valid_any (Utf8.encode r) W (hT.below hb) (by omega)
    rwa [f2] at this
  clear f1 f2 f3
  generalize Utf8.encode r = E at *
  generalize (fixr r : Int) = q at *
  have hb0 := Below.refl w.heap.size w
  go_enter Tryd.func3, Tryd.ntmps3
  go_wp2_with (first
    | (go_at_call 15; refine (HA.at_ (by assumption)).mono ?_; rintro e w1 ⟨rfl, hb1⟩)
    | (go_at_call 16; refine (HE.at_ (by assumption)).mono ?_; rintro e w2 ⟨rfl, hb2⟩)
    | (go_at_call 17; refine (HR.at_ (by assumption)).mono ?_; rintro e w3 ⟨rfl, hb3⟩)
    | (go_at_call 18; refine (HN.at_ (by assumption)).mono ?_; rintro e w4 ⟨rfl, hb4⟩)
    | (go_at_call 19; refine (HC.at_ (by assumption)).mono ?_; rintro e w5 ⟨rfl, hb5⟩)
    | (go_at_call 20; refine (HV.at_ (by assumption)).mono ?_; rintro e w6 ⟨rfl, hb6⟩))
  all_goals go_ret
  all_goals refine ⟨ret_b ?_, by assumption⟩
  all_goals first | rfl | (simp; omega)
end Go.Proofs.YtlkabghpcjlohaaDoor
