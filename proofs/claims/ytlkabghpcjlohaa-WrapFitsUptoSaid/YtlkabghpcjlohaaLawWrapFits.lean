/- WrapFits: for every two texts that hold at most 1048576 bytes, and every number, the call returns true. -/
import Derived.Test.YtlkabghpcjlohaaW7
namespace Go.Proofs.Ytlkabghpcjlohaa
set_option linter.unusedVariables false
set_option linter.unusedSimpArgs false
open Go.RowKit Go.Lib

theorem cols_fix (l : List UInt8) : colsL (fixL l) = colsL l := by unfold colsL; rw [runes_fix]
theorem cols_fix_app (l t : List UInt8) : colsL (fixL l ++ t) = colsL (fixL l) + colsL t := by
  rw [colsL_eq, chop_fix_append, colsC_append, ← colsL_eq, ← colsL_eq]
theorem cut1_cols (l : List UInt8) (c : Nat × List UInt8) (r : List (Nat × List UInt8)) (h : chop l = c :: r) : colsL (cutL l 1) = colW (c.1 : Int) := by
  have e : cutL l 1 = glue ((chop l).take 1) := rfl
  rw [e, colsL_eq, chop_first, h]
  simp [colsC, colsR]
theorem fit_left (l : List UInt8) (n : Int) (hn : 0 ≤ n) (h : l.drop (fitL l n).length ≠ []) : n < colsL (fitL l n) + colsL (cutL (l.drop (fitL l n).length) 1) := by
  rcases hc : chop (l.drop (fitL l n).length) with _ | ⟨c, r⟩
  · exfalso
    rw [chop_ne h] at hc
    cases hc
  · rw [cut1_cols _ c r hc]
    rw [chop_fit_rest] at hc
    have := fitC_next n (chop l) c r hn hc
    rw [colsL_eq, chop_fit]
    exact this

set_option maxHeartbeats 8000000 in
set_option maxRecDepth 100000 in
theorem wrapFits_any (s t : ByteArray) (n : Int) (w : World) (hs : s.size ≤ 1048576) (ht : t.size ≤ 1048576) (hn0 : -9223372036854775808 ≤ n) (hn1 : n ≤ 9223372036854775807) :
    Calls Try.prog 7 #[.string s, .string t, .int .i64 n] w fun e w' => e = .returned (.bool true) ∧ Below w.heap.size w w' := by
  have hfl := fix_length_le (bl s)
  have hfit := fit_len (bl s) n
  rw [bl_length] at hfl hfit
  have hpre := fit_prefix (bl s) n
  have hcut := fit_left (bl s) n
  have hcf : (colsL (fitL (bl s) n) : Int) ≤ max n 0 := by
    by_cases h : 0 ≤ n
    · have := cols_fit (bl s) n h; omega
    · have e : fitL (bl s) n = [] := by unfold fitL; rw [fitC_neg n (by omega)]; rfl
      rw [e, colsL_nil]; omega
  have HA := Lib.hid (fun W => awake20_any W)
  have cF := fun W => Fit_any s n W hn0 hn1 (by omega)
  have cX := fun W => Fix_any s W (by omega)
  have cs := fun W => Columns_any s W (by omega)
  have ct := fun W => Columns_any t W (by omega)
  have cf := fun W => Columns_any ⟨(fitL (bl s) n).toArray⟩ W (by rw [wz]; omega)
  have ca := fun W => Columns_any ⟨(fixL (bl s)).toArray⟩ W (by rw [wz]; omega)
  have cb := fun W => Columns_any (⟨(fixL (bl s)).toArray⟩ ++ t) W (by rw [ByteArray.size_append, wz]; omega)
  have hr : s.extract (fitL (bl s) n).length s.size = ⟨((bl s).drop (fitL (bl s) n).length).toArray⟩ := by
    apply bl_inj
    rw [bl_from, bl_mk]
  have hp : s.extract 0 (fitL (bl s) n).length = ⟨(fitL (bl s) n).toArray⟩ := by
    apply bl_inj
    rw [bl_to, bl_mk, ← hpre]
  have cc := fun W => Cut_any ⟨((bl s).drop (fitL (bl s) n).length).toArray⟩ 1 W (by omega) (by omega) (by rw [wz, List.length_drop, bl_length]; omega)
  have hcl : (cutL ((bl s).drop (fitL (bl s) n).length) 1).length ≤ (bl s).length := by
    have := glue_take_le ((bl s).drop (fitL (bl s) n).length) 1
    have e : cutL ((bl s).drop (fitL (bl s) n).length) 1 = glue ((chop ((bl s).drop (fitL (bl s) n).length)).take 1) := rfl
    rw [e]
    rw [List.length_drop] at this
    omega
  rw [bl_length] at hcl
  have cd := fun W => Columns_any ⟨(cutL ((bl s).drop (fitL (bl s) n).length) 1).toArray⟩ W (by rw [wz]; omega)
  have hab : bl (⟨(fixL (bl s)).toArray⟩ ++ t) = fixL (bl s) ++ bl t := by simp [bl]
  rw [hab, cols_fix_app] at cb
  rw [bl_mk] at cf ca cc cd
  rw [cols_fix] at ca cb
  have hx1 := colsL_le (bl s)
  have hx2 := colsL_le (bl t)
  have hx3 := colsL_le (fitL (bl s) n)
  have hx4 := colsL_le (cutL ((bl s).drop (fitL (bl s) n).length) 1)
  rw [bl_length] at hx1 hx2
  have hfz := wz (fitL (bl s) n)
  have hrz := wz ((bl s).drop (fitL (bl s) n).length)
  have haz := wz (fixL (bl s))
  rw [List.length_drop, bl_length] at hrz
  clear hab hpre
  generalize colsL (fitL (bl s) n) = kf at *
  generalize colsL (cutL ((bl s).drop (fitL (bl s) n).length) 1) = kc at *
  generalize colsL (bl s) = ks at *
  generalize colsL (bl t) = kt at *
  generalize cutL ((bl s).drop (fitL (bl s) n).length) 1 = cu at *
  generalize (bl s).drop (fitL (bl s) n).length = rs at *
  generalize fitL (bl s) n = f at *
  generalize fixL (bl s) = a at *
  have hA2 : (s.extract 0 f.length).toList = f := by rw [hp, ByteArray.toList_eq]
  have hA1 : (decide (s.size < f.length)) = false := by simp; omega
  have HP := Lib.hid hp; clear hp
  have CF := Lib.hid cF; have CX := Lib.hid cX; have CU := Lib.hid cc
  have C1 := Lib.hid cs; have C2 := Lib.hid ct; have C3 := Lib.hid cf; have C4 := Lib.hid ca; have C5 := Lib.hid cb; have C6 := Lib.hid cd
  clear cF cX cc cs ct cf ca cb cd
  have hn := Below.refl w.heap.size w
  have hfi : (f.length : Int) ≤ (s.size : Int) := by omega
  have z0 : (⟨a.toArray⟩ : ByteArray).size + t.size ≤ 9223372036854775807 := by omega
  have hmx : (kf : Int) ≤ max n 0 := hcf
  by_cases hre : rs = []
  · subst hre
    go_enter Try.func7, Try.ntmps7
    go_wp2_with (first
      | (go_at_call 21; refine (HA.out _).mono ?_; rintro e w2 ⟨rfl, hb2⟩; have hn := hn.trans (hb2.mono hn.size))
      | (go_at_call 29; refine (CF.out _).mono ?_; rintro e w2 ⟨rfl, hb2⟩; have hn := hn.trans (hb2.mono hn.size))
      | (go_at_call 31; refine (CX.out _).mono ?_; rintro e w2 ⟨rfl, hb2⟩; have hn := hn.trans (hb2.mono hn.size))
      | (go_at_call 30; refine (CU.out _).mono ?_; rintro e w2 ⟨rfl, hb2⟩; have hn := hn.trans (hb2.mono hn.size))
      | (go_at_call 28; (first
          | (with_reducible refine (C1.out _).mono ?_) | (with_reducible refine (C2.out _).mono ?_) | (with_reducible refine (C3.out _).mono ?_)
          | (with_reducible refine (C4.out _).mono ?_) | (with_reducible refine (C5.out _).mono ?_) | (with_reducible refine (C6.out _).mono ?_)); rintro e w2 ⟨rfl, hb2⟩; have hn := hn.trans (hb2.mono hn.size)))
    all_goals go_ret
    all_goals exact ⟨rfl, by assumption⟩
  · have hr2 : rs.isEmpty = false := by simpa using hre
    by_cases hn3 : 0 ≤ n
    · have hno := hcut hn3 hre
      clear hcut hre
      go_enter Try.func7, Try.ntmps7
      go_wp2_with (first
        | (go_at_call 21; refine (HA.out _).mono ?_; rintro e w2 ⟨rfl, hb2⟩; have hn := hn.trans (hb2.mono hn.size))
        | (go_at_call 29; refine (CF.out _).mono ?_; rintro e w2 ⟨rfl, hb2⟩; have hn := hn.trans (hb2.mono hn.size))
        | (go_at_call 31; refine (CX.out _).mono ?_; rintro e w2 ⟨rfl, hb2⟩; have hn := hn.trans (hb2.mono hn.size))
        | (go_at_call 30; refine (CU.out _).mono ?_; rintro e w2 ⟨rfl, hb2⟩; have hn := hn.trans (hb2.mono hn.size))
        | (go_at_call 28; (first
            | (with_reducible refine (C1.out _).mono ?_) | (with_reducible refine (C2.out _).mono ?_) | (with_reducible refine (C3.out _).mono ?_)
            | (with_reducible refine (C4.out _).mono ?_) | (with_reducible refine (C5.out _).mono ?_) | (with_reducible refine (C6.out _).mono ?_)); rintro e w2 ⟨rfl, hb2⟩; have hn := hn.trans (hb2.mono hn.size)))
      all_goals go_ret
      all_goals exact ⟨rfl, by assumption⟩
    · clear hcut hre
      go_enter Try.func7, Try.ntmps7
      go_wp2_with (first
        | (go_at_call 21; refine (HA.out _).mono ?_; rintro e w2 ⟨rfl, hb2⟩; have hn := hn.trans (hb2.mono hn.size))
        | (go_at_call 29; refine (CF.out _).mono ?_; rintro e w2 ⟨rfl, hb2⟩; have hn := hn.trans (hb2.mono hn.size))
        | (go_at_call 31; refine (CX.out _).mono ?_; rintro e w2 ⟨rfl, hb2⟩; have hn := hn.trans (hb2.mono hn.size))
        | (go_at_call 30; refine (CU.out _).mono ?_; rintro e w2 ⟨rfl, hb2⟩; have hn := hn.trans (hb2.mono hn.size))
        | (go_at_call 28; (first
            | (with_reducible refine (C1.out _).mono ?_) | (with_reducible refine (C2.out _).mono ?_) | (with_reducible refine (C3.out _).mono ?_)
            | (with_reducible refine (C4.out _).mono ?_) | (with_reducible refine (C5.out _).mono ?_) | (with_reducible refine (C6.out _).mono ?_)); rintro e w2 ⟨rfl, hb2⟩; have hn := hn.trans (hb2.mono hn.size)))
      all_goals go_ret
      all_goals exact ⟨rfl, by assumption⟩
end Go.Proofs.Ytlkabghpcjlohaa
