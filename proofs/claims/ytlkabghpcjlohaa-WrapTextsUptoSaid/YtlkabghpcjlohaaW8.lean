/- Walks of the reference of layer 20: Columns, Fit, piece. -/
import Derived.Test.YtlkabghpcjlohaaW6
import Derived.Test.YtlkabghpcjlohaaG8
namespace Go.Proofs.Ytlkabghpcjlohaa
set_option linter.unusedVariables false
set_option linter.unusedSimpArgs false
open Go.RowKit Go.Lib

theorem colsR_take_le (rs : List Nat) (k : Nat) : colsR (rs.take k) ≤ 2 * k := by
  have := colsR_le (rs.take k)
  rw [List.length_take] at this; omega

set_option maxHeartbeats 4000000 in
set_option maxRecDepth 100000 in
theorem refColumns_any (s : ByteArray) (w : World) (hs : s.size ≤ 17592186044416) :
    Calls Try.prog 52 #[.string s] w fun e w' => e = .returned (.int .i64 (colsL (bl s) : Nat)) ∧ Below w.heap.size w w' := by
  have hle := chop_length_le (bl s)
  rw [bl_length, ← runes_length] at hle
  have hrl := runes_rune_le (bl s)
  have HE : Hid (colsL (bl s) = colsR (runes (bl s))) := Lib.hid rfl
  have HC := Lib.hid (fun W => refRunes_any s W hs)
  generalize runes (bl s) = rs at *
  have HR := Lib.hid hrl; clear hrl
  go_enter Try.func52, Try.ntmps52
  go_wp2_with (go_at_call 79; refine (HC.out _).mono ?_; rintro e w1 ⟨v, rfl, hown, hb⟩; obtain ⟨A, c, rfl⟩ := own_form hown)
  have hsl := Sl.of_own hown
  have hs1 := hb.size
  go_loopw [4, 5] (fun u4 u5 wr => ∃ k : Nat, u5 = .int .i64 k ∧ k ≤ rs.length ∧ u4 = .int .i64 (colsR (rs.take k) : Nat) ∧ w1 = wr) (fun _ u5 _ => rs.length - (intOf u5).toNat)
  case atStart => exact ⟨0, rfl, Nat.zero_le _, rfl, rfl⟩
  case round =>
    obtain ⟨k, rfl, hk, rfl, rfl⟩ := hrel
    by_cases hlt : k < rs.length
    · obtain ⟨ad, e0, _, g1⟩ := hsl.cell (k := k) (by simpa using hlt)
      obtain rfl := e0
      rw [List.getElem_map] at g1
      have hr := HR.out (rs[k]'hlt) (List.getElem_mem hlt)
      have hst : colsR (rs.take (k + 1)) = colsR (rs.take k) + colW ((rs[k]'hlt : Nat) : Int) := by
        rw [List.take_succ_eq_append_getElem hlt, colsR_append, colsR_cons]; rfl
      have hct := colsR_take_le rs k
      have hcw := colW_le ((rs[k]'hlt : Nat) : Int)
      have cW := fun W => refWidth_any ((rs[k]'hlt : Nat) : Int) W (by omega) (by omega)
      generalize colW ((rs[k]'hlt : Nat) : Int) = q at *
      generalize (rs[k]'hlt) = r at *
      generalize colsR (rs.take k) = C at *
      have HS := Lib.hid hst; clear hst
      have CW := Lib.hid cW; clear cW
      have i1 : (0 : Int) ≤ (k : Int) := by omega
      have i2 : (k : Int) < (rs.length : Int) := by omega
      go_wp2_with (go_at_call 23; refine (CW.out _).mono ?_; rintro e w2 ⟨rfl, rfl⟩)
      exact ⟨⟨k + 1, by go_num, by omega, by rw [HS.out]; go_num, trivial⟩, by simp [intOf]; omega⟩
    · obtain rfl : k = rs.length := by omega
      rw [List.take_length]
      go_wp2
      go_ret
      exact ⟨ret_i (by rw [HE.out]), hb⟩

set_option maxHeartbeats 8000000 in
set_option maxRecDepth 100000 in
theorem refFit_any (s : ByteArray) (n : Int) (w : World) (hn0 : -9223372036854775808 ≤ n) (hn1 : n ≤ 9223372036854775807) (hs : s.size ≤ 4294967296) :
    Calls Try.prog 53 #[.string s, .int .i64 n] w fun e w' => e = .returned (.string ⟨(fitL (bl s) n).toArray⟩) ∧ Below w.heap.size w w' := by
  by_cases hneg : n < 0
  · have e : fitL (bl s) n = [] := by unfold fitL; rw [fitC_neg n hneg]; rfl
    rw [e]
    go_enter Try.func53, Try.ntmps53
    go_wp2
    go_ret
    exact ⟨rfl, Below.refl _ _⟩
  have HE : Hid (fitL (bl s) n = glue (fitC n (chop (bl s)))) := Lib.hid rfl
  have hpre := fit_prefix (bl s) n
  have HP : Hid ((⟨(fitL (bl s) n).toArray⟩ : ByteArray) = s.extract 0 (fitL (bl s) n).length) := Lib.hid (by
    refine bl_inj (show bl ⟨(fitL (bl s) n).toArray⟩ = bl (s.extract 0 (fitL (bl s) n).length) from ?_)
    rw [bl_to, bl_mk, ← hpre])
  have hfl := fit_len (bl s) n
  rw [bl_length] at hfl
  have hT : ∃ T, T = (fitL (bl s) n).length := ⟨_, rfl⟩
  obtain ⟨T, hT⟩ := hT
  have HT : Hid ((glue (fitC n (chop (bl s)))).length = T) := Lib.hid (by rw [hT]; rfl)
  rw [← hT] at HP hfl
  clear hpre
  have HTT := Lib.hid hT; clear hT
  go_enter Try.func53, Try.ntmps53
  go_wp2
  go_loopg [5, 6, 7, 8] s.size (fun gf u5 u6 _ _ wr => ∃ (pos used : Nat), u5 = .int .i64 used ∧ u6 = .int .i64 pos ∧ Hid (pos + (glue (fitC (n - used) (chop ((bl s).drop pos)))).length = T) ∧ (used : Int) ≤ n ∧ used ≤ 2 * pos ∧ pos ≤ s.size ∧ s.size ≤ pos + gf ∧ w = wr)
  case atStart => exact ⟨0, 0, rfl, rfl, Lib.hid (by have := HT.out; simpa using this), by omega, by omega, by omega, by omega, rfl⟩
  case round =>
    obtain ⟨pos, used, rfl, rfl, hc, hun, hup, hps, hfu, rfl⟩ := hrel
    have hpos0 : (0 : Int) ≤ (pos : Int) := by omega
    have hpos1 : (pos : Int) ≤ (s.size : Int) := by omega
    by_cases hp : pos < s.size
    · obtain ⟨g', rfl⟩ : ∃ g', gk = g' + 1 := ⟨gk - 1, by omega⟩
      have hwd := Lib.width_pos s pos
      have hwl := width_le s pos hp
      have hrl := Lib.rune_le s pos
      have hpl := piece_len s pos hp
      have h2 := hc.out
      rw [chop_at s pos hp, fitC] at h2
      have cN := fun W => refNext_any s (pos : Int) W (by omega) (by omega) (by omega)
      rw [next_dec s pos hp] at cN
      have cW := fun W => refWidth_any ((Utf8.decode s pos).1 : Int) W (by omega) (by omega)
      have hcw := colW_le ((Utf8.decode s pos).1 : Int)
      generalize colW ((Utf8.decode s pos).1 : Int) = q at *
      generalize Utf8.decode s pos = d at *
      have CN := Lib.hid cN; have CW := Lib.hid cW; clear cN cW
      have j1 : (pos : Int) < (s.size : Int) := by omega
      by_cases hq : (q : Int) ≤ n - used
      · rw [if_pos hq] at h2
        have h3 : pos + d.2 + (glue (fitC (n - ((used + q : Nat) : Int)) (chop ((bl s).drop (pos + d.2))))).length = T := by
          rw [← h2, show n - ((used + q : Nat) : Int) = n - used - q by omega]
          simp only [glue, List.map_cons, List.flatten_cons, List.length_append, hpl]
          omega
        have H3 := Lib.hid h3; clear h3 h2 hc hpl
        have hq2 : (used : Int) + (q : Int) ≤ n := by omega
        go_wp2_with (first
          | (go_at_call 80; refine (CN.out _).mono ?_; rintro e w2 ⟨rfl, rfl⟩)
          | (go_at_call 23; refine (CW.out _).mono ?_; rintro e w2 ⟨rfl, rfl⟩))
        go_roundg g'
        case measure => omega
        case rel => exact ⟨pos + d.2, used + q, by go_num, by go_num, H3, by omega, by omega, by omega, by omega, by first | rfl | trivial⟩
      · rw [if_neg hq] at h2
        have hpT : pos = T := by simpa [glue] using h2
        subst hpT
        clear h2 hc hpl
        have hq2 : n < (used : Int) + (q : Int) := by omega
        go_wp2_with (first
          | (go_at_call 80; refine (CN.out _).mono ?_; rintro e w2 ⟨rfl, rfl⟩)
          | (go_at_call 23; refine (CW.out _).mono ?_; rintro e w2 ⟨rfl, rfl⟩))
        go_ret
        exact ⟨ret_s (by rw [HP.out]), Below.refl _ _⟩
    · obtain rfl : pos = s.size := by omega
      have h2 := hc.out
      rw [chop_end s s.size hp] at h2
      have hpT : s.size = T := by simpa [glue, fitC] using h2
      subst hpT
      clear h2 hc
      have hxx : s = ⟨(fitL (bl s) n).toArray⟩ := by
        rw [HP.out]
        refine bl_inj (show bl s = bl (s.extract 0 s.size) from ?_)
        rw [bl_to, List.take_of_length_le (by rw [bl_length]; exact Nat.le_refl _)]
      have HXX := Lib.hid (congrArg Value.string hxx); clear hxx
      go_wp2
      go_ret
      exact ⟨ret_v HXX.out, Below.refl _ _⟩

set_option maxHeartbeats 2000000 in
set_option maxRecDepth 100000 in
theorem refPiece_any (s : ByteArray) (n : Int) (w : World) (hn0 : -9223372036854775808 ≤ n) (hn1 : n ≤ 9223372036854775807) (hs : s.size ≤ 4294967296) :
    Calls Try.prog 69 #[.string s, .int .i64 n] w fun e w' => e = .returned (.string ⟨(pieceL (bl s) n).toArray⟩) ∧ Below w.heap.size w w' := by
  have l1 := fit_len (bl s) n
  rw [bl_length] at l1
  have F1 := Lib.hid (fun W => refFit_any s n W hn0 hn1 hs)
  have F2 := Lib.hid (fun W => refFit_any s 2 W (by omega) (by omega) hs)
  have cC := fun W => refColumns_any ⟨(fitL (bl s) n).toArray⟩ W (by rw [wz]; omega)
  rw [bl_mk] at cC
  have hP : Hid ((0 < colsL (fitL (bl s) n) → pieceL (bl s) n = fitL (bl s) n) ∧ (¬ 0 < colsL (fitL (bl s) n) → pieceL (bl s) n = fitL (bl s) 2)) := Lib.hid ⟨fun h => by unfold pieceL; rw [if_pos h], fun h => by unfold pieceL; rw [if_neg h]⟩
  generalize colsL (fitL (bl s) n) = q at *
  have CC := Lib.hid cC; clear cC
  by_cases hq : 0 < q
  · have E := Lib.hid (hP.out.1 hq); clear hP
    have hq1 : (0 : Int) < (q : Int) := by omega
    go_enter Try.func69, Try.ntmps69
    go_wp2_with (first
      | (go_at_call 53; refine (F1.out _).mono ?_; rintro e w1 ⟨rfl, hb1⟩)
      | (go_at_call 52; refine (CC.out _).mono ?_; rintro e w2 ⟨rfl, hb2⟩))
    go_ret
    exact ⟨ret_s (by rw [E.out]), hb1.trans (hb2.mono hb1.size)⟩
  · have E := Lib.hid (hP.out.2 hq); clear hP
    obtain rfl : q = 0 := by omega
    go_enter Try.func69, Try.ntmps69
    go_wp2_with (first
      | (go_at_call 53; (first | ((with_reducible refine (F1.out _).mono ?_); rintro e w1 ⟨rfl, hb1⟩) | ((with_reducible refine (F2.out _).mono ?_); rintro e w3 ⟨rfl, hb3⟩)))
      | (go_at_call 52; refine (CC.out _).mono ?_; rintro e w2 ⟨rfl, hb2⟩))
    go_ret
    exact ⟨ret_s (by rw [E.out]), hb1.trans ((hb2.trans (hb3.mono hb2.size)).mono hb1.size)⟩
end Go.Proofs.Ytlkabghpcjlohaa
