/- Walks of the reference of layer 2: Fold, Words, Initials. -/
import Derived.Test.YtlkabghpcjlohaaG1
import Derived.Test.YtlkabghpcjlohaaG5
namespace Go.Proofs.Ytlkabghpcjlohaa
set_option linter.unusedVariables false
set_option linter.unusedSimpArgs false
open Go.RowKit Go.Lib

theorem g_sz (l : List UInt8) : (⟨l.toArray⟩ : ByteArray).size = l.length := by rw [← bl_length]
theorem g_app (a b : List UInt8) : (⟨a.toArray⟩ : ByteArray) ++ ⟨b.toArray⟩ = (⟨(a ++ b).toArray⟩ : ByteArray) := by apply bl_inj; simp [bl]
theorem g_enc (r : Int) : Utf8.encode r = ⟨(enc r).toArray⟩ := (bl_roundtrip _).symm
theorem g_bl (s : ByteArray) : s = ⟨(bl s).toArray⟩ := (bl_roundtrip s).symm

set_option maxHeartbeats 4000000 in
set_option maxRecDepth 100000 in
theorem refFold_any (s : ByteArray) (p : Bool) (w : World) (hs : s.size ≤ 17592186044416) :
    Calls Try.prog 41 #[.string s, .bool p] w fun e w' => e = .returned (.string ⟨(foldL p (bl s)).toArray⟩) ∧ Below w.heap.size w w' := by
  have hle := chop_length_le (bl s)
  rw [bl_length, ← runes_length] at hle
  have hrl := runes_rune_le (bl s)
  have HE : Hid (foldL p (bl s) = foldR p (runes (bl s))) := Lib.hid rfl
  have HC := Lib.hid (fun W => refRunes_any s W hs)
  generalize runes (bl s) = rs at *
  have HR := Lib.hid hrl; clear hrl
  go_enter Try.func41, Try.ntmps41
  go_wp2_with (go_at_call 79; refine (HC.out _).mono ?_; rintro e w1 ⟨v, rfl, hown, hb⟩; obtain ⟨A, c, rfl⟩ := own_form hown)
  have hsl := Sl.of_own hown
  have hs1 := hb.size
  go_loopw [6, 7, 8] (fun u6 u7 _ wr => ∃ k : Nat, u7 = .int .i64 k ∧ k ≤ rs.length ∧ u6 = .string ⟨(foldR p (rs.take k)).toArray⟩ ∧ Below w1.heap.size w1 wr) (fun _ u7 _ _ => rs.length - (intOf u7).toNat)
  case atStart => exact ⟨0, rfl, Nat.zero_le _, rfl, Below.refl _ _⟩
  case round =>
    obtain ⟨k, rfl, hk, rfl, hbw⟩ := hrel
    have hsz := hbw.size
    by_cases hlt : k < rs.length
    · obtain ⟨ad, e0, _, g1⟩ := (hsl.below hbw).cell (k := k) (by simpa using hlt)
      obtain rfl := e0
      rw [List.getElem_map] at g1
      have hr := HR.out (rs[k]'hlt) (List.getElem_mem hlt)
      have hst : foldR p (rs.take (k + 1)) = foldR p (rs.take k) ++ foldOne p (rs[k]'hlt) := by
        rw [List.take_succ_eq_append_getElem hlt, foldR_snoc]
      have hone : foldOne p (rs[k]'hlt) = if cls ((rs[k]'hlt : Nat) : Int) = 1 then (if p then bl (plainB (upr ((rs[k]'hlt : Nat) : Int))) else enc (upr ((rs[k]'hlt : Nat) : Int))) else [] := rfl
      have hol := foldOne_le p (rs[k]'hlt)
      have hrr := foldR_le p (rs.take k)
      rw [List.length_take] at hrr
      rw [hone] at hst
      have hu := upr_range ((rs[k]'hlt : Nat) : Int) (by omega) (by omega)
      have hP4 := plainB_le (upr ((rs[k]'hlt : Nat) : Int))
      have hE4 := (enc_length (upr ((rs[k]'hlt : Nat) : Int))).2
      have cC := fun W => refClass_any ((rs[k]'hlt : Nat) : Int) W (by omega) (by omega)
      have cU := fun W => refUpper_any ((rs[k]'hlt : Nat) : Int) W (by omega) (by omega)
      have cP := fun W => refPlain_any (upr ((rs[k]'hlt : Nat) : Int)) W (by omega) (by omega)
      have cE := fun W => refEncode_any (upr ((rs[k]'hlt : Nat) : Int)) W (by omega) (by omega)
      clear hone hol
      generalize hrx : (rs[k]'hlt) = r at *
      clear hrx
      have i1 : (0 : Int) ≤ (k : Int) := by omega
      have i2 : (k : Int) < (rs.length : Int) := by omega
      have zf : (⟨(foldR p (rs.take k)).toArray⟩ : ByteArray).size ≤ 100000000000000 := by rw [g_sz]; omega
      by_cases hc : cls (r : Int) = 1
      · rw [if_pos hc] at hst
        have hcb : (cls (r : Int) != 1) = false := by simp [hc]
        generalize cls (r : Int) = q at *
        generalize upr (r : Int) = u at *
        clear hc
        cases p
        · rw [if_neg (by simp)] at hst
          have hst2 : (⟨(foldR false (rs.take (k + 1))).toArray⟩ : ByteArray) = ⟨(foldR false (rs.take k)).toArray⟩ ++ Utf8.encode u := by rw [hst, g_enc, g_app]
          have ze : (Utf8.encode u).size ≤ 4 := by rw [g_enc, g_sz]; exact hE4
          have HS := Lib.hid hst2; clear hst hst2
          generalize Utf8.encode u = E at *
          have CC := Lib.hid cC; have CU := Lib.hid cU; have CE := Lib.hid cE
          clear cC cU cE cP
          generalize (⟨(foldR false (rs.take k)).toArray⟩ : ByteArray) = F at *
          have zz : F.size + E.size ≤ 9223372036854775807 := by omega
          go_wp2_with (first
            | (go_at_call 34; refine (CC.out _).mono ?_; rintro e w2 ⟨rfl, rfl⟩)
            | (go_at_call 36; refine (CU.out _).mono ?_; rintro e w2 ⟨rfl, rfl⟩)
            | (go_at_call 77; refine (CE.out _).mono ?_; rintro e w3 ⟨rfl, hb3⟩))
          exact ⟨⟨k + 1, by go_num, by omega, by rw [HS.out], hbw.trans (hb3.mono hsz)⟩, by simp [intOf]; omega⟩
        · rw [if_pos rfl] at hst
          have hst2 : (⟨(foldR true (rs.take (k + 1))).toArray⟩ : ByteArray) = ⟨(foldR true (rs.take k)).toArray⟩ ++ plainB u := by
            rw [hst]
            conv => rhs; rw [g_bl (plainB u)]
            rw [g_app]
          have HS := Lib.hid hst2; clear hst hst2
          generalize plainB u = E at *
          have CC := Lib.hid cC; have CU := Lib.hid cU; have CP := Lib.hid cP
          clear cC cU cE cP
          generalize (⟨(foldR true (rs.take k)).toArray⟩ : ByteArray) = F at *
          have zz : F.size + E.size ≤ 9223372036854775807 := by omega
          go_wp2_with (first
            | (go_at_call 34; refine (CC.out _).mono ?_; rintro e w2 ⟨rfl, rfl⟩)
            | (go_at_call 36; refine (CU.out _).mono ?_; rintro e w2 ⟨rfl, rfl⟩)
            | (go_at_call 38; refine (CP.out _).mono ?_; rintro e w3 ⟨rfl, hb3⟩))
          exact ⟨⟨k + 1, by go_num, by omega, by rw [HS.out], hbw.trans (hb3.mono hsz)⟩, by simp [intOf]; omega⟩
      · rw [if_neg hc, List.append_nil] at hst
        have hcb : (cls (r : Int) != 1) = true := by simp [hc]
        generalize cls (r : Int) = q at *
        clear hc
        have HS := Lib.hid hst; clear hst
        have CC := Lib.hid cC
        clear cC cU cE cP
        go_wp2_with (go_at_call 34; refine (CC.out _).mono ?_; rintro e w2 ⟨rfl, rfl⟩)
        exact ⟨⟨k + 1, by go_num, by omega, by rw [HS.out], hbw⟩, by simp [intOf]; omega⟩
    · obtain rfl : k = rs.length := by omega
      rw [List.take_length]
      go_wp2
      go_ret
      exact ⟨ret_s (by rw [HE.out]), hb.trans (hbw.mono hs1)⟩
end Go.Proofs.Ytlkabghpcjlohaa
