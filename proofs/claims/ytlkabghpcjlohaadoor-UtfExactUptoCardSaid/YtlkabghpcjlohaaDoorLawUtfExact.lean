/- UtfExact: for every text of at most 1048576 bytes and every place and number the call returns true. -/
import Derived.Test.YtlkabghpcjlohaaDoorLawUtfFixes
import Derived.Test.YtlkabghpcjlohaaDoorLawUtfCuts
import Derived.Test.YtlkabghpcjlohaaDoorG6
namespace Go.Proofs.YtlkabghpcjlohaaDoor
set_option linter.unusedVariables false
set_option linter.unusedSimpArgs false
open Go.RowKit Go.Lib

set_option maxHeartbeats 8000000 in
set_option maxRecDepth 100000 in
theorem utfExact_any (s : ByteArray) (at' n : Int) (w : World) (hs : s.size ≤ 1048576) (a0 : -9223372036854775808 ≤ at') (a1 : at' ≤ 9223372036854775807) (n0 : -9223372036854775808 ≤ n) (n1 : n ≤ 9223372036854775807) (hT : Tabs w) (hsh : w.ShapedOpen Tryd.prog) :
    Calls Tryd.prog 13 #[.string s, .int .i64 at', .int .i64 n] w fun e w' => e = .returned (.bool true) ∧ Below w.heap.size w w' := by
  have hM : MaxLen w := Tryd.laysM145.s1_3 w hsh
  clear hsh
  have HA := From.awake w hT
  have HN : From w 18 #[.string s, .int .i64 at'] (.tuple #[.int .i32 (nextL (bl s) at').1, .int .i64 (nextL (bl s) at').2]) := .below fun W hb => Next_any s at' W (hT.below hb) (by omega)
  have HRN : From w 35 #[.string s, .int .i64 at'] (.tuple #[.int .i32 (nextL (bl s) at').1, .int .i64 (nextL (bl s) at').2]) := .same fun W hb => refNext_any s at' W (by omega) a0 a1
  have HC := From.count w s (by omega)
  have HRC : From w 37 #[.string s] (.int .i64 (chop (bl s)).length) := .below fun W hb => refCount_any s W (by omega)
  have HV : From w 20 #[.string s] (.bool (validL (bl s))) := .below fun W hb => Valid_any s W (hT.below hb) (by omega)
  have HRV : From w 38 #[.string s] (.bool (validL (bl s))) := .same fun W hb => refValid_any s W (by omega)
  have HX := From.cut w s n n0 n1 (by omega)
  have HRX : From w 39 #[.string s, .int .i64 n] (.string ⟨(cutL (bl s) n).toArray⟩) := .below fun W hb => refCut_any s n W n0 n1 (by omega)
  have HF := From.fix w s (by omega)
  have HRF : From w 40 #[.string s] (.string ⟨(fixL (bl s)).toArray⟩) := .below fun W hb => refFix_any s W (by omega)
  have HB := From.back w s (by omega)
  have HRB : From w 41 #[.string s] (.string ⟨(backL (bl s)).toArray⟩) := .below fun W hb => refBack_any s W (by omega)
  have hP := fun W => Places_any s W (by omega)
  have hRP := fun W => refPlaces_any s W (by omega)
  have hL := fun W (h : Below w.heap.size w W) => Lines_any s W (hM.below h) (by omega)
  have hRL := fun W => refLines_any s W (by omega)
  have hpl : (places (bl s)).length ≤ 1048576 := by rw [places_length]; have := chop_length_le (bl s); rw [bl_length] at this; omega
  have hll : (linesL (bl s)).length ≤ 1048576 := by have := linesL_count (bl s); rw [bl_length] at this; omega
  have hcl : (chop (bl s)).length ≤ 1048576 := by rw [← places_length]; exact hpl
  have hd1 : (((nextL (bl s) at').1 : Int) != ((nextL (bl s) at').1 : Int)) = false := by simp
  have hd2 : (((nextL (bl s) at').2 : Int) != ((nextL (bl s) at').2 : Int)) = false := by simp
  have hcc : (((chop (bl s)).length : Int) != ((chop (bl s)).length : Int)) = false := by simp
  generalize nextL (bl s) at' = d at *
  generalize (chop (bl s)).length = c at *
  generalize validL (bl s) = b at *
  generalize places (bl s) = ps at *
  generalize linesL (bl s) = ls at *
  generalize (⟨(cutL (bl s) n).toArray⟩ : ByteArray) = x at *
  generalize (⟨(fixL (bl s)).toArray⟩ : ByteArray) = f at *
  generalize (⟨(backL (bl s)).toArray⟩ : ByteArray) = bk at *
  have PP := Lib.hid hP; have PR := Lib.hid hRP; have PL := Lib.hid hL; have PRL := Lib.hid hRL
  clear hP hRP hL hRL hM hT
  have hb0 := Below.refl w.heap.size w
  go_enter Tryd.func13, Tryd.ntmps13
  go_wp2_with (first
    | (go_at_call 21; refine (PP.out _).mono ?_; rintro e wp1 ⟨v1, rfl, ho1, hbp1⟩)
    | (go_at_call 36; refine (PR.out _).mono ?_; rintro e wp2 ⟨v2, rfl, ho2, hbp2⟩)
    | (go_at_call 22; refine (SameInts_any v1 v2 ps ps wp2.heap.size wp2 (((Sl.of_own ho1).below hbp2).more hbp2.size) (Sl.of_own ho2) (by omega) (by omega)).mono ?_; rintro e wp3 ⟨rfl, hbp3⟩; have hbq : Below w.heap.size w wp3 := Below.trans (by assumption) (Below.mono (hbp1.trans ((hbp2.trans (hbp3.mono hbp2.size)).mono hbp1.size)) (Below.size (by assumption))))
    | (go_at_call 15; (with_reducible refine (HA.at_ (by assumption)).mono ?_); rintro e wa ⟨rfl, hba⟩)
    | (go_at_call 18; (with_reducible refine (HN.at_ (by assumption)).mono ?_); rintro e wb ⟨rfl, hbb⟩)
    | (go_at_call 35; (with_reducible refine (HRN.at_ (by assumption)).mono ?_); rintro e wc ⟨rfl, hbc⟩)
    | (go_at_call 19; (with_reducible refine (HC.at_ (by assumption)).mono ?_); rintro e wd0 ⟨rfl, hbd0⟩)
    | (go_at_call 37; (with_reducible refine (HRC.at_ (by assumption)).mono ?_); rintro e wd1 ⟨rfl, hbd1⟩)
    | (go_at_call 20; (with_reducible refine (HV.at_ (by assumption)).mono ?_); rintro e wd2 ⟨rfl, hbd2⟩)
    | (go_at_call 38; (with_reducible refine (HRV.at_ (by assumption)).mono ?_); rintro e wd3 ⟨rfl, hbd3⟩)
    | (go_at_call 24; (with_reducible refine (HX.at_ (by assumption)).mono ?_); rintro e wd4 ⟨rfl, hbd4⟩)
    | (go_at_call 39; (with_reducible refine (HRX.at_ (by assumption)).mono ?_); rintro e wd5 ⟨rfl, hbd5⟩)
    | (go_at_call 25; (with_reducible refine (HF.at_ (by assumption)).mono ?_); rintro e wd6 ⟨rfl, hbd6⟩)
    | (go_at_call 40; (with_reducible refine (HRF.at_ (by assumption)).mono ?_); rintro e wd7 ⟨rfl, hbd7⟩)
    | (go_at_call 26; (with_reducible refine (HB.at_ (by assumption)).mono ?_); rintro e wd8 ⟨rfl, hbd8⟩)
    | (go_at_call 41; (with_reducible refine (HRB.at_ (by assumption)).mono ?_); rintro e wd9 ⟨rfl, hbd9⟩)
    | (go_at_call 27; refine (PL.out _ (by assumption)).mono ?_; rintro e wq1 ⟨v3, rfl, ho3, hbl1⟩)
    | (go_at_call 42; refine (PRL.out _).mono ?_; rintro e wq2 ⟨v4, rfl, ho4, hbl2⟩)
    | (go_at_call 28; refine (SameTexts_any v3 v4 ls ls wq2.heap.size wq2 (((Sl.of_own ho3).below hbl2).more hbl2.size) (Sl.of_own ho4) (by omega) (by omega)).mono ?_; rintro e wq3 ⟨rfl, hbl3⟩; have hbz : Below w.heap.size w wq3 := Below.trans (by assumption) (Below.mono (hbl1.trans ((hbl2.trans (hbl3.mono hbl2.size)).mono hbl1.size)) (Below.size (by assumption)))))
  all_goals go_ret
  all_goals exact ⟨rfl, by assumption⟩
end Go.Proofs.YtlkabghpcjlohaaDoor
