/- UtfCuts: for every text of at most 1048576 bytes and every number the call returns true. -/
import Derived.Test.YtlkabghpcjlohaaDoorLawUtfFixes
namespace Go.Proofs.YtlkabghpcjlohaaDoor
set_option linter.unusedVariables false
set_option linter.unusedSimpArgs false
open Go.RowKit Go.Lib

theorem cut_facts (s a : ByteArray) (n : Int) (ha : a = ⟨(cutL (bl s) n).toArray⟩) :
    a.size ≤ s.size ∧ s.extract 0 a.size = a ∧ ((chop (bl a)).length : Int) = min (max n 0) (chop (bl s)).length ∧
    ((chop (bl a)).length : Int) + (chop (bl (s.extract a.size s.size))).length = (chop (bl s)).length ∧
    fixL (bl a) ++ fixL (bl (s.extract a.size s.size)) = fixL (bl s) := by
  have hba : bl a = glue ((chop (bl s)).take n.toNat) := by rw [ha, bl_mk]; rfl
  have hsz : a.size = (glue ((chop (bl s)).take n.toNat)).length := by rw [← bl_length, hba]
  have hle := glue_take_le (bl s) n.toNat
  have hgt := glue_take (bl s) n.toNat
  have h1 := chop_first (bl s) n.toNat
  have h2 := chop_rest (bl s) n.toNat
  rw [← hba] at h1
  have hbb : bl (s.extract a.size s.size) = (bl s).drop (glue ((chop (bl s)).take n.toNat)).length := by rw [bl_from, hsz]
  rw [← hbb] at h2
  refine ⟨by rw [hsz, ← bl_length s]; exact hle, bl_inj (by rw [bl_to, hsz, hba]; exact hgt.symm), ?_, ?_, ?_⟩
  · rw [h1, List.length_take]; omega
  · rw [h1, h2, List.length_take, List.length_drop]; omega
  · unfold fixL runes
    rw [h1, h2, ← encs_append, ← List.map_append, List.take_append_drop]

set_option maxHeartbeats 4000000 in
set_option maxRecDepth 100000 in
theorem utfCuts_any (s : ByteArray) (n : Int) (w : World) (hs : s.size ≤ 1048576) (hn0 : -9223372036854775808 ≤ n) (hn1 : n ≤ 9223372036854775807) (hT : Tabs w) :
    Calls Tryd.prog 6 #[.string s, .int .i64 n] w fun e w' => e = .returned (.bool true) ∧ Below w.heap.size w w' := by
  obtain ⟨a, ha⟩ : ∃ a : ByteArray, a = ⟨(cutL (bl s) n).toArray⟩ := ⟨_, rfl⟩
  obtain ⟨f1, f2, f3, f4, f5⟩ := cut_facts s a n ha
  have HA := From.awake w hT
  have HX := From.cut w s n hn0 hn1 (by omega)
  rw [← ha] at HX
  clear ha
  have hbs : (s.extract a.size s.size).size ≤ s.size := by rw [ByteArray.size_extract]; omega
  have HFs := From.fix w s (by omega)
  have HFa := From.fix w a (by omega)
  have HFb := From.fix w (s.extract a.size s.size) (by omega)
  have HCs := From.count w s (by omega)
  have HCa := From.count w a (by omega)
  have HCb := From.count w (s.extract a.size s.size) (by omega)
  have ca1 := chop_length_le (bl a); have cb1 := chop_length_le (bl (s.extract a.size s.size)); have cs1 := chop_length_le (bl s)
  rw [bl_length] at ca1 cb1 cs1
  have hf5 : (⟨(fixL (bl a)).toArray⟩ : ByteArray) ++ ⟨(fixL (bl (s.extract a.size s.size))).toArray⟩ = ⟨(fixL (bl s)).toArray⟩ := by
    apply bl_inj
    rw [bl_mk, ← f5]
    simp [bl]
  clear f5
  have z1 := fix_length_le (bl a); have z2 := fix_length_le (bl (s.extract a.size s.size))
  rw [bl_length] at z1 z2
  have zz : (⟨(fixL (bl a)).toArray⟩ : ByteArray).size + (⟨(fixL (bl (s.extract a.size s.size))).toArray⟩ : ByteArray).size ≤ 9223372036854775807 := by rw [size_mk, size_mk]; omega
  clear z1 z2
  generalize (⟨(fixL (bl a)).toArray⟩ : ByteArray) = fa at *
  generalize (⟨(fixL (bl (s.extract a.size s.size))).toArray⟩ : ByteArray) = fb at *
  generalize (⟨(fixL (bl s)).toArray⟩ : ByteArray) = fs at *
  generalize (chop (bl a)).length = ca at *
  generalize (chop (bl (s.extract a.size s.size))).length = cb at *
  generalize (chop (bl s)).length = cs at *
  have hb0 := Below.refl w.heap.size w
  have F3 : ((ca : Int) == min (max n 0) (cs : Int)) = true := beq_iff_eq.2 f3
  have F4 : ((ca : Int) + (cb : Int) == (cs : Int)) = true := beq_iff_eq.2 f4
  clear f3 f4
  have B1 : ca ≤ 1048576 := by omega
  have B2 : cb ≤ 1048576 := by omega
  have B3 : cs ≤ 1048576 := by omega
  clear hbs ca1 cb1 cs1
  go_enter Tryd.func6, Tryd.ntmps6
  go_wp2_with (first
      | (go_at_call 15; (with_reducible refine (HA.at_ (by assumption)).mono ?_); rintro e wq0 ⟨rfl, hbq0⟩)
      | (go_at_call 24; (with_reducible refine (HX.at_ (by assumption)).mono ?_); rintro e wq1 ⟨rfl, hbq1⟩)
      | (go_at_call 25; (with_reducible refine (HFs.at_ (by assumption)).mono ?_); rintro e wq2 ⟨rfl, hbq2⟩)
      | (go_at_call 25; (with_reducible refine (HFa.at_ (by assumption)).mono ?_); rintro e wq2 ⟨rfl, hbq2⟩)
      | (go_at_call 25; (with_reducible refine (HFb.at_ (by assumption)).mono ?_); rintro e wq2 ⟨rfl, hbq2⟩)
      | (go_at_call 19; (with_reducible refine (HCs.at_ (by assumption)).mono ?_); rintro e wq3 ⟨rfl, hbq3⟩)
      | (go_at_call 19; (with_reducible refine (HCa.at_ (by assumption)).mono ?_); rintro e wq3 ⟨rfl, hbq3⟩)
      | (go_at_call 19; (with_reducible refine (HCb.at_ (by assumption)).mono ?_); rintro e wq3 ⟨rfl, hbq3⟩))
  all_goals go_ret
  all_goals exact ⟨rfl, by assumption⟩
end Go.Proofs.YtlkabghpcjlohaaDoor
