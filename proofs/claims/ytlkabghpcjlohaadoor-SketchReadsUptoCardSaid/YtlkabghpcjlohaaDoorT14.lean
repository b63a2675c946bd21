/- The reference of layer 8: a rune's class, the sign that a rune is. -/
import Derived.Test.YtlkabghpcjlohaaDoorP10
import Derived.Test.YtlkabghpcjlohaaDoorT13
import Derived.Test.YtlkabghpcjlohaaDoorG3
namespace Go.Proofs.YtlkabghpcjlohaaDoor
set_option linter.unusedVariables false
set_option linter.unusedSimpArgs false
open Go.RowKit Go.Lib

set_option maxHeartbeats 16000000 in
set_option maxRecDepth 100000 in
theorem refClass_any (r : Int) (w : World) (h0 : -2147483648 ≤ r) (h1 : r ≤ 2147483647) : Calls Tryd.prog 83 #[.int .i32 r] w fun e w' => e = .returned (.int .i64 (cls r)) ∧ w = w' := by
  go_enter Tryd.func83, Tryd.ntmps83
  go_wp2
  all_goals go_ret
  all_goals refine ⟨ret_i ?_, rfl⟩
  all_goals (try simp only [bne, Bool.not_eq_true', Bool.not_eq_false', beq_iff_eq, beq_eq_false_iff_ne, ne_eq, Bool.and_eq_true, Bool.or_eq_true, decide_eq_true_eq] at *)
  all_goals (unfold cls; repeat' split)
  all_goals first | rfl | omega

/-- as the reference tells signs -/
def markN (r : Nat) : Int := match sg r with
  | .cell true => 1
  | .cell false => 2
  | .right => 3
  | .below => 4
  | .none => -1
  | _ => 0
set_option maxHeartbeats 16000000 in
set_option maxRecDepth 100000 in
theorem refMark_any (r : Nat) (w : World) (hr : r ≤ 1114111) : Calls Tryd.prog 74 #[.int .i32 (r : Int)] w fun e w' => e = .returned (.int .i64 (markN r)) ∧ w = w' := by
  have CC := Lib.hid (refClass_any (r : Int) w (by omega) (by omega))
  have hm : markN r = if r = 10 then 0 else if r = 35 ∨ r = 9632 then 1 else if r = 46 ∨ r = 9633 then 2 else if r = 124 then 3 else if r = 95 then 4 else if cls (r : Int) = 3 then 0 else -1 := by
    unfold markN sg
    repeat' split
    all_goals first | rfl | (exfalso; simp_all; done) | simp_all
  have h10 : r = 10 → cls (r : Int) = 3 := fun h => by subst h; exact cls10
  have HM := Lib.hid hm; have H10 := Lib.hid h10; clear hm h10
  obtain ⟨cl, hcl⟩ : ∃ cl, cls (r : Int) = cl := ⟨_, rfl⟩
  rw [hcl] at CC HM H10
  clear hcl
  go_enter Tryd.func74, Tryd.ntmps74
  go_wp2_with (go_at_call 83; refine CC.out.mono ?_; rintro e w1 ⟨rfl, rfl⟩)
  all_goals go_ret
  all_goals refine ⟨ret_i ?_, rfl⟩
  all_goals rw [HM.out]
  all_goals have h10 := H10.out
  all_goals (try simp only [bne, Bool.not_eq_true', Bool.not_eq_false', beq_iff_eq, beq_eq_false_iff_ne, ne_eq, Bool.and_eq_true, Bool.or_eq_true, decide_eq_true_eq] at *)
  all_goals repeat' split
  all_goals first | rfl | omega
end Go.Proofs.YtlkabghpcjlohaaDoor
