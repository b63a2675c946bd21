/- Walks of package utf's Encode, Count; what they compute is told over the model's own decoder. -/
import Derived.Test.YtlkabghpcjlohaaProg
import Derived.WalkKit
import Derived.WalkLawsBesides
import Derived.WalkSpells
import Derived.Lib.OthersKept
import Derived.Lib.RuneCount
import Derived.Laws.Runes
import Derived.LoopTactic
import Derived.Below
set_option linter.unusedVariables false
set_option linter.unusedSimpArgs false
namespace Go.Proofs.Ytlkabghpcjlohaa
open Go.RowKit

theorem ret_b {a b : Bool} (h : a = b) : Ending.returned (.bool a) = Ending.returned (.bool b) := by rw [h]
theorem ret_i {k : IntKind} {a b : Int} (h : a = b) : Ending.returned (.int k a) = Ending.returned (.int k b) := by rw [h]
theorem ret_s {a b : ByteArray} (h : a = b) : Ending.returned (.string a) = Ending.returned (.string b) := by rw [h]
theorem ret_v {a b : Value} (h : a = b) : Ending.returned a = Ending.returned b := by rw [h]

theorem encode_bad {r : Int} (h : Utf8.valid r = false) : Utf8.encode r = Utf8.encode 65533 := by
  unfold Utf8.encode
  rw [h]
  rfl

set_option maxHeartbeats 1000000 in
theorem Encode_any (r : Int) (w : World) (h0 : -2147483648 ≤ r) (h1 : r ≤ 2147483647) :
    Calls Try.prog 39 #[.int .i32 r] w fun e w' => e = .returned (.string (Utf8.encode r)) ∧ w = w' := by
  by_cases c1 : r < 0
  · rw [encode_bad (by simp [Utf8.valid]; omega)]
    go_enter Try.func39, Try.ntmps39
    go_wp2
    go_ret
    exact ⟨rfl, rfl⟩
  by_cases c2 : 1114111 < r
  · rw [encode_bad (by simp [Utf8.valid]; omega)]
    go_enter Try.func39, Try.ntmps39
    go_wp2
    go_ret
    exact ⟨rfl, rfl⟩
  by_cases c3 : 55296 ≤ r
  · by_cases c4 : r < 57344
    · rw [encode_bad (by simp [Utf8.valid]; omega)]
      go_enter Try.func39, Try.ntmps39
      go_wp2
      go_ret
      exact ⟨rfl, rfl⟩
    · go_enter Try.func39, Try.ntmps39
      go_wp2
      go_ret
      exact ⟨rfl, rfl⟩
  · go_enter Try.func39, Try.ntmps39
    go_wp2
    go_ret
    exact ⟨rfl, rfl⟩
/-- Called in whatever world from w on, the function returns v and leaves what lay below w's end as it was. -/
def From (w : World) (f : Nat) (args : Array Value) (v : Value) : Prop :=
  ∀ W, Below w.heap.size w W → Calls Try.prog f args W fun e W' => e = .returned v ∧ Below w.heap.size w W'
theorem From.at_ {w W : World} {f : Nat} {args : Array Value} {v : Value} (h : From w f args v) (hb : Below w.heap.size w W) : Calls Try.prog f args W fun e W' => e = .returned v ∧ Below w.heap.size w W' := h W hb
theorem From.below {w : World} {f : Nat} {args : Array Value} {v : Value} (h : ∀ W, Below w.heap.size w W → Calls Try.prog f args W fun e W' => e = .returned v ∧ Below W.heap.size W W') : From w f args v :=
  fun W hb => (h W hb).mono fun e W' ⟨he, hb'⟩ => ⟨he, hb.trans (hb'.mono hb.size)⟩
theorem From.same {w : World} {f : Nat} {args : Array Value} {v : Value} (h : ∀ W, Below w.heap.size w W → Calls Try.prog f args W fun e W' => e = .returned v ∧ W = W') : From w f args v :=
  fun W hb => (h W hb).mono fun e W' ⟨he, hb'⟩ => ⟨he, hb' ▸ hb⟩
end Go.Proofs.Ytlkabghpcjlohaa
