/- The statements' own 'awake' of layer 1. -/
import Derived.Test.YtlkabghpcjlohaaDoorE1
namespace Go.Proofs.YtlkabghpcjlohaaDoor
set_option linter.unusedVariables false
set_option linter.unusedSimpArgs false
open Go.RowKit Go.Lib

/-- Called in whatever world from w on, the function returns v and leaves what lay below w's end as it was. -/
def From (w : World) (f : Nat) (args : Array Value) (v : Value) : Prop :=
  ∀ W, Below w.heap.size w W → Calls Tryd.prog f args W fun e W' => e = .returned v ∧ Below w.heap.size w W'
theorem From.at_ {w W : World} {f : Nat} {args : Array Value} {v : Value} (h : From w f args v) (hb : Below w.heap.size w W) : Calls Tryd.prog f args W fun e W' => e = .returned v ∧ Below w.heap.size w W' := h W hb
theorem From.below {w : World} {f : Nat} {args : Array Value} {v : Value} (h : ∀ W, Below w.heap.size w W → Calls Tryd.prog f args W fun e W' => e = .returned v ∧ Below W.heap.size W W') : From w f args v :=
  fun W hb => (h W hb).mono fun e W' ⟨he, hb'⟩ => ⟨he, hb.trans (hb'.mono hb.size)⟩
theorem From.same {w : World} {f : Nat} {args : Array Value} {v : Value} (h : ∀ W, Below w.heap.size w W → Calls Tryd.prog f args W fun e W' => e = .returned v ∧ W = W') : From w f args v :=
  fun W hb => (h W hb).mono fun e W' ⟨he, hb'⟩ => ⟨he, hb' ▸ hb⟩
set_option maxRecDepth 100000 in
theorem awake_next : nextL (bl ⟨#[233, 195, 169]⟩) 1 = (233, 2) := by decide +kernel
set_option maxRecDepth 100000 in
theorem awake_count : (chop (bl ⟨#[97, 255, 98]⟩)).length = 3 := by decide +kernel
theorem awake_enc : Utf8.encode 8364 = ⟨#[226, 130, 172]⟩ := by
  apply bl_inj
  rw [encode_bytes, enc_cases]
  decide +kernel

set_option maxHeartbeats 2000000 in
set_option maxRecDepth 100000 in
theorem awake_any (w : World) (hT : Tabs w) :
    Calls Tryd.prog 15 #[] w fun e w' => e = .returned (.bool true) ∧ Below w.heap.size w w' := by
  have cN := Next_any ⟨#[233, 195, 169]⟩ 1 w hT (by decide)
  rw [awake_next] at cN
  go_enter Tryd.func15, Tryd.ntmps15
  go_wp2_with (go_at_call 18; refine cN.mono ?_; rintro e w1 ⟨rfl, hb1⟩)
  clear cN
  have cE := Encode_any 8364 w1 (by decide) (by decide)
  rw [awake_enc] at cE
  go_wp2_with (go_at_call 16; refine cE.mono ?_; rintro e w2 ⟨rfl, rfl⟩)
  clear cE
  have cC := Count_any ⟨#[97, 255, 98]⟩ w1 (by decide)
  rw [awake_count] at cC
  go_wp2_with (go_at_call 19; refine cC.mono ?_; rintro e w3 ⟨rfl, hb3⟩)
  go_ret
  exact ⟨rfl, hb1.trans (hb3.mono hb1.size)⟩
end Go.Proofs.YtlkabghpcjlohaaDoor
