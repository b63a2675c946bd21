/- The statements' own 'awake' of layer 1. -/
import Derived.Test.YtlkabghpcjlohaaDoorE1
namespace Go.Proofs.YtlkabghpcjlohaaDoor
set_option linter.unusedVariables false
set_option linter.unusedSimpArgs false
open Go.RowKit Go.Lib

set_option maxRecDepth 100000 in
theorem awake_next : nextL (bl ⟨#[233, 195, 169]⟩) 1 = (233, 2) := by decide +kernel
set_option maxRecDepth 100000 in
theorem awake_count : (chop (bl ⟨#[97, 255, 98]⟩)).length = 3 := by decide +kernel
theorem awake_enc : Utf8.encode 8364 = ⟨#[226, 130, 172]⟩ := by
  apply bl_inj
  rw [encode_bytes, enc_cases]
  decide +kernel

set_option maxHeartbeats 2000000 in
set_option maxRecDepth 100000 in
theorem awake_any (w : World) (hT : Tabs w) :
    Calls Tryd.prog 15 #[] w fun e w' => e = .returned (.bool true) ∧ Below w.heap.size w w' := by
  have cN := Next_any ⟨#[233, 195, 169]⟩ 1 w hT (by decide)
  rw [awake_next] at cN
  go_enter Tryd.func15, Tryd.ntmps15
  go_wp2_with (go_at_call 18; refine cN.mono ?_; rintro e w1 ⟨rfl, hb1⟩)
  clear cN
  have cE := Encode_any 8364 w1 (by decide) (by decide)
  rw [awake_enc] at cE
  go_wp2_with (go_at_call 16; refine cE.mono ?_; rintro e w2 ⟨rfl, rfl⟩)
  clear cE
  have cC := Count_any ⟨#[97, 255, 98]⟩ w1 (by decide)
  rw [awake_count] at cC
  go_wp2_with (go_at_call 19; refine cC.mono ?_; rintro e w3 ⟨rfl, hb3⟩)
  go_ret
  exact ⟨rfl, hb1.trans (hb3.mono hb1.size)⟩
end Go.Proofs.YtlkabghpcjlohaaDoor
