/- The statements' own 'awake' of layer 20. -/
import Derived.Test.YtlkabghpcjlohaaW5
namespace Go.Proofs.Ytlkabghpcjlohaa
set_option linter.unusedVariables false
set_option linter.unusedSimpArgs false
open Go.RowKit Go.Lib

theorem awake20_lines : wrapR (bl ⟨#[111, 110, 101, 32, 116, 119, 111, 32, 116, 104, 114, 101, 101]⟩) 7 = [[111, 110, 101, 32, 116, 119, 111], [116, 104, 114, 101, 101]] := by decide +kernel
theorem awake20_err : wrapE 13 7 = 0 := by decide +kernel

set_option maxHeartbeats 2000000 in
set_option maxRecDepth 100000 in
theorem awake20_any (w : World) : Calls Try.prog 21 #[] w fun e w' => e = .returned (.bool true) ∧ Below w.heap.size w w' := by
  have cW := fun W => Wrap_any ⟨#[111, 110, 101, 32, 116, 119, 111, 32, 116, 104, 114, 101, 101]⟩ 7 W (by omega) (by omega)
  rw [awake20_lines] at cW
  have e1 : wrapE (⟨#[111, 110, 101, 32, 116, 119, 111, 32, 116, 104, 114, 101, 101]⟩ : ByteArray).size 7 = 0 := awake20_err
  rw [e1] at cW
  clear e1
  have cD := fun W => Width_any 97 W (by omega) (by omega)
  have e2 : colW 97 = 1 := by decide
  rw [e2] at cD
  clear e2
  have CW := Lib.hid cW; have CD := Lib.hid cD; clear cW cD
  go_enter Try.func21, Try.ntmps21
  go_wp2_with (first
    | (go_at_call 24; refine (CW.out _).mono ?_; rintro e w1 ⟨v, rfl, hown, hb1⟩; obtain ⟨g, cap, rfl, hgB⟩ := w_head hown (by decide); have c0 := hown.cellAt 0 (by decide); have c1 := hown.cellAt 1 (by decide); simp only [strs, List.map_cons, List.map_nil, List.length_cons, List.length_nil, List.getElem?_cons_zero, List.getElem?_cons_succ] at c0 c1)
    | (go_at_call 22; refine (CD.out _).mono ?_; rintro e w2 ⟨rfl, hb2⟩))
  go_ret
  exact ⟨rfl, hb1.trans (hb2.mono hb1.size)⟩
end Go.Proofs.Ytlkabghpcjlohaa
