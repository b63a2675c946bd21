/- The statements' own 'awake' of layer 3. -/
import Derived.Test.YtlkabghpcjlohaaH8
namespace Go.Proofs.Ytlkabghpcjlohaa
set_option linter.unusedVariables false
set_option linter.unusedSimpArgs false
open Go.RowKit Go.Lib Go.Maps Go.Shelf Go.WideMaps

def xs3 : List (List UInt8) := [[67], [72], [67, 72]]
set_option maxRecDepth 100000 in
theorem xs3_new : newL xs3 = (0, 0) := by decide +kernel
set_option maxRecDepth 100000 in
theorem xs3_split : splitL xs3 (bl ⟨#[67, 72, 67]⟩) = .good [2, 0] := by decide +kernel

set_option maxHeartbeats 4000000 in
set_option maxRecDepth 100000 in
theorem awake3_any (w : World) : Calls Try.prog 45 #[] w fun e w' => e = .returned (.bool true) ∧ Below w.heap.size w w' := by
  have hb0 : Below w.heap.size w (w.alloc (.cells #[.string ⟨#[67]⟩, .string ⟨#[72]⟩, .string ⟨#[67, 72]⟩] 9)) := (Below.refl _ w).alloc (Nat.le_refl _) _
  have hsl : Sl (w.alloc (.cells #[.string ⟨#[67]⟩, .string ⟨#[72]⟩, .string ⟨#[67, 72]⟩] 9)) (w.heap.size + 1) (.slice (some ⟨w.heap.size, 0, none⟩) 3 3) (strs xs3) := by
    refine ⟨some ⟨w.heap.size, 0, none⟩, 3, rfl, Nat.le_refl _, fun _ => ⟨_, rfl, Nat.lt_succ_self _, fun j u hu => ?_⟩⟩
    have hadd : (⟨w.heap.size, 0, none⟩ : Addr).add j = ⟨w.heap.size, j, none⟩ := by unfold Addr.add; split <;> simp_all
    rw [hadd, World.cell?_alloc_new]
    have hj := (List.getElem?_eq_some_iff.1 hu).1
    have h3 : j < 3 := by simpa [xs3] using hj
    rw [← hu]
    match j, h3 with
    | 0, _ => rfl
    | 1, _ => rfl
    | 2, _ => rfl
  have cN := New_any (.slice (some ⟨w.heap.size, 0, none⟩) 3 3) xs3 (w.heap.size + 1) _ hsl (by simp) (by decide) (by decide)
  have CN := Lib.hid cN; have HB0 := Lib.hid hb0
  have hgood := new_good (xs := xs3) (by rw [xs3_new])
  have HG := Lib.hid hgood
  clear cN hb0 hsl hgood
  go_enter Try.func45, Try.ntmps45
  go_wp2_with (first
    | (go_at_call 47; refine CN.out.mono ?_; rintro e w1 ⟨hb1, ⟨hbad, _⟩ | ⟨_, p, o, hp, rfl, hO, hA⟩⟩; (exact absurd (by rw [xs3_new]) hbad); have HA := Lib.hid hA; have HO := Lib.hid hO; clear hA hO)
    | (go_at_call 56; refine (Split_any HA.out HG.out.lets HO.out ⟨#[67, 72, 67]⟩ (by decide) (by decide)).mono ?_; rintro e w2 ⟨hb2, hm⟩; rw [xs3_split] at hm; obtain ⟨v, rfl, hown⟩ := hm; obtain ⟨g, cap, rfl, hc0⟩ := own_cell' hown (k := 0) (u := .int .i64 2) rfl; obtain ⟨g', cap', e9, hc1⟩ := own_cell' hown (k := 1) (u := .int .i64 0) rfl; injection e9 with e91 e92 e93; injection e91 with e91; injection e91 with e91; subst e91; clear e92 e93))
  go_ret
  exact ⟨rfl, HB0.out.trans ((hb1.trans (hb2.mono hb1.size)).mono (by simp))⟩
end Go.Proofs.Ytlkabghpcjlohaa
