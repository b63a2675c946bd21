/- Package fold's Words; the statements' own 'awake' of layer 2. -/
import Derived.Test.YtlkabghpcjlohaaF3
import Derived.Test.YtlkabghpcjlohaaP3
import Derived.Test.YtlkabghpcjlohaaS1
import Derived.Test.YtlkabghpcjlohaaShelf
namespace Go.Proofs.Ytlkabghpcjlohaa
set_option linter.unusedVariables false
set_option linter.unusedSimpArgs false
open Go.RowKit Go.Lib

def blank (r : Nat) : Bool := decide (cls (r : Int) = 3)
def wordsL (l : List UInt8) : List (List UInt8) := wordsP blank l

theorem blank_any (r : Int) (w : World) : Calls Try.prog 71 #[.int .i32 r] w fun e w' => e = .returned (.bool (decide (cls r = 3))) ∧ w = w' := by
  go_enter Try.func71, Try.ntmps71
  go_wp2_with (go_at_call 33; refine (Class_any r _).mono ?_; rintro e w1 ⟨rfl, rfl⟩)
  go_ret
  exact ⟨ret_b (by rw [Bool.eq_iff_iff]; simp), rfl⟩
theorem blank_grows (w : World) : PredGrows Try.prog 71 #[] blank w := fun W x hx hb =>
  (blank_any (x : Int) W).mono fun e w' ⟨he, hw⟩ => ⟨he, hw ▸ Below.refl _ _⟩

theorem fields_vals (p : Nat → Bool) (s : ByteArray) : (goFieldsP p s).map Value.string = strs (wordsP p (bl s)) := by
  unfold strs
  rw [← fields_words, List.map_map]
  apply List.map_congr_left
  intro x _
  exact (str_bl x).symm

set_option maxHeartbeats 2000000 in
set_option maxRecDepth 100000 in
theorem Words_any (s : ByteArray) (w : World) (hs : s.size ≤ 4294967296) :
    Calls Try.prog 27 #[.string s] w fun e w' => ∃ A, e = .returned (.slice (some ⟨A, 0, none⟩) (wordsL (bl s)).length (wordsL (bl s)).length) ∧ w.heap.size ≤ A ∧
      w'.ownsRow w.heap.size 9 1 (.slice (some ⟨A, 0, none⟩) (wordsL (bl s)).length (wordsL (bl s)).length) (wordsL (bl s)).length (strs (wordsL (bl s))) ∧ Below w.heap.size w w' := by
  have c := Try.strings_FieldsFunc_grows 71 #[] (enters_of Try.func71 (by kernel_rfl) rfl) blank s w hs (blank_grows w)
  have hl : (goFieldsP blank s).length = (wordsL (bl s)).length := by
    have := congrArg List.length (fields_words blank s)
    rwa [List.length_map] at this
  rw [fields_vals, hl] at c
  have HC := Lib.hid c; clear c hl
  go_enter Try.func27, Try.ntmps27
  go_wp2_with (go_at_call 70; refine HC.out.mono ?_; rintro e w1 ⟨A, rfl, hA, hown, hb⟩)
  go_ret
  exact ⟨A, rfl, hA, hown, hb⟩

theorem From.fold (w : World) (s : ByteArray) (p : Bool) (h : s.size ≤ 17592186044416) : From w 40 #[.string s, .bool p] (.string ⟨(foldL p (bl s)).toArray⟩) := .below fun W _ => Fold_any s p W h
theorem From.cls (w : World) (r : Int) : From w 33 #[.int .i32 r] (.int .i64 (cls r)) := .same fun W _ => Class_any r W
theorem From.upr (w : World) (r : Int) (h0 : -2147483648 ≤ r) (h1 : r ≤ 2147483647) : From w 35 #[.int .i32 r] (.int .i32 (upr r)) := .same fun W _ => Upper_any r W h0 h1
theorem From.plain (w : World) (r : Int) (h0 : -2147483648 ≤ r) (h1 : r ≤ 2147483647) : From w 37 #[.int .i32 r] (.string (plainB r)) := .same fun W _ => Plain_any r W h0 h1

theorem awake2_fold : (⟨(foldL true (bl ⟨#[67, 114, 195, 168, 109, 101, 33]⟩)).toArray⟩ : ByteArray) = ⟨#[67, 82, 69, 77, 69]⟩ := by
  apply bl_inj
  decide +kernel
theorem awake2_words : (wordsL (bl ⟨#[32, 97, 32, 98]⟩)).length = 2 := by decide +kernel

set_option maxHeartbeats 2000000 in
set_option maxRecDepth 100000 in
theorem awake2_any (w : World) : Calls Try.prog 32 #[] w fun e w' => e = .returned (.bool true) ∧ Below w.heap.size w w' := by
  have HF := From.fold w ⟨#[67, 114, 195, 168, 109, 101, 33]⟩ true (by decide)
  rw [awake2_fold] at HF
  have HC := From.cls w 113
  have hq : Go.Proofs.Ytlkabghpcjlohaa.cls 113 = 1 := by decide
  rw [hq] at HC
  clear hq
  have hW := fun W => Words_any ⟨#[32, 97, 32, 98]⟩ W (by decide)
  rw [awake2_words] at hW
  have HW := Lib.hid hW; clear hW
  have hb0 := Below.refl w.heap.size w
  go_enter Try.func32, Try.ntmps32
  go_wp2_with (first
    | (go_at_call 40; (with_reducible refine (HF.at_ (by assumption)).mono ?_); rintro e w1 ⟨rfl, hb1⟩)
    | (go_at_call 33; (with_reducible refine (HC.at_ (by assumption)).mono ?_); rintro e w2 ⟨rfl, hb2⟩)
    | (go_at_call 27; refine (HW.out _).mono ?_; rintro e w3 ⟨A, rfl, hA, hown, hb3⟩))
  go_ret
  exact ⟨rfl, hb2.trans (hb3.mono hb2.size)⟩
end Go.Proofs.Ytlkabghpcjlohaa
