/- FoldTexts: for every text that holds at most 1048576 bytes the call returns true. -/
import Derived.Test.YtlkabghpcjlohaaF5
namespace Go.Proofs.Ytlkabghpcjlohaa
set_option linter.unusedVariables false
set_option linter.unusedSimpArgs false
open Go.RowKit Go.Lib

theorem Below.next {B : Nat} {w a b : World} (h : Below B w a) (hB : B ≤ w.heap.size) (k : Below a.heap.size a b) : Below B w b := h.trans (k.mono (by have := h.size; omega))
theorem From.refFold (w : World) (s : ByteArray) (p : Bool) (h : s.size ≤ 17592186044416) : From w 41 #[.string s, .bool p] (.string ⟨(foldL p (bl s)).toArray⟩) := .below fun W _ => refFold_any s p W h

theorem f_base {w : World} {B B' e n : Nat} {v : Value} {xs : List Value} (h : w.ownsRow B e 1 v n xs) (hB : B' ≤ B) : w.ownsRow B' e 1 v n xs := by
  refine ⟨h.1, ?_⟩
  rcases h.2 with h2 | ⟨g, cap, cur, hv, h3, h4⟩
  · exact .inl h2
  · exact .inr ⟨g, cap, cur, hv, Nat.le_trans hB h3, h4⟩

set_option maxHeartbeats 8000000 in
set_option maxRecDepth 100000 in
theorem foldTexts_any (s : ByteArray) (w : World) (hs : s.size ≤ 1048576) :
    Calls Try.prog 13 #[.string s] w fun e w' => e = .returned (.bool true) ∧ Below w.heap.size w w' := by
  obtain ⟨i0, hi, hz0, hz1, hz2⟩ := info_parts infoStr
  have hcnt := w_count s
  have HA : From w 32 #[] (.bool true) := .below fun W _ => awake2_any W
  have HW := Lib.hid (fun W => Words_any s W (by omega))
  have HR := Lib.hid (fun W => refWords_any s W (by omega))
  have HI : From w 43 #[.string s] _ := .below fun W _ => Initials_any s W (by omega)
  have HJ : From w 44 #[.string s] _ := .below fun W _ => refInitials_any s W (by omega)
  have HF1 := fun (W : World) => From.fold W s true (by omega)
  have HF2 := fun (W : World) => From.fold W s false (by omega)
  have HG1 := fun (W : World) => From.refFold W s true (by omega)
  have HG2 := fun (W : World) => From.refFold W s false (by omega)
  generalize (⟨(initialsL (bl s)).toArray⟩ : ByteArray) = ini at *
  generalize (⟨(foldL true (bl s)).toArray⟩ : ByteArray) = ft at *
  generalize (⟨(foldL false (bl s)).toArray⟩ : ByteArray) = ff at *
  generalize wordsL (bl s) = ws at *
  have htr : (decide (ws = ws)) = true := by simp
  have hb0 := Below.refl w.heap.size w
  go_enter Try.func13, Try.ntmps13
  go_wp2_with (first
    | (go_at_call 32; (with_reducible refine (HA.at_ (by assumption)).mono ?_); rintro e w1 ⟨rfl, hb1⟩)
    | (go_at_call 27; refine (HW.out _).mono ?_; rintro e w2 ⟨A, rfl, hA, hown, hb2⟩; have hbq := Below.refl w2.heap.size w2; have q1 := HF1 w2; have q2 := HF2 w2; have q3 := HG1 w2; have q4 := HG2 w2)
    | (go_at_call 40; (first | (with_reducible refine (q1.at_ (by assumption)).mono ?_) | (with_reducible refine (q2.at_ (by assumption)).mono ?_)); rintro e w3 ⟨rfl, hb3⟩)
    | (go_at_call 41; (first | (with_reducible refine (q3.at_ (by assumption)).mono ?_) | (with_reducible refine (q4.at_ (by assumption)).mono ?_)); rintro e w3 ⟨rfl, hb3⟩)
    | (go_at_call 42; refine (HR.out _).mono ?_; rintro e w4 ⟨v4, rfl, hown4, hb4⟩; have hbx := Below.next hb3 (Nat.le_refl _) hb4; have hs4 := Sl.of_own hown4; have hsl := ((Sl.of_own hown).below hbx).more hbx.size)
    | (go_at_call 26; (refine (SameTexts_any _ _ ws ws w4.heap.size w4 hsl hs4 (by omega) (by omega)).mono ?_); rintro e w5 ⟨rfl, hb5⟩))
  have hb7 : Below w2.heap.size w2 w5 := Below.next hbx (Nat.le_refl _) hb5
  have hb8 : Below w.heap.size w w5 := Below.next (Below.next hb1 (Nat.le_refl _) hb2) (Nat.le_refl _) hb7
  have hs1 := hb1.size
  have hown5 := f_base (own_below hown hb7) hs1
  clear hsl hs4 hown4 hb4 hb5 hbx hbq q1 q2 q3 q4 HF1 HF2 HG1 HG2 hb3 hown
  go_loopw [4, 30] (fun _ u30 wr => ∃ (k : Nat) (xs : List Value), u30 = .int .i64 k ∧ k ≤ ws.length ∧ wr.ownsRow w.heap.size 9 1 (.slice (some ⟨A, 0, none⟩) ws.length ws.length) ws.length xs ∧ Below w.heap.size w wr) (fun _ u30 _ => ws.length - (intOf u30).toNat)
  case atStart => exact ⟨0, _, rfl, Nat.zero_le _, hown5, hb8⟩
  case round =>
    obtain ⟨k, xs, rfl, hk, hownr, hbw⟩ := hrel
    have hsz := hbw.size
    have hxl : xs.length = ws.length := by simpa using hownr.1
    by_cases hlt : k < ws.length
    · have g1 : wr.cell? ⟨A, k, none⟩ = some (xs[k]'(by omega)) := by
        rw [hownr.cellAt k (by omega)]
        exact List.getElem?_eq_getElem (by omega)
      have f1 := hownr.frozenAt k
      have i1 : (0 : Int) ≤ (k : Int) := by omega
      have i2 : (k : Int) < (ws.length : Int) := by omega
      go_wp2
      exact ⟨⟨k + 1, _, by go_num, by omega, (hownr.stored k _).1, hbw.setCell (p := ⟨A, k, none⟩) (by simp only; omega) _⟩, by simp [intOf]; omega⟩
    · obtain rfl : k = ws.length := by omega
      go_wp2_with (first
        | (at_builtin; refine wpList_append_own _ rfl (.tmp 37) (.tmp 38) 25 rfl w.heap.size 9 i0 (.string ⟨#[]⟩) 1 16 Try.underlying25 hi hz0 hz1 hz2 rfl (by decide) _ _ _ rfl (hownr.alloc _) ⟨wr.heap.size, 0, none⟩ 1 1 [.string ⟨#[42]⟩] rfl rfl (cell_one_new _ _ _) (by simp [Value.oneCell']) (by unfold maxLen; omega) (by omega) (by simp; omega) ?_; intro v' w6 hown6 hgrow _; have hbw6 : Below w.heap.size w w6 := (hbw.alloc hbw.size _).grown hgrow (by simp; omega) (fun j hj => by have := (hownr.lt j hj).1; omega); obtain ⟨A6, c6, rfl⟩ := own_form hown6)
        | (go_at_call 27; refine (HW.out _).mono ?_; rintro e w7 ⟨A7, rfl, hA7, hown7, hb7⟩; have hbn := Below.next (show Below w.heap.size w _ by assumption) (Nat.le_refl _) hb7)
        | (go_at_call 42; refine (HR.out _).mono ?_; rintro e w9 ⟨v9, rfl, hown9, hb9⟩; have hbn9 := Below.next hbn (Nat.le_refl _) hb9; have hs9 := Sl.of_own hown9; have hsl9 := ((Sl.of_own hown7).below hb9).more hb9.size)
        | (go_at_call 26; (refine (SameTexts_any _ _ ws ws w9.heap.size w9 hsl9 hs9 (by omega) (by omega)).mono ?_); rintro e wa ⟨rfl, hba⟩; have hbnn := Below.next hbn9 (Nat.le_refl _) hba)
        | (go_at_call 43; (with_reducible refine (HI.at_ (by assumption)).mono ?_); rintro e wb ⟨rfl, hbb⟩)
        | (go_at_call 44; (with_reducible refine (HJ.at_ (by assumption)).mono ?_); rintro e wc ⟨rfl, hbc⟩))
      go_ret
      exact ⟨rfl, by assumption⟩
end Go.Proofs.Ytlkabghpcjlohaa
