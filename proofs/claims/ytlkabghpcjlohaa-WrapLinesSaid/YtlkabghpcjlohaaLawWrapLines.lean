/- WrapLines: for every text and every number the call returns true. -/
import Derived.Test.YtlkabghpcjlohaaW7
import Derived.Test.YtlkabghpcjlohaaW9
namespace Go.Proofs.Ytlkabghpcjlohaa
set_option linter.unusedVariables false
set_option linter.unusedSimpArgs false
open Go.RowKit Go.Lib

theorem wrapR_len (l : List UInt8) (width : Int) : (wrapR l width).length ≤ 65536 := by
  unfold wrapR
  split
  · rename_i h
    unfold wrapE at h
    split at h
    · omega
    · rename_i h1
      split at h
      · omega
      · have h2 := wrap_total (p := blank) width (by omega) (wordsL l) (fun x hx => (words_word blank l x hx).1)
        have h3 := words_total blank l
        change (wordsL l).flatten.length ≤ l.length at h3
        omega
  · simp

set_option maxHeartbeats 8000000 in
set_option maxRecDepth 100000 in
theorem wrapLines_any (s : ByteArray) (width : Int) (w : World) (hw0 : -9223372036854775808 ≤ width) (hw1 : width ≤ 9223372036854775807) :
    Calls Try.prog 4 #[.string s, .int .i64 width] w fun e w' => e = .returned (.bool true) ∧ Below w.heap.size w w' := by
  have HA := Lib.hid (fun W => awake20_any W)
  by_cases hbig : 3000 < s.size ∧ s.size ≤ 65536
  · have hbi : (3000 : Int) < (s.size : Int) := by omega
    have hbj : (s.size : Int) ≤ 65536 := by omega
    go_enter Try.func4, Try.ntmps4
    go_wp2_with (go_at_call 21; refine (HA.out _).mono ?_; rintro e w1 ⟨rfl, hb1⟩)
    go_ret
    exact ⟨rfl, hb1⟩
  have hln := wrapR_len (bl s) width
  have CW := Lib.hid (fun W => Wrap_any s width W hw0 hw1)
  have CR := Lib.hid (fun W => refWrap_any s width W hw0 hw1)
  have hE : wrapE s.size width = 200 ∨ wrapE s.size width = 1 ∨ wrapE s.size width = 0 := by
    unfold wrapE
    split
    · exact .inl rfl
    · split
      · exact .inr (.inl rfl)
      · exact .inr (.inr rfl)
  generalize wrapE s.size width = er at *
  generalize wrapR (bl s) width = LS at *
  have her : (er : Int) = er := rfl
  have htr : (decide (LS = LS)) = true := by simp
  have hszd : (s.size : Int) ≤ 3000 ∨ (65536 : Int) < (s.size : Int) := by omega
  have hn := Below.refl w.heap.size w
  rcases hszd with hsd | hsd
  · go_enter Try.func4, Try.ntmps4
    go_wp2_with (first
      | (go_at_call 21; refine (HA.out _).mono ?_; rintro e w1 ⟨rfl, hb1⟩; have hn := hn.trans (hb1.mono hn.size))
      | (go_at_call 24; refine (CW.out _).mono ?_; rintro e w2 ⟨v, rfl, hown, hb2⟩; have hn := hn.trans (hb2.mono hn.size); obtain ⟨A, c, rfl⟩ := w_form hown; have hsl := Sl.of_own hown)
      | (go_at_call 25; refine (CR.out _).mono ?_; rintro e w3 ⟨v3, rfl, hownR, hb3⟩; have hn := hn.trans (hb3.mono hn.size); have hs3 := Sl.of_own hownR; have hsl3 := (hsl.below hb3).more hb3.size)
      | (go_at_call 26; (refine (SameTexts_any _ _ LS LS w3.heap.size w3 hsl3 hs3 (by omega) (by omega)).mono ?_); rintro e w4 ⟨rfl, hb4⟩; have hn := hn.trans (hb4.mono hn.size)))
    have hown4 := w_below (w_below hown hb3) hb4
    have hownR4 := w_below hownR hb4
    have hs12 := hb1.size
    have hAl : ∀ g, A = some ⟨g, 0, none⟩ → g < w2.heap.size := fun g hg => (hown.lt g (by rw [hg]; rfl)).2
    clear hsl3 hs3 hsl hown hownR hb4 hb3
    go_loopw [9, 45] (fun _ u45 wr => ∃ (k : Nat) (xs : List Value), u45 = .int .i64 k ∧ k ≤ LS.length ∧ wr.ownsRow w1.heap.size 9 1 (.slice A LS.length c) LS.length xs ∧ wr.ownsRow w2.heap.size 9 1 v3 LS.length (strs LS) ∧ Below w.heap.size w wr) (fun _ u45 _ => LS.length - (intOf u45).toNat)
    case atStart => exact ⟨0, _, rfl, Nat.zero_le _, hown4, hownR4, hn⟩
    case round =>
      obtain ⟨k, xs, rfl, hk, hownr, hownq, hbw⟩ := hrel
      have hsz := hbw.size
      have hxl : xs.length = LS.length := by simpa using hownr.1
      by_cases hlt : k < LS.length
      · obtain ⟨g, cap, hv, hgB⟩ := w_head hownr (by omega)
        obtain ⟨rfl, rfl⟩ : A = some ⟨g, 0, none⟩ ∧ c = cap := by simpa using hv
        have hg2 := hAl g rfl
        have g1 : wr.cell? ⟨g, k, none⟩ = some (xs[k]'(by omega)) := by
          rw [hownr.cellAt k (by omega)]
          exact List.getElem?_eq_getElem (by omega)
        have f1 := hownr.frozenAt k
        have i1 : (0 : Int) ≤ (k : Int) := by omega
        have i2 : (k : Int) < (LS.length : Int) := by omega
        go_wp2
        exact ⟨⟨k + 1, _, by go_num, by omega, (hownr.stored k _).1, ownsRow_setCell_below hownq hg2 _, hbw.setCell (p := ⟨g, k, none⟩) (by simp only; omega) _⟩, by simp [intOf]; omega⟩
      · obtain rfl : k = LS.length := by omega
        go_wp2_with (first
          | (go_at_call 24; refine (CW.out _).mono ?_; rintro e w6 ⟨v6, rfl, hown6, hb6⟩; have hbw6 := hbw.trans (hb6.mono hbw.size); have hs6 := Sl.of_own hown6; have hs7 := Sl.of_own (w_below hownq hb6))
          | (go_at_call 26; (refine (SameTexts_any _ _ LS LS w6.heap.size w6 hs6 hs7 (by omega) (by omega)).mono ?_); rintro e w7 ⟨rfl, hb7⟩; have hbw7 := hbw6.trans (hb7.mono hbw6.size)))
        go_ret
        exact ⟨rfl, hbw7⟩
  · go_enter Try.func4, Try.ntmps4
    go_wp2_with (first
      | (go_at_call 21; refine (HA.out _).mono ?_; rintro e w1 ⟨rfl, hb1⟩; have hn := hn.trans (hb1.mono hn.size))
      | (go_at_call 24; refine (CW.out _).mono ?_; rintro e w2 ⟨v, rfl, hown, hb2⟩; have hn := hn.trans (hb2.mono hn.size); obtain ⟨A, c, rfl⟩ := w_form hown; have hsl := Sl.of_own hown)
      | (go_at_call 25; refine (CR.out _).mono ?_; rintro e w3 ⟨v3, rfl, hownR, hb3⟩; have hn := hn.trans (hb3.mono hn.size); have hs3 := Sl.of_own hownR; have hsl3 := (hsl.below hb3).more hb3.size)
      | (go_at_call 26; (refine (SameTexts_any _ _ LS LS w3.heap.size w3 hsl3 hs3 (by omega) (by omega)).mono ?_); rintro e w4 ⟨rfl, hb4⟩; have hn := hn.trans (hb4.mono hn.size)))
    have hown4 := w_below (w_below hown hb3) hb4
    have hownR4 := w_below hownR hb4
    have hs12 := hb1.size
    have hAl : ∀ g, A = some ⟨g, 0, none⟩ → g < w2.heap.size := fun g hg => (hown.lt g (by rw [hg]; rfl)).2
    clear hsl3 hs3 hsl hown hownR hb4 hb3
    go_loopw [9, 45] (fun _ u45 wr => ∃ (k : Nat) (xs : List Value), u45 = .int .i64 k ∧ k ≤ LS.length ∧ wr.ownsRow w1.heap.size 9 1 (.slice A LS.length c) LS.length xs ∧ wr.ownsRow w2.heap.size 9 1 v3 LS.length (strs LS) ∧ Below w.heap.size w wr) (fun _ u45 _ => LS.length - (intOf u45).toNat)
    case atStart => exact ⟨0, _, rfl, Nat.zero_le _, hown4, hownR4, hn⟩
    case round =>
      obtain ⟨k, xs, rfl, hk, hownr, hownq, hbw⟩ := hrel
      have hsz := hbw.size
      have hxl : xs.length = LS.length := by simpa using hownr.1
      by_cases hlt : k < LS.length
      · obtain ⟨g, cap, hv, hgB⟩ := w_head hownr (by omega)
        obtain ⟨rfl, rfl⟩ : A = some ⟨g, 0, none⟩ ∧ c = cap := by simpa using hv
        have hg2 := hAl g rfl
        have g1 : wr.cell? ⟨g, k, none⟩ = some (xs[k]'(by omega)) := by
          rw [hownr.cellAt k (by omega)]
          exact List.getElem?_eq_getElem (by omega)
        have f1 := hownr.frozenAt k
        have i1 : (0 : Int) ≤ (k : Int) := by omega
        have i2 : (k : Int) < (LS.length : Int) := by omega
        go_wp2
        exact ⟨⟨k + 1, _, by go_num, by omega, (hownr.stored k _).1, ownsRow_setCell_below hownq hg2 _, hbw.setCell (p := ⟨g, k, none⟩) (by simp only; omega) _⟩, by simp [intOf]; omega⟩
      · obtain rfl : k = LS.length := by omega
        go_wp2_with (first
          | (go_at_call 24; refine (CW.out _).mono ?_; rintro e w6 ⟨v6, rfl, hown6, hb6⟩; have hbw6 := hbw.trans (hb6.mono hbw.size); have hs6 := Sl.of_own hown6; have hs7 := Sl.of_own (w_below hownq hb6))
          | (go_at_call 26; (refine (SameTexts_any _ _ LS LS w6.heap.size w6 hs6 hs7 (by omega) (by omega)).mono ?_); rintro e w7 ⟨rfl, hb7⟩; have hbw7 := hbw6.trans (hb7.mono hbw6.size)))
        go_ret
        exact ⟨rfl, hbw7⟩
end Go.Proofs.Ytlkabghpcjlohaa
