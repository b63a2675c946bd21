/- WrapFewest: for every text that holds at most 1048576 bytes, and every number, the call returns true. -/
import Derived.Test.YtlkabghpcjlohaaW7
import Derived.Test.YtlkabghpcjlohaaA3
import Derived.Laws.BytesArg
namespace Go.Proofs.Ytlkabghpcjlohaa
set_option linter.unusedVariables false
set_option linter.unusedSimpArgs false
open Go.RowKit Go.Lib

theorem colSum_le (ws : List (List UInt8)) : ∀ i, i ≤ ws.length → colSum ws i ≤ i + 2 * ws.flatten.length ∧ colSum ws i ≤ i + 2 * (ws.take i).flatten.length
  | 0, _ => by simp [colSum]
  | i + 1, h => by
    have ih := (colSum_le ws i (by omega)).2
    have hlt : i < ws.length := by omega
    have h1 := colsL_le (ws[i]'hlt)
    have h2 := flat_take_le ws (i + 1)
    have h3 : (ws.take (i + 1)).flatten.length = (ws.take i).flatten.length + (ws[i]'hlt).length := by
      rw [List.take_succ_eq_append_getElem hlt, List.flatten_append, List.length_append, List.flatten_cons, List.flatten_nil, List.append_nil]
    rw [colSum_succ ws i hlt]
    omega
abbrev leastL (width : Int) (ws : List (List UInt8)) (i : Nat) : List Value := (List.range i).map fun j => Value.int .i64 (linesN width ws j : Nat)
theorem leastL_succ (width : Int) (ws : List (List UInt8)) (i : Nat) : leastL width ws (i + 1) = leastL width ws i ++ [.int .i64 (linesN width ws i : Nat)] := by
  simp [leastL, List.range_succ]
theorem f_info : (Try.prog.info? 3).map (fun i => (i.zero, i.size, i.bytes)) = some (some (.int .i64 0), 1, 8) := by kernel_rfl
theorem best_is (width : Int) (ws : List (List UInt8)) (hw : ∀ w ∈ ws, w ≠ []) (i : Nat) (hi0 : 0 < i) (hi : i ≤ ws.length) (hc : ∀ j (hj : j < ws.length), j < i → (colsL ws[j] : Int) ≤ width) (best : Nat)
    (h1 : ∀ k, k < i → (colSum ws i : Int) - colSum ws k - 1 ≤ width → best ≤ linesN width ws k + 1)
    (h2 : best = ws.length + 1 ∨ ∃ k, k < i ∧ (colSum ws i : Int) - colSum ws k - 1 ≤ width ∧ best = linesN width ws k + 1) : best = linesN width ws i := by
  obtain ⟨m, rfl⟩ : ∃ m, i = m + 1 := ⟨i - 1, by omega⟩
  obtain ⟨s, hs, e1, e2⟩ := linesN_succ width ws hw m (by omega) (fun j hj hji => hc j hj (by omega))
  have a := h1 s (by omega) e2
  have b := linesN_top width ws hw (m + 1) hi hc
  rcases h2 with h2 | ⟨k, hk, hsp, h2⟩
  · omega
  · have := linesN_le width ws hw k (m + 1) hk hi hc hsp
    omega

set_option maxHeartbeats 16000000 in
set_option maxRecDepth 100000 in
theorem wrapFewest_any (s : ByteArray) (width : Int) (w : World) (hs : s.size ≤ 1048576) (hw0 : -9223372036854775808 ≤ width) (hw1 : width ≤ 9223372036854775807) :
    Calls Try.prog 6 #[.string s, .int .i64 width] w fun e w' => e = .returned (.bool true) ∧ Below w.heap.size w w' := by
  have HA := Lib.hid (fun W => awake20_any W)
  have cW := fun W => Wrap_any s width W hw0 hw1
  have cC := fun W => Words_any s W (by omega)
  by_cases hE : wrapE s.size width = 0
  case neg =>
    have hE2 : wrapE s.size width = 200 ∨ wrapE s.size width = 1 := by
      revert hE
      unfold wrapE
      split
      · intro; exact .inl rfl
      · split
        · intro; exact .inr rfl
        · intro h; exact absurd rfl h
    have e2 : wrapR (bl s) width = [] := by unfold wrapR; rw [bl_length, if_neg hE]
    rw [e2] at cW
    generalize wrapE s.size width = er at *
    generalize wordsL (bl s) = ws at *
    have CW := Lib.hid cW; have CC := Lib.hid cC; clear cW cC e2
    rcases hE2 with rfl | rfl
    all_goals
      go_enter Try.func6, Try.ntmps6
      go_wp2_with (first
        | (go_at_call 21; refine (HA.out _).mono ?_; rintro e w1 ⟨rfl, hb1⟩)
        | (go_at_call 24; refine (CW.out _).mono ?_; rintro e w2 ⟨v, rfl, hown, hb2⟩; obtain ⟨A, c, rfl⟩ := w_form hown)
        | (go_at_call 27; refine (CC.out _).mono ?_; rintro e w3 ⟨A3, rfl, hA3, hown3, hb3⟩))
      go_ret
      exact ⟨rfl, hb1.trans ((hb2.trans (hb3.mono hb2.size)).mono hb1.size)⟩
  have hbd : 1 ≤ width ∧ width ≤ 120 ∧ s.size ≤ 65536 := by
    unfold wrapE at hE
    split at hE
    · omega
    · split at hE <;> omega
  have e2 : wrapR (bl s) width = wrapL width (wordsL (bl s)) := by unfold wrapR; rw [bl_length, if_pos hE]
  rw [hE, e2] at cW
  clear e2 hE
  have hw := fun x hx => (words_word blank (bl s) x hx).1
  have htot := words_total blank (bl s)
  rw [bl_length] at htot
  change (wordsL (bl s)).flatten.length ≤ s.size at htot
  change ∀ x ∈ wordsL (bl s), x ≠ [] at hw
  have hwn := flat_count_le _ hw
  have hln := wrap_total (p := blank) width (by omega) _ hw
  generalize wordsL (bl s) = ws at *
  by_cases h40 : 40 < ws.length
  · have h40' : (40 : Int) < (ws.length : Int) := by omega
    have CW := Lib.hid cW; have CC := Lib.hid cC; clear cW cC
    go_enter Try.func6, Try.ntmps6
    go_wp2_with (first
      | (go_at_call 21; refine (HA.out _).mono ?_; rintro e w1 ⟨rfl, hb1⟩)
      | (go_at_call 24; refine (CW.out _).mono ?_; rintro e w2 ⟨v, rfl, hown, hb2⟩; obtain ⟨A, c, rfl⟩ := w_form hown)
      | (go_at_call 27; refine (CC.out _).mono ?_; rintro e w3 ⟨A3, rfl, hA3, hown3, hb3⟩))
    go_ret
    exact ⟨rfl, hb1.trans ((hb2.trans (hb3.mono hb2.size)).mono hb1.size)⟩
  obtain ⟨i0, hi, hz0, hz1, hz2⟩ := info_parts f_info
  have hLN : Hid ((wrapL width ws).length = linesN width ws ws.length) := Lib.hid (by unfold linesN; rw [List.take_length])
  generalize wrapL width ws = LS at *
  have h40' : (ws.length : Int) ≤ 40 := by omega
  have CW := Lib.hid cW; have CC := Lib.hid cC; clear cW cC
  have HW := Lib.hid hw; clear hw
  have hn := Below.refl w.heap.size w
  go_enter Try.func6, Try.ntmps6
  go_wp2_with (first
    | (go_at_call 21; refine (HA.out _).mono ?_; rintro e w1 ⟨rfl, hb1⟩; have hn := hn.trans (hb1.mono hn.size))
    | (go_at_call 24; refine (CW.out _).mono ?_; rintro e w2 ⟨v, rfl, hown, hb2⟩; obtain ⟨A, c, rfl⟩ := w_form hown; have hn := hn.trans (hb2.mono hn.size))
    | (go_at_call 27; refine (CC.out _).mono ?_; rintro e w3 ⟨A3, rfl, hA3, hown3, hb3⟩; have hn := hn.trans (hb3.mono hn.size); have hsl := Sl.of_own hown3))
  clear hown hown3
  have hs3 := hn.size
  go_loopw [8, 9, 10, 11, 12, 13] (fun u8 u9 _ _ _ _ wr => ∃ i : Nat, u9 = .int .i64 i ∧ 1 ≤ i ∧ i ≤ ws.length + 1 ∧ Hid (∀ j (hj : j < ws.length), j < i - 1 → (colsL ws[j] : Int) ≤ width) ∧ wr.ownsRow w3.heap.size 3 1 u8 i (leastL width ws i) ∧ Below w3.heap.size w3 wr) (fun _ u9 _ _ _ _ _ => ws.length + 1 - (intOf u9).toNat)
  case atStart => exact ⟨1, rfl, Nat.le_refl _, by omega, Lib.hid (fun j hj h => by omega), by
    have := World.ownsRow_lit (base := w3.heap.size) (e := 3) (size := 1) w3 #[.int .i64 0] 1 (Nat.le_refl _) (by unfold maxLen; omega) rfl
    simpa [leastL, linesN_zero, List.range_succ] using this, (Below.refl _ _).alloc (Nat.le_refl _) _⟩
  case round =>
    obtain ⟨i, rfl, hi1, hi2, hcs, hown, hbw⟩ := hrel
    have hsz := hbw.size
    by_cases hile : i ≤ ws.length
    · have hcsl := (colSum_le ws i hile).1
      have k1 : (1 : Int) ≤ (i : Int) := by omega
      have k2 : (i : Int) ≤ (ws.length : Int) := by omega
      go_wp2
      go_loopw [10, 11, 12, 13] (fun u10 u11 u12 _ wr => ∃ (m best : Nat), u12 = .int .i64 ((m : Int) - 1) ∧ m ≤ i ∧ u11 = .int .i64 ((colSum ws i : Int) - colSum ws m - 1) ∧ u10 = .int .i64 (best : Nat) ∧ best ≤ ws.length + 1 ∧
        Hid (∀ j (hj : j < ws.length), m ≤ j → j < i → (colsL ws[j] : Int) ≤ width) ∧ Hid (∀ k, m ≤ k → k < i → (colSum ws i : Int) - colSum ws k - 1 ≤ width → best ≤ linesN width ws k + 1) ∧
        Hid (best = ws.length + 1 ∨ ∃ k, m ≤ k ∧ k < i ∧ (colSum ws i : Int) - colSum ws k - 1 ≤ width ∧ best = linesN width ws k + 1) ∧
        wr.ownsRow w3.heap.size 3 1 u8 i (leastL width ws i) ∧ Below w3.heap.size w3 wr) (fun _ _ u12 _ _ => (intOf u12 + 1).toNat)
      case atStart => exact ⟨i, ws.length + 1, rfl, Nat.le_refl _, by go_num, by go_num, Nat.le_refl _, Lib.hid (fun j hj h1 h2 => by omega), Lib.hid (fun k h1 h2 => by omega), Lib.hid (.inl rfl), hown, hbw⟩
      case round =>
        obtain ⟨m, best, rfl, hmi, rfl, rfl, hbl, hcm, hb1', hb2', hown2, hbw2⟩ := hrel
        have hsz2 := hbw2.size
        by_cases hm0 : m = 0
        · subst hm0
          have hbest := best_is width ws HW.out i (by omega) hile (fun j hj hji => hcm.out j hj (Nat.zero_le _) hji) best (fun k hk hsp => hb1'.out k (Nat.zero_le _) hk hsp) (by
            rcases hb2'.out with h | ⟨k, _, h2, h3, h4⟩
            · exact .inl h
            · exact .inr ⟨k, h2, h3, h4⟩)
          have HL := Lib.hid (leastL_succ width ws i)
          have HB := Lib.hid hbest; clear hbest
          go_wp2_with (at_builtin; refine wpList_append_own _ rfl (.tmp 76) (.tmp 78) 35 rfl w3.heap.size 3 i0 (.int .i64 0) 1 8 Try.underlying35 hi hz0 hz1 hz2 rfl (by decide) _ _ _ rfl (hown2.alloc _) ⟨wr.heap.size, 0, none⟩ 1 1 [.int .i64 (best : Nat)] rfl rfl (cell_one_new _ _ _) (by simp [Value.oneCell']) (by unfold maxLen; omega) (by omega) (by simp; omega) ?_; intro v' w5 hown5 hgrow _)
          have hbw5 : Below w3.heap.size w3 w5 := (hbw2.alloc hbw2.size _).grown hgrow (by simp; omega) (fun j hj => (hown2.lt j hj).1)
          refine ⟨⟨i + 1, by go_num, by omega, by omega, Lib.hid (fun j hj hji => hcm.out j hj (Nat.zero_le _) (by omega)), ?_, hbw5⟩, by simp [intOf]; omega⟩
          rw [HL.out, ← HB.out]
          exact hown5
        · obtain ⟨k, rfl⟩ : ∃ k, m = k + 1 := ⟨m - 1, by omega⟩
          have hkl : k < ws.length := by omega
          obtain ⟨ad, e0, _, g1⟩ := (hsl.below hbw2).cell (k := k) (by simpa using hkl)
          obtain rfl := Option.some.inj e0
          rw [List.getElem_map] at g1
          have g2 : wr.cell? ⟨A3, k, none⟩ = some (.string ⟨(ws[k]'hkl).toArray⟩) := by
            rw [← g1]; congr 1; simp [Addr.add]
          clear g1
          have hxl := flat_mem_le ws (ws[k]'hkl) (List.getElem_mem hkl)
          have hss := colSum_succ ws k hkl
          have hcx := colsL_le (ws[k]'hkl)
          have cx := fun W => Columns_any ⟨(ws[k]'hkl).toArray⟩ W (by rw [wz]; omega)
          rw [bl_mk] at cx
          have e1 : ((k + 1 : Nat) : Int) - 1 = (k : Int) := by omega
          rw [e1]
          clear e1
          have hmono := colSum_mono ws (k + 1) i hmi hile
          have hck : Hid (∀ q : Nat, colsL (ws[k]'hkl) = q → (q : Int) ≤ width → ∀ j (hj : j < ws.length), k ≤ j → j < i → (colsL ws[j] : Int) ≤ width) := Lib.hid (fun q hq hqw j hj h1 h2 => by
            rcases Nat.lt_or_ge k j with h3 | h3
            · exact hcm.out j hj h3 h2
            · obtain rfl : j = k := by omega
              rw [hq]; exact hqw)
          generalize hgq : colsL (ws[k]'hkl) = q at *
          have hck2 := hck.out q rfl
          clear hgq hck
          generalize (⟨(ws[k]'hkl).toArray⟩ : ByteArray) = X at *
          have CX := Lib.hid cx; clear cx
          have i1 : (0 : Int) ≤ (k : Int) := by omega
          have i2 : (k : Int) < (ws.length : Int) := by omega
          have hnl : linesN width ws k ≤ 41 ∨ True := .inr trivial
          by_cases hqw : (q : Int) ≤ width
          · have HCK := Lib.hid (hck2 hqw); clear hck2
            generalize hS : colSum ws i = S at *
            generalize hK1 : colSum ws (k + 1) = K1 at *
            have hcell : (leastL width ws i)[k]? = some (.int .i64 (linesN width ws k : Nat)) := by
              rw [List.getElem?_map, List.getElem?_range (by omega)]; rfl
            obtain ⟨g, cap, rfl, hgB⟩ := w_head hown2 (by omega)
            have hNk : linesN width ws k ≤ k := linesN_top width ws HW.out k (by omega) (fun j hj hjk => hcs.out j hj (by omega))
            by_cases hfe : (S : Int) - colSum ws k - 1 ≤ width
            · have hq1 : Hid (∀ k', k ≤ k' → k' < i → (S : Int) - colSum ws k' - 1 ≤ width → min best (linesN width ws k + 1) ≤ linesN width ws k' + 1) := Lib.hid (fun k' h1 h2 h3 => by
                rcases Nat.lt_or_ge k k' with h4 | h4
                · have := hb1'.out k' h4 h2 h3
                  omega
                · obtain rfl : k' = k := by omega
                  omega)
              have hq2 : Hid (min best (linesN width ws k + 1) = ws.length + 1 ∨ ∃ k', k ≤ k' ∧ k' < i ∧ (S : Int) - colSum ws k' - 1 ≤ width ∧ min best (linesN width ws k + 1) = linesN width ws k' + 1) := Lib.hid (by
                rcases Nat.lt_or_ge (linesN width ws k + 1) best with h4 | h4
                · exact .inr ⟨k, Nat.le_refl _, by omega, hfe, by omega⟩
                · rw [Nat.min_eq_left h4]
                  rcases hb2'.out with h5 | ⟨k', h6, h7, h8, h9⟩
                  · exact .inl h5
                  · exact .inr ⟨k', by omega, h7, h8, h9⟩)
              have hcol : (S : Int) - K1 - 1 + (1 + q) = (S : Int) - colSum ws k - 1 := by omega
              have HCOL := Lib.hid hcol; clear hcol
              have hfe2 : (S : Int) - K1 - 1 + (1 + q) ≤ width := by omega
              have hmn : Hid (min (best : Int) ((linesN width ws k : Int) + 1) = ((min best (linesN width ws k + 1) : Nat) : Int)) := Lib.hid (by omega)
              generalize linesN width ws k = N at *
              clear hfe
              go_wp2_with (go_at_call 28; refine (CX.out _).mono ?_; rintro e w6 ⟨rfl, hb6⟩; have hown6 := w_below hown2 hb6; have hcl : w6.cell? ⟨g, k, none⟩ = some (.int .i64 (N : Nat)) := (by rw [hown6.cellAt k (by omega)]; exact hcell))
              exact ⟨⟨k, min best (N + 1), rfl, by omega, congrArg (Value.int .i64) (by omega), congrArg (Value.int .i64) hmn.out, by omega, HCK, hq1, hq2, hown6, hbw2.trans (hb6.mono hsz2)⟩, by simp [intOf]⟩
            · have hq1 : Hid (∀ k', k ≤ k' → k' < i → (S : Int) - colSum ws k' - 1 ≤ width → best ≤ linesN width ws k' + 1) := Lib.hid (fun k' h1 h2 h3 => by
                rcases Nat.lt_or_ge k k' with h4 | h4
                · exact hb1'.out k' h4 h2 h3
                · obtain rfl : k' = k := by omega
                  exact absurd h3 hfe)
              have hq2 : Hid (best = ws.length + 1 ∨ ∃ k', k ≤ k' ∧ k' < i ∧ (S : Int) - colSum ws k' - 1 ≤ width ∧ best = linesN width ws k' + 1) := Lib.hid (by
                rcases hb2'.out with h5 | ⟨k', h6, h7, h8, h9⟩
                · exact .inl h5
                · exact .inr ⟨k', by omega, h7, h8, h9⟩)
              have hcol : (S : Int) - K1 - 1 + (1 + q) = (S : Int) - colSum ws k - 1 := by omega
              have HCOL := Lib.hid hcol; clear hcol
              have hfe2 : width < (S : Int) - K1 - 1 + (1 + q) := by omega
              clear hfe
              go_wp2_with (go_at_call 28; refine (CX.out _).mono ?_; rintro e w6 ⟨rfl, hb6⟩; have hown6 := w_below hown2 hb6)
              exact ⟨⟨k, best, rfl, by omega, congrArg (Value.int .i64) (by omega), rfl, hbl, HCK, hq1, hq2, hown6, hbw2.trans (hb6.mono hsz2)⟩, by simp [intOf]⟩
          · have hqw2 : width < (q : Int) := by omega
            go_wp2_with (go_at_call 28; refine (CX.out _).mono ?_; rintro e w6 ⟨rfl, hb6⟩)
            go_ret
            exact ⟨rfl, hn.trans ((hbw2.trans (hb6.mono hsz2)).mono hs3)⟩
    · obtain rfl : i = ws.length + 1 := by omega
      have hcell : (leastL width ws (ws.length + 1))[ws.length]? = some (.int .i64 (linesN width ws ws.length : Nat)) := by
        rw [List.getElem?_map, List.getElem?_range (by omega)]; rfl
      obtain ⟨g, cap, rfl, hgB⟩ := w_head hown (by omega)
      have hcl := hown.cellAt ws.length (by omega)
      rw [hcell, ← hLN.out] at hcl
      go_wp2
      go_ret
      exact ⟨rfl, hn.trans (hbw.mono hs3)⟩
end Go.Proofs.Ytlkabghpcjlohaa
