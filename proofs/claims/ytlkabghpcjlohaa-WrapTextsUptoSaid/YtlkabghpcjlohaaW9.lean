/- Walk of the reference of layer 20: Wrap. -/
import Derived.Test.YtlkabghpcjlohaaW8
namespace Go.Proofs.Ytlkabghpcjlohaa
set_option linter.unusedVariables false
set_option linter.unusedSimpArgs false
open Go.RowKit Go.Lib

theorem dec_ne (y : List UInt8) : (!y.isEmpty) = decide (y ≠ []) := by cases y <;> simp

set_option maxHeartbeats 16000000 in
set_option maxRecDepth 100000 in
theorem refWrap_any (s : ByteArray) (width : Int) (w : World) (hw0 : -9223372036854775808 ≤ width) (hw1 : width ≤ 9223372036854775807) :
    Calls Try.prog 25 #[.string s, .int .i64 width] w fun e w' => ∃ v, e = .returned (.tuple #[v, .int .i64 (wrapE s.size width)]) ∧ w'.ownsRow w.heap.size 9 1 v (wrapR (bl s) width).length (strs (wrapR (bl s) width)) ∧ Below w.heap.size w w' := by
  by_cases hA : width < 1
  · have e1 : wrapE s.size width = 200 := by unfold wrapE; rw [if_pos (.inl hA)]
    have e2 : wrapR (bl s) width = [] := by unfold wrapR; rw [bl_length, e1, if_neg (by decide)]
    rw [e1, e2]
    go_enter Try.func25, Try.ntmps25
    go_wp2
    go_ret2
    exact ⟨_, rfl, World.ownsRow_nil _ _ _ _, Below.refl _ _⟩
  have hA1 := hA; clear hA
  by_cases hA : 120 < width
  · have e1 : wrapE s.size width = 200 := by unfold wrapE; rw [if_pos (.inr hA)]
    have e2 : wrapR (bl s) width = [] := by unfold wrapR; rw [bl_length, e1, if_neg (by decide)]
    rw [e1, e2]
    go_enter Try.func25, Try.ntmps25
    go_wp2
    go_ret2
    exact ⟨_, rfl, World.ownsRow_nil _ _ _ _, Below.refl _ _⟩
  have hA2 := hA; clear hA
  by_cases hA : 65536 < s.size
  · have e1 : wrapE s.size width = 1 := by unfold wrapE; rw [if_neg (by omega), if_pos hA]
    have e2 : wrapR (bl s) width = [] := by unfold wrapR; rw [bl_length, e1, if_neg (by decide)]
    rw [e1, e2]
    have hA4 : (65536 : Int) < (s.size : Int) := by omega
    go_enter Try.func25, Try.ntmps25
    go_wp2
    go_ret2
    exact ⟨_, rfl, World.ownsRow_nil _ _ _ _, Below.refl _ _⟩
  have hA3 := hA; clear hA
  obtain ⟨i0, hi, hz0, hz1, hz2⟩ := info_parts w_infoStr
  have e1 : wrapE s.size width = 0 := by unfold wrapE; rw [if_neg (by omega), if_neg hA3]
  have e2 : wrapR (bl s) width = wrapL width (wordsL (bl s)) := by unfold wrapR; rw [bl_length, e1, if_pos rfl]
  rw [e1, e2]
  clear e1 e2
  have hw := fun x hx => (words_word blank (bl s) x hx).1
  have htot := words_total blank (bl s)
  rw [bl_length] at htot
  change (wordsL (bl s)).flatten.length ≤ s.size at htot
  change ∀ x ∈ wordsL (bl s), x ≠ [] at hw
  have HC := Lib.hid (fun W => refWords_any s W (by omega))
  have hwn := flat_count_le _ hw
  generalize wordsL (bl s) = ws at *
  have HWN := Lib.hid hw; clear hw
  have hA4 : (s.size : Int) ≤ 65536 := by omega
  go_enter Try.func25, Try.ntmps25
  go_wp2_with (go_at_call 42; refine (HC.out _).mono ?_; rintro e w1 ⟨v1, rfl, hown0, hb1⟩; obtain ⟨A, c, rfl⟩ := w_form hown0)
  have hsl := Sl.of_own hown0
  have hs1 := hb1.size
  go_loopw [6, 7, 8, 10, 11, 12] (fun u6 u7 u8 u10 _ _ wr => ∃ (k : Nat) (b : Bool), u10 = .int .i64 k ∧ k ≤ ws.length ∧ u8 = .bool b ∧ Hid (b = decide ((wrapS width (ws.take k)).2 ≠ [])) ∧ u7 = .string ⟨(wrapS width (ws.take k)).2.toArray⟩ ∧
    wr.ownsRow w1.heap.size 9 1 u6 (wrapS width (ws.take k)).1.length (strs (wrapS width (ws.take k)).1) ∧ Below w1.heap.size w1 wr) (fun _ _ _ u10 _ _ _ => ws.length - (intOf u10).toNat)
  case atStart => exact ⟨0, false, rfl, Nat.zero_le _, rfl, Lib.hid (by simp [wrapS]), rfl, World.ownsRow_nil _ _ _ _, Below.refl _ _⟩
  case round =>
    obtain ⟨k, b, rfl, hk, rfl, hb, rfl, hown, hbw⟩ := hrel
    have hsz := hbw.size
    have hbd := wrapS_bounds width (by omega) ws HWN.out k hk
    have hft := flat_take_le ws k
    by_cases hlt : k < ws.length
    · obtain ⟨ad, e0, _, g1⟩ := (hsl.below hbw).cell (k := k) (by simpa using hlt)
      obtain rfl := e0
      rw [List.getElem_map] at g1
      change wr.cell? (ad.add k) = some (.string ⟨(ws[k]'hlt).toArray⟩) at g1
      have hxl := flat_mem_le ws (ws[k]'hlt) (List.getElem_mem hlt)
      have hss := wrapS_succ width ws k hlt
      have hcx := colsL_le (ws[k]'hlt)
      generalize hst : wrapS width (ws.take k) = st at *
      clear hst
      generalize (ws[k]'hlt) = x at *
      have i1 : (0 : Int) ≤ (k : Int) := by omega
      have i2 : (k : Int) < (ws.length : Int) := by omega
      have cx := fun W => refColumns_any ⟨x.toArray⟩ W (by rw [wz]; omega)
      rw [bl_mk] at cx
      have CX := Lib.hid cx; clear cx
      have hzx := wz x
      have hz2' := wz st.2
      by_cases hop : st.2 = []
      · have hb' : b = false := by rw [hb.out]; simp [hop]
        subst hb'
        obtain ⟨L, l2⟩ := st
        simp only at hop hss hb hown hbd hz2'
        subst hop
        unfold stepW at hss
        rw [if_neg (fun h => h.1 rfl)] at hss
        have hL : Hid (L = L ++ optL []) := Lib.hid (by simp [optL])
        have HS := Lib.hid hss; clear hss
        obtain ⟨A6, c6, rfl⟩ := w_form hown
        have hln : L.length ≤ 65536 := by omega
        go_wp2
        go_loopw [6, 11, 12] (fun u6 u11 _ wr => ∃ (y : List UInt8) (ps : List (List UInt8)), u11 = .string ⟨y.toArray⟩ ∧ y.length + ps.length ≤ x.length ∧ Hid (cuts width x = (ps ++ (cuts width y).1, (cuts width y).2)) ∧ wr.ownsRow w1.heap.size 9 1 u6 (L ++ ps).length (strs (L ++ ps)) ∧ Below w1.heap.size w1 wr) (fun _ u11 _ _ => szOf u11)
        case atStart => exact ⟨x, [], rfl, by simp, Lib.hid (by simp), by simpa using hown, hbw⟩
        case round =>
          obtain ⟨y, ps, rfl, hyl, hcu, hown3, hbw3⟩ := hrel
          have hsz3 := hbw3.size
          have hlen3 : (L ++ ps).length ≤ 131072 := by rw [List.length_append]; omega
          have hcy := colsL_le y
          have hyz := wz y
          have cy := fun W => refColumns_any ⟨y.toArray⟩ W (by rw [wz]; omega)
          rw [bl_mk] at cy
          have CY := Lib.hid cy; clear cy
          by_cases hin : width < (colsL y : Int)
          · have hp1 := piece_pos y width hin (by omega)
            have hp2 := pieceL_len y width
            have hstep := cuts_step (by omega) hin
            have hpz := wz (pieceL y width)
            have cP := fun W => refPiece_any ⟨y.toArray⟩ width W (by omega) (by omega) (by rw [wz]; omega)
            rw [bl_mk] at cP
            have hdr := drop_mk y (pieceL y width).length
            rw [wz] at hdr
            have hdl : (y.drop (pieceL y width).length).length = y.length - (pieceL y width).length := List.length_drop
            have hcu2 : Hid (cuts width x = ((ps ++ [pieceL y width]) ++ (cuts width (y.drop (pieceL y width).length)).1, (cuts width (y.drop (pieceL y width).length)).2)) := Lib.hid (by rw [hcu.out, hstep]; simp)
            have hso : Hid (szOf (.string ((⟨y.toArray⟩ : ByteArray).extract (pieceL y width).length y.length)) < szOf (.string ⟨y.toArray⟩)) := Lib.hid (by rw [hdr]; simp only [szOf]; rw [wz, wz]; omega)
            have hss3 := w_strs (L ++ ps) (pieceL y width)
            rw [List.append_assoc] at hss3
            have HSS := Lib.hid hss3; clear hss3
            have HDR := Lib.hid hdr; clear hdr
            have CP := Lib.hid cP; clear cP
            clear hstep hcu
            generalize y.drop (pieceL y width).length = y' at *
            generalize hpp : pieceL y width = p at *
            clear hpp
            have q1 : (0 : Int) ≤ ((⟨p.toArray⟩ : ByteArray).size : Int) := by omega
            have q2 : ((⟨p.toArray⟩ : ByteArray).size : Int) ≤ ((⟨y.toArray⟩ : ByteArray).size : Int) := by omega
            go_wp2_with (first
              | (go_at_call 52; refine (CY.out _).mono ?_; rintro e w6 ⟨rfl, hb6⟩; have hown7 := w_below hown3 hb6; have hbw7 : Below w1.heap.size w1 w6 := hbw3.trans (hb6.mono hsz3); have hsz7 := hbw7.size)
              | (go_at_call 69; refine (CP.out _).mono ?_; rintro e w4 ⟨rfl, hb4⟩; have hown4 := w_below hown7 hb4; have hbw4 : Below w1.heap.size w1 w4 := hbw7.trans (hb4.mono hsz7); have hsz4 := hbw4.size)
              | (at_builtin; refine wpList_append_own _ rfl (.tmp 61) (.tmp 63) 25 rfl w1.heap.size 9 i0 (.string ⟨#[]⟩) 1 16 Try.underlying25 hi hz0 hz1 hz2 rfl (by decide) _ _ _ rfl (hown4.alloc _) ⟨w4.heap.size, 0, none⟩ 1 1 [.string ⟨p.toArray⟩] rfl rfl (cell_one_new _ _ _) (by simp [Value.oneCell']) (by unfold maxLen; omega) (by omega) (by simp; omega) ?_; intro v' w5 hown5 hgrow _; have hbw5 : Below w1.heap.size w1 w5 := (hbw4.alloc hbw4.size _).grown hgrow (by simp; omega) (fun j hj => (hown4.lt j hj).1); have hsz5 := hbw5.size))
            refine ⟨⟨y', ps ++ [p], by rw [HDR.out], by rw [List.length_append, List.length_singleton]; omega, hcu2, ?_, hbw5⟩, hso.out⟩
            rw [HSS.out, show (L ++ (ps ++ [p])).length = (L ++ ps).length + 1 by simp; omega]
            exact hown5
          · have hdone := cuts_done hin
            have hcu3 : cuts width x = (ps, y) := by rw [hcu.out, hdone]; simp
            have hS2 := HS.out
            rw [hcu3, ← hL.out] at hS2
            have hS3 := Lib.hid hS2; clear hS2 hcu3 hdone hcu
            go_wp2_with (go_at_call 52; refine (CY.out _).mono ?_; rintro e w6 ⟨rfl, hb6⟩; have hown7 := w_below hown3 hb6; have hbw7 : Below w1.heap.size w1 w6 := hbw3.trans (hb6.mono hsz3))
            refine ⟨⟨k + 1, !y.isEmpty, by go_num, by omega, rfl, Lib.hid (by rw [hS3.out]; exact dec_ne y), by rw [hS3.out], by rw [hS3.out]; exact hown7, hbw7⟩, by simp [intOf]; omega⟩
      · have hst2 : optL st.2 = [st.2] := by unfold optL; rw [if_neg hop]
        have hb' : b = true := by rw [hb.out]; simp [hop]
        subst hb'
        have hln : st.1.length + 1 ≤ 65536 := by
          rw [hst2] at hbd
          have := hbd.1
          simp only [List.length_singleton] at this
          omega
        have hsl2 := hbd.2
        have c2 := fun W => refColumns_any ⟨st.2.toArray⟩ W (by rw [wz]; omega)
        rw [bl_mk] at c2
        have C2 := Lib.hid c2; clear c2
        have hc2 := colsL_le st.2
        by_cases hj : (colsL st.2 : Int) + 1 + colsL x ≤ width
        · unfold stepW at hss
          rw [if_pos ⟨hop, hj⟩] at hss
          have HS := Lib.hid hss; clear hss
          have hcat : (⟨(st.2 ++ 32 :: x).toArray⟩ : ByteArray) = ⟨st.2.toArray⟩ ++ ⟨#[32]⟩ ++ ⟨x.toArray⟩ := by
            rw [show (⟨#[32]⟩ : ByteArray) = ⟨([32] : List UInt8).toArray⟩ from rfl, w_app, w_app, List.append_assoc]; rfl
          have HCAT := Lib.hid hcat; clear hcat
          generalize (⟨st.2.toArray⟩ : ByteArray) = X2 at *
          generalize (⟨x.toArray⟩ : ByteArray) = X at *
          have hone : (⟨#[32]⟩ : ByteArray).size = 1 := rfl
          have z1 : X2.size + (⟨#[32]⟩ : ByteArray).size ≤ 9223372036854775807 := by omega
          have z2 : (X2 ++ (⟨#[32]⟩ : ByteArray)).size + X.size ≤ 9223372036854775807 := by rw [ByteArray.size_append]; omega
          have hn := Below.refl wr.heap.size wr
          go_wp2_with (go_at_call 52; (first
            | ((with_reducible refine (C2.out _).mono ?_); rintro e w2 ⟨rfl, hb2⟩; have hn := hn.trans (hb2.mono hn.size))
            | ((with_reducible refine (CX.out _).mono ?_); rintro e w3 ⟨rfl, hb3⟩; have hn := hn.trans (hb3.mono hn.size))))
          refine ⟨⟨k + 1, true, by go_num, by omega, rfl, Lib.hid (by rw [HS.out]; simp), ?_, ?_, hbw.trans (hn.mono hsz)⟩, by simp [intOf]; omega⟩
          · rw [HS.out]; exact congrArg Value.string HCAT.out.symm
          · rw [HS.out]; exact w_below hown hn
        · unfold stepW at hss
          rw [if_neg (fun h => hj h.2)] at hss
          have HS := Lib.hid hss; clear hss
          have hss4 := w_strs st.1 st.2
          have HS4 := Lib.hid hss4; clear hss4
          have hL : Hid (st.1 ++ [st.2] = st.1 ++ optL st.2) := Lib.hid (by rw [hst2])
          have hn := Below.refl wr.heap.size wr
          go_wp2_with (first
            | (go_at_call 52; (first
                | ((with_reducible refine (C2.out _).mono ?_); rintro e w2 ⟨rfl, hb2⟩; have hn := hn.trans (hb2.mono hn.size))
                | ((with_reducible refine (CX.out _).mono ?_); rintro e w3 ⟨rfl, hb3⟩; have hn := hn.trans (hb3.mono hn.size); have hown3 := w_below hown hn; have hbw3 := hbw.trans (hn.mono hsz); have hsz3 := hbw3.size)))
            | (at_builtin; refine wpList_append_own _ rfl (.tmp 50) (.tmp 52) 25 rfl w1.heap.size 9 i0 (.string ⟨#[]⟩) 1 16 Try.underlying25 hi hz0 hz1 hz2 rfl (by decide) _ _ _ rfl (hown3.alloc _) ⟨w3.heap.size, 0, none⟩ 1 1 [.string ⟨st.2.toArray⟩] rfl rfl (cell_one_new _ _ _) (by simp [Value.oneCell']) (by unfold maxLen; omega) (by omega) (by simp; omega) ?_; intro v' w5 hown5 hgrow _; have hbw5 : Below w1.heap.size w1 w5 := (hbw3.alloc hbw3.size _).grown hgrow (by simp; omega) (fun j hj => (hown3.lt j hj).1); obtain ⟨A6, c6, rfl⟩ := w_form hown5))
          have hown6 : w5.ownsRow w1.heap.size 9 1 (.slice A6 (st.1.length + 1) c6) (st.1 ++ [st.2]).length (strs (st.1 ++ [st.2])) := by
            rw [HS4.out, List.length_append]; exact hown5
          clear hown hbw hn hown5 hown3 hbw3 hsz3 hsz
          have hown := hown6
          have hbw := hbw5
          have hsz := hbw.size
          clear hown6 hbw5 hb HS4
          have hln2 : (st.1 ++ [st.2]).length ≤ 65536 := by rw [List.length_append, List.length_singleton]; omega
          generalize hLL : st.1 ++ [st.2] = L at *
          go_loopw [6, 11, 12] (fun u6 u11 _ wr => ∃ (y : List UInt8) (ps : List (List UInt8)), u11 = .string ⟨y.toArray⟩ ∧ y.length + ps.length ≤ x.length ∧ Hid (cuts width x = (ps ++ (cuts width y).1, (cuts width y).2)) ∧ wr.ownsRow w1.heap.size 9 1 u6 (L ++ ps).length (strs (L ++ ps)) ∧ Below w1.heap.size w1 wr) (fun _ u11 _ _ => szOf u11)
          case atStart => exact ⟨x, [], rfl, by simp, Lib.hid (by simp), by simpa using hown, hbw⟩
          case round =>
            obtain ⟨y, ps, rfl, hyl, hcu, hown3, hbw3⟩ := hrel
            have hsz3 := hbw3.size
            have hlen3 : (L ++ ps).length ≤ 131072 := by rw [List.length_append]; omega
            have hcy := colsL_le y
            have hyz := wz y
            have cy := fun W => refColumns_any ⟨y.toArray⟩ W (by rw [wz]; omega)
            rw [bl_mk] at cy
            have CY := Lib.hid cy; clear cy
            by_cases hin : width < (colsL y : Int)
            · have hp1 := piece_pos y width hin (by omega)
              have hp2 := pieceL_len y width
              have hstep := cuts_step (by omega) hin
              have hpz := wz (pieceL y width)
              have cP := fun W => refPiece_any ⟨y.toArray⟩ width W (by omega) (by omega) (by rw [wz]; omega)
              rw [bl_mk] at cP
              have hdr := drop_mk y (pieceL y width).length
              rw [wz] at hdr
              have hdl : (y.drop (pieceL y width).length).length = y.length - (pieceL y width).length := List.length_drop
              have hcu2 : Hid (cuts width x = ((ps ++ [pieceL y width]) ++ (cuts width (y.drop (pieceL y width).length)).1, (cuts width (y.drop (pieceL y width).length)).2)) := Lib.hid (by rw [hcu.out, hstep]; simp)
              have hso : Hid (szOf (.string ((⟨y.toArray⟩ : ByteArray).extract (pieceL y width).length y.length)) < szOf (.string ⟨y.toArray⟩)) := Lib.hid (by rw [hdr]; simp only [szOf]; rw [wz, wz]; omega)
              have hss3 := w_strs (L ++ ps) (pieceL y width)
              rw [List.append_assoc] at hss3
              have HSS := Lib.hid hss3; clear hss3
              have HDR := Lib.hid hdr; clear hdr
              have CP := Lib.hid cP; clear cP
              clear hstep hcu
              generalize y.drop (pieceL y width).length = y' at *
              generalize hpp : pieceL y width = p at *
              clear hpp
              have q1 : (0 : Int) ≤ ((⟨p.toArray⟩ : ByteArray).size : Int) := by omega
              have q2 : ((⟨p.toArray⟩ : ByteArray).size : Int) ≤ ((⟨y.toArray⟩ : ByteArray).size : Int) := by omega
              go_wp2_with (first
                | (go_at_call 52; refine (CY.out _).mono ?_; rintro e w6 ⟨rfl, hb6⟩; have hown7 := w_below hown3 hb6; have hbw7 : Below w1.heap.size w1 w6 := hbw3.trans (hb6.mono hsz3); have hsz7 := hbw7.size)
                | (go_at_call 69; refine (CP.out _).mono ?_; rintro e w4 ⟨rfl, hb4⟩; have hown4 := w_below hown7 hb4; have hbw4 : Below w1.heap.size w1 w4 := hbw7.trans (hb4.mono hsz7); have hsz4 := hbw4.size)
                | (at_builtin; refine wpList_append_own _ rfl (.tmp 61) (.tmp 63) 25 rfl w1.heap.size 9 i0 (.string ⟨#[]⟩) 1 16 Try.underlying25 hi hz0 hz1 hz2 rfl (by decide) _ _ _ rfl (hown4.alloc _) ⟨w4.heap.size, 0, none⟩ 1 1 [.string ⟨p.toArray⟩] rfl rfl (cell_one_new _ _ _) (by simp [Value.oneCell']) (by unfold maxLen; omega) (by omega) (by simp; omega) ?_; intro v' w5 hown5 hgrow _; have hbw5 : Below w1.heap.size w1 w5 := (hbw4.alloc hbw4.size _).grown hgrow (by simp; omega) (fun j hj => (hown4.lt j hj).1); have hsz5 := hbw5.size))
              refine ⟨⟨y', ps ++ [p], by rw [HDR.out], by rw [List.length_append, List.length_singleton]; omega, hcu2, ?_, hbw5⟩, hso.out⟩
              rw [HSS.out, show (L ++ (ps ++ [p])).length = (L ++ ps).length + 1 by simp; omega]
              exact hown5
            · have hdone := cuts_done hin
              have hcu3 : cuts width x = (ps, y) := by rw [hcu.out, hdone]; simp
              have hS2 := HS.out
              rw [hcu3, ← hL.out] at hS2
              have hS3 := Lib.hid hS2; clear hS2 hcu3 hdone hcu
              go_wp2_with (go_at_call 52; refine (CY.out _).mono ?_; rintro e w6 ⟨rfl, hb6⟩; have hown7 := w_below hown3 hb6; have hbw7 : Below w1.heap.size w1 w6 := hbw3.trans (hb6.mono hsz3))
              refine ⟨⟨k + 1, !y.isEmpty, by go_num, by omega, rfl, Lib.hid (by rw [hS3.out]; exact dec_ne y), by rw [hS3.out], by rw [hS3.out]; exact hown7, hbw7⟩, by simp [intOf]; omega⟩
    · obtain rfl : k = ws.length := by omega
      rw [List.take_length] at *
      obtain ⟨A6, c6, rfl⟩ := w_form hown
      have hwl : wrapL width ws = (wrapS width ws).1 ++ optL (wrapS width ws).2 := rfl
      generalize wrapS width ws = st at *
      by_cases hop : st.2 = []
      · have hb' : b = false := by rw [hb.out]; simp [hop]
        subst hb'
        rw [hop] at hwl
        have hwl2 : wrapL width ws = st.1 := by rw [hwl]; simp [optL]
        have HWL := Lib.hid hwl2; clear hwl hwl2
        go_wp2
        go_ret2
        exact ⟨_, rfl, by rw [HWL.out]; exact own_base hown (by omega), hb1.trans (hbw.mono (by omega))⟩
      · have hb' : b = true := by rw [hb.out]; simp [hop]
        subst hb'
        have hwl2 : wrapL width ws = st.1 ++ [st.2] := by rw [hwl]; unfold optL; rw [if_neg hop]
        have hss4 := w_strs st.1 st.2
        have HS4 := Lib.hid hss4; clear hss4
        have HWL := Lib.hid hwl2; clear hwl hwl2
        have hln : st.1.length ≤ 65536 := by omega
        go_wp2_with (at_builtin; refine wpList_append_own _ rfl (.tmp 73) (.tmp 75) 25 rfl w1.heap.size 9 i0 (.string ⟨#[]⟩) 1 16 Try.underlying25 hi hz0 hz1 hz2 rfl (by decide) _ _ _ rfl (hown.alloc _) ⟨wr.heap.size, 0, none⟩ 1 1 [.string ⟨st.2.toArray⟩] rfl rfl (cell_one_new _ _ _) (by simp [Value.oneCell']) (by unfold maxLen; omega) (by omega) (by simp; omega) ?_; intro v' w5 hown5 hgrow _)
        have hbw5 : Below w1.heap.size w1 w5 := (hbw.alloc hbw.size _).grown hgrow (by simp; omega) (fun j hj => (hown.lt j hj).1)
        go_ret2
        exact ⟨_, rfl, by rw [HWL.out, HS4.out, List.length_append]; exact own_base hown5 (by omega), hb1.trans (hbw5.mono (by omega))⟩
end Go.Proofs.Ytlkabghpcjlohaa
