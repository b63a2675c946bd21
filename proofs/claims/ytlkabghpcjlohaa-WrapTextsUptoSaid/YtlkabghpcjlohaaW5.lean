/- Walks of package wrap: piece, Wrap. -/
import Derived.Test.YtlkabghpcjlohaaW4
import Derived.Test.YtlkabghpcjlohaaF4
import Derived.Laws.OwnMore
namespace Go.Proofs.Ytlkabghpcjlohaa
set_option linter.unusedVariables false
set_option linter.unusedSimpArgs false
open Go.RowKit Go.Lib

theorem wz (l : List UInt8) : (⟨l.toArray⟩ : ByteArray).size = l.length := by rw [← bl_length]
theorem w_app (a b : List UInt8) : (⟨a.toArray⟩ : ByteArray) ++ ⟨b.toArray⟩ = (⟨(a ++ b).toArray⟩ : ByteArray) := by apply bl_inj; simp [bl]
theorem w_strs (a : List (List UInt8)) (x : List UInt8) : strs (a ++ [x]) = strs a ++ [Value.string ⟨x.toArray⟩] := by simp [strs]
theorem w_infoStr : (Try.prog.info? 9).map (fun i => (i.zero, i.size, i.bytes)) = some (some (.string ⟨#[]⟩), 1, 16) := by kernel_rfl
theorem w_form {w : World} {B e n : Nat} {v : Value} {xs : List Value} (h : w.ownsRow B e 1 v n xs) : ∃ A c, v = .slice A n c := by
  obtain ⟨A, c, hv, _⟩ := Sl.of_own h
  have hl : xs.length = n := by simpa using h.1
  rw [hl] at hv
  exact ⟨A, c, hv⟩
theorem w_below {w w' : World} {B e n : Nat} {v : Value} {xs : List Value} (h : w.ownsRow B e 1 v n xs) (hb : Below w.heap.size w w') : w'.ownsRow B e 1 v n xs :=
  h.kept (row := none) ⟨hb.os, hb.tape, hb.output, hb.size, fun k hk _ => hb.block k hk⟩ (by
    rcases Classical.em (v.ownBlock = none) with h1 | h1
    · exact .inl h1
    · exact .inr h1)
theorem w_head {w : World} {B e n : Nat} {v : Value} {xs : List Value} (h : w.ownsRow B e 1 v n xs) (hn : 0 < n) : ∃ g cap, v = .slice (some ⟨g, 0, none⟩) n cap ∧ B ≤ g := by
  rcases h.2 with ⟨hv, h0⟩ | ⟨g, cap, cur, hv, hB, _⟩
  · omega
  · exact ⟨g, cap, hv, hB⟩

theorem own_base {w : World} {B B' e n : Nat} {v : Value} {xs : List Value} (h : w.ownsRow B e 1 v n xs) (hB : B' ≤ B) : w.ownsRow B' e 1 v n xs := by
  refine ⟨h.1, ?_⟩
  rcases h.2 with h2 | ⟨g, cap, cur, hv, h3, h4⟩
  · exact .inl h2
  · exact .inr ⟨g, cap, cur, hv, Nat.le_trans hB h3, h4⟩

set_option maxHeartbeats 2000000 in
set_option maxRecDepth 100000 in
theorem piece_any (s : ByteArray) (n : Int) (w : World) (hn0 : -9223372036854775808 ≤ n) (hn1 : n ≤ 9223372036854775807) (hs : s.size ≤ 17592186044416) :
    Calls Try.prog 68 #[.string s, .int .i64 n] w fun e w' => e = .returned (.string ⟨(pieceL (bl s) n).toArray⟩) ∧ Below w.heap.size w w' := by
  have l1 := fit_len (bl s) n
  rw [bl_length] at l1
  have F1 := Lib.hid (fun W => Fit_any s n W hn0 hn1 hs)
  have F2 := Lib.hid (fun W => Fit_any s 2 W (by omega) (by omega) hs)
  have cC := fun W => Columns_any ⟨(fitL (bl s) n).toArray⟩ W (by rw [wz]; omega)
  rw [bl_mk] at cC
  have hP : Hid ((0 < colsL (fitL (bl s) n) → pieceL (bl s) n = fitL (bl s) n) ∧ (¬ 0 < colsL (fitL (bl s) n) → pieceL (bl s) n = fitL (bl s) 2)) := Lib.hid ⟨fun h => by unfold pieceL; rw [if_pos h], fun h => by unfold pieceL; rw [if_neg h]⟩
  generalize colsL (fitL (bl s) n) = q at *
  have CC := Lib.hid cC; clear cC
  by_cases hq : 0 < q
  · have E := Lib.hid (hP.out.1 hq); clear hP
    have hq1 : (0 : Int) < (q : Int) := by omega
    go_enter Try.func68, Try.ntmps68
    go_wp2_with (first
      | (go_at_call 29; refine (F1.out _).mono ?_; rintro e w1 ⟨rfl, hb1⟩)
      | (go_at_call 28; refine (CC.out _).mono ?_; rintro e w2 ⟨rfl, hb2⟩))
    go_ret
    exact ⟨ret_s (by rw [E.out]), hb1.trans (hb2.mono hb1.size)⟩
  · have E := Lib.hid (hP.out.2 hq); clear hP
    obtain rfl : q = 0 := by omega
    go_enter Try.func68, Try.ntmps68
    go_wp2_with (first
      | (go_at_call 29; (first | ((with_reducible refine (F1.out _).mono ?_); rintro e w1 ⟨rfl, hb1⟩) | ((with_reducible refine (F2.out _).mono ?_); rintro e w3 ⟨rfl, hb3⟩)))
      | (go_at_call 28; refine (CC.out _).mono ?_; rintro e w2 ⟨rfl, hb2⟩))
    go_ret
    exact ⟨ret_s (by rw [E.out]), hb1.trans ((hb2.trans (hb3.mono hb2.size)).mono hb1.size)⟩

def szOf : Value → Nat
  | .string s => s.size
  | _ => 0
def wrapE (size : Nat) (width : Int) : Int := if width < 1 ∨ 120 < width then 200 else if 65536 < size then 1 else 0
def wrapR (l : List UInt8) (width : Int) : List (List UInt8) := if wrapE l.length width = 0 then wrapL width (wordsL l) else []
theorem wrapS_succ (width : Int) (ws : List (List UInt8)) (k : Nat) (h : k < ws.length) : wrapS width (ws.take (k + 1)) = stepW width (wrapS width (ws.take k)) (ws[k]'h) := by
  rw [List.take_succ_eq_append_getElem h, wrapS_snoc]
theorem drop_mk (y : List UInt8) (n : Nat) : (⟨y.toArray⟩ : ByteArray).extract n (⟨y.toArray⟩ : ByteArray).size = (⟨(y.drop n).toArray⟩ : ByteArray) := by
  apply bl_inj
  rw [bl_from, bl_mk, bl_mk]

set_option maxHeartbeats 16000000 in
set_option maxRecDepth 100000 in
theorem Wrap_any (s : ByteArray) (width : Int) (w : World) (hw0 : -9223372036854775808 ≤ width) (hw1 : width ≤ 9223372036854775807) :
    Calls Try.prog 24 #[.string s, .int .i64 width] w fun e w' => ∃ v, e = .returned (.tuple #[v, .int .i64 (wrapE s.size width)]) ∧ w'.ownsRow w.heap.size 9 1 v (wrapR (bl s) width).length (strs (wrapR (bl s) width)) ∧ Below w.heap.size w w' := by
  by_cases hA : width < 1
  · have e1 : wrapE s.size width = 200 := by unfold wrapE; rw [if_pos (.inl hA)]
    have e2 : wrapR (bl s) width = [] := by unfold wrapR; rw [bl_length, e1, if_neg (by decide)]
    rw [e1, e2]
    go_enter Try.func24, Try.ntmps24
    go_wp2
    go_ret2
    exact ⟨_, rfl, World.ownsRow_nil _ _ _ _, Below.refl _ _⟩
  by_cases hA2 : 120 < width
  · have e1 : wrapE s.size width = 200 := by unfold wrapE; rw [if_pos (.inr hA2)]
    have e2 : wrapR (bl s) width = [] := by unfold wrapR; rw [bl_length, e1, if_neg (by decide)]
    rw [e1, e2]
    go_enter Try.func24, Try.ntmps24
    go_wp2
    go_ret2
    exact ⟨_, rfl, World.ownsRow_nil _ _ _ _, Below.refl _ _⟩
  by_cases hA3 : 65536 < s.size
  · have e1 : wrapE s.size width = 1 := by unfold wrapE; rw [if_neg (by omega), if_pos hA3]
    have e2 : wrapR (bl s) width = [] := by unfold wrapR; rw [bl_length, e1, if_neg (by decide)]
    rw [e1, e2]
    have hA4 : (65536 : Int) < (s.size : Int) := by omega
    go_enter Try.func24, Try.ntmps24
    go_wp2
    go_ret2
    exact ⟨_, rfl, World.ownsRow_nil _ _ _ _, Below.refl _ _⟩
  obtain ⟨i0, hi, hz0, hz1, hz2⟩ := info_parts w_infoStr
  have e1 : wrapE s.size width = 0 := by unfold wrapE; rw [if_neg (by omega), if_neg hA3]
  have e2 : wrapR (bl s) width = wrapL width (wordsL (bl s)) := by unfold wrapR; rw [bl_length, e1, if_pos rfl]
  rw [e1, e2]
  clear e1 e2
  have hw := fun x hx => (words_word blank (bl s) x hx).1
  have htot := words_total blank (bl s)
  rw [bl_length] at htot
  change (wordsL (bl s)).flatten.length ≤ s.size at htot
  change ∀ x ∈ wordsL (bl s), x ≠ [] at hw
  have HC := Lib.hid (fun W => Words_any s W (by omega))
  have hwn := flat_count_le _ hw
  generalize wordsL (bl s) = ws at *
  have HWN := Lib.hid hw; clear hw
  have hA4 : (s.size : Int) ≤ 65536 := by omega
  go_enter Try.func24, Try.ntmps24
  go_wp2_with (go_at_call 27; refine (HC.out _).mono ?_; rintro e w1 ⟨A, rfl, hAA, hown0, hb1⟩)
  have hsl := Sl.of_own hown0
  have hs1 := hb1.size
  go_loopw [6, 7, 9, 10, 11, 12, 25] (fun u6 u7 _ _ _ _ u25 wr => ∃ (k : Nat) (b : Bool) (L : List (List UInt8)), u25 = .int .i64 k ∧ k ≤ ws.length ∧ u7 = .bool b ∧ Hid (b = decide ((wrapS width (ws.take k)).2 ≠ [])) ∧ Hid (L = (wrapS width (ws.take k)).1 ++ optL (wrapS width (ws.take k)).2) ∧
    wr.ownsRow w1.heap.size 9 1 u6 L.length (strs L) ∧ Below w1.heap.size w1 wr) (fun _ _ _ _ _ _ u25 _ => ws.length - (intOf u25).toNat)
  case atStart => exact ⟨0, false, [], rfl, Nat.zero_le _, rfl, Lib.hid (by simp [wrapS]), Lib.hid (by simp [wrapS, optL]), World.ownsRow_nil _ _ _ _, Below.refl _ _⟩
  case round =>
    obtain ⟨k, b, L, rfl, hk, rfl, hb, hL, hown, hbw⟩ := hrel
    have hsz := hbw.size
    have hbd := wrapS_bounds width (by omega) ws HWN.out k hk
    have hft := flat_take_le ws k
    have hLl : L.length ≤ 65536 := by rw [hL.out, List.length_append]; omega
    by_cases hlt : k < ws.length
    · obtain ⟨ad, e0, _, g1⟩ := (hsl.below hbw).cell (k := k) (by simpa using hlt)
      obtain rfl := Option.some.inj e0
      rw [List.getElem_map] at g1
      have g2 : wr.cell? ⟨A, k, none⟩ = some (.string ⟨(ws[k]'hlt).toArray⟩) := by
        rw [← g1]; congr 1; simp [Addr.add]
      clear g1
      have hxl := flat_mem_le ws (ws[k]'hlt) (List.getElem_mem hlt)
      have hss := wrapS_succ width ws k hlt
      have hcx := colsL_le (ws[k]'hlt)
      generalize hst : wrapS width (ws.take k) = st at *
      clear hst
      generalize (ws[k]'hlt) = x at *
      have cx := fun W => Columns_any ⟨x.toArray⟩ W (by rw [wz]; omega)
      rw [bl_mk] at cx
      have CX := Lib.hid cx; clear cx
      have i1 : (0 : Int) ≤ (k : Int) := by omega
      have i2 : (k : Int) < (ws.length : Int) := by omega
      have zx : (⟨x.toArray⟩ : ByteArray).size ≤ 65536 := by rw [wz]; omega
      by_cases hop : st.2 = []
      · have hb' : b = false := by rw [hb.out]; simp [hop]
        subst hb'
        unfold stepW at hss
        rw [if_neg (fun h => h.1 hop)] at hss
        have HS := Lib.hid hss; clear hss
        obtain ⟨A6, c6, rfl⟩ := w_form hown
        have hn := Below.refl wr.heap.size wr
        go_wp2_with (go_at_call 28; refine (CX.out _).mono ?_; rintro e w3 ⟨rfl, hb3⟩; have hn := hn.trans (hb3.mono hn.size))
        have hown2 := w_below hown hn
        have hbw2 := hbw.trans (hn.mono hsz)
        clear hown hbw hn
        go_loopw [6, 9, 11, 12] (fun u6 u9 u11 _ wr => ∃ (y : List UInt8) (ps : List (List UInt8)), u9 = .string ⟨y.toArray⟩ ∧ u11 = .int .i64 (colsL y : Nat) ∧ y.length + ps.length ≤ x.length ∧ Hid (cuts width x = (ps ++ (cuts width y).1, (cuts width y).2)) ∧ wr.ownsRow w1.heap.size 9 1 u6 (L ++ ps).length (strs (L ++ ps)) ∧ Below w1.heap.size w1 wr) (fun _ u9 _ _ _ => szOf u9)
        case atStart => exact ⟨x, [], rfl, rfl, by simp, Lib.hid (by simp), by simpa using hown2, hbw2⟩
        case round =>
          obtain ⟨y, ps, rfl, rfl, hyl, hcu, hown3, hbw3⟩ := hrel
          have hsz3 := hbw3.size
          have hlen3 : (L ++ ps).length ≤ 131072 := by rw [List.length_append]; omega
          have hcy := colsL_le y
          have hyz := wz y
          by_cases hin : width < (colsL y : Int)
          · have hp1 := piece_pos y width hin (by omega)
            have hp2 := pieceL_len y width
            have hp3 := piece_cols y width
            have hstep := cuts_step (by omega) hin
            have hcp := colsL_le (pieceL y width)
            have hpz := wz (pieceL y width)
            have cP := fun W => piece_any ⟨y.toArray⟩ width W (by omega) (by omega) (by rw [wz]; omega)
            rw [bl_mk] at cP
            have cQ := fun W => Columns_any ⟨(pieceL y width).toArray⟩ W (by rw [wz]; omega)
            rw [bl_mk] at cQ
            have hdr := drop_mk y (pieceL y width).length
            rw [wz] at hdr
            have hdl : (y.drop (pieceL y width).length).length = y.length - (pieceL y width).length := List.length_drop
            have hcu2 : Hid (cuts width x = ((ps ++ [pieceL y width]) ++ (cuts width (y.drop (pieceL y width).length)).1, (cuts width (y.drop (pieceL y width).length)).2)) := Lib.hid (by rw [hcu.out, hstep]; simp)
            have hso : Hid (szOf (.string ((⟨y.toArray⟩ : ByteArray).extract (pieceL y width).length y.length)) < szOf (.string ⟨y.toArray⟩)) := Lib.hid (by rw [hdr]; simp only [szOf]; rw [wz, wz]; omega)
            have hss3 := w_strs (L ++ ps) (pieceL y width)
            rw [List.append_assoc] at hss3
            have HSS := Lib.hid hss3; clear hss3
            have HDR := Lib.hid hdr; clear hdr
            have CP := Lib.hid cP; clear cP
            have CQ := Lib.hid cQ; clear cQ
            clear hstep hcu
            generalize y.drop (pieceL y width).length = y' at *
            generalize hpp : pieceL y width = p at *
            clear hpp
            have q1 : (0 : Int) ≤ ((⟨p.toArray⟩ : ByteArray).size : Int) := by omega
            have q2 : ((⟨p.toArray⟩ : ByteArray).size : Int) ≤ ((⟨y.toArray⟩ : ByteArray).size : Int) := by omega
            go_wp2_with (first
              | (go_at_call 68; refine (CP.out _).mono ?_; rintro e w4 ⟨rfl, hb4⟩; have hown4 := w_below hown3 hb4; have hbw4 : Below w1.heap.size w1 w4 := hbw3.trans (hb4.mono hsz3); have hsz4 := hbw4.size)
              | (at_builtin; refine wpList_append_own _ rfl (.tmp 62) (.tmp 64) 25 rfl w1.heap.size 9 i0 (.string ⟨#[]⟩) 1 16 Try.underlying25 hi hz0 hz1 hz2 rfl (by decide) _ _ _ rfl (hown4.alloc _) ⟨w4.heap.size, 0, none⟩ 1 1 [.string ⟨p.toArray⟩] rfl rfl (cell_one_new _ _ _) (by simp [Value.oneCell']) (by unfold maxLen; omega) (by omega) (by simp; omega) ?_; intro v' w5 hown5 hgrow _; have hbw5 : Below w1.heap.size w1 w5 := (hbw4.alloc hbw4.size _).grown hgrow (by simp; omega) (fun j hj => (hown4.lt j hj).1); have hsz5 := hbw5.size)
              | (go_at_call 28; refine (CQ.out _).mono ?_; rintro e w6 ⟨rfl, hb6⟩))
            refine ⟨⟨y', ps ++ [p], by rw [HDR.out], by go_num, by rw [List.length_append, List.length_singleton]; omega, hcu2, ?_, hbw5.trans (hb6.mono hsz5)⟩, hso.out⟩
            have h7 := w_below hown5 hb6
            rw [HSS.out, show (L ++ (ps ++ [p])).length = (L ++ ps).length + 1 by simp; omega]
            exact h7
          · have hdone := cuts_done hin
            have hcu3 : cuts width x = (ps, y) := by rw [hcu.out, hdone]; simp
            have hS2 := HS.out
            rw [hcu3] at hS2
            by_cases hy : y = []
            · subst hy
              have hS3 := Lib.hid hS2; clear hS2 hcu3 hdone hcu
              go_wp2
              refine ⟨⟨k + 1, false, L ++ ps, by go_num, by omega, rfl, Lib.hid (by rw [hS3.out]; simp), Lib.hid ?_, hown3, hbw3⟩, by simp [intOf]; omega⟩
              rw [hS3.out, hL.out]
              simp [optL]
            · have hye : y.isEmpty = false := by simpa using hy
              have hS3 := Lib.hid hS2; clear hS2 hcu3 hdone hcu
              have hss3 := w_strs (L ++ ps) y
              have HSS := Lib.hid hss3; clear hss3
              have HY := Lib.hid hy; clear hy
              go_wp2_with (at_builtin; refine wpList_append_own _ rfl (.tmp 77) (.tmp 79) 25 rfl w1.heap.size 9 i0 (.string ⟨#[]⟩) 1 16 Try.underlying25 hi hz0 hz1 hz2 rfl (by decide) _ _ _ rfl (hown3.alloc _) ⟨wr.heap.size, 0, none⟩ 1 1 [.string ⟨y.toArray⟩] rfl rfl (cell_one_new _ _ _) (by simp [Value.oneCell']) (by unfold maxLen; omega) (by omega) (by simp; omega) ?_; intro v' w5 hown5 hgrow _)
              have hbw5 : Below w1.heap.size w1 w5 := (hbw3.alloc hbw3.size _).grown hgrow (by simp; omega) (fun j hj => (hown3.lt j hj).1)
              refine ⟨⟨k + 1, true, L ++ ps ++ [y], by go_num, by omega, rfl, Lib.hid (by rw [hS3.out]; simpa using HY.out), Lib.hid ?_, ?_, hbw5⟩, by simp [intOf]; omega⟩
              · rw [hS3.out, hL.out]
                simp [optL, HY.out]
              · rw [HSS.out, List.length_append]; exact hown5
      · have hst2 : optL st.2 = [st.2] := by unfold optL; rw [if_neg hop]
        have hb' : b = true := by rw [hb.out]; simp [hop]
        subst hb'
        have hLe : L = st.1 ++ [st.2] := by rw [hL.out, hst2]
        have hLn : L.length = st.1.length + 1 := by rw [hLe, List.length_append]; rfl
        have hget : (strs L)[st.1.length]? = some (.string ⟨st.2.toArray⟩) := by rw [hLe, w_strs]; simp [strs]
        have hsl2 := hbd.2
        have c2 := fun W => Columns_any ⟨st.2.toArray⟩ W (by rw [wz]; omega)
        rw [bl_mk] at c2
        have C2 := Lib.hid c2; clear c2
        obtain ⟨g, cap, rfl, hgB⟩ := w_head hown (by omega)
        have hcl : wr.cell? ⟨g, st.1.length, none⟩ = some (.string ⟨st.2.toArray⟩) := by rw [hown.cellAt _ (by omega)]; exact hget
        have eL : (L.length : Int) - 1 = (st.1.length : Int) := by omega
        have hc2 := colsL_le st.2
        have j0 : (0 : Int) ≤ (st.1.length : Int) := by omega
        have j1 : (st.1.length : Int) < (L.length : Int) := by omega
        by_cases hj : (colsL st.2 : Int) + 1 + colsL x ≤ width
        · unfold stepW at hss
          rw [if_pos ⟨hop, hj⟩] at hss
          have HS := Lib.hid hss; clear hss
          have hset : (strs L).set st.1.length (.string ⟨(st.2 ++ 32 :: x).toArray⟩) = strs (st.1 ++ [st.2 ++ 32 :: x]) := by
            rw [hLe, w_strs, w_strs, List.set_append_right _ _ (by simp [strs])]
            simp [strs]
          have hcat : (⟨(st.2 ++ 32 :: x).toArray⟩ : ByteArray) = ⟨st.2.toArray⟩ ++ (⟨#[32]⟩ ++ ⟨x.toArray⟩) := by
            rw [show (⟨#[32]⟩ : ByteArray) = ⟨([32] : List UInt8).toArray⟩ from rfl, w_app, w_app]; rfl
          have HSET := Lib.hid hset; clear hset
          have HCAT := Lib.hid hcat; clear hcat
          have hz2 : (⟨st.2.toArray⟩ : ByteArray).size = st.2.length := wz _
          have hz1 : (⟨x.toArray⟩ : ByteArray).size = x.length := wz _
          have HLN := Lib.hid hLn; clear hLn hLe
          generalize (⟨st.2.toArray⟩ : ByteArray) = X2 at *
          generalize (⟨x.toArray⟩ : ByteArray) = X at *
          have hone : (⟨#[32]⟩ : ByteArray).size = 1 := rfl
          have z1 : (⟨#[32]⟩ : ByteArray).size + X.size ≤ 9223372036854775807 := by omega
          have z2 : X2.size + ((⟨#[32]⟩ : ByteArray) ++ X).size ≤ 9223372036854775807 := by rw [ByteArray.size_append]; omega
          have hn := Below.refl wr.heap.size wr
          go_wp2_with (go_at_call 28; (first
            | ((with_reducible refine (C2.out _).mono ?_); rintro e w2 ⟨rfl, hb2⟩; have hn := hn.trans (hb2.mono hn.size))
            | ((with_reducible refine (CX.out _).mono ?_); rintro e w3 ⟨rfl, hb3⟩; have hn := hn.trans (hb3.mono hn.size); have hown3 := w_below hown hn; have hcl3 : w3.cell? ⟨g, st.1.length, none⟩ = some (.string X2) := (by rw [hown3.cellAt _ (by omega)]; exact hget); have hf3 := hown3.frozenAt st.1.length)))
          have h9 := (hown3.stored st.1.length (.string (X2 ++ (⟨#[32]⟩ ++ X)))).1
          rw [← HCAT.out, HSET.out] at h9
          refine ⟨⟨k + 1, true, st.1 ++ [st.2 ++ 32 :: x], by go_num, by omega, rfl, Lib.hid (by rw [HS.out]; simp), Lib.hid (by rw [HS.out]; simp [optL]), ?_, (hbw.trans (hn.mono hsz)).setCell (p := ⟨g, st.1.length, none⟩) hgB _⟩, by simp [intOf]; omega⟩
          rw [show (st.1 ++ [st.2 ++ 32 :: x]).length = L.length by rw [HLN.out]; simp, ← HCAT.out]
          exact h9
        · unfold stepW at hss
          rw [if_neg (fun h => hj h.2)] at hss
          have HS := Lib.hid hss; clear hss hLn hLe
          have hn := Below.refl wr.heap.size wr
          go_wp2_with (go_at_call 28; (first
            | ((with_reducible refine (C2.out _).mono ?_); rintro e w2 ⟨rfl, hb2⟩; have hn := hn.trans (hb2.mono hn.size))
            | ((with_reducible refine (CX.out _).mono ?_); rintro e w3 ⟨rfl, hb3⟩; have hn := hn.trans (hb3.mono hn.size))))
          have hown2 := w_below hown hn
          have hbw2 := hbw.trans (hn.mono hsz)
          clear hown hbw hn
          go_loopw [6, 9, 11, 12] (fun u6 u9 u11 _ wr => ∃ (y : List UInt8) (ps : List (List UInt8)), u9 = .string ⟨y.toArray⟩ ∧ u11 = .int .i64 (colsL y : Nat) ∧ y.length + ps.length ≤ x.length ∧ Hid (cuts width x = (ps ++ (cuts width y).1, (cuts width y).2)) ∧ wr.ownsRow w1.heap.size 9 1 u6 (L ++ ps).length (strs (L ++ ps)) ∧ Below w1.heap.size w1 wr) (fun _ u9 _ _ _ => szOf u9)
          case atStart => exact ⟨x, [], rfl, rfl, by simp, Lib.hid (by simp), by simpa using hown2, hbw2⟩
          case round =>
            obtain ⟨y, ps, rfl, rfl, hyl, hcu, hown3, hbw3⟩ := hrel
            have hsz3 := hbw3.size
            have hlen3 : (L ++ ps).length ≤ 131072 := by rw [List.length_append]; omega
            have hcy := colsL_le y
            have hyz := wz y
            by_cases hin : width < (colsL y : Int)
            · have hp1 := piece_pos y width hin (by omega)
              have hp2 := pieceL_len y width
              have hp3 := piece_cols y width
              have hstep := cuts_step (by omega) hin
              have hcp := colsL_le (pieceL y width)
              have hpz := wz (pieceL y width)
              have cP := fun W => piece_any ⟨y.toArray⟩ width W (by omega) (by omega) (by rw [wz]; omega)
              rw [bl_mk] at cP
              have cQ := fun W => Columns_any ⟨(pieceL y width).toArray⟩ W (by rw [wz]; omega)
              rw [bl_mk] at cQ
              have hdr := drop_mk y (pieceL y width).length
              rw [wz] at hdr
              have hdl : (y.drop (pieceL y width).length).length = y.length - (pieceL y width).length := List.length_drop
              have hcu2 : Hid (cuts width x = ((ps ++ [pieceL y width]) ++ (cuts width (y.drop (pieceL y width).length)).1, (cuts width (y.drop (pieceL y width).length)).2)) := Lib.hid (by rw [hcu.out, hstep]; simp)
              have hso : Hid (szOf (.string ((⟨y.toArray⟩ : ByteArray).extract (pieceL y width).length y.length)) < szOf (.string ⟨y.toArray⟩)) := Lib.hid (by rw [hdr]; simp only [szOf]; rw [wz, wz]; omega)
              have hss3 := w_strs (L ++ ps) (pieceL y width)
              rw [List.append_assoc] at hss3
              have HSS := Lib.hid hss3; clear hss3
              have HDR := Lib.hid hdr; clear hdr
              have CP := Lib.hid cP; clear cP
              have CQ := Lib.hid cQ; clear cQ
              clear hstep hcu
              generalize y.drop (pieceL y width).length = y' at *
              generalize hpp : pieceL y width = p at *
              clear hpp
              have q1 : (0 : Int) ≤ ((⟨p.toArray⟩ : ByteArray).size : Int) := by omega
              have q2 : ((⟨p.toArray⟩ : ByteArray).size : Int) ≤ ((⟨y.toArray⟩ : ByteArray).size : Int) := by omega
              go_wp2_with (first
                | (go_at_call 68; refine (CP.out _).mono ?_; rintro e w4 ⟨rfl, hb4⟩; have hown4 := w_below hown3 hb4; have hbw4 : Below w1.heap.size w1 w4 := hbw3.trans (hb4.mono hsz3); have hsz4 := hbw4.size)
                | (at_builtin; refine wpList_append_own _ rfl (.tmp 62) (.tmp 64) 25 rfl w1.heap.size 9 i0 (.string ⟨#[]⟩) 1 16 Try.underlying25 hi hz0 hz1 hz2 rfl (by decide) _ _ _ rfl (hown4.alloc _) ⟨w4.heap.size, 0, none⟩ 1 1 [.string ⟨p.toArray⟩] rfl rfl (cell_one_new _ _ _) (by simp [Value.oneCell']) (by unfold maxLen; omega) (by omega) (by simp; omega) ?_; intro v' w5 hown5 hgrow _; have hbw5 : Below w1.heap.size w1 w5 := (hbw4.alloc hbw4.size _).grown hgrow (by simp; omega) (fun j hj => (hown4.lt j hj).1); have hsz5 := hbw5.size)
                | (go_at_call 28; refine (CQ.out _).mono ?_; rintro e w6 ⟨rfl, hb6⟩))
              refine ⟨⟨y', ps ++ [p], by rw [HDR.out], by go_num, by rw [List.length_append, List.length_singleton]; omega, hcu2, ?_, hbw5.trans (hb6.mono hsz5)⟩, hso.out⟩
              have h7 := w_below hown5 hb6
              rw [HSS.out, show (L ++ (ps ++ [p])).length = (L ++ ps).length + 1 by simp; omega]
              exact h7
            · have hdone := cuts_done hin
              have hcu3 : cuts width x = (ps, y) := by rw [hcu.out, hdone]; simp
              have hS2 := HS.out
              rw [hcu3] at hS2
              by_cases hy : y = []
              · subst hy
                have hS3 := Lib.hid hS2; clear hS2 hcu3 hdone hcu
                go_wp2
                refine ⟨⟨k + 1, false, L ++ ps, by go_num, by omega, rfl, Lib.hid (by rw [hS3.out]; simp), Lib.hid ?_, hown3, hbw3⟩, by simp [intOf]; omega⟩
                rw [hS3.out, hL.out]
                simp [optL]
              · have hye : y.isEmpty = false := by simpa using hy
                have hS3 := Lib.hid hS2; clear hS2 hcu3 hdone hcu
                have hss3 := w_strs (L ++ ps) y
                have HSS := Lib.hid hss3; clear hss3
                have HY := Lib.hid hy; clear hy
                go_wp2_with (at_builtin; refine wpList_append_own _ rfl (.tmp 77) (.tmp 79) 25 rfl w1.heap.size 9 i0 (.string ⟨#[]⟩) 1 16 Try.underlying25 hi hz0 hz1 hz2 rfl (by decide) _ _ _ rfl (hown3.alloc _) ⟨wr.heap.size, 0, none⟩ 1 1 [.string ⟨y.toArray⟩] rfl rfl (cell_one_new _ _ _) (by simp [Value.oneCell']) (by unfold maxLen; omega) (by omega) (by simp; omega) ?_; intro v' w5 hown5 hgrow _)
                have hbw5 : Below w1.heap.size w1 w5 := (hbw3.alloc hbw3.size _).grown hgrow (by simp; omega) (fun j hj => (hown3.lt j hj).1)
                refine ⟨⟨k + 1, true, L ++ ps ++ [y], by go_num, by omega, rfl, Lib.hid (by rw [hS3.out]; simpa using HY.out), Lib.hid ?_, ?_, hbw5⟩, by simp [intOf]; omega⟩
                · rw [hS3.out, hL.out]
                  simp [optL, HY.out]
                · rw [HSS.out, List.length_append]; exact hown5
    · obtain rfl : k = ws.length := by omega
      have hL2 := hL.out
      rw [List.take_length] at hL2
      have hL3 : L = wrapL width ws := hL2
      subst hL3
      obtain ⟨A6, c6, rfl⟩ := w_form hown
      go_wp2
      go_ret2
      exact ⟨_, rfl, own_base hown (by omega), hb1.trans (hbw.mono (by omega))⟩
end Go.Proofs.Ytlkabghpcjlohaa
