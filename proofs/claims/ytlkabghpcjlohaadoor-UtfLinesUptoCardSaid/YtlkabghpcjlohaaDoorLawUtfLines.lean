/- UtfLines: for every list of texts that together hold at most 1048576 bytes and texts the call returns true. -/
import Derived.Test.YtlkabghpcjlohaaDoorLawUtfFixes
import Derived.Test.YtlkabghpcjlohaaDoorG6
import Derived.Laws.OwnMore
namespace Go.Proofs.YtlkabghpcjlohaaDoor
set_option linter.unusedVariables false
set_option linter.unusedSimpArgs false
open Go.RowKit Go.Lib

/-- a text's first 200 bytes, without the bytes 10 -/
def cln (x : List UInt8) : List UInt8 := x.filter fun b => decide (b ≠ 10)
def cut200 (x : List UInt8) : List UInt8 := cln (x.take 200)
def textL (ls : List (List UInt8)) : List UInt8 := (ls.map fun x => cut200 x ++ [10]).flatten
def wantL (ls : List (List UInt8)) : List (List UInt8) := ls.map fun x => trim13 (cut200 x)
theorem cln_no (x : List UInt8) : ∀ b ∈ cln x, b ≠ 10 := by
  intro b hb
  have := (List.mem_filter.1 hb).2
  simpa using this
theorem cln_le (x : List UInt8) : (cln x).length ≤ x.length := List.length_filter_le _ _
theorem lines_text : ∀ ls : List (List UInt8), linesL (textL ls) = wantL ls
  | [] => by simp [textL, wantL, linesL, linesC]
  | x :: ls => by
    have e : textL (x :: ls) = cut200 x ++ 10 :: textL ls := by simp [textL]
    rw [e, linesL_line (cut200 x) _ (cln_no _), lines_text ls]
    rfl
theorem textL_snoc (ls : List (List UInt8)) (x : List UInt8) : textL (ls ++ [x]) = textL ls ++ (cut200 x ++ [10]) := by simp [textL]
theorem wantL_snoc (ls : List (List UInt8)) (x : List UInt8) : wantL (ls ++ [x]) = wantL ls ++ [trim13 (cut200 x)] := by simp [wantL]
theorem want_le (ls : List (List UInt8)) : (wantL ls).length = ls.length := by simp [wantL]
theorem u_sz (l : List UInt8) : (⟨l.toArray⟩ : ByteArray).size = l.length := by rw [← bl_length]
theorem u_app (a b : List UInt8) : (⟨a.toArray⟩ : ByteArray) ++ ⟨b.toArray⟩ = (⟨(a ++ b).toArray⟩ : ByteArray) := by apply bl_inj; simp [bl]
theorem awake_lines : (linesL (bl ⟨#[97, 10, 98]⟩)).length = 2 := by decide +kernel
theorem Below.nx {B : Nat} {w a b : World} (h : Below B w a) (hB : B ≤ w.heap.size) (k : Below a.heap.size a b) : Below B w b := h.trans (k.mono (by have := h.size; omega))
theorem MaxLen.far {w w' : World} {B : Nat} (h : MaxLen w) (hb : Below B w w') (hB : 2 < B) : MaxLen w' := by
  obtain ⟨m, hm⟩ := h
  exact ⟨m, (hb.cell (p := ⟨2, 0, none⟩) hB).trans hm⟩
theorem MaxLen.lt {w : World} (h : MaxLen w) : 2 < w.heap.size := by
  obtain ⟨m, hm⟩ := h
  rcases Nat.lt_or_ge 2 w.heap.size with h1 | h1
  · exact h1
  · simp [World.cell?, Array.getElem?_eq_none h1] at hm
theorem u_base {w : World} {B B' e n : Nat} {v : Value} {xs : List Value} (h : w.ownsRow B e 1 v n xs) (hB : B' ≤ B) : w.ownsRow B' e 1 v n xs := by
  refine ⟨h.1, ?_⟩
  rcases h.2 with h2 | ⟨g, cap, cur, hv, h3, h4⟩
  · exact .inl h2
  · exact .inr ⟨g, cap, cur, hv, Nat.le_trans hB h3, h4⟩
theorem u_head {w : World} {B e n : Nat} {v : Value} {xs : List Value} (h : w.ownsRow B e 1 v n xs) (hn : 0 < n) : ∃ g cap, v = .slice (some ⟨g, 0, none⟩) n cap ∧ B ≤ g := by
  rcases h.2 with ⟨hv, h0⟩ | ⟨g, cap, cur, hv, hB, _⟩
  · omega
  · exact ⟨g, cap, hv, hB⟩

theorem trim13_cases (y : List UInt8) : (y = [] ∧ trim13 y = []) ∨ ∃ (z : List UInt8) (b : UInt8), y = z ++ [b] ∧ ((b = 13 ∧ trim13 y = z) ∨ (b ≠ 13 ∧ trim13 y = y)) := by
  rcases List.eq_nil_or_concat y with rfl | ⟨z, b, rfl⟩
  · exact .inl ⟨rfl, rfl⟩
  · right
    refine ⟨z, b, by simp, ?_⟩
    by_cases h : b = 13
    · left
      refine ⟨h, ?_⟩
      unfold trim13
      rw [h]; simp
    · right
      refine ⟨h, ?_⟩
      unfold trim13
      rw [if_neg]
      simpa using h
set_option maxHeartbeats 16000000 in
set_option maxRecDepth 100000 in
theorem utfLines_any (v : Value) (l : List (List UInt8)) (w : World) (hv : Sl w w.heap.size v (strs l)) (hz : l.flatten.length + l.length ≤ 1048576) (hT : Tabs w) (hsh : w.ShapedOpen Tryd.prog) :
    Calls Tryd.prog 8 #[v] w fun e w' => e = .returned (.bool true) ∧ Below w.heap.size w w' := by
  obtain ⟨i0, hi, hz0, hz1, hz2⟩ := info_parts infoStr
  have hM : MaxLen w := Tryd.laysM145.s1_3 w hsh
  clear hsh
  have hMl := hM.lt
  have HA := From.awake w hT
  have HL0 := Lib.hid (fun (W : World) (h : MaxLen W) => Lines_any ⟨#[97, 10, 98]⟩ W h (by decide))
  have hfl : ∀ x ∈ l, x.length ≤ 1048576 := fun x hx => by
    have : x.length ≤ l.flatten.length := by
      clear hz hv
      induction l with
      | nil => simp at hx
      | cons y ys ih =>
        rw [List.flatten_cons, List.length_append]
        rcases List.mem_cons.1 hx with rfl | hx
        · omega
        · have := ih hx; omega
    omega
  have HFL := Lib.hid hfl; clear hfl
  have hll : l.length ≤ 1048576 := by omega
  have hv0 := hv
  obtain ⟨A, c, rfl, hc, hA⟩ := hv
  rw [List.length_map] at hv0 hc ⊢
  clear hA
  have hb0 := Below.refl w.heap.size w
  go_enter Tryd.func8, Tryd.ntmps8
  go_wp2_with (first
    | (go_at_call 15; (with_reducible refine (HA.at_ (by assumption)).mono ?_); rintro e w1 ⟨rfl, hb1⟩)
    | (go_at_call 27; refine (HL0.out _ (hM.far hb1 hMl)).mono ?_; rintro e w2 ⟨v2, rfl, hown2, hb2⟩; rw [awake_lines] at hown2; obtain ⟨A2, c2, rfl⟩ := own_form hown2; have hb3 := Below.nx hb1 (Nat.le_refl _) hb2))
  clear hown2
  have hs2 := hb3.size
  go_loopw [3, 4, 6, 7, 8, 20] (fun u3 u4 _ _ _ u20 wr => ∃ k : Nat, u20 = .int .i64 k ∧ k ≤ l.length ∧ u3 = .string ⟨(textL (l.take k)).toArray⟩ ∧ (textL (l.take k)).length ≤ 65536 ∧ wr.ownsRow w2.heap.size 9 1 u4 (wantL (l.take k)).length (strs (wantL (l.take k))) ∧ Below w2.heap.size w2 wr) (fun _ _ _ _ _ u20 _ => l.length - (intOf u20).toNat)
  case atStart => exact ⟨0, rfl, Nat.zero_le _, rfl, by simp [textL], World.ownsRow_nil _ _ _ _, Below.refl _ _⟩
  case round =>
    obtain ⟨k, rfl, hk, rfl, hTl, hown, hbw⟩ := hrel
    have hsz := hbw.size
    have hwl : (wantL (l.take k)).length ≤ 1048576 := by rw [want_le, List.length_take]; omega
    by_cases hlt : k < l.length
    · have hv1 := (hv0.below hb3).below (hbw.mono hs2)
      obtain ⟨ad, e0, _, g1⟩ := hv1.cell (k := k) (by simpa using hlt)
      obtain rfl := e0
      rw [List.getElem_map] at g1
      have hxl := HFL.out (l[k]'hlt) (List.getElem_mem hlt)
      have htk := List.take_succ_eq_append_getElem hlt
      have hT1 := textL_snoc (l.take k) (l[k]'hlt)
      have hW1 := wantL_snoc (l.take k) (l[k]'hlt)
      rw [← htk] at hT1 hW1
      clear htk
      generalize (l[k]'hlt) = x at *
      obtain ⟨X, hXx⟩ : ∃ X : ByteArray, bl X = x := ⟨⟨x.toArray⟩, bl_mk x⟩
      subst hXx
      have g2 : wr.cell? (ad.add k) = some (.string X) := by rw [g1, str_bl]
      clear g1
      rw [bl_length] at hxl
      have i1 : (0 : Int) ≤ (k : Int) := by omega
      have i2 : (k : Int) < (l.length : Int) := by omega
      rename World => w3
      go_wp2
      go_loopw [7, 8] (fun u7 u8 wr => ∃ i : Nat, u8 = .int .i64 i ∧ i ≤ X.size ∧ i ≤ 200 ∧ u7 = .string ⟨(cln ((bl X).take i)).toArray⟩ ∧ w3 = wr) (fun _ u8 _ => X.size - (intOf u8).toNat)
      case atStart => exact ⟨0, rfl, Nat.zero_le _, Nat.zero_le _, rfl, rfl⟩
      case round =>
        obtain ⟨i, rfl, hix, hi200, rfl, rfl⟩ := hrel
        have hcl := cln_le ((bl X).take i)
        rw [List.length_take] at hcl
        have hjz := u_sz (cln ((bl X).take i))
        by_cases hil : i < X.size ∧ i < 200
        · have hil1 := hil.1
          have hti : (bl X).take (i + 1) = (bl X).take i ++ [X[i]] := List.take_succ_eq_append_getElem (by rw [bl_length]; exact hil1)
          have y0 : (0 : Int) ≤ (i : Int) := by omega
          have y1 : (i : Int) < (X.size : Int) := by omega
          have y2 : (i : Int) + 1 ≤ (X.size : Int) := by omega
          have y3 : (i : Int) < 200 := by omega
          by_cases h10 : X[i] = 10
          · have hs2' : cln ((bl X).take (i + 1)) = cln ((bl X).take i) := by rw [hti, h10]; simp [cln]
            have hb : (((X[i]).toNat : Int) != 10) = false := by rw [h10]; rfl
            have HS2 := Lib.hid hs2'; clear hs2' hti h10
            go_wp2
            exact ⟨⟨i + 1, by go_num, by omega, by omega, by rw [HS2.out], trivial⟩, by simp [intOf]; omega⟩
          · have hs2' : cln ((bl X).take (i + 1)) = cln ((bl X).take i) ++ [X[i]] := by rw [hti]; simp [cln, h10]
            have hb : (((X[i]).toNat : Int) != 10) = true := by
              simp only [bne_iff_ne, ne_eq]
              intro h
              exact h10 (UInt8.toNat_inj.1 (by simpa using Int.ofNat.inj h))
            have hex : X.extract i (i + 1) = ⟨([X[i]] : List UInt8).toArray⟩ := by
              refine bl_inj (show bl (X.extract i (i + 1)) = bl ⟨([X[i]] : List UInt8).toArray⟩ from ?_)
              rw [bl_extract, bl_mk, ← List.drop_take, hti, List.drop_append_of_le_length (by rw [List.length_take, bl_length]; omega), List.drop_of_length_le (by rw [List.length_take]; omega), List.nil_append]
            have hcat : (⟨(cln ((bl X).take (i + 1))).toArray⟩ : ByteArray) = ⟨(cln ((bl X).take i)).toArray⟩ ++ X.extract i (i + 1) := by
              rw [hs2', hex, u_app]
            have hez : (X.extract i (i + 1)).size = 1 := by rw [hex]; rfl
            have HC := Lib.hid hcat; clear hcat hs2' hti h10 hex
            generalize (⟨(cln ((bl X).take i)).toArray⟩ : ByteArray) = J at *
            have zz : J.size + (X.extract i (i + 1)).size ≤ 9223372036854775807 := by omega
            have HEZ := Lib.hid hez; clear hez
            go_wp2
            exact ⟨⟨i + 1, by go_num, by omega, by omega, by rw [HC.out], trivial⟩, by simp [intOf]; omega⟩
        · have hcut : cln ((bl X).take i) = cut200 (bl X) := by
            unfold cut200
            congr 1
            rcases Nat.lt_or_ge i X.size with h1 | h1
            · rw [show i = 200 by omega]
            · rw [List.take_of_length_le (by rw [bl_length]; omega), List.take_of_length_le (by rw [bl_length]; omega)]
          have hcond : (X.size : Int) ≤ i ∨ ((i : Int) < X.size ∧ (200 : Int) ≤ i) := by omega
          have hc200 : (cut200 (bl X)).length ≤ 200 := by rw [← hcut]; omega
          rw [hcut] at hjz ⊢
          clear hcl hcut hil
          have hlast := trim13_cases (cut200 (bl X))
          generalize cut200 (bl X) = y at *
          obtain ⟨Y, hYy⟩ : ∃ Y : ByteArray, bl Y = y := ⟨⟨y.toArray⟩, bl_mk y⟩
          subst hYy
          rw [bl_roundtrip] at hjz ⊢
          rw [bl_length] at hc200
          have HW1 := Lib.hid hW1; clear hW1
          have hTsz := congrArg List.length hT1
          simp only [List.length_append, List.length_singleton, bl_length] at hTsz
          have hT1' : (⟨(textL (l.take (k + 1))).toArray⟩ : ByteArray) = ⟨(textL (l.take k)).toArray⟩ ++ (Y ++ ⟨#[10]⟩) := by
            conv => rhs; rw [show Y = ⟨(bl Y).toArray⟩ from bl_inj rfl, show (⟨#[10]⟩ : ByteArray) = ⟨([10] : List UInt8).toArray⟩ from rfl, u_app, u_app, ← hT1]
          have HT1 := Lib.hid hT1'; clear hT1' hT1
          have hPz := u_sz (textL (l.take k))
          generalize hP0 : (⟨(textL (l.take k)).toArray⟩ : ByteArray) = P0 at *
          clear hP0
          have hone : (⟨#[10]⟩ : ByteArray).size = 1 := rfl
          have z1 : Y.size + (⟨#[10]⟩ : ByteArray).size ≤ 9223372036854775807 := by omega
          have z2 : P0.size + (Y ++ (⟨#[10]⟩ : ByteArray)).size ≤ 9223372036854775807 := by rw [ByteArray.size_append]; omega
          obtain ⟨TB, hTB⟩ : ∃ TB, TB = P0 ++ (Y ++ ⟨#[10]⟩) := ⟨_, rfl⟩
          have hE : P0 ++ (Y ++ ⟨#[10]⟩) = TB := hTB.symm
          have hTBs : TB.size = (textL (l.take (k + 1))).length := by rw [hTB, ← HT1.out, u_sz]
          rw [hE] at HT1
          clear hTB
          clear hjz
          rcases hcond with hcd | ⟨hcd, hcd2⟩
          · rcases hlast with ⟨hl1, hl2⟩ | ⟨z, b, hl1, ⟨hl2, hl3⟩ | ⟨hl2, hl3⟩⟩
            · have hY0 : Y.size = 0 := by rw [← bl_length, hl1]; rfl
              have HZ : Hid (Value.string Y = .string ⟨(trim13 (bl Y)).toArray⟩) := Lib.hid (by rw [hl2]; exact congrArg Value.string (bl_inj hl1))
              have hYe : (Y.size : Int) ≤ 0 := by omega
              clear hl1 hl2 hY0
              by_cases hbr : (textL (l.take (k + 1))).length ≤ 65536
              · have hbr2 : (TB.size : Int) ≤ 65536 := by omega
                clear hTsz hPz hTBs
                go_wp2_with (at_builtin; refine wpList_append_own _ rfl (.tmp 65) (.tmp 67) 39 rfl w2.heap.size 9 i0 (.string ⟨#[]⟩) 1 16 Tryd.underlying39 hi hz0 hz1 hz2 rfl (by decide) _ _ _ rfl (hown.alloc _) ⟨w3.heap.size, 0, none⟩ 1 1 [.string Y] rfl rfl (cell_one_new _ _ _) (by simp [Value.oneCell']) (by unfold maxLen; omega) (by omega) (by simp; omega) ?_; intro v' w5 hown5 hgrow _; have hbw5 : Below w2.heap.size w2 w5 := (hbw.alloc hbw.size _).grown hgrow (by simp; omega) (fun j hj => (hown.lt j hj).1))
                have hownN : w5.ownsRow w2.heap.size 9 1 v' (wantL (l.take (k + 1))).length (strs (wantL (l.take (k + 1)))) := by
                  rw [HW1.out, strs_snoc, List.length_append, ← HZ.out]
                  exact hown5
                exact ⟨⟨k + 1, by go_num, by omega, by rw [HT1.out], hbr, hownN, hbw5⟩, by simp [intOf]; omega⟩
              · have hbr2 : (65536 : Int) < (TB.size : Int) := by omega
                have hTTl0 : (textL (l.take (k + 1))).length ≤ 70000 := by omega
                clear hTsz hPz hTBs
                go_wp2_with (at_builtin; refine wpList_append_own _ rfl (.tmp 65) (.tmp 67) 39 rfl w2.heap.size 9 i0 (.string ⟨#[]⟩) 1 16 Tryd.underlying39 hi hz0 hz1 hz2 rfl (by decide) _ _ _ rfl (hown.alloc _) ⟨w3.heap.size, 0, none⟩ 1 1 [.string Y] rfl rfl (cell_one_new _ _ _) (by simp [Value.oneCell']) (by unfold maxLen; omega) (by omega) (by simp; omega) ?_; intro v' w5 hown5 hgrow _; have hbw5 : Below w2.heap.size w2 w5 := (hbw.alloc hbw.size _).grown hgrow (by simp; omega) (fun j hj => (hown.lt j hj).1))
                have hownN : w5.ownsRow w2.heap.size 9 1 v' (wantL (l.take (k + 1))).length (strs (wantL (l.take (k + 1)))) := by
                  rw [HW1.out, strs_snoc, List.length_append, ← HZ.out]
                  exact hown5
                have hLW := lines_text (l.take (k + 1))
                have hTTl := hTTl0
                clear hTTl0
                have hWWl : (wantL (l.take (k + 1))).length ≤ 1048576 := by rw [want_le, List.length_take]; omega
                rw [← HT1.out]
                generalize textL (l.take (k + 1)) = TT at *
                generalize wantL (l.take (k + 1)) = WW at *
                have HLL : Hid (∀ (W : World), MaxLen W → Calls Tryd.prog 27 #[.string ⟨TT.toArray⟩] W fun e w' => ∃ v, e = .returned v ∧ w'.ownsRow W.heap.size 9 1 v WW.length (strs WW) ∧ Below W.heap.size W w') := Lib.hid (fun W h => by
                  have := Lines_any ⟨TT.toArray⟩ W h (by rw [u_sz]; omega)
                  rw [bl_mk, hLW] at this
                  exact this)
                clear hLW
                have hMW : MaxLen w5 := (hM.far hb3 hMl).far hbw5 (by omega)
                have hsW := hbw5.size
                go_wp2_with (first
                  | (go_at_call 27; refine (HLL.out _ hMW).mono ?_; rintro e w6 ⟨v6, rfl, hown6, hb6⟩; obtain ⟨A6, c6, rfl⟩ := own_form hown6; have hownW6 := own_below hownN hb6; have hbw6 := Below.nx hbw5 (Nat.le_refl _) hb6)
                  | (go_at_call 28; (refine (SameTexts_any _ _ WW WW w6.heap.size w6 (Sl.of_own hown6) (Sl.of_own hownW6) (by omega) (by omega)).mono ?_); rintro e w7 ⟨rfl, hb7⟩))
                have hown7 := own_below hown6 hb7
                have hownW7 := own_below hownW6 hb7
                have hbw7 := Below.nx hbw6 (Nat.le_refl _) hb7
                have hWl : ∀ g, v'.ownBlock = some g → g < w5.heap.size := fun g hg => (hownN.lt g hg).2
                clear hown6 hownW6 hb6 hb7
                go_loopw [10, 81] (fun _ u81 wq => ∃ (m : Nat) (xs : List Value), u81 = .int .i64 m ∧ m ≤ WW.length ∧ wq.ownsRow w5.heap.size 9 1 (.slice A6 WW.length c6) WW.length xs ∧ wq.ownsRow w2.heap.size 9 1 v' WW.length (strs WW) ∧ Below w2.heap.size w2 wq) (fun _ u81 _ => WW.length - (intOf u81).toNat)
                case atStart => exact ⟨0, _, rfl, Nat.zero_le _, hown7, hownW7, hbw7⟩
                case round =>
                  obtain ⟨m, xs, rfl, hm, hownr, hownq, hbwr⟩ := hrel
                  have hszr := hbwr.size
                  have hxsl : xs.length = WW.length := by simpa using hownr.1
                  by_cases hmlt : m < WW.length
                  · obtain ⟨g, cap, hvv, hgB⟩ := u_head hownr (by omega)
                    obtain ⟨rfl, rfl⟩ : A6 = some ⟨g, 0, none⟩ ∧ c6 = cap := by simpa using hvv
                    have gg1 : wr.cell? ⟨g, m, none⟩ = some (xs[m]'(by omega)) := by
                      rw [hownr.cellAt m (by omega)]
                      exact List.getElem?_eq_getElem (by omega)
                    have ff1 := hownr.frozenAt m
                    have m1 : (0 : Int) ≤ (m : Int) := by omega
                    have m2 : (m : Int) < (WW.length : Int) := by omega
                    go_wp2
                    exact ⟨⟨m + 1, _, by go_num, by omega, (hownr.stored m _).1, ownsRow_setCell_other hownq (fun e => by have := hWl g e; omega) _, hbwr.setCell (p := ⟨g, m, none⟩) (by simp only; omega) _⟩, by simp [intOf]; omega⟩
                  · obtain rfl : m = WW.length := by omega
                    have hMr : MaxLen wr := (hM.far hb3 hMl).far hbwr (by omega)
                    go_wp2_with (first
                      | (go_at_call 27; refine (HLL.out _ hMr).mono ?_; rintro e w8 ⟨v8, rfl, hown8, hb8⟩; have hownq8 := own_below hownq hb8; have hbw8 := Below.nx hbwr (Nat.le_refl _) hb8)
                      | (go_at_call 28; (refine (SameTexts_any _ _ WW WW w8.heap.size w8 (Sl.of_own hown8) (Sl.of_own hownq8) (by omega) (by omega)).mono ?_); rintro e w9 ⟨rfl, hb9⟩; have hbw9 := Below.nx hbw8 (Nat.le_refl _) hb9))
                    go_ret
                    exact ⟨rfl, hb3.trans (hbw9.mono hs2)⟩
            · have hYs : Y.size = z.length + 1 := by rw [← bl_length, hl1]; simp
              have hYl : z.length < Y.size := by omega
              have hYb : Y[z.length]'hYl = b := by
                have h1 : (bl Y)[z.length]? = some b := by rw [hl1]; simp
                have h2 : (bl Y)[z.length]? = some (Y[z.length]'hYl) := List.getElem?_eq_getElem (by rw [bl_length]; exact hYl)
                rw [h2] at h1
                exact Option.some.inj h1
              have hb13 : ((((Y[z.length]'hYl).toNat : Nat) : Int) == 13) = true := by rw [hYb, hl2]; rfl
              have HZ : Hid (Value.string (Y.extract 0 z.length) = .string ⟨(trim13 (bl Y)).toArray⟩) := Lib.hid (by
                rw [hl3]
                refine congrArg Value.string (bl_inj (show bl (Y.extract 0 z.length) = bl ⟨z.toArray⟩ from ?_))
                rw [bl_to, bl_mk]
                have h5 : (bl Y).take z.length = z := by rw [hl1]; simp
                exact h5)
              have hYi : (Y.size : Int) - 1 = (z.length : Int) := by omega
              have y0 : (0 : Int) ≤ (z.length : Int) := by omega
              have y1 : (z.length : Int) < (Y.size : Int) := by omega
              have y2 : (z.length : Int) ≤ (Y.size : Int) := by omega
              have y3 : (0 : Int) < (Y.size : Int) := by omega
              clear hl1 hl2 hl3 hYb hYs
              generalize z.length = q at *
              by_cases hbr : (textL (l.take (k + 1))).length ≤ 65536
              · have hbr2 : (TB.size : Int) ≤ 65536 := by omega
                clear hTsz hPz hTBs
                go_wp2_with (at_builtin; refine wpList_append_own _ rfl (.tmp 65) (.tmp 67) 39 rfl w2.heap.size 9 i0 (.string ⟨#[]⟩) 1 16 Tryd.underlying39 hi hz0 hz1 hz2 rfl (by decide) _ _ _ rfl (hown.alloc _) ⟨w3.heap.size, 0, none⟩ 1 1 [.string (Y.extract 0 q)] rfl rfl (cell_one_new _ _ _) (by simp [Value.oneCell']) (by unfold maxLen; omega) (by omega) (by simp; omega) ?_; intro v' w5 hown5 hgrow _; have hbw5 : Below w2.heap.size w2 w5 := (hbw.alloc hbw.size _).grown hgrow (by simp; omega) (fun j hj => (hown.lt j hj).1))
                have hownN : w5.ownsRow w2.heap.size 9 1 v' (wantL (l.take (k + 1))).length (strs (wantL (l.take (k + 1)))) := by
                  rw [HW1.out, strs_snoc, List.length_append, ← HZ.out]
                  exact hown5
                exact ⟨⟨k + 1, by go_num, by omega, by rw [HT1.out], hbr, hownN, hbw5⟩, by simp [intOf]; omega⟩
              · have hbr2 : (65536 : Int) < (TB.size : Int) := by omega
                have hTTl0 : (textL (l.take (k + 1))).length ≤ 70000 := by omega
                clear hTsz hPz hTBs
                go_wp2_with (at_builtin; refine wpList_append_own _ rfl (.tmp 65) (.tmp 67) 39 rfl w2.heap.size 9 i0 (.string ⟨#[]⟩) 1 16 Tryd.underlying39 hi hz0 hz1 hz2 rfl (by decide) _ _ _ rfl (hown.alloc _) ⟨w3.heap.size, 0, none⟩ 1 1 [.string (Y.extract 0 q)] rfl rfl (cell_one_new _ _ _) (by simp [Value.oneCell']) (by unfold maxLen; omega) (by omega) (by simp; omega) ?_; intro v' w5 hown5 hgrow _; have hbw5 : Below w2.heap.size w2 w5 := (hbw.alloc hbw.size _).grown hgrow (by simp; omega) (fun j hj => (hown.lt j hj).1))
                have hownN : w5.ownsRow w2.heap.size 9 1 v' (wantL (l.take (k + 1))).length (strs (wantL (l.take (k + 1)))) := by
                  rw [HW1.out, strs_snoc, List.length_append, ← HZ.out]
                  exact hown5
                have hLW := lines_text (l.take (k + 1))
                have hTTl := hTTl0
                clear hTTl0
                have hWWl : (wantL (l.take (k + 1))).length ≤ 1048576 := by rw [want_le, List.length_take]; omega
                rw [← HT1.out]
                generalize textL (l.take (k + 1)) = TT at *
                generalize wantL (l.take (k + 1)) = WW at *
                have HLL : Hid (∀ (W : World), MaxLen W → Calls Tryd.prog 27 #[.string ⟨TT.toArray⟩] W fun e w' => ∃ v, e = .returned v ∧ w'.ownsRow W.heap.size 9 1 v WW.length (strs WW) ∧ Below W.heap.size W w') := Lib.hid (fun W h => by
                  have := Lines_any ⟨TT.toArray⟩ W h (by rw [u_sz]; omega)
                  rw [bl_mk, hLW] at this
                  exact this)
                clear hLW
                have hMW : MaxLen w5 := (hM.far hb3 hMl).far hbw5 (by omega)
                have hsW := hbw5.size
                go_wp2_with (first
                  | (go_at_call 27; refine (HLL.out _ hMW).mono ?_; rintro e w6 ⟨v6, rfl, hown6, hb6⟩; obtain ⟨A6, c6, rfl⟩ := own_form hown6; have hownW6 := own_below hownN hb6; have hbw6 := Below.nx hbw5 (Nat.le_refl _) hb6)
                  | (go_at_call 28; (refine (SameTexts_any _ _ WW WW w6.heap.size w6 (Sl.of_own hown6) (Sl.of_own hownW6) (by omega) (by omega)).mono ?_); rintro e w7 ⟨rfl, hb7⟩))
                have hown7 := own_below hown6 hb7
                have hownW7 := own_below hownW6 hb7
                have hbw7 := Below.nx hbw6 (Nat.le_refl _) hb7
                have hWl : ∀ g, v'.ownBlock = some g → g < w5.heap.size := fun g hg => (hownN.lt g hg).2
                clear hown6 hownW6 hb6 hb7
                go_loopw [10, 81] (fun _ u81 wq => ∃ (m : Nat) (xs : List Value), u81 = .int .i64 m ∧ m ≤ WW.length ∧ wq.ownsRow w5.heap.size 9 1 (.slice A6 WW.length c6) WW.length xs ∧ wq.ownsRow w2.heap.size 9 1 v' WW.length (strs WW) ∧ Below w2.heap.size w2 wq) (fun _ u81 _ => WW.length - (intOf u81).toNat)
                case atStart => exact ⟨0, _, rfl, Nat.zero_le _, hown7, hownW7, hbw7⟩
                case round =>
                  obtain ⟨m, xs, rfl, hm, hownr, hownq, hbwr⟩ := hrel
                  have hszr := hbwr.size
                  have hxsl : xs.length = WW.length := by simpa using hownr.1
                  by_cases hmlt : m < WW.length
                  · obtain ⟨g, cap, hvv, hgB⟩ := u_head hownr (by omega)
                    obtain ⟨rfl, rfl⟩ : A6 = some ⟨g, 0, none⟩ ∧ c6 = cap := by simpa using hvv
                    have gg1 : wr.cell? ⟨g, m, none⟩ = some (xs[m]'(by omega)) := by
                      rw [hownr.cellAt m (by omega)]
                      exact List.getElem?_eq_getElem (by omega)
                    have ff1 := hownr.frozenAt m
                    have m1 : (0 : Int) ≤ (m : Int) := by omega
                    have m2 : (m : Int) < (WW.length : Int) := by omega
                    go_wp2
                    exact ⟨⟨m + 1, _, by go_num, by omega, (hownr.stored m _).1, ownsRow_setCell_other hownq (fun e => by have := hWl g e; omega) _, hbwr.setCell (p := ⟨g, m, none⟩) (by simp only; omega) _⟩, by simp [intOf]; omega⟩
                  · obtain rfl : m = WW.length := by omega
                    have hMr : MaxLen wr := (hM.far hb3 hMl).far hbwr (by omega)
                    go_wp2_with (first
                      | (go_at_call 27; refine (HLL.out _ hMr).mono ?_; rintro e w8 ⟨v8, rfl, hown8, hb8⟩; have hownq8 := own_below hownq hb8; have hbw8 := Below.nx hbwr (Nat.le_refl _) hb8)
                      | (go_at_call 28; (refine (SameTexts_any _ _ WW WW w8.heap.size w8 (Sl.of_own hown8) (Sl.of_own hownq8) (by omega) (by omega)).mono ?_); rintro e w9 ⟨rfl, hb9⟩; have hbw9 := Below.nx hbw8 (Nat.le_refl _) hb9))
                    go_ret
                    exact ⟨rfl, hb3.trans (hbw9.mono hs2)⟩
            · have hYs : Y.size = z.length + 1 := by rw [← bl_length, hl1]; simp
              have hYl : z.length < Y.size := by omega
              have hYb : Y[z.length]'hYl = b := by
                have h1 : (bl Y)[z.length]? = some b := by rw [hl1]; simp
                have h2 : (bl Y)[z.length]? = some (Y[z.length]'hYl) := List.getElem?_eq_getElem (by rw [bl_length]; exact hYl)
                rw [h2] at h1
                exact Option.some.inj h1
              have hb13 : ((((Y[z.length]'hYl).toNat : Nat) : Int) == 13) = false := by
                simp only [beq_eq_false_iff_ne, ne_eq]
                intro h
                exact hl2 (by rw [← hYb]; exact UInt8.toNat_inj.1 (by simpa using Int.ofNat.inj h))
              have HZ : Hid (Value.string Y = .string ⟨(trim13 (bl Y)).toArray⟩) := Lib.hid (by rw [hl3])
              have hYi : (Y.size : Int) - 1 = (z.length : Int) := by omega
              have y0 : (0 : Int) ≤ (z.length : Int) := by omega
              have y1 : (z.length : Int) < (Y.size : Int) := by omega
              have y3 : (0 : Int) < (Y.size : Int) := by omega
              clear hl1 hl2 hl3 hYb hYs
              generalize z.length = q at *
              by_cases hbr : (textL (l.take (k + 1))).length ≤ 65536
              · have hbr2 : (TB.size : Int) ≤ 65536 := by omega
                clear hTsz hPz hTBs
                go_wp2_with (at_builtin; refine wpList_append_own _ rfl (.tmp 65) (.tmp 67) 39 rfl w2.heap.size 9 i0 (.string ⟨#[]⟩) 1 16 Tryd.underlying39 hi hz0 hz1 hz2 rfl (by decide) _ _ _ rfl (hown.alloc _) ⟨w3.heap.size, 0, none⟩ 1 1 [.string Y] rfl rfl (cell_one_new _ _ _) (by simp [Value.oneCell']) (by unfold maxLen; omega) (by omega) (by simp; omega) ?_; intro v' w5 hown5 hgrow _; have hbw5 : Below w2.heap.size w2 w5 := (hbw.alloc hbw.size _).grown hgrow (by simp; omega) (fun j hj => (hown.lt j hj).1))
                have hownN : w5.ownsRow w2.heap.size 9 1 v' (wantL (l.take (k + 1))).length (strs (wantL (l.take (k + 1)))) := by
                  rw [HW1.out, strs_snoc, List.length_append, ← HZ.out]
                  exact hown5
                exact ⟨⟨k + 1, by go_num, by omega, by rw [HT1.out], hbr, hownN, hbw5⟩, by simp [intOf]; omega⟩
              · have hbr2 : (65536 : Int) < (TB.size : Int) := by omega
                have hTTl0 : (textL (l.take (k + 1))).length ≤ 70000 := by omega
                clear hTsz hPz hTBs
                go_wp2_with (at_builtin; refine wpList_append_own _ rfl (.tmp 65) (.tmp 67) 39 rfl w2.heap.size 9 i0 (.string ⟨#[]⟩) 1 16 Tryd.underlying39 hi hz0 hz1 hz2 rfl (by decide) _ _ _ rfl (hown.alloc _) ⟨w3.heap.size, 0, none⟩ 1 1 [.string Y] rfl rfl (cell_one_new _ _ _) (by simp [Value.oneCell']) (by unfold maxLen; omega) (by omega) (by simp; omega) ?_; intro v' w5 hown5 hgrow _; have hbw5 : Below w2.heap.size w2 w5 := (hbw.alloc hbw.size _).grown hgrow (by simp; omega) (fun j hj => (hown.lt j hj).1))
                have hownN : w5.ownsRow w2.heap.size 9 1 v' (wantL (l.take (k + 1))).length (strs (wantL (l.take (k + 1)))) := by
                  rw [HW1.out, strs_snoc, List.length_append, ← HZ.out]
                  exact hown5
                have hLW := lines_text (l.take (k + 1))
                have hTTl := hTTl0
                clear hTTl0
                have hWWl : (wantL (l.take (k + 1))).length ≤ 1048576 := by rw [want_le, List.length_take]; omega
                rw [← HT1.out]
                generalize textL (l.take (k + 1)) = TT at *
                generalize wantL (l.take (k + 1)) = WW at *
                have HLL : Hid (∀ (W : World), MaxLen W → Calls Tryd.prog 27 #[.string ⟨TT.toArray⟩] W fun e w' => ∃ v, e = .returned v ∧ w'.ownsRow W.heap.size 9 1 v WW.length (strs WW) ∧ Below W.heap.size W w') := Lib.hid (fun W h => by
                  have := Lines_any ⟨TT.toArray⟩ W h (by rw [u_sz]; omega)
                  rw [bl_mk, hLW] at this
                  exact this)
                clear hLW
                have hMW : MaxLen w5 := (hM.far hb3 hMl).far hbw5 (by omega)
                have hsW := hbw5.size
                go_wp2_with (first
                  | (go_at_call 27; refine (HLL.out _ hMW).mono ?_; rintro e w6 ⟨v6, rfl, hown6, hb6⟩; obtain ⟨A6, c6, rfl⟩ := own_form hown6; have hownW6 := own_below hownN hb6; have hbw6 := Below.nx hbw5 (Nat.le_refl _) hb6)
                  | (go_at_call 28; (refine (SameTexts_any _ _ WW WW w6.heap.size w6 (Sl.of_own hown6) (Sl.of_own hownW6) (by omega) (by omega)).mono ?_); rintro e w7 ⟨rfl, hb7⟩))
                have hown7 := own_below hown6 hb7
                have hownW7 := own_below hownW6 hb7
                have hbw7 := Below.nx hbw6 (Nat.le_refl _) hb7
                have hWl : ∀ g, v'.ownBlock = some g → g < w5.heap.size := fun g hg => (hownN.lt g hg).2
                clear hown6 hownW6 hb6 hb7
                go_loopw [10, 81] (fun _ u81 wq => ∃ (m : Nat) (xs : List Value), u81 = .int .i64 m ∧ m ≤ WW.length ∧ wq.ownsRow w5.heap.size 9 1 (.slice A6 WW.length c6) WW.length xs ∧ wq.ownsRow w2.heap.size 9 1 v' WW.length (strs WW) ∧ Below w2.heap.size w2 wq) (fun _ u81 _ => WW.length - (intOf u81).toNat)
                case atStart => exact ⟨0, _, rfl, Nat.zero_le _, hown7, hownW7, hbw7⟩
                case round =>
                  obtain ⟨m, xs, rfl, hm, hownr, hownq, hbwr⟩ := hrel
                  have hszr := hbwr.size
                  have hxsl : xs.length = WW.length := by simpa using hownr.1
                  by_cases hmlt : m < WW.length
                  · obtain ⟨g, cap, hvv, hgB⟩ := u_head hownr (by omega)
                    obtain ⟨rfl, rfl⟩ : A6 = some ⟨g, 0, none⟩ ∧ c6 = cap := by simpa using hvv
                    have gg1 : wr.cell? ⟨g, m, none⟩ = some (xs[m]'(by omega)) := by
                      rw [hownr.cellAt m (by omega)]
                      exact List.getElem?_eq_getElem (by omega)
                    have ff1 := hownr.frozenAt m
                    have m1 : (0 : Int) ≤ (m : Int) := by omega
                    have m2 : (m : Int) < (WW.length : Int) := by omega
                    go_wp2
                    exact ⟨⟨m + 1, _, by go_num, by omega, (hownr.stored m _).1, ownsRow_setCell_other hownq (fun e => by have := hWl g e; omega) _, hbwr.setCell (p := ⟨g, m, none⟩) (by simp only; omega) _⟩, by simp [intOf]; omega⟩
                  · obtain rfl : m = WW.length := by omega
                    have hMr : MaxLen wr := (hM.far hb3 hMl).far hbwr (by omega)
                    go_wp2_with (first
                      | (go_at_call 27; refine (HLL.out _ hMr).mono ?_; rintro e w8 ⟨v8, rfl, hown8, hb8⟩; have hownq8 := own_below hownq hb8; have hbw8 := Below.nx hbwr (Nat.le_refl _) hb8)
                      | (go_at_call 28; (refine (SameTexts_any _ _ WW WW w8.heap.size w8 (Sl.of_own hown8) (Sl.of_own hownq8) (by omega) (by omega)).mono ?_); rintro e w9 ⟨rfl, hb9⟩; have hbw9 := Below.nx hbw8 (Nat.le_refl _) hb9))
                    go_ret
                    exact ⟨rfl, hb3.trans (hbw9.mono hs2)⟩
          · rcases hlast with ⟨hl1, hl2⟩ | ⟨z, b, hl1, ⟨hl2, hl3⟩ | ⟨hl2, hl3⟩⟩
            · have hY0 : Y.size = 0 := by rw [← bl_length, hl1]; rfl
              have HZ : Hid (Value.string Y = .string ⟨(trim13 (bl Y)).toArray⟩) := Lib.hid (by rw [hl2]; exact congrArg Value.string (bl_inj hl1))
              have hYe : (Y.size : Int) ≤ 0 := by omega
              clear hl1 hl2 hY0
              by_cases hbr : (textL (l.take (k + 1))).length ≤ 65536
              · have hbr2 : (TB.size : Int) ≤ 65536 := by omega
                clear hTsz hPz hTBs
                go_wp2_with (at_builtin; refine wpList_append_own _ rfl (.tmp 65) (.tmp 67) 39 rfl w2.heap.size 9 i0 (.string ⟨#[]⟩) 1 16 Tryd.underlying39 hi hz0 hz1 hz2 rfl (by decide) _ _ _ rfl (hown.alloc _) ⟨w3.heap.size, 0, none⟩ 1 1 [.string Y] rfl rfl (cell_one_new _ _ _) (by simp [Value.oneCell']) (by unfold maxLen; omega) (by omega) (by simp; omega) ?_; intro v' w5 hown5 hgrow _; have hbw5 : Below w2.heap.size w2 w5 := (hbw.alloc hbw.size _).grown hgrow (by simp; omega) (fun j hj => (hown.lt j hj).1))
                have hownN : w5.ownsRow w2.heap.size 9 1 v' (wantL (l.take (k + 1))).length (strs (wantL (l.take (k + 1)))) := by
                  rw [HW1.out, strs_snoc, List.length_append, ← HZ.out]
                  exact hown5
                exact ⟨⟨k + 1, by go_num, by omega, by rw [HT1.out], hbr, hownN, hbw5⟩, by simp [intOf]; omega⟩
              · have hbr2 : (65536 : Int) < (TB.size : Int) := by omega
                have hTTl0 : (textL (l.take (k + 1))).length ≤ 70000 := by omega
                clear hTsz hPz hTBs
                go_wp2_with (at_builtin; refine wpList_append_own _ rfl (.tmp 65) (.tmp 67) 39 rfl w2.heap.size 9 i0 (.string ⟨#[]⟩) 1 16 Tryd.underlying39 hi hz0 hz1 hz2 rfl (by decide) _ _ _ rfl (hown.alloc _) ⟨w3.heap.size, 0, none⟩ 1 1 [.string Y] rfl rfl (cell_one_new _ _ _) (by simp [Value.oneCell']) (by unfold maxLen; omega) (by omega) (by simp; omega) ?_; intro v' w5 hown5 hgrow _; have hbw5 : Below w2.heap.size w2 w5 := (hbw.alloc hbw.size _).grown hgrow (by simp; omega) (fun j hj => (hown.lt j hj).1))
                have hownN : w5.ownsRow w2.heap.size 9 1 v' (wantL (l.take (k + 1))).length (strs (wantL (l.take (k + 1)))) := by
                  rw [HW1.out, strs_snoc, List.length_append, ← HZ.out]
                  exact hown5
                have hLW := lines_text (l.take (k + 1))
                have hTTl := hTTl0
                clear hTTl0
                have hWWl : (wantL (l.take (k + 1))).length ≤ 1048576 := by rw [want_le, List.length_take]; omega
                rw [← HT1.out]
                generalize textL (l.take (k + 1)) = TT at *
                generalize wantL (l.take (k + 1)) = WW at *
                have HLL : Hid (∀ (W : World), MaxLen W → Calls Tryd.prog 27 #[.string ⟨TT.toArray⟩] W fun e w' => ∃ v, e = .returned v ∧ w'.ownsRow W.heap.size 9 1 v WW.length (strs WW) ∧ Below W.heap.size W w') := Lib.hid (fun W h => by
                  have := Lines_any ⟨TT.toArray⟩ W h (by rw [u_sz]; omega)
                  rw [bl_mk, hLW] at this
                  exact this)
                clear hLW
                have hMW : MaxLen w5 := (hM.far hb3 hMl).far hbw5 (by omega)
                have hsW := hbw5.size
                go_wp2_with (first
                  | (go_at_call 27; refine (HLL.out _ hMW).mono ?_; rintro e w6 ⟨v6, rfl, hown6, hb6⟩; obtain ⟨A6, c6, rfl⟩ := own_form hown6; have hownW6 := own_below hownN hb6; have hbw6 := Below.nx hbw5 (Nat.le_refl _) hb6)
                  | (go_at_call 28; (refine (SameTexts_any _ _ WW WW w6.heap.size w6 (Sl.of_own hown6) (Sl.of_own hownW6) (by omega) (by omega)).mono ?_); rintro e w7 ⟨rfl, hb7⟩))
                have hown7 := own_below hown6 hb7
                have hownW7 := own_below hownW6 hb7
                have hbw7 := Below.nx hbw6 (Nat.le_refl _) hb7
                have hWl : ∀ g, v'.ownBlock = some g → g < w5.heap.size := fun g hg => (hownN.lt g hg).2
                clear hown6 hownW6 hb6 hb7
                go_loopw [10, 81] (fun _ u81 wq => ∃ (m : Nat) (xs : List Value), u81 = .int .i64 m ∧ m ≤ WW.length ∧ wq.ownsRow w5.heap.size 9 1 (.slice A6 WW.length c6) WW.length xs ∧ wq.ownsRow w2.heap.size 9 1 v' WW.length (strs WW) ∧ Below w2.heap.size w2 wq) (fun _ u81 _ => WW.length - (intOf u81).toNat)
                case atStart => exact ⟨0, _, rfl, Nat.zero_le _, hown7, hownW7, hbw7⟩
                case round =>
                  obtain ⟨m, xs, rfl, hm, hownr, hownq, hbwr⟩ := hrel
                  have hszr := hbwr.size
                  have hxsl : xs.length = WW.length := by simpa using hownr.1
                  by_cases hmlt : m < WW.length
                  · obtain ⟨g, cap, hvv, hgB⟩ := u_head hownr (by omega)
                    obtain ⟨rfl, rfl⟩ : A6 = some ⟨g, 0, none⟩ ∧ c6 = cap := by simpa using hvv
                    have gg1 : wr.cell? ⟨g, m, none⟩ = some (xs[m]'(by omega)) := by
                      rw [hownr.cellAt m (by omega)]
                      exact List.getElem?_eq_getElem (by omega)
                    have ff1 := hownr.frozenAt m
                    have m1 : (0 : Int) ≤ (m : Int) := by omega
                    have m2 : (m : Int) < (WW.length : Int) := by omega
                    go_wp2
                    exact ⟨⟨m + 1, _, by go_num, by omega, (hownr.stored m _).1, ownsRow_setCell_other hownq (fun e => by have := hWl g e; omega) _, hbwr.setCell (p := ⟨g, m, none⟩) (by simp only; omega) _⟩, by simp [intOf]; omega⟩
                  · obtain rfl : m = WW.length := by omega
                    have hMr : MaxLen wr := (hM.far hb3 hMl).far hbwr (by omega)
                    go_wp2_with (first
                      | (go_at_call 27; refine (HLL.out _ hMr).mono ?_; rintro e w8 ⟨v8, rfl, hown8, hb8⟩; have hownq8 := own_below hownq hb8; have hbw8 := Below.nx hbwr (Nat.le_refl _) hb8)
                      | (go_at_call 28; (refine (SameTexts_any _ _ WW WW w8.heap.size w8 (Sl.of_own hown8) (Sl.of_own hownq8) (by omega) (by omega)).mono ?_); rintro e w9 ⟨rfl, hb9⟩; have hbw9 := Below.nx hbw8 (Nat.le_refl _) hb9))
                    go_ret
                    exact ⟨rfl, hb3.trans (hbw9.mono hs2)⟩
            · have hYs : Y.size = z.length + 1 := by rw [← bl_length, hl1]; simp
              have hYl : z.length < Y.size := by omega
              have hYb : Y[z.length]'hYl = b := by
                have h1 : (bl Y)[z.length]? = some b := by rw [hl1]; simp
                have h2 : (bl Y)[z.length]? = some (Y[z.length]'hYl) := List.getElem?_eq_getElem (by rw [bl_length]; exact hYl)
                rw [h2] at h1
                exact Option.some.inj h1
              have hb13 : ((((Y[z.length]'hYl).toNat : Nat) : Int) == 13) = true := by rw [hYb, hl2]; rfl
              have HZ : Hid (Value.string (Y.extract 0 z.length) = .string ⟨(trim13 (bl Y)).toArray⟩) := Lib.hid (by
                rw [hl3]
                refine congrArg Value.string (bl_inj (show bl (Y.extract 0 z.length) = bl ⟨z.toArray⟩ from ?_))
                rw [bl_to, bl_mk]
                have h5 : (bl Y).take z.length = z := by rw [hl1]; simp
                exact h5)
              have hYi : (Y.size : Int) - 1 = (z.length : Int) := by omega
              have y0 : (0 : Int) ≤ (z.length : Int) := by omega
              have y1 : (z.length : Int) < (Y.size : Int) := by omega
              have y2 : (z.length : Int) ≤ (Y.size : Int) := by omega
              have y3 : (0 : Int) < (Y.size : Int) := by omega
              clear hl1 hl2 hl3 hYb hYs
              generalize z.length = q at *
              by_cases hbr : (textL (l.take (k + 1))).length ≤ 65536
              · have hbr2 : (TB.size : Int) ≤ 65536 := by omega
                clear hTsz hPz hTBs
                go_wp2_with (at_builtin; refine wpList_append_own _ rfl (.tmp 65) (.tmp 67) 39 rfl w2.heap.size 9 i0 (.string ⟨#[]⟩) 1 16 Tryd.underlying39 hi hz0 hz1 hz2 rfl (by decide) _ _ _ rfl (hown.alloc _) ⟨w3.heap.size, 0, none⟩ 1 1 [.string (Y.extract 0 q)] rfl rfl (cell_one_new _ _ _) (by simp [Value.oneCell']) (by unfold maxLen; omega) (by omega) (by simp; omega) ?_; intro v' w5 hown5 hgrow _; have hbw5 : Below w2.heap.size w2 w5 := (hbw.alloc hbw.size _).grown hgrow (by simp; omega) (fun j hj => (hown.lt j hj).1))
                have hownN : w5.ownsRow w2.heap.size 9 1 v' (wantL (l.take (k + 1))).length (strs (wantL (l.take (k + 1)))) := by
                  rw [HW1.out, strs_snoc, List.length_append, ← HZ.out]
                  exact hown5
                exact ⟨⟨k + 1, by go_num, by omega, by rw [HT1.out], hbr, hownN, hbw5⟩, by simp [intOf]; omega⟩
              · have hbr2 : (65536 : Int) < (TB.size : Int) := by omega
                have hTTl0 : (textL (l.take (k + 1))).length ≤ 70000 := by omega
                clear hTsz hPz hTBs
                go_wp2_with (at_builtin; refine wpList_append_own _ rfl (.tmp 65) (.tmp 67) 39 rfl w2.heap.size 9 i0 (.string ⟨#[]⟩) 1 16 Tryd.underlying39 hi hz0 hz1 hz2 rfl (by decide) _ _ _ rfl (hown.alloc _) ⟨w3.heap.size, 0, none⟩ 1 1 [.string (Y.extract 0 q)] rfl rfl (cell_one_new _ _ _) (by simp [Value.oneCell']) (by unfold maxLen; omega) (by omega) (by simp; omega) ?_; intro v' w5 hown5 hgrow _; have hbw5 : Below w2.heap.size w2 w5 := (hbw.alloc hbw.size _).grown hgrow (by simp; omega) (fun j hj => (hown.lt j hj).1))
                have hownN : w5.ownsRow w2.heap.size 9 1 v' (wantL (l.take (k + 1))).length (strs (wantL (l.take (k + 1)))) := by
                  rw [HW1.out, strs_snoc, List.length_append, ← HZ.out]
                  exact hown5
                have hLW := lines_text (l.take (k + 1))
                have hTTl := hTTl0
                clear hTTl0
                have hWWl : (wantL (l.take (k + 1))).length ≤ 1048576 := by rw [want_le, List.length_take]; omega
                rw [← HT1.out]
                generalize textL (l.take (k + 1)) = TT at *
                generalize wantL (l.take (k + 1)) = WW at *
                have HLL : Hid (∀ (W : World), MaxLen W → Calls Tryd.prog 27 #[.string ⟨TT.toArray⟩] W fun e w' => ∃ v, e = .returned v ∧ w'.ownsRow W.heap.size 9 1 v WW.length (strs WW) ∧ Below W.heap.size W w') := Lib.hid (fun W h => by
                  have := Lines_any ⟨TT.toArray⟩ W h (by rw [u_sz]; omega)
                  rw [bl_mk, hLW] at this
                  exact this)
                clear hLW
                have hMW : MaxLen w5 := (hM.far hb3 hMl).far hbw5 (by omega)
                have hsW := hbw5.size
                go_wp2_with (first
                  | (go_at_call 27; refine (HLL.out _ hMW).mono ?_; rintro e w6 ⟨v6, rfl, hown6, hb6⟩; obtain ⟨A6, c6, rfl⟩ := own_form hown6; have hownW6 := own_below hownN hb6; have hbw6 := Below.nx hbw5 (Nat.le_refl _) hb6)
                  | (go_at_call 28; (refine (SameTexts_any _ _ WW WW w6.heap.size w6 (Sl.of_own hown6) (Sl.of_own hownW6) (by omega) (by omega)).mono ?_); rintro e w7 ⟨rfl, hb7⟩))
                have hown7 := own_below hown6 hb7
                have hownW7 := own_below hownW6 hb7
                have hbw7 := Below.nx hbw6 (Nat.le_refl _) hb7
                have hWl : ∀ g, v'.ownBlock = some g → g < w5.heap.size := fun g hg => (hownN.lt g hg).2
                clear hown6 hownW6 hb6 hb7
                go_loopw [10, 81] (fun _ u81 wq => ∃ (m : Nat) (xs : List Value), u81 = .int .i64 m ∧ m ≤ WW.length ∧ wq.ownsRow w5.heap.size 9 1 (.slice A6 WW.length c6) WW.length xs ∧ wq.ownsRow w2.heap.size 9 1 v' WW.length (strs WW) ∧ Below w2.heap.size w2 wq) (fun _ u81 _ => WW.length - (intOf u81).toNat)
                case atStart => exact ⟨0, _, rfl, Nat.zero_le _, hown7, hownW7, hbw7⟩
                case round =>
                  obtain ⟨m, xs, rfl, hm, hownr, hownq, hbwr⟩ := hrel
                  have hszr := hbwr.size
                  have hxsl : xs.length = WW.length := by simpa using hownr.1
                  by_cases hmlt : m < WW.length
                  · obtain ⟨g, cap, hvv, hgB⟩ := u_head hownr (by omega)
                    obtain ⟨rfl, rfl⟩ : A6 = some ⟨g, 0, none⟩ ∧ c6 = cap := by simpa using hvv
                    have gg1 : wr.cell? ⟨g, m, none⟩ = some (xs[m]'(by omega)) := by
                      rw [hownr.cellAt m (by omega)]
                      exact List.getElem?_eq_getElem (by omega)
                    have ff1 := hownr.frozenAt m
                    have m1 : (0 : Int) ≤ (m : Int) := by omega
                    have m2 : (m : Int) < (WW.length : Int) := by omega
                    go_wp2
                    exact ⟨⟨m + 1, _, by go_num, by omega, (hownr.stored m _).1, ownsRow_setCell_other hownq (fun e => by have := hWl g e; omega) _, hbwr.setCell (p := ⟨g, m, none⟩) (by simp only; omega) _⟩, by simp [intOf]; omega⟩
                  · obtain rfl : m = WW.length := by omega
                    have hMr : MaxLen wr := (hM.far hb3 hMl).far hbwr (by omega)
                    go_wp2_with (first
                      | (go_at_call 27; refine (HLL.out _ hMr).mono ?_; rintro e w8 ⟨v8, rfl, hown8, hb8⟩; have hownq8 := own_below hownq hb8; have hbw8 := Below.nx hbwr (Nat.le_refl _) hb8)
                      | (go_at_call 28; (refine (SameTexts_any _ _ WW WW w8.heap.size w8 (Sl.of_own hown8) (Sl.of_own hownq8) (by omega) (by omega)).mono ?_); rintro e w9 ⟨rfl, hb9⟩; have hbw9 := Below.nx hbw8 (Nat.le_refl _) hb9))
                    go_ret
                    exact ⟨rfl, hb3.trans (hbw9.mono hs2)⟩
            · have hYs : Y.size = z.length + 1 := by rw [← bl_length, hl1]; simp
              have hYl : z.length < Y.size := by omega
              have hYb : Y[z.length]'hYl = b := by
                have h1 : (bl Y)[z.length]? = some b := by rw [hl1]; simp
                have h2 : (bl Y)[z.length]? = some (Y[z.length]'hYl) := List.getElem?_eq_getElem (by rw [bl_length]; exact hYl)
                rw [h2] at h1
                exact Option.some.inj h1
              have hb13 : ((((Y[z.length]'hYl).toNat : Nat) : Int) == 13) = false := by
                simp only [beq_eq_false_iff_ne, ne_eq]
                intro h
                exact hl2 (by rw [← hYb]; exact UInt8.toNat_inj.1 (by simpa using Int.ofNat.inj h))
              have HZ : Hid (Value.string Y = .string ⟨(trim13 (bl Y)).toArray⟩) := Lib.hid (by rw [hl3])
              have hYi : (Y.size : Int) - 1 = (z.length : Int) := by omega
              have y0 : (0 : Int) ≤ (z.length : Int) := by omega
              have y1 : (z.length : Int) < (Y.size : Int) := by omega
              have y3 : (0 : Int) < (Y.size : Int) := by omega
              clear hl1 hl2 hl3 hYb hYs
              generalize z.length = q at *
              by_cases hbr : (textL (l.take (k + 1))).length ≤ 65536
              · have hbr2 : (TB.size : Int) ≤ 65536 := by omega
                clear hTsz hPz hTBs
                go_wp2_with (at_builtin; refine wpList_append_own _ rfl (.tmp 65) (.tmp 67) 39 rfl w2.heap.size 9 i0 (.string ⟨#[]⟩) 1 16 Tryd.underlying39 hi hz0 hz1 hz2 rfl (by decide) _ _ _ rfl (hown.alloc _) ⟨w3.heap.size, 0, none⟩ 1 1 [.string Y] rfl rfl (cell_one_new _ _ _) (by simp [Value.oneCell']) (by unfold maxLen; omega) (by omega) (by simp; omega) ?_; intro v' w5 hown5 hgrow _; have hbw5 : Below w2.heap.size w2 w5 := (hbw.alloc hbw.size _).grown hgrow (by simp; omega) (fun j hj => (hown.lt j hj).1))
                have hownN : w5.ownsRow w2.heap.size 9 1 v' (wantL (l.take (k + 1))).length (strs (wantL (l.take (k + 1)))) := by
                  rw [HW1.out, strs_snoc, List.length_append, ← HZ.out]
                  exact hown5
                exact ⟨⟨k + 1, by go_num, by omega, by rw [HT1.out], hbr, hownN, hbw5⟩, by simp [intOf]; omega⟩
              · have hbr2 : (65536 : Int) < (TB.size : Int) := by omega
                have hTTl0 : (textL (l.take (k + 1))).length ≤ 70000 := by omega
                clear hTsz hPz hTBs
                go_wp2_with (at_builtin; refine wpList_append_own _ rfl (.tmp 65) (.tmp 67) 39 rfl w2.heap.size 9 i0 (.string ⟨#[]⟩) 1 16 Tryd.underlying39 hi hz0 hz1 hz2 rfl (by decide) _ _ _ rfl (hown.alloc _) ⟨w3.heap.size, 0, none⟩ 1 1 [.string Y] rfl rfl (cell_one_new _ _ _) (by simp [Value.oneCell']) (by unfold maxLen; omega) (by omega) (by simp; omega) ?_; intro v' w5 hown5 hgrow _; have hbw5 : Below w2.heap.size w2 w5 := (hbw.alloc hbw.size _).grown hgrow (by simp; omega) (fun j hj => (hown.lt j hj).1))
                have hownN : w5.ownsRow w2.heap.size 9 1 v' (wantL (l.take (k + 1))).length (strs (wantL (l.take (k + 1)))) := by
                  rw [HW1.out, strs_snoc, List.length_append, ← HZ.out]
                  exact hown5
                have hLW := lines_text (l.take (k + 1))
                have hTTl := hTTl0
                clear hTTl0
                have hWWl : (wantL (l.take (k + 1))).length ≤ 1048576 := by rw [want_le, List.length_take]; omega
                rw [← HT1.out]
                generalize textL (l.take (k + 1)) = TT at *
                generalize wantL (l.take (k + 1)) = WW at *
                have HLL : Hid (∀ (W : World), MaxLen W → Calls Tryd.prog 27 #[.string ⟨TT.toArray⟩] W fun e w' => ∃ v, e = .returned v ∧ w'.ownsRow W.heap.size 9 1 v WW.length (strs WW) ∧ Below W.heap.size W w') := Lib.hid (fun W h => by
                  have := Lines_any ⟨TT.toArray⟩ W h (by rw [u_sz]; omega)
                  rw [bl_mk, hLW] at this
                  exact this)
                clear hLW
                have hMW : MaxLen w5 := (hM.far hb3 hMl).far hbw5 (by omega)
                have hsW := hbw5.size
                go_wp2_with (first
                  | (go_at_call 27; refine (HLL.out _ hMW).mono ?_; rintro e w6 ⟨v6, rfl, hown6, hb6⟩; obtain ⟨A6, c6, rfl⟩ := own_form hown6; have hownW6 := own_below hownN hb6; have hbw6 := Below.nx hbw5 (Nat.le_refl _) hb6)
                  | (go_at_call 28; (refine (SameTexts_any _ _ WW WW w6.heap.size w6 (Sl.of_own hown6) (Sl.of_own hownW6) (by omega) (by omega)).mono ?_); rintro e w7 ⟨rfl, hb7⟩))
                have hown7 := own_below hown6 hb7
                have hownW7 := own_below hownW6 hb7
                have hbw7 := Below.nx hbw6 (Nat.le_refl _) hb7
                have hWl : ∀ g, v'.ownBlock = some g → g < w5.heap.size := fun g hg => (hownN.lt g hg).2
                clear hown6 hownW6 hb6 hb7
                go_loopw [10, 81] (fun _ u81 wq => ∃ (m : Nat) (xs : List Value), u81 = .int .i64 m ∧ m ≤ WW.length ∧ wq.ownsRow w5.heap.size 9 1 (.slice A6 WW.length c6) WW.length xs ∧ wq.ownsRow w2.heap.size 9 1 v' WW.length (strs WW) ∧ Below w2.heap.size w2 wq) (fun _ u81 _ => WW.length - (intOf u81).toNat)
                case atStart => exact ⟨0, _, rfl, Nat.zero_le _, hown7, hownW7, hbw7⟩
                case round =>
                  obtain ⟨m, xs, rfl, hm, hownr, hownq, hbwr⟩ := hrel
                  have hszr := hbwr.size
                  have hxsl : xs.length = WW.length := by simpa using hownr.1
                  by_cases hmlt : m < WW.length
                  · obtain ⟨g, cap, hvv, hgB⟩ := u_head hownr (by omega)
                    obtain ⟨rfl, rfl⟩ : A6 = some ⟨g, 0, none⟩ ∧ c6 = cap := by simpa using hvv
                    have gg1 : wr.cell? ⟨g, m, none⟩ = some (xs[m]'(by omega)) := by
                      rw [hownr.cellAt m (by omega)]
                      exact List.getElem?_eq_getElem (by omega)
                    have ff1 := hownr.frozenAt m
                    have m1 : (0 : Int) ≤ (m : Int) := by omega
                    have m2 : (m : Int) < (WW.length : Int) := by omega
                    go_wp2
                    exact ⟨⟨m + 1, _, by go_num, by omega, (hownr.stored m _).1, ownsRow_setCell_other hownq (fun e => by have := hWl g e; omega) _, hbwr.setCell (p := ⟨g, m, none⟩) (by simp only; omega) _⟩, by simp [intOf]; omega⟩
                  · obtain rfl : m = WW.length := by omega
                    have hMr : MaxLen wr := (hM.far hb3 hMl).far hbwr (by omega)
                    go_wp2_with (first
                      | (go_at_call 27; refine (HLL.out _ hMr).mono ?_; rintro e w8 ⟨v8, rfl, hown8, hb8⟩; have hownq8 := own_below hownq hb8; have hbw8 := Below.nx hbwr (Nat.le_refl _) hb8)
                      | (go_at_call 28; (refine (SameTexts_any _ _ WW WW w8.heap.size w8 (Sl.of_own hown8) (Sl.of_own hownq8) (by omega) (by omega)).mono ?_); rintro e w9 ⟨rfl, hb9⟩; have hbw9 := Below.nx hbw8 (Nat.le_refl _) hb9))
                    go_ret
                    exact ⟨rfl, hb3.trans (hbw9.mono hs2)⟩
    · obtain rfl : k = l.length := by omega
      rw [List.take_length] at *
      have hLW := lines_text l
      have hWWl : (wantL l).length ≤ 1048576 := by rw [want_le]; omega
      have hTTl : (textL l).length ≤ 70000 := by omega
      clear hwl
      generalize textL l = TT at *
      generalize wantL l = WW at *
      have HLL : Hid (∀ (W : World), MaxLen W → Calls Tryd.prog 27 #[.string ⟨TT.toArray⟩] W fun e w' => ∃ v, e = .returned v ∧ w'.ownsRow W.heap.size 9 1 v WW.length (strs WW) ∧ Below W.heap.size W w') := Lib.hid (fun W h => by
        have := Lines_any ⟨TT.toArray⟩ W h (by rw [u_sz]; omega)
        rw [bl_mk, hLW] at this
        exact this)
      clear hLW
      have hMW : MaxLen wr := (hM.far hb3 hMl).far hbw (by omega)
      have hsW := hbw.size
      go_wp2_with (first
        | (go_at_call 27; refine (HLL.out _ hMW).mono ?_; rintro e w6 ⟨v6, rfl, hown6, hb6⟩; obtain ⟨A6, c6, rfl⟩ := own_form hown6; have hownW6 := own_below hown hb6; have hbw6 := Below.nx hbw (Nat.le_refl _) hb6)
        | (go_at_call 28; (refine (SameTexts_any _ _ WW WW w6.heap.size w6 (Sl.of_own hown6) (Sl.of_own hownW6) (by omega) (by omega)).mono ?_); rintro e w7 ⟨rfl, hb7⟩))
      have hown7 := own_below hown6 hb7
      have hownW7 := own_below hownW6 hb7
      have hbw7 := Below.nx hbw6 (Nat.le_refl _) hb7
      have hWl : ∀ g, u4.ownBlock = some g → g < wr.heap.size := fun g hg => (hown.lt g hg).2
      clear hown6 hownW6 hb6 hb7
      go_loopw [10, 81] (fun _ u81 wq => ∃ (m : Nat) (xs : List Value), u81 = .int .i64 m ∧ m ≤ WW.length ∧ wq.ownsRow wr.heap.size 9 1 (.slice A6 WW.length c6) WW.length xs ∧ wq.ownsRow w2.heap.size 9 1 u4 WW.length (strs WW) ∧ Below w2.heap.size w2 wq) (fun _ u81 _ => WW.length - (intOf u81).toNat)
      case atStart => exact ⟨0, _, rfl, Nat.zero_le _, hown7, hownW7, hbw7⟩
      case round =>
        obtain ⟨m, xs, rfl, hm, hownr, hownq, hbwr⟩ := hrel
        have hszr := hbwr.size
        have hxsl : xs.length = WW.length := by simpa using hownr.1
        by_cases hmlt : m < WW.length
        · obtain ⟨g, cap, hvv, hgB⟩ := u_head hownr (by omega)
          obtain ⟨rfl, rfl⟩ : A6 = some ⟨g, 0, none⟩ ∧ c6 = cap := by simpa using hvv
          have gg1 : wr.cell? ⟨g, m, none⟩ = some (xs[m]'(by omega)) := by
            rw [hownr.cellAt m (by omega)]
            exact List.getElem?_eq_getElem (by omega)
          have ff1 := hownr.frozenAt m
          have m1 : (0 : Int) ≤ (m : Int) := by omega
          have m2 : (m : Int) < (WW.length : Int) := by omega
          go_wp2
          exact ⟨⟨m + 1, _, by go_num, by omega, (hownr.stored m _).1, ownsRow_setCell_other hownq (fun e => by have := hWl g e; omega) _, hbwr.setCell (p := ⟨g, m, none⟩) (by simp only; omega) _⟩, by simp [intOf]; omega⟩
        · obtain rfl : m = WW.length := by omega
          have hMr : MaxLen wr := (hM.far hb3 hMl).far hbwr (by omega)
          go_wp2_with (first
            | (go_at_call 27; refine (HLL.out _ hMr).mono ?_; rintro e w8 ⟨v8, rfl, hown8, hb8⟩; have hownq8 := own_below hownq hb8; have hbw8 := Below.nx hbwr (Nat.le_refl _) hb8)
            | (go_at_call 28; (refine (SameTexts_any _ _ WW WW w8.heap.size w8 (Sl.of_own hown8) (Sl.of_own hownq8) (by omega) (by omega)).mono ?_); rintro e w9 ⟨rfl, hb9⟩; have hbw9 := Below.nx hbw8 (Nat.le_refl _) hb9))
          go_ret
          exact ⟨rfl, hb3.trans (hbw9.mono hs2)⟩
end Go.Proofs.YtlkabghpcjlohaaDoor
