/- WrapWords: for every text and every number the call returns true. -/
import Derived.Test.YtlkabghpcjlohaaW7
import Derived.Laws.BytesArg
namespace Go.Proofs.Ytlkabghpcjlohaa
set_option linter.unusedVariables false
set_option linter.unusedSimpArgs false
open Go.RowKit Go.Lib

def TotW (st : List (List UInt8) × List UInt8) (n : Nat) : Prop := st.1.flatten.length + st.2.length ≤ 2 * n
theorem fold_tot (width : Int) (h1 : 0 ≤ width) : ∀ (ws : List (List UInt8)) (st : List (List UInt8) × List UInt8) (n : Nat), (∀ w ∈ ws, w ≠ []) → TotW st n → TotW (ws.foldl (stepW width) st) (n + ws.flatten.length)
  | [], st, n, _, h => by simpa using h
  | w :: ws, st, n, hw, h => by
    have hwl := List.length_pos_iff.2 (hw w (List.mem_cons_self ..))
    have hs : TotW (stepW width st w) (n + w.length) := by
      unfold TotW at h ⊢
      unfold stepW
      split
      · simp only [List.length_append, List.length_cons]; omega
      · have hf := congrArg List.length (cuts_flat width h1 _ w (Nat.le_refl _))
        rw [List.length_append] at hf
        simp only [List.flatten_append, List.length_append, optL_flat]
        omega
    have := fold_tot width h1 ws _ _ (fun x hx => hw x (List.mem_cons_of_mem _ hx)) hs
    rw [List.foldl_cons, List.flatten_cons, List.length_append, ← Nat.add_assoc]
    exact this
theorem wrap_flat_le (width : Int) (h1 : 0 ≤ width) (ws : List (List UInt8)) (hw : ∀ w ∈ ws, w ≠ []) : (wrapL width ws).flatten.length ≤ 2 * ws.flatten.length := by
  have := fold_tot width h1 ws ([], []) 0 hw (by simp [TotW])
  unfold TotW at this
  unfold wrapL wrapS
  rw [List.flatten_append, optL_flat, List.length_append]
  omega
theorem sans_le (l : List UInt8) : (sans l).length ≤ l.length := List.length_filter_le _ _
theorem wideR_le (rs : List Nat) : wideR rs ≤ rs.length := List.length_filter_le _ _

set_option maxHeartbeats 16000000 in
set_option maxRecDepth 100000 in
theorem wrapWords_any (s : ByteArray) (width : Int) (w : World) (hw0 : -9223372036854775808 ≤ width) (hw1 : width ≤ 9223372036854775807) :
    Calls Try.prog 5 #[.string s, .int .i64 width] w fun e w' => e = .returned (.bool true) ∧ Below w.heap.size w w' := by
  have HA := Lib.hid (fun W => awake20_any W)
  by_cases hbig : 3000 < s.size
  · have hbi : (3000 : Int) < (s.size : Int) := by omega
    go_enter Try.func5, Try.ntmps5
    go_wp2_with (go_at_call 21; refine (HA.out _).mono ?_; rintro e w1 ⟨rfl, hb1⟩)
    go_ret
    exact ⟨rfl, hb1⟩
  have hbi : (s.size : Int) ≤ 3000 := by omega
  have cW := fun W => Wrap_any s width W hw0 hw1
  by_cases hE : width < 1 ∨ 120 < width
  · have e1 : wrapE s.size width = 200 := by unfold wrapE; rw [if_pos hE]
    have e2 : wrapR (bl s) width = [] := by unfold wrapR; rw [bl_length, e1, if_neg (by decide)]
    rw [e1, e2] at cW
    have CW := Lib.hid cW; clear cW e1 e2
    go_enter Try.func5, Try.ntmps5
    go_wp2_with (first
      | (go_at_call 21; refine (HA.out _).mono ?_; rintro e w1 ⟨rfl, hb1⟩)
      | (go_at_call 24; refine (CW.out _).mono ?_; rintro e w2 ⟨v, rfl, hown, hb2⟩; obtain ⟨A, c, rfl⟩ := w_form hown))
    go_ret
    exact ⟨rfl, hb1.trans (hb2.mono hb1.size)⟩
  have e1 : wrapE s.size width = 0 := by unfold wrapE; rw [if_neg hE, if_neg (by omega)]
  have e2 : wrapR (bl s) width = wrapL width (wordsL (bl s)) := by unfold wrapR; rw [bl_length, e1, if_pos rfl]
  rw [e1, e2] at cW
  clear e1 e2
  have hw := fun x hx => (words_word blank (bl s) x hx).1
  have htot := words_total blank (bl s)
  rw [bl_length] at htot
  have hok := wrap_ok (p := blank) (by decide) width (by omega) _ (words_word blank (bl s))
  change (wordsL (bl s)).flatten.length ≤ s.size at htot
  change ∀ x ∈ wordsL (bl s), x ≠ [] at hw
  change (∀ x ∈ wrapL width (wordsL (bl s)), okLine width x) ∧ sans (wrapL width (wordsL (bl s))).flatten = (wordsL (bl s)).flatten at hok
  have hwn := flat_count_le _ hw
  have hln := wrap_total (p := blank) width (by omega) _ hw
  have hlf := wrap_flat_le width (by omega) _ hw
  have cC := fun W => Words_any s W (by omega)
  generalize wrapL width (wordsL (bl s)) = LS at *
  generalize wordsL (bl s) = ws at *
  have CW := Lib.hid cW; have CC := Lib.hid cC; clear cW cC hw
  have HOK := Lib.hid hok; clear hok
  have hn := Below.refl w.heap.size w
  go_enter Try.func5, Try.ntmps5
  go_wp2_with (first
    | (go_at_call 21; refine (HA.out _).mono ?_; rintro e w1 ⟨rfl, hb1⟩; have hn := hn.trans (hb1.mono hn.size))
    | (go_at_call 24; refine (CW.out _).mono ?_; rintro e w2 ⟨v, rfl, hown, hb2⟩; have hn := hn.trans (hb2.mono hn.size); obtain ⟨A, c, rfl⟩ := w_form hown; have hslL := Sl.of_own hown)
    | (go_at_call 27; refine (CC.out _).mono ?_; rintro e w3 ⟨A3, rfl, hA3, hown3, hb3⟩; have hn := hn.trans (hb3.mono hn.size); have hslW := Sl.of_own hown3))
  clear hown hown3
  go_loopw [7, 10, 44] (fun u7 _ u44 wr => ∃ k : Nat, u44 = .int .i64 k ∧ k ≤ ws.length ∧ u7 = .string ⟨(ws.take k).flatten.toArray⟩ ∧ w3 = wr) (fun _ _ u44 _ => ws.length - (intOf u44).toNat)
  case atStart => exact ⟨0, rfl, Nat.zero_le _, rfl, rfl⟩
  case round =>
    obtain ⟨k, rfl, hk, rfl, rfl⟩ := hrel
    by_cases hlt : k < ws.length
    · obtain ⟨ad, e0, _, g1⟩ := hslW.cell (k := k) (by simpa using hlt)
      obtain rfl := Option.some.inj e0
      rw [List.getElem_map] at g1
      have g2 : w3.cell? ⟨A3, k, none⟩ = some (.string ⟨(ws[k]'hlt).toArray⟩) := by
        rw [← g1]; congr 1; simp [Addr.add]
      clear g1
      have hxl := flat_mem_le ws (ws[k]'hlt) (List.getElem_mem hlt)
      have hft := flat_take_le ws k
      have hcat : (⟨((ws.take (k + 1)).flatten).toArray⟩ : ByteArray) = ⟨(ws.take k).flatten.toArray⟩ ++ ⟨(ws[k]'hlt).toArray⟩ := by
        rw [w_app, List.take_succ_eq_append_getElem hlt, List.flatten_append, List.flatten_cons, List.flatten_nil, List.append_nil]
      rw [← wz] at hxl hft
      generalize (⟨(ws[k]'hlt).toArray⟩ : ByteArray) = X at *
      have HC := Lib.hid hcat; clear hcat
      generalize (⟨(ws.take k).flatten.toArray⟩ : ByteArray) = J at *
      have zz : J.size + X.size ≤ 9223372036854775807 := by omega
      have i1 : (0 : Int) ≤ (k : Int) := by omega
      have i2 : (k : Int) < (ws.length : Int) := by omega
      go_wp2
      exact ⟨⟨k + 1, by go_num, by omega, by rw [HC.out], trivial⟩, by simp [intOf]; omega⟩
    · obtain rfl : k = ws.length := by omega
      rw [List.take_length]
      go_wp2
      clear hslW
      go_loopw [8, 12, 13, 15, 16, 54] (fun u8 _ _ _ _ u54 wr => ∃ k : Nat, u54 = .int .i64 k ∧ k ≤ LS.length ∧ u8 = .string ⟨(sans (LS.take k).flatten).toArray⟩ ∧ Below w2.heap.size w2 wr ∧ Below w.heap.size w wr) (fun _ _ _ _ _ u54 _ => LS.length - (intOf u54).toNat)
      case atStart => exact ⟨0, rfl, Nat.zero_le _, rfl, hb3, hn⟩
      case round =>
        obtain ⟨k, rfl, hk, rfl, hbw, hn2⟩ := hrel
        by_cases hlt : k < LS.length
        · obtain ⟨ad, e0, _, g1⟩ := (hslL.below hbw).cell (k := k) (by simpa using hlt)
          obtain rfl := e0
          rw [List.getElem_map] at g1
          have hxl := flat_mem_le LS (LS[k]'hlt) (List.getElem_mem hlt)
          have hft := flat_take_le LS k
          have hok := HOK.out.1 (LS[k]'hlt) (List.getElem_mem hlt)
          have hfl1 : (LS.take (k + 1)).flatten = (LS.take k).flatten ++ LS[k]'hlt := by rw [List.take_succ_eq_append_getElem hlt, List.flatten_append, List.flatten_cons, List.flatten_nil, List.append_nil]
          generalize (LS[k]'hlt) = x at *
          have i1 : (0 : Int) ≤ (k : Int) := by omega
          have i2 : (k : Int) < (LS.length : Int) := by omega
          obtain ⟨X, hXx⟩ : ∃ X : ByteArray, bl X = x := ⟨⟨x.toArray⟩, bl_mk x⟩
          subst hXx
          have g2 : wr.cell? (ad.add k) = some (.string X) := by rw [g1, str_bl]
          clear g1
          rw [bl_length] at hxl
          obtain ⟨hx0, hx1, hx2, hx3⟩ := hok
          have hXpos : 0 < X.size := by rw [← bl_length]; exact List.length_pos_iff.2 hx0
          have hXe : X.toList.isEmpty = false := by
            rw [ByteArray.toList_eq]
            simpa using hx0
          have hf0 : ((((X[0]'hXpos).toNat : Nat) : Int) == 32) = false := by
            simp only [beq_eq_false_iff_ne, ne_eq]
            intro h
            apply hx1
            have h2 : X[0]'hXpos = 32 := UInt8.toNat_inj.1 (by simpa using Int.ofNat.inj h)
            rw [List.head?_eq_getElem?, List.getElem?_eq_getElem (by rw [bl_length]; exact hXpos)]
            exact congrArg some h2
          obtain ⟨q, hq⟩ : ∃ q, X.size = q + 1 := ⟨X.size - 1, by omega⟩
          have hql : q < X.size := by omega
          have hfq : ((((X[q]'hql).toNat : Nat) : Int) == 32) = false := by
            simp only [beq_eq_false_iff_ne, ne_eq]
            intro h
            apply hx2
            have h2 : X[q]'hql = 32 := UInt8.toNat_inj.1 (by simpa using Int.ofNat.inj h)
            rw [List.getLast?_eq_getElem?, bl_length, show X.size - 1 = q by omega, List.getElem?_eq_getElem (by rw [bl_length]; exact hql)]
            exact congrArg some h2
          have hqi : (X.size : Int) - 1 = (q : Int) := by omega
          have q0 : (0 : Int) ≤ (q : Int) := by omega
          have q1 : (q : Int) < (X.size : Int) := by omega
          have q2 : (0 : Int) < (X.size : Int) := by omega
          have cx := fun W => Columns_any X W (by omega)
          have hwl : wideL (bl X) ≤ X.size := by
            have h1 := wideR_le (runes (bl X))
            have h2 := chop_length_le (bl X)
            rw [runes_length] at h1
            rw [bl_length] at h2
            unfold wideL; omega
          have hcxl := colsL_le (bl X)
          rw [bl_length] at hcxl
          have hT : wideC (chop (bl X)) = wideL (bl X) := rfl
          generalize wideL (bl X) = N at *
          generalize colsL (bl X) = cX at *
          have CX := Lib.hid cx; clear cx
          clear hq hx0 hx1 hx2
          rename World => w5
          go_wp2
          go_loopg [13, 15] X.size (fun gf u13 _ wr => ∃ pos c : Nat, u13 = .int .i64 c ∧ wr.heap[w5.heap.size]? = some (.stringIter X pos) ∧ Below w2.heap.size w2 wr ∧ Below w.heap.size w wr ∧ c + wideC (chop ((bl X).drop pos)) = N ∧ c ≤ pos ∧ pos ≤ X.size ∧ X.size ≤ pos + gf)
          case atStart => exact ⟨0, 0, rfl, World.iter_heap w5 X 0, hbw.alloc hbw.size _, hn2.alloc hn2.size _, by rw [List.drop_zero]; omega, by omega, by omega, by omega⟩
          case round =>
            obtain ⟨pos, c, rfl, hit, hbw3, hn3, hc, hcp, hps, hfu⟩ := hrel
            by_cases hp : pos < X.size
            · obtain ⟨g', rfl⟩ : ∃ g', gk = g' + 1 := ⟨gk - 1, by omega⟩
              have hnx : ∀ ty, (Instr.next (.pointer (some ⟨w5.heap.size, 0, none⟩)) true ty).run Try.prog wr = _ := fun ty => Lib.run_next_any_at wr w5.heap.size X pos ty hit hp
              have hwd := Lib.width_pos X pos
              have hwl2 := width_le X pos hp
              have hrl := Lib.rune_le X pos
              have hit2 := Lib.iterAt_heap wr w5.heap.size X pos (pos + (Utf8.decode X pos).2) hit
              have hbi2 := Lib.below_iterAt hbw3 (k := w5.heap.size) hbw.size X (pos + (Utf8.decode X pos).2)
              have hni2 := Lib.below_iterAt hn3 (k := w5.heap.size) hn2.size X (pos + (Utf8.decode X pos).2)
              rw [chop_at X pos hp, wideC_cons] at hc
              have cW := fun W => Width_any ((Utf8.decode X pos).1 : Int) W (by omega) (by omega)
              generalize colW ((Utf8.decode X pos).1 : Int) = v at *
              generalize Utf8.decode X pos = d at *
              have CV := Lib.hid cW; clear cW
              by_cases hv : 0 < v
              · rw [if_pos hv] at hc
                have hv1 : (0 : Int) < (v : Int) := by omega
                go_wp2_with (go_at_call 22; refine (CV.out _).mono ?_; rintro e w6 ⟨rfl, hb6⟩)
                have hit3 : w6.heap[w5.heap.size]? = some (.stringIter X (pos + d.2)) := (hb6.block _ (Array.getElem?_eq_some_iff.1 hit2).1).trans hit2
                go_roundg g'
                case measure => omega
                case rel => exact ⟨pos + d.2, c + 1, by go_num, hit3, hbi2.trans (hb6.mono hbi2.size), hni2.trans (hb6.mono hni2.size), by omega, by omega, by omega, by omega⟩
              · rw [if_neg hv] at hc
                obtain rfl : v = 0 := by omega
                go_wp2_with (go_at_call 22; refine (CV.out _).mono ?_; rintro e w6 ⟨rfl, hb6⟩)
                have hit3 : w6.heap[w5.heap.size]? = some (.stringIter X (pos + d.2)) := (hb6.block _ (Array.getElem?_eq_some_iff.1 hit2).1).trans hit2
                go_roundg g'
                case measure => omega
                case rel => exact ⟨pos + d.2, c, rfl, hit3, hbi2.trans (hb6.mono hbi2.size), hni2.trans (hb6.mono hni2.size), by omega, by omega, by omega, by omega⟩
            · have hnx : ∀ ty, (Instr.next (.pointer (some ⟨w5.heap.size, 0, none⟩)) true ty).run Try.prog wr = _ := fun ty => Lib.run_next_end_at wr w5.heap.size X pos ty hit hp
              rw [chop_end X pos hp] at hc
              have e0 : wideC [] = 0 := rfl
              rw [e0, Nat.add_zero] at hc
              subst hc
              by_cases hcw : (cX : Int) ≤ width
              · clear hx3
                go_wp2_with (go_at_call 28; refine (CX.out _).mono ?_; rintro e w6 ⟨rfl, hb6⟩)
                have hbw6 : Below w2.heap.size w2 w6 := hbw3.trans (hb6.mono hbw3.size)
                have hn6 : Below w.heap.size w w6 := hn3.trans (hb6.mono hn3.size)
                clear hit hb6
                go_loopw [8, 16] (fun u8 u16 wr => ∃ i : Nat, u16 = .int .i64 i ∧ i ≤ X.size ∧ u8 = .string ⟨(sans (LS.take k).flatten ++ sans ((bl X).take i)).toArray⟩ ∧ w6 = wr) (fun _ u16 _ => X.size - (intOf u16).toNat)
                case atStart => exact ⟨0, rfl, Nat.zero_le _, by rw [List.take_zero, show sans [] = [] from rfl, List.append_nil], rfl⟩
                case round =>
                  obtain ⟨i, rfl, hi, rfl, rfl⟩ := hrel
                  by_cases hil : i < X.size
                  · have hti : (bl X).take (i + 1) = (bl X).take i ++ [X[i]] := List.take_succ_eq_append_getElem (by rw [bl_length]; exact hil)
                    have hsl1 := sans_le (LS.take k).flatten
                    have hsl2 := sans_le ((bl X).take i)
                    rw [List.length_take] at hsl2
                    have hjz := wz (sans (LS.take k).flatten ++ sans ((bl X).take i))
                    rw [List.length_append] at hjz
                    have y0 : (0 : Int) ≤ (i : Int) := by omega
                    have y1 : (i : Int) < (X.size : Int) := by omega
                    have y2 : (i : Int) + 1 ≤ (X.size : Int) := by omega
                    by_cases h32 : X[i] = 32
                    · have hs2 : sans ((bl X).take (i + 1)) = sans ((bl X).take i) := by rw [hti, h32]; simp [sans]
                      have hb : (((X[i]).toNat : Int) != 32) = false := by rw [h32]; rfl
                      have HS2 := Lib.hid hs2; clear hs2 hti h32
                      go_wp2
                      exact ⟨⟨i + 1, by go_num, by omega, by rw [HS2.out], trivial⟩, by simp [intOf]; omega⟩
                    · have hs2 : sans ((bl X).take (i + 1)) = sans ((bl X).take i) ++ [X[i]] := by rw [hti]; simp [sans, h32]
                      have hb : (((X[i]).toNat : Int) != 32) = true := by
                        simp only [bne_iff_ne, ne_eq]
                        intro h
                        exact h32 (UInt8.toNat_inj.1 (by simpa using Int.ofNat.inj h))
                      have hex : X.extract i (i + 1) = ⟨([X[i]] : List UInt8).toArray⟩ := by
                        show _ = _
                        refine bl_inj (show bl (X.extract i (i + 1)) = bl ⟨([X[i]] : List UInt8).toArray⟩ from ?_)
                        rw [bl_extract, bl_mk, ← List.drop_take, hti, List.drop_append_of_le_length (by rw [List.length_take, bl_length]; omega), List.drop_of_length_le (by rw [List.length_take]; omega), List.nil_append]
                      have hcat : (⟨(sans (LS.take k).flatten ++ sans ((bl X).take (i + 1))).toArray⟩ : ByteArray) = ⟨(sans (LS.take k).flatten ++ sans ((bl X).take i)).toArray⟩ ++ X.extract i (i + 1) := by
                        rw [hs2, hex, w_app, List.append_assoc]
                      have hez : (X.extract i (i + 1)).size = 1 := by rw [hex]; rfl
                      have HC := Lib.hid hcat; clear hcat hs2 hti h32 hex
                      generalize (⟨(sans (LS.take k).flatten ++ sans ((bl X).take i)).toArray⟩ : ByteArray) = J at *
                      have zz : J.size + (X.extract i (i + 1)).size ≤ 9223372036854775807 := by omega
                      have HEZ := Lib.hid hez; clear hez
                      go_wp2
                      exact ⟨⟨i + 1, by go_num, by omega, by rw [HC.out], trivial⟩, by simp [intOf]; omega⟩
                  · obtain rfl : i = X.size := by omega
                    have hfin : sans (LS.take (k + 1)).flatten = sans (LS.take k).flatten ++ sans ((bl X).take X.size) := by
                      rw [hfl1, List.take_of_length_le (show (bl X).length ≤ X.size by rw [bl_length]; exact Nat.le_refl _)]
                      simp [sans]
                    have HFN := Lib.hid hfin; clear hfin
                    go_wp2
                    exact ⟨⟨k + 1, by go_num, by omega, by rw [HFN.out], hbw6, hn6⟩, by simp [intOf]; omega⟩
              · obtain rfl : c = 1 := by omega
                go_wp2_with (go_at_call 28; refine (CX.out _).mono ?_; rintro e w6 ⟨rfl, hb6⟩)
                have hbw6 : Below w2.heap.size w2 w6 := hbw3.trans (hb6.mono hbw3.size)
                have hn6 : Below w.heap.size w w6 := hn3.trans (hb6.mono hn3.size)
                clear hit hb6
                go_loopw [8, 16] (fun u8 u16 wr => ∃ i : Nat, u16 = .int .i64 i ∧ i ≤ X.size ∧ u8 = .string ⟨(sans (LS.take k).flatten ++ sans ((bl X).take i)).toArray⟩ ∧ w6 = wr) (fun _ u16 _ => X.size - (intOf u16).toNat)
                case atStart => exact ⟨0, rfl, Nat.zero_le _, by rw [List.take_zero, show sans [] = [] from rfl, List.append_nil], rfl⟩
                case round =>
                  obtain ⟨i, rfl, hi, rfl, rfl⟩ := hrel
                  by_cases hil : i < X.size
                  · have hti : (bl X).take (i + 1) = (bl X).take i ++ [X[i]] := List.take_succ_eq_append_getElem (by rw [bl_length]; exact hil)
                    have hsl1 := sans_le (LS.take k).flatten
                    have hsl2 := sans_le ((bl X).take i)
                    rw [List.length_take] at hsl2
                    have hjz := wz (sans (LS.take k).flatten ++ sans ((bl X).take i))
                    rw [List.length_append] at hjz
                    have y0 : (0 : Int) ≤ (i : Int) := by omega
                    have y1 : (i : Int) < (X.size : Int) := by omega
                    have y2 : (i : Int) + 1 ≤ (X.size : Int) := by omega
                    by_cases h32 : X[i] = 32
                    · have hs2 : sans ((bl X).take (i + 1)) = sans ((bl X).take i) := by rw [hti, h32]; simp [sans]
                      have hb : (((X[i]).toNat : Int) != 32) = false := by rw [h32]; rfl
                      have HS2 := Lib.hid hs2; clear hs2 hti h32
                      go_wp2
                      exact ⟨⟨i + 1, by go_num, by omega, by rw [HS2.out], trivial⟩, by simp [intOf]; omega⟩
                    · have hs2 : sans ((bl X).take (i + 1)) = sans ((bl X).take i) ++ [X[i]] := by rw [hti]; simp [sans, h32]
                      have hb : (((X[i]).toNat : Int) != 32) = true := by
                        simp only [bne_iff_ne, ne_eq]
                        intro h
                        exact h32 (UInt8.toNat_inj.1 (by simpa using Int.ofNat.inj h))
                      have hex : X.extract i (i + 1) = ⟨([X[i]] : List UInt8).toArray⟩ := by
                        show _ = _
                        refine bl_inj (show bl (X.extract i (i + 1)) = bl ⟨([X[i]] : List UInt8).toArray⟩ from ?_)
                        rw [bl_extract, bl_mk, ← List.drop_take, hti, List.drop_append_of_le_length (by rw [List.length_take, bl_length]; omega), List.drop_of_length_le (by rw [List.length_take]; omega), List.nil_append]
                      have hcat : (⟨(sans (LS.take k).flatten ++ sans ((bl X).take (i + 1))).toArray⟩ : ByteArray) = ⟨(sans (LS.take k).flatten ++ sans ((bl X).take i)).toArray⟩ ++ X.extract i (i + 1) := by
                        rw [hs2, hex, w_app, List.append_assoc]
                      have hez : (X.extract i (i + 1)).size = 1 := by rw [hex]; rfl
                      have HC := Lib.hid hcat; clear hcat hs2 hti h32 hex
                      generalize (⟨(sans (LS.take k).flatten ++ sans ((bl X).take i)).toArray⟩ : ByteArray) = J at *
                      have zz : J.size + (X.extract i (i + 1)).size ≤ 9223372036854775807 := by omega
                      have HEZ := Lib.hid hez; clear hez
                      go_wp2
                      exact ⟨⟨i + 1, by go_num, by omega, by rw [HC.out], trivial⟩, by simp [intOf]; omega⟩
                  · obtain rfl : i = X.size := by omega
                    have hfin : sans (LS.take (k + 1)).flatten = sans (LS.take k).flatten ++ sans ((bl X).take X.size) := by
                      rw [hfl1, List.take_of_length_le (show (bl X).length ≤ X.size by rw [bl_length]; exact Nat.le_refl _)]
                      simp [sans]
                    have HFN := Lib.hid hfin; clear hfin
                    go_wp2
                    exact ⟨⟨k + 1, by go_num, by omega, by rw [HFN.out], hbw6, hn6⟩, by simp [intOf]; omega⟩
        · obtain rfl : k = LS.length := by omega
          rw [List.take_length, HOK.out.2]
          go_wp2
          go_ret
          exact ⟨rfl, hn2⟩
end Go.Proofs.Ytlkabghpcjlohaa
