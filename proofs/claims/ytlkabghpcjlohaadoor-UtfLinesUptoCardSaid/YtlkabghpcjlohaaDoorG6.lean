/- Walks of package utf's Lines and of the reference's. -/
import Derived.Test.YtlkabghpcjlohaaDoorG5
import Derived.Test.YtlkabghpcjlohaaDoorP5
namespace Go.Proofs.YtlkabghpcjlohaaDoor
set_option linter.unusedVariables false
set_option linter.unusedSimpArgs false
open Go.RowKit Go.Lib

abbrev MaxLen (w : World) : Prop := ∃ m : Int, w.cell? ⟨2, 0, none⟩ = some (.int .i64 m)
theorem MaxLen.below {w w' : World} (h : MaxLen w) (hb : Below w.heap.size w w') : MaxLen w' := by
  obtain ⟨m, hm⟩ := h
  refine ⟨m, (hb.cell ?_).trans hm⟩
  rcases Nat.lt_or_ge 2 w.heap.size with h1 | h1
  · exact h1
  · simp [World.cell?, Array.getElem?_eq_none h1] at hm

set_option maxHeartbeats 4000000 in
set_option maxRecDepth 100000 in
theorem Lines_any (s0 : ByteArray) (w : World) (hM : MaxLen w) (hs0 : s0.size < 4294967281) :
    Calls Tryd.prog 27 #[.string s0] w fun e w' => ∃ v, e = .returned v ∧ w'.ownsRow w.heap.size 9 1 v (linesL (bl s0)).length (strs (linesL (bl s0))) ∧ Below w.heap.size w w' := by
  obtain ⟨i0, hi, hz0, hz1, hz2⟩ := info_parts infoStr
  have hcnt := linesL_count (bl s0)
  rw [bl_length] at hcnt
  have hT : ∃ T, T = linesL (bl s0) := ⟨_, rfl⟩
  obtain ⟨T, hT⟩ := hT
  rw [← hT] at hcnt ⊢
  have HT := Lib.hid hT; clear hT
  go_enter Tryd.func27, Tryd.ntmps27
  go_wp2
  go_loopg [0, 3, 4, 5, 6] s0.size (fun gf u0 v _ _ _ wr => ∃ (s : ByteArray) (acc : List (List UInt8)), u0 = .string s ∧ Below w.heap.size w wr ∧
    wr.ownsRow w.heap.size 9 1 v acc.length (strs acc) ∧ Hid (acc ++ linesL (bl s) = T) ∧ s.size ≤ gf ∧ s.size ≤ s0.size)
  case atStart => exact ⟨s0, [], rfl, Below.refl _ w, World.ownsRow_nil _ _ _ _, Lib.hid (by rw [HT.out]; rfl), Nat.le_refl _, Nat.le_refl _⟩
  case round =>
    obtain ⟨s, acc, rfl, hbw, hown, hc, hfu, hss⟩ := hrel
    have hsz := hbw.size
    by_cases hne : bl s = []
    · have he : s = ⟨#[]⟩ := bl_inj hne
      subst he
      have h2 := hc.out
      rw [hne] at h2
      have h3 : acc = T := by rw [← h2]; simp [linesL, linesC]
      subst h3
      go_wp2
      go_ret
      exact ⟨_, rfl, hown, hbw⟩
    · have hpos : 0 < s.size := by rw [← bl_length]; exact List.length_pos_iff.2 hne
      obtain ⟨g', rfl⟩ : ∃ g', gk = g' + 1 := ⟨gk - 1, by omega⟩
      have hXe : s.toList.isEmpty = false := by
        rw [ByteArray.toList_eq]
        simpa using hne
      have hcut := cut10 (bl s) hne
      have htr := trim13_eq (cut (bl s) [10]).1
      have cC := fun (W : World) (h : MaxLen W) => Tryd.strings_Cut s ⟨#[10]⟩ h.choose W (by omega) h.choose_spec
      have cT := fun (W : World) (h : (cut (bl s) [10]).1.length ≤ s.size) => Tryd.strings_TrimSuffix ⟨(cut (bl s) [10]).1.toArray⟩ ⟨#[13]⟩ W (by rw [← bl_length, bl_mk]; omega)
      have hMw := hM.below hbw
      have hal : acc.length ≤ T.length := by rw [← hc.out, List.length_append]; omega
      change ∀ (W : World) (h : MaxLen W), Calls Tryd.prog _ _ W (fun e w' => e = .returned (.tuple #[.string ⟨(cut (bl s) [10]).1.toArray⟩, .string ⟨(cut (bl s) [10]).2.1.toArray⟩, .bool (cut (bl s) [10]).2.2]) ∧ ∃ n, w' = W.drewN n) at cC
      change ∀ (W : World) (h : (cut (bl s) [10]).1.length ≤ s.size), Calls Tryd.prog _ _ W (fun e w' => e = .returned (.string ⟨(trimSuffix (cut (bl s) [10]).1 [13]).toArray⟩) ∧ w' = W) at cT
      rw [htr] at cT
      clear htr
      generalize cut (bl s) [10] = d at *
      obtain ⟨line, rest, ended⟩ := d
      simp only at *
      have CC := Lib.hid cC; clear cC
      have CT := Lib.hid cT; clear cT
      rw [bl_length] at hcut
      rcases hcut with ⟨rfl, hl, hlt, hle⟩ | ⟨rfl, hl, rfl, hle⟩
      · have HL := Lib.hid hl; clear hl
        go_wp2_with (first
          | (go_at_call 49; refine (CC.out _ hMw).mono ?_; rintro e w2 ⟨rfl, n2, rfl⟩)
          | (go_at_call 50; refine (CT.out _ hle).mono ?_; rintro e w2 ⟨rfl, rfl⟩)
          | (at_builtin; refine wpList_append_own _ rfl (.tmp 18) (.tmp 20) 39 rfl w.heap.size 9 i0 (.string ⟨#[]⟩) 1 16 Tryd.underlying39 hi hz0 hz1 hz2 rfl (by decide) _ _ _ rfl (World.ownsRow.alloc (show (wr.drewN n2).ownsRow w.heap.size 9 1 _ acc.length (strs acc) from hown) _) ⟨wr.heap.size, 0, none⟩ 1 1 [str (trim13 line)] rfl rfl (cell_one_new _ _ _) (by simp [Value.oneCell']) (by unfold maxLen; omega) (by omega) (by simp; omega) ?_; intro v' w1 hown' hgrow _))
        have hbw3 : Below w.heap.size w w1 := ((bdraw hbw n2).alloc hbw.size _).grown hgrow (by simp; omega) (fun j hj => (hown.lt j hj).1)
        go_roundg g'
        case measure => omega
        case rel =>
          refine ⟨⟨rest.toArray⟩, acc ++ [trim13 line], rfl, hbw3, by simpa [strs] using hown', Lib.hid ?_, ?_, ?_⟩
          · rw [bl_mk, List.append_assoc, ← hc.out, HL.out]; rfl
          · rw [← bl_length, bl_mk]; omega
          · rw [← bl_length, bl_mk]; omega
      · have HL := Lib.hid hl; clear hl
        go_wp2_with (first
          | (go_at_call 49; refine (CC.out _ hMw).mono ?_; rintro e w2 ⟨rfl, n2, rfl⟩)
          | (at_builtin; refine wpList_append_own _ rfl (.tmp 18) (.tmp 20) 39 rfl w.heap.size 9 i0 (.string ⟨#[]⟩) 1 16 Tryd.underlying39 hi hz0 hz1 hz2 rfl (by decide) _ _ _ rfl (World.ownsRow.alloc (show (wr.drewN n2).ownsRow w.heap.size 9 1 _ acc.length (strs acc) from hown) _) ⟨wr.heap.size, 0, none⟩ 1 1 [str line] rfl rfl (cell_one_new _ _ _) (by simp [Value.oneCell']) (by unfold maxLen; omega) (by omega) (by simp; omega) ?_; intro v' w1 hown' hgrow _))
        have hbw3 : Below w.heap.size w w1 := ((bdraw hbw n2).alloc hbw.size _).grown hgrow (by simp; omega) (fun j hj => (hown.lt j hj).1)
        go_roundg g'
        case measure => omega
        case rel =>
          refine ⟨⟨([] : List UInt8).toArray⟩, acc ++ [line], rfl, hbw3, by simpa [strs] using hown', Lib.hid ?_, ?_, ?_⟩
          · rw [bl_mk, ← hc.out, HL.out, List.append_assoc]; rfl
          · rw [← bl_length, bl_mk, List.length_nil]; omega
          · rw [← bl_length, bl_mk, List.length_nil]; omega

theorem strs_snoc (a : List (List UInt8)) (x : List UInt8) : strs (a ++ [x]) = strs a ++ [Value.string ⟨x.toArray⟩] := by simp [strs]
theorem ref_cur (s : ByteArray) (from' i : Nat) (h : from' ≤ i) (hi : i ≤ s.size) : bl (s.extract from' i) = ((bl s).take i).drop from' := by
  rw [bl_extract, List.drop_take]

set_option maxHeartbeats 4000000 in
set_option maxRecDepth 100000 in
theorem refLines_any (s : ByteArray) (w : World) (hs : s.size ≤ 4294967296) :
    Calls Tryd.prog 42 #[.string s] w fun e w' => ∃ v, e = .returned v ∧ w'.ownsRow w.heap.size 9 1 v (linesL (bl s)).length (strs (linesL (bl s))) ∧ Below w.heap.size w w' := by
  obtain ⟨i0, hi, hz0, hz1, hz2⟩ := info_parts infoStr
  have hcnt := linesL_count (bl s)
  rw [bl_length] at hcnt
  have hT : ∃ T, T = linesL (bl s) := ⟨_, rfl⟩
  obtain ⟨T, hT⟩ := hT
  rw [← hT] at hcnt ⊢
  have HT := Lib.hid hT; clear hT
  go_enter Tryd.func42, Tryd.ntmps42
  go_wp2
  go_loopg [3, 4, 5, 6] s.size (fun gf v u4 u5 _ wr => ∃ (f i : Nat) (acc : List (List UInt8)), u4 = .int .i64 f ∧ u5 = .int .i64 i ∧ f ≤ i ∧ i ≤ s.size ∧ s.size ≤ i + gf ∧ Below w.heap.size w wr ∧
    wr.ownsRow w.heap.size 9 1 v acc.length (strs acc) ∧ Hid (acc ++ linesC (((bl s).take i).drop f) ((bl s).drop i) = T))
  case atStart => exact ⟨0, 0, [], rfl, rfl, Nat.le_refl _, Nat.zero_le _, by omega, Below.refl _ w, World.ownsRow_nil _ _ _ _, Lib.hid (by rw [HT.out]; rfl)⟩
  case round =>
    obtain ⟨f, i, acc, rfl, rfl, hfi, his, hfu, hbw, hown, hc⟩ := hrel
    have hsz := hbw.size
    have hal : acc.length ≤ T.length := by rw [← hc.out, List.length_append]; omega
    by_cases hlt : i < s.size
    · obtain ⟨g', rfl⟩ : ∃ g', gk = g' + 1 := ⟨gk - 1, by omega⟩
      have hdi : (bl s).drop i = s[i] :: (bl s).drop (i + 1) := List.drop_eq_getElem_cons (by rw [bl_length]; exact hlt)
      have hti : (bl s).take (i + 1) = (bl s).take i ++ [s[i]] := List.take_succ_eq_append_getElem (by rw [bl_length]; exact hlt)
      have hlen : ((bl s).take i).length = i := by rw [List.length_take, bl_length]; omega
      have h2 := hc.out
      rw [hdi, linesC] at h2
      have j0 : (0 : Int) ≤ (i : Int) := by omega
      have j1 : (i : Int) < (s.size : Int) := by omega
      have j2 : (0 : Int) ≤ (f : Int) := by omega
      have j3 : (f : Int) ≤ (i : Int) := by omega
      by_cases h10 : s[i] = 10
      · rw [if_pos h10] at h2
        have hb : (((s[i]).toNat : Int) != 10) = false := by rw [h10]; rfl
        have hnil : ((bl s).take (i + 1)).drop (i + 1) = [] := List.drop_of_length_le (by rw [List.length_take]; omega)
        have h3 : (acc ++ [trim13 (((bl s).take i).drop f)]) ++ linesC (((bl s).take (i + 1)).drop (i + 1)) ((bl s).drop (i + 1)) = T := by
          rw [hnil, List.append_assoc]; exact h2
        have H3 := Lib.hid h3
        clear h2 h3 hdi hti h10 hnil
        by_cases hf : f < i
        · obtain ⟨q, rfl⟩ : ∃ q, i = q + 1 := ⟨i - 1, by omega⟩
          have hq : q < s.size := by omega
          have hcur : ((bl s).take (q + 1)).drop f = ((bl s).take q).drop f ++ [s[q]'hq] := by
            rw [List.take_succ_eq_append_getElem (by rw [bl_length]; exact hq), List.drop_append_of_le_length (by rw [List.length_take, bl_length]; omega)]; rfl
          have j4 : (f : Int) < (q : Int) + 1 := by omega
          have j5 : (0 : Int) ≤ (q : Int) := by omega
          have j6 : (q : Int) < (s.size : Int) := by omega
          have j7 : (f : Int) ≤ (q : Int) := by omega
          by_cases h13 : s[q]'hq = 13
          · have hX : (⟨(trim13 (((bl s).take (q + 1)).drop f)).toArray⟩ : ByteArray) = s.extract f q := by
              apply bl_inj
              rw [ref_cur s f q (by omega) (by omega), bl_mk]
              unfold trim13
              rw [hcur, h13]
              simp
            have h13b : (((s[q]'hq).toNat : Int) == 13) = true := by rw [h13]; rfl
            have HX := Lib.hid (congrArg Value.string hX); clear hX hcur h13
            generalize trim13 (((bl s).take (q + 1)).drop f) = L at *
            go_wp2_with (at_builtin; refine wpList_append_own _ rfl (.tmp 30) (.tmp 35) 39 rfl w.heap.size 9 i0 (.string ⟨#[]⟩) 1 16 Tryd.underlying39 hi hz0 hz1 hz2 rfl (by decide) _ _ _ rfl (hown.alloc _) ⟨wr.heap.size, 0, none⟩ 1 1 [.string (s.extract f q)] rfl rfl (cell_one_new _ _ _) (by simp [Value.oneCell']) (by unfold maxLen; omega) (by omega) (by simp; omega) ?_; intro v' w1 hown' hgrow _)
            have hbw3 : Below w.heap.size w w1 := (hbw.alloc hbw.size _).grown hgrow (by simp; omega) (fun j hj => (hown.lt j hj).1)
            go_roundg g'
            case measure => omega
            case rel => exact ⟨q + 1 + 1, q + 1 + 1, acc ++ [L], by go_num, by go_num, Nat.le_refl _, by omega, by omega, hbw3, by rw [strs_snoc, HX.out, List.length_append]; exact hown', H3⟩
          · have hX : (⟨(trim13 (((bl s).take (q + 1)).drop f)).toArray⟩ : ByteArray) = s.extract f (q + 1) := by
              apply bl_inj
              rw [ref_cur s f (q + 1) (by omega) (by omega), bl_mk]
              unfold trim13
              rw [if_neg]
              rw [hcur]
              simpa using h13
            have h13b : (((s[q]'hq).toNat : Int) == 13) = false := by
              simp only [beq_eq_false_iff_ne, ne_eq]
              intro h
              exact h13 (UInt8.toNat_inj.1 (by simpa using Int.ofNat.inj h))
            have HX := Lib.hid (congrArg Value.string hX); clear hX hcur h13
            generalize trim13 (((bl s).take (q + 1)).drop f) = L at *
            go_wp2_with (at_builtin; refine wpList_append_own _ rfl (.tmp 30) (.tmp 35) 39 rfl w.heap.size 9 i0 (.string ⟨#[]⟩) 1 16 Tryd.underlying39 hi hz0 hz1 hz2 rfl (by decide) _ _ _ rfl (hown.alloc _) ⟨wr.heap.size, 0, none⟩ 1 1 [.string (s.extract f (q + 1))] rfl rfl (cell_one_new _ _ _) (by simp [Value.oneCell']) (by unfold maxLen; omega) (by omega) (by simp; omega) ?_; intro v' w1 hown' hgrow _)
            have hbw3 : Below w.heap.size w w1 := (hbw.alloc hbw.size _).grown hgrow (by simp; omega) (fun j hj => (hown.lt j hj).1)
            go_roundg g'
            case measure => omega
            case rel => exact ⟨q + 1 + 1, q + 1 + 1, acc ++ [L], by go_num, by go_num, Nat.le_refl _, by omega, by omega, hbw3, by rw [strs_snoc, HX.out, List.length_append]; exact hown', H3⟩
        · obtain rfl : f = i := by omega
          have hX : (⟨(trim13 (((bl s).take f).drop f)).toArray⟩ : ByteArray) = ByteArray.empty := by
            rw [List.drop_of_length_le (by omega)]
            rfl
          have HX := Lib.hid (congrArg Value.string hX); clear hX
          generalize trim13 (((bl s).take f).drop f) = L at *
          go_wp2_with (at_builtin; refine wpList_append_own _ rfl (.tmp 30) (.tmp 35) 39 rfl w.heap.size 9 i0 (.string ⟨#[]⟩) 1 16 Tryd.underlying39 hi hz0 hz1 hz2 rfl (by decide) _ _ _ rfl (hown.alloc _) ⟨wr.heap.size, 0, none⟩ 1 1 [_] rfl rfl (cell_one_new _ _ _) (by simp [Value.oneCell']) (by unfold maxLen; omega) (by omega) (by simp; omega) ?_; intro v' w1 hown' hgrow _)
          have hbw3 : Below w.heap.size w w1 := (hbw.alloc hbw.size _).grown hgrow (by simp; omega) (fun j hj => (hown.lt j hj).1)
          go_roundg g'
          case measure => omega
          case rel => exact ⟨f + 1, f + 1, acc ++ [L], by go_num, by go_num, Nat.le_refl _, by omega, by omega, hbw3, by rw [strs_snoc, HX.out, List.length_append]; exact hown', H3⟩
      · rw [if_neg h10] at h2
        have hb : (((s[i]).toNat : Int) != 10) = true := by
          simp only [bne_iff_ne, ne_eq]
          intro h
          exact h10 (UInt8.toNat_inj.1 (by simpa using Int.ofNat.inj h))
        have h3 : acc ++ linesC (((bl s).take (i + 1)).drop f) ((bl s).drop (i + 1)) = T := by
          rw [hti, List.drop_append_of_le_length (by omega)]; exact h2
        have H3 := Lib.hid h3
        clear h2 h3 hdi hti h10
        go_wp2
        go_roundg g'
        case measure => omega
        case rel => exact ⟨f, i + 1, acc, rfl, by go_num, by omega, by omega, by omega, hbw, hown, H3⟩
    · obtain rfl : i = s.size := by omega
      have h2 := hc.out
      have e1 : (bl s).take s.size = bl s := List.take_of_length_le (by rw [bl_length]; exact Nat.le_refl _)
      rw [e1, List.drop_of_length_le (show (bl s).length ≤ s.size by rw [bl_length]; exact Nat.le_refl _), linesC] at h2
      have j2 : (0 : Int) ≤ (f : Int) := by omega
      have j3 : (f : Int) ≤ (s.size : Int) := by omega
      by_cases hf : f < s.size
      · rw [if_neg (by intro h0; have := congrArg List.length h0; rw [List.length_drop, bl_length, List.length_nil] at this; omega)] at h2
        have j4 : (f : Int) < (s.size : Int) := by omega
        have hX : (⟨((bl s).drop f).toArray⟩ : ByteArray) = s.extract f s.size := by
          apply bl_inj
          rw [bl_from, bl_mk]
        generalize (bl s).drop f = L at *
        subst h2
        have HX := Lib.hid (congrArg Value.string hX); clear hX
        go_wp2_with (at_builtin; refine wpList_append_own _ rfl (.tmp 43) (.tmp 47) 39 rfl w.heap.size 9 i0 (.string ⟨#[]⟩) 1 16 Tryd.underlying39 hi hz0 hz1 hz2 rfl (by decide) _ _ _ rfl (hown.alloc _) ⟨wr.heap.size, 0, none⟩ 1 1 [.string (s.extract f s.size)] rfl rfl (cell_one_new _ _ _) (by simp [Value.oneCell']) (by unfold maxLen; omega) (by omega) (by simp; omega) ?_; intro v' w1 hown' hgrow _)
        have hbw3 : Below w.heap.size w w1 := (hbw.alloc hbw.size _).grown hgrow (by simp; omega) (fun j hj => (hown.lt j hj).1)
        go_ret
        exact ⟨_, rfl, by rw [strs_snoc, HX.out, List.length_append]; exact hown', hbw3⟩
      · rw [if_pos (List.drop_of_length_le (by rw [bl_length]; omega)), List.append_nil] at h2
        subst h2
        have j4 : (s.size : Int) ≤ (f : Int) := by omega
        go_wp2
        go_ret
        exact ⟨_, rfl, hown, hbw⟩
end Go.Proofs.YtlkabghpcjlohaaDoor
