/- Walks of the reference of layer 2: Words, Initials. -/
import Derived.Test.YtlkabghpcjlohaaG7
import Derived.Test.YtlkabghpcjlohaaF4
import Derived.Test.YtlkabghpcjlohaaP4
namespace Go.Proofs.Ytlkabghpcjlohaa
set_option linter.unusedVariables false
set_option linter.unusedSimpArgs false
open Go.RowKit Go.Lib

theorem w_count (s : ByteArray) : (wordsL (bl s)).length ≤ s.size := by
  have h1 := words_total blank (bl s)
  rw [bl_length] at h1
  have h2 := flat_count_le _ (fun x hx => (words_word blank (bl s) x hx).1)
  unfold wordsL
  omega
theorem w_snoc (a : List (List UInt8)) (x : List UInt8) : strs (a ++ [x]) = strs a ++ [Value.string ⟨x.toArray⟩] := by simp [strs]

set_option maxHeartbeats 4000000 in
set_option maxRecDepth 100000 in
theorem refWords_any (s : ByteArray) (w : World) (hs : s.size ≤ 4294967296) :
    Calls Try.prog 42 #[.string s] w fun e w' => ∃ v, e = .returned v ∧ w'.ownsRow w.heap.size 9 1 v (wordsL (bl s)).length (strs (wordsL (bl s))) ∧ Below w.heap.size w w' := by
  obtain ⟨i0, hi, hz0, hz1, hz2⟩ := info_parts infoStr
  have hcnt := w_count s
  have hT : ∃ T, T = wordsL (bl s) := ⟨_, rfl⟩
  obtain ⟨T, hT⟩ := hT
  rw [← hT] at hcnt ⊢
  have HT := Lib.hid hT; clear hT
  go_enter Try.func42, Try.ntmps42
  go_wp2
  go_loopg [3, 4, 5, 6, 7] s.size (fun gf v uf ua _ _ wr => ∃ (pos : Nat) (cur : List UInt8) (acc : List (List UInt8)), ua = .int .i64 pos ∧ pos ≤ s.size ∧ s.size ≤ pos + gf ∧ Below w.heap.size w wr ∧
    wr.ownsRow w.heap.size 9 1 v acc.length (strs acc) ∧ Hid (acc ++ wordsC blank cur (chop ((bl s).drop pos)) = T) ∧ ((cur = [] ∧ uf = .int .i64 (-1)) ∨ ∃ a : Nat, uf = .int .i64 a ∧ a < pos ∧ cur = ((bl s).take pos).drop a))
  case atStart => exact ⟨0, [], [], rfl, Nat.zero_le _, by omega, Below.refl _ w, World.ownsRow_nil _ _ _ _, Lib.hid (by rw [HT.out, List.drop_zero]; rfl), .inl ⟨rfl, rfl⟩⟩
  case round =>
    obtain ⟨pos, cur, acc, rfl, hps, hfu, hbw, hown, hc, hst⟩ := hrel
    have hsz := hbw.size
    have hal : acc.length ≤ T.length := by rw [← hc.out, List.length_append]; omega
    by_cases hp : pos < s.size
    · obtain ⟨g', rfl⟩ : ∃ g', gk = g' + 1 := ⟨gk - 1, by omega⟩
      have hwd := Lib.width_pos s pos
      have hwl := width_le s pos hp
      have h2 := hc.out
      rw [chop_at s pos hp, wordsC] at h2
      have hpiece : ∀ a, a ≤ pos → ((bl s).take (pos + (Utf8.decode s pos).2)).drop a = ((bl s).take pos).drop a ++ ((bl s).drop pos).take (Utf8.decode s pos).2 := fun a ha => by
        rw [List.take_add, List.drop_append_of_le_length (by rw [List.length_take, bl_length]; omega)]
      have hru : (Utf8.decode s pos).1 ≤ 1114111 := by rw [dec_at]; exact rn_le _
      have cN := fun W => refNext_any s (pos : Int) W (by omega) (by omega) (by omega)
      rw [next_dec s pos hp] at cN
      have cC := fun W => refClass_any ((Utf8.decode s pos).1 : Int) W (by omega) (by omega)
      have hbl : blank (Utf8.decode s pos).1 = decide (cls ((Utf8.decode s pos).1 : Int) = 3) := rfl
      rw [hbl] at h2
      clear hbl
      have e0 : ((bl s).take pos).drop pos = [] := List.drop_of_length_le (by rw [List.length_take]; omega)
      generalize cls ((Utf8.decode s pos).1 : Int) = q at *
      generalize Utf8.decode s pos = d at *
      have CN := Lib.hid cN; have CC := Lib.hid cC; clear cN cC
      have j1 : (pos : Int) < (s.size : Int) := by omega
      have j0 : (0 : Int) ≤ (pos : Int) := by omega
      by_cases hq : q = 3
      · rw [if_pos (by simpa using hq)] at h2
        have hqb : (q == 3) = true := by simp [hq]
        have HQ := Lib.hid hq; clear hq
        rcases hst with ⟨rfl, rfl⟩ | ⟨a, rfl, ha, hcur⟩
        · rw [if_pos rfl] at h2
          have H2 := Lib.hid h2; clear h2 hc hpiece e0
          go_wp2_with (first
            | (go_at_call 80; refine (CN.out _).mono ?_; rintro e w2 ⟨rfl, rfl⟩)
            | (go_at_call 34; refine (CC.out _).mono ?_; rintro e w2 ⟨rfl, rfl⟩))
          go_roundg g'
          case measure => omega
          case rel => exact ⟨pos + d.2, [], acc, by go_num, by omega, by omega, hbw, hown, H2, .inl ⟨rfl, rfl⟩⟩
        · have hne : cur ≠ [] := by
            rw [hcur]
            intro h0
            have := congrArg List.length h0
            rw [List.length_drop, List.length_take, bl_length, List.length_nil] at this; omega
          rw [if_neg hne] at h2
          have hX : (⟨cur.toArray⟩ : ByteArray) = s.extract a pos := by
            apply bl_inj
            rw [bl_mk, bl_extract, hcur, List.drop_take]
          have h3 : (acc ++ [cur]) ++ wordsC blank [] (chop ((bl s).drop (pos + d.2))) = T := by rw [List.append_assoc]; exact h2
          have H2 := Lib.hid h3; clear h2 h3 hc hpiece e0 hne hcur
          have HX := Lib.hid (congrArg Value.string hX); clear hX
          have j2 : (0 : Int) ≤ (a : Int) := by omega
          have j3 : (a : Int) ≤ (pos : Int) := by omega
          go_wp2_with (first
            | (go_at_call 80; refine (CN.out _).mono ?_; rintro e w2 ⟨rfl, rfl⟩)
            | (go_at_call 34; refine (CC.out _).mono ?_; rintro e w2 ⟨rfl, rfl⟩)
            | (at_builtin; refine wpList_append_own _ rfl (.tmp 23) (.tmp 28) 25 rfl w.heap.size 9 i0 (.string ⟨#[]⟩) 1 16 Try.underlying25 hi hz0 hz1 hz2 rfl (by decide) _ _ _ rfl (hown.alloc _) ⟨wr.heap.size, 0, none⟩ 1 1 [.string (s.extract a pos)] rfl rfl (cell_one_new _ _ _) (by simp [Value.oneCell']) (by unfold maxLen; omega) (by omega) (by simp; omega) ?_; intro v' w1 hown' hgrow _))
          have hbw3 : Below w.heap.size w w1 := (hbw.alloc hbw.size _).grown hgrow (by simp; omega) (fun j hj => (hown.lt j hj).1)
          go_roundg g'
          case measure => omega
          case rel => exact ⟨pos + d.2, [], acc ++ [cur], by go_num, by omega, by omega, hbw3, by rw [w_snoc, HX.out, List.length_append]; exact hown', H2, .inl ⟨rfl, rfl⟩⟩
      · rw [if_neg (by simpa using hq)] at h2
        have hqb : (q == 3) = false := by simp [hq]
        have HQ := Lib.hid hq; clear hq
        rcases hst with ⟨rfl, rfl⟩ | ⟨a, rfl, ha, hcur⟩
        · have hp2 := hpiece pos (Nat.le_refl _)
          rw [e0, List.nil_append] at hp2
          rw [List.nil_append, ← hp2] at h2
          have H2 := Lib.hid h2; clear h2 hc hpiece e0 hp2
          go_wp2_with (first
            | (go_at_call 80; refine (CN.out _).mono ?_; rintro e w2 ⟨rfl, rfl⟩)
            | (go_at_call 34; refine (CC.out _).mono ?_; rintro e w2 ⟨rfl, rfl⟩))
          go_roundg g'
          case measure => omega
          case rel => exact ⟨pos + d.2, _, acc, by go_num, by omega, by omega, hbw, hown, H2, .inr ⟨pos, rfl, by omega, rfl⟩⟩
        · have hp2 := hpiece a (by omega)
          rw [hcur, ← hp2] at h2
          have H2 := Lib.hid h2; clear h2 hc hpiece e0 hp2 hcur
          have j2 : (0 : Int) ≤ (a : Int) := by omega
          go_wp2_with (first
            | (go_at_call 80; refine (CN.out _).mono ?_; rintro e w2 ⟨rfl, rfl⟩)
            | (go_at_call 34; refine (CC.out _).mono ?_; rintro e w2 ⟨rfl, rfl⟩))
          go_roundg g'
          case measure => omega
          case rel => exact ⟨pos + d.2, _, acc, by go_num, by omega, by omega, hbw, hown, H2, .inr ⟨a, rfl, by omega, rfl⟩⟩
    · obtain rfl : pos = s.size := by omega
      have h2 := hc.out
      rw [chop_end s s.size hp, wordsC] at h2
      have j1 : (s.size : Int) ≤ (s.size : Int) := by omega
      rcases hst with ⟨rfl, rfl⟩ | ⟨a, rfl, ha, hcur⟩
      · rw [if_pos rfl, List.append_nil] at h2
        subst h2
        go_wp2
        go_ret
        exact ⟨_, rfl, hown, hbw⟩
      · have hne : cur ≠ [] := by
          rw [hcur]
          intro h0
          have := congrArg List.length h0
          rw [List.length_drop, List.length_take, bl_length, List.length_nil] at this; omega
        rw [if_neg hne] at h2
        have hX : (⟨cur.toArray⟩ : ByteArray) = s.extract a s.size := by
          apply bl_inj
          rw [bl_mk, bl_extract, hcur, List.drop_take]
        clear hcur hne
        subst h2
        have HX := Lib.hid (congrArg Value.string hX); clear hX
        have j2 : (0 : Int) ≤ (a : Int) := by omega
        have j3 : (a : Int) ≤ (s.size : Int) := by omega
        go_wp2_with (at_builtin; refine wpList_append_own _ rfl (.tmp 38) (.tmp 42) 25 rfl w.heap.size 9 i0 (.string ⟨#[]⟩) 1 16 Try.underlying25 hi hz0 hz1 hz2 rfl (by decide) _ _ _ rfl (hown.alloc _) ⟨wr.heap.size, 0, none⟩ 1 1 [.string (s.extract a s.size)] rfl rfl (cell_one_new _ _ _) (by simp [Value.oneCell']) (by unfold maxLen; omega) (by omega) (by simp; omega) ?_; intro v' w1 hown' hgrow _)
        have hbw3 : Below w.heap.size w w1 := (hbw.alloc hbw.size _).grown hgrow (by simp; omega) (fun j hj => (hown.lt j hj).1)
        go_ret
        exact ⟨_, rfl, by rw [w_snoc, HX.out, List.length_append]; exact hown', hbw3⟩

/-! ### initials -/
def initR (ws : List (List UInt8)) : List UInt8 := (ws.map fun x => cutL (foldL true x) 1).flatten
def initialsL (l : List UInt8) : List UInt8 := initR (wordsL l)
theorem initR_snoc (ws : List (List UInt8)) (x : List UInt8) : initR (ws ++ [x]) = initR ws ++ cutL (foldL true x) 1 := by simp [initR]
theorem cut1_le (l : List UInt8) : (cutL l 1).length ≤ 4 := by
  unfold cutL
  cases h : chop l with
  | nil => simp [glue]
  | cons c cs =>
    have hne : l ≠ [] := by rintro rfl; simp [chop_nil] at h
    rw [chop_ne hne] at h
    have hw := wd_le4 l hne
    have e := (List.cons.inj h).1
    rw [show (1 : Int).toNat = 1 from rfl, List.take_succ_cons, List.take_zero]
    simp only [glue, List.map_cons, List.map_nil, List.flatten_cons, List.flatten_nil, List.append_nil, ← e, List.length_take]
    omega
theorem initR_le : ∀ ws : List (List UInt8), (initR ws).length ≤ 4 * ws.length
  | [] => by simp [initR]
  | x :: ws => by
    have h1 := cut1_le (foldL true x)
    have h2 := initR_le ws
    have e : initR (x :: ws) = cutL (foldL true x) 1 ++ initR ws := by simp [initR]
    rw [e, List.length_append, List.length_cons]; omega
theorem foldL_le' (p : Bool) (l : List UInt8) : (foldL p l).length ≤ 4 * l.length := by
  have h := foldR_le p (runes l)
  have h2 := chop_length_le l
  rw [runes_length] at h
  unfold foldL; omega

set_option maxHeartbeats 4000000 in
set_option maxRecDepth 100000 in
theorem refInitials_any (s : ByteArray) (w : World) (hs : s.size ≤ 4294967296) :
    Calls Try.prog 44 #[.string s] w fun e w' => e = .returned (.string ⟨(initialsL (bl s)).toArray⟩) ∧ Below w.heap.size w w' := by
  have hcnt := w_count s
  have htot := words_total blank (bl s)
  rw [bl_length] at htot
  change (wordsL (bl s)).flatten.length ≤ s.size at htot
  have HE : Hid (initialsL (bl s) = initR (wordsL (bl s))) := Lib.hid rfl
  have HC := Lib.hid (fun W => refWords_any s W hs)
  generalize wordsL (bl s) = ws at *
  go_enter Try.func44, Try.ntmps44
  go_wp2_with (go_at_call 42; refine (HC.out _).mono ?_; rintro e w1 ⟨v, rfl, hown, hb⟩; obtain ⟨A, c, rfl⟩ := own_form hown)
  have hsl := Sl.of_own hown
  have hs1 := hb.size
  go_loopw [4, 5] (fun u4 u5 wr => ∃ k : Nat, u5 = .int .i64 k ∧ k ≤ ws.length ∧ u4 = .string ⟨(initR (ws.take k)).toArray⟩ ∧ Below w1.heap.size w1 wr) (fun _ u5 _ => ws.length - (intOf u5).toNat)
  case atStart => exact ⟨0, rfl, Nat.zero_le _, rfl, Below.refl _ _⟩
  case round =>
    obtain ⟨k, rfl, hk, rfl, hbw⟩ := hrel
    have hsz := hbw.size
    by_cases hlt : k < ws.length
    · obtain ⟨ad, e0, _, g1⟩ := (hsl.below hbw).cell (k := k) (by simpa using hlt)
      obtain rfl := e0
      rw [List.getElem_map] at g1
      have m4 := flat_mem_le ws (ws[k]'hlt) (List.getElem_mem hlt)
      have hst : initR (ws.take (k + 1)) = initR (ws.take k) ++ cutL (foldL true (ws[k]'hlt)) 1 := by
        rw [List.take_succ_eq_append_getElem hlt, initR_snoc]
      have hst2 : (⟨(initR (ws.take (k + 1))).toArray⟩ : ByteArray) = ⟨(initR (ws.take k)).toArray⟩ ++ ⟨(cutL (foldL true (ws[k]'hlt)) 1).toArray⟩ := by rw [hst, g_app]
      have hr1 := initR_le (ws.take k)
      rw [List.length_take] at hr1
      have hr2 := cut1_le (foldL true (ws[k]'hlt))
      have hr3 := foldL_le' true (ws[k]'hlt)
      have cF := fun W => refFold_any ⟨(ws[k]'hlt).toArray⟩ true W (by rw [g_sz]; omega)
      rw [bl_mk] at cF
      have cC := fun W => refCut_any ⟨(foldL true (ws[k]'hlt)).toArray⟩ 1 W (by omega) (by omega) (by rw [g_sz]; omega)
      rw [bl_mk] at cC
      rw [← g_sz] at hr1 hr2
      clear hst hr3 m4
      generalize (⟨(cutL (foldL true (ws[k]'hlt)) 1).toArray⟩ : ByteArray) = E at *
      generalize (⟨(foldL true (ws[k]'hlt)).toArray⟩ : ByteArray) = F at *
      generalize (ws[k]'hlt) = x at *
      have HS := Lib.hid hst2; clear hst2
      have CF := Lib.hid cF; have CC := Lib.hid cC; clear cF cC
      generalize (⟨(initR (ws.take k)).toArray⟩ : ByteArray) = J at *
      have i1 : (0 : Int) ≤ (k : Int) := by omega
      have i2 : (k : Int) < (ws.length : Int) := by omega
      have zz : J.size + E.size ≤ 9223372036854775807 := by omega
      go_wp2_with (first
        | (go_at_call 41; refine (CF.out _).mono ?_; rintro e w2 ⟨rfl, hb2⟩)
        | (go_at_call 81; refine (CC.out _).mono ?_; rintro e w3 ⟨rfl, hb3⟩))
      exact ⟨⟨k + 1, by go_num, by omega, by rw [HS.out], hbw.trans ((hb2.trans (hb3.mono hb2.size)).mono hsz)⟩, by simp [intOf]; omega⟩
    · obtain rfl : k = ws.length := by omega
      rw [List.take_length]
      go_wp2
      go_ret
      exact ⟨ret_s (by rw [HE.out]), hb.trans (hbw.mono hs1)⟩
end Go.Proofs.Ytlkabghpcjlohaa
