/- AlphaSingles: for every list and every cells that together hold at most 1048576 values and letters the call returns true. -/
import Derived.Test.YtlkabghpcjlohaaK1
import Derived.Test.YtlkabghpcjlohaaK2
import Derived.Test.YtlkabghpcjlohaaR2
namespace Go.Proofs.Ytlkabghpcjlohaa
set_option linter.unusedVariables false
set_option linter.unusedSimpArgs false
open Go.RowKit Go.Lib

theorem okCells_snoc {n : Nat} {cs : List Int} {c : Int} (h : okCells n cs = true) (h0 : 0 ≤ c) (h1 : c < (n : Int)) : okCells n (cs ++ [c]) = true := by
  rw [okCells_iff] at h ⊢
  intro x hx
  rcases List.mem_append.1 hx with h2 | h2
  · exact h x h2
  · rw [List.mem_singleton] at h2; subst h2; exact ⟨h0, h1⟩
theorem k_app (a b : List UInt8) : (⟨a.toArray⟩ : ByteArray) ++ ⟨b.toArray⟩ = (⟨(a ++ b).toArray⟩ : ByteArray) := by apply bl_inj; simp [bl]

set_option maxHeartbeats 8000000 in
set_option maxRecDepth 100000 in
theorem alphaSingles_any (v0 : Value) (list : List (List UInt8)) (v1 : Value) (cells : List Int) (w : World) (s0 : Sl w w.heap.size v0 (strs list)) (z0 : list.flatten.length + list.length ≤ 1048576)
    (q1 : ∀ x ∈ cells, -9223372036854775808 ≤ x ∧ x ≤ 9223372036854775807) (s1 : Sl w w.heap.size v1 (cells.map (Value.int .i64))) (z1 : cells.length ≤ 1048576) :
    Calls Try.prog 19 #[v0, v1] w fun e w' => e = .returned (.bool true) ∧ Below w.heap.size w w' := by
  obtain ⟨i0, hi, hz0', hz1, hz2⟩ := info_parts infoIntH
  have hz0 := flat_sz z0
  obtain ⟨A0, c0, rfl, hc0, hA0⟩ := s0
  have s0 : Sl w w.heap.size (.slice A0 (strs list).length c0) (strs list) := ⟨A0, c0, rfl, hc0, hA0⟩
  clear hA0
  have hsl : (strs list).length = list.length := List.length_map _
  rw [hsl] at s0 hc0 ⊢
  obtain ⟨A1, c1, rfl, hc1, hA1⟩ := s1
  have s1 : Sl w w.heap.size (.slice A1 (cells.map (Value.int .i64)).length c1) (cells.map (Value.int .i64)) := ⟨A1, c1, rfl, hc1, hA1⟩
  clear hA1
  have hcl : (cells.map (Value.int .i64)).length = cells.length := List.length_map _
  rw [hcl] at s1 hc1 ⊢
  have CA := Lib.hid (awake3_any w)
  have CN := Lib.hid (fun (W : World) (h : Sl W w.heap.size (.slice A0 list.length c0) (strs list)) (hB : w.heap.size ≤ W.heap.size) => New_any _ list w.heap.size W h hB hz0 (by omega))
  have S0 := Lib.hid s0; have S1 := Lib.hid s1; have HZ := Lib.hid hz0; have HQ := Lib.hid q1
  have hle : list.length ≤ 1048576 := by omega
  clear s0 s1 hz0 z0 q1 hsl hcl
  obtain ⟨at_, er, hE⟩ : ∃ a e, newL list = (a, e) := ⟨_, _, rfl⟩
  have hE1 : (newL list).1 = at_ := by rw [hE]
  have hE2 : (newL list).2 = er := by rw [hE]
  by_cases hbad : er = 0
  · subst hbad
    have hgood := new_good (xs := list) hE2
    have HG := Lib.hid hgood
    have hn1 : list.length ≤ 1000 := by have := hgood.n2; omega
    have hpos := hgood.n1
    clear hgood
    have HE1 := Lib.hid hE1; have HE2 := Lib.hid hE2; clear hE hE1 hE2
    go_enter Try.func19, Try.ntmps19
    go_wp2_with (first
      | (go_at_call 45; refine CA.out.mono ?_; rintro e w1 ⟨rfl, hb1⟩; have S01 := Lib.hid (S0.out.below hb1); have hs1 := hb1.size)
      | (go_at_call 47; refine (CN.out _ S01.out hs1).mono ?_; rintro e w2 ⟨hb2, ⟨hbd, _⟩ | ⟨_, p, o, hp, rfl, hO, hA⟩⟩; (exact absurd HE2.out hbd); have HA := Lib.hid hA; have HO := Lib.hid hO; have hbb2 := Lib.hid (Below.next3 hb1 (Nat.le_refl _) hb2); have hs2 := hbb2.out.size; clear hA hO hb2 hb1))
    go_loopw [9, 36] (fun _ u36 wr => ∃ k : Nat, u36 = .int .i64 k ∧ k ≤ list.length ∧ Hid (Below w2.heap.size w2 wr) ∧ Hid (∀ i, i < k → (chop (nm list i)).length = 1)) (fun _ u36 _ => list.length - (intOf u36).toNat)
    case atStart => exact ⟨0, rfl, Nat.zero_le _, Lib.hid (Below.refl _ _), fun i hi => by omega⟩
    case round =>
      rename World => w3
      obtain ⟨k, rfl, hk, HB, HK⟩ := hrel
      have hbw := Lib.hid (hbb2.out.trans (HB.out.mono hs2))
      have hs3 := HB.out.size
      by_cases hlt : k < list.length
      · obtain ⟨bl0, off0, rfl, _, hcl⟩ := (S0.out.below hbw.out).addr (by omega)
        have g1 := hcl k _ (by rw [List.getElem?_map, List.getElem?_eq_getElem hlt]; rfl)
        have hzk := HZ.out _ (List.getElem_mem hlt)
        have hnm := nm_lt hlt
        clear hcl
        have HNM := Lib.hid hnm; clear hnm
        generalize list[k]'hlt = s at *
        have hzs : (⟨s.toArray⟩ : ByteArray).size ≤ 17592186044416 := by rw [← bl_length, bl_mk]; exact hzk
        have cC := fun W => refCount_any ⟨s.toArray⟩ W hzs
        rw [bl_mk] at cC
        have CC := Lib.hid cC; clear cC hzk hzs
        have i1 : (0 : Int) ≤ (k : Int) := by omega
        have i2 : (k : Int) < (list.length : Int) := by omega
        generalize hch : (chop s).length = ch at *
        have HCH := Lib.hid hch; clear hch
        by_cases h1 : ch = 1
        · subst h1
          go_wp2_with (go_at_call 67; refine (CC.out _).mono ?_; rintro e w4 ⟨rfl, hb4⟩; have HB4 := Lib.hid (HB.out.trans (hb4.mono hs3)); clear hb4)
          exact ⟨⟨k + 1, by go_num, by omega, HB4, Lib.hid (fun i hi => by
            rcases Nat.lt_or_ge i k with h | h
            · exact HK.out i h
            · obtain rfl : i = k := by omega
              rw [HNM.out]; exact HCH.out)⟩, by simp [intOf]; omega⟩
        · have h2 : ((ch : Int) == 1) = false := by simp; omega
          have h3 : ¬ (ch : Int) = 1 := by omega
          go_wp2_with (go_at_call 67; refine (CC.out _).mono ?_; rintro e w4 ⟨rfl, hb4⟩; have HB4 := Lib.hid (hbw.out.trans (hb4.mono hbw.out.size)); clear hb4)
          go_ret
          exact ⟨rfl, HB4.out⟩
      · obtain rfl : k = list.length := by omega
        have hsing : Singles list := fun i hi => single_of (HG.out.all i hi).1 (HK.out i hi)
        have HS := Lib.hid hsing; clear hsing
        clear hlt hk
        have S13 := Lib.hid (S1.out.below hbw.out)
        go_wp2
        go_loopw [10, 12, 46] (fun u10 _ u46 wr => ∃ (k : Nat) (acc : List Int), u46 = .int .i64 k ∧ k ≤ cells.length ∧ acc.length ≤ 32 ∧ wr.ownsRow w2.heap.size 3 1 u10 acc.length (intVs acc) ∧ Hid (Below w2.heap.size w2 wr) ∧ Hid (okCells list.length acc = true)) (fun _ _ u46 _ => cells.length - (intOf u46).toNat)
        case atStart => exact ⟨0, [], rfl, Nat.zero_le _, by simp, World.ownsRow_nil _ _ _ _, HB, rfl⟩
        case round =>
          rename World => w5
          obtain ⟨k, acc, rfl, hk, hacc, hown, HB5, HOK⟩ := hrel
          have hs5 := HB5.out.size
          obtain ⟨Al, cl, rfl⟩ := own_form hown
          by_cases hlt : k < cells.length
          · obtain ⟨bc, oc, rfl, _, hcl⟩ := (S1.out.below (hbb2.out.trans (HB5.out.mono hs2))).addr (by omega)
            have g1 := hcl k _ (by rw [List.getElem?_map, List.getElem?_eq_getElem hlt]; rfl)
            obtain ⟨b1, b2⟩ := HQ.out _ (List.getElem_mem hlt)
            clear hcl
            generalize cells[k]'hlt = c at *
            have i1 : (0 : Int) ≤ (k : Int) := by omega
            have i2 : (k : Int) < (cells.length : Int) := by omega
            by_cases h0 : (0 : Int) ≤ c
            · by_cases h1 : c < (list.length : Int)
              · by_cases h2 : (acc.length : Int) < 32
                · have HOK2 := Lib.hid (okCells_snoc HOK.out h0 h1)
                  go_wp2_with (at_builtin; refine wpList_append_own_at _ rfl (.tmp 63) (.tmp 65) 35 rfl w2.heap.size 3 i0 (.int .i64 0) 1 8 Try.underlying35 hi hz0' hz1 hz2 rfl (by decide) _ _ _ rfl (hown.alloc _) ⟨w5.heap.size, 0, none⟩ 1 1 [.int .i64 c] rfl rfl (cell_one_new _ _ _) (by simp [Value.oneCell']) (by unfold maxLen; omega) (by omega) (by simp only [World.size_alloc]; omega) ?_; intro v' w4 hown4 hg4 _ _; obtain ⟨A4, c4, rfl⟩ := own_form hown4; have HB4 := Lib.hid ((HB5.out.alloc hs5 (.cells #[.int .i64 c] 3)).grown hg4 (by simp only [World.size_alloc]; omega) (fun j hj => (hown.lt j hj).1)))
                  exact ⟨⟨k + 1, acc ++ [c], by go_num, by omega, by rw [List.length_append, List.length_singleton]; omega, by rw [List.length_append, List.length_singleton]; unfold intVs; rw [List.map_append]; exact hown4, HB4, HOK2⟩, by simp [intOf]; omega⟩
                · go_wp2
                  exact ⟨⟨k + 1, acc, by go_num, by omega, hacc, hown, HB5, HOK⟩, by simp [intOf]; omega⟩
              · go_wp2
                exact ⟨⟨k + 1, acc, by go_num, by omega, hacc, hown, HB5, HOK⟩, by simp [intOf]; omega⟩
            · go_wp2
              exact ⟨⟨k + 1, acc, by go_num, by omega, hacc, hown, HB5, HOK⟩, by simp [intOf]; omega⟩
          · obtain rfl : k = cells.length := by omega
            have HA5 := Lib.hid (HA.out.below HB5.out)
            obtain ⟨a1, a2, a3, a4, a5⟩ := singles_all HG.out HS.out HOK.out hacc
            have hjl := joinI_le list HG.out.sz2 acc
            have CJ := Lib.hid (Join_any HA5.out (.slice Al acc.length cl) acc w5.heap.size (Sl.of_own hown) (Nat.le_refl _) hn1 HG.out.sz2 (by omega))
            rw [a1, a2] at CJ
            have CS := Lib.hid (fun (W : World) (hb : Below w5.heap.size w5 W) => Sure_any (HA5.out.below (hb.mono (by omega))) HG.out.lets HO.out (.slice Al acc.length cl) acc w5.heap.size ((Sl.of_own hown).below hb) hb.size hn1 HG.out.sz2 (by omega))
            rw [a3] at CS
            have CW := Lib.hid (fun (W : World) (hb : Below w5.heap.size w5 W) => Ways_any (HA5.out.below (hb.mono (by omega))) HG.out.lets HO.out (joinI list acc) hn1 HG.out.sz2 (by omega))
            have CX := Lib.hid (fun (W : World) (hb : Below w5.heap.size w5 W) => Ways_any (HA5.out.below (hb.mono (by omega))) HG.out.lets HO.out (joinI list acc ++ [63]) hn1 HG.out.sz2 (by rw [List.length_append, List.length_singleton]; omega))
            rw [a4] at CW
            rw [a5, ← k_app] at CX
            have hjz : (⟨(joinI list acc).toArray⟩ : ByteArray).size ≤ 384 := by rw [← bl_length, bl_mk]; omega
            generalize (⟨(joinI list acc).toArray⟩ : ByteArray) = J at *
            clear a1 a2 a3 a4 a5 hjl
            have hbw5 := Lib.hid (hbb2.out.trans (HB5.out.mono hs2))
            go_wp2_with (first
              | (go_at_call 63; refine CJ.out.mono ?_; rintro e w6 ⟨rfl, hb6⟩; have hs6 := hb6.size)
              | (go_at_call 65; refine (CS.out _ hb6).mono ?_; rintro e w7 ⟨rfl, hb7⟩; have hb67 := hb6.trans (hb7.mono hs6); have hs7 := hb67.size)
              | (go_at_call 59; with_reducible refine (CW.out _ hb67).mono ?_; rintro e w8 ⟨rfl, hb8⟩; have hb68 := hb67.trans (hb8.mono hs7); have hs8 := hb68.size)
              | (go_at_call 59; refine (CX.out _ hb68).mono ?_; rintro e w9 ⟨rfl, hb9⟩; have hb69 := Lib.hid (hb68.trans (hb9.mono hs8)); clear hb9))
            go_ret
            exact ⟨rfl, hbw5.out.trans (hb69.out.mono hbw5.out.size)⟩
  · have hb0 : (er != 0) = true := by simpa using hbad
    have HE1 := Lib.hid hE1; have HE2 := Lib.hid hE2; clear hE hE1 hE2
    go_enter Try.func19, Try.ntmps19
    go_wp2_with (first
      | (go_at_call 45; refine CA.out.mono ?_; rintro e w1 ⟨rfl, hb1⟩; have S01 := Lib.hid (S0.out.below hb1); have hs1 := hb1.size)
      | (go_at_call 47; refine (CN.out _ S01.out hs1).mono ?_; rintro e w2 ⟨hb2, hor⟩; obtain ⟨_, he2⟩ := hor.resolve_right (fun h => hbad (HE2.out.symm.trans h.1)); clear hor; rw [HE1.out, HE2.out] at he2; subst he2; have hbb2 := Lib.hid (Below.next3 hb1 (Nat.le_refl _) hb2)))
    go_ret
    exact ⟨rfl, hbb2.out⟩
end Go.Proofs.Ytlkabghpcjlohaa
