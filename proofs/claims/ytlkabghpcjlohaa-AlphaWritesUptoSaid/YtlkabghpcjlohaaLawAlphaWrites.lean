/- AlphaWrites: for every list and every cells that together hold at most 1048576 values and letters the call returns true. -/
import Derived.Test.YtlkabghpcjlohaaJ1
import Derived.Test.YtlkabghpcjlohaaR2
namespace Go.Proofs.Ytlkabghpcjlohaa
set_option linter.unusedVariables false
set_option linter.unusedSimpArgs false
open Go.RowKit Go.Lib

set_option maxHeartbeats 8000000 in
set_option maxRecDepth 100000 in
theorem alphaWrites_any (v0 : Value) (list : List (List UInt8)) (v1 : Value) (cells : List Int) (w : World) (s0 : Sl w w.heap.size v0 (strs list)) (z0 : list.flatten.length + list.length ≤ 1048576)
    (q1 : ∀ x ∈ cells, -9223372036854775808 ≤ x ∧ x ≤ 9223372036854775807) (s1 : Sl w w.heap.size v1 (cells.map (Value.int .i64))) (z1 : cells.length ≤ 1048576) :
    Calls Try.prog 17 #[v0, v1] w fun e w' => e = .returned (.bool true) ∧ Below w.heap.size w w' := by
  have hz0 := flat_sz z0
  have CA := Lib.hid (awake3_any w)
  have CR := Lib.hid (fun (W : World) (h : Sl W w.heap.size v0 (strs list)) (hB : w.heap.size ≤ W.heap.size) => refNew_any v0 list w.heap.size W h hB hz0 (by omega))
  have CN := Lib.hid (fun (W : World) (h : Sl W w.heap.size v0 (strs list)) (hB : w.heap.size ≤ W.heap.size) => New_any v0 list w.heap.size W h hB hz0 (by omega))
  have S0 := Lib.hid s0; have S1 := Lib.hid s1
  clear s0 s1 hz0 z0 q1
  obtain ⟨at_, er, hE⟩ : ∃ a e, newL list = (a, e) := ⟨_, _, rfl⟩
  by_cases hbad : er = 0
  · subst hbad
    have hgood := new_good (xs := list) (by rw [hE])
    have HG := Lib.hid hgood; clear hgood
    have hn := HG.out.n2
    have hn1 : list.length ≤ 1000 := by omega
    clear hn
    have HE := Lib.hid hE; clear hE
    go_enter Try.func17, Try.ntmps17
    go_wp2_with (first
      | (go_at_call 45; refine CA.out.mono ?_; rintro e w1 ⟨rfl, hb1⟩; have S01 := Lib.hid (S0.out.below hb1); have hs1 := hb1.size)
      | (go_at_call 48; refine (CR.out _ S01.out (by omega)).mono ?_; rintro e w2 ⟨he2, hb2⟩; rw [HE.out] at he2; subst he2; have S02 := Lib.hid (S01.out.below (hb2.mono hs1)); have hbb2 := Lib.hid (Below.next3 hb1 (Nat.le_refl _) hb2); have hs2 := hbb2.out.size; clear hb1 hb2)
      | (go_at_call 47; refine (CN.out _ S02.out (by omega)).mono ?_; rintro e w3 ⟨hb3, ⟨hbd, _⟩ | ⟨_, p, o, hp, rfl, hO, hA⟩⟩; (exact absurd (by rw [HE.out]) hbd); have HA := Lib.hid hA; have HO := Lib.hid hO; have hbb3 := Lib.hid (Below.next3 hbb2.out (Nat.le_refl _) hb3); have hs3 := hbb3.out.size; have S03 := Lib.hid (S0.out.below hbb3.out); have S13 := Lib.hid (S1.out.below hbb3.out); clear hA hO hb3)
      | (go_at_call 63; refine (Join_any HA.out _ cells _ S13.out hs3 hn1 HG.out.sz2 (by omega)).mono ?_; rintro e w4 ⟨rfl, hb4⟩; have hbb4 := Lib.hid (Below.next3 hbb3.out (Nat.le_refl _) hb4); have hs4 := hbb4.out.size; have S04 := Lib.hid (S0.out.below hbb4.out); have S14 := Lib.hid (S1.out.below hbb4.out); have HA4 := Lib.hid (HA.out.below hb4); clear hb4)
      | (go_at_call 64; refine (refJoin_any _ _ list cells _ _ S04.out S14.out hn1 HG.out.sz2 (by omega)).mono ?_; rintro e w5 ⟨rfl, rfl⟩; generalize hjb : joinB list cells = jb; generalize hje : joinE list cells = je; have t1 : (decide (jb = jb)) = true := by simp)
      | (go_at_call 65; refine (Sure_any HA4.out HG.out.lets HO.out _ cells _ S14.out hs4 hn1 HG.out.sz2 (by omega)).mono ?_; rintro e w6 ⟨rfl, hb6⟩; have hbb6 := Lib.hid (Below.next3 hbb4.out (Nat.le_refl _) hb6); have hs6 := hbb6.out.size; have S06 := Lib.hid (S0.out.below hbb6.out); have S16 := Lib.hid (S1.out.below hbb6.out); clear hb6)
      | (go_at_call 66; refine (refSure_any _ _ list cells _ _ S06.out S16.out hs6 hn1 HG.out.sz (by omega) okCells_back).mono ?_; rintro e w7 ⟨rfl, hb7⟩; generalize hsb : sureB list cells = sb; have hbb7 := Lib.hid (Below.next3 hbb6.out (Nat.le_refl _) hb7); clear hb7))
    go_ret
    exact ⟨rfl, hbb7.out⟩
  · have HE := Lib.hid hE; clear hE
    go_enter Try.func17, Try.ntmps17
    go_wp2_with (first
      | (go_at_call 45; refine CA.out.mono ?_; rintro e w1 ⟨rfl, hb1⟩; have S01 := Lib.hid (S0.out.below hb1); have hs1 := hb1.size)
      | (go_at_call 48; refine (CR.out _ S01.out (by omega)).mono ?_; rintro e w2 ⟨he2, hb2⟩; rw [HE.out] at he2; subst he2; have hbb2 := Lib.hid (Below.next3 hb1 (Nat.le_refl _) hb2); clear hb1 hb2))
    go_ret
    exact ⟨rfl, hbb2.out⟩
end Go.Proofs.Ytlkabghpcjlohaa
