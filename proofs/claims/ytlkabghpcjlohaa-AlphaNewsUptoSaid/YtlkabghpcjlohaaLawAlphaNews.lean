/- AlphaNews: for every list that holds at most 1048576 values and letters the call returns true. -/
import Derived.Test.YtlkabghpcjlohaaN1
namespace Go.Proofs.Ytlkabghpcjlohaa
set_option linter.unusedVariables false
set_option linter.unusedSimpArgs false
open Go.RowKit Go.Lib

theorem noLetter {xs : List (List UInt8)} (h : Good xs) : bl ⟨#[110, 111, 32, 108, 101, 116, 116, 101, 114]⟩ ∉ xs := by
  intro hm
  obtain ⟨i, hi, he⟩ := List.mem_iff_getElem.1 hm
  have h1 := (h.all i hi).1
  rw [nm_lt hi, he] at h1
  exact absurd h1 (by decide +kernel)
theorem Sl.cut1 {w : World} {B b n c : Nat} {xs : List Value} {y : Value} (h : Sl w B (.slice (some ⟨b, 0, none⟩) (n + 1) c) (xs ++ [y])) (hn : xs.length = n) : Sl w B (.slice (some ⟨b, 0, none⟩) n c) xs := by
  have := h.take n (by omega)
  rwa [List.take_left' hn] at this
theorem concat_at {α : Type} {l : List α} {y : α} {n : Nat} (h : l.length = n) : (l ++ [y])[n]? = some y := by subst h; simp
theorem newFrom_zero (xs : List (List UInt8)) : ∀ (f k : Nat), (newFrom xs k f).2 = 0 → (newFrom xs k f).1 = 0
  | 0, k, _ => rfl
  | f + 1, k, h => by
    unfold newFrom at h ⊢
    split
    · rename_i h1; rw [if_pos h1] at h; simp at h
    · rename_i h1
      rw [if_neg h1] at h
      split
      · rename_i h2; rw [if_pos h2] at h; simp at h
      · rename_i h2; rw [if_neg h2] at h; exact newFrom_zero xs f (k + 1) h
theorem newL_zero {xs : List (List UInt8)} (h : (newL xs).2 = 0) : (newL xs).1 = 0 := by
  unfold newL at h ⊢
  split
  · rfl
  · rename_i h1; rw [if_neg h1] at h; exact newFrom_zero xs _ _ h
/-- the blocks from lo to hi are as they were -/
def Kept (lo hi : Nat) (w w' : World) : Prop := ∀ b, lo ≤ b → b < hi → w'.heap[b]? = w.heap[b]?

set_option maxHeartbeats 8000000 in
set_option maxRecDepth 100000 in
theorem alphaNews_any (v0 : Value) (list : List (List UInt8)) (w : World) (s0 : Sl w w.heap.size v0 (strs list)) (z0 : list.flatten.length + list.length ≤ 1048576) :
    Calls Try.prog 14 #[v0] w fun e w' => e = .returned (.bool true) ∧ Below w.heap.size w w' := by
  have hz0 := flat_sz z0
  obtain ⟨A0, c0, rfl, hc0, hA0⟩ := s0
  have s0 : Sl w w.heap.size (.slice A0 (strs list).length c0) (strs list) := ⟨A0, c0, rfl, hc0, hA0⟩
  clear hA0
  have hsl : (strs list).length = list.length := List.length_map _
  rw [hsl] at s0 hc0 ⊢
  have CA := Lib.hid (awake3_any w)
  have CL := Lib.hid (fun (W : World) (h : Sl W w.heap.size (.slice A0 list.length c0) (strs list)) (hB : w.heap.size ≤ W.heap.size) => lent_any _ list w.heap.size W h hB (by omega))
  have CR := Lib.hid (fun (W : World) (h : Sl W w.heap.size (.slice A0 list.length c0) (strs list)) (hB : w.heap.size ≤ W.heap.size) => refNew_any _ list w.heap.size W h hB hz0 (by omega))
  have CN := Lib.hid (fun (u : Value) (W : World) (h : Sl W W.heap.size u (strs list)) => New_lo u list W.heap.size W h (Nat.le_refl _) hz0 (by omega))
  have CT := Lib.hid (fun (u : Value) (W : World) (h : Sl W W.heap.size u (strs list)) (h' : Sl W W.heap.size (.slice A0 list.length c0) (strs list)) => SameTexts_any u _ list list W.heap.size W h h' (by omega) (by omega))
  have S0 := Lib.hid s0; have HZ := Lib.hid hz0; have HSL := Lib.hid hsl
  clear s0 hz0 hsl
  have hle : list.length ≤ 1048576 := by omega
  clear z0
  have tt : (decide (list = list)) = true := by simp
  obtain ⟨at_, er, hE⟩ : ∃ a e, newL list = (a, e) := ⟨_, _, rfl⟩
  have hE1 : (newL list).1 = at_ := by rw [hE]
  have hE2 : (newL list).2 = er := by rw [hE]
  by_cases hbad : er = 0
  · subst hbad
    obtain rfl : at_ = 0 := hE1.symm.trans (newL_zero hE2)
    have hgood := new_good (xs := list) hE2
    have HG := Lib.hid hgood
    have hn1 : list.length ≤ 1000 := by have := hgood.n2; omega
    have hpos := hgood.n1
    clear hgood
    have HE := Lib.hid hE; have HE1 := Lib.hid hE1; have HE2 := Lib.hid hE2; clear hE hE1 hE2
    go_enter Try.func14, Try.ntmps14
    go_wp2_with (first
      | (go_at_call 45; refine CA.out.mono ?_; rintro e w1 ⟨rfl, hb1⟩; have S01 := Lib.hid (S0.out.below hb1); have hs1 := hb1.size)
      | (go_at_call 46; refine (CL.out _ S01.out hs1).mono ?_; rintro e w2 ⟨n, hn, rfl, hb2, hown2⟩; obtain rfl := hn; have hbb2 := Lib.hid (Below.next3 hb1 (Nat.le_refl _) hb2); have hs2 := hbb2.out.size; have hg := hown2.lt w1.heap.size rfl; have HL2 := Lib.hid (Sl.cut1 (Sl.of_own hown2) HSL.out); have HO2 := Lib.hid hown2; clear hb1 hb2 hown2)
      | (go_at_call 48; refine (CR.out _ (S0.out.below hbb3.out) (by omega)).mono ?_; rintro e w4 ⟨he4, hb4⟩; rw [HE1.out, HE2.out] at he4; subst he4; have hbb4 := Lib.hid (Below.next3 hbb3.out (Nat.le_refl _) hb4); have HO4 := Lib.hid (own_below HO3.out hb4); have hs4 := hb4.size; have HK4 := Lib.hid hb4; clear hb4; have HT := Lib.hid (CT.out _ w4 (Sl.cut1 (Sl.of_own HO4.out) HSL.out) ((S0.out.below hbb4.out).more (by omega))))
      | (go_at_call 26; refine HT.out.mono ?_; rintro e w5 ⟨rfl, hb5⟩; have hbb5 := Lib.hid (Below.next3 hbb4.out (Nat.le_refl _) hb5); have HO5 := Lib.hid (own_below HO4.out hb5); have hs5 := hb5.size; have HK5 := Lib.hid (HK4.out.trans (hb5.mono hs4)); clear hb5; have gsp := (HO5.out.cellAt list.length (by omega)).trans (concat_at HSL.out))
      | (go_at_call 47; refine (CN.out _ w2 HL2.out).mono ?_; rintro e w3 ⟨hb3, ⟨hbd, _⟩ | ⟨_, p, o, hp, rfl, hO, hA, hLo⟩⟩; (exact absurd HE2.out hbd); have HA := Lib.hid hA; have HLo := Lib.hid hLo; have hbb3 := Lib.hid (Below.next3 hbb2.out (Nat.le_refl _) hb3); have hs3 := hb3.size; have HO3 := Lib.hid (own_below HO2.out hb3); clear hA hO hb3 hLo))
    go_loopw [9, 66] (fun _ u66 wr => ∃ (k : Nat) (ys : List Value), u66 = .int .i64 k ∧ k ≤ list.length ∧ wr.ownsRow w1.heap.size 9 1 (.slice (some ⟨w1.heap.size, 0, none⟩) (list.length + 1) (list.length + 1)) (list.length + 1) ys ∧ Hid (Below w.heap.size w wr) ∧ w5.heap.size ≤ wr.heap.size ∧ Hid (Kept w2.heap.size w3.heap.size w3 wr)) (fun _ u66 _ => list.length - (intOf u66).toNat)
    case atStart => exact ⟨0, _, rfl, Nat.zero_le _, HO5.out, Lib.hid hbb5.out, Nat.le_refl _, Lib.hid (fun b _ hb => HK5.out.block b hb)⟩
    case round =>
      obtain ⟨k, ys, rfl, hk, hownr, HBr, hsr, HKr⟩ := hrel
      have hyl : ys.length = list.length + 1 := by simpa using hownr.1
      by_cases hlt : k < list.length
      · have g1 : wr.cell? ⟨w1.heap.size, k, none⟩ = some (ys[k]'(by omega)) := by
          rw [hownr.cellAt k (by omega)]
          exact List.getElem?_eq_getElem (by omega)
        have f1 := hownr.frozenAt k
        have i1 : (0 : Int) ≤ (k : Int) := by omega
        have i2 : (k : Int) < (list.length : Int) := by omega
        go_wp2
        exact ⟨⟨k + 1, _, by go_num, by omega, (hownr.stored k _).1, Lib.hid (HBr.out.setCell (p := ⟨w1.heap.size, k, none⟩) (by simp only; omega) _), by simp only [World.setCell]; simpa using hsr, Lib.hid (fun b h1 h2 => (Below.heap_setCell _ _ _ _ (by simp only; omega)).trans (HKr.out b h1 h2))⟩, by simp [intOf]; omega⟩
      · obtain rfl : k = list.length := by omega
        have HA9 := Lib.hid (HA.out.apart HLo.out (by omega) HKr.out)
        have CS := Lib.hid (Size_any HA9.out)
        have CM := Lib.hid (fun (i : Nat) (hi : i < list.length) => Name_in HA9.out i hi hn1)
        have CH := Lib.hid (Name_high HA9.out hn1)
        have CB := Lib.hid (Number_any HA9.out ⟨#[110, 111, 32, 108, 101, 116, 116, 101, 114]⟩ (by decide) (0, false) (.inr ⟨noLetter HG.out, rfl⟩))
        have CU := Lib.hid (fun (i : Nat) (hi : i < list.length) => Number_any HA9.out ⟨(nm list i).toArray⟩ (by rw [← bl_length, bl_mk, nm_lt hi]; exact HZ.out _ (List.getElem_mem hi)) ((i : Int), true) (.inl ⟨i, hi, HG.out.lets, bl_mk _, rfl⟩))
        obtain ⟨bl0, off0, rfl, _, hcl⟩ := (S0.out.below HBr.out).addr (by omega)
        have HCL := Lib.hid hcl; clear hcl
        go_wp2_with (first
          | (go_at_call 49; refine CS.out.mono ?_; rintro e w' ⟨rfl, rfl⟩)
          | (go_at_call 50; first | (with_reducible refine CH.out.mono ?_; rintro e w' ⟨rfl, rfl⟩) | (refine (Name_low (-1) _ (by decide)).mono ?_; rintro e w' ⟨rfl, rfl⟩)))
        rename World => w9
        go_loopw [10, 11, 12, 13, 102] (fun _ _ _ _ u102 wq => ∃ k : Nat, u102 = .int .i64 k ∧ k ≤ list.length ∧ wq = w9) (fun _ _ _ _ u102 _ => list.length - (intOf u102).toNat)
        case atStart => exact ⟨0, rfl, Nat.zero_le _, rfl⟩
        case round =>
          obtain ⟨k, rfl, hk, rfl⟩ := hrel
          by_cases hlt : k < list.length
          · have g1 := HCL.out k _ (by rw [List.getElem?_map, List.getElem?_eq_getElem hlt]; rfl)
            have CM1 := Lib.hid (CM.out k hlt); have CU1 := Lib.hid (CU.out k hlt)
            rw [nm_lt hlt] at CM1 CU1
            generalize list[k]'hlt = s at *
            have i1 : (0 : Int) ≤ (k : Int) := by omega
            have i2 : (k : Int) < (list.length : Int) := by omega
            go_wp2_with (first
              | (go_at_call 50; refine CM1.out.mono ?_; rintro e w' ⟨rfl, rfl⟩)
              | (go_at_call 51; refine CU1.out.mono ?_; rintro e w' ⟨rfl, rfl⟩))
            exact ⟨⟨k + 1, by go_num, by omega, trivial⟩, by simp [intOf]; omega⟩
          · obtain rfl : k = list.length := by omega
            go_wp2_with (go_at_call 51; refine CB.out.mono ?_; rintro e w' ⟨rfl, rfl⟩)
            go_ret
            exact ⟨rfl, HBr.out⟩
  · have hb0 : (er != 0) = true := by simpa using hbad
    have HE := Lib.hid hE; have HE1 := Lib.hid hE1; have HE2 := Lib.hid hE2; clear hE hE1 hE2
    go_enter Try.func14, Try.ntmps14
    go_wp2_with (first
      | (go_at_call 45; refine CA.out.mono ?_; rintro e w1 ⟨rfl, hb1⟩; have S01 := Lib.hid (S0.out.below hb1); have hs1 := hb1.size)
      | (go_at_call 46; refine (CL.out _ S01.out hs1).mono ?_; rintro e w2 ⟨n, hn, rfl, hb2, hown2⟩; obtain rfl := hn; have hbb2 := Lib.hid (Below.next3 hb1 (Nat.le_refl _) hb2); have hs2 := hbb2.out.size; have hg := hown2.lt w1.heap.size rfl; have HL2 := Lib.hid (Sl.cut1 (Sl.of_own hown2) HSL.out); have HO2 := Lib.hid hown2; clear hb1 hb2 hown2)
      | (go_at_call 48; refine (CR.out _ (S0.out.below hbb3.out) (by omega)).mono ?_; rintro e w4 ⟨he4, hb4⟩; rw [HE1.out, HE2.out] at he4; subst he4; have hbb4 := Lib.hid (Below.next3 hbb3.out (Nat.le_refl _) hb4); have HO4 := Lib.hid (own_below HO3.out hb4); have hs4 := hb4.size; have HK4 := Lib.hid hb4; clear hb4; have HT := Lib.hid (CT.out _ w4 (Sl.cut1 (Sl.of_own HO4.out) HSL.out) ((S0.out.below hbb4.out).more (by omega))))
      | (go_at_call 26; refine HT.out.mono ?_; rintro e w5 ⟨rfl, hb5⟩; have hbb5 := Lib.hid (Below.next3 hbb4.out (Nat.le_refl _) hb5); have HO5 := Lib.hid (own_below HO4.out hb5); have hs5 := hb5.size; have HK5 := Lib.hid (HK4.out.trans (hb5.mono hs4)); clear hb5; have gsp := (HO5.out.cellAt list.length (by omega)).trans (concat_at HSL.out))
      | (go_at_call 47; refine (CN.out _ w2 HL2.out).mono ?_; rintro e w3 ⟨hb3, hor⟩; obtain ⟨_, he3⟩ := hor.resolve_right (fun h => hbad (HE2.out.symm.trans h.1)); clear hor; rw [HE1.out, HE2.out] at he3; subst he3; have hbb3 := Lib.hid (Below.next3 hbb2.out (Nat.le_refl _) hb3); have hs3 := hb3.size; have HO3 := Lib.hid (own_below HO2.out hb3); clear hb3))
    go_loopw [9, 66] (fun _ u66 wr => ∃ (k : Nat) (ys : List Value), u66 = .int .i64 k ∧ k ≤ list.length ∧ wr.ownsRow w1.heap.size 9 1 (.slice (some ⟨w1.heap.size, 0, none⟩) (list.length + 1) (list.length + 1)) (list.length + 1) ys ∧ Hid (Below w.heap.size w wr) ∧ w5.heap.size ≤ wr.heap.size ∧ Hid (Kept w2.heap.size w3.heap.size w3 wr)) (fun _ u66 _ => list.length - (intOf u66).toNat)
    case atStart => exact ⟨0, _, rfl, Nat.zero_le _, HO5.out, Lib.hid hbb5.out, Nat.le_refl _, Lib.hid (fun b _ hb => HK5.out.block b hb)⟩
    case round =>
      obtain ⟨k, ys, rfl, hk, hownr, HBr, hsr, HKr⟩ := hrel
      have hyl : ys.length = list.length + 1 := by simpa using hownr.1
      by_cases hlt : k < list.length
      · have g1 : wr.cell? ⟨w1.heap.size, k, none⟩ = some (ys[k]'(by omega)) := by
          rw [hownr.cellAt k (by omega)]
          exact List.getElem?_eq_getElem (by omega)
        have f1 := hownr.frozenAt k
        have i1 : (0 : Int) ≤ (k : Int) := by omega
        have i2 : (k : Int) < (list.length : Int) := by omega
        go_wp2
        exact ⟨⟨k + 1, _, by go_num, by omega, (hownr.stored k _).1, Lib.hid (HBr.out.setCell (p := ⟨w1.heap.size, k, none⟩) (by simp only; omega) _), by simp only [World.setCell]; simpa using hsr, Lib.hid (fun b h1 h2 => (Below.heap_setCell _ _ _ _ (by simp only; omega)).trans (HKr.out b h1 h2))⟩, by simp [intOf]; omega⟩
      · obtain rfl : k = list.length := by omega
        rename World => w9
        have CS := Lib.hid (Size_nil w9); have CM := Lib.hid (Name_nil w9)
        go_wp2_with (first
          | (go_at_call 49; refine CS.out.mono ?_; rintro e w' ⟨rfl, rfl⟩)
          | (go_at_call 50; refine CM.out.mono ?_; rintro e w' ⟨rfl, rfl⟩))
        go_ret
        exact ⟨rfl, HBr.out⟩
end Go.Proofs.Ytlkabghpcjlohaa
