/- Walks of the reference of layer 1: Cut, Of, Fix, Back, SameInts. -/
import Derived.Test.YtlkabghpcjlohaaDoorG4
import Derived.Lib.AppendStr
import Derived.Laws.BytesArg
namespace Go.Proofs.YtlkabghpcjlohaaDoor
set_option linter.unusedVariables false
set_option linter.unusedSimpArgs false
open Go.RowKit Go.Lib

theorem own_below {w w' : World} {B e n : Nat} {v : Value} {xs : List Value} (h : w.ownsRow B e 1 v n xs) (hb : Below w.heap.size w w') : w'.ownsRow B e 1 v n xs :=
  h.kept (row := none) ⟨hb.os, hb.tape, hb.output, hb.size, fun k hk _ => hb.block k hk⟩ (by
    rcases Classical.em (v.ownBlock = none) with h1 | h1
    · exact .inl h1
    · exact .inr h1)

theorem own_cell {w : World} {B e n k : Nat} {v u : Value} {xs : List Value} (h : w.ownsRow B e 1 v n xs) (hk : xs[k]? = some u) : ∃ g cap, v = .slice (some ⟨g, 0, none⟩) n cap ∧ w.cell? ⟨g, k, none⟩ = some u := by
  have hl : xs.length = n := by simpa using h.1
  have hlt := (List.getElem?_eq_some_iff.1 hk).1
  rcases h.2 with ⟨hv, h0⟩ | ⟨g, cap, cur, hv, _⟩
  · omega
  · refine ⟨g, cap, hv, ?_⟩
    have := h.cells (g := g) (by rw [hv]; rfl) k u hk
    rw [← this]; congr 1; simp [Addr.add]
set_option maxHeartbeats 2000000 in
set_option maxRecDepth 100000 in
theorem refCut_any (s : ByteArray) (n : Int) (w : World) (hn0 : -9223372036854775808 ≤ n) (hn1 : n ≤ 9223372036854775807) (hs : s.size ≤ 17592186044416) :
    Calls Tryd.prog 39 #[.string s, .int .i64 n] w fun e w' => e = .returned (.string ⟨(cutL (bl s) n).toArray⟩) ∧ Below w.heap.size w w' := by
  have hle := chop_length_le (bl s)
  rw [bl_length] at hle
  have c := fun W => refPlaces_any s W hs
  rw [places_length] at c
  have HC := Lib.hid c; clear c
  by_cases h1 : n < 1
  · have e : cutL (bl s) n = [] := by unfold cutL; rw [show n.toNat = 0 by omega]; rfl
    rw [e]
    go_enter Tryd.func39, Tryd.ntmps39
    go_wp2_with (go_at_call 36; refine (HC.out _).mono ?_; rintro e w1 ⟨v, rfl, hown, hb⟩; obtain ⟨A, c, rfl⟩ := own_form hown)
    go_ret
    exact ⟨rfl, hb⟩
  by_cases h2 : ((chop (bl s)).length : Int) ≤ n
  · have e : (⟨(cutL (bl s) n).toArray⟩ : ByteArray) = s := by
      unfold cutL
      rw [List.take_of_length_le (by omega), glue_chop]
    rw [e]
    go_enter Tryd.func39, Tryd.ntmps39
    go_wp2_with (go_at_call 36; refine (HC.out _).mono ?_; rintro e w1 ⟨v, rfl, hown, hb⟩; obtain ⟨A, c, rfl⟩ := own_form hown)
    go_ret
    exact ⟨rfl, hb⟩
  · obtain ⟨k, rfl⟩ : ∃ k : Nat, n = k := ⟨n.toNat, by omega⟩
    have hk : k < (chop (bl s)).length := by omega
    have hpl := places_at (bl s) k hk
    have hg := glue_take (bl s) k
    have hgl := glue_take_le (bl s) k
    rw [bl_length] at hgl
    have e : (⟨(cutL (bl s) (k : Int)).toArray⟩ : ByteArray) = s.extract 0 (glue ((chop (bl s)).take k)).length := by
      apply bl_inj
      rw [bl_mk, bl_to]
      unfold cutL
      rw [Int.toNat_natCast]
      exact hg
    rw [e]
    generalize (glue ((chop (bl s)).take k)).length = m at *
    have hx : (ints (places (bl s)))[k]? = some (.int .i64 (m : Int)) := by rw [List.getElem?_map, hpl]; rfl
    have HP := Lib.hid hx; clear hx hpl
    have hpos : 0 < (chop (bl s)).length := by omega
    clear hg e
    go_enter Tryd.func39, Tryd.ntmps39
    go_wp2_with (go_at_call 36; refine (HC.out _).mono ?_; rintro e w1 ⟨v, rfl, hown, hb⟩; obtain ⟨g, cap, rfl, hcell⟩ := own_cell hown HP.out)
    go_ret
    exact ⟨rfl, hb⟩
set_option maxHeartbeats 4000000 in
set_option maxRecDepth 100000 in
theorem SameInts_any (v u : Value) (xs ys : List Nat) (B : Nat) (w : World) (hv : Sl w B v (ints xs)) (hu : Sl w B u (ints ys)) (hx : xs.length ≤ 9223372036854775807) (hy : ys.length ≤ 9223372036854775807) :
    Calls Tryd.prog 22 #[v, u] w fun e w' => e = .returned (.bool (decide (xs = ys))) ∧ Below w.heap.size w w' := by
  by_cases hl : xs.length = ys.length
  · have hv0 := hv
    have hu0 := hu
    obtain ⟨A, c, rfl, hc, hA⟩ := hv
    obtain ⟨A', c', rfl, hc', hA'⟩ := hu
    rw [List.length_map] at hv0 hu0
    clear hc hc' hA hA'
    
    rw [List.length_map, List.length_map]
    have hlb : ((xs.length : Int) != (ys.length : Int)) = false := by simp [hl]
    have HL := Lib.hid hl; clear hl
    go_enter Tryd.func22, Tryd.ntmps22
    go_wp2
    go_loopw [5] (fun i wr => ∃ k : Nat, i = .int .i64 k ∧ k ≤ xs.length ∧ xs.take k = ys.take k ∧ Below w.heap.size w wr ∧ Sl wr B (.slice A xs.length c) (ints xs) ∧ Sl wr B (.slice A' ys.length c') (ints ys)) (fun i _ => xs.length - (intOf i).toNat)
    case atStart => exact ⟨0, rfl, Nat.zero_le _, rfl, Below.refl _ _, hv0, hu0⟩
    case round =>
      obtain ⟨k, rfl, hk, htk, hbw, hv1, hu1⟩ := hrel
      have HT := Lib.hid htk; clear htk
      by_cases hlt : k < xs.length
      · have hlt' : k < ys.length := by have := HL.out; omega
        obtain ⟨ad, rfl, _, g1⟩ := hv1.cell (k := k) (by simpa using hlt)
        obtain ⟨ad', rfl, _, g1'⟩ := hu1.cell (k := k) (by simpa using hlt')
        rw [List.getElem_map] at g1 g1'
        have i0 : (0 : Int) ≤ (k : Int) := by omega
        have i1 : (k : Int) < (xs.length : Int) := by omega
        have i2 : (k : Int) < (ys.length : Int) := by omega
        go_wp2
        go_quiet (fail)
        go_wp2
        · rename_i hne
          have hxy : xs ≠ ys := by
            rintro rfl
            simp at hne
          go_ret
          exact ⟨ret_b (by simp [hxy]), bdraw hbw _⟩
        · rename_i heq
          have hxy : xs[k] = ys[k] := by
            have h9 : ((xs[k] : Nat) : Int) = ((ys[k] : Nat) : Int) := by simpa using heq
            omega
          refine ⟨⟨k + 1, by go_num, by omega, ?_, bdraw hbw _, hv1, hu1⟩, by simp [intOf]; omega⟩
          rw [List.take_succ_eq_append_getElem hlt, List.take_succ_eq_append_getElem hlt', HT.out, hxy]
      · have hxy : xs = ys := by
          have h := HT.out
          rwa [List.take_of_length_le (by omega), List.take_of_length_le (by have := HL.out; omega)] at h
        have HX := Lib.hid hxy; clear hxy
        go_wp2
        go_ret
        exact ⟨ret_b (by simp [HX.out]), hbw⟩
  · have hlb : ((xs.length : Int) != (ys.length : Int)) = true := bne_iff_ne.2 (by omega)
    obtain ⟨A, c, rfl, hc, hA⟩ := hv
    obtain ⟨A', c', rfl, hc', hA'⟩ := hu
    rw [List.length_map, List.length_map]
    have hxy : xs ≠ ys := by rintro rfl; exact hl rfl
    clear hl hA hA' hc hc'
    go_enter Tryd.func22, Tryd.ntmps22
    go_wp2
    go_ret
    exact ⟨ret_b (by simp [hxy]), Below.refl _ _⟩
set_option maxHeartbeats 2000000 in
set_option maxRecDepth 100000 in
theorem refOf_any (v : Value) (rs : List Nat) (B : Nat) (w : World) (hv : Sl w B v (runeVs rs)) (hB : B ≤ w.heap.size) (hr : ∀ r ∈ rs, r ≤ 1114111) (hs : rs.length ≤ 17592186044416) :
    Calls Tryd.prog 62 #[v] w fun e w' => e = .returned (.string ⟨(encs rs).toArray⟩) ∧ Below w.heap.size w w' := by
  obtain ⟨i0, hi, hz0, hz1, hz2⟩ := info_parts b_infoByte
  have hv0 := hv
  obtain ⟨A, c, rfl, hc, hA⟩ := hv
  rw [List.length_map] at hv0 hc ⊢
  clear hA
  go_enter Tryd.func62, Tryd.ntmps62
  go_wp2
  go_loopw [3, 4] (fun u3 u4 wr => ∃ k : Nat, u4 = .int .i64 k ∧ k ≤ rs.length ∧ wr.ownsRow w.heap.size 5 1 u3 (encs (rs.take k)).length (byteCells (encs (rs.take k))) ∧ Below w.heap.size w wr) (fun _ u4 _ => rs.length - (intOf u4).toNat)
  case atStart => exact ⟨0, rfl, Nat.zero_le _, World.ownsRow_nil _ _ _ _, Below.refl _ _⟩
  case round =>
    obtain ⟨k, rfl, hk, hown, hbw⟩ := hrel
    have hsz := hbw.size
    have hv1 := hv0.below (hbw.mono hB)
    by_cases hlt : k < rs.length
    · obtain ⟨ad, rfl, _, g1⟩ := hv1.cell (k := k) (by simpa using hlt)
      rw [List.getElem_map] at g1
      have hrk := hr (rs[k]'hlt) (List.getElem_mem hlt)
      have hel := encs_length (rs.take k)
      rw [List.length_take] at hel
      have hes : (Utf8.encode (((rs[k]'hlt) : Nat) : Int)).size ≤ 4 := by rw [← bl_length, encode_bytes]; exact (enc_length _).2
      have hE : encs (rs.take (k + 1)) = encs (rs.take k) ++ enc (((rs[k]'hlt) : Nat) : Int) := by
        rw [List.take_succ_eq_append_getElem hlt, encs_append]; simp [encs]
      have hC : strCells (Utf8.encode (((rs[k]'hlt) : Nat) : Int)) = byteCells (enc (((rs[k]'hlt) : Nat) : Int)) := by rw [strCells_eq, encode_bytes]
      have hL : (Utf8.encode (((rs[k]'hlt) : Nat) : Int)).size = (enc (((rs[k]'hlt) : Nat) : Int)).length := by rw [← bl_length, encode_bytes]
      have cE := fun W => refEncode_any (((rs[k]'hlt) : Nat) : Int) W (by omega) (by omega)
      have HE := Lib.hid hE; clear hE
      have HC := Lib.hid hC; clear hC
      have HL := Lib.hid hL; clear hL
      generalize (((rs[k]'hlt) : Nat) : Int) = r at *
      have CE := Lib.hid cE; clear cE
      have i0' : (0 : Int) ≤ (k : Int) := by omega
      have i1 : (k : Int) < (rs.length : Int) := by omega
      go_wp2_with (first
        | (go_at_call 17; refine (CE.out _).mono ?_; rintro e w2 ⟨rfl, hb2⟩; have hown2 := own_below hown hb2; have hsz2 := hb2.size)
        | (at_builtin; refine Lib.wpList_append_own_string _ rfl _ _ 57 9 rfl w.heap.size 5 i0 Tryd.underlying57 Tryd.underlying9 hi hz0 hz1 hz2 _ _ _ rfl hown2 _ rfl (by unfold maxLen; omega) (by omega) (by omega) ?_; intro v' w3 hown' hgrow _))
      have hbw3 : Below w.heap.size w w3 := (hbw.trans (hb2.mono hsz)).grown hgrow (by omega) (fun j hj => (hown2.lt j hj).1)
      refine ⟨⟨k + 1, by go_num, by omega, ?_, hbw3⟩, by simp [intOf]; omega⟩
      rw [HE.out, byteCells_append, List.length_append, ← HL.out, ← HC.out]
      exact hown'
    · obtain rfl : k = rs.length := by omega
      rw [List.take_length] at hown
      have hcv : (convert 57 9 u3).run Tryd.prog wr = .ok (.string ⟨(encs rs).toArray⟩) wr := by
        rcases hown.2 with ⟨hv2, h0⟩ | ⟨g, cap, cur, hv2, _⟩
        · have he : encs rs = [] := List.length_eq_zero_iff.1 h0
          rw [hv2, he]
          exact run_convert_bytes_nil wr 57 5 Tryd.underlying57 Tryd.underlying5 0 0 9 Tryd.underlying9
        · rw [hv2]
          refine run_convert_bytes_back wr 57 9 5 ⟨g, 0, none⟩ cap (encs rs) Tryd.underlying57 Tryd.underlying5 Tryd.underlying9 (fun j hj => ?_)
          refine hown.cells (g := g) (by rw [hv2]; rfl) j _ ?_
          simp [byteCells, hj]
      obtain ⟨A3, c3, rfl⟩ := own_form hown
      go_wp2
      go_ret
      exact ⟨rfl, hbw⟩
theorem runes_rune_le (l : List UInt8) : ∀ r ∈ runes l, r ≤ 1114111 := fun r hr => by
  have := runes_scalar l r hr
  unfold scalar at this
  rw [valid_iff] at this; omega

set_option maxHeartbeats 2000000 in
set_option maxRecDepth 100000 in
theorem refFix_any (s : ByteArray) (w : World) (hs : s.size ≤ 17592186044416) :
    Calls Tryd.prog 40 #[.string s] w fun e w' => e = .returned (.string ⟨(fixL (bl s)).toArray⟩) ∧ Below w.heap.size w w' := by
  have hle := chop_length_le (bl s)
  rw [bl_length, ← runes_length] at hle
  have hrl := runes_rune_le (bl s)
  have HE : Hid (fixL (bl s) = encs (runes (bl s))) := Lib.hid rfl
  have HC := Lib.hid (fun W => refRunes_any s W hs)
  generalize runes (bl s) = rs at *
  have HR := Lib.hid hrl; clear hrl
  go_enter Tryd.func40, Tryd.ntmps40
  go_wp2_with (first
    | (go_at_call 63; refine (HC.out _).mono ?_; rintro e w1 ⟨v, rfl, hown, hb⟩)
    | (go_at_call 62; refine (refOf_any v rs w1.heap.size w1 (Sl.of_own hown) (Nat.le_refl _) HR.out (by omega)).mono ?_; rintro e w2 ⟨rfl, hb2⟩))
  go_ret
  exact ⟨ret_s (by rw [HE.out]), hb.trans (hb2.mono hb.size)⟩
set_option maxHeartbeats 2000000 in
set_option maxRecDepth 100000 in
theorem refBack_any (s : ByteArray) (w : World) (hs : s.size ≤ 17592186044416) :
    Calls Tryd.prog 41 #[.string s] w fun e w' => e = .returned (.string ⟨(backL (bl s)).toArray⟩) ∧ Below w.heap.size w w' := by
  obtain ⟨i0, hi, hz0, hz1, hz2⟩ := info_parts infoI32
  have hle := chop_length_le (bl s)
  rw [bl_length, ← runes_length] at hle
  have hrl := runes_rune_le (bl s)
  have HE : Hid (backL (bl s) = encs (runes (bl s)).reverse) := Lib.hid rfl
  have HC := Lib.hid (fun W => refRunes_any s W hs)
  generalize runes (bl s) = rs at *
  have HR := Lib.hid hrl; clear hrl
  go_enter Tryd.func41, Tryd.ntmps41
  go_wp2_with (go_at_call 63; refine (HC.out _).mono ?_; rintro e w1 ⟨v, rfl, hown, hb⟩; obtain ⟨A, c, rfl⟩ := own_form hown)
  have hsl := Sl.of_own hown
  have hs1 := hb.size
  go_loopw [4, 5] (fun u4 u5 wr => ∃ k : Nat, u5 = .int .i64 ((k : Int) - 1) ∧ k ≤ rs.length ∧ wr.ownsRow w1.heap.size 21 1 u4 (rs.drop k).reverse.length (runeVs (rs.drop k).reverse) ∧ Below w1.heap.size w1 wr) (fun _ u5 _ => (intOf u5 + 1).toNat)
  case atStart => exact ⟨rs.length, rfl, Nat.le_refl _, by rw [List.drop_length]; exact World.ownsRow_nil _ _ _ _, Below.refl _ _⟩
  case round =>
    obtain ⟨k, rfl, hk, hown3, hbw⟩ := hrel
    have hsz := hbw.size
    by_cases hk0 : k = 0
    · subst hk0
      rw [List.drop_zero] at hown3
      have HO := Lib.hid hown3; clear hown3
      go_wp2_with (go_at_call 62; refine (refOf_any u4 rs.reverse wr.heap.size wr (Sl.of_own HO.out) (Nat.le_refl _) (fun r hr => HR.out r (List.mem_reverse.1 hr)) (by rw [List.length_reverse]; omega)).mono ?_; rintro e w2 ⟨rfl, hb2⟩)
      go_ret
      exact ⟨ret_s (by rw [HE.out]), hb.trans ((hbw.trans (hb2.mono hsz)).mono hs1)⟩
    · obtain ⟨k', rfl⟩ : ∃ k', k = k' + 1 := ⟨k - 1, by omega⟩
      have hlt : k' < rs.length := by omega
      obtain ⟨ad, e0, _, g1⟩ := (hsl.below hbw).cell (k := k') (by simpa using hlt)
      rw [List.getElem_map] at g1
      have hstep : (rs.drop k').reverse = (rs.drop (k' + 1)).reverse ++ [rs[k']'hlt] := by
        rw [List.drop_eq_getElem_cons hlt, List.reverse_cons]
      have HS := Lib.hid hstep; clear hstep
      have e1 : ((k' + 1 : Nat) : Int) - 1 = (k' : Int) := by omega
      rw [e1]
      have hnn : (0 : Int) ≤ (k' : Int) := by omega
      have hlt2 : (k' : Int) < (rs.length : Int) := by omega
      clear e1
      have hll : (rs.drop (k' + 1)).reverse.length ≤ 17592186044416 := by rw [List.length_reverse, List.length_drop]; omega
      generalize (rs.drop (k' + 1)).reverse = done at *
      generalize hx : (rs[k']'hlt) = x at *
      clear hx
      subst e0
      go_wp2_with (at_builtin; refine wpList_append_own _ rfl (.tmp 15) (.tmp 20) 30 rfl w1.heap.size 21 i0 (.int .i32 0) 1 4 Tryd.underlying30 hi hz0 hz1 hz2 rfl (by decide) _ _ _ rfl (hown3.alloc _) ⟨wr.heap.size, 0, none⟩ 1 1 [.int .i32 (x : Int)] rfl rfl (cell_one_new _ _ _) (by simp [Value.oneCell']) (by unfold maxLen; omega) (by omega) (by simp; omega) ?_; intro v' w3 hown' hgrow _)
      have hbw3 : Below w1.heap.size w1 w3 := (hbw.alloc hbw.size _).grown hgrow (by simp; omega) (fun j hj => (hown3.lt j hj).1)
      refine ⟨⟨k', by go_num, by omega, ?_, hbw3⟩, by simp [intOf]⟩
      rw [HS.out]
      simpa [runeVs] using hown'
end Go.Proofs.YtlkabghpcjlohaaDoor
