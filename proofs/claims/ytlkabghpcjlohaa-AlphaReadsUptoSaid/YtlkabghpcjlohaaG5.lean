/- Walks of the reference of layer 1: Cut, Of, Fix, Back, SameInts. -/
import Derived.Test.YtlkabghpcjlohaaG4
import Derived.Lib.AppendStr
import Derived.Laws.BytesArg
namespace Go.Proofs.Ytlkabghpcjlohaa
set_option linter.unusedVariables false
set_option linter.unusedSimpArgs false
open Go.RowKit Go.Lib

theorem own_below {w w' : World} {B e n : Nat} {v : Value} {xs : List Value} (h : w.ownsRow B e 1 v n xs) (hb : Below w.heap.size w w') : w'.ownsRow B e 1 v n xs :=
  h.kept (row := none) ⟨hb.os, hb.tape, hb.output, hb.size, fun k hk _ => hb.block k hk⟩ (by
    rcases Classical.em (v.ownBlock = none) with h1 | h1
    · exact .inl h1
    · exact .inr h1)

theorem own_cell {w : World} {B e n k : Nat} {v u : Value} {xs : List Value} (h : w.ownsRow B e 1 v n xs) (hk : xs[k]? = some u) : ∃ g cap, v = .slice (some ⟨g, 0, none⟩) n cap ∧ w.cell? ⟨g, k, none⟩ = some u := by
  have hl : xs.length = n := by simpa using h.1
  have hlt := (List.getElem?_eq_some_iff.1 hk).1
  rcases h.2 with ⟨hv, h0⟩ | ⟨g, cap, cur, hv, _⟩
  · omega
  · refine ⟨g, cap, hv, ?_⟩
    have := h.cells (g := g) (by rw [hv]; rfl) k u hk
    rw [← this]; congr 1; simp [Addr.add]
set_option maxHeartbeats 2000000 in
set_option maxRecDepth 100000 in
theorem refCut_any (s : ByteArray) (n : Int) (w : World) (hn0 : -9223372036854775808 ≤ n) (hn1 : n ≤ 9223372036854775807) (hs : s.size ≤ 17592186044416) :
    Calls Try.prog 81 #[.string s, .int .i64 n] w fun e w' => e = .returned (.string ⟨(cutL (bl s) n).toArray⟩) ∧ Below w.heap.size w w' := by
  have hle := chop_length_le (bl s)
  rw [bl_length] at hle
  have c := fun W => refPlaces_any s W hs
  rw [places_length] at c
  have HC := Lib.hid c; clear c
  by_cases h1 : n < 1
  · have e : cutL (bl s) n = [] := by unfold cutL; rw [show n.toNat = 0 by omega]; rfl
    rw [e]
    go_enter Try.func81, Try.ntmps81
    go_wp2_with (go_at_call 100; refine (HC.out _).mono ?_; rintro e w1 ⟨v, rfl, hown, hb⟩; obtain ⟨A, c, rfl⟩ := own_form hown)
    go_ret
    exact ⟨rfl, hb⟩
  by_cases h2 : ((chop (bl s)).length : Int) ≤ n
  · have e : (⟨(cutL (bl s) n).toArray⟩ : ByteArray) = s := by
      unfold cutL
      rw [List.take_of_length_le (by omega), glue_chop]
    rw [e]
    go_enter Try.func81, Try.ntmps81
    go_wp2_with (go_at_call 100; refine (HC.out _).mono ?_; rintro e w1 ⟨v, rfl, hown, hb⟩; obtain ⟨A, c, rfl⟩ := own_form hown)
    go_ret
    exact ⟨rfl, hb⟩
  · obtain ⟨k, rfl⟩ : ∃ k : Nat, n = k := ⟨n.toNat, by omega⟩
    have hk : k < (chop (bl s)).length := by omega
    have hpl := places_at (bl s) k hk
    have hg := glue_take (bl s) k
    have hgl := glue_take_le (bl s) k
    rw [bl_length] at hgl
    have e : (⟨(cutL (bl s) (k : Int)).toArray⟩ : ByteArray) = s.extract 0 (glue ((chop (bl s)).take k)).length := by
      apply bl_inj
      rw [bl_mk, bl_to]
      unfold cutL
      rw [Int.toNat_natCast]
      exact hg
    rw [e]
    generalize (glue ((chop (bl s)).take k)).length = m at *
    have hx : (ints (places (bl s)))[k]? = some (.int .i64 (m : Int)) := by rw [List.getElem?_map, hpl]; rfl
    have HP := Lib.hid hx; clear hx hpl
    have hpos : 0 < (chop (bl s)).length := by omega
    clear hg e
    go_enter Try.func81, Try.ntmps81
    go_wp2_with (go_at_call 100; refine (HC.out _).mono ?_; rintro e w1 ⟨v, rfl, hown, hb⟩; obtain ⟨g, cap, rfl, hcell⟩ := own_cell hown HP.out)
    go_ret
    exact ⟨rfl, hb⟩
set_option maxHeartbeats 4000000 in
set_option maxRecDepth 100000 in
theorem SameInts_any (v u : Value) (xs ys : List Nat) (B : Nat) (w : World) (hv : Sl w B v (ints xs)) (hu : Sl w B u (ints ys)) (hx : xs.length ≤ 9223372036854775807) (hy : ys.length ≤ 9223372036854775807) :
    Calls Try.prog 58 #[v, u] w fun e w' => e = .returned (.bool (decide (xs = ys))) ∧ Below w.heap.size w w' := by
  by_cases hl : xs.length = ys.length
  · have hv0 := hv
    have hu0 := hu
    obtain ⟨A, c, rfl, hc, hA⟩ := hv
    obtain ⟨A', c', rfl, hc', hA'⟩ := hu
    rw [List.length_map] at hv0 hu0
    clear hc hc' hA hA'
    
    rw [List.length_map, List.length_map]
    have hlb : ((xs.length : Int) != (ys.length : Int)) = false := by simp [hl]
    have HL := Lib.hid hl; clear hl
    go_enter Try.func58, Try.ntmps58
    go_wp2
    go_loopw [5] (fun i wr => ∃ k : Nat, i = .int .i64 k ∧ k ≤ xs.length ∧ xs.take k = ys.take k ∧ Below w.heap.size w wr ∧ Sl wr B (.slice A xs.length c) (ints xs) ∧ Sl wr B (.slice A' ys.length c') (ints ys)) (fun i _ => xs.length - (intOf i).toNat)
    case atStart => exact ⟨0, rfl, Nat.zero_le _, rfl, Below.refl _ _, hv0, hu0⟩
    case round =>
      obtain ⟨k, rfl, hk, htk, hbw, hv1, hu1⟩ := hrel
      have HT := Lib.hid htk; clear htk
      by_cases hlt : k < xs.length
      · have hlt' : k < ys.length := by have := HL.out; omega
        obtain ⟨ad, rfl, _, g1⟩ := hv1.cell (k := k) (by simpa using hlt)
        obtain ⟨ad', rfl, _, g1'⟩ := hu1.cell (k := k) (by simpa using hlt')
        rw [List.getElem_map] at g1 g1'
        have i0 : (0 : Int) ≤ (k : Int) := by omega
        have i1 : (k : Int) < (xs.length : Int) := by omega
        have i2 : (k : Int) < (ys.length : Int) := by omega
        go_wp2
        go_quiet (fail)
        go_wp2
        · rename_i hne
          have hxy : xs ≠ ys := by
            rintro rfl
            simp at hne
          go_ret
          exact ⟨ret_b (by simp [hxy]), bdraw hbw _⟩
        · rename_i heq
          have hxy : xs[k] = ys[k] := by
            have h9 : ((xs[k] : Nat) : Int) = ((ys[k] : Nat) : Int) := by simpa using heq
            omega
          refine ⟨⟨k + 1, by go_num, by omega, ?_, bdraw hbw _, hv1, hu1⟩, by simp [intOf]; omega⟩
          rw [List.take_succ_eq_append_getElem hlt, List.take_succ_eq_append_getElem hlt', HT.out, hxy]
      · have hxy : xs = ys := by
          have h := HT.out
          rwa [List.take_of_length_le (by omega), List.take_of_length_le (by have := HL.out; omega)] at h
        have HX := Lib.hid hxy; clear hxy
        go_wp2
        go_ret
        exact ⟨ret_b (by simp [HX.out]), hbw⟩
  · have hlb : ((xs.length : Int) != (ys.length : Int)) = true := bne_iff_ne.2 (by omega)
    obtain ⟨A, c, rfl, hc, hA⟩ := hv
    obtain ⟨A', c', rfl, hc', hA'⟩ := hu
    rw [List.length_map, List.length_map]
    have hxy : xs ≠ ys := by rintro rfl; exact hl rfl
    clear hl hA hA' hc hc'
    go_enter Try.func58, Try.ntmps58
    go_wp2
    go_ret
    exact ⟨ret_b (by simp [hxy]), Below.refl _ _⟩
theorem runes_rune_le (l : List UInt8) : ∀ r ∈ runes l, r ≤ 1114111 := fun r hr => by
  have := runes_scalar l r hr
  unfold scalar at this
  rw [valid_iff] at this; omega

end Go.Proofs.Ytlkabghpcjlohaa
