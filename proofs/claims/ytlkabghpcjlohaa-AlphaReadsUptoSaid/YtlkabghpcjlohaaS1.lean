/- Slices that read as lists; the reference's comparison of two lists of texts. -/
import Derived.Test.YtlkabghpcjlohaaA6
import Derived.BigQuiet
import Derived.Deep.QuietTactic
import Derived.Deep.AppendLies
namespace Go.Proofs.Ytlkabghpcjlohaa
set_option linter.unusedVariables false
set_option linter.unusedSimpArgs false
open Go.RowKit Go.Lib

theorem bdraw {B : Nat} {a w : World} (h : Below B a w) (n : Nat) : Below B a (w.drewN n) := h.trans ⟨rfl, rfl, rfl, Nat.le_refl _, fun _ _ => rfl⟩
theorem block_add (a : Addr) (n : Nat) : (a.add n).block = a.block := by unfold Addr.add; split <;> rfl
/-- v is a slice whose cells, all of them below block B, hold xs -/
def Sl (w : World) (B : Nat) (v : Value) (xs : List Value) : Prop :=
  ∃ A c, v = .slice A xs.length c ∧ xs.length ≤ c ∧ (0 < xs.length → ∃ ad, A = some ad ∧ ad.block < B ∧ ∀ j u, xs[j]? = some u → w.cell? (ad.add j) = some u)
theorem Sl.nil_ (w : World) (B : Nat) : Sl w B (.slice none 0 0) [] := ⟨none, 0, rfl, Nat.le_refl _, fun h => absurd h (by simp)⟩
theorem Sl.below {w w' : World} {B : Nat} {v : Value} {xs : List Value} (h : Sl w B v xs) (hb : Below B w w') : Sl w' B v xs := by
  obtain ⟨A, c, hv, hc, h⟩ := h
  refine ⟨A, c, hv, hc, fun hn => ?_⟩
  obtain ⟨ad, e, hB, hcell⟩ := h hn
  exact ⟨ad, e, hB, fun j u hu => (hb.cell (by rw [block_add]; exact hB)).trans (hcell j u hu)⟩
theorem Sl.more {w : World} {B B' : Nat} {v : Value} {xs : List Value} (h : Sl w B v xs) (hB : B ≤ B') : Sl w B' v xs := by
  obtain ⟨A, c, hv, hc, h⟩ := h
  refine ⟨A, c, hv, hc, fun hn => ?_⟩
  obtain ⟨ad, e, hB1, hcell⟩ := h hn
  exact ⟨ad, e, by omega, hcell⟩
theorem Sl.of_own {w : World} {B e : Nat} {v : Value} {n : Nat} {xs : List Value} (h : w.ownsRow B e 1 v n xs) : Sl w w.heap.size v xs := by
  have hl : xs.length = n := by simpa using h.1
  subst hl
  rcases h.2 with ⟨hv, h0⟩ | ⟨g, cap, cur, hv, hB, hg, hcap, hrest⟩
  · exact ⟨none, 0, by rw [hv, h0], by omega, fun hn => by omega⟩
  · refine ⟨some ⟨g, 0, none⟩, cap, hv, by omega, fun _ => ⟨_, rfl, (Array.getElem?_eq_some_iff.1 hg).1, h.cells (g := g) (by rw [hv]; rfl)⟩⟩
theorem Sl.at_ {w : World} {B : Nat} {v : Value} {xs : List Value} (h : Sl w B v xs) {k : Nat} (hk : k < xs.length) : ∃ ad c, v = .slice (some ad) xs.length c ∧ w.cell? (ad.add k) = some xs[k] := by
  obtain ⟨A, c, hv, hc, h⟩ := h
  obtain ⟨ad, rfl, hB, hcell⟩ := h (by omega)
  exact ⟨ad, c, hv, hcell k _ (List.getElem?_eq_getElem hk)⟩

theorem Sl.cell {w : World} {B : Nat} {A : Option Addr} {n c : Nat} {xs : List Value} (h : Sl w B (.slice A n c) xs) {k : Nat} (hk : k < xs.length) : ∃ ad, A = some ad ∧ ad.block < B ∧ w.cell? (ad.add k) = some xs[k] := by
  obtain ⟨A, c, hv, hc, h⟩ := h
  obtain ⟨ad, rfl, hB, hcell⟩ := h (by omega)
  injection hv with e1 e2 e3
  exact ⟨ad, e1, hB, hcell k _ (List.getElem?_eq_getElem hk)⟩
theorem Sl.len {w : World} {B : Nat} {A : Option Addr} {n c : Nat} {xs : List Value} (h : Sl w B (.slice A n c) xs) : xs.length = n ∧ n ≤ c := by
  obtain ⟨A, c, hv, hc, h⟩ := h
  injection hv with e1 e2 e3
  omega

abbrev str (l : List UInt8) : Value := .string ⟨l.toArray⟩
abbrev strs (ls : List (List UInt8)) : List Value := ls.map str
theorem str_bl (s : ByteArray) : str (bl s) = .string s := by unfold str; congr 1
theorem bl_roundtrip (s : ByteArray) : (⟨(bl s).toArray⟩ : ByteArray) = s := bl_inj rfl

set_option maxHeartbeats 4000000 in
set_option maxRecDepth 100000 in
theorem SameTexts_any (v u : Value) (xs ys : List (List UInt8)) (B : Nat) (w : World) (hv : Sl w B v (strs xs)) (hu : Sl w B u (strs ys)) (hx : xs.length ≤ 9223372036854775807) (hy : ys.length ≤ 9223372036854775807) :
    Calls Try.prog 26 #[v, u] w fun e w' => e = .returned (.bool (decide (xs = ys))) ∧ Below w.heap.size w w' := by
  by_cases hl : xs.length = ys.length
  · have hv0 := hv
    have hu0 := hu
    obtain ⟨A, c, rfl, hc, hA⟩ := hv
    obtain ⟨A', c', rfl, hc', hA'⟩ := hu
    rw [List.length_map] at hv0 hu0
    clear hc hc' hA hA'
    
    rw [List.length_map, List.length_map]
    have hlb : ((xs.length : Int) != (ys.length : Int)) = false := by simp [hl]
    have HL := Lib.hid hl; clear hl
    go_enter Try.func26, Try.ntmps26
    go_wp2
    go_loopw [5] (fun i wr => ∃ k : Nat, i = .int .i64 k ∧ k ≤ xs.length ∧ xs.take k = ys.take k ∧ Below w.heap.size w wr ∧ Sl wr B (.slice A xs.length c) (strs xs) ∧ Sl wr B (.slice A' ys.length c') (strs ys)) (fun i _ => xs.length - (intOf i).toNat)
    case atStart => exact ⟨0, rfl, Nat.zero_le _, rfl, Below.refl _ _, hv0, hu0⟩
    case round =>
      obtain ⟨k, rfl, hk, htk, hbw, hv1, hu1⟩ := hrel
      have HT := Lib.hid htk; clear htk
      by_cases hlt : k < xs.length
      · have hlt' : k < ys.length := by have := HL.out; omega
        obtain ⟨ad, rfl, _, g1⟩ := hv1.cell (k := k) (by simpa using hlt)
        obtain ⟨ad', rfl, _, g1'⟩ := hu1.cell (k := k) (by simpa using hlt')
        rw [List.getElem_map] at g1 g1'
        have i0 : (0 : Int) ≤ (k : Int) := by omega
        have i1 : (k : Int) < (xs.length : Int) := by omega
        have i2 : (k : Int) < (ys.length : Int) := by omega
        go_wp2
        go_quiet (fail)
        go_wp2
        · rename_i hne
          have hxy : xs ≠ ys := by
            rintro rfl
            simp at hne
          go_ret
          exact ⟨ret_b (by simp [hxy]), bdraw hbw _⟩
        · rename_i heq
          have hxy : xs[k] = ys[k] := by simpa using heq
          refine ⟨⟨k + 1, by go_num, by omega, ?_, bdraw hbw _, hv1, hu1⟩, by simp [intOf]; omega⟩
          rw [List.take_succ_eq_append_getElem hlt, List.take_succ_eq_append_getElem hlt', HT.out, hxy]
      · have hxy : xs = ys := by
          have h := HT.out
          rwa [List.take_of_length_le (by omega), List.take_of_length_le (by have := HL.out; omega)] at h
        have HX := Lib.hid hxy; clear hxy
        go_wp2
        go_ret
        exact ⟨ret_b (by simp [HX.out]), hbw⟩
  · have hlb : ((xs.length : Int) != (ys.length : Int)) = true := bne_iff_ne.2 (by omega)
    obtain ⟨A, c, rfl, hc, hA⟩ := hv
    obtain ⟨A', c', rfl, hc', hA'⟩ := hu
    rw [List.length_map, List.length_map]
    have hxy : xs ≠ ys := by rintro rfl; exact hl rfl
    clear hl hA hA' hc hc'
    go_enter Try.func26, Try.ntmps26
    go_wp2
    go_ret
    exact ⟨ret_b (by simp [hxy]), Below.refl _ _⟩
end Go.Proofs.Ytlkabghpcjlohaa
