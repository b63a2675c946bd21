/- Package alpha: Sure, counts, Ways of an alphabet in memory. -/
import Derived.Test.YtlkabghpcjlohaaH4
import Derived.Test.YtlkabghpcjlohaaShelf
import Derived.Laws.MakeOwn
import Derived.BigRegion
import Derived.BigQuiet
namespace Go.Proofs.Ytlkabghpcjlohaa
set_option linter.unusedVariables false
set_option linter.unusedSimpArgs false
open Go.RowKit Go.Lib Go.Maps Go.Shelf Go.WideMaps

/-- two slices of numbers are compared -/
theorem Equal_ints (v u : Value) (xs ys : List Int) (Bv Bu : Nat) (w : World) (hv : Sl w Bv v (intVs xs)) (hu : Sl w Bu u (intVs ys)) (hx : xs.length ≤ 9223372036854775807) (hy : ys.length ≤ 9223372036854775807) :
    Calls Try.prog 99 #[v, u] w fun e w' => e = .returned (.bool (decide (xs = ys))) ∧ ∃ q, w' = w.drewN q := by
  have hv0 := hv; have hu0 := hu
  obtain ⟨A, c, rfl, hc, hA⟩ := hv
  obtain ⟨A', c', rfl, hc', hA'⟩ := hu
  rw [List.length_map] at hv0 hu0
  rw [List.length_map, List.length_map]
  clear hA hA'
  by_cases hl : xs.length = ys.length
  · by_cases h0 : xs.length = 0
    · have e1 : xs = [] := List.length_eq_zero_iff.1 h0
      have e2 : ys = [] := List.length_eq_zero_iff.1 (by omega)
      subst e1; subst e2
      refine (Try.slices_Equal_int_empty A A' c 0 c' w (by omega)).mono fun e w' ⟨he, hw⟩ => ⟨by rw [he]; rfl, 0, hw⟩
    · obtain ⟨b1, o1, rfl, _, h1⟩ := hv0.addr (by omega)
      obtain ⟨b2, o2, rfl, _, h2⟩ := hu0.addr (by omega)
      refine (Try.slices_Equal_int b1 o1 xs.length c b2 o2 ys.length c' xs ys w (Nat.le_refl _) (Nat.le_refl _) hx hy (fun j hj => ?_) (fun j hj => ?_)).mono fun e w' ⟨he, hw⟩ => ⟨?_, hw⟩
      · rw [h1 j _ (by rw [List.getElem?_map, List.getElem?_eq_getElem hj]; rfl)]
        simp [List.getD, List.getElem?_eq_getElem hj]
      · rw [h2 j _ (by rw [List.getElem?_map, List.getElem?_eq_getElem hj]; rfl)]
        simp [List.getD, List.getElem?_eq_getElem hj]
      · rw [he, List.take_of_length_le (Nat.le_refl _), List.take_of_length_le (Nat.le_refl _)]
        exact ret_b (by rw [Bool.eq_iff_iff]; simp)
  · have hne : xs ≠ ys := fun e => hl (by rw [e])
    refine (Try.slices_Equal_int_lens A A' xs.length c ys.length c' w hl).mono fun e w' ⟨he, hw⟩ => ⟨by rw [he]; simp [hne], 0, hw⟩

/-- is it split again into the same? -/
def sureB (xs : List (List UInt8)) (cs : List Int) : Bool := okCells xs.length cs && (match splitL xs (joinI xs cs) with
  | .good l => decide (l.map (fun (n : Nat) => (n : Int)) = cs)
  | .bad _ _ => false)
theorem ints_intVs (l : List Nat) : ints l = intVs (l.map fun (n : Nat) => (n : Int)) := by simp [ints, intVs]
theorem split_err (xs : List (List UInt8)) : ∀ (f : Nat) (r : List UInt8) (acc : List Nat) (left : Nat) (er : Int), splitF xs f r acc = .bad left er → er = 33 ∨ er = 34
  | f, [], acc, left, er, h => by rw [splitF_nil] at h; cases h
  | 0, b :: t, acc, left, er, h => by rw [splitF_zero xs (by simp)] at h; injection h with h1 h2; exact .inr h2.symm
  | f + 1, b :: t, acc, left, er, h => by
    cases hb : bestL xs (b :: t) with
    | none => rw [splitF_none xs f (by simp) acc hb] at h; injection h with h1 h2; exact .inl h2.symm
    | some i =>
      rw [splitF_some xs f (by simp) acc hb] at h
      exact split_err xs f _ _ left er h

set_option maxHeartbeats 4000000 in
set_option maxRecDepth 100000 in
theorem Sure_any {B p : Nat} {xs : List (List UInt8)} {o : List Nat} {w : World} (h : AlphAt B p xs o w) (hL : Lets xs) (hO : Ord xs o) (v : Value) (cs : List Int) (Bc : Nat) (hv : Sl w Bc v (intVs cs)) (hBc : Bc ≤ w.heap.size) (hn : xs.length ≤ 1000) (hx : ∀ x ∈ xs, x.length ≤ 12) (hc : cs.length ≤ 1073741824) :
    Calls Try.prog 65 #[.pointer (some ⟨p, 0, none⟩), v] w fun e w' => e = .returned (.bool (sureB xs cs)) ∧ Below w.heap.size w w' := by
  have CJ := Lib.hid (Join_any h v cs Bc hv hBc hn hx hc)
  have hjl := joinI_le xs hx cs
  have CS := Lib.hid (fun W (hb : Below w.heap.size w W) => Split_any (h.below (hb.mono h.hB)) hL hO (joinB xs cs) hn (by
    have : (joinB xs cs).size ≤ 12 * cs.length := by
      unfold joinB
      rw [← bl_length, bl_mk]
      split
      · exact hjl
      · simp
    omega))
  have HV := Lib.hid hv
  clear h hL hO hx hjl hv
  cases hok : okCells xs.length cs with
  | false =>
    have hE : joinE xs cs = 35 := by unfold joinE; rw [hok]; rfl
    have hS : sureB xs cs = false := by unfold sureB; rw [hok]; rfl
    rw [hS]
    rw [hE] at CJ
    clear hE hS hok
    go_enter Try.func65, Try.ntmps65
    go_wp2_with (go_at_call 63; refine CJ.out.mono ?_; rintro e w1 ⟨rfl, hb1⟩)
    go_ret
    exact ⟨rfl, hb1⟩
  | true =>
    have hE : joinE xs cs = 0 := by unfold joinE; rw [hok]; rfl
    have hB : bl (joinB xs cs) = joinI xs cs := by unfold joinB; rw [hok]; rfl
    rw [hE] at CJ
    have HOK := Lib.hid hok; have HB := Lib.hid hB
    clear hE hok hB
    cases hsp : splitL xs (joinI xs cs) with
    | bad left er =>
      have hS : sureB xs cs = false := by unfold sureB; rw [HOK.out, hsp]; rfl
      rw [hS]
      have her := split_err xs 32 _ _ left er hsp
      have t1 : (er == 0) = false := by simp; omega
      have HSP : Hid (splitL xs (bl (joinB xs cs)) = .bad left er) := Lib.hid (by rw [HB.out]; exact hsp)
      clear hS hsp her
      go_enter Try.func65, Try.ntmps65
      go_wp2_with (first
        | (go_at_call 63; refine CJ.out.mono ?_; rintro e w1 ⟨rfl, hb1⟩)
        | (go_at_call 56; refine (CS.out _ hb1).mono ?_; rintro e w2 ⟨hb2, hm⟩; rw [HSP.out] at hm; obtain rfl := hm))
      go_ret
      exact ⟨rfl, hb1.trans (hb2.mono hb1.size)⟩
    | good l =>
      have hS : sureB xs cs = decide (l.map (fun (n : Nat) => (n : Int)) = cs) := by unfold sureB; rw [HOK.out, hsp]; rfl
      rw [hS]
      have HSP : Hid (splitL xs (bl (joinB xs cs)) = .good l) := Lib.hid (by rw [HB.out]; exact hsp)
      have hll := (split_join xs 32 _ _ l hsp (fun i hi => by simp at hi)).2.1
      rw [List.length_nil] at hll
      clear hS hsp
      generalize hD : decide (l.map (fun (n : Nat) => (n : Int)) = cs) = D
      have HD := Lib.hid hD; clear hD
      go_enter Try.func65, Try.ntmps65
      go_wp2_with (first
        | (go_at_call 63; refine CJ.out.mono ?_; rintro e w1 ⟨rfl, hb1⟩)
        | (go_at_call 56; refine (CS.out _ hb1).mono ?_; rintro e w2 ⟨hb2, hm⟩; rw [HSP.out] at hm; obtain ⟨vl, rfl, hown⟩ := hm)
        | (go_at_call 99; refine (Equal_ints vl v _ cs w2.heap.size Bc w2 (by rw [← ints_intVs]; exact Sl.of_own hown) (HV.out.below ((hb1.trans (hb2.mono hb1.size)).mono hBc)) (by rw [List.length_map]; omega) (by omega)).mono ?_; rw [HD.out]; rintro e w3 ⟨rfl, q, rfl⟩))
      go_ret
      exact ⟨rfl, bdraw (hb1.trans (hb2.mono hb1.size)) q⟩

/-! ### counts -/
def cntsL (xs : List (List UInt8)) (s : List UInt8) : List Nat := (List.range (s.length + 1)).map fun k => cntL xs (s.drop k)
theorem cntsL_length (xs : List (List UInt8)) (s : List UInt8) : (cntsL xs s).length = s.length + 1 := by simp [cntsL]
theorem cntsL_at (xs : List (List UInt8)) (s : List UInt8) {k : Nat} (h : k ≤ s.length) : (cntsL xs s)[k]? = some (cntL xs (s.drop k)) := by
  unfold cntsL
  rw [List.getElem?_map, List.getElem?_range (by omega)]
  rfl
/-- the row while the places from `at` on are counted: below there nothing yet -/
def rowFrom (xs : List (List UInt8)) (s : List UInt8) (k : Nat) (a : Nat) : List Nat := List.replicate k 0 ++ (a :: ((List.range (s.length - k)).map fun j => cntL xs (s.drop (k + 1 + j))))
end Go.Proofs.Ytlkabghpcjlohaa
