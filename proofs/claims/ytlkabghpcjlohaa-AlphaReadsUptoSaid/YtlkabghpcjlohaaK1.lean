/- Package alpha: counts and Ways of an alphabet in memory. -/
import Derived.Test.YtlkabghpcjlohaaN1
import Derived.BigQuiet
import Derived.BigRegion
namespace Go.Proofs.Ytlkabghpcjlohaa
set_option linter.unusedVariables false
set_option linter.unusedSimpArgs false
open Go.RowKit Go.Lib

theorem rowFrom_len (xs : List (List UInt8)) (s : List UInt8) {k : Nat} (a : Nat) (hk : k ≤ s.length) : (rowFrom xs s k a).length = s.length + 1 := by
  unfold rowFrom; simp only [List.length_append, List.length_replicate, List.length_cons, List.length_map, List.length_range]; omega
theorem rowFrom_at0 (xs : List (List UInt8)) (s : List UInt8) (k a : Nat) : (rowFrom xs s k a)[k]? = some a := by
  unfold rowFrom; rw [List.getElem?_append_right (by simp)]; simp
theorem rowFrom_at (xs : List (List UInt8)) (s : List UInt8) {k j : Nat} (a : Nat) (h : k < j) (hj : j ≤ s.length) : (rowFrom xs s k a)[j]? = some (cntL xs (s.drop j)) := by
  unfold rowFrom
  rw [List.getElem?_append_right (by simp; omega), List.length_replicate]
  obtain ⟨d, rfl⟩ : ∃ d, j = k + 1 + d := ⟨j - (k + 1), by omega⟩
  rw [show k + 1 + d - k = d + 1 by omega, List.getElem?_cons_succ, List.getElem?_map, List.getElem?_range (by omega)]
  rfl
theorem rowFrom_set (xs : List (List UInt8)) (s : List UInt8) (k a b : Nat) : (rowFrom xs s k a).set k b = rowFrom xs s k b := by
  unfold rowFrom; rw [List.set_append_right _ _ (by simp)]; simp
theorem rowFrom_down (xs : List (List UInt8)) (s : List UInt8) {m : Nat} (h : m + 1 ≤ s.length) : rowFrom xs s (m + 1) (cntL xs (s.drop (m + 1))) = rowFrom xs s m 0 := by
  unfold rowFrom
  rw [List.replicate_succ', List.append_assoc]
  congr 1
  rw [show s.length - m = (s.length - (m + 1)) + 1 by omega, List.range_succ_eq_map, List.map_cons, List.map_map]
  simp only [List.cons_append, List.nil_append, Nat.add_zero]
  congr 2
  refine List.map_congr_left fun j _ => ?_
  simp only [Function.comp]
  rw [show m + 1 + 1 + j = m + 1 + j.succ by omega]
theorem rowFrom_last (xs : List (List UInt8)) (s : List UInt8) : ints (rowFrom xs s s.length 1) = (madeCells (Value.int .i64 0).cells ((s.length + 1) * 1)).toList.set s.length (.int .i64 1) := by
  have e : (madeCells (Value.int .i64 0).cells ((s.length + 1) * 1)).toList = List.replicate (s.length + 1) (.int .i64 0) := by
    refine List.ext_getElem? fun i => ?_
    rw [Nat.mul_one]
    simp only [madeCells, Value.cells, Array.toList_map, Array.toList_range, List.getElem?_map, List.getElem?_replicate]
    by_cases h : i < s.length + 1
    · rw [List.getElem?_range h, if_pos h]; simp [Nat.mod_one]
    · rw [List.getElem?_eq_none (by simp; omega), if_neg h]; rfl
  rw [e, List.replicate_succ', List.set_append_right _ _ (by simp)]
  unfold rowFrom ints
  simp
theorem ints_set (l : List Nat) (k a : Nat) : (ints l).set k (.int .i64 (a : Int)) = ints (l.set k a) := by unfold ints; rw [List.map_set]
/-- what the first k letters of the order add -/
def partL (xs : List (List UInt8)) (o : List Nat) (r : List UInt8) (k : Nat) : Nat := addAll (fun i => cntL xs (r.drop (nm xs i).length)) (std xs r) (o.take k) 0
theorem partL_le (xs : List (List UInt8)) (o : List Nat) (r : List UInt8) (k : Nat) : partL xs o r k ≤ maxWays := by
  unfold partL; rw [addAll_eq _ _ _ _ (Nat.zero_le _)]; exact Nat.min_le_left _ _
theorem partL_succ (xs : List (List UInt8)) (o : List Nat) (r : List UInt8) {k : Nat} (h : k < o.length) : partL xs o r (k + 1) = if std xs r (o[k]'h) then min (partL xs o r k + cntL xs (r.drop (nm xs (o[k]'h)).length)) maxWays else partL xs o r k := by
  unfold partL
  rw [List.take_succ_eq_append_getElem h]
  unfold addAll
  rw [List.foldl_append]
  rfl

set_option maxHeartbeats 8000000 in
set_option maxRecDepth 100000 in
theorem counts_any {B p : Nat} {xs : List (List UInt8)} {o : List Nat} {w : World} (h : AlphAt B p xs o w) (hL : Lets xs) (hO : Ord xs o) (s : List UInt8) (hn : xs.length ≤ 1000) (hx : ∀ x ∈ xs, x.length ≤ 12) (hs : s.length ≤ 1073741824) :
    Calls Try.prog 92 #[.pointer (some ⟨p, 0, none⟩), .string ⟨s.toArray⟩] w fun e w' => Below w.heap.size w w' ∧ ∃ n : Nat, n = s.length ∧ e = .returned (.slice (some ⟨w.heap.size, 0, none⟩) (n + 1) (n + 1)) ∧ w'.ownsRow w.heap.size 3 1 (.slice (some ⟨w.heap.size, 0, none⟩) (n + 1) (n + 1)) (n + 1) (ints (rowFrom xs s 0 (cntL xs s))) := by
  obtain ⟨i0, hi, hz0, hz1, hz2⟩ := info_parts infoIntH
  have hssz : (⟨s.toArray⟩ : ByteArray).size = s.length := by rw [← bl_length]
  have hlast := rowFrom_last xs s
  have HLAST := Lib.hid hlast; clear hlast
  have HA := Lib.hid h; have HL := Lib.hid hL; have HO := Lib.hid hO; have HX := Lib.hid hx
  have hol : o.length = xs.length := by rw [hO.perm.length_eq, List.length_range]
  have HOL := Lib.hid hol
  have hoN : o.length ≤ 1000 := by omega
  clear h hL hO hx hol
  have HSZ := Lib.hid hssz
  have hb0 := Lib.hid (Below.refl w.heap.size w)
  obtain ⟨n, hnn⟩ : ∃ n, n = s.length := ⟨_, rfl⟩
  rw [← hnn] at hssz HLAST hs ⊢
  have q0 : (0 : Int) ≤ (n : Int) := by omega
  have q1 : (n : Int) < (n : Int) + 1 := by omega
  have HNN := Lib.hid hnn; clear hnn
  go_enter Try.func92, Try.ntmps92
  go_wp2_with (first
    | (at_make; refine wpList_make_full _ rfl _ _ 35 rfl w.heap.size 3 i0 (.int .i64 0) 1 Try.underlying35 hi hz0 hz1 _ _ _ _ (n + 1) rfl rfl (by push_cast; omega) (by push_cast; omega) (by rw [hz2]; omega) (by unfold maxLen; omega) (Nat.le_refl _) ?_; intro w1 hown1 hg1; have hb1 := Lib.hid (hb0.out.grown hg1 (Nat.le_refl _) (fun j hj => by cases hj)); have f1 := hown1.frozenAt n; have c1 := (hown1.cellAt n (by omega)).trans (List.getElem?_eq_getElem (by simp [size_madeCells])))) 
  have hrow0 : (w1.setCell ⟨w.heap.size, n, none⟩ (.int .i64 1)).ownsRow w.heap.size 3 1 (.slice (some ⟨w.heap.size, 0, none⟩) (n + 1) (n + 1)) (n + 1) (ints (rowFrom xs s n (cntL xs (s.drop n)))) := by
    rw [List.drop_of_length_le (by have := HNN.out; omega), cntL_nil, HLAST.out]
    exact (hown1.stored n _).1
  have hbb0 : Hid (Below w.heap.size w (w1.setCell ⟨w.heap.size, n, none⟩ (.int .i64 1))) := Lib.hid (hb1.out.setCell (p := ⟨w.heap.size, n, none⟩) (Nat.le_refl _) _)
  go_loopg [6, 8] (n + 1) (fun gf u6 _ wr => ∃ (k : Nat) (z : Int), u6 = .int .i64 z ∧ z = (k : Int) - 1 ∧ k ≤ n ∧ k ≤ gf ∧ wr.ownsRow w.heap.size 3 1 (.slice (some ⟨w.heap.size, 0, none⟩) (n + 1) (n + 1)) (n + 1) (ints (rowFrom xs s k (cntL xs (s.drop k)))) ∧ Hid (Below w.heap.size w wr))
  case atStart => exact ⟨n, _, rfl, rfl, Nat.le_refl _, by omega, hrow0, hbb0⟩
  case round =>
    clear hrow0 hbb0 f1 c1 hown1 hg1 hb1 hb0
    obtain ⟨k, z, rfl, hz, hk, hfu, hrow, HB⟩ := hrel
    cases k with
    | zero =>
      obtain rfl : z = -1 := by omega
      clear hz
      go_wp2
      go_ret
      exact ⟨HB.out, n, rfl, rfl, hrow⟩
    | succ m =>
      obtain rfl : z = (m : Int) := by omega
      clear hz
      obtain ⟨g', rfl⟩ : ∃ g', gk = g' + 1 := ⟨gk - 1, by omega⟩
      rw [rowFrom_down xs s (by have := HNN.out; omega)] at hrow
      have hA2 := HA.out.below (HB.out.mono HA.out.hB)
      have CO := Lib.hid (order_any hA2)
      have m0 : (0 : Int) ≤ (m : Int) := by omega
      have m1 : (m : Int) ≤ (n : Int) := by omega
      clear hA2
      go_wp2_with (go_at_call 89; refine CO.out.mono ?_; rintro e w2 ⟨⟨Ao, co, rfl, hso⟩, rfl⟩; have HSO := Lib.hid hso; clear hso)
      have HBr := HB
      go_loopg [8, 27] o.length (fun gf _ u27 wr2 => ∃ j : Nat, u27 = .int .i64 j ∧ j ≤ o.length ∧ o.length ≤ j + gf ∧ wr2.ownsRow w.heap.size 3 1 (.slice (some ⟨w.heap.size, 0, none⟩) (n + 1) (n + 1)) (n + 1) (ints (rowFrom xs s m (partL xs o (s.drop m) j))) ∧ Hid (Below w.heap.size w wr2))
      case atStart => exact ⟨0, rfl, Nat.zero_le _, by omega, hrow, HB⟩
      case round =>
        rename World => w5
        clear hrow HB
        obtain ⟨j, rfl, hj, hfj, hrow, HB⟩ := hrel
        by_cases hlt : j < o.length
        · obtain ⟨gq, rfl⟩ : ∃ gq, gk = gq + 1 := ⟨gk - 1, by omega⟩
          have hA5 := HA.out.below (HB.out.mono HA.out.hB)
          obtain ⟨An, cn, hc1, hc2⟩ := hA5.nms
          have hso5 := HSO.out.apart (lo := 0) (fun a _ => Nat.zero_le _) (fun b _ hb => (HB.out.block b (by have := HA.out.hB; omega)).trans (HBr.out.block b (by have := HA.out.hB; omega)).symm)
          obtain ⟨bo, oo, e0, _, hcl⟩ := hso5.addr (by omega)
          have g1 := hcl j _ (by rw [List.getElem?_map, List.getElem?_eq_getElem hlt]; rfl)
          obtain rfl := e0
          clear hcl hso5
          have hil : o[j]'hlt < xs.length := List.mem_range.1 (HO.out.perm.mem_iff.1 (List.getElem_mem hlt))
          have hps := partL_succ xs o (s.drop m) hlt
          have HPS := Lib.hid hps; clear hps
          generalize o[j]'hlt = i at *
          obtain ⟨bn, on, e0, _, hcl⟩ := hc2.addr (by omega)
          have g2 := hcl i _ (by rw [List.getElem?_map, List.getElem?_eq_getElem hil]; rfl)
          obtain rfl := e0
          clear hcl hc2 hA5
          have hnm := nm_lt hil
          rw [← hnm] at g2
          have hnl : (nm xs i).length ≤ 12 := by rw [hnm]; exact HX.out _ (List.getElem_mem hil)
          have e9 : (((⟨s.toArray⟩ : ByteArray).extract m n).data.toList) = s.drop m := by
            have e8 := HNN.out
            show bl _ = _
            rw [bl_extract]
            exact List.take_of_length_le (by show (List.drop m s).length ≤ _; rw [List.length_drop]; omega)
          have e1 : Lib.hasPrefix (((⟨s.toArray⟩ : ByteArray).extract m n).data.toList) (⟨(nm xs i).toArray⟩ : ByteArray).data.toList = std xs (s.drop m) i := by rw [e9]; exact hasPrefix_std HL.out _ hil
          have cP := fun W => Try.strings_HasPrefix ((⟨s.toArray⟩ : ByteArray).extract m n) ⟨(nm xs i).toArray⟩ W
          rw [e1] at cP
          have hstl : std xs (s.drop m) i = true → m + (nm xs i).length ≤ n ∧ 1 ≤ (nm xs i).length := fun hs => by
            have h1 := std_iff.1 hs
            have h2 := h1.2.length_le
            have h3 := List.length_pos_iff.2 h1.1
            rw [List.length_drop] at h2
            have := HNN.out
            omega
          have CP := Lib.hid cP; clear cP e1 e9 hnm
          have i0' : (0 : Int) ≤ (j : Int) := by omega
          have i1 : (j : Int) < (o.length : Int) := by omega
          have j0 : (0 : Int) ≤ (i : Int) := by omega
          have j1 : (i : Int) < (xs.length : Int) := by omega
          cases hsd : std xs (s.drop m) i with
          | false =>
            rw [hsd] at CP HPS
            have HPS2 := HPS.out
            rw [if_neg (by simp)] at HPS2
            have HP3 := Lib.hid HPS2; have Hsd := Lib.hid hsd; have HR := Lib.hid hrow
            clear HPS HPS2 hsd hstl hrow
            generalize nm xs i = nmi at *
            go_wp2_with fail
            go_quiet ((go_at_call 98; exact Calls.quiet_of_same (CP.out _)))
            go_wp2
            go_roundg gq
            case measure => omega
            case rel => exact ⟨j + 1, by go_num, by omega, by omega, by rw [HP3.out]; exact HR.out, Lib.hid (bdraw HB.out _)⟩
          | true =>
            rw [hsd] at CP HPS
            have HPS2 := HPS.out
            rw [if_pos rfl] at HPS2
            obtain ⟨hsl1, hsl2⟩ := hstl hsd
            have hp1 := partL_le xs o (s.drop m) j
            have hp2 := cntL_le xs ((s.drop m).drop (nm xs i).length)
            have cA := (hrow.cellAt m (by omega)).trans (by unfold ints; rw [List.getElem?_map, rowFrom_at0])
            have cB := (hrow.cellAt (m + (nm xs i).length) (by omega)).trans (by unfold ints; rw [List.getElem?_map, rowFrom_at xs s _ (by omega) (by have := HNN.out; omega)])
            have fA := hrow.frozenAt m
            rw [List.drop_drop] at hp2 HPS2
            have HP3 := Lib.hid HPS2; have Hsd := Lib.hid hsd; have HR := Lib.hid hrow
            clear HPS HPS2 hsd hstl hrow
            generalize hpv : partL xs o (s.drop m) j = pv at *
            generalize hcv : cntL xs (s.drop (m + (nm xs i).length)) = cv at *
            generalize nm xs i = nmi at *
            go_wp2_with fail
            go_quiet ((go_at_call 98; exact Calls.quiet_of_same (CP.out _)))
            have HBw : Hid (Below w.heap.size w (w5.drewN nq)) := Lib.hid (bdraw HB.out _)
            have hrow6 : (w5.drewN nq).ownsRow w.heap.size 3 1 (.slice (some ⟨w.heap.size, 0, none⟩) (n + 1) (n + 1)) (n + 1) (ints (rowFrom xs s m pv)) := HR.out
            have cA6 : (w5.drewN nq).cell? _ = _ := cA
            have cB6 : (w5.drewN nq).cell? _ = _ := cB
            have fA6 : (w5.drewN nq).frozen? _ = _ := fA
            have hc6 : (w5.drewN nq).cell? _ = _ := hc1
            have g26 : (w5.drewN nq).cell? _ = _ := g2
            have HR6 := Lib.hid hrow6
            clear hrow6 cA cB fA hc1 g2 g1 HB HR
            generalize w5.drewN nq = w6 at *
            have k1 : ((m : Int) + (nmi.length : Int)).toNat = m + nmi.length := by omega
            have k2 : (0 : Int) ≤ (m : Int) + (nmi.length : Int) := by omega
            have k3 : (m : Int) + (nmi.length : Int) < (n : Int) + 1 := by omega
            have k4 : IntKind.i64.wrap ((m : Int) + (nmi.length : Int)) = (m : Int) + (nmi.length : Int) := by rw [IntKind.wrap_i64]; omega
            have k5 : IntKind.i64.wrap ((pv : Int) + (cv : Int)) = (pv : Int) + (cv : Int) := by unfold maxWays at hp1 hp2; rw [IntKind.wrap_i64]; omega
            have k6 : (m : Int) < (n : Int) + 1 := by omega
            go_wp2_with fail
            go_big_region
            clear k1 k2 k3 k4 k5 k6 cA6 cB6 fA6 hc6 g26
            go_wp2
            go_roundg gq
            case measure => omega
            case rel =>
              refine ⟨j + 1, by go_num, by omega, by omega, ?_, Lib.hid ((HBw.out.setCell (p := ⟨w.heap.size, m, none⟩) (Nat.le_refl _) _).trans ⟨rfl, rfl, rfl, Nat.le_refl _, fun _ _ => rfl⟩)⟩
              have h := (HR6.out.stored m (.int .i64 (min 100000 ((pv : Int) + (cv : Int))))).1
              rw [show min 100000 ((pv : Int) + (cv : Int)) = ((min (pv + cv) maxWays : Nat) : Int) by unfold maxWays; omega, ints_set, rowFrom_set] at h
              rw [show min 100000 ((pv : Int) + (cv : Int)) = ((min (pv + cv) maxWays : Nat) : Int) by unfold maxWays; omega, HP3.out]
              exact h
        · obtain rfl : o.length = j := by omega
          have hr : Hid (w5.ownsRow w.heap.size 3 1 (.slice (some ⟨w.heap.size, 0, none⟩) (n + 1) (n + 1)) (n + 1) (ints (rowFrom xs s m (cntL xs (s.drop m))))) := Lib.hid (by
            have e : partL xs o (s.drop m) o.length = cntL xs (s.drop m) := by
              rw [cntL_ord HO.out (by rw [ne_eq, List.drop_eq_nil_iff]; have := HNN.out; omega)]
              unfold partL
              rw [List.take_of_length_le (Nat.le_refl _)]
            rw [← e]; exact hrow)
          clear hrow
          go_wp2
          go_roundg g'
          case measure => omega
          case rel => exact ⟨m, _, by go_num, rfl, by omega, by omega, hr.out, HB⟩
theorem Ways_any {B p : Nat} {xs : List (List UInt8)} {o : List Nat} {w : World} (h : AlphAt B p xs o w) (hL : Lets xs) (hO : Ord xs o) (s : List UInt8) (hn : xs.length ≤ 1000) (hx : ∀ x ∈ xs, x.length ≤ 12) (hs : s.length ≤ 1073741824) :
    Calls Try.prog 59 #[.pointer (some ⟨p, 0, none⟩), .string ⟨s.toArray⟩] w fun e w' => e = .returned (.int .i64 (cntL xs s : Nat)) ∧ Below w.heap.size w w' := by
  have CC := Lib.hid (counts_any h hL hO s hn hx hs)
  clear h hL hO hx
  go_enter Try.func59, Try.ntmps59
  go_wp2_with (go_at_call 92; refine CC.out.mono ?_; rintro e w1 ⟨hb1, n, hn1, rfl, hrow⟩; have c0 := (hrow.cellAt 0 (by omega)).trans (by unfold ints; rw [List.getElem?_map, rowFrom_at0]); have n0 : (0 : Int) < (n : Int) + 1 := by omega)
  go_ret
  exact ⟨rfl, hb1⟩
end Go.Proofs.Ytlkabghpcjlohaa
