/- The reference of layer 3: counts, Ways, the first ways (walks and the plain theory of their order); Split without an alphabet; the ways that are read one by one. -/
import Derived.Test.YtlkabghpcjlohaaK1
import Derived.Test.YtlkabghpcjlohaaH8
import Derived.Test.YtlkabghpcjlohaaX8
import Derived.WalkMore
import Derived.Test.YtlkabghpcjlohaaX12
namespace Go.Proofs.Ytlkabghpcjlohaa
set_option linter.unusedVariables false
set_option linter.unusedSimpArgs false
section
open Go.RowKit Go.Lib
theorem partR_succ (xs : List (List UInt8)) (r : List UInt8) {k : Nat} (h : k < xs.length) : partL xs (List.range xs.length) r (k + 1) = if std xs r k then min (partL xs (List.range xs.length) r k + cntL xs (r.drop (nm xs k).length)) maxWays else partL xs (List.range xs.length) r k := by
  have h2 := partL_succ xs (List.range xs.length) r (k := k) (by rw [List.length_range]; exact h)
  rw [List.getElem_range] at h2
  exact h2
theorem partR_all (xs : List (List UInt8)) {r : List UInt8} (hr : r ≠ []) : partL xs (List.range xs.length) r xs.length = cntL xs r := by
  rw [cntL_cons xs hr]
  unfold partL
  rw [List.take_of_length_le (by rw [List.length_range]; exact Nat.le_refl _)]

set_option maxHeartbeats 8000000 in
set_option maxRecDepth 100000 in
theorem refCounts_any (u : Value) (xs : List (List UInt8)) (B : Nat) (w : World) (hu : Sl w B u (strs xs)) (hB : B ≤ w.heap.size) (s : List UInt8) (hn : xs.length ≤ 1000) (hx : ∀ x ∈ xs, x.length ≤ 12) (hs : s.length ≤ 1073741824) :
    Calls Try.prog 93 #[u, .string ⟨s.toArray⟩] w fun e w' => Below w.heap.size w w' ∧ ∃ n : Nat, n = s.length ∧ e = .returned (.slice (some ⟨w.heap.size, 0, none⟩) (n + 1) (n + 1)) ∧ w'.ownsRow w.heap.size 3 1 (.slice (some ⟨w.heap.size, 0, none⟩) (n + 1) (n + 1)) (n + 1) (ints (rowFrom xs s 0 (cntL xs s))) := by
  obtain ⟨i0, hi, hz0, hz1, hz2⟩ := info_parts infoIntH
  obtain ⟨A, c, rfl, hc, hA⟩ := hu
  have hu0 : Sl w B (.slice A xs.length c) (strs xs) := ⟨A, c, by rw [List.length_map], hc, hA⟩
  have hlm : (strs xs).length = xs.length := List.length_map _
  rw [hlm]
  clear hA hc hlm
  have hssz : (⟨s.toArray⟩ : ByteArray).size = s.length := by rw [← bl_length]
  have hlast := rowFrom_last xs s
  have HLAST := Lib.hid hlast; clear hlast
  have HU := Lib.hid hu0; have HX := Lib.hid hx
  clear hu0 hx
  have HSZ := Lib.hid hssz
  have hb0 := Lib.hid (Below.refl w.heap.size w)
  obtain ⟨n, hnn⟩ : ∃ n, n = s.length := ⟨_, rfl⟩
  have CS := Lib.hid (fun (k : Nat) (x : List UInt8) (W : World) (h1 : k ≤ n) (h2 : x.length ≤ 12) => stands_any s x k W (by omega) (by omega) (by omega))
  rw [← hnn] at hssz HLAST hs ⊢
  have q0 : (0 : Int) ≤ (n : Int) := by omega
  have q1 : (n : Int) < (n : Int) + 1 := by omega
  have HNN := Lib.hid hnn; clear hnn
  go_enter Try.func93, Try.ntmps93
  go_wp2_with (first
    | (at_make; refine wpList_make_full _ rfl _ _ 35 rfl w.heap.size 3 i0 (.int .i64 0) 1 Try.underlying35 hi hz0 hz1 _ _ _ _ (n + 1) rfl rfl (by push_cast; omega) (by push_cast; omega) (by rw [hz2]; omega) (by unfold maxLen; omega) (Nat.le_refl _) ?_; intro w1 hown1 hg1; have hb1 := Lib.hid (hb0.out.grown hg1 (Nat.le_refl _) (fun j hj => by cases hj)); have f1 := hown1.frozenAt n; have c1 := (hown1.cellAt n (by omega)).trans (List.getElem?_eq_getElem (by simp [size_madeCells]))))
  have hrow0 : (w1.setCell ⟨w.heap.size, n, none⟩ (.int .i64 1)).ownsRow w.heap.size 3 1 (.slice (some ⟨w.heap.size, 0, none⟩) (n + 1) (n + 1)) (n + 1) (ints (rowFrom xs s n (cntL xs (s.drop n)))) := by
    rw [List.drop_of_length_le (by have := HNN.out; omega), cntL_nil, HLAST.out]
    exact (hown1.stored n _).1
  have hbb0 : Hid (Below w.heap.size w (w1.setCell ⟨w.heap.size, n, none⟩ (.int .i64 1))) := Lib.hid (hb1.out.setCell (p := ⟨w.heap.size, n, none⟩) (Nat.le_refl _) _)
  go_loopg [6, 7] (n + 1) (fun gf u6 _ wr => ∃ (k : Nat) (z : Int), u6 = .int .i64 z ∧ z = (k : Int) - 1 ∧ k ≤ n ∧ k ≤ gf ∧ wr.ownsRow w.heap.size 3 1 (.slice (some ⟨w.heap.size, 0, none⟩) (n + 1) (n + 1)) (n + 1) (ints (rowFrom xs s k (cntL xs (s.drop k)))) ∧ Hid (Below w.heap.size w wr))
  case atStart => exact ⟨n, _, rfl, rfl, Nat.le_refl _, by omega, hrow0, hbb0⟩
  case round =>
    clear hrow0 hbb0 f1 c1 hown1 hg1 hb1 hb0
    obtain ⟨k, z, rfl, hz, hk, hfu, hrow, HB⟩ := hrel
    cases k with
    | zero =>
      obtain rfl : z = -1 := by omega
      clear hz
      go_wp2
      go_ret
      exact ⟨HB.out, n, rfl, rfl, hrow⟩
    | succ m =>
      obtain rfl : z = (m : Int) := by omega
      clear hz
      obtain ⟨g', rfl⟩ : ∃ g', gk = g' + 1 := ⟨gk - 1, by omega⟩
      rw [rowFrom_down xs s (by have := HNN.out; omega)] at hrow
      have m0 : (0 : Int) ≤ (m : Int) := by omega
      have m1 : (m : Int) ≤ (n : Int) := by omega
      go_wp2
      go_loopg [7] xs.length (fun gf u7 wr2 => ∃ j : Nat, u7 = .int .i64 j ∧ j ≤ xs.length ∧ xs.length ≤ j + gf ∧ wr2.ownsRow w.heap.size 3 1 (.slice (some ⟨w.heap.size, 0, none⟩) (n + 1) (n + 1)) (n + 1) (ints (rowFrom xs s m (partL xs (List.range xs.length) (s.drop m) j))) ∧ Hid (Below w.heap.size w wr2))
      case atStart => exact ⟨0, rfl, Nat.zero_le _, by omega, hrow, HB⟩
      case round =>
        rename World => w5
        clear hrow HB
        obtain ⟨j, rfl, hj, hfj, hrow, HB⟩ := hrel
        by_cases hlt : j < xs.length
        · obtain ⟨gq, rfl⟩ : ∃ gq, gk = gq + 1 := ⟨gk - 1, by omega⟩
          have hps := partR_succ xs (s.drop m) hlt
          have HPS := Lib.hid hps; clear hps
          obtain ⟨bn, on, e0, hbl, hcl⟩ := (HU.out.below (HB.out.mono hB)).addr (by omega)
          have g2 := hcl j _ (by rw [List.getElem?_map, List.getElem?_eq_getElem hlt]; rfl)
          obtain rfl := e0
          clear hcl
          have hnm := nm_lt hlt
          rw [← hnm] at g2
          have hnl : (nm xs j).length ≤ 12 := by rw [hnm]; exact HX.out _ (List.getElem_mem hlt)
          have cP := fun W => CS.out m (nm xs j) W (by omega) hnl
          rw [stB_std xs s m j] at cP
          have hstl : std xs (s.drop m) j = true → m + (nm xs j).length ≤ n ∧ 1 ≤ (nm xs j).length := fun hs => by
            have h1 := std_iff.1 hs
            have h2 := h1.2.length_le
            have h3 := List.length_pos_iff.2 h1.1
            rw [List.length_drop] at h2
            have := HNN.out
            omega
          have CP := Lib.hid cP; clear cP hnm
          have j0 : (0 : Int) ≤ (j : Int) := by omega
          have j1 : (j : Int) < (xs.length : Int) := by omega
          have hsz2 : (⟨(nm xs j).toArray⟩ : ByteArray).size = (nm xs j).length := by rw [← bl_length]
          cases hsd : std xs (s.drop m) j with
          | false =>
            rw [hsd] at CP HPS
            have HPS2 := HPS.out
            rw [if_neg (by simp)] at HPS2
            have HP3 := Lib.hid HPS2; have Hsd := Lib.hid hsd; have HR := Lib.hid hrow
            clear HPS HPS2 hsd hstl hrow
            generalize nm xs j = nmi at *
            go_wp2_with (go_at_call 91; refine (CP.out _).mono ?_; rintro e w6 ⟨rfl, rfl⟩)
            go_roundg gq
            case measure => omega
            case rel => exact ⟨j + 1, by go_num, by omega, by omega, by rw [HP3.out]; exact HR.out, HB⟩
          | true =>
            rw [hsd] at CP HPS
            have HPS2 := HPS.out
            rw [if_pos rfl] at HPS2
            obtain ⟨hsl1, hsl2⟩ := hstl hsd
            have hp1 := partL_le xs (List.range xs.length) (s.drop m) j
            have hp2 := cntL_le xs ((s.drop m).drop (nm xs j).length)
            have cA := (hrow.cellAt m (by omega)).trans (by unfold ints; rw [List.getElem?_map, rowFrom_at0])
            have cB := (hrow.cellAt (m + (nm xs j).length) (by omega)).trans (by unfold ints; rw [List.getElem?_map, rowFrom_at xs s _ (by omega) (by have := HNN.out; omega)])
            have fA := hrow.frozenAt m
            rw [List.drop_drop] at hp2 HPS2
            have HP3 := Lib.hid HPS2; have Hsd := Lib.hid hsd; have HR := Lib.hid hrow
            clear HPS HPS2 hsd hstl hrow
            generalize hpv : partL xs (List.range xs.length) (s.drop m) j = pv at *
            generalize hcv : cntL xs (s.drop (m + (nm xs j).length)) = cv at *
            generalize nm xs j = nmi at *
            have k1 : ((m : Int) + (nmi.length : Int)).toNat = m + nmi.length := by omega
            have k2 : (0 : Int) ≤ (m : Int) + (nmi.length : Int) := by omega
            have k3 : (m : Int) + (nmi.length : Int) < (n : Int) + 1 := by omega
            have k4 : IntKind.i64.wrap ((m : Int) + (nmi.length : Int)) = (m : Int) + (nmi.length : Int) := by rw [IntKind.wrap_i64]; omega
            have k5 : IntKind.i64.wrap ((pv : Int) + (cv : Int)) = (pv : Int) + (cv : Int) := by unfold maxWays at hp1 hp2; rw [IntKind.wrap_i64]; omega
            have k6 : (m : Int) < (n : Int) + 1 := by omega
            go_wp2_with (go_at_call 91; refine (CP.out _).mono ?_; rintro e w6 ⟨rfl, rfl⟩)
            go_big_region
            clear k1 k2 k3 k4 k5 k6 cA cB fA g2
            go_wp2
            go_roundg gq
            case measure => omega
            case rel =>
              refine ⟨j + 1, by go_num, by omega, by omega, ?_, Lib.hid ((HB.out.drew.setCell (p := ⟨w.heap.size, m, none⟩) (Nat.le_refl _) _))⟩
              have h := (HR.out.stored m (.int .i64 (min ((pv : Int) + (cv : Int)) 100000))).1
              rw [show min ((pv : Int) + (cv : Int)) 100000 = ((min (pv + cv) maxWays : Nat) : Int) by unfold maxWays; omega, ints_set, rowFrom_set] at h
              rw [show min ((pv : Int) + (cv : Int)) 100000 = ((min (pv + cv) maxWays : Nat) : Int) by unfold maxWays; omega, HP3.out]
              exact h
        · obtain rfl : xs.length = j := by omega
          have hr : Hid (w5.ownsRow w.heap.size 3 1 (.slice (some ⟨w.heap.size, 0, none⟩) (n + 1) (n + 1)) (n + 1) (ints (rowFrom xs s m (cntL xs (s.drop m))))) := Lib.hid (by
            rw [← partR_all xs (by rw [ne_eq, List.drop_eq_nil_iff]; have := HNN.out; omega)]; exact hrow)
          clear hrow
          go_wp2
          go_roundg g'
          case measure => omega
          case rel => exact ⟨m, _, by go_num, rfl, by omega, by omega, hr.out, HB⟩
theorem refWays_any (u : Value) (xs : List (List UInt8)) (B : Nat) (w : World) (hu : Sl w B u (strs xs)) (hB : B ≤ w.heap.size) (s : List UInt8) (hn : xs.length ≤ 1000) (hx : ∀ x ∈ xs, x.length ≤ 12) (hs : s.length ≤ 1073741824) :
    Calls Try.prog 60 #[u, .string ⟨s.toArray⟩] w fun e w' => e = .returned (.int .i64 (cntL xs s : Nat)) ∧ Below w.heap.size w w' := by
  have CC := Lib.hid (refCounts_any u xs B w hu hB s hn hx hs)
  clear hu hx
  go_enter Try.func60, Try.ntmps60
  go_wp2_with (go_at_call 93; refine CC.out.mono ?_; rintro e w1 ⟨hb1, n, hn1, rfl, hrow⟩; have c0 := (hrow.cellAt 0 (by omega)).trans (by unfold ints; rw [List.getElem?_map, rowFrom_at0]); have n0 : (0 : Int) < (n : Int) + 1 := by omega)
  go_ret
  exact ⟨rfl, hb1⟩
end

/-- the ways that begin with one of these letters -/
def waysOf (xs : List (List UInt8)) (o : List Nat) (r : List UInt8) (ls : List Nat) : List (List Nat) := ((ls.filter (std xs r)).map fun i => (waysL xs o (r.drop (nm xs i).length)).map (fun l => i :: l)).flatten
theorem waysOf_nil (xs : List (List UInt8)) (o : List Nat) (r : List UInt8) : waysOf xs o r [] = [] := rfl
theorem waysOf_append (xs : List (List UInt8)) (o : List Nat) (r : List UInt8) (a b : List Nat) : waysOf xs o r (a ++ b) = waysOf xs o r a ++ waysOf xs o r b := by
  unfold waysOf
  rw [List.filter_append, List.map_append, List.flatten_append]
theorem waysOf_one (xs : List (List UInt8)) (o : List Nat) (r : List UInt8) (i : Nat) : waysOf xs o r [i] = if std xs r i then (waysL xs o (r.drop (nm xs i).length)).map (fun l => i :: l) else [] := by
  unfold waysOf
  by_cases h : std xs r i = true
  · rw [List.filter_cons_of_pos h, if_pos h]; simp
  · rw [List.filter_cons_of_neg h, if_neg h]; simp
/-- the letters of one length ahead of a number -/
def eqs (xs : List (List UInt8)) (n i : Nat) : List Nat := (List.range i).filter fun j => decide ((nm xs j).length = n)
/-- the letters tried ahead of number i among those of length n -/
def tried (xs : List (List UInt8)) (n i : Nat) : List Nat := ((List.range (12 - n)).map fun q => eqs xs (12 - q) xs.length).flatten ++ eqs xs n i
theorem eqs_succ (xs : List (List UInt8)) (n i : Nat) : eqs xs n (i + 1) = eqs xs n i ++ if (nm xs i).length = n then [i] else [] := by
  unfold eqs
  rw [List.range_succ, List.filter_append]
  congr 1
  by_cases h : (nm xs i).length = n
  · rw [List.filter_cons_of_pos (by simpa using h), if_pos h]; rfl
  · rw [List.filter_cons_of_neg (by simpa using h), if_neg h]; rfl
theorem tried_succ (xs : List (List UInt8)) (n i : Nat) : tried xs n (i + 1) = tried xs n i ++ if (nm xs i).length = n then [i] else [] := by
  unfold tried
  rw [eqs_succ, List.append_assoc]
theorem tried_next (xs : List (List UInt8)) {n : Nat} (hn : n + 1 ≤ 12) : tried xs (n + 1) xs.length = tried xs n 0 := by
  unfold tried
  have e : 12 - n = (12 - (n + 1)) + 1 := by omega
  rw [e, List.range_succ, List.map_append, List.flatten_append]
  have e2 : 12 - (12 - (n + 1)) = n + 1 := by omega
  rw [List.map_singleton, e2, show eqs xs n 0 = [] from rfl]
  simp
theorem tried_first (xs : List (List UInt8)) : tried xs 12 0 = [] := by simp [tried, eqs]
/-- all letters, the longest first -/
def orderR (xs : List (List UInt8)) : List Nat := tried xs 0 0
theorem eqs_mem {xs : List (List UInt8)} {n i j : Nat} : j ∈ eqs xs n i ↔ j < i ∧ (nm xs j).length = n := by
  unfold eqs
  rw [List.mem_filter, List.mem_range]
  simp
theorem orderR_mem {xs : List (List UInt8)} (hx : ∀ x ∈ xs, 1 ≤ x.length ∧ x.length ≤ 12) (j : Nat) : j ∈ orderR xs ↔ j < xs.length := by
  unfold orderR tried
  rw [List.mem_append, List.mem_flatten]
  constructor
  · rintro (⟨l, hl, hj⟩ | hj)
    · obtain ⟨q, _, rfl⟩ := List.mem_map.1 hl
      exact (eqs_mem.1 hj).1
    · exact absurd (eqs_mem.1 hj).1 (by omega)
  · intro hj
    have hm := hx _ (List.getElem_mem hj)
    have he := nm_lt hj
    rw [← he] at hm
    refine .inl ⟨eqs xs (nm xs j).length xs.length, List.mem_map.2 ⟨12 - (nm xs j).length, List.mem_range.2 (by omega), by rw [show 12 - (12 - (nm xs j).length) = (nm xs j).length by omega]⟩, eqs_mem.2 ⟨hj, rfl⟩⟩
theorem orderR_pair (xs : List (List UInt8)) : (orderR xs).Pairwise fun i j => (nm xs j).length < (nm xs i).length ∨ ((nm xs j).length = (nm xs i).length ∧ i < j) := by
  unfold orderR tried
  rw [show eqs xs 0 0 = [] from rfl, List.append_nil, List.pairwise_flatten]
  constructor
  · intro l hl
    obtain ⟨q, _, rfl⟩ := List.mem_map.1 hl
    unfold eqs
    refine List.Pairwise.imp_of_mem ?_ (List.pairwise_lt_range.filter _)
    intro a b ha hb hab
    have h1 := (List.mem_filter.1 ha).2
    have h2 := (List.mem_filter.1 hb).2
    simp only [decide_eq_true_eq] at h1 h2
    exact .inr ⟨by omega, hab⟩
  · rw [List.pairwise_map]
    refine List.Pairwise.imp_of_mem ?_ List.pairwise_lt_range
    intro a b ha hb hab x hx y hy
    have h1 := (eqs_mem.1 hx).2
    have h2 := (eqs_mem.1 hy).2
    have := List.mem_range.1 hb
    exact .inl (by omega)
theorem orderR_ord {xs : List (List UInt8)} (hx : ∀ x ∈ xs, 1 ≤ x.length ∧ x.length ≤ 12) : Ord xs (orderR xs) := by
  have hp := orderR_pair xs
  refine ⟨(List.perm_ext_iff_of_nodup (hp.imp fun h e => by subst e; omega) List.nodup_range).2 fun j => by rw [orderR_mem hx, List.mem_range], hp.imp fun h => by omega⟩
/-- whichever order, as long as the longest come first: the same letters stand -/
theorem stand_same {xs : List (List UInt8)} (hL : Lets xs) {o o' : List Nat} (ho : Ord xs o) (ho' : Ord xs o') (r : List UInt8) : o.filter (std xs r) = o'.filter (std xs r) := by
  refine List.Perm.eq_of_pairwise (le := fun i j => (nm xs j).length ≤ (nm xs i).length) ?_ (ho.dec.filter _) (ho'.dec.filter _) ((ho.perm.trans ho'.perm.symm).filter _)
  intro a b ha hb h1 h2
  exact std_same hL (List.mem_filter.1 ha).2 (List.mem_filter.1 hb).2 (by omega)
theorem ways_ord {xs : List (List UInt8)} (hL : Lets xs) {o o' : List Nat} (ho : Ord xs o) (ho' : Ord xs o') : ∀ (n : Nat) (r : List UInt8), r.length ≤ n → waysL xs o r = waysL xs o' r
  | _, [], _ => by rw [waysL_nil, waysL_nil]
  | 0, b :: t, h => by simp at h
  | n + 1, b :: t, h => by
    rw [waysL_cons xs o (by simp), waysL_cons xs o' (by simp), stand_same hL ho ho']
    congr 1
    refine List.map_congr_left fun i hi => ?_
    have h1 : 1 ≤ (nm xs i).length := List.length_pos_iff.2 (std_iff.1 (List.mem_filter.1 hi).2).1
    rw [ways_ord hL ho ho' n _ (by rw [List.length_drop, List.length_cons] at *; omega)]
/-- so many more of the ways, behind what was there -/
def moreW (out : List (List Nat)) (most : Nat) (W : List (List Nat)) : List (List Nat) := out ++ W.take (most - out.length)
theorem moreW_nil (out : List (List Nat)) (most : Nat) : moreW out most [] = out := by simp [moreW]
theorem moreW_full {out : List (List Nat)} {most : Nat} (h : most ≤ out.length) (W : List (List Nat)) : moreW out most W = out := by
  unfold moreW
  rw [show most - out.length = 0 by omega]
  simp
theorem moreW_more (out : List (List Nat)) (most : Nat) (A B : List (List Nat)) : moreW (moreW out most A) most B = moreW out most (A ++ B) := by
  unfold moreW
  rw [List.append_assoc, List.take_append, List.length_append, List.length_take]
  congr 3
  omega

section
open Go.RowKit Go.Lib
theorem infoIntsV : (Try.prog.info? 35).map (fun i => (i.zero, i.size, i.bytes)) = some (some (.slice none 0 0), 1, 24) := by kernel_rfl
theorem own_cellsV {W : World} {B e n : Nat} {v : Value} {xs : List Value} (h : W.ownsRow B e 1 v n xs) {k : Nat} (hk : v.ownBlock = some k) : ∃ cur, W.heap[k]? = some (.cells cur e (0, 0)) := by
  rcases h.2 with ⟨rfl, _⟩ | ⟨g, cap, cur, rfl, _, hg, _⟩
  · cases hk
  · have : g = k := by simpa [Value.ownBlock] using hk
    subst this
    exact ⟨cur, hg⟩
theorem own_otherV {W : World} {B e n B' e' n' : Nat} {v v' : Value} {xs xs' : List Value} (h : W.ownsRow B e 1 v n xs) (h' : W.ownsRow B' e' 1 v' n' xs') (he : e ≠ e') : v.ownBlock = none ∨ v.ownBlock ≠ v'.ownBlock := by
  cases hv : v.ownBlock with
  | none => exact .inl rfl
  | some k =>
    refine .inr fun h2 => ?_
    obtain ⟨c1, e1⟩ := own_cellsV h hv
    obtain ⟨c2, e2⟩ := own_cellsV h' h2.symm
    rw [e1] at e2
    injection e2 with e2
    injection e2 with e3 e4
    exact he e4
/-- a builtin append in a walk, by its own run -/
theorem wpList_append_run {P : Program} {w : World} {ops : Array Oper} {rest : List Oper} {o : Oper} {a : Act} {Q : Exit → Act → World → Prop} (hgd : o.guard = none) (s x : Operand) (t : TypeId)
    (ho : o.op = .call { callee := .builtin .append, args := #[s, x], argTypes := #[t, t] }) (v u v' : Value) (w' : World) (hs : a.eval s = v) (hx : a.eval x = u) (hr : (Builtin.append_ #[t, t] o.type #[v, u]).run P w = .ok v' w')
    (h : wpList P ops Q rest (a.put o.dst v') w') : wpList P ops Q (o :: rest) a w := by
  refine wpList_plain hgd fun K hK => ?_
  unfold Oper.wp execOp
  simp only [ho, resolve, invoke, builtin, Sem.run_bind, Sem.run_pure, Result.andThen_ok, List.map_toArray, List.map_cons, List.map_nil, hs, hx, hr]
  exact hK _ _ h
/-- a copy of a row: what append([]int{}, done...) makes -/
theorem app_copy (W : World) (dv : Value) (done : List Nat) (N : Nat) (h : W.ownsRow N 3 1 dv done.length (ints done)) (hl : done.length ≤ 1048576) :
    ∃ A c w', (Builtin.append_ #[35, 35] 35 #[.slice (some ⟨W.heap.size, 0, none⟩) 0 0, dv]).run Try.prog (W.alloc (.cells #[] 3)) = .ok (.slice A done.length c) w' ∧ Below W.heap.size W w' ∧ w'.ownsRow W.heap.size 3 1 (.slice A done.length c) done.length (ints done) := by
  obtain ⟨i0, hi9, hz0, hz1, hz2⟩ := info_parts infoIntH
  have hal := World.alloc_heap_new W (.cells #[] 3)
  have hbl := (Below.refl W.heap.size W).alloc (Nat.le_refl _) (.cells #[] 3)
  have hown0 : (W.alloc (.cells #[] 3)).ownsRow W.heap.size 3 1 (.slice (some ⟨W.heap.size, 0, none⟩) 0 0) 0 [] := ⟨rfl, .inr ⟨W.heap.size, 0, #[], rfl, Nat.le_refl _, hal, Nat.le_refl _, by unfold maxLen; omega, rfl, rfl⟩⟩
  rcases h.2 with ⟨rfl, h0⟩ | ⟨g, cap, cur, rfl, hbg, hg, hnc, hcm, hcs, htake⟩
  · have hn : done = [] := List.length_eq_zero_iff.1 h0
    subst hn
    refine ⟨some ⟨W.heap.size, 0, none⟩, 0, _, ?_, hbl, hown0⟩
    simp [Builtin.append_, run_underlying Try.underlying35, sizeOf, typeInfo, hi9, Builtin.lenOf, Builtin.firstCells, loadCells, loadCellsFrom, storeCells]
  · have hcells : ∀ j u, (ints done)[j]? = some u → (W.alloc (.cells #[] 3)).cell? ((⟨g, 0, none⟩ : Addr).add j) = some u := fun j u hj => by
      have h1 := h.cells (g := g) rfl j u hj
      exact (World.cell?_of_block (by rw [block_add]; exact hbl.block g (Array.getElem?_eq_some_iff.1 hg).1)).trans h1
    obtain ⟨v9, w9, hr9, hown9, hg9, _, _⟩ := run_append_own_at (P := Try.prog) (W.alloc (.cells #[] 3)) W.heap.size 35 35 3 i0 (.int .i64 0) 1 8 Try.underlying35 hi9 hz0 hz1 hz2 rfl (by decide) _ 0 [] hown0 ⟨g, 0, none⟩ done.length cap (ints done) (by simp [ints]) hcells (fun u hu => by obtain ⟨x, _, rfl⟩ := List.mem_map.1 hu; rfl) (by unfold maxLen; omega) (by omega) (by simp)
    rw [Nat.zero_add, List.nil_append] at hown9
    obtain ⟨A, c, rfl⟩ := own_form hown9
    refine ⟨A, c, w9, hr9, hbl.grown hg9 (by simp) (fun k hk => by have h9 : W.heap.size = k := (by simpa [Value.ownBlock] using hk); omega), hown9⟩
/-- what was found, a slice of slices -/
structure OutAt (B0 : Nat) (v : Value) (vs : List Value) (ls : List (List Nat)) (W : World) : Prop where
  own : W.ownsRow B0 35 1 v ls.length vs
  row : ∀ (q : Nat) (l : List Nat), ls[q]? = some l → ∃ u N, vs[q]? = some u ∧ W.ownsRow N 3 1 u l.length (ints l)
theorem OutAt.below {B0 : Nat} {v : Value} {vs : List Value} {ls : List (List Nat)} {W W' : World} (h : OutAt B0 v vs ls W) (hb : Below W.heap.size W W') : OutAt B0 v vs ls W' :=
  ⟨own_block h.own fun k hk => hb.block k (h.own.lt k hk).2, fun q l hl => by obtain ⟨u, N, e, o⟩ := h.row q l hl; exact ⟨u, N, e, own_block o fun k hk => hb.block k (o.lt k hk).2⟩⟩
theorem OutAt.snoc {B0 N : Nat} {v v' u : Value} {vs : List Value} {ls : List (List Nat)} {l : List Nat} {W W' : World} (h : OutAt B0 v vs ls W) (hu : W.ownsRow N 3 1 u l.length (ints l)) (hg : W.grownBy W' v.ownBlock) (ho : W'.ownsRow B0 35 1 v' (ls.length + 1) (vs ++ [u])) : OutAt B0 v' (vs ++ [u]) (ls ++ [l]) W' := by
  have hl : vs.length = ls.length := by have := h.own.1; omega
  refine ⟨by rw [List.length_append]; exact ho, fun q l9 hq => ?_⟩
  rcases Nat.lt_or_ge q ls.length with h1 | h1
  · rw [List.getElem?_append_left h1] at hq
    obtain ⟨u9, N9, e, o⟩ := h.row q l9 hq
    exact ⟨u9, N9, by rw [List.getElem?_append_left (by omega)]; exact e, o.kept hg (own_otherV o h.own (by decide))⟩
  · rw [List.getElem?_append_right h1] at hq
    have h0 : q - ls.length = 0 := by
      rcases Nat.eq_zero_or_pos (q - ls.length) with h0 | h0
      · exact h0
      · rw [List.getElem?_eq_none (by simp; omega)] at hq; cases hq
    rw [h0] at hq
    injection hq with hq
    subst hq
    exact ⟨u, N, by rw [List.getElem?_append_right (by omega), hl, h0]; rfl, hu.kept hg (own_otherV hu h.own (by decide))⟩
/-- where the slice lies now -/
def Moved (W : World) (v v' : Value) : Prop := v'.ownBlock = v.ownBlock ∨ ∃ k, v'.ownBlock = some k ∧ W.heap.size ≤ k
structure WaysPost (B0 most : Nat) (ov : Value) (out : List (List Nat)) (add : List (List Nat)) (W : World) (v' : Value) (vs' : List Value) (W' : World) : Prop where
  out : OutAt B0 v' vs' (moreW out most add) W'
  grown : W.grownBy W' ov.ownBlock
  moved : Moved W ov v'
theorem grown_trans {W W1 W2 : World} {v v1 : Value} (h : W.grownBy W1 v.ownBlock) (h1 : W1.grownBy W2 v1.ownBlock) (hm : Moved W v v1) : W.grownBy W2 v.ownBlock :=
  ⟨h1.os.trans h.os, h1.tape.trans h.tape, h1.output.trans h.output, Nat.le_trans h.size h1.size, fun k hk hne => (h1.block k (Nat.lt_of_lt_of_le hk h.size) (fun e => by
    rcases hm with hm | ⟨q, hq, hz⟩
    · exact hne (by rw [← hm]; exact e)
    · rw [hq] at e; injection e with e; omega)).trans (h.block k hk hne)⟩
theorem moved_trans {W W1 : World} {v v1 v2 : Value} (hz : W.heap.size ≤ W1.heap.size) (h : Moved W v v1) (h1 : Moved W1 v1 v2) : Moved W v v2 := by
  rcases h1 with h1 | ⟨k, hk, hz1⟩
  · rcases h with h | ⟨q, hq, hz2⟩
    · exact .inl (h1.trans h)
    · exact .inr ⟨q, h1.trans hq, hz2⟩
  · exact .inr ⟨k, hk, by omega⟩
theorem grown_below {W W1 : World} (x : Option Nat) (h : Below W.heap.size W W1) : W.grownBy W1 x := ⟨h.os, h.tape, h.output, h.size, fun k hk _ => h.block k hk⟩
theorem below_of_grown {W W1 : World} {v : Value} {B : Nat} (h : W.grownBy W1 v.ownBlock) (hv : ∀ k, v.ownBlock = some k → B ≤ k) (hB : B ≤ W.heap.size) : Below B W W1 :=
  ⟨h.os, h.tape, h.output, h.size, fun k hk => h.block k (by omega) (fun e => by have := hv k e.symm; omega)⟩
end

section
open Go.RowKit Go.Lib
/-- what has been found when letter i of length n comes up -/
abbrev accW (xs : List (List UInt8)) (r : List UInt8) (out : List (List Nat)) (done : List Nat) (most n i : Nat) : List (List Nat) := moreW out most ((waysOf xs (orderR xs) r (tried xs n i)).map (fun l => done ++ l))
theorem accW_skip {xs : List (List UInt8)} {r : List UInt8} {out : List (List Nat)} {done : List Nat} {most n i : Nat} (h : ¬ ((nm xs i).length = n ∧ std xs r i = true)) : accW xs r out done most n (i + 1) = accW xs r out done most n i := by
  unfold accW
  rw [tried_succ, waysOf_append]
  by_cases h1 : (nm xs i).length = n
  · have h2 : std xs r i = false := by
      cases h3 : std xs r i with
      | false => rfl
      | true => exact absurd ⟨h1, h3⟩ h
    rw [if_pos h1, waysOf_one, h2, if_neg (by simp), List.append_nil]
  · rw [if_neg h1, waysOf_nil, List.append_nil]
theorem accW_take {xs : List (List UInt8)} {r : List UInt8} {out : List (List Nat)} {done : List Nat} {most n i : Nat} (h1 : (nm xs i).length = n) (h2 : std xs r i = true) :
    accW xs r out done most n (i + 1) = moreW (accW xs r out done most n i) most ((waysL xs (orderR xs) (r.drop n)).map (fun l => (done ++ [i]) ++ l)) := by
  unfold accW
  rw [moreW_more, ← h1, tried_succ, waysOf_append, if_pos rfl, waysOf_one, if_pos h2, List.map_append, List.map_map]
  congr 2
  refine List.map_congr_left fun l _ => ?_
  simp
theorem accW_first (xs : List (List UInt8)) (r : List UInt8) (out : List (List Nat)) (done : List Nat) (most : Nat) : accW xs r out done most 12 0 = out := by
  unfold accW; rw [tried_first, waysOf_nil]; exact moreW_nil out most
theorem accW_next (xs : List (List UInt8)) (r : List UInt8) (out : List (List Nat)) (done : List Nat) (most : Nat) {n : Nat} (hn : n + 1 ≤ 12) : accW xs r out done most (n + 1) xs.length = accW xs r out done most n 0 := by
  unfold accW; rw [tried_next xs hn]
theorem accW_last (xs : List (List UInt8)) {r : List UInt8} (hr : r ≠ []) (out : List (List Nat)) (done : List Nat) (most : Nat) : accW xs r out done most 0 0 = moreW out most ((waysL xs (orderR xs) r).map (fun l => done ++ l)) := by
  unfold accW; rw [waysL_cons xs _ hr]; rfl
theorem WaysPost.congr {B0 most : Nat} {ov v : Value} {vs : List Value} {out A B : List (List Nat)} {W W' : World} (h : WaysPost B0 most ov out A W v vs W') (e : moreW out most B = moreW out most A) : WaysPost B0 most ov out B W v vs W' := ⟨by rw [e]; exact h.out, h.grown, h.moved⟩
theorem WaysPost.step {B0 most : Nat} {ov v4 v3 : Value} {vs4 vs3 : List Value} {out A A' add : List (List Nat)} {W w6 w2 w3 : World} (h4 : WaysPost B0 most ov out A W v4 vs4 w6) (hb : Below w6.heap.size w6 w2) (h3 : WaysPost B0 most v4 (moreW out most A) add w2 v3 vs3 w3) (e : moreW out most A' = moreW (moreW out most A) most add) : WaysPost B0 most ov out A' W v3 vs3 w3 :=
  ⟨by rw [e]; exact h3.out, grown_trans h4.grown (grown_trans (grown_below _ hb) h3.grown (.inl rfl)) h4.moved, moved_trans h4.grown.size h4.moved (moved_trans (v1 := v4) hb.size (.inl rfl) h3.moved)⟩
theorem own_formV {w : World} {B e : Nat} {v : Value} {n : Nat} {xs : List Value} (h : w.ownsRow B e 1 v n xs) : ∃ A m c, Hid (m = n) ∧ v = .slice A m c := by
  obtain ⟨A, c, e⟩ := own_form h
  exact ⟨A, n, c, Lib.hid rfl, e⟩
theorem moreW_len {out : List (List Nat)} {most : Nat} {W : List (List Nat)} (h : out.length ≤ 1048576) (hm : most ≤ 1048576) : (moreW out most W).length ≤ 1048576 := by
  unfold moreW; rw [List.length_append, List.length_take]; omega

def RPost (B0 most : Nat) (ov : Value) (out add : List (List Nat)) (W : World) (e : Ending) (w' : World) : Prop := ∃ v' vs', e = .returned v' ∧ WaysPost B0 most ov out add W v' vs' w'

set_option maxHeartbeats 16000000 in
set_option maxRecDepth 100000 in
theorem refWaysRec_any {u : Value} {xs : List (List UInt8)} {B0 g : Nat} {s : List UInt8} {most : Nat} (hL : Lets xs) (hn : xs.length ≤ 1000) (hx : ∀ x ∈ xs, 1 ≤ x.length ∧ x.length ≤ 12) (hs : s.length ≤ 1048576) (hm : most ≤ 1048576) (hg : g < B0) :
    ∀ (f at' : Nat) (done : List Nat) (dv : Value) (N : Nat) (out : List (List Nat)) (ov : Value) (vs : List Value) (W : World), at' ≤ s.length → s.length < at' + f → done.length ≤ at' → out.length ≤ 1048576 → B0 ≤ W.heap.size → Sl W B0 u (strs xs) →
      (∀ k, k ≤ s.length → W.cell? ⟨g, k, none⟩ = some (.int .i64 (cntL xs (s.drop k) : Nat))) → W.ownsRow N 3 1 dv done.length (ints done) → OutAt B0 ov vs out W →
      Calls Try.prog 94 #[u, .string ⟨s.toArray⟩, .int .i64 (at' : Nat), dv, ov, .int .i64 (most : Nat), .slice (some ⟨g, 0, none⟩) (s.length + 1) (s.length + 1)] W
        (RPost B0 most ov out ((waysL xs (orderR xs) (s.drop at')).map (fun l => done ++ l)) W) := by
  have hO := orderR_ord hx
  have hO2 := Lib.hid hO; have HX := Lib.hid hx; have HL := Lib.hid hL
  clear hO hx hL
  intro f
  induction f with
  | zero =>
    intro at' done dv N out ov vs W hat hfu
    omega
  | succ f ih =>
    intro at' done dv N out ov vs W hat hfu hdl hol hB hu hc hd ho
    have hssz : (⟨s.toArray⟩ : ByteArray).size = s.length := by rw [← bl_length]
    have HU := Lib.hid hu; have HC := Lib.hid hc; have HD := Lib.hid hd; have HOUT := Lib.hid ho; have IH := Lib.hid @ih
    have c0 := hc at' hat
    have a0 : (0 : Int) ≤ (at' : Int) := by omega
    have a1 : (at' : Int) < (s.length : Int) + 1 := by omega
    have hown := ho.own
    obtain ⟨Ao, co, rfl⟩ := own_form hown
    obtain ⟨Ad, cd, rfl⟩ := own_form hd
    have hsame : WaysPost B0 most (.slice Ao out.length co) out [] W (.slice Ao out.length co) vs W := ⟨by rw [moreW_nil]; exact ho, ⟨rfl, rfl, rfl, Nat.le_refl _, fun k _ _ => rfl⟩, .inl rfl⟩
    have HSAME := Lib.hid hsame
    clear ih hc hd ho hown hsame
    by_cases hfull : most ≤ out.length
    · have t1 : (most : Int) ≤ (out.length : Int) := by omega
      have HW := Lib.hid (show ∀ A, moreW out most A = moreW out most [] from fun A => by rw [moreW_full hfull, moreW_full hfull])
      go_enter Try.func94, Try.ntmps94
      go_wp2
      go_ret
      exact ⟨_, vs, rfl, by have h := HSAME.out.out; rw [← HW.out ((waysL xs (orderR xs) (s.drop at')).map (fun l => done ++ l))] at h; exact h, HSAME.out.grown, HSAME.out.moved⟩
    · have t1 : ¬ (most : Int) ≤ (out.length : Int) := by omega
      have t1' : decide ((most : Int) ≤ (out.length : Int)) = false := decide_eq_false t1
      by_cases hz : cntL xs (s.drop at') = 0
      · rw [hz] at c0
        have hw := ways_zero hO2.out hz
        have HW := Lib.hid hw
        clear hz hw
        go_enter Try.func94, Try.ntmps94
        go_wp2
        go_ret
        exact ⟨_, vs, rfl, by rw [HW.out]; exact HSAME.out.out, HSAME.out.grown, HSAME.out.moved⟩
      · have t2 : ((cntL xs (s.drop at') : Nat) : Int) ≠ 0 := by omega
        have t2' : (((cntL xs (s.drop at') : Nat) : Int) == 0) = false := by simp; omega
        have HZ := Lib.hid hz; clear hz
        generalize cntL xs (s.drop at') = cv at *
        by_cases he : at' = s.length
        · have t3 : ((at' : Int) == (s.length : Int)) = true := by rw [beq_iff_eq]; omega
          have hnil : s.drop at' = [] := List.drop_of_length_le (by omega)
          have HN := Lib.hid hnil
          obtain ⟨A1, c1, w1, hr1, hb1, ho1⟩ := app_copy W (.slice Ad done.length cd) done N HD.out (by omega)
          obtain ⟨i0, hi9, hz0, hz1, hz2⟩ := info_parts infoIntsV
          have HR1 := Lib.hid hr1; have HB1 := Lib.hid hb1; have HO1 := Lib.hid ho1
          have hz1' := hb1.size
          have HOUT1 := Lib.hid (HOUT.out.below hb1)
          clear hr1 hb1 ho1 hnil he IH HC HU
          go_enter Try.func94, Try.ntmps94
          go_wp2_with (first
            | (at_builtin; refine wpList_append_run rfl (.tmp 34) (.tmp 35) 35 rfl _ _ _ _ rfl rfl HR1.out ?_)
            | (at_builtin; refine wpList_append_own_at _ rfl (.tmp 33) (.tmp 37) 64 rfl B0 35 i0 (.slice none 0 0) 1 24 Try.underlying64 hi9 hz0 hz1 hz2 rfl (by decide) (.slice Ao out.length co) out.length vs rfl (HOUT1.out.own.alloc _) ⟨w1.heap.size, 0, none⟩ 1 1 [.slice A1 done.length c1] rfl rfl (cell_one_new _ _ _) (by simp [Value.oneCell']) (by unfold maxLen; omega) (by omega) (by simp; omega) ?_; intro v2 w2 hown2 hg2 _ hat2; obtain ⟨A2, c2, rfl⟩ := own_form hown2))
          go_ret
          have hob : OutAt B0 (.slice Ao out.length co) vs out (w1.alloc (.cells #[.slice A1 done.length c1] 35)) := HOUT1.out.below ((Below.refl _ w1).alloc (Nat.le_refl _) _)
          have hbb := HB1.out.alloc hz1' (.cells #[.slice A1 done.length c1] 35)
          have hsn := hob.snoc (HO1.out.alloc _) hg2 hown2
          refine ⟨.slice A2 (out.length + 1) c2, vs ++ [.slice A1 done.length c1], rfl, ⟨?_, grown_trans (v := .slice Ao out.length co) (v1 := .slice Ao out.length co) (grown_below _ hbb) hg2 (.inl rfl), ?_⟩⟩
          · rw [HN.out, waysL_nil]
            have e9 : moreW out most ([[]].map fun l => done ++ l) = out ++ [done] := by
              unfold moreW
              obtain ⟨k, hk⟩ : ∃ k, most - out.length = k + 1 := ⟨most - out.length - 1, by omega⟩
              rw [hk]
              simp
            rw [e9]
            exact hsn
          · rcases hat2 with h | h
            · exact .inl h
            · exact .inr ⟨_, h, hbb.size⟩
        · have t3 : ((at' : Int) == (s.length : Int)) = false := by simp; omega
          have t3' : ¬ (at' : Int) = (s.length : Int) := by omega
          have hr : s.drop at' ≠ [] := by rw [ne_eq, List.drop_eq_nil_iff]; omega
          have HR := Lib.hid hr
          have hovB : ∀ k, (Value.slice Ao out.length co).ownBlock = some k → B0 ≤ k := fun k hk => (HOUT.out.own.lt k hk).1
          have HOVB := Lib.hid hovB
          obtain ⟨i0, hi9, hz0, hz1, hz2⟩ := info_parts infoIntH
          have CS := Lib.hid (fun (x : List UInt8) (W : World) (h2 : x.length ≤ 12) => stands_any s x at' W (by omega) (by omega) (by omega))
          obtain ⟨Au, cu, rfl, hcu, hAu⟩ := hu
          rw [show (strs xs).length = xs.length from List.length_map _] at HU IH
          rw [show (strs xs).length = xs.length from List.length_map _]
          clear hr hovB hcu hAu
          go_enter Try.func94, Try.ntmps94
          go_wp2
          go_loopg [4, 15, 16] 12 (fun gf u4 u15 _ wr => ∃ (nn : Nat) (vs9 : List Value), u15 = .int .i64 nn ∧ nn ≤ 12 ∧ nn ≤ gf ∧ Hid (WaysPost B0 most (.slice Ao out.length co) out ((waysOf xs (orderR xs) (s.drop at') (tried xs nn 0)).map (fun l => done ++ l)) W u4 vs9 wr))
          case atStart => exact ⟨12, vs, rfl, Nat.le_refl _, Nat.le_refl _, Lib.hid (by rw [tried_first, waysOf_nil]; exact HSAME.out)⟩
          case round =>
            rename World => w5
            obtain ⟨nn, vs9, rfl, hnn, hgn, HP⟩ := hrel
            obtain ⟨A4, c4, rfl⟩ := own_form HP.out.out.own
            cases nn with
            | zero =>
              have HWW := Lib.hid (show (waysOf xs (orderR xs) (s.drop at') (tried xs 0 0)) = waysL xs (orderR xs) (s.drop at') from (waysL_cons xs _ HR.out).symm)
              go_wp2
              go_ret
              rw [← HWW.out]
              exact ⟨_, _, rfl, HP.out⟩
            | succ m =>
              obtain ⟨g', rfl⟩ : ∃ g', gk = g' + 1 := ⟨gk - 1, by omega⟩
              have n0 : (0 : Int) < ((m + 1 : Nat) : Int) := by omega
              obtain ⟨mm, hmm⟩ : ∃ mm, mm = m + 1 := ⟨_, rfl⟩
              rw [← hmm] at HP n0 ⊢
              have hmm2 : ((mm : Nat) : Int) - 1 = (m : Int) := by omega
              have hmm3 : mm ≤ 12 := by omega
              have hmm4 : 1 ≤ mm := by omega
              have n0n : 0 < mm := by omega
              have n0d : decide (0 < mm) = true := decide_eq_true n0n
              have HMM := Lib.hid hmm; clear hmm hnn
              go_wp2
              go_loopg [4, 16] xs.length (fun gf u4 u16 wr => ∃ (i : Nat) (vs9 : List Value), u16 = .int .i64 i ∧ i ≤ xs.length ∧ xs.length ≤ i + gf ∧ Hid (WaysPost B0 most (.slice Ao out.length co) out ((waysOf xs (orderR xs) (s.drop at') (tried xs mm i)).map (fun l => done ++ l)) W u4 vs9 wr))
              case atStart => exact ⟨0, vs9, rfl, Nat.zero_le _, by omega, HP⟩
              case round =>
                rename World => w6
                clear HP
                obtain ⟨i, vs9, rfl, hi, hgi, HP⟩ := hrel
                obtain ⟨A4, c4, rfl⟩ := own_form HP.out.out.own
                have hz6 := HP.out.grown.size
                by_cases hlt : i < xs.length
                · obtain ⟨g9, rfl⟩ : ∃ g9, gk = g9 + 1 := ⟨gk - 1, by omega⟩
                  have hbW : Below B0 W w6 := below_of_grown HP.out.grown HOVB.out hB
                  obtain ⟨bn, on, e0, hbl, hcl⟩ := (HU.out.below hbW).addr (by omega)
                  have g2 := hcl i _ (by rw [List.getElem?_map, List.getElem?_eq_getElem hlt]; rfl)
                  obtain rfl := e0
                  clear hcl
                  have hnm := nm_lt hlt
                  rw [← hnm] at g2
                  have hnl : (nm xs i).length ≤ 12 := by rw [hnm]; exact (HX.out _ (List.getElem_mem hlt)).2
                  have cP := fun W => CS.out (nm xs i) W hnl
                  rw [stB_std xs s at' i] at cP
                  have CP := Lib.hid cP; clear cP hnm
                  have i0' : (0 : Int) ≤ (i : Int) := by omega
                  have i1' : (i : Int) < (xs.length : Int) := by omega
                  have hsz2 : (⟨(nm xs i).toArray⟩ : ByteArray).size = (nm xs i).length := by rw [← bl_length]
                  by_cases hln : (nm xs i).length = mm
                  · have t4 : (((nm xs i).length : Int) == (mm : Int)) = true := by rw [beq_iff_eq]; omega
                    cases hsd : std xs (s.drop at') i with
                    | false =>
                      rw [hsd] at CP
                      have hac := accW_skip (xs := xs) (r := s.drop at') (out := out) (done := done) (most := most) (n := mm) (i := i) (fun h => by rw [hsd] at h; exact absurd h.2 (by simp))
                      have HAC := Lib.hid hac; have HLN := Lib.hid hln; clear hac hsd hln
                      generalize nm xs i = nmi at *
                      go_wp2_with (go_at_call 91; refine (CP.out _).mono ?_; rintro e w7 ⟨rfl, rfl⟩)
                      go_roundg g9
                      case measure => omega
                      case rel => exact ⟨i + 1, vs9, by go_num, by omega, by omega, Lib.hid (HP.out.congr HAC.out)⟩
                    | true =>
                      rw [hsd] at CP
                      have hpre := (std_iff.1 hsd).2.length_le
                      rw [List.length_drop] at hpre
                      have hac := accW_take (xs := xs) (r := s.drop at') (out := out) (done := done) (most := most) hln hsd
                      rw [List.drop_drop] at hac
                      obtain ⟨q, hq⟩ : ∃ q, q = at' + mm := ⟨_, rfl⟩
                      rw [← hq] at hac
                      have kq : (at' : Int) + (mm : Int) = (q : Int) := by omega
                      have hq1 : q ≤ s.length := by omega
                      have hq2 : at' + 1 ≤ q := by omega
                      have hd6 := HD.out.kept HP.out.grown (own_otherV HD.out HOUT.out.own (by decide))
                      obtain ⟨A1, c1, w1, hr1, hb1, ho1⟩ := app_copy w6 (.slice Ad done.length cd) done N hd6 (by omega)
                      have HR1 := Lib.hid hr1; have HB1 := Lib.hid hb1; have HO1 := Lib.hid ho1; have HAC := Lib.hid hac; have HQ := Lib.hid hq
                      have z1 := hb1.size
                      have hml : (accW xs (s.drop at') out done most mm i).length ≤ 1048576 := moreW_len hol hm
                      have HML := Lib.hid hml
                      have HBW := Lib.hid hbW
                      clear hac hr1 hb1 ho1 hq hsd hpre hd6 hml hbW
                      have HLN := Lib.hid hln; clear hln
                      generalize nm xs i = nmi at *
                      go_wp2_with (first
                        | (go_at_call 91; refine (CP.out _).mono ?_; rintro e w7 ⟨rfl, rfl⟩)
                        | (at_builtin; refine wpList_append_run rfl (.tmp 70) (.tmp 71) 35 rfl _ _ _ _ rfl rfl HR1.out ?_)
                        | (at_builtin; refine wpList_append_own_at _ rfl (.tmp 72) (.tmp 74) 35 rfl w6.heap.size 3 i0 (.int .i64 0) 1 8 Try.underlying35 hi9 hz0 hz1 hz2 rfl (by decide) (.slice A1 done.length c1) done.length (ints done) rfl (HO1.out.alloc _) ⟨w1.heap.size, 0, none⟩ 1 1 [.int .i64 (i : Nat)] rfl rfl (cell_one_new _ _ _) (by simp [Value.oneCell']) (by unfold maxLen; omega) (by omega) (by simp; omega) ?_; intro v2 w2 hown2 hg2 _ hat2; obtain ⟨A2, c2, rfl⟩ := own_form hown2; have hb2 := Lib.hid ((HB1.out.alloc z1 (.cells #[.int .i64 (i : Nat)] 3)).grown hg2 (by simp; omega) (fun k hk => (HO1.out.lt k hk).1)); have HO2 := Lib.hid hown2; clear hown2 hg2 hat2)
                        | (go_at_call 94; refine (IH.out q (done ++ [i]) (.slice A2 (done.length + 1) c2) w6.heap.size (accW xs (s.drop at') out done most mm i) _ vs9 w2 hq1 (by omega) (by rw [List.length_append, List.length_singleton]; omega) HML.out (Nat.le_trans hB (Nat.le_trans hz6 hb2.out.size)) (HU.out.below (HBW.out.trans (hb2.out.mono (by omega)))) (fun k hk => ((HBW.out.trans (hb2.out.mono (by omega))).cell (p := ⟨g, k, none⟩) hg).trans (HC.out k hk)) (by rw [List.length_append, List.length_singleton, ints, List.map_append]; exact HO2.out) (HP.out.out.below hb2.out)).mono ?_; rintro e w3 ⟨v3, vs3, rfl, hp3⟩; obtain ⟨A5, n5, c5, HN5, rfl⟩ := own_formV hp3.out.own; have HP3 := Lib.hid hp3; clear hp3))
                      go_roundg g9
                      case measure => omega
                      case rel => exact ⟨i + 1, vs3, by go_num, by omega, by omega, Lib.hid (HP.out.step hb2.out HP3.out HAC.out)⟩
                  · have t4 : (((nm xs i).length : Int) == (mm : Int)) = false := beq_eq_false_iff_ne.2 (by omega)
                    have hac := accW_skip (xs := xs) (r := s.drop at') (out := out) (done := done) (most := most) (n := mm) (i := i) (fun h => hln h.1)
                    have HAC := Lib.hid hac; have HLN := Lib.hid hln; clear hac hln
                    generalize nm xs i = nmi at *
                    go_wp2
                    go_roundg g9
                    case measure => omega
                    case rel => exact ⟨i + 1, vs9, by go_num, by omega, by omega, Lib.hid (HP.out.congr HAC.out)⟩
                · obtain rfl : i = xs.length := by omega
                  go_wp2
                  go_roundg g'
                  case measure => omega
                  case rel => exact ⟨m, vs9, by go_num, by omega, by omega, Lib.hid (HP.out.congr (by rw [HMM.out]; exact (accW_next xs (s.drop at') out done most (n := m) (by omega)).symm))⟩
end

section
open Go.RowKit Go.Lib
theorem OutAt.less {B B0 : Nat} {v : Value} {vs : List Value} {ls : List (List Nat)} {W : World} (h : OutAt B0 v vs ls W) (hB : B ≤ B0) : OutAt B v vs ls W := by
  refine ⟨⟨h.own.1, ?_⟩, h.row⟩
  rcases h.own.2 with h2 | ⟨g, cap, cur, e, hb, rest⟩
  · exact .inl h2
  · exact .inr ⟨g, cap, cur, e, Nat.le_trans hB hb, rest⟩
def EPost (most : Nat) (W : World) (L : List (List Nat)) (e : Ending) (w' : World) : Prop := Below W.heap.size W w' ∧ ∃ v vs, e = .returned v ∧ OutAt W.heap.size v vs (L.take most) w'
set_option maxHeartbeats 8000000 in
set_option maxRecDepth 100000 in
theorem refEach_any (u : Value) (xs : List (List UInt8)) (B : Nat) (w : World) (hu : Sl w B u (strs xs)) (hB : B ≤ w.heap.size) (s : List UInt8) (hL : Lets xs) (hn : xs.length ≤ 1000) (hx : ∀ x ∈ xs, 1 ≤ x.length ∧ x.length ≤ 12) (hs : s.length ≤ 1048576) :
    Calls Try.prog 61 #[u, .string ⟨s.toArray⟩, .int .i64 40] w (EPost 40 w (waysL xs (orderR xs) s)) := by
  have CC := Lib.hid (refCounts_any u xs B w hu hB s hn (fun x h => (hx x h).2) (by omega))
  have CW := Lib.hid (fun (w1 : World) (hb : Below w.heap.size w w1) (h1 : w.heap.size < w1.heap.size) (hrow : w1.ownsRow w.heap.size 3 1 (.slice (some ⟨w.heap.size, 0, none⟩) (s.length + 1) (s.length + 1)) (s.length + 1) (ints (rowFrom xs s 0 (cntL xs s)))) =>
    refWaysRec_any (u := u) (B0 := w1.heap.size) (g := w.heap.size) (s := s) (most := 40) hL hn hx hs (by omega) h1 (s.length + 1) 0 [] (.slice none 0 0) 0 [] (.slice none 0 0) [] w1 (Nat.zero_le _) (by omega) (Nat.le_refl _) (by simp) (Nat.le_refl _) ((hu.below (hb.mono hB)).more (by omega))
      (fun k hk => by
        refine (hrow.cellAt k (by omega)).trans ?_
        unfold ints
        rw [List.getElem?_map]
        by_cases h0 : k = 0
        · subst h0; rw [rowFrom_at0, List.drop_zero]; rfl
        · rw [rowFrom_at xs s _ (by omega) hk]; rfl) (World.ownsRow_nil _ _ _ _) ⟨World.ownsRow_nil _ _ _ _, fun q l h => by cases h⟩)
  clear hu hx hL
  go_enter Try.func61, Try.ntmps61
  go_wp2_with (first
    | (go_at_call 93; refine CC.out.mono ?_; rintro e w1 ⟨hb1, n, rfl, rfl, hrow⟩; have hg1 := (hrow.lt _ rfl).2; have HB1 := Lib.hid hb1; have HROW := Lib.hid hrow; clear hb1 hrow)
    | (go_at_call 94; refine (CW.out w1 HB1.out hg1 HROW.out).mono ?_; rintro e w2 ⟨v2, vs2, rfl, hp2⟩))
  go_ret
  refine ⟨HB1.out.trans (below_of_grown hp2.grown (fun k hk => by cases hk) (by omega)), v2, vs2, rfl, ?_⟩
  have h := hp2.out
  unfold moreW at h
  rw [List.drop_zero] at h
  simp only [List.nil_append, List.length_nil, Nat.sub_zero, List.map_id'] at h
  exact h.less (by omega)
end

section
open Go.RowKit Go.Lib
def SplitN (s : ByteArray) (w : World) (a' : Act) (w' : World) : Prop :=
  ∃ (u9 u10 u11 u12 u13 u14 u15 u16 u17 u18 u19 u20 u21 u22 u23 u24 u25 u26 u27 u28 u29 u30 u31 u32 u33 u34 u35 u36 u37 u38 u39 u40 u41 u42 u43 u44 u45 u46 u47 u48 u49 u50 u51 u52 u53 u54 u55 : Value), a' = { tmps := #[.pointer none, .string s, undef, undef, .slice none 0 0, .int .i64 0, .int .i64 0, .slice none 0 0, .string s, u9, u10, u11, u12, u13, u14, u15, u16, u17, u18, u19, u20, u21, u22, u23, u24, u25, u26, u27, u28, u29, u30, u31, u32, u33, u34, u35, u36, u37, u38, u39, u40, u41, u42, u43, u44, u45, u46, u47, u48, u49, u50, u51, u52, u53, u54, u55], defers := [] } ∧ w' = w
theorem Split_nil (s : ByteArray) (w : World) (hs : s.size ≤ 17592186044416) :
    Calls Try.prog 56 #[.pointer none, .string s] w fun e w' => e = .returned (.tuple #[.slice none 0 0, .int .i64 0, .int .i64 (if 0 < s.size then 33 else 0)]) ∧ w = w' := by
  have CO := Lib.hid (order_nil)
  obtain ⟨sl, rfl⟩ : ∃ sl : List UInt8, s = ⟨sl.toArray⟩ := ⟨bl s, (bl_roundtrip s).symm⟩
  have hssz : (⟨sl.toArray⟩ : ByteArray).size = sl.length := by rw [← bl_length]
  rw [hssz] at hs ⊢
  have HSZ := Lib.hid hssz; clear hssz
  go_enter Try.func56, Try.ntmps56
  go_wp2
  refine wp_scope_entry 0 (SplitN ⟨sl.toArray⟩ w) (fun a' _ => 0) rfl ?_ ?_
  · intro hk
    have HKK := Lib.hid hk; clear hk
    go_wp2
    go_step3
    rename_i K hK
    simp only [Exit.then]
    refine hK _ _ (HKK.out _ _ ⟨_, _, _, _, _, _, _, _, _, _, _, _, _, _, _, _, _, _, _, _, _, _, _, _, _, _, _, _, _, _, _, _, _, _, _, _, _, _, _, _, _, _, _, _, _, _, _, rfl, rfl⟩)
  · rintro a' w' ⟨u9, u10, u11, u12, u13, u14, u15, u16, u17, u18, u19, u20, u21, u22, u23, u24, u25, u26, u27, u28, u29, u30, u31, u32, u33, u34, u35, u36, u37, u38, u39, u40, u41, u42, u43, u44, u45, u46, u47, u48, u49, u50, u51, u52, u53, u54, u55, rfl, rfl⟩
    cases hr : sl.isEmpty with
    | true =>
      have hr0 : sl.length = 0 := by rw [List.isEmpty_iff] at hr; rw [hr]; rfl
      have HR := Lib.hid hr0; clear hr0
      go_wp2
      simp only [Exit.jump]
      go_ret3
      rw [HR.out]
      exact ⟨rfl, rfl⟩
    | false =>
      have hr0 : 0 < sl.length := by
        rcases Nat.eq_zero_or_pos sl.length with h | h
        · rw [List.length_eq_zero_iff.1 h] at hr; cases hr
        · exact h
      have HR := Lib.hid hr0; clear hr0
      go_wp2_with (go_at_call 89; refine (CO.out _).mono ?_; rintro e w2 ⟨rfl, rfl⟩)
      go_loopg [7, 8, 10, 11, 12, 28] 0 (fun gf u7 u8 _ _ _ u28 wr => u28 = .int .i64 0 ∧ u7 = .slice none 0 0 ∧ u8 = .string ⟨sl.toArray⟩ ∧ wr = w')
      case atStart => exact ⟨rfl, rfl, rfl, rfl⟩
      case round =>
        obtain ⟨rfl, rfl, rfl, rfl⟩ := hrel
        have t1 : ((sl.length : Nat) : Int) - ((sl.length : Nat) : Int) = 0 := by omega
        go_wp2
        simp only [Exit.jump]
        go_ret3
        rw [if_pos HR.out]
        exact ⟨rfl, rfl⟩
end

section
open Go.RowKit Go.Lib
def lstL : Sp → List Nat
  | .good l => l
  | .bad _ _ => []
def plL (n : Nat) : Sp → Int
  | .good _ => 0
  | .bad left _ => (n : Int) - left
def erL : Sp → Int
  | .good _ => 0
  | .bad _ er => er
theorem split_uni {xs : List (List UInt8)} {s : ByteArray} {w w' : World} {e : Ending} (h : SplitPost xs s w e w') :
    Below w.heap.size w w' ∧ ∃ A c, e = .returned (.tuple #[.slice A (lstL (splitL xs (bl s))).length c, .int .i64 (plL s.size (splitL xs (bl s))), .int .i64 (erL (splitL xs (bl s)))]) ∧ w'.ownsRow w.heap.size 3 1 (.slice A (lstL (splitL xs (bl s))).length c) (lstL (splitL xs (bl s))).length (ints (lstL (splitL xs (bl s)))) := by
  obtain ⟨h1, h2⟩ := h
  refine ⟨h1, ?_⟩
  cases hs : splitL xs (bl s) with
  | good l =>
    rw [hs] at h2
    obtain ⟨v, rfl, ho⟩ := h2
    obtain ⟨A, c, rfl⟩ := own_form ho
    exact ⟨A, c, rfl, ho⟩
  | bad left er =>
    rw [hs] at h2
    exact ⟨none, 0, h2, World.ownsRow_nil _ _ _ _⟩
/-- so many ways were read -/
structure RAt (ib : Nat) (W8 : World) (n : Nat) (M : Nat → Prop) (W : World) : Prop where
  box : W.heap[ib]? = some (.cells #[.int .i64 (n : Nat)] 3 (0, 0))
  nib : ¬ M ib
  old : Kpx All (some ib) W8 W
  le : n ≤ 39
theorem rat_stable {ib : Nat} {W8 : World} (hib : ib < W8.heap.size) : Stable W8.heap.size (RAt ib W8) := by
  intro n M M' W W' h hs hM
  have hz := h.old.size
  refine ⟨(hs.block ib (by omega) (.inl hib)).trans h.box, fun h3 => ?_, ⟨hs.os.trans h.old.os, hs.tape.trans h.old.tape, hs.output.trans h.old.output, Nat.le_trans hz hs.size, fun k h1 h2 h3 => (hs.block k (by omega) (.inl h1)).trans (h.old.block k h1 h2 h3)⟩, h.le⟩
  rcases hM ib h3 with h4 | h4
  · exact h.nib h4
  · omega
theorem kpx_put {ib l : Nat} {W8 W : World} {o' : Obj} (h : Kpx All (some ib) W8 W) (hl : W8.heap.size ≤ l) : Kpx All (some ib) W8 (W.putObj l o') := by
  have hg := grownBy_putObj' W l o'
  exact ⟨hg.os.trans h.os, hg.tape.trans h.tape, hg.output.trans h.output, Nat.le_trans h.size hg.size, fun k h1 h2 h3 => (World.putObj_heap_other (by omega)).trans (h.block k h1 h2 h3)⟩
theorem rat_put {ib : Nat} {W8 : World} (hib : ib < W8.heap.size) {n : Nat} {M : Nat → Prop} {W : World} {l : Nat} {o' : Obj} (h : RAt ib W8 n M W) (hl : W8.heap.size ≤ l) : RAt ib W8 n M (W.putObj l o') :=
  ⟨(World.putObj_heap_other (by omega)).trans h.box, h.nib, kpx_put h.old hl, h.le⟩
theorem rat_start {ib : Nat} {W8 W : World} {M : Nat → Prop} (hib : ib < W8.heap.size) (hb : W8.heap[ib]? = some (.cells #[.int .i64 0] 3 (0, 0))) (hM : ¬ M ib) (h : Below W8.heap.size W8 W) : RAt ib W8 0 M W :=
  ⟨(h.block ib hib).trans hb, hM, Kpx.of_below h, by omega⟩
/-- one way more was read, and its slice written over -/
theorem read_next {ib : Nat} {W8 : World} (hib : ib < W8.heap.size) {n N m : Nat} {M : Nat → Prop} {x z : Value} {zs : List Value} {W w5 wr : World} (h : RAt ib W8 n M W) (hb : Below W.heap.size W w5) (hg : w5.grownBy wr x.ownBlock) (hx : W.ownsRow N 3 1 x m zs) (hxM : ∀ k, x.ownBlock = some k → ¬ M k ∧ W8.heap.size ≤ k) :
    (wr.setCell ⟨ib, 0, none⟩ z).heap[ib]? = some (.cells #[z] 3 (0, 0)) ∧ Kpx All (some ib) W8 (wr.setCell ⟨ib, 0, none⟩ z) ∧ Kps M W (wr.setCell ⟨ib, 0, none⟩ z) ∧ KeepsOthers W (wr.setCell ⟨ib, 0, none⟩ z) := by
  have hz := h.old.size
  have hxi : x.ownBlock ≠ some ib := fun e => by have := (hxM ib e).2; omega
  have hibr : wr.heap[ib]? = some (.cells #[.int .i64 (n : Nat)] 3 (0, 0)) := (hg.block ib (by have := hb.size; omega) (fun e => hxi e.symm)).trans ((hb.block ib (by omega)).trans h.box)
  have keep : ∀ k, k < W.heap.size → k ≠ ib → x.ownBlock ≠ some k → (wr.setCell ⟨ib, 0, none⟩ z).heap[k]? = W.heap[k]? := fun k h1 h2 h3 =>
    (Below.heap_setCell _ _ _ _ h2).trans ((hg.block k (Nat.lt_of_lt_of_le h1 hb.size) (fun e => h3 e.symm)).trans (hb.block k h1))
  have hsz : W.heap.size ≤ (wr.setCell ⟨ib, 0, none⟩ z).heap.size := by rw [World.size_setCell]; exact Nat.le_trans hb.size hg.size
  have hos : (wr.setCell ⟨ib, 0, none⟩ z).os = W.os ∧ (wr.setCell ⟨ib, 0, none⟩ z).tape = W.tape ∧ (wr.setCell ⟨ib, 0, none⟩ z).output = W.output := by
    have h9 := (Below.refl 0 wr).setCell (p := ⟨ib, 0, none⟩) (Nat.zero_le _) z
    exact ⟨h9.os.trans (hg.os.trans hb.os), h9.tape.trans (hg.tape.trans hb.tape), h9.output.trans (hg.output.trans hb.output)⟩
  refine ⟨one_setCell hibr, ⟨hos.1.trans h.old.os, hos.2.1.trans h.old.tape, hos.2.2.trans h.old.output, Nat.le_trans hz hsz, fun k h1 h2 h3 => (keep k (by omega) (fun e => h3 (by rw [e])) (fun e => ?_)).trans (h.old.block k h1 h2 h3)⟩, ⟨hos.1, hos.2.1, hos.2.2, hsz, fun k h1 h2 => keep k h1 (fun e => h.nib (e ▸ h2)) (fun e => (hxM k e).1 h2)⟩, ⟨hsz, fun k o h1 h2 => ?_⟩⟩
  · have := (hxM k e).2
    omega
  · have hk := (Array.getElem?_eq_some_iff.1 h1).1
    refine (keep k hk (fun e => ?_) (fun e => ?_)).trans h1
    · subst e; rw [h.box] at h1; cases h1; cases h2
    · obtain ⟨cur, hc⟩ := own_cells hx e
      rw [hc] at h1; cases h1; cases h2
end

end Go.Proofs.Ytlkabghpcjlohaa
