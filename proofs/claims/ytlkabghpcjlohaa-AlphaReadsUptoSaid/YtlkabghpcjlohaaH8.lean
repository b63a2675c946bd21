/- The reference of layer 3: Split, Sure; the statements' own 'awake'. -/
import Derived.Test.YtlkabghpcjlohaaH7
namespace Go.Proofs.Ytlkabghpcjlohaa
set_option linter.unusedVariables false
set_option linter.unusedSimpArgs false
open Go.RowKit Go.Lib Go.Maps Go.Shelf Go.WideMaps

def optI : Option Nat → Int
  | none => -1
  | some b => (b : Int)
theorem bestN_lt {xs : List (List UInt8)} {r : List UInt8} {k b : Nat} (h : bestN xs r k = some b) : b < k := by
  have := bestN_is xs r k
  rw [h] at this
  exact this.2.1

set_option maxHeartbeats 16000000 in
set_option maxRecDepth 100000 in
theorem refSplit_any (v : Value) (xs : List (List UInt8)) (sl : List UInt8) (B : Nat) (w : World) (hv : Sl w B v (strs xs)) (hB : B ≤ w.heap.size) (hn : xs.length ≤ 1000) (hx : ∀ x ∈ xs, x ≠ [] ∧ x.length ≤ 12) (hs : sl.length ≤ 17592186044416) :
    Calls Try.prog 57 #[v, .string ⟨sl.toArray⟩] w (SplitPost xs ⟨sl.toArray⟩ w) := by
  obtain ⟨i0, hi, hz0, hz1, hz2⟩ := info_parts infoInt
  have hssz : (⟨sl.toArray⟩ : ByteArray).size = sl.length := by rw [← bl_length]
  have HSZ := Lib.hid hssz; clear hssz
  have hv0 := hv
  obtain ⟨A, c, rfl, hc, hA⟩ := hv
  rw [List.length_map] at hv0 hc ⊢
  clear hA hc
  have HV := Lib.hid hv0; have HX := Lib.hid hx; clear hv0 hx
  go_enter Try.func57, Try.ntmps57
  go_wp2
  go_loopg [7, 8, 9, 10] 33 (fun gf u7 u8 _ _ wr => ∃ (acc : List Nat) (k : Nat), u8 = .int .i64 k ∧ k ≤ sl.length ∧ acc.length ≤ 32 ∧ 33 ≤ acc.length + gf ∧ wr.ownsRow w.heap.size 3 1 u7 acc.length (ints acc) ∧ Below w.heap.size w wr ∧ Hid (splitF xs (32 - acc.length) (sl.drop k) acc = splitL xs sl))
  case atStart => exact ⟨[], 0, rfl, Nat.zero_le _, by simp, by simp, World.ownsRow_nil _ _ _ _, Below.refl _ _, Lib.hid (by rw [List.drop_zero]; rfl)⟩
  case round =>
    obtain ⟨acc, k, rfl, hk, hal, hfu, hown, hbw, hsp⟩ := hrel
    have hsw := hbw.size
    obtain ⟨Al, cl, rfl⟩ := own_form hown
    have k0 : (0 : Int) ≤ (k : Int) := by omega
    by_cases hlt : k < sl.length
    · obtain ⟨g', rfl⟩ : ∃ g', gk = g' + 1 := ⟨gk - 1, by omega⟩
      have hr0 : sl.drop k ≠ [] := by intro e; have := congrArg List.length e; rw [List.length_drop, List.length_nil] at this; omega
      by_cases h32 : acc.length = 32
      · have hg : splitL xs sl = .bad (sl.drop k).length 34 := by rw [← hsp.out, h32]; exact splitF_zero xs hr0 acc
        rw [List.length_drop] at hg
        have HG := Lib.hid hg; clear hg hr0 hsp
        have t1 : ((acc.length : Int) == 32) = true := by rw [beq_iff_eq]; omega
        have H32 := Lib.hid h32; clear h32
        go_wp2
        go_ret3
        unfold SplitPost
        have hG2 : splitL xs (bl ⟨sl.toArray⟩) = .bad (sl.length - k) 34 := HG.out
        rw [hG2]
        exact ⟨hbw, by
          show _ = Ending.returned (.tuple #[.slice none 0 0, .int .i64 (((⟨sl.toArray⟩ : ByteArray).size : Int) - ((sl.length - k : Nat) : Int)), .int .i64 34])
          rw [HSZ.out, show ((sl.length : Int) - ((sl.length - k : Nat) : Int)) = (k : Int) by omega]; rfl⟩
      · have t1 : ((acc.length : Int) == 32) = false := by simp; omega
        obtain ⟨f, hf⟩ : ∃ f, 32 - acc.length = f + 1 := ⟨31 - acc.length, by omega⟩
        have HSP : Hid (splitF xs (f + 1) (sl.drop k) acc = splitL xs sl) := Lib.hid (by rw [← hf]; exact hsp.out)
        have HF := Lib.hid hf; have HR := Lib.hid hr0; clear hf hr0 h32 hsp
        have HO := Lib.hid hown
        have hsl3 := Lib.hid (HV.out.below (hbw.mono hB))
        go_wp2
        go_loopg [9, 10] xs.length (fun gf u9 u10 wr2 => ∃ i : Nat, u10 = .int .i64 i ∧ u9 = .int .i64 (optI (bestN xs (sl.drop k) i)) ∧ i ≤ xs.length ∧ xs.length ≤ i + gf ∧ Hid (∃ q, wr2 = wr.drewN q))
        case atStart => exact ⟨0, rfl, rfl, Nat.zero_le _, by omega, 0, rfl⟩
        case round =>
          rename World => w5
          obtain ⟨i, rfl, rfl, hin, hfi, HQ⟩ := hrel
          have hsl5 : Hid (Sl w5 B (.slice A xs.length c) (strs xs)) := by obtain ⟨q, rfl⟩ := HQ; exact hsl3.out
          by_cases hlt2 : i < xs.length
          · obtain ⟨g2, rfl⟩ : ∃ g2, gk = g2 + 1 := ⟨gk - 1, by omega⟩
            obtain ⟨ba, off, e0, hba, hcl⟩ := hsl5.out.addr (by omega)
            have g1 := hcl i _ (by rw [List.getElem?_map, List.getElem?_eq_getElem hlt2]; rfl)
            have gAll := Lib.hid (fun (b : Nat) (hb : b < xs.length) => hcl b (.string ⟨(nm xs b).toArray⟩) (by rw [List.getElem?_map, List.getElem?_eq_getElem hb, nm_lt hb]; rfl))
            obtain rfl := e0
            clear hcl
            have HQ2 : ∀ nq, Hid (∃ q, w5.drewN nq = wr.drewN q) := fun nq => by obtain ⟨q, hq⟩ := HQ; exact ⟨q + nq, by rw [hq, World.drewN_drewN]⟩
            have HQ2' := Lib.hid HQ2; clear HQ2
            have hnm := nm_lt hlt2
            have hnl := (HX.out _ (List.getElem_mem hlt2)).2
            rw [← hnm] at g1 hnl
            have cS := fun W => stands_any sl (nm xs i) k W hk hs (by omega)
            rw [stB_std] at cS
            have hst : bestN xs (sl.drop k) (i + 1) = (match bestN xs (sl.drop k) i with
              | none => if std xs (sl.drop k) i then some i else none
              | some b => if std xs (sl.drop k) i && decide ((nm xs b).length < (nm xs i).length) then some i else some b) := rfl
            have hbl := fun b => @bestN_lt xs (sl.drop k) i b
            have HST := Lib.hid hst; have HBL := Lib.hid hbl
            clear hnm hst hbl
            generalize hbn : bestN xs (sl.drop k) (i + 1) = bn at *
            have HBN := Lib.hid hbn; clear hbn
            generalize std xs (sl.drop k) i = sd at *
            have j0 : (0 : Int) ≤ (i : Int) := by omega
            have j1 : (i : Int) < (xs.length : Int) := by omega
            have CS := Lib.hid cS; clear cS
            cases sd with
            | false =>
              have hb2 : bn = bestN xs (sl.drop k) i := by rw [HST.out]; cases bestN xs (sl.drop k) i <;> simp
              have HB2 := Lib.hid hb2; clear hb2
              generalize nm xs i = nmi at *
              generalize bestN xs (sl.drop k) i = bi at *
              go_wp2
              go_quiet ((go_at_call 91; exact Calls.quiet_of_same ((CS.out _).mono fun e w' h => ⟨h.1, h.2.symm⟩)))
              go_wp2
              go_roundg g2
              case measure => omega
              case rel => exact ⟨i + 1, by go_num, by rw [HBN.out, HB2.out], by omega, by omega, HQ2'.out nq⟩
            | true =>
              cases hbi : bestN xs (sl.drop k) i with
              | none =>
                have hb2 : bn = some i := by rw [HST.out, hbi]; rfl
                have HB2 := Lib.hid hb2; clear hb2
                have HBI := Lib.hid hbi; clear hbi
                generalize nm xs i = nmi at *
                simp only [optI]
                go_wp2
                go_quiet ((go_at_call 91; exact Calls.quiet_of_same ((CS.out _).mono fun e w' h => ⟨h.1, h.2.symm⟩)))
                go_wp2
                go_roundg g2
                case measure => omega
                case rel => exact ⟨i + 1, by go_num, by rw [HBN.out, HB2.out]; rfl, by omega, by omega, HQ2'.out nq⟩
              | some b =>
                have hbi2 := HBL.out b hbi
                have g2' := gAll.out b (by omega)
                have hbl2 := (HX.out _ (List.getElem_mem (show b < xs.length by omega))).2
                rw [← nm_lt] at hbl2
                have hb2 : bn = if decide ((nm xs b).length < (nm xs i).length) then some i else some b := by rw [HST.out, hbi]; simp
                have HB2 := Lib.hid hb2; clear hb2
                have HBI := Lib.hid hbi; clear hbi
                simp only [optI]
                have b0 : (0 : Int) ≤ (b : Int) := by omega
                have b1 : (b : Int) < (xs.length : Int) := by omega
                have b2 : decide ((b : Int) < 0) = false := by simp
                generalize nm xs i = nmi at *
                generalize nm xs b = nmb at *
                by_cases hlen : nmb.length < nmi.length
                · have hd : decide (nmb.length < nmi.length) = true := decide_eq_true hlen
                  have HD := Lib.hid hd
                  go_wp2
                  go_quiet ((go_at_call 91; exact Calls.quiet_of_same ((CS.out _).mono fun e w' h => ⟨h.1, h.2.symm⟩)))
                  go_wp2
                  go_roundg g2
                  case measure => omega
                  case rel => exact ⟨i + 1, by go_num, by rw [HBN.out, HB2.out, HD.out]; rfl, by omega, by omega, HQ2'.out nq⟩
                · have hd : decide (nmb.length < nmi.length) = false := decide_eq_false hlen
                  have HD := Lib.hid hd
                  go_wp2
                  go_quiet ((go_at_call 91; exact Calls.quiet_of_same ((CS.out _).mono fun e w' h => ⟨h.1, h.2.symm⟩)))
                  go_wp2
                  go_roundg g2
                  case measure => omega
                  case rel => exact ⟨i + 1, by go_num, by rw [HBN.out, HB2.out, HD.out]; rfl, by omega, by omega, HQ2'.out nq⟩
          · obtain rfl : xs.length = i := by omega
            have hbest : bestN xs (sl.drop k) xs.length = bestL xs (sl.drop k) := rfl
            have hown2 : w5.ownsRow w.heap.size 3 1 (.slice Al acc.length cl) acc.length (ints acc) := by obtain ⟨q, rfl⟩ := HQ; exact HO.out
            have hbw2 : Below w.heap.size w w5 := by obtain ⟨q, rfl⟩ := HQ; exact bdraw hbw q
            have hsw2 := hbw2.size
            cases hbl : bestL xs (sl.drop k) with
            | none =>
              have hg : splitL xs sl = .bad (sl.drop k).length 33 := by
                rw [← HSP.out]
                exact splitF_none xs f HR.out acc hbl
              rw [List.length_drop] at hg
              have HG := Lib.hid hg; clear hg
              rw [hbest, hbl]
              simp only [optI]
              clear hbest hbl
              go_wp2
              go_ret3
              unfold SplitPost
              have hG2 : splitL xs (bl ⟨sl.toArray⟩) = .bad (sl.length - k) 33 := HG.out
              rw [hG2]
              exact ⟨hbw2, by
                show _ = Ending.returned (.tuple #[.slice none 0 0, .int .i64 (((⟨sl.toArray⟩ : ByteArray).size : Int) - ((sl.length - k : Nat) : Int)), .int .i64 33])
                rw [HSZ.out, show ((sl.length : Int) - ((sl.length - k : Nat) : Int)) = (k : Int) by omega]; rfl⟩
            | some b =>
              have hstd := bestL_is xs (sl.drop k)
              rw [hbl] at hstd
              have hbx := std_lt hstd.1
              have hpl := (std_iff.1 hstd.1).2.length_le
              rw [List.length_drop] at hpl
              have hsplit : splitF xs f ((sl.drop k).drop (nm xs b).length) (acc ++ [b]) = splitL xs sl := by rw [← HSP.out, splitF_some xs f HR.out acc hbl]
              rw [List.drop_drop] at hsplit
              have hacc : acc.length ≤ 31 := by have := HF.out; omega
              obtain ⟨ba, off, e0, hba, hcl⟩ := hsl5.out.addr (by omega)
              have g1 := hcl b (.string ⟨(nm xs b).toArray⟩) (by rw [List.getElem?_map, List.getElem?_eq_getElem hbx, nm_lt hbx]; rfl)
              obtain rfl := e0
              have HSPL : Hid (splitF xs (32 - (acc ++ [b]).length) (sl.drop (k + (nm xs b).length)) (acc ++ [b]) = splitL xs sl) := Lib.hid (by rw [← hsplit]; congr 1; rw [List.length_append, List.length_singleton]; have := HF.out; omega)
              rw [hbest, hbl]
              simp only [optI]
              clear hcl hstd hsplit hbest hbl
              have b0 : (0 : Int) ≤ (b : Int) := by omega
              have b1 : (b : Int) < (xs.length : Int) := by omega
              have b2 : ¬ (b : Int) < 0 := by omega
              generalize nm xs b = nmb at *
              go_wp2_with (at_builtin; refine wpList_append_own_at _ rfl (.tmp 53) (.tmp 55) 35 rfl w.heap.size 3 i0 (.int .i64 0) 1 8 Try.underlying35 hi hz0 hz1 hz2 rfl (by decide) _ _ _ rfl (hown2.alloc _) ⟨w5.heap.size, 0, none⟩ 1 1 [.int .i64 (b : Int)] rfl rfl (cell_one_new _ _ _) (by simp [Value.oneCell']) (by unfold maxLen; omega) (by omega) (by simp only [World.size_alloc]; exact Nat.le_succ_of_le hsw2) ?_; intro v' w4 hown4 hg4 _ _; obtain ⟨A4, c4, rfl⟩ := own_form hown4; have hbw4 : Below w.heap.size w w4 := (hbw2.alloc hsw2 (.cells #[.int .i64 (b : Int)] 3)).grown hg4 (by simp only [World.size_alloc]; exact Nat.le_succ_of_le hsw2) (fun j hj => (hown2.lt j hj).1); have g4 := (hbw4.cell (p := ⟨ba, off + b, none⟩) (by have := hba; simp only; omega)).trans ((hbw2.cell (p := ⟨ba, off + b, none⟩) (by have := hba; simp only; omega)).symm.trans g1))
              go_roundg g'
              case measure => omega
              case rel => exact ⟨acc ++ [b], k + nmb.length, by go_num, by omega, by rw [List.length_append, List.length_singleton]; omega, by rw [List.length_append, List.length_singleton]; omega, by rw [List.length_append, List.length_singleton, ints, List.map_append]; exact hown4, hbw4, HSPL⟩
    · obtain rfl : sl.length = k := by omega
      have hg : splitL xs sl = .good acc := by rw [← hsp.out, List.drop_length, splitF_nil]
      have HG := Lib.hid hg; clear hg hsp
      go_wp2
      go_ret3
      unfold SplitPost
      have hG2 : splitL xs (bl ⟨sl.toArray⟩) = .good acc := HG.out
      rw [hG2]
      exact ⟨hbw, _, rfl, hown⟩

set_option maxHeartbeats 4000000 in
set_option maxRecDepth 100000 in
theorem refSure_any (u v : Value) (xs : List (List UInt8)) (cs : List Int) (B : Nat) (w : World) (hu : Sl w B u (strs xs)) (hv : Sl w B v (intVs cs)) (hB : B ≤ w.heap.size) (hn : xs.length ≤ 1000) (hx : ∀ x ∈ xs, x ≠ [] ∧ x.length ≤ 12) (hc : cs.length ≤ 1073741824)
    (hd : (cs.map fun z => z.toNat).map (fun (n : Nat) => (n : Int)) = cs ∨ okCells xs.length cs = false) :
    Calls Try.prog 66 #[u, v] w fun e w' => e = .returned (.bool (sureB xs cs)) ∧ Below w.heap.size w w' := by
  have CJ := Lib.hid (refJoin_any u v xs cs B w hu hv hn (fun x h => (hx x h).2) hc)
  have hjl := joinI_le xs (fun x h => (hx x h).2) cs
  have CS := Lib.hid (refSplit_any u xs (joinI xs cs) B w hu hB hn hx (by omega))
  have HV := Lib.hid hv
  cases hok : okCells xs.length cs with
  | false =>
    have hE : joinE xs cs = 35 := by unfold joinE; rw [hok]; rfl
    have hS : sureB xs cs = false := by unfold sureB; rw [hok]; rfl
    rw [hS]
    rw [hE] at CJ
    clear hE hS hok hx hd hu hv hjl
    go_enter Try.func66, Try.ntmps66
    go_wp2_with (go_at_call 64; refine CJ.out.mono ?_; rintro e w1 ⟨rfl, rfl⟩)
    go_ret
    exact ⟨rfl, Below.refl _ _⟩
  | true =>
    have hE : joinE xs cs = 0 := by unfold joinE; rw [hok]; rfl
    have hB2 : joinB xs cs = ⟨(joinI xs cs).toArray⟩ := by unfold joinB; rw [hok]; rfl
    rw [hE, hB2] at CJ
    have hcs : (cs.map fun z => z.toNat).map (fun (n : Nat) => (n : Int)) = cs := by
      rcases hd with h | h
      · exact h
      · rw [hok] at h; cases h
    have HCS := Lib.hid hcs
    have HOK := Lib.hid hok
    clear hE hok hB2 hx hd hu hv hcs
    cases hsp : splitL xs (joinI xs cs) with
    | bad left er =>
      have hS : sureB xs cs = false := by unfold sureB; rw [HOK.out, hsp]; rfl
      rw [hS]
      have her := split_err xs 32 _ _ left er hsp
      have t1 : (er == 0) = false := by simp; omega
      have HSP : Hid (splitL xs (bl ⟨(joinI xs cs).toArray⟩) = .bad left er) := Lib.hid hsp
      clear hS hsp her
      generalize joinI xs cs = jl at *
      go_enter Try.func66, Try.ntmps66
      go_wp2_with (first
        | (go_at_call 64; refine CJ.out.mono ?_; rintro e w1 ⟨rfl, rfl⟩)
        | (go_at_call 57; refine CS.out.mono ?_; rintro e w2 ⟨hb2, hm⟩; rw [HSP.out] at hm; obtain rfl := hm))
      go_ret
      exact ⟨rfl, hb2⟩
    | good l =>
      have hS : sureB xs cs = decide (l.map (fun (n : Nat) => (n : Int)) = cs) := by unfold sureB; rw [HOK.out, hsp]; rfl
      rw [hS]
      have HSP : Hid (splitL xs (bl ⟨(joinI xs cs).toArray⟩) = .good l) := Lib.hid hsp
      have hll := (split_join xs 32 _ _ l hsp (fun i hi => by simp at hi)).2.1
      rw [List.length_nil] at hll
      clear hS hsp
      generalize joinI xs cs = jl at *
      have hDD : decide (l.map (fun (n : Nat) => (n : Int)) = cs) = decide (l = cs.map fun z => z.toNat) := by
        rw [decide_eq_decide]
        constructor
        · intro h; rw [← h, List.map_map]; exact (List.map_id'' (fun z => Int.toNat_natCast z) l).symm
        · intro h; rw [h]; exact HCS.out
      rw [hDD]
      generalize hD : decide (l = cs.map fun z => z.toNat) = D
      have HD := Lib.hid hD; clear hD hDD
      have hvi : Sl w B v (ints (cs.map fun z => z.toNat)) := by rw [ints_intVs, HCS.out]; exact HV.out
      have HVI := Lib.hid hvi; clear hvi
      go_enter Try.func66, Try.ntmps66
      go_wp2_with (first
        | (go_at_call 64; refine CJ.out.mono ?_; rintro e w1 ⟨rfl, rfl⟩)
        | (go_at_call 57; refine CS.out.mono ?_; rintro e w2 ⟨hb2, hm⟩; rw [HSP.out] at hm; obtain ⟨vl, rfl, hown⟩ := hm)
        | (go_at_call 58; refine (SameInts_any vl v l (cs.map fun z => z.toNat) w2.heap.size w2 (Sl.of_own hown) ((HVI.out.below (hb2.mono hB)).more (by have := hb2.size; omega)) (by omega) (by rw [List.length_map]; omega)).mono ?_; rw [HD.out]; rintro e w3 ⟨rfl, hb3⟩))
      go_ret
      exact ⟨rfl, hb2.trans (hb3.mono hb2.size)⟩
end Go.Proofs.Ytlkabghpcjlohaa
