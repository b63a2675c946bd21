/- The reference of layer 3: New, stands, Split, Join, Sure. -/
import Derived.Test.YtlkabghpcjlohaaH5
import Derived.Test.YtlkabghpcjlohaaH6
namespace Go.Proofs.Ytlkabghpcjlohaa
set_option linter.unusedVariables false
set_option linter.unusedSimpArgs false
open Go.RowKit Go.Lib Go.Maps Go.Shelf Go.WideMaps

theorem Sl.take {w : World} {B : Nat} {b off n c : Nat} {xs : List Value} (h : Sl w B (.slice (some ⟨b, off, none⟩) n c) xs) (k : Nat) (hk : k ≤ n) : Sl w B (.slice (some ⟨b, off, none⟩) k c) (xs.take k) := by
  obtain ⟨A, c', hv, hc, hA⟩ := h
  injection hv with e1 e2 e3
  subst e1; subst e2; subst e3
  refine ⟨some ⟨b, off, none⟩, c, by rw [List.length_take]; congr 1; omega, by rw [List.length_take]; omega, fun hp => ?_⟩
  rw [List.length_take] at hp
  obtain ⟨ad, e, hB, hcell⟩ := hA (by omega)
  exact ⟨ad, e, hB, fun j u hu => by
    rw [List.getElem?_take] at hu
    split at hu
    · exact hcell j u hu
    · cases hu⟩

/-- stands, of a place in the text -/
def stB (s : List UInt8) (k : Nat) (nam : List UInt8) : Bool := !nam.isEmpty && nam.isPrefixOf (s.drop k)
theorem stB_std (xs : List (List UInt8)) (s : List UInt8) (k i : Nat) : stB s k (nm xs i) = std xs (s.drop k) i := rfl

set_option maxHeartbeats 4000000 in
set_option maxRecDepth 100000 in
theorem stands_any (s nam : List UInt8) (k : Nat) (w : World) (hk : k ≤ s.length) (hs : s.length ≤ 17592186044416) (hn : nam.length ≤ 17592186044416) :
    Calls Try.prog 91 #[.string ⟨s.toArray⟩, .int .i64 k, .string ⟨nam.toArray⟩] w fun e w' => e = .returned (.bool (stB s k nam)) ∧ w = w' := by
  have hT : ∃ T, T = stB s k nam := ⟨_, rfl⟩
  obtain ⟨T, hT⟩ := hT
  rw [← hT]
  have HT := Lib.hid hT; clear hT
  by_cases h0 : nam.length = 0
  · have hn0 : nam = [] := List.length_eq_zero_iff.1 h0
    subst hn0
    have hf : T = false := HT.out
    have HF := Lib.hid hf; clear hf h0
    go_enter Try.func91, Try.ntmps91
    go_wp2
    go_ret
    exact ⟨ret_b HF.out.symm, rfl⟩
  · have t1 : (0 : Int) < (nam.length : Int) := by omega
    have hne : nam ≠ [] := by intro e; rw [e] at h0; exact h0 rfl
    by_cases h1 : nam.length + k ≤ s.length
    · have t2 : (nam.length : Int) ≤ (s.length : Int) - (k : Int) := by omega
      have hsz : (⟨s.toArray⟩ : ByteArray).size = s.length := by rw [← bl_length]
      have t3 : (0 : Int) ≤ (k : Int) := by omega
      have t4 : (k : Int) + (nam.length : Int) ≤ (s.length : Int) := by omega
      have t5 : (k : Int) ≤ (k : Int) + (nam.length : Int) := by omega
      have hval : T = decide ((s.drop k).take nam.length = nam) := by
        rw [HT.out]
        unfold stB
        rw [Bool.eq_iff_iff, Bool.and_eq_true, List.isPrefixOf_iff_prefix, List.prefix_iff_eq_take]
        simp only [Bool.not_eq_true', List.isEmpty_eq_false_iff, decide_eq_true_eq]
        exact ⟨fun h => h.2.symm, fun h => ⟨hne, h.symm⟩⟩
      have HV := Lib.hid hval; clear hval hne h0 hsz
      go_enter Try.func91, Try.ntmps91
      go_wp2
      go_ret
      refine ⟨ret_b ?_, rfl⟩
      rw [HV.out, ByteArray.toList_eq]
      have e9 : (((⟨s.toArray⟩ : ByteArray).extract k (k + nam.length)).data.toList) = (s.drop k).take nam.length := by
        have := bl_extract ⟨s.toArray⟩ k (k + nam.length)
        rw [show k + nam.length - k = nam.length by omega] at this
        exact this
      rw [e9, Bool.eq_iff_iff]
      simp
    · have t2 : ¬ (nam.length : Int) ≤ (s.length : Int) - (k : Int) := by omega
      have hf : T = false := by
        rw [HT.out]
        unfold stB
        have : nam.isPrefixOf (s.drop k) = false := by
          cases hp : nam.isPrefixOf (s.drop k) with
          | false => rfl
          | true =>
            have := (List.isPrefixOf_iff_prefix.1 hp).length_le
            rw [List.length_drop] at this; omega
        rw [this, Bool.and_false]
      have HF := Lib.hid hf; clear hf h0 hne
      go_enter Try.func91, Try.ntmps91
      go_wp2
      go_ret
      exact ⟨ret_b HF.out.symm, rfl⟩

set_option maxHeartbeats 4000000 in
set_option maxRecDepth 100000 in
theorem refJoin_any (u v : Value) (xs : List (List UInt8)) (cs : List Int) (B : Nat) (w : World) (hu : Sl w B u (strs xs)) (hv : Sl w B v (intVs cs)) (hn : xs.length ≤ 1000) (hx : ∀ x ∈ xs, x.length ≤ 12) (hc : cs.length ≤ 1073741824) :
    Calls Try.prog 64 #[u, v] w fun e w' => e = .returned (.tuple #[.string (joinB xs cs), .int .i64 (joinE xs cs)]) ∧ w = w' := by
  have hu0 := hu; have hv0 := hv
  obtain ⟨A, c, rfl, hc1, hA⟩ := hu
  obtain ⟨A', c', rfl, hc2, hA'⟩ := hv
  rw [List.length_map] at hu0 hv0
  rw [List.length_map, List.length_map]
  clear hc1 hc2 hA hA'
  have HU := Lib.hid hu0; have HV := Lib.hid hv0; have HX := Lib.hid hx; clear hu0 hv0 hx
  go_enter Try.func64, Try.ntmps64
  go_wp2
  go_loopg [6, 7] cs.length (fun gf u6 u7 wr => ∃ k : Nat, u7 = .int .i64 k ∧ u6 = .string ⟨(joinI xs (cs.take k)).toArray⟩ ∧ k ≤ cs.length ∧ cs.length ≤ k + gf ∧ wr = w ∧ Hid (okCells xs.length (cs.take k) = true))
  case atStart => exact ⟨0, rfl, rfl, Nat.zero_le _, by omega, rfl, rfl⟩
  case round =>
    obtain ⟨k, rfl, rfl, hk, hfu, rfl, hok⟩ := hrel
    by_cases hlt : k < cs.length
    · obtain ⟨g', rfl⟩ : ∃ g', gk = g' + 1 := ⟨gk - 1, by omega⟩
      obtain ⟨bv, ov, e0, _, hcl⟩ := HV.out.addr (by omega)
      have g1 := hcl k _ (by rw [List.getElem?_map, List.getElem?_eq_getElem hlt]; rfl)
      obtain rfl := e0
      clear hcl
      have hst : okCells xs.length (cs.take (k + 1)) = (okCells xs.length (cs.take k) && decide (0 ≤ cs[k]'hlt ∧ cs[k]'hlt < (xs.length : Int))) := by
        unfold okCells; rw [List.take_succ_eq_append_getElem hlt, List.all_append]; simp
      have hmem : cs[k]'hlt ∈ cs := List.getElem_mem hlt
      have hjs := joinI_snoc xs (cs.take k) (cs[k]'hlt)
      rw [← List.take_succ_eq_append_getElem hlt] at hjs
      have hjl := joinI_le xs HX.out (cs.take k)
      rw [List.length_take] at hjl
      have i0' : (0 : Int) ≤ (k : Int) := by omega
      have i1 : (k : Int) < (cs.length : Int) := by omega
      have HST := Lib.hid hst; have HJ := Lib.hid hjs; have HME := Lib.hid hmem
      clear hst hjs hmem
      generalize hcc : cs[k]'hlt = c at *
      clear hcc
      have bad : ¬ (0 ≤ c ∧ c < (xs.length : Int)) → okCells xs.length cs = false := fun hb => by
        cases hq : okCells xs.length cs with
        | false => rfl
        | true => exact absurd (okCells_iff.1 hq c HME.out) hb
      have BAD := Lib.hid bad; clear bad
      generalize joinI xs (cs.take k) = jl at *
      by_cases c1 : c < 0
      · have HB := Lib.hid (BAD.out (by omega))
        go_wp2
        go_ret2
        exact ⟨ret_se (by unfold joinB; rw [HB.out]; rfl) (by unfold joinE; rw [HB.out]; rfl), rfl⟩
      · by_cases c2 : c < (xs.length : Int)
        · obtain ⟨i, rfl⟩ : ∃ i : Nat, c = i := ⟨c.toNat, by omega⟩
          have hi : i < xs.length := by omega
          obtain ⟨bn, on, e0, _, hcl⟩ := HU.out.addr (by omega)
          have g2 := hcl i _ (by rw [List.getElem?_map, List.getElem?_eq_getElem hi]; rfl)
          obtain rfl := e0
          have hnm := nm_lt hi
          have hxl := HX.out _ (List.getElem_mem hi)
          rw [← hnm] at g2 hxl
          clear hcl hnm
          rw [Int.toNat_natCast] at HJ
          generalize nm xs i = nmi at *
          have hok2 : Hid (okCells xs.length (cs.take (k + 1)) = true) := Lib.hid (by rw [HST.out, hok.out, Bool.true_and]; exact decide_eq_true ⟨by omega, by omega⟩)
          have happ : Hid ((⟨jl.toArray⟩ : ByteArray) ++ ⟨nmi.toArray⟩ = ⟨(joinI xs (cs.take (k + 1))).toArray⟩) := Lib.hid (by rw [HJ.out]; apply bl_inj; simp [bl])
          go_wp2
          go_roundg g'
          case measure => omega
          case rel => exact ⟨k + 1, by go_num, by first | (rw [← happ.out]) | (rw [HJ.out]; rfl) | (rw [HJ.out]; simp), by omega, by omega, rfl, hok2⟩
        · have HB := Lib.hid (BAD.out (by omega))
          go_wp2
          go_ret2
          exact ⟨ret_se (by unfold joinB; rw [HB.out]; rfl) (by unfold joinE; rw [HB.out]; rfl), rfl⟩
    · obtain rfl : cs.length = k := by omega
      rw [List.take_length] at hok ⊢
      have hB1 : joinB xs cs = ⟨(joinI xs cs).toArray⟩ := by unfold joinB; rw [hok.out]; rfl
      have hE1 : joinE xs cs = 0 := by unfold joinE; rw [hok.out]; rfl
      have HB1 := Lib.hid hB1; have HE1 := Lib.hid hE1; clear hB1 hE1
      generalize joinI xs cs = jl at *
      go_wp2
      go_ret2
      exact ⟨ret_se HB1.out.symm HE1.out.symm, rfl⟩

set_option maxHeartbeats 8000000 in
set_option maxRecDepth 100000 in
theorem refNew_any (v : Value) (xs : List (List UInt8)) (B : Nat) (w : World) (hv : Sl w B v (strs xs)) (hB : B ≤ w.heap.size) (hz : ∀ x ∈ xs, x.length ≤ 17592186044416) (hx : xs.length ≤ 17592186044416) :
    Calls Try.prog 48 #[v] w fun e w' => e = .returned (.tuple #[.int .i64 ((newL xs).1 : Nat), .int .i64 (newL xs).2]) ∧ Below w.heap.size w w' := by
  have hv0 := hv
  obtain ⟨A, c, rfl, hc, hA⟩ := hv
  rw [List.length_map] at hv0 hc ⊢
  clear hA hc
  by_cases hmany : xs.length < 1 ∨ 40 < xs.length
  · have hE : newL xs = (0, 32) := by unfold newL; rw [if_pos hmany]
    have HE := Lib.hid hE; clear hE
    rcases hmany with h1 | h1
    · have t1 : (xs.length : Int) < 1 := by omega
      go_enter Try.func48, Try.ntmps48
      go_wp2
      go_ret2
      exact ⟨by rw [HE.out]; rfl, Below.refl _ _⟩
    · have t1 : ¬ (xs.length : Int) < 1 := by omega
      have t2 : (40 : Int) < (xs.length : Int) := by omega
      go_enter Try.func48, Try.ntmps48
      go_wp2
      go_ret2
      exact ⟨by rw [HE.out]; rfl, Below.refl _ _⟩
  · have hn1 : 1 ≤ xs.length := by omega
    have hn2 : xs.length ≤ 40 := by omega
    have hE : newL xs = newFrom xs 0 xs.length := by unfold newL; rw [if_neg hmany]
    have HE := Lib.hid hE; clear hE hmany
    have t1 : ¬ (xs.length : Int) < 1 := by omega
    have t2 : ¬ (40 : Int) < (xs.length : Int) := by omega
    have HV := Lib.hid hv0; clear hv0
    have HZ := Lib.hid hz; clear hz
    go_enter Try.func48, Try.ntmps48
    go_wp2
    go_loopg [4, 5, 6] xs.length (fun gf u4 _ _ wr => ∃ k : Nat, u4 = .int .i64 k ∧ k ≤ xs.length ∧ xs.length ≤ k + gf ∧ Below w.heap.size w wr ∧ Hid (newFrom xs k (xs.length - k) = newL xs))
    case atStart => exact ⟨0, rfl, Nat.zero_le _, by omega, Below.refl _ _, HE.out.symm⟩
    case round =>
      obtain ⟨k, rfl, hk, hfu, hbw, HF⟩ := hrel
      have hsw := hbw.size
      by_cases hlt : k < xs.length
      · obtain ⟨g', rfl⟩ : ∃ g', gk = g' + 1 := ⟨gk - 1, by omega⟩
        obtain ⟨ba, off, e0, hba, hcl⟩ := (HV.out.below (hbw.mono hB)).addr hn1
        have g1 := hcl k _ (by rw [List.getElem?_map, List.getElem?_eq_getElem hlt]; rfl)
        obtain rfl := e0
        have hsz := HZ.out _ (List.getElem_mem hlt)
        have hnm := nm_lt hlt
        have HF2 : Hid ((if rightL (nm xs k) = false then (k, (30 : Int)) else if nm xs k ∈ xs.take k then (k, 31) else newFrom xs (k + 1) (xs.length - (k + 1))) = newL xs) := Lib.hid (by
          have := HF.out
          rw [show xs.length - k = (xs.length - (k + 1)) + 1 by omega, newFrom] at this
          exact this)
        rw [hnm] at HF2
        have cR := fun W => refRight_any ⟨(xs[k]'hlt).toArray⟩ W (by rw [← bl_length, bl_mk]; exact hsz)
        rw [bl_mk] at cR
        have hpre := Lib.hid (fun (W : World) (hb : Below w.heap.size w W) => (HV.out.below (hb.mono hB)).take k (by omega))
        have CR := Lib.hid cR
        clear cR hnm hsz hcl
        generalize xs[k]'hlt = s at *
        have i0' : (0 : Int) ≤ (k : Int) := by omega
        have i1 : (k : Int) < (xs.length : Int) := by omega
        cases hr : rightL s with
        | false =>
          rw [hr] at CR
          have HFr : Hid (newL xs = (k, 30)) := Lib.hid (by have := HF2.out; rw [if_pos hr] at this; exact this.symm)
          have Hr := Lib.hid hr; clear hr HF2 HF
          go_wp2_with (go_at_call 86; refine (CR.out _).mono ?_; rintro e w2 ⟨rfl, hb2⟩)
          go_ret2
          exact ⟨by rw [HFr.out]; rfl, hbw.trans (hb2.mono hsw)⟩
        | true =>
          rw [hr] at CR
          have HF3 : Hid ((if s ∈ xs.take k then (k, (31 : Int)) else newFrom xs (k + 1) (xs.length - (k + 1))) = newL xs) := Lib.hid (by have := HF2.out; rw [if_neg (by rw [hr]; simp)] at this; exact this)
          have Hr := Lib.hid hr; clear hr HF2 HF
          have hcap : (k : Int) ≤ (c : Int) := by have := HV.out.len; omega
          by_cases htw : s ∈ xs.take k
          · have HFr : Hid (newL xs = (k, 31)) := Lib.hid (by have := HF3.out; rw [if_pos htw] at this; exact this.symm)
            have cN := fun W (hb : Below w.heap.size w W) => refNumber_any (.slice (some ⟨ba, off, none⟩) k c) (xs.take k) s B W (by have h9 := hpre.out W hb; rw [← List.map_take] at h9; exact h9) (by rw [List.length_take]; omega)
            rw [decide_eq_true htw] at cN
            have CN := Lib.hid cN; clear cN
            have HT := Lib.hid htw; clear HF3 htw
            go_wp2_with (go_at_call 86; refine (CR.out _).mono ?_; rintro e w2 ⟨rfl, hb2⟩; have hb2w := hbw.trans (hb2.mono hsw); have g2 := (hb2.cell (p := ⟨ba, off + k, none⟩) (by simp only; omega)).trans g1)
            go_quiet ((go_at_call 87; exact Calls.quiet_of_same ((CN.out _ (bdraw hb2w _)).mono fun e w' h => ⟨h.1, h.2.symm⟩)))
            go_wp2
            go_ret2
            exact ⟨by rw [HFr.out]; rfl, bdraw hb2w _⟩
          · have HFr : Hid (newFrom xs (k + 1) (xs.length - (k + 1)) = newL xs) := Lib.hid (by have := HF3.out; rw [if_neg htw] at this; exact this)
            have cN := fun W (hb : Below w.heap.size w W) => refNumber_any (.slice (some ⟨ba, off, none⟩) k c) (xs.take k) s B W (by have h9 := hpre.out W hb; rw [← List.map_take] at h9; exact h9) (by rw [List.length_take]; omega)
            rw [decide_eq_false htw] at cN
            have CN := Lib.hid cN; clear cN
            have HT := Lib.hid htw; clear HF3 htw
            go_wp2_with (go_at_call 86; refine (CR.out _).mono ?_; rintro e w2 ⟨rfl, hb2⟩; have hb2w := hbw.trans (hb2.mono hsw); have g2 := (hb2.cell (p := ⟨ba, off + k, none⟩) (by simp only; omega)).trans g1)
            go_quiet ((go_at_call 87; exact Calls.quiet_of_same ((CN.out _ (bdraw hb2w _)).mono fun e w' h => ⟨h.1, h.2.symm⟩)))
            go_wp2
            go_roundg g'
            case measure => omega
            case rel => exact ⟨k + 1, by go_num, by omega, by omega, bdraw hb2w _, HFr⟩
      · obtain rfl : xs.length = k := by omega
        have hE2 : newL xs = (0, 0) := by
          have := HF.out
          rw [Nat.sub_self, newFrom] at this
          exact this.symm
        have HE2 := Lib.hid hE2; clear hE2 HF
        go_wp2
        go_ret2
        exact ⟨by rw [HE2.out]; rfl, hbw⟩
end Go.Proofs.Ytlkabghpcjlohaa
