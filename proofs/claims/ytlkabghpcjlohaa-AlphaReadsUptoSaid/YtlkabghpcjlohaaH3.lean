/- Package alpha: Size, Name, Number, order, Join of an alphabet in memory. -/
import Derived.Test.YtlkabghpcjlohaaH1
import Derived.Test.YtlkabghpcjlohaaG4
import Derived.Test.YtlkabghpcjlohaaA6
import Derived.StringKeys
import Derived.WalkSpells
namespace Go.Proofs.Ytlkabghpcjlohaa
set_option linter.unusedVariables false
set_option linter.unusedSimpArgs false
open Go.RowKit Go.Lib Go.Maps Go.Shelf Go.WideMaps

theorem Size_any {B p : Nat} {xs : List (List UInt8)} {o : List Nat} {w : World} (h : AlphAt B p xs o w) :
    Calls Try.prog 49 #[.pointer (some ⟨p, 0, none⟩)] w fun e w' => e = .returned (.int .i64 (xs.length : Nat)) ∧ w = w' := by
  obtain ⟨A, c, h1, h2⟩ := h.nms
  clear h h2
  go_enter Try.func49, Try.ntmps49
  go_wp2
  go_ret
  exact ⟨rfl, rfl⟩
theorem Size_nil (w : World) : Calls Try.prog 49 #[.pointer none] w fun e w' => e = .returned (.int .i64 0) ∧ w = w' := by
  go_enter Try.func49, Try.ntmps49
  go_wp2
  go_ret
  exact ⟨rfl, rfl⟩
theorem order_any {B p : Nat} {xs : List (List UInt8)} {o : List Nat} {w : World} (h : AlphAt B p xs o w) :
    Calls Try.prog 89 #[.pointer (some ⟨p, 0, none⟩)] w fun e w' => (∃ A c, e = .returned (.slice A o.length c) ∧ Sl w B (.slice A o.length c) (o.map fun (n : Nat) => Value.int .i64 (n : Int))) ∧ w = w' := by
  obtain ⟨A, c, h1, h2⟩ := h.lon
  have H := Lib.hid h2
  clear h h2
  go_enter Try.func89, Try.ntmps89
  go_wp2
  go_ret
  exact ⟨⟨A, c, rfl, H.out⟩, rfl⟩
theorem order_nil (w : World) : Calls Try.prog 89 #[.pointer none] w fun e w' => e = .returned (.slice none 0 0) ∧ w = w' := by
  go_enter Try.func89, Try.ntmps89
  go_wp2
  go_ret
  exact ⟨rfl, rfl⟩
theorem Name_in {B p : Nat} {xs : List (List UInt8)} {o : List Nat} {w : World} (h : AlphAt B p xs o w) (i : Nat) (hi : i < xs.length) (hn : xs.length ≤ 1000) :
    Calls Try.prog 50 #[.pointer (some ⟨p, 0, none⟩), .int .i64 i] w fun e w' => e = .returned (.string ⟨(nm xs i).toArray⟩) ∧ w = w' := by
  have CS := Lib.hid (Size_any h)
  obtain ⟨A, c, h1, h2⟩ := h.nms
  obtain ⟨b, off, rfl, _, hcl⟩ := h2.addr (by omega)
  have g := hcl i _ (by rw [List.getElem?_map, List.getElem?_eq_getElem hi]; rfl)
  have hnm := nm_lt hi
  rw [← hnm] at g
  clear h h2 hcl hnm
  generalize nm xs i = s at *
  have i0 : (0 : Int) ≤ (i : Int) := by omega
  have i1 : (i : Int) < (xs.length : Int) := by omega
  go_enter Try.func50, Try.ntmps50
  go_wp2_with (go_at_call 49; refine CS.out.mono ?_; rintro e w' ⟨rfl, rfl⟩)
  go_ret
  exact ⟨rfl, rfl⟩
theorem Name_low {a : Value} (i : Int) (w : World) (hi : i < 0) :
    Calls Try.prog 50 #[a, .int .i64 i] w fun e w' => e = .returned (.string ⟨#[]⟩) ∧ w = w' := by
  go_enter Try.func50, Try.ntmps50
  go_wp2
  go_ret
  exact ⟨rfl, rfl⟩
theorem Name_high {B p : Nat} {xs : List (List UInt8)} {o : List Nat} {w : World} (h : AlphAt B p xs o w) (hn : xs.length ≤ 1000) :
    Calls Try.prog 50 #[.pointer (some ⟨p, 0, none⟩), .int .i64 xs.length] w fun e w' => e = .returned (.string ⟨#[]⟩) ∧ w = w' := by
  have CS := Lib.hid (Size_any h)
  clear h
  have i0 : (0 : Int) ≤ (xs.length : Int) := by omega
  go_enter Try.func50, Try.ntmps50
  go_wp2_with (go_at_call 49; refine CS.out.mono ?_; rintro e w' ⟨rfl, rfl⟩)
  go_ret
  exact ⟨rfl, rfl⟩
theorem Name_nil (w : World) :
    Calls Try.prog 50 #[.pointer none, .int .i64 0] w fun e w' => e = .returned (.string ⟨#[]⟩) ∧ w = w' := by
  have CS := Lib.hid (Size_nil w)
  go_enter Try.func50, Try.ntmps50
  go_wp2_with (go_at_call 49; refine CS.out.mono ?_; rintro e w' ⟨rfl, rfl⟩)
  go_ret
  exact ⟨rfl, rfl⟩

set_option maxHeartbeats 1000000 in
set_option maxRecDepth 100000 in
theorem Number_any {B p : Nat} {xs : List (List UInt8)} {o : List Nat} {w : World} (h : AlphAt B p xs o w) (s : ByteArray) (hs : s.size ≤ 17592186044416) (r : Int × Bool)
    (hr : (∃ i : Nat, i < xs.length ∧ Lets xs ∧ bl s = nm xs i ∧ r = ((i : Int), true)) ∨ (bl s ∉ xs ∧ r = (0, false))) :
    Calls Try.prog 51 #[.pointer (some ⟨p, 0, none⟩), .string s] w fun e w' => e = .returned (.tuple #[.int .i64 r.1, .bool r.2]) ∧ w = w' := by
  obtain ⟨M, hM, h1, h2⟩ := h.mp
  have hkey : keyOf Try.prog 9 (.string s) = some (mkey (bl s)) := keyOf_string_mk Try.underlying9 (by unfold maxLen; omega)
  have hh := mapD_has xs (bl s) xs.length (Nat.le_refl _)
  rw [List.take_length] at hh
  have hat0 : (mapD xs xs.length).atKey (mkey (bl s)) (.lit (.int .i64 0)) = .lit (.int .i64 r.1) ∧ Maps.has (mapD xs xs.length) (mkey (bl s)) = r.2 := by
    rcases hr with ⟨i, hi, hL, he, rfl⟩ | ⟨hno, rfl⟩
    · refine ⟨by rw [he]; exact mapD_at xs hL _ hi (Nat.le_refl _), ?_⟩
      rw [hh, he]
      exact decide_eq_true (by rw [nm_lt hi]; exact List.getElem_mem hi)
    · have : Maps.has (mapD xs xs.length) (mkey (bl s)) = false := by rw [hh]; exact decide_eq_false hno
      exact ⟨atKey_of_not_has this _, this⟩
  have H0 := Lib.hid hat0; have HK := Lib.hid hkey
  clear h hh hkey hat0 hr hs
  go_enter Try.func51, Try.ntmps51
  go_wp2_with (at_lookup; refine wpList_lookup_own_ok_int _ rfl _ _ 97 rfl 9 3 .i64 mapKey Try.underlying97 Try.underlying3 (zeroInt _) M xs.length _ rfl h2 _ _ rfl HK.out ?_; intro c9 hat hwc; have HAT := Lib.hid hat; clear hat hwc)
  go_ret2
  have hc : c9 = r.1 := by
    have := H0.out.1
    rw [HAT.out] at this
    injection this with this
    injection this
  refine ⟨?_, rfl⟩
  rw [hc, H0.out.2]
  rfl
theorem Number_nil (w : World) (s : ByteArray) : Calls Try.prog 51 #[.pointer none, .string s] w fun e w' => e = .returned (.tuple #[.int .i64 0, .bool false]) ∧ w = w' := by
  go_enter Try.func51, Try.ntmps51
  go_wp2
  go_ret2
  exact ⟨rfl, rfl⟩

/-! ### Join -/
def okCells (n : Nat) (cs : List Int) : Bool := cs.all fun c => decide (0 ≤ c ∧ c < (n : Int))
theorem okCells_iff {n : Nat} {cs : List Int} : okCells n cs = true ↔ ∀ c ∈ cs, 0 ≤ c ∧ c < (n : Int) := by
  unfold okCells
  rw [List.all_eq_true]
  simp
def joinI (xs : List (List UInt8)) (cs : List Int) : List UInt8 := joinC xs (cs.map Int.toNat)
theorem joinI_snoc (xs : List (List UInt8)) (cs : List Int) (c : Int) : joinI xs (cs ++ [c]) = joinI xs cs ++ nm xs c.toNat := by unfold joinI; rw [List.map_append, List.map_singleton, joinC_snoc]
theorem joinI_le (xs : List (List UInt8)) (hx : ∀ x ∈ xs, x.length ≤ 12) (cs : List Int) : (joinI xs cs).length ≤ 12 * cs.length := by
  induction cs with
  | nil => simp [joinI, joinC]
  | cons c cs ih =>
    have e : joinI xs (c :: cs) = nm xs c.toNat ++ joinI xs cs := by simp [joinI, joinC]
    have h1 : (nm xs c.toNat).length ≤ 12 := by
      rcases Nat.lt_or_ge c.toNat xs.length with h | h
      · rw [nm_lt h]; exact hx _ (List.getElem_mem h)
      · simp [nm, List.getD, List.getElem?_eq_none h]
    rw [e, List.length_append, List.length_cons]; omega
def joinB (xs : List (List UInt8)) (cs : List Int) : ByteArray := ⟨(if okCells xs.length cs then joinI xs cs else []).toArray⟩
def joinE (xs : List (List UInt8)) (cs : List Int) : Int := if okCells xs.length cs then 0 else 35
theorem strCells_eq' (l : List UInt8) : strCells ⟨l.toArray⟩ = byteCells l := strCells_eq ⟨l.toArray⟩
theorem ret_se {a b : ByteArray} {c d : Int} (h1 : a = b) (h2 : c = d) : Ending.returned (.tuple #[.string a, .int .i64 c]) = Ending.returned (.tuple #[.string b, .int .i64 d]) := by rw [h1, h2]
abbrev intVs (cs : List Int) : List Value := cs.map (Value.int .i64)

set_option maxHeartbeats 8000000 in
set_option maxRecDepth 100000 in
theorem Join_any {B p : Nat} {xs : List (List UInt8)} {o : List Nat} {w : World} (h : AlphAt B p xs o w) (v : Value) (cs : List Int) (Bc : Nat) (hv : Sl w Bc v (intVs cs)) (hBc : Bc ≤ w.heap.size) (hn : xs.length ≤ 1000) (hx : ∀ x ∈ xs, x.length ≤ 12) (hc : cs.length ≤ 1073741824) :
    Calls Try.prog 63 #[.pointer (some ⟨p, 0, none⟩), v] w fun e w' => e = .returned (.tuple #[.string (joinB xs cs), .int .i64 (joinE xs cs)]) ∧ Below w.heap.size w w' := by
  have hv0 := hv
  obtain ⟨Av, cv, rfl, hcv, hA⟩ := hv
  rw [List.length_map] at hv0 ⊢
  clear hA hcv
  have hH := h
  have HA := Lib.hid h; clear h hH
  have HV := Lib.hid hv0; clear hv0
  have HX := Lib.hid hx; clear hx
  go_enter Try.func63, Try.ntmps63
  go_wp2
  go_loopg [8, 11] cs.length (fun gf _ u11 wr => ∃ k : Nat, u11 = .int .i64 k ∧ k ≤ cs.length ∧ cs.length ≤ k + gf ∧ IsBuilderF 84 5 w.heap.size w.heap.size (byteCells (joinI xs (cs.take k))) wr ∧ Below w.heap.size w wr ∧ Hid (okCells xs.length (cs.take k) = true))
  case atStart => exact ⟨0, rfl, Nat.zero_le _, by omega, IsBuilderF.of (fresh_isBuilder 84 5 w), (Below.refl _ w).alloc (Nat.le_refl _) _, rfl⟩
  case round =>
    obtain ⟨k, rfl, hk, hfu, hbd, hbw, hok⟩ := hrel
    have hsw := hbw.size
    by_cases hlt : k < cs.length
    · obtain ⟨g', rfl⟩ : ∃ g', gk = g' + 1 := ⟨gk - 1, by omega⟩
      obtain ⟨bv, ov, e0, _, hcl⟩ := (HV.out.below (hbw.mono hBc)).addr (by omega)
      have g1 := hcl k _ (by rw [List.getElem?_map, List.getElem?_eq_getElem hlt]; rfl)
      obtain rfl := e0
      clear hcl
      have hst : okCells xs.length (cs.take (k + 1)) = (okCells xs.length (cs.take k) && decide (0 ≤ cs[k]'hlt ∧ cs[k]'hlt < (xs.length : Int))) := by
        unfold okCells; rw [List.take_succ_eq_append_getElem hlt, List.all_append]; simp
      have hmem : cs[k]'hlt ∈ cs := List.getElem_mem hlt
      have hjs := joinI_snoc xs (cs.take k) (cs[k]'hlt)
      rw [← List.take_succ_eq_append_getElem hlt] at hjs
      have hjl := joinI_le xs HX.out (cs.take k)
      rw [List.length_take] at hjl
      have hA2 := HA.out.below (hbw.mono HA.out.hB)
      have CS := Lib.hid (Size_any hA2)
      have i0' : (0 : Int) ≤ (k : Int) := by omega
      have i1 : (k : Int) < (cs.length : Int) := by omega
      have HST := Lib.hid hst; have HJ := Lib.hid hjs; have HME := Lib.hid hmem
      clear hst hjs hmem
      generalize hcc : cs[k]'hlt = c at *
      clear hcc
      obtain ⟨A, cn, hc1, hc2⟩ := hA2.nms
      have bad : ¬ (0 ≤ c ∧ c < (xs.length : Int)) → okCells xs.length cs = false := fun hb => by
        cases hq : okCells xs.length cs with
        | false => rfl
        | true => exact absurd (okCells_iff.1 hq c HME.out) hb
      have BAD := Lib.hid bad; clear bad
      by_cases c1 : c < 0
      · have hb := BAD.out (by omega)
        have HB := Lib.hid hb; clear hb hc2
        go_wp2
        go_ret2
        exact ⟨ret_se (by unfold joinB; rw [HB.out]; rfl) (by unfold joinE; rw [HB.out]; rfl), hbw⟩
      · by_cases c2 : c < (xs.length : Int)
        · obtain ⟨i, rfl⟩ : ∃ i : Nat, c = i := ⟨c.toNat, by omega⟩
          have hi : i < xs.length := by omega
          obtain ⟨bn, on, e0, _, hcl⟩ := hc2.addr (by omega)
          have g2 := hcl i _ (by rw [List.getElem?_map, List.getElem?_eq_getElem hi]; rfl)
          obtain rfl := e0
          have hnm := nm_lt hi
          have hxl := HX.out _ (List.getElem_mem hi)
          rw [← hnm] at g2 hxl
          clear hcl hnm hc2
          rw [Int.toNat_natCast] at HJ
          generalize nm xs i = nmi at *
          have hsn : (⟨nmi.toArray⟩ : ByteArray).size = nmi.length := by rw [← bl_length]
          have cB := fun W (hW : IsBuilderF 84 5 w.heap.size w.heap.size (byteCells (joinI xs (cs.take k))) W) (hs : w.heap.size ≤ W.heap.size) =>
            b_string w.heap.size w.heap.size (byteCells (joinI xs (cs.take k))) ⟨nmi.toArray⟩ W hW (by rw [hsn]; simp only [byteCells, List.length_map]; omega) hs
          have CB := Lib.hid cB; clear cB hsn
          have hok2 : Hid (okCells xs.length (cs.take (k + 1)) = true) := Lib.hid (by rw [HST.out, hok.out, Bool.true_and]; exact decide_eq_true ⟨by omega, by omega⟩)
          go_wp2_with (first
            | (go_at_call 49; refine CS.out.mono ?_; rintro e w2 ⟨rfl, rfl⟩)
            | (go_at_call 73; refine (CB.out _ hbd hsw).mono ?_; rintro e w3 ⟨rfl, hbd3, hb3, hk3⟩))
          have hbw3 : Below w.heap.size w w3 := hbw.trans hb3
          have hbd4 : IsBuilderF 84 5 w.heap.size w.heap.size (byteCells (joinI xs (cs.take (k + 1)))) w3 := by
            rw [HJ.out, byteCells_append, ← strCells_eq']
            exact .inr hbd3
          go_roundg g'
          case measure => omega
          case rel => exact ⟨k + 1, by go_num, by omega, by omega, hbd4, hbw3, hok2⟩
        · have hb := BAD.out (by omega)
          have HB := Lib.hid hb; clear hb hc2
          go_wp2_with (go_at_call 49; refine CS.out.mono ?_; rintro e w2 ⟨rfl, rfl⟩)
          go_ret2
          exact ⟨ret_se (by unfold joinB; rw [HB.out]; rfl) (by unfold joinE; rw [HB.out]; rfl), hbw⟩
    · obtain rfl : cs.length = k := by omega
      rw [List.take_length] at hbd hok
      have hB1 : joinB xs cs = ⟨(joinI xs cs).toArray⟩ := by unfold joinB; rw [hok.out]; rfl
      have hE1 : joinE xs cs = 0 := by unfold joinE; rw [hok.out]; rfl
      have HB1 := Lib.hid hB1; have HE1 := Lib.hid hE1; clear hB1 hE1
      have cS := fun W (hW : IsBuilderF 84 5 w.heap.size w.heap.size (byteCells (joinI xs cs)) W) (hs : w.heap.size ≤ W.heap.size) => Try.Builder_String_any_f w.heap.size w.heap.size (joinI xs cs) W hW hs
      have CST := Lib.hid cS; clear cS
      go_wp2_with (go_at_call 74; refine (CST.out _ hbd hsw).mono ?_; rintro e w2 ⟨rfl, _, hb2⟩)
      go_ret2
      exact ⟨ret_se HB1.out.symm HE1.out.symm, hbw.trans hb2⟩
end Go.Proofs.Ytlkabghpcjlohaa
