/- Package alpha: Split of a text by an alphabet in memory. -/
import Derived.Test.YtlkabghpcjlohaaH3
import Derived.ScopeJumps
import Derived.WalkMore
namespace Go.Proofs.Ytlkabghpcjlohaa
set_option linter.unusedVariables false
set_option linter.unusedSimpArgs false
open Go.RowKit Go.Lib Go.Maps Go.Shelf Go.WideMaps

theorem wp_scope_entry {P : Program} {a : Act} {w : World} {Q : Exit → Act → World → Prop} {c rest : Code} (l : Nat) (J : Act → World → Prop) (μ : Act → World → Nat) (hf : findLabel c l = some (Code.skip.seq rest))
    (first : (∀ a w, J a w → rest.wp P (Exit.jump l J Q) a w) → c.wp P (Exit.jump l J Q) a w)
    (pass : ∀ a w, J a w → rest.wp P (Exit.jump l (fun a' w' => J a' w' ∧ μ a' w' < μ a w) Q) a w) : (Code.scope c).wp P Q a w :=
  wp_scope_jumps l J μ hf (first (fun a w hJ => wp_mono (pass a w hJ) (fun e a' w' h => by
    cases e with
    | goto l' => exact ⟨h.1, h.2.1⟩
    | normal => exact h
    | exit id => exact h
    | ret => exact h
    | panic ch => exact h
    | outgrown => exact h))) (fun a w hJ => wp_seq (wp_skip (by simp only [Exit.then]; exact pass a w hJ)))
theorem hasPrefix_std {xs : List (List UInt8)} (hL : Lets xs) (r : List UInt8) {i : Nat} (hi : i < xs.length) : Lib.hasPrefix r (nm xs i) = std xs r i := by
  have hne : nm xs i ≠ [] := by rw [nm_lt hi]; exact hL.ne _ (List.getElem_mem hi)
  have h1 : Lib.hasPrefix r (nm xs i) = true ↔ nm xs i <+: r := by
    unfold Lib.hasPrefix
    simp
  rw [Bool.eq_iff_iff, h1, std_iff]
  exact ⟨fun h => ⟨hne, h⟩, fun h => h.2⟩
theorem trimPrefix_std {xs : List (List UInt8)} {r : List UInt8} {i : Nat} (h : std xs r i = true) : Lib.trimPrefix r (nm xs i) = r.drop (nm xs i).length := by
  obtain ⟨t, ht⟩ := (std_iff.1 h).2
  unfold Lib.trimPrefix Lib.hasPrefix
  subst ht
  simp
/-- what Split answers -/
def SplitPost (xs : List (List UInt8)) (s : ByteArray) (w : World) (e : Ending) (w' : World) : Prop :=
  Below w.heap.size w w' ∧ match splitL xs (bl s) with
    | .good l => ∃ v, e = .returned (.tuple #[v, .int .i64 0, .int .i64 0]) ∧ w'.ownsRow w.heap.size 3 1 v l.length (ints l)
    | .bad left er => e = .returned (.tuple #[.slice none 0 0, .int .i64 ((s.size : Int) - left), .int .i64 er])

theorem find_at {o : List Nat} {q : Nat → Bool} {k : Nat} (hk : k < o.length) (h : ∀ j, j < k → q (o.getD j 0) = false) (h2 : q (o[k]'hk) = true) : o.find? q = some (o[k]'hk) := by
  have e : o = o.take k ++ (o[k]'hk) :: o.drop (k + 1) := by rw [← List.drop_eq_getElem_cons hk, List.take_append_drop]
  rw [List.find?_eq_some_iff_append]
  refine ⟨h2, o.take k, o.drop (k + 1), e, fun a ha => ?_⟩
  obtain ⟨n, hn, rfl⟩ := List.getElem_of_mem ha
  rw [List.length_take] at hn
  have := h n (by omega)
  rw [List.getD_eq_getElem?_getD, List.getElem?_eq_getElem (by omega)] at this
  rw [List.getElem_take]
  simpa using this
theorem find_none {o : List Nat} {q : Nat → Bool} (h : ∀ j, j < o.length → q (o.getD j 0) = false) : o.find? q = none := by
  rw [List.find?_eq_none]
  intro a ha
  obtain ⟨n, hn, rfl⟩ := List.getElem_of_mem ha
  have := h n hn
  rw [List.getD_eq_getElem?_getD, List.getElem?_eq_getElem hn] at this
  simpa using this

/-- what holds ahead of each letter of Split -/
def SplitJ (p : Nat) (xs : List (List UInt8)) (s : ByteArray) (w : World) (a' : Act) (w' : World) : Prop :=
  ∃ (acc : List Nat) (lv : Value) (r : List UInt8) (u9 u10 u11 u12 u13 u14 u15 u16 u17 u18 u19 u20 u21 u22 u23 u24 u25 u26 u27 u28 u29 u30 u31 u32 u33 u34 u35 u36 u37 u38 u39 u40 u41 u42 u43 u44 u45 u46 u47 u48 u49 u50 u51 u52 u53 u54 u55 : Value), a' = { tmps := #[.pointer (some ⟨p, 0, none⟩), .string s, undef, undef, .slice none 0 0, .int .i64 0, .int .i64 0, lv, .string ⟨r.toArray⟩, u9, u10, u11, u12, u13, u14, u15, u16, u17, u18, u19, u20, u21, u22, u23, u24, u25, u26, u27, u28, u29, u30, u31, u32, u33, u34, u35, u36, u37, u38, u39, u40, u41, u42, u43, u44, u45, u46, u47, u48, u49, u50, u51, u52, u53, u54, u55], defers := [] } ∧
      w'.ownsRow w.heap.size 3 1 lv acc.length (ints acc) ∧ Below w.heap.size w w' ∧ Hid (splitF xs (32 - acc.length) r acc = splitL xs (bl s)) ∧ acc.length ≤ 32 ∧ r.length ≤ s.size
def splitMu (a' : Act) : Nat := match a'.tmps.getD 7 undef with | .slice _ n _ => 33 - n | _ => 0

set_option maxHeartbeats 8000000 in
set_option maxRecDepth 100000 in
theorem Split_any {B p : Nat} {xs : List (List UInt8)} {o : List Nat} {w : World} (h : AlphAt B p xs o w) (hL : Lets xs) (hO : Ord xs o) (s : ByteArray) (hn : xs.length ≤ 1000) (hs : s.size ≤ 17592186044416) :
    Calls Try.prog 56 #[.pointer (some ⟨p, 0, none⟩), .string s] w (SplitPost xs s w) := by
  obtain ⟨i0, hi, hz0, hz1, hz2⟩ := info_parts infoInt
  obtain ⟨sl, rfl⟩ : ∃ sl : List UInt8, s = ⟨sl.toArray⟩ := ⟨bl s, (bl_roundtrip s).symm⟩
  have hssz : (⟨sl.toArray⟩ : ByteArray).size = sl.length := by rw [← bl_length]
  have HSZ := Lib.hid hssz; clear hssz
  have HA := Lib.hid h; have HL := Lib.hid hL; have HO := Lib.hid hO
  clear h hL hO
  go_enter Try.func56, Try.ntmps56
  go_wp2
  refine wp_scope_entry 0 (SplitJ p xs ⟨sl.toArray⟩ w) (fun a' _ => splitMu a') rfl ?_ ?_
  · intro hk
    have HKK := Lib.hid hk; clear hk
    go_wp2
    go_step3
    rename_i K hK
    simp only [Exit.then]
    refine hK _ _ (HKK.out _ _ ⟨[], _, sl, _, _, _, _, _, _, _, _, _, _, _, _, _, _, _, _, _, _, _, _, _, _, _, _, _, _, _, _, _, _, _, _, _, _, _, _, _, _, _, _, _, _, _, _, _, _, _, rfl, World.ownsRow_nil _ _ _ _, Below.refl _ _, Lib.hid rfl, by simp, by rw [HSZ.out]; exact Nat.le_refl _⟩)
  · rintro a' w' ⟨acc, lv, r, u9, u10, u11, u12, u13, u14, u15, u16, u17, u18, u19, u20, u21, u22, u23, u24, u25, u26, u27, u28, u29, u30, u31, u32, u33, u34, u35, u36, u37, u38, u39, u40, u41, u42, u43, u44, u45, u46, u47, u48, u49, u50, u51, u52, u53, u54, u55, rfl, hown, hbw, hsp, hal, hrl⟩
    have hsw := hbw.size
    obtain ⟨Al, cl, rfl⟩ := own_form hown
    rw [HSZ.out] at hrl
    have hsl2 : sl.length ≤ 17592186044416 := by rw [← HSZ.out]; exact hs
    have hsr : (⟨r.toArray⟩ : ByteArray).size = r.length := by rw [← bl_length]
    have HSR := Lib.hid hsr; clear hsr
    cases hr : r.isEmpty with
    | true =>
      have hr0 : r = [] := by simpa using hr
      have hg : splitL xs sl = .good acc := by rw [← hsp.out, hr0, splitF_nil]
      have HG := Lib.hid hg; have HR := Lib.hid hr0; clear hg hr0
      go_wp2
      simp only [Exit.jump]
      go_ret3
      unfold SplitPost
      rw [HG.out]
      exact ⟨hbw, _, rfl, hown⟩
    | false =>
      have hr0 : r ≠ [] := by intro e; rw [e] at hr; simp at hr
      by_cases h32 : acc.length = 32
      · have hg : splitL xs sl = .bad r.length 34 := by rw [← hsp.out, h32]; exact splitF_zero xs hr0 acc
        have HG := Lib.hid hg; have HR := Lib.hid hr0; clear hg hr0
        have t1 : ((acc.length : Int) == 32) = true := by rw [beq_iff_eq]; omega
        have H32 := Lib.hid h32; clear h32
        go_wp2
        simp only [Exit.jump]
        go_ret3
        unfold SplitPost
        rw [HG.out]
        exact ⟨hbw, by rw [HSZ.out]; rfl⟩
      · have t1 : ((acc.length : Int) == 32) = false := by simp; omega
        obtain ⟨f, hf⟩ : ∃ f, 32 - acc.length = f + 1 := ⟨31 - acc.length, by omega⟩
        have HSP : Hid (splitF xs (f + 1) r acc = splitL xs sl) := Lib.hid (by rw [← hf]; exact hsp.out)
        have HF := Lib.hid hf; have HR := Lib.hid hr0; clear hf hr0 h32 hsp
        have hA2 := HA.out.below (hbw.mono HA.out.hB)
        have cO := order_any hA2
        obtain ⟨A, cn, hc1, hc2⟩ := hA2.nms
        have hol : o.length = xs.length := by rw [HO.out.perm.length_eq, List.length_range]
        have CO := Lib.hid cO; have HOL := Lib.hid hol; have HN2 := Lib.hid hc2; have HA2 := Lib.hid hA2
        clear cO hol hc2 hA2
        have hoN : o.length ≤ 1000 := by rw [HOL.out]; exact hn
        go_wp2_with (go_at_call 89; refine CO.out.mono ?_; rintro e w2 ⟨⟨Ao, co, rfl, hso⟩, rfl⟩)
        have HSO := Lib.hid hso; clear hso
        go_loopg [7, 8, 10, 11, 12, 28] o.length (fun gf u7 u8 _ _ _ u28 wr => ∃ k : Nat, u28 = .int .i64 k ∧ u7 = .slice Al acc.length cl ∧ u8 = .string ⟨r.toArray⟩ ∧ k ≤ o.length ∧ o.length ≤ k + gf ∧ wr = w' ∧ Hid (∀ j, j < k → std xs r (o.getD j 0) = false))
        case atStart => exact ⟨0, rfl, rfl, rfl, Nat.zero_le _, by omega, rfl, fun j hj => by omega⟩
        case round =>
          obtain ⟨k, rfl, rfl, rfl, hk, hfu, rfl, hno⟩ := hrel
          by_cases hlt : k < o.length
          · obtain ⟨g', rfl⟩ : ∃ g', gk = g' + 1 := ⟨gk - 1, by omega⟩
            obtain ⟨bo, oo, e0, _, hcl⟩ := HSO.out.addr (by omega)
            have g1 := hcl k _ (by rw [List.getElem?_map, List.getElem?_eq_getElem hlt]; rfl)
            obtain rfl := e0
            clear hcl
            have hil : o[k]'hlt < xs.length := by
              have := HO.out.perm.mem_iff.1 (List.getElem_mem hlt)
              exact List.mem_range.1 this
            have hoi : o.getD k 0 = o[k]'hlt := by rw [List.getD_eq_getElem?_getD, List.getElem?_eq_getElem hlt]; rfl
            have hfind := fun h2 => find_at (q := std xs r) hlt hno.out h2
            have HFD := Lib.hid hfind; have HOI := Lib.hid hoi
            clear hfind hoi
            generalize o[k]'hlt = i at *
            obtain ⟨bn, on, e0, _, hcl⟩ := HN2.out.addr (by omega)
            have g2 := hcl i _ (by rw [List.getElem?_map, List.getElem?_eq_getElem hil]; rfl)
            obtain rfl := e0
            clear hcl
            have hnm := nm_lt hil
            rw [← hnm] at g2
            have hcp := fun W => (Try.strings_CutPrefix ⟨r.toArray⟩ ⟨(nm xs i).toArray⟩ W).mono fun e w'' h9 => (⟨h9.1, h9.2.symm⟩ : _ ∧ W = w'')
            have e1 : Lib.hasPrefix (⟨r.toArray⟩ : ByteArray).data.toList (⟨(nm xs i).toArray⟩ : ByteArray).data.toList = std xs r i := hasPrefix_std HL.out r hil
            rw [e1] at hcp
            have hnl : 1 ≤ (nm xs i).length := by rw [hnm]; exact List.length_pos_iff.2 (HL.out.ne _ (List.getElem_mem hil))
            have hst0 : std xs r i = true → bestL xs r = some i := fun hs => by rw [← first_bestL HL.out HO.out r]; exact HFD.out hs
            have HST := Lib.hid hst0
            have htr : std xs r i = true → Lib.trimPrefix (⟨r.toArray⟩ : ByteArray).data.toList (⟨(nm xs i).toArray⟩ : ByteArray).data.toList = r.drop (nm xs i).length := fun hs => trimPrefix_std hs
            have HNM : Hid (nm xs i = nm xs i) := rfl
            have HTR := Lib.hid htr
            clear e1 hst0 htr hnm
            have i0' : (0 : Int) ≤ (k : Int) := by omega
            have i1 : (k : Int) < (o.length : Int) := by omega
            have j0 : (0 : Int) ≤ (i : Int) := by omega
            have j1 : (i : Int) < (xs.length : Int) := by omega
            generalize hT : Lib.trimPrefix (⟨r.toArray⟩ : ByteArray).data.toList (⟨(nm xs i).toArray⟩ : ByteArray).data.toList = T at *
            have HT := Lib.hid hT; clear hT
            have CP := Lib.hid hcp; clear hcp
            cases hsd : std xs r i with
            | true =>
              rw [hsd] at CP HST HTR
              have hbest := HST.out rfl
              have hsplit : splitF xs f (r.drop (nm xs i).length) (acc ++ [i]) = splitL xs sl := by rw [← HSP.out, splitF_some xs f HR.out acc hbest]
              have hTT := HTR.out rfl
              have HS2 : Hid (splitF xs (32 - (acc ++ [i]).length) T (acc ++ [i]) = splitL xs sl) := Lib.hid (by rw [← hsplit, hTT]; congr 1; rw [List.length_append, List.length_singleton]; have := HF.out; omega)
              have hTl : T.length ≤ sl.length := by rw [hTT, List.length_drop]; omega
              have hacc : acc.length ≤ 31 := by have := HF.out; omega
              have Hsd := Lib.hid hsd; clear hsd hbest hsplit hTT
              generalize nm xs i = nmi at *
              go_wp2_with (first
                | (go_at_call 90; refine (CP.out _).mono ?_; rintro e w3 ⟨rfl, rfl⟩)
                | (at_builtin; refine wpList_append_own_at _ rfl (.tmp 45) (.tmp 47) 35 rfl w.heap.size 3 i0 (.int .i64 0) 1 8 Try.underlying35 hi hz0 hz1 hz2 rfl (by decide) _ _ _ rfl (hown.alloc _) ⟨wr.heap.size, 0, none⟩ 1 1 [.int .i64 (i : Int)] rfl rfl (cell_one_new _ _ _) (by simp [Value.oneCell']) (by unfold maxLen; omega) (by omega) (by simp only [World.size_alloc]; omega) ?_; intro v' w4 hown4 hg4 _ _; obtain ⟨A4, c4, rfl⟩ := own_form hown4))
              go_step3
              have hbw4 : Below w.heap.size w w4 := ((hbw.alloc hsw (.cells #[.int .i64 (i : Int)] 3)).grown hg4 (by simp only [World.size_alloc]; omega) (fun j hj => (hown.lt j hj).1))
              refine ⟨rfl, ⟨acc ++ [i], _, T, _, _, _, _, _, _, _, _, _, _, _, _, _, _, _, _, _, _, _, _, _, _, _, _, _, _, _, _, _, _, _, _, _, _, _, _, _, _, _, _, _, _, _, _, _, _, _, rfl, ?_, hbw4, HS2, by rw [List.length_append, List.length_singleton]; omega, by rw [HSZ.out]; exact hTl⟩, ?_⟩
              · rw [List.length_append, List.length_singleton, ints, List.map_append]; exact hown4
              · show 33 - (acc.length + 1) < 33 - acc.length
                omega
            | false =>
              rw [hsd] at CP
              have hno2 : Hid (∀ j, j < k + 1 → std xs r (o.getD j 0) = false) := Lib.hid (fun j hj => by
                rcases Nat.lt_or_ge j k with h1 | h1
                · exact hno.out j h1
                · obtain rfl : j = k := by omega
                  rw [HOI.out]; exact hsd)
              have Hsd := Lib.hid hsd; clear hsd
              generalize nm xs i = nmi at *
              go_wp2_with (go_at_call 90; refine (CP.out _).mono ?_; rintro e w3 ⟨rfl, rfl⟩)
              go_roundg g'
              case measure => omega
              case rel => exact ⟨k + 1, by go_num, rfl, rfl, by omega, by omega, rfl, hno2⟩
          · obtain rfl : o.length = k := by omega
            have hg : splitL xs sl = .bad r.length 33 := by
              rw [← HSP.out]
              refine splitF_none xs f HR.out acc ?_
              rw [← first_bestL HL.out HO.out r]
              exact find_none hno.out
            have HG := Lib.hid hg; clear hg
            go_wp2
            simp only [Exit.jump]
            go_ret3
            unfold SplitPost
            rw [HG.out]
            exact ⟨hbw, by rw [HSZ.out]; rfl⟩
end Go.Proofs.Ytlkabghpcjlohaa
