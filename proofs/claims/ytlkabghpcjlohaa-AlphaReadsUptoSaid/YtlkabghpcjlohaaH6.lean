/- The reference of layer 3: right, Number, New; the statements' own 'awake' and 'lent'. -/
import Derived.Test.YtlkabghpcjlohaaH2
import Derived.Test.YtlkabghpcjlohaaH4
import Derived.Test.YtlkabghpcjlohaaG0
import Derived.Test.YtlkabghpcjlohaaG5
import Derived.BigQuiet
import Derived.Laws.MakeOwn
namespace Go.Proofs.Ytlkabghpcjlohaa
set_option linter.unusedVariables false
set_option linter.unusedSimpArgs false
open Go.RowKit Go.Lib Go.Maps Go.Shelf Go.WideMaps

set_option maxHeartbeats 4000000 in
set_option maxRecDepth 100000 in
theorem refRight_any (s : ByteArray) (w : World) (hs : s.size ≤ 17592186044416) :
    Calls Try.prog 86 #[.string s] w fun e w' => e = .returned (.bool (rightL (bl s))) ∧ Below w.heap.size w w' := by
  have CR := Lib.hid (fun W => refRunes_any s W hs)
  have hle := chop_length_le (bl s)
  rw [bl_length, ← runes_length] at hle
  have hrl := runes_rune_le (bl s)
  have hT : ∃ T, T = rightL (bl s) := ⟨_, rfl⟩
  obtain ⟨T, hT⟩ := hT
  rw [← hT]
  have hT2 : T = (decide (1 ≤ (runes (bl s)).length ∧ (runes (bl s)).length ≤ 3) && rightR (runes (bl s))) := hT
  clear hT
  generalize runes (bl s) = rs at *
  have HT := Lib.hid hT2; have HRL := Lib.hid hrl; clear hT2 hrl
  by_cases hn : 1 ≤ rs.length ∧ rs.length ≤ 3
  · have hT2 : T = rightR rs := by rw [HT.out, decide_eq_true hn]; rfl
    have HT2 := Lib.hid hT2; clear hT2
    obtain ⟨hn1, hn2⟩ := hn
    have t1 : ¬ (rs.length : Int) < 1 := by omega
    have t2 : ¬ (3 : Int) < (rs.length : Int) := by omega
    go_enter Try.func86, Try.ntmps86
    go_wp2_with (go_at_call 79; refine (CR.out _).mono ?_; rintro e w1 ⟨v, rfl, hown, hb1⟩; obtain ⟨A, c, rfl⟩ := own_form hown)
    have hs1 := hb1.size
    have hsl := Lib.hid (Sl.of_own hown)
    go_loopg [4] rs.length (fun gf u4 wr => ∃ k : Nat, u4 = .int .i64 k ∧ k ≤ rs.length ∧ rs.length ≤ k + gf ∧ Below w1.heap.size w1 wr ∧ Hid (rightR (rs.drop k) = T))
    case atStart => exact ⟨0, rfl, Nat.zero_le _, by omega, Below.refl _ _, by rw [List.drop_zero]; exact HT2.out.symm⟩
    case round =>
      obtain ⟨k, rfl, hk, hfu, hbw, hx⟩ := hrel
      by_cases hlt : k < rs.length
      · obtain ⟨g', rfl⟩ : ∃ g', gk = g' + 1 := ⟨gk - 1, by omega⟩
        obtain ⟨bo, oo, e0, _, hcl⟩ := (hsl.out.below hbw).addr (by omega)
        have g1 := hcl k _ (by rw [List.getElem?_map, List.getElem?_eq_getElem hlt]; rfl)
        obtain rfl := e0
        clear hcl
        have hr := HRL.out _ (List.getElem_mem hlt)
        have hst : rightR (rs.drop k) = (decide (cls ((rs[k]'hlt : Nat) : Int) = 1) && decide (upr ((rs[k]'hlt : Nat) : Int) = ((rs[k]'hlt : Nat) : Int)) && rightR (rs.drop (k + 1))) := by
          unfold rightR; rw [List.drop_eq_getElem_cons hlt, List.all_cons]
        have cK := fun W => refClass_any ((rs[k]'hlt : Nat) : Int) W (by omega) (by omega)
        have cU := fun W => refUpper_any ((rs[k]'hlt : Nat) : Int) W (by omega) (by omega)
        have HX := Lib.hid (hst.symm.trans hx.out)
        clear hst hr
        generalize rs[k]'hlt = r at *
        generalize hq : cls (r : Int) = q at *
        generalize hu : upr (r : Int) = u at *
        have HQ := Lib.hid hq; have HU := Lib.hid hu; clear hq hu
        have CK := Lib.hid cK; have CU := Lib.hid cU; clear cK cU
        have i0' : (0 : Int) ≤ (k : Int) := by omega
        have i1 : (k : Int) < (rs.length : Int) := by omega
        by_cases h1 : q = 1
        · have t3 : (q != 1) = false := by simp [h1]
          by_cases h2 : u = (r : Int)
          · have t4 : (u != (r : Int)) = false := by simp [h2]
            have hx2 : Hid (rightR (rs.drop (k + 1)) = T) := Lib.hid (by have := HX.out; simpa [h1, h2] using this)
            clear h1 h2 hx
            go_wp2
            go_quiet ((first | (go_at_call 34; exact Calls.quiet_of_same ((CK.out _).mono fun e w' h => ⟨h.1, h.2.symm⟩)) | (go_at_call 36; exact Calls.quiet_of_same ((CU.out _).mono fun e w' h => ⟨h.1, h.2.symm⟩))))
            go_wp2
            go_roundg g'
            case measure => omega
            case rel => exact ⟨k + 1, by go_num, by omega, by omega, bdraw hbw _, hx2⟩
          · have t4 : (u != (r : Int)) = true := by simp [h2]
            have hx2 : T = false := by have := HX.out; simpa [h2] using this.symm
            have HX2 := Lib.hid hx2; clear hx2 h1 h2 hx
            go_wp2
            go_quiet ((first | (go_at_call 34; exact Calls.quiet_of_same ((CK.out _).mono fun e w' h => ⟨h.1, h.2.symm⟩)) | (go_at_call 36; exact Calls.quiet_of_same ((CU.out _).mono fun e w' h => ⟨h.1, h.2.symm⟩))))
            go_wp2
            go_ret
            exact ⟨ret_b HX2.out.symm, hb1.trans ((bdraw hbw _).mono hs1)⟩
        · have t3 : (q != 1) = true := by simp [h1]
          have hx2 : T = false := by have := HX.out; simpa [h1] using this.symm
          have HX2 := Lib.hid hx2; clear hx2 h1 hx
          go_wp2
          go_quiet ((first | (go_at_call 34; exact Calls.quiet_of_same ((CK.out _).mono fun e w' h => ⟨h.1, h.2.symm⟩))))
          go_wp2
          go_ret
          exact ⟨ret_b HX2.out.symm, hb1.trans ((bdraw hbw _).mono hs1)⟩
      · obtain rfl : rs.length = k := by omega
        have hx2 : T = true := by rw [← hx.out, List.drop_length]; rfl
        have HX2 := Lib.hid hx2; clear hx2 hx
        go_wp2
        go_ret
        exact ⟨ret_b HX2.out.symm, hb1.trans (hbw.mono hs1)⟩
  · have hT2 : T = false := by rw [HT.out, decide_eq_false hn]; rfl
    have HT2 := Lib.hid hT2; clear hT2
    rcases Nat.lt_or_ge rs.length 1 with h1 | h1
    · have t1 : (rs.length : Int) < 1 := by omega
      go_enter Try.func86, Try.ntmps86
      go_wp2_with (go_at_call 79; refine (CR.out _).mono ?_; rintro e w1 ⟨v, rfl, hown, hb1⟩; obtain ⟨A, c, rfl⟩ := own_form hown)
      go_ret
      exact ⟨ret_b HT2.out.symm, hb1⟩
    · have t1 : ¬ (rs.length : Int) < 1 := by omega
      have t2 : (3 : Int) < (rs.length : Int) := by omega
      go_enter Try.func86, Try.ntmps86
      go_wp2_with (go_at_call 79; refine (CR.out _).mono ?_; rintro e w1 ⟨v, rfl, hown, hb1⟩; obtain ⟨A, c, rfl⟩ := own_form hown)
      go_ret
      exact ⟨ret_b HT2.out.symm, hb1⟩


/-- the first place of a text -/
def numF : List (List UInt8) → List UInt8 → Nat → Nat
  | [], _, _ => 0
  | x :: t, s, k => if x = s then k else numF t s (k + 1)

set_option maxHeartbeats 4000000 in
set_option maxRecDepth 100000 in
theorem refNumber_any (v : Value) (xs : List (List UInt8)) (s : List UInt8) (B : Nat) (w : World) (hv : Sl w B v (strs xs)) (hn : xs.length ≤ 17592186044416) :
    Calls Try.prog 87 #[v, .string ⟨s.toArray⟩] w fun e w' => e = .returned (.tuple #[.int .i64 (numF xs s 0 : Nat), .bool (decide (s ∈ xs))]) ∧ w = w' := by
  have hv0 := hv
  obtain ⟨A, c, rfl, hc, hA⟩ := hv
  rw [List.length_map] at hv0 ⊢
  clear hc hA
  have HV := Lib.hid hv0; clear hv0
  go_enter Try.func87, Try.ntmps87
  go_wp2
  go_loopg [6] xs.length (fun gf u6 wr => ∃ k : Nat, u6 = .int .i64 k ∧ k ≤ xs.length ∧ xs.length ≤ k + gf ∧ wr = w ∧ Hid (s ∉ xs.take k ∧ numF (xs.drop k) s k = numF xs s 0))
  case atStart => exact ⟨0, rfl, Nat.zero_le _, by omega, rfl, Lib.hid (by simp)⟩
  case round =>
    obtain ⟨k, rfl, hk, hfu, rfl, hno⟩ := hrel
    by_cases hlt : k < xs.length
    · obtain ⟨g', rfl⟩ : ∃ g', gk = g' + 1 := ⟨gk - 1, by omega⟩
      obtain ⟨bo, oo, e0, _, hcl⟩ := HV.out.addr (by omega)
      have g1 := hcl k _ (by rw [List.getElem?_map, List.getElem?_eq_getElem hlt]; rfl)
      obtain rfl := e0
      clear hcl
      have hmem : xs[k]'hlt ∈ xs := List.getElem_mem hlt
      have htk : xs.take (k + 1) = xs.take k ++ [xs[k]'hlt] := List.take_succ_eq_append_getElem hlt
      have hnf := hno.out.2
      rw [List.drop_eq_getElem_cons hlt, numF] at hnf
      have HM := Lib.hid hmem; have HTK := Lib.hid htk; have HNF := Lib.hid hnf; clear hmem htk hnf
      generalize xs[k]'hlt = x at *
      have i0' : (0 : Int) ≤ (k : Int) := by omega
      have i1 : (k : Int) < (xs.length : Int) := by omega
      by_cases he : x = s
      · subst he
        have hd : decide (x ∈ xs) = true := decide_eq_true HM.out
        have HD := Lib.hid hd; clear hd
        go_wp2
        go_ret2
        have e5 : k = numF xs x 0 := by have := HNF.out; simpa using this
        exact ⟨by rw [HD.out, ← e5]; rfl, rfl⟩
      · have hno2 : Hid (s ∉ xs.take (k + 1) ∧ numF (xs.drop (k + 1)) s (k + 1) = numF xs s 0) := Lib.hid (by
          refine ⟨?_, by have e5 := HNF.out; rw [if_neg he] at e5; exact e5⟩
          rw [HTK.out, List.mem_append, List.mem_singleton]
          rintro (h | h)
          · exact hno.out.1 h
          · exact he h.symm)
        have hne2 : decide (x = s) = false := decide_eq_false he
        have hne3 : (x == s) = false := by simpa using he
        clear he
        go_wp2
        go_roundg g'
        case measure => omega
        case rel => exact ⟨k + 1, by go_num, by omega, by omega, rfl, hno2⟩
    · obtain rfl : xs.length = k := by omega
      have hd : decide (s ∈ xs) = false := decide_eq_false (by have := hno.out.1; rwa [List.take_length] at this)
      have hz := hno.out.2
      rw [List.drop_length, numF] at hz
      have HZ := Lib.hid hz; clear hz
      have HD := Lib.hid hd; clear hd hno
      go_wp2
      go_ret2
      exact ⟨by rw [HD.out, ← HZ.out]; rfl, rfl⟩
end Go.Proofs.Ytlkabghpcjlohaa
