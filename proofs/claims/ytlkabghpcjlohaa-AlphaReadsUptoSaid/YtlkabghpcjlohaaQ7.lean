/- slices' insertionSortCmpFunc, stableCmpFunc and SortStableFunc at a []int of the call's own with at most 40 numbers. -/
import Derived.Test.YtlkabghpcjlohaaQ6
namespace Go.Proofs.Ytlkabghpcjlohaa
set_option linter.unusedVariables false
set_option linter.unusedSimpArgs false
open Go.Shelf Go.RowKit Go.Lib Go.Sort

theorem merges_all (cb : Array Value) (f : Nat → Int) (N blk off cap size : Nat) (d0 : Array Nat) (w0 : World) (R : Row1 encN w0 blk off d0) (hs : d0.size = size) (hC : CmpOk cb f N blk off size w0) (hsz : size ≤ 1000) : ∀ n, Merges cb f N blk off cap size w0 n
  | 0 => fun a m b d w P A B T hds S hd ha hm hb hA1 hB1 hA hB hAN hBN hn => by
    simp only [List.length_append] at hm hb
    omega
  | n + 1 => fun a m b d w P A B T hds S hd ha hm hb hA1 hB1 hA hB hAN hBN hn => by
    have hm' := hm; have hb' := hb
    simp only [List.length_append] at hm' hb'
    subst hds
    rcases Nat.lt_or_ge 1 A.length with hA2 | hA2
    · rcases Nat.lt_or_ge 1 B.length with hB2 | hB2
      · exact symMerge_step cb f N blk off cap d.size d0 w0 R hs hC hsz n (merges_all cb f N blk off cap d.size d0 w0 R hs hC hsz n) a m b d w P A B T rfl S hd ha hm hb hA2 hB2 hA hB hAN hBN hn
      · obtain ⟨y, rfl⟩ : ∃ y, B = [y] := List.length_eq_one_iff.1 (by omega)
        have h := symMerge_last cb f N blk off cap a m d0 d w0 w R hs hC S P A T y hd ha hm hA hA2 (hBN y (by simp)) hAN hsz
        have e : (m : Int) + 1 = (b : Int) := by rw [List.length_singleton] at hb'; omega
        rw [e] at h
        exact h
    · obtain ⟨x, rfl⟩ : ∃ x, A = [x] := List.length_eq_one_iff.1 (by omega)
      have h := symMerge_one cb f N blk off cap a b d0 d w0 w R hs hC S P B T x hd ha hb hB hB1 (hAN x (by simp)) hBN hsz
      have e : (a : Int) + 1 = (m : Int) := by rw [List.length_singleton] at hm'; omega
      rw [e] at h
      exact h

theorem swapsDn_low (d : Array Nat) (m : Nat) : ∀ n k, n ≤ m → k < m - n → (swapsDn d m n)[k]! = d[k]!
  | 0, k, _, _ => rfl
  | n + 1, k, h, hk => by
    rw [swapsDn, swp_other _ _ _ _ (by omega) (by omega)]
    exact swapsDn_low d m n k (by omega) (by omega)
theorem swapsDn_at (d : Array Nat) (m : Nat) (hm : m < d.size) : ∀ n, n ≤ m → (swapsDn d m n)[m - n]! = d[m]!
  | 0, _ => rfl
  | n + 1, h => by
    rw [swapsDn, show m - (n + 1) = m - n - 1 by omega, swp_right _ _ _ (by rw [swapsDn_size]; omega)]
    exact swapsDn_at d m hm n (by omega)

set_option maxHeartbeats 16000000 in
set_option maxRecDepth 100000 in
theorem insertion_s (cb : Array Value) (f : Nat → Int) (N blk off cap a b size : Nat) (d0 d : Array Nat) (w0 w : World) (R : Row1 encN w0 blk off d0) (hs : d0.size = size) (hds : d.size = size) (hC : CmpOk cb f N blk off size w0) (S : SW encN w0 blk off d w)
    (P A T : List Nat) (hd : d.toList = P ++ A ++ T) (ha : P.length = a) (hb : (P ++ A).length = b) (hN : ∀ y ∈ A, y < N) (hsz : size ≤ 1000) :
    Calls Try.prog 114 #[.slice (some ⟨blk, off, none⟩) size cap, .int .i64 a, .int .i64 b, .func (.func 85) #[] cb] w fun e w' => e = .returned (.tuple #[]) ∧
      ∃ (d' : Array Nat) (C : List Nat), d'.size = size ∧ SW encN w0 blk off d' w' ∧ d'.toList = P ++ C ++ T ∧ C.Perm A ∧ srt f C := by
  have S0 : Aside (SW encN w0 blk off d w) := S
  have mixed : Try.prog.follows .mixedOrders = true := by kernel_rfl
  clear S
  have hlen : d.size = P.length + A.length + T.length := by rw [← Array.length_toList, hd]; simp only [List.length_append]
  simp only [List.length_append] at hb
  have hbs : b ≤ size := by omega
  have hab : a ≤ b := by omega
  -- what is known of a stretch that is in order up to i
  have sg : ∀ (i : Nat) (dk : Array Nat) (C : List Nat), dk.toList = P ++ C ++ A.drop (i - a) ++ T → C.length = i - a → (∀ k, a ≤ k → k < i → dk[k]! = C.getD (k - a) 0) ∧ (i < b → a ≤ i → dk[i]! = A.getD (i - a) 0) := by
    intro i dk C e hl
    refine ⟨fun k h0 h1 => ?_, fun h1 h0 => ?_⟩
    · rw [seg_get (P := P) (A := C) (T := A.drop (i - a) ++ T) (by rw [e]; simp) (k := k) (by omega) (by omega), ha]
    · rw [seg_get (P := P ++ C) (A := A.drop (i - a)) (T := T) e (k := i) (by simp; omega) (by simp; omega)]
      rw [List.length_append, show i - (P.length + C.length) = 0 by omega, List.getD_eq_getElem?_getD, List.getD_eq_getElem?_getD, List.getElem?_drop]
      congr 2
  have HR := Lib.hid R; have HC := Lib.hid hC; have HS := Lib.hid hs; have HDS := Lib.hid hds; have HD := Lib.hid hd; have HA := Lib.hid ha; have HB := Lib.hid hb; have HL := Lib.hid hlen; have HN := Lib.hid hN; have SG := Lib.hid sg
  have hin : Hid (∃ C, d.toList = P ++ C ++ A.drop (a + 1 - a) ++ T ∧ C.Perm (A.take (a + 1 - a)) ∧ srt f C ∧ C.length = min (a + 1 - a) A.length) := by
    refine ⟨A.take (a + 1 - a), ?_, List.Perm.refl _, ?_, by rw [List.length_take]⟩
    · rw [hd, show P ++ A.take (a + 1 - a) ++ A.drop (a + 1 - a) ++ T = P ++ (A.take (a + 1 - a) ++ A.drop (a + 1 - a)) ++ T by simp, List.take_append_drop]
    · rw [show a + 1 - a = 1 by omega]
      cases A with
      | nil => exact List.Pairwise.nil
      | cons x t => exact List.pairwise_singleton _ _
  clear R hC hs hds hd ha hb hlen hN sg
  go_enter Try.func114, Try.ntmps114
  go_wp2
  go_loopg [8, 9] (b - a) (fun g1 vi _ wr => ∃ (i : Nat) (dk : Array Nat), vi = .int .i64 i ∧ a < i ∧ i ≤ b + 1 ∧ b + 1 - i ≤ g1 + 1 ∧ dk.size = size ∧ Aside (SW encN w0 blk off dk wr) ∧ Hid (∃ C, dk.toList = P ++ C ++ A.drop (i - a) ++ T ∧ C.Perm (A.take (i - a)) ∧ srt f C ∧ C.length = min (i - a) A.length))
  case atStart => exact ⟨a + 1, d, by go_num, by omega, by omega, by omega, HDS.out, S0, hin⟩
  case round =>
    clear S0 hin
    obtain ⟨i, dk, rfl, hai, hib, hg1, hsk, S1, HO⟩ := hrel
    have HK := Lib.hid hsk; clear hsk
    by_cases hlt : i < b
    · have hltz : (i : Int) < (b : Int) := by omega
      have hmono : ∀ k j, a ≤ k → k ≤ j → j < i → f dk[k]! ≤ f dk[j]! := by
        obtain ⟨C, e1, e2, e3, e4⟩ := HO
        have hl : C.length = i - a := by have := HB.out; have := HA.out; omega
        have hg := (SG.out i dk C e1 hl).1
        intro k j h0 h1 h2
        rw [hg k h0 (by omega), hg j (by omega) h2]
        exact srt_get e3 (by omega) (by omega)
      have hlow : ∀ k, a ≤ k → k ≤ i → dk[k]! < N := by
        obtain ⟨C, e1, e2, e3, e4⟩ := HO
        have hl : C.length = i - a := by have := HB.out; have := HA.out; omega
        have hg := SG.out i dk C e1 hl
        intro k h0 h1
        rcases Nat.lt_or_ge k i with h | h
        · rw [hg.1 k h0 h, List.getD_eq_getElem?_getD, List.getElem?_eq_getElem (by omega)]
          exact HN.out _ (List.mem_of_mem_take (e2.mem_iff.1 (List.getElem_mem (by omega))))
        · obtain rfl : k = i := by omega
          rw [hg.2 hlt (by omega)]
          have hlt2 : k - a < A.length := by have := HB.out; have := HA.out; omega
          rw [List.getD_eq_getElem?_getD, List.getElem?_eq_getElem hlt2]
          exact HN.out _ (List.getElem_mem hlt2)
      have HM := Lib.hid hmono; have HW := Lib.hid hlow; clear hmono hlow
      obtain ⟨x, hx⟩ : ∃ x, x = dk[i]! := ⟨_, rfl⟩
      have HX := Lib.hid hx
      have hxN : x < N := by rw [hx]; exact HW.out i (by omega) (by omega)
      clear hx
      go_wp2
      go_loopg [9] i (fun g2 vj wr2 => ∃ (j : Nat), vj = .int .i64 j ∧ a ≤ j ∧ j ≤ i ∧ j ≤ g2 ∧ Aside (SW encN w0 blk off (swapsDn dk i (i - j)) wr2) ∧ Hid (∀ k, j ≤ k → k < i → f x < f dk[k]!))
      case atStart => exact ⟨i, rfl, by omega, Nat.le_refl _, Nat.le_refl _, by rw [Nat.sub_self]; exact S1, fun k h0 h1 => by omega⟩
      case round =>
        clear S1
        rename World => w3
        obtain ⟨j, rfl, haj, hji, hg2, SJ, HQ⟩ := hrel
        have out : (j = a ∨ f dk[j - 1]! ≤ f x) → Hid (∃ C, (swapsDn dk i (i - j)).toList = P ++ C ++ A.drop (i + 1 - a) ++ T ∧ C.Perm (A.take (i + 1 - a)) ∧ srt f C ∧ C.length = min (i + 1 - a) A.length) := by
          intro hstop
          obtain ⟨C, e1, e2, e3, e4⟩ := HO
          have hbb := HB.out; have haa := HA.out
          have hl : C.length = i - a := by omega
          have hg := SG.out i dk C e1 hl
          have hxa := hg.2 hlt (by omega)
          rw [← HX.out] at hxa
          have hlt2 : i - a < A.length := by omega
          have hdr : A.drop (i - a) = x :: A.drop (i + 1 - a) := by
            rw [List.drop_eq_getElem_cons hlt2, show i - a + 1 = i + 1 - a by omega]
            congr 1
            rw [hxa, List.getD_eq_getElem?_getD, List.getElem?_eq_getElem hlt2]; rfl
          have htk : A.take (i + 1 - a) = A.take (i - a) ++ [x] := by
            rw [show i + 1 - a = i - a + 1 by omega, List.take_succ_eq_append_getElem hlt2]
            congr 2
            rw [hxa, List.getD_eq_getElem?_getD, List.getElem?_eq_getElem hlt2]; rfl
          have hl2 := swapsDn_list dk P (C.take (j - a)) (C.drop (j - a)) (A.drop (i + 1 - a) ++ T) x i (by rw [List.take_append_drop, e1, hdr]; simp) (by rw [List.take_append_drop, List.length_append]; omega) (i - j) (by rw [List.length_drop]; omega)
          rw [List.length_drop, show C.length - (j - a) - (i - j) = 0 by omega, List.take_zero, List.drop_zero, List.append_nil] at hl2
          refine ⟨C.take (j - a) ++ [x] ++ C.drop (j - a), by rw [hl2]; simp, ?_, ?_, ?_⟩
          · have hpm := List.perm_middle (l₁ := C.take (j - a)) (a := x) (l₂ := C.drop (j - a))
            rw [List.take_append_drop] at hpm
            rw [htk]
            exact (by simpa using hpm : (C.take (j - a) ++ [x] ++ C.drop (j - a)).Perm (x :: C)).trans ((List.Perm.cons x e2).trans (List.perm_append_comm (l₁ := [x]) (l₂ := A.take (i - a))))
          · rw [List.append_assoc, List.singleton_append]
            refine ins_step f x (C.take (j - a)) (C.drop (j - a)) (by rw [List.take_append_drop]; exact e3) (fun y hy => ?_) (fun y hy => ?_)
            · obtain ⟨n, hn, rfl⟩ := List.getElem_of_mem hy
              rw [List.length_take] at hn
              rcases hstop with h | h
              · omega
              · have h5 := HM.out (a + n) (j - 1) (by omega) (by omega) (by omega)
                rw [hg.1 (a + n) (by omega) (by omega), show a + n - a = n by omega, List.getD_eq_getElem?_getD, List.getElem?_eq_getElem (by omega)] at h5
                rw [List.getElem_take]
                exact Int.le_trans h5 h
            · obtain ⟨n, hn, rfl⟩ := List.getElem_of_mem hy
              rw [List.length_drop] at hn
              have h5 := HQ.out (j + n) (by omega) (by omega)
              rw [hg.1 (j + n) (by omega) (by omega), show j + n - a = j - a + n by omega, List.getD_eq_getElem?_getD, List.getElem?_eq_getElem (by omega)] at h5
              rw [List.getElem_drop]
              exact Int.le_of_lt h5
          · simp only [List.length_append, List.length_take, List.length_drop, List.length_singleton]; omega
        have OUT := Lib.hid out; clear out
        have hsz3 := swapsDn_size dk i (i - j)
        have Z3 : Hid ((swapsDn dk i (i - j)).size = size) := Lib.hid (by rw [hsz3, HK.out])
        clear hsz3
        by_cases hja : a < j
        · obtain ⟨q, rfl⟩ : ∃ q, j = q + 1 := ⟨j - 1, by omega⟩
          have hjaz : (a : Int) < (q : Int) + 1 := by omega
          have hjad : decide ((q : Int) + 1 > (a : Int)) = true := decide_eq_true (by omega)
          obtain ⟨y, hy⟩ : ∃ y, y = dk[q]! := ⟨_, rfl⟩
          have HY := Lib.hid hy
          have hyN : y < N := by rw [hy]; exact HW.out q (by omega) (by omega)
          have l1 := SJ.out.cl HR.out (by rw [Z3.out, HS.out]) (q + 1) (by rw [Z3.out]; omega)
          have l2 := SJ.out.cl HR.out (by rw [Z3.out, HS.out]) q (by rw [Z3.out]; omega)
          have g1 := swapsDn_at dk i (by rw [HK.out]; omega) (i - (q + 1)) (by omega)
          rw [show i - (i - (q + 1)) = q + 1 by omega, ← HX.out] at g1
          have g2 := swapsDn_low dk i (i - (q + 1)) q (by omega) (by omega)
          rw [← hy] at g2
          rw [g1] at l1
          rw [g2] at l2
          have G1 := Lib.hid g1; have G2 := Lib.hid g2
          clear hy g1 g2
          have hc := fun n os => HC.out.at_ Z3.out SJ.out hxN hyN n os
          have p1 : (0 : Int) ≤ (q : Int) := by omega
          have p2 : (q : Int) < (size : Int) := by omega
          have p3 : (0 : Int) ≤ (q : Int) + 1 := by omega
          have p4 : (q : Int) + 1 < (size : Int) := by omega
          have rk : IntKind.i64.wrap ((q : Int) + 1) = (q : Int) + 1 := by rw [IntKind.wrap_i64]; omega
          have rq : IntKind.i64.wrap (q : Int) = (q : Int) := by rw [IntKind.wrap_i64]; omega
          have ek : ((q : Int) + 1).toNat = q + 1 := by omega
          rw [Int.natCast_add]
          by_cases hv : f x < f y
          · have hd1 : decide (f x - f y < 0) = true := decide_eq_true (by omega)
            go_wp2_with fail
            go_quiet_grown (first | (go_at_call 85; refine Calls.grown_of (hc _ _)))
            have S2 : Aside (SW encN w0 blk off (swapsDn dk i (i - (q + 1))) (grow (w3.drewN nq) osq)) := SJ.out.grown nq osq
            clear l1 l2 hc SJ
            generalize grow (w3.drewN nq) osq = w2 at S2 ⊢
            clear nq osq
            go_wp2_with fail
            have hi1 : q + 1 < (swapsDn dk i (i - (q + 1))).size := by rw [Z3.out]; omega
            have hj1 : q < (swapsDn dk i (i - (q + 1))).size := by rw [Z3.out]; omega
            have hst : swapsDn dk i (i - q) = swp (swapsDn dk i (i - (q + 1))) (q + 1) q := by
              rw [show i - q = (i - (q + 1)) + 1 by omega, swapsDn, show i - (i - (q + 1)) = q + 1 by omega, show q + 1 - 1 = q by omega]
            have S4 : Aside (SW encN w0 blk off (swapsDn dk i (i - q)) ((w2.setCell ⟨blk, off + (q + 1), none⟩ (encN y)).setCell ⟨blk, off + q, none⟩ (encN x)).drew) := by
              have h := S2.out.swapped HR.out (q + 1) q hi1 hj1
              rw [G1.out, G2.out, ← hst] at h
              exact h
            have c1 := S2.out.c1 HR.out (by rw [Z3.out, HS.out]) (q + 1) hi1
            have c2 := S2.out.c1 HR.out (by rw [Z3.out, HS.out]) q hj1
            have f1 := S2.out.f1 HR.out (by rw [Z3.out, HS.out]) (q + 1) hi1
            have f2 := S2.out.f1 HR.out (by rw [Z3.out, HS.out]) q hj1
            obtain ⟨u, c3⟩ := S2.out.c2 HR.out (by rw [Z3.out, HS.out]) (q + 1) q hi1 hj1 (encN y)
            rw [G1.out] at c1
            rw [G2.out] at c2
            have H4 := Lib.hid S4
            clear S2 S4 hst hi1 hj1
            go_wp2_with fail
            go_big_region
            clear c1 c2 c3 f1 f2 rk rq ek
            go_wp2
            obtain ⟨g', rfl⟩ : ∃ g', gk = g' + 1 := ⟨gk - 1, by omega⟩
            go_roundg g'
            case measure => omega
            case rel => exact ⟨q, by go_num, by omega, by omega, by omega, H4.out, fun k h0 h1 => by
              rcases Nat.lt_or_ge q k with h | h
              · exact HQ.out k h h1
              · obtain rfl : k = q := by omega
                rw [← HY.out]; exact hv⟩
          · have hd1 : decide (f x - f y < 0) = false := decide_eq_false (by omega)
            go_wp2_with fail
            go_quiet_grown (first | (go_at_call 85; refine Calls.grown_of (hc _ _)))
            have S2 : Aside (SW encN w0 blk off (swapsDn dk i (i - (q + 1))) (grow (w3.drewN nq) osq)) := SJ.out.grown nq osq
            clear l1 l2 hc SJ
            generalize grow (w3.drewN nq) osq = w2 at S2 ⊢
            clear nq osq rk rq ek
            go_wp2
            go_roundg (b - (i + 1))
            case measure => omega
            case rel => exact ⟨i + 1, _, by go_num, by omega, by omega, by omega, Z3.out, S2, OUT.out (Or.inr (by rw [show q + 1 - 1 = q by omega, ← HY.out]; omega))⟩
        · have hjaz : decide ((j : Int) > (a : Int)) = false := decide_eq_false (by omega)
          have hjaz' : ¬ (a : Int) < (j : Int) := by omega
          go_wp2_with fail
          go_big_region
          have S2 : Aside (SW encN w0 blk off (swapsDn dk i (i - j)) w3.drew) := SJ.out.drew
          clear SJ
          generalize w3.drew = w2 at S2 ⊢
          go_wp2
          go_roundg (b - (i + 1))
          case measure => omega
          case rel => exact ⟨i + 1, _, by go_num, by omega, by omega, by omega, Z3.out, S2, OUT.out (Or.inl (by omega))⟩
    · have hltz : ¬ (i : Int) < (b : Int) := by omega
      go_wp2
      go_end0
      obtain ⟨C, e1, e2, e3, e4⟩ := HO
      have hbb := HB.out; have haa := HA.out
      rw [List.drop_of_length_le (by omega), List.append_nil] at e1
      rw [List.take_of_length_le (by omega)] at e2
      exact ⟨rfl, dk, HK.out, S1.out, C, by rw [e1, List.append_assoc], e2, e3⟩

set_option maxHeartbeats 8000000 in
set_option maxRecDepth 100000 in
theorem stable_s1 (cb : Array Value) (f : Nat → Int) (N blk off cap n : Nat) (d0 d : Array Nat) (w0 w : World) (R : Row1 encN w0 blk off d0) (hs : d0.size = n) (hds : d.size = n) (hC : CmpOk cb f N blk off n w0) (S : SW encN w0 blk off d w)
    (hN : ∀ y ∈ d.toList, y < N) (hn : n < 20) :
    Calls Try.prog 106 #[.slice (some ⟨blk, off, none⟩) n cap, .int .i64 n, .func (.func 85) #[] cb] w fun e w' => e = .returned (.tuple #[]) ∧
      ∃ d' : Array Nat, d'.size = n ∧ SW encN w0 blk off d' w' ∧ d'.toList.Perm d.toList ∧ srt f d'.toList := by
  have S0 : Aside (SW encN w0 blk off d w) := S
  have hl : d.toList.length = n := by rw [Array.length_toList]; exact hds
  have I1 := Lib.hid (fun W (SS : Aside (SW encN w0 blk off d W)) => insertion_s cb f N blk off cap 0 n n d0 d w0 W R hs hds hC SS [] d.toList [] (by simp) rfl (by simpa using hl) hN (by omega))
  clear hN hl R hC hs hds S
  have t1 : ¬ (20 : Int) ≤ (n : Int) := by omega
  have t2 : ¬ (20 : Int) < (n : Int) := by omega
  go_enter Try.func106, Try.ntmps106
  go_wp2
  refine wp_loop_rounds 1 ?_
  rw [rounds_succ]
  go_wp2_with (go_at_call 114; refine (I1.out _ S0).mono ?_; rintro e w1 ⟨rfl, d1, C1, h1, S1, g1, g2, g3⟩; have H1 := Lib.hid (And.intro h1 (And.intro g1 (And.intro g2 g3))); have S1 : Aside (SW encN w0 blk off d1 w1) := S1; clear h1 g1 g2 g3)
  refine wp_loop_rounds 1 ?_
  rw [rounds_succ]
  go_wp2
  (try simp only [Exit.inBlock, Exit.then])
  go_end0
  obtain ⟨h1, g1, g2, g3⟩ := H1
  have e : d1.toList = C1 := by simpa using g1
  exact ⟨rfl, d1, h1, S1, by rw [e]; exact g2, by rw [e]; exact g3⟩

set_option maxHeartbeats 8000000 in
set_option maxRecDepth 100000 in
theorem stable_s2 (cb : Array Value) (f : Nat → Int) (N blk off cap n : Nat) (d0 d : Array Nat) (w0 w : World) (R : Row1 encN w0 blk off d0) (hs : d0.size = n) (hds : d.size = n) (hC : CmpOk cb f N blk off n w0) (S : SW encN w0 blk off d w)
    (hN : ∀ y ∈ d.toList, y < N) (hn : 20 ≤ n ∧ n < 40) :
    Calls Try.prog 106 #[.slice (some ⟨blk, off, none⟩) n cap, .int .i64 n, .func (.func 85) #[] cb] w fun e w' => e = .returned (.tuple #[]) ∧
      ∃ d' : Array Nat, d'.size = n ∧ SW encN w0 blk off d' w' ∧ d'.toList.Perm d.toList ∧ srt f d'.toList := by
  have S0 : Aside (SW encN w0 blk off d w) := S
  have hl : d.toList.length = n := by rw [Array.length_toList]; exact hds
  have I1 := Lib.hid (fun W (SS : Aside (SW encN w0 blk off d W)) => insertion_s cb f N blk off cap 0 20 n d0 d w0 W R hs hds hC SS [] (d.toList.take 20) (d.toList.drop 20) (by simp) rfl (by simp; omega) (fun y hy => hN y (List.mem_of_mem_take hy)) (by omega))
  have I2 := Lib.hid (fun (d1 : Array Nat) (C1 : List Nat) W (H : Hid (d1.size = n ∧ d1.toList = [] ++ C1 ++ d.toList.drop 20 ∧ C1.Perm (d.toList.take 20) ∧ srt f C1)) (SS : Aside (SW encN w0 blk off d1 W)) =>
    insertion_s cb f N blk off cap 20 n n d0 d1 w0 W R hs H.1 hC SS C1 (d.toList.drop 20) [] (by rw [H.2.1]; simp) (by rw [H.2.2.1.length_eq, List.length_take]; omega) (by rw [List.length_append, H.2.2.1.length_eq, List.length_take, List.length_drop]; omega) (fun y hy => hN y (List.mem_of_mem_drop hy)) (by omega))
  have M1 := Lib.hid (fun (d2 : Array Nat) (C1 C2 : List Nat) W (h20 : 20 < n) (H : Hid ((d2.size = n ∧ d2.toList = C1 ++ C2 ++ [] ∧ C2.Perm (d.toList.drop 20) ∧ srt f C2) ∧ C1.Perm (d.toList.take 20) ∧ srt f C1)) (SS : Aside (SW encN w0 blk off d2 W)) =>
    merges_all cb f N blk off cap n d0 w0 R hs hC (by omega) n 0 20 n d2 W [] C1 C2 [] H.1.1 SS (by rw [H.1.2.1]; simp) rfl (by rw [List.nil_append, H.2.1.length_eq, List.length_take]; omega) (by rw [List.nil_append, List.length_append, H.2.1.length_eq, H.1.2.2.1.length_eq, List.length_take, List.length_drop]; omega)
      (by rw [H.2.1.length_eq, List.length_take]; omega) (by rw [H.1.2.2.1.length_eq, List.length_drop]; omega) H.2.2 H.1.2.2.2 (fun y hy => hN y (List.mem_of_mem_take (H.2.1.mem_iff.1 hy))) (fun y hy => hN y (List.mem_of_mem_drop (H.1.2.2.1.mem_iff.1 hy))) (by omega))
  have HDL : Hid (d.toList.take 20 ++ d.toList.drop 20 = d.toList) := Lib.hid (List.take_append_drop _ _)
  have HLN := Lib.hid hl
  clear hN hl R hC hs hds S
  have t1 : (20 : Int) ≤ (n : Int) := by omega
  have t2 : ¬ (40 : Int) ≤ (n : Int) := by omega
  rcases Nat.lt_or_ge 20 n with h20 | h20
  · have t3 : (20 : Int) < (n : Int) := by omega
    have t4 : ¬ (40 : Int) < (n : Int) := by omega
    go_enter Try.func106, Try.ntmps106
    go_wp2
    refine wp_loop_rounds 2 ?_
    rw [rounds_succ]
    go_wp2_with (go_at_call 114; refine (I1.out _ S0).mono ?_; rintro e w1 ⟨rfl, d1, C1, h1, S1, g1, g2, g3⟩; have H1 := Lib.hid (And.intro h1 (And.intro g1 (And.intro g2 g3))); have S1 : Aside (SW encN w0 blk off d1 w1) := S1; clear h1 g1 g2 g3)
    rw [rounds_succ]
    go_wp2_with (go_at_call 114; refine (I2.out d1 C1 _ H1 S1).mono ?_; rintro e w2 ⟨rfl, d2, C2, h1, S2, g1, g2, g3⟩; have H2 := Lib.hid (And.intro (And.intro h1 (And.intro g1 (And.intro g2 g3))) H1.out.2.2); have S2 : Aside (SW encN w0 blk off d2 w2) := S2; clear h1 g1 g2 g3)
    refine wp_loop_rounds 2 ?_
    rw [rounds_succ]
    go_wp2
    refine wp_loop_rounds 1 ?_
    rw [rounds_succ]
    go_wp2_with (go_at_call 115; refine (M1.out d2 C1 C2 _ h20 H2 S2).mono ?_; rintro e w3 ⟨rfl, hM⟩; have HM := Lib.hid hM; clear hM)
    rw [rounds_succ]
    go_wp2
    (try simp only [Exit.inBlock, Exit.then])
    go_end0
    obtain ⟨d3, k1, k2, C, k3, k4, k5⟩ := HM.out
    have e : d3.toList = C := by simpa using k3
    have hp : C.Perm d.toList := k4.trans (by
      have h := (H2.out.2.1.append H2.out.1.2.2.1)
      rw [HDL.out] at h
      exact h)
    exact ⟨rfl, d3, by rw [k1]; exact H2.out.1.1, k2, by rw [e]; exact hp, by rw [e]; exact k5⟩
  · have t3 : ¬ (20 : Int) < (n : Int) := by omega
    go_enter Try.func106, Try.ntmps106
    go_wp2
    refine wp_loop_rounds 2 ?_
    rw [rounds_succ]
    go_wp2_with (go_at_call 114; refine (I1.out _ S0).mono ?_; rintro e w1 ⟨rfl, d1, C1, h1, S1, g1, g2, g3⟩; have H1 := Lib.hid (And.intro h1 (And.intro g1 (And.intro g2 g3))); have S1 : Aside (SW encN w0 blk off d1 w1) := S1; clear h1 g1 g2 g3)
    rw [rounds_succ]
    go_wp2_with (go_at_call 114; refine (I2.out d1 C1 _ H1 S1).mono ?_; rintro e w2 ⟨rfl, d2, C2, h1, S2, g1, g2, g3⟩; have H2 := Lib.hid (And.intro (And.intro h1 (And.intro g1 (And.intro g2 g3))) H1.out.2.2); have S2 : Aside (SW encN w0 blk off d2 w2) := S2; clear h1 g1 g2 g3)
    refine wp_loop_rounds 1 ?_
    rw [rounds_succ]
    go_wp2
    (try simp only [Exit.inBlock, Exit.then])
    go_end0
    obtain ⟨⟨k1, k2, k3, k4⟩, k5, k6⟩ := H2.out
    have hz : d.toList.drop 20 = [] := List.drop_of_length_le (by have := HLN.out; omega)
    rw [hz] at k3
    obtain rfl := k3.eq_nil
    have e : d2.toList = C1 := by simpa using k2
    have hp : C1.Perm d.toList := by
      have h := k5
      rw [List.take_of_length_le (by have := HLN.out; omega)] at h
      exact h
    exact ⟨rfl, d2, k1, S2, by rw [e]; exact hp, by rw [e]; exact k6⟩

set_option maxHeartbeats 8000000 in
set_option maxRecDepth 100000 in
theorem stable_s3 (cb : Array Value) (f : Nat → Int) (N blk off cap n : Nat) (d0 d : Array Nat) (w0 w : World) (R : Row1 encN w0 blk off d0) (hs : d0.size = n) (hds : d.size = n) (hC : CmpOk cb f N blk off n w0) (S : SW encN w0 blk off d w)
    (hN : ∀ y ∈ d.toList, y < N) (hn : n = 40) :
    Calls Try.prog 106 #[.slice (some ⟨blk, off, none⟩) n cap, .int .i64 n, .func (.func 85) #[] cb] w fun e w' => e = .returned (.tuple #[]) ∧
      ∃ d' : Array Nat, d'.size = n ∧ SW encN w0 blk off d' w' ∧ d'.toList.Perm d.toList ∧ srt f d'.toList := by
  have S0 : Aside (SW encN w0 blk off d w) := S
  have hl : d.toList.length = n := by rw [Array.length_toList]; exact hds
  subst hn
  have I1 := Lib.hid (fun W (SS : Aside (SW encN w0 blk off d W)) => insertion_s cb f N blk off cap 0 20 40 d0 d w0 W R hs hds hC SS [] (d.toList.take 20) (d.toList.drop 20) (by simp) rfl (by simp; omega) (fun y hy => hN y (List.mem_of_mem_take hy)) (by omega))
  have I2 := Lib.hid (fun (d1 : Array Nat) (C1 : List Nat) W (H : Hid (d1.size = 40 ∧ d1.toList = [] ++ C1 ++ d.toList.drop 20 ∧ C1.Perm (d.toList.take 20) ∧ srt f C1)) (SS : Aside (SW encN w0 blk off d1 W)) =>
    insertion_s cb f N blk off cap 20 40 40 d0 d1 w0 W R hs H.1 hC SS C1 (d.toList.drop 20) [] (by rw [H.2.1]; simp) (by rw [H.2.2.1.length_eq, List.length_take]; omega) (by rw [List.length_append, H.2.2.1.length_eq, List.length_take, List.length_drop]; omega) (fun y hy => hN y (List.mem_of_mem_drop hy)) (by omega))
  have I3 := Lib.hid (fun (d2 : Array Nat) W (H : Hid (d2.size = 40)) (SS : Aside (SW encN w0 blk off d2 W)) =>
    insertion_s cb f N blk off cap 40 40 40 d0 d2 w0 W R hs H hC SS d2.toList [] [] (by simp) (by rw [Array.length_toList]; exact H) (by rw [List.append_nil, Array.length_toList]; exact H) (fun y hy => by simp at hy) (by omega))
  have M1 := Lib.hid (fun (d2 : Array Nat) (C1 C2 : List Nat) W (H : Hid ((d2.size = 40 ∧ d2.toList = C1 ++ C2 ++ [] ∧ C2.Perm (d.toList.drop 20) ∧ srt f C2) ∧ C1.Perm (d.toList.take 20) ∧ srt f C1)) (SS : Aside (SW encN w0 blk off d2 W)) =>
    merges_all cb f N blk off cap 40 d0 w0 R hs hC (by omega) 40 0 20 40 d2 W [] C1 C2 [] H.1.1 SS (by rw [H.1.2.1]; simp) rfl (by rw [List.nil_append, H.2.1.length_eq, List.length_take]; omega) (by rw [List.nil_append, List.length_append, H.2.1.length_eq, H.1.2.2.1.length_eq, List.length_take, List.length_drop]; omega)
      (by rw [H.2.1.length_eq, List.length_take]; omega) (by rw [H.1.2.2.1.length_eq, List.length_drop]; omega) H.2.2 H.1.2.2.2 (fun y hy => hN y (List.mem_of_mem_take (H.2.1.mem_iff.1 hy))) (fun y hy => hN y (List.mem_of_mem_drop (H.1.2.2.1.mem_iff.1 hy))) (by omega))
  have HDL : Hid (d.toList.take 20 ++ d.toList.drop 20 = d.toList) := Lib.hid (List.take_append_drop _ _)
  clear hN hl R hC hs hds S
  go_enter Try.func106, Try.ntmps106
  go_wp2
  refine wp_loop_rounds 3 ?_
  rw [rounds_succ]
  go_wp2_with (go_at_call 114; refine (I1.out _ S0).mono ?_; rintro e w1 ⟨rfl, d1, C1, h1, S1, g1, g2, g3⟩; have H1 := Lib.hid (And.intro h1 (And.intro g1 (And.intro g2 g3))); have S1 : Aside (SW encN w0 blk off d1 w1) := S1; clear h1 g1 g2 g3)
  rw [rounds_succ]
  go_wp2_with (go_at_call 114; refine (I2.out d1 C1 _ H1 S1).mono ?_; rintro e w2 ⟨rfl, d2, C2, h1, S2, g1, g2, g3⟩; have H2 := Lib.hid (And.intro (And.intro h1 (And.intro g1 (And.intro g2 g3))) H1.out.2.2); have S2 : Aside (SW encN w0 blk off d2 w2) := S2; clear h1 g1 g2 g3)
  rw [rounds_succ]
  go_wp2_with (go_at_call 114; refine (I3.out d2 _ (Lib.hid H2.out.1.1) S2).mono ?_; rintro e w3 ⟨rfl, d3, C3, h1, S3, g1, g2, g3⟩; have H3 : Hid ((d3.size = 40 ∧ d3.toList = C1 ++ C2 ++ [] ∧ C2.Perm (d.toList.drop 20) ∧ srt f C2) ∧ C1.Perm (d.toList.take 20) ∧ srt f C1) := Lib.hid ⟨⟨h1, by rw [g1, g2.eq_nil, H2.out.1.2.1]; simp, H2.out.1.2.2⟩, H2.out.2⟩; have S3 : Aside (SW encN w0 blk off d3 w3) := S3; clear h1 g1 g2 g3)
  refine wp_loop_rounds 2 ?_
  rw [rounds_succ]
  go_wp2
  refine wp_loop_rounds 2 ?_
  rw [rounds_succ]
  go_wp2_with (go_at_call 115; refine (M1.out d3 C1 C2 _ H3 S3).mono ?_; rintro e w4 ⟨rfl, hM⟩; have HM := Lib.hid hM; clear hM)
  rw [rounds_succ]
  go_wp2
  rw [rounds_succ]
  go_wp2
  (try simp only [Exit.inBlock, Exit.then])
  go_end0
  obtain ⟨d4, k1, k2, C, k3, k4, k5⟩ := HM.out
  have e : d4.toList = C := by simpa using k3
  have hp : C.Perm d.toList := k4.trans (by
    have h := (H3.out.2.1.append H3.out.1.2.2.1)
    rw [HDL.out] at h
    exact h)
  exact ⟨rfl, d4, by rw [k1]; exact H3.out.1.1, k2, by rw [e]; exact hp, by rw [e]; exact k5⟩

set_option maxHeartbeats 2000000 in
/-- SortStableFunc: the row holds a permutation, in order -/
theorem sortStable_s (cb : Array Value) (f : Nat → Int) (N blk off cap n : Nat) (d : Array Nat) (w : World) (R : Row1 encN w blk off d) (hds : d.size = n) (hC : CmpOk cb f N blk off n w) (hN : ∀ y ∈ d.toList, y < N) (hn : n ≤ 40) :
    Calls Try.prog 84 #[.slice (some ⟨blk, off, none⟩) n cap, .func (.func 85) #[] cb] w fun e w' => e = .returned (.tuple #[]) ∧
      ∃ d' : Array Nat, d'.size = n ∧ SW encN w blk off d' w' ∧ d'.toList.Perm d.toList ∧ srt f d'.toList := by
  have h : Calls Try.prog 106 #[.slice (some ⟨blk, off, none⟩) n cap, .int .i64 n, .func (.func 85) #[] cb] w fun e w' => e = .returned (.tuple #[]) ∧
      ∃ d' : Array Nat, d'.size = n ∧ SW encN w blk off d' w' ∧ d'.toList.Perm d.toList ∧ srt f d'.toList := by
    rcases Nat.lt_or_ge n 20 with h1 | h1
    · exact stable_s1 cb f N blk off cap n d d w w R hds hds hC (SW.start R.hH) hN h1
    · rcases Nat.lt_or_ge n 40 with h2 | h2
      · exact stable_s2 cb f N blk off cap n d d w w R hds hds hC (SW.start R.hH) hN ⟨h1, h2⟩
      · exact stable_s3 cb f N blk off cap n d d w w R hds hds hC (SW.start R.hH) hN (by omega)
  have H := Lib.hid h
  clear h R hds hC hN
  go_enter Try.func84, Try.ntmps84
  go_wp2_with (go_at_call 106; refine H.out.mono ?_; rintro e w1 ⟨rfl, hh⟩; have HH := Lib.hid hh; clear hh)
  go_end0
  exact ⟨rfl, HH.out⟩
end Go.Proofs.Ytlkabghpcjlohaa
