/- slices' symMergeCmpFunc at a []int of the call's own: two sorted neighbours become one sorted stretch. -/
import Derived.Test.YtlkabghpcjlohaaQ4
import Derived.Shelf.SlSortCmp.QuietGrown
namespace Go.Proofs.Ytlkabghpcjlohaa
set_option linter.unusedVariables false
set_option linter.unusedSimpArgs false
open Go.Shelf Go.RowKit Go.Lib Go.Sort

/-- what is asked of the comparison: of two numbers below N, in whatever world of the sort -/
def CmpOk (cb : Array Value) (f : Nat → Int) (N blk off size : Nat) (w0 : World) : Prop :=
  ∀ (W : World) (dk : Array Nat), dk.size = size → SW encN w0 blk off dk W → ∀ x y, x < N → y < N →
    Calls Try.prog 85 (#[.int .i64 (x : Nat), .int .i64 (y : Nat)] ++ cb) W fun e w' => e = .returned (.int .i64 (f x - f y)) ∧ ∃ q os', w' = grow (W.drewN q) os'
theorem CmpOk.at_ {cb : Array Value} {f : Nat → Int} {N blk off size : Nat} {w0 W : World} {dk : Array Nat} (h : CmpOk cb f N blk off size w0) (hs : dk.size = size) (S : SW encN w0 blk off dk W) {x y : Nat} (hx : x < N) (hy : y < N) (n : Nat) (os : Array Obj) :
    Calls Try.prog 85 (#[.int .i64 (x : Nat), .int .i64 (y : Nat)] ++ cb) (grow (W.drewN n) os) fun e w' => e = .returned (.int .i64 (f x - f y)) ∧ ∃ q os', w' = grow ((grow (W.drewN n) os).drewN q) os' :=
  h _ dk hs (S.grown n os) x y hx hy

theorem srt_get {f : Nat → Int} {l : List Nat} (h : srt f l) {i j : Nat} (hij : i ≤ j) (hj : j < l.length) : f (l.getD i 0) ≤ f (l.getD j 0) := by
  rcases Nat.lt_or_ge i j with h1 | h1
  · have := List.pairwise_iff_getElem.1 h i j (by omega) hj h1
    simpa [List.getD, List.getElem?_eq_getElem hj, List.getElem?_eq_getElem (show i < l.length by omega)] using this
  · obtain rfl : i = j := by omega
    exact Int.le_refl _
theorem seg_get {d : Array Nat} {P A T : List Nat} (hd : d.toList = P ++ A ++ T) {k : Nat} (h0 : P.length ≤ k) (h1 : k < P.length + A.length) : d[k]! = A.getD (k - P.length) 0 := by
  rw [arr_get, hd, getD_left _ _ _ (by rw [List.length_append]; omega), getD_right _ _ _ h0]

/-- the one at a changes places with its right neighbour, n times -/
def swapsUp (d : Array Nat) (a : Nat) : Nat → Array Nat
  | 0 => d
  | k + 1 => swp (swapsUp d a k) (a + k) (a + k + 1)
theorem swapsUp_size (d : Array Nat) (a : Nat) : ∀ n, (swapsUp d a n).size = d.size
  | 0 => rfl
  | k + 1 => by rw [swapsUp, size_swp, swapsUp_size d a k]
theorem swapsUp_list (d : Array Nat) (P B1 B2 T : List Nat) (x a : Nat) (hd : d.toList = P ++ [x] ++ (B1 ++ B2) ++ T) (ha : P.length = a) : ∀ n, n ≤ B1.length → (swapsUp d a n).toList = P ++ B1.take n ++ [x] ++ (B1.drop n ++ B2) ++ T
  | 0, _ => by rw [swapsUp, hd]; simp
  | n + 1, h => by
    have ih := swapsUp_list d P B1 B2 T x a hd ha n (by omega)
    have hlt : n < B1.length := by omega
    have hr := swapR_list (swapsUp d a n) (P ++ B1.take n) [x] [] [B1[n]] (B1.drop (n + 1) ++ B2 ++ T) (a + n) (a + n + 1) 1
      (by rw [ih, List.drop_eq_getElem_cons hlt]; simp only [List.append_assoc, List.cons_append, List.nil_append, List.singleton_append]) (by rw [List.length_append, List.length_take]; omega) rfl (by simp only [List.length_append, List.length_take, List.length_singleton, List.length_nil]; omega) rfl
    rw [swapsUp]
    have e : swapR (swapsUp d a n) (a + n) (a + n + 1) 1 = swp (swapsUp d a n) (a + n) (a + n + 1) := rfl
    rw [← e, hr, List.take_succ_eq_append_getElem hlt]
    simp
/-- the one at m changes places with its left neighbour, n times -/
def swapsDn (d : Array Nat) (m : Nat) : Nat → Array Nat
  | 0 => d
  | k + 1 => swp (swapsDn d m k) (m - k) (m - k - 1)
theorem swapsDn_size (d : Array Nat) (a : Nat) : ∀ n, (swapsDn d a n).size = d.size
  | 0 => rfl
  | k + 1 => by rw [swapsDn, size_swp, swapsDn_size d a k]
theorem swp_comm (d : Array Nat) (i j : Nat) (hi : i < d.size) (hj : j < d.size) (hij : i ≠ j) : swp d i j = swp d j i := by
  apply Array.ext
  · simp [size_swp]
  · intro k h1 h2
    have e1 : (swp d i j)[k]! = (swp d j i)[k]! := by
      by_cases c1 : k = i
      · subst c1; rw [swp_left _ _ _ hi hij, swp_right _ _ _ hi]
      · by_cases c2 : k = j
        · subst c2; rw [swp_right _ _ _ hj, swp_left _ _ _ hj (Ne.symm hij)]
        · rw [swp_other _ _ _ _ c1 c2, swp_other _ _ _ _ c2 c1]
    simpa [getElem!_pos, h1, h2] using e1
theorem swapsDn_list (d : Array Nat) (P A1 A2 T : List Nat) (y m : Nat) (hd : d.toList = P ++ (A1 ++ A2) ++ [y] ++ T) (hm : (P ++ (A1 ++ A2)).length = m) : ∀ n, n ≤ A2.length →
    (swapsDn d m n).toList = P ++ (A1 ++ A2.take (A2.length - n)) ++ [y] ++ (A2.drop (A2.length - n) ++ T)
  | 0, _ => by rw [swapsDn, hd]; simp
  | n + 1, h => by
    have ih := swapsDn_list d P A1 A2 T y m hd hm n (by omega)
    have hq : A2.length - (n + 1) < A2.length := by omega
    simp only [List.length_append] at hm
    have hsz : d.size = P.length + (A1.length + A2.length) + 1 + T.length := by rw [← Array.length_toList, hd]; simp only [List.length_append, List.length_singleton]
    have e2 : A2.length - n = A2.length - (n + 1) + 1 := by omega
    have hr := swapR_list (swapsDn d m n) (P ++ (A1 ++ A2.take (A2.length - (n + 1)))) [A2[A2.length - (n + 1)]] [] [y] (A2.drop (A2.length - n) ++ T) (m - n - 1) (m - n) 1
      (by rw [ih, e2, List.take_succ_eq_append_getElem hq]; simp) (by simp only [List.length_append, List.length_take]; omega) rfl (by simp only [List.length_append, List.length_take, List.length_singleton, List.length_nil]; omega) rfl
    rw [swapsDn]
    have e : swapR (swapsDn d m n) (m - n - 1) (m - n) 1 = swp (swapsDn d m n) (m - n - 1) (m - n) := rfl
    rw [swp_comm _ _ _ (by rw [swapsDn_size]; omega) (by rw [swapsDn_size]; omega) (by omega), ← e, hr]
    have e3 : A2.drop (A2.length - (n + 1)) = A2[A2.length - (n + 1)] :: A2.drop (A2.length - n) := by rw [List.drop_eq_getElem_cons hq, e2]
    rw [e3]
    simp

set_option maxHeartbeats 8000000 in
set_option maxRecDepth 100000 in
/-- one ahead of the others -/
theorem symMerge_one (cb : Array Value) (f : Nat → Int) (N blk off cap a b : Nat) (d0 d : Array Nat) (w0 w : World) (R : Row1 encN w0 blk off d0) (hs : d0.size = d.size) (hC : CmpOk cb f N blk off d.size w0) (S : SW encN w0 blk off d w)
    (P B T : List Nat) (x : Nat) (hd : d.toList = P ++ [x] ++ B ++ T) (ha : P.length = a) (hb : (P ++ [x] ++ B).length = b) (hB : srt f B) (hBn : 0 < B.length) (hx : x < N) (hN : ∀ y ∈ B, y < N) (hsz : d.size ≤ 1000) :
    Calls Try.prog 115 #[.slice (some ⟨blk, off, none⟩) d.size cap, .int .i64 a, .int .i64 ((a : Int) + 1), .int .i64 b, .func (.func 85) #[] cb] w fun e w' => e = .returned (.tuple #[]) ∧
      ∃ d' : Array Nat, d'.size = d.size ∧ SW encN w0 blk off d' w' ∧ ∃ C, d'.toList = P ++ C ++ T ∧ C.Perm ([x] ++ B) ∧ srt f C := by
  have S0 : Aside (SW encN w0 blk off d w) := S
  have mixed : Try.prog.follows .mixedOrders = true := by kernel_rfl
  clear S
  have hlen : d.size = P.length + 1 + B.length + T.length := by rw [← Array.length_toList, hd]; simp only [List.length_append, List.length_singleton]
  simp only [List.length_append, List.length_singleton] at hb
  have HR := Lib.hid R; have HC := Lib.hid hC; clear R hC
  have hbs : b ≤ d.size := by omega
  have hab : a + 1 < b := by omega
  have gB : ∀ k, a + 1 ≤ k → k < b → d[k]! = B.getD (k - (a + 1)) 0 := fun k h0 h1 => by
    have := seg_get (P := P ++ [x]) (A := B) (T := T) hd (k := k) (by simp; omega) (by simp; omega)
    rw [this]; congr 1; simp; omega
  have gx : d[a]! = x := by rw [seg_get (P := P) (A := [x]) (T := B ++ T) (by rw [hd]; simp) (by omega) (by simp; omega), ha]; simp
  have hkB : ∀ k, a + 1 ≤ k → k < b → d[k]! < N := fun k h0 h1 => by
    rw [gB k h0 h1]
    have hlt : k - (a + 1) < B.length := by omega
    rw [List.getD_eq_getElem?_getD, List.getElem?_eq_getElem hlt]
    exact hN _ (List.getElem_mem hlt)
  have hmono : ∀ i j, a + 1 ≤ i → i ≤ j → j < b → f d[i]! ≤ f d[j]! := fun i j h0 h1 h2 => by
    rw [gB i h0 (by omega), gB j (by omega) h2]
    exact srt_get hB (by omega) (by omega)
  have HB := Lib.hid gB; have HX := Lib.hid gx; have HK := Lib.hid hkB; have HM := Lib.hid hmono; have HL := Lib.hid hlen; have HS := Lib.hid hs; have HD := Lib.hid hd; have HA := Lib.hid ha; have HBB := Lib.hid hb; have HSB := Lib.hid hB
  clear gB gx hkB hmono hlen hs hd ha hb hN hB hBn
  have hone : ((a : Int) + 1 - (a : Int) == 1) = true := by rw [beq_iff_eq]; omega
  go_enter Try.func115, Try.ntmps115
  go_wp2
  go_loopg [10, 11, 12] b (fun g1 vi vj _ wr => ∃ (i j : Nat), vi = .int .i64 i ∧ vj = .int .i64 j ∧ a + 1 ≤ i ∧ i ≤ j ∧ j ≤ b ∧ j - i ≤ g1 ∧ Aside (SW encN w0 blk off d wr) ∧ Hid ((∀ k, a + 1 ≤ k → k < i → f d[k]! < f x) ∧ (∀ k, j ≤ k → k < b → f x ≤ f d[k]!)))
  case atStart => exact ⟨a + 1, b, by go_num, rfl, by omega, by omega, by omega, by omega, S0, fun k h0 h1 => by omega, fun k h0 h1 => by omega⟩
  case round =>
    clear S0
    obtain ⟨i, j, rfl, rfl, hai, hij, hjb, hg1, S1, HQ⟩ := hrel
    by_cases hlt : i < j
    · obtain ⟨g', rfl⟩ : ∃ g', gk = g' + 1 := ⟨gk - 1, by omega⟩
      have hltz : (i : Int) < (j : Int) := by omega
      obtain ⟨h, hh⟩ : ∃ h, h = (i + j) / 2 := ⟨_, rfl⟩
      have hih : i ≤ h := by omega
      have hhj : h < j := by omega
      have hz : ((i : Int) + (j : Int)) / 2 = (h : Int) := by omega
      clear hh
      go_wp2
      clear hz
      have hyN := HK.out h (by omega) (by omega)
      have hM1 : ∀ k, k ≤ h → a + 1 ≤ k → f d[k]! ≤ f d[h]! := fun k h1 h0 => HM.out k h h0 h1 (by omega)
      have hM2 : ∀ k, h ≤ k → k < b → f d[h]! ≤ f d[k]! := fun k h1 h0 => HM.out h k (by omega) h1 h0
      have l1 := S1.out.cl HR.out (by rw [HS.out]) h (by omega)
      have l2 := S1.out.cl HR.out (by rw [HS.out]) a (by omega)
      rw [HX.out] at l2
      generalize hy : d[h]! = y at *
      have HY := Lib.hid hy; clear hy
      have HM1 := Lib.hid hM1; have HM2 := Lib.hid hM2; clear hM1 hM2
      have hc := fun n os => HC.out.at_ rfl S1.out hyN hx n os
      have p1 : (0 : Int) ≤ (h : Int) := by omega
      have p2 : (h : Int) < (d.size : Int) := by omega
      have p3 : (0 : Int) ≤ (a : Int) := by omega
      have p4 : (a : Int) < (d.size : Int) := by omega
      by_cases hv : f y < f x
      · have hd1 : decide (f y - f x < 0) = true := decide_eq_true (by omega)
        go_quiet_grown (first | (go_at_call 85; refine Calls.grown_of (hc _ _)))
        have S2 : Aside (SW encN w0 blk off d (grow (wr.drewN nq) osq)) := S1.out.grown nq osq
        clear l1 l2 hc S1
        generalize grow (wr.drewN nq) osq = w2 at S2 ⊢
        go_wp2
        go_roundg g'
        case measure => omega
        case rel => exact ⟨h + 1, j, by go_num, rfl, by omega, by omega, by omega, by omega, S2, fun k h0 h1 => Int.lt_of_le_of_lt (HM1.out k (by omega) h0) hv, HQ.out.2⟩
      · have hd1 : decide (f y - f x < 0) = false := decide_eq_false (by omega)
        go_quiet_grown (first | (go_at_call 85; refine Calls.grown_of (hc _ _)))
        have S2 : Aside (SW encN w0 blk off d (grow (wr.drewN nq) osq)) := S1.out.grown nq osq
        clear l1 l2 hc S1
        generalize grow (wr.drewN nq) osq = w2 at S2 ⊢
        go_wp2
        go_roundg g'
        case measure => omega
        case rel => exact ⟨i, h, rfl, rfl, by omega, by omega, by omega, by omega, S2, HQ.out.1, fun k h0 h1 => by have := HM2.out k h0 h1; omega⟩
    · obtain rfl : i = j := by omega
      -- x changes places up to i
      have hst : Hid (∀ k, k ≤ i - 1 → a ≤ k → swapsUp d a (k - a) = swapsUp d a (k - a)) := fun k _ _ => rfl
      go_wp2
      go_loopg [13] b (fun g1 vk w3 => ∃ (k : Nat), vk = .int .i64 k ∧ a ≤ k ∧ k ≤ i - 1 ∧ i - 1 - k ≤ g1 ∧ Aside (SW encN w0 blk off (swapsUp d a (k - a)) w3))
      case atStart => exact ⟨a, rfl, by omega, by omega, by omega, by rw [Nat.sub_self]; exact S1⟩
      case round =>
        clear S1
        rename World => w3
        obtain ⟨k, rfl, hak, hki, hg2, S3⟩ := hrel
        by_cases hlt2 : k < i - 1
        · obtain ⟨g', rfl⟩ : ∃ g', gk = g' + 1 := ⟨gk - 1, by omega⟩
          have hltz : (k : Int) < (i : Int) - 1 := by omega
          have hsz3 := swapsUp_size d a (k - a)
          have hst : swapsUp d a (k + 1 - a) = swp (swapsUp d a (k - a)) k (k + 1) := by
            rw [show k + 1 - a = (k - a) + 1 by omega, swapsUp, show a + (k - a) = k by omega]
          have hsD := HS.out
          have S3' := S3.out
          have hi1 : k < (swapsUp d a (k - a)).size := by rw [hsz3]; omega
          have hj1 : k + 1 < (swapsUp d a (k - a)).size := by rw [hsz3]; omega
          generalize swapsUp d a (k - a) = dk at *
          obtain ⟨x1, hx1⟩ : ∃ x, x = dk[k]! := ⟨_, rfl⟩
          obtain ⟨y1, hy1⟩ : ∃ y, y = dk[k + 1]! := ⟨_, rfl⟩
          have c1 := S3'.c1 HR.out (by omega) k hi1
          have c2 := S3'.c1 HR.out (by omega) (k + 1) hj1
          have f1 := S3'.f1 HR.out (by omega) k hi1
          have f2 := S3'.f1 HR.out (by omega) (k + 1) hj1
          obtain ⟨u, c3⟩ := S3'.c2 HR.out (by omega) k (k + 1) hi1 hj1 (encN y1)
          have S4 : Aside (SW encN w0 blk off (swp dk k (k + 1)) ((w3.setCell ⟨blk, off + k, none⟩ (encN y1)).setCell ⟨blk, off + (k + 1), none⟩ (encN x1)).drew) := by rw [hx1, hy1]; exact S3'.swapped HR.out k (k + 1) hi1 hj1
          rw [← hx1] at c1
          rw [← hy1] at c2
          rw [← hst] at S4
          have H4 := Lib.hid S4
          clear S3 S3' hx1 hy1 hst S4 hsz3 hi1 hj1 hsD
          have p1 : (0 : Int) ≤ (k : Int) := by omega
          have p2 : (k : Int) < (d.size : Int) := by omega
          have p3 : (0 : Int) ≤ (k : Int) + 1 := by omega
          have p4 : (k : Int) + 1 < (d.size : Int) := by omega
          have rk : IntKind.i64.wrap ((k : Int) + 1) = (k : Int) + 1 := by rw [IntKind.wrap_i64]; omega
          have ek : ((k : Int) + 1).toNat = k + 1 := by omega
          go_wp2_with fail
          go_big_region
          clear c1 c2 c3 f1 f2 rk ek
          go_wp2
          go_roundg g'
          case measure => omega
          case rel => exact ⟨k + 1, by go_num, by omega, by omega, by omega, H4.out⟩
        · have hki' : k = i - 1 := by omega
          subst hki'
          go_wp2
          (try simp only [Exit.inBlock, Exit.then])
          refine bodyPost_ret (results_none rfl _ _ _) rfl ?_
          have hL := HL.out; have hbb := HBB.out; have haa := HA.out
          have hdB : B.take (i - 1 - a) ++ B.drop (i - 1 - a) = B := List.take_append_drop _ _
          have hl := swapsUp_list d P (B.take (i - 1 - a)) (B.drop (i - 1 - a)) T x a (by rw [hdB]; exact HD.out) HA.out (i - 1 - a) (by rw [List.length_take]; omega)
          rw [List.take_of_length_le (by rw [List.length_take]; omega), List.drop_of_length_le (by rw [List.length_take]; omega), List.nil_append] at hl
          refine ⟨rfl, swapsUp d a (i - 1 - a), swapsUp_size _ _ _, S3.out, B.take (i - 1 - a) ++ [x] ++ B.drop (i - 1 - a), ?_, ?_, ?_⟩
          · rw [hl]; simp
          · have hpm := List.perm_middle (l₁ := B.take (i - 1 - a)) (a := x) (l₂ := B.drop (i - 1 - a))
            rw [hdB] at hpm
            simpa using hpm
          · rw [List.append_assoc, List.singleton_append]
            refine ins_step f x (B.take (i - 1 - a)) (B.drop (i - 1 - a)) (by rw [hdB]; exact HSB.out) (fun y hy => ?_) (fun y hy => ?_)
            · obtain ⟨n, hn, rfl⟩ := List.getElem_of_mem hy
              rw [List.length_take] at hn
              have := HQ.out.1 (a + 1 + n) (by omega) (by omega)
              rw [HB.out (a + 1 + n) (by omega) (by omega), show a + 1 + n - (a + 1) = n by omega, List.getD_eq_getElem?_getD, List.getElem?_eq_getElem (by omega)] at this
              rw [List.getElem_take]
              exact Int.le_of_lt this
            · obtain ⟨n, hn, rfl⟩ := List.getElem_of_mem hy
              rw [List.length_drop] at hn
              have := HQ.out.2 (i + n) (by omega) (by omega)
              rw [HB.out (i + n) (by omega) (by omega), show i + n - (a + 1) = i - 1 - a + n by omega, List.getD_eq_getElem?_getD, List.getElem?_eq_getElem (by omega)] at this
              rw [List.getElem_drop]
              exact this

set_option maxHeartbeats 8000000 in
set_option maxRecDepth 100000 in
/-- one behind the others -/
theorem symMerge_last (cb : Array Value) (f : Nat → Int) (N blk off cap a m : Nat) (d0 d : Array Nat) (w0 w : World) (R : Row1 encN w0 blk off d0) (hs : d0.size = d.size) (hC : CmpOk cb f N blk off d.size w0) (S : SW encN w0 blk off d w)
    (P A T : List Nat) (y : Nat) (hd : d.toList = P ++ A ++ [y] ++ T) (ha : P.length = a) (hm : (P ++ A).length = m) (hA : srt f A) (hAn : 1 < A.length) (hy : y < N) (hN : ∀ x ∈ A, x < N) (hsz : d.size ≤ 1000) :
    Calls Try.prog 115 #[.slice (some ⟨blk, off, none⟩) d.size cap, .int .i64 a, .int .i64 m, .int .i64 ((m : Int) + 1), .func (.func 85) #[] cb] w fun e w' => e = .returned (.tuple #[]) ∧
      ∃ d' : Array Nat, d'.size = d.size ∧ SW encN w0 blk off d' w' ∧ ∃ C, d'.toList = P ++ C ++ T ∧ C.Perm (A ++ [y]) ∧ srt f C := by
  have S0 : Aside (SW encN w0 blk off d w) := S
  have mixed : Try.prog.follows .mixedOrders = true := by kernel_rfl
  clear S
  have hlen : d.size = P.length + A.length + 1 + T.length := by rw [← Array.length_toList, hd]; simp only [List.length_append, List.length_singleton]
  simp only [List.length_append] at hm
  have HR := Lib.hid R; have HC := Lib.hid hC; clear R hC
  have hbs : m + 1 ≤ d.size := by omega
  have hab : a + 1 < m := by omega
  have gA : ∀ k, a ≤ k → k < m → d[k]! = A.getD (k - a) 0 := fun k h0 h1 => by
    have := seg_get (P := P) (A := A) (T := [y] ++ T) (by rw [hd]; simp) (k := k) (by omega) (by omega)
    rw [this, ha]
  have gy : d[m]! = y := by rw [seg_get (P := P ++ A) (A := [y]) (T := T) hd (by simp; omega) (by simp; omega)]; simp only [List.length_append]; rw [hm, Nat.sub_self]; rfl
  have hkA : ∀ k, a ≤ k → k < m → d[k]! < N := fun k h0 h1 => by
    rw [gA k h0 h1]
    have hlt : k - a < A.length := by omega
    rw [List.getD_eq_getElem?_getD, List.getElem?_eq_getElem hlt]
    exact hN _ (List.getElem_mem hlt)
  have hmono : ∀ i j, a ≤ i → i ≤ j → j < m → f d[i]! ≤ f d[j]! := fun i j h0 h1 h2 => by
    rw [gA i h0 (by omega), gA j (by omega) h2]
    exact srt_get hA (by omega) (by omega)
  have HB := Lib.hid gA; have HX := Lib.hid gy; have HK := Lib.hid hkA; have HM := Lib.hid hmono; have HL := Lib.hid hlen; have HS := Lib.hid hs; have HD := Lib.hid hd; have HA := Lib.hid ha; have HMM := Lib.hid hm; have HSA := Lib.hid hA
  clear gA gy hkA hmono hlen hs hd ha hm hN hA hAn
  have hno : ((m : Int) - (a : Int) == 1) = false := by simp; omega
  have hone : ((m : Int) + 1 - (m : Int) == 1) = true := by rw [beq_iff_eq]; omega
  go_enter Try.func115, Try.ntmps115
  go_wp2
  go_loopg [14, 15, 16] m (fun g1 vi vj _ wr => ∃ (i j : Nat), vi = .int .i64 i ∧ vj = .int .i64 j ∧ a ≤ i ∧ i ≤ j ∧ j ≤ m ∧ j - i ≤ g1 ∧ Aside (SW encN w0 blk off d wr) ∧ Hid ((∀ k, a ≤ k → k < i → f d[k]! ≤ f y) ∧ (∀ k, j ≤ k → k < m → f y ≤ f d[k]!)))
  case atStart => exact ⟨a, m, rfl, rfl, by omega, by omega, by omega, by omega, S0, fun k h0 h1 => by omega, fun k h0 h1 => by omega⟩
  case round =>
    clear S0
    obtain ⟨i, j, rfl, rfl, hai, hij, hjb, hg1, S1, HQ⟩ := hrel
    by_cases hlt : i < j
    · obtain ⟨g', rfl⟩ : ∃ g', gk = g' + 1 := ⟨gk - 1, by omega⟩
      have hltz : (i : Int) < (j : Int) := by omega
      obtain ⟨h, hh⟩ : ∃ h, h = (i + j) / 2 := ⟨_, rfl⟩
      have hih : i ≤ h := by omega
      have hhj : h < j := by omega
      have hz : ((i : Int) + (j : Int)) / 2 = (h : Int) := by omega
      clear hh
      go_wp2
      clear hz
      have hxN := HK.out h (by omega) (by omega)
      have hM1 : ∀ k, k ≤ h → a ≤ k → f d[k]! ≤ f d[h]! := fun k h1 h0 => HM.out k h h0 h1 (by omega)
      have hM2 : ∀ k, h ≤ k → k < m → f d[h]! ≤ f d[k]! := fun k h1 h0 => HM.out h k (by omega) h1 h0
      have l1 := S1.out.cl HR.out (by rw [HS.out]) h (by omega)
      have l2 := S1.out.cl HR.out (by rw [HS.out]) m (by omega)
      rw [HX.out] at l2
      generalize hx : d[h]! = x at *
      have HY := Lib.hid hx; clear hx
      have HM1 := Lib.hid hM1; have HM2 := Lib.hid hM2; clear hM1 hM2
      have hc := fun n os => HC.out.at_ rfl S1.out hy hxN n os
      have p1 : (0 : Int) ≤ (h : Int) := by omega
      have p2 : (h : Int) < (d.size : Int) := by omega
      have p3 : (0 : Int) ≤ (m : Int) := by omega
      have p4 : (m : Int) < (d.size : Int) := by omega
      by_cases hv : f y < f x
      · have hd1 : decide (f y - f x < 0) = true := decide_eq_true (by omega)
        go_quiet_grown (first | (go_at_call 85; refine Calls.grown_of (hc _ _)))
        have S2 : Aside (SW encN w0 blk off d (grow (wr.drewN nq) osq)) := S1.out.grown nq osq
        clear l1 l2 hc S1
        generalize grow (wr.drewN nq) osq = w2 at S2 ⊢
        go_wp2
        go_roundg g'
        case measure => omega
        case rel => exact ⟨i, h, rfl, rfl, by omega, by omega, by omega, by omega, S2, HQ.out.1, fun k h0 h1 => by have := HM2.out k h0 h1; omega⟩
      · have hd1 : decide (f y - f x < 0) = false := decide_eq_false (by omega)
        go_quiet_grown (first | (go_at_call 85; refine Calls.grown_of (hc _ _)))
        have S2 : Aside (SW encN w0 blk off d (grow (wr.drewN nq) osq)) := S1.out.grown nq osq
        clear l1 l2 hc S1
        generalize grow (wr.drewN nq) osq = w2 at S2 ⊢
        go_wp2
        go_roundg g'
        case measure => omega
        case rel => exact ⟨h + 1, j, by go_num, rfl, by omega, by omega, by omega, by omega, S2, fun k h0 h1 => by have := HM1.out k (by omega) h0; omega, HQ.out.2⟩
    · obtain rfl : i = j := by omega
      go_wp2
      go_loopg [17] m (fun g1 vk w3 => ∃ (k : Nat), vk = .int .i64 k ∧ i ≤ k ∧ k ≤ m ∧ k - i ≤ g1 ∧ Aside (SW encN w0 blk off (swapsDn d m (m - k)) w3))
      case atStart => exact ⟨m, rfl, by omega, by omega, by omega, by rw [Nat.sub_self]; exact S1⟩
      case round =>
        clear S1
        rename World => w3
        obtain ⟨k, rfl, hik, hkm, hg2, S3⟩ := hrel
        by_cases hlt2 : i < k
        · obtain ⟨g', rfl⟩ : ∃ g', gk = g' + 1 := ⟨gk - 1, by omega⟩
          obtain ⟨q, rfl⟩ : ∃ q, k = q + 1 := ⟨k - 1, by omega⟩
          have hltz : (i : Int) < (q : Int) + 1 := by omega
          have hsz3 := swapsDn_size d m (m - (q + 1))
          have hst : swapsDn d m (m - q) = swp (swapsDn d m (m - (q + 1))) (q + 1) q := by
            rw [show m - q = (m - (q + 1)) + 1 by omega, swapsDn, show m - (m - (q + 1)) = q + 1 by omega, show q + 1 - 1 = q by omega]
          have hsD := HS.out
          have S3' := S3.out
          have hi1 : q + 1 < (swapsDn d m (m - (q + 1))).size := by rw [hsz3]; omega
          have hj1 : q < (swapsDn d m (m - (q + 1))).size := by rw [hsz3]; omega
          generalize swapsDn d m (m - (q + 1)) = dk at *
          obtain ⟨x1, hx1⟩ : ∃ x, x = dk[q + 1]! := ⟨_, rfl⟩
          obtain ⟨y1, hy1⟩ : ∃ y, y = dk[q]! := ⟨_, rfl⟩
          have c1 := S3'.c1 HR.out (by omega) (q + 1) hi1
          have c2 := S3'.c1 HR.out (by omega) q hj1
          have f1 := S3'.f1 HR.out (by omega) (q + 1) hi1
          have f2 := S3'.f1 HR.out (by omega) q hj1
          obtain ⟨u, c3⟩ := S3'.c2 HR.out (by omega) (q + 1) q hi1 hj1 (encN y1)
          have S4 : Aside (SW encN w0 blk off (swp dk (q + 1) q) ((w3.setCell ⟨blk, off + (q + 1), none⟩ (encN y1)).setCell ⟨blk, off + q, none⟩ (encN x1)).drew) := by rw [hx1, hy1]; exact S3'.swapped HR.out (q + 1) q hi1 hj1
          rw [← hx1] at c1
          rw [← hy1] at c2
          rw [← hst] at S4
          have H4 := Lib.hid S4
          clear S3 S3' hx1 hy1 hst S4 hsz3 hi1 hj1 hsD
          have p1 : (0 : Int) ≤ (q : Int) := by omega
          have p2 : (q : Int) < (d.size : Int) := by omega
          have p3 : (0 : Int) ≤ (q : Int) + 1 := by omega
          have p4 : (q : Int) + 1 < (d.size : Int) := by omega
          have rk : IntKind.i64.wrap ((q : Int) + 1) = (q : Int) + 1 := by rw [IntKind.wrap_i64]; omega
          have rq : IntKind.i64.wrap (q : Int) = (q : Int) := by rw [IntKind.wrap_i64]; omega
          have ek : ((q : Int) + 1).toNat = q + 1 := by omega
          rw [Int.natCast_add]
          go_wp2_with fail
          go_big_region
          clear c1 c2 c3 f1 f2 rk ek rq
          go_wp2
          go_roundg g'
          case measure => omega
          case rel => exact ⟨q, by go_num, by omega, by omega, by omega, H4.out⟩
        · have hki' : i = k := by omega
          subst hki'
          go_wp2
          (try simp only [Exit.inBlock, Exit.then])
          refine bodyPost_ret (results_none rfl _ _ _) rfl ?_
          have hL := HL.out; have hbb := HMM.out; have haa := HA.out
          have hdA : A.take (i - a) ++ A.drop (i - a) = A := List.take_append_drop _ _
          have hl := swapsDn_list d P (A.take (i - a)) (A.drop (i - a)) T y m (by rw [hdA]; exact HD.out) (by rw [hdA, List.length_append]; exact hbb) (m - i) (by rw [List.length_drop]; omega)
          rw [List.length_drop, show A.length - (i - a) - (m - i) = 0 by omega, List.take_zero, List.drop_zero, List.append_nil] at hl
          refine ⟨rfl, swapsDn d m (m - i), swapsDn_size _ _ _, S3.out, A.take (i - a) ++ [y] ++ A.drop (i - a), ?_, ?_, ?_⟩
          · rw [hl]; simp
          · have hpm := List.perm_middle (l₁ := A.take (i - a)) (a := y) (l₂ := A.drop (i - a))
            rw [hdA] at hpm
            exact (by simpa using hpm : (A.take (i - a) ++ [y] ++ A.drop (i - a)).Perm (y :: A)).trans (List.perm_append_comm (l₁ := [y]) (l₂ := A))
          · rw [List.append_assoc, List.singleton_append]
            refine ins_step f y (A.take (i - a)) (A.drop (i - a)) (by rw [hdA]; exact HSA.out) (fun x hx => ?_) (fun x hx => ?_)
            · obtain ⟨n, hn, rfl⟩ := List.getElem_of_mem hx
              rw [List.length_take] at hn
              have := HQ.out.1 (a + n) (by omega) (by omega)
              rw [HB.out (a + n) (by omega) (by omega), show a + n - a = n by omega, List.getD_eq_getElem?_getD, List.getElem?_eq_getElem (by omega)] at this
              rw [List.getElem_take]
              exact this
            · obtain ⟨n, hn, rfl⟩ := List.getElem_of_mem hx
              rw [List.length_drop] at hn
              have := HQ.out.2 (i + n) (by omega) (by omega)
              rw [HB.out (i + n) (by omega) (by omega), show i + n - a = i - a + n by omega, List.getD_eq_getElem?_getD, List.getElem?_eq_getElem (by omega)] at this
              rw [List.getElem_drop]
              exact this
end Go.Proofs.Ytlkabghpcjlohaa
