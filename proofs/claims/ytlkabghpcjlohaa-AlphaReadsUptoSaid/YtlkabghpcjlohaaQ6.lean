/- slices' symMergeCmpFunc, whole: two sorted neighbours become one sorted stretch. -/
import Derived.Test.YtlkabghpcjlohaaQ5
namespace Go.Proofs.Ytlkabghpcjlohaa
set_option linter.unusedVariables false
set_option linter.unusedSimpArgs false
open Go.Shelf Go.RowKit Go.Lib Go.Sort

/-- what a merge of P ++ A ++ B ++ T leaves -/
def Merged (f : Nat → Int) (blk off : Nat) (w0 : World) (d : Array Nat) (P A B T : List Nat) (w' : World) : Prop :=
  ∃ d' : Array Nat, d'.size = d.size ∧ SW encN w0 blk off d' w' ∧ ∃ C, d'.toList = P ++ C ++ T ∧ C.Perm (A ++ B) ∧ srt f C
/-- a merge of stretches shorter than n, whatever lies there -/
def Merges (cb : Array Value) (f : Nat → Int) (N blk off cap size : Nat) (w0 : World) (n : Nat) : Prop :=
  ∀ (a m b : Nat) (d : Array Nat) (w : World) (P A B T : List Nat), d.size = size → SW encN w0 blk off d w → d.toList = P ++ A ++ B ++ T → P.length = a → (P ++ A).length = m → (P ++ A ++ B).length = b →
    0 < A.length → 0 < B.length → srt f A → srt f B → (∀ x ∈ A, x < N) → (∀ x ∈ B, x < N) → b - a ≤ n →
    Calls Try.prog 115 #[.slice (some ⟨blk, off, none⟩) size cap, .int .i64 a, .int .i64 m, .int .i64 b, .func (.func 85) #[] cb] w fun e w' => e = .returned (.tuple #[]) ∧ Merged f blk off w0 d P A B T w'

/-- the cut: how far the head of A and the tail of B reach -/
structure CutAt (f : Nat → Int) (d : Array Nat) (a m b s : Nat) : Prop where
  lo : a ≤ s
  hi : s ≤ m
  lo2 : m ≤ (a + b) / 2 + m - s
  hi2 : (a + b) / 2 + m - s ≤ b
  q1 : a < s → (a + b) / 2 + m - s < b → f d[s - 1]! ≤ f d[(a + b) / 2 + m - s]!
  q2 : s < m → m < (a + b) / 2 + m - s → f d[(a + b) / 2 + m - s - 1]! ≤ f d[s]!

set_option maxHeartbeats 16000000 in
set_option maxRecDepth 100000 in
theorem symMerge_step (cb : Array Value) (f : Nat → Int) (N blk off cap size : Nat) (d0 : Array Nat) (w0 : World) (R : Row1 encN w0 blk off d0) (hs : d0.size = size) (hC : CmpOk cb f N blk off size w0) (hsz : size ≤ 1000) (n : Nat)
    (IH : Merges cb f N blk off cap size w0 n) (a m b : Nat) (d : Array Nat) (w : World) (P A B T : List Nat) (hds : d.size = size) (S : SW encN w0 blk off d w) (hd : d.toList = P ++ A ++ B ++ T) (ha : P.length = a) (hm : (P ++ A).length = m) (hb : (P ++ A ++ B).length = b)
    (hA1 : 1 < A.length) (hB1 : 1 < B.length) (hA : srt f A) (hB : srt f B) (hAN : ∀ x ∈ A, x < N) (hBN : ∀ x ∈ B, x < N) (hn : b - a ≤ n + 1) :
    Calls Try.prog 115 #[.slice (some ⟨blk, off, none⟩) size cap, .int .i64 a, .int .i64 m, .int .i64 b, .func (.func 85) #[] cb] w fun e w' => e = .returned (.tuple #[]) ∧ Merged f blk off w0 d P A B T w' := by
  have S0 : Aside (SW encN w0 blk off d w) := S
  have mixed : Try.prog.follows .mixedOrders = true := by kernel_rfl
  clear S
  have hlen : d.size = P.length + A.length + B.length + T.length := by rw [← Array.length_toList, hd]; simp only [List.length_append]
  have hm0 := hm; have hb0 := hb
  simp only [List.length_append] at hm hb
  have hbs : b ≤ size := by omega
  have ham : a + 1 < m := by omega
  have hmb : m + 1 < b := by omega
  have gA : ∀ k, a ≤ k → k < m → d[k]! = A.getD (k - a) 0 := fun k h0 h1 => by
    have := seg_get (P := P) (A := A) (T := B ++ T) (by rw [hd]; simp) (k := k) (by omega) (by omega)
    rw [this, ha]
  have gB : ∀ k, m ≤ k → k < b → d[k]! = B.getD (k - m) 0 := fun k h0 h1 => by
    have := seg_get (P := P ++ A) (A := B) (T := T) hd (k := k) (by rw [hm0]; omega) (by rw [hm0]; omega)
    rw [this, hm0]
  have kN : ∀ k, a ≤ k → k < b → d[k]! < N := fun k h0 h1 => by
    rcases Nat.lt_or_ge k m with h | h
    · rw [gA k h0 h]
      have hlt : k - a < A.length := by omega
      rw [List.getD_eq_getElem?_getD, List.getElem?_eq_getElem hlt]
      exact hAN _ (List.getElem_mem hlt)
    · rw [gB k h h1]
      have hlt : k - m < B.length := by omega
      rw [List.getD_eq_getElem?_getD, List.getElem?_eq_getElem hlt]
      exact hBN _ (List.getElem_mem hlt)
  have mA : ∀ i j, a ≤ i → i ≤ j → j < m → f d[i]! ≤ f d[j]! := fun i j h0 h1 h2 => by
    rw [gA i h0 (by omega), gA j (by omega) h2]
    exact srt_get hA (by omega) (by omega)
  have mB : ∀ i j, m ≤ i → i ≤ j → j < b → f d[i]! ≤ f d[j]! := fun i j h0 h1 h2 => by
    rw [gB i h0 (by omega), gB j (by omega) h2]
    exact srt_get hB (by omega) (by omega)
  -- the way behind the cut, whatever it is
  have back : ∀ s, CutAt f d a m b s → Hid (∃ A1 A2 B1 B2, A = A1 ++ A2 ∧ B = B1 ++ B2 ∧ A1.length = s - a ∧ A2.length = m - s ∧ B1.length = (a + b) / 2 - s ∧ B2.length = b - ((a + b) / 2 + m - s) ∧
      (∀ x y, A1.getLast? = some x → B2.head? = some y → f x ≤ f y) ∧ (∀ x y, B1.getLast? = some x → A2.head? = some y → f x ≤ f y)) := by
    intro s hc
    have l1 := hc.lo; have l2 := hc.hi; have l3 := hc.lo2; have l4 := hc.hi2
    refine ⟨A.take (s - a), A.drop (s - a), B.take ((a + b) / 2 - s), B.drop ((a + b) / 2 - s), (List.take_append_drop _ _).symm, (List.take_append_drop _ _).symm, by rw [List.length_take]; omega, by rw [List.length_drop]; omega, by rw [List.length_take]; omega, by rw [List.length_drop]; omega, ?_, ?_⟩
    · intro x y hx hy
      have hs0 : a < s := by
        rcases Nat.lt_or_ge a s with h | h
        · exact h
        · rw [show s - a = 0 by omega, List.take_zero] at hx; simp at hx
      have he0 : (a + b) / 2 + m - s < b := by
        rcases Nat.lt_or_ge ((a + b) / 2 + m - s) b with h | h
        · exact h
        · rw [List.drop_of_length_le (by omega)] at hy; simp at hy
      have := hc.q1 hs0 he0
      rw [gA (s - 1) (by omega) (by omega), gB _ (by omega) he0] at this
      rw [List.getLast?_eq_getElem?, List.length_take, List.getElem?_take] at hx
      rw [if_pos (by omega), show min (s - a) A.length - 1 = s - 1 - a by omega] at hx
      rw [List.head?_drop, show (a + b) / 2 - s = (a + b) / 2 + m - s - m by omega] at hy
      rw [List.getD_eq_getElem?_getD, List.getD_eq_getElem?_getD, hx, hy] at this
      exact this
    · intro x y hx hy
      have hs0 : s < m := by
        rcases Nat.lt_or_ge s m with h | h
        · exact h
        · rw [List.drop_of_length_le (by omega)] at hy; simp at hy
      have he0 : m < (a + b) / 2 + m - s := by
        rcases Nat.lt_or_ge m ((a + b) / 2 + m - s) with h | h
        · exact h
        · rw [show (a + b) / 2 - s = 0 by omega, List.take_zero] at hx; simp at hx
      have := hc.q2 hs0 he0
      rw [gB _ (by omega) (by omega), gA s (by omega) hs0] at this
      rw [List.getLast?_eq_getElem?, List.length_take, List.getElem?_take] at hx
      rw [if_pos (by omega), show min ((a + b) / 2 - s) B.length - 1 = (a + b) / 2 + m - s - 1 - m by omega] at hx
      rw [List.head?_drop] at hy
      rw [List.getD_eq_getElem?_getD, List.getD_eq_getElem?_getD, hx, hy] at this
      exact this
  -- THE WALK
  obtain ⟨M, hM⟩ : ∃ M, M = (a + b) / 2 := ⟨_, rfl⟩
  rw [← hM] at back
  have hM1 : 2 * M ≤ a + b := by omega
  have hM2 : a + b ≤ 2 * M + 1 := by omega
  have hz : ((a : Int) + (b : Int)) / 2 = (M : Int) := by omega
  have KN := Lib.hid kN; have MA := Lib.hid mA; have MB := Lib.hid mB; have BK := Lib.hid back; have HD := Lib.hid hd; have HA := Lib.hid ha; have HM0 := Lib.hid hm0; have HB0 := Lib.hid hb0; have HDS := Lib.hid hds; have HS := Lib.hid hs; have HMM := Lib.hid hM; have HR := Lib.hid R; have HC := Lib.hid hC; have HI := Lib.hid IH
  have HSA := Lib.hid hA; have HSB := Lib.hid hB; have HAN := Lib.hid hAN; have HBN := Lib.hid hBN; have HL := Lib.hid hlen; have Hm := Lib.hid hm; have Hb := Lib.hid hb
  clear kN mA mB back hd ha hm0 hb0 hds hs hM R hC IH hA hB hAN hBN hlen hm hb gA gB hA1 hB1
  have hno1 : ((m : Int) - (a : Int) == 1) = false := by simp; omega
  have hno2 : ((b : Int) - (m : Int) == 1) = false := by simp; omega
  obtain ⟨p, hp⟩ : ∃ p, p = M + m - 1 := ⟨_, rfl⟩
  have hpz : (M : Int) + (m : Int) - 1 = (p : Int) := by omega
  have hp1 : p + 1 = M + m := by omega
  clear hp
  have HP1 := Lib.hid hp1; clear hp1
  have hpb : p ≤ M + m := by have := HP1.out; omega
  rcases Nat.lt_or_ge M m with hmid | hmid
  · obtain ⟨s0, hs0⟩ : ∃ s0, s0 = M + m - b := ⟨_, rfl⟩
    have hs0z : (M : Int) + (m : Int) - (b : Int) = (s0 : Int) := by omega
    have hs1 : a ≤ s0 := by omega
    have hs2 : s0 ≤ M := by omega
    have hs3 : s0 + b = M + m := by omega
    have HS3 := Lib.hid hs3; clear hs0 hs3
    go_enter Try.func115, Try.ntmps115
    go_wp2
    go_loopg [20, 21, 23] b (fun g1 vs vr _ wr => ∃ (s r : Nat), vs = .int .i64 s ∧ vr = .int .i64 r ∧ s0 ≤ s ∧ s ≤ r ∧ r ≤ M ∧ r - s ≤ g1 ∧ Aside (SW encN w0 blk off d wr) ∧ Hid ((∀ c, s0 ≤ c → c < s → f d[c]! ≤ f d[p - c]!) ∧ (∀ c, r ≤ c → c < M → f d[p - c]! < f d[c]!)))
    case atStart => exact ⟨s0, M, rfl, rfl, by omega, by omega, by omega, by omega, S0, fun k h0 h1 => by omega, fun k h0 h1 => by omega⟩
    case round =>
      clear S0
      obtain ⟨s, r, rfl, rfl, has, hsr, hrb, hg1, S1, HQ⟩ := hrel
      have hp1 := HP1.out
      have hs3 := HS3.out
      by_cases hlt : s < r
      · obtain ⟨g', rfl⟩ : ∃ g', gk = g' + 1 := ⟨gk - 1, by omega⟩
        have hltz : (s : Int) < (r : Int) := by omega
        obtain ⟨c, hc0⟩ : ∃ c, c = (s + r) / 2 := ⟨_, rfl⟩
        have hsc : s ≤ c := by omega
        have hcr : c < r := by omega
        have hz2 : ((s : Int) + (r : Int)) / 2 = (c : Int) := by omega
        clear hc0
        obtain ⟨q, hq⟩ : ∃ q, q = p - c := ⟨_, rfl⟩
        have hqm : m ≤ q := by omega
        have hqb : q < b := by omega
        have hqc : q + c = p := by omega
        have hq1 : ∀ k, k ≤ c → s0 ≤ k → f d[k]! ≤ f d[c]! ∧ f d[q]! ≤ f d[p - k]! := fun k h1 h0 => ⟨MA.out k c (by omega) h1 (by omega), MB.out q (p - k) hqm (by omega) (by omega)⟩
        have hq2 : ∀ k, c ≤ k → k < M → f d[c]! ≤ f d[k]! ∧ f d[p - k]! ≤ f d[q]! := fun k h1 h0 => ⟨MA.out c k (by omega) h1 (by omega), MB.out (p - k) q (by omega) (by omega) (by omega)⟩
        have rq : IntKind.i64.wrap ((p : Int) - (c : Int)) = (q : Int) := by rw [IntKind.wrap_i64]; omega
        have HQQ := Lib.hid (And.intro hq hqc); clear hq hqc hp1 hs3
        go_wp2
        clear hz2
        have hxN := KN.out q (by omega) hqb
        have hyN := KN.out c (by omega) (by omega)
        have l1 := S1.out.cl HR.out (by rw [HS.out, HDS.out]) q (by rw [HDS.out]; omega)
        have l2 := S1.out.cl HR.out (by rw [HS.out, HDS.out]) c (by rw [HDS.out]; omega)
        have HQ1 := Lib.hid hq1; have HQ2 := Lib.hid hq2; clear hq1 hq2
        generalize hx : d[q]! = x at *
        generalize hy : d[c]! = y at *
        have HX := Lib.hid hx; have HY := Lib.hid hy; clear hx hy
        have hc := fun n os => HC.out.at_ HDS.out S1.out hxN hyN n os
        have p1 : (0 : Int) ≤ (q : Int) := by omega
        have p2 : (q : Int) < (size : Int) := by omega
        have p3 : (0 : Int) ≤ (c : Int) := by omega
        have p4 : (c : Int) < (size : Int) := by omega
        by_cases hv : f x < f y
        · have hd1 : decide (f x - f y < 0) = true := decide_eq_true (by omega)
          go_quiet_grown (first | (go_at_call 85; refine Calls.grown_of (hc _ _)))
          have S2 : Aside (SW encN w0 blk off d (grow (wr.drewN nq) osq)) := S1.out.grown nq osq
          clear l1 l2 hc S1
          generalize grow (wr.drewN nq) osq = w2 at S2 ⊢
          go_wp2
          go_roundg g'
          case measure => omega
          case rel => exact ⟨s, c, rfl, rfl, by omega, by omega, by omega, by omega, S2, HQ.out.1, fun k h0 h1 => by have := HQ2.out k h0 h1; omega⟩
        · have hd1 : decide (f x - f y < 0) = false := decide_eq_false (by omega)
          go_quiet_grown (first | (go_at_call 85; refine Calls.grown_of (hc _ _)))
          have S2 : Aside (SW encN w0 blk off d (grow (wr.drewN nq) osq)) := S1.out.grown nq osq
          clear l1 l2 hc S1
          generalize grow (wr.drewN nq) osq = w2 at S2 ⊢
          go_wp2
          go_roundg g'
          case measure => omega
          case rel => exact ⟨c + 1, r, by go_num, rfl, by omega, by omega, by omega, by omega, S2, fun k h0 h1 => by have := HQ1.out k (by omega) h0; omega, HQ.out.2⟩
      · obtain rfl : s = r := by omega
        have hcut : CutAt f d a m b s := ⟨by omega, by omega, by rw [← HMM.out]; omega, by rw [← HMM.out]; omega, fun h1 h2 => by
            rw [← HMM.out] at h2 ⊢
            have := HQ.out.1 (s - 1) (by omega) (by omega)
            rw [show p - (s - 1) = M + m - s by omega] at this
            exact this, fun h1 h2 => by
            rw [← HMM.out] at h2 ⊢
            have := HQ.out.2 s (by omega) (by omega)
            rw [show p - s = M + m - s - 1 by omega] at this
            omega⟩
        have hbk := BK.out s hcut
        obtain ⟨A1, A2, B1, B2, eA, eB, k1, k2, k3, k4, k5, k6⟩ := hbk
        obtain ⟨e, he⟩ : ∃ e, e = M + m - s := ⟨_, rfl⟩
        have hez : (M : Int) + (m : Int) - (s : Int) = (e : Int) := by omega
        have he1 : e + s = M + m := by omega
        have hme : m ≤ e := by omega
        have heb : e ≤ b := by omega
        have hsM : s ≤ M := by omega
        have K := Lib.hid (And.intro eA (And.intro eB (And.intro k1 (And.intro k2 (And.intro k3 (And.intro k4 (And.intro k5 k6)))))))
        have HE := Lib.hid (And.intro he he1)
        clear eA eB k1 k2 k3 k4 k5 k6 he he1 hp1 HQ hcut hs3
        obtain ⟨eA, eB, k1, k2, k3, k4, k5, k6⟩ := K.out
        have hLl := HL.out; have hml := Hm.out; have hbl := Hb.out; have hheo := HE.out
        rw [← hheo.1] at k4
        have hAl : A.length = A1.length + A2.length := by rw [eA, List.length_append]
        have hBl : B.length = B1.length + B2.length := by rw [eB, List.length_append]
        have sA := srt_append.1 (eA ▸ HSA.out); have sB := srt_append.1 (eB ▸ HSB.out)
        have SK0 : (A2.length = 0 ∨ B1.length = 0) → Hid (d.size = size ∧ d.toList = P ++ A1 ++ B1 ++ (A2 ++ (B2 ++ T))) := fun h => ⟨HDS.out, by rw [HD.out, eA, eB]; rcases h with h | h <;> rw [List.length_eq_zero_iff.1 h] <;> simp⟩
        have ROT : Hid (0 < A2.length → 0 < B1.length → ∀ W, Aside (SW encN w0 blk off d W) → Calls Try.prog 119 #[.slice (some ⟨blk, off, none⟩) size cap, .int .i64 s, .int .i64 m, .int .i64 e, .func (.func 85) #[] cb] W fun e w' => e = .returned (.tuple #[]) ∧ ∃ d1 : Array Nat, Hid (d1.size = size ∧ d1.toList = P ++ A1 ++ B1 ++ (A2 ++ (B2 ++ T))) ∧ Aside (SW encN w0 blk off d1 w')) := Lib.hid (fun z1 z2 W SS => by
          have h := rotate_s 85 cb blk off cap s m e d0 d w0 W HR.out (by rw [HS.out, HDS.out]) SS (P ++ A1) A2 B1 (B2 ++ T) (by rw [HD.out, eA, eB]; simp) (by rw [List.length_append]; have := HA.out; omega) (by have := HM0.out; rw [← this, eA]; simp) (by simp only [List.length_append]; have := HA.out; omega) (by omega) (by omega) (by rw [HDS.out]; exact hsz)
          rw [HDS.out] at h
          exact h.mono fun e' w' ⟨he', d1, g1, g2, g3⟩ => ⟨he', d1, ⟨g1, by rw [g2]; simp⟩, g3⟩)
        have MG1 : Hid (0 < A1.length → 0 < B1.length → ∀ (d1 : Array Nat) W, Hid (d1.size = size ∧ d1.toList = P ++ A1 ++ B1 ++ (A2 ++ (B2 ++ T))) → Aside (SW encN w0 blk off d1 W) → Calls Try.prog 115 #[.slice (some ⟨blk, off, none⟩) size cap, .int .i64 a, .int .i64 s, .int .i64 M, .func (.func 85) #[] cb] W fun e w' => e = .returned (.tuple #[]) ∧ ∃ (d2 : Array Nat) (C1 : List Nat), Hid (d2.size = size ∧ d2.toList = P ++ C1 ++ (A2 ++ (B2 ++ T)) ∧ C1.Perm (A1 ++ B1) ∧ srt f C1) ∧ Aside (SW encN w0 blk off d2 w')) := Lib.hid (fun z1 z2 d1 W hd SS => by
          have h := HI.out a s M d1 W P A1 B1 (A2 ++ (B2 ++ T)) hd.1 SS hd.2 HA.out (by rw [List.length_append]; have := HA.out; omega) (by simp only [List.length_append]; have := HA.out; omega) z1 z2 sA.1 sB.1 (fun x hx => HAN.out x (by rw [eA]; exact List.mem_append_left _ hx)) (fun x hx => HBN.out x (by rw [eB]; exact List.mem_append_left _ hx)) (by omega)
          exact h.mono fun e' w' ⟨he', d2, g1, g2, C1, g3, g4, g5⟩ => ⟨he', d2, C1, ⟨by rw [g1, hd.1], g3, g4, g5⟩, g2⟩)
        have SK1 : Hid ((A1.length = 0 ∨ B1.length = 0) → ∀ (d1 : Array Nat) W, Hid (d1.size = size ∧ d1.toList = P ++ A1 ++ B1 ++ (A2 ++ (B2 ++ T))) → Aside (SW encN w0 blk off d1 W) → ∃ (d2 : Array Nat) (C1 : List Nat), Hid (d2.size = size ∧ d2.toList = P ++ C1 ++ (A2 ++ (B2 ++ T)) ∧ C1.Perm (A1 ++ B1) ∧ srt f C1) ∧ Aside (SW encN w0 blk off d2 W)) := Lib.hid (fun h d1 W hd SS => ⟨d1, A1 ++ B1, ⟨hd.1, by rw [hd.2]; simp, List.Perm.refl _, by rcases h with h | h <;> rw [List.length_eq_zero_iff.1 h] <;> first | (simpa using sB.1) | (simpa using sA.1)⟩, SS⟩)
        have MG2 : Hid (0 < A2.length → 0 < B2.length → ∀ (d2 : Array Nat) (C1 : List Nat) W, Hid (d2.size = size ∧ d2.toList = P ++ C1 ++ (A2 ++ (B2 ++ T)) ∧ C1.Perm (A1 ++ B1) ∧ srt f C1) → Aside (SW encN w0 blk off d2 W) → Calls Try.prog 115 #[.slice (some ⟨blk, off, none⟩) size cap, .int .i64 M, .int .i64 e, .int .i64 b, .func (.func 85) #[] cb] W fun e w' => e = .returned (.tuple #[]) ∧ ∃ (d3 : Array Nat) (C2 : List Nat), Hid (d3.size = size ∧ d3.toList = P ++ C1 ++ C2 ++ T ∧ C1.Perm (A1 ++ B1) ∧ srt f C1 ∧ C2.Perm (A2 ++ B2) ∧ srt f C2) ∧ Aside (SW encN w0 blk off d3 w')) := Lib.hid (fun z1 z2 d2 C1 W hd SS => by
          have hc1 := hd.2.2.1.length_eq
          rw [List.length_append] at hc1
          have h := HI.out M e b d2 W (P ++ C1) A2 B2 T hd.1 SS (by rw [hd.2.1]; simp) (by rw [List.length_append]; have := HA.out; omega) (by simp only [List.length_append]; have := HA.out; omega) (by simp only [List.length_append]; have := HA.out; omega) z1 z2 sA.2.1 sB.2.1 (fun x hx => HAN.out x (by rw [eA]; exact List.mem_append_right _ hx)) (fun x hx => HBN.out x (by rw [eB]; exact List.mem_append_right _ hx)) (by omega)
          exact h.mono fun e' w' ⟨he', d3, g1, g2, C2, g3, g4, g5⟩ => ⟨he', d3, C2, ⟨by rw [g1, hd.1], g3, hd.2.2.1, hd.2.2.2, g4, g5⟩, g2⟩)
        have SK2 : Hid ((A2.length = 0 ∨ B2.length = 0) → ∀ (d2 : Array Nat) (C1 : List Nat) W, Hid (d2.size = size ∧ d2.toList = P ++ C1 ++ (A2 ++ (B2 ++ T)) ∧ C1.Perm (A1 ++ B1) ∧ srt f C1) → Aside (SW encN w0 blk off d2 W) → ∃ (d3 : Array Nat) (C2 : List Nat), Hid (d3.size = size ∧ d3.toList = P ++ C1 ++ C2 ++ T ∧ C1.Perm (A1 ++ B1) ∧ srt f C1 ∧ C2.Perm (A2 ++ B2) ∧ srt f C2) ∧ Aside (SW encN w0 blk off d3 W)) := Lib.hid (fun h d2 C1 W hd SS => ⟨d2, A2 ++ B2, ⟨hd.1, by rw [hd.2.1]; simp, hd.2.2.1, hd.2.2.2, List.Perm.refl _, by rcases h with h | h <;> rw [List.length_eq_zero_iff.1 h] <;> first | (simpa using sB.2.1) | (simpa using sA.2.1)⟩, SS⟩)
        have FIN : Hid (∀ (d3 : Array Nat) (C1 C2 : List Nat) W, Hid (d3.size = size ∧ d3.toList = P ++ C1 ++ C2 ++ T ∧ C1.Perm (A1 ++ B1) ∧ srt f C1 ∧ C2.Perm (A2 ++ B2) ∧ srt f C2) → Aside (SW encN w0 blk off d3 W) → Merged f blk off w0 d P A B T W) := Lib.hid (fun d3 C1 C2 W hd SS => by
          have h := sym_step f A1 A2 B1 B2 C1 C2 (eA ▸ HSA.out) (eB ▸ HSB.out) k5 k6 hd.2.2.1 hd.2.2.2.1 hd.2.2.2.2.1 hd.2.2.2.2.2
          exact ⟨d3, by rw [hd.1, HDS.out], SS, C1 ++ C2, by rw [hd.2.1]; simp, by rw [eA, eB]; exact h.2, h.1⟩)
        have HSK0 := Lib.hid SK0
        clear SK0 sA sB hAl hBl eA eB k5 k6 hLl hml hbl hheo K
        have K1 := Lib.hid k1; have K2 := Lib.hid k2; have K3 := Lib.hid k3; have K4 := Lib.hid k4; clear k1 k2 k3 k4
        rcases Nat.lt_or_ge s m with p1 | p1 <;> rcases Nat.lt_or_ge s M with p2 | p2 <;> rcases Nat.lt_or_ge a s with p3 | p3 <;> rcases Nat.lt_or_ge e b with p4 | p4 <;> have hh := HE.out.2 <;> have hs3 := HS3.out <;> (try (exfalso; omega))
        · clear hh hs3
          have t1 : s < m := p1
          have t2 : m < e := by have := HE.out.2; omega
          have t5 : s < M := p2
          have t3 : a < s := p3
          have t4 : e < b := p4
          have t6 : M < e := by have := HE.out.2; omega
          go_wp2_with (first
            | (go_at_call 119; refine (ROT.out (by have := K2.out; omega) (by have := K3.out; omega) _ S1).mono ?_; rintro e1 w1 ⟨rfl, d1, h1, SS1⟩)
            | (go_at_call 115; (with_reducible refine (MG1.out (by have := K1.out; omega) (by have := K3.out; omega) d1 _ h1 SS1).mono ?_); rintro e2 w2 ⟨rfl, d2, C1, h2, S2⟩)
            | (go_at_call 115; (with_reducible refine (MG2.out (by have := K2.out; omega) (by have := K4.out; omega) d2 C1 _ h2 S2).mono ?_); rintro e3 w3 ⟨rfl, d3, C2, h3, S3⟩))
          go_end0
          exact ⟨rfl, FIN.out d3 C1 C2 _ h3 S3⟩
        · clear hh hs3
          have t1 : s < m := p1
          have t2 : m < e := by have := HE.out.2; omega
          have t5 : s < M := p2
          have t3 : a < s := p3
          have t4 : ¬ e < b := by omega
          have t6 : M < e := by have := HE.out.2; omega
          go_wp2_with (first
            | (go_at_call 119; refine (ROT.out (by have := K2.out; omega) (by have := K3.out; omega) _ S1).mono ?_; rintro e1 w1 ⟨rfl, d1, h1, SS1⟩)
            | (go_at_call 115; (with_reducible refine (MG1.out (by have := K1.out; omega) (by have := K3.out; omega) d1 _ h1 SS1).mono ?_); rintro e2 w2 ⟨rfl, d2, C1, h2, S2⟩; obtain ⟨d3, C2, h3, S3⟩ := SK2.out (Or.inr (by have := K4.out; omega)) d2 C1 _ h2 S2))
          go_end0
          exact ⟨rfl, FIN.out d3 C1 C2 _ h3 S3⟩
        · clear hh hs3
          have t1 : s < m := p1
          have t2 : m < e := by have := HE.out.2; omega
          have t5 : s < M := p2
          have t3 : ¬ a < s := by omega
          have t4 : ¬ e < b := by omega
          have t6 : M < e := by have := HE.out.2; omega
          go_wp2_with (first
            | (go_at_call 119; refine (ROT.out (by have := K2.out; omega) (by have := K3.out; omega) _ S1).mono ?_; rintro e1 w1 ⟨rfl, d1, h1, SS1⟩; obtain ⟨d2, C1, h2, S2⟩ := SK1.out (Or.inl (by have := K1.out; omega)) d1 _ h1 SS1; obtain ⟨d3, C2, h3, S3⟩ := SK2.out (Or.inr (by have := K4.out; omega)) d2 C1 _ h2 S2))
          go_end0
          exact ⟨rfl, FIN.out d3 C1 C2 _ h3 S3⟩
        · clear hh hs3
          have t1 : s < m := p1
          have t2 : ¬ m < e := by have := HE.out.2; omega
          have t5 : ¬ s < M := by omega
          have t3 : a < s := p3
          have t4 : e < b := p4
          have t6 : M < e := by have := HE.out.2; omega
          obtain ⟨d1, h1, SS1⟩ : ∃ d1 : Array Nat, Hid (d1.size = size ∧ d1.toList = P ++ A1 ++ B1 ++ (A2 ++ (B2 ++ T))) ∧ Aside (SW encN w0 blk off d1 wr) := ⟨d, HSK0.out (Or.inr (by have := K3.out; omega)), S1⟩
          obtain ⟨d2, C1, h2, S2⟩ := SK1.out (Or.inr (by have := K3.out; omega)) d1 _ h1 SS1
          go_wp2_with (first
            | (go_at_call 115; (with_reducible refine (MG2.out (by have := K2.out; omega) (by have := K4.out; omega) d2 C1 _ h2 S2).mono ?_); rintro e3 w3 ⟨rfl, d3, C2, h3, S3⟩))
          go_end0
          exact ⟨rfl, FIN.out d3 C1 C2 _ h3 S3⟩
  · have hmid' : ¬ M < m := by omega
    go_enter Try.func115, Try.ntmps115
    go_wp2
    go_loopg [20, 21, 23] b (fun g1 vs vr _ wr => ∃ (s r : Nat), vs = .int .i64 s ∧ vr = .int .i64 r ∧ a ≤ s ∧ s ≤ r ∧ r ≤ m ∧ r - s ≤ g1 ∧ Aside (SW encN w0 blk off d wr) ∧ Hid ((∀ c, a ≤ c → c < s → f d[c]! ≤ f d[p - c]!) ∧ (∀ c, r ≤ c → c < m → f d[p - c]! < f d[c]!)))
    case atStart => exact ⟨a, m, rfl, rfl, by omega, by omega, by omega, by omega, S0, fun k h0 h1 => by omega, fun k h0 h1 => by omega⟩
    case round =>
      clear S0
      obtain ⟨s, r, rfl, rfl, has, hsr, hrb, hg1, S1, HQ⟩ := hrel
      have hp1 := HP1.out
      by_cases hlt : s < r
      · obtain ⟨g', rfl⟩ : ∃ g', gk = g' + 1 := ⟨gk - 1, by omega⟩
        have hltz : (s : Int) < (r : Int) := by omega
        obtain ⟨c, hc0⟩ : ∃ c, c = (s + r) / 2 := ⟨_, rfl⟩
        have hsc : s ≤ c := by omega
        have hcr : c < r := by omega
        have hz2 : ((s : Int) + (r : Int)) / 2 = (c : Int) := by omega
        clear hc0
        obtain ⟨q, hq⟩ : ∃ q, q = p - c := ⟨_, rfl⟩
        have hqm : m ≤ q := by omega
        have hqb : q < b := by omega
        have hqc : q + c = p := by omega
        have hq1 : ∀ k, k ≤ c → a ≤ k → f d[k]! ≤ f d[c]! ∧ f d[q]! ≤ f d[p - k]! := fun k h1 h0 => ⟨MA.out k c (by omega) h1 (by omega), MB.out q (p - k) hqm (by omega) (by omega)⟩
        have hq2 : ∀ k, c ≤ k → k < m → f d[c]! ≤ f d[k]! ∧ f d[p - k]! ≤ f d[q]! := fun k h1 h0 => ⟨MA.out c k (by omega) h1 (by omega), MB.out (p - k) q (by omega) (by omega) (by omega)⟩
        have rq : IntKind.i64.wrap ((p : Int) - (c : Int)) = (q : Int) := by rw [IntKind.wrap_i64]; omega
        have HQQ := Lib.hid (And.intro hq hqc); clear hq hqc hp1
        go_wp2
        clear hz2
        have hxN := KN.out q (by omega) hqb
        have hyN := KN.out c (by omega) (by omega)
        have l1 := S1.out.cl HR.out (by rw [HS.out, HDS.out]) q (by rw [HDS.out]; omega)
        have l2 := S1.out.cl HR.out (by rw [HS.out, HDS.out]) c (by rw [HDS.out]; omega)
        have HQ1 := Lib.hid hq1; have HQ2 := Lib.hid hq2; clear hq1 hq2
        generalize hx : d[q]! = x at *
        generalize hy : d[c]! = y at *
        have HX := Lib.hid hx; have HY := Lib.hid hy; clear hx hy
        have hc := fun n os => HC.out.at_ HDS.out S1.out hxN hyN n os
        have p1 : (0 : Int) ≤ (q : Int) := by omega
        have p2 : (q : Int) < (size : Int) := by omega
        have p3 : (0 : Int) ≤ (c : Int) := by omega
        have p4 : (c : Int) < (size : Int) := by omega
        by_cases hv : f x < f y
        · have hd1 : decide (f x - f y < 0) = true := decide_eq_true (by omega)
          go_quiet_grown (first | (go_at_call 85; refine Calls.grown_of (hc _ _)))
          have S2 : Aside (SW encN w0 blk off d (grow (wr.drewN nq) osq)) := S1.out.grown nq osq
          clear l1 l2 hc S1
          generalize grow (wr.drewN nq) osq = w2 at S2 ⊢
          go_wp2
          go_roundg g'
          case measure => omega
          case rel => exact ⟨s, c, rfl, rfl, by omega, by omega, by omega, by omega, S2, HQ.out.1, fun k h0 h1 => by have := HQ2.out k h0 h1; omega⟩
        · have hd1 : decide (f x - f y < 0) = false := decide_eq_false (by omega)
          go_quiet_grown (first | (go_at_call 85; refine Calls.grown_of (hc _ _)))
          have S2 : Aside (SW encN w0 blk off d (grow (wr.drewN nq) osq)) := S1.out.grown nq osq
          clear l1 l2 hc S1
          generalize grow (wr.drewN nq) osq = w2 at S2 ⊢
          go_wp2
          go_roundg g'
          case measure => omega
          case rel => exact ⟨c + 1, r, by go_num, rfl, by omega, by omega, by omega, by omega, S2, fun k h0 h1 => by have := HQ1.out k (by omega) h0; omega, HQ.out.2⟩
      · obtain rfl : s = r := by omega
        have hcut : CutAt f d a m b s := ⟨by omega, by omega, by rw [← HMM.out]; omega, by rw [← HMM.out]; omega, fun h1 h2 => by
            rw [← HMM.out] at h2 ⊢
            have := HQ.out.1 (s - 1) (by omega) (by omega)
            rw [show p - (s - 1) = M + m - s by omega] at this
            exact this, fun h1 h2 => by
            rw [← HMM.out] at h2 ⊢
            have := HQ.out.2 s (by omega) (by omega)
            rw [show p - s = M + m - s - 1 by omega] at this
            omega⟩
        have hbk := BK.out s hcut
        obtain ⟨A1, A2, B1, B2, eA, eB, k1, k2, k3, k4, k5, k6⟩ := hbk
        obtain ⟨e, he⟩ : ∃ e, e = M + m - s := ⟨_, rfl⟩
        have hez : (M : Int) + (m : Int) - (s : Int) = (e : Int) := by omega
        have he1 : e + s = M + m := by omega
        have hme : m ≤ e := by omega
        have heb : e ≤ b := by omega
        have hsM : s ≤ M := by omega
        have K := Lib.hid (And.intro eA (And.intro eB (And.intro k1 (And.intro k2 (And.intro k3 (And.intro k4 (And.intro k5 k6)))))))
        have HE := Lib.hid (And.intro he he1)
        clear eA eB k1 k2 k3 k4 k5 k6 he he1 hp1 HQ hcut
        obtain ⟨eA, eB, k1, k2, k3, k4, k5, k6⟩ := K.out
        have hLl := HL.out; have hml := Hm.out; have hbl := Hb.out; have hheo := HE.out
        rw [← hheo.1] at k4
        have hAl : A.length = A1.length + A2.length := by rw [eA, List.length_append]
        have hBl : B.length = B1.length + B2.length := by rw [eB, List.length_append]
        have sA := srt_append.1 (eA ▸ HSA.out); have sB := srt_append.1 (eB ▸ HSB.out)
        have SK0 : (A2.length = 0 ∨ B1.length = 0) → Hid (d.size = size ∧ d.toList = P ++ A1 ++ B1 ++ (A2 ++ (B2 ++ T))) := fun h => ⟨HDS.out, by rw [HD.out, eA, eB]; rcases h with h | h <;> rw [List.length_eq_zero_iff.1 h] <;> simp⟩
        have ROT : Hid (0 < A2.length → 0 < B1.length → ∀ W, Aside (SW encN w0 blk off d W) → Calls Try.prog 119 #[.slice (some ⟨blk, off, none⟩) size cap, .int .i64 s, .int .i64 m, .int .i64 e, .func (.func 85) #[] cb] W fun e w' => e = .returned (.tuple #[]) ∧ ∃ d1 : Array Nat, Hid (d1.size = size ∧ d1.toList = P ++ A1 ++ B1 ++ (A2 ++ (B2 ++ T))) ∧ Aside (SW encN w0 blk off d1 w')) := Lib.hid (fun z1 z2 W SS => by
          have h := rotate_s 85 cb blk off cap s m e d0 d w0 W HR.out (by rw [HS.out, HDS.out]) SS (P ++ A1) A2 B1 (B2 ++ T) (by rw [HD.out, eA, eB]; simp) (by rw [List.length_append]; have := HA.out; omega) (by have := HM0.out; rw [← this, eA]; simp) (by simp only [List.length_append]; have := HA.out; omega) (by omega) (by omega) (by rw [HDS.out]; exact hsz)
          rw [HDS.out] at h
          exact h.mono fun e' w' ⟨he', d1, g1, g2, g3⟩ => ⟨he', d1, ⟨g1, by rw [g2]; simp⟩, g3⟩)
        have MG1 : Hid (0 < A1.length → 0 < B1.length → ∀ (d1 : Array Nat) W, Hid (d1.size = size ∧ d1.toList = P ++ A1 ++ B1 ++ (A2 ++ (B2 ++ T))) → Aside (SW encN w0 blk off d1 W) → Calls Try.prog 115 #[.slice (some ⟨blk, off, none⟩) size cap, .int .i64 a, .int .i64 s, .int .i64 M, .func (.func 85) #[] cb] W fun e w' => e = .returned (.tuple #[]) ∧ ∃ (d2 : Array Nat) (C1 : List Nat), Hid (d2.size = size ∧ d2.toList = P ++ C1 ++ (A2 ++ (B2 ++ T)) ∧ C1.Perm (A1 ++ B1) ∧ srt f C1) ∧ Aside (SW encN w0 blk off d2 w')) := Lib.hid (fun z1 z2 d1 W hd SS => by
          have h := HI.out a s M d1 W P A1 B1 (A2 ++ (B2 ++ T)) hd.1 SS hd.2 HA.out (by rw [List.length_append]; have := HA.out; omega) (by simp only [List.length_append]; have := HA.out; omega) z1 z2 sA.1 sB.1 (fun x hx => HAN.out x (by rw [eA]; exact List.mem_append_left _ hx)) (fun x hx => HBN.out x (by rw [eB]; exact List.mem_append_left _ hx)) (by omega)
          exact h.mono fun e' w' ⟨he', d2, g1, g2, C1, g3, g4, g5⟩ => ⟨he', d2, C1, ⟨by rw [g1, hd.1], g3, g4, g5⟩, g2⟩)
        have SK1 : Hid ((A1.length = 0 ∨ B1.length = 0) → ∀ (d1 : Array Nat) W, Hid (d1.size = size ∧ d1.toList = P ++ A1 ++ B1 ++ (A2 ++ (B2 ++ T))) → Aside (SW encN w0 blk off d1 W) → ∃ (d2 : Array Nat) (C1 : List Nat), Hid (d2.size = size ∧ d2.toList = P ++ C1 ++ (A2 ++ (B2 ++ T)) ∧ C1.Perm (A1 ++ B1) ∧ srt f C1) ∧ Aside (SW encN w0 blk off d2 W)) := Lib.hid (fun h d1 W hd SS => ⟨d1, A1 ++ B1, ⟨hd.1, by rw [hd.2]; simp, List.Perm.refl _, by rcases h with h | h <;> rw [List.length_eq_zero_iff.1 h] <;> first | (simpa using sB.1) | (simpa using sA.1)⟩, SS⟩)
        have MG2 : Hid (0 < A2.length → 0 < B2.length → ∀ (d2 : Array Nat) (C1 : List Nat) W, Hid (d2.size = size ∧ d2.toList = P ++ C1 ++ (A2 ++ (B2 ++ T)) ∧ C1.Perm (A1 ++ B1) ∧ srt f C1) → Aside (SW encN w0 blk off d2 W) → Calls Try.prog 115 #[.slice (some ⟨blk, off, none⟩) size cap, .int .i64 M, .int .i64 e, .int .i64 b, .func (.func 85) #[] cb] W fun e w' => e = .returned (.tuple #[]) ∧ ∃ (d3 : Array Nat) (C2 : List Nat), Hid (d3.size = size ∧ d3.toList = P ++ C1 ++ C2 ++ T ∧ C1.Perm (A1 ++ B1) ∧ srt f C1 ∧ C2.Perm (A2 ++ B2) ∧ srt f C2) ∧ Aside (SW encN w0 blk off d3 w')) := Lib.hid (fun z1 z2 d2 C1 W hd SS => by
          have hc1 := hd.2.2.1.length_eq
          rw [List.length_append] at hc1
          have h := HI.out M e b d2 W (P ++ C1) A2 B2 T hd.1 SS (by rw [hd.2.1]; simp) (by rw [List.length_append]; have := HA.out; omega) (by simp only [List.length_append]; have := HA.out; omega) (by simp only [List.length_append]; have := HA.out; omega) z1 z2 sA.2.1 sB.2.1 (fun x hx => HAN.out x (by rw [eA]; exact List.mem_append_right _ hx)) (fun x hx => HBN.out x (by rw [eB]; exact List.mem_append_right _ hx)) (by omega)
          exact h.mono fun e' w' ⟨he', d3, g1, g2, C2, g3, g4, g5⟩ => ⟨he', d3, C2, ⟨by rw [g1, hd.1], g3, hd.2.2.1, hd.2.2.2, g4, g5⟩, g2⟩)
        have SK2 : Hid ((A2.length = 0 ∨ B2.length = 0) → ∀ (d2 : Array Nat) (C1 : List Nat) W, Hid (d2.size = size ∧ d2.toList = P ++ C1 ++ (A2 ++ (B2 ++ T)) ∧ C1.Perm (A1 ++ B1) ∧ srt f C1) → Aside (SW encN w0 blk off d2 W) → ∃ (d3 : Array Nat) (C2 : List Nat), Hid (d3.size = size ∧ d3.toList = P ++ C1 ++ C2 ++ T ∧ C1.Perm (A1 ++ B1) ∧ srt f C1 ∧ C2.Perm (A2 ++ B2) ∧ srt f C2) ∧ Aside (SW encN w0 blk off d3 W)) := Lib.hid (fun h d2 C1 W hd SS => ⟨d2, A2 ++ B2, ⟨hd.1, by rw [hd.2.1]; simp, hd.2.2.1, hd.2.2.2, List.Perm.refl _, by rcases h with h | h <;> rw [List.length_eq_zero_iff.1 h] <;> first | (simpa using sB.2.1) | (simpa using sA.2.1)⟩, SS⟩)
        have FIN : Hid (∀ (d3 : Array Nat) (C1 C2 : List Nat) W, Hid (d3.size = size ∧ d3.toList = P ++ C1 ++ C2 ++ T ∧ C1.Perm (A1 ++ B1) ∧ srt f C1 ∧ C2.Perm (A2 ++ B2) ∧ srt f C2) → Aside (SW encN w0 blk off d3 W) → Merged f blk off w0 d P A B T W) := Lib.hid (fun d3 C1 C2 W hd SS => by
          have h := sym_step f A1 A2 B1 B2 C1 C2 (eA ▸ HSA.out) (eB ▸ HSB.out) k5 k6 hd.2.2.1 hd.2.2.2.1 hd.2.2.2.2.1 hd.2.2.2.2.2
          exact ⟨d3, by rw [hd.1, HDS.out], SS, C1 ++ C2, by rw [hd.2.1]; simp, by rw [eA, eB]; exact h.2, h.1⟩)
        have HSK0 := Lib.hid SK0
        clear SK0 sA sB hAl hBl eA eB k5 k6 hLl hml hbl hheo K
        have K1 := Lib.hid k1; have K2 := Lib.hid k2; have K3 := Lib.hid k3; have K4 := Lib.hid k4; clear k1 k2 k3 k4
        rcases Nat.lt_or_ge s m with p1 | p1 <;> rcases Nat.lt_or_ge s M with p2 | p2 <;> rcases Nat.lt_or_ge a s with p3 | p3 <;> rcases Nat.lt_or_ge e b with p4 | p4 <;> have hh := HE.out.2 <;> (try (exfalso; omega))
        · clear hh
          have t1 : s < m := p1
          have t2 : m < e := by have := HE.out.2; omega
          have t5 : s < M := p2
          have t3 : a < s := p3
          have t4 : e < b := p4
          have t6 : M < e := by have := HE.out.2; omega
          go_wp2_with (first
            | (go_at_call 119; refine (ROT.out (by have := K2.out; omega) (by have := K3.out; omega) _ S1).mono ?_; rintro e1 w1 ⟨rfl, d1, h1, SS1⟩)
            | (go_at_call 115; (with_reducible refine (MG1.out (by have := K1.out; omega) (by have := K3.out; omega) d1 _ h1 SS1).mono ?_); rintro e2 w2 ⟨rfl, d2, C1, h2, S2⟩)
            | (go_at_call 115; (with_reducible refine (MG2.out (by have := K2.out; omega) (by have := K4.out; omega) d2 C1 _ h2 S2).mono ?_); rintro e3 w3 ⟨rfl, d3, C2, h3, S3⟩))
          go_end0
          exact ⟨rfl, FIN.out d3 C1 C2 _ h3 S3⟩
        · clear hh
          have t1 : s < m := p1
          have t2 : m < e := by have := HE.out.2; omega
          have t5 : s < M := p2
          have t3 : ¬ a < s := by omega
          have t4 : e < b := p4
          have t6 : M < e := by have := HE.out.2; omega
          go_wp2_with (first
            | (go_at_call 119; refine (ROT.out (by have := K2.out; omega) (by have := K3.out; omega) _ S1).mono ?_; rintro e1 w1 ⟨rfl, d1, h1, SS1⟩; obtain ⟨d2, C1, h2, S2⟩ := SK1.out (Or.inl (by have := K1.out; omega)) d1 _ h1 SS1)
            | (go_at_call 115; (with_reducible refine (MG2.out (by have := K2.out; omega) (by have := K4.out; omega) d2 C1 _ h2 S2).mono ?_); rintro e3 w3 ⟨rfl, d3, C2, h3, S3⟩))
          go_end0
          exact ⟨rfl, FIN.out d3 C1 C2 _ h3 S3⟩
        · clear hh
          have t1 : s < m := p1
          have t2 : m < e := by have := HE.out.2; omega
          have t5 : s < M := p2
          have t3 : ¬ a < s := by omega
          have t4 : ¬ e < b := by omega
          have t6 : M < e := by have := HE.out.2; omega
          go_wp2_with (first
            | (go_at_call 119; refine (ROT.out (by have := K2.out; omega) (by have := K3.out; omega) _ S1).mono ?_; rintro e1 w1 ⟨rfl, d1, h1, SS1⟩; obtain ⟨d2, C1, h2, S2⟩ := SK1.out (Or.inl (by have := K1.out; omega)) d1 _ h1 SS1; obtain ⟨d3, C2, h3, S3⟩ := SK2.out (Or.inr (by have := K4.out; omega)) d2 C1 _ h2 S2))
          go_end0
          exact ⟨rfl, FIN.out d3 C1 C2 _ h3 S3⟩
        · clear hh
          have t1 : ¬ s < m := by omega
          have t2 : m < e := by have := HE.out.2; omega
          have t5 : s < M := p2
          have t3 : a < s := p3
          have t4 : e < b := p4
          have t6 : ¬ M < e := by have := HE.out.2; omega
          obtain ⟨d1, h1, SS1⟩ : ∃ d1 : Array Nat, Hid (d1.size = size ∧ d1.toList = P ++ A1 ++ B1 ++ (A2 ++ (B2 ++ T))) ∧ Aside (SW encN w0 blk off d1 wr) := ⟨d, HSK0.out (Or.inl (by have := K2.out; omega)), S1⟩
          go_wp2_with (first
            | (go_at_call 115; (with_reducible refine (MG1.out (by have := K1.out; omega) (by have := K3.out; omega) d1 _ h1 SS1).mono ?_); rintro e2 w2 ⟨rfl, d2, C1, h2, S2⟩; obtain ⟨d3, C2, h3, S3⟩ := SK2.out (Or.inl (by have := K2.out; omega)) d2 C1 _ h2 S2))
          go_end0
          exact ⟨rfl, FIN.out d3 C1 C2 _ h3 S3⟩
        · clear hh
          have t1 : ¬ s < m := by omega
          have t2 : ¬ m < e := by have := HE.out.2; omega
          have t5 : ¬ s < M := by omega
          have t3 : a < s := p3
          have t4 : e < b := p4
          have t6 : ¬ M < e := by have := HE.out.2; omega
          obtain ⟨d1, h1, SS1⟩ : ∃ d1 : Array Nat, Hid (d1.size = size ∧ d1.toList = P ++ A1 ++ B1 ++ (A2 ++ (B2 ++ T))) ∧ Aside (SW encN w0 blk off d1 wr) := ⟨d, HSK0.out (Or.inl (by have := K2.out; omega)), S1⟩
          obtain ⟨d2, C1, h2, S2⟩ := SK1.out (Or.inr (by have := K3.out; omega)) d1 _ h1 SS1
          obtain ⟨d3, C2, h3, S3⟩ := SK2.out (Or.inl (by have := K2.out; omega)) d2 C1 _ h2 S2
          go_wp2
          go_end0
          exact ⟨rfl, FIN.out d3 C1 C2 _ h3 S3⟩
end Go.Proofs.Ytlkabghpcjlohaa
