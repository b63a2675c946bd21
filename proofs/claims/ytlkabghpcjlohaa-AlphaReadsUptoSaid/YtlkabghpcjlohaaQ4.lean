/- slices' swapRangeCmpFunc and rotateCmpFunc at a []int of the call's own: two stretches change places; a stretch is turned. -/
import Derived.Test.YtlkabghpcjlohaaQ3
import Derived.Sort.WalkA
import Derived.Sort.WalkB2
import Derived.Sort.WalkB12
import Derived.Deep.LoopGhost
import Derived.BigRegion
import Derived.Lib.Hide
namespace Go.Proofs.Ytlkabghpcjlohaa
set_option linter.unusedVariables false
set_option linter.unusedSimpArgs false
open Go.Shelf Go.RowKit Go.Lib Go.Sort

abbrev encN : Nat → Value := fun n => .int .i64 (n : Int)

set_option maxHeartbeats 4000000 in
set_option maxRecDepth 100000 in
theorem swapRange_s (g : Nat) (cb : Array Value) (blk off cap a b n : Nat) (d0 d : Array Nat) (w0 w : World) (R : Row1 encN w0 blk off d0) (hs : d0.size = d.size) (S : SW encN w0 blk off d w)
    (h1 : a + n ≤ b) (h2 : b + n ≤ d.size) (hsz : d.size ≤ 1000) :
    Calls Try.prog 121 #[.slice (some ⟨blk, off, none⟩) d.size cap, .int .i64 a, .int .i64 b, .int .i64 n, .func (.func g) #[] cb] w fun e w' => e = .returned (.tuple #[]) ∧ SW encN w0 blk off (swapR d a b n) w' := by
  have S0 : Aside (SW encN w0 blk off d w) := S
  clear S
  go_enter Try.func121, Try.ntmps121
  go_wp2
  go_loopg [10] n (fun g1 vi wr => ∃ i : Nat, vi = .int .i64 i ∧ i ≤ n ∧ n ≤ i + g1 ∧ Aside (SW encN w0 blk off (swapR d a b i) wr))
  case atStart => exact ⟨0, rfl, by omega, by omega, S0⟩
  case round =>
    clear S0
    obtain ⟨i, rfl, hin, hg1, S1⟩ := hrel
    by_cases hlt : i < n
    · obtain ⟨g', rfl⟩ : ∃ g', gk = g' + 1 := ⟨gk - 1, by omega⟩
      have hsk := swapR_size d a b i
      have hltz : (i : Int) < (n : Int) := by omega
      obtain ⟨iN, hiN⟩ : ∃ q, q = a + i := ⟨_, rfl⟩
      obtain ⟨jN, hjN⟩ : ∃ q, q = b + i := ⟨_, rfl⟩
      have ea : ((a : Int) + (i : Int)).toNat = iN := by omega
      have pa : (0 : Int) ≤ (a : Int) + (i : Int) := by omega
      have ba : (a : Int) + (i : Int) < (d.size : Int) := by omega
      have ra : IntKind.i64.wrap ((a : Int) + (i : Int)) = (a : Int) + (i : Int) := by rw [IntKind.wrap_i64]; omega
      have eb : ((b : Int) + (i : Int)).toNat = jN := by omega
      have pb : (0 : Int) ≤ (b : Int) + (i : Int) := by omega
      have bb : (b : Int) + (i : Int) < (d.size : Int) := by omega
      have rb : IntKind.i64.wrap ((b : Int) + (i : Int)) = (b : Int) + (i : Int) := by rw [IntKind.wrap_i64]; omega
      have hst : swapR d a b (i + 1) = swp (swapR d a b i) iN jN := by rw [swapR, hiN, hjN]
      have hi1 : iN < (swapR d a b i).size := by omega
      have hj1 : jN < (swapR d a b i).size := by omega
      generalize swapR d a b i = dk at *
      obtain ⟨x, hx⟩ : ∃ x, x = dk[iN]! := ⟨_, rfl⟩
      obtain ⟨y, hy⟩ : ∃ y, y = dk[jN]! := ⟨_, rfl⟩
      have c1 := S1.c1 R (by omega) iN hi1
      have c2 := S1.c1 R (by omega) jN hj1
      have f1 := S1.f1 R (by omega) iN hi1
      have f2 := S1.f1 R (by omega) jN hj1
      obtain ⟨u, c3⟩ := S1.c2 R (by omega) iN jN hi1 hj1 (encN y)
      have S3 : Aside (SW encN w0 blk off (swp dk iN jN) ((wr.setCell ⟨blk, off + iN, none⟩ (encN y)).setCell ⟨blk, off + jN, none⟩ (encN x)).drew) := by rw [hx, hy]; exact S1.swapped R iN jN hi1 hj1
      rw [← hx] at c1
      rw [← hy] at c2
      rw [← hst] at S3
      have HS := Lib.hid S3
      clear S1 hx hy hst S3 hsk hiN hjN hi1 hj1
      go_wp2_with fail
      go_big_region
      clear c1 c2 c3 f1 f2 ea eb ra rb
      go_wp2
      go_roundg g'
      case measure => omega
      case rel => exact ⟨i + 1, by go_num, by omega, by omega, HS.out⟩
    · obtain rfl : i = n := by omega
      go_wp2
      go_end0
      exact ⟨rfl, S1⟩

/-- turning: i places ahead of m and j from it on -/
theorem rot_step1 (P X Y V S : List Nat) (d : Array Nat) (m i j : Nat) (hd : d.toList = P ++ (X ++ Y) ++ V ++ S) (hm : (P ++ (X ++ Y)).length = m) (hi : (X ++ Y).length = i) (hj : V.length = j) (hX : X.length = j) :
    (swapR d (m - i) m j).toList = (P ++ V) ++ Y ++ X ++ S := by
  have h := swapR_list d P X Y V S (m - i) m j (by rw [hd]; simp) (by simp only [List.length_append] at *; omega) hX (by rw [← hm]; simp only [List.length_append]; omega) hj
  rw [h]
theorem rot_step2 (P U X Y S : List Nat) (d : Array Nat) (m i j : Nat) (hd : d.toList = P ++ U ++ (X ++ Y) ++ S) (hm : (P ++ U).length = m) (hi : U.length = i) (hj : (X ++ Y).length = j) (hY : Y.length = i) :
    (swapR d (m - i) (m + j - i) i).toList = P ++ Y ++ X ++ (U ++ S) := by
  have h := swapR_list d P U X Y S (m - i) (m + j - i) i (by rw [hd]; simp) (by simp only [List.length_append] at *; omega) hi (by simp only [List.length_append] at *; omega) hY
  rw [h]; simp
theorem rot_end (P U V S : List Nat) (d : Array Nat) (m i : Nat) (hd : d.toList = P ++ U ++ V ++ S) (hm : (P ++ U).length = m) (hi : U.length = i) (hj : V.length = i) : (swapR d (m - i) m i).toList = P ++ V ++ U ++ S := by
  have h := swapR_list d P U [] V S (m - i) m i (by rw [hd]; simp) (by simp only [List.length_append] at *; omega) hi (by rw [← hm]; simp) hj
  rw [h]; simp

set_option maxHeartbeats 4000000 in
set_option maxRecDepth 100000 in
theorem rotate_s (g : Nat) (cb : Array Value) (blk off cap a m b : Nat) (d0 d : Array Nat) (w0 w : World) (R : Row1 encN w0 blk off d0) (hs : d0.size = d.size) (S : SW encN w0 blk off d w)
    (P U V T : List Nat) (hd : d.toList = P ++ U ++ V ++ T) (ha : P.length = a) (hm : (P ++ U).length = m) (hb : (P ++ U ++ V).length = b) (h1 : a < m) (h2 : m < b) (hsz : d.size ≤ 1000) :
    Calls Try.prog 119 #[.slice (some ⟨blk, off, none⟩) d.size cap, .int .i64 a, .int .i64 m, .int .i64 b, .func (.func g) #[] cb] w fun e w' => e = .returned (.tuple #[]) ∧ ∃ d' : Array Nat, d'.size = d.size ∧ d'.toList = P ++ V ++ U ++ T ∧ SW encN w0 blk off d' w' := by
  have S0 : Aside (SW encN w0 blk off d w) := S
  clear S
  have hlen : d.size = P.length + U.length + V.length + T.length := by rw [← Array.length_toList, hd]; simp only [List.length_append]
  simp only [List.length_append] at hm hb
  have HR := Lib.hid R; clear R
  -- the parts
  have key : ∀ (i j : Nat) (dk : Array Nat) (W : World), dk.size = d.size → Hid (∃ P' U' V' T' : List Nat, dk.toList = P' ++ U' ++ V' ++ T' ∧ (P' ++ U').length = m ∧ U'.length = i ∧ V'.length = j ∧ P' ++ V' ++ U' ++ T' = P ++ V ++ U ++ T) → 0 < i → 0 < j → m + j ≤ d.size ∧ i ≤ m := by
    intro i j dk W hk ⟨P', U', V', T', e1, e2, e3, e4, _⟩ _ _
    have : dk.size = P'.length + U'.length + V'.length + T'.length := by rw [← Array.length_toList, e1]; simp only [List.length_append]
    simp only [List.length_append] at e2
    omega
  have KEY := Lib.hid key; clear key
  have HD := Lib.hid hd; clear hd
  have hba : b ≤ d.size := by omega
  have hst : Hid (∃ P' U' V' T' : List Nat, d.toList = P' ++ U' ++ V' ++ T' ∧ (P' ++ U').length = m ∧ U'.length = m - a ∧ V'.length = b - m ∧ P' ++ V' ++ U' ++ T' = P ++ V ++ U ++ T) :=
    ⟨P, U, V, T, HD.out, by simp only [List.length_append]; omega, by omega, by omega, rfl⟩
  have HS0 := Lib.hid hs; clear hs
  clear hlen ha hm hb HD
  go_enter Try.func119, Try.ntmps119
  go_wp2
  go_loopg [10, 11] d.size (fun g1 vi vj wr => ∃ (i j : Nat) (dk : Array Nat), vi = .int .i64 i ∧ vj = .int .i64 j ∧ 0 < i ∧ 0 < j ∧ i + j ≤ g1 ∧ dk.size = d.size ∧ Aside (SW encN w0 blk off dk wr) ∧
    Hid (∃ P' U' V' T' : List Nat, dk.toList = P' ++ U' ++ V' ++ T' ∧ (P' ++ U').length = m ∧ U'.length = i ∧ V'.length = j ∧ P' ++ V' ++ U' ++ T' = P ++ V ++ U ++ T))
  case atStart => exact ⟨m - a, b - m, d, by go_num, by go_num, by omega, by omega, by omega, rfl, S0, hst⟩
  case round =>
    clear S0
    obtain ⟨i, j, dk, rfl, rfl, hi0, hj0, hg1, hsk, S1, HL⟩ := hrel
    obtain ⟨q1, q2⟩ := KEY.out i j dk wr hsk HL hi0 hj0
    have hij : i + j ≤ 2000 := by omega
    have HK := Lib.hid hsk
    clear hst
    rcases Nat.lt_trichotomy i j with hlt | heq | hgt
    · obtain ⟨g', rfl⟩ : ∃ g', gk = g' + 1 := ⟨gk - 1, by omega⟩
      have hnx : Hid (∃ P' U' V' T' : List Nat, (swapR dk (m - i) (m + j - i) i).toList = P' ++ U' ++ V' ++ T' ∧ (P' ++ U').length = m ∧ U'.length = i ∧ V'.length = j - i ∧ P' ++ V' ++ U' ++ T' = P ++ V ++ U ++ T) := by
        obtain ⟨P', U', V', T', e1, e2, e3, e4, e5⟩ := HL
        refine ⟨P', V'.drop (j - i), V'.take (j - i), U' ++ T', ?_, ?_, ?_, ?_, ?_⟩
        · refine rot_step2 P' U' (V'.take (j - i)) (V'.drop (j - i)) T' dk m i j (by rw [List.take_append_drop]; exact e1) e2 e3 (by rw [List.take_append_drop]; exact e4) (by rw [List.length_drop]; omega)
        · simp only [List.length_append, List.length_drop] at e2 ⊢; omega
        · rw [List.length_drop]; omega
        · rw [List.length_take]; omega
        · rw [← e5]
          conv => rhs; rw [← List.take_append_drop (j - i) V']
          simp
      have hc := fun W (SS : SW encN w0 blk off dk W) => swapRange_s g cb blk off cap (m - i) (m + j - i) i d0 dk w0 W HR.out (by rw [HS0.out, HK.out]) SS (by omega) (by omega) (by omega)
      rw [hsk] at hc
      have z1 : ((m - i : Nat) : Int) = (m : Int) - (i : Int) := by omega
      have z2 : ((m + j - i : Nat) : Int) = (m : Int) + (j : Int) - (i : Int) := by omega
      rw [z1, z2] at hc
      have z3 : ((j - i : Nat) : Int) = (j : Int) - (i : Int) := by omega
      have HC := Lib.hid hc
      clear hc z1 z2 hsk
      have hsz2 := Lib.hid (swapR_size dk (m - i) (m + j - i) i)
      have Z3 := Lib.hid z3; clear z3
      go_wp2_with (go_at_call 121; (with_reducible refine (HC.out _ S1.out).mono ?_); rintro e w2 ⟨rfl, S2⟩)
      have S2' : Aside (SW encN w0 blk off (swapR dk (m - i) (m + j - i) i) w2) := S2
      go_roundg g'
      case measure => omega
      case rel => exact ⟨i, j - i, _, rfl, by rw [Z3.out], hi0, by omega, by omega, by rw [hsz2.out, HK.out], S2', hnx⟩
    · subst heq
      have hnx : (swapR dk (m - i) m i).toList = P ++ V ++ U ++ T := by
        obtain ⟨P', U', V', T', e1, e2, e3, e4, e5⟩ := HL
        rw [← e5]
        exact rot_end P' U' V' T' dk m i e1 e2 e3 e4
      have HN := Lib.hid hnx; clear hnx
      have hc := fun W (SS : SW encN w0 blk off dk W) => swapRange_s g cb blk off cap (m - i) m i d0 dk w0 W HR.out (by rw [HS0.out, HK.out]) SS (by omega) (by omega) (by omega)
      rw [hsk] at hc
      have z1 : ((m - i : Nat) : Int) = (m : Int) - (i : Int) := by omega
      rw [z1] at hc
      have HC := Lib.hid hc
      clear hc z1 hsk
      have hsz2 := Lib.hid (swapR_size dk (m - i) m i)
      go_wp2_with (go_at_call 121; (with_reducible refine (HC.out _ S1.out).mono ?_); rintro e w2 ⟨rfl, S2⟩)
      go_end0
      exact ⟨rfl, _, by rw [hsz2.out, HK.out], HN.out, S2⟩
    · obtain ⟨g', rfl⟩ : ∃ g', gk = g' + 1 := ⟨gk - 1, by omega⟩
      have hnx : Hid (∃ P' U' V' T' : List Nat, (swapR dk (m - i) m j).toList = P' ++ U' ++ V' ++ T' ∧ (P' ++ U').length = m ∧ U'.length = i - j ∧ V'.length = j ∧ P' ++ V' ++ U' ++ T' = P ++ V ++ U ++ T) := by
        obtain ⟨P', U', V', T', e1, e2, e3, e4, e5⟩ := HL
        refine ⟨P' ++ V', U'.drop j, U'.take j, T', ?_, ?_, ?_, ?_, ?_⟩
        · refine rot_step1 P' (U'.take j) (U'.drop j) V' T' dk m i j (by rw [List.take_append_drop]; exact e1) (by rw [List.take_append_drop]; exact e2) (by rw [List.take_append_drop]; exact e3) e4 (by rw [List.length_take]; omega)
        · simp only [List.length_append, List.length_drop] at e2 ⊢; omega
        · rw [List.length_drop]; omega
        · rw [List.length_take]; omega
        · rw [← e5]
          conv => rhs; rw [← List.take_append_drop j U']
          simp
      have hc := fun W (SS : SW encN w0 blk off dk W) => swapRange_s g cb blk off cap (m - i) m j d0 dk w0 W HR.out (by rw [HS0.out, HK.out]) SS (by omega) (by omega) (by omega)
      rw [hsk] at hc
      have z1 : ((m - i : Nat) : Int) = (m : Int) - (i : Int) := by omega
      rw [z1] at hc
      have z3 : ((i - j : Nat) : Int) = (i : Int) - (j : Int) := by omega
      have HC := Lib.hid hc
      clear hc z1 hsk
      have hsz2 := Lib.hid (swapR_size dk (m - i) m j)
      have Z3 := Lib.hid z3; clear z3
      go_wp2_with (go_at_call 121; (with_reducible refine (HC.out _ S1.out).mono ?_); rintro e w2 ⟨rfl, S2⟩)
      have S2' : Aside (SW encN w0 blk off (swapR dk (m - i) m j) w2) := S2
      go_roundg g'
      case measure => omega
      case rel => exact ⟨i - j, j, _, by rw [Z3.out], rfl, by omega, hj0, by omega, by rw [hsz2.out, HK.out], S2', hnx⟩
end Go.Proofs.Ytlkabghpcjlohaa
