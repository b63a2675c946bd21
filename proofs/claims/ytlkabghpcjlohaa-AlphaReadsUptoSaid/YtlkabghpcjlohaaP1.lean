/- Plain Lean, no program: a text as its runes, each with its bytes; encoding and decoding are each other's inverse. -/
import Derived.Lib.TrimUEq
import Derived.Lib.RuneBytes
import Derived.Laws.Runes
set_option linter.unusedVariables false
set_option linter.unusedSimpArgs false
namespace Go.Proofs.Ytlkabghpcjlohaa
open Go.Lib

/-- a rune's bytes -/
def enc (r : Int) : List UInt8 := (Utf8.encode r).data.toList
/-- the rune at the head of a text, and its width -/
def rn (l : List UInt8) : Nat := (decodeL l).1
def wd (l : List UInt8) : Nat := (decodeL l).2

/-- a text's runes, each with its bytes -/
def chopN : Nat → List UInt8 → List (Nat × List UInt8)
  | 0, _ => []
  | f + 1, l => if l = [] then [] else (rn l, l.take (wd l)) :: chopN f (l.drop (wd l))
def chop (l : List UInt8) : List (Nat × List UInt8) := chopN l.length l
def runes (l : List UInt8) : List Nat := (chop l).map (·.1)
def glue (c : List (Nat × List UInt8)) : List UInt8 := (c.map (·.2)).flatten

theorem wd_pos (l : List UInt8) : 1 ≤ wd l := decodeL_width l
theorem rn_le (l : List UInt8) : rn l ≤ 1114111 := decodeL_rune l

theorem decodeN_le (n b0 b1 b2 b3 : Nat) (h : 1 ≤ n) : (decodeN n b0 b1 b2 b3).2 ≤ n ∧ (decodeN n b0 b1 b2 b3).2 ≤ 4 := by
  unfold decodeN
  repeat' split
  all_goals (simp only; omega)
theorem wd_le (l : List UInt8) (h : l ≠ []) : wd l ≤ l.length := by
  unfold wd; rw [decodeL_N]; exact (decodeN_le _ _ _ _ _ (by have := List.length_pos_iff.2 h; omega)).1
theorem wd_le4 (l : List UInt8) (h : l ≠ []) : wd l ≤ 4 := by
  unfold wd; rw [decodeL_N]; exact (decodeN_le _ _ _ _ _ (by have := List.length_pos_iff.2 h; omega)).2

theorem chopN_eq : ∀ (n : Nat) (l : List UInt8), l.length ≤ n → chopN n l = chopN l.length l
  | 0, l, h => by
    have : l = [] := List.eq_nil_of_length_eq_zero (by omega)
    subst this; rfl
  | n + 1, l, h => by
    by_cases e : l = []
    · subst e; simp [chopN]
    · obtain ⟨k, hk⟩ : ∃ k, l.length = k + 1 := ⟨l.length - 1, by have := List.length_pos_iff.2 e; omega⟩
      rw [hk]
      simp only [chopN, if_neg e]
      have w1 := wd_pos l
      have hl : (l.drop (wd l)).length ≤ k := by rw [List.length_drop]; omega
      rw [chopN_eq n _ (by omega), chopN_eq k _ hl]
theorem chop_nil : chop [] = [] := rfl
theorem chop_ne {l : List UInt8} (h : l ≠ []) : chop l = (rn l, l.take (wd l)) :: chop (l.drop (wd l)) := by
  unfold chop
  obtain ⟨k, hk⟩ : ∃ k, l.length = k + 1 := ⟨l.length - 1, by have := List.length_pos_iff.2 h; omega⟩
  rw [hk]
  simp only [chopN, if_neg h]
  rw [chopN_eq k _ (by have := wd_pos l; rw [List.length_drop]; omega)]
/-- The principle by which all that follows is proved. -/
theorem chop_ind {P : List UInt8 → Prop} (h0 : P []) (h1 : ∀ l, l ≠ [] → P (l.drop (wd l)) → P l) : ∀ l, P l := by
  intro l
  obtain ⟨n, hn⟩ : ∃ n, l.length ≤ n := ⟨_, Nat.le_refl _⟩
  induction n generalizing l with
  | zero => have : l = [] := List.eq_nil_of_length_eq_zero (by omega); subst this; exact h0
  | succ n ih =>
    by_cases e : l = []
    · subst e; exact h0
    · exact h1 l e (ih _ (by have := wd_pos l; rw [List.length_drop]; omega))
theorem glue_chop (l : List UInt8) : glue (chop l) = l := by
  induction l using chop_ind with
  | h0 => rfl
  | h1 l h ih => rw [chop_ne h]; simp only [glue, List.map_cons, List.flatten_cons] at ih ⊢; rw [ih, List.take_append_drop]
theorem chop_length_le (l : List UInt8) : (chop l).length ≤ l.length := by
  induction l using chop_ind with
  | h0 => exact Nat.le_refl _
  | h1 l h ih =>
    rw [chop_ne h, List.length_cons]
    have := wd_pos l; have := List.length_pos_iff.2 h
    rw [List.length_drop] at ih; omega
theorem glue_append (a b : List (Nat × List UInt8)) : glue (a ++ b) = glue a ++ glue b := by simp [glue]

/-! ### encoding -/
theorem u8_ofNat {n : Nat} (h : n < 256) : (UInt8.ofNat n).toNat = n := by simp [UInt8.toNat_ofNat']; omega
theorem valid_iff (r : Int) : Utf8.valid r = true ↔ (0 ≤ r ∧ r < 55296) ∨ (57344 ≤ r ∧ r ≤ 1114111) := by
  simp [Utf8.valid]
theorem enc_cases (r : Int) : enc r =
    (let c := if Utf8.valid r then r.toNat else 65533
     if c < 128 then [UInt8.ofNat c]
     else if c < 2048 then [UInt8.ofNat (192 + c / 64), UInt8.ofNat (128 + c % 64)]
     else if c < 65536 then [UInt8.ofNat (224 + c / 4096), UInt8.ofNat (128 + c / 64 % 64), UInt8.ofNat (128 + c % 64)]
     else [UInt8.ofNat (240 + c / 262144), UInt8.ofNat (128 + c / 4096 % 64), UInt8.ofNat (128 + c / 64 % 64), UInt8.ofNat (128 + c % 64)]) := by
  unfold enc Utf8.encode Utf8.runeError
  simp only
  repeat' split
  all_goals rfl
/-- what a number is encoded as: itself, or U+FFFD -/
def fixr (r : Int) : Nat := if Utf8.valid r then r.toNat else 65533
theorem fixr_valid (r : Int) : fixr r ≤ 1114111 ∧ ¬ (55296 ≤ fixr r ∧ fixr r ≤ 57343) := by
  unfold fixr
  split
  · rename_i h; rw [valid_iff] at h; omega
  · omega
theorem enc_fix (r : Int) : enc r =
    (if fixr r < 128 then [UInt8.ofNat (fixr r)]
     else if fixr r < 2048 then [UInt8.ofNat (192 + fixr r / 64), UInt8.ofNat (128 + fixr r % 64)]
     else if fixr r < 65536 then [UInt8.ofNat (224 + fixr r / 4096), UInt8.ofNat (128 + fixr r / 64 % 64), UInt8.ofNat (128 + fixr r % 64)]
     else [UInt8.ofNat (240 + fixr r / 262144), UInt8.ofNat (128 + fixr r / 4096 % 64), UInt8.ofNat (128 + fixr r / 64 % 64), UInt8.ofNat (128 + fixr r % 64)]) := enc_cases r
theorem enc_ne (r : Int) : enc r ≠ [] := by
  rw [enc_fix]
  repeat' split
  all_goals simp
theorem enc_length (r : Int) : 1 ≤ (enc r).length ∧ (enc r).length ≤ 4 := by
  rw [enc_fix]
  repeat' split
  all_goals simp

set_option maxHeartbeats 2000000 in
/-- A rune that is encoded is read again, whatever follows. -/
theorem dec_enc (r : Int) (t : List UInt8) : decodeL (enc r ++ t) = (fixr r, (enc r).length) := by
  obtain ⟨h1, h2⟩ := fixr_valid r
  rw [enc_fix]
  generalize fixr r = c at h1 h2 ⊢
  rw [decodeL_N]
  by_cases c1 : c < 128
  · rw [if_pos c1]
    simp only [List.cons_append, List.nil_append, List.getD_cons_zero, u8_ofNat (show c < 256 by omega), List.length_cons, List.length_nil]
    unfold decodeN
    rw [if_pos c1]
  · rw [if_neg c1]
    by_cases c2 : c < 2048
    · rw [if_pos c2]
      simp only [List.cons_append, List.nil_append, List.getD_cons_zero, List.getD_cons_succ, u8_ofNat (show 192 + c / 64 < 256 by omega), u8_ofNat (show 128 + c % 64 < 256 by omega), List.length_cons, List.length_nil]
      unfold decodeN
      rw [if_neg (by omega), if_pos (by omega), if_pos (by omega)]
      apply Prod.ext <;> simp only <;> omega
    · rw [if_neg c2]
      by_cases c3 : c < 65536
      · rw [if_pos c3]
        simp only [List.cons_append, List.nil_append, List.getD_cons_zero, List.getD_cons_succ, u8_ofNat (show 224 + c / 4096 < 256 by omega), u8_ofNat (show 128 + c / 64 % 64 < 256 by omega), u8_ofNat (show 128 + c % 64 < 256 by omega), List.length_cons, List.length_nil]
        unfold decodeN
        rw [if_neg (by omega), if_neg (by omega), if_pos (by omega), if_pos (by omega)]
        apply Prod.ext <;> simp only <;> omega
      · rw [if_neg c3]
        simp only [List.cons_append, List.nil_append, List.getD_cons_zero, List.getD_cons_succ, u8_ofNat (show 240 + c / 262144 < 256 by omega), u8_ofNat (show 128 + c / 4096 % 64 < 256 by omega), u8_ofNat (show 128 + c / 64 % 64 < 256 by omega), u8_ofNat (show 128 + c % 64 < 256 by omega), List.length_cons, List.length_nil]
        unfold decodeN
        rw [if_neg (by omega), if_neg (by omega), if_neg (by omega), if_pos (by omega), if_pos (by omega)]
        apply Prod.ext <;> simp only <;> omega
theorem chop_enc (r : Int) (t : List UInt8) : chop (enc r ++ t) = (fixr r, enc r) :: chop t := by
  have h : enc r ++ t ≠ [] := by simp [enc_ne r]
  have hr : rn (enc r ++ t) = fixr r := by unfold rn; rw [dec_enc]
  have hw : wd (enc r ++ t) = (enc r).length := by unfold wd; rw [dec_enc]
  rw [chop_ne h, hr, hw, List.take_left, List.drop_left]

/-! ### decoding -/
theorem rn_valid (l : List UInt8) : Utf8.valid (rn l) = true := by
  rw [valid_iff]
  unfold rn
  rw [decodeL_N]
  have h0 := (l.getD 0 0).toNat_lt
  unfold decodeN
  repeat' split
  all_goals (simp only; omega)
theorem fixr_rn (l : List UInt8) : fixr (rn l) = rn l := by simp [fixr, rn_valid]
theorem fixr_fixr (r : Int) : fixr (fixr r) = fixr r := by
  have h := fixr_valid r
  generalize fixr r = c at h ⊢
  have hv : Utf8.valid (c : Int) = true := by rw [valid_iff]; omega
  unfold fixr
  rw [if_pos hv, Int.toNat_natCast]
theorem enc_fixr (r : Int) : enc (fixr r) = enc r := by rw [enc_fix, enc_fix, fixr_fixr]

/-- Is the head a byte that belongs to no rune? -/
def badHead (l : List UInt8) : Bool := decide (rn l = 65533) && decide (wd l = 1)

theorem toNat_inj8 {a : UInt8} {n : Nat} (h : a.toNat = n) : UInt8.ofNat n = a := by subst h; simp

set_option maxHeartbeats 4000000 in
/-- What is read is encoded as it was. -/
theorem enc_rn (l : List UInt8) (h : l ≠ []) (hb : badHead l = false) : enc (rn l) = l.take (wd l) := by
  rw [enc_fix, fixr_rn]
  have hb' : ¬ (rn l = 65533 ∧ wd l = 1) := by simpa [badHead] using hb
  clear hb
  unfold rn wd at *
  rw [decodeL_N] at *
  match l, h with
  | [b0], _ =>
    have t0 := b0.toNat_lt
    simp only [List.getD_cons_zero, List.getD_cons_succ, List.getD_nil, List.length_cons, List.length_nil] at hb' ⊢
    unfold decodeN at hb' ⊢
    by_cases c : b0.toNat < 128
    · rw [if_pos c]; simp only; rw [if_pos c]; simp
    · exfalso; apply hb'
      rw [if_neg c, if_neg (by omega), if_neg (by omega), if_neg (by omega)]
      exact ⟨rfl, rfl⟩
  | b0 :: b1 :: t, _ =>
    have t0 := b0.toNat_lt; have t1 := b1.toNat_lt
    generalize hb2 : (List.getD (b0 :: b1 :: t) 2 0) = b2 at hb' ⊢
    generalize hb3 : (List.getD (b0 :: b1 :: t) 3 0) = b3 at hb' ⊢
    have t2 := b2.toNat_lt; have t3 := b3.toNat_lt
    simp only [List.getD_cons_zero, List.getD_cons_succ, List.length_cons] at hb2 hb3 hb' ⊢
    unfold decodeN at hb' ⊢
    by_cases c : b0.toNat < 128
    · rw [if_pos c]; simp only; rw [if_pos c]; simp
    rw [if_neg c] at hb' ⊢
    by_cases c2 : b0.toNat / 32 = 6 ∧ (1 < t.length + 1 + 1 ∧ b1.toNat / 64 = 2)
    · rw [if_pos c2] at hb' ⊢
      by_cases d : b0.toNat % 32 * 64 + b1.toNat % 64 ≥ 128
      · rw [if_pos d]; simp only
        rw [if_neg (by omega), if_pos (by omega)]
        simp only [List.take_succ_cons, List.take_zero]
        rw [toNat_inj8 (a := b0) (by omega), toNat_inj8 (a := b1) (by omega)]
      · rw [if_neg d] at hb'; exact absurd ⟨rfl, rfl⟩ hb'
    rw [if_neg c2] at hb' ⊢
    by_cases c3 : b0.toNat / 16 = 14 ∧ (1 < t.length + 1 + 1 ∧ b1.toNat / 64 = 2) ∧ (2 < t.length + 1 + 1 ∧ b2.toNat / 64 = 2)
    · rw [if_pos c3] at hb' ⊢
      obtain ⟨x, t', rfl⟩ : ∃ x t', t = x :: t' := by
        cases t with
        | nil => simp at c3
        | cons x t' => exact ⟨x, t', rfl⟩
      simp only [List.getD_cons_zero] at hb2
      subst hb2
      split at hb'
      · rename_i d; rw [if_pos d]; simp only
        rw [if_neg (by omega), if_neg (by omega), if_pos (by omega)]
        simp only [List.take_succ_cons, List.take_zero]
        rw [toNat_inj8 (a := b0) (by omega), toNat_inj8 (a := b1) (by omega), toNat_inj8 (a := x) (by omega)]
      · exact absurd ⟨rfl, rfl⟩ hb'
    rw [if_neg c3] at hb' ⊢
    by_cases c4 : b0.toNat / 8 = 30 ∧ (1 < t.length + 1 + 1 ∧ b1.toNat / 64 = 2) ∧ (2 < t.length + 1 + 1 ∧ b2.toNat / 64 = 2) ∧ (3 < t.length + 1 + 1 ∧ b3.toNat / 64 = 2)
    · rw [if_pos c4] at hb' ⊢
      obtain ⟨x, y, t', rfl⟩ : ∃ x y t', t = x :: y :: t' := by
        match t, c4 with
        | [], c4 => simp at c4
        | [x], c4 => simp at c4
        | x :: y :: t', _ => exact ⟨x, y, t', rfl⟩
      simp only [List.getD_cons_zero, List.getD_cons_succ] at hb2 hb3
      subst hb2; subst hb3
      split at hb'
      · rename_i d; rw [if_pos d]; simp only
        rw [if_neg (by omega), if_neg (by omega), if_neg (by omega)]
        simp only [List.take_succ_cons, List.take_zero]
        rw [toNat_inj8 (a := b0) (by omega), toNat_inj8 (a := b1) (by omega), toNat_inj8 (a := x) (by omega), toNat_inj8 (a := y) (by omega)]
      · exact absurd ⟨rfl, rfl⟩ hb'
    · rw [if_neg c4] at hb'; exact absurd ⟨rfl, rfl⟩ hb'

/-! ### texts joined -/
set_option maxRecDepth 100000 in
set_option maxHeartbeats 4000000 in
/-- What is read at the head of a text is read there also where the text ends behind it. -/
theorem decodeN_cut (n m b0 b1 b2 b3 c1 c2 c3 : Nat) (hm : 1 ≤ m) (hmn : m ≤ n) (e1 : 1 < m → c1 = b1) (e2 : 2 < m → c2 = b2) (e3 : 3 < m → c3 = b3)
    (hw : (decodeN n b0 b1 b2 b3).2 ≤ m) : decodeN m b0 c1 c2 c3 = decodeN n b0 b1 b2 b3 := by
  unfold decodeN at hw ⊢
  by_cases m1 : 1 < m
  · have E1 := e1 m1
    subst E1
    by_cases m2 : 2 < m
    · have E2 := e2 m2
      subst E2
      by_cases m3 : 3 < m
      · have E3 := e3 m3
        subst E3
        repeat' split at hw
        all_goals (simp only at hw)
        all_goals (repeat' split)
        all_goals first | (exfalso; omega) | rfl
      · repeat' split at hw
        all_goals (simp only at hw)
        all_goals (repeat' split)
        all_goals first | (exfalso; omega) | rfl
    · repeat' split at hw
      all_goals (simp only at hw)
      all_goals (repeat' split)
      all_goals first | (exfalso; omega) | rfl
  · repeat' split at hw
    all_goals (simp only at hw)
    all_goals (repeat' split)
    all_goals first | (exfalso; omega) | rfl
theorem getD_take (l : List UInt8) (m k : Nat) (h : k < m) : (l.take m).getD k 0 = l.getD k 0 := by
  simp [List.getD, h]
theorem dec_take (l : List UInt8) (m : Nat) (hm : 1 ≤ m) (hml : m ≤ l.length) (hw : wd l ≤ m) : decodeL (l.take m) = decodeL l := by
  unfold wd at hw
  rw [decodeL_N] at hw
  rw [decodeL_N, decodeL_N, List.length_take, Nat.min_eq_left hml, getD_take l m 0 (by omega)]
  exact decodeN_cut _ _ _ _ _ _ _ _ _ hm hml (fun h => by rw [getD_take l m 1 h]) (fun h => by rw [getD_take l m 2 h]) (fun h => by rw [getD_take l m 3 h]) hw
theorem glue_take_le (l : List UInt8) (k : Nat) : (glue ((chop l).take k)).length ≤ l.length := by
  have h := glue_chop l
  have h2 := glue_append ((chop l).take k) ((chop l).drop k)
  rw [List.take_append_drop, h] at h2
  have := congrArg List.length h2
  rw [List.length_append] at this; omega
theorem glue_take (l : List UInt8) (k : Nat) : glue ((chop l).take k) = l.take (glue ((chop l).take k)).length := by
  have h2 := glue_append ((chop l).take k) ((chop l).drop k)
  rw [List.take_append_drop, glue_chop] at h2
  generalize glue ((chop l).take k) = a at h2 ⊢
  rw [h2, List.take_left]
end Go.Proofs.Ytlkabghpcjlohaa
