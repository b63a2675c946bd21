/- Joined texts: A1 P1 P2 A2 A3 B1 A4 A5 A6 F1 P3 P4 P6 S1: walks and plain laws for this seat's program, each stated where it stands; conditions: as each states. -/
import Derived.Test.YtonibpilbkafnaaDoorProg
import Derived.WalkKit
import Derived.WalkLawsBesides
import Derived.WalkSpells
import Derived.Lib.OthersKept
import Derived.Lib.RuneCount
import Derived.Laws.Runes
import Derived.LoopTactic
import Derived.Below
import Derived.Lib.TrimUEq
import Derived.Lib.RuneBytes
import Derived.Test.YtonibpilbkafnaaDoorShelf
import Derived.Deep.LoopGhost
import Derived.Lib.Strings
import Derived.OwnWalk
import Derived.Lib.Hide
import Derived.Laws.AppendOwn
import Derived.Maps.AppendAt
import Derived.Shelf.Strings.BuilderRune
import Derived.Laws.IdiomStrings
import Derived.RangeFuncNested
import Derived.RangeFuncBound
import Derived.RangeFuncCalls
import Derived.RangeFuncLeaves
import Derived.Shelf.Abstract
import Derived.Shelf.RegionOpen
import Derived.OwnWalkIn
import Derived.TacticsInMore
import Derived.LoopNIn
import Derived.LoopIn
import Derived.Lib.FieldsP
import Derived.BigQuiet
import Derived.Deep.QuietTactic
import Derived.Deep.AppendLies
/- Walks of package utf's Encode, Count; what they compute is told over the model's own decoder. -/
set_option linter.unusedVariables false
set_option linter.unusedSimpArgs false
namespace Go.Proofs.YtonibpilbkafnaaDoor
open Go.RowKit

theorem ret_b {a b : Bool} (h : a = b) : Ending.returned (.bool a) = Ending.returned (.bool b) := by rw [h]
theorem ret_i {k : IntKind} {a b : Int} (h : a = b) : Ending.returned (.int k a) = Ending.returned (.int k b) := by rw [h]
theorem ret_s {a b : ByteArray} (h : a = b) : Ending.returned (.string a) = Ending.returned (.string b) := by rw [h]
theorem ret_v {a b : Value} (h : a = b) : Ending.returned a = Ending.returned b := by rw [h]

theorem encode_bad {r : Int} (h : Utf8.valid r = false) : Utf8.encode r = Utf8.encode 65533 := by
  unfold Utf8.encode
  rw [h]
  rfl

/-- Called in whatever world from w on, the function returns v and leaves what lay below w's end as it was. -/
def From (w : World) (f : Nat) (args : Array Value) (v : Value) : Prop :=
  ∀ W, Below w.heap.size w W → Calls Tryd.prog f args W fun e W' => e = .returned v ∧ Below w.heap.size w W'
theorem From.at_ {w W : World} {f : Nat} {args : Array Value} {v : Value} (h : From w f args v) (hb : Below w.heap.size w W) : Calls Tryd.prog f args W fun e W' => e = .returned v ∧ Below w.heap.size w W' := h W hb
theorem From.below {w : World} {f : Nat} {args : Array Value} {v : Value} (h : ∀ W, Below w.heap.size w W → Calls Tryd.prog f args W fun e W' => e = .returned v ∧ Below W.heap.size W W') : From w f args v :=
  fun W hb => (h W hb).mono fun e W' ⟨he, hb'⟩ => ⟨he, hb.trans (hb'.mono hb.size)⟩
theorem From.same {w : World} {f : Nat} {args : Array Value} {v : Value} (h : ∀ W, Below w.heap.size w W → Calls Tryd.prog f args W fun e W' => e = .returned v ∧ W = W') : From w f args v :=
  fun W hb => (h W hb).mono fun e W' ⟨he, hb'⟩ => ⟨he, hb' ▸ hb⟩
end Go.Proofs.YtonibpilbkafnaaDoor

/- Plain Lean, no program: a text as its runes, each with its bytes; encoding and decoding are each other's inverse. -/
set_option linter.unusedVariables false
set_option linter.unusedSimpArgs false
namespace Go.Proofs.YtonibpilbkafnaaDoor
open Go.Lib

/-- a rune's bytes -/
def enc (r : Int) : List UInt8 := (Utf8.encode r).data.toList
/-- the rune at the head of a text, and its width -/
def rn (l : List UInt8) : Nat := (decodeL l).1
def wd (l : List UInt8) : Nat := (decodeL l).2

/-- a text's runes, each with its bytes -/
def chopN : Nat → List UInt8 → List (Nat × List UInt8)
  | 0, _ => []
  | f + 1, l => if l = [] then [] else (rn l, l.take (wd l)) :: chopN f (l.drop (wd l))
def chop (l : List UInt8) : List (Nat × List UInt8) := chopN l.length l
def runes (l : List UInt8) : List Nat := (chop l).map (·.1)
def glue (c : List (Nat × List UInt8)) : List UInt8 := (c.map (·.2)).flatten

theorem wd_pos (l : List UInt8) : 1 ≤ wd l := decodeL_width l
theorem rn_le (l : List UInt8) : rn l ≤ 1114111 := decodeL_rune l

theorem decodeN_le (n b0 b1 b2 b3 : Nat) (h : 1 ≤ n) : (decodeN n b0 b1 b2 b3).2 ≤ n ∧ (decodeN n b0 b1 b2 b3).2 ≤ 4 := by
  unfold decodeN
  repeat' split
  all_goals (simp only; omega)
theorem wd_le (l : List UInt8) (h : l ≠ []) : wd l ≤ l.length := by
  unfold wd; rw [decodeL_N]; exact (decodeN_le _ _ _ _ _ (by have := List.length_pos_iff.2 h; omega)).1
theorem wd_le4 (l : List UInt8) (h : l ≠ []) : wd l ≤ 4 := by
  unfold wd; rw [decodeL_N]; exact (decodeN_le _ _ _ _ _ (by have := List.length_pos_iff.2 h; omega)).2

theorem chopN_eq : ∀ (n : Nat) (l : List UInt8), l.length ≤ n → chopN n l = chopN l.length l
  | 0, l, h => by
    have : l = [] := List.eq_nil_of_length_eq_zero (by omega)
    subst this; rfl
  | n + 1, l, h => by
    by_cases e : l = []
    · subst e; simp [chopN]
    · obtain ⟨k, hk⟩ : ∃ k, l.length = k + 1 := ⟨l.length - 1, by have := List.length_pos_iff.2 e; omega⟩
      rw [hk]
      simp only [chopN, if_neg e]
      have w1 := wd_pos l
      have hl : (l.drop (wd l)).length ≤ k := by rw [List.length_drop]; omega
      rw [chopN_eq n _ (by omega), chopN_eq k _ hl]
theorem chop_nil : chop [] = [] := rfl
theorem chop_ne {l : List UInt8} (h : l ≠ []) : chop l = (rn l, l.take (wd l)) :: chop (l.drop (wd l)) := by
  unfold chop
  obtain ⟨k, hk⟩ : ∃ k, l.length = k + 1 := ⟨l.length - 1, by have := List.length_pos_iff.2 h; omega⟩
  rw [hk]
  simp only [chopN, if_neg h]
  rw [chopN_eq k _ (by have := wd_pos l; rw [List.length_drop]; omega)]
/-- The principle by which all that follows is proved. -/
theorem chop_ind {P : List UInt8 → Prop} (h0 : P []) (h1 : ∀ l, l ≠ [] → P (l.drop (wd l)) → P l) : ∀ l, P l := by
  intro l
  obtain ⟨n, hn⟩ : ∃ n, l.length ≤ n := ⟨_, Nat.le_refl _⟩
  induction n generalizing l with
  | zero => have : l = [] := List.eq_nil_of_length_eq_zero (by omega); subst this; exact h0
  | succ n ih =>
    by_cases e : l = []
    · subst e; exact h0
    · exact h1 l e (ih _ (by have := wd_pos l; rw [List.length_drop]; omega))
theorem glue_chop (l : List UInt8) : glue (chop l) = l := by
  induction l using chop_ind with
  | h0 => rfl
  | h1 l h ih => rw [chop_ne h]; simp only [glue, List.map_cons, List.flatten_cons] at ih ⊢; rw [ih, List.take_append_drop]
theorem chop_length_le (l : List UInt8) : (chop l).length ≤ l.length := by
  induction l using chop_ind with
  | h0 => exact Nat.le_refl _
  | h1 l h ih =>
    rw [chop_ne h, List.length_cons]
    have := wd_pos l; have := List.length_pos_iff.2 h
    rw [List.length_drop] at ih; omega
theorem glue_append (a b : List (Nat × List UInt8)) : glue (a ++ b) = glue a ++ glue b := by simp [glue]

/-! ### encoding -/
theorem u8_ofNat {n : Nat} (h : n < 256) : (UInt8.ofNat n).toNat = n := by simp [UInt8.toNat_ofNat']; omega
theorem valid_iff (r : Int) : Utf8.valid r = true ↔ (0 ≤ r ∧ r < 55296) ∨ (57344 ≤ r ∧ r ≤ 1114111) := by
  simp [Utf8.valid]
theorem enc_cases (r : Int) : enc r =
    (let c := if Utf8.valid r then r.toNat else 65533
     if c < 128 then [UInt8.ofNat c]
     else if c < 2048 then [UInt8.ofNat (192 + c / 64), UInt8.ofNat (128 + c % 64)]
     else if c < 65536 then [UInt8.ofNat (224 + c / 4096), UInt8.ofNat (128 + c / 64 % 64), UInt8.ofNat (128 + c % 64)]
     else [UInt8.ofNat (240 + c / 262144), UInt8.ofNat (128 + c / 4096 % 64), UInt8.ofNat (128 + c / 64 % 64), UInt8.ofNat (128 + c % 64)]) := by
  unfold enc Utf8.encode Utf8.runeError
  simp only
  repeat' split
  all_goals rfl
/-- what a number is encoded as: itself, or U+FFFD -/
def fixr (r : Int) : Nat := if Utf8.valid r then r.toNat else 65533
theorem fixr_valid (r : Int) : fixr r ≤ 1114111 ∧ ¬ (55296 ≤ fixr r ∧ fixr r ≤ 57343) := by
  unfold fixr
  split
  · rename_i h; rw [valid_iff] at h; omega
  · omega
theorem enc_fix (r : Int) : enc r =
    (if fixr r < 128 then [UInt8.ofNat (fixr r)]
     else if fixr r < 2048 then [UInt8.ofNat (192 + fixr r / 64), UInt8.ofNat (128 + fixr r % 64)]
     else if fixr r < 65536 then [UInt8.ofNat (224 + fixr r / 4096), UInt8.ofNat (128 + fixr r / 64 % 64), UInt8.ofNat (128 + fixr r % 64)]
     else [UInt8.ofNat (240 + fixr r / 262144), UInt8.ofNat (128 + fixr r / 4096 % 64), UInt8.ofNat (128 + fixr r / 64 % 64), UInt8.ofNat (128 + fixr r % 64)]) := enc_cases r
theorem enc_ne (r : Int) : enc r ≠ [] := by
  rw [enc_fix]
  repeat' split
  all_goals simp
theorem enc_length (r : Int) : 1 ≤ (enc r).length ∧ (enc r).length ≤ 4 := by
  rw [enc_fix]
  repeat' split
  all_goals simp

set_option maxHeartbeats 2000000 in
/-- A rune that is encoded is read again, whatever follows. -/
theorem dec_enc (r : Int) (t : List UInt8) : decodeL (enc r ++ t) = (fixr r, (enc r).length) := by
  obtain ⟨h1, h2⟩ := fixr_valid r
  rw [enc_fix]
  generalize fixr r = c at h1 h2 ⊢
  rw [decodeL_N]
  by_cases c1 : c < 128
  · rw [if_pos c1]
    simp only [List.cons_append, List.nil_append, List.getD_cons_zero, u8_ofNat (show c < 256 by omega), List.length_cons, List.length_nil]
    unfold decodeN
    rw [if_pos c1]
  · rw [if_neg c1]
    by_cases c2 : c < 2048
    · rw [if_pos c2]
      simp only [List.cons_append, List.nil_append, List.getD_cons_zero, List.getD_cons_succ, u8_ofNat (show 192 + c / 64 < 256 by omega), u8_ofNat (show 128 + c % 64 < 256 by omega), List.length_cons, List.length_nil]
      unfold decodeN
      rw [if_neg (by omega), if_pos (by omega), if_pos (by omega)]
      apply Prod.ext <;> simp only <;> omega
    · rw [if_neg c2]
      by_cases c3 : c < 65536
      · rw [if_pos c3]
        simp only [List.cons_append, List.nil_append, List.getD_cons_zero, List.getD_cons_succ, u8_ofNat (show 224 + c / 4096 < 256 by omega), u8_ofNat (show 128 + c / 64 % 64 < 256 by omega), u8_ofNat (show 128 + c % 64 < 256 by omega), List.length_cons, List.length_nil]
        unfold decodeN
        rw [if_neg (by omega), if_neg (by omega), if_pos (by omega), if_pos (by omega)]
        apply Prod.ext <;> simp only <;> omega
      · rw [if_neg c3]
        simp only [List.cons_append, List.nil_append, List.getD_cons_zero, List.getD_cons_succ, u8_ofNat (show 240 + c / 262144 < 256 by omega), u8_ofNat (show 128 + c / 4096 % 64 < 256 by omega), u8_ofNat (show 128 + c / 64 % 64 < 256 by omega), u8_ofNat (show 128 + c % 64 < 256 by omega), List.length_cons, List.length_nil]
        unfold decodeN
        rw [if_neg (by omega), if_neg (by omega), if_neg (by omega), if_pos (by omega), if_pos (by omega)]
        apply Prod.ext <;> simp only <;> omega
theorem chop_enc (r : Int) (t : List UInt8) : chop (enc r ++ t) = (fixr r, enc r) :: chop t := by
  have h : enc r ++ t ≠ [] := by simp [enc_ne r]
  have hr : rn (enc r ++ t) = fixr r := by unfold rn; rw [dec_enc]
  have hw : wd (enc r ++ t) = (enc r).length := by unfold wd; rw [dec_enc]
  rw [chop_ne h, hr, hw, List.take_left, List.drop_left]

/-! ### decoding -/
theorem rn_valid (l : List UInt8) : Utf8.valid (rn l) = true := by
  rw [valid_iff]
  unfold rn
  rw [decodeL_N]
  have h0 := (l.getD 0 0).toNat_lt
  unfold decodeN
  repeat' split
  all_goals (simp only; omega)
theorem fixr_rn (l : List UInt8) : fixr (rn l) = rn l := by simp [fixr, rn_valid]
theorem fixr_fixr (r : Int) : fixr (fixr r) = fixr r := by
  have h := fixr_valid r
  generalize fixr r = c at h ⊢
  have hv : Utf8.valid (c : Int) = true := by rw [valid_iff]; omega
  unfold fixr
  rw [if_pos hv, Int.toNat_natCast]
theorem enc_fixr (r : Int) : enc (fixr r) = enc r := by rw [enc_fix, enc_fix, fixr_fixr]

/-- Is the head a byte that belongs to no rune? -/
def badHead (l : List UInt8) : Bool := decide (rn l = 65533) && decide (wd l = 1)

theorem toNat_inj8 {a : UInt8} {n : Nat} (h : a.toNat = n) : UInt8.ofNat n = a := by subst h; simp

set_option maxHeartbeats 4000000 in
/-- What is read is encoded as it was. -/
theorem enc_rn (l : List UInt8) (h : l ≠ []) (hb : badHead l = false) : enc (rn l) = l.take (wd l) := by
  rw [enc_fix, fixr_rn]
  have hb' : ¬ (rn l = 65533 ∧ wd l = 1) := by simpa [badHead] using hb
  clear hb
  unfold rn wd at *
  rw [decodeL_N] at *
  match l, h with
  | [b0], _ =>
    have t0 := b0.toNat_lt
    simp only [List.getD_cons_zero, List.getD_cons_succ, List.getD_nil, List.length_cons, List.length_nil] at hb' ⊢
    unfold decodeN at hb' ⊢
    by_cases c : b0.toNat < 128
    · rw [if_pos c]; simp only; rw [if_pos c]; simp
    · exfalso; apply hb'
      rw [if_neg c, if_neg (by omega), if_neg (by omega), if_neg (by omega)]
      exact ⟨rfl, rfl⟩
  | b0 :: b1 :: t, _ =>
    have t0 := b0.toNat_lt; have t1 := b1.toNat_lt
    generalize hb2 : (List.getD (b0 :: b1 :: t) 2 0) = b2 at hb' ⊢
    generalize hb3 : (List.getD (b0 :: b1 :: t) 3 0) = b3 at hb' ⊢
    have t2 := b2.toNat_lt; have t3 := b3.toNat_lt
    simp only [List.getD_cons_zero, List.getD_cons_succ, List.length_cons] at hb2 hb3 hb' ⊢
    unfold decodeN at hb' ⊢
    by_cases c : b0.toNat < 128
    · rw [if_pos c]; simp only; rw [if_pos c]; simp
    rw [if_neg c] at hb' ⊢
    by_cases c2 : b0.toNat / 32 = 6 ∧ (1 < t.length + 1 + 1 ∧ b1.toNat / 64 = 2)
    · rw [if_pos c2] at hb' ⊢
      by_cases d : b0.toNat % 32 * 64 + b1.toNat % 64 ≥ 128
      · rw [if_pos d]; simp only
        rw [if_neg (by omega), if_pos (by omega)]
        simp only [List.take_succ_cons, List.take_zero]
        rw [toNat_inj8 (a := b0) (by omega), toNat_inj8 (a := b1) (by omega)]
      · rw [if_neg d] at hb'; exact absurd ⟨rfl, rfl⟩ hb'
    rw [if_neg c2] at hb' ⊢
    by_cases c3 : b0.toNat / 16 = 14 ∧ (1 < t.length + 1 + 1 ∧ b1.toNat / 64 = 2) ∧ (2 < t.length + 1 + 1 ∧ b2.toNat / 64 = 2)
    · rw [if_pos c3] at hb' ⊢
      obtain ⟨x, t', rfl⟩ : ∃ x t', t = x :: t' := by
        cases t with
        | nil => simp at c3
        | cons x t' => exact ⟨x, t', rfl⟩
      simp only [List.getD_cons_zero] at hb2
      subst hb2
      split at hb'
      · rename_i d; rw [if_pos d]; simp only
        rw [if_neg (by omega), if_neg (by omega), if_pos (by omega)]
        simp only [List.take_succ_cons, List.take_zero]
        rw [toNat_inj8 (a := b0) (by omega), toNat_inj8 (a := b1) (by omega), toNat_inj8 (a := x) (by omega)]
      · exact absurd ⟨rfl, rfl⟩ hb'
    rw [if_neg c3] at hb' ⊢
    by_cases c4 : b0.toNat / 8 = 30 ∧ (1 < t.length + 1 + 1 ∧ b1.toNat / 64 = 2) ∧ (2 < t.length + 1 + 1 ∧ b2.toNat / 64 = 2) ∧ (3 < t.length + 1 + 1 ∧ b3.toNat / 64 = 2)
    · rw [if_pos c4] at hb' ⊢
      obtain ⟨x, y, t', rfl⟩ : ∃ x y t', t = x :: y :: t' := by
        match t, c4 with
        | [], c4 => simp at c4
        | [x], c4 => simp at c4
        | x :: y :: t', _ => exact ⟨x, y, t', rfl⟩
      simp only [List.getD_cons_zero, List.getD_cons_succ] at hb2 hb3
      subst hb2; subst hb3
      split at hb'
      · rename_i d; rw [if_pos d]; simp only
        rw [if_neg (by omega), if_neg (by omega), if_neg (by omega)]
        simp only [List.take_succ_cons, List.take_zero]
        rw [toNat_inj8 (a := b0) (by omega), toNat_inj8 (a := b1) (by omega), toNat_inj8 (a := x) (by omega), toNat_inj8 (a := y) (by omega)]
      · exact absurd ⟨rfl, rfl⟩ hb'
    · rw [if_neg c4] at hb'; exact absurd ⟨rfl, rfl⟩ hb'

/-! ### texts joined -/
set_option maxRecDepth 100000 in
set_option maxHeartbeats 4000000 in
/-- What is read at the head of a text is read there also where the text ends behind it. -/
theorem decodeN_cut (n m b0 b1 b2 b3 c1 c2 c3 : Nat) (hm : 1 ≤ m) (hmn : m ≤ n) (e1 : 1 < m → c1 = b1) (e2 : 2 < m → c2 = b2) (e3 : 3 < m → c3 = b3)
    (hw : (decodeN n b0 b1 b2 b3).2 ≤ m) : decodeN m b0 c1 c2 c3 = decodeN n b0 b1 b2 b3 := by
  unfold decodeN at hw ⊢
  by_cases m1 : 1 < m
  · have E1 := e1 m1
    subst E1
    by_cases m2 : 2 < m
    · have E2 := e2 m2
      subst E2
      by_cases m3 : 3 < m
      · have E3 := e3 m3
        subst E3
        repeat' split at hw
        all_goals (simp only at hw)
        all_goals (repeat' split)
        all_goals first | (exfalso; omega) | rfl
      · repeat' split at hw
        all_goals (simp only at hw)
        all_goals (repeat' split)
        all_goals first | (exfalso; omega) | rfl
    · repeat' split at hw
      all_goals (simp only at hw)
      all_goals (repeat' split)
      all_goals first | (exfalso; omega) | rfl
  · repeat' split at hw
    all_goals (simp only at hw)
    all_goals (repeat' split)
    all_goals first | (exfalso; omega) | rfl
theorem getD_take (l : List UInt8) (m k : Nat) (h : k < m) : (l.take m).getD k 0 = l.getD k 0 := by
  simp [List.getD, h]
theorem dec_take (l : List UInt8) (m : Nat) (hm : 1 ≤ m) (hml : m ≤ l.length) (hw : wd l ≤ m) : decodeL (l.take m) = decodeL l := by
  unfold wd at hw
  rw [decodeL_N] at hw
  rw [decodeL_N, decodeL_N, List.length_take, Nat.min_eq_left hml, getD_take l m 0 (by omega)]
  exact decodeN_cut _ _ _ _ _ _ _ _ _ hm hml (fun h => by rw [getD_take l m 1 h]) (fun h => by rw [getD_take l m 2 h]) (fun h => by rw [getD_take l m 3 h]) hw
theorem glue_take_le (l : List UInt8) (k : Nat) : (glue ((chop l).take k)).length ≤ l.length := by
  have h := glue_chop l
  have h2 := glue_append ((chop l).take k) ((chop l).drop k)
  rw [List.take_append_drop, h] at h2
  have := congrArg List.length h2
  rw [List.length_append] at this; omega
theorem glue_take (l : List UInt8) (k : Nat) : glue ((chop l).take k) = l.take (glue ((chop l).take k)).length := by
  have h2 := glue_append ((chop l).take k) ((chop l).drop k)
  rw [List.take_append_drop, glue_chop] at h2
  generalize glue ((chop l).take k) = a at h2 ⊢
  rw [h2, List.take_left]
end Go.Proofs.YtonibpilbkafnaaDoor

/- Plain Lean, no program: texts cut and joined, mended, turned round. -/
set_option linter.unusedVariables false
set_option linter.unusedSimpArgs false
namespace Go.Proofs.YtonibpilbkafnaaDoor
open Go.Lib

theorem take_drop_of {α : Type} (l a b : List α) (h : l = a ++ b) : a = l.take a.length ∧ b = l.drop a.length := by
  subst h; simp
/-- The first k runes' bytes are read as these k runes; what is left as the others. -/
theorem chop_first (l : List UInt8) : ∀ k, chop (glue ((chop l).take k)) = (chop l).take k := by
  induction l using chop_ind with
  | h0 => intro k; simp [chop_nil, glue]
  | h1 l h ih =>
    intro k
    cases k with
    | zero => simp [glue, chop_nil]
    | succ k =>
      rw [chop_ne h, List.take_succ_cons]
      have hw := wd_le l h; have hw1 := wd_pos l
      have e : glue ((rn l, l.take (wd l)) :: (chop (l.drop (wd l))).take k) = l.take (wd l) ++ glue ((chop (l.drop (wd l))).take k) := by simp [glue]
      have hg := glue_take (l.drop (wd l)) k
      have hgl := glue_take_le (l.drop (wd l)) k
      have hk := ih k
      generalize glue ((chop (l.drop (wd l))).take k) = g at e hg hgl hk
      rw [List.length_drop] at hgl
      have e2 : l.take (wd l) ++ g = l.take (wd l + g.length) := by
        rw [List.take_add, ← hg]
      rw [e, e2]
      have hd : decodeL (l.take (wd l + g.length)) = decodeL l := dec_take l _ (by omega) (by omega) (by omega)
      have hne : l.take (wd l + g.length) ≠ [] := by
        intro h0
        have h1 := congrArg List.length h0
        rw [List.length_take, Nat.min_eq_left (by omega), List.length_nil] at h1; omega
      have hr : rn (l.take (wd l + g.length)) = rn l := by unfold rn; rw [hd]
      have hww : wd (l.take (wd l + g.length)) = wd l := congrArg (·.2) hd
      rw [chop_ne hne, hr, hww, ← e2, List.take_append_of_le_length (by rw [List.length_take]; omega), List.take_of_length_le (by rw [List.length_take]; omega),
        List.drop_append_of_le_length (by rw [List.length_take]; omega), List.drop_of_length_le (by rw [List.length_take]; omega), List.nil_append, hk]
theorem chop_rest (l : List UInt8) : ∀ k, chop (l.drop (glue ((chop l).take k)).length) = (chop l).drop k := by
  induction l using chop_ind with
  | h0 => intro k; simp [chop_nil]
  | h1 l h ih =>
    intro k
    cases k with
    | zero => simp [glue]
    | succ k =>
      rw [chop_ne h, List.take_succ_cons, List.drop_succ_cons]
      have hw := wd_le l h
      have e : (glue ((rn l, l.take (wd l)) :: (chop (l.drop (wd l))).take k)).length = wd l + (glue ((chop (l.drop (wd l))).take k)).length := by
        simp [glue, List.length_take, Nat.min_eq_left hw]
      rw [e, ← List.drop_drop, ih k]

/-- Every rune encoded, one behind the other. -/
def encs (rs : List Nat) : List UInt8 := (rs.map fun (r : Nat) => enc (r : Int)).flatten
def fixL (l : List UInt8) : List UInt8 := encs (runes l)
def backL (l : List UInt8) : List UInt8 := encs (runes l).reverse
/-- no byte belongs to no rune -/
def okC (c : Nat × List UInt8) : Bool := !(decide (c.1 = 65533) && decide (c.2.length = 1))
def validL (l : List UInt8) : Bool := (chop l).all okC
def cutL (l : List UInt8) (n : Int) : List UInt8 := glue ((chop l).take n.toNat)

theorem encs_nil : encs [] = [] := rfl
theorem encs_cons (r : Nat) (rs : List Nat) : encs (r :: rs) = enc r ++ encs rs := rfl
theorem encs_append (a b : List Nat) : encs (a ++ b) = encs a ++ encs b := by simp [encs]
theorem encs_length (rs : List Nat) : (encs rs).length ≤ 4 * rs.length := by
  induction rs with
  | nil => simp [encs]
  | cons r rs ih => rw [encs_cons, List.length_append, List.length_cons]; have := enc_length r; omega
/-- Is a number a rune that can be encoded? -/
def scalar (r : Nat) : Prop := Utf8.valid (r : Int) = true
theorem chop_encs (rs : List Nat) (h : ∀ r ∈ rs, scalar r) (t : List UInt8) : chop (encs rs ++ t) = (rs.map fun (r : Nat) => (r, enc (r : Int))) ++ chop t := by
  induction rs with
  | nil => simp [encs]
  | cons r rs ih =>
    rw [encs_cons, List.append_assoc, chop_enc, ih fun x hx => h x (List.mem_cons_of_mem _ hx)]
    have : fixr (r : Int) = r := by
      have hv := h r (List.mem_cons_self ..)
      unfold scalar at hv
      simp [fixr, hv]
    rw [this]; rfl
theorem runes_scalar (l : List UInt8) : ∀ r ∈ runes l, scalar r := by
  induction l using chop_ind with
  | h0 => intro r hr; simp [runes, chop_nil] at hr
  | h1 l h ih =>
    intro r hr
    simp only [runes, chop_ne h, List.map_cons, List.mem_cons] at hr
    rcases hr with rfl | hr
    · exact rn_valid l
    · exact ih r hr
theorem runes_encs (rs : List Nat) (h : ∀ r ∈ rs, scalar r) (t : List UInt8) : runes (encs rs ++ t) = rs ++ runes t := by
  unfold runes
  rw [chop_encs rs h, List.map_append, List.map_map]
  congr 1
  simp [Function.comp_def]
theorem okC_enc (r : Nat) (h : scalar r) : okC (r, enc (r : Int)) = true := by
  unfold okC
  by_cases e : r = 65533
  · subst e; decide
  · simp [e]
theorem valid_encs (rs : List Nat) (h : ∀ r ∈ rs, scalar r) : validL (encs rs) = true := by
  have := chop_encs rs h []
  rw [List.append_nil, chop_nil, List.append_nil] at this
  unfold validL
  rw [this, List.all_map, List.all_eq_true]
  intro r hr
  exact okC_enc r (h r hr)
theorem ok_head (l : List UInt8) (h : l ≠ []) : okC (rn l, l.take (wd l)) = !badHead l := by
  unfold okC badHead
  rw [List.length_take, Nat.min_eq_left (wd_le l h)]
/-- A valid text is its own mending. -/
theorem fix_valid (l : List UInt8) (h : validL l = true) : fixL l = l := by
  induction l using chop_ind with
  | h0 => rfl
  | h1 l hne ih =>
    unfold validL at h
    rw [chop_ne hne, List.all_cons, Bool.and_eq_true, ok_head l hne] at h
    have hb : badHead l = false := by simpa using h.1
    unfold fixL runes
    rw [chop_ne hne, List.map_cons, encs_cons, enc_rn l hne hb]
    have := ih h.2
    unfold fixL runes at this
    rw [this, List.take_append_drop]
theorem runes_fix (l : List UInt8) : runes (fixL l) = runes l := by
  have := runes_encs (runes l) (runes_scalar l) []
  rw [List.append_nil] at this
  unfold fixL
  rw [this]; simp [runes, chop_nil]
theorem fix_fix (l : List UInt8) : fixL (fixL l) = fixL l := by
  show encs (runes (fixL l)) = encs (runes l)
  rw [runes_fix]
theorem valid_fix (l : List UInt8) : validL (fixL l) = true := valid_encs _ (runes_scalar l)
theorem runes_back (l : List UInt8) : runes (backL l) = (runes l).reverse := by
  have := runes_encs (runes l).reverse (fun r hr => runes_scalar l r (List.mem_reverse.1 hr)) []
  rw [List.append_nil] at this
  unfold backL
  rw [this]; simp [runes, chop_nil]
theorem back_back (l : List UInt8) : backL (backL l) = fixL l := by
  show encs (runes (backL l)).reverse = encs (runes l)
  rw [runes_back, List.reverse_reverse]
theorem fix_back (l : List UInt8) : fixL (backL l) = backL l := by
  show encs (runes (backL l)) = encs (runes l).reverse
  rw [runes_back]
theorem encs_reverse_length (rs : List Nat) : (encs rs.reverse).length = (encs rs).length := by
  induction rs with
  | nil => rfl
  | cons r rs ih => rw [List.reverse_cons, encs_append, encs_cons, List.length_append, List.length_append, ih, encs_cons, List.length_append, encs_nil, List.length_nil, Nat.add_zero, Nat.add_comm]
theorem back_length (l : List UInt8) : (backL l).length = (fixL l).length := encs_reverse_length _
theorem runes_length (l : List UInt8) : (runes l).length = (chop l).length := by simp [runes]
theorem fix_length_le (l : List UInt8) : (fixL l).length ≤ 4 * l.length := by
  have h := encs_length (runes l)
  have h2 := chop_length_le l
  rw [runes_length] at h
  unfold fixL; omega
/-- A mended text, and what follows. -/
theorem chop_fix_append (l t : List UInt8) : chop (fixL l ++ t) = chop (fixL l) ++ chop t := by
  have h1 := chop_encs (runes l) (runes_scalar l) t
  have h2 := chop_encs (runes l) (runes_scalar l) []
  rw [List.append_nil, chop_nil, List.append_nil] at h2
  unfold fixL
  rw [h1, h2]

/-! ### where the runes begin -/
def placesFrom : Nat → List (Nat × List UInt8) → List Nat
  | _, [] => []
  | p, c :: cs => p :: placesFrom (p + c.2.length) cs
def places (l : List UInt8) : List Nat := placesFrom 0 (chop l)
theorem placesFrom_length (p : Nat) (cs : List (Nat × List UInt8)) : (placesFrom p cs).length = cs.length := by
  induction cs generalizing p with
  | nil => rfl
  | cons c cs ih => simp [placesFrom, ih]
theorem placesFrom_append (p : Nat) (a b : List (Nat × List UInt8)) : placesFrom p (a ++ b) = placesFrom p a ++ placesFrom (p + (glue a).length) b := by
  induction a generalizing p with
  | nil => simp [placesFrom, glue]
  | cons c a ih =>
    simp only [List.cons_append, placesFrom, ih]
    have : (glue (c :: a)).length = c.2.length + (glue a).length := by simp [glue]
    rw [this, Nat.add_assoc]
theorem places_at (l : List UInt8) (k : Nat) (h : k < (chop l).length) : (places l)[k]? = some (glue ((chop l).take k)).length := by
  unfold places
  have e : chop l = (chop l).take k ++ (chop l).drop k := (List.take_append_drop k _).symm
  rw [e, placesFrom_append, ← e, List.getElem?_append_right (by rw [placesFrom_length, List.length_take]; omega), placesFrom_length, List.length_take, Nat.min_eq_left (by omega), Nat.sub_self]
  cases hd : (chop l).drop k with
  | nil => have := congrArg List.length hd; rw [List.length_drop] at this; simp at this; omega
  | cons c cs => simp [placesFrom]
end Go.Proofs.YtonibpilbkafnaaDoor

/- Walks of package utf over a text: how many runes, are all good, where they begin, the first ones, the rune at a place. -/
set_option linter.unusedVariables false
set_option linter.unusedSimpArgs false
namespace Go.Proofs.YtonibpilbkafnaaDoor
open Go.RowKit Go.Lib

abbrev bl (s : ByteArray) : List UInt8 := s.data.toList
theorem bl_length (s : ByteArray) : (bl s).length = s.size := (size_eq s).symm

/-- one step of ranging over a string, at place pos: the text from there on -/
theorem dec_at (s : ByteArray) (pos : Nat) : Utf8.decode s pos = decodeL ((bl s).drop pos) := (decodeL_drop s pos).symm
theorem drop_ne (s : ByteArray) (pos : Nat) (h : pos < s.size) : (bl s).drop pos ≠ [] := by
  intro h0
  have := congrArg List.length h0
  rw [List.length_drop, bl_length, List.length_nil] at this; omega
theorem chop_at (s : ByteArray) (pos : Nat) (h : pos < s.size) :
    chop ((bl s).drop pos) = ((Utf8.decode s pos).1, ((bl s).drop pos).take (Utf8.decode s pos).2) :: chop ((bl s).drop (pos + (Utf8.decode s pos).2)) := by
  rw [dec_at, chop_ne (drop_ne s pos h), ← List.drop_drop]; rfl
theorem chop_end (s : ByteArray) (pos : Nat) (h : ¬ pos < s.size) : chop ((bl s).drop pos) = [] := by
  rw [List.drop_of_length_le (by rw [bl_length]; omega)]; rfl
theorem width_le (s : ByteArray) (pos : Nat) (h : pos < s.size) : pos + (Utf8.decode s pos).2 ≤ s.size := by
  have := wd_le _ (drop_ne s pos h)
  unfold wd at this
  rw [decodeL_drop, List.length_drop, bl_length] at this; omega
theorem piece_len (s : ByteArray) (pos : Nat) (h : pos < s.size) : (((bl s).drop pos).take (Utf8.decode s pos).2).length = (Utf8.decode s pos).2 := by
  have := width_le s pos h
  rw [List.length_take, List.length_drop, bl_length]; omega

end Go.Proofs.YtonibpilbkafnaaDoor

/- Walks of package utf that read the library's tables: Next, Valid; and Places, Cut. -/
set_option linter.unusedVariables false
set_option linter.unusedSimpArgs false
namespace Go.Proofs.YtonibpilbkafnaaDoor
open Go.RowKit Go.Lib

theorem bl_extract (s : ByteArray) (a b : Nat) : bl (s.extract a b) = ((bl s).drop a).take (b - a) := extract_data s a b
theorem bl_from (s : ByteArray) (a : Nat) : bl (s.extract a s.size) = (bl s).drop a := by
  rw [bl_extract, List.take_of_length_le]
  rw [List.length_drop, bl_length]; exact Nat.le_refl _
theorem bl_to (s : ByteArray) (b : Nat) : bl (s.extract 0 b) = (bl s).take b := by rw [bl_extract]; simp
theorem bl_inj {s t : ByteArray} (h : bl s = bl t) : s = t := by
  cases s; cases t; simp only [bl] at h
  congr 1
  exact Array.ext' h
theorem bl_mk (l : List UInt8) : bl ⟨l.toArray⟩ = l := rfl

abbrev Tabs (w : World) : Prop := Utf8Tabs 0 1 w
theorem Tabs.below {w w' : World} (h : Tabs w) (hb : Below w.heap.size w w') : Tabs w' := by
  have l : ∀ (p : Addr) v, w.cell? p = some v → w'.cell? p = some v := by
    intro p v hp
    refine (hb.cell ?_).trans hp
    rcases Nat.lt_or_ge p.block w.heap.size with h1 | h1
    · exact h1
    · simp [World.cell?, Array.getElem?_eq_none h1] at hp
  exact ⟨fun c hc => l _ _ (h.1 c hc), fun i hi => ⟨l _ _ (h.2 i hi).1, l _ _ (h.2 i hi).2⟩⟩

/-- the rune at a place, and its width -/
def nextL (l : List UInt8) (at' : Int) : Nat × Nat := if at' < 0 ∨ (l.length : Int) ≤ at' then (0, 0) else decodeL (l.drop at'.toNat)

set_option maxHeartbeats 1000000 in
theorem Next_any (s : ByteArray) (at' : Int) (w : World) (hT : Tabs w) (hs : s.size ≤ 9223372036854775807) :
    Calls Tryd.prog 17 #[.string s, .int .i64 at'] w fun e w' => e = .returned (.tuple #[.int .i32 (nextL (bl s) at').1, .int .i64 (nextL (bl s) at').2]) ∧ Below w.heap.size w w' := by
  unfold nextL
  rw [bl_length]
  by_cases c1 : at' < 0
  · rw [if_pos (.inl c1)]
    go_enter Tryd.func17, Tryd.ntmps17
    go_wp2
    go_ret2
    exact ⟨rfl, Below.refl _ _⟩
  · by_cases c2 : (s.size : Int) ≤ at'
    · rw [if_pos (.inr c2)]
      go_enter Tryd.func17, Tryd.ntmps17
      go_wp2
      go_ret2
      exact ⟨rfl, Below.refl _ _⟩
    · rw [if_neg (by omega)]
      obtain ⟨k, rfl⟩ : ∃ k : Nat, at' = k := ⟨at'.toNat, by omega⟩
      rw [Int.toNat_natCast]
      have hk : k < s.size := by omega
      have e : decodeGo (s.extract k s.size) = decodeL ((bl s).drop k) := by
        unfold decodeGo
        rw [if_neg (by rw [ByteArray.size_extract]; omega), ← decodeL_drop, List.drop_zero]
        exact congrArg decodeL (bl_from s k)
      have c := Tryd.utf8_DecodeRuneInString (s.extract k s.size) w hT
      rw [e] at c
      generalize decodeL ((bl s).drop k) = d at c ⊢
      go_enter Tryd.func17, Tryd.ntmps17
      go_wp2_with (go_at_call 35; refine c.mono ?_; rintro e w' ⟨rfl, hb⟩)
      go_ret2
      exact ⟨rfl, hb⟩

theorem own_iterAt {w : World} {B e size n : Nat} {v : Value} {xs : List Value} (h : w.ownsRow B e size v n xs) {k : Nat} {s : ByteArray} {pos : Nat} (hk : w.heap[k]? = some (.stringIter s pos)) (p' : Nat) :
    (w.iterAt k s p').ownsRow B e size v n xs := by
  refine h.kept (row := some k) ⟨rfl, rfl, rfl, by rw [iterAt_size]; exact Nat.le_refl _, fun j _ hj => iterAt_other w k j s p' (fun e => hj (by rw [e]))⟩ ?_
  rcases h.2 with ⟨rfl, _⟩ | ⟨g, cap, cur, rfl, _, hg, _⟩
  · exact .inl rfl
  · refine .inr ?_
    simp only [Value.ownBlock, ne_eq, Option.some.injEq]
    rintro rfl
    rw [hk] at hg; cases hg
theorem own_ne_iter {w : World} {B e size n : Nat} {v : Value} {xs : List Value} (h : w.ownsRow B e size v n xs) {k : Nat} {s : ByteArray} {pos : Nat} (hk : w.heap[k]? = some (.stringIter s pos)) : some k ≠ v.ownBlock := by
  rcases h.2 with ⟨rfl, _⟩ | ⟨g, cap, cur, rfl, _, hg, _⟩
  · simp [Value.ownBlock]
  · simp only [Value.ownBlock, ne_eq, Option.some.injEq]
    rintro rfl
    rw [hk] at hg; cases hg

theorem infoInt : (Tryd.prog.info? 3).map (fun i => (i.zero, i.size, i.bytes)) = some (some (.int .i64 0), 1, 8) := by kernel_rfl
theorem infoStr : (Tryd.prog.info? 9).map (fun i => (i.zero, i.size, i.bytes)) = some (some (.string ⟨#[]⟩), 1, 16) := by kernel_rfl
abbrev ints (l : List Nat) : List Value := l.map fun (n : Nat) => Value.int .i64 (n : Int)

end Go.Proofs.YtonibpilbkafnaaDoor

/- The methods of strings.Builder that package utf and fold call, over this seat's numbers (the shelf's laying does not take this dump's copyCheck: its panic is a refused statement here). -/
set_option linter.unusedVariables false
set_option linter.unusedSimpArgs false
namespace Go.Proofs.YtonibpilbkafnaaDoor
open Go.RowKit

theorem b_size : (Tryd.prog.info? 48).map (·.size) = some 2 := by kernel_rfl
theorem b_infoByte : (Tryd.prog.info? 5).map (fun i => (i.zero, i.size, i.bytes)) = some (some (.int .u8 0), 1, 1) := by kernel_rfl
theorem b_lies : liesAt Tryd.prog Tryd.prog.depth 48 (2 / Tryd.prog.cellsOf 48) 0 48 1 = true := by kernel_rfl

set_option maxHeartbeats 1000000 in
set_option maxRecDepth 100000 in
theorem b_used (b : Nat) (w : World) (h0 : w.cell? ⟨b, 0, none⟩ = some (.pointer (some ⟨b, 0, none⟩))) :
    Calls Tryd.prog 33 #[.pointer (some ⟨b, 0, none⟩)] w fun e w' => e = .returned (.tuple #[]) ∧ w = w' := by
  obtain ⟨j, hj, _⟩ := Option.map_eq_some_iff.1 b_size
  go_enter Tryd.func33, Tryd.ntmps33
  go_wp2
  rw [Lib.run_neq_ptr_same w _ Tryd.underlying45 hj]
  go_wp2
  go_end0
  exact ⟨rfl, rfl⟩

set_option maxHeartbeats 1000000 in
set_option maxRecDepth 100000 in
theorem b_fresh (b : Nat) (w : World) (h0 : w.cell? ⟨b, 0, none⟩ = some (.pointer none)) (hsh : w.shape? b = some (48, 2)) (hfz : w.frozen? ⟨b, 0, none⟩ = false) :
    Calls Tryd.prog 33 #[.pointer (some ⟨b, 0, none⟩)] w fun e w' => e = .returned (.tuple #[]) ∧ w' = w.setCell ⟨b, 0, none⟩ (.pointer (some ⟨b, 0, none⟩)) := by
  obtain ⟨j, hj, hjs⟩ := Option.map_eq_some_iff.1 b_size
  go_enter Tryd.func33, Tryd.ntmps33
  go_wp2
  rw [Lib.run_to_unsafe w ⟨b, 0, none⟩ Tryd.underlying45 Tryd.underlying90 hj (by rw [hjs]; decide) hsh (Nat.zero_lt_succ 1)]
  simp only [Result.andThen]
  rw [Oper.upon_value]
  go_wp2
  rw [run_callFunc_extern Tryd.func42 (by kernel_rfl) (by kernel_rfl) (by kernel_rfl) (e := Extern.AbiNoEscape.same) (by kernel_rfl)]
  rw [Lib.run_noEscape]
  simp only [Result.andThen]
  rw [Oper.upon_value]
  go_wp2
  rw [Lib.run_from_unsafe w ⟨b, 0, none⟩ Tryd.underlying90 Tryd.underlying45 hj hsh b_lies]
  simp only [Result.andThen]
  rw [Oper.upon_value]
  go_wp2
  go_end0
  exact ⟨rfl, rfl⟩

/-- copyCheck, of a builder that the call has made. -/
theorem b_check (B b : Nat) (bs : List Value) (w : World) (h : Lib.IsBuilderF 48 5 B b bs w) :
    Calls Tryd.prog 33 #[.pointer (some ⟨b, 0, none⟩)] w fun e w' => e = .returned (.tuple #[]) ∧ (Lib.BuilderAtF 48 5 B b (.pointer (some ⟨b, 0, none⟩)) bs w' ∧ Below B w w' ∧ Lib.OthersKept 5 (some b) w w') := by
  rcases h with h | h
  · refine (b_fresh b w h.cell0 h.shape h.frozen0).mono ?_
    rintro e w' ⟨rfl, rfl⟩
    exact ⟨rfl, h.used _, (Below.refl B w).setCell (p := ⟨b, 0, none⟩) h.1 _, (Lib.OthersKept.refl _ _ w).setCell ⟨b, 0, none⟩ rfl _⟩
  · refine (b_used b w h.cell0).mono ?_
    rintro e w' ⟨rfl, rfl⟩
    exact ⟨rfl, h, Below.refl B _, Lib.OthersKept.refl _ _ _⟩

set_option maxHeartbeats 2000000 in
set_option maxRecDepth 100000 in
theorem b_byte (B b : Nat) (bs : List Value) (c : Int) (w : World) (h : Lib.IsBuilderF 48 5 B b bs w) (hlen : bs.length + 1 ≤ 140737488355328) (hBw : B ≤ w.heap.size) :
    Calls Tryd.prog 14 #[.pointer (some ⟨b, 0, none⟩), .int .u8 c] w fun e w' => e = .returned .nilIface ∧ (Lib.BuilderAtF 48 5 B b (.pointer (some ⟨b, 0, none⟩)) (bs ++ [.int .u8 c]) w' ∧ Below B w w' ∧ Lib.OthersKept 5 (some b) w w') := by
  obtain ⟨i0, hi, hz0, hz1, hz2⟩ := info_parts b_infoByte
  go_enter Tryd.func14, Tryd.ntmps14
  go_wp2_with (go_at_call 33; refine (b_check B b bs _ h).mono ?_)
  rintro e w1 ⟨rfl, h1, hb1, hk1⟩
  obtain ⟨hB, v, hbk, hown, hne⟩ := h1
  have c0 : w1.cell? ⟨b, 0, none⟩ = some (.pointer (some ⟨b, 0, none⟩)) := by rw [Lib.cell_of_heap hbk]; rfl
  have c1 : w1.cell? ⟨b, 1, none⟩ = some v := by rw [Lib.cell_of_heap hbk]; rfl
  go_wp2_with (at_builtin; refine wpList_append_ownF _ rfl _ _ 46 rfl B 5 i0 (.int .u8 0) 1 1 Tryd.underlying46 hi hz0 hz1 hz2 rfl (by decide) _ _ _ rfl (hown.alloc _) ⟨w1.heap.size, 0, none⟩ 1 1 [.int .u8 c] rfl rfl ?c1 ?c2 ?c3 ?c4 ?c5 ?_)
  case c1 =>
    intro j u hj
    match j, hj with
    | 0, hj => simp at hj; subst hj; simp [Addr.add]
  case c2 => intro u hu; simp at hu; subst hu; rfl
  case c3 => unfold maxLen; omega
  case c4 => omega
  case c5 => have := hb1.size; simp; omega
  intro v' w2 hown' hgrow _
  have hlt : b < w1.heap.size := by
    rcases Nat.lt_or_ge b w1.heap.size with h' | h'
    · exact h'
    · simp [Array.getElem?_eq_none h'] at hbk
  have hb2 : w2.heap[b]? = some (.cells #[.pointer (some ⟨b, 0, none⟩), v] 48 (0, 0)) := by
    rw [hgrow.block b (by simp; omega) (fun e => hne e.symm), Lib.alloc_old w1 _ b hlt]
    exact hbk
  have d0 : w2.cell? ⟨b, 0, none⟩ = some (.pointer (some ⟨b, 0, none⟩)) := by rw [Lib.cell_of_heap hb2]; rfl
  have d1 : w2.cell? ⟨b, 1, none⟩ = some v := by rw [Lib.cell_of_heap hb2]; rfl
  have f1 : w2.frozen? ⟨b, 1, none⟩ = false := Lib.frozen_of_heap hb2 1
  obtain ⟨g, cap, rfl⟩ : ∃ g cap, v' = .slice (some ⟨g, 0, none⟩) (bs.length + 1) cap := by
    rcases hown'.2 with ⟨_, h0⟩ | ⟨g, cap, cur, fz, hv, _⟩
    · omega
    · exact ⟨g, cap, hv⟩
  go_wp2
  go_ret
  refine ⟨rfl, ?_, ?_, ((hk1.alloc _).grown hgrow (Lib.ownsRowF_kind (hown.alloc _))).setCell ⟨b, 1, none⟩ rfl _⟩
  · exact Lib.BuilderAtF.put (T := 48) (e := 5) hB hb2 (bs' := bs ++ [.int .u8 c]) (by simpa using hown') (by decide)
  · exact ((hb1.alloc (by have := hb1.size; omega) _).grown hgrow (by have := hb1.size; simp; omega) (fun k hk => (hown.lt k hk).1)).setCell (p := ⟨b, 1, none⟩) hB _

end Go.Proofs.YtonibpilbkafnaaDoor

/- Walks of package utf's Cut and Back. -/
namespace Go.Proofs.YtonibpilbkafnaaDoor
set_option linter.unusedVariables false
set_option linter.unusedSimpArgs false
open Go.RowKit Go.Lib

theorem glue_take_len (l : List UInt8) (k : Nat) : (bl (⟨l.toArray⟩ : ByteArray)) = l := rfl

theorem strCells_eq (s : ByteArray) : strCells s = byteCells (bl s) := by
  unfold strCells byteCells; rfl
theorem encode_bytes (r : Int) : bl (Utf8.encode r) = enc r := rfl

end Go.Proofs.YtonibpilbkafnaaDoor

/- Package utf's sequence All (its iterator's contract), and Fix. -/
namespace Go.Proofs.YtonibpilbkafnaaDoor
set_option linter.unusedVariables false
set_option linter.unusedSimpArgs false
open Go.RowKit Go.Lib Go.Shelf
attribute [local go_sem] Oper.semAt_some

/-- places and runes -/
def stepsFrom : Nat → List (Nat × List UInt8) → List (Nat × Nat)
  | _, [] => []
  | p, c :: cs => (p, c.1) :: stepsFrom (p + c.2.length) cs
def steps (l : List UInt8) : List (Nat × Nat) := stepsFrom 0 (chop l)
theorem stepsFrom_snd (p : Nat) (cs : List (Nat × List UInt8)) : (stepsFrom p cs).map (·.2) = cs.map (·.1) := by
  induction cs generalizing p with
  | nil => rfl
  | cons c cs ih => simp [stepsFrom, ih]
theorem stepsFrom_fst (p : Nat) (cs : List (Nat × List UInt8)) : (stepsFrom p cs).map (·.1) = placesFrom p cs := by
  induction cs generalizing p with
  | nil => rfl
  | cons c cs ih => simp [stepsFrom, placesFrom, ih]
theorem steps_runes (l : List UInt8) : (steps l).map (·.2) = runes l := stepsFrom_snd 0 _
theorem steps_places (l : List UInt8) : (steps l).map (·.1) = places l := stepsFrom_fst 0 _
theorem steps_length (l : List UInt8) : (steps l).length = (chop l).length := by rw [← List.length_map (·.2), steps_runes, runes_length]

/-- What a round may know of what it is handed. -/
abbrev Step (s : ByteArray) := { x : Nat × Nat // x.1 ≤ s.size ∧ x.2 ≤ 1114111 }
abbrev stepV {s : ByteArray} (x : Step s) : Array Value := #[.int .i64 (x.1.1 : Int), .int .i32 (x.1.2 : Int)]
abbrev raw {s : ByteArray} (xs : List (Step s)) : List (Nat × Nat) := xs.map (·.1)

end Go.Proofs.YtonibpilbkafnaaDoor

/- Package utf's Fix. -/
namespace Go.Proofs.YtonibpilbkafnaaDoor
set_option linter.unusedVariables false
set_option linter.unusedSimpArgs false
open Go.RowKit Go.Lib Go.Shelf
attribute [local go_sem] Oper.semAt_some

/-- A builder stays one where other blocks turn that are no cells. -/
theorem builder_own {β : Type} (B b T e : Nat) (f : β → List Value) (B0 : Nat) : OwnFrom B0 (fun (s : β) W => IsBuilderF T e B b (f s) W) := by
  intro s A C row hs hg hr
  have hne : ∀ k c t fz, A.heap[k]? = some (.cells c t fz) → row ≠ some k := by
    intro k c t fz hk e1
    obtain ⟨_, o, ho, hoc⟩ := hr k e1
    rw [hk] at ho; cases ho; cases hoc
  have key : ∀ p, BuilderAtF T e B b p (f s) A → BuilderAtF T e B b p (f s) C := by
    intro p h
    obtain ⟨hB, v, hb, hown, hn⟩ := h
    have hlt := (Array.getElem?_eq_some_iff.1 hb).1
    refine ⟨hB, v, (hg.block b hlt (fun e1 => hne _ _ _ _ hb e1.symm)).trans hb, hown.kept hg ?_, hn⟩
    rcases hown.2 with ⟨rfl, _⟩ | ⟨g, cap, cur, fz, rfl, _, hgg, _⟩
    · exact .inl rfl
    · exact .inr (fun e1 => hne _ _ _ _ hgg e1.symm)
  exact hs.elim (fun h => .inl (key _ h)) (fun h => .inr (key _ h))
/-- What keeps all but a builder and its row keeps whatever is no cells. -/
theorem others_keep {e : Nat} {b : Nat} {w w' : World} (h : OthersKept e (some b) w w') (hb : ∃ c t fz, w.heap[b]? = some (.cells c t fz)) (hs : w.heap.size ≤ w'.heap.size) : KeepsOthers w w' := by
  refine ⟨hs, fun k o hk ho => h k o hk ?_ ?_⟩
  · intro e1
    obtain ⟨c, t, fz, hc⟩ := hb
    rw [Option.some.inj e1, hc] at hk
    cases hk; cases ho
  · rintro c fz rfl
    cases ho
theorem builder_cells {T e B b : Nat} {bs : List Value} {w : World} (h : IsBuilderF T e B b bs w) : ∃ c t fz, w.heap[b]? = some (.cells c t fz) := by
  rcases h with ⟨_, v, hb, _⟩ | ⟨_, v, hb, _⟩ <;> exact ⟨_, _, _, hb⟩

theorem encs_snoc (rs : List Nat) (r : Nat) : encs (rs ++ [r]) = encs rs ++ enc (r : Int) := by rw [encs_append]; simp [encs]

end Go.Proofs.YtonibpilbkafnaaDoor

/- Walks of package fold: a rune's class, capital and plain form. -/
namespace Go.Proofs.YtonibpilbkafnaaDoor
set_option linter.unusedVariables false
set_option linter.unusedSimpArgs false
open Go.RowKit Go.Lib

theorem in_any (r lo hi : Int) (w : World) : Calls Tryd.prog 36 #[.int .i32 r, .int .i32 lo, .int .i32 hi] w fun e w' => e = .returned (.bool (decide (lo ≤ r ∧ r ≤ hi))) ∧ w = w' := by
  by_cases h1 : lo ≤ r
  · by_cases h2 : r ≤ hi
    · go_enter Tryd.func36, Tryd.ntmps36
      go_wp2
      go_ret
      exact ⟨ret_b (by simp [h1, h2]), rfl⟩
    · go_enter Tryd.func36, Tryd.ntmps36
      go_wp2
      go_ret
      exact ⟨ret_b (by simp; omega), rfl⟩
  · go_enter Tryd.func36, Tryd.ntmps36
    go_wp2
    go_ret
    exact ⟨ret_b (by simp; omega), rfl⟩

/-- 1 letter, 2 digit, 3 blank, 4 sign, 0 none -/
def cls (n : Int) : Int :=
  if 48 ≤ n ∧ n ≤ 57 then 2
  else if (9 ≤ n ∧ n ≤ 13) ∨ n = 32 ∨ n = 160 then 3
  else if 768 ≤ n ∧ n ≤ 879 then 4
  else if n = 215 ∨ n = 247 ∨ n = 930 then 0
  else if (65 ≤ n ∧ n ≤ 90) ∨ (97 ≤ n ∧ n ≤ 122) ∨ (192 ≤ n ∧ n ≤ 383) ∨ (913 ≤ n ∧ n ≤ 937) ∨ (945 ≤ n ∧ n ≤ 969) ∨ (1024 ≤ n ∧ n ≤ 1119) then 1
  else 0

set_option maxHeartbeats 8000000 in
set_option maxRecDepth 100000 in
theorem Class_any (r : Int) (w : World) : Calls Tryd.prog 18 #[.int .i32 r] w fun e w' => e = .returned (.int .i64 (cls r)) ∧ w = w' := by
  go_enter Tryd.func18, Tryd.ntmps18
  go_wp2_with (go_at_call 36; refine (in_any _ _ _ _).mono ?_; rintro e w1 ⟨rfl, rfl⟩)
  all_goals go_ret
  all_goals refine ⟨ret_i ?_, rfl⟩
  all_goals (try simp only [beq_iff_eq, beq_eq_false_iff_ne, ne_eq] at *)
  all_goals (unfold cls; repeat' split)
  all_goals first | rfl | omega

/-- the capital -/
def upr (n : Int) : Int :=
  if n = 247 ∨ n = 305 then n
  else if n = 255 then 376
  else if n = 962 then 931
  else if (97 ≤ n ∧ n ≤ 122) ∨ (224 ≤ n ∧ n ≤ 254) ∨ (945 ≤ n ∧ n ≤ 969) ∨ (1072 ≤ n ∧ n ≤ 1103) then n - 32
  else if 1104 ≤ n ∧ n ≤ 1119 then n - 80
  else if (256 ≤ n ∧ n ≤ 311) ∨ (330 ≤ n ∧ n ≤ 375) then n - n % 2
  else if (313 ≤ n ∧ n ≤ 328) ∨ (377 ≤ n ∧ n ≤ 382) then n - 1 + n % 2
  else n
theorem andNot_one (n : Int) (h0 : 0 ≤ n) (h1 : n < 512) : bits .andNot .i32 n 1 = n - n % 2 := by
  obtain ⟨k, rfl⟩ : ∃ k : Nat, n = k := ⟨n.toNat, by omega⟩
  have : ∀ x : Fin 512, bits .andNot .i32 ((x.val : Nat) : Int) 1 = (x.val : Int) - (x.val : Int) % 2 := by decide +kernel
  exact this ⟨k, by omega⟩
theorem and_one (n : Int) (h0 : 0 ≤ n) (h1 : n < 512) : bits .and .i32 n 1 = n % 2 := by
  obtain ⟨k, rfl⟩ : ∃ k : Nat, n = k := ⟨n.toNat, by omega⟩
  have : ∀ x : Fin 512, bits .and .i32 ((x.val : Nat) : Int) 1 = (x.val : Int) % 2 := by decide +kernel
  exact this ⟨k, by omega⟩

end Go.Proofs.YtonibpilbkafnaaDoor

/- Plain Lean: a text's words (the pieces between runes of a kind), and that the library's spans are these. -/
namespace Go.Proofs.YtonibpilbkafnaaDoor
set_option linter.unusedVariables false
set_option linter.unusedSimpArgs false
open Go.Lib

def wordsC (p : Nat → Bool) : List UInt8 → List (Nat × List UInt8) → List (List UInt8)
  | cur, [] => if cur = [] then [] else [cur]
  | cur, c :: cs => if p c.1 then (if cur = [] then wordsC p [] cs else cur :: wordsC p [] cs) else wordsC p (cur ++ c.2) cs

theorem spans_words (p : Nat → Bool) (s : ByteArray) : ∀ (f pos : Nat) (st : Option Nat) (acc : List (Nat × Nat)), s.size ≤ pos + f → pos ≤ s.size → (∀ a, st = some a → a < pos) →
    ((closeSpans s (spansFromP p s f pos st acc)).map fun x => (s.extract x.1 x.2).data.toList) =
      (acc.map fun x => (s.extract x.1 x.2).data.toList) ++ wordsC p (match st with | some a => (s.data.toList.drop a).take (pos - a) | none => []) (chop (s.data.toList.drop pos))
  | f, pos, st, acc, hf, hp, hst => by
    have hsz : s.data.toList.length = s.size := (size_eq s).symm
    by_cases hlt : pos < s.size
    · obtain ⟨f, rfl⟩ : ∃ k, f = k + 1 := ⟨f - 1, by omega⟩
      have hne : s.data.toList.drop pos ≠ [] := by
        intro h0
        have := congrArg List.length h0
        rw [List.length_drop, hsz] at this; simp at this; omega
      have hwd := wd_pos (s.data.toList.drop pos)
      have hwl := wd_le _ hne
      rw [List.length_drop, hsz] at hwl
      have ed : Utf8.decode s pos = (rn (s.data.toList.drop pos), wd (s.data.toList.drop pos)) := (decodeL_drop s pos).symm
      rw [chop_ne hne, List.drop_drop]
      unfold spansFromP
      rw [if_pos hlt, ed]
      simp only [wordsC]
      by_cases hpr : p (rn (s.data.toList.drop pos)) = true
      · rw [if_pos hpr, if_pos hpr]
        cases st with
        | none =>
          simp only
          rw [spans_words p s f _ none acc (by omega) (by omega) (by intro a h; cases h), if_pos trivial]
        | some a =>
          have ha := hst a rfl
          have hcur : (s.data.toList.drop a).take (pos - a) ≠ [] := by
            intro h0
            have := congrArg List.length h0
            rw [List.length_take, List.length_drop, hsz] at this; simp at this; omega
          simp only
          rw [spans_words p s f _ none _ (by omega) (by omega) (by intro a h; cases h), if_neg hcur, List.map_append, List.append_assoc]
          congr 1
          simp only [List.map_cons, List.map_nil, List.cons_append, List.nil_append]
          congr 1
          exact extract_data s a pos
      · rw [if_neg hpr, if_neg hpr]
        cases st with
        | none =>
          simp only
          rw [spans_words p s f _ (some pos) acc (by omega) (by omega) (by intro a h; cases h; omega)]
          simp only [List.nil_append, Nat.add_sub_cancel_left]
        | some a =>
          have ha := hst a rfl
          simp only
          rw [spans_words p s f _ (some a) acc (by omega) (by omega) (by intro b h; cases h; omega)]
          congr 2
          simp only
          have e1 : pos + wd (s.data.toList.drop pos) - a = (pos - a) + wd (s.data.toList.drop pos) := by omega
          rw [e1, List.take_add, List.drop_drop, show a + (pos - a) = pos by omega]
    · obtain rfl : pos = s.size := by omega
      rw [spansFromP_end p s f _ st acc hlt, List.drop_of_length_le (by omega)]
      unfold closeSpans
      cases st with
      | none => simp [wordsC, chop_nil]
      | some a =>
        have ha := hst a rfl
        have hcur : (s.data.toList.drop a).take (s.size - a) ≠ [] := by
          intro h0
          have := congrArg List.length h0
          rw [List.length_take, List.length_drop, hsz] at this; simp at this; omega
        simp only [List.map_append, List.map_cons, List.map_nil, wordsC, chop_nil, if_neg hcur]
        congr 1
        congr 1
        exact extract_data s a s.size
def wordsP (p : Nat → Bool) (l : List UInt8) : List (List UInt8) := wordsC p [] (chop l)
theorem fields_words (p : Nat → Bool) (s : ByteArray) : (goFieldsP p s).map (fun x => x.data.toList) = wordsP p s.data.toList := by
  have := spans_words p s s.size 0 none [] (by omega) (by omega) (by intro a h; cases h)
  unfold goFieldsP spansOfP
  rw [List.map_map]
  rw [List.drop_zero] at this
  exact this
end Go.Proofs.YtonibpilbkafnaaDoor

/- Plain Lean: words joined by spaces are the same words; their letters are the text's. -/
namespace Go.Proofs.YtonibpilbkafnaaDoor
set_option linter.unusedVariables false
set_option linter.unusedSimpArgs false
open Go.Lib

/-! ### a piece in the middle -/
theorem chop_mid (l : List UInt8) (a b c : List (Nat × List UInt8)) (h : chop l = a ++ b ++ c) : chop (glue b) = b := by
  have h1 := chop_rest l a.length
  rw [h, List.append_assoc, List.take_left, List.drop_left] at h1
  have h2 := chop_first (l.drop (glue a).length) b.length
  rw [h1, List.take_left] at h2
  exact h2
theorem chop_piece (l : List UInt8) : ∀ c ∈ chop l, c.2 ≠ [] := by
  induction l using chop_ind with
  | h0 => intro c hc; simp [chop_nil] at hc
  | h1 l h ih =>
    intro c hc
    rw [chop_ne h] at hc
    rcases List.mem_cons.1 hc with rfl | hc
    · intro h0
      have := congrArg List.length h0
      have := wd_pos l; have := wd_le l h
      simp only [List.length_take, List.length_nil] at *; omega
    · exact ih c hc

/-! ### an ASCII byte ends what stands before it -/
set_option maxRecDepth 100000 in
set_option maxHeartbeats 4000000 in
theorem decodeN_cont (n b0 b1 b2 b3 : Nat) : (1 < (decodeN n b0 b1 b2 b3).2 → 128 ≤ b1) ∧ (2 < (decodeN n b0 b1 b2 b3).2 → 128 ≤ b2) ∧ (3 < (decodeN n b0 b1 b2 b3).2 → 128 ≤ b3) := by
  unfold decodeN
  repeat' split
  all_goals (simp only)
  all_goals omega
theorem wd_cont (l : List UInt8) (h : l ≠ []) (k : Nat) (hk : 1 ≤ k) (hw : k < wd l) : 128 ≤ (l.getD k 0).toNat := by
  have h4 := wd_le4 l h
  unfold wd at hw h4
  rw [decodeL_N] at hw h4
  obtain ⟨c1, c2, c3⟩ := decodeN_cont l.length (l.getD 0 0).toNat (l.getD 1 0).toNat (l.getD 2 0).toNat (l.getD 3 0).toNat
  rcases (show k = 1 ∨ k = 2 ∨ k = 3 by omega) with rfl | rfl | rfl
  · exact c1 hw
  · exact c2 hw
  · exact c3 hw
theorem dec_ascii (w t : List UInt8) (b : UInt8) (hw : w ≠ []) (hb : b.toNat < 128) : decodeL (w ++ b :: t) = decodeL w := by
  have hl : 0 < w.length := List.length_pos_iff.2 hw
  have h1 : wd (w ++ b :: t) ≤ w.length := by
    rcases Nat.lt_or_ge w.length (wd (w ++ b :: t)) with h | h
    · exfalso
      have := wd_cont (w ++ b :: t) (by simp) w.length hl h
      simp [List.getD] at this
      omega
    · exact h
  have := dec_take (w ++ b :: t) w.length hl (by simp) h1
  rw [List.take_left] at this
  exact this.symm
theorem chop_ascii (b : UInt8) (hb : b.toNat < 128) (t : List UInt8) : chop (b :: t) = (b.toNat, [b]) :: chop t := by
  have hd : decodeL (b :: t) = (b.toNat, 1) := by
    rw [decodeL_N]
    unfold decodeN
    simp only [List.getD_cons_zero]
    rw [if_pos hb]
  have h1 : rn (b :: t) = b.toNat := congrArg (·.1) hd
  have h2 : wd (b :: t) = 1 := congrArg (·.2) hd
  rw [chop_ne (by simp), h1, h2]
  rfl
theorem chop_before (b : UInt8) (hb : b.toNat < 128) (t : List UInt8) : ∀ w, chop (w ++ b :: t) = chop w ++ (b.toNat, [b]) :: chop t := by
  intro w
  induction w using chop_ind with
  | h0 => rw [chop_nil, List.nil_append, List.nil_append, chop_ascii b hb]
  | h1 w h ih =>
    have hd := dec_ascii w t b h hb
    have h1 : rn (w ++ b :: t) = rn w := congrArg (·.1) hd
    have h2 : wd (w ++ b :: t) = wd w := congrArg (·.2) hd
    have hle := wd_le w h
    rw [chop_ne (by simp), h1, h2, chop_ne h, List.take_append_of_le_length hle, List.drop_append_of_le_length hle, ih]
    rfl

/-! ### words -/
theorem wordsC_skip (p : Nat → Bool) : ∀ (cs : List (Nat × List UInt8)) (cur : List UInt8) (rest : List (Nat × List UInt8)), (∀ c ∈ cs, p c.1 = false) →
    wordsC p cur (cs ++ rest) = wordsC p (cur ++ glue cs) rest
  | [], cur, rest, _ => by simp [glue]
  | c :: cs, cur, rest, h => by
    have hc := h c (List.mem_cons_self ..)
    have e : glue (c :: cs) = c.2 ++ glue cs := by simp [glue]
    rw [List.cons_append, wordsC, if_neg (by simp [hc]), wordsC_skip p cs _ rest (fun x hx => h x (List.mem_cons_of_mem _ hx)), e, List.append_assoc]

/-- a word: no blank in it, not empty -/
def isWord (p : Nat → Bool) (w : List UInt8) : Prop := w ≠ [] ∧ ∀ c ∈ chop w, p c.1 = false
theorem words_are (p : Nat → Bool) (l : List UInt8) : ∀ (cs cur a : List (Nat × List UInt8)), chop l = a ++ cur ++ cs → (∀ c ∈ cur, p c.1 = false) → ∀ w ∈ wordsC p (glue cur) cs, isWord p w
  | [], cur, a, h, hc, w, hw => by
    unfold wordsC at hw
    split at hw
    · simp at hw
    · rw [List.mem_singleton] at hw
      subst hw
      refine ⟨by assumption, ?_⟩
      rw [chop_mid l a cur [] h]; exact hc
  | c :: cs, cur, a, h, hc, w, hw => by
    unfold wordsC at hw
    have h' : chop l = a ++ (cur ++ [c]) ++ cs := by rw [h]; simp
    have e : glue (cur ++ [c]) = glue cur ++ c.2 := by simp [glue]
    split at hw
    · have ih := words_are p l cs [] (a ++ (cur ++ [c])) (by rw [h']; simp) (by simp)
      have e0 : glue ([] : List (Nat × List UInt8)) = [] := rfl
      rw [e0] at ih
      split at hw
      · exact ih w hw
      · rcases List.mem_cons.1 hw with rfl | hw
        · refine ⟨by assumption, ?_⟩
          rw [chop_mid l a cur (c :: cs) h]; exact hc
        · exact ih w hw
    · rename_i hp
      rw [← e] at hw
      exact words_are p l cs (cur ++ [c]) a h' (by
        intro x hx
        rcases List.mem_append.1 hx with hx | hx
        · exact hc x hx
        · rw [List.mem_singleton] at hx; subst hx; simpa using hp) w hw
theorem words_word (p : Nat → Bool) (l : List UInt8) : ∀ w ∈ wordsP p l, isWord p w := words_are p l (chop l) [] [] (by simp) (by simp)

/-- what is kept of the runes that are no blanks -/
theorem words_flat (p : Nat → Bool) (g : Nat → List UInt8) (hg : ∀ r, p r = true → g r = []) (l : List UInt8) : ∀ (cs cur a : List (Nat × List UInt8)), chop l = a ++ cur ++ cs → (∀ c ∈ cur, p c.1 = false) →
    ((wordsC p (glue cur) cs).map fun w => ((runes w).map g).flatten).flatten = ((cur ++ cs).map fun c => g c.1).flatten
  | [], cur, a, h, hc => by
    unfold wordsC
    have hm := chop_mid l a cur [] h
    split
    · rename_i h0
      have : cur = [] := by rw [h0, chop_nil] at hm; exact hm.symm
      subst this
      simp
    · simp only [List.map_cons, List.map_nil, List.flatten_cons, List.flatten_nil, List.append_nil]
      unfold runes
      rw [hm, List.map_map]; rfl
  | c :: cs, cur, a, h, hc => by
    unfold wordsC
    have h' : chop l = a ++ (cur ++ [c]) ++ cs := by rw [h]; simp
    have e : glue (cur ++ [c]) = glue cur ++ c.2 := by simp [glue]
    have hm := chop_mid l a cur (c :: cs) h
    split
    · rename_i hp
      have ih := words_flat p g hg l cs [] (a ++ (cur ++ [c])) (by rw [h']; simp) (by simp)
      have e0 : glue ([] : List (Nat × List UInt8)) = [] := rfl
      rw [e0] at ih
      split
      · rename_i h0
        have : cur = [] := by rw [h0, chop_nil] at hm; exact hm.symm
        subst this
        rw [ih]; simp [hg _ hp]
      · rw [List.map_cons, List.flatten_cons, ih]
        unfold runes
        rw [hm, List.map_map]
        simp [hg _ hp, Function.comp_def]
    · rename_i hp
      rw [← e, words_flat p g hg l cs (cur ++ [c]) a h' (by
        intro x hx
        rcases List.mem_append.1 hx with hx | hx
        · exact hc x hx
        · rw [List.mem_singleton] at hx; subst hx; simpa using hp)]
      simp
theorem words_letters (p : Nat → Bool) (g : Nat → List UInt8) (hg : ∀ r, p r = true → g r = []) (l : List UInt8) :
    ((wordsP p l).map fun w => ((runes w).map g).flatten).flatten = ((runes l).map g).flatten := by
  have := words_flat p g hg l (chop l) [] [] (by simp) (by simp)
  unfold wordsP
  have e0 : glue ([] : List (Nat × List UInt8)) = [] := rfl
  rw [e0] at this
  rw [this]
  unfold runes
  rw [List.map_map]; rfl
theorem words_size (p : Nat → Bool) : ∀ (cs : List (Nat × List UInt8)) (cur : List UInt8), ((wordsC p cur cs).flatten).length ≤ cur.length + (glue cs).length
  | [], cur => by
    unfold wordsC
    split <;> simp
  | c :: cs, cur => by
    have e : glue (c :: cs) = c.2 ++ glue cs := by simp [glue]
    unfold wordsC
    split
    · have ih := words_size p cs []
      rw [List.length_nil] at ih
      split
      · rw [e, List.length_append]; omega
      · rw [List.flatten_cons, List.length_append, e, List.length_append]; omega
    · have ih := words_size p cs (cur ++ c.2)
      rw [List.length_append] at ih
      rw [e, List.length_append]; omega
theorem words_total (p : Nat → Bool) (l : List UInt8) : ((wordsP p l).flatten).length ≤ l.length := by
  have := words_size p (chop l) []
  rw [glue_chop, List.length_nil, Nat.zero_add] at this
  exact this

/-- words joined by spaces -/
def joinAll : List (List UInt8) → List UInt8
  | [] => []
  | [x] => x
  | x :: y :: ys => x ++ 32 :: joinAll (y :: ys)
theorem joinAll_snoc : ∀ (xs : List (List UInt8)) (y : List UInt8), joinAll (xs ++ [y]) = if xs = [] then y else joinAll xs ++ 32 :: y
  | [], y => rfl
  | [x], y => rfl
  | x :: z :: zs, y => by
    have := joinAll_snoc (z :: zs) y
    rw [if_neg (by simp)] at this
    rw [if_neg (by simp)]
    show x ++ 32 :: joinAll (z :: (zs ++ [y])) = x ++ 32 :: joinAll (z :: zs) ++ 32 :: y
    rw [← List.cons_append, this]
    simp
theorem words_join (p : Nat → Bool) (hp : p 32 = true) : ∀ ws : List (List UInt8), (∀ w ∈ ws, isWord p w) → wordsP p (joinAll ws) = ws
  | [], _ => by simp [joinAll, wordsP, chop_nil, wordsC]
  | [x], h => by
    obtain ⟨h1, h2⟩ := h x (List.mem_cons_self ..)
    have := wordsC_skip p (chop x) [] [] h2
    rw [List.append_nil, glue_chop, List.nil_append] at this
    show wordsC p [] (chop x) = [x]
    rw [this, wordsC, if_neg h1]
  | x :: y :: ys, h => by
    obtain ⟨h1, h2⟩ := h x (List.mem_cons_self ..)
    have ih := words_join p hp (y :: ys) (fun w hw => h w (List.mem_cons_of_mem _ hw))
    have e32 : (32 : UInt8).toNat = 32 := by decide
    show wordsC p [] (chop (x ++ 32 :: joinAll (y :: ys))) = x :: y :: ys
    rw [chop_before 32 (by decide), wordsC_skip p (chop x) [] _ h2, glue_chop, List.nil_append, wordsC, e32, if_pos hp, if_neg h1]
    exact congrArg (x :: ·) ih
theorem joinAll_le : ∀ ws : List (List UInt8), (∀ w ∈ ws, w ≠ []) → (joinAll ws).length ≤ 2 * ws.flatten.length
  | [], _ => by simp [joinAll]
  | [x], _ => by simp [joinAll]; omega
  | x :: y :: ys, h => by
    have ih := joinAll_le (y :: ys) (fun w hw => h w (List.mem_cons_of_mem _ hw))
    have hx := List.length_pos_iff.2 (h x (List.mem_cons_self ..))
    rw [List.flatten_cons, List.length_append]
    show (x ++ 32 :: joinAll (y :: ys)).length ≤ _
    rw [List.length_append, List.length_cons]; omega
theorem flat_take_le (ws : List (List UInt8)) (k : Nat) : ((ws.take k).flatten).length ≤ (ws.flatten).length := by
  have := congrArg List.length (congrArg List.flatten (List.take_append_drop k ws))
  rw [List.flatten_append, List.length_append] at this; omega
theorem flat_mem_le : ∀ (ws : List (List UInt8)) (w : List UInt8), w ∈ ws → w.length ≤ (ws.flatten).length
  | x :: xs, w, h => by
    rw [List.flatten_cons, List.length_append]
    rcases List.mem_cons.1 h with rfl | h
    · omega
    · have := flat_mem_le xs w h; omega
theorem flat_count_le : ∀ (ws : List (List UInt8)), (∀ w ∈ ws, w ≠ []) → ws.length ≤ (ws.flatten).length
  | [], _ => by simp
  | x :: xs, h => by
    have hx := List.length_pos_iff.2 (h x (List.mem_cons_self ..))
    have := flat_count_le xs (fun w hw => h w (List.mem_cons_of_mem _ hw))
    rw [List.flatten_cons, List.length_append, List.length_cons]; omega
end Go.Proofs.YtonibpilbkafnaaDoor

/- Plain Lean: the texts of grids: what is read, what is printed, and that what is printed is read again. -/
namespace Go.Proofs.YtonibpilbkafnaaDoor
set_option linter.unusedVariables false
set_option linter.unusedSimpArgs false

/-- a grid -/
structure Gd where
  H : Int
  W : Int
  B : List Bool
  R : List Bool
  D : List Bool
deriving DecidableEq

/-- a bar that may not stand there -/
def badAt (H W : Nat) (B R D : List Bool) (i : Nat) : Bool :=
  (R.getD i false && (B.getD i false || decide (i % W = W - 1) || B.getD (i + 1) false)) || (D.getD i false && (B.getD i false || decide (i / W = H - 1) || B.getD (i + W) false))
def barred (g : Gd) : Bool := (List.range (g.H.toNat * g.W.toNat)).any (badAt g.H.toNat g.W.toNat g.B g.R g.D)
def checkG (g : Gd) : Int :=
  if ¬ (1 ≤ g.H ∧ g.H ≤ 16 ∧ 1 ≤ g.W ∧ g.W ≤ 16) then 50
  else if ¬ (g.B.length = g.H.toNat * g.W.toNat ∧ g.R.length = g.H.toNat * g.W.toNat ∧ g.D.length = g.H.toNat * g.W.toNat) then 51
  else if barred g then 52 else 0
structure OkG (g : Gd) : Prop where
  h0 : 1 ≤ g.H
  h1 : g.H ≤ 16
  w0 : 1 ≤ g.W
  w1 : g.W ≤ 16
  b : g.B.length = g.H.toNat * g.W.toNat
  r : g.R.length = g.H.toNat * g.W.toNat
  d : g.D.length = g.H.toNat * g.W.toNat
  nb : barred g = false
theorem ok_of_check {g : Gd} (h : checkG g = 0) : OkG g := by
  unfold checkG at h
  split at h
  · omega
  rename_i h1
  split at h
  · omega
  rename_i h2
  split at h
  · omega
  rename_i h3
  exact ⟨by omega, by omega, by omega, by omega, by omega, by omega, by omega, by simpa using h3⟩
theorem check_of_ok {g : Gd} (h : OkG g) : checkG g = 0 := by
  unfold checkG
  rw [if_neg (by have := h.h0; have := h.h1; have := h.w0; have := h.w1; omega), if_neg (by have := h.b; have := h.r; have := h.d; omega), h.nb]
  rfl
theorem area_le {g : Gd} (h : OkG g) : g.H.toNat * g.W.toNat ≤ 256 ∧ 1 ≤ g.W.toNat ∧ g.W.toNat ≤ 16 ∧ 1 ≤ g.H.toNat ∧ g.H.toNat ≤ 16 := by
  have a1 : g.H.toNat ≤ 16 := by have := h.h1; omega
  have a2 : g.W.toNat ≤ 16 := by have := h.w1; omega
  have a3 : 1 ≤ g.H.toNat := by have := h.h0; omega
  have a4 : 1 ≤ g.W.toNat := by have := h.w0; omega
  exact ⟨Nat.mul_le_mul a1 a2, a4, a2, a3, a1⟩

/-- what has been read -/
structure Rd where
  h : Nat
  w : Nat
  c : Nat
  B : List Bool
  R : List Bool
  D : List Bool
  f : Nat
deriving DecidableEq
inductive Sg where
  | line | cell (b : Bool) | right | below | blank | none
deriving DecidableEq
def sg (r : Nat) : Sg :=
  if r = 10 then .line else if r = 35 ∨ r = 9632 then .cell true else if r = 46 ∨ r = 9633 then .cell false else if r = 124 then .right else if r = 95 then .below
  else if cls (r : Int) = 3 then .blank else .none
def rowS (s : Rd) : Option Rd :=
  if s.c = 0 then some s else if 0 < s.h ∧ s.c ≠ s.w then none else some { s with h := s.h + 1, w := s.c, c := 0 }
def barL (c : Nat) (l : List Bool) : Option (List Bool) := if c = 0 ∨ l.getLast? = some true then none else some (l.dropLast ++ [true])
inductive Rs where
  | bad (at' : Nat) (e : Nat)
  | good (s : Rd)
def Rs.then (x : Rs) (k : Rd → Rs) : Rs := match x with | .bad a e => .bad a e | .good s => k s
def stepS (s : Rd) (p : Nat) (r : Nat) : Rs :=
  match sg r with
  | .line => match rowS s with
    | none => .bad s.f 81
    | some t => .good { t with f := p + 1 }
  | .cell b => if s.c = 16 ∨ s.h = 16 then .bad p 50 else .good { s with c := s.c + 1, B := s.B ++ [b], R := s.R ++ [false], D := s.D ++ [false] }
  | .right => match barL s.c s.R with
    | none => .bad p 83
    | some l => .good { s with R := l }
  | .below => match barL s.c s.D with
    | none => .bad p 83
    | some l => .good { s with D := l }
  | .blank => .good s
  | .none => .bad p 80
def runS : List (Nat × List UInt8) → Nat → Rd → Rs
  | [], _, s => .good s
  | c :: cs, p, s => (stepS s p c.1).then fun t => runS cs (p + c.2.length) t
def rd0 : Rd := ⟨0, 0, 0, [], [], [], 0⟩
def gdOf (t : Rd) : Gd := ⟨t.h, t.w, t.B, t.R, t.D⟩
/-- what Parse answers: a place and an error, or a grid -/
inductive Pr where
  | bad (at' : Nat) (e : Int)
  | good (g : Gd)
def endS (n : Nat) (s : Rd) : Pr :=
  match rowS s with
  | none => .bad s.f 81
  | some t => if t.h = 0 then .bad n 82 else if checkG (gdOf t) ≠ 0 then .bad 0 (checkG (gdOf t)) else .good (gdOf t)
def parseL (l : List UInt8) : Pr :=
  if 65536 < l.length then .bad 65536 1
  else match runS (chop l) 0 rd0 with
    | .bad a e => .bad a e
    | .good s => endS l.length s

/-- a cell's signs -/
def signR (g : Gd) (i : Nat) : List Nat :=
  [if g.B.getD i false then 35 else 46] ++ (if g.R.getD i false then [124] else []) ++ (if g.D.getD i false then [95] else []) ++ (if (i + 1) % g.W.toNat = 0 then [10] else [])
def printR (g : Gd) (n : Nat) : List Nat := ((List.range n).map (signR g)).flatten
theorem printR_succ (g : Gd) (n : Nat) : printR g (n + 1) = printR g n ++ signR g n := by simp [printR, List.range_succ]
def printL (g : Gd) : List UInt8 := encs (printR g (g.H.toNat * g.W.toNat))
theorem signR_le (g : Gd) (i : Nat) : (signR g i).length ≤ 4 := by
  unfold signR
  simp only [List.length_append, List.length_singleton]
  split <;> split <;> split <;> simp
theorem printR_le (g : Gd) (n : Nat) : (printR g n).length ≤ 4 * n := by
  induction n with
  | zero => simp [printR]
  | succ n ih => rw [printR_succ, List.length_append]; have := signR_le g n; omega
theorem signR_mem (g : Gd) (i : Nat) : ∀ r ∈ signR g i, r = 35 ∨ r = 46 ∨ r = 124 ∨ r = 95 ∨ r = 10 := by
  intro r hr
  unfold signR at hr
  simp only [List.mem_append, List.mem_singleton] at hr
  rcases hr with ((hr | hr) | hr) | hr
  · split at hr <;> omega
  · split at hr <;> simp at hr; omega
  · split at hr <;> simp at hr; omega
  · split at hr <;> simp at hr; omega
theorem printR_mem (g : Gd) (n : Nat) : ∀ r ∈ printR g n, r = 35 ∨ r = 46 ∨ r = 124 ∨ r = 95 ∨ r = 10 := by
  intro r hr
  unfold printR at hr
  obtain ⟨l, hl, hm⟩ := List.mem_flatten.1 hr
  obtain ⟨i, _, rfl⟩ := List.mem_map.1 hl
  exact signR_mem g i r hm

/-- reading these runes leads from s to t, whatever follows -/
def reads (rs : List Nat) (s t : Rd) : Prop :=
  ∀ (cs rest : List (Nat × List UInt8)) (p f : Nat), cs.map (·.1) = rs → ∃ p' f', runS (cs ++ rest) p { s with f := f } = runS rest p' { t with f := f' }
theorem reads_nil (s : Rd) : reads [] s s := by
  intro cs rest p f h
  have : cs = [] := by simpa using h
  subst this
  exact ⟨p, f, rfl⟩
theorem reads_append {a b : List Nat} {s t u : Rd} (h1 : reads a s t) (h2 : reads b t u) : reads (a ++ b) s u := by
  intro cs rest p f h
  obtain ⟨c1, c2, rfl, e1, e2⟩ := List.map_eq_append_iff.1 h
  obtain ⟨p', f', e⟩ := h1 c1 (c2 ++ rest) p f e1
  obtain ⟨p2, f2, e'⟩ := h2 c2 rest p' f' e2
  exact ⟨p2, f2, by rw [List.append_assoc, e, e']⟩
theorem reads_one {r : Nat} {s t : Rd} (h : ∀ p f, ∃ f', stepS { s with f := f } p r = .good { t with f := f' }) : reads [r] s t := by
  intro cs rest p f hc
  obtain ⟨c, rfl, rfl⟩ : ∃ c, cs = [c] ∧ c.1 = r := by
    match cs, hc with
    | [c], hc => exact ⟨c, rfl, by simpa using hc⟩
  obtain ⟨f', e⟩ := h p f
  refine ⟨p + c.2.length, f', ?_⟩
  rw [List.singleton_append, runS, e]
  rfl
theorem reads_blank {r : Nat} (h : sg r = .blank) (s : Rd) : reads [r] s s := reads_one fun p f => ⟨f, by unfold stepS; rw [h]⟩
theorem reads_cell {r : Nat} {b : Bool} (h : sg r = .cell b) (s : Rd) (hc : s.c < 16) (hh : s.h < 16) :
    reads [r] s { s with c := s.c + 1, B := s.B ++ [b], R := s.R ++ [false], D := s.D ++ [false] } := reads_one fun p f => ⟨f, by
  unfold stepS; rw [h]; simp only; rw [if_neg (by omega)]⟩
theorem reads_right (s : Rd) (l : List Bool) (hc : 0 < s.c) (hl : s.R = l ++ [false]) : reads [124] s { s with R := l ++ [true] } := reads_one fun p f => ⟨f, by
  unfold stepS
  rw [show sg 124 = .right by decide]
  simp only [barL]
  rw [if_neg (by rw [hl]; simp; omega), hl]
  simp⟩
theorem reads_below (s : Rd) (l : List Bool) (hc : 0 < s.c) (hl : s.D = l ++ [false]) : reads [95] s { s with D := l ++ [true] } := reads_one fun p f => ⟨f, by
  unfold stepS
  rw [show sg 95 = .below by decide]
  simp only [barL]
  rw [if_neg (by rw [hl]; simp; omega), hl]
  simp⟩
theorem reads_line (s : Rd) (hc : 0 < s.c) (h : s.h = 0 ∨ s.c = s.w) : reads [10] s { s with h := s.h + 1, w := s.c, c := 0 } := reads_one fun p f => ⟨p + 1, by
  unfold stepS
  rw [show sg 10 = .line by decide]
  simp only [rowS]
  rw [if_neg (by omega), if_neg (by omega)]⟩
theorem reads_empty (s : Rd) (hc : s.c = 0) : reads [10] s s := reads_one fun p f => ⟨p + 1, by
  unfold stepS
  rw [show sg 10 = .line by decide]
  simp only [rowS]
  rw [if_pos hc]⟩

/-- what has been read ahead of cell i -/
def stG (g : Gd) (i : Nat) : Rd :=
  ⟨i / g.W.toNat, if i / g.W.toNat = 0 then 0 else g.W.toNat, i % g.W.toNat, g.B.take i, g.R.take i, g.D.take i, 0⟩
/-- how a rune may be drawn instead -/
structure Deco (d : Nat → Nat → List Nat) : Prop where
  one : ∀ k r s t, r ≠ 10 → reads [r] s t → (r = 35 ∨ r = 46 ∨ r = 124 ∨ r = 95) → reads (d k r) s t
  line : ∀ k s t, reads [10] s t → t.c = 0 → reads (d k 10) s t
def decoR (d : Nat → Nat → List Nat) : Nat → List Nat → List Nat
  | _, [] => []
  | k, r :: rs => d k r ++ decoR d (k + 1) rs
theorem decoR_append (d : Nat → Nat → List Nat) : ∀ (k : Nat) (a b : List Nat), decoR d k (a ++ b) = decoR d k a ++ decoR d (k + a.length) b
  | k, [], b => by simp [decoR]
  | k, r :: a, b => by
    rw [List.cons_append, decoR, decoR, decoR_append d (k + 1) a b, List.append_assoc, List.length_cons]
    congr 3
    omega
theorem divmod_succ (i W : Nat) (hW : 1 ≤ W) : ((i + 1) % W = 0 ∧ i % W + 1 = W ∧ (i + 1) / W = i / W + 1) ∨ ((i + 1) % W = i % W + 1 ∧ i % W + 1 < W ∧ (i + 1) / W = i / W) := by
  have h1 := Nat.div_add_mod i W
  have h2 := Nat.mod_lt i (show W > 0 by omega)
  by_cases h : i % W + 1 = W
  · left
    have e : i + 1 = W * (i / W + 1) := by rw [Nat.mul_add]; omega
    exact ⟨by rw [e]; exact Nat.mul_mod_right _ _, h, by rw [e]; exact Nat.mul_div_cancel_left _ (by omega)⟩
  · right
    have e : i + 1 = i % W + 1 + W * (i / W) := by omega
    refine ⟨?_, by omega, ?_⟩
    · rw [e, Nat.add_mul_mod_self_left, Nat.mod_eq_of_lt (by omega)]
    · rw [e, Nat.add_mul_div_left _ _ (by omega), Nat.div_eq_of_lt (by omega)]
      omega
theorem reads_sign (g : Gd) (hg : OkG g) (d : Nat → Nat → List Nat) (hd : Deco d) (k i : Nat) (hi : i < g.H.toNat * g.W.toNat) : reads (decoR d k (signR g i)) (stG g i) (stG g (i + 1)) := by
  obtain ⟨ha, hw, hw2, hh, hh2⟩ := area_le hg
  have hb := hg.b; have hr := hg.r; have hdd := hg.d
  have hiw : i / g.W.toNat < g.H.toNat := by rw [Nat.div_lt_iff_lt_mul (by omega)]; exact hi
  have hmw := Nat.mod_lt i (show g.W.toNat > 0 by omega)
  have tB : g.B.take (i + 1) = g.B.take i ++ [g.B.getD i false] := by
    rw [List.take_succ_eq_append_getElem (by omega)]; simp [List.getD, List.getElem?_eq_getElem (show i < g.B.length by omega)]
  have tR : g.R.take (i + 1) = g.R.take i ++ [g.R.getD i false] := by
    rw [List.take_succ_eq_append_getElem (by omega)]; simp [List.getD, List.getElem?_eq_getElem (show i < g.R.length by omega)]
  have tD : g.D.take (i + 1) = g.D.take i ++ [g.D.getD i false] := by
    rw [List.take_succ_eq_append_getElem (by omega)]; simp [List.getD, List.getElem?_eq_getElem (show i < g.D.length by omega)]
  unfold signR
  rw [decoR_append, decoR_append, decoR_append]
  -- the cell
  have s1 : ∀ k, reads (decoR d k [if g.B.getD i false then 35 else 46]) (stG g i) ⟨i / g.W.toNat, if i / g.W.toNat = 0 then 0 else g.W.toNat, i % g.W.toNat + 1, g.B.take (i + 1), g.R.take i ++ [false], g.D.take i ++ [false], 0⟩ := by
    intro k
    rw [tB]
    simp only [decoR, List.append_nil]
    refine hd.one k _ _ _ (by split <;> decide) ?_ (by split <;> simp)
    have hs : sg (if g.B.getD i false then 35 else 46) = .cell (g.B.getD i false) := by
      cases g.B.getD i false <;> decide
    exact reads_cell hs (stG g i) (by simp only [stG]; omega) (by simp only [stG]; omega)
  have s2 : ∀ k, reads (decoR d k (if g.R.getD i false then [124] else [])) ⟨i / g.W.toNat, if i / g.W.toNat = 0 then 0 else g.W.toNat, i % g.W.toNat + 1, g.B.take (i + 1), g.R.take i ++ [false], g.D.take i ++ [false], 0⟩ ⟨i / g.W.toNat, if i / g.W.toNat = 0 then 0 else g.W.toNat, i % g.W.toNat + 1, g.B.take (i + 1), g.R.take (i + 1), g.D.take i ++ [false], 0⟩ := by
    intro k
    rw [tR]
    cases g.R.getD i false
    · exact reads_nil _
    · simp only [decoR, List.append_nil, if_true]
      exact hd.one k _ _ _ (by decide) (reads_right _ (g.R.take i) (by simp) rfl) (by simp)
  have s3 : ∀ k, reads (decoR d k (if g.D.getD i false then [95] else [])) ⟨i / g.W.toNat, if i / g.W.toNat = 0 then 0 else g.W.toNat, i % g.W.toNat + 1, g.B.take (i + 1), g.R.take (i + 1), g.D.take i ++ [false], 0⟩ ⟨i / g.W.toNat, if i / g.W.toNat = 0 then 0 else g.W.toNat, i % g.W.toNat + 1, g.B.take (i + 1), g.R.take (i + 1), g.D.take (i + 1), 0⟩ := by
    intro k
    rw [tD]
    cases g.D.getD i false
    · exact reads_nil _
    · simp only [decoR, List.append_nil, if_true]
      exact hd.one k _ _ _ (by decide) (reads_below _ (g.D.take i) (by simp) rfl) (by simp)
  have s4 : ∀ k, reads (decoR d k (if (i + 1) % g.W.toNat = 0 then [10] else [])) ⟨i / g.W.toNat, if i / g.W.toNat = 0 then 0 else g.W.toNat, i % g.W.toNat + 1, g.B.take (i + 1), g.R.take (i + 1), g.D.take (i + 1), 0⟩ (stG g (i + 1)) := by
    intro k
    rcases divmod_succ i g.W.toNat hw with ⟨e1, e2, e3⟩ | ⟨e1, e2, e3⟩
    · rw [if_pos e1]
      simp only [decoR, List.append_nil]
      refine hd.line k _ _ ?_ e1
      have := reads_line ⟨i / g.W.toNat, if i / g.W.toNat = 0 then 0 else g.W.toNat, i % g.W.toNat + 1, g.B.take (i + 1), g.R.take (i + 1), g.D.take (i + 1), 0⟩ (by simp) (by show i / g.W.toNat = 0 ∨ i % g.W.toNat + 1 = if i / g.W.toNat = 0 then 0 else g.W.toNat; by_cases h : i / g.W.toNat = 0 <;> simp [h, e2])
      unfold stG
      rw [e1, e3, if_neg (Nat.succ_ne_zero _)]
      have e4 : (⟨i / g.W.toNat + 1, g.W.toNat, 0, g.B.take (i + 1), g.R.take (i + 1), g.D.take (i + 1), 0⟩ : Rd) = ⟨i / g.W.toNat + 1, i % g.W.toNat + 1, 0, g.B.take (i + 1), g.R.take (i + 1), g.D.take (i + 1), 0⟩ := by rw [e2]
      rw [e4]
      exact this
    · rw [if_neg (by omega)]
      unfold stG
      rw [e1, e3]
      exact reads_nil _
  exact reads_append (reads_append (reads_append (s1 _) (s2 _)) (s3 _)) (s4 _)
theorem reads_print (g : Gd) (hg : OkG g) (d : Nat → Nat → List Nat) (hd : Deco d) : ∀ n, n ≤ g.H.toNat * g.W.toNat → reads (decoR d 0 (printR g n)) rd0 (stG g n)
  | 0, _ => by
    have e : stG g 0 = rd0 := by simp [stG, rd0]
    rw [e]
    exact reads_nil _
  | n + 1, h => by
    rw [printR_succ, decoR_append]
    exact reads_append (reads_print g hg d hd n (by omega)) (reads_sign g hg d hd _ n (by omega))
theorem rd_f (s : Rd) : { s with f := s.f } = s := rfl
theorem parse_deco (g : Gd) (hg : OkG g) (d : Nat → Nat → List Nat) (hd : Deco d) (l : List UInt8) (hl : l.length ≤ 65536) (hr : runes l = decoR d 0 (printR g (g.H.toNat * g.W.toNat))) : parseL l = .good g := by
  obtain ⟨ha, hw, hw2, hh, hh2⟩ := area_le hg
  obtain ⟨p', f', e⟩ := reads_print g hg d hd _ (Nat.le_refl _) (chop l) [] 0 0 hr
  rw [List.append_nil] at e
  unfold parseL
  rw [if_neg (by omega), show rd0 = { rd0 with f := 0 } from rfl, e]
  simp only [runS, endS, rowS]
  have e1 : (stG g (g.H.toNat * g.W.toNat)).c = 0 := by simp [stG]
  rw [if_pos e1]
  have e2 : g.H.toNat * g.W.toNat / g.W.toNat = g.H.toNat := Nat.mul_div_cancel _ (by omega)
  have e3 : (stG g (g.H.toNat * g.W.toNat)).h = g.H.toNat := e2
  simp only
  rw [if_neg (by rw [e3]; omega)]
  have e4 : gdOf { stG g (g.H.toNat * g.W.toNat) with f := f' } = g := by
    unfold gdOf stG
    simp only
    rw [e2, if_neg (by omega), List.take_of_length_le (by have := hg.b; omega), List.take_of_length_le (by have := hg.r; omega), List.take_of_length_le (by have := hg.d; omega)]
    obtain ⟨H, W, B, R, D⟩ := g
    simp only [Gd.mk.injEq, and_true] at *
    have := hg.h0; have := hg.w0
    simp only at *
    omega
  rw [e4, check_of_ok hg]
  rfl
/-- nothing is drawn otherwise -/
def deco0 (_ r : Nat) : List Nat := [r]
theorem deco0_ok : Deco deco0 := ⟨fun k r s t _ h _ => h, fun k s t h _ => h⟩
theorem decoR0 : ∀ (k : Nat) (l : List Nat), decoR deco0 k l = l
  | _, [] => rfl
  | k, r :: l => by rw [decoR, decoR0 (k + 1) l]; rfl
theorem printR_scalar (g : Gd) (n : Nat) : ∀ r ∈ printR g n, scalar r := by
  intro r hr
  unfold scalar
  rw [valid_iff]
  have := printR_mem g n r hr
  omega
theorem enc_ascii (r : Nat) (h : r < 128) : enc (r : Int) = [UInt8.ofNat r] := by
  have hv : Utf8.valid (r : Int) = true := by rw [valid_iff]; omega
  rw [enc_cases]
  simp only [hv, if_true, Int.toNat_natCast]
  rw [if_pos h]
theorem printL_le (g : Gd) (hg : OkG g) : (printL g).length ≤ 4096 := by
  have h1 := encs_length (printR g (g.H.toNat * g.W.toNat))
  have h2 := printR_le g (g.H.toNat * g.W.toNat)
  have := (area_le hg).1
  unfold printL
  omega
theorem parse_print (g : Gd) (hg : OkG g) : parseL (printL g) = .good g := by
  refine parse_deco g hg deco0 deco0_ok _ (by have := printL_le g hg; omega) ?_
  rw [decoR0]
  have := runes_encs (printR g (g.H.toNat * g.W.toNat)) (printR_scalar g _) []
  simpa [printL, runes, chop_nil] using this
/-- what is read is right -/
theorem parse_ok {l : List UInt8} {g : Gd} (h : parseL l = .good g) : OkG g := by
  unfold parseL at h
  split at h
  · cases h
  · split at h
    · cases h
    · unfold endS at h
      split at h
      · cases h
      · split at h
        · cases h
        · split at h
          · cases h
          · rename_i h1
            injection h with h
            subst h
            exact ok_of_check (by simpa using h1)
/-- an error's place lies in the text -/
theorem step_bad {s : Rd} {p : Nat} {r a e : Nat} (hf : s.f ≤ p) (h : stepS s p r = .bad a e) : a ≤ p := by
  unfold stepS at h
  cases hs : sg r <;> rw [hs] at h <;> simp only at h
  · split at h
    · injection h with h1 h2; omega
    · cases h
  · split at h
    · injection h with h1 h2; omega
    · cases h
  · split at h
    · injection h with h1 h2; omega
    · cases h
  · split at h
    · injection h with h1 h2; omega
    · cases h
  · cases h
  · injection h with h1 h2; omega
theorem step_good {s t : Rd} {p : Nat} {r : Nat} (hf : s.f ≤ p) (h : stepS s p r = .good t) : t.f ≤ p + 1 := by
  unfold stepS at h
  cases hs : sg r <;> rw [hs] at h <;> simp only at h
  · split at h
    · cases h
    · injection h with h; subst h; exact Nat.le_refl _
  · split at h
    · cases h
    · injection h with h; subst h; exact Nat.le_succ_of_le hf
  · split at h
    · cases h
    · injection h with h; subst h; exact Nat.le_succ_of_le hf
  · split at h
    · cases h
    · injection h with h; subst h; exact Nat.le_succ_of_le hf
  · injection h with h; subst h; omega
  · cases h
theorem run_place : ∀ (cs : List (Nat × List UInt8)) (p : Nat) (s : Rd), s.f ≤ p → (∀ c ∈ cs, c.2 ≠ []) →
    (∀ a e, runS cs p s = .bad a e → a ≤ p + (glue cs).length) ∧ (∀ t, runS cs p s = .good t → t.f ≤ p + (glue cs).length)
  | [], p, s, hf, _ => ⟨fun a e h => by simp [runS] at h, fun t h => by simp only [runS, Rs.good.injEq] at h; subst h; omega⟩
  | c :: cs, p, s, hf, hc => by
    have h1 : 1 ≤ c.2.length := List.length_pos_iff.2 (hc c (List.mem_cons_self ..))
    have hg : (glue (c :: cs)).length = c.2.length + (glue cs).length := by simp [glue]
    rw [hg]
    cases hs : stepS s p c.1 with
    | bad a e =>
      have h2 := step_bad hf hs
      refine ⟨fun a' e' h => ?_, fun t h => ?_⟩
      · rw [runS, hs] at h; simp only [Rs.then, Rs.bad.injEq] at h; omega
      · rw [runS, hs] at h; simp [Rs.then] at h
    | good t =>
      have h2 := step_good hf hs
      have ih := run_place cs (p + c.2.length) t (by omega) (fun x hx => hc x (List.mem_cons_of_mem _ hx))
      refine ⟨fun a' e' h => ?_, fun t' h => ?_⟩
      · rw [runS, hs] at h; have := ih.1 a' e' h; omega
      · rw [runS, hs] at h; have := ih.2 t' h; omega
theorem parse_place {l : List UInt8} {a : Nat} {e : Int} (h : parseL l = .bad a e) : a ≤ l.length := by
  unfold parseL at h
  split at h
  · injection h with h1 h2; omega
  · have hp := run_place (chop l) 0 rd0 (Nat.le_refl _) (chop_piece l)
    rw [glue_chop] at hp
    split at h
    · rename_i he
      injection h with h1 h2
      have := hp.1 _ _ he
      omega
    · rename_i s he
      have hs := hp.2 _ he
      unfold endS at h
      split at h
      · injection h with h1 h2; omega
      · split at h
        · injection h with h1 h2; omega
        · split at h
          · injection h with h1 h2; omega
          · cases h
end Go.Proofs.YtonibpilbkafnaaDoor

/- Slices that read as lists; the reference's comparison of two lists of texts. -/
namespace Go.Proofs.YtonibpilbkafnaaDoor
set_option linter.unusedVariables false
set_option linter.unusedSimpArgs false
open Go.RowKit Go.Lib

theorem bdraw {B : Nat} {a w : World} (h : Below B a w) (n : Nat) : Below B a (w.drewN n) := h.trans ⟨rfl, rfl, rfl, Nat.le_refl _, fun _ _ => rfl⟩
theorem block_add (a : Addr) (n : Nat) : (a.add n).block = a.block := by unfold Addr.add; split <;> rfl
/-- v is a slice whose cells, all of them below block B, hold xs -/
def Sl (w : World) (B : Nat) (v : Value) (xs : List Value) : Prop :=
  ∃ A c, v = .slice A xs.length c ∧ xs.length ≤ c ∧ (0 < xs.length → ∃ ad, A = some ad ∧ ad.block < B ∧ ∀ j u, xs[j]? = some u → w.cell? (ad.add j) = some u)
theorem Sl.nil_ (w : World) (B : Nat) : Sl w B (.slice none 0 0) [] := ⟨none, 0, rfl, Nat.le_refl _, fun h => absurd h (by simp)⟩
theorem Sl.below {w w' : World} {B : Nat} {v : Value} {xs : List Value} (h : Sl w B v xs) (hb : Below B w w') : Sl w' B v xs := by
  obtain ⟨A, c, hv, hc, h⟩ := h
  refine ⟨A, c, hv, hc, fun hn => ?_⟩
  obtain ⟨ad, e, hB, hcell⟩ := h hn
  exact ⟨ad, e, hB, fun j u hu => (hb.cell (by rw [block_add]; exact hB)).trans (hcell j u hu)⟩
theorem Sl.more {w : World} {B B' : Nat} {v : Value} {xs : List Value} (h : Sl w B v xs) (hB : B ≤ B') : Sl w B' v xs := by
  obtain ⟨A, c, hv, hc, h⟩ := h
  refine ⟨A, c, hv, hc, fun hn => ?_⟩
  obtain ⟨ad, e, hB1, hcell⟩ := h hn
  exact ⟨ad, e, by omega, hcell⟩
theorem Sl.of_own {w : World} {B e : Nat} {v : Value} {n : Nat} {xs : List Value} (h : w.ownsRow B e 1 v n xs) : Sl w w.heap.size v xs := by
  have hl : xs.length = n := by simpa using h.1
  subst hl
  rcases h.2 with ⟨hv, h0⟩ | ⟨g, cap, cur, hv, hB, hg, hcap, hrest⟩
  · exact ⟨none, 0, by rw [hv, h0], by omega, fun hn => by omega⟩
  · refine ⟨some ⟨g, 0, none⟩, cap, hv, by omega, fun _ => ⟨_, rfl, (Array.getElem?_eq_some_iff.1 hg).1, h.cells (g := g) (by rw [hv]; rfl)⟩⟩
theorem Sl.at_ {w : World} {B : Nat} {v : Value} {xs : List Value} (h : Sl w B v xs) {k : Nat} (hk : k < xs.length) : ∃ ad c, v = .slice (some ad) xs.length c ∧ w.cell? (ad.add k) = some xs[k] := by
  obtain ⟨A, c, hv, hc, h⟩ := h
  obtain ⟨ad, rfl, hB, hcell⟩ := h (by omega)
  exact ⟨ad, c, hv, hcell k _ (List.getElem?_eq_getElem hk)⟩

theorem Sl.cell {w : World} {B : Nat} {A : Option Addr} {n c : Nat} {xs : List Value} (h : Sl w B (.slice A n c) xs) {k : Nat} (hk : k < xs.length) : ∃ ad, A = some ad ∧ ad.block < B ∧ w.cell? (ad.add k) = some xs[k] := by
  obtain ⟨A, c, hv, hc, h⟩ := h
  obtain ⟨ad, rfl, hB, hcell⟩ := h (by omega)
  injection hv with e1 e2 e3
  exact ⟨ad, e1, hB, hcell k _ (List.getElem?_eq_getElem hk)⟩
theorem Sl.len {w : World} {B : Nat} {A : Option Addr} {n c : Nat} {xs : List Value} (h : Sl w B (.slice A n c) xs) : xs.length = n ∧ n ≤ c := by
  obtain ⟨A, c, hv, hc, h⟩ := h
  injection hv with e1 e2 e3
  omega

abbrev str (l : List UInt8) : Value := .string ⟨l.toArray⟩
abbrev strs (ls : List (List UInt8)) : List Value := ls.map str
theorem str_bl (s : ByteArray) : str (bl s) = .string s := by unfold str; congr 1
theorem bl_roundtrip (s : ByteArray) : (⟨(bl s).toArray⟩ : ByteArray) = s := bl_inj rfl

end Go.Proofs.YtonibpilbkafnaaDoor
