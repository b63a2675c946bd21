/- Plain Lean: a grid turned, cell by cell; a turn that leaves the grid as it is. -/
import Derived.Test.YtonibpilbkafnaaZ3
namespace Go.Proofs.Ytonibpilbkafnaa
set_option linter.unusedVariables false
set_option linter.unusedSimpArgs false

/-- where cell i stands in the turned grid, whose rows are so long -/
def widW (h w k : Nat) : Nat := if k % 2 = 1 then h else w
def placeW (h w k i : Nat) : Nat := idxW (widW h w k) (laidR h w k (rowW w i) (colW' w i)) (laidC h w k (rowW w i) (colW' w i))
theorem place_sig {h w k : Nat} (hw : k % 2 = 1 → h = w) (i : Nat) : placeW h w k i = sigW h w k i := by
  unfold placeW sigW widW
  by_cases e : k % 2 = 1
  · rw [if_pos e, hw e]
  · rw [if_neg e]
theorem place_lt {h w k i : Nat} (hk : k < 8) (hi : i < h * w) : placeW h w k i < h * w := by
  have hin := in_of hi
  have h2 : inG (if k % 2 = 1 then w else h : Nat) (widW h w k : Nat) (laidR h w k (rowW w i) (colW' w i)) (laidC h w k (rowW w i) (colW' w i)) := by
    unfold inG at hin ⊢
    unfold widW
    rcases eight hk with rfl | rfl | rfl | rfl | rfl | rfl | rfl | rfl <;> simp [laidR, laidC, mirC] <;> omega
  have h3 := (of_idx h2).2.2
  unfold placeW
  refine Nat.lt_of_lt_of_le h3 ?_
  unfold widW
  by_cases e : k % 2 = 1
  · rw [if_pos e, if_pos e, Nat.mul_comm]; exact Nat.le_refl _
  · rw [if_neg e, if_neg e]; exact Nat.le_refl _
/-- what has been turned: blocks, bars at the right, bars below -/
structure Td where
  B : List Bool
  R : List Bool
  D : List Bool
def barT (w a b : Nat) (t : Td) : Td := if max a b = min a b + 1 ∧ (min a b + 1) % w ≠ 0 then { t with R := t.R.set (min a b) true } else { t with D := t.D.set (min a b) true }
/-- one cell more -/
def turnStep (h w k : Nat) (B R D : List Bool) (t : Td) (i : Nat) : Td :=
  let t1 : Td := { t with B := t.B.set (placeW h w k i) (B.getD i false) }
  let t2 := if R.getD i false then barT (widW h w k) (placeW h w k i) (placeW h w k (i + 1)) t1 else t1
  if D.getD i false then barT (widW h w k) (placeW h w k i) (placeW h w k (i + w)) t2 else t2
def turnN (h w k : Nat) (B R D : List Bool) : Nat → Td
  | 0 => ⟨List.replicate (h * w) false, List.replicate (h * w) false, List.replicate (h * w) false⟩
  | i + 1 => turnStep h w k B R D (turnN h w k B R D i) i
theorem barT_B (w a b : Nat) (t : Td) : (barT w a b t).B = t.B := by unfold barT; split <;> rfl
theorem barT_len (w a b : Nat) (t : Td) : (barT w a b t).R.length = t.R.length ∧ (barT w a b t).D.length = t.D.length := by unfold barT; split <;> simp
theorem turn_len (h w k : Nat) (B R D : List Bool) : ∀ i, (turnN h w k B R D i).B.length = h * w ∧ (turnN h w k B R D i).R.length = h * w ∧ (turnN h w k B R D i).D.length = h * w
  | 0 => by simp [turnN]
  | i + 1 => by
    obtain ⟨h1, h2, h3⟩ := turn_len h w k B R D i
    rw [show turnN h w k B R D (i + 1) = turnStep h w k B R D (turnN h w k B R D i) i from rfl]
    generalize turnN h w k B R D i = t at *
    unfold turnStep
    simp only
    refine ⟨?_, ?_, ?_⟩
    · split <;> split <;> simp [barT_B, h1]
    · split <;> split <;> simp [barT_len, h2]
    · split <;> split <;> simp [barT_len, h3]
abbrev gt (l : List Bool) (i : Nat) : Bool := l.getD i false
theorem gt_set {l : List Bool} {i j : Nat} {x : Bool} (hi : i < l.length) : gt (l.set i x) j = if i = j then x else gt l j := by
  unfold gt
  rw [List.getD_eq_getElem?_getD, List.getD_eq_getElem?_getD, List.getElem?_set]
  by_cases h : i = j
  · subst h; simp [hi]
  · simp [h]
theorem gt_up {l : List Bool} {i j : Nat} (h : gt l j = true) : gt (l.set i true) j = true := by
  by_cases hi : i < l.length
  · rw [gt_set hi]; split
    · rfl
    · exact h
  · rw [List.set_eq_of_length_le (by omega)]; exact h
/-- a bar that stands stays -/
theorem barAt_up {w a b c d : Nat} {t : Td} (h : BarAt w (gt t.R) (gt t.D) a b) : BarAt w (gt (barT w c d t).R) (gt (barT w c d t).D) a b := by
  unfold BarAt at h ⊢
  unfold barT
  split at h
  · rename_i h1
    rw [if_pos h1]
    split
    · exact gt_up h
    · exact h
  · rename_i h1
    rw [if_neg h1]
    split
    · exact h
    · exact gt_up h
theorem barAt_new {w a b : Nat} {t : Td} (ha : a < t.R.length) (ha2 : a < t.D.length) : BarAt w (gt (barT w a b t).R) (gt (barT w a b t).D) a b := by
  unfold BarAt barT
  split
  · simp only
    rw [gt_set (by omega), if_pos rfl]
  · simp only
    rw [gt_set (by omega), if_pos rfl]
theorem sig_inj {h w k i j : Nat} (hk : k < 8) (hw : k % 2 = 1 → h = w) (hi : i < h * w) (hj : j < h * w) (e : sigW h w k i = sigW h w k j) : i = j := by
  rw [← sig_four hk hw hi, ← sig_four hk hw hj, e]
theorem step_B (h w k : Nat) (B R D : List Bool) (t : Td) (i : Nat) : (turnStep h w k B R D t i).B = t.B.set (placeW h w k i) (B.getD i false) := by
  unfold turnStep
  simp only
  split <;> split <;> simp only [barT_B]
theorem step_up {h w k : Nat} {B R D : List Bool} {t : Td} {i a b : Nat} (hab : BarAt (widW h w k) (gt t.R) (gt t.D) a b) : BarAt (widW h w k) (gt (turnStep h w k B R D t i).R) (gt (turnStep h w k B R D t i).D) a b := by
  unfold turnStep
  simp only
  split <;> split
  · exact barAt_up (barAt_up hab)
  · exact barAt_up hab
  · exact barAt_up hab
  · exact hab
theorem step_rgt {h w k : Nat} {B R D : List Bool} {t : Td} {i : Nat} (hr : gt R i = true) (h1 : placeW h w k i < t.R.length) (h2 : placeW h w k i < t.D.length) : BarAt (widW h w k) (gt (turnStep h w k B R D t i).R) (gt (turnStep h w k B R D t i).D) (placeW h w k i) (placeW h w k (i + 1)) := by
  unfold turnStep
  simp only
  rw [if_pos (show R.getD i false = true from hr)]
  split
  · exact barAt_up (barAt_new h1 h2)
  · exact barAt_new h1 h2
theorem step_blw {h w k : Nat} {B R D : List Bool} {t : Td} {i : Nat} (hd : gt D i = true) (h1 : placeW h w k i < t.R.length) (h2 : placeW h w k i < t.D.length) : BarAt (widW h w k) (gt (turnStep h w k B R D t i).R) (gt (turnStep h w k B R D t i).D) (placeW h w k i) (placeW h w k (i + w)) := by
  unfold turnStep
  simp only
  have hif : ∀ (x y : Td), (if D.getD i false = true then x else y) = x := fun x y => if_pos hd
  rw [hif]
  split
  · exact barAt_new (by rw [(barT_len _ _ _ _).1]; exact h1) (by rw [(barT_len _ _ _ _).2]; exact h2)
  · exact barAt_new h1 h2
theorem turnN_succ (h w k : Nat) (B R D : List Bool) (n : Nat) : turnN h w k B R D (n + 1) = turnStep h w k B R D (turnN h w k B R D n) n := rfl
/-- what the turned grid holds of the cells turned so far -/
theorem turn_holds {h w k : Nat} {B R D : List Bool} (hk : k < 8) (hw : k % 2 = 1 → h = w) : ∀ n, n ≤ h * w → ∀ j, j < n →
    gt (turnN h w k B R D n).B (sigW h w k j) = gt B j ∧ (gt R j = true → BarAt w (gt (turnN h w k B R D n).R) (gt (turnN h w k B R D n).D) (sigW h w k j) (sigW h w k (j + 1))) ∧ (gt D j = true → BarAt w (gt (turnN h w k B R D n).R) (gt (turnN h w k B R D n).D) (sigW h w k j) (sigW h w k (j + w)))
  | 0, _, j, hj => by omega
  | n + 1, hn, j, hj => by
    obtain ⟨l1, l2, l3⟩ := turn_len h w k B R D n
    have hwid : widW h w k = w := by
      unfold widW
      by_cases e : k % 2 = 1
      · rw [if_pos e, hw e]
      · rw [if_neg e]
    have hsn := sig_lt hk hw (show n < h * w by omega)
    rw [turnN_succ]
    have hup := fun a b => step_up (h := h) (w := w) (k := k) (B := B) (R := R) (D := D) (t := turnN h w k B R D n) (i := n) (a := a) (b := b)
    have hrg := step_rgt (h := h) (w := w) (k := k) (B := B) (R := R) (D := D) (t := turnN h w k B R D n) (i := n)
    have hbl := step_blw (h := h) (w := w) (k := k) (B := B) (R := R) (D := D) (t := turnN h w k B R D n) (i := n)
    rw [hwid] at hup hrg hbl
    rw [place_sig hw] at hrg hbl
    rw [place_sig hw] at hrg
    rw [place_sig hw] at hbl
    have hb : gt (turnStep h w k B R D (turnN h w k B R D n) n).B (sigW h w k j) = if sigW h w k n = sigW h w k j then gt B n else gt (turnN h w k B R D n).B (sigW h w k j) := by
      rw [step_B, place_sig hw, gt_set (by omega)]
    by_cases hjn : j = n
    · subst hjn
      exact ⟨by rw [hb, if_pos rfl], fun hr => hrg hr (by omega) (by omega), fun hd => hbl hd (by omega) (by omega)⟩
    · obtain ⟨h1, h2, h3⟩ := turn_holds (B := B) (R := R) (D := D) hk hw n (by omega) j (by omega)
      refine ⟨?_, fun hr => hup _ _ (h2 hr), fun hd => hup _ _ (h3 hd)⟩
      rw [hb, if_neg (fun e => hjn (sig_inj hk hw (by omega) (by omega) e).symm)]
      exact h1
/-- a turned grid that is the same: a symmetry -/
theorem sym_of_same {h w k : Nat} {B R D : List Bool} (hk : k < 8) (hw : k % 2 = 1 → h = w) (hR : ∀ i, i < h * w → gt R i = true → besIn h w i 0 ∧ besW w i 0 = i + 1) (hD : ∀ i, i < h * w → gt D i = true → besIn h w i 1 ∧ besW w i 1 = i + w)
    (hs : (turnN h w k B R D (h * w)).B = B ∧ (turnN h w k B R D (h * w)).R = R ∧ (turnN h w k B R D (h * w)).D = D) : SymG h w k (gt B) (gt R) (gt D) := by
  have ht := fun j hj => turn_holds (B := B) (R := R) (D := D) hk hw (h * w) (Nat.le_refl _) j hj
  rw [hs.1, hs.2.1, hs.2.2] at ht
  refine ⟨hk, hw, fun i hi => (ht i hi).1, fun i hi hr => ?_, fun i hi hd => ?_⟩
  · obtain ⟨h1, h2⟩ := hR i hi hr
    exact ⟨h1, by rw [h2]; exact (ht i hi).2.1 hr⟩
  · obtain ⟨h1, h2⟩ := hD i hi hd
    exact ⟨h1, by rw [h2]; exact (ht i hi).2.2 hd⟩
end Go.Proofs.Ytonibpilbkafnaa
