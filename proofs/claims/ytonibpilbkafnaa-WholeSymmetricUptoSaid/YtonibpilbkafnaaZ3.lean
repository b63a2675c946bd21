/- Plain Lean: a grid's steps under its own symmetry. -/
import Derived.Test.YtonibpilbkafnaaZ2
namespace Go.Proofs.Ytonibpilbkafnaa
set_option linter.unusedVariables false
set_option linter.unusedSimpArgs false

def barB (R D : Nat → Bool) (i j d : Nat) : Bool := if d % 2 = 0 then R (min i j) else D (min i j)
/-- the bar between two cells beside each other, as the turned grid tells it -/
def BarAt (w : Nat) (R D : Nat → Bool) (a b : Nat) : Prop := if max a b = min a b + 1 ∧ (min a b + 1) % w ≠ 0 then R (min a b) = true else D (min a b) = true
theorem BarAt.comm {w : Nat} {R D : Nat → Bool} {a b : Nat} (h : BarAt w R D a b) : BarAt w R D b a := by
  unfold BarAt at h ⊢
  rw [Nat.max_comm, Nat.min_comm]
  exact h
theorem pos_w {h w i : Nat} (hi : i < h * w) : 0 < w := by
  rcases Nat.eq_zero_or_pos w with h0 | h0
  · subst h0; simp at hi
  · exact h0
theorem barAt_bar {h w i d : Nat} {R D : Nat → Bool} (hd : d < 4) (hi : i < h * w) (hin : besIn h w i d) : BarAt w R D i (besW w i d) ↔ barB R D i (besW w i d) d = true := by
  obtain ⟨f0, f1, f2, f3⟩ := bes_far hd hi hin
  have hw := pos_w hi
  generalize besW w i d = j at *
  unfold BarAt barB
  rcases four hd with rfl | rfl | rfl | rfl
  · obtain ⟨rfl, h2⟩ := f0 rfl
    have e1 : min i (i + 1) = i := by omega
    have e2 : max i (i + 1) = i + 1 := by omega
    rw [e1, e2, if_pos ⟨rfl, h2⟩]; simp
  · have e := f1 rfl
    subst e
    have e1 : min i (i + w) = i := by omega
    have e2 : max i (i + w) = i + w := by omega
    rw [e1, e2, if_neg (fun h9 => h9.2 (by have : w = 1 := by omega
                                           subst this; exact Nat.mod_one _))]; simp
  · obtain ⟨e, h2⟩ := f2 rfl
    subst e
    have e1 : min (j + 1) j = j := by omega
    have e2 : max (j + 1) j = j + 1 := by omega
    rw [e1, e2, if_pos ⟨rfl, h2⟩]; simp
  · have e := f3 rfl
    subst e
    have e1 : min (j + w) j = j := by omega
    have e2 : max (j + w) j = j + w := by omega
    rw [e1, e2, if_neg (fun h9 => h9.2 (by have : w = 1 := by omega
                                           subst this; exact Nat.mod_one _))]; simp
/-- a turn leaves the grid as it is -/
structure SymG (h w k : Nat) (B R D : Nat → Bool) : Prop where
  k8 : k < 8
  hw : k % 2 = 1 → h = w
  blk : ∀ i, i < h * w → B (sigW h w k i) = B i
  rgt : ∀ i, i < h * w → R i = true → besIn h w i 0 ∧ BarAt w R D (sigW h w k i) (sigW h w k (besW w i 0))
  blw : ∀ i, i < h * w → D i = true → besIn h w i 1 ∧ BarAt w R D (sigW h w k i) (sigW h w k (besW w i 1))
theorem bar_fwd {h w k i d : Nat} {B R D : Nat → Bool} (hs : SymG h w k B R D) (hd : d < 4) (hi : i < h * w) (hin : besIn h w i d) (hb : barB R D i (besW w i d) d = true) :
    barB R D (sigW h w k i) (besW w (sigW h w k i) (tauW k d)) (tauW k d) = true := by
  obtain ⟨b1, b2⟩ := sig_bes hs.k8 hd hs.hw hi
  have hsi := sig_lt hs.k8 hs.hw hi
  refine (barAt_bar (tau_lt k d) hsi (b1.2 hin)).1 ?_
  rw [b2 hin]
  obtain ⟨f0, f1, f2, f3⟩ := bes_far hd hi hin
  obtain ⟨k1, k2⟩ := bes_back hd hi hin
  have hj := bes_lt hin
  have hw := pos_w hi
  unfold barB at hb
  rcases four hd with rfl | rfl | rfl | rfl
  · have e := (f0 rfl).1
    rw [e] at hb
    rw [if_pos rfl, show min i (i + 1) = i by omega] at hb
    exact (hs.rgt i hi hb).2
  · have e := f1 rfl
    rw [e] at hb
    rw [if_neg (by omega), show min i (i + w) = i by omega] at hb
    exact (hs.blw i hi hb).2
  · have e := (f2 rfl).1
    rw [if_pos rfl, show min i (besW w i 2) = besW w i 2 by omega] at hb
    have h9 := (hs.rgt _ hj hb).2
    rw [show opp 2 = 0 from rfl] at k2
    rw [k2] at h9
    exact h9.comm
  · have e := f3 rfl
    rw [if_neg (by omega), show min i (besW w i 3) = besW w i 3 by omega] at hb
    have h9 := (hs.blw _ hj hb).2
    rw [show opp 3 = 1 from rfl] at k2
    rw [k2] at h9
    exact h9.comm
theorem bar_same {h w k i d : Nat} {B R D : Nat → Bool} (hs : SymG h w k B R D) (hd : d < 4) (hi : i < h * w) (hin : besIn h w i d) :
    barB R D (sigW h w k i) (besW w (sigW h w k i) (tauW k d)) (tauW k d) = barB R D i (besW w i d) d := by
  rw [Bool.eq_iff_iff]
  refine ⟨fun h1 => ?_, bar_fwd hs hd hi hin⟩
  have i1 := sig_lt hs.k8 hs.hw hi
  have i2 := sig_lt hs.k8 hs.hw i1
  have i3 := sig_lt hs.k8 hs.hw i2
  have n1 := (sig_bes hs.k8 hd hs.hw hi).1.2 hin
  have n2 := (sig_bes hs.k8 (tau_lt k d) hs.hw i1).1.2 n1
  have n3 := (sig_bes hs.k8 (tau_lt k _) hs.hw i2).1.2 n2
  have h2 := bar_fwd hs (tau_lt k d) i1 n1 h1
  have h3 := bar_fwd hs (tau_lt k _) i2 n2 h2
  have h4 := bar_fwd hs (tau_lt k _) i3 n3 h3
  rw [sig_four hs.k8 hs.hw hi, tau_four hs.k8 hd] at h4
  exact h4
instance (h w i d : Nat) : Decidable (besIn h w i d) := by unfold besIn inG; exact inferInstance
/-- a step from an open cell -/
def stW (h w : Nat) (B R D : Nat → Bool) (i d : Nat) : Option Nat :=
  if h * w ≤ i ∨ B i = true then none
  else if besIn h w i d then (if B (besW w i d) = true then none else if barB R D i (besW w i d) d = true then none else some (besW w i d))
  else none
theorem st_sym {h w k i d : Nat} {B R D : Nat → Bool} (hs : SymG h w k B R D) (hd : d < 4) (hi : i < h * w) : stW h w B R D (sigW h w k i) (tauW k d) = (stW h w B R D i d).map (sigW h w k) := by
  obtain ⟨b1, b2⟩ := sig_bes hs.k8 hd hs.hw hi
  have hsi := sig_lt hs.k8 hs.hw hi
  unfold stW
  by_cases h1 : B i = true
  · rw [if_pos (.inr (by rw [hs.blk i hi]; exact h1)), if_pos (.inr h1)]; rfl
  · have q1 : ¬ (h * w ≤ sigW h w k i ∨ B (sigW h w k i) = true) := fun h9 => by
      rcases h9 with h9 | h9
      · omega
      · rw [hs.blk i hi] at h9; exact h1 h9
    have q2 : ¬ (h * w ≤ i ∨ B i = true) := fun h9 => by
      rcases h9 with h9 | h9
      · omega
      · exact h1 h9
    rw [if_neg q1, if_neg q2]
    by_cases hin : besIn h w i d
    · rw [if_pos (b1.2 hin), if_pos hin, bar_same hs hd hi hin, b2 hin, hs.blk _ (bes_lt hin)]
      split
      · rfl
      · split <;> rfl
    · rw [if_neg (fun h9 => hin (b1.1 h9)), if_neg hin]; rfl
theorem st_some {h w i d j : Nat} {B R D : Nat → Bool} (hs : stW h w B R D i d = some j) : i < h * w ∧ B i ≠ true ∧ besIn h w i d ∧ j = besW w i d ∧ B j ≠ true ∧ barB R D i j d ≠ true := by
  unfold stW at hs
  split at hs
  · cases hs
  · rename_i h1
    split at hs
    · rename_i h2
      split at hs
      · cases hs
      · rename_i h3
        split at hs
        · cases hs
        · rename_i h4
          injection hs with hs
          subst hs
          exact ⟨by have : ¬ h * w ≤ i := fun h9 => h1 (.inl h9)
                    omega, fun h9 => h1 (.inr h9), h2, rfl, h3, h4⟩
    · cases hs
theorem st_opp {h w i d j : Nat} {B R D : Nat → Bool} (hd : d < 4) (hs : stW h w B R D i d = some j) : stW h w B R D j (opp d) = some i := by
  obtain ⟨h1, h2, h3, rfl, h5, h6⟩ := st_some hs
  obtain ⟨k1, k2⟩ := bes_back hd h1 h3
  unfold stW
  have q1 : ¬ (h * w ≤ besW w i d ∨ B (besW w i d) = true) := fun h9 => by
    rcases h9 with h9 | h9
    · have := bes_lt h3; omega
    · exact h5 h9
  rw [if_neg q1, if_pos k1, k2, if_neg h2]
  have e : barB R D (besW w i d) i (opp d) = barB R D i (besW w i d) d := by
    unfold barB
    rw [Nat.min_comm, show opp d % 2 = d % 2 by unfold opp; omega]
  rw [e, if_neg h6]
theorem st_up {h w i d j : Nat} {B R D : Nat → Bool} (hd : d < 2) (hs : stW h w B R D i d = some j) : i < j ∧ j < h * w := by
  obtain ⟨h1, h2, h3, rfl, h5, h6⟩ := st_some hs
  obtain ⟨f0, f1, _, _⟩ := bes_far (by omega) h1 h3
  have hw := pos_w h1
  refine ⟨?_, bes_lt h3⟩
  rcases (show d = 0 ∨ d = 1 by omega) with rfl | rfl
  · rw [(f0 rfl).1]; omega
  · rw [f1 rfl]; omega
/-- of a grid that a turn leaves as it is the turned slots are its slots -/
theorem slots_sym {h w k i d : Nat} {B R D : Nat → Bool} (hs : SymG h w k B R D) (hd : d < 2) (hi : i < h * w) (hb : Begins (stW h w B R D) d i) :
    ∃ i' d', d' < 2 ∧ i' < h * w ∧ Begins (stW h w B R D) d' i' ∧ ((gath (stW h w B R D) d' (h * w) i' = (gath (stW h w B R D) d (h * w) i).map (sigW h w k)) ∨ (gath (stW h w B R D) d' (h * w) i' = ((gath (stW h w B R D) d (h * w) i).map (sigW h w k)).reverse)) := by
  obtain ⟨i', d', h1, h2, h3⟩ := slot_image (σ := sigW h w k) (τ := tauW k) (n := h * w) (fun i d h1 h2 => st_sym hs h2 h1) (fun d hd => ⟨tau_lt k d, tau_opp hs.k8 hd⟩) (fun i j d hd h => st_opp hd h) (fun i j d hd h => st_up hd h) hd hi hb
  refine ⟨i', d', h1, ?_, h2, h3⟩
  cases hg : stW h w B R D i' d' with
  | none => exact absurd hg h2.goes
  | some j => exact (st_some hg).1
end Go.Proofs.Ytonibpilbkafnaa
