/- Plain Lean: cells' places in a turned grid, and the ways of steps: what a grid's own symmetry does to its steps. -/
import Derived.Test.YtonibpilbkafnaaZ1
namespace Go.Proofs.Ytonibpilbkafnaa
set_option linter.unusedVariables false
set_option linter.unusedSimpArgs false

def drW (d : Nat) : Int := if d = 1 then 1 else if d = 3 then -1 else 0
def dcW (d : Nat) : Int := if d = 0 then 1 else if d = 2 then -1 else 0
def mirC (w : Int) (k : Nat) (c : Int) : Int := if 3 < k then w - 1 - c else c
/-- where a cell of a row and a column stands -/
def laidR (h w : Int) (k : Nat) (r c : Int) : Int := if k % 4 = 1 then mirC w k c else if k % 4 = 2 then h - 1 - r else if k % 4 = 3 then w - 1 - mirC w k c else r
def laidC (h w : Int) (k : Nat) (r c : Int) : Int := if k % 4 = 1 then h - 1 - r else if k % 4 = 2 then w - 1 - mirC w k c else if k % 4 = 3 then r else mirC w k c
def tauW (k d : Nat) : Nat := ((if 3 < k then (6 - d) % 4 else d) + k) % 4
theorem eight {k : Nat} (hk : k < 8) : k = 0 ∨ k = 1 ∨ k = 2 ∨ k = 3 ∨ k = 4 ∨ k = 5 ∨ k = 6 ∨ k = 7 := by omega
theorem four {d : Nat} (hd : d < 4) : d = 0 ∨ d = 1 ∨ d = 2 ∨ d = 3 := by omega
theorem laid_step {h w r c : Int} {k d : Nat} (hk : k < 8) (hd : d < 4) : laidR h w k (r + drW d) (c + dcW d) = laidR h w k r c + drW (tauW k d) ∧ laidC h w k (r + drW d) (c + dcW d) = laidC h w k r c + dcW (tauW k d) := by
  rcases eight hk with rfl | rfl | rfl | rfl | rfl | rfl | rfl | rfl <;> rcases four hd with rfl | rfl | rfl | rfl <;> simp [laidR, laidC, mirC, drW, dcW, tauW] <;> omega
def inG (h w r c : Int) : Prop := 0 ≤ r ∧ r < h ∧ 0 ≤ c ∧ c < w
theorem laid_in {h w r c : Int} {k : Nat} (hk : k < 8) (hw : k % 2 = 1 → h = w) : inG h w (laidR h w k r c) (laidC h w k r c) ↔ inG h w r c := by
  rcases eight hk with rfl | rfl | rfl | rfl | rfl | rfl | rfl | rfl <;> simp [laidR, laidC, mirC, inG] at hw ⊢ <;> omega
theorem laid_four {h w r c : Int} {k : Nat} (hk : k < 8) (hw : k % 2 = 1 → h = w) :
    (fun p : Int × Int => (laidR h w k p.1 p.2, laidC h w k p.1 p.2)) ((fun p : Int × Int => (laidR h w k p.1 p.2, laidC h w k p.1 p.2)) ((fun p : Int × Int => (laidR h w k p.1 p.2, laidC h w k p.1 p.2)) ((fun p : Int × Int => (laidR h w k p.1 p.2, laidC h w k p.1 p.2)) (r, c)))) = (r, c) := by
  rcases eight hk with rfl | rfl | rfl | rfl | rfl | rfl | rfl | rfl <;> simp [laidR, laidC, mirC] at hw ⊢ <;> omega
theorem tau_lt (k d : Nat) : tauW k d < 4 := Nat.mod_lt _ (by omega)
theorem tau_opp {k d : Nat} (hk : k < 8) (hd : d < 4) : tauW k (opp d) = opp (tauW k d) := by
  rcases eight hk with rfl | rfl | rfl | rfl | rfl | rfl | rfl | rfl <;> rcases four hd with rfl | rfl | rfl | rfl <;> rfl
theorem tau_four {k d : Nat} (hk : k < 8) (hd : d < 4) : tauW k (tauW k (tauW k (tauW k d))) = d := by
  rcases eight hk with rfl | rfl | rfl | rfl | rfl | rfl | rfl | rfl <;> rcases four hd with rfl | rfl | rfl | rfl <;> rfl
/-- a cell's number -/
def idxW (w : Nat) (r c : Int) : Nat := (r * (w : Int) + c).toNat
def rowW (w i : Nat) : Int := ((i / w : Nat) : Int)
def colW' (w i : Nat) : Int := ((i % w : Nat) : Int)
theorem idx_of {w i : Nat} : idxW w (rowW w i) (colW' w i) = i := by
  unfold idxW rowW colW'
  have h := Nat.div_add_mod i w
  have e : ((i / w : Nat) : Int) * (w : Int) + ((i % w : Nat) : Int) = ((w * (i / w) + i % w : Nat) : Int) := by push_cast; rw [Int.mul_comm]
  rw [e, h]
  rfl
theorem in_of {h w i : Nat} (hi : i < h * w) : inG h w (rowW w i) (colW' w i) := by
  have hw : 0 < w := by
    rcases Nat.eq_zero_or_pos w with h0 | h0
    · subst h0; simp at hi
    · exact h0
  have h1 : i / w < h := (Nat.div_lt_iff_lt_mul hw).2 hi
  have h2 := Nat.mod_lt i hw
  exact ⟨Int.natCast_nonneg _, Int.ofNat_lt.2 h1, Int.natCast_nonneg _, Int.ofNat_lt.2 h2⟩
theorem of_idx {h w : Nat} {r c : Int} (hin : inG h w r c) : rowW w (idxW w r c) = r ∧ colW' w (idxW w r c) = c ∧ idxW w r c < h * w := by
  obtain ⟨h1, h2, h3, h4⟩ := hin
  obtain ⟨a, rfl⟩ : ∃ a : Nat, r = a := ⟨r.toNat, by omega⟩
  obtain ⟨b, rfl⟩ : ∃ b : Nat, c = b := ⟨c.toNat, by omega⟩
  have hb : b < w := by omega
  have ha : a < h := by omega
  have e : idxW w (a : Int) (b : Int) = b + w * a := by
    unfold idxW
    have : (a : Int) * (w : Int) + (b : Int) = ((b + w * a : Nat) : Int) := by push_cast; rw [Int.mul_comm]; omega
    rw [this]; rfl
  rw [e]
  refine ⟨?_, ?_, ?_⟩
  · unfold rowW
    rw [Nat.add_mul_div_left _ _ (by omega), Nat.div_eq_of_lt hb, Nat.zero_add]
  · unfold colW'
    rw [Nat.add_mul_mod_self_left, Nat.mod_eq_of_lt hb]
  · have : w * (a + 1) ≤ w * h := Nat.mul_le_mul_left _ (by omega)
    rw [Nat.mul_add] at this
    rw [Nat.mul_comm h w]
    omega
/-- where cell i stands -/
def sigW (h w k i : Nat) : Nat := idxW w (laidR h w k (rowW w i) (colW' w i)) (laidC h w k (rowW w i) (colW' w i))
theorem sig_at {h w k : Nat} {r c : Int} (hin : inG h w r c) : sigW h w k (idxW w r c) = idxW w (laidR h w k r c) (laidC h w k r c) := by
  obtain ⟨h1, h2, _⟩ := of_idx hin
  unfold sigW
  rw [h1, h2]
/-- the cell beside, in the grid or not -/
def besW (w i d : Nat) : Nat := idxW w (rowW w i + drW d) (colW' w i + dcW d)
def besIn (h w i d : Nat) : Prop := inG h w (rowW w i + drW d) (colW' w i + dcW d)
theorem sig_lt {h w k i : Nat} (hk : k < 8) (hw : k % 2 = 1 → h = w) (hi : i < h * w) : sigW h w k i < h * w :=
  (of_idx ((laid_in (h := (h : Int)) (w := (w : Int)) hk (fun e => by rw [hw e])).2 (in_of hi))).2.2
theorem sig_coord {h w k i : Nat} (hk : k < 8) (hw : k % 2 = 1 → h = w) (hi : i < h * w) : rowW w (sigW h w k i) = laidR h w k (rowW w i) (colW' w i) ∧ colW' w (sigW h w k i) = laidC h w k (rowW w i) (colW' w i) := by
  obtain ⟨h1, h2, _⟩ := of_idx ((laid_in (h := (h : Int)) (w := (w : Int)) hk (fun e => by rw [hw e])).2 (in_of hi))
  exact ⟨h1, h2⟩
theorem sig_bes {h w k i d : Nat} (hk : k < 8) (hd : d < 4) (hw : k % 2 = 1 → h = w) (hi : i < h * w) : (besIn h w (sigW h w k i) (tauW k d) ↔ besIn h w i d) ∧ (besIn h w i d → besW w (sigW h w k i) (tauW k d) = sigW h w k (besW w i d)) := by
  obtain ⟨h1, h2⟩ := sig_coord hk hw hi
  obtain ⟨h3, h4⟩ := laid_step (h := (h : Int)) (w := (w : Int)) (r := rowW w i) (c := colW' w i) hk hd
  unfold besIn besW
  rw [h1, h2, ← h3, ← h4]
  exact ⟨laid_in hk (fun e => by rw [hw e]), fun hin => (sig_at hin).symm⟩
theorem sig_four {h w k i : Nat} (hk : k < 8) (hw : k % 2 = 1 → h = w) (hi : i < h * w) : sigW h w k (sigW h w k (sigW h w k (sigW h w k i))) = i := by
  have hw' : k % 2 = 1 → (h : Int) = (w : Int) := fun e => by rw [hw e]
  have h4 := laid_four (h := (h : Int)) (w := (w : Int)) (r := rowW w i) (c := colW' w i) hk hw'
  have e1 := in_of hi
  have e2 := (laid_in hk hw').2 e1
  have e3 := (laid_in hk hw').2 e2
  have e4 := (laid_in hk hw').2 e3
  simp only [Prod.mk.injEq] at h4
  have s1 : sigW h w k i = idxW w (laidR h w k (rowW w i) (colW' w i)) (laidC h w k (rowW w i) (colW' w i)) := rfl
  rw [s1, sig_at e2, sig_at e3, sig_at e4, h4.1, h4.2]
  exact idx_of
theorem bes_lt {h w i d : Nat} (hin : besIn h w i d) : besW w i d < h * w := (of_idx hin).2.2
/-- the cell beside, back again -/
theorem bes_back {h w i d : Nat} (hd : d < 4) (hi : i < h * w) (hin : besIn h w i d) : besIn h w (besW w i d) (opp d) ∧ besW w (besW w i d) (opp d) = i := by
  obtain ⟨h1, h2, _⟩ := of_idx hin
  have e : rowW w (besW w i d) + drW (opp d) = rowW w i ∧ colW' w (besW w i d) + dcW (opp d) = colW' w i := by
    have h1' : rowW w (besW w i d) = rowW w i + drW d := h1
    have h2' : colW' w (besW w i d) = colW' w i + dcW d := h2
    rw [h1', h2']
    rcases four hd with rfl | rfl | rfl | rfl <;> simp [drW, dcW, opp] <;> omega
  constructor
  · unfold besIn
    rw [e.1, e.2]
    exact in_of hi
  · unfold besW at e ⊢
    rw [e.1, e.2]
    exact idx_of
/-- how far the cell beside is -/
theorem bes_far {h w i d : Nat} (hd : d < 4) (hi : i < h * w) (hin : besIn h w i d) : (d = 0 → besW w i d = i + 1 ∧ (i + 1) % w ≠ 0) ∧ (d = 1 → besW w i d = i + w) ∧ (d = 2 → i = besW w i d + 1 ∧ i % w ≠ 0) ∧ (d = 3 → i = besW w i d + w) := by
  obtain ⟨hr, hr2, hc, hc2⟩ := hin
  have hdm := Nat.div_add_mod i w
  unfold rowW at hr hr2
  unfold colW' at hc hc2
  have hcom : ((i / w : Nat) : Int) * (w : Int) = ((w * (i / w) : Nat) : Int) := by push_cast; rw [Int.mul_comm]
  refine ⟨?_, ?_, ?_, ?_⟩
  · rintro rfl
    simp only [drW, dcW] at hr hr2 hc hc2
    simp at hc2
    unfold besW idxW rowW colW' drW dcW
    simp only [if_true]
    constructor
    · simp only [show ¬ ((0 : Nat) = 1) by omega, show ¬ ((0 : Nat) = 3) by omega, if_false, Int.add_zero]
      rw [hcom]; omega
    · rw [Nat.add_mod]
      have hlt : i % w + 1 < w := by omega
      rw [Nat.mod_eq_of_lt (show 1 < w by omega), Nat.mod_eq_of_lt hlt]
      omega
  · rintro rfl
    unfold besW idxW rowW colW' drW dcW
    simp only [if_true, show ¬ ((1 : Nat) = 0) by omega, show ¬ ((1 : Nat) = 2) by omega, if_false, Int.add_zero, Int.add_mul, Int.one_mul]
    rw [hcom]; omega
  · rintro rfl
    simp only [drW, dcW] at hr hr2 hc hc2
    simp at hc
    unfold besW idxW rowW colW' drW dcW
    simp only [if_true, show ¬ ((2 : Nat) = 0) by omega, show ¬ ((2 : Nat) = 1) by omega, show ¬ ((2 : Nat) = 3) by omega, if_false, Int.add_zero]
    rw [hcom]
    omega
  · rintro rfl
    simp only [drW, dcW] at hr hr2 hc hc2
    simp at hr
    unfold besW idxW rowW colW' drW dcW
    simp only [if_true, show ¬ ((3 : Nat) = 0) by omega, show ¬ ((3 : Nat) = 1) by omega, show ¬ ((3 : Nat) = 2) by omega, if_false, Int.add_zero, Int.add_mul, Int.neg_mul, Int.one_mul]
    rw [hcom]
    have h1 : 1 ≤ i / w := by omega
    have h2 : w * 1 ≤ w * (i / w) := Nat.mul_le_mul_left _ h1
    omega
end Go.Proofs.Ytonibpilbkafnaa
