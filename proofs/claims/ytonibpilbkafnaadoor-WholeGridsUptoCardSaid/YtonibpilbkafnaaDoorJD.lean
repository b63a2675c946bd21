/- Joined texts: Z1 Z2 Z3 Z4 Z5 O0 O6 O7 O9 O5 M1 M2 M3 M4 M5 M6: walks and plain laws for this seat's program, each stated where it stands; conditions: as each states. -/
import Derived.Test.YtonibpilbkafnaaDoorJC
import GoSem.ClaimData
import Derived.Test.YtonibpilbkafnaaDoorProg
import Derived.WalkKit
import Derived.WalkLawsBesides
import Derived.WalkSpells
import Derived.Lib.OthersKept
import Derived.LoopTactic
import Derived.Below
import Derived.BigQuiet
import Derived.Deep.QuietTactic
import Derived.Deep.AppendLies
import Derived.Deep.LoopGhost
import Derived.OwnWalk
import Derived.Lib.Hide
import Derived.Laws.AppendOwn
import Derived.Maps.AppendAt
import Derived.BigRegion
import Derived.Deep.OwnRows
import Derived.WalkMore
import Derived.RangeFuncRecord
import Derived.Laws.Rows
/- Plain Lean: runs of steps, and how a symmetry takes them to runs. -/
namespace Go.Proofs.YtonibpilbkafnaaDoor
set_option linter.unusedVariables false
set_option linter.unusedSimpArgs false

/-- the opposite way -/
def opp (d : Nat) : Nat := (d + 2) % 4
theorem opp_lt (d : Nat) : opp d < 4 := Nat.mod_lt _ (by omega)
theorem opp_opp {d : Nat} (h : d < 4) : opp (opp d) = d := by unfold opp; omega
/-- the cells from one on, as far as the steps go -/
def gath (st : Nat → Nat → Option Nat) (d : Nat) : Nat → Nat → List Nat
  | 0, i => [i]
  | f + 1, i => match st i d with
    | none => [i]
    | some j => i :: gath st d f j
/-- a chain of steps to its end -/
def Chain (st : Nat → Nat → Option Nat) (d : Nat) : List Nat → Prop
  | [] => False
  | [i] => st i d = none
  | i :: j :: l => st i d = some j ∧ Chain st d (j :: l)
theorem gath_cons (st : Nat → Nat → Option Nat) (d f i : Nat) : ∃ l, gath st d f i = i :: l := by
  cases f with
  | zero => exact ⟨[], rfl⟩
  | succ f =>
    unfold gath
    cases st i d with
    | none => exact ⟨[], rfl⟩
    | some j => exact ⟨_, rfl⟩
/-- with fuel enough what is gathered is a chain -/
theorem gath_chain {st : Nat → Nat → Option Nat} {d n : Nat} (hup : ∀ i j, st i d = some j → i < j ∧ j < n) : ∀ (f i : Nat), n ≤ i + f + 1 → Chain st d (gath st d f i)
  | 0, i, h => by
    unfold gath Chain
    cases hs : st i d with
    | none => rfl
    | some j => have := hup i j hs; omega
  | f + 1, i, h => by
    unfold gath
    cases hs : st i d with
    | none => exact hs
    | some j =>
      have hj := hup i j hs
      have ih := gath_chain hup f j (by omega)
      obtain ⟨l, hl⟩ := gath_cons st d f j
      simp only [hl] at ih ⊢
      exact ⟨hs, ih⟩
/-- a chain is what is gathered from its head -/
theorem chain_gath {st : Nat → Nat → Option Nat} {d : Nat} : ∀ (l : List Nat) (i f : Nat), Chain st d (i :: l) → l.length ≤ f → gath st d f i = i :: l
  | [], i, f, h, hf => by
    have h1 : st i d = none := h
    cases f with
    | zero => rfl
    | succ f => unfold gath; rw [h1]
  | j :: l, i, 0, h, hf => by simp at hf
  | j :: l, i, f + 1, h, hf => by
    obtain ⟨h1, h2⟩ := h
    unfold gath
    rw [h1]
    simp only
    rw [chain_gath l j f h2 (by simpa using hf)]
/-- a chain under a symmetry -/
theorem chain_map {st : Nat → Nat → Option Nat} {σ : Nat → Nat} {d d' n : Nat} (hst : ∀ i, i < n → st (σ i) d' = (st i d).map σ) : ∀ l : List Nat, (∀ i ∈ l, i < n) → Chain st d l → Chain st d' (l.map σ)
  | [], _, h => h
  | [i], hn, h => by
    have h1 : st i d = none := h
    show st (σ i) d' = none
    rw [hst i (hn i (List.mem_cons_self ..)), h1]; rfl
  | i :: j :: l, hn, h => by
    obtain ⟨h1, h2⟩ := h
    refine ⟨?_, chain_map hst (j :: l) (fun x hx => hn x (List.mem_cons_of_mem _ hx)) h2⟩
    show st (σ i) d' = some (σ j)
    rw [hst i (hn i (List.mem_cons_self ..)), h1]; rfl
/-- a run without its end's word -/
def Run (st : Nat → Nat → Option Nat) (d : Nat) : List Nat → Prop
  | [] => True
  | [_] => True
  | i :: j :: l => st i d = some j ∧ Run st d (j :: l)
theorem chain_iff {st : Nat → Nat → Option Nat} {d : Nat} : ∀ (l : List Nat) (i : Nat), Chain st d (i :: l) ↔ Run st d (i :: l) ∧ ∀ x, (i :: l).getLast? = some x → st x d = none
  | [], i => ⟨fun h => ⟨trivial, fun x hx => by simp at hx; subst hx; exact h⟩, fun h => h.2 i rfl⟩
  | j :: l, i => by
    have ih := chain_iff (st := st) (d := d) l j
    constructor
    · rintro ⟨h1, h2⟩
      obtain ⟨h3, h4⟩ := ih.1 h2
      exact ⟨⟨h1, h3⟩, fun x hx => h4 x (by simpa using hx)⟩
    · rintro ⟨⟨h1, h2⟩, h3⟩
      exact ⟨h1, ih.2 ⟨h2, fun x hx => h3 x (by simpa using hx)⟩⟩
theorem run_append {st : Nat → Nat → Option Nat} {d : Nat} : ∀ (a : List Nat) (x y : Nat) (b : List Nat), Run st d (a ++ [x]) → st x d = some y → Run st d (y :: b) → Run st d (a ++ x :: y :: b)
  | [], x, y, b, _, h2, h3 => ⟨h2, h3⟩
  | [a0], x, y, b, h1, h2, h3 => ⟨h1.1, h2, h3⟩
  | a0 :: a1 :: a, x, y, b, h1, h2, h3 => ⟨h1.1, run_append (a1 :: a) x y b h1.2 h2 h3⟩
/-- a run backwards is a run the opposite way -/
theorem run_reverse {st : Nat → Nat → Option Nat} {d e : Nat} (hop : ∀ i j, st i d = some j → st j e = some i) : ∀ l : List Nat, Run st d l → Run st e l.reverse
  | [], _ => trivial
  | [i], _ => trivial
  | i :: j :: l, h => by
    have ih := run_reverse hop (j :: l) h.2
    rw [List.reverse_cons] at ih ⊢
    rw [List.reverse_cons, List.append_assoc]
    exact run_append l.reverse j i [] ih (hop i j h.1) trivial
/-- slots: where a run begins and goes on -/
structure Begins (st : Nat → Nat → Option Nat) (d i : Nat) : Prop where
  start : st i (opp d) = none
  goes : st i d ≠ none
/-- a symmetry takes a slot's cells to the cells of a slot -/
theorem slot_image {st : Nat → Nat → Option Nat} {σ τ : Nat → Nat} {n : Nat} (hst : ∀ i d, i < n → d < 4 → st (σ i) (τ d) = (st i d).map σ) (hτ : ∀ d, d < 4 → τ d < 4 ∧ τ (opp d) = opp (τ d))
    (hop : ∀ i j d, d < 4 → st i d = some j → st j (opp d) = some i) (hn : ∀ i j d, d < 2 → st i d = some j → i < j ∧ j < n) {i d : Nat} (hd : d < 2) (hi : i < n) (hb : Begins st d i) :
    ∃ i' d', d' < 2 ∧ Begins st d' i' ∧ ((gath st d' n i' = (gath st d n i).map σ) ∨ (gath st d' n i' = ((gath st d n i).map σ).reverse)) := by
  have hd4 : d < 4 := by omega
  have hc := gath_chain (n := n) (fun i j h => hn i j d hd h) n i (by omega)
  obtain ⟨l, hl⟩ := gath_cons st d n i
  have hlen : ∀ (f i : Nat), (gath st d f i).length ≤ f + 1 := by
    intro f
    induction f with
    | zero => intro i; simp [gath]
    | succ f ih =>
      intro i
      unfold gath
      cases hs : st i d with
      | none => simp
      | some j => have := ih j; simp only [List.length_cons]; omega
  have hln := hlen n i
  rw [hl] at hc hln
  have hmem : ∀ (l : List Nat) (i : Nat), i < n → Chain st d (i :: l) → ∀ x ∈ i :: l, x < n := by
    intro l
    induction l with
    | nil => intro i hi _ x hx; rw [List.mem_singleton.1 hx]; exact hi
    | cons j l ih =>
      intro i hi h x hx
      rcases List.mem_cons.1 hx with rfl | hx
      · exact hi
      · exact ih j (hn i j d hd h.1).2 h.2 x hx
  have hall := hmem l i hi hc
  have hm := chain_map (d' := τ d) (fun i h => hst i d h hd4) (i :: l) hall hc
  have hτd := hτ d hd4
  have hlm : (l.map σ).length ≤ n := by rw [List.length_map]; simp only [List.length_cons] at hln; omega
  have hs0 : st (σ i) (opp (τ d)) = none := by
    rw [← hτd.2, hst i (opp d) hi (opp_lt d), hb.start]; rfl
  have hs1 : st (σ i) (τ d) ≠ none := by
    rw [hst i d hi hd4]
    intro h
    cases hs : st i d with
    | none => exact hb.goes hs
    | some j => rw [hs] at h; cases h
  by_cases h2 : τ d < 2
  · refine ⟨σ i, τ d, h2, ⟨hs0, hs1⟩, .inl ?_⟩
    rw [hl]
    exact chain_gath (l.map σ) (σ i) n hm hlm
  · have ho : opp (τ d) < 2 := by have := hτd.1; unfold opp; omega
    obtain ⟨hrun, hlast⟩ := (chain_iff (l.map σ) (σ i)).1 hm
    have hrev := run_reverse (e := opp (τ d)) (fun a b h => hop a b (τ d) hτd.1 h) _ hrun
    have hne : (σ i :: l.map σ).reverse ≠ [] := by simp
    obtain ⟨x, r, hxr⟩ := List.exists_cons_of_ne_nil hne
    rw [hxr] at hrev
    have hx : (σ i :: l.map σ).getLast? = some x := by
      have h9 : (σ i :: l.map σ).reverse.head? = some x := by rw [hxr]; rfl
      rwa [List.head?_reverse] at h9
    have hend : ∀ y, (x :: r).getLast? = some y → st y (opp (τ d)) = none := by
      intro y hy
      rw [← hxr, List.getLast?_reverse] at hy
      have : y = σ i := by simpa using hy.symm
      rw [this]
      exact hs0
    have hch := (chain_iff r x).2 ⟨hrev, hend⟩
    have hrl : r.length = l.length := by
      have := congrArg List.length hxr
      simpa using this.symm
    refine ⟨x, opp (τ d), ho, ⟨by rw [opp_opp hτd.1]; exact hlast x hx, ?_⟩, .inr ?_⟩
    · intro hno
      cases r with
      | nil =>
        have : l = [] := List.length_eq_zero_iff.1 (by simpa using hrl.symm)
        subst this
        exact hb.goes hc
      | cons y r => rw [hch.1] at hno; cases hno
    · rw [hl]
      show _ = (σ i :: l.map σ).reverse
      rw [hxr]
      exact chain_gath r x n hch (by rw [hrl]; simpa using hlm)
end Go.Proofs.YtonibpilbkafnaaDoor

/- Plain Lean: cells' places in a turned grid, and the ways of steps: what a grid's own symmetry does to its steps. -/
namespace Go.Proofs.YtonibpilbkafnaaDoor
set_option linter.unusedVariables false
set_option linter.unusedSimpArgs false

def drW (d : Nat) : Int := if d = 1 then 1 else if d = 3 then -1 else 0
def dcW (d : Nat) : Int := if d = 0 then 1 else if d = 2 then -1 else 0
def mirC (w : Int) (k : Nat) (c : Int) : Int := if 3 < k then w - 1 - c else c
/-- where a cell of a row and a column stands -/
def laidR (h w : Int) (k : Nat) (r c : Int) : Int := if k % 4 = 1 then mirC w k c else if k % 4 = 2 then h - 1 - r else if k % 4 = 3 then w - 1 - mirC w k c else r
def laidC (h w : Int) (k : Nat) (r c : Int) : Int := if k % 4 = 1 then h - 1 - r else if k % 4 = 2 then w - 1 - mirC w k c else if k % 4 = 3 then r else mirC w k c
def tauW (k d : Nat) : Nat := ((if 3 < k then (6 - d) % 4 else d) + k) % 4
theorem eight {k : Nat} (hk : k < 8) : k = 0 ∨ k = 1 ∨ k = 2 ∨ k = 3 ∨ k = 4 ∨ k = 5 ∨ k = 6 ∨ k = 7 := by omega
theorem four {d : Nat} (hd : d < 4) : d = 0 ∨ d = 1 ∨ d = 2 ∨ d = 3 := by omega
theorem laid_step {h w r c : Int} {k d : Nat} (hk : k < 8) (hd : d < 4) : laidR h w k (r + drW d) (c + dcW d) = laidR h w k r c + drW (tauW k d) ∧ laidC h w k (r + drW d) (c + dcW d) = laidC h w k r c + dcW (tauW k d) := by
  rcases eight hk with rfl | rfl | rfl | rfl | rfl | rfl | rfl | rfl <;> rcases four hd with rfl | rfl | rfl | rfl <;> simp [laidR, laidC, mirC, drW, dcW, tauW] <;> omega
def inG (h w r c : Int) : Prop := 0 ≤ r ∧ r < h ∧ 0 ≤ c ∧ c < w
theorem laid_in {h w r c : Int} {k : Nat} (hk : k < 8) (hw : k % 2 = 1 → h = w) : inG h w (laidR h w k r c) (laidC h w k r c) ↔ inG h w r c := by
  rcases eight hk with rfl | rfl | rfl | rfl | rfl | rfl | rfl | rfl <;> simp [laidR, laidC, mirC, inG] at hw ⊢ <;> omega
theorem laid_four {h w r c : Int} {k : Nat} (hk : k < 8) (hw : k % 2 = 1 → h = w) :
    (fun p : Int × Int => (laidR h w k p.1 p.2, laidC h w k p.1 p.2)) ((fun p : Int × Int => (laidR h w k p.1 p.2, laidC h w k p.1 p.2)) ((fun p : Int × Int => (laidR h w k p.1 p.2, laidC h w k p.1 p.2)) ((fun p : Int × Int => (laidR h w k p.1 p.2, laidC h w k p.1 p.2)) (r, c)))) = (r, c) := by
  rcases eight hk with rfl | rfl | rfl | rfl | rfl | rfl | rfl | rfl <;> simp [laidR, laidC, mirC] at hw ⊢ <;> omega
theorem tau_lt (k d : Nat) : tauW k d < 4 := Nat.mod_lt _ (by omega)
theorem tau_opp {k d : Nat} (hk : k < 8) (hd : d < 4) : tauW k (opp d) = opp (tauW k d) := by
  rcases eight hk with rfl | rfl | rfl | rfl | rfl | rfl | rfl | rfl <;> rcases four hd with rfl | rfl | rfl | rfl <;> rfl
theorem tau_four {k d : Nat} (hk : k < 8) (hd : d < 4) : tauW k (tauW k (tauW k (tauW k d))) = d := by
  rcases eight hk with rfl | rfl | rfl | rfl | rfl | rfl | rfl | rfl <;> rcases four hd with rfl | rfl | rfl | rfl <;> rfl
/-- a cell's number -/
def idxW (w : Nat) (r c : Int) : Nat := (r * (w : Int) + c).toNat
def rowW (w i : Nat) : Int := ((i / w : Nat) : Int)
def colW' (w i : Nat) : Int := ((i % w : Nat) : Int)
theorem idx_of {w i : Nat} : idxW w (rowW w i) (colW' w i) = i := by
  unfold idxW rowW colW'
  have h := Nat.div_add_mod i w
  have e : ((i / w : Nat) : Int) * (w : Int) + ((i % w : Nat) : Int) = ((w * (i / w) + i % w : Nat) : Int) := by push_cast; rw [Int.mul_comm]
  rw [e, h]
  rfl
theorem in_of {h w i : Nat} (hi : i < h * w) : inG h w (rowW w i) (colW' w i) := by
  have hw : 0 < w := by
    rcases Nat.eq_zero_or_pos w with h0 | h0
    · subst h0; simp at hi
    · exact h0
  have h1 : i / w < h := (Nat.div_lt_iff_lt_mul hw).2 hi
  have h2 := Nat.mod_lt i hw
  exact ⟨Int.natCast_nonneg _, Int.ofNat_lt.2 h1, Int.natCast_nonneg _, Int.ofNat_lt.2 h2⟩
theorem of_idx {h w : Nat} {r c : Int} (hin : inG h w r c) : rowW w (idxW w r c) = r ∧ colW' w (idxW w r c) = c ∧ idxW w r c < h * w := by
  obtain ⟨h1, h2, h3, h4⟩ := hin
  obtain ⟨a, rfl⟩ : ∃ a : Nat, r = a := ⟨r.toNat, by omega⟩
  obtain ⟨b, rfl⟩ : ∃ b : Nat, c = b := ⟨c.toNat, by omega⟩
  have hb : b < w := by omega
  have ha : a < h := by omega
  have e : idxW w (a : Int) (b : Int) = b + w * a := by
    unfold idxW
    have : (a : Int) * (w : Int) + (b : Int) = ((b + w * a : Nat) : Int) := by push_cast; rw [Int.mul_comm]; omega
    rw [this]; rfl
  rw [e]
  refine ⟨?_, ?_, ?_⟩
  · unfold rowW
    rw [Nat.add_mul_div_left _ _ (by omega), Nat.div_eq_of_lt hb, Nat.zero_add]
  · unfold colW'
    rw [Nat.add_mul_mod_self_left, Nat.mod_eq_of_lt hb]
  · have : w * (a + 1) ≤ w * h := Nat.mul_le_mul_left _ (by omega)
    rw [Nat.mul_add] at this
    rw [Nat.mul_comm h w]
    omega
/-- where cell i stands -/
def sigW (h w k i : Nat) : Nat := idxW w (laidR h w k (rowW w i) (colW' w i)) (laidC h w k (rowW w i) (colW' w i))
theorem sig_at {h w k : Nat} {r c : Int} (hin : inG h w r c) : sigW h w k (idxW w r c) = idxW w (laidR h w k r c) (laidC h w k r c) := by
  obtain ⟨h1, h2, _⟩ := of_idx hin
  unfold sigW
  rw [h1, h2]
/-- the cell beside, in the grid or not -/
def besW (w i d : Nat) : Nat := idxW w (rowW w i + drW d) (colW' w i + dcW d)
def besIn (h w i d : Nat) : Prop := inG h w (rowW w i + drW d) (colW' w i + dcW d)
theorem sig_lt {h w k i : Nat} (hk : k < 8) (hw : k % 2 = 1 → h = w) (hi : i < h * w) : sigW h w k i < h * w :=
  (of_idx ((laid_in (h := (h : Int)) (w := (w : Int)) hk (fun e => by rw [hw e])).2 (in_of hi))).2.2
theorem sig_coord {h w k i : Nat} (hk : k < 8) (hw : k % 2 = 1 → h = w) (hi : i < h * w) : rowW w (sigW h w k i) = laidR h w k (rowW w i) (colW' w i) ∧ colW' w (sigW h w k i) = laidC h w k (rowW w i) (colW' w i) := by
  obtain ⟨h1, h2, _⟩ := of_idx ((laid_in (h := (h : Int)) (w := (w : Int)) hk (fun e => by rw [hw e])).2 (in_of hi))
  exact ⟨h1, h2⟩
theorem sig_bes {h w k i d : Nat} (hk : k < 8) (hd : d < 4) (hw : k % 2 = 1 → h = w) (hi : i < h * w) : (besIn h w (sigW h w k i) (tauW k d) ↔ besIn h w i d) ∧ (besIn h w i d → besW w (sigW h w k i) (tauW k d) = sigW h w k (besW w i d)) := by
  obtain ⟨h1, h2⟩ := sig_coord hk hw hi
  obtain ⟨h3, h4⟩ := laid_step (h := (h : Int)) (w := (w : Int)) (r := rowW w i) (c := colW' w i) hk hd
  unfold besIn besW
  rw [h1, h2, ← h3, ← h4]
  exact ⟨laid_in hk (fun e => by rw [hw e]), fun hin => (sig_at hin).symm⟩
theorem sig_four {h w k i : Nat} (hk : k < 8) (hw : k % 2 = 1 → h = w) (hi : i < h * w) : sigW h w k (sigW h w k (sigW h w k (sigW h w k i))) = i := by
  have hw' : k % 2 = 1 → (h : Int) = (w : Int) := fun e => by rw [hw e]
  have h4 := laid_four (h := (h : Int)) (w := (w : Int)) (r := rowW w i) (c := colW' w i) hk hw'
  have e1 := in_of hi
  have e2 := (laid_in hk hw').2 e1
  have e3 := (laid_in hk hw').2 e2
  have e4 := (laid_in hk hw').2 e3
  simp only [Prod.mk.injEq] at h4
  have s1 : sigW h w k i = idxW w (laidR h w k (rowW w i) (colW' w i)) (laidC h w k (rowW w i) (colW' w i)) := rfl
  rw [s1, sig_at e2, sig_at e3, sig_at e4, h4.1, h4.2]
  exact idx_of
theorem bes_lt {h w i d : Nat} (hin : besIn h w i d) : besW w i d < h * w := (of_idx hin).2.2
/-- the cell beside, back again -/
theorem bes_back {h w i d : Nat} (hd : d < 4) (hi : i < h * w) (hin : besIn h w i d) : besIn h w (besW w i d) (opp d) ∧ besW w (besW w i d) (opp d) = i := by
  obtain ⟨h1, h2, _⟩ := of_idx hin
  have e : rowW w (besW w i d) + drW (opp d) = rowW w i ∧ colW' w (besW w i d) + dcW (opp d) = colW' w i := by
    have h1' : rowW w (besW w i d) = rowW w i + drW d := h1
    have h2' : colW' w (besW w i d) = colW' w i + dcW d := h2
    rw [h1', h2']
    rcases four hd with rfl | rfl | rfl | rfl <;> simp [drW, dcW, opp] <;> omega
  constructor
  · unfold besIn
    rw [e.1, e.2]
    exact in_of hi
  · unfold besW at e ⊢
    rw [e.1, e.2]
    exact idx_of
/-- how far the cell beside is -/
theorem bes_far {h w i d : Nat} (hd : d < 4) (hi : i < h * w) (hin : besIn h w i d) : (d = 0 → besW w i d = i + 1 ∧ (i + 1) % w ≠ 0) ∧ (d = 1 → besW w i d = i + w) ∧ (d = 2 → i = besW w i d + 1 ∧ i % w ≠ 0) ∧ (d = 3 → i = besW w i d + w) := by
  obtain ⟨hr, hr2, hc, hc2⟩ := hin
  have hdm := Nat.div_add_mod i w
  unfold rowW at hr hr2
  unfold colW' at hc hc2
  have hcom : ((i / w : Nat) : Int) * (w : Int) = ((w * (i / w) : Nat) : Int) := by push_cast; rw [Int.mul_comm]
  refine ⟨?_, ?_, ?_, ?_⟩
  · rintro rfl
    simp only [drW, dcW] at hr hr2 hc hc2
    simp at hc2
    unfold besW idxW rowW colW' drW dcW
    simp only [if_true]
    constructor
    · simp only [show ¬ ((0 : Nat) = 1) by omega, show ¬ ((0 : Nat) = 3) by omega, if_false, Int.add_zero]
      rw [hcom]; omega
    · rw [Nat.add_mod]
      have hlt : i % w + 1 < w := by omega
      rw [Nat.mod_eq_of_lt (show 1 < w by omega), Nat.mod_eq_of_lt hlt]
      omega
  · rintro rfl
    unfold besW idxW rowW colW' drW dcW
    simp only [if_true, show ¬ ((1 : Nat) = 0) by omega, show ¬ ((1 : Nat) = 2) by omega, if_false, Int.add_zero, Int.add_mul, Int.one_mul]
    rw [hcom]; omega
  · rintro rfl
    simp only [drW, dcW] at hr hr2 hc hc2
    simp at hc
    unfold besW idxW rowW colW' drW dcW
    simp only [if_true, show ¬ ((2 : Nat) = 0) by omega, show ¬ ((2 : Nat) = 1) by omega, show ¬ ((2 : Nat) = 3) by omega, if_false, Int.add_zero]
    rw [hcom]
    omega
  · rintro rfl
    simp only [drW, dcW] at hr hr2 hc hc2
    simp at hr
    unfold besW idxW rowW colW' drW dcW
    simp only [if_true, show ¬ ((3 : Nat) = 0) by omega, show ¬ ((3 : Nat) = 1) by omega, show ¬ ((3 : Nat) = 2) by omega, if_false, Int.add_zero, Int.add_mul, Int.neg_mul, Int.one_mul]
    rw [hcom]
    have h1 : 1 ≤ i / w := by omega
    have h2 : w * 1 ≤ w * (i / w) := Nat.mul_le_mul_left _ h1
    omega
end Go.Proofs.YtonibpilbkafnaaDoor

/- Plain Lean: a grid's steps under its own symmetry. -/
namespace Go.Proofs.YtonibpilbkafnaaDoor
set_option linter.unusedVariables false
set_option linter.unusedSimpArgs false

def barB (R D : Nat → Bool) (i j d : Nat) : Bool := if d % 2 = 0 then R (min i j) else D (min i j)
/-- the bar between two cells beside each other, as the turned grid tells it -/
def BarAt (w : Nat) (R D : Nat → Bool) (a b : Nat) : Prop := if max a b = min a b + 1 ∧ (min a b + 1) % w ≠ 0 then R (min a b) = true else D (min a b) = true
theorem BarAt.comm {w : Nat} {R D : Nat → Bool} {a b : Nat} (h : BarAt w R D a b) : BarAt w R D b a := by
  unfold BarAt at h ⊢
  rw [Nat.max_comm, Nat.min_comm]
  exact h
theorem pos_w {h w i : Nat} (hi : i < h * w) : 0 < w := by
  rcases Nat.eq_zero_or_pos w with h0 | h0
  · subst h0; simp at hi
  · exact h0
theorem barAt_bar {h w i d : Nat} {R D : Nat → Bool} (hd : d < 4) (hi : i < h * w) (hin : besIn h w i d) : BarAt w R D i (besW w i d) ↔ barB R D i (besW w i d) d = true := by
  obtain ⟨f0, f1, f2, f3⟩ := bes_far hd hi hin
  have hw := pos_w hi
  generalize besW w i d = j at *
  unfold BarAt barB
  rcases four hd with rfl | rfl | rfl | rfl
  · obtain ⟨rfl, h2⟩ := f0 rfl
    have e1 : min i (i + 1) = i := by omega
    have e2 : max i (i + 1) = i + 1 := by omega
    rw [e1, e2, if_pos ⟨rfl, h2⟩]; simp
  · have e := f1 rfl
    subst e
    have e1 : min i (i + w) = i := by omega
    have e2 : max i (i + w) = i + w := by omega
    rw [e1, e2, if_neg (fun h9 => h9.2 (by have : w = 1 := by omega
                                           subst this; exact Nat.mod_one _))]; simp
  · obtain ⟨e, h2⟩ := f2 rfl
    subst e
    have e1 : min (j + 1) j = j := by omega
    have e2 : max (j + 1) j = j + 1 := by omega
    rw [e1, e2, if_pos ⟨rfl, h2⟩]; simp
  · have e := f3 rfl
    subst e
    have e1 : min (j + w) j = j := by omega
    have e2 : max (j + w) j = j + w := by omega
    rw [e1, e2, if_neg (fun h9 => h9.2 (by have : w = 1 := by omega
                                           subst this; exact Nat.mod_one _))]; simp
/-- a turn leaves the grid as it is -/
structure SymG (h w k : Nat) (B R D : Nat → Bool) : Prop where
  k8 : k < 8
  hw : k % 2 = 1 → h = w
  blk : ∀ i, i < h * w → B (sigW h w k i) = B i
  rgt : ∀ i, i < h * w → R i = true → besIn h w i 0 ∧ BarAt w R D (sigW h w k i) (sigW h w k (besW w i 0))
  blw : ∀ i, i < h * w → D i = true → besIn h w i 1 ∧ BarAt w R D (sigW h w k i) (sigW h w k (besW w i 1))
theorem bar_fwd {h w k i d : Nat} {B R D : Nat → Bool} (hs : SymG h w k B R D) (hd : d < 4) (hi : i < h * w) (hin : besIn h w i d) (hb : barB R D i (besW w i d) d = true) :
    barB R D (sigW h w k i) (besW w (sigW h w k i) (tauW k d)) (tauW k d) = true := by
  obtain ⟨b1, b2⟩ := sig_bes hs.k8 hd hs.hw hi
  have hsi := sig_lt hs.k8 hs.hw hi
  refine (barAt_bar (tau_lt k d) hsi (b1.2 hin)).1 ?_
  rw [b2 hin]
  obtain ⟨f0, f1, f2, f3⟩ := bes_far hd hi hin
  obtain ⟨k1, k2⟩ := bes_back hd hi hin
  have hj := bes_lt hin
  have hw := pos_w hi
  unfold barB at hb
  rcases four hd with rfl | rfl | rfl | rfl
  · have e := (f0 rfl).1
    rw [e] at hb
    rw [if_pos rfl, show min i (i + 1) = i by omega] at hb
    exact (hs.rgt i hi hb).2
  · have e := f1 rfl
    rw [e] at hb
    rw [if_neg (by omega), show min i (i + w) = i by omega] at hb
    exact (hs.blw i hi hb).2
  · have e := (f2 rfl).1
    rw [if_pos rfl, show min i (besW w i 2) = besW w i 2 by omega] at hb
    have h9 := (hs.rgt _ hj hb).2
    rw [show opp 2 = 0 from rfl] at k2
    rw [k2] at h9
    exact h9.comm
  · have e := f3 rfl
    rw [if_neg (by omega), show min i (besW w i 3) = besW w i 3 by omega] at hb
    have h9 := (hs.blw _ hj hb).2
    rw [show opp 3 = 1 from rfl] at k2
    rw [k2] at h9
    exact h9.comm
theorem bar_same {h w k i d : Nat} {B R D : Nat → Bool} (hs : SymG h w k B R D) (hd : d < 4) (hi : i < h * w) (hin : besIn h w i d) :
    barB R D (sigW h w k i) (besW w (sigW h w k i) (tauW k d)) (tauW k d) = barB R D i (besW w i d) d := by
  rw [Bool.eq_iff_iff]
  refine ⟨fun h1 => ?_, bar_fwd hs hd hi hin⟩
  have i1 := sig_lt hs.k8 hs.hw hi
  have i2 := sig_lt hs.k8 hs.hw i1
  have i3 := sig_lt hs.k8 hs.hw i2
  have n1 := (sig_bes hs.k8 hd hs.hw hi).1.2 hin
  have n2 := (sig_bes hs.k8 (tau_lt k d) hs.hw i1).1.2 n1
  have n3 := (sig_bes hs.k8 (tau_lt k _) hs.hw i2).1.2 n2
  have h2 := bar_fwd hs (tau_lt k d) i1 n1 h1
  have h3 := bar_fwd hs (tau_lt k _) i2 n2 h2
  have h4 := bar_fwd hs (tau_lt k _) i3 n3 h3
  rw [sig_four hs.k8 hs.hw hi, tau_four hs.k8 hd] at h4
  exact h4
instance (h w i d : Nat) : Decidable (besIn h w i d) := by unfold besIn inG; exact inferInstance
/-- a step from an open cell -/
def stW (h w : Nat) (B R D : Nat → Bool) (i d : Nat) : Option Nat :=
  if h * w ≤ i ∨ B i = true then none
  else if besIn h w i d then (if B (besW w i d) = true then none else if barB R D i (besW w i d) d = true then none else some (besW w i d))
  else none
theorem st_sym {h w k i d : Nat} {B R D : Nat → Bool} (hs : SymG h w k B R D) (hd : d < 4) (hi : i < h * w) : stW h w B R D (sigW h w k i) (tauW k d) = (stW h w B R D i d).map (sigW h w k) := by
  obtain ⟨b1, b2⟩ := sig_bes hs.k8 hd hs.hw hi
  have hsi := sig_lt hs.k8 hs.hw hi
  unfold stW
  by_cases h1 : B i = true
  · rw [if_pos (.inr (by rw [hs.blk i hi]; exact h1)), if_pos (.inr h1)]; rfl
  · have q1 : ¬ (h * w ≤ sigW h w k i ∨ B (sigW h w k i) = true) := fun h9 => by
      rcases h9 with h9 | h9
      · omega
      · rw [hs.blk i hi] at h9; exact h1 h9
    have q2 : ¬ (h * w ≤ i ∨ B i = true) := fun h9 => by
      rcases h9 with h9 | h9
      · omega
      · exact h1 h9
    rw [if_neg q1, if_neg q2]
    by_cases hin : besIn h w i d
    · rw [if_pos (b1.2 hin), if_pos hin, bar_same hs hd hi hin, b2 hin, hs.blk _ (bes_lt hin)]
      split
      · rfl
      · split <;> rfl
    · rw [if_neg (fun h9 => hin (b1.1 h9)), if_neg hin]; rfl
theorem st_some {h w i d j : Nat} {B R D : Nat → Bool} (hs : stW h w B R D i d = some j) : i < h * w ∧ B i ≠ true ∧ besIn h w i d ∧ j = besW w i d ∧ B j ≠ true ∧ barB R D i j d ≠ true := by
  unfold stW at hs
  split at hs
  · cases hs
  · rename_i h1
    split at hs
    · rename_i h2
      split at hs
      · cases hs
      · rename_i h3
        split at hs
        · cases hs
        · rename_i h4
          injection hs with hs
          subst hs
          exact ⟨by have : ¬ h * w ≤ i := fun h9 => h1 (.inl h9)
                    omega, fun h9 => h1 (.inr h9), h2, rfl, h3, h4⟩
    · cases hs
theorem st_opp {h w i d j : Nat} {B R D : Nat → Bool} (hd : d < 4) (hs : stW h w B R D i d = some j) : stW h w B R D j (opp d) = some i := by
  obtain ⟨h1, h2, h3, rfl, h5, h6⟩ := st_some hs
  obtain ⟨k1, k2⟩ := bes_back hd h1 h3
  unfold stW
  have q1 : ¬ (h * w ≤ besW w i d ∨ B (besW w i d) = true) := fun h9 => by
    rcases h9 with h9 | h9
    · have := bes_lt h3; omega
    · exact h5 h9
  rw [if_neg q1, if_pos k1, k2, if_neg h2]
  have e : barB R D (besW w i d) i (opp d) = barB R D i (besW w i d) d := by
    unfold barB
    rw [Nat.min_comm, show opp d % 2 = d % 2 by unfold opp; omega]
  rw [e, if_neg h6]
theorem st_up {h w i d j : Nat} {B R D : Nat → Bool} (hd : d < 2) (hs : stW h w B R D i d = some j) : i < j ∧ j < h * w := by
  obtain ⟨h1, h2, h3, rfl, h5, h6⟩ := st_some hs
  obtain ⟨f0, f1, _, _⟩ := bes_far (by omega) h1 h3
  have hw := pos_w h1
  refine ⟨?_, bes_lt h3⟩
  rcases (show d = 0 ∨ d = 1 by omega) with rfl | rfl
  · rw [(f0 rfl).1]; omega
  · rw [f1 rfl]; omega
/-- of a grid that a turn leaves as it is the turned slots are its slots -/
theorem slots_sym {h w k i d : Nat} {B R D : Nat → Bool} (hs : SymG h w k B R D) (hd : d < 2) (hi : i < h * w) (hb : Begins (stW h w B R D) d i) :
    ∃ i' d', d' < 2 ∧ i' < h * w ∧ Begins (stW h w B R D) d' i' ∧ ((gath (stW h w B R D) d' (h * w) i' = (gath (stW h w B R D) d (h * w) i).map (sigW h w k)) ∨ (gath (stW h w B R D) d' (h * w) i' = ((gath (stW h w B R D) d (h * w) i).map (sigW h w k)).reverse)) := by
  obtain ⟨i', d', h1, h2, h3⟩ := slot_image (σ := sigW h w k) (τ := tauW k) (n := h * w) (fun i d h1 h2 => st_sym hs h2 h1) (fun d hd => ⟨tau_lt k d, tau_opp hs.k8 hd⟩) (fun i j d hd h => st_opp hd h) (fun i j d hd h => st_up hd h) hd hi hb
  refine ⟨i', d', h1, ?_, h2, h3⟩
  cases hg : stW h w B R D i' d' with
  | none => exact absurd hg h2.goes
  | some j => exact (st_some hg).1
end Go.Proofs.YtonibpilbkafnaaDoor

/- Plain Lean: a grid turned, cell by cell; a turn that leaves the grid as it is. -/
namespace Go.Proofs.YtonibpilbkafnaaDoor
set_option linter.unusedVariables false
set_option linter.unusedSimpArgs false

/-- where cell i stands in the turned grid, whose rows are so long -/
def widW (h w k : Nat) : Nat := if k % 2 = 1 then h else w
def placeW (h w k i : Nat) : Nat := idxW (widW h w k) (laidR h w k (rowW w i) (colW' w i)) (laidC h w k (rowW w i) (colW' w i))
theorem place_sig {h w k : Nat} (hw : k % 2 = 1 → h = w) (i : Nat) : placeW h w k i = sigW h w k i := by
  unfold placeW sigW widW
  by_cases e : k % 2 = 1
  · rw [if_pos e, hw e]
  · rw [if_neg e]
theorem place_lt {h w k i : Nat} (hk : k < 8) (hi : i < h * w) : placeW h w k i < h * w := by
  have hin := in_of hi
  have h2 : inG (if k % 2 = 1 then w else h : Nat) (widW h w k : Nat) (laidR h w k (rowW w i) (colW' w i)) (laidC h w k (rowW w i) (colW' w i)) := by
    unfold inG at hin ⊢
    unfold widW
    rcases eight hk with rfl | rfl | rfl | rfl | rfl | rfl | rfl | rfl <;> simp [laidR, laidC, mirC] <;> omega
  have h3 := (of_idx h2).2.2
  unfold placeW
  refine Nat.lt_of_lt_of_le h3 ?_
  unfold widW
  by_cases e : k % 2 = 1
  · rw [if_pos e, if_pos e, Nat.mul_comm]; exact Nat.le_refl _
  · rw [if_neg e, if_neg e]; exact Nat.le_refl _
/-- what has been turned: blocks, bars at the right, bars below -/
structure Td where
  B : List Bool
  R : List Bool
  D : List Bool
def barT (w a b : Nat) (t : Td) : Td := if max a b = min a b + 1 ∧ (min a b + 1) % w ≠ 0 then { t with R := t.R.set (min a b) true } else { t with D := t.D.set (min a b) true }
/-- one cell more -/
def turnStep (h w k : Nat) (B R D : List Bool) (t : Td) (i : Nat) : Td :=
  let t1 : Td := { t with B := t.B.set (placeW h w k i) (B.getD i false) }
  let t2 := if R.getD i false then barT (widW h w k) (placeW h w k i) (placeW h w k (i + 1)) t1 else t1
  if D.getD i false then barT (widW h w k) (placeW h w k i) (placeW h w k (i + w)) t2 else t2
def turnN (h w k : Nat) (B R D : List Bool) : Nat → Td
  | 0 => ⟨List.replicate (h * w) false, List.replicate (h * w) false, List.replicate (h * w) false⟩
  | i + 1 => turnStep h w k B R D (turnN h w k B R D i) i
theorem barT_B (w a b : Nat) (t : Td) : (barT w a b t).B = t.B := by unfold barT; split <;> rfl
theorem barT_len (w a b : Nat) (t : Td) : (barT w a b t).R.length = t.R.length ∧ (barT w a b t).D.length = t.D.length := by unfold barT; split <;> simp
theorem turn_len (h w k : Nat) (B R D : List Bool) : ∀ i, (turnN h w k B R D i).B.length = h * w ∧ (turnN h w k B R D i).R.length = h * w ∧ (turnN h w k B R D i).D.length = h * w
  | 0 => by simp [turnN]
  | i + 1 => by
    obtain ⟨h1, h2, h3⟩ := turn_len h w k B R D i
    rw [show turnN h w k B R D (i + 1) = turnStep h w k B R D (turnN h w k B R D i) i from rfl]
    generalize turnN h w k B R D i = t at *
    unfold turnStep
    simp only
    refine ⟨?_, ?_, ?_⟩
    · split <;> split <;> simp [barT_B, h1]
    · split <;> split <;> simp [barT_len, h2]
    · split <;> split <;> simp [barT_len, h3]
abbrev gt (l : List Bool) (i : Nat) : Bool := l.getD i false
theorem gt_set {l : List Bool} {i j : Nat} {x : Bool} (hi : i < l.length) : gt (l.set i x) j = if i = j then x else gt l j := by
  unfold gt
  rw [List.getD_eq_getElem?_getD, List.getD_eq_getElem?_getD, List.getElem?_set]
  by_cases h : i = j
  · subst h; simp [hi]
  · simp [h]
theorem gt_up {l : List Bool} {i j : Nat} (h : gt l j = true) : gt (l.set i true) j = true := by
  by_cases hi : i < l.length
  · rw [gt_set hi]; split
    · rfl
    · exact h
  · rw [List.set_eq_of_length_le (by omega)]; exact h
/-- a bar that stands stays -/
theorem barAt_up {w a b c d : Nat} {t : Td} (h : BarAt w (gt t.R) (gt t.D) a b) : BarAt w (gt (barT w c d t).R) (gt (barT w c d t).D) a b := by
  unfold BarAt at h ⊢
  unfold barT
  split at h
  · rename_i h1
    rw [if_pos h1]
    split
    · exact gt_up h
    · exact h
  · rename_i h1
    rw [if_neg h1]
    split
    · exact h
    · exact gt_up h
theorem barAt_new {w a b : Nat} {t : Td} (ha : a < t.R.length) (ha2 : a < t.D.length) : BarAt w (gt (barT w a b t).R) (gt (barT w a b t).D) a b := by
  unfold BarAt barT
  split
  · simp only
    rw [gt_set (by omega), if_pos rfl]
  · simp only
    rw [gt_set (by omega), if_pos rfl]
theorem sig_inj {h w k i j : Nat} (hk : k < 8) (hw : k % 2 = 1 → h = w) (hi : i < h * w) (hj : j < h * w) (e : sigW h w k i = sigW h w k j) : i = j := by
  rw [← sig_four hk hw hi, ← sig_four hk hw hj, e]
theorem step_B (h w k : Nat) (B R D : List Bool) (t : Td) (i : Nat) : (turnStep h w k B R D t i).B = t.B.set (placeW h w k i) (B.getD i false) := by
  unfold turnStep
  simp only
  split <;> split <;> simp only [barT_B]
theorem step_up {h w k : Nat} {B R D : List Bool} {t : Td} {i a b : Nat} (hab : BarAt (widW h w k) (gt t.R) (gt t.D) a b) : BarAt (widW h w k) (gt (turnStep h w k B R D t i).R) (gt (turnStep h w k B R D t i).D) a b := by
  unfold turnStep
  simp only
  split <;> split
  · exact barAt_up (barAt_up hab)
  · exact barAt_up hab
  · exact barAt_up hab
  · exact hab
theorem step_rgt {h w k : Nat} {B R D : List Bool} {t : Td} {i : Nat} (hr : gt R i = true) (h1 : placeW h w k i < t.R.length) (h2 : placeW h w k i < t.D.length) : BarAt (widW h w k) (gt (turnStep h w k B R D t i).R) (gt (turnStep h w k B R D t i).D) (placeW h w k i) (placeW h w k (i + 1)) := by
  unfold turnStep
  simp only
  rw [if_pos (show R.getD i false = true from hr)]
  split
  · exact barAt_up (barAt_new h1 h2)
  · exact barAt_new h1 h2
theorem step_blw {h w k : Nat} {B R D : List Bool} {t : Td} {i : Nat} (hd : gt D i = true) (h1 : placeW h w k i < t.R.length) (h2 : placeW h w k i < t.D.length) : BarAt (widW h w k) (gt (turnStep h w k B R D t i).R) (gt (turnStep h w k B R D t i).D) (placeW h w k i) (placeW h w k (i + w)) := by
  unfold turnStep
  simp only
  have hif : ∀ (x y : Td), (if D.getD i false = true then x else y) = x := fun x y => if_pos hd
  rw [hif]
  split
  · exact barAt_new (by rw [(barT_len _ _ _ _).1]; exact h1) (by rw [(barT_len _ _ _ _).2]; exact h2)
  · exact barAt_new h1 h2
theorem turnN_succ (h w k : Nat) (B R D : List Bool) (n : Nat) : turnN h w k B R D (n + 1) = turnStep h w k B R D (turnN h w k B R D n) n := rfl
/-- what the turned grid holds of the cells turned so far -/
theorem turn_holds {h w k : Nat} {B R D : List Bool} (hk : k < 8) (hw : k % 2 = 1 → h = w) : ∀ n, n ≤ h * w → ∀ j, j < n →
    gt (turnN h w k B R D n).B (sigW h w k j) = gt B j ∧ (gt R j = true → BarAt w (gt (turnN h w k B R D n).R) (gt (turnN h w k B R D n).D) (sigW h w k j) (sigW h w k (j + 1))) ∧ (gt D j = true → BarAt w (gt (turnN h w k B R D n).R) (gt (turnN h w k B R D n).D) (sigW h w k j) (sigW h w k (j + w)))
  | 0, _, j, hj => by omega
  | n + 1, hn, j, hj => by
    obtain ⟨l1, l2, l3⟩ := turn_len h w k B R D n
    have hwid : widW h w k = w := by
      unfold widW
      by_cases e : k % 2 = 1
      · rw [if_pos e, hw e]
      · rw [if_neg e]
    have hsn := sig_lt hk hw (show n < h * w by omega)
    rw [turnN_succ]
    have hup := fun a b => step_up (h := h) (w := w) (k := k) (B := B) (R := R) (D := D) (t := turnN h w k B R D n) (i := n) (a := a) (b := b)
    have hrg := step_rgt (h := h) (w := w) (k := k) (B := B) (R := R) (D := D) (t := turnN h w k B R D n) (i := n)
    have hbl := step_blw (h := h) (w := w) (k := k) (B := B) (R := R) (D := D) (t := turnN h w k B R D n) (i := n)
    rw [hwid] at hup hrg hbl
    rw [place_sig hw] at hrg hbl
    rw [place_sig hw] at hrg
    rw [place_sig hw] at hbl
    have hb : gt (turnStep h w k B R D (turnN h w k B R D n) n).B (sigW h w k j) = if sigW h w k n = sigW h w k j then gt B n else gt (turnN h w k B R D n).B (sigW h w k j) := by
      rw [step_B, place_sig hw, gt_set (by omega)]
    by_cases hjn : j = n
    · subst hjn
      exact ⟨by rw [hb, if_pos rfl], fun hr => hrg hr (by omega) (by omega), fun hd => hbl hd (by omega) (by omega)⟩
    · obtain ⟨h1, h2, h3⟩ := turn_holds (B := B) (R := R) (D := D) hk hw n (by omega) j (by omega)
      refine ⟨?_, fun hr => hup _ _ (h2 hr), fun hd => hup _ _ (h3 hd)⟩
      rw [hb, if_neg (fun e => hjn (sig_inj hk hw (by omega) (by omega) e).symm)]
      exact h1
/-- a turned grid that is the same: a symmetry -/
theorem sym_of_same {h w k : Nat} {B R D : List Bool} (hk : k < 8) (hw : k % 2 = 1 → h = w) (hR : ∀ i, i < h * w → gt R i = true → besIn h w i 0 ∧ besW w i 0 = i + 1) (hD : ∀ i, i < h * w → gt D i = true → besIn h w i 1 ∧ besW w i 1 = i + w)
    (hs : (turnN h w k B R D (h * w)).B = B ∧ (turnN h w k B R D (h * w)).R = R ∧ (turnN h w k B R D (h * w)).D = D) : SymG h w k (gt B) (gt R) (gt D) := by
  have ht := fun j hj => turn_holds (B := B) (R := R) (D := D) hk hw (h * w) (Nat.le_refl _) j hj
  rw [hs.1, hs.2.1, hs.2.2] at ht
  refine ⟨hk, hw, fun i hi => (ht i hi).1, fun i hi hr => ?_, fun i hi hd => ?_⟩
  · obtain ⟨h1, h2⟩ := hR i hi hr
    exact ⟨h1, by rw [h2]; exact (ht i hi).2.1 hr⟩
  · obtain ⟨h1, h2⟩ := hD i hi hd
    exact ⟨h1, by rw [h2]; exact (ht i hi).2.2 hd⟩
end Go.Proofs.YtonibpilbkafnaaDoor

/- Plain Lean: a grid's slots, and that a symmetry takes each to one of them. -/
namespace Go.Proofs.YtonibpilbkafnaaDoor
set_option linter.unusedVariables false
set_option linter.unusedSimpArgs false

def begB (st : Nat → Nat → Option Nat) (i d : Nat) : Bool := (st i (opp d)).isNone && (st i d).isSome
theorem begB_iff {st : Nat → Nat → Option Nat} {i d : Nat} : begB st i d = true ↔ Begins st d i := by
  unfold begB
  rw [Bool.and_eq_true, Option.isNone_iff_eq_none]
  constructor
  · rintro ⟨h1, h2⟩
    exact ⟨h1, fun e => by rw [e] at h2; cases h2⟩
  · rintro ⟨h1, h2⟩
    refine ⟨h1, ?_⟩
    cases h : st i d with
    | none => exact absurd h h2
    | some j => rfl
/-- the slots that begin at a cell -/
def slotsAt (st : Nat → Nat → Option Nat) (n i : Nat) : List (List Nat) := ([0, 1].filter (begB st i)).map fun d => gath st d n i
/-- the slots of the cells ahead of one -/
def slotsTo (st : Nat → Nat → Option Nat) (n i : Nat) : List (List Nat) := ((List.range i).map (slotsAt st n)).flatten
theorem slotsTo_succ (st : Nat → Nat → Option Nat) (n i : Nat) : slotsTo st n (i + 1) = slotsTo st n i ++ slotsAt st n i := by
  unfold slotsTo
  rw [List.range_succ, List.map_append, List.flatten_append]
  simp
theorem mem_slots {st : Nat → Nat → Option Nat} {n : Nat} {s : List Nat} : s ∈ slotsTo st n n ↔ ∃ i d, i < n ∧ d < 2 ∧ Begins st d i ∧ s = gath st d n i := by
  unfold slotsTo slotsAt
  rw [List.mem_flatten]
  constructor
  · rintro ⟨l, hl, hs⟩
    obtain ⟨i, hi, rfl⟩ := List.mem_map.1 hl
    obtain ⟨d, hd, rfl⟩ := List.mem_map.1 hs
    obtain ⟨hd1, hd2⟩ := List.mem_filter.1 hd
    refine ⟨i, d, List.mem_range.1 hi, ?_, begB_iff.1 hd2, rfl⟩
    simp at hd1
    omega
  · rintro ⟨i, d, hi, hd, hb, rfl⟩
    refine ⟨_, List.mem_map.2 ⟨i, List.mem_range.2 hi, rfl⟩, List.mem_map.2 ⟨d, List.mem_filter.2 ⟨?_, begB_iff.2 hb⟩, rfl⟩⟩
    simp
    omega
theorem gath_lt {h w d : Nat} {B R D : Nat → Bool} (hd : d < 2) : ∀ (f i : Nat), i < h * w → ∀ c ∈ gath (stW h w B R D) d f i, c < h * w
  | 0, i, hi, c, hc => by
    unfold gath at hc
    rw [List.mem_singleton.1 hc]; exact hi
  | f + 1, i, hi, c, hc => by
    unfold gath at hc
    cases hs : stW h w B R D i d with
    | none => rw [hs] at hc; rw [List.mem_singleton.1 hc]; exact hi
    | some j =>
      rw [hs] at hc
      rcases List.mem_cons.1 hc with rfl | hc
      · exact hi
      · exact gath_lt hd f j (st_up hd hs).2 c hc
/-- what is found for each slot -/
theorem slot_found {h w k : Nat} {B R D : Nat → Bool} (hs : SymG h w k B R D) {s : List Nat} (hm : s ∈ slotsTo (stW h w B R D) (h * w) (h * w)) :
    ∃ o ∈ slotsTo (stW h w B R D) (h * w) (h * w), o.length = s.length ∧ ∀ c ∈ o, ∃ x ∈ s, c = sigW h w k x := by
  obtain ⟨i, d, hi, hd, hb, rfl⟩ := mem_slots.1 hm
  obtain ⟨i', d', h1, h2, h3, h4⟩ := slots_sym hs hd hi hb
  refine ⟨_, mem_slots.2 ⟨i', d', h2, h1, h3, rfl⟩, ?_, ?_⟩
  · rcases h4 with h4 | h4 <;> rw [h4] <;> simp
  · intro c hc
    have hc' : c ∈ (gath (stW h w B R D) d (h * w) i).map (sigW h w k) := by
      rcases h4 with h4 | h4
      · rw [h4] at hc; exact hc
      · rw [h4] at hc; exact List.mem_reverse.1 hc
    obtain ⟨x, hx, rfl⟩ := List.mem_map.1 hc'
    exact ⟨x, hx, rfl⟩
theorem slot_lt {h w : Nat} {B R D : Nat → Bool} {s : List Nat} (hm : s ∈ slotsTo (stW h w B R D) (h * w) (h * w)) : ∀ c ∈ s, c < h * w := by
  obtain ⟨i, d, hi, hd, hb, rfl⟩ := mem_slots.1 hm
  exact gath_lt hd _ _ hi
end Go.Proofs.YtonibpilbkafnaaDoor

/- Slices that read as lists; grids in plain Lean. -/
namespace Go.Proofs.YtonibpilbkafnaaDoor
set_option linter.unusedVariables false
set_option linter.unusedSimpArgs false
open Go.RowKit Go.Lib

end Go.Proofs.YtonibpilbkafnaaDoor

/- Plain Lean: what the law marks and finds. -/
namespace Go.Proofs.YtonibpilbkafnaaDoor
set_option linter.unusedVariables false
set_option linter.unusedSimpArgs false

/-- the marks of so many cells -/
def wentL (f : Nat → Nat) (s : List Nat) : List Bool := s.foldl (fun l c => l.set (f c) true) (List.replicate 256 false)
theorem wentL_snoc (f : Nat → Nat) (s : List Nat) (c : Nat) : wentL f (s ++ [c]) = (wentL f s).set (f c) true := by unfold wentL; rw [List.foldl_append]; rfl
theorem wentL_len (f : Nat → Nat) (s : List Nat) : (wentL f s).length = 256 := by
  unfold wentL
  have : ∀ (s : List Nat) (l : List Bool), l.length = 256 → (s.foldl (fun l c => l.set (f c) true) l).length = 256 := by
    intro s
    induction s with
    | nil => intro l h; exact h
    | cons c s ih => intro l h; exact ih _ (by rw [List.length_set]; exact h)
  exact this s _ List.length_replicate
theorem wentL_get (f : Nat → Nat) (s : List Nat) (x : Nat) (hx : x ∈ s) (hf : f x < 256) : (wentL f s).getD (f x) false = true := by
  have keep : ∀ (s : List Nat) (l : List Bool) (y : Nat), l.getD y false = true → (s.foldl (fun l c => l.set (f c) true) l).getD y false = true := by
    intro s
    induction s with
    | nil => intro l y h; exact h
    | cons c s ih => intro l y h; exact ih _ y (gt_up h)
  have : ∀ (s : List Nat) (l : List Bool), l.length = 256 → x ∈ s → (s.foldl (fun l c => l.set (f c) true) l).getD (f x) false = true := by
    intro s
    induction s with
    | nil => intro l _ h; cases h
    | cons c s ih =>
      intro l hl h
      rcases List.mem_cons.1 h with rfl | h
      · refine keep s _ _ ?_
        have := gt_set (l := l) (i := f x) (j := f x) (x := true) (by omega)
        rw [if_pos rfl] at this
        exact this
      · exact ih _ (by rw [List.length_set]; exact hl) h
  exact this s _ List.length_replicate hx
/-- are all cells of o marked, and are they as many? -/
def allB (W : List Bool) (n : Nat) (o : List Nat) : Bool := decide (o.length = n) && o.all fun c => W.getD c false
theorem all_snoc (W : List Bool) (a : Bool) (o : List Nat) (c : Nat) : ((a && o.all fun c => W.getD c false) && W.getD c false) = (a && (o ++ [c]).all fun c => W.getD c false) := by
  rw [List.all_append]; simp [Bool.and_assoc]
theorem found_any {h w k : Nat} {B R D : Nat → Bool} (hs : SymG h w k B R D) (hn : h * w ≤ 256) {s : List Nat} (hm : s ∈ slotsTo (stW h w B R D) (h * w) (h * w)) :
    (slotsTo (stW h w B R D) (h * w) (h * w)).any (allB (wentL (placeW h w k) s) s.length) = true := by
  obtain ⟨o, ho, hl, hc⟩ := slot_found hs hm
  refine List.any_eq_true.2 ⟨o, ho, ?_⟩
  unfold allB
  rw [Bool.and_eq_true]
  refine ⟨decide_eq_true hl, List.all_eq_true.2 fun c hcm => ?_⟩
  obtain ⟨x, hx, rfl⟩ := hc c hcm
  rw [← place_sig hs.hw]
  refine wentL_get _ s x hx ?_
  have := place_lt (h := h) (w := w) (k := k) hs.k8 (slot_lt hm x hx)
  omega
end Go.Proofs.YtonibpilbkafnaaDoor

/- Plain Lean: a turned grid that is the grid itself is a symmetry. -/
namespace Go.Proofs.YtonibpilbkafnaaDoor
set_option linter.unusedVariables false
set_option linter.unusedSimpArgs false

/-- the turned grid -/
def turnG (g : Gd) (k : Nat) : Gd :=
  let t := turnN g.H.toNat g.W.toNat k g.B g.R g.D (g.H.toNat * g.W.toNat)
  ⟨if k % 2 = 1 then g.W else g.H, if k % 2 = 1 then g.H else g.W, t.B, t.R, t.D⟩
theorem ok_bar {g : Gd} (h : OkG g) {i : Nat} (hi : i < g.H.toNat * g.W.toNat) : badAt g.H.toNat g.W.toNat g.B g.R g.D i = false := by
  cases hb : badAt g.H.toNat g.W.toNat g.B g.R g.D i with
  | false => rfl
  | true =>
    have := h.nb
    unfold barred at this
    have h2 := List.any_eq_true.2 ⟨i, List.mem_range.2 hi, hb⟩
    rw [this] at h2
    cases h2
theorem ok_right {g : Gd} (h : OkG g) {i : Nat} (hi : i < g.H.toNat * g.W.toNat) (hr : gt g.R i = true) : i % g.W.toNat ≠ g.W.toNat - 1 := by
  intro e
  have := ok_bar h hi
  unfold badAt at this
  rw [show g.R.getD i false = true from hr, decide_eq_true e] at this
  simp at this
theorem ok_down {g : Gd} (h : OkG g) {i : Nat} (hi : i < g.H.toNat * g.W.toNat) (hr : gt g.D i = true) : i / g.W.toNat ≠ g.H.toNat - 1 := by
  intro e
  have := ok_bar h hi
  unfold badAt at this
  rw [show g.D.getD i false = true from hr, decide_eq_true e] at this
  simp at this
theorem bes_right {h w i : Nat} (hi : i < h * w) (hm : i % w ≠ w - 1) : besIn h w i 0 ∧ besW w i 0 = i + 1 := by
  have hw := pos_w hi
  obtain ⟨h1, h2, h3, h4⟩ := in_of hi
  have hlt := Nat.mod_lt i hw
  have hin : besIn h w i 0 := by
    unfold besIn inG
    rw [show drW 0 = 0 from rfl, show dcW 0 = 1 from rfl]
    unfold colW' at h3 h4 ⊢
    refine ⟨by omega, by omega, by omega, by omega⟩
  exact ⟨hin, ((bes_far (by omega) hi hin).1 rfl).1⟩
theorem bes_down {h w i : Nat} (hi : i < h * w) (hm : i / w ≠ h - 1) : besIn h w i 1 ∧ besW w i 1 = i + w := by
  have hw := pos_w hi
  obtain ⟨h1, h2, h3, h4⟩ := in_of hi
  have hin : besIn h w i 1 := by
    unfold besIn inG
    rw [show drW 1 = 1 from rfl, show dcW 1 = 0 from rfl]
    unfold rowW at h1 h2 ⊢
    refine ⟨by omega, by omega, by omega, by omega⟩
  exact ⟨hin, (bes_far (by omega) hi hin).2.1 rfl⟩
theorem sym_ok {g : Gd} (h : OkG g) {k : Nat} (hk : k < 8) (e : turnG g k = g) : SymG g.H.toNat g.W.toNat k (gt g.B) (gt g.R) (gt g.D) := by
  have e1 : (if k % 2 = 1 then g.W else g.H) = g.H := congrArg Gd.H e
  have e3 : (turnN g.H.toNat g.W.toNat k g.B g.R g.D (g.H.toNat * g.W.toNat)).B = g.B := congrArg Gd.B e
  have e4 : (turnN g.H.toNat g.W.toNat k g.B g.R g.D (g.H.toNat * g.W.toNat)).R = g.R := congrArg Gd.R e
  have e5 : (turnN g.H.toNat g.W.toNat k g.B g.R g.D (g.H.toNat * g.W.toNat)).D = g.D := congrArg Gd.D e
  refine sym_of_same hk (fun ho => ?_) (fun i hi hr => bes_right hi (ok_right h hi hr)) (fun i hi hd => bes_down hi (ok_down h hi hd)) ⟨e3, e4, e5⟩
  rw [if_pos ho] at e1
  rw [e1]
/-- the turns that change nothing -/
def symsG (g : Gd) : List Nat := if checkG g = 0 then (List.range 8).filter fun k => decide (turnG g k = g) else []
theorem syms_mem {g : Gd} {k : Nat} (h : k ∈ symsG g) : OkG g ∧ k < 8 ∧ turnG g k = g := by
  unfold symsG at h
  split at h
  · rename_i hc
    obtain ⟨h1, h2⟩ := List.mem_filter.1 h
    exact ⟨ok_of_check hc, List.mem_range.1 h1, of_decide_eq_true h2⟩
  · cases h
def aw22 : Gd := ⟨2, 2, [false, false, false, false], [false, false, false, false], [false, false, false, false]⟩
theorem aw22_ok : checkG aw22 = 0 := by decide +kernel
theorem aw22_syms : (symsG aw22).length = 8 := by decide +kernel
/-- the cells of a grid's slots -/
def slotsG (g : Gd) : List (List Nat) := slotsTo (stW g.H.toNat g.W.toNat (gt g.B) (gt g.R) (gt g.D)) (g.H.toNat * g.W.toNat) (g.H.toNat * g.W.toNat)
end Go.Proofs.YtonibpilbkafnaaDoor

/- Plain Lean: the slots, each with its way; how they are gathered. -/
namespace Go.Proofs.YtonibpilbkafnaaDoor
set_option linter.unusedVariables false
set_option linter.unusedSimpArgs false

theorem gath_more {st : Nat → Nat → Option Nat} {d n i j f : Nat} (hup : ∀ i j, st i d = some j → i < j ∧ j < n) (hs : st i d = some j) (hf : n ≤ i + f + 1) : ∃ f', n ≤ j + f' + 1 ∧ gath st d f i = i :: gath st d f' j := by
  obtain ⟨h1, h2⟩ := hup i j hs
  obtain ⟨f', rfl⟩ : ∃ f', f = f' + 1 := ⟨f - 1, by omega⟩
  refine ⟨f', by omega, ?_⟩
  show (match st i d with | none => [i] | some j => i :: gath st d f' j) = _
  rw [hs]
theorem gath_stop {st : Nat → Nat → Option Nat} {d i f : Nat} (hs : st i d = none) : gath st d f i = [i] := by
  cases f with
  | zero => rfl
  | succ f =>
    show (match st i d with | none => [i] | some j => i :: gath st d f j) = _
    rw [hs]
/-- what was gathered, and what is still to come -/
def GInv (st : Nat → Nat → Option Nat) (d n i0 : Nat) (pre : List Nat) (i : Nat) : Prop := ∃ f, n ≤ i + f + 1 ∧ gath st d n i0 = pre ++ (gath st d f i).tail
theorem GInv.start (st : Nat → Nat → Option Nat) (d n i0 : Nat) : GInv st d n i0 [i0] i0 := by
  refine ⟨n, by omega, ?_⟩
  obtain ⟨l, hl⟩ := gath_cons st d n i0
  rw [hl]; rfl
theorem GInv.go {st : Nat → Nat → Option Nat} {d n i0 i j : Nat} {pre : List Nat} (hup : ∀ i j, st i d = some j → i < j ∧ j < n) (h : GInv st d n i0 pre i) (hs : st i d = some j) : GInv st d n i0 (pre ++ [j]) j := by
  obtain ⟨f, hf, e⟩ := h
  obtain ⟨f', hf', e'⟩ := gath_more hup hs hf
  refine ⟨f', hf', ?_⟩
  obtain ⟨l, hl⟩ := gath_cons st d f' j
  rw [e, e', hl]
  simp
theorem GInv.stop {st : Nat → Nat → Option Nat} {d n i0 i : Nat} {pre : List Nat} (h : GInv st d n i0 pre i) (hs : st i d = none) : gath st d n i0 = pre := by
  obtain ⟨f, hf, e⟩ := h
  rw [e, gath_stop hs]
  simp
/-- one cell's slots of one way -/
def slotW (st : Nat → Nat → Option Nat) (n i d : Nat) : List (Bool × List Nat) := if begB st i d then [(decide (d = 1), gath st d n i)] else []
/-- the slots of the cells ahead of one, each with its way -/
def slotsL (st : Nat → Nat → Option Nat) (n : Nat) : Nat → List (Bool × List Nat)
  | 0 => []
  | i + 1 => slotsL st n i ++ slotW st n i 0 ++ slotW st n i 1
theorem slotsL_to (st : Nat → Nat → Option Nat) (n : Nat) : ∀ i, (slotsL st n i).map (·.2) = slotsTo st n i
  | 0 => rfl
  | i + 1 => by
    rw [slotsTo_succ, ← slotsL_to st n i]
    show (slotsL st n i ++ slotW st n i 0 ++ slotW st n i 1).map (·.2) = _
    unfold slotsAt slotW
    rw [List.map_append, List.map_append, List.append_assoc]
    congr 1
    cases h0 : begB st i 0 <;> cases h1 : begB st i 1 <;> simp [h0, h1]
theorem begB_no1 {st : Nat → Nat → Option Nat} {i d j : Nat} (h : st i (opp d) = some j) : begB st i d = false := by unfold begB; rw [h]; rfl
theorem begB_no2 {st : Nat → Nat → Option Nat} {i d : Nat} (h : st i d = none) : begB st i d = false := by unfold begB; rw [h]; simp
theorem begB_yes {st : Nat → Nat → Option Nat} {i d j : Nat} (h : st i (opp d) = none) (h2 : st i d = some j) : begB st i d = true := by unfold begB; rw [h, h2]; rfl
end Go.Proofs.YtonibpilbkafnaaDoor

/- Plain Lean: a step each way, in numbers. -/
namespace Go.Proofs.YtonibpilbkafnaaDoor
set_option linter.unusedVariables false
set_option linter.unusedSimpArgs false

theorem st_none {h w i d : Nat} {B R D : Nat → Bool} (hn : ¬ besIn h w i d) : stW h w B R D i d = none := by
  unfold stW
  split
  · rfl
  · first | rfl | rw [if_neg hn]
theorem st_in {h w i d : Nat} {B R D : Nat → Bool} (hi : i < h * w) (hb : B i = false) (hin : besIn h w i d) : stW h w B R D i d = if B (besW w i d) || barB R D i (besW w i d) d then none else some (besW w i d) := by
  unfold stW
  rw [if_neg (by rintro (h1 | h1)
                 · omega
                 · rw [hb] at h1; cases h1), if_pos hin]
  cases B (besW w i d) <;> cases barB R D i (besW w i d) d <;> simp
theorem st0 {h w i : Nat} {B R D : Nat → Bool} (hi : i < h * w) (hb : B i = false) : (¬ i % w + 1 < w → stW h w B R D i 0 = none) ∧ (i % w + 1 < w → i + 1 < h * w ∧ stW h w B R D i 0 = if B (i + 1) || R i then none else some (i + 1)) := by
  obtain ⟨h1, h2, h3, h4⟩ := in_of hi
  constructor
  · intro hn
    refine st_none fun hin => hn ?_
    obtain ⟨_, _, _, k4⟩ := hin
    rw [show dcW 0 = 1 from rfl] at k4
    unfold colW' at k4
    omega
  · intro hl
    have hin : besIn h w i 0 := by
      unfold besIn inG
      rw [show drW 0 = 0 from rfl, show dcW 0 = 1 from rfl]
      unfold colW' at h3 h4 ⊢
      refine ⟨by omega, by omega, by omega, by omega⟩
    have e := ((bes_far (by omega) hi hin).1 rfl).1
    have hlt := bes_lt hin
    have := st_in (R := R) (D := D) hi hb hin
    rw [e] at this hlt
    refine ⟨hlt, ?_⟩
    rw [this]
    unfold barB
    rw [show min i (i + 1) = i by omega]
    rfl
theorem st1 {h w i : Nat} {B R D : Nat → Bool} (hi : i < h * w) (hb : B i = false) : (¬ i / w + 1 < h → stW h w B R D i 1 = none) ∧ (i / w + 1 < h → i + w < h * w ∧ stW h w B R D i 1 = if B (i + w) || D i then none else some (i + w)) := by
  obtain ⟨h1, h2, h3, h4⟩ := in_of hi
  constructor
  · intro hn
    refine st_none fun hin => hn ?_
    obtain ⟨_, k4, _, _⟩ := hin
    rw [show drW 1 = 1 from rfl] at k4
    unfold rowW at k4
    omega
  · intro hl
    have hin : besIn h w i 1 := by
      unfold besIn inG
      rw [show drW 1 = 1 from rfl, show dcW 1 = 0 from rfl]
      unfold rowW at h1 h2 ⊢
      refine ⟨by omega, by omega, by omega, by omega⟩
    have e := (bes_far (by omega) hi hin).2.1 rfl
    have hlt := bes_lt hin
    have := st_in (R := R) (D := D) hi hb hin
    rw [e] at this hlt
    refine ⟨hlt, ?_⟩
    rw [this]
    unfold barB
    rw [show min i (i + w) = i by omega]
    rfl
theorem st2 {h w i : Nat} {B R D : Nat → Bool} (hi : i < h * w) (hb : B i = false) : (¬ 1 ≤ i % w → stW h w B R D i 2 = none) ∧ (1 ≤ i % w → 1 ≤ i ∧ stW h w B R D i 2 = if B (i - 1) || R (i - 1) then none else some (i - 1)) := by
  obtain ⟨h1, h2, h3, h4⟩ := in_of hi
  constructor
  · intro hn
    refine st_none fun hin => hn ?_
    obtain ⟨_, _, k4, _⟩ := hin
    rw [show dcW 2 = -1 from rfl] at k4
    unfold colW' at k4
    omega
  · intro hl
    have hin : besIn h w i 2 := by
      unfold besIn inG
      rw [show drW 2 = 0 from rfl, show dcW 2 = -1 from rfl]
      unfold colW' at h3 h4 ⊢
      refine ⟨by omega, by omega, by omega, by omega⟩
    have e := ((bes_far (by omega) hi hin).2.2.1 rfl).1
    have := st_in (R := R) (D := D) hi hb hin
    have e2 : besW w i 2 = i - 1 := by omega
    rw [e2] at this
    refine ⟨by omega, ?_⟩
    rw [this]
    unfold barB
    rw [show min i (i - 1) = i - 1 by omega]
    rfl
theorem st3 {h w i : Nat} {B R D : Nat → Bool} (hi : i < h * w) (hb : B i = false) : (¬ 1 ≤ i / w → stW h w B R D i 3 = none) ∧ (1 ≤ i / w → w ≤ i ∧ stW h w B R D i 3 = if B (i - w) || D (i - w) then none else some (i - w)) := by
  obtain ⟨h1, h2, h3, h4⟩ := in_of hi
  constructor
  · intro hn
    refine st_none fun hin => hn ?_
    obtain ⟨k4, _, _, _⟩ := hin
    rw [show drW 3 = -1 from rfl] at k4
    unfold rowW at k4
    omega
  · intro hl
    have hin : besIn h w i 3 := by
      unfold besIn inG
      rw [show drW 3 = -1 from rfl, show dcW 3 = 0 from rfl]
      unfold rowW at h1 h2 ⊢
      refine ⟨by omega, by omega, by omega, by omega⟩
    have e := (bes_far (by omega) hi hin).2.2.2 rfl
    have := st_in (R := R) (D := D) hi hb hin
    have e2 : besW w i 3 = i - w := by omega
    rw [e2] at this
    refine ⟨by omega, ?_⟩
    rw [this]
    unfold barB
    rw [show min i (i - w) = i - w by omega]
    rfl
/-- what Step answers -/
def stpV : Option Nat → Ending
  | none => .returned (.tuple #[.int .i64 0, .bool false])
  | some j => .returned (.tuple #[.int .i64 (j : Nat), .bool true])
end Go.Proofs.YtonibpilbkafnaaDoor

/- Plain Lean: any turn: where cells stand, which lie beside each other, the way back. -/
namespace Go.Proofs.YtonibpilbkafnaaDoor
set_option linter.unusedVariables false
set_option linter.unusedSimpArgs false

/-- the turned grid's rows -/
def higW (h w k : Nat) : Nat := if k % 2 = 1 then w else h
theorem hig_wid (h w k : Nat) : higW h w k * widW h w k = h * w := by
  unfold higW widW
  split
  · exact Nat.mul_comm _ _
  · rfl
theorem laid_in2 {h w : Nat} {r c : Int} {k : Nat} (hk : k < 8) : inG (higW h w k : Nat) (widW h w k : Nat) (laidR h w k r c) (laidC h w k r c) ↔ inG h w r c := by
  unfold higW widW
  rcases eight hk with rfl | rfl | rfl | rfl | rfl | rfl | rfl | rfl <;> simp [laidR, laidC, mirC, inG] <;> omega
theorem place_at {h w k : Nat} {r c : Int} (hin : inG h w r c) : placeW h w k (idxW w r c) = idxW (widW h w k) (laidR h w k r c) (laidC h w k r c) := by
  obtain ⟨h1, h2, _⟩ := of_idx hin
  unfold placeW
  rw [h1, h2]
theorem place_coord {h w k i : Nat} (hk : k < 8) (hi : i < h * w) : rowW (widW h w k) (placeW h w k i) = laidR h w k (rowW w i) (colW' w i) ∧ colW' (widW h w k) (placeW h w k i) = laidC h w k (rowW w i) (colW' w i) := by
  obtain ⟨h1, h2, _⟩ := of_idx ((laid_in2 hk).2 (in_of hi))
  exact ⟨h1, h2⟩
theorem place_bes {h w k i d : Nat} (hk : k < 8) (hd : d < 4) (hi : i < h * w) : (besIn (higW h w k) (widW h w k) (placeW h w k i) (tauW k d) ↔ besIn h w i d) ∧ (besIn h w i d → besW (widW h w k) (placeW h w k i) (tauW k d) = placeW h w k (besW w i d)) := by
  obtain ⟨h1, h2⟩ := place_coord hk hi
  obtain ⟨h3, h4⟩ := laid_step (h := (h : Int)) (w := (w : Int)) (r := rowW w i) (c := colW' w i) hk hd
  unfold besIn besW
  rw [h1, h2, ← h3, ← h4]
  exact ⟨laid_in2 hk, fun hin => (place_at hin).symm⟩
/-- the turn back -/
def bacW (k : Nat) : Nat := if 3 < k then k else (4 - k) % 4
theorem bac_lt {k : Nat} (hk : k < 8) : bacW k < 8 := by unfold bacW; split <;> omega
theorem tau_back {k d : Nat} (hk : k < 8) (hd : d < 4) : tauW (bacW k) (tauW k d) = d ∧ tauW k (tauW (bacW k) d) = d := by
  rcases eight hk with rfl | rfl | rfl | rfl | rfl | rfl | rfl | rfl <;> rcases four hd with rfl | rfl | rfl | rfl <;> exact ⟨rfl, rfl⟩
theorem wid_back {h w k : Nat} (hk : k < 8) : widW (higW h w k) (widW h w k) (bacW k) = w ∧ higW (higW h w k) (widW h w k) (bacW k) = h := by
  rcases eight hk with rfl | rfl | rfl | rfl | rfl | rfl | rfl | rfl <;> exact ⟨rfl, rfl⟩
theorem laid_back {h w : Nat} {r c : Int} {k : Nat} (hk : k < 8) : laidR (higW h w k) (widW h w k) (bacW k) (laidR h w k r c) (laidC h w k r c) = r ∧ laidC (higW h w k) (widW h w k) (bacW k) (laidR h w k r c) (laidC h w k r c) = c := by
  unfold higW widW bacW
  rcases eight hk with rfl | rfl | rfl | rfl | rfl | rfl | rfl | rfl <;> simp [laidR, laidC, mirC] <;> omega
theorem place_back {h w k i : Nat} (hk : k < 8) (hi : i < h * w) : placeW (higW h w k) (widW h w k) (bacW k) (placeW h w k i) = i := by
  obtain ⟨h1, h2⟩ := place_coord hk hi
  obtain ⟨h3, h4⟩ := laid_back (h := h) (w := w) (r := rowW w i) (c := colW' w i) hk
  have e : placeW (higW h w k) (widW h w k) (bacW k) (placeW h w k i) = idxW (widW (higW h w k) (widW h w k) (bacW k)) (laidR (higW h w k) (widW h w k) (bacW k) (rowW (widW h w k) (placeW h w k i)) (colW' (widW h w k) (placeW h w k i))) (laidC (higW h w k) (widW h w k) (bacW k) (rowW (widW h w k) (placeW h w k i)) (colW' (widW h w k) (placeW h w k i))) := rfl
  rw [e, h1, h2, h3, h4, (wid_back hk).1]
  exact idx_of
theorem place_inj {h w k i j : Nat} (hk : k < 8) (hi : i < h * w) (hj : j < h * w) (e : placeW h w k i = placeW h w k j) : i = j := by
  rw [← place_back hk hi, ← place_back hk hj, e]
theorem place_lt2 {h w k i : Nat} (hk : k < 8) (hi : i < h * w) : placeW h w k i < higW h w k * widW h w k := by rw [hig_wid]; exact place_lt hk hi
/-- every cell of the turned grid is a cell's place -/
theorem place_onto {h w k j : Nat} (hk : k < 8) (hj : j < higW h w k * widW h w k) : ∃ i, i < h * w ∧ placeW h w k i = j := by
  have h1 := place_lt2 (h := higW h w k) (w := widW h w k) (k := bacW k) (bac_lt hk) hj
  rw [(wid_back hk).1, (wid_back hk).2] at h1
  have h2 := place_back (h := higW h w k) (w := widW h w k) (k := bacW k) (i := j) (bac_lt hk) hj
  rw [(wid_back hk).1, (wid_back hk).2] at h2
  have hbb : bacW (bacW k) = k := by rcases eight hk with rfl | rfl | rfl | rfl | rfl | rfl | rfl | rfl <;> rfl
  rw [hbb] at h2
  exact ⟨_, h1, h2⟩
/-- two cells, one at the other's right -/
def RightP (w a b : Nat) : Prop := max a b = min a b + 1 ∧ (min a b + 1) % w ≠ 0
theorem barAt_iff {w a b : Nat} {R D : Nat → Bool} : BarAt w R D a b ↔ (RightP w a b ∧ R (min a b) = true) ∨ (¬ RightP w a b ∧ D (min a b) = true) := by
  unfold BarAt
  split
  · rename_i h
    constructor
    · intro h1; exact .inl ⟨h, h1⟩
    · rintro (⟨_, h1⟩ | ⟨h1, _⟩)
      · exact h1
      · exact absurd h h1
  · rename_i h
    constructor
    · intro h1; exact .inr ⟨h, h1⟩
    · rintro (⟨h1, _⟩ | ⟨_, h1⟩)
      · exact absurd h1 h
      · exact h1
/-- cells beside each other lie a cell or a row apart -/
theorem beside_two {h w i d : Nat} (hd : d < 4) (hi : i < h * w) (hin : besIn h w i d) : RightP w i (besW w i d) ∨ (¬ RightP w i (besW w i d) ∧ max i (besW w i d) = min i (besW w i d) + w) := by
  have hf := bes_far hd hi hin
  have hj := bes_lt hin
  have hw := pos_w hi
  generalize besW w i d = j at *
  rcases four hd with rfl | rfl | rfl | rfl
  · obtain ⟨h1, h2⟩ := hf.1 rfl
    refine .inl ⟨by omega, ?_⟩
    rw [show min i j + 1 = i + 1 by omega]; exact h2
  · have h1 := hf.2.1 rfl
    by_cases h2 : RightP w i j
    · exact .inl h2
    · exact .inr ⟨h2, by omega⟩
  · obtain ⟨h1, h2⟩ := hf.2.2.1 rfl
    refine .inl ⟨by omega, ?_⟩
    rw [show min i j + 1 = i by omega]; exact h2
  · have h1 := hf.2.2.2 rfl
    by_cases h2 : RightP w i j
    · exact .inl h2
    · exact .inr ⟨h2, by omega⟩
theorem minmax_same {a b c d : Nat} (h1 : min a b = min c d) (h2 : max a b = max c d) : (a = c ∧ b = d) ∨ (a = d ∧ b = c) := by omega
/-- two pairs of cells beside each other that share their lesser cell and their way are one pair -/
theorem pair_same {w a b c d : Nat} (h1 : RightP w a b ∨ (¬ RightP w a b ∧ max a b = min a b + w)) (h2 : RightP w c d ∨ (¬ RightP w c d ∧ max c d = min c d + w)) (hr : RightP w a b ↔ RightP w c d) (hm : min a b = min c d) : (a = c ∧ b = d) ∨ (a = d ∧ b = c) := by
  refine minmax_same hm ?_
  rcases h1 with h1 | ⟨h1, h1'⟩
  · have h3 := hr.1 h1
    have := h1.1; have := h3.1
    omega
  · rcases h2 with h2 | ⟨h2, h2'⟩
    · exact absurd (hr.2 h2) h1
    · omega
end Go.Proofs.YtonibpilbkafnaaDoor

/- Plain Lean: the turned grid holds the grid's blocks and bars, and no others. -/
namespace Go.Proofs.YtonibpilbkafnaaDoor
set_option linter.unusedVariables false
set_option linter.unusedSimpArgs false

/-- the bars turned so far -/
def Edges (h w k : Nat) (R D : List Bool) (m a b : Nat) : Prop := ∃ j, j < m ∧ ((gt R j = true ∧ a = placeW h w k j ∧ b = placeW h w k (j + 1)) ∨ (gt D j = true ∧ a = placeW h w k j ∧ b = placeW h w k (j + w)))
/-- what holds of the grid turned so far -/
structure TurnX (h w k : Nat) (B R D : List Bool) (m : Nat) (t : Td) : Prop where
  b : ∀ j, j < m → gt t.B (placeW h w k j) = gt B j
  r : ∀ x, gt t.R x = true ↔ ∃ a b, Edges h w k R D m a b ∧ RightP (widW h w k) a b ∧ x = min a b
  d : ∀ x, gt t.D x = true ↔ ∃ a b, Edges h w k R D m a b ∧ ¬ RightP (widW h w k) a b ∧ x = min a b
theorem barT_R {w a b x : Nat} {t : Td} (hl : min a b < t.R.length) : gt (barT w a b t).R x = true ↔ gt t.R x = true ∨ (RightP w a b ∧ x = min a b) := by
  unfold barT
  split
  · rename_i h
    show gt (t.R.set (min a b) true) x = true ↔ _
    rw [gt_set hl]
    by_cases hx : min a b = x
    · rw [if_pos hx]; exact ⟨fun _ => .inr ⟨h, hx.symm⟩, fun _ => rfl⟩
    · rw [if_neg hx]; exact ⟨.inl, fun h1 => h1.elim id fun h2 => absurd h2.2.symm hx⟩
  · rename_i h
    exact ⟨.inl, fun h1 => h1.elim id fun h2 => absurd h2.1 h⟩
theorem barT_D {w a b x : Nat} {t : Td} (hl : min a b < t.D.length) : gt (barT w a b t).D x = true ↔ gt t.D x = true ∨ (¬ RightP w a b ∧ x = min a b) := by
  unfold barT
  split
  · rename_i h
    exact ⟨.inl, fun h1 => h1.elim id fun h2 => absurd h h2.1⟩
  · rename_i h
    show gt (t.D.set (min a b) true) x = true ↔ _
    rw [gt_set hl]
    by_cases hx : min a b = x
    · rw [if_pos hx]; exact ⟨fun _ => .inr ⟨h, hx.symm⟩, fun _ => rfl⟩
    · rw [if_neg hx]; exact ⟨.inl, fun h1 => h1.elim id fun h2 => absurd h2.2.symm hx⟩
theorem edges_succ {h w k : Nat} {R D : List Bool} {m a b : Nat} : Edges h w k R D (m + 1) a b ↔ Edges h w k R D m a b ∨ (gt R m = true ∧ a = placeW h w k m ∧ b = placeW h w k (m + 1)) ∨ (gt D m = true ∧ a = placeW h w k m ∧ b = placeW h w k (m + w)) := by
  unfold Edges
  constructor
  · rintro ⟨j, hj, h1⟩
    rcases Nat.lt_or_ge j m with h2 | h2
    · exact .inl ⟨j, h2, h1⟩
    · obtain rfl : j = m := by omega
      exact .inr h1
  · rintro (⟨j, hj, h1⟩ | h1)
    · exact ⟨j, by omega, h1⟩
    · exact ⟨m, by omega, h1⟩
theorem gt_rep (n x : Nat) : gt (List.replicate n false) x = false := by
  unfold gt
  rw [List.getD_eq_getElem?_getD, List.getElem?_replicate]
  split <;> rfl
theorem turn_exact {h w k : Nat} {B R D : List Bool} (hk : k < 8) : ∀ m, m ≤ h * w → TurnX h w k B R D m (turnN h w k B R D m)
  | 0, _ => ⟨fun j hj => by omega, fun x => by
      rw [show (turnN h w k B R D 0).R = List.replicate (h * w) false from rfl, gt_rep]
      exact ⟨(fun h1 => by cases h1), (fun ⟨a, b, ⟨j, hj, _⟩, _⟩ => by omega)⟩, fun x => by
      rw [show (turnN h w k B R D 0).D = List.replicate (h * w) false from rfl, gt_rep]
      exact ⟨(fun h1 => by cases h1), (fun ⟨a, b, ⟨j, hj, _⟩, _⟩ => by omega)⟩⟩
  | m + 1, hm => by
    have ih := turn_exact (h := h) (w := w) (B := B) (R := R) (D := D) hk m (by omega)
    obtain ⟨l1, l2, l3⟩ := turn_len h w k B R D m
    have hp := place_lt (h := h) (w := w) (k := k) hk (show m < h * w by omega)
    rw [turnN_succ]
    generalize turnN h w k B R D m = t at *
    have hx : ∀ x, gt (turnStep h w k B R D t m).R x = true ↔ gt t.R x = true ∨ (gt R m = true ∧ RightP (widW h w k) (placeW h w k m) (placeW h w k (m + 1)) ∧ x = min (placeW h w k m) (placeW h w k (m + 1))) ∨ (gt D m = true ∧ RightP (widW h w k) (placeW h w k m) (placeW h w k (m + w)) ∧ x = min (placeW h w k m) (placeW h w k (m + w))) := by
      intro x
      unfold turnStep
      simp only
      cases hr : R.getD m false <;> cases hd : D.getD m false
      all_goals simp only [if_true, if_false, Bool.false_eq_true]
      all_goals simp only [show gt R m = R.getD m false from rfl, show gt D m = D.getD m false from rfl, hr, hd, true_and, false_and, or_false, false_or, Bool.false_eq_true]
      · rw [barT_R (by simp only; omega)]
      · rw [barT_R (by simp only; omega)]
      · rw [barT_R (by rw [(barT_len _ _ _ _).1]; simp only; omega), barT_R (by simp only; omega), or_assoc]
    have hy : ∀ x, gt (turnStep h w k B R D t m).D x = true ↔ gt t.D x = true ∨ (gt R m = true ∧ ¬ RightP (widW h w k) (placeW h w k m) (placeW h w k (m + 1)) ∧ x = min (placeW h w k m) (placeW h w k (m + 1))) ∨ (gt D m = true ∧ ¬ RightP (widW h w k) (placeW h w k m) (placeW h w k (m + w)) ∧ x = min (placeW h w k m) (placeW h w k (m + w))) := by
      intro x
      unfold turnStep
      simp only
      cases hr : R.getD m false <;> cases hd : D.getD m false
      all_goals simp only [if_true, if_false, Bool.false_eq_true]
      all_goals simp only [show gt R m = R.getD m false from rfl, show gt D m = D.getD m false from rfl, hr, hd, true_and, false_and, or_false, false_or, Bool.false_eq_true]
      · rw [barT_D (by simp only; omega)]
      · rw [barT_D (by simp only; omega)]
      · rw [barT_D (by rw [(barT_len _ _ _ _).2]; simp only; omega), barT_D (by simp only; omega), or_assoc]
    refine ⟨fun j hj => ?_, fun x => ?_, fun x => ?_⟩
    · rw [step_B, gt_set (by omega)]
      rcases Nat.lt_or_ge j m with h2 | h2
      · rw [if_neg (fun e => by have := place_inj hk (by omega) (by omega) e; omega)]
        exact ih.b j h2
      · obtain rfl : j = m := by omega
        rw [if_pos rfl]
    · rw [hx, ih.r]
      constructor
      · rintro (⟨a, b, h1, h2, h3⟩ | ⟨h1, h2, h3⟩ | ⟨h1, h2, h3⟩)
        · exact ⟨a, b, edges_succ.2 (.inl h1), h2, h3⟩
        · exact ⟨_, _, edges_succ.2 (.inr (.inl ⟨h1, rfl, rfl⟩)), h2, h3⟩
        · exact ⟨_, _, edges_succ.2 (.inr (.inr ⟨h1, rfl, rfl⟩)), h2, h3⟩
      · rintro ⟨a, b, h1, h2, h3⟩
        rcases edges_succ.1 h1 with h4 | ⟨h4, rfl, rfl⟩ | ⟨h4, rfl, rfl⟩
        · exact .inl ⟨a, b, h4, h2, h3⟩
        · exact .inr (.inl ⟨h4, h2, h3⟩)
        · exact .inr (.inr ⟨h4, h2, h3⟩)
    · rw [hy, ih.d]
      constructor
      · rintro (⟨a, b, h1, h2, h3⟩ | ⟨h1, h2, h3⟩ | ⟨h1, h2, h3⟩)
        · exact ⟨a, b, edges_succ.2 (.inl h1), h2, h3⟩
        · exact ⟨_, _, edges_succ.2 (.inr (.inl ⟨h1, rfl, rfl⟩)), h2, h3⟩
        · exact ⟨_, _, edges_succ.2 (.inr (.inr ⟨h1, rfl, rfl⟩)), h2, h3⟩
      · rintro ⟨a, b, h1, h2, h3⟩
        rcases edges_succ.1 h1 with h4 | ⟨h4, rfl, rfl⟩ | ⟨h4, rfl, rfl⟩
        · exact .inl ⟨a, b, h4, h2, h3⟩
        · exact .inr (.inl ⟨h4, h2, h3⟩)
        · exact .inr (.inr ⟨h4, h2, h3⟩)
/-- a bar of a right grid is one between two open cells beside each other -/
structure GoodBars (h w : Nat) (B R D : List Bool) : Prop where
  r : ∀ i, i < h * w → gt R i = true → besIn h w i 0 ∧ besW w i 0 = i + 1 ∧ gt B i = false ∧ gt B (i + 1) = false
  d : ∀ i, i < h * w → gt D i = true → besIn h w i 1 ∧ besW w i 1 = i + w ∧ gt B i = false ∧ gt B (i + w) = false
theorem good_of_ok {g : Gd} (h : OkG g) : GoodBars g.H.toNat g.W.toNat g.B g.R g.D := by
  refine ⟨fun i hi hr => ?_, fun i hi hd => ?_⟩
  · obtain ⟨h1, h2⟩ := bes_right hi (ok_right h hi hr)
    have hb := ok_bar h hi
    unfold badAt at hb
    rw [show g.R.getD i false = true from hr] at hb
    simp only [Bool.true_and, Bool.or_eq_false_iff] at hb
    exact ⟨h1, h2, hb.1.1.1, hb.1.2⟩
  · obtain ⟨h1, h2⟩ := bes_down hi (ok_down h hi hd)
    have hb := ok_bar h hi
    unfold badAt at hb
    rw [show g.D.getD i false = true from hd] at hb
    simp only [Bool.true_and, Bool.or_eq_false_iff] at hb
    exact ⟨h1, h2, hb.2.1.1, hb.2.2⟩
/-- the bars of the turned grid come from bars of the grid -/
theorem edges_from {h w k : Nat} {B R D : List Bool} (hk : k < 8) (hg : GoodBars h w B R D) {a b : Nat} (he : Edges h w k R D (h * w) a b) :
    ∃ i d, i < h * w ∧ d < 2 ∧ besIn h w i d ∧ a = placeW h w k i ∧ b = placeW h w k (besW w i d) ∧ BarAt w (gt R) (gt D) i (besW w i d) ∧ gt B i = false ∧ gt B (besW w i d) = false := by
  obtain ⟨j, hj, ⟨h1, h2, h3⟩ | ⟨h1, h2, h3⟩⟩ := he
  · obtain ⟨k1, k2, k3, k4⟩ := hg.r j hj h1
    refine ⟨j, 0, hj, by omega, k1, h2, by rw [k2]; exact h3, ?_, k3, by rw [k2]; exact k4⟩
    rw [barAt_bar (by omega) hj k1, k2]
    unfold barB
    rw [show min j (j + 1) = j by omega]
    exact h1
  · obtain ⟨k1, k2, k3, k4⟩ := hg.d j hj h1
    refine ⟨j, 1, hj, by omega, k1, h2, by rw [k2]; exact h3, ?_, k3, by rw [k2]; exact k4⟩
    rw [barAt_bar (by omega) hj k1, k2]
    unfold barB
    rw [show min j (j + w) = j by omega]
    exact h1
theorem bars_turned {h w k : Nat} {B R D : List Bool} (hk : k < 8) (hg : GoodBars h w B R D) {i d : Nat} (hi : i < h * w) (hd : d < 4) (hin : besIn h w i d) :
    BarAt (widW h w k) (gt (turnN h w k B R D (h * w)).R) (gt (turnN h w k B R D (h * w)).D) (placeW h w k i) (placeW h w k (besW w i d)) ↔ BarAt w (gt R) (gt D) i (besW w i d) := by
  have hx := turn_exact (B := B) (R := R) (D := D) hk (h * w) (Nat.le_refl _)
  have key : ∀ {a b : Nat}, Edges h w k R D (h * w) a b → (RightP (widW h w k) a b ↔ RightP (widW h w k) (placeW h w k i) (placeW h w k (besW w i d))) → min a b = min (placeW h w k i) (placeW h w k (besW w i d)) → BarAt w (gt R) (gt D) i (besW w i d) := by
    intro a b he hr hm
    obtain ⟨i', d', hi', hd', hin', rfl, rfl, hb, _, _⟩ := edges_from hk hg he
    have s1 := beside_two (tau_lt k d') (place_lt2 hk hi') ((place_bes hk (by omega) hi').1.2 hin')
    have s2 := beside_two (tau_lt k d) (place_lt2 hk hi) ((place_bes hk hd hi).1.2 hin)
    rw [(place_bes hk (by omega) hi').2 hin'] at s1
    rw [(place_bes hk hd hi).2 hin] at s2
    rcases pair_same s1 s2 hr hm with ⟨e1, e2⟩ | ⟨e1, e2⟩
    · have f1 := place_inj hk hi' hi e1
      have f2 := place_inj hk (bes_lt hin') (bes_lt hin) e2
      rw [← f1] at f2 ⊢
      rw [← f2]
      exact hb
    · have f1 := place_inj hk hi' (bes_lt hin) e1
      have f2 := place_inj hk (bes_lt hin') hi e2
      rw [← f1, ← f2]
      exact hb.comm
  constructor
  · intro h1
    rcases barAt_iff.1 h1 with ⟨h2, h3⟩ | ⟨h2, h3⟩
    · obtain ⟨a, b, he, hr, hm⟩ := (hx.r _).1 h3
      exact key he ⟨fun _ => h2, fun _ => hr⟩ hm.symm
    · obtain ⟨a, b, he, hr, hm⟩ := (hx.d _).1 h3
      exact key he ⟨fun h => absurd h hr, fun h => absurd h h2⟩ hm.symm
  · intro h1
    have h2 := (barAt_bar hd hi hin).1 h1
    have hj := bes_lt hin
    -- the edge
    have he : Edges h w k R D (h * w) (placeW h w k i) (placeW h w k (besW w i d)) ∨ Edges h w k R D (h * w) (placeW h w k (besW w i d)) (placeW h w k i) := by
      have hf := bes_far hd hi hin
      unfold barB at h2
      rcases four hd with rfl | rfl | rfl | rfl
      · have e := (hf.1 rfl).1
        rw [if_pos (by omega), e, show min i (i + 1) = i by omega] at h2
        rw [e]
        exact .inl ⟨i, hi, .inl ⟨h2, rfl, rfl⟩⟩
      · have e := hf.2.1 rfl
        rw [if_neg (by omega), e, show min i (i + w) = i by omega] at h2
        rw [e]
        exact .inl ⟨i, hi, .inr ⟨h2, rfl, rfl⟩⟩
      · have e := (hf.2.2.1 rfl).1
        generalize besW w i 2 = j at *
        subst e
        rw [if_pos (by omega), show min (j + 1) j = j by omega] at h2
        exact .inr ⟨j, hj, .inl ⟨h2, rfl, rfl⟩⟩
      · have e := hf.2.2.2 rfl
        generalize besW w i 3 = j at *
        subst e
        rw [if_neg (by omega), show min (j + w) j = j by omega] at h2
        exact .inr ⟨j, hj, .inr ⟨h2, rfl, rfl⟩⟩
    have go : ∀ {a b : Nat}, Edges h w k R D (h * w) a b → BarAt (widW h w k) (gt (turnN h w k B R D (h * w)).R) (gt (turnN h w k B R D (h * w)).D) a b := by
      intro a b he
      by_cases hr : RightP (widW h w k) a b
      · exact barAt_iff.2 (.inl ⟨hr, (hx.r _).2 ⟨a, b, he, hr, rfl⟩⟩)
      · exact barAt_iff.2 (.inr ⟨hr, (hx.d _).2 ⟨a, b, he, hr, rfl⟩⟩)
    rcases he with he | he
    · exact go he
    · exact (go he).comm
/-- the steps of the turned grid are the grid's, turned -/
theorem st_turned {h w k : Nat} {B R D : List Bool} (hk : k < 8) (hg : GoodBars h w B R D) {i d : Nat} (hi : i < h * w) (hd : d < 4) :
    stW (higW h w k) (widW h w k) (gt (turnN h w k B R D (h * w)).B) (gt (turnN h w k B R D (h * w)).R) (gt (turnN h w k B R D (h * w)).D) (placeW h w k i) (tauW k d) = (stW h w (gt B) (gt R) (gt D) i d).map (placeW h w k) := by
  have hx := turn_exact (B := B) (R := R) (D := D) hk (h * w) (Nat.le_refl _)
  have hp := place_lt2 hk hi
  obtain ⟨b1, b2⟩ := place_bes (k := k) hk hd hi
  unfold stW
  rw [hx.b i hi]
  by_cases hb : gt B i = true
  · rw [if_pos (.inr hb), if_pos (.inr hb)]; rfl
  · have n1 : ¬ (higW h w k * widW h w k ≤ placeW h w k i ∨ gt B i = true) := fun h1 => by
      rcases h1 with h2 | h2
      · omega
      · exact hb h2
    have n2 : ¬ (h * w ≤ i ∨ gt B i = true) := fun h1 => by
      rcases h1 with h2 | h2
      · omega
      · exact hb h2
    rw [if_neg n1, if_neg n2]
    by_cases hin : besIn h w i d
    · rw [if_pos (b1.2 hin), if_pos hin, b2 hin, hx.b _ (bes_lt hin)]
      by_cases hbj : gt B (besW w i d) = true
      · rw [if_pos hbj, if_pos hbj]; rfl
      · rw [if_neg hbj, if_neg hbj]
        have e1 := barAt_bar (R := gt (turnN h w k B R D (h * w)).R) (D := gt (turnN h w k B R D (h * w)).D) (tau_lt k d) hp (b1.2 hin)
        rw [b2 hin] at e1
        have e2 := barAt_bar (R := gt R) (D := gt D) hd hi hin
        have e3 := bars_turned hk hg hi hd hin
        by_cases hbar : barB (gt R) (gt D) i (besW w i d) d = true
        · rw [if_pos (e1.1 (e3.2 (e2.2 hbar))), if_pos hbar]; rfl
        · rw [if_neg (fun h9 => hbar (e2.1 (e3.1 (e1.2 h9)))), if_neg hbar]; rfl
    · rw [if_neg (fun h9 => hin (b1.1 h9)), if_neg hin]; rfl
end Go.Proofs.YtonibpilbkafnaaDoor

/- Plain Lean: what a turn leaves as it is: how many slots of each length there are. -/
namespace Go.Proofs.YtonibpilbkafnaaDoor
set_option linter.unusedVariables false
set_option linter.unusedSimpArgs false

/-- how many numbers below n have p -/
def cnt (n : Nat) (p : Nat → Bool) : Nat := ((List.range n).filter p).length
theorem cnt_le {n m : Nat} {p q : Nat → Bool} (f : Nat → Nat) (h : ∀ i, i < n → p i = true → f i < m ∧ q (f i) = true) (inj : ∀ i j, i < n → j < n → p i = true → p j = true → f i = f j → i = j) : cnt n p ≤ cnt m q := by
  unfold cnt
  rw [← List.length_map (f := f)]
  refine List.Nodup.length_le_of_subset ?_ ?_
  · refine List.pairwise_map.2 ?_
    have hnd : ((List.range n).filter p).Nodup := List.nodup_range.filter _
    refine List.Pairwise.imp_of_mem ?_ hnd
    intro a b ha hb hab e
    obtain ⟨ha1, ha2⟩ := List.mem_filter.1 ha
    obtain ⟨hb1, hb2⟩ := List.mem_filter.1 hb
    exact hab (inj a b (List.mem_range.1 ha1) (List.mem_range.1 hb1) ha2 hb2 e)
  · intro x hx
    obtain ⟨i, hi, rfl⟩ := List.mem_map.1 hx
    obtain ⟨h1, h2⟩ := List.mem_filter.1 hi
    obtain ⟨h3, h4⟩ := h i (List.mem_range.1 h1) h2
    exact List.mem_filter.2 ⟨List.mem_range.2 h3, h4⟩
theorem cnt_not (n : Nat) (p : Nat → Bool) : cnt n p + cnt n (fun i => !p i) = n := by
  unfold cnt
  induction n with
  | zero => rfl
  | succ n ih =>
    rw [List.range_succ, List.filter_append, List.filter_append, List.length_append, List.length_append]
    cases h : p n <;> simp [h] <;> omega
theorem cnt_eq {n : Nat} {p q : Nat → Bool} (f : Nat → Nat) (lt : ∀ i, i < n → f i < n) (inj : ∀ i j, i < n → j < n → f i = f j → i = j) (h : ∀ i, i < n → q (f i) = p i) : cnt n q = cnt n p := by
  have h1 := cnt_le (p := p) (q := q) f (fun i hi hp => ⟨lt i hi, by rw [h i hi]; exact hp⟩) (fun i j hi hj _ _ e => inj i j hi hj e)
  have h2 := cnt_le (p := fun i => !p i) (q := fun i => !q i) f (fun i hi hp => ⟨lt i hi, by simp only [h i hi]; exact hp⟩) (fun i j hi hj _ _ e => inj i j hi hj e)
  have h3 := cnt_not n p
  have h4 := cnt_not n q
  omega
theorem cnt_succ (n : Nat) (p : Nat → Bool) : cnt (n + 1) p = cnt n p + (if p n then 1 else 0) := by
  unfold cnt
  rw [List.range_succ, List.filter_append, List.length_append]
  cases h : p n <;> simp [h]
theorem cnt_congr {n : Nat} {p q : Nat → Bool} (h : ∀ i, i < n → p i = q i) : cnt n p = cnt n q := by
  unfold cnt
  rw [List.filter_congr (fun i hi => h i (List.mem_range.1 hi))]
/-- steps on n cells -/
structure Steps4 (n : Nat) (st : Nat → Nat → Option Nat) : Prop where
  opp : ∀ i j d, d < 4 → st i d = some j → st j (opp d) = some i
  up : ∀ i j d, d < 2 → st i d = some j → i < j ∧ j < n
theorem steps4 (h w : Nat) (B R D : Nat → Bool) : Steps4 (h * w) (stW h w B R D) := ⟨fun i j d hd h => st_opp hd h, fun i j d hd h => st_up hd h⟩
theorem Steps4.down {n : Nat} {st : Nat → Nat → Option Nat} (h : Steps4 n st) {i j d : Nat} (hd : d < 4) (hd2 : 2 ≤ d) (hs : st i d = some j) : j < i ∧ i < n :=
  h.up j i (Go.Proofs.YtonibpilbkafnaaDoor.opp d) (by unfold Go.Proofs.YtonibpilbkafnaaDoor.opp; omega) (h.opp i j d hd hs)
theorem Steps4.lt {n : Nat} {st : Nat → Nat → Option Nat} (h : Steps4 n st) {i j d : Nat} (hd : d < 4) (hs : st i d = some j) : i < n ∧ j < n := by
  rcases Nat.lt_or_ge d 2 with h2 | h2
  · have := h.up i j d h2 hs; omega
  · have := h.down hd h2 hs; omega
theorem gath_chain_down {st : Nat → Nat → Option Nat} {d : Nat} (hdn : ∀ i j, st i d = some j → j < i) : ∀ (f i : Nat), i ≤ f → Chain st d (gath st d f i)
  | 0, i, h => by
    unfold gath Chain
    cases hs : st i d with
    | none => rfl
    | some j => have := hdn i j hs; omega
  | f + 1, i, h => by
    unfold gath
    cases hs : st i d with
    | none => exact hs
    | some j =>
      have hj := hdn i j hs
      have ih := gath_chain_down hdn f j (by omega)
      obtain ⟨l, hl⟩ := gath_cons st d f j
      simp only [hl] at ih ⊢
      exact ⟨hs, ih⟩
theorem Steps4.chain {n : Nat} {st : Nat → Nat → Option Nat} (h : Steps4 n st) {i d : Nat} (hd : d < 4) (hi : i < n) : Chain st d (gath st d n i) := by
  rcases Nat.lt_or_ge d 2 with h2 | h2
  · exact gath_chain (fun i j hs => h.up i j d h2 hs) n i (by omega)
  · exact gath_chain_down (fun i j hs => (h.down hd h2 hs).1) n i (by omega)
theorem gath_len1 (st : Nat → Nat → Option Nat) (d : Nat) : ∀ f i, (gath st d f i).length ≤ f + 1
  | 0, i => by simp [gath]
  | f + 1, i => by
    unfold gath
    cases st i d with
    | none => simp
    | some j => have := gath_len1 st d f j; simp only [List.length_cons]; omega
theorem chain_mem {n : Nat} {st : Nat → Nat → Option Nat} (h : Steps4 n st) {d : Nat} (hd : d < 4) : ∀ (l : List Nat) (i : Nat), i < n → Chain st d (i :: l) → ∀ x ∈ i :: l, x < n
  | [], i, hi, _, x, hx => by rw [List.mem_singleton.1 hx]; exact hi
  | j :: l, i, hi, hc, x, hx => by
    rcases List.mem_cons.1 hx with rfl | hx
    · exact hi
    · exact chain_mem h hd l j (h.lt hd hc.1).2 hc.2 x hx
/-- the last cell of a slot begins the slot backwards -/
theorem gath_back {n : Nat} {st : Nat → Nat → Option Nat} (h : Steps4 n st) {i d : Nat} (hd : d < 4) (hi : i < n) (hb : Begins st d i) :
    ∃ j, j < n ∧ Begins st (opp d) j ∧ gath st (opp d) n j = (gath st d n i).reverse := by
  have hc := h.chain hd hi
  have hl := gath_len1 st d n i
  obtain ⟨l, e⟩ := gath_cons st d n i
  rw [e] at hc hl ⊢
  obtain ⟨hr, hend⟩ := (chain_iff l i).1 hc
  -- the slot has two cells
  cases l with
  | nil => exact absurd hc hb.goes
  | cons i2 l =>
    have hrev := run_reverse (fun a b hs => h.opp a b d hd hs) _ hr
    obtain ⟨j, m, hm⟩ : ∃ j m, (i :: i2 :: l).reverse = j :: m := by
      cases hx : (i :: i2 :: l).reverse with
      | nil => simp at hx
      | cons j m => exact ⟨j, m, rfl⟩
    have hlast : (i :: i2 :: l).getLast? = some j := by
      rw [← List.head?_reverse, hm]; rfl
    have hlast2 : (j :: m).getLast? = some i := by rw [← hm, List.getLast?_reverse]; rfl
    have hjm : j ∈ i :: i2 :: l := List.mem_of_getLast? hlast
    have hjn := chain_mem h hd _ i hi hc j hjm
    rw [hm] at hrev
    have hch : Chain st (opp d) (j :: m) := (chain_iff m j).2 ⟨hrev, fun x hx => by
      rw [hlast2] at hx
      injection hx with hx
      subst hx
      exact hb.start⟩
    have hml : m.length = l.length + 1 := by
      have := congrArg List.length hm
      rw [List.length_reverse] at this
      simp only [List.length_cons] at this
      omega
    have hg := chain_gath m j n hch (by simp only [List.length_cons] at hl; omega)
    refine ⟨j, hjn, ⟨by rw [opp_opp hd]; exact hend j hlast, ?_⟩, by rw [hg, hm]⟩
    cases m with
    | nil => simp at hml
    | cons j2 m => intro e2; rw [hch.1] at e2; cases e2
/-- a slot of length L begins there -/
def begL (st : Nat → Nat → Option Nat) (n L d i : Nat) : Bool := begB st i d && decide ((gath st d n i).length = L)
theorem bl_iff {st : Nat → Nat → Option Nat} {n L d i : Nat} : begL st n L d i = true ↔ Begins st d i ∧ (gath st d n i).length = L := by
  unfold begL
  rw [Bool.and_eq_true, begB_iff, decide_eq_true_eq]
theorem bl_back_le {n : Nat} {st : Nat → Nat → Option Nat} (h : Steps4 n st) {d : Nat} (hd : d < 4) (L : Nat) : cnt n (begL st n L d) ≤ cnt n (begL st n L (opp d)) := by
  refine cnt_le (fun i => (gath st d n i).getLast?.getD 0) ?_ ?_
  · intro i hi hp
    obtain ⟨hb, hl⟩ := bl_iff.1 hp
    obtain ⟨j, hj, hb2, hg⟩ := gath_back h hd hi hb
    have e : (gath st d n i).getLast? = some j := by
      obtain ⟨m, hm⟩ := gath_cons st (opp d) n j
      rw [← List.head?_reverse, ← hg, hm]; rfl
    simp only [e, Option.getD_some]
    exact ⟨hj, bl_iff.2 ⟨hb2, by rw [hg, List.length_reverse]; exact hl⟩⟩
  · intro i i' hi hi' hp hp' e
    obtain ⟨hb, _⟩ := bl_iff.1 hp
    obtain ⟨hb', _⟩ := bl_iff.1 hp'
    obtain ⟨j, hj, _, hg⟩ := gath_back h hd hi hb
    obtain ⟨j', hj', _, hg'⟩ := gath_back h hd hi' hb'
    have e1 : (gath st d n i).getLast? = some j := by
      obtain ⟨m, hm⟩ := gath_cons st (opp d) n j
      rw [← List.head?_reverse, ← hg, hm]; rfl
    have e2 : (gath st d n i').getLast? = some j' := by
      obtain ⟨m, hm⟩ := gath_cons st (opp d) n j'
      rw [← List.head?_reverse, ← hg', hm]; rfl
    simp only [e1, e2, Option.getD_some] at e
    subst e
    rw [hg] at hg'
    have := congrArg List.reverse hg'
    rw [List.reverse_reverse, List.reverse_reverse] at this
    obtain ⟨m, hm⟩ := gath_cons st d n i
    obtain ⟨m', hm'⟩ := gath_cons st d n i'
    rw [hm, hm'] at this
    injection this
theorem bl_back {n : Nat} {st : Nat → Nat → Option Nat} (h : Steps4 n st) {d : Nat} (hd : d < 4) (L : Nat) : cnt n (begL st n L (opp d)) = cnt n (begL st n L d) := by
  have h1 := bl_back_le h hd L
  have h2 := bl_back_le h (opp_lt d) L
  rw [opp_opp hd] at h2
  omega
/-- a turn's doing with the steps -/
structure IsoS (n : Nat) (s1 s2 : Nat → Nat → Option Nat) (f : Nat → Nat) (k : Nat) : Prop where
  k8 : k < 8
  lt : ∀ i, i < n → f i < n
  inj : ∀ i j, i < n → j < n → f i = f j → i = j
  st : ∀ i d, i < n → d < 4 → s2 (f i) (tauW k d) = (s1 i d).map f
theorem gath_iso {n k : Nat} {s1 s2 : Nat → Nat → Option Nat} {f : Nat → Nat} (h : IsoS n s1 s2 f k) (h1 : Steps4 n s1) {d : Nat} (hd : d < 4) : ∀ m i, i < n → gath s2 (tauW k d) m (f i) = (gath s1 d m i).map f
  | 0, i, hi => rfl
  | m + 1, i, hi => by
    unfold gath
    rw [h.st i d hi hd]
    cases hs : s1 i d with
    | none => rfl
    | some j =>
      simp only [Option.map_some, List.map_cons]
      rw [gath_iso h h1 hd m j (h1.lt hd hs).2]
theorem begB_iso {n k : Nat} {s1 s2 : Nat → Nat → Option Nat} {f : Nat → Nat} (h : IsoS n s1 s2 f k) {d i : Nat} (hd : d < 4) (hi : i < n) : begB s2 (f i) (tauW k d) = begB s1 i d := by
  unfold begB
  rw [← tau_opp h.k8 hd, h.st i d hi hd, h.st i (opp d) hi (opp_lt d)]
  cases s1 i d <;> cases s1 i (opp d) <;> rfl
theorem bl_iso {n k : Nat} {s1 s2 : Nat → Nat → Option Nat} {f : Nat → Nat} (h : IsoS n s1 s2 f k) (h1 : Steps4 n s1) {d : Nat} (hd : d < 4) (L : Nat) : cnt n (begL s2 n L (tauW k d)) = cnt n (begL s1 n L d) := by
  refine cnt_eq f h.lt h.inj fun i hi => ?_
  unfold begL
  rw [begB_iso h hd hi, gath_iso h h1 hd n i hi, List.length_map]
/-- as many slots of each length -/
theorem slots_iso {n k : Nat} {s1 s2 : Nat → Nat → Option Nat} {f : Nat → Nat} (h : IsoS n s1 s2 f k) (h1 : Steps4 n s1) (h2 : Steps4 n s2) (L : Nat) : cnt n (begL s2 n L 0) + cnt n (begL s2 n L 1) = cnt n (begL s1 n L 0) + cnt n (begL s1 n L 1) := by
  have a0 := bl_iso h h1 (show 0 < 4 by omega) L
  have a1 := bl_iso h h1 (show 1 < 4 by omega) L
  have b0 : cnt n (begL s2 n L 2) = cnt n (begL s2 n L 0) := bl_back h2 (show 0 < 4 by omega) L
  have b1 : cnt n (begL s2 n L 3) = cnt n (begL s2 n L 1) := bl_back h2 (show 1 < 4 by omega) L
  rcases eight h.k8 with rfl | rfl | rfl | rfl | rfl | rfl | rfl | rfl
  all_goals simp [tauW] at a0 a1
  all_goals omega
end Go.Proofs.YtonibpilbkafnaaDoor

/- Plain Lean: slots' lengths counted and bounded; crossings. -/
namespace Go.Proofs.YtonibpilbkafnaaDoor
set_option linter.unusedVariables false
set_option linter.unusedSimpArgs false

/-- how many slots of a list are so long -/
def lenC (l : List (Bool × List Nat)) (L : Nat) : Nat := (l.filter fun s => decide (s.2.length = L)).length
theorem lenC_append (a b : List (Bool × List Nat)) (L : Nat) : lenC (a ++ b) L = lenC a L + lenC b L := by unfold lenC; rw [List.filter_append, List.length_append]
theorem lenC_slotW (st : Nat → Nat → Option Nat) (n i d L : Nat) : lenC (slotW st n i d) L = if begL st n L d i then 1 else 0 := by
  unfold lenC slotW begL
  cases begB st i d
  · simp
  · simp only [if_true, Bool.true_and, List.filter_cons, List.filter_nil, decide_eq_true_eq]
    split <;> rfl
theorem lenC_slotsL (st : Nat → Nat → Option Nat) (n L : Nat) : ∀ i, lenC (slotsL st n i) L = cnt i (begL st n L 0) + cnt i (begL st n L 1)
  | 0 => rfl
  | i + 1 => by
    show lenC (slotsL st n i ++ slotW st n i 0 ++ slotW st n i 1) L = _
    rw [lenC_append, lenC_append, lenC_slotsL st n L i, lenC_slotW, lenC_slotW, cnt_succ, cnt_succ]
    omega
theorem mem_slotW {st : Nat → Nat → Option Nat} {n i d : Nat} {s : Bool × List Nat} (h : s ∈ slotW st n i d) : Begins st d i ∧ s = (decide (d = 1), gath st d n i) := by
  unfold slotW at h
  split at h
  · rename_i hb
    exact ⟨begB_iff.1 hb, List.mem_singleton.1 h⟩
  · cases h
theorem mem_slotsL {st : Nat → Nat → Option Nat} {n : Nat} : ∀ {m : Nat} {s : Bool × List Nat}, s ∈ slotsL st n m ↔ ∃ i d, i < m ∧ d < 2 ∧ Begins st d i ∧ s = (decide (d = 1), gath st d n i)
  | 0, s => ⟨(fun h => by cases h), (fun ⟨i, d, hi, _⟩ => by omega)⟩
  | m + 1, s => by
    show s ∈ slotsL st n m ++ slotW st n m 0 ++ slotW st n m 1 ↔ _
    rw [List.mem_append, List.mem_append, mem_slotsL]
    constructor
    · rintro ((⟨i, d, h1, h2, h3, h4⟩ | h) | h)
      · exact ⟨i, d, by omega, h2, h3, h4⟩
      · obtain ⟨h1, h2⟩ := mem_slotW h
        exact ⟨m, 0, by omega, by omega, h1, h2⟩
      · obtain ⟨h1, h2⟩ := mem_slotW h
        exact ⟨m, 1, by omega, by omega, h1, h2⟩
    · rintro ⟨i, d, h1, h2, h3, rfl⟩
      rcases Nat.lt_or_ge i m with h4 | h4
      · exact .inl (.inl ⟨i, d, h4, h2, h3, rfl⟩)
      · obtain rfl : i = m := by omega
        rcases (by omega : d = 0 ∨ d = 1) with rfl | rfl
        · exact .inl (.inr (by unfold slotW; rw [if_pos (begB_iff.2 h3)]; exact List.mem_singleton.2 rfl))
        · exact .inr (by unfold slotW; rw [if_pos (begB_iff.2 h3)]; exact List.mem_singleton.2 rfl)
theorem begins_two {st : Nat → Nat → Option Nat} {d n i : Nat} (hn : 0 < n) (hb : Begins st d i) : 2 ≤ (gath st d n i).length := by
  obtain ⟨m, rfl⟩ : ∃ m, n = m + 1 := ⟨n - 1, by omega⟩
  unfold gath
  cases hs : st i d with
  | none => exact absurd hs hb.goes
  | some j =>
    obtain ⟨l, hl⟩ := gath_cons st d m j
    simp only [hl, List.length_cons]
    omega
theorem gath_row {h w : Nat} {B R D : Nat → Bool} : ∀ f i, i < h * w → (gath (stW h w B R D) 0 f i).length + i % w ≤ w
  | 0, i, hi => by
    have := Nat.mod_lt i (pos_w hi)
    simp only [gath, List.length_singleton]; omega
  | f + 1, i, hi => by
    have hw := pos_w hi
    have hm := Nat.mod_lt i hw
    unfold gath
    cases hs : stW h w B R D i 0 with
    | none => simp only [List.length_singleton]; omega
    | some j =>
      obtain ⟨h1, h2, h3, h4, h5, h6⟩ := st_some hs
      obtain ⟨e, hne⟩ := (bes_far (by omega) h1 h3).1 rfl
      rw [← h4] at e
      subst e
      have ih := gath_row (B := B) (R := R) (D := D) f (i + 1) (st_up (by omega) hs).2
      have hmm : (i + 1) % w = i % w + 1 := by
        rw [Nat.add_mod]
        rcases Nat.lt_or_ge 1 w with h9 | h9
        · rw [Nat.mod_eq_of_lt h9]
          rcases Nat.lt_or_ge (i % w + 1) w with h8 | h8
          · exact Nat.mod_eq_of_lt h8
          · exfalso; apply hne
            rw [Nat.add_mod, Nat.mod_eq_of_lt h9, show i % w + 1 = w by omega, Nat.mod_self]
        · exfalso; apply hne
          rw [show w = 1 by omega, Nat.mod_one]
      simp only [List.length_cons]
      omega
theorem gath_col {h w : Nat} {B R D : Nat → Bool} : ∀ f i, i < h * w → (gath (stW h w B R D) 1 f i).length + i / w ≤ h
  | 0, i, hi => by
    have : i / w < h := by rw [Nat.div_lt_iff_lt_mul (pos_w hi)]; exact hi
    simp only [gath, List.length_singleton]; omega
  | f + 1, i, hi => by
    have hw := pos_w hi
    have hm : i / w < h := by rw [Nat.div_lt_iff_lt_mul hw]; exact hi
    unfold gath
    cases hs : stW h w B R D i 1 with
    | none => simp only [List.length_singleton]; omega
    | some j =>
      obtain ⟨h1, h2, h3, h4, h5, h6⟩ := st_some hs
      have e := (bes_far (by omega) h1 h3).2.1 rfl
      rw [← h4] at e
      subst e
      have ih := gath_col (B := B) (R := R) (D := D) f (i + w) (st_up (by omega) hs).2
      have hmm : (i + w) / w = i / w + 1 := Nat.add_div_right i hw
      simp only [List.length_cons]
      omega
/-- a slot of a grid of at most sixteen rows and columns has two to sixteen cells -/
theorem slot_len {h w : Nat} {B R D : Nat → Bool} (hh : h ≤ 16) (hw : w ≤ 16) {s : Bool × List Nat} (hs : s ∈ slotsL (stW h w B R D) (h * w) (h * w)) : 2 ≤ s.2.length ∧ s.2.length ≤ 16 := by
  obtain ⟨i, d, hi, hd, hb, rfl⟩ := mem_slotsL.1 hs
  refine ⟨begins_two (by omega) hb, ?_⟩
  rcases (by omega : d = 0 ∨ d = 1) with rfl | rfl
  · have := gath_row (B := B) (R := R) (D := D) (h * w) i hi
    show (gath _ 0 _ i).length ≤ 16
    generalize i % w = q at *
    omega
  · have := gath_col (B := B) (R := R) (D := D) (h * w) i hi
    show (gath _ 1 _ i).length ≤ 16
    generalize i / w = q at *
    omega
/-- does a cell lie in a slot of a way? -/
def InSlot (st : Nat → Nat → Option Nat) (n d i : Nat) : Prop := ∃ i0, i0 < n ∧ Begins st d i0 ∧ i ∈ gath st d n i0
theorem chain_next {st : Nat → Nat → Option Nat} {d : Nat} : ∀ {l : List Nat}, Chain st d l → ∀ {x y : Nat}, x ∈ l → st x d = some y → y ∈ l
  | [], h, x, y, hx, _ => by cases hx
  | [i], h, x, y, hx, hs => by
    have h1 : st i d = none := h
    rw [List.mem_singleton.1 hx, h1] at hs; cases hs
  | i :: j :: l, h, x, y, hx, hs => by
    rcases List.mem_cons.1 hx with rfl | hx
    · rw [h.1] at hs; injection hs with hs; subst hs; exact List.mem_cons_of_mem _ (List.mem_cons_self ..)
    · exact List.mem_cons_of_mem _ (chain_next h.2 hx hs)
theorem chain_prev {st : Nat → Nat → Option Nat} {d : Nat} : ∀ {l : List Nat} {i : Nat}, Chain st d (i :: l) → ∀ {x : Nat}, x ∈ l → ∃ y, st y d = some x
  | [], i, h, x, hx => by cases hx
  | j :: l, i, h, x, hx => by
    rcases List.mem_cons.1 hx with rfl | hx
    · exact ⟨i, h.1⟩
    · exact chain_prev h.2 hx
theorem inSlot_iff {n : Nat} {st : Nat → Nat → Option Nat} (h : Steps4 n st) {d i : Nat} (hd : d < 2) (hi : i < n) : InSlot st n d i ↔ (st i d ≠ none ∨ st i (opp d) ≠ none) := by
  have hd4 : d < 4 := by omega
  constructor
  · rintro ⟨i0, h0, hb, hm⟩
    have hc := h.chain hd4 h0
    obtain ⟨l, hl⟩ := gath_cons st d n i0
    rw [hl] at hc hm
    rcases List.mem_cons.1 hm with rfl | hm
    · exact .inl hb.goes
    · obtain ⟨y, hy⟩ := chain_prev hc hm
      exact .inr (by rw [h.opp _ _ _ hd4 hy]; simp)
  · have key : ∀ m i, i < m → i < n → (st i d ≠ none ∨ st i (opp d) ≠ none) → InSlot st n d i := by
      intro m
      induction m with
      | zero => intro i hi; omega
      | succ m ih =>
        intro i him hi hor
        cases ho : st i (opp d) with
        | none =>
          rcases hor with h1 | h1
          · obtain ⟨l, hl⟩ := gath_cons st d n i
            exact ⟨i, hi, ⟨ho, h1⟩, by rw [hl]; exact List.mem_cons_self ..⟩
          · exact absurd ho h1
        | some j =>
          have hj := h.opp _ _ _ (opp_lt d) ho
          rw [opp_opp hd4] at hj
          obtain ⟨u1, u2⟩ := h.up _ _ _ hd hj
          obtain ⟨i0, h0, hb, hm⟩ := ih j (by omega) (by omega) (.inl (by rw [hj]; simp))
          exact ⟨i0, h0, hb, chain_next (h.chain hd4 h0) hm hj⟩
    exact key (i + 1) i (by omega) hi
/-- does a cell lie in slots of both ways? -/
def cr (st : Nat → Nat → Option Nat) (i : Nat) : Bool := ((st i 0).isSome || (st i 2).isSome) && ((st i 1).isSome || (st i 3).isSome)
theorem inSlot_bool {n : Nat} {st : Nat → Nat → Option Nat} (h : Steps4 n st) {i : Nat} (hi : i < n) : (InSlot st n 0 i ∧ InSlot st n 1 i) ↔ cr st i = true := by
  rw [inSlot_iff h (by omega) hi, inSlot_iff h (by omega) hi]
  unfold cr
  rw [Bool.and_eq_true, Bool.or_eq_true, Bool.or_eq_true, Option.isSome_iff_ne_none, Option.isSome_iff_ne_none, Option.isSome_iff_ne_none, Option.isSome_iff_ne_none]
  exact Iff.rfl
theorem cr_iso {n k : Nat} {s1 s2 : Nat → Nat → Option Nat} {f : Nat → Nat} (h : IsoS n s1 s2 f k) : cnt n (cr s2) = cnt n (cr s1) := by
  refine cnt_eq f h.lt h.inj fun i hi => ?_
  have e : ∀ d, d < 4 → (s2 (f i) (tauW k d)).isSome = (s1 i d).isSome := fun d hd => by rw [h.st i d hi hd]; cases s1 i d <;> rfl
  have e0 := e 0 (by omega)
  have e1 := e 1 (by omega)
  have e2 := e 2 (by omega)
  have e3 := e 3 (by omega)
  unfold cr
  rcases eight h.k8 with rfl | rfl | rfl | rfl | rfl | rfl | rfl | rfl
  all_goals simp [tauW] at e0 e1 e2 e3
  all_goals rw [← e0, ← e1, ← e2, ← e3]
  all_goals (generalize (s2 (f i) 0).isSome = a; generalize (s2 (f i) 1).isSome = b; generalize (s2 (f i) 2).isSome = c; generalize (s2 (f i) 3).isSome = d; cases a <;> cases b <;> cases c <;> cases d <;> rfl)
end Go.Proofs.YtonibpilbkafnaaDoor

/- Plain Lean: parts: cells that steps join; as many of them in the turned grid. -/
namespace Go.Proofs.YtonibpilbkafnaaDoor
set_option linter.unusedVariables false
set_option linter.unusedSimpArgs false

/-- joined by steps -/
inductive Conn (st : Nat → Nat → Option Nat) : Nat → Nat → Prop
  | refl (i : Nat) : Conn st i i
  | go {i j k d : Nat} (h : Conn st i j) (hd : d < 4) (hs : st j d = some k) : Conn st i k
theorem Conn.trans {st : Nat → Nat → Option Nat} {i j k : Nat} (h : Conn st i j) (h2 : Conn st j k) : Conn st i k := by
  induction h2 with
  | refl => exact h
  | go _ hd hs ih => exact .go ih hd hs
theorem Conn.symm {n : Nat} {st : Nat → Nat → Option Nat} (hS : Steps4 n st) {i j : Nat} (h : Conn st i j) : Conn st j i := by
  induction h with
  | refl => exact .refl _
  | go h1 hd hs ih => exact Conn.trans (.go (.refl _) (opp_lt _) (hS.opp _ _ _ hd hs)) ih
theorem Conn.lt {n : Nat} {st : Nat → Nat → Option Nat} (hS : Steps4 n st) {i j : Nat} (h : Conn st i j) (hi : i < n) : j < n := by
  induction h with
  | refl => exact hi
  | go h1 hd hs ih => exact (hS.lt hd hs).2
/-- the first cell of its part -/
def First (st : Nat → Nat → Option Nat) (i : Nat) : Prop := ∀ z, z < i → ¬ Conn st z i
theorem least {p : Nat → Prop} : ∀ m, p m → ∃ z, z ≤ m ∧ p z ∧ ∀ x, x < z → ¬ p x := by
  intro m
  induction m using Nat.strongRecOn with
  | _ m ih =>
    intro hm
    by_cases h : ∃ x, x < m ∧ p x
    · obtain ⟨x, hx, hp⟩ := h
      obtain ⟨z, hz, h1, h2⟩ := ih x hx hp
      exact ⟨z, by omega, h1, h2⟩
    · exact ⟨m, Nat.le_refl _, hm, fun x hx hp => h ⟨x, hx, hp⟩⟩
open Classical in
/-- how many parts there are -/
noncomputable def parts (n : Nat) (op : Nat → Bool) (st : Nat → Nat → Option Nat) : Nat := cnt n fun i => op i && decide (First st i)
/-- open cells stay among open cells -/
def Opens (op : Nat → Bool) (st : Nat → Nat → Option Nat) : Prop := ∀ i j d, d < 4 → st i d = some j → op i = true ∧ op j = true
theorem Conn.op {op : Nat → Bool} {st : Nat → Nat → Option Nat} (ho : Opens op st) {i j : Nat} (h : Conn st i j) (hi : op i = true) : op j = true := by
  induction h with
  | refl => exact hi
  | go h1 hd hs ih => exact (ho _ _ _ hd hs).2
open Classical in
theorem parts_le {n : Nat} {o1 o2 : Nat → Bool} {s1 s2 : Nat → Nat → Option Nat} (h2 : Steps4 n s2) (ho2 : Opens o2 s2) (g : Nat → Nat) (hg : ∀ i, i < n → o1 i = true → g i < n ∧ o2 (g i) = true)
    (hc : ∀ i j, i < n → j < n → Conn s2 (g i) (g j) → Conn s1 i j) : parts n o1 s1 ≤ parts n o2 s2 := by
  have hz : ∀ i, ∃ z, z ≤ g i ∧ Conn s2 (g i) z ∧ ∀ x, x < z → ¬ Conn s2 (g i) x := fun i => least (g i) (.refl _)
  refine cnt_le (fun i => Classical.choose (hz i)) ?_ ?_
  · intro i hi hp
    obtain ⟨h3, h4⟩ := (Bool.and_eq_true _ _).mp hp
    obtain ⟨k1, k2, k3⟩ := Classical.choose_spec (hz i)
    obtain ⟨g1, g2⟩ := hg i hi h3
    refine ⟨by omega, ?_⟩
    rw [Bool.and_eq_true, decide_eq_true_eq]
    exact ⟨k2.op ho2 g2, fun x hx hc2 => k3 x hx (k2.trans (hc2.symm h2))⟩
  · intro i j hi hj hp hq e
    obtain ⟨_, h4⟩ := (Bool.and_eq_true _ _).mp hp
    obtain ⟨_, h5⟩ := (Bool.and_eq_true _ _).mp hq
    have f1 : First s1 i := of_decide_eq_true h4
    have f2 : First s1 j := of_decide_eq_true h5
    obtain ⟨_, k2, _⟩ := Classical.choose_spec (hz i)
    obtain ⟨_, l2, _⟩ := Classical.choose_spec (hz j)
    rw [show Classical.choose (hz i) = Classical.choose (hz j) from e] at k2
    have c1 := hc i j hi hj (k2.trans (l2.symm h2))
    have c2 := hc j i hj hi (l2.trans (k2.symm h2))
    rcases (by omega : i < j ∨ i = j ∨ j < i) with h | h | h
    · exact absurd c1 (f2 i h)
    · exact h
    · exact absurd c2 (f1 j h)
theorem conn_iso {n k : Nat} {s1 s2 : Nat → Nat → Option Nat} {f : Nat → Nat} (h : IsoS n s1 s2 f k) (h1 : Steps4 n s1) {i j : Nat} (hi : i < n) (hc : Conn s1 i j) : Conn s2 (f i) (f j) := by
  induction hc with
  | refl => exact .refl _
  | go hx hd hs ih =>
    exact .go ih (tau_lt k _) (by rw [h.st _ _ (hx.lt h1 hi) hd, hs]; rfl)
theorem conn_iso_back {n k : Nat} {s1 s2 : Nat → Nat → Option Nat} {f : Nat → Nat} (h : IsoS n s1 s2 f k) (h1 : Steps4 n s1) {i y : Nat} (hi : i < n) (hc : Conn s2 (f i) y) : ∃ j, j < n ∧ y = f j ∧ Conn s1 i j := by
  generalize hx : f i = x at hc
  induction hc with
  | refl => exact ⟨i, hi, hx.symm, .refl _⟩
  | @go a b d hab hd hs ih =>
    obtain ⟨j, hj, e, hc⟩ := ih
    subst e
    obtain ⟨d0, hd0, rfl⟩ : ∃ d0, d0 < 4 ∧ tauW k d0 = d := ⟨tauW (bacW k) _, tau_lt _ _, (tau_back h.k8 hd).2⟩
    rw [h.st j d0 hj hd0] at hs
    cases hq : s1 j d0 with
    | none => rw [hq] at hs; cases hs
    | some j2 =>
      rw [hq] at hs
      injection hs with hs
      exact ⟨j2, (h1.lt hd0 hq).2, hs.symm, .go hc hd0 hq⟩
theorem parts_iso {n k : Nat} {o1 o2 : Nat → Bool} {s1 s2 : Nat → Nat → Option Nat} {f : Nat → Nat} (h : IsoS n s1 s2 f k) (h1 : Steps4 n s1) (h2 : Steps4 n s2) (ho1 : Opens o1 s1) (ho2 : Opens o2 s2) (ho : ∀ i, i < n → o2 (f i) = o1 i)
    (onto : ∀ y, y < n → ∃ i, i < n ∧ f i = y) : parts n o2 s2 = parts n o1 s1 := by
  have back : ∀ i j, i < n → j < n → Conn s2 (f i) (f j) → Conn s1 i j := by
    intro i j hi hj hc
    obtain ⟨j', hj', e, hc'⟩ := conn_iso_back h h1 hi hc
    rw [h.inj j j' hj hj' e]
    exact hc'
  have le1 : parts n o1 s1 ≤ parts n o2 s2 := parts_le h2 ho2 f (fun i hi hp => ⟨h.lt i hi, by rw [ho i hi]; exact hp⟩) back
  have hg : ∀ y, ∃ i, y < n → i < n ∧ f i = y := by
    intro y
    by_cases hy : y < n
    · obtain ⟨i, h3, h4⟩ := onto y hy; exact ⟨i, fun _ => ⟨h3, h4⟩⟩
    · exact ⟨0, fun h => absurd h hy⟩
  have hgs := fun y => Classical.choose_spec (hg y)
  have le2 : parts n o2 s2 ≤ parts n o1 s1 := by
    refine parts_le h1 ho1 (fun y => Classical.choose (hg y)) ?_ ?_
    · intro y hy hp
      obtain ⟨h3, h4⟩ := hgs y hy
      refine ⟨h3, ?_⟩
      rw [← ho _ h3, h4]
      exact hp
    · intro y y' hy hy' hc
      obtain ⟨h3, h4⟩ := hgs y hy
      obtain ⟨h5, h6⟩ := hgs y' hy'
      have := conn_iso h h1 h3 hc
      rw [h4, h6] at this
      exact this
  omega
theorem opens_stW (h w : Nat) (B R D : Nat → Bool) : Opens (fun i => !B i) (stW h w B R D) := by
  intro i j d hd hs
  obtain ⟨h1, h2, h3, h4, h5, h6⟩ := st_some hs
  exact ⟨by simpa using h2, by simpa using h5⟩
/-- a turn's doing with a grid's steps -/
theorem iso_turned {h w k : Nat} {B R D : List Bool} (hk : k < 8) (hg : GoodBars h w B R D) : IsoS (h * w) (stW h w (gt B) (gt R) (gt D)) (stW (higW h w k) (widW h w k) (gt (turnN h w k B R D (h * w)).B) (gt (turnN h w k B R D (h * w)).R) (gt (turnN h w k B R D (h * w)).D)) (placeW h w k) k :=
  ⟨hk, fun i hi => place_lt hk hi, fun i j hi hj e => place_inj hk hi hj e, fun i d hi hd => st_turned hk hg hi hd⟩
theorem steps_turned {h w k : Nat} (B R D : Nat → Bool) : Steps4 (h * w) (stW (higW h w k) (widW h w k) B R D) := by
  have := steps4 (higW h w k) (widW h w k) B R D
  rwa [hig_wid] at this
end Go.Proofs.YtonibpilbkafnaaDoor

/- Plain Lean: the turned grid is a right grid; what it has in common with the grid. -/
namespace Go.Proofs.YtonibpilbkafnaaDoor
set_option linter.unusedVariables false
set_option linter.unusedSimpArgs false

abbrev gN (g : Gd) : Nat := g.H.toNat * g.W.toNat
abbrev gS (g : Gd) : Nat → Nat → Option Nat := stW g.H.toNat g.W.toNat (gt g.B) (gt g.R) (gt g.D)
theorem turnG_H (g : Gd) (k : Nat) : (turnG g k).H.toNat = higW g.H.toNat g.W.toNat k := by
  unfold turnG higW
  by_cases h : k % 2 = 1 <;> simp only [h, if_true, if_false]
theorem turnG_W (g : Gd) (k : Nat) : (turnG g k).W.toNat = widW g.H.toNat g.W.toNat k := by
  unfold turnG widW
  by_cases h : k % 2 = 1 <;> simp only [h, if_true, if_false]
theorem turnG_N (g : Gd) (k : Nat) : gN (turnG g k) = gN g := by
  show (turnG g k).H.toNat * (turnG g k).W.toNat = _
  rw [turnG_H, turnG_W, hig_wid]
theorem ok_turned {g : Gd} (h : OkG g) {k : Nat} (hk : k < 8) : OkG (turnG g k) := by
  have hg := good_of_ok h
  have hx := turn_exact (h := g.H.toNat) (w := g.W.toNat) (B := g.B) (R := g.R) (D := g.D) hk (g.H.toNat * g.W.toNat) (Nat.le_refl _)
  have hl := turn_len g.H.toNat g.W.toNat k g.B g.R g.D (g.H.toNat * g.W.toNat)
  have eB : (turnG g k).B = (turnN g.H.toNat g.W.toNat k g.B g.R g.D (g.H.toNat * g.W.toNat)).B := rfl
  have eR : (turnG g k).R = (turnN g.H.toNat g.W.toNat k g.B g.R g.D (g.H.toNat * g.W.toNat)).R := rfl
  have eD : (turnG g k).D = (turnN g.H.toNat g.W.toNat k g.B g.R g.D (g.H.toNat * g.W.toNat)).D := rfl
  have hs : 1 ≤ (turnG g k).H ∧ (turnG g k).H ≤ 16 ∧ 1 ≤ (turnG g k).W ∧ (turnG g k).W ≤ 16 := by
    have h1 := h.h0; have h2 := h.h1; have h3 := h.w0; have h4 := h.w1
    unfold turnG
    by_cases ho : k % 2 = 1 <;> simp only [ho, if_true, if_false] <;> omega
  have hN := turnG_N g k
  refine ⟨hs.1, hs.2.1, hs.2.2.1, hs.2.2.2, ?_, ?_, ?_, ?_⟩
  · rw [eB, hl.1]; exact hN.symm
  · rw [eR, hl.2.1]; exact hN.symm
  · rw [eD, hl.2.2]; exact hN.symm
  · unfold barred
    rw [List.any_eq_false]
    intro x hxm
    have hxn : x < (turnG g k).H.toNat * (turnG g k).W.toNat := List.mem_range.1 hxm
    rw [turnG_H, turnG_W] at hxn ⊢
    rw [eB, eR, eD]
    generalize turnN g.H.toNat g.W.toNat k g.B g.R g.D (g.H.toNat * g.W.toNat) = t at *
    have hW := pos_w hxn
    have key : ∀ {a b : Nat}, Edges g.H.toNat g.W.toNat k g.R g.D (g.H.toNat * g.W.toNat) a b → x = min a b →
        gt t.B (min a b) = false ∧ gt t.B (max a b) = false ∧ max a b < higW g.H.toNat g.W.toNat k * widW g.H.toNat g.W.toNat k ∧ (RightP (widW g.H.toNat g.W.toNat k) a b ∨ (¬ RightP (widW g.H.toNat g.W.toNat k) a b ∧ max a b = min a b + widW g.H.toNat g.W.toNat k)) := by
      intro a b he hm
      obtain ⟨i, d, hi, hd, hin, rfl, rfl, hb, b1, b2⟩ := edges_from hk hg he
      have s1 := beside_two (tau_lt k d) (place_lt2 hk hi) ((place_bes hk (by omega) hi).1.2 hin)
      rw [(place_bes hk (by omega) hi).2 hin] at s1
      have c1 := (hx.b i hi).trans b1
      have c2 := (hx.b _ (bes_lt hin)).trans b2
      have l1 := place_lt2 (k := k) hk hi
      have l2 := place_lt2 (k := k) hk (bes_lt hin)
      refine ⟨?_, ?_, by omega, s1⟩
      · rcases Nat.le_total (placeW g.H.toNat g.W.toNat k i) (placeW g.H.toNat g.W.toNat k (besW g.W.toNat i d)) with h9 | h9
        · rw [Nat.min_eq_left h9]; exact c1
        · rw [Nat.min_eq_right h9]; exact c2
      · rcases Nat.le_total (placeW g.H.toNat g.W.toNat k i) (placeW g.H.toNat g.W.toNat k (besW g.W.toNat i d)) with h9 | h9
        · rw [Nat.max_eq_right h9]; exact c2
        · rw [Nat.max_eq_left h9]; exact c1
    unfold badAt
    rw [Bool.not_eq_true, Bool.or_eq_false_iff]
    constructor
    · cases hr : t.R.getD x false with
      | false => rfl
      | true =>
        obtain ⟨a, b, he, hp, hm⟩ := (hx.r x).1 hr
        obtain ⟨k1, k2, k3, k4⟩ := key he hm
        have e := hp.1
        rw [← hm] at k1 e
        rw [e] at k2
        have hne := hp.2
        rw [← hm] at hne
        rw [show t.B.getD x false = false from k1, show t.B.getD (x + 1) false = false from k2]
        simp only [Bool.true_and, Bool.or_false, Bool.false_or, decide_eq_false_iff_not]
        intro e9
        apply hne
        have hdm := Nat.div_add_mod x (widW g.H.toNat g.W.toNat k)
        rw [show x + 1 = widW g.H.toNat g.W.toNat k * (x / widW g.H.toNat g.W.toNat k + 1) by rw [Nat.mul_add, Nat.mul_one]; omega]
        exact Nat.mul_mod_right _ _
    · cases hd : t.D.getD x false with
      | false => rfl
      | true =>
        obtain ⟨a, b, he, hp, hm⟩ := (hx.d x).1 hd
        obtain ⟨k1, k2, k3, k4⟩ := key he hm
        have e : max a b = min a b + widW g.H.toNat g.W.toNat k := by
          rcases k4 with h9 | h9
          · exact absurd h9 hp
          · exact h9.2
        rw [← hm] at k1 e
        rw [e] at k2 k3
        rw [show t.B.getD x false = false from k1, show t.B.getD (x + widW g.H.toNat g.W.toNat k) false = false from k2]
        simp only [Bool.true_and, Bool.or_false, Bool.false_or, decide_eq_false_iff_not]
        intro e9
        have h8 : (x + widW g.H.toNat g.W.toNat k) / widW g.H.toNat g.W.toNat k < higW g.H.toNat g.W.toNat k := by rw [Nat.div_lt_iff_lt_mul hW]; exact k3
        rw [Nat.add_div_right _ hW] at h8
        omega
theorem gS_turned (g : Gd) (k : Nat) : gS (turnG g k) = stW (higW g.H.toNat g.W.toNat k) (widW g.H.toNat g.W.toNat k) (gt (turnN g.H.toNat g.W.toNat k g.B g.R g.D (g.H.toNat * g.W.toNat)).B) (gt (turnN g.H.toNat g.W.toNat k g.B g.R g.D (g.H.toNat * g.W.toNat)).R) (gt (turnN g.H.toNat g.W.toNat k g.B g.R g.D (g.H.toNat * g.W.toNat)).D) := by
  show stW (turnG g k).H.toNat (turnG g k).W.toNat _ _ _ = _
  rw [turnG_H, turnG_W]
  rfl
theorem iso_g {g : Gd} (h : OkG g) {k : Nat} (hk : k < 8) : IsoS (gN g) (gS g) (gS (turnG g k)) (placeW g.H.toNat g.W.toNat k) k := by
  rw [gS_turned]
  exact iso_turned hk (good_of_ok h)
theorem steps_g (g : Gd) : Steps4 (gN g) (gS g) := steps4 _ _ _ _ _
theorem steps_t (g : Gd) (k : Nat) : Steps4 (gN g) (gS (turnG g k)) := by
  have := steps_g (turnG g k)
  rwa [turnG_N] at this
/-- as many slots of each length -/
theorem lens_turned {g : Gd} (h : OkG g) {k : Nat} (hk : k < 8) (L : Nat) : lenC (slotsL (gS (turnG g k)) (gN (turnG g k)) (gN (turnG g k))) L = lenC (slotsL (gS g) (gN g) (gN g)) L := by
  rw [lenC_slotsL, lenC_slotsL, turnG_N]
  exact slots_iso (iso_g h hk) (steps_g g) (steps_t g k) L
theorem cross_turned {g : Gd} (h : OkG g) {k : Nat} (hk : k < 8) : cnt (gN (turnG g k)) (cr (gS (turnG g k))) = cnt (gN g) (cr (gS g)) := by
  rw [turnG_N]
  exact cr_iso (iso_g h hk)
theorem blocks_turned {g : Gd} {k : Nat} (hk : k < 8) (i : Nat) (hi : i < gN g) : gt (turnG g k).B (placeW g.H.toNat g.W.toNat k i) = gt g.B i :=
  (turn_exact (h := g.H.toNat) (w := g.W.toNat) (B := g.B) (R := g.R) (D := g.D) hk (g.H.toNat * g.W.toNat) (Nat.le_refl _)).b i hi
theorem count_turned {g : Gd} {k : Nat} (hk : k < 8) : cnt (gN (turnG g k)) (fun i => !gt (turnG g k).B i) = cnt (gN g) (fun i => !gt g.B i) := by
  rw [turnG_N]
  refine cnt_eq (placeW g.H.toNat g.W.toNat k) (fun i hi => place_lt hk hi) (fun i j hi hj e => place_inj hk hi hj e) fun i hi => ?_
  rw [blocks_turned hk i hi]
theorem parts_turned {g : Gd} (h : OkG g) {k : Nat} (hk : k < 8) : parts (gN (turnG g k)) (fun i => !gt (turnG g k).B i) (gS (turnG g k)) = parts (gN g) (fun i => !gt g.B i) (gS g) := by
  rw [turnG_N]
  refine parts_iso (iso_g h hk) (steps_g g) (steps_t g k) (opens_stW _ _ _ _ _) (opens_stW _ _ _ _ _) (fun i hi => by rw [blocks_turned hk i hi]) fun y hy => ?_
  obtain ⟨i, hi, e⟩ := place_onto (h := g.H.toNat) (w := g.W.toNat) (k := k) (j := y) hk (by rw [hig_wid]; exact hy)
  exact ⟨i, hi, e⟩
end Go.Proofs.YtonibpilbkafnaaDoor
