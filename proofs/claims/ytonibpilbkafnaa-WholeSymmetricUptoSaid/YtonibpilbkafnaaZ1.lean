/- Plain Lean: runs of steps, and how a symmetry takes them to runs. -/
import GoSem.ClaimData
namespace Go.Proofs.Ytonibpilbkafnaa
set_option linter.unusedVariables false
set_option linter.unusedSimpArgs false

/-- the opposite way -/
def opp (d : Nat) : Nat := (d + 2) % 4
theorem opp_lt (d : Nat) : opp d < 4 := Nat.mod_lt _ (by omega)
theorem opp_opp {d : Nat} (h : d < 4) : opp (opp d) = d := by unfold opp; omega
/-- the cells from one on, as far as the steps go -/
def gath (st : Nat → Nat → Option Nat) (d : Nat) : Nat → Nat → List Nat
  | 0, i => [i]
  | f + 1, i => match st i d with
    | none => [i]
    | some j => i :: gath st d f j
/-- a chain of steps to its end -/
def Chain (st : Nat → Nat → Option Nat) (d : Nat) : List Nat → Prop
  | [] => False
  | [i] => st i d = none
  | i :: j :: l => st i d = some j ∧ Chain st d (j :: l)
theorem gath_cons (st : Nat → Nat → Option Nat) (d f i : Nat) : ∃ l, gath st d f i = i :: l := by
  cases f with
  | zero => exact ⟨[], rfl⟩
  | succ f =>
    unfold gath
    cases st i d with
    | none => exact ⟨[], rfl⟩
    | some j => exact ⟨_, rfl⟩
/-- with fuel enough what is gathered is a chain -/
theorem gath_chain {st : Nat → Nat → Option Nat} {d n : Nat} (hup : ∀ i j, st i d = some j → i < j ∧ j < n) : ∀ (f i : Nat), n ≤ i + f + 1 → Chain st d (gath st d f i)
  | 0, i, h => by
    unfold gath Chain
    cases hs : st i d with
    | none => rfl
    | some j => have := hup i j hs; omega
  | f + 1, i, h => by
    unfold gath
    cases hs : st i d with
    | none => exact hs
    | some j =>
      have hj := hup i j hs
      have ih := gath_chain hup f j (by omega)
      obtain ⟨l, hl⟩ := gath_cons st d f j
      simp only [hl] at ih ⊢
      exact ⟨hs, ih⟩
/-- a chain is what is gathered from its head -/
theorem chain_gath {st : Nat → Nat → Option Nat} {d : Nat} : ∀ (l : List Nat) (i f : Nat), Chain st d (i :: l) → l.length ≤ f → gath st d f i = i :: l
  | [], i, f, h, hf => by
    have h1 : st i d = none := h
    cases f with
    | zero => rfl
    | succ f => unfold gath; rw [h1]
  | j :: l, i, 0, h, hf => by simp at hf
  | j :: l, i, f + 1, h, hf => by
    obtain ⟨h1, h2⟩ := h
    unfold gath
    rw [h1]
    simp only
    rw [chain_gath l j f h2 (by simpa using hf)]
/-- a chain under a symmetry -/
theorem chain_map {st : Nat → Nat → Option Nat} {σ : Nat → Nat} {d d' n : Nat} (hst : ∀ i, i < n → st (σ i) d' = (st i d).map σ) : ∀ l : List Nat, (∀ i ∈ l, i < n) → Chain st d l → Chain st d' (l.map σ)
  | [], _, h => h
  | [i], hn, h => by
    have h1 : st i d = none := h
    show st (σ i) d' = none
    rw [hst i (hn i (List.mem_cons_self ..)), h1]; rfl
  | i :: j :: l, hn, h => by
    obtain ⟨h1, h2⟩ := h
    refine ⟨?_, chain_map hst (j :: l) (fun x hx => hn x (List.mem_cons_of_mem _ hx)) h2⟩
    show st (σ i) d' = some (σ j)
    rw [hst i (hn i (List.mem_cons_self ..)), h1]; rfl
/-- a run without its end's word -/
def Run (st : Nat → Nat → Option Nat) (d : Nat) : List Nat → Prop
  | [] => True
  | [_] => True
  | i :: j :: l => st i d = some j ∧ Run st d (j :: l)
theorem chain_iff {st : Nat → Nat → Option Nat} {d : Nat} : ∀ (l : List Nat) (i : Nat), Chain st d (i :: l) ↔ Run st d (i :: l) ∧ ∀ x, (i :: l).getLast? = some x → st x d = none
  | [], i => ⟨fun h => ⟨trivial, fun x hx => by simp at hx; subst hx; exact h⟩, fun h => h.2 i rfl⟩
  | j :: l, i => by
    have ih := chain_iff (st := st) (d := d) l j
    constructor
    · rintro ⟨h1, h2⟩
      obtain ⟨h3, h4⟩ := ih.1 h2
      exact ⟨⟨h1, h3⟩, fun x hx => h4 x (by simpa using hx)⟩
    · rintro ⟨⟨h1, h2⟩, h3⟩
      exact ⟨h1, ih.2 ⟨h2, fun x hx => h3 x (by simpa using hx)⟩⟩
theorem run_append {st : Nat → Nat → Option Nat} {d : Nat} : ∀ (a : List Nat) (x y : Nat) (b : List Nat), Run st d (a ++ [x]) → st x d = some y → Run st d (y :: b) → Run st d (a ++ x :: y :: b)
  | [], x, y, b, _, h2, h3 => ⟨h2, h3⟩
  | [a0], x, y, b, h1, h2, h3 => ⟨h1.1, h2, h3⟩
  | a0 :: a1 :: a, x, y, b, h1, h2, h3 => ⟨h1.1, run_append (a1 :: a) x y b h1.2 h2 h3⟩
/-- a run backwards is a run the opposite way -/
theorem run_reverse {st : Nat → Nat → Option Nat} {d e : Nat} (hop : ∀ i j, st i d = some j → st j e = some i) : ∀ l : List Nat, Run st d l → Run st e l.reverse
  | [], _ => trivial
  | [i], _ => trivial
  | i :: j :: l, h => by
    have ih := run_reverse hop (j :: l) h.2
    rw [List.reverse_cons] at ih ⊢
    rw [List.reverse_cons, List.append_assoc]
    exact run_append l.reverse j i [] ih (hop i j h.1) trivial
/-- slots: where a run begins and goes on -/
structure Begins (st : Nat → Nat → Option Nat) (d i : Nat) : Prop where
  start : st i (opp d) = none
  goes : st i d ≠ none
/-- a symmetry takes a slot's cells to the cells of a slot -/
theorem slot_image {st : Nat → Nat → Option Nat} {σ τ : Nat → Nat} {n : Nat} (hst : ∀ i d, i < n → d < 4 → st (σ i) (τ d) = (st i d).map σ) (hτ : ∀ d, d < 4 → τ d < 4 ∧ τ (opp d) = opp (τ d))
    (hop : ∀ i j d, d < 4 → st i d = some j → st j (opp d) = some i) (hn : ∀ i j d, d < 2 → st i d = some j → i < j ∧ j < n) {i d : Nat} (hd : d < 2) (hi : i < n) (hb : Begins st d i) :
    ∃ i' d', d' < 2 ∧ Begins st d' i' ∧ ((gath st d' n i' = (gath st d n i).map σ) ∨ (gath st d' n i' = ((gath st d n i).map σ).reverse)) := by
  have hd4 : d < 4 := by omega
  have hc := gath_chain (n := n) (fun i j h => hn i j d hd h) n i (by omega)
  obtain ⟨l, hl⟩ := gath_cons st d n i
  have hlen : ∀ (f i : Nat), (gath st d f i).length ≤ f + 1 := by
    intro f
    induction f with
    | zero => intro i; simp [gath]
    | succ f ih =>
      intro i
      unfold gath
      cases hs : st i d with
      | none => simp
      | some j => have := ih j; simp only [List.length_cons]; omega
  have hln := hlen n i
  rw [hl] at hc hln
  have hmem : ∀ (l : List Nat) (i : Nat), i < n → Chain st d (i :: l) → ∀ x ∈ i :: l, x < n := by
    intro l
    induction l with
    | nil => intro i hi _ x hx; rw [List.mem_singleton.1 hx]; exact hi
    | cons j l ih =>
      intro i hi h x hx
      rcases List.mem_cons.1 hx with rfl | hx
      · exact hi
      · exact ih j (hn i j d hd h.1).2 h.2 x hx
  have hall := hmem l i hi hc
  have hm := chain_map (d' := τ d) (fun i h => hst i d h hd4) (i :: l) hall hc
  have hτd := hτ d hd4
  have hlm : (l.map σ).length ≤ n := by rw [List.length_map]; simp only [List.length_cons] at hln; omega
  have hs0 : st (σ i) (opp (τ d)) = none := by
    rw [← hτd.2, hst i (opp d) hi (opp_lt d), hb.start]; rfl
  have hs1 : st (σ i) (τ d) ≠ none := by
    rw [hst i d hi hd4]
    intro h
    cases hs : st i d with
    | none => exact hb.goes hs
    | some j => rw [hs] at h; cases h
  by_cases h2 : τ d < 2
  · refine ⟨σ i, τ d, h2, ⟨hs0, hs1⟩, .inl ?_⟩
    rw [hl]
    exact chain_gath (l.map σ) (σ i) n hm hlm
  · have ho : opp (τ d) < 2 := by have := hτd.1; unfold opp; omega
    obtain ⟨hrun, hlast⟩ := (chain_iff (l.map σ) (σ i)).1 hm
    have hrev := run_reverse (e := opp (τ d)) (fun a b h => hop a b (τ d) hτd.1 h) _ hrun
    have hne : (σ i :: l.map σ).reverse ≠ [] := by simp
    obtain ⟨x, r, hxr⟩ := List.exists_cons_of_ne_nil hne
    rw [hxr] at hrev
    have hx : (σ i :: l.map σ).getLast? = some x := by
      have h9 : (σ i :: l.map σ).reverse.head? = some x := by rw [hxr]; rfl
      rwa [List.head?_reverse] at h9
    have hend : ∀ y, (x :: r).getLast? = some y → st y (opp (τ d)) = none := by
      intro y hy
      rw [← hxr, List.getLast?_reverse] at hy
      have : y = σ i := by simpa using hy.symm
      rw [this]
      exact hs0
    have hch := (chain_iff r x).2 ⟨hrev, hend⟩
    have hrl : r.length = l.length := by
      have := congrArg List.length hxr
      simpa using this.symm
    refine ⟨x, opp (τ d), ho, ⟨by rw [opp_opp hτd.1]; exact hlast x hx, ?_⟩, .inr ?_⟩
    · intro hno
      cases r with
      | nil =>
        have : l = [] := List.length_eq_zero_iff.1 (by simpa using hrl.symm)
        subst this
        exact hb.goes hc
      | cons y r => rw [hch.1] at hno; cases hno
    · rw [hl]
      show _ = (σ i :: l.map σ).reverse
      rw [hxr]
      exact chain_gath r x n hch (by rw [hrl]; simpa using hlm)
end Go.Proofs.Ytonibpilbkafnaa
