/- Plain Lean: alphabets: the letter that is read at a place, how a text is split, in how many ways. -/
import Derived.Test.YtlkabghpcjlohaaP4
namespace Go.Proofs.Ytlkabghpcjlohaa
set_option linter.unusedVariables false
set_option linter.unusedSimpArgs false

abbrev nm (xs : List (List UInt8)) (i : Nat) : List UInt8 := xs.getD i []
/-- letter i stands at the head of a text -/
def std (xs : List (List UInt8)) (r : List UInt8) (i : Nat) : Bool := !(nm xs i).isEmpty && (nm xs i).isPrefixOf r
theorem std_iff {xs : List (List UInt8)} {r : List UInt8} {i : Nat} : std xs r i = true ↔ nm xs i ≠ [] ∧ nm xs i <+: r := by
  unfold std
  rw [Bool.and_eq_true, List.isPrefixOf_iff_prefix]
  simp
theorem std_lt {xs : List (List UInt8)} {r : List UInt8} {i : Nat} (h : std xs r i = true) : i < xs.length := by
  rcases Nat.lt_or_ge i xs.length with h1 | h1
  · exact h1
  · exact absurd (by unfold nm; simp [List.getD, List.getElem?_eq_none h1]) (std_iff.1 h).1
/-- of the letters told no two are one, none is empty -/
structure Lets (xs : List (List UInt8)) : Prop where
  nd : xs.Nodup
  ne : ∀ x ∈ xs, x ≠ []
theorem std_same {xs : List (List UInt8)} (hx : Lets xs) {r : List UInt8} {i j : Nat} (hi : std xs r i = true) (hj : std xs r j = true) (hl : (nm xs i).length = (nm xs j).length) : i = j := by
  have li := std_lt hi
  have lj := std_lt hj
  have h1 := (std_iff.1 hi).2
  have h2 := (std_iff.1 hj).2
  have e : nm xs i = nm xs j := by
    rw [List.prefix_iff_eq_take.1 h1, List.prefix_iff_eq_take.1 h2, hl]
  unfold nm at e
  simp only [List.getD, List.getElem?_eq_getElem li, List.getElem?_eq_getElem lj, Option.getD_some] at e
  have hp := List.pairwise_iff_getElem.1 hx.nd
  rcases Nat.lt_trichotomy i j with h | h | h
  · exact absurd e (hp i j li lj h)
  · exact h
  · exact absurd e.symm (hp j i lj li h)

/-- the longest of those that stand there -/
def Best (xs : List (List UInt8)) (r : List UInt8) : Option Nat → Prop
  | none => ∀ i, std xs r i = false
  | some b => std xs r b = true ∧ ∀ i, std xs r i = true → (nm xs i).length ≤ (nm xs b).length
theorem best_one {xs : List (List UInt8)} (hx : Lets xs) {r : List UInt8} : ∀ {a b : Option Nat}, Best xs r a → Best xs r b → a = b
  | none, none, _, _ => rfl
  | none, some b, h, h' => by have := h b; rw [h'.1] at this; cases this
  | some a, none, h, h' => by have := h' a; rw [h.1] at this; cases this
  | some a, some b, h, h' => by rw [std_same hx h.1 h'.1 (Nat.le_antisymm (h'.2 _ h.1) (h.2 _ h'.1))]

/-- an order of the letters, the longest first -/
structure Ord (xs : List (List UInt8)) (o : List Nat) : Prop where
  perm : o.Perm (List.range xs.length)
  dec : o.Pairwise fun i j => (nm xs j).length ≤ (nm xs i).length
def firstO (xs : List (List UInt8)) (o : List Nat) (r : List UInt8) : Option Nat := o.find? (std xs r)
theorem first_best {xs : List (List UInt8)} {o : List Nat} (ho : Ord xs o) (r : List UInt8) : Best xs r (firstO xs o r) := by
  unfold firstO
  cases h : o.find? (std xs r) with
  | none =>
    intro i
    cases hs : std xs r i with
    | false => rfl
    | true =>
      have hi := std_lt hs
      have hm : i ∈ o := ho.perm.mem_iff.2 (List.mem_range.2 hi)
      have := List.find?_eq_none.1 h i hm
      exact absurd hs this
  | some b =>
    obtain ⟨hb, as, bs, rfl, hno⟩ := List.find?_eq_some_iff_append.1 h
    refine ⟨hb, fun i hs => ?_⟩
    have hi := std_lt hs
    have hm := ho.perm.mem_iff.2 (List.mem_range.2 hi)
    rcases List.mem_append.1 hm with h1 | h1
    · have := hno i h1
      rw [hs] at this; cases this
    · rcases List.mem_cons.1 h1 with rfl | h2
      · exact Nat.le_refl _
      · have := (List.pairwise_append.1 ho.dec).2.1
        exact (List.pairwise_cons.1 this).1 i h2
/-- as the document tells it: gone through from the first letter on -/
def bestN (xs : List (List UInt8)) (r : List UInt8) : Nat → Option Nat
  | 0 => none
  | k + 1 => match bestN xs r k with
    | none => if std xs r k then some k else none
    | some b => if std xs r k && decide ((nm xs b).length < (nm xs k).length) then some k else some b
def BestN (xs : List (List UInt8)) (r : List UInt8) (k : Nat) : Option Nat → Prop
  | none => ∀ i, i < k → std xs r i = false
  | some b => std xs r b = true ∧ b < k ∧ ∀ i, i < k → std xs r i = true → (nm xs i).length ≤ (nm xs b).length
theorem bestN_is (xs : List (List UInt8)) (r : List UInt8) : ∀ k, BestN xs r k (bestN xs r k)
  | 0 => fun i hi => by omega
  | k + 1 => by
    have ih := bestN_is xs r k
    rw [bestN]
    cases hb : bestN xs r k with
    | none =>
      rw [hb] at ih
      simp only
      cases hs : std xs r k with
      | true =>
        rw [if_pos rfl]
        refine ⟨hs, by omega, fun i hi h => ?_⟩
        rcases Nat.lt_or_ge i k with h1 | h1
        · rw [ih i h1] at h; cases h
        · obtain rfl : i = k := by omega
          exact Nat.le_refl _
      | false =>
        rw [if_neg (by simp)]
        intro i hi
        rcases Nat.lt_or_ge i k with h1 | h1
        · exact ih i h1
        · obtain rfl : i = k := by omega
          exact hs
    | some b =>
      rw [hb] at ih
      simp only
      obtain ⟨i1, i2, i3⟩ := ih
      split
      · rename_i h
        simp only [Bool.and_eq_true, decide_eq_true_eq] at h
        refine ⟨h.1, by omega, fun i hi hs => ?_⟩
        rcases Nat.lt_or_ge i k with h1 | h1
        · have := i3 i h1 hs; omega
        · obtain rfl : i = k := by omega
          exact Nat.le_refl _
      · rename_i h
        simp only [Bool.and_eq_true, decide_eq_true_eq, not_and, Nat.not_lt] at h
        refine ⟨i1, by omega, fun i hi hs => ?_⟩
        rcases Nat.lt_or_ge i k with h1 | h1
        · exact i3 i h1 hs
        · obtain rfl : i = k := by omega
          exact h hs
def bestL (xs : List (List UInt8)) (r : List UInt8) : Option Nat := bestN xs r xs.length
theorem bestL_is (xs : List (List UInt8)) (r : List UInt8) : Best xs r (bestL xs r) := by
  have := bestN_is xs r xs.length
  unfold bestL
  cases h : bestN xs r xs.length with
  | none =>
    rw [h] at this
    intro i
    cases hs : std xs r i with
    | false => rfl
    | true => rw [this i (std_lt hs)] at hs; cases hs
  | some b =>
    rw [h] at this
    exact ⟨this.1, fun i hs => this.2.2 i (std_lt hs) hs⟩
theorem first_bestL {xs : List (List UInt8)} (hx : Lets xs) {o : List Nat} (ho : Ord xs o) (r : List UInt8) : firstO xs o r = bestL xs r := best_one hx (first_best ho r) (bestL_is xs r)

/-! ### Split -/
inductive Sp where
  | bad (left : Nat) (e : Int)
  | good (l : List Nat)
deriving DecidableEq
/-- gone on with, f letters more at most -/
def splitF (xs : List (List UInt8)) : Nat → List UInt8 → List Nat → Sp
  | f, [], acc => .good acc
  | 0, r, acc => .bad r.length 34
  | f + 1, r, acc => match bestL xs r with
    | none => .bad r.length 33
    | some i => splitF xs f (r.drop (nm xs i).length) (acc ++ [i])
def splitL (xs : List (List UInt8)) (s : List UInt8) : Sp := splitF xs 32 s []
theorem splitF_nil (xs : List (List UInt8)) (f : Nat) (acc : List Nat) : splitF xs f [] acc = .good acc := by cases f <;> rfl
theorem splitF_zero (xs : List (List UInt8)) {r : List UInt8} (hr : r ≠ []) (acc : List Nat) : splitF xs 0 r acc = .bad r.length 34 := by
  cases r with
  | nil => exact absurd rfl hr
  | cons b t => rfl
theorem splitF_none (xs : List (List UInt8)) (f : Nat) {r : List UInt8} (hr : r ≠ []) (acc : List Nat) (h : bestL xs r = none) : splitF xs (f + 1) r acc = .bad r.length 33 := by
  cases r with
  | nil => exact absurd rfl hr
  | cons b t => rw [splitF]; rw [h]; simp
theorem splitF_some (xs : List (List UInt8)) (f : Nat) {r : List UInt8} (hr : r ≠ []) (acc : List Nat) {i : Nat} (h : bestL xs r = some i) : splitF xs (f + 1) r acc = splitF xs f (r.drop (nm xs i).length) (acc ++ [i]) := by
  cases r with
  | nil => exact absurd rfl hr
  | cons b t => rw [splitF]; rw [h]; simp
/-! ### Join -/
def joinC (xs : List (List UInt8)) (l : List Nat) : List UInt8 := (l.map (nm xs)).flatten
theorem joinC_nil (xs : List (List UInt8)) : joinC xs [] = [] := rfl
theorem joinC_cons (xs : List (List UInt8)) (i : Nat) (l : List Nat) : joinC xs (i :: l) = nm xs i ++ joinC xs l := rfl
theorem joinC_snoc (xs : List (List UInt8)) (i : Nat) (l : List Nat) : joinC xs (l ++ [i]) = joinC xs l ++ nm xs i := by simp [joinC]
theorem std_drop {xs : List (List UInt8)} {r : List UInt8} {i : Nat} (h : std xs r i = true) : r = nm xs i ++ r.drop (nm xs i).length := by
  obtain ⟨t, ht⟩ := (std_iff.1 h).2
  rw [← ht]; simp
/-- what was split is joined to the same text, of numbers of letters, of at most f more -/
theorem split_join (xs : List (List UInt8)) : ∀ (f : Nat) (r : List UInt8) (acc l : List Nat), splitF xs f r acc = .good l → (∀ i ∈ acc, i < xs.length) → joinC xs l = joinC xs acc ++ r ∧ l.length ≤ acc.length + f ∧ ∀ i ∈ l, i < xs.length
  | f, [], acc, l, h, ha => by
    rw [splitF_nil] at h
    injection h with h; subst h
    exact ⟨by simp, by omega, ha⟩
  | 0, b :: t, acc, l, h, ha => by rw [splitF_zero xs (by simp)] at h; cases h
  | f + 1, b :: t, acc, l, h, ha => by
    cases hb : bestL xs (b :: t) with
    | none => rw [splitF_none xs f (by simp) acc hb] at h; cases h
    | some i =>
      rw [splitF_some xs f (by simp) acc hb] at h
      have hs := bestL_is xs (b :: t)
      rw [hb] at hs
      have hlt := std_lt hs.1
      obtain ⟨h1, h2, h3⟩ := split_join xs f _ _ l h (fun j hj => by
        rcases List.mem_append.1 hj with h | h
        · exact ha j h
        · rw [List.mem_singleton] at h; omega)
      refine ⟨?_, by rw [List.length_append, List.length_singleton] at h2; omega, h3⟩
      rw [h1, joinC_snoc, List.append_assoc, ← std_drop hs.1]
/-! ### ways -/
def maxWays : Nat := 100000
/-- what the letters of a list add, at most so much -/
def addAll (c : Nat → Nat) (p : Nat → Bool) (l : List Nat) (a : Nat) : Nat := l.foldl (fun a i => if p i then min (a + c i) maxWays else a) a
theorem addAll_eq (c : Nat → Nat) (p : Nat → Bool) : ∀ (l : List Nat) (a : Nat), a ≤ maxWays → addAll c p l a = min maxWays (a + (l.map fun i => if p i then c i else 0).sum)
  | [], a, h => by simp [addAll]; omega
  | i :: l, a, h => by
    have ih := addAll_eq c p l
    unfold addAll at ih ⊢
    rw [List.foldl_cons, List.map_cons, List.sum_cons]
    cases hp : p i with
    | true =>
      simp only [if_true]
      rw [ih _ (Nat.min_le_right _ _)]
      omega
    | false =>
      rw [if_neg (by simp), if_neg (by simp), ih a h]
      omega
theorem addAll_perm (c : Nat → Nat) (p : Nat → Bool) {l l' : List Nat} (h : l.Perm l') : addAll c p l 0 = addAll c p l' 0 := by
  rw [addAll_eq c p l 0 (Nat.zero_le _), addAll_eq c p l' 0 (Nat.zero_le _), (h.map _).sum_nat]
def cntF (xs : List (List UInt8)) : Nat → List UInt8 → Nat
  | _, [] => 1
  | 0, _ => 0
  | f + 1, r => addAll (fun i => cntF xs f (r.drop (nm xs i).length)) (std xs r) (List.range xs.length) 0
theorem cntF_nil (xs : List (List UInt8)) (f : Nat) : cntF xs f [] = 1 := by cases f <;> rfl
theorem cntF_cons (xs : List (List UInt8)) (f : Nat) {r : List UInt8} (hr : r ≠ []) : cntF xs (f + 1) r = addAll (fun i => cntF xs f (r.drop (nm xs i).length)) (std xs r) (List.range xs.length) 0 := by
  cases r with
  | nil => exact absurd rfl hr
  | cons b t => rw [cntF]; simp
theorem addAll_congr {c c' : Nat → Nat} {p : Nat → Bool} : ∀ (l : List Nat) (a : Nat), (∀ i ∈ l, p i = true → c i = c' i) → addAll c p l a = addAll c' p l a
  | [], a, _ => rfl
  | i :: l, a, h => by
    have ih := fun a => addAll_congr (c := c) (c' := c') (p := p) l a (fun j hj => h j (List.mem_cons_of_mem _ hj))
    unfold addAll at ih ⊢
    rw [List.foldl_cons, List.foldl_cons]
    cases hp : p i with
    | true => rw [if_pos rfl, if_pos rfl, h i (List.mem_cons_self ..) hp]; exact ih _
    | false => rw [if_neg (by simp), if_neg (by simp)]; exact ih _
theorem cntF_more (xs : List (List UInt8)) : ∀ (f g : Nat) (r : List UInt8), r.length ≤ f → r.length ≤ g → cntF xs f r = cntF xs g r
  | f, g, [], _, _ => by rw [cntF_nil, cntF_nil]
  | 0, g, b :: t, h, _ => by simp at h
  | f + 1, 0, b :: t, _, h => by simp at h
  | f + 1, g + 1, b :: t, h1, h2 => by
    rw [cntF_cons xs f (by simp), cntF_cons xs g (by simp)]
    refine addAll_congr _ _ fun i _ hs => ?_
    have hn := (std_iff.1 hs).1
    have hl : 1 ≤ (nm xs i).length := List.length_pos_iff.2 hn
    have hd : ((b :: t).drop (nm xs i).length).length ≤ t.length := by rw [List.length_drop, List.length_cons]; omega
    rw [List.length_cons] at h1 h2
    exact cntF_more xs f g _ (by omega) (by omega)
/-- in how many ways a text is letters, at most maxWays -/
def cntL (xs : List (List UInt8)) (r : List UInt8) : Nat := cntF xs r.length r
theorem cntL_nil (xs : List (List UInt8)) : cntL xs [] = 1 := rfl
theorem cntL_cons (xs : List (List UInt8)) {r : List UInt8} (hr : r ≠ []) : cntL xs r = addAll (fun i => cntL xs (r.drop (nm xs i).length)) (std xs r) (List.range xs.length) 0 := by
  unfold cntL
  obtain ⟨n, hn⟩ : ∃ n, r.length = n + 1 := ⟨r.length - 1, by have := List.length_pos_iff.2 hr; omega⟩
  rw [hn, cntF_cons xs n hr]
  refine addAll_congr _ _ fun i _ hs => ?_
  have hl : 1 ≤ (nm xs i).length := List.length_pos_iff.2 (std_iff.1 hs).1
  exact cntF_more xs _ _ _ (by rw [List.length_drop]; omega) (Nat.le_refl _)
theorem cntL_ord {xs : List (List UInt8)} {o : List Nat} (ho : Ord xs o) {r : List UInt8} (hr : r ≠ []) : cntL xs r = addAll (fun i => cntL xs (r.drop (nm xs i).length)) (std xs r) o 0 := by
  rw [cntL_cons xs hr]
  exact (addAll_perm _ _ ho.perm).symm
theorem cntL_le (xs : List (List UInt8)) (r : List UInt8) : cntL xs r ≤ maxWays := by
  cases r with
  | nil => rw [cntL_nil]; decide
  | cons b t =>
    rw [cntL_cons xs (by simp), addAll_eq _ _ _ _ (Nat.zero_le _)]
    exact Nat.min_le_left _ _
end Go.Proofs.Ytlkabghpcjlohaa
