/- The plain law of letters of one rune: a text of them has one way. -/
import Derived.Test.YtlkabghpcjlohaaJ1
namespace Go.Proofs.Ytlkabghpcjlohaa
set_option linter.unusedVariables false
set_option linter.unusedSimpArgs false
open Go.RowKit Go.Lib

theorem one_bad : cls (65533 : Int) ≠ 1 := by decide +kernel
theorem single_of {x : List UInt8} (h : rightL x = true) (h1 : (chop x).length = 1) : ∃ r : Int, x = enc r := by
  have hne := right_ne h
  have hc := chop_ne hne
  rw [hc, List.length_cons] at h1
  have hd : x.drop (wd x) = [] := by
    rcases Classical.em (x.drop (wd x) = []) with h2 | h2
    · exact h2
    · rw [chop_ne h2, List.length_cons] at h1; omega
  have ht : x.take (wd x) = x := by
    have := List.take_append_drop (wd x) x
    rw [hd, List.append_nil] at this
    exact this
  have hr : cls (rn x : Int) = 1 := by
    unfold rightL rightR at h
    rw [Bool.and_eq_true] at h
    have h2 := List.all_eq_true.1 h.2 (rn x) (by unfold runes; rw [hc]; simp)
    rw [Bool.and_eq_true] at h2
    exact of_decide_eq_true h2.1
  have hb : badHead x = false := by
    cases hb : badHead x with
    | false => rfl
    | true =>
      exfalso
      have : rn x = 65533 := by unfold badHead at hb; simp at hb; omega
      rw [this] at hr
      exact one_bad hr
  exact ⟨rn x, by rw [enc_rn x hne hb, ht]⟩
theorem single_pre {r r' : Int} {t : List UInt8} (h : enc r' <+: enc r ++ t) : enc r' = enc r := by
  obtain ⟨t', ht⟩ := h
  have h1 := chop_enc r t
  rw [← ht, chop_enc r' t'] at h1
  injection h1 with h2 _
  injection h2
/-- every letter is one rune -/
def Singles (xs : List (List UInt8)) : Prop := ∀ i, i < xs.length → ∃ r : Int, nm xs i = enc r
theorem std_single {xs : List (List UInt8)} (hL : Lets xs) (hs : Singles xs) {i : Nat} (hi : i < xs.length) (t : List UInt8) (j : Nat) : std xs (nm xs i ++ t) j = decide (j = i) := by
  have hii : std xs (nm xs i ++ t) i = true := std_iff.2 ⟨by rw [nm_lt hi]; exact hL.ne _ (List.getElem_mem hi), List.prefix_append _ _⟩
  rw [Bool.eq_iff_iff, decide_eq_true_eq]
  constructor
  · intro h
    have hj := std_lt h
    obtain ⟨r, hr⟩ := hs i hi
    obtain ⟨r', hr'⟩ := hs j hj
    have h2 := (std_iff.1 h).2
    rw [hr, hr'] at h2
    have h3 := single_pre h2
    exact std_same hL h hii (by rw [hr, hr', h3])
  · rintro rfl; exact hii
theorem best_single {xs : List (List UInt8)} (hL : Lets xs) (hs : Singles xs) {i : Nat} (hi : i < xs.length) (t : List UInt8) : bestL xs (nm xs i ++ t) = some i :=
  best_one hL (bestL_is _ _) ⟨by rw [std_single hL hs hi]; simp, fun j hj => by rw [std_single hL hs hi] at hj; simp at hj; rw [hj]; exact Nat.le_refl _⟩
theorem split_single {xs : List (List UInt8)} (hL : Lets xs) (hs : Singles xs) : ∀ (cs : List Nat), (∀ c ∈ cs, c < xs.length) → ∀ (f : Nat) (acc : List Nat), cs.length ≤ f → splitF xs f (joinC xs cs) acc = .good (acc ++ cs)
  | [], _, f, acc, _ => by rw [joinC_nil, splitF_nil, List.append_nil]
  | c :: cs, h, f, acc, hf => by
    obtain ⟨g, rfl⟩ : ∃ g, f = g + 1 := ⟨f - 1, by rw [List.length_cons] at hf; omega⟩
    have hc := h c (List.mem_cons_self ..)
    have hne : nm xs c ≠ [] := by rw [nm_lt hc]; exact hL.ne _ (List.getElem_mem hc)
    rw [joinC_cons, splitF_some xs g (List.append_ne_nil_of_left_ne_nil hne _) acc (best_single hL hs hc _), List.drop_left, split_single hL hs cs (fun a ha => h a (List.mem_cons_of_mem _ ha)) g _ (by rw [List.length_cons] at hf; omega)]
    simp
theorem sum_one (c : Nat → Nat) (i : Nat) : ∀ n, ((List.range n).map fun j => if decide (j = i) = true then c j else 0).sum = if i < n then c i else 0
  | 0 => by simp
  | n + 1 => by
    rw [List.range_succ, List.map_append, List.sum_append_nat, sum_one c i n]
    simp only [List.map_cons, List.map_nil, List.sum_cons, List.sum_nil, decide_eq_true_eq]
    by_cases h : n = i
    · subst h; simp
    · rw [if_neg h]
      by_cases h2 : i < n
      · rw [if_pos h2, if_pos (by omega)]; rfl
      · rw [if_neg h2, if_neg (by omega)]; rfl
theorem cnt_single {xs : List (List UInt8)} (hL : Lets xs) (hs : Singles xs) (t : List UInt8) : ∀ (cs : List Nat), (∀ c ∈ cs, c < xs.length) → cntL xs (joinC xs cs ++ t) = cntL xs t
  | [], _ => rfl
  | c :: cs, h => by
    have hc := h c (List.mem_cons_self ..)
    have hne : nm xs c ≠ [] := by rw [nm_lt hc]; exact hL.ne _ (List.getElem_mem hc)
    have ih := cnt_single hL hs t cs (fun a ha => h a (List.mem_cons_of_mem _ ha))
    have hle := cntL_le xs t
    rw [joinC_cons, List.append_assoc, cntL_cons xs (List.append_ne_nil_of_left_ne_nil hne _), addAll_eq _ _ _ _ (Nat.zero_le _)]
    have e : (fun j => if std xs (nm xs c ++ (joinC xs cs ++ t)) j = true then cntL xs ((nm xs c ++ (joinC xs cs ++ t)).drop (nm xs j).length) else 0) = fun j => if decide (j = c) = true then cntL xs ((nm xs c ++ (joinC xs cs ++ t)).drop (nm xs j).length) else 0 := by
      funext j; rw [std_single hL hs hc]
    rw [e, sum_one, if_pos hc, List.drop_left, ih]
    omega
theorem cnt_query {xs : List (List UInt8)} (hG : Good xs) : cntL xs [63] = 0 := by
  rw [cntL_cons xs (by simp), addAll_eq _ _ _ _ (Nat.zero_le _)]
  have e : (fun j => if std xs [63] j = true then cntL xs (([63] : List UInt8).drop (nm xs j).length) else 0) = fun _ => 0 := by
    funext j
    rw [if_neg]
    intro h
    have hj := std_lt h
    obtain ⟨h1, h2⟩ := std_iff.1 h
    have h3 : nm xs j = [63] := by
      obtain ⟨t, ht⟩ := h2
      cases hn : nm xs j with
      | nil => exact absurd hn h1
      | cons a l =>
        rw [hn] at ht
        simp at ht
        rw [ht.1, ht.2.1]
    have h4 := (hG.all j hj).1
    rw [h3] at h4
    exact absurd h4 (by decide +kernel)
  rw [e]
  have hz : ∀ l : List Nat, (l.map fun _ => 0).sum = 0 := fun l => by
    induction l with
    | nil => rfl
    | cons a l ih => rw [List.map_cons, List.sum_cons, ih]
  rw [hz]
  rfl
/-- all that the law asks of a list of numbers of letters -/
theorem singles_all {xs : List (List UInt8)} (hG : Good xs) (hs : Singles xs) {cs : List Int} (hc : okCells xs.length cs = true) (hl : cs.length ≤ 32) :
    joinB xs cs = ⟨(joinI xs cs).toArray⟩ ∧ joinE xs cs = 0 ∧ sureB xs cs = true ∧ cntL xs (joinI xs cs) = 1 ∧ cntL xs (joinI xs cs ++ [63]) = 0 := by
  have hm : ∀ c ∈ cs.map Int.toNat, c < xs.length := by
    intro c h
    obtain ⟨z, hz, rfl⟩ := List.mem_map.1 h
    have := okCells_iff.1 hc z hz
    omega
  refine ⟨by unfold joinB; rw [hc]; rfl, by unfold joinE; rw [hc]; rfl, ?_, ?_, ?_⟩
  · unfold sureB splitL joinI
    rw [hc, split_single hG.lets hs _ hm 32 [] (by rw [List.length_map]; exact hl)]
    simp only [List.nil_append, Bool.true_and]
    rcases okCells_back (n := xs.length) (cs := cs) with h | h
    · exact decide_eq_true h
    · rw [hc] at h; cases h
  · have := cnt_single hG.lets hs [] _ hm
    rw [List.append_nil, cntL_nil] at this
    exact this
  · have := cnt_single hG.lets hs [63] _ hm
    rw [cnt_query hG] at this
    exact this
end Go.Proofs.Ytlkabghpcjlohaa
