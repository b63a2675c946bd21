/- Plain Lean: what the law marks and finds. -/
import Derived.Test.YtonibpilbkafnaaZ5
namespace Go.Proofs.Ytonibpilbkafnaa
set_option linter.unusedVariables false
set_option linter.unusedSimpArgs false

/-- the marks of so many cells -/
def wentL (f : Nat → Nat) (s : List Nat) : List Bool := s.foldl (fun l c => l.set (f c) true) (List.replicate 256 false)
theorem wentL_snoc (f : Nat → Nat) (s : List Nat) (c : Nat) : wentL f (s ++ [c]) = (wentL f s).set (f c) true := by unfold wentL; rw [List.foldl_append]; rfl
theorem wentL_len (f : Nat → Nat) (s : List Nat) : (wentL f s).length = 256 := by
  unfold wentL
  have : ∀ (s : List Nat) (l : List Bool), l.length = 256 → (s.foldl (fun l c => l.set (f c) true) l).length = 256 := by
    intro s
    induction s with
    | nil => intro l h; exact h
    | cons c s ih => intro l h; exact ih _ (by rw [List.length_set]; exact h)
  exact this s _ List.length_replicate
theorem wentL_get (f : Nat → Nat) (s : List Nat) (x : Nat) (hx : x ∈ s) (hf : f x < 256) : (wentL f s).getD (f x) false = true := by
  have keep : ∀ (s : List Nat) (l : List Bool) (y : Nat), l.getD y false = true → (s.foldl (fun l c => l.set (f c) true) l).getD y false = true := by
    intro s
    induction s with
    | nil => intro l y h; exact h
    | cons c s ih => intro l y h; exact ih _ y (gt_up h)
  have : ∀ (s : List Nat) (l : List Bool), l.length = 256 → x ∈ s → (s.foldl (fun l c => l.set (f c) true) l).getD (f x) false = true := by
    intro s
    induction s with
    | nil => intro l _ h; cases h
    | cons c s ih =>
      intro l hl h
      rcases List.mem_cons.1 h with rfl | h
      · refine keep s _ _ ?_
        have := gt_set (l := l) (i := f x) (j := f x) (x := true) (by omega)
        rw [if_pos rfl] at this
        exact this
      · exact ih _ (by rw [List.length_set]; exact hl) h
  exact this s _ List.length_replicate hx
/-- are all cells of o marked, and are they as many? -/
def allB (W : List Bool) (n : Nat) (o : List Nat) : Bool := decide (o.length = n) && o.all fun c => W.getD c false
theorem all_snoc (W : List Bool) (a : Bool) (o : List Nat) (c : Nat) : ((a && o.all fun c => W.getD c false) && W.getD c false) = (a && (o ++ [c]).all fun c => W.getD c false) := by
  rw [List.all_append]; simp [Bool.and_assoc]
theorem found_any {h w k : Nat} {B R D : Nat → Bool} (hs : SymG h w k B R D) (hn : h * w ≤ 256) {s : List Nat} (hm : s ∈ slotsTo (stW h w B R D) (h * w) (h * w)) :
    (slotsTo (stW h w B R D) (h * w) (h * w)).any (allB (wentL (placeW h w k) s) s.length) = true := by
  obtain ⟨o, ho, hl, hc⟩ := slot_found hs hm
  refine List.any_eq_true.2 ⟨o, ho, ?_⟩
  unfold allB
  rw [Bool.and_eq_true]
  refine ⟨decide_eq_true hl, List.all_eq_true.2 fun c hcm => ?_⟩
  obtain ⟨x, hx, rfl⟩ := hc c hcm
  rw [← place_sig hs.hw]
  refine wentL_get _ s x hx ?_
  have := place_lt (h := h) (w := w) (k := k) hs.k8 (slot_lt hm x hx)
  omega
end Go.Proofs.Ytonibpilbkafnaa
