/- Plain Lean, no program: texts cut and joined, mended, turned round. -/
import Derived.Test.YtlkabghpcjlohaaP1
set_option linter.unusedVariables false
set_option linter.unusedSimpArgs false
namespace Go.Proofs.Ytlkabghpcjlohaa
open Go.Lib

theorem take_drop_of {α : Type} (l a b : List α) (h : l = a ++ b) : a = l.take a.length ∧ b = l.drop a.length := by
  subst h; simp
/-- The first k runes' bytes are read as these k runes; what is left as the others. -/
theorem chop_first (l : List UInt8) : ∀ k, chop (glue ((chop l).take k)) = (chop l).take k := by
  induction l using chop_ind with
  | h0 => intro k; simp [chop_nil, glue]
  | h1 l h ih =>
    intro k
    cases k with
    | zero => simp [glue, chop_nil]
    | succ k =>
      rw [chop_ne h, List.take_succ_cons]
      have hw := wd_le l h; have hw1 := wd_pos l
      have e : glue ((rn l, l.take (wd l)) :: (chop (l.drop (wd l))).take k) = l.take (wd l) ++ glue ((chop (l.drop (wd l))).take k) := by simp [glue]
      have hg := glue_take (l.drop (wd l)) k
      have hgl := glue_take_le (l.drop (wd l)) k
      have hk := ih k
      generalize glue ((chop (l.drop (wd l))).take k) = g at e hg hgl hk
      rw [List.length_drop] at hgl
      have e2 : l.take (wd l) ++ g = l.take (wd l + g.length) := by
        rw [List.take_add, ← hg]
      rw [e, e2]
      have hd : decodeL (l.take (wd l + g.length)) = decodeL l := dec_take l _ (by omega) (by omega) (by omega)
      have hne : l.take (wd l + g.length) ≠ [] := by
        intro h0
        have h1 := congrArg List.length h0
        rw [List.length_take, Nat.min_eq_left (by omega), List.length_nil] at h1; omega
      have hr : rn (l.take (wd l + g.length)) = rn l := by unfold rn; rw [hd]
      have hww : wd (l.take (wd l + g.length)) = wd l := congrArg (·.2) hd
      rw [chop_ne hne, hr, hww, ← e2, List.take_append_of_le_length (by rw [List.length_take]; omega), List.take_of_length_le (by rw [List.length_take]; omega),
        List.drop_append_of_le_length (by rw [List.length_take]; omega), List.drop_of_length_le (by rw [List.length_take]; omega), List.nil_append, hk]
theorem chop_rest (l : List UInt8) : ∀ k, chop (l.drop (glue ((chop l).take k)).length) = (chop l).drop k := by
  induction l using chop_ind with
  | h0 => intro k; simp [chop_nil]
  | h1 l h ih =>
    intro k
    cases k with
    | zero => simp [glue]
    | succ k =>
      rw [chop_ne h, List.take_succ_cons, List.drop_succ_cons]
      have hw := wd_le l h
      have e : (glue ((rn l, l.take (wd l)) :: (chop (l.drop (wd l))).take k)).length = wd l + (glue ((chop (l.drop (wd l))).take k)).length := by
        simp [glue, List.length_take, Nat.min_eq_left hw]
      rw [e, ← List.drop_drop, ih k]

/-- Every rune encoded, one behind the other. -/
def encs (rs : List Nat) : List UInt8 := (rs.map fun (r : Nat) => enc (r : Int)).flatten
def fixL (l : List UInt8) : List UInt8 := encs (runes l)
def backL (l : List UInt8) : List UInt8 := encs (runes l).reverse
/-- no byte belongs to no rune -/
def okC (c : Nat × List UInt8) : Bool := !(decide (c.1 = 65533) && decide (c.2.length = 1))
def validL (l : List UInt8) : Bool := (chop l).all okC
def cutL (l : List UInt8) (n : Int) : List UInt8 := glue ((chop l).take n.toNat)

theorem encs_nil : encs [] = [] := rfl
theorem encs_cons (r : Nat) (rs : List Nat) : encs (r :: rs) = enc r ++ encs rs := rfl
theorem encs_append (a b : List Nat) : encs (a ++ b) = encs a ++ encs b := by simp [encs]
theorem encs_length (rs : List Nat) : (encs rs).length ≤ 4 * rs.length := by
  induction rs with
  | nil => simp [encs]
  | cons r rs ih => rw [encs_cons, List.length_append, List.length_cons]; have := enc_length r; omega
/-- Is a number a rune that can be encoded? -/
def scalar (r : Nat) : Prop := Utf8.valid (r : Int) = true
theorem chop_encs (rs : List Nat) (h : ∀ r ∈ rs, scalar r) (t : List UInt8) : chop (encs rs ++ t) = (rs.map fun (r : Nat) => (r, enc (r : Int))) ++ chop t := by
  induction rs with
  | nil => simp [encs]
  | cons r rs ih =>
    rw [encs_cons, List.append_assoc, chop_enc, ih fun x hx => h x (List.mem_cons_of_mem _ hx)]
    have : fixr (r : Int) = r := by
      have hv := h r (List.mem_cons_self ..)
      unfold scalar at hv
      simp [fixr, hv]
    rw [this]; rfl
theorem runes_scalar (l : List UInt8) : ∀ r ∈ runes l, scalar r := by
  induction l using chop_ind with
  | h0 => intro r hr; simp [runes, chop_nil] at hr
  | h1 l h ih =>
    intro r hr
    simp only [runes, chop_ne h, List.map_cons, List.mem_cons] at hr
    rcases hr with rfl | hr
    · exact rn_valid l
    · exact ih r hr
theorem runes_encs (rs : List Nat) (h : ∀ r ∈ rs, scalar r) (t : List UInt8) : runes (encs rs ++ t) = rs ++ runes t := by
  unfold runes
  rw [chop_encs rs h, List.map_append, List.map_map]
  congr 1
  simp [Function.comp_def]
theorem okC_enc (r : Nat) (h : scalar r) : okC (r, enc (r : Int)) = true := by
  unfold okC
  by_cases e : r = 65533
  · subst e; decide
  · simp [e]
theorem valid_encs (rs : List Nat) (h : ∀ r ∈ rs, scalar r) : validL (encs rs) = true := by
  have := chop_encs rs h []
  rw [List.append_nil, chop_nil, List.append_nil] at this
  unfold validL
  rw [this, List.all_map, List.all_eq_true]
  intro r hr
  exact okC_enc r (h r hr)
theorem ok_head (l : List UInt8) (h : l ≠ []) : okC (rn l, l.take (wd l)) = !badHead l := by
  unfold okC badHead
  rw [List.length_take, Nat.min_eq_left (wd_le l h)]
/-- A valid text is its own mending. -/
theorem fix_valid (l : List UInt8) (h : validL l = true) : fixL l = l := by
  induction l using chop_ind with
  | h0 => rfl
  | h1 l hne ih =>
    unfold validL at h
    rw [chop_ne hne, List.all_cons, Bool.and_eq_true, ok_head l hne] at h
    have hb : badHead l = false := by simpa using h.1
    unfold fixL runes
    rw [chop_ne hne, List.map_cons, encs_cons, enc_rn l hne hb]
    have := ih h.2
    unfold fixL runes at this
    rw [this, List.take_append_drop]
theorem runes_fix (l : List UInt8) : runes (fixL l) = runes l := by
  have := runes_encs (runes l) (runes_scalar l) []
  rw [List.append_nil] at this
  unfold fixL
  rw [this]; simp [runes, chop_nil]
theorem fix_fix (l : List UInt8) : fixL (fixL l) = fixL l := by
  show encs (runes (fixL l)) = encs (runes l)
  rw [runes_fix]
theorem valid_fix (l : List UInt8) : validL (fixL l) = true := valid_encs _ (runes_scalar l)
theorem runes_back (l : List UInt8) : runes (backL l) = (runes l).reverse := by
  have := runes_encs (runes l).reverse (fun r hr => runes_scalar l r (List.mem_reverse.1 hr)) []
  rw [List.append_nil] at this
  unfold backL
  rw [this]; simp [runes, chop_nil]
theorem back_back (l : List UInt8) : backL (backL l) = fixL l := by
  show encs (runes (backL l)).reverse = encs (runes l)
  rw [runes_back, List.reverse_reverse]
theorem fix_back (l : List UInt8) : fixL (backL l) = backL l := by
  show encs (runes (backL l)) = encs (runes l).reverse
  rw [runes_back]
theorem encs_reverse_length (rs : List Nat) : (encs rs.reverse).length = (encs rs).length := by
  induction rs with
  | nil => rfl
  | cons r rs ih => rw [List.reverse_cons, encs_append, encs_cons, List.length_append, List.length_append, ih, encs_cons, List.length_append, encs_nil, List.length_nil, Nat.add_zero, Nat.add_comm]
theorem back_length (l : List UInt8) : (backL l).length = (fixL l).length := encs_reverse_length _
theorem runes_length (l : List UInt8) : (runes l).length = (chop l).length := by simp [runes]
theorem fix_length_le (l : List UInt8) : (fixL l).length ≤ 4 * l.length := by
  have h := encs_length (runes l)
  have h2 := chop_length_le l
  rw [runes_length] at h
  unfold fixL; omega
/-- A mended text, and what follows. -/
theorem chop_fix_append (l t : List UInt8) : chop (fixL l ++ t) = chop (fixL l) ++ chop t := by
  have h1 := chop_encs (runes l) (runes_scalar l) t
  have h2 := chop_encs (runes l) (runes_scalar l) []
  rw [List.append_nil, chop_nil, List.append_nil] at h2
  unfold fixL
  rw [h1, h2]

/-! ### where the runes begin -/
def placesFrom : Nat → List (Nat × List UInt8) → List Nat
  | _, [] => []
  | p, c :: cs => p :: placesFrom (p + c.2.length) cs
def places (l : List UInt8) : List Nat := placesFrom 0 (chop l)
theorem placesFrom_length (p : Nat) (cs : List (Nat × List UInt8)) : (placesFrom p cs).length = cs.length := by
  induction cs generalizing p with
  | nil => rfl
  | cons c cs ih => simp [placesFrom, ih]
theorem placesFrom_append (p : Nat) (a b : List (Nat × List UInt8)) : placesFrom p (a ++ b) = placesFrom p a ++ placesFrom (p + (glue a).length) b := by
  induction a generalizing p with
  | nil => simp [placesFrom, glue]
  | cons c a ih =>
    simp only [List.cons_append, placesFrom, ih]
    have : (glue (c :: a)).length = c.2.length + (glue a).length := by simp [glue]
    rw [this, Nat.add_assoc]
theorem places_at (l : List UInt8) (k : Nat) (h : k < (chop l).length) : (places l)[k]? = some (glue ((chop l).take k)).length := by
  unfold places
  have e : chop l = (chop l).take k ++ (chop l).drop k := (List.take_append_drop k _).symm
  rw [e, placesFrom_append, ← e, List.getElem?_append_right (by rw [placesFrom_length, List.length_take]; omega), placesFrom_length, List.length_take, Nat.min_eq_left (by omega), Nat.sub_self]
  cases hd : (chop l).drop k with
  | nil => have := congrArg List.length hd; rw [List.length_drop] at this; simp at this; omega
  | cons c cs => simp [placesFrom]
end Go.Proofs.Ytlkabghpcjlohaa
