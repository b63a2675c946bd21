/- Plain Lean: a grid's text read line by line is the text read sign by sign. -/
import Derived.Test.YtlkabghpcjlohaaDoorP6
namespace Go.Proofs.YtlkabghpcjlohaaDoor
set_option linter.unusedVariables false
set_option linter.unusedSimpArgs false

/-- a cell of a line: a block, a bar at its right, one below -/
abbrev Cl := Bool × Bool × Bool
inductive Ln where
  | bad (at' : Nat) (e : Nat)
  | good (cs : List Cl)
def Ln.then (x : Ln) (k : List Cl → Ln) : Ln := match x with | .bad a e => .bad a e | .good s => k s
def rightC (cs : List Cl) : Option (List Cl) := match cs.getLast? with
  | none => none
  | some c => if c.2.1 then none else some (cs.dropLast ++ [(c.1, true, c.2.2)])
def belowC (cs : List Cl) : Option (List Cl) := match cs.getLast? with
  | none => none
  | some c => if c.2.2 then none else some (cs.dropLast ++ [(c.1, c.2.1, true)])
def stepC (h : Nat) (cs : List Cl) (p r : Nat) : Ln :=
  match sg r with
  | .line => .good cs
  | .cell b => if cs.length = 16 ∨ h = 16 then .bad p 50 else .good (cs ++ [(b, false, false)])
  | .right => match rightC cs with
    | none => .bad p 83
    | some l => .good l
  | .below => match belowC cs with
    | none => .bad p 83
    | some l => .good l
  | .blank => .good cs
  | .none => .bad p 80
def runC (h : Nat) : List (Nat × List UInt8) → Nat → List Cl → Ln
  | [], _, cs => .good cs
  | c :: l, p, cs => (stepC h cs p c.1).then fun t => runC h l (p + c.2.length) t
theorem cls10 : cls (10 : Int) = 3 := by decide
theorem stepC_len {h p r : Nat} {cs cs' : List Cl} (hs : stepC h cs p r = .good cs') (hl : cs.length ≤ 16) : cs'.length ≤ 16 := by
  unfold stepC at hs
  cases hk : sg r <;> rw [hk] at hs <;> simp only at hs
  · injection hs with hs; subst hs; exact hl
  · split at hs
    · cases hs
    · injection hs with hs; subst hs; simp; omega
  · unfold rightC at hs
    cases hg : cs.getLast? with
    | none => rw [hg] at hs; cases hs
    | some c =>
      rw [hg] at hs
      obtain ⟨ys, rfl⟩ := List.getLast?_eq_some_iff.1 hg
      simp only at hs
      split at hs
      · cases hs
      · rename_i hq
        split at hq
        · cases hq
        · injection hq with hq; subst hq; injection hs with hs; subst hs; simpa using hl
  · unfold belowC at hs
    cases hg : cs.getLast? with
    | none => rw [hg] at hs; cases hs
    | some c =>
      rw [hg] at hs
      obtain ⟨ys, rfl⟩ := List.getLast?_eq_some_iff.1 hg
      simp only at hs
      split at hs
      · cases hs
      · rename_i hq
        split at hq
        · cases hq
        · injection hq with hq; subst hq; injection hs with hs; subst hs; simpa using hl
  · injection hs with hs; subst hs; exact hl
  · cases hs

/-- what has been read: so many cells more -/
def ext (s : Rd) (cs : List Cl) : Rd := ⟨s.h, s.w, cs.length, s.B ++ cs.map (·.1), s.R ++ cs.map (·.2.1), s.D ++ cs.map (·.2.2), s.f⟩
def Ln.ext (s : Rd) : Ln → Rs
  | .bad a e => .bad a e
  | .good cs => .good (Go.Proofs.YtlkabghpcjlohaaDoor.ext s cs)
theorem barL_snoc (n : Nat) (A : List Bool) (x : Bool) (hn : n ≠ 0) : barL n (A ++ [x]) = if x then none else some (A ++ [true]) := by
  unfold barL
  cases x <;> simp [hn]
theorem step_ext (s : Rd) (cs : List Cl) (p r : Nat) (hr : sg r ≠ .line) : stepS (ext s cs) p r = (stepC s.h cs p r).ext s := by
  unfold stepS stepC
  cases hk : sg r with
  | line => exact absurd hk hr
  | cell b =>
    by_cases h : cs.length = 16 ∨ s.h = 16
    · have h' : (ext s cs).c = 16 ∨ (ext s cs).h = 16 := h
      simp only
      rw [if_pos h', if_pos h]; rfl
    · have h' : ¬ ((ext s cs).c = 16 ∨ (ext s cs).h = 16) := h
      simp only
      rw [if_neg h', if_neg h]; simp [Ln.ext, ext]
  | right =>
    simp only [ext, rightC]
    rcases List.eq_nil_or_concat cs with rfl | ⟨ys, c, rfl⟩
    · simp [barL, Ln.ext]
    · rw [List.map_concat, List.concat_eq_append, List.concat_eq_append, ← List.append_assoc, barL_snoc _ _ _ (by simp)]
      obtain ⟨b, x, y⟩ := c
      cases x <;> simp [Ln.ext, ext]
  | below =>
    simp only [ext, belowC]
    rcases List.eq_nil_or_concat cs with rfl | ⟨ys, c, rfl⟩
    · simp [barL, Ln.ext]
    · rw [List.map_concat, List.map_concat, List.map_concat, List.concat_eq_append, List.concat_eq_append, List.concat_eq_append, List.concat_eq_append, ← List.append_assoc s.D, barL_snoc _ _ _ (by simp)]
      obtain ⟨b, x, y⟩ := c
      cases y <;> simp [Ln.ext, ext]
  | blank => rfl
  | none => rfl
theorem run_ext (s : Rd) : ∀ (l : List (Nat × List UInt8)) (p : Nat) (cs : List Cl) (rest : List (Nat × List UInt8)), (∀ c ∈ l, sg c.1 ≠ .line) →
    runS (l ++ rest) p (ext s cs) = ((runC s.h l p cs).ext s).then fun t => runS rest (p + (glue l).length) t
  | [], p, cs, rest, _ => by simp [runC, Ln.ext, Rs.then, glue]
  | c :: l, p, cs, rest, h => by
    have hg : (glue (c :: l)).length = c.2.length + (glue l).length := by simp [glue]
    rw [List.cons_append, runS, runC, step_ext s cs p c.1 (h c (List.mem_cons_self ..)), hg]
    cases stepC s.h cs p c.1 with
    | bad a e => rfl
    | good cs' =>
      have := run_ext s l (p + c.2.length) cs' rest (fun x hx => h x (List.mem_cons_of_mem _ hx))
      simp only [Ln.ext, Rs.then, Ln.then] at *
      rw [this, Nat.add_assoc]

/-- what stands in rows -/
def rdRows (rows : List (List Cl)) (f : Nat) : Rd := ⟨rows.length, (rows.headD []).length, 0, rows.flatten.map (·.1), rows.flatten.map (·.2.1), rows.flatten.map (·.2.2), f⟩
def finL (n : Nat) (rows : List (List Cl)) : Pr :=
  if rows.length = 0 then .bad n 82 else if checkG (gdOf (rdRows rows 0)) ≠ 0 then .bad 0 (checkG (gdOf (rdRows rows 0))) else .good (gdOf (rdRows rows 0))
def endR (n : Nat) (x : Rs) : Pr := match x with
  | .bad a e => .bad a e
  | .good s => endS n s
/-- what is answered of the text from a place on behind these rows -/
def contR (l : List UInt8) (from' : Nat) (rows : List (List Cl)) : Pr :=
  if from' < l.length then endR l.length (runS (chop (l.drop from')) from' (rdRows rows from')) else finL l.length rows
theorem end_rows (n : Nat) (rows : List (List Cl)) (f : Nat) : endS n (rdRows rows f) = finL n rows := by
  unfold endS rowS finL
  rw [if_pos (show (rdRows rows f).c = 0 from rfl)]
  rfl
theorem sg10 (r : Nat) : sg r = .line ↔ r = 10 := by
  unfold sg
  by_cases h : r = 10
  · simp [h]
  · rw [if_neg h]
    constructor
    · intro h2
      repeat' split at h2
      all_goals cases h2
    · exact fun h2 => absurd h2 h
theorem rn10 (l : List UInt8) (hn : l ≠ []) (h : rn l = 10) : (10 : UInt8) ∈ l := by
  have hb : badHead l = false := by simp [badHead, h]
  have h1 := enc_rn l hn hb
  rw [h, enc_ascii 10 (by omega)] at h1
  have : (10 : UInt8) ∈ l.take (wd l) := by rw [← h1]; simp
  exact List.mem_of_mem_take this
theorem chop10 : ∀ l : List UInt8, (10 : UInt8) ∉ l → ∀ c ∈ chop l, sg c.1 ≠ .line := by
  refine chop_ind ?_ ?_
  · intro _ c hc; rw [chop_nil] at hc; cases hc
  · intro l hn ih h c hc
    rw [chop_ne hn] at hc
    rcases List.mem_cons.1 hc with rfl | hc
    · intro h2
      exact h (rn10 l hn ((sg10 _).1 h2))
    · exact ih (fun h2 => h (List.mem_of_mem_drop h2)) c hc
theorem contR_zero {l : List UInt8} (h : ¬ 65536 < l.length) : contR l 0 [] = parseL l := by
  unfold contR parseL
  rw [if_neg h]
  by_cases hl : 0 < l.length
  · rw [if_pos hl]
    rfl
  · have : l = [] := List.length_eq_zero_iff.1 (by omega)
    subst this
    rfl
theorem ext0 (rows : List (List Cl)) (f : Nat) : ext (rdRows rows f) [] = rdRows rows f := by simp [ext, rdRows]
/-- a line behind the rows -/
theorem row_ext (rows : List (List Cl)) (f : Nat) (cs : List Cl) (hc : cs ≠ []) :
    rowS (ext (rdRows rows f) cs) = if rows ≠ [] ∧ (rows.headD []).length ≠ cs.length then none else some (rdRows (rows ++ [cs]) f) := by
  have h1 : cs.length ≠ 0 := fun h => hc (List.length_eq_zero_iff.1 h)
  unfold rowS
  rw [if_neg (show ¬ (ext (rdRows rows f) cs).c = 0 from h1)]
  cases rows with
  | nil => simp [ext, rdRows]
  | cons r rs =>
    by_cases hw : r.length = cs.length
    · simp [ext, rdRows, hw]
    · have hw' : ¬ cs.length = r.length := fun h => hw h.symm
      simp [ext, rdRows, hw, hw']
theorem row_ext0 (rows : List (List Cl)) (f : Nat) : rowS (ext (rdRows rows f) []) = some (rdRows rows f) := by
  rw [ext0]
  rfl
theorem line_step (l : List UInt8) (f e : Nat) (rows : List (List Cl)) (hf : f < l.length) (hfe : f ≤ e) (he : e ≤ l.length)
    (hno : ∀ k, f ≤ k → k < e → l[k]? ≠ some 10) (hend : e = l.length ∨ l[e]? = some 10) :
    contR l f rows = match runC rows.length (chop ((l.drop f).take (e - f))) f [] with
      | .bad a er => .bad a er
      | .good cs => if cs = [] then contR l (e + 1) rows else if rows ≠ [] ∧ (rows.headD []).length ≠ cs.length then .bad f 81 else contR l (e + 1) (rows ++ [cs]) := by
  have hno' : (10 : UInt8) ∉ (l.drop f).take (e - f) := by
    intro h
    obtain ⟨k, hk, hkk⟩ := List.getElem_of_mem h
    rw [List.length_take, List.length_drop] at hk
    rw [List.getElem_take, List.getElem_drop] at hkk
    exact hno (f + k) (by omega) (by omega) (by rw [List.getElem?_eq_getElem (by omega), hkk])
  have hlen : ((l.drop f).take (e - f)).length = e - f := by rw [List.length_take, List.length_drop]; omega
  have hch := chop10 _ hno'
  have hgl := glue_chop ((l.drop f).take (e - f))
  unfold contR
  rw [if_pos hf]
  rcases Nat.lt_or_ge e l.length with hlt | hge
  · have h10 : l[e]? = some 10 := by rcases hend with h | h; exact absurd h (by omega); exact h
    have e1 : l.drop f = (l.drop f).take (e - f) ++ 10 :: l.drop (e + 1) := by
      have h2 : (l.drop f).drop (e - f) = 10 :: l.drop (e + 1) := by
        rw [List.drop_drop, show f + (e - f) = e by omega]
        have h3 := List.drop_eq_getElem_cons hlt
        rw [List.getElem?_eq_getElem hlt] at h10
        injection h10 with h10
        rw [h10] at h3
        exact h3
      rw [← h2, List.take_append_drop]
    generalize (l.drop f).take (e - f) = ln at *
    rw [e1, chop_before 10 (by decide) (l.drop (e + 1)) ln, ← ext0 rows f, run_ext (rdRows rows f) (chop ln) f [] _ hch, hgl, hlen]
    rw [show (rdRows rows f).h = rows.length from rfl]
    cases hr : runC rows.length (chop ln) f [] with
    | bad a er => rfl
    | good cs =>
      simp only [Ln.ext, Rs.then, runS]
      have e2 : f + (e - f) = e := by omega
      rw [e2]
      have hst : stepS (ext (rdRows rows f) cs) e (10 : UInt8).toNat = match rowS (ext (rdRows rows f) cs) with
        | none => .bad f 81
        | some t => .good { t with f := e + 1 } := by
        unfold stepS
        rw [show sg (10 : UInt8).toNat = .line by decide]
        rfl
      rw [hst]
      have hfin : ∀ rows : List (List Cl), endR l.length (runS (chop (l.drop (e + 1))) (e + 1) (rdRows rows (e + 1))) = if e + 1 < l.length then endR l.length (runS (chop (l.drop (e + 1))) (e + 1) (rdRows rows (e + 1))) else finL l.length rows := fun rows => by
        by_cases h : e + 1 < l.length
        · rw [if_pos h]
        · rw [if_neg h, List.drop_eq_nil_of_le (by omega), chop_nil, runS, endR, end_rows]
      by_cases hcs : cs = []
      · subst hcs
        rw [row_ext0, if_pos rfl]
        simp only
        exact hfin rows
      · rw [row_ext rows f cs hcs, if_neg hcs]
        by_cases hw : rows ≠ [] ∧ (rows.headD []).length ≠ cs.length
        · rw [if_pos hw, if_pos hw]; rfl
        · rw [if_neg hw, if_neg hw]
          simp only
          exact hfin (rows ++ [cs])
  · have he' : e = l.length := by omega
    have e1 : l.drop f = (l.drop f).take (e - f) ++ [] := by
      rw [List.append_nil, List.take_of_length_le (by rw [List.length_drop]; omega)]
    generalize (l.drop f).take (e - f) = ln at *
    rw [e1, List.append_nil, ← List.append_nil (chop ln), ← ext0 rows f, run_ext (rdRows rows f) (chop ln) f [] [] hch, hgl, hlen]
    rw [show (rdRows rows f).h = rows.length from rfl]
    cases hr : runC rows.length (chop ln) f [] with
    | bad a er => rw [List.append_nil, hr]; rfl
    | good cs =>
      rw [List.append_nil, hr]
      simp only [Ln.ext, Rs.then, runS, endR]
      rw [if_neg (show ¬ e + 1 < l.length by omega), if_neg (show ¬ e + 1 < l.length by omega)]
      unfold endS
      by_cases hcs : cs = []
      · subst hcs
        rw [row_ext0, if_pos rfl]
        have := end_rows l.length rows f
        unfold endS at this
        exact this
      · rw [row_ext rows f cs hcs, if_neg hcs]
        by_cases hw : rows ≠ [] ∧ (rows.headD []).length ≠ cs.length
        · rw [if_pos hw, if_pos hw]; rfl
        · rw [if_neg hw, if_neg hw]
          have := end_rows l.length (rows ++ [cs]) f
          unfold endS rowS at this
          rw [if_pos (show (rdRows (rows ++ [cs]) f).c = 0 from rfl)] at this
          exact this
end Go.Proofs.YtlkabghpcjlohaaDoor
