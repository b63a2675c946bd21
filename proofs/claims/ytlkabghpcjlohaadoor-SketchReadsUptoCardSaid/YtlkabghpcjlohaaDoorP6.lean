/- Plain Lean: the texts of grids: what is read, what is printed, and that what is printed is read again. -/
import Derived.Test.YtlkabghpcjlohaaDoorP4
import Derived.Test.YtlkabghpcjlohaaDoorF1
namespace Go.Proofs.YtlkabghpcjlohaaDoor
set_option linter.unusedVariables false
set_option linter.unusedSimpArgs false

/-- a grid -/
structure Gd where
  H : Int
  W : Int
  B : List Bool
  R : List Bool
  D : List Bool
deriving DecidableEq

/-- a bar that may not stand there -/
def badAt (H W : Nat) (B R D : List Bool) (i : Nat) : Bool :=
  (R.getD i false && (B.getD i false || decide (i % W = W - 1) || B.getD (i + 1) false)) || (D.getD i false && (B.getD i false || decide (i / W = H - 1) || B.getD (i + W) false))
def barred (g : Gd) : Bool := (List.range (g.H.toNat * g.W.toNat)).any (badAt g.H.toNat g.W.toNat g.B g.R g.D)
def checkG (g : Gd) : Int :=
  if ¬ (1 ≤ g.H ∧ g.H ≤ 16 ∧ 1 ≤ g.W ∧ g.W ≤ 16) then 50
  else if ¬ (g.B.length = g.H.toNat * g.W.toNat ∧ g.R.length = g.H.toNat * g.W.toNat ∧ g.D.length = g.H.toNat * g.W.toNat) then 51
  else if barred g then 52 else 0
structure OkG (g : Gd) : Prop where
  h0 : 1 ≤ g.H
  h1 : g.H ≤ 16
  w0 : 1 ≤ g.W
  w1 : g.W ≤ 16
  b : g.B.length = g.H.toNat * g.W.toNat
  r : g.R.length = g.H.toNat * g.W.toNat
  d : g.D.length = g.H.toNat * g.W.toNat
  nb : barred g = false
theorem ok_of_check {g : Gd} (h : checkG g = 0) : OkG g := by
  unfold checkG at h
  split at h
  · omega
  rename_i h1
  split at h
  · omega
  rename_i h2
  split at h
  · omega
  rename_i h3
  exact ⟨by omega, by omega, by omega, by omega, by omega, by omega, by omega, by simpa using h3⟩
theorem check_of_ok {g : Gd} (h : OkG g) : checkG g = 0 := by
  unfold checkG
  rw [if_neg (by have := h.h0; have := h.h1; have := h.w0; have := h.w1; omega), if_neg (by have := h.b; have := h.r; have := h.d; omega), h.nb]
  rfl
theorem area_le {g : Gd} (h : OkG g) : g.H.toNat * g.W.toNat ≤ 256 ∧ 1 ≤ g.W.toNat ∧ g.W.toNat ≤ 16 ∧ 1 ≤ g.H.toNat ∧ g.H.toNat ≤ 16 := by
  have a1 : g.H.toNat ≤ 16 := by have := h.h1; omega
  have a2 : g.W.toNat ≤ 16 := by have := h.w1; omega
  have a3 : 1 ≤ g.H.toNat := by have := h.h0; omega
  have a4 : 1 ≤ g.W.toNat := by have := h.w0; omega
  exact ⟨Nat.mul_le_mul a1 a2, a4, a2, a3, a1⟩

/-- what has been read -/
structure Rd where
  h : Nat
  w : Nat
  c : Nat
  B : List Bool
  R : List Bool
  D : List Bool
  f : Nat
deriving DecidableEq
inductive Sg where
  | line | cell (b : Bool) | right | below | blank | none
deriving DecidableEq
def sg (r : Nat) : Sg :=
  if r = 10 then .line else if r = 35 ∨ r = 9632 then .cell true else if r = 46 ∨ r = 9633 then .cell false else if r = 124 then .right else if r = 95 then .below
  else if cls (r : Int) = 3 then .blank else .none
def rowS (s : Rd) : Option Rd :=
  if s.c = 0 then some s else if 0 < s.h ∧ s.c ≠ s.w then none else some { s with h := s.h + 1, w := s.c, c := 0 }
def barL (c : Nat) (l : List Bool) : Option (List Bool) := if c = 0 ∨ l.getLast? = some true then none else some (l.dropLast ++ [true])
inductive Rs where
  | bad (at' : Nat) (e : Nat)
  | good (s : Rd)
def Rs.then (x : Rs) (k : Rd → Rs) : Rs := match x with | .bad a e => .bad a e | .good s => k s
def stepS (s : Rd) (p : Nat) (r : Nat) : Rs :=
  match sg r with
  | .line => match rowS s with
    | none => .bad s.f 81
    | some t => .good { t with f := p + 1 }
  | .cell b => if s.c = 16 ∨ s.h = 16 then .bad p 50 else .good { s with c := s.c + 1, B := s.B ++ [b], R := s.R ++ [false], D := s.D ++ [false] }
  | .right => match barL s.c s.R with
    | none => .bad p 83
    | some l => .good { s with R := l }
  | .below => match barL s.c s.D with
    | none => .bad p 83
    | some l => .good { s with D := l }
  | .blank => .good s
  | .none => .bad p 80
def runS : List (Nat × List UInt8) → Nat → Rd → Rs
  | [], _, s => .good s
  | c :: cs, p, s => (stepS s p c.1).then fun t => runS cs (p + c.2.length) t
def rd0 : Rd := ⟨0, 0, 0, [], [], [], 0⟩
def gdOf (t : Rd) : Gd := ⟨t.h, t.w, t.B, t.R, t.D⟩
/-- what Parse answers: a place and an error, or a grid -/
inductive Pr where
  | bad (at' : Nat) (e : Int)
  | good (g : Gd)
def endS (n : Nat) (s : Rd) : Pr :=
  match rowS s with
  | none => .bad s.f 81
  | some t => if t.h = 0 then .bad n 82 else if checkG (gdOf t) ≠ 0 then .bad 0 (checkG (gdOf t)) else .good (gdOf t)
def parseL (l : List UInt8) : Pr :=
  if 65536 < l.length then .bad 65536 1
  else match runS (chop l) 0 rd0 with
    | .bad a e => .bad a e
    | .good s => endS l.length s

/-- a cell's signs -/
def signR (g : Gd) (i : Nat) : List Nat :=
  [if g.B.getD i false then 35 else 46] ++ (if g.R.getD i false then [124] else []) ++ (if g.D.getD i false then [95] else []) ++ (if (i + 1) % g.W.toNat = 0 then [10] else [])
def printR (g : Gd) (n : Nat) : List Nat := ((List.range n).map (signR g)).flatten
theorem printR_succ (g : Gd) (n : Nat) : printR g (n + 1) = printR g n ++ signR g n := by simp [printR, List.range_succ]
def printL (g : Gd) : List UInt8 := encs (printR g (g.H.toNat * g.W.toNat))
theorem signR_le (g : Gd) (i : Nat) : (signR g i).length ≤ 4 := by
  unfold signR
  simp only [List.length_append, List.length_singleton]
  split <;> split <;> split <;> simp
theorem printR_le (g : Gd) (n : Nat) : (printR g n).length ≤ 4 * n := by
  induction n with
  | zero => simp [printR]
  | succ n ih => rw [printR_succ, List.length_append]; have := signR_le g n; omega
theorem signR_mem (g : Gd) (i : Nat) : ∀ r ∈ signR g i, r = 35 ∨ r = 46 ∨ r = 124 ∨ r = 95 ∨ r = 10 := by
  intro r hr
  unfold signR at hr
  simp only [List.mem_append, List.mem_singleton] at hr
  rcases hr with ((hr | hr) | hr) | hr
  · split at hr <;> omega
  · split at hr <;> simp at hr; omega
  · split at hr <;> simp at hr; omega
  · split at hr <;> simp at hr; omega
theorem printR_mem (g : Gd) (n : Nat) : ∀ r ∈ printR g n, r = 35 ∨ r = 46 ∨ r = 124 ∨ r = 95 ∨ r = 10 := by
  intro r hr
  unfold printR at hr
  obtain ⟨l, hl, hm⟩ := List.mem_flatten.1 hr
  obtain ⟨i, _, rfl⟩ := List.mem_map.1 hl
  exact signR_mem g i r hm

/-- reading these runes leads from s to t, whatever follows -/
def reads (rs : List Nat) (s t : Rd) : Prop :=
  ∀ (cs rest : List (Nat × List UInt8)) (p f : Nat), cs.map (·.1) = rs → ∃ p' f', runS (cs ++ rest) p { s with f := f } = runS rest p' { t with f := f' }
theorem reads_nil (s : Rd) : reads [] s s := by
  intro cs rest p f h
  have : cs = [] := by simpa using h
  subst this
  exact ⟨p, f, rfl⟩
theorem reads_append {a b : List Nat} {s t u : Rd} (h1 : reads a s t) (h2 : reads b t u) : reads (a ++ b) s u := by
  intro cs rest p f h
  obtain ⟨c1, c2, rfl, e1, e2⟩ := List.map_eq_append_iff.1 h
  obtain ⟨p', f', e⟩ := h1 c1 (c2 ++ rest) p f e1
  obtain ⟨p2, f2, e'⟩ := h2 c2 rest p' f' e2
  exact ⟨p2, f2, by rw [List.append_assoc, e, e']⟩
theorem reads_one {r : Nat} {s t : Rd} (h : ∀ p f, ∃ f', stepS { s with f := f } p r = .good { t with f := f' }) : reads [r] s t := by
  intro cs rest p f hc
  obtain ⟨c, rfl, rfl⟩ : ∃ c, cs = [c] ∧ c.1 = r := by
    match cs, hc with
    | [c], hc => exact ⟨c, rfl, by simpa using hc⟩
  obtain ⟨f', e⟩ := h p f
  refine ⟨p + c.2.length, f', ?_⟩
  rw [List.singleton_append, runS, e]
  rfl
theorem reads_blank {r : Nat} (h : sg r = .blank) (s : Rd) : reads [r] s s := reads_one fun p f => ⟨f, by unfold stepS; rw [h]⟩
theorem reads_cell {r : Nat} {b : Bool} (h : sg r = .cell b) (s : Rd) (hc : s.c < 16) (hh : s.h < 16) :
    reads [r] s { s with c := s.c + 1, B := s.B ++ [b], R := s.R ++ [false], D := s.D ++ [false] } := reads_one fun p f => ⟨f, by
  unfold stepS; rw [h]; simp only; rw [if_neg (by omega)]⟩
theorem reads_right (s : Rd) (l : List Bool) (hc : 0 < s.c) (hl : s.R = l ++ [false]) : reads [124] s { s with R := l ++ [true] } := reads_one fun p f => ⟨f, by
  unfold stepS
  rw [show sg 124 = .right by decide]
  simp only [barL]
  rw [if_neg (by rw [hl]; simp; omega), hl]
  simp⟩
theorem reads_below (s : Rd) (l : List Bool) (hc : 0 < s.c) (hl : s.D = l ++ [false]) : reads [95] s { s with D := l ++ [true] } := reads_one fun p f => ⟨f, by
  unfold stepS
  rw [show sg 95 = .below by decide]
  simp only [barL]
  rw [if_neg (by rw [hl]; simp; omega), hl]
  simp⟩
theorem reads_line (s : Rd) (hc : 0 < s.c) (h : s.h = 0 ∨ s.c = s.w) : reads [10] s { s with h := s.h + 1, w := s.c, c := 0 } := reads_one fun p f => ⟨p + 1, by
  unfold stepS
  rw [show sg 10 = .line by decide]
  simp only [rowS]
  rw [if_neg (by omega), if_neg (by omega)]⟩
theorem reads_empty (s : Rd) (hc : s.c = 0) : reads [10] s s := reads_one fun p f => ⟨p + 1, by
  unfold stepS
  rw [show sg 10 = .line by decide]
  simp only [rowS]
  rw [if_pos hc]⟩

/-- what has been read ahead of cell i -/
def stG (g : Gd) (i : Nat) : Rd :=
  ⟨i / g.W.toNat, if i / g.W.toNat = 0 then 0 else g.W.toNat, i % g.W.toNat, g.B.take i, g.R.take i, g.D.take i, 0⟩
/-- how a rune may be drawn instead -/
structure Deco (d : Nat → Nat → List Nat) : Prop where
  one : ∀ k r s t, r ≠ 10 → reads [r] s t → (r = 35 ∨ r = 46 ∨ r = 124 ∨ r = 95) → reads (d k r) s t
  line : ∀ k s t, reads [10] s t → t.c = 0 → reads (d k 10) s t
def decoR (d : Nat → Nat → List Nat) : Nat → List Nat → List Nat
  | _, [] => []
  | k, r :: rs => d k r ++ decoR d (k + 1) rs
theorem decoR_append (d : Nat → Nat → List Nat) : ∀ (k : Nat) (a b : List Nat), decoR d k (a ++ b) = decoR d k a ++ decoR d (k + a.length) b
  | k, [], b => by simp [decoR]
  | k, r :: a, b => by
    rw [List.cons_append, decoR, decoR, decoR_append d (k + 1) a b, List.append_assoc, List.length_cons]
    congr 3
    omega
theorem divmod_succ (i W : Nat) (hW : 1 ≤ W) : ((i + 1) % W = 0 ∧ i % W + 1 = W ∧ (i + 1) / W = i / W + 1) ∨ ((i + 1) % W = i % W + 1 ∧ i % W + 1 < W ∧ (i + 1) / W = i / W) := by
  have h1 := Nat.div_add_mod i W
  have h2 := Nat.mod_lt i (show W > 0 by omega)
  by_cases h : i % W + 1 = W
  · left
    have e : i + 1 = W * (i / W + 1) := by rw [Nat.mul_add]; omega
    exact ⟨by rw [e]; exact Nat.mul_mod_right _ _, h, by rw [e]; exact Nat.mul_div_cancel_left _ (by omega)⟩
  · right
    have e : i + 1 = i % W + 1 + W * (i / W) := by omega
    refine ⟨?_, by omega, ?_⟩
    · rw [e, Nat.add_mul_mod_self_left, Nat.mod_eq_of_lt (by omega)]
    · rw [e, Nat.add_mul_div_left _ _ (by omega), Nat.div_eq_of_lt (by omega)]
      omega
theorem reads_sign (g : Gd) (hg : OkG g) (d : Nat → Nat → List Nat) (hd : Deco d) (k i : Nat) (hi : i < g.H.toNat * g.W.toNat) : reads (decoR d k (signR g i)) (stG g i) (stG g (i + 1)) := by
  obtain ⟨ha, hw, hw2, hh, hh2⟩ := area_le hg
  have hb := hg.b; have hr := hg.r; have hdd := hg.d
  have hiw : i / g.W.toNat < g.H.toNat := by rw [Nat.div_lt_iff_lt_mul (by omega)]; exact hi
  have hmw := Nat.mod_lt i (show g.W.toNat > 0 by omega)
  have tB : g.B.take (i + 1) = g.B.take i ++ [g.B.getD i false] := by
    rw [List.take_succ_eq_append_getElem (by omega)]; simp [List.getD, List.getElem?_eq_getElem (show i < g.B.length by omega)]
  have tR : g.R.take (i + 1) = g.R.take i ++ [g.R.getD i false] := by
    rw [List.take_succ_eq_append_getElem (by omega)]; simp [List.getD, List.getElem?_eq_getElem (show i < g.R.length by omega)]
  have tD : g.D.take (i + 1) = g.D.take i ++ [g.D.getD i false] := by
    rw [List.take_succ_eq_append_getElem (by omega)]; simp [List.getD, List.getElem?_eq_getElem (show i < g.D.length by omega)]
  unfold signR
  rw [decoR_append, decoR_append, decoR_append]
  -- the cell
  have s1 : ∀ k, reads (decoR d k [if g.B.getD i false then 35 else 46]) (stG g i) ⟨i / g.W.toNat, if i / g.W.toNat = 0 then 0 else g.W.toNat, i % g.W.toNat + 1, g.B.take (i + 1), g.R.take i ++ [false], g.D.take i ++ [false], 0⟩ := by
    intro k
    rw [tB]
    simp only [decoR, List.append_nil]
    refine hd.one k _ _ _ (by split <;> decide) ?_ (by split <;> simp)
    have hs : sg (if g.B.getD i false then 35 else 46) = .cell (g.B.getD i false) := by
      cases g.B.getD i false <;> decide
    exact reads_cell hs (stG g i) (by simp only [stG]; omega) (by simp only [stG]; omega)
  have s2 : ∀ k, reads (decoR d k (if g.R.getD i false then [124] else [])) ⟨i / g.W.toNat, if i / g.W.toNat = 0 then 0 else g.W.toNat, i % g.W.toNat + 1, g.B.take (i + 1), g.R.take i ++ [false], g.D.take i ++ [false], 0⟩ ⟨i / g.W.toNat, if i / g.W.toNat = 0 then 0 else g.W.toNat, i % g.W.toNat + 1, g.B.take (i + 1), g.R.take (i + 1), g.D.take i ++ [false], 0⟩ := by
    intro k
    rw [tR]
    cases g.R.getD i false
    · exact reads_nil _
    · simp only [decoR, List.append_nil, if_true]
      exact hd.one k _ _ _ (by decide) (reads_right _ (g.R.take i) (by simp) rfl) (by simp)
  have s3 : ∀ k, reads (decoR d k (if g.D.getD i false then [95] else [])) ⟨i / g.W.toNat, if i / g.W.toNat = 0 then 0 else g.W.toNat, i % g.W.toNat + 1, g.B.take (i + 1), g.R.take (i + 1), g.D.take i ++ [false], 0⟩ ⟨i / g.W.toNat, if i / g.W.toNat = 0 then 0 else g.W.toNat, i % g.W.toNat + 1, g.B.take (i + 1), g.R.take (i + 1), g.D.take (i + 1), 0⟩ := by
    intro k
    rw [tD]
    cases g.D.getD i false
    · exact reads_nil _
    · simp only [decoR, List.append_nil, if_true]
      exact hd.one k _ _ _ (by decide) (reads_below _ (g.D.take i) (by simp) rfl) (by simp)
  have s4 : ∀ k, reads (decoR d k (if (i + 1) % g.W.toNat = 0 then [10] else [])) ⟨i / g.W.toNat, if i / g.W.toNat = 0 then 0 else g.W.toNat, i % g.W.toNat + 1, g.B.take (i + 1), g.R.take (i + 1), g.D.take (i + 1), 0⟩ (stG g (i + 1)) := by
    intro k
    rcases divmod_succ i g.W.toNat hw with ⟨e1, e2, e3⟩ | ⟨e1, e2, e3⟩
    · rw [if_pos e1]
      simp only [decoR, List.append_nil]
      refine hd.line k _ _ ?_ e1
      have := reads_line ⟨i / g.W.toNat, if i / g.W.toNat = 0 then 0 else g.W.toNat, i % g.W.toNat + 1, g.B.take (i + 1), g.R.take (i + 1), g.D.take (i + 1), 0⟩ (by simp) (by show i / g.W.toNat = 0 ∨ i % g.W.toNat + 1 = if i / g.W.toNat = 0 then 0 else g.W.toNat; by_cases h : i / g.W.toNat = 0 <;> simp [h, e2])
      unfold stG
      rw [e1, e3, if_neg (Nat.succ_ne_zero _)]
      have e4 : (⟨i / g.W.toNat + 1, g.W.toNat, 0, g.B.take (i + 1), g.R.take (i + 1), g.D.take (i + 1), 0⟩ : Rd) = ⟨i / g.W.toNat + 1, i % g.W.toNat + 1, 0, g.B.take (i + 1), g.R.take (i + 1), g.D.take (i + 1), 0⟩ := by rw [e2]
      rw [e4]
      exact this
    · rw [if_neg (by omega)]
      unfold stG
      rw [e1, e3]
      exact reads_nil _
  exact reads_append (reads_append (reads_append (s1 _) (s2 _)) (s3 _)) (s4 _)
theorem reads_print (g : Gd) (hg : OkG g) (d : Nat → Nat → List Nat) (hd : Deco d) : ∀ n, n ≤ g.H.toNat * g.W.toNat → reads (decoR d 0 (printR g n)) rd0 (stG g n)
  | 0, _ => by
    have e : stG g 0 = rd0 := by simp [stG, rd0]
    rw [e]
    exact reads_nil _
  | n + 1, h => by
    rw [printR_succ, decoR_append]
    exact reads_append (reads_print g hg d hd n (by omega)) (reads_sign g hg d hd _ n (by omega))
theorem rd_f (s : Rd) : { s with f := s.f } = s := rfl
theorem parse_deco (g : Gd) (hg : OkG g) (d : Nat → Nat → List Nat) (hd : Deco d) (l : List UInt8) (hl : l.length ≤ 65536) (hr : runes l = decoR d 0 (printR g (g.H.toNat * g.W.toNat))) : parseL l = .good g := by
  obtain ⟨ha, hw, hw2, hh, hh2⟩ := area_le hg
  obtain ⟨p', f', e⟩ := reads_print g hg d hd _ (Nat.le_refl _) (chop l) [] 0 0 hr
  rw [List.append_nil] at e
  unfold parseL
  rw [if_neg (by omega), show rd0 = { rd0 with f := 0 } from rfl, e]
  simp only [runS, endS, rowS]
  have e1 : (stG g (g.H.toNat * g.W.toNat)).c = 0 := by simp [stG]
  rw [if_pos e1]
  have e2 : g.H.toNat * g.W.toNat / g.W.toNat = g.H.toNat := Nat.mul_div_cancel _ (by omega)
  have e3 : (stG g (g.H.toNat * g.W.toNat)).h = g.H.toNat := e2
  simp only
  rw [if_neg (by rw [e3]; omega)]
  have e4 : gdOf { stG g (g.H.toNat * g.W.toNat) with f := f' } = g := by
    unfold gdOf stG
    simp only
    rw [e2, if_neg (by omega), List.take_of_length_le (by have := hg.b; omega), List.take_of_length_le (by have := hg.r; omega), List.take_of_length_le (by have := hg.d; omega)]
    obtain ⟨H, W, B, R, D⟩ := g
    simp only [Gd.mk.injEq, and_true] at *
    have := hg.h0; have := hg.w0
    simp only at *
    omega
  rw [e4, check_of_ok hg]
  rfl
/-- nothing is drawn otherwise -/
def deco0 (_ r : Nat) : List Nat := [r]
theorem deco0_ok : Deco deco0 := ⟨fun k r s t _ h _ => h, fun k s t h _ => h⟩
theorem decoR0 : ∀ (k : Nat) (l : List Nat), decoR deco0 k l = l
  | _, [] => rfl
  | k, r :: l => by rw [decoR, decoR0 (k + 1) l]; rfl
theorem printR_scalar (g : Gd) (n : Nat) : ∀ r ∈ printR g n, scalar r := by
  intro r hr
  unfold scalar
  rw [valid_iff]
  have := printR_mem g n r hr
  omega
theorem enc_ascii (r : Nat) (h : r < 128) : enc (r : Int) = [UInt8.ofNat r] := by
  have hv : Utf8.valid (r : Int) = true := by rw [valid_iff]; omega
  rw [enc_cases]
  simp only [hv, if_true, Int.toNat_natCast]
  rw [if_pos h]
theorem printL_le (g : Gd) (hg : OkG g) : (printL g).length ≤ 4096 := by
  have h1 := encs_length (printR g (g.H.toNat * g.W.toNat))
  have h2 := printR_le g (g.H.toNat * g.W.toNat)
  have := (area_le hg).1
  unfold printL
  omega
theorem parse_print (g : Gd) (hg : OkG g) : parseL (printL g) = .good g := by
  refine parse_deco g hg deco0 deco0_ok _ (by have := printL_le g hg; omega) ?_
  rw [decoR0]
  have := runes_encs (printR g (g.H.toNat * g.W.toNat)) (printR_scalar g _) []
  simpa [printL, runes, chop_nil] using this
/-- what is read is right -/
theorem parse_ok {l : List UInt8} {g : Gd} (h : parseL l = .good g) : OkG g := by
  unfold parseL at h
  split at h
  · cases h
  · split at h
    · cases h
    · unfold endS at h
      split at h
      · cases h
      · split at h
        · cases h
        · split at h
          · cases h
          · rename_i h1
            injection h with h
            subst h
            exact ok_of_check (by simpa using h1)
/-- an error's place lies in the text -/
theorem step_bad {s : Rd} {p : Nat} {r a e : Nat} (hf : s.f ≤ p) (h : stepS s p r = .bad a e) : a ≤ p := by
  unfold stepS at h
  cases hs : sg r <;> rw [hs] at h <;> simp only at h
  · split at h
    · injection h with h1 h2; omega
    · cases h
  · split at h
    · injection h with h1 h2; omega
    · cases h
  · split at h
    · injection h with h1 h2; omega
    · cases h
  · split at h
    · injection h with h1 h2; omega
    · cases h
  · cases h
  · injection h with h1 h2; omega
theorem step_good {s t : Rd} {p : Nat} {r : Nat} (hf : s.f ≤ p) (h : stepS s p r = .good t) : t.f ≤ p + 1 := by
  unfold stepS at h
  cases hs : sg r <;> rw [hs] at h <;> simp only at h
  · split at h
    · cases h
    · injection h with h; subst h; exact Nat.le_refl _
  · split at h
    · cases h
    · injection h with h; subst h; exact Nat.le_succ_of_le hf
  · split at h
    · cases h
    · injection h with h; subst h; exact Nat.le_succ_of_le hf
  · split at h
    · cases h
    · injection h with h; subst h; exact Nat.le_succ_of_le hf
  · injection h with h; subst h; omega
  · cases h
theorem run_place : ∀ (cs : List (Nat × List UInt8)) (p : Nat) (s : Rd), s.f ≤ p → (∀ c ∈ cs, c.2 ≠ []) →
    (∀ a e, runS cs p s = .bad a e → a ≤ p + (glue cs).length) ∧ (∀ t, runS cs p s = .good t → t.f ≤ p + (glue cs).length)
  | [], p, s, hf, _ => ⟨fun a e h => by simp [runS] at h, fun t h => by simp only [runS, Rs.good.injEq] at h; subst h; omega⟩
  | c :: cs, p, s, hf, hc => by
    have h1 : 1 ≤ c.2.length := List.length_pos_iff.2 (hc c (List.mem_cons_self ..))
    have hg : (glue (c :: cs)).length = c.2.length + (glue cs).length := by simp [glue]
    rw [hg]
    cases hs : stepS s p c.1 with
    | bad a e =>
      have h2 := step_bad hf hs
      refine ⟨fun a' e' h => ?_, fun t h => ?_⟩
      · rw [runS, hs] at h; simp only [Rs.then, Rs.bad.injEq] at h; omega
      · rw [runS, hs] at h; simp [Rs.then] at h
    | good t =>
      have h2 := step_good hf hs
      have ih := run_place cs (p + c.2.length) t (by omega) (fun x hx => hc x (List.mem_cons_of_mem _ hx))
      refine ⟨fun a' e' h => ?_, fun t' h => ?_⟩
      · rw [runS, hs] at h; have := ih.1 a' e' h; omega
      · rw [runS, hs] at h; have := ih.2 t' h; omega
theorem parse_place {l : List UInt8} {a : Nat} {e : Int} (h : parseL l = .bad a e) : a ≤ l.length := by
  unfold parseL at h
  split at h
  · injection h with h1 h2; omega
  · have hp := run_place (chop l) 0 rd0 (Nat.le_refl _) (chop_piece l)
    rw [glue_chop] at hp
    split at h
    · rename_i he
      injection h with h1 h2
      have := hp.1 _ _ he
      omega
    · rename_i s he
      have hs := hp.2 _ he
      unfold endS at h
      split at h
      · injection h with h1 h2; omega
      · split at h
        · injection h with h1 h2; omega
        · split at h
          · injection h with h1 h2; omega
          · cases h
end Go.Proofs.YtlkabghpcjlohaaDoor
