/- Joined texts: T8 T9 T10 T11: walks and plain laws for this seat's program, each stated where it stands; conditions: as each states. -/
import Derived.Test.YtonibpilbkafnaaDoorJB
import Derived.ScopeJumps
import Derived.WalkMore
import Derived.Test.YtonibpilbkafnaaDoorShelf
/- A scope of several labels; the reader's calls, in the form in which Parse meets them. -/
namespace Go.Proofs.YtonibpilbkafnaaDoor
set_option linter.unusedVariables false
set_option linter.unusedSimpArgs false
open Go.RowKit Go.Lib

/-- As Q; by a goto to label l: J l. -/
def jumps (J : Nat → Act → World → Prop) (Q : Exit → Act → World → Prop) : Exit → Act → World → Prop
  | .goto l, a, w => J l a w
  | e, a, w => Q e a w
/-- a scope of several labels: what holds at each jump, and a measure that each pass lowers -/
theorem wp_scope_labels {P : Program} {a : Act} {w : World} {Q : Exit → Act → World → Prop} {c : Code} (J : Nat → Act → World → Prop) (μ : Nat → Act → World → Nat)
    (first : c.wp P (jumps J Q) a w)
    (pass : ∀ l a w, J l a w → ∃ rest, findLabel c l = some rest ∧ rest.wp P (jumps (fun l' a' w' => J l' a' w' ∧ μ l' a' w' < μ l a w) Q) a w) : (Code.scope c).wp P Q a w := by
  intro b k cs
  have hg : ∀ l rest, findLabel c l = some rest → gotoIn l (.inScope c :: k) = some (.code rest :: .inScope c :: k) := fun l rest hf => by simp [gotoIn, hf]
  have key : ∀ n l a w rest, μ l a w = n → J l a w → findLabel c l = some rest → ∃ e a' w', Q e a' w' ∧ Arrives P (lone (b.at a (.code rest :: .inScope c :: k)) cs w) b k cs e a' w' := by
    intro n
    induction n using Nat.strongRecOn with
    | _ n ih =>
      intro l a w rest hn hJ hf
      obtain ⟨rest', hf', hp⟩ := pass l a w hJ
      obtain rfl : rest' = rest := by rw [hf] at hf'; injection hf' with h; exact h.symm
      obtain ⟨e, a₁, w₁, hq, harr⟩ := hp b (.inScope c :: k) cs
      cases e with
      | normal => exact ⟨.normal, a₁, w₁, hq, Steps.trans harr (.one step_inScope)⟩
      | exit id => exact ⟨.exit id, a₁, w₁, hq, fun k' hk => harr k' (by simp [exitTo, hk])⟩
      | goto l' =>
        obtain ⟨hJ', hlt⟩ := hq
        obtain ⟨r2, hf2, _⟩ := pass l' a₁ w₁ hJ'
        obtain ⟨e₂, a₂, w₂, hq₂, harr₂⟩ := ih _ (by omega) l' a₁ w₁ r2 rfl hJ' hf2
        exact ⟨e₂, a₂, w₂, hq₂, .of_steps (harr _ (hg _ _ hf2)) harr₂⟩
      | ret => exact ⟨_, a₁, w₁, hq, harr⟩
      | panic ch => exact ⟨_, a₁, w₁, hq, harr⟩
      | outgrown => exact ⟨_, a₁, w₁, hq, harr⟩
  obtain ⟨e, a₁, w₁, hq, harr⟩ := first b (.inScope c :: k) cs
  cases e with
  | normal => exact ⟨.normal, a₁, w₁, hq, .head step_scope (Steps.trans harr (.one step_inScope))⟩
  | exit id => exact ⟨.exit id, a₁, w₁, hq, fun k' hk => .head step_scope (harr k' (by simp [exitTo, hk]))⟩
  | goto l' =>
    obtain ⟨r2, hf2, _⟩ := pass l' a₁ w₁ hq
    obtain ⟨e₂, a₂, w₂, hq₂, harr₂⟩ := key _ l' a₁ w₁ r2 rfl hq hf2
    exact ⟨e₂, a₂, w₂, hq₂, .of_steps (.head step_scope (harr _ (hg _ _ hf2))) harr₂⟩
  | ret => exact ⟨_, a₁, w₁, hq, .of_steps (.one step_scope) harr⟩
  | panic ch => exact ⟨_, a₁, w₁, hq, .of_steps (.one step_scope) harr⟩
  | outgrown => exact ⟨_, a₁, w₁, hq, .of_steps (.one step_scope) harr⟩

/-- what is left to be read, from place pos on -/
def endK (n : Nat) : Rs → Pr
  | .bad a e => .bad a e
  | .good t => endS n t
def contL (l : List UInt8) (pos : Nat) (s : Rd) : Pr := endK l.length (runS (chop (l.drop pos)) pos s)
theorem contL_end (s : ByteArray) (pos : Nat) (rd : Rd) (h : ¬ pos < s.size) : contL (bl s) pos rd = endS s.size rd := by
  unfold contL
  rw [chop_end s pos h, bl_length]
  rfl
theorem contL_at (s : ByteArray) (pos : Nat) (rd : Rd) (h : pos < s.size) :
    contL (bl s) pos rd = match stepS rd pos (Utf8.decode s pos).1 with | .bad a e => .bad a e | .good t => contL (bl s) (pos + (Utf8.decode s pos).2) t := by
  unfold contL
  rw [chop_at s pos h, runS, piece_len s pos h]
  simp only
  cases stepS rd pos (Utf8.decode s pos).1 <;> rfl
theorem parseL_cont {l : List UInt8} (h : ¬ 65536 < l.length) : parseL l = contL l 0 rd0 := by
  unfold parseL contL
  rw [if_neg h, List.drop_zero]
  cases runS (chop l) 0 rd0 <;> rfl

theorem put_full {p : Nat} {s : Rd} {b r d : Value} {W : World} (x : Bool) (hR : RdAt p s W b r d) (hk : RdOk s) (h : s.c = 16 ∨ s.h = 16) :
    Calls Tryd.prog 19 #[.pointer (some ⟨p, 0, none⟩), .bool x] W fun e W' => e = .returned (.bool false) ∧ W = W' :=
  (put_any p s x b r d W hR hk).mono fun e W' hq => by
    cases hq with
    | full _ => exact ⟨rfl, rfl⟩
    | good _ _ _ _ h' => exact absurd h h'
theorem put_good {p : Nat} {s : Rd} {b r d : Value} {W : World} (x : Bool) (hR : RdAt p s W b r d) (hk : RdOk s) (h : ¬ (s.c = 16 ∨ s.h = 16)) :
    Calls Tryd.prog 19 #[.pointer (some ⟨p, 0, none⟩), .bool x] W fun e W' => e = .returned (.bool true) ∧ Below p W W' ∧ ∃ b r d, RdAt p { s with c := s.c + 1, B := s.B ++ [x], R := s.R ++ [false], D := s.D ++ [false] } W' b r d :=
  (put_any p s x b r d W hR hk).mono fun e W' hq => by
    cases hq with
    | full h' => exact absurd h' h
    | good b r d _ _ hr hb => exact ⟨rfl, hb, b, r, d, hr⟩
theorem RdOk.ne {s : Rd} (k : RdOk s) (hc : s.c ≠ 0) : s.B.length ≠ 0 := by rcases k.b with h | h <;> omega
theorem RdOk.setR {s : Rd} (k : RdOk s) {l : List Bool} (h : l.length = s.R.length) : RdOk { s with R := l } := ⟨k.h, k.w, k.c, k.b, h.trans k.r, k.d, k.g⟩
theorem RdOk.setD {s : Rd} (k : RdOk s) {l : List Bool} (h : l.length = s.D.length) : RdOk { s with D := l } := ⟨k.h, k.w, k.c, k.b, k.r, h.trans k.d, k.g⟩
theorem RdOk.setF {s : Rd} (k : RdOk s) (f : Nat) : RdOk { s with f := f } := ⟨k.h, k.w, k.c, k.b, k.r, k.d, k.g⟩
theorem barL_len {c : Nat} {l k : List Bool} (h : barL c l = some k) (hl : l ≠ []) : k.length = l.length := by
  unfold barL at h
  split at h
  · cases h
  · injection h with h
    subst h
    have := List.length_pos_iff.2 hl
    simp; omega
theorem barR_no {p : Nat} {s : Rd} {b r d : Value} {W : World} (hR : RdAt p s W b r d) (hk : RdOk s) (h : barL s.c s.R = none) :
    Calls Tryd.prog 20 #[.pointer (some ⟨p, 0, none⟩), r] W fun e W' => e = .returned (.bool false) ∧ W = W' :=
  (bar_any p s.h s.w s.c b r d r s.R W hR.blk hR.oR (fun hc e => by have := hk.ne hc; have := hk.r; rw [e] at this; simp at this; omega) (by have := hk.small; have := hk.r; omega) hk.c).mono fun e W' hq => by
    cases hq with
    | no _ => exact ⟨rfl, rfl⟩
    | yes g cap k hl hc hv => rw [hl, barL_snoc _ _ _ hc] at h; cases h
theorem barR_yes {p : Nat} {s : Rd} {b r d : Value} {W : World} {k : List Bool} (hR : RdAt p s W b r d) (hk : RdOk s) (h : barL s.c s.R = some k) :
    Calls Tryd.prog 20 #[.pointer (some ⟨p, 0, none⟩), r] W fun e W' => e = .returned (.bool true) ∧ Below p W W' ∧ RdAt p { s with R := k } W' b r d :=
  (bar_any p s.h s.w s.c b r d r s.R W hR.blk hR.oR (fun hc e => by have := hk.ne hc; have := hk.r; rw [e] at this; simp at this; omega) (by have := hk.small; have := hk.r; omega) hk.c).mono fun e W' hq => by
    cases hq with
    | no h' => rw [h] at h'; cases h'
    | yes g cap k2 hl hc hv =>
      rw [hl, barL_snoc _ _ _ hc, if_neg (by simp)] at h
      injection h with h
      subst h
      have h1 := hR.oR
      rw [hv] at h1
      exact ⟨rfl, (Below.refl p W).setCell (p := ⟨g, k2.length, none⟩) (by have := row_block h1; simp only; omega) _, hR.barR hl hv⟩
theorem barD_no {p : Nat} {s : Rd} {b r d : Value} {W : World} (hR : RdAt p s W b r d) (hk : RdOk s) (h : barL s.c s.D = none) :
    Calls Tryd.prog 20 #[.pointer (some ⟨p, 0, none⟩), d] W fun e W' => e = .returned (.bool false) ∧ W = W' :=
  (bar_any p s.h s.w s.c b r d d s.D W hR.blk hR.oD (fun hc e => by have := hk.ne hc; have := hk.d; rw [e] at this; simp at this; omega) (by have := hk.small; have := hk.d; omega) hk.c).mono fun e W' hq => by
    cases hq with
    | no _ => exact ⟨rfl, rfl⟩
    | yes g cap k hl hc hv => rw [hl, barL_snoc _ _ _ hc] at h; cases h
theorem barD_yes {p : Nat} {s : Rd} {b r d : Value} {W : World} {k : List Bool} (hR : RdAt p s W b r d) (hk : RdOk s) (h : barL s.c s.D = some k) :
    Calls Tryd.prog 20 #[.pointer (some ⟨p, 0, none⟩), d] W fun e W' => e = .returned (.bool true) ∧ Below p W W' ∧ RdAt p { s with D := k } W' b r d :=
  (bar_any p s.h s.w s.c b r d d s.D W hR.blk hR.oD (fun hc e => by have := hk.ne hc; have := hk.d; rw [e] at this; simp at this; omega) (by have := hk.small; have := hk.d; omega) hk.c).mono fun e W' hq => by
    cases hq with
    | no h' => rw [h] at h'; cases h'
    | yes g cap k2 hl hc hv =>
      rw [hl, barL_snoc _ _ _ hc, if_neg (by simp)] at h
      injection h with h
      subst h
      have h1 := hR.oD
      rw [hv] at h1
      exact ⟨rfl, (Below.refl p W).setCell (p := ⟨g, k2.length, none⟩) (by have := row_block h1; simp only; omega) _, hR.barD hl hv⟩
theorem rowS_ok {s t : Rd} (h : rowS s = some t) (hk : RdOk s) : RdOk t ∧ t.f = s.f := by
  unfold rowS at h
  split at h
  · injection h with h; subst h; exact ⟨hk, rfl⟩
  · rename_i h0
    split at h
    · cases h
    · rename_i h1
      injection h with h; subst h
      refine ⟨⟨?_, hk.c, by show 0 ≤ 16; omega, .inl ?_, hk.r, hk.d, fun h => absurd rfl h⟩, rfl⟩
      · have := hk.g h0; show s.h + 1 ≤ 16; omega
      · show s.B.length = (s.h + 1) * s.c + 0
        rcases hk.b with h2 | h2
        · by_cases h3 : s.h = 0
          · rw [h2, h3]; omega
          · have : s.c = s.w := by omega
            rw [h2, this, Nat.add_mul]; omega
        · rw [h2.2, h2.1]; omega
theorem row_good {p : Nat} {s t : Rd} {b r d : Value} {W : World} (hR : RdAt p s W b r d) (hk : RdOk s) (h : rowS s = some t) :
    Calls Tryd.prog 21 #[.pointer (some ⟨p, 0, none⟩)] W fun e W' => e = .returned (.bool true) ∧ Below p W W' ∧ RdAt p t W' b r d :=
  (row_any p s.h s.w s.c b r d W hR.blk hk.h hk.w hk.c).mono fun e W' hq => by
    unfold rowS at h
    cases hq with
    | none h0 =>
      rw [if_pos h0] at h
      injection h with h; subst h
      exact ⟨rfl, Below.refl _ _, hR⟩
    | bad q h0 h1 h2 =>
      rw [if_neg h0, if_pos ⟨h1, h2⟩] at h
      cases h
    | good q h0 h1 =>
      rw [if_neg h0, if_neg h1] at h
      injection h with h; subst h
      have lt := Nat.lt_succ_self p
      refine ⟨rfl, (((bdraw (Below.refl p W) q).setCell (p := ⟨p, 0, none⟩) (Nat.le_refl _) _).setCell (p := ⟨p, 1, none⟩) (Nat.le_refl _) _).setCell (p := ⟨p, 5, none⟩) (Nat.le_refl _) _, ?_, ?_, ?_, ?_, hR.br, hR.bd, hR.rd⟩
      · exact heap_setCell_same _ p 5 _ _ _ (heap_setCell_same _ p 1 _ _ _ (heap_setCell_same (W.drewN q) p 0 _ _ _ hR.blk))
      · exact ownsRow_setCell_below (ownsRow_setCell_below (ownsRow_setCell_below (hR.draw q).oB (a := ⟨p, 0, none⟩) lt _) (a := ⟨p, 1, none⟩) lt _) (a := ⟨p, 5, none⟩) lt _
      · exact ownsRow_setCell_below (ownsRow_setCell_below (ownsRow_setCell_below (hR.draw q).oR (a := ⟨p, 0, none⟩) lt _) (a := ⟨p, 1, none⟩) lt _) (a := ⟨p, 5, none⟩) lt _
      · exact ownsRow_setCell_below (ownsRow_setCell_below (ownsRow_setCell_below (hR.draw q).oD (a := ⟨p, 0, none⟩) lt _) (a := ⟨p, 1, none⟩) lt _) (a := ⟨p, 5, none⟩) lt _
theorem row_bad {p : Nat} {s : Rd} {b r d : Value} {W : World} (hR : RdAt p s W b r d) (hk : RdOk s) (h : rowS s = none) :
    Calls Tryd.prog 21 #[.pointer (some ⟨p, 0, none⟩)] W fun e W' => e = .returned (.bool false) ∧ Below p W W' :=
  (row_any p s.h s.w s.c b r d W hR.blk hk.h hk.w hk.c).mono fun e W' hq => by
    unfold rowS at h
    cases hq with
    | none h0 => rw [if_pos h0] at h; cases h
    | bad q h0 h1 h2 => exact ⟨rfl, bdraw (Below.refl _ _) q⟩
    | good q h0 h1 => rw [if_neg h0, if_neg h1] at h; cases h
end Go.Proofs.YtonibpilbkafnaaDoor

/- Package sketch: Parse. -/
namespace Go.Proofs.YtonibpilbkafnaaDoor
set_option linter.unusedVariables false
set_option linter.unusedSimpArgs false
open Go.RowKit Go.Lib

theorem wp_labels_entry {P : Program} {a : Act} {w : World} {Q : Exit → Act → World → Prop} {c rest : Code} (l₀ : Nat) (J : Nat → Act → World → Prop) (μ : Nat → Act → World → Nat) (hf : findLabel c l₀ = some (Code.skip.seq rest))
    (first : (∀ a w, J l₀ a w → rest.wp P (jumps J Q) a w) → c.wp P (jumps J Q) a w)
    (pass : ∀ l a w, J l a w → ∃ rest, findLabel c l = some (Code.skip.seq rest) ∧ rest.wp P (jumps (fun l' a' w' => J l' a' w' ∧ μ l' a' w' < μ l a w) Q) a w) : (Code.scope c).wp P Q a w :=
  wp_scope_labels J μ (first (fun a w hJ => by
    obtain ⟨r, hr, hp⟩ := pass l₀ a w hJ
    obtain rfl : r = rest := by rw [hf] at hr; injection hr with h; injection h with h1 h2; exact h2.symm
    refine wp_mono hp (fun e a' w' h => ?_)
    cases e with
    | goto l' => exact h.1
    | normal => exact h
    | exit id => exact h
    | ret => exact h
    | panic ch => exact h
    | outgrown => exact h)) (fun l a w hJ => by
    obtain ⟨r, hr, hp⟩ := pass l a w hJ
    exact ⟨_, hr, wp_seq (wp_skip (by simp only [Exit.then]; exact hp))⟩)

def nilG : Value := .agg #[.int .i64 0, .int .i64 0, .slice none 0 0, .slice none 0 0, .slice none 0 0]
abbrev grid0 : Obj := .cells #[.int .i64 0, .int .i64 0, .slice none 0 0, .slice none 0 0, .slice none 0 0] 27
def ParsePost (s : ByteArray) (w : World) (e : Ending) (w' : World) : Prop :=
  Below w.heap.size w w' ∧ match parseL (bl s) with
    | .bad a er => e = .returned (.tuple #[.agg #[.int .i64 0, .int .i64 0, .slice none 0 0, .slice none 0 0, .slice none 0 0], .int .i64 (a : Nat), .int .i64 er])
    | .good g => ∃ v, e = .returned (.tuple #[v, .int .i64 0, .int .i64 0]) ∧ GdAt w' w'.heap.size v g
/-- what holds at a label -/
def PL (s : ByteArray) (rd : Rd) (pos wd sn : Nat) : Nat → Prop
  | 0 => pos + wd ≤ s.size ∧ contL (bl s) (pos + wd) rd = parseL (bl s)
  | 1 => pos = s.size ∧ contL (bl s) pos rd = parseL (bl s)
  | 2 => pos < s.size ∧ Utf8.decode s pos = (sn, wd) ∧ contL (bl s) pos rd = parseL (bl s) ∧ sn = 10
  | 3 => pos < s.size ∧ Utf8.decode s pos = (sn, wd) ∧ contL (bl s) pos rd = parseL (bl s) ∧ (sn = 35 ∨ sn = 9632 ∨ sn = 46 ∨ sn = 9633)
  | 4 => pos < s.size ∧ Utf8.decode s pos = (sn, wd) ∧ contL (bl s) pos rd = parseL (bl s) ∧ (sn = 124 ∨ sn = 95)
  | _ => False
abbrev pFr (s : ByteArray) (w : World) (rd : Rd) (pos wd sn : Nat) (u : Nat → Value) : Act := { tmps := #[.string s, u 1, .pointer (some ⟨w.heap.size, 0, none⟩), .int .i64 0, .int .i64 0, .pointer (some ⟨w.heap.size + 1, 0, none⟩), .int .i64 (pos : Nat), .int .i64 (rd.f : Nat), .int .i64 (wd : Nat), .int .i32 (sn : Nat), u 10, u 11, u 12, u 13, u 14, u 15, u 16, u 17, u 18, u 19, u 20, u 21, u 22, u 23, u 24, u 25, u 26, u 27, u 28, u 29, u 30, u 31, u 32, u 33, u 34, u 35, u 36, u 37, u 38, u 39, u 40, u 41, u 42, u 43, u 44, u 45, u 46, u 47, u 48, u 49, u 50, u 51, u 52, u 53, u 54, u 55, u 56, u 57, u 58, u 59, u 60, u 61, u 62, u 63, u 64, u 65, u 66, u 67, u 68, u 69, u 70, u 71, u 72, u 73, u 74, u 75, u 76, u 77, u 78, u 79, u 80, u 81, u 82, u 83, u 84, u 85, u 86, u 87, u 88, u 89, u 90, u 91, u 92, u 93, u 94, u 95, u 96, u 97], defers := [] }
def PJ (s : ByteArray) (w : World) (l : Nat) (a' : Act) (w' : World) : Prop :=
  ∃ (rd : Rd) (pos wd sn : Nat) (b r d : Value) (u : Nat → Value), a' = pFr s w rd pos wd sn u ∧ RdAt (w.heap.size + 1) rd w' b r d ∧ RdOk rd ∧ Below (w.heap.size + 1) (w.alloc grid0) w' ∧ PL s rd pos wd sn l ∧ rd.f ≤ pos + wd
theorem results_grid {fn : Func} {p u v : Tmp} (h : fn.results = #[.cell p 27, .tmp u, .tmp v]) (tmps : Array Value) (W : World) (g : Nat) (t : TypeId) (c0 c1 c2 c3 c4 : Value) (fr : Nat × Nat)
    (hp : tmps.getD p undef = .pointer (some ⟨g, 0, none⟩)) (hg : W.heap[g]? = some (.cells #[c0, c1, c2, c3, c4] t fr)) :
    (results fn tmps).run Tryd.prog W = .ok (.tuple #[.agg #[c0, c1, c2, c3, c4], tmps.getD u undef, tmps.getD v undef]) W := by
  have hp' : tmps[p]?.getD undef = .pointer (some ⟨g, 0, none⟩) := by simpa using hp
  have hl := run_loadVar_row (P := Tryd.prog) W g t 27 _ fr _ hg Tryd.underlying27 rfl (by kernel_rfl)
  simp [results, h, hp', asAddr, hl]
theorem stored5 {W : World} {g : Nat} {t : TypeId} {a0 a1 a2 a3 a4 : Value} (x0 x1 x2 x3 x4 : Value) (hg : W.heap[g]? = some (.cells #[a0, a1, a2, a3, a4] t (0, 0))) :
    (((((W.setCell ⟨g, 0, none⟩ x0).setCell ⟨g, 1, none⟩ x1).setCell ⟨g, 2, none⟩ x2).setCell ⟨g, 3, none⟩ x3).setCell ⟨g, 4, none⟩ x4).heap[g]? = some (.cells #[x0, x1, x2, x3, x4] t (0, 0)) :=
  heap_setCell_same _ g 4 _ _ _ (heap_setCell_same _ g 3 _ _ _ (heap_setCell_same _ g 2 _ _ _ (heap_setCell_same _ g 1 _ _ _ (heap_setCell_same W g 0 _ _ _ hg))))
theorem below5 {W : World} {g B : Nat} {x0 x1 x2 x3 x4 : Value} {w : World} (h : Below B w W) (hB : B ≤ g) :
    Below B w (((((W.setCell ⟨g, 0, none⟩ x0).setCell ⟨g, 1, none⟩ x1).setCell ⟨g, 2, none⟩ x2).setCell ⟨g, 3, none⟩ x3).setCell ⟨g, 4, none⟩ x4) :=
  ((((h.setCell (p := ⟨g, 0, none⟩) hB _).setCell (p := ⟨g, 1, none⟩) hB _).setCell (p := ⟨g, 2, none⟩) hB _).setCell (p := ⟨g, 3, none⟩) hB _).setCell (p := ⟨g, 4, none⟩) hB _
theorem grid_bad {s : ByteArray} {w W : World} {a' : Act} {g : Nat} {t : TypeId} {a : Nat} {er : Int} (ht : a'.tmps.getD 2 undef = .pointer (some ⟨g, 0, none⟩)) (h3 : a'.tmps.getD 3 undef = .int .i64 (a : Nat)) (h4 : a'.tmps.getD 4 undef = .int .i64 er) (hd : a'.defers = [])
    (hg : W.heap[g]? = some (.cells #[.int .i64 0, .int .i64 0, .slice none 0 0, .slice none 0 0, .slice none 0 0] t (0, 0))) (hb : Below w.heap.size w W) (hp : parseL (bl s) = .bad a er) :
    bodyPost Tryd.prog Tryd.f6 (ParsePost s w) .ret a' W := by
  refine bodyPost_ret (results_grid Tryd.results6 _ W g t _ _ _ _ _ _ ht hg) hd ?_
  unfold ParsePost
  rw [hp, h3, h4]
  exact ⟨hb, rfl⟩
theorem own5 {W : World} {g B e n : Nat} {v : Value} {xs : List Value} {x0 x1 x2 x3 x4 : Value} (h : W.ownsRow B e 1 v n xs) (hg : g < B) :
    (((((W.setCell ⟨g, 0, none⟩ x0).setCell ⟨g, 1, none⟩ x1).setCell ⟨g, 2, none⟩ x2).setCell ⟨g, 3, none⟩ x3).setCell ⟨g, 4, none⟩ x4).ownsRow B e 1 v n xs :=
  ownsRow_setCell_below (ownsRow_setCell_below (ownsRow_setCell_below (ownsRow_setCell_below (ownsRow_setCell_below h (a := ⟨g, 0, none⟩) hg _) (a := ⟨g, 1, none⟩) hg _) (a := ⟨g, 2, none⟩) hg _) (a := ⟨g, 3, none⟩) hg _) (a := ⟨g, 4, none⟩) hg _
theorem grid_good {s : ByteArray} {w W : World} {a' : Act} {g B : Nat} {T : TypeId} {t : Rd} {b r d : Value} (ht : a'.tmps.getD 2 undef = .pointer (some ⟨g, 0, none⟩)) (h3 : a'.tmps.getD 3 undef = .int .i64 0) (h4 : a'.tmps.getD 4 undef = .int .i64 0) (hd : a'.defers = [])
    (hg : W.heap[g]? = some (.cells #[.int .i64 (t.h : Int), .int .i64 (t.w : Int), b, r, d] T (0, 0))) (hb : Below w.heap.size w W) (k : RdOk t) (oB : W.ownsRow B 4 1 b t.B.length (bools t.B)) (oR : W.ownsRow B 4 1 r t.R.length (bools t.R)) (oD : W.ownsRow B 4 1 d t.D.length (bools t.D)) (hp : parseL (bl s) = .good (gdOf t)) :
    bodyPost Tryd.prog Tryd.f6 (ParsePost s w) .ret a' W := by
  refine bodyPost_ret (results_grid Tryd.results6 _ W g T _ _ _ _ _ _ ht hg) hd ?_
  unfold ParsePost
  rw [hp, h3, h4]
  have h1 := k.h; have h2 := k.w
  exact ⟨hb, _, rfl, ⟨by show _ ≤ (t.h : Int); omega, by show (t.h : Int) ≤ _; omega⟩, ⟨by show _ ≤ (t.w : Int); omega, by show (t.w : Int) ≤ _; omega⟩, b, r, d, rfl, Sl.of_own oB, Sl.of_own oR, Sl.of_own oD⟩
theorem PJ_intro {s : ByteArray} {w w' : World} {a' : Act} (l : Nat) (rd : Rd) (pos wd sn : Nat) (b r d : Value) (h : a' = pFr s w rd pos wd sn (fun k => a'.tmps.getD k undef)) (hR : RdAt (w.heap.size + 1) rd w' b r d) (hk : RdOk rd) (hb : Below (w.heap.size + 1) (w.alloc grid0) w') (hl : PL s rd pos wd sn l) (hf : rd.f ≤ pos + wd) : PJ s w l a' w' :=
  ⟨rd, pos, wd, sn, b, r, d, _, h, hR, hk, hb, hl, hf⟩
def pMu (n : Nat) (l : Nat) (a' : Act) : Nat := match a'.tmps.getD 6 undef, a'.tmps.getD 8 undef with
  | .int _ x, .int _ y => if l = 0 then 2 * (n - (x + y).toNat) + 1 else if l = 1 then 0 else 2 * (n - x.toNat)
  | _, _ => 0

set_option maxHeartbeats 16000000 in
set_option maxRecDepth 100000 in
theorem Parse_any (s : ByteArray) (w : World) (hT : Tabs w) (hs : s.size ≤ 17592186044416) :
    Calls Tryd.prog 6 #[.string s] w (ParsePost s w) := by
  by_cases hbig : 65536 < s.size
  · have hp : parseL (bl s) = .bad 65536 1 := by unfold parseL; rw [if_pos (by rw [bl_length]; exact hbig)]
    have HP := Lib.hid hp; clear hp
    go_enter Tryd.func6, Tryd.ntmps6
    go_wp2
    refine wp_scope_labels (fun _ _ _ => False) (fun _ _ _ => 0) ?_ (fun _ _ _ h => h.elim)
    go_wp2
    simp only [jumps]
    refine bodyPost_ret (v := .tuple #[.agg #[.int .i64 0, .int .i64 0, .slice none 0 0, .slice none 0 0, .slice none 0 0], .int .i64 65536, .int .i64 1]) (by simp [results, Tryd.results6, go_sem]) rfl ?_
    unfold ParsePost
    rw [HP.out]
    exact ⟨(Below.refl _ w).alloc (Nat.le_refl _) _, rfl⟩
  · have HT := Lib.hid hT; clear hT
    have hPC := parseL_cont (l := bl s) (by rw [bl_length]; exact hbig)
    have HPC := Lib.hid hPC; clear hPC
    have hsb : s.size ≤ 65536 := by omega
    clear hbig hs
    go_enter Tryd.func6, Tryd.ntmps6
    go_wp2
    refine wp_labels_entry 0 (PJ s w) (fun l a' _ => pMu s.size l a') rfl ?_ ?_
    · intro hk
      have HKK := Lib.hid hk; clear hk
      go_wp2
      go_step3
      rename_i K hK
      simp only [Exit.then]
      refine hK _ _ (HKK.out _ _ (PJ_intro 0 rd0 0 0 0 _ _ _ rfl ⟨?_, World.ownsRow_nil _ _ _ _, World.ownsRow_nil _ _ _ _, World.ownsRow_nil _ _ _ _, (fun j hj => by cases hj), (fun j hj => by cases hj), (fun j hj => by cases hj)⟩ ⟨by decide, by decide, by decide, .inl rfl, rfl, rfl, fun h => absurd rfl h⟩ ?_ ⟨Nat.zero_le _, HPC.out.symm⟩ (Nat.le_refl _)))
      · have := World.alloc_heap_new (w.alloc grid0) (.cells #[.int .i64 0, .int .i64 0, .slice none 0 0, .slice none 0 0, .slice none 0 0, .int .i64 0] 56)
        rw [World.size_alloc] at this
        exact this
      · exact (Below.refl _ _).alloc (by simp) _
    · rintro l a' w' ⟨rd, pos, wd, sn, b, r, d, u, rfl, hR, hok, hb, hpl, hf⟩
      have hbw : Below w.heap.size w w' := ((Below.refl w.heap.size w).alloc (Nat.le_refl _) grid0).trans (hb.mono (by simp))
      have HT' := Lib.hid (HT.out.below hbw)
      have hl : l = 0 ∨ l = 1 ∨ l = 2 ∨ l = 3 ∨ l = 4 := by
        rcases l with _ | _ | _ | _ | _ | l
        · exact .inl rfl
        · exact .inr (.inl rfl)
        · exact .inr (.inr (.inl rfl))
        · exact .inr (.inr (.inr (.inl rfl)))
        · exact .inr (.inr (.inr (.inr rfl)))
        · exact hpl.elim
      have HR := Lib.hid hR; have HOK := Lib.hid hok; have HB := Lib.hid hb; have HBW := Lib.hid hbw
      clear hR hok hb hbw
      rcases hl with rfl | rfl | rfl | rfl | rfl
      · refine ⟨_, rfl, ?_⟩
        obtain ⟨hps, hcont⟩ := hpl
        by_cases hp : pos + wd < s.size
        · have hcat := contL_at s (pos + wd) rd hp
          rw [hcont] at hcat
          obtain ⟨q, hq⟩ : ∃ q, q = pos + wd := ⟨_, rfl⟩
          rw [← hq] at hp hcat hcont hps hf
          have k1 : (pos : Int) + (wd : Int) = (q : Int) := by omega
          have hq0 : ((pos : Int) + (wd : Int)).toNat = q := by omega
          have hcn : ∀ W, Tabs W → Calls Tryd.prog 17 #[.string s, .int .i64 (q : Int)] W fun e w' => e = .returned (.tuple #[.int .i32 ((Utf8.decode s q).1 : Nat), .int .i64 ((Utf8.decode s q).2 : Nat)]) ∧ Below W.heap.size W w' := fun W hW => by
            have h := Next_any s (q : Int) W hW (by omega)
            have e9 : nextL (bl s) (q : Int) = Utf8.decode s q := by
              unfold nextL
              rw [if_neg (by rw [bl_length]; omega), Int.toNat_natCast, ← dec_at]
            rw [e9] at h
            exact h
          have hw1 := Lib.width_pos s q
          have hw2 := width_le s q hp
          obtain ⟨⟨sn2, wd2⟩, hd⟩ : ∃ d, Utf8.decode s q = d := ⟨_, rfl⟩
          rw [hd] at hw1 hw2 hcn hcat
          simp only at hw1 hw2 hcn hcat
          have CN := Lib.hid hcn; have HD := Lib.hid hd; have HC := Lib.hid hcont; have HCA := Lib.hid hcat; have HQ0 := Lib.hid hq0; have HQ := Lib.hid hq
          have hsz := HB.out.size
          rw [World.size_alloc] at hsz
          clear hcn hd hcont hcat hq0 hq
          by_cases g1 : sn2 = 10
          · subst g1
            go_wp2_with (go_at_call 17; refine (CN.out _ HT'.out).mono ?_; rintro e w2 ⟨rfl, hb2⟩)
            go_step3
            exact ⟨PJ_intro 2 rd q wd2 10 b r d rfl (HR.out.below hb2) HOK.out (HB.out.trans (hb2.mono hsz)) ⟨hp, HD.out, HC.out, rfl⟩ (by omega), by show 2 * (s.size - ((q : Int)).toNat) < 2 * (s.size - ((pos : Int) + (wd : Int)).toNat) + 1; rw [HQ0.out]; omega⟩
          by_cases g2 : sn2 = 35 ∨ sn2 = 9632 ∨ sn2 = 46 ∨ sn2 = 9633
          · rcases g2 with rfl | rfl | rfl | rfl
            all_goals
              go_wp2_with (go_at_call 17; refine (CN.out _ HT'.out).mono ?_; rintro e w2 ⟨rfl, hb2⟩)
              go_step3
              exact ⟨PJ_intro 3 rd q wd2 _ b r d rfl (HR.out.below hb2) HOK.out (HB.out.trans (hb2.mono hsz)) ⟨hp, HD.out, HC.out, by decide⟩ (by omega), by show 2 * (s.size - ((q : Int)).toNat) < 2 * (s.size - ((pos : Int) + (wd : Int)).toNat) + 1; rw [HQ0.out]; omega⟩
          by_cases g3 : sn2 = 124 ∨ sn2 = 95
          · rcases g3 with rfl | rfl
            all_goals
              go_wp2_with (go_at_call 17; refine (CN.out _ HT'.out).mono ?_; rintro e w2 ⟨rfl, hb2⟩)
              go_step3
              exact ⟨PJ_intro 4 rd q wd2 _ b r d rfl (HR.out.below hb2) HOK.out (HB.out.trans (hb2.mono hsz)) ⟨hp, HD.out, HC.out, by decide⟩ (by omega), by show 2 * (s.size - ((q : Int)).toNat) < 2 * (s.size - ((pos : Int) + (wd : Int)).toNat) + 1; rw [HQ0.out]; omega⟩
          have ck := fun W => Class_any (sn2 : Int) W
          have hsg : sg sn2 = if cls (sn2 : Int) = 3 then .blank else .none := by
            unfold sg
            rw [if_neg g1, if_neg (by omega), if_neg (by omega), if_neg (by omega), if_neg (by omega)]
          generalize hcl : cls (sn2 : Int) = q3 at *
          have m1 : ((sn2 : Int) == 10) = false := by simp; omega
          have m2 : ((sn2 : Int) == 35) = false := by simp; omega
          have m3 : ((sn2 : Int) == 9632) = false := by simp; omega
          have m4 : ((sn2 : Int) == 46) = false := by simp; omega
          have m5 : ((sn2 : Int) == 9633) = false := by simp; omega
          have m6 : ((sn2 : Int) == 124) = false := by simp; omega
          have m7 : ((sn2 : Int) == 95) = false := by simp; omega
          have CK := Lib.hid ck; have HCL := Lib.hid hcl
          clear ck hcl g1 g2 g3
          by_cases h3 : q3 = 3
          · have m8 : (q3 == 3) = true := by simp [h3]
            rw [if_pos h3] at hsg
            have hcat := HCA.out
            unfold stepS at hcat
            rw [hsg] at hcat
            simp only at hcat
            have HN := Lib.hid hcat
            have H3 := Lib.hid h3
            clear hsg hcat h3
            go_wp2_with (first | (go_at_call 17; refine (CN.out _ HT'.out).mono ?_; rintro e w2 ⟨rfl, hb2⟩) | (go_at_call 18; refine (CK.out _).mono ?_; rintro e w3 ⟨rfl, rfl⟩))
            go_step3
            exact ⟨PJ_intro 0 rd q wd2 _ b r d rfl (HR.out.below hb2) HOK.out (HB.out.trans (hb2.mono hsz)) ⟨hw2, HN.out.symm⟩ (by omega), by show 2 * (s.size - ((q : Int) + (wd2 : Int)).toNat) + 1 < 2 * (s.size - ((pos : Int) + (wd : Int)).toNat) + 1; rw [HQ0.out]; omega⟩
          · have m8 : (q3 == 3) = false := by simp [h3]
            rw [if_neg h3] at hsg
            have hcat := HCA.out
            unfold stepS at hcat
            rw [hsg] at hcat
            simp only at hcat
            have HN := Lib.hid hcat
            clear hsg hcat h3
            have hg := (HB.out.block w.heap.size (by simp)).trans (World.alloc_heap_new w grid0)
            have HG := Lib.hid hg; clear hg
            go_wp2_with (first | (go_at_call 17; refine (CN.out _ HT'.out).mono ?_; rintro e w2 ⟨rfl, hb2⟩; have hg2 := Lib.hid ((hb2.block w.heap.size (by omega)).trans HG.out); have c0 := Lib.cell_of_heap hg2.out 0; have c1 := Lib.cell_of_heap hg2.out 1; have c2 := Lib.cell_of_heap hg2.out 2; have c3 := Lib.cell_of_heap hg2.out 3; have c4 := Lib.cell_of_heap hg2.out 4; have f0 := Lib.frozen_of_heap hg2.out 0; have f1 := Lib.frozen_of_heap hg2.out 1; have f2 := Lib.frozen_of_heap hg2.out 2; have f3 := Lib.frozen_of_heap hg2.out 3; have f4 := Lib.frozen_of_heap hg2.out 4) | (go_at_call 18; refine (CK.out _).mono ?_; rintro e w3 ⟨rfl, rfl⟩))
            simp only [jumps]
            exact grid_bad rfl rfl rfl rfl (stored5 _ _ _ _ _ hg2.out) (below5 (HBW.out.trans (hb2.mono HBW.out.size)) (Nat.le_refl _)) HN.out
        · obtain hpe : pos + wd = s.size := by omega
          have HPE := Lib.hid hpe
          have k1 : (pos : Int) + (wd : Int) = (s.size : Int) := by omega
          rw [hpe] at hcont
          have HC := Lib.hid hcont
          clear hcont hpe
          go_wp2
          go_step3
          exact ⟨PJ_intro 1 rd s.size wd sn b r d rfl HR.out HOK.out HB.out ⟨rfl, HC.out⟩ (by have := HPE.out; omega), by show 0 < _ + 1; omega⟩
      · refine ⟨_, rfl, ?_⟩
        have hg := (HB.out.block w.heap.size (by simp)).trans (World.alloc_heap_new w grid0)
        have HG := Lib.hid hg; clear hg
        have hsz := HB.out.size
        rw [World.size_alloc] at hsz
        have hlt9 := HBW.out.size
        obtain ⟨hpe, hcont⟩ := hpl
        rw [contL_end s pos rd (by omega)] at hcont
        unfold endS at hcont
        cases hrow : rowS rd with
        | none =>
          rw [hrow] at hcont
          simp only at hcont
          have CR := Lib.hid (row_bad HR.out HOK.out hrow)
          have HN := Lib.hid hcont
          clear hrow hcont hpe
          go_wp2_with (go_at_call 21; refine CR.out.mono ?_; rintro e w2 ⟨rfl, hb2⟩; have hg2 := Lib.hid ((hb2.block w.heap.size (Nat.lt_succ_self _)).trans HG.out); have c0 := Lib.cell_of_heap hg2.out 0; have c1 := Lib.cell_of_heap hg2.out 1; have c2 := Lib.cell_of_heap hg2.out 2; have c3 := Lib.cell_of_heap hg2.out 3; have c4 := Lib.cell_of_heap hg2.out 4; have f0 := Lib.frozen_of_heap hg2.out 0; have f1 := Lib.frozen_of_heap hg2.out 1; have f2 := Lib.frozen_of_heap hg2.out 2; have f3 := Lib.frozen_of_heap hg2.out 3; have f4 := Lib.frozen_of_heap hg2.out 4)
          simp only [jumps]
          exact grid_bad rfl rfl rfl rfl (stored5 _ _ _ _ _ hg2.out) (below5 (HBW.out.trans (hb2.mono (Nat.le_succ _))) (Nat.le_refl _)) HN.out.symm
        | some t =>
          rw [hrow] at hcont
          simp only at hcont
          have CR := Lib.hid (row_good HR.out HOK.out hrow)
          have HOK2 := Lib.hid (rowS_ok hrow HOK.out).1
          clear hrow
          by_cases h0 : t.h = 0
          · rw [if_pos h0] at hcont
            have HN := Lib.hid hcont; have H0 := Lib.hid h0
            clear hcont hpe h0
            have z0 : ((t.h : Int) == 0) = true := by rw [H0.out]; rfl
            go_wp2_with (go_at_call 21; refine CR.out.mono ?_; rintro e w2 ⟨rfl, hb2, hr2⟩; have hg2 := Lib.hid ((hb2.block w.heap.size (Nat.lt_succ_self _)).trans HG.out); have c0 := Lib.cell_of_heap hg2.out 0; have c1 := Lib.cell_of_heap hg2.out 1; have c2 := Lib.cell_of_heap hg2.out 2; have c3 := Lib.cell_of_heap hg2.out 3; have c4 := Lib.cell_of_heap hg2.out 4; have f0 := Lib.frozen_of_heap hg2.out 0; have f1 := Lib.frozen_of_heap hg2.out 1; have f2 := Lib.frozen_of_heap hg2.out 2; have f3 := Lib.frozen_of_heap hg2.out 3; have f4 := Lib.frozen_of_heap hg2.out 4; have p0 := Lib.cell_of_heap hr2.blk 0)
            simp only [jumps]
            exact grid_bad rfl rfl rfl rfl (stored5 _ _ _ _ _ hg2.out) (below5 (HBW.out.trans (hb2.mono (Nat.le_succ _))) (Nat.le_refl _)) HN.out.symm
          · rw [if_neg h0] at hcont
            have z0 : ((t.h : Int) == 0) = false := by simp; omega
            have hsm := HOK2.out.small; have hrl := HOK2.out.r; have hdl := HOK2.out.d; have th := HOK2.out.h; have tw := HOK2.out.w
            have hck : ∀ W, RdAt (w.heap.size + 1) t W b r d → Calls Tryd.prog 13 #[.agg #[.int .i64 (t.h : Int), .int .i64 (t.w : Int), b, r, d]] W fun e w' => e = .returned (.int .i64 (checkG (gdOf t))) ∧ Below W.heap.size W w' := fun W hW =>
              Check_any _ (gdOf t) W.heap.size W ⟨⟨by show _ ≤ (t.h : Int); omega, by show (t.h : Int) ≤ _; omega⟩, ⟨by show _ ≤ (t.w : Int); omega, by show (t.w : Int) ≤ _; omega⟩, b, r, d, rfl, Sl.of_own hW.oB, Sl.of_own hW.oR, Sl.of_own hW.oD⟩ (Nat.le_refl _) ⟨by show t.B.length ≤ _; omega, by show t.R.length ≤ _; omega, by show t.D.length ≤ _; omega⟩
            obtain ⟨ck, hckv⟩ : ∃ ck, checkG (gdOf t) = ck := ⟨_, rfl⟩
            rw [hckv] at hck hcont
            have CK := Lib.hid hck; have H0 := Lib.hid h0
            clear hck h0 hpe hrl hdl hsm
            by_cases hc0 : ck = 0
            · rw [if_neg (by simp [hc0])] at hcont
              have y0 : (ck != 0) = false := by simp [hc0]
              have HN := Lib.hid hcont; have HC0 := Lib.hid hc0
              clear hcont hc0 hckv
              obtain ⟨Ab, cb, rfl⟩ := own_form6 HR.out.oB
              obtain ⟨Ar, cr, rfl⟩ := own_form6 HR.out.oR
              obtain ⟨Ad, cd, rfl⟩ := own_form6 HR.out.oD
              go_wp2_with (first
                | (go_at_call 21; refine CR.out.mono ?_; rintro e w2 ⟨rfl, hb2, hr2⟩; have hg2 := Lib.hid ((hb2.block w.heap.size (Nat.lt_succ_self _)).trans HG.out); have p0 := Lib.cell_of_heap hr2.blk 0; have p1 := Lib.cell_of_heap hr2.blk 1; have p2 := Lib.cell_of_heap hr2.blk 2; have p3 := Lib.cell_of_heap hr2.blk 3; have p4 := Lib.cell_of_heap hr2.blk 4)
                | (go_at_call 13; refine (CK.out _ hr2).mono ?_; rintro e w3 ⟨rfl, hb3⟩; have hr3 := hr2.below hb3; have hg2 := Lib.hid ((hb3.block w.heap.size (by have := hr2.lt; omega)).trans hg2.out); have c0 := Lib.cell_of_heap hg2.out 0; have c1 := Lib.cell_of_heap hg2.out 1; have c2 := Lib.cell_of_heap hg2.out 2; have c3 := Lib.cell_of_heap hg2.out 3; have c4 := Lib.cell_of_heap hg2.out 4; have f0 := Lib.frozen_of_heap hg2.out 0; have f1 := Lib.frozen_of_heap hg2.out 1; have f2 := Lib.frozen_of_heap hg2.out 2; have f3 := Lib.frozen_of_heap hg2.out 3; have f4 := Lib.frozen_of_heap hg2.out 4; have p0 := Lib.cell_of_heap hr3.blk 0; have p1 := Lib.cell_of_heap hr3.blk 1; have p2 := Lib.cell_of_heap hr3.blk 2; have p3 := Lib.cell_of_heap hr3.blk 3; have p4 := Lib.cell_of_heap hr3.blk 4))
              simp only [jumps]
              have lt2 : w.heap.size < w.heap.size + 1 + 1 := by omega
              exact grid_good (t := t) rfl rfl rfl rfl (stored5 _ _ _ _ _ hg2.out) (below5 ((HBW.out.trans (hb2.mono (Nat.le_succ _))).trans (hb3.mono (by have := hr2.lt; omega))) (Nat.le_refl _)) HOK2.out (own5 hr3.oB lt2) (own5 hr3.oR lt2) (own5 hr3.oD lt2) HN.out.symm
            · rw [if_pos hc0] at hcont
              have y0 : (ck != 0) = true := by simp [hc0]
              have HN := Lib.hid hcont; have HC0 := Lib.hid hc0
              clear hcont hc0 hckv
              go_wp2_with (first
                | (go_at_call 21; refine CR.out.mono ?_; rintro e w2 ⟨rfl, hb2, hr2⟩; have hg2 := Lib.hid ((hb2.block w.heap.size (Nat.lt_succ_self _)).trans HG.out); have p0 := Lib.cell_of_heap hr2.blk 0; have p1 := Lib.cell_of_heap hr2.blk 1; have p2 := Lib.cell_of_heap hr2.blk 2; have p3 := Lib.cell_of_heap hr2.blk 3; have p4 := Lib.cell_of_heap hr2.blk 4)
                | (go_at_call 13; refine (CK.out _ hr2).mono ?_; rintro e w3 ⟨rfl, hb3⟩; have hg2 := Lib.hid ((hb3.block w.heap.size (by have := hr2.lt; omega)).trans hg2.out); have c0 := Lib.cell_of_heap hg2.out 0; have c1 := Lib.cell_of_heap hg2.out 1; have c2 := Lib.cell_of_heap hg2.out 2; have c3 := Lib.cell_of_heap hg2.out 3; have c4 := Lib.cell_of_heap hg2.out 4; have f0 := Lib.frozen_of_heap hg2.out 0; have f1 := Lib.frozen_of_heap hg2.out 1; have f2 := Lib.frozen_of_heap hg2.out 2; have f3 := Lib.frozen_of_heap hg2.out 3; have f4 := Lib.frozen_of_heap hg2.out 4))
              simp only [jumps]
              exact grid_bad (a := 0) rfl rfl rfl rfl (stored5 _ _ _ _ _ hg2.out) (below5 ((HBW.out.trans (hb2.mono (Nat.le_succ _))).trans (hb3.mono (by have := hr2.lt; omega))) (Nat.le_refl _)) HN.out.symm
      · refine ⟨_, rfl, ?_⟩
        have hg := (HB.out.block w.heap.size (by simp)).trans (World.alloc_heap_new w grid0)
        have HG := Lib.hid hg; clear hg
        have hsz := HB.out.size
        rw [World.size_alloc] at hsz
        have hlt9 := HBW.out.size
        obtain ⟨hp, hd, hcont, hsn⟩ := hpl
        have hcat := contL_at s pos rd hp
        rw [hd, hcont] at hcat
        simp only at hcat
        have hw1 := Lib.width_pos s pos
        have hw2 := width_le s pos hp
        rw [hd] at hw1 hw2
        simp only at hw1 hw2
        have hq0 : ((pos : Int) + (wd : Int)).toNat = pos + wd := by omega
        have HQ0 := Lib.hid hq0
        clear hd hcont hq0
        subst hsn
        unfold stepS at hcat
        rw [show sg 10 = .line by decide] at hcat
        simp only at hcat
        cases hrow : rowS rd with
        | none =>
          rw [hrow] at hcat
          simp only at hcat
          have CR := Lib.hid (row_bad HR.out HOK.out hrow)
          have HN := Lib.hid hcat
          clear hrow hcat
          go_wp2_with (go_at_call 21; refine CR.out.mono ?_; rintro e w2 ⟨rfl, hb2⟩; have hg2 := Lib.hid ((hb2.block w.heap.size (Nat.lt_succ_self _)).trans HG.out); have c0 := Lib.cell_of_heap hg2.out 0; have c1 := Lib.cell_of_heap hg2.out 1; have c2 := Lib.cell_of_heap hg2.out 2; have c3 := Lib.cell_of_heap hg2.out 3; have c4 := Lib.cell_of_heap hg2.out 4; have f0 := Lib.frozen_of_heap hg2.out 0; have f1 := Lib.frozen_of_heap hg2.out 1; have f2 := Lib.frozen_of_heap hg2.out 2; have f3 := Lib.frozen_of_heap hg2.out 3; have f4 := Lib.frozen_of_heap hg2.out 4)
          simp only [jumps]
          exact grid_bad rfl rfl rfl rfl (stored5 _ _ _ _ _ hg2.out) (below5 (HBW.out.trans (hb2.mono (Nat.le_succ _))) (Nat.le_refl _)) HN.out
        | some t =>
          rw [hrow] at hcat
          simp only at hcat
          have CR := Lib.hid (row_good HR.out HOK.out hrow)
          have HOK2 := Lib.hid (rowS_ok hrow HOK.out).1
          have HN := Lib.hid hcat
          clear hrow hcat
          go_wp2_with (go_at_call 21; refine CR.out.mono ?_; rintro e w2 ⟨rfl, hb2, hr2⟩)
          go_step3
          exact ⟨PJ_intro 0 { t with f := pos + 1 } pos wd 10 b r d rfl (hr2.f _) (HOK2.out.setF _) (HB.out.trans hb2) ⟨hw2, HN.out.symm⟩ (by show pos + 1 ≤ pos + wd; omega), by show 2 * (s.size - ((pos : Int) + (wd : Int)).toNat) + 1 < 2 * (s.size - (pos : Int).toNat); rw [HQ0.out, Int.toNat_natCast]; omega⟩
      · refine ⟨_, rfl, ?_⟩
        have hg := (HB.out.block w.heap.size (by simp)).trans (World.alloc_heap_new w grid0)
        have HG := Lib.hid hg; clear hg
        have hsz := HB.out.size
        rw [World.size_alloc] at hsz
        have hlt9 := HBW.out.size
        obtain ⟨hp, hd, hcont, hsn⟩ := hpl
        have hcat := contL_at s pos rd hp
        rw [hd, hcont] at hcat
        simp only at hcat
        have hw1 := Lib.width_pos s pos
        have hw2 := width_le s pos hp
        rw [hd] at hw1 hw2
        simp only at hw1 hw2
        have hq0 : ((pos : Int) + (wd : Int)).toNat = pos + wd := by omega
        have HQ0 := Lib.hid hq0
        clear hd hcont hq0
        rcases hsn with rfl | rfl | rfl | rfl
        · unfold stepS at hcat
          rw [show sg 35 = .cell true by decide] at hcat
          simp only at hcat
          by_cases hfull : rd.c = 16 ∨ rd.h = 16
          · rw [if_pos hfull] at hcat
            simp only at hcat
            have CP := Lib.hid (put_full true HR.out HOK.out hfull)
            have HN := Lib.hid hcat
            clear hcat hfull
            have c0 := Lib.cell_of_heap HG.out 0; have c1 := Lib.cell_of_heap HG.out 1; have c2 := Lib.cell_of_heap HG.out 2; have c3 := Lib.cell_of_heap HG.out 3; have c4 := Lib.cell_of_heap HG.out 4; have f0 := Lib.frozen_of_heap HG.out 0; have f1 := Lib.frozen_of_heap HG.out 1; have f2 := Lib.frozen_of_heap HG.out 2; have f3 := Lib.frozen_of_heap HG.out 3; have f4 := Lib.frozen_of_heap HG.out 4
            go_wp2_with (go_at_call 19; refine CP.out.mono ?_; rintro e w2 ⟨rfl, rfl⟩)
            simp only [jumps]
            exact grid_bad rfl rfl rfl rfl (stored5 _ _ _ _ _ HG.out) (below5 HBW.out (Nat.le_refl _)) HN.out
          · rw [if_neg hfull] at hcat
            simp only at hcat
            have CP := Lib.hid (put_good true HR.out HOK.out hfull)
            have HOK2 := Lib.hid (HOK.out.put hfull true)
            have HN := Lib.hid hcat
            clear hcat hfull
            go_wp2_with (go_at_call 19; refine CP.out.mono ?_; rintro e w2 ⟨rfl, hb2, b', r', d', hr2⟩)
            go_step3
            exact ⟨PJ_intro 0 { rd with c := rd.c + 1, B := rd.B ++ [true], R := rd.R ++ [false], D := rd.D ++ [false] } pos wd _ b' r' d' rfl hr2 HOK2.out (HB.out.trans hb2) ⟨hw2, HN.out.symm⟩ hf, by show 2 * (s.size - ((pos : Int) + (wd : Int)).toNat) + 1 < 2 * (s.size - (pos : Int).toNat); rw [HQ0.out, Int.toNat_natCast]; omega⟩
        · unfold stepS at hcat
          rw [show sg 9632 = .cell true by decide] at hcat
          simp only at hcat
          by_cases hfull : rd.c = 16 ∨ rd.h = 16
          · rw [if_pos hfull] at hcat
            simp only at hcat
            have CP := Lib.hid (put_full true HR.out HOK.out hfull)
            have HN := Lib.hid hcat
            clear hcat hfull
            have c0 := Lib.cell_of_heap HG.out 0; have c1 := Lib.cell_of_heap HG.out 1; have c2 := Lib.cell_of_heap HG.out 2; have c3 := Lib.cell_of_heap HG.out 3; have c4 := Lib.cell_of_heap HG.out 4; have f0 := Lib.frozen_of_heap HG.out 0; have f1 := Lib.frozen_of_heap HG.out 1; have f2 := Lib.frozen_of_heap HG.out 2; have f3 := Lib.frozen_of_heap HG.out 3; have f4 := Lib.frozen_of_heap HG.out 4
            go_wp2_with (go_at_call 19; refine CP.out.mono ?_; rintro e w2 ⟨rfl, rfl⟩)
            simp only [jumps]
            exact grid_bad rfl rfl rfl rfl (stored5 _ _ _ _ _ HG.out) (below5 HBW.out (Nat.le_refl _)) HN.out
          · rw [if_neg hfull] at hcat
            simp only at hcat
            have CP := Lib.hid (put_good true HR.out HOK.out hfull)
            have HOK2 := Lib.hid (HOK.out.put hfull true)
            have HN := Lib.hid hcat
            clear hcat hfull
            go_wp2_with (go_at_call 19; refine CP.out.mono ?_; rintro e w2 ⟨rfl, hb2, b', r', d', hr2⟩)
            go_step3
            exact ⟨PJ_intro 0 { rd with c := rd.c + 1, B := rd.B ++ [true], R := rd.R ++ [false], D := rd.D ++ [false] } pos wd _ b' r' d' rfl hr2 HOK2.out (HB.out.trans hb2) ⟨hw2, HN.out.symm⟩ hf, by show 2 * (s.size - ((pos : Int) + (wd : Int)).toNat) + 1 < 2 * (s.size - (pos : Int).toNat); rw [HQ0.out, Int.toNat_natCast]; omega⟩
        · unfold stepS at hcat
          rw [show sg 46 = .cell false by decide] at hcat
          simp only at hcat
          by_cases hfull : rd.c = 16 ∨ rd.h = 16
          · rw [if_pos hfull] at hcat
            simp only at hcat
            have CP := Lib.hid (put_full false HR.out HOK.out hfull)
            have HN := Lib.hid hcat
            clear hcat hfull
            have c0 := Lib.cell_of_heap HG.out 0; have c1 := Lib.cell_of_heap HG.out 1; have c2 := Lib.cell_of_heap HG.out 2; have c3 := Lib.cell_of_heap HG.out 3; have c4 := Lib.cell_of_heap HG.out 4; have f0 := Lib.frozen_of_heap HG.out 0; have f1 := Lib.frozen_of_heap HG.out 1; have f2 := Lib.frozen_of_heap HG.out 2; have f3 := Lib.frozen_of_heap HG.out 3; have f4 := Lib.frozen_of_heap HG.out 4
            go_wp2_with (go_at_call 19; refine CP.out.mono ?_; rintro e w2 ⟨rfl, rfl⟩)
            simp only [jumps]
            exact grid_bad rfl rfl rfl rfl (stored5 _ _ _ _ _ HG.out) (below5 HBW.out (Nat.le_refl _)) HN.out
          · rw [if_neg hfull] at hcat
            simp only at hcat
            have CP := Lib.hid (put_good false HR.out HOK.out hfull)
            have HOK2 := Lib.hid (HOK.out.put hfull false)
            have HN := Lib.hid hcat
            clear hcat hfull
            go_wp2_with (go_at_call 19; refine CP.out.mono ?_; rintro e w2 ⟨rfl, hb2, b', r', d', hr2⟩)
            go_step3
            exact ⟨PJ_intro 0 { rd with c := rd.c + 1, B := rd.B ++ [false], R := rd.R ++ [false], D := rd.D ++ [false] } pos wd _ b' r' d' rfl hr2 HOK2.out (HB.out.trans hb2) ⟨hw2, HN.out.symm⟩ hf, by show 2 * (s.size - ((pos : Int) + (wd : Int)).toNat) + 1 < 2 * (s.size - (pos : Int).toNat); rw [HQ0.out, Int.toNat_natCast]; omega⟩
        · unfold stepS at hcat
          rw [show sg 9633 = .cell false by decide] at hcat
          simp only at hcat
          by_cases hfull : rd.c = 16 ∨ rd.h = 16
          · rw [if_pos hfull] at hcat
            simp only at hcat
            have CP := Lib.hid (put_full false HR.out HOK.out hfull)
            have HN := Lib.hid hcat
            clear hcat hfull
            have c0 := Lib.cell_of_heap HG.out 0; have c1 := Lib.cell_of_heap HG.out 1; have c2 := Lib.cell_of_heap HG.out 2; have c3 := Lib.cell_of_heap HG.out 3; have c4 := Lib.cell_of_heap HG.out 4; have f0 := Lib.frozen_of_heap HG.out 0; have f1 := Lib.frozen_of_heap HG.out 1; have f2 := Lib.frozen_of_heap HG.out 2; have f3 := Lib.frozen_of_heap HG.out 3; have f4 := Lib.frozen_of_heap HG.out 4
            go_wp2_with (go_at_call 19; refine CP.out.mono ?_; rintro e w2 ⟨rfl, rfl⟩)
            simp only [jumps]
            exact grid_bad rfl rfl rfl rfl (stored5 _ _ _ _ _ HG.out) (below5 HBW.out (Nat.le_refl _)) HN.out
          · rw [if_neg hfull] at hcat
            simp only at hcat
            have CP := Lib.hid (put_good false HR.out HOK.out hfull)
            have HOK2 := Lib.hid (HOK.out.put hfull false)
            have HN := Lib.hid hcat
            clear hcat hfull
            go_wp2_with (go_at_call 19; refine CP.out.mono ?_; rintro e w2 ⟨rfl, hb2, b', r', d', hr2⟩)
            go_step3
            exact ⟨PJ_intro 0 { rd with c := rd.c + 1, B := rd.B ++ [false], R := rd.R ++ [false], D := rd.D ++ [false] } pos wd _ b' r' d' rfl hr2 HOK2.out (HB.out.trans hb2) ⟨hw2, HN.out.symm⟩ hf, by show 2 * (s.size - ((pos : Int) + (wd : Int)).toNat) + 1 < 2 * (s.size - (pos : Int).toNat); rw [HQ0.out, Int.toNat_natCast]; omega⟩
      · refine ⟨_, rfl, ?_⟩
        have hg := (HB.out.block w.heap.size (by simp)).trans (World.alloc_heap_new w grid0)
        have HG := Lib.hid hg; clear hg
        have hsz := HB.out.size
        rw [World.size_alloc] at hsz
        have hlt9 := HBW.out.size
        obtain ⟨hp, hd, hcont, hsn⟩ := hpl
        have hcat := contL_at s pos rd hp
        rw [hd, hcont] at hcat
        simp only at hcat
        have hw1 := Lib.width_pos s pos
        have hw2 := width_le s pos hp
        rw [hd] at hw1 hw2
        simp only at hw1 hw2
        have hq0 : ((pos : Int) + (wd : Int)).toNat = pos + wd := by omega
        have HQ0 := Lib.hid hq0
        clear hd hcont hq0
        unfold stepS at hcat
        rcases hsn with rfl | rfl
        · have p9 := Lib.cell_of_heap HR.out.blk 3
          rw [show sg 124 = .right by decide] at hcat
          simp only at hcat
          cases hbar : barL rd.c rd.R with
          | none =>
            rw [hbar] at hcat
            simp only at hcat
            have CP := Lib.hid (barR_no HR.out HOK.out hbar)
            have HN := Lib.hid hcat
            clear hcat hbar
            have c0 := Lib.cell_of_heap HG.out 0; have c1 := Lib.cell_of_heap HG.out 1; have c2 := Lib.cell_of_heap HG.out 2; have c3 := Lib.cell_of_heap HG.out 3; have c4 := Lib.cell_of_heap HG.out 4; have f0 := Lib.frozen_of_heap HG.out 0; have f1 := Lib.frozen_of_heap HG.out 1; have f2 := Lib.frozen_of_heap HG.out 2; have f3 := Lib.frozen_of_heap HG.out 3; have f4 := Lib.frozen_of_heap HG.out 4
            go_wp2_with (go_at_call 20; refine CP.out.mono ?_; rintro e w2 ⟨rfl, rfl⟩)
            simp only [jumps]
            exact grid_bad rfl rfl rfl rfl (stored5 _ _ _ _ _ HG.out) (below5 HBW.out (Nat.le_refl _)) HN.out
          | some k =>
            rw [hbar] at hcat
            simp only at hcat
            have CP := Lib.hid (barR_yes HR.out HOK.out hbar)
            have HOK2 : Hid (RdOk { rd with R := k }) := Lib.hid (by
              have hc : rd.c ≠ 0 := fun h => by unfold barL at hbar; rw [if_pos (.inl h)] at hbar; cases hbar
              exact HOK.out.setR (barL_len hbar (fun e => by have h1 := HOK.out.ne hc; have h2 := HOK.out.r; rw [e, List.length_nil] at h2; omega)))
            have HN := Lib.hid hcat
            clear hcat hbar
            go_wp2_with (go_at_call 20; refine CP.out.mono ?_; rintro e w2 ⟨rfl, hb2, hr2⟩)
            go_step3
            exact ⟨PJ_intro 0 { rd with R := k } pos wd _ b r d rfl hr2 HOK2.out (HB.out.trans hb2) ⟨hw2, HN.out.symm⟩ hf, by show 2 * (s.size - ((pos : Int) + (wd : Int)).toNat) + 1 < 2 * (s.size - (pos : Int).toNat); rw [HQ0.out, Int.toNat_natCast]; omega⟩
        · have p9 := Lib.cell_of_heap HR.out.blk 4
          rw [show sg 95 = .below by decide] at hcat
          simp only at hcat
          cases hbar : barL rd.c rd.D with
          | none =>
            rw [hbar] at hcat
            simp only at hcat
            have CP := Lib.hid (barD_no HR.out HOK.out hbar)
            have HN := Lib.hid hcat
            clear hcat hbar
            have c0 := Lib.cell_of_heap HG.out 0; have c1 := Lib.cell_of_heap HG.out 1; have c2 := Lib.cell_of_heap HG.out 2; have c3 := Lib.cell_of_heap HG.out 3; have c4 := Lib.cell_of_heap HG.out 4; have f0 := Lib.frozen_of_heap HG.out 0; have f1 := Lib.frozen_of_heap HG.out 1; have f2 := Lib.frozen_of_heap HG.out 2; have f3 := Lib.frozen_of_heap HG.out 3; have f4 := Lib.frozen_of_heap HG.out 4
            go_wp2_with (go_at_call 20; refine CP.out.mono ?_; rintro e w2 ⟨rfl, rfl⟩)
            simp only [jumps]
            exact grid_bad rfl rfl rfl rfl (stored5 _ _ _ _ _ HG.out) (below5 HBW.out (Nat.le_refl _)) HN.out
          | some k =>
            rw [hbar] at hcat
            simp only at hcat
            have CP := Lib.hid (barD_yes HR.out HOK.out hbar)
            have HOK2 : Hid (RdOk { rd with D := k }) := Lib.hid (by
              have hc : rd.c ≠ 0 := fun h => by unfold barL at hbar; rw [if_pos (.inl h)] at hbar; cases hbar
              exact HOK.out.setD (barL_len hbar (fun e => by have h1 := HOK.out.ne hc; have h2 := HOK.out.d; rw [e, List.length_nil] at h2; omega)))
            have HN := Lib.hid hcat
            clear hcat hbar
            go_wp2_with (go_at_call 20; refine CP.out.mono ?_; rintro e w2 ⟨rfl, hb2, hr2⟩)
            go_step3
            exact ⟨PJ_intro 0 { rd with D := k } pos wd _ b r d rfl hr2 HOK2.out (HB.out.trans hb2) ⟨hw2, HN.out.symm⟩ hf, by show 2 * (s.size - ((pos : Int) + (wd : Int)).toNat) + 1 < 2 * (s.size - (pos : Int).toNat); rw [HQ0.out, Int.toNat_natCast]; omega⟩
end Go.Proofs.YtonibpilbkafnaaDoor

/- Package sketch: Print. -/
namespace Go.Proofs.YtonibpilbkafnaaDoor
set_option linter.unusedVariables false
set_option linter.unusedSimpArgs false
open Go.RowKit Go.Lib

theorem cells_ascii : ∀ (l : List Nat), (∀ r ∈ l, r < 128) → byteCells (encs l) = l.map fun (r : Nat) => Value.int .u8 (r : Int)
  | [], _ => rfl
  | r :: l, h => by
    have e : encs (r :: l) = enc (r : Int) ++ encs l := by simp [encs]
    have hr := h r (List.mem_cons_self ..)
    rw [e, byteCells_append, cells_ascii l (fun x hx => h x (List.mem_cons_of_mem _ hx)), enc_ascii r hr]
    simp [byteCells]
    omega
theorem sign_cells (g : Gd) (i : Nat) (bb rb db nl : Bool) (h1 : g.B.getD i false = bb) (h2 : g.R.getD i false = rb) (h3 : g.D.getD i false = db) (h4 : decide ((i + 1) % g.W.toNat = 0) = nl) :
    byteCells (encs (signR g i)) = [.int .u8 (if bb then 35 else 46)] ++ (if rb then [.int .u8 124] else []) ++ (if db then [.int .u8 95] else []) ++ (if nl then [.int .u8 10] else []) := by
  rw [cells_ascii _ (fun r hr => by have := signR_mem g i r hr; omega)]
  unfold signR
  rw [h1, h2, h3]
  cases bb <;> cases rb <;> cases db <;> cases nl <;> simp at h4 <;> simp [h4]
theorem ret_se2 {a b : ByteArray} {c d : Int} (h1 : a = b) (h2 : c = d) : Ending.returned (.tuple #[.string a, .int .i64 c]) = Ending.returned (.tuple #[.string b, .int .i64 d]) := by rw [h1, h2]

set_option maxHeartbeats 16000000 in
set_option maxRecDepth 100000 in
theorem Print_good (v : Value) (g : Gd) (B : Nat) (w : World) (h : GdAt w B v g) (hB : B ≤ w.heap.size) (hg : OkG g) :
    Calls Tryd.prog 4 #[v] w fun e w' => e = .returned (.tuple #[.string ⟨(printL g).toArray⟩, .int .i64 0]) ∧ Below w.heap.size w w' := by
  have hck := check_of_ok hg
  obtain ⟨har, hc1, hc2, hr1, hr2⟩ := area_le hg
  have hch : ∀ W, Below w.heap.size w W → Calls Tryd.prog 13 #[v] W fun e w' => e = .returned (.int .i64 0) ∧ Below W.heap.size W w' := fun W hW => by
    have := Check_any v g B W ⟨h.h0, h.w0, by obtain ⟨b, r, d, e, s1, s2, s3⟩ := h.eq; exact ⟨b, r, d, e, s1.below (hW.mono hB), s2.below (hW.mono hB), s3.below (hW.mono hB)⟩⟩ (Nat.le_trans hB hW.size) ⟨by have := hg.b; omega, by have := hg.r; omega, by have := hg.d; omega⟩
    rw [hck] at this
    exact this
  have hb := hg.b; have hr := hg.r; have hd := hg.d; have e0 := hg.h0; have e1 := hg.w0
  obtain ⟨hh, hw, b, r, d, rfl, sb, sr, sd⟩ := h
  have hpr : printL g = encs (printR g (g.H.toNat * g.W.toNat)) := rfl
  have hps : ∀ k bb rb db nl, g.B.getD k false = bb → g.R.getD k false = rb → g.D.getD k false = db → decide ((k + 1) % g.W.toNat = 0) = nl →
      byteCells (encs (printR g (k + 1))) = byteCells (encs (printR g k)) ++ ([.int .u8 (if bb then 35 else 46)] ++ (if rb then [.int .u8 124] else []) ++ (if db then [.int .u8 95] else []) ++ (if nl then [.int .u8 10] else [])) := fun k bb rb db nl h1 h2 h3 h4 => by
    rw [printR_succ, encs_append, byteCells_append, sign_cells g k bb rb db nl h1 h2 h3 h4]
  have hpz : ∀ k, k ≤ 256 → (byteCells (encs (printR g k))).length ≤ 4096 := fun k hk => by
    have h1 := encs_length (printR g k); have h2 := printR_le g k
    simp only [byteCells, List.length_map]; omega
  obtain ⟨gH, gW, gB, gR, gD⟩ := g
  simp only at *
  obtain ⟨a, rfl⟩ : ∃ a : Nat, gH = (a : Int) := ⟨gH.toNat, by omega⟩
  obtain ⟨c, rfl⟩ : ∃ c : Nat, gW = (c : Int) := ⟨gW.toNat, by omega⟩
  simp only [Int.toNat_natCast] at *
  obtain ⟨Ab, cb, rfl, hcb, hAb⟩ := sb
  obtain ⟨Ar, cr, rfl, hcr, hAr⟩ := sr
  obtain ⟨Ad, cd, rfl, hcd, hAd⟩ := sd
  rw [List.length_map] at hcb hcr hcd hch ⊢
  have hSB : Sl w B (.slice Ab gB.length cb) (bools gB) := ⟨Ab, cb, by rw [List.length_map], by rw [List.length_map]; exact hcb, hAb⟩
  have hSR : Sl w B (.slice Ar gR.length cr) (bools gR) := ⟨Ar, cr, by rw [List.length_map], by rw [List.length_map]; exact hcr, hAr⟩
  have hSD : Sl w B (.slice Ad gD.length cd) (bools gD) := ⟨Ad, cd, by rw [List.length_map], by rw [List.length_map]; exact hcd, hAd⟩
  rw [List.length_map, List.length_map] at hch
  rw [List.length_map, List.length_map]
  rw [hb] at hSB hcb hch ⊢
  rw [hr] at hSR hcr hch ⊢
  rw [hd] at hSD hcd hch ⊢
  have hpos : 0 < a * c := Nat.mul_pos (by omega) (by omega)
  obtain ⟨b1, o1, rfl, z1⟩ := hSB.boolsAt hpos
  obtain ⟨b2, o2, rfl, z2⟩ := hSR.boolsAt hpos
  obtain ⟨b3, o3, rfl, z3⟩ := hSD.boolsAt hpos
  have lt1 : b1 < B := by obtain ⟨ad, e, hlt, _⟩ := hSB.cell (k := 0) (by rw [List.length_map, hb]; exact hpos); injection e with e; rw [← e] at hlt; exact hlt
  have lt2 : b2 < B := by obtain ⟨ad, e, hlt, _⟩ := hSR.cell (k := 0) (by rw [List.length_map, hr]; exact hpos); injection e with e; rw [← e] at hlt; exact hlt
  have lt3 : b3 < B := by obtain ⟨ad, e, hlt, _⟩ := hSD.cell (k := 0) (by rw [List.length_map, hd]; exact hpos); injection e with e; rw [← e] at hlt; exact hlt
  clear hAb hAr hAd hb hr hd
  generalize a * c = m at *
  have CH := Lib.hid hch
  have HPS := Lib.hid hps; have HPZ := Lib.hid hpz; have HPR := Lib.hid hpr
  clear hch hps hpz hpr hck hg
  have hw1 := World.alloc_heap_new w (.cells #[.int .i64 (a : Int), .int .i64 (c : Int), .slice (some ⟨b1, o1, none⟩) m cb, .slice (some ⟨b2, o2, none⟩) m cr, .slice (some ⟨b3, o3, none⟩) m cd] 27)
  have hb1 := (Below.refl w.heap.size w).alloc (Nat.le_refl _) (.cells #[.int .i64 (a : Int), .int .i64 (c : Int), .slice (some ⟨b1, o1, none⟩) m cb, .slice (some ⟨b2, o2, none⟩) m cr, .slice (some ⟨b3, o3, none⟩) m cd] 27)
  have p0 := Lib.cell_of_heap hw1 0; have p1 := Lib.cell_of_heap hw1 1; have p2 := Lib.cell_of_heap hw1 2; have p3 := Lib.cell_of_heap hw1 3; have p4 := Lib.cell_of_heap hw1 4
  have HW1 := Lib.hid hw1; have HB1 := Lib.hid hb1
  have Z1 := Lib.hid z1; have Z2 := Lib.hid z2; have Z3 := Lib.hid z3
  clear hSB hSR hSD hw1 hb1 z1 z2 z3
  go_enter Tryd.func4, Tryd.ntmps4
  go_wp2_with (go_at_call 13; refine (CH.out _ HB1.out).mono ?_; rintro e w2 ⟨rfl, hb2⟩; have hh2 := Lib.hid ((hb2.block w.heap.size (by simp)).trans HW1.out); have hz2 : w.heap.size + 1 ≤ w2.heap.size := (by have := hb2.size; simpa using this); have q2 := (((Below.refl w2.heap.size w2).alloc (Nat.le_refl _) (.cells #[.pointer none, .slice none 0 0] 48)).cell (p := ⟨w.heap.size, 2, none⟩) (by simp only; omega)).trans (Lib.cell_of_heap hh2.out 2))
  obtain ⟨P, hP⟩ : ∃ P, P = w2.heap.size := ⟨_, rfl⟩
  have hbd0 := IsBuilderF.of (fresh_isBuilder 48 5 w2)
  have hbw0 := (Below.refl w2.heap.size w2).alloc (Nat.le_refl _) (.cells #[.pointer none, .slice none 0 0] 48)
  have hE2 : Below w.heap.size w w2 := HB1.out.trans (hb2.mono (by simp))
  have HE2 := Lib.hid hE2; clear hE2
  have HF : Hid (∀ W : World, Below P w2 W → W.cell? ⟨w.heap.size, 1, none⟩ = some (.int .i64 (c : Int)) ∧ W.cell? ⟨w.heap.size, 3, none⟩ = some (.slice (some ⟨b2, o2, none⟩) m cr) ∧ W.cell? ⟨w.heap.size, 4, none⟩ = some (.slice (some ⟨b3, o3, none⟩) m cd) ∧
      ∀ k, k < m → W.cell? ⟨b1, o1 + k, none⟩ = some (.bool (gB.getD k false)) ∧ W.cell? ⟨b2, o2 + k, none⟩ = some (.bool (gR.getD k false)) ∧ W.cell? ⟨b3, o3 + k, none⟩ = some (.bool (gD.getD k false))) := Lib.hid (fun W hW => by
    have q1 := Lib.cell_of_heap hh2.out 1; have q3 := Lib.cell_of_heap hh2.out 3; have q4 := Lib.cell_of_heap hh2.out 4
    refine ⟨(hW.cell (p := ⟨w.heap.size, 1, none⟩) (by simp only; omega)).trans q1, (hW.cell (p := ⟨w.heap.size, 3, none⟩) (by simp only; omega)).trans q3, (hW.cell (p := ⟨w.heap.size, 4, none⟩) (by simp only; omega)).trans q4, fun k hk => ⟨?_, ?_, ?_⟩⟩
    · exact ((hW.cell (p := ⟨b1, o1 + k, none⟩) (by simp only; omega)).trans (HE2.out.cell (p := ⟨b1, o1 + k, none⟩) (by simp only; omega))).trans (Z1.out k hk)
    · exact ((hW.cell (p := ⟨b2, o2 + k, none⟩) (by simp only; omega)).trans (HE2.out.cell (p := ⟨b2, o2 + k, none⟩) (by simp only; omega))).trans (Z2.out k hk)
    · exact ((hW.cell (p := ⟨b3, o3 + k, none⟩) (by simp only; omega)).trans (HE2.out.cell (p := ⟨b3, o3 + k, none⟩) (by simp only; omega))).trans (Z3.out k hk))
  have CW : Hid (∀ (bs : List Value) (c : Int) (W : World), IsBuilderF 48 5 P P bs W → bs.length ≤ 100000 → P ≤ W.heap.size → Calls Tryd.prog 14 #[.pointer (some ⟨P, 0, none⟩), .int .u8 c] W fun e w' => e = .returned .nilIface ∧ IsBuilderF 48 5 P P (bs ++ [.int .u8 c]) w' ∧ Below P W w') :=
    Lib.hid (fun bs c W hW hl hs => (b_byte P P bs c W hW (by omega) hs).mono fun e w' ⟨h1, h2, h3, _⟩ => ⟨h1, .inr h2, h3⟩)
  rw [← hP] at hbd0 hbw0 ⊢
  have hP9 : w.heap.size + 1 ≤ P := by omega
  have HPP := Lib.hid hP
  have hPs : P ≤ w2.heap.size := by omega
  clear hP hh2 q2 lt1 lt2 lt3
  have HH2 := Lib.hid hb2; clear hb2
  go_loopg [6, 7, 8, 17] m (fun gf _ _ _ u17 wr => ∃ k : Nat, u17 = .int .i64 k ∧ k ≤ m ∧ m ≤ k + gf ∧ IsBuilderF 48 5 P P (byteCells (encs (printR ⟨(a : Int), (c : Int), gB, gR, gD⟩ k))) wr ∧ Below P w2 wr)
  case atStart => exact ⟨0, rfl, Nat.zero_le _, by omega, hbd0, hbw0⟩
  case round =>
    rename World => w5
    clear hbd0 hbw0
    obtain ⟨k, rfl, hk, hfu, hbd, hbw⟩ := hrel
    have hsz := hbw.size
    by_cases hlt : k < m
    · obtain ⟨g', rfl⟩ : ∃ g', gk = g' + 1 := ⟨gk - 1, by omega⟩
      have hps := HPS.out k
      have hpz := HPZ.out k (by omega)
      have hdec : decide ((k + 1) % c = 0) = ((((k + 1) % c : Nat) : Int) == 0) := by rw [Bool.eq_iff_iff, decide_eq_true_eq, beq_iff_eq]; omega
      have hfk : ∀ W : World, Below P w2 W → _ := fun W hW => ((HF.out W hW).2.2.2 k hlt)
      obtain ⟨g1, _, _⟩ := hfk _ hbw
      obtain ⟨bs, hbs⟩ : ∃ bs, byteCells (encs (printR ⟨(a : Int), (c : Int), gB, gR, gD⟩ k)) = bs := ⟨_, rfl⟩
      rw [hbs] at hps hpz hbd
      have k3 : ((k : Int) + 1).tmod (c : Int) = (((k + 1) % c : Nat) : Int) := rfl
      have c0 : ¬ (c : Int) = 0 := by omega
      have i1 : (0 : Int) ≤ (k : Int) := by omega
      have i2 : (k : Int) < (m : Int) := by omega
      have hml := Nat.mod_lt (k + 1) (show 0 < c by omega)
      rw [hdec] at hps
      have PS := Lib.hid hps; have FK := Lib.hid hfk
      clear hps hfk hdec hbs
      generalize gB.getD k false = bb at *
      generalize gR.getD k false = rb at *
      generalize gD.getD k false = db at *
      generalize (k + 1) % c = q at *
      cases hnl : ((q : Int) == 0) with
      | true =>
        have HNL := Lib.hid hnl
        cases bb <;> cases rb <;> cases db
        all_goals
          go_wp2_with (go_at_call 14; refine (CW.out _ _ _ (by assumption) (by (try simp only [List.length_append, List.length_singleton]); omega) (by omega)).mono ?_; rintro e w6 ⟨rfl, hbd, hb9⟩; have hbw := hbw.trans hb9; have hsz := hbw.size; obtain ⟨q1, q3, q4, q9⟩ := HF.out _ hbw; clear q9; obtain ⟨_, g2, g3⟩ := FK.out _ hbw)
          go_roundg g'
          case measure => omega
          case rel => exact ⟨k + 1, by go_num, by omega, by omega, by rw [PS.out _ _ _ _ rfl rfl rfl HNL.out]; simpa using hbd, hbw⟩
      | false =>
        have HNL := Lib.hid hnl
        cases bb <;> cases rb <;> cases db
        all_goals
          go_wp2_with (go_at_call 14; refine (CW.out _ _ _ (by assumption) (by (try simp only [List.length_append, List.length_singleton]); omega) (by omega)).mono ?_; rintro e w6 ⟨rfl, hbd, hb9⟩; have hbw := hbw.trans hb9; have hsz := hbw.size; obtain ⟨q1, q3, q4, q9⟩ := HF.out _ hbw; clear q9; obtain ⟨_, g2, g3⟩ := FK.out _ hbw)
          go_roundg g'
          case measure => omega
          case rel => exact ⟨k + 1, by go_num, by omega, by omega, by rw [PS.out _ _ _ _ rfl rfl rfl HNL.out]; simpa using hbd, hbw⟩
    · obtain rfl : m = k := by omega
      have cS := fun W (hW : IsBuilderF 48 5 P P (byteCells (encs (printR ⟨(a : Int), (c : Int), gB, gR, gD⟩ m))) W) (hs : P ≤ W.heap.size) => Tryd.Builder_String_any_f P P _ W hW hs
      have CS := Lib.hid cS; clear cS
      go_wp2_with (go_at_call 15; refine (CS.out _ hbd (by omega)).mono ?_; rintro e w6 ⟨rfl, _, hb9⟩)
      go_ret2
      exact ⟨ret_se2 (by rw [HPR.out]) rfl, HE2.out.trans ((hbw.trans hb9).mono (by omega))⟩
end Go.Proofs.YtonibpilbkafnaaDoor

/- Package sketch: Parse and Print in the forms in which the statements meet them; awake of layer 8. -/
namespace Go.Proofs.YtonibpilbkafnaaDoor
set_option linter.unusedVariables false
set_option linter.unusedSimpArgs false
open Go.RowKit Go.Lib

/-- a grid's value, written out -/
abbrev gdV (g : Gd) (Ab Ar Ad : Option Addr) (cb cr cd : Nat) : Value := .agg #[.int .i64 g.H, .int .i64 g.W, .slice Ab g.B.length cb, .slice Ar g.R.length cr, .slice Ad g.D.length cd]
theorem GdAt.form {w : World} {B : Nat} {v : Value} {g : Gd} (h : GdAt w B v g) : ∃ Ab Ar Ad cb cr cd, v = gdV g Ab Ar Ad cb cr cd := by
  obtain ⟨b, r, d, rfl, ⟨Ab, cb, rfl, _⟩, ⟨Ar, cr, rfl, _⟩, ⟨Ad, cd, rfl, _⟩⟩ := h.eq
  exact ⟨Ab, Ar, Ad, cb, cr, cd, by simp only [gdV, List.length_map]⟩
theorem GdAt.more {w : World} {B B' : Nat} {v : Value} {g : Gd} (h : GdAt w B v g) (hB : B ≤ B') : GdAt w B' v g := by
  obtain ⟨b, r, d, e, s1, s2, s3⟩ := h.eq
  exact ⟨h.h0, h.w0, b, r, d, e, s1.more hB, s2.more hB, s3.more hB⟩
theorem Parse_bad {s : ByteArray} {a : Nat} {er : Int} (hp : parseL (bl s) = .bad a er) (w : World) (hT : Tabs w) (hs : s.size ≤ 17592186044416) :
    Calls Tryd.prog 6 #[.string s] w fun e w' => e = .returned (.tuple #[.agg #[.int .i64 0, .int .i64 0, .slice none 0 0, .slice none 0 0, .slice none 0 0], .int .i64 (a : Nat), .int .i64 er]) ∧ Below w.heap.size w w' :=
  (Parse_any s w hT hs).mono fun e w' h => by
    unfold ParsePost at h
    rw [hp] at h
    exact ⟨h.2, h.1⟩
theorem Parse_good {s : ByteArray} {g : Gd} (hp : parseL (bl s) = .good g) (w : World) (hT : Tabs w) (hs : s.size ≤ 17592186044416) :
    Calls Tryd.prog 6 #[.string s] w fun e w' => ∃ Ab Ar Ad cb cr cd, e = .returned (.tuple #[gdV g Ab Ar Ad cb cr cd, .int .i64 0, .int .i64 0]) ∧ GdAt w' w'.heap.size (gdV g Ab Ar Ad cb cr cd) g ∧ Below w.heap.size w w' :=
  (Parse_any s w hT hs).mono fun e w' h => by
    unfold ParsePost at h
    rw [hp] at h
    obtain ⟨hb, v, he, hg⟩ := h
    obtain ⟨Ab, Ar, Ad, cb, cr, cd, rfl⟩ := hg.form
    exact ⟨Ab, Ar, Ad, cb, cr, cd, he, hg, hb⟩

set_option maxHeartbeats 4000000 in
set_option maxRecDepth 100000 in
theorem Print_bad (v : Value) (g : Gd) (B : Nat) (w : World) (h : GdAt w B v g) (hB : B ≤ w.heap.size) (hl : g.B.length ≤ 17592186044416 ∧ g.R.length ≤ 17592186044416 ∧ g.D.length ≤ 17592186044416) (hc : checkG g ≠ 0) :
    Calls Tryd.prog 4 #[v] w fun e w' => e = .returned (.tuple #[.string ⟨#[]⟩, .int .i64 (checkG g)]) ∧ Below w.heap.size w w' := by
  obtain ⟨Ab, Ar, Ad, cb, cr, cd, rfl⟩ := h.form
  unfold gdV at h ⊢
  have hb1 := (Below.refl w.heap.size w).alloc (Nat.le_refl _) (.cells #[.int .i64 g.H, .int .i64 g.W, .slice Ab g.B.length cb, .slice Ar g.R.length cr, .slice Ad g.D.length cd] 27)
  have C := Lib.hid (Check_any _ g B _ (h.below (hb1.mono hB)) (by simp; omega) hl)
  obtain ⟨ck, hck⟩ : ∃ ck, checkG g = ck := ⟨_, rfl⟩
  rw [hck] at C hc ⊢
  have t1 : (ck != 0) = true := by simp [hc]
  have HB1 := Lib.hid hb1
  clear h hck hc hb1 hl
  generalize g.B.length = n1 at *
  generalize g.R.length = n2 at *
  generalize g.D.length = n3 at *
  go_enter Tryd.func4, Tryd.ntmps4
  go_wp2_with (go_at_call 13; refine C.out.mono ?_; rintro e w2 ⟨rfl, hb2⟩)
  go_ret2
  exact ⟨rfl, HB1.out.trans (hb2.mono HB1.out.size)⟩

def awG : Gd := ⟨2, 3, [false, false, true, false, false, false], [false, false, false, true, false, false], [false, false, false, false, false, false]⟩
theorem aw_parse : parseL [46, 46, 35, 10, 46, 124, 46, 46, 10] = .good awG := by
  have h : printL awG = [46, 46, 35, 10, 46, 124, 46, 46, 10] := by decide +kernel
  have hk : checkG awG = 0 := by decide +kernel
  rw [← h]
  exact parse_print awG (ok_of_check hk)
theorem aw_print : printL awG = [46, 46, 35, 10, 46, 124, 46, 46, 10] := by decide +kernel
theorem aw_ok : OkG awG := ok_of_check (by decide +kernel)
theorem ret_b8 {b c : Bool} (h : b = c) : Ending.returned (.bool b) = .returned (.bool c) := by rw [h]

end Go.Proofs.YtonibpilbkafnaaDoor
