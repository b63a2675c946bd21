/- A scope of several labels; the reader's calls, in the form in which Parse meets them. -/
import Derived.Test.YtlkabghpcjlohaaDoorT7
import Derived.ScopeJumps
import Derived.WalkMore
namespace Go.Proofs.YtlkabghpcjlohaaDoor
set_option linter.unusedVariables false
set_option linter.unusedSimpArgs false
open Go.RowKit Go.Lib

/-- As Q; by a goto to label l: J l. -/
def jumps (J : Nat → Act → World → Prop) (Q : Exit → Act → World → Prop) : Exit → Act → World → Prop
  | .goto l, a, w => J l a w
  | e, a, w => Q e a w
/-- a scope of several labels: what holds at each jump, and a measure that each pass lowers -/
theorem wp_scope_labels {P : Program} {a : Act} {w : World} {Q : Exit → Act → World → Prop} {c : Code} (J : Nat → Act → World → Prop) (μ : Nat → Act → World → Nat)
    (first : c.wp P (jumps J Q) a w)
    (pass : ∀ l a w, J l a w → ∃ rest, findLabel c l = some rest ∧ rest.wp P (jumps (fun l' a' w' => J l' a' w' ∧ μ l' a' w' < μ l a w) Q) a w) : (Code.scope c).wp P Q a w := by
  intro b k cs
  have hg : ∀ l rest, findLabel c l = some rest → gotoIn l (.inScope c :: k) = some (.code rest :: .inScope c :: k) := fun l rest hf => by simp [gotoIn, hf]
  have key : ∀ n l a w rest, μ l a w = n → J l a w → findLabel c l = some rest → ∃ e a' w', Q e a' w' ∧ Arrives P (lone (b.at a (.code rest :: .inScope c :: k)) cs w) b k cs e a' w' := by
    intro n
    induction n using Nat.strongRecOn with
    | _ n ih =>
      intro l a w rest hn hJ hf
      obtain ⟨rest', hf', hp⟩ := pass l a w hJ
      obtain rfl : rest' = rest := by rw [hf] at hf'; injection hf' with h; exact h.symm
      obtain ⟨e, a₁, w₁, hq, harr⟩ := hp b (.inScope c :: k) cs
      cases e with
      | normal => exact ⟨.normal, a₁, w₁, hq, Steps.trans harr (.one step_inScope)⟩
      | exit id => exact ⟨.exit id, a₁, w₁, hq, fun k' hk => harr k' (by simp [exitTo, hk])⟩
      | goto l' =>
        obtain ⟨hJ', hlt⟩ := hq
        obtain ⟨r2, hf2, _⟩ := pass l' a₁ w₁ hJ'
        obtain ⟨e₂, a₂, w₂, hq₂, harr₂⟩ := ih _ (by omega) l' a₁ w₁ r2 rfl hJ' hf2
        exact ⟨e₂, a₂, w₂, hq₂, .of_steps (harr _ (hg _ _ hf2)) harr₂⟩
      | ret => exact ⟨_, a₁, w₁, hq, harr⟩
      | panic ch => exact ⟨_, a₁, w₁, hq, harr⟩
      | outgrown => exact ⟨_, a₁, w₁, hq, harr⟩
  obtain ⟨e, a₁, w₁, hq, harr⟩ := first b (.inScope c :: k) cs
  cases e with
  | normal => exact ⟨.normal, a₁, w₁, hq, .head step_scope (Steps.trans harr (.one step_inScope))⟩
  | exit id => exact ⟨.exit id, a₁, w₁, hq, fun k' hk => .head step_scope (harr k' (by simp [exitTo, hk]))⟩
  | goto l' =>
    obtain ⟨r2, hf2, _⟩ := pass l' a₁ w₁ hq
    obtain ⟨e₂, a₂, w₂, hq₂, harr₂⟩ := key _ l' a₁ w₁ r2 rfl hq hf2
    exact ⟨e₂, a₂, w₂, hq₂, .of_steps (.head step_scope (harr _ (hg _ _ hf2))) harr₂⟩
  | ret => exact ⟨_, a₁, w₁, hq, .of_steps (.one step_scope) harr⟩
  | panic ch => exact ⟨_, a₁, w₁, hq, .of_steps (.one step_scope) harr⟩
  | outgrown => exact ⟨_, a₁, w₁, hq, .of_steps (.one step_scope) harr⟩

/-- what is left to be read, from place pos on -/
def endK (n : Nat) : Rs → Pr
  | .bad a e => .bad a e
  | .good t => endS n t
def contL (l : List UInt8) (pos : Nat) (s : Rd) : Pr := endK l.length (runS (chop (l.drop pos)) pos s)
theorem contL_end (s : ByteArray) (pos : Nat) (rd : Rd) (h : ¬ pos < s.size) : contL (bl s) pos rd = endS s.size rd := by
  unfold contL
  rw [chop_end s pos h, bl_length]
  rfl
theorem contL_at (s : ByteArray) (pos : Nat) (rd : Rd) (h : pos < s.size) :
    contL (bl s) pos rd = match stepS rd pos (Utf8.decode s pos).1 with | .bad a e => .bad a e | .good t => contL (bl s) (pos + (Utf8.decode s pos).2) t := by
  unfold contL
  rw [chop_at s pos h, runS, piece_len s pos h]
  simp only
  cases stepS rd pos (Utf8.decode s pos).1 <;> rfl
theorem parseL_cont {l : List UInt8} (h : ¬ 65536 < l.length) : parseL l = contL l 0 rd0 := by
  unfold parseL contL
  rw [if_neg h, List.drop_zero]
  cases runS (chop l) 0 rd0 <;> rfl

theorem put_full {p : Nat} {s : Rd} {b r d : Value} {W : World} (x : Bool) (hR : RdAt p s W b r d) (hk : RdOk s) (h : s.c = 16 ∨ s.h = 16) :
    Calls Tryd.prog 52 #[.pointer (some ⟨p, 0, none⟩), .bool x] W fun e W' => e = .returned (.bool false) ∧ W = W' :=
  (put_any p s x b r d W hR hk).mono fun e W' hq => by
    cases hq with
    | full _ => exact ⟨rfl, rfl⟩
    | good _ _ _ _ h' => exact absurd h h'
theorem put_good {p : Nat} {s : Rd} {b r d : Value} {W : World} (x : Bool) (hR : RdAt p s W b r d) (hk : RdOk s) (h : ¬ (s.c = 16 ∨ s.h = 16)) :
    Calls Tryd.prog 52 #[.pointer (some ⟨p, 0, none⟩), .bool x] W fun e W' => e = .returned (.bool true) ∧ Below p W W' ∧ ∃ b r d, RdAt p { s with c := s.c + 1, B := s.B ++ [x], R := s.R ++ [false], D := s.D ++ [false] } W' b r d :=
  (put_any p s x b r d W hR hk).mono fun e W' hq => by
    cases hq with
    | full h' => exact absurd h' h
    | good b r d _ _ hr hb => exact ⟨rfl, hb, b, r, d, hr⟩
theorem RdOk.ne {s : Rd} (k : RdOk s) (hc : s.c ≠ 0) : s.B.length ≠ 0 := by rcases k.b with h | h <;> omega
theorem RdOk.setR {s : Rd} (k : RdOk s) {l : List Bool} (h : l.length = s.R.length) : RdOk { s with R := l } := ⟨k.h, k.w, k.c, k.b, h.trans k.r, k.d, k.g⟩
theorem RdOk.setD {s : Rd} (k : RdOk s) {l : List Bool} (h : l.length = s.D.length) : RdOk { s with D := l } := ⟨k.h, k.w, k.c, k.b, k.r, h.trans k.d, k.g⟩
theorem RdOk.setF {s : Rd} (k : RdOk s) (f : Nat) : RdOk { s with f := f } := ⟨k.h, k.w, k.c, k.b, k.r, k.d, k.g⟩
theorem barL_len {c : Nat} {l k : List Bool} (h : barL c l = some k) (hl : l ≠ []) : k.length = l.length := by
  unfold barL at h
  split at h
  · cases h
  · injection h with h
    subst h
    have := List.length_pos_iff.2 hl
    simp; omega
theorem barR_no {p : Nat} {s : Rd} {b r d : Value} {W : World} (hR : RdAt p s W b r d) (hk : RdOk s) (h : barL s.c s.R = none) :
    Calls Tryd.prog 53 #[.pointer (some ⟨p, 0, none⟩), r] W fun e W' => e = .returned (.bool false) ∧ W = W' :=
  (bar_any p s.h s.w s.c b r d r s.R W hR.blk hR.oR (fun hc e => by have := hk.ne hc; have := hk.r; rw [e] at this; simp at this; omega) (by have := hk.small; have := hk.r; omega) hk.c).mono fun e W' hq => by
    cases hq with
    | no _ => exact ⟨rfl, rfl⟩
    | yes g cap k hl hc hv => rw [hl, barL_snoc _ _ _ hc] at h; cases h
theorem barR_yes {p : Nat} {s : Rd} {b r d : Value} {W : World} {k : List Bool} (hR : RdAt p s W b r d) (hk : RdOk s) (h : barL s.c s.R = some k) :
    Calls Tryd.prog 53 #[.pointer (some ⟨p, 0, none⟩), r] W fun e W' => e = .returned (.bool true) ∧ Below p W W' ∧ RdAt p { s with R := k } W' b r d :=
  (bar_any p s.h s.w s.c b r d r s.R W hR.blk hR.oR (fun hc e => by have := hk.ne hc; have := hk.r; rw [e] at this; simp at this; omega) (by have := hk.small; have := hk.r; omega) hk.c).mono fun e W' hq => by
    cases hq with
    | no h' => rw [h] at h'; cases h'
    | yes g cap k2 hl hc hv =>
      rw [hl, barL_snoc _ _ _ hc, if_neg (by simp)] at h
      injection h with h
      subst h
      have h1 := hR.oR
      rw [hv] at h1
      exact ⟨rfl, (Below.refl p W).setCell (p := ⟨g, k2.length, none⟩) (by have := row_block h1; simp only; omega) _, hR.barR hl hv⟩
theorem barD_no {p : Nat} {s : Rd} {b r d : Value} {W : World} (hR : RdAt p s W b r d) (hk : RdOk s) (h : barL s.c s.D = none) :
    Calls Tryd.prog 53 #[.pointer (some ⟨p, 0, none⟩), d] W fun e W' => e = .returned (.bool false) ∧ W = W' :=
  (bar_any p s.h s.w s.c b r d d s.D W hR.blk hR.oD (fun hc e => by have := hk.ne hc; have := hk.d; rw [e] at this; simp at this; omega) (by have := hk.small; have := hk.d; omega) hk.c).mono fun e W' hq => by
    cases hq with
    | no _ => exact ⟨rfl, rfl⟩
    | yes g cap k hl hc hv => rw [hl, barL_snoc _ _ _ hc] at h; cases h
theorem barD_yes {p : Nat} {s : Rd} {b r d : Value} {W : World} {k : List Bool} (hR : RdAt p s W b r d) (hk : RdOk s) (h : barL s.c s.D = some k) :
    Calls Tryd.prog 53 #[.pointer (some ⟨p, 0, none⟩), d] W fun e W' => e = .returned (.bool true) ∧ Below p W W' ∧ RdAt p { s with D := k } W' b r d :=
  (bar_any p s.h s.w s.c b r d d s.D W hR.blk hR.oD (fun hc e => by have := hk.ne hc; have := hk.d; rw [e] at this; simp at this; omega) (by have := hk.small; have := hk.d; omega) hk.c).mono fun e W' hq => by
    cases hq with
    | no h' => rw [h] at h'; cases h'
    | yes g cap k2 hl hc hv =>
      rw [hl, barL_snoc _ _ _ hc, if_neg (by simp)] at h
      injection h with h
      subst h
      have h1 := hR.oD
      rw [hv] at h1
      exact ⟨rfl, (Below.refl p W).setCell (p := ⟨g, k2.length, none⟩) (by have := row_block h1; simp only; omega) _, hR.barD hl hv⟩
theorem rowS_ok {s t : Rd} (h : rowS s = some t) (hk : RdOk s) : RdOk t ∧ t.f = s.f := by
  unfold rowS at h
  split at h
  · injection h with h; subst h; exact ⟨hk, rfl⟩
  · rename_i h0
    split at h
    · cases h
    · rename_i h1
      injection h with h; subst h
      refine ⟨⟨?_, hk.c, by show 0 ≤ 16; omega, .inl ?_, hk.r, hk.d, fun h => absurd rfl h⟩, rfl⟩
      · have := hk.g h0; show s.h + 1 ≤ 16; omega
      · show s.B.length = (s.h + 1) * s.c + 0
        rcases hk.b with h2 | h2
        · by_cases h3 : s.h = 0
          · rw [h2, h3]; omega
          · have : s.c = s.w := by omega
            rw [h2, this, Nat.add_mul]; omega
        · rw [h2.2, h2.1]; omega
theorem row_good {p : Nat} {s t : Rd} {b r d : Value} {W : World} (hR : RdAt p s W b r d) (hk : RdOk s) (h : rowS s = some t) :
    Calls Tryd.prog 54 #[.pointer (some ⟨p, 0, none⟩)] W fun e W' => e = .returned (.bool true) ∧ Below p W W' ∧ RdAt p t W' b r d :=
  (row_any p s.h s.w s.c b r d W hR.blk hk.h hk.w hk.c).mono fun e W' hq => by
    unfold rowS at h
    cases hq with
    | none h0 =>
      rw [if_pos h0] at h
      injection h with h; subst h
      exact ⟨rfl, Below.refl _ _, hR⟩
    | bad q h0 h1 h2 =>
      rw [if_neg h0, if_pos ⟨h1, h2⟩] at h
      cases h
    | good q h0 h1 =>
      rw [if_neg h0, if_neg h1] at h
      injection h with h; subst h
      have lt := Nat.lt_succ_self p
      refine ⟨rfl, (((bdraw (Below.refl p W) q).setCell (p := ⟨p, 0, none⟩) (Nat.le_refl _) _).setCell (p := ⟨p, 1, none⟩) (Nat.le_refl _) _).setCell (p := ⟨p, 5, none⟩) (Nat.le_refl _) _, ?_, ?_, ?_, ?_, hR.br, hR.bd, hR.rd⟩
      · exact heap_setCell_same _ p 5 _ _ _ (heap_setCell_same _ p 1 _ _ _ (heap_setCell_same (W.drewN q) p 0 _ _ _ hR.blk))
      · exact ownsRow_setCell_below (ownsRow_setCell_below (ownsRow_setCell_below (hR.draw q).oB (a := ⟨p, 0, none⟩) lt _) (a := ⟨p, 1, none⟩) lt _) (a := ⟨p, 5, none⟩) lt _
      · exact ownsRow_setCell_below (ownsRow_setCell_below (ownsRow_setCell_below (hR.draw q).oR (a := ⟨p, 0, none⟩) lt _) (a := ⟨p, 1, none⟩) lt _) (a := ⟨p, 5, none⟩) lt _
      · exact ownsRow_setCell_below (ownsRow_setCell_below (ownsRow_setCell_below (hR.draw q).oD (a := ⟨p, 0, none⟩) lt _) (a := ⟨p, 1, none⟩) lt _) (a := ⟨p, 5, none⟩) lt _
theorem row_bad {p : Nat} {s : Rd} {b r d : Value} {W : World} (hR : RdAt p s W b r d) (hk : RdOk s) (h : rowS s = none) :
    Calls Tryd.prog 54 #[.pointer (some ⟨p, 0, none⟩)] W fun e W' => e = .returned (.bool false) ∧ Below p W W' :=
  (row_any p s.h s.w s.c b r d W hR.blk hk.h hk.w hk.c).mono fun e W' hq => by
    unfold rowS at h
    cases hq with
    | none h0 => rw [if_pos h0] at h; cases h
    | bad q h0 h1 h2 => exact ⟨rfl, bdraw (Below.refl _ _) q⟩
    | good q h0 h1 => rw [if_neg h0, if_neg h1] at h; cases h
end Go.Proofs.YtlkabghpcjlohaaDoor
