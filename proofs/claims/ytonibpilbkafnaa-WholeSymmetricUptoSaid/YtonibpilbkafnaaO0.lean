/- Slices that read as lists; grids in plain Lean. -/
import Derived.Test.YtonibpilbkafnaaProg
import Derived.WalkKit
import Derived.WalkLawsBesides
import Derived.WalkSpells
import Derived.Lib.OthersKept
import Derived.LoopTactic
import Derived.Below
import Derived.BigQuiet
import Derived.Deep.QuietTactic
import Derived.Deep.AppendLies
import Derived.Deep.LoopGhost
import Derived.OwnWalk
import Derived.Lib.Hide
import Derived.Laws.AppendOwn
import Derived.Maps.AppendAt
import Derived.BigRegion
import Derived.Deep.OwnRows
import Derived.WalkMore
import Derived.RangeFuncRecord
import Derived.Laws.Rows
namespace Go.Proofs.Ytonibpilbkafnaa
set_option linter.unusedVariables false
set_option linter.unusedSimpArgs false
open Go.RowKit Go.Lib

theorem ret_b {a b : Bool} (h : a = b) : Ending.returned (.bool a) = Ending.returned (.bool b) := by rw [h]
theorem ret_i {k : IntKind} {a b : Int} (h : a = b) : Ending.returned (.int k a) = Ending.returned (.int k b) := by rw [h]
theorem ret_v {a b : Value} (h : a = b) : Ending.returned a = Ending.returned b := by rw [h]
theorem bdraw {B : Nat} {a w : World} (h : Below B a w) (n : Nat) : Below B a (w.drewN n) := h.trans ⟨rfl, rfl, rfl, Nat.le_refl _, fun _ _ => rfl⟩
theorem block_add (a : Addr) (n : Nat) : (a.add n).block = a.block := by unfold Addr.add; split <;> rfl
/-- v is a slice whose cells, all of them below block B, hold xs -/
def Sl (w : World) (B : Nat) (v : Value) (xs : List Value) : Prop :=
  ∃ A c, v = .slice A xs.length c ∧ xs.length ≤ c ∧ (0 < xs.length → ∃ ad, A = some ad ∧ ad.block < B ∧ ∀ j u, xs[j]? = some u → w.cell? (ad.add j) = some u)
theorem Sl.nil_ (w : World) (B : Nat) : Sl w B (.slice none 0 0) [] := ⟨none, 0, rfl, Nat.le_refl _, fun h => absurd h (by simp)⟩
theorem Sl.below {w w' : World} {B : Nat} {v : Value} {xs : List Value} (h : Sl w B v xs) (hb : Below B w w') : Sl w' B v xs := by
  obtain ⟨A, c, hv, hc, h⟩ := h
  refine ⟨A, c, hv, hc, fun hn => ?_⟩
  obtain ⟨ad, e, hB, hcell⟩ := h hn
  exact ⟨ad, e, hB, fun j u hu => (hb.cell (by rw [block_add]; exact hB)).trans (hcell j u hu)⟩
theorem Sl.more {w : World} {B B' : Nat} {v : Value} {xs : List Value} (h : Sl w B v xs) (hB : B ≤ B') : Sl w B' v xs := by
  obtain ⟨A, c, hv, hc, h⟩ := h
  refine ⟨A, c, hv, hc, fun hn => ?_⟩
  obtain ⟨ad, e, hB1, hcell⟩ := h hn
  exact ⟨ad, e, by omega, hcell⟩
theorem Sl.of_own {w : World} {B e : Nat} {v : Value} {n : Nat} {xs : List Value} (h : w.ownsRow B e 1 v n xs) : Sl w w.heap.size v xs := by
  have hl : xs.length = n := by simpa using h.1
  subst hl
  rcases h.2 with ⟨hv, h0⟩ | ⟨g, cap, cur, hv, hB, hg, hcap, hrest⟩
  · exact ⟨none, 0, by rw [hv, h0], by omega, fun hn => by omega⟩
  · refine ⟨some ⟨g, 0, none⟩, cap, hv, by omega, fun _ => ⟨_, rfl, (Array.getElem?_eq_some_iff.1 hg).1, h.cells (g := g) (by rw [hv]; rfl)⟩⟩
theorem Sl.at_ {w : World} {B : Nat} {v : Value} {xs : List Value} (h : Sl w B v xs) {k : Nat} (hk : k < xs.length) : ∃ ad c, v = .slice (some ad) xs.length c ∧ w.cell? (ad.add k) = some xs[k] := by
  obtain ⟨A, c, hv, hc, h⟩ := h
  obtain ⟨ad, rfl, hB, hcell⟩ := h (by omega)
  exact ⟨ad, c, hv, hcell k _ (List.getElem?_eq_getElem hk)⟩

theorem Sl.cell {w : World} {B : Nat} {A : Option Addr} {n c : Nat} {xs : List Value} (h : Sl w B (.slice A n c) xs) {k : Nat} (hk : k < xs.length) : ∃ ad, A = some ad ∧ ad.block < B ∧ w.cell? (ad.add k) = some xs[k] := by
  obtain ⟨A, c, hv, hc, h⟩ := h
  obtain ⟨ad, rfl, hB, hcell⟩ := h (by omega)
  injection hv with e1 e2 e3
  exact ⟨ad, e1, hB, hcell k _ (List.getElem?_eq_getElem hk)⟩
theorem Sl.len {w : World} {B : Nat} {A : Option Addr} {n c : Nat} {xs : List Value} (h : Sl w B (.slice A n c) xs) : xs.length = n ∧ n ≤ c := by
  obtain ⟨A, c, hv, hc, h⟩ := h
  injection hv with e1 e2 e3
  omega

/-- a grid -/
structure Gd where
  H : Int
  W : Int
  B : List Bool
  R : List Bool
  D : List Bool
deriving DecidableEq

/-- a bar that may not stand there -/
def badAt (H W : Nat) (B R D : List Bool) (i : Nat) : Bool :=
  (R.getD i false && (B.getD i false || decide (i % W = W - 1) || B.getD (i + 1) false)) || (D.getD i false && (B.getD i false || decide (i / W = H - 1) || B.getD (i + W) false))
def barred (g : Gd) : Bool := (List.range (g.H.toNat * g.W.toNat)).any (badAt g.H.toNat g.W.toNat g.B g.R g.D)
def checkG (g : Gd) : Int :=
  if ¬ (1 ≤ g.H ∧ g.H ≤ 16 ∧ 1 ≤ g.W ∧ g.W ≤ 16) then 50
  else if ¬ (g.B.length = g.H.toNat * g.W.toNat ∧ g.R.length = g.H.toNat * g.W.toNat ∧ g.D.length = g.H.toNat * g.W.toNat) then 51
  else if barred g then 52 else 0
structure OkG (g : Gd) : Prop where
  h0 : 1 ≤ g.H
  h1 : g.H ≤ 16
  w0 : 1 ≤ g.W
  w1 : g.W ≤ 16
  b : g.B.length = g.H.toNat * g.W.toNat
  r : g.R.length = g.H.toNat * g.W.toNat
  d : g.D.length = g.H.toNat * g.W.toNat
  nb : barred g = false
theorem ok_of_check {g : Gd} (h : checkG g = 0) : OkG g := by
  unfold checkG at h
  split at h
  · omega
  rename_i h1
  split at h
  · omega
  rename_i h2
  split at h
  · omega
  rename_i h3
  exact ⟨by omega, by omega, by omega, by omega, by omega, by omega, by omega, by simpa using h3⟩
theorem check_of_ok {g : Gd} (h : OkG g) : checkG g = 0 := by
  unfold checkG
  rw [if_neg (by have := h.h0; have := h.h1; have := h.w0; have := h.w1; omega), if_neg (by have := h.b; have := h.r; have := h.d; omega), h.nb]
  rfl
theorem area_le {g : Gd} (h : OkG g) : g.H.toNat * g.W.toNat ≤ 256 ∧ 1 ≤ g.W.toNat ∧ g.W.toNat ≤ 16 ∧ 1 ≤ g.H.toNat ∧ g.H.toNat ≤ 16 := by
  have a1 : g.H.toNat ≤ 16 := by have := h.h1; omega
  have a2 : g.W.toNat ≤ 16 := by have := h.w1; omega
  have a3 : 1 ≤ g.H.toNat := by have := h.h0; omega
  have a4 : 1 ≤ g.W.toNat := by have := h.w0; omega
  exact ⟨Nat.mul_le_mul a1 a2, a4, a2, a3, a1⟩

end Go.Proofs.Ytonibpilbkafnaa
