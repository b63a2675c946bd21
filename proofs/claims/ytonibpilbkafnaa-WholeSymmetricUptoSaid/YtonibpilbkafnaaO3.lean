/- Three rows of bools in memory; a grid that is being turned. -/
import Derived.Test.YtonibpilbkafnaaO2
import Derived.Test.YtonibpilbkafnaaT1
import Derived.OneCell
import Derived.Laws.OwnMore
import Derived.Laws.AppendOwn
namespace Go.Proofs.Ytonibpilbkafnaa
set_option linter.unusedVariables false
set_option linter.unusedSimpArgs false
open Go.RowKit Go.Lib

theorem GdAt.below {w w' : World} {B : Nat} {v : Value} {g : Gd} (h : GdAt w B v g) (hb : Below B w w') : GdAt w' B v g := by
  obtain ⟨b, r, d, e, h1, h2, h3⟩ := h.eq
  exact ⟨h.h0, h.w0, b, r, d, e, h1.below hb, h2.below hb, h3.below hb⟩
abbrev gdV (g : Gd) (Ab Ar Ad : Option Addr) (cb cr cd : Nat) : Value := .agg #[.int .i64 g.H, .int .i64 g.W, .slice Ab g.B.length cb, .slice Ar g.R.length cr, .slice Ad g.D.length cd]
theorem GdAt.form {w : World} {B : Nat} {v : Value} {g : Gd} (h : GdAt w B v g) : ∃ Ab Ar Ad cb cr cd, v = gdV g Ab Ar Ad cb cr cd := by
  obtain ⟨b, r, d, rfl, ⟨Ab, cb, rfl, _⟩, ⟨Ar, cr, rfl, _⟩, ⟨Ad, cd, rfl, _⟩⟩ := h.eq
  exact ⟨Ab, Ar, Ad, cb, cr, cd, by simp only [gdV, List.length_map]⟩
theorem GdAt.more {w : World} {B B' : Nat} {v : Value} {g : Gd} (h : GdAt w B v g) (hB : B ≤ B') : GdAt w B' v g := by
  obtain ⟨b, r, d, e, s1, s2, s3⟩ := h.eq
  exact ⟨h.h0, h.w0, b, r, d, e, s1.more hB, s2.more hB, s3.more hB⟩
theorem gd_eq {g h : Gd} : g = h ↔ g.H = h.H ∧ g.W = h.W ∧ g.B = h.B ∧ g.R = h.R ∧ g.D = h.D := by
  obtain ⟨a, b, c, d, e⟩ := g
  obtain ⟨a', b', c', d', e'⟩ := h
  simp
/-- a row's block is of its own elements' type -/
theorem own_type {W : World} {B e sz n : Nat} {v : Value} {xs : List Value} (h : W.ownsRow B e sz v n xs) : ∀ k, v.ownBlock = some k → ∃ cur, W.heap[k]? = some (.cells cur e (0, 0)) := by
  intro k hk
  rcases h.2 with ⟨rfl, _⟩ | ⟨g, cap, cur, rfl, _, hg, _⟩
  · cases hk
  · have : g = k := by simpa [Value.ownBlock] using hk
    subst this
    exact ⟨cur, hg⟩
theorem own_other {W : World} {B e sz n B' e' sz' n' : Nat} {v v' : Value} {xs xs' : List Value} (h : W.ownsRow B e sz v n xs) (h' : W.ownsRow B' e' sz' v' n' xs') (he : e ≠ e') : v.ownBlock = none ∨ v.ownBlock ≠ v'.ownBlock := by
  cases hv : v.ownBlock with
  | none => exact .inl rfl
  | some k =>
    refine .inr fun h2 => ?_
    obtain ⟨c1, e1⟩ := own_type h k hv
    obtain ⟨c2, e2⟩ := own_type h' k h2.symm
    rw [e1] at e2
    injection e2 with e2
    injection e2 with e3 e4
    exact he e4
theorem own_base {W : World} {B B' e sz n : Nat} {v : Value} {xs : List Value} (h : W.ownsRow B e sz v n xs) (hB : B' ≤ B) : W.ownsRow B' e sz v n xs := by
  refine ⟨h.1, ?_⟩
  rcases h.2 with h2 | ⟨g, cap, cur, rfl, hb, rest⟩
  · exact .inl h2
  · exact .inr ⟨g, cap, cur, rfl, Nat.le_trans hB hb, rest⟩
theorem own_belowS {W W' : World} {B e sz n : Nat} {v : Value} {xs : List Value} (h : W.ownsRow B e sz v n xs) (hb : Below W.heap.size W W') : W'.ownsRow B e sz v n xs := by
  refine ⟨h.1, ?_⟩
  rcases h.2 with h2 | ⟨g, cap, cur, rfl, hB, hg, rest⟩
  · exact .inl h2
  · exact .inr ⟨g, cap, cur, rfl, hB, (hb.block g (Array.getElem?_eq_some_iff.1 hg).1).trans hg, rest⟩
/-- three rows of bools in blocks of their own -/
structure FillAt (W : World) (a b d n : Nat) (xs ys zs : List Bool) : Prop where
  ab : a ≠ b
  ad : a ≠ d
  bd : b ≠ d
  oa : W.ownsRow a 4 1 (.slice (some ⟨a, 0, none⟩) n n) n (bools xs)
  ob : W.ownsRow b 4 1 (.slice (some ⟨b, 0, none⟩) n n) n (bools ys)
  od : W.ownsRow d 4 1 (.slice (some ⟨d, 0, none⟩) n n) n (bools zs)
theorem bools_put (l : List Bool) (i : Nat) (x : Bool) : (bools l).set i (.bool x) = bools (l.set i x) := by
  unfold bools; rw [List.map_set]
theorem FillAt.setA {W : World} {a b d n : Nat} {xs ys zs : List Bool} (h : FillAt W a b d n xs ys zs) (i : Nat) (x : Bool) : FillAt (W.setCell ⟨a, i, none⟩ (.bool x)) a b d n (xs.set i x) ys zs :=
  ⟨h.ab, h.ad, h.bd, by rw [← bools_put]; exact (h.oa.stored i _).1, ownsRow_setCell_other h.ob (a := ⟨a, i, none⟩) (by simp [Value.ownBlock]; exact h.ab.symm) _, ownsRow_setCell_other h.od (a := ⟨a, i, none⟩) (by simp [Value.ownBlock]; exact h.ad.symm) _⟩
theorem FillAt.setB {W : World} {a b d n : Nat} {xs ys zs : List Bool} (h : FillAt W a b d n xs ys zs) (i : Nat) (x : Bool) : FillAt (W.setCell ⟨b, i, none⟩ (.bool x)) a b d n xs (ys.set i x) zs :=
  ⟨h.ab, h.ad, h.bd, ownsRow_setCell_other h.oa (a := ⟨b, i, none⟩) (by simp [Value.ownBlock]; exact h.ab) _, by rw [← bools_put]; exact (h.ob.stored i _).1, ownsRow_setCell_other h.od (a := ⟨b, i, none⟩) (by simp [Value.ownBlock]; exact h.bd.symm) _⟩
theorem FillAt.setD {W : World} {a b d n : Nat} {xs ys zs : List Bool} (h : FillAt W a b d n xs ys zs) (i : Nat) (x : Bool) : FillAt (W.setCell ⟨d, i, none⟩ (.bool x)) a b d n xs ys (zs.set i x) :=
  ⟨h.ab, h.ad, h.bd, ownsRow_setCell_other h.oa (a := ⟨d, i, none⟩) (by simp [Value.ownBlock]; exact h.ad) _, ownsRow_setCell_other h.ob (a := ⟨d, i, none⟩) (by simp [Value.ownBlock]; exact h.bd) _, by rw [← bools_put]; exact (h.od.stored i _).1⟩
theorem FillAt.below {W W' : World} {a b d n : Nat} {xs ys zs : List Bool} (h : FillAt W a b d n xs ys zs) (hb : Below W.heap.size W W') : FillAt W' a b d n xs ys zs :=
  ⟨h.ab, h.ad, h.bd, own_belowS h.oa hb, own_belowS h.ob hb, own_belowS h.od hb⟩

theorem FillAt.made {W : World} {a b d n : Nat} (ab : a ≠ b) (ad : a ≠ d) (bd : b ≠ d) (ha : W.heap[a]? = some (.cells (madeCells #[.bool false] n) 4 (0, 0))) (hb : W.heap[b]? = some (.cells (madeCells #[.bool false] n) 4 (0, 0))) (hd : W.heap[d]? = some (.cells (madeCells #[.bool false] n) 4 (0, 0))) (hn : n ≤ 256) :
    FillAt W a b d n (List.replicate n false) (List.replicate n false) (List.replicate n false) := by
  have hm : ∀ k, W.heap[k]? = some (.cells (madeCells #[.bool false] n) 4 (0, 0)) → W.ownsRow k 4 1 (.slice (some ⟨k, 0, none⟩) n n) n (bools (List.replicate n false)) := by
    intro k hk
    have e1 : (madeCells #[.bool false] n).toList = bools (List.replicate n false) := by
      apply List.ext_getElem
      · simp [bools, madeCells]
      · intro i h1 h2
        simp [madeCells, bools, Nat.mod_one]
    have e2 : (madeCells #[Value.bool false] n).size = n := by
      have := congrArg List.length e1
      simpa [bools] using this
    refine ⟨by simp [bools], .inr ⟨k, n, _, rfl, Nat.le_refl _, hk, Nat.le_refl _, by unfold maxLen; omega, by omega, ?_⟩⟩
    rw [e1, List.take_of_length_le (by simp [bools])]
  exact ⟨ab, ad, bd, hm a ha, hm b hb, hm d hd⟩
end Go.Proofs.Ytonibpilbkafnaa
