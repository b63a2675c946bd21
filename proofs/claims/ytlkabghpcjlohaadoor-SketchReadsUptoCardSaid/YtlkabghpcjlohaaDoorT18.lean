/- The reference of layer 8: the rows of cells in memory, and the grid that is filled out of them. -/
import Derived.Test.YtlkabghpcjlohaaDoorT17
import Derived.Test.YtlkabghpcjlohaaDoorP12
namespace Go.Proofs.YtlkabghpcjlohaaDoor
set_option linter.unusedVariables false
set_option linter.unusedSimpArgs false
open Go.RowKit Go.Lib

theorem infoSlice : (Tryd.prog.info? 82).map (fun i => (i.zero, i.size, i.bytes)) = some (some (.slice none 0 0), 1, 24) := by kernel_rfl
/-- a row's block is of its own elements' type -/
theorem own_type {W : World} {B e sz n : Nat} {v : Value} {xs : List Value} (h : W.ownsRow B e sz v n xs) : ∀ k, v.ownBlock = some k → ∃ cur, W.heap[k]? = some (.cells cur e (0, 0)) := by
  intro k hk
  rcases h.2 with ⟨rfl, _⟩ | ⟨g, cap, cur, rfl, _, hg, _⟩
  · cases hk
  · have : g = k := by simpa [Value.ownBlock] using hk
    subst this
    exact ⟨cur, hg⟩
theorem own_other {W : World} {B e sz n B' e' sz' n' : Nat} {v v' : Value} {xs xs' : List Value} (h : W.ownsRow B e sz v n xs) (h' : W.ownsRow B' e' sz' v' n' xs') (he : e ≠ e') : v.ownBlock = none ∨ v.ownBlock ≠ v'.ownBlock := by
  cases hv : v.ownBlock with
  | none => exact .inl rfl
  | some k =>
    refine .inr fun h2 => ?_
    obtain ⟨c1, e1⟩ := own_type h k hv
    obtain ⟨c2, e2⟩ := own_type h' k h2.symm
    rw [e1] at e2
    injection e2 with e2
    injection e2 with e3 e4
    exact he e4
theorem own_base {W : World} {B B' e sz n : Nat} {v : Value} {xs : List Value} (h : W.ownsRow B e sz v n xs) (hB : B' ≤ B) : W.ownsRow B' e sz v n xs := by
  refine ⟨h.1, ?_⟩
  rcases h.2 with h2 | ⟨g, cap, cur, rfl, hb, rest⟩
  · exact .inl h2
  · exact .inr ⟨g, cap, cur, rfl, Nat.le_trans hB hb, rest⟩
theorem own_belowS {W W' : World} {B e sz n : Nat} {v : Value} {xs : List Value} (h : W.ownsRow B e sz v n xs) (hb : Below W.heap.size W W') : W'.ownsRow B e sz v n xs := by
  refine ⟨h.1, ?_⟩
  rcases h.2 with h2 | ⟨g, cap, cur, rfl, hB, hg, rest⟩
  · exact .inl h2
  · exact .inr ⟨g, cap, cur, rfl, hB, (hb.block g (Array.getElem?_eq_some_iff.1 hg).1).trans hg, rest⟩
/-- rows of cells, a slice of slices -/
structure RowsAt (W : World) (B : Nat) (vr : Value) (vs : List Value) (rows : List (List Cl)) : Prop where
  own : W.ownsRow B 82 1 vr rows.length vs
  row : ∀ (i : Nat) (r : List Cl), rows[i]? = some r → ∃ v, vs[i]? = some v ∧ W.ownsRow B 88 3 v r.length (cellsV r)
theorem RowsAt.below {W W' : World} {B : Nat} {vr : Value} {vs : List Value} {rows : List (List Cl)} (h : RowsAt W B vr vs rows) (hb : Below W.heap.size W W') : RowsAt W' B vr vs rows :=
  ⟨own_belowS h.own hb, fun i r hr => by obtain ⟨v, e, o⟩ := h.row i r hr; exact ⟨v, e, own_belowS o hb⟩⟩
theorem RowsAt.nil (W : World) (B : Nat) : RowsAt W B (.slice none 0 0) [] [] := ⟨World.ownsRow_nil _ _ _ _, fun i r hr => by cases hr⟩
theorem RowsAt.snoc {W W' : World} {B : Nat} {vr vr' v : Value} {vs : List Value} {rows : List (List Cl)} {cs : List Cl} (h : RowsAt W B vr vs rows) (hv : W.ownsRow B 88 3 v cs.length (cellsV cs))
    (hg : W.grownBy W' vr.ownBlock) (ho : W'.ownsRow B 82 1 vr' (rows.length + 1) (vs ++ [v])) : RowsAt W' B vr' (vs ++ [v]) (rows ++ [cs]) := by
  have hl : vs.length = rows.length := by have := h.own.1; omega
  refine ⟨by rw [List.length_append]; exact ho, fun i r hr => ?_⟩
  rcases Nat.lt_or_ge i rows.length with hi | hi
  · rw [List.getElem?_append_left hi] at hr
    obtain ⟨u, e, o⟩ := h.row i r hr
    exact ⟨u, by rw [List.getElem?_append_left (by omega)]; exact e, o.kept hg (own_other o h.own (by decide))⟩
  · rw [List.getElem?_append_right hi] at hr
    have h0 : i - rows.length = 0 := by
      rcases Nat.eq_zero_or_pos (i - rows.length) with h0 | h0
      · exact h0
      · rw [List.getElem?_eq_none (by simp; omega)] at hr; cases hr
    rw [h0] at hr
    injection hr with hr
    subst hr
    exact ⟨v, by rw [List.getElem?_append_right (by omega), hl, h0]; rfl, hv.kept hg (own_other hv h.own (by decide))⟩
/-- three rows of bools in blocks of their own -/
structure FillAt (W : World) (a b d n : Nat) (xs ys zs : List Bool) : Prop where
  ab : a ≠ b
  ad : a ≠ d
  bd : b ≠ d
  oa : W.ownsRow a 4 1 (.slice (some ⟨a, 0, none⟩) n n) n (bools xs)
  ob : W.ownsRow b 4 1 (.slice (some ⟨b, 0, none⟩) n n) n (bools ys)
  od : W.ownsRow d 4 1 (.slice (some ⟨d, 0, none⟩) n n) n (bools zs)
theorem bools_put (l : List Bool) (i : Nat) (x : Bool) : (bools l).set i (.bool x) = bools (l.set i x) := by
  unfold bools; rw [List.map_set]
theorem FillAt.setA {W : World} {a b d n : Nat} {xs ys zs : List Bool} (h : FillAt W a b d n xs ys zs) (i : Nat) (x : Bool) : FillAt (W.setCell ⟨a, i, none⟩ (.bool x)) a b d n (xs.set i x) ys zs :=
  ⟨h.ab, h.ad, h.bd, by rw [← bools_put]; exact (h.oa.stored i _).1, ownsRow_setCell_other h.ob (a := ⟨a, i, none⟩) (by simp [Value.ownBlock]; exact h.ab.symm) _, ownsRow_setCell_other h.od (a := ⟨a, i, none⟩) (by simp [Value.ownBlock]; exact h.ad.symm) _⟩
theorem FillAt.setB {W : World} {a b d n : Nat} {xs ys zs : List Bool} (h : FillAt W a b d n xs ys zs) (i : Nat) (x : Bool) : FillAt (W.setCell ⟨b, i, none⟩ (.bool x)) a b d n xs (ys.set i x) zs :=
  ⟨h.ab, h.ad, h.bd, ownsRow_setCell_other h.oa (a := ⟨b, i, none⟩) (by simp [Value.ownBlock]; exact h.ab) _, by rw [← bools_put]; exact (h.ob.stored i _).1, ownsRow_setCell_other h.od (a := ⟨b, i, none⟩) (by simp [Value.ownBlock]; exact h.bd.symm) _⟩
theorem FillAt.setD {W : World} {a b d n : Nat} {xs ys zs : List Bool} (h : FillAt W a b d n xs ys zs) (i : Nat) (x : Bool) : FillAt (W.setCell ⟨d, i, none⟩ (.bool x)) a b d n xs ys (zs.set i x) :=
  ⟨h.ab, h.ad, h.bd, ownsRow_setCell_other h.oa (a := ⟨d, i, none⟩) (by simp [Value.ownBlock]; exact h.ad) _, ownsRow_setCell_other h.ob (a := ⟨d, i, none⟩) (by simp [Value.ownBlock]; exact h.bd) _, by rw [← bools_put]; exact (h.od.stored i _).1⟩
theorem FillAt.below {W W' : World} {a b d n : Nat} {xs ys zs : List Bool} (h : FillAt W a b d n xs ys zs) (hb : Below W.heap.size W W') : FillAt W' a b d n xs ys zs :=
  ⟨h.ab, h.ad, h.bd, own_belowS h.oa hb, own_belowS h.ob hb, own_belowS h.od hb⟩
theorem FillAt.start {w W : World} {a b d n : Nat} (h : Rows3 w n a b d W) (hn : n ≤ 256) : FillAt W a b d n (List.replicate n false) (List.replicate n false) (List.replicate n false) := by
  have hm : ∀ k, W.heap[k]? = some (.cells (madeCells #[.bool false] n) 4 (0, 0)) → W.ownsRow k 4 1 (.slice (some ⟨k, 0, none⟩) n n) n (bools (List.replicate n false)) := by
    intro k hk
    have e1 : (madeCells #[.bool false] n).toList = bools (List.replicate n false) := by
      apply List.ext_getElem
      · simp [bools, madeCells]
      · intro i h1 h2
        simp [madeCells, bools, Nat.mod_one]
    have e2 : (madeCells #[Value.bool false] n).size = n := by
      have := congrArg List.length e1
      simpa [bools] using this
    refine ⟨by simp [bools], .inr ⟨k, n, _, rfl, Nat.le_refl _, hk, Nat.le_refl _, by unfold maxLen; omega, by omega, ?_⟩⟩
    rw [e1, List.take_of_length_le (by simp [bools])]
  exact ⟨h.ab, h.ad, h.bd, hm a h.oa, hm b h.ob, hm d h.od⟩
end Go.Proofs.YtlkabghpcjlohaaDoor
