/- The reader of a sketch in memory: bar. -/
import Derived.Test.YtlkabghpcjlohaaDoorT6
namespace Go.Proofs.YtlkabghpcjlohaaDoor
set_option linter.unusedVariables false
set_option linter.unusedSimpArgs false
open Go.RowKit Go.Lib

theorem barL_snoc (c : Nat) (l : List Bool) (x : Bool) (hc : c ≠ 0) : barL c (l ++ [x]) = if x then none else some (l ++ [true]) := by
  unfold barL
  cases x <;> simp [hc]
theorem bools_set (l : List Bool) (x y : Bool) : (bools (l ++ [x])).set l.length (.bool y) = bools (l ++ [y]) := by
  unfold bools
  rw [List.map_append, List.map_append, List.set_append_right _ _ (by simp)]
  simp
/-- what bar answers -/
inductive BarPost (c : Nat) (l : List Bool) (v : Value) (W : World) : Ending → World → Prop
  | no (h : barL c l = none) : BarPost c l v W (.returned (.bool false)) W
  | yes (g cap : Nat) (k : List Bool) (hl : l = k ++ [false]) (hc : c ≠ 0) (hv : v = .slice (some ⟨g, 0, none⟩) l.length cap) : BarPost c l v W (.returned (.bool true)) (W.setCell ⟨g, k.length, none⟩ (.bool true))

set_option maxHeartbeats 4000000 in
set_option maxRecDepth 100000 in
theorem bar_any (p h w c : Nat) (b r d v : Value) (l : List Bool) (W : World) (hp : RdBlk p h w c b r d W) (hv : W.ownsRow (p + 1) 4 1 v l.length (bools l)) (hc : c ≠ 0 → l ≠ []) (hl : l.length ≤ 272) (hc16 : c ≤ 16) :
    Calls Tryd.prog 53 #[.pointer (some ⟨p, 0, none⟩), v] W (BarPost c l v W) := by
  have p5 := Lib.cell_of_heap hp 5
  clear hp
  obtain ⟨A, cap, rfl⟩ := own_form6 hv
  by_cases h0 : c = 0
  · subst h0
    go_enter Tryd.func53, Tryd.ntmps53
    go_wp2
    go_ret
    exact .no (by simp [barL])
  · have t0 : ((c : Int) == 0) = false := by simp; omega
    have t0' : ¬ (c : Int) = 0 := by omega
    obtain ⟨k, x, rfl⟩ : ∃ k x, l = k ++ [x] := by
      rcases List.eq_nil_or_concat l with rfl | ⟨k, x, rfl⟩
      · exact absurd rfl (hc h0)
      · exact ⟨k, x, by simp⟩
    have H0 := Lib.hid h0; clear h0 hc
    have hkl : (k ++ [x]).length = k.length + 1 := by simp
    rw [hkl] at hv hl ⊢
    have HKL := Lib.hid hkl; clear hkl
    obtain ⟨g, rfl⟩ : ∃ g, A = some ⟨g, 0, none⟩ := by
      rcases hv.2 with ⟨_, h0⟩ | ⟨g, _, _, h9, _⟩
      · omega
      · injection h9 with h9; exact ⟨g, h9⟩
    have c1 : W.cell? ⟨g, k.length, none⟩ = some (.bool x) := (hv.cellAt k.length (by omega)).trans (by unfold bools; rw [List.map_append, List.getElem?_append_right (by simp)]; simp)
    have f1 := hv.frozenAt k.length
    clear hv
    generalize hn : k.length = n at *
    have HN := Lib.hid hn; clear hn
    have i0 : (0 : Int) ≤ (n : Int) := by omega
    have i1 : (n : Int) < (n : Int) + 1 := by omega
    cases x with
    | true =>
      go_enter Tryd.func53, Tryd.ntmps53
      go_wp2
      go_ret
      exact .no (by rw [barL_snoc _ _ _ H0.out]; rfl)
    | false =>
      go_enter Tryd.func53, Tryd.ntmps53
      go_wp2
      go_ret
      have := BarPost.yes (c := c) (l := k ++ [false]) (v := .slice (some ⟨g, 0, none⟩) (n + 1) cap) (W := W) g cap k rfl H0.out (by rw [HKL.out])
      rw [HN.out] at this
      exact this
theorem blk_other {p g o h w c : Nat} {b r d u : Value} {W : World} (hp : RdBlk p h w c b r d W) (hg : g ≠ p) : RdBlk p h w c b r d (W.setCell ⟨g, o, none⟩ u) := by
  unfold RdBlk at hp ⊢
  rw [Below.heap_setCell _ _ _ _ (fun e => hg e.symm)]
  exact hp
theorem row_block {W : World} {B e g n cap : Nat} {xs : List Value} (h : W.ownsRow B e 1 (.slice (some ⟨g, 0, none⟩) n cap) n xs) : B ≤ g := (h.lt g rfl).1
theorem RdAt.barR {p g cap : Nat} {s : Rd} {W : World} {b r d : Value} {k : List Bool} (h : RdAt p s W b r d) (hk : s.R = k ++ [false]) (hr : r = .slice (some ⟨g, 0, none⟩) s.R.length cap) :
    RdAt p { s with R := k ++ [true] } (W.setCell ⟨g, k.length, none⟩ (.bool true)) b r d := by
  have h1 := h.oR; have h2 := h.br; have h3 := h.rd
  rw [hr] at h1 h2 h3 ⊢
  have hg := row_block h1
  have e : s.R.length = (k ++ [true]).length := by rw [hk]; simp
  have h4 := (h1.stored k.length (.bool true)).1
  rw [hk, bools_set] at h4
  refine ⟨blk_other (hr ▸ h.blk) (by omega), ownsRow_setCell_other h.oB (fun e => h2.symm g rfl e) _, ?_, ownsRow_setCell_other h.oD (fun e => h3 g rfl e) _, h2, h.bd, h3⟩
  show World.ownsRow _ _ _ _ _ (k ++ [true]).length _
  rw [hk]
  have e2 : (k ++ [true]).length = (k ++ [false]).length := by simp
  rw [e2]
  exact h4
theorem RdAt.barD {p g cap : Nat} {s : Rd} {W : World} {b r d : Value} {k : List Bool} (h : RdAt p s W b r d) (hk : s.D = k ++ [false]) (hr : d = .slice (some ⟨g, 0, none⟩) s.D.length cap) :
    RdAt p { s with D := k ++ [true] } (W.setCell ⟨g, k.length, none⟩ (.bool true)) b r d := by
  have h1 := h.oD; have h2 := h.bd; have h3 := h.rd
  rw [hr] at h1 h2 h3 ⊢
  have hg := row_block h1
  have h4 := (h1.stored k.length (.bool true)).1
  rw [hk, bools_set] at h4
  refine ⟨blk_other (hr ▸ h.blk) (by omega), ownsRow_setCell_other h.oB (fun e => h2.symm g rfl e) _, ownsRow_setCell_other h.oR (fun e => h3.symm g rfl e) _, ?_, h.br, h2, h3⟩
  show World.ownsRow _ _ _ _ _ (k ++ [true]).length _
  rw [hk]
  have e2 : (k ++ [true]).length = (k ++ [false]).length := by simp
  rw [e2]
  exact h4
end Go.Proofs.YtlkabghpcjlohaaDoor
