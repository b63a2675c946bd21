/- Slots in memory: a slice of structs, each with a slice of cells. -/
import Derived.Test.YtonibpilbkafnaaO3
namespace Go.Proofs.Ytonibpilbkafnaa
set_option linter.unusedVariables false
set_option linter.unusedSimpArgs false
open Go.RowKit Go.Lib

abbrev ints (l : List Nat) : List Value := l.map fun (n : Nat) => Value.int .i64 (n : Int)
theorem infoInt : (Try.prog.info? 3).map (fun i => (i.zero, i.size, i.bytes)) = some (some (.int .i64 0), 1, 8) := by kernel_rfl
theorem infoSlot : (Try.prog.info? 31).map (fun i => (i.zero, i.size, i.bytes)) = some (some (.agg #[.int .i64 0, .bool false, .slice none 0 0]), 3, 40) := by kernel_rfl
/-- the slots: each with its way and its cells -/
structure SlotsAt (W : World) (B : Nat) (v : Value) (vs : List Value) (L : List (Bool × List Nat)) : Prop where
  own : W.ownsRow B 31 3 v L.length vs
  row : ∀ (i : Nat) (s : Bool × List Nat), L[i]? = some s → ∃ (num : Int) (u : Value), vs[i * 3]? = some (.int .i64 num) ∧ vs[i * 3 + 1]? = some (.bool s.1) ∧ vs[i * 3 + 2]? = some u ∧ W.ownsRow B 3 1 u s.2.length (ints s.2)
theorem SlotsAt.below {W W' : World} {B : Nat} {v : Value} {vs : List Value} {L : List (Bool × List Nat)} (h : SlotsAt W B v vs L) (hb : Below W.heap.size W W') : SlotsAt W' B v vs L :=
  ⟨own_belowS h.own hb, fun i s hs => by obtain ⟨num, u, e1, e2, e3, o⟩ := h.row i s hs; exact ⟨num, u, e1, e2, e3, own_belowS o hb⟩⟩
theorem SlotsAt.nil (W : World) (B : Nat) : SlotsAt W B (.slice none 0 0) [] [] := ⟨World.ownsRow_nil _ _ _ _, fun i r hr => by cases hr⟩
theorem SlotsAt.snoc {W W' : World} {B : Nat} {v v' u : Value} {vs : List Value} {L : List (Bool × List Nat)} {s : Bool × List Nat} {num : Int} (h : SlotsAt W B v vs L) (hu : W.ownsRow B 3 1 u s.2.length (ints s.2))
    (hg : W.grownBy W' v.ownBlock) (ho : W'.ownsRow B 31 3 v' (L.length + 1) (vs ++ [.int .i64 num, .bool s.1, u])) : SlotsAt W' B v' (vs ++ [.int .i64 num, .bool s.1, u]) (L ++ [s]) := by
  have hl : vs.length = L.length * 3 := by have := h.own.1; omega
  refine ⟨by rw [List.length_append]; exact ho, fun i r hr => ?_⟩
  rcases Nat.lt_or_ge i L.length with hi | hi
  · rw [List.getElem?_append_left hi] at hr
    obtain ⟨n1, u1, e1, e2, e3, o⟩ := h.row i r hr
    exact ⟨n1, u1, by rw [List.getElem?_append_left (by omega)]; exact e1, by rw [List.getElem?_append_left (by omega)]; exact e2, by rw [List.getElem?_append_left (by omega)]; exact e3, o.kept hg (own_other o h.own (by decide))⟩
  · rw [List.getElem?_append_right hi] at hr
    have h0 : i - L.length = 0 := by
      rcases Nat.eq_zero_or_pos (i - L.length) with h0 | h0
      · exact h0
      · rw [List.getElem?_eq_none (by simp; omega)] at hr; cases hr
    have hi2 : i = L.length := by omega
    rw [h0] at hr
    injection hr with hr
    subst hr
    subst hi2
    refine ⟨num, u, ?_, ?_, ?_, hu.kept hg (own_other hu h.own (by decide))⟩
    · rw [List.getElem?_append_right (by omega), hl, Nat.sub_self]; rfl
    · rw [List.getElem?_append_right (by omega), hl, Nat.add_sub_cancel_left]; rfl
    · rw [List.getElem?_append_right (by omega), hl, Nat.add_sub_cancel_left]; rfl
theorem own_formZ {w : World} {B e sz : Nat} {v : Value} {n : Nat} {xs : List Value} (h : w.ownsRow B e sz v n xs) : ∃ A c, v = .slice A n c := by
  rcases h.2 with ⟨rfl, rfl⟩ | ⟨g, cap, cur, rfl, _⟩
  · exact ⟨_, _, rfl⟩
  · exact ⟨_, _, rfl⟩
theorem own_headZ {w : World} {B e sz n : Nat} {v : Value} {xs : List Value} (h : w.ownsRow B e sz v n xs) (hn : 0 < n) : ∃ g cap, v = .slice (some ⟨g, 0, none⟩) n cap ∧ B ≤ g := by
  rcases h.2 with ⟨_, rfl⟩ | ⟨g, cap, cur, rfl, hb, _⟩
  · omega
  · exact ⟨g, cap, rfl, hb⟩
/-- what a slot's place in memory holds -/
theorem SlotsAt.at_ {W : World} {B : Nat} {g cap : Nat} {vs : List Value} {L : List (Bool × List Nat)} (h : SlotsAt W B (.slice (some ⟨g, 0, none⟩) L.length cap) vs L) {i : Nat} {s : Bool × List Nat} (hs : L[i]? = some s) :
    ∃ (num : Int) (A : Option Addr) (c : Nat), W.cell? ⟨g, i * 3, none⟩ = some (.int .i64 num) ∧ W.cell? ⟨g, i * 3 + 1, none⟩ = some (.bool s.1) ∧ W.cell? ⟨g, i * 3 + 2, none⟩ = some (.slice A s.2.length c) ∧ W.ownsRow B 3 1 (.slice A s.2.length c) s.2.length (ints s.2) := by
  obtain ⟨num, u, e1, e2, e3, o⟩ := h.row i s hs
  have hi : i < L.length := (List.getElem?_eq_some_iff.1 hs).1
  obtain ⟨A, c, rfl⟩ := own_formZ o
  exact ⟨num, A, c, (h.own.cellAt (i * 3) (by omega)).trans e1, (h.own.cellAt (i * 3 + 1) (by omega)).trans e2, (h.own.cellAt (i * 3 + 2) (by omega)).trans e3, o⟩
end Go.Proofs.Ytonibpilbkafnaa
