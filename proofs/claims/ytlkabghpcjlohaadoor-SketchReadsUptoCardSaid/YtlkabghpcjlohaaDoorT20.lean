/- The reference of layer 8: the drawn region in which a cell is filled: an invariant over its 21 operations. -/
import Derived.Test.YtlkabghpcjlohaaDoorT18
namespace Go.Proofs.YtlkabghpcjlohaaDoor
set_option linter.unusedVariables false
set_option linter.unusedSimpArgs false
open Go.RowKit Go.Lib

abbrev fFr (F : Nat → Value) (L : Nat → Bool) (V : Nat → Value) : Act := { tmps := #[F 0, F 1, F 2, F 3, F 4, F 5, F 6, F 7, F 8, F 9, F 10, F 11, F 12, F 13, F 14, F 15, F 16, F 17, F 18, F 19, F 20, F 21, F 22, F 23, F 24, F 25, F 26, F 27, F 28, F 29, F 30, F 31, F 32, F 33, F 34, F 35, F 36, F 37, F 38, F 39, F 40, F 41, F 42, F 43, F 44, F 45, F 46, F 47, F 48, F 49, F 50, F 51, F 52, F 53, F 54, F 55, F 56, F 57, F 58, F 59, F 60, F 61, F 62, F 63, F 64, F 65, F 66, F 67, F 68, F 69, F 70, F 71, F 72, F 73, F 74, F 75, F 76, F 77, F 78, F 79, F 80, F 81, F 82, F 83, F 84, F 85, F 86, F 87, F 88, F 89, F 90, F 91, F 92, F 93, F 94, F 95, F 96, F 97, F 98, F 99, F 100, F 101, F 102, F 103, F 104, F 105, F 106, F 107, F 108, F 109, F 110, F 111, F 112, cond (L 0) (V 0) (F 113), cond (L 1) (V 1) (F 114), cond (L 2) (V 2) (F 115), cond (L 3) (V 3) (F 116), cond (L 4) (V 4) (F 117), cond (L 5) (V 5) (F 118), cond (L 6) (V 6) (F 119), cond (L 7) (V 7) (F 120), cond (L 8) (V 8) (F 121), cond (L 9) (V 9) (F 122), cond (L 10) (V 10) (F 123), cond (L 11) (V 11) (F 124), cond (L 12) (V 12) (F 125), cond (L 13) (V 13) (F 126), cond (L 14) (V 14) (F 127), cond (L 15) (V 15) (F 128), cond (L 17) (V 17) (F 129), cond (L 19) (V 19) (F 130), F 131, F 132, F 133, F 134, F 135, F 136, F 137], defers := [] }
def ancF (k : Nat) : List Nat := match k with
  | 0 => []
  | 1 => [0]
  | 2 => []
  | 3 => []
  | 4 => [3]
  | 5 => []
  | 6 => []
  | 7 => [6]
  | 8 => []
  | 9 => []
  | 10 => [9]
  | 11 => []
  | 12 => [11]
  | 13 => []
  | 14 => [13]
  | 15 => [0, 1, 2]
  | 16 => [0, 1, 2, 9, 10, 15]
  | 17 => [3, 4, 5]
  | 18 => [0, 1, 2, 3, 4, 5, 9, 10, 11, 12, 15, 16, 17]
  | 19 => [6, 7, 8]
  | 20 => [0, 1, 2, 3, 4, 5, 6, 7, 8, 9, 10, 11, 12, 13, 14, 15, 16, 17, 18, 19]
  | _ => []
def fV (G a b d C i n : Nat) (x y z : Bool) (k : Nat) : Value := match k with
  | 0 => .pointer (some ⟨G, 2, none⟩)
  | 1 => .slice (some ⟨a, 0, none⟩) n n
  | 2 => .int .i64 (i : Nat)
  | 3 => .pointer (some ⟨G, 3, none⟩)
  | 4 => .slice (some ⟨b, 0, none⟩) n n
  | 5 => .int .i64 (i : Nat)
  | 6 => .pointer (some ⟨G, 4, none⟩)
  | 7 => .slice (some ⟨d, 0, none⟩) n n
  | 8 => .int .i64 (i : Nat)
  | 9 => .pointer (some ⟨C, 0, none⟩)
  | 10 => .bool x
  | 11 => .pointer (some ⟨C, 1, none⟩)
  | 12 => .bool y
  | 13 => .pointer (some ⟨C, 2, none⟩)
  | 14 => .bool z
  | 15 => .pointer (some ⟨a, i, none⟩)
  | 16 => undef
  | 17 => .pointer (some ⟨b, i, none⟩)
  | 18 => undef
  | 19 => .pointer (some ⟨d, i, none⟩)
  | 20 => undef
  | _ => undef
def fW (W : World) (a b d i : Nat) (x y z : Bool) (L : Nat → Bool) : World :=
  cond (L 20) (((W.setCell ⟨a, i, none⟩ (.bool x)).setCell ⟨b, i, none⟩ (.bool y)).setCell ⟨d, i, none⟩ (.bool z)) (cond (L 18) ((W.setCell ⟨a, i, none⟩ (.bool x)).setCell ⟨b, i, none⟩ (.bool y)) (cond (L 16) (W.setCell ⟨a, i, none⟩ (.bool x)) W))
def updF {α : Type} (f : Nat → α) (i : Nat) (v : α) : Nat → α := fun k => if k = i then v else f k
theorem ancF_upd {anc : Nat → List Nat} {L : Nat → Bool} {i : Nat} (G : ∀ k, L k = true → ∀ a ∈ anc k, L a = true) (hi : ∀ a ∈ anc i, L a = true) : ∀ k, updF L i true k = true → ∀ a ∈ anc k, updF L i true a = true := by
  intro k hk a ha
  unfold updF at hk ⊢
  split
  · rfl
  · by_cases h : k = i
    · subst h; exact hi a ha
    · rw [if_neg h] at hk; exact G k hk a ha
theorem bnd1 : (Region.Mode.any == Region.Mode.gc) = false := by decide
theorem bnd2 : (Region.Mode.any == Region.Mode.text) = false := by decide
theorem listedF {md : Region.Mode} {ops : Array Oper} {l : Array Bool} (hr : Region.ready md ops l = []) (k : Nat) (o : Oper) (ho : ops[k]? = some o) (hd : ∀ e ∈ o.after, Region.binds md e = true → l.getD e.on false = true) : l.getD k true = true := by
  cases h : l.getD k true with
  | true => rfl
  | false =>
    have h9 : k ∈ Region.ready md ops l := mem_ready.2 ⟨h, o, ho, hd⟩
    rw [hr] at h9
    cases h9
def FInv (W : World) (G a b d C i n : Nat) (x y z : Bool) (F : Nat → Value) (l : Array Bool) (ac : Act) (w : World) : Prop :=
  ∃ (L : Nat → Bool), l = #[L 0, L 1, L 2, L 3, L 4, L 5, L 6, L 7, L 8, L 9, L 10, L 11, L 12, L 13, L 14, L 15, L 16, L 17, L 18, L 19, L 20] ∧ ac = fFr F L (fV G a b d C i n x y z) ∧ w = fW W a b d i x y z L ∧ ∀ k, L k = true → ∀ j ∈ ancF k, L j = true
theorem FInv_start {W : World} {G a b d C i n : Nat} {x y z : Bool} {ac : Act} (h : ac = fFr (fun k => ac.tmps.getD k undef) (fun _ => false) (fV G a b d C i n x y z)) : FInv W G a b d C i n x y z (fun k => ac.tmps.getD k undef) #[false, false, false, false, false, false, false, false, false, false, false, false, false, false, false, false, false, false, false, false, false] ac W :=
  ⟨fun _ => false, rfl, h, rfl, fun k h => by cases h⟩
def FDone (W : World) (G a b d C i n : Nat) (x y z : Bool) (F : Nat → Value) (ac : Act) (w : World) : Prop :=
  ac = fFr F (fun _ => true) (fV G a b d C i n x y z) ∧ w = (((W.setCell ⟨a, i, none⟩ (.bool x)).setCell ⟨b, i, none⟩ (.bool y)).setCell ⟨d, i, none⟩ (.bool z))
theorem fW_cell (W : World) (a b d i : Nat) (x y z : Bool) (L : Nat → Bool) (p : Addr) (ha : p.block ≠ a) (hb : p.block ≠ b) (hd : p.block ≠ d) : (fW W a b d i x y z L).cell? p = W.cell? p := by
  have h1 : ∀ (W : World) (q : Nat) (u : Value), p.block ≠ q → (W.setCell ⟨q, i, none⟩ u).cell? p = W.cell? p := fun W q u h => World.cell?_of_block (Below.heap_setCell W _ _ _ h)
  unfold fW
  cases L 20 <;> cases L 18 <;> cases L 16 <;> simp only [cond_true, cond_false]
  all_goals (repeat rw [h1 _ d _ hd])
  all_goals (repeat rw [h1 _ b _ hb])
  all_goals (repeat rw [h1 _ a _ ha])
end Go.Proofs.YtlkabghpcjlohaaDoor
