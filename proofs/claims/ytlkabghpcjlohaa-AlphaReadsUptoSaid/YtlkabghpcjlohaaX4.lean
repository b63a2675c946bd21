/- Package alpha: the drawn region of Each's closure where its letter stands and its rest has a way: whatever its order, the closure is called with the rest. -/
import Derived.Test.YtlkabghpcjlohaaX2
import Derived.Test.YtlkabghpcjlohaaY1
import Derived.Deep.AppendLies
import Derived.WalkMore
namespace Go.Proofs.Ytlkabghpcjlohaa
set_option linter.unusedVariables false
set_option linter.unusedSimpArgs false
open Go.RowKit Go.Lib Go.Shelf

abbrev rFr (F : Nat → Value) (L : Nat → Bool) (V : Nat → Value) : Act := { tmps := #[F 0, F 1, F 2, F 3, F 4, F 5, F 6, F 7, F 8, F 9, F 10, F 11, F 12, F 13, F 14, F 15, F 16, F 17, F 18, F 19, F 20, F 21, F 22, F 23, F 24, F 25, F 26, F 27, F 28, F 29, F 30, F 31, F 32, F 33, F 34, F 35, F 36, F 37, cond (L 0) (V 0) (F 38), cond (L 1) (V 1) (F 39), cond (L 2) (V 2) (F 40), cond (L 3) (V 3) (F 41), cond (L 4) (V 4) (F 42), cond (L 5) (V 5) (F 43), cond (L 6) (V 6) (F 44), cond (L 7) (V 7) (F 45), cond (L 8) (V 8) (F 46), cond (L 9) (V 9) (F 47), cond (L 10) (V 10) (F 48), cond (L 11) (V 11) (F 49), cond (L 12) (V 12) (F 50), cond (L 13) (V 13) (F 51), cond (L 14) (V 14) (F 52), cond (L 15) (V 15) (F 53), cond (L 16) (V 16) (F 54), cond (L 17) (V 17) (F 55), cond (L 18) (V 18) (F 56), cond (L 19) (V 19) (F 57), cond (L 20) (V 20) (F 58), cond (L 21) (V 21) (F 59), cond (L 22) (V 22) (F 60), cond (L 23) (V 23) (F 61), cond (L 24) (V 24) (F 62), cond (L 25) (V 25) (F 63), cond (L 26) (V 26) (F 64), cond (L 27) (V 27) (F 65), F 66], defers := [] }
def ancR (k : Nat) : List Nat := match k with
  | 0 => []
  | 1 => []
  | 2 => [0, 1]
  | 3 => []
  | 4 => [3]
  | 5 => [3, 4]
  | 6 => [3, 4, 5]
  | 7 => []
  | 8 => [3, 4, 5, 6, 7]
  | 9 => [3, 4, 5, 6, 7, 8]
  | 10 => [0, 1, 2, 3, 4, 5, 6, 7, 8, 9]
  | 11 => [0, 1, 2, 3, 4, 5, 6, 7, 8, 9, 10]
  | 12 => [0, 1, 2, 3, 4, 5, 6, 7, 8, 9, 10, 11]
  | 13 => [0, 1, 2, 3, 4, 5, 6, 7, 8, 9, 10, 11]
  | 14 => [0, 1, 2, 3, 4, 5, 6, 7, 8, 9, 10, 11, 12, 13]
  | 15 => [0, 1, 2, 3, 4, 5, 6, 7, 8, 9, 10, 11, 12, 13, 14]
  | 16 => [0, 1, 2, 3, 4, 5, 6, 7, 8, 9, 10, 11, 12, 13, 14, 15]
  | 17 => [0, 1, 2, 3, 4, 5, 6, 7, 8, 9, 10, 11, 12, 13, 14, 15, 16]
  | 18 => [0, 1, 2, 3, 4, 5, 6, 7, 8, 9, 10, 11, 12, 13, 14, 15, 16, 17]
  | 19 => [0, 1, 2, 3, 4, 5, 6, 7, 8, 9, 10, 11, 12, 13, 14, 15, 16, 17, 18]
  | 20 => [0, 1, 2, 3, 4, 5, 6, 7, 8, 9, 10, 11, 12, 13, 14, 15, 16, 17, 18]
  | 21 => [0, 1, 2, 3, 4, 5, 6, 7, 8, 9, 10, 11, 12, 13, 14, 15, 16, 17, 18]
  | 22 => [0, 1, 2, 3, 4, 5, 6, 7, 8, 9, 10, 11, 12, 13, 14, 15, 16, 17, 18]
  | 23 => [0, 1, 2, 3, 4, 5, 6, 7, 8, 9, 10, 11, 12, 13, 14, 15, 16, 17, 18, 22]
  | 24 => [0, 1, 2, 3, 4, 5, 6, 7, 8, 9, 10, 11, 12, 13, 14, 15, 16, 17, 18, 21, 22, 23]
  | 25 => [0, 1, 2, 3, 4, 5, 6, 7, 8, 9, 10, 11, 12, 13, 14, 15, 16, 17, 18, 19, 20, 21, 22, 23, 24]
  | 26 => [0, 1, 2, 3, 4, 5, 6, 7, 8, 9, 10, 11, 12, 13, 14, 15, 16, 17, 18, 19, 20, 21, 22, 23, 24, 25]
  | 27 => [0, 1, 2, 3, 4, 5, 6, 7, 8, 9, 10, 11, 12, 13, 14, 15, 16, 17, 18, 19, 20, 21, 22, 23, 24, 25, 26]
  | _ => []

/-- what the frame holds ahead of the region -/
structure FF (at' j nx : Nat) (dv : Value) (bs ba bw bd : Nat) (F : Nat → Value) : Prop where
  a0 : F 0 = .int .i64 (at' : Nat)
  a1 : F 1 = dv
  a2 : F 2 = .pointer (some ⟨bs, 0, none⟩)
  a4 : F 4 = .pointer (some ⟨ba, 0, none⟩)
  a5 : F 5 = .pointer (some ⟨bw, 0, none⟩)
  a6 : F 6 = .pointer (some ⟨bd, 0, none⟩)
  a11 : F 11 = .int .i64 (j : Nat)
  a12 : F 12 = .int .i64 (nx : Nat)
structure RV (s : ByteArray) (at' j nx N cn cv p bn on g C n : Nat) (z : ByteArray) (fnv dv : Value) (done : List Nat) (w5 : World) (Jx : World → Prop) (L : Nat → Bool) (V : Nat → Value) (w : World) : Prop where
  G : ∀ k, L k = true → ∀ a ∈ ancR k, L a = true
  below : L 25 = false → Below C w5 w
  row : L 24 = false → w.ownsRow C 3 1 dv n (ints done)
  f0 : L 0 = true → V 0 = .string s
  f1 : L 1 = true → V 1 = .int .i64 (at' : Nat)
  f2 : L 2 = true → V 2 = .string (s.extract at' s.size)
  f3 : L 3 = true → V 3 = .pointer (some ⟨p, 0, none⟩)
  f4 : L 4 = true → V 4 = .pointer (some ⟨p, 0, none⟩)
  f5 : L 5 = true → V 5 = .pointer (some ⟨p, 0, none⟩)
  f6 : L 6 = true → V 6 = .slice (some ⟨bn, on, none⟩) N cn
  f7 : L 7 = true → V 7 = .int .i64 (j : Nat)
  f8 : L 8 = true → V 8 = .pointer (some ⟨bn, on + j, none⟩)
  f9 : L 9 = true → V 9 = .string z
  f10 : L 10 = true → V 10 = .bool true
  f11 : L 11 = true → V 11 = .bool true
  f12 : L 12 = true → V 12 = .slice (some ⟨g, 0, none⟩) (s.size + 1) (s.size + 1)
  f13 : L 13 = true → V 13 = .int .i64 (nx : Nat)
  f14 : L 14 = true → V 14 = .pointer (some ⟨g, nx, none⟩)
  f15 : L 15 = true → V 15 = .int .i64 (cv : Nat)
  f16 : L 16 = true → V 16 = .bool true
  f17 : L 17 = true → V 17 = .bool true
  f18 : L 18 = true → V 18 = .bool true
  f19 : L 19 = true → V 19 = fnv
  f20 : L 20 = true → V 20 = .int .i64 (nx : Nat)
  f21 : L 21 = true → V 21 = dv
  f22 : L 22 = true → V 22 = .int .i64 (j : Nat)
  f23 : L 23 = true → L 24 = false → ∃ q, V 23 = .slice (some ⟨q, 0, none⟩) 1 1 ∧ w.heap[q]? = some (.cells #[.int .i64 (j : Nat)] 3 (0, 0))
  f24 : L 24 = true → L 25 = false → ∃ A c, V 24 = .slice A (n + 1) c ∧ w.ownsRow C 3 1 (.slice A (n + 1) c) (n + 1) (ints (done ++ [j]))
  f25 : L 25 = true → V 25 = .bool false ∧ Jx w
  f26 : L 26 = true → V 26 = .bool true
  f27 : L 27 = true → V 27 = .bool true
def RInv (s : ByteArray) (at' j nx N cn cv p bn on g C n : Nat) (z : ByteArray) (fnv dv : Value) (done : List Nat) (w5 : World) (Jx : World → Prop) (bs ba bw bd : Nat) (l : Array Bool) (a : Act) (w : World) : Prop :=
  ∃ (F : Nat → Value) (L : Nat → Bool) (V : Nat → Value), l = #[L 0, L 1, L 2, L 3, L 4, L 5, L 6, L 7, L 8, L 9, L 10, L 11, L 12, L 13, L 14, L 15, L 16, L 17, L 18, L 19, L 20, L 21, L 22, L 23, L 24, L 25, L 26, L 27] ∧ a = rFr F L V ∧ FF at' j nx dv bs ba bw bd F ∧ RV s at' j nx N cn cv p bn on g C n z fnv dv done w5 Jx L V w
def RDone (Jx : World → Prop) (a : Act) (w : World) : Prop := ∃ (F V : Nat → Value), a = rFr F (fun _ => true) V ∧ V 27 = .bool true ∧ Jx w
theorem RInv_start {s : ByteArray} {at' j nx N cn cv p bn on g C n : Nat} {z : ByteArray} {fnv dv : Value} {done : List Nat} {w5 w : World} {Jx : World → Prop} {bs ba bw bd : Nat} {a : Act} (h : a = rFr (fun k => a.tmps.getD k undef) (fun _ => false) (fun _ => undef)) (hF : FF at' j nx dv bs ba bw bd (fun k => a.tmps.getD k undef))
    (hb : Below C w5 w) (hd : w.ownsRow C 3 1 dv n (ints done)) : RInv s at' j nx N cn cv p bn on g C n z fnv dv done w5 Jx bs ba bw bd #[false, false, false, false, false, false, false, false, false, false, false, false, false, false, false, false, false, false, false, false, false, false, false, false, false, false, false, false] a w :=
  ⟨_, fun _ => false, fun _ => undef, rfl, h, hF, ⟨(fun k h => by cases h), fun _ => hb, fun _ => hd, (fun h => by cases h), (fun h => by cases h), (fun h => by cases h), (fun h => by cases h), (fun h => by cases h), (fun h => by cases h), (fun h => by cases h), (fun h => by cases h), (fun h => by cases h), (fun h => by cases h), (fun h => by cases h), (fun h => by cases h), (fun h => by cases h), (fun h => by cases h), (fun h => by cases h), (fun h => by cases h), (fun h => by cases h), (fun h => by cases h), (fun h => by cases h), (fun h => by cases h), (fun h => by cases h), (fun h => by cases h), (fun h => by cases h), (fun h => by cases h), (fun h => by cases h), (fun h => by cases h), (fun h => by cases h), (fun h => by cases h)⟩⟩

end Go.Proofs.Ytlkabghpcjlohaa
