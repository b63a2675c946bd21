/- Package alpha: all ways: the drawn region of Each's closure where its letter stands and its rest has a way: whatever its order, the closure is called with the rest; and what a call of it leaves. -/
import Derived.Test.YtlkabghpcjlohaaX4
import Derived.Test.YtlkabghpcjlohaaX8
namespace Go.Proofs.Ytlkabghpcjlohaa
set_option linter.unusedVariables false
set_option linter.unusedSimpArgs false
open Go.RowKit Go.Lib Go.Shelf

theorem wp_named {P : Program} {c : Code} {Q : Exit → Act → World → Prop} {a : Act} {w : World} (h : ∀ ac, ac = a → c.wp P Q ac w) : c.wp P Q a w := h a rfl
structure RA (s : ByteArray) (at' j nx N cn cv p bn on g C n : Nat) (z : ByteArray) (fnv dv : Value) (done : List Nat) (w5 : World) (PC : Option Addr → Nat → World → Prop) (Out : Bool → World → Prop) (L : Nat → Bool) (V : Nat → Value) (w : World) : Prop where
  G : ∀ k, L k = true → ∀ a ∈ ancR k, L a = true
  below : L 25 = false → Below C w5 w
  b5 : L 24 = false → Below w5.heap.size w5 w
  row : L 24 = false → w.ownsRow C 3 1 dv n (ints done)
  f0 : L 0 = true → V 0 = .string s
  f1 : L 1 = true → V 1 = .int .i64 (at' : Nat)
  f2 : L 2 = true → V 2 = .string (s.extract at' s.size)
  f3 : L 3 = true → V 3 = .pointer (some ⟨p, 0, none⟩)
  f4 : L 4 = true → V 4 = .pointer (some ⟨p, 0, none⟩)
  f5 : L 5 = true → V 5 = .pointer (some ⟨p, 0, none⟩)
  f6 : L 6 = true → V 6 = .slice (some ⟨bn, on, none⟩) N cn
  f7 : L 7 = true → V 7 = .int .i64 (j : Nat)
  f8 : L 8 = true → V 8 = .pointer (some ⟨bn, on + j, none⟩)
  f9 : L 9 = true → V 9 = .string z
  f10 : L 10 = true → V 10 = .bool true
  f11 : L 11 = true → V 11 = .bool true
  f12 : L 12 = true → V 12 = .slice (some ⟨g, 0, none⟩) (s.size + 1) (s.size + 1)
  f13 : L 13 = true → V 13 = .int .i64 (nx : Nat)
  f14 : L 14 = true → V 14 = .pointer (some ⟨g, nx, none⟩)
  f15 : L 15 = true → V 15 = .int .i64 (cv : Nat)
  f16 : L 16 = true → V 16 = .bool true
  f17 : L 17 = true → V 17 = .bool true
  f18 : L 18 = true → V 18 = .bool true
  f19 : L 19 = true → V 19 = fnv
  f20 : L 20 = true → V 20 = .int .i64 (nx : Nat)
  f21 : L 21 = true → V 21 = dv
  f22 : L 22 = true → V 22 = .int .i64 (j : Nat)
  f23 : L 23 = true → L 24 = false → ∃ q, V 23 = .slice (some ⟨q, 0, none⟩) 1 1 ∧ w.heap[q]? = some (.cells #[.int .i64 (j : Nat)] 3 (0, 0))
  f24 : L 24 = true → L 25 = false → ∃ A c, V 24 = .slice A (n + 1) c ∧ PC A c w
  f25 : L 25 = true → ∃ b, V 25 = .bool b ∧ Out b w
  f26 : L 26 = true → ∃ b, V 25 = .bool b ∧ V 26 = .bool (!b)
  f27 : L 27 = true → ∃ b, V 25 = .bool b ∧ V 27 = .bool (!b)
def RAInv (s : ByteArray) (at' j nx N cn cv p bn on g C n : Nat) (z : ByteArray) (fnv dv : Value) (done : List Nat) (w5 : World) (PC : Option Addr → Nat → World → Prop) (Out : Bool → World → Prop) (F : Nat → Value) (l : Array Bool) (a : Act) (w : World) : Prop :=
  ∃ (L : Nat → Bool) (V : Nat → Value), l = #[L 0, L 1, L 2, L 3, L 4, L 5, L 6, L 7, L 8, L 9, L 10, L 11, L 12, L 13, L 14, L 15, L 16, L 17, L 18, L 19, L 20, L 21, L 22, L 23, L 24, L 25, L 26, L 27] ∧ a = rFr F L V ∧ RA s at' j nx N cn cv p bn on g C n z fnv dv done w5 PC Out L V w
def RADone (Out : Bool → World → Prop) (F : Nat → Value) (a : Act) (w : World) : Prop := ∃ (V : Nat → Value) (b : Bool), a = rFr F (fun _ => true) V ∧ V 27 = .bool (!b) ∧ Out b w
theorem RAInv_start {s : ByteArray} {at' j nx N cn cv p bn on g C n : Nat} {z : ByteArray} {fnv dv : Value} {done : List Nat} {w5 w : World} {PC : Option Addr → Nat → World → Prop} {Out : Bool → World → Prop} {a : Act} (h : a = rFr (fun k => a.tmps.getD k undef) (fun _ => false) (fun _ => undef))
    (hb : Below C w5 w) (h5 : Below w5.heap.size w5 w) (hd : w.ownsRow C 3 1 dv n (ints done)) : RAInv s at' j nx N cn cv p bn on g C n z fnv dv done w5 PC Out (fun k => a.tmps.getD k undef) #[false, false, false, false, false, false, false, false, false, false, false, false, false, false, false, false, false, false, false, false, false, false, false, false, false, false, false, false] a w :=
  ⟨fun _ => false, fun _ => undef, rfl, h, ⟨(fun k h => by cases h), fun _ => hb, fun _ => h5, fun _ => hd, (fun h => by cases h), (fun h => by cases h), (fun h => by cases h), (fun h => by cases h), (fun h => by cases h), (fun h => by cases h), (fun h => by cases h), (fun h => by cases h), (fun h => by cases h), (fun h => by cases h), (fun h => by cases h), (fun h => by cases h), (fun h => by cases h), (fun h => by cases h), (fun h => by cases h), (fun h => by cases h), (fun h => by cases h), (fun h => by cases h), (fun h => by cases h), (fun h => by cases h), (fun h => by cases h), (fun h => by cases h), (fun h => by cases h), (fun h => by cases h), (fun h => by cases h), (fun h => by cases h), (fun h => by cases h), (fun h => by cases h)⟩⟩

end Go.Proofs.Ytlkabghpcjlohaa
