/- Package alpha: Each, to its first way: the recursive closure reaches its first yield with Split's own letters. -/
import Derived.Test.YtlkabghpcjlohaaK1
import Derived.Test.YtlkabghpcjlohaaP8
import Derived.Test.YtlkabghpcjlohaaX1
import Derived.Shelf.Abstract
import Derived.Shelf.RegionOpen
import Derived.OwnWalkIn
import Derived.TacticsInMore
import Derived.LoopNIn
import Derived.LoopIn
import Derived.Stop.RegionWithIn
import Derived.Deep.RegionHeld3
import Derived.WalkMore
namespace Go.Proofs.Ytlkabghpcjlohaa
set_option linter.unusedVariables false
set_option linter.unusedSimpArgs false
open Go.RowKit Go.Lib Go.Shelf
attribute [local go_sem] Oper.semAt_some

theorem room_none {F : Fence} (hd : F.depth = none) (k : Nat) : F.room k := fun d h => by rw [hd] at h; cases h
theorem YieldAt.any {F : Fence} (hd : F.depth = none) {m : Nat} (m' : Nat) {P : Program} {l : Nat} {args : Array Value} {W : World} {R : Ending → World → Prop} (h : YieldAt F m P l args W R) : YieldAt F m' P l args W R := by
  obtain ⟨fn, tmps, assign, body, hy, hR⟩ := h
  exact ⟨fn, tmps, assign, body, hy, hR.1, fun c cs _ => hR.2 c cs (room_none hd _)⟩

theorem clone_any (dv : Value) (l : List Nat) (C : Nat) (W : World) (h : W.ownsRow C 3 1 dv l.length (ints l)) (hl : l.length ≤ 100000) :
    Calls Try.prog 97 #[dv] W fun e W' => ∃ A c, e = .returned (.slice A l.length c) ∧ W'.ownsRow W.heap.size 3 1 (.slice A l.length c) l.length (ints l) ∧ Below W.heap.size W W' := by
  have h0 := h
  rcases h.2 with ⟨hv, h1⟩ | ⟨g, cap, cur, hv, _⟩
  · have hn : l = [] := List.length_eq_zero_iff.1 h1
    subst hn
    rw [hv]
    refine (Try.slices_Clone_int_nil 0 0 W).mono ?_
    rintro e W' ⟨rfl, rfl⟩
    exact ⟨none, 0, rfl, World.ownsRow_nil _ _ _ _, Below.refl _ _⟩
  · rw [hv] at h0 ⊢
    refine (Try.slices_Clone_int g 0 l.length cap (l.map fun (x : Nat) => (x : Int)) W (by simp) (by omega) (fun j hj => ?_)).mono ?_
    · rw [List.length_map] at hj
      rw [Nat.zero_add]
      refine (h0.cellAt j (by omega)).trans ?_
      unfold ints
      rw [List.getElem?_map, List.getElem?_eq_getElem hj, List.getD_eq_getElem?_getD, List.getElem?_map, List.getElem?_eq_getElem hj]
      rfl
    · rintro e W' ⟨v', rfl, hown, _, hb⟩
      obtain ⟨A, c, rfl⟩ := own_form hown
      refine ⟨A, c, rfl, ?_, hb⟩
      have e9 : ((l.map fun (x : Nat) => (x : Int)).take l.length).map (Value.int .i64) = ints l := by
        rw [List.take_of_length_le (by simp), List.map_map]; rfl
      rw [e9] at hown
      exact hown

/-- what the closure finds in memory: its boxes, the counts, the alphabet; all of it lies below C -/
structure EnvE (B p : Nat) (xs : List (List UInt8)) (o : List Nat) (s : ByteArray) (lp bs yb ba bw bd C g : Nat) (W : World) : Prop where
  es : W.heap[bs]? = some (.cells #[.string s] 9 (0, 0))
  ey : W.heap[yb]? = some (.cells #[.func (.yield lp) #[] #[]] 74 (0, 0))
  ea : W.heap[ba]? = some (.cells #[.pointer (some ⟨p, 0, none⟩)] 48 (0, 0))
  ew : W.heap[bw]? = some (.cells #[.slice (some ⟨g, 0, none⟩) (s.size + 1) (s.size + 1)] 35 (0, 0))
  ed : W.heap[bd]? = some (.cells #[.func (.func 96) #[] #[.pointer (some ⟨bs, 0, none⟩), .pointer (some ⟨yb, 0, none⟩), .pointer (some ⟨ba, 0, none⟩), .pointer (some ⟨bw, 0, none⟩), .pointer (some ⟨bd, 0, none⟩)]] 110 (0, 0))
  al : AlphAt B p xs o W
  hB : B ≤ C
  cells : ∀ k, k ≤ s.size → W.cell? ⟨g, k, none⟩ = some (.int .i64 (cntL xs ((bl s).drop k) : Nat))
  lt : bs < C ∧ yb < C ∧ ba < C ∧ bw < C ∧ bd < C ∧ g < C
theorem EnvE.below {B p : Nat} {xs : List (List UInt8)} {o : List Nat} {s : ByteArray} {lp bs yb ba bw bd C g : Nat} {W W' : World} (h : EnvE B p xs o s lp bs yb ba bw bd C g W) (hb : Below C W W') : EnvE B p xs o s lp bs yb ba bw bd C g W' := by
  obtain ⟨l1, l2, l3, l4, l5, l6⟩ := h.lt
  exact ⟨(hb.block _ l1).trans h.es, (hb.block _ l2).trans h.ey, (hb.block _ l3).trans h.ea, (hb.block _ l4).trans h.ew, (hb.block _ l5).trans h.ed, h.al.below (hb.mono h.hB), h.hB, fun k hk => (hb.cell (p := ⟨g, k, none⟩) l6).trans (h.cells k hk), h.lt⟩
abbrev caps (bs yb ba bw bd : Nat) : Array Value := #[.pointer (some ⟨bs, 0, none⟩), .pointer (some ⟨yb, 0, none⟩), .pointer (some ⟨ba, 0, none⟩), .pointer (some ⟨bw, 0, none⟩), .pointer (some ⟨bd, 0, none⟩)]

set_option maxHeartbeats 16000000 in
set_option maxRecDepth 100000 in
theorem down_end {B p : Nat} {xs : List (List UInt8)} {o : List Nat} {s : ByteArray} {lp bs yb ba bw bd C g m : Nat} {Wc : World} (hC : C = Wc.heap.size) (Jx : World → Prop) (l : List Nat) (hE : EnvE B p xs o s lp bs yb ba bw bd C g Wc)
    (hY : ∀ A c N W, Below C Wc W → C ≤ N → W.ownsRow N 3 1 (.slice A l.length c) l.length (ints l) → YieldAt Fence.wide m Try.prog lp #[.slice A l.length c] W fun e W' => e = .returned (.bool false) ∧ Jx W')
    (dv : Value) (W : World) (hW : Below C Wc W) (hd : W.ownsRow C 3 1 dv l.length (ints l)) (hl : l.length ≤ 100000) :
    Calls Try.prog 96 (#[.int .i64 (s.size : Nat), dv] ++ caps bs yb ba bw bd) W fun e W' => e = .returned (.bool false) ∧ Jx W' := by
  have hEW := hE.below hW
  have c1 := Lib.cell_of_heap hEW.es 0
  have c2 := Lib.cell_of_heap hEW.ey 0
  obtain ⟨l1, l2, l3, l4, l5, l6⟩ := hE.lt
  have hsz := hW.size
  have CC := Lib.hid (clone_any dv l C W.drew hd hl)
  refine (callsIn_wide (n := 6)).1 ?_
  refine callsIn_of_wp Try.func96 rfl trivial ?_ rfl
  simp only [Try.ntmps96, List.size_toArray, List.length_cons, List.length_nil, Nat.reduceAdd, Nat.reduceSub, Array.replicate_succ, Array.replicate_zero, List.push_toArray, List.append_toArray, List.nil_append, List.cons_append]
  gi_wp2
  have HY := Lib.hid hY
  have c2d : W.drew.cell? ⟨yb, 0, none⟩ = _ := c2
  gi_region_with (first
    | (refine ⟨trivial, ?_⟩; gi_at_call 97; refine (callsIn_wide.2 CC.out).mono ?_; rintro e w2 ⟨A, c, rfl, ho2, hb2⟩; have hb3 : Below C Wc w2 := hW.trans (((Below.refl _ W).drew.trans hb2).mono (by show C ≤ W.heap.size; omega)); have c22 := (hb2.cell (p := ⟨yb, 0, none⟩) (by show yb < W.heap.size; omega)).trans c2d; obtain ⟨fn, tm, asg, bdy, hy, hR⟩ := YieldAt.any (F := Fence.wide) rfl 5 (HY.out A c _ w2 hb3 (by show C ≤ W.heap.size; omega) ho2))
    | (refine hR.mono ?_; rintro e W3 ⟨rfl, hJ⟩))
  all_goals gi_wp2
  all_goals go_ret
  all_goals exact ⟨rfl, hJ⟩
end Go.Proofs.Ytlkabghpcjlohaa
