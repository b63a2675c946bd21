/- Package alpha: all ways: what a call of Each's closure leaves; at the text's end it hands over a copy of what was read. -/
import Derived.Test.YtlkabghpcjlohaaX9
namespace Go.Proofs.Ytlkabghpcjlohaa
set_option linter.unusedVariables false
set_option linter.unusedSimpArgs false
open Go.RowKit Go.Lib Go.Shelf
attribute [local go_sem] Oper.semAt_some

/-- what is handed over: the way of this number, in a block that is none of the iterator's -/
def PxW (L : List (List Nat)) (C0 : Nat) (i : Nat) (M : Nat → Prop) (v : Value) (W : World) : Prop :=
  ∃ (l : List Nat) (A : Option Addr) (c N : Nat), L[i]? = some l ∧ v = .slice A l.length c ∧ W.ownsRow N 3 1 v l.length (ints l) ∧ (∀ k, v.ownBlock = some k → ¬ M k ∧ C0 ≤ k) ∧ ∀ k, M k → k < W.heap.size
/-- what a call of the closure leaves: so many ways more were handed over, or it was stopped -/
def Fin (C : Nat) (J : Told) (Jx : World → Prop) (stop : Nat → Bool) (M : Nat → Prop) (i cnt : Nat) (dv : Value) (done : List Nat) (W : World) (b : Bool) (w' : World) : Prop :=
  (b = true ∧ (∀ q, q < cnt → stop (i + q) = false) ∧ J (i + cnt) M w' ∧ Kpx M dv.ownBlock W w' ∧ w'.ownsRow C 3 1 dv done.length (ints done)) ∨ (b = false ∧ Jx w')
/-- the closure's blocks are among the iterator's -/
structure EnvM (B bs yb ba bw bd g : Nat) (M : Nat → Prop) : Prop where
  low : ∀ k, k < B → M k
  s : M bs
  y : M yb
  a : M ba
  w : M bw
  d : M bd
  g : M g
theorem EnvM.more {B bs yb ba bw bd g : Nat} {M M' : Nat → Prop} (h : EnvM B bs yb ba bw bd g M) (hm : ∀ k, M k → M' k) : EnvM B bs yb ba bw bd g M' :=
  ⟨fun k hk => hm k (h.low k hk), hm _ h.s, hm _ h.y, hm _ h.a, hm _ h.w, hm _ h.d, hm _ h.g⟩
theorem kpx_below {B C : Nat} {M : Nat → Prop} {x : Option Nat} {W W' : World} (hm : ∀ k, k < B → M k) (hBC : B ≤ C) (hk : Kpx M x W W') (hx : ∀ k, x = some k → C ≤ k) (hC : C ≤ W.heap.size) : Below B W W' :=
  ⟨hk.os, hk.tape, hk.output, hk.size, fun k h => hk.block k (by omega) (hm k h) (fun e => by have := hx k e.symm; omega)⟩
theorem EnvE.kpx {B p : Nat} {xs : List (List UInt8)} {o : List Nat} {s : ByteArray} {lp bs yb ba bw bd C g : Nat} {M : Nat → Prop} {x : Option Nat} {W W' : World} (h : EnvE B p xs o s lp bs yb ba bw bd C g W) (hm : EnvM B bs yb ba bw bd g M) (hk : Kpx M x W W') (hx : ∀ k, x = some k → C ≤ k) (hC : C ≤ W.heap.size) :
    EnvE B p xs o s lp bs yb ba bw bd C g W' := by
  obtain ⟨l1, l2, l3, l4, l5, l6⟩ := h.lt
  have hb : ∀ k, k < C → M k → W'.heap[k]? = W.heap[k]? := fun k h1 h2 => hk.block k (by omega) h2 (fun e => by have := hx k e.symm; omega)
  exact ⟨(hb _ l1 hm.s).trans h.es, (hb _ l2 hm.y).trans h.ey, (hb _ l3 hm.a).trans h.ea, (hb _ l4 hm.w).trans h.ew, (hb _ l5 hm.d).trans h.ed, h.al.below (kpx_below hm.low h.hB hk hx hC), h.hB, fun k hk => (World.cell?_of_block (hb _ l6 hm.g)).trans (h.cells k hk), h.lt⟩
theorem yfin {C : Nat} {J : Told} {Jx : World → Prop} {stop : Nat → Bool} {M : Nat → Prop} {i : Nat} {dv : Value} {done : List Nat} {W w2 w3 : World} {e : Ending} (hd : W.ownsRow C 3 1 dv done.length (ints done)) (hdM : ∀ k, dv.ownBlock = some k → M k)
    (h2 : Below W.heap.size W w2) (h : yAns M J i (stop i) Jx w2 e w3) : ∃ b, e = .returned (.bool b) ∧ Fin C J Jx stop M i 1 dv done W b w3 := by
  rcases h with ⟨hs, rfl, hk, hj⟩ | ⟨hs, rfl, hj⟩
  · refine ⟨true, rfl, .inl ⟨rfl, fun q hq => ?_, hj, (Kpx.of_below h2).trans hk.kpx, own_block hd fun k hk' => ?_⟩⟩
    · obtain rfl : q = 0 := by omega
      exact hs
    · have hl := (hd.lt k hk').2
      exact (hk.block k (Nat.lt_of_lt_of_le hl h2.size) (hdM k hk')).trans (h2.block k hl)
  · exact ⟨false, rfl, .inr ⟨rfl, hj⟩⟩
theorem clone_any2 (dv : Value) (l : List Nat) (C : Nat) (W : World) (h : W.ownsRow C 3 1 dv l.length (ints l)) (hl : l.length ≤ 1048576) :
    Calls Try.prog 97 #[dv] W fun e W' => ∃ A c, e = .returned (.slice A l.length c) ∧ W'.ownsRow W.heap.size 3 1 (.slice A l.length c) l.length (ints l) ∧ Below W.heap.size W W' := by
  have h0 := h
  rcases h.2 with ⟨hv, h1⟩ | ⟨g, cap, cur, hv, _⟩
  · have hn : l = [] := List.length_eq_zero_iff.1 h1
    subst hn
    rw [hv]
    refine (Try.slices_Clone_int_nil 0 0 W).mono ?_
    rintro e W' ⟨rfl, rfl⟩
    exact ⟨none, 0, rfl, World.ownsRow_nil _ _ _ _, Below.refl _ _⟩
  · rw [hv] at h0 ⊢
    refine (Try.slices_Clone_int g 0 l.length cap (l.map fun (x : Nat) => (x : Int)) W (by simp) (by omega) (fun j hj => ?_)).mono ?_
    · rw [List.length_map] at hj
      rw [Nat.zero_add]
      refine (h0.cellAt j (by omega)).trans ?_
      unfold ints
      rw [List.getElem?_map, List.getElem?_eq_getElem hj, List.getD_eq_getElem?_getD, List.getElem?_map, List.getElem?_eq_getElem hj]
      rfl
    · rintro e W' ⟨v', rfl, hown, _, hb⟩
      obtain ⟨A, c, rfl⟩ := own_form hown
      refine ⟨A, c, rfl, ?_, hb⟩
      have e9 : ((l.map fun (x : Nat) => (x : Int)).take l.length).map (Value.int .i64) = ints l := by
        rw [List.take_of_length_le (by simp), List.map_map]; rfl
      rw [e9] at hown
      exact hown

set_option maxHeartbeats 16000000 in
set_option maxRecDepth 100000 in
theorem down_end2 {B p : Nat} {xs : List (List UInt8)} {o : List Nat} {s : ByteArray} {lp bs yb ba bw bd C g m C0 : Nat} {J : Told} {Jx : World → Prop} {stop : Nat → Bool} {L : List (List Nat)} (hJ : Stable C0 J) (hC0 : C0 ≤ C)
    (hY : ∀ i M v W, J i M W → PxW L C0 i M v W → YieldAt Fence.wide m Try.prog lp #[v] W (yAns M J i (stop i) Jx W))
    (dv : Value) (done : List Nat) (W : World) (M : Nat → Prop) (i : Nat) (hE : EnvE B p xs o s lp bs yb ba bw bd C g W) (hC : C ≤ W.heap.size) (jn : J i M W) (hd : W.ownsRow C 3 1 dv done.length (ints done)) (hdM : ∀ k, dv.ownBlock = some k → M k) (hM : ∀ k, M k → k < W.heap.size) (hl : done.length ≤ 1048576) (hLi : L[i]? = some done) :
    Calls Try.prog 96 (#[.int .i64 (s.size : Nat), dv] ++ caps bs yb ba bw bd) W fun e w' => ∃ b, e = .returned (.bool b) ∧ Fin C J Jx stop M i 1 dv done W b w' := by
  have c1 := Lib.cell_of_heap hE.es 0
  have c2 := Lib.cell_of_heap hE.ey 0
  obtain ⟨l1, l2, l3, l4, l5, l6⟩ := hE.lt
  have CC := Lib.hid (clone_any2 dv done C W.drew hd hl)
  have HYY : Hid (∀ A c w2, Below W.drew.heap.size W.drew w2 → w2.ownsRow W.drew.heap.size 3 1 (.slice A done.length c) done.length (ints done) → YieldAt Fence.wide 5 Try.prog lp #[.slice A done.length c] w2 (yAns M J i (stop i) Jx w2)) := Lib.hid (fun A c w2 hb2 ho2 => YieldAt.any (F := Fence.wide) rfl 5 (hY i M _ w2 (hJ.below jn ((Below.refl _ W).drew.trans hb2)) ⟨done, A, c, _, hLi, rfl, ho2, fun k hk => ⟨fun hm => by have h1 := (ho2.lt k hk).1; have h2 := hM k hm; have : W.drew.heap.size = W.heap.size := rfl; omega, by have h1 := (ho2.lt k hk).1; have : W.drew.heap.size = W.heap.size := rfl; omega⟩, fun k hk => Nat.lt_of_lt_of_le (hM k hk) hb2.size⟩))
  have HF : Hid (∀ w2 w3 e, Below W.drew.heap.size W.drew w2 → yAns M J i (stop i) Jx w2 e w3 → ∃ b, e = .returned (.bool b) ∧ Fin C J Jx stop M i 1 dv done W b w3) := Lib.hid (fun w2 w3 e hb2 h => yfin hd hdM ((Below.refl _ W).drew.trans hb2) h)
  clear hd jn hY hJ hdM hM hLi
  refine (callsIn_wide (n := 6)).1 ?_
  refine callsIn_of_wp Try.func96 rfl trivial ?_ rfl
  simp only [Try.ntmps96, List.size_toArray, List.length_cons, List.length_nil, Nat.reduceAdd, Nat.reduceSub, Array.replicate_succ, Array.replicate_zero, List.push_toArray, List.append_toArray, List.nil_append, List.cons_append]
  gi_wp2
  have c2d : W.drew.cell? ⟨yb, 0, none⟩ = _ := c2
  gi_region_with (first
    | (refine ⟨trivial, ?_⟩; gi_at_call 97; refine (callsIn_wide.2 CC.out).mono ?_; rintro e w2 ⟨A, c, rfl, ho2, hb2⟩; have c22 := (hb2.cell (p := ⟨yb, 0, none⟩) (by show yb < W.heap.size; omega)).trans c2d; have HF2 := Lib.hid (HF.out w2 · · hb2); obtain ⟨fn, tm, asg, bdy, hy, hR⟩ := HYY.out A c w2 hb2 ho2; clear hb2 ho2)
    | (refine hR.mono ?_; rintro e W3 hy9; obtain ⟨b9, rfl, hJ9⟩ := HF2.out _ _ hy9))
  all_goals gi_wp2
  all_goals go_ret
  all_goals exact ⟨_, rfl, hJ9⟩
end Go.Proofs.Ytlkabghpcjlohaa
