/- An alphabet outlives stores into blocks that are none of its own; 'lent'. -/
import Derived.Test.YtlkabghpcjlohaaJ1
import Derived.Lib.JoinLaws
namespace Go.Proofs.Ytlkabghpcjlohaa
set_option linter.unusedVariables false
set_option linter.unusedSimpArgs false
open Go.RowKit Go.Lib

theorem cell_heap {w w' : World} {x : Addr} (h : w'.heap[x.block]? = w.heap[x.block]?) : w'.cell? x = w.cell? x := by simp [World.cell?, h]
theorem Sl.apart {lo B : Nat} {w w' : World} {A : Option Addr} {n c : Nat} {xs : List Value} (h : Sl w B (.slice A n c) xs) (hA : ∀ a, A = some a → lo ≤ a.block) (hb : ∀ b, lo ≤ b → b < B → w'.heap[b]? = w.heap[b]?) : Sl w' B (.slice A n c) xs := by
  obtain ⟨A', c', hv, hc, h⟩ := h
  injection hv with e1 e2 e3
  subst e1; subst e2; subst e3
  refine ⟨A, c, rfl, hc, fun hn => ?_⟩
  obtain ⟨ad, e, hB, hcell⟩ := h hn
  exact ⟨ad, e, hB, fun j u hu => (cell_heap (by rw [block_add]; exact hb _ (hA _ e) hB)).trans (hcell j u hu)⟩
theorem AlphAt.apart {lo B p : Nat} {xs : List (List UInt8)} {o : List Nat} {w w' : World} (h : AlphAt B p xs o w) (hl : AlphLo lo p w) (hs : w.heap.size ≤ w'.heap.size) (hb : ∀ b, lo ≤ b → b < B → w'.heap[b]? = w.heap[b]?) : AlphAt B p xs o w' := by
  obtain ⟨hp, hB, ⟨A, c, h1, h2⟩, ⟨A', c', h3, h4⟩, ⟨M, hM, h5, h6⟩⟩ := h
  have hc : ∀ i, w'.cell? ⟨p, i, none⟩ = w.cell? ⟨p, i, none⟩ := fun i => cell_heap (hb p hl.p0 hp)
  refine ⟨hp, Nat.le_trans hB hs, ⟨A, c, (hc 0).trans h1, h2.apart (fun a e => hl.n0 a _ c (by rw [h1, e])) hb⟩, ⟨A', c', (hc 1).trans h3, h4.apart (fun a e => hl.n1 a _ c' (by rw [h3, e])) hb⟩, ⟨M, hM, (hc 2).trans h5, ?_⟩⟩
  obtain ⟨es, clock, hbk, r⟩ := h6
  exact ⟨es, clock, (hb M (hl.m M h5) hM).trans hbk, r⟩

abbrev spare : Value := .string ⟨#[115, 112, 97, 114, 101]⟩
theorem oneStrs (xs : List (List UInt8)) : ∀ u ∈ strs xs, u.oneCell' = true := by
  intro u hu
  obtain ⟨_, _, rfl⟩ := List.mem_map.1 hu
  rfl
set_option maxHeartbeats 4000000 in
set_option maxRecDepth 100000 in
theorem lent_any (v : Value) (xs : List (List UInt8)) (B : Nat) (w : World) (hv : Sl w B v (strs xs)) (hB : B ≤ w.heap.size) (hn : xs.length ≤ 1048576) :
    Calls Try.prog 46 #[v] w fun e w' => ∃ n : Nat, n = xs.length ∧ e = .returned (.slice (some ⟨w.heap.size, 0, none⟩) n (n + 1)) ∧ Below w.heap.size w w' ∧ w'.ownsRow w.heap.size 9 1 (.slice (some ⟨w.heap.size, 0, none⟩) (n + 1) (n + 1)) (n + 1) (strs xs ++ [spare]) := by
  obtain ⟨i0, hi, hz0, hz1, hz2⟩ := info_parts infoStr
  have hv0 := hv
  obtain ⟨A, c, rfl, hc, hA⟩ := hv
  have hlen : (strs xs).length = xs.length := List.length_map _
  rw [hlen] at hv0 hc hA ⊢
  have h1 := oneStrs xs
  have HR := Lib.hid h1; clear h1
  generalize strs xs = ys at *
  generalize hN : xs.length = n at *
  have hb0 := Below.refl w.heap.size w
  have hsb : Hid (Below w.heap.size w w) := Lib.hid hb0
  cases A with
  | none =>
    obtain rfl : n = 0 := by
      rcases Nat.eq_zero_or_pos n with h | h
      · exact h
      · obtain ⟨ad, e, _⟩ := hA h
        cases e
    obtain rfl : ys = [] := List.length_eq_zero_iff.1 hlen
    clear hA hv0
    go_enter Try.func46, Try.ntmps46
    go_wp2_with (first
      | (at_make; refine wpList_make_own _ rfl _ _ 25 rfl w.heap.size 9 i0 (.string ⟨#[]⟩) 1 Try.underlying25 hi hz0 hz1 _ _ _ 1 rfl rfl (by first | rfl | omega) (by omega) (by unfold maxLen; omega) (Nat.le_refl _) ?_; intro w1 hown1 hg1; have hb1 := Lib.hid (hsb.out.grown hg1 (Nat.le_refl _) (fun j hj => by cases hj)))
      | (at_builtin; refine wpList_append_room_src _ rfl (.tmp 8) (.tmp 9) 25 25 rfl 9 i0 Try.underlying25 hi w.heap.size 0 0 1 rfl _ rfl 0 [] (Src.ofNil _ Try.underlying25 _) (by omega) (fun j hj => by cases hj) (fun j hj => by cases hj) ?_; rw [show w1.setCells w.heap.size (0 + 0 * i0.size) [] = w1 from rfl])
      | (at_builtin; refine wpList_append_fits _ rfl (.tmp 11) (.tmp 12) 25 rfl w.heap.size 9 i0 1 Try.underlying25 hi hz1 w.heap.size 0 1 [] rfl (hown1.alloc _) ⟨w1.heap.size, 0, none⟩ 1 1 [spare] rfl rfl (cell_one_new _ _ _) (by simp [Value.oneCell']) (by omega) ?_; intro w3 hown3 hg3; have hb3 := Lib.hid ((hb1.out.alloc hb1.out.size _).grown hg3 (by have := hb1.out.size; simp; omega) (fun j hj => by injection hj with hj; omega))))
    go_ret
    exact ⟨0, rfl, rfl, hb3.out, hown3⟩
  | some ad =>
    have hcell : ∀ j u, ys[j]? = some u → w.cell? (ad.add j) = some u := by
      intro j u hu
      have hj := (List.getElem?_eq_some_iff.1 hu).1
      obtain ⟨ad', e, _, h⟩ := hA (by omega)
      injection e with e
      subst e
      exact h j u hu
    have hadB : 0 < n → ad.block < w.heap.size := fun h => by
      obtain ⟨ad', e, h', _⟩ := hA h
      injection e with e
      subst e
      omega
    have HC := Lib.hid hcell; have HAB := Lib.hid hadB
    clear hA hv0 hcell hadB
    go_enter Try.func46, Try.ntmps46
    go_wp2_with (first
      | (at_make; go_loud (refine wpList_make_own _ rfl _ _ 25 rfl w.heap.size 9 i0 (.string ⟨#[]⟩) 1 Try.underlying25 hi hz0 hz1 _ _ _ (n + 1) rfl rfl (by first | rfl | omega) (by rw [hz2]; omega) (by unfold maxLen; omega) (Nat.le_refl _) ?_); intro w1 hown1 hg1; have hb1 := Lib.hid (hsb.out.grown hg1 (Nat.le_refl _) (fun j hj => by cases hj)))
      | (at_builtin; refine wpList_append_fits _ rfl (.tmp 8) (.tmp 9) 25 rfl w.heap.size 9 i0 1 Try.underlying25 hi hz1 w.heap.size 0 (n + 1) [] rfl hown1 ad n c ys rfl (by omega) (fun j u hu => (hb1.out.cell (by rw [block_add]; exact HAB.out (by have := (List.getElem?_eq_some_iff.1 hu).1; omega))).trans (HC.out j u hu)) HR.out (by omega) ?_; rw [List.nil_append, Nat.zero_add]; intro w2 hown2 hg2; have hb2 := Lib.hid (hb1.out.grown hg2 hb1.out.size (fun j hj => by injection hj with hj; omega)))
      | (at_builtin; refine wpList_append_fits _ rfl (.tmp 11) (.tmp 12) 25 rfl w.heap.size 9 i0 1 Try.underlying25 hi hz1 w.heap.size n (n + 1) ys rfl (hown2.alloc _) ⟨w2.heap.size, 0, none⟩ 1 1 [spare] rfl rfl (cell_one_new _ _ _) (by simp [Value.oneCell']) (by omega) ?_; intro w3 hown3 hg3; have hb3 := Lib.hid ((hb2.out.alloc hb2.out.size _).grown hg3 (by have := hb2.out.size; simp; omega) (fun j hj => by injection hj with hj; omega))))
    trace_state
    go_ret
    exact ⟨n, rfl, rfl, hb3.out, hown3⟩
end Go.Proofs.Ytlkabghpcjlohaa
