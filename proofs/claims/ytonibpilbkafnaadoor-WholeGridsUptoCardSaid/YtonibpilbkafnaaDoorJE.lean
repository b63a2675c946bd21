/- Joined texts: O2 O3 O4 O8: walks and plain laws for this seat's program, each stated where it stands; conditions: as each states. -/
import Derived.Test.YtonibpilbkafnaaDoorJD
import Derived.OneCell
import Derived.Laws.OwnMore
import Derived.Laws.AppendOwn
import Derived.Stop.RegionWithIn
import Derived.Deep.RegionLaw
import Derived.IntWalk
/- Package turn: is, laid, place, Place. -/
namespace Go.Proofs.YtonibpilbkafnaaDoor
set_option linter.unusedVariables false
set_option linter.unusedSimpArgs false
open Go.RowKit Go.Lib

theorem place_in {h w k i : Nat} (hk : k < 8) (hi : i < h * w) : inG (if k % 2 = 1 then w else h : Nat) (widW h w k : Nat) (laidR h w k (rowW w i) (colW' w i)) (laidC h w k (rowW w i) (colW' w i)) := by
  have hin := in_of hi
  unfold inG at hin ⊢
  unfold widW
  rcases eight hk with rfl | rfl | rfl | rfl | rfl | rfl | rfl | rfl <;> simp [laidR, laidC, mirC] <;> omega
theorem place_int {h w k i : Nat} (hk : k < 8) (hi : i < h * w) : laidR h w k (rowW w i) (colW' w i) * (widW h w k : Nat) + laidC h w k (rowW w i) (colW' w i) = ((placeW h w k i : Nat) : Int) := by
  obtain ⟨h1, h2, h3, h4⟩ := place_in hk hi
  unfold placeW idxW
  rw [Int.toNat_of_nonneg]
  have := Int.mul_nonneg h1 (Int.natCast_nonneg (widW h w k))
  omega
theorem is_any (k : Nat) (w : World) (hk : k < 8) : Calls Tryd.prog 22 #[.int .i64 (k : Nat)] w fun e w' => e = .returned (.bool true) ∧ w = w' := by
  have h1 : (0 : Int) ≤ (k : Int) := by omega
  have h2 : (k : Int) < 8 := by omega
  clear hk
  go_enter Tryd.func22, Tryd.ntmps22
  go_wp2
  go_ret
  exact ⟨rfl, rfl⟩
theorem results_arr {fn : Func} {p : Tmp} (h : fn.results = #[.cell p 83]) (tmps : Array Value) (W : World) (g : Nat) (t : TypeId) (c0 c1 : Value) (fr : Nat × Nat)
    (hp : tmps.getD p undef = .pointer (some ⟨g, 0, none⟩)) (hg : W.heap[g]? = some (.cells #[c0, c1] t fr)) :
    (results fn tmps).run Tryd.prog W = .ok (.agg #[c0, c1]) W := by
  have hp' : tmps[p]?.getD undef = .pointer (some ⟨g, 0, none⟩) := by simpa using hp
  have hl := run_loadVar_row (P := Tryd.prog) W g t 83 _ fr _ hg Tryd.underlying83 rfl (by kernel_rfl)
  simp [results, h, hp', asAddr, hl]
theorem stored2 {W : World} {g : Nat} {t : TypeId} {a0 a1 : Value} (x0 x1 : Value) (hg : W.heap[g]? = some (.cells #[a0, a1] t (0, 0))) :
    ((W.setCell ⟨g, 0, none⟩ x0).setCell ⟨g, 1, none⟩ x1).heap[g]? = some (.cells #[x0, x1] t (0, 0)) :=
  heap_setCell_same _ g 1 _ _ _ (heap_setCell_same W g 0 _ _ _ hg)
theorem below2 {B g : Nat} {w W : World} {x0 x1 : Value} (h : Below B w W) (hg : B ≤ g) : Below B w ((W.setCell ⟨g, 0, none⟩ x0).setCell ⟨g, 1, none⟩ x1) :=
  (h.setCell (p := ⟨g, 0, none⟩) hg x0).setCell (p := ⟨g, 1, none⟩) hg x1
theorem laid_end {fn : Func} {p : Tmp} {act : Act} {w : World} {n : Nat} {X : Obj} {t : TypeId} {a0 a1 x0 x1 : Value} {r0 r1 : Int} (h : fn.results = #[.cell p 83]) (hd : act.defers = []) (hp : act.tmps.getD p undef = .pointer (some ⟨w.heap.size + 1, 0, none⟩)) (e0 : x0 = .int .i64 r0) (e1 : x1 = .int .i64 r1) :
    bodyPost Tryd.prog fn (fun e w' => e = .returned (.agg #[.int .i64 r0, .int .i64 r1]) ∧ Below w.heap.size w w') Exit.ret act (((((w.alloc X).alloc (.cells #[a0, a1] t)).drewN n).setCell ⟨w.heap.size + 1, 0, none⟩ x0).setCell ⟨w.heap.size + 1, 1, none⟩ x1) := by
  subst e0; subst e1
  have hg : (((w.alloc X).alloc (.cells #[a0, a1] t)).drewN n).heap[w.heap.size + 1]? = some (.cells #[a0, a1] t (0, 0)) := by
    have := World.alloc_heap_new (w.alloc X) (.cells #[a0, a1] t)
    rw [World.size_alloc] at this
    exact this
  refine bodyPost_ret (results_arr h _ _ _ t _ _ (0, 0) hp (stored2 _ _ hg)) hd ⟨rfl, below2 ?_ (Nat.le_succ _)⟩
  exact bdraw (((Below.refl _ w).alloc (Nat.le_refl _) _).alloc (by simp) _) n
set_option maxHeartbeats 4000000 in
set_option maxRecDepth 100000 in
theorem laid_any (h c k : Nat) (r q : Int) (w : World) (hk : k < 8) (h0 : 1 ≤ h ∧ h ≤ 16) (c0 : 1 ≤ c ∧ c ≤ 16) (r0 : 0 ≤ r ∧ r ≤ 16) (q0 : 0 ≤ q ∧ q ≤ 16) :
    Calls Tryd.prog 38 #[.int .i64 (h : Nat), .int .i64 (c : Nat), .agg #[.int .i64 r, .int .i64 q], .int .i64 (k : Nat)] w fun e w' => e = .returned (.agg #[.int .i64 (laidR h c k r q), .int .i64 (laidC h c k r q)]) ∧ Below w.heap.size w w' := by
  obtain ⟨h1, h2⟩ := h0
  obtain ⟨c1, c2⟩ := c0
  obtain ⟨r1, r2⟩ := r0
  obtain ⟨q1, q2⟩ := q0
  rcases eight hk with rfl | rfl | rfl | rfl | rfl | rfl | rfl | rfl
  all_goals clear hk
  all_goals go_enter Tryd.func38, Tryd.ntmps38
  all_goals go_wp2
  all_goals go_quiet (fail)
  all_goals go_wp2
  all_goals exact laid_end Tryd.results38 rfl rfl (by simp [laidR, mirC]) (by simp [laidC, mirC])
end Go.Proofs.YtonibpilbkafnaaDoor

/- Three rows of bools in memory; a grid that is being turned. -/
namespace Go.Proofs.YtonibpilbkafnaaDoor
set_option linter.unusedVariables false
set_option linter.unusedSimpArgs false
open Go.RowKit Go.Lib

/-- a row's block is of its own elements' type -/
theorem own_type {W : World} {B e sz n : Nat} {v : Value} {xs : List Value} (h : W.ownsRow B e sz v n xs) : ∀ k, v.ownBlock = some k → ∃ cur, W.heap[k]? = some (.cells cur e (0, 0)) := by
  intro k hk
  rcases h.2 with ⟨rfl, _⟩ | ⟨g, cap, cur, rfl, _, hg, _⟩
  · cases hk
  · have : g = k := by simpa [Value.ownBlock] using hk
    subst this
    exact ⟨cur, hg⟩
theorem own_other {W : World} {B e sz n B' e' sz' n' : Nat} {v v' : Value} {xs xs' : List Value} (h : W.ownsRow B e sz v n xs) (h' : W.ownsRow B' e' sz' v' n' xs') (he : e ≠ e') : v.ownBlock = none ∨ v.ownBlock ≠ v'.ownBlock := by
  cases hv : v.ownBlock with
  | none => exact .inl rfl
  | some k =>
    refine .inr fun h2 => ?_
    obtain ⟨c1, e1⟩ := own_type h k hv
    obtain ⟨c2, e2⟩ := own_type h' k h2.symm
    rw [e1] at e2
    injection e2 with e2
    injection e2 with e3 e4
    exact he e4
theorem own_base {W : World} {B B' e sz n : Nat} {v : Value} {xs : List Value} (h : W.ownsRow B e sz v n xs) (hB : B' ≤ B) : W.ownsRow B' e sz v n xs := by
  refine ⟨h.1, ?_⟩
  rcases h.2 with h2 | ⟨g, cap, cur, rfl, hb, rest⟩
  · exact .inl h2
  · exact .inr ⟨g, cap, cur, rfl, Nat.le_trans hB hb, rest⟩
theorem own_belowS {W W' : World} {B e sz n : Nat} {v : Value} {xs : List Value} (h : W.ownsRow B e sz v n xs) (hb : Below W.heap.size W W') : W'.ownsRow B e sz v n xs := by
  refine ⟨h.1, ?_⟩
  rcases h.2 with h2 | ⟨g, cap, cur, rfl, hB, hg, rest⟩
  · exact .inl h2
  · exact .inr ⟨g, cap, cur, rfl, hB, (hb.block g (Array.getElem?_eq_some_iff.1 hg).1).trans hg, rest⟩
/-- three rows of bools in blocks of their own -/
structure FillAt (W : World) (a b d n : Nat) (xs ys zs : List Bool) : Prop where
  ab : a ≠ b
  ad : a ≠ d
  bd : b ≠ d
  oa : W.ownsRow a 4 1 (.slice (some ⟨a, 0, none⟩) n n) n (bools xs)
  ob : W.ownsRow b 4 1 (.slice (some ⟨b, 0, none⟩) n n) n (bools ys)
  od : W.ownsRow d 4 1 (.slice (some ⟨d, 0, none⟩) n n) n (bools zs)
theorem bools_put (l : List Bool) (i : Nat) (x : Bool) : (bools l).set i (.bool x) = bools (l.set i x) := by
  unfold bools; rw [List.map_set]
theorem FillAt.setA {W : World} {a b d n : Nat} {xs ys zs : List Bool} (h : FillAt W a b d n xs ys zs) (i : Nat) (x : Bool) : FillAt (W.setCell ⟨a, i, none⟩ (.bool x)) a b d n (xs.set i x) ys zs :=
  ⟨h.ab, h.ad, h.bd, by rw [← bools_put]; exact (h.oa.stored i _).1, ownsRow_setCell_other h.ob (a := ⟨a, i, none⟩) (by simp [Value.ownBlock]; exact h.ab.symm) _, ownsRow_setCell_other h.od (a := ⟨a, i, none⟩) (by simp [Value.ownBlock]; exact h.ad.symm) _⟩
theorem FillAt.setB {W : World} {a b d n : Nat} {xs ys zs : List Bool} (h : FillAt W a b d n xs ys zs) (i : Nat) (x : Bool) : FillAt (W.setCell ⟨b, i, none⟩ (.bool x)) a b d n xs (ys.set i x) zs :=
  ⟨h.ab, h.ad, h.bd, ownsRow_setCell_other h.oa (a := ⟨b, i, none⟩) (by simp [Value.ownBlock]; exact h.ab) _, by rw [← bools_put]; exact (h.ob.stored i _).1, ownsRow_setCell_other h.od (a := ⟨b, i, none⟩) (by simp [Value.ownBlock]; exact h.bd.symm) _⟩
theorem FillAt.setD {W : World} {a b d n : Nat} {xs ys zs : List Bool} (h : FillAt W a b d n xs ys zs) (i : Nat) (x : Bool) : FillAt (W.setCell ⟨d, i, none⟩ (.bool x)) a b d n xs ys (zs.set i x) :=
  ⟨h.ab, h.ad, h.bd, ownsRow_setCell_other h.oa (a := ⟨d, i, none⟩) (by simp [Value.ownBlock]; exact h.ad) _, ownsRow_setCell_other h.ob (a := ⟨d, i, none⟩) (by simp [Value.ownBlock]; exact h.bd) _, by rw [← bools_put]; exact (h.od.stored i _).1⟩
theorem FillAt.below {W W' : World} {a b d n : Nat} {xs ys zs : List Bool} (h : FillAt W a b d n xs ys zs) (hb : Below W.heap.size W W') : FillAt W' a b d n xs ys zs :=
  ⟨h.ab, h.ad, h.bd, own_belowS h.oa hb, own_belowS h.ob hb, own_belowS h.od hb⟩

theorem FillAt.made {W : World} {a b d n : Nat} (ab : a ≠ b) (ad : a ≠ d) (bd : b ≠ d) (ha : W.heap[a]? = some (.cells (madeCells #[.bool false] n) 4 (0, 0))) (hb : W.heap[b]? = some (.cells (madeCells #[.bool false] n) 4 (0, 0))) (hd : W.heap[d]? = some (.cells (madeCells #[.bool false] n) 4 (0, 0))) (hn : n ≤ 256) :
    FillAt W a b d n (List.replicate n false) (List.replicate n false) (List.replicate n false) := by
  have hm : ∀ k, W.heap[k]? = some (.cells (madeCells #[.bool false] n) 4 (0, 0)) → W.ownsRow k 4 1 (.slice (some ⟨k, 0, none⟩) n n) n (bools (List.replicate n false)) := by
    intro k hk
    have e1 : (madeCells #[.bool false] n).toList = bools (List.replicate n false) := by
      apply List.ext_getElem
      · simp [bools, madeCells]
      · intro i h1 h2
        simp [madeCells, bools, Nat.mod_one]
    have e2 : (madeCells #[Value.bool false] n).size = n := by
      have := congrArg List.length e1
      simpa [bools] using this
    refine ⟨by simp [bools], .inr ⟨k, n, _, rfl, Nat.le_refl _, hk, Nat.le_refl _, by unfold maxLen; omega, by omega, ?_⟩⟩
    rw [e1, List.take_of_length_le (by simp [bools])]
  exact ⟨ab, ad, bd, hm a ha, hm b hb, hm d hd⟩
end Go.Proofs.YtonibpilbkafnaaDoor

/- Slots in memory: a slice of structs, each with a slice of cells. -/
namespace Go.Proofs.YtonibpilbkafnaaDoor
set_option linter.unusedVariables false
set_option linter.unusedSimpArgs false
open Go.RowKit Go.Lib

theorem infoSlot : (Tryd.prog.info? 39).map (fun i => (i.zero, i.size, i.bytes)) = some (some (.agg #[.int .i64 0, .bool false, .slice none 0 0]), 3, 40) := by kernel_rfl
/-- the slots: each with its way and its cells -/
structure SlotsAt (W : World) (B : Nat) (v : Value) (vs : List Value) (L : List (Bool × List Nat)) : Prop where
  own : W.ownsRow B 39 3 v L.length vs
  row : ∀ (i : Nat) (s : Bool × List Nat), L[i]? = some s → ∃ (num : Int) (u : Value), vs[i * 3]? = some (.int .i64 num) ∧ vs[i * 3 + 1]? = some (.bool s.1) ∧ vs[i * 3 + 2]? = some u ∧ W.ownsRow B 3 1 u s.2.length (ints s.2)
theorem SlotsAt.below {W W' : World} {B : Nat} {v : Value} {vs : List Value} {L : List (Bool × List Nat)} (h : SlotsAt W B v vs L) (hb : Below W.heap.size W W') : SlotsAt W' B v vs L :=
  ⟨own_belowS h.own hb, fun i s hs => by obtain ⟨num, u, e1, e2, e3, o⟩ := h.row i s hs; exact ⟨num, u, e1, e2, e3, own_belowS o hb⟩⟩
theorem SlotsAt.nil (W : World) (B : Nat) : SlotsAt W B (.slice none 0 0) [] [] := ⟨World.ownsRow_nil _ _ _ _, fun i r hr => by cases hr⟩
theorem SlotsAt.snoc {W W' : World} {B : Nat} {v v' u : Value} {vs : List Value} {L : List (Bool × List Nat)} {s : Bool × List Nat} {num : Int} (h : SlotsAt W B v vs L) (hu : W.ownsRow B 3 1 u s.2.length (ints s.2))
    (hg : W.grownBy W' v.ownBlock) (ho : W'.ownsRow B 39 3 v' (L.length + 1) (vs ++ [.int .i64 num, .bool s.1, u])) : SlotsAt W' B v' (vs ++ [.int .i64 num, .bool s.1, u]) (L ++ [s]) := by
  have hl : vs.length = L.length * 3 := by have := h.own.1; omega
  refine ⟨by rw [List.length_append]; exact ho, fun i r hr => ?_⟩
  rcases Nat.lt_or_ge i L.length with hi | hi
  · rw [List.getElem?_append_left hi] at hr
    obtain ⟨n1, u1, e1, e2, e3, o⟩ := h.row i r hr
    exact ⟨n1, u1, by rw [List.getElem?_append_left (by omega)]; exact e1, by rw [List.getElem?_append_left (by omega)]; exact e2, by rw [List.getElem?_append_left (by omega)]; exact e3, o.kept hg (own_other o h.own (by decide))⟩
  · rw [List.getElem?_append_right hi] at hr
    have h0 : i - L.length = 0 := by
      rcases Nat.eq_zero_or_pos (i - L.length) with h0 | h0
      · exact h0
      · rw [List.getElem?_eq_none (by simp; omega)] at hr; cases hr
    have hi2 : i = L.length := by omega
    rw [h0] at hr
    injection hr with hr
    subst hr
    subst hi2
    refine ⟨num, u, ?_, ?_, ?_, hu.kept hg (own_other hu h.own (by decide))⟩
    · rw [List.getElem?_append_right (by omega), hl, Nat.sub_self]; rfl
    · rw [List.getElem?_append_right (by omega), hl, Nat.add_sub_cancel_left]; rfl
    · rw [List.getElem?_append_right (by omega), hl, Nat.add_sub_cancel_left]; rfl
theorem own_formZ {w : World} {B e sz : Nat} {v : Value} {n : Nat} {xs : List Value} (h : w.ownsRow B e sz v n xs) : ∃ A c, v = .slice A n c := by
  rcases h.2 with ⟨rfl, rfl⟩ | ⟨g, cap, cur, rfl, _⟩
  · exact ⟨_, _, rfl⟩
  · exact ⟨_, _, rfl⟩
theorem own_headZ {w : World} {B e sz n : Nat} {v : Value} {xs : List Value} (h : w.ownsRow B e sz v n xs) (hn : 0 < n) : ∃ g cap, v = .slice (some ⟨g, 0, none⟩) n cap ∧ B ≤ g := by
  rcases h.2 with ⟨_, rfl⟩ | ⟨g, cap, cur, rfl, hb, _⟩
  · omega
  · exact ⟨g, cap, rfl, hb⟩
/-- what a slot's place in memory holds -/
theorem SlotsAt.at_ {W : World} {B : Nat} {g cap : Nat} {vs : List Value} {L : List (Bool × List Nat)} (h : SlotsAt W B (.slice (some ⟨g, 0, none⟩) L.length cap) vs L) {i : Nat} {s : Bool × List Nat} (hs : L[i]? = some s) :
    ∃ (num : Int) (A : Option Addr) (c : Nat), W.cell? ⟨g, i * 3, none⟩ = some (.int .i64 num) ∧ W.cell? ⟨g, i * 3 + 1, none⟩ = some (.bool s.1) ∧ W.cell? ⟨g, i * 3 + 2, none⟩ = some (.slice A s.2.length c) ∧ W.ownsRow B 3 1 (.slice A s.2.length c) s.2.length (ints s.2) := by
  obtain ⟨num, u, e1, e2, e3, o⟩ := h.row i s hs
  have hi : i < L.length := (List.getElem?_eq_some_iff.1 hs).1
  obtain ⟨A, c, rfl⟩ := own_formZ o
  exact ⟨num, A, c, (h.own.cellAt (i * 3) (by omega)).trans e1, (h.own.cellAt (i * 3 + 1) (by omega)).trans e2, (h.own.cellAt (i * 3 + 2) (by omega)).trans e3, o⟩
end Go.Proofs.YtonibpilbkafnaaDoor

/- Package turn: place, Place. -/
namespace Go.Proofs.YtonibpilbkafnaaDoor
set_option linter.unusedVariables false
set_option linter.unusedSimpArgs false
open Go.RowKit Go.Lib

set_option maxHeartbeats 4000000 in
set_option maxRecDepth 100000 in
theorem place_any (h c k i : Nat) (w : World) (hk : k < 8) (h0 : 1 ≤ h ∧ h ≤ 16) (c0 : 1 ≤ c ∧ c ≤ 16) (hi : i < h * c) :
    Calls Tryd.prog 25 #[.int .i64 (h : Nat), .int .i64 (c : Nat), .int .i64 (i : Nat), .int .i64 (k : Nat)] w fun e w' => e = .returned (.int .i64 (placeW h c k i : Nat)) ∧ Below w.heap.size w w' := by
  obtain ⟨j0, j1, j2, j3⟩ := in_of hi
  have hm : h * c ≤ 256 := Nat.mul_le_mul h0.2 c0.2
  have hp := place_int hk hi
  have hin := place_in hk hi
  have hpl := place_lt hk hi
  have cl := fun W => laid_any h c k (rowW c i) (colW' c i) W hk h0 c0 ⟨j0, by omega⟩ ⟨j2, by omega⟩
  have k3 : (i : Int).tmod (c : Int) = colW' c i := rfl
  have k4 : (i : Int).tdiv (c : Int) = rowW c i := rfl
  have k5 : (k : Int).tmod 2 = ((k % 2 : Nat) : Int) := rfl
  have cz : ¬ (c : Int) = 0 := by omega
  obtain ⟨i1, i2, i3, i4⟩ := hin
  generalize placeW h c k i = P at *
  generalize laidR h c k (rowW c i) (colW' c i) = lr at *
  generalize laidC h c k (rowW c i) (colW' c i) = lc at *
  generalize rowW c i = r at *
  generalize colW' c i = q at *
  have kr : IntKind.i64.wrap r = r := IntWalk.i64_in _ (by omega)
  have kq : IntKind.i64.wrap q = q := IntWalk.i64_in _ (by omega)
  have CL := Lib.hid cl; clear cl
  unfold widW at hp i4
  by_cases ho : k % 2 = 1
  · rw [if_pos ho] at hp i4 i2
    rw [ho] at k5
    obtain ⟨z, kz⟩ : ∃ z, lr * (h : Int) = z := ⟨_, rfl⟩
    rw [kz] at hp
    have z1 : 0 ≤ z := by rw [← kz]; exact Int.mul_nonneg i1 (by omega)
    have hpx : z + lc = (P : Int) := hp
    clear hp ho
    have AL := Lib.hid (fun (w1 : World) (hq : Below (w.alloc (.cells #[.int .i64 0, .int .i64 0] 83)).drew.heap.size (w.alloc (.cells #[.int .i64 0, .int .i64 0] 83)).drew w1) => (hq.block w.heap.size (by simp)).trans (show (w.alloc (.cells #[.int .i64 0, .int .i64 0] 83)).heap[w.heap.size]? = _ from World.alloc_heap_new w _))
    go_enter Tryd.func25, Tryd.ntmps25
    go_wp2
    go_region_with (go_at_call 38; (with_reducible refine (CL.out _).mono ?_); rintro e w1 ⟨rfl, hb1⟩; (try ((have hq : Below (w.alloc (.cells #[.int .i64 0, .int .i64 0] 83)).drew.heap.size (w.alloc (.cells #[.int .i64 0, .int .i64 0] 83)).drew w1 := by with_reducible exact hb1); have g9 := AL.out w1 hq; have p0 := Lib.cell_of_heap g9 0; have p1 := Lib.cell_of_heap g9 1; have f0 := Lib.frozen_of_heap g9 0; have f1 := Lib.frozen_of_heap g9 1)))
    all_goals go_wp2
    all_goals go_ret
    all_goals (first | exact ⟨ret_i rfl, Below.trans (bdraw (Below.refl _ w) 1) (hb1.alloc (Below.size hb1) _)⟩ | exact ⟨ret_i rfl, below2 ((((Below.refl _ w).alloc (Nat.le_refl _) _).drew).trans (hb1.mono (by simp))) (Nat.le_refl _)⟩)
  · rw [if_neg ho] at hp i4 i2
    have ho2 : k % 2 = 0 := by omega
    rw [ho2] at k5
    obtain ⟨z, kz⟩ : ∃ z, lr * (c : Int) = z := ⟨_, rfl⟩
    rw [kz] at hp
    have z1 : 0 ≤ z := by rw [← kz]; exact Int.mul_nonneg i1 (by omega)
    have hpx : z + lc = (P : Int) := hp
    clear hp ho ho2
    have AL := Lib.hid (fun (w1 : World) (hq : Below (w.alloc (.cells #[.int .i64 0, .int .i64 0] 83)).drew.heap.size (w.alloc (.cells #[.int .i64 0, .int .i64 0] 83)).drew w1) => (hq.block w.heap.size (by simp)).trans (show (w.alloc (.cells #[.int .i64 0, .int .i64 0] 83)).heap[w.heap.size]? = _ from World.alloc_heap_new w _))
    go_enter Tryd.func25, Tryd.ntmps25
    go_wp2
    go_region_with (go_at_call 38; (with_reducible refine (CL.out _).mono ?_); rintro e w1 ⟨rfl, hb1⟩; (try ((have hq : Below (w.alloc (.cells #[.int .i64 0, .int .i64 0] 83)).drew.heap.size (w.alloc (.cells #[.int .i64 0, .int .i64 0] 83)).drew w1 := by with_reducible exact hb1); have g9 := AL.out w1 hq; have p0 := Lib.cell_of_heap g9 0; have p1 := Lib.cell_of_heap g9 1; have f0 := Lib.frozen_of_heap g9 0; have f1 := Lib.frozen_of_heap g9 1)))
    all_goals go_wp2
    all_goals go_ret
    all_goals (first | exact ⟨ret_i rfl, Below.trans (bdraw (Below.refl _ w) 1) (hb1.alloc (Below.size hb1) _)⟩ | exact ⟨ret_i rfl, below2 ((((Below.refl _ w).alloc (Nat.le_refl _) _).drew).trans (hb1.mono (by simp))) (Nat.le_refl _)⟩)
end Go.Proofs.YtonibpilbkafnaaDoor
