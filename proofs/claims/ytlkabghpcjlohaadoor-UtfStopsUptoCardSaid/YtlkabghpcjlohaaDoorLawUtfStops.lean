/- UtfStops: for every text that holds at most 1048576 bytes, and every number, the call returns true. -/
import Derived.Test.YtlkabghpcjlohaaDoorL1
import Derived.Test.YtlkabghpcjlohaaDoorA6
import Derived.Test.YtlkabghpcjlohaaDoorG5
import Derived.Stop.RegionWithIn
import Derived.Deep.QuietTactic
namespace Go.Proofs.YtlkabghpcjlohaaDoor
set_option linter.unusedVariables false
set_option linter.unusedSimpArgs false
open Go.RowKit Go.Lib Go.Shelf
attribute [local go_sem] Oper.semAt_some

/-- what lies ahead of w is as it was -/
structure BW (w : World) where
  w' : World
  h : Below w.heap.size w w'
instance (w : World) : Inhabited (BW w) := ⟨⟨w, Below.refl _ w⟩⟩
theorem wp_region_bw {P : Program} {id : Nat} {Q : Exit → Act → World → Prop} {a : Act} {w : World} {l : List Oper} (hm : P.follows .mixedOrders = true) (hB : Region.lexB .any l.toArray = true)
    (h : wpQuiet P l.toArray (fun w2 => ∃ p : BW w, w2 = p.w') (fun a' => ∀ w2, (∃ p : BW w, w2 = p.w') → Q .normal a' w2) l a) : (Code.region id l.toArray true).wp P Q a w :=
  wp_region_quiet (C := fun w2 => ∃ p : BW w, w2 = p.w') hm hB ⟨⟨w.drew, (Below.refl _ w).drew⟩, rfl⟩ (by simpa using h)
theorem Calls.bw_of {P : Program} {f : FuncId} {args : Array Value} {w : World} {p : BW w} {v : Value} (h : Calls P f args p.w' fun e w2 => e = .returned v ∧ Below p.w'.heap.size p.w' w2) :
    Calls P f args p.w' fun e w2 => e = .returned v ∧ ∃ q : BW w, w2 = q.w' :=
  h.mono fun _ w2 ⟨he, hb⟩ => ⟨he, ⟨w2, p.h.trans (hb.mono p.h.size)⟩, rfl⟩
theorem BW.cell {w : World} (p : BW w) {a : Addr} {v : Value} (ha : a.block < w.heap.size) (h : w.cell? a = some v) : p.w'.cell? a = some v := (p.h.cell ha).trans h

theorem s_frozen {w w' : World} (h : Below w.heap.size w w') {a : Addr} (ha : a.block < w.heap.size) : w'.frozen? a = w.frozen? a := by
  unfold World.frozen?
  rw [h.block a.block ha]
/-- the last place of those seen -/
def lastP (pre : List (Nat × Nat)) : Int := match pre.getLast? with | some x => (x.1 : Int) | none => -1
theorem lastP_snoc (pre : List (Nat × Nat)) (x : Nat × Nat) : lastP (pre ++ [x]) = (x.1 : Int) := by simp [lastP]
theorem lastP_place (l : List UInt8) (pre : List (Nat × Nat)) (h : pre <+: steps l) (h0 : 0 < pre.length) : ∃ p : Nat, lastP pre = p ∧ (places l)[pre.length - 1]? = some p := by
  obtain ⟨t, ht⟩ := h
  obtain ⟨ys, x, rfl⟩ : ∃ ys x, pre = ys ++ [x] := by
    rcases List.eq_nil_or_concat pre with rfl | ⟨ys, x, rfl⟩
    · simp at h0
    · exact ⟨ys, x, by simp⟩
  refine ⟨x.1, lastP_snoc ys x, ?_⟩
  rw [← steps_places, ← ht]
  simp

set_option maxHeartbeats 16000000 in
set_option maxRecDepth 100000 in
theorem utfStops_any (s : ByteArray) (n : Int) (w : World) (hs : s.size ≤ 1048576) (hn0 : -9223372036854775808 ≤ n) (hn1 : n ≤ 9223372036854775807) (hT : Tabs w) :
    Calls Tryd.prog 5 #[.string s, .int .i64 n] w fun e w' => e = .returned (.bool true) ∧ Below w.heap.size w w' := by
  have hle := chop_length_le (bl s)
  rw [bl_length] at hle
  have hTW := hT.below ((Below.refl w.heap.size w).alloc (Nat.le_refl _) (.cells #[.int .i64 n] 3))
  have CA := Lib.hid (awake_any (w.alloc (.cells #[.int .i64 n] 3)) hTW)
  clear hT hTW
  refine (callsIn_wide (n := 6)).1 ?_
  refine callsIn_of_wp_marks Tryd.func5 rfl trivial ?_ rfl
  simp only [Tryd.ntmps5, List.size_toArray, List.length_cons, List.length_nil, Nat.reduceAdd, Nat.reduceSub, Array.replicate_succ, Array.replicate_zero, List.push_toArray, List.append_toArray, List.nil_append, List.cons_append]
  gi_wp2_with (first
    | (refine ⟨trivial, ?_⟩; gi_at_call 15; refine (callsIn_wide.2 CA.out).mono ?_; rintro e w1 ⟨rfl, hb1⟩)
    | (refine ⟨trivial, ?_⟩; gi_at_call 23; refine (All_in Fence.wide _ trivial rfl _ _).mono ?_; rintro e w' ⟨rfl, rfl⟩))
  obtain ⟨W0, hW0⟩ : ∃ W0, ((w1.alloc (.cells #[.string s] 9)).alloc (.cells #[.int .i64 0] 3)).alloc (.cells #[.int .i64 (-1)] 3) = W0 := ⟨_, rfl⟩
  have hs1 := hb1.size
  rw [World.size_alloc] at hs1
  have hs0 : W0.heap.size = w1.heap.size + 3 := by rw [← hW0]; simp
  have hB0 : W0.heap[w.heap.size]? = some (.cells #[.int .i64 n] 3 (0, 0)) := by
    rw [← hW0]
    refine ((Below.heap_alloc _ _ _ (by simp only [World.size_alloc]; omega)).trans ((Below.heap_alloc _ _ _ (by simp only [World.size_alloc]; omega)).trans (Below.heap_alloc _ _ _ (by omega)))).trans ?_
    rw [hb1.block _ (by simp)]
    exact World.alloc_heap_new w _
  have hBs : W0.heap[w1.heap.size]? = some (.cells #[.string s] 9 (0, 0)) := by
    rw [← hW0]; exact ((Below.heap_alloc _ _ _ (by simp only [World.size_alloc]; omega)).trans (Below.heap_alloc _ _ _ (by simp))).trans (World.alloc_heap_new w1 _)
  have hBk : W0.heap[w1.heap.size + 1]? = some (.cells #[.int .i64 0] 3 (0, 0)) := by
    rw [← hW0]; refine (Below.heap_alloc _ _ _ (by simp)).trans ?_
    have := World.alloc_heap_new (w1.alloc (.cells #[.string s] 9)) (.cells #[.int .i64 0] 3); rwa [World.size_alloc] at this
  have hBl : W0.heap[w1.heap.size + 2]? = some (.cells #[.int .i64 (-1)] 3 (0, 0)) := by
    rw [← hW0]
    have := World.alloc_heap_new ((w1.alloc (.cells #[.string s] 9)).alloc (.cells #[.int .i64 0] 3)) (.cells #[.int .i64 (-1)] 3); rwa [World.size_alloc, World.size_alloc] at this
  have hBW : Below w.heap.size w W0 := by
    rw [← hW0]
    exact ((((((Below.refl w.heap.size w).alloc (Nat.le_refl _) _).trans (hb1.mono (by simp))).alloc (by omega) _).alloc (by simp only [World.size_alloc]; omega) _).alloc (by simp only [World.size_alloc]; omega) _)
  rw [hW0]
  clear hW0 CA
  refine wpIn_rangeFunc_ownF rfl (by omega) (gf := 46) (lb := #[.pointer (some ⟨w1.heap.size, 0, none⟩)]) rfl trivial (enters_of Tryd.func46 (by kernel_rfl) rfl)
    (All_stops Fence.wide _ trivial rfl (by omega) s w1.heap.size W0 (by omega) (Lib.cell_of_heap hBs 0)) walksK_t walksK_b (Below.refl _ _) (fun _ => rfl)
    (fun (pre : List (Step s)) W => (W.cell? ⟨w.heap.size, 0, none⟩ = some (.int .i64 n) ∧ W.cell? ⟨w1.heap.size, 0, none⟩ = some (.string s) ∧ W.cell? ⟨w1.heap.size + 1, 0, none⟩ = some (.int .i64 (pre.length : Nat)) ∧ W.frozen? ⟨w1.heap.size + 1, 0, none⟩ = false ∧
      W.cell? ⟨w1.heap.size + 2, 0, none⟩ = some (.int .i64 (lastP (raw pre))) ∧ W.frozen? ⟨w1.heap.size + 2, 0, none⟩ = false ∧ (pre.length : Int) ≤ max n 0) ∧ Below w.heap.size w W)
    (fun c (pre : List (Step s)) W => (c = .exit 0 ∧ ∃ (p' : List (Step s)) (x : Step s), pre = p' ++ [x] ∧ n ≤ (p'.length : Int) ∧ (p'.length : Int) ≤ max n 0 ∧ W.cell? ⟨w.heap.size, 0, none⟩ = some (.int .i64 n) ∧ W.cell? ⟨w1.heap.size, 0, none⟩ = some (.string s) ∧
      W.cell? ⟨w1.heap.size + 1, 0, none⟩ = some (.int .i64 (p'.length : Nat)) ∧ W.cell? ⟨w1.heap.size + 2, 0, none⟩ = some (.int .i64 (lastP (raw p')))) ∧ Below w.heap.size w W)
    (OwnFrom.and (Own.from (fun st A B row hs hg hr => ⟨cell_kept hs.1 hg hr, cell_kept hs.2.1 hg hr, cell_kept hs.2.2.1 hg hr, (frozen_kept hs.2.2.1 hg hr).trans hs.2.2.2.1, cell_kept hs.2.2.2.2.1 hg hr, (frozen_kept hs.2.2.2.2.1 hg hr).trans hs.2.2.2.2.2.1, hs.2.2.2.2.2.2⟩) _) (ownFrom_below (Nat.le_refl _) (by omega)))
    (fun c => OwnFrom.and (Own.from (fun st A B row hs hg hr => ⟨hs.1, by obtain ⟨_, p', x, e1, e2, e3, e4, e5, e6, e7⟩ := hs; exact ⟨p', x, e1, e2, e3, cell_kept e4 hg hr, cell_kept e5 hg hr, cell_kept e6 hg hr, cell_kept e7 hg hr⟩⟩) _) (ownFrom_below (Nat.le_refl _) (by omega)))
    ⟨⟨Lib.cell_of_heap hB0 0, Lib.cell_of_heap hBs 0, Lib.cell_of_heap hBk 0, Lib.frozen_of_heap hBk 0, Lib.cell_of_heap hBl 0, Lib.frozen_of_heap hBl 0, by simp only [List.length_nil]; omega⟩, hBW⟩
    (fun (x : Step s) => { tmps := #[.string s, .int .i64 n, undef, .pointer (some ⟨w.heap.size, 0, none⟩), .bool false, .func (.func 46) #[] #[.pointer (some ⟨w1.heap.size, 0, none⟩)], .pointer (some ⟨w1.heap.size + 1, 0, none⟩), .pointer (some ⟨w1.heap.size + 2, 0, none⟩), .int .i64 (x.1.1 : Int), undef, undef, .bool true, .bool false, .string s, .func (.func 46) #[] #[.pointer (some ⟨w1.heap.size, 0, none⟩)], .func (.func 46) #[] #[.pointer (some ⟨w1.heap.size, 0, none⟩)], .int .i64 (x.1.1 : Int), .int .i32 (x.1.2 : Int), undef, undef, undef, undef, undef, undef, undef, undef, undef, undef, undef, undef, undef, undef, undef, undef, undef, undef, undef, undef, undef, undef, undef, undef, undef, undef, undef, undef, undef, undef, undef, undef, undef, undef, undef, undef, undef], defers := [] }) ?assign ?body ?done ?stop
  case assign =>
    intro l x W K hK
    gi_wp2
    exact hK
  case body =>
    rintro l pre x W ⟨⟨c0, cs, ck, fk, cl, fl, hmx⟩, hbw⟩ hlen
    obtain ⟨⟨p, r⟩, hp, hr⟩ := x
    by_cases hkn : n ≤ (pre.length : Int)
    · gi_wp2
      exact ⟨KeepsOthers.refl _, ⟨rfl, pre, ⟨(p, r), hp, hr⟩, rfl, hkn, hmx, c0, cs, ck, cl⟩, hbw⟩
    · have hnk : (pre.length : Int) < n := by omega
      gi_wp2
      have hk : KeepsOthers W ((W.setCell ⟨w1.heap.size + 2, 0, none⟩ (.int .i64 (p : Int))).setCell ⟨w1.heap.size + 1, 0, none⟩ (.int .i64 ((pre.length : Int) + 1))) := (KeepsOthers.setCell _ _ _).trans (KeepsOthers.setCell _ _ _)
      refine ⟨hk, hk.walks, ⟨?_, ?_, ?_, ?_, ?_, ?_, ?_⟩, (hbw.setCell (by simp only; omega) _).setCell (by simp only; omega) _⟩
      · rw [World.cell?_setCell_other _ _ _ _ (by simp), World.cell?_setCell_other _ _ _ _ (by simp)]; exact c0
      · rw [World.cell?_setCell_other _ _ _ _ (by simp), World.cell?_setCell_other _ _ _ _ (by simp)]; exact cs
      · rw [World.cell?_setCell_same' _ _ _ (by rw [World.cell?_setCell_other _ _ _ _ (by simp), ck]; rfl)]
        simp
      · rw [World.frozen?_setCell, World.frozen?_setCell]; exact fk
      · rw [World.cell?_setCell_other _ _ _ _ (by simp), World.cell?_setCell_same' _ _ _ (by rw [cl]; rfl), raw, List.map_append, List.map_cons, List.map_nil, lastP_snoc]
      · rw [World.frozen?_setCell, World.frozen?_setCell]; exact fl
      · rw [List.length_append, List.length_singleton]; omega
  case done =>
    rintro D xs W hD hxs ⟨⟨c0, cs, ck, fk, cl, fl, hmx⟩, hbw⟩ hK
    have hlen : xs.length = (chop (bl s)).length := by
      have := congrArg List.length hxs
      rwa [List.length_map, steps_length] at this
    have hKw : ((xs.length : Nat) : Int) = min (max n 0) ((chop (bl s)).length : Int) := by rw [hlen] at hmx ⊢; omega
    have hLp : 0 < xs.length → ∃ p : Nat, lastP (raw xs) = p ∧ (places (bl s))[xs.length - 1]? = some p := fun h => by
      have := lastP_place (bl s) (raw xs) (by rw [hxs]; exact List.prefix_refl _) (by rw [List.length_map]; exact h)
      rwa [List.length_map] at this
    generalize lastP (raw xs) = L at *
    generalize xs.length = K at *
    clear hlen hmx hxs
    have hDl := (Array.getElem?_eq_some_iff.1 hK).1
    have CC := Lib.hid (fun W => Count_any s W (by omega))
    have CP := Lib.hid (fun W => Places_any s W (by omega))
    gi_wp2
    have c0d : W.drew.cell? ⟨w.heap.size, 0, none⟩ = some (.int .i64 n) := c0
    refine wpIn_mono (Q := fun e a' w' => match e with | .normal => ((∃ u24 u25 u26 u27 u28, a' = { tmps := #[.string s, .int .i64 n, undef, .pointer (some ⟨w.heap.size, 0, none⟩), .bool false, .func (.func 46) #[] #[.pointer (some ⟨w1.heap.size, 0, none⟩)], .pointer (some ⟨w1.heap.size + 1, 0, none⟩), .pointer (some ⟨w1.heap.size + 2, 0, none⟩), undef, .int .i64 (K : Nat), undef, .bool true, .bool false, .string s, .func (.func 46) #[] #[.pointer (some ⟨w1.heap.size, 0, none⟩)], .func (.func 46) #[] #[.pointer (some ⟨w1.heap.size, 0, none⟩)], undef, undef, undef, undef, undef, undef, undef, undef, u24, u25, u26, u27, u28, undef, undef, undef, undef, undef, undef, undef, undef, undef, undef, undef, undef, undef, undef, undef, undef, undef, undef, undef, undef, undef, undef, undef, undef, undef, undef], defers := [{ target := .collected D, args := #[] }] }) ∧ Below W.heap.size W w') | _ => False) ?_ ?_
    · refine wpIn_wide.2 ?_
      have d0 : ∀ p : BW W, p.w'.cell? ⟨w.heap.size, 0, none⟩ = some (.int .i64 n) := fun p => p.cell (by simp only; omega) c0
      have c0d : W.drew.cell? ⟨w.heap.size, 0, none⟩ = some (.int .i64 n) := c0
      go_region_with (go_at_call 19; refine (CC.out _).mono ?_; rintro e w2 ⟨rfl, hbC⟩; have c02 := (hbC.cell (p := ⟨w.heap.size, 0, none⟩) (by show w.heap.size < W.heap.size; omega)).trans c0d)
      all_goals (refine ⟨⟨_, _, _, _, _, by rw [hKw]; rfl⟩, Below.trans (Below.refl _ W).drew hbC⟩)
    intro e a' W2 hq
    cases e <;> try exact hq.elim
    obtain ⟨⟨u24, u25, u26, u27, u28, rfl⟩, hb2⟩ := hq
    have hs2 := hb2.size
    have ck2 : W2.drew.cell? ⟨w1.heap.size + 1, 0, none⟩ = some (.int .i64 (K : Nat)) := (hb2.cell (p := ⟨w1.heap.size + 1, 0, none⟩) (by simp only; omega)).trans ck
    have cl2 : W2.drew.cell? ⟨w1.heap.size + 2, 0, none⟩ = some (.int .i64 L) := (hb2.cell (p := ⟨w1.heap.size + 2, 0, none⟩) (by simp only; omega)).trans cl
    gi_wp2
    refine wpIn_mono (Q := fun e a' w' => match e with | .normal => ((∃ u24 u25 u26 u27 u28 u29 u30 u31 u32 u33 u34 u35 u36 u37 u38 u39 u40 u41 u42 u43 u44, a' = { tmps := #[.string s, .int .i64 n, undef, .pointer (some ⟨w.heap.size, 0, none⟩), .bool false, .func (.func 46) #[] #[.pointer (some ⟨w1.heap.size, 0, none⟩)], .pointer (some ⟨w1.heap.size + 1, 0, none⟩), .pointer (some ⟨w1.heap.size + 2, 0, none⟩), undef, .int .i64 (K : Nat), undef, .bool true, .bool false, .string s, .func (.func 46) #[] #[.pointer (some ⟨w1.heap.size, 0, none⟩)], .func (.func 46) #[] #[.pointer (some ⟨w1.heap.size, 0, none⟩)], undef, undef, undef, undef, undef, undef, undef, undef, u24, u25, u26, u27, u28, u29, u30, u31, u32, u33, u34, u35, u36, u37, u38, u39, u40, u41, u42, u43, u44, .bool false, undef, undef, undef, undef, undef, undef, undef, undef, undef], defers := [{ target := .collected D, args := #[] }] }) ∧ Below W2.heap.size W2 w') | _ => False) ?_ ?_
    · refine wpIn_wide.2 ?_
      obtain ⟨kz, hkz⟩ : ∃ kz : Int, kz = ((K : Nat) : Int) := ⟨_, rfl⟩
      rw [← hkz] at ck2 ⊢
      rcases Nat.eq_zero_or_pos K with hK0 | hKp
      · have hd : (decide ((0 : Int) < kz)) = false := by simp; omega
        clear hkz hKw ck
        have ck9 : W2.cell? ⟨w1.heap.size + 1, 0, none⟩ = some (.int .i64 kz) := ck2
        go_quiet (fail)
        exact ⟨⟨_, _, _, _, _, _, _, _, _, _, _, _, _, _, _, _, _, _, _, _, _, rfl⟩, bdraw (Below.refl _ W2) nq⟩
      · obtain ⟨k', hk'⟩ : ∃ k', K = k' + 1 := ⟨K - 1, by omega⟩
        obtain ⟨p, rfl, hpl⟩ := hLp hKp
        rw [hk', Nat.add_sub_cancel] at hpl
        obtain rfl : kz = (k' : Int) + 1 := by omega
        have hkl0 := (List.getElem?_eq_some_iff.1 hpl).1
        have hd : (decide ((0 : Int) < (k' : Int) + 1)) = true := by simp only [decide_eq_true_eq]; omega
        have hkr : (k' : Int) ≤ 17592186044416 := by
          rw [places_length] at hkl0
          omega
        have hwr : IntKind.i64.wrap (k' : Int) = (k' : Int) := by rw [IntKind.wrap_i64]; omega
        clear hkz hKw ck hKp
        have hkl := (List.getElem?_eq_some_iff.1 hpl).1
        have hx : (ints (places (bl s)))[k']? = some (.int .i64 (p : Int)) := by rw [List.getElem?_map, hpl]; rfl
        have k1 : (0 : Int) ≤ (k' : Int) := by omega
        have k2 : (k' : Int) < ((places (bl s)).length : Int) := by omega
        have HX := Lib.hid hx; clear hx hpl
        go_region_with (go_at_call 21; refine (CP.out _).mono ?_; rintro e w3 ⟨v, rfl, hown, hbP⟩; obtain ⟨g, cap, rfl, hcell⟩ := own_cell hown HX.out; have hidx : ∀ W : World, (Instr.indexAt 29 (.slice (some ⟨g, 0, none⟩) (places (bl s)).length cap) (.int .i64 (k' : Int))).run Tryd.prog W = .ok (.pointer (some ⟨g, k', none⟩)) W := (fun W => (run_indexAt_slice W 29 ⟨g, 0, none⟩ _ cap .i64 (k' : Int) (by kernel_rfl)).trans (by rw [if_pos ⟨k1, k2⟩]; simp [go_sem, Addr.add]; omega)); have ck3 := (hbP.cell (p := ⟨w1.heap.size + 1, 0, none⟩) (by show w1.heap.size + 1 < W2.heap.size; omega)).trans ck2; have cl3 := (hbP.cell (p := ⟨w1.heap.size + 2, 0, none⟩) (by show w1.heap.size + 2 < W2.heap.size; omega)).trans cl2)
        all_goals (refine ⟨⟨_, _, _, _, _, _, _, _, _, _, _, _, _, _, _, _, _, _, _, _, _, rfl⟩, Below.trans (Below.refl _ W2).drew hbP⟩)
    intro e a' W3 hq
    cases e <;> try exact hq.elim
    obtain ⟨⟨u24, u25, u26, u27, u28, u29, u30, u31, u32, u33, u34, u35, u36, u37, u38, u39, u40, u41, u42, u43, u44, rfl⟩, hb3⟩ := hq
    gi_wp2
    have hb4 : Below W.heap.size W W3 := hb2.trans (hb3.mono hs2)
    have hs3 := hb4.size
    have cs4 : W3.cell? ⟨w1.heap.size, 0, none⟩ = some (.string s) := (hb4.cell (p := ⟨w1.heap.size, 0, none⟩) (by simp only; omega)).trans cs
    have hK4 : W3.heap[D]? = some (.deferred (some [])) := (hb4.block D hDl).trans hK
    have hbw4 : Below w.heap.size w W3 := hbw.trans (hb4.mono hbw.size)
    have hDl3 : D < W3.heap.size := by omega
    obtain ⟨W4, hW4⟩ : ∃ W4, W3.alloc (.cells #[.int .i64 0] 3) = W4 := ⟨_, rfl⟩
    have hs4 : W4.heap.size = W3.heap.size + 1 := by rw [← hW4]; simp
    have hBa : W4.heap[W3.heap.size]? = some (.cells #[.int .i64 0] 3 (0, 0)) := by rw [← hW4]; exact World.alloc_heap_new W3 _
    have hb34 : Below W3.heap.size W3 W4 := by rw [← hW4]; exact (Below.refl _ W3).alloc (Nat.le_refl _) _
    rw [hW4]
    clear hW4
    have cs5 : W4.cell? ⟨w1.heap.size, 0, none⟩ = some (.string s) := (hb34.cell (p := ⟨w1.heap.size, 0, none⟩) (by simp only; omega)).trans cs4
    clear hKw hLp ck cl c0 hb2 hb3 hb4 ck2 cl2 cs4 c0d
    refine wpIn_rangeFunc_ownF rfl (by omega) (gf := 46) (lb := #[.pointer (some ⟨w1.heap.size, 0, none⟩)]) rfl trivial (enters_of Tryd.func46 (by kernel_rfl) rfl)
      (All_stops Fence.wide _ trivial rfl (by omega) s w1.heap.size W4 (by omega) cs5) walksK_t walksK_b (Below.refl _ _) (fun _ => rfl)
      (fun (pre : List (Step s)) Wx => (Wx.cell? ⟨W3.heap.size, 0, none⟩ = some (.int .i64 (pre.length : Nat)) ∧ Wx.frozen? ⟨W3.heap.size, 0, none⟩ = false) ∧ Below W3.heap.size W3 Wx)
      (fun _ _ _ => False)
      (OwnFrom.and (Own.from (fun st A B row hs hg hr => ⟨cell_kept hs.1 hg hr, (frozen_kept hs.1 hg hr).trans hs.2⟩) _) (ownFrom_below (Nat.le_refl _) (by omega)))
      (fun _ _ _ _ _ hs _ _ => hs.elim)
      ⟨⟨Lib.cell_of_heap hBa 0, Lib.frozen_of_heap hBa 0⟩, hb34⟩
      (fun (x : Step s) => { tmps := #[.string s, .int .i64 n, undef, .pointer (some ⟨w.heap.size, 0, none⟩), .bool false, .func (.func 46) #[] #[.pointer (some ⟨w1.heap.size, 0, none⟩)], .pointer (some ⟨w1.heap.size + 1, 0, none⟩), .pointer (some ⟨w1.heap.size + 2, 0, none⟩), undef, .int .i64 (K : Nat), .pointer (some ⟨W3.heap.size, 0, none⟩), .bool true, .bool false, .string s, .func (.func 46) #[] #[.pointer (some ⟨w1.heap.size, 0, none⟩)], .func (.func 46) #[] #[.pointer (some ⟨w1.heap.size, 0, none⟩)], undef, undef, undef, undef, undef, undef, undef, undef, u24, u25, u26, u27, u28, u29, u30, u31, u32, u33, u34, u35, u36, u37, u38, u39, u40, u41, u42, u43, u44, .bool false, .func (.func 46) #[] #[.pointer (some ⟨w1.heap.size, 0, none⟩)], .int .i64 (x.1.1 : Int), .int .i32 (x.1.2 : Int), undef, undef, undef, undef, undef, undef], defers := [] }) ?a2 ?b2 ?d2 ?s2
    case a2 =>
      intro l x Wx K2 hK2
      gi_wp2
      exact hK2
    case b2 =>
      rintro l pre x Wx ⟨⟨ca, fa⟩, hbx⟩ hlen
      gi_wp2
      have hk : KeepsOthers Wx (Wx.setCell ⟨W3.heap.size, 0, none⟩ (.int .i64 ((pre.length : Int) + 1))) := KeepsOthers.setCell _ _ _
      refine ⟨hk, hk.walks, ⟨?_, ?_⟩, hbx.setCell (by simp) _⟩
      · rw [World.cell?_setCell_same' _ _ _ (by rw [ca]; rfl)]
        simp
      · rw [World.frozen?_setCell]; exact fa
    case d2 =>
      rintro D2 xs2 Wd hD2 hxs2 ⟨⟨ca, fa⟩, hbd⟩ hK2
      have hlen2 : xs2.length = (chop (bl s)).length := by
        have := congrArg List.length hxs2
        rwa [List.length_map, steps_length] at this
      rw [hlen2] at ca
      have hsd := hbd.size
      have hD2l := (Array.getElem?_eq_some_iff.1 hK2).1
      have hKd : Wd.heap[D]? = some (.deferred (some [])) := (hbd.block D hDl3).trans hK4
      gi_wp2
      have cad : Wd.drew.cell? ⟨W3.heap.size, 0, none⟩ = some (.int .i64 ((chop (bl s)).length : Nat)) := ca
      refine wpIn_mono (Q := fun e a' w' => match e with | .normal => ((∃ u51 u52 u53 u54, a' = { tmps := #[.string s, .int .i64 n, undef, .pointer (some ⟨w.heap.size, 0, none⟩), .bool true, .func (.func 46) #[] #[.pointer (some ⟨w1.heap.size, 0, none⟩)], .pointer (some ⟨w1.heap.size + 1, 0, none⟩), .pointer (some ⟨w1.heap.size + 2, 0, none⟩), undef, .int .i64 (K : Nat), .pointer (some ⟨W3.heap.size, 0, none⟩), .bool true, .bool false, .string s, .func (.func 46) #[] #[.pointer (some ⟨w1.heap.size, 0, none⟩)], .func (.func 46) #[] #[.pointer (some ⟨w1.heap.size, 0, none⟩)], undef, undef, undef, undef, undef, undef, undef, undef, u24, u25, u26, u27, u28, u29, u30, u31, u32, u33, u34, u35, u36, u37, u38, u39, u40, u41, u42, u43, u44, .bool false, .func (.func 46) #[] #[.pointer (some ⟨w1.heap.size, 0, none⟩)], undef, undef, undef, undef, u51, u52, u53, u54], defers := [{ target := .collected D2, args := #[] }, { target := .collected D, args := #[] }] }) ∧ Below Wd.heap.size Wd w') | _ => False) ?_ ?_
      · refine wpIn_wide.2 ?_
        go_region_with (go_at_call 19; refine (CC.out _).mono ?_; rintro e w6 ⟨rfl, hbC⟩; have ca6 := (hbC.cell (p := ⟨W3.heap.size, 0, none⟩) (by show W3.heap.size < Wd.heap.size; omega)).trans cad)
        all_goals (refine ⟨⟨_, _, _, _, rfl⟩, Below.trans (Below.refl _ Wd).drew hbC⟩)
      intro e a' W5 hq
      cases e <;> try exact hq.elim
      obtain ⟨⟨u51, u52, u53, u54, rfl⟩, hb5⟩ := hq
      have hs5 := hb5.size
      have hK25 : W5.heap[D2]? = some (.deferred (some [])) := (hb5.block D2 hD2l).trans hK2
      have hK5 : W5.heap[D]? = some (.deferred (some [])) := (hb5.block D (by omega)).trans hKd
      gi_wp2
      refine ⟨by simp, .inl ⟨_, _, rfl, run_takeDeferred hK25, ?_⟩⟩
      have hK6 : (W5.putObj D2 (.deferred none)).heap[D]? = some (.deferred (some [])) := (Below.block (belowK_b (w := W3) (n₀ := W3.heap.size) (Nat.le_refl _) W5 D2 _ _ (by omega) hK25 rfl rfl) D hDl3).trans hK5
      have hb6 : Below w.heap.size w W5 := hbw4.trans ((hbd.trans (hb5.mono hsd)).mono hbw4.size)
      have hsw := hbw4.size
      refine ⟨by simp, .inl ⟨_, _, rfl, run_takeDeferred hK6, ?_⟩⟩
      exact ⟨_, results_tmp rfl _ _ _, rfl, hb6.trans ((belowK_b (w := w) (Nat.le_refl _) W5 D2 _ _ (by omega) hK25 rfl rfl).trans (belowK_b (w := w) (Nat.le_refl _) _ D _ _ (by omega) hK6 rfl rfl))⟩
    case s2 =>
      rintro D2 c pre Wx _ _ h _
      exact h.elim
  case stop =>
    rintro D c pre W hD hpre ⟨⟨rfl, p', x, rfl, hnp, hmx, c0, cs, ck, cl⟩, hbw⟩ hK
    have hpl : raw p' <+: steps (bl s) := by
      obtain ⟨t, ht⟩ := hpre
      exact ⟨[x.1] ++ t, by rw [← ht]; simp [raw]⟩
    have hln : p'.length < (chop (bl s)).length := by
      obtain ⟨t, ht⟩ := hpre
      have := congrArg List.length ht
      rw [steps_length] at this
      simp only [List.length_append, List.length_map, List.length_singleton] at this
      omega
    have hKw : ((p'.length : Nat) : Int) = min (max n 0) ((chop (bl s)).length : Int) := by omega
    have hLp : 0 < p'.length → ∃ p : Nat, lastP (raw p') = p ∧ (places (bl s))[p'.length - 1]? = some p := fun h => by
      have := lastP_place (bl s) (raw p') hpl (by rw [List.length_map]; exact h)
      rwa [List.length_map] at this
    generalize lastP (raw p') = L at *
    generalize p'.length = K at *
    clear hmx hnp hpl hln
    have hDl := (Array.getElem?_eq_some_iff.1 hK).1
    have CC := Lib.hid (fun W => Count_any s W (by omega))
    have CP := Lib.hid (fun W => Places_any s W (by omega))
    gi_wp2
    have c0d : W.drew.cell? ⟨w.heap.size, 0, none⟩ = some (.int .i64 n) := c0
    refine wpIn_mono (Q := fun e a' w' => match e with | .normal => ((∃ u24 u25 u26 u27 u28, a' = { tmps := #[.string s, .int .i64 n, undef, .pointer (some ⟨w.heap.size, 0, none⟩), .bool false, .func (.func 46) #[] #[.pointer (some ⟨w1.heap.size, 0, none⟩)], .pointer (some ⟨w1.heap.size + 1, 0, none⟩), .pointer (some ⟨w1.heap.size + 2, 0, none⟩), undef, .int .i64 (K : Nat), undef, .bool true, .bool false, .string s, .func (.func 46) #[] #[.pointer (some ⟨w1.heap.size, 0, none⟩)], .func (.func 46) #[] #[.pointer (some ⟨w1.heap.size, 0, none⟩)], undef, undef, undef, undef, undef, undef, undef, undef, u24, u25, u26, u27, u28, undef, undef, undef, undef, undef, undef, undef, undef, undef, undef, undef, undef, undef, undef, undef, undef, undef, undef, undef, undef, undef, undef, undef, undef, undef, undef], defers := [{ target := .collected D, args := #[] }] }) ∧ Below W.heap.size W w') | _ => False) ?_ ?_
    · refine wpIn_wide.2 ?_
      have d0 : ∀ p : BW W, p.w'.cell? ⟨w.heap.size, 0, none⟩ = some (.int .i64 n) := fun p => p.cell (by simp only; omega) c0
      have c0d : W.drew.cell? ⟨w.heap.size, 0, none⟩ = some (.int .i64 n) := c0
      go_region_with (go_at_call 19; refine (CC.out _).mono ?_; rintro e w2 ⟨rfl, hbC⟩; have c02 := (hbC.cell (p := ⟨w.heap.size, 0, none⟩) (by show w.heap.size < W.heap.size; omega)).trans c0d)
      all_goals (refine ⟨⟨_, _, _, _, _, by rw [hKw]; rfl⟩, Below.trans (Below.refl _ W).drew hbC⟩)
    intro e a' W2 hq
    cases e <;> try exact hq.elim
    obtain ⟨⟨u24, u25, u26, u27, u28, rfl⟩, hb2⟩ := hq
    have hs2 := hb2.size
    have ck2 : W2.drew.cell? ⟨w1.heap.size + 1, 0, none⟩ = some (.int .i64 (K : Nat)) := (hb2.cell (p := ⟨w1.heap.size + 1, 0, none⟩) (by simp only; omega)).trans ck
    have cl2 : W2.drew.cell? ⟨w1.heap.size + 2, 0, none⟩ = some (.int .i64 L) := (hb2.cell (p := ⟨w1.heap.size + 2, 0, none⟩) (by simp only; omega)).trans cl
    gi_wp2
    refine wpIn_mono (Q := fun e a' w' => match e with | .normal => ((∃ u24 u25 u26 u27 u28 u29 u30 u31 u32 u33 u34 u35 u36 u37 u38 u39 u40 u41 u42 u43 u44, a' = { tmps := #[.string s, .int .i64 n, undef, .pointer (some ⟨w.heap.size, 0, none⟩), .bool false, .func (.func 46) #[] #[.pointer (some ⟨w1.heap.size, 0, none⟩)], .pointer (some ⟨w1.heap.size + 1, 0, none⟩), .pointer (some ⟨w1.heap.size + 2, 0, none⟩), undef, .int .i64 (K : Nat), undef, .bool true, .bool false, .string s, .func (.func 46) #[] #[.pointer (some ⟨w1.heap.size, 0, none⟩)], .func (.func 46) #[] #[.pointer (some ⟨w1.heap.size, 0, none⟩)], undef, undef, undef, undef, undef, undef, undef, undef, u24, u25, u26, u27, u28, u29, u30, u31, u32, u33, u34, u35, u36, u37, u38, u39, u40, u41, u42, u43, u44, .bool false, undef, undef, undef, undef, undef, undef, undef, undef, undef], defers := [{ target := .collected D, args := #[] }] }) ∧ Below W2.heap.size W2 w') | _ => False) ?_ ?_
    · refine wpIn_wide.2 ?_
      obtain ⟨kz, hkz⟩ : ∃ kz : Int, kz = ((K : Nat) : Int) := ⟨_, rfl⟩
      rw [← hkz] at ck2 ⊢
      rcases Nat.eq_zero_or_pos K with hK0 | hKp
      · have hd : (decide ((0 : Int) < kz)) = false := by simp; omega
        clear hkz hKw ck
        have ck9 : W2.cell? ⟨w1.heap.size + 1, 0, none⟩ = some (.int .i64 kz) := ck2
        go_quiet (fail)
        exact ⟨⟨_, _, _, _, _, _, _, _, _, _, _, _, _, _, _, _, _, _, _, _, _, rfl⟩, bdraw (Below.refl _ W2) nq⟩
      · obtain ⟨k', hk'⟩ : ∃ k', K = k' + 1 := ⟨K - 1, by omega⟩
        obtain ⟨p, rfl, hpl⟩ := hLp hKp
        rw [hk', Nat.add_sub_cancel] at hpl
        obtain rfl : kz = (k' : Int) + 1 := by omega
        have hkl0 := (List.getElem?_eq_some_iff.1 hpl).1
        have hd : (decide ((0 : Int) < (k' : Int) + 1)) = true := by simp only [decide_eq_true_eq]; omega
        have hkr : (k' : Int) ≤ 17592186044416 := by
          rw [places_length] at hkl0
          omega
        have hwr : IntKind.i64.wrap (k' : Int) = (k' : Int) := by rw [IntKind.wrap_i64]; omega
        clear hkz hKw ck hKp
        have hkl := (List.getElem?_eq_some_iff.1 hpl).1
        have hx : (ints (places (bl s)))[k']? = some (.int .i64 (p : Int)) := by rw [List.getElem?_map, hpl]; rfl
        have k1 : (0 : Int) ≤ (k' : Int) := by omega
        have k2 : (k' : Int) < ((places (bl s)).length : Int) := by omega
        have HX := Lib.hid hx; clear hx hpl
        go_region_with (go_at_call 21; refine (CP.out _).mono ?_; rintro e w3 ⟨v, rfl, hown, hbP⟩; obtain ⟨g, cap, rfl, hcell⟩ := own_cell hown HX.out; have hidx : ∀ W : World, (Instr.indexAt 29 (.slice (some ⟨g, 0, none⟩) (places (bl s)).length cap) (.int .i64 (k' : Int))).run Tryd.prog W = .ok (.pointer (some ⟨g, k', none⟩)) W := (fun W => (run_indexAt_slice W 29 ⟨g, 0, none⟩ _ cap .i64 (k' : Int) (by kernel_rfl)).trans (by rw [if_pos ⟨k1, k2⟩]; simp [go_sem, Addr.add]; omega)); have ck3 := (hbP.cell (p := ⟨w1.heap.size + 1, 0, none⟩) (by show w1.heap.size + 1 < W2.heap.size; omega)).trans ck2; have cl3 := (hbP.cell (p := ⟨w1.heap.size + 2, 0, none⟩) (by show w1.heap.size + 2 < W2.heap.size; omega)).trans cl2)
        all_goals (refine ⟨⟨_, _, _, _, _, _, _, _, _, _, _, _, _, _, _, _, _, _, _, _, _, rfl⟩, Below.trans (Below.refl _ W2).drew hbP⟩)
    intro e a' W3 hq
    cases e <;> try exact hq.elim
    obtain ⟨⟨u24, u25, u26, u27, u28, u29, u30, u31, u32, u33, u34, u35, u36, u37, u38, u39, u40, u41, u42, u43, u44, rfl⟩, hb3⟩ := hq
    gi_wp2
    have hb4 : Below W.heap.size W W3 := hb2.trans (hb3.mono hs2)
    have hs3 := hb4.size
    have cs4 : W3.cell? ⟨w1.heap.size, 0, none⟩ = some (.string s) := (hb4.cell (p := ⟨w1.heap.size, 0, none⟩) (by simp only; omega)).trans cs
    have hK4 : W3.heap[D]? = some (.deferred (some [])) := (hb4.block D hDl).trans hK
    have hbw4 : Below w.heap.size w W3 := hbw.trans (hb4.mono hbw.size)
    have hDl3 : D < W3.heap.size := by omega
    obtain ⟨W4, hW4⟩ : ∃ W4, W3.alloc (.cells #[.int .i64 0] 3) = W4 := ⟨_, rfl⟩
    have hs4 : W4.heap.size = W3.heap.size + 1 := by rw [← hW4]; simp
    have hBa : W4.heap[W3.heap.size]? = some (.cells #[.int .i64 0] 3 (0, 0)) := by rw [← hW4]; exact World.alloc_heap_new W3 _
    have hb34 : Below W3.heap.size W3 W4 := by rw [← hW4]; exact (Below.refl _ W3).alloc (Nat.le_refl _) _
    rw [hW4]
    clear hW4
    have cs5 : W4.cell? ⟨w1.heap.size, 0, none⟩ = some (.string s) := (hb34.cell (p := ⟨w1.heap.size, 0, none⟩) (by simp only; omega)).trans cs4
    clear hKw hLp ck cl c0 hb2 hb3 hb4 ck2 cl2 cs4 c0d
    refine wpIn_rangeFunc_ownF rfl (by omega) (gf := 46) (lb := #[.pointer (some ⟨w1.heap.size, 0, none⟩)]) rfl trivial (enters_of Tryd.func46 (by kernel_rfl) rfl)
      (All_stops Fence.wide _ trivial rfl (by omega) s w1.heap.size W4 (by omega) cs5) walksK_t walksK_b (Below.refl _ _) (fun _ => rfl)
      (fun (pre : List (Step s)) Wx => (Wx.cell? ⟨W3.heap.size, 0, none⟩ = some (.int .i64 (pre.length : Nat)) ∧ Wx.frozen? ⟨W3.heap.size, 0, none⟩ = false) ∧ Below W3.heap.size W3 Wx)
      (fun _ _ _ => False)
      (OwnFrom.and (Own.from (fun st A B row hs hg hr => ⟨cell_kept hs.1 hg hr, (frozen_kept hs.1 hg hr).trans hs.2⟩) _) (ownFrom_below (Nat.le_refl _) (by omega)))
      (fun _ _ _ _ _ hs _ _ => hs.elim)
      ⟨⟨Lib.cell_of_heap hBa 0, Lib.frozen_of_heap hBa 0⟩, hb34⟩
      (fun (x : Step s) => { tmps := #[.string s, .int .i64 n, undef, .pointer (some ⟨w.heap.size, 0, none⟩), .bool false, .func (.func 46) #[] #[.pointer (some ⟨w1.heap.size, 0, none⟩)], .pointer (some ⟨w1.heap.size + 1, 0, none⟩), .pointer (some ⟨w1.heap.size + 2, 0, none⟩), undef, .int .i64 (K : Nat), .pointer (some ⟨W3.heap.size, 0, none⟩), .bool true, .bool false, .string s, .func (.func 46) #[] #[.pointer (some ⟨w1.heap.size, 0, none⟩)], .func (.func 46) #[] #[.pointer (some ⟨w1.heap.size, 0, none⟩)], undef, undef, undef, undef, undef, undef, undef, undef, u24, u25, u26, u27, u28, u29, u30, u31, u32, u33, u34, u35, u36, u37, u38, u39, u40, u41, u42, u43, u44, .bool false, .func (.func 46) #[] #[.pointer (some ⟨w1.heap.size, 0, none⟩)], .int .i64 (x.1.1 : Int), .int .i32 (x.1.2 : Int), undef, undef, undef, undef, undef, undef], defers := [] }) ?a2 ?b2 ?d2 ?s2
    case a2 =>
      intro l x Wx K2 hK2
      gi_wp2
      exact hK2
    case b2 =>
      rintro l pre x Wx ⟨⟨ca, fa⟩, hbx⟩ hlen
      gi_wp2
      have hk : KeepsOthers Wx (Wx.setCell ⟨W3.heap.size, 0, none⟩ (.int .i64 ((pre.length : Int) + 1))) := KeepsOthers.setCell _ _ _
      refine ⟨hk, hk.walks, ⟨?_, ?_⟩, hbx.setCell (by simp) _⟩
      · rw [World.cell?_setCell_same' _ _ _ (by rw [ca]; rfl)]
        simp
      · rw [World.frozen?_setCell]; exact fa
    case d2 =>
      rintro D2 xs2 Wd hD2 hxs2 ⟨⟨ca, fa⟩, hbd⟩ hK2
      have hlen2 : xs2.length = (chop (bl s)).length := by
        have := congrArg List.length hxs2
        rwa [List.length_map, steps_length] at this
      rw [hlen2] at ca
      have hsd := hbd.size
      have hD2l := (Array.getElem?_eq_some_iff.1 hK2).1
      have hKd : Wd.heap[D]? = some (.deferred (some [])) := (hbd.block D hDl3).trans hK4
      gi_wp2
      have cad : Wd.drew.cell? ⟨W3.heap.size, 0, none⟩ = some (.int .i64 ((chop (bl s)).length : Nat)) := ca
      refine wpIn_mono (Q := fun e a' w' => match e with | .normal => ((∃ u51 u52 u53 u54, a' = { tmps := #[.string s, .int .i64 n, undef, .pointer (some ⟨w.heap.size, 0, none⟩), .bool true, .func (.func 46) #[] #[.pointer (some ⟨w1.heap.size, 0, none⟩)], .pointer (some ⟨w1.heap.size + 1, 0, none⟩), .pointer (some ⟨w1.heap.size + 2, 0, none⟩), undef, .int .i64 (K : Nat), .pointer (some ⟨W3.heap.size, 0, none⟩), .bool true, .bool false, .string s, .func (.func 46) #[] #[.pointer (some ⟨w1.heap.size, 0, none⟩)], .func (.func 46) #[] #[.pointer (some ⟨w1.heap.size, 0, none⟩)], undef, undef, undef, undef, undef, undef, undef, undef, u24, u25, u26, u27, u28, u29, u30, u31, u32, u33, u34, u35, u36, u37, u38, u39, u40, u41, u42, u43, u44, .bool false, .func (.func 46) #[] #[.pointer (some ⟨w1.heap.size, 0, none⟩)], undef, undef, undef, undef, u51, u52, u53, u54], defers := [{ target := .collected D2, args := #[] }, { target := .collected D, args := #[] }] }) ∧ Below Wd.heap.size Wd w') | _ => False) ?_ ?_
      · refine wpIn_wide.2 ?_
        go_region_with (go_at_call 19; refine (CC.out _).mono ?_; rintro e w6 ⟨rfl, hbC⟩; have ca6 := (hbC.cell (p := ⟨W3.heap.size, 0, none⟩) (by show W3.heap.size < Wd.heap.size; omega)).trans cad)
        all_goals (refine ⟨⟨_, _, _, _, rfl⟩, Below.trans (Below.refl _ Wd).drew hbC⟩)
      intro e a' W5 hq
      cases e <;> try exact hq.elim
      obtain ⟨⟨u51, u52, u53, u54, rfl⟩, hb5⟩ := hq
      have hs5 := hb5.size
      have hK25 : W5.heap[D2]? = some (.deferred (some [])) := (hb5.block D2 hD2l).trans hK2
      have hK5 : W5.heap[D]? = some (.deferred (some [])) := (hb5.block D (by omega)).trans hKd
      gi_wp2
      refine ⟨by simp, .inl ⟨_, _, rfl, run_takeDeferred hK25, ?_⟩⟩
      have hK6 : (W5.putObj D2 (.deferred none)).heap[D]? = some (.deferred (some [])) := (Below.block (belowK_b (w := W3) (n₀ := W3.heap.size) (Nat.le_refl _) W5 D2 _ _ (by omega) hK25 rfl rfl) D hDl3).trans hK5
      have hb6 : Below w.heap.size w W5 := hbw4.trans ((hbd.trans (hb5.mono hsd)).mono hbw4.size)
      have hsw := hbw4.size
      refine ⟨by simp, .inl ⟨_, _, rfl, run_takeDeferred hK6, ?_⟩⟩
      exact ⟨_, results_tmp rfl _ _ _, rfl, hb6.trans ((belowK_b (w := w) (Nat.le_refl _) W5 D2 _ _ (by omega) hK25 rfl rfl).trans (belowK_b (w := w) (Nat.le_refl _) _ D _ _ (by omega) hK6 rfl rfl))⟩
    case s2 =>
      rintro D2 c pre Wx _ _ h _
      exact h.elim
end Go.Proofs.YtlkabghpcjlohaaDoor
