/- Walks of package wrap: Columns, Fit, piece. -/
import Derived.Test.YtlkabghpcjlohaaW3
import Derived.Test.YtlkabghpcjlohaaA6
namespace Go.Proofs.Ytlkabghpcjlohaa
set_option linter.unusedVariables false
set_option linter.unusedSimpArgs false
open Go.RowKit Go.Lib Go.Shelf
attribute [local go_sem] Oper.semAt_some

theorem fit_stop : ∀ (cs : List (Nat × List UInt8)) (n : Int) (k : Nat) (c : Nat × List UInt8) (r : List (Nat × List UInt8)), cs.drop k = c :: r → (colsC (cs.take k) : Int) ≤ n → n < colsC (cs.take k) + colW (c.1 : Int) → fitC n cs = cs.take k
  | [], n, k, c, r, h, _, _ => by simp at h
  | d :: cs, n, 0, c, r, h, h1, h2 => by
    simp only [List.drop_zero, List.cons.injEq] at h
    obtain ⟨rfl, rfl⟩ := h
    unfold fitC
    rw [if_neg]
    · rfl
    · simp only [List.take_zero, colsC, colsR, List.map_nil, List.sum_nil] at h2
      omega
  | d :: cs, n, k + 1, c, r, h, h1, h2 => by
    rw [List.drop_succ_cons] at h
    rw [List.take_succ_cons, colsC_cons] at h1 h2
    unfold fitC
    rw [if_pos (by omega), List.take_succ_cons, fit_stop cs _ k c r h (by omega) (by omega)]
theorem fit_all : ∀ (cs : List (Nat × List UInt8)) (n : Int), (colsC cs : Int) ≤ n → fitC n cs = cs
  | [], n, _ => rfl
  | d :: cs, n, h => by
    rw [colsC_cons] at h
    unfold fitC
    rw [if_pos (by omega), fit_all cs _ (by omega)]
/-- what stands ahead of the rune that does not fit -/
theorem fit_at (l : List UInt8) (n : Int) (pre : List (Nat × Nat)) (x : Nat × Nat) (h : (pre ++ [x]) <+: steps l) (h1 : (colsR (pre.map (·.2)) : Int) ≤ n) (h2 : n < colsR (pre.map (·.2)) + colW (x.2 : Int)) :
    fitL l n = l.take x.1 := by
  obtain ⟨t, ht⟩ := h
  have hr : runes l = pre.map (·.2) ++ x.2 :: t.map (·.2) := by rw [← steps_runes, ← ht]; simp
  have hp : places l = pre.map (·.1) ++ x.1 :: t.map (·.1) := by rw [← steps_places, ← ht]; simp
  have hk : pre.length < (chop l).length := by
    rw [← runes_length, hr]; simp
  have hx : (places l)[pre.length]? = some x.1 := by rw [hp]; simp
  rw [places_at l pre.length hk] at hx
  have hx2 := Option.some.inj hx
  have hct : colsC ((chop l).take pre.length) = colsR (pre.map (·.2)) := by
    unfold colsC
    rw [List.map_take]
    congr 1
    have := congrArg (List.take pre.length) hr
    unfold runes at this
    rw [this]
    simp
  obtain ⟨c, r, hd⟩ : ∃ c r, (chop l).drop pre.length = c :: r := ⟨_, _, List.drop_eq_getElem_cons hk⟩
  have hc : c.1 = x.2 := by
    have h3 : (runes l).drop pre.length = c.1 :: r.map (·.1) := by unfold runes; rw [← List.map_drop, hd]; rfl
    rw [hr] at h3
    have h4 : (pre.map (·.2) ++ x.2 :: t.map (·.2)).drop pre.length = x.2 :: t.map (·.2) := by
      have := List.drop_left (l₁ := pre.map (·.2)) (l₂ := x.2 :: t.map (·.2))
      rwa [List.length_map] at this
    rw [h4] at h3
    exact (List.cons.inj h3).1.symm
  have hf := fit_stop (chop l) n pre.length c r hd (by rw [hct]; exact h1) (by rw [hct, hc]; exact h2)
  unfold fitL
  rw [hf, glue_take, hx2]

theorem keeps_below {W W' : World} (h : Below W.heap.size W W') : KeepsOthers W W' := ⟨h.size, fun k o hk _ => (h.block k (Array.getElem?_eq_some_iff.1 hk).1).trans hk⟩

set_option maxHeartbeats 4000000 in
set_option maxRecDepth 100000 in
theorem Columns_any (s : ByteArray) (w : World) (hs : s.size ≤ 17592186044416) :
    Calls Try.prog 28 #[.string s] w fun e w' => e = .returned (.int .i64 (colsL (bl s) : Nat)) ∧ Below w.heap.size w w' := by
  have hT : ∃ T, T = colsL (bl s) := ⟨_, rfl⟩
  obtain ⟨T, hT⟩ := hT
  rw [← hT]
  have hT2 : colsC (chop (bl s)) = T := by rw [hT]; rfl
  clear hT
  go_enter Try.func28, Try.ntmps28
  go_wp2
  go_loopg [3, 5] s.size (fun gf u3 _ wr => ∃ pos acc : Nat, u3 = .int .i64 acc ∧ wr.heap[w.heap.size]? = some (.stringIter s pos) ∧ Below w.heap.size w wr ∧ acc + colsC (chop ((bl s).drop pos)) = T ∧ acc ≤ 2 * pos ∧ pos ≤ s.size ∧ s.size ≤ pos + gf)
  case atStart => exact ⟨0, 0, rfl, World.iter_heap w s 0, (Below.refl _ w).alloc (Nat.le_refl _) _, by rw [List.drop_zero]; omega, by omega, by omega, by omega⟩
  case round =>
    obtain ⟨pos, acc, rfl, hit, hbw, hc, hac, hps, hfu⟩ := hrel
    by_cases hp : pos < s.size
    · obtain ⟨g', rfl⟩ : ∃ g', gk = g' + 1 := ⟨gk - 1, by omega⟩
      have hnx : ∀ ty, (Instr.next (.pointer (some ⟨w.heap.size, 0, none⟩)) true ty).run Try.prog wr = _ := fun ty => Lib.run_next_any_at wr w.heap.size s pos ty hit hp
      have hwd := Lib.width_pos s pos
      have hwl := width_le s pos hp
      have hrl := Lib.rune_le s pos
      have hit2 := Lib.iterAt_heap wr w.heap.size s pos (pos + (Utf8.decode s pos).2) hit
      have hbw2 := Lib.below_iterAt hbw (k := w.heap.size) (Nat.le_refl _) s (pos + (Utf8.decode s pos).2)
      rw [chop_at s pos hp, colsC_cons] at hc
      have hcw := colW_le ((Utf8.decode s pos).1 : Int)
      have cW := fun W => Width_any ((Utf8.decode s pos).1 : Int) W (by omega) (by omega)
      generalize colW ((Utf8.decode s pos).1 : Int) = q at *
      generalize Utf8.decode s pos = d at *
      have CW := Lib.hid cW; clear cW
      go_wp2_with (go_at_call 22; refine (CW.out _).mono ?_; rintro e w2 ⟨rfl, hb2⟩)
      have hit3 : w2.heap[w.heap.size]? = some (.stringIter s (pos + d.2)) := (hb2.block _ (Array.getElem?_eq_some_iff.1 hit2).1).trans hit2
      have hbw3 : Below w.heap.size w w2 := hbw2.trans (hb2.mono hbw2.size)
      go_roundg g'
      case measure => omega
      case rel => exact ⟨pos + d.2, acc + q, by go_num, hit3, hbw3, by omega, by omega, by omega, by omega⟩
    · have hnx : ∀ ty, (Instr.next (.pointer (some ⟨w.heap.size, 0, none⟩)) true ty).run Try.prog wr = _ := fun ty => Lib.run_next_end_at wr w.heap.size s pos ty hit hp
      rw [chop_end s pos hp] at hc
      have e0 : colsC [] = 0 := rfl
      rw [e0] at hc
      go_wp2
      go_ret
      exact ⟨ret_i (by omega), hbw⟩

theorem below_frozen {w w' : World} (h : Below w.heap.size w w') {a : Addr} (ha : a.block < w.heap.size) : w'.frozen? a = w.frozen? a := by
  unfold World.frozen?
  rw [h.block a.block ha]
theorem results_cell_str {fn : Func} {p : Tmp} {B : Nat} {s : ByteArray} {w : World} {tmps : Array Value} (h : fn.results = #[.cell p 9]) (hp : tmps.getD p undef = .pointer (some ⟨B, 0, none⟩)) (hc : w.cell? ⟨B, 0, none⟩ = some (.string s)) :
    (results fn tmps).run Try.prog w = .ok (.string s) w := by
  have hp' : tmps[p]?.getD undef = .pointer (some ⟨B, 0, none⟩) := by simpa using hp
  simp [results, h, hp', go_sem, hc]

set_option maxHeartbeats 8000000 in
set_option maxRecDepth 100000 in
theorem Fit_any (s : ByteArray) (n : Int) (w : World) (hn0 : -9223372036854775808 ≤ n) (hn1 : n ≤ 9223372036854775807) (hs : s.size ≤ 17592186044416) :
    Calls Try.prog 29 #[.string s, .int .i64 n] w fun e w' => e = .returned (.string ⟨(fitL (bl s) n).toArray⟩) ∧ Below w.heap.size w w' := by
  have hle := chop_length_le (bl s)
  rw [bl_length] at hle
  by_cases hneg : n < 0
  · have e : fitL (bl s) n = [] := by unfold fitL; rw [fitC_neg n hneg]; rfl
    rw [e]
    have hcell : (((w.alloc (.cells #[.string s] 9)).alloc (.cells #[.int .i64 n] 3)).alloc (.cells #[.string ⟨#[]⟩] 9)).cell? ⟨w.heap.size + 1 + 1, 0, none⟩ = some (.string ⟨#[]⟩) := by
      have := World.cell?_alloc_new ((w.alloc (.cells #[.string s] 9)).alloc (.cells #[.int .i64 n] 3)) #[.string ⟨#[]⟩] 9 0
      simp only [World.size_alloc] at this
      rw [this]; rfl
    go_enter Try.func29, Try.ntmps29
    go_wp2
    (try simp only [Exit.inBlock, Exit.then])
    refine bodyPost_ret (results_cell_str rfl rfl hcell) rfl ?_
    exact ⟨rfl, (((Below.refl _ w).alloc (Nat.le_refl _) _).alloc (by simp) _).alloc (by simp; omega) _⟩
  have HF : Hid (∀ (pre : List (Nat × Nat)) (x : Nat × Nat), (pre ++ [x]) <+: steps (bl s) → (colsR (pre.map (·.2)) : Int) ≤ n → n < colsR (pre.map (·.2)) + colW (x.2 : Int) → fitL (bl s) n = (bl s).take x.1) := Lib.hid (fun pre x => fit_at (bl s) n pre x)
  have HA : Hid ((colsR (runes (bl s)) : Int) ≤ n → fitL (bl s) n = bl s) := Lib.hid (fun h => by unfold fitL; rw [fit_all _ n h, glue_chop])
  refine (callsIn_wide (n := 6)).1 ?_
  refine callsIn_of_wp_marks Try.func29 rfl trivial ?_ rfl
  simp only [Try.ntmps29, List.size_toArray, List.length_cons, List.length_nil, Nat.reduceAdd, Nat.reduceSub, Array.replicate_succ, Array.replicate_zero, List.push_toArray, List.append_toArray, List.nil_append, List.cons_append]
  gi_wp2_with (refine ⟨trivial, ?_⟩; gi_at_call 72; refine (All_in Fence.wide _ trivial rfl _ _).mono ?_; rintro e w' ⟨rfl, rfl⟩)
  obtain ⟨W0, hW0⟩ : ∃ W0, (((w.alloc (.cells #[.string s] 9)).alloc (.cells #[.int .i64 n] 3)).alloc (.cells #[.string ⟨#[]⟩] 9)).alloc (.cells #[.string s] 9) = W0 := ⟨_, rfl⟩
  have hs0 : W0.heap.size = w.heap.size + 4 := by rw [← hW0]; simp
  have hB0 : W0.heap[w.heap.size]? = some (.cells #[.string s] 9 (0, 0)) := by
    rw [← hW0]; exact ((Below.heap_alloc _ _ _ (by simp; omega)).trans ((Below.heap_alloc _ _ _ (by simp; omega)).trans (Below.heap_alloc _ _ _ (by simp)))).trans (World.alloc_heap_new w _)
  have hB1 : W0.heap[w.heap.size + 1]? = some (.cells #[.int .i64 n] 3 (0, 0)) := by
    rw [← hW0]; refine ((Below.heap_alloc _ _ _ (by simp only [World.size_alloc]; omega)).trans (Below.heap_alloc _ _ _ (by simp))).trans ?_
    have := World.alloc_heap_new (w.alloc (.cells #[.string s] 9)) (.cells #[.int .i64 n] 3); rwa [World.size_alloc] at this
  have hB2 : W0.heap[w.heap.size + 2]? = some (.cells #[.string ⟨#[]⟩] 9 (0, 0)) := by
    rw [← hW0]; refine (Below.heap_alloc _ _ _ (by simp)).trans ?_
    have := World.alloc_heap_new ((w.alloc (.cells #[.string s] 9)).alloc (.cells #[.int .i64 n] 3)) (.cells #[.string ⟨#[]⟩] 9); rwa [World.size_alloc, World.size_alloc] at this
  have hB3 : W0.heap[w.heap.size + 3]? = some (.cells #[.string s] 9 (0, 0)) := by
    rw [← hW0]
    have := World.alloc_heap_new (((w.alloc (.cells #[.string s] 9)).alloc (.cells #[.int .i64 n] 3)).alloc (.cells #[.string ⟨#[]⟩] 9)) (.cells #[.string s] 9); rwa [World.size_alloc, World.size_alloc, World.size_alloc] at this
  have hBW : Below w.heap.size w W0 := by rw [← hW0]; exact ((((Below.refl _ w).alloc (Nat.le_refl _) _).alloc (by simp) _).alloc (by simp; omega) _).alloc (by simp; omega) _
  rw [hW0]
  clear hW0
  refine wpIn_rangeFunc_ownF rfl (by omega) (gf := 101) (lb := #[.pointer (some ⟨w.heap.size + 3, 0, none⟩)]) rfl trivial (enters_of Try.func101 (by kernel_rfl) rfl)
    (All_stops Fence.wide _ trivial rfl (by omega) s (w.heap.size + 3) W0 (by omega) (Lib.cell_of_heap hB3 0)) walksK_t walksK_b (Below.refl _ _) (fun _ => rfl)
    (fun (pre : List (Step s)) W => (W.cell? ⟨w.heap.size, 0, none⟩ = some (.string s) ∧ W.cell? ⟨w.heap.size + 1, 0, none⟩ = some (.int .i64 (n - colsR ((raw pre).map (·.2)))) ∧ W.frozen? ⟨w.heap.size + 1, 0, none⟩ = false ∧ W.cell? ⟨w.heap.size + 2, 0, none⟩ = some (.string ⟨#[]⟩) ∧ W.frozen? ⟨w.heap.size + 2, 0, none⟩ = false ∧ (colsR ((raw pre).map (·.2)) : Int) ≤ n) ∧ Below w.heap.size w W)
    (fun c (pre : List (Step s)) W => (c = .ret ∧ ∃ (p' : List (Step s)) (x : Step s), pre = p' ++ [x] ∧ (colsR ((raw p').map (·.2)) : Int) ≤ n ∧ n < colsR ((raw p').map (·.2)) + colW (x.1.2 : Int) ∧ W.cell? ⟨w.heap.size + 2, 0, none⟩ = some (.string (s.extract 0 x.1.1))) ∧ Below w.heap.size w W)
    (OwnFrom.and (Own.from (fun st A B row hs hg hr => ⟨cell_kept hs.1 hg hr, cell_kept hs.2.1 hg hr, (frozen_kept hs.2.1 hg hr).trans hs.2.2.1, cell_kept hs.2.2.2.1 hg hr, (frozen_kept hs.2.2.2.1 hg hr).trans hs.2.2.2.2.1, hs.2.2.2.2.2⟩) _) (ownFrom_below (Nat.le_refl _) (by omega)))
    (fun c => OwnFrom.and (Own.from (fun st A B row hs hg hr => ⟨hs.1, by obtain ⟨_, p', x, e1, e2, e3, e4⟩ := hs; exact ⟨p', x, e1, e2, e3, cell_kept e4 hg hr⟩⟩) _) (ownFrom_below (Nat.le_refl _) (by omega)))
    ⟨⟨Lib.cell_of_heap hB0 0, by rw [Lib.cell_of_heap hB1]; simp [colsR], Lib.frozen_of_heap hB1 0, Lib.cell_of_heap hB2 0, Lib.frozen_of_heap hB2 0, by simp only [raw, List.map_nil, colsR, List.sum_nil]; omega⟩, hBW⟩
    (fun (x : Step s) => { tmps := #[.string s, .int .i64 n, .pointer (some ⟨w.heap.size, 0, none⟩), .pointer (some ⟨w.heap.size + 1, 0, none⟩), .pointer (some ⟨w.heap.size + 2, 0, none⟩), .int .i64 (x.1.1 : Int), .int .i32 (x.1.2 : Int), undef, .int .i64 n, .bool false, .string s, .func (.func 101) #[] #[.pointer (some ⟨w.heap.size + 3, 0, none⟩)], .int .i64 (x.1.1 : Int), .int .i32 (x.1.2 : Int), undef, undef, undef, undef, undef, undef, undef, undef, undef, undef, undef, undef], defers := [] }) ?assign ?body ?done ?stop
  case assign =>
    intro l x W K hK
    gi_wp2
    exact hK
  case body =>
    rintro l pre x W ⟨⟨c0, c1, f1, c2, f2, hcl⟩, hbw⟩ hlen
    obtain ⟨⟨p, r⟩, hp, hr⟩ := x
    have hsz : w.heap.size + 3 ≤ W.heap.size := by
      rcases Nat.lt_or_ge (w.heap.size + 2) W.heap.size with h | h
      · omega
      · exfalso
        simp [World.cell?, Array.getElem?_eq_none h] at c2
    have hcw := colW_le (r : Int)
    have cW := fun W => Width_any (r : Int) W (by omega) (by omega)
    have hcr : colsR ((raw (pre ++ [(⟨(p, r), hp, hr⟩ : Step s)])).map (·.2)) = colsR ((raw pre).map (·.2)) + colW (r : Int) := by
      rw [raw, List.map_append, List.map_append, colsR_append]
      simp [colsR]
    generalize hC : colsR ((raw pre).map (·.2)) = C at *
    have HC := Lib.hid hC; clear hC
    generalize hqq : colW (r : Int) = q at *
    have HQ := Lib.hid hqq; clear hqq
    have HR := Lib.hid hcr; clear hcr
    have CW := Lib.hid cW; clear cW
    have hp0 : (0 : Int) ≤ (p : Int) := by omega
    have hp1 : (p : Int) ≤ (s.size : Int) := by simp only at hp; omega
    by_cases hq : (q : Int) ≤ n - C
    · gi_wp2_with (refine ⟨trivial, ?_⟩; gi_at_call 22; refine (CallsIn.inRound l (callsIn_wide.2 (CW.out _))).mono ?_; rintro e W1 ⟨rfl, hb1⟩; have d0 := (hb1.cell (p := ⟨w.heap.size, 0, none⟩) (by simp only; omega)).trans c0; have d1 := (hb1.cell (p := ⟨w.heap.size + 1, 0, none⟩) (by simp only; omega)).trans c1; have d2 := (hb1.cell (p := ⟨w.heap.size + 2, 0, none⟩) (by simp only; omega)).trans c2; have e1 := (below_frozen hb1 (a := ⟨w.heap.size + 1, 0, none⟩) (by simp only; omega)).trans f1; have e2 := (below_frozen hb1 (a := ⟨w.heap.size + 2, 0, none⟩) (by simp only; omega)).trans f2)
      have hk : KeepsOthers W (W1.setCell ⟨w.heap.size + 1, 0, none⟩ (.int .i64 (n - (C : Int) - (q : Int)))) := (keeps_below hb1).trans (KeepsOthers.setCell _ _ _)
      refine ⟨hk, hk.walks, ⟨(World.cell?_setCell_other _ _ _ _ (by simp)).trans d0, ?_, (World.frozen?_setCell _ _ _ _).trans e1, (World.cell?_setCell_other _ _ _ _ (by simp)).trans d2, (World.frozen?_setCell _ _ _ _).trans e2, ?_⟩, (hbw.trans (hb1.mono hbw.size)).setCell (by simp) _⟩
      · rw [World.cell?_setCell_same' _ _ _ (by rw [d1]; rfl), HR.out]
        congr 2
        omega
      · rw [HR.out]; omega
    · gi_wp2_with (refine ⟨trivial, ?_⟩; gi_at_call 22; refine (CallsIn.inRound l (callsIn_wide.2 (CW.out _))).mono ?_; rintro e W1 ⟨rfl, hb1⟩; have d0 := (hb1.cell (p := ⟨w.heap.size, 0, none⟩) (by simp only; omega)).trans c0; have d1 := (hb1.cell (p := ⟨w.heap.size + 1, 0, none⟩) (by simp only; omega)).trans c1; have d2 := (hb1.cell (p := ⟨w.heap.size + 2, 0, none⟩) (by simp only; omega)).trans c2; have e1 := (below_frozen hb1 (a := ⟨w.heap.size + 1, 0, none⟩) (by simp only; omega)).trans f1; have e2 := (below_frozen hb1 (a := ⟨w.heap.size + 2, 0, none⟩) (by simp only; omega)).trans f2)
      have hk : KeepsOthers W (W1.setCell ⟨w.heap.size + 2, 0, none⟩ (.string (s.extract 0 p))) := (keeps_below hb1).trans (KeepsOthers.setCell _ _ _)
      refine ⟨hk, ⟨rfl, pre, ⟨(p, r), hp, hr⟩, rfl, by rw [HC.out]; exact hcl, by rw [HC.out, HQ.out]; omega, World.cell?_setCell_same' _ _ _ (by rw [d2]; rfl)⟩, (hbw.trans (hb1.mono hbw.size)).setCell (by simp) _⟩
  case done =>
    rintro D xs W hD hxs ⟨⟨c0, c1, f1, c2, f2, hcl⟩, hbw⟩ hK
    have hfx : fitL (bl s) n = bl s := HA.out (by rw [← steps_runes, ← hxs]; exact hcl)
    have HX := Lib.hid hfx; clear hfx
    gi_wp2
    have hK' := (KeepsOthers.setCell W ⟨w.heap.size + 1 + 1, 0, none⟩ (.string s)).same D _ hK rfl
    refine ⟨by simp, .inl ⟨_, _, rfl, run_takeDeferred hK', ?_⟩⟩
    have hc5 := cell_kept (World.cell?_setCell_same' W ⟨w.heap.size + 1 + 1, 0, none⟩ (.string s) (by rw [show w.heap.size + 1 + 1 = w.heap.size + 2 from rfl, c2]; rfl)) (grownBy_putObj' _ D (.deferred none)) (fun r e => by cases e; exact ⟨_, hK', rfl⟩)
    exact ⟨_, results_cell_str rfl rfl hc5, ret_s (by rw [HX.out]), (hbw.setCell (p := ⟨w.heap.size + 1 + 1, 0, none⟩) (by simp only; omega) _).trans (belowK_b (w := w) (Nat.le_refl _) _ D _ _ (by omega) hK' rfl rfl)⟩
  case stop =>
    rintro D c pre W hD hpre ⟨⟨rfl, p', x, rfl, e1, e2, c2⟩, hbw⟩ hK
    have hfx := HF.out (raw p') x.1 (by have := hpre; simpa [raw] using this) e1 e2
    have HX := Lib.hid hfx; clear hfx
    have hxs := x.2.1
    gi_wp2
    refine ⟨by simp, .inl ⟨_, _, rfl, run_takeDeferred hK, ?_⟩⟩
    have hc5 := cell_kept c2 (grownBy_putObj' _ D (.deferred none)) (fun r e => by cases e; exact ⟨_, hK, rfl⟩)
    refine ⟨_, results_cell_str rfl rfl hc5, ret_s ?_, hbw.trans (belowK_b (w := w) (Nat.le_refl _) W D _ _ (by omega) hK rfl rfl)⟩
    rw [HX.out]
    apply bl_inj
    show bl (s.extract 0 x.1.1) = bl ⟨((bl s).take x.1.1).toArray⟩
    rw [bl_to, bl_mk]
end Go.Proofs.Ytlkabghpcjlohaa
