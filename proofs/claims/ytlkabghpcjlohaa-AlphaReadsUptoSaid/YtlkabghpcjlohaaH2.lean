/- Package alpha: New, of every list of up to the machine's bound. -/
import Derived.Test.YtlkabghpcjlohaaH1
import Derived.Test.YtlkabghpcjlohaaQ7
import Derived.Test.YtlkabghpcjlohaaG4
import Derived.StringKeys
namespace Go.Proofs.Ytlkabghpcjlohaa
set_option linter.unusedVariables false
set_option linter.unusedSimpArgs false
open Go.RowKit Go.Lib Go.Maps Go.Sort Go.Shelf Go.WideElems Go.WideMaps

theorem clone_strs (v : Value) (xs : List (List UInt8)) (B : Nat) (w : World) (hv : Sl w B v (strs xs)) (hn : 0 < xs.length) (hb : xs.length ≤ 1000) :
    Calls Try.prog 82 #[v] w fun e w' => ∃ v', e = .returned v' ∧ w'.ownsRow w.heap.size 9 1 v' xs.length (strs xs) ∧ Below w.heap.size w w' := by
  have hv0 := hv
  obtain ⟨A, c, rfl, hc, hA⟩ := hv
  obtain ⟨b, off, rfl, hlt, hcell⟩ := hv0.addr (by rw [List.length_map]; exact hn)
  rw [List.length_map]
  have h := Try.slices_Clone_string b off xs.length c (xs.map fun x => (⟨x.toArray⟩ : ByteArray)) w (by simp) (by omega) (fun j hj => by
    rw [List.length_map] at hj
    have := hcell j _ (by rw [List.getElem?_map, List.getElem?_eq_getElem hj]; rfl)
    rw [this]
    simp [List.getD, List.getElem?_eq_getElem hj])
  refine h.mono fun e w' ⟨v', he, ho, _, hb'⟩ => ⟨v', he, ?_, hb'⟩
  rw [List.take_of_length_le (by simp), List.map_map] at ho
  exact ho

/-- the worlds of a round of New -/
structure NW (P M : Nat) (xs : List (List UInt8)) (k : Nat) (nmv lov : Value) (W : World) : Prop where
  blk : W.heap[P]? = some (.cells #[nmv, lov, .map (some M)] 99 (0, 0))
  own : W.ownsRow (P + 1) 3 1 lov k ((List.range k).map fun (n : Nat) => Value.int .i64 (n : Int))
  mp : W.ownsMap Try.prog 9 (Go.plainElem Try.prog 3) M k (mapD xs k)
  lt : M < P
theorem own_cell' {w : World} {B e n k : Nat} {v u : Value} {xs : List Value} (h : w.ownsRow B e 1 v n xs) (hk : xs[k]? = some u) : ∃ g cap, v = .slice (some ⟨g, 0, none⟩) n cap ∧ w.cell? ⟨g, k, none⟩ = some u := by
  have hl : xs.length = n := by simpa using h.1
  have hlt := (List.getElem?_eq_some_iff.1 hk).1
  rcases h.2 with ⟨hv, h0⟩ | ⟨g, cap, cur, hv, _⟩
  · omega
  · refine ⟨g, cap, hv, ?_⟩
    have := h.cells (g := g) (by rw [hv]; rfl) k u hk
    rw [← this]; congr 1; simp [Addr.add]
theorem NW.ltP {P M : Nat} {xs : List (List UInt8)} {k : Nat} {nmv lov : Value} {W : World} (h : NW P M xs k nmv lov W) : P < W.heap.size := lt_of_block h.blk
theorem NW.below {P M : Nat} {xs : List (List UInt8)} {k : Nat} {nmv lov : Value} {W W' : World} (h : NW P M xs k nmv lov W) (hb : Below W.heap.size W W') : NW P M xs k nmv lov W' := by
  refine ⟨(hb.block P h.ltP).trans h.blk, ?_, ?_, h.lt⟩
  · exact h.own.kept (row := none) ⟨hb.os, hb.tape, hb.output, hb.size, fun k hk _ => hb.block k hk⟩ (by
      rcases Classical.em (lov.ownBlock = none) with h1 | h1
      · exact .inl h1
      · exact .inr h1)
  · exact h.mp.kept (row := none) ⟨hb.os, hb.tape, hb.output, hb.size, fun k hk _ => hb.block k hk⟩ (by simp)
theorem NW.put {P M : Nat} {xs : List (List UInt8)} {k : Nat} {nmv lov : Value} {W W' : World} (h : NW P M xs k nmv lov W) (hm : W'.ownsMap Try.prog 9 (Go.plainElem Try.prog 3) M (k + 1) (mapD xs (k + 1))) (hg : W.grownBy W' (some M)) :
    W'.heap[P]? = some (.cells #[nmv, lov, .map (some M)] 99 (0, 0)) ∧ W'.ownsRow (P + 1) 3 1 lov k ((List.range k).map fun (n : Nat) => Value.int .i64 (n : Int)) := by
  have hl := h.lt
  refine ⟨(hg.block P h.ltP (by simp; omega)).trans h.blk, h.own.kept hg ?_⟩
  rcases Classical.em (lov.ownBlock = none) with h1 | h1
  · exact .inl h1
  · refine .inr (fun e => ?_)
    have := (h.own.lt M e).1
    omega
theorem Sl.own {w : World} {B e n : Nat} {A : Option Addr} {c : Nat} {xs : List Value} (h : w.ownsRow B e 1 (.slice A n c) n xs) : Sl w w.heap.size (.slice A n c) xs := Sl.of_own h
/-- behind the append and the store of its value -/
theorem NW.app {P M : Nat} {xs : List (List UInt8)} {k : Nat} {nmv lov lov' : Value} {W W2 : World} (hb : W.heap[P]? = some (.cells #[nmv, lov, .map (some M)] 99 (0, 0)))
    (ho : W.ownsRow (P + 1) 3 1 lov k ((List.range k).map fun (n : Nat) => Value.int .i64 (n : Int))) (hm : W.ownsMap Try.prog 9 (Go.plainElem Try.prog 3) M (k + 1) (mapD xs (k + 1))) (hl : M < P) (hP : P < W.heap.size)
    (ho2 : W2.ownsRow (P + 1) 3 1 lov' (k + 1) ((List.range (k + 1)).map fun (n : Nat) => Value.int .i64 (n : Int))) (hg : W.grownBy W2 lov.ownBlock) : NW P M xs (k + 1) nmv lov' (W2.setCell ⟨P, 1, none⟩ lov') := by
  have h1 : ∀ j, j < P + 1 → some j ≠ lov.ownBlock := fun j hj e => by have := (ho.lt j e.symm).1; omega
  refine ⟨?_, ownsRow_setCell_below ho2 (by simp) _, ?_, hl⟩
  · have hb2 := (hg.block P hP (h1 P (by omega))).trans hb
    exact heap_setCell_same W2 P 1 _ _ lov' hb2
  · have h2 := hm.kept hg (h1 M (by omega))
    exact h2.setCell (a := ⟨P, 1, none⟩) (by simp only; omega) _

theorem sw_block {enc : Nat → Value} {w0 W : World} {blk off : Nat} {dk : Array Nat} (h : SW enc w0 blk off dk W) {b : Nat} (hb : b < w0.heap.size) (hne : b ≠ blk) : W.heap[b]? = w0.heap[b]? := by
  obtain ⟨n, os, rfl⟩ := h
  show ((mapBlock (Sort.ahead w0 n) blk _).heap ++ os)[b]? = _
  rw [Array.getElem?_append_left (by show b < (w0.heap.modify blk _).size; simpa using hb)]
  show (w0.heap.modify blk _)[b]? = _
  rw [Array.getElem?_modify, if_neg (fun e => hne e.symm)]
theorem sw_below {enc : Nat → Value} {w0 W : World} {blk off : Nat} {dk : Array Nat} (h : SW enc w0 blk off dk W) {B : Nat} (hB : B ≤ blk) (hblk : blk < w0.heap.size) : Below B w0 W := by
  refine ⟨?_, ?_, ?_, h.le, fun k hk => sw_block h (by omega) (by omega)⟩ <;> (obtain ⟨n, os, rfl⟩ := h; rfl)
theorem encN_one : OneCell encN := fun _ => rfl

theorem infoIntH : (Try.prog.info? 3).map (fun i => (i.zero, i.size, i.bytes)) = some (some (.int .i64 0), 1, 8) := by kernel_rfl
theorem ret3_ {a : Value} {b c : Int} {b' c' : Int} (h1 : b = b') (h2 : c = c') : Ending.returned (.tuple #[a, .int .i64 b, .int .i64 c]) = Ending.returned (.tuple #[a, .int .i64 b', .int .i64 c']) := by rw [h1, h2]
/-- what New answers -/
def NewPost (w : World) (xs : List (List UInt8)) (e : Ending) (w' : World) : Prop :=
  Below w.heap.size w w' ∧ (((newL xs).2 ≠ 0 ∧ e = .returned (.tuple #[.pointer none, .int .i64 ((newL xs).1 : Nat), .int .i64 (newL xs).2])) ∨
    ((newL xs).2 = 0 ∧ ∃ (p : Nat) (o : List Nat), w.heap.size ≤ p ∧ e = .returned (.tuple #[.pointer (some ⟨p, 0, none⟩), .int .i64 0, .int .i64 0]) ∧ Ord xs o ∧ AlphAt w'.heap.size p xs o w'))

/-- the blocks of an alphabet lie from lo on -/
structure AlphLo (lo p : Nat) (w : World) : Prop where
  p0 : lo ≤ p
  n0 : ∀ A n c, w.cell? ⟨p, 0, none⟩ = some (.slice (some A) n c) → lo ≤ A.block
  n1 : ∀ A n c, w.cell? ⟨p, 1, none⟩ = some (.slice (some A) n c) → lo ≤ A.block
  m : ∀ M, w.cell? ⟨p, 2, none⟩ = some (.map (some M)) → lo ≤ M
def NewPostLo (w : World) (xs : List (List UInt8)) (e : Ending) (w' : World) : Prop :=
  Below w.heap.size w w' ∧ (((newL xs).2 ≠ 0 ∧ e = .returned (.tuple #[.pointer none, .int .i64 ((newL xs).1 : Nat), .int .i64 (newL xs).2])) ∨
    ((newL xs).2 = 0 ∧ ∃ (p : Nat) (o : List Nat), w.heap.size ≤ p ∧ e = .returned (.tuple #[.pointer (some ⟨p, 0, none⟩), .int .i64 0, .int .i64 0]) ∧ Ord xs o ∧ AlphAt w'.heap.size p xs o w' ∧ AlphLo w.heap.size p w'))

set_option maxHeartbeats 16000000 in
set_option maxRecDepth 100000 in
theorem New_lo (v : Value) (xs : List (List UInt8)) (B : Nat) (w : World) (hv : Sl w B v (strs xs)) (hB : B ≤ w.heap.size) (hz : ∀ x ∈ xs, x.length ≤ 17592186044416) (hx : xs.length ≤ 17592186044416) :
    Calls Try.prog 47 #[v] w (NewPostLo w xs) := by
  obtain ⟨i0, hi, hz0, hz1, hz2⟩ := info_parts infoIntH
  have hv0 := hv
  obtain ⟨A, c, rfl, hc, hA⟩ := hv
  rw [List.length_map] at hv0 hc ⊢
  clear hA hc
  by_cases hmany : xs.length < 1 ∨ 40 < xs.length
  · have hE : newL xs = (0, 32) := by unfold newL; rw [if_pos hmany]
    have HE := Lib.hid hE; clear hE
    rcases hmany with h1 | h1
    · have t1 : (xs.length : Int) < 1 := by omega
      go_enter Try.func47, Try.ntmps47
      go_wp2
      go_ret3
      exact ⟨(Below.refl _ w).alloc (Nat.le_refl _) _, .inl ⟨by rw [HE.out]; simp, by rw [HE.out]; rfl⟩⟩
    · have t1 : ¬ (xs.length : Int) < 1 := by omega
      have t2 : (40 : Int) < (xs.length : Int) := by omega
      go_enter Try.func47, Try.ntmps47
      go_wp2
      go_ret3
      exact ⟨(Below.refl _ w).alloc (Nat.le_refl _) _, .inl ⟨by rw [HE.out]; simp, by rw [HE.out]; rfl⟩⟩
  · have hn1 : 1 ≤ xs.length := by omega
    have hn2 : xs.length ≤ 40 := by omega
    have hE : newL xs = newFrom xs 0 xs.length := by unfold newL; rw [if_neg hmany]
    have HE := Lib.hid hE; clear hE hmany
    have t1 : ¬ (xs.length : Int) < 1 := by omega
    have t2 : ¬ (40 : Int) < (xs.length : Int) := by omega
    have cCl := clone_strs (.slice A xs.length c) xs B (w.alloc (.cells #[.slice A xs.length c] 25)) (hv0.below (((Below.refl B w).alloc hB _))) hn1 (by omega)
    have CCl := Lib.hid cCl; clear cCl
    have HV := Lib.hid hv0; clear hv0
    have HZ := Lib.hid hz; clear hz
    have hmm := @run_makeMap Try.prog
    go_enter Try.func47, Try.ntmps47
    go_wp2_with (go_at_call 82; refine CCl.out.mono ?_; rintro e w1 ⟨nmv, rfl, hown1, hb1⟩; obtain ⟨An, cn, rfl⟩ := own_form hown1; have cb1 := (hb1.cell (p := ⟨w.heap.size, 0, none⟩) (by simp)).trans (Lib.cell_of_heap (World.alloc_heap_new w (.cells #[.slice A xs.length c] 25)) 0); have hs1 := hb1.size; rw [World.size_alloc] at hs1; have cb2 : ((w1.alloc (.map #[] 0)).alloc (.cells #[.slice An xs.length cn, .slice none 0 0, .map (some w1.heap.size)] 99)).cell? ⟨w.heap.size, 0, none⟩ = some (.slice A xs.length c) := ((((Below.refl (w.heap.size + 1) w1).alloc (by omega) _).alloc (by simp only [World.size_alloc]; omega) _).cell (p := ⟨w.heap.size, 0, none⟩) (by simp)).trans cb1)
    have hPb : Below w1.heap.size w1 ((w1.alloc (.map #[] 0)).alloc (.cells #[.slice An xs.length cn, .slice none 0 0, .map (some w1.heap.size)] 99)) := ((Below.refl _ w1).alloc (Nat.le_refl _) _).alloc (by simp) _
    have hNW0 : NW (w1.heap.size + 1) w1.heap.size xs 0 (.slice An xs.length cn) (.slice none 0 0) ((w1.alloc (.map #[] 0)).alloc (.cells #[.slice An xs.length cn, .slice none 0 0, .map (some w1.heap.size)] 99)) := by
      refine ⟨?_, World.ownsRow_nil _ _ _ _, (World.ownsMap_made w1 Try.prog 9 _).alloc _, Nat.lt_succ_self _⟩
      have := World.alloc_heap_new (w1.alloc (.map #[] 0)) (.cells #[.slice An xs.length cn, .slice none 0 0, .map (some w1.heap.size)] 99)
      rwa [World.size_alloc] at this
    have HB1 : Hid (Below w.heap.size w w1) := Lib.hid (((Below.refl _ w).alloc (Nat.le_refl _) _).trans (hb1.mono (by simp)))
    clear hmm
    go_loopg [6, 7, 8, 9, 25] xs.length (fun gf _ _ _ _ u25 wr => ∃ (k : Nat) (lov : Value), u25 = .int .i64 k ∧ k ≤ xs.length ∧ xs.length ≤ k + gf ∧ NW (w1.heap.size + 1) w1.heap.size xs k (.slice An xs.length cn) lov wr ∧ Below w1.heap.size w1 wr ∧ Hid (newFrom xs k (xs.length - k) = newL xs))
    case atStart => exact ⟨0, _, rfl, Nat.zero_le _, by omega, hNW0, hPb, HE.out.symm⟩
    case round =>
      clear hNW0 hPb cb2
      obtain ⟨k, lov, rfl, hk, hfu, hNW, hbw, HF⟩ := hrel
      have hsw := hbw.size
      have cb3 := (hbw.cell (p := ⟨w.heap.size, 0, none⟩) (by simp only; omega)).trans cb1
      by_cases hlt : k < xs.length
      · obtain ⟨g', rfl⟩ : ∃ g', gk = g' + 1 := ⟨gk - 1, by omega⟩
        obtain ⟨ba, off, e0, hba, hcl⟩ := ((HV.out.below ((HB1.out.mono hB).trans (hbw.mono (by omega))))).addr hn1
        have g1 := hcl k _ (by rw [List.getElem?_map, List.getElem?_eq_getElem hlt]; rfl)
        obtain rfl := e0
        have hsz := HZ.out _ (List.getElem_mem hlt)
        have hnm := nm_lt hlt
        have HF2 : Hid ((if rightL (nm xs k) = false then (k, (30 : Int)) else if nm xs k ∈ xs.take k then (k, 31) else newFrom xs (k + 1) (xs.length - (k + 1))) = newL xs) := Lib.hid (by
          have := HF.out
          rw [show xs.length - k = (xs.length - (k + 1)) + 1 by omega, newFrom] at this
          exact this)
        rw [hnm] at HF2
        have hhas := mapD_has xs (xs[k]'hlt) k (by omega)
        have hkey : keyOf Try.prog 9 (.string ⟨(xs[k]'hlt).toArray⟩) = some (mkey (xs[k]'hlt)) := keyOf_string_mk Try.underlying9 (by have h9 : (⟨(xs[k]'hlt).toArray⟩ : ByteArray).size = (xs[k]'hlt).length := (by rw [← bl_length]); rw [h9]; unfold maxLen; omega)
        have hst : mapD xs (k + 1) = (mapD xs k).put (mkey (xs[k]'hlt)) (.lit (.int .i64 (k : Int))) := by rw [mapD, hnm]
        have cR := fun W => right_any ⟨(xs[k]'hlt).toArray⟩ W (by rw [← bl_length, bl_mk]; exact hsz)
        rw [bl_mk] at cR
        have CR := Lib.hid cR; have HK := Lib.hid hkey; have HH := Lib.hid hhas; have HST := Lib.hid hst
        clear cR hkey hhas hst hnm hsz hcl
        generalize xs[k]'hlt = s at *
        have i0' : (0 : Int) ≤ (k : Int) := by omega
        have i1 : (k : Int) < (xs.length : Int) := by omega
        cases hr : rightL s with
        | false =>
          rw [hr] at CR
          have HFr : Hid (newL xs = (k, 30)) := Lib.hid (by have := HF2.out; rw [if_pos hr] at this; exact this.symm)
          have Hr := Lib.hid hr; clear hr HF2 HF
          go_wp2_with (go_at_call 83; refine (CR.out _).mono ?_; rintro e w2 ⟨rfl, hb2⟩)
          go_ret3
          exact ⟨HB1.out.trans ((hbw.trans (hb2.mono hsw)).mono (by omega)), .inl ⟨by rw [HFr.out]; simp, by rw [HFr.out]; rfl⟩⟩
        | true =>
          rw [hr] at CR
          have HF3 : Hid ((if s ∈ xs.take k then (k, (31 : Int)) else newFrom xs (k + 1) (xs.length - (k + 1))) = newL xs) := Lib.hid (by have := HF2.out; rw [if_neg (by rw [hr]; simp)] at this; exact this)
          have Hr := Lib.hid hr; clear hr HF2 HF
          by_cases htw : s ∈ xs.take k
          · have HFr : Hid (newL xs = (k, 31)) := Lib.hid (by have := HF3.out; rw [if_pos htw] at this; exact this.symm)
            have hh2 : Maps.has (mapD xs k) (mkey s) = true := by rw [HH.out]; exact decide_eq_true htw
            have HT := Lib.hid htw; clear HF3 htw
            go_wp2_with (first
              | (go_at_call 83; refine (CR.out _).mono ?_; rintro e w2 ⟨rfl, hb2⟩; have hNW2 := hNW.below hb2; have cp2 := Lib.cell_of_heap hNW2.blk 2)
              | (at_lookup; refine wpList_lookup_own_ok_int _ rfl _ _ 97 rfl 9 3 .i64 mapKey Try.underlying97 Try.underlying3 (zeroInt _) w1.heap.size k _ rfl hNW2.mp _ _ rfl HK.out ?_; intro c9 hat hwc; clear hat hwc))
            go_ret3
            exact ⟨HB1.out.trans ((hbw.trans (hb2.mono hsw)).mono (by omega)), .inl ⟨by rw [HFr.out]; simp, by rw [HFr.out]; rfl⟩⟩
          · have HFr : Hid (newFrom xs (k + 1) (xs.length - (k + 1)) = newL xs) := Lib.hid (by have := HF3.out; rw [if_neg htw] at this; exact this)
            have hh2 : Maps.has (mapD xs k) (mkey s) = false := by rw [HH.out]; exact decide_eq_false htw
            have HT := Lib.hid htw; clear HF3 htw
            have wfk : (Lit.int .i64 (k : Int)).wf = true := WalkArith.wf_i64 (by omega)
            have hrg : (List.range (k + 1)).map (fun (n : Nat) => Value.int .i64 (n : Int)) = (List.range k).map (fun (n : Nat) => Value.int .i64 (n : Int)) ++ [.int .i64 (k : Int)] := by rw [List.range_succ]; simp
            have HRG := Lib.hid hrg; clear hrg
            go_wp2_with (first
              | (go_at_call 83; refine (CR.out _).mono ?_; rintro e w2 ⟨rfl, hb2⟩; have hNW2 := hNW.below hb2; have cp2 := Lib.cell_of_heap hNW2.blk 2)
              | (at_lookup; refine wpList_lookup_own_ok_int _ rfl _ _ 97 rfl 9 3 .i64 mapKey Try.underlying97 Try.underlying3 (zeroInt _) w1.heap.size k _ rfl hNW2.mp _ _ rfl HK.out ?_; intro c9 hat hwc; clear hat hwc)
              | (at_mapUpdate; refine wpList_mapUpdate_own _ rfl _ _ _ 97 rfl 9 3 mapKey Try.underlying97 _ w1.heap.size k _ rfl hNW2.mp (by unfold maxLen; omega) _ _ _ rfl rfl HK.out _ [] (plainElem_int Try.underlying3 wfk) ?_; intro w3 hown3 hg3; rw [← HST.out] at hown3; have hp3 := hNW2.put hown3 hg3; have c31 := Lib.cell_of_heap hp3.1 1; have hs3 := hg3.size; have hl2 := hNW2.ltP)
              | (at_builtin; refine wpList_append_own_at _ rfl (.tmp 55) (.tmp 57) 35 rfl (w1.heap.size + 1 + 1) 3 i0 (.int .i64 0) 1 8 Try.underlying35 hi hz0 hz1 hz2 rfl (by decide) _ _ _ rfl (hp3.2.alloc _) ⟨w3.heap.size, 0, none⟩ 1 1 [.int .i64 (k : Int)] rfl rfl (cell_one_new _ _ _) (by simp [Value.oneCell']) (by unfold maxLen; omega) (by omega) (by simp only [World.size_alloc]; omega) ?_; intro v' w4 hown4 hg4 _ _; obtain ⟨A4, c4, rfl⟩ := own_form hown4; have hq4 := (hg4.block (w1.heap.size + 1) (by simp only [World.size_alloc]; omega) (fun e => by have := (hp3.2.lt _ e.symm).1; omega)).trans ((Below.heap_alloc w3 (.cells #[.int .i64 (k : Int)] 3) _ (by omega)).trans hp3.1); have c41 := Lib.cell_of_heap hq4 1; have f41 := Lib.frozen_of_heap hq4 1))
            rw [← HRG.out] at hown4
            have hbw4 : Below w1.heap.size w1 w4 := ((((hbw.trans (hb2.mono hsw)).grown hg3 (by have := hb2.size; omega) (fun j hj => by cases hj; exact Nat.le_refl _)).alloc (by have := hb2.size; omega) (.cells #[.int .i64 (k : Int)] 3)).grown hg4 (by simp only [World.size_alloc]; omega) (fun j hj => by have := (hp3.2.lt _ hj).1; omega))
            have hNW4 := NW.app ((Below.heap_alloc w3 (.cells #[.int .i64 (k : Int)] 3) _ (by omega)).trans hp3.1) (hp3.2.alloc _) (hown3.alloc _) (Nat.lt_succ_self _) (by simp only [World.size_alloc]; omega) hown4 hg4
            go_roundg g'
            case measure => omega
            case rel => exact ⟨k + 1, _, by go_num, by omega, by omega, hNW4, hbw4.setCell (by simp) _, HFr⟩
      · obtain rfl : xs.length = k := by omega
        have hE2 : (newL xs).2 = 0 := by
          have := HF.out
          rw [Nat.sub_self, newFrom] at this
          rw [← this]
        have HE2 := Lib.hid hE2; clear hE2 HF
        have hgood := new_good HE2.out
        obtain ⟨Al, cl, rfl⟩ := own_form hNW.own
        obtain ⟨gl, cap, el, hcl⟩ := own_cell' hNW.own (k := 0) (u := .int .i64 0) (by rw [List.getElem?_map, List.getElem?_range hn1]; rfl)
        injection el with el1 el2 el3
        subst el1
        clear hcl el2 el3
        have hgl := hNW.own.lt gl rfl
        have cp1 := Lib.cell_of_heap hNW.blk 1
        have hR : Row1 encN wr gl 0 (List.range xs.length).toArray := by
          refine ⟨encN_one, fun j hj => ?_, hgl.2⟩
          rw [List.size_toArray, List.length_range] at hj
          rw [Nat.zero_add]
          refine ⟨?_, hNW.own.frozenAt j⟩
          rw [hNW.own.cellAt j (by omega), List.getElem?_map, List.getElem?_range hj]
          rw [getElem!_pos _ _ (by simpa using hj)]
          simp
        have hC : CmpOk #[.pointer (some ⟨w.heap.size, 0, none⟩)] (fun i => -((nm xs i).length : Int)) xs.length gl 0 xs.length wr := by
          intro W dk hdk hS x y hx hy
          have hbW : Below w1.heap.size wr W := sw_below hS (by omega) hgl.2
          have hsl := ((HV.out.below (HB1.out.mono hB)).below ((hbw.trans hbW).mono (by omega)))
          have hbx : W.cell? ⟨w.heap.size, 0, none⟩ = some (.slice A xs.length c) := (hbW.cell (p := ⟨w.heap.size, 0, none⟩) (by simp only; omega)).trans cb3
          have h := cmp_any x y xs w.heap.size B (.slice A xs.length c) W hbx hsl hx hy HZ.out
          refine h.mono fun e w' ⟨he, n, hw⟩ => ⟨?_, n, #[], by rw [hw, grow_empty]⟩
          rw [he]
          exact ret_i (by show _ = -((nm xs x).length : Int) - -((nm xs y).length : Int); rw [nm_lt hx, nm_lt hy]; omega)
        have hsrt := sortStable_s #[.pointer (some ⟨w.heap.size, 0, none⟩)] (fun i => -((nm xs i).length : Int)) xs.length gl 0 cl xs.length (List.range xs.length).toArray wr hR (by simp) hC (fun y hy => by simpa using hy) hn2
        have HS := Lib.hid hsrt
        have HN := Lib.hid hNW
        clear hsrt hC hR hNW
        go_wp2_with (go_at_call 84; refine HS.out.mono ?_; rintro e w2 ⟨rfl, hh⟩; have HH := Lib.hid hh; clear hh)
        go_ret3
        obtain ⟨d', hd1, hd2, hd3, hd4⟩ := HH.out
        have hb2 : Below w1.heap.size wr w2 := sw_below hd2 (by omega) hgl.2
        have hlen : d'.toList.length = xs.length := by rw [Array.length_toList]; exact hd1
        refine ⟨HB1.out.trans ((hbw.trans hb2).mono (by omega)), .inr ⟨HE2.out, w1.heap.size + 1, d'.toList, by omega, rfl, ⟨?_, ?_⟩, ⟨?_, Nat.le_refl _, ⟨An, cn, ?_, ?_⟩, ⟨some ⟨gl, 0, none⟩, cl, ?_, ?_⟩, ⟨w1.heap.size, ?_, ?_, ?_⟩⟩, ?_⟩⟩
        · simpa using hd3
        · have := hd4
          unfold srt at this
          exact this.imp (fun {a b} (h : -((nm xs a).length : Int) ≤ -((nm xs b).length : Int)) => by omega)
        · have := HN.out.ltP; have := hd2.le; omega
        · have h0 := (sw_block hd2 HN.out.ltP (by omega)).trans HN.out.blk
          exact Lib.cell_of_heap h0 0
        · exact ((Sl.of_own hown1).below (hbw.trans hb2)).more (by have := hd2.le; omega)
        · have h0 := (sw_block hd2 HN.out.ltP (by omega)).trans HN.out.blk
          rw [hlen]
          exact Lib.cell_of_heap h0 1
        · rw [hlen]
          have hcap : xs.length ≤ cl := by
            rcases HN.out.own.2 with ⟨hv2, _⟩ | ⟨g5, cap5, cur5, hv5, _, _, hcap5, _⟩
            · cases hv2
            · injection hv5 with e1 e2 e3
              omega
          refine ⟨some ⟨gl, 0, none⟩, cl, by rw [List.length_map, hlen], by rw [List.length_map, hlen]; exact hcap, fun _ => ⟨⟨gl, 0, none⟩, rfl, by have := hd2.le; have := hgl.2; simp only; omega, fun j u hu => ?_⟩⟩
          rw [List.getElem?_map, Option.map_eq_some_iff] at hu
          obtain ⟨z, hz5, rfl⟩ := hu
          have hj := (List.getElem?_eq_some_iff.1 hz5).1
          rw [hlen] at hj
          have hR2 : Row1 encN wr gl 0 (List.range xs.length).toArray := by
            refine ⟨encN_one, fun j hj => ?_, hgl.2⟩
            rw [List.size_toArray, List.length_range] at hj
            rw [Nat.zero_add]
            refine ⟨?_, HN.out.own.frozenAt j⟩
            rw [HN.out.own.cellAt j (by omega), List.getElem?_map, List.getElem?_range hj]
            rw [getElem!_pos _ _ (by simpa using hj)]
            simp
          have h5 := hd2.c1 hR2 (by rw [hd1]; simp) j (by omega)
          rw [Nat.zero_add] at h5
          rw [show (⟨gl, 0, none⟩ : Addr).add j = ⟨gl, j, none⟩ by unfold Addr.add; split <;> simp_all, h5]
          congr 1
          rw [arr_get, List.getD_eq_getElem?_getD, hz5]
          rfl
        · have := HN.out.ltP; have := hd2.le; omega
        · have h0 := (sw_block hd2 HN.out.ltP (by omega)).trans HN.out.blk
          exact Lib.cell_of_heap h0 2
        · have hM := HN.out.mp
          obtain ⟨es, clock, hbk, r⟩ := hM
          exact ⟨es, clock, (sw_block hd2 (by have := HN.out.ltP; omega) (by omega)).trans hbk, r⟩
        · have h0 := (sw_block hd2 HN.out.ltP (by omega)).trans HN.out.blk
          have k0 := Lib.cell_of_heap h0 0
          have k1 := Lib.cell_of_heap h0 1
          have k2 := Lib.cell_of_heap h0 2
          refine ⟨by omega, fun A n c h => ?_, fun A n c h => ?_, fun M h => ?_⟩
          · rw [k0] at h
            injection h with h; injection h with h1
            subst h1
            have := (hown1.lt A.block rfl).1
            rw [World.size_alloc] at this
            omega
          · rw [k1] at h
            injection h with h; injection h with h1
            injection h1 with h1
            subst h1
            have := hgl.1
            simp only; omega
          · rw [k2] at h
            injection h with h; injection h with h1
            injection h1 with h1
            omega
theorem New_any (v : Value) (xs : List (List UInt8)) (B : Nat) (w : World) (hv : Sl w B v (strs xs)) (hB : B ≤ w.heap.size) (hz : ∀ x ∈ xs, x.length ≤ 17592186044416) (hx : xs.length ≤ 17592186044416) :
    Calls Try.prog 47 #[v] w (NewPost w xs) :=
  (New_lo v xs B w hv hB hz hx).mono fun e w' ⟨h1, h2⟩ => ⟨h1, h2.imp id fun ⟨a, p, o, b, c, d, f, _⟩ => ⟨a, p, o, b, c, d, f⟩⟩
end Go.Proofs.Ytlkabghpcjlohaa
