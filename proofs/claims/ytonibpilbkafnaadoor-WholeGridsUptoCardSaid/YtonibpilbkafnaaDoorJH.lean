/- Joined texts: O12: walks and plain laws for this seat's program, each stated where it stands; conditions: as each states. -/
import Derived.Test.YtonibpilbkafnaaDoorJE
import Derived.Deep.RegionHeld3
/- Package turn: Turn's bar. -/
namespace Go.Proofs.YtonibpilbkafnaaDoor
set_option linter.unusedVariables false
set_option linter.unusedSimpArgs false
open Go.RowKit Go.Lib

/-- does a bar between two cells stand at the right side? -/
def rightB (w a b : Nat) : Bool := decide (max a b = min a b + 1) && decide ((min a b + 1) % w ≠ 0)
theorem barT_right {w a b : Nat} {t : Td} (h : rightB w a b = true) : barT w a b t = { t with R := t.R.set (min a b) true } := by
  unfold rightB at h
  rw [Bool.and_eq_true, decide_eq_true_eq, decide_eq_true_eq] at h
  unfold barT
  rw [if_pos h]
theorem barT_down {w a b : Nat} {t : Td} (h : rightB w a b = false) : barT w a b t = { t with D := t.D.set (min a b) true } := by
  unfold barT
  rw [if_neg]
  rintro ⟨h1, h2⟩
  unfold rightB at h
  rw [decide_eq_true h1, decide_eq_true h2] at h
  cases h
theorem keepS3 {W0 W W1 : World} {bg bk : Nat} {x y z : Value} (hb : Below W.heap.size W W1) (h1 : W.cell? ⟨bg, 0, none⟩ = some x) (h2 : W.cell? ⟨bg, 1, none⟩ = some y) (h3 : W.cell? ⟨bk, 0, none⟩ = some z) (h4 : Below W0.heap.size W0 W) :
    W1.cell? ⟨bg, 0, none⟩ = some x ∧ W1.cell? ⟨bg, 1, none⟩ = some y ∧ W1.cell? ⟨bk, 0, none⟩ = some z ∧ Below W0.heap.size W0 W1 :=
  ⟨(hb.cell (p := ⟨bg, 0, none⟩) (World.block_lt_of_cell? W _ h1)).trans h1, (hb.cell (p := ⟨bg, 1, none⟩) (World.block_lt_of_cell? W _ h2)).trans h2, (hb.cell (p := ⟨bk, 0, none⟩) (World.block_lt_of_cell? W _ h3)).trans h3, h4.trans (hb.mono h4.size)⟩
theorem results_none {fn : Func} (h : fn.results = #[]) (tmps : Array Value) (W : World) : (results fn tmps).run Tryd.prog W = .ok (.tuple #[]) W := by
  simp [results, h]
set_option maxHeartbeats 8000000 in
set_option maxRecDepth 100000 in
theorem tbar_any (h c k n i j bg bk bw bt rb db w2 : Nat) (vb vr vd tb x0 x1 : Value) (W : World) (hk : k < 8) (h0 : 1 ≤ h ∧ h ≤ 16) (c0 : 1 ≤ c ∧ c ≤ 16) (hi : i < h * c) (hj : j < h * c) (hn : h * c = n) (hw2 : 1 ≤ w2 ∧ w2 ≤ 16)
    (eg : W.heap[bg]? = some (.cells #[.int .i64 (h : Nat), .int .i64 (c : Nat), vb, vr, vd] 27 (0, 0))) (ek : W.heap[bk]? = some (.cells #[.int .i64 (k : Nat)] 3 (0, 0)))
    (ew : W.heap[bw]? = some (.cells #[.int .i64 (w2 : Nat)] 3 (0, 0))) (et : W.heap[bt]? = some (.cells #[x0, x1, tb, .slice (some ⟨rb, 0, none⟩) n n, .slice (some ⟨db, 0, none⟩) n n] 27 (0, 0)))
    (cr : ∀ x, x < n → ∃ v, W.cell? ⟨rb, x, none⟩ = some v) (cd : ∀ x, x < n → ∃ v, W.cell? ⟨db, x, none⟩ = some v) (fr : ∀ x, x < n → W.frozen? ⟨rb, x, none⟩ = false) (fd : ∀ x, x < n → W.frozen? ⟨db, x, none⟩ = false) :
    Calls Tryd.prog 24 #[.int .i64 (i : Nat), .int .i64 (j : Nat), .pointer (some ⟨bg, 0, none⟩), .pointer (some ⟨bk, 0, none⟩), .pointer (some ⟨bw, 0, none⟩), .pointer (some ⟨bt, 0, none⟩)] W
      fun e W' => e = .returned (.tuple #[]) ∧ ∃ W1, Below W.heap.size W W1 ∧ W' = W1.setCell ⟨if rightB w2 (placeW h c k i) (placeW h c k j) then rb else db, min (placeW h c k i) (placeW h c k j), none⟩ (.bool true) := by
  have c1 := fun W => place_any h c k i W hk h0 c0 hi
  have c2 := fun W => place_any h c k j W hk h0 c0 hj
  have l1 := place_lt hk hi
  have l2 := place_lt hk hj
  rw [hn] at l1 l2
  have hm : n ≤ 256 := by rw [← hn]; exact Nat.mul_le_mul h0.2 c0.2
  have lbg := (Array.getElem?_eq_some_iff.1 eg).1
  have lbk := (Array.getElem?_eq_some_iff.1 ek).1
  have lbw := (Array.getElem?_eq_some_iff.1 ew).1
  have lbt := (Array.getElem?_eq_some_iff.1 et).1
  have g0 := Lib.cell_of_heap eg 0
  have g1 := Lib.cell_of_heap eg 1
  have g2 := Lib.cell_of_heap ek 0
  generalize placeW h c k i = p at *
  generalize placeW h c k j = q at *
  obtain ⟨rt, hrt⟩ : ∃ rt, rightB w2 p q = rt := ⟨_, rfl⟩
  obtain ⟨lw, hlw⟩ : ∃ lw, min p q = lw := ⟨_, rfl⟩
  rw [hrt, hlw]
  have HRT := Lib.hid hrt; clear hrt
  have C1 := Lib.hid c1; have C2 := Lib.hid c2
  have EW := Lib.hid ew; have ET := Lib.hid et
  have CR := Lib.hid cr; have CD := Lib.hid cd; have FR := Lib.hid fr; have FD := Lib.hid fd
  clear c1 c2 ew et cr cd fr fd hn eg ek
  have G0 : W.drew.cell? ⟨bg, 0, none⟩ = some (.int .i64 (h : Nat)) := g0
  have G1 : W.drew.cell? ⟨bg, 1, none⟩ = some (.int .i64 (c : Nat)) := g1
  have G2 : W.drew.cell? ⟨bk, 0, none⟩ = some (.int .i64 (k : Nat)) := g2
  have GB : Below W.heap.size W W.drew := (Below.refl _ W).drew
  clear g0 g1 g2
  go_enter Tryd.func24, Tryd.ntmps24
  go_wp2
  go_region_held3 (fun w' => w'.cell? ⟨bg, 0, none⟩ = some (.int .i64 (h : Nat)) ∧ w'.cell? ⟨bg, 1, none⟩ = some (.int .i64 (c : Nat)) ∧ w'.cell? ⟨bk, 0, none⟩ = some (.int .i64 (k : Nat)) ∧ Below W.heap.size W w')
    (first
      | (with_reducible exact ⟨G0, G1, G2, GB⟩)
      | (go_split_ands; (with_reducible refine keepS3 hb1 ?_ ?_ ?_ ?_) <;> assumption))
    (first | (go_at_call 25; (with_reducible refine (C1.out _).mono ?_); rintro e w1 ⟨rfl, hb1⟩) | (go_at_call 25; (with_reducible refine (C2.out _).mono ?_); rintro e w1 ⟨rfl, hb1⟩))
  have hBB : Below W.heap.size W w1 := by go_split_ands; assumption
  have ew1 := (hBB.block bw lbw).trans EW.out
  have et1 := (hBB.block bt lbt).trans ET.out
  have m0 := Lib.cell_of_heap ew1 0
  have m3 := Lib.cell_of_heap et1 3
  have m4 := Lib.cell_of_heap et1 4
  clear ew1 et1
  rcases (by omega : p = q ∨ q = p + 1 ∨ p = q + 1 ∨ (p < q ∧ q ≠ p + 1) ∨ (q < p ∧ p ≠ q + 1)) with hc | hc | hc | ⟨hc, hd⟩ | ⟨hc, hd⟩
  · subst hc
    obtain rfl : p = lw := by omega
    have RB2 : rightB w2 p p = false := by unfold rightB; rw [decide_eq_false (by omega)]; rfl
    obtain rfl : false = rt := RB2.symm.trans HRT.out
    clear RB2 hlw
    obtain ⟨v1, r1⟩ := CR.out p (by omega)
    obtain ⟨v2, r2⟩ := CD.out p (by omega)
    have k1 : w1.cell? ⟨rb, p, none⟩ = some v1 := (hBB.cell (p := ⟨rb, p, none⟩) (World.block_lt_of_cell? W _ r1)).trans r1
    have k2 : w1.cell? ⟨db, p, none⟩ = some v2 := (hBB.cell (p := ⟨db, p, none⟩) (World.block_lt_of_cell? W _ r2)).trans r2
    have k3 : w1.frozen? ⟨rb, p, none⟩ = false := (hBB.frozen (p := ⟨rb, p, none⟩) (World.block_lt_of_cell? W _ r1)).trans (FR.out p (by omega))
    have k4 : w1.frozen? ⟨db, p, none⟩ = false := (hBB.frozen (p := ⟨db, p, none⟩) (World.block_lt_of_cell? W _ r2)).trans (FD.out p (by omega))
    have HBB := Lib.hid hBB
    clear r1 r2 hBB
    go_wp2
    first | (refine bodyPost_ret (results_none rfl _ _) rfl ?_) | go_end0
    exact ⟨rfl, _, HBB.out, rfl⟩
  · skip
    subst hc
    obtain rfl : p = lw := by omega
    clear hlw
    have m1 : min (p : Int) ((p : Int) + 1) = (p : Int) := by omega
    have m2 : max (p : Int) ((p : Int) + 1) = (p : Int) + 1 := by omega
    by_cases e2 : (p + 1) % w2 = 0
    · have RB2 : rightB w2 p (p + 1) = false := by unfold rightB; rw [show min p (p + 1) = p by omega, e2]; simp
      obtain rfl : false = rt := RB2.symm.trans HRT.out
      have t2 : ((p : Int) + 1) % (w2 : Int) = 0 := by rw [show ((p : Int) + 1) % (w2 : Int) = (((p + 1) % w2 : Nat) : Int) from (by push_cast; rfl)]; omega
      clear RB2 e2
      obtain ⟨v1, r1⟩ := CR.out p (by omega)
      obtain ⟨v2, r2⟩ := CD.out p (by omega)
      have k1 : w1.cell? ⟨rb, p, none⟩ = some v1 := (hBB.cell (p := ⟨rb, p, none⟩) (World.block_lt_of_cell? W _ r1)).trans r1
      have k2 : w1.cell? ⟨db, p, none⟩ = some v2 := (hBB.cell (p := ⟨db, p, none⟩) (World.block_lt_of_cell? W _ r2)).trans r2
      have k3 : w1.frozen? ⟨rb, p, none⟩ = false := (hBB.frozen (p := ⟨rb, p, none⟩) (World.block_lt_of_cell? W _ r1)).trans (FR.out p (by omega))
      have k4 : w1.frozen? ⟨db, p, none⟩ = false := (hBB.frozen (p := ⟨db, p, none⟩) (World.block_lt_of_cell? W _ r2)).trans (FD.out p (by omega))
      have HBB := Lib.hid hBB
      clear r1 r2 hBB
      go_wp2
      first | (refine bodyPost_ret (results_none rfl _ _) rfl ?_) | go_end0
      exact ⟨rfl, _, HBB.out, rfl⟩
    · have RB2 : rightB w2 p (p + 1) = true := by unfold rightB; rw [show min p (p + 1) = p by omega, decide_eq_true (by omega), decide_eq_true e2]; rfl
      obtain rfl : true = rt := RB2.symm.trans HRT.out
      have t2 : ¬ ((p : Int) + 1) % (w2 : Int) = 0 := by rw [show ((p : Int) + 1) % (w2 : Int) = (((p + 1) % w2 : Nat) : Int) from (by push_cast; rfl)]; omega
      clear RB2 e2
      obtain ⟨v1, r1⟩ := CR.out p (by omega)
      obtain ⟨v2, r2⟩ := CD.out p (by omega)
      have k1 : w1.cell? ⟨rb, p, none⟩ = some v1 := (hBB.cell (p := ⟨rb, p, none⟩) (World.block_lt_of_cell? W _ r1)).trans r1
      have k2 : w1.cell? ⟨db, p, none⟩ = some v2 := (hBB.cell (p := ⟨db, p, none⟩) (World.block_lt_of_cell? W _ r2)).trans r2
      have k3 : w1.frozen? ⟨rb, p, none⟩ = false := (hBB.frozen (p := ⟨rb, p, none⟩) (World.block_lt_of_cell? W _ r1)).trans (FR.out p (by omega))
      have k4 : w1.frozen? ⟨db, p, none⟩ = false := (hBB.frozen (p := ⟨db, p, none⟩) (World.block_lt_of_cell? W _ r2)).trans (FD.out p (by omega))
      have HBB := Lib.hid hBB
      clear r1 r2 hBB
      go_wp2
      first | (refine bodyPost_ret (results_none rfl _ _) rfl ?_) | go_end0
      exact ⟨rfl, _, HBB.out, rfl⟩
  · skip
    subst hc
    obtain rfl : q = lw := by omega
    clear hlw
    have m1 : min ((q : Int) + 1) (q : Int) = (q : Int) := by omega
    have m2 : max ((q : Int) + 1) (q : Int) = (q : Int) + 1 := by omega
    by_cases e2 : (q + 1) % w2 = 0
    · have RB2 : rightB w2 (q + 1) q = false := by unfold rightB; rw [show min (q + 1) q = q by omega, e2]; simp
      obtain rfl : false = rt := RB2.symm.trans HRT.out
      have t2 : ((q : Int) + 1) % (w2 : Int) = 0 := by rw [show ((q : Int) + 1) % (w2 : Int) = (((q + 1) % w2 : Nat) : Int) from (by push_cast; rfl)]; omega
      clear RB2 e2
      obtain ⟨v1, r1⟩ := CR.out q (by omega)
      obtain ⟨v2, r2⟩ := CD.out q (by omega)
      have k1 : w1.cell? ⟨rb, q, none⟩ = some v1 := (hBB.cell (p := ⟨rb, q, none⟩) (World.block_lt_of_cell? W _ r1)).trans r1
      have k2 : w1.cell? ⟨db, q, none⟩ = some v2 := (hBB.cell (p := ⟨db, q, none⟩) (World.block_lt_of_cell? W _ r2)).trans r2
      have k3 : w1.frozen? ⟨rb, q, none⟩ = false := (hBB.frozen (p := ⟨rb, q, none⟩) (World.block_lt_of_cell? W _ r1)).trans (FR.out q (by omega))
      have k4 : w1.frozen? ⟨db, q, none⟩ = false := (hBB.frozen (p := ⟨db, q, none⟩) (World.block_lt_of_cell? W _ r2)).trans (FD.out q (by omega))
      have HBB := Lib.hid hBB
      clear r1 r2 hBB
      go_wp2
      first | (refine bodyPost_ret (results_none rfl _ _) rfl ?_) | go_end0
      exact ⟨rfl, _, HBB.out, rfl⟩
    · have RB2 : rightB w2 (q + 1) q = true := by unfold rightB; rw [show min (q + 1) q = q by omega, decide_eq_true (by omega), decide_eq_true e2]; rfl
      obtain rfl : true = rt := RB2.symm.trans HRT.out
      have t2 : ¬ ((q : Int) + 1) % (w2 : Int) = 0 := by rw [show ((q : Int) + 1) % (w2 : Int) = (((q + 1) % w2 : Nat) : Int) from (by push_cast; rfl)]; omega
      clear RB2 e2
      obtain ⟨v1, r1⟩ := CR.out q (by omega)
      obtain ⟨v2, r2⟩ := CD.out q (by omega)
      have k1 : w1.cell? ⟨rb, q, none⟩ = some v1 := (hBB.cell (p := ⟨rb, q, none⟩) (World.block_lt_of_cell? W _ r1)).trans r1
      have k2 : w1.cell? ⟨db, q, none⟩ = some v2 := (hBB.cell (p := ⟨db, q, none⟩) (World.block_lt_of_cell? W _ r2)).trans r2
      have k3 : w1.frozen? ⟨rb, q, none⟩ = false := (hBB.frozen (p := ⟨rb, q, none⟩) (World.block_lt_of_cell? W _ r1)).trans (FR.out q (by omega))
      have k4 : w1.frozen? ⟨db, q, none⟩ = false := (hBB.frozen (p := ⟨db, q, none⟩) (World.block_lt_of_cell? W _ r2)).trans (FD.out q (by omega))
      have HBB := Lib.hid hBB
      clear r1 r2 hBB
      go_wp2
      first | (refine bodyPost_ret (results_none rfl _ _) rfl ?_) | go_end0
      exact ⟨rfl, _, HBB.out, rfl⟩
  · skip
    obtain rfl : p = lw := by omega
    have RB2 : rightB w2 p q = false := by unfold rightB; rw [decide_eq_false (by omega)]; rfl
    obtain rfl : false = rt := RB2.symm.trans HRT.out
    clear RB2 hlw
    have t1 : ((q : Int) == (p : Int) + 1) = false := by rw [beq_eq_false_iff_ne]; omega
    have m1 : min (p : Int) (q : Int) = (p : Int) := by omega
    have m2 : max (p : Int) (q : Int) = (q : Int) := by omega
    clear hd
    obtain ⟨v1, r1⟩ := CR.out p (by omega)
    obtain ⟨v2, r2⟩ := CD.out p (by omega)
    have k1 : w1.cell? ⟨rb, p, none⟩ = some v1 := (hBB.cell (p := ⟨rb, p, none⟩) (World.block_lt_of_cell? W _ r1)).trans r1
    have k2 : w1.cell? ⟨db, p, none⟩ = some v2 := (hBB.cell (p := ⟨db, p, none⟩) (World.block_lt_of_cell? W _ r2)).trans r2
    have k3 : w1.frozen? ⟨rb, p, none⟩ = false := (hBB.frozen (p := ⟨rb, p, none⟩) (World.block_lt_of_cell? W _ r1)).trans (FR.out p (by omega))
    have k4 : w1.frozen? ⟨db, p, none⟩ = false := (hBB.frozen (p := ⟨db, p, none⟩) (World.block_lt_of_cell? W _ r2)).trans (FD.out p (by omega))
    have HBB := Lib.hid hBB
    clear r1 r2 hBB
    go_wp2
    first | (refine bodyPost_ret (results_none rfl _ _) rfl ?_) | go_end0
    exact ⟨rfl, _, HBB.out, rfl⟩
  · skip
    obtain rfl : q = lw := by omega
    have RB2 : rightB w2 p q = false := by unfold rightB; rw [decide_eq_false (by omega)]; rfl
    obtain rfl : false = rt := RB2.symm.trans HRT.out
    clear RB2 hlw
    have t1 : ((p : Int) == (q : Int) + 1) = false := by rw [beq_eq_false_iff_ne]; omega
    have m1 : min (p : Int) (q : Int) = (q : Int) := by omega
    have m2 : max (p : Int) (q : Int) = (p : Int) := by omega
    clear hd
    obtain ⟨v1, r1⟩ := CR.out q (by omega)
    obtain ⟨v2, r2⟩ := CD.out q (by omega)
    have k1 : w1.cell? ⟨rb, q, none⟩ = some v1 := (hBB.cell (p := ⟨rb, q, none⟩) (World.block_lt_of_cell? W _ r1)).trans r1
    have k2 : w1.cell? ⟨db, q, none⟩ = some v2 := (hBB.cell (p := ⟨db, q, none⟩) (World.block_lt_of_cell? W _ r2)).trans r2
    have k3 : w1.frozen? ⟨rb, q, none⟩ = false := (hBB.frozen (p := ⟨rb, q, none⟩) (World.block_lt_of_cell? W _ r1)).trans (FR.out q (by omega))
    have k4 : w1.frozen? ⟨db, q, none⟩ = false := (hBB.frozen (p := ⟨db, q, none⟩) (World.block_lt_of_cell? W _ r2)).trans (FD.out q (by omega))
    have HBB := Lib.hid hBB
    clear r1 r2 hBB
    go_wp2
    first | (refine bodyPost_ret (results_none rfl _ _) rfl ?_) | go_end0
    exact ⟨rfl, _, HBB.out, rfl⟩
end Go.Proofs.YtonibpilbkafnaaDoor
