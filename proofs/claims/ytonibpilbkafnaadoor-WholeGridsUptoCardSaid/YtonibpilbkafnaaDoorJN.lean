/- Joined texts: M7 U2 U3: walks and plain laws for this seat's program, each stated where it stands; conditions: as each states. -/
import Derived.Test.YtonibpilbkafnaaDoorJL
import Derived.Test.YtonibpilbkafnaaDoorJM
/- Plain Lean: how the parts are found: from each new cell on, by steps. -/
namespace Go.Proofs.YtonibpilbkafnaaDoor
set_option linter.unusedVariables false
set_option linter.unusedSimpArgs false

/-- how many are less than nought -/
def neg : List Int → Nat
  | [] => 0
  | x :: l => (if x < 0 then 1 else 0) + neg l
theorem neg_le : ∀ l : List Int, neg l ≤ l.length
  | [] => Nat.le_refl _
  | x :: l => by have := neg_le l; unfold neg; simp only [List.length_cons]; split <;> omega
theorem neg_set : ∀ {l : List Int} {j : Nat} {u v : Int}, l[j]? = some u → u < 0 → 0 ≤ v → neg (l.set j v) + 1 = neg l
  | [], j, u, v, h, _, _ => by simp at h
  | x :: l, 0, u, v, h, hu, hv => by
    simp only [List.getElem?_cons_zero, Option.some.injEq] at h
    subst h
    simp only [List.set_cons_zero, neg]
    rw [if_neg (by omega), if_pos hu]; omega
  | x :: l, j + 1, u, v, h, hu, hv => by
    rw [List.getElem?_cons_succ] at h
    have := neg_set h hu hv
    simp only [List.set_cons_succ, neg]
    omega
/-- has it a part? -/
def pos (P : List Int) (x : Nat) : Prop := 0 ≤ P.getD x (-1)
theorem pos_set {P : List Int} {j x : Nat} {v : Int} (hj : j < P.length) (hv : 0 ≤ v) : pos (P.set j v) x ↔ (x = j ∨ pos P x) := by
  unfold pos
  rw [List.getD_eq_getElem?_getD, List.getD_eq_getElem?_getD, List.getElem?_set]
  by_cases e : j = x
  · subst e
    rw [if_pos rfl, if_pos hj]
    simp only [Option.getD_some, true_or, iff_true]
    exact hv
  · rw [if_neg e]
    constructor
    · intro h; exact .inr h
    · rintro (h | h)
      · exact absurd h.symm e
      · exact h
structure Bfs (n : Nat) (st : Nat → Nat → Option Nat) (op : Nat → Bool) (i : Nat) (old : Nat → Prop) (P : List Int) (todo : List Nat) (ex : Nat → Prop) : Prop where
  len : P.length = n
  q1 : ∀ x, x < n → pos P x → old x ∨ Conn st i x
  q2 : ∀ x, x < n → old x → pos P x
  q3 : pos P i
  q4 : ∀ t ∈ todo, t < n ∧ op t = true ∧ Conn st i t
  q5 : ∀ x, x < n → pos P x → Conn st i x → ¬ ex x → (x ∈ todo ∨ ∀ d, d < 4 → ∀ y, st x d = some y → pos P y)
def oldP (st : Nat → Nat → Option Nat) (op : Nat → Bool) (i x : Nat) : Prop := ∃ y, y < i ∧ op y = true ∧ Conn st y x
structure Outer (n : Nat) (st : Nat → Nat → Option Nat) (op : Nat → Bool) (i : Nat) (P : List Int) (m : Nat) : Prop where
  len : P.length = n
  iff : ∀ x, x < n → (pos P x ↔ oldP st op i x)
  cnt : m = parts i op st
open Classical in
theorem parts_succ (i : Nat) (op : Nat → Bool) (st : Nat → Nat → Option Nat) : (op i = true ∧ First st i → parts (i + 1) op st = parts i op st + 1) ∧ (¬ (op i = true ∧ First st i) → parts (i + 1) op st = parts i op st) := by
  unfold parts
  rw [cnt_succ]
  constructor
  · rintro ⟨h1, h2⟩
    rw [if_pos]
    rw [Bool.and_eq_true]
    exact ⟨h1, decide_eq_true h2⟩
  · intro h
    rw [if_neg]
    · rfl
    · intro h9
      rw [Bool.and_eq_true] at h9
      exact h ⟨h9.1, of_decide_eq_true h9.2⟩
theorem Outer.start (n : Nat) (st : Nat → Nat → Option Nat) (op : Nat → Bool) : Outer n st op 0 (List.replicate n (-1)) 0 :=
  ⟨List.length_replicate, fun x hx => ⟨fun h => by
    unfold pos at h
    rw [List.getD_eq_getElem?_getD, List.getElem?_replicate, if_pos hx] at h
    simp at h, fun ⟨y, hy, _⟩ => by omega⟩, rfl⟩
theorem Outer.block {n : Nat} {st : Nat → Nat → Option Nat} {op : Nat → Bool} {i : Nat} {P : List Int} {m : Nat} (h : Outer n st op i P m) (hi : op i = false) : Outer n st op (i + 1) P m :=
  ⟨h.len, fun x hx => (h.iff x hx).trans ⟨fun ⟨y, a, b, c⟩ => ⟨y, by omega, b, c⟩, fun ⟨y, a, b, c⟩ => by
    rcases Nat.lt_or_ge y i with h1 | h1
    · exact ⟨y, h1, b, c⟩
    · obtain rfl : y = i := by omega
      rw [hi] at b
      cases b⟩, by rw [(parts_succ i op st).2 (fun h2 => by rw [hi] at h2; cases h2.1)]; exact h.cnt⟩
theorem Outer.seen {n : Nat} {st : Nat → Nat → Option Nat} (hS : Steps4 n st) {op : Nat → Bool} {i : Nat} {P : List Int} {m : Nat} (h : Outer n st op i P m) (hi : i < n) (hp : pos P i) : Outer n st op (i + 1) P m := by
  obtain ⟨y, hy, hoy, hc⟩ := (h.iff i hi).1 hp
  refine ⟨h.len, fun x hx => (h.iff x hx).trans ⟨fun ⟨y, a, b, c⟩ => ⟨y, by omega, b, c⟩, fun ⟨z, a, b, c⟩ => ?_⟩, ?_⟩
  · rcases Nat.lt_or_ge z i with h1 | h1
    · exact ⟨z, h1, b, c⟩
    · obtain rfl : z = i := by omega
      exact ⟨y, hy, hoy, hc.trans c⟩
  · rw [(parts_succ i op st).2 (fun h2 => h2.2 y hy hc)]
    exact h.cnt
theorem Outer.first {n : Nat} {st : Nat → Nat → Option Nat} (hS : Steps4 n st) {op : Nat → Bool} (hO : Opens op st) {i : Nat} {P : List Int} {m : Nat} (h : Outer n st op i P m) (hi : i < n) (hp : ¬ pos P i) (ho : op i = true) : First st i := by
  intro z hz hc
  exact hp ((h.iff i hi).2 ⟨z, hz, (hc.symm hS).op hO ho, hc⟩)
theorem Outer.begin {n : Nat} {st : Nat → Nat → Option Nat} (hS : Steps4 n st) {op : Nat → Bool} {i : Nat} {P : List Int} {m : Nat} (h : Outer n st op i P m) (hi : i < n) (hp : ¬ pos P i) (ho : op i = true) :
    Bfs n st op i (oldP st op i) (P.set i (m : Int)) [i] (fun _ => False) := by
  have hl : i < P.length := by rw [h.len]; exact hi
  refine ⟨by rw [List.length_set]; exact h.len, fun x hx hpx => ?_, fun x hx hox => (pos_set hl (by omega)).2 (.inr ((h.iff x hx).2 hox)), (pos_set hl (by omega)).2 (.inl rfl), fun t ht => ?_, fun x hx hpx hc _ => ?_⟩
  · rcases (pos_set hl (by omega)).1 hpx with rfl | h1
    · exact .inr (.refl _)
    · exact .inl ((h.iff x hx).1 h1)
  · rw [List.mem_singleton.1 ht]
    exact ⟨hi, ho, .refl _⟩
  · rcases (pos_set hl (by omega)).1 hpx with rfl | h1
    · exact .inl (List.mem_singleton.2 rfl)
    · obtain ⟨y, hy, hoy, hc2⟩ := (h.iff x hx).1 h1
      exact absurd ((h.iff i hi).2 ⟨y, hy, hoy, hc2.trans (hc.symm hS)⟩) hp
theorem Bfs.pop {n : Nat} {st : Nat → Nat → Option Nat} {op : Nat → Bool} {i t : Nat} {old : Nat → Prop} {P : List Int} {todo : List Nat} (h : Bfs n st op i old P (t :: todo) (fun _ => False)) : Bfs n st op i old P todo (fun x => x = t) :=
  ⟨h.len, h.q1, h.q2, h.q3, fun x hx => h.q4 x (List.mem_cons_of_mem _ hx), fun x hx hp hc hne => by
    rcases h.q5 x hx hp hc (fun h => h) with h1 | h1
    · rcases List.mem_cons.1 h1 with h2 | h2
      · exact absurd h2 hne
      · exact .inl h2
    · exact .inr h1⟩
theorem Bfs.mark {n : Nat} {st : Nat → Nat → Option Nat} (hS : Steps4 n st) {op : Nat → Bool} (hO : Opens op st) {i t j d : Nat} {old : Nat → Prop} {P : List Int} {todo : List Nat} (h : Bfs n st op i old P todo (fun x => x = t)) (hct : Conn st i t) (hd : d < 4) (hs : st t d = some j) {m : Int} (hm : 0 ≤ m) :
    Bfs n st op i old (P.set j m) (todo ++ [j]) (fun x => x = t) := by
  have hjn := (hS.lt hd hs).2
  have hl : j < P.length := by rw [h.len]; exact hjn
  have hcj : Conn st i j := .go hct hd hs
  refine ⟨by rw [List.length_set]; exact h.len, fun x hx hpx => ?_, fun x hx hox => (pos_set hl hm).2 (.inr (h.q2 x hx hox)), (pos_set hl hm).2 (.inr h.q3), fun x hx => ?_, fun x hx hpx hc hne => ?_⟩
  · rcases (pos_set hl hm).1 hpx with rfl | h1
    · exact .inr hcj
    · exact h.q1 x hx h1
  · rcases List.mem_append.1 hx with h1 | h1
    · exact h.q4 x h1
    · rw [List.mem_singleton.1 h1]
      exact ⟨hjn, (hO t j d hd hs).2, hcj⟩
  · rcases (pos_set hl hm).1 hpx with rfl | h1
    · exact .inl (List.mem_append_right _ (List.mem_singleton.2 rfl))
    · rcases h.q5 x hx h1 hc hne with h2 | h2
      · exact .inl (List.mem_append_left _ h2)
      · exact .inr fun d hd y hy => (pos_set hl hm).2 (.inr (h2 d hd y hy))
theorem Bfs.done {n : Nat} {st : Nat → Nat → Option Nat} {op : Nat → Bool} {i t : Nat} {old : Nat → Prop} {P : List Int} {todo : List Nat} (h : Bfs n st op i old P todo (fun x => x = t)) (hall : ∀ d, d < 4 → ∀ y, st t d = some y → pos P y) : Bfs n st op i old P todo (fun _ => False) :=
  ⟨h.len, h.q1, h.q2, h.q3, h.q4, fun x hx hp hc _ => by
    by_cases e : x = t
    · subst e; exact .inr hall
    · exact h.q5 x hx hp hc e⟩
theorem Bfs.all {n : Nat} {st : Nat → Nat → Option Nat} (hS : Steps4 n st) {op : Nat → Bool} {i : Nat} {old : Nat → Prop} {P : List Int} (h : Bfs n st op i old P [] (fun _ => False)) (hi : i < n) {x : Nat} (hc : Conn st i x) : pos P x := by
  induction hc with
  | refl => exact h.q3
  | go h1 hd hs ih =>
    rcases h.q5 _ (h1.lt hS hi) ih h1 (fun h => h) with h2 | h2
    · cases h2
    · exact h2 _ hd _ hs
theorem Outer.next {n : Nat} {st : Nat → Nat → Option Nat} (hS : Steps4 n st) {op : Nat → Bool} {i : Nat} {P : List Int} {m : Nat} (hm : m = parts i op st) (hf : First st i) (ho : op i = true) (hi : i < n) (h : Bfs n st op i (oldP st op i) P [] (fun _ => False)) : Outer n st op (i + 1) P (m + 1) := by
  refine ⟨h.len, fun x hx => ⟨fun hp => ?_, fun ⟨y, hy, hoy, hc⟩ => ?_⟩, by rw [(parts_succ i op st).1 ⟨ho, hf⟩, hm]⟩
  · rcases h.q1 x hx hp with ⟨y, hy, hoy, hc⟩ | hc
    · exact ⟨y, by omega, hoy, hc⟩
    · exact ⟨i, by omega, ho, hc⟩
  · rcases Nat.lt_or_ge y i with h1 | h1
    · exact h.q2 x hx ⟨y, h1, hoy, hc⟩
    · obtain rfl : y = i := by omega
      exact h.all hS hi hc
end Go.Proofs.YtonibpilbkafnaaDoor

/- Package grid: near, Count. -/
namespace Go.Proofs.YtonibpilbkafnaaDoor
set_option linter.unusedVariables false
set_option linter.unusedSimpArgs false
open Go.RowKit Go.Lib

/-- the cells a step away, of the first ways -/
def nearTo (st : Nat → Nat → Option Nat) (i : Nat) (d : Nat) : List Nat := (List.range d).filterMap (st i)
theorem nearTo_succ (st : Nat → Nat → Option Nat) (i d : Nat) : nearTo st i (d + 1) = nearTo st i d ++ (st i d).toList := by
  unfold nearTo
  rw [List.range_succ, List.filterMap_append]
  have e : [d].filterMap (st i) = (st i d).toList := by cases h : st i d <;> simp [h]
  rw [e]
theorem nearTo_len (st : Nat → Nat → Option Nat) (i d : Nat) : (nearTo st i d).length ≤ d := by
  have := List.length_filterMap_le (st i) (List.range d)
  rwa [List.length_range] at this
theorem mem_near {st : Nat → Nat → Option Nat} {i j : Nat} : j ∈ nearTo st i 4 ↔ ∃ d, d < 4 ∧ st i d = some j := by
  unfold nearTo
  rw [List.mem_filterMap]
  constructor
  · rintro ⟨d, hd, h⟩; exact ⟨d, List.mem_range.1 hd, h⟩
  · rintro ⟨d, hd, h⟩; exact ⟨d, List.mem_range.2 hd, h⟩
theorem step_all (v : Value) (g : Gd) (i d B : Nat) (W : World) (h : GdAt W B v g) (hB : B ≤ W.heap.size) (hg : OkG g) (hi : i < gN g) (hb : gt g.B i = false) (hd : d < 4) :
    Calls Tryd.prog 40 #[v, .int .i64 (i : Nat), .int .i64 (d : Nat)] W fun e w' => e = stpV (gS g i d) ∧ Below W.heap.size W w' := by
  rcases four hd with rfl | rfl | rfl | rfl
  · exact step0_any v g i B W h hB hg hi hb
  · exact step1_any v g i B W h hB hg hi hb
  · exact step2_any v g i B W h hB hg hi hb
  · exact step3_any v g i B W h hB hg hi hb
set_option maxHeartbeats 8000000 in
set_option maxRecDepth 100000 in
theorem near_any (v : Value) (g : Gd) (i B : Nat) (w : World) (h : GdAt w B v g) (hB : B ≤ w.heap.size) (hg : OkG g) (hi : i < gN g) (hb : gt g.B i = false) :
    Calls Tryd.prog 30 #[v, .int .i64 (i : Nat)] w fun e w' => ∃ A c, e = .returned (.slice A (nearTo (gS g) i 4).length c) ∧ w'.ownsRow w.heap.size 3 1 (.slice A (nearTo (gS g) i 4).length c) (nearTo (gS g) i 4).length (ints (nearTo (gS g) i 4)) ∧ Below w.heap.size w w' := by
  have cs := fun (d : Nat) (W : World) (hd : d < 4) (hb2 : Below w.heap.size w W) => step_all v g i d B W (h.below (hb2.mono hB)) (Nat.le_trans hB hb2.size) hg hi hb hd
  obtain ⟨Ab, Ar, Ad, cb, cr, cd, rfl⟩ := h.form
  clear h hg hb hi
  obtain ⟨i0, hi0, hz0, hz1, hz2⟩ := info_parts infoInt
  have CS := Lib.hid cs; clear cs
  unfold gS at *
  generalize stW g.H.toNat g.W.toNat (gt g.B) (gt g.R) (gt g.D) = st at *
  obtain ⟨gH, gW, gB, gR, gD⟩ := g
  simp only [gdV] at CS ⊢
  generalize gB.length = nb at *
  generalize gR.length = nr at *
  generalize gD.length = nd at *
  have HBX := Lib.hid hB; clear hB
  go_enter Tryd.func30, Tryd.ntmps30
  go_wp2
  have hw0 := World.alloc_heap_new w (.cells #[.int .i64 gH, .int .i64 gW, .slice Ab nb cb, .slice Ar nr cr, .slice Ad nd cd] 27)
  have hb0 : Below w.heap.size w _ := (Below.refl _ w).alloc (Nat.le_refl _) (.cells #[.int .i64 gH, .int .i64 gW, .slice Ab nb cb, .slice Ar nr cr, .slice Ad nd cd] 27)
  generalize w.alloc (.cells #[.int .i64 gH, .int .i64 gW, .slice Ab nb cb, .slice Ar nr cr, .slice Ad nd cd] 27) = W0 at *
  have HW0 := Lib.hid hw0; have HB0 := Lib.hid hb0
  clear hw0 hb0
  go_loopg [5, 6, 7, 8, 9] 4 (fun gf u5 _ _ _ u9 wr => ∃ k : Nat, u9 = .int .i64 k ∧ k ≤ 4 ∧ 4 ≤ k + gf ∧ Hid (Below w.heap.size w wr) ∧ Hid (wr.heap[w.heap.size]? = some (.cells #[.int .i64 gH, .int .i64 gW, .slice Ab nb cb, .slice Ar nr cr, .slice Ad nd cd] 27 (0, 0))) ∧
    ∃ (acc : List Nat) (A : Option Addr) (c : Nat), u5 = .slice A acc.length c ∧ Hid (acc = nearTo st i k) ∧ acc.length ≤ 4 ∧ Hid (wr.ownsRow (w.heap.size + 1) 3 1 (.slice A acc.length c) acc.length (ints acc)))
  case atStart => exact ⟨0, rfl, Nat.zero_le _, by omega, HB0, HW0, [], none, 0, rfl, Lib.hid rfl, by simp, Lib.hid (World.ownsRow_nil _ _ _ _)⟩
  case round =>
    rename World => w5
    obtain ⟨k, rfl, hk, hfu, HB5, HW5, acc, A, c, rfl, HAC, hal, HO⟩ := hrel
    have z5 : w.heap.size + 1 ≤ w5.heap.size := (Array.getElem?_eq_some_iff.1 HW5.out).1
    by_cases hlt : k < 4
    · obtain ⟨g', rfl⟩ : ∃ g', gk = g' + 1 := ⟨gk - 1, by omega⟩
      have p0 := Lib.cell_of_heap HW5.out 0
      have p1 := Lib.cell_of_heap HW5.out 1
      have p2 := Lib.cell_of_heap HW5.out 2
      have p3 := Lib.cell_of_heap HW5.out 3
      have p4 := Lib.cell_of_heap HW5.out 4
      go_wp2_with fail
      refine (CS.out k w5 hlt HB5.out).mono ?_
      rintro e w6 ⟨rfl, hb6⟩
      have z6 := hb6.size
      have HB6 := Lib.hid (HB5.out.trans (hb6.mono (by omega)))
      have HW6 := Lib.hid ((hb6.block w.heap.size (by omega)).trans HW5.out)
      have hown := own_belowS HO.out hb6
      have hn4 := nearTo_len st i (k + 1)
      clear hb6 p0 p1 p2 p3 p4
      cases hs : st i k with
      | some j =>
        have HF : Hid (acc ++ [j] = nearTo st i (k + 1)) := Lib.hid (by rw [nearTo_succ, hs, HAC.out]; rfl)
        have hl4 : acc.length + 1 ≤ 4 := by rw [← HF.out, List.length_append, List.length_singleton] at hn4; omega
        clear hs hn4
        unfold stpV
        go_wp2_with (at_builtin; refine wpList_append_own_at _ rfl (.tmp 20) (.tmp 22) 37 rfl (w.heap.size + 1) 3 i0 (.int .i64 0) 1 8 Tryd.underlying37 hi0 hz0 hz1 hz2 rfl (by decide) _ _ _ rfl (hown.alloc _) ⟨w6.heap.size, 0, none⟩ 1 1 [.int .i64 (j : Int)] rfl rfl (cell_one_new _ _ _) (by simp [Value.oneCell']) (by unfold maxLen; omega) (by omega) (by simp only [World.size_alloc]; omega) ?_; intro v' w7 hown7 hg7 _ _; obtain ⟨A7, c7, rfl⟩ := own_formZ hown7)
        have hb7 : Below w.heap.size w w7 := ((HB6.out.alloc (by omega) (.cells #[.int .i64 (j : Int)] 3)).grown hg7 (by simp only [World.size_alloc]; omega) (fun j hj => Nat.le_of_succ_le (hown.lt j hj).1))
        have hne : Value.ownBlock (.slice A acc.length c) ≠ some w.heap.size := fun e => by have := (hown.lt _ e).1; omega
        have hw7 := (hg7.block w.heap.size (by simp only [World.size_alloc]; omega) (Ne.symm hne)).trans ((Below.heap_alloc _ _ _ (by omega)).trans HW6.out)
        go_roundg g'
        case measure => omega
        case rel => exact ⟨k + 1, by go_num, by omega, by omega, Lib.hid hb7, Lib.hid hw7, acc ++ [j], A7, c7, by rw [List.length_append]; rfl, HF, by rw [List.length_append, List.length_singleton]; omega, Lib.hid (by rw [List.length_append, List.length_singleton, ints, List.map_append]; exact hown7)⟩
      | none =>
        have HF : Hid (acc = nearTo st i (k + 1)) := Lib.hid (by rw [nearTo_succ, hs, HAC.out]; simp)
        clear hs
        unfold stpV
        go_wp2_with fail
        go_roundg g'
        case measure => omega
        case rel => exact ⟨k + 1, by go_num, by omega, by omega, HB6, HW6, acc, A, c, rfl, HF, by omega, Lib.hid hown⟩
    · obtain rfl : 4 = k := by omega
      go_wp2_with fail
      go_ret
      refine ⟨A, c, ?_, ?_, HB5.out⟩
      · rw [← HAC.out]; rfl
      · rw [← HAC.out]; exact own_base HO.out (by omega)
set_option maxHeartbeats 8000000 in
set_option maxRecDepth 100000 in
theorem Count_any (v : Value) (g : Gd) (B : Nat) (w : World) (h : GdAt w B v g) (hB : B ≤ w.heap.size) (hg : OkG g) :
    Calls Tryd.prog 11 #[v] w fun e w' => e = .returned (.int .i64 (cnt (gN g) (fun i => !gt g.B i) : Nat)) ∧ Below w.heap.size w w' := by
  have h256 := (area_le hg).1
  have hlB := hg.b
  have hpos : 0 < g.H.toNat * g.W.toNat := Nat.mul_pos (area_le hg).2.2.2.1 (area_le hg).2.1
  have cch := fun W (hb : Below B w W) (hz : B ≤ W.heap.size) => Check_any v g B W (h.below hb) hz (by have := hg.b; have := hg.r; have := hg.d; omega)
  rw [check_of_ok hg] at cch
  obtain ⟨Ab, Ar, Ad, cb, cr, cd, rfl⟩ := h.form
  obtain ⟨vb, vr, vd, hveq, s1, s2, s3⟩ := h.eq
  clear h hg
  unfold gN
  generalize g.H.toNat * g.W.toNat = n at *
  obtain ⟨gH, gW, gB, gR, gD⟩ := g
  simp only [gdV] at *
  rw [hlB] at cch hveq ⊢
  injection hveq with hveq
  injection hveq with hveq
  simp only [List.cons.injEq, and_true, true_and] at hveq
  obtain ⟨rfl, rfl, rfl⟩ := hveq
  obtain ⟨b1, o1, rfl, zb⟩ := s1.boolsAt hpos
  have ZB := Lib.hid zb
  clear zb s1 s2 s3
  generalize gR.length = nr at *
  generalize gD.length = nd at *
  have CCH := Lib.hid cch; clear cch hlB
  have HB0 := Lib.hid hB; clear hB
  go_enter Tryd.func11, Tryd.ntmps11
  go_wp2_with fail
  have hba : Below w.heap.size w _ := (Below.refl _ w).alloc (Nat.le_refl _) (.cells #[.int .i64 gH, .int .i64 gW, .slice (some ⟨b1, o1, none⟩) n cb, .slice Ar nr cr, .slice Ad nd cd] 27)
  have hg0 := World.alloc_heap_new w (.cells #[.int .i64 gH, .int .i64 gW, .slice (some ⟨b1, o1, none⟩) n cb, .slice Ar nr cr, .slice Ad nd cd] 27)
  have hz3 : w.heap.size + 1 = (w.alloc (.cells #[.int .i64 gH, .int .i64 gW, .slice (some ⟨b1, o1, none⟩) n cb, .slice Ar nr cr, .slice Ad nd cd] 27)).heap.size := by simp
  refine (CCH.out _ (hba.mono HB0.out) (by have := HB0.out; omega)).mono ?_
  rintro e w1 ⟨rfl, hb1⟩
  have hg1 := (hb1.block w.heap.size (by omega)).trans hg0
  have p2 := Lib.cell_of_heap hg1 2
  have z1 := hb1.size
  have HBW := Lib.hid (hba.trans (hb1.mono (by omega)))
  clear hba hg0 hz3 hb1 hg1
  go_wp2_with fail
  clear p2
  go_loopg [3, 5, 12] n (fun gf u3 _ u12 wr => ∃ i m : Nat, u12 = .int .i64 i ∧ i ≤ n ∧ n ≤ i + gf ∧ u3 = .int .i64 m ∧ m ≤ i ∧ Hid (m = cnt i fun i => !gt gB i) ∧ w1 = wr)
  case atStart => exact ⟨0, 0, rfl, Nat.zero_le _, by omega, rfl, Nat.le_refl _, Lib.hid rfl, rfl⟩
  case round =>
    rename World => w2
    obtain ⟨i, m, rfl, hi, hfu, rfl, hmi, HM, rfl⟩ := hrel
    by_cases hlt : i < n
    · obtain ⟨g', rfl⟩ : ∃ g', gk = g' + 1 := ⟨gk - 1, by omega⟩
      obtain ⟨x, hx⟩ : ∃ x, gt gB i = x := ⟨_, rfl⟩
      have q : w1.cell? ⟨b1, o1 + i, none⟩ = some (.bool x) := keepC HBW.out ((ZB.out i hlt).trans (by rw [← hx]))
      have i1 : (0 : Int) ≤ (i : Int) := by omega
      have i2 : (i : Int) < (n : Int) := by omega
      cases x with
      | true =>
        have HM2 : Hid (m = cnt (i + 1) fun i => !gt gB i) := Lib.hid (by rw [cnt_succ, hx, ← HM.out]; simp)
        clear hx
        go_wp2_with fail
        go_roundg g'
        case measure => omega
        case rel => exact ⟨i + 1, m, by go_num, by omega, by omega, rfl, by omega, HM2, rfl⟩
      | false =>
        have HM2 : Hid (m + 1 = cnt (i + 1) fun i => !gt gB i) := Lib.hid (by rw [cnt_succ, hx, ← HM.out]; simp)
        clear hx
        go_wp2_with fail
        go_roundg g'
        case measure => omega
        case rel => exact ⟨i + 1, m + 1, by go_num, by omega, by omega, by go_num, by omega, HM2, rfl⟩
    · obtain rfl : n = i := by omega
      go_wp2_with fail
      go_ret
      exact ⟨by rw [← HM.out]; rfl, HBW.out⟩
end Go.Proofs.YtonibpilbkafnaaDoor

/- Package slots: Seats: rows of seats in memory. -/
namespace Go.Proofs.YtonibpilbkafnaaDoor
set_option linter.unusedVariables false
set_option linter.unusedSimpArgs false
open Go.RowKit Go.Lib

/-- seats as cells -/
def seatV : List (Int × Int) → List Value
  | [] => []
  | p :: l => .int .i64 p.1 :: .int .i64 p.2 :: seatV l
theorem seatV_len : ∀ l, (seatV l).length = l.length * 2
  | [] => rfl
  | p :: l => by simp only [seatV, List.length_cons, seatV_len l]; omega
theorem seatV_append : ∀ a b, seatV (a ++ b) = seatV a ++ seatV b
  | [], b => rfl
  | p :: a, b => by simp only [List.cons_append, seatV, seatV_append a b]
theorem seatV_get : ∀ (l : List (Int × Int)) (i : Nat) (p : Int × Int), l[i]? = some p → (seatV l)[i * 2]? = some (.int .i64 p.1) ∧ (seatV l)[i * 2 + 1]? = some (.int .i64 p.2)
  | [], i, p, h => by simp at h
  | q :: l, 0, p, h => by simp only [List.getElem?_cons_zero, Option.some.injEq] at h; subst h; exact ⟨rfl, rfl⟩
  | q :: l, i + 1, p, h => by
    rw [List.getElem?_cons_succ] at h
    obtain ⟨h1, h2⟩ := seatV_get l i p h
    have e1 : (i + 1) * 2 = i * 2 + 1 + 1 := by omega
    rw [e1]
    simp only [seatV, List.getElem?_cons_succ]
    exact ⟨h1, h2⟩
theorem seatV_set : ∀ (l : List (Int × Int)) (i : Nat) (a b : Int), ((seatV l).set (i * 2) (.int .i64 a)).set (i * 2 + 1) (.int .i64 b) = seatV (l.set i (a, b))
  | [], i, a, b => by simp [seatV]
  | q :: l, 0, a, b => rfl
  | q :: l, i + 1, a, b => by
    have e1 : (i + 1) * 2 = i * 2 + 1 + 1 := by omega
    rw [e1]
    simp only [seatV, List.set_cons_succ, seatV_set l i a b]
theorem infoSeat : (Tryd.prog.info? 77).map (fun i => (i.zero, i.size, i.bytes)) = some (some (.agg #[.int .i64 0, .int .i64 0]), 2, 16) := by kernel_rfl
/-- which cells a row of seats marks -/
structure MK (l : List (Int × Int)) (n : Nat) (q : Nat → Bool) : Prop where
  len : l.length = n
  at_ : ∀ (i : Nat) (p : Int × Int), l[i]? = some p → decide (0 ≤ p.1) = q i
theorem MK.set {l : List (Int × Int)} {n i0 : Nat} {q : Nat → Bool} (h : MK l n q) (a b : Int) (ha : 0 ≤ a) : MK (l.set i0 (a, b)) n fun i => q i || decide (i = i0) := by
  refine ⟨by rw [List.length_set]; exact h.len, fun i p hp => ?_⟩
  rw [List.getElem?_set] at hp
  by_cases e : i0 = i
  · rw [if_pos e] at hp
    split at hp
    · injection hp with hp
      subst hp
      rw [decide_eq_true e.symm, decide_eq_true ha, Bool.or_true]
    · cases hp
  · rw [if_neg e] at hp
    rw [show decide (i = i0) = false from decide_eq_false (fun h9 => e h9.symm), Bool.or_false]
    exact h.at_ i p hp
theorem MK.congr {l : List (Int × Int)} {n : Nat} {q r : Nat → Bool} (h : MK l n q) (e : ∀ i, i < n → q i = r i) : MK l n r :=
  ⟨h.len, fun i p hp => (h.at_ i p hp).trans (e i (by have := (List.getElem?_eq_some_iff.1 hp).1; rw [h.len] at this; exact this))⟩
theorem MK.new (n : Nat) : MK (List.replicate n ((-1 : Int), (0 : Int))) n fun _ => false :=
  ⟨List.length_replicate, fun i p hp => by
    rw [List.getElem?_replicate] at hp
    split at hp
    · injection hp with hp; subst hp; rfl
    · cases hp⟩
/-- does a slot of a way hold a cell? -/
def markd (w : Bool) (L : List (Bool × List Nat)) (i : Nat) : Bool := L.any fun s => (s.1 == w) && s.2.contains i
theorem markd_snoc (w : Bool) (L : List (Bool × List Nat)) (s : Bool × List Nat) (i : Nat) : markd w (L ++ [s]) i = (markd w L i || ((s.1 == w) && s.2.contains i)) := by unfold markd; rw [List.any_append]; simp
theorem markd_in {n : Nat} {st : Nat → Nat → Option Nat} {i : Nat} (d : Nat) (hd : d < 2) : markd (decide (d = 1)) (slotsL st n n) i = true ↔ InSlot st n d i := by
  unfold markd InSlot
  rw [List.any_eq_true]
  constructor
  · rintro ⟨s, hs, h⟩
    rw [Bool.and_eq_true, beq_iff_eq, List.contains_iff_mem] at h
    obtain ⟨i0, d0, h1, h2, h3, rfl⟩ := mem_slotsL.1 hs
    have e : d0 = d := by
      have h9 := h.1
      simp only at h9
      rcases (by omega : d0 = 0 ∨ d0 = 1) with rfl | rfl <;> rcases (by omega : d = 0 ∨ d = 1) with rfl | rfl <;> first | rfl | (exfalso; revert h9; decide)
    subst e
    exact ⟨i0, h1, h3, h.2⟩
  · rintro ⟨i0, h1, h2, h3⟩
    refine ⟨_, mem_slotsL.2 ⟨i0, d, h1, hd, h2, rfl⟩, ?_⟩
    rw [Bool.and_eq_true, beq_iff_eq, List.contains_iff_mem]
    exact ⟨rfl, h3⟩
/-- cells in slots of both ways are the crossings -/
theorem cross_cnt {g : Gd} : cnt (gN g) (fun i => markd false (slotsL (gS g) (gN g) (gN g)) i && markd true (slotsL (gS g) (gN g) (gN g)) i) = cnt (gN g) (cr (gS g)) := by
  refine cnt_congr fun i hi => ?_
  rw [Bool.eq_iff_iff, Bool.and_eq_true, ← inSlot_bool (steps_g g) hi]
  have h0 := markd_in (n := gN g) (st := gS g) (i := i) 0 (by omega)
  have h1 := markd_in (n := gN g) (st := gS g) (i := i) 1 (by omega)
  exact and_congr h0 h1
/-- two rows of seats in memory, their slices in an array -/
structure SeatsAt (W : World) (bs g0 c0 g1 c1 n : Nat) (l0 l1 : List (Int × Int)) : Prop where
  box : W.heap[bs]? = some (.cells #[.slice (some ⟨g0, 0, none⟩) n c0, .slice (some ⟨g1, 0, none⟩) n c1] 89 (0, 0))
  o0 : W.ownsRow (bs + 1) 77 2 (.slice (some ⟨g0, 0, none⟩) n c0) n (seatV l0)
  o1 : W.ownsRow (bs + 1) 77 2 (.slice (some ⟨g1, 0, none⟩) n c1) n (seatV l1)
  ne : g0 ≠ g1
theorem SeatsAt.below {W W' : World} {bs g0 c0 g1 c1 n : Nat} {l0 l1 : List (Int × Int)} (h : SeatsAt W bs g0 c0 g1 c1 n l0 l1) (hb : Below W.heap.size W W') : SeatsAt W' bs g0 c0 g1 c1 n l0 l1 :=
  ⟨(hb.block _ (Array.getElem?_eq_some_iff.1 h.box).1).trans h.box, own_belowS h.o0 hb, own_belowS h.o1 hb, h.ne⟩
theorem SeatsAt.put0 {W : World} {bs g0 c0 g1 c1 n : Nat} {l0 l1 : List (Int × Int)} (h : SeatsAt W bs g0 c0 g1 c1 n l0 l1) (i : Nat) (a b : Int) :
    SeatsAt ((W.setCell ⟨g0, i * 2, none⟩ (.int .i64 a)).setCell ⟨g0, i * 2 + 1, none⟩ (.int .i64 b)) bs g0 c0 g1 c1 n (l0.set i (a, b)) l1 := by
  have h0 := (h.o0.lt g0 rfl).1
  refine ⟨?_, ?_, ?_, h.ne⟩
  · exact (Below.heap_setCell _ ⟨g0, i * 2 + 1, none⟩ _ bs (show bs ≠ g0 by omega)).trans ((Below.heap_setCell _ ⟨g0, i * 2, none⟩ _ bs (show bs ≠ g0 by omega)).trans h.box)
  · have := ((h.o0.stored (i * 2) (.int .i64 a)).1.stored (i * 2 + 1) (.int .i64 b)).1
    rw [seatV_set] at this
    exact this
  · exact ownsRow_setCell_other (ownsRow_setCell_other h.o1 (a := ⟨g0, i * 2, none⟩) (by simp [Value.ownBlock]; exact Ne.symm h.ne) _) (a := ⟨g0, i * 2 + 1, none⟩) (by simp [Value.ownBlock]; exact Ne.symm h.ne) _
theorem SeatsAt.put1 {W : World} {bs g0 c0 g1 c1 n : Nat} {l0 l1 : List (Int × Int)} (h : SeatsAt W bs g0 c0 g1 c1 n l0 l1) (i : Nat) (a b : Int) :
    SeatsAt ((W.setCell ⟨g1, i * 2, none⟩ (.int .i64 a)).setCell ⟨g1, i * 2 + 1, none⟩ (.int .i64 b)) bs g0 c0 g1 c1 n l0 (l1.set i (a, b)) := by
  have h0 := (h.o1.lt g1 rfl).1
  refine ⟨?_, ?_, ?_, h.ne⟩
  · exact (Below.heap_setCell _ ⟨g1, i * 2 + 1, none⟩ _ bs (show bs ≠ g1 by omega)).trans ((Below.heap_setCell _ ⟨g1, i * 2, none⟩ _ bs (show bs ≠ g1 by omega)).trans h.box)
  · exact ownsRow_setCell_other (ownsRow_setCell_other h.o0 (a := ⟨g1, i * 2, none⟩) (by simp [Value.ownBlock]; exact h.ne) _) (a := ⟨g1, i * 2 + 1, none⟩) (by simp [Value.ownBlock]; exact h.ne) _
  · have := ((h.o1.stored (i * 2) (.int .i64 a)).1.stored (i * 2 + 1) (.int .i64 b)).1
    rw [seatV_set] at this
    exact this
theorem SlotsAt.setBelow {W : World} {B g i : Nat} {u v : Value} {vs : List Value} {L : List (Bool × List Nat)} (h : SlotsAt W B v vs L) (hg : g < B) : SlotsAt (W.setCell ⟨g, i, none⟩ u) B v vs L :=
  ⟨ownsRow_setCell_below h.own (a := ⟨g, i, none⟩) hg _, fun j s hs => by obtain ⟨m, x, e1, e2, e3, o⟩ := h.row j s hs; exact ⟨m, x, e1, e2, e3, ownsRow_setCell_below o (a := ⟨g, i, none⟩) hg _⟩⟩
theorem own_row_new {W : World} {B n : Nat} {v : Value} {xs : List Value} {e sz : Nat} (h : W.ownsRow B e sz v n xs) (hn : 0 < n) : ∃ g c, v = .slice (some ⟨g, 0, none⟩) n c := by
  obtain ⟨g, c, hv, _⟩ := own_headZ h hn
  exact ⟨g, c, hv⟩
end Go.Proofs.YtonibpilbkafnaaDoor
