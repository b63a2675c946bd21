/- All ways of a text, in plain Lean: as many as are counted, no two the same, each joined to the text. Package alpha: all ways: what an append of one number does to a row and the blocks beside it; what the iterator keeps of memory. -/
import Derived.Test.YtlkabghpcjlohaaX7
import Derived.Test.YtlkabghpcjlohaaX2
import Derived.Test.YtlkabghpcjlohaaP8
namespace Go.Proofs.Ytlkabghpcjlohaa
set_option linter.unusedVariables false
set_option linter.unusedSimpArgs false

def waysF (xs : List (List UInt8)) (o : List Nat) : Nat → List UInt8 → List (List Nat)
  | _, [] => [[]]
  | 0, _ => []
  | f + 1, r => ((o.filter (std xs r)).map fun i => (waysF xs o f (r.drop (nm xs i).length)).map (fun l => i :: l)).flatten
theorem waysF_nil (xs : List (List UInt8)) (o : List Nat) (f : Nat) : waysF xs o f [] = [[]] := by cases f <;> rfl
theorem waysF_cons (xs : List (List UInt8)) (o : List Nat) (f : Nat) {r : List UInt8} (hr : r ≠ []) : waysF xs o (f + 1) r = ((o.filter (std xs r)).map fun i => (waysF xs o f (r.drop (nm xs i).length)).map (fun l => i :: l)).flatten := by
  cases r with
  | nil => exact absurd rfl hr
  | cons b t => rw [waysF]; simp
theorem waysF_more (xs : List (List UInt8)) (o : List Nat) : ∀ (f g : Nat) (r : List UInt8), r.length ≤ f → r.length ≤ g → waysF xs o f r = waysF xs o g r
  | f, g, [], _, _ => by rw [waysF_nil, waysF_nil]
  | 0, g, b :: t, h, _ => by simp at h
  | f + 1, 0, b :: t, _, h => by simp at h
  | f + 1, g + 1, b :: t, h1, h2 => by
    rw [waysF_cons xs o f (by simp), waysF_cons xs o g (by simp)]
    congr 1
    refine List.map_congr_left fun i hi => ?_
    have hs := (List.mem_filter.1 hi).2
    have hn := (std_iff.1 hs).1
    have hl : 1 ≤ (nm xs i).length := List.length_pos_iff.2 hn
    have hd : ((b :: t).drop (nm xs i).length).length ≤ t.length := by rw [List.length_drop, List.length_cons]; omega
    rw [List.length_cons] at h1 h2
    rw [waysF_more xs o f g _ (by omega) (by omega)]
def waysL (xs : List (List UInt8)) (o : List Nat) (r : List UInt8) : List (List Nat) := waysF xs o r.length r
theorem waysL_nil (xs : List (List UInt8)) (o : List Nat) : waysL xs o [] = [[]] := rfl
theorem waysL_cons (xs : List (List UInt8)) (o : List Nat) {r : List UInt8} (hr : r ≠ []) : waysL xs o r = ((o.filter (std xs r)).map fun i => (waysL xs o (r.drop (nm xs i).length)).map (fun l => i :: l)).flatten := by
  unfold waysL
  obtain ⟨n, hn⟩ : ∃ n, r.length = n + 1 := ⟨r.length - 1, by have := List.length_pos_iff.2 hr; omega⟩
  rw [hn, waysF_cons xs o n hr]
  congr 1
  refine List.map_congr_left fun i hi => ?_
  have hl : 1 ≤ (nm xs i).length := List.length_pos_iff.2 (std_iff.1 (List.mem_filter.1 hi).2).1
  rw [waysF_more xs o _ _ _ (show (r.drop (nm xs i).length).length ≤ n by rw [List.length_drop]; omega) (Nat.le_refl _)]
/-- the ways that begin with one of the first k letters tried -/
def partW (xs : List (List UInt8)) (o : List Nat) (r : List UInt8) (k : Nat) : List (List Nat) := (((o.take k).filter (std xs r)).map fun i => (waysL xs o (r.drop (nm xs i).length)).map (fun l => i :: l)).flatten
theorem partW_zero (xs : List (List UInt8)) (o : List Nat) (r : List UInt8) : partW xs o r 0 = [] := by simp [partW]
theorem partW_all (xs : List (List UInt8)) (o : List Nat) {r : List UInt8} (hr : r ≠ []) : partW xs o r o.length = waysL xs o r := by
  rw [waysL_cons xs o hr]
  unfold partW
  rw [List.take_length]
theorem partW_succ (xs : List (List UInt8)) (o : List Nat) (r : List UInt8) {k : Nat} (hk : k < o.length) :
    partW xs o r (k + 1) = partW xs o r k ++ if std xs r (o.getD k 0) then (waysL xs o (r.drop (nm xs (o.getD k 0)).length)).map (fun l => o.getD k 0 :: l) else [] := by
  unfold partW
  have e : o.getD k 0 = o[k] := by rw [List.getD_eq_getElem?_getD, List.getElem?_eq_getElem hk]; rfl
  rw [List.take_succ_eq_append_getElem hk, List.filter_append, List.map_append, List.flatten_append, e]
  congr 1
  by_cases h : std xs r o[k] = true
  · simp [h]
  · simp [h]

theorem min_sum (M : Nat) (p : Nat → Bool) (c d : Nat → Nat) : ∀ l : List Nat, (∀ i ∈ l, p i = true → c i = min M (d i)) → min M ((l.map fun i => if p i then c i else 0).sum) = min M ((l.map fun i => if p i then d i else 0).sum)
  | [], _ => rfl
  | i :: l, h => by
    have ih := min_sum M p c d l (fun j hj => h j (List.mem_cons_of_mem _ hj))
    rw [List.map_cons, List.map_cons, List.sum_cons, List.sum_cons]
    cases hp : p i with
    | true => rw [if_pos rfl, if_pos rfl, h i (List.mem_cons_self ..) hp]; omega
    | false => rw [if_neg (by simp), if_neg (by simp)]; omega
theorem flat_sum (p : Nat → Bool) (g : Nat → List (List Nat)) : ∀ l : List Nat, (((l.filter p).map g).flatten).length = (l.map fun i => if p i then (g i).length else 0).sum
  | [] => rfl
  | i :: l => by
    have ih := flat_sum p g l
    rw [List.map_cons, List.sum_cons]
    cases hp : p i with
    | true => rw [List.filter_cons_of_pos hp, List.map_cons, List.flatten_cons, List.length_append, ih, if_pos rfl]
    | false => rw [List.filter_cons_of_neg (by simp [hp]), ih, if_neg (by simp)]; omega
/-- as many ways as are counted, at most maxWays -/
theorem ways_len {xs : List (List UInt8)} {o : List Nat} (ho : Ord xs o) : ∀ (n : Nat) (r : List UInt8), r.length ≤ n → cntL xs r = min maxWays (waysL xs o r).length
  | _, [], _ => by rw [cntL_nil, waysL_nil]; rfl
  | 0, b :: t, h => by simp at h
  | n + 1, b :: t, h => by
    rw [cntL_ord ho (by simp), addAll_eq _ _ _ _ (Nat.zero_le _), waysL_cons xs o (by simp), flat_sum, Nat.zero_add]
    refine min_sum _ _ _ _ _ fun i _ hs => ?_
    have hl : 1 ≤ (nm xs i).length := List.length_pos_iff.2 (std_iff.1 hs).1
    rw [List.length_map]
    exact ways_len ho n _ (by rw [List.length_drop, List.length_cons] at *; omega)
theorem ways_zero {xs : List (List UInt8)} {o : List Nat} (ho : Ord xs o) {r : List UInt8} (h : cntL xs r = 0) : waysL xs o r = [] := by
  have := ways_len ho r.length r (Nat.le_refl _)
  unfold maxWays at this
  exact List.length_eq_zero_iff.1 (by omega)
theorem ways_join (xs : List (List UInt8)) (o : List Nat) : ∀ (n : Nat) (r : List UInt8), r.length ≤ n → ∀ l ∈ waysL xs o r, joinC xs l = r ∧ (∀ i ∈ l, i < xs.length) ∧ l.length ≤ r.length
  | _, [], _, l, hl => by
    rw [waysL_nil] at hl
    obtain rfl := List.mem_singleton.1 hl
    exact ⟨rfl, ⟨fun i (hi : i ∈ ([] : List Nat)) => absurd hi (by simp), Nat.le_refl _⟩⟩
  | 0, b :: t, h, l, hl => by simp at h
  | n + 1, b :: t, h, l, hl => by
    rw [waysL_cons xs o (by simp)] at hl
    obtain ⟨L, hL, hlL⟩ := List.mem_flatten.1 hl
    obtain ⟨i, hi, rfl⟩ := List.mem_map.1 hL
    obtain ⟨l', hl', rfl⟩ := List.mem_map.1 hlL
    have hs := (List.mem_filter.1 hi).2
    have h1 : 1 ≤ (nm xs i).length := List.length_pos_iff.2 (std_iff.1 hs).1
    have hd := std_drop hs
    have hz : ((b :: t).drop (nm xs i).length).length + (nm xs i).length = (b :: t).length := by
      have := congrArg List.length hd
      rw [List.length_append] at this
      omega
    obtain ⟨e1, e2, e3⟩ := ways_join xs o n _ (by simp only [List.length_cons] at h hz ⊢; omega) l' hl'
    refine ⟨by rw [joinC_cons, e1]; exact hd.symm, fun j hj => ?_, ?_⟩
    · rcases List.mem_cons.1 hj with rfl | hj
      · exact std_lt hs
      · exact e2 j hj
    · have h9 : (i :: l').length = l'.length + 1 := rfl
      omega
theorem ways_nodup {xs : List (List UInt8)} {o : List Nat} (ho : Ord xs o) : ∀ (n : Nat) (r : List UInt8), r.length ≤ n → (waysL xs o r).Nodup
  | _, [], _ => by rw [waysL_nil]; simp
  | 0, b :: t, h => by simp at h
  | n + 1, b :: t, h => by
    have hnd : o.Nodup := (ho.perm.nodup_iff).2 List.nodup_range
    rw [waysL_cons xs o (by simp), List.Nodup, List.pairwise_flatten]
    constructor
    · intro L hL
      obtain ⟨i, hi, rfl⟩ := List.mem_map.1 hL
      have hs := (List.mem_filter.1 hi).2
      have h1 : 1 ≤ (nm xs i).length := List.length_pos_iff.2 (std_iff.1 hs).1
      have ih := ways_nodup ho n ((b :: t).drop (nm xs i).length) (by rw [List.length_drop, List.length_cons] at *; omega)
      rw [List.pairwise_map]
      exact ih.imp fun h e => h (by injection e)
    · rw [List.pairwise_map]
      refine (List.Pairwise.filter _ hnd).imp fun hne x hx y hy e => ?_
      obtain ⟨l1, _, rfl⟩ := List.mem_map.1 hx
      obtain ⟨l2, _, rfl⟩ := List.mem_map.1 hy
      injection e with e1 e2
      exact hne e1
open Go.RowKit Go.Lib Go.Shelf

theorem own_head1 {w : World} {B e n : Nat} {v : Value} {xs : List Value} (h : w.ownsRow B e 1 v n xs) (hn : 0 < n) : ∃ g cap, v = .slice (some ⟨g, 0, none⟩) n cap ∧ B ≤ g := by
  rcases h.2 with ⟨_, rfl⟩ | ⟨g, cap, cur, rfl, hb, _⟩
  · omega
  · exact ⟨g, cap, rfl, hb⟩
/-- one number appended to a row of the call's own: into its spare room, or into a new block -/
theorem app_one {W : World} {C n q j : Nat} {dv : Value} {done : List Nat} (hrow : W.ownsRow C 3 1 dv n (ints done)) (hq : W.heap[q]? = some (.cells #[.int .i64 (j : Nat)] 3 (0, 0))) (hn : n ≤ 1048576) (hC : C ≤ W.heap.size) :
    ∃ A c w9, (Builtin.append_ #[35, 35] 35 #[dv, .slice (some ⟨q, 0, none⟩) 1 1]).run Try.prog W = .ok (.slice A (n + 1) c) w9 ∧ w9.ownsRow C 3 1 (.slice A (n + 1) c) (n + 1) (ints (done ++ [j])) ∧ W.grownBy w9 dv.ownBlock ∧
      ((∃ g, dv = .slice (some ⟨g, 0, none⟩) n c ∧ A = some ⟨g, 0, none⟩) ∨ (A = some ⟨W.heap.size, 0, none⟩ ∧ Below W.heap.size W w9)) := by
  obtain ⟨i0, hi9, hz0, hz1, hz2⟩ := info_parts infoIntH
  have hnews := World.news_of_block (cs := #[.int .i64 (j : Nat)]) (t := 3) (fr := (0, 0)) hq
  obtain ⟨v9, w9, hr9, hown9, hg9, hiff, hat⟩ := run_append_own_at (P := Try.prog) W C 35 35 3 i0 (.int .i64 0) 1 8 Try.underlying35 hi9 hz0 hz1 hz2 rfl (by decide) dv n (ints done) hrow ⟨q, 0, none⟩ 1 1 [.int .i64 (j : Nat)] rfl hnews (by simp [Value.oneCell']) (by unfold maxLen; omega) (by omega) hC
  obtain ⟨g9, c9, rfl, _⟩ := own_head1 hown9 (by omega)
  have e9 : ints done ++ [.int .i64 (j : Nat)] = ints (done ++ [j]) := by simp [ints]
  rw [e9] at hown9
  refine ⟨_, _, _, hr9, hown9, hg9, ?_⟩
  have hfresh : g9 = W.heap.size → Below W.heap.size W w9 → _ := fun h1 h2 => Or.inr (a := ∃ g, dv = .slice (some ⟨g, 0, none⟩) n c9 ∧ some (⟨g9, 0, none⟩ : Addr) = some ⟨g, 0, none⟩) (⟨by rw [h1], h2⟩ : (some (⟨g9, 0, none⟩ : Addr) = some ⟨W.heap.size, 0, none⟩ ∧ Below W.heap.size W w9))
  rcases hrow.2 with ⟨rfl, rfl⟩ | ⟨g, cap, cur, rfl, hbg, hgh, hnc, hcm, hcs, htake⟩
  · refine hfresh ?_ ⟨hg9.os, hg9.tape, hg9.output, hg9.size, fun k hk => hg9.block k hk (by simp [Value.ownBlock])⟩
    rcases hat with h | h
    · simp [Value.ownBlock] at h
    · simpa [Value.ownBlock] using h
  · by_cases hroom : n + 1 ≤ cap
    · have hr := run_append_room (P := Try.prog) W 35 35 3 i0 Try.underlying35 hi9 g n cap cur hgh ⟨q, 0, none⟩ 1 1 [.int .i64 (j : Nat)] (by rw [hz1]; rfl) hnews (by simp [Value.oneCell']) hroom (by rw [hz1]; simp; omega)
      rw [hr] at hr9
      injection hr9 with h1 h2
      injection h1 with h3 h4 h5
      injection h3 with h3
      injection h3 with h6
      subst h6; subst h5
      exact .inl ⟨g, rfl, rfl⟩
    · have hr := run_append_grow (P := Try.prog) W 35 35 3 i0 (.int .i64 0) Try.underlying35 hi9 hz0 ⟨g, 0, none⟩ n cap (ints done) (by rw [hz1]; exact hrow.1) (hrow.cells rfl) ⟨q, 0, none⟩ 1 1 [.int .i64 (j : Nat)] (by rw [hz1]; rfl) hnews (by omega) (by omega) (growslice_fits (by omega) (by rw [hz2]; omega))
      rw [hr] at hr9
      injection hr9 with h1 h2
      injection h1 with h3 h4 h5
      injection h3 with h3
      injection h3 with h6
      exact hfresh h6.symm (by rw [← h2]; exact (Below.refl _ W).drew.alloc (Nat.le_refl _) _)

/-- these blocks, but one, are as they were -/
structure Kpx (M : Nat → Prop) (x : Option Nat) (W W' : World) : Prop where
  os : W'.os = W.os
  tape : W'.tape = W.tape
  output : W'.output = W.output
  size : W.heap.size ≤ W'.heap.size
  block : ∀ k, k < W.heap.size → M k → some k ≠ x → W'.heap[k]? = W.heap[k]?
theorem Kpx.refl (M : Nat → Prop) (x : Option Nat) (W : World) : Kpx M x W W := ⟨rfl, rfl, rfl, Nat.le_refl _, fun _ _ _ _ => rfl⟩
theorem Kpx.trans {M : Nat → Prop} {x : Option Nat} {a b c : World} (h : Kpx M x a b) (k : Kpx M x b c) : Kpx M x a c :=
  ⟨k.os.trans h.os, k.tape.trans h.tape, k.output.trans h.output, Nat.le_trans h.size k.size, fun i hi hm hx => (k.block i (Nat.lt_of_lt_of_le hi h.size) hm hx).trans (h.block i hi hm hx)⟩
theorem Kpx.of_below {M : Nat → Prop} {x : Option Nat} {a b : World} (h : Below a.heap.size a b) : Kpx M x a b := ⟨h.os, h.tape, h.output, h.size, fun i hi _ _ => h.block i hi⟩
theorem Kpx.of_grown {M : Nat → Prop} {x : Option Nat} {a b : World} (h : a.grownBy b x) : Kpx M x a b := ⟨h.os, h.tape, h.output, h.size, fun i hi _ hx => h.block i hi hx⟩
theorem Kps.kpx {M : Nat → Prop} {x : Option Nat} {a b : World} (h : Kps M a b) : Kpx M x a b := ⟨h.os, h.tape, h.output, h.size, fun i hi hm _ => h.block i hi hm⟩
theorem Stable.below {C : Nat} {J : Told} (hJ : Stable C J) {n : Nat} {M : Nat → Prop} {W W' : World} (h : J n M W) (hb : Below W.heap.size W W') : J n M W' :=
  hJ n M M W W' h ⟨hb.os, hb.tape, hb.output, hb.size, fun k hk _ => hb.block k hk⟩ (fun k hk => .inl hk)
theorem Stable.less {C : Nat} {J : Told} (hJ : Stable C J) {n : Nat} {M M' : Nat → Prop} {W : World} (h : J n M W) (hm : ∀ k, M' k → M k) : J n M' W :=
  hJ n M M' W W h (Stp.refl C M W) (fun k hk => .inl (hm k hk))
theorem own_block {W W' : World} {B e n : Nat} {v : Value} {xs : List Value} (h : W.ownsRow B e 1 v n xs) (hb : ∀ k, v.ownBlock = some k → W'.heap[k]? = W.heap[k]?) : W'.ownsRow B e 1 v n xs := by
  refine ⟨h.1, ?_⟩
  rcases h.2 with h2 | ⟨g, cap, cur, rfl, hB, hg, rest⟩
  · exact .inl h2
  · exact .inr ⟨g, cap, cur, rfl, hB, (hb g rfl).trans hg, rest⟩
/-- a row out of the longer one in its place -/
theorem own_shorter {W : World} {C n c : Nat} {g : Nat} {done : List Nat} {j : Nat} (hd : done.length = n) (h : W.ownsRow C 3 1 (.slice (some ⟨g, 0, none⟩) (n + 1) c) (n + 1) (ints (done ++ [j]))) : W.ownsRow C 3 1 (.slice (some ⟨g, 0, none⟩) n c) n (ints done) := by
  have hl : (ints done).length = n := by simp [ints, hd]
  refine ⟨by rw [hl]; omega, ?_⟩
  rcases h.2 with ⟨h2, _⟩ | ⟨g', cap, cur, e, hB, hg, hn, hm, hs, ht⟩
  · cases h2
  · injection e with e1 e2 e3
    injection e1 with e1
    injection e1 with e4
    subst e4; subst e3
    refine .inr ⟨_, _, cur, rfl, hB, hg, by omega, hm, hs, ?_⟩
    have h3 := congrArg (List.take n) ht
    rw [List.take_take, Nat.min_eq_left (by omega)] at h3
    rw [Nat.mul_one, h3]
    have e9 : ints (done ++ [j]) = ints done ++ [.int .i64 (j : Nat)] := by simp [ints]
    rw [e9, List.take_append_of_le_length (by omega), List.take_of_length_le (by omega)]

/-- the iterator's blocks with those of a longer row -/
def M2 (M : Nat → Prop) (A : Option Addr) (n c : Nat) : Nat → Prop := fun k => M k ∨ (Value.slice A (n + 1) c).ownBlock = some k
/-- how a longer row came to be -/
def Longer (C n : Nat) (dv : Value) (done : List Nat) (w5 : World) (A : Option Addr) (c : Nat) (w : World) : Prop :=
  (∃ g, dv = .slice (some ⟨g, 0, none⟩) n c ∧ A = some ⟨g, 0, none⟩) ∨ (∃ g, A = some ⟨g, 0, none⟩ ∧ w5.heap.size ≤ g ∧ w.ownsRow C 3 1 dv n (ints done))
/-- ahead of the deeper call -/
structure PreC (C n i : Nat) (M : Nat → Prop) (J : Told) (dv : Value) (done : List Nat) (j : Nat) (w5 : World) (A : Option Addr) (c : Nat) (w : World) : Prop where
  own : w.ownsRow C 3 1 (.slice A (n + 1) c) (n + 1) (ints (done ++ [j]))
  jn : J i (M2 M A n c) w
  kx : Kpx M dv.ownBlock w5 w
  how : Longer C n dv done w5 A c w
  lt : ∀ k, M2 M A n c k → k < w.heap.size
theorem preC {C0 C n i q j : Nat} {M : Nat → Prop} {J : Told} {dv : Value} {done : List Nat} {w5 W : World} (hJ : Stable C0 J) (hC0 : C0 ≤ C) (jn : J i M w5) (hb : Below w5.heap.size w5 W) (hrow : W.ownsRow C 3 1 dv n (ints done)) (hM : ∀ k, M k → k < w5.heap.size)
    (hdM : ∀ k, dv.ownBlock = some k → M k) (hq : W.heap[q]? = some (.cells #[.int .i64 (j : Nat)] 3 (0, 0))) (hn : n ≤ 1048576) (hC : C ≤ W.heap.size) :
    ∃ A c w9, (Builtin.append_ #[35, 35] 35 #[dv, .slice (some ⟨q, 0, none⟩) 1 1]).run Try.prog W = .ok (.slice A (n + 1) c) w9 ∧ PreC C n i M J dv done j w5 A c w9 ∧ Below C W w9 := by
  obtain ⟨A, c, w9, hr, hown, hg, hhow⟩ := app_one hrow hq hn hC
  have jW := hJ.below jn hb
  have hblk : ∀ k, (Value.slice A (n + 1) c).ownBlock = some k → dv.ownBlock = some k ∨ k = W.heap.size := by
    intro k hk
    rcases hhow with ⟨g, rfl, rfl⟩ | ⟨rfl, _⟩
    · exact .inl hk
    · exact .inr (by simpa [Value.ownBlock] using hk.symm)
  refine ⟨A, c, w9, hr, ⟨hown, ?_, (Kpx.of_below hb).trans (Kpx.of_grown hg), ?_, ?_⟩, (Below.refl C W).grown hg hC (fun k hk => (hrow.lt k hk).1)⟩
  · refine hJ i M _ W w9 jW ⟨hg.os, hg.tape, hg.output, hg.size, fun k hk h => hg.block k hk fun e => ?_⟩ fun k hk => ?_
    · have h1 := hdM k e.symm
      have h2 := (hrow.lt k e.symm).1
      rcases h with h | h
      · omega
      · exact h h1
    · rcases hk with hk | hk
      · exact .inl hk
      · rcases hblk k hk with h | h
        · exact .inl (hdM k h)
        · exact .inr (by omega)
  · rcases hhow with ⟨g, rfl, rfl⟩ | ⟨rfl, hb9⟩
    · exact .inl ⟨g, rfl, rfl⟩
    · exact .inr ⟨W.heap.size, rfl, hb.size, own_block hrow (fun k hk => hb9.block k (hrow.lt k hk).2)⟩
  · intro k hk
    rcases hk with hk | hk
    · exact Nat.lt_of_lt_of_le (hM k hk) (Nat.le_trans hb.size hg.size)
    · exact (hown.lt k hk).2
/-- behind the deeper call -/
theorem postC {C0 C n i i' j c : Nat} {A : Option Addr} {M : Nat → Prop} {J : Told} {dv : Value} {done : List Nat} {w5 w w' : World} (hJ : Stable C0 J) (hd : done.length = n) (h : PreC C n i M J dv done j w5 A c w) (hM : ∀ k, M k → k < w5.heap.size) (hdM : ∀ k, dv.ownBlock = some k → M k)
    (jn : J i' (M2 M A n c) w') (kx : Kpx (M2 M A n c) (Value.slice A (n + 1) c).ownBlock w w') (own : w'.ownsRow C 3 1 (.slice A (n + 1) c) (n + 1) (ints (done ++ [j]))) :
    J i' M w' ∧ Kpx M dv.ownBlock w5 w' ∧ w'.ownsRow C 3 1 dv n (ints done) := by
  refine ⟨hJ.less jn fun k hk => .inl hk, ?_, ?_⟩
  · refine ⟨kx.os.trans h.kx.os, kx.tape.trans h.kx.tape, kx.output.trans h.kx.output, Nat.le_trans h.kx.size kx.size, fun k hk hm hx => (kx.block k (Nat.lt_of_lt_of_le hk h.kx.size) (.inl hm) fun e => ?_).trans (h.kx.block k hk hm hx)⟩
    rcases h.how with ⟨g, rfl, rfl⟩ | ⟨g, rfl, hg, _⟩
    · exact hx e
    · have : k = g := by simpa [Value.ownBlock] using e
      omega
  · rcases h.how with ⟨g, rfl, rfl⟩ | ⟨g, rfl, hg, hrow⟩
    · exact own_shorter hd own
    · refine own_block hrow fun k hk => kx.block k (hrow.lt k hk).2 (.inl (hdM k hk)) fun e => ?_
      have h1 := hM k (hdM k hk)
      have : k = g := by simpa [Value.ownBlock] using e
      omega
end Go.Proofs.Ytlkabghpcjlohaa
