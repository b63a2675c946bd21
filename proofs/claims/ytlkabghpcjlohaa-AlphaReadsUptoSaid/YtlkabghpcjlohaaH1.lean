/- Package alpha: what may be a letter; an alphabet in memory. -/
import Derived.Test.YtlkabghpcjlohaaF1
import Derived.Test.YtlkabghpcjlohaaS1
import Derived.Test.YtlkabghpcjlohaaP7
import Derived.Test.YtlkabghpcjlohaaQ2
import Derived.Maps.OwnSet
import Derived.OneCell
import Derived.Laws.OwnMore
namespace Go.Proofs.Ytlkabghpcjlohaa
set_option linter.unusedVariables false
set_option linter.unusedSimpArgs false
open Go.RowKit Go.Lib Go.Maps

theorem Sl.addr {w : World} {B : Nat} {A : Option Addr} {n c : Nat} {xs : List Value} (h : Sl w B (.slice A n c) xs) (hn : 0 < n) : ∃ b off, A = some ⟨b, off, none⟩ ∧ b < B ∧ ∀ j u, xs[j]? = some u → w.cell? ⟨b, off + j, none⟩ = some u := by
  obtain ⟨A', c', hv, hc, hA⟩ := h
  injection hv with e1 e2 e3
  obtain ⟨ad, e, hB, hcell⟩ := hA (by omega)
  have h0 := hcell 0 _ (List.getElem?_eq_getElem (by omega))
  have hsp : ad.spot = none := by
    cases hs : ad.spot with
    | none => rfl
    | some k =>
      exfalso
      simp only [Addr.add, if_true, World.cell?] at h0
      rw [hs] at h0
      revert h0
      split <;> simp
  refine ⟨ad.block, ad.off, ?_, hB, fun j u hu => ?_⟩
  · rw [e1, e]; obtain ⟨b, o, s⟩ := ad; simp only at hsp; subst hsp; rfl
  · have := hcell j u hu
    unfold Addr.add at this
    split at this
    · rename_i h1
      subst h1
      rw [← this]
      obtain ⟨b, o, s⟩ := ad
      simp only at hsp; subst hsp; rfl
    · exact this

def rightR (rs : List Nat) : Bool := rs.all fun r => decide (cls (r : Int) = 1) && decide (upr (r : Int) = (r : Int))
def rightL (s : List UInt8) : Bool := decide (1 ≤ (runes s).length ∧ (runes s).length ≤ 3) && rightR (runes s)

set_option maxHeartbeats 4000000 in
set_option maxRecDepth 100000 in
theorem right_any (s : ByteArray) (w : World) (hs : s.size ≤ 17592186044416) :
    Calls Try.prog 83 #[.string s] w fun e w' => e = .returned (.bool (rightL (bl s))) ∧ Below w.heap.size w w' := by
  have CC := fun W => Count_any s W (by omega)
  have hC : (chop (bl s)).length = (runes (bl s)).length := (runes_length _).symm
  have hle := chop_length_le (bl s)
  rw [bl_length] at hle
  have hT : ∃ T, T = rightL (bl s) := ⟨_, rfl⟩
  obtain ⟨T, hT⟩ := hT
  rw [← hT]
  have HT := Lib.hid hT; clear hT
  have HC := Lib.hid hC; clear hC
  generalize hN : (chop (bl s)).length = n at *
  have HN := Lib.hid hN; clear hN
  have CC := Lib.hid CC
  by_cases hn : 1 ≤ n ∧ n ≤ 3
  · have hT2 : T = rightR (runes (bl s)) := by rw [HT.out]; unfold rightL; rw [← HC.out, decide_eq_true hn]; rfl
    have HT2 := Lib.hid hT2; clear hT2
    obtain ⟨hn1, hn2⟩ := hn
    go_enter Try.func83, Try.ntmps83
    go_wp2_with (go_at_call 105; refine (CC.out _).mono ?_; rintro e w1 ⟨rfl, hb1⟩)
    have hs1 := hb1.size
    go_loopg [2, 5] s.size (fun gf u2 _ wr => ∃ pos : Nat, wr.heap[w1.heap.size]? = some (.stringIter s pos) ∧ Below w1.heap.size w1 wr ∧ rightR ((chop ((bl s).drop pos)).map (·.1)) = T ∧ pos ≤ s.size ∧ s.size ≤ pos + gf)
    case atStart => exact ⟨0, World.iter_heap w1 s 0, (Below.refl _ w1).alloc (Nat.le_refl _) _, by rw [List.drop_zero]; exact HT2.out.symm, by omega, by omega⟩
    case round =>
      obtain ⟨pos, hit, hbw, hx, hps, hfu⟩ := hrel
      by_cases hp : pos < s.size
      · obtain ⟨g', rfl⟩ : ∃ g', gk = g' + 1 := ⟨gk - 1, by omega⟩
        have hnx : ∀ ty, (Instr.next (.pointer (some ⟨w1.heap.size, 0, none⟩)) true ty).run Try.prog wr = _ := fun ty => Lib.run_next_any_at wr w1.heap.size s pos ty hit hp
        have hwd := Lib.width_pos s pos
        have hwl := width_le s pos hp
        have hrl := Lib.rune_le s pos
        rw [chop_at s pos hp, List.map_cons] at hx
        have hit2 := Lib.iterAt_heap wr w1.heap.size s pos (pos + (Utf8.decode s pos).2) hit
        have hbw2 := Lib.below_iterAt hbw (k := w1.heap.size) (Nat.le_refl _) s (pos + (Utf8.decode s pos).2)
        generalize Utf8.decode s pos = d at *
        have hst : rightR (d.1 :: (chop ((bl s).drop (pos + d.2))).map (·.1)) = (decide (cls (d.1 : Int) = 1) && decide (upr (d.1 : Int) = (d.1 : Int)) && rightR ((chop ((bl s).drop (pos + d.2))).map (·.1))) := by
          unfold rightR; rw [List.all_cons]
        rw [hst] at hx
        have HX := Lib.hid hx; clear hx hst
        have cK := Class_any (d.1 : Int)
        have cU := fun W => Upper_any (d.1 : Int) W (by omega) (by omega)
        generalize hq : cls (d.1 : Int) = q at *
        generalize hu : upr (d.1 : Int) = u at *
        have HQ := Lib.hid hq; have HU := Lib.hid hu; clear hq hu
        have CK := Lib.hid cK; have CU := Lib.hid cU; clear cK cU
        by_cases h1 : q = 1
        · have t1 : (q != 1) = false := by simp [h1]
          by_cases h2 : u = (d.1 : Int)
          · have t2 : (u != (d.1 : Int)) = false := by simp [h2]
            have hx2 : rightR ((chop ((bl s).drop (pos + d.2))).map (·.1)) = T := by have := HX.out; simpa [h1, h2] using this
            have HX2 := Lib.hid hx2; clear hx2 h1 h2
            go_wp2_with (first
              | (go_at_call 33; refine (CK.out _).mono ?_; rintro e w2 ⟨rfl, rfl⟩)
              | (go_at_call 35; refine (CU.out _).mono ?_; rintro e w3 ⟨rfl, rfl⟩))
            go_roundg g'
            case measure => omega
            case rel => exact ⟨pos + d.2, hit2, hbw2, HX2.out, by omega, by omega⟩
          · have t2 : (u != (d.1 : Int)) = true := by simp [h2]
            have hx2 : T = false := by have := HX.out; simpa [h2] using this.symm
            have HX2 := Lib.hid hx2; clear hx2 h1 h2
            go_wp2_with (first
              | (go_at_call 33; refine (CK.out _).mono ?_; rintro e w2 ⟨rfl, rfl⟩)
              | (go_at_call 35; refine (CU.out _).mono ?_; rintro e w3 ⟨rfl, rfl⟩))
            go_ret
            exact ⟨ret_b HX2.out.symm, hb1.trans (hbw2.mono hs1)⟩
        · have t1 : (q != 1) = true := by simp [h1]
          have hx2 : T = false := by have := HX.out; simpa [h1] using this.symm
          have HX2 := Lib.hid hx2; clear hx2 h1
          go_wp2_with (first
            | (go_at_call 33; refine (CK.out _).mono ?_; rintro e w2 ⟨rfl, rfl⟩))
          go_ret
          exact ⟨ret_b HX2.out.symm, hb1.trans (hbw2.mono hs1)⟩
      · have hnx : ∀ ty, (Instr.next (.pointer (some ⟨w1.heap.size, 0, none⟩)) true ty).run Try.prog wr = _ := fun ty => Lib.run_next_end_at wr w1.heap.size s pos ty hit hp
        rw [chop_end s pos hp] at hx
        have hx2 : T = true := by rw [← hx]; rfl
        have HX2 := Lib.hid hx2; clear hx2 hx
        go_wp2
        go_ret
        exact ⟨ret_b HX2.out.symm, hb1.trans (hbw.mono hs1)⟩
  · have hT2 : T = false := by rw [HT.out]; unfold rightL; rw [← HC.out, decide_eq_false hn]; rfl
    have HT2 := Lib.hid hT2; clear hT2
    rcases Nat.lt_or_ge n 1 with h1 | h1
    · have t1 : (n : Int) < 1 := by omega
      go_enter Try.func83, Try.ntmps83
      go_wp2_with (go_at_call 105; refine (CC.out _).mono ?_; rintro e w1 ⟨rfl, hb1⟩)
      go_ret
      exact ⟨ret_b HT2.out.symm, hb1⟩
    · have t1 : ¬ (n : Int) < 1 := by omega
      have t2 : (3 : Int) < (n : Int) := by omega
      go_enter Try.func83, Try.ntmps83
      go_wp2_with (go_at_call 105; refine (CC.out _).mono ?_; rintro e w1 ⟨rfl, hb1⟩)
      go_ret
      exact ⟨ret_b HT2.out.symm, hb1⟩

/-! ### New, in plain words -/
def newFrom (xs : List (List UInt8)) : Nat → Nat → Nat × Int
  | _, 0 => (0, 0)
  | k, f + 1 => if rightL (nm xs k) = false then (k, 30) else if nm xs k ∈ xs.take k then (k, 31) else newFrom xs (k + 1) f
def newL (xs : List (List UInt8)) : Nat × Int := if xs.length < 1 ∨ 40 < xs.length then (0, 32) else newFrom xs 0 xs.length
/-- the first k letters are right, no two the same -/
def GoodTo (xs : List (List UInt8)) (k : Nat) : Prop := ∀ i, i < k → rightL (nm xs i) = true ∧ nm xs i ∉ xs.take i
theorem newFrom_good (xs : List (List UInt8)) : ∀ (f k : Nat), (newFrom xs k f).2 = 0 → GoodTo xs k → GoodTo xs (k + f)
  | 0, k, _, h => h
  | f + 1, k, h0, h => by
    unfold newFrom at h0
    split at h0
    · simp at h0
    · rename_i h1
      split at h0
      · simp at h0
      · rename_i h2
        have := newFrom_good xs f (k + 1) h0 (fun i hi => by
          rcases Nat.lt_or_ge i k with h3 | h3
          · exact h i h3
          · obtain rfl : i = k := by omega
            exact ⟨by simpa using h1, h2⟩)
        rwa [show k + 1 + f = k + (f + 1) by omega] at this
theorem right_ne {s : List UInt8} (h : rightL s = true) : s ≠ [] := by
  rintro rfl
  have : rightL [] = false := by decide
  rw [this] at h; cases h
structure Good (xs : List (List UInt8)) : Prop where
  n1 : 1 ≤ xs.length
  n2 : xs.length ≤ 40
  all : GoodTo xs xs.length
theorem new_good {xs : List (List UInt8)} (h : (newL xs).2 = 0) : Good xs := by
  unfold newL at h
  split at h
  · simp at h
  · rename_i h1
    have := newFrom_good xs xs.length 0 h (fun i hi => by omega)
    rw [Nat.zero_add] at this
    exact ⟨by omega, by omega, this⟩
theorem nm_lt {xs : List (List UInt8)} {i : Nat} (h : i < xs.length) : nm xs i = xs[i] := by simp [nm, List.getD, List.getElem?_eq_getElem h]
theorem Good.lets {xs : List (List UInt8)} (h : Good xs) : Lets xs := by
  refine ⟨?_, fun x hx => ?_⟩
  · rw [List.Nodup, List.pairwise_iff_getElem]
    intro i j hi hj hij he
    have := (h.all j hj).2
    rw [nm_lt hj, ← he] at this
    exact this (List.mem_take_iff_getElem.2 ⟨i, by omega, rfl⟩)
  · obtain ⟨i, hi, rfl⟩ := List.getElem_of_mem hx
    have := (h.all i hi).1
    rw [nm_lt hi] at this
    exact right_ne this
theorem right_size {s : List UInt8} (h : rightL s = true) : s.length ≤ 12 := by
  unfold rightL at h
  simp only [Bool.and_eq_true, decide_eq_true_eq] at h
  have h1 := h.1.2
  have h2 : (glue (chop s)).length ≤ 4 * (chop s).length := by
    have key : ∀ l : List UInt8, (glue (chop l)).length ≤ 4 * (chop l).length := by
      refine chop_ind (by simp [chop_nil, glue]) fun l hl ih => ?_
      rw [chop_ne hl]
      have := wd_le4 l hl
      simp only [glue, List.map_cons, List.flatten_cons, List.length_append, List.length_take, List.length_cons] at ih ⊢
      omega
    exact key s
  rw [glue_chop, ← runes_length] at h2
  omega

/-! ### the map -/
theorem mapKey : Keyed Try.prog 9 := string_keyed Try.underlying9
theorem zeroInt (w : World) : (zeroValue 3).run Try.prog w = .ok (.int .i64 0) w := by kernel_rfl
abbrev mkey (s : List UInt8) : Lit := .string s
def mapD (xs : List (List UInt8)) : Nat → DataW Unit
  | 0 => .map []
  | k + 1 => (mapD xs k).put (mkey (nm xs k)) (.lit (.int .i64 (k : Int)))
theorem mapD_isMap (xs : List (List UInt8)) : ∀ k, IsMap (mapD xs k)
  | 0 => isMap_empty
  | k + 1 => (mapD_isMap xs k).put _ _
theorem isKey (s : List UInt8) : WideAt.IsKeyLit (mkey s) := trivial
theorem mkey_ne {a b : List UInt8} (h : a ≠ b) : mkey a ≠ mkey b := fun e => h (by injection e)
theorem mapD_has (xs : List (List UInt8)) (s : List UInt8) : ∀ k, k ≤ xs.length → Maps.has (mapD xs k) (mkey s) = decide (s ∈ xs.take k)
  | 0, _ => by simp [mapD, Maps.has_eq]
  | k + 1, h => by
    have ih := mapD_has xs s k (by omega)
    have hlt : k < xs.length := by omega
    rw [List.take_succ_eq_append_getElem hlt, mapD]
    by_cases e : s = nm xs k
    · rw [← e, has_put_same (mapD_isMap xs k) (isKey s)]
      rw [nm_lt hlt] at e
      exact (decide_eq_true (List.mem_append_right _ (List.mem_singleton.2 e))).symm
    · rw [has_put_other (mkey_ne e), ih]
      rw [nm_lt hlt] at e
      simp only [List.mem_append, List.mem_singleton, e, or_false]
theorem mapD_at (xs : List (List UInt8)) (hx : Lets xs) {i : Nat} : ∀ k, i < k → k ≤ xs.length → (mapD xs k).atKey (mkey (nm xs i)) (.lit (.int .i64 0)) = .lit (.int .i64 (i : Int))
  | 0, h, _ => by omega
  | k + 1, h, hk => by
    rw [mapD]
    by_cases e : i = k
    · subst e
      rw [atKey_put_same (mapD_isMap xs i) (isKey _)]
    · have hi : i < xs.length := by omega
      have hkk : k < xs.length := by omega
      have hne : nm xs i ≠ nm xs k := by
        rw [nm_lt hi, nm_lt hkk]
        exact (List.pairwise_iff_getElem.1 hx.nd) i k hi hkk (by omega)
      rw [atKey_put_other (mkey_ne hne)]
      exact mapD_at xs hx k (by omega) (by omega)

/-! ### an alphabet in memory -/
structure AlphAt (B p : Nat) (xs : List (List UInt8)) (o : List Nat) (w : World) : Prop where
  hp : p < B
  hB : B ≤ w.heap.size
  nms : ∃ A c, w.cell? ⟨p, 0, none⟩ = some (.slice A xs.length c) ∧ Sl w B (.slice A xs.length c) (strs xs)
  lon : ∃ A c, w.cell? ⟨p, 1, none⟩ = some (.slice A o.length c) ∧ Sl w B (.slice A o.length c) (o.map fun (n : Nat) => Value.int .i64 (n : Int))
  mp : ∃ M, M < B ∧ w.cell? ⟨p, 2, none⟩ = some (.map (some M)) ∧ w.ownsMap Try.prog 9 (Go.plainElem Try.prog 3) M xs.length (mapD xs xs.length)
theorem AlphAt.below {B p : Nat} {xs : List (List UInt8)} {o : List Nat} {w w' : World} (h : AlphAt B p xs o w) (hb : Below B w w') : AlphAt B p xs o w' := by
  obtain ⟨hp, hB, ⟨A, c, h1, h2⟩, ⟨A', c', h3, h4⟩, ⟨M, hM, h5, h6⟩⟩ := h
  refine ⟨hp, Nat.le_trans hB hb.size, ⟨A, c, (hb.cell (p := ⟨p, 0, none⟩) hp).trans h1, h2.below hb⟩, ⟨A', c', (hb.cell (p := ⟨p, 1, none⟩) hp).trans h3, h4.below hb⟩, ⟨M, hM, (hb.cell (p := ⟨p, 2, none⟩) hp).trans h5, ?_⟩⟩
  obtain ⟨es, clock, hbk, r⟩ := h6
  exact ⟨es, clock, (hb.block M hM).trans hbk, r⟩
end Go.Proofs.Ytlkabghpcjlohaa
