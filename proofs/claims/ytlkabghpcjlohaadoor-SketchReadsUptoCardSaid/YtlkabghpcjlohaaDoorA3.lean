/- Walks of package utf that read the library's tables: Next, Valid; and Places, Cut. -/
import Derived.Test.YtlkabghpcjlohaaDoorA2
set_option linter.unusedVariables false
set_option linter.unusedSimpArgs false
namespace Go.Proofs.YtlkabghpcjlohaaDoor
open Go.RowKit Go.Lib

theorem bl_extract (s : ByteArray) (a b : Nat) : bl (s.extract a b) = ((bl s).drop a).take (b - a) := extract_data s a b
theorem bl_from (s : ByteArray) (a : Nat) : bl (s.extract a s.size) = (bl s).drop a := by
  rw [bl_extract, List.take_of_length_le]
  rw [List.length_drop, bl_length]; exact Nat.le_refl _
theorem bl_to (s : ByteArray) (b : Nat) : bl (s.extract 0 b) = (bl s).take b := by rw [bl_extract]; simp
theorem bl_inj {s t : ByteArray} (h : bl s = bl t) : s = t := by
  cases s; cases t; simp only [bl] at h
  congr 1
  exact Array.ext' h
theorem bl_mk (l : List UInt8) : bl ⟨l.toArray⟩ = l := rfl

abbrev Tabs (w : World) : Prop := Utf8Tabs 0 1 w
theorem Tabs.below {w w' : World} (h : Tabs w) (hb : Below w.heap.size w w') : Tabs w' := by
  have l : ∀ (p : Addr) v, w.cell? p = some v → w'.cell? p = some v := by
    intro p v hp
    refine (hb.cell ?_).trans hp
    rcases Nat.lt_or_ge p.block w.heap.size with h1 | h1
    · exact h1
    · simp [World.cell?, Array.getElem?_eq_none h1] at hp
  exact ⟨fun c hc => l _ _ (h.1 c hc), fun i hi => ⟨l _ _ (h.2 i hi).1, l _ _ (h.2 i hi).2⟩⟩

/-- the rune at a place, and its width -/
def nextL (l : List UInt8) (at' : Int) : Nat × Nat := if at' < 0 ∨ (l.length : Int) ≤ at' then (0, 0) else decodeL (l.drop at'.toNat)

set_option maxHeartbeats 1000000 in
theorem Next_any (s : ByteArray) (at' : Int) (w : World) (hT : Tabs w) (hs : s.size ≤ 9223372036854775807) :
    Calls Tryd.prog 18 #[.string s, .int .i64 at'] w fun e w' => e = .returned (.tuple #[.int .i32 (nextL (bl s) at').1, .int .i64 (nextL (bl s) at').2]) ∧ Below w.heap.size w w' := by
  unfold nextL
  rw [bl_length]
  by_cases c1 : at' < 0
  · rw [if_pos (.inl c1)]
    go_enter Tryd.func18, Tryd.ntmps18
    go_wp2
    go_ret2
    exact ⟨rfl, Below.refl _ _⟩
  · by_cases c2 : (s.size : Int) ≤ at'
    · rw [if_pos (.inr c2)]
      go_enter Tryd.func18, Tryd.ntmps18
      go_wp2
      go_ret2
      exact ⟨rfl, Below.refl _ _⟩
    · rw [if_neg (by omega)]
      obtain ⟨k, rfl⟩ : ∃ k : Nat, at' = k := ⟨at'.toNat, by omega⟩
      rw [Int.toNat_natCast]
      have hk : k < s.size := by omega
      have e : decodeGo (s.extract k s.size) = decodeL ((bl s).drop k) := by
        unfold decodeGo
        rw [if_neg (by rw [ByteArray.size_extract]; omega), ← decodeL_drop, List.drop_zero]
        exact congrArg decodeL (bl_from s k)
      have c := Tryd.utf8_DecodeRuneInString (s.extract k s.size) w hT
      rw [e] at c
      generalize decodeL ((bl s).drop k) = d at c ⊢
      go_enter Tryd.func18, Tryd.ntmps18
      go_wp2_with (go_at_call 45; refine c.mono ?_; rintro e w' ⟨rfl, hb⟩)
      go_ret2
      exact ⟨rfl, hb⟩

set_option maxHeartbeats 2000000 in
theorem Valid_any (s : ByteArray) (w : World) (hT : Tabs w) (hs : s.size < 9223372036854775807) :
    Calls Tryd.prog 20 #[.string s] w fun e w' => e = .returned (.bool (validL (bl s))) ∧ Below w.heap.size w w' := by
  go_enter Tryd.func20, Tryd.ntmps20
  go_wp2
  go_loopg [3, 4, 5, 6] s.size (fun gf _ _ _ _ wr => ∃ (pos : Nat), wr.heap[w.heap.size]? = some (.stringIter s pos) ∧ Below w.heap.size w wr ∧ Tabs wr ∧
    (chop ((bl s).drop pos)).all okC = validL (bl s) ∧ s.size ≤ pos + gf)
  case atStart => exact ⟨0, World.iter_heap w s 0, (Below.refl _ w).alloc (Nat.le_refl _) _, hT.below ((Below.refl _ w).alloc (Nat.le_refl _) _), by simp [validL], by omega⟩
  case round =>
    obtain ⟨pos, hit, hbw, hT2, hc, hfu⟩ := hrel
    by_cases hp : pos < s.size
    · obtain ⟨g', rfl⟩ : ∃ g', gk = g' + 1 := ⟨gk - 1, by omega⟩
      have hnx : ∀ ty, (Instr.next (.pointer (some ⟨w.heap.size, 0, none⟩)) true ty).run Tryd.prog wr = _ := fun ty => Lib.run_next_any_at wr w.heap.size s pos ty hit hp
      have hwd := Lib.width_pos s pos
      rw [chop_at s pos hp, List.all_cons] at hc
      have hit2 := Lib.iterAt_heap wr w.heap.size s pos (pos + (Utf8.decode s pos).2) hit
      have hbw2 := Lib.below_iterAt hbw (k := w.heap.size) (Nat.le_refl _) s (pos + (Utf8.decode s pos).2)
      have hT3 : Tabs (wr.iterAt w.heap.size s (pos + (Utf8.decode s pos).2)) := hT.below hbw2
      have hpl := piece_len s pos hp
      have hok : okC ((Utf8.decode s pos).1, ((bl s).drop pos).take (Utf8.decode s pos).2) = !(decide ((Utf8.decode s pos).1 = 65533) && decide ((Utf8.decode s pos).2 = 1)) := by
        unfold okC; rw [hpl]
      rw [hok] at hc
      have hnext : nextL (bl s) (pos : Int) = Utf8.decode s pos := by
        unfold nextL
        rw [if_neg (by rw [bl_length]; omega), Int.toNat_natCast, ← dec_at]
      have hrl := Lib.rune_le s pos
      have cN := Next_any s (pos : Int) (wr.iterAt w.heap.size s (pos + (Utf8.decode s pos).2)) hT3 (by omega)
      rw [hnext] at cN
      generalize Utf8.decode s pos = d at *
      clear hnext hok hpl
      by_cases c1 : d.1 = 65533
      · have c1' : ((d.1 : Int) != 65533) = false := by rw [c1]; rfl
        by_cases c2 : d.2 = 1
        · have c2' : ((d.2 : Int) == 1) = true := by rw [c2]; rfl
          have hv : false = validL (bl s) := by rw [← hc]; simp [c1, c2]
          have HC1 := Lib.hid c1; clear c1
          have HC2 := Lib.hid c2; clear c2
          have HV := Lib.hid hv; clear hv hc
          go_wp2_with (go_at_call 18; refine cN.mono ?_; rintro e w' ⟨rfl, hb⟩)
          go_ret
          exact ⟨ret_b HV.out, hbw2.trans (hb.mono hbw2.size)⟩
        · have c2' : ((d.2 : Int) == 1) = false := by simp; omega
          have hv : (chop ((bl s).drop (pos + d.2))).all okC = validL (bl s) := by rw [← hc]; simp [c2]
          have HC1 := Lib.hid c1; clear c1
          have HV := Lib.hid hv; clear hv hc
          go_wp2_with (go_at_call 18; refine cN.mono ?_; rintro e w' ⟨rfl, hb⟩)
          have hbw3 := hbw2.trans (hb.mono hbw2.size)
          have hlt : w.heap.size < (wr.iterAt w.heap.size s (pos + d.2)).heap.size := (Array.getElem?_eq_some_iff.1 hit2).1
          go_roundg g'
          case measure => omega
          case rel => exact ⟨_, (hb.block _ hlt).trans hit2, hbw3, hT.below hbw3, HV.out, by omega⟩
      · have c1' : ((d.1 : Int) != 65533) = true := by simp; omega
        have hv : (chop ((bl s).drop (pos + d.2))).all okC = validL (bl s) := by rw [← hc]; simp [c1]
        have HV := Lib.hid hv; clear hv hc
        go_wp2
        go_roundg g'
        case measure => omega
        case rel => exact ⟨_, hit2, hbw2, hT3, HV.out, by omega⟩
    · have hnx : ∀ ty, (Instr.next (.pointer (some ⟨w.heap.size, 0, none⟩)) true ty).run Tryd.prog wr = _ := fun ty => Lib.run_next_end_at wr w.heap.size s pos ty hit hp
      rw [chop_end s pos hp, List.all_nil] at hc
      have HV := Lib.hid hc; clear hc
      go_wp2
      go_ret
      exact ⟨ret_b HV.out, hbw⟩

theorem own_iterAt {w : World} {B e size n : Nat} {v : Value} {xs : List Value} (h : w.ownsRow B e size v n xs) {k : Nat} {s : ByteArray} {pos : Nat} (hk : w.heap[k]? = some (.stringIter s pos)) (p' : Nat) :
    (w.iterAt k s p').ownsRow B e size v n xs := by
  refine h.kept (row := some k) ⟨rfl, rfl, rfl, by rw [iterAt_size]; exact Nat.le_refl _, fun j _ hj => iterAt_other w k j s p' (fun e => hj (by rw [e]))⟩ ?_
  rcases h.2 with ⟨rfl, _⟩ | ⟨g, cap, cur, rfl, _, hg, _⟩
  · exact .inl rfl
  · refine .inr ?_
    simp only [Value.ownBlock, ne_eq, Option.some.injEq]
    rintro rfl
    rw [hk] at hg; cases hg
theorem own_ne_iter {w : World} {B e size n : Nat} {v : Value} {xs : List Value} (h : w.ownsRow B e size v n xs) {k : Nat} {s : ByteArray} {pos : Nat} (hk : w.heap[k]? = some (.stringIter s pos)) : some k ≠ v.ownBlock := by
  rcases h.2 with ⟨rfl, _⟩ | ⟨g, cap, cur, rfl, _, hg, _⟩
  · simp [Value.ownBlock]
  · simp only [Value.ownBlock, ne_eq, Option.some.injEq]
    rintro rfl
    rw [hk] at hg; cases hg

theorem infoInt : (Tryd.prog.info? 3).map (fun i => (i.zero, i.size, i.bytes)) = some (some (.int .i64 0), 1, 8) := by kernel_rfl
theorem infoStr : (Tryd.prog.info? 9).map (fun i => (i.zero, i.size, i.bytes)) = some (some (.string ⟨#[]⟩), 1, 16) := by kernel_rfl
abbrev ints (l : List Nat) : List Value := l.map fun (n : Nat) => Value.int .i64 (n : Int)

set_option maxHeartbeats 2000000 in
theorem Places_any (s : ByteArray) (w : World) (hs : s.size ≤ 17592186044416) :
    Calls Tryd.prog 21 #[.string s] w fun e w' => ∃ v, e = .returned v ∧ w'.ownsRow w.heap.size 3 1 v (places (bl s)).length (ints (places (bl s))) ∧ Below w.heap.size w w' := by
  obtain ⟨i0, hi, hz0, hz1, hz2⟩ := info_parts infoInt
  have hle := chop_length_le (bl s)
  rw [bl_length] at hle
  go_enter Tryd.func21, Tryd.ntmps21
  go_wp2
  go_loopg [3, 4] s.size (fun gf v _ wr => ∃ (pos : Nat) (acc : List Nat), wr.heap[w.heap.size]? = some (.stringIter s pos) ∧ Below w.heap.size w wr ∧
    wr.ownsRow w.heap.size 3 1 v acc.length (ints acc) ∧ acc ++ placesFrom pos (chop ((bl s).drop pos)) = places (bl s) ∧ acc.length ≤ pos ∧ pos ≤ s.size ∧ s.size ≤ pos + gf)
  case atStart => exact ⟨0, [], World.iter_heap w s 0, (Below.refl _ w).alloc (Nat.le_refl _) _, World.ownsRow_nil _ _ _ _, by simp [places], Nat.le_refl _, Nat.zero_le _, by omega⟩
  case round =>
    obtain ⟨pos, acc, hit, hbw, hown, hc, hal, hps, hfu⟩ := hrel
    by_cases hp : pos < s.size
    · obtain ⟨g', rfl⟩ : ∃ g', gk = g' + 1 := ⟨gk - 1, by omega⟩
      have hnx : ∀ ty, (Instr.next (.pointer (some ⟨w.heap.size, 0, none⟩)) true ty).run Tryd.prog wr = _ := fun ty => Lib.run_next_any_at wr w.heap.size s pos ty hit hp
      have hwd := Lib.width_pos s pos
      have hwl := width_le s pos hp
      have hpl := piece_len s pos hp
      rw [chop_at s pos hp, placesFrom, hpl] at hc
      have hit2 := Lib.iterAt_heap wr w.heap.size s pos (pos + (Utf8.decode s pos).2) hit
      have hbw2 := Lib.below_iterAt hbw (k := w.heap.size) (Nat.le_refl _) s (pos + (Utf8.decode s pos).2)
      clear hpl
      generalize Utf8.decode s pos = d at *
      have HC := Lib.hid hc; clear hc
      have hown2 := own_iterAt hown hit (pos + d.2)
      generalize hW : wr.iterAt w.heap.size s (pos + d.2) = W at hnx hit2 hbw2 hown2
      clear hW hown hit hbw
      have hlt : w.heap.size < W.heap.size := (Array.getElem?_eq_some_iff.1 hit2).1
      go_wp2_with (at_builtin; refine wpList_append_own _ rfl (.tmp 10) (.tmp 12) 29 rfl w.heap.size 3 i0 (.int .i64 0) 1 8 Tryd.underlying29 hi hz0 hz1 hz2 rfl (by decide) _ _ _ rfl (hown2.alloc _) ⟨W.heap.size, 0, none⟩ 1 1 [.int .i64 (pos : Int)] rfl rfl (cell_one_new _ _ _) (by simp [Value.oneCell']) (by unfold maxLen; omega) (by omega) (by simp; omega) ?_; intro v' w1 hown' hgrow _)
      have hit3 : w1.heap[w.heap.size]? = some (.stringIter s (pos + d.2)) := (hgrow.block w.heap.size (by simp; omega) (own_ne_iter hown2 hit2)).trans ((Below.heap_alloc _ _ _ hlt).trans hit2)
      have hbw3 : Below w.heap.size w w1 := (hbw2.alloc (by omega) _).grown hgrow (by simp; omega) (fun j hj => (hown2.lt j hj).1)
      go_roundg g'
      case measure => omega
      case rel => exact ⟨pos + d.2, acc ++ [pos], hit3, hbw3, by simpa [ints] using hown', by rw [List.append_assoc]; exact HC.out, by simp; omega, by omega, by omega⟩
    · have hnx : ∀ ty, (Instr.next (.pointer (some ⟨w.heap.size, 0, none⟩)) true ty).run Tryd.prog wr = _ := fun ty => Lib.run_next_end_at wr w.heap.size s pos ty hit hp
      rw [chop_end s pos hp, placesFrom, List.append_nil] at hc
      subst hc
      go_wp2
      go_ret
      exact ⟨_, rfl, hown, hbw⟩
end Go.Proofs.YtlkabghpcjlohaaDoor
