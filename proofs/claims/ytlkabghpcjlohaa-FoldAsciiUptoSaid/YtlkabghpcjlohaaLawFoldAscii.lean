/- FoldAscii: for every list of at most 1048576 bytes the call returns true. -/
import Derived.Test.YtlkabghpcjlohaaF4
import Derived.Test.YtlkabghpcjlohaaP4
import Derived.Laws.BytesArg
namespace Go.Proofs.Ytlkabghpcjlohaa
set_option linter.unusedVariables false
set_option linter.unusedSimpArgs false
open Go.RowKit Go.Lib

/-- a byte's capital letter -/
def capOne (b : Nat) : List UInt8 := if 97 ≤ b % 128 ∧ b % 128 ≤ 122 then [UInt8.ofNat (b % 128 - 32)] else if 65 ≤ b % 128 ∧ b % 128 ≤ 90 then [UInt8.ofNat (b % 128)] else []
def low7 (l : List Nat) : List UInt8 := l.map fun b => UInt8.ofNat (b % 128)
def caps (l : List Nat) : List UInt8 := (l.map capOne).flatten
theorem low7_u8 (b : Nat) : (UInt8.ofNat (b % 128)).toNat = b % 128 := u8_ofNat (by omega)
theorem runes_low7 : ∀ l : List Nat, runes (low7 l) = l.map (· % 128)
  | [] => rfl
  | b :: l => by
    have e : low7 (b :: l) = UInt8.ofNat (b % 128) :: low7 l := rfl
    unfold runes
    rw [e, chop_ascii _ (by rw [low7_u8]; omega), List.map_cons, low7_u8, List.map_cons]
    exact congrArg _ (runes_low7 l)
theorem fold_ascii_one (p : Bool) (b : Nat) : foldOne p (b % 128) = capOne b := by
  have t : ∀ x : Fin 128, foldOne true x.val = capOne x.val ∧ foldOne false x.val = capOne x.val := by decide +kernel
  have := t ⟨b % 128, by omega⟩
  have hc : capOne (b % 128) = capOne b := by unfold capOne; rw [Nat.mod_mod]
  rw [← hc]
  cases p
  · exact this.2
  · exact this.1
theorem fold_ascii (p : Bool) (l : List Nat) : foldL p (low7 l) = caps l := by
  unfold foldL foldR caps
  rw [runes_low7, List.map_map]
  congr 1
  apply List.map_congr_left
  intro b _
  exact fold_ascii_one p b
theorem caps_le (l : List Nat) : (caps l).length ≤ l.length := by
  induction l with
  | nil => simp [caps]
  | cons b l ih =>
    have e : caps (b :: l) = capOne b ++ caps l := by simp [caps]
    have h1 : (capOne b).length ≤ 1 := by
      unfold capOne
      split
      · simp
      · split <;> simp
    rw [e, List.length_append, List.length_cons]; omega
theorem and127 (n : Nat) (h : n < 256) : bits .and .u8 (n : Int) 127 = ((n % 128 : Nat) : Int) := by
  have : ∀ x : Fin 256, bits .and .u8 ((x.val : Nat) : Int) 127 = ((x.val % 128 : Nat) : Int) := by decide +kernel
  exact this ⟨n, h⟩
abbrev u8s (l : List UInt8) : List Value := byteCells l
theorem infoU8 : (Try.prog.info? 5).map (fun i => (i.zero, i.size, i.bytes)) = some (some (.int .u8 0), 1, 1) := by kernel_rfl

/-- two slices of ours that share no block -/
def Apart (a b : Value) : Prop := ∀ j, a.ownBlock = some j → b.ownBlock ≠ some j
theorem Apart.symm {a b : Value} (h : Apart a b) : Apart b a := fun j hj h2 => h j h2 hj
theorem own_apart {w w' : World} {B e n : Nat} {a b : Value} {xs : List Value} (hb : w.ownsRow B e 1 b n xs) (hg : w.grownBy w' a.ownBlock) (h : Apart a b) : w'.ownsRow B e 1 b n xs :=
  hb.kept hg (by
    cases hx : b.ownBlock with
    | none => exact .inl rfl
    | some j => exact .inr (fun h2 => h j h2.symm hx))
theorem apart_new {w : World} {B e n : Nat} {a a' b : Value} {xs : List Value} (hb : w.ownsRow B e 1 b n xs) (hat : a'.ownBlock = a.ownBlock ∨ a'.ownBlock = some w.heap.size) (h : Apart a b) : Apart a' b := by
  intro j hj h2
  rcases hat with h3 | h3
  · exact h j (h3 ▸ hj) h2
  · have := (hb.lt j h2).2
    rw [h3] at hj
    injection hj with hj
    omega

theorem own_conv {W : World} {B : Nat} {v : Value} {l : List UInt8} (h : W.ownsRow B 5 1 v l.length (byteCells l)) : (convert 43 9 v).run Try.prog W = .ok (.string ⟨l.toArray⟩) W := by
  rcases h.2 with ⟨hv2, h0⟩ | ⟨g, cap, cur, hv2, _⟩
  · have he : l = [] := List.length_eq_zero_iff.1 h0
    rw [hv2, he]
    exact run_convert_bytes_nil W 43 5 Try.underlying43 Try.underlying5 0 0 9 Try.underlying9
  · rw [hv2]
    refine run_convert_bytes_back W 43 9 5 ⟨g, 0, none⟩ cap l Try.underlying43 Try.underlying5 Try.underlying9 (fun j hj => ?_)
    refine h.cells (g := g) (by rw [hv2]; rfl) j _ ?_
    simp [byteCells, hj]

set_option maxHeartbeats 8000000 in
set_option maxRecDepth 100000 in
theorem foldAscii_any (v : Value) (l : List Nat) (p : Bool) (w : World) (hl : ∀ x ∈ l, x < 256) (hv : Sl w w.heap.size v (l.map fun (x : Nat) => Value.int .u8 (x : Int))) (hn : l.length ≤ 1048576) :
    Calls Try.prog 11 #[v, .bool p] w fun e w' => e = .returned (.bool true) ∧ Below w.heap.size w w' := by
  obtain ⟨i0, hi, hz0, hz1, hz2⟩ := info_parts infoU8
  have HA : From w 32 #[] (.bool true) := .below fun W _ => awake2_any W
  have hF := fun W => Fold_any ⟨(low7 l).toArray⟩ p W (by rw [← bl_length, bl_mk]; simp [low7]; omega)
  rw [bl_mk, fold_ascii] at hF
  have HF := Lib.hid hF; clear hF
  have hv0 := hv
  obtain ⟨A, c, rfl, hc, hA⟩ := hv
  rw [List.length_map] at hv0 hc ⊢
  clear hA
  have hb0 := Below.refl w.heap.size w
  go_enter Try.func11, Try.ntmps11
  go_wp2_with (go_at_call 32; (with_reducible refine (HA.at_ (by assumption)).mono ?_); rintro e w1 ⟨rfl, hb1⟩)
  have hs1 := hb1.size
  go_loopw [5, 6, 8, 13] (fun u5 u6 _ u13 wr => ∃ k : Nat, u13 = .int .i64 k ∧ k ≤ l.length ∧ wr.ownsRow w1.heap.size 5 1 u5 (low7 (l.take k)).length (byteCells (low7 (l.take k))) ∧ wr.ownsRow w1.heap.size 5 1 u6 (caps (l.take k)).length (byteCells (caps (l.take k))) ∧ Apart u5 u6 ∧ Below w1.heap.size w1 wr) (fun _ _ _ u13 _ => l.length - (intOf u13).toNat)
  case atStart => exact ⟨0, rfl, Nat.zero_le _, World.ownsRow_nil _ _ _ _, World.ownsRow_nil _ _ _ _, (fun j hj => by cases hj), Below.refl _ _⟩
  case round =>
    obtain ⟨k, rfl, hk, ho5, ho6, hne, hbw⟩ := hrel
    by_cases hlt : k < l.length
    · have hsz := hbw.size
      obtain ⟨ad, e0, _, g1⟩ := ((hv0.below hb1).below (hbw.mono hs1)).cell (k := k) (by simpa using hlt)
      obtain rfl := e0
      rw [List.getElem_map] at g1
      have hx := hl (l[k]'hlt) (List.getElem_mem hlt)
      have ha := and127 (l[k]'hlt) hx
      have e5 : low7 (l.take (k + 1)) = low7 (l.take k) ++ [UInt8.ofNat ((l[k]'hlt) % 128)] := by
        unfold low7; rw [List.take_succ_eq_append_getElem hlt, List.map_append]; rfl
      have e6 : caps (l.take (k + 1)) = caps (l.take k) ++ capOne (l[k]'hlt) := by
        unfold caps; rw [List.take_succ_eq_append_getElem hlt, List.map_append, List.flatten_append]; simp only [List.map_cons, List.map_nil, List.flatten_cons, List.flatten_nil, List.append_nil]
      unfold capOne at e6
      have hm : (l[k]'hlt) % 128 < 128 := Nat.mod_lt _ (by decide)
      have l5 : (low7 (l.take k)).length ≤ 1048576 := by simp [low7]; omega
      have l6 : (caps (l.take k)).length ≤ 1048576 := by have := caps_le (l.take k); rw [List.length_take] at this; omega
      generalize hb : (l[k]'hlt) = b at *
      generalize hmm : b % 128 = m at *
      have hu : (UInt8.ofNat m).toNat = m := u8_ofNat (by omega)
      have c5 : byteCells [UInt8.ofNat m] = [Value.int .u8 (m : Int)] := by simp [byteCells, hu]
      have E5 := Lib.hid e5; have E6 := Lib.hid e6; have C5 := Lib.hid c5
      clear e5 e6 c5 hb hmm
      have i1 : (0 : Int) ≤ (k : Int) := by omega
      have i2 : (k : Int) < (l.length : Int) := by omega
      have l5' : (low7 (l.take k) ++ [UInt8.ofNat m]).length = (low7 (l.take k)).length + 1 := by simp
      by_cases q1 : 97 ≤ m ∧ m ≤ 122
      · have e6 := E6.out
        rw [if_pos q1] at e6
        have hu2 : (UInt8.ofNat (m - 32)).toNat = m - 32 := u8_ofNat (by omega)
        have hci : ((m : Int) - 32) = ((m - 32 : Nat) : Int) := by omega
        have c6 : byteCells [UInt8.ofNat (m - 32)] = [Value.int .u8 ((m : Int) - 32)] := by simp [byteCells, hu2, hci]
        have HE6 := Lib.hid e6; have C6 := Lib.hid c6
        clear e6 c6 hci
        have q3 : (97 : Int) ≤ (m : Int) := by omega
        have q4 : (m : Int) ≤ 122 := by omega
        go_wp2_with (first | (at_builtin; refine wpList_append_own_at _ rfl (.tmp 19) (.tmp 21) 43 rfl w1.heap.size 5 i0 (.int .u8 0) 1 1 Try.underlying43 hi hz0 hz1 hz2 rfl (by decide) _ _ _ rfl (ho5.alloc _) ⟨wr.heap.size, 0, none⟩ 1 1 [.int .u8 (m : Int)] rfl rfl (cell_one_new _ _ _) (by simp [Value.oneCell']) (by unfold maxLen; omega) (by omega) (by simp; omega) ?_; intro v5 w2 hown5 hg5 _ hat5; have ho6b := own_apart (ho6.alloc _) hg5 hne; have hap5 := apart_new (ho6.alloc _) hat5 hne; have hbw2 : Below w1.heap.size w1 w2 := (hbw.alloc hbw.size _).grown hg5 (by simp; omega) (fun j hj => (ho5.lt j hj).1); have hsz2 := hbw2.size) | (at_builtin; refine wpList_append_own_at _ rfl (.tmp 29) (.tmp 32) 43 rfl w1.heap.size 5 i0 (.int .u8 0) 1 1 Try.underlying43 hi hz0 hz1 hz2 rfl (by decide) _ _ _ rfl (ho6b.alloc _) ⟨w2.heap.size, 0, none⟩ 1 1 [.int .u8 ((m : Int) - 32)] rfl rfl (cell_one_new _ _ _) (by simp [Value.oneCell']) (by unfold maxLen; omega) (by omega) (by simp; omega) ?_; intro v6 w3 hown6 hg6 _ hat6; have hown5b := own_apart (hown5.alloc _) hg6 hap5.symm; have hap6 := apart_new (hown5.alloc _) hat6 hap5.symm; have hbw3 : Below w1.heap.size w1 w3 := (hbw2.alloc hbw2.size _).grown hg6 (by simp; omega) (fun j hj => (ho6b.lt j hj).1)))
        refine ⟨⟨k + 1, by go_num, by omega, ?_, ?_, hap6.symm, hbw3⟩, by simp [intOf]; omega⟩
        · rw [E5.out, byteCells_append, List.length_append, C5.out]; exact hown5b
        · rw [HE6.out, byteCells_append, List.length_append, C6.out]; exact hown6
      · by_cases q2 : 65 ≤ m ∧ m ≤ 90
        · have e6 := E6.out
          rw [if_neg q1, if_pos q2] at e6
          have HE6 := Lib.hid e6
          clear e6
          have q3 : (65 : Int) ≤ (m : Int) := by omega
          have q4 : (m : Int) ≤ 90 := by omega
          go_wp2_with (first | (at_builtin; refine wpList_append_own_at _ rfl (.tmp 19) (.tmp 21) 43 rfl w1.heap.size 5 i0 (.int .u8 0) 1 1 Try.underlying43 hi hz0 hz1 hz2 rfl (by decide) _ _ _ rfl (ho5.alloc _) ⟨wr.heap.size, 0, none⟩ 1 1 [.int .u8 (m : Int)] rfl rfl (cell_one_new _ _ _) (by simp [Value.oneCell']) (by unfold maxLen; omega) (by omega) (by simp; omega) ?_; intro v5 w2 hown5 hg5 _ hat5; have ho6b := own_apart (ho6.alloc _) hg5 hne; have hap5 := apart_new (ho6.alloc _) hat5 hne; have hbw2 : Below w1.heap.size w1 w2 := (hbw.alloc hbw.size _).grown hg5 (by simp; omega) (fun j hj => (ho5.lt j hj).1); have hsz2 := hbw2.size) | (at_builtin; refine wpList_append_own_at _ rfl (.tmp 40) (.tmp 42) 43 rfl w1.heap.size 5 i0 (.int .u8 0) 1 1 Try.underlying43 hi hz0 hz1 hz2 rfl (by decide) _ _ _ rfl (ho6b.alloc _) ⟨w2.heap.size, 0, none⟩ 1 1 [.int .u8 (m : Int)] rfl rfl (cell_one_new _ _ _) (by simp [Value.oneCell']) (by unfold maxLen; omega) (by omega) (by simp; omega) ?_; intro v6 w3 hown6 hg6 _ hat6; have hown5b := own_apart (hown5.alloc _) hg6 hap5.symm; have hap6 := apart_new (hown5.alloc _) hat6 hap5.symm; have hbw3 : Below w1.heap.size w1 w3 := (hbw2.alloc hbw2.size _).grown hg6 (by simp; omega) (fun j hj => (ho6b.lt j hj).1)))
          refine ⟨⟨k + 1, by go_num, by omega, ?_, ?_, hap6.symm, hbw3⟩, by simp [intOf]; omega⟩
          · rw [E5.out, byteCells_append, List.length_append, C5.out]; exact hown5b
          · rw [HE6.out, byteCells_append, List.length_append, C5.out]; exact hown6
        · have e6 := E6.out
          rw [if_neg q1, if_neg q2, List.append_nil] at e6
          have HE6 := Lib.hid e6
          clear e6
          rcases (show m < 65 ∨ (90 < m ∧ m < 97) ∨ 122 < m by omega) with q | q | q
          all_goals go_wp2_with (at_builtin; refine wpList_append_own_at _ rfl (.tmp 19) (.tmp 21) 43 rfl w1.heap.size 5 i0 (.int .u8 0) 1 1 Try.underlying43 hi hz0 hz1 hz2 rfl (by decide) _ _ _ rfl (ho5.alloc _) ⟨wr.heap.size, 0, none⟩ 1 1 [.int .u8 (m : Int)] rfl rfl (cell_one_new _ _ _) (by simp [Value.oneCell']) (by unfold maxLen; omega) (by omega) (by simp; omega) ?_; intro v5 w2 hown5 hg5 _ hat5; have ho6b := own_apart (ho6.alloc _) hg5 hne; have hap5 := apart_new (ho6.alloc _) hat5 hne; have hbw2 : Below w1.heap.size w1 w2 := (hbw.alloc hbw.size _).grown hg5 (by simp; omega) (fun j hj => (ho5.lt j hj).1); have hsz2 := hbw2.size)
          all_goals refine ⟨⟨k + 1, by go_num, by omega, ?_, ?_, hap5, hbw2⟩, by simp [intOf]; omega⟩
          all_goals first
            | (rw [HE6.out]; exact ho6b)
            | (rw [E5.out, byteCells_append, List.length_append, C5.out]; exact hown5)
    · obtain rfl : k = l.length := by omega
      rw [List.take_length] at ho5 ho6
      have ho5d : wr.drew.ownsRow w1.heap.size 5 1 u5 (low7 l).length (byteCells (low7 l)) := ho5
      have ho6d : wr.drew.ownsRow w1.heap.size 5 1 u6 (caps l).length (byteCells (caps l)) := ho6
      have hcv5 := own_conv ho5d
      have hcv6 := own_conv ho6d
      have HO6 := Lib.hid ho6d; clear ho6 ho6d
      have hbw' : Below w.heap.size w wr.drew := bdraw (hb1.trans (hbw.mono hs1)) 1
      go_wp2
      go_region_with (first
        | (go_at_call 40; (refine (HF.out _).mono ?_); rintro e w4 ⟨rfl, hb4⟩; have hcv7 := own_conv (own_below HO6.out hb4); have hbz := hbw'.trans (hb4.mono hbw'.size)))
      all_goals (try go_wp2)
      all_goals go_ret
      all_goals exact ⟨rfl, by assumption⟩
end Go.Proofs.Ytlkabghpcjlohaa
