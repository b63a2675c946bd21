/- FoldWords: for every text that holds at most 1048576 bytes the call returns true. -/
import Derived.Test.YtlkabghpcjlohaaF4
import Derived.Test.YtlkabghpcjlohaaP4
namespace Go.Proofs.Ytlkabghpcjlohaa
set_option linter.unusedVariables false
set_option linter.unusedSimpArgs false
open Go.RowKit Go.Lib

theorem foldOne_blank (p : Bool) (r : Nat) (h : blank r = true) : foldOne p r = [] := by
  unfold foldOne
  unfold blank at h
  have : cls (r : Int) = 3 := by simpa using h
  rw [this]; rfl
theorem letters_fold (p : Bool) (l : List UInt8) : ((wordsL l).map (foldL p)).flatten = foldL p l := words_letters blank (foldOne p) (foldOne_blank p) l
theorem foldL_len (p : Bool) (l : List UInt8) : (foldL p l).length ≤ 4 * l.length := by
  have h := foldR_le p (runes l)
  have h2 := chop_length_le l
  rw [runes_length] at h
  unfold foldL; omega
theorem letters_le (p : Bool) : ∀ ws : List (List UInt8), ((ws.map (foldL p)).flatten).length ≤ 4 * ws.flatten.length
  | [] => by simp
  | x :: xs => by
    have h1 := foldL_len p x
    have h2 := letters_le p xs
    rw [List.map_cons, List.flatten_cons, List.flatten_cons, List.length_append, List.length_append]; omega
theorem bl_app (a b : ByteArray) : bl (a ++ b) = bl a ++ bl b := by simp [bl]
theorem sz_mk (l : List UInt8) : (⟨l.toArray⟩ : ByteArray).size = l.length := by rw [← bl_length]
theorem mk_app (a b : List UInt8) : (⟨a.toArray⟩ : ByteArray) ++ ⟨b.toArray⟩ = (⟨(a ++ b).toArray⟩ : ByteArray) := by apply bl_inj; rw [bl_app]

set_option maxHeartbeats 8000000 in
set_option maxRecDepth 100000 in
theorem foldWords_any (s : ByteArray) (p : Bool) (w : World) (hs : s.size ≤ 1048576) :
    Calls Try.prog 10 #[.string s, .bool p] w fun e w' => e = .returned (.bool true) ∧ Below w.heap.size w w' := by
  have hall := words_word blank (bl s)
  have htot := words_total blank (bl s)
  rw [bl_length] at htot
  have hjw : wordsL (joinAll (wordsL (bl s))) = wordsL (bl s) := words_join blank (by decide) _ hall
  have hlet := letters_fold p (bl s)
  have HA : From w 32 #[] (.bool true) := .below fun W _ => awake2_any W
  have HFs := From.fold w s p (by omega)
  have hW1 := fun W => Words_any s W (by omega)
  change ∀ w ∈ wordsL (bl s), isWord blank w at hall
  change (wordsL (bl s)).flatten.length ≤ s.size at htot
  have hnum := flat_count_le _ (fun x hx => (hall x hx).1)
  have hW2 := fun W => Words_any ⟨(joinAll (wordsL (bl s))).toArray⟩ W (by rw [sz_mk]; have := joinAll_le _ (fun x hx => (hall x hx).1); omega)
  rw [bl_mk, hjw] at hW2
  rw [← hlet] at HFs
  clear hjw hlet
  generalize wordsL (bl s) = ws at *
  have HL := Lib.hid hall; clear hall
  have HW1 := Lib.hid hW1; clear hW1
  have HW2 := Lib.hid hW2; clear hW2
  have hb0 := Below.refl w.heap.size w
  go_enter Try.func10, Try.ntmps10
  go_wp2_with (first
    | (go_at_call 32; (with_reducible refine (HA.at_ (by assumption)).mono ?_); rintro e w1 ⟨rfl, hb1⟩)
    | (go_at_call 27; refine (HW1.out _).mono ?_; rintro e w2 ⟨A, rfl, hA, hown, hb2⟩))
  have hb3 : Below w.heap.size w w2 := hb1.trans (hb2.mono hb1.size)
  have hsl0 := Sl.of_own hown
  clear hown hb0 hb1 hb2
  go_loopg [6, 7, 8, 9, 11, 18] ws.length (fun gf u6 u7 _ _ _ u18 wr => ∃ k : Nat, u6 = .string ⟨(joinAll (ws.take k)).toArray⟩ ∧ u7 = .string ⟨((ws.take k).map (foldL p)).flatten.toArray⟩ ∧ u18 = .int .i64 k ∧ k ≤ ws.length ∧ ws.length ≤ k + gf ∧ Below w.heap.size w wr ∧ Below w2.heap.size w2 wr)
  case atStart => exact ⟨0, rfl, rfl, rfl, by omega, by omega, hb3, Below.refl _ _⟩
  case round =>
    obtain ⟨k, rfl, rfl, rfl, hk, hfu, hbw, hbw2⟩ := hrel
    have hsl := hsl0.below hbw2
    by_cases hlt : k < ws.length
    · obtain ⟨g', rfl⟩ : ∃ g', gk = g' + 1 := ⟨gk - 1, by omega⟩
      obtain ⟨ad, e0, _, g1⟩ := hsl.cell (k := k) (by simpa using hlt)
      obtain rfl := Option.some.inj e0
      rw [List.getElem_map] at g1
      have g2 : wr.cell? ⟨A, k, none⟩ = some (.string ⟨(ws[k]).toArray⟩) := by
        rw [← g1]; congr 1; simp [Addr.add]
      clear g1
      have hwk := HL.out ws[k] (List.getElem_mem hlt)
      have htk := List.take_succ_eq_append_getElem hlt
      have hj := joinAll_snoc (ws.take k) ws[k]
      rw [← htk] at hj
      have hf1 : ((ws.take (k + 1)).map (foldL p)).flatten = ((ws.take k).map (foldL p)).flatten ++ foldL p ws[k] := by rw [htk, List.map_append, List.map_cons, List.map_nil, List.flatten_append, List.flatten_cons, List.flatten_nil, List.append_nil]
      have m1 := flat_take_le ws k
      have m2 := joinAll_le (ws.take k) (fun x hx => (HL.out x (List.mem_of_mem_take hx)).1)
      have m3 := letters_le p (ws.take k)
      have m4 := flat_mem_le ws ws[k] (List.getElem_mem hlt)
      have m5 := foldL_len p ws[k]
      have HF := fun W => Fold_any ⟨(ws[k]).toArray⟩ p W (by rw [sz_mk]; omega)
      rw [bl_mk] at HF
      have hkb : ws.take k = [] ↔ k = 0 := by
        constructor
        · intro h
          have := congrArg List.length h
          rw [List.length_take, List.length_nil] at this; omega
        · rintro rfl; rfl
      have i1 : (0 : Int) ≤ (k : Int) := by omega
      have i2 : (k : Int) < (ws.length : Int) := by omega
      rw [← sz_mk] at m2 m3 m4 m5
      rw [← sz_mk (ws[k])] at m5
      have E1 : Hid ((⟨((ws.take (k + 1)).map (foldL p)).flatten.toArray⟩ : ByteArray) = ⟨((ws.take k).map (foldL p)).flatten.toArray⟩ ++ ⟨(foldL p ws[k]).toArray⟩) := Lib.hid (by rw [hf1, mk_app])
      have E2 : Hid (k = 0 → (⟨(joinAll (ws.take (k + 1))).toArray⟩ : ByteArray) = ⟨(joinAll (ws.take k)).toArray⟩ ++ ⟨(ws[k]).toArray⟩) := Lib.hid (by
        intro h; rw [hj, if_pos (hkb.2 h), hkb.2 h, mk_app]; rfl)
      have E3 : Hid (k ≠ 0 → (⟨(joinAll (ws.take (k + 1))).toArray⟩ : ByteArray) = ⟨(joinAll (ws.take k)).toArray⟩ ++ ⟨#[32]⟩ ++ ⟨(ws[k]).toArray⟩) := Lib.hid (by
        intro h; rw [hj, if_neg (fun h2 => h (hkb.1 h2)), show (⟨#[32]⟩ : ByteArray) = ⟨([32] : List UInt8).toArray⟩ from rfl, mk_app, mk_app]; simp)
      have HR : Hid ((∀ c ∈ chop (bl ⟨(ws[k]).toArray⟩), blank c.1 = false) ∧ (⟨(ws[k]).toArray⟩ : ByteArray) ≠ ⟨#[]⟩) := Lib.hid ⟨by rw [bl_mk]; exact hwk.2, fun h => hwk.1 (by have := congrArg bl h; simpa using this)⟩
      have hs0 : (⟨(ws[k]).toArray⟩ : ByteArray).size ≤ 1048576 := by omega
      have hXe : (⟨(ws[k]).toArray⟩ : ByteArray).toList.isEmpty = false := by
        rw [ByteArray.toList_eq]
        have := hwk.1
        simpa using this
      clear hj hf1 hwk htk hkb
      generalize (⟨((ws.take k).map (foldL p)).flatten.toArray⟩ : ByteArray) = L at *
      generalize (⟨(joinAll (ws.take k)).toArray⟩ : ByteArray) = J at *
      generalize (⟨(foldL p ws[k]).toArray⟩ : ByteArray) = F at *
      generalize (⟨(ws[k]).toArray⟩ : ByteArray) = X at *
      have hone : (⟨#[32]⟩ : ByteArray).size = 1 := rfl
      have z1 : J.size + (⟨#[32]⟩ : ByteArray).size ≤ 9223372036854775807 := by omega
      have z3 : L.size + F.size ≤ 9223372036854775807 := by omega
      have z2 : (J ++ (⟨#[32]⟩ : ByteArray)).size + X.size ≤ 9223372036854775807 := by rw [ByteArray.size_append]; omega
      have z0 : J.size + X.size ≤ 9223372036854775807 := by omega
      have HFH := Lib.hid HF; clear HF
      by_cases hk0 : k = 0
      · have hkc : (k : Int) ≤ 0 := by omega
        have HK0 := Lib.hid (E2.out hk0); clear hk0 E2 E3
        go_wp2_with (go_at_call 40; refine (HFH.out _).mono ?_; rintro e w4 ⟨rfl, hb4⟩)
        have hbw4 : Below w.heap.size w w4 := hbw.trans (hb4.mono hbw.size)
        have hbx4 : Below w2.heap.size w2 w4 := hbw2.trans (hb4.mono hbw2.size)
        go_loopg [11] X.size (fun gf _ wr => ∃ pos : Nat, wr.heap[w4.heap.size]? = some (.stringIter X pos) ∧ Below w.heap.size w wr ∧ Below w2.heap.size w2 wr ∧ Hid (∀ c ∈ chop ((bl X).drop pos), blank c.1 = false) ∧ X.size ≤ pos + gf)
        case atStart => exact ⟨0, World.iter_heap w4 X 0, hbw4.alloc hbw4.size _, hbx4.alloc hbx4.size _, Lib.hid (by simpa using HR.out.1), by omega⟩
        case round =>
          obtain ⟨pos, hit, hby, hbz, hgd, hfv⟩ := hrel
          by_cases hp : pos < X.size
          · obtain ⟨gg, rfl⟩ : ∃ gg, gk = gg + 1 := ⟨gk - 1, by omega⟩
            have hnx : ∀ ty, (Instr.next (.pointer (some ⟨w4.heap.size, 0, none⟩)) true ty).run Try.prog wr = _ := fun ty => Lib.run_next_any_at wr w4.heap.size X pos ty hit hp
            have hwd := Lib.width_pos X pos
            have hgo := hgd.out
            rw [chop_at X pos hp] at hgo
            have q1 := hgo _ (List.mem_cons_self ..)
            have hgn : Hid (∀ c ∈ chop ((bl X).drop (pos + (Utf8.decode X pos).2)), blank c.1 = false) := Lib.hid (fun x hx => hgo x (List.mem_cons_of_mem _ hx))
            have hit2 := Lib.iterAt_heap wr w4.heap.size X pos (pos + (Utf8.decode X pos).2) hit
            have hby2 := Lib.below_iterAt hby (k := w4.heap.size) hbw4.size X (pos + (Utf8.decode X pos).2)
            have hbz2 := Lib.below_iterAt hbz (k := w4.heap.size) hbx4.size X (pos + (Utf8.decode X pos).2)
            have kC := fun W => Class_any ((Utf8.decode X pos).1 : Int) W
            have hq : (cls ((Utf8.decode X pos).1 : Int) == 3) = false := by
              have : ¬ cls ((Utf8.decode X pos).1 : Int) = 3 := by simpa [blank] using q1
              simpa using this
            clear hgo q1 hgd
            generalize cls ((Utf8.decode X pos).1 : Int) = q at *
            generalize Utf8.decode X pos = d at *
            have KC := Lib.hid kC; clear kC
            go_wp2_with (go_at_call 33; refine (KC.out _).mono ?_; rintro e W1 ⟨rfl, rfl⟩)
            go_roundg gg
            case measure => omega
            case rel => exact ⟨_, hit2, hby2, hbz2, hgn, by omega⟩
          · have hnx : ∀ ty, (Instr.next (.pointer (some ⟨w4.heap.size, 0, none⟩)) true ty).run Try.prog wr = _ := fun ty => Lib.run_next_end_at wr w4.heap.size X pos ty hit hp
            go_wp2
            go_roundg g'
            case measure => omega
            case rel => exact ⟨k + 1, by rw [HK0.out], by rw [E1.out], by go_num, by omega, by omega, hby, hbz⟩
      · have hkc : (0 : Int) < (k : Int) := by omega
        have HK0 := Lib.hid (E3.out hk0); clear hk0 E2 E3
        go_wp2_with (go_at_call 40; refine (HFH.out _).mono ?_; rintro e w4 ⟨rfl, hb4⟩)
        have hbw4 : Below w.heap.size w w4 := hbw.trans (hb4.mono hbw.size)
        have hbx4 : Below w2.heap.size w2 w4 := hbw2.trans (hb4.mono hbw2.size)
        go_loopg [11] X.size (fun gf _ wr => ∃ pos : Nat, wr.heap[w4.heap.size]? = some (.stringIter X pos) ∧ Below w.heap.size w wr ∧ Below w2.heap.size w2 wr ∧ Hid (∀ c ∈ chop ((bl X).drop pos), blank c.1 = false) ∧ X.size ≤ pos + gf)
        case atStart => exact ⟨0, World.iter_heap w4 X 0, hbw4.alloc hbw4.size _, hbx4.alloc hbx4.size _, Lib.hid (by simpa using HR.out.1), by omega⟩
        case round =>
          obtain ⟨pos, hit, hby, hbz, hgd, hfv⟩ := hrel
          by_cases hp : pos < X.size
          · obtain ⟨gg, rfl⟩ : ∃ gg, gk = gg + 1 := ⟨gk - 1, by omega⟩
            have hnx : ∀ ty, (Instr.next (.pointer (some ⟨w4.heap.size, 0, none⟩)) true ty).run Try.prog wr = _ := fun ty => Lib.run_next_any_at wr w4.heap.size X pos ty hit hp
            have hwd := Lib.width_pos X pos
            have hgo := hgd.out
            rw [chop_at X pos hp] at hgo
            have q1 := hgo _ (List.mem_cons_self ..)
            have hgn : Hid (∀ c ∈ chop ((bl X).drop (pos + (Utf8.decode X pos).2)), blank c.1 = false) := Lib.hid (fun x hx => hgo x (List.mem_cons_of_mem _ hx))
            have hit2 := Lib.iterAt_heap wr w4.heap.size X pos (pos + (Utf8.decode X pos).2) hit
            have hby2 := Lib.below_iterAt hby (k := w4.heap.size) hbw4.size X (pos + (Utf8.decode X pos).2)
            have hbz2 := Lib.below_iterAt hbz (k := w4.heap.size) hbx4.size X (pos + (Utf8.decode X pos).2)
            have kC := fun W => Class_any ((Utf8.decode X pos).1 : Int) W
            have hq : (cls ((Utf8.decode X pos).1 : Int) == 3) = false := by
              have : ¬ cls ((Utf8.decode X pos).1 : Int) = 3 := by simpa [blank] using q1
              simpa using this
            clear hgo q1 hgd
            generalize cls ((Utf8.decode X pos).1 : Int) = q at *
            generalize Utf8.decode X pos = d at *
            have KC := Lib.hid kC; clear kC
            go_wp2_with (go_at_call 33; refine (KC.out _).mono ?_; rintro e W1 ⟨rfl, rfl⟩)
            go_roundg gg
            case measure => omega
            case rel => exact ⟨_, hit2, hby2, hbz2, hgn, by omega⟩
          · have hnx : ∀ ty, (Instr.next (.pointer (some ⟨w4.heap.size, 0, none⟩)) true ty).run Try.prog wr = _ := fun ty => Lib.run_next_end_at wr w4.heap.size X pos ty hit hp
            go_wp2
            go_roundg g'
            case measure => omega
            case rel => exact ⟨k + 1, by rw [HK0.out], by rw [E1.out], by go_num, by omega, by omega, hby, hbz⟩
    · obtain rfl : k = ws.length := by omega
      rw [List.take_length] at *
      have htr : (decide (ws = ws)) = true := by simp
      have hsz : (strs ws).length = ws.length := by simp [strs]
      go_wp2_with (first
        | (go_at_call 27; refine (HW2.out _).mono ?_; rintro e w5 ⟨A5, rfl, hA5, hown5, hb5⟩; have hs5 := (hsl.below (hb5.mono hbw2.size)).more (show w2.heap.size ≤ w5.heap.size by have := hb5.size; have := hbw2.size; omega); have hs6 := Sl.of_own hown5)
        | (go_at_call 26; (refine (SameTexts_any _ _ ws ws w5.heap.size w5 hs6 hs5 (by omega) (by omega)).mono ?_); rintro e w6 ⟨rfl, hb6⟩; have hb7 := hbw.trans ((hb5.trans (hb6.mono hb5.size)).mono hbw.size))
        | (go_at_call 40; (with_reducible refine (HFs.at_ (by assumption)).mono ?_); rintro e w4 ⟨rfl, hb4⟩))
      go_ret
      exact ⟨rfl, by assumption⟩
end Go.Proofs.Ytlkabghpcjlohaa
