/- Package fold's Initials: the first letters of a text's words. -/
import Derived.Test.YtlkabghpcjlohaaG8
import Derived.Shelf.Strings.MapGrows
import Derived.Laws.OwnMore
namespace Go.Proofs.Ytlkabghpcjlohaa
set_option linter.unusedVariables false
set_option linter.unusedSimpArgs false
open Go.RowKit Go.Lib

theorem own_block {w : World} {B e n A c : Nat} {xs : List Value} (h : w.ownsRow B e 1 (.slice (some ⟨A, 0, none⟩) n c) n xs) : ∃ cur : Array Value, w.heap[A]? = some (.cells cur e (0, 0)) ∧ ∀ (k : Nat) (u : Value), xs[k]? = some u → cur[k]? = some u := by
  have hl : xs.length = n := by simpa using h.1
  rcases h.2 with ⟨hv, h0⟩ | ⟨g, cap, cur, hv, _, hg, _, _, _, htk⟩
  · simp at hv
  · simp only [Value.slice.injEq, Option.some.injEq, Addr.mk.injEq, and_true, true_and] at hv
    obtain ⟨rfl, rfl⟩ := hv
    refine ⟨cur, hg, fun k u hk => ?_⟩
    have hk2 := (List.getElem?_eq_some_iff.1 hk).1
    rw [← htk, List.getElem?_take, if_pos (by omega)] at hk
    simpa using hk

set_option maxHeartbeats 4000000 in
set_option maxRecDepth 100000 in
theorem Initials_any (s : ByteArray) (w : World) (hs : s.size ≤ 4294967296) :
    Calls Try.prog 43 #[.string s] w fun e w' => e = .returned (.string ⟨(initialsL (bl s)).toArray⟩) ∧ Below w.heap.size w w' := by
  have hcnt := w_count s
  have htot := words_total blank (bl s)
  rw [bl_length] at htot
  change (wordsL (bl s)).flatten.length ≤ s.size at htot
  have HE : Hid (initialsL (bl s) = initR (wordsL (bl s))) := Lib.hid rfl
  have HC := Lib.hid (fun W => Words_any s W hs)
  generalize wordsL (bl s) = ws at *
  go_enter Try.func43, Try.ntmps43
  go_wp2_with (go_at_call 27; refine (HC.out _).mono ?_; rintro e w1 ⟨A, rfl, hA, hown, hb⟩)
  obtain ⟨cur, hg0, hcur⟩ := own_block hown
  have hI0 : IsBuilderF 84 5 w.heap.size w.heap.size (byteCells (initR (ws.take 0))) w1 := by
    have := IsBuilderF.of (fresh_isBuilder 84 5 w)
    exact this.below hb
  have hb1 : Below w.heap.size w w1 := ((Below.refl _ w).alloc (Nat.le_refl _) _).trans (hb.mono (by simp))
  have hAn : A ≠ w.heap.size := by
    rw [World.size_alloc] at hA; omega
  clear hown hb
  go_loopw [5, 9] (fun _ u9 wr => ∃ k : Nat, u9 = .int .i64 k ∧ k ≤ ws.length ∧ IsBuilderF 84 5 w.heap.size w.heap.size (byteCells (initR (ws.take k))) wr ∧ Below w.heap.size w wr ∧ wr.heap[A]? = some (.cells cur 9 (0, 0))) (fun _ u9 _ => ws.length - (intOf u9).toNat)
  case atStart => exact ⟨0, rfl, Nat.zero_le _, hI0, hb1, hg0⟩
  case round =>
    obtain ⟨k, rfl, hk, hI, hbw, hg⟩ := hrel
    have hsz := hbw.size
    by_cases hlt : k < ws.length
    · have hxk : (strs ws)[k]? = some (.string ⟨(ws[k]'hlt).toArray⟩) := by rw [List.getElem?_map, List.getElem?_eq_getElem hlt]; rfl
      have g1 : wr.cell? ⟨A, k, none⟩ = some (.string ⟨(ws[k]'hlt).toArray⟩) := by
        rw [Lib.cell_of_heap hg]
        exact hcur k _ hxk
      clear hxk
      have m4 := flat_mem_le ws (ws[k]'hlt) (List.getElem_mem hlt)
      have hst : initR (ws.take (k + 1)) = initR (ws.take k) ++ cutL (foldL true (ws[k]'hlt)) 1 := by
        rw [List.take_succ_eq_append_getElem hlt, initR_snoc]
      have hst2 : byteCells (initR (ws.take (k + 1))) = byteCells (initR (ws.take k)) ++ strCells ⟨(cutL (foldL true (ws[k]'hlt)) 1).toArray⟩ := by rw [hst, byteCells_append, strCells_eq, bl_mk]
      have hr1 := initR_le (ws.take k)
      rw [List.length_take] at hr1
      have hr2 := cut1_le (foldL true (ws[k]'hlt))
      have hr3 := foldL_le' true (ws[k]'hlt)
      have cF := fun W => Fold_any ⟨(ws[k]'hlt).toArray⟩ true W (by rw [g_sz]; omega)
      rw [bl_mk] at cF
      have cC := fun W => Cut_any ⟨(foldL true (ws[k]'hlt)).toArray⟩ 1 W (by omega) (by omega) (by rw [g_sz]; omega)
      rw [bl_mk] at cC
      rw [← g_sz] at hr2
      clear hst hr3 m4
      generalize (⟨(cutL (foldL true (ws[k]'hlt)) 1).toArray⟩ : ByteArray) = E at *
      generalize (⟨(foldL true (ws[k]'hlt)).toArray⟩ : ByteArray) = F at *
      generalize (ws[k]'hlt) = x at *
      have HS := Lib.hid hst2; clear hst2
      have CF := Lib.hid cF; have CC := Lib.hid cC; clear cF cC
      have i1 : (0 : Int) ≤ (k : Int) := by omega
      have i2 : (k : Int) < (ws.length : Int) := by omega
      go_wp2_with (first
        | (go_at_call 40; refine (CF.out _).mono ?_; rintro e w2 ⟨rfl, hb2⟩)
        | (go_at_call 30; refine (CC.out _).mono ?_; rintro e w3 ⟨rfl, hb3⟩)
        | (go_at_call 73; refine (b_string w.heap.size w.heap.size _ _ _ ((hI.below hb2).below hb3) (by rw [byteCells_length]; omega) (by have := hb2.size; have := hb3.size; omega)).mono ?_; rintro e w4 ⟨rfl, h4, b4, k4⟩))
      have hltA : A < wr.heap.size := by
        rcases Nat.lt_or_ge A wr.heap.size with h | h
        · exact h
        · rw [Array.getElem?_eq_none h] at hg; cases hg
      have hgn : w4.heap[A]? = some (.cells cur 9 (0, 0)) := by
        refine k4 A _ ?_ (fun e1 => hAn (Option.some.inj e1)) (fun c fz e1 => by cases e1)
        rw [hb3.block A (by have := hb2.size; omega), hb2.block A hltA]; exact hg
      have hbn : Below w.heap.size w w4 := hbw.trans (((hb2.trans (hb3.mono hb2.size)).mono hsz).trans b4)
      exact ⟨⟨k + 1, by go_num, by omega, by rw [HS.out]; exact Or.inr h4, hbn, hgn⟩, by simp [intOf]; omega⟩
    · obtain rfl : k = ws.length := by omega
      rw [List.take_length] at hI
      have hir := initR_le ws
      go_wp2_with (go_at_call 74; refine (Try.Builder_String_any_k w.heap.size w.heap.size _ _ hI hsz).mono ?_; rintro e W1 ⟨rfl, _, b1, _⟩)
      go_ret
      exact ⟨ret_s (by rw [HE.out]), hbw.trans b1⟩
end Go.Proofs.Ytlkabghpcjlohaa
