/- Walks of package utf's Cut and Back. -/
import Derived.Test.YtlkabghpcjlohaaA3
import Derived.Test.YtlkabghpcjlohaaB1
import Derived.Laws.IdiomStrings
namespace Go.Proofs.Ytlkabghpcjlohaa
set_option linter.unusedVariables false
set_option linter.unusedSimpArgs false
open Go.RowKit Go.Lib

theorem glue_take_len (l : List UInt8) (k : Nat) : (bl (⟨l.toArray⟩ : ByteArray)) = l := rfl

set_option maxHeartbeats 2000000 in
theorem Cut_any (s : ByteArray) (n : Int) (w : World) (hn0 : -9223372036854775808 ≤ n) (hn1 : n ≤ 9223372036854775807) (hs : s.size < 9223372036854775807) :
    Calls Try.prog 30 #[.string s, .int .i64 n] w fun e w' => e = .returned (.string ⟨(cutL (bl s) n).toArray⟩) ∧ Below w.heap.size w w' := by
  by_cases h1 : n < 1
  · have e : cutL (bl s) n = [] := by
      unfold cutL
      rw [show n.toNat = 0 by omega]; rfl
    rw [e]
    go_enter Try.func30, Try.ntmps30
    go_wp2
    go_ret
    exact ⟨rfl, Below.refl _ _⟩
  · obtain ⟨k, rfl⟩ : ∃ k : Nat, n = k := ⟨n.toNat, by omega⟩
    have hcut : cutL (bl s) k = glue ((chop (bl s)).take k) := by unfold cutL; rw [Int.toNat_natCast]
    have HCUT := Lib.hid hcut; clear hcut
    go_enter Try.func30, Try.ntmps30
    go_wp2
    go_loopg [1, 5] s.size (fun gf nn _ wr => ∃ (pos m : Nat), nn = .int .i64 m ∧ wr.heap[w.heap.size]? = some (.stringIter s pos) ∧ Below w.heap.size w wr ∧
      pos + (glue ((chop ((bl s).drop pos)).take m)).length = (glue ((chop (bl s)).take k)).length ∧ m ≤ k ∧ pos ≤ s.size ∧ s.size ≤ pos + gf)
    case atStart => exact ⟨0, k, rfl, World.iter_heap w s 0, (Below.refl _ w).alloc (Nat.le_refl _) _, by simp, Nat.le_refl _, Nat.zero_le _, by omega⟩
    case round =>
      obtain ⟨pos, m, rfl, hit, hbw, hc, hmk, hps, hfu⟩ := hrel
      have hgt := glue_take (bl s) k
      by_cases hp : pos < s.size
      · obtain ⟨g', rfl⟩ : ∃ g', gk = g' + 1 := ⟨gk - 1, by omega⟩
        have hnx : ∀ ty, (Instr.next (.pointer (some ⟨w.heap.size, 0, none⟩)) true ty).run Try.prog wr = _ := fun ty => Lib.run_next_any_at wr w.heap.size s pos ty hit hp
        have hwd := Lib.width_pos s pos
        have hwl := width_le s pos hp
        have hpl := piece_len s pos hp
        have hit2 := Lib.iterAt_heap wr w.heap.size s pos (pos + (Utf8.decode s pos).2) hit
        have hbw2 := Lib.below_iterAt hbw (k := w.heap.size) (Nat.le_refl _) s (pos + (Utf8.decode s pos).2)
        by_cases hm : m = 0
        · subst hm
          have hfin : (⟨(glue ((chop (bl s)).take k)).toArray⟩ : ByteArray) = s.extract 0 pos := by
            apply bl_inj
            rw [bl_mk, bl_to, hgt]
            congr 1
            simp [glue] at hc
            simp [glue]; omega
          have HF := Lib.hid hfin; clear hfin
          clear hc hgt hpl
          go_wp2
          go_ret
          exact ⟨ret_s (by rw [HCUT.out, HF.out]), hbw2⟩
        · obtain ⟨m', rfl⟩ : ∃ m', m = m' + 1 := ⟨m - 1, by omega⟩
          have hc2 : pos + (Utf8.decode s pos).2 + (glue ((chop ((bl s).drop (pos + (Utf8.decode s pos).2))).take m')).length = (glue ((chop (bl s)).take k)).length := by
            rw [← hc, chop_at s pos hp, List.take_succ_cons]
            simp only [glue, List.map_cons, List.flatten_cons, List.length_append, hpl]
            omega
          have HC := Lib.hid hc2; clear hc2 hc hgt hpl
          generalize Utf8.decode s pos = d at *
          go_wp2
          go_roundg g'
          case measure => omega
          case rel => exact ⟨pos + d.2, m', by go_num, hit2, hbw2, HC.out, by omega, by omega, by omega⟩
      · have hnx : ∀ ty, (Instr.next (.pointer (some ⟨w.heap.size, 0, none⟩)) true ty).run Try.prog wr = _ := fun ty => Lib.run_next_end_at wr w.heap.size s pos ty hit hp
        have hfin : (⟨(glue ((chop (bl s)).take k)).toArray⟩ : ByteArray) = s := by
          apply bl_inj
          rw [bl_mk, hgt, List.take_of_length_le]
          rw [bl_length, ← hc]; omega
        have HF := Lib.hid hfin; clear hfin hc hgt
        go_wp2
        go_ret
        exact ⟨ret_s (by rw [HCUT.out, HF.out]), hbw⟩

theorem strCells_eq (s : ByteArray) : strCells s = byteCells (bl s) := by
  unfold strCells byteCells; rfl
theorem encode_bytes (r : Int) : bl (Utf8.encode r) = enc r := rfl

end Go.Proofs.Ytlkabghpcjlohaa
