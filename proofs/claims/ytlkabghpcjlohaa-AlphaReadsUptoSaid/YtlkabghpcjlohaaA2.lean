/- Walks of package utf over a text: how many runes, are all good, where they begin, the first ones, the rune at a place. -/
import Derived.Test.YtlkabghpcjlohaaA1
import Derived.Test.YtlkabghpcjlohaaP2
import Derived.Test.YtlkabghpcjlohaaShelf
import Derived.Deep.LoopGhost
import Derived.Lib.Strings
import Derived.OwnWalk
import Derived.Lib.Hide
import Derived.Laws.AppendOwn
import Derived.Maps.AppendAt
set_option linter.unusedVariables false
set_option linter.unusedSimpArgs false
namespace Go.Proofs.Ytlkabghpcjlohaa
open Go.RowKit Go.Lib

abbrev bl (s : ByteArray) : List UInt8 := s.data.toList
theorem bl_length (s : ByteArray) : (bl s).length = s.size := (size_eq s).symm

/-- one step of ranging over a string, at place pos: the text from there on -/
theorem dec_at (s : ByteArray) (pos : Nat) : Utf8.decode s pos = decodeL ((bl s).drop pos) := (decodeL_drop s pos).symm
theorem drop_ne (s : ByteArray) (pos : Nat) (h : pos < s.size) : (bl s).drop pos ≠ [] := by
  intro h0
  have := congrArg List.length h0
  rw [List.length_drop, bl_length, List.length_nil] at this; omega
theorem chop_at (s : ByteArray) (pos : Nat) (h : pos < s.size) :
    chop ((bl s).drop pos) = ((Utf8.decode s pos).1, ((bl s).drop pos).take (Utf8.decode s pos).2) :: chop ((bl s).drop (pos + (Utf8.decode s pos).2)) := by
  rw [dec_at, chop_ne (drop_ne s pos h), ← List.drop_drop]; rfl
theorem chop_end (s : ByteArray) (pos : Nat) (h : ¬ pos < s.size) : chop ((bl s).drop pos) = [] := by
  rw [List.drop_of_length_le (by rw [bl_length]; omega)]; rfl
theorem width_le (s : ByteArray) (pos : Nat) (h : pos < s.size) : pos + (Utf8.decode s pos).2 ≤ s.size := by
  have := wd_le _ (drop_ne s pos h)
  unfold wd at this
  rw [decodeL_drop, List.length_drop, bl_length] at this; omega
theorem piece_len (s : ByteArray) (pos : Nat) (h : pos < s.size) : (((bl s).drop pos).take (Utf8.decode s pos).2).length = (Utf8.decode s pos).2 := by
  have := width_le s pos h
  rw [List.length_take, List.length_drop, bl_length]; omega

set_option maxHeartbeats 1000000 in
theorem Count_any (s : ByteArray) (w : World) (hs : s.size < 9223372036854775807) :
    Calls Try.prog 105 #[.string s] w fun e w' => e = .returned (.int .i64 (chop (bl s)).length) ∧ Below w.heap.size w w' := by
  have hle := chop_length_le (bl s)
  rw [bl_length] at hle
  go_enter Try.func105, Try.ntmps105
  go_wp2
  go_loopg [3] s.size (fun gf n wr => ∃ (pos acc : Nat), wr.heap[w.heap.size]? = some (.stringIter s pos) ∧ Below w.heap.size w wr ∧ n = .int .i64 acc ∧
    acc + (chop ((bl s).drop pos)).length = (chop (bl s)).length ∧ s.size ≤ pos + gf)
  case atStart => exact ⟨0, 0, World.iter_heap w s 0, (Below.refl _ w).alloc (Nat.le_refl _) _, rfl, by simp, by omega⟩
  case round =>
    obtain ⟨pos, acc, hit, hbw, rfl, hc, hfu⟩ := hrel
    by_cases hp : pos < s.size
    · obtain ⟨g', rfl⟩ : ∃ g', gk = g' + 1 := ⟨gk - 1, by omega⟩
      have hnx : ∀ ty, (Instr.next (.pointer (some ⟨w.heap.size, 0, none⟩)) true ty).run Try.prog wr = _ := fun ty => Lib.run_next_any_at wr w.heap.size s pos ty hit hp
      have hwd := Lib.width_pos s pos
      rw [chop_at s pos hp, List.length_cons] at hc
      have hit2 := Lib.iterAt_heap wr w.heap.size s pos (pos + (Utf8.decode s pos).2) hit
      have hbw2 := Lib.below_iterAt hbw (k := w.heap.size) (Nat.le_refl _) s (pos + (Utf8.decode s pos).2)
      have hb : (acc : Int) + 1 ≤ 9223372036854775807 := by omega
      go_wp2
      go_roundg g'
      case measure => omega
      case rel => exact ⟨_, acc + 1, hit2, hbw2, by go_num, by omega, by omega⟩
    · have hnx : ∀ ty, (Instr.next (.pointer (some ⟨w.heap.size, 0, none⟩)) true ty).run Try.prog wr = _ := fun ty => Lib.run_next_end_at wr w.heap.size s pos ty hit hp
      rw [chop_end s pos hp, List.length_nil, Nat.add_zero] at hc
      subst hc
      go_wp2
      go_ret
      exact ⟨rfl, hbw⟩
end Go.Proofs.Ytlkabghpcjlohaa
