/- Package utf's sequence All (its iterator's contract), and Fix. -/
import Derived.Test.YtlkabghpcjlohaaA4
import Derived.RangeFuncNested
import Derived.RangeFuncBound
import Derived.RangeFuncCalls
import Derived.RangeFuncLeaves
import Derived.Shelf.Abstract
import Derived.Shelf.RegionOpen
import Derived.OwnWalkIn
import Derived.TacticsInMore
import Derived.LoopNIn
import Derived.LoopIn
namespace Go.Proofs.Ytlkabghpcjlohaa
set_option linter.unusedVariables false
set_option linter.unusedSimpArgs false
open Go.RowKit Go.Lib Go.Shelf
attribute [local go_sem] Oper.semAt_some

/-- places and runes -/
def stepsFrom : Nat → List (Nat × List UInt8) → List (Nat × Nat)
  | _, [] => []
  | p, c :: cs => (p, c.1) :: stepsFrom (p + c.2.length) cs
def steps (l : List UInt8) : List (Nat × Nat) := stepsFrom 0 (chop l)
theorem stepsFrom_snd (p : Nat) (cs : List (Nat × List UInt8)) : (stepsFrom p cs).map (·.2) = cs.map (·.1) := by
  induction cs generalizing p with
  | nil => rfl
  | cons c cs ih => simp [stepsFrom, ih]
theorem stepsFrom_fst (p : Nat) (cs : List (Nat × List UInt8)) : (stepsFrom p cs).map (·.1) = placesFrom p cs := by
  induction cs generalizing p with
  | nil => rfl
  | cons c cs ih => simp [stepsFrom, placesFrom, ih]
theorem steps_runes (l : List UInt8) : (steps l).map (·.2) = runes l := stepsFrom_snd 0 _
theorem steps_places (l : List UInt8) : (steps l).map (·.1) = places l := stepsFrom_fst 0 _
theorem steps_length (l : List UInt8) : (steps l).length = (chop l).length := by rw [← List.length_map (·.2), steps_runes, runes_length]

/-- What a round may know of what it is handed. -/
abbrev Step (s : ByteArray) := { x : Nat × Nat // x.1 ≤ s.size ∧ x.2 ≤ 1114111 }
abbrev stepV {s : ByteArray} (x : Step s) : Array Value := #[.int .i64 (x.1.1 : Int), .int .i32 (x.1.2 : Int)]
abbrev raw {s : ByteArray} (xs : List (Step s)) : List (Nat × Nat) := xs.map (·.1)

theorem All_in (F : Fence) (n : Nat) (hF : F.fn 72) (hro : F.round = none) (s : ByteArray) (w : World) :
    CallsIn F n Try.prog 72 #[.string s] w fun e w' => e = .returned (.func (.func 101) #[] #[.pointer (some ⟨w.heap.size, 0, none⟩)]) ∧ w' = w.alloc (.cells #[.string s] 9) := by
  refine callsIn_of_wp Try.func72 rfl hF ?_ hro
  simp only [Try.ntmps72, List.size_toArray, List.length_cons, List.length_nil, Nat.reduceAdd, Nat.reduceSub, Array.replicate_succ, Array.replicate_zero, List.push_toArray, List.append_toArray, List.nil_append, List.cons_append]
  gi_wp2
  go_ret
  exact ⟨rfl, rfl⟩

set_option maxHeartbeats 2000000 in
set_option maxRecDepth 100000 in
theorem All_stops (F : Fence) (n : Nat) (hF : F.fn 101) (hro : F.round = none) (hn : 1 ≤ n) (s : ByteArray) (Bn : Nat) (w : World) (hBn : Bn < w.heap.size) (hc : w.cell? ⟨Bn, 0, none⟩ = some (.string s)) :
    SeqStopsA F n Try.prog 101 #[.pointer (some ⟨Bn, 0, none⟩)] (fun x : Step s => stepV x) (fun xs => raw xs = steps (bl s)) (fun pre => raw pre <+: steps (bl s)) (chop (bl s)).length w := by
  intro l J Jx W hW hJ hJx hY h0
  have hcW : W.cell? ⟨Bn, 0, none⟩ = some (.string s) := (hW.cell (p := ⟨Bn, 0, none⟩) hBn).trans hc
  refine callsIn_of_wp Try.func101 rfl hF ?_ hro
  simp only [Try.ntmps101, List.size_toArray, List.length_cons, List.length_nil, Nat.reduceAdd, Nat.reduceSub, Array.replicate_succ, Array.replicate_zero, List.push_toArray, List.append_toArray, List.nil_append, List.cons_append]
  gi_wp2
  gi_loopw [3, 4] (fun _ _ wr => ∃ (pre : List (Step s)) (pos : Nat), wr.heap[W.heap.size]? = some (.stringIter s pos) ∧ raw pre ++ stepsFrom pos (chop ((bl s).drop pos)) = steps (bl s) ∧ pos ≤ s.size ∧ J pre wr)
    (fun _ _ wr => s.size - wr.iterPos W.heap.size)
  case atStart =>
    refine ⟨[], 0, World.iter_heap W s 0, by simp [steps], Nat.zero_le _, ?_⟩
    exact hJ _ _ _ none h0 (World.grownBy_alloc W _ none) (fun r e => by cases e)
  case round =>
    obtain ⟨pre, pos, hit, hx, hps, hJs⟩ := hrel
    by_cases hp : pos < s.size
    · have hnx : ∀ ty, (Instr.next (.pointer (some ⟨W.heap.size, 0, none⟩)) true ty).run Try.prog wr = _ := fun ty => Lib.run_next_any_at wr W.heap.size s pos ty hit hp
      have hwd := Lib.width_pos s pos
      have hwl := width_le s pos hp
      have hpl := piece_len s pos hp
      have hrl := Lib.rune_le s pos
      rw [chop_at s pos hp, stepsFrom, hpl] at hx
      have hit2 := Lib.iterAt_heap wr W.heap.size s pos (pos + (Utf8.decode s pos).2) hit
      have hJ2 : J pre (wr.iterAt W.heap.size s (pos + (Utf8.decode s pos).2)) :=
        hJ _ _ _ (some W.heap.size) hJs ⟨rfl, rfl, rfl, by rw [iterAt_size]; exact Nat.le_refl _, fun j _ hj => iterAt_other wr W.heap.size j s _ (fun e => hj (by rw [e]))⟩ (fun r e => by cases e; exact ⟨Nat.le_refl _, _, hit, rfl⟩)
      have hlen : pre.length < (chop (bl s)).length := by
        have := congrArg List.length hx
        rw [steps_length] at this
        simp only [List.length_append, List.length_map, List.length_cons] at this
        omega
      have hip : wr.iterPos W.heap.size = pos := by simp [World.iterPos, hit]
      clear hpl
      generalize Utf8.decode s pos = d at *
      have HX := Lib.hid hx; clear hx
      obtain ⟨fn, tmps, assign, body, hy, hR⟩ := hY pre ⟨(pos, d.1), by omega, hrl⟩ _ hJ2 hlen
      dsimp only [stepV] at hy
      gi_wp2
      refine hR.mono ?_
      rintro e W3 (⟨rfl, hJ3, hk3⟩ | ⟨rfl, hJx3⟩)
      · have hit3 : W3.heap[W.heap.size]? = some (.stringIter s (pos + d.2)) := hk3.same _ _ hit2 rfl
        gi_wp2
        go_roundw
        case rel => exact ⟨pre ++ [⟨(pos, d.1), by omega, hrl⟩], pos + d.2, hit3, by simpa [raw] using HX.out, by omega, hJ3⟩
        case measure =>
          simp only [World.iterPos, hit3, hit]
          omega
      · gi_wp2
        refine bodyPost_ret (results_none rfl _ _ _) rfl ?_
        exact ⟨⟨_, rfl⟩, .inr ⟨pre ++ [⟨(pos, d.1), by omega, hrl⟩], ⟨_, by have := HX.out; simpa [raw] using this⟩, hJx3⟩⟩
    · have hnx : ∀ ty, (Instr.next (.pointer (some ⟨W.heap.size, 0, none⟩)) true ty).run Try.prog wr = _ := fun ty => Lib.run_next_end_at wr W.heap.size s pos ty hit hp
      rw [chop_end s pos hp, stepsFrom, List.append_nil] at hx
      have HX := Lib.hid hx; clear hx
      gi_wp2
      go_end0
      exact ⟨⟨_, rfl⟩, .inl ⟨pre, HX.out, hJs⟩⟩
end Go.Proofs.Ytlkabghpcjlohaa
