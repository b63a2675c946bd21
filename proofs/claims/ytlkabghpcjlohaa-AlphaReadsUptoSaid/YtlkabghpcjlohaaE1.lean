/- Walk of the reference's Encode. -/
import Derived.Test.YtlkabghpcjlohaaA4
import Derived.Outline
namespace Go.Proofs.Ytlkabghpcjlohaa
set_option linter.unusedVariables false
set_option linter.unusedSimpArgs false
open Go.RowKit Go.Lib

/-- 'string([]byte{..})' -/
theorem str_of_nums (w : World) (ns : List Nat) (h : ∀ n ∈ ns, n < 256) :
    (convert 43 9 (.slice (some ⟨w.heap.size, 0, none⟩) ns.length ns.length)).run Try.prog (w.alloc (.cells (ns.map fun (n : Nat) => Value.int .u8 (n : Int)).toArray 5)) =
      .ok (.string ⟨(ns.map UInt8.ofNat).toArray⟩) (w.alloc (.cells (ns.map fun (n : Nat) => Value.int .u8 (n : Int)).toArray 5)) := by
  have := run_convert_bytes_back (P := Try.prog) (w.alloc (.cells (ns.map fun (n : Nat) => Value.int .u8 (n : Int)).toArray 5)) 43 9 5 ⟨w.heap.size, 0, none⟩ ns.length (ns.map UInt8.ofNat) Try.underlying43 Try.underlying5 Try.underlying9 (by
    intro j hj
    have hj' : j < ns.length := by simpa using hj
    have hn := h ns[j] (List.getElem_mem hj')
    have e : (⟨w.heap.size, 0, none⟩ : Addr).add j = ⟨w.heap.size, j, none⟩ := by unfold Addr.add; split <;> simp_all
    rw [e, World.cell?_alloc_new]
    simp only [List.getElem_map, u8_ofNat hn]
    simp [hj'])
  simpa using this

theorem encode_parts (r : Int) (h : (0 ≤ r ∧ r < 55296) ∨ (57343 < r ∧ r ≤ 1114111)) : Utf8.encode r =
    (if r < 128 then ⟨([r.toNat].map UInt8.ofNat).toArray⟩
     else if r < 2048 then ⟨([192 + r.toNat / 64, 128 + r.toNat % 64].map UInt8.ofNat).toArray⟩
     else if r < 65536 then ⟨([224 + r.toNat / 4096, 128 + r.toNat / 64 % 64, 128 + r.toNat % 64].map UInt8.ofNat).toArray⟩
     else ⟨([240 + r.toNat / 262144, 128 + r.toNat / 4096 % 64, 128 + r.toNat / 64 % 64, 128 + r.toNat % 64].map UInt8.ofNat).toArray⟩) := by
  have hv : Utf8.valid r = true := by rw [valid_iff]; omega
  have h0 : 0 ≤ r := by omega
  obtain ⟨c, rfl⟩ : ∃ c : Nat, r = c := ⟨r.toNat, by omega⟩
  apply bl_inj
  rw [encode_bytes, enc_cases]
  simp only [hv, if_true, Int.toNat_natCast, List.map_cons, List.map_nil]
  by_cases c1 : c < 128
  · rw [if_pos c1, if_pos (show (c : Int) < 128 by omega)]
  · rw [if_neg c1, if_neg (show ¬ (c : Int) < 128 by omega)]
    by_cases c2 : c < 2048
    · rw [if_pos c2, if_pos (show (c : Int) < 2048 by omega)]
    · rw [if_neg c2, if_neg (show ¬ (c : Int) < 2048 by omega)]
      by_cases c3 : c < 65536
      · rw [if_pos c3, if_pos (show (c : Int) < 65536 by omega)]
      · rw [if_neg c3, if_neg (show ¬ (c : Int) < 65536 by omega)]
abbrev convS (w : World) (cs : Array Value) (E : ByteArray) : Prop :=
  (convert 43 9 (.slice (some ⟨w.heap.size, 0, none⟩) cs.size cs.size)).run Try.prog (w.alloc (.cells cs 5)) = .ok (.string E) (w.alloc (.cells cs 5))
theorem convS_of (w : World) (ns : List Nat) (h : ∀ n ∈ ns, n < 256) (cs : Array Value) (hcs : (ns.map fun (n : Nat) => Value.int .u8 (n : Int)).toArray = cs) (E : ByteArray) (hE : (⟨(ns.map UInt8.ofNat).toArray⟩ : ByteArray) = E) : convS w cs E := by
  subst hcs; subst hE
  have := str_of_nums w ns h
  unfold convS
  simpa using this
theorem conv1 (w : World) (r : Int) (h : 0 ≤ r ∧ r < 128) : convS w #[.int .u8 r] (Utf8.encode r) :=
  convS_of w [r.toNat] (by simp; omega) _ (by simp [Int.toNat_of_nonneg h.1]) _ (by rw [encode_parts r (by omega), if_pos h.2])
theorem conv2 (w : World) (r : Int) (h : 128 ≤ r ∧ r < 2048) : convS w #[.int .u8 (192 + r / 64), .int .u8 (128 + r % 64)] (Utf8.encode r) := by
  refine convS_of w [192 + r.toNat / 64, 128 + r.toNat % 64] (by simp; omega) _ ?_ _ (by rw [encode_parts r (by omega), if_neg (by omega), if_pos h.2])
  have e1 : ((192 + r.toNat / 64 : Nat) : Int) = 192 + r / 64 := by omega
  have e2 : ((128 + r.toNat % 64 : Nat) : Int) = 128 + r % 64 := by omega
  simp only [List.map_cons, List.map_nil, e1, e2]
theorem conv3 (w : World) (r : Int) (h : (2048 ≤ r ∧ r < 55296) ∨ (57343 < r ∧ r < 65536)) : convS w #[.int .u8 (224 + r / 4096), .int .u8 (128 + r / 64 % 64), .int .u8 (128 + r % 64)] (Utf8.encode r) := by
  refine convS_of w [224 + r.toNat / 4096, 128 + r.toNat / 64 % 64, 128 + r.toNat % 64] (by simp; omega) _ ?_ _ (by rw [encode_parts r (by omega), if_neg (by omega), if_neg (by omega), if_pos (by omega)])
  have e1 : ((224 + r.toNat / 4096 : Nat) : Int) = 224 + r / 4096 := by omega
  have e2 : ((128 + r.toNat / 64 % 64 : Nat) : Int) = 128 + r / 64 % 64 := by omega
  have e3 : ((128 + r.toNat % 64 : Nat) : Int) = 128 + r % 64 := by omega
  simp only [List.map_cons, List.map_nil, e1, e2, e3]
theorem conv4 (w : World) (r : Int) (h : 65536 ≤ r ∧ r ≤ 1114111) : convS w #[.int .u8 (240 + r / 262144), .int .u8 (128 + r / 4096 % 64), .int .u8 (128 + r / 64 % 64), .int .u8 (128 + r % 64)] (Utf8.encode r) := by
  refine convS_of w [240 + r.toNat / 262144, 128 + r.toNat / 4096 % 64, 128 + r.toNat / 64 % 64, 128 + r.toNat % 64] (by simp; omega) _ ?_ _ (by rw [encode_parts r (by omega), if_neg (by omega), if_neg (by omega), if_neg (by omega)])
  have e0 : ((240 + r.toNat / 262144 : Nat) : Int) = 240 + r / 262144 := by omega
  have e1 : ((128 + r.toNat / 4096 % 64 : Nat) : Int) = 128 + r / 4096 % 64 := by omega
  have e2 : ((128 + r.toNat / 64 % 64 : Nat) : Int) = 128 + r / 64 % 64 := by omega
  have e3 : ((128 + r.toNat % 64 : Nat) : Int) = 128 + r % 64 := by omega
  simp only [List.map_cons, List.map_nil, e0, e1, e2, e3]

set_option maxHeartbeats 4000000 in
set_option maxRecDepth 100000 in
theorem refEncode_any (r : Int) (w : World) (h0 : -2147483648 ≤ r) (h1 : r ≤ 2147483647) :
    Calls Try.prog 77 #[.int .i32 r] w fun e w' => e = .returned (.string (Utf8.encode r)) ∧ Below w.heap.size w w' := by
  by_cases c1 : r < 0
  · rw [encode_bad (by simp [Utf8.valid]; omega)]
    go_enter Try.func77, Try.ntmps77
    go_wp2
    go_ret
    exact ⟨rfl, Below.refl _ _⟩
  by_cases c2 : r > 1114111
  · rw [encode_bad (by simp [Utf8.valid]; omega)]
    go_enter Try.func77, Try.ntmps77
    go_wp2
    go_ret
    exact ⟨rfl, Below.refl _ _⟩
  by_cases c3 : r ≥ 55296
  · by_cases c4 : r ≤ 57343
    · rw [encode_bad (by simp [Utf8.valid]; omega)]
      go_enter Try.func77, Try.ntmps77
      go_wp2
      go_ret
      exact ⟨rfl, Below.refl _ _⟩
    · by_cases c6 : r < 65536
      · have hx := conv3 w r (by omega)
        generalize Utf8.encode r = E at hx ⊢
        unfold convS at hx
        simp only [List.size_toArray, List.length_cons, List.length_nil] at hx
        go_enter Try.func77, Try.ntmps77
        go_wp2
        go_ret
        exact ⟨rfl, (Below.refl _ _).alloc (Nat.le_refl _) _⟩
      · have hx := conv4 w r (by omega)
        generalize Utf8.encode r = E at hx ⊢
        unfold convS at hx
        simp only [List.size_toArray, List.length_cons, List.length_nil] at hx
        go_enter Try.func77, Try.ntmps77
        go_wp2
        go_ret
        exact ⟨rfl, (Below.refl _ _).alloc (Nat.le_refl _) _⟩
  by_cases c4 : r < 128
  · have hx := conv1 w r (by omega)
    generalize Utf8.encode r = E at hx ⊢
    unfold convS at hx
    simp only [List.size_toArray, List.length_cons, List.length_nil] at hx
    go_enter Try.func77, Try.ntmps77
    go_wp2
    go_ret
    exact ⟨rfl, (Below.refl _ _).alloc (Nat.le_refl _) _⟩
  by_cases c5 : r < 2048
  · have hx := conv2 w r (by omega)
    generalize Utf8.encode r = E at hx ⊢
    unfold convS at hx
    simp only [List.size_toArray, List.length_cons, List.length_nil] at hx
    go_enter Try.func77, Try.ntmps77
    go_wp2
    go_ret
    exact ⟨rfl, (Below.refl _ _).alloc (Nat.le_refl _) _⟩
  · have hx := conv3 w r (by omega)
    generalize Utf8.encode r = E at hx ⊢
    unfold convS at hx
    simp only [List.size_toArray, List.length_cons, List.length_nil] at hx
    go_enter Try.func77, Try.ntmps77
    go_wp2
    go_ret
    exact ⟨rfl, (Below.refl _ _).alloc (Nat.le_refl _) _⟩
end Go.Proofs.Ytlkabghpcjlohaa
