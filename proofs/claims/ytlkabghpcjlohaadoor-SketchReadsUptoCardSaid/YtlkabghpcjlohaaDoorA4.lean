/- Walks of package utf's Cut and Back. -/
import Derived.Test.YtlkabghpcjlohaaDoorA3
import Derived.Test.YtlkabghpcjlohaaDoorB1
import Derived.Laws.IdiomStrings
namespace Go.Proofs.YtlkabghpcjlohaaDoor
set_option linter.unusedVariables false
set_option linter.unusedSimpArgs false
open Go.RowKit Go.Lib

theorem glue_take_len (l : List UInt8) (k : Nat) : (bl (⟨l.toArray⟩ : ByteArray)) = l := rfl

set_option maxHeartbeats 2000000 in
theorem Cut_any (s : ByteArray) (n : Int) (w : World) (hn0 : -9223372036854775808 ≤ n) (hn1 : n ≤ 9223372036854775807) (hs : s.size < 9223372036854775807) :
    Calls Tryd.prog 24 #[.string s, .int .i64 n] w fun e w' => e = .returned (.string ⟨(cutL (bl s) n).toArray⟩) ∧ Below w.heap.size w w' := by
  by_cases h1 : n < 1
  · have e : cutL (bl s) n = [] := by
      unfold cutL
      rw [show n.toNat = 0 by omega]; rfl
    rw [e]
    go_enter Tryd.func24, Tryd.ntmps24
    go_wp2
    go_ret
    exact ⟨rfl, Below.refl _ _⟩
  · obtain ⟨k, rfl⟩ : ∃ k : Nat, n = k := ⟨n.toNat, by omega⟩
    have hcut : cutL (bl s) k = glue ((chop (bl s)).take k) := by unfold cutL; rw [Int.toNat_natCast]
    have HCUT := Lib.hid hcut; clear hcut
    go_enter Tryd.func24, Tryd.ntmps24
    go_wp2
    go_loopg [1, 5] s.size (fun gf nn _ wr => ∃ (pos m : Nat), nn = .int .i64 m ∧ wr.heap[w.heap.size]? = some (.stringIter s pos) ∧ Below w.heap.size w wr ∧
      pos + (glue ((chop ((bl s).drop pos)).take m)).length = (glue ((chop (bl s)).take k)).length ∧ m ≤ k ∧ pos ≤ s.size ∧ s.size ≤ pos + gf)
    case atStart => exact ⟨0, k, rfl, World.iter_heap w s 0, (Below.refl _ w).alloc (Nat.le_refl _) _, by simp, Nat.le_refl _, Nat.zero_le _, by omega⟩
    case round =>
      obtain ⟨pos, m, rfl, hit, hbw, hc, hmk, hps, hfu⟩ := hrel
      have hgt := glue_take (bl s) k
      by_cases hp : pos < s.size
      · obtain ⟨g', rfl⟩ : ∃ g', gk = g' + 1 := ⟨gk - 1, by omega⟩
        have hnx : ∀ ty, (Instr.next (.pointer (some ⟨w.heap.size, 0, none⟩)) true ty).run Tryd.prog wr = _ := fun ty => Lib.run_next_any_at wr w.heap.size s pos ty hit hp
        have hwd := Lib.width_pos s pos
        have hwl := width_le s pos hp
        have hpl := piece_len s pos hp
        have hit2 := Lib.iterAt_heap wr w.heap.size s pos (pos + (Utf8.decode s pos).2) hit
        have hbw2 := Lib.below_iterAt hbw (k := w.heap.size) (Nat.le_refl _) s (pos + (Utf8.decode s pos).2)
        by_cases hm : m = 0
        · subst hm
          have hfin : (⟨(glue ((chop (bl s)).take k)).toArray⟩ : ByteArray) = s.extract 0 pos := by
            apply bl_inj
            rw [bl_mk, bl_to, hgt]
            congr 1
            simp [glue] at hc
            simp [glue]; omega
          have HF := Lib.hid hfin; clear hfin
          clear hc hgt hpl
          go_wp2
          go_ret
          exact ⟨ret_s (by rw [HCUT.out, HF.out]), hbw2⟩
        · obtain ⟨m', rfl⟩ : ∃ m', m = m' + 1 := ⟨m - 1, by omega⟩
          have hc2 : pos + (Utf8.decode s pos).2 + (glue ((chop ((bl s).drop (pos + (Utf8.decode s pos).2))).take m')).length = (glue ((chop (bl s)).take k)).length := by
            rw [← hc, chop_at s pos hp, List.take_succ_cons]
            simp only [glue, List.map_cons, List.flatten_cons, List.length_append, hpl]
            omega
          have HC := Lib.hid hc2; clear hc2 hc hgt hpl
          generalize Utf8.decode s pos = d at *
          go_wp2
          go_roundg g'
          case measure => omega
          case rel => exact ⟨pos + d.2, m', by go_num, hit2, hbw2, HC.out, by omega, by omega, by omega⟩
      · have hnx : ∀ ty, (Instr.next (.pointer (some ⟨w.heap.size, 0, none⟩)) true ty).run Tryd.prog wr = _ := fun ty => Lib.run_next_end_at wr w.heap.size s pos ty hit hp
        have hfin : (⟨(glue ((chop (bl s)).take k)).toArray⟩ : ByteArray) = s := by
          apply bl_inj
          rw [bl_mk, hgt, List.take_of_length_le]
          rw [bl_length, ← hc]; omega
        have HF := Lib.hid hfin; clear hfin hc hgt
        go_wp2
        go_ret
        exact ⟨ret_s (by rw [HCUT.out, HF.out]), hbw⟩

theorem runesFrom_eq (s : ByteArray) : ∀ (f i : Nat) (acc : Array Value), s.size ≤ i + f → Conv.runesFrom s f i acc = acc ++ ((runes ((bl s).drop i)).map fun (r : Nat) => Value.int .i32 (r : Int)).toArray
  | 0, i, acc, h => by
    have : runes ((bl s).drop i) = [] := by rw [List.drop_of_length_le (by rw [bl_length]; omega)]; rfl
    rw [this]; simp [Conv.runesFrom]
  | f + 1, i, acc, h => by
    unfold Conv.runesFrom
    by_cases hp : i < s.size
    · have ih := runesFrom_eq s f (i + (Utf8.decode s i).2) (acc.push (.int .i32 (Int.ofNat (Utf8.decode s i).1))) (by have := Lib.width_pos s i; omega)
      rw [if_pos hp]
      show Conv.runesFrom s f (i + (Utf8.decode s i).2) (acc.push (.int .i32 (Int.ofNat (Utf8.decode s i).1))) = _
      rw [ih]
      unfold runes
      rw [chop_at s i hp]
      simp
    · have : runes ((bl s).drop i) = [] := by rw [List.drop_of_length_le (by rw [bl_length]; omega)]; rfl
      rw [if_neg hp, this]; simp
theorem runes_of (s : ByteArray) : Conv.runesFrom s s.size 0 #[] = ((runes (bl s)).map fun (r : Nat) => Value.int .i32 (r : Int)).toArray := by
  rw [runesFrom_eq s s.size 0 #[] (by omega)]; simp

theorem strCells_eq (s : ByteArray) : strCells s = byteCells (bl s) := by
  unfold strCells byteCells; rfl
theorem encode_bytes (r : Int) : bl (Utf8.encode r) = enc r := rfl

set_option maxHeartbeats 2000000 in
theorem Back_any (s : ByteArray) (w : World) (hs : s.size ≤ 17592186044416) :
    Calls Tryd.prog 26 #[.string s] w fun e w' => e = .returned (.string ⟨(backL (bl s)).toArray⟩) ∧ Below w.heap.size w w' := by
  have hle := chop_length_le (bl s)
  rw [bl_length, ← runes_length] at hle
  have hrl : ∀ r ∈ runes (bl s), r ≤ 1114111 := fun r hr => by
    have := runes_scalar (bl s) r hr
    unfold scalar at this; rw [valid_iff] at this; omega
  have hsz : (Conv.runesFrom s s.size 0 #[]).size = (runes (bl s)).length := by rw [runes_of]; simp
  have hconv := run_runes_of_string (P := Tryd.prog) w 9 30 21 s Tryd.underlying9 Tryd.underlying30 Tryd.underlying21 (by rw [hsz]; omega)
  rw [hsz, runes_of] at hconv
  generalize hcap : grownCap w (runes (bl s)).length 0 21 = cap at hconv
  have hcell : ∀ (j : Nat) (r : Nat), (runes (bl s))[j]? = some r → (w.drew.alloc (.cells (((runes (bl s)).map fun (r : Nat) => Value.int .i32 (r : Int)).toArray ++ Array.replicate (cap - (runes (bl s)).length) (.int .i32 0)) 21)).cell? ⟨w.heap.size, j, none⟩ = some (.int .i32 (r : Int)) := by
    intro j r hj
    have hjl := (List.getElem?_eq_some_iff.1 hj).1
    rw [show w.heap.size = w.drew.heap.size from rfl, World.cell?_alloc_new]
    rw [Array.getElem?_append_left (by simpa using hjl)]
    simp [hj]
  generalize hO : (Obj.cells (((runes (bl s)).map fun (r : Nat) => Value.int .i32 (r : Int)).toArray ++ Array.replicate (cap - (runes (bl s)).length) (.int .i32 0)) 21) = o at hconv hcell
  clear hO hsz hcap
  have HB : Hid (backL (bl s) = encs (runes (bl s)).reverse) := Lib.hid rfl
  generalize runes (bl s) = rs at *
  have hB0 : Below w.heap.size w (w.drew.alloc o) := (Below.refl _ w).drew.alloc (Nat.le_refl _) _
  have hW0s : (w.drew.alloc o).heap.size = w.heap.size + 1 := by simp
  go_enter Tryd.func26, Tryd.ntmps26
  go_wp2
  go_loopw [5] (fun v wr => ∃ (k : Nat), v = .int .i64 ((k : Int) - 1) ∧ k ≤ rs.length ∧ IsBuilderF 66 5 (w.heap.size + 1) (w.heap.size + 1) (byteCells (encs (rs.drop k).reverse)) wr ∧ Below (w.heap.size + 1) (w.drew.alloc o) wr)
    (fun v _ => (intOf v + 1).toNat)
  case atStart =>
    refine ⟨rs.length, rfl, Nat.le_refl _, ?_, ?_⟩
    · rw [List.drop_length]
      have := IsBuilderF.of (fresh_isBuilder 66 5 (w.drew.alloc o))
      rw [hW0s] at this
      exact this
    · have := (Below.refl (w.heap.size + 1) (w.drew.alloc o)).alloc (by rw [hW0s]; exact Nat.le_refl _) (.cells #[.pointer none, .slice none 0 0] 66)
      exact this
  case round =>
    obtain ⟨k, rfl, hk, hI, hbw⟩ := hrel
    have hsz : w.heap.size + 1 ≤ wr.heap.size := by have := hbw.size; rw [hW0s] at this; exact this
    have hel := encs_length (rs.drop k).reverse
    rw [List.length_reverse, List.length_drop] at hel
    by_cases hk0 : k = 0
    · subst hk0
      rw [List.drop_zero] at hI
      go_wp2_with (go_at_call 48; refine (Tryd.Builder_String_any_k (w.heap.size + 1) (w.heap.size + 1) _ _ hI hsz).mono ?_; rintro e W1 ⟨rfl, _, b1, _⟩)
      go_ret
      exact ⟨ret_s (by rw [HB.out]), hB0.trans ((hbw.trans b1).mono (by omega))⟩
    · obtain ⟨k', rfl⟩ : ∃ k', k = k' + 1 := ⟨k - 1, by omega⟩
      obtain ⟨r, hr⟩ : ∃ r, rs[k']? = some r := ⟨rs[k'], List.getElem?_eq_getElem (by omega)⟩
      have hr1 := hrl r (List.mem_of_getElem? hr)
      have hc := hcell k' r hr
      have hc' : wr.cell? ⟨w.heap.size, k', none⟩ = some (.int .i32 (r : Int)) := (hbw.cell (p := ⟨w.heap.size, k', none⟩) (by simp)).trans hc
      have hstep : (rs.drop k').reverse = (rs.drop (k' + 1)).reverse ++ [r] := by
        rw [List.drop_eq_getElem_cons (by omega), List.reverse_cons, (List.getElem?_eq_some_iff.1 hr).2]
      have hE : byteCells (encs (rs.drop k').reverse) = byteCells (encs (rs.drop (k' + 1)).reverse) ++ strCells (Utf8.encode (r : Int)) := by
        rw [hstep, encs_append, byteCells_append, strCells_eq, encode_bytes]; simp [encs]
      have hes : (Utf8.encode (r : Int)).size ≤ 4 := by rw [← bl_length, encode_bytes]; exact (enc_length _).2
      have HE := Lib.hid hE; clear hE hstep hc hr
      have e1 : ((k' + 1 : Nat) : Int) - 1 = (k' : Int) := by omega
      rw [e1]
      have hnn : (0 : Int) ≤ (k' : Int) := by omega
      have hlt : (k' : Int) < (rs.length : Int) := by omega
      clear e1
      go_wp2_with (first | (go_at_call 16; refine (Encode_any (r : Int) _ (by omega) (by omega)).mono ?_; rintro e W1 ⟨rfl, rfl⟩) | (go_at_call 47; refine (b_string (w.heap.size + 1) (w.heap.size + 1) _ _ _ hI (by rw [byteCells_length]; omega) hsz).mono ?_; rintro e W2 ⟨rfl, h2, b2, k2⟩))
      go_roundw
      case rel => exact ⟨k', by go_num, by omega, by rw [HE.out]; exact Or.inr h2, hbw.trans b2⟩
      case measure => simp [intOf]
end Go.Proofs.YtlkabghpcjlohaaDoor
