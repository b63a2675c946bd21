/- Package alpha: Each, to its first way. -/
import Derived.Test.YtlkabghpcjlohaaX3
import Derived.Laws.EntriesVeiled
namespace Go.Proofs.Ytlkabghpcjlohaa
set_option linter.unusedVariables false
set_option linter.unusedSimpArgs false
open Go.RowKit Go.Lib Go.Shelf

set_option maxHeartbeats 8000000 in
set_option maxRecDepth 100000 in
theorem each1_any {B p : Nat} {xs : List (List UInt8)} {o : List Nat} {s : ByteArray} {lp bs ba m : Nat} {W1 : World} (hA : AlphAt B p xs o W1)
    (hL : Lets xs) (hO : Ord xs o) (hn : xs.length ≤ 1000) (hx : ∀ x ∈ xs, x.length ≤ 12) (hs : s.size ≤ 1073741824)
    (es : W1.heap[bs]? = some (.cells #[.string s] 9 (0, 0))) (ea : W1.heap[ba]? = some (.cells #[.pointer (some ⟨p, 0, none⟩)] 48 (0, 0))) (Jx : World → Prop) (l : List Nat) (hsp : splitL xs (bl s) = .good l)
    (hY : ∀ A c N W, Below W1.heap.size W1 W → W1.heap.size ≤ N → W.ownsRow N 3 1 (.slice A l.length c) l.length (ints l) → YieldAt Fence.wide m Try.prog lp #[.slice A l.length c] W fun e W' => e = .returned (.bool false) ∧ Jx W') :
    Calls Try.prog 95 #[.func (.yield lp) #[] #[], .pointer (some ⟨ba, 0, none⟩), .pointer (some ⟨bs, 0, none⟩)] W1 fun e W' => (∃ v, e = .returned v) ∧ Jx W' := by
  have hll := (split_join xs 32 (bl s) [] l hsp (by simp)).2.1
  rw [List.length_nil] at hll
  have hlbs := (Array.getElem?_eq_some_iff.1 es).1
  have hlba := (Array.getElem?_eq_some_iff.1 ea).1
  have hb1 := (Below.refl W1.heap.size W1).alloc (Nat.le_refl _) (.cells #[.func (.yield lp) #[] #[]] 74)
  have hs1 : s = ⟨(bl s).toArray⟩ := (bl_roundtrip s).symm
  have hA1 := hA.below (hb1.mono hA.hB)
  have cC := counts_any hA1 hL hO (bl s) hn hx (by rw [bl_length]; exact hs)
  rw [← hs1, bl_length, World.size_alloc] at cC
  have CC := Lib.hid cC; clear cC
  have c1 := Lib.cell_of_heap es 0
  have c2 := Lib.cell_of_heap ea 0
  have hyb := World.alloc_heap_new W1 (.cells #[.func (.yield lp) #[] #[]] 74)
  have HYB := Lib.hid hyb; have ES := Lib.hid es; have EA := Lib.hid ea; have HA := Lib.hid hA; have HB1 := Lib.hid hb1
  have HL := Lib.hid hL; have HO := Lib.hid hO; have HX := Lib.hid hx; have HY := Lib.hid hY; have HSP := Lib.hid hsp; have HS1 := Lib.hid hs1
  clear hyb es ea hA hb1 hL hO hx hY hsp hs1 hA1
  go_enter Try.func95, Try.ntmps95
  go_wp2_with (go_at_call 92; refine CC.out.mono ?_; rintro e w2 ⟨hb2, n, hn1, rfl, hrow⟩; have HROW := Lib.hid hrow; have HB2 := Lib.hid hb2; have HN := Lib.hid hn1; have z2 := hb2.size; have q5 : ∀ X, ((w2.alloc X).alloc (.cells #[.nilFunc] 110)).cell? ⟨w2.heap.size + 1, 0, none⟩ = some .nilFunc := (fun X => by have := World.alloc_heap_new (w2.alloc X) (.cells #[.nilFunc] 110); rw [World.size_alloc] at this; exact Lib.cell_of_heap this 0); have f5 : ∀ X, ((w2.alloc X).alloc (.cells #[.nilFunc] 110)).frozen? ⟨w2.heap.size + 1, 0, none⟩ = false := (fun X => by have := World.alloc_heap_new (w2.alloc X) (.cells #[.nilFunc] 110); rw [World.size_alloc] at this; exact Lib.frozen_of_heap this 0); clear hrow hb2 hn1)
  have hrow := HROW.out
  have hn1 := HN.out
  subst hn1
  obtain ⟨hb2, hb1⟩ := And.intro HB2.out HB1.out
  have hg := (hrow.lt _ rfl).2
  generalize hO1 : (Obj.cells #[.slice (some ⟨W1.heap.size + 1, 0, none⟩) (s.size + 1) (s.size + 1)] 35 (0, 0)) = O1
  generalize hO2 : (Obj.cells #[.func (.func 96) #[] (caps bs W1.heap.size ba w2.heap.size (w2.heap.size + 1))] 110 (0, 0)) = O2
  have hbc : Below w2.heap.size w2 ((w2.alloc O1).alloc O2) := ((Below.refl _ _).alloc (Nat.le_refl _) O1).alloc (by rw [World.size_alloc]; omega) O2
  have hbd : Below (w2.heap.size + 1) (w2.alloc O1) ((w2.alloc O1).alloc O2) := (Below.refl _ _).alloc (by rw [World.size_alloc]; exact Nat.le_refl _) O2
  have hz : ((w2.alloc O1).alloc O2).heap.size = w2.heap.size + 2 := by rw [World.size_alloc, World.size_alloc]
  have hz1 := World.size_alloc W1 (.cells #[.func (.yield lp) #[] #[]] 74)
  have hw0 : Below W1.heap.size W1 ((w2.alloc O1).alloc O2) := hb1.trans ((hb2.mono (by omega)).trans (hbc.mono (by omega)))
  have hy0 : ((w2.alloc O1).alloc O2).heap[W1.heap.size]? = _ := ((hbc.block _ (by omega)).trans (hb2.block _ (by omega))).trans HYB.out
  have hw1 : ((w2.alloc O1).alloc O2).heap[w2.heap.size]? = some O1 := (hbd.block _ (by omega)).trans (World.alloc_heap_new w2 O1)
  have hd1 : ((w2.alloc O1).alloc O2).heap[w2.heap.size + 1]? = some O2 := by
    have := World.alloc_heap_new (w2.alloc O1) O2
    rw [World.size_alloc] at this
    exact this
  have hcs : ∀ k, k ≤ s.size → ((w2.alloc O1).alloc O2).cell? ⟨W1.heap.size + 1, k, none⟩ = some (.int .i64 (cntL xs ((bl s).drop k) : Nat)) := by
    intro k hk
    refine (hbc.cell (p := ⟨W1.heap.size + 1, k, none⟩) hg).trans ((hrow.cellAt k (by omega)).trans ?_)
    unfold ints
    rw [List.getElem?_map]
    by_cases h0 : k = 0
    · subst h0; rw [rowFrom_at0]; rfl
    · rw [rowFrom_at xs (bl s) _ (by omega) (by rw [bl_length]; exact hk)]; rfl
  have hEE : EnvE B p xs o s lp bs W1.heap.size ba w2.heap.size (w2.heap.size + 1) (w2.heap.size + 2) (W1.heap.size + 1) ((w2.alloc O1).alloc O2) :=
    ⟨(hw0.block _ hlbs).trans ES.out, hy0, (hw0.block _ hlba).trans EA.out, hw1.trans (by rw [hO1]), hd1.trans (by rw [← hO2]), HA.out.below (hw0.mono HA.out.hB), by have := HA.out.hB; omega, hcs, by omega⟩
  refine (down_any hz.symm Jx l hEE HL.out HO.out hn HX.out hs (by omega) (fun A c N W h1 h2 h3 => HY.out A c N W (hw0.trans (h1.mono (by omega))) (by omega) h3) 32 0 [] (.slice none 0 0) _ (Nat.zero_le _) (by rw [List.drop_zero]; exact HSP.out) (by rw [← hz]; exact Below.refl _ _) (World.ownsRow_nil _ _ _ _)).mono ?_
  rintro e w9 ⟨rfl, hj⟩
  go_wp2
  go_end0
  exact ⟨⟨_, rfl⟩, hj⟩
end Go.Proofs.Ytlkabghpcjlohaa
