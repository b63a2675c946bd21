/- SketchCanon: for every text of at most 1048576 bytes the call returns true. -/
import Derived.Test.YtlkabghpcjlohaaDoorT11
namespace Go.Proofs.YtlkabghpcjlohaaDoor
set_option linter.unusedVariables false
set_option linter.unusedSimpArgs false
open Go.RowKit Go.Lib

theorem step_ne {s : Rd} {p r a e : Nat} (h : stepS s p r = .bad a e) : e ≠ 0 := by
  unfold stepS at h
  cases hs : sg r <;> rw [hs] at h <;> simp only at h
  · split at h
    · injection h with h1 h2; omega
    · cases h
  · split at h
    · injection h with h1 h2; omega
    · cases h
  · split at h
    · injection h with h1 h2; omega
    · cases h
  · split at h
    · injection h with h1 h2; omega
    · cases h
  · cases h
  · injection h with h1 h2; omega
theorem run_ne : ∀ (cs : List (Nat × List UInt8)) (p : Nat) (s : Rd) (a e : Nat), runS cs p s = .bad a e → e ≠ 0
  | [], p, s, a, e, h => by simp [runS] at h
  | c :: cs, p, s, a, e, h => by
    rw [runS] at h
    cases hs : stepS s p c.1 with
    | bad a' e' => rw [hs] at h; simp only [Rs.then, Rs.bad.injEq] at h; exact h.2 ▸ step_ne hs
    | good t => rw [hs] at h; exact run_ne cs _ _ a e h
theorem parse_ne {l : List UInt8} {a : Nat} {e : Int} (h : parseL l = .bad a e) : e ≠ 0 := by
  unfold parseL at h
  split at h
  · injection h with h1 h2; omega
  · split at h
    · rename_i he
      injection h with h1 h2
      have := run_ne _ _ _ _ _ he
      omega
    · unfold endS at h
      split at h
      · injection h with h1 h2; omega
      · split at h
        · injection h with h1 h2; omega
        · split at h
          · rename_i h3; injection h with h1 h2; omega
          · cases h
theorem Same_refl (v u : Value) (g : Gd) (w : World) (hg : GdAt w w.heap.size v g) (hh : GdAt w w.heap.size u g) (ho : OkG g) :
    Calls Tryd.prog 32 #[v, u] w fun e w' => e = .returned (.bool true) ∧ Below w.heap.size w w' := by
  have ha := (area_le ho).1
  have hb := ho.b; have hr := ho.r; have hd := ho.d
  have hl : g.B.length ≤ 17592186044416 ∧ g.R.length ≤ 17592186044416 ∧ g.D.length ≤ 17592186044416 := ⟨by omega, by omega, by omega⟩
  have := Same_any v u g g w.heap.size w hg hh (Nat.le_refl _) hl hl
  rw [decide_eq_true rfl] at this
  exact this

set_option maxHeartbeats 16000000 in
set_option maxRecDepth 100000 in
theorem sketchCanon_any (s : ByteArray) (w : World) (hs : s.size ≤ 1048576) (hT : Tabs w) :
    Calls Tryd.prog 11 #[.string s] w fun e w' => e = .returned (.bool true) ∧ Below w.heap.size w w' := by
  have CA := Lib.hid (awake8_any w hT)
  have HT := Lib.hid hT; clear hT
  cases hp : parseL (bl s) with
  | bad a er =>
    have hne := parse_ne hp
    have hpl := parse_place hp
    rw [bl_length] at hpl
    have CP : Hid (∀ W, Below w.heap.size w W → _) := Lib.hid (fun W hW => Parse_bad hp W (HT.out.below hW) (by omega))
    have t1 : (er != 0) = true := by simp [hne]
    have q1 : (0 : Int) ≤ (a : Int) := by omega
    have q2 : (a : Int) ≤ (s.size : Int) := by omega
    clear hp hne hpl
    go_enter Tryd.func11, Tryd.ntmps11
    go_wp2_with (first
      | (go_at_call 29; refine CA.out.mono ?_; rintro e w1 ⟨rfl, hb1⟩)
      | (go_at_call 30; refine (CP.out _ hb1).mono ?_; rintro e w2 ⟨rfl, hb2⟩))
    go_ret
    exact ⟨rfl, (hb1.trans (hb2.mono hb1.size)).alloc (Nat.le_trans hb1.size hb2.size) _⟩
  | good g =>
    have hok := parse_ok hp
    have hpp := parse_print g hok
    have hpz := printL_le g hok
    obtain ⟨t, ht⟩ : ∃ t : ByteArray, t = ⟨(printL g).toArray⟩ := ⟨_, rfl⟩
    have htb : bl t = printL g := by rw [ht]
    have htz : t.size ≤ 4096 := by rw [← bl_length, htb]; exact hpz
    rw [← htb] at hpp
    have CP1 : Hid (∀ W, Below w.heap.size w W → _) := Lib.hid (fun W hW => Parse_good hp W (HT.out.below hW) (by omega))
    have CP2 : Hid (∀ W, Below w.heap.size w W → _) := Lib.hid (fun W hW => Parse_good hpp W (HT.out.below hW) (by omega))
    have CR : Hid (∀ (v : Value) (W : World), GdAt W W.heap.size v g → Calls Tryd.prog 33 #[v] W fun e w' => e = .returned (.tuple #[.string t, .int .i64 0]) ∧ Below W.heap.size W w') := Lib.hid (fun v W h => by
      have := Print_good v g W.heap.size W h (Nat.le_refl _) hok
      rw [← ht] at this
      exact this)
    have CS := Lib.hid (fun v u W h1 h2 => Same_refl v u g W h1 h2 hok)
    clear hp hok hpp hpz ht htb
    go_enter Tryd.func11, Tryd.ntmps11
    go_wp2_with (first
      | (go_at_call 29; refine CA.out.mono ?_; rintro e w1 ⟨rfl, hb1⟩)
      | (go_at_call 30; (with_reducible refine (CP1.out _ hb1).mono ?_); rintro e w2 ⟨Ab, Ar, Ad, cb, cr, cd, rfl, hg2, hb2⟩; have HG2 := Lib.hid hg2; have HB2 := Lib.hid (hb1.trans (hb2.mono hb1.size)); clear hg2 hb2)
      | (go_at_call 33; (with_reducible refine (CR.out _ _ ((HG4.out.below ((Below.refl w4.heap.size w4).alloc (Nat.le_refl _) _)).more (by simp))).mono ?_); rintro e w5 ⟨rfl, hb5⟩; have HB5 := Lib.hid (((Below.refl w4.heap.size w4).alloc (Nat.le_refl _) _).trans (hb5.mono (by simp))); have hk5 := Lib.hid ((hb5.block w4.heap.size (by simp)).trans (World.alloc_heap_new w4 _)); have hk6 := Lib.hid ((hb5.block w2.heap.size (by simp only [World.size_alloc]; omega)).trans ((Below.heap_alloc w4 _ w2.heap.size (by omega)).trans ((HB4.out.block w2.heap.size (by omega)).trans hk3.out))); have z45 : w4.heap.size + 1 ≤ w5.heap.size := (by have := hb5.size; simpa using this); clear hb5; have p0 := Lib.cell_of_heap hk6.out 0; have p1 := Lib.cell_of_heap hk6.out 1; have p2 := Lib.cell_of_heap hk6.out 2; have p3 := Lib.cell_of_heap hk6.out 3; have p4 := Lib.cell_of_heap hk6.out 4; have r0 := Lib.cell_of_heap hk5.out 0; have r1 := Lib.cell_of_heap hk5.out 1; have r2 := Lib.cell_of_heap hk5.out 2; have r3 := Lib.cell_of_heap hk5.out 3; have r4 := Lib.cell_of_heap hk5.out 4)
      | (go_at_call 33; refine (CR.out _ _ ((HG2.out.below ((Below.refl w2.heap.size w2).alloc (Nat.le_refl _) _)).more (by simp))).mono ?_; rintro e w3 ⟨rfl, hb3⟩; have HB3 := Lib.hid (((Below.refl w2.heap.size w2).alloc (Nat.le_refl _) _).trans (hb3.mono (by simp))); have hk3 := Lib.hid ((hb3.block w2.heap.size (by simp)).trans (World.alloc_heap_new w2 _)); have z23 : w2.heap.size + 1 ≤ w3.heap.size := (by have := hb3.size; simpa using this); clear hb3)
      | (go_at_call 30; (with_reducible refine (CP2.out _ (HB2.out.trans (HB3.out.mono HB2.out.size))).mono ?_); rintro e w4 ⟨A2, R2, D2, cb2, cr2, cd2, rfl, hg4, hb4⟩; have HG4 := Lib.hid hg4; have HB4 := Lib.hid hb4; have z34 := hb4.size; clear hg4 hb4)
      | (go_at_call 32; refine (CS.out _ _ _ ((HG2.out.below ((HB3.out.trans (HB4.out.mono (by omega))).trans (HB5.out.mono (by omega)))).more (by omega)) ((HG4.out.below HB5.out).more (by omega))).mono ?_; rintro e w6 ⟨rfl, hb6⟩))
    go_ret
    exact ⟨rfl, HB2.out.trans ((((HB3.out.trans (HB4.out.mono (by omega))).trans (HB5.out.mono (by omega))).trans (hb6.mono (by omega))).mono HB2.out.size)⟩
end Go.Proofs.YtlkabghpcjlohaaDoor
