/- Package sketch: Parse and Print in the forms in which the statements meet them; awake of layer 8. -/
import Derived.Test.YtlkabghpcjlohaaDoorT10
namespace Go.Proofs.YtlkabghpcjlohaaDoor
set_option linter.unusedVariables false
set_option linter.unusedSimpArgs false
open Go.RowKit Go.Lib

/-- a grid's value, written out -/
abbrev gdV (g : Gd) (Ab Ar Ad : Option Addr) (cb cr cd : Nat) : Value := .agg #[.int .i64 g.H, .int .i64 g.W, .slice Ab g.B.length cb, .slice Ar g.R.length cr, .slice Ad g.D.length cd]
theorem GdAt.form {w : World} {B : Nat} {v : Value} {g : Gd} (h : GdAt w B v g) : ∃ Ab Ar Ad cb cr cd, v = gdV g Ab Ar Ad cb cr cd := by
  obtain ⟨b, r, d, rfl, ⟨Ab, cb, rfl, _⟩, ⟨Ar, cr, rfl, _⟩, ⟨Ad, cd, rfl, _⟩⟩ := h.eq
  exact ⟨Ab, Ar, Ad, cb, cr, cd, by simp only [gdV, List.length_map]⟩
theorem GdAt.more {w : World} {B B' : Nat} {v : Value} {g : Gd} (h : GdAt w B v g) (hB : B ≤ B') : GdAt w B' v g := by
  obtain ⟨b, r, d, e, s1, s2, s3⟩ := h.eq
  exact ⟨h.h0, h.w0, b, r, d, e, s1.more hB, s2.more hB, s3.more hB⟩
theorem Parse_bad {s : ByteArray} {a : Nat} {er : Int} (hp : parseL (bl s) = .bad a er) (w : World) (hT : Tabs w) (hs : s.size ≤ 17592186044416) :
    Calls Tryd.prog 30 #[.string s] w fun e w' => e = .returned (.tuple #[.agg #[.int .i64 0, .int .i64 0, .slice none 0 0, .slice none 0 0, .slice none 0 0], .int .i64 (a : Nat), .int .i64 er]) ∧ Below w.heap.size w w' :=
  (Parse_any s w hT hs).mono fun e w' h => by
    unfold ParsePost at h
    rw [hp] at h
    exact ⟨h.2, h.1⟩
theorem Parse_good {s : ByteArray} {g : Gd} (hp : parseL (bl s) = .good g) (w : World) (hT : Tabs w) (hs : s.size ≤ 17592186044416) :
    Calls Tryd.prog 30 #[.string s] w fun e w' => ∃ Ab Ar Ad cb cr cd, e = .returned (.tuple #[gdV g Ab Ar Ad cb cr cd, .int .i64 0, .int .i64 0]) ∧ GdAt w' w'.heap.size (gdV g Ab Ar Ad cb cr cd) g ∧ Below w.heap.size w w' :=
  (Parse_any s w hT hs).mono fun e w' h => by
    unfold ParsePost at h
    rw [hp] at h
    obtain ⟨hb, v, he, hg⟩ := h
    obtain ⟨Ab, Ar, Ad, cb, cr, cd, rfl⟩ := hg.form
    exact ⟨Ab, Ar, Ad, cb, cr, cd, he, hg, hb⟩

set_option maxHeartbeats 4000000 in
set_option maxRecDepth 100000 in
theorem Print_bad (v : Value) (g : Gd) (B : Nat) (w : World) (h : GdAt w B v g) (hB : B ≤ w.heap.size) (hl : g.B.length ≤ 17592186044416 ∧ g.R.length ≤ 17592186044416 ∧ g.D.length ≤ 17592186044416) (hc : checkG g ≠ 0) :
    Calls Tryd.prog 33 #[v] w fun e w' => e = .returned (.tuple #[.string ⟨#[]⟩, .int .i64 (checkG g)]) ∧ Below w.heap.size w w' := by
  obtain ⟨Ab, Ar, Ad, cb, cr, cd, rfl⟩ := h.form
  unfold gdV at h ⊢
  have hb1 := (Below.refl w.heap.size w).alloc (Nat.le_refl _) (.cells #[.int .i64 g.H, .int .i64 g.W, .slice Ab g.B.length cb, .slice Ar g.R.length cr, .slice Ad g.D.length cd] 45)
  have C := Lib.hid (Check_any _ g B _ (h.below (hb1.mono hB)) (by simp; omega) hl)
  obtain ⟨ck, hck⟩ : ∃ ck, checkG g = ck := ⟨_, rfl⟩
  rw [hck] at C hc ⊢
  have t1 : (ck != 0) = true := by simp [hc]
  have HB1 := Lib.hid hb1
  clear h hck hc hb1 hl
  generalize g.B.length = n1 at *
  generalize g.R.length = n2 at *
  generalize g.D.length = n3 at *
  go_enter Tryd.func33, Tryd.ntmps33
  go_wp2_with (go_at_call 55; refine C.out.mono ?_; rintro e w2 ⟨rfl, hb2⟩)
  go_ret2
  exact ⟨rfl, HB1.out.trans (hb2.mono HB1.out.size)⟩

def awG : Gd := ⟨2, 3, [false, false, true, false, false, false], [false, false, false, true, false, false], [false, false, false, false, false, false]⟩
theorem aw_parse : parseL [46, 46, 35, 10, 46, 124, 46, 46, 10] = .good awG := by
  have h : printL awG = [46, 46, 35, 10, 46, 124, 46, 46, 10] := by decide +kernel
  have hk : checkG awG = 0 := by decide +kernel
  rw [← h]
  exact parse_print awG (ok_of_check hk)
theorem aw_print : printL awG = [46, 46, 35, 10, 46, 124, 46, 46, 10] := by decide +kernel
theorem aw_ok : OkG awG := ok_of_check (by decide +kernel)
theorem ret_b8 {b c : Bool} (h : b = c) : Ending.returned (.bool b) = .returned (.bool c) := by rw [h]

set_option maxHeartbeats 8000000 in
set_option maxRecDepth 100000 in
theorem awake8_any (w : World) (hT : Tabs w) : Calls Tryd.prog 29 #[] w fun e w' => e = .returned (.bool true) ∧ Below w.heap.size w w' := by
  have CP := Lib.hid (Parse_good (s := ⟨#[46, 46, 35, 10, 46, 124, 46, 46, 10]⟩) aw_parse w hT (by decide))
  have CR : Hid (∀ (v : Value) (W : World), GdAt W W.heap.size v awG → Calls Tryd.prog 33 #[v] W fun e w' => e = .returned (.tuple #[.string ⟨#[46, 46, 35, 10, 46, 124, 46, 46, 10]⟩, .int .i64 0]) ∧ Below W.heap.size W w') := Lib.hid (fun v W h => by
    have := Print_good v awG W.heap.size W h (Nat.le_refl _) aw_ok
    rw [aw_print] at this
    exact this)
  clear hT
  go_enter Tryd.func29, Tryd.ntmps29
  go_wp2_with (first
    | (go_at_call 30; refine CP.out.mono ?_; rintro e w1 ⟨Ab, Ar, Ad, cb, cr, cd, rfl, hg, hb1⟩; obtain ⟨b, r, d, e9, s1, s2, s3⟩ := hg.eq; injection e9 with e9; injection e9 with e9; simp only [List.cons.injEq, and_true] at e9; obtain ⟨-, -, rfl, rfl, rfl⟩ := e9; have l1 := s1.cell (k := 0) (by decide); have l2 := s2.cell (k := 0) (by decide); obtain ⟨x1, x2, rfl, z1⟩ := s1.boolsAt (by decide); obtain ⟨y1, y2, rfl, z2⟩ := s2.boolsAt (by decide); have m1 : x1 < w1.heap.size := (by obtain ⟨ad, e, hlt, _⟩ := l1; injection e with e; rw [← e] at hlt; exact hlt); have m2 : y1 < w1.heap.size := (by obtain ⟨ad, e, hlt, _⟩ := l2; injection e with e; rw [← e] at hlt; exact hlt); have g1 : ∀ o, (w1.alloc o).cell? ⟨x1, x2 + 2, none⟩ = some (.bool true) := fun o => (((Below.refl w1.heap.size w1).alloc (Nat.le_refl _) o).cell (p := ⟨x1, x2 + 2, none⟩) m1).trans (z1 2 (by decide)); have g2 : ∀ o, (w1.alloc o).cell? ⟨y1, y2 + 3, none⟩ = some (.bool true) := fun o => (((Below.refl w1.heap.size w1).alloc (Nat.le_refl _) o).cell (p := ⟨y1, y2 + 3, none⟩) m2).trans (z2 3 (by decide)); have HG := Lib.hid hg; have HB1 := Lib.hid hb1; clear hg z1 z2 s1 s2 s3 l1 l2 m1 m2 hb1)
    | (go_at_call 33; refine (CR.out _ _ ((HG.out.below ((Below.refl w1.heap.size w1).alloc (Nat.le_refl _) _)).more (by simp))).mono ?_; rintro e w2 ⟨rfl, hb2⟩))
  go_ret
  exact ⟨rfl, HB1.out.trans ((((Below.refl w1.heap.size w1).alloc (Nat.le_refl _) _).trans (hb2.mono (by simp))).mono HB1.out.size)⟩
end Go.Proofs.YtlkabghpcjlohaaDoor
