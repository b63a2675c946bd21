/- SketchWrites: for every grid whose three lists together hold at most 1048576 values the call returns true. -/
import Derived.Test.YtlkabghpcjlohaaDoorT13
import Derived.WalkMore
namespace Go.Proofs.YtlkabghpcjlohaaDoor
set_option linter.unusedVariables false
set_option linter.unusedSimpArgs false
open Go.RowKit Go.Lib

abbrev wFr (v0 : Value) (B0 : Nat) (L : Nat → Bool) (V : Nat → Value) : Act := { tmps := #[v0, .pointer (some ⟨B0, 0, none⟩), .bool false, cond (L 17) (V 17) undef, undef, undef, undef, undef, undef, undef, undef, .bool true, .bool false, cond (L 0) (V 0) undef, cond (L 1) (V 1) undef, cond (L 2) (V 2) undef, cond (L 3) (V 3) undef, cond (L 4) (V 4) undef, cond (L 5) (V 5) undef, cond (L 6) (V 6) undef, cond (L 7) (V 7) undef, cond (L 8) (V 8) undef, cond (L 9) (V 9) undef, cond (L 10) (V 10) undef, cond (L 11) (V 11) undef, cond (L 12) (V 12) undef, cond (L 13) (V 13) undef, cond (L 14) (V 14) undef, cond (L 15) (V 15) undef, cond (L 16) (V 16) undef, undef, undef, undef, undef, undef, undef, undef, undef, undef, undef, undef, undef, undef, undef, undef, undef, undef, undef, undef, undef, undef, undef, undef, undef, undef, undef, undef, undef, undef, undef, undef, undef, undef, undef, undef, undef, undef, undef, undef, undef, undef, undef, undef], defers := [] }
def ApS (w : World) (v : Value) (l : List Bool) : Prop := ∃ A c, v = .slice A l.length c ∧ Sl w w.heap.size (.slice A l.length c) (bools l)
theorem ApS.grow {w w' : World} {v : Value} {l : List Bool} (h : ApS w v l) (hb : Below w.heap.size w w') : ApS w' v l := by
  obtain ⟨A, c, e, s⟩ := h
  exact ⟨A, c, e, (s.below hb).more hb.size⟩
theorem Sl.store5 {W : World} {q B : Nat} {T : TypeId} {A : Option Addr} {c : Nat} {l : List Bool} {x0 x1 x2 x3 x4 : Value} (h : Sl W B (.slice A l.length c) (bools l)) (hq : W.heap[q]? = some (.cells #[.int .i64 0, .int .i64 0, .slice none 0 0, .slice none 0 0, .slice none 0 0] T (0, 0))) :
    Sl (((((W.setCell ⟨q, 0, none⟩ x0).setCell ⟨q, 1, none⟩ x1).setCell ⟨q, 2, none⟩ x2).setCell ⟨q, 3, none⟩ x3).setCell ⟨q, 4, none⟩ x4) B (.slice A l.length c) (bools l) := by
  by_cases hl : l.length = 0
  · exact ⟨A, c, by rw [List.length_map], by have := h.len; rw [List.length_map]; omega, fun hn => by rw [List.length_map] at hn; omega⟩
  obtain ⟨b, off, rfl, hz⟩ := h.boolsAt (by omega)
  obtain ⟨A', c', e, hc, hA⟩ := h
  injection e with e1 e2 e3
  obtain ⟨ad, e, hB, hcell⟩ := hA (by rw [List.length_map]; omega)
  rw [← e1] at e
  injection e with e
  subst e
  have hne : b ≠ q := by
    rintro rfl
    have h0 := hz 0 (by omega)
    rw [Lib.cell_of_heap hq] at h0
    match off, h0 with
    | 0, h0 => simp at h0
    | 1, h0 => simp at h0
    | 2, h0 => simp at h0
    | 3, h0 => simp at h0
    | 4, h0 => simp at h0
    | n + 5, h0 => simp at h0
  refine ⟨_, c', by rw [e2, e3], hc, fun _ => ⟨_, rfl, hB, fun j u hu => ?_⟩⟩
  have hu2 := hcell j u hu
  have hk : ∀ (W : World) (o : Nat) (x : Value), (W.setCell ⟨q, o, none⟩ x).cell? ((⟨b, off, none⟩ : Addr).add j) = W.cell? ((⟨b, off, none⟩ : Addr).add j) := fun W o x => by
    refine World.cell?_of_block (Below.heap_setCell W _ x _ ?_)
    rw [block_add]
    exact hne
  rw [hk, hk, hk, hk, hk]
  exact hu2
def Emp (v : Value) : Prop := ∃ q, v = .slice (some ⟨q, 0, none⟩) 0 0
def BoxS (n0 : Nat) (g : Gd) (L : Nat → Bool) (V : Nat → Value) (w : World) : Prop := ∃ q, V 17 = .pointer (some ⟨q, 0, none⟩) ∧ n0 ≤ q ∧ (L 18 = false → w.heap[q]? = some (.cells #[.int .i64 0, .int .i64 0, .slice none 0 0, .slice none 0 0, .slice none 0 0] 45 (0, 0))) ∧
  (L 18 = true → w.heap[q]? = some (.cells #[.int .i64 g.H, .int .i64 g.W, V 7, V 11, V 15] 45 (0, 0)))
theorem BoxS.grow {n0 : Nat} {g : Gd} {L : Nat → Bool} {V : Nat → Value} {w w' : World} (h : BoxS n0 g L V w) (hb : Below w.heap.size w w') : BoxS n0 g L V w' := by
  obtain ⟨q, e, hn, h1, h2⟩ := h
  exact ⟨q, e, hn, fun k => (hb.block q (Array.getElem?_eq_some_iff.1 (h1 k)).1).trans (h1 k), fun k => (hb.block q (Array.getElem?_eq_some_iff.1 (h2 k)).1).trans (h2 k)⟩
theorem BoxS.first {n0 : Nat} {g : Gd} {L L' : Nat → Bool} {V V' : Nat → Value} {w w' : World} (h : BoxS n0 g L V w) (hb : Below w.heap.size w w') (hL : L' 18 = L 18) (hV : V' 17 = V 17) (hf : L 18 = false) : BoxS n0 g L' V' w' := by
  obtain ⟨q, e, hn, h1, h2⟩ := h
  exact ⟨q, hV.trans e, hn, fun k => (hb.block q (Array.getElem?_eq_some_iff.1 (h1 hf)).1).trans (h1 hf), fun k => by rw [hL, hf] at k; cases k⟩
theorem listed_of_done {md : Region.Mode} {ops : Array Oper} {l : Array Bool} (hr : Region.ready md ops l = []) (k : Nat) (o : Oper) (ho : ops[k]? = some o) (hd : ∀ e ∈ o.after, Region.binds md e = true → l.getD e.on false = true) : l.getD k true = true := by
  cases h : l.getD k true with
  | true => rfl
  | false =>
    have h9 : k ∈ Region.ready md ops l := mem_ready.2 ⟨h, o, ho, hd⟩
    rw [hr] at h9
    cases h9
structure FV (B0 n0 : Nat) (w1 : World) (g : Gd) (vb vr vd : Value) (L : Nat → Bool) (V : Nat → Value) (w : World) : Prop where
  below : Below n0 w1 w
  f0 : L 0 = true → V 0 = .pointer (some ⟨B0, 0, none⟩)
  f1 : L 1 = true → V 1 = .int .i64 g.H
  f2 : L 2 = true → V 2 = .pointer (some ⟨B0, 1, none⟩)
  f3 : L 3 = true → V 3 = .int .i64 g.W
  f4 : L 4 = true → Emp (V 4)
  f5 : L 5 = true → V 5 = .pointer (some ⟨B0, 2, none⟩)
  f6 : L 6 = true → V 6 = vb
  f7 : L 7 = true → ApS w (V 7) g.B
  f8 : L 8 = true → Emp (V 8)
  f9 : L 9 = true → V 9 = .pointer (some ⟨B0, 3, none⟩)
  f10 : L 10 = true → V 10 = vr
  f11 : L 11 = true → ApS w (V 11) g.R
  f12 : L 12 = true → Emp (V 12)
  f13 : L 13 = true → V 13 = .pointer (some ⟨B0, 4, none⟩)
  f14 : L 14 = true → V 14 = vd
  f15 : L 15 = true → ApS w (V 15) g.D
  f16 : L 16 = true → (L 7 = true ∧ L 11 = true ∧ L 15 = true) ∧ V 16 = .agg #[.int .i64 g.H, .int .i64 g.W, V 7, V 11, V 15]
  f17 : L 17 = true → BoxS n0 g L V w
  f18 : L 18 = true → L 17 = true ∧ L 7 = true ∧ L 11 = true ∧ L 15 = true
def WInv (v0 : Value) (B0 n0 : Nat) (w1 : World) (g : Gd) (vb vr vd : Value) (l : Array Bool) (a : Act) (w : World) : Prop :=
  ∃ (L : Nat → Bool) (V : Nat → Value), l = #[L 0, L 1, L 2, L 3, L 4, L 5, L 6, L 7, L 8, L 9, L 10, L 11, L 12, L 13, L 14, L 15, L 16, L 17, L 18] ∧ a = wFr v0 B0 L V ∧ FV B0 n0 w1 g vb vr vd L V w
def upd {α : Type} (f : Nat → α) (i : Nat) (v : α) : Nat → α := fun k => if k = i then v else f k
/-- what the region leaves -/
def RegP (v0 : Value) (B0 n0 : Nat) (w1 : World) (g : Gd) (a : Act) (w : World) : Prop :=
  ∃ (V : Nat → Value) (q : Nat) (Ab Ar Ad : Option Addr) (cb cr cd : Nat), a = wFr v0 B0 (fun _ => true) V ∧ V 17 = .pointer (some ⟨q, 0, none⟩) ∧ n0 ≤ q ∧ Below n0 w1 w ∧ w.heap[q]? = some (.cells #[.int .i64 g.H, .int .i64 g.W, .slice Ab g.B.length cb, .slice Ar g.R.length cr, .slice Ad g.D.length cd] 45 (0, 0)) ∧ GdAt w w.heap.size (gdV g Ab Ar Ad cb cr cd) g

set_option maxHeartbeats 16000000 in
set_option maxRecDepth 100000 in
theorem sketchWrites_any (v : Value) (g : Gd) (w : World) (hg : GdAt w w.heap.size v g) (hz : g.B.length + g.R.length + g.D.length ≤ 1048576) (hT : Tabs w) :
    Calls Tryd.prog 10 #[v] w fun e w' => e = .returned (.bool true) ∧ Below w.heap.size w w' := by
  obtain ⟨Ab, Ar, Ad, cb, cr, cd, rfl⟩ := hg.form
  have hbox := (Below.refl w.heap.size w).alloc (Nat.le_refl _) (.cells #[.int .i64 g.H, .int .i64 g.W, .slice Ab g.B.length cb, .slice Ar g.R.length cr, .slice Ad g.D.length cd] 45)
  have hblk := World.alloc_heap_new w (.cells #[.int .i64 g.H, .int .i64 g.W, .slice Ab g.B.length cb, .slice Ar g.R.length cr, .slice Ad g.D.length cd] 45)
  have CA := Lib.hid (awake8_any _ (hT.below hbox))
  have HT := Lib.hid hT; have HG := Lib.hid hg; have HBX := Lib.hid hbox; have HBK := Lib.hid hblk
  clear hT hg hbox hblk
  go_enter Tryd.func10, Tryd.ntmps10
  go_wp2_with (go_at_call 29; refine CA.out.mono ?_; rintro e w1 ⟨rfl, hb1⟩)
  have hk1 := (hb1.block w.heap.size (by simp)).trans HBK.out
  have z1 : w.heap.size + 1 ≤ w1.heap.size := by have := hb1.size; simpa using this
  have hB1 : Below w.heap.size w w1 := HBX.out.trans (hb1.mono HBX.out.size)
  obtain ⟨b9, r9, d9, e9, s1, s2, s3⟩ := HG.out.eq
  have S1 := Lib.hid ((s1.below hB1).more hB1.size); have S2 := Lib.hid ((s2.below hB1).more hB1.size); have S3 := Lib.hid ((s3.below hB1).more hB1.size)
  unfold gdV at e9
  injection e9 with e9
  injection e9 with e9
  simp only [List.cons.injEq, and_true, true_and] at e9
  obtain ⟨rfl, rfl, rfl⟩ := e9
  have HK1 := Lib.hid hk1; have HB1 := Lib.hid hB1
  clear hk1 hB1 s1 s2 s3
  refine wp_mono (Q := fun e a' w' => match e with | .normal => RegP (gdV g Ab Ar Ad cb cr cd) w.heap.size w1.heap.size w1 g a' w' | _ => False) (wp_region_any (by kernel_rfl) (wpAny_inv (WInv (gdV g Ab Ar Ad cb cr cd) w.heap.size w1.heap.size w1 g (.slice Ab g.B.length cb) (.slice Ar g.R.length cr) (.slice Ad g.D.length cd)) ?_ ?_ ?_ _ _ _ _ ?_ (by decide))) ?_
  · rintro l a W i ⟨L, V, rfl, rfl, S⟩ hi
    obtain ⟨hl, o, ho, hall⟩ := mem_ready.1 hi
    have hi19 : i < 19 := by simpa using (Array.getElem?_eq_some_iff.1 ho).1
    have hkW := ((S.below.block w.heap.size (by omega)).trans HK1.out)
    have p0 := Lib.cell_of_heap hkW 0; have p1 := Lib.cell_of_heap hkW 1; have p2 := Lib.cell_of_heap hkW 2; have p3 := Lib.cell_of_heap hkW 3; have p4 := Lib.cell_of_heap hkW 4
    have hnW := S.below.size
    have HS := Lib.hid S
    have hcase : i = 0 ∨ i = 1 ∨ i = 2 ∨ i = 3 ∨ i = 4 ∨ i = 5 ∨ i = 6 ∨ i = 7 ∨ i = 8 ∨ i = 9 ∨ i = 10 ∨ i = 11 ∨ i = 12 ∨ i = 13 ∨ i = 14 ∨ i = 15 ∨ i = 16 ∨ i = 17 ∨ i = 18 := by omega
    clear S hkW
    rcases hcase with rfl | rfl | rfl | rfl | rfl | rfl | rfl | rfl | rfl | rfl | rfl | rfl | rfl | rfl | rfl | rfl | rfl | rfl | rfl
    · obtain rfl := Option.some.inj ho
      refine wpOp_ok (.pointer (some ⟨w.heap.size, 0, none⟩)) W rfl rfl (by go_simp) ⟨upd L 0 true, upd V 0 (.pointer (some ⟨w.heap.size, 0, none⟩)), rfl, rfl, ⟨HS.out.below, (fun _ => rfl), HS.out.f1, HS.out.f2, HS.out.f3, HS.out.f4, HS.out.f5, HS.out.f6, HS.out.f7, HS.out.f8, HS.out.f9, HS.out.f10, HS.out.f11, HS.out.f12, HS.out.f13, HS.out.f14, HS.out.f15, HS.out.f16, HS.out.f17, HS.out.f18⟩⟩
    · obtain rfl := Option.some.inj ho
      have d0 : L 0 = true := hall ⟨0, .data⟩ (by simp) rfl
      have e1 := HS.out.f0 d0
      refine wpOp_ok (.int .i64 g.H) W rfl rfl (by simp only [wFr, d0, e1, cond_true]; go_simp) ⟨upd L 1 true, upd V 1 (.int .i64 g.H), rfl, rfl, ⟨HS.out.below, HS.out.f0, (fun _ => rfl), HS.out.f2, HS.out.f3, HS.out.f4, HS.out.f5, HS.out.f6, HS.out.f7, HS.out.f8, HS.out.f9, HS.out.f10, HS.out.f11, HS.out.f12, HS.out.f13, HS.out.f14, HS.out.f15, HS.out.f16, HS.out.f17, HS.out.f18⟩⟩
    · obtain rfl := Option.some.inj ho
      refine wpOp_ok (.pointer (some ⟨w.heap.size, 1, none⟩)) W rfl rfl (by go_simp) ⟨upd L 2 true, upd V 2 (.pointer (some ⟨w.heap.size, 1, none⟩)), rfl, rfl, ⟨HS.out.below, HS.out.f0, HS.out.f1, (fun _ => rfl), HS.out.f3, HS.out.f4, HS.out.f5, HS.out.f6, HS.out.f7, HS.out.f8, HS.out.f9, HS.out.f10, HS.out.f11, HS.out.f12, HS.out.f13, HS.out.f14, HS.out.f15, HS.out.f16, HS.out.f17, HS.out.f18⟩⟩
    · obtain rfl := Option.some.inj ho
      have d2 : L 2 = true := hall ⟨2, .data⟩ (by simp) rfl
      have e1 := HS.out.f2 d2
      refine wpOp_ok (.int .i64 g.W) W rfl rfl (by simp only [wFr, d2, e1, cond_true]; go_simp) ⟨upd L 3 true, upd V 3 (.int .i64 g.W), rfl, rfl, ⟨HS.out.below, HS.out.f0, HS.out.f1, HS.out.f2, (fun _ => rfl), HS.out.f4, HS.out.f5, HS.out.f6, HS.out.f7, HS.out.f8, HS.out.f9, HS.out.f10, HS.out.f11, HS.out.f12, HS.out.f13, HS.out.f14, HS.out.f15, HS.out.f16, HS.out.f17, HS.out.f18⟩⟩
    · obtain rfl := Option.some.inj ho
      have hbg := (Below.refl W.heap.size W).alloc (Nat.le_refl _) (.cells #[] 4)
      refine wpOp_ok (.slice (some ⟨W.heap.size, 0, none⟩) 0 0) (W.alloc (.cells #[] 4)) rfl rfl (by go_simp) ⟨upd L 4 true, upd V 4 (.slice (some ⟨W.heap.size, 0, none⟩) 0 0), rfl, rfl, ⟨HS.out.below.trans (hbg.mono hnW), HS.out.f0, HS.out.f1, HS.out.f2, HS.out.f3, (fun _ => ⟨_, rfl⟩), HS.out.f5, HS.out.f6, (fun h => (HS.out.f7 h).grow hbg), HS.out.f8, HS.out.f9, HS.out.f10, (fun h => (HS.out.f11 h).grow hbg), HS.out.f12, HS.out.f13, HS.out.f14, (fun h => (HS.out.f15 h).grow hbg), HS.out.f16, (fun h => BoxS.grow (L := upd L 4 true) (V := upd V 4 _) (HS.out.f17 h) hbg), HS.out.f18⟩⟩
    · obtain rfl := Option.some.inj ho
      refine wpOp_ok (.pointer (some ⟨w.heap.size, 2, none⟩)) W rfl rfl (by go_simp) ⟨upd L 5 true, upd V 5 (.pointer (some ⟨w.heap.size, 2, none⟩)), rfl, rfl, ⟨HS.out.below, HS.out.f0, HS.out.f1, HS.out.f2, HS.out.f3, HS.out.f4, (fun _ => rfl), HS.out.f6, HS.out.f7, HS.out.f8, HS.out.f9, HS.out.f10, HS.out.f11, HS.out.f12, HS.out.f13, HS.out.f14, HS.out.f15, HS.out.f16, HS.out.f17, HS.out.f18⟩⟩
    · obtain rfl := Option.some.inj ho
      have d5 : L 5 = true := hall ⟨5, .data⟩ (by simp) rfl
      have e1 := HS.out.f5 d5
      refine wpOp_ok (.slice Ab g.B.length cb) W rfl rfl (by simp only [wFr, d5, e1, cond_true]; go_simp) ⟨upd L 6 true, upd V 6 (.slice Ab g.B.length cb), rfl, rfl, ⟨HS.out.below, HS.out.f0, HS.out.f1, HS.out.f2, HS.out.f3, HS.out.f4, HS.out.f5, (fun _ => rfl), HS.out.f7, HS.out.f8, HS.out.f9, HS.out.f10, HS.out.f11, HS.out.f12, HS.out.f13, HS.out.f14, HS.out.f15, HS.out.f16, HS.out.f17, HS.out.f18⟩⟩
    · obtain rfl := Option.some.inj ho
      have d4 : L 4 = true := hall ⟨4, .data⟩ (by simp) rfl
      have d6 : L 6 = true := hall ⟨6, .data⟩ (by simp) rfl
      obtain ⟨q4, e4⟩ := HS.out.f4 d4
      have e6 := HS.out.f6 d6
      obtain ⟨A9, c9, w9, hr9, hbg, hs9⟩ := app_fresh W 43 43 Tryd.underlying43 q4 Ab cb g.B ((S1.out.below HS.out.below).more hnW) (by omega)
      have he1 : (wFr (gdV g Ab Ar Ad cb cr cd) w.heap.size L V).eval (.tmp 17) = .slice (some ⟨q4, 0, none⟩) 0 0 := by show cond (L 4) (V 4) undef = _; rw [d4, e4]; rfl
      have he2 : (wFr (gdV g Ab Ar Ad cb cr cd) w.heap.size L V).eval (.tmp 19) = .slice Ab g.B.length cb := by show cond (L 6) (V 6) undef = _; rw [d6, e6]; rfl
      have n16 : L 16 = false := Bool.eq_false_iff.2 (fun h => by have h9 := (HS.out.f16 h).1; have h8 : L 7 = false := hl; rw [h8] at h9; simp at h9)
      have n18 : L 18 = false := Bool.eq_false_iff.2 (fun h => by have h9 := HS.out.f18 h; have h8 : L 7 = false := hl; rw [h8] at h9; simp at h9)
      refine wpOp_ok (.slice A9 g.B.length c9) w9 rfl rfl (by change Sem.run _ (execOp _ { dst := some 20, op := .call { callee := .builtin .append, args := #[.tmp 17, .tmp 19], argTypes := #[43, 43] }, type := 43, pos := _, after := _, guard := _ }) _ = _; unfold execOp; simp only [resolve, invoke, builtin, Sem.run_bind, Sem.run_pure, Result.andThen_ok, List.map_toArray, List.map_cons, List.map_nil, he1, he2, hr9]) ⟨upd L 7 true, upd V 7 (.slice A9 g.B.length c9), rfl, rfl, ⟨HS.out.below.trans (hbg.mono hnW), HS.out.f0, HS.out.f1, HS.out.f2, HS.out.f3, HS.out.f4, HS.out.f5, HS.out.f6, (fun _ => ⟨A9, c9, rfl, hs9⟩), HS.out.f8, HS.out.f9, HS.out.f10, (fun h => (HS.out.f11 h).grow hbg), HS.out.f12, HS.out.f13, HS.out.f14, (fun h => (HS.out.f15 h).grow hbg), (fun h => by have h8 : L 16 = true := h; rw [n16] at h8; cases h8), (fun h => BoxS.first (HS.out.f17 h) hbg rfl rfl n18), (fun h => by have h8 : L 18 = true := h; rw [n18] at h8; cases h8)⟩⟩
    · obtain rfl := Option.some.inj ho
      have hbg := (Below.refl W.heap.size W).alloc (Nat.le_refl _) (.cells #[] 4)
      refine wpOp_ok (.slice (some ⟨W.heap.size, 0, none⟩) 0 0) (W.alloc (.cells #[] 4)) rfl rfl (by go_simp) ⟨upd L 8 true, upd V 8 (.slice (some ⟨W.heap.size, 0, none⟩) 0 0), rfl, rfl, ⟨HS.out.below.trans (hbg.mono hnW), HS.out.f0, HS.out.f1, HS.out.f2, HS.out.f3, HS.out.f4, HS.out.f5, HS.out.f6, (fun h => (HS.out.f7 h).grow hbg), (fun _ => ⟨_, rfl⟩), HS.out.f9, HS.out.f10, (fun h => (HS.out.f11 h).grow hbg), HS.out.f12, HS.out.f13, HS.out.f14, (fun h => (HS.out.f15 h).grow hbg), HS.out.f16, (fun h => BoxS.grow (L := upd L 8 true) (V := upd V 8 _) (HS.out.f17 h) hbg), HS.out.f18⟩⟩
    · obtain rfl := Option.some.inj ho
      refine wpOp_ok (.pointer (some ⟨w.heap.size, 3, none⟩)) W rfl rfl (by go_simp) ⟨upd L 9 true, upd V 9 (.pointer (some ⟨w.heap.size, 3, none⟩)), rfl, rfl, ⟨HS.out.below, HS.out.f0, HS.out.f1, HS.out.f2, HS.out.f3, HS.out.f4, HS.out.f5, HS.out.f6, HS.out.f7, HS.out.f8, (fun _ => rfl), HS.out.f10, HS.out.f11, HS.out.f12, HS.out.f13, HS.out.f14, HS.out.f15, HS.out.f16, HS.out.f17, HS.out.f18⟩⟩
    · obtain rfl := Option.some.inj ho
      have d9 : L 9 = true := hall ⟨9, .data⟩ (by simp) rfl
      have e1 := HS.out.f9 d9
      refine wpOp_ok (.slice Ar g.R.length cr) W rfl rfl (by simp only [wFr, d9, e1, cond_true]; go_simp) ⟨upd L 10 true, upd V 10 (.slice Ar g.R.length cr), rfl, rfl, ⟨HS.out.below, HS.out.f0, HS.out.f1, HS.out.f2, HS.out.f3, HS.out.f4, HS.out.f5, HS.out.f6, HS.out.f7, HS.out.f8, HS.out.f9, (fun _ => rfl), HS.out.f11, HS.out.f12, HS.out.f13, HS.out.f14, HS.out.f15, HS.out.f16, HS.out.f17, HS.out.f18⟩⟩
    · obtain rfl := Option.some.inj ho
      have d8 : L 8 = true := hall ⟨8, .data⟩ (by simp) rfl
      have d10 : L 10 = true := hall ⟨10, .data⟩ (by simp) rfl
      have d7 : L 7 = true := hall ⟨7, .chain⟩ (by simp) rfl
      obtain ⟨q4, e4⟩ := HS.out.f8 d8
      have e6 := HS.out.f10 d10
      obtain ⟨A9, c9, w9, hr9, hbg, hs9⟩ := app_fresh W 43 43 Tryd.underlying43 q4 Ar cr g.R ((S2.out.below HS.out.below).more hnW) (by omega)
      have he1 : (wFr (gdV g Ab Ar Ad cb cr cd) w.heap.size L V).eval (.tmp 21) = .slice (some ⟨q4, 0, none⟩) 0 0 := by show cond (L 8) (V 8) undef = _; rw [d8, e4]; rfl
      have he2 : (wFr (gdV g Ab Ar Ad cb cr cd) w.heap.size L V).eval (.tmp 23) = .slice Ar g.R.length cr := by show cond (L 10) (V 10) undef = _; rw [d10, e6]; rfl
      have n16 : L 16 = false := Bool.eq_false_iff.2 (fun h => by have h9 := (HS.out.f16 h).1; have h8 : L 11 = false := hl; rw [h8] at h9; simp at h9)
      have n18 : L 18 = false := Bool.eq_false_iff.2 (fun h => by have h9 := HS.out.f18 h; have h8 : L 11 = false := hl; rw [h8] at h9; simp at h9)
      refine wpOp_ok (.slice A9 g.R.length c9) w9 rfl rfl (by change Sem.run _ (execOp _ { dst := some 24, op := .call { callee := .builtin .append, args := #[.tmp 21, .tmp 23], argTypes := #[43, 43] }, type := 43, pos := _, after := _, guard := _ }) _ = _; unfold execOp; simp only [resolve, invoke, builtin, Sem.run_bind, Sem.run_pure, Result.andThen_ok, List.map_toArray, List.map_cons, List.map_nil, he1, he2, hr9]) ⟨upd L 11 true, upd V 11 (.slice A9 g.R.length c9), rfl, rfl, ⟨HS.out.below.trans (hbg.mono hnW), HS.out.f0, HS.out.f1, HS.out.f2, HS.out.f3, HS.out.f4, HS.out.f5, HS.out.f6, (fun h => (HS.out.f7 h).grow hbg), HS.out.f8, HS.out.f9, HS.out.f10, (fun _ => ⟨A9, c9, rfl, hs9⟩), HS.out.f12, HS.out.f13, HS.out.f14, (fun h => (HS.out.f15 h).grow hbg), (fun h => by have h8 : L 16 = true := h; rw [n16] at h8; cases h8), (fun h => BoxS.first (HS.out.f17 h) hbg rfl rfl n18), (fun h => by have h8 : L 18 = true := h; rw [n18] at h8; cases h8)⟩⟩
    · obtain rfl := Option.some.inj ho
      have hbg := (Below.refl W.heap.size W).alloc (Nat.le_refl _) (.cells #[] 4)
      refine wpOp_ok (.slice (some ⟨W.heap.size, 0, none⟩) 0 0) (W.alloc (.cells #[] 4)) rfl rfl (by go_simp) ⟨upd L 12 true, upd V 12 (.slice (some ⟨W.heap.size, 0, none⟩) 0 0), rfl, rfl, ⟨HS.out.below.trans (hbg.mono hnW), HS.out.f0, HS.out.f1, HS.out.f2, HS.out.f3, HS.out.f4, HS.out.f5, HS.out.f6, (fun h => (HS.out.f7 h).grow hbg), HS.out.f8, HS.out.f9, HS.out.f10, (fun h => (HS.out.f11 h).grow hbg), (fun _ => ⟨_, rfl⟩), HS.out.f13, HS.out.f14, (fun h => (HS.out.f15 h).grow hbg), HS.out.f16, (fun h => BoxS.grow (L := upd L 12 true) (V := upd V 12 _) (HS.out.f17 h) hbg), HS.out.f18⟩⟩
    · obtain rfl := Option.some.inj ho
      refine wpOp_ok (.pointer (some ⟨w.heap.size, 4, none⟩)) W rfl rfl (by go_simp) ⟨upd L 13 true, upd V 13 (.pointer (some ⟨w.heap.size, 4, none⟩)), rfl, rfl, ⟨HS.out.below, HS.out.f0, HS.out.f1, HS.out.f2, HS.out.f3, HS.out.f4, HS.out.f5, HS.out.f6, HS.out.f7, HS.out.f8, HS.out.f9, HS.out.f10, HS.out.f11, HS.out.f12, (fun _ => rfl), HS.out.f14, HS.out.f15, HS.out.f16, HS.out.f17, HS.out.f18⟩⟩
    · obtain rfl := Option.some.inj ho
      have d13 : L 13 = true := hall ⟨13, .data⟩ (by simp) rfl
      have e1 := HS.out.f13 d13
      refine wpOp_ok (.slice Ad g.D.length cd) W rfl rfl (by simp only [wFr, d13, e1, cond_true]; go_simp) ⟨upd L 14 true, upd V 14 (.slice Ad g.D.length cd), rfl, rfl, ⟨HS.out.below, HS.out.f0, HS.out.f1, HS.out.f2, HS.out.f3, HS.out.f4, HS.out.f5, HS.out.f6, HS.out.f7, HS.out.f8, HS.out.f9, HS.out.f10, HS.out.f11, HS.out.f12, HS.out.f13, (fun _ => rfl), HS.out.f15, HS.out.f16, HS.out.f17, HS.out.f18⟩⟩
    · obtain rfl := Option.some.inj ho
      have d12 : L 12 = true := hall ⟨12, .data⟩ (by simp) rfl
      have d14 : L 14 = true := hall ⟨14, .data⟩ (by simp) rfl
      have d11 : L 11 = true := hall ⟨11, .chain⟩ (by simp) rfl
      obtain ⟨q4, e4⟩ := HS.out.f12 d12
      have e6 := HS.out.f14 d14
      obtain ⟨A9, c9, w9, hr9, hbg, hs9⟩ := app_fresh W 43 43 Tryd.underlying43 q4 Ad cd g.D ((S3.out.below HS.out.below).more hnW) (by omega)
      have he1 : (wFr (gdV g Ab Ar Ad cb cr cd) w.heap.size L V).eval (.tmp 25) = .slice (some ⟨q4, 0, none⟩) 0 0 := by show cond (L 12) (V 12) undef = _; rw [d12, e4]; rfl
      have he2 : (wFr (gdV g Ab Ar Ad cb cr cd) w.heap.size L V).eval (.tmp 27) = .slice Ad g.D.length cd := by show cond (L 14) (V 14) undef = _; rw [d14, e6]; rfl
      have n16 : L 16 = false := Bool.eq_false_iff.2 (fun h => by have h9 := (HS.out.f16 h).1; have h8 : L 15 = false := hl; rw [h8] at h9; simp at h9)
      have n18 : L 18 = false := Bool.eq_false_iff.2 (fun h => by have h9 := HS.out.f18 h; have h8 : L 15 = false := hl; rw [h8] at h9; simp at h9)
      refine wpOp_ok (.slice A9 g.D.length c9) w9 rfl rfl (by change Sem.run _ (execOp _ { dst := some 28, op := .call { callee := .builtin .append, args := #[.tmp 25, .tmp 27], argTypes := #[43, 43] }, type := 43, pos := _, after := _, guard := _ }) _ = _; unfold execOp; simp only [resolve, invoke, builtin, Sem.run_bind, Sem.run_pure, Result.andThen_ok, List.map_toArray, List.map_cons, List.map_nil, he1, he2, hr9]) ⟨upd L 15 true, upd V 15 (.slice A9 g.D.length c9), rfl, rfl, ⟨HS.out.below.trans (hbg.mono hnW), HS.out.f0, HS.out.f1, HS.out.f2, HS.out.f3, HS.out.f4, HS.out.f5, HS.out.f6, (fun h => (HS.out.f7 h).grow hbg), HS.out.f8, HS.out.f9, HS.out.f10, (fun h => (HS.out.f11 h).grow hbg), HS.out.f12, HS.out.f13, HS.out.f14, (fun _ => ⟨A9, c9, rfl, hs9⟩), (fun h => by have h8 : L 16 = true := h; rw [n16] at h8; cases h8), (fun h => BoxS.first (HS.out.f17 h) hbg rfl rfl n18), (fun h => by have h8 : L 18 = true := h; rw [n18] at h8; cases h8)⟩⟩
    · obtain rfl := Option.some.inj ho
      have d1 : L 1 = true := hall ⟨1, .data⟩ (by simp) rfl
      have d3 : L 3 = true := hall ⟨3, .data⟩ (by simp) rfl
      have d7 : L 7 = true := hall ⟨7, .data⟩ (by simp) rfl
      have d11 : L 11 = true := hall ⟨11, .data⟩ (by simp) rfl
      have d15 : L 15 = true := hall ⟨15, .data⟩ (by simp) rfl
      have e1 := HS.out.f1 d1; have e3 := HS.out.f3 d3
      obtain ⟨A7, c7, e7, _⟩ := HS.out.f7 d7; obtain ⟨A11, c11, e11, _⟩ := HS.out.f11 d11; obtain ⟨A15, c15, e15, _⟩ := HS.out.f15 d15
      refine wpOp_ok (.agg #[.int .i64 g.H, .int .i64 g.W, V 7, V 11, V 15]) W rfl rfl (by simp only [wFr, d1, d3, d7, d11, d15, e1, e3, e7, e11, e15, cond_true]; go_simp) ⟨upd L 16 true, upd V 16 (.agg #[.int .i64 g.H, .int .i64 g.W, V 7, V 11, V 15]), rfl, rfl, ⟨HS.out.below, HS.out.f0, HS.out.f1, HS.out.f2, HS.out.f3, HS.out.f4, HS.out.f5, HS.out.f6, HS.out.f7, HS.out.f8, HS.out.f9, HS.out.f10, HS.out.f11, HS.out.f12, HS.out.f13, HS.out.f14, HS.out.f15, (fun _ => ⟨⟨d7, d11, d15⟩, rfl⟩), HS.out.f17, HS.out.f18⟩⟩
    · obtain rfl := Option.some.inj ho
      have hbg := (Below.refl W.heap.size W).alloc (Nat.le_refl _) (.cells #[.int .i64 0, .int .i64 0, .slice none 0 0, .slice none 0 0, .slice none 0 0] 45)
      refine wpOp_ok (.pointer (some ⟨W.heap.size, 0, none⟩)) (W.alloc (.cells #[.int .i64 0, .int .i64 0, .slice none 0 0, .slice none 0 0, .slice none 0 0] 45)) rfl rfl (by go_simp) ⟨upd L 17 true, upd V 17 (.pointer (some ⟨W.heap.size, 0, none⟩)), rfl, rfl, ⟨HS.out.below.trans (hbg.mono hnW), HS.out.f0, HS.out.f1, HS.out.f2, HS.out.f3, HS.out.f4, HS.out.f5, HS.out.f6, (fun h => (HS.out.f7 h).grow hbg), HS.out.f8, HS.out.f9, HS.out.f10, (fun h => (HS.out.f11 h).grow hbg), HS.out.f12, HS.out.f13, HS.out.f14, (fun h => (HS.out.f15 h).grow hbg), HS.out.f16, (fun _ => ⟨W.heap.size, rfl, hnW, fun _ => World.alloc_heap_new W _, fun h => by have h9 := (HS.out.f18 h).1; rw [show L 17 = false from hl] at h9; cases h9⟩), (fun h => ⟨rfl, (HS.out.f18 h).2⟩)⟩⟩
    · obtain rfl := Option.some.inj ho
      have d17 : L 17 = true := hall ⟨17, .data⟩ (by simp) rfl
      have d16 : L 16 = true := hall ⟨16, .data⟩ (by simp) rfl
      have d15 : L 15 = true := hall ⟨15, .chain⟩ (by simp) rfl
      have h18 : L 18 = false := hl
      have hbx := HS.out.f17 d17
      obtain ⟨q, e17, hnq, hq0, _⟩ := hbx
      have hq := hq0 h18
      have e16 := (HS.out.f16 d16).2
      obtain ⟨A7, c7, e7, s7⟩ := HS.out.f7 (hall ⟨7, .phase⟩ (by simp) rfl); obtain ⟨A11, c11, e11, s11⟩ := HS.out.f11 (hall ⟨11, .phase⟩ (by simp) rfl); obtain ⟨A15, c15, e15, s15⟩ := HS.out.f15 d15
      have HQ := Lib.hid hq
      have c0 := Lib.cell_of_heap hq 0; have c1 := Lib.cell_of_heap hq 1; have c2 := Lib.cell_of_heap hq 2; have c3 := Lib.cell_of_heap hq 3; have c4 := Lib.cell_of_heap hq 4
      have x0 := Lib.frozen_of_heap hq 0; have x1 := Lib.frozen_of_heap hq 1; have x2 := Lib.frozen_of_heap hq 2; have x3 := Lib.frozen_of_heap hq 3; have x4 := Lib.frozen_of_heap hq 4
      clear hq hq0 p0 p1 p2 p3 p4
      refine wpOp_skip (((((W.setCell ⟨q, 0, none⟩ (.int .i64 g.H)).setCell ⟨q, 1, none⟩ (.int .i64 g.W)).setCell ⟨q, 2, none⟩ (V 7)).setCell ⟨q, 3, none⟩ (V 11)).setCell ⟨q, 4, none⟩ (V 15)) rfl rfl (by simp only [wFr, d16, d17, e16, e17, e7, e11, e15, cond_true]; go_simp) ⟨upd L 18 true, V, rfl, rfl, ?_⟩
      have hsz5 : (((((W.setCell ⟨q, 0, none⟩ (.int .i64 g.H)).setCell ⟨q, 1, none⟩ (.int .i64 g.W)).setCell ⟨q, 2, none⟩ (V 7)).setCell ⟨q, 3, none⟩ (V 11)).setCell ⟨q, 4, none⟩ (V 15)).heap.size = W.heap.size := by simp
      exact ⟨below5 HS.out.below hnq, HS.out.f0, HS.out.f1, HS.out.f2, HS.out.f3, HS.out.f4, HS.out.f5, HS.out.f6, fun _ => ⟨A7, c7, e7, by rw [hsz5]; exact Sl.store5 s7 HQ.out⟩, HS.out.f8, HS.out.f9, HS.out.f10, fun _ => ⟨A11, c11, e11, by rw [hsz5]; exact Sl.store5 s11 HQ.out⟩, HS.out.f12, HS.out.f13, HS.out.f14, fun _ => ⟨A15, c15, e15, by rw [hsz5]; exact Sl.store5 s15 HQ.out⟩, HS.out.f16, fun _ => ⟨q, e17, hnq, (fun h => by cases h), fun _ => stored5 _ _ _ _ _ HQ.out⟩, fun _ => ⟨d17, (HS.out.f16 d16).1⟩⟩
  · intro l a W ⟨L, V, e1, e2, S⟩ hr
    subst e1
    subst e2
    have t0 : L 0 = true := listed_of_done hr 0 _ rfl (by simp)
    have t1 : L 1 = true := listed_of_done hr 1 _ rfl (by simp [t0])
    have t2 : L 2 = true := listed_of_done hr 2 _ rfl (by simp [t0, t1])
    have t3 : L 3 = true := listed_of_done hr 3 _ rfl (by simp [t0, t1, t2])
    have t4 : L 4 = true := listed_of_done hr 4 _ rfl (by simp [t0, t1, t2, t3])
    have t5 : L 5 = true := listed_of_done hr 5 _ rfl (by simp [t0, t1, t2, t3, t4])
    have t6 : L 6 = true := listed_of_done hr 6 _ rfl (by simp [t0, t1, t2, t3, t4, t5])
    have t7 : L 7 = true := listed_of_done hr 7 _ rfl (by simp [t0, t1, t2, t3, t4, t5, t6])
    have t8 : L 8 = true := listed_of_done hr 8 _ rfl (by simp [t0, t1, t2, t3, t4, t5, t6, t7])
    have t9 : L 9 = true := listed_of_done hr 9 _ rfl (by simp [t0, t1, t2, t3, t4, t5, t6, t7, t8])
    have t10 : L 10 = true := listed_of_done hr 10 _ rfl (by simp [t0, t1, t2, t3, t4, t5, t6, t7, t8, t9])
    have t11 : L 11 = true := listed_of_done hr 11 _ rfl (by simp [t0, t1, t2, t3, t4, t5, t6, t7, t8, t9, t10])
    have t12 : L 12 = true := listed_of_done hr 12 _ rfl (by simp [t0, t1, t2, t3, t4, t5, t6, t7, t8, t9, t10, t11])
    have t13 : L 13 = true := listed_of_done hr 13 _ rfl (by simp [t0, t1, t2, t3, t4, t5, t6, t7, t8, t9, t10, t11, t12])
    have t14 : L 14 = true := listed_of_done hr 14 _ rfl (by simp [t0, t1, t2, t3, t4, t5, t6, t7, t8, t9, t10, t11, t12, t13])
    have t15 : L 15 = true := listed_of_done hr 15 _ rfl (by simp [t0, t1, t2, t3, t4, t5, t6, t7, t8, t9, t10, t11, t12, t13, t14])
    have t16 : L 16 = true := listed_of_done hr 16 _ rfl (by simp [t0, t1, t2, t3, t4, t5, t6, t7, t8, t9, t10, t11, t12, t13, t14, t15])
    have t17 : L 17 = true := listed_of_done hr 17 _ rfl (by simp [t0, t1, t2, t3, t4, t5, t6, t7, t8, t9, t10, t11, t12, t13, t14, t15, t16])
    have t18 : L 18 = true := listed_of_done hr 18 _ rfl (by simp [t0, t1, t2, t3, t4, t5, t6, t7, t8, t9, t10, t11, t12, t13, t14, t15, t16, t17])
    obtain ⟨q, e17, hnq, _, hq⟩ := S.f17 t17
    have hq := hq t18
    obtain ⟨A7, c7, e7, s7⟩ := S.f7 t7; obtain ⟨A11, c11, e11, s11⟩ := S.f11 t11; obtain ⟨A15, c15, e15, s15⟩ := S.f15 t15
    rw [e7, e11, e15] at hq
    refine ⟨V, q, A7, A11, A15, c7, c11, c15, ?_, e17, hnq, S.below, hq, ⟨HG.out.h0, HG.out.w0, _, _, _, rfl, s7, s11, s15⟩⟩
    simp only [wFr, t0, t1, t2, t3, t4, t5, t6, t7, t8, t9, t10, t11, t12, t13, t14, t15, t16, t17]
  · rintro l a W ⟨L, V, rfl, rfl, S⟩
    rfl
  · exact ⟨fun _ => false, fun _ => undef, rfl, rfl, ⟨(Below.refl _ w1).drew, (fun h => by cases h), (fun h => by cases h), (fun h => by cases h), (fun h => by cases h), (fun h => by cases h), (fun h => by cases h), (fun h => by cases h), (fun h => by cases h), (fun h => by cases h), (fun h => by cases h), (fun h => by cases h), (fun h => by cases h), (fun h => by cases h), (fun h => by cases h), (fun h => by cases h), (fun h => by cases h), (fun h => by cases h), (fun h => by cases h), (fun h => by cases h)⟩⟩
  · intro e a' W hq
    cases e <;> try exact hq.elim
    obtain ⟨V, q, A7, A11, A15, c7, c11, c15, rfl, e17, hnq, hbW, hq, hgd⟩ := hq
    simp only [wFr, cond_true, e17]
    have hqz := (Array.getElem?_eq_some_iff.1 hq).1
    have hzW := hbW.size
    have HBW := Lib.hid (HB1.out.trans (hbW.mono HB1.out.size))
    have HQ := Lib.hid hq; have HGD := Lib.hid hgd
    have HKW := Lib.hid ((hbW.block w.heap.size (by omega)).trans HK1.out)
    have r0 := Lib.cell_of_heap HQ.out 0; have r1 := Lib.cell_of_heap HQ.out 1; have r2 := Lib.cell_of_heap HQ.out 2; have r3 := Lib.cell_of_heap HQ.out 3; have r4 := Lib.cell_of_heap HQ.out 4
    have CS : Hid (∀ v u W, GdAt W W.heap.size v g → GdAt W W.heap.size u g → Calls Tryd.prog 32 #[v, u] W fun e w' => e = .returned (.bool true) ∧ Below W.heap.size W w') := Lib.hid (fun v u W h1 h2 => by
      have hl : g.B.length ≤ 17592186044416 ∧ g.R.length ≤ 17592186044416 ∧ g.D.length ≤ 17592186044416 := ⟨by omega, by omega, by omega⟩
      have := Same_any v u g g W.heap.size W h1 h2 (Nat.le_refl _) hl hl
      rw [decide_eq_true rfl] at this
      exact this)
    have hne : q ≠ w.heap.size := by omega
    clear hq hgd hbW e17 hb1
    by_cases hck : checkG g = 0
    · have hok := ok_of_check hck
      have hpp := parse_print g hok
      have hpz := printL_le g hok
      obtain ⟨t, ht⟩ : ∃ t : ByteArray, t = ⟨(printL g).toArray⟩ := ⟨_, rfl⟩
      have htb : bl t = printL g := by rw [ht]
      have htz : t.size ≤ 4096 := by rw [← bl_length, htb]; exact hpz
      rw [← htb] at hpp
      have CP : Hid (∀ W, Below w.heap.size w W → _) := Lib.hid (fun W hW => Parse_good hpp W (HT.out.below hW) (by omega))
      have CR : Hid (∀ (v : Value) (W : World), GdAt W W.heap.size v g → Calls Tryd.prog 33 #[v] W fun e w' => e = .returned (.tuple #[.string t, .int .i64 0]) ∧ Below W.heap.size W w') := Lib.hid (fun v W h => by
        have := Print_good v g W.heap.size W h (Nat.le_refl _) hok
        rw [← ht] at this
        exact this)
      have CQ : Hid (∀ (v : Value) (W : World), GdAt W W.heap.size v g → Calls Tryd.prog 34 #[v] W fun e w' => e = .returned (.tuple #[.string t, .int .i64 0]) ∧ Below W.heap.size W w') := Lib.hid (fun v W h => by
        have := refPrint_good v g W.heap.size W h (Nat.le_refl _) hok
        rw [← ht] at this
        exact this)
      clear hck hok hpp hpz ht htb
      go_wp2_with (first
        | (go_at_call 33; refine (CR.out _ _ HGD.out).mono ?_; rintro e w2 ⟨rfl, hb2⟩; have hq2 := Lib.hid ((hb2.block q hqz).trans HQ.out); have hB2 := Lib.hid ((hb2.block w.heap.size (by omega)).trans HKW.out); have HG2 := Lib.hid ((HGD.out.below hb2).more hb2.size); have HB2 := Lib.hid (HBW.out.trans (hb2.mono HBW.out.size)); have z2 := hb2.size; clear hb2 r0 r1 r2 r3 r4; have p0 := Lib.cell_of_heap hB2.out 0; have p1 := Lib.cell_of_heap hB2.out 1; have p2 := Lib.cell_of_heap hB2.out 2; have p3 := Lib.cell_of_heap hB2.out 3; have p4 := Lib.cell_of_heap hB2.out 4)
        | (go_at_call 34; refine (CQ.out _ _ ((HG.out.below HB2.out).more HB2.out.size)).mono ?_; rintro e w3 ⟨rfl, hb3⟩; have hq3 := Lib.hid ((hb3.block q (by omega)).trans hq2.out); have hB3 := Lib.hid ((hb3.block w.heap.size (by omega)).trans hB2.out); have HG3 := Lib.hid ((HG2.out.below hb3).more hb3.size); have HB3 := Lib.hid (HB2.out.trans (hb3.mono HB2.out.size)); have z3 := hb3.size; clear hb3 p0 p1 p2 p3 p4; have p0 := Lib.cell_of_heap hB3.out 0; have p1 := Lib.cell_of_heap hB3.out 1; have p2 := Lib.cell_of_heap hB3.out 2; have p3 := Lib.cell_of_heap hB3.out 3; have p4 := Lib.cell_of_heap hB3.out 4; have r0 := Lib.cell_of_heap hq3.out 0; have r1 := Lib.cell_of_heap hq3.out 1; have r2 := Lib.cell_of_heap hq3.out 2; have r3 := Lib.cell_of_heap hq3.out 3; have r4 := Lib.cell_of_heap hq3.out 4)
        | (go_at_call 30; refine (CP.out _ HB4.out).mono ?_; rintro e w5 ⟨A5, R5, D5, cb5, cr5, cd5, rfl, hg5, hb5⟩; have HG5 := Lib.hid hg5; have z5 := hb5.size; have HB5 := Lib.hid (HB4.out.trans (hb5.mono HB4.out.size)); have hB5 : ∀ o, (w5.alloc o).heap[w.heap.size]? = _ := fun o => (Below.heap_alloc w5 o w.heap.size (by omega)).trans ((hb5.block w.heap.size (by omega)).trans hB4.out); have HK5 := Lib.hid hB5; clear hg5 hb5 hB5; have p0 := fun o => Lib.cell_of_heap (HK5.out o) 0; have p1 := fun o => Lib.cell_of_heap (HK5.out o) 1; have p2 := fun o => Lib.cell_of_heap (HK5.out o) 2; have p3 := fun o => Lib.cell_of_heap (HK5.out o) 3; have p4 := fun o => Lib.cell_of_heap (HK5.out o) 4)
        | (go_at_call 32; (with_reducible refine (CS.out _ _ _ ((HG5.out.below ((Below.refl _ w5).alloc (Nat.le_refl _) _)).more (by simp)) ((HG.out.below (HB5.out.alloc (by omega) _)).more (by simp; omega))).mono ?_); rintro e w6 ⟨rfl, hb6⟩)
        | (go_at_call 32; refine (CS.out _ _ _ HG3.out ((HG.out.below HB3.out).more HB3.out.size)).mono ?_; rintro e w4 ⟨rfl, hb4⟩; have hB4 := Lib.hid ((hb4.block w.heap.size (by omega)).trans hB3.out); have HB4 := Lib.hid (HB3.out.trans (hb4.mono HB3.out.size)); have z4 := hb4.size; clear hb4 p0 p1 p2 p3 p4 r0 r1 r2 r3 r4))
      go_ret
      exact ⟨rfl, (HB5.out.alloc (by omega) _).trans (hb6.mono (by simp; omega))⟩
    · have CR : Hid (∀ (v : Value) (W : World), GdAt W W.heap.size v g → Calls Tryd.prog 33 #[v] W fun e w' => e = .returned (.tuple #[.string ⟨#[]⟩, .int .i64 (checkG g)]) ∧ Below W.heap.size W w') := Lib.hid (fun v W h => Print_bad v g W.heap.size W h (Nat.le_refl _) ⟨by omega, by omega, by omega⟩ hck)
      have CQ : Hid (∀ (v : Value) (W : World), GdAt W W.heap.size v g → Calls Tryd.prog 34 #[v] W fun e w' => e = .returned (.tuple #[.string ⟨#[]⟩, .int .i64 (checkG g)]) ∧ Below W.heap.size W w') := Lib.hid (fun v W h => refPrint_bad v g W.heap.size W h (Nat.le_refl _) ⟨by omega, by omega, by omega⟩ hck)
      obtain ⟨ck, hckv⟩ : ∃ ck, checkG g = ck := ⟨_, rfl⟩
      rw [hckv] at CR CQ hck
      have t1 : (ck != 0) = true := by simp [hck]
      clear hckv hck
      go_wp2_with (first
        | (go_at_call 33; refine (CR.out _ _ HGD.out).mono ?_; rintro e w2 ⟨rfl, hb2⟩; have hq2 := Lib.hid ((hb2.block q hqz).trans HQ.out); have hB2 := Lib.hid ((hb2.block w.heap.size (by omega)).trans HKW.out); have HG2 := Lib.hid ((HGD.out.below hb2).more hb2.size); have HB2 := Lib.hid (HBW.out.trans (hb2.mono HBW.out.size)); have z2 := hb2.size; clear hb2 r0 r1 r2 r3 r4; have p0 := Lib.cell_of_heap hB2.out 0; have p1 := Lib.cell_of_heap hB2.out 1; have p2 := Lib.cell_of_heap hB2.out 2; have p3 := Lib.cell_of_heap hB2.out 3; have p4 := Lib.cell_of_heap hB2.out 4)
        | (go_at_call 34; refine (CQ.out _ _ ((HG.out.below HB2.out).more HB2.out.size)).mono ?_; rintro e w3 ⟨rfl, hb3⟩; have hq3 := Lib.hid ((hb3.block q (by omega)).trans hq2.out); have hB3 := Lib.hid ((hb3.block w.heap.size (by omega)).trans hB2.out); have HG3 := Lib.hid ((HG2.out.below hb3).more hb3.size); have HB3 := Lib.hid (HB2.out.trans (hb3.mono HB2.out.size)); have z3 := hb3.size; clear hb3 p0 p1 p2 p3 p4; have p0 := Lib.cell_of_heap hB3.out 0; have p1 := Lib.cell_of_heap hB3.out 1; have p2 := Lib.cell_of_heap hB3.out 2; have p3 := Lib.cell_of_heap hB3.out 3; have p4 := Lib.cell_of_heap hB3.out 4; have r0 := Lib.cell_of_heap hq3.out 0; have r1 := Lib.cell_of_heap hq3.out 1; have r2 := Lib.cell_of_heap hq3.out 2; have r3 := Lib.cell_of_heap hq3.out 3; have r4 := Lib.cell_of_heap hq3.out 4)
        | (go_at_call 32; refine (CS.out _ _ _ HG3.out ((HG.out.below HB3.out).more HB3.out.size)).mono ?_; rintro e w4 ⟨rfl, hb4⟩))
      go_ret
      exact ⟨rfl, HB3.out.trans (hb4.mono HB3.out.size)⟩
end Go.Proofs.YtlkabghpcjlohaaDoor
