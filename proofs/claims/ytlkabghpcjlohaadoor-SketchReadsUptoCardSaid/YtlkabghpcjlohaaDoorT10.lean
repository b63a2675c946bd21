/- Package sketch: Print. -/
import Derived.Test.YtlkabghpcjlohaaDoorT9
import Derived.Test.YtlkabghpcjlohaaDoorShelf
namespace Go.Proofs.YtlkabghpcjlohaaDoor
set_option linter.unusedVariables false
set_option linter.unusedSimpArgs false
open Go.RowKit Go.Lib

theorem cells_ascii : ∀ (l : List Nat), (∀ r ∈ l, r < 128) → byteCells (encs l) = l.map fun (r : Nat) => Value.int .u8 (r : Int)
  | [], _ => rfl
  | r :: l, h => by
    have e : encs (r :: l) = enc (r : Int) ++ encs l := by simp [encs]
    have hr := h r (List.mem_cons_self ..)
    rw [e, byteCells_append, cells_ascii l (fun x hx => h x (List.mem_cons_of_mem _ hx)), enc_ascii r hr]
    simp [byteCells]
    omega
theorem sign_cells (g : Gd) (i : Nat) (bb rb db nl : Bool) (h1 : g.B.getD i false = bb) (h2 : g.R.getD i false = rb) (h3 : g.D.getD i false = db) (h4 : decide ((i + 1) % g.W.toNat = 0) = nl) :
    byteCells (encs (signR g i)) = [.int .u8 (if bb then 35 else 46)] ++ (if rb then [.int .u8 124] else []) ++ (if db then [.int .u8 95] else []) ++ (if nl then [.int .u8 10] else []) := by
  rw [cells_ascii _ (fun r hr => by have := signR_mem g i r hr; omega)]
  unfold signR
  rw [h1, h2, h3]
  cases bb <;> cases rb <;> cases db <;> cases nl <;> simp at h4 <;> simp [h4]
theorem ret_se2 {a b : ByteArray} {c d : Int} (h1 : a = b) (h2 : c = d) : Ending.returned (.tuple #[.string a, .int .i64 c]) = Ending.returned (.tuple #[.string b, .int .i64 d]) := by rw [h1, h2]

set_option maxHeartbeats 16000000 in
set_option maxRecDepth 100000 in
theorem Print_good (v : Value) (g : Gd) (B : Nat) (w : World) (h : GdAt w B v g) (hB : B ≤ w.heap.size) (hg : OkG g) :
    Calls Tryd.prog 33 #[v] w fun e w' => e = .returned (.tuple #[.string ⟨(printL g).toArray⟩, .int .i64 0]) ∧ Below w.heap.size w w' := by
  have hck := check_of_ok hg
  obtain ⟨har, hc1, hc2, hr1, hr2⟩ := area_le hg
  have hch : ∀ W, Below w.heap.size w W → Calls Tryd.prog 55 #[v] W fun e w' => e = .returned (.int .i64 0) ∧ Below W.heap.size W w' := fun W hW => by
    have := Check_any v g B W ⟨h.h0, h.w0, by obtain ⟨b, r, d, e, s1, s2, s3⟩ := h.eq; exact ⟨b, r, d, e, s1.below (hW.mono hB), s2.below (hW.mono hB), s3.below (hW.mono hB)⟩⟩ (Nat.le_trans hB hW.size) ⟨by have := hg.b; omega, by have := hg.r; omega, by have := hg.d; omega⟩
    rw [hck] at this
    exact this
  have hb := hg.b; have hr := hg.r; have hd := hg.d; have e0 := hg.h0; have e1 := hg.w0
  obtain ⟨hh, hw, b, r, d, rfl, sb, sr, sd⟩ := h
  have hpr : printL g = encs (printR g (g.H.toNat * g.W.toNat)) := rfl
  have hps : ∀ k bb rb db nl, g.B.getD k false = bb → g.R.getD k false = rb → g.D.getD k false = db → decide ((k + 1) % g.W.toNat = 0) = nl →
      byteCells (encs (printR g (k + 1))) = byteCells (encs (printR g k)) ++ ([.int .u8 (if bb then 35 else 46)] ++ (if rb then [.int .u8 124] else []) ++ (if db then [.int .u8 95] else []) ++ (if nl then [.int .u8 10] else [])) := fun k bb rb db nl h1 h2 h3 h4 => by
    rw [printR_succ, encs_append, byteCells_append, sign_cells g k bb rb db nl h1 h2 h3 h4]
  have hpz : ∀ k, k ≤ 256 → (byteCells (encs (printR g k))).length ≤ 4096 := fun k hk => by
    have h1 := encs_length (printR g k); have h2 := printR_le g k
    simp only [byteCells, List.length_map]; omega
  obtain ⟨gH, gW, gB, gR, gD⟩ := g
  simp only at *
  obtain ⟨a, rfl⟩ : ∃ a : Nat, gH = (a : Int) := ⟨gH.toNat, by omega⟩
  obtain ⟨c, rfl⟩ : ∃ c : Nat, gW = (c : Int) := ⟨gW.toNat, by omega⟩
  simp only [Int.toNat_natCast] at *
  obtain ⟨Ab, cb, rfl, hcb, hAb⟩ := sb
  obtain ⟨Ar, cr, rfl, hcr, hAr⟩ := sr
  obtain ⟨Ad, cd, rfl, hcd, hAd⟩ := sd
  rw [List.length_map] at hcb hcr hcd hch ⊢
  have hSB : Sl w B (.slice Ab gB.length cb) (bools gB) := ⟨Ab, cb, by rw [List.length_map], by rw [List.length_map]; exact hcb, hAb⟩
  have hSR : Sl w B (.slice Ar gR.length cr) (bools gR) := ⟨Ar, cr, by rw [List.length_map], by rw [List.length_map]; exact hcr, hAr⟩
  have hSD : Sl w B (.slice Ad gD.length cd) (bools gD) := ⟨Ad, cd, by rw [List.length_map], by rw [List.length_map]; exact hcd, hAd⟩
  rw [List.length_map, List.length_map] at hch
  rw [List.length_map, List.length_map]
  rw [hb] at hSB hcb hch ⊢
  rw [hr] at hSR hcr hch ⊢
  rw [hd] at hSD hcd hch ⊢
  have hpos : 0 < a * c := Nat.mul_pos (by omega) (by omega)
  obtain ⟨b1, o1, rfl, z1⟩ := hSB.boolsAt hpos
  obtain ⟨b2, o2, rfl, z2⟩ := hSR.boolsAt hpos
  obtain ⟨b3, o3, rfl, z3⟩ := hSD.boolsAt hpos
  have lt1 : b1 < B := by obtain ⟨ad, e, hlt, _⟩ := hSB.cell (k := 0) (by rw [List.length_map, hb]; exact hpos); injection e with e; rw [← e] at hlt; exact hlt
  have lt2 : b2 < B := by obtain ⟨ad, e, hlt, _⟩ := hSR.cell (k := 0) (by rw [List.length_map, hr]; exact hpos); injection e with e; rw [← e] at hlt; exact hlt
  have lt3 : b3 < B := by obtain ⟨ad, e, hlt, _⟩ := hSD.cell (k := 0) (by rw [List.length_map, hd]; exact hpos); injection e with e; rw [← e] at hlt; exact hlt
  clear hAb hAr hAd hb hr hd
  generalize a * c = m at *
  have CH := Lib.hid hch
  have HPS := Lib.hid hps; have HPZ := Lib.hid hpz; have HPR := Lib.hid hpr
  clear hch hps hpz hpr hck hg
  have hw1 := World.alloc_heap_new w (.cells #[.int .i64 (a : Int), .int .i64 (c : Int), .slice (some ⟨b1, o1, none⟩) m cb, .slice (some ⟨b2, o2, none⟩) m cr, .slice (some ⟨b3, o3, none⟩) m cd] 45)
  have hb1 := (Below.refl w.heap.size w).alloc (Nat.le_refl _) (.cells #[.int .i64 (a : Int), .int .i64 (c : Int), .slice (some ⟨b1, o1, none⟩) m cb, .slice (some ⟨b2, o2, none⟩) m cr, .slice (some ⟨b3, o3, none⟩) m cd] 45)
  have p0 := Lib.cell_of_heap hw1 0; have p1 := Lib.cell_of_heap hw1 1; have p2 := Lib.cell_of_heap hw1 2; have p3 := Lib.cell_of_heap hw1 3; have p4 := Lib.cell_of_heap hw1 4
  have HW1 := Lib.hid hw1; have HB1 := Lib.hid hb1
  have Z1 := Lib.hid z1; have Z2 := Lib.hid z2; have Z3 := Lib.hid z3
  clear hSB hSR hSD hw1 hb1 z1 z2 z3
  go_enter Tryd.func33, Tryd.ntmps33
  go_wp2_with (go_at_call 55; refine (CH.out _ HB1.out).mono ?_; rintro e w2 ⟨rfl, hb2⟩; have hh2 := Lib.hid ((hb2.block w.heap.size (by simp)).trans HW1.out); have hz2 : w.heap.size + 1 ≤ w2.heap.size := (by have := hb2.size; simpa using this); have q2 := (((Below.refl w2.heap.size w2).alloc (Nat.le_refl _) (.cells #[.pointer none, .slice none 0 0] 66)).cell (p := ⟨w.heap.size, 2, none⟩) (by simp only; omega)).trans (Lib.cell_of_heap hh2.out 2))
  obtain ⟨P, hP⟩ : ∃ P, P = w2.heap.size := ⟨_, rfl⟩
  have hbd0 := IsBuilderF.of (fresh_isBuilder 66 5 w2)
  have hbw0 := (Below.refl w2.heap.size w2).alloc (Nat.le_refl _) (.cells #[.pointer none, .slice none 0 0] 66)
  have hE2 : Below w.heap.size w w2 := HB1.out.trans (hb2.mono (by simp))
  have HE2 := Lib.hid hE2; clear hE2
  have HF : Hid (∀ W : World, Below P w2 W → W.cell? ⟨w.heap.size, 1, none⟩ = some (.int .i64 (c : Int)) ∧ W.cell? ⟨w.heap.size, 3, none⟩ = some (.slice (some ⟨b2, o2, none⟩) m cr) ∧ W.cell? ⟨w.heap.size, 4, none⟩ = some (.slice (some ⟨b3, o3, none⟩) m cd) ∧
      ∀ k, k < m → W.cell? ⟨b1, o1 + k, none⟩ = some (.bool (gB.getD k false)) ∧ W.cell? ⟨b2, o2 + k, none⟩ = some (.bool (gR.getD k false)) ∧ W.cell? ⟨b3, o3 + k, none⟩ = some (.bool (gD.getD k false))) := Lib.hid (fun W hW => by
    have q1 := Lib.cell_of_heap hh2.out 1; have q3 := Lib.cell_of_heap hh2.out 3; have q4 := Lib.cell_of_heap hh2.out 4
    refine ⟨(hW.cell (p := ⟨w.heap.size, 1, none⟩) (by simp only; omega)).trans q1, (hW.cell (p := ⟨w.heap.size, 3, none⟩) (by simp only; omega)).trans q3, (hW.cell (p := ⟨w.heap.size, 4, none⟩) (by simp only; omega)).trans q4, fun k hk => ⟨?_, ?_, ?_⟩⟩
    · exact ((hW.cell (p := ⟨b1, o1 + k, none⟩) (by simp only; omega)).trans (HE2.out.cell (p := ⟨b1, o1 + k, none⟩) (by simp only; omega))).trans (Z1.out k hk)
    · exact ((hW.cell (p := ⟨b2, o2 + k, none⟩) (by simp only; omega)).trans (HE2.out.cell (p := ⟨b2, o2 + k, none⟩) (by simp only; omega))).trans (Z2.out k hk)
    · exact ((hW.cell (p := ⟨b3, o3 + k, none⟩) (by simp only; omega)).trans (HE2.out.cell (p := ⟨b3, o3 + k, none⟩) (by simp only; omega))).trans (Z3.out k hk))
  have CW : Hid (∀ (bs : List Value) (c : Int) (W : World), IsBuilderF 66 5 P P bs W → bs.length ≤ 100000 → P ≤ W.heap.size → Calls Tryd.prog 60 #[.pointer (some ⟨P, 0, none⟩), .int .u8 c] W fun e w' => e = .returned .nilIface ∧ IsBuilderF 66 5 P P (bs ++ [.int .u8 c]) w' ∧ Below P W w') :=
    Lib.hid (fun bs c W hW hl hs => (b_byte P P bs c W hW (by omega) hs).mono fun e w' ⟨h1, h2, h3, _⟩ => ⟨h1, .inr h2, h3⟩)
  rw [← hP] at hbd0 hbw0 ⊢
  have hP9 : w.heap.size + 1 ≤ P := by omega
  have HPP := Lib.hid hP
  have hPs : P ≤ w2.heap.size := by omega
  clear hP hh2 q2 lt1 lt2 lt3
  have HH2 := Lib.hid hb2; clear hb2
  go_loopg [6, 7, 8, 17] m (fun gf _ _ _ u17 wr => ∃ k : Nat, u17 = .int .i64 k ∧ k ≤ m ∧ m ≤ k + gf ∧ IsBuilderF 66 5 P P (byteCells (encs (printR ⟨(a : Int), (c : Int), gB, gR, gD⟩ k))) wr ∧ Below P w2 wr)
  case atStart => exact ⟨0, rfl, Nat.zero_le _, by omega, hbd0, hbw0⟩
  case round =>
    rename World => w5
    clear hbd0 hbw0
    obtain ⟨k, rfl, hk, hfu, hbd, hbw⟩ := hrel
    have hsz := hbw.size
    by_cases hlt : k < m
    · obtain ⟨g', rfl⟩ : ∃ g', gk = g' + 1 := ⟨gk - 1, by omega⟩
      have hps := HPS.out k
      have hpz := HPZ.out k (by omega)
      have hdec : decide ((k + 1) % c = 0) = ((((k + 1) % c : Nat) : Int) == 0) := by rw [Bool.eq_iff_iff, decide_eq_true_eq, beq_iff_eq]; omega
      have hfk : ∀ W : World, Below P w2 W → _ := fun W hW => ((HF.out W hW).2.2.2 k hlt)
      obtain ⟨g1, _, _⟩ := hfk _ hbw
      obtain ⟨bs, hbs⟩ : ∃ bs, byteCells (encs (printR ⟨(a : Int), (c : Int), gB, gR, gD⟩ k)) = bs := ⟨_, rfl⟩
      rw [hbs] at hps hpz hbd
      have k3 : ((k : Int) + 1).tmod (c : Int) = (((k + 1) % c : Nat) : Int) := rfl
      have c0 : ¬ (c : Int) = 0 := by omega
      have i1 : (0 : Int) ≤ (k : Int) := by omega
      have i2 : (k : Int) < (m : Int) := by omega
      have hml := Nat.mod_lt (k + 1) (show 0 < c by omega)
      rw [hdec] at hps
      have PS := Lib.hid hps; have FK := Lib.hid hfk
      clear hps hfk hdec hbs
      generalize gB.getD k false = bb at *
      generalize gR.getD k false = rb at *
      generalize gD.getD k false = db at *
      generalize (k + 1) % c = q at *
      cases hnl : ((q : Int) == 0) with
      | true =>
        have HNL := Lib.hid hnl
        cases bb <;> cases rb <;> cases db
        all_goals
          go_wp2_with (go_at_call 60; refine (CW.out _ _ _ (by assumption) (by (try simp only [List.length_append, List.length_singleton]); omega) (by omega)).mono ?_; rintro e w6 ⟨rfl, hbd, hb9⟩; have hbw := hbw.trans hb9; have hsz := hbw.size; obtain ⟨q1, q3, q4, q9⟩ := HF.out _ hbw; clear q9; obtain ⟨_, g2, g3⟩ := FK.out _ hbw)
          go_roundg g'
          case measure => omega
          case rel => exact ⟨k + 1, by go_num, by omega, by omega, by rw [PS.out _ _ _ _ rfl rfl rfl HNL.out]; simpa using hbd, hbw⟩
      | false =>
        have HNL := Lib.hid hnl
        cases bb <;> cases rb <;> cases db
        all_goals
          go_wp2_with (go_at_call 60; refine (CW.out _ _ _ (by assumption) (by (try simp only [List.length_append, List.length_singleton]); omega) (by omega)).mono ?_; rintro e w6 ⟨rfl, hbd, hb9⟩; have hbw := hbw.trans hb9; have hsz := hbw.size; obtain ⟨q1, q3, q4, q9⟩ := HF.out _ hbw; clear q9; obtain ⟨_, g2, g3⟩ := FK.out _ hbw)
          go_roundg g'
          case measure => omega
          case rel => exact ⟨k + 1, by go_num, by omega, by omega, by rw [PS.out _ _ _ _ rfl rfl rfl HNL.out]; simpa using hbd, hbw⟩
    · obtain rfl : m = k := by omega
      have cS := fun W (hW : IsBuilderF 66 5 P P (byteCells (encs (printR ⟨(a : Int), (c : Int), gB, gR, gD⟩ m))) W) (hs : P ≤ W.heap.size) => Tryd.Builder_String_any_f P P _ W hW hs
      have CS := Lib.hid cS; clear cS
      go_wp2_with (go_at_call 48; refine (CS.out _ hbd (by omega)).mono ?_; rintro e w6 ⟨rfl, _, hb9⟩)
      go_ret2
      exact ⟨ret_se2 (by rw [HPR.out]) rfl, HE2.out.trans ((hbw.trans hb9).mono (by omega))⟩
end Go.Proofs.YtlkabghpcjlohaaDoor
