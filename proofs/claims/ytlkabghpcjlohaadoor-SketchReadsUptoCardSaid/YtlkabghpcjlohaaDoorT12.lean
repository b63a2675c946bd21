/- The reference's Print. -/
import Derived.Test.YtlkabghpcjlohaaDoorLawSketchCanon
namespace Go.Proofs.YtlkabghpcjlohaaDoor
set_option linter.unusedVariables false
set_option linter.unusedSimpArgs false
open Go.RowKit Go.Lib

theorem rp_app (a b : List UInt8) : (⟨a.toArray⟩ : ByteArray) ++ ⟨b.toArray⟩ = (⟨(a ++ b).toArray⟩ : ByteArray) := by apply bl_inj; simp [bl]
theorem rp_sz (l : List UInt8) : (⟨l.toArray⟩ : ByteArray).size = l.length := by rw [← bl_length]
theorem encs_ascii : ∀ (l : List Nat), (∀ r ∈ l, r < 128) → encs l = l.map UInt8.ofNat
  | [], _ => rfl
  | r :: l, h => by
    have e : encs (r :: l) = enc (r : Int) ++ encs l := by simp [encs]
    rw [e, enc_ascii r (h r (List.mem_cons_self ..)), encs_ascii l (fun x hx => h x (List.mem_cons_of_mem _ hx))]
    rfl
theorem sign_encs (g : Gd) (i : Nat) (bb rb db nl : Bool) (h1 : g.B.getD i false = bb) (h2 : g.R.getD i false = rb) (h3 : g.D.getD i false = db) (h4 : decide ((i + 1) % g.W.toNat = 0) = nl) :
    encs (signR g i) = [if bb then 35 else 46] ++ (if rb then [124] else []) ++ (if db then [95] else []) ++ (if nl then [10] else []) := by
  rw [encs_ascii _ (fun r hr => by have := signR_mem g i r hr; omega)]
  unfold signR
  rw [h1, h2, h3]
  cases bb <;> cases rb <;> cases db <;> cases nl <;> simp at h4 <;> simp [h4]

set_option maxHeartbeats 16000000 in
set_option maxRecDepth 100000 in
theorem refPrint_good (v : Value) (g : Gd) (B : Nat) (w : World) (h : GdAt w B v g) (hB : B ≤ w.heap.size) (hg : OkG g) :
    Calls Tryd.prog 34 #[v] w fun e w' => e = .returned (.tuple #[.string ⟨(printL g).toArray⟩, .int .i64 0]) ∧ Below w.heap.size w w' := by
  have hck := check_of_ok hg
  obtain ⟨har, hc1, hc2, hr1, hr2⟩ := area_le hg
  have hch : ∀ W, Below w.heap.size w W → Calls Tryd.prog 58 #[v] W fun e w' => e = .returned (.int .i64 0) ∧ Below W.heap.size W w' := fun W hW => by
    have := refCheck_any v g B W ⟨h.h0, h.w0, by obtain ⟨b, r, d, e, s1, s2, s3⟩ := h.eq; exact ⟨b, r, d, e, s1.below (hW.mono hB), s2.below (hW.mono hB), s3.below (hW.mono hB)⟩⟩ (Nat.le_trans hB hW.size) ⟨by have := hg.b; omega, by have := hg.r; omega, by have := hg.d; omega⟩
    rw [hck] at this
    exact this
  have hb := hg.b; have hr := hg.r; have hd := hg.d; have e0 := hg.h0; have e1 := hg.w0
  obtain ⟨hh, hw, b, r, d, rfl, sb, sr, sd⟩ := h
  have hpr : printL g = encs (printR g (g.H.toNat * g.W.toNat)) := rfl
  have hps : ∀ k bb rb db nl, g.B.getD k false = bb → g.R.getD k false = rb → g.D.getD k false = db → decide ((k + 1) % g.W.toNat = 0) = nl →
      encs (printR g (k + 1)) = encs (printR g k) ++ ([if bb then 35 else 46] ++ (if rb then [124] else []) ++ (if db then [95] else []) ++ (if nl then [10] else [])) := fun k bb rb db nl h1 h2 h3 h4 => by
    rw [printR_succ, encs_append, sign_encs g k bb rb db nl h1 h2 h3 h4]
  have hpz : ∀ k, k ≤ 256 → (encs (printR g k)).length ≤ 4096 := fun k hk => by
    have h1 := encs_length (printR g k); have h2 := printR_le g k
    omega
  obtain ⟨gH, gW, gB, gR, gD⟩ := g
  simp only at *
  obtain ⟨a, rfl⟩ : ∃ a : Nat, gH = (a : Int) := ⟨gH.toNat, by omega⟩
  obtain ⟨c, rfl⟩ : ∃ c : Nat, gW = (c : Int) := ⟨gW.toNat, by omega⟩
  simp only [Int.toNat_natCast] at *
  obtain ⟨Ab, cb, rfl, hcb, hAb⟩ := sb
  obtain ⟨Ar, cr, rfl, hcr, hAr⟩ := sr
  obtain ⟨Ad, cd, rfl, hcd, hAd⟩ := sd
  rw [List.length_map] at hcb hcr hcd hch ⊢
  have hSB : Sl w B (.slice Ab gB.length cb) (bools gB) := ⟨Ab, cb, by rw [List.length_map], by rw [List.length_map]; exact hcb, hAb⟩
  have hSR : Sl w B (.slice Ar gR.length cr) (bools gR) := ⟨Ar, cr, by rw [List.length_map], by rw [List.length_map]; exact hcr, hAr⟩
  have hSD : Sl w B (.slice Ad gD.length cd) (bools gD) := ⟨Ad, cd, by rw [List.length_map], by rw [List.length_map]; exact hcd, hAd⟩
  rw [List.length_map, List.length_map] at hch
  rw [List.length_map, List.length_map]
  rw [hb] at hSB hcb hch ⊢
  rw [hr] at hSR hcr hch ⊢
  rw [hd] at hSD hcd hch ⊢
  have hpos : 0 < a * c := Nat.mul_pos (by omega) (by omega)
  have kw : (a : Int) * (c : Int) = ((a * c : Nat) : Int) := by push_cast; rfl
  obtain ⟨b1, o1, rfl, z1⟩ := hSB.boolsAt hpos
  obtain ⟨b2, o2, rfl, z2⟩ := hSR.boolsAt hpos
  obtain ⟨b3, o3, rfl, z3⟩ := hSD.boolsAt hpos
  have lt1 : b1 < B := by obtain ⟨ad, e, hlt, _⟩ := hSB.cell (k := 0) (by rw [List.length_map, hb]; exact hpos); injection e with e; rw [← e] at hlt; exact hlt
  have lt2 : b2 < B := by obtain ⟨ad, e, hlt, _⟩ := hSR.cell (k := 0) (by rw [List.length_map, hr]; exact hpos); injection e with e; rw [← e] at hlt; exact hlt
  have lt3 : b3 < B := by obtain ⟨ad, e, hlt, _⟩ := hSD.cell (k := 0) (by rw [List.length_map, hd]; exact hpos); injection e with e; rw [← e] at hlt; exact hlt
  clear hAb hAr hAd hb hr hd
  generalize a * c = m at *
  have CH := Lib.hid hch
  have HPS := Lib.hid hps; have HPZ := Lib.hid hpz; have HPR := Lib.hid hpr
  clear hch hps hpz hpr hck hg
  have hw1 := World.alloc_heap_new w (.cells #[.int .i64 (a : Int), .int .i64 (c : Int), .slice (some ⟨b1, o1, none⟩) m cb, .slice (some ⟨b2, o2, none⟩) m cr, .slice (some ⟨b3, o3, none⟩) m cd] 45)
  have hb1 := (Below.refl w.heap.size w).alloc (Nat.le_refl _) (.cells #[.int .i64 (a : Int), .int .i64 (c : Int), .slice (some ⟨b1, o1, none⟩) m cb, .slice (some ⟨b2, o2, none⟩) m cr, .slice (some ⟨b3, o3, none⟩) m cd] 45)
  have p0 := Lib.cell_of_heap hw1 0; have p1 := Lib.cell_of_heap hw1 1; have p2 := Lib.cell_of_heap hw1 2; have p3 := Lib.cell_of_heap hw1 3; have p4 := Lib.cell_of_heap hw1 4
  have HW1 := Lib.hid hw1; have HB1 := Lib.hid hb1
  have Z1 := Lib.hid z1; have Z2 := Lib.hid z2; have Z3 := Lib.hid z3
  clear hSB hSR hSD hw1 hb1 z1 z2 z3
  go_enter Tryd.func34, Tryd.ntmps34
  go_wp2_with (go_at_call 58; refine (CH.out _ HB1.out).mono ?_; rintro e w2 ⟨rfl, hb2⟩; have hh2 := Lib.hid ((hb2.block w.heap.size (by simp)).trans HW1.out); clear p0 p1 p2 p3 p4)
  have hE2 : Below w.heap.size w w2 := HB1.out.trans (hb2.mono (by simp))
  have HE2 := Lib.hid hE2; clear hE2 hb2
  have FK : Hid (∀ k, k < m → w2.cell? ⟨b1, o1 + k, none⟩ = some (.bool (gB.getD k false)) ∧ w2.cell? ⟨b2, o2 + k, none⟩ = some (.bool (gR.getD k false)) ∧ w2.cell? ⟨b3, o3 + k, none⟩ = some (.bool (gD.getD k false))) := Lib.hid (fun k hk =>
    ⟨(HE2.out.cell (p := ⟨b1, o1 + k, none⟩) (by simp only; omega)).trans (Z1.out k hk), (HE2.out.cell (p := ⟨b2, o2 + k, none⟩) (by simp only; omega)).trans (Z2.out k hk), (HE2.out.cell (p := ⟨b3, o3 + k, none⟩) (by simp only; omega)).trans (Z3.out k hk)⟩)
  go_loopg [5, 6] m (fun gf u5 u6 wr => ∃ (k : Nat) (X : ByteArray), u6 = .int .i64 k ∧ k ≤ m ∧ m ≤ k + gf ∧ u5 = .string X ∧ Hid (X = ⟨(encs (printR ⟨(a : Int), (c : Int), gB, gR, gD⟩ k)).toArray⟩) ∧ Hid (∃ q, wr = w2.drewN q))
  case atStart => exact ⟨0, ⟨#[]⟩, rfl, Nat.zero_le _, by omega, rfl, Lib.hid rfl, Lib.hid ⟨0, rfl⟩⟩
  case round =>
    rename World => w5
    obtain ⟨k, X, rfl, hk, hfu, rfl, HX, HQ⟩ := hrel
    have hc5 : ∀ p, w5.cell? p = w2.cell? p := by obtain ⟨q, rfl⟩ := HQ; intro p; rfl
    have d0 := (hc5 _).trans (Lib.cell_of_heap hh2.out 0); have d1 := (hc5 _).trans (Lib.cell_of_heap hh2.out 1); have d2 := (hc5 _).trans (Lib.cell_of_heap hh2.out 2); have d3 := (hc5 _).trans (Lib.cell_of_heap hh2.out 3); have d4 := (hc5 _).trans (Lib.cell_of_heap hh2.out 4)
    by_cases hlt : k < m
    · obtain ⟨g', rfl⟩ : ∃ g', gk = g' + 1 := ⟨gk - 1, by omega⟩
      obtain ⟨g1, g2, g3⟩ := FK.out k hlt
      have e1 := (hc5 _).trans g1; have e2 := (hc5 _).trans g2; have e3 := (hc5 _).trans g3
      clear g1 g2 g3 hc5
      have hps := HPS.out k
      have hxz : X.size ≤ 4096 := by rw [HX.out, rp_sz]; exact HPZ.out k (by omega)
      have i0 : (0 : Int) ≤ (k : Int) := by omega
      have i1 : (k : Int) < (m : Int) := by omega
      have c0 : ¬ (c : Int) = 0 := by omega
      have k3 : (k : Int).tmod (c : Int) = ((k % c : Nat) : Int) := rfl
      have hml := Nat.mod_lt k (show 0 < c by omega)
      have E1 : (((k % c : Nat) : Int) == (c : Int) - 1) = decide ((k + 1) % c = 0) := by
        rw [Bool.eq_iff_iff, beq_iff_eq, decide_eq_true_eq]
        rcases divmod_succ k c (by omega) with ⟨e1, e2, _⟩ | ⟨e1, e2, _⟩ <;> omega
      have PS := Lib.hid hps
      have HQ2 : Hid (∀ n, Hid (∃ q, w5.drewN n = w2.drewN q)) := Lib.hid (fun n => by obtain ⟨q, hq⟩ := HQ; exact Lib.hid ⟨q + n, by rw [hq, World.drewN_drewN]⟩)
      clear hps HQ
      generalize gB.getD k false = bb at *
      generalize gR.getD k false = rb at *
      generalize gD.getD k false = db at *
      generalize decide ((k + 1) % c = 0) = nl at *
      generalize k % c = q at *
      cases bb <;> cases rb <;> cases db <;> cases nl
      · have hE : X ++ ⟨#[46]⟩ = (⟨(encs (printR ⟨(a : Int), (c : Int), gB, gR, gD⟩ (k + 1))).toArray⟩ : ByteArray) := by
          rw [HX.out, PS.out false false false false rfl rfl rfl rfl, show (⟨#[46]⟩ : ByteArray) = ⟨([46] : List UInt8).toArray⟩ from rfl, rp_app]
          simp
        have HE := Lib.hid hE; clear hE PS
        go_wp2; go_quiet (fail); go_wp2
        go_roundg g'
        case measure => omega
        case rel => exact ⟨k + 1, _, by go_num, by omega, by omega, rfl, HE, HQ2.out _⟩
      · have hE : X ++ ⟨#[46]⟩ ++ ⟨#[10]⟩ = (⟨(encs (printR ⟨(a : Int), (c : Int), gB, gR, gD⟩ (k + 1))).toArray⟩ : ByteArray) := by
          rw [HX.out, PS.out false false false true rfl rfl rfl rfl, show (⟨#[46]⟩ : ByteArray) = ⟨([46] : List UInt8).toArray⟩ from rfl, show (⟨#[10]⟩ : ByteArray) = ⟨([10] : List UInt8).toArray⟩ from rfl, rp_app, rp_app]
          simp
        have HE := Lib.hid hE; clear hE PS
        go_wp2; go_quiet (fail); go_wp2
        go_roundg g'
        case measure => omega
        case rel => exact ⟨k + 1, _, by go_num, by omega, by omega, rfl, HE, HQ2.out _⟩
      · have hE : X ++ ⟨#[46]⟩ ++ ⟨#[95]⟩ = (⟨(encs (printR ⟨(a : Int), (c : Int), gB, gR, gD⟩ (k + 1))).toArray⟩ : ByteArray) := by
          rw [HX.out, PS.out false false true false rfl rfl rfl rfl, show (⟨#[46]⟩ : ByteArray) = ⟨([46] : List UInt8).toArray⟩ from rfl, show (⟨#[95]⟩ : ByteArray) = ⟨([95] : List UInt8).toArray⟩ from rfl, rp_app, rp_app]
          simp
        have HE := Lib.hid hE; clear hE PS
        go_wp2; go_quiet (fail); go_wp2
        go_roundg g'
        case measure => omega
        case rel => exact ⟨k + 1, _, by go_num, by omega, by omega, rfl, HE, HQ2.out _⟩
      · have hE : X ++ ⟨#[46]⟩ ++ ⟨#[95]⟩ ++ ⟨#[10]⟩ = (⟨(encs (printR ⟨(a : Int), (c : Int), gB, gR, gD⟩ (k + 1))).toArray⟩ : ByteArray) := by
          rw [HX.out, PS.out false false true true rfl rfl rfl rfl, show (⟨#[46]⟩ : ByteArray) = ⟨([46] : List UInt8).toArray⟩ from rfl, show (⟨#[95]⟩ : ByteArray) = ⟨([95] : List UInt8).toArray⟩ from rfl, show (⟨#[10]⟩ : ByteArray) = ⟨([10] : List UInt8).toArray⟩ from rfl, rp_app, rp_app, rp_app]
          simp
        have HE := Lib.hid hE; clear hE PS
        go_wp2; go_quiet (fail); go_wp2
        go_roundg g'
        case measure => omega
        case rel => exact ⟨k + 1, _, by go_num, by omega, by omega, rfl, HE, HQ2.out _⟩
      · have hE : X ++ ⟨#[46]⟩ ++ ⟨#[124]⟩ = (⟨(encs (printR ⟨(a : Int), (c : Int), gB, gR, gD⟩ (k + 1))).toArray⟩ : ByteArray) := by
          rw [HX.out, PS.out false true false false rfl rfl rfl rfl, show (⟨#[46]⟩ : ByteArray) = ⟨([46] : List UInt8).toArray⟩ from rfl, show (⟨#[124]⟩ : ByteArray) = ⟨([124] : List UInt8).toArray⟩ from rfl, rp_app, rp_app]
          simp
        have HE := Lib.hid hE; clear hE PS
        go_wp2; go_quiet (fail); go_wp2
        go_roundg g'
        case measure => omega
        case rel => exact ⟨k + 1, _, by go_num, by omega, by omega, rfl, HE, HQ2.out _⟩
      · have hE : X ++ ⟨#[46]⟩ ++ ⟨#[124]⟩ ++ ⟨#[10]⟩ = (⟨(encs (printR ⟨(a : Int), (c : Int), gB, gR, gD⟩ (k + 1))).toArray⟩ : ByteArray) := by
          rw [HX.out, PS.out false true false true rfl rfl rfl rfl, show (⟨#[46]⟩ : ByteArray) = ⟨([46] : List UInt8).toArray⟩ from rfl, show (⟨#[124]⟩ : ByteArray) = ⟨([124] : List UInt8).toArray⟩ from rfl, show (⟨#[10]⟩ : ByteArray) = ⟨([10] : List UInt8).toArray⟩ from rfl, rp_app, rp_app, rp_app]
          simp
        have HE := Lib.hid hE; clear hE PS
        go_wp2; go_quiet (fail); go_wp2
        go_roundg g'
        case measure => omega
        case rel => exact ⟨k + 1, _, by go_num, by omega, by omega, rfl, HE, HQ2.out _⟩
      · have hE : X ++ ⟨#[46]⟩ ++ ⟨#[124]⟩ ++ ⟨#[95]⟩ = (⟨(encs (printR ⟨(a : Int), (c : Int), gB, gR, gD⟩ (k + 1))).toArray⟩ : ByteArray) := by
          rw [HX.out, PS.out false true true false rfl rfl rfl rfl, show (⟨#[46]⟩ : ByteArray) = ⟨([46] : List UInt8).toArray⟩ from rfl, show (⟨#[124]⟩ : ByteArray) = ⟨([124] : List UInt8).toArray⟩ from rfl, show (⟨#[95]⟩ : ByteArray) = ⟨([95] : List UInt8).toArray⟩ from rfl, rp_app, rp_app, rp_app]
          simp
        have HE := Lib.hid hE; clear hE PS
        go_wp2; go_quiet (fail); go_wp2
        go_roundg g'
        case measure => omega
        case rel => exact ⟨k + 1, _, by go_num, by omega, by omega, rfl, HE, HQ2.out _⟩
      · have hE : X ++ ⟨#[46]⟩ ++ ⟨#[124]⟩ ++ ⟨#[95]⟩ ++ ⟨#[10]⟩ = (⟨(encs (printR ⟨(a : Int), (c : Int), gB, gR, gD⟩ (k + 1))).toArray⟩ : ByteArray) := by
          rw [HX.out, PS.out false true true true rfl rfl rfl rfl, show (⟨#[46]⟩ : ByteArray) = ⟨([46] : List UInt8).toArray⟩ from rfl, show (⟨#[124]⟩ : ByteArray) = ⟨([124] : List UInt8).toArray⟩ from rfl, show (⟨#[95]⟩ : ByteArray) = ⟨([95] : List UInt8).toArray⟩ from rfl, show (⟨#[10]⟩ : ByteArray) = ⟨([10] : List UInt8).toArray⟩ from rfl, rp_app, rp_app, rp_app, rp_app]
          simp
        have HE := Lib.hid hE; clear hE PS
        go_wp2; go_quiet (fail); go_wp2
        go_roundg g'
        case measure => omega
        case rel => exact ⟨k + 1, _, by go_num, by omega, by omega, rfl, HE, HQ2.out _⟩
      · have hE : X ++ ⟨#[35]⟩ = (⟨(encs (printR ⟨(a : Int), (c : Int), gB, gR, gD⟩ (k + 1))).toArray⟩ : ByteArray) := by
          rw [HX.out, PS.out true false false false rfl rfl rfl rfl, show (⟨#[35]⟩ : ByteArray) = ⟨([35] : List UInt8).toArray⟩ from rfl, rp_app]
          simp
        have HE := Lib.hid hE; clear hE PS
        go_wp2; go_quiet (fail); go_wp2
        go_roundg g'
        case measure => omega
        case rel => exact ⟨k + 1, _, by go_num, by omega, by omega, rfl, HE, HQ2.out _⟩
      · have hE : X ++ ⟨#[35]⟩ ++ ⟨#[10]⟩ = (⟨(encs (printR ⟨(a : Int), (c : Int), gB, gR, gD⟩ (k + 1))).toArray⟩ : ByteArray) := by
          rw [HX.out, PS.out true false false true rfl rfl rfl rfl, show (⟨#[35]⟩ : ByteArray) = ⟨([35] : List UInt8).toArray⟩ from rfl, show (⟨#[10]⟩ : ByteArray) = ⟨([10] : List UInt8).toArray⟩ from rfl, rp_app, rp_app]
          simp
        have HE := Lib.hid hE; clear hE PS
        go_wp2; go_quiet (fail); go_wp2
        go_roundg g'
        case measure => omega
        case rel => exact ⟨k + 1, _, by go_num, by omega, by omega, rfl, HE, HQ2.out _⟩
      · have hE : X ++ ⟨#[35]⟩ ++ ⟨#[95]⟩ = (⟨(encs (printR ⟨(a : Int), (c : Int), gB, gR, gD⟩ (k + 1))).toArray⟩ : ByteArray) := by
          rw [HX.out, PS.out true false true false rfl rfl rfl rfl, show (⟨#[35]⟩ : ByteArray) = ⟨([35] : List UInt8).toArray⟩ from rfl, show (⟨#[95]⟩ : ByteArray) = ⟨([95] : List UInt8).toArray⟩ from rfl, rp_app, rp_app]
          simp
        have HE := Lib.hid hE; clear hE PS
        go_wp2; go_quiet (fail); go_wp2
        go_roundg g'
        case measure => omega
        case rel => exact ⟨k + 1, _, by go_num, by omega, by omega, rfl, HE, HQ2.out _⟩
      · have hE : X ++ ⟨#[35]⟩ ++ ⟨#[95]⟩ ++ ⟨#[10]⟩ = (⟨(encs (printR ⟨(a : Int), (c : Int), gB, gR, gD⟩ (k + 1))).toArray⟩ : ByteArray) := by
          rw [HX.out, PS.out true false true true rfl rfl rfl rfl, show (⟨#[35]⟩ : ByteArray) = ⟨([35] : List UInt8).toArray⟩ from rfl, show (⟨#[95]⟩ : ByteArray) = ⟨([95] : List UInt8).toArray⟩ from rfl, show (⟨#[10]⟩ : ByteArray) = ⟨([10] : List UInt8).toArray⟩ from rfl, rp_app, rp_app, rp_app]
          simp
        have HE := Lib.hid hE; clear hE PS
        go_wp2; go_quiet (fail); go_wp2
        go_roundg g'
        case measure => omega
        case rel => exact ⟨k + 1, _, by go_num, by omega, by omega, rfl, HE, HQ2.out _⟩
      · have hE : X ++ ⟨#[35]⟩ ++ ⟨#[124]⟩ = (⟨(encs (printR ⟨(a : Int), (c : Int), gB, gR, gD⟩ (k + 1))).toArray⟩ : ByteArray) := by
          rw [HX.out, PS.out true true false false rfl rfl rfl rfl, show (⟨#[35]⟩ : ByteArray) = ⟨([35] : List UInt8).toArray⟩ from rfl, show (⟨#[124]⟩ : ByteArray) = ⟨([124] : List UInt8).toArray⟩ from rfl, rp_app, rp_app]
          simp
        have HE := Lib.hid hE; clear hE PS
        go_wp2; go_quiet (fail); go_wp2
        go_roundg g'
        case measure => omega
        case rel => exact ⟨k + 1, _, by go_num, by omega, by omega, rfl, HE, HQ2.out _⟩
      · have hE : X ++ ⟨#[35]⟩ ++ ⟨#[124]⟩ ++ ⟨#[10]⟩ = (⟨(encs (printR ⟨(a : Int), (c : Int), gB, gR, gD⟩ (k + 1))).toArray⟩ : ByteArray) := by
          rw [HX.out, PS.out true true false true rfl rfl rfl rfl, show (⟨#[35]⟩ : ByteArray) = ⟨([35] : List UInt8).toArray⟩ from rfl, show (⟨#[124]⟩ : ByteArray) = ⟨([124] : List UInt8).toArray⟩ from rfl, show (⟨#[10]⟩ : ByteArray) = ⟨([10] : List UInt8).toArray⟩ from rfl, rp_app, rp_app, rp_app]
          simp
        have HE := Lib.hid hE; clear hE PS
        go_wp2; go_quiet (fail); go_wp2
        go_roundg g'
        case measure => omega
        case rel => exact ⟨k + 1, _, by go_num, by omega, by omega, rfl, HE, HQ2.out _⟩
      · have hE : X ++ ⟨#[35]⟩ ++ ⟨#[124]⟩ ++ ⟨#[95]⟩ = (⟨(encs (printR ⟨(a : Int), (c : Int), gB, gR, gD⟩ (k + 1))).toArray⟩ : ByteArray) := by
          rw [HX.out, PS.out true true true false rfl rfl rfl rfl, show (⟨#[35]⟩ : ByteArray) = ⟨([35] : List UInt8).toArray⟩ from rfl, show (⟨#[124]⟩ : ByteArray) = ⟨([124] : List UInt8).toArray⟩ from rfl, show (⟨#[95]⟩ : ByteArray) = ⟨([95] : List UInt8).toArray⟩ from rfl, rp_app, rp_app, rp_app]
          simp
        have HE := Lib.hid hE; clear hE PS
        go_wp2; go_quiet (fail); go_wp2
        go_roundg g'
        case measure => omega
        case rel => exact ⟨k + 1, _, by go_num, by omega, by omega, rfl, HE, HQ2.out _⟩
      · have hE : X ++ ⟨#[35]⟩ ++ ⟨#[124]⟩ ++ ⟨#[95]⟩ ++ ⟨#[10]⟩ = (⟨(encs (printR ⟨(a : Int), (c : Int), gB, gR, gD⟩ (k + 1))).toArray⟩ : ByteArray) := by
          rw [HX.out, PS.out true true true true rfl rfl rfl rfl, show (⟨#[35]⟩ : ByteArray) = ⟨([35] : List UInt8).toArray⟩ from rfl, show (⟨#[124]⟩ : ByteArray) = ⟨([124] : List UInt8).toArray⟩ from rfl, show (⟨#[95]⟩ : ByteArray) = ⟨([95] : List UInt8).toArray⟩ from rfl, show (⟨#[10]⟩ : ByteArray) = ⟨([10] : List UInt8).toArray⟩ from rfl, rp_app, rp_app, rp_app, rp_app]
          simp
        have HE := Lib.hid hE; clear hE PS
        go_wp2; go_quiet (fail); go_wp2
        go_roundg g'
        case measure => omega
        case rel => exact ⟨k + 1, _, by go_num, by omega, by omega, rfl, HE, HQ2.out _⟩
    · obtain rfl : m = k := by omega
      have hE : X = (⟨(printL ⟨(a : Int), (c : Int), gB, gR, gD⟩).toArray⟩ : ByteArray) := by rw [HX.out, HPR.out]
      have HE := Lib.hid hE
      have HBB : Hid (Below w.heap.size w w5) := by obtain ⟨q, rfl⟩ := HQ; exact Lib.hid (bdraw HE2.out q)
      clear hE hc5
      go_wp2
      go_ret2
      exact ⟨ret_se2 HE.out rfl, HBB.out⟩
set_option maxHeartbeats 4000000 in
set_option maxRecDepth 100000 in
theorem refPrint_bad (v : Value) (g : Gd) (B : Nat) (w : World) (h : GdAt w B v g) (hB : B ≤ w.heap.size) (hl : g.B.length ≤ 17592186044416 ∧ g.R.length ≤ 17592186044416 ∧ g.D.length ≤ 17592186044416) (hc : checkG g ≠ 0) :
    Calls Tryd.prog 34 #[v] w fun e w' => e = .returned (.tuple #[.string ⟨#[]⟩, .int .i64 (checkG g)]) ∧ Below w.heap.size w w' := by
  obtain ⟨Ab, Ar, Ad, cb, cr, cd, rfl⟩ := h.form
  unfold gdV at h ⊢
  have hb1 := (Below.refl w.heap.size w).alloc (Nat.le_refl _) (.cells #[.int .i64 g.H, .int .i64 g.W, .slice Ab g.B.length cb, .slice Ar g.R.length cr, .slice Ad g.D.length cd] 45)
  have C := Lib.hid (refCheck_any _ g B _ (h.below (hb1.mono hB)) (by simp; omega) hl)
  obtain ⟨ck, hck⟩ : ∃ ck, checkG g = ck := ⟨_, rfl⟩
  rw [hck] at C hc ⊢
  have t1 : (ck != 0) = true := by simp [hc]
  have HB1 := Lib.hid hb1
  clear h hck hc hb1 hl
  generalize g.B.length = n1 at *
  generalize g.R.length = n2 at *
  generalize g.D.length = n3 at *
  go_enter Tryd.func34, Tryd.ntmps34
  go_wp2_with (go_at_call 58; refine C.out.mono ?_; rintro e w2 ⟨rfl, hb2⟩)
  go_ret2
  exact ⟨rfl, HB1.out.trans (hb2.mono HB1.out.size)⟩
end Go.Proofs.YtlkabghpcjlohaaDoor
