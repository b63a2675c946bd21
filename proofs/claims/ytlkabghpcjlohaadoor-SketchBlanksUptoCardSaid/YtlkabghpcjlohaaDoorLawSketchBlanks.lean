/- SketchBlanks: for every grid and every list of bytes that together hold at most 1048576 values the call returns true. -/
import Derived.Test.YtlkabghpcjlohaaDoorLawSketchCanon
import Derived.Test.YtlkabghpcjlohaaDoorP9
namespace Go.Proofs.YtlkabghpcjlohaaDoor
set_option linter.unusedVariables false
set_option linter.unusedSimpArgs false
open Go.RowKit Go.Lib

theorem sb_app (a b : List UInt8) : (⟨a.toArray⟩ : ByteArray) ++ ⟨b.toArray⟩ = (⟨(a ++ b).toArray⟩ : ByteArray) := by apply bl_inj; simp [bl]
theorem sb_sz (l : List UInt8) : (⟨l.toArray⟩ : ByteArray).size = l.length := by rw [← bl_length]
theorem u8s_at {w : World} {B : Nat} {A : Option Addr} {n c : Nat} {l : List Nat} (h : Sl w B (.slice A n c) (l.map fun (x : Nat) => Value.int .u8 (x : Int))) (hn : 0 < n) : ∃ b off, A = some ⟨b, off, none⟩ ∧ b < B ∧ ∀ i, i < n → w.cell? ⟨b, off + i, none⟩ = some (.int .u8 (l.getD i 0 : Nat)) := by
  obtain ⟨A', c', hv, hc, hA⟩ := h
  injection hv with e1 e2 e3
  obtain ⟨ad, e, hB, hcell⟩ := hA (by omega)
  have h0 := hcell 0 _ (List.getElem?_eq_getElem (by omega))
  have hsp : ad.spot = none := by
    cases hs : ad.spot with
    | none => rfl
    | some k =>
      exfalso
      simp only [Addr.add, if_true, World.cell?] at h0
      rw [hs] at h0
      revert h0
      split <;> simp
  rw [List.length_map] at e2
  refine ⟨ad.block, ad.off, ?_, hB, fun i hi => ?_⟩
  · rw [e1, e]; obtain ⟨b, o, s⟩ := ad; simp only at hsp; subst hsp; rfl
  · have hil : i < l.length := by omega
    have := hcell i (.int .u8 (l.getD i 0 : Nat)) (by rw [List.getElem?_map, List.getElem?_eq_getElem hil, List.getD_eq_getElem?_getD, List.getElem?_eq_getElem hil]; rfl)
    obtain ⟨b, o, s⟩ := ad
    simp only at hsp
    subst hsp
    unfold Addr.add at this
    split at this <;> simp_all

theorem ex_one (g : Gd) (k : Nat) (hk : k < (allR g).length) : (⟨(printL g).toArray⟩ : ByteArray).extract k (k + 1) = ⟨#[UInt8.ofNat ((allR g).getD k 0)]⟩ := by
  have hb := allR_byte g hk
  have hkl : k < (printL g).length := by rw [allR_size]; exact hk
  rw [List.getElem?_eq_getElem hkl] at hb
  injection hb with hb
  apply bl_inj
  rw [bl_extract, show bl ⟨(printL g).toArray⟩ = printL g from rfl, List.drop_eq_getElem_cons hkl, show k + 1 - k = 1 by omega, hb]
  rw [List.getD_eq_getElem?_getD, List.getElem?_eq_getElem hk]
  rfl
set_option maxHeartbeats 16000000 in
set_option maxRecDepth 100000 in
theorem sketchBlanks_any (v : Value) (g : Gd) (hv : Value) (how : List Nat) (w : World) (hg : GdAt w w.heap.size v g) (hz : g.B.length + g.R.length + g.D.length ≤ 1048576) (h256 : ∀ x ∈ how, x < 256) (hh : Sl w w.heap.size hv (how.map fun (x : Nat) => Value.int .u8 (x : Int))) (hn : how.length ≤ 1048576) (hT : Tabs w) :
    Calls Tryd.prog 12 #[v, hv] w fun e w' => e = .returned (.bool true) ∧ Below w.heap.size w w' := by
  obtain ⟨Ab, Ar, Ad, cb, cr, cd, rfl⟩ := hg.form
  have hbox := (Below.refl w.heap.size w).alloc (Nat.le_refl _) (.cells #[.int .i64 g.H, .int .i64 g.W, .slice Ab g.B.length cb, .slice Ar g.R.length cr, .slice Ad g.D.length cd] 45)
  have hblk := World.alloc_heap_new w (.cells #[.int .i64 g.H, .int .i64 g.W, .slice Ab g.B.length cb, .slice Ar g.R.length cr, .slice Ad g.D.length cd] 45)
  have CA := Lib.hid (awake8_any _ (hT.below hbox))
  have HT := Lib.hid hT; have HG := Lib.hid hg; have HBX := Lib.hid hbox; have HBK := Lib.hid hblk
  obtain ⟨Ah, ch, rfl, hch, hAh⟩ := hh
  have hhs : Sl w w.heap.size (.slice Ah how.length ch) (how.map fun (x : Nat) => Value.int .u8 (x : Int)) := ⟨Ah, ch, by rw [List.length_map], hch, hAh⟩
  rw [List.length_map] at hch ⊢
  have HH := Lib.hid hhs
  have HL := Lib.hid h256
  clear hT hg hbox hblk hAh hhs h256
  by_cases hck : checkG g = 0
  · have hok := ok_of_check hck
    have HOK := Lib.hid hok
    have hsz := allR_size g
    have hle := allR_len g hok
    obtain ⟨t, ht⟩ : ∃ t : ByteArray, t = ⟨(printL g).toArray⟩ := ⟨_, rfl⟩
    have htz : t.size = (allR g).length := by rw [ht, sb_sz, hsz]
    have htk : ∀ k, k < (allR g).length → t.extract k (k + 1) = ⟨#[UInt8.ofNat ((allR g).getD k 0)]⟩ := fun k hk => by
      rw [ht]
      exact ex_one g k hk
    have hdp := drawn_parse how g hok
    have CP : Hid (∀ W, Below w.heap.size w W → _) := Lib.hid (fun W hW => Parse_good (s := ⟨(drawn how g (allR g).length).toArray⟩) hdp W (HT.out.below hW) (by rw [sb_sz]; have := drawn_le how g hok (allR g).length; omega))
    have CR : Hid (∀ (W : World), Below w.heap.size w W → Calls Tryd.prog 33 #[gdV g Ab Ar Ad cb cr cd] W fun e w' => e = .returned (.tuple #[.string t, .int .i64 0]) ∧ Below W.heap.size W w') := Lib.hid (fun W hW => by
      have := Print_good _ g w.heap.size W (HG.out.below hW) hW.size hok
      rw [← ht] at this
      exact this)
    have CS := Lib.hid (fun v u W h1 h2 => Same_refl v u g W h1 h2 hok)
    have DS : Hid (∀ k, k < (allR g).length → drawn how g (k + 1) = drawn how g k ++ encs (drawB (hb how k) ((allR g).getD k 0))) := Lib.hid (fun k hk => by rw [drawn_succ how g hk, List.getD_eq_getElem?_getD, List.getElem?_eq_getElem hk]; rfl)
    have DL := Lib.hid (fun k => drawn_le how g hok k)
    have MEM : Hid (∀ k, k < (allR g).length → ((allR g).getD k 0 = 35 ∨ (allR g).getD k 0 = 46 ∨ (allR g).getD k 0 = 124 ∨ (allR g).getD k 0 = 95 ∨ (allR g).getD k 0 = 10)) := Lib.hid (fun k hk => by have := allR_mem g hk; rw [List.getD_eq_getElem?_getD, List.getElem?_eq_getElem hk]; exact this)
    have TK := Lib.hid htk
    clear hck hok hsz ht htk hdp
    generalize (allR g).length = N at *
    go_enter Tryd.func12, Tryd.ntmps12
    go_wp2_with (first
      | (go_at_call 29; refine CA.out.mono ?_; rintro e w1 ⟨rfl, hb1⟩; have hk1 := Lib.hid ((hb1.block w.heap.size (by simp)).trans HBK.out); have p0 := Lib.cell_of_heap hk1.out 0; have p1 := Lib.cell_of_heap hk1.out 1; have p2 := Lib.cell_of_heap hk1.out 2; have p3 := Lib.cell_of_heap hk1.out 3; have p4 := Lib.cell_of_heap hk1.out 4; have HB1 := Lib.hid (HBX.out.trans (hb1.mono HBX.out.size)); have z1 : w.heap.size + 1 ≤ w1.heap.size := (by have := hb1.size; simpa using this); clear hb1)
      | (go_at_call 33; refine (CR.out _ HB1.out).mono ?_; rintro e w2 ⟨rfl, hb2⟩; have hk2 := Lib.hid ((hb2.block w.heap.size (by omega)).trans hk1.out); have HB2 := Lib.hid (HB1.out.trans (hb2.mono HB1.out.size)); have z2 := hb2.size; clear hb2 p0 p1 p2 p3 p4))
    go_loopg [7, 8, 9, 10] N (fun gf u7 u8 _ _ wr => ∃ (k : Nat) (X : ByteArray), u8 = .int .i64 k ∧ k ≤ N ∧ N ≤ k + gf ∧ u7 = .string X ∧ Hid (X = ⟨(drawn how g k).toArray⟩) ∧ X.size ≤ 28672 ∧ wr = w2)
    case atStart => exact ⟨0, ⟨#[]⟩, rfl, Nat.zero_le _, by omega, rfl, Lib.hid rfl, by decide, rfl⟩
    case round =>
      obtain ⟨k, X, rfl, hk, hfu, rfl, HX, hXs, rfl⟩ := hrel
      by_cases hlt : k < N
      · obtain ⟨g', rfl⟩ : ∃ g', gk = g' + 1 := ⟨gk - 1, by omega⟩
        have hex := TK.out k hlt
        have hds := DS.out k hlt
        have hmem := MEM.out k hlt
        have hdl := DL.out (k + 1)
        rw [hds] at hdl
        have i0 : (0 : Int) ≤ (k : Int) := by omega
        have i1 : (k : Int) < (N : Int) := by omega
        have i2 : (k : Int) + 1 ≤ (N : Int) := by omega
        have HDS := Lib.hid hds
        clear hds
        generalize (allR g).getD k 0 = c at *
        by_cases hL : how.length = 0
        · obtain rfl : how = [] := List.length_eq_zero_iff.1 hL
          have hb0 : hb [] k = 0 := rfl
          rw [hb0] at HDS hdl
          have q0 : bits .and .u8 0 1 = 0 := by decide +kernel
          have q00 : bits .and .u8 0 2 = 0 := by decide +kernel
          rcases hmem with rfl | rfl | rfl | rfl | rfl
          · have e : encs (drawB 0 35) = [35] := by decide +kernel
            rw [e] at hdl
            have hu : (⟨#[UInt8.ofNat 35]⟩ : ByteArray) = ⟨#[35]⟩ := rfl
            rw [hu] at hex
            have hE : X ++ ⟨#[35]⟩ = (⟨(drawn [] g (k + 1)).toArray⟩ : ByteArray) := by
              rw [HX.out, HDS.out, e, show (⟨#[35]⟩ : ByteArray) = ⟨([35] : List UInt8).toArray⟩ from rfl, sb_app]
            have hS : (X ++ ⟨#[35]⟩).size ≤ 28672 := by rw [hE, sb_sz]; exact DL.out (k + 1)
            have HE := Lib.hid hE; have HS := Lib.hid hS
            clear hE hS e hu hdl HDS
            go_wp2
            go_roundg g'
            case measure => omega
            case rel => exact ⟨k + 1, _, by go_num, by omega, by omega, rfl, HE, HS.out, rfl⟩
          · have e : encs (drawB 0 46) = [46] := by decide +kernel
            rw [e] at hdl
            have hu : (⟨#[UInt8.ofNat 46]⟩ : ByteArray) = ⟨#[46]⟩ := rfl
            rw [hu] at hex
            have hE : X ++ ⟨#[46]⟩ = (⟨(drawn [] g (k + 1)).toArray⟩ : ByteArray) := by
              rw [HX.out, HDS.out, e, show (⟨#[46]⟩ : ByteArray) = ⟨([46] : List UInt8).toArray⟩ from rfl, sb_app]
            have hS : (X ++ ⟨#[46]⟩).size ≤ 28672 := by rw [hE, sb_sz]; exact DL.out (k + 1)
            have HE := Lib.hid hE; have HS := Lib.hid hS
            clear hE hS e hu hdl HDS
            go_wp2
            go_roundg g'
            case measure => omega
            case rel => exact ⟨k + 1, _, by go_num, by omega, by omega, rfl, HE, HS.out, rfl⟩
          · have e : encs (drawB 0 124) = [124] := by decide +kernel
            rw [e] at hdl
            have hu : (⟨#[UInt8.ofNat 124]⟩ : ByteArray) = ⟨#[124]⟩ := rfl
            rw [hu] at hex
            have hE : X ++ ⟨#[124]⟩ = (⟨(drawn [] g (k + 1)).toArray⟩ : ByteArray) := by
              rw [HX.out, HDS.out, e, show (⟨#[124]⟩ : ByteArray) = ⟨([124] : List UInt8).toArray⟩ from rfl, sb_app]
            have hS : (X ++ ⟨#[124]⟩).size ≤ 28672 := by rw [hE, sb_sz]; exact DL.out (k + 1)
            have HE := Lib.hid hE; have HS := Lib.hid hS
            clear hE hS e hu hdl HDS
            go_wp2
            go_roundg g'
            case measure => omega
            case rel => exact ⟨k + 1, _, by go_num, by omega, by omega, rfl, HE, HS.out, rfl⟩
          · have e : encs (drawB 0 95) = [95] := by decide +kernel
            rw [e] at hdl
            have hu : (⟨#[UInt8.ofNat 95]⟩ : ByteArray) = ⟨#[95]⟩ := rfl
            rw [hu] at hex
            have hE : X ++ ⟨#[95]⟩ = (⟨(drawn [] g (k + 1)).toArray⟩ : ByteArray) := by
              rw [HX.out, HDS.out, e, show (⟨#[95]⟩ : ByteArray) = ⟨([95] : List UInt8).toArray⟩ from rfl, sb_app]
            have hS : (X ++ ⟨#[95]⟩).size ≤ 28672 := by rw [hE, sb_sz]; exact DL.out (k + 1)
            have HE := Lib.hid hE; have HS := Lib.hid hS
            clear hE hS e hu hdl HDS
            go_wp2
            go_roundg g'
            case measure => omega
            case rel => exact ⟨k + 1, _, by go_num, by omega, by omega, rfl, HE, HS.out, rfl⟩
          · have e : encs (drawB 0 10) = [10] := by decide +kernel
            rw [e] at hdl
            have hu : (⟨#[UInt8.ofNat 10]⟩ : ByteArray) = ⟨#[10]⟩ := rfl
            rw [hu] at hex
            have hE : X ++ ⟨#[10]⟩ = (⟨(drawn [] g (k + 1)).toArray⟩ : ByteArray) := by
              rw [HX.out, HDS.out, e, show (⟨#[10]⟩ : ByteArray) = ⟨([10] : List UInt8).toArray⟩ from rfl, sb_app]
            have hS : (X ++ ⟨#[10]⟩).size ≤ 28672 := by rw [hE, sb_sz]; exact DL.out (k + 1)
            have HE := Lib.hid hE; have HS := Lib.hid hS
            clear hE hS e hu hdl HDS
            go_wp2
            go_roundg g'
            case measure => omega
            case rel => exact ⟨k + 1, _, by go_num, by omega, by omega, rfl, HE, HS.out, rfl⟩
        · obtain ⟨bh, oh, rfl, hlth, hcl⟩ := u8s_at HH.out (by omega)
          have hkm := Nat.mod_lt k (show 0 < how.length by omega)
          have gc := (HB2.out.cell (p := ⟨bh, oh + k % how.length, none⟩) hlth).trans (hcl (k % how.length) hkm)
          have hbe : how.getD (k % how.length) 0 = hb how k := by unfold hb; rw [if_neg hL]
          rw [hbe] at gc
          have hb9 : hb how k < 256 := by
            rw [← hbe, List.getD_eq_getElem?_getD, List.getElem?_eq_getElem hkm]
            exact HL.out _ (List.getElem_mem hkm)
          clear hbe hcl
          have a1 := and1 _ hb9
          have a2 := and2 _ hb9
          have k3 : (k : Int).tmod (how.length : Int) = ((k % how.length : Nat) : Int) := rfl
          have l0 : (0 : Int) < (how.length : Int) := by omega
          have l1 : ¬ (how.length : Int) = 0 := by omega
          have l2 : ((k % how.length : Nat) : Int) < (how.length : Int) := by omega
          have HB9 := Lib.hid hb9
          generalize hb how k = b at *
          generalize k % how.length = q at *
          clear hb9
          rcases Nat.mod_two_eq_zero_or_one b with h1 | h1 <;> rcases Nat.mod_two_eq_zero_or_one (b / 2) with h2 | h2
          · rw [h1] at a1
            rw [h2] at a2
            have a1' : bits .and .u8 (b : Int) 1 = 0 := a1
            have a2' : bits .and .u8 (b : Int) 2 = 0 := a2
            have H1 := Lib.hid h1; have H2 := Lib.hid h2
            clear a1 a2
            rcases hmem with rfl | rfl | rfl | rfl | rfl
            · have e : encs (drawB b 35) = [35] := by unfold drawB signB; simp only [h1, h2]; decide +kernel
              rw [e] at hdl
              have hu : (⟨#[UInt8.ofNat 35]⟩ : ByteArray) = ⟨#[35]⟩ := rfl
              rw [hu] at hex
              have hE : X ++ ⟨#[35]⟩ = (⟨(drawn how g (k + 1)).toArray⟩ : ByteArray) := by
                rw [HX.out, HDS.out, e, show (⟨#[35]⟩ : ByteArray) = ⟨([35] : List UInt8).toArray⟩ from rfl, sb_app]
              have hS : (X ++ ⟨#[35]⟩).size ≤ 28672 := by rw [hE, sb_sz]; exact DL.out (k + 1)
              have HE := Lib.hid hE; have HS := Lib.hid hS
              clear hE hS e hu hdl HDS h1 h2
              go_wp2
              go_roundg g'
              case measure => omega
              case rel => exact ⟨k + 1, _, by go_num, by omega, by omega, rfl, HE, HS.out, rfl⟩
            · have e : encs (drawB b 46) = [46] := by unfold drawB signB; simp only [h1, h2]; decide +kernel
              rw [e] at hdl
              have hu : (⟨#[UInt8.ofNat 46]⟩ : ByteArray) = ⟨#[46]⟩ := rfl
              rw [hu] at hex
              have hE : X ++ ⟨#[46]⟩ = (⟨(drawn how g (k + 1)).toArray⟩ : ByteArray) := by
                rw [HX.out, HDS.out, e, show (⟨#[46]⟩ : ByteArray) = ⟨([46] : List UInt8).toArray⟩ from rfl, sb_app]
              have hS : (X ++ ⟨#[46]⟩).size ≤ 28672 := by rw [hE, sb_sz]; exact DL.out (k + 1)
              have HE := Lib.hid hE; have HS := Lib.hid hS
              clear hE hS e hu hdl HDS h1 h2
              go_wp2
              go_roundg g'
              case measure => omega
              case rel => exact ⟨k + 1, _, by go_num, by omega, by omega, rfl, HE, HS.out, rfl⟩
            · have e : encs (drawB b 124) = [124] := by unfold drawB signB; simp only [h1, h2]; decide +kernel
              rw [e] at hdl
              have hu : (⟨#[UInt8.ofNat 124]⟩ : ByteArray) = ⟨#[124]⟩ := rfl
              rw [hu] at hex
              have hE : X ++ ⟨#[124]⟩ = (⟨(drawn how g (k + 1)).toArray⟩ : ByteArray) := by
                rw [HX.out, HDS.out, e, show (⟨#[124]⟩ : ByteArray) = ⟨([124] : List UInt8).toArray⟩ from rfl, sb_app]
              have hS : (X ++ ⟨#[124]⟩).size ≤ 28672 := by rw [hE, sb_sz]; exact DL.out (k + 1)
              have HE := Lib.hid hE; have HS := Lib.hid hS
              clear hE hS e hu hdl HDS h1 h2
              go_wp2
              go_roundg g'
              case measure => omega
              case rel => exact ⟨k + 1, _, by go_num, by omega, by omega, rfl, HE, HS.out, rfl⟩
            · have e : encs (drawB b 95) = [95] := by unfold drawB signB; simp only [h1, h2]; decide +kernel
              rw [e] at hdl
              have hu : (⟨#[UInt8.ofNat 95]⟩ : ByteArray) = ⟨#[95]⟩ := rfl
              rw [hu] at hex
              have hE : X ++ ⟨#[95]⟩ = (⟨(drawn how g (k + 1)).toArray⟩ : ByteArray) := by
                rw [HX.out, HDS.out, e, show (⟨#[95]⟩ : ByteArray) = ⟨([95] : List UInt8).toArray⟩ from rfl, sb_app]
              have hS : (X ++ ⟨#[95]⟩).size ≤ 28672 := by rw [hE, sb_sz]; exact DL.out (k + 1)
              have HE := Lib.hid hE; have HS := Lib.hid hS
              clear hE hS e hu hdl HDS h1 h2
              go_wp2
              go_roundg g'
              case measure => omega
              case rel => exact ⟨k + 1, _, by go_num, by omega, by omega, rfl, HE, HS.out, rfl⟩
            · have e : encs (drawB b 10) = [10] := by unfold drawB signB; simp only [h1, h2]; decide +kernel
              rw [e] at hdl
              have hu : (⟨#[UInt8.ofNat 10]⟩ : ByteArray) = ⟨#[10]⟩ := rfl
              rw [hu] at hex
              have hE : X ++ ⟨#[10]⟩ = (⟨(drawn how g (k + 1)).toArray⟩ : ByteArray) := by
                rw [HX.out, HDS.out, e, show (⟨#[10]⟩ : ByteArray) = ⟨([10] : List UInt8).toArray⟩ from rfl, sb_app]
              have hS : (X ++ ⟨#[10]⟩).size ≤ 28672 := by rw [hE, sb_sz]; exact DL.out (k + 1)
              have HE := Lib.hid hE; have HS := Lib.hid hS
              clear hE hS e hu hdl HDS h1 h2
              go_wp2
              go_roundg g'
              case measure => omega
              case rel => exact ⟨k + 1, _, by go_num, by omega, by omega, rfl, HE, HS.out, rfl⟩
          · rw [h1] at a1
            rw [h2] at a2
            have a1' : bits .and .u8 (b : Int) 1 = 0 := a1
            have a2' : bits .and .u8 (b : Int) 2 = 2 := a2
            have H1 := Lib.hid h1; have H2 := Lib.hid h2
            clear a1 a2
            rcases hmem with rfl | rfl | rfl | rfl | rfl
            · have e : encs (drawB b 35) = [35, 32, 194, 160] := by unfold drawB signB; simp only [h1, h2]; decide +kernel
              rw [e] at hdl
              have hu : (⟨#[UInt8.ofNat 35]⟩ : ByteArray) = ⟨#[35]⟩ := rfl
              rw [hu] at hex
              have hE : X ++ ⟨#[35]⟩ ++ ⟨#[32, 194, 160]⟩ = (⟨(drawn how g (k + 1)).toArray⟩ : ByteArray) := by
                rw [HX.out, HDS.out, e, show (⟨#[35]⟩ : ByteArray) = ⟨([35] : List UInt8).toArray⟩ from rfl, show (⟨#[32, 194, 160]⟩ : ByteArray) = ⟨([32, 194, 160] : List UInt8).toArray⟩ from rfl, sb_app, sb_app, List.append_assoc]; rfl
              have hS : (X ++ ⟨#[35]⟩ ++ ⟨#[32, 194, 160]⟩).size ≤ 28672 := by rw [hE, sb_sz]; exact DL.out (k + 1)
              have HE := Lib.hid hE; have HS := Lib.hid hS
              clear hE hS e hu hdl HDS h1 h2
              go_wp2
              go_roundg g'
              case measure => omega
              case rel => exact ⟨k + 1, _, by go_num, by omega, by omega, rfl, HE, HS.out, rfl⟩
            · have e : encs (drawB b 46) = [46, 32, 194, 160] := by unfold drawB signB; simp only [h1, h2]; decide +kernel
              rw [e] at hdl
              have hu : (⟨#[UInt8.ofNat 46]⟩ : ByteArray) = ⟨#[46]⟩ := rfl
              rw [hu] at hex
              have hE : X ++ ⟨#[46]⟩ ++ ⟨#[32, 194, 160]⟩ = (⟨(drawn how g (k + 1)).toArray⟩ : ByteArray) := by
                rw [HX.out, HDS.out, e, show (⟨#[46]⟩ : ByteArray) = ⟨([46] : List UInt8).toArray⟩ from rfl, show (⟨#[32, 194, 160]⟩ : ByteArray) = ⟨([32, 194, 160] : List UInt8).toArray⟩ from rfl, sb_app, sb_app, List.append_assoc]; rfl
              have hS : (X ++ ⟨#[46]⟩ ++ ⟨#[32, 194, 160]⟩).size ≤ 28672 := by rw [hE, sb_sz]; exact DL.out (k + 1)
              have HE := Lib.hid hE; have HS := Lib.hid hS
              clear hE hS e hu hdl HDS h1 h2
              go_wp2
              go_roundg g'
              case measure => omega
              case rel => exact ⟨k + 1, _, by go_num, by omega, by omega, rfl, HE, HS.out, rfl⟩
            · have e : encs (drawB b 124) = [124, 32, 194, 160] := by unfold drawB signB; simp only [h1, h2]; decide +kernel
              rw [e] at hdl
              have hu : (⟨#[UInt8.ofNat 124]⟩ : ByteArray) = ⟨#[124]⟩ := rfl
              rw [hu] at hex
              have hE : X ++ ⟨#[124]⟩ ++ ⟨#[32, 194, 160]⟩ = (⟨(drawn how g (k + 1)).toArray⟩ : ByteArray) := by
                rw [HX.out, HDS.out, e, show (⟨#[124]⟩ : ByteArray) = ⟨([124] : List UInt8).toArray⟩ from rfl, show (⟨#[32, 194, 160]⟩ : ByteArray) = ⟨([32, 194, 160] : List UInt8).toArray⟩ from rfl, sb_app, sb_app, List.append_assoc]; rfl
              have hS : (X ++ ⟨#[124]⟩ ++ ⟨#[32, 194, 160]⟩).size ≤ 28672 := by rw [hE, sb_sz]; exact DL.out (k + 1)
              have HE := Lib.hid hE; have HS := Lib.hid hS
              clear hE hS e hu hdl HDS h1 h2
              go_wp2
              go_roundg g'
              case measure => omega
              case rel => exact ⟨k + 1, _, by go_num, by omega, by omega, rfl, HE, HS.out, rfl⟩
            · have e : encs (drawB b 95) = [95, 32, 194, 160] := by unfold drawB signB; simp only [h1, h2]; decide +kernel
              rw [e] at hdl
              have hu : (⟨#[UInt8.ofNat 95]⟩ : ByteArray) = ⟨#[95]⟩ := rfl
              rw [hu] at hex
              have hE : X ++ ⟨#[95]⟩ ++ ⟨#[32, 194, 160]⟩ = (⟨(drawn how g (k + 1)).toArray⟩ : ByteArray) := by
                rw [HX.out, HDS.out, e, show (⟨#[95]⟩ : ByteArray) = ⟨([95] : List UInt8).toArray⟩ from rfl, show (⟨#[32, 194, 160]⟩ : ByteArray) = ⟨([32, 194, 160] : List UInt8).toArray⟩ from rfl, sb_app, sb_app, List.append_assoc]; rfl
              have hS : (X ++ ⟨#[95]⟩ ++ ⟨#[32, 194, 160]⟩).size ≤ 28672 := by rw [hE, sb_sz]; exact DL.out (k + 1)
              have HE := Lib.hid hE; have HS := Lib.hid hS
              clear hE hS e hu hdl HDS h1 h2
              go_wp2
              go_roundg g'
              case measure => omega
              case rel => exact ⟨k + 1, _, by go_num, by omega, by omega, rfl, HE, HS.out, rfl⟩
            · have e : encs (drawB b 10) = [10] := by unfold drawB signB; simp only [h1, h2]; decide +kernel
              rw [e] at hdl
              have hu : (⟨#[UInt8.ofNat 10]⟩ : ByteArray) = ⟨#[10]⟩ := rfl
              rw [hu] at hex
              have hE : X ++ ⟨#[10]⟩ = (⟨(drawn how g (k + 1)).toArray⟩ : ByteArray) := by
                rw [HX.out, HDS.out, e, show (⟨#[10]⟩ : ByteArray) = ⟨([10] : List UInt8).toArray⟩ from rfl, sb_app]
              have hS : (X ++ ⟨#[10]⟩).size ≤ 28672 := by rw [hE, sb_sz]; exact DL.out (k + 1)
              have HE := Lib.hid hE; have HS := Lib.hid hS
              clear hE hS e hu hdl HDS h1 h2
              go_wp2
              go_roundg g'
              case measure => omega
              case rel => exact ⟨k + 1, _, by go_num, by omega, by omega, rfl, HE, HS.out, rfl⟩
          · rw [h1] at a1
            rw [h2] at a2
            have a1' : bits .and .u8 (b : Int) 1 = 1 := a1
            have a2' : bits .and .u8 (b : Int) 2 = 0 := a2
            have H1 := Lib.hid h1; have H2 := Lib.hid h2
            clear a1 a2
            rcases hmem with rfl | rfl | rfl | rfl | rfl
            · have e : encs (drawB b 35) = [226, 150, 160] := by unfold drawB signB; simp only [h1, h2]; decide +kernel
              rw [e] at hdl
              have hu : (⟨#[UInt8.ofNat 35]⟩ : ByteArray) = ⟨#[35]⟩ := rfl
              rw [hu] at hex
              have hE : X ++ ⟨#[226, 150, 160]⟩ = (⟨(drawn how g (k + 1)).toArray⟩ : ByteArray) := by
                rw [HX.out, HDS.out, e, show (⟨#[226, 150, 160]⟩ : ByteArray) = ⟨([226, 150, 160] : List UInt8).toArray⟩ from rfl, sb_app]
              have hS : (X ++ ⟨#[226, 150, 160]⟩).size ≤ 28672 := by rw [hE, sb_sz]; exact DL.out (k + 1)
              have HE := Lib.hid hE; have HS := Lib.hid hS
              clear hE hS e hu hdl HDS h1 h2
              go_wp2
              go_roundg g'
              case measure => omega
              case rel => exact ⟨k + 1, _, by go_num, by omega, by omega, rfl, HE, HS.out, rfl⟩
            · have e : encs (drawB b 46) = [226, 150, 161] := by unfold drawB signB; simp only [h1, h2]; decide +kernel
              rw [e] at hdl
              have hu : (⟨#[UInt8.ofNat 46]⟩ : ByteArray) = ⟨#[46]⟩ := rfl
              rw [hu] at hex
              have hE : X ++ ⟨#[226, 150, 161]⟩ = (⟨(drawn how g (k + 1)).toArray⟩ : ByteArray) := by
                rw [HX.out, HDS.out, e, show (⟨#[226, 150, 161]⟩ : ByteArray) = ⟨([226, 150, 161] : List UInt8).toArray⟩ from rfl, sb_app]
              have hS : (X ++ ⟨#[226, 150, 161]⟩).size ≤ 28672 := by rw [hE, sb_sz]; exact DL.out (k + 1)
              have HE := Lib.hid hE; have HS := Lib.hid hS
              clear hE hS e hu hdl HDS h1 h2
              go_wp2
              go_roundg g'
              case measure => omega
              case rel => exact ⟨k + 1, _, by go_num, by omega, by omega, rfl, HE, HS.out, rfl⟩
            · have e : encs (drawB b 124) = [124] := by unfold drawB signB; simp only [h1, h2]; decide +kernel
              rw [e] at hdl
              have hu : (⟨#[UInt8.ofNat 124]⟩ : ByteArray) = ⟨#[124]⟩ := rfl
              rw [hu] at hex
              have hE : X ++ ⟨#[124]⟩ = (⟨(drawn how g (k + 1)).toArray⟩ : ByteArray) := by
                rw [HX.out, HDS.out, e, show (⟨#[124]⟩ : ByteArray) = ⟨([124] : List UInt8).toArray⟩ from rfl, sb_app]
              have hS : (X ++ ⟨#[124]⟩).size ≤ 28672 := by rw [hE, sb_sz]; exact DL.out (k + 1)
              have HE := Lib.hid hE; have HS := Lib.hid hS
              clear hE hS e hu hdl HDS h1 h2
              go_wp2
              go_roundg g'
              case measure => omega
              case rel => exact ⟨k + 1, _, by go_num, by omega, by omega, rfl, HE, HS.out, rfl⟩
            · have e : encs (drawB b 95) = [95] := by unfold drawB signB; simp only [h1, h2]; decide +kernel
              rw [e] at hdl
              have hu : (⟨#[UInt8.ofNat 95]⟩ : ByteArray) = ⟨#[95]⟩ := rfl
              rw [hu] at hex
              have hE : X ++ ⟨#[95]⟩ = (⟨(drawn how g (k + 1)).toArray⟩ : ByteArray) := by
                rw [HX.out, HDS.out, e, show (⟨#[95]⟩ : ByteArray) = ⟨([95] : List UInt8).toArray⟩ from rfl, sb_app]
              have hS : (X ++ ⟨#[95]⟩).size ≤ 28672 := by rw [hE, sb_sz]; exact DL.out (k + 1)
              have HE := Lib.hid hE; have HS := Lib.hid hS
              clear hE hS e hu hdl HDS h1 h2
              go_wp2
              go_roundg g'
              case measure => omega
              case rel => exact ⟨k + 1, _, by go_num, by omega, by omega, rfl, HE, HS.out, rfl⟩
            · have e : encs (drawB b 10) = [13, 10, 32, 9, 10] := by unfold drawB signB; simp only [h1, h2]; decide +kernel
              rw [e] at hdl
              have hu : (⟨#[UInt8.ofNat 10]⟩ : ByteArray) = ⟨#[10]⟩ := rfl
              rw [hu] at hex
              have hE : X ++ ⟨#[13, 10, 32, 9, 10]⟩ = (⟨(drawn how g (k + 1)).toArray⟩ : ByteArray) := by
                rw [HX.out, HDS.out, e, show (⟨#[13, 10, 32, 9, 10]⟩ : ByteArray) = ⟨([13, 10, 32, 9, 10] : List UInt8).toArray⟩ from rfl, sb_app]
              have hS : (X ++ ⟨#[13, 10, 32, 9, 10]⟩).size ≤ 28672 := by rw [hE, sb_sz]; exact DL.out (k + 1)
              have HE := Lib.hid hE; have HS := Lib.hid hS
              clear hE hS e hu hdl HDS h1 h2
              go_wp2
              go_roundg g'
              case measure => omega
              case rel => exact ⟨k + 1, _, by go_num, by omega, by omega, rfl, HE, HS.out, rfl⟩
          · rw [h1] at a1
            rw [h2] at a2
            have a1' : bits .and .u8 (b : Int) 1 = 1 := a1
            have a2' : bits .and .u8 (b : Int) 2 = 2 := a2
            have H1 := Lib.hid h1; have H2 := Lib.hid h2
            clear a1 a2
            rcases hmem with rfl | rfl | rfl | rfl | rfl
            · have e : encs (drawB b 35) = [226, 150, 160, 32, 194, 160] := by unfold drawB signB; simp only [h1, h2]; decide +kernel
              rw [e] at hdl
              have hu : (⟨#[UInt8.ofNat 35]⟩ : ByteArray) = ⟨#[35]⟩ := rfl
              rw [hu] at hex
              have hE : X ++ ⟨#[226, 150, 160]⟩ ++ ⟨#[32, 194, 160]⟩ = (⟨(drawn how g (k + 1)).toArray⟩ : ByteArray) := by
                rw [HX.out, HDS.out, e, show (⟨#[226, 150, 160]⟩ : ByteArray) = ⟨([226, 150, 160] : List UInt8).toArray⟩ from rfl, show (⟨#[32, 194, 160]⟩ : ByteArray) = ⟨([32, 194, 160] : List UInt8).toArray⟩ from rfl, sb_app, sb_app, List.append_assoc]; rfl
              have hS : (X ++ ⟨#[226, 150, 160]⟩ ++ ⟨#[32, 194, 160]⟩).size ≤ 28672 := by rw [hE, sb_sz]; exact DL.out (k + 1)
              have HE := Lib.hid hE; have HS := Lib.hid hS
              clear hE hS e hu hdl HDS h1 h2
              go_wp2
              go_roundg g'
              case measure => omega
              case rel => exact ⟨k + 1, _, by go_num, by omega, by omega, rfl, HE, HS.out, rfl⟩
            · have e : encs (drawB b 46) = [226, 150, 161, 32, 194, 160] := by unfold drawB signB; simp only [h1, h2]; decide +kernel
              rw [e] at hdl
              have hu : (⟨#[UInt8.ofNat 46]⟩ : ByteArray) = ⟨#[46]⟩ := rfl
              rw [hu] at hex
              have hE : X ++ ⟨#[226, 150, 161]⟩ ++ ⟨#[32, 194, 160]⟩ = (⟨(drawn how g (k + 1)).toArray⟩ : ByteArray) := by
                rw [HX.out, HDS.out, e, show (⟨#[226, 150, 161]⟩ : ByteArray) = ⟨([226, 150, 161] : List UInt8).toArray⟩ from rfl, show (⟨#[32, 194, 160]⟩ : ByteArray) = ⟨([32, 194, 160] : List UInt8).toArray⟩ from rfl, sb_app, sb_app, List.append_assoc]; rfl
              have hS : (X ++ ⟨#[226, 150, 161]⟩ ++ ⟨#[32, 194, 160]⟩).size ≤ 28672 := by rw [hE, sb_sz]; exact DL.out (k + 1)
              have HE := Lib.hid hE; have HS := Lib.hid hS
              clear hE hS e hu hdl HDS h1 h2
              go_wp2
              go_roundg g'
              case measure => omega
              case rel => exact ⟨k + 1, _, by go_num, by omega, by omega, rfl, HE, HS.out, rfl⟩
            · have e : encs (drawB b 124) = [124, 32, 194, 160] := by unfold drawB signB; simp only [h1, h2]; decide +kernel
              rw [e] at hdl
              have hu : (⟨#[UInt8.ofNat 124]⟩ : ByteArray) = ⟨#[124]⟩ := rfl
              rw [hu] at hex
              have hE : X ++ ⟨#[124]⟩ ++ ⟨#[32, 194, 160]⟩ = (⟨(drawn how g (k + 1)).toArray⟩ : ByteArray) := by
                rw [HX.out, HDS.out, e, show (⟨#[124]⟩ : ByteArray) = ⟨([124] : List UInt8).toArray⟩ from rfl, show (⟨#[32, 194, 160]⟩ : ByteArray) = ⟨([32, 194, 160] : List UInt8).toArray⟩ from rfl, sb_app, sb_app, List.append_assoc]; rfl
              have hS : (X ++ ⟨#[124]⟩ ++ ⟨#[32, 194, 160]⟩).size ≤ 28672 := by rw [hE, sb_sz]; exact DL.out (k + 1)
              have HE := Lib.hid hE; have HS := Lib.hid hS
              clear hE hS e hu hdl HDS h1 h2
              go_wp2
              go_roundg g'
              case measure => omega
              case rel => exact ⟨k + 1, _, by go_num, by omega, by omega, rfl, HE, HS.out, rfl⟩
            · have e : encs (drawB b 95) = [95, 32, 194, 160] := by unfold drawB signB; simp only [h1, h2]; decide +kernel
              rw [e] at hdl
              have hu : (⟨#[UInt8.ofNat 95]⟩ : ByteArray) = ⟨#[95]⟩ := rfl
              rw [hu] at hex
              have hE : X ++ ⟨#[95]⟩ ++ ⟨#[32, 194, 160]⟩ = (⟨(drawn how g (k + 1)).toArray⟩ : ByteArray) := by
                rw [HX.out, HDS.out, e, show (⟨#[95]⟩ : ByteArray) = ⟨([95] : List UInt8).toArray⟩ from rfl, show (⟨#[32, 194, 160]⟩ : ByteArray) = ⟨([32, 194, 160] : List UInt8).toArray⟩ from rfl, sb_app, sb_app, List.append_assoc]; rfl
              have hS : (X ++ ⟨#[95]⟩ ++ ⟨#[32, 194, 160]⟩).size ≤ 28672 := by rw [hE, sb_sz]; exact DL.out (k + 1)
              have HE := Lib.hid hE; have HS := Lib.hid hS
              clear hE hS e hu hdl HDS h1 h2
              go_wp2
              go_roundg g'
              case measure => omega
              case rel => exact ⟨k + 1, _, by go_num, by omega, by omega, rfl, HE, HS.out, rfl⟩
            · have e : encs (drawB b 10) = [13, 10, 32, 9, 10, 32, 194, 160] := by unfold drawB signB; simp only [h1, h2]; decide +kernel
              rw [e] at hdl
              have hu : (⟨#[UInt8.ofNat 10]⟩ : ByteArray) = ⟨#[10]⟩ := rfl
              rw [hu] at hex
              have hE : X ++ ⟨#[13, 10, 32, 9, 10]⟩ ++ ⟨#[32, 194, 160]⟩ = (⟨(drawn how g (k + 1)).toArray⟩ : ByteArray) := by
                rw [HX.out, HDS.out, e, show (⟨#[13, 10, 32, 9, 10]⟩ : ByteArray) = ⟨([13, 10, 32, 9, 10] : List UInt8).toArray⟩ from rfl, show (⟨#[32, 194, 160]⟩ : ByteArray) = ⟨([32, 194, 160] : List UInt8).toArray⟩ from rfl, sb_app, sb_app, List.append_assoc]; rfl
              have hS : (X ++ ⟨#[13, 10, 32, 9, 10]⟩ ++ ⟨#[32, 194, 160]⟩).size ≤ 28672 := by rw [hE, sb_sz]; exact DL.out (k + 1)
              have HE := Lib.hid hE; have HS := Lib.hid hS
              clear hE hS e hu hdl HDS h1 h2
              go_wp2
              go_roundg g'
              case measure => omega
              case rel => exact ⟨k + 1, _, by go_num, by omega, by omega, rfl, HE, HS.out, rfl⟩
      · obtain rfl : N = k := by omega
        have hx := HX.out
        subst hx
        have z3 := HB2.out.size
        go_wp2_with (first
          | (go_at_call 30; refine (CP.out _ HB2.out).mono ?_; rintro e w3 ⟨A2, R2, D2, cb2, cr2, cd2, rfl, hg3, hb3⟩; have HG3 := Lib.hid hg3; have z4 := hb3.size; have HB3 := Lib.hid (HB2.out.trans (hb3.mono z3)); have hk3 : ∀ o, (w3.alloc o).heap[w.heap.size]? = _ := fun o => (Below.heap_alloc w3 o w.heap.size (by omega)).trans ((hb3.block w.heap.size (by omega)).trans hk2.out); have HK3 := Lib.hid hk3; clear hg3 hb3 hk3; have p0 := fun o => Lib.cell_of_heap (HK3.out o) 0; have p1 := fun o => Lib.cell_of_heap (HK3.out o) 1; have p2 := fun o => Lib.cell_of_heap (HK3.out o) 2; have p3 := fun o => Lib.cell_of_heap (HK3.out o) 3; have p4 := fun o => Lib.cell_of_heap (HK3.out o) 4)
          | (go_at_call 32; refine (CS.out _ _ _ ((HG.out.below (HB3.out.alloc (by omega) _)).more (by simp; omega)) ((HG3.out.below ((Below.refl _ w3).alloc (Nat.le_refl _) _)).more (by simp))).mono ?_; rintro e w6 ⟨rfl, hb6⟩))
        go_ret
        exact ⟨rfl, (HB3.out.alloc (by omega) _).trans (hb6.mono (by simp; omega))⟩
  · have CR : Hid (∀ (W : World), Below w.heap.size w W → Calls Tryd.prog 33 #[gdV g Ab Ar Ad cb cr cd] W fun e w' => e = .returned (.tuple #[.string ⟨#[]⟩, .int .i64 (checkG g)]) ∧ Below W.heap.size W w') := Lib.hid (fun W hW => Print_bad _ g w.heap.size W (HG.out.below hW) hW.size ⟨by omega, by omega, by omega⟩ hck)
    obtain ⟨ck, hckv⟩ : ∃ ck, checkG g = ck := ⟨_, rfl⟩
    rw [hckv] at CR hck
    have t1 : (ck != 0) = true := by simp [hck]
    clear hckv hck
    go_enter Tryd.func12, Tryd.ntmps12
    go_wp2_with (first
      | (go_at_call 29; refine CA.out.mono ?_; rintro e w1 ⟨rfl, hb1⟩; have hk1 := Lib.hid ((hb1.block w.heap.size (by simp)).trans HBK.out); have p0 := Lib.cell_of_heap hk1.out 0; have p1 := Lib.cell_of_heap hk1.out 1; have p2 := Lib.cell_of_heap hk1.out 2; have p3 := Lib.cell_of_heap hk1.out 3; have p4 := Lib.cell_of_heap hk1.out 4; have HB1 := Lib.hid (HBX.out.trans (hb1.mono HBX.out.size)); clear hb1)
      | (go_at_call 33; refine (CR.out _ HB1.out).mono ?_; rintro e w2 ⟨rfl, hb2⟩))
    go_ret
    exact ⟨rfl, HB1.out.trans (hb2.mono HB1.out.size)⟩
end Go.Proofs.YtlkabghpcjlohaaDoor
