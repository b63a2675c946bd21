/- The reference of layer 8: Parse. -/
import Derived.Test.YtlkabghpcjlohaaDoorT20
import Derived.Test.YtlkabghpcjlohaaDoorT10
import Derived.Deep.DeepCutAuto
namespace Go.Proofs.YtlkabghpcjlohaaDoor
set_option linter.unusedVariables false
set_option linter.unusedSimpArgs false
open Go.RowKit Go.Lib

theorem byte10 (s : ByteArray) (k : Nat) (h : k < s.size) : (bl s)[k]? = some s[k] := by
  have hk : k < (bl s).length := by rw [bl_length]; exact h
  rw [List.getElem?_eq_getElem hk]
  rfl
theorem LnEnd.start (s : ByteArray) (f : Nat) : (∀ k, f ≤ k → k < f → (bl s)[k]? ≠ some 10) := fun k h1 h2 => by omega
theorem refBad {s : ByteArray} {w W : World} {a' : Act} {g : Nat} {t : TypeId} {a : Nat} {er : Int} (ht : a'.tmps.getD 2 undef = .pointer (some ⟨g, 0, none⟩)) (h3 : a'.tmps.getD 3 undef = .int .i64 (a : Nat)) (h4 : a'.tmps.getD 4 undef = .int .i64 er) (hd : a'.defers = [])
    (hg : W.heap[g]? = some (.cells #[.int .i64 0, .int .i64 0, .slice none 0 0, .slice none 0 0, .slice none 0 0] t (0, 0))) (hb : Below w.heap.size w W) (hp : parseL (bl s) = .bad a er) :
    bodyPost Tryd.prog Tryd.f31 (ParsePost s w) .ret a' W := by
  refine bodyPost_ret (results_grid Tryd.results31 _ W g t _ _ _ _ _ _ ht hg) hd ?_
  unfold ParsePost
  rw [hp, h3, h4]
  exact ⟨hb, rfl⟩

theorem runC_len (h : Nat) : ∀ (l : List (Nat × List UInt8)) (p : Nat) (cs cs' : List Cl), runC h l p cs = .good cs' → cs.length ≤ 16 → cs'.length ≤ 16
  | [], p, cs, cs', hr, hl => by rw [runC] at hr; injection hr with hr; subst hr; exact hl
  | c :: l, p, cs, cs', hr, hl => by
    rw [runC] at hr
    cases hs : stepC h cs p c.1 with
    | bad a e => rw [hs] at hr; cases hr
    | good t => rw [hs] at hr; exact runC_len h l _ t cs' hr (stepC_len hs hl)
theorem wp_named {P : Program} {c : Code} {Q : Exit → Act → World → Prop} {a : Act} {w : World} (h : ∀ ac, ac = a → c.wp P Q ac w) : c.wp P Q a w := h a rfl
theorem cellsV_at (cs : List Cl) {m : Nat} (h : m < cs.length) : (cellsV cs)[m * 3]? = some (.bool cs[m].1) ∧ (cellsV cs)[m * 3 + 1]? = some (.bool cs[m].2.1) ∧ (cellsV cs)[m * 3 + 2]? = some (.bool cs[m].2.2) := by
  obtain ⟨h1, h2, h3⟩ := cellsV_last (cs.take m) cs[m]
  rw [List.length_take, Nat.min_eq_left (by omega), ← List.take_succ_eq_append_getElem h] at h1 h2 h3
  have e : cellsV cs = cellsV (cs.take (m + 1)) ++ cellsV (cs.drop (m + 1)) := by
    unfold cellsV
    rw [← List.flatten_append, ← List.map_append, List.take_append_drop]
  have hl : (cellsV (cs.take (m + 1))).length = (m + 1) * 3 := by rw [cellsV_len, List.length_take]; congr 1; omega
  rw [e]
  exact ⟨by rw [List.getElem?_append_left (by omega)]; exact h1, by rw [List.getElem?_append_left (by omega)]; exact h2, by rw [List.getElem?_append_left (by omega)]; exact h3⟩
theorem Below.cell_of {w w' : World} (h : Below w.heap.size w w') {a : Addr} {v : Value} (hc : w.cell? a = some v) : w'.cell? a = some v :=
  (h.cell (World.block_lt_of_cell? w a hc)).trans hc

set_option maxHeartbeats 16000000 in
set_option maxRecDepth 100000 in
theorem refParse_any (s : ByteArray) (w : World) (hs : s.size ≤ 17592186044416) :
    Calls Tryd.prog 31 #[.string s] w (ParsePost s w) := by
  have hal := World.alloc_heap_new w grid0
  have hbl := (Below.refl w.heap.size w).alloc (Nat.le_refl _) grid0
  by_cases hbig : 65536 < s.size
  · have hp : parseL (bl s) = .bad 65536 1 := by unfold parseL; rw [if_pos (by rw [bl_length]; exact hbig)]
    have HP := Lib.hid hp; clear hp
    go_enter Tryd.func31, Tryd.ntmps31
    go_wp2
    exact refBad (g := w.heap.size) (t := 45) rfl rfl rfl rfl hal hbl HP.out
  · have hp0 := contR_zero (l := bl s) (by rw [bl_length]; exact hbig)
    have hsb : s.size ≤ 65536 := by omega
    obtain ⟨i0, hi, hz0, hz1, hz2⟩ := info_parts infoSlice
    have HP0 := Lib.hid hp0; have HAL := Lib.hid hal; have HBL := Lib.hid hbl
    clear hp0 hbig hs hal hbl
    go_enter Tryd.func31, Tryd.ntmps31
    go_wp2
    go_loopg [5, 6, 7, 8, 9, 10] (s.size + 1) (fun gf u5 u6 u7 u8 u9 u10 wr => ∃ (f : Nat) (rows : List (List Cl)) (vs : List Value), u6 = .int .i64 f ∧ f ≤ s.size + 1 ∧ s.size + 1 ≤ f + gf ∧ rows.length ≤ 16 ∧ Hid (RowsAt wr (w.heap.size + 1) u5 vs rows) ∧ Hid (Below (w.heap.size + 1) (w.alloc grid0) wr) ∧ Hid (contR (bl s) f rows = parseL (bl s)) ∧ Hid (Shp rows))
    case atStart => exact ⟨0, [], [], rfl, by omega, by omega, by simp, Lib.hid (RowsAt.nil _ _), Lib.hid (Below.refl _ _), HP0, Lib.hid Shp.nil⟩
    case round =>
      rename World => w5
      obtain ⟨f, rows, vs, rfl, hf1, hfu, hrl, HR, HB, HC, HS⟩ := hrel
      obtain ⟨Ar, cr, rfl⟩ : ∃ A c, u5 = .slice A rows.length c := by
        rcases HR.out.own.2 with ⟨e1, e2⟩ | ⟨g, cap, cur, e1, _⟩
        · exact ⟨none, 0, by rw [e1, e2]⟩
        · exact ⟨_, _, e1⟩
      have hz5 : w.heap.size + 1 ≤ w5.heap.size := by have := HB.out.size; simpa using this
      by_cases hlt : f < s.size
      · obtain ⟨g', rfl⟩ : ∃ g', gk = g' + 1 := ⟨gk - 1, by omega⟩
        have t1 : ((f : Nat) : Int) < (s.size : Int) := by omega
        go_upto_block 2 with fail
        go_cut [7] (fun s7 wx => ∃ e : Nat, s7 = .int .i64 e ∧ wx = w5 ∧ Hid (LnEnd s f e))
        case first =>
          go_wp2_with fail
          go_loopg [7] (s.size - f) (fun gf u7 wr => ∃ e : Nat, u7 = .int .i64 e ∧ f ≤ e ∧ e ≤ s.size ∧ s.size ≤ e + gf ∧ wr = w5 ∧ Hid (∀ k, f ≤ k → k < e → (bl s)[k]? ≠ some 10))
          case atStart => exact ⟨f, rfl, Nat.le_refl _, by omega, by omega, rfl, Lib.hid (LnEnd.start s f)⟩
          case round =>
            rename World => w6
            obtain ⟨e, rfl, he1, he2, heu, rfl, HNO⟩ := hrel
            by_cases hle : e < s.size
            · obtain ⟨g9, rfl⟩ : ∃ g9, gk = g9 + 1 := ⟨gk - 1, by omega⟩
              have b0 := byte10 s e hle
              have j0 : (0 : Int) ≤ (e : Int) := by omega
              have j1 : (e : Int) < (s.size : Int) := by omega
              by_cases h10 : s[e] = 10
              · have hb : (((s[e]).toNat : Int) != 10) = false := by rw [h10]; rfl
                have HE : Hid (LnEnd s f e) := Lib.hid ⟨he1, he2, HNO.out, .inr (by rw [b0, h10])⟩
                clear b0 h10 HNO
                go_wp2
                go_meet
                case rel => exact ⟨e, rfl, rfl, HE⟩
              · have hb : (((s[e]).toNat : Int) != 10) = true := by
                  simp only [bne_iff_ne, ne_eq]
                  intro h
                  exact h10 (UInt8.toNat_inj.1 (by simpa using Int.ofNat.inj h))
                have HN2 : Hid (∀ k, f ≤ k → k < e + 1 → (bl s)[k]? ≠ some 10) := Lib.hid (fun k k1 k2 => by
                  rcases Nat.lt_or_ge k e with h | h
                  · exact HNO.out k k1 h
                  · obtain rfl : k = e := by omega
                    rw [b0]
                    intro h9
                    injection h9 with h9
                    exact h10 h9)
                clear b0 h10 HNO
                go_wp2
                go_roundg g9
                case measure => omega
                case rel => exact ⟨e + 1, by go_num, by omega, by omega, by omega, rfl, HN2⟩
            · obtain rfl : e = s.size := by omega
              have HE : Hid (LnEnd s f s.size) := Lib.hid ⟨he1, he2, HNO.out, .inl rfl⟩
              clear HNO
              go_wp2
              go_meet
              case rel => exact ⟨s.size, rfl, rfl, HE⟩
        case rest =>
          obtain ⟨e, rfl, rfl, HE⟩ := hcut
          have hls := line_step (bl s) f e rows (by rw [bl_length]; exact hlt) HE.out.fe (by rw [bl_length]; exact HE.out.he) HE.out.no (by rw [bl_length]; exact HE.out.fin)
          rw [HC.out] at hls
          have CL := Lib.hid (refLine_any s rows.length f e wc HE.out hsb (by omega))
          have HG5 : Hid (wc.heap[w.heap.size]? = some grid0) := Lib.hid ((HB.out.block w.heap.size (by omega)).trans HAL.out)
          have hee := HE.out.he
          have hfe9 := HE.out.fe
          cases hcc : contC s rows.length f e [] with
          | bad a er =>
            have hcc' : runC rows.length (chop (((bl s).drop f).take (e - f))) f [] = .bad a er := hcc
            rw [hcc'] at hls
            have hls' : parseL (bl s) = .bad a er := hls
            have hne := parse_ne hls'
            have CL2 : Hid (Calls Tryd.prog 56 #[.string s, .int .i64 (f : Nat), .int .i64 (e : Nat), .int .i64 (rows.length : Nat)] wc fun en w' => Below wc.heap.size wc w' ∧ en = .returned (.tuple #[.slice none 0 0, .int .i64 (a : Nat), .int .i64 (er : Nat)])) := Lib.hid (CL.out.mono (fun en w' h => by unfold LinePost at h; rw [hcc] at h; exact h))
            have te : ((er : Int) != 0) = true := by simpa using hne
            have HLS := Lib.hid hls'
            clear hls hls' hcc hcc' hne CL
            go_wp2_with (go_at_call 56; refine CL2.out.mono ?_; rintro en w2 ⟨hb2, rfl⟩; have HB2 := Lib.hid hb2; have HG2 := Lib.hid ((hb2.block w.heap.size (by omega)).trans HG5.out); have p0 := Lib.cell_of_heap HG2.out 0; have p1 := Lib.cell_of_heap HG2.out 1; have p2 := Lib.cell_of_heap HG2.out 2; have p3 := Lib.cell_of_heap HG2.out 3; have p4 := Lib.cell_of_heap HG2.out 4; have f0 := Lib.frozen_of_heap HG2.out 0; have f1 := Lib.frozen_of_heap HG2.out 1; have f2 := Lib.frozen_of_heap HG2.out 2; have f3 := Lib.frozen_of_heap HG2.out 3; have f4 := Lib.frozen_of_heap HG2.out 4; have z2 := hb2.size; clear hb2)
            exact refBad (g := w.heap.size) (t := 45) rfl rfl rfl rfl (stored5 _ _ _ _ _ HG2.out) (below5 (HBL.out.trans ((HB.out.trans (HB2.out.mono (by omega))).mono (Nat.le_succ _))) (Nat.le_refl _)) HLS.out
          | good cs =>
            have hcc' : runC rows.length (chop (((bl s).drop f).take (e - f))) f [] = .good cs := hcc
            rw [hcc'] at hls
            simp only at hls
            have h16 : cs.length ≤ 16 := runC_len _ _ _ _ _ hcc' (by simp)
            have CL2 : Hid (Calls Tryd.prog 56 #[.string s, .int .i64 (f : Nat), .int .i64 (e : Nat), .int .i64 (rows.length : Nat)] wc fun en w' => Below wc.heap.size wc w' ∧ ∃ v, en = .returned (.tuple #[v, .int .i64 0, .int .i64 0]) ∧ w'.ownsRow wc.heap.size 88 3 v cs.length (cellsV cs)) := Lib.hid (CL.out.mono (fun en w' h => by unfold LinePost at h; rw [hcc] at h; exact ⟨h.1, h.2.2⟩))
            by_cases hcs : cs = []
            · subst hcs
              rw [if_pos rfl] at hls
              have HLS := Lib.hid hls.symm
              clear hls hcc hcc' CL
              go_wp2_with (go_at_call 56; refine CL2.out.mono ?_; rintro en w2 ⟨hb2, v9, rfl, ho9⟩; obtain ⟨A9, c9, rfl⟩ := own_form3 ho9; have HR2 := Lib.hid (HR.out.below hb2); have HB2 : Hid (Below (w.heap.size + 1) (w.alloc grid0) w2) := Lib.hid (HB.out.trans (hb2.mono (by omega))); clear hb2 ho9)
              go_roundg g'
              case measure => omega
              case rel => exact ⟨e + 1, rows, vs, by go_num, by omega, by omega, hrl, HR2, HB2, HLS, HS⟩
            · rw [if_neg hcs] at hls
              have hl1 : 0 < cs.length := List.length_pos_iff.2 hcs
              have hr16 : rows.length < 16 := by
                rcases Nat.lt_or_ge rows.length 16 with h | h
                · exact h
                · have : rows.length = 16 := by omega
                  rw [this] at hcc'
                  exact absurd (runC_full _ _ _ hcc') hcs
              have t2 : (0 : Int) < (cs.length : Int) := by omega
              by_cases hr0 : rows = []
              · have hn0 : ¬ (rows ≠ [] ∧ (rows.headD []).length ≠ cs.length) := fun h => h.1 hr0
                rw [if_neg hn0] at hls
                have HLS := Lib.hid hls.symm
                have HSN := Lib.hid (HS.out.snoc hcs h16 hr16 hn0)
                have hrz : rows.length = 0 := by rw [hr0]; rfl
                have t3 : decide ((0 : Int) < (rows.length : Int)) = false := by rw [hrz]; rfl
                have t3' : ¬ (0 : Int) < (rows.length : Int) := by omega
                clear hls hcc hcc' CL hn0 hr0 hcs hrz
                go_wp2_with (first
                  | (go_at_call 56; refine CL2.out.mono ?_; rintro en w2 ⟨hb2, v9, rfl, ho9⟩; obtain ⟨A9, c9, rfl⟩ := own_form3 ho9; have HB2 := Lib.hid hb2; have HO9 := Lib.hid ho9; have HR2 := Lib.hid (HR.out.below hb2); have z2 := hb2.size; clear hb2 ho9)
                  | (at_builtin; refine wpList_append_own_at _ rfl (.tmp 69) (.tmp 71) 81 rfl (w.heap.size + 1) 82 i0 (.slice none 0 0) 1 24 Tryd.underlying81 hi hz0 hz1 hz2 rfl (by decide) _ _ _ rfl (HR2.out.own.alloc _) ⟨w2.heap.size, 0, none⟩ 1 1 [.slice A9 cs.length c9] rfl rfl (cell_one_new _ _ _) (by simp [Value.oneCell']) (by unfold maxLen; omega) (by omega) (by simp; omega) ?_; intro v3 w3 hown3 hg3 _ _; have HR3 := Lib.hid (((HR2.out).below ((Below.refl _ w2).alloc (Nat.le_refl _) _)).snoc ((own_base HO9.out (show w.heap.size + 1 ≤ wc.heap.size by omega)).alloc _) hg3 hown3); have HB3 : Hid (Below (w.heap.size + 1) (w.alloc grid0) w3) := Lib.hid (((HB.out.trans (HB2.out.mono (by omega))).alloc (by omega) _).grown hg3 (by simp; omega) (fun k hk => (HR2.out.own.lt k hk).1)); clear hown3 hg3))
                go_roundg g'
                case measure => omega
                case rel => exact ⟨e + 1, rows ++ [cs], vs ++ [.slice A9 cs.length c9], by go_num, by omega, by omega, by rw [List.length_append]; simp; omega, HR3, HB3, HLS, HSN⟩
              · obtain ⟨r0, rs, hrr⟩ := List.exists_cons_of_ne_nil hr0
                have hhd : rows.headD [] = r0 := by rw [hrr]; rfl
                rw [hhd] at hls
                have hrz : 0 < rows.length := List.length_pos_iff.2 hr0
                have t3 : (0 : Int) < (rows.length : Int) := by omega
                obtain ⟨v0, hv0, ho0⟩ := HR.out.row 0 r0 (by rw [hrr]; rfl)
                obtain ⟨A0, c0, rfl⟩ := own_form3 ho0
                obtain ⟨gr, capr, ev9, hgr⟩ : ∃ g cap, (Value.slice Ar rows.length cr) = .slice (some ⟨g, 0, none⟩) rows.length cap ∧ w.heap.size + 1 ≤ g := by
                  rcases HR.out.own.2 with ⟨_, e2⟩ | ⟨g, cap, cur, e1, hb, _⟩
                  · omega
                  · exact ⟨g, cap, e1, hb⟩
                injection ev9 with ev1 ev2 ev3
                subst ev1; subst ev3
                have d0 := (HR.out.own.cellAt 0 (by omega)).trans hv0
                have hlr0 : r0.length ≤ 16 := (HS.out.row r0 (by rw [hrr]; simp)).2.1
                by_cases hw : r0.length = cs.length
                · have hn0 : ¬ (rows ≠ [] ∧ r0.length ≠ cs.length) := fun h => h.2 hw
                  rw [if_neg hn0] at hls
                  have HLS := Lib.hid hls.symm
                  have HSN := Lib.hid (HS.out.snoc hcs h16 hr16 (by rw [hhd]; exact hn0))
                  have t4 : ((r0.length : Int) != (cs.length : Int)) = false := by rw [hw]; simp
                  have HD0 := Lib.hid d0
                  clear hls hcc hcc' CL hn0 hr0 hcs hrr hhd hv0 ho0 d0 hw
                  go_wp2_with (first
                    | (go_at_call 56; refine CL2.out.mono ?_; rintro en w2 ⟨hb2, v9, rfl, ho9⟩; obtain ⟨A9, c9, rfl⟩ := own_form3 ho9; have HB2 := Lib.hid hb2; have HO9 := Lib.hid ho9; have HR2 := Lib.hid (HR.out.below hb2); have z2 := hb2.size; have d2 := Below.cell_of hb2 HD0.out; clear hb2 ho9)
                    | (at_builtin; refine wpList_append_own_at _ rfl (.tmp 69) (.tmp 71) 81 rfl (w.heap.size + 1) 82 i0 (.slice none 0 0) 1 24 Tryd.underlying81 hi hz0 hz1 hz2 rfl (by decide) _ _ _ rfl (HR2.out.own.alloc _) ⟨w2.heap.size, 0, none⟩ 1 1 [.slice A9 cs.length c9] rfl rfl (cell_one_new _ _ _) (by simp [Value.oneCell']) (by unfold maxLen; omega) (by omega) (by simp; omega) ?_; intro v3 w3 hown3 hg3 _ _; have HR3 := Lib.hid (((HR2.out).below ((Below.refl _ w2).alloc (Nat.le_refl _) _)).snoc ((own_base HO9.out (show w.heap.size + 1 ≤ wc.heap.size by omega)).alloc _) hg3 hown3); have HB3 : Hid (Below (w.heap.size + 1) (w.alloc grid0) w3) := Lib.hid (((HB.out.trans (HB2.out.mono (by omega))).alloc (by omega) _).grown hg3 (by simp; omega) (fun k hk => (HR2.out.own.lt k hk).1)); clear hown3 hg3))
                  go_roundg g'
                  case measure => omega
                  case rel => exact ⟨e + 1, rows ++ [cs], vs ++ [.slice A9 cs.length c9], by go_num, by omega, by omega, by rw [List.length_append]; simp; omega, HR3, HB3, HLS, HSN⟩
                · rw [if_pos ⟨hr0, hw⟩] at hls
                  have HLS := Lib.hid hls
                  have t4 : ((r0.length : Int) != (cs.length : Int)) = true := by simp; omega
                  have HD0 := Lib.hid d0
                  clear hls hcc hcc' CL hr0 hcs hrr hhd hv0 ho0 d0 hw
                  go_wp2_with (go_at_call 56; refine CL2.out.mono ?_; rintro en w2 ⟨hb2, v9, rfl, ho9⟩; obtain ⟨A9, c9, rfl⟩ := own_form3 ho9; have HB2 := Lib.hid hb2; have HG2 := Lib.hid ((hb2.block w.heap.size (by omega)).trans HG5.out); have p0 := Lib.cell_of_heap HG2.out 0; have p1 := Lib.cell_of_heap HG2.out 1; have p2 := Lib.cell_of_heap HG2.out 2; have p3 := Lib.cell_of_heap HG2.out 3; have p4 := Lib.cell_of_heap HG2.out 4; have f0 := Lib.frozen_of_heap HG2.out 0; have f1 := Lib.frozen_of_heap HG2.out 1; have f2 := Lib.frozen_of_heap HG2.out 2; have f3 := Lib.frozen_of_heap HG2.out 3; have f4 := Lib.frozen_of_heap HG2.out 4; have z2 := hb2.size; have d2 := (Below.cell_of hb2 HD0.out); clear hb2 ho9)
                  exact refBad (g := w.heap.size) (t := 45) rfl rfl rfl rfl (stored5 _ _ _ _ _ HG2.out) (below5 (HBL.out.trans ((HB.out.trans (HB2.out.mono (by omega))).mono (Nat.le_succ _))) (Nat.le_refl _)) HLS.out
      · have hfin : finL s.size rows = parseL (bl s) := by
          have h := HC.out
          unfold contR at h
          rw [if_neg (by rw [bl_length]; omega), bl_length] at h
          exact h
        have t1 : ¬ (f : Int) < (s.size : Int) := by omega
        have HG5 : Hid (w5.heap[w.heap.size]? = some grid0) := Lib.hid ((HB.out.block w.heap.size (by omega)).trans HAL.out)
        by_cases hr0 : rows.length = 0
        · have hp : parseL (bl s) = .bad s.size 82 := by rw [← hfin]; unfold finL; rw [if_pos hr0]
          have t2 : ((rows.length : Int) == 0) = true := by simpa using hr0
          have HP := Lib.hid hp
          have p0 := Lib.cell_of_heap HG5.out 0; have p1 := Lib.cell_of_heap HG5.out 1; have p2 := Lib.cell_of_heap HG5.out 2; have p3 := Lib.cell_of_heap HG5.out 3; have p4 := Lib.cell_of_heap HG5.out 4; have f0 := Lib.frozen_of_heap HG5.out 0; have f1 := Lib.frozen_of_heap HG5.out 1; have f2 := Lib.frozen_of_heap HG5.out 2; have f3 := Lib.frozen_of_heap HG5.out 3; have f4 := Lib.frozen_of_heap HG5.out 4
          clear hfin hr0 hp
          go_wp2
          exact refBad (g := w.heap.size) (t := 45) rfl rfl rfl rfl (stored5 _ _ _ _ _ HG5.out) (below5 (HBL.out.trans (HB.out.mono (Nat.le_succ _))) (Nat.le_refl _)) HP.out
        · obtain ⟨r0, rs, hrr⟩ := List.exists_cons_of_ne_nil (show rows ≠ [] from fun h => hr0 (by rw [h]; rfl))
          have hhd : rows.headD [] = r0 := by rw [hrr]; rfl
          have hrz : 0 < rows.length := by omega
          have t2 : ((rows.length : Int) == 0) = false := beq_eq_false_iff_ne.2 (by omega)
          have t3 : (0 : Int) < (rows.length : Int) := by omega
          obtain ⟨v0, hv0, ho0⟩ := HR.out.row 0 r0 (by rw [hrr]; rfl)
          obtain ⟨A0, c0, rfl⟩ := own_form3 ho0
          obtain ⟨gr, capr, ev9, hgr⟩ : ∃ g cap, (Value.slice Ar rows.length cr) = .slice (some ⟨g, 0, none⟩) rows.length cap ∧ w.heap.size + 1 ≤ g := by
            rcases HR.out.own.2 with ⟨_, e2⟩ | ⟨g, cap, cur, e1, hb, _⟩
            · omega
            · exact ⟨g, cap, e1, hb⟩
          injection ev9 with ev1 ev2 ev3
          subst ev1; subst ev3
          have d0 := (HR.out.own.cellAt 0 (by omega)).trans hv0
          have q1 := (HS.out.row r0 (by rw [hrr]; simp)).1
          have q2 := (HS.out.row r0 (by rw [hrr]; simp)).2.1
          have hall : ∀ r ∈ rows, r.length = r0.length := fun r hr => by rw [← hhd]; exact (HS.out.row r hr).2.2
          obtain ⟨hfl, hfa⟩ := flat_at r0.length q1 rows hall
          have hgd : gdOf (rdRows rows 0) = ⟨rows.length, r0.length, rows.flatten.map (·.1), rows.flatten.map (·.2.1), rows.flatten.map (·.2.2)⟩ := by rw [grid_rows, hhd]
          unfold finL at hfin
          rw [if_neg hr0, hgd] at hfin
          have hdv : ∀ i, i < rows.length * r0.length → i / r0.length < rows.length := fun i h => by rw [Nat.div_lt_iff_lt_mul (by omega)]; exact h
          generalize hW0 : r0.length = W0 at *
          obtain ⟨n, hn⟩ : ∃ n, rows.length * W0 = n := ⟨_, rfl⟩
          have hn256 : n ≤ 256 := by rw [← hn]; exact Nat.mul_le_mul hrl q2
          have kw : (rows.length : Int) * (W0 : Int) = (n : Int) := by rw [← hn]; push_cast; rfl
          have CB := Lib.hid (refBlank_any rows.length W0 n w5 hrz hrl q1 q2 hn)
          rw [hn] at hfl hfa hdv
          have HFA := Lib.hid hfa; have HDV := Lib.hid hdv; have HALL := Lib.hid hall; have HFL := Lib.hid hfl; have HFIN := Lib.hid hfin; have HD0 := Lib.hid d0
          clear hfin hr0 hrr hhd hv0 ho0 d0 hall hfl hfa hgd hdv hW0 hn
          have d0 := HD0.out
          go_wp2_with (go_at_call 57; refine CB.out.mono ?_; rintro en w2 ⟨a, b, d, rfl, hR3⟩; have HR3 := Lib.hid hR3; have z2 := hR3.below.size; clear hR3 d0)
          have hfi := FillAt.start HR3.out hn256
          have hgh := World.alloc_heap_new w2 (.cells #[.int .i64 (rows.length : Int), .int .i64 (W0 : Int), .slice (some ⟨a, 0, none⟩) n n, .slice (some ⟨b, 0, none⟩) n n, .slice (some ⟨d, 0, none⟩) n n] 45)
          have hb2 : Below w5.heap.size w5 (w2.alloc (.cells #[.int .i64 (rows.length : Int), .int .i64 (W0 : Int), .slice (some ⟨a, 0, none⟩) n n, .slice (some ⟨b, 0, none⟩) n n, .slice (some ⟨d, 0, none⟩) n n] 45)) := HR3.out.below.alloc HR3.out.below.size _
          have hf2 := hfi.below ((Below.refl w2.heap.size w2).alloc (Nat.le_refl _) (.cells #[.int .i64 (rows.length : Int), .int .i64 (W0 : Int), .slice (some ⟨a, 0, none⟩) n n, .slice (some ⟨b, 0, none⟩) n n, .slice (some ⟨d, 0, none⟩) n n] 45))
          have la := (own_type hfi.oa a rfl); have lb := (own_type hfi.ob b rfl); have ld := (own_type hfi.od d rfl)
          have la2 : a < w2.heap.size := by obtain ⟨c, h⟩ := la; exact (Array.getElem?_eq_some_iff.1 h).1
          have lb2 : b < w2.heap.size := by obtain ⟨c, h⟩ := lb; exact (Array.getElem?_eq_some_iff.1 h).1
          have ld2 : d < w2.heap.size := by obtain ⟨c, h⟩ := ld; exact (Array.getElem?_eq_some_iff.1 h).1
          have la1 := HR3.out.la; have lb1 := HR3.out.lb; have ld1 := HR3.out.ld
          have hab := HR3.out.ab; have had := HR3.out.ad; have hbd := HR3.out.bd
          have HFI := Lib.hid hf2; have HGH := Lib.hid hgh; have HB2 := Lib.hid hb2
          clear hfi hf2 hgh hb2 la lb ld
          go_loopg [13, 14] n (fun gf u13 u14 wr => ∃ i : Nat, u13 = .int .i64 i ∧ i ≤ n ∧ n ≤ i + gf ∧ Hid (wr.heap[w2.heap.size]? = some (.cells #[.int .i64 (rows.length : Int), .int .i64 (W0 : Int), .slice (some ⟨a, 0, none⟩) n n, .slice (some ⟨b, 0, none⟩) n n, .slice (some ⟨d, 0, none⟩) n n] 45 (0, 0))) ∧ Hid (Below w5.heap.size w5 wr) ∧ Hid (FillAt wr a b d n (tk (rows.flatten.map (·.1)) n i) (tk (rows.flatten.map (·.2.1)) n i) (tk (rows.flatten.map (·.2.2)) n i)))
          case atStart => exact ⟨0, rfl, Nat.zero_le _, by omega, HGH, HB2, Lib.hid (by rw [tk_zero, tk_zero, tk_zero]; exact HFI.out)⟩
          case round =>
            rename World => w6
            obtain ⟨i, rfl, hin, hiu, HG6, HB6, HF6⟩ := hrel
            have z6 := HB6.out.size
            have z7 : w2.heap.size < w6.heap.size := (Array.getElem?_eq_some_iff.1 HG6.out).1
            have g0 := Lib.cell_of_heap HG6.out 0; have g1 := Lib.cell_of_heap HG6.out 1; have g2 := Lib.cell_of_heap HG6.out 2; have g3 := Lib.cell_of_heap HG6.out 3; have g4 := Lib.cell_of_heap HG6.out 4
            by_cases hlt : i < n
            · obtain ⟨g', rfl⟩ : ∃ g', gk = g' + 1 := ⟨gk - 1, by omega⟩
              have hqr := HDV.out i hlt
              have hmr : i % W0 < W0 := Nat.mod_lt _ (by omega)
              have k3 : (i : Int).tmod (W0 : Int) = ((i % W0 : Nat) : Int) := rfl
              have k4 : (i : Int).tdiv (W0 : Int) = ((i / W0 : Nat) : Int) := rfl
              have hfi := HFA.out i hlt
              generalize i % W0 = m at *
              generalize i / W0 = q at *
              have hrq : rows[q]? = some (rows[q]'hqr) := List.getElem?_eq_getElem hqr
              have hlen := HALL.out _ (List.getElem_mem hqr)
              have hgD : rows.getD q [] = rows[q]'hqr := by rw [List.getD_eq_getElem?_getD, hrq]; rfl
              rw [hgD] at hfi
              obtain ⟨vq, hvq, hoq⟩ := (HR.out.below HB6.out).row q _ hrq
              have hmq : m < (rows[q]'hqr).length := by omega
              have hfi2 := hfi.trans (List.getElem?_eq_getElem hmq)
              obtain ⟨gq, capq, rfl, _⟩ := own_head3 hoq (by omega)
              rw [hlen] at hoq
              have e1 := ((HR.out.below HB6.out).own.cellAt q (by omega)).trans hvq
              have e2 := (hoq.cellAt (m * 3) (by omega)).trans (cellsV_at _ hmq).1
              have e3 := (hoq.cellAt (m * 3 + 1) (by omega)).trans (cellsV_at _ hmq).2.1
              have e4 := (hoq.cellAt (m * 3 + 2) (by omega)).trans (cellsV_at _ hmq).2.2
              rw [hlen] at e1
              have x1 : (rows.flatten.map (·.1))[i]? = some ((rows[q]'hqr)[m]'hmq).1 := by rw [List.getElem?_map, hfi2]; rfl
              have x2 : (rows.flatten.map (·.2.1))[i]? = some ((rows[q]'hqr)[m]'hmq).2.1 := by rw [List.getElem?_map, hfi2]; rfl
              have x3 : (rows.flatten.map (·.2.2))[i]? = some ((rows[q]'hqr)[m]'hmq).2.2 := by rw [List.getElem?_map, hfi2]; rfl
              have y1 := tk_set _ n i (by rw [List.length_map]; exact HFL.out) hlt _ x1
              have y2 := tk_set _ n i (by rw [List.length_map]; exact HFL.out) hlt _ x2
              have y3 := tk_set _ n i (by rw [List.length_map]; exact HFL.out) hlt _ x3
              have hF6 := HF6.out
              obtain ⟨v1, n1⟩ : ∃ v, w6.cell? ⟨a, i, none⟩ = some v := ⟨_, (hF6.oa.cellAt i (by omega)).trans (List.getElem?_eq_getElem (by rw [List.length_map, tk_len _ n i (by rw [List.length_map]; exact HFL.out) hin]; exact hlt))⟩
              obtain ⟨v2, n2⟩ : ∃ v, w6.cell? ⟨b, i, none⟩ = some v := ⟨_, (hF6.ob.cellAt i (by omega)).trans (List.getElem?_eq_getElem (by rw [List.length_map, tk_len _ n i (by rw [List.length_map]; exact HFL.out) hin]; exact hlt))⟩
              obtain ⟨v3, n3⟩ : ∃ v, w6.cell? ⟨d, i, none⟩ = some v := ⟨_, (hF6.od.cellAt i (by omega)).trans (List.getElem?_eq_getElem (by rw [List.length_map, tk_len _ n i (by rw [List.length_map]; exact HFL.out) hin]; exact hlt))⟩
              have m1 := hF6.oa.frozenAt i; have m2 := hF6.ob.frozenAt i; have m3 := hF6.od.frozenAt i
              have s0 : (0 : Int) ≤ (q : Int) := by omega
              have s1 : (q : Int) < (rows.length : Int) := by omega
              have s2 : (0 : Int) ≤ (m : Int) := by omega
              have s3 : (m : Int) < (W0 : Int) := by omega
              have s4 : (0 : Int) ≤ (i : Int) := by omega
              have s5 : (i : Int) < (n : Int) := by omega
              have s6 : ¬ (W0 : Int) = 0 := by omega
              have s6' : ¬ W0 = 0 := by omega
              have s7 : gr < w6.heap.size := World.block_lt_of_cell? w6 _ e1
              have s8 : gq < w6.heap.size := World.block_lt_of_cell? w6 _ e2
              have s12 : a ≠ w6.heap.size := by omega
              have s13 : b ≠ w6.heap.size := by omega
              have s14 : d ≠ w6.heap.size := by omega
              have s9 : gr ≠ w6.heap.size := by omega
              have s10 : gq ≠ w6.heap.size := by omega
              have s11 : w2.heap.size ≠ w6.heap.size := by omega
              generalize ((rows[q]'hqr)[m]'hmq).1 = x at *
              generalize ((rows[q]'hqr)[m]'hmq).2.1 = y at *
              generalize ((rows[q]'hqr)[m]'hmq).2.2 = z at *
              have Y1 := Lib.hid y1; have Y2 := Lib.hid y2; have Y3 := Lib.hid y3; have HF := Lib.hid hF6
              clear y1 y2 y3 x1 x2 x3 hF6 hfi hfi2 hgD hrq hlen hoq hvq
              go_wp2
              go_region
              go_wp2_with fail
              have hzC := World.alloc_heap_new w6 (.cells #[.bool x, .bool y, .bool z] 88)
              have bz := (Below.refl w6.heap.size w6).alloc (Nat.le_refl _) (.cells #[.bool x, .bool y, .bool z] 88)
              have HFz := Lib.hid (HF.out.below bz)
              have HGz := Lib.hid ((bz.block w2.heap.size (by omega)).trans HG6.out)
              have HBz := Lib.hid (HB6.out.trans (bz.mono z6))
              have HZC := Lib.hid hzC
              clear hzC bz
              generalize hWX : (w6.alloc (.cells #[.bool x, .bool y, .bool z] 88)).drew = WX at *
              obtain ⟨W, hWW⟩ : ∃ W, WX.drew = W := ⟨_, rfl⟩
              rw [← hWX] at hWW
              have hHFz : FillAt W a b d n (tk (rows.flatten.map (·.1)) n i) (tk (rows.flatten.map (·.2.1)) n i) (tk (rows.flatten.map (·.2.2)) n i) := by rw [← hWW]; exact (HFz.out.below (Below.refl _ _).drew).below (Below.refl _ _).drew
              have hHGz : W.heap[w2.heap.size]? = some (.cells #[.int .i64 (rows.length : Int), .int .i64 (W0 : Int), .slice (some ⟨a, 0, none⟩) n n, .slice (some ⟨b, 0, none⟩) n n, .slice (some ⟨d, 0, none⟩) n n] 45 (0, 0)) := by rw [← hWW]; exact HGz.out
              have hHBz : Below w5.heap.size w5 W := by rw [← hWW]; exact HBz.out.drew.drew
              have hHZC : W.heap[w6.heap.size]? = some (.cells #[.bool x, .bool y, .bool z] 88 (0, 0)) := by rw [← hWW]; exact HZC.out
              have hCL : ∀ L, (fW W a b d i x y z L).cell? ⟨w2.heap.size, 2, none⟩ = some (.slice (some ⟨a, 0, none⟩) n n) ∧ (fW W a b d i x y z L).cell? ⟨w2.heap.size, 3, none⟩ = some (.slice (some ⟨b, 0, none⟩) n n) ∧ (fW W a b d i x y z L).cell? ⟨w2.heap.size, 4, none⟩ = some (.slice (some ⟨d, 0, none⟩) n n) ∧ (fW W a b d i x y z L).cell? ⟨w6.heap.size, 0, none⟩ = some (.bool x) ∧ (fW W a b d i x y z L).cell? ⟨w6.heap.size, 1, none⟩ = some (.bool y) ∧ (fW W a b d i x y z L).cell? ⟨w6.heap.size, 2, none⟩ = some (.bool z) := fun L => by
                have h1 := fun p (hp : p.block = w2.heap.size) => fW_cell W a b d i x y z L p (by omega) (by omega) (by omega)
                have h2 := fun p (hp : p.block = w6.heap.size) => fW_cell W a b d i x y z L p (by omega) (by omega) (by omega)
                exact ⟨(h1 _ rfl).trans (Lib.cell_of_heap hHGz 2), (h1 _ rfl).trans (Lib.cell_of_heap hHGz 3), (h1 _ rfl).trans (Lib.cell_of_heap hHGz 4), (h2 _ rfl).trans (Lib.cell_of_heap hHZC 0), (h2 _ rfl).trans (Lib.cell_of_heap hHZC 1), (h2 _ rfl).trans (Lib.cell_of_heap hHZC 2)⟩
              have HCELL := Lib.hid hCL
              have st : ∀ {W : World} {g : Nat} {l : List Bool}, W.ownsRow g 4 1 (.slice (some ⟨g, 0, none⟩) n n) n (bools l) → ∃ v, W.cell? ⟨g, i, none⟩ = some v ∧ W.frozen? ⟨g, i, none⟩ = false := fun h => by
                have hl := h.1
                exact ⟨_, (h.cellAt i (by omega)).trans (List.getElem?_eq_getElem (by omega)), h.frozenAt i⟩
              obtain ⟨v1, q1', q1''⟩ := st hHFz.oa
              obtain ⟨v2, q2', q2''⟩ := st (hHFz.setA i x).ob
              obtain ⟨v3, q3', q3''⟩ := st ((hHFz.setA i x).setB i y).od
              have HST16 := Lib.hid (And.intro q1' q1''); have HST18 := Lib.hid (And.intro q2' q2''); have HST20 := Lib.hid (And.intro q3' q3'')
              have HFN := Lib.hid (((hHFz.setA i x).setB i y).setD i z)
              rw [Y1.out, Y2.out, Y3.out] at HFN
              have HBN : Hid (Below w5.heap.size w5 (((W.setCell ⟨a, i, none⟩ (.bool x)).setCell ⟨b, i, none⟩ (.bool y)).setCell ⟨d, i, none⟩ (.bool z))) := Lib.hid (((hHBz.setCell (p := ⟨a, i, none⟩) (show w5.heap.size ≤ a by omega) _).setCell (p := ⟨b, i, none⟩) (show w5.heap.size ≤ b by omega) _).setCell (p := ⟨d, i, none⟩) (show w5.heap.size ≤ d by omega) _)
              have HGN : Hid ((((W.setCell ⟨a, i, none⟩ (.bool x)).setCell ⟨b, i, none⟩ (.bool y)).setCell ⟨d, i, none⟩ (.bool z)).heap[w2.heap.size]? = some (.cells #[.int .i64 (rows.length : Int), .int .i64 (W0 : Int), .slice (some ⟨a, 0, none⟩) n n, .slice (some ⟨b, 0, none⟩) n n, .slice (some ⟨d, 0, none⟩) n n] 45 (0, 0))) := Lib.hid (by
                rw [Below.heap_setCell _ _ _ _ (by show w2.heap.size ≠ d; omega), Below.heap_setCell _ _ _ _ (by show w2.heap.size ≠ b; omega), Below.heap_setCell _ _ _ _ (by show w2.heap.size ≠ a; omega)]
                exact hHGz)
              clear st q1' q1'' q2' q2'' q3' q3'' hCL hHZC hHBz hHGz hHFz HFz HGz HBz HZC e1 e2 e3 e4 n1 n2 n3 m1 m2 m3 g0 g1 g2 g3 g4
              refine wp_named fun ac hac => ?_
              refine wp_mono (Q := fun e a' w' => match e with | .normal => FDone W w2.heap.size a b d w6.heap.size i n x y z (fun k => ac.tmps.getD k undef) a' w' | _ => False) ?_ ?_
              · have hF11 : ac.tmps.getD 11 undef = .pointer (some ⟨w2.heap.size, 0, none⟩) := by rw [hac]; rfl
                have hF13 : ac.tmps.getD 13 undef = .int .i64 (i : Nat) := by rw [hac]; rfl
                have hF14 : ac.tmps.getD 14 undef = .pointer (some ⟨w6.heap.size, 0, none⟩) := by rw [hac]; rfl
                have hst : ac = fFr (fun k => ac.tmps.getD k undef) (fun _ => false) (fV w2.heap.size a b d w6.heap.size i n x y z) := by rw [hac]; rfl
                clear hac
                have hstart := FInv_start (W := W) hst
                clear hst
                generalize w2.heap.size = G at *
                generalize w6.heap.size = C at *
                refine wp_region_any (by kernel_rfl) (wpAny_inv (FInv W G a b d C i n x y z (fun k => ac.tmps.getD k undef)) ?_ ?_ ?_ _ _ _ _ ?_ (by decide))
                · rintro l ac w9 k9 ⟨L, rfl, rfl, rfl, S⟩ hi9
                  obtain ⟨hl, o', ho, hall⟩ := mem_ready.1 hi9
                  have hi21 : k9 < 21 := by simpa using (Array.getElem?_eq_some_iff.1 ho).1
                  have HS := Lib.hid S
                  have hcase : k9 = 0 ∨ k9 = 1 ∨ k9 = 2 ∨ k9 = 3 ∨ k9 = 4 ∨ k9 = 5 ∨ k9 = 6 ∨ k9 = 7 ∨ k9 = 8 ∨ k9 = 9 ∨ k9 = 10 ∨ k9 = 11 ∨ k9 = 12 ∨ k9 = 13 ∨ k9 = 14 ∨ k9 = 15 ∨ k9 = 16 ∨ k9 = 17 ∨ k9 = 18 ∨ k9 = 19 ∨ k9 = 20 := by omega
                  clear S
                  rcases hcase with rfl | rfl | rfl | rfl | rfl | rfl | rfl | rfl | rfl | rfl | rfl | rfl | rfl | rfl | rfl | rfl | rfl | rfl | rfl | rfl | rfl
                  · obtain rfl := Option.some.inj ho
                    have hanc : ∀ a ∈ ancF 0, L a = true := by
                      intro a ha
                      cases ha
                    refine wpOp_ok (.pointer (some ⟨G, 2, none⟩)) (fW W a b d i x y z L) rfl rfl (by simp only [fFr, cond_true, fV, hF11, hF13, hF14]; go_simp) ⟨updF L 0 true, rfl, rfl, (by unfold fW updF; rfl), ancF_upd HS.out hanc⟩
                  · obtain rfl := Option.some.inj ho
                    have d0 : L 0 = true := hall ⟨0, .data⟩ (by simp) rfl
                    have hanc : ∀ a ∈ ancF 1, L a = true := by
                      intro a ha
                      have hcl : a = 0 ∨ a ∈ ancF 0 := by revert a; decide
                      rcases hcl with rfl | h9
                      · exact d0
                      · exact HS.out 0 d0 a h9
                    obtain ⟨c1, c4, c7, c10, c12, c14⟩ := HCELL.out L
                    refine wpOp_ok (.slice (some ⟨a, 0, none⟩) n n) (fW W a b d i x y z L) rfl rfl (by simp only [fFr, d0, cond_true, fV, hF11, hF13, hF14]; go_simp) ⟨updF L 1 true, rfl, rfl, (by unfold fW updF; rfl), ancF_upd HS.out hanc⟩
                  · obtain rfl := Option.some.inj ho
                    have hanc : ∀ a ∈ ancF 2, L a = true := by
                      intro a ha
                      cases ha
                    refine wpOp_ok (.int .i64 (i : Nat)) (fW W a b d i x y z L) rfl rfl (by simp only [fFr, cond_true, fV, hF11, hF13, hF14]; go_simp) ⟨updF L 2 true, rfl, rfl, (by unfold fW updF; rfl), ancF_upd HS.out hanc⟩
                  · obtain rfl := Option.some.inj ho
                    have hanc : ∀ a ∈ ancF 3, L a = true := by
                      intro a ha
                      cases ha
                    refine wpOp_ok (.pointer (some ⟨G, 3, none⟩)) (fW W a b d i x y z L) rfl rfl (by simp only [fFr, cond_true, fV, hF11, hF13, hF14]; go_simp) ⟨updF L 3 true, rfl, rfl, (by unfold fW updF; rfl), ancF_upd HS.out hanc⟩
                  · obtain rfl := Option.some.inj ho
                    have d3 : L 3 = true := hall ⟨3, .data⟩ (by simp) rfl
                    have hanc : ∀ a ∈ ancF 4, L a = true := by
                      intro a ha
                      have hcl : a = 3 ∨ a ∈ ancF 3 := by revert a; decide
                      rcases hcl with rfl | h9
                      · exact d3
                      · exact HS.out 3 d3 a h9
                    obtain ⟨c1, c4, c7, c10, c12, c14⟩ := HCELL.out L
                    refine wpOp_ok (.slice (some ⟨b, 0, none⟩) n n) (fW W a b d i x y z L) rfl rfl (by simp only [fFr, d3, cond_true, fV, hF11, hF13, hF14]; go_simp) ⟨updF L 4 true, rfl, rfl, (by unfold fW updF; rfl), ancF_upd HS.out hanc⟩
                  · obtain rfl := Option.some.inj ho
                    have hanc : ∀ a ∈ ancF 5, L a = true := by
                      intro a ha
                      cases ha
                    refine wpOp_ok (.int .i64 (i : Nat)) (fW W a b d i x y z L) rfl rfl (by simp only [fFr, cond_true, fV, hF11, hF13, hF14]; go_simp) ⟨updF L 5 true, rfl, rfl, (by unfold fW updF; rfl), ancF_upd HS.out hanc⟩
                  · obtain rfl := Option.some.inj ho
                    have hanc : ∀ a ∈ ancF 6, L a = true := by
                      intro a ha
                      cases ha
                    refine wpOp_ok (.pointer (some ⟨G, 4, none⟩)) (fW W a b d i x y z L) rfl rfl (by simp only [fFr, cond_true, fV, hF11, hF13, hF14]; go_simp) ⟨updF L 6 true, rfl, rfl, (by unfold fW updF; rfl), ancF_upd HS.out hanc⟩
                  · obtain rfl := Option.some.inj ho
                    have d6 : L 6 = true := hall ⟨6, .data⟩ (by simp) rfl
                    have hanc : ∀ a ∈ ancF 7, L a = true := by
                      intro a ha
                      have hcl : a = 6 ∨ a ∈ ancF 6 := by revert a; decide
                      rcases hcl with rfl | h9
                      · exact d6
                      · exact HS.out 6 d6 a h9
                    obtain ⟨c1, c4, c7, c10, c12, c14⟩ := HCELL.out L
                    refine wpOp_ok (.slice (some ⟨d, 0, none⟩) n n) (fW W a b d i x y z L) rfl rfl (by simp only [fFr, d6, cond_true, fV, hF11, hF13, hF14]; go_simp) ⟨updF L 7 true, rfl, rfl, (by unfold fW updF; rfl), ancF_upd HS.out hanc⟩
                  · obtain rfl := Option.some.inj ho
                    have hanc : ∀ a ∈ ancF 8, L a = true := by
                      intro a ha
                      cases ha
                    refine wpOp_ok (.int .i64 (i : Nat)) (fW W a b d i x y z L) rfl rfl (by simp only [fFr, cond_true, fV, hF11, hF13, hF14]; go_simp) ⟨updF L 8 true, rfl, rfl, (by unfold fW updF; rfl), ancF_upd HS.out hanc⟩
                  · obtain rfl := Option.some.inj ho
                    have hanc : ∀ a ∈ ancF 9, L a = true := by
                      intro a ha
                      cases ha
                    refine wpOp_ok (.pointer (some ⟨C, 0, none⟩)) (fW W a b d i x y z L) rfl rfl (by simp only [fFr, cond_true, fV, hF11, hF13, hF14]; go_simp) ⟨updF L 9 true, rfl, rfl, (by unfold fW updF; rfl), ancF_upd HS.out hanc⟩
                  · obtain rfl := Option.some.inj ho
                    have d9 : L 9 = true := hall ⟨9, .data⟩ (by simp) rfl
                    have hanc : ∀ a ∈ ancF 10, L a = true := by
                      intro a ha
                      have hcl : a = 9 ∨ a ∈ ancF 9 := by revert a; decide
                      rcases hcl with rfl | h9
                      · exact d9
                      · exact HS.out 9 d9 a h9
                    obtain ⟨c1, c4, c7, c10, c12, c14⟩ := HCELL.out L
                    refine wpOp_ok (.bool x) (fW W a b d i x y z L) rfl rfl (by simp only [fFr, d9, cond_true, fV, hF11, hF13, hF14]; go_simp) ⟨updF L 10 true, rfl, rfl, (by unfold fW updF; rfl), ancF_upd HS.out hanc⟩
                  · obtain rfl := Option.some.inj ho
                    have hanc : ∀ a ∈ ancF 11, L a = true := by
                      intro a ha
                      cases ha
                    refine wpOp_ok (.pointer (some ⟨C, 1, none⟩)) (fW W a b d i x y z L) rfl rfl (by simp only [fFr, cond_true, fV, hF11, hF13, hF14]; go_simp) ⟨updF L 11 true, rfl, rfl, (by unfold fW updF; rfl), ancF_upd HS.out hanc⟩
                  · obtain rfl := Option.some.inj ho
                    have d11 : L 11 = true := hall ⟨11, .data⟩ (by simp) rfl
                    have hanc : ∀ a ∈ ancF 12, L a = true := by
                      intro a ha
                      have hcl : a = 11 ∨ a ∈ ancF 11 := by revert a; decide
                      rcases hcl with rfl | h9
                      · exact d11
                      · exact HS.out 11 d11 a h9
                    obtain ⟨c1, c4, c7, c10, c12, c14⟩ := HCELL.out L
                    refine wpOp_ok (.bool y) (fW W a b d i x y z L) rfl rfl (by simp only [fFr, d11, cond_true, fV, hF11, hF13, hF14]; go_simp) ⟨updF L 12 true, rfl, rfl, (by unfold fW updF; rfl), ancF_upd HS.out hanc⟩
                  · obtain rfl := Option.some.inj ho
                    have hanc : ∀ a ∈ ancF 13, L a = true := by
                      intro a ha
                      cases ha
                    refine wpOp_ok (.pointer (some ⟨C, 2, none⟩)) (fW W a b d i x y z L) rfl rfl (by simp only [fFr, cond_true, fV, hF11, hF13, hF14]; go_simp) ⟨updF L 13 true, rfl, rfl, (by unfold fW updF; rfl), ancF_upd HS.out hanc⟩
                  · obtain rfl := Option.some.inj ho
                    have d13 : L 13 = true := hall ⟨13, .data⟩ (by simp) rfl
                    have hanc : ∀ a ∈ ancF 14, L a = true := by
                      intro a ha
                      have hcl : a = 13 ∨ a ∈ ancF 13 := by revert a; decide
                      rcases hcl with rfl | h9
                      · exact d13
                      · exact HS.out 13 d13 a h9
                    obtain ⟨c1, c4, c7, c10, c12, c14⟩ := HCELL.out L
                    refine wpOp_ok (.bool z) (fW W a b d i x y z L) rfl rfl (by simp only [fFr, d13, cond_true, fV, hF11, hF13, hF14]; go_simp) ⟨updF L 14 true, rfl, rfl, (by unfold fW updF; rfl), ancF_upd HS.out hanc⟩
                  · obtain rfl := Option.some.inj ho
                    have d1 : L 1 = true := hall ⟨1, .data⟩ (by simp) rfl
                    have d2 : L 2 = true := hall ⟨2, .data⟩ (by simp) rfl
                    have hanc : ∀ a ∈ ancF 15, L a = true := by
                      intro a ha
                      have hcl : a = 1 ∨ a = 2 ∨ a ∈ ancF 1 ∨ a ∈ ancF 2 := by revert a; decide
                      rcases hcl with rfl | rfl | h9 | h9
                      · exact d1
                      · exact d2
                      · exact HS.out 1 d1 a h9
                      · exact HS.out 2 d2 a h9
                    refine wpOp_ok (.pointer (some ⟨a, i, none⟩)) (fW W a b d i x y z L) rfl rfl (by simp only [fFr, d1, d2, cond_true, fV, hF11, hF13, hF14]; go_simp) ⟨updF L 15 true, rfl, rfl, (by unfold fW updF; rfl), ancF_upd HS.out hanc⟩
                  · obtain rfl := Option.some.inj ho
                    have d15 : L 15 = true := hall ⟨15, .data⟩ (by simp) rfl
                    have d10 : L 10 = true := hall ⟨10, .data⟩ (by simp) rfl
                    have hanc : ∀ a ∈ ancF 16, L a = true := by
                      intro a ha
                      have hcl : a = 15 ∨ a = 10 ∨ a ∈ ancF 15 ∨ a ∈ ancF 10 := by revert a; decide
                      rcases hcl with rfl | rfl | h9 | h9
                      · exact d15
                      · exact d10
                      · exact HS.out 15 d15 a h9
                      · exact HS.out 10 d10 a h9
                    have h18 : L 18 = false := Bool.eq_false_iff.2 (fun h => by have h9 := HS.out 18 h 16 (by decide); rw [show L 16 = false from hl] at h9; cases h9)
                    have h20 : L 20 = false := Bool.eq_false_iff.2 (fun h => by have h9 := HS.out 20 h 16 (by decide); rw [show L 16 = false from hl] at h9; cases h9)
                    have hself : L 16 = false := hl
                    have hw : fW W a b d i x y z L = W := by unfold fW; simp only [hself, h18, h20, cond_true, cond_false]
                    rw [hw]
                    obtain ⟨st1, st2⟩ := HST16.out
                    refine wpOp_skip ((W).setCell ⟨a, i, none⟩ (.bool x)) rfl rfl (by simp only [fFr, d15, d10, cond_true, fV, hF11, hF13, hF14]; go_simp) ⟨updF L 16 true, rfl, rfl, ?_, ancF_upd HS.out hanc⟩
                    unfold fW updF
                    simp only [h18, h20, if_true, cond_true, cond_false, Nat.reduceEqDiff, if_false]
                  · obtain rfl := Option.some.inj ho
                    have d4 : L 4 = true := hall ⟨4, .data⟩ (by simp) rfl
                    have d5 : L 5 = true := hall ⟨5, .data⟩ (by simp) rfl
                    have hanc : ∀ a ∈ ancF 17, L a = true := by
                      intro a ha
                      have hcl : a = 4 ∨ a = 5 ∨ a ∈ ancF 4 ∨ a ∈ ancF 5 := by revert a; decide
                      rcases hcl with rfl | rfl | h9 | h9
                      · exact d4
                      · exact d5
                      · exact HS.out 4 d4 a h9
                      · exact HS.out 5 d5 a h9
                    refine wpOp_ok (.pointer (some ⟨b, i, none⟩)) (fW W a b d i x y z L) rfl rfl (by simp only [fFr, d4, d5, cond_true, fV, hF11, hF13, hF14]; go_simp) ⟨updF L 17 true, rfl, rfl, (by unfold fW updF; rfl), ancF_upd HS.out hanc⟩
                  · obtain rfl := Option.some.inj ho
                    have d17 : L 17 = true := hall ⟨17, .data⟩ (by simp) rfl
                    have d12 : L 12 = true := hall ⟨12, .data⟩ (by simp) rfl
                    have d16 : L 16 = true := hall ⟨16, .chain⟩ (by simp) rfl
                    have hanc : ∀ a ∈ ancF 18, L a = true := by
                      intro a ha
                      have hcl : a = 17 ∨ a = 12 ∨ a = 16 ∨ a ∈ ancF 17 ∨ a ∈ ancF 12 ∨ a ∈ ancF 16 := by revert a; decide
                      rcases hcl with rfl | rfl | rfl | h9 | h9 | h9
                      · exact d17
                      · exact d12
                      · exact d16
                      · exact HS.out 17 d17 a h9
                      · exact HS.out 12 d12 a h9
                      · exact HS.out 16 d16 a h9
                    have h20 : L 20 = false := Bool.eq_false_iff.2 (fun h => by have h9 := HS.out 20 h 18 (by decide); rw [show L 18 = false from hl] at h9; cases h9)
                    have hself : L 18 = false := hl
                    have hw : fW W a b d i x y z L = W.setCell ⟨a, i, none⟩ (.bool x) := by unfold fW; simp only [hself, h20, d16, cond_true, cond_false]
                    rw [hw]
                    obtain ⟨st1, st2⟩ := HST18.out
                    refine wpOp_skip ((W.setCell ⟨a, i, none⟩ (.bool x)).setCell ⟨b, i, none⟩ (.bool y)) rfl rfl (by simp only [fFr, d17, d12, d16, cond_true, fV, hF11, hF13, hF14]; go_simp) ⟨updF L 18 true, rfl, rfl, ?_, ancF_upd HS.out hanc⟩
                    unfold fW updF
                    simp only [h20, d16, if_true, cond_true, cond_false, Nat.reduceEqDiff, if_false]
                  · obtain rfl := Option.some.inj ho
                    have d7 : L 7 = true := hall ⟨7, .data⟩ (by simp) rfl
                    have d8 : L 8 = true := hall ⟨8, .data⟩ (by simp) rfl
                    have hanc : ∀ a ∈ ancF 19, L a = true := by
                      intro a ha
                      have hcl : a = 7 ∨ a = 8 ∨ a ∈ ancF 7 ∨ a ∈ ancF 8 := by revert a; decide
                      rcases hcl with rfl | rfl | h9 | h9
                      · exact d7
                      · exact d8
                      · exact HS.out 7 d7 a h9
                      · exact HS.out 8 d8 a h9
                    refine wpOp_ok (.pointer (some ⟨d, i, none⟩)) (fW W a b d i x y z L) rfl rfl (by simp only [fFr, d7, d8, cond_true, fV, hF11, hF13, hF14]; go_simp) ⟨updF L 19 true, rfl, rfl, (by unfold fW updF; rfl), ancF_upd HS.out hanc⟩
                  · obtain rfl := Option.some.inj ho
                    have d19 : L 19 = true := hall ⟨19, .data⟩ (by simp) rfl
                    have d14 : L 14 = true := hall ⟨14, .data⟩ (by simp) rfl
                    have d18 : L 18 = true := hall ⟨18, .chain⟩ (by simp) rfl
                    have hanc : ∀ a ∈ ancF 20, L a = true := by
                      intro a ha
                      have hcl : a = 19 ∨ a = 14 ∨ a = 18 ∨ a ∈ ancF 19 ∨ a ∈ ancF 14 ∨ a ∈ ancF 18 := by revert a; decide
                      rcases hcl with rfl | rfl | rfl | h9 | h9 | h9
                      · exact d19
                      · exact d14
                      · exact d18
                      · exact HS.out 19 d19 a h9
                      · exact HS.out 14 d14 a h9
                      · exact HS.out 18 d18 a h9
                    have hself : L 20 = false := hl
                    have hw : fW W a b d i x y z L = (W.setCell ⟨a, i, none⟩ (.bool x)).setCell ⟨b, i, none⟩ (.bool y) := by unfold fW; simp only [hself, d18, cond_true, cond_false]
                    rw [hw]
                    obtain ⟨st1, st2⟩ := HST20.out
                    refine wpOp_skip (((W.setCell ⟨a, i, none⟩ (.bool x)).setCell ⟨b, i, none⟩ (.bool y)).setCell ⟨d, i, none⟩ (.bool z)) rfl rfl (by simp only [fFr, d19, d14, d18, cond_true, fV, hF11, hF13, hF14]; go_simp) ⟨updF L 20 true, rfl, rfl, ?_, ancF_upd HS.out hanc⟩
                    unfold fW updF
                    simp only [d18, if_true, cond_true, cond_false, Nat.reduceEqDiff, if_false]
                · intro l ac w9 ⟨L, e1, e2, e3, S⟩ hr
                  subst e1
                  subst e2
                  subst e3
                  have t0 : L 0 = true := listedF hr 0 _ rfl (by simp [Region.binds, bnd1, bnd2])
                  have t1 : L 1 = true := listedF hr 1 _ rfl (by simp [Region.binds, bnd1, bnd2, t0])
                  have t2 : L 2 = true := listedF hr 2 _ rfl (by simp [Region.binds, bnd1, bnd2, t0, t1])
                  have t3 : L 3 = true := listedF hr 3 _ rfl (by simp [Region.binds, bnd1, bnd2, t0, t1, t2])
                  have t4 : L 4 = true := listedF hr 4 _ rfl (by simp [Region.binds, bnd1, bnd2, t0, t1, t2, t3])
                  have t5 : L 5 = true := listedF hr 5 _ rfl (by simp [Region.binds, bnd1, bnd2, t0, t1, t2, t3, t4])
                  have t6 : L 6 = true := listedF hr 6 _ rfl (by simp [Region.binds, bnd1, bnd2, t0, t1, t2, t3, t4, t5])
                  have t7 : L 7 = true := listedF hr 7 _ rfl (by simp [Region.binds, bnd1, bnd2, t0, t1, t2, t3, t4, t5, t6])
                  have t8 : L 8 = true := listedF hr 8 _ rfl (by simp [Region.binds, bnd1, bnd2, t0, t1, t2, t3, t4, t5, t6, t7])
                  have t9 : L 9 = true := listedF hr 9 _ rfl (by simp [Region.binds, bnd1, bnd2, t0, t1, t2, t3, t4, t5, t6, t7, t8])
                  have t10 : L 10 = true := listedF hr 10 _ rfl (by simp [Region.binds, bnd1, bnd2, t0, t1, t2, t3, t4, t5, t6, t7, t8, t9])
                  have t11 : L 11 = true := listedF hr 11 _ rfl (by simp [Region.binds, bnd1, bnd2, t0, t1, t2, t3, t4, t5, t6, t7, t8, t9, t10])
                  have t12 : L 12 = true := listedF hr 12 _ rfl (by simp [Region.binds, bnd1, bnd2, t0, t1, t2, t3, t4, t5, t6, t7, t8, t9, t10, t11])
                  have t13 : L 13 = true := listedF hr 13 _ rfl (by simp [Region.binds, bnd1, bnd2, t0, t1, t2, t3, t4, t5, t6, t7, t8, t9, t10, t11, t12])
                  have t14 : L 14 = true := listedF hr 14 _ rfl (by simp [Region.binds, bnd1, bnd2, t0, t1, t2, t3, t4, t5, t6, t7, t8, t9, t10, t11, t12, t13])
                  have t15 : L 15 = true := listedF hr 15 _ rfl (by simp [Region.binds, bnd1, bnd2, t0, t1, t2, t3, t4, t5, t6, t7, t8, t9, t10, t11, t12, t13, t14])
                  have t16 : L 16 = true := listedF hr 16 _ rfl (by simp [Region.binds, bnd1, bnd2, t0, t1, t2, t3, t4, t5, t6, t7, t8, t9, t10, t11, t12, t13, t14, t15])
                  have t17 : L 17 = true := listedF hr 17 _ rfl (by simp [Region.binds, bnd1, bnd2, t0, t1, t2, t3, t4, t5, t6, t7, t8, t9, t10, t11, t12, t13, t14, t15, t16])
                  have t18 : L 18 = true := listedF hr 18 _ rfl (by simp [Region.binds, bnd1, bnd2, t0, t1, t2, t3, t4, t5, t6, t7, t8, t9, t10, t11, t12, t13, t14, t15, t16, t17])
                  have t19 : L 19 = true := listedF hr 19 _ rfl (by simp [Region.binds, bnd1, bnd2, t0, t1, t2, t3, t4, t5, t6, t7, t8, t9, t10, t11, t12, t13, t14, t15, t16, t17, t18])
                  have t20 : L 20 = true := listedF hr 20 _ rfl (by simp [Region.binds, bnd1, bnd2, t0, t1, t2, t3, t4, t5, t6, t7, t8, t9, t10, t11, t12, t13, t14, t15, t16, t17, t18, t19])
                  refine ⟨?_, ?_⟩
                  · simp only [fFr, t0, t1, t2, t3, t4, t5, t6, t7, t8, t9, t10, t11, t12, t13, t14, t15, t16, t17, t18, t19, t20]
                  · unfold fW; rw [t20]; rfl
                · rintro l a W ⟨L, rfl, rfl, rfl, S⟩
                  rfl
                · rw [hWX] at hWW
                  exact (congrArg (FInv W G a b d C i n x y z (fun k => ac.tmps.getD k undef) _ ac) hWW).mpr hstart
              · intro e a' W9 hq
                cases e <;> try exact hq.elim
                obtain ⟨rfl, rfl⟩ := hq
                subst hac
                simp only [fFr, cond_true, fV]
                simp only [Array.getD_eq_getD_getElem?, List.getElem?_toArray, List.getElem?_cons_zero, List.getElem?_cons_succ, Option.getD_some]
                go_wp2
                go_roundg g'
                case measure => omega
                case rel => exact ⟨i + 1, by go_num, by omega, by omega, HGN, HBN, HFN⟩
            · obtain rfl : i = n := by omega
              have hF6 := HF6.out
              rw [tk_all _ _ (by rw [List.length_map]; exact HFL.out), tk_all _ _ (by rw [List.length_map]; exact HFL.out), tk_all _ _ (by rw [List.length_map]; exact HFL.out)] at hF6
              have hl1 : (rows.flatten.map (·.1)).length = i := by rw [List.length_map]; exact HFL.out
              have hl2 : (rows.flatten.map (·.2.1)).length = i := by rw [List.length_map]; exact HFL.out
              have hl3 : (rows.flatten.map (·.2.2)).length = i := by rw [List.length_map]; exact HFL.out
              have HG6R : Hid (w6.heap[w.heap.size]? = some grid0) := Lib.hid ((HB6.out.block w.heap.size (by omega)).trans HG5.out)
              have hP := HFIN.out
              generalize rows.flatten.map (·.1) = F1 at *
              generalize rows.flatten.map (·.2.1) = F2 at *
              generalize rows.flatten.map (·.2.2) = F3 at *
              have hgd : GdAt w6 w6.heap.size (.agg #[.int .i64 (rows.length : Int), .int .i64 (W0 : Int), .slice (some ⟨a, 0, none⟩) i i, .slice (some ⟨b, 0, none⟩) i i, .slice (some ⟨d, 0, none⟩) i i]) ⟨rows.length, W0, F1, F2, F3⟩ :=
                ⟨⟨by show _ ≤ (rows.length : Int); omega, by show (rows.length : Int) ≤ _; omega⟩, ⟨by show _ ≤ (W0 : Int); omega, by show (W0 : Int) ≤ _; omega⟩, _, _, _, rfl, Sl.of_own hF6.oa, Sl.of_own hF6.ob, Sl.of_own hF6.od⟩
              have CK := Lib.hid (refCheck_any _ _ w6.heap.size w6 hgd (Nat.le_refl _) ⟨by show F1.length ≤ _; omega, by show F2.length ≤ _; omega, by show F3.length ≤ _; omega⟩)
              obtain ⟨er, her⟩ : ∃ er, checkG ⟨rows.length, W0, F1, F2, F3⟩ = er := ⟨_, rfl⟩
              rw [her] at CK hP
              have HFF := Lib.hid hF6
              have t9 : ¬ (i : Int) < (i : Int) := by omega
              clear hgd her hF6 HF6 HFIN HFI HFA HDV hl1 hl2 hl3
              by_cases h0 : er = 0
              · rw [if_neg (by simpa using h0)] at hP
                have te : (er != 0) = false := by simpa using h0
                have HP := Lib.hid hP.symm
                have HER := Lib.hid h0
                clear hP h0
                go_wp2_with (go_at_call 58; refine CK.out.mono ?_; rintro en w7 ⟨rfl, hb7⟩; have HB7 := Lib.hid (HB6.out.trans (hb7.mono z6)); have HG7 := Lib.hid ((hb7.block w.heap.size (by omega)).trans HG6R.out); have HGG7 := Lib.hid ((hb7.block w2.heap.size z7).trans HG6.out); have HF7 := Lib.hid (HFF.out.below hb7); clear hb7 g0 g1 g2 g3 g4; have p0 := Lib.cell_of_heap HG7.out 0; have p1 := Lib.cell_of_heap HG7.out 1; have p2 := Lib.cell_of_heap HG7.out 2; have p3 := Lib.cell_of_heap HG7.out 3; have p4 := Lib.cell_of_heap HG7.out 4; have f0 := Lib.frozen_of_heap HG7.out 0; have f1 := Lib.frozen_of_heap HG7.out 1; have f2 := Lib.frozen_of_heap HG7.out 2; have f3 := Lib.frozen_of_heap HG7.out 3; have f4 := Lib.frozen_of_heap HG7.out 4; have r0 := Lib.cell_of_heap HGG7.out 0; have r1 := Lib.cell_of_heap HGG7.out 1; have r2 := Lib.cell_of_heap HGG7.out 2; have r3 := Lib.cell_of_heap HGG7.out 3; have r4 := Lib.cell_of_heap HGG7.out 4)
                refine bodyPost_ret (results_grid Tryd.results31 _ _ w.heap.size 45 _ _ _ _ _ (0, 0) rfl (stored5 _ _ _ _ _ HG7.out)) rfl ?_
                unfold ParsePost
                rw [HP.out]
                exact ⟨below5 (HBL.out.trans ((HB.out.trans (HB7.out.mono (by omega))).mono (Nat.le_succ _))) (Nat.le_refl _), _, rfl, ⟨by show _ ≤ (rows.length : Int); omega, by show (rows.length : Int) ≤ _; omega⟩, ⟨by show _ ≤ (W0 : Int); omega, by show (W0 : Int) ≤ _; omega⟩, _, _, _, rfl, Sl.of_own (own5 HF7.out.oa (by omega)), Sl.of_own (own5 HF7.out.ob (by omega)), Sl.of_own (own5 HF7.out.od (by omega))⟩
              · rw [if_pos h0] at hP
                have te : (er != 0) = true := by simpa using h0
                have HP := Lib.hid hP.symm
                clear hP h0
                go_wp2_with (go_at_call 58; refine CK.out.mono ?_; rintro en w7 ⟨rfl, hb7⟩; have HB7 := Lib.hid (HB6.out.trans (hb7.mono z6)); have HG7 := Lib.hid ((hb7.block w.heap.size (by omega)).trans HG6R.out); clear hb7 g0 g1 g2 g3 g4; have p0 := Lib.cell_of_heap HG7.out 0; have p1 := Lib.cell_of_heap HG7.out 1; have p2 := Lib.cell_of_heap HG7.out 2; have p3 := Lib.cell_of_heap HG7.out 3; have p4 := Lib.cell_of_heap HG7.out 4; have f0 := Lib.frozen_of_heap HG7.out 0; have f1 := Lib.frozen_of_heap HG7.out 1; have f2 := Lib.frozen_of_heap HG7.out 2; have f3 := Lib.frozen_of_heap HG7.out 3; have f4 := Lib.frozen_of_heap HG7.out 4)
                exact refBad (g := w.heap.size) (t := 45) (a := 0) rfl rfl rfl rfl (stored5 _ _ _ _ _ HG7.out) (below5 (HBL.out.trans ((HB.out.trans (HB7.out.mono (by omega))).mono (Nat.le_succ _))) (Nat.le_refl _)) HP.out
end Go.Proofs.YtlkabghpcjlohaaDoor
