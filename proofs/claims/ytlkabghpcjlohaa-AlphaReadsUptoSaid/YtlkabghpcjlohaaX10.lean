/- Package alpha: Each through all its ways: the recursive closure hands over each way in its order. -/
import Derived.Test.YtlkabghpcjlohaaX11
import Derived.BigQuiet
namespace Go.Proofs.Ytlkabghpcjlohaa
set_option linter.unusedVariables false
set_option linter.unusedSimpArgs false
open Go.RowKit Go.Lib Go.Shelf

theorem seg_at {xs : List (List UInt8)} {o : List Nat} {r : List UInt8} (hr : r ≠ []) {k : Nat} (hk : k < o.length) (hs : std xs r (o.getD k 0) = true) {q : Nat} {l : List Nat} (hq : (waysL xs o (r.drop (nm xs (o.getD k 0)).length))[q]? = some l) :
    (waysL xs o r)[(partW xs o r k).length + q]? = some (o.getD k 0 :: l) := by
  have e : o.getD k 0 = o[k] := by rw [List.getD_eq_getElem?_getD, List.getElem?_eq_getElem hk]; rfl
  rw [e] at hs hq ⊢
  have hcat : waysL xs o r = partW xs o r k ++ ((waysL xs o (r.drop (nm xs o[k]).length)).map (fun l => o[k] :: l) ++ (((o.drop (k + 1)).filter (std xs r)).map fun i => (waysL xs o (r.drop (nm xs i).length)).map (fun l => i :: l)).flatten) := by
    rw [waysL_cons xs o hr]
    unfold partW
    have h1 : o = o.take k ++ o[k] :: o.drop (k + 1) := by rw [← List.drop_eq_getElem_cons hk, List.take_append_drop]
    have h2 : o.filter (std xs r) = (o.take k).filter (std xs r) ++ o[k] :: (o.drop (k + 1)).filter (std xs r) := by
      conv => lhs; rw [h1]
      rw [List.filter_append, List.filter_cons_of_pos hs]
    rw [h2, List.map_append, List.flatten_append, List.map_cons, List.flatten_cons]
  have hlt := (List.getElem?_eq_some_iff.1 hq).1
  rw [hcat, List.getElem?_append_right (Nat.le_add_right _ _), Nat.add_sub_cancel_left, List.getElem?_append_left (by rw [List.length_map]; exact hlt), List.getElem?_map, hq]
  rfl

set_option maxHeartbeats 16000000 in
set_option maxRecDepth 100000 in
theorem downs_any {B p : Nat} {xs : List (List UInt8)} {o : List Nat} {s : ByteArray} {lp bs yb ba bw bd C g m C0 : Nat} {J : Told} {Jx : World → Prop} {stop : Nat → Bool} {L : List (List Nat)} (hJ : Stable C0 J) (hC0 : C0 ≤ C)
    (hL : Lets xs) (hO : Ord xs o) (hn : xs.length ≤ 1000) (hx : ∀ x ∈ xs, x.length ≤ 12) (hs : s.size ≤ 1048576)
    (hY : ∀ i M v W, J i M W → PxW L C0 i M v W → YieldAt Fence.wide m Try.prog lp #[v] W (yAns M J i (stop i) Jx W)) :
    ∀ (f at' : Nat) (done : List Nat) (dv : Value) (W : World) (M : Nat → Prop) (i : Nat), at' ≤ s.size → s.size ≤ at' + f → done.length ≤ at' → (∀ q l, (waysL xs o ((bl s).drop at'))[q]? = some l → L[i + q]? = some (done ++ l)) →
      EnvE B p xs o s lp bs yb ba bw bd C g W → EnvM B bs yb ba bw bd g M → J i M W → W.ownsRow C 3 1 dv done.length (ints done) → (∀ k, dv.ownBlock = some k → M k) → (∀ k, M k → k < W.heap.size) → C ≤ W.heap.size →
      Calls Try.prog 96 (#[.int .i64 (at' : Nat), dv] ++ caps bs yb ba bw bd) W fun e w' => ∃ b, e = .returned (.bool b) ∧ Fin C J Jx stop M i (waysL xs o ((bl s).drop at')).length dv done W b w' := by
  have hend : ∀ (done : List Nat) (dv : Value) (W : World) (M : Nat → Prop) (i : Nat), done.length ≤ s.size → (∀ q l, (waysL xs o ((bl s).drop s.size))[q]? = some l → L[i + q]? = some (done ++ l)) →
      EnvE B p xs o s lp bs yb ba bw bd C g W → EnvM B bs yb ba bw bd g M → J i M W → W.ownsRow C 3 1 dv done.length (ints done) → (∀ k, dv.ownBlock = some k → M k) → (∀ k, M k → k < W.heap.size) → C ≤ W.heap.size →
      Calls Try.prog 96 (#[.int .i64 (s.size : Nat), dv] ++ caps bs yb ba bw bd) W fun e w' => ∃ b, e = .returned (.bool b) ∧ Fin C J Jx stop M i (waysL xs o ((bl s).drop s.size)).length dv done W b w' := by
    intro done dv W M i hdl hseg hE hEM jn hd hdM hM hC
    have e0 : (bl s).drop s.size = [] := List.drop_of_length_le (by rw [bl_length]; exact Nat.le_refl _)
    rw [e0, waysL_nil] at hseg
    rw [e0, waysL_nil]
    have h1 := hseg 0 [] rfl
    rw [List.append_nil] at h1
    exact down_end2 hJ hC0 hY dv done W M i hE hC jn hd hdM hM (by omega) h1
  intro f
  induction f with
  | zero =>
    intro at' done dv W M i hat hfu hdl hseg hE hEM jn hd hdM hM hC
    obtain rfl : at' = s.size := by omega
    exact hend done dv W M i hdl hseg hE hEM jn hd hdM hM hC
  | succ f ih =>
    intro at' done dv W M i hat hfu hdl hseg hE hEM jn hd hdM hM hC
    by_cases he : at' = s.size
    · subst he
      exact hend done dv W M i hdl hseg hE hEM jn hd hdM hM hC
    · have hr : (bl s).drop at' ≠ [] := drop_ne s at' (by omega)
      have hxC : ∀ k, dv.ownBlock = some k → C ≤ k := fun k hk => (hd.lt k hk).1
      have hBC := hE.hB
      have HSEG := Lib.hid hseg; have HR9 := Lib.hid hr; have HEM := Lib.hid hEM; have HJN := Lib.hid jn; have HD := Lib.hid hd; have HDM0 := Lib.hid hdM; have HM0 := Lib.hid hM; have HXC := Lib.hid hxC
      have HO := Lib.hid hO; have HL := Lib.hid hL; have HX := Lib.hid hx; have IH := Lib.hid @ih
      have hol : o.length = xs.length := by rw [hO.perm.length_eq, List.length_range]
      have HE := Lib.hid hE
      obtain ⟨l1, l2, l3, l4, l5, l6⟩ := hE.lt
      have c1 := Lib.cell_of_heap hE.es 0
      have c3 := Lib.cell_of_heap hE.ea 0
      have CO := Lib.hid (order_any hE.al)
      have t1 : ((at' : Int) == (s.size : Int)) = false := by simp; omega
      have t1' : ¬ (at' : Int) = (s.size : Int) := by omega
      clear ih hseg hr hEM jn hd hdM hM hxC hO hL hx hE he hend hY
      go_enter Try.func96, Try.ntmps96
      go_wp2_with (go_at_call 89; refine CO.out.mono ?_; rintro e w2 ⟨⟨Ao, co, rfl, hso⟩, rfl⟩; have HSO := Lib.hid hso; clear hso)
      go_loopg [11, 12, 24] o.length (fun gf _ _ u24 wr => ∃ k : Nat, u24 = .int .i64 k ∧ k ≤ o.length ∧ o.length ≤ k + gf ∧ Hid (J (i + (partW xs o ((bl s).drop at') k).length) M wr) ∧ Hid (Kpx M dv.ownBlock W wr) ∧ Hid (wr.ownsRow C 3 1 dv done.length (ints done)) ∧ Hid (∀ q, q < (partW xs o ((bl s).drop at') k).length → stop (i + q) = false))
      case atStart => exact ⟨0, rfl, Nat.zero_le _, by omega, Lib.hid (by rw [partW_zero]; exact HJN.out), Lib.hid (Kpx.refl _ _ _), HD, Lib.hid (fun q hq => by rw [partW_zero] at hq; cases hq)⟩
      case round =>
        rename World => w5
        obtain ⟨k, rfl, hk, hfu2, HJ5, HK5, HD5, HST5⟩ := hrel
        have hz5 := HK5.out.size
        by_cases hlt : k < o.length
        · obtain ⟨g', rfl⟩ : ∃ g', gk = g' + 1 := ⟨gk - 1, by omega⟩
          have hE5 := HE.out.kpx HEM.out HK5.out HXC.out hC
          obtain ⟨An, cn, hc1, hc2⟩ := hE5.al.nms
          have hso5 : Sl w5 B (.slice Ao o.length co) _ := HSO.out.below (kpx_below HEM.out.low hBC HK5.out HXC.out hC)
          obtain ⟨bo, oo, e0, _, hcl⟩ := hso5.addr (by omega)
          have g1 := hcl k _ (by rw [List.getElem?_map, List.getElem?_eq_getElem hlt]; rfl)
          obtain rfl := e0
          clear hcl hso5
          have hjl : o[k]'hlt < xs.length := List.mem_range.1 (HO.out.perm.mem_iff.1 (List.getElem_mem hlt))
          have hoi : o.getD k 0 = o[k]'hlt := by rw [List.getD_eq_getElem?_getD, List.getElem?_eq_getElem hlt]; rfl
          have hpw := partW_succ xs o ((bl s).drop at') hlt
          have hsg := fun h (q : Nat) l hq => HSEG.out _ _ (seg_at HR9.out hlt h (q := q) (l := l) hq)
          rw [hoi] at hpw hsg
          have HPW := Lib.hid hpw; have HSG := Lib.hid hsg
          clear hpw hsg hoi
          generalize o[k]'hlt = j at *
          obtain ⟨bn, on, e0, hlbn, hcl⟩ := hc2.addr (by omega)
          have g2 := hcl j _ (by rw [List.getElem?_map, List.getElem?_eq_getElem hjl]; rfl)
          obtain rfl := e0
          clear hcl hc2
          have hnm := nm_lt hjl
          rw [← hnm] at g2
          have hnl2 : (nm xs j).length ≤ 12 := by rw [hnm]; exact HX.out _ (List.getElem_mem hjl)
          have d1 := Lib.cell_of_heap hE5.es 0
          have d3 := Lib.cell_of_heap hE5.ea 0
          have e9 : ((s.extract at' s.size).data.toList) = (bl s).drop at' := by
            show bl _ = _
            rw [bl_extract]
            exact List.take_of_length_le (by rw [List.length_drop, bl_length]; omega)
          have e1 : Lib.hasPrefix ((s.extract at' s.size).data.toList) (⟨(nm xs j).toArray⟩ : ByteArray).data.toList = std xs ((bl s).drop at') j := by rw [e9]; exact hasPrefix_std HL.out _ hjl
          have cP := fun W => Try.strings_HasPrefix (s.extract at' s.size) ⟨(nm xs j).toArray⟩ W
          rw [e1] at cP
          have CP := Lib.hid cP; clear cP e1 e9 hnm
          have i0' : (0 : Int) ≤ (k : Int) := by omega
          have i1 : (k : Int) < (o.length : Int) := by omega
          have j0 : (0 : Int) ≤ (j : Int) := by omega
          have j1 : (j : Int) < (xs.length : Int) := by omega
          have a0 : (0 : Int) ≤ (at' : Int) := by omega
          have a1 : (at' : Int) ≤ (s.size : Int) := by omega
          have HSK : Hid ((partW xs o ((bl s).drop at') (k + 1)).length = (partW xs o ((bl s).drop at') k).length → ∀ n, Hid (J (i + (partW xs o ((bl s).drop at') (k + 1)).length) M (w5.drewN n)) ∧ Hid (Kpx M dv.ownBlock W (w5.drewN n)) ∧ Hid ((w5.drewN n).ownsRow C 3 1 dv done.length (ints done)) ∧ Hid (∀ q, q < (partW xs o ((bl s).drop at') (k + 1)).length → stop (i + q) = false)) := Lib.hid (fun h n => by
            have hb : Below w5.heap.size w5 (w5.drewN n) := bdraw (Below.refl _ _) n
            rw [h]
            exact ⟨Lib.hid (hJ.below HJ5.out hb), Lib.hid (HK5.out.trans (Kpx.of_below hb)), Lib.hid (own_block HD5.out fun k hk => hb.block k (HD5.out.lt k hk).2), HST5⟩)
          cases hsd : std xs ((bl s).drop at') j with
          | false =>
            rw [hsd] at CP
            have HN2 := Lib.hid (HSK.out (by rw [HPW.out, hsd]; simp))
            clear hsd HSK HPW HSG HJ5 HK5 HD5 HST5 hE5
            generalize nm xs j = nmj at *
            have hnz : (⟨nmj.toArray⟩ : ByteArray).size = nmj.length := by rw [← bl_length]
            have HNZ := Lib.hid hnz; clear hnz
            go_wp2_with fail
            go_quiet ((go_at_call 98; exact Calls.quiet_of_same (CP.out _)))
            go_wp2
            go_roundg g'
            case measure => omega
            case rel => exact ⟨k + 1, by go_num, by omega, by omega, (HN2.out _).1, (HN2.out _).2.1, (HN2.out _).2.2.1, (HN2.out 0).2.2.2⟩
          | true =>
            have hnl : at' + (nm xs j).length ≤ s.size ∧ 1 ≤ (nm xs j).length := by
              have h1 := std_iff.1 hsd
              have h2 := h1.2.length_le
              have h3 := List.length_pos_iff.2 h1.1
              rw [List.length_drop, bl_length] at h2
              omega
            have hdd : ((bl s).drop at').drop (nm xs j).length = (bl s).drop (at' + (nm xs j).length) := by rw [List.drop_drop]
            have hcvm := cntL_le xs ((bl s).drop (at' + (nm xs j).length))
            unfold maxWays at hcvm
            have hew := Lib.cell_of_heap hE5.ew 0
            have hgc := hE5.cells _ hnl.1
            have hnx : (at' : Int) + ((nm xs j).length : Int) = ((at' + (nm xs j).length : Nat) : Int) := by push_cast; rfl
            have hnx1 := hnl.1
            by_cases hz0 : cntL xs ((bl s).drop (at' + (nm xs j).length)) = 0
            · rw [hsd] at CP
              have hw0 := ways_zero HO.out hz0
              have HN2 := Lib.hid (HSK.out (by rw [HPW.out, hsd, hdd, hw0]; simp))
              rw [hz0] at hgc
              have hnz : (⟨(nm xs j).toArray⟩ : ByteArray).size = (nm xs j).length := by rw [← bl_length]
              have HNZ := Lib.hid hnz
              clear hsd HSK HPW HSG HJ5 HK5 HD5 HST5 hE5 hz0 hw0 hdd hcvm hnz
              have hcc : ((nm xs j).length : Int) = ((nm xs j).length : Int) := rfl
              obtain ⟨nmj, hnmj⟩ : ∃ x, nm xs j = x := ⟨_, rfl⟩
              rw [hnmj] at g2 hnl2 CP HNZ hgc hnx hnx1 hnl
              generalize hnxx : at' + nmj.length = nx at *
              clear hnmj hnxx hcc
              have n0 : (0 : Int) ≤ (nx : Int) := by omega
              have n1 : (nx : Int) < (s.size : Int) + 1 := by omega
              have HNX := Lib.hid hnx1
              go_wp2_with fail
              go_quiet ((go_at_call 98; exact Calls.quiet_of_same (CP.out _)))
              go_wp2
              go_roundg g'
              case measure => omega
              case rel => exact ⟨k + 1, by go_num, by omega, by omega, (HN2.out _).1, (HN2.out _).2.1, (HN2.out _).2.2.1, (HN2.out 0).2.2.2⟩
            · rw [hsd] at CP
              have hcntl : (partW xs o ((bl s).drop at') (k + 1)).length = (partW xs o ((bl s).drop at') k).length + (waysL xs o ((bl s).drop (at' + (nm xs j).length))).length := by rw [HPW.out, hsd, if_pos rfl, hdd, List.length_append, List.length_map]
              have IH5 : Hid (∀ A c W', Below C w5 W' → PreC C done.length (i + (partW xs o ((bl s).drop at') k).length) M J dv done j w5 A c W' → Calls Try.prog 96 (#[.int .i64 (at' + (nm xs j).length : Nat), .slice A (done.length + 1) c] ++ caps bs yb ba bw bd) W' fun e W'' => ∃ b, e = .returned (.bool b) ∧ Fin C J Jx stop M (i + (partW xs o ((bl s).drop at') k).length) (waysL xs o ((bl s).drop (at' + (nm xs j).length))).length dv done w5 b W'') := Lib.hid (fun A c W' hb hpc => by
                have hlen9 : (done ++ [j]).length = done.length + 1 := by simp
                have h0 := IH.out (at' + (nm xs j).length) (done ++ [j]) (.slice A (done.length + 1) c) W' (M2 M A done.length c) (i + (partW xs o ((bl s).drop at') k).length) hnl.1 (by omega) (by rw [hlen9]; omega) (fun q l hq => by
                    have h1 := HSG.out hsd q l (by rw [hdd]; exact hq)
                    rw [Nat.add_assoc, h1]; simp) (hE5.below hb) (HEM.out.more fun k hk => .inl hk) hpc.jn (by rw [hlen9]; exact hpc.own) (fun k hk => .inr hk) hpc.lt (by have := hb.size; omega)
                refine h0.mono fun e w'' h => ?_
                obtain ⟨b, rfl, h2⟩ := h
                refine ⟨b, rfl, ?_⟩
                rcases h2 with ⟨rfl, q1, q2, q3, q4⟩ | ⟨rfl, q1⟩
                · rw [hlen9] at q4
                  obtain ⟨r1, r2, r3⟩ := postC hJ rfl hpc (fun k hk => Nat.lt_of_lt_of_le (HM0.out k hk) hz5) HDM0.out q2 q3 q4
                  exact .inl ⟨rfl, q1, r1, r2, r3⟩
                · exact .inr ⟨rfl, q1⟩)
              have hHC : ∀ W : World, Below C w5 W → W.cell? ⟨bs, 0, none⟩ = some (.string s) ∧ W.cell? ⟨ba, 0, none⟩ = some (.pointer (some ⟨p, 0, none⟩)) ∧ W.cell? ⟨p, 0, none⟩ = some (.slice (some ⟨bn, on, none⟩) xs.length cn) ∧ W.cell? ⟨bn, on + j, none⟩ = some (.string ⟨(nm xs j).toArray⟩) ∧ W.cell? ⟨bw, 0, none⟩ = some (.slice (some ⟨g, 0, none⟩) (s.size + 1) (s.size + 1)) ∧ W.cell? ⟨g, at' + (nm xs j).length, none⟩ = some (.int .i64 (cntL xs ((bl s).drop (at' + (nm xs j).length)) : Nat)) ∧ W.cell? ⟨bd, 0, none⟩ = some (.func (.func 96) #[] (caps bs yb ba bw bd)) := fun W hW => by
                have hEW := hE5.below hW
                have hbn : bn < C := Nat.lt_of_lt_of_le hlbn hE5.hB
                exact ⟨Lib.cell_of_heap hEW.es 0, Lib.cell_of_heap hEW.ea 0, (hW.cell (p := ⟨p, 0, none⟩) (Nat.lt_of_lt_of_le hE5.al.hp hE5.hB)).trans hc1, (hW.cell (p := ⟨bn, on + j, none⟩) hbn).trans g2, Lib.cell_of_heap hEW.ew 0, hEW.cells _ hnl.1, Lib.cell_of_heap hEW.ed 0⟩
              have HCELL := Lib.hid hHC; clear hHC
              have hcv : 0 < cntL xs ((bl s).drop (at' + (nm xs j).length)) := Nat.pos_of_ne_zero hz0
              have HM : Hid (∀ k, M k → k < w5.heap.size) := Lib.hid (fun k hk => Nat.lt_of_lt_of_le (HM0.out k hk) hz5)
              have HCN := Lib.hid hcntl
              have hC5 : C ≤ w5.heap.size := by omega
              have hnz : (⟨(nm xs j).toArray⟩ : ByteArray).size = (nm xs j).length := by rw [← bl_length]
              have HNZ := Lib.hid hnz
              clear hsd HSK HPW HSG hE5 hz0 hdd hnz hcntl IH HSEG hgc hew HSO CO
              generalize hcnt9 : (waysL xs o ((bl s).drop (at' + (nm xs j).length))).length = cnt at *
              generalize hi5 : i + (partW xs o ((bl s).drop at') k).length = i5 at *
              generalize cntL xs ((bl s).drop (at' + (nm xs j).length)) = cv at *
              have HI5 := Lib.hid hi5; clear hi5 hcnt9
              obtain ⟨nmj, hnmj⟩ : ∃ x, nm xs j = x := ⟨_, rfl⟩
              rw [hnmj] at g2 hnl2 CP HNZ HCELL IH5 hnx hnx1 hnl
              generalize hnxx : at' + nmj.length = nx at *
              clear hnmj hnxx
              have HNX := Lib.hid hnx1
              go_wp2_with fail
              refine wp_named fun ac hac => ?_
              refine wp_mono (Q := fun e a' w' => match e with | .normal => RADone (Fin C J Jx stop M i5 cnt dv done w5) (fun k => ac.tmps.getD k undef) a' w' | _ => False) ?_ ?_
              · have hF : FF at' j nx dv bs ba bw bd (fun k => ac.tmps.getD k undef) := by rw [hac]; exact ⟨rfl, rfl, rfl, rfl, rfl, rfl, rfl, rfl⟩
                have hst : ac = rFr (fun k => ac.tmps.getD k undef) (fun _ => false) (fun _ => undef) := by rw [hac]; rfl
                have hd9 := HD5.out
                have hn9 : done.length ≤ 1048576 := by omega
                have HDM := HDM0
                generalize xs.length = N at *
                generalize hN9 : done.length = n at *
                generalize hzz : (⟨nmj.toArray⟩ : ByteArray) = z at *
                have hstart := RAInv_start (s := s) (at' := at') (j := j) (nx := nx) (N := N) (cn := cn) (cv := cv) (p := p) (bn := bn) (on := on) (g := g) (C := C) (n := n) (z := z) (fnv := .func (.func 96) #[] (caps bs yb ba bw bd)) (dv := dv) (done := done) (w5 := w5) (w := w5.drew) (PC := PreC C n i5 M J dv done j w5) (Out := Fin C J Jx stop M i5 cnt dv done w5) hst ((Below.refl C w5).drew) ((Below.refl w5.heap.size w5).drew) hd9
                clear hzz hN9 HD5 HNZ g1 g2 d1 d3 hc1 HE HD c1 c3 hac hst HK5 HST5 HCN HI5 HO HL HX HEM HXC HDM0 HM0 HR9 hol
                refine wp_region_any (by kernel_rfl) (wpAny_inv (RAInv s at' j nx N cn cv p bn on g C n z (.func (.func 96) #[] (caps bs yb ba bw bd)) dv done w5 (PreC C n i5 M J dv done j w5) (Fin C J Jx stop M i5 cnt dv done w5) (fun k => ac.tmps.getD k undef)) ?_ ?_ ?_ _ _ _ _ hstart (by decide))
                · rintro l a W i ⟨L, V, rfl, rfl, S⟩ hi
                  obtain ⟨hl, o', ho, hall⟩ := mem_ready.1 hi
                  have hi28 : i < 28 := by simpa using (Array.getElem?_eq_some_iff.1 ho).1
                  have HS := Lib.hid S
                  have ka0 : (0 : Int) ≤ (at' : Int) := by omega
                  have ka1 : (at' : Int) ≤ (s.size : Int) := by omega
                  have kj0 : (0 : Int) ≤ (j : Int) := by omega
                  have kj1 : (j : Int) < (N : Int) := by omega
                  have kn0 : (0 : Int) ≤ (nx : Int) := by omega
                  have kn1 : (nx : Int) < (s.size : Int) + 1 := by omega
                  have kc : decide ((0 : Int) < (cv : Int)) = true := by simp; omega
                  have kc' : (0 : Int) < (cv : Int) := by omega
                  have hcase : i = 0 ∨ i = 1 ∨ i = 2 ∨ i = 3 ∨ i = 4 ∨ i = 5 ∨ i = 6 ∨ i = 7 ∨ i = 8 ∨ i = 9 ∨ i = 10 ∨ i = 11 ∨ i = 12 ∨ i = 13 ∨ i = 14 ∨ i = 15 ∨ i = 16 ∨ i = 17 ∨ i = 18 ∨ i = 19 ∨ i = 20 ∨ i = 21 ∨ i = 22 ∨ i = 23 ∨ i = 24 ∨ i = 25 ∨ i = 26 ∨ i = 27 := by omega
                  clear S
                  rcases hcase with rfl | rfl | rfl | rfl | rfl | rfl | rfl | rfl | rfl | rfl | rfl | rfl | rfl | rfl | rfl | rfl | rfl | rfl | rfl | rfl | rfl | rfl | rfl | rfl | rfl | rfl | rfl | rfl
                  · obtain rfl := Option.some.inj ho
                    have hanc : ∀ a ∈ ancR 0, L a = true := by
                      intro a ha
                      cases ha
                    have h25 : L 25 = false := Bool.eq_false_iff.2 (fun h => by have h9 := HS.out.G 25 h 0 (by decide); rw [show L 0 = false from hl] at h9; cases h9)
                    obtain ⟨c0, c3, c6, c9, c12, c15, c19⟩ := HCELL.out W (HS.out.below h25)
                    refine wpOp_ok (.string s) W rfl rfl (by simp only [rFr, cond_true, hF.a0, hF.a1, hF.a2, hF.a4, hF.a5, hF.a6, hF.a11, hF.a12]; go_simp) ⟨upd L 0 true, upd V 0 (.string s), rfl, rfl, ⟨(anc_upd HS.out.G hanc), HS.out.below, HS.out.b5, HS.out.row, (fun _ => rfl), HS.out.f1, HS.out.f2, HS.out.f3, HS.out.f4, HS.out.f5, HS.out.f6, HS.out.f7, HS.out.f8, HS.out.f9, HS.out.f10, HS.out.f11, HS.out.f12, HS.out.f13, HS.out.f14, HS.out.f15, HS.out.f16, HS.out.f17, HS.out.f18, HS.out.f19, HS.out.f20, HS.out.f21, HS.out.f22, HS.out.f23, HS.out.f24, HS.out.f25, HS.out.f26, HS.out.f27⟩⟩
                  · obtain rfl := Option.some.inj ho
                    have hanc : ∀ a ∈ ancR 1, L a = true := by
                      intro a ha
                      cases ha
                    have h25 : L 25 = false := Bool.eq_false_iff.2 (fun h => by have h9 := HS.out.G 25 h 1 (by decide); rw [show L 1 = false from hl] at h9; cases h9)
                    refine wpOp_ok (.int .i64 (at' : Nat)) W rfl rfl (by simp only [rFr, cond_true, hF.a0, hF.a1, hF.a2, hF.a4, hF.a5, hF.a6, hF.a11, hF.a12]; go_simp) ⟨upd L 1 true, upd V 1 (.int .i64 (at' : Nat)), rfl, rfl, ⟨(anc_upd HS.out.G hanc), HS.out.below, HS.out.b5, HS.out.row, HS.out.f0, (fun _ => rfl), HS.out.f2, HS.out.f3, HS.out.f4, HS.out.f5, HS.out.f6, HS.out.f7, HS.out.f8, HS.out.f9, HS.out.f10, HS.out.f11, HS.out.f12, HS.out.f13, HS.out.f14, HS.out.f15, HS.out.f16, HS.out.f17, HS.out.f18, HS.out.f19, HS.out.f20, HS.out.f21, HS.out.f22, HS.out.f23, HS.out.f24, HS.out.f25, HS.out.f26, HS.out.f27⟩⟩
                  · obtain rfl := Option.some.inj ho
                    have d0 : L 0 = true := hall ⟨0, .data⟩ (by simp) rfl
                    have d1 : L 1 = true := hall ⟨1, .data⟩ (by simp) rfl
                    have hanc : ∀ a ∈ ancR 2, L a = true := by
                      intro a ha
                      have hcl : a = 0 ∨ a = 1 ∨ a ∈ ancR 0 ∨ a ∈ ancR 1 := by revert a; decide
                      rcases hcl with rfl | rfl | h9 | h9
                      · exact d0
                      · exact d1
                      · exact HS.out.G 0 d0 a h9
                      · exact HS.out.G 1 d1 a h9
                    have e0 := HS.out.f0 d0
                    have e1 := HS.out.f1 d1
                    have h25 : L 25 = false := Bool.eq_false_iff.2 (fun h => by have h9 := HS.out.G 25 h 2 (by decide); rw [show L 2 = false from hl] at h9; cases h9)
                    refine wpOp_ok (.string (s.extract at' s.size)) W rfl rfl (by simp only [rFr, d0, d1, cond_true, e0, e1, hF.a0, hF.a1, hF.a2, hF.a4, hF.a5, hF.a6, hF.a11, hF.a12]; go_simp) ⟨upd L 2 true, upd V 2 (.string (s.extract at' s.size)), rfl, rfl, ⟨(anc_upd HS.out.G hanc), HS.out.below, HS.out.b5, HS.out.row, HS.out.f0, HS.out.f1, (fun _ => rfl), HS.out.f3, HS.out.f4, HS.out.f5, HS.out.f6, HS.out.f7, HS.out.f8, HS.out.f9, HS.out.f10, HS.out.f11, HS.out.f12, HS.out.f13, HS.out.f14, HS.out.f15, HS.out.f16, HS.out.f17, HS.out.f18, HS.out.f19, HS.out.f20, HS.out.f21, HS.out.f22, HS.out.f23, HS.out.f24, HS.out.f25, HS.out.f26, HS.out.f27⟩⟩
                  · obtain rfl := Option.some.inj ho
                    have hanc : ∀ a ∈ ancR 3, L a = true := by
                      intro a ha
                      cases ha
                    have h25 : L 25 = false := Bool.eq_false_iff.2 (fun h => by have h9 := HS.out.G 25 h 3 (by decide); rw [show L 3 = false from hl] at h9; cases h9)
                    obtain ⟨c0, c3, c6, c9, c12, c15, c19⟩ := HCELL.out W (HS.out.below h25)
                    refine wpOp_ok (.pointer (some ⟨p, 0, none⟩)) W rfl rfl (by simp only [rFr, cond_true, hF.a0, hF.a1, hF.a2, hF.a4, hF.a5, hF.a6, hF.a11, hF.a12]; go_simp) ⟨upd L 3 true, upd V 3 (.pointer (some ⟨p, 0, none⟩)), rfl, rfl, ⟨(anc_upd HS.out.G hanc), HS.out.below, HS.out.b5, HS.out.row, HS.out.f0, HS.out.f1, HS.out.f2, (fun _ => rfl), HS.out.f4, HS.out.f5, HS.out.f6, HS.out.f7, HS.out.f8, HS.out.f9, HS.out.f10, HS.out.f11, HS.out.f12, HS.out.f13, HS.out.f14, HS.out.f15, HS.out.f16, HS.out.f17, HS.out.f18, HS.out.f19, HS.out.f20, HS.out.f21, HS.out.f22, HS.out.f23, HS.out.f24, HS.out.f25, HS.out.f26, HS.out.f27⟩⟩
                  · obtain rfl := Option.some.inj ho
                    have d3 : L 3 = true := hall ⟨3, .data⟩ (by simp) rfl
                    have hanc : ∀ a ∈ ancR 4, L a = true := by
                      intro a ha
                      have hcl : a = 3 ∨ a ∈ ancR 3 := by revert a; decide
                      rcases hcl with rfl | h9
                      · exact d3
                      · exact HS.out.G 3 d3 a h9
                    have e3 := HS.out.f3 d3
                    have h25 : L 25 = false := Bool.eq_false_iff.2 (fun h => by have h9 := HS.out.G 25 h 4 (by decide); rw [show L 4 = false from hl] at h9; cases h9)
                    refine wpOp_ok (.pointer (some ⟨p, 0, none⟩)) W rfl rfl (by simp only [rFr, d3, cond_true, e3, hF.a0, hF.a1, hF.a2, hF.a4, hF.a5, hF.a6, hF.a11, hF.a12]; go_simp) ⟨upd L 4 true, upd V 4 (.pointer (some ⟨p, 0, none⟩)), rfl, rfl, ⟨(anc_upd HS.out.G hanc), HS.out.below, HS.out.b5, HS.out.row, HS.out.f0, HS.out.f1, HS.out.f2, HS.out.f3, (fun _ => rfl), HS.out.f5, HS.out.f6, HS.out.f7, HS.out.f8, HS.out.f9, HS.out.f10, HS.out.f11, HS.out.f12, HS.out.f13, HS.out.f14, HS.out.f15, HS.out.f16, HS.out.f17, HS.out.f18, HS.out.f19, HS.out.f20, HS.out.f21, HS.out.f22, HS.out.f23, HS.out.f24, HS.out.f25, HS.out.f26, HS.out.f27⟩⟩
                  · obtain rfl := Option.some.inj ho
                    have d4 : L 4 = true := hall ⟨4, .data⟩ (by simp) rfl
                    have hanc : ∀ a ∈ ancR 5, L a = true := by
                      intro a ha
                      have hcl : a = 4 ∨ a ∈ ancR 4 := by revert a; decide
                      rcases hcl with rfl | h9
                      · exact d4
                      · exact HS.out.G 4 d4 a h9
                    have e4 := HS.out.f4 d4
                    have h25 : L 25 = false := Bool.eq_false_iff.2 (fun h => by have h9 := HS.out.G 25 h 5 (by decide); rw [show L 5 = false from hl] at h9; cases h9)
                    refine wpOp_ok (.pointer (some ⟨p, 0, none⟩)) W rfl rfl (by simp only [rFr, d4, cond_true, e4, hF.a0, hF.a1, hF.a2, hF.a4, hF.a5, hF.a6, hF.a11, hF.a12]; go_simp) ⟨upd L 5 true, upd V 5 (.pointer (some ⟨p, 0, none⟩)), rfl, rfl, ⟨(anc_upd HS.out.G hanc), HS.out.below, HS.out.b5, HS.out.row, HS.out.f0, HS.out.f1, HS.out.f2, HS.out.f3, HS.out.f4, (fun _ => rfl), HS.out.f6, HS.out.f7, HS.out.f8, HS.out.f9, HS.out.f10, HS.out.f11, HS.out.f12, HS.out.f13, HS.out.f14, HS.out.f15, HS.out.f16, HS.out.f17, HS.out.f18, HS.out.f19, HS.out.f20, HS.out.f21, HS.out.f22, HS.out.f23, HS.out.f24, HS.out.f25, HS.out.f26, HS.out.f27⟩⟩
                  · obtain rfl := Option.some.inj ho
                    have d5 : L 5 = true := hall ⟨5, .data⟩ (by simp) rfl
                    have hanc : ∀ a ∈ ancR 6, L a = true := by
                      intro a ha
                      have hcl : a = 5 ∨ a ∈ ancR 5 := by revert a; decide
                      rcases hcl with rfl | h9
                      · exact d5
                      · exact HS.out.G 5 d5 a h9
                    have e5 := HS.out.f5 d5
                    have h25 : L 25 = false := Bool.eq_false_iff.2 (fun h => by have h9 := HS.out.G 25 h 6 (by decide); rw [show L 6 = false from hl] at h9; cases h9)
                    obtain ⟨c0, c3, c6, c9, c12, c15, c19⟩ := HCELL.out W (HS.out.below h25)
                    refine wpOp_ok (.slice (some ⟨bn, on, none⟩) N cn) W rfl rfl (by simp only [rFr, d5, cond_true, e5, hF.a0, hF.a1, hF.a2, hF.a4, hF.a5, hF.a6, hF.a11, hF.a12]; go_simp) ⟨upd L 6 true, upd V 6 (.slice (some ⟨bn, on, none⟩) N cn), rfl, rfl, ⟨(anc_upd HS.out.G hanc), HS.out.below, HS.out.b5, HS.out.row, HS.out.f0, HS.out.f1, HS.out.f2, HS.out.f3, HS.out.f4, HS.out.f5, (fun _ => rfl), HS.out.f7, HS.out.f8, HS.out.f9, HS.out.f10, HS.out.f11, HS.out.f12, HS.out.f13, HS.out.f14, HS.out.f15, HS.out.f16, HS.out.f17, HS.out.f18, HS.out.f19, HS.out.f20, HS.out.f21, HS.out.f22, HS.out.f23, HS.out.f24, HS.out.f25, HS.out.f26, HS.out.f27⟩⟩
                  · obtain rfl := Option.some.inj ho
                    have hanc : ∀ a ∈ ancR 7, L a = true := by
                      intro a ha
                      cases ha
                    have h25 : L 25 = false := Bool.eq_false_iff.2 (fun h => by have h9 := HS.out.G 25 h 7 (by decide); rw [show L 7 = false from hl] at h9; cases h9)
                    refine wpOp_ok (.int .i64 (j : Nat)) W rfl rfl (by simp only [rFr, cond_true, hF.a0, hF.a1, hF.a2, hF.a4, hF.a5, hF.a6, hF.a11, hF.a12]; go_simp) ⟨upd L 7 true, upd V 7 (.int .i64 (j : Nat)), rfl, rfl, ⟨(anc_upd HS.out.G hanc), HS.out.below, HS.out.b5, HS.out.row, HS.out.f0, HS.out.f1, HS.out.f2, HS.out.f3, HS.out.f4, HS.out.f5, HS.out.f6, (fun _ => rfl), HS.out.f8, HS.out.f9, HS.out.f10, HS.out.f11, HS.out.f12, HS.out.f13, HS.out.f14, HS.out.f15, HS.out.f16, HS.out.f17, HS.out.f18, HS.out.f19, HS.out.f20, HS.out.f21, HS.out.f22, HS.out.f23, HS.out.f24, HS.out.f25, HS.out.f26, HS.out.f27⟩⟩
                  · obtain rfl := Option.some.inj ho
                    have d6 : L 6 = true := hall ⟨6, .data⟩ (by simp) rfl
                    have d7 : L 7 = true := hall ⟨7, .data⟩ (by simp) rfl
                    have hanc : ∀ a ∈ ancR 8, L a = true := by
                      intro a ha
                      have hcl : a = 6 ∨ a = 7 ∨ a ∈ ancR 6 ∨ a ∈ ancR 7 := by revert a; decide
                      rcases hcl with rfl | rfl | h9 | h9
                      · exact d6
                      · exact d7
                      · exact HS.out.G 6 d6 a h9
                      · exact HS.out.G 7 d7 a h9
                    have e6 := HS.out.f6 d6
                    have e7 := HS.out.f7 d7
                    have h25 : L 25 = false := Bool.eq_false_iff.2 (fun h => by have h9 := HS.out.G 25 h 8 (by decide); rw [show L 8 = false from hl] at h9; cases h9)
                    refine wpOp_ok (.pointer (some ⟨bn, on + j, none⟩)) W rfl rfl (by simp only [rFr, d6, d7, cond_true, e6, e7, hF.a0, hF.a1, hF.a2, hF.a4, hF.a5, hF.a6, hF.a11, hF.a12]; go_simp) ⟨upd L 8 true, upd V 8 (.pointer (some ⟨bn, on + j, none⟩)), rfl, rfl, ⟨(anc_upd HS.out.G hanc), HS.out.below, HS.out.b5, HS.out.row, HS.out.f0, HS.out.f1, HS.out.f2, HS.out.f3, HS.out.f4, HS.out.f5, HS.out.f6, HS.out.f7, (fun _ => rfl), HS.out.f9, HS.out.f10, HS.out.f11, HS.out.f12, HS.out.f13, HS.out.f14, HS.out.f15, HS.out.f16, HS.out.f17, HS.out.f18, HS.out.f19, HS.out.f20, HS.out.f21, HS.out.f22, HS.out.f23, HS.out.f24, HS.out.f25, HS.out.f26, HS.out.f27⟩⟩
                  · obtain rfl := Option.some.inj ho
                    have d8 : L 8 = true := hall ⟨8, .data⟩ (by simp) rfl
                    have hanc : ∀ a ∈ ancR 9, L a = true := by
                      intro a ha
                      have hcl : a = 8 ∨ a ∈ ancR 8 := by revert a; decide
                      rcases hcl with rfl | h9
                      · exact d8
                      · exact HS.out.G 8 d8 a h9
                    have e8 := HS.out.f8 d8
                    have h25 : L 25 = false := Bool.eq_false_iff.2 (fun h => by have h9 := HS.out.G 25 h 9 (by decide); rw [show L 9 = false from hl] at h9; cases h9)
                    obtain ⟨c0, c3, c6, c9, c12, c15, c19⟩ := HCELL.out W (HS.out.below h25)
                    refine wpOp_ok (.string z) W rfl rfl (by simp only [rFr, d8, cond_true, e8, hF.a0, hF.a1, hF.a2, hF.a4, hF.a5, hF.a6, hF.a11, hF.a12]; go_simp) ⟨upd L 9 true, upd V 9 (.string z), rfl, rfl, ⟨(anc_upd HS.out.G hanc), HS.out.below, HS.out.b5, HS.out.row, HS.out.f0, HS.out.f1, HS.out.f2, HS.out.f3, HS.out.f4, HS.out.f5, HS.out.f6, HS.out.f7, HS.out.f8, (fun _ => rfl), HS.out.f10, HS.out.f11, HS.out.f12, HS.out.f13, HS.out.f14, HS.out.f15, HS.out.f16, HS.out.f17, HS.out.f18, HS.out.f19, HS.out.f20, HS.out.f21, HS.out.f22, HS.out.f23, HS.out.f24, HS.out.f25, HS.out.f26, HS.out.f27⟩⟩
                  · obtain rfl := Option.some.inj ho
                    have d2 : L 2 = true := hall ⟨2, .data⟩ (by simp) rfl
                    have d9 : L 9 = true := hall ⟨9, .data⟩ (by simp) rfl
                    have hanc : ∀ a ∈ ancR 10, L a = true := by
                      intro a ha
                      have hcl : a = 2 ∨ a = 9 ∨ a ∈ ancR 2 ∨ a ∈ ancR 9 := by revert a; decide
                      rcases hcl with rfl | rfl | h9 | h9
                      · exact d2
                      · exact d9
                      · exact HS.out.G 2 d2 a h9
                      · exact HS.out.G 9 d9 a h9
                    have e2 := HS.out.f2 d2
                    have e9 := HS.out.f9 d9
                    have h25 : L 25 = false := Bool.eq_false_iff.2 (fun h => by have h9 := HS.out.G 25 h 10 (by decide); rw [show L 10 = false from hl] at h9; cases h9)
                    refine wpOp_call rfl rfl (by simp only [rFr, d2, d9, cond_true, e2, e9, hF.a0, hF.a1, hF.a2, hF.a4, hF.a5, hF.a6, hF.a11, hF.a12]; go_simp) (CP.out W) (fun e w' he => ⟨.bool true, he.1, upd L 10 true, upd V 10 (.bool true), rfl, rfl, by obtain rfl := he.2; exact ⟨(anc_upd HS.out.G hanc), HS.out.below, HS.out.b5, HS.out.row, HS.out.f0, HS.out.f1, HS.out.f2, HS.out.f3, HS.out.f4, HS.out.f5, HS.out.f6, HS.out.f7, HS.out.f8, HS.out.f9, (fun _ => rfl), HS.out.f11, HS.out.f12, HS.out.f13, HS.out.f14, HS.out.f15, HS.out.f16, HS.out.f17, HS.out.f18, HS.out.f19, HS.out.f20, HS.out.f21, HS.out.f22, HS.out.f23, HS.out.f24, HS.out.f25, HS.out.f26, HS.out.f27⟩⟩)
                  · obtain rfl := Option.some.inj ho
                    have d10 : L 10 = true := hall ⟨10, .data⟩ (by simp) rfl
                    have hanc : ∀ a ∈ ancR 11, L a = true := by
                      intro a ha
                      have hcl : a = 10 ∨ a ∈ ancR 10 := by revert a; decide
                      rcases hcl with rfl | h9
                      · exact d10
                      · exact HS.out.G 10 d10 a h9
                    have e10 := HS.out.f10 d10
                    have h25 : L 25 = false := Bool.eq_false_iff.2 (fun h => by have h9 := HS.out.G 25 h 11 (by decide); rw [show L 11 = false from hl] at h9; cases h9)
                    refine wpOp_ok (.bool true) W rfl rfl (by simp only [rFr, d10, cond_true, e10, hF.a0, hF.a1, hF.a2, hF.a4, hF.a5, hF.a6, hF.a11, hF.a12]; go_simp) ⟨upd L 11 true, upd V 11 (.bool true), rfl, rfl, ⟨(anc_upd HS.out.G hanc), HS.out.below, HS.out.b5, HS.out.row, HS.out.f0, HS.out.f1, HS.out.f2, HS.out.f3, HS.out.f4, HS.out.f5, HS.out.f6, HS.out.f7, HS.out.f8, HS.out.f9, HS.out.f10, (fun _ => rfl), HS.out.f12, HS.out.f13, HS.out.f14, HS.out.f15, HS.out.f16, HS.out.f17, HS.out.f18, HS.out.f19, HS.out.f20, HS.out.f21, HS.out.f22, HS.out.f23, HS.out.f24, HS.out.f25, HS.out.f26, HS.out.f27⟩⟩
                  · obtain rfl := Option.some.inj ho
                    have d11 : L 11 = true := hall ⟨11, .guard⟩ (by simp) rfl
                    have hanc : ∀ a ∈ ancR 12, L a = true := by
                      intro a ha
                      have hcl : a = 11 ∨ a ∈ ancR 11 := by revert a; decide
                      rcases hcl with rfl | h9
                      · exact d11
                      · exact HS.out.G 11 d11 a h9
                    have e11 := HS.out.f11 d11
                    have h25 : L 25 = false := Bool.eq_false_iff.2 (fun h => by have h9 := HS.out.G 25 h 12 (by decide); rw [show L 12 = false from hl] at h9; cases h9)
                    obtain ⟨c0, c3, c6, c9, c12, c15, c19⟩ := HCELL.out W (HS.out.below h25)
                    refine wpOp_ok (.slice (some ⟨g, 0, none⟩) (s.size + 1) (s.size + 1)) W rfl (by show Region.wanted _ _ = true; simp [Region.wanted, yielded, rFr, d11, e11]) (by simp only [rFr, d11, cond_true, e11, hF.a0, hF.a1, hF.a2, hF.a4, hF.a5, hF.a6, hF.a11, hF.a12]; go_simp) ⟨upd L 12 true, upd V 12 (.slice (some ⟨g, 0, none⟩) (s.size + 1) (s.size + 1)), rfl, rfl, ⟨(anc_upd HS.out.G hanc), HS.out.below, HS.out.b5, HS.out.row, HS.out.f0, HS.out.f1, HS.out.f2, HS.out.f3, HS.out.f4, HS.out.f5, HS.out.f6, HS.out.f7, HS.out.f8, HS.out.f9, HS.out.f10, HS.out.f11, (fun _ => rfl), HS.out.f13, HS.out.f14, HS.out.f15, HS.out.f16, HS.out.f17, HS.out.f18, HS.out.f19, HS.out.f20, HS.out.f21, HS.out.f22, HS.out.f23, HS.out.f24, HS.out.f25, HS.out.f26, HS.out.f27⟩⟩
                  · obtain rfl := Option.some.inj ho
                    have d11 : L 11 = true := hall ⟨11, .guard⟩ (by simp) rfl
                    have hanc : ∀ a ∈ ancR 13, L a = true := by
                      intro a ha
                      have hcl : a = 11 ∨ a ∈ ancR 11 := by revert a; decide
                      rcases hcl with rfl | h9
                      · exact d11
                      · exact HS.out.G 11 d11 a h9
                    have e11 := HS.out.f11 d11
                    have h25 : L 25 = false := Bool.eq_false_iff.2 (fun h => by have h9 := HS.out.G 25 h 13 (by decide); rw [show L 13 = false from hl] at h9; cases h9)
                    refine wpOp_ok (.int .i64 (nx : Nat)) W rfl (by show Region.wanted _ _ = true; simp [Region.wanted, yielded, rFr, d11, e11]) (by simp only [rFr, d11, cond_true, e11, hF.a0, hF.a1, hF.a2, hF.a4, hF.a5, hF.a6, hF.a11, hF.a12]; go_simp) ⟨upd L 13 true, upd V 13 (.int .i64 (nx : Nat)), rfl, rfl, ⟨(anc_upd HS.out.G hanc), HS.out.below, HS.out.b5, HS.out.row, HS.out.f0, HS.out.f1, HS.out.f2, HS.out.f3, HS.out.f4, HS.out.f5, HS.out.f6, HS.out.f7, HS.out.f8, HS.out.f9, HS.out.f10, HS.out.f11, HS.out.f12, (fun _ => rfl), HS.out.f14, HS.out.f15, HS.out.f16, HS.out.f17, HS.out.f18, HS.out.f19, HS.out.f20, HS.out.f21, HS.out.f22, HS.out.f23, HS.out.f24, HS.out.f25, HS.out.f26, HS.out.f27⟩⟩
                  · obtain rfl := Option.some.inj ho
                    have d12 : L 12 = true := hall ⟨12, .data⟩ (by simp) rfl
                    have d13 : L 13 = true := hall ⟨13, .data⟩ (by simp) rfl
                    have d11 : L 11 = true := hall ⟨11, .guard⟩ (by simp) rfl
                    have hanc : ∀ a ∈ ancR 14, L a = true := by
                      intro a ha
                      have hcl : a = 12 ∨ a = 13 ∨ a = 11 ∨ a ∈ ancR 12 ∨ a ∈ ancR 13 ∨ a ∈ ancR 11 := by revert a; decide
                      rcases hcl with rfl | rfl | rfl | h9 | h9 | h9
                      · exact d12
                      · exact d13
                      · exact d11
                      · exact HS.out.G 12 d12 a h9
                      · exact HS.out.G 13 d13 a h9
                      · exact HS.out.G 11 d11 a h9
                    have e12 := HS.out.f12 d12
                    have e13 := HS.out.f13 d13
                    have e11 := HS.out.f11 d11
                    have h25 : L 25 = false := Bool.eq_false_iff.2 (fun h => by have h9 := HS.out.G 25 h 14 (by decide); rw [show L 14 = false from hl] at h9; cases h9)
                    refine wpOp_ok (.pointer (some ⟨g, nx, none⟩)) W rfl (by show Region.wanted _ _ = true; simp [Region.wanted, yielded, rFr, d11, e11]) (by simp only [rFr, d12, d13, d11, cond_true, e12, e13, e11, hF.a0, hF.a1, hF.a2, hF.a4, hF.a5, hF.a6, hF.a11, hF.a12]; go_simp) ⟨upd L 14 true, upd V 14 (.pointer (some ⟨g, nx, none⟩)), rfl, rfl, ⟨(anc_upd HS.out.G hanc), HS.out.below, HS.out.b5, HS.out.row, HS.out.f0, HS.out.f1, HS.out.f2, HS.out.f3, HS.out.f4, HS.out.f5, HS.out.f6, HS.out.f7, HS.out.f8, HS.out.f9, HS.out.f10, HS.out.f11, HS.out.f12, HS.out.f13, (fun _ => rfl), HS.out.f15, HS.out.f16, HS.out.f17, HS.out.f18, HS.out.f19, HS.out.f20, HS.out.f21, HS.out.f22, HS.out.f23, HS.out.f24, HS.out.f25, HS.out.f26, HS.out.f27⟩⟩
                  · obtain rfl := Option.some.inj ho
                    have d14 : L 14 = true := hall ⟨14, .data⟩ (by simp) rfl
                    have d11 : L 11 = true := hall ⟨11, .guard⟩ (by simp) rfl
                    have hanc : ∀ a ∈ ancR 15, L a = true := by
                      intro a ha
                      have hcl : a = 14 ∨ a = 11 ∨ a ∈ ancR 14 ∨ a ∈ ancR 11 := by revert a; decide
                      rcases hcl with rfl | rfl | h9 | h9
                      · exact d14
                      · exact d11
                      · exact HS.out.G 14 d14 a h9
                      · exact HS.out.G 11 d11 a h9
                    have e14 := HS.out.f14 d14
                    have e11 := HS.out.f11 d11
                    have h25 : L 25 = false := Bool.eq_false_iff.2 (fun h => by have h9 := HS.out.G 25 h 15 (by decide); rw [show L 15 = false from hl] at h9; cases h9)
                    obtain ⟨c0, c3, c6, c9, c12, c15, c19⟩ := HCELL.out W (HS.out.below h25)
                    refine wpOp_ok (.int .i64 (cv : Nat)) W rfl (by show Region.wanted _ _ = true; simp [Region.wanted, yielded, rFr, d11, e11]) (by simp only [rFr, d14, d11, cond_true, e14, e11, hF.a0, hF.a1, hF.a2, hF.a4, hF.a5, hF.a6, hF.a11, hF.a12]; go_simp) ⟨upd L 15 true, upd V 15 (.int .i64 (cv : Nat)), rfl, rfl, ⟨(anc_upd HS.out.G hanc), HS.out.below, HS.out.b5, HS.out.row, HS.out.f0, HS.out.f1, HS.out.f2, HS.out.f3, HS.out.f4, HS.out.f5, HS.out.f6, HS.out.f7, HS.out.f8, HS.out.f9, HS.out.f10, HS.out.f11, HS.out.f12, HS.out.f13, HS.out.f14, (fun _ => rfl), HS.out.f16, HS.out.f17, HS.out.f18, HS.out.f19, HS.out.f20, HS.out.f21, HS.out.f22, HS.out.f23, HS.out.f24, HS.out.f25, HS.out.f26, HS.out.f27⟩⟩
                  · obtain rfl := Option.some.inj ho
                    have d15 : L 15 = true := hall ⟨15, .data⟩ (by simp) rfl
                    have d11 : L 11 = true := hall ⟨11, .guard⟩ (by simp) rfl
                    have hanc : ∀ a ∈ ancR 16, L a = true := by
                      intro a ha
                      have hcl : a = 15 ∨ a = 11 ∨ a ∈ ancR 15 ∨ a ∈ ancR 11 := by revert a; decide
                      rcases hcl with rfl | rfl | h9 | h9
                      · exact d15
                      · exact d11
                      · exact HS.out.G 15 d15 a h9
                      · exact HS.out.G 11 d11 a h9
                    have e15 := HS.out.f15 d15
                    have e11 := HS.out.f11 d11
                    have h25 : L 25 = false := Bool.eq_false_iff.2 (fun h => by have h9 := HS.out.G 25 h 16 (by decide); rw [show L 16 = false from hl] at h9; cases h9)
                    refine wpOp_ok (.bool true) W rfl (by show Region.wanted _ _ = true; simp [Region.wanted, yielded, rFr, d11, e11]) (by simp only [rFr, d15, d11, cond_true, e15, e11, hF.a0, hF.a1, hF.a2, hF.a4, hF.a5, hF.a6, hF.a11, hF.a12]; go_simp) ⟨upd L 16 true, upd V 16 (.bool true), rfl, rfl, ⟨(anc_upd HS.out.G hanc), HS.out.below, HS.out.b5, HS.out.row, HS.out.f0, HS.out.f1, HS.out.f2, HS.out.f3, HS.out.f4, HS.out.f5, HS.out.f6, HS.out.f7, HS.out.f8, HS.out.f9, HS.out.f10, HS.out.f11, HS.out.f12, HS.out.f13, HS.out.f14, HS.out.f15, (fun _ => rfl), HS.out.f17, HS.out.f18, HS.out.f19, HS.out.f20, HS.out.f21, HS.out.f22, HS.out.f23, HS.out.f24, HS.out.f25, HS.out.f26, HS.out.f27⟩⟩
                  · obtain rfl := Option.some.inj ho
                    have d11 : L 11 = true := hall ⟨11, .data⟩ (by simp) rfl
                    have d16 : L 16 = true := hall ⟨16, .data⟩ (by simp) rfl
                    have hanc : ∀ a ∈ ancR 17, L a = true := by
                      intro a ha
                      have hcl : a = 11 ∨ a = 16 ∨ a ∈ ancR 11 ∨ a ∈ ancR 16 := by revert a; decide
                      rcases hcl with rfl | rfl | h9 | h9
                      · exact d11
                      · exact d16
                      · exact HS.out.G 11 d11 a h9
                      · exact HS.out.G 16 d16 a h9
                    have e11 := HS.out.f11 d11
                    have e16 := HS.out.f16 d16
                    have h25 : L 25 = false := Bool.eq_false_iff.2 (fun h => by have h9 := HS.out.G 25 h 17 (by decide); rw [show L 17 = false from hl] at h9; cases h9)
                    refine wpOp_ok (.bool true) W rfl rfl (by simp only [rFr, d11, d16, cond_true, e11, e16, hF.a0, hF.a1, hF.a2, hF.a4, hF.a5, hF.a6, hF.a11, hF.a12]; go_simp) ⟨upd L 17 true, upd V 17 (.bool true), rfl, rfl, ⟨(anc_upd HS.out.G hanc), HS.out.below, HS.out.b5, HS.out.row, HS.out.f0, HS.out.f1, HS.out.f2, HS.out.f3, HS.out.f4, HS.out.f5, HS.out.f6, HS.out.f7, HS.out.f8, HS.out.f9, HS.out.f10, HS.out.f11, HS.out.f12, HS.out.f13, HS.out.f14, HS.out.f15, HS.out.f16, (fun _ => rfl), HS.out.f18, HS.out.f19, HS.out.f20, HS.out.f21, HS.out.f22, HS.out.f23, HS.out.f24, HS.out.f25, HS.out.f26, HS.out.f27⟩⟩
                  · obtain rfl := Option.some.inj ho
                    have d17 : L 17 = true := hall ⟨17, .data⟩ (by simp) rfl
                    have d11 : L 11 = true := hall ⟨11, .chain⟩ (by simp) rfl
                    have hanc : ∀ a ∈ ancR 18, L a = true := by
                      intro a ha
                      have hcl : a = 17 ∨ a = 11 ∨ a ∈ ancR 17 ∨ a ∈ ancR 11 := by revert a; decide
                      rcases hcl with rfl | rfl | h9 | h9
                      · exact d17
                      · exact d11
                      · exact HS.out.G 17 d17 a h9
                      · exact HS.out.G 11 d11 a h9
                    have e17 := HS.out.f17 d17
                    have e11 := HS.out.f11 d11
                    have h25 : L 25 = false := Bool.eq_false_iff.2 (fun h => by have h9 := HS.out.G 25 h 18 (by decide); rw [show L 18 = false from hl] at h9; cases h9)
                    refine wpOp_ok (.bool true) W rfl rfl (by simp only [rFr, d17, d11, cond_true, e17, e11, hF.a0, hF.a1, hF.a2, hF.a4, hF.a5, hF.a6, hF.a11, hF.a12]; go_simp) ⟨upd L 18 true, upd V 18 (.bool true), rfl, rfl, ⟨(anc_upd HS.out.G hanc), HS.out.below, HS.out.b5, HS.out.row, HS.out.f0, HS.out.f1, HS.out.f2, HS.out.f3, HS.out.f4, HS.out.f5, HS.out.f6, HS.out.f7, HS.out.f8, HS.out.f9, HS.out.f10, HS.out.f11, HS.out.f12, HS.out.f13, HS.out.f14, HS.out.f15, HS.out.f16, HS.out.f17, (fun _ => rfl), HS.out.f19, HS.out.f20, HS.out.f21, HS.out.f22, HS.out.f23, HS.out.f24, HS.out.f25, HS.out.f26, HS.out.f27⟩⟩
                  · obtain rfl := Option.some.inj ho
                    have d18 : L 18 = true := hall ⟨18, .guard⟩ (by simp) rfl
                    have hanc : ∀ a ∈ ancR 19, L a = true := by
                      intro a ha
                      have hcl : a = 18 ∨ a ∈ ancR 18 := by revert a; decide
                      rcases hcl with rfl | h9
                      · exact d18
                      · exact HS.out.G 18 d18 a h9
                    have e18 := HS.out.f18 d18
                    have h25 : L 25 = false := Bool.eq_false_iff.2 (fun h => by have h9 := HS.out.G 25 h 19 (by decide); rw [show L 19 = false from hl] at h9; cases h9)
                    obtain ⟨c0, c3, c6, c9, c12, c15, c19⟩ := HCELL.out W (HS.out.below h25)
                    refine wpOp_ok (.func (.func 96) #[] (caps bs yb ba bw bd)) W rfl (by show Region.wanted _ _ = true; simp [Region.wanted, yielded, rFr, d18, e18]) (by simp only [rFr, d18, cond_true, e18, hF.a0, hF.a1, hF.a2, hF.a4, hF.a5, hF.a6, hF.a11, hF.a12]; go_simp) ⟨upd L 19 true, upd V 19 (.func (.func 96) #[] (caps bs yb ba bw bd)), rfl, rfl, ⟨(anc_upd HS.out.G hanc), HS.out.below, HS.out.b5, HS.out.row, HS.out.f0, HS.out.f1, HS.out.f2, HS.out.f3, HS.out.f4, HS.out.f5, HS.out.f6, HS.out.f7, HS.out.f8, HS.out.f9, HS.out.f10, HS.out.f11, HS.out.f12, HS.out.f13, HS.out.f14, HS.out.f15, HS.out.f16, HS.out.f17, HS.out.f18, (fun _ => rfl), HS.out.f20, HS.out.f21, HS.out.f22, HS.out.f23, HS.out.f24, HS.out.f25, HS.out.f26, HS.out.f27⟩⟩
                  · obtain rfl := Option.some.inj ho
                    have d18 : L 18 = true := hall ⟨18, .guard⟩ (by simp) rfl
                    have hanc : ∀ a ∈ ancR 20, L a = true := by
                      intro a ha
                      have hcl : a = 18 ∨ a ∈ ancR 18 := by revert a; decide
                      rcases hcl with rfl | h9
                      · exact d18
                      · exact HS.out.G 18 d18 a h9
                    have e18 := HS.out.f18 d18
                    have h25 : L 25 = false := Bool.eq_false_iff.2 (fun h => by have h9 := HS.out.G 25 h 20 (by decide); rw [show L 20 = false from hl] at h9; cases h9)
                    refine wpOp_ok (.int .i64 (nx : Nat)) W rfl (by show Region.wanted _ _ = true; simp [Region.wanted, yielded, rFr, d18, e18]) (by simp only [rFr, d18, cond_true, e18, hF.a0, hF.a1, hF.a2, hF.a4, hF.a5, hF.a6, hF.a11, hF.a12]; go_simp) ⟨upd L 20 true, upd V 20 (.int .i64 (nx : Nat)), rfl, rfl, ⟨(anc_upd HS.out.G hanc), HS.out.below, HS.out.b5, HS.out.row, HS.out.f0, HS.out.f1, HS.out.f2, HS.out.f3, HS.out.f4, HS.out.f5, HS.out.f6, HS.out.f7, HS.out.f8, HS.out.f9, HS.out.f10, HS.out.f11, HS.out.f12, HS.out.f13, HS.out.f14, HS.out.f15, HS.out.f16, HS.out.f17, HS.out.f18, HS.out.f19, (fun _ => rfl), HS.out.f21, HS.out.f22, HS.out.f23, HS.out.f24, HS.out.f25, HS.out.f26, HS.out.f27⟩⟩
                  · obtain rfl := Option.some.inj ho
                    have d18 : L 18 = true := hall ⟨18, .guard⟩ (by simp) rfl
                    have hanc : ∀ a ∈ ancR 21, L a = true := by
                      intro a ha
                      have hcl : a = 18 ∨ a ∈ ancR 18 := by revert a; decide
                      rcases hcl with rfl | h9
                      · exact d18
                      · exact HS.out.G 18 d18 a h9
                    have e18 := HS.out.f18 d18
                    have h25 : L 25 = false := Bool.eq_false_iff.2 (fun h => by have h9 := HS.out.G 25 h 21 (by decide); rw [show L 21 = false from hl] at h9; cases h9)
                    refine wpOp_ok (dv) W rfl (by show Region.wanted _ _ = true; simp [Region.wanted, yielded, rFr, d18, e18]) (by simp only [rFr, d18, cond_true, e18, hF.a0, hF.a1, hF.a2, hF.a4, hF.a5, hF.a6, hF.a11, hF.a12]; go_simp) ⟨upd L 21 true, upd V 21 (dv), rfl, rfl, ⟨(anc_upd HS.out.G hanc), HS.out.below, HS.out.b5, HS.out.row, HS.out.f0, HS.out.f1, HS.out.f2, HS.out.f3, HS.out.f4, HS.out.f5, HS.out.f6, HS.out.f7, HS.out.f8, HS.out.f9, HS.out.f10, HS.out.f11, HS.out.f12, HS.out.f13, HS.out.f14, HS.out.f15, HS.out.f16, HS.out.f17, HS.out.f18, HS.out.f19, HS.out.f20, (fun _ => rfl), HS.out.f22, HS.out.f23, HS.out.f24, HS.out.f25, HS.out.f26, HS.out.f27⟩⟩
                  · obtain rfl := Option.some.inj ho
                    have d18 : L 18 = true := hall ⟨18, .guard⟩ (by simp) rfl
                    have hanc : ∀ a ∈ ancR 22, L a = true := by
                      intro a ha
                      have hcl : a = 18 ∨ a ∈ ancR 18 := by revert a; decide
                      rcases hcl with rfl | h9
                      · exact d18
                      · exact HS.out.G 18 d18 a h9
                    have e18 := HS.out.f18 d18
                    have h25 : L 25 = false := Bool.eq_false_iff.2 (fun h => by have h9 := HS.out.G 25 h 22 (by decide); rw [show L 22 = false from hl] at h9; cases h9)
                    refine wpOp_ok (.int .i64 (j : Nat)) W rfl (by show Region.wanted _ _ = true; simp [Region.wanted, yielded, rFr, d18, e18]) (by simp only [rFr, d18, cond_true, e18, hF.a0, hF.a1, hF.a2, hF.a4, hF.a5, hF.a6, hF.a11, hF.a12]; go_simp) ⟨upd L 22 true, upd V 22 (.int .i64 (j : Nat)), rfl, rfl, ⟨(anc_upd HS.out.G hanc), HS.out.below, HS.out.b5, HS.out.row, HS.out.f0, HS.out.f1, HS.out.f2, HS.out.f3, HS.out.f4, HS.out.f5, HS.out.f6, HS.out.f7, HS.out.f8, HS.out.f9, HS.out.f10, HS.out.f11, HS.out.f12, HS.out.f13, HS.out.f14, HS.out.f15, HS.out.f16, HS.out.f17, HS.out.f18, HS.out.f19, HS.out.f20, HS.out.f21, (fun _ => rfl), HS.out.f23, HS.out.f24, HS.out.f25, HS.out.f26, HS.out.f27⟩⟩
                  · obtain rfl := Option.some.inj ho
                    have d22 : L 22 = true := hall ⟨22, .data⟩ (by simp) rfl
                    have d18 : L 18 = true := hall ⟨18, .guard⟩ (by simp) rfl
                    have hanc : ∀ a ∈ ancR 23, L a = true := by
                      intro a ha
                      have hcl : a = 22 ∨ a = 18 ∨ a ∈ ancR 22 ∨ a ∈ ancR 18 := by revert a; decide
                      rcases hcl with rfl | rfl | h9 | h9
                      · exact d22
                      · exact d18
                      · exact HS.out.G 22 d22 a h9
                      · exact HS.out.G 18 d18 a h9
                    have e22 := HS.out.f22 d22
                    have e18 := HS.out.f18 d18
                    have h25 : L 25 = false := Bool.eq_false_iff.2 (fun h => by have h9 := HS.out.G 25 h 23 (by decide); rw [show L 23 = false from hl] at h9; cases h9)
                    have h24 : L 24 = false := Bool.eq_false_iff.2 (fun h => by have h9 := HS.out.G 24 h 23 (by decide); rw [show L 23 = false from hl] at h9; cases h9)
                    have hsW := (HS.out.below h25).size
                    refine wpOp_ok (.slice (some ⟨W.heap.size, 0, none⟩) 1 1) (W.alloc (.cells #[.int .i64 (j : Nat)] 3)) rfl (by show Region.wanted _ _ = true; simp [Region.wanted, yielded, rFr, d18, e18]) (by simp only [rFr, d22, d18, cond_true, e22, e18, hF.a0, hF.a1, hF.a2, hF.a4, hF.a5, hF.a6, hF.a11, hF.a12]; go_simp) ⟨upd L 23 true, upd V 23 (.slice (some ⟨W.heap.size, 0, none⟩) 1 1), rfl, rfl, ⟨(anc_upd HS.out.G hanc), (fun h => (HS.out.below h25).alloc (by omega) _), (fun h => (HS.out.b5 h24).alloc (HS.out.b5 h24).size _), (fun h => (HS.out.row h24).alloc _), HS.out.f0, HS.out.f1, HS.out.f2, HS.out.f3, HS.out.f4, HS.out.f5, HS.out.f6, HS.out.f7, HS.out.f8, HS.out.f9, HS.out.f10, HS.out.f11, HS.out.f12, HS.out.f13, HS.out.f14, HS.out.f15, HS.out.f16, HS.out.f17, HS.out.f18, HS.out.f19, HS.out.f20, HS.out.f21, HS.out.f22, (fun _ _ => ⟨W.heap.size, rfl, World.alloc_heap_new W _⟩), (fun h => by have h8 : L 24 = true := h; rw [h24] at h8; cases h8), (fun h => by have h8 : L 25 = true := h; rw [h25] at h8; cases h8), HS.out.f26, HS.out.f27⟩⟩
                  · obtain rfl := Option.some.inj ho
                    have d21 : L 21 = true := hall ⟨21, .data⟩ (by simp) rfl
                    have d23 : L 23 = true := hall ⟨23, .data⟩ (by simp) rfl
                    have d18 : L 18 = true := hall ⟨18, .guard⟩ (by simp) rfl
                    have hanc : ∀ a ∈ ancR 24, L a = true := by
                      intro a ha
                      have hcl : a = 21 ∨ a = 23 ∨ a = 18 ∨ a ∈ ancR 21 ∨ a ∈ ancR 23 ∨ a ∈ ancR 18 := by revert a; decide
                      rcases hcl with rfl | rfl | rfl | h9 | h9 | h9
                      · exact d21
                      · exact d23
                      · exact d18
                      · exact HS.out.G 21 d21 a h9
                      · exact HS.out.G 23 d23 a h9
                      · exact HS.out.G 18 d18 a h9
                    have e21 := HS.out.f21 d21
                    have e18 := HS.out.f18 d18
                    have h25 : L 25 = false := Bool.eq_false_iff.2 (fun h => by have h9 := HS.out.G 25 h 24 (by decide); rw [show L 24 = false from hl] at h9; cases h9)
                    have h24 : L 24 = false := hl
                    obtain ⟨q, e23, hq⟩ := HS.out.f23 d23 h24
                    have hsW := (HS.out.below h25).size
                    obtain ⟨A9, c9, w9, hr9, hpc9, hb9⟩ := preC hJ hC0 HJ5.out (HS.out.b5 h24) (HS.out.row h24) HM.out HDM.out hq (by omega) (by omega)
                    have hbW := HS.out.below h25
                    have he1 : (rFr (fun k => ac.tmps.getD k undef) L V).eval (.tmp 59) = dv := by show cond (L 21) (V 21) (ac.tmps.getD 59 undef) = _; rw [d21, e21]; rfl
                    have he2 : (rFr (fun k => ac.tmps.getD k undef) L V).eval (.tmp 61) = .slice (some ⟨q, 0, none⟩) 1 1 := by show cond (L 23) (V 23) (ac.tmps.getD 61 undef) = _; rw [d23, e23]; rfl
                    refine wpOp_ok (.slice A9 (n + 1) c9) w9 rfl (by show Region.wanted _ _ = true; simp [Region.wanted, yielded, rFr, d18, e18]) (by change Sem.run _ (execOp _ { dst := some 62, op := .call { callee := .builtin .append, args := #[.tmp 59, .tmp 61], argTypes := #[35, 35] }, type := 35, pos := _, after := _, guard := _ }) _ = _; unfold execOp; simp only [resolve, invoke, builtin, Sem.run_bind, Sem.run_pure, Result.andThen_ok, List.map_toArray, List.map_cons, List.map_nil, he1, he2, hr9]) ⟨upd L 24 true, upd V 24 (.slice A9 (n + 1) c9), rfl, rfl, ⟨(anc_upd HS.out.G hanc), (fun h => hbW.trans hb9), (fun h => by cases h), (fun h => by cases h), HS.out.f0, HS.out.f1, HS.out.f2, HS.out.f3, HS.out.f4, HS.out.f5, HS.out.f6, HS.out.f7, HS.out.f8, HS.out.f9, HS.out.f10, HS.out.f11, HS.out.f12, HS.out.f13, HS.out.f14, HS.out.f15, HS.out.f16, HS.out.f17, HS.out.f18, HS.out.f19, HS.out.f20, HS.out.f21, HS.out.f22, (fun h h8 => by cases h8), (fun _ _ => ⟨A9, c9, rfl, hpc9⟩), (fun h => by have h8 : L 25 = true := h; rw [h25] at h8; cases h8), HS.out.f26, HS.out.f27⟩⟩
                  · obtain rfl := Option.some.inj ho
                    have d19 : L 19 = true := hall ⟨19, .data⟩ (by simp) rfl
                    have d20 : L 20 = true := hall ⟨20, .data⟩ (by simp) rfl
                    have d24 : L 24 = true := hall ⟨24, .data⟩ (by simp) rfl
                    have d18 : L 18 = true := hall ⟨18, .guard⟩ (by simp) rfl
                    have hanc : ∀ a ∈ ancR 25, L a = true := by
                      intro a ha
                      have hcl : a = 19 ∨ a = 20 ∨ a = 24 ∨ a = 18 ∨ a ∈ ancR 19 ∨ a ∈ ancR 20 ∨ a ∈ ancR 24 ∨ a ∈ ancR 18 := by revert a; decide
                      rcases hcl with rfl | rfl | rfl | rfl | h9 | h9 | h9 | h9
                      · exact d19
                      · exact d20
                      · exact d24
                      · exact d18
                      · exact HS.out.G 19 d19 a h9
                      · exact HS.out.G 20 d20 a h9
                      · exact HS.out.G 24 d24 a h9
                      · exact HS.out.G 18 d18 a h9
                    have e19 := HS.out.f19 d19
                    have e20 := HS.out.f20 d20
                    have e18 := HS.out.f18 d18
                    have h25 : L 25 = false := hl
                    obtain ⟨A9, c9, e24, hpc9⟩ := HS.out.f24 d24 h25
                    have hbW := HS.out.below h25
                    refine wpOp_call rfl (by show Region.wanted _ _ = true; simp [Region.wanted, yielded, rFr, d18, e18]) (by simp only [rFr, e24, d19, d20, d24, d18, cond_true, e19, e20, e18, hF.a0, hF.a1, hF.a2, hF.a4, hF.a5, hF.a6, hF.a11, hF.a12]; go_simp) (IH5.out A9 c9 W hbW hpc9) (fun e w' he => by obtain ⟨b8, he1, he2⟩ := he; exact ⟨.bool b8, he1, upd L 25 true, upd V 25 (.bool b8), rfl, rfl, ⟨(anc_upd HS.out.G hanc), (fun h => by cases h), (fun h => by have h8 : L 24 = false := h; rw [d24] at h8; cases h8), (fun h => by have h8 : L 24 = false := h; rw [d24] at h8; cases h8), HS.out.f0, HS.out.f1, HS.out.f2, HS.out.f3, HS.out.f4, HS.out.f5, HS.out.f6, HS.out.f7, HS.out.f8, HS.out.f9, HS.out.f10, HS.out.f11, HS.out.f12, HS.out.f13, HS.out.f14, HS.out.f15, HS.out.f16, HS.out.f17, HS.out.f18, HS.out.f19, HS.out.f20, HS.out.f21, HS.out.f22, (fun h h8 => by have h7 : L 24 = false := h8; rw [d24] at h7; cases h7), (fun h h8 => by cases h8), (fun _ => ⟨b8, rfl, he2⟩), (fun h => by have h7 : L 26 = true := h; have h9 := HS.out.G 26 h7 25 (by decide); rw [h25] at h9; cases h9), (fun h => by have h7 : L 27 = true := h; have h9 := HS.out.G 27 h7 25 (by decide); rw [h25] at h9; cases h9)⟩⟩)
                  · obtain rfl := Option.some.inj ho
                    have d25 : L 25 = true := hall ⟨25, .data⟩ (by simp) rfl
                    have d18 : L 18 = true := hall ⟨18, .guard⟩ (by simp) rfl
                    have hanc : ∀ a ∈ ancR 26, L a = true := by
                      intro a ha
                      have hcl : a = 25 ∨ a = 18 ∨ a ∈ ancR 25 ∨ a ∈ ancR 18 := by revert a; decide
                      rcases hcl with rfl | rfl | h9 | h9
                      · exact d25
                      · exact d18
                      · exact HS.out.G 25 d25 a h9
                      · exact HS.out.G 18 d18 a h9
                    obtain ⟨b9, e25, ho9⟩ := HS.out.f25 d25
                    have e18 := HS.out.f18 d18
                    refine wpOp_ok (.bool (!b9)) W rfl (by show Region.wanted _ _ = true; simp [Region.wanted, yielded, rFr, d18, e18]) (by simp only [rFr, d25, d18, cond_true, e25, e18, hF.a0, hF.a1, hF.a2, hF.a4, hF.a5, hF.a6, hF.a11, hF.a12]; go_simp) ⟨upd L 26 true, upd V 26 (.bool (!b9)), rfl, rfl, ⟨(anc_upd HS.out.G hanc), HS.out.below, HS.out.b5, HS.out.row, HS.out.f0, HS.out.f1, HS.out.f2, HS.out.f3, HS.out.f4, HS.out.f5, HS.out.f6, HS.out.f7, HS.out.f8, HS.out.f9, HS.out.f10, HS.out.f11, HS.out.f12, HS.out.f13, HS.out.f14, HS.out.f15, HS.out.f16, HS.out.f17, HS.out.f18, HS.out.f19, HS.out.f20, HS.out.f21, HS.out.f22, HS.out.f23, HS.out.f24, HS.out.f25, (fun _ => ⟨b9, e25, rfl⟩), HS.out.f27⟩⟩
                  · obtain rfl := Option.some.inj ho
                    have d18 : L 18 = true := hall ⟨18, .data⟩ (by simp) rfl
                    have d26 : L 26 = true := hall ⟨26, .data⟩ (by simp) rfl
                    have hanc : ∀ a ∈ ancR 27, L a = true := by
                      intro a ha
                      have hcl : a = 18 ∨ a = 26 ∨ a ∈ ancR 18 ∨ a ∈ ancR 26 := by revert a; decide
                      rcases hcl with rfl | rfl | h9 | h9
                      · exact d18
                      · exact d26
                      · exact HS.out.G 18 d18 a h9
                      · exact HS.out.G 26 d26 a h9
                    have e18 := HS.out.f18 d18
                    obtain ⟨b9, e25, e26⟩ := HS.out.f26 d26
                    refine wpOp_ok (.bool (!b9)) W rfl rfl (by simp only [rFr, d18, d26, cond_true, e18, e26, hF.a0, hF.a1, hF.a2, hF.a4, hF.a5, hF.a6, hF.a11, hF.a12]; go_simp) ⟨upd L 27 true, upd V 27 (.bool (!b9)), rfl, rfl, ⟨(anc_upd HS.out.G hanc), HS.out.below, HS.out.b5, HS.out.row, HS.out.f0, HS.out.f1, HS.out.f2, HS.out.f3, HS.out.f4, HS.out.f5, HS.out.f6, HS.out.f7, HS.out.f8, HS.out.f9, HS.out.f10, HS.out.f11, HS.out.f12, HS.out.f13, HS.out.f14, HS.out.f15, HS.out.f16, HS.out.f17, HS.out.f18, HS.out.f19, HS.out.f20, HS.out.f21, HS.out.f22, HS.out.f23, HS.out.f24, HS.out.f25, HS.out.f26, (fun _ => ⟨b9, e25, rfl⟩)⟩⟩
                · intro l a W ⟨L, V, e1, e2, S⟩ hr
                  subst e1
                  subst e2
                  have t0 : L 0 = true := listed_of_done hr 0 _ rfl (by simp)
                  have t1 : L 1 = true := listed_of_done hr 1 _ rfl (by simp [t0])
                  have t2 : L 2 = true := listed_of_done hr 2 _ rfl (by simp [t0, t1])
                  have t3 : L 3 = true := listed_of_done hr 3 _ rfl (by simp [t0, t1, t2])
                  have t4 : L 4 = true := listed_of_done hr 4 _ rfl (by simp [t0, t1, t2, t3])
                  have t5 : L 5 = true := listed_of_done hr 5 _ rfl (by simp [t0, t1, t2, t3, t4])
                  have t6 : L 6 = true := listed_of_done hr 6 _ rfl (by simp [t0, t1, t2, t3, t4, t5])
                  have t7 : L 7 = true := listed_of_done hr 7 _ rfl (by simp [t0, t1, t2, t3, t4, t5, t6])
                  have t8 : L 8 = true := listed_of_done hr 8 _ rfl (by simp [t0, t1, t2, t3, t4, t5, t6, t7])
                  have t9 : L 9 = true := listed_of_done hr 9 _ rfl (by simp [t0, t1, t2, t3, t4, t5, t6, t7, t8])
                  have t10 : L 10 = true := listed_of_done hr 10 _ rfl (by simp [t0, t1, t2, t3, t4, t5, t6, t7, t8, t9])
                  have t11 : L 11 = true := listed_of_done hr 11 _ rfl (by simp [t0, t1, t2, t3, t4, t5, t6, t7, t8, t9, t10])
                  have t12 : L 12 = true := listed_of_done hr 12 _ rfl (by simp [t0, t1, t2, t3, t4, t5, t6, t7, t8, t9, t10, t11])
                  have t13 : L 13 = true := listed_of_done hr 13 _ rfl (by simp [t0, t1, t2, t3, t4, t5, t6, t7, t8, t9, t10, t11, t12])
                  have t14 : L 14 = true := listed_of_done hr 14 _ rfl (by simp [t0, t1, t2, t3, t4, t5, t6, t7, t8, t9, t10, t11, t12, t13])
                  have t15 : L 15 = true := listed_of_done hr 15 _ rfl (by simp [t0, t1, t2, t3, t4, t5, t6, t7, t8, t9, t10, t11, t12, t13, t14])
                  have t16 : L 16 = true := listed_of_done hr 16 _ rfl (by simp [t0, t1, t2, t3, t4, t5, t6, t7, t8, t9, t10, t11, t12, t13, t14, t15])
                  have t17 : L 17 = true := listed_of_done hr 17 _ rfl (by simp [t0, t1, t2, t3, t4, t5, t6, t7, t8, t9, t10, t11, t12, t13, t14, t15, t16])
                  have t18 : L 18 = true := listed_of_done hr 18 _ rfl (by simp [t0, t1, t2, t3, t4, t5, t6, t7, t8, t9, t10, t11, t12, t13, t14, t15, t16, t17])
                  have t19 : L 19 = true := listed_of_done hr 19 _ rfl (by simp [t0, t1, t2, t3, t4, t5, t6, t7, t8, t9, t10, t11, t12, t13, t14, t15, t16, t17, t18])
                  have t20 : L 20 = true := listed_of_done hr 20 _ rfl (by simp [t0, t1, t2, t3, t4, t5, t6, t7, t8, t9, t10, t11, t12, t13, t14, t15, t16, t17, t18, t19])
                  have t21 : L 21 = true := listed_of_done hr 21 _ rfl (by simp [t0, t1, t2, t3, t4, t5, t6, t7, t8, t9, t10, t11, t12, t13, t14, t15, t16, t17, t18, t19, t20])
                  have t22 : L 22 = true := listed_of_done hr 22 _ rfl (by simp [t0, t1, t2, t3, t4, t5, t6, t7, t8, t9, t10, t11, t12, t13, t14, t15, t16, t17, t18, t19, t20, t21])
                  have t23 : L 23 = true := listed_of_done hr 23 _ rfl (by simp [t0, t1, t2, t3, t4, t5, t6, t7, t8, t9, t10, t11, t12, t13, t14, t15, t16, t17, t18, t19, t20, t21, t22])
                  have t24 : L 24 = true := listed_of_done hr 24 _ rfl (by simp [t0, t1, t2, t3, t4, t5, t6, t7, t8, t9, t10, t11, t12, t13, t14, t15, t16, t17, t18, t19, t20, t21, t22, t23])
                  have t25 : L 25 = true := listed_of_done hr 25 _ rfl (by simp [t0, t1, t2, t3, t4, t5, t6, t7, t8, t9, t10, t11, t12, t13, t14, t15, t16, t17, t18, t19, t20, t21, t22, t23, t24])
                  have t26 : L 26 = true := listed_of_done hr 26 _ rfl (by simp [t0, t1, t2, t3, t4, t5, t6, t7, t8, t9, t10, t11, t12, t13, t14, t15, t16, t17, t18, t19, t20, t21, t22, t23, t24, t25])
                  have t27 : L 27 = true := listed_of_done hr 27 _ rfl (by simp [t0, t1, t2, t3, t4, t5, t6, t7, t8, t9, t10, t11, t12, t13, t14, t15, t16, t17, t18, t19, t20, t21, t22, t23, t24, t25, t26])
                  obtain ⟨b9, e25, ho9⟩ := S.f25 t25
                  obtain ⟨b8, e8, e27⟩ := S.f27 t27
                  obtain rfl : b8 = b9 := by rw [e25] at e8; injection e8 with e8; exact e8.symm
                  refine ⟨V, b8, ?_, e27, ho9⟩
                  simp only [rFr, t0, t1, t2, t3, t4, t5, t6, t7, t8, t9, t10, t11, t12, t13, t14, t15, t16, t17, t18, t19, t20, t21, t22, t23, t24, t25, t26, t27]
                · rintro l a W ⟨L, V, rfl, rfl, S⟩
                  rfl
              · intro e a' W9 hq
                cases e <;> try exact hq.elim
                obtain ⟨V, b, rfl, e27, hfin⟩ := hq
                subst hac
                simp only [rFr, cond_true, e27]
                simp only [Array.getD_eq_getD_getElem?, List.getElem?_toArray, List.getElem?_cons_zero, List.getElem?_cons_succ, Option.getD_some]
                cases b with
                | true =>
                  rcases hfin with ⟨_, q1, q2, q3, q4⟩ | ⟨h, _⟩
                  · have HJ6 : Hid (J (i + (partW xs o ((bl s).drop at') (k + 1)).length) M W9) := Lib.hid (by rw [HCN.out, ← Nat.add_assoc, HI5.out]; exact q2)
                    have HK6 := Lib.hid (HK5.out.trans q3)
                    have HD6 := Lib.hid q4
                    have HST6 : Hid (∀ q, q < (partW xs o ((bl s).drop at') (k + 1)).length → stop (i + q) = false) := Lib.hid (fun q hq => by
                      rw [HCN.out] at hq
                      rcases Nat.lt_or_ge q (partW xs o ((bl s).drop at') k).length with h | h
                      · exact HST5.out q h
                      · have h2 := q1 (q - (partW xs o ((bl s).drop at') k).length) (by omega)
                        rw [← HI5.out] at h2
                        rw [show i + q = i + (partW xs o ((bl s).drop at') k).length + (q - (partW xs o ((bl s).drop at') k).length) by omega]
                        exact h2)
                    clear q1 q2 q3 q4 e27
                    go_wp2
                    go_roundg g'
                    case measure => omega
                    case rel => exact ⟨k + 1, by go_num, by omega, by omega, HJ6, HK6, HD6, HST6⟩
                  · cases h
                | false =>
                  rcases hfin with ⟨h, _⟩ | ⟨_, hjx⟩
                  · cases h
                  · clear e27
                    go_wp2
                    go_ret
                    first | exact ⟨false, rfl, .inr ⟨rfl, hjx⟩⟩ | exact .inl ⟨rfl, .inr ⟨rfl, hjx⟩⟩
        · obtain rfl : k = o.length := by omega
          have hpa := partW_all xs o HR9.out
          rw [hpa] at HJ5 HST5
          go_wp2
          go_ret
          exact ⟨true, rfl, .inl ⟨rfl, HST5.out, HJ5.out, HK5.out, HD5.out⟩⟩
end Go.Proofs.Ytlkabghpcjlohaa
