/- Joined texts: U8: walks and plain laws for this seat's program, each stated where it stands; conditions: as each states. -/
import Derived.Test.YtonibpilbkafnaaDoorJQ
/- Package grid: Parts. -/
namespace Go.Proofs.YtonibpilbkafnaaDoor
set_option linter.unusedVariables false
set_option linter.unusedSimpArgs false
open Go.RowKit Go.Lib

def intsZ (P : List Int) : Array Value := (P.map fun x => Value.int .i64 x).toArray
theorem intsZ_get {P : List Int} {j : Nat} {u : Int} (h : P[j]? = some u) : (intsZ P)[j]? = some (.int .i64 u) := by
  unfold intsZ
  rw [List.getElem?_toArray, List.getElem?_map, h]
  rfl
theorem intsZ_set (P : List Int) (j : Nat) (u : Int) : (intsZ P).setIfInBounds j (.int .i64 u) = intsZ (P.set j u) := by
  unfold intsZ
  rw [List.map_set]
  simp
theorem intsZ_fill (n : Nat) : (fillN n n).toArray = intsZ (List.replicate n (-1)) := by rw [fillN_all]; unfold intsZ; rw [List.map_replicate]
theorem pos_get {P : List Int} {j : Nat} {u : Int} (h : P[j]? = some u) : pos P j ↔ 0 ≤ u := by unfold pos; rw [List.getD_eq_getElem?_getD, h]; rfl
section
variable {P : Program} {w : World}
theorem wpList_append_run {ops : Array Oper} {rest : List Oper} {o : Oper} {a : Act} {Q : Exit → Act → World → Prop} (hgd : o.guard = none) (s x : Operand) (t : TypeId)
    (ho : o.op = .call { callee := .builtin .append, args := #[s, x], argTypes := #[t, t] }) (v1 v2 : Value) (hs : a.eval s = v1) (hx : a.eval x = v2) (v' : Value) (w' : World)
    (hr : (Builtin.append_ #[t, t] o.type #[v1, v2]).run P w = .ok v' w') (h : wpList P ops Q rest (a.put o.dst v') w') : wpList P ops Q (o :: rest) a w := by
  refine wpList_plain hgd fun K hK => ?_
  unfold Oper.wp execOp
  simp only [ho, resolve, invoke, builtin, Sem.run_bind, Sem.run_pure, Result.andThen_ok, List.map_toArray, List.map_cons, List.map_nil, hs, hx, hr]
  exact hK _ _ h
end
abbrev opG (g : Gd) : Nat → Bool := fun i => !gt g.B i
set_option maxHeartbeats 16000000 in
set_option maxRecDepth 100000 in
theorem Parts_any (v : Value) (g : Gd) (B : Nat) (w : World) (h : GdAt w B v g) (hB : B ≤ w.heap.size) (hg : OkG g) :
    Calls Tryd.prog 10 #[v] w fun e w' => ∃ u, e = .returned (.tuple #[u, .int .i64 (parts (gN g) (opG g) (gS g) : Nat)]) ∧ Below w.heap.size w w' := by
  have h256 := (area_le hg).1
  have hpos : 0 < gN g := Nat.mul_pos (area_le hg).2.2.2.1 (area_le hg).2.1
  have hlB := hg.b
  have hS := steps_g g
  have hO : Opens (opG g) (gS g) := opens_stW _ _ _ _ _
  have kw : g.H * g.W = ((gN g : Nat) : Int) := by
    have h1 := hg.h0; have h2 := hg.w0
    unfold gN
    rw [Int.natCast_mul, Int.toNat_of_nonneg (by omega), Int.toNat_of_nonneg (by omega)]
  have cch := fun W (hb : Below B w W) (hz : B ≤ W.heap.size) => Check_any v g B W (h.below hb) hz (by have := hg.b; have := hg.r; have := hg.d; omega)
  rw [check_of_ok hg] at cch
  have cn := fun (t : Nat) (W : World) (ht : t < gN g) (ho : opG g t = true) (hb : Below w.heap.size w W) => near_any v g t B W (h.below (hb.mono hB)) (Nat.le_trans hB hb.size) hg ht (by simpa using ho)
  obtain ⟨Ab, Ar, Ad, cb, cr, cd, rfl⟩ := h.form
  obtain ⟨vb, vr, vd, hveq, s1, s2, s3⟩ := h.eq
  clear h hg
  have hop : ∀ i, opG g i = !gt g.B i := fun _ => rfl
  generalize opG g = op at *
  generalize gS g = st at *
  unfold gN at *
  generalize g.H.toNat * g.W.toNat = n at *
  obtain ⟨gH, gW, gB, gR, gD⟩ := g
  simp only [gdV] at *
  rw [hlB] at cch cn hveq ⊢
  injection hveq with hveq
  injection hveq with hveq
  simp only [List.cons.injEq, and_true, true_and] at hveq
  obtain ⟨rfl, rfl, rfl⟩ := hveq
  obtain ⟨b1, o1, rfl, zb⟩ := s1.boolsAt hpos
  have ZB := Lib.hid zb
  clear zb s1 s2 s3
  generalize gR.length = nr at *
  generalize gD.length = nd at *
  have CCH := Lib.hid cch; have CN := Lib.hid cn; clear cch cn hlB
  have HB0 := Lib.hid hB; clear hB
  have CR := Lib.hid (fun (gx : Nat) (W : World) (hc : W.cell? ⟨gx, 0, none⟩ = some (.int .i64 (-1))) => Repeat_any gx 1 n W hc hpos h256)
  have HS := Lib.hid hS; have HO := Lib.hid hO; have HOP := Lib.hid hop
  clear hS hO hop
  go_enter Tryd.func10, Tryd.ntmps10
  go_wp2_with fail
  have hba : Below w.heap.size w _ := (Below.refl _ w).alloc (Nat.le_refl _) (.cells #[.int .i64 gH, .int .i64 gW, .slice (some ⟨b1, o1, none⟩) n cb, .slice Ar nr cr, .slice Ad nd cd] 27)
  have hg0 := World.alloc_heap_new w (.cells #[.int .i64 gH, .int .i64 gW, .slice (some ⟨b1, o1, none⟩) n cb, .slice Ar nr cr, .slice Ad nd cd] 27)
  have hz3 : w.heap.size + 1 = (w.alloc (.cells #[.int .i64 gH, .int .i64 gW, .slice (some ⟨b1, o1, none⟩) n cb, .slice Ar nr cr, .slice Ad nd cd] 27)).heap.size := by simp
  refine (CCH.out _ (hba.mono HB0.out) (by have := HB0.out; omega)).mono ?_
  rintro e w1 ⟨rfl, hb1⟩
  have hg1 := (hb1.block w.heap.size (by omega)).trans hg0
  have p0 := Lib.cell_of_heap hg1 0
  have p1 := Lib.cell_of_heap hg1 1
  have z1 := hb1.size
  have HBW := Lib.hid (hba.trans (hb1.mono (by omega)))
  have HG1 := Lib.hid hg1
  have lw1 : w.heap.size < w1.heap.size := (Array.getElem?_eq_some_iff.1 hg1).1
  clear hba hg0 hz3 hb1 hg1
  go_wp2_with fail
  have hcx := World.alloc_heap_new w1 (.cells #[.int .i64 (-1)] 3)
  refine (CR.out w1.heap.size _ (Lib.cell_of_heap hcx 0)).mono ?_
  rintro e w2 ⟨gp, rfl, hgp, hrow, hb2⟩
  rw [World.size_alloc] at hgp
  have hbx : Below w1.heap.size w1 w2 := ((Below.refl _ w1).alloc (Nat.le_refl _) _).trans (hb2.mono (by rw [World.size_alloc]; omega))
  have HB2 := Lib.hid (HBW.out.trans (hbx.mono (by omega)))
  have HG2 := Lib.hid ((hbx.block w.heap.size lw1).trans HG1.out)
  rw [intsZ_fill] at hrow
  have HR2 := Lib.hid hrow
  have lgp : w.heap.size < gp := by omega
  clear p0 p1 hcx hgp hrow hb2 hbx
  go_wp2_with fail
  go_loopg [5, 6, 7, 8, 10, 23] n (fun gf u5 _ _ _ _ u23 wr => ∃ (i m : Nat) (P : List Int), u23 = .int .i64 i ∧ i ≤ n ∧ n ≤ i + gf ∧ u5 = .int .i64 m ∧ m ≤ i ∧ Hid (Outer n st op i P m) ∧ Hid (Below w.heap.size w wr) ∧ Hid (wr.heap[w.heap.size]? = some (.cells #[.int .i64 gH, .int .i64 gW, .slice (some ⟨b1, o1, none⟩) n cb, .slice Ar nr cr, .slice Ad nd cd] 27 (0, 0))) ∧ Hid (wr.heap[gp]? = some (.cells (intsZ P) 3 (0, 0))))
  case atStart => exact ⟨0, 0, _, rfl, Nat.zero_le _, by omega, rfl, Nat.le_refl _, Lib.hid (Outer.start n st op), HB2, HG2, HR2⟩
  case round =>
    clear HB2 HG2 HR2
    rename World => w5
    obtain ⟨i, m, P, rfl, hi, hfu, rfl, hmi, HOU, HB5, HG5, HR5⟩ := hrel
    by_cases hlt : i < n
    · obtain ⟨g1, rfl⟩ : ∃ g1, gk = g1 + 1 := ⟨gk - 1, by omega⟩
      have hPl := HOU.out.len
      obtain ⟨pv, hpv⟩ : ∃ pv, P[i]? = some pv := ⟨_, List.getElem?_eq_getElem (by omega)⟩
      have q0 : w5.cell? ⟨gp, i, none⟩ = some (.int .i64 pv) := (Lib.cell_of_heap HR5.out i).trans (intsZ_get hpv)
      have q1 : w5.cell? ⟨w.heap.size, 2, none⟩ = some (.slice (some ⟨b1, o1, none⟩) n cb) := Lib.cell_of_heap HG5.out 2
      have q2 : w5.cell? ⟨b1, o1 + i, none⟩ = some (.bool (!op i)) := keepC HB5.out ((ZB.out i hlt).trans (by rw [HOP.out i]; simp [gt]))
      have i1 : (0 : Int) ≤ (i : Int) := by omega
      have i2 : (i : Int) < (n : Int) := by omega
      have HPV := Lib.hid hpv
      clear hpv
      by_cases hneg : 0 ≤ pv
      · have HN := Lib.hid (HOU.out.seen HS.out hlt ((pos_get HPV.out).2 hneg))
        go_wp2_with fail
        go_roundg g1
        case measure => omega
        case rel => exact ⟨i + 1, m, P, by go_num, by omega, by omega, rfl, by omega, HN, HB5, HG5, HR5⟩
      · obtain ⟨oi, hoi⟩ : ∃ oi, op i = oi := ⟨_, rfl⟩
        rw [hoi] at q2
        cases oi with
        | false =>
          have HN := Lib.hid (HOU.out.block hoi)
          clear hoi
          go_wp2_with fail
          go_roundg g1
          case measure => omega
          case rel => exact ⟨i + 1, m, P, by go_num, by omega, by omega, rfl, by omega, HN, HB5, HG5, HR5⟩
        | true =>
          have hnp : ¬ pos P i := fun h9 => hneg ((pos_get HPV.out).1 h9)
          have HBF := Lib.hid (HOU.out.begin HS.out hlt hnp hoi)
          have HFI := Lib.hid (HOU.out.first HS.out HO.out hlt hnp hoi)
          have hng := neg_set HPV.out (show pv < 0 by omega) (show (0 : Int) ≤ (m : Int) by omega)
          have hnl := neg_le P
          have HOI := Lib.hid hoi
          have q3 : w5.frozen? ⟨gp, i, none⟩ = false := Lib.frozen_of_heap HR5.out i
          have hr6 := heap_setCell_same w5 gp i _ _ (.int .i64 (m : Int)) HR5.out
          rw [intsZ_set] at hr6
          have hg6 := (Below.heap_setCell w5 ⟨gp, i, none⟩ (.int .i64 (m : Int)) w.heap.size (show w.heap.size ≠ gp by omega)).trans HG5.out
          have hb6 := HB5.out.setCell (p := ⟨gp, i, none⟩) (show w.heap.size ≤ gp by omega) (.int .i64 (m : Int))
          have HR6 := Lib.hid hr6; have HG6 := Lib.hid hg6; have HB6 := Lib.hid hb6
          have lgp6 : gp < (w5.setCell ⟨gp, i, none⟩ (.int .i64 (m : Int))).heap.size := (Array.getElem?_eq_some_iff.1 hr6).1
          clear hr6 hg6 hb6 hoi hnp
          go_wp2_with fail
          clear q0 q1 q2 q3
          have hz6 : (w5.setCell ⟨gp, i, none⟩ (.int .i64 (m : Int))).heap.size = w5.heap.size := by simp
          generalize w5.setCell ⟨gp, i, none⟩ (.int .i64 (m : Int)) = w6 at *
          have HQ7 : Hid (QAt (w6.alloc (.cells #[.int .i64 (i : Nat)] 3)) (gp + 1) (.slice (some ⟨w5.heap.size, 0, none⟩) 1 1) [i] w5.heap.size) := Lib.hid (by have h9 := QAt.new w6 i (gp + 1) (by omega); rw [hz6] at h9; exact h9)
          have HR7 : Hid ((w6.alloc (.cells #[.int .i64 (i : Int)] 3)).heap[gp]? = some (.cells (intsZ (P.set i (m : Int))) 3 (0, 0))) := Lib.hid ((Below.heap_alloc _ _ _ lgp6).trans HR6.out)
          have HG7 : Hid ((w6.alloc (.cells #[.int .i64 (i : Int)] 3)).heap[w.heap.size]? = some (.cells #[.int .i64 gH, .int .i64 gW, .slice (some ⟨b1, o1, none⟩) n cb, .slice Ar nr cr, .slice Ad nd cd] 27 (0, 0))) := Lib.hid ((Below.heap_alloc _ _ _ (by omega)).trans HG6.out)
          have HB7 : Hid (Below w.heap.size w (w6.alloc (.cells #[.int .i64 (i : Int)] 3))) := Lib.hid (HB6.out.alloc (by omega) _)
          generalize w6.alloc (.cells #[.int .i64 (i : Int)] 3) = w7 at *
          clear hz6
          go_loopg [7, 8, 10] (n + 2) (fun gf u7 _ _ wr => ∃ (P2 : List Int) (todo : List Nat) (gq off cq : Nat), u7 = .slice (some ⟨gq, off, none⟩) todo.length cq ∧ todo.length + neg P2 ≤ gf ∧ todo.length + neg P2 ≤ n + 1 ∧ Hid (QAt wr (gp + 1) (.slice (some ⟨gq, off, none⟩) todo.length cq) todo gq) ∧ Hid (Bfs n st op i (oldP st op i) P2 todo (fun _ => False)) ∧
            Hid (Below w.heap.size w wr) ∧ Hid (wr.heap[w.heap.size]? = some (.cells #[.int .i64 gH, .int .i64 gW, .slice (some ⟨b1, o1, none⟩) n cb, .slice Ar nr cr, .slice Ad nd cd] 27 (0, 0))) ∧ Hid (wr.heap[gp]? = some (.cells (intsZ P2) 3 (0, 0))))
          case atStart => exact ⟨_, [i], _, 0, 1, rfl, by simp only [List.length_singleton]; omega, by simp only [List.length_singleton]; omega, HQ7, HBF, HB7, HG7, HR7⟩
          case round =>
            clear HQ7 HBF HB7 HG7 HR7 HR6 HG6 HB6 hng
            rename World => w8
            obtain ⟨P2, todo, gq, off, cq, rfl, hf2, hbd, HQ8, HBF, HB8, HG8, HR8⟩ := hrel
            cases todo with
            | nil =>
              have HN := Lib.hid (Outer.next HS.out HOU.out.cnt HFI.out HOI.out hlt HBF.out)
              have e0 : (([] : List Nat).length : Int) = 0 := rfl
              go_wp2_with fail
              go_roundg g1
              case measure => omega
              case rel => exact ⟨i + 1, m + 1, P2, by go_num, by omega, by omega, by go_num, by omega, HN, HB8, HG8, HR8⟩
            | cons t rest =>
              obtain ⟨g2, rfl⟩ : ∃ g2, gk = g2 + 1 := ⟨gk - 1, by simp only [List.length_cons] at hf2; omega⟩
              obtain ⟨off', c', cur, hv, hcl, hcur, hcs, hcell⟩ := HQ8.out.ex
              injection hv with hv1 _ hv3
              injection hv1 with hv1
              injection hv1 with _ hv2
              subst hv2
              subst hv3
              simp only [List.length_cons] at hcl hf2 hbd
              have q0 : w8.cell? ⟨gq, off, none⟩ = some (.int .i64 (t : Nat)) := hcell 0 t rfl
              obtain ⟨htn, hto, hct⟩ := HBF.out.q4 t (List.mem_cons_self ..)
              have HCUR := Lib.hid hcur; have HCELL := Lib.hid hcell
              have p0 := Lib.cell_of_heap HG8.out 0
              have p1 := Lib.cell_of_heap HG8.out 1
              have p2 := Lib.cell_of_heap HG8.out 2
              have p3 := Lib.cell_of_heap HG8.out 3
              have p4 := Lib.cell_of_heap HG8.out 4
              have hqb := HQ8.out.hB
              -- what the queue is behind its head
              have HQT : Hid (∀ off2 c2, (off2 = off + 1 ∧ c2 + 1 = cq) ∨ (rest = [] ∧ c2 + 1 = cq ∧ off2 + c2 ≤ cur.size) → QAt w8 (gp + 1) (.slice (some ⟨gq, off2, none⟩) rest.length c2) rest gq) := Lib.hid (by
                rintro off2 c2 (⟨rfl, hc2⟩ | ⟨rfl, hc2, hc3⟩)
                · exact ⟨⟨off + 1, c2, cur, rfl, by omega, HCUR.out, by omega, fun j x hx => by rw [show off + 1 + j = off + (j + 1) by omega]; exact HCELL.out (j + 1) x hx⟩, hqb⟩
                · exact ⟨⟨off2, c2, cur, rfl, by simp, HCUR.out, hc3, fun j x hx => by simp at hx⟩, hqb⟩)
              have HPOP := Lib.hid HBF.out.pop
              have HCT := Lib.hid hct
              have j1 : (1 : Int) ≤ ((rest.length : Nat) : Int) + 1 := by omega
              have j2 : ((rest.length : Nat) : Int) + 1 ≤ (cq : Int) := by omega
              have j3 : (1 : Int) ≤ (cq : Int) := by omega
              clear hcur hcell hct
              by_cases hc1 : cq = 1
              · skip
                subst hc1
                have hrest : rest = [] := List.eq_nil_of_length_eq_zero (by omega)
                go_wp2_with fail
                refine (CN.out t w8 htn hto HB8.out).mono ?_
                rintro e w9 ⟨An, cnn, rfl, hon, hb9⟩
                have z9 := hb9.size
                have HB9 := Lib.hid (HB8.out.trans (hb9.mono (Below.size HB8.out)))
                have HG9 := Lib.hid ((hb9.block _ (Array.getElem?_eq_some_iff.1 HG8.out).1).trans HG8.out)
                have HR9 := Lib.hid ((hb9.block _ (Array.getElem?_eq_some_iff.1 HR8.out).1).trans HR8.out)
                have HQ9 := Lib.hid ((HQT.out (off) (0) (.inr ⟨hrest, rfl, by omega⟩)).below hb9)
                have HON := Lib.hid hon
                have HNE : Hid (∀ gn, Value.ownBlock (.slice An (nearTo st t 4).length cnn) = some gn → gq ≠ gn ∧ gp ≠ gn ∧ gn < w9.heap.size) := Lib.hid (fun gn h9 => by have h8 := hon.lt gn h9; have h7 := HQ8.out.lt; have := HQ8.out.hB; exact ⟨by omega, by omega, h8.2⟩)
                have HML := Lib.hid (fun y => mem_near (st := st) (i := t) (j := y))
                have hll := nearTo_len st t 4
                generalize nearTo st t 4 = l at *
                clear hb9 hon p0 p1 p2 p3 p4 q0 HQT
                go_wp2_with fail
                go_loopg [7, 10, 56] 4 (fun gf u7 _ u56 wr => ∃ (c : Nat) (P3 : List Int) (todo : List Nat) (gq3 off3 cq3 : Nat), u56 = .int .i64 c ∧ c ≤ l.length ∧ l.length ≤ c + gf ∧ u7 = .slice (some ⟨gq3, off3, none⟩) todo.length cq3 ∧ todo.length + neg P3 + 1 ≤ rest.length + 1 + neg P2 ∧ Hid (QAt wr (gp + 1) (.slice (some ⟨gq3, off3, none⟩) todo.length cq3) todo gq3) ∧ Hid (Bfs n st op i (oldP st op i) P3 todo (fun x => x = t)) ∧ Hid (∀ y ∈ l.take c, pos P3 y) ∧
                  Hid (Below w.heap.size w wr) ∧ Hid (wr.heap[w.heap.size]? = some (.cells #[.int .i64 gH, .int .i64 gW, .slice (some ⟨b1, o1, none⟩) n cb, .slice Ar nr cr, .slice Ad nd cd] 27 (0, 0))) ∧ Hid (wr.heap[gp]? = some (.cells (intsZ P3) 3 (0, 0))) ∧ Hid (wr.ownsRow w8.heap.size 3 1 (.slice An l.length cnn) l.length (ints l)) ∧ Hid (∀ gn, Value.ownBlock (.slice An l.length cnn) = some gn → gq3 ≠ gn ∧ gp ≠ gn ∧ gn < wr.heap.size))
                case atStart => exact ⟨0, P2, rest, gq, off, 0, rfl, Nat.zero_le _, by omega, by rw [hrest]; rfl, by omega, HQ9, HPOP, Lib.hid (fun y hy => by simp at hy), HB9, HG9, HR9, HON, HNE⟩
                case round =>
                  clear HQ9 HPOP HB9 HG9 HR9 HON HNE z9
                  rename World => w10
                  obtain ⟨c, P3, todo3, gq3, off3, cq3, rfl, hc, hf3, rfl, hb3, HQA, HBA, HPA, HB10, HG10, HR10, HON, HNE⟩ := hrel
                  by_cases hc2 : c < l.length
                  · obtain ⟨g3, rfl⟩ : ∃ g3, gk = g3 + 1 := ⟨gk - 1, by omega⟩
                    obtain ⟨gc, capc, hv, _⟩ := own_headZ HON.out (by omega)
                    injection hv with hv1 _ hv4
                    subst hv1
                    subst hv4
                    obtain ⟨j, hj⟩ : ∃ j, l[c] = j := ⟨_, rfl⟩
                    obtain ⟨d, hd, hs⟩ := (HML.out j).1 (by rw [← hj]; exact List.getElem_mem _)
                    have hjn := (HS.out.lt hd hs).2
                    have hPl := HBA.out.len
                    have HTK : Hid (l.take (c + 1) = l.take c ++ [j]) := Lib.hid (by rw [List.take_succ_eq_append_getElem hc2, hj])
                    obtain ⟨pj, hpj⟩ : ∃ pj, P3[j]? = some pj := ⟨_, List.getElem?_eq_getElem (by omega)⟩
                    have q3 : w10.cell? ⟨gc, c, none⟩ = some (.int .i64 (j : Nat)) := by
                      have h1 := HON.out.cellAt c (by omega)
                      rw [ints, List.getElem?_map, List.getElem?_eq_getElem hc2, hj] at h1
                      exact h1
                    have q4 : w10.cell? ⟨gp, j, none⟩ = some (.int .i64 pj) := (Lib.cell_of_heap HR10.out j).trans (intsZ_get hpj)
                    have q5 : w10.frozen? ⟨gp, j, none⟩ = false := Lib.frozen_of_heap HR10.out j
                    have k1 : (0 : Int) ≤ (c : Int) := by omega
                    have k2 : (c : Int) < (l.length : Int) := by omega
                    have k3 : (0 : Int) ≤ (j : Int) := by omega
                    have k4 : (j : Int) < (n : Int) := by omega
                    have HPJ := Lib.hid hpj
                    have HCTs := HCT
                    by_cases hneg3 : pj < 0
                    · have HBN := Lib.hid (HBA.out.mark HS.out HO.out HCT.out hd hs (show (0 : Int) ≤ (m : Int) by omega))
                      have hnn := neg_set HPJ.out hneg3 (show (0 : Int) ≤ (m : Int) by omega)
                      have HPN : Hid (∀ y ∈ l.take (c + 1), pos (P3.set j (m : Int)) y) := Lib.hid (fun y hy => by
                        rw [HTK.out] at hy
                        rcases List.mem_append.1 hy with h9 | h9
                        · exact (pos_set (by omega) (by omega)).2 (.inr (HPA.out y h9))
                        · exact (pos_set (by omega) (by omega)).2 (.inl (List.mem_singleton.1 h9)))
                      have hgq := HQA.out.hB
                      have hgql := HQA.out.lt
                      have hgpl := (Array.getElem?_eq_some_iff.1 HR10.out).1
                      have hr11 := heap_setCell_same w10 gp j _ _ (.int .i64 (m : Int)) HR10.out
                      rw [intsZ_set] at hr11
                      have hg11 := (Below.heap_setCell w10 ⟨gp, j, none⟩ (.int .i64 (m : Int)) w.heap.size (show w.heap.size ≠ gp by omega)).trans HG10.out
                      have hb11 := HB10.out.setCell (p := ⟨gp, j, none⟩) (show w.heap.size ≤ gp by omega) (.int .i64 (m : Int))
                      have hq11 := HQA.out.same (Below.heap_setCell w10 ⟨gp, j, none⟩ (.int .i64 (m : Int)) gq3 (show gq3 ≠ gp by omega))
                      have ho11 := ownsRow_setCell_other HON.out (a := ⟨gp, j, none⟩) (fun h9 => (HNE.out gp h9).2.1 rfl) (.int .i64 (m : Int))
                      have hz11 : (w10.setCell ⟨gp, j, none⟩ (.int .i64 (m : Int))).heap.size = w10.heap.size := by simp
                      have hdef : ∃ w11, w10.setCell ⟨gp, j, none⟩ (.int .i64 (m : Int)) = w11 := ⟨_, rfl⟩
                      obtain ⟨w11, h11⟩ := hdef
                      rw [h11] at hr11 hg11 hb11 hq11 ho11 hz11
                      have hq12 := hq11.below ((Below.refl _ w11).alloc (Nat.le_refl _) (.cells #[.int .i64 (j : Int)] 3))
                      obtain ⟨c13, g13, off13, w13, hrun, hq13, hat13, hgr13⟩ := append_q hq12 j w11.heap.size (cell_one_new w11 (.int .i64 (j : Nat)) 3) (by omega) (by simp only [World.size_alloc]; omega)
                      have hr13 := (hgr13.block gp (by simp only [World.size_alloc]; omega) (fun h9 => by injection h9; omega)).trans ((Below.heap_alloc w11 _ gp (by omega)).trans hr11)
                      have hg13 := (hgr13.block w.heap.size (by simp only [World.size_alloc]; omega) (fun h9 => by injection h9; omega)).trans ((Below.heap_alloc w11 _ w.heap.size (by omega)).trans hg11)
                      have hb13 : Below w.heap.size w w13 := (hb11.alloc (by omega) (.cells #[.int .i64 (j : Int)] 3)).grown hgr13 (by simp only [World.size_alloc]; omega) (fun k hk => by injection hk; omega)
                      have ho13 := (ho11.alloc (.cells #[.int .i64 (j : Int)] 3)).kept hgr13 (.inr (fun h9 => (HNE.out gq3 h9).1 rfl))
                      have hz13 := hgr13.size
                      simp only [World.size_alloc] at hz13 hat13
                      have HNE13 : Hid (∀ gn, Value.ownBlock (.slice (some ⟨gc, 0, none⟩) l.length cnn) = some gn → g13 ≠ gn ∧ gp ≠ gn ∧ gn < w13.heap.size) := Lib.hid (fun gn h9 => by
                        obtain ⟨a1, a2, a3⟩ := HNE.out gn h9
                        refine ⟨?_, a2, by omega⟩
                        rcases hat13 with h8 | h8
                        · rw [h8]; exact a1
                        · omega)
                      have HR13 := Lib.hid hr13; have HG13 := Lib.hid hg13; have HB13 := Lib.hid hb13; have HO13 := Lib.hid ho13; have HQ13 := Lib.hid hq13
                      rw [hz11] at *
                      rw [← h11] at hrun
                      have HTL : Hid ((todo3 ++ [j]).length = todo3.length + 1) := Lib.hid (by rw [List.length_append]; rfl)
                      clear hr13 hg13 hb13 ho13 hq13 hgr13 hat13 hq12 hr11 hg11 hb11 hq11 ho11 h11 hz13 hpj hs hj hd
                      have HRUN := Lib.hid hrun; clear hrun
                      go_wp2_with (at_builtin; refine wpList_append_run rfl (.tmp 69) (.tmp 71) 37 rfl (.slice (some ⟨gq3, off3, none⟩) todo3.length cq3) (.slice (some ⟨w10.heap.size, 0, none⟩) 1 1) rfl rfl _ _ HRUN.out ?_)
                      go_roundg g3
                      case measure => omega
                      case rel => exact ⟨c + 1, P3.set j (m : Int), todo3 ++ [j], g13, off13, c13, by go_num, by omega, by omega, by rw [HTL.out], by rw [HTL.out]; omega, Lib.hid (by rw [HTL.out]; exact HQ13.out), HBN, HPN, HB13, HG13, HR13, HO13, HNE13⟩
                    · have HPN : Hid (∀ y ∈ l.take (c + 1), pos P3 y) := Lib.hid (fun y hy => by
                        rw [HTK.out] at hy
                        rcases List.mem_append.1 hy with h9 | h9
                        · exact HPA.out y h9
                        · rw [List.mem_singleton.1 h9]; exact (pos_get HPJ.out).2 (by omega))
                      have hneg4 : 0 ≤ pj := by omega
                      clear hpj hs hj hd
                      go_wp2_with fail
                      go_roundg g3
                      case measure => omega
                      case rel => exact ⟨c + 1, P3, todo3, gq3, off3, cq3, by go_num, by omega, by omega, rfl, hb3, HQA, HBA, HPN, HB10, HG10, HR10, HON, HNE⟩
                  · obtain rfl : l.length = c := by omega
                    have hpa := HPA.out
                    rw [List.take_length] at hpa
                    have HBD := Lib.hid (HBA.out.done (fun d hd y hy => hpa y ((HML.out y).2 ⟨d, hd, hy⟩)))
                    clear hpa
                    go_wp2_with fail
                    go_roundg g2
                    case measure => omega
                    case rel => exact ⟨P3, todo3, gq3, off3, cq3, rfl, by omega, by omega, HQA, HBD, HB10, HG10, HR10⟩
              · skip
                go_wp2_with fail
                refine (CN.out t w8 htn hto HB8.out).mono ?_
                rintro e w9 ⟨An, cnn, rfl, hon, hb9⟩
                have z9 := hb9.size
                have HB9 := Lib.hid (HB8.out.trans (hb9.mono (Below.size HB8.out)))
                have HG9 := Lib.hid ((hb9.block _ (Array.getElem?_eq_some_iff.1 HG8.out).1).trans HG8.out)
                have HR9 := Lib.hid ((hb9.block _ (Array.getElem?_eq_some_iff.1 HR8.out).1).trans HR8.out)
                have HQ9 := Lib.hid ((HQT.out (off + 1) (cq - 1) (.inl ⟨rfl, by omega⟩)).below hb9)
                have HON := Lib.hid hon
                have HNE : Hid (∀ gn, Value.ownBlock (.slice An (nearTo st t 4).length cnn) = some gn → gq ≠ gn ∧ gp ≠ gn ∧ gn < w9.heap.size) := Lib.hid (fun gn h9 => by have h8 := hon.lt gn h9; have h7 := HQ8.out.lt; have := HQ8.out.hB; exact ⟨by omega, by omega, h8.2⟩)
                have HML := Lib.hid (fun y => mem_near (st := st) (i := t) (j := y))
                have hll := nearTo_len st t 4
                generalize nearTo st t 4 = l at *
                clear hb9 hon p0 p1 p2 p3 p4 q0 HQT
                go_wp2_with fail
                go_loopg [7, 10, 56] 4 (fun gf u7 _ u56 wr => ∃ (c : Nat) (P3 : List Int) (todo : List Nat) (gq3 off3 cq3 : Nat), u56 = .int .i64 c ∧ c ≤ l.length ∧ l.length ≤ c + gf ∧ u7 = .slice (some ⟨gq3, off3, none⟩) todo.length cq3 ∧ todo.length + neg P3 + 1 ≤ rest.length + 1 + neg P2 ∧ Hid (QAt wr (gp + 1) (.slice (some ⟨gq3, off3, none⟩) todo.length cq3) todo gq3) ∧ Hid (Bfs n st op i (oldP st op i) P3 todo (fun x => x = t)) ∧ Hid (∀ y ∈ l.take c, pos P3 y) ∧
                  Hid (Below w.heap.size w wr) ∧ Hid (wr.heap[w.heap.size]? = some (.cells #[.int .i64 gH, .int .i64 gW, .slice (some ⟨b1, o1, none⟩) n cb, .slice Ar nr cr, .slice Ad nd cd] 27 (0, 0))) ∧ Hid (wr.heap[gp]? = some (.cells (intsZ P3) 3 (0, 0))) ∧ Hid (wr.ownsRow w8.heap.size 3 1 (.slice An l.length cnn) l.length (ints l)) ∧ Hid (∀ gn, Value.ownBlock (.slice An l.length cnn) = some gn → gq3 ≠ gn ∧ gp ≠ gn ∧ gn < wr.heap.size))
                case atStart => exact ⟨0, P2, rest, gq, _, _, rfl, Nat.zero_le _, by omega, rfl, by omega, HQ9, HPOP, Lib.hid (fun y hy => by simp at hy), HB9, HG9, HR9, HON, HNE⟩
                case round =>
                  clear HQ9 HPOP HB9 HG9 HR9 HON HNE z9
                  rename World => w10
                  obtain ⟨c, P3, todo3, gq3, off3, cq3, rfl, hc, hf3, rfl, hb3, HQA, HBA, HPA, HB10, HG10, HR10, HON, HNE⟩ := hrel
                  by_cases hc2 : c < l.length
                  · obtain ⟨g3, rfl⟩ : ∃ g3, gk = g3 + 1 := ⟨gk - 1, by omega⟩
                    obtain ⟨gc, capc, hv, _⟩ := own_headZ HON.out (by omega)
                    injection hv with hv1 _ hv4
                    subst hv1
                    subst hv4
                    obtain ⟨j, hj⟩ : ∃ j, l[c] = j := ⟨_, rfl⟩
                    obtain ⟨d, hd, hs⟩ := (HML.out j).1 (by rw [← hj]; exact List.getElem_mem _)
                    have hjn := (HS.out.lt hd hs).2
                    have hPl := HBA.out.len
                    have HTK : Hid (l.take (c + 1) = l.take c ++ [j]) := Lib.hid (by rw [List.take_succ_eq_append_getElem hc2, hj])
                    obtain ⟨pj, hpj⟩ : ∃ pj, P3[j]? = some pj := ⟨_, List.getElem?_eq_getElem (by omega)⟩
                    have q3 : w10.cell? ⟨gc, c, none⟩ = some (.int .i64 (j : Nat)) := by
                      have h1 := HON.out.cellAt c (by omega)
                      rw [ints, List.getElem?_map, List.getElem?_eq_getElem hc2, hj] at h1
                      exact h1
                    have q4 : w10.cell? ⟨gp, j, none⟩ = some (.int .i64 pj) := (Lib.cell_of_heap HR10.out j).trans (intsZ_get hpj)
                    have q5 : w10.frozen? ⟨gp, j, none⟩ = false := Lib.frozen_of_heap HR10.out j
                    have k1 : (0 : Int) ≤ (c : Int) := by omega
                    have k2 : (c : Int) < (l.length : Int) := by omega
                    have k3 : (0 : Int) ≤ (j : Int) := by omega
                    have k4 : (j : Int) < (n : Int) := by omega
                    have HPJ := Lib.hid hpj
                    have HCTs := HCT
                    by_cases hneg3 : pj < 0
                    · have HBN := Lib.hid (HBA.out.mark HS.out HO.out HCT.out hd hs (show (0 : Int) ≤ (m : Int) by omega))
                      have hnn := neg_set HPJ.out hneg3 (show (0 : Int) ≤ (m : Int) by omega)
                      have HPN : Hid (∀ y ∈ l.take (c + 1), pos (P3.set j (m : Int)) y) := Lib.hid (fun y hy => by
                        rw [HTK.out] at hy
                        rcases List.mem_append.1 hy with h9 | h9
                        · exact (pos_set (by omega) (by omega)).2 (.inr (HPA.out y h9))
                        · exact (pos_set (by omega) (by omega)).2 (.inl (List.mem_singleton.1 h9)))
                      have hgq := HQA.out.hB
                      have hgql := HQA.out.lt
                      have hgpl := (Array.getElem?_eq_some_iff.1 HR10.out).1
                      have hr11 := heap_setCell_same w10 gp j _ _ (.int .i64 (m : Int)) HR10.out
                      rw [intsZ_set] at hr11
                      have hg11 := (Below.heap_setCell w10 ⟨gp, j, none⟩ (.int .i64 (m : Int)) w.heap.size (show w.heap.size ≠ gp by omega)).trans HG10.out
                      have hb11 := HB10.out.setCell (p := ⟨gp, j, none⟩) (show w.heap.size ≤ gp by omega) (.int .i64 (m : Int))
                      have hq11 := HQA.out.same (Below.heap_setCell w10 ⟨gp, j, none⟩ (.int .i64 (m : Int)) gq3 (show gq3 ≠ gp by omega))
                      have ho11 := ownsRow_setCell_other HON.out (a := ⟨gp, j, none⟩) (fun h9 => (HNE.out gp h9).2.1 rfl) (.int .i64 (m : Int))
                      have hz11 : (w10.setCell ⟨gp, j, none⟩ (.int .i64 (m : Int))).heap.size = w10.heap.size := by simp
                      have hdef : ∃ w11, w10.setCell ⟨gp, j, none⟩ (.int .i64 (m : Int)) = w11 := ⟨_, rfl⟩
                      obtain ⟨w11, h11⟩ := hdef
                      rw [h11] at hr11 hg11 hb11 hq11 ho11 hz11
                      have hq12 := hq11.below ((Below.refl _ w11).alloc (Nat.le_refl _) (.cells #[.int .i64 (j : Int)] 3))
                      obtain ⟨c13, g13, off13, w13, hrun, hq13, hat13, hgr13⟩ := append_q hq12 j w11.heap.size (cell_one_new w11 (.int .i64 (j : Nat)) 3) (by omega) (by simp only [World.size_alloc]; omega)
                      have hr13 := (hgr13.block gp (by simp only [World.size_alloc]; omega) (fun h9 => by injection h9; omega)).trans ((Below.heap_alloc w11 _ gp (by omega)).trans hr11)
                      have hg13 := (hgr13.block w.heap.size (by simp only [World.size_alloc]; omega) (fun h9 => by injection h9; omega)).trans ((Below.heap_alloc w11 _ w.heap.size (by omega)).trans hg11)
                      have hb13 : Below w.heap.size w w13 := (hb11.alloc (by omega) (.cells #[.int .i64 (j : Int)] 3)).grown hgr13 (by simp only [World.size_alloc]; omega) (fun k hk => by injection hk; omega)
                      have ho13 := (ho11.alloc (.cells #[.int .i64 (j : Int)] 3)).kept hgr13 (.inr (fun h9 => (HNE.out gq3 h9).1 rfl))
                      have hz13 := hgr13.size
                      simp only [World.size_alloc] at hz13 hat13
                      have HNE13 : Hid (∀ gn, Value.ownBlock (.slice (some ⟨gc, 0, none⟩) l.length cnn) = some gn → g13 ≠ gn ∧ gp ≠ gn ∧ gn < w13.heap.size) := Lib.hid (fun gn h9 => by
                        obtain ⟨a1, a2, a3⟩ := HNE.out gn h9
                        refine ⟨?_, a2, by omega⟩
                        rcases hat13 with h8 | h8
                        · rw [h8]; exact a1
                        · omega)
                      have HR13 := Lib.hid hr13; have HG13 := Lib.hid hg13; have HB13 := Lib.hid hb13; have HO13 := Lib.hid ho13; have HQ13 := Lib.hid hq13
                      rw [hz11] at *
                      rw [← h11] at hrun
                      have HTL : Hid ((todo3 ++ [j]).length = todo3.length + 1) := Lib.hid (by rw [List.length_append]; rfl)
                      clear hr13 hg13 hb13 ho13 hq13 hgr13 hat13 hq12 hr11 hg11 hb11 hq11 ho11 h11 hz13 hpj hs hj hd
                      have HRUN := Lib.hid hrun; clear hrun
                      go_wp2_with (at_builtin; refine wpList_append_run rfl (.tmp 69) (.tmp 71) 37 rfl (.slice (some ⟨gq3, off3, none⟩) todo3.length cq3) (.slice (some ⟨w10.heap.size, 0, none⟩) 1 1) rfl rfl _ _ HRUN.out ?_)
                      go_roundg g3
                      case measure => omega
                      case rel => exact ⟨c + 1, P3.set j (m : Int), todo3 ++ [j], g13, off13, c13, by go_num, by omega, by omega, by rw [HTL.out], by rw [HTL.out]; omega, Lib.hid (by rw [HTL.out]; exact HQ13.out), HBN, HPN, HB13, HG13, HR13, HO13, HNE13⟩
                    · have HPN : Hid (∀ y ∈ l.take (c + 1), pos P3 y) := Lib.hid (fun y hy => by
                        rw [HTK.out] at hy
                        rcases List.mem_append.1 hy with h9 | h9
                        · exact HPA.out y h9
                        · rw [List.mem_singleton.1 h9]; exact (pos_get HPJ.out).2 (by omega))
                      have hneg4 : 0 ≤ pj := by omega
                      clear hpj hs hj hd
                      go_wp2_with fail
                      go_roundg g3
                      case measure => omega
                      case rel => exact ⟨c + 1, P3, todo3, gq3, off3, cq3, by go_num, by omega, by omega, rfl, hb3, HQA, HBA, HPN, HB10, HG10, HR10, HON, HNE⟩
                  · obtain rfl : l.length = c := by omega
                    have hpa := HPA.out
                    rw [List.take_length] at hpa
                    have HBD := Lib.hid (HBA.out.done (fun d hd y hy => hpa y ((HML.out y).2 ⟨d, hd, hy⟩)))
                    clear hpa
                    go_wp2_with fail
                    go_roundg g2
                    case measure => omega
                    case rel => exact ⟨P3, todo3, gq3, off3, cq3, rfl, by omega, by omega, HQA, HBD, HB10, HG10, HR10⟩
    · obtain rfl : n = i := by omega
      go_wp2_with fail
      go_ret2
      exact ⟨.slice (some ⟨gp, 0, none⟩) n n, by rw [HOU.out.cnt]; rfl, HB5.out⟩
end Go.Proofs.YtonibpilbkafnaaDoor
