/- A region that draws its order, by an invariant; append onto an empty slice without room. -/
import Derived.Test.YtlkabghpcjlohaaDoorT12
import Derived.Orders
import Derived.Great.BuildSlice
namespace Go.Proofs.YtlkabghpcjlohaaDoor
set_option linter.unusedVariables false
set_option linter.unusedSimpArgs false
open Go.RowKit Go.Lib

theorem wpAny_inv {P : Program} {ops : Array Oper} {Q : Exit → Act → World → Prop} {md : Region.Mode} (Inv : Array Bool → Act → World → Prop)
    (hstep : ∀ l a w i, Inv l a w → i ∈ Region.ready md ops l → wpOp P ops Q i (fun a' w' => Inv (l.setIfInBounds i true) a' w') a w)
    (hdone : ∀ l a w, Inv l a w → Region.ready md ops l = [] → Q .normal a w) (hsz : ∀ l a w, Inv l a w → l.size = ops.size) :
    ∀ (fuel : Nat) (l : Array Bool) (a : Act) (w : World), Inv l a w → l.toList.countP (fun b => !b) ≤ fuel → wpAny P md ops Q fuel l a w
  | 0, l, a, w, h, hc => by
    have hr : Region.ready md ops l = [] := by
      cases hr : Region.ready md ops l with
      | nil => rfl
      | cons i r =>
        exfalso
        obtain ⟨h0, o, ho, _⟩ := mem_ready.1 (show i ∈ Region.ready md ops l by rw [hr]; exact List.mem_cons_self ..)
        have hi : i < l.size := by rw [hsz l a w h]; exact (Array.getElem?_eq_some_iff.1 ho).1
        have hf : l[i] = false := by simpa [Array.getD, hi] using h0
        have := List.countP_pos_iff.2 (show ∃ x ∈ l.toList, (fun b => !b) x = true from ⟨l[i], by simp, by simp [hf]⟩)
        omega
    exact ⟨hr, hdone l a w h hr⟩
  | n + 1, l, a, w, h, hc => by
    refine ⟨fun hr => hdone l a w h hr, fun i hi => wpOp_mono (fun a' w' h' => wpAny_inv Inv hstep hdone hsz n _ a' w' h' ?_) (hstep l a w i h hi)⟩
    obtain ⟨h0, o, ho, _⟩ := mem_ready.1 hi
    have hl : i < l.size := by rw [hsz l a w h]; exact (Array.getElem?_eq_some_iff.1 ho).1
    have hf : l[i] = false := by simpa [Array.getD, hl] using h0
    have hpos := List.countP_pos_iff.2 (show ∃ x ∈ l.toList, (fun b => !b) x = true from ⟨l[i], by simp, by simp [hf]⟩)
    have e : (l.setIfInBounds i true).toList = l.toList.set i true := by simp
    rw [e, List.countP_set (by simpa using hl)]
    rw [Array.getElem_toList, hf]
    show _ - 1 + 0 ≤ n
    omega
theorem wpOp_ok {P : Program} {ops : Array Oper} {Q : Exit → Act → World → Prop} {i : Nat} {K : Act → World → Prop} {a : Act} {w : World} {o : Oper} (v : Value) (w' : World) (hi : ops[i]? = some o) (hw : Region.wanted o (yielded ops a.tmps) = true)
    (hr : (execOp a.eval o).run P w = .ok (.value v) w') (h : K (a.put o.dst v) w') : wpOp P ops Q i K a w := by
  unfold wpOp
  simp only [hi, hw, if_true]
  exact .inl (by unfold Oper.wp; rw [hr]; exact h)
theorem wpOp_skip {P : Program} {ops : Array Oper} {Q : Exit → Act → World → Prop} {i : Nat} {K : Act → World → Prop} {a : Act} {w : World} {o : Oper} (w' : World) (hi : ops[i]? = some o) (hw : Region.wanted o (yielded ops a.tmps) = true)
    (hr : (execOp a.eval o).run P w = .ok .skip w') (h : K (a.put o.dst undef) w') : wpOp P ops Q i K a w := by
  unfold wpOp
  simp only [hi, hw, if_true]
  exact .inl (by unfold Oper.wp; rw [hr]; exact h)

theorem app_fresh (w : World) (t ty : TypeId) (ht : Tryd.prog.underlying t = some (.slice 4)) (g : Nat) (A : Option Addr) (c : Nat) (l : List Bool) (hs : Sl w w.heap.size (.slice A l.length c) (bools l)) (hl : l.length ≤ 1048576) :
    ∃ A' c' w', (Builtin.append_ #[t, t] ty #[.slice (some ⟨g, 0, none⟩) 0 0, .slice A l.length c]).run Tryd.prog w = .ok (.slice A' l.length c') w' ∧ Below w.heap.size w w' ∧ Sl w' w'.heap.size (.slice A' l.length c') (bools l) := by
  obtain ⟨i0, hi, hz0, hz1, hz2⟩ := info_parts infoBool
  cases l with
  | nil =>
    refine ⟨some ⟨g, 0, none⟩, 0, w, ?_, Below.refl _ _, ⟨some ⟨g, 0, none⟩, 0, rfl, Nat.le_refl _, fun h => by simp at h⟩⟩
    simp [Builtin.append_, run_underlying ht, sizeOf, typeInfo, hi, Builtin.lenOf, Builtin.firstCells, loadCells, loadCellsFrom]
    cases A <;> simp [storeCells]
  | cons x l =>
    obtain ⟨A', c2, e, hc, hA⟩ := hs
    injection e with e1 e2 e3
    obtain ⟨ad, rfl, hB, hcell⟩ := hA (by simp)
    subst e1
    have hr := run_append_grow (P := Tryd.prog) w t ty 4 i0 (.bool false) ht hi hz0 ⟨g, 0, none⟩ 0 0 [] (by simp) (fun j v hj => by simp at hj) ad (x :: l).length c (bools (x :: l)) (by rw [hz1]; simp) hcell (by simp) (by omega) (growslice_fits (by simp) (by rw [hz2]; omega))
    rw [Nat.zero_add] at hr
    refine ⟨_, _, _, hr, (Below.refl w.heap.size w).drew.alloc (Nat.le_refl _) _, ⟨_, _, by rw [List.length_map], ?_, fun _ => ⟨_, rfl, by simp, fun j u hu => ?_⟩⟩⟩
    · rw [List.length_map]; exact grownCap_ge w (x :: l).length 0 4
    · have hj := (List.getElem?_eq_some_iff.1 hu).1
      have h9 := Lib.cell_of_heap (World.alloc_heap_new w.drew (.cells (#[] ++ (bools (x :: l)).toArray ++ Builtin.zeroCells (Value.bool false).cells (grownCap w (x :: l).length 0 4 - (x :: l).length)) 4)) j
      have e9 : (#[] ++ (bools (x :: l)).toArray ++ Builtin.zeroCells (Value.bool false).cells (grownCap w (x :: l).length 0 4 - (x :: l).length))[j]? = some u := by
        rw [Array.empty_append, Array.getElem?_append_left (by simpa using hj)]
        simpa using hu
      rw [e9] at h9
      unfold Addr.add
      split
      · rename_i h0; subst h0; exact h9
      · simpa using h9
end Go.Proofs.YtlkabghpcjlohaaDoor
