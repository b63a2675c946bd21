/- A region that draws its order, by an invariant. -/
import Derived.Orders
import Derived.Tactics
import Derived.WalkKit
namespace Go.Proofs.Ytlkabghpcjlohaa
set_option linter.unusedVariables false
set_option linter.unusedSimpArgs false
open Go.RowKit

theorem wpAny_inv {P : Program} {ops : Array Oper} {Q : Exit → Act → World → Prop} {md : Region.Mode} (Inv : Array Bool → Act → World → Prop)
    (hstep : ∀ l a w i, Inv l a w → i ∈ Region.ready md ops l → wpOp P ops Q i (fun a' w' => Inv (l.setIfInBounds i true) a' w') a w)
    (hdone : ∀ l a w, Inv l a w → Region.ready md ops l = [] → Q .normal a w) (hsz : ∀ l a w, Inv l a w → l.size = ops.size) :
    ∀ (fuel : Nat) (l : Array Bool) (a : Act) (w : World), Inv l a w → l.toList.countP (fun b => !b) ≤ fuel → wpAny P md ops Q fuel l a w
  | 0, l, a, w, h, hc => by
    have hr : Region.ready md ops l = [] := by
      cases hr : Region.ready md ops l with
      | nil => rfl
      | cons i r =>
        exfalso
        obtain ⟨h0, o, ho, _⟩ := mem_ready.1 (show i ∈ Region.ready md ops l by rw [hr]; exact List.mem_cons_self ..)
        have hi : i < l.size := by rw [hsz l a w h]; exact (Array.getElem?_eq_some_iff.1 ho).1
        have hf : l[i] = false := by simpa [Array.getD, hi] using h0
        have := List.countP_pos_iff.2 (show ∃ x ∈ l.toList, (fun b => !b) x = true from ⟨l[i], by simp, by simp [hf]⟩)
        omega
    exact ⟨hr, hdone l a w h hr⟩
  | n + 1, l, a, w, h, hc => by
    refine ⟨fun hr => hdone l a w h hr, fun i hi => wpOp_mono (fun a' w' h' => wpAny_inv Inv hstep hdone hsz n _ a' w' h' ?_) (hstep l a w i h hi)⟩
    obtain ⟨h0, o, ho, _⟩ := mem_ready.1 hi
    have hl : i < l.size := by rw [hsz l a w h]; exact (Array.getElem?_eq_some_iff.1 ho).1
    have hf : l[i] = false := by simpa [Array.getD, hl] using h0
    have hpos := List.countP_pos_iff.2 (show ∃ x ∈ l.toList, (fun b => !b) x = true from ⟨l[i], by simp, by simp [hf]⟩)
    have e : (l.setIfInBounds i true).toList = l.toList.set i true := by simp
    rw [e, List.countP_set (by simpa using hl)]
    rw [Array.getElem_toList, hf]
    show _ - 1 + 0 ≤ n
    omega
theorem wpOp_ok {P : Program} {ops : Array Oper} {Q : Exit → Act → World → Prop} {i : Nat} {K : Act → World → Prop} {a : Act} {w : World} {o : Oper} (v : Value) (w' : World) (hi : ops[i]? = some o) (hw : Region.wanted o (yielded ops a.tmps) = true)
    (hr : (execOp a.eval o).run P w = .ok (.value v) w') (h : K (a.put o.dst v) w') : wpOp P ops Q i K a w := by
  unfold wpOp
  simp only [hi, hw, if_true]
  exact .inl (by unfold Oper.wp; rw [hr]; exact h)
theorem wpOp_skip {P : Program} {ops : Array Oper} {Q : Exit → Act → World → Prop} {i : Nat} {K : Act → World → Prop} {a : Act} {w : World} {o : Oper} (w' : World) (hi : ops[i]? = some o) (hw : Region.wanted o (yielded ops a.tmps) = true)
    (hr : (execOp a.eval o).run P w = .ok .skip w') (h : K (a.put o.dst undef) w') : wpOp P ops Q i K a w := by
  unfold wpOp
  simp only [hi, hw, if_true]
  exact .inl (by unfold Oper.wp; rw [hr]; exact h)

theorem listed_of_done {md : Region.Mode} {ops : Array Oper} {l : Array Bool} (hr : Region.ready md ops l = []) (k : Nat) (o : Oper) (ho : ops[k]? = some o) (hd : ∀ e ∈ o.after, Region.binds md e = true → l.getD e.on false = true) : l.getD k true = true := by
  cases h : l.getD k true with
  | true => rfl
  | false =>
    have h9 : k ∈ Region.ready md ops l := mem_ready.2 ⟨h, o, ho, hd⟩
    rw [hr] at h9
    cases h9
def upd {α : Type} (f : Nat → α) (i : Nat) (v : α) : Nat → α := fun k => if k = i then v else f k
theorem wpOp_call {P : Program} {ops : Array Oper} {Q : Exit → Act → World → Prop} {i : Nat} {K : Act → World → Prop} {a : Act} {w : World} {o : Oper} {f : FuncId} {args : Array Value} {R : Ending → World → Prop} (hi : ops[i]? = some o) (hw : Region.wanted o (yielded ops a.tmps) = true)
    (hr : (execOp a.eval o).run P w = .ok (.enter f args) w) (hc : Calls P f args w R) (h : ∀ e w', R e w' → ∃ v, e = .returned v ∧ K (a.put o.dst v) w') : wpOp P ops Q i K a w := by
  unfold wpOp
  simp only [hi, hw, if_true]
  refine .inl ?_
  unfold Oper.wp
  rw [hr]
  refine hc.mono fun e w' hR => ?_
  obtain ⟨v, rfl, hk⟩ := h e w' hR
  exact hk
/-- those that must have come up ahead -/
theorem anc_upd {anc : Nat → List Nat} {L : Nat → Bool} {i : Nat} (G : ∀ k, L k = true → ∀ a ∈ anc k, L a = true) (hi : ∀ a ∈ anc i, L a = true) : ∀ k, upd L i true k = true → ∀ a ∈ anc k, upd L i true a = true := by
  intro k hk a ha
  unfold upd at hk ⊢
  split
  · rfl
  · by_cases h : k = i
    · subst h; exact hi a ha
    · rw [if_neg h] at hk; exact G k hk a ha
end Go.Proofs.Ytlkabghpcjlohaa
