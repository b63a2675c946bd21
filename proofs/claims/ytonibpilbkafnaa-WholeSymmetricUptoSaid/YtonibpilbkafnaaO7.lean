/- Plain Lean: a turned grid that is the grid itself is a symmetry. -/
import Derived.Test.YtonibpilbkafnaaO0
import Derived.Test.YtonibpilbkafnaaO6
namespace Go.Proofs.Ytonibpilbkafnaa
set_option linter.unusedVariables false
set_option linter.unusedSimpArgs false

/-- the turned grid -/
def turnG (g : Gd) (k : Nat) : Gd :=
  let t := turnN g.H.toNat g.W.toNat k g.B g.R g.D (g.H.toNat * g.W.toNat)
  ⟨if k % 2 = 1 then g.W else g.H, if k % 2 = 1 then g.H else g.W, t.B, t.R, t.D⟩
theorem ok_bar {g : Gd} (h : OkG g) {i : Nat} (hi : i < g.H.toNat * g.W.toNat) : badAt g.H.toNat g.W.toNat g.B g.R g.D i = false := by
  cases hb : badAt g.H.toNat g.W.toNat g.B g.R g.D i with
  | false => rfl
  | true =>
    have := h.nb
    unfold barred at this
    have h2 := List.any_eq_true.2 ⟨i, List.mem_range.2 hi, hb⟩
    rw [this] at h2
    cases h2
theorem ok_right {g : Gd} (h : OkG g) {i : Nat} (hi : i < g.H.toNat * g.W.toNat) (hr : gt g.R i = true) : i % g.W.toNat ≠ g.W.toNat - 1 := by
  intro e
  have := ok_bar h hi
  unfold badAt at this
  rw [show g.R.getD i false = true from hr, decide_eq_true e] at this
  simp at this
theorem ok_down {g : Gd} (h : OkG g) {i : Nat} (hi : i < g.H.toNat * g.W.toNat) (hr : gt g.D i = true) : i / g.W.toNat ≠ g.H.toNat - 1 := by
  intro e
  have := ok_bar h hi
  unfold badAt at this
  rw [show g.D.getD i false = true from hr, decide_eq_true e] at this
  simp at this
theorem bes_right {h w i : Nat} (hi : i < h * w) (hm : i % w ≠ w - 1) : besIn h w i 0 ∧ besW w i 0 = i + 1 := by
  have hw := pos_w hi
  obtain ⟨h1, h2, h3, h4⟩ := in_of hi
  have hlt := Nat.mod_lt i hw
  have hin : besIn h w i 0 := by
    unfold besIn inG
    rw [show drW 0 = 0 from rfl, show dcW 0 = 1 from rfl]
    unfold colW' at h3 h4 ⊢
    refine ⟨by omega, by omega, by omega, by omega⟩
  exact ⟨hin, ((bes_far (by omega) hi hin).1 rfl).1⟩
theorem bes_down {h w i : Nat} (hi : i < h * w) (hm : i / w ≠ h - 1) : besIn h w i 1 ∧ besW w i 1 = i + w := by
  have hw := pos_w hi
  obtain ⟨h1, h2, h3, h4⟩ := in_of hi
  have hin : besIn h w i 1 := by
    unfold besIn inG
    rw [show drW 1 = 1 from rfl, show dcW 1 = 0 from rfl]
    unfold rowW at h1 h2 ⊢
    refine ⟨by omega, by omega, by omega, by omega⟩
  exact ⟨hin, (bes_far (by omega) hi hin).2.1 rfl⟩
theorem sym_ok {g : Gd} (h : OkG g) {k : Nat} (hk : k < 8) (e : turnG g k = g) : SymG g.H.toNat g.W.toNat k (gt g.B) (gt g.R) (gt g.D) := by
  have e1 : (if k % 2 = 1 then g.W else g.H) = g.H := congrArg Gd.H e
  have e3 : (turnN g.H.toNat g.W.toNat k g.B g.R g.D (g.H.toNat * g.W.toNat)).B = g.B := congrArg Gd.B e
  have e4 : (turnN g.H.toNat g.W.toNat k g.B g.R g.D (g.H.toNat * g.W.toNat)).R = g.R := congrArg Gd.R e
  have e5 : (turnN g.H.toNat g.W.toNat k g.B g.R g.D (g.H.toNat * g.W.toNat)).D = g.D := congrArg Gd.D e
  refine sym_of_same hk (fun ho => ?_) (fun i hi hr => bes_right hi (ok_right h hi hr)) (fun i hi hd => bes_down hi (ok_down h hi hd)) ⟨e3, e4, e5⟩
  rw [if_pos ho] at e1
  rw [e1]
/-- the turns that change nothing -/
def symsG (g : Gd) : List Nat := if checkG g = 0 then (List.range 8).filter fun k => decide (turnG g k = g) else []
theorem syms_mem {g : Gd} {k : Nat} (h : k ∈ symsG g) : OkG g ∧ k < 8 ∧ turnG g k = g := by
  unfold symsG at h
  split at h
  · rename_i hc
    obtain ⟨h1, h2⟩ := List.mem_filter.1 h
    exact ⟨ok_of_check hc, List.mem_range.1 h1, of_decide_eq_true h2⟩
  · cases h
def aw22 : Gd := ⟨2, 2, [false, false, false, false], [false, false, false, false], [false, false, false, false]⟩
theorem aw22_ok : checkG aw22 = 0 := by decide +kernel
theorem aw22_syms : (symsG aw22).length = 8 := by decide +kernel
/-- the cells of a grid's slots -/
def slotsG (g : Gd) : List (List Nat) := slotsTo (stW g.H.toNat g.W.toNat (gt g.B) (gt g.R) (gt g.D)) (g.H.toNat * g.W.toNat) (g.H.toNat * g.W.toNat)
end Go.Proofs.Ytonibpilbkafnaa
