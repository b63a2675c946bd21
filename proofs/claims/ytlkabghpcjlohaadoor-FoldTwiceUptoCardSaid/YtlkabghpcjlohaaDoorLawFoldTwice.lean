/- FoldTwice: for every text that holds at most 1048576 bytes the call returns true. -/
import Derived.Test.YtlkabghpcjlohaaDoorF4
namespace Go.Proofs.YtlkabghpcjlohaaDoor
set_option linter.unusedVariables false
set_option linter.unusedSimpArgs false
open Go.RowKit Go.Lib

theorem t_cls_range {n : Int} (h : cls n = 1) : 65 ≤ n ∧ n < 1200 := by
  unfold cls at h
  repeat' split at h
  all_goals omega
/-- the runes that a rune becomes -/
def foldRs (p : Bool) (r : Nat) : List Nat := if cls (r : Int) = 1 then (if p = true ∧ plainL (upr (r : Int)) ≠ [] then (plainL (upr (r : Int))).map (·.toNat) else [(upr (r : Int)).toNat]) else []
theorem tab_enc : ∀ x : Fin 1200, cls (x.val : Int) = 1 → (0 ≤ upr (x.val : Int) ∧ upr (x.val : Int) < 1200) ∧ cls (upr (x.val : Int)) = 1 ∧ upr (upr (x.val : Int)) = upr (x.val : Int) ∧
    (plainL (upr (x.val : Int))).all (fun b => decide (65 ≤ b.toNat ∧ b.toNat ≤ 90)) = true := by decide +kernel
theorem tab_cap : ∀ y : Fin 26, cls (((y.val + 65 : Nat) : Int)) = 1 ∧ upr (((y.val + 65 : Nat) : Int)) = ((y.val + 65 : Nat) : Int) ∧ plainL (((y.val + 65 : Nat) : Int)) = [] := by decide +kernel
theorem tab_at {r : Nat} (h : cls (r : Int) = 1) : (0 ≤ upr (r : Int) ∧ upr (r : Int) < 1200) ∧ cls (upr (r : Int)) = 1 ∧ upr (upr (r : Int)) = upr (r : Int) ∧
    (plainL (upr (r : Int))).all (fun b => decide (65 ≤ b.toNat ∧ b.toNat ≤ 90)) = true := by
  have hr := t_cls_range h
  exact tab_enc ⟨r, by omega⟩ h
theorem enc_asc (b : UInt8) (h : b.toNat < 128) : enc ((b.toNat : Nat) : Int) = [b] := by
  have t : ∀ x : Fin 128, enc ((x.val : Nat) : Int) = [UInt8.ofNat x.val] := by decide +kernel
  have := t ⟨b.toNat, h⟩
  rw [this]
  simp
theorem encs_asc : ∀ l : List UInt8, (∀ b ∈ l, b.toNat < 128) → encs (l.map (·.toNat)) = l
  | [], _ => rfl
  | b :: l, h => by
    rw [List.map_cons, encs_cons, enc_asc b (h b (List.mem_cons_self ..)), encs_asc l (fun x hx => h x (List.mem_cons_of_mem _ hx))]
    rfl
theorem plain_caps {r : Nat} (h : cls (r : Int) = 1) : ∀ b ∈ plainL (upr (r : Int)), 65 ≤ b.toNat ∧ b.toNat ≤ 90 := by
  have := (tab_at h).2.2.2
  intro b hb
  have := List.all_eq_true.1 this b hb
  simpa using this
theorem foldOne_rs (p : Bool) (r : Nat) : foldOne p r = encs (foldRs p r) := by
  unfold foldOne foldRs
  by_cases h : cls (r : Int) = 1
  · rw [if_pos h, if_pos h]
    have ht := tab_at h
    have e1 : encs [(upr (r : Int)).toNat] = enc (upr (r : Int)) := by
      rw [encs_cons, encs_nil, List.append_nil]
      congr 1
      omega
    cases p
    · rw [if_neg (by simp), if_neg (by simp), e1]
    · rw [if_pos rfl]
      by_cases hp : plainL (upr (r : Int)) = []
      · rw [if_neg (by simp [hp]), e1]
        simp [plainB, hp, encode_bytes]
      · rw [if_pos ⟨rfl, hp⟩, encs_asc _ (fun b hb => by have := plain_caps h b hb; omega)]
        simp [plainB, hp, bl]
  · rw [if_neg h, if_neg h]; rfl
theorem foldRs_of {p : Bool} {x : Nat} (h1 : cls (x : Int) = 1) (h2 : upr (x : Int) = x) (h3 : p = true → plainL (x : Int) = []) : foldRs p x = [x] := by
  unfold foldRs
  rw [if_pos h1, h2, if_neg (fun h => h.2 (h3 h.1)), Int.toNat_natCast]
theorem foldRs_fixed (p : Bool) (r : Nat) : ∀ x ∈ foldRs p r, foldRs p x = [x] ∧ scalar x := by
  intro x hx
  unfold foldRs at hx
  by_cases h : cls (r : Int) = 1
  · rw [if_pos h] at hx
    have ht := tab_at h
    split at hx
    · obtain ⟨b, hb, rfl⟩ := List.mem_map.1 hx
      have hr := plain_caps h b hb
      have hg := tab_cap ⟨b.toNat - 65, by omega⟩
      rw [show (((⟨b.toNat - 65, by omega⟩ : Fin 26).val + 65 : Nat)) = b.toNat by simp only; omega] at hg
      refine ⟨foldRs_of hg.1 hg.2.1 (fun _ => hg.2.2), ?_⟩
      unfold scalar
      rw [valid_iff]; omega
    · rename_i hn
      rw [List.mem_singleton] at hx
      have e : (x : Int) = upr (r : Int) := by omega
      refine ⟨foldRs_of (by rw [e]; exact ht.2.1) (by rw [e]; exact ht.2.2.1) (fun hp => ?_), ?_⟩
      · rw [e]
        exact Classical.byContradiction fun h0 => hn ⟨hp, h0⟩
      · unfold scalar
        rw [valid_iff]; omega
  · rw [if_neg h] at hx
    simp at hx
theorem flat_fixed (f : Nat → List Nat) : ∀ l : List Nat, (∀ x ∈ l, f x = [x]) → l.flatMap f = l
  | [], _ => rfl
  | x :: l, h => by
    rw [List.flatMap_cons, h x (List.mem_cons_self ..), flat_fixed f l (fun y hy => h y (List.mem_cons_of_mem _ hy))]
    rfl
theorem fold_flat (p : Bool) (rs : List Nat) : foldR p rs = encs (rs.flatMap (foldRs p)) := by
  induction rs with
  | nil => simp [foldR, encs]
  | cons r rs ih =>
    have e : foldR p (r :: rs) = foldOne p r ++ foldR p rs := by simp [foldR]
    rw [e, ih, foldOne_rs, List.flatMap_cons, encs_append]
theorem flat_scalar (p : Bool) (rs : List Nat) : ∀ x ∈ rs.flatMap (foldRs p), scalar x := by
  intro x hx
  obtain ⟨r, _, hr⟩ := List.mem_flatMap.1 hx
  exact (foldRs_fixed p r x hr).2
theorem runes_fold (p : Bool) (l : List UInt8) : runes (foldL p l) = (runes l).flatMap (foldRs p) := by
  unfold foldL
  rw [fold_flat]
  have := runes_encs _ (flat_scalar p (runes l)) []
  rw [List.append_nil] at this
  rw [this]
  simp [runes, chop_nil]
theorem fold_twice (p : Bool) (l : List UInt8) : foldL p (foldL p l) = foldL p l := by
  have e : foldL p (foldL p l) = encs ((runes (foldL p l)).flatMap (foldRs p)) := fold_flat p _
  rw [e, runes_fold, List.flatMap_assoc]
  have e2 : foldL p l = encs ((runes l).flatMap (foldRs p)) := fold_flat p _
  rw [e2]
  congr 2
  funext r
  exact flat_fixed _ _ (fun x hx => (foldRs_fixed p r x hx).1)
theorem foldRs_plain (r : Nat) : (foldRs false r).flatMap (foldRs true) = foldRs true r := by
  by_cases h : cls (r : Int) = 1
  · have ht := tab_at h
    have e : foldRs false r = [(upr (r : Int)).toNat] := by
      unfold foldRs
      rw [if_pos h, if_neg (by simp)]
    have e2 : (((upr (r : Int)).toNat : Nat) : Int) = upr (r : Int) := by omega
    rw [e, List.flatMap_cons, List.flatMap_nil, List.append_nil]
    unfold foldRs
    rw [e2, if_pos ht.2.1, if_pos h, ht.2.2.1]
  · unfold foldRs
    rw [if_neg h, if_neg h]; rfl
theorem fold_plain (l : List UInt8) : foldL true (foldL false l) = foldL true l := by
  have e : foldL true (foldL false l) = encs ((runes (foldL false l)).flatMap (foldRs true)) := fold_flat true _
  rw [e, runes_fold, List.flatMap_assoc]
  have e2 : foldL true l = encs ((runes l).flatMap (foldRs true)) := fold_flat true _
  rw [e2]
  congr 2
  funext r
  exact foldRs_plain r
theorem fold_valid (p : Bool) (l : List UInt8) : validL (foldL p l) = true := by
  have e : foldL p l = encs ((runes l).flatMap (foldRs p)) := fold_flat p _
  rw [e]
  exact valid_encs _ (flat_scalar p _)
theorem foldL_le4 (p : Bool) (l : List UInt8) : (foldL p l).length ≤ 4 * l.length := by
  have h := foldR_le p (runes l)
  have h2 := chop_length_le l
  rw [runes_length] at h
  unfold foldL; omega
theorem From.vld (w : World) (hT : Tabs w) (s : ByteArray) (h : s.size < 9223372036854775807) : From w 20 #[.string s] (.bool (validL (bl s))) := .below fun W hb => Valid_any s W (hT.below hb) h
theorem t_sz (l : List UInt8) : (⟨l.toArray⟩ : ByteArray).size = l.length := by rw [← bl_length]

set_option maxHeartbeats 4000000 in
set_option maxRecDepth 100000 in
theorem foldTwice_any (s : ByteArray) (p : Bool) (w : World) (hs : s.size ≤ 1048576) (hT : Tabs w) :
    Calls Tryd.prog 14 #[.string s, .bool p] w fun e w' => e = .returned (.bool true) ∧ Below w.heap.size w w' := by
  have HA : From w 43 #[] (.bool true) := .below fun W _ => awake2_any W
  have l1 := foldL_le4 p (bl s); have l2 := foldL_le4 false (bl s)
  rw [bl_length] at l1 l2
  have H1 := From.fold w s p (by omega)
  have H2 := From.fold w ⟨(foldL p (bl s)).toArray⟩ p (by rw [t_sz]; omega)
  have H3 := From.fold w s false (by omega)
  have H4 := From.fold w ⟨(foldL false (bl s)).toArray⟩ true (by rw [t_sz]; omega)
  have H5 := From.fold w s true (by omega)
  have HV := From.vld w hT ⟨(foldL p (bl s)).toArray⟩ (by rw [t_sz]; omega)
  rw [bl_mk, fold_twice] at H2
  rw [bl_mk, fold_plain] at H4
  rw [bl_mk, fold_valid] at HV
  clear l1 l2
  generalize (⟨(foldL p (bl s)).toArray⟩ : ByteArray) = fp at *
  generalize (⟨(foldL false (bl s)).toArray⟩ : ByteArray) = ff at *
  generalize (⟨(foldL true (bl s)).toArray⟩ : ByteArray) = ft at *
  have hb0 := Below.refl w.heap.size w
  go_enter Tryd.func14, Tryd.ntmps14
  go_wp2_with (first
      | (go_at_call 43; (with_reducible refine (HA.at_ (by assumption)).mono ?_); rintro e wq0 ⟨rfl, hbq0⟩)
      | (go_at_call 20; (with_reducible refine (HV.at_ (by assumption)).mono ?_); rintro e wq1 ⟨rfl, hbq1⟩)
      | (go_at_call 44; (with_reducible refine (H1.at_ (by assumption)).mono ?_); rintro e wq2 ⟨rfl, hbq2⟩)
      | (go_at_call 44; (with_reducible refine (H2.at_ (by assumption)).mono ?_); rintro e wq2 ⟨rfl, hbq2⟩)
      | (go_at_call 44; (with_reducible refine (H3.at_ (by assumption)).mono ?_); rintro e wq2 ⟨rfl, hbq2⟩)
      | (go_at_call 44; (with_reducible refine (H4.at_ (by assumption)).mono ?_); rintro e wq2 ⟨rfl, hbq2⟩)
      | (go_at_call 44; (with_reducible refine (H5.at_ (by assumption)).mono ?_); rintro e wq2 ⟨rfl, hbq2⟩))
  all_goals go_ret
  all_goals exact ⟨rfl, by assumption⟩
end Go.Proofs.YtlkabghpcjlohaaDoor
