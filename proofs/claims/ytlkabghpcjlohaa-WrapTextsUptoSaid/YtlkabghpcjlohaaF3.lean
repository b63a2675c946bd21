/- Walk of package fold's Fold: the letters of a text, as capitals. -/
import Derived.Test.YtlkabghpcjlohaaF2
namespace Go.Proofs.Ytlkabghpcjlohaa
set_option linter.unusedVariables false
set_option linter.unusedSimpArgs false
open Go.RowKit Go.Lib Go.Shelf
attribute [local go_sem] Oper.semAt_some

/-- what a rune becomes -/
def foldOne (plain : Bool) (r : Nat) : List UInt8 := if cls (r : Int) = 1 then (if plain then bl (plainB (upr (r : Int))) else enc (upr (r : Int))) else []
def foldR (plain : Bool) (rs : List Nat) : List UInt8 := (rs.map (foldOne plain)).flatten
def foldL (plain : Bool) (l : List UInt8) : List UInt8 := foldR plain (runes l)
theorem foldR_snoc (p : Bool) (rs : List Nat) (r : Nat) : foldR p (rs ++ [r]) = foldR p rs ++ foldOne p r := by simp [foldR]
theorem foldR_append (p : Bool) (a b : List Nat) : foldR p (a ++ b) = foldR p a ++ foldR p b := by simp [foldR]
theorem len_ite {c : Prop} [Decidable c] {a b : List UInt8} (ha : a.length ≤ 2) (hb : b.length ≤ 2) : (if c then a else b).length ≤ 2 := by split <;> assumption
theorem plainL_le (n : Int) : (plainL n).length ≤ 2 := by
  unfold plainL
  repeat refine len_ite (by decide) ?_
  decide
theorem plainB_le (n : Int) : (plainB n).size ≤ 4 := by
  unfold plainB
  split
  · rw [← bl_length, encode_bytes]; exact (enc_length _).2
  · rw [← bl_length, bl_mk]; have := plainL_le n; omega
theorem foldOne_le (p : Bool) (r : Nat) : (foldOne p r).length ≤ 4 := by
  unfold foldOne
  split
  · split
    · rw [bl_length]; exact plainB_le _
    · exact (enc_length _).2
  · simp
theorem foldR_le (p : Bool) (rs : List Nat) : (foldR p rs).length ≤ 4 * rs.length := by
  induction rs with
  | nil => simp [foldR]
  | cons r rs ih =>
    have e : foldR p (r :: rs) = foldOne p r ++ foldR p rs := by simp [foldR]
    rw [e, List.length_append, List.length_cons]
    have := foldOne_le p r; omega
theorem upr_range (n : Int) (h0 : 0 ≤ n) (h1 : n ≤ 1114111) : 0 ≤ upr n ∧ upr n ≤ 1114111 := by
  unfold upr
  repeat' split
  all_goals omega
theorem runeCells_enc (r : Int) : runeCells r = byteCells (enc r) := by
  rw [← byteCells_encodeRune]
  congr 1
  unfold encodeRune encodeRuneZ
  rw [enc_fix]
  by_cases hv : Utf8.valid r = true
  · have h := hv
    rw [valid_iff] at h
    obtain ⟨c, rfl⟩ : ∃ c : Nat, r = c := ⟨r.toNat, by omega⟩
    have hf : fixr (c : Int) = c := by simp [fixr, hv]
    rw [hf]
    by_cases c1 : c < 128
    · rw [if_pos (by omega), if_pos c1]; simp
    · rw [if_neg (by omega), if_neg c1]
      by_cases c2 : c < 2048
      · rw [if_pos (by omega), if_pos c2]
        have e1 : (192 + (c : Int) / 64).toNat = 192 + c / 64 := by omega
        have e2 : (128 + (c : Int) % 64).toNat = 128 + c % 64 := by omega
        simp only [List.map_cons, List.map_nil, e1, e2]
      · rw [if_neg (by omega), if_neg c2]
        by_cases c3 : c < 65536
        · rw [if_pos (by omega), if_pos c3]
          have e1 : (224 + (c : Int) / 4096).toNat = 224 + c / 4096 := by omega
          have e2 : (128 + (c : Int) / 64 % 64).toNat = 128 + c / 64 % 64 := by omega
          have e3 : (128 + (c : Int) % 64).toNat = 128 + c % 64 := by omega
          simp only [List.map_cons, List.map_nil, e1, e2, e3]
        · rw [if_neg (by omega), if_pos (by omega), if_neg c3]
          have e0 : (240 + (c : Int) / 262144).toNat = 240 + c / 262144 := by omega
          have e1 : (128 + (c : Int) / 4096 % 64).toNat = 128 + c / 4096 % 64 := by omega
          have e2 : (128 + (c : Int) / 64 % 64).toNat = 128 + c / 64 % 64 := by omega
          have e3 : (128 + (c : Int) % 64).toNat = 128 + c % 64 := by omega
          simp only [List.map_cons, List.map_nil, e0, e1, e2, e3]
  · have h := hv
    rw [valid_iff] at h
    have hf : fixr r = 65533 := by simp [fixr, hv]
    rw [hf, if_neg (by omega), if_neg (by omega), if_neg (by omega), if_neg (by omega)]
    decide

set_option maxHeartbeats 8000000 in
set_option maxRecDepth 100000 in
theorem Fold_any (s : ByteArray) (plain : Bool) (w : World) (hs : s.size ≤ 17592186044416) :
    Calls Try.prog 40 #[.string s, .bool plain] w fun e w' => e = .returned (.string ⟨(foldL plain (bl s)).toArray⟩) ∧ Below w.heap.size w w' := by
  have hle := chop_length_le (bl s)
  rw [bl_length] at hle
  have HB : Hid (foldL plain (bl s) = foldR plain ((steps (bl s)).map (·.2))) := Lib.hid (by rw [steps_runes]; rfl)
  refine (callsIn_wide (n := 6)).1 ?_
  refine callsIn_of_wp_marks Try.func40 rfl trivial ?_ rfl
  simp only [Try.ntmps40, List.size_toArray, List.length_cons, List.length_nil, Nat.reduceAdd, Nat.reduceSub, Array.replicate_succ, Array.replicate_zero, List.push_toArray, List.append_toArray, List.nil_append, List.cons_append]
  gi_wp2_with (refine ⟨trivial, ?_⟩; gi_at_call 72; refine (All_in Fence.wide _ trivial rfl _ _).mono ?_; rintro e w' ⟨rfl, rfl⟩)
  have hbox : (((w.alloc (.cells #[.bool plain] 4)).alloc (.cells #[.pointer none, .slice none 0 0] 84)).alloc (.cells #[.string s] 9)).cell? ⟨w.heap.size + 2, 0, none⟩ = some (.string s) := by
    have := World.cell?_alloc_new ((w.alloc (.cells #[.bool plain] 4)).alloc (.cells #[.pointer none, .slice none 0 0] 84)) #[.string s] 9 0
    simpa using this
  have hpl : (((w.alloc (.cells #[.bool plain] 4)).alloc (.cells #[.pointer none, .slice none 0 0] 84)).alloc (.cells #[.string s] 9)).cell? ⟨w.heap.size, 0, none⟩ = some (.bool plain) := by
    rw [World.cell?_alloc_lt _ _ _ (by simp; omega), World.cell?_alloc_lt _ _ _ (by simp)]
    simp
  have hI0 : IsBuilderF 84 5 (w.heap.size + 1) (w.heap.size + 1) (byteCells (foldR plain (([] : List (Step s)).map fun x => x.1.2))) (((w.alloc (.cells #[.bool plain] 4)).alloc (.cells #[.pointer none, .slice none 0 0] 84)).alloc (.cells #[.string s] 9)) := by
    have := IsBuilderF.of (fresh_isBuilder 84 5 (w.alloc (.cells #[.bool plain] 4)))
    rw [World.size_alloc] at this
    exact this.alloc _
  have hb0 : Below w.heap.size w (((w.alloc (.cells #[.bool plain] 4)).alloc (.cells #[.pointer none, .slice none 0 0] 84)).alloc (.cells #[.string s] 9)) := (((Below.refl _ w).alloc (Nat.le_refl _) _).alloc (by simp) _).alloc (by simp; omega) _
  have hsz0 : (((w.alloc (.cells #[.bool plain] 4)).alloc (.cells #[.pointer none, .slice none 0 0] 84)).alloc (.cells #[.string s] 9)).heap.size = w.heap.size + 3 := by simp
  generalize hW0 : ((w.alloc (.cells #[.bool plain] 4)).alloc (.cells #[.pointer none, .slice none 0 0] 84)).alloc (.cells #[.string s] 9) = W0 at *
  refine wpIn_rangeFunc_ownF rfl (by omega) (gf := 101) (lb := #[.pointer (some ⟨w.heap.size + 2, 0, none⟩)]) rfl trivial (enters_of Try.func101 (by kernel_rfl) rfl)
    (All_stops Fence.wide _ trivial rfl (by omega) s (w.heap.size + 2) W0 (by omega) hbox) walksK_t walksK_b (Below.refl _ _) (fun _ => rfl)
    (fun (pre : List (Step s)) W => IsBuilderF 84 5 (w.heap.size + 1) (w.heap.size + 1) (byteCells (foldR plain (pre.map fun (x : Step s) => x.1.2))) W ∧ Below (w.heap.size + 1) W0 W)
    (fun _ _ _ => False)
    (OwnFrom.and (builder_own (w.heap.size + 1) (w.heap.size + 1) 84 5 (fun (pre : List (Step s)) => byteCells (foldR plain (pre.map fun (x : Step s) => x.1.2))) _) (ownFrom_below (by omega) (by omega)))
    (fun _ _ _ _ _ hs _ _ => hs.elim)
    ⟨hI0, Below.refl _ _⟩
    (fun (x : Step s) => { tmps := #[.string s, .bool plain, undef, .pointer (some ⟨w.heap.size, 0, none⟩), .string ⟨#[]⟩, .pointer (some ⟨w.heap.size + 1, 0, none⟩), undef, .int .i32 (x.1.2 : Int), .string s, .func (.func 101) #[] #[.pointer (some ⟨w.heap.size + 2, 0, none⟩)], .int .i64 (x.1.1 : Int), .int .i32 (x.1.2 : Int), undef, undef, undef, undef, undef, undef, undef, undef, undef, undef, undef, undef, undef, undef], defers := [] }) ?assign ?body ?done ?stop
  case assign =>
    intro l x W K hK
    gi_wp2
    exact hK
  case body =>
    rintro l pre x W ⟨hI, hbw⟩ hlen
    obtain ⟨⟨p, r⟩, hp, hr⟩ := x
    have hsz : w.heap.size + 1 ≤ W.heap.size := by have := hbw.size; omega
    have hel := foldR_le plain (pre.map fun (x : Step s) => x.1.2)
    rw [List.length_map] at hel
    have hplW : W.cell? ⟨w.heap.size, 0, none⟩ = some (.bool plain) := (hbw.cell (p := ⟨w.heap.size, 0, none⟩) (by simp)).trans hpl
    have hu := upr_range (r : Int) (by omega) (by omega)
    have hE : byteCells (foldR plain ((pre ++ [(⟨(p, r), hp, hr⟩ : Step s)]).map fun (x : Step s) => x.1.2)) = byteCells (foldR plain (pre.map fun (x : Step s) => x.1.2)) ++ byteCells (foldOne plain r) := by
      rw [List.map_append, List.map_cons, List.map_nil, foldR_snoc, byteCells_append]
    have cC := fun W => Class_any (r : Int) W
    have cU := fun W => Upper_any (r : Int) W (by omega) (by omega)
    have cP := fun W => Plain_any (upr (r : Int)) W (by omega) (by omega)
    have hP4 := plainB_le (upr (r : Int))
    have hone : foldOne plain r = if cls (r : Int) = 1 then (if plain then bl (plainB (upr (r : Int))) else enc (upr (r : Int))) else [] := rfl
    rw [hone] at hE
    clear hone
    have CC := Lib.hid cC; have CU := Lib.hid cU; have CP := Lib.hid cP
    clear cC cU cP
    by_cases hc : cls (r : Int) = 1
    · rw [if_pos hc] at hE
      have hcb : (cls (r : Int) != 1) = false := by simp [hc]
      generalize hcq : cls (r : Int) = q at *
      clear hcq hc
      generalize upr (r : Int) = u at *
      have HE := Lib.hid hE; clear hE
      cases plain
      · gi_wp2_with (first
          | (refine ⟨trivial, ?_⟩; gi_at_call 33; refine (CallsIn.inRound l (callsIn_wide.2 (CC.out _))).mono ?_; rintro e W1 ⟨rfl, rfl⟩)
          | (refine ⟨trivial, ?_⟩; gi_at_call 35; refine (CallsIn.inRound l (callsIn_wide.2 (CU.out _))).mono ?_; rintro e W1 ⟨rfl, rfl⟩)
          | (refine ⟨trivial, ?_⟩; gi_at_call 78; refine (CallsIn.inRound l (callsIn_wide.2 (b_rune (w.heap.size + 1) (w.heap.size + 1) _ _ (by omega) (by omega) _ hI (by rw [byteCells_length]; omega) hsz))).mono ?_; rintro e W2 ⟨rfl, h2, b2, k2⟩))
        have hko : KeepsOthers W W2 := others_keep k2 (builder_cells hI) b2.size
        exact ⟨hko, hko.walks, by rw [HE.out, if_neg (by simp), ← runeCells_enc]; exact Or.inr h2, hbw.trans b2⟩
      · gi_wp2_with (first
          | (refine ⟨trivial, ?_⟩; gi_at_call 33; refine (CallsIn.inRound l (callsIn_wide.2 (CC.out _))).mono ?_; rintro e W1 ⟨rfl, rfl⟩)
          | (refine ⟨trivial, ?_⟩; gi_at_call 35; refine (CallsIn.inRound l (callsIn_wide.2 (CU.out _))).mono ?_; rintro e W1 ⟨rfl, rfl⟩)
          | (refine ⟨trivial, ?_⟩; gi_at_call 37; refine (CallsIn.inRound l (callsIn_wide.2 (CP.out _))).mono ?_; rintro e W1 ⟨rfl, rfl⟩)
          | (refine ⟨trivial, ?_⟩; gi_at_call 73; refine (CallsIn.inRound l (callsIn_wide.2 (b_string (w.heap.size + 1) (w.heap.size + 1) _ _ _ hI (by rw [byteCells_length]; omega) hsz))).mono ?_; rintro e W2 ⟨rfl, h2, b2, k2⟩))
        have hko : KeepsOthers W W2 := others_keep k2 (builder_cells hI) b2.size
        exact ⟨hko, hko.walks, by rw [HE.out, if_pos trivial, ← strCells_eq]; exact Or.inr h2, hbw.trans b2⟩
    · rw [if_neg hc] at hE
      have hcb : (cls (r : Int) != 1) = true := by simp [hc]
      generalize hcq : cls (r : Int) = q at *
      clear hcq hc
      have HE := Lib.hid hE; clear hE
      gi_wp2_with (refine ⟨trivial, ?_⟩; gi_at_call 33; refine (CallsIn.inRound l (callsIn_wide.2 (CC.out _))).mono ?_; rintro e W1 ⟨rfl, rfl⟩)
      exact ⟨KeepsOthers.refl _, KeepsWalks.refl _, by rw [HE.out]; simpa [byteCells] using hI, hbw⟩
  case done =>
    rintro D xs W hD hxs ⟨hI, hbw⟩ hK
    have hfx : foldR plain (xs.map fun (x : Step s) => x.1.2) = foldL plain (bl s) := by
      rw [HB.out, ← hxs, List.map_map]; rfl
    rw [hfx] at hI
    clear hfx
    have hsz : w.heap.size + 1 ≤ W.heap.size := by have := hbw.size; omega
    gi_wp2_with (refine ⟨trivial, ?_⟩; gi_at_call 74; refine (callsIn_wide.2 (Try.Builder_String_any_k (w.heap.size + 1) (w.heap.size + 1) _ _ hI hsz)).mono ?_; rintro e W1 ⟨rfl, _, b1, k1⟩)
    have hK1 : W1.heap[D]? = some (.deferred (some [])) := k1 D _ hK (fun e1 => by have := Option.some.inj e1; omega) (fun c fz e1 => by cases e1)
    refine ⟨by simp, .inl ⟨_, _, rfl, run_takeDeferred hK1, ?_⟩⟩
    exact ⟨_, results_tmp rfl _ _ _, rfl, (hb0.trans ((hbw.trans b1).mono (by omega))).trans (belowK_b (w := w) (Nat.le_refl _) W1 D _ _ (by omega) hK1 rfl rfl)⟩
  case stop =>
    rintro D c pre W _ _ h _
    exact h.elim
end Go.Proofs.Ytlkabghpcjlohaa
