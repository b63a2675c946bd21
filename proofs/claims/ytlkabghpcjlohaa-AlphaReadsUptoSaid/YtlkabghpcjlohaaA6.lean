/- Package utf's Fix. -/
import Derived.Test.YtlkabghpcjlohaaA5
namespace Go.Proofs.Ytlkabghpcjlohaa
set_option linter.unusedVariables false
set_option linter.unusedSimpArgs false
open Go.RowKit Go.Lib Go.Shelf
attribute [local go_sem] Oper.semAt_some

/-- A builder stays one where other blocks turn that are no cells. -/
theorem builder_own {β : Type} (B b T e : Nat) (f : β → List Value) (B0 : Nat) : OwnFrom B0 (fun (s : β) W => IsBuilderF T e B b (f s) W) := by
  intro s A C row hs hg hr
  have hne : ∀ k c t fz, A.heap[k]? = some (.cells c t fz) → row ≠ some k := by
    intro k c t fz hk e1
    obtain ⟨_, o, ho, hoc⟩ := hr k e1
    rw [hk] at ho; cases ho; cases hoc
  have key : ∀ p, BuilderAtF T e B b p (f s) A → BuilderAtF T e B b p (f s) C := by
    intro p h
    obtain ⟨hB, v, hb, hown, hn⟩ := h
    have hlt := (Array.getElem?_eq_some_iff.1 hb).1
    refine ⟨hB, v, (hg.block b hlt (fun e1 => hne _ _ _ _ hb e1.symm)).trans hb, hown.kept hg ?_, hn⟩
    rcases hown.2 with ⟨rfl, _⟩ | ⟨g, cap, cur, fz, rfl, _, hgg, _⟩
    · exact .inl rfl
    · exact .inr (fun e1 => hne _ _ _ _ hgg e1.symm)
  exact hs.elim (fun h => .inl (key _ h)) (fun h => .inr (key _ h))
/-- What keeps all but a builder and its row keeps whatever is no cells. -/
theorem others_keep {e : Nat} {b : Nat} {w w' : World} (h : OthersKept e (some b) w w') (hb : ∃ c t fz, w.heap[b]? = some (.cells c t fz)) (hs : w.heap.size ≤ w'.heap.size) : KeepsOthers w w' := by
  refine ⟨hs, fun k o hk ho => h k o hk ?_ ?_⟩
  · intro e1
    obtain ⟨c, t, fz, hc⟩ := hb
    rw [Option.some.inj e1, hc] at hk
    cases hk; cases ho
  · rintro c fz rfl
    cases ho
theorem builder_cells {T e B b : Nat} {bs : List Value} {w : World} (h : IsBuilderF T e B b bs w) : ∃ c t fz, w.heap[b]? = some (.cells c t fz) := by
  rcases h with ⟨_, v, hb, _⟩ | ⟨_, v, hb, _⟩ <;> exact ⟨_, _, _, hb⟩

theorem encs_snoc (rs : List Nat) (r : Nat) : encs (rs ++ [r]) = encs rs ++ enc (r : Int) := by rw [encs_append]; simp [encs]

set_option maxHeartbeats 4000000 in
set_option maxRecDepth 100000 in
theorem Fix_any (s : ByteArray) (w : World) (hs : s.size ≤ 17592186044416) :
    Calls Try.prog 31 #[.string s] w fun e w' => e = .returned (.string ⟨(fixL (bl s)).toArray⟩) ∧ Below w.heap.size w w' := by
  have hle := chop_length_le (bl s)
  rw [bl_length] at hle
  have HB : Hid (fixL (bl s) = encs ((steps (bl s)).map (·.2))) := Lib.hid (by rw [steps_runes]; rfl)
  refine (callsIn_wide (n := 6)).1 ?_
  refine callsIn_of_wp_marks Try.func31 rfl trivial ?_ rfl
  simp only [Try.ntmps31, List.size_toArray, List.length_cons, List.length_nil, Nat.reduceAdd, Nat.reduceSub, Array.replicate_succ, Array.replicate_zero, List.push_toArray, List.append_toArray, List.nil_append, List.cons_append]
  gi_wp2_with (refine ⟨trivial, ?_⟩; gi_at_call 72; refine (All_in Fence.wide _ trivial rfl _ _).mono ?_; rintro e w' ⟨rfl, rfl⟩)
  have hI0 : IsBuilderF 84 5 w.heap.size w.heap.size (byteCells (encs (([] : List (Step s)).map fun x => x.1.2))) ((w.alloc (.cells #[.pointer none, .slice none 0 0] 84)).alloc (.cells #[.string s] 9)) :=
    (IsBuilderF.of (fresh_isBuilder 84 5 w)).alloc _
  have hb0 : Below w.heap.size w ((w.alloc (.cells #[.pointer none, .slice none 0 0] 84)).alloc (.cells #[.string s] 9)) := ((Below.refl _ w).alloc (Nat.le_refl _) _).alloc (by simp) _
  have hbox : ((w.alloc (.cells #[.pointer none, .slice none 0 0] 84)).alloc (.cells #[.string s] 9)).cell? ⟨w.heap.size + 1, 0, none⟩ = some (.string s) := by
    simp
  have hsz0 : ((w.alloc (.cells #[.pointer none, .slice none 0 0] 84)).alloc (.cells #[.string s] 9)).heap.size = w.heap.size + 2 := by simp
  refine wpIn_rangeFunc_ownF rfl (by omega) (gf := 101) (lb := #[.pointer (some ⟨w.heap.size + 1, 0, none⟩)]) rfl trivial (enters_of Try.func101 (by kernel_rfl) rfl)
    (All_stops Fence.wide _ trivial rfl (by omega) s (w.heap.size + 1) _ (by simp) hbox) walksK_t walksK_b (Below.refl _ _) (fun _ => rfl)
    (fun (pre : List (Step s)) W => IsBuilderF 84 5 w.heap.size w.heap.size (byteCells (encs (pre.map fun (x : Step s) => x.1.2))) W ∧ Below w.heap.size w W)
    (fun _ _ _ => False)
    (OwnFrom.and (builder_own w.heap.size w.heap.size 84 5 (fun (pre : List (Step s)) => byteCells (encs (pre.map fun (x : Step s) => x.1.2))) _) (ownFrom_below (Nat.le_refl _) (by rw [hsz0]; omega)))
    (fun _ _ _ _ _ hs _ _ => hs.elim)
    ⟨hI0, hb0⟩
    (fun (x : Step s) => { tmps := #[.string s, undef, .string ⟨#[]⟩, .pointer (some ⟨w.heap.size, 0, none⟩), undef, .int .i32 (x.1.2 : Int), .string s, .func (.func 101) #[] #[.pointer (some ⟨w.heap.size + 1, 0, none⟩)], .int .i64 (x.1.1 : Int), .int .i32 (x.1.2 : Int), undef, undef, undef, undef], defers := [] }) ?assign ?body ?done ?stop
  case assign =>
    intro l x W K hK
    gi_wp2
    exact hK
  case body =>
    rintro l pre x W ⟨hI, hbw⟩ hlen
    obtain ⟨⟨p, r⟩, hp, hr⟩ := x
    have hel := encs_length (pre.map fun (x : Step s) => x.1.2)
    rw [List.length_map] at hel
    have hes : (Utf8.encode (r : Int)).size ≤ 4 := by rw [← bl_length, encode_bytes]; exact (enc_length _).2
    have hE : byteCells (encs ((pre ++ [(⟨(p, r), hp, hr⟩ : Step s)]).map fun (x : Step s) => x.1.2)) = byteCells (encs (pre.map fun (x : Step s) => x.1.2)) ++ strCells (Utf8.encode (r : Int)) := by
      rw [List.map_append, List.map_cons, List.map_nil, encs_snoc, byteCells_append, strCells_eq, encode_bytes]
    have HE := Lib.hid hE; clear hE
    gi_wp2_with (first
      | (refine ⟨trivial, ?_⟩; gi_at_call 39; refine (CallsIn.inRound l (callsIn_wide.2 (Encode_any (r : Int) _ (by omega) (by omega)))).mono ?_; rintro e W1 ⟨rfl, rfl⟩)
      | (refine ⟨trivial, ?_⟩; gi_at_call 73; refine (CallsIn.inRound l (callsIn_wide.2 (b_string w.heap.size w.heap.size _ _ _ hI (by rw [byteCells_length]; omega) hbw.size))).mono ?_; rintro e W2 ⟨rfl, h2, b2, k2⟩))
    have hko : KeepsOthers W W2 := others_keep k2 (builder_cells hI) b2.size
    exact ⟨hko, hko.walks, by rw [HE.out]; exact Or.inr h2, hbw.trans b2⟩
  case done =>
    rintro D xs W hD hxs ⟨hI, hbw⟩ hK
    have hfx : encs (xs.map fun (x : Step s) => x.1.2) = fixL (bl s) := by
      rw [HB.out, ← hxs, List.map_map]; rfl
    rw [hfx] at hI
    clear hfx
    gi_wp2_with (refine ⟨trivial, ?_⟩; gi_at_call 74; refine (callsIn_wide.2 (Try.Builder_String_any_k w.heap.size w.heap.size _ _ hI hbw.size)).mono ?_; rintro e W1 ⟨rfl, _, b1, k1⟩)
    have hK1 : W1.heap[D]? = some (.deferred (some [])) := k1 D _ hK (fun e1 => by have := Option.some.inj e1; rw [hsz0] at hD; omega) (fun c fz e1 => by cases e1)
    refine ⟨by simp, .inl ⟨_, _, rfl, run_takeDeferred hK1, ?_⟩⟩
    exact ⟨_, results_tmp rfl _ _ _, rfl, (hbw.trans b1).trans (belowK_b (w := w) (Nat.le_refl _) W1 D _ _ (by rw [hsz0] at hD; omega) hK1 rfl rfl)⟩
  case stop =>
    rintro D c pre W _ _ h _
    exact h.elim
theorem From.fix (w : World) (s : ByteArray) (h : s.size ≤ 17592186044416) : From w 31 #[.string s] (.string ⟨(fixL (bl s)).toArray⟩) := .below fun W _ => Fix_any s W h
end Go.Proofs.Ytlkabghpcjlohaa
