/- A range over a function that hands over what it makes and keeps blocks of its own which it goes on writing: what the loop owes, round by round. -/
import Derived.Test.YtlkabghpcjlohaaX1
namespace Go.Proofs.Ytlkabghpcjlohaa
set_option linter.unusedVariables false
set_option linter.unusedSimpArgs false
open Go.RowKit

/-- what the iterator may do: it writes its own blocks alone, none of those below C -/
structure Stp (C : Nat) (M : Nat → Prop) (W W' : World) : Prop where
  os : W'.os = W.os
  tape : W'.tape = W.tape
  output : W'.output = W.output
  size : W.heap.size ≤ W'.heap.size
  block : ∀ k, k < W.heap.size → (k < C ∨ ¬ M k) → W'.heap[k]? = W.heap[k]?
/-- what the body may do: it leaves the iterator's blocks alone -/
structure Kps (M : Nat → Prop) (W W' : World) : Prop where
  os : W'.os = W.os
  tape : W'.tape = W.tape
  output : W'.output = W.output
  size : W.heap.size ≤ W'.heap.size
  block : ∀ k, k < W.heap.size → M k → W'.heap[k]? = W.heap[k]?
theorem Stp.refl (C : Nat) (M : Nat → Prop) (W : World) : Stp C M W W := ⟨rfl, rfl, rfl, Nat.le_refl _, fun _ _ _ => rfl⟩
theorem Kps.refl (M : Nat → Prop) (W : World) : Kps M W W := ⟨rfl, rfl, rfl, Nat.le_refl _, fun _ _ _ => rfl⟩
theorem Kps.trans {M : Nat → Prop} {a b c : World} (h : Kps M a b) (k : Kps M b c) : Kps M a c :=
  ⟨k.os.trans h.os, k.tape.trans h.tape, k.output.trans h.output, Nat.le_trans h.size k.size, fun i hi hm => (k.block i (Nat.lt_of_lt_of_le hi h.size) hm).trans (h.block i hi hm)⟩
theorem Kps.put {M : Nat → Prop} (W : World) {l : Nat} {o o' : Obj} (h : W.heap[l]? = some o) (hl : ¬ M l) : Kps M W (W.putObj l o') := by
  have hlt := (Array.getElem?_eq_some_iff.1 h).1
  have hg := grownBy_putObj' W l o'
  exact ⟨hg.os, hg.tape, hg.output, hg.size, fun k hk hm => hg.block k hk (fun e => hl (by injection e with e; rw [← e]; exact hm))⟩

/-- what the iterator is told: so many have been handed over, these blocks are its own -/
abbrev Told := Nat → (Nat → Prop) → World → Prop
def Stable (C : Nat) (J : Told) : Prop := ∀ n M M' W W', J n M W → Stp C M W W' → (∀ k, M' k → M k ∨ W.heap.size ≤ k) → J n M' W'
def manyPost (M : Nat → Prop) (J : Told) (n : Nat) (stop : Bool) (Jx : Code → World → Prop) (W : World) : Exit → Act → World → Prop
  | .normal, _, W' => stop = false ∧ KeepsOthers W W' ∧ Kps M W W' ∧ J (n + 1) M W'
  | .exit id, _, W' => stop = true ∧ KeepsOthers W W' ∧ Jx (.exit id) W'
  | _, _, _ => False
/-- what a yield answers -/
def yAns (M : Nat → Prop) (J : Told) (n : Nat) (stop : Bool) (Jx : World → Prop) (W : World) (e : Ending) (W' : World) : Prop :=
  (stop = false ∧ e = .returned (.bool true) ∧ Kps M W W' ∧ J (n + 1) M W') ∨ (stop = true ∧ e = .returned (.bool false) ∧ Jx W')

theorem wpIn_rangeFunc_many {F : Fence} {n : Nat} {P : Program} {g : Operand} {ps : Array Tmp} {assign body : Code} {Q : Exit → Act → World → Prop} {a : Act} {w : World}
    (hro : F.round = none) (h1 : 1 ≤ n) {gf : Nat} {lb : Array Value} (hg : a.eval g = .func (.func gf) #[] lb) (hFg : F.fn gf) (eg : ∀ args w, (callFunc gf args).run P w = .ok (.enter gf args) w)
    (I : Told) (Ix : Code → World → Prop) (stop : Nat → Bool) (N : Nat) (M0 : Nat → Prop) (hM0 : ∀ k, M0 k → k < w.heap.size) (Px : Nat → (Nat → Prop) → Value → World → Prop) (hps : ps.size = 1)
    (hI : Stable w.heap.size I) (h0 : ∀ W, Below w.heap.size w W → I 0 M0 W)
    (hIp : ∀ i M W l o o', I i M W → w.heap.size ≤ l → W.heap[l]? = some o → o.isCells = false → I i M (W.putObj l o'))
    (hIx : ∀ c W l o o', Ix c W → w.heap.size ≤ l → W.heap[l]? = some o → o.isCells = false → Ix c (W.putObj l o'))
    (hPx : ∀ i M v W l o o', Px i M v W → w.heap.size ≤ l → W.heap[l]? = some o → o.isCells = false → Px i M v (W.putObj l o'))
    (hiter : ∀ (l : Nat) (W1 : World) (J : Told) (Jx : World → Prop), Below w.heap.size w W1 → Stable w.heap.size J → J 0 M0 W1 →
      (∀ i M v W, J i M W → Px i M v W → YieldAt F (n - 1 - 1) P l #[v] W (yAns M J i (stop i) Jx W)) →
      CallsIn F (n - 1) P gf (#[.func (.yield l) #[] #[]] ++ lb) W1 fun e W' => (∃ v, e = .returned v) ∧ ((∃ M, J N M W') ∨ Jx W'))
    (a₁ : Value → Act)
    (hassign : ∀ (l : Nat) (v : Value) (W : World) (K : Act → World → Prop), K (a₁ v) W →
      assign.wpIn (F.inRound l) (n - 1 - 1) P (Exit.then K (fun _ _ _ => False)) { tmps := (ps.zip #[v]).foldl (fun t (p, v) => t.setIfInBounds p v) a.tmps, defers := [] } W)
    (hbody : ∀ (l i : Nat) (M : Nat → Prop) (v : Value) (W : World), I i M W → Px i M v W → body.wpIn (F.inRound l) (n - 1 - 1) P (manyPost M I i (stop i) Ix W) (a₁ v) W)
    (hdone : ∀ (D : Nat) (M : Nat → Prop) (W : World), w.heap.size ≤ D → I N M W → W.heap[D]? = some (.deferred (some [])) → Q .normal { a with defers := { target := .collected D, args := #[] } :: a.defers } W)
    (hstop : ∀ (D : Nat) (c : Code) (W : World), w.heap.size ≤ D → Ix c W → W.heap[D]? = some (.deferred (some [])) → c.wpIn F n P Q { a with defers := { target := .collected D, args := #[] } :: a.defers } W) :
    (Code.rangeFunc g ps assign body).wpIn F n P Q a w := by
  refine wpIn_rangeFunc fun fn hfn => ?_
  rw [hro]
  obtain ⟨rec, hrec⟩ : ∃ rec : LoopState → Option Code → Loop, rec = fun st pe => { state := st, pending := pe, fn, tmps := a.tmps, params := ps, assign, body, defers := w.heap.size } := ⟨_, rfl⟩
  obtain ⟨W1, hW1⟩ : ∃ W1, (w.alloc (.deferred (some []))).alloc (.loop (rec .ready none)) = W1 := ⟨_, rfl⟩
  have hL1 : W1.heap[w.heap.size + 1]? = some (.loop (rec .ready none)) := by
    have h9 := World.alloc_heap_new (w.alloc (.deferred (some []))) (.loop (rec .ready none))
    rw [World.size_alloc] at h9
    rw [← hW1]; exact h9
  have hK1 : W1.heap[w.heap.size]? = some (.deferred (some [])) := by
    rw [← hW1]; exact (Below.heap_alloc _ _ _ (by simp)).trans (World.alloc_heap_new w _)
  have hb1 : Below w.heap.size w W1 := by
    rw [← hW1]; exact ((Below.refl _ w).alloc (Nat.le_refl _) _).alloc (by simp) _
  have hs1 : W1.heap.size = w.heap.size + 2 := by rw [← hW1]; simp
  have hI1 : I 0 M0 W1 := h0 W1 hb1
  refine ⟨w.heap.size + 1, [{ target := .collected w.heap.size, args := #[] }], W1, { target := .fn (.func gf) lb, args := #[.func (.yield (w.heap.size + 1)) #[] #[]] }, W1, gf,
    #[.func (.yield (w.heap.size + 1)) #[] #[]] ++ lb, W1, ?_, ?_, ?_, ?_, fun _ => h1, ?_⟩
  · rw [← hW1, hrec]; exact run_enterLoop_outer _ _ _ _ _
  · simp only [resolve, hg]
    simp [go_sem]
  · intro f' hf'; simp [Target.leads] at hf'; subst hf'; exact hFg
  · simp [invoke, go_sem, eg]
  · refine (hiter (w.heap.size + 1) W1
      (fun i M W => I i M W ∧ W.heap[w.heap.size + 1]? = some (.loop (rec .ready none)) ∧ W.heap[w.heap.size]? = some (.deferred (some [])) ∧ ¬ M w.heap.size ∧ ¬ M (w.heap.size + 1))
      (fun W => ∃ c, Ix c W ∧ W.heap[w.heap.size + 1]? = some (.loop (rec .done (some c))) ∧ W.heap[w.heap.size]? = some (.deferred (some []))) hb1 ?_ ⟨hI1, hL1, hK1, fun h => by have := hM0 _ h; omega, fun h => by have := hM0 _ h; omega⟩ ?_).mono ?_
    · rintro i M M' W W' ⟨hi, hl, hk, hm1, hm2⟩ hs hM
      have ll := (Array.getElem?_eq_some_iff.1 hl).1
      have lk := (Array.getElem?_eq_some_iff.1 hk).1
      refine ⟨hI i M M' W W' hi hs hM, (hs.block _ ll (.inr hm2)).trans hl, (hs.block _ lk (.inr hm1)).trans hk, fun h => ?_, fun h => ?_⟩
      · rcases hM _ h with h | h
        · exact hm1 h
        · omega
      · rcases hM _ h with h | h
        · exact hm2 h
        · omega
    · rintro i M v W ⟨hi, hl, hk, hm1, hm2⟩ hpx
      have hlt : w.heap.size + 1 < W.heap.size := (Array.getElem?_eq_some_iff.1 hl).1
      have hy := run_yield (P := P) (args := #[v]) hl (by rw [hrec]; simp [hps])
      rw [hrec] at hy
      refine ⟨fn, _, assign, body, hy, roundIn_of_wpIn hfn (hassign _ v W _ ⟨_, run_beginRound hl (by rw [hrec]), ?_⟩)⟩
      have hl2 : (W.putObj (w.heap.size + 1) (.loop { rec .ready none with state := .busy })).heap[w.heap.size + 1]? = some (.loop { rec .ready none with state := .busy }) := World.putObj_heap_same hlt
      have hk2 : (W.putObj (w.heap.size + 1) (.loop { rec .ready none with state := .busy })).heap[w.heap.size]? = some (.deferred (some [])) := (World.putObj_heap_other (by omega)).trans hk
      have hkw : Kps M W (W.putObj (w.heap.size + 1) (.loop { rec .ready none with state := .busy })) := Kps.put W hl hm2
      have fin : ∀ (jump : Option Code) (W3 : World), KeepsOthers (W.putObj (w.heap.size + 1) (.loop { rec .ready none with state := .busy })) W3 →
          (Instr.endRound (w.heap.size + 1) jump).run P W3 = .ok (.bool jump.isNone) (W3.putObj (w.heap.size + 1) (.loop (rec (if jump.isNone then .ready else .done) jump))) ∧
          W3.heap[w.heap.size + 1]? = some (.loop { rec .ready none with state := .busy }) ∧
          (W3.putObj (w.heap.size + 1) (.loop (rec (if jump.isNone then .ready else .done) jump))).heap[w.heap.size + 1]? = some (.loop (rec (if jump.isNone then .ready else .done) jump)) ∧
          (W3.putObj (w.heap.size + 1) (.loop (rec (if jump.isNone then .ready else .done) jump))).heap[w.heap.size]? = some (.deferred (some [])) := fun jump W3 hk3 => by
        have hl3 := hk3.same _ _ hl2 rfl
        have := run_endRound (P := P) jump hl3
        rw [hrec] at this ⊢
        exact ⟨this, by rw [hrec] at hl3; exact hl3, World.putObj_heap_same (Array.getElem?_eq_some_iff.1 hl3).1, (World.putObj_heap_other (by omega)).trans (hk3.same _ _ hk2 rfl)⟩
      refine wpIn_mono (hbody _ i M v _ (hIp i M W _ _ _ hi (by omega) hl rfl) (hPx i M v W _ _ _ hpx (by omega) hl rfl)) ?_
      rintro e a3 W3 hp
      cases e with
      | normal =>
        obtain ⟨hst, hk3, hkp3, hi3⟩ := hp
        obtain ⟨hr, hl3, hl4, hk4⟩ := fin none W3 hk3
        exact ⟨_, _, hr, .inl ⟨hst, rfl, (hkw.trans hkp3).trans (Kps.put W3 hl3 hm2), hIp _ M W3 _ _ _ hi3 (by omega) hl3 rfl, hl4, hk4, hm1, hm2⟩⟩
      | exit id =>
        obtain ⟨hst, hk3, hx3⟩ := hp
        obtain ⟨hr, hl3, hl4, hk4⟩ := fin (some (.exit id)) W3 hk3
        exact ⟨_, _, hr, .inr ⟨hst, rfl, .exit id, hIx _ W3 _ _ _ hx3 (by omega) hl3 rfl, hl4, hk4⟩⟩
      | ret => exact hp.elim
      | goto t => exact hp.elim
      | panic ch => exact hp.elim
      | outgrown => exact hp.elim
    · rintro e W2 ⟨⟨v, rfl⟩, (⟨M, hi, hl, hk, _, _⟩ | ⟨c, hi, hl, hk⟩)⟩
      · exact ⟨none, _, by have := run_endLoop (P := P) hl (by rw [hrec]; simp); rw [hrec] at this; exact this, hdone _ M _ (Nat.le_refl _) (hIp _ M _ _ _ _ hi (by omega) hl rfl) ((World.putObj_heap_other (by omega)).trans hk)⟩
      · exact ⟨some c, _, by have := run_endLoop (P := P) hl (by rw [hrec]; simp); rw [hrec] at this; exact this, hstop _ c _ (Nat.le_refl _) (hIx c _ _ _ _ hi (by omega) hl rfl) ((World.putObj_heap_other (by omega)).trans hk)⟩
end Go.Proofs.Ytlkabghpcjlohaa
