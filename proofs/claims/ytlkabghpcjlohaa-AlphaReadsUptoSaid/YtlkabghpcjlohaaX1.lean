/- A range over a function whose body is left by 'return' in its first round: what the loop owes. -/
import Derived.RangeFuncNested
import Derived.RangeFuncBound
import Derived.RangeFuncCalls
import Derived.RangeFuncLeaves
namespace Go.Proofs.Ytlkabghpcjlohaa
set_option linter.unusedVariables false
set_option linter.unusedSimpArgs false
open Go.RowKit

def oncePost (R : World → Prop) (W : World) : Exit → Act → World → Prop
  | .ret, _, W' => KeepsOthers W W' ∧ R W'
  | _, _, _ => False

theorem wpIn_rangeFunc_once {F : Fence} {n : Nat} {P : Program} {g : Operand} {ps : Array Tmp} {assign body : Code} {Q : Exit → Act → World → Prop} {a : Act} {w : World}
    (hro : F.round = none) (h1 : 1 ≤ n) {gf : Nat} {lb : Array Value} (hg : a.eval g = .func (.func gf) #[] lb) (hFg : F.fn gf) (eg : ∀ args w, (callFunc gf args).run P w = .ok (.enter gf args) w)
    (Px : Value → World → Prop) (R : World → Prop) (hps : ps.size = 1)
    (hPx : ∀ v W l o o', Px v W → w.heap.size ≤ l → W.heap[l]? = some o → o.isCells = false → Px v (W.putObj l o'))
    (hR : ∀ W l o o', R W → w.heap.size ≤ l → W.heap[l]? = some o → o.isCells = false → R (W.putObj l o'))
    (hiter : ∀ (l : Nat) (W1 : World) (Jx : World → Prop), Below w.heap.size w W1 →
      (∀ v W, Below W1.heap.size W1 W → Px v W → YieldAt F (n - 1 - 1) P l #[v] W fun e W' => e = .returned (.bool false) ∧ Jx W') →
      CallsIn F (n - 1) P gf (#[.func (.yield l) #[] #[]] ++ lb) W1 fun e W' => (∃ v, e = .returned v) ∧ Jx W')
    (a₁ : Value → Act)
    (hassign : ∀ (l : Nat) (v : Value) (W : World) (K : Act → World → Prop), K (a₁ v) W →
      assign.wpIn (F.inRound l) (n - 1 - 1) P (Exit.then K (fun _ _ _ => False)) { tmps := (ps.zip #[v]).foldl (fun t (p, v) => t.setIfInBounds p v) a.tmps, defers := [] } W)
    (hbody : ∀ (l : Nat) (v : Value) (W : World), Below w.heap.size w W → Px v W → body.wpIn (F.inRound l) (n - 1 - 1) P (oncePost R W) (a₁ v) W)
    (hstop : ∀ (D : Nat) (W : World), w.heap.size ≤ D → R W → W.heap[D]? = some (.deferred (some [])) → Code.ret.wpIn F n P Q { a with defers := { target := .collected D, args := #[] } :: a.defers } W) :
    (Code.rangeFunc g ps assign body).wpIn F n P Q a w := by
  refine wpIn_rangeFunc fun fn hfn => ?_
  rw [hro]
  obtain ⟨rec, hrec⟩ : ∃ rec : LoopState → Option Code → Loop, rec = fun st pe => { state := st, pending := pe, fn, tmps := a.tmps, params := ps, assign, body, defers := w.heap.size } := ⟨_, rfl⟩
  obtain ⟨W1, hW1⟩ : ∃ W1, (w.alloc (.deferred (some []))).alloc (.loop (rec .ready none)) = W1 := ⟨_, rfl⟩
  have hL1 : W1.heap[w.heap.size + 1]? = some (.loop (rec .ready none)) := by
    have h9 := World.alloc_heap_new (w.alloc (.deferred (some []))) (.loop (rec .ready none))
    rw [World.size_alloc] at h9
    rw [← hW1]; exact h9
  have hK1 : W1.heap[w.heap.size]? = some (.deferred (some [])) := by
    rw [← hW1]; exact (Below.heap_alloc _ _ _ (by simp)).trans (World.alloc_heap_new w _)
  have hb1 : Below w.heap.size w W1 := by
    rw [← hW1]; exact ((Below.refl _ w).alloc (Nat.le_refl _) _).alloc (by simp) _
  have hs1 : W1.heap.size = w.heap.size + 2 := by rw [← hW1]; simp
  refine ⟨w.heap.size + 1, [{ target := .collected w.heap.size, args := #[] }], W1, { target := .fn (.func gf) lb, args := #[.func (.yield (w.heap.size + 1)) #[] #[]] }, W1, gf,
    #[.func (.yield (w.heap.size + 1)) #[] #[]] ++ lb, W1, ?_, ?_, ?_, ?_, fun _ => h1, ?_⟩
  · rw [← hW1, hrec]; exact run_enterLoop_outer _ _ _ _ _
  · simp only [resolve, hg]
    simp [go_sem]
  · intro f' hf'; simp [Target.leads] at hf'; subst hf'; exact hFg
  · simp [invoke, go_sem, eg]
  · refine (hiter (w.heap.size + 1) W1 (fun W => R W ∧ W.heap[w.heap.size + 1]? = some (.loop (rec .done (some .ret))) ∧ W.heap[w.heap.size]? = some (.deferred (some []))) hb1 ?_).mono ?_
    · intro v W hbW hpx
      have hl : W.heap[w.heap.size + 1]? = some (.loop (rec .ready none)) := (hbW.block _ (by omega)).trans hL1
      have hk : W.heap[w.heap.size]? = some (.deferred (some [])) := (hbW.block _ (by omega)).trans hK1
      have hlt : w.heap.size + 1 < W.heap.size := (Array.getElem?_eq_some_iff.1 hl).1
      have hy := run_yield (P := P) (args := #[v]) hl (by rw [hrec]; simp [hps])
      rw [hrec] at hy
      refine ⟨fn, _, assign, body, hy, roundIn_of_wpIn hfn (hassign _ v W _ ⟨_, run_beginRound hl (by rw [hrec]), ?_⟩)⟩
      have hl2 : (W.putObj (w.heap.size + 1) (.loop { rec .ready none with state := .busy })).heap[w.heap.size + 1]? = some (.loop { rec .ready none with state := .busy }) := World.putObj_heap_same hlt
      have hk2 : (W.putObj (w.heap.size + 1) (.loop { rec .ready none with state := .busy })).heap[w.heap.size]? = some (.deferred (some [])) := (World.putObj_heap_other (by omega)).trans hk
      have hbw2 : Below w.heap.size w (W.putObj (w.heap.size + 1) (.loop { rec .ready none with state := .busy })) :=
        (hb1.trans (hbW.mono (by omega))).trans (belowK_b (w := w) (Nat.le_refl _) W _ _ _ (by omega) hl rfl rfl)
      refine wpIn_mono (hbody _ v _ hbw2 (hPx v W _ _ _ hpx (by omega) hl rfl)) ?_
      rintro e a3 W3 hp
      cases e with
      | ret =>
        obtain ⟨hk3, hr3⟩ := hp
        have hl3 := hk3.same _ _ hl2 rfl
        have he := run_endRound (P := P) (some .ret) hl3
        rw [hrec] at he hl3
        refine ⟨_, _, he, rfl, hR W3 _ _ _ hr3 (by omega) hl3 rfl, ?_, ?_⟩
        · rw [hrec]; exact World.putObj_heap_same (Array.getElem?_eq_some_iff.1 hl3).1
        · exact (World.putObj_heap_other (by omega)).trans (hk3.same _ _ hk2 rfl)
      | normal => exact hp.elim
      | exit id => exact hp.elim
      | goto t => exact hp.elim
      | panic ch => exact hp.elim
      | outgrown => exact hp.elim
    · rintro e W2 ⟨⟨v, rfl⟩, hr, hl, hk⟩
      have he := run_endLoop (P := P) hl (by rw [hrec]; simp)
      rw [hrec] at he
      exact ⟨some .ret, _, he, hstop _ _ (Nat.le_refl _) (hR W2 _ _ _ hr (by omega) hl rfl) ((World.putObj_heap_other (by omega)).trans hk)⟩
end Go.Proofs.Ytlkabghpcjlohaa
