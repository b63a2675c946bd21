/- Plain Lean: a grid's text with blanks between its signs, and the other signs, is read as the same grid. -/
import Derived.Test.YtlkabghpcjlohaaDoorP6
namespace Go.Proofs.YtlkabghpcjlohaaDoor
set_option linter.unusedVariables false
set_option linter.unusedSimpArgs false

theorem step_same {r r' : Nat} (h : sg r = sg r') (s : Rd) (p : Nat) : stepS s p r = stepS s p r' := by unfold stepS; rw [h]
theorem reads_same {r r' : Nat} {s t : Rd} (h : sg r = sg r') (k : reads [r] s t) : reads [r'] s t := by
  intro cs rest p f hc
  obtain ⟨c, rfl, hc1⟩ : ∃ c, cs = [c] ∧ c.1 = r' := by
    match cs, hc with
    | [c], hc => exact ⟨c, rfl, by simpa using hc⟩
  obtain ⟨p', f', e⟩ := k [(r, c.2)] rest p f rfl
  refine ⟨p', f', ?_⟩
  rw [← e, List.singleton_append, List.singleton_append, runS, runS, hc1, step_same h]
/-- the byte that tells how a sign is drawn -/
def hb (how : List Nat) (k : Nat) : Nat := if how.length = 0 then 0 else how.getD (k % how.length) 0
def signB (b r : Nat) : List Nat := if r = 35 ∧ b % 2 = 1 then [9632] else if r = 46 ∧ b % 2 = 1 then [9633] else if r = 10 ∧ b % 2 = 1 then [13, 10, 32, 9, 10] else [r]
def drawB (b r : Nat) : List Nat := signB b r ++ if b / 2 % 2 = 1 ∧ signB b r ≠ [10] then [32, 160] else []
def decoB (how : List Nat) (k r : Nat) : List Nat := drawB (hb how k) r
theorem reads_tail {b r : Nat} {s t : Rd} (h : reads (signB b r) s t) : reads (drawB b r) s t := by
  unfold drawB
  split
  · exact reads_append h (show reads [32, 160] t t from reads_append (reads_blank (r := 32) (by decide) t) (reads_blank (r := 160) (by decide) t))
  · rw [List.append_nil]; exact h
theorem decoB_ok (how : List Nat) : Deco (decoB how) := by
  refine ⟨fun k r s t hr h hm => reads_tail ?_, fun k s t h h0 => reads_tail ?_⟩
  · unfold signB
    split
    · rename_i h1; rw [h1.1] at h; exact reads_same (by decide) h
    · split
      · rename_i h1; rw [h1.1] at h; exact reads_same (by decide) h
      · rw [if_neg (by omega)]; exact h
  · unfold signB
    rw [if_neg (by omega), if_neg (by omega)]
    split
    · have h13 := reads_blank (r := 13) (by decide) s
      have h32 := reads_blank (r := 32) (by decide) t
      have h9 := reads_blank (r := 9) (by decide) t
      have h10 := reads_empty t h0
      exact reads_append h13 (reads_append h (reads_append h32 (reads_append h9 h10)))
    · exact h
theorem drawB_mem {b r : Nat} (hr : r = 35 ∨ r = 46 ∨ r = 124 ∨ r = 95 ∨ r = 10) : ∀ x ∈ drawB b r, scalar x := by
  intro x hx
  unfold scalar
  rw [valid_iff]
  have : x < 10000 := by
    unfold drawB at hx
    rcases List.mem_append.1 hx with h | h
    · unfold signB at h
      split at h
      · simp at h; omega
      · split at h
        · simp at h; omega
        · split at h
          · simp at h; omega
          · simp at h; omega
    · split at h
      · simp at h; omega
      · simp at h
  omega
theorem drawB_len (b r : Nat) : (drawB b r).length ≤ 7 := by
  unfold drawB
  rw [List.length_append]
  have h1 : (signB b r).length ≤ 5 := by unfold signB; split <;> (try split) <;> (try split) <;> simp
  split <;> simp <;> omega
theorem decoB_len (how : List Nat) : ∀ (k : Nat) (l : List Nat), (decoR (decoB how) k l).length ≤ 7 * l.length
  | _, [] => by simp [decoR]
  | k, r :: l => by
    have := decoB_len how (k + 1) l
    have := drawB_len (hb how k) r
    simp only [decoR, List.length_append, List.length_cons, decoB]
    omega
theorem decoB_mem (how : List Nat) : ∀ (k : Nat) (l : List Nat), (∀ r ∈ l, r = 35 ∨ r = 46 ∨ r = 124 ∨ r = 95 ∨ r = 10) → ∀ x ∈ decoR (decoB how) k l, scalar x
  | _, [], _ => by simp [decoR]
  | k, r :: l, h => by
    intro x hx
    rw [decoR] at hx
    rcases List.mem_append.1 hx with h1 | h1
    · exact drawB_mem (h r (List.mem_cons_self ..)) x h1
    · exact decoB_mem how (k + 1) l (fun y hy => h y (List.mem_cons_of_mem _ hy)) x h1
/-- all the signs of a grid -/
def allR (g : Gd) : List Nat := printR g (g.H.toNat * g.W.toNat)
theorem allR_len (g : Gd) (hg : OkG g) : (allR g).length ≤ 1024 := by
  have h1 := printR_le g (g.H.toNat * g.W.toNat)
  have := (area_le hg).1
  unfold allR; omega
def drawn (how : List Nat) (g : Gd) (k : Nat) : List UInt8 := encs (decoR (decoB how) 0 ((allR g).take k))
theorem drawn_le (how : List Nat) (g : Gd) (hg : OkG g) (k : Nat) : (drawn how g k).length ≤ 28672 := by
  have h1 := encs_length (decoR (decoB how) 0 ((allR g).take k))
  have h2 := decoB_len how 0 ((allR g).take k)
  have h3 := allR_len g hg
  rw [List.length_take] at h2
  unfold drawn
  omega
theorem drawn_succ (how : List Nat) (g : Gd) {k : Nat} (hk : k < (allR g).length) : drawn how g (k + 1) = drawn how g k ++ encs (drawB (hb how k) (allR g)[k]) := by
  unfold drawn
  rw [List.take_succ_eq_append_getElem hk, decoR_append, encs_append]
  congr 2
  simp only [decoR, List.append_nil, decoB, List.length_take]
  rw [show 0 + min k (allR g).length = k by omega]
theorem drawn_parse (how : List Nat) (g : Gd) (hg : OkG g) : parseL (drawn how g (allR g).length) = .good g := by
  refine parse_deco g hg (decoB how) (decoB_ok how) _ (by have := drawn_le how g hg (allR g).length; omega) ?_
  have := runes_encs (decoR (decoB how) 0 ((allR g).take (allR g).length)) (decoB_mem how _ _ (fun r hr => printR_mem g _ r (List.mem_of_mem_take hr))) []
  rw [List.take_length] at this
  unfold drawn
  rw [List.take_length]
  show _ = decoR (decoB how) 0 (allR g)
  simpa [runes, chop_nil] using this
theorem allR_byte (g : Gd) {k : Nat} (hk : k < (allR g).length) : (printL g)[k]? = some (UInt8.ofNat (allR g)[k]) := by
  have key : ∀ l : List Nat, (∀ r ∈ l, r < 128) → encs l = l.map UInt8.ofNat := by
    intro l
    induction l with
    | nil => intro _; rfl
    | cons r l ih =>
      intro h
      have e : encs (r :: l) = enc (r : Int) ++ encs l := by simp [encs]
      rw [e, enc_ascii r (h r (List.mem_cons_self ..)), ih (fun x hx => h x (List.mem_cons_of_mem _ hx))]
      rfl
  have e : printL g = (allR g).map UInt8.ofNat := key _ (fun r hr => by have := printR_mem g _ r hr; omega)
  rw [e, List.getElem?_map, List.getElem?_eq_getElem hk]
  rfl
theorem allR_size (g : Gd) : (printL g).length = (allR g).length := by
  have key : ∀ l : List Nat, (∀ r ∈ l, r < 128) → (encs l).length = l.length := by
    intro l
    induction l with
    | nil => intro _; rfl
    | cons r l ih =>
      intro h
      have e : encs (r :: l) = enc (r : Int) ++ encs l := by simp [encs]
      rw [e, enc_ascii r (h r (List.mem_cons_self ..)), List.length_append, ih (fun x hx => h x (List.mem_cons_of_mem _ hx))]
      simp; omega
  exact key _ (fun r hr => by have := printR_mem g _ r hr; omega)
theorem allR_mem (g : Gd) {k : Nat} (hk : k < (allR g).length) : (allR g)[k] = 35 ∨ (allR g)[k] = 46 ∨ (allR g)[k] = 124 ∨ (allR g)[k] = 95 ∨ (allR g)[k] = 10 := printR_mem g _ _ (List.getElem_mem hk)
theorem and1 (n : Nat) (h : n < 256) : Go.bits .and .u8 (n : Int) 1 = ((n % 2 : Nat) : Int) := by
  have : ∀ x : Fin 256, Go.bits .and .u8 ((x.val : Nat) : Int) 1 = ((x.val % 2 : Nat) : Int) := by decide +kernel
  exact this ⟨n, h⟩
theorem and2 (n : Nat) (h : n < 256) : Go.bits .and .u8 (n : Int) 2 = ((n / 2 % 2 * 2 : Nat) : Int) := by
  have : ∀ x : Fin 256, Go.bits .and .u8 ((x.val : Nat) : Int) 2 = ((x.val / 2 % 2 * 2 : Nat) : Int) := by decide +kernel
  exact this ⟨n, h⟩
end Go.Proofs.YtlkabghpcjlohaaDoor
