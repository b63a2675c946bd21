/- The reference of layer 8: the cells of a line. -/
import Derived.Test.YtlkabghpcjlohaaDoorT14
import Derived.WalkMore
namespace Go.Proofs.YtlkabghpcjlohaaDoor
set_option linter.unusedVariables false
set_option linter.unusedSimpArgs false
open Go.RowKit Go.Lib

abbrev clV (c : Cl) : List Value := [.bool c.1, .bool c.2.1, .bool c.2.2]
def cellsV (cs : List Cl) : List Value := (cs.map clV).flatten
theorem cellsV_snoc (cs : List Cl) (c : Cl) : cellsV (cs ++ [c]) = cellsV cs ++ clV c := by simp [cellsV]
theorem cellsV_len : ∀ cs : List Cl, (cellsV cs).length = cs.length * 3
  | [] => rfl
  | c :: cs => by
    have := cellsV_len cs
    have e : cellsV (c :: cs) = clV c ++ cellsV cs := rfl
    rw [e, List.length_append, this, List.length_cons]
    simp
    omega
theorem cellsV_last (ys : List Cl) (c : Cl) : (cellsV (ys ++ [c]))[ys.length * 3]? = some (.bool c.1) ∧ (cellsV (ys ++ [c]))[ys.length * 3 + 1]? = some (.bool c.2.1) ∧ (cellsV (ys ++ [c]))[ys.length * 3 + 2]? = some (.bool c.2.2) := by
  rw [cellsV_snoc]
  have h := cellsV_len ys
  refine ⟨?_, ?_, ?_⟩
  · rw [List.getElem?_append_right (by omega), h, Nat.sub_self]; rfl
  · rw [List.getElem?_append_right (by omega), h, Nat.add_sub_cancel_left]; rfl
  · rw [List.getElem?_append_right (by omega), h, Nat.add_sub_cancel_left]; rfl
theorem cellsV_set1 (ys : List Cl) (c : Cl) (x : Bool) : (cellsV (ys ++ [c])).set (ys.length * 3 + 1) (.bool x) = cellsV (ys ++ [(c.1, x, c.2.2)]) := by
  rw [cellsV_snoc, cellsV_snoc]
  have h := cellsV_len ys
  rw [List.set_append_right _ _ (by omega), h, Nat.add_sub_cancel_left]
  rfl
theorem cellsV_set2 (ys : List Cl) (c : Cl) (x : Bool) : (cellsV (ys ++ [c])).set (ys.length * 3 + 2) (.bool x) = cellsV (ys ++ [(c.1, c.2.1, x)]) := by
  rw [cellsV_snoc, cellsV_snoc]
  have h := cellsV_len ys
  rw [List.set_append_right _ _ (by omega), h, Nat.add_sub_cancel_left]
  rfl
theorem infoCell : (Tryd.prog.info? 88).map (fun i => (i.zero, i.size, i.bytes)) = some (some (.agg #[.bool false, .bool false, .bool false]), 3, 3) := by kernel_rfl

/-- the text's bytes from p to e -/
abbrev segL (s : ByteArray) (p e : Nat) : List UInt8 := ((bl s).drop p).take (e - p)
/-- a line ends at e -/
structure LnEnd (s : ByteArray) (f e : Nat) : Prop where
  fe : f ≤ e
  he : e ≤ s.size
  no : ∀ k, f ≤ k → k < e → (bl s)[k]? ≠ some 10
  fin : e = s.size ∨ (bl s)[e]? = some 10
theorem seg_step (s : ByteArray) (p f e : Nat) (h : LnEnd s f e) (hfp : f ≤ p) (hp : p < e) :
    chop (segL s p e) = ((Utf8.decode s p).1, (segL s p e).take (Utf8.decode s p).2) :: chop (segL s (p + (Utf8.decode s p).2) e) ∧ p + (Utf8.decode s p).2 ≤ e ∧ ((segL s p e).take (Utf8.decode s p).2).length = (Utf8.decode s p).2 ∧ 1 ≤ (Utf8.decode s p).2 ∧ (Utf8.decode s p).1 ≠ 10 ∧ (Utf8.decode s p).1 ≤ 1114111 := by
  have he := h.he
  have hlen : (segL s p e).length = e - p := by unfold segL; rw [List.length_take, List.length_drop, bl_length]; omega
  have hne : segL s p e ≠ [] := by intro h2; rw [h2, List.length_nil] at hlen; omega
  have hdec : decodeL ((bl s).drop p) = decodeL (segL s p e) := by
    rcases h.fin with h1 | h1
    · unfold segL
      rw [List.take_of_length_le (by rw [List.length_drop, bl_length]; omega)]
    · have hlt : e < (bl s).length := (List.getElem?_eq_some_iff.1 h1).1
      have e1 : (bl s).drop p = segL s p e ++ 10 :: (bl s).drop (e + 1) := by
        have h2 : ((bl s).drop p).drop (e - p) = 10 :: (bl s).drop (e + 1) := by
          rw [List.drop_drop, show p + (e - p) = e by omega]
          have h3 := List.drop_eq_getElem_cons hlt
          rw [List.getElem?_eq_getElem hlt] at h1
          injection h1 with h1
          rw [h1] at h3
          exact h3
        rw [← h2, List.take_append_drop]
      rw [e1, dec_ascii (segL s p e) _ 10 hne (by decide)]
  rw [dec_at, hdec]
  have hw := wd_le (segL s p e) hne
  have hw1 := wd_pos (segL s p e)
  have hno : (10 : UInt8) ∉ segL s p e := by
    intro h2
    obtain ⟨k, hk, hkk⟩ := List.getElem_of_mem h2
    rw [hlen] at hk
    unfold segL at hkk
    rw [List.getElem_take, List.getElem_drop] at hkk
    exact h.no (p + k) (by omega) (by omega) (by rw [List.getElem?_eq_getElem (by rw [bl_length]; omega), hkk])
  have hch := chop_ne hne
  have hdr : (segL s p e).drop (wd (segL s p e)) = segL s (p + wd (segL s p e)) e := by
    show (((bl s).drop p).take (e - p)).drop _ = ((bl s).drop _).take _
    rw [List.drop_take, List.drop_drop]
    congr 1
    omega
  refine ⟨?_, ?_, ?_, hw1, ?_, rn_le _⟩
  · show chop (segL s p e) = (rn (segL s p e), (segL s p e).take (wd (segL s p e))) :: chop (segL s (p + wd (segL s p e)) e)
    rw [← hdr]
    exact hch
  · show p + wd (segL s p e) ≤ e
    omega
  · show ((segL s p e).take (wd (segL s p e))).length = wd (segL s p e)
    rw [List.length_take]; omega
  · exact fun h2 => hno (rn10 _ hne h2)
/-- what is answered of a line -/
def contC (s : ByteArray) (h p e : Nat) (cs : List Cl) : Ln := runC h (chop (segL s p e)) p cs
theorem contC_step (s : ByteArray) (h p f e : Nat) (cs : List Cl) (hl : LnEnd s f e) (hfp : f ≤ p) (hp : p < e) :
    contC s h p e cs = (stepC h cs p (Utf8.decode s p).1).then fun t => contC s h (p + (Utf8.decode s p).2) e t := by
  obtain ⟨h1, h2, h3, _⟩ := seg_step s p f e hl hfp hp
  unfold contC
  rw [h1, runC, h3]
theorem contC_end (s : ByteArray) (h p : Nat) (cs : List Cl) : contC s h p p cs = .good cs := by
  unfold contC segL
  rw [Nat.sub_self, List.take_zero, chop_nil, runC]
def LinePost (s : ByteArray) (h f e : Nat) (w : World) (en : Ending) (w' : World) : Prop :=
  Below w.heap.size w w' ∧ match contC s h f e [] with
    | .bad a er => en = .returned (.tuple #[.slice none 0 0, .int .i64 (a : Nat), .int .i64 (er : Nat)])
    | .good cs => cs.length ≤ 16 ∧ ∃ v, en = .returned (.tuple #[v, .int .i64 0, .int .i64 0]) ∧ w'.ownsRow w.heap.size 88 3 v cs.length (cellsV cs)
theorem LinePost.bad {s : ByteArray} {h f e : Nat} {w w' : World} {a er : Nat} (hc : contC s h f e [] = .bad a er) (hb : Below w.heap.size w w') : LinePost s h f e w (.returned (.tuple #[.slice none 0 0, .int .i64 (a : Nat), .int .i64 (er : Nat)])) w' := by
  unfold LinePost
  rw [hc]
  exact ⟨hb, rfl⟩
theorem LinePost.good {s : ByteArray} {h f e : Nat} {w w' : World} {cs : List Cl} {v : Value} (hc : contC s h f e [] = .good cs) (hb : Below w.heap.size w w') (hl : cs.length ≤ 16) (ho : w'.ownsRow w.heap.size 88 3 v cs.length (cellsV cs)) : LinePost s h f e w (.returned (.tuple #[v, .int .i64 0, .int .i64 0])) w' := by
  unfold LinePost
  rw [hc]
  exact ⟨hb, hl, v, rfl, ho⟩
theorem own_form3 {w : World} {B e : Nat} {v : Value} {n : Nat} {xs : List Value} (h : w.ownsRow B e 3 v n xs) : ∃ A c, v = .slice A n c := by
  rcases h.2 with ⟨rfl, rfl⟩ | ⟨g, cap, cur, rfl, _⟩
  · exact ⟨_, _, rfl⟩
  · exact ⟨_, _, rfl⟩
theorem own_head3 {w : World} {B e n : Nat} {v : Value} {xs : List Value} (h : w.ownsRow B e 3 v n xs) (hn : 0 < n) : ∃ g cap, v = .slice (some ⟨g, 0, none⟩) n cap ∧ B ≤ g := by
  rcases h.2 with ⟨_, rfl⟩ | ⟨g, cap, cur, rfl, hb, _⟩
  · omega
  · exact ⟨g, cap, rfl, hb⟩
theorem news3 {W : World} {x y z : Value} {t : TypeId} : ∀ j v, [x, y, z][j]? = some v → (W.alloc (.cells #[x, y, z] t)).cell? ((⟨W.heap.size, 0, none⟩ : Addr).add j) = some v := by
  intro j v hj
  have h9 := World.alloc_heap_new W (.cells #[x, y, z] t)
  have e9 : (⟨W.heap.size, 0, none⟩ : Addr).add j = ⟨W.heap.size, j, none⟩ := by unfold Addr.add; split <;> simp_all
  rw [e9, Lib.cell_of_heap h9 j]
  match j, hj with
  | 0, hj => simpa using hj
  | 1, hj => simpa using hj
  | 2, hj => simpa using hj
  | j + 3, hj => simp at hj
end Go.Proofs.YtlkabghpcjlohaaDoor
