/- UtfRanges: two boxed lists that grow side by side while a string is gone through; and what a rune's place and width are. -/
import Derived.Test.YtlkabghpcjlohaaDoorL1
import Derived.Test.YtlkabghpcjlohaaDoorA6
import Derived.Test.YtlkabghpcjlohaaDoorG5
import Derived.OneCell
import Derived.Laws.OwnMore
import Derived.Stop.RegionWithIn
import Derived.Deep.QuietTactic
import Derived.Deep.RegionLaw
import Derived.Maps.AppendAt
namespace Go.Proofs.YtlkabghpcjlohaaDoor
set_option linter.unusedVariables false
set_option linter.unusedSimpArgs false
open Go.RowKit Go.Lib Go.Shelf

/-- append to a slice of the call's own, as one step of a region that draws -/
theorem step_append_own_at {P : Program} {ops : Array Oper} {o : Oper} {a : Act} {w : World} {K : Act → World → Prop} {Q : Exit → Act → World → Prop} {E : Prop}
    (hg : o.guard = none) (s x : Operand) (t : TypeId) (hop : o.op = Op.call { callee := Callee.builtin Builtin.append, args := #[s, x], argTypes := #[t, t] })
    (base : Nat) (e : TypeId) (i : TypeInfo) (z : Value) (size bytes : Nat) (ht : P.underlying t = some (.slice e)) (hi : P.info? e = some i) (hz : i.zero = some z)
    (hsize : i.size = size) (hby : i.bytes = bytes) (hzs : z.cells.size = size) (hsz : 0 < size)
    (v : Value) (n : Nat) (xs : List Value) (hs : a.eval s = v) (hown : w.ownsRow base e size v n xs)
    (ad : Addr) (m c : Nat) (news : List Value) (hx : a.eval x = .slice (some ad) m c) (hl : news.length = m * size) (hnews : ∀ j u, news[j]? = some u → w.cell? (ad.add j) = some u) (h1 : ∀ u ∈ news, u.oneCell' = true)
    (h63 : n + m ≤ maxLen) (hbytes : (n + m) * bytes ≤ 140737488355328) (hbase : base ≤ w.heap.size)
    (h : ∀ v' w', w'.ownsRow base e size v' (n + m) (xs ++ news) → w.grownBy w' v.ownBlock → (v' = .slice none 0 0 ↔ v = .slice none 0 0 ∧ m = 0) → (v'.ownBlock = v.ownBlock ∨ v'.ownBlock = some w.heap.size) → K (a.put o.dst v') w') :
    if Region.wanted o (yielded ops a.tmps) = true then Oper.wp P o a w K Q else E := by
  have hw : Region.wanted o (yielded ops a.tmps) = true := by simp [Region.wanted, hg]
  rw [if_pos hw]
  obtain ⟨v', w', hr, h2, h3, h4, h5⟩ := run_append_own_at (P := P) w base t o.type e i z size bytes ht hi hz hsize hby hzs hsz v n xs hown ad m c news hl hnews h1 h63 hbytes hbase
  unfold Oper.wp execOp
  simp only [hop, resolve, invoke, builtin, Sem.run_bind, Sem.run_pure, Result.andThen_ok, List.map_toArray, List.map_cons, List.map_nil, hs, hx, hr]
  exact h v' w' h2 h3 h4 h5
theorem own_headat {w : World} {B e n : Nat} {A : Option Addr} {c : Nat} {xs : List Value} (h : w.ownsRow B e 1 (.slice A n c) n xs) (hn : 0 < n) : ∃ g, A = some ⟨g, 0, none⟩ ∧ B ≤ g := by
  rcases h.2 with ⟨hv, h0⟩ | ⟨g, cap, cur, hv, hB, _⟩
  · omega
  · injection hv with e1 e2 e3
    exact ⟨g, e1, hB⟩

/-- two slices of ours that share no block -/
def Aprt (a b : Value) : Prop := ∀ j, a.ownBlock = some j → b.ownBlock ≠ some j
theorem Aprt.symm {a b : Value} (h : Aprt a b) : Aprt b a := fun j hj h2 => h j h2 hj
theorem own_aprt {w w' : World} {B e n : Nat} {a b : Value} {xs : List Value} (hb : w.ownsRow B e 1 b n xs) (hg : w.grownBy w' a.ownBlock) (h : Aprt a b) : w'.ownsRow B e 1 b n xs :=
  hb.kept hg (by
    cases hx : b.ownBlock with
    | none => exact .inl rfl
    | some j => exact .inr (fun h2 => h j h2.symm hx))
theorem aprt_new {w : World} {B e n : Nat} {a a' b : Value} {xs : List Value} (hb : w.ownsRow B e 1 b n xs) (hat : a'.ownBlock = a.ownBlock ∨ a'.ownBlock = some w.heap.size) (h : Aprt a b) : Aprt a' b := by
  intro j hj h2
  rcases hat with h3 | h3
  · exact h j (h3 ▸ hj) h2
  · have := (hb.lt j h2).2
    rw [h3] at hj
    injection hj with hj
    omega
theorem own_lt_ne {w : World} {B e n k : Nat} {v : Value} {xs : List Value} (h : w.ownsRow B e 1 v n xs) (hk : k < B) : some k ≠ v.ownBlock := by
  intro e1
  have := (h.lt k e1.symm).1
  omega
theorem own_ne_def {w : World} {B e size n k : Nat} {v : Value} {xs : List Value} (h : w.ownsRow B e size v n xs) {l} (hk : w.heap[k]? = some (.deferred l)) : some k ≠ v.ownBlock := by
  rcases h.2 with ⟨rfl, _⟩ | ⟨g, cap, cur, rfl, _, hg, _⟩
  · simp [Value.ownBlock]
  · simp only [Value.ownBlock, ne_eq, Option.some.injEq]
    rintro rfl
    rw [hk] at hg; cases hg
theorem results_cell_bool {fn : Func} {p : Tmp} {B : Nat} {b : Bool} {w : World} {tmps : Array Value} (h : fn.results = #[.cell p 4]) (hp : tmps.getD p undef = .pointer (some ⟨B, 0, none⟩)) (hc : w.cell? ⟨B, 0, none⟩ = some (.bool b)) :
    (results fn tmps).run Tryd.prog w = .ok (.bool b) w := by
  have hp' : tmps[p]?.getD undef = .pointer (some ⟨B, 0, none⟩) := by simpa using hp
  simp [results, h, hp', go_sem, hc]
/-- a string gone through, two boxes, each with a slice of the call's own -/
structure RW (A : Nat) (s : ByteArray) (pos : Nat) (ps rs : List Nat) (W : World) (v u : Value) : Prop where
  it : W.heap[A + 2]? = some (.stringIter s pos)
  cv : W.heap[A]? = some (.cells #[v] 29 (0, 0))
  cu : W.heap[A + 1]? = some (.cells #[u] 30 (0, 0))
  ov : W.ownsRow (A + 3) 3 1 v ps.length (ints ps)
  ou : W.ownsRow (A + 3) 21 1 u rs.length (runeVs rs)
  ap : Aprt v u
theorem RW.lt {A pos : Nat} {s : ByteArray} {ps rs : List Nat} {W : World} {v u : Value} (h : RW A s pos ps rs W v u) : A + 2 < W.heap.size := lt_of_block h.it
theorem RW.iter {A pos : Nat} {s : ByteArray} {ps rs : List Nat} {W : World} {v u : Value} (h : RW A s pos ps rs W v u) (p' : Nat) : RW A s p' ps rs (W.iterAt (A + 2) s p') v u :=
  ⟨Lib.iterAt_heap W (A + 2) s pos p' h.it, (iterAt_other W (A + 2) A s p' (by omega)).trans h.cv, (iterAt_other W (A + 2) (A + 1) s p' (by omega)).trans h.cu, own_iterAt h.ov h.it p', own_iterAt h.ou h.it p', h.ap⟩
theorem RW.alloc {A pos : Nat} {s : ByteArray} {ps rs : List Nat} {W : World} {v u : Value} (h : RW A s pos ps rs W v u) (o : Obj) : RW A s pos ps rs (W.alloc o) v u := by
  have hl := h.lt
  exact ⟨(Below.heap_alloc _ _ _ (by omega)).trans h.it, (Below.heap_alloc _ _ _ (by omega)).trans h.cv, (Below.heap_alloc _ _ _ (by omega)).trans h.cu, h.ov.alloc _, h.ou.alloc _, h.ap⟩
/-- behind the first append, ahead of its store -/
theorem RW.mid {A pos : Nat} {s : ByteArray} {ps rs : List Nat} {W W2 : World} {v u : Value} (h : RW A s pos ps rs W v u) (hg : W.grownBy W2 v.ownBlock) :
    W2.heap[A]? = some (.cells #[v] 29 (0, 0)) := (hg.block A (by have := h.lt; omega) (own_lt_ne h.ov (by omega))).trans h.cv
theorem RW.mid2 {A pos : Nat} {s : ByteArray} {ps rs : List Nat} {W W2 : World} {v u : Value} (h : RW A s pos ps rs W v u) (hg : W.grownBy W2 u.ownBlock) :
    W2.heap[A + 1]? = some (.cells #[u] 30 (0, 0)) := (hg.block (A + 1) (by have := h.lt; omega) (own_lt_ne h.ou (by omega))).trans h.cu
theorem RW.put1 {A pos : Nat} {s : ByteArray} {ps ps' rs : List Nat} {W W2 : World} {v v' u : Value} (h : RW A s pos ps rs W v u) (hown : W2.ownsRow (A + 3) 3 1 v' ps'.length (ints ps'))
    (hg : W.grownBy W2 v.ownBlock) (hat : v'.ownBlock = v.ownBlock ∨ v'.ownBlock = some W.heap.size) : RW A s pos ps' rs (W2.setCell ⟨A, 0, none⟩ v') v' u := by
  have hl := h.lt
  have o2 := own_aprt h.ou hg h.ap
  have a2 := aprt_new h.ou hat h.ap
  refine ⟨(heap_setCell_other W2 _ (A + 2) v' (by simp only; omega)).trans ((hg.block (A + 2) hl (own_lt_ne h.ov (by omega))).trans h.it), one_setCell (h.mid hg), (heap_setCell_other W2 _ (A + 1) v' (by simp only; omega)).trans ((hg.block (A + 1) (by omega) (own_lt_ne h.ov (by omega))).trans h.cu),
    ownsRow_setCell_below hown (by simp) _, ownsRow_setCell_below o2 (by simp) _, a2⟩
theorem RW.put2 {A pos : Nat} {s : ByteArray} {ps rs rs' : List Nat} {W W2 : World} {v u u' : Value} (h : RW A s pos ps rs W v u) (hown : W2.ownsRow (A + 3) 21 1 u' rs'.length (runeVs rs'))
    (hg : W.grownBy W2 u.ownBlock) (hat : u'.ownBlock = u.ownBlock ∨ u'.ownBlock = some W.heap.size) : RW A s pos ps rs' (W2.setCell ⟨A + 1, 0, none⟩ u') v u' := by
  have hl := h.lt
  have o2 := own_aprt h.ov hg h.ap.symm
  have a2 := (aprt_new h.ov hat h.ap.symm).symm
  refine ⟨(heap_setCell_other W2 _ (A + 2) u' (by simp only; omega)).trans ((hg.block (A + 2) hl (own_lt_ne h.ou (by omega))).trans h.it), (heap_setCell_other W2 _ A u' (by simp only; omega)).trans ((hg.block A (by omega) (own_lt_ne h.ou (by omega))).trans h.cv), one_setCell (h.mid2 hg),
    ownsRow_setCell_below o2 (by simp) _, ownsRow_setCell_below hown (by simp) _, a2⟩

/-- the rune and the width at the k-th place -/
theorem stepsFrom_at : ∀ (cs : List (Nat × List UInt8)) (p k : Nat), k < cs.length → (stepsFrom p cs)[k]? = some (p + (glue (cs.take k)).length, (cs.getD k (0, [])).1)
  | [], p, k, h => by simp at h
  | c :: cs, p, 0, h => by simp [stepsFrom, glue]
  | c :: cs, p, k + 1, h => by
    rw [stepsFrom, List.getElem?_cons_succ, stepsFrom_at cs _ k (by simpa using h)]
    simp [glue]
    omega
theorem step_next (l : List UInt8) (k p r : Nat) (h : (steps l)[k]? = some (p, r)) : ∃ wd, nextL l (p : Int) = (r, wd) ∧ p < l.length ∧ 1 ≤ wd ∧
    ((k + 1 = (steps l).length ∧ p + wd = l.length) ∨ (∃ q, (steps l)[k + 1]? = some q ∧ q.1 = p + wd)) := by
  have hk : k < (chop l).length := by rw [← steps_length]; exact (List.getElem?_eq_some_iff.1 h).1
  unfold steps at h
  rw [stepsFrom_at _ _ _ hk] at h
  simp only [Nat.zero_add, Option.some.injEq, Prod.mk.injEq] at h
  obtain ⟨hp, hr⟩ := h
  have hgt := glue_take l k
  have hrest := chop_rest l k
  rw [hp] at hgt hrest
  have hd : (chop l).drop k ≠ [] := by
    intro e; have := congrArg List.length e; rw [List.length_drop, List.length_nil] at this; omega
  have hne : l.drop p ≠ [] := by intro e; rw [e, chop_nil] at hrest; exact hd hrest.symm
  have hpl : p < l.length := by
    rcases Nat.lt_or_ge p l.length with h1 | h1
    · exact h1
    · exact absurd (List.drop_of_length_le h1) hne
  have hc := chop_ne hne
  rw [hrest, List.drop_eq_getElem_cons hk] at hc
  have hc1 := (List.cons.inj hc).1
  have hcd : (chop l).getD k (0, []) = (chop l)[k] := by simp [List.getD, List.getElem?_eq_getElem hk]
  rw [hcd, hc1] at hr
  simp only at hr
  refine ⟨wd (l.drop p), ?_, hpl, wd_pos _, ?_⟩
  · unfold nextL
    rw [if_neg (by omega), Int.toNat_natCast]
    exact Prod.ext (by simpa [rn] using hr) rfl
  · have hwl := wd_le _ hne
    rw [List.length_drop] at hwl
    have hg2 : (glue ((chop l).take (k + 1))).length = p + wd (l.drop p) := by
      rw [List.take_succ_eq_append_getElem hk, glue_append, List.length_append, hp, hc1]
      simp only [glue, List.map_cons, List.map_nil, List.flatten_cons, List.flatten_nil, List.append_nil, List.length_take, List.length_drop]
      omega
    rcases Nat.lt_or_ge (k + 1) (chop l).length with h1 | h1
    · right
      refine ⟨_, stepsFrom_at _ 0 _ h1, ?_⟩
      simp only [Nat.zero_add]
      exact hg2
    · left
      refine ⟨by rw [steps_length]; omega, ?_⟩
      rw [← hg2, List.take_of_length_le (by omega), glue_chop]
end Go.Proofs.YtlkabghpcjlohaaDoor
