/- Package alpha: Each's closure from its start, through all its ways; the ways that were seen, in memory. -/
import Derived.Test.YtlkabghpcjlohaaX10
import Derived.Laws.EntriesVeiled
namespace Go.Proofs.Ytlkabghpcjlohaa
set_option linter.unusedVariables false
set_option linter.unusedSimpArgs false
open Go.RowKit Go.Lib Go.Shelf

theorem Each_any (p : Nat) (s : ByteArray) (w : World) :
    Calls Try.prog 62 #[.pointer (some ⟨p, 0, none⟩), .string s] w fun e w' => e = .returned (.func (.func 95) #[] #[.pointer (some ⟨w.heap.size, 0, none⟩), .pointer (some ⟨w.heap.size + 1, 0, none⟩)]) ∧ w' = (w.alloc (.cells #[.pointer (some ⟨p, 0, none⟩)] 48)).alloc (.cells #[.string s] 9) := by
  go_enter Try.func62, Try.ntmps62
  go_wp2
  go_ret
  exact ⟨rfl, rfl⟩
/-- the iterator's first blocks: those ahead of it, and its own -/
def M1 (M0 : Nat → Prop) (a : Nat) (z : Nat) : Nat → Prop := fun k => M0 k ∨ (a ≤ k ∧ k < z)

set_option maxHeartbeats 8000000 in
set_option maxRecDepth 100000 in
theorem each1_all {B p : Nat} {xs : List (List UInt8)} {o : List Nat} {s : ByteArray} {lp bs ba m C0 : Nat} {W1 : World} {J : Told} {Jx : World → Prop} {stop : Nat → Bool} {M0 : Nat → Prop} (hA : AlphAt B p xs o W1)
    (hL : Lets xs) (hO : Ord xs o) (hn : xs.length ≤ 1000) (hx : ∀ x ∈ xs, x.length ≤ 12) (hs : s.size ≤ 1048576)
    (es : W1.heap[bs]? = some (.cells #[.string s] 9 (0, 0))) (ea : W1.heap[ba]? = some (.cells #[.pointer (some ⟨p, 0, none⟩)] 48 (0, 0)))
    (hJ : Stable C0 J) (hC0 : C0 ≤ W1.heap.size) (jn : J 0 M0 W1) (hM0 : ∀ k, M0 k → k < W1.heap.size) (hlow : ∀ k, k < B → M0 k) (hms : M0 bs) (hma : M0 ba)
    (hY : ∀ i M v W, J i M W → PxW (waysL xs o (bl s)) C0 i M v W → YieldAt Fence.wide m Try.prog lp #[v] W (yAns M J i (stop i) Jx W)) :
    Calls Try.prog 95 #[.func (.yield lp) #[] #[], .pointer (some ⟨ba, 0, none⟩), .pointer (some ⟨bs, 0, none⟩)] W1 fun e W' => (∃ v, e = .returned v) ∧ ((∃ M, J (waysL xs o (bl s)).length M W' ∧ ∀ q, q < (waysL xs o (bl s)).length → stop q = false) ∨ Jx W') := by
  have hlbs := (Array.getElem?_eq_some_iff.1 es).1
  have hlba := (Array.getElem?_eq_some_iff.1 ea).1
  have hb1 := (Below.refl W1.heap.size W1).alloc (Nat.le_refl _) (.cells #[.func (.yield lp) #[] #[]] 74)
  have hs1 : s = ⟨(bl s).toArray⟩ := (bl_roundtrip s).symm
  have hA1 := hA.below (hb1.mono hA.hB)
  have cC := counts_any hA1 hL hO (bl s) hn hx (by rw [bl_length]; omega)
  rw [← hs1, bl_length, World.size_alloc] at cC
  have CC := Lib.hid cC; clear cC
  have c1 := Lib.cell_of_heap es 0
  have c2 := Lib.cell_of_heap ea 0
  have hyb := World.alloc_heap_new W1 (.cells #[.func (.yield lp) #[] #[]] 74)
  have HYB := Lib.hid hyb; have ES := Lib.hid es; have EA := Lib.hid ea; have HA := Lib.hid hA; have HB1 := Lib.hid hb1
  have HL := Lib.hid hL; have HO := Lib.hid hO; have HX := Lib.hid hx; have HY := Lib.hid hY; have HS1 := Lib.hid hs1
  have HJN := Lib.hid jn; have HM0 := Lib.hid hM0; have HLOW := Lib.hid hlow; have HMS := Lib.hid hms; have HMA := Lib.hid hma
  clear hyb es ea hA hb1 hL hO hx hY hs1 hA1 jn hM0 hlow hms hma
  go_enter Try.func95, Try.ntmps95
  go_wp2_with (go_at_call 92; refine CC.out.mono ?_; rintro e w2 ⟨hb2, n, hn1, rfl, hrow⟩; have HROW := Lib.hid hrow; have HB2 := Lib.hid hb2; have HN := Lib.hid hn1; have z2 := hb2.size; have q5 : ∀ X, ((w2.alloc X).alloc (.cells #[.nilFunc] 110)).cell? ⟨w2.heap.size + 1, 0, none⟩ = some .nilFunc := (fun X => by have := World.alloc_heap_new (w2.alloc X) (.cells #[.nilFunc] 110); rw [World.size_alloc] at this; exact Lib.cell_of_heap this 0); have f5 : ∀ X, ((w2.alloc X).alloc (.cells #[.nilFunc] 110)).frozen? ⟨w2.heap.size + 1, 0, none⟩ = false := (fun X => by have := World.alloc_heap_new (w2.alloc X) (.cells #[.nilFunc] 110); rw [World.size_alloc] at this; exact Lib.frozen_of_heap this 0); clear hrow hb2 hn1)
  have hrow := HROW.out
  have hn1 := HN.out
  subst hn1
  obtain ⟨hb2, hb1⟩ := And.intro HB2.out HB1.out
  have hg := (hrow.lt _ rfl).2
  generalize hO1 : (Obj.cells #[.slice (some ⟨W1.heap.size + 1, 0, none⟩) (s.size + 1) (s.size + 1)] 35 (0, 0)) = O1
  generalize hO2 : (Obj.cells #[.func (.func 96) #[] (caps bs W1.heap.size ba w2.heap.size (w2.heap.size + 1))] 110 (0, 0)) = O2
  have hbc : Below w2.heap.size w2 ((w2.alloc O1).alloc O2) := ((Below.refl _ _).alloc (Nat.le_refl _) O1).alloc (by rw [World.size_alloc]; omega) O2
  have hbd : Below (w2.heap.size + 1) (w2.alloc O1) ((w2.alloc O1).alloc O2) := (Below.refl _ _).alloc (by rw [World.size_alloc]; exact Nat.le_refl _) O2
  have hz : ((w2.alloc O1).alloc O2).heap.size = w2.heap.size + 2 := by rw [World.size_alloc, World.size_alloc]
  have hz1 := World.size_alloc W1 (.cells #[.func (.yield lp) #[] #[]] 74)
  have hw0 : Below W1.heap.size W1 ((w2.alloc O1).alloc O2) := hb1.trans ((hb2.mono (by omega)).trans (hbc.mono (by omega)))
  have hy0 : ((w2.alloc O1).alloc O2).heap[W1.heap.size]? = _ := ((hbc.block _ (by omega)).trans (hb2.block _ (by omega))).trans HYB.out
  have hw1 : ((w2.alloc O1).alloc O2).heap[w2.heap.size]? = some O1 := (hbd.block _ (by omega)).trans (World.alloc_heap_new w2 O1)
  have hd1 : ((w2.alloc O1).alloc O2).heap[w2.heap.size + 1]? = some O2 := by
    have := World.alloc_heap_new (w2.alloc O1) O2
    rw [World.size_alloc] at this
    exact this
  have hcs : ∀ k, k ≤ s.size → ((w2.alloc O1).alloc O2).cell? ⟨W1.heap.size + 1, k, none⟩ = some (.int .i64 (cntL xs ((bl s).drop k) : Nat)) := by
    intro k hk
    refine (hbc.cell (p := ⟨W1.heap.size + 1, k, none⟩) hg).trans ((hrow.cellAt k (by omega)).trans ?_)
    unfold ints
    rw [List.getElem?_map]
    by_cases h0 : k = 0
    · subst h0; rw [rowFrom_at0]; rfl
    · rw [rowFrom_at xs (bl s) _ (by omega) (by rw [bl_length]; exact hk)]; rfl
  have hEE : EnvE B p xs o s lp bs W1.heap.size ba w2.heap.size (w2.heap.size + 1) (w2.heap.size + 2) (W1.heap.size + 1) ((w2.alloc O1).alloc O2) :=
    ⟨(hw0.block _ hlbs).trans ES.out, hy0, (hw0.block _ hlba).trans EA.out, hw1.trans (by rw [hO1]), hd1.trans (by rw [← hO2]), HA.out.below (hw0.mono HA.out.hB), by have := HA.out.hB; omega, hcs, by omega⟩
  have hEM : EnvM B bs W1.heap.size ba w2.heap.size (w2.heap.size + 1) (W1.heap.size + 1) (M1 M0 W1.heap.size (w2.heap.size + 2)) :=
    ⟨fun k hk => .inl (HLOW.out k hk), .inl HMS.out, .inr ⟨by omega, by omega⟩, .inl HMA.out, .inr ⟨by omega, by omega⟩, .inr ⟨by omega, by omega⟩, .inr ⟨by omega, by omega⟩⟩
  have hJ1 : J 0 (M1 M0 W1.heap.size (w2.heap.size + 2)) ((w2.alloc O1).alloc O2) := hJ 0 M0 _ W1 _ HJN.out ⟨hw0.os, hw0.tape, hw0.output, hw0.size, fun k hk _ => hw0.block k hk⟩ (fun k hk => by
    rcases hk with hk | hk
    · exact .inl hk
    · exact .inr hk.1)
  refine (downs_any (f := s.size) (i := 0) (done := []) (dv := .slice none 0 0) (at' := 0) (L := waysL xs o (bl s)) hJ (by omega) HL.out HO.out hn HX.out hs HY.out _ (M1 M0 W1.heap.size (w2.heap.size + 2)) (Nat.zero_le _) (by omega) (Nat.le_refl _) (fun q l h => by rw [List.drop_zero] at h; rw [Nat.zero_add, h]; rfl) hEE hEM hJ1 (World.ownsRow_nil _ _ _ _) (fun k hk => by cases hk) (fun k hk => by
    rcases hk with hk | hk
    · have := HM0.out k hk; have := hw0.size; omega
    · omega) (by omega)).mono ?_
  rintro e w9 ⟨b, rfl, hfin⟩
  rw [List.drop_zero] at hfin
  go_wp2
  go_end0
  rcases hfin with ⟨_, q1, q2, _, _⟩ | ⟨_, q1⟩
  · rw [Nat.zero_add] at q2
    exact ⟨⟨_, rfl⟩, .inl ⟨_, q2, fun q hq => by have := q1 q hq; rwa [Nat.zero_add] at this⟩⟩
  · exact ⟨⟨_, rfl⟩, .inr q1⟩

def All (_ : Nat) : Prop := True
/-- the ways seen, a slice of slices in a box -/
structure SeenAt (L : List (List Nat)) (sb : Nat) (W8 : World) (n : Nat) (M : Nat → Prop) (vsn : Value) (vs : List Value) (W : World) : Prop where
  box : W.heap[sb]? = some (.cells #[vsn] 64 (0, 0))
  own : W.ownsRow W8.heap.size 35 1 vsn n vs
  way : ∀ (q : Nat) (l : List Nat), q < n → L[q]? = some l → ∃ v N, vs[q]? = some v ∧ W.ownsRow N 3 1 v l.length (ints l) ∧ ∀ k, v.ownBlock = some k → ¬ M k
  row : ∀ k, vsn.ownBlock = some k → ¬ M k
  nsb : ¬ M sb
  old : Kpx All (some sb) W8 W
def SeenI (L : List (List Nat)) (sb : Nat) (W8 : World) (n : Nat) (M : Nat → Prop) (W : World) : Prop := ∃ vsn vs, SeenAt L sb W8 n M vsn vs W

theorem seen_stable {L : List (List Nat)} {sb : Nat} {W8 : World} (hsb : sb < W8.heap.size) : Stable W8.heap.size (SeenI L sb W8) := by
  rintro n M M' W W' ⟨vsn, vs, h⟩ hs hM
  have hk : ∀ k, k < W.heap.size → ¬ M k → ¬ M' k := fun k h1 h2 h3 => by
    rcases hM k h3 with h4 | h4
    · exact h2 h4
    · omega
  have hz := h.old.size
  refine ⟨vsn, vs, (hs.block sb (by omega) (.inl hsb)).trans h.box, own_block h.own fun k e => hs.block k (h.own.lt k e).2 (.inr (h.row k e)), fun q l hq hl => ?_, fun k e => hk k (h.own.lt k e).2 (h.row k e), hk sb (by omega) h.nsb,
    ⟨hs.os.trans h.old.os, hs.tape.trans h.old.tape, hs.output.trans h.old.output, Nat.le_trans hz hs.size, fun k h1 h2 h3 => (hs.block k (by omega) (.inl h1)).trans (h.old.block k h1 h2 h3)⟩⟩
  obtain ⟨v, N, e1, e2, e3⟩ := h.way q l hq hl
  exact ⟨v, N, e1, own_block e2 fun k e => hs.block k (e2.lt k e).2 (.inr (e3 k e)), fun k e => hk k (e2.lt k e).2 (e3 k e)⟩
theorem own_putS {W : World} {B e n l : Nat} {v : Value} {xs : List Value} {o : Obj} (o' : Obj) (h : W.ownsRow B e 1 v n xs) (hl : W.heap[l]? = some o) (ho : o.isCells = false) : (W.putObj l o').ownsRow B e 1 v n xs := by
  refine own_block h fun k hk => World.putObj_heap_other ?_
  rintro rfl
  rcases h.2 with ⟨rfl, _⟩ | ⟨g, cap, cur, rfl, _, hg, _⟩
  · cases hk
  · have : g = k := by simpa [Value.ownBlock] using hk
    subst this
    rw [hl] at hg; cases hg; cases ho
theorem seen_put {L : List (List Nat)} {sb : Nat} {W8 : World} (hsb : sb < W8.heap.size) {n : Nat} {M : Nat → Prop} {W : World} {l : Nat} {o o' : Obj} (h : SeenI L sb W8 n M W) (hl : W8.heap.size ≤ l) (ho : W.heap[l]? = some o) (hc : o.isCells = false) : SeenI L sb W8 n M (W.putObj l o') := by
  obtain ⟨vsn, vs, h⟩ := h
  have hg := grownBy_putObj' W l o'
  refine ⟨vsn, vs, (World.putObj_heap_other (by omega)).trans h.box, own_putS o' h.own ho hc, fun q l9 hq hl9 => ?_, h.row, h.nsb, ⟨hg.os.trans h.old.os, hg.tape.trans h.old.tape, hg.output.trans h.old.output, Nat.le_trans h.old.size hg.size, fun k h1 h2 h3 => (World.putObj_heap_other (by omega)).trans (h.old.block k h1 h2 h3)⟩⟩
  obtain ⟨v, N, e1, e2, e3⟩ := h.way q l9 hq hl9
  exact ⟨v, N, e1, own_putS o' e2 ho hc, e3⟩
theorem seen_start {L : List (List Nat)} {sb : Nat} {W8 W : World} {M : Nat → Prop} (hsb : sb < W8.heap.size) (hb : W8.heap[sb]? = some (.cells #[.slice none 0 0] 64 (0, 0))) (hM : ¬ M sb) (h : Below W8.heap.size W8 W) : SeenI L sb W8 0 M W :=
  ⟨.slice none 0 0, [], (h.block sb hsb).trans hb, World.ownsRow_nil _ _ _ _, (fun q l hq => absurd hq (by omega)), (fun k hk => by cases hk), hM, Kpx.of_below h⟩
theorem own_cells {W : World} {B e n : Nat} {v : Value} {xs : List Value} (h : W.ownsRow B e 1 v n xs) {k : Nat} (hk : v.ownBlock = some k) : ∃ cur, W.heap[k]? = some (.cells cur e (0, 0)) := by
  rcases h.2 with ⟨rfl, _⟩ | ⟨g, cap, cur, rfl, _, hg, _⟩
  · cases hk
  · have : g = k := by simpa [Value.ownBlock] using hk
    subst this
    exact ⟨cur, hg⟩
theorem own_ne {W : World} {B e n k : Nat} {v : Value} {xs : List Value} {cs : Array Value} {t : TypeId} (h : W.ownsRow B e 1 v n xs) (hk : v.ownBlock = some k) (h2 : W.heap[k]? = some (.cells cs t (0, 0))) : e = t := by
  obtain ⟨cur, h1⟩ := own_cells h hk
  rw [h1] at h2
  injection h2 with h2
  injection h2

/-- one way more -/
theorem seen_next {L : List (List Nat)} {sb : Nat} {W8 : World} (hsb : sb < W8.heap.size) {n N : Nat} {M : Nat → Prop} {vsn x v' : Value} {vs : List Value} {W w6 w7 : World} {l : List Nat} (h : SeenAt L sb W8 n M vsn vs W) (hb : Below W.heap.size W w6) (hg : w6.grownBy w7 vsn.ownBlock)
    (ho : w7.ownsRow W8.heap.size 35 1 v' (n + 1) (vs ++ [x])) (hat : v'.ownBlock = vsn.ownBlock ∨ v'.ownBlock = some w6.heap.size) (hx : W.ownsRow N 3 1 x l.length (ints l)) (hxM : ∀ k, x.ownBlock = some k → ¬ M k) (hM : ∀ k, M k → k < W.heap.size) (hl : L[n]? = some l) :
    SeenI L sb W8 (n + 1) M (w7.setCell ⟨sb, 0, none⟩ v') ∧ Kps M W (w7.setCell ⟨sb, 0, none⟩ v') ∧ KeepsOthers W (w7.setCell ⟨sb, 0, none⟩ v') := by
  have hz := h.old.size
  have hvl : vs.length = n := by have := h.own.1; omega
  have hv9 : ∀ k, vsn.ownBlock = some k → k ≠ sb := fun k hk e => by subst e; have := own_ne h.own hk h.box; cases this
  have hsb7 : w7.heap[sb]? = some (.cells #[vsn] 64 (0, 0)) := (hg.block sb (by have := hb.size; omega) (fun e => hv9 sb e.symm rfl)).trans ((hb.block sb (by omega)).trans h.box)
  have keep : ∀ k, k < W.heap.size → k ≠ sb → vsn.ownBlock ≠ some k → (w7.setCell ⟨sb, 0, none⟩ v').heap[k]? = W.heap[k]? := fun k h1 h2 h3 =>
    (Below.heap_setCell _ _ _ _ h2).trans ((hg.block k (Nat.lt_of_lt_of_le h1 hb.size) (fun e => h3 e.symm)).trans (hb.block k h1))
  have hsz : W.heap.size ≤ (w7.setCell ⟨sb, 0, none⟩ v').heap.size := by rw [World.size_setCell]; exact Nat.le_trans hb.size hg.size
  have hint : ∀ {v : Value} {N m : Nat} {zs : List Value}, W.ownsRow N 3 1 v m zs → (w7.setCell ⟨sb, 0, none⟩ v').ownsRow N 3 1 v m zs := fun {v N m zs} ho9 => own_block ho9 fun k hk => keep k (ho9.lt k hk).2 (fun e => by subst e; have := own_ne ho9 hk h.box; cases this) (fun e => by obtain ⟨cur, hc⟩ := own_cells h.own e; have := own_ne ho9 hk hc; cases this)
  have hos : (w7.setCell ⟨sb, 0, none⟩ v').os = W.os ∧ (w7.setCell ⟨sb, 0, none⟩ v').tape = W.tape ∧ (w7.setCell ⟨sb, 0, none⟩ v').output = W.output := by
    have h9 := (Below.refl 0 w7).setCell (p := ⟨sb, 0, none⟩) (Nat.zero_le _) v'
    exact ⟨h9.os.trans (hg.os.trans hb.os), h9.tape.trans (hg.tape.trans hb.tape), h9.output.trans (hg.output.trans hb.output)⟩
  refine ⟨⟨v', vs ++ [x], one_setCell hsb7, ?_, ?_, ?_, h.nsb, ?_⟩, ⟨hos.1, hos.2.1, hos.2.2, hsz, fun k h1 h2 => keep k h1 (fun e => h.nsb (e ▸ h2)) (fun e => h.row k e h2)⟩, ⟨hsz, fun k o h1 h2 => ?_⟩⟩
  · refine ownsRow_setCell_other ho (a := ⟨sb, 0, none⟩) (fun e => ?_) _
    have := own_ne ho e hsb7
    cases this
  · intro q l9 hq hl9
    rcases Nat.lt_or_ge q n with h1 | h1
    · obtain ⟨v, N9, e1, e2, e3⟩ := h.way q l9 h1 hl9
      exact ⟨v, N9, by rw [List.getElem?_append_left (by omega)]; exact e1, hint e2, e3⟩
    · obtain rfl : q = n := by omega
      rw [hl] at hl9
      injection hl9 with hl9
      subst hl9
      exact ⟨x, N, by rw [List.getElem?_append_right (by omega), hvl, Nat.sub_self]; rfl, hint hx, hxM⟩
  · intro k hk hm
    rcases hat with e | e
    · exact h.row k (e ▸ hk) hm
    · rw [e] at hk
      injection hk with hk
      have := hM k hm
      have := hb.size
      omega
  · refine ⟨hos.1.trans h.old.os, hos.2.1.trans h.old.tape, hos.2.2.trans h.old.output, Nat.le_trans hz hsz, fun k h1 h2 h3 => (keep k (by omega) (fun e => h3 (by rw [e])) (fun e => ?_)).trans (h.old.block k h1 h2 h3)⟩
    have := (h.own.lt k e).1
    omega
  · have hk := (Array.getElem?_eq_some_iff.1 h1).1
    refine (keep k hk (fun e => ?_) (fun e => ?_)).trans h1
    · subst e; rw [h.box] at h1; cases h1; cases h2
    · obtain ⟨cur, hc⟩ := own_cells h.own e
      rw [hc] at h1; cases h1; cases h2
/-- what a way is: joined it is the text -/
theorem way_facts {xs : List (List UInt8)} {o : List Nat} {s : List UInt8} {l : List Nat} (h : l ∈ waysL xs o s) : l.length ≤ s.length ∧ joinB xs (l.map fun (n : Nat) => (n : Int)) = ⟨s.toArray⟩ ∧ joinE xs (l.map fun (n : Nat) => (n : Int)) = 0 := by
  obtain ⟨h1, h2, h3⟩ := ways_join xs o s.length s (Nat.le_refl _) l h
  have hok : okCells xs.length (l.map fun (n : Nat) => (n : Int)) = true := by
    rw [okCells_iff]
    intro c hc
    obtain ⟨i, hi, rfl⟩ := List.mem_map.1 hc
    have := h2 i hi
    omega
  have hj : joinI xs (l.map fun (n : Nat) => (n : Int)) = s := by
    unfold joinI
    rw [List.map_map]
    exact (congrArg (joinC xs) ((List.map_congr_left (fun x _ => by simp)).trans (List.map_id _))).trans h1
  refine ⟨h3, ?_, ?_⟩
  · unfold joinB; rw [if_pos hok, hj]
  · unfold joinE; rw [if_pos hok]
end Go.Proofs.Ytlkabghpcjlohaa
