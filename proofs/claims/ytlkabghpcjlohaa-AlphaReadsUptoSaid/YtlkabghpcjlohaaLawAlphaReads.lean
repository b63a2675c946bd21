/- AlphaReads: for every list and every text that together hold at most 1048576 values and letters the call returns true. -/
import Derived.Test.YtlkabghpcjlohaaV8
import Derived.Test.YtlkabghpcjlohaaH9
import Derived.Test.YtlkabghpcjlohaaG5
import Derived.Stop.RegionWithIn
import Derived.Deep.QuietTactic
import Derived.Maps.OwnIn
namespace Go.Proofs.Ytlkabghpcjlohaa
set_option linter.unusedVariables false
set_option linter.unusedSimpArgs false
open Go.RowKit Go.Lib Go.Shelf
attribute [local go_sem] Oper.semAt_some

theorem many3 {F : Fence} {n : Nat} {P : Program} {g : Operand} (i j : Nat) {assign body : Code} {Q : Exit → Act → World → Prop} {a : Act} {w : World}
    (hro : F.round = none) (h1 : 1 ≤ n) {gf : Nat} {lb : Array Value} (hg : a.eval g = .func (.func gf) #[] lb) (hFg : F.fn gf) (eg : ∀ args w, (callFunc gf args).run P w = .ok (.enter gf args) w)
    (I : Told) (Ix : Code → World → Prop) (stop : Nat → Bool) (N : Nat) (M0 : Nat → Prop) (hM0 : ∀ k, M0 k → k < w.heap.size) (Px : Nat → (Nat → Prop) → Value → World → Prop)
    (hI : Stable w.heap.size I) (h0 : ∀ W, Below w.heap.size w W → I 0 M0 W)
    (hIp : ∀ i M W l o o', I i M W → w.heap.size ≤ l → W.heap[l]? = some o → o.isCells = false → I i M (W.putObj l o'))
    (hIx : ∀ c W l o o', Ix c W → w.heap.size ≤ l → W.heap[l]? = some o → o.isCells = false → Ix c (W.putObj l o'))
    (hPx : ∀ i M v W l o o', Px i M v W → w.heap.size ≤ l → W.heap[l]? = some o → o.isCells = false → Px i M v (W.putObj l o'))
    (hiter : ∀ (l : Nat) (W1 : World) (J : Told) (Jx : World → Prop), Below w.heap.size w W1 → Stable w.heap.size J → J 0 M0 W1 →
      (∀ i M v W, J i M W → Px i M v W → YieldAt F (n - 1 - 1) P l #[v] W (yAns M J i (stop i) Jx W)) →
      CallsIn F (n - 1) P gf (#[.func (.yield l) #[] #[]] ++ lb) W1 fun e W' => (∃ v, e = .returned v) ∧ ((∃ M, J N M W') ∨ Jx W'))
    (hassign : ∀ (l : Nat) (v : Value) (W : World) (K : Act → World → Prop), K { tmps := (a.tmps.setIfInBounds i v).setIfInBounds j v, defers := [] } W →
      assign.wpIn (F.inRound l) (n - 1 - 1) P (Exit.then K (fun _ _ _ => False)) { tmps := ((#[i] : Array Tmp).zip #[v]).foldl (fun t (p, v) => t.setIfInBounds p v) a.tmps, defers := [] } W)
    (hbody : ∀ (l k : Nat) (M : Nat → Prop) (v : Value) (W : World), I k M W → Px k M v W → body.wpIn (F.inRound l) (n - 1 - 1) P (manyPost M I k (stop k) Ix W) { tmps := (a.tmps.setIfInBounds i v).setIfInBounds j v, defers := [] } W)
    (hdone : ∀ (D : Nat) (M : Nat → Prop) (W : World), w.heap.size ≤ D → I N M W → W.heap[D]? = some (.deferred (some [])) → Q .normal { a with defers := { target := .collected D, args := #[] } :: a.defers } W)
    (hstop : ∀ (D : Nat) (c : Code) (W : World), w.heap.size ≤ D → Ix c W → W.heap[D]? = some (.deferred (some [])) → c.wpIn F n P Q { a with defers := { target := .collected D, args := #[] } :: a.defers } W) :
    (Code.rangeFunc g #[i] assign body).wpIn F n P Q a w :=
  wpIn_rangeFunc_many hro h1 hg hFg eg I Ix stop N M0 hM0 Px rfl hI h0 hIp hIx hPx hiter (fun v => { tmps := (a.tmps.setIfInBounds i v).setIfInBounds j v, defers := [] }) hassign hbody hdone hstop
theorem results_cell_boolR {fn : Func} {p : Tmp} {B : Nat} {b : Bool} {w : World} {tmps : Array Value} (h : fn.results = #[.cell p 4]) (hp : tmps.getD p undef = .pointer (some ⟨B, 0, none⟩)) (hc : w.cell? ⟨B, 0, none⟩ = some (.bool b)) :
    (results fn tmps).run Try.prog w = .ok (.bool b) w := by
  have hp' : tmps[p]?.getD undef = .pointer (some ⟨B, 0, none⟩) := by simpa using hp
  simp [results, h, hp', go_sem, hc]
theorem read_box {ib : Nat} {W8 : World} (hib : ib < W8.heap.size) {n : Nat} {M : Nat → Prop} {x : Value} {W w5 wr : World} (h : RAt ib W8 n M W) (hb : Below W.heap.size W w5) (hg : w5.grownBy wr x.ownBlock) (hxM : ∀ k, x.ownBlock = some k → ¬ M k ∧ W8.heap.size ≤ k) : wr.heap[ib]? = some (.cells #[.int .i64 (n : Nat)] 3 (0, 0)) := by
  have hz := h.old.size
  exact (hg.block ib (by have := hb.size; omega) (fun e => by have := (hxM ib e.symm).2; omega)).trans ((hb.block ib (by omega)).trans h.box)
theorem below_putR {n₀ : Nat} (W : World) (l : Nat) (o o' : Obj) (hl : n₀ ≤ l) (h : W.heap[l]? = some o) : Below n₀ W (W.putObj l o') :=
  (Below.refl n₀ W).grown (grownBy_putObj' W l o') (by have := (Array.getElem?_eq_some_iff.1 h).1; omega) (fun k e => by cases e; omega)

set_option maxHeartbeats 16000000 in
set_option maxRecDepth 100000 in
theorem alphaReads_any (v0 : Value) (list : List (List UInt8)) (s : ByteArray) (w : World) (s0 : Sl w w.heap.size v0 (strs list)) (z0 : list.flatten.length + list.length ≤ 1048576) (zs : s.size ≤ 1048576) :
    Calls Try.prog 16 #[v0, .string s] w fun e w' => e = .returned (.bool true) ∧ Below w.heap.size w w' := by
  have hz0 := flat_sz z0
  obtain ⟨A0, c0, rfl, hc0, hA0⟩ := s0
  have s0 : Sl w w.heap.size (.slice A0 (strs list).length c0) (strs list) := ⟨A0, c0, rfl, hc0, hA0⟩
  clear hA0
  have hsl : (strs list).length = list.length := List.length_map _
  rw [hsl] at s0 hc0 ⊢
  have CA := Lib.hid (fun w => awake3_any w)
  have CN := Lib.hid (fun (W : World) (h : Sl W w.heap.size (.slice A0 list.length c0) (strs list)) (hB : w.heap.size ≤ W.heap.size) => New_any _ list w.heap.size W h hB hz0 (by omega))
  obtain ⟨at_, er, hE⟩ : ∃ a e, newL list = (a, e) := ⟨_, _, rfl⟩
  have hE1 : (newL list).1 = at_ := by rw [hE]
  have hE2 : (newL list).2 = er := by rw [hE]
  have CRN := Lib.hid (fun (W : World) (h : Sl W w.heap.size (.slice A0 list.length c0) (strs list)) (hB : w.heap.size ≤ W.heap.size) => (show Calls Try.prog 48 #[.slice A0 list.length c0] W fun e w' => e = .returned (.tuple #[.int .i64 (at_ : Nat), .int .i64 er]) ∧ Below W.heap.size W w' by
    have := refNew_any _ list w.heap.size W h hB hz0 (by omega)
    rw [hE1, hE2] at this
    exact this))
  have S0 := Lib.hid s0; have HZ := Lib.hid hz0
  have hle : list.length ≤ 1048576 := by omega
  clear s0 hz0 z0 hsl
  by_cases hbad : er = 0
  · subst hbad
    have hgood := new_good (xs := list) hE2
    have HG := Lib.hid hgood
    have hn1 : list.length ≤ 1000 := by have := hgood.n2; omega
    have hne : ∀ x ∈ list, x ≠ [] ∧ x.length ≤ 12 := fun x hx => ⟨hgood.lets.ne x hx, hgood.sz2 x hx⟩
    have hne1 : ∀ x ∈ list, 1 ≤ x.length ∧ x.length ≤ 12 := fun x hx => ⟨List.length_pos_iff.2 (hne x hx).1, (hne x hx).2⟩
    have HNE1 := Lib.hid hne1
    clear hgood
    have HE1 := Lib.hid hE1; have HE2 := Lib.hid hE2; clear hE hE1 hE2
    have hrt : (⟨(bl s).toArray⟩ : ByteArray) = s := bl_roundtrip s
    obtain ⟨cN, hcN⟩ : ∃ cN, cntL list (bl s) = cN := ⟨_, rfl⟩
    have CWF := Lib.hid (fun (B p : Nat) (o : List Nat) (W : World) (hA : AlphAt B p list o W) (hO : Ord list o) => (show Calls Try.prog 59 #[.pointer (some ⟨p, 0, none⟩), .string s] W fun e w' => e = .returned (.int .i64 (cN : Nat)) ∧ Below W.heap.size W w' by
      have := Ways_any hA HG.out.lets hO (bl s) hn1 HG.out.sz2 (by rw [bl_length]; omega)
      rw [hrt, hcN] at this
      exact this))
    have CRW := Lib.hid (fun (W : World) (h : Sl W w.heap.size (.slice A0 list.length c0) (strs list)) (hB : w.heap.size ≤ W.heap.size) => (show Calls Try.prog 60 #[.slice A0 list.length c0, .string s] W fun e w' => e = .returned (.int .i64 (cN : Nat)) ∧ Below W.heap.size W w' by
      have := refWays_any _ list w.heap.size W h hB (bl s) hn1 HG.out.sz2 (by rw [bl_length]; omega)
      rw [hrt, hcN] at this
      exact this))
    have CRE := Lib.hid (fun (W : World) (h : Sl W w.heap.size (.slice A0 list.length c0) (strs list)) (hB : w.heap.size ≤ W.heap.size) => (show Calls Try.prog 61 #[.slice A0 list.length c0, .string s, .int .i64 40] W (EPost 40 W (waysL list (orderR list) (bl s))) by
      have := refEach_any _ list w.heap.size W h hB (bl s) HG.out.lets hn1 HNE1.out (by rw [bl_length]; omega)
      rw [hrt] at this
      exact this))
    have CRS := Lib.hid (fun (W : World) (h : Sl W w.heap.size (.slice A0 list.length c0) (strs list)) (hB : w.heap.size ≤ W.heap.size) => (show Calls Try.prog 57 #[.slice A0 list.length c0, .string s] W (SplitPost list s W) by
      have := refSplit_any _ list (bl s) w.heap.size W h hB hn1 hne (by rw [bl_length]; omega)
      rw [hrt] at this
      exact this))
    obtain ⟨lst, hlst⟩ : ∃ l, lstL (splitL list (bl s)) = l := ⟨_, rfl⟩
    obtain ⟨pl, hpl⟩ : ∃ l, plL s.size (splitL list (bl s)) = l := ⟨_, rfl⟩
    obtain ⟨er2, her2⟩ : ∃ l, erL (splitL list (bl s)) = l := ⟨_, rfl⟩
    have hll : lst.length ≤ 32 := by
      rw [← hlst]
      cases hsp : splitL list (bl s) with
      | good l => exact (split_join list 32 (bl s) [] l hsp (by simp)).2.1
      | bad a b => simp [lstL]
    have HSU := Lib.hid (fun (W w' : World) (e : Ending) (h : SplitPost list s W e w') => (show Below W.heap.size W w' ∧ ∃ A c, e = .returned (.tuple #[.slice A lst.length c, .int .i64 pl, .int .i64 er2]) ∧ w'.ownsRow W.heap.size 3 1 (.slice A lst.length c) lst.length (ints lst) by
      have := split_uni h
      rw [hlst, hpl, her2] at this
      exact this))
    have CSI := Lib.hid (fun (u v : Value) (W : World) (h1 : Sl W W.heap.size u (ints lst)) (h2 : Sl W W.heap.size v (ints lst)) => (show Calls Try.prog 58 #[u, v] W fun e w' => e = .returned (.bool true) ∧ Below W.heap.size W w' by
      have := SameInts_any u v lst lst W.heap.size W h1 h2 (by omega) (by omega)
      rw [decide_eq_true rfl] at this
      exact this))
    clear hrt hcN hlst hpl her2 hne hne1
    have t5 : (pl != pl) = false := by simp
    have t6 : (er2 != er2) = false := by simp
    have t7 : ((cN : Int) != (cN : Int)) = false := by simp
    refine (callsIn_wide (n := 6)).1 ?_
    refine callsIn_of_wp_marks Try.func16 rfl trivial ?_ rfl
    simp only [Try.ntmps16, List.size_toArray, List.length_cons, List.length_nil, Nat.reduceAdd, Nat.reduceSub, Array.replicate_succ, Array.replicate_zero, List.push_toArray, List.append_toArray, List.nil_append, List.cons_append]
    gi_wp2_with (first
      | (refine ⟨trivial, ?_⟩; gi_at_call 45; refine (callsIn_wide.2 (CA.out _)).mono ?_; rintro e w1 ⟨rfl, hb1⟩; have hs1 := hb1.size; rw [World.size_alloc] at hs1; have hb01 := Below.trans ((Below.refl w.heap.size w).alloc (Nat.le_refl _) (.cells #[.bool false] 4)) (hb1.mono (by rw [World.size_alloc]; omega)); have hr1 := (hb1.block w.heap.size (by rw [World.size_alloc]; omega)).trans (World.alloc_heap_new w _); have S01 := Lib.hid (S0.out.below hb01))
      | (refine ⟨trivial, ?_⟩; gi_at_call 47; refine (callsIn_wide.2 (CN.out _ S01.out (by omega))).mono ?_; rintro e w2 ⟨hb2, ⟨hbd, _⟩ | ⟨_, p, o, hp, rfl, hO, hA⟩⟩; (exact absurd HE2.out hbd); have HA := Lib.hid hA; have HO := Lib.hid hO; have hs2 := hb2.size; have hr2 := (hb2.block w.heap.size (by omega)).trans hr1; have hb02 := hb01.trans (hb2.mono (by omega)); have S02 := Lib.hid (S01.out.below (hb2.mono (by omega))); clear hA hO)
      | (refine ⟨trivial, ?_⟩; gi_at_call 48; refine (callsIn_wide.2 (CRN.out _ S02.out (by omega))).mono ?_; rintro e w3 ⟨rfl, hb3⟩; have hs3 := hb3.size; have hb23 := hb3; have CSP := Lib.hid (Split_any (HA.out.below (hb3.mono HA.out.hB)) HG.out.lets HO.out s hn1 (by omega)))
      | (refine ⟨trivial, ?_⟩; gi_at_call 56; refine (callsIn_wide.2 CSP.out).mono ?_; rintro e w4 hsp; obtain ⟨hb4, A4, c4, rfl, ho4⟩ := HSU.out _ _ _ hsp; clear hsp; have hs4 := hb4.size; have hb24 := hb23.trans (hb4.mono hs3); have S04 := Lib.hid (S02.out.below (hb24.mono (by omega))); have SL4 := Lib.hid (Sl.of_own ho4); clear ho4)
      | (refine ⟨trivial, ?_⟩; gi_at_call 57; refine (callsIn_wide.2 (CRS.out _ S04.out (by omega))).mono ?_; rintro e w5 hsp; obtain ⟨hb5, A5, c5, rfl, ho5⟩ := HSU.out _ _ _ hsp; clear hsp; have hs5 := hb5.size; have hb25 := hb24.trans (hb5.mono (by omega)); have SL5 := Lib.hid (Sl.of_own ho5); have SL45 := Lib.hid ((SL4.out.below hb5).more hs5); clear ho5)
      | (refine ⟨trivial, ?_⟩; gi_at_call 58; refine (callsIn_wide.2 (CSI.out _ _ _ SL45.out SL5.out)).mono ?_; rintro e w6 ⟨rfl, hb6⟩; have hs6 := hb6.size; have hb26 := hb25.trans (hb6.mono (by omega)))
      | (refine ⟨trivial, ?_⟩; gi_at_call 59; refine (callsIn_wide.2 (CWF.out _ _ _ _ (HA.out.below (hb26.mono HA.out.hB)) HO.out)).mono ?_; rintro e w7 ⟨rfl, hb7⟩; have hs7 := hb7.size; have hb27 := hb26.trans (hb7.mono (by omega)); have S07 := Lib.hid (S02.out.below (hb27.mono (by omega))))
      | (refine ⟨trivial, ?_⟩; gi_at_call 60; refine (callsIn_wide.2 (CRW.out _ S07.out (by omega))).mono ?_; rintro e w8 ⟨rfl, hb8⟩; have hs8 := hb8.size; have hb28 := hb27.trans (hb8.mono (by omega)); have S08 := Lib.hid (S02.out.below (hb28.mono (by omega))))
      | (refine ⟨trivial, ?_⟩; gi_at_call 61; refine (callsIn_wide.2 (CRE.out _ S08.out (by omega))).mono ?_; rintro e w9 ⟨hb9, vw, vsw, rfl, how⟩; obtain ⟨Aw, nw, cw, HNW, rfl⟩ := own_formV how.own; have hs9 := hb9.size; have hb29 := hb28.trans (hb9.mono (by omega)); have HOW := Lib.hid how; clear how)
      | (refine ⟨trivial, ?_⟩; gi_at_call 62; refine (callsIn_wide.2 (Each_any p s _)).mono ?_; rintro e w10 ⟨rfl, rfl⟩))
    have hbb := ((Below.refl w9.heap.size w9).alloc (Nat.le_refl _) (.cells #[.slice Aw nw cw] 64)).alloc (by rw [World.size_alloc]; omega) (.cells #[.int .i64 0] 3)
    have hzb : ((w9.alloc (.cells #[.slice Aw nw cw] 64)).alloc (.cells #[.int .i64 0] 3)).heap.size = w9.heap.size + 2 := by rw [World.size_alloc, World.size_alloc]
    have hwa := (((Below.refl (w9.heap.size + 1) (w9.alloc (.cells #[.slice Aw nw cw] 64))).alloc (by rw [World.size_alloc]; omega) (.cells #[.int .i64 0] 3)).block w9.heap.size (by omega)).trans (World.alloc_heap_new w9 (.cells #[.slice Aw nw cw] 64))
    have hia := World.alloc_heap_new (w9.alloc (.cells #[.slice Aw nw cw] 64)) (.cells #[.int .i64 0] 3)
    rw [World.size_alloc] at hia
    generalize ((w9.alloc (.cells #[.slice Aw nw cw] 64)).alloc (.cells #[.int .i64 0] 3)) = wa at *
    have hbE := ((Below.refl wa.heap.size wa).alloc (Nat.le_refl _) (.cells #[.pointer (some ⟨p, 0, none⟩)] 48)).alloc (by rw [World.size_alloc]; omega) (.cells #[.string s] 9)
    have hea := ((Below.refl (wa.heap.size + 1) (wa.alloc (.cells #[.pointer (some ⟨p, 0, none⟩)] 48))).alloc (by rw [World.size_alloc]; omega) (.cells #[.string s] 9)).block wa.heap.size (by omega)
    rw [World.alloc_heap_new] at hea
    have hes := World.alloc_heap_new (wa.alloc (.cells #[.pointer (some ⟨p, 0, none⟩)] 48)) (.cells #[.string s] 9)
    have hz8 : ((wa.alloc (.cells #[.pointer (some ⟨p, 0, none⟩)] 48)).alloc (.cells #[.string s] 9)).heap.size = wa.heap.size + 2 := by rw [World.size_alloc, World.size_alloc]
    rw [World.size_alloc] at hes
    generalize (wa.alloc (.cells #[.pointer (some ⟨p, 0, none⟩)] 48)).alloc (.cells #[.string s] 9) = W8 at *
    have hb2a := hb29.trans (hbb.mono (by omega))
    have hb2e := hb2a.trans (hbE.mono (by omega))
    have hr8 := (hb2e.block w.heap.size (by omega)).trans hr2
    have hb08 := hb02.trans (hb2e.mono (by omega))
    have hw8 := (hbE.block w9.heap.size (by omega)).trans hwa
    have hi8 := (hbE.block (w9.heap.size + 1) (by omega)).trans hia
    have hb98 := hbb.trans (hbE.mono (by omega))
    have HA8 := Lib.hid (HA.out.below (hb2e.mono HA.out.hB))
    rw [hzb] at hea hes
    have hib : w9.heap.size + 1 < W8.heap.size := by omega
    have hLo := ways_ord HG.out.lets HO.out (orderR_ord HNE1.out) (bl s).length (bl s) (Nat.le_refl _)
    have how9 := HOW.out
    rw [← hLo] at how9
    have hnw := HNW.out
    rw [← hLo] at hnw
    have hnw2 : nw = min 40 (waysL list o (bl s)).length := by rw [hnw, List.length_take]
    have HO9 := Lib.hid how9
    have HNW2 := Lib.hid hnw2
    clear how9 hnw hnw2 HOW HNW hLo
    refine many3 114 22 rfl (by omega) (gf := 95) (lb := _) rfl trivial (enters_of Try.func95 (by kernel_rfl) rfl)
      (RAt (w9.heap.size + 1) W8) (fun c W => c = .exit 0 ∧ W.heap[w9.heap.size + 1]? = some (.cells #[.int .i64 40] 3 (0, 0)) ∧ Kpx All (some (w9.heap.size + 1)) W8 W ∧ 40 ≤ (waysL list o (bl s)).length) (fun n => decide (n = 39)) (waysL list o (bl s)).length (fun k => k < W8.heap.size ∧ k ≠ w9.heap.size + 1) (fun k hk => hk.1) (PxW (waysL list o (bl s)) W8.heap.size) (rat_stable hib) (fun W hW => rat_start hib hi8 (fun h => h.2 rfl) hW) (fun i M W l o o' h h1 h2 h3 => rat_put hib h h1) (fun c W l o o' h h1 h2 h3 => ⟨h.1, (World.putObj_heap_other (by omega)).trans h.2.1, kpx_put h.2.2.1 h1, h.2.2.2⟩)
      ?hPx ?hiter ?assign ?body ?don ?sto
    case hPx =>
      rintro i M v W l9 o9 o9' ⟨l, A, c, N, e1, rfl, e3, e4, e5⟩ hl ho9 hc9
      exact ⟨l, A, c, N, e1, rfl, own_putS o9' e3 ho9 hc9, e4, fun k hk => Nat.lt_of_lt_of_le (e5 k hk) (grownBy_putObj' W l9 o9').size⟩
    case hiter =>
      intro l9 W1 J Jx hbW hJ jn hY
      refine callsIn_wide.2 ?_
      have hs9 := hbW.size
      refine (each1_all (stop := fun n => decide (n = 39)) (HA8.out.below (hbW.mono HA8.out.hB)) HG.out.lets HO.out hn1 HG.out.sz2 (by omega) ((hbW.block _ (by omega)).trans hes) ((hbW.block _ (by omega)).trans hea) hJ hs9 jn (fun k hk => by omega) (fun k hk => ⟨by have := HA8.out.hB; omega, by omega⟩) ⟨by omega, by omega⟩ ⟨by omega, by omega⟩ hY).mono ?_
      rintro e W' ⟨h1, ⟨M, h2, _⟩ | h2⟩
      · exact ⟨h1, .inl ⟨M, h2⟩⟩
      · exact ⟨h1, .inr h2⟩
    case assign =>
      intro l9 v W K hK
      gi_wp2
      exact hK
    case body =>
      rintro l9 i M v W hra ⟨l, A, c, N, hli, rfl, ho, hom, hMl⟩
      have hWz := hra.old.size
      have hold : ∀ k, k < W8.heap.size → k ≠ w9.heap.size + 1 → W.heap[k]? = W8.heap[k]? := fun k h1 h2 => hra.old.block k h1 trivial (fun e => h2 (by injection e))
      have hwW := (hold w9.heap.size (by omega) (by omega)).trans hw8
      have b1 := Lib.cell_of_heap hwW 0
      have b2 := Lib.cell_of_heap hra.box 0
      have hiL := (List.getElem?_eq_some_iff.1 hli).1
      have hi39 := hra.le
      have hnw := HNW2.out
      have hin : i < nw := by omega
      have hl9 := (way_facts (List.mem_of_getElem? hli)).1
      rw [bl_length] at hl9
      obtain ⟨uq, Nq, g1, g2⟩ := HO9.out.row i l (by rw [List.getElem?_take, if_pos (by omega)]; exact hli)
      obtain ⟨Aq, cq, rfl⟩ := own_form g2
      have hwn : nw = ((waysL list o (bl s)).take 40).length := by rw [List.length_take]; exact hnw
      have hown9 := HO9.out.own
      rw [← hwn] at hown9
      obtain ⟨gA, capA, ev, _⟩ := own_head1 hown9 (by omega)
      injection ev with ev1 ev2 ev3
      subst ev1; subst ev3
      have hlt9 : ∀ k, k < w9.heap.size → W.heap[k]? = w9.heap[k]? := fun k hk => (hold k (by omega) (by omega)).trans (hb98.block k hk)
      have k1 : W.cell? ⟨gA, i, none⟩ = some (.slice Aq l.length cq) := (World.cell?_of_block (hlt9 gA (hown9.lt gA rfl).2)).trans ((hown9.cellAt i (by omega)).trans g1)
      have g2W : W.ownsRow Nq 3 1 (.slice Aq l.length cq) l.length (ints l) := own_block g2 fun k hk => hlt9 k (g2.lt k hk).2
      have CSJ := SameInts_any (.slice A l.length c) (.slice Aq l.length cq) l l W.heap.size W (Sl.of_own ho) (Sl.of_own g2W) (by omega) (by omega)
      rw [decide_eq_true rfl] at CSJ
      have i0 : (0 : Int) ≤ (i : Int) := by omega
      have i1 : (i : Int) < (nw : Int) := by omega
      have i2 : ¬ (nw : Int) ≤ (i : Int) := by omega
      have i3 : decide (nw ≤ i) = false := decide_eq_false (by omega)
      have HRA := Lib.hid hra; have CSH := Lib.hid CSJ; have HLI := Lib.hid hli; have HOM := Lib.hid hom; have HML := Lib.hid hMl; have HXO := Lib.hid ho
      clear CSJ hra hli hom hMl g2 g2W g1 hown9 hwn hnw ho
      gi_wp2_with (refine ⟨trivial, ?_⟩; gi_at_call 58; refine (callsIn_wide.2 CSH.out).mono ?_; rintro e w11 ⟨rfl, hb11⟩; have hz11 := hb11.size)
      gi_loopw [23, 130] (fun _ u130 wr => ∃ (q : Nat) (ys : List Value), u130 = .int .i64 q ∧ q ≤ l.length ∧ Hid (w11.grownBy wr (Value.slice A l.length c).ownBlock) ∧ Hid (wr.ownsRow N 3 1 (.slice A l.length c) l.length ys)) (fun _ u130 _ => l.length - (intOf u130).toNat)
      case atStart => exact ⟨0, ints l, rfl, Nat.zero_le _, Lib.hid ⟨rfl, rfl, rfl, Nat.le_refl _, fun k _ _ => rfl⟩, Lib.hid (own_block HXO.out fun k hk => hb11.block k (HXO.out.lt k hk).2)⟩
      case round =>
        obtain ⟨q, ys, rfl, hq, HGR, HOX⟩ := hrel
        have hzr := HGR.out.size
        by_cases hlt : q < l.length
        · obtain ⟨gx, capx, ev, _⟩ := own_head1 HOX.out (by omega)
          injection ev with ev1 ev2 ev3
          subst ev1; subst ev3
          have m1 := (HOX.out.cellAt q (by omega)).trans (List.getElem?_eq_getElem (show q < ys.length by have := HOX.out.1; omega))
          have m2 := HOX.out.frozenAt q
          have ST := Lib.hid (HOX.out.stored q (.int .i64 (-1)))
          have j0 : (0 : Int) ≤ (q : Int) := by omega
          have j1 : (q : Int) < (l.length : Int) := by omega
          gi_wp2
          go_roundw
          case measure => (simp [intOf]; omega)
          case rel =>
            refine ⟨q + 1, _, ?_, by omega, Lib.hid (grown_trans (v := .slice (some ⟨gx, 0, none⟩) l.length c) (v1 := .slice (some ⟨gx, 0, none⟩) l.length c) HGR.out ST.out.2 (.inl rfl)), Lib.hid ST.out.1⟩
            go_num
        · obtain rfl : q = l.length := by omega
          have hbx := read_box hib HRA.out hb11 HGR.out HOM.out
          have c7 := Lib.cell_of_heap hbx 0
          have f7 := Lib.frozen_of_heap hbx 0
          have RN := Lib.hid (read_next (z := .int .i64 ((i : Int) + 1)) hib HRA.out hb11 HGR.out HXO.out HOM.out)
          have ecast : ((i + 1 : Nat) : Int) = (i : Int) + 1 := by omega
          have EC := Lib.hid ecast
          clear hbx ecast
          by_cases h39 : i = 39
          · have t40 : ((i : Int) + 1 == 40) = true := by rw [beq_iff_eq]; omega
            have H39 := Lib.hid h39; clear h39
            gi_wp2
            obtain ⟨r1, r2, r3, r4⟩ := RN.out
            have e39 := H39.out
            refine ⟨decide_eq_true e39, r4, rfl, ?_, r2, by omega⟩
            rw [r1, e39]; rfl
          · have t40 : ((i : Int) + 1 == 40) = false := beq_eq_false_iff_ne.2 (by omega)
            have H39 := Lib.hid h39; clear h39
            gi_wp2
            obtain ⟨r1, r2, r3, r4⟩ := RN.out
            have e39 := H39.out
            refine ⟨decide_eq_false e39, r4, r3, ⟨?_, HRA.out.nib, r2, by omega⟩⟩
            rw [r1, EC.out]
    case don =>
      rintro D M W hD hra hK
      have hWz := hra.old.size
      have hold : ∀ k, k < W8.heap.size → k ≠ w9.heap.size + 1 → W.heap[k]? = W8.heap[k]? := fun k h1 h2 => hra.old.block k h1 trivial (fun e => h2 (by injection e))
      have hbelW : Below (w9.heap.size + 1) W8 W := ⟨hra.old.os, hra.old.tape, hra.old.output, hWz, fun k hk => hold k (by omega) (by omega)⟩
      have hrW := (hold w.heap.size (by omega) (by omega)).trans hr8
      have hwW := (hold w9.heap.size (by omega) (by omega)).trans hw8
      have b1 := Lib.cell_of_heap hrW 0
      have b2 := Lib.frozen_of_heap hrW 0
      have b3 := Lib.cell_of_heap hwW 0
      have b4 := Lib.cell_of_heap hra.box 0
      have hle := hra.le
      have hnw := HNW2.out
      have t9 : (((waysL list o (bl s)).length : Int) == (nw : Int)) = true := by rw [beq_iff_eq]; omega
      have HRA := Lib.hid hra
      clear hra hnw
      gi_wp2
      have hK2 : (W.setCell ⟨w.heap.size, 0, none⟩ (.bool true)).heap[D]? = some (.deferred (some [])) := (heap_setCell_other _ _ _ _ (by simp only; omega)).trans hK
      refine ⟨by simp, .inl ⟨_, _, rfl, run_takeDeferred hK2, ?_⟩⟩
      have h5 : ((W.setCell ⟨w.heap.size, 0, none⟩ (.bool true)).putObj D (.deferred none)).heap[w.heap.size]? = some (.cells #[.bool true] 4 (0, 0)) := (World.putObj_heap_other (by omega)).trans (one_setCell hrW)
      have hc5 := Lib.cell_of_heap h5 0
      exact ⟨_, results_cell_boolR rfl rfl hc5, rfl, ((hb08.trans (hbelW.mono (by omega))).setCell (p := ⟨w.heap.size, 0, none⟩) (Nat.le_refl _) _).trans (below_putR _ D _ _ (by omega) hK2)⟩
    case sto =>
      rintro D c W hD ⟨rfl, h1, h2, h3⟩ hK
      have hWz := h2.size
      have hold : ∀ k, k < W8.heap.size → k ≠ w9.heap.size + 1 → W.heap[k]? = W8.heap[k]? := fun k h4 h5 => h2.block k h4 trivial (fun e => h5 (by injection e))
      have hbelW : Below (w9.heap.size + 1) W8 W := ⟨h2.os, h2.tape, h2.output, hWz, fun k hk => hold k (by omega) (by omega)⟩
      have hrW := (hold w.heap.size (by omega) (by omega)).trans hr8
      have hwW := (hold w9.heap.size (by omega) (by omega)).trans hw8
      have b1 := Lib.cell_of_heap hrW 0
      have b2 := Lib.frozen_of_heap hrW 0
      have b3 := Lib.cell_of_heap hwW 0
      have b4 := Lib.cell_of_heap h1 0
      have hnw : nw = 40 := by have := HNW2.out; omega
      have t9 : ((40 : Int) == (nw : Int)) = true := by rw [beq_iff_eq]; omega
      have HNW9 := Lib.hid hnw
      clear hnw h2
      gi_wp2
      have hK2 : (W.setCell ⟨w.heap.size, 0, none⟩ (.bool true)).heap[D]? = some (.deferred (some [])) := (heap_setCell_other _ _ _ _ (by simp only; omega)).trans hK
      refine ⟨by simp, .inl ⟨_, _, rfl, run_takeDeferred hK2, ?_⟩⟩
      have h5 : ((W.setCell ⟨w.heap.size, 0, none⟩ (.bool true)).putObj D (.deferred none)).heap[w.heap.size]? = some (.cells #[.bool true] 4 (0, 0)) := (World.putObj_heap_other (by omega)).trans (one_setCell hrW)
      have hc5 := Lib.cell_of_heap h5 0
      exact ⟨_, results_cell_boolR rfl rfl hc5, rfl, ((hb08.trans (hbelW.mono (by omega))).setCell (p := ⟨w.heap.size, 0, none⟩) (Nat.le_refl _) _).trans (below_putR _ D _ _ (by omega) hK2)⟩
  · have hb0 : (er != 0) = true := by simpa using hbad
    have HE1 := Lib.hid hE1; have HE2 := Lib.hid hE2; clear hE hE1 hE2
    have CSN := Lib.hid (fun W => Split_nil s W (by omega))
    by_cases hsz : 0 < s.size
    · have q1 : (0 : Int) < (s.size : Int) := by omega
      rw [if_pos hsz] at CSN
      clear hsz
      go_enter Try.func16, Try.ntmps16
      go_wp2_with (first
        | (go_at_call 45; refine (CA.out _).mono ?_; rintro e w1 ⟨rfl, hb1⟩; have hs1 := hb1.size; rw [World.size_alloc] at hs1; have hb01 := Below.trans ((Below.refl w.heap.size w).alloc (Nat.le_refl _) (.cells #[.bool false] 4)) (hb1.mono (by rw [World.size_alloc]; omega)); have hr1 := (hb1.block w.heap.size (by rw [World.size_alloc]; omega)).trans (World.alloc_heap_new w _); have S01 := Lib.hid (S0.out.below hb01))
        | (go_at_call 47; refine (CN.out _ S01.out (by omega)).mono ?_; rintro e w2 ⟨hb2, hor⟩; obtain ⟨_, he2⟩ := hor.resolve_right (fun h => hbad (HE2.out.symm.trans h.1)); clear hor; rw [HE1.out, HE2.out] at he2; subst he2; have hs2 := hb2.size; have hr2 := (hb2.block w.heap.size (by omega)).trans hr1; have hb02 := hb01.trans (hb2.mono (by omega)); have S02 := Lib.hid (S01.out.below (hb2.mono (by omega))))
        | (go_at_call 48; refine (CRN.out _ S02.out (by omega)).mono ?_; rintro e w3 ⟨rfl, hb3⟩; have hs3 := hb3.size; have hr3 := (hb3.block w.heap.size (by omega)).trans hr2; have hb03 := hb02.trans (hb3.mono (by omega)); have hc3 := Lib.cell_of_heap hr3 0; have hf3 := Lib.frozen_of_heap hr3 0)
        | (go_at_call 56; refine (CSN.out _).mono ?_; rintro e w4 ⟨rfl, rfl⟩))
      (try simp only [Exit.inBlock, Exit.then])
      have hcell := Lib.cell_of_heap (show (World.setCell _ ⟨w.heap.size, 0, none⟩ (.bool true)).heap[w.heap.size]? = some (.cells #[.bool true] 4 (0, 0)) from one_setCell hr3) 0
      refine bodyPost_ret (results_cell_boolR rfl rfl hcell) rfl ?_
      exact ⟨rfl, hb03.setCell (by simp) _⟩
    · have q1 : ¬ (0 : Int) < (s.size : Int) := by omega
      rw [if_neg hsz] at CSN
      clear hsz
      go_enter Try.func16, Try.ntmps16
      go_wp2_with (first
        | (go_at_call 45; refine (CA.out _).mono ?_; rintro e w1 ⟨rfl, hb1⟩; have hs1 := hb1.size; rw [World.size_alloc] at hs1; have hb01 := Below.trans ((Below.refl w.heap.size w).alloc (Nat.le_refl _) (.cells #[.bool false] 4)) (hb1.mono (by rw [World.size_alloc]; omega)); have hr1 := (hb1.block w.heap.size (by rw [World.size_alloc]; omega)).trans (World.alloc_heap_new w _); have S01 := Lib.hid (S0.out.below hb01))
        | (go_at_call 47; refine (CN.out _ S01.out (by omega)).mono ?_; rintro e w2 ⟨hb2, hor⟩; obtain ⟨_, he2⟩ := hor.resolve_right (fun h => hbad (HE2.out.symm.trans h.1)); clear hor; rw [HE1.out, HE2.out] at he2; subst he2; have hs2 := hb2.size; have hr2 := (hb2.block w.heap.size (by omega)).trans hr1; have hb02 := hb01.trans (hb2.mono (by omega)); have S02 := Lib.hid (S01.out.below (hb2.mono (by omega))))
        | (go_at_call 48; refine (CRN.out _ S02.out (by omega)).mono ?_; rintro e w3 ⟨rfl, hb3⟩; have hs3 := hb3.size; have hr3 := (hb3.block w.heap.size (by omega)).trans hr2; have hb03 := hb02.trans (hb3.mono (by omega)); have hc3 := Lib.cell_of_heap hr3 0; have hf3 := Lib.frozen_of_heap hr3 0)
        | (go_at_call 56; refine (CSN.out _).mono ?_; rintro e w4 ⟨rfl, rfl⟩))
      (try simp only [Exit.inBlock, Exit.then])
      have hcell := Lib.cell_of_heap (show (World.setCell _ ⟨w.heap.size, 0, none⟩ (.bool true)).heap[w.heap.size]? = some (.cells #[.bool true] 4 (0, 0)) from one_setCell hr3) 0
      refine bodyPost_ret (results_cell_boolR rfl rfl hcell) rfl ?_
      exact ⟨rfl, hb03.setCell (by simp) _⟩
end Go.Proofs.Ytlkabghpcjlohaa
