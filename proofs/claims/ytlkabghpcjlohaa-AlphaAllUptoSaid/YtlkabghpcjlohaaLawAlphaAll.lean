/- AlphaAll: for every list and every text that together hold at most 1048576 values and letters the call returns true. -/
import Derived.Test.YtlkabghpcjlohaaX12
import Derived.Test.YtlkabghpcjlohaaH9
import Derived.Test.YtlkabghpcjlohaaG5
import Derived.Stop.RegionWithIn
import Derived.Deep.QuietTactic
import Derived.Maps.OwnIn
namespace Go.Proofs.Ytlkabghpcjlohaa
set_option linter.unusedVariables false
set_option linter.unusedSimpArgs false
open Go.RowKit Go.Lib Go.Shelf
attribute [local go_sem] Oper.semAt_some

theorem many2 {F : Fence} {n : Nat} {P : Program} {g : Operand} (i j : Nat) {assign body : Code} {Q : Exit → Act → World → Prop} {a : Act} {w : World}
    (hro : F.round = none) (h1 : 1 ≤ n) {gf : Nat} {lb : Array Value} (hg : a.eval g = .func (.func gf) #[] lb) (hFg : F.fn gf) (eg : ∀ args w, (callFunc gf args).run P w = .ok (.enter gf args) w)
    (I : Told) (N : Nat) (M0 : Nat → Prop) (hM0 : ∀ k, M0 k → k < w.heap.size) (Px : Nat → (Nat → Prop) → Value → World → Prop)
    (hI : Stable w.heap.size I) (h0 : ∀ W, Below w.heap.size w W → I 0 M0 W)
    (hIp : ∀ i M W l o o', I i M W → w.heap.size ≤ l → W.heap[l]? = some o → o.isCells = false → I i M (W.putObj l o'))
    (hPx : ∀ i M v W l o o', Px i M v W → w.heap.size ≤ l → W.heap[l]? = some o → o.isCells = false → Px i M v (W.putObj l o'))
    (hiter : ∀ (l : Nat) (W1 : World) (J : Told) (Jx : World → Prop), Below w.heap.size w W1 → Stable w.heap.size J → J 0 M0 W1 →
      (∀ i M v W, J i M W → Px i M v W → YieldAt F (n - 1 - 1) P l #[v] W (yAns M J i false Jx W)) →
      CallsIn F (n - 1) P gf (#[.func (.yield l) #[] #[]] ++ lb) W1 fun e W' => (∃ v, e = .returned v) ∧ ((∃ M, J N M W') ∨ Jx W'))
    (hassign : ∀ (l : Nat) (v : Value) (W : World) (K : Act → World → Prop), K { tmps := (a.tmps.setIfInBounds i v).setIfInBounds j v, defers := [] } W →
      assign.wpIn (F.inRound l) (n - 1 - 1) P (Exit.then K (fun _ _ _ => False)) { tmps := ((#[i] : Array Tmp).zip #[v]).foldl (fun t (p, v) => t.setIfInBounds p v) a.tmps, defers := [] } W)
    (hbody : ∀ (l k : Nat) (M : Nat → Prop) (v : Value) (W : World), I k M W → Px k M v W → body.wpIn (F.inRound l) (n - 1 - 1) P (manyPost M I k false (fun _ _ => False) W) { tmps := (a.tmps.setIfInBounds i v).setIfInBounds j v, defers := [] } W)
    (hdone : ∀ (D : Nat) (M : Nat → Prop) (W : World), w.heap.size ≤ D → I N M W → W.heap[D]? = some (.deferred (some [])) → Q .normal { a with defers := { target := .collected D, args := #[] } :: a.defers } W) :
    (Code.rangeFunc g #[i] assign body).wpIn F n P Q a w :=
  wpIn_rangeFunc_many hro h1 hg hFg eg I (fun _ _ => False) (fun _ => false) N M0 hM0 Px rfl hI h0 hIp (fun _ _ _ _ _ h => h.elim) hPx hiter (fun v => { tmps := (a.tmps.setIfInBounds i v).setIfInBounds j v, defers := [] }) hassign hbody hdone (fun _ _ _ _ h => h.elim)
theorem results_cell_boolA {fn : Func} {p : Tmp} {B : Nat} {b : Bool} {w : World} {tmps : Array Value} (h : fn.results = #[.cell p 4]) (hp : tmps.getD p undef = .pointer (some ⟨B, 0, none⟩)) (hc : w.cell? ⟨B, 0, none⟩ = some (.bool b)) :
    (results fn tmps).run Try.prog w = .ok (.bool b) w := by
  have hp' : tmps[p]?.getD undef = .pointer (some ⟨B, 0, none⟩) := by simpa using hp
  simp [results, h, hp', go_sem, hc]
theorem SlA.up {w : World} {B C : Nat} {v : Value} {xs : List Value} (h : Sl w B v xs) (hb : B ≤ C) : Sl w C v xs := by
  obtain ⟨A', c', e, hc, hA⟩ := h
  exact ⟨A', c', e, hc, fun h => let ⟨b, h1, h2, h3⟩ := hA h; ⟨b, h1, by omega, h3⟩⟩
theorem below_putA {n₀ : Nat} (W : World) (l : Nat) (o o' : Obj) (hl : n₀ ≤ l) (h : W.heap[l]? = some o) : Below n₀ W (W.putObj l o') :=
  (Below.refl n₀ W).grown (grownBy_putObj' W l o') (by have := (Array.getElem?_eq_some_iff.1 h).1; omega) (fun k e => by cases e; omega)
theorem seen_box {L : List (List Nat)} {sb : Nat} {W8 W w6 w7 : World} {n : Nat} {M : Nat → Prop} {vsn : Value} {vs : List Value} (hsb : sb < W8.heap.size) (h : SeenAt L sb W8 n M vsn vs W) (hb : Below W.heap.size W w6) (hg : w6.grownBy w7 vsn.ownBlock) : w7.heap[sb]? = some (.cells #[vsn] 64 (0, 0)) := by
  have hz := h.old.size
  refine (hg.block sb (by have := hb.size; omega) (fun e => ?_)).trans ((hb.block sb (by omega)).trans h.box)
  have := own_ne h.own e.symm h.box
  cases this
theorem infoInts : (Try.prog.info? 35).map (fun i => (i.zero, i.size, i.bytes)) = some (some (.slice none 0 0), 1, 24) := by kernel_rfl

set_option maxHeartbeats 16000000 in
set_option maxRecDepth 100000 in
theorem alphaAll_any (v0 : Value) (list : List (List UInt8)) (s : ByteArray) (w : World) (s0 : Sl w w.heap.size v0 (strs list)) (z0 : list.flatten.length + list.length ≤ 1048576) (zs : s.size ≤ 1048576) :
    Calls Try.prog 18 #[v0, .string s] w fun e w' => e = .returned (.bool true) ∧ Below w.heap.size w w' := by
  have hz0 := flat_sz z0
  obtain ⟨A0, c0, rfl, hc0, hA0⟩ := s0
  have s0 : Sl w w.heap.size (.slice A0 (strs list).length c0) (strs list) := ⟨A0, c0, rfl, hc0, hA0⟩
  clear hA0
  have hsl : (strs list).length = list.length := List.length_map _
  rw [hsl] at s0 hc0 ⊢
  have CA := Lib.hid (fun w => awake3_any w)
  have CN := Lib.hid (fun (W : World) (h : Sl W w.heap.size (.slice A0 list.length c0) (strs list)) (hB : w.heap.size ≤ W.heap.size) => New_any _ list w.heap.size W h hB hz0 (by omega))
  have S0 := Lib.hid s0; have HZ := Lib.hid hz0
  have hle : list.length ≤ 1048576 := by omega
  clear s0 hz0 z0 hsl
  obtain ⟨at_, er, hE⟩ : ∃ a e, newL list = (a, e) := ⟨_, _, rfl⟩
  have hE1 : (newL list).1 = at_ := by rw [hE]
  have hE2 : (newL list).2 = er := by rw [hE]
  by_cases hbad : er = 0
  · subst hbad
    have hgood := new_good (xs := list) hE2
    have HG := Lib.hid hgood
    have hn1 : list.length ≤ 1000 := by have := hgood.n2; omega
    clear hgood
    have HE1 := Lib.hid hE1; have HE2 := Lib.hid hE2; clear hE hE1 hE2
    have hrt : (⟨(bl s).toArray⟩ : ByteArray) = s := bl_roundtrip s
    obtain ⟨cN, hcN⟩ : ∃ cN, cntL list (bl s) = cN := ⟨_, rfl⟩
    have CWF := Lib.hid (fun (B p : Nat) (o : List Nat) (W : World) (hA : AlphAt B p list o W) (hO : Ord list o) => (show Calls Try.prog 59 #[.pointer (some ⟨p, 0, none⟩), .string s] W fun e w' => e = .returned (.int .i64 (cN : Nat)) ∧ Below W.heap.size W w' by
      have := Ways_any hA HG.out.lets hO (bl s) hn1 HG.out.sz2 (by rw [bl_length]; omega)
      rw [hrt, hcN] at this
      exact this))
    have hcm := cntL_le list (bl s)
    rw [hcN] at hcm
    unfold maxWays at hcm
    have HCN := Lib.hid hcN; have HRT := Lib.hid hrt
    clear hcN hrt
    by_cases hbig : 300 < cN
    · have tb : (300 : Int) < (cN : Int) := by omega
      go_enter Try.func18, Try.ntmps18
      go_wp2_with (first
        | (go_at_call 45; refine (CA.out _).mono ?_; rintro e w1 ⟨rfl, hb1⟩; have hs1 := hb1.size; rw [World.size_alloc, World.size_alloc] at hs1; have hb01 := Below.trans (((Below.refl w.heap.size w).alloc (Nat.le_refl _) (.cells #[.string s] 9)).alloc (by simp) (.cells #[.bool false] 4)) (hb1.mono (by rw [World.size_alloc, World.size_alloc]; omega)); have hr1 := (hb1.block (w.heap.size + 1) (by rw [World.size_alloc, World.size_alloc]; omega)).trans (show _ = some (.cells #[.bool false] 4 (0, 0)) from (by have := World.alloc_heap_new (w.alloc (.cells #[.string s] 9)) (.cells #[.bool false] 4); rw [World.size_alloc] at this; exact this)); have hx1 := (hb1.block w.heap.size (by rw [World.size_alloc, World.size_alloc]; omega)).trans ((Below.heap_alloc _ _ _ (by simp)).trans (World.alloc_heap_new w (.cells #[.string s] 9))); have S01 := Lib.hid (S0.out.below hb01))
        | (go_at_call 47; refine (CN.out _ S01.out (by omega)).mono ?_; rintro e w2 ⟨hb2, ⟨hbd, _⟩ | ⟨_, p, o, hp, rfl, hO, hA⟩⟩; (exact absurd HE2.out hbd); have HA := Lib.hid hA; have HO := Lib.hid hO; have hs2 := hb2.size; have hr2 := (hb2.block (w.heap.size + 1) (by omega)).trans hr1; have hx2 := (hb2.block w.heap.size (by omega)).trans hx1; have hb02 := hb01.trans (hb2.mono (by omega)); have hab2 := World.alloc_heap_new w2 (.cells #[.pointer (some ⟨p, 0, none⟩)] 48); have hba2 := (Below.refl w2.heap.size w2).alloc (Nat.le_refl _) (.cells #[.pointer (some ⟨p, 0, none⟩)] 48); have hza2 := World.size_alloc w2 (.cells #[.pointer (some ⟨p, 0, none⟩)] 48); have d1 := Lib.cell_of_heap hab2 0; have d2 := Lib.cell_of_heap ((hba2.block w.heap.size (by omega)).trans hx2) 0; clear hA hO)
        | (go_at_call 59; refine (CWF.out _ _ _ _ (HA.out.below (hba2.mono HA.out.hB)) HO.out).mono ?_; rintro e w3 ⟨rfl, hb3⟩; have hs3 := hb3.size; rw [hza2] at hs3; have hb23 := hba2.trans (hb3.mono (by omega)); have hr3 := (hb23.block (w.heap.size + 1) (by omega)).trans hr2; have hb03 := hb02.trans (hb23.mono (by omega)); have hr3a := (Below.heap_alloc w3 (.cells #[.int .i64 (cN : Nat)] 3) (w.heap.size + 1) (by omega)).trans hr3; have d3 := Lib.cell_of_heap hr3a 0; have d4 := Lib.frozen_of_heap hr3a 0))
      (try simp only [Exit.inBlock, Exit.then])
      have hcell := Lib.cell_of_heap (show (World.setCell _ ⟨w.heap.size + 1, 0, none⟩ (.bool true)).heap[w.heap.size + 1]? = some (.cells #[.bool true] 4 (0, 0)) from one_setCell hr3a) 0
      refine bodyPost_ret (results_cell_boolA rfl rfl hcell) rfl ?_
      exact ⟨rfl, (hb03.alloc (by omega) _).setCell (by simp) _⟩
    · have tb : ¬ (300 : Int) < (cN : Int) := by omega
      refine (callsIn_wide (n := 6)).1 ?_
      refine callsIn_of_wp_marks Try.func18 rfl trivial ?_ rfl
      simp only [Try.ntmps18, List.size_toArray, List.length_cons, List.length_nil, Nat.reduceAdd, Nat.reduceSub, Array.replicate_succ, Array.replicate_zero, List.push_toArray, List.append_toArray, List.nil_append, List.cons_append]
      gi_wp2_with (first
        | (refine ⟨trivial, ?_⟩; gi_at_call 45; refine (callsIn_wide.2 (CA.out _)).mono ?_; rintro e w1 ⟨rfl, hb1⟩; have hs1 := hb1.size; rw [World.size_alloc, World.size_alloc] at hs1; have hb01 := Below.trans (((Below.refl w.heap.size w).alloc (Nat.le_refl _) (.cells #[.string s] 9)).alloc (by simp) (.cells #[.bool false] 4)) (hb1.mono (by rw [World.size_alloc, World.size_alloc]; omega)); have hr1 := (hb1.block (w.heap.size + 1) (by rw [World.size_alloc, World.size_alloc]; omega)).trans (show _ = some (.cells #[.bool false] 4 (0, 0)) from (by have := World.alloc_heap_new (w.alloc (.cells #[.string s] 9)) (.cells #[.bool false] 4); rw [World.size_alloc] at this; exact this)); have hx1 := (hb1.block w.heap.size (by rw [World.size_alloc, World.size_alloc]; omega)).trans ((Below.heap_alloc _ _ _ (by simp)).trans (World.alloc_heap_new w (.cells #[.string s] 9))); have S01 := Lib.hid (S0.out.below hb01))
        | (refine ⟨trivial, ?_⟩; gi_at_call 47; refine (callsIn_wide.2 (CN.out _ S01.out (by omega))).mono ?_; rintro e w2 ⟨hb2, ⟨hbd, _⟩ | ⟨_, p, o, hp, rfl, hO, hA⟩⟩; (exact absurd HE2.out hbd); have HA := Lib.hid hA; have HO := Lib.hid hO; have hs2 := hb2.size; have hr2 := (hb2.block (w.heap.size + 1) (by omega)).trans hr1; have hx2 := (hb2.block w.heap.size (by omega)).trans hx1; have hb02 := hb01.trans (hb2.mono (by omega)); have hab2 := World.alloc_heap_new w2 (.cells #[.pointer (some ⟨p, 0, none⟩)] 48); have hba2 := (Below.refl w2.heap.size w2).alloc (Nat.le_refl _) (.cells #[.pointer (some ⟨p, 0, none⟩)] 48); have hza2 := World.size_alloc w2 (.cells #[.pointer (some ⟨p, 0, none⟩)] 48); have d1 := Lib.cell_of_heap hab2 0; have d2 := Lib.cell_of_heap ((hba2.block w.heap.size (by omega)).trans hx2) 0; clear hA hO)
        | (refine ⟨trivial, ?_⟩; gi_at_call 59; refine (callsIn_wide.2 (CWF.out _ _ _ _ (HA.out.below (hba2.mono HA.out.hB)) HO.out)).mono ?_; rintro e w3 ⟨rfl, hb3⟩; have hs3 := hb3.size; rw [hza2] at hs3; have hb23 := hba2.trans (hb3.mono (by omega)); have hr3 := (hb23.block (w.heap.size + 1) (by omega)).trans hr2; have hx3 := (hb23.block w.heap.size (by omega)).trans hx2; have hab3 := (hb3.block w2.heap.size (by omega)).trans hab2; have hbb := ((Below.refl w3.heap.size w3).alloc (Nat.le_refl _) (.cells #[.int .i64 (cN : Nat)] 3)).alloc (by rw [World.size_alloc]; omega) (.cells #[.slice none 0 0] 64); have hzb : ((w3.alloc (.cells #[.int .i64 (cN : Nat)] 3)).alloc (.cells #[.slice none 0 0] 64)).heap.size = w3.heap.size + 2 := (by rw [World.size_alloc, World.size_alloc]); have hn7 := (((Below.refl (w3.heap.size + 1) (w3.alloc (.cells #[.int .i64 (cN : Nat)] 3))).alloc (by rw [World.size_alloc]; omega) (.cells #[.slice none 0 0] 64)).block w3.heap.size (by omega)).trans (World.alloc_heap_new w3 (.cells #[.int .i64 (cN : Nat)] 3)); have hsn7 := World.alloc_heap_new (w3.alloc (.cells #[.int .i64 (cN : Nat)] 3)) (.cells #[.slice none 0 0] 64); rw [World.size_alloc] at hsn7; have hab7 := (hbb.block w2.heap.size (by omega)).trans hab3; have hx7 := (hbb.block w.heap.size (by omega)).trans hx3; have hr7 := (hbb.block (w.heap.size + 1) (by omega)).trans hr3; have d3 := Lib.cell_of_heap hab7 0; have d4 := Lib.cell_of_heap hx7 0; have hb27 := hb23.trans (hbb.mono (by omega)))
        | (refine ⟨trivial, ?_⟩; gi_at_call 62; refine (callsIn_wide.2 (Each_any p s _)).mono ?_; rintro e w8 ⟨rfl, rfl⟩))
      have HA7 := Lib.hid (HA.out.below hb27)
      have hb07 := hb02.trans (hb27.mono (by omega))
      generalize ((w3.alloc (.cells #[.int .i64 (cN : Nat)] 3)).alloc (.cells #[.slice none 0 0] 64)) = w7 at *
      have hbE := ((Below.refl w7.heap.size w7).alloc (Nat.le_refl _) (.cells #[.pointer (some ⟨p, 0, none⟩)] 48)).alloc (by rw [World.size_alloc]; omega) (.cells #[.string s] 9)
      have hea := ((Below.refl (w7.heap.size + 1) (w7.alloc (.cells #[.pointer (some ⟨p, 0, none⟩)] 48))).alloc (by rw [World.size_alloc]; omega) (.cells #[.string s] 9)).block w7.heap.size (by omega)
      rw [World.alloc_heap_new] at hea
      have hes := World.alloc_heap_new (w7.alloc (.cells #[.pointer (some ⟨p, 0, none⟩)] 48)) (.cells #[.string s] 9)
      have hz8 : ((w7.alloc (.cells #[.pointer (some ⟨p, 0, none⟩)] 48)).alloc (.cells #[.string s] 9)).heap.size = w7.heap.size + 2 := by rw [World.size_alloc, World.size_alloc]
      rw [World.size_alloc] at hes
      generalize (w7.alloc (.cells #[.pointer (some ⟨p, 0, none⟩)] 48)).alloc (.cells #[.string s] 9) = W8 at *
      have hr8 := (hbE.block (w.heap.size + 1) (by omega)).trans hr7
      have hx8 := (hbE.block w.heap.size (by omega)).trans hx7
      have hab8 := (hbE.block w2.heap.size (by omega)).trans hab7
      have hn8 := (hbE.block w3.heap.size (by omega)).trans hn7
      have hsn8 := (hbE.block (w3.heap.size + 1) (by omega)).trans hsn7
      have HA8 := Lib.hid (HA7.out.below (hbE.mono (by omega)))
      have hb08 := hb07.trans (hbE.mono (by omega))
      rw [hzb] at hea hes
      have hsb : w3.heap.size + 1 < W8.heap.size := by omega
      have hlen : (waysL list o (bl s)).length = cN := by
        have := ways_len HO.out (bl s).length (bl s) (Nat.le_refl _)
        rw [HCN.out] at this
        unfold maxWays at this
        omega
      have hnd := ways_nodup HO.out (bl s).length (bl s) (Nat.le_refl _)
      refine many2 43 10 rfl (by omega) (gf := 95) (lb := _) rfl trivial (enters_of Try.func95 (by kernel_rfl) rfl)
        (SeenI (waysL list o (bl s)) (w3.heap.size + 1) W8) cN (fun k => k < W8.heap.size ∧ k ≠ w3.heap.size + 1) (fun k hk => hk.1) (PxW (waysL list o (bl s))) (seen_stable hsb) (fun W hW => seen_start hsb hsn8 (fun h => h.2 rfl) hW) (fun i M W l o o' h h1 h2 h3 => seen_put hsb h h1 h2 h3)
        ?hPx ?hiter ?assign ?body ?don
      case hPx =>
        rintro i M v W l9 o9 o9' ⟨l, A, c, N, e1, rfl, e3, e4, e5⟩ hl ho9 hc9
        exact ⟨l, A, c, N, e1, rfl, own_putS o9' e3 ho9 hc9, e4, fun k hk => Nat.lt_of_lt_of_le (e5 k hk) (grownBy_putObj' W l9 o9').size⟩
      case hiter =>
        intro l9 W1 J Jx hbW hJ jn hY
        refine callsIn_wide.2 ?_
        have hs9 := hbW.size
        refine (each1_all (stop := fun _ => false) (HA8.out.below (hbW.mono HA8.out.hB)) HG.out.lets HO.out hn1 HG.out.sz2 (by omega) ((hbW.block _ (by omega)).trans hes) ((hbW.block _ (by omega)).trans hea) hJ hs9 jn (fun k hk => by omega) (fun k hk => ⟨by have := HA8.out.hB; omega, by omega⟩) ⟨by omega, by omega⟩ ⟨by omega, by omega⟩ hY).mono ?_
        rintro e W' ⟨h1, ⟨M, h2, _⟩ | h2⟩
        · rw [hlen] at h2
          exact ⟨h1, .inl ⟨M, h2⟩⟩
        · exact ⟨h1, .inr h2⟩
      case assign =>
        intro l9 v W K hK
        gi_wp2
        exact hK
      case body =>
        rintro l9 i M v W ⟨vsn, vs, hse⟩ ⟨l, A, c, N, hli, rfl, ho, hom, hMl⟩
        have hWz := hse.old.size
        have hold : ∀ k, k < W8.heap.size → k ≠ w3.heap.size + 1 → W.heap[k]? = W8.heap[k]? := fun k h1 h2 => hse.old.block k h1 trivial (fun e => h2 (by injection e))
        have hbelW : Below (w3.heap.size + 1) W8 W := ⟨hse.old.os, hse.old.tape, hse.old.output, hWz, fun k hk => hold k (by omega) (by omega)⟩
        have hxW := (hold w.heap.size (by omega) (by omega)).trans hx8
        have habW := (hold w2.heap.size (by omega) (by omega)).trans hab8
        have hnW := (hold w3.heap.size (by omega) (by omega)).trans hn8
        have b2 := Lib.cell_of_heap habW 0
        have hiL := (List.getElem?_eq_some_iff.1 hli).1
        obtain ⟨f1, f2, f3⟩ := way_facts (List.mem_of_getElem? hli)
        rw [bl_length] at f1
        rw [bl_roundtrip s] at f2
        have hAW := HA8.out.below (hbelW.mono (by omega))
        have SLx := Sl.of_own ho
        rw [ints_intVs] at SLx
        have CJ := Join_any hAW (.slice A l.length c) (l.map fun (n : Nat) => (n : Int)) W.heap.size SLx (Nat.le_refl _) hn1 HG.out.sz2 (by rw [List.length_map]; omega)
        rw [f2, f3] at CJ
        have hown9 := hse.own
        obtain ⟨Av, cv, rfl⟩ := own_form hown9
        have hicN : (i : Int) < (cN : Int) := by omega
        have hicN' : ¬ (cN : Int) ≤ (i : Int) := by omega
        have HSE := Lib.hid hse; have CJH := Lib.hid CJ; have HND := Lib.hid hnd; have HLI := Lib.hid hli; have HOM := Lib.hid hom; have HML := Lib.hid hMl; have HLEN := Lib.hid hlen
        clear CJ f2 f3 SLx hse hnd hli hom hMl hlen
        gi_wp2_with (refine ⟨trivial, ?_⟩; gi_at_call 63; refine (callsIn_wide.2 CJH.out).mono ?_; rintro e w5 ⟨rfl, hb5⟩; have hz5 := hb5.size; have e1 := Lib.cell_of_heap ((hb5.block w.heap.size (by omega)).trans hxW) 0; have e2 := Lib.cell_of_heap ((hb5.block w3.heap.size (by omega)).trans hnW) 0; have e3 := Lib.cell_of_heap ((hb5.block (w3.heap.size + 1) (by omega)).trans HSE.out.box) 0)
        gi_loopw [14, 65] (fun _ u65 wr => ∃ q : Nat, u65 = .int .i64 q ∧ q ≤ i ∧ Hid (Below w5.heap.size w5 wr)) (fun _ u65 _ => i - (intOf u65).toNat)
        case atStart => exact ⟨0, rfl, Nat.zero_le _, Lib.hid (Below.refl _ _)⟩
        case round =>
          obtain ⟨q, rfl, hq, HBr⟩ := hrel
          have hzr := HBr.out.size
          have hWr : Below W.heap.size W wr := hb5.trans (HBr.out.mono hz5)
          have HWR := Lib.hid hWr
          by_cases hlt : q < i
          · obtain ⟨lq, hLq⟩ : ∃ lq, (waysL list o (bl s))[q]? = some lq := ⟨_, List.getElem?_eq_getElem (show q < _ by omega)⟩
            obtain ⟨vq, Nq, g1, g2, _⟩ := HSE.out.way q lq hlt hLq
            obtain ⟨Aq, cq, rfl⟩ := own_form g2
            obtain ⟨gA, capA, ev, _⟩ := own_head1 HSE.out.own (by omega)
            injection ev with ev1 ev2 ev3
            subst ev1; subst ev3
            have k1 := (hWr.cell (p := ⟨gA, q, none⟩) (HSE.out.own.lt gA rfl).2).trans ((HSE.out.own.cellAt q (by omega)).trans g1)
            have hne : l ≠ lq := fun e => by
              have h1 := List.getElem?_eq_some_iff.1 hLq
              have h2 := List.getElem?_eq_some_iff.1 HLI.out
              obtain ⟨h3, h4⟩ := h1
              obtain ⟨h5, h6⟩ := h2
              exact List.pairwise_iff_getElem.1 HND.out q i h3 h5 hlt (by rw [h4, h6, e])
            have hlq := (way_facts (List.mem_of_getElem? hLq)).1
            rw [bl_length] at hlq
            have CSI := SameInts_any (.slice A l.length c) (.slice Aq lq.length cq) l lq wr.heap.size wr (SlA.up ((Sl.of_own ho).below hWr) hWr.size) (SlA.up ((Sl.of_own g2).below hWr) hWr.size) (by omega) (by omega)
            rw [decide_eq_false hne] at CSI
            have i0 : (0 : Int) ≤ (q : Int) := by omega
            have i1 : (q : Int) < (i : Int) := by omega
            have CSH := Lib.hid CSI
            clear CSI hne hLq g1 g2
            gi_wp2_with (refine ⟨trivial, ?_⟩; gi_at_call 58; refine (callsIn_wide.2 CSH.out).mono ?_; rintro e w9 ⟨rfl, hb9⟩)
            go_roundw
            case measure => (simp [intOf]; omega)
            case rel =>
              (repeat apply Exists.intro)
              refine ⟨⟨q + 1, ?_, by omega, Lib.hid (HBr.out.trans (hb9.mono hzr))⟩, ?_⟩
              rotate_left
              · rw [show decide (cN ≤ i) = false from decide_eq_false (by omega)]
              go_num
          · obtain rfl : q = i := by omega
            obtain ⟨i0, hi9, hz0, hz1, hz2⟩ := info_parts infoInts
            have e4 := Lib.cell_of_heap ((hWr.block (w3.heap.size + 1) (by omega)).trans HSE.out.box) 0
            have hown8 := own_block HSE.out.own (fun k hk => hWr.block k (HSE.out.own.lt k hk).2)
            have hb6 := hWr.alloc hWr.size (.cells #[.slice A l.length c] 35)
            have HO8 := Lib.hid hown8; have HB6 := Lib.hid hb6
            clear hown8 hb6 hown9
            have m1 : q + 1 ≤ maxLen := by unfold maxLen; omega
            have m2 : (q + 1) * 24 ≤ 140737488355328 := by omega
            have m3 : W8.heap.size ≤ (wr.alloc (.cells #[.slice A l.length c] 35)).heap.size := by rw [World.size_alloc]; omega
            have m4 : ∀ u ∈ [Value.slice A l.length c], u.oneCell' = true := by simp [Value.oneCell']
            have m5 := cell_one_new wr (.slice A l.length c) 35
            have MM := Lib.hid (And.intro m1 (And.intro m2 (And.intro m3 (And.intro m4 m5))))
            clear m1 m2 m3 m4 m5
            gi_wp2_with (gi_at_builtin; refine wpListIn_append_own_at _ rfl (.tmp 73) (.tmp 75) 64 rfl W8.heap.size 35 i0 (.slice none 0 0) 1 24 Try.underlying64 hi9 hz0 hz1 hz2 rfl (by decide) (.slice Av q cv) q vs rfl (HO8.out.alloc _) ⟨wr.heap.size, 0, none⟩ 1 1 [.slice A l.length c] rfl rfl MM.out.2.2.2.2 MM.out.2.2.2.1 MM.out.1 MM.out.2.1 MM.out.2.2.1 ?_; intro v7 w7' hown7 hg7 _ hat7; obtain ⟨A7, cp7, rfl⟩ := own_form hown7; have hbx := seen_box hsb HSE.out HB6.out hg7; have c7 := Lib.cell_of_heap hbx 0; have f7 := Lib.frozen_of_heap hbx 0; have H7a := Lib.hid hown7; have H7b := Lib.hid hg7; have H7c := Lib.hid hat7; clear hown7 hg7 hat7 hbx)
            obtain ⟨h1, h2, h3⟩ := seen_next hsb HSE.out HB6.out H7b.out H7a.out H7c.out ho HOM.out HML.out HLI.out
            exact ⟨rfl, h3, h2, h1⟩
      case don =>
        rintro D M W hD ⟨vsn, vs, hse⟩ hK
        have hWz := hse.old.size
        have hold : ∀ k, k < W8.heap.size → k ≠ w3.heap.size + 1 → W.heap[k]? = W8.heap[k]? := fun k h1 h2 => hse.old.block k h1 trivial (fun e => h2 (by injection e))
        have hbelW : Below (w3.heap.size + 1) W8 W := ⟨hse.old.os, hse.old.tape, hse.old.output, hWz, fun k hk => hold k (by omega) (by omega)⟩
        have hrW := (hold (w.heap.size + 1) (by omega) (by omega)).trans hr8
        have hnW := (hold w3.heap.size (by omega) (by omega)).trans hn8
        have hown9 := hse.own
        obtain ⟨Av, cv, rfl⟩ := own_form hown9
        have b1 := Lib.cell_of_heap hrW 0
        have b2 := Lib.frozen_of_heap hrW 0
        have b3 := Lib.cell_of_heap hnW 0
        have b4 := Lib.cell_of_heap hse.box 0
        have t9 : ((cN : Int) == (cN : Int)) = true := by simp
        have HSE := Lib.hid hse
        clear hse hown9
        gi_wp2
        have hK2 : (W.setCell ⟨w.heap.size + 1, 0, none⟩ (.bool true)).heap[D]? = some (.deferred (some [])) := (heap_setCell_other _ _ _ _ (by simp only; omega)).trans hK
        refine ⟨by simp, .inl ⟨_, _, rfl, run_takeDeferred hK2, ?_⟩⟩
        have h5 : ((W.setCell ⟨w.heap.size + 1, 0, none⟩ (.bool true)).putObj D (.deferred none)).heap[w.heap.size + 1]? = some (.cells #[.bool true] 4 (0, 0)) := (World.putObj_heap_other (by omega)).trans (one_setCell hrW)
        have hc5 := Lib.cell_of_heap h5 0
        exact ⟨_, results_cell_boolA rfl rfl hc5, rfl, ((hb08.trans (hbelW.mono (by omega))).setCell (p := ⟨w.heap.size + 1, 0, none⟩) (by show w.heap.size ≤ w.heap.size + 1; omega) _).trans (below_putA _ D _ _ (by omega) hK2)⟩
  · have hb0 : (er != 0) = true := by simpa using hbad
    have HE1 := Lib.hid hE1; have HE2 := Lib.hid hE2; clear hE hE1 hE2
    go_enter Try.func18, Try.ntmps18
    go_wp2_with (first
      | (go_at_call 45; refine (CA.out _).mono ?_; rintro e w1 ⟨rfl, hb1⟩; have hs1 := hb1.size; rw [World.size_alloc, World.size_alloc] at hs1; have hb01 := Below.trans (((Below.refl w.heap.size w).alloc (Nat.le_refl _) (.cells #[.string s] 9)).alloc (by simp) (.cells #[.bool false] 4)) (hb1.mono (by rw [World.size_alloc, World.size_alloc]; omega)); have hr1 := (hb1.block (w.heap.size + 1) (by rw [World.size_alloc, World.size_alloc]; omega)).trans (show _ = some (.cells #[.bool false] 4 (0, 0)) from (by have := World.alloc_heap_new (w.alloc (.cells #[.string s] 9)) (.cells #[.bool false] 4); rw [World.size_alloc] at this; exact this)); have hx1 := (hb1.block w.heap.size (by rw [World.size_alloc, World.size_alloc]; omega)).trans ((Below.heap_alloc _ _ _ (by simp)).trans (World.alloc_heap_new w (.cells #[.string s] 9))); have S01 := Lib.hid (S0.out.below hb01))
      | (go_at_call 47; refine (CN.out _ S01.out (by omega)).mono ?_; rintro e w2 ⟨hb2, hor⟩; obtain ⟨_, he2⟩ := hor.resolve_right (fun h => hbad (HE2.out.symm.trans h.1)); clear hor; rw [HE1.out, HE2.out] at he2; subst he2; have hs2 := hb2.size; have hr2 := (hb2.block (w.heap.size + 1) (by omega)).trans hr1; have hb02 := hb01.trans (hb2.mono (by omega)); have hr2a := (Below.heap_alloc w2 (.cells #[.pointer none] 48) (w.heap.size + 1) (by omega)).trans hr2; have hc2 := Lib.cell_of_heap hr2a 0; have hf2 := Lib.frozen_of_heap hr2a 0))
    (try simp only [Exit.inBlock, Exit.then])
    have hcell := Lib.cell_of_heap (show (World.setCell _ ⟨w.heap.size + 1, 0, none⟩ (.bool true)).heap[w.heap.size + 1]? = some (.cells #[.bool true] 4 (0, 0)) from one_setCell hr2a) 0
    refine bodyPost_ret (results_cell_boolA rfl rfl hcell) rfl ?_
    exact ⟨rfl, (hb02.alloc (by omega) _).setCell (by simp) _⟩
end Go.Proofs.Ytlkabghpcjlohaa
