/- AlphaBack: for every list and every text that together hold at most 1048576 values and letters the call returns true. -/
import Derived.Test.YtlkabghpcjlohaaX6
import Derived.Test.YtlkabghpcjlohaaH9
import Derived.Test.YtlkabghpcjlohaaG5
import Derived.Stop.RegionWithIn
import Derived.Deep.QuietTactic
namespace Go.Proofs.Ytlkabghpcjlohaa
set_option linter.unusedVariables false
set_option linter.unusedSimpArgs false
open Go.RowKit Go.Lib Go.Shelf
attribute [local go_sem] Oper.semAt_some

theorem once2 {F : Fence} {n : Nat} {P : Program} {g : Operand} (i j : Nat) {assign body : Code} {Q : Exit → Act → World → Prop} {a : Act} {w : World}
    (hro : F.round = none) (h1 : 1 ≤ n) {gf : Nat} {lb : Array Value} (hg : a.eval g = .func (.func gf) #[] lb) (hFg : F.fn gf) (eg : ∀ args w, (callFunc gf args).run P w = .ok (.enter gf args) w)
    (Px : Value → World → Prop) (R : World → Prop) 
    (hPx : ∀ v W l o o', Px v W → w.heap.size ≤ l → W.heap[l]? = some o → o.isCells = false → Px v (W.putObj l o'))
    (hR : ∀ W l o o', R W → w.heap.size ≤ l → W.heap[l]? = some o → o.isCells = false → R (W.putObj l o'))
    (hiter : ∀ (l : Nat) (W1 : World) (Jx : World → Prop), Below w.heap.size w W1 →
      (∀ v W, Below W1.heap.size W1 W → Px v W → YieldAt F (n - 1 - 1) P l #[v] W fun e W' => e = .returned (.bool false) ∧ Jx W') →
      CallsIn F (n - 1) P gf (#[.func (.yield l) #[] #[]] ++ lb) W1 fun e W' => (∃ v, e = .returned v) ∧ Jx W')
    (hassign : ∀ (l : Nat) (v : Value) (W : World) (K : Act → World → Prop), K { tmps := (a.tmps.setIfInBounds i v).setIfInBounds j v, defers := [] } W →
      assign.wpIn (F.inRound l) (n - 1 - 1) P (Exit.then K (fun _ _ _ => False)) { tmps := ((#[i] : Array Tmp).zip #[v]).foldl (fun t (p, v) => t.setIfInBounds p v) a.tmps, defers := [] } W)
    (hbody : ∀ (l : Nat) (v : Value) (W : World), Below w.heap.size w W → Px v W → body.wpIn (F.inRound l) (n - 1 - 1) P (oncePost R W) { tmps := (a.tmps.setIfInBounds i v).setIfInBounds j v, defers := [] } W)
    (hstop : ∀ (D : Nat) (W : World), w.heap.size ≤ D → R W → W.heap[D]? = some (.deferred (some [])) → Code.ret.wpIn F n P Q { a with defers := { target := .collected D, args := #[] } :: a.defers } W) :
    (Code.rangeFunc g #[i] assign body).wpIn F n P Q a w := by
  exact wpIn_rangeFunc_once hro h1 hg hFg eg Px R rfl hPx hR hiter (fun v => { tmps := (a.tmps.setIfInBounds i v).setIfInBounds j v, defers := [] }) hassign hbody hstop
theorem results_cell_bool' {fn : Func} {p : Tmp} {B : Nat} {b : Bool} {w : World} {tmps : Array Value} (h : fn.results = #[.cell p 4]) (hp : tmps.getD p undef = .pointer (some ⟨B, 0, none⟩)) (hc : w.cell? ⟨B, 0, none⟩ = some (.bool b)) :
    (results fn tmps).run Try.prog w = .ok (.bool b) w := by
  have hp' : tmps[p]?.getD undef = .pointer (some ⟨B, 0, none⟩) := by simpa using hp
  simp [results, h, hp', go_sem, hc]
theorem Sl.up {w : World} {B C : Nat} {v : Value} {xs : List Value} (h : Sl w B v xs) (hb : B ≤ C) : Sl w C v xs := by
  obtain ⟨A', c', e, hc, hA⟩ := h
  exact ⟨A', c', e, hc, fun h => let ⟨b, h1, h2, h3⟩ := hA h; ⟨b, h1, by omega, h3⟩⟩
theorem below_put {n₀ : Nat} (W : World) (l : Nat) (o o' : Obj) (hl : n₀ ≤ l) (h : W.heap[l]? = some o) : Below n₀ W (W.putObj l o') :=
  (Below.refl n₀ W).grown (grownBy_putObj' W l o') (by have := (Array.getElem?_eq_some_iff.1 h).1; omega) (fun k e => by cases e; omega)
theorem own_put {W : World} {B e n l : Nat} {v : Value} {xs : List Value} {o : Obj} (o' : Obj) (h : W.ownsRow B e 1 v n xs) (hl : W.heap[l]? = some o) (ho : o.isCells = false) : (W.putObj l o').ownsRow B e 1 v n xs := by
  refine h.kept (grownBy_putObj' W l o') ?_
  rcases h.2 with ⟨rfl, _⟩ | ⟨g, cap, cur, rfl, _, hg, _⟩
  · exact .inl rfl
  · refine .inr ?_
    simp only [Value.ownBlock, ne_eq, Option.some.injEq]
    rintro rfl
    rw [hl] at hg; cases hg; cases ho

set_option maxHeartbeats 16000000 in
set_option maxRecDepth 100000 in
theorem alphaBack_any (v0 : Value) (list : List (List UInt8)) (s : ByteArray) (w : World) (s0 : Sl w w.heap.size v0 (strs list)) (z0 : list.flatten.length + list.length ≤ 1048576) (zs : s.size ≤ 1048576) :
    Calls Try.prog 20 #[v0, .string s] w fun e w' => e = .returned (.bool true) ∧ Below w.heap.size w w' := by
  have hz0 := flat_sz z0
  obtain ⟨A0, c0, rfl, hc0, hA0⟩ := s0
  have s0 : Sl w w.heap.size (.slice A0 (strs list).length c0) (strs list) := ⟨A0, c0, rfl, hc0, hA0⟩
  clear hA0
  have hsl : (strs list).length = list.length := List.length_map _
  rw [hsl] at s0 hc0 ⊢
  have CA := Lib.hid (fun w => awake3_any w)
  have CN := Lib.hid (fun (W : World) (h : Sl W w.heap.size (.slice A0 list.length c0) (strs list)) (hB : w.heap.size ≤ W.heap.size) => New_any _ list w.heap.size W h hB hz0 (by omega))
  have S0 := Lib.hid s0; have HZ := Lib.hid hz0
  have hle : list.length ≤ 1048576 := by omega
  clear s0 hz0 z0 hsl
  obtain ⟨at_, er, hE⟩ : ∃ a e, newL list = (a, e) := ⟨_, _, rfl⟩
  have hE1 : (newL list).1 = at_ := by rw [hE]
  have hE2 : (newL list).2 = er := by rw [hE]
  by_cases hbad : er = 0
  · subst hbad
    have hgood := new_good (xs := list) hE2
    have HG := Lib.hid hgood
    have hn1 : list.length ≤ 1000 := by have := hgood.n2; omega
    clear hgood
    have HE1 := Lib.hid hE1; have HE2 := Lib.hid hE2; clear hE hE1 hE2
    obtain ⟨l, hgo⟩ | ⟨left, er2, hgo⟩ : (∃ l, splitL list (bl s) = .good l) ∨ (∃ a b, splitL list (bl s) = .bad a b) := by
      cases splitL list (bl s) with
      | good l => exact .inl ⟨l, rfl⟩
      | bad a b => exact .inr ⟨a, b, rfl⟩
    · obtain ⟨b1, b2, b3, b4, b5⟩ := back_facts hgo
      have hrt : (⟨(bl s).toArray⟩ : ByteArray) = s := bl_roundtrip s
      rw [hrt] at b2
      have B2 := Lib.hid b2; have B3 := Lib.hid b3; have B4 := Lib.hid b4; have HGO := Lib.hid hgo
      obtain ⟨cN, hcN⟩ : ∃ cN, cntL list (bl s) = cN := ⟨_, rfl⟩
      have CWF := Lib.hid (fun (B p : Nat) (o : List Nat) (W : World) (hA : AlphAt B p list o W) (hO : Ord list o) => (show Calls Try.prog 59 #[.pointer (some ⟨p, 0, none⟩), .string s] W fun e w' => e = .returned (.int .i64 (cN : Nat)) ∧ Below W.heap.size W w' by
        have := Ways_any hA HG.out.lets hO (bl s) hn1 HG.out.sz2 (by rw [bl_length]; omega)
        rw [hrt, hcN] at this
        exact this))
      rw [hcN] at b5
      have hlm : (l.map fun (n : Nat) => (n : Int)).length = l.length := List.length_map _
      clear b2 b3 b4 hgo hcN
      refine (callsIn_wide (n := 6)).1 ?_
      refine callsIn_of_wp_marks Try.func20 rfl trivial ?_ rfl
      simp only [Try.ntmps20, List.size_toArray, List.length_cons, List.length_nil, Nat.reduceAdd, Nat.reduceSub, Array.replicate_succ, Array.replicate_zero, List.push_toArray, List.append_toArray, List.nil_append, List.cons_append]
      gi_wp2_with (first
        | (refine ⟨trivial, ?_⟩; gi_at_call 45; refine (callsIn_wide.2 (CA.out _)).mono ?_; rintro e w1 ⟨rfl, hb1⟩; have hs1 := hb1.size; rw [World.size_alloc] at hs1; have hb01 := Below.trans ((Below.refl w.heap.size w).alloc (Nat.le_refl _) (.cells #[.bool false] 4)) (hb1.mono (by rw [World.size_alloc]; omega)); have hr1 := (hb1.block w.heap.size (by rw [World.size_alloc]; omega)).trans (World.alloc_heap_new w _); have S01 := Lib.hid (S0.out.below hb01))
        | (refine ⟨trivial, ?_⟩; gi_at_call 47; refine (callsIn_wide.2 (CN.out _ S01.out (by omega))).mono ?_; rintro e w2 ⟨hb2, ⟨hbd, _⟩ | ⟨_, p, o, hp, rfl, hO, hA⟩⟩; (exact absurd HE2.out hbd); have HA := Lib.hid hA; have HO := Lib.hid hO; have hs2 := hb2.size; have hr2 := (hb2.block w.heap.size (by omega)).trans hr1; have hb02 := hb01.trans (hb2.mono (by omega)); have CSP := Lib.hid (Split_any hA HG.out.lets hO s hn1 (by omega)); clear hA hO)
        | (refine ⟨trivial, ?_⟩; gi_at_call 56; refine (callsIn_wide.2 CSP.out).mono ?_; rintro e w3 ⟨hb3, hsp⟩; rw [HGO.out] at hsp; obtain ⟨v, rfl, hown⟩ := hsp; obtain ⟨Al, cl, rfl⟩ := own_form hown; have hs3 := hb3.size; have HA3 := Lib.hid (HA.out.below hb3); have hr3 := (hb3.block w.heap.size (by omega)).trans hr2; have hb03 := hb02.trans (hb3.mono (by omega)); have SL := Lib.hid (Sl.of_own hown); rw [ints_intVs] at SL; have hbx := World.alloc_heap_new w3 (.cells #[.slice Al l.length cl] 35); have hcx := Lib.cell_of_heap hbx 0; have hb4 := (Below.refl w3.heap.size w3).alloc (Nat.le_refl _) (.cells #[.slice Al l.length cl] 35); have hz4 := World.size_alloc w3 (.cells #[.slice Al l.length cl] 35))
        | (refine ⟨trivial, ?_⟩; gi_at_call 63; refine (callsIn_wide.2 (Join_any (HA3.out.below (hb4.mono hs3)) (.slice Al l.length cl) (l.map fun (n : Nat) => (n : Int)) w3.heap.size (SL.out.below hb4) (by omega) hn1 HG.out.sz2 (by omega))).mono ?_; rw [B2.out, B3.out]; rintro e w5 ⟨rfl, hb5⟩; have hs5 := hb5.size; have hb35 := hb4.trans (hb5.mono (by omega)); have hbx5 := (hb5.block w3.heap.size (by omega)).trans hbx; have hcx5 := Lib.cell_of_heap hbx5 0)
        | (refine ⟨trivial, ?_⟩; gi_at_call 65; refine (callsIn_wide.2 (Sure_any (HA3.out.below (hb35.mono hs3)) HG.out.lets HO.out (.slice Al l.length cl) (l.map fun (n : Nat) => (n : Int)) w3.heap.size (SL.out.below hb35) (by omega) hn1 HG.out.sz2 (by omega))).mono ?_; rw [B4.out]; rintro e w6 ⟨rfl, hb6⟩; have hs6 := hb6.size; have hb36 := hb35.trans (hb6.mono (by omega)); have hbx6 := (hb6.block w3.heap.size (by omega)).trans hbx5; have hcx6 := Lib.cell_of_heap hbx6 0)
        | (refine ⟨trivial, ?_⟩; gi_at_call 59; refine (callsIn_wide.2 (CWF.out _ _ _ _ (HA3.out.below (hb36.mono hs3)) HO.out)).mono ?_; rintro e w7 ⟨rfl, hb7⟩; have hs7 := hb7.size; have hb37 := hb36.trans (hb7.mono (by omega)); have hbx7 := (hb7.block w3.heap.size (by omega)).trans hbx6; have hcx7 := Lib.cell_of_heap hbx7 0)
        | (refine ⟨trivial, ?_⟩; gi_at_call 62; refine (callsIn_wide.2 (Each_any p s _)).mono ?_; rintro e w8 ⟨rfl, rfl⟩))
      have hbE := ((Below.refl w7.heap.size w7).alloc (Nat.le_refl _) (.cells #[.pointer (some ⟨p, 0, none⟩)] 48)).alloc (by rw [World.size_alloc]; omega) (.cells #[.string s] 9)
      have hea := ((Below.refl (w7.heap.size + 1) (w7.alloc (.cells #[.pointer (some ⟨p, 0, none⟩)] 48))).alloc (by rw [World.size_alloc]; omega) (.cells #[.string s] 9)).block w7.heap.size (by omega)
      rw [World.alloc_heap_new] at hea
      have hes := World.alloc_heap_new (w7.alloc (.cells #[.pointer (some ⟨p, 0, none⟩)] 48)) (.cells #[.string s] 9)
      have hz8 : ((w7.alloc (.cells #[.pointer (some ⟨p, 0, none⟩)] 48)).alloc (.cells #[.string s] 9)).heap.size = w7.heap.size + 2 := by rw [World.size_alloc, World.size_alloc]
      rw [World.size_alloc] at hes
      generalize (w7.alloc (.cells #[.pointer (some ⟨p, 0, none⟩)] 48)).alloc (.cells #[.string s] 9) = W8 at *
      have hb38 := hb37.trans (hbE.mono (by omega))
      have hbx8 := (hbE.block w3.heap.size (by omega)).trans hbx7
      have hr8 := (hb38.block w.heap.size (by omega)).trans hr3
      have hb08 := hb03.trans (hb38.mono (by omega))
      refine once2 86 12 rfl (by omega) (gf := 95) (lb := #[.pointer (some ⟨w7.heap.size, 0, none⟩), .pointer (some ⟨w7.heap.size + 1, 0, none⟩)]) rfl trivial (enters_of Try.func95 (by kernel_rfl) rfl)
        (fun v W => ∃ A c N, W8.heap.size ≤ N ∧ v = .slice A l.length c ∧ W.ownsRow N 3 1 v l.length (ints l))
        (fun W => W.heap[w.heap.size]? = some (.cells #[.bool true] 4 (0, 0)) ∧ Below w.heap.size w W)
        ?hPx ?hR ?hiter ?assign ?body ?don
      case hPx =>
        rintro v W l9 o9 o9' ⟨A, c, N, hN, rfl, ho⟩ hl ho9 hc9
        exact ⟨A, c, N, hN, rfl, own_put o9' ho ho9 hc9⟩
      case hR =>
        rintro W l9 o9 o9' ⟨h1, h2⟩ hl ho9 hc9
        exact ⟨(World.putObj_heap_other (by omega)).trans h1, h2.trans (below_put W l9 o9 o9' (by omega) ho9)⟩
      case hiter =>
        intro l9 W1 Jx hbW hY
        refine callsIn_wide.2 ?_
        have hs9 := hbW.size
        exact each1_any (HA3.out.below ((hb38.trans (hbW.mono (by omega))).mono hs3)) HG.out.lets HO.out hn1 HG.out.sz2 (by omega) ((hbW.block _ (by omega)).trans hes) ((hbW.block _ (by omega)).trans hea) Jx l HGO.out (fun A c N W h1 h2 h3 => hY _ W h1 ⟨A, c, N, by omega, rfl, h3⟩)
      case assign =>
        intro l9 v W K hK
        gi_wp2
        exact hK
      case body =>
        rintro l9 v W hbW ⟨A, c, N, hN, rfl, ho⟩
        have hs9 := hbW.size
        have hxW := (hbW.block w3.heap.size (by omega)).trans hbx8
        have hcW := Lib.cell_of_heap hxW 0
        have hrW := (hbW.block w.heap.size (by omega)).trans hr8
        have hbW0 := hb08.trans (hbW.mono (by omega))
        have SLl := (Sl.of_own hown).below (hb38.trans (hbW.mono (by omega)))
        have CSI := SameInts_any (.slice A l.length c) (.slice Al l.length cl) l l W.heap.size W (Sl.of_own ho) (SLl.up (by omega)) (by omega) (by omega)
        rw [decide_eq_true rfl] at CSI
        gi_wp2_with (refine ⟨trivial, ?_⟩; gi_at_call 58; refine (callsIn_wide.2 CSI).mono ?_; rintro e w9 ⟨rfl, hb9⟩; have hr9 := (hb9.block w.heap.size (by omega)).trans hrW; have hc9 := Lib.cell_of_heap hr9 0; have hf9 := Lib.frozen_of_heap hr9 0)
        have hkk : KeepsOthers W (w9.setCell ⟨w.heap.size, 0, none⟩ (.bool true)) := by
          refine ⟨by rw [World.size_setCell]; exact hb9.size, fun k o h hc => ?_⟩
          have hk := (Array.getElem?_eq_some_iff.1 h).1
          have hne : k ≠ w.heap.size := by
            rintro rfl
            rw [hrW] at h; cases h; cases hc
          exact (heap_setCell_other _ _ _ _ (by simp only; omega)).trans ((hb9.block k hk).trans h)
        exact ⟨hkk, one_setCell hr9, (hbW0.trans (hb9.mono (by omega))).setCell (by simp) _⟩
      case don =>
        rintro D W hD ⟨h1, h2⟩ hK
        have hcell := Lib.cell_of_heap h1 0
        gi_wp2
        refine ⟨by simp, .inl ⟨_, _, rfl, run_takeDeferred hK, ?_⟩⟩
        have h5 : (W.putObj D (.deferred none)).heap[w.heap.size]? = _ := (World.putObj_heap_other (by omega)).trans h1
        have hc5 := Lib.cell_of_heap h5 0
        exact ⟨_, results_cell_bool' rfl rfl hc5, rfl, h2.trans (below_put W D _ _ (by omega) hK)⟩
    · have her : er2 = 33 ∨ er2 = 34 := split_err list 32 (bl s) [] left er2 hgo
      have HGO := Lib.hid hgo
      clear hgo
      rcases her with rfl | rfl
      · go_enter Try.func20, Try.ntmps20
        go_wp2_with (first
          | (go_at_call 45; refine (CA.out _).mono ?_; rintro e w1 ⟨rfl, hb1⟩; have hs1 := hb1.size; rw [World.size_alloc] at hs1; have hb01 := Below.trans ((Below.refl w.heap.size w).alloc (Nat.le_refl _) (.cells #[.bool false] 4)) (hb1.mono (by rw [World.size_alloc]; omega)); have hr1 := (hb1.block w.heap.size (by rw [World.size_alloc]; omega)).trans (World.alloc_heap_new w _); have S01 := Lib.hid (S0.out.below hb01))
          | (go_at_call 47; refine (CN.out _ S01.out (by omega)).mono ?_; rintro e w2 ⟨hb2, ⟨hbd, _⟩ | ⟨_, p, o, hp, rfl, hO, hA⟩⟩; (exact absurd HE2.out hbd); have hs2 := hb2.size; have hr2 := (hb2.block w.heap.size (by omega)).trans hr1; have hb02 := hb01.trans (hb2.mono (by omega)); have CSP := Lib.hid (Split_any hA HG.out.lets hO s hn1 (by omega)); clear hA hO)
          | (go_at_call 56; refine CSP.out.mono ?_; rintro e w3 ⟨hb3, hsp⟩; rw [HGO.out] at hsp; obtain rfl := hsp; have hs3 := hb3.size; have hr3 := (hb3.block w.heap.size (by omega)).trans hr2; have hb03 := hb02.trans (hb3.mono (by omega)); have hx3 : ∀ X, (w3.alloc X).heap[w.heap.size]? = _ := (fun X => (Below.heap_alloc _ _ _ (by omega)).trans hr3); have hc3 := fun X => Lib.cell_of_heap (hx3 X) 0; have hf3 := fun X => Lib.frozen_of_heap (hx3 X) 0))
        (try simp only [Exit.inBlock, Exit.then])
        have hcell := Lib.cell_of_heap (show (World.setCell _ ⟨w.heap.size, 0, none⟩ (.bool true)).heap[w.heap.size]? = some (.cells #[.bool true] 4 (0, 0)) from one_setCell (hx3 (.cells #[.slice none 0 0] 35))) 0
        refine bodyPost_ret (results_cell_bool' rfl rfl hcell) rfl ?_
        exact ⟨rfl, (hb03.alloc (by omega) _).setCell (by simp) _⟩
      · go_enter Try.func20, Try.ntmps20
        go_wp2_with (first
          | (go_at_call 45; refine (CA.out _).mono ?_; rintro e w1 ⟨rfl, hb1⟩; have hs1 := hb1.size; rw [World.size_alloc] at hs1; have hb01 := Below.trans ((Below.refl w.heap.size w).alloc (Nat.le_refl _) (.cells #[.bool false] 4)) (hb1.mono (by rw [World.size_alloc]; omega)); have hr1 := (hb1.block w.heap.size (by rw [World.size_alloc]; omega)).trans (World.alloc_heap_new w _); have S01 := Lib.hid (S0.out.below hb01))
          | (go_at_call 47; refine (CN.out _ S01.out (by omega)).mono ?_; rintro e w2 ⟨hb2, ⟨hbd, _⟩ | ⟨_, p, o, hp, rfl, hO, hA⟩⟩; (exact absurd HE2.out hbd); have hs2 := hb2.size; have hr2 := (hb2.block w.heap.size (by omega)).trans hr1; have hb02 := hb01.trans (hb2.mono (by omega)); have CSP := Lib.hid (Split_any hA HG.out.lets hO s hn1 (by omega)); clear hA hO)
          | (go_at_call 56; refine CSP.out.mono ?_; rintro e w3 ⟨hb3, hsp⟩; rw [HGO.out] at hsp; obtain rfl := hsp; have hs3 := hb3.size; have hr3 := (hb3.block w.heap.size (by omega)).trans hr2; have hb03 := hb02.trans (hb3.mono (by omega)); have hx3 : ∀ X, (w3.alloc X).heap[w.heap.size]? = _ := (fun X => (Below.heap_alloc _ _ _ (by omega)).trans hr3); have hc3 := fun X => Lib.cell_of_heap (hx3 X) 0; have hf3 := fun X => Lib.frozen_of_heap (hx3 X) 0))
        (try simp only [Exit.inBlock, Exit.then])
        have hcell := Lib.cell_of_heap (show (World.setCell _ ⟨w.heap.size, 0, none⟩ (.bool true)).heap[w.heap.size]? = some (.cells #[.bool true] 4 (0, 0)) from one_setCell (hx3 (.cells #[.slice none 0 0] 35))) 0
        refine bodyPost_ret (results_cell_bool' rfl rfl hcell) rfl ?_
        exact ⟨rfl, (hb03.alloc (by omega) _).setCell (by simp) _⟩
  · have hb0 : (er != 0) = true := by simpa using hbad
    have HE1 := Lib.hid hE1; have HE2 := Lib.hid hE2; clear hE hE1 hE2
    go_enter Try.func20, Try.ntmps20
    go_wp2_with (first
      | (go_at_call 45; refine (CA.out _).mono ?_; rintro e w1 ⟨rfl, hb1⟩; have hs1 := hb1.size; rw [World.size_alloc] at hs1; have hb01 := Below.trans ((Below.refl w.heap.size w).alloc (Nat.le_refl _) (.cells #[.bool false] 4)) (hb1.mono (by rw [World.size_alloc]; omega)); have hr1 := (hb1.block w.heap.size (by rw [World.size_alloc]; omega)).trans (World.alloc_heap_new w _); have S01 := Lib.hid (S0.out.below hb01))
      | (go_at_call 47; refine (CN.out _ S01.out (by omega)).mono ?_; rintro e w2 ⟨hb2, hor⟩; obtain ⟨_, he2⟩ := hor.resolve_right (fun h => hbad (HE2.out.symm.trans h.1)); clear hor; rw [HE1.out, HE2.out] at he2; subst he2; have hr2 := (hb2.block w.heap.size (by omega)).trans hr1; have hb02 := hb01.trans (hb2.mono (by omega)); have hs2 := hb2.size; have hc2 := Lib.cell_of_heap hr2 0; have hf2 := Lib.frozen_of_heap hr2 0))
    (try simp only [Exit.inBlock, Exit.then])
    have hcell := Lib.cell_of_heap (show (World.setCell _ ⟨w.heap.size, 0, none⟩ (.bool true)).heap[w.heap.size]? = some (.cells #[.bool true] 4 (0, 0)) from one_setCell hr2) 0
    refine bodyPost_ret (results_cell_bool' rfl rfl hcell) rfl ?_
    exact ⟨rfl, hb02.setCell (by simp) _⟩
end Go.Proofs.Ytlkabghpcjlohaa
