/- Package sketch: Parse. -/
import Derived.Test.YtlkabghpcjlohaaDoorT8
import Derived.ScopeJumps
import Derived.WalkMore
namespace Go.Proofs.YtlkabghpcjlohaaDoor
set_option linter.unusedVariables false
set_option linter.unusedSimpArgs false
open Go.RowKit Go.Lib

theorem wp_labels_entry {P : Program} {a : Act} {w : World} {Q : Exit → Act → World → Prop} {c rest : Code} (l₀ : Nat) (J : Nat → Act → World → Prop) (μ : Nat → Act → World → Nat) (hf : findLabel c l₀ = some (Code.skip.seq rest))
    (first : (∀ a w, J l₀ a w → rest.wp P (jumps J Q) a w) → c.wp P (jumps J Q) a w)
    (pass : ∀ l a w, J l a w → ∃ rest, findLabel c l = some (Code.skip.seq rest) ∧ rest.wp P (jumps (fun l' a' w' => J l' a' w' ∧ μ l' a' w' < μ l a w) Q) a w) : (Code.scope c).wp P Q a w :=
  wp_scope_labels J μ (first (fun a w hJ => by
    obtain ⟨r, hr, hp⟩ := pass l₀ a w hJ
    obtain rfl : r = rest := by rw [hf] at hr; injection hr with h; injection h with h1 h2; exact h2.symm
    refine wp_mono hp (fun e a' w' h => ?_)
    cases e with
    | goto l' => exact h.1
    | normal => exact h
    | exit id => exact h
    | ret => exact h
    | panic ch => exact h
    | outgrown => exact h)) (fun l a w hJ => by
    obtain ⟨r, hr, hp⟩ := pass l a w hJ
    exact ⟨_, hr, wp_seq (wp_skip (by simp only [Exit.then]; exact hp))⟩)

def nilG : Value := .agg #[.int .i64 0, .int .i64 0, .slice none 0 0, .slice none 0 0, .slice none 0 0]
abbrev grid0 : Obj := .cells #[.int .i64 0, .int .i64 0, .slice none 0 0, .slice none 0 0, .slice none 0 0] 45
def ParsePost (s : ByteArray) (w : World) (e : Ending) (w' : World) : Prop :=
  Below w.heap.size w w' ∧ match parseL (bl s) with
    | .bad a er => e = .returned (.tuple #[.agg #[.int .i64 0, .int .i64 0, .slice none 0 0, .slice none 0 0, .slice none 0 0], .int .i64 (a : Nat), .int .i64 er])
    | .good g => ∃ v, e = .returned (.tuple #[v, .int .i64 0, .int .i64 0]) ∧ GdAt w' w'.heap.size v g
/-- what holds at a label -/
def PL (s : ByteArray) (rd : Rd) (pos wd sn : Nat) : Nat → Prop
  | 0 => pos + wd ≤ s.size ∧ contL (bl s) (pos + wd) rd = parseL (bl s)
  | 1 => pos = s.size ∧ contL (bl s) pos rd = parseL (bl s)
  | 2 => pos < s.size ∧ Utf8.decode s pos = (sn, wd) ∧ contL (bl s) pos rd = parseL (bl s) ∧ sn = 10
  | 3 => pos < s.size ∧ Utf8.decode s pos = (sn, wd) ∧ contL (bl s) pos rd = parseL (bl s) ∧ (sn = 35 ∨ sn = 9632 ∨ sn = 46 ∨ sn = 9633)
  | 4 => pos < s.size ∧ Utf8.decode s pos = (sn, wd) ∧ contL (bl s) pos rd = parseL (bl s) ∧ (sn = 124 ∨ sn = 95)
  | _ => False
abbrev pFr (s : ByteArray) (w : World) (rd : Rd) (pos wd sn : Nat) (u : Nat → Value) : Act := { tmps := #[.string s, u 1, .pointer (some ⟨w.heap.size, 0, none⟩), .int .i64 0, .int .i64 0, .pointer (some ⟨w.heap.size + 1, 0, none⟩), .int .i64 (pos : Nat), .int .i64 (rd.f : Nat), .int .i64 (wd : Nat), .int .i32 (sn : Nat), u 10, u 11, u 12, u 13, u 14, u 15, u 16, u 17, u 18, u 19, u 20, u 21, u 22, u 23, u 24, u 25, u 26, u 27, u 28, u 29, u 30, u 31, u 32, u 33, u 34, u 35, u 36, u 37, u 38, u 39, u 40, u 41, u 42, u 43, u 44, u 45, u 46, u 47, u 48, u 49, u 50, u 51, u 52, u 53, u 54, u 55, u 56, u 57, u 58, u 59, u 60, u 61, u 62, u 63, u 64, u 65, u 66, u 67, u 68, u 69, u 70, u 71, u 72, u 73, u 74, u 75, u 76, u 77, u 78, u 79, u 80, u 81, u 82, u 83, u 84, u 85, u 86, u 87, u 88, u 89, u 90, u 91, u 92, u 93, u 94, u 95, u 96, u 97], defers := [] }
def PJ (s : ByteArray) (w : World) (l : Nat) (a' : Act) (w' : World) : Prop :=
  ∃ (rd : Rd) (pos wd sn : Nat) (b r d : Value) (u : Nat → Value), a' = pFr s w rd pos wd sn u ∧ RdAt (w.heap.size + 1) rd w' b r d ∧ RdOk rd ∧ Below (w.heap.size + 1) (w.alloc grid0) w' ∧ PL s rd pos wd sn l ∧ rd.f ≤ pos + wd
theorem results_grid {fn : Func} {p u v : Tmp} (h : fn.results = #[.cell p 45, .tmp u, .tmp v]) (tmps : Array Value) (W : World) (g : Nat) (t : TypeId) (c0 c1 c2 c3 c4 : Value) (fr : Nat × Nat)
    (hp : tmps.getD p undef = .pointer (some ⟨g, 0, none⟩)) (hg : W.heap[g]? = some (.cells #[c0, c1, c2, c3, c4] t fr)) :
    (results fn tmps).run Tryd.prog W = .ok (.tuple #[.agg #[c0, c1, c2, c3, c4], tmps.getD u undef, tmps.getD v undef]) W := by
  have hp' : tmps[p]?.getD undef = .pointer (some ⟨g, 0, none⟩) := by simpa using hp
  have hl := run_loadVar_row (P := Tryd.prog) W g t 45 _ fr _ hg Tryd.underlying45 rfl (by kernel_rfl)
  simp [results, h, hp', asAddr, hl]
theorem stored5 {W : World} {g : Nat} {t : TypeId} {a0 a1 a2 a3 a4 : Value} (x0 x1 x2 x3 x4 : Value) (hg : W.heap[g]? = some (.cells #[a0, a1, a2, a3, a4] t (0, 0))) :
    (((((W.setCell ⟨g, 0, none⟩ x0).setCell ⟨g, 1, none⟩ x1).setCell ⟨g, 2, none⟩ x2).setCell ⟨g, 3, none⟩ x3).setCell ⟨g, 4, none⟩ x4).heap[g]? = some (.cells #[x0, x1, x2, x3, x4] t (0, 0)) :=
  heap_setCell_same _ g 4 _ _ _ (heap_setCell_same _ g 3 _ _ _ (heap_setCell_same _ g 2 _ _ _ (heap_setCell_same _ g 1 _ _ _ (heap_setCell_same W g 0 _ _ _ hg))))
theorem below5 {W : World} {g B : Nat} {x0 x1 x2 x3 x4 : Value} {w : World} (h : Below B w W) (hB : B ≤ g) :
    Below B w (((((W.setCell ⟨g, 0, none⟩ x0).setCell ⟨g, 1, none⟩ x1).setCell ⟨g, 2, none⟩ x2).setCell ⟨g, 3, none⟩ x3).setCell ⟨g, 4, none⟩ x4) :=
  ((((h.setCell (p := ⟨g, 0, none⟩) hB _).setCell (p := ⟨g, 1, none⟩) hB _).setCell (p := ⟨g, 2, none⟩) hB _).setCell (p := ⟨g, 3, none⟩) hB _).setCell (p := ⟨g, 4, none⟩) hB _
theorem grid_bad {s : ByteArray} {w W : World} {a' : Act} {g : Nat} {t : TypeId} {a : Nat} {er : Int} (ht : a'.tmps.getD 2 undef = .pointer (some ⟨g, 0, none⟩)) (h3 : a'.tmps.getD 3 undef = .int .i64 (a : Nat)) (h4 : a'.tmps.getD 4 undef = .int .i64 er) (hd : a'.defers = [])
    (hg : W.heap[g]? = some (.cells #[.int .i64 0, .int .i64 0, .slice none 0 0, .slice none 0 0, .slice none 0 0] t (0, 0))) (hb : Below w.heap.size w W) (hp : parseL (bl s) = .bad a er) :
    bodyPost Tryd.prog Tryd.f30 (ParsePost s w) .ret a' W := by
  refine bodyPost_ret (results_grid Tryd.results30 _ W g t _ _ _ _ _ _ ht hg) hd ?_
  unfold ParsePost
  rw [hp, h3, h4]
  exact ⟨hb, rfl⟩
theorem own5 {W : World} {g B e n : Nat} {v : Value} {xs : List Value} {x0 x1 x2 x3 x4 : Value} (h : W.ownsRow B e 1 v n xs) (hg : g < B) :
    (((((W.setCell ⟨g, 0, none⟩ x0).setCell ⟨g, 1, none⟩ x1).setCell ⟨g, 2, none⟩ x2).setCell ⟨g, 3, none⟩ x3).setCell ⟨g, 4, none⟩ x4).ownsRow B e 1 v n xs :=
  ownsRow_setCell_below (ownsRow_setCell_below (ownsRow_setCell_below (ownsRow_setCell_below (ownsRow_setCell_below h (a := ⟨g, 0, none⟩) hg _) (a := ⟨g, 1, none⟩) hg _) (a := ⟨g, 2, none⟩) hg _) (a := ⟨g, 3, none⟩) hg _) (a := ⟨g, 4, none⟩) hg _
theorem grid_good {s : ByteArray} {w W : World} {a' : Act} {g B : Nat} {T : TypeId} {t : Rd} {b r d : Value} (ht : a'.tmps.getD 2 undef = .pointer (some ⟨g, 0, none⟩)) (h3 : a'.tmps.getD 3 undef = .int .i64 0) (h4 : a'.tmps.getD 4 undef = .int .i64 0) (hd : a'.defers = [])
    (hg : W.heap[g]? = some (.cells #[.int .i64 (t.h : Int), .int .i64 (t.w : Int), b, r, d] T (0, 0))) (hb : Below w.heap.size w W) (k : RdOk t) (oB : W.ownsRow B 4 1 b t.B.length (bools t.B)) (oR : W.ownsRow B 4 1 r t.R.length (bools t.R)) (oD : W.ownsRow B 4 1 d t.D.length (bools t.D)) (hp : parseL (bl s) = .good (gdOf t)) :
    bodyPost Tryd.prog Tryd.f30 (ParsePost s w) .ret a' W := by
  refine bodyPost_ret (results_grid Tryd.results30 _ W g T _ _ _ _ _ _ ht hg) hd ?_
  unfold ParsePost
  rw [hp, h3, h4]
  have h1 := k.h; have h2 := k.w
  exact ⟨hb, _, rfl, ⟨by show _ ≤ (t.h : Int); omega, by show (t.h : Int) ≤ _; omega⟩, ⟨by show _ ≤ (t.w : Int); omega, by show (t.w : Int) ≤ _; omega⟩, b, r, d, rfl, Sl.of_own oB, Sl.of_own oR, Sl.of_own oD⟩
theorem PJ_intro {s : ByteArray} {w w' : World} {a' : Act} (l : Nat) (rd : Rd) (pos wd sn : Nat) (b r d : Value) (h : a' = pFr s w rd pos wd sn (fun k => a'.tmps.getD k undef)) (hR : RdAt (w.heap.size + 1) rd w' b r d) (hk : RdOk rd) (hb : Below (w.heap.size + 1) (w.alloc grid0) w') (hl : PL s rd pos wd sn l) (hf : rd.f ≤ pos + wd) : PJ s w l a' w' :=
  ⟨rd, pos, wd, sn, b, r, d, _, h, hR, hk, hb, hl, hf⟩
def pMu (n : Nat) (l : Nat) (a' : Act) : Nat := match a'.tmps.getD 6 undef, a'.tmps.getD 8 undef with
  | .int _ x, .int _ y => if l = 0 then 2 * (n - (x + y).toNat) + 1 else if l = 1 then 0 else 2 * (n - x.toNat)
  | _, _ => 0

set_option maxHeartbeats 16000000 in
set_option maxRecDepth 100000 in
theorem Parse_any (s : ByteArray) (w : World) (hT : Tabs w) (hs : s.size ≤ 17592186044416) :
    Calls Tryd.prog 30 #[.string s] w (ParsePost s w) := by
  by_cases hbig : 65536 < s.size
  · have hp : parseL (bl s) = .bad 65536 1 := by unfold parseL; rw [if_pos (by rw [bl_length]; exact hbig)]
    have HP := Lib.hid hp; clear hp
    go_enter Tryd.func30, Tryd.ntmps30
    go_wp2
    refine wp_scope_labels (fun _ _ _ => False) (fun _ _ _ => 0) ?_ (fun _ _ _ h => h.elim)
    go_wp2
    simp only [jumps]
    refine bodyPost_ret (v := .tuple #[.agg #[.int .i64 0, .int .i64 0, .slice none 0 0, .slice none 0 0, .slice none 0 0], .int .i64 65536, .int .i64 1]) (by simp [results, Tryd.results30, go_sem]) rfl ?_
    unfold ParsePost
    rw [HP.out]
    exact ⟨(Below.refl _ w).alloc (Nat.le_refl _) _, rfl⟩
  · have HT := Lib.hid hT; clear hT
    have hPC := parseL_cont (l := bl s) (by rw [bl_length]; exact hbig)
    have HPC := Lib.hid hPC; clear hPC
    have hsb : s.size ≤ 65536 := by omega
    clear hbig hs
    go_enter Tryd.func30, Tryd.ntmps30
    go_wp2
    refine wp_labels_entry 0 (PJ s w) (fun l a' _ => pMu s.size l a') rfl ?_ ?_
    · intro hk
      have HKK := Lib.hid hk; clear hk
      go_wp2
      go_step3
      rename_i K hK
      simp only [Exit.then]
      refine hK _ _ (HKK.out _ _ (PJ_intro 0 rd0 0 0 0 _ _ _ rfl ⟨?_, World.ownsRow_nil _ _ _ _, World.ownsRow_nil _ _ _ _, World.ownsRow_nil _ _ _ _, (fun j hj => by cases hj), (fun j hj => by cases hj), (fun j hj => by cases hj)⟩ ⟨by decide, by decide, by decide, .inl rfl, rfl, rfl, fun h => absurd rfl h⟩ ?_ ⟨Nat.zero_le _, HPC.out.symm⟩ (Nat.le_refl _)))
      · have := World.alloc_heap_new (w.alloc grid0) (.cells #[.int .i64 0, .int .i64 0, .slice none 0 0, .slice none 0 0, .slice none 0 0, .int .i64 0] 76)
        rw [World.size_alloc] at this
        exact this
      · exact (Below.refl _ _).alloc (by simp) _
    · rintro l a' w' ⟨rd, pos, wd, sn, b, r, d, u, rfl, hR, hok, hb, hpl, hf⟩
      have hbw : Below w.heap.size w w' := ((Below.refl w.heap.size w).alloc (Nat.le_refl _) grid0).trans (hb.mono (by simp))
      have HT' := Lib.hid (HT.out.below hbw)
      have hl : l = 0 ∨ l = 1 ∨ l = 2 ∨ l = 3 ∨ l = 4 := by
        rcases l with _ | _ | _ | _ | _ | l
        · exact .inl rfl
        · exact .inr (.inl rfl)
        · exact .inr (.inr (.inl rfl))
        · exact .inr (.inr (.inr (.inl rfl)))
        · exact .inr (.inr (.inr (.inr rfl)))
        · exact hpl.elim
      have HR := Lib.hid hR; have HOK := Lib.hid hok; have HB := Lib.hid hb; have HBW := Lib.hid hbw
      clear hR hok hb hbw
      rcases hl with rfl | rfl | rfl | rfl | rfl
      · refine ⟨_, rfl, ?_⟩
        obtain ⟨hps, hcont⟩ := hpl
        by_cases hp : pos + wd < s.size
        · have hcat := contL_at s (pos + wd) rd hp
          rw [hcont] at hcat
          obtain ⟨q, hq⟩ : ∃ q, q = pos + wd := ⟨_, rfl⟩
          rw [← hq] at hp hcat hcont hps hf
          have k1 : (pos : Int) + (wd : Int) = (q : Int) := by omega
          have hq0 : ((pos : Int) + (wd : Int)).toNat = q := by omega
          have hcn : ∀ W, Tabs W → Calls Tryd.prog 18 #[.string s, .int .i64 (q : Int)] W fun e w' => e = .returned (.tuple #[.int .i32 ((Utf8.decode s q).1 : Nat), .int .i64 ((Utf8.decode s q).2 : Nat)]) ∧ Below W.heap.size W w' := fun W hW => by
            have h := Next_any s (q : Int) W hW (by omega)
            have e9 : nextL (bl s) (q : Int) = Utf8.decode s q := by
              unfold nextL
              rw [if_neg (by rw [bl_length]; omega), Int.toNat_natCast, ← dec_at]
            rw [e9] at h
            exact h
          have hw1 := Lib.width_pos s q
          have hw2 := width_le s q hp
          obtain ⟨⟨sn2, wd2⟩, hd⟩ : ∃ d, Utf8.decode s q = d := ⟨_, rfl⟩
          rw [hd] at hw1 hw2 hcn hcat
          simp only at hw1 hw2 hcn hcat
          have CN := Lib.hid hcn; have HD := Lib.hid hd; have HC := Lib.hid hcont; have HCA := Lib.hid hcat; have HQ0 := Lib.hid hq0; have HQ := Lib.hid hq
          have hsz := HB.out.size
          rw [World.size_alloc] at hsz
          clear hcn hd hcont hcat hq0 hq
          by_cases g1 : sn2 = 10
          · subst g1
            go_wp2_with (go_at_call 18; refine (CN.out _ HT'.out).mono ?_; rintro e w2 ⟨rfl, hb2⟩)
            go_step3
            exact ⟨PJ_intro 2 rd q wd2 10 b r d rfl (HR.out.below hb2) HOK.out (HB.out.trans (hb2.mono hsz)) ⟨hp, HD.out, HC.out, rfl⟩ (by omega), by show 2 * (s.size - ((q : Int)).toNat) < 2 * (s.size - ((pos : Int) + (wd : Int)).toNat) + 1; rw [HQ0.out]; omega⟩
          by_cases g2 : sn2 = 35 ∨ sn2 = 9632 ∨ sn2 = 46 ∨ sn2 = 9633
          · rcases g2 with rfl | rfl | rfl | rfl
            all_goals
              go_wp2_with (go_at_call 18; refine (CN.out _ HT'.out).mono ?_; rintro e w2 ⟨rfl, hb2⟩)
              go_step3
              exact ⟨PJ_intro 3 rd q wd2 _ b r d rfl (HR.out.below hb2) HOK.out (HB.out.trans (hb2.mono hsz)) ⟨hp, HD.out, HC.out, by decide⟩ (by omega), by show 2 * (s.size - ((q : Int)).toNat) < 2 * (s.size - ((pos : Int) + (wd : Int)).toNat) + 1; rw [HQ0.out]; omega⟩
          by_cases g3 : sn2 = 124 ∨ sn2 = 95
          · rcases g3 with rfl | rfl
            all_goals
              go_wp2_with (go_at_call 18; refine (CN.out _ HT'.out).mono ?_; rintro e w2 ⟨rfl, hb2⟩)
              go_step3
              exact ⟨PJ_intro 4 rd q wd2 _ b r d rfl (HR.out.below hb2) HOK.out (HB.out.trans (hb2.mono hsz)) ⟨hp, HD.out, HC.out, by decide⟩ (by omega), by show 2 * (s.size - ((q : Int)).toNat) < 2 * (s.size - ((pos : Int) + (wd : Int)).toNat) + 1; rw [HQ0.out]; omega⟩
          have ck := fun W => Class_any (sn2 : Int) W
          have hsg : sg sn2 = if cls (sn2 : Int) = 3 then .blank else .none := by
            unfold sg
            rw [if_neg g1, if_neg (by omega), if_neg (by omega), if_neg (by omega), if_neg (by omega)]
          generalize hcl : cls (sn2 : Int) = q3 at *
          have m1 : ((sn2 : Int) == 10) = false := by simp; omega
          have m2 : ((sn2 : Int) == 35) = false := by simp; omega
          have m3 : ((sn2 : Int) == 9632) = false := by simp; omega
          have m4 : ((sn2 : Int) == 46) = false := by simp; omega
          have m5 : ((sn2 : Int) == 9633) = false := by simp; omega
          have m6 : ((sn2 : Int) == 124) = false := by simp; omega
          have m7 : ((sn2 : Int) == 95) = false := by simp; omega
          have CK := Lib.hid ck; have HCL := Lib.hid hcl
          clear ck hcl g1 g2 g3
          by_cases h3 : q3 = 3
          · have m8 : (q3 == 3) = true := by simp [h3]
            rw [if_pos h3] at hsg
            have hcat := HCA.out
            unfold stepS at hcat
            rw [hsg] at hcat
            simp only at hcat
            have HN := Lib.hid hcat
            have H3 := Lib.hid h3
            clear hsg hcat h3
            go_wp2_with (first | (go_at_call 18; refine (CN.out _ HT'.out).mono ?_; rintro e w2 ⟨rfl, hb2⟩) | (go_at_call 51; refine (CK.out _).mono ?_; rintro e w3 ⟨rfl, rfl⟩))
            go_step3
            exact ⟨PJ_intro 0 rd q wd2 _ b r d rfl (HR.out.below hb2) HOK.out (HB.out.trans (hb2.mono hsz)) ⟨hw2, HN.out.symm⟩ (by omega), by show 2 * (s.size - ((q : Int) + (wd2 : Int)).toNat) + 1 < 2 * (s.size - ((pos : Int) + (wd : Int)).toNat) + 1; rw [HQ0.out]; omega⟩
          · have m8 : (q3 == 3) = false := by simp [h3]
            rw [if_neg h3] at hsg
            have hcat := HCA.out
            unfold stepS at hcat
            rw [hsg] at hcat
            simp only at hcat
            have HN := Lib.hid hcat
            clear hsg hcat h3
            have hg := (HB.out.block w.heap.size (by simp)).trans (World.alloc_heap_new w grid0)
            have HG := Lib.hid hg; clear hg
            go_wp2_with (first | (go_at_call 18; refine (CN.out _ HT'.out).mono ?_; rintro e w2 ⟨rfl, hb2⟩; have hg2 := Lib.hid ((hb2.block w.heap.size (by omega)).trans HG.out); have c0 := Lib.cell_of_heap hg2.out 0; have c1 := Lib.cell_of_heap hg2.out 1; have c2 := Lib.cell_of_heap hg2.out 2; have c3 := Lib.cell_of_heap hg2.out 3; have c4 := Lib.cell_of_heap hg2.out 4; have f0 := Lib.frozen_of_heap hg2.out 0; have f1 := Lib.frozen_of_heap hg2.out 1; have f2 := Lib.frozen_of_heap hg2.out 2; have f3 := Lib.frozen_of_heap hg2.out 3; have f4 := Lib.frozen_of_heap hg2.out 4) | (go_at_call 51; refine (CK.out _).mono ?_; rintro e w3 ⟨rfl, rfl⟩))
            simp only [jumps]
            exact grid_bad rfl rfl rfl rfl (stored5 _ _ _ _ _ hg2.out) (below5 (HBW.out.trans (hb2.mono HBW.out.size)) (Nat.le_refl _)) HN.out
        · obtain hpe : pos + wd = s.size := by omega
          have HPE := Lib.hid hpe
          have k1 : (pos : Int) + (wd : Int) = (s.size : Int) := by omega
          rw [hpe] at hcont
          have HC := Lib.hid hcont
          clear hcont hpe
          go_wp2
          go_step3
          exact ⟨PJ_intro 1 rd s.size wd sn b r d rfl HR.out HOK.out HB.out ⟨rfl, HC.out⟩ (by have := HPE.out; omega), by show 0 < _ + 1; omega⟩
      · refine ⟨_, rfl, ?_⟩
        have hg := (HB.out.block w.heap.size (by simp)).trans (World.alloc_heap_new w grid0)
        have HG := Lib.hid hg; clear hg
        have hsz := HB.out.size
        rw [World.size_alloc] at hsz
        have hlt9 := HBW.out.size
        obtain ⟨hpe, hcont⟩ := hpl
        rw [contL_end s pos rd (by omega)] at hcont
        unfold endS at hcont
        cases hrow : rowS rd with
        | none =>
          rw [hrow] at hcont
          simp only at hcont
          have CR := Lib.hid (row_bad HR.out HOK.out hrow)
          have HN := Lib.hid hcont
          clear hrow hcont hpe
          go_wp2_with (go_at_call 54; refine CR.out.mono ?_; rintro e w2 ⟨rfl, hb2⟩; have hg2 := Lib.hid ((hb2.block w.heap.size (Nat.lt_succ_self _)).trans HG.out); have c0 := Lib.cell_of_heap hg2.out 0; have c1 := Lib.cell_of_heap hg2.out 1; have c2 := Lib.cell_of_heap hg2.out 2; have c3 := Lib.cell_of_heap hg2.out 3; have c4 := Lib.cell_of_heap hg2.out 4; have f0 := Lib.frozen_of_heap hg2.out 0; have f1 := Lib.frozen_of_heap hg2.out 1; have f2 := Lib.frozen_of_heap hg2.out 2; have f3 := Lib.frozen_of_heap hg2.out 3; have f4 := Lib.frozen_of_heap hg2.out 4)
          simp only [jumps]
          exact grid_bad rfl rfl rfl rfl (stored5 _ _ _ _ _ hg2.out) (below5 (HBW.out.trans (hb2.mono (Nat.le_succ _))) (Nat.le_refl _)) HN.out.symm
        | some t =>
          rw [hrow] at hcont
          simp only at hcont
          have CR := Lib.hid (row_good HR.out HOK.out hrow)
          have HOK2 := Lib.hid (rowS_ok hrow HOK.out).1
          clear hrow
          by_cases h0 : t.h = 0
          · rw [if_pos h0] at hcont
            have HN := Lib.hid hcont; have H0 := Lib.hid h0
            clear hcont hpe h0
            have z0 : ((t.h : Int) == 0) = true := by rw [H0.out]; rfl
            go_wp2_with (go_at_call 54; refine CR.out.mono ?_; rintro e w2 ⟨rfl, hb2, hr2⟩; have hg2 := Lib.hid ((hb2.block w.heap.size (Nat.lt_succ_self _)).trans HG.out); have c0 := Lib.cell_of_heap hg2.out 0; have c1 := Lib.cell_of_heap hg2.out 1; have c2 := Lib.cell_of_heap hg2.out 2; have c3 := Lib.cell_of_heap hg2.out 3; have c4 := Lib.cell_of_heap hg2.out 4; have f0 := Lib.frozen_of_heap hg2.out 0; have f1 := Lib.frozen_of_heap hg2.out 1; have f2 := Lib.frozen_of_heap hg2.out 2; have f3 := Lib.frozen_of_heap hg2.out 3; have f4 := Lib.frozen_of_heap hg2.out 4; have p0 := Lib.cell_of_heap hr2.blk 0)
            simp only [jumps]
            exact grid_bad rfl rfl rfl rfl (stored5 _ _ _ _ _ hg2.out) (below5 (HBW.out.trans (hb2.mono (Nat.le_succ _))) (Nat.le_refl _)) HN.out.symm
          · rw [if_neg h0] at hcont
            have z0 : ((t.h : Int) == 0) = false := by simp; omega
            have hsm := HOK2.out.small; have hrl := HOK2.out.r; have hdl := HOK2.out.d; have th := HOK2.out.h; have tw := HOK2.out.w
            have hck : ∀ W, RdAt (w.heap.size + 1) t W b r d → Calls Tryd.prog 55 #[.agg #[.int .i64 (t.h : Int), .int .i64 (t.w : Int), b, r, d]] W fun e w' => e = .returned (.int .i64 (checkG (gdOf t))) ∧ Below W.heap.size W w' := fun W hW =>
              Check_any _ (gdOf t) W.heap.size W ⟨⟨by show _ ≤ (t.h : Int); omega, by show (t.h : Int) ≤ _; omega⟩, ⟨by show _ ≤ (t.w : Int); omega, by show (t.w : Int) ≤ _; omega⟩, b, r, d, rfl, Sl.of_own hW.oB, Sl.of_own hW.oR, Sl.of_own hW.oD⟩ (Nat.le_refl _) ⟨by show t.B.length ≤ _; omega, by show t.R.length ≤ _; omega, by show t.D.length ≤ _; omega⟩
            obtain ⟨ck, hckv⟩ : ∃ ck, checkG (gdOf t) = ck := ⟨_, rfl⟩
            rw [hckv] at hck hcont
            have CK := Lib.hid hck; have H0 := Lib.hid h0
            clear hck h0 hpe hrl hdl hsm
            by_cases hc0 : ck = 0
            · rw [if_neg (by simp [hc0])] at hcont
              have y0 : (ck != 0) = false := by simp [hc0]
              have HN := Lib.hid hcont; have HC0 := Lib.hid hc0
              clear hcont hc0 hckv
              obtain ⟨Ab, cb, rfl⟩ := own_form6 HR.out.oB
              obtain ⟨Ar, cr, rfl⟩ := own_form6 HR.out.oR
              obtain ⟨Ad, cd, rfl⟩ := own_form6 HR.out.oD
              go_wp2_with (first
                | (go_at_call 54; refine CR.out.mono ?_; rintro e w2 ⟨rfl, hb2, hr2⟩; have hg2 := Lib.hid ((hb2.block w.heap.size (Nat.lt_succ_self _)).trans HG.out); have p0 := Lib.cell_of_heap hr2.blk 0; have p1 := Lib.cell_of_heap hr2.blk 1; have p2 := Lib.cell_of_heap hr2.blk 2; have p3 := Lib.cell_of_heap hr2.blk 3; have p4 := Lib.cell_of_heap hr2.blk 4)
                | (go_at_call 55; refine (CK.out _ hr2).mono ?_; rintro e w3 ⟨rfl, hb3⟩; have hr3 := hr2.below hb3; have hg2 := Lib.hid ((hb3.block w.heap.size (by have := hr2.lt; omega)).trans hg2.out); have c0 := Lib.cell_of_heap hg2.out 0; have c1 := Lib.cell_of_heap hg2.out 1; have c2 := Lib.cell_of_heap hg2.out 2; have c3 := Lib.cell_of_heap hg2.out 3; have c4 := Lib.cell_of_heap hg2.out 4; have f0 := Lib.frozen_of_heap hg2.out 0; have f1 := Lib.frozen_of_heap hg2.out 1; have f2 := Lib.frozen_of_heap hg2.out 2; have f3 := Lib.frozen_of_heap hg2.out 3; have f4 := Lib.frozen_of_heap hg2.out 4; have p0 := Lib.cell_of_heap hr3.blk 0; have p1 := Lib.cell_of_heap hr3.blk 1; have p2 := Lib.cell_of_heap hr3.blk 2; have p3 := Lib.cell_of_heap hr3.blk 3; have p4 := Lib.cell_of_heap hr3.blk 4))
              simp only [jumps]
              have lt2 : w.heap.size < w.heap.size + 1 + 1 := by omega
              exact grid_good (t := t) rfl rfl rfl rfl (stored5 _ _ _ _ _ hg2.out) (below5 ((HBW.out.trans (hb2.mono (Nat.le_succ _))).trans (hb3.mono (by have := hr2.lt; omega))) (Nat.le_refl _)) HOK2.out (own5 hr3.oB lt2) (own5 hr3.oR lt2) (own5 hr3.oD lt2) HN.out.symm
            · rw [if_pos hc0] at hcont
              have y0 : (ck != 0) = true := by simp [hc0]
              have HN := Lib.hid hcont; have HC0 := Lib.hid hc0
              clear hcont hc0 hckv
              go_wp2_with (first
                | (go_at_call 54; refine CR.out.mono ?_; rintro e w2 ⟨rfl, hb2, hr2⟩; have hg2 := Lib.hid ((hb2.block w.heap.size (Nat.lt_succ_self _)).trans HG.out); have p0 := Lib.cell_of_heap hr2.blk 0; have p1 := Lib.cell_of_heap hr2.blk 1; have p2 := Lib.cell_of_heap hr2.blk 2; have p3 := Lib.cell_of_heap hr2.blk 3; have p4 := Lib.cell_of_heap hr2.blk 4)
                | (go_at_call 55; refine (CK.out _ hr2).mono ?_; rintro e w3 ⟨rfl, hb3⟩; have hg2 := Lib.hid ((hb3.block w.heap.size (by have := hr2.lt; omega)).trans hg2.out); have c0 := Lib.cell_of_heap hg2.out 0; have c1 := Lib.cell_of_heap hg2.out 1; have c2 := Lib.cell_of_heap hg2.out 2; have c3 := Lib.cell_of_heap hg2.out 3; have c4 := Lib.cell_of_heap hg2.out 4; have f0 := Lib.frozen_of_heap hg2.out 0; have f1 := Lib.frozen_of_heap hg2.out 1; have f2 := Lib.frozen_of_heap hg2.out 2; have f3 := Lib.frozen_of_heap hg2.out 3; have f4 := Lib.frozen_of_heap hg2.out 4))
              simp only [jumps]
              exact grid_bad (a := 0) rfl rfl rfl rfl (stored5 _ _ _ _ _ hg2.out) (below5 ((HBW.out.trans (hb2.mono (Nat.le_succ _))).trans (hb3.mono (by have := hr2.lt; omega))) (Nat.le_refl _)) HN.out.symm
      · refine ⟨_, rfl, ?_⟩
        have hg := (HB.out.block w.heap.size (by simp)).trans (World.alloc_heap_new w grid0)
        have HG := Lib.hid hg; clear hg
        have hsz := HB.out.size
        rw [World.size_alloc] at hsz
        have hlt9 := HBW.out.size
        obtain ⟨hp, hd, hcont, hsn⟩ := hpl
        have hcat := contL_at s pos rd hp
        rw [hd, hcont] at hcat
        simp only at hcat
        have hw1 := Lib.width_pos s pos
        have hw2 := width_le s pos hp
        rw [hd] at hw1 hw2
        simp only at hw1 hw2
        have hq0 : ((pos : Int) + (wd : Int)).toNat = pos + wd := by omega
        have HQ0 := Lib.hid hq0
        clear hd hcont hq0
        subst hsn
        unfold stepS at hcat
        rw [show sg 10 = .line by decide] at hcat
        simp only at hcat
        cases hrow : rowS rd with
        | none =>
          rw [hrow] at hcat
          simp only at hcat
          have CR := Lib.hid (row_bad HR.out HOK.out hrow)
          have HN := Lib.hid hcat
          clear hrow hcat
          go_wp2_with (go_at_call 54; refine CR.out.mono ?_; rintro e w2 ⟨rfl, hb2⟩; have hg2 := Lib.hid ((hb2.block w.heap.size (Nat.lt_succ_self _)).trans HG.out); have c0 := Lib.cell_of_heap hg2.out 0; have c1 := Lib.cell_of_heap hg2.out 1; have c2 := Lib.cell_of_heap hg2.out 2; have c3 := Lib.cell_of_heap hg2.out 3; have c4 := Lib.cell_of_heap hg2.out 4; have f0 := Lib.frozen_of_heap hg2.out 0; have f1 := Lib.frozen_of_heap hg2.out 1; have f2 := Lib.frozen_of_heap hg2.out 2; have f3 := Lib.frozen_of_heap hg2.out 3; have f4 := Lib.frozen_of_heap hg2.out 4)
          simp only [jumps]
          exact grid_bad rfl rfl rfl rfl (stored5 _ _ _ _ _ hg2.out) (below5 (HBW.out.trans (hb2.mono (Nat.le_succ _))) (Nat.le_refl _)) HN.out
        | some t =>
          rw [hrow] at hcat
          simp only at hcat
          have CR := Lib.hid (row_good HR.out HOK.out hrow)
          have HOK2 := Lib.hid (rowS_ok hrow HOK.out).1
          have HN := Lib.hid hcat
          clear hrow hcat
          go_wp2_with (go_at_call 54; refine CR.out.mono ?_; rintro e w2 ⟨rfl, hb2, hr2⟩)
          go_step3
          exact ⟨PJ_intro 0 { t with f := pos + 1 } pos wd 10 b r d rfl (hr2.f _) (HOK2.out.setF _) (HB.out.trans hb2) ⟨hw2, HN.out.symm⟩ (by show pos + 1 ≤ pos + wd; omega), by show 2 * (s.size - ((pos : Int) + (wd : Int)).toNat) + 1 < 2 * (s.size - (pos : Int).toNat); rw [HQ0.out, Int.toNat_natCast]; omega⟩
      · refine ⟨_, rfl, ?_⟩
        have hg := (HB.out.block w.heap.size (by simp)).trans (World.alloc_heap_new w grid0)
        have HG := Lib.hid hg; clear hg
        have hsz := HB.out.size
        rw [World.size_alloc] at hsz
        have hlt9 := HBW.out.size
        obtain ⟨hp, hd, hcont, hsn⟩ := hpl
        have hcat := contL_at s pos rd hp
        rw [hd, hcont] at hcat
        simp only at hcat
        have hw1 := Lib.width_pos s pos
        have hw2 := width_le s pos hp
        rw [hd] at hw1 hw2
        simp only at hw1 hw2
        have hq0 : ((pos : Int) + (wd : Int)).toNat = pos + wd := by omega
        have HQ0 := Lib.hid hq0
        clear hd hcont hq0
        rcases hsn with rfl | rfl | rfl | rfl
        · unfold stepS at hcat
          rw [show sg 35 = .cell true by decide] at hcat
          simp only at hcat
          by_cases hfull : rd.c = 16 ∨ rd.h = 16
          · rw [if_pos hfull] at hcat
            simp only at hcat
            have CP := Lib.hid (put_full true HR.out HOK.out hfull)
            have HN := Lib.hid hcat
            clear hcat hfull
            have c0 := Lib.cell_of_heap HG.out 0; have c1 := Lib.cell_of_heap HG.out 1; have c2 := Lib.cell_of_heap HG.out 2; have c3 := Lib.cell_of_heap HG.out 3; have c4 := Lib.cell_of_heap HG.out 4; have f0 := Lib.frozen_of_heap HG.out 0; have f1 := Lib.frozen_of_heap HG.out 1; have f2 := Lib.frozen_of_heap HG.out 2; have f3 := Lib.frozen_of_heap HG.out 3; have f4 := Lib.frozen_of_heap HG.out 4
            go_wp2_with (go_at_call 52; refine CP.out.mono ?_; rintro e w2 ⟨rfl, rfl⟩)
            simp only [jumps]
            exact grid_bad rfl rfl rfl rfl (stored5 _ _ _ _ _ HG.out) (below5 HBW.out (Nat.le_refl _)) HN.out
          · rw [if_neg hfull] at hcat
            simp only at hcat
            have CP := Lib.hid (put_good true HR.out HOK.out hfull)
            have HOK2 := Lib.hid (HOK.out.put hfull true)
            have HN := Lib.hid hcat
            clear hcat hfull
            go_wp2_with (go_at_call 52; refine CP.out.mono ?_; rintro e w2 ⟨rfl, hb2, b', r', d', hr2⟩)
            go_step3
            exact ⟨PJ_intro 0 { rd with c := rd.c + 1, B := rd.B ++ [true], R := rd.R ++ [false], D := rd.D ++ [false] } pos wd _ b' r' d' rfl hr2 HOK2.out (HB.out.trans hb2) ⟨hw2, HN.out.symm⟩ hf, by show 2 * (s.size - ((pos : Int) + (wd : Int)).toNat) + 1 < 2 * (s.size - (pos : Int).toNat); rw [HQ0.out, Int.toNat_natCast]; omega⟩
        · unfold stepS at hcat
          rw [show sg 9632 = .cell true by decide] at hcat
          simp only at hcat
          by_cases hfull : rd.c = 16 ∨ rd.h = 16
          · rw [if_pos hfull] at hcat
            simp only at hcat
            have CP := Lib.hid (put_full true HR.out HOK.out hfull)
            have HN := Lib.hid hcat
            clear hcat hfull
            have c0 := Lib.cell_of_heap HG.out 0; have c1 := Lib.cell_of_heap HG.out 1; have c2 := Lib.cell_of_heap HG.out 2; have c3 := Lib.cell_of_heap HG.out 3; have c4 := Lib.cell_of_heap HG.out 4; have f0 := Lib.frozen_of_heap HG.out 0; have f1 := Lib.frozen_of_heap HG.out 1; have f2 := Lib.frozen_of_heap HG.out 2; have f3 := Lib.frozen_of_heap HG.out 3; have f4 := Lib.frozen_of_heap HG.out 4
            go_wp2_with (go_at_call 52; refine CP.out.mono ?_; rintro e w2 ⟨rfl, rfl⟩)
            simp only [jumps]
            exact grid_bad rfl rfl rfl rfl (stored5 _ _ _ _ _ HG.out) (below5 HBW.out (Nat.le_refl _)) HN.out
          · rw [if_neg hfull] at hcat
            simp only at hcat
            have CP := Lib.hid (put_good true HR.out HOK.out hfull)
            have HOK2 := Lib.hid (HOK.out.put hfull true)
            have HN := Lib.hid hcat
            clear hcat hfull
            go_wp2_with (go_at_call 52; refine CP.out.mono ?_; rintro e w2 ⟨rfl, hb2, b', r', d', hr2⟩)
            go_step3
            exact ⟨PJ_intro 0 { rd with c := rd.c + 1, B := rd.B ++ [true], R := rd.R ++ [false], D := rd.D ++ [false] } pos wd _ b' r' d' rfl hr2 HOK2.out (HB.out.trans hb2) ⟨hw2, HN.out.symm⟩ hf, by show 2 * (s.size - ((pos : Int) + (wd : Int)).toNat) + 1 < 2 * (s.size - (pos : Int).toNat); rw [HQ0.out, Int.toNat_natCast]; omega⟩
        · unfold stepS at hcat
          rw [show sg 46 = .cell false by decide] at hcat
          simp only at hcat
          by_cases hfull : rd.c = 16 ∨ rd.h = 16
          · rw [if_pos hfull] at hcat
            simp only at hcat
            have CP := Lib.hid (put_full false HR.out HOK.out hfull)
            have HN := Lib.hid hcat
            clear hcat hfull
            have c0 := Lib.cell_of_heap HG.out 0; have c1 := Lib.cell_of_heap HG.out 1; have c2 := Lib.cell_of_heap HG.out 2; have c3 := Lib.cell_of_heap HG.out 3; have c4 := Lib.cell_of_heap HG.out 4; have f0 := Lib.frozen_of_heap HG.out 0; have f1 := Lib.frozen_of_heap HG.out 1; have f2 := Lib.frozen_of_heap HG.out 2; have f3 := Lib.frozen_of_heap HG.out 3; have f4 := Lib.frozen_of_heap HG.out 4
            go_wp2_with (go_at_call 52; refine CP.out.mono ?_; rintro e w2 ⟨rfl, rfl⟩)
            simp only [jumps]
            exact grid_bad rfl rfl rfl rfl (stored5 _ _ _ _ _ HG.out) (below5 HBW.out (Nat.le_refl _)) HN.out
          · rw [if_neg hfull] at hcat
            simp only at hcat
            have CP := Lib.hid (put_good false HR.out HOK.out hfull)
            have HOK2 := Lib.hid (HOK.out.put hfull false)
            have HN := Lib.hid hcat
            clear hcat hfull
            go_wp2_with (go_at_call 52; refine CP.out.mono ?_; rintro e w2 ⟨rfl, hb2, b', r', d', hr2⟩)
            go_step3
            exact ⟨PJ_intro 0 { rd with c := rd.c + 1, B := rd.B ++ [false], R := rd.R ++ [false], D := rd.D ++ [false] } pos wd _ b' r' d' rfl hr2 HOK2.out (HB.out.trans hb2) ⟨hw2, HN.out.symm⟩ hf, by show 2 * (s.size - ((pos : Int) + (wd : Int)).toNat) + 1 < 2 * (s.size - (pos : Int).toNat); rw [HQ0.out, Int.toNat_natCast]; omega⟩
        · unfold stepS at hcat
          rw [show sg 9633 = .cell false by decide] at hcat
          simp only at hcat
          by_cases hfull : rd.c = 16 ∨ rd.h = 16
          · rw [if_pos hfull] at hcat
            simp only at hcat
            have CP := Lib.hid (put_full false HR.out HOK.out hfull)
            have HN := Lib.hid hcat
            clear hcat hfull
            have c0 := Lib.cell_of_heap HG.out 0; have c1 := Lib.cell_of_heap HG.out 1; have c2 := Lib.cell_of_heap HG.out 2; have c3 := Lib.cell_of_heap HG.out 3; have c4 := Lib.cell_of_heap HG.out 4; have f0 := Lib.frozen_of_heap HG.out 0; have f1 := Lib.frozen_of_heap HG.out 1; have f2 := Lib.frozen_of_heap HG.out 2; have f3 := Lib.frozen_of_heap HG.out 3; have f4 := Lib.frozen_of_heap HG.out 4
            go_wp2_with (go_at_call 52; refine CP.out.mono ?_; rintro e w2 ⟨rfl, rfl⟩)
            simp only [jumps]
            exact grid_bad rfl rfl rfl rfl (stored5 _ _ _ _ _ HG.out) (below5 HBW.out (Nat.le_refl _)) HN.out
          · rw [if_neg hfull] at hcat
            simp only at hcat
            have CP := Lib.hid (put_good false HR.out HOK.out hfull)
            have HOK2 := Lib.hid (HOK.out.put hfull false)
            have HN := Lib.hid hcat
            clear hcat hfull
            go_wp2_with (go_at_call 52; refine CP.out.mono ?_; rintro e w2 ⟨rfl, hb2, b', r', d', hr2⟩)
            go_step3
            exact ⟨PJ_intro 0 { rd with c := rd.c + 1, B := rd.B ++ [false], R := rd.R ++ [false], D := rd.D ++ [false] } pos wd _ b' r' d' rfl hr2 HOK2.out (HB.out.trans hb2) ⟨hw2, HN.out.symm⟩ hf, by show 2 * (s.size - ((pos : Int) + (wd : Int)).toNat) + 1 < 2 * (s.size - (pos : Int).toNat); rw [HQ0.out, Int.toNat_natCast]; omega⟩
      · refine ⟨_, rfl, ?_⟩
        have hg := (HB.out.block w.heap.size (by simp)).trans (World.alloc_heap_new w grid0)
        have HG := Lib.hid hg; clear hg
        have hsz := HB.out.size
        rw [World.size_alloc] at hsz
        have hlt9 := HBW.out.size
        obtain ⟨hp, hd, hcont, hsn⟩ := hpl
        have hcat := contL_at s pos rd hp
        rw [hd, hcont] at hcat
        simp only at hcat
        have hw1 := Lib.width_pos s pos
        have hw2 := width_le s pos hp
        rw [hd] at hw1 hw2
        simp only at hw1 hw2
        have hq0 : ((pos : Int) + (wd : Int)).toNat = pos + wd := by omega
        have HQ0 := Lib.hid hq0
        clear hd hcont hq0
        unfold stepS at hcat
        rcases hsn with rfl | rfl
        · have p9 := Lib.cell_of_heap HR.out.blk 3
          rw [show sg 124 = .right by decide] at hcat
          simp only at hcat
          cases hbar : barL rd.c rd.R with
          | none =>
            rw [hbar] at hcat
            simp only at hcat
            have CP := Lib.hid (barR_no HR.out HOK.out hbar)
            have HN := Lib.hid hcat
            clear hcat hbar
            have c0 := Lib.cell_of_heap HG.out 0; have c1 := Lib.cell_of_heap HG.out 1; have c2 := Lib.cell_of_heap HG.out 2; have c3 := Lib.cell_of_heap HG.out 3; have c4 := Lib.cell_of_heap HG.out 4; have f0 := Lib.frozen_of_heap HG.out 0; have f1 := Lib.frozen_of_heap HG.out 1; have f2 := Lib.frozen_of_heap HG.out 2; have f3 := Lib.frozen_of_heap HG.out 3; have f4 := Lib.frozen_of_heap HG.out 4
            go_wp2_with (go_at_call 53; refine CP.out.mono ?_; rintro e w2 ⟨rfl, rfl⟩)
            simp only [jumps]
            exact grid_bad rfl rfl rfl rfl (stored5 _ _ _ _ _ HG.out) (below5 HBW.out (Nat.le_refl _)) HN.out
          | some k =>
            rw [hbar] at hcat
            simp only at hcat
            have CP := Lib.hid (barR_yes HR.out HOK.out hbar)
            have HOK2 : Hid (RdOk { rd with R := k }) := Lib.hid (by
              have hc : rd.c ≠ 0 := fun h => by unfold barL at hbar; rw [if_pos (.inl h)] at hbar; cases hbar
              exact HOK.out.setR (barL_len hbar (fun e => by have h1 := HOK.out.ne hc; have h2 := HOK.out.r; rw [e, List.length_nil] at h2; omega)))
            have HN := Lib.hid hcat
            clear hcat hbar
            go_wp2_with (go_at_call 53; refine CP.out.mono ?_; rintro e w2 ⟨rfl, hb2, hr2⟩)
            go_step3
            exact ⟨PJ_intro 0 { rd with R := k } pos wd _ b r d rfl hr2 HOK2.out (HB.out.trans hb2) ⟨hw2, HN.out.symm⟩ hf, by show 2 * (s.size - ((pos : Int) + (wd : Int)).toNat) + 1 < 2 * (s.size - (pos : Int).toNat); rw [HQ0.out, Int.toNat_natCast]; omega⟩
        · have p9 := Lib.cell_of_heap HR.out.blk 4
          rw [show sg 95 = .below by decide] at hcat
          simp only at hcat
          cases hbar : barL rd.c rd.D with
          | none =>
            rw [hbar] at hcat
            simp only at hcat
            have CP := Lib.hid (barD_no HR.out HOK.out hbar)
            have HN := Lib.hid hcat
            clear hcat hbar
            have c0 := Lib.cell_of_heap HG.out 0; have c1 := Lib.cell_of_heap HG.out 1; have c2 := Lib.cell_of_heap HG.out 2; have c3 := Lib.cell_of_heap HG.out 3; have c4 := Lib.cell_of_heap HG.out 4; have f0 := Lib.frozen_of_heap HG.out 0; have f1 := Lib.frozen_of_heap HG.out 1; have f2 := Lib.frozen_of_heap HG.out 2; have f3 := Lib.frozen_of_heap HG.out 3; have f4 := Lib.frozen_of_heap HG.out 4
            go_wp2_with (go_at_call 53; refine CP.out.mono ?_; rintro e w2 ⟨rfl, rfl⟩)
            simp only [jumps]
            exact grid_bad rfl rfl rfl rfl (stored5 _ _ _ _ _ HG.out) (below5 HBW.out (Nat.le_refl _)) HN.out
          | some k =>
            rw [hbar] at hcat
            simp only at hcat
            have CP := Lib.hid (barD_yes HR.out HOK.out hbar)
            have HOK2 : Hid (RdOk { rd with D := k }) := Lib.hid (by
              have hc : rd.c ≠ 0 := fun h => by unfold barL at hbar; rw [if_pos (.inl h)] at hbar; cases hbar
              exact HOK.out.setD (barL_len hbar (fun e => by have h1 := HOK.out.ne hc; have h2 := HOK.out.d; rw [e, List.length_nil] at h2; omega)))
            have HN := Lib.hid hcat
            clear hcat hbar
            go_wp2_with (go_at_call 53; refine CP.out.mono ?_; rintro e w2 ⟨rfl, hb2, hr2⟩)
            go_step3
            exact ⟨PJ_intro 0 { rd with D := k } pos wd _ b r d rfl hr2 HOK2.out (HB.out.trans hb2) ⟨hw2, HN.out.symm⟩ hf, by show 2 * (s.size - ((pos : Int) + (wd : Int)).toNat) + 1 < 2 * (s.size - (pos : Int).toNat); rw [HQ0.out, Int.toNat_natCast]; omega⟩
end Go.Proofs.YtlkabghpcjlohaaDoor
