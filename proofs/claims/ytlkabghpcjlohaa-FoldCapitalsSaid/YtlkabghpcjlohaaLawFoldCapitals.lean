/- FoldCapitals: for every rune the call returns true. -/
import Derived.Test.YtlkabghpcjlohaaF4
namespace Go.Proofs.Ytlkabghpcjlohaa
set_option linter.unusedVariables false
set_option linter.unusedSimpArgs false
open Go.RowKit Go.Lib

theorem upr_upr (n : Int) : upr (upr n) = upr n := by
  by_cases h : 0 ≤ n ∧ n < 1200
  · have t : ∀ x : Fin 1200, upr (upr (x.val : Int)) = upr (x.val : Int) := by decide +kernel
    have := t ⟨n.toNat, by omega⟩
    rwa [show (((⟨n.toNat, by omega⟩ : Fin 1200).val : Nat) : Int) = n by simp only; omega] at this
  · have e : upr n = n := by
      unfold upr
      repeat rw [if_neg (by omega)]
    rw [e, e]
theorem cls_upr (n : Int) : cls (upr n) = cls n := by
  by_cases h : 0 ≤ n ∧ n < 1200
  · have t : ∀ x : Fin 1200, cls (upr (x.val : Int)) = cls (x.val : Int) := by decide +kernel
    have := t ⟨n.toNat, by omega⟩
    rwa [show (((⟨n.toNat, by omega⟩ : Fin 1200).val : Nat) : Int) = n by simp only; omega] at this
  · have e : upr n = n := by
      unfold upr
      repeat rw [if_neg (by omega)]
    rw [e]
theorem upr_i32 (n : Int) (h0 : -2147483648 ≤ n) (h1 : n ≤ 2147483647) : -2147483648 ≤ upr n ∧ upr n ≤ 2147483647 := by
  unfold upr
  repeat' split
  all_goals omega
theorem cls_range {n : Int} (h : cls n = 1) : 65 ≤ n ∧ n < 1200 := by
  unfold cls at h
  repeat' split at h
  all_goals omega
/-- a rune that is a plain capital letter -/
def goodC (x : Int) : Prop := cls x = 1 ∧ upr x = x ∧ plainB x = Utf8.encode x
theorem good_plain (n : Int) (h : cls n = 1) (hu : upr n = n) : (∀ x ∈ runes (bl (plainB n)), goodC (x : Int)) ∧ 0 < (plainB n).size := by
  obtain ⟨h0, h1⟩ := cls_range h
  obtain ⟨k, rfl⟩ : ∃ k : Nat, n = k := ⟨n.toNat, by omega⟩
  by_cases hp : plainL (k : Int) = []
  · have e : plainB (k : Int) = Utf8.encode k := by simp [plainB, hp]
    have hc := chop_enc (k : Int) []
    rw [List.append_nil, chop_nil] at hc
    have hf : fixr (k : Int) = k := by
      have hv : Utf8.valid (k : Int) = true := by rw [valid_iff]; omega
      simp [fixr, hv]
    refine ⟨fun x hx => ?_, ?_⟩
    · rw [e, encode_bytes] at hx
      unfold runes at hx
      rw [hc, hf] at hx
      simp only [List.map_cons, List.map_nil, List.mem_singleton] at hx
      subst hx
      exact ⟨h, hu, e⟩
    · rw [e, ← bl_length, encode_bytes]; exact (enc_length _).1
  · have e : plainB (k : Int) = ⟨(plainL k).toArray⟩ := by simp [plainB, hp]
    have t : ∀ x : Fin 190, ((runes (plainL ((x.val : Int) + 192))).all fun r => decide (65 ≤ r ∧ r ≤ 90)) = true := by decide +kernel
    have hk : 192 ≤ k ∧ k ≤ 381 := by
      rcases Nat.lt_or_ge k 192 with h2 | h2
      · exfalso; apply hp; unfold plainL; repeat rw [if_neg (by (try simp only [amg]); omega)]
      · rcases Nat.lt_or_ge 381 k with h3 | h3
        · exfalso; apply hp; unfold plainL; repeat rw [if_neg (by (try simp only [amg]); omega)]
        · exact ⟨h2, h3⟩
    have ht := t ⟨k - 192, by omega⟩
    rw [show (((⟨k - 192, by omega⟩ : Fin 190).val : Nat) : Int) + 192 = (k : Int) by simp only; omega] at ht
    refine ⟨fun x hx => ?_, ?_⟩
    · rw [e, bl_mk] at hx
      have hx2 := List.all_eq_true.1 ht x hx
      simp only [decide_eq_true_eq] at hx2
      have g : ∀ y : Fin 26, cls ((y.val : Int) + 65) = 1 ∧ upr ((y.val : Int) + 65) = (y.val : Int) + 65 ∧ plainL ((y.val : Int) + 65) = [] := by decide +kernel
      have := g ⟨x - 65, by omega⟩
      rw [show (((⟨x - 65, by omega⟩ : Fin 26).val : Nat) : Int) + 65 = (x : Int) by simp only; omega] at this
      exact ⟨this.1, this.2.1, by simp [plainB, this.2.2]⟩
    · rw [e, ← bl_length, bl_mk]
      exact List.length_pos_iff.2 hp

set_option maxHeartbeats 4000000 in
set_option maxRecDepth 100000 in
theorem foldCapitals_any (r : Int) (w : World) (h0 : -2147483648 ≤ r) (h1 : r ≤ 2147483647) :
    Calls Try.prog 9 #[.int .i32 r] w fun e w' => e = .returned (.bool true) ∧ Below w.heap.size w w' := by
  obtain ⟨u0, u1⟩ := upr_i32 r h0 h1
  have HA : From w 32 #[] (.bool true) := .below fun W _ => awake2_any W
  have HU := From.upr w r h0 h1
  have HUU := From.upr w (upr r) u0 u1
  rw [upr_upr] at HUU
  have HCr := From.cls w r
  have HCu := From.cls w (upr r)
  rw [cls_upr] at HCu
  have HP := From.plain w (upr r) u0 u1
  have hgood := good_plain (upr r)
  rw [cls_upr, upr_upr] at hgood
  have hb0 := Below.refl w.heap.size w
  have hp4 := plainB_le (upr r)
  generalize hcq : cls r = q at *
  by_cases hq : q = 1
  · obtain ⟨g1, g2⟩ := hgood hq rfl
    have hqb : (q != 1) = false := by simp [hq]
    have hcc : (q != q) = false := by simp
    clear hgood hcq hq
    generalize plainB (upr r) = P at *
    generalize upr r = u at *
    have HG := Lib.hid g1; clear g1
    go_enter Try.func9, Try.ntmps9
    go_wp2_with (first
      | (go_at_call 32; (with_reducible refine (HA.at_ (by assumption)).mono ?_); rintro e wq0 ⟨rfl, hbq0⟩)
      | (go_at_call 35; (with_reducible refine (HU.at_ (by assumption)).mono ?_); rintro e wq1 ⟨rfl, hbq1⟩)
      | (go_at_call 35; (with_reducible refine (HUU.at_ (by assumption)).mono ?_); rintro e wq1 ⟨rfl, hbq1⟩)
      | (go_at_call 33; (with_reducible refine (HCr.at_ (by assumption)).mono ?_); rintro e wq2 ⟨rfl, hbq2⟩)
      | (go_at_call 33; (with_reducible refine (HCu.at_ (by assumption)).mono ?_); rintro e wq2 ⟨rfl, hbq2⟩)
      | (go_at_call 37; (with_reducible refine (HP.at_ (by assumption)).mono ?_); rintro e wq3 ⟨rfl, hbq3⟩))
    go_loopg [6] P.size (fun gf _ wr => ∃ pos : Nat, wr.heap[wq3.heap.size]? = some (.stringIter P pos) ∧ Below w.heap.size w wr ∧ Hid (∀ x ∈ runes ((bl P).drop pos), goodC (x : Int)) ∧ P.size ≤ pos + gf)
    case atStart => exact ⟨0, World.iter_heap wq3 P 0, hbq3.alloc hbq3.size _, Lib.hid (by simpa using HG.out), by omega⟩
    case round =>
      obtain ⟨pos, hit, hbw, hgd, hfu⟩ := hrel
      by_cases hp : pos < P.size
      · obtain ⟨g', rfl⟩ : ∃ g', gk = g' + 1 := ⟨gk - 1, by omega⟩
        have hnx : ∀ ty, (Instr.next (.pointer (some ⟨wq3.heap.size, 0, none⟩)) true ty).run Try.prog wr = _ := fun ty => Lib.run_next_any_at wr wq3.heap.size P pos ty hit hp
        have hwd := Lib.width_pos P pos
        have hgo := hgd.out
        unfold runes at hgo
        rw [chop_at P pos hp, List.map_cons] at hgo
        obtain ⟨q1, q2, q3⟩ := hgo _ (List.mem_cons_self ..)
        have hgn : Hid (∀ x ∈ runes ((bl P).drop (pos + (Utf8.decode P pos).2)), goodC (x : Int)) := Lib.hid (fun x hx => hgo x (List.mem_cons_of_mem _ hx))
        have hit2 := Lib.iterAt_heap wr wq3.heap.size P pos (pos + (Utf8.decode P pos).2) hit
        have hbw2 := Lib.below_iterAt hbw (k := wq3.heap.size) hbq3.size P (pos + (Utf8.decode P pos).2)
        have hrl := Lib.rune_le P pos
        have kC := fun W => Class_any ((Utf8.decode P pos).1 : Int) W
        have kU := fun W => Upper_any ((Utf8.decode P pos).1 : Int) W (by omega) (by omega)
        have kP := fun W => Plain_any ((Utf8.decode P pos).1 : Int) W (by omega) (by omega)
        have kE := fun W => Encode_any ((Utf8.decode P pos).1 : Int) W (by omega) (by omega)
        rw [q1] at kC
        rw [q2] at kU
        rw [q3] at kP
        clear hgo q1 q2 q3 hgd
        have hxx : (((Utf8.decode P pos).1 : Int) != ((Utf8.decode P pos).1 : Int)) = false := by simp
        generalize Utf8.encode ((Utf8.decode P pos).1 : Int) = E at *
        generalize Utf8.decode P pos = d at *
        have KC := Lib.hid kC; have KU := Lib.hid kU; have KP := Lib.hid kP; have KE := Lib.hid kE
        clear kC kU kP kE
        go_wp2_with (first
          | (go_at_call 33; refine (KC.out _).mono ?_; rintro e W1 ⟨rfl, rfl⟩)
          | (go_at_call 35; refine (KU.out _).mono ?_; rintro e W1 ⟨rfl, rfl⟩)
          | (go_at_call 37; refine (KP.out _).mono ?_; rintro e W1 ⟨rfl, rfl⟩)
          | (go_at_call 39; refine (KE.out _).mono ?_; rintro e W1 ⟨rfl, rfl⟩))
        go_roundg g'
        case measure => omega
        case rel => exact ⟨_, hit2, hbw2, hgn, by omega⟩
      · have hnx : ∀ ty, (Instr.next (.pointer (some ⟨wq3.heap.size, 0, none⟩)) true ty).run Try.prog wr = _ := fun ty => Lib.run_next_end_at wr wq3.heap.size P pos ty hit hp
        have g3 : (0 : Int) < (P.size : Int) := by omega
        go_wp2
        go_ret
        exact ⟨rfl, hbw⟩
  · have hqb : (q != 1) = true := by simpa using hq
    have hcc : (q != q) = false := by simp
    clear hgood hcq hq hp4
    generalize plainB (upr r) = P at *
    generalize upr r = u at *
    go_enter Try.func9, Try.ntmps9
    go_wp2_with (first
      | (go_at_call 32; (with_reducible refine (HA.at_ (by assumption)).mono ?_); rintro e wq0 ⟨rfl, hbq0⟩)
      | (go_at_call 35; (with_reducible refine (HU.at_ (by assumption)).mono ?_); rintro e wq1 ⟨rfl, hbq1⟩)
      | (go_at_call 35; (with_reducible refine (HUU.at_ (by assumption)).mono ?_); rintro e wq1 ⟨rfl, hbq1⟩)
      | (go_at_call 33; (with_reducible refine (HCr.at_ (by assumption)).mono ?_); rintro e wq2 ⟨rfl, hbq2⟩)
      | (go_at_call 33; (with_reducible refine (HCu.at_ (by assumption)).mono ?_); rintro e wq2 ⟨rfl, hbq2⟩))
    go_ret
    exact ⟨rfl, by assumption⟩
end Go.Proofs.Ytlkabghpcjlohaa
