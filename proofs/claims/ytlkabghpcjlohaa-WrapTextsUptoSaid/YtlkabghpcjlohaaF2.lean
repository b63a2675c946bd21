/- Walk of package fold's Plain: a rune without its accent. -/
import Derived.Test.YtlkabghpcjlohaaF1
namespace Go.Proofs.Ytlkabghpcjlohaa
set_option linter.unusedVariables false
set_option linter.unusedSimpArgs false
open Go.RowKit Go.Lib

/-- an even step from lo to hi -/
abbrev amg (n lo hi : Int) : Prop := lo ≤ n ∧ n ≤ hi ∧ (n - lo) % 2 = 0
/-- the letters without their accents; none: the rune stands for itself -/
def plainL (n : Int) : List UInt8 :=
  if (192 ≤ n ∧ n ≤ 197) ∨ amg n 256 260 then [65]
  else if n = 198 then [65, 69]
  else if n = 199 ∨ amg n 262 268 then [67]
  else if amg n 270 272 then [68]
  else if (200 ≤ n ∧ n ≤ 203) ∨ amg n 274 282 then [69]
  else if amg n 284 290 then [71]
  else if amg n 292 294 then [72]
  else if (204 ≤ n ∧ n ≤ 207) ∨ amg n 296 304 then [73]
  else if n = 308 then [74]
  else if n = 310 then [75]
  else if amg n 313 321 then [76]
  else if n = 209 ∨ amg n 323 327 then [78]
  else if (210 ≤ n ∧ n ≤ 214) ∨ n = 216 ∨ amg n 332 336 then [79]
  else if n = 338 then [79, 69]
  else if amg n 340 344 then [82]
  else if amg n 346 352 then [83]
  else if n = 223 then [83, 83]
  else if amg n 354 358 then [84]
  else if (217 ≤ n ∧ n ≤ 220) ∨ amg n 360 370 then [85]
  else if n = 372 then [87]
  else if n = 221 ∨ n = 374 ∨ n = 376 then [89]
  else if amg n 377 381 then [90]
  else []
def plainB (n : Int) : ByteArray := if plainL n = [] then Utf8.encode n else ⟨(plainL n).toArray⟩
theorem plainB_none {n : Int} (h : n < 192 ∨ 381 < n) : plainB n = Utf8.encode n := by
  have : plainL n = [] := by
    unfold plainL
    repeat rw [if_neg (by (try simp only [amg]); omega)]
  simp [plainB, this]
abbrev plainKeys : List Int := [198, 338, 223, 192, 193, 194, 195, 196, 197, 256, 258, 260, 199, 262, 264, 266, 268, 270, 272, 200, 201, 202, 203, 274, 276, 278, 280, 282, 284, 286, 288, 290, 292, 294,
  204, 205, 206, 207, 296, 298, 300, 302, 304, 308, 310, 313, 315, 317, 319, 321, 209, 323, 325, 327, 210, 211, 212, 213, 214, 216, 332, 334, 336, 340, 342, 344, 346, 348, 350, 352, 354, 356, 358,
  217, 218, 219, 220, 360, 362, 364, 366, 368, 370, 372, 221, 374, 376, 377, 379, 381]
theorem plain_tab : ∀ x : Fin 190, plainL ((x.val : Int) + 192) = [] ∨ plainKeys.any (fun c => ((x.val : Int) + 192) == c) = true := by decide +kernel
theorem plain_else {n : Int} (h : plainKeys.any (fun c => n == c) = false) : plainB n = Utf8.encode n := by
  by_cases h1 : 192 ≤ n ∧ n ≤ 381
  · have := plain_tab ⟨(n - 192).toNat, by omega⟩
    have e : (((⟨(n - 192).toNat, by omega⟩ : Fin 190).val : Nat) : Int) + 192 = n := by simp only; omega
    rw [e] at this
    rcases this with h2 | h2
    · simp [plainB, h2]
    · rw [h] at h2; cases h2
  · exact plainB_none (by omega)
theorem plain_at (n : Int) (l : List UInt8) (h : plainL n = l) (hl : l ≠ []) : plainB n = ⟨l.toArray⟩ := by
  subst h; simp [plainB, hl]

set_option maxHeartbeats 16000000 in
set_option maxRecDepth 100000 in
theorem Plain_any (r : Int) (w : World) (h0 : -2147483648 ≤ r) (h1 : r ≤ 2147483647) : Calls Try.prog 37 #[.int .i32 r] w fun e w' => e = .returned (.string (plainB r)) ∧ w = w' := by
  have cE := Encode_any r w h0 h1
  generalize hE : Utf8.encode r = E at cE
  have HE := Lib.hid hE; clear hE
  have HC := Lib.hid cE; clear cE
  go_enter Try.func37, Try.ntmps37
  go_wp2_with (go_at_call 39; refine HC.out.mono ?_; rintro e w1 ⟨rfl, rfl⟩)
  all_goals go_ret
  all_goals first
    | (rename_i hh; refine ⟨ret_s ?_, rfl⟩; have hh' := beq_iff_eq.1 hh; subst hh'; exact (plain_at _ _ (by decide +kernel) (by decide)).symm)
    | (refine ⟨ret_s ?_, rfl⟩; rw [plain_else (by simp only [List.any_cons, List.any_nil, Bool.or_false, Bool.or_self, *]), HE.out])
end Go.Proofs.Ytlkabghpcjlohaa
