/-
  math.Ldexp and Floor; ratio.pack: 64 digits and what is behind them as the nearest float.
-/
import Derived.Test.YtcnhgblpeonmgaaRtFrexp
import Derived.Test.YtcnhgblpeonmgaaWdDiv64
namespace Go.Proofs.Ytcnhgblpeonmgaa
open Go.RowKit
set_option linter.unusedVariables false
set_option linter.unusedSimpArgs false
attribute [local go_sem high] binOp_lss64 binOp_gtr64 binOp_geq64 binOp_leq64 binOp_eql64 binOp_neq64 f64bits frombits

theorem ldexp_any (b : Nat) (x : Int) (h : Norm64 b) (hx : -2000 ≤ x ∧ x ≤ 2000) (h1 : 1 ≤ x + (b / 4503599627370496 : Nat)) (h2 : x + (b / 4503599627370496 : Nat) ≤ 2046) (w : World) :
    Calls Try.prog 34 #[.float .f64 b, .int .i64 x] w fun e w' => e = .returned (.float .f64 (b + x * 4503599627370496).toNat) ∧ w = w' := by
  have F := ldexp_in b x h hx h1 h2
  generalize ((b : Int) + x * 4503599627370496).toNat = r at F ⊢
  clear h1 h2
  go_enter Try.func34, Try.ntmps34
  go_wp2_with (go_at_call 44; refine (F _).mono ?_; rintro e w' ⟨rfl, rfl⟩)
  simp [bodyPost, results, Try.results34, go_sem]

theorem archFloor_run {b : Nat} (h : Fin64 b) (w : World) : (callFunc 45 #[.float .f64 b]).run Try.prog w = .ok (.value (.float .f64 (Ieee.double.write ((Ieee.double.read b).integral .down)))) w := by
  rw [run_callFunc_extern Try.func45 (by kernel_rfl) (by kernel_rfl) (by kernel_rfl) (e := Extern.MathFloor.toIntegral "math.archFloor" .down) (by kernel_rfl)]
  have e : (Extern.MathFloor.toIntegral "math.archFloor" .down #[.float .f64 b]).run Try.prog w = .ok (.float .f64 (Ieee.double.write ((Ieee.double.read b).integral .down))) w := by
    unfold Extern.MathFloor.toIntegral
    show Sem.run Try.prog (match Ieee.double.read b with | .nan s t => _ | d => _) w = _
    rw [read_fin h]; rfl
  rw [e]; rfl

theorem floor_any {b : Nat} (h : Fin64 b) (w : World) : Calls Try.prog 39 #[.float .f64 b] w fun e w' => e = .returned (.float .f64 (Ieee.double.write ((Ieee.double.read b).integral .down))) ∧ w = w' := by
  have F := fun W => archFloor_run h W
  generalize Ieee.double.write ((Ieee.double.read b).integral .down) = r at F ⊢
  go_enter Try.func39, Try.ntmps39
  go_wp2
  simp [bodyPost, results, Try.results39, go_sem]

/-- A whole number that is a float's value, as a float. -/
theorem ofInt_exact (n r : Nat) (hr : r ≤ INF) (h : val r = n * S) : floatOfInt .f64 (n : Int) = r := by
  show Ieee.double.write (.number (decide ((n : Int) < 0)) (n : Int).natAbs 0) = r
  rw [decide_eq_false (by omega : ¬ (n : Int) < 0), Int.natAbs_natCast]
  have e1 : ((0 : Int) + 1074).toNat = Q := by have := Q_eq; omega
  have e2 : ((-1074 : Int) - 0).toNat = 0 := by omega
  exact write_exact false n 0 r hr (by rw [e1, e2, h, S_eq]; simp)
theorem ofInt_53 (n : Nat) (h1 : 4503599627370496 ≤ n) (h2 : n ≤ 9007199254740992) : floatOfInt .f64 (n : Int) = 1074 * 4503599627370496 + n := by
  refine ofInt_exact n _ (by have := INF_lit; omega) ?_
  rw [val_em 1074 n (.inl h1) h2, S_eq, Q_eq]

/-- 64 digits cut to 53, and rounded. -/
def pk (m : Nat) (more : Bool) : Nat := m / 2048 + (if 1024 < m % 2048 ∨ m % 2048 = 1024 ∧ (more = true ∨ m / 2048 % 2 = 1) then 1 else 0)

theorem lz_zero (m : Nat) (h1 : 9223372036854775808 ≤ m) (h2 : m < 18446744073709551616) : lz (m : Int) = 0 := by
  obtain ⟨a, b, c, d⟩ := lz_spec (m : Int) (by omega) (by omega)
  rcases Nat.eq_zero_or_pos (lz (m : Int)).toNat with h | h
  · omega
  · exfalso
    obtain ⟨k, hk⟩ : ∃ k, (lz (m : Int)).toNat = k + 1 := ⟨(lz (m : Int)).toNat - 1, by omega⟩
    rw [hk, Int.pow_succ] at d
    have : (1 : Int) ≤ 2 ^ k := by exact_mod_cast Nat.one_le_two_pow
    have h3 : (m : Int) * 1 ≤ (m : Int) * 2 ^ k := Int.mul_le_mul_of_nonneg_left this (by omega)
    have h4 : (m : Int) * (2 ^ k * 2) = (m : Int) * 2 ^ k * 2 := by rw [Int.mul_assoc]
    rw [h4] at d; omega

theorem pack_any (m : Nat) (more : Bool) (x : Int) (h1 : 9223372036854775808 ≤ m) (h2 : m < 18446744073709551616) (hx : -1000 ≤ x ∧ x ≤ 500) (w : World) :
    Calls Try.prog 28 #[.int .u64 m, .bool more, .int .i64 x] w fun e w' => e = .returned (.float .f64 ((x + 1085) * 4503599627370496 + pk m more).toNat) ∧ w = w' := by
  have LZ := lz_any (m : Int) ⟨by omega, by omega⟩
  rw [lz_zero m h1 h2] at LZ
  have hM1 : 4503599627370496 ≤ m / 2048 := by omega
  have hM2 : m / 2048 < 9007199254740992 := by omega
  obtain ⟨M, hM⟩ : ∃ M, M = m / 2048 := ⟨_, rfl⟩
  obtain ⟨low, hlow⟩ : ∃ low, low = m % 2048 := ⟨_, rfl⟩
  have e1 : bits .and .u64 (m : Int) 2047 = (low : Int) := by
    have := u64_and_nat m 2047 (by omega) (by decide)
    rw [show ((2047 : Nat) : Int) = 2047 from rfl] at this
    rw [this, show 2047 = 2 ^ 11 - 1 by decide, Nat.and_two_pow_sub_one_eq_mod, hlow]
  have e2 : (m : Int) / 2048 = (M : Int) := by omega
  have e3 : bits .and .u64 (M : Int) 1 = ((M % 2 : Nat) : Int) := by
    have := u64_and_nat M 1 (by omega) (by decide)
    rw [show ((1 : Nat) : Int) = 1 from rfl] at this
    rw [this, show 1 = 2 ^ 1 - 1 by decide, Nat.and_two_pow_sub_one_eq_mod]
  obtain ⟨p, hp⟩ : ∃ p, p = M % 2 := ⟨_, rfl⟩
  rw [← hp] at e3
  have hpk : pk m more = M + (if 1024 < low ∨ low = 1024 ∧ (more = true ∨ p = 1) then 1 else 0) := by unfold pk; rw [hp, hM, hlow]
  have fin : ∀ K : Nat, K = pk m more → ∀ W, Calls Try.prog 34 #[.float .f64 (floatOfInt .f64 (K : Int)), .int .i64 (x + 11)] W fun e w' => e = .returned (.float .f64 ((x + 1085) * 4503599627370496 + pk m more).toNat) ∧ W = w' := by
    intro K hK W
    have hK2 : K ≤ M + 1 := by rw [hK, hpk]; split <;> omega
    have hK1 : M ≤ K := by rw [hK, hpk]; omega
    rw [ofInt_53 K (by omega) (by omega)]
    have hl := INF_lit
    have := ldexp_any (1074 * 4503599627370496 + K) (x + 11) ⟨by omega, by omega⟩ (by omega) (by omega) (by omega) W
    have e : ((1074 * 4503599627370496 + K : Nat) : Int) + (x + 11) * 4503599627370496 = (x + 1085) * 4503599627370496 + (pk m more : Nat) := by rw [← hK]; omega
    rw [e] at this; exact this
  generalize ((x + 1085) * 4503599627370496 + (pk m more : Int)).toNat = r at fin ⊢
  generalize pk m more = k at hpk fin
  have Fin := fin k rfl
  have HMl := Lib.hid hM; have HLl := Lib.hid hlow; have HPl := Lib.hid hp
  rw [← hM] at hM1 hM2
  have w1 : IntKind.u64.wrap (m : Int) = (m : Int) := by rw [IntKind.wrap_u64]; omega
  have w2 : wrap64 (x + 11) = x + 11 := by unfold wrap64; omega
  have hp2 : p < 2 := by omega
  have hlw : low < 2048 := by omega
  clear hM hlow hp fin
  have cases5 : (1024 < low ∧ k = M + 1) ∨ (low < 1024 ∧ k = M) ∨ (low = 1024 ∧ more = true ∧ k = M + 1) ∨ (low = 1024 ∧ more = false ∧ p = 1 ∧ k = M + 1) ∨ (low = 1024 ∧ more = false ∧ p = 0 ∧ k = M) := by
    by_cases c1 : 1024 < low
    · left; rw [if_pos (.inl c1)] at hpk; exact ⟨c1, hpk⟩
    · by_cases c2 : low = 1024
      · cases more
        · by_cases c3 : p = 1
          · rw [if_pos (.inr ⟨c2, .inr c3⟩)] at hpk; exact .inr (.inr (.inr (.inl ⟨c2, rfl, c3, hpk⟩)))
          · rw [if_neg (by simp [c1, c3])] at hpk; exact .inr (.inr (.inr (.inr ⟨c2, rfl, by omega, by omega⟩)))
        · rw [if_pos (.inr ⟨c2, .inl rfl⟩)] at hpk; exact .inr (.inr (.inl ⟨c2, rfl, hpk⟩))
      · rw [if_neg (by simp [c1, c2])] at hpk; exact .inr (.inl ⟨by omega, by omega⟩)
  clear hpk
  rcases cases5 with ⟨c1, rfl⟩ | ⟨c1, rfl⟩ | ⟨rfl, rfl, rfl⟩ | ⟨rfl, rfl, rfl, rfl⟩ | ⟨rfl, rfl, rfl, rfl⟩
  · have g1 : (1024 : Int) < (low : Int) := by omega
    have g2 : IntKind.u64.wrap ((M : Int) + 1) = ((M + 1 : Nat) : Int) := by rw [IntKind.wrap_u64]; omega
    go_enter Try.func28, Try.ntmps28
    go_wp2_with (first | (go_at_call 26; refine (LZ _).mono ?_; rintro e w' ⟨rfl, rfl⟩) | (go_at_call 34; refine (Fin _).mono ?_; rintro e w' ⟨rfl, rfl⟩))
    simp [bodyPost, results, Try.results28, go_sem]
  · have g1 : ¬ ((1024 : Int) < (low : Int)) := by omega
    have g2 : ((low : Int) = 1024) = False := by simp; omega
    go_enter Try.func28, Try.ntmps28
    go_wp2_with (first | (go_at_call 26; refine (LZ _).mono ?_; rintro e w' ⟨rfl, rfl⟩) | (go_at_call 34; refine (Fin _).mono ?_; rintro e w' ⟨rfl, rfl⟩))
    simp [bodyPost, results, Try.results28, go_sem]
  · have g2 : IntKind.u64.wrap ((M : Int) + 1) = ((M + 1 : Nat) : Int) := by rw [IntKind.wrap_u64]; omega
    go_enter Try.func28, Try.ntmps28
    go_wp2_with (first | (go_at_call 26; refine (LZ _).mono ?_; rintro e w' ⟨rfl, rfl⟩) | (go_at_call 34; refine (Fin _).mono ?_; rintro e w' ⟨rfl, rfl⟩))
    simp [bodyPost, results, Try.results28, go_sem]
  · have g2 : IntKind.u64.wrap ((M : Int) + 1) = ((M + 1 : Nat) : Int) := by rw [IntKind.wrap_u64]; omega
    go_enter Try.func28, Try.ntmps28
    go_wp2_with (first | (go_at_call 26; refine (LZ _).mono ?_; rintro e w' ⟨rfl, rfl⟩) | (go_at_call 34; refine (Fin _).mono ?_; rintro e w' ⟨rfl, rfl⟩))
    simp [bodyPost, results, Try.results28, go_sem]
  · skip
    go_enter Try.func28, Try.ntmps28
    go_wp2_with (first | (go_at_call 26; refine (LZ _).mono ?_; rintro e w' ⟨rfl, rfl⟩) | (go_at_call 34; refine (Fin _).mono ?_; rintro e w' ⟨rfl, rfl⟩))
    simp [bodyPost, results, Try.results28, go_sem]
end Go.Proofs.Ytcnhgblpeonmgaa
