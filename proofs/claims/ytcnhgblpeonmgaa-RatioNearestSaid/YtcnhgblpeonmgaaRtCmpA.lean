/-
  ratio.Cmp of any float and any fraction.
-/
import Derived.Test.YtcnhgblpeonmgaaRtCmpW
namespace Go.Proofs.Ytcnhgblpeonmgaa
open Go.RowKit
set_option linter.unusedVariables false
set_option linter.unusedSimpArgs false
attribute [local go_sem high] binOp_lss64 binOp_gtr64 binOp_geq64 binOp_leq64 binOp_eql64 binOp_neq64 f64bits frombits

theorem val_m65 : val 4314448443020935168 * 36893488147419103232 = S := by
  obtain ⟨k, hk⟩ : ∃ k, k = 957 := ⟨_, rfl⟩
  have e : k * 4503599627370496 + 4503599627370496 = 4314448443020935168 := by omega
  have hkq : 52 + k + 65 = Q := by have := Q_eq; omega
  clear hk
  have h := val_em k 4503599627370496 (.inl (Nat.le_refl _)) (by decide)
  rw [e] at h
  have e3 : (4503599627370496 : Nat) = 2 ^ 52 := by decide
  have e4 : (36893488147419103232 : Nat) = 2 ^ 65 := by decide
  rw [h, S_eq, e4, e3, ← Nat.pow_add, ← Nat.pow_add]
  rw [hkq]
theorem sv_nought : sv 0 = 0 := by rw [sv_small (by decide), val_zero]; rfl
theorem num_nought : Num64 0 := num_small (by decide)
theorem sv_64 : sv 4895412794951729152 = 18446744073709551616 * (S : Int) := by
  rw [sv_small (by decide), val_64, Int.natCast_mul]; rfl
theorem num_64 : Num64 4895412794951729152 := num_small (by decide)
theorem sv_m65 : sv 4314448443020935168 * 36893488147419103232 = (S : Int) := by
  rw [sv_small (by decide), ← val_m65, Int.natCast_mul]; rfl
theorem num_m65 : Num64 4314448443020935168 := num_small (by decide)

theorem cmp_any (b num den : Nat) (hb : b < 18446744073709551616) (hn : num < 18446744073709551616) (hd : den < 18446744073709551616) (w : World) :
    Calls Try.prog 19 #[.float .f64 b, .int .u64 (num : Int), .int .u64 (den : Int)] w fun e w' => e = .returned (.tuple #[.int .i64 (cmpR b num den), .int .i64 (cmpE b den)]) ∧ Below w.heap.size w w' := by
  unfold cmpR cmpE
  by_cases h0 : den = 0
  · subst h0
    rw [show ((0 : Nat) : Int) = 0 from rfl, if_pos (.inl rfl), if_pos rfl]
    go_enter Try.func19, Try.ntmps19
    go_wp2
    simp [bodyPost, results, Try.results19, go_sem]
    exact Below.refl _ _
  have h0' : ¬ (den : Int) = 0 := by omega
  have z1 : ((den : Int) == 0) = false := by simp; omega
  have FI := isInf_any b hb
  have FN := isNaN_any b
  by_cases h1 : INF ≤ rg b
  · rw [if_pos (.inr h1), if_neg h0', if_pos h1]
    rcases Nat.lt_or_ge INF (rg b) with h2 | h2
    · rw [decide_eq_true h2] at FN
      clear h1 h2 h0'
      go_enter Try.func19, Try.ntmps19
      go_wp2_with (first | (go_at_call 31; refine (FI _).mono ?_; rintro e w' ⟨rfl, rfl⟩) | (go_at_call 30; refine (FN _).mono ?_; rintro e w' ⟨rfl, rfl⟩))
      simp [bodyPost, results, Try.results19, go_sem]
      exact Below.refl _ _
    · rw [decide_eq_false (by omega)] at FN
      rw [decide_eq_true (by omega)] at FI
      clear h1 h2 h0'
      go_enter Try.func19, Try.ntmps19
      go_wp2_with (first | (go_at_call 31; refine (FI _).mono ?_; rintro e w' ⟨rfl, rfl⟩) | (go_at_call 30; refine (FN _).mono ?_; rintro e w' ⟨rfl, rfl⟩))
      simp [bodyPost, results, Try.results19, go_sem]
      exact Below.refl _ _
  rw [if_neg (by intro h; exact h.elim h0' h1), if_neg h0', if_neg h1]
  rw [decide_eq_false (by omega)] at FN
  rw [decide_eq_false (by omega)] at FI
  have hN : Num64 b := by unfold Num64; omega
  have hS := S_pos
  have i1 := fLt_iff hN num_nought
  have i2 := fLe_iff num_64 hN
  have i3 := fLt_iff hN num_m65
  have i4 := fLt_iff num_nought hN
  rw [sv_nought] at i1 i4
  rw [sv_64] at i2
  have hdp : (1 : Int) ≤ (den : Int) := by omega
  have hnS : 0 ≤ (num : Int) * (S : Int) := Int.mul_nonneg (by omega) (by omega)
  by_cases h2 : sv b < 0
  · have e : cmpF b num den = -1 := cmpZ_lt (by
      have : sv b * (den : Int) < 0 := Int.mul_neg_of_neg_of_pos h2 (by omega)
      omega)
    rw [e]
    have g1 := i1.2 h2
    clear i1 i2 i3 i4 e h0' h1 h2 hN hS hdp hnS h0
    go_enter Try.func19, Try.ntmps19
    go_wp2_with (first | (go_at_call 31; refine (FI _).mono ?_; rintro e w' ⟨rfl, rfl⟩) | (go_at_call 30; refine (FN _).mono ?_; rintro e w' ⟨rfl, rfl⟩))
    simp [bodyPost, results, Try.results19, go_sem]
    exact Below.refl _ _
  have g1 : ¬ fLt b 0 := fun h => h2 (i1.1 h)
  have hup : (num : Int) * (S : Int) ≤ 18446744073709551615 * (S : Int) := Int.mul_le_mul_of_nonneg_right (by omega) (by omega)
  by_cases h3 : 18446744073709551616 * (S : Int) ≤ sv b
  · have e : cmpF b num den = 1 := cmpZ_gt (by
      have : sv b * 1 ≤ sv b * (den : Int) := Int.mul_le_mul_of_nonneg_left hdp (by omega)
      omega)
    rw [e]
    have g2 := i2.2 h3
    clear i1 i2 i3 i4 e h0' h1 h2 h3 hN hS hdp hnS h0 hup
    go_enter Try.func19, Try.ntmps19
    go_wp2_with (first | (go_at_call 31; refine (FI _).mono ?_; rintro e w' ⟨rfl, rfl⟩) | (go_at_call 30; refine (FN _).mono ?_; rintro e w' ⟨rfl, rfl⟩))
    simp [bodyPost, results, Try.results19, go_sem]
    exact Below.refl _ _
  have g2 : ¬ fLe 4895412794951729152 b := fun h => h3 (i2.1 h)
  by_cases h4 : num = 0
  · subst h4
    rw [show ((0 : Nat) : Int) = 0 from rfl]
    have e : cmpF b 0 den = if 0 < sv b then 1 else 0 := by
      unfold cmpF
      rw [Int.zero_mul]
      by_cases h : 0 < sv b
      · rw [if_pos h]; exact cmpZ_gt (Int.mul_pos h (by omega))
      · rw [if_neg h]; exact cmpZ_eq (by have : sv b = 0 := by omega
                                         rw [this, Int.zero_mul])
    rw [e]
    by_cases h5 : 0 < sv b
    · have g3 := i4.2 h5
      rw [if_pos h5]
      have OR := order_any true
      clear i1 i2 i3 i4 e h0' h1 h2 h3 hN hS hdp hnS h0 hup h5
      go_enter Try.func19, Try.ntmps19
      go_wp2_with (first | (go_at_call 31; refine (FI _).mono ?_; rintro e w' ⟨rfl, rfl⟩) | (go_at_call 30; refine (FN _).mono ?_; rintro e w' ⟨rfl, rfl⟩) | (go_at_call 32; refine (OR _).mono ?_; rintro e w' ⟨rfl, rfl⟩))
      simp [bodyPost, results, Try.results19, go_sem]
      exact Below.refl _ _
    · have g3 : ¬ fLt 0 b := fun h => h5 (i4.1 h)
      rw [if_neg h5]
      have OR := order_any false
      clear i1 i2 i3 i4 e h0' h1 h2 h3 hN hS hdp hnS h0 hup h5
      go_enter Try.func19, Try.ntmps19
      go_wp2_with (first | (go_at_call 31; refine (FI _).mono ?_; rintro e w' ⟨rfl, rfl⟩) | (go_at_call 30; refine (FN _).mono ?_; rintro e w' ⟨rfl, rfl⟩) | (go_at_call 32; refine (OR _).mono ?_; rintro e w' ⟨rfl, rfl⟩))
      simp [bodyPost, results, Try.results19, go_sem]
      exact Below.refl _ _
  have z2 : ((num : Int) == 0) = false := by simp; omega
  by_cases h5 : sv b < sv 4314448443020935168
  · have e : cmpF b num den = -1 := cmpZ_lt (by
      have a1 : sv b * (den : Int) ≤ sv b * 36893488147419103232 := Int.mul_le_mul_of_nonneg_left (by omega) (by omega)
      have a2 : 1 * (S : Int) ≤ (num : Int) * (S : Int) := Int.mul_le_mul_of_nonneg_right (by omega) (by omega)
      have := sv_m65
      omega)
    rw [e]
    have g3 := i3.2 h5
    clear i1 i2 i3 i4 e h0' h1 h2 h3 hN hS hdp hnS h0 hup h5
    go_enter Try.func19, Try.ntmps19
    go_wp2_with (first | (go_at_call 31; refine (FI _).mono ?_; rintro e w' ⟨rfl, rfl⟩) | (go_at_call 30; refine (FN _).mono ?_; rintro e w' ⟨rfl, rfl⟩))
    simp [bodyPost, results, Try.results19, go_sem]
    exact Below.refl _ _
  have hpos : 0 < sv 4314448443020935168 := by have := sv_m65; omega
  have hng : ng b = false := by
    cases h : ng b
    · rfl
    · have : sv b = -(val (rg b) : Int) := by unfold sv; rw [h]; rfl
      omega
  have hbr : b = rg b := by have := wd_of hb; rw [hng, wd_pos] at this; exact this.symm
  have hsv : sv b = (val b : Int) := by rw [hbr]; exact sv_small (by omega)
  have lo : 4314448443020935168 ≤ b := by
    rcases Nat.lt_or_ge b 4314448443020935168 with h | h
    · have := val_lt h
      rw [sv_small (r := 4314448443020935168) (by decide)] at h5
      omega
    · exact h
  have hi : b < 4895412794951729152 := by
    rcases Nat.lt_or_ge b 4895412794951729152 with h | h
    · exact h
    · have h6 := val_le h
      rw [val_64] at h6
      have h7 := Int.ofNat_le.2 h6
      rw [Int.natCast_mul] at h7
      omega
  have hl := INF_lit
  have pre : CmpPre b num den := ⟨⟨by omega, by omega⟩, by omega, by omega, by omega, hn, by omega, hd⟩
  rcases Nat.lt_or_ge b (1075 * 4503599627370496) with h | h
  · rcases Nat.lt_or_ge b (1012 * 4503599627370496) with h' | h'
    · exact cmp_low b num den pre h' w
    · exact cmp_mid b num den pre ⟨h', h⟩ w
  · exact cmp_high b num den pre h w
end Go.Proofs.Ytcnhgblpeonmgaa
