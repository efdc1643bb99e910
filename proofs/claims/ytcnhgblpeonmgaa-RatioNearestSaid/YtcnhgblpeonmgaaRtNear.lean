/-
  ratio.Near comes to the rung nearest to the fraction.
-/
import Derived.Test.YtcnhgblpeonmgaaRtPack
namespace Go.Proofs.Ytcnhgblpeonmgaa
open Go.RowKit
set_option linter.unusedVariables false
set_option linter.unusedSimpArgs false
attribute [local go_sem high] binOp_lss64 binOp_gtr64 binOp_geq64 binOp_leq64 binOp_eql64 binOp_neq64 f64bits frombits

open Classical in
/-- The rung nearest to a fraction. -/
noncomputable def nr (num den : Nat) : Nat := if h : ∃ r, Near (num * S) den r then Classical.choose h else 0
theorem nr_eq {num den r : Nat} (hd : 0 < den) (h : Near (num * S) den r) : nr num den = r := by
  have hx : ∃ r, Near (num * S) den r := ⟨r, h⟩
  unfold nr; rw [dif_pos hx]
  exact near_unique (Classical.choose_spec hx) h hd hd rfl

theorem near_pk (num den a b t n d k q r : Nat) (hden : 0 < den) (hn : n = num * 2 ^ a) (hd : d = den * 2 ^ b) (hk : 1074 + b = a + t + k)
    (hq : n * 2 ^ t = q * d + r) (hr : r < d) (hq1 : 9223372036854775808 ≤ q) (hq2 : q < 18446744073709551616) :
    Near (num * S) den ((k + 11) * 4503599627370496 + pk q (decide (0 < r))) := by
  obtain ⟨m, hm⟩ : ∃ m, m = q / 2048 := ⟨_, rfl⟩
  obtain ⟨low, hlow⟩ : ∃ low, low = q % 2048 := ⟨_, rfl⟩
  have hqm : q = m * 2048 + low := by omega
  have hl2 : low < 2048 := by omega
  have hp : 0 < 2 ^ k := p2pos k
  have e11 : (2 : Nat) ^ (k + 11) = 2048 * 2 ^ k := by rw [Nat.pow_add]; omega
  have hdp : 0 < d := by omega
  have hld : low * d ≤ 2047 * d := Nat.mul_le_mul_right _ (by omega)
  -- the fraction, moved
  have hN : n * 2 ^ t * 2 ^ k = m * (d * 2 ^ (k + 11)) + (low * d + r) * 2 ^ k := by
    rw [hq, hqm, e11]
    have : m * (d * (2048 * 2 ^ k)) = m * 2048 * d * 2 ^ k := by ac_rfl
    rw [this, ← Nat.add_mul, Nat.add_mul (m * 2048), Nat.add_assoc]
  have hU : d * 2 ^ (k + 11) = 2048 * d * 2 ^ k := by rw [e11]; ac_rfl
  have hlt : (low * d + r) * 2 ^ k < d * 2 ^ (k + 11) := by
    rw [hU]; exact Nat.mul_lt_mul_of_pos_right (by omega) hp
  have hnear := near_round (n * 2 ^ t * 2 ^ k) d (k + 11) m ((low * d + r) * 2 ^ k) hdp hN hlt (by omega) (.inl (by omega))
  have er : rnd m ((low * d + r) * 2 ^ k) (d * 2 ^ (k + 11)) = pk q (decide (0 < r)) := by
    unfold rnd pk
    rw [← hm, ← hlow, hU]
    have c0 : 2 * ((low * d + r) * 2 ^ k) = 2 * (low * d + r) * 2 ^ k := by rw [Nat.mul_assoc]
    rw [c0]
    have c1 : 2048 * d * 2 ^ k < 2 * (low * d + r) * 2 ^ k ↔ 2048 * d < 2 * (low * d + r) := Nat.mul_lt_mul_right hp
    have c2 : 2048 * d * 2 ^ k = 2 * (low * d + r) * 2 ^ k ↔ 2048 * d = 2 * (low * d + r) := Nat.mul_left_inj (by omega)
    have key : (2048 * d < 2 * (low * d + r) ∨ 2048 * d = 2 * (low * d + r) ∧ m % 2 = 1) ↔ (1024 < low ∨ low = 1024 ∧ (decide (0 < r) = true ∨ m % 2 = 1)) := by
      rw [decide_eq_true_iff]
      rcases Nat.lt_trichotomy low 1024 with h | h | h
      · have : low * d ≤ 1023 * d := Nat.mul_le_mul_right _ (by omega)
        constructor
        · rintro (h' | h') <;> omega
        · rintro (h' | h') <;> omega
      · subst h
        constructor
        · rintro (h' | h')
          · right; exact ⟨rfl, .inl (by omega)⟩
          · right; exact ⟨rfl, .inr h'.2⟩
        · rintro (h' | ⟨_, h' | h'⟩)
          · omega
          · left; omega
          · by_cases h0 : 0 < r
            · left; omega
            · right; exact ⟨by omega, h'⟩
      · have : 1025 * d ≤ low * d := Nat.mul_le_mul_right _ (by omega)
        constructor
        · intro _; exact .inl h
        · intro _; left; omega
    simp only [c1, c2, key]
  rw [er] at hnear
  refine near_congr hnear hdp hden ?_
  have hk' : Q + b = a + t + k := by rw [Q_eq]; exact hk
  rw [hn, hd, S_eq]
  have e1 : num * 2 ^ a * 2 ^ t * 2 ^ k * den = num * den * (2 ^ (a + t + k)) := by rw [Nat.pow_add, Nat.pow_add]; ac_rfl
  have e2 : num * 2 ^ Q * (den * 2 ^ b) = num * den * (2 ^ (Q + b)) := by rw [Nat.pow_add]; ac_rfl
  rw [e1, e2, hk']

theorem lz_nat (n : Nat) (h0 : 0 < n) (h1 : n < 18446744073709551616) : ∃ a : Nat, lz (n : Int) = (a : Int) ∧ a ≤ 63 ∧ 9223372036854775808 ≤ n * 2 ^ a ∧ n * 2 ^ a < 18446744073709551616 := by
  obtain ⟨a1, a2, a3, a4⟩ := lz_spec (n : Int) (by omega) (by omega)
  obtain ⟨a, ha⟩ : ∃ a : Nat, lz (n : Int) = (a : Int) := ⟨(lz (n : Int)).toNat, by omega⟩
  rw [ha] at a1 a2 a3 a4
  rw [Int.toNat_natCast] at a3 a4
  have e : (n : Int) * 2 ^ a = ((n * 2 ^ a : Nat) : Int) := by rw [Int.natCast_mul, Int.natCast_pow]; rfl
  rw [e] at a3 a4
  exact ⟨a, ha, by omega, by omega, by omega⟩

/-- What ratio.Near comes to. -/
noncomputable def nearV (num den : Nat) : Value := if den = 0 then .tuple #[.float .f64 0, .int .i64 20] else .tuple #[.float .f64 (nr num den), .int .i64 0]

theorem near_bad (num : Nat) (w : World) : Calls Try.prog 12 #[.int .u64 (num : Int), .int .u64 0] w fun e w' => e = .returned (.tuple #[.float .f64 0, .int .i64 20]) ∧ w = w' := by
  go_enter Try.func12, Try.ntmps12
  go_wp2
  simp [bodyPost, results, Try.results12, go_sem]
theorem near_nought (den : Nat) (hd : 0 < den) (w : World) : Calls Try.prog 12 #[.int .u64 0, .int .u64 (den : Int)] w fun e w' => e = .returned (.tuple #[.float .f64 0, .int .i64 0]) ∧ w = w' := by
  have h : ((den : Int) = 0) = False := by simp; omega
  go_enter Try.func12, Try.ntmps12
  go_wp2
  simp [bodyPost, results, Try.results12, go_sem]
theorem nr_zero {den : Nat} (hd : 0 < den) : nr 0 den = 0 := nr_eq hd (by rw [Nat.zero_mul]; exact near_zero den)

theorem near_good (num den : Nat) (hn0 : 0 < num) (hn1 : num < 18446744073709551616) (hd0 : 0 < den) (hd1 : den < 18446744073709551616) (w : World) :
    Calls Try.prog 12 #[.int .u64 (num : Int), .int .u64 (den : Int)] w fun e w' => e = .returned (.tuple #[.float .f64 (nr num den), .int .i64 0]) ∧ Below w.heap.size w w' := by
  obtain ⟨a, ha, ha1, ha2, ha3⟩ := lz_nat num hn0 hn1
  obtain ⟨b, hb, hb1, hb2, hb3⟩ := lz_nat den hd0 hd1
  have LN := lz_any (num : Int) ⟨by omega, by omega⟩
  have LD := lz_any (den : Int) ⟨by omega, by omega⟩
  rw [ha] at LN; rw [hb] at LD
  obtain ⟨n, hn⟩ : ∃ n, n = num * 2 ^ a := ⟨_, rfl⟩
  obtain ⟨d, hd⟩ : ∃ d, d = den * 2 ^ b := ⟨_, rfl⟩
  rw [← hn] at ha2 ha3
  rw [← hd] at hb2 hb3
  have z1 : ((den : Int) = 0) = False := by simp; omega
  have z2 : ((num : Int) = 0) = False := by simp; omega
  have w1 : IntKind.u64.wrap ((num : Int) * 2 ^ a) = (n : Int) := by
    have e : (num : Int) * 2 ^ a = ((num * 2 ^ a : Nat) : Int) := by rw [Int.natCast_mul, Int.natCast_pow]; rfl
    rw [e, ← hn, IntKind.wrap_u64]; omega
  have w2 : IntKind.u64.wrap ((den : Int) * 2 ^ b) = (d : Int) := by
    have e : (den : Int) * 2 ^ b = ((den * 2 ^ b : Nat) : Int) := by rw [Int.natCast_mul, Int.natCast_pow]; rfl
    rw [e, ← hd, IntKind.wrap_u64]; omega
  have w3 : wrap64 ((b : Int) - (a : Int)) = (b : Int) - (a : Int) := by unfold wrap64; omega
  by_cases hnd : d ≤ n
  · -- the quotient is halved
    obtain ⟨lo, hlo⟩ : ∃ lo, lo = n % 2 * 9223372036854775808 := ⟨_, rfl⟩
    have w4 : IntKind.u64.wrap ((n : Int) * 9223372036854775808) = (lo : Int) := by rw [IntKind.wrap_u64]; omega
    have hcmp : (d : Int) ≤ (n : Int) := by omega
    have D := div64_any ((n / 2 : Nat) : Int) (lo : Int) (d : Int) ⟨by omega, by omega⟩ ⟨by omega, by omega⟩ ⟨by omega, by omega⟩ (by omega)
    have hv : ((n / 2 : Nat) : Int) * 18446744073709551616 + (lo : Int) = ((n * 2 ^ 63 : Nat) : Int) := by omega
    rw [hv] at D
    obtain ⟨q, hq⟩ : ∃ q, q = n * 2 ^ 63 / d := ⟨_, rfl⟩
    obtain ⟨r, hr⟩ : ∃ r, r = n * 2 ^ 63 % d := ⟨_, rfl⟩
    rw [← Int.natCast_ediv, ← Int.natCast_emod, ← hq, ← hr] at D
    have hdm := Nat.div_add_mod (n * 2 ^ 63) d
    have hrl : r < d := by rw [hr]; exact Nat.mod_lt _ (by omega)
    rw [← hq, ← hr] at hdm
    have hq1 : 9223372036854775808 ≤ q := by rw [hq, Nat.le_div_iff_mul_le (by omega)]; omega
    have hq2 : q < 18446744073709551616 := by rw [hq, Nat.div_lt_iff_lt_mul (by omega)]; omega
    obtain ⟨k, hk⟩ : ∃ k, k = 1011 + b - a := ⟨_, rfl⟩
    have hN := nr_eq hd0 (near_pk num den a b 63 n d k q r hd0 hn hd (by omega) (by rw [← hdm, Nat.mul_comm]) hrl hq1 hq2)
    have P := pack_any q (decide (0 < r)) ((b : Int) - (a : Int) + 1 - 64) hq1 hq2 (by omega)
    have hres : (((b : Int) - (a : Int) + 1 - 64 + 1085) * 4503599627370496 + (pk q (decide (0 < r)) : Nat)).toNat = nr num den := by
      rw [hN]; omega
    rw [hres] at P
    have w5 : wrap64 ((b : Int) - (a : Int) + 1) = (b : Int) - (a : Int) + 1 := by unfold wrap64; omega
    have w6 : wrap64 ((b : Int) - (a : Int) + 1 - 64) = (b : Int) - (a : Int) + 1 - 64 := by unfold wrap64; omega
    have h2 : ((n / 2 : Nat) : Int) = (n : Int) / 2 := by omega
    rw [h2] at D
    generalize nr num den = f at P ⊢
    clear hres hN hdm hv hq hr hk hlo hn hd ha2 ha3 hb2 hb3 ha hb h2 hnd
    go_enter Try.func12, Try.ntmps12
    go_wp2_with (first | (go_at_call 26; first | (refine (LN _).mono ?_; rintro e w' ⟨rfl, rfl⟩) | (refine (LD _).mono ?_; rintro e w' ⟨rfl, rfl⟩)) | (go_at_call 27; refine (D _).mono ?_; rintro e w' ⟨rfl, hB⟩) | (go_at_call 28; refine (P _).mono ?_; rintro e w' ⟨rfl, rfl⟩))
    go_quiet (fail)
    go_wp2_with (first | (go_at_call 26; first | (refine (LN _).mono ?_; rintro e w' ⟨rfl, rfl⟩) | (refine (LD _).mono ?_; rintro e w' ⟨rfl, rfl⟩)) | (go_at_call 27; refine (D _).mono ?_; rintro e w' ⟨rfl, hB⟩) | (go_at_call 28; refine (P _).mono ?_; rintro e w' ⟨rfl, rfl⟩))
    simp [bodyPost, results, Try.results12, go_sem]
    exact below_next (drewN_below (Below.refl _ _) _) hB
  · have hcmp : (n : Int) < (d : Int) := by omega
    have D := div64_any (n : Int) 0 (d : Int) ⟨by omega, by omega⟩ ⟨by omega, by omega⟩ ⟨by omega, by omega⟩ hcmp
    have hv : (n : Int) * 18446744073709551616 + 0 = ((n * 2 ^ 64 : Nat) : Int) := by omega
    rw [hv] at D
    obtain ⟨q, hq⟩ : ∃ q, q = n * 2 ^ 64 / d := ⟨_, rfl⟩
    obtain ⟨r, hr⟩ : ∃ r, r = n * 2 ^ 64 % d := ⟨_, rfl⟩
    rw [← Int.natCast_ediv, ← Int.natCast_emod, ← hq, ← hr] at D
    have hdm := Nat.div_add_mod (n * 2 ^ 64) d
    have hrl : r < d := by rw [hr]; exact Nat.mod_lt _ (by omega)
    rw [← hq, ← hr] at hdm
    have hq1 : 9223372036854775808 ≤ q := by rw [hq, Nat.le_div_iff_mul_le (by omega)]; omega
    have hq2 : q < 18446744073709551616 := by rw [hq, Nat.div_lt_iff_lt_mul (by omega)]; omega
    obtain ⟨k, hk⟩ : ∃ k, k = 1010 + b - a := ⟨_, rfl⟩
    have hN := nr_eq hd0 (near_pk num den a b 64 n d k q r hd0 hn hd (by omega) (by rw [← hdm, Nat.mul_comm]) hrl hq1 hq2)
    have P := pack_any q (decide (0 < r)) ((b : Int) - (a : Int) - 64) hq1 hq2 (by omega)
    have hres : (((b : Int) - (a : Int) - 64 + 1085) * 4503599627370496 + (pk q (decide (0 < r)) : Nat)).toNat = nr num den := by
      rw [hN]; omega
    rw [hres] at P
    have w6 : wrap64 ((b : Int) - (a : Int) - 64) = (b : Int) - (a : Int) - 64 := by unfold wrap64; omega
    generalize nr num den = f at P ⊢
    clear hres hN hdm hv hq hr hk hn hd ha2 ha3 hb2 hb3 ha hb hnd
    go_enter Try.func12, Try.ntmps12
    go_wp2_with (first | (go_at_call 26; first | (refine (LN _).mono ?_; rintro e w' ⟨rfl, rfl⟩) | (refine (LD _).mono ?_; rintro e w' ⟨rfl, rfl⟩)) | (go_at_call 27; refine (D _).mono ?_; rintro e w' ⟨rfl, hB⟩) | (go_at_call 28; refine (P _).mono ?_; rintro e w' ⟨rfl, rfl⟩))
    go_quiet (fail)
    go_wp2_with (first | (go_at_call 26; first | (refine (LN _).mono ?_; rintro e w' ⟨rfl, rfl⟩) | (refine (LD _).mono ?_; rintro e w' ⟨rfl, rfl⟩)) | (go_at_call 27; refine (D _).mono ?_; rintro e w' ⟨rfl, hB⟩) | (go_at_call 28; refine (P _).mono ?_; rintro e w' ⟨rfl, rfl⟩))
    simp [bodyPost, results, Try.results12, go_sem]
    exact below_next (drewN_below (Below.refl _ _) _) hB
end Go.Proofs.Ytcnhgblpeonmgaa
