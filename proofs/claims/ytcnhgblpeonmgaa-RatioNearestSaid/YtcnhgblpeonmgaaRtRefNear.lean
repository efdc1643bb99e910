/-
  inclineref02.Near comes to the same rung.
-/
import Derived.Test.YtcnhgblpeonmgaaRtNear
namespace Go.Proofs.Ytcnhgblpeonmgaa
open Go.RowKit
set_option linter.unusedVariables false
set_option linter.unusedSimpArgs false
attribute [local go_sem high] binOp_lss64 binOp_gtr64 binOp_geq64 binOp_leq64 binOp_eql64 binOp_neq64 f64bits frombits

theorem nr_near {num den : Nat} (hn : num < 18446744073709551616) (hd0 : 0 < den) (hd1 : den < 18446744073709551616) : Near (num * S) den (nr num den) := by
  have key : ∃ r, Near (num * S) den r := by
    by_cases hn0 : num = 0
    · subst hn0; exact ⟨0, by rw [Nat.zero_mul]; exact near_zero den⟩
    obtain ⟨a, ha, ha1, ha2, ha3⟩ := lz_nat num (by omega) hn
    obtain ⟨b, hb, hb1, hb2, hb3⟩ := lz_nat den hd0 hd1
    obtain ⟨n, hn⟩ : ∃ n, n = num * 2 ^ a := ⟨_, rfl⟩
    obtain ⟨d, hd⟩ : ∃ d, d = den * 2 ^ b := ⟨_, rfl⟩
    rw [← hn] at ha2 ha3
    rw [← hd] at hb2 hb3
    by_cases hnd : d ≤ n
    · have hdm := Nat.div_add_mod (n * 2 ^ 63) d
      exact ⟨_, near_pk num den a b 63 n d (1011 + b - a) _ _ hd0 hn hd (by omega) (by rw [Nat.mul_comm] at hdm; exact hdm.symm) (Nat.mod_lt _ (by omega)) (by rw [Nat.le_div_iff_mul_le (by omega)]; omega) (by rw [Nat.div_lt_iff_lt_mul (by omega)]; omega)⟩
    · have hdm := Nat.div_add_mod (n * 2 ^ 64) d
      exact ⟨_, near_pk num den a b 64 n d (1010 + b - a) _ _ hd0 hn hd (by omega) (by rw [Nat.mul_comm] at hdm; exact hdm.symm) (Nat.mod_lt _ (by omega)) (by rw [Nat.le_div_iff_mul_le (by omega)]; omega) (by rw [Nat.div_lt_iff_lt_mul (by omega)]; omega)⟩
  obtain ⟨r, hr⟩ := key
  rw [nr_eq hd0 hr]; exact hr

theorem double_any (r den : Nat) (hr : r < den) (hd : den < 18446744073709551616) (w : World) :
    Calls Try.prog 29 #[.int .u64 (r : Int), .int .u64 (den : Int)] w fun e w' => e = .returned (.tuple #[.int .u64 ((2 * r % den : Nat) : Int), .bool (decide (den ≤ 2 * r))]) ∧ w = w' := by
  by_cases h : den ≤ 2 * r
  · have e : 2 * r % den = r - (den - r) := by
      have h1 : 2 * r = (r - (den - r)) + den := by omega
      rw [h1, Nat.add_mod_right, Nat.mod_eq_of_lt (by omega)]
    rw [e, decide_eq_true h]
    have g : (den : Int) - (r : Int) ≤ (r : Int) := by omega
    have w1 : IntKind.u64.wrap ((den : Int) - (r : Int)) = (den : Int) - (r : Int) := by rw [IntKind.wrap_u64]; omega
    have w2 : IntKind.u64.wrap ((r : Int) - ((den : Int) - (r : Int))) = ((r - (den - r) : Nat) : Int) := by rw [IntKind.wrap_u64]; omega
    generalize r - (den - r) = k at w2 ⊢
    go_enter Try.func29, Try.ntmps29
    go_wp2
    simp [bodyPost, results, Try.results29, go_sem]
  · have e : 2 * r % den = 2 * r := Nat.mod_eq_of_lt (by omega)
    rw [e, decide_eq_false h]
    have g : ¬ ((den : Int) - (r : Int) ≤ (r : Int)) := by omega
    have w1 : IntKind.u64.wrap ((den : Int) - (r : Int)) = (den : Int) - (r : Int) := by rw [IntKind.wrap_u64]; omega
    have w2 : IntKind.u64.wrap (2 * (r : Int)) = ((2 * r : Nat) : Int) := by rw [IntKind.wrap_u64]; omega
    generalize 2 * r = k at w2 ⊢
    go_enter Try.func29, Try.ntmps29
    go_wp2
    simp [bodyPost, results, Try.results29, go_sem]

/-- The reference's quotient: m of 54 digits, s and r left behind. -/
theorem near_ref (num den k j m s r : Nat) (hd : 0 < den) (hk : k ≤ 1000) (hN : num * 2 ^ k = (m * 2 ^ j + s) * den + r) (hr : r < den) (hs : s < 2 ^ j) (h1 : 9007199254740992 ≤ m) (h2 : m < 18014398509481984) :
    Near (num * S) den ((1075 - k + j) * 4503599627370496 + (m / 2 + (if m % 2 = 1 ∧ (0 < s ∨ 0 < r ∨ m / 2 % 2 = 1) then 1 else 0))) := by
  obtain ⟨M, hM⟩ : ∃ M, M = m / 2 := ⟨_, rfl⟩
  obtain ⟨h, hh⟩ : ∃ h, h = m % 2 := ⟨_, rfl⟩
  have hm : m = 2 * M + h := by omega
  have hh2 : h < 2 := by omega
  rw [← hM, ← hh]
  obtain ⟨t, ht⟩ : ∃ t, t = Q - k := ⟨_, rfl⟩
  have hQ := Q_eq
  have hpj := p2pos j
  have hpt := p2pos t
  have hS : S = 2 ^ k * 2 ^ t := by rw [S_eq, ← Nat.pow_add]; congr 1; omega
  have ee : 1075 - k + j = t + (j + 1) := by omega
  rw [ee]
  have hU : den * 2 ^ (t + (j + 1)) = 2 * (2 ^ j * den) * 2 ^ t := by rw [Nat.pow_add, Nat.pow_succ]; ac_rfl
  have hsplit : (m * 2 ^ j + s) * den + r = M * (2 * (2 ^ j * den)) + ((h * 2 ^ j + s) * den + r) := by
    rw [hm]
    have e1 : (2 * M + h) * 2 ^ j + s = 2 * M * 2 ^ j + (h * 2 ^ j + s) := by rw [Nat.add_mul, Nat.add_assoc]
    rw [e1, Nat.add_mul, Nat.add_assoc]
    congr 1; ac_rfl
  obtain ⟨c, hc⟩ : ∃ c, c = 2 ^ j * den := ⟨_, rfl⟩
  have hsd : s * den + r < c := by
    have : s * den + den ≤ 2 ^ j * den := by rw [← Nat.succ_mul]; exact Nat.mul_le_mul_right _ hs
    omega
  have hrest : (h * 2 ^ j + s) * den + r = h * c + (s * den + r) := by rw [Nat.add_mul, hc, Nat.mul_assoc, Nat.add_assoc]
  obtain ⟨u, hu⟩ : ∃ u, u = s * den + r := ⟨_, rfl⟩
  rw [← hu] at hsd hrest
  have hu0 : 0 < u ↔ 0 < s ∨ 0 < r := by
    rw [hu]
    constructor
    · intro h'
      rcases Nat.eq_zero_or_pos s with h0 | h0
      · subst h0; right; omega
      · exact .inl h0
    · rintro (h' | h')
      · have := Nat.mul_le_mul_right den (show 1 ≤ s from h'); omega
      · omega
  have hNN : num * S = M * (den * 2 ^ (t + (j + 1))) + (h * c + u) * 2 ^ t := by
    rw [hS, ← Nat.mul_assoc, hN, hsplit, hrest, hU, hc, Nat.add_mul, Nat.mul_assoc M]
  have hlt : (h * c + u) * 2 ^ t < den * 2 ^ (t + (j + 1)) := by
    rw [hU, ← hc]
    refine Nat.mul_lt_mul_of_pos_right ?_ hpt
    have : h * c ≤ 1 * c := Nat.mul_le_mul_right _ (by omega)
    omega
  have hn := near_round (num * S) den (t + (j + 1)) M ((h * c + u) * 2 ^ t) hd hNN hlt (by omega) (.inl (by omega))
  have er : rnd M ((h * c + u) * 2 ^ t) (den * 2 ^ (t + (j + 1))) = M + (if h = 1 ∧ (0 < s ∨ 0 < r ∨ M % 2 = 1) then 1 else 0) := by
    unfold rnd
    rw [hU, ← hc]
    have c0 : 2 * ((h * c + u) * 2 ^ t) = 2 * (h * c + u) * 2 ^ t := by rw [Nat.mul_assoc]
    rw [c0]
    have c1 : 2 * c * 2 ^ t < 2 * (h * c + u) * 2 ^ t ↔ 2 * c < 2 * (h * c + u) := Nat.mul_lt_mul_right hpt
    have c2 : 2 * c * 2 ^ t = 2 * (h * c + u) * 2 ^ t ↔ 2 * c = 2 * (h * c + u) := Nat.mul_left_inj (by omega)
    have key : (2 * c < 2 * (h * c + u) ∨ 2 * c = 2 * (h * c + u) ∧ M % 2 = 1) ↔ (h = 1 ∧ (0 < s ∨ 0 < r ∨ M % 2 = 1)) := by
      have h01 : h = 0 ∨ h = 1 := by omega
      rw [← or_assoc, ← hu0]
      rcases h01 with rfl | rfl
      · rw [Nat.zero_mul]
        constructor
        · rintro (h' | ⟨h', _⟩) <;> omega
        · rintro ⟨h', _⟩; omega
      · rw [Nat.one_mul]
        constructor
        · rintro (h' | ⟨h', h''⟩)
          · exact ⟨rfl, .inl (by omega)⟩
          · exact ⟨rfl, .inr h''⟩
        · rintro ⟨_, h' | h'⟩
          · left; omega
          · by_cases h0 : 0 < u
            · left; omega
            · right; exact ⟨by omega, h'⟩
    simp only [c1, c2, key]
  rw [er] at hn; exact hn
end Go.Proofs.Ytcnhgblpeonmgaa
