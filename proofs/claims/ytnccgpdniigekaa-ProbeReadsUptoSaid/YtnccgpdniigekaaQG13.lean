/-
  ratio.Near comes to the rung nearest to the fraction.
-/
import Derived.Test.YtnccgpdniigekaaQG12
import Derived.Test.YtnccgpdniigekaaQG28
namespace Go.Proofs.Ytnccgpdniigekaa
open Go.RowKit
set_option linter.unusedVariables false
set_option linter.unusedSimpArgs false
attribute [local go_sem high] binOp_lss64 binOp_gtr64 binOp_geq64 binOp_leq64 binOp_eql64 binOp_neq64 f64bits frombits

open Classical in
/-- The rung nearest to a fraction. -/
noncomputable def nr (num den : Nat) : Nat := if h : ∃ r, Near (num * S) den r then Classical.choose h else 0
theorem nr_eq {num den r : Nat} (hd : 0 < den) (h : Near (num * S) den r) : nr num den = r := by
  have hx : ∃ r, Near (num * S) den r := ⟨r, h⟩
  unfold nr; rw [dif_pos hx]
  exact near_unique (Classical.choose_spec hx) h hd hd rfl

theorem near_pk (num den a b t n d k q r : Nat) (hden : 0 < den) (hn : n = num * 2 ^ a) (hd : d = den * 2 ^ b) (hk : 1074 + b = a + t + k)
    (hq : n * 2 ^ t = q * d + r) (hr : r < d) (hq1 : 9223372036854775808 ≤ q) (hq2 : q < 18446744073709551616) :
    Near (num * S) den ((k + 11) * 4503599627370496 + pk q (decide (0 < r))) := by
  obtain ⟨m, hm⟩ : ∃ m, m = q / 2048 := ⟨_, rfl⟩
  obtain ⟨low, hlow⟩ : ∃ low, low = q % 2048 := ⟨_, rfl⟩
  have hqm : q = m * 2048 + low := by omega
  have hl2 : low < 2048 := by omega
  have hp : 0 < 2 ^ k := p2pos k
  have e11 : (2 : Nat) ^ (k + 11) = 2048 * 2 ^ k := by rw [Nat.pow_add]; omega
  have hdp : 0 < d := by omega
  have hld : low * d ≤ 2047 * d := Nat.mul_le_mul_right _ (by omega)
  -- the fraction, moved
  have hN : n * 2 ^ t * 2 ^ k = m * (d * 2 ^ (k + 11)) + (low * d + r) * 2 ^ k := by
    rw [hq, hqm, e11]
    have : m * (d * (2048 * 2 ^ k)) = m * 2048 * d * 2 ^ k := by ac_rfl
    rw [this, ← Nat.add_mul, Nat.add_mul (m * 2048), Nat.add_assoc]
  have hU : d * 2 ^ (k + 11) = 2048 * d * 2 ^ k := by rw [e11]; ac_rfl
  have hlt : (low * d + r) * 2 ^ k < d * 2 ^ (k + 11) := by
    rw [hU]; exact Nat.mul_lt_mul_of_pos_right (by omega) hp
  have hnear := near_round (n * 2 ^ t * 2 ^ k) d (k + 11) m ((low * d + r) * 2 ^ k) hdp hN hlt (by omega) (.inl (by omega))
  have er : rnd m ((low * d + r) * 2 ^ k) (d * 2 ^ (k + 11)) = pk q (decide (0 < r)) := by
    unfold rnd pk
    rw [← hm, ← hlow, hU]
    have c0 : 2 * ((low * d + r) * 2 ^ k) = 2 * (low * d + r) * 2 ^ k := by rw [Nat.mul_assoc]
    rw [c0]
    have c1 : 2048 * d * 2 ^ k < 2 * (low * d + r) * 2 ^ k ↔ 2048 * d < 2 * (low * d + r) := Nat.mul_lt_mul_right hp
    have c2 : 2048 * d * 2 ^ k = 2 * (low * d + r) * 2 ^ k ↔ 2048 * d = 2 * (low * d + r) := Nat.mul_left_inj (by omega)
    have key : (2048 * d < 2 * (low * d + r) ∨ 2048 * d = 2 * (low * d + r) ∧ m % 2 = 1) ↔ (1024 < low ∨ low = 1024 ∧ (decide (0 < r) = true ∨ m % 2 = 1)) := by
      rw [decide_eq_true_iff]
      rcases Nat.lt_trichotomy low 1024 with h | h | h
      · have : low * d ≤ 1023 * d := Nat.mul_le_mul_right _ (by omega)
        constructor
        · rintro (h' | h') <;> omega
        · rintro (h' | h') <;> omega
      · subst h
        constructor
        · rintro (h' | h')
          · right; exact ⟨rfl, .inl (by omega)⟩
          · right; exact ⟨rfl, .inr h'.2⟩
        · rintro (h' | ⟨_, h' | h'⟩)
          · omega
          · left; omega
          · by_cases h0 : 0 < r
            · left; omega
            · right; exact ⟨by omega, h'⟩
      · have : 1025 * d ≤ low * d := Nat.mul_le_mul_right _ (by omega)
        constructor
        · intro _; exact .inl h
        · intro _; left; omega
    simp only [c1, c2, key]
  rw [er] at hnear
  refine near_congr hnear hdp hden ?_
  have hk' : Q + b = a + t + k := by rw [Q_eq]; exact hk
  rw [hn, hd, S_eq]
  have e1 : num * 2 ^ a * 2 ^ t * 2 ^ k * den = num * den * (2 ^ (a + t + k)) := by rw [Nat.pow_add, Nat.pow_add]; ac_rfl
  have e2 : num * 2 ^ Q * (den * 2 ^ b) = num * den * (2 ^ (Q + b)) := by rw [Nat.pow_add]; ac_rfl
  rw [e1, e2, hk']

theorem lz_nat (n : Nat) (h0 : 0 < n) (h1 : n < 18446744073709551616) : ∃ a : Nat, lz (n : Int) = (a : Int) ∧ a ≤ 63 ∧ 9223372036854775808 ≤ n * 2 ^ a ∧ n * 2 ^ a < 18446744073709551616 := by
  obtain ⟨a1, a2, a3, a4⟩ := lz_spec (n : Int) (by omega) (by omega)
  obtain ⟨a, ha⟩ : ∃ a : Nat, lz (n : Int) = (a : Int) := ⟨(lz (n : Int)).toNat, by omega⟩
  rw [ha] at a1 a2 a3 a4
  rw [Int.toNat_natCast] at a3 a4
  have e : (n : Int) * 2 ^ a = ((n * 2 ^ a : Nat) : Int) := by rw [Int.natCast_mul, Int.natCast_pow]; rfl
  rw [e] at a3 a4
  exact ⟨a, ha, by omega, by omega, by omega⟩

theorem nr_zero {den : Nat} (hd : 0 < den) : nr 0 den = 0 := nr_eq hd (by rw [Nat.zero_mul]; exact near_zero den)

end Go.Proofs.Ytnccgpdniigekaa
/-
  inclineref02.Near comes to the same rung.
-/
namespace Go.Proofs.Ytnccgpdniigekaa
open Go.RowKit
set_option linter.unusedVariables false
set_option linter.unusedSimpArgs false
attribute [local go_sem high] binOp_lss64 binOp_gtr64 binOp_geq64 binOp_leq64 binOp_eql64 binOp_neq64 f64bits frombits

theorem nr_near {num den : Nat} (hn : num < 18446744073709551616) (hd0 : 0 < den) (hd1 : den < 18446744073709551616) : Near (num * S) den (nr num den) := by
  have key : ∃ r, Near (num * S) den r := by
    by_cases hn0 : num = 0
    · subst hn0; exact ⟨0, by rw [Nat.zero_mul]; exact near_zero den⟩
    obtain ⟨a, ha, ha1, ha2, ha3⟩ := lz_nat num (by omega) hn
    obtain ⟨b, hb, hb1, hb2, hb3⟩ := lz_nat den hd0 hd1
    obtain ⟨n, hn⟩ : ∃ n, n = num * 2 ^ a := ⟨_, rfl⟩
    obtain ⟨d, hd⟩ : ∃ d, d = den * 2 ^ b := ⟨_, rfl⟩
    rw [← hn] at ha2 ha3
    rw [← hd] at hb2 hb3
    by_cases hnd : d ≤ n
    · have hdm := Nat.div_add_mod (n * 2 ^ 63) d
      exact ⟨_, near_pk num den a b 63 n d (1011 + b - a) _ _ hd0 hn hd (by omega) (by rw [Nat.mul_comm] at hdm; exact hdm.symm) (Nat.mod_lt _ (by omega)) (by rw [Nat.le_div_iff_mul_le (by omega)]; omega) (by rw [Nat.div_lt_iff_lt_mul (by omega)]; omega)⟩
    · have hdm := Nat.div_add_mod (n * 2 ^ 64) d
      exact ⟨_, near_pk num den a b 64 n d (1010 + b - a) _ _ hd0 hn hd (by omega) (by rw [Nat.mul_comm] at hdm; exact hdm.symm) (Nat.mod_lt _ (by omega)) (by rw [Nat.le_div_iff_mul_le (by omega)]; omega) (by rw [Nat.div_lt_iff_lt_mul (by omega)]; omega)⟩
  obtain ⟨r, hr⟩ := key
  rw [nr_eq hd0 hr]; exact hr

theorem double_any (r den : Nat) (hr : r < den) (hd : den < 18446744073709551616) (w : World) :
    Calls Try.prog 88 #[.int .u64 (r : Int), .int .u64 (den : Int)] w fun e w' => e = .returned (.tuple #[.int .u64 ((2 * r % den : Nat) : Int), .bool (decide (den ≤ 2 * r))]) ∧ w = w' := by
  by_cases h : den ≤ 2 * r
  · have e : 2 * r % den = r - (den - r) := by
      have h1 : 2 * r = (r - (den - r)) + den := by omega
      rw [h1, Nat.add_mod_right, Nat.mod_eq_of_lt (by omega)]
    rw [e, decide_eq_true h]
    have g : (den : Int) - (r : Int) ≤ (r : Int) := by omega
    have w1 : IntKind.u64.wrap ((den : Int) - (r : Int)) = (den : Int) - (r : Int) := by rw [IntKind.wrap_u64]; omega
    have w2 : IntKind.u64.wrap ((r : Int) - ((den : Int) - (r : Int))) = ((r - (den - r) : Nat) : Int) := by rw [IntKind.wrap_u64]; omega
    generalize r - (den - r) = k at w2 ⊢
    go_enter Try.func88, Try.ntmps88
    go_wp2
    simp [bodyPost, results, Try.results88, go_sem]
  · have e : 2 * r % den = 2 * r := Nat.mod_eq_of_lt (by omega)
    rw [e, decide_eq_false h]
    have g : ¬ ((den : Int) - (r : Int) ≤ (r : Int)) := by omega
    have w1 : IntKind.u64.wrap ((den : Int) - (r : Int)) = (den : Int) - (r : Int) := by rw [IntKind.wrap_u64]; omega
    have w2 : IntKind.u64.wrap (2 * (r : Int)) = ((2 * r : Nat) : Int) := by rw [IntKind.wrap_u64]; omega
    generalize 2 * r = k at w2 ⊢
    go_enter Try.func88, Try.ntmps88
    go_wp2
    simp [bodyPost, results, Try.results88, go_sem]

/-- The reference's quotient: m of 54 digits, s and r left behind. -/
theorem near_ref (num den k j m s r : Nat) (hd : 0 < den) (hk : k ≤ 1000) (hN : num * 2 ^ k = (m * 2 ^ j + s) * den + r) (hr : r < den) (hs : s < 2 ^ j) (h1 : 9007199254740992 ≤ m) (h2 : m < 18014398509481984) :
    Near (num * S) den ((1075 - k + j) * 4503599627370496 + (m / 2 + (if m % 2 = 1 ∧ (0 < s ∨ 0 < r ∨ m / 2 % 2 = 1) then 1 else 0))) := by
  obtain ⟨M, hM⟩ : ∃ M, M = m / 2 := ⟨_, rfl⟩
  obtain ⟨h, hh⟩ : ∃ h, h = m % 2 := ⟨_, rfl⟩
  have hm : m = 2 * M + h := by omega
  have hh2 : h < 2 := by omega
  rw [← hM, ← hh]
  obtain ⟨t, ht⟩ : ∃ t, t = Q - k := ⟨_, rfl⟩
  have hQ := Q_eq
  have hpj := p2pos j
  have hpt := p2pos t
  have hS : S = 2 ^ k * 2 ^ t := by rw [S_eq, ← Nat.pow_add]; congr 1; omega
  have ee : 1075 - k + j = t + (j + 1) := by omega
  rw [ee]
  have hU : den * 2 ^ (t + (j + 1)) = 2 * (2 ^ j * den) * 2 ^ t := by rw [Nat.pow_add, Nat.pow_succ]; ac_rfl
  have hsplit : (m * 2 ^ j + s) * den + r = M * (2 * (2 ^ j * den)) + ((h * 2 ^ j + s) * den + r) := by
    rw [hm]
    have e1 : (2 * M + h) * 2 ^ j + s = 2 * M * 2 ^ j + (h * 2 ^ j + s) := by rw [Nat.add_mul, Nat.add_assoc]
    rw [e1, Nat.add_mul, Nat.add_assoc]
    congr 1; ac_rfl
  obtain ⟨c, hc⟩ : ∃ c, c = 2 ^ j * den := ⟨_, rfl⟩
  have hsd : s * den + r < c := by
    have : s * den + den ≤ 2 ^ j * den := by rw [← Nat.succ_mul]; exact Nat.mul_le_mul_right _ hs
    omega
  have hrest : (h * 2 ^ j + s) * den + r = h * c + (s * den + r) := by rw [Nat.add_mul, hc, Nat.mul_assoc, Nat.add_assoc]
  obtain ⟨u, hu⟩ : ∃ u, u = s * den + r := ⟨_, rfl⟩
  rw [← hu] at hsd hrest
  have hu0 : 0 < u ↔ 0 < s ∨ 0 < r := by
    rw [hu]
    constructor
    · intro h'
      rcases Nat.eq_zero_or_pos s with h0 | h0
      · subst h0; right; omega
      · exact .inl h0
    · rintro (h' | h')
      · have := Nat.mul_le_mul_right den (show 1 ≤ s from h'); omega
      · omega
  have hNN : num * S = M * (den * 2 ^ (t + (j + 1))) + (h * c + u) * 2 ^ t := by
    rw [hS, ← Nat.mul_assoc, hN, hsplit, hrest, hU, hc, Nat.add_mul, Nat.mul_assoc M]
  have hlt : (h * c + u) * 2 ^ t < den * 2 ^ (t + (j + 1)) := by
    rw [hU, ← hc]
    refine Nat.mul_lt_mul_of_pos_right ?_ hpt
    have : h * c ≤ 1 * c := Nat.mul_le_mul_right _ (by omega)
    omega
  have hn := near_round (num * S) den (t + (j + 1)) M ((h * c + u) * 2 ^ t) hd hNN hlt (by omega) (.inl (by omega))
  have er : rnd M ((h * c + u) * 2 ^ t) (den * 2 ^ (t + (j + 1))) = M + (if h = 1 ∧ (0 < s ∨ 0 < r ∨ M % 2 = 1) then 1 else 0) := by
    unfold rnd
    rw [hU, ← hc]
    have c0 : 2 * ((h * c + u) * 2 ^ t) = 2 * (h * c + u) * 2 ^ t := by rw [Nat.mul_assoc]
    rw [c0]
    have c1 : 2 * c * 2 ^ t < 2 * (h * c + u) * 2 ^ t ↔ 2 * c < 2 * (h * c + u) := Nat.mul_lt_mul_right hpt
    have c2 : 2 * c * 2 ^ t = 2 * (h * c + u) * 2 ^ t ↔ 2 * c = 2 * (h * c + u) := Nat.mul_left_inj (by omega)
    have key : (2 * c < 2 * (h * c + u) ∨ 2 * c = 2 * (h * c + u) ∧ M % 2 = 1) ↔ (h = 1 ∧ (0 < s ∨ 0 < r ∨ M % 2 = 1)) := by
      have h01 : h = 0 ∨ h = 1 := by omega
      rw [← or_assoc, ← hu0]
      rcases h01 with rfl | rfl
      · rw [Nat.zero_mul]
        constructor
        · rintro (h' | ⟨h', _⟩) <;> omega
        · rintro ⟨h', _⟩; omega
      · rw [Nat.one_mul]
        constructor
        · rintro (h' | ⟨h', h''⟩)
          · exact ⟨rfl, .inl (by omega)⟩
          · exact ⟨rfl, .inr h''⟩
        · rintro ⟨_, h' | h'⟩
          · left; omega
          · by_cases h0 : 0 < u
            · left; omega
            · right; exact ⟨by omega, h'⟩
    simp only [c1, c2, key]
  rw [er] at hn; exact hn
end Go.Proofs.Ytnccgpdniigekaa
/-
  Plain: twice a float, half of one.
-/
namespace Go.Proofs.Ytnccgpdniigekaa
set_option linter.unusedVariables false
set_option linter.unusedSimpArgs false

theorem val_dbl {r : Nat} (h : 4503599627370496 ≤ r) : val (r + 4503599627370496) = 2 * val r := by
  have hm := mg_or r
  have hl := mg_lt r
  have e := rung_eq r
  have hg : 4503599627370496 ≤ mg r := by unfold mg; split <;> omega
  have h2 := val_em (pl r + 1) (mg r) (.inl hg) (by omega)
  have e2 : (pl r + 1) * 4503599627370496 + mg r = r + 4503599627370496 := by omega
  rw [e2, Nat.pow_succ] at h2
  rw [h2]; unfold val; ac_rfl

theorem mul_two {r : Nat} (h1 : 4503599627370496 ≤ r) (h2 : r + 4503599627370496 < INF) : Ieee.double.mul r 4611686018427387904 = some (r + 4503599627370496) := by
  have e1 : ng 4611686018427387904 = false := ng_small (by decide)
  have e2 : rg 4611686018427387904 = 4611686018427387904 := rg_small (by decide)
  have e3 := ng_small (show r ≤ INF by omega)
  have e4 := rg_small (show r ≤ INF by omega)
  have := mul_exact (a := r) (b := 4611686018427387904) (r := r + 4503599627370496) (fin_small (by omega)) (fin_small (by decide)) (by omega) (by rw [e2, e4, val_two, val_dbl h1]; ac_rfl)
  rw [e1, e3] at this; exact this

theorem read_two : Ieee.double.read 4611686018427387904 = .number false 4503599627370496 (-51) := by decide
theorem log2_52 : (4503599627370496 : Nat).log2 = 52 := by decide
theorem div_two {r : Nat} (h1 : 9007199254740992 ≤ r) (h2 : r < INF) : Ieee.double.div r 4611686018427387904 = some (r - 4503599627370496) := by
  have e3 := ng_small (show r ≤ INF by omega)
  have e4 := rg_small (show r ≤ INF by omega)
  have hg : 4503599627370496 ≤ mg r := by unfold mg; split <;> omega
  have hl := mg_lt r
  have e := rung_eq r
  have hp : 1 ≤ pl r := by unfold pl; omega
  unfold Ieee.Format.div
  rw [read_fin (fin_small h2), e3, e4]
  have r2 := read_two
  rw [r2, d_frac]
  unfold Ieee.Datum.quotient
  dsimp only
  rw [if_neg (by decide)]
  have hlog : (mg r).log2 = 52 := by
    rw [Nat.log2_eq_iff (by omega)]
    have a1 : (2 : Nat) ^ 52 = 4503599627370496 := by decide
    have a2 : (2 : Nat) ^ (52 + 1) = 9007199254740992 := by decide
    omega
  have hlog2 := log2_52
  rw [hlog, hlog2, Nat.shiftLeft_eq]
  have hdiv : mg r * 2 ^ (52 + 2 + 52 - 52) / 4503599627370496 = mg r * 4 := by
    have : (2 : Nat) ^ (52 + 2 + 52 - 52) = 4 * 4503599627370496 := by decide
    rw [this, ← Nat.mul_assoc, Nat.mul_div_cancel _ (by decide)]
  have hmod : mg r * 2 ^ (52 + 2 + 52 - 52) % 4503599627370496 = 0 := by
    have : (2 : Nat) ^ (52 + 2 + 52 - 52) = 4 * 4503599627370496 := by decide
    rw [this, ← Nat.mul_assoc, Nat.mul_mod_left]
  rw [hdiv, hmod]
  have hv : val (r - 4503599627370496) = mg r * 2 ^ (pl r - 1) := by
    have h2 := val_em (pl r - 1) (mg r) (.inl hg) (by omega)
    have e2 : (pl r - 1) * 4503599627370496 + mg r = r - 4503599627370496 := by omega
    rw [e2] at h2; exact h2
  have hz : (0 != 0).toNat = 0 := by decide
  rw [hz]
  have fin := write_exact false (2 * (mg r * 4) + 0) (-1074 + (pl r : Int) - -51 - ((52 + 2 + 52 - 52 : Nat) : Int) - 1) (r - 4503599627370496) (by omega) ?_
  · have hx : (false ^^ false) = false := by decide
    rw [hx, Option.map_some, fin, wd_pos]
  · rw [hv]
    obtain ⟨up, hup⟩ : ∃ up, up = (-1074 + (pl r : Int) - -51 - ((52 + 2 + 52 - 52 : Nat) : Int) - 1 + 1074).toNat := ⟨_, rfl⟩
    obtain ⟨dn, hdn⟩ : ∃ dn, dn = (-1074 - (-1074 + (pl r : Int) - -51 - ((52 + 2 + 52 - 52 : Nat) : Int) - 1)).toNat := ⟨_, rfl⟩
    rw [← hup, ← hdn]
    have hs : up + 3 = pl r - 1 + dn := by omega
    have : 2 ^ up * 8 = 2 ^ (pl r - 1) * 2 ^ dn := by
      rw [← Nat.pow_add, ← hs, Nat.pow_add]
    rw [Nat.mul_assoc (mg r), ← this, Nat.add_zero]
    have : 2 * (mg r * 4) = mg r * 8 := by omega
    rw [this]; ac_rfl
end Go.Proofs.Ytnccgpdniigekaa
/-
  inclineref02.Near from its rounding on.
-/
namespace Go.Proofs.Ytnccgpdniigekaa
open Go.RowKit
set_option linter.unusedVariables false
set_option linter.unusedSimpArgs false
attribute [local go_sem high] binOp_lss64 binOp_gtr64 binOp_geq64 binOp_leq64 binOp_eql64 binOp_neq64 f64bits frombits

def cFstR : Code → Code
  | .seq a _ => a
  | c => c
def cSndR : Code → Code
  | .seq _ b => b
  | c => c
noncomputable def rnB : Code := Try.f71.body.getD .skip

set_option maxRecDepth 100000 in
set_option maxHeartbeats 4000000 in
theorem rn_after (f0 R : Nat) (x : Int) (w : World) (hx : -200 ≤ x ∧ x ≤ 20) (HR : Hid ((f0 : Int) + x * 4503599627370496 = (R : Int))) (RB : Hid (800 * 4503599627370496 ≤ R ∧ R ≤ 1097 * 4503599627370496)) (u0 u1 u2 u3 u4 u5 u6 u7 u9 u10 u11 u12 u14 u15 u16 u17 u18 u19 u20 u21 u22 u23 u24 u25 u26 u27 u28 u29 u30 u31 u32 u33 u34 u35 u36 u37 u38 u39 u40 u41 u42 u43 u44 u45 u46 u47 u48 u49 u50 u51 u52 u53 u54 u55 u56 u57 u58 u59 u60 u61 u62 u63 u64 u65 u66 u67 u68 u69 u70 u71 u72 u73 u74 u75 u76 u77 u78 u79 u80 u81 u82 u83 u84 u85 u86 u87 u88 u89 : Value) :
    Code.wp Try.prog (cSndR (seqAt 26 rnB)) (bodyPost Try.prog Try.f71 fun e w' => e = .returned (.tuple #[.float .f64 R, .int .i64 0]) ∧ w = w') ⟨#[u0, u1, u2, u3, u4, u5, u6, u7, .int .i64 x, u9, u10, u11, u12, .float .f64 f0, u14, u15, u16, u17, u18, u19, u20, u21, u22, u23, u24, u25, u26, u27, u28, u29, u30, u31, u32, u33, u34, u35, u36, u37, u38, u39, u40, u41, u42, u43, u44, u45, u46, u47, u48, u49, u50, u51, u52, u53, u54, u55, u56, u57, u58, u59, u60, u61, u62, u63, u64, u65, u66, u67, u68, u69, u70, u71, u72, u73, u74, u75, u76, u77, u78, u79, u80, u81, u82, u83, u84, u85, u86, u87, u88, u89], []⟩ w := by
  conv => arg 2; whnf
  have hl := INF_lit
  go_wp2_with fail
  go_loopw [8, 13] (fun s8 s13 wr => ∃ (y : Int) (f : Nat), w = wr ∧ s8 = .int .i64 y ∧ s13 = .float .f64 f ∧ Hid ((f : Int) + y * 4503599627370496 = (R : Int) ∧ -200 ≤ y ∧ y ≤ 20)) (fun s8 _ _ => (intOf s8).toNat)
  case atStart => exact ⟨x, f0, rfl, rfl, rfl, Lib.hid ⟨HR.out, hx⟩⟩
  case round =>
    obtain ⟨y, f, rfl, rfl, rfl, H⟩ := hrel
    have hy := H.out.2
    by_cases hp : 0 < y
    · have E := RB.out
      have e1 := H.out.1
      have MT : ∀ t W, (binOp .mul t (.float .f64 f) (.float .f64 4611686018427387904)).run Try.prog W = .ok (.float .f64 (f + 4503599627370496)) W := fun t W => run_float_arith W .mul t .f64 _ _ _ (mul_two (by omega) (by omega))
      clear e1 E
      have w1 : wrap64 (y - 1) = y - 1 := by unfold wrap64; omega
      go_wp2_with fail
      go_roundw
      case rel => exact ⟨y - 1, f + 4503599627370496, trivial, rfl, rfl, Lib.hid ⟨by have := H.out.1; omega, by omega, by omega⟩⟩
      case measure => simp only [intOf]; omega
    · go_wp2_with fail
      go_loopw [8, 13] (fun s8 s13 wr => ∃ (y : Int) (f : Nat), w = wr ∧ s8 = .int .i64 y ∧ s13 = .float .f64 f ∧ Hid ((f : Int) + y * 4503599627370496 = (R : Int) ∧ -200 ≤ y ∧ y ≤ 0)) (fun s8 _ _ => (-intOf s8).toNat)
      case atStart => exact ⟨y, f, rfl, rfl, rfl, Lib.hid ⟨H.out.1, hy.1, by omega⟩⟩
      case round =>
        clear H hp hy
        obtain ⟨y, f, rfl, rfl, rfl, H⟩ := hrel
        have hy := H.out.2
        by_cases hp : y < 0
        · have E := RB.out
          have e1 := H.out.1
          have MT : ∀ t W, (binOp .quo t (.float .f64 f) (.float .f64 4611686018427387904)).run Try.prog W = .ok (.float .f64 (f - 4503599627370496)) W := fun t W => run_float_arith W .quo t .f64 _ _ _ (div_two (by omega) (by omega))
          have hsub : ((f - 4503599627370496 : Nat) : Int) = (f : Int) - 4503599627370496 := by omega
          have HS := Lib.hid hsub
          clear e1 E hsub
          have w1 : wrap64 (y + 1) = y + 1 := by unfold wrap64; omega
          go_wp2_with fail
          go_roundw
          case rel => exact ⟨y + 1, f - 4503599627370496, trivial, rfl, rfl, Lib.hid ⟨by have := H.out.1; have := HS.out; omega, by omega, by omega⟩⟩
          case measure => simp only [intOf]; omega
        · have e1 : f = R := by have := H.out.1; have : y = 0 := by omega
                                subst this; omega
          subst e1
          go_wp2_with fail
          simp [bodyPost, results, Try.results71, go_sem]
set_option maxHeartbeats 4000000 in
set_option maxRecDepth 100000 in
theorem rn_26 {w : World} {M : Nat} (h1 : 4503599627370496 ≤ M) (h2 : M ≤ 9007199254740992) (u0 u1 u2 u3 u4 u5 u7 u8 u9 u10 u11 u12 u13 u14 u15 u16 u17 u18 u19 u20 u21 u22 u23 u24 u25 u26 u27 u28 u29 u30 u31 u32 u33 u34 u35 u36 u37 u38 u39 u40 u41 u42 u43 u44 u45 u46 u47 u48 u49 u50 u51 u52 u53 u54 u55 u56 u57 u58 u59 u60 u61 u62 u63 u64 u65 u66 u67 u68 u69 u70 u71 u72 u73 u74 u75 u76 u77 u78 u79 u80 u81 u82 u83 u84 u85 u86 u87 u88 u89 : Value) {K : Act → World → Prop} {Q : Exit → Act → World → Prop}
    (hK : ∀ (x75 x76 : Value) , K ⟨#[u0, u1, u2, u3, u4, u5, .int .u64 (M : Int), u7, u8, u9, u10, u11, u12, .float .f64 (1074 * 4503599627370496 + M), u14, u15, u16, u17, u18, u19, u20, u21, u22, u23, u24, u25, u26, u27, u28, u29, u30, u31, u32, u33, u34, u35, u36, u37, u38, u39, u40, u41, u42, u43, u44, u45, u46, u47, u48, u49, u50, u51, u52, u53, u54, u55, u56, u57, u58, u59, u60, u61, u62, u63, u64, u65, u66, u67, u68, u69, u70, u71, u72, u73, u74, x75, x76, u77, u78, u79, u80, u81, u82, u83, u84, u85, u86, u87, u88, u89], []⟩ w) :
    Code.wp Try.prog (cFstR (seqAt 26 rnB)) (Exit.then K Q) ⟨#[u0, u1, u2, u3, u4, u5, .int .u64 (M : Int), u7, u8, u9, u10, u11, u12, u13, u14, u15, u16, u17, u18, u19, u20, u21, u22, u23, u24, u25, u26, u27, u28, u29, u30, u31, u32, u33, u34, u35, u36, u37, u38, u39, u40, u41, u42, u43, u44, u45, u46, u47, u48, u49, u50, u51, u52, u53, u54, u55, u56, u57, u58, u59, u60, u61, u62, u63, u64, u65, u66, u67, u68, u69, u70, u71, u72, u73, u74, u75, u76, u77, u78, u79, u80, u81, u82, u83, u84, u85, u86, u87, u88, u89], []⟩ w := by
  conv => arg 2; whnf
  have HKK := Lib.hid hK
  clear hK
  have hf := ofInt_53 M h1 h2
  obtain ⟨f0, hf0⟩ : ∃ f0, f0 = 1074 * 4503599627370496 + M := ⟨_, rfl⟩
  rw [← hf0] at hf HKK
  clear hf0
  go_wp2_with fail
  exact HKK.out _ _

set_option maxRecDepth 100000 in
set_option maxHeartbeats 4000000 in
theorem rn_tail (m s r R : Nat) (x : Int) (w : World) (h1 : 9007199254740992 ≤ m) (h2 : m < 18014398509481984) (hr64 : r < 18446744073709551616) (hx : -199 ≤ x ∧ x ≤ 19) (hR : (R : Int) = (1075 + x) * 4503599627370496 + ((m / 2 + (if m % 2 = 1 ∧ (0 < s ∨ 0 < r ∨ m / 2 % 2 = 1) then 1 else 0) : Nat) : Int)) (u0 u1 u2 u3 u4 u5 u10 u11 u12 u13 u14 u15 u16 u17 u18 u19 u20 u21 u22 u23 u24 u25 u26 u27 u28 u29 u30 u31 u32 u33 u34 u35 u36 u37 u38 u39 u40 u41 u42 u43 u44 u45 u46 u47 u48 u49 u50 u51 u52 u53 u54 u55 u56 u57 u58 u59 u60 u61 u62 u63 u64 u65 u66 u67 u68 u69 u70 u71 u72 u73 u74 u75 u76 u77 u78 u79 u80 u81 u82 u83 u84 u85 u86 u87 u88 u89 : Value) :
    Code.wp Try.prog (seqAt 20 rnB) (bodyPost Try.prog Try.f71 fun e w' => e = .returned (.tuple #[.float .f64 R, .int .i64 0]) ∧ w = w') ⟨#[u0, u1, u2, u3, u4, u5, .int .u64 (m : Int), .int .u64 (r : Int), .int .i64 x, .bool (decide (0 < s)), u10, u11, u12, u13, u14, u15, u16, u17, u18, u19, u20, u21, u22, u23, u24, u25, u26, u27, u28, u29, u30, u31, u32, u33, u34, u35, u36, u37, u38, u39, u40, u41, u42, u43, u44, u45, u46, u47, u48, u49, u50, u51, u52, u53, u54, u55, u56, u57, u58, u59, u60, u61, u62, u63, u64, u65, u66, u67, u68, u69, u70, u71, u72, u73, u74, u75, u76, u77, u78, u79, u80, u81, u82, u83, u84, u85, u86, u87, u88, u89], []⟩ w := by
  obtain ⟨m2, hm2⟩ : ∃ m2, m2 = m / 2 := ⟨_, rfl⟩
  obtain ⟨p, hp⟩ : ∃ p, p = m % 2 := ⟨_, rfl⟩
  obtain ⟨p2, hp2⟩ : ∃ p2, p2 = m2 % 2 := ⟨_, rfl⟩
  have d1 : (m : Int) / 2 = (m2 : Int) := by omega
  have d2 : (m : Int) % 2 = (p : Int) := by omega
  have d3 : (m2 : Int) % 2 = (p2 : Int) := by omega
  have hp01 : p = 0 ∨ p = 1 := by omega
  have hp201 : p2 = 0 ∨ p2 = 1 := by omega
  rw [← hm2, ← hp, ← hp2] at hR
  have b1 : 4503599627370496 ≤ m2 := by omega
  have b2 : m2 < 9007199254740992 := by omega
  have w1 : wrap64 (x + 1) = x + 1 := by unfold wrap64; omega
  have w2 : IntKind.u64.wrap ((m2 : Int) + 1) = (m2 : Int) + 1 := by rw [IntKind.wrap_u64]; omega
  have E0 : (R : Int) = (1075 + x) * 4503599627370496 + (m2 : Int) → Hid (∀ (M : Nat) (y : Int), M = m2 → y = x + 1 → (R : Int) = 1074 * 4503599627370496 + M + y * 4503599627370496 ∧ 4503599627370496 ≤ M ∧ M ≤ 9007199254740992 ∧ -200 ≤ y ∧ y ≤ 20) := fun h => Lib.hid (fun M y e1 e2 => by subst e1; subst e2; omega)
  have E1 : (R : Int) = (1075 + x) * 4503599627370496 + ((m2 + 1 : Nat) : Int) → Hid (∀ (M : Nat) (y : Int), M = m2 + 1 → y = x + 1 → (R : Int) = 1074 * 4503599627370496 + M + y * 4503599627370496 ∧ 4503599627370496 ≤ M ∧ M ≤ 9007199254740992 ∧ -200 ≤ y ∧ y ≤ 20) := fun h => Lib.hid (fun M y e1 e2 => by subst e1; subst e2; omega)
  clear hm2 hp hp2 h1 h2
  conv => arg 2; whnf
  by_cases hs : 0 < s
  · rw [decide_eq_true hs]
    rcases hp01 with rfl | rfl
    · skip
      replace E0 := E0 (by rw [hR, if_neg (by simp)]; simp)
      clear E1 hR
      go_upto_region 26 with fail
      obtain ⟨q1, q2, q3, q4⟩ := E0.out m2 (x + 1) rfl rfl
      rename_i K HK
      refine rn_26 (M := m2) q2 q3 _ _ _ _ _ _ _ _ _ _ _ _ _ _ _ _ _ _ _ _ _ _ _ _ _ _ _ _ _ _ _ _ _ _ _ _ _ _ _ _ _ _ _ _ _ _ _ _ _ _ _ _ _ _ _ _ _ _ _ _ _ _ _ _ _ _ _ _ _ _ _ _ _ _ _ _ _ _ _ _ _ _ _ _ _ _ _ _ _ (fun _ _ => HK _ _ ?_)
      exact rn_after (1074 * 4503599627370496 + m2) R (x + 1) _ q4 (Lib.hid (by omega)) (Lib.hid (by omega)) _ _ _ _ _ _ _ _ _ _ _ _ _ _ _ _ _ _ _ _ _ _ _ _ _ _ _ _ _ _ _ _ _ _ _ _ _ _ _ _ _ _ _ _ _ _ _ _ _ _ _ _ _ _ _ _ _ _ _ _ _ _ _ _ _ _ _ _ _ _ _ _ _ _ _ _ _ _ _ _ _ _ _ _ _ _ _ _
    · skip
      replace E1 := E1 (by rw [hR, if_pos ⟨rfl, .inl hs⟩])
      clear E0 hR
      go_upto_region 26 with fail
      obtain ⟨q1, q2, q3, q4⟩ := E1.out (m2 + 1) (x + 1) rfl rfl
      rename_i K HK
      refine rn_26 (M := (m2 + 1)) q2 q3 _ _ _ _ _ _ _ _ _ _ _ _ _ _ _ _ _ _ _ _ _ _ _ _ _ _ _ _ _ _ _ _ _ _ _ _ _ _ _ _ _ _ _ _ _ _ _ _ _ _ _ _ _ _ _ _ _ _ _ _ _ _ _ _ _ _ _ _ _ _ _ _ _ _ _ _ _ _ _ _ _ _ _ _ _ _ _ _ _ (fun _ _ => HK _ _ ?_)
      exact rn_after (1074 * 4503599627370496 + (m2 + 1)) R (x + 1) _ q4 (Lib.hid (by omega)) (Lib.hid (by omega)) _ _ _ _ _ _ _ _ _ _ _ _ _ _ _ _ _ _ _ _ _ _ _ _ _ _ _ _ _ _ _ _ _ _ _ _ _ _ _ _ _ _ _ _ _ _ _ _ _ _ _ _ _ _ _ _ _ _ _ _ _ _ _ _ _ _ _ _ _ _ _ _ _ _ _ _ _ _ _ _ _ _ _ _ _ _ _ _
  · rw [decide_eq_false hs]
    by_cases hr : 0 < r
    · have hr' : (0 : Int) < (r : Int) := by omega
      rcases hp01 with rfl | rfl
      · skip
        replace E0 := E0 (by rw [hR, if_neg (by simp)]; simp)
        clear E1 hR
        go_upto_region 26 with fail
        obtain ⟨q1, q2, q3, q4⟩ := E0.out m2 (x + 1) rfl rfl
        rename_i K HK
        refine rn_26 (M := m2) q2 q3 _ _ _ _ _ _ _ _ _ _ _ _ _ _ _ _ _ _ _ _ _ _ _ _ _ _ _ _ _ _ _ _ _ _ _ _ _ _ _ _ _ _ _ _ _ _ _ _ _ _ _ _ _ _ _ _ _ _ _ _ _ _ _ _ _ _ _ _ _ _ _ _ _ _ _ _ _ _ _ _ _ _ _ _ _ _ _ _ _ (fun _ _ => HK _ _ ?_)
        exact rn_after (1074 * 4503599627370496 + m2) R (x + 1) _ q4 (Lib.hid (by omega)) (Lib.hid (by omega)) _ _ _ _ _ _ _ _ _ _ _ _ _ _ _ _ _ _ _ _ _ _ _ _ _ _ _ _ _ _ _ _ _ _ _ _ _ _ _ _ _ _ _ _ _ _ _ _ _ _ _ _ _ _ _ _ _ _ _ _ _ _ _ _ _ _ _ _ _ _ _ _ _ _ _ _ _ _ _ _ _ _ _ _ _ _ _ _
      · skip
        replace E1 := E1 (by rw [hR, if_pos ⟨rfl, .inr (.inl hr)⟩])
        clear E0 hR
        go_upto_region 26 with fail
        obtain ⟨q1, q2, q3, q4⟩ := E1.out (m2 + 1) (x + 1) rfl rfl
        rename_i K HK
        refine rn_26 (M := (m2 + 1)) q2 q3 _ _ _ _ _ _ _ _ _ _ _ _ _ _ _ _ _ _ _ _ _ _ _ _ _ _ _ _ _ _ _ _ _ _ _ _ _ _ _ _ _ _ _ _ _ _ _ _ _ _ _ _ _ _ _ _ _ _ _ _ _ _ _ _ _ _ _ _ _ _ _ _ _ _ _ _ _ _ _ _ _ _ _ _ _ _ _ _ _ (fun _ _ => HK _ _ ?_)
        exact rn_after (1074 * 4503599627370496 + (m2 + 1)) R (x + 1) _ q4 (Lib.hid (by omega)) (Lib.hid (by omega)) _ _ _ _ _ _ _ _ _ _ _ _ _ _ _ _ _ _ _ _ _ _ _ _ _ _ _ _ _ _ _ _ _ _ _ _ _ _ _ _ _ _ _ _ _ _ _ _ _ _ _ _ _ _ _ _ _ _ _ _ _ _ _ _ _ _ _ _ _ _ _ _ _ _ _ _ _ _ _ _ _ _ _ _ _ _ _ _
    · have hr' : ¬ ((0 : Int) < (r : Int)) := by omega
      rcases hp01 with rfl | rfl
      · skip
        replace E0 := E0 (by rw [hR, if_neg (by simp)]; simp)
        clear E1 hR
        go_upto_region 26 with fail
        obtain ⟨q1, q2, q3, q4⟩ := E0.out m2 (x + 1) rfl rfl
        rename_i K HK
        refine rn_26 (M := m2) q2 q3 _ _ _ _ _ _ _ _ _ _ _ _ _ _ _ _ _ _ _ _ _ _ _ _ _ _ _ _ _ _ _ _ _ _ _ _ _ _ _ _ _ _ _ _ _ _ _ _ _ _ _ _ _ _ _ _ _ _ _ _ _ _ _ _ _ _ _ _ _ _ _ _ _ _ _ _ _ _ _ _ _ _ _ _ _ _ _ _ _ (fun _ _ => HK _ _ ?_)
        exact rn_after (1074 * 4503599627370496 + m2) R (x + 1) _ q4 (Lib.hid (by omega)) (Lib.hid (by omega)) _ _ _ _ _ _ _ _ _ _ _ _ _ _ _ _ _ _ _ _ _ _ _ _ _ _ _ _ _ _ _ _ _ _ _ _ _ _ _ _ _ _ _ _ _ _ _ _ _ _ _ _ _ _ _ _ _ _ _ _ _ _ _ _ _ _ _ _ _ _ _ _ _ _ _ _ _ _ _ _ _ _ _ _ _ _ _ _
      · rcases hp201 with rfl | rfl
        · skip
          replace E0 := E0 (by rw [hR, if_neg (by simp; omega)]; simp)
          clear E1 hR
          go_upto_region 26 with fail
          obtain ⟨q1, q2, q3, q4⟩ := E0.out m2 (x + 1) rfl rfl
          rename_i K HK
          refine rn_26 (M := m2) q2 q3 _ _ _ _ _ _ _ _ _ _ _ _ _ _ _ _ _ _ _ _ _ _ _ _ _ _ _ _ _ _ _ _ _ _ _ _ _ _ _ _ _ _ _ _ _ _ _ _ _ _ _ _ _ _ _ _ _ _ _ _ _ _ _ _ _ _ _ _ _ _ _ _ _ _ _ _ _ _ _ _ _ _ _ _ _ _ _ _ _ (fun _ _ => HK _ _ ?_)
          exact rn_after (1074 * 4503599627370496 + m2) R (x + 1) _ q4 (Lib.hid (by omega)) (Lib.hid (by omega)) _ _ _ _ _ _ _ _ _ _ _ _ _ _ _ _ _ _ _ _ _ _ _ _ _ _ _ _ _ _ _ _ _ _ _ _ _ _ _ _ _ _ _ _ _ _ _ _ _ _ _ _ _ _ _ _ _ _ _ _ _ _ _ _ _ _ _ _ _ _ _ _ _ _ _ _ _ _ _ _ _ _ _ _ _ _ _ _
        · skip
          replace E1 := E1 (by rw [hR, if_pos ⟨rfl, .inr (.inr rfl)⟩])
          clear E0 hR
          go_upto_region 26 with fail
          obtain ⟨q1, q2, q3, q4⟩ := E1.out (m2 + 1) (x + 1) rfl rfl
          rename_i K HK
          refine rn_26 (M := (m2 + 1)) q2 q3 _ _ _ _ _ _ _ _ _ _ _ _ _ _ _ _ _ _ _ _ _ _ _ _ _ _ _ _ _ _ _ _ _ _ _ _ _ _ _ _ _ _ _ _ _ _ _ _ _ _ _ _ _ _ _ _ _ _ _ _ _ _ _ _ _ _ _ _ _ _ _ _ _ _ _ _ _ _ _ _ _ _ _ _ _ _ _ _ _ (fun _ _ => HK _ _ ?_)
          exact rn_after (1074 * 4503599627370496 + (m2 + 1)) R (x + 1) _ q4 (Lib.hid (by omega)) (Lib.hid (by omega)) _ _ _ _ _ _ _ _ _ _ _ _ _ _ _ _ _ _ _ _ _ _ _ _ _ _ _ _ _ _ _ _ _ _ _ _ _ _ _ _ _ _ _ _ _ _ _ _ _ _ _ _ _ _ _ _ _ _ _ _ _ _ _ _ _ _ _ _ _ _ _ _ _ _ _ _ _ _ _ _ _ _ _ _ _ _ _ _

end Go.Proofs.Ytnccgpdniigekaa
/-
  inclineref02.Near, walked.
-/
namespace Go.Proofs.Ytnccgpdniigekaa
open Go.RowKit
set_option linter.unusedVariables false
set_option linter.unusedSimpArgs false
attribute [local go_sem high] binOp_lss64 binOp_gtr64 binOp_geq64 binOp_leq64 binOp_eql64 binOp_neq64 f64bits frombits

theorem refNear_bad (num : Nat) (w : World) : Calls Try.prog 71 #[.int .u64 (num : Int), .int .u64 0] w fun e w' => e = .returned (.tuple #[.float .f64 0, .int .i64 20]) ∧ w = w' := by
  go_enter Try.func71, Try.ntmps71
  go_wp2
  simp [bodyPost, results, Try.results71, go_sem]
theorem refNear_nought (den : Nat) (hd : 0 < den) (w : World) : Calls Try.prog 71 #[.int .u64 0, .int .u64 (den : Int)] w fun e w' => e = .returned (.tuple #[.float .f64 0, .int .i64 0]) ∧ w = w' := by
  have h : ((den : Int) = 0) = False := by simp; omega
  go_enter Try.func71, Try.ntmps71
  go_wp2
  simp [bodyPost, results, Try.results71, go_sem]

/-- Digits are put on. -/
structure L1 (num den k m r : Nat) : Prop where
  eq : num * 2 ^ k = m * den + r
  hr : r < den
  km : k = 0 ∨ m < 18014398509481984
  m64 : m < 18446744073709551616
  kb : k ≤ 118
theorem L1.next {num den k m r : Nat} (h : L1 num den k m r) (hm : m < 9007199254740992) (hn : 0 < num) (hd : den < 18446744073709551616) : L1 num den (k + 1) (2 * m + (if den ≤ 2 * r then 1 else 0)) (2 * r % den) := by
  have hr := h.hr
  refine ⟨?_, Nat.mod_lt _ (by omega), .inr (by split <;> omega), by split <;> omega, ?_⟩
  · have e : num * 2 ^ (k + 1) = 2 * (num * 2 ^ k) := by rw [Nat.pow_succ]; ac_rfl
    rw [e, h.eq]
    split
    · rename_i c
      have h1 : 2 * r = (2 * r - den) + den := by omega
      have h2 : 2 * r % den = 2 * r - den := by
        have : 2 * r % den = ((2 * r - den) + den) % den := by rw [← h1]
        rw [this, Nat.add_mod_right, Nat.mod_eq_of_lt (by omega)]
      rw [h2, Nat.add_mul, Nat.mul_add, Nat.mul_assoc]; omega
    · rename_i c
      rw [Nat.mod_eq_of_lt (show 2 * r < den by omega), Nat.add_zero, Nat.mul_add, Nat.mul_assoc]
  · apply Classical.byContradiction; intro hk
    have hk' : k = 118 := by have := h.kb; omega
    have h3 := h.eq
    rw [hk'] at h3
    have a1 : m * den ≤ 9007199254740991 * den := Nat.mul_le_mul_right _ (by omega)
    have a2 : 1 * 2 ^ 118 ≤ num * 2 ^ 118 := Nat.mul_le_mul_right _ hn
    have a3 : (2 : Nat) ^ 118 = 332306998946228968225951765070086144 := by decide
    omega

/-- Digits are taken off. -/
structure L2 (num den k j m s r : Nat) : Prop where
  eq : num * 2 ^ k = (m * 2 ^ j + s) * den + r
  hr : r < den
  hs : s < 2 ^ j
  lo : 9007199254740992 ≤ m
  kj : k = 0 ∨ j = 0 ∧ m < 18014398509481984
  top : m * 2 ^ j < 18446744073709551616
  m64 : m < 18446744073709551616
  jb : j ≤ 11
  kb : k ≤ 118
theorem L2.next {num den k j m s r : Nat} (h : L2 num den k j m s r) (hm : 18014398509481984 ≤ m) : L2 num den k (j + 1) (m / 2) (m % 2 * 2 ^ j + s) r := by
  have hp := p2pos j
  have h2 : (2 : Nat) ^ (j + 1) = 2 ^ j * 2 := Nat.pow_succ ..
  have hs := h.hs
  have hmm : m = 2 * (m / 2) + m % 2 := by omega
  have hsum : m / 2 * 2 ^ (j + 1) + (m % 2 * 2 ^ j + s) = m * 2 ^ j + s := by
    have : m * 2 ^ j = 2 * (m / 2) * 2 ^ j + m % 2 * 2 ^ j := by rw [← Nat.add_mul, ← hmm]
    rw [this, h2]
    have : m / 2 * (2 ^ j * 2) = 2 * (m / 2) * 2 ^ j := by ac_rfl
    omega
  have hlow : m % 2 * 2 ^ j ≤ 1 * 2 ^ j := Nat.mul_le_mul_right _ (by omega)
  have ht : m / 2 * 2 ^ (j + 1) ≤ m * 2 ^ j := by omega
  refine ⟨by rw [hsum]; exact h.eq, h.hr, by omega, by omega, ?_, by have := h.top; omega, by have := h.m64; omega, ?_, h.kb⟩
  · rcases h.kj with h' | h'
    · exact .inl h'
    · omega
  · apply Classical.byContradiction; intro hj
    have hj' : j = 11 := by have := h.jb; omega
    have := h.top
    rw [hj'] at this
    have a3 : (2 : Nat) ^ 11 = 2048 := by decide
    omega
theorem L1.to {num den k m r : Nat} (h : L1 num den k m r) (hm : 9007199254740992 ≤ m) : L2 num den k 0 m 0 r :=
  ⟨by rw [h.eq]; simp, h.hr, by decide, hm, by rcases h.km with h' | h'; exact .inl h'; exact .inr ⟨rfl, h'⟩, by have := h.m64; simpa using this, h.m64, by decide, h.kb⟩
theorem L2.left {num den k j m s r : Nat} (h : L2 num den k j m s r) : (decide (0 < m % 2 * 2 ^ j + s)) = (decide (0 < s) || decide (m % 2 = 1)) := by
  have hp := p2pos j
  have hh : m % 2 = 0 ∨ m % 2 = 1 := by omega
  rcases hh with e | e
  · rw [e]; simp
  · rw [e]; simp; omega
theorem L2.fin {num den k j m s r : Nat} (h : L2 num den k j m s r) (hm : m < 18014398509481984) (hd : 0 < den) : nr num den = (1075 - k + j) * 4503599627370496 + (m / 2 + (if m % 2 = 1 ∧ (0 < s ∨ 0 < r ∨ m / 2 % 2 = 1) then 1 else 0)) :=
  nr_eq hd (near_ref num den k j m s r hd (by have := h.kb; omega) h.eq h.hr h.hs h.lo hm)

set_option maxRecDepth 100000 in
set_option maxHeartbeats 2000000 in
theorem refNear_good (num den : Nat) (hn0 : 0 < num) (hn1 : num < 18446744073709551616) (hd0 : 0 < den) (hd1 : den < 18446744073709551616) (w : World) :
    Calls Try.prog 71 #[.int .u64 (num : Int), .int .u64 (den : Int)] w fun e w' => e = .returned (.tuple #[.float .f64 (nr num den), .int .i64 0]) ∧ w = w' := by
  have z1 : ((den : Int) == 0) = false := by simp; omega
  have z2 : ((num : Int) == 0) = false := by simp; omega
  have z3 : (0 : Int) < (den : Int) := by omega
  have q1 : (num : Int) / (den : Int) = ((num / den : Nat) : Int) := (Int.natCast_ediv ..).symm
  have q2 : (num : Int) % (den : Int) = ((num % den : Nat) : Int) := (Int.natCast_emod ..).symm
  have I1 := Lib.hid (show L1 num den 0 (num / den) (num % den) from ⟨by have := Nat.div_add_mod num den; rw [Nat.mul_comm] at this; omega, Nat.mod_lt _ hd0, .inl rfl, by have := Nat.div_le_self num den; omega, by decide⟩)
  generalize num / den = m0 at q1 I1
  generalize num % den = r0 at q2 I1
  obtain ⟨R, hRR⟩ : ∃ R, R = nr num den := ⟨_, rfl⟩
  rw [← hRR]
  have HRR := Lib.hid hRR
  clear hRR
  have w0 : IntKind.u64.wrap (m0 : Int) = (m0 : Int) := by have := I1.out.m64; rw [IntKind.wrap_u64]; omega
  have Q2 := Lib.hid q2
  clear q2
  go_enter Try.func71, Try.ntmps71
  go_wp2
  go_loopw [6, 7, 8] (fun s6 s7 s8 wr => ∃ k m r : Nat, w = wr ∧ s6 = .int .u64 (m : Int) ∧ s7 = .int .u64 (r : Int) ∧ s8 = .int .i64 (-(k : Int)) ∧ Hid (L1 num den k m r)) (fun _ _ s8 _ => (118 + intOf s8).toNat)
  case atStart => exact ⟨0, m0, r0, rfl, rfl, by rw [Q2.out], rfl, I1⟩
  case round =>
    obtain ⟨k, m, r, rfl, rfl, rfl, rfl, H⟩ := hrel
    clear I1 Q2 q1 w0
    by_cases hm : m < 9007199254740992
    · have hm' : (m : Int) < 9007199254740992 := by omega
      have N := Lib.hid (H.out.next hm hn0 hd1)
      have D := double_any r den H.out.hr hd1
      have kb := N.out.kb
      have w1 : wrap64 (-(k : Int) - 1) = -((k + 1 : Nat) : Int) := by unfold wrap64; omega
      by_cases hb : den ≤ 2 * r
      · rw [if_pos hb] at N
        rw [decide_eq_true hb] at D
        have w2 : IntKind.u64.wrap (2 * (m : Int)) = 2 * (m : Int) := by rw [IntKind.wrap_u64]; omega
        have w3 : IntKind.u64.wrap (2 * (m : Int) + 1) = ((2 * m + 1 : Nat) : Int) := by rw [IntKind.wrap_u64]; omega
        generalize 2 * r % den = r' at N D
        go_wp2_with (go_at_call 88; refine (D _).mono ?_; rintro e w' ⟨rfl, rfl⟩)
        go_roundw
        case rel => exact ⟨k + 1, 2 * m + 1, r', trivial, by simp, rfl, by simp; omega, N⟩
        case measure => simp only [intOf]; omega
      · rw [if_neg hb] at N
        rw [decide_eq_false hb] at D
        have w2 : IntKind.u64.wrap (2 * (m : Int)) = ((2 * m : Nat) : Int) := by rw [IntKind.wrap_u64]; omega
        generalize 2 * r % den = r' at N D
        go_wp2_with (go_at_call 88; refine (D _).mono ?_; rintro e w' ⟨rfl, rfl⟩)
        go_roundw
        case rel => exact ⟨k + 1, 2 * m, r', trivial, by simp, rfl, by simp; omega, N⟩
        case measure => simp only [intOf]; omega
    · have hm' : ¬ ((m : Int) < 9007199254740992) := by omega
      have J := Lib.hid (H.out.to (by omega))
      clear H
      go_wp2
      go_loopw [6, 8, 9] (fun s6 s8 s9 wr => ∃ j m s : Nat, w = wr ∧ s6 = .int .u64 (m : Int) ∧ s8 = .int .i64 ((j : Int) - (k : Int)) ∧ s9 = .bool (decide (0 < s)) ∧ Hid (L2 num den k j m s r)) (fun _ s8 _ _ => (11 - (intOf s8 + (k : Int))).toNat)
      case atStart => exact ⟨0, m, 0, rfl, rfl, by simp, rfl, J⟩
      case round =>
        obtain ⟨j, m, s, rfl, rfl, rfl, rfl, H⟩ := hrel
        clear J hm hm'
        obtain ⟨m2, hm2⟩ : ∃ m2, m2 = m / 2 := ⟨_, rfl⟩
        obtain ⟨p, hp⟩ : ∃ p, p = m % 2 := ⟨_, rfl⟩
        have d1 : (m : Int) / 2 = (m2 : Int) := by omega
        have d2 : (m : Int) % 2 = (p : Int) := by omega
        have kb := H.out.kb
        have jb := H.out.jb
        have m64 := H.out.m64
        have hp01 : p = 0 ∨ p = 1 := by omega
        by_cases hm : 18014398509481984 ≤ m
        · have hm' : (18014398509481984 : Int) ≤ (m : Int) := by omega
          have N := H.out.next hm
          have L := H.out.left
          have jb' := N.jb
          rw [← hm2, ← hp] at N
          rw [← hp] at L
          obtain ⟨s', hs'⟩ : ∃ s', s' = p * 2 ^ j + s := ⟨_, rfl⟩
          rw [← hs'] at N L
          have N' := Lib.hid N
          have w1 : wrap64 ((j : Int) - (k : Int) + 1) = ((j + 1 : Nat) : Int) - (k : Int) := by unfold wrap64; omega
          clear N hs'
          have K1 := Lib.hid hm2; have K2 := Lib.hid hp
          clear hm2 hp
          by_cases hs : 0 < s
          · rw [decide_eq_true hs] at L ⊢
            have L' := Lib.hid L; clear L
            go_wp2
            go_roundw
            case rel => exact ⟨j + 1, m2, s', trivial, rfl, by simp; omega, by rw [L'.out]; rfl, N'⟩
            case measure => simp only [intOf]; omega
          · rw [decide_eq_false hs] at L ⊢
            have L' := Lib.hid L; clear L
            rcases hp01 with rfl | rfl
            · go_wp2
              go_roundw
              case rel => exact ⟨j + 1, m2, s', trivial, rfl, by simp; omega, by rw [L'.out]; rfl, N'⟩
              case measure => simp only [intOf]; omega
            · go_wp2
              go_roundw
              case rel => exact ⟨j + 1, m2, s', trivial, rfl, by simp; omega, by rw [L'.out]; rfl, N'⟩
              case measure => simp only [intOf]; omega
        · have hm' : ¬ ((18014398509481984 : Int) ≤ (m : Int)) := by omega
          have hR := H.out.fin (by omega) hd0
          rw [← HRR.out] at hR
          rename_i K2 HK2
          have HK := Lib.hid HK2
          clear HK2
          go_wp2_with fail
          exact HK.out _ _ (rn_tail m s r R ((j : Int) - (k : Int)) _ H.out.lo (by omega) (by have := H.out.hr; omega) (by omega) (by rw [hR]; omega) _ _ _ _ _ _ _ _ _ _ _ _ _ _ _ _ _ _ _ _ _ _ _ _ _ _ _ _ _ _ _ _ _ _ _ _ _ _ _ _ _ _ _ _ _ _ _ _ _ _ _ _ _ _ _ _ _ _ _ _ _ _ _ _ _ _ _ _ _ _ _ _ _ _ _ _ _ _ _ _ _ _ _ _ _ _)

/-- What Near comes to, for any two numbers. -/
noncomputable def nearF (num den : Nat) : Nat := if den = 0 then 0 else nr num den
def nearE (den : Nat) : Int := if den = 0 then 20 else 0

theorem refNear_any (num den : Nat) (hn : num < 18446744073709551616) (hd : den < 18446744073709551616) (w : World) :
    Calls Try.prog 71 #[.int .u64 (num : Int), .int .u64 (den : Int)] w fun e w' => e = .returned (.tuple #[.float .f64 (nearF num den), .int .i64 (nearE den)]) ∧ w = w' := by
  unfold nearF nearE
  by_cases h : den = 0
  · subst h
    rw [if_pos rfl, if_pos rfl]
    exact refNear_bad num w
  · rw [if_neg h, if_neg h]
    by_cases h0 : num = 0
    · subst h0
      rw [nr_zero (by omega)]
      exact refNear_nought den (by omega) w
    · exact refNear_good num den (by omega) hn (by omega) hd w
end Go.Proofs.Ytnccgpdniigekaa
