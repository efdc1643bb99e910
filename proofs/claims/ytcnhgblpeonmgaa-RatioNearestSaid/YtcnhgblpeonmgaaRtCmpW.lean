/-
  ratio.Cmp walked.
-/
import Derived.Test.YtcnhgblpeonmgaaRtCmp
import Derived.Deep.CutBlock
namespace Go.Proofs.Ytcnhgblpeonmgaa
open Go.RowKit
set_option linter.unusedVariables false
set_option linter.unusedSimpArgs false
attribute [local go_sem high] binOp_lss64 binOp_gtr64 binOp_geq64 binOp_leq64 binOp_eql64 binOp_neq64 f64bits frombits

theorem floatToInt_u64 {b n : Nat} (hf : Fin64 b) (hp : ng b = false) (hn : val (rg b) / S = n) (h2 : n ≤ 18446744073709551615) : floatToIntVal .f64 b .u64 = some (n : Int) := by
  unfold floatToIntVal
  have e : (FloatKind.f64.decode b).toInt .zero = some (n : Int) := by
    have := toInt_zero hf
    rw [hp, hn] at this; exact this
  rw [e]
  have m1 : IntKind.u64.min = 0 := by decide
  have m2 : IntKind.u64.max = 18446744073709551615 := by decide
  show (if IntKind.u64.min ≤ (n : Int) ∧ (n : Int) ≤ IntKind.u64.max then some (n : Int) else none) = some (n : Int)
  rw [m1, m2, if_pos ⟨by omega, by omega⟩]

theorem val_whole {m : Nat} (h1 : 4503599627370496 ≤ m) (h2 : m ≤ 9007199254740992) : val (1074 * 4503599627370496 + m) = m * S := by
  rw [val_em 1074 m (.inl h1) h2, S_eq, Q_eq]

/-- The parts of a normal float. -/
structure Parts (b e m : Nat) : Prop where
  he : e = b / 4503599627370496
  hm : m = b % 4503599627370496 + 4503599627370496
theorem Parts.val {b e m : Nat} (h : Parts b e m) (hn : Norm64 b) : val b = m * 2 ^ (e - 1) := by
  have h1 := hn.lo
  have hb : b = (e - 1) * 4503599627370496 + m := by have := h.he; have := h.hm; omega
  have := val_em (e - 1) m (.inl (by have := h.hm; omega)) (by have := h.hm; omega)
  rw [← hb] at this; exact this
theorem cmp_hi {b e m : Nat} (h : Parts b e m) (hn : Norm64 b) (num den : Nat) (he : 1075 ≤ e) : cmpF b num den = cmpZ ((m * den * 2 ^ (e - 1075) : Nat) : Int) (num : Int) := by
  unfold cmpF
  rw [sv_small (Nat.le_of_lt hn.hi), h.val hn]
  have hS : m * 2 ^ (e - 1) * den = m * den * 2 ^ (e - 1075) * S := by
    have : e - 1 = e - 1075 + Q := by have := Q_eq; omega
    rw [this, Nat.pow_add, ← S_eq, ← Nat.mul_assoc, Nat.mul_right_comm, Nat.mul_right_comm m]
  rw [← Int.natCast_mul, hS, Int.natCast_mul _ S]
  exact cmpZ_mul _ _ _ (by have := S_pos; omega)
theorem cmp_lo {b e m : Nat} (h : Parts b e m) (hn : Norm64 b) (num den : Nat) (he : e ≤ 1075) (he1 : 1 ≤ e) : cmpF b num den = cmpZ ((m * den : Nat) : Int) ((num * 2 ^ (1075 - e) : Nat) : Int) := by
  unfold cmpF
  rw [sv_small (Nat.le_of_lt hn.hi), h.val hn]
  have hS : (num : Int) * (S : Int) = ((num * 2 ^ (1075 - e) : Nat) : Int) * ((2 ^ (e - 1) : Nat) : Int) := by
    rw [← Int.natCast_mul, ← Int.natCast_mul, S_eq, Nat.mul_assoc, ← Nat.pow_add]
    have : Q = 1075 - e + (e - 1) := by have := Q_eq; omega
    rw [this]
  have e1 : ((m * 2 ^ (e - 1) : Nat) : Int) * (den : Int) = ((m * den : Nat) : Int) * ((2 ^ (e - 1) : Nat) : Int) := by
    rw [← Int.natCast_mul, ← Int.natCast_mul]; congr 1; ac_rfl
  rw [hS, e1]
  exact cmpZ_mul _ _ _ (by have := p2pos (e - 1); omega)

/-- What is laid ahead of the walk. -/
structure CmpPre (b num den : Nat) : Prop where
  n : Norm64 b
  lo : 958 * 4503599627370496 ≤ b
  hi : b < 1087 * 4503599627370496
  num0 : 0 < num
  num1 : num < 18446744073709551616
  den0 : 0 < den
  den1 : den < 18446744073709551616

theorem len_nat (n : Nat) (h1 : n < 18446744073709551616) : ∃ a : Nat, (Lib.bitLen n : Int) = (a : Int) ∧ a ≤ 64 ∧ n < 2 ^ a ∧ (0 < n → 2 ^ (a - 1) ≤ n) ∧ (n = 0 → a = 0) := by
  rcases Nat.eq_zero_or_pos n with h | h
  · subst h; exact ⟨0, by decide, by decide, by decide, fun h => absurd h (by decide), fun _ => rfl⟩
  · have h' := bitLenAux_bounds 64 n h (by omega)
    exact ⟨Lib.bitLenAux 64 n, rfl, h'.2.1, h'.2.2.2, fun _ => h'.2.2.1, fun h0 => by omega⟩
theorem nat_big {a k : Nat} (h : 64 < a + k) : (64 : Int) < (a : Int) + (k : Int) := by omega
theorem nat_small {a k : Nat} (h : ¬ 64 < a + k) : ¬ (64 : Int) < (a : Int) + (k : Int) := by omega
theorem wrap_64k {k : Nat} (h : k ≤ 11) : wrap64 (64 - (k : Int)) = 64 - (k : Int) := by unfold wrap64; omega
theorem u64_nat {n : Nat} (h : n < 18446744073709551616) : u64ok (n : Int) := ⟨by omega, by omega⟩
theorem le_63 {k : Nat} (h : k ≤ 11) : k ≤ 63 := by omega
theorem cmp_up {H L B P2 : Nat} {num : Int} (h : (H + L) * 18446744073709551616 + B = P2) : cmpZ (((H + L : Nat) : Int) * 18446744073709551616 + (B : Int)) (0 * 18446744073709551616 + num) = cmpZ (P2 : Int) num := by
  have e1 : ((H + L : Nat) : Int) * 18446744073709551616 + (B : Int) = (P2 : Int) := by omega
  have e2 : (0 : Int) * 18446744073709551616 + num = num := by omega
  rw [e1, e2]
theorem le_11 {k : Nat} (h : k ≤ 11) : k ≤ 64 := by omega
theorem big_gt {P hi lo num a k : Nat} (PHL : P = hi * 18446744073709551616 + lo) (hn1 : num < 18446744073709551616) (ha3 : 0 < hi → 2 ^ (a - 1) ≤ hi) (ha4 : hi = 0 → a = 0) (hbig : 64 < a + k) (hk : k ≤ 64) : (num : Int) < ((P * 2 ^ k : Nat) : Int) := by
  have h0 : 0 < hi := by
    rcases Nat.eq_zero_or_pos hi with h | h
    · have := ha4 h; omega
    · exact h
  have h1 := ha3 h0
  have h2 : 2 ^ (a - 1) * 2 ^ k ≤ hi * 2 ^ k := Nat.mul_le_mul_right _ h1
  rw [← Nat.pow_add] at h2
  have h3 : (2 : Nat) ^ 64 ≤ 2 ^ (a - 1 + k) := Nat.pow_le_pow_right (by omega) (by omega)
  have h4 : (2 : Nat) ^ 64 = 18446744073709551616 := by decide
  have h5 : hi * 2 ^ k * 18446744073709551616 ≤ P * 2 ^ k := by
    have : hi * 18446744073709551616 * 2 ^ k ≤ P * 2 ^ k := Nat.mul_le_mul_right _ (by omega)
    have e5 : hi * 2 ^ k * 18446744073709551616 = hi * 18446744073709551616 * 2 ^ k := Nat.mul_right_comm ..
    rw [e5]; exact this
  generalize P * 2 ^ k = X at *
  generalize hi * 2 ^ k = Y at *
  generalize 2 ^ (a - 1 + k) = Z at *
  clear h1 ha3 ha4
  omega
theorem small_lt {hi a k : Nat} (ha2 : hi < 2 ^ a) (h : a + k ≤ 64) : hi * 2 ^ k < 18446744073709551616 := by
  have h1 : hi * 2 ^ k < 2 ^ a * 2 ^ k := Nat.mul_lt_mul_of_pos_right ha2 (p2pos k)
  rw [← Nat.pow_add] at h1
  have h3 : (2 : Nat) ^ (a + k) ≤ 2 ^ 64 := Nat.pow_le_pow_right (by omega) h
  have h4 : (2 : Nat) ^ 64 = 18446744073709551616 := by decide
  generalize 2 ^ (a + k) = Z at *
  generalize hi * 2 ^ k = Y at *
  omega
theorem shift_up {P hi lo k H L B : Nat} (PHL : P = hi * 18446744073709551616 + lo) (hk : k ≤ 63) (h2k : hi * 2 ^ k < 18446744073709551616) (hlo : lo < 18446744073709551616) (hH : H = hi * 2 ^ k) (hL : L = lo / 2 ^ (64 - k)) (hB : B = lo * 2 ^ k % 18446744073709551616) :
    IntKind.u64.wrap ((hi : Int) * 2 ^ k) = (H : Int) ∧ (lo : Int) / 2 ^ (64 - k) = (L : Int) ∧ bits .or .u64 (H : Int) (L : Int) = ((H + L : Nat) : Int) ∧ IntKind.u64.wrap ((lo : Int) * 2 ^ k) = (B : Int) ∧ (H + L < 18446744073709551616 ∧ B < 18446744073709551616) ∧ (H + L) * 18446744073709551616 + B = P * 2 ^ k := by
  have hp := p2pos k
  have h64 : (18446744073709551616 : Nat) = 2 ^ (64 - k) * 2 ^ k := by
    rw [← Nat.pow_add, show 64 - k + k = 64 by omega]
  have hdiv : lo * 2 ^ k / 18446744073709551616 = L := by rw [h64, Nat.mul_div_mul_right _ _ hp, hL]
  have hdm := Nat.div_add_mod (lo * 2 ^ k) 18446744073709551616
  rw [hdiv, ← hB] at hdm
  have hBl : B < 18446744073709551616 := by rw [hB]; exact Nat.mod_lt _ (by decide)
  have hLl : L < 2 ^ k := by
    rw [← hdiv, Nat.div_lt_iff_lt_mul (by decide), Nat.mul_comm]
    exact Nat.mul_lt_mul_of_pos_left hlo hp
  have hHL : H + L < 18446744073709551616 := by
    have h1 : hi + 1 ≤ 2 ^ (64 - k) := by
      rw [h64] at h2k
      exact Nat.lt_of_mul_lt_mul_right h2k
    have h2 : (hi + 1) * 2 ^ k ≤ 2 ^ (64 - k) * 2 ^ k := Nat.mul_le_mul_right _ h1
    rw [← h64, Nat.add_mul, Nat.one_mul, ← hH] at h2
    omega
  have c1 : (hi : Int) * 2 ^ k = (H : Int) := by rw [hH, Int.natCast_mul, Int.natCast_pow]; rfl
  have c2 : (lo : Int) * 2 ^ k = ((lo * 2 ^ k : Nat) : Int) := by rw [Int.natCast_mul, Int.natCast_pow]; rfl
  refine ⟨?_, ?_, ?_, ?_, ⟨hHL, hBl⟩, ?_⟩
  · rw [c1, IntKind.wrap_u64]; rw [← hH] at h2k; omega
  · have e2 : ((2 : Int) ^ (64 - k)) = ((2 ^ (64 - k) : Nat) : Int) := by rw [Int.natCast_pow]; rfl
    rw [e2, hL, Int.natCast_ediv]
  · rw [hH]
    exact or_apart hi L k hk hLl h2k
  · rw [c2, IntKind.wrap_u64, hB]; omega
  · rw [PHL, Nat.add_mul, Nat.add_mul, ← hdm, hH]
    have : hi * 18446744073709551616 * 2 ^ k = hi * 2 ^ k * 18446744073709551616 := Nat.mul_right_comm ..
    rw [this]
    generalize hi * 2 ^ k = Y
    omega
theorem len_any (n : Nat) (h : n < 18446744073709551616) (w : World) : Calls Try.prog 36 #[.int .u64 (n : Int)] w fun e w' => e = .returned (.int .i64 (Lib.bitLen n : Int)) ∧ w = w' := by
  have := Try.bits_Len64 (n : Int) w (by omega) (by omega)
  rw [Int.toNat_natCast] at this; exact this.mono (by rintro e w' ⟨rfl, rfl⟩; exact ⟨rfl, rfl⟩)
theorem mul_any (x y : Nat) (hx : x < 18446744073709551616) (hy : y < 18446744073709551616) (w : World) : Calls Try.prog 35 #[.int .u64 x, .int .u64 y] w fun e w' => e = .returned (.tuple #[.int .u64 ((x * y / 18446744073709551616 : Nat) : Int), .int .u64 ((x * y % 18446744073709551616 : Nat) : Int)]) ∧ w = w' :=
  (Try.bits_Mul64 x y hx hy w).mono (by rintro e w' ⟨rfl, rfl⟩; exact ⟨rfl, rfl⟩)

set_option maxHeartbeats 2000000 in
set_option maxRecDepth 100000 in
theorem cmp_high (b num den : Nat) (h : CmpPre b num den) (hx : 1075 * 4503599627370496 ≤ b) (w : World) :
    Calls Try.prog 19 #[.float .f64 b, .int .u64 (num : Int), .int .u64 (den : Int)] w fun e w' => e = .returned (.tuple #[.int .i64 (cmpF b num den), .int .i64 0]) ∧ Below w.heap.size w w' := by
  obtain ⟨hn, hlo, hhi, hn0, hn1, hd0, hd1⟩ := h
  have hl := INF_lit
  have hlt := hn.lt
  have FI := isInf_any b (by omega)
  have FN := isNaN_any b
  rw [hn.rg] at FI FN
  have d1 : decide (b = INF) = false := decide_eq_false (by omega)
  have d2 : decide (INF < b) = false := decide_eq_false (by omega)
  rw [d1] at FI; rw [d2] at FN
  clear d1 d2
  have vz : val 0 = 0 := val_zero
  have z1 : ((den : Int) == 0) = false := by simp; omega
  have z2 : ((num : Int) == 0) = false := by simp; omega
  have g1 : ¬ fLt b 0 := by
    rw [fLt_iff hn.num (num_small (by decide)), sv_small (Nat.le_of_lt hn.hi), sv_small (by decide)]
    intro h; have := val_lt_iff.1 (Int.ofNat_lt.1 h); omega
  have g2 : ¬ fLe 4895412794951729152 b := by
    rw [fLe_iff (num_small (by decide)) hn.num, sv_small (Nat.le_of_lt hn.hi), sv_small (by decide)]
    intro h
    have h1 : val b < val 4895412794951729152 := val_lt (by omega)
    omega
  have g3 : ¬ fLt b 4314448443020935168 := by
    rw [fLt_iff hn.num (num_small (by decide)), sv_small (Nat.le_of_lt hn.hi), sv_small (by decide)]
    intro h; have := val_lt_iff.1 (Int.ofNat_lt.1 h); omega
  obtain ⟨e, he⟩ : ∃ e, e = b / 4503599627370496 := ⟨_, rfl⟩
  obtain ⟨m, hm⟩ : ∃ m, m = b % 4503599627370496 + 4503599627370496 := ⟨_, rfl⟩
  have PP : Parts b e m := ⟨he, hm⟩
  have FR := frexp_any b hn
  rw [← he] at FR
  obtain ⟨fr, hfr⟩ : ∃ fr, fr = b % 4503599627370496 + 4602678819172646912 := ⟨_, rfl⟩
  rw [← hfr] at FR
  have LD := ldexp_any fr 53 ⟨by omega, by omega⟩ (by omega) (by omega) (by omega)
  obtain ⟨g, hg⟩ : ∃ g : Nat, ((fr : Int) + 53 * 4503599627370496).toNat = g := ⟨_, rfl⟩
  rw [hg] at LD
  have hgv : g = 1074 * 4503599627370496 + m := by omega
  have gval : val (rg g) / S = m := by rw [rg_small (by omega), hgv, val_whole (by omega) (by omega), Nat.mul_div_cancel _ S_pos]
  have CV := fun W => run_convert_float_int W 24 22 .f64 .u64 g (m : Int) (by kernel_rfl) (by kernel_rfl) (floatToInt_u64 (fin_small (by omega)) (ng_small (by omega)) gval (by omega)) (P := Try.prog)
  have MM := mul_any m den (by omega) hd1
  obtain ⟨P, hP⟩ : ∃ P, P = m * den := ⟨_, rfl⟩
  rw [← hP] at MM
  obtain ⟨hi, hhiP⟩ : ∃ hi, hi = P / 18446744073709551616 := ⟨_, rfl⟩
  obtain ⟨lo, hloP⟩ : ∃ lo, lo = P % 18446744073709551616 := ⟨_, rfl⟩
  rw [← hhiP, ← hloP] at MM
  have hPb : P < 9007199254740992 * 18446744073709551616 := by
    rw [hP]; exact Nat.mul_lt_mul_of_lt_of_le (by omega) (Nat.le_of_lt hd1) (by omega)
  have hib : hi < 9007199254740992 := by omega
  have lob : lo < 18446744073709551616 := by omega
  obtain ⟨k, hk⟩ : ∃ k, k = e - 1075 := ⟨_, rfl⟩
  have hkb : k ≤ 11 := by omega
  rw [cmp_hi PP hn num den (by omega), ← hP, ← hk]
  obtain ⟨x1, ek⟩ : ∃ x1 : Int, x1 = (e : Int) - 1022 := ⟨_, rfl⟩
  rw [← ek] at FR
  have w1 : wrap64 (x1 - 53) = (k : Int) := by unfold wrap64; omega
  have LN := len_any hi (by omega)
  obtain ⟨a, ha, ha1, ha2, ha3, ha4⟩ := len_nat hi (by omega)
  rw [ha] at LN
  have w2 : wrap64 ((a : Int) + (k : Int)) = (a : Int) + (k : Int) := by unfold wrap64; omega
  have PHL : P = hi * 18446744073709551616 + lo := by omega
  by_cases hbig : 64 < a + k
  · have hbig' : (64 : Int) < (a : Int) + (k : Int) := nat_big hbig
    have hgt : (num : Int) < ((P * 2 ^ k : Nat) : Int) := big_gt PHL hn1 ha3 ha4 hbig (le_11 hkb)
    rw [cmpZ_gt hgt]
    clear hgt hk PHL ha2 ha3 ha4 ha ek hbig
    clear hP hhiP hloP hPb hg hgv hfr he hm PP hlo hhi hlt hl vz gval hx
    go_enter Try.func19, Try.ntmps19
    go_wp2_with (first | (go_at_call 31; refine (FI _).mono ?_; rintro e w' ⟨rfl, rfl⟩) | (go_at_call 30; refine (FN _).mono ?_; rintro e w' ⟨rfl, rfl⟩) | (go_at_call 33; refine (FR _).mono ?_; rintro e w' ⟨rfl, rfl⟩) | (go_at_call 34; refine (LD _).mono ?_; rintro e w' ⟨rfl, rfl⟩) | (go_at_call 35; refine (MM _).mono ?_; rintro e w' ⟨rfl, rfl⟩) | (go_at_call 36; refine (LN _).mono ?_; rintro e w' ⟨rfl, rfl⟩) | (go_at_call 37; refine (CP _).mono ?_; rintro e w' ⟨rfl, rfl⟩))
    simp [bodyPost, results, Try.results19, go_sem]
    exact Below.refl _ _
  · have hbig' : ¬ (64 : Int) < (a : Int) + (k : Int) := nat_small hbig
    have h2k := small_lt ha2 (Nat.le_of_not_lt hbig)
    obtain ⟨H, hH⟩ : ∃ H, H = hi * 2 ^ k := ⟨_, rfl⟩
    obtain ⟨L, hL⟩ : ∃ L, L = lo / 2 ^ (64 - k) := ⟨_, rfl⟩
    obtain ⟨B, hB⟩ : ∃ B, B = lo * 2 ^ k % 18446744073709551616 := ⟨_, rfl⟩
    obtain ⟨s1, s2, s3, s4, s5, s6⟩ := shift_up PHL (le_63 hkb) h2k lob hH hL hB
    have w3 := wrap_64k hkb
    have CP := compare_any ((H + L : Nat) : Int) (B : Int) 0 (num : Int) (u64_nat s5.1) (u64_nat s5.2) ⟨by decide, by decide⟩ (u64_nat hn1)
    have hcv := cmp_up (num := (num : Int)) s6
    rw [hcv] at CP
    generalize cmpZ ((P * 2 ^ k : Nat) : Int) (num : Int) = res at CP ⊢
    obtain ⟨A, hA⟩ : ∃ A, A = H + L := ⟨_, rfl⟩
    rw [← hA] at CP s3 s5
    obtain ⟨s5, s7⟩ := s5
    clear hA hcv s6 h2k hk PHL ha2 ha3 ha4 ha ek hbig hH hL hB
    clear hP hhiP hloP hPb hg hgv hfr he hm PP hlo hhi hlt hl vz gval hx
    go_enter Try.func19, Try.ntmps19
    go_wp2_with (first | (go_at_call 31; refine (FI _).mono ?_; rintro e w' ⟨rfl, rfl⟩) | (go_at_call 30; refine (FN _).mono ?_; rintro e w' ⟨rfl, rfl⟩) | (go_at_call 33; refine (FR _).mono ?_; rintro e w' ⟨rfl, rfl⟩) | (go_at_call 34; refine (LD _).mono ?_; rintro e w' ⟨rfl, rfl⟩) | (go_at_call 35; refine (MM _).mono ?_; rintro e w' ⟨rfl, rfl⟩) | (go_at_call 36; refine (LN _).mono ?_; rintro e w' ⟨rfl, rfl⟩) | (go_at_call 37; refine (CP _).mono ?_; rintro e w' ⟨rfl, rfl⟩))
    go_quiet (fail)
    go_wp2_with (first | (go_at_call 31; refine (FI _).mono ?_; rintro e w' ⟨rfl, rfl⟩) | (go_at_call 30; refine (FN _).mono ?_; rintro e w' ⟨rfl, rfl⟩) | (go_at_call 33; refine (FR _).mono ?_; rintro e w' ⟨rfl, rfl⟩) | (go_at_call 34; refine (LD _).mono ?_; rintro e w' ⟨rfl, rfl⟩) | (go_at_call 35; refine (MM _).mono ?_; rintro e w' ⟨rfl, rfl⟩) | (go_at_call 36; refine (LN _).mono ?_; rintro e w' ⟨rfl, rfl⟩) | (go_at_call 37; refine (CP _).mono ?_; rintro e w' ⟨rfl, rfl⟩))
    simp [bodyPost, results, Try.results19, go_sem]
    exact drewN_below (Below.refl _ _) _


theorem w_neg {e y : Nat} {x1 : Int} (h1 : x1 = (e : Int) - 1022) (hy : y = 1075 - e) (he : e ≤ 1075) : wrap64 (x1 - 53) = -(y : Int) ∧ wrap64 (-(-(y : Int))) = (y : Int) := by unfold wrap64; omega
theorem c_shift {num y C D : Nat} (hy : y ≤ 63) (hn : num < 18446744073709551616) (hC : C = num / 2 ^ (64 - y)) (hD : D = num * 2 ^ y % 18446744073709551616) :
    (num : Int) / 2 ^ (64 - y) = (C : Int) ∧ IntKind.u64.wrap ((num : Int) * 2 ^ y) = (D : Int) ∧ C < 18446744073709551616 ∧ D < 18446744073709551616 ∧ C * 18446744073709551616 + D = num * 2 ^ y := by
  obtain ⟨_, s2, _, s4, s5, s6⟩ := shift_up (P := num) (hi := 0) (lo := num) (k := y) (H := 0) (L := C) (B := D) (by omega) hy (by rw [Nat.zero_mul]; decide) hn (by rw [Nat.zero_mul]) hC hD
  rw [Nat.zero_add] at s5 s6
  exact ⟨s2, s4, s5.1, s5.2, s6⟩
theorem cmp_down {hi lo P C D N : Nat} (h1 : P = hi * 18446744073709551616 + lo) (h2 : C * 18446744073709551616 + D = N) : cmpZ ((hi : Int) * 18446744073709551616 + (lo : Int)) ((C : Int) * 18446744073709551616 + (D : Int)) = cmpZ (P : Int) (N : Int) := by
  have e1 : (hi : Int) * 18446744073709551616 + (lo : Int) = (P : Int) := by omega
  have e2 : (C : Int) * 18446744073709551616 + (D : Int) = (N : Int) := by omega
  rw [e1, e2]
theorem cmp_down0 {hi lo P C N : Nat} (h1 : P = hi * 18446744073709551616 + lo) (h2 : C * 18446744073709551616 = N) : cmpZ ((hi : Int) * 18446744073709551616 + (lo : Int)) ((C : Int) * 18446744073709551616 + 0) = cmpZ (P : Int) (N : Int) := by
  have e1 : (hi : Int) * 18446744073709551616 + (lo : Int) = (P : Int) := by omega
  have e2 : (C : Int) * 18446744073709551616 + 0 = (N : Int) := by omega
  rw [e1, e2]
theorem y_facts {y : Nat} (h1 : 1 ≤ y) (h2 : y ≤ 117) : ¬ (0 : Int) ≤ -(y : Int) ∧ ¬ (128 : Int) ≤ (y : Int) := by omega
theorem y_mid {y : Nat} (h1 : 1 ≤ y) (h2 : y ≤ 63) : ¬ (64 : Int) ≤ (y : Int) ∧ wrap64 (64 - (y : Int)) = 64 - (y : Int) ∧ ¬ (64 - (y : Int) < 0) ∧ (0 : Int) ≤ 64 - (y : Int) ∧ (64 - (y : Int)).toNat = 64 - y ∧ IntKind.i64.wrap (64 - (y : Int)) = 64 - (y : Int) := by rw [IntKind.wrap_i64]; unfold wrap64; omega
theorem y_low {y a : Nat} (h1 : 64 ≤ y) (h2 : y ≤ 117) (ha : a ≤ 64) : (64 : Int) ≤ (y : Int) ∧ wrap64 ((a : Int) + (y : Int)) = (a : Int) + (y : Int) ∧ wrap64 ((a : Int) + (y : Int) - 64) = (a : Int) + (y : Int) - 64 ∧ wrap64 ((y : Int) - 64) = ((y - 64 : Nat) : Int) := by unfold wrap64; omega
theorem a_big {a y : Nat} (h : 128 < a + y) : (64 : Int) < (a : Int) + (y : Int) - 64 := by omega
theorem a_small {a y : Nat} (h : ¬ 128 < a + y) : ¬ (64 : Int) < (a : Int) + (y : Int) - 64 := by omega
theorem big_lt {P num a y : Nat} (hP : P < 9007199254740992 * 18446744073709551616) (hn0 : 0 < num) (ha3 : 0 < num → 2 ^ (a - 1) ≤ num) (hbig : 128 < a + y) (hy : y ≤ 117) : (P : Int) < ((num * 2 ^ y : Nat) : Int) := by
  have h1 := ha3 hn0
  have h2 : 2 ^ (a - 1) * 2 ^ y ≤ num * 2 ^ y := Nat.mul_le_mul_right _ h1
  rw [← Nat.pow_add] at h2
  have h3 : (2 : Nat) ^ 128 ≤ 2 ^ (a - 1 + y) := Nat.pow_le_pow_right (by omega) (by omega)
  have h4 : (2 : Nat) ^ 128 = 340282366920938463463374607431768211456 := by decide
  generalize num * 2 ^ y = Y at *
  generalize 2 ^ (a - 1 + y) = Z at *
  clear ha3 h1
  omega
theorem low_shift {num a y D : Nat} (ha2 : num < 2 ^ a) (h : ¬ 128 < a + y) (hy : 64 ≤ y) (hD : D = num * 2 ^ (y - 64)) : IntKind.u64.wrap ((num : Int) * 2 ^ (y - 64)) = (D : Int) ∧ D < 18446744073709551616 ∧ D * 18446744073709551616 = num * 2 ^ y := by
  have h1 := small_lt (k := y - 64) ha2 (by omega)
  rw [← hD] at h1
  have c1 : (num : Int) * 2 ^ (y - 64) = (D : Int) := by rw [hD, Int.natCast_mul, Int.natCast_pow]; rfl
  refine ⟨by rw [c1, IntKind.wrap_u64]; omega, h1, ?_⟩
  rw [hD, show (18446744073709551616 : Nat) = 2 ^ 64 by decide, Nat.mul_assoc, ← Nat.pow_add]
  congr 2; omega

set_option maxHeartbeats 2000000 in
set_option maxRecDepth 100000 in
theorem cmp_mid (b num den : Nat) (h : CmpPre b num den) (hx : 1012 * 4503599627370496 ≤ b ∧ b < 1075 * 4503599627370496) (w : World) :
    Calls Try.prog 19 #[.float .f64 b, .int .u64 (num : Int), .int .u64 (den : Int)] w fun e w' => e = .returned (.tuple #[.int .i64 (cmpF b num den), .int .i64 0]) ∧ Below w.heap.size w w' := by
  obtain ⟨hn, hlo, hhi, hn0, hn1, hd0, hd1⟩ := h
  have hl := INF_lit
  have hlt := hn.lt
  have FI := isInf_any b (by omega)
  have FN := isNaN_any b
  rw [hn.rg] at FI FN
  have d1 : decide (b = INF) = false := decide_eq_false (by omega)
  have d2 : decide (INF < b) = false := decide_eq_false (by omega)
  rw [d1] at FI; rw [d2] at FN
  clear d1 d2
  have vz : val 0 = 0 := val_zero
  have z1 : ((den : Int) == 0) = false := by simp; omega
  have z2 : ((num : Int) == 0) = false := by simp; omega
  have g1 : ¬ fLt b 0 := by
    rw [fLt_iff hn.num (num_small (by decide)), sv_small (Nat.le_of_lt hn.hi), sv_small (by decide)]
    intro h; have := val_lt_iff.1 (Int.ofNat_lt.1 h); omega
  have g2 : ¬ fLe 4895412794951729152 b := by
    rw [fLe_iff (num_small (by decide)) hn.num, sv_small (Nat.le_of_lt hn.hi), sv_small (by decide)]
    intro h
    have h1 : val b < val 4895412794951729152 := val_lt (by omega)
    omega
  have g3 : ¬ fLt b 4314448443020935168 := by
    rw [fLt_iff hn.num (num_small (by decide)), sv_small (Nat.le_of_lt hn.hi), sv_small (by decide)]
    intro h; have := val_lt_iff.1 (Int.ofNat_lt.1 h); omega
  obtain ⟨e, he⟩ : ∃ e, e = b / 4503599627370496 := ⟨_, rfl⟩
  obtain ⟨m, hm⟩ : ∃ m, m = b % 4503599627370496 + 4503599627370496 := ⟨_, rfl⟩
  have PP : Parts b e m := ⟨he, hm⟩
  have FR := frexp_any b hn
  rw [← he] at FR
  obtain ⟨fr, hfr⟩ : ∃ fr, fr = b % 4503599627370496 + 4602678819172646912 := ⟨_, rfl⟩
  rw [← hfr] at FR
  have LD := ldexp_any fr 53 ⟨by omega, by omega⟩ (by omega) (by omega) (by omega)
  obtain ⟨g, hg⟩ : ∃ g : Nat, ((fr : Int) + 53 * 4503599627370496).toNat = g := ⟨_, rfl⟩
  rw [hg] at LD
  have hgv : g = 1074 * 4503599627370496 + m := by omega
  have gval : val (rg g) / S = m := by rw [rg_small (by omega), hgv, val_whole (by omega) (by omega), Nat.mul_div_cancel _ S_pos]
  have CV := fun W => run_convert_float_int W 24 22 .f64 .u64 g (m : Int) (by kernel_rfl) (by kernel_rfl) (floatToInt_u64 (fin_small (by omega)) (ng_small (by omega)) gval (by omega)) (P := Try.prog)
  have MM := mul_any m den (by omega) hd1
  obtain ⟨P, hP⟩ : ∃ P, P = m * den := ⟨_, rfl⟩
  rw [← hP] at MM
  obtain ⟨hi, hhiP⟩ : ∃ hi, hi = P / 18446744073709551616 := ⟨_, rfl⟩
  obtain ⟨lo, hloP⟩ : ∃ lo, lo = P % 18446744073709551616 := ⟨_, rfl⟩
  rw [← hhiP, ← hloP] at MM
  have hPb : P < 9007199254740992 * 18446744073709551616 := by
    rw [hP]; exact Nat.mul_lt_mul_of_lt_of_le (by omega) (Nat.le_of_lt hd1) (by omega)
  have hib : hi < 9007199254740992 := by omega
  have lob : lo < 18446744073709551616 := by omega
  obtain ⟨y, hy⟩ : ∃ y, y = 1075 - e := ⟨_, rfl⟩
  have hy1 : 1 ≤ y := by omega
  have hy2 : y ≤ 63 := by omega
  rw [cmp_lo PP hn num den (by omega) (by omega), ← hP, ← hy]
  obtain ⟨x1, ek⟩ : ∃ x1 : Int, x1 = (e : Int) - 1022 := ⟨_, rfl⟩
  rw [← ek] at FR
  obtain ⟨w1, w2⟩ := w_neg ek hy (by omega)
  have PHL : P = hi * 18446744073709551616 + lo := by omega
  obtain ⟨y1, y2⟩ := y_facts hy1 (Nat.le_trans hy2 (by decide))
  obtain ⟨y3, y4, y5, y6, y7, y8⟩ := y_mid hy1 hy2
  obtain ⟨C, hC⟩ : ∃ C, C = num / 2 ^ (64 - y) := ⟨_, rfl⟩
  obtain ⟨D, hD⟩ : ∃ D, D = num * 2 ^ y % 18446744073709551616 := ⟨_, rfl⟩
  obtain ⟨s1, s2, s3, s4, s5⟩ := c_shift hy2 hn1 hC hD
  have CP := compare_any (hi : Int) (lo : Int) (C : Int) (D : Int) (u64_nat (Nat.lt_trans hib (by decide))) (u64_nat lob) (u64_nat s3) (u64_nat s4)
  rw [cmp_down PHL s5] at CP
  generalize cmpZ (P : Int) ((num * 2 ^ y : Nat) : Int) = res at CP ⊢
  clear hC hD s5 PHL ek hy
  clear hP hhiP hloP hPb hg hgv hfr he hm PP hlo hhi hlt hl vz gval hx
  go_enter Try.func19, Try.ntmps19
  go_wp2_with (first | (go_at_call 31; refine (FI _).mono ?_; rintro e w' ⟨rfl, rfl⟩) | (go_at_call 30; refine (FN _).mono ?_; rintro e w' ⟨rfl, rfl⟩) | (go_at_call 33; refine (FR _).mono ?_; rintro e w' ⟨rfl, rfl⟩) | (go_at_call 34; refine (LD _).mono ?_; rintro e w' ⟨rfl, rfl⟩) | (go_at_call 35; refine (MM _).mono ?_; rintro e w' ⟨rfl, rfl⟩) | (go_at_call 36; refine (LN _).mono ?_; rintro e w' ⟨rfl, rfl⟩) | (go_at_call 37; refine (CP _).mono ?_; rintro e w' ⟨rfl, rfl⟩))
  go_region_held3 (fun w' => Below w.heap.size w w')
    (first | exact (Below.refl _ _).drew | assumption | go_keep)
    ((go_at_call 37; refine (CP _).mono ?_; rintro e w' ⟨rfl, rfl⟩))
  all_goals
    have K := ‹Below _ _ _›
    go_wp2_with fail
    simp [bodyPost, results, Try.results19, go_sem]
    exact K

set_option maxHeartbeats 2000000 in
set_option maxRecDepth 100000 in
theorem cmp_low (b num den : Nat) (h : CmpPre b num den) (hx : b < 1012 * 4503599627370496) (w : World) :
    Calls Try.prog 19 #[.float .f64 b, .int .u64 (num : Int), .int .u64 (den : Int)] w fun e w' => e = .returned (.tuple #[.int .i64 (cmpF b num den), .int .i64 0]) ∧ Below w.heap.size w w' := by
  obtain ⟨hn, hlo, hhi, hn0, hn1, hd0, hd1⟩ := h
  have hl := INF_lit
  have hlt := hn.lt
  have FI := isInf_any b (by omega)
  have FN := isNaN_any b
  rw [hn.rg] at FI FN
  have d1 : decide (b = INF) = false := decide_eq_false (by omega)
  have d2 : decide (INF < b) = false := decide_eq_false (by omega)
  rw [d1] at FI; rw [d2] at FN
  clear d1 d2
  have vz : val 0 = 0 := val_zero
  have z1 : ((den : Int) == 0) = false := by simp; omega
  have z2 : ((num : Int) == 0) = false := by simp; omega
  have g1 : ¬ fLt b 0 := by
    rw [fLt_iff hn.num (num_small (by decide)), sv_small (Nat.le_of_lt hn.hi), sv_small (by decide)]
    intro h; have := val_lt_iff.1 (Int.ofNat_lt.1 h); omega
  have g2 : ¬ fLe 4895412794951729152 b := by
    rw [fLe_iff (num_small (by decide)) hn.num, sv_small (Nat.le_of_lt hn.hi), sv_small (by decide)]
    intro h
    have h1 : val b < val 4895412794951729152 := val_lt (by omega)
    omega
  have g3 : ¬ fLt b 4314448443020935168 := by
    rw [fLt_iff hn.num (num_small (by decide)), sv_small (Nat.le_of_lt hn.hi), sv_small (by decide)]
    intro h; have := val_lt_iff.1 (Int.ofNat_lt.1 h); omega
  obtain ⟨e, he⟩ : ∃ e, e = b / 4503599627370496 := ⟨_, rfl⟩
  obtain ⟨m, hm⟩ : ∃ m, m = b % 4503599627370496 + 4503599627370496 := ⟨_, rfl⟩
  have PP : Parts b e m := ⟨he, hm⟩
  have FR := frexp_any b hn
  rw [← he] at FR
  obtain ⟨fr, hfr⟩ : ∃ fr, fr = b % 4503599627370496 + 4602678819172646912 := ⟨_, rfl⟩
  rw [← hfr] at FR
  have LD := ldexp_any fr 53 ⟨by omega, by omega⟩ (by omega) (by omega) (by omega)
  obtain ⟨g, hg⟩ : ∃ g : Nat, ((fr : Int) + 53 * 4503599627370496).toNat = g := ⟨_, rfl⟩
  rw [hg] at LD
  have hgv : g = 1074 * 4503599627370496 + m := by omega
  have gval : val (rg g) / S = m := by rw [rg_small (by omega), hgv, val_whole (by omega) (by omega), Nat.mul_div_cancel _ S_pos]
  have CV := fun W => run_convert_float_int W 24 22 .f64 .u64 g (m : Int) (by kernel_rfl) (by kernel_rfl) (floatToInt_u64 (fin_small (by omega)) (ng_small (by omega)) gval (by omega)) (P := Try.prog)
  have MM := mul_any m den (by omega) hd1
  obtain ⟨P, hP⟩ : ∃ P, P = m * den := ⟨_, rfl⟩
  rw [← hP] at MM
  obtain ⟨hi, hhiP⟩ : ∃ hi, hi = P / 18446744073709551616 := ⟨_, rfl⟩
  obtain ⟨lo, hloP⟩ : ∃ lo, lo = P % 18446744073709551616 := ⟨_, rfl⟩
  rw [← hhiP, ← hloP] at MM
  have hPb : P < 9007199254740992 * 18446744073709551616 := by
    rw [hP]; exact Nat.mul_lt_mul_of_lt_of_le (by omega) (Nat.le_of_lt hd1) (by omega)
  have hib : hi < 9007199254740992 := by omega
  have lob : lo < 18446744073709551616 := by omega
  obtain ⟨y, hy⟩ : ∃ y, y = 1075 - e := ⟨_, rfl⟩
  have hy1 : 1 ≤ y := by omega
  have hy2 : y ≤ 117 := by omega
  have hy0 : 64 ≤ y := by omega
  rw [cmp_lo PP hn num den (by omega) (by omega), ← hP, ← hy]
  obtain ⟨x1, ek⟩ : ∃ x1 : Int, x1 = (e : Int) - 1022 := ⟨_, rfl⟩
  rw [← ek] at FR
  obtain ⟨w1, w2⟩ := w_neg ek hy (by omega)
  have PHL : P = hi * 18446744073709551616 + lo := by omega
  obtain ⟨y1, y2⟩ := y_facts hy1 hy2
  have LN := len_any num hn1
  obtain ⟨a, ha, ha1, ha2, ha3, ha4⟩ := len_nat num hn1
  rw [ha] at LN
  obtain ⟨y3, y4, y5, y6⟩ := y_low hy0 hy2 ha1
  by_cases hbig : 128 < a + y
  · have hbig' := a_big hbig
    rw [cmpZ_lt (big_lt hPb hn0 ha3 hbig hy2)]
    clear hbig ha ha2 ha3 ha4 PHL ek hy y6
    clear hP hhiP hloP hPb hg hgv hfr he hm PP hlo hhi hlt hl vz gval hx
    go_enter Try.func19, Try.ntmps19
    go_wp2_with (first | (go_at_call 31; refine (FI _).mono ?_; rintro e w' ⟨rfl, rfl⟩) | (go_at_call 30; refine (FN _).mono ?_; rintro e w' ⟨rfl, rfl⟩) | (go_at_call 33; refine (FR _).mono ?_; rintro e w' ⟨rfl, rfl⟩) | (go_at_call 34; refine (LD _).mono ?_; rintro e w' ⟨rfl, rfl⟩) | (go_at_call 35; refine (MM _).mono ?_; rintro e w' ⟨rfl, rfl⟩) | (go_at_call 36; refine (LN _).mono ?_; rintro e w' ⟨rfl, rfl⟩) | (go_at_call 37; refine (CP _).mono ?_; rintro e w' ⟨rfl, rfl⟩))
    simp [bodyPost, results, Try.results19, go_sem]
    exact Below.refl _ _
  · have hbig' := a_small hbig
    obtain ⟨D, hD⟩ : ∃ D, D = num * 2 ^ (y - 64) := ⟨_, rfl⟩
    obtain ⟨s1, s2, s3⟩ := low_shift ha2 hbig hy0 hD
    have CP := compare_any (hi : Int) (lo : Int) (D : Int) 0 (u64_nat (Nat.lt_trans hib (by decide))) (u64_nat lob) (u64_nat s2) ⟨by decide, by decide⟩
    rw [cmp_down0 PHL s3] at CP
    generalize cmpZ (P : Int) ((num * 2 ^ y : Nat) : Int) = res at CP ⊢
    clear hbig ha ha2 ha3 ha4 PHL ek hy s3 hD y6
    clear hP hhiP hloP hPb hg hgv hfr he hm PP hlo hhi hlt hl vz gval hx
    go_enter Try.func19, Try.ntmps19
    go_wp2_with (first | (go_at_call 31; refine (FI _).mono ?_; rintro e w' ⟨rfl, rfl⟩) | (go_at_call 30; refine (FN _).mono ?_; rintro e w' ⟨rfl, rfl⟩) | (go_at_call 33; refine (FR _).mono ?_; rintro e w' ⟨rfl, rfl⟩) | (go_at_call 34; refine (LD _).mono ?_; rintro e w' ⟨rfl, rfl⟩) | (go_at_call 35; refine (MM _).mono ?_; rintro e w' ⟨rfl, rfl⟩) | (go_at_call 36; refine (LN _).mono ?_; rintro e w' ⟨rfl, rfl⟩) | (go_at_call 37; refine (CP _).mono ?_; rintro e w' ⟨rfl, rfl⟩))
    simp [bodyPost, results, Try.results19, go_sem]
    exact Below.refl _ _
end Go.Proofs.Ytcnhgblpeonmgaa
