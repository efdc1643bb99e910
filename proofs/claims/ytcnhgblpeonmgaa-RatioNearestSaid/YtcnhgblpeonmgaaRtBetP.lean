/-
  Plain: a fraction against the middle of two floats that lie side by side.
-/
import Derived.Test.YtcnhgblpeonmgaaRtRefCmp
namespace Go.Proofs.Ytcnhgblpeonmgaa
set_option linter.unusedVariables false
set_option linter.unusedSimpArgs false

theorem cmpZ_shift (a b c : Int) : cmpZ (c + a) (c + b) = cmpZ a b := by
  unfold cmpZ
  split <;> split <;> (try split) <;> (try split) <;> omega
theorem cmpZ_natmul (a b c : Nat) (hc : 0 < c) : cmpZ ((a * c : Nat) : Int) ((b * c : Nat) : Int) = cmpZ (a : Int) (b : Int) := by
  rw [Int.natCast_mul, Int.natCast_mul]; exact cmpZ_mul _ _ _ (by omega)
theorem cmpZ_natshift (a b c : Nat) : cmpZ ((c + a : Nat) : Int) ((c + b : Nat) : Int) = cmpZ (a : Int) (b : Int) := by
  rw [Int.natCast_add, Int.natCast_add]; exact cmpZ_shift _ _ _

/-- The fraction against the middle of the rung s and the one above it. -/
def betw (s num den : Nat) : Int := cmpZ ((2 * num * S : Nat) : Int) ((den * (val s + val (s + 1)) : Nat) : Int)

theorem cmpF_nat {s num den : Nat} (hs : s ≤ INF) : cmpF s num den = cmpZ ((val s * den : Nat) : Int) ((num * S : Nat) : Int) := by
  unfold cmpF; rw [sv_small hs, Int.natCast_mul, Int.natCast_mul]
theorem cmpZ_nonneg {a b : Int} (h : 0 ≤ cmpZ a b) : b ≤ a := by
  unfold cmpZ at h; split at h
  · omega
  · omega
theorem cmpZ_nonpos {a b : Int} (h : cmpZ a b ≤ 0) : a ≤ b := by
  unfold cmpZ at h; split at h
  · omega
  · split at h <;> omega
theorem cmpZ_neg {a b : Int} (h : ¬ 0 ≤ cmpZ a b) : a < b := by
  unfold cmpZ at h; split at h
  · omega
  · split at h <;> omega
theorem cmpZ_pos {a b : Int} (h : ¬ cmpZ a b ≤ 0) : b < a := by
  unfold cmpZ at h; split at h
  · omega
  · split at h <;> omega

theorem betw_low {s num den : Nat} (hs : s ≤ INF) (hd : 0 < den) (h : 0 ≤ cmpF s num den) : betw s num den = -1 := by
  rw [cmpF_nat hs] at h
  have h1 := Int.ofNat_le.1 (cmpZ_nonneg h)
  have h2 : den * val s < den * val (s + 1) := Nat.mul_lt_mul_of_pos_left (val_lt_succ _) hd
  refine cmpZ_lt (Int.ofNat_lt.2 ?_)
  rw [Nat.mul_add, Nat.mul_assoc]
  rw [Nat.mul_comm (val s)] at h1
  omega
theorem betw_high {s num den : Nat} (hs : s + 1 ≤ INF) (hd : 0 < den) (h : cmpF (s + 1) num den ≤ 0) : betw s num den = 1 := by
  rw [cmpF_nat hs] at h
  have h1 := Int.ofNat_le.1 (cmpZ_nonpos h)
  have h2 : den * val s < den * val (s + 1) := Nat.mul_lt_mul_of_pos_left (val_lt_succ _) hd
  refine cmpZ_gt (Int.ofNat_lt.2 ?_)
  rw [Nat.mul_add, Nat.mul_assoc]
  rw [Nat.mul_comm (val (s + 1))] at h1
  omega

/-- Strictly between. -/
structure Bet (s num den : Nat) : Prop where
  s1 : 4503599627370496 ≤ s
  s2 : s < 4895412794951729152
  n1 : num < 18446744073709551616
  d0 : 0 < den
  d1 : den < 18446744073709551616
  lo : val s * den < num * S
  hi : num * S < val (s + 1) * den
theorem Bet.of {s num den : Nat} (s1 : 4503599627370496 ≤ s) (s2 : s ≤ 4895412794951729152) (n1 : num < 18446744073709551616) (d0 : 0 < den) (d1 : den < 18446744073709551616)
    (h1 : ¬ 0 ≤ cmpF s num den) (h2 : ¬ cmpF (s + 1) num den ≤ 0) : Bet s num den := by
  have hl := INF_lit
  rw [cmpF_nat (by omega)] at h1 h2
  have a1 := Int.ofNat_lt.1 (cmpZ_neg h1)
  have a2 := Int.ofNat_lt.1 (cmpZ_pos h2)
  refine ⟨s1, ?_, n1, d0, d1, a1, a2⟩
  rcases Nat.lt_or_ge s 4895412794951729152 with h | h
  · exact h
  · exfalso
    have b1 := val_le h
    rw [val_64] at b1
    have b2 : 18446744073709551616 * S * 1 ≤ val s * den := Nat.mul_le_mul b1 d0
    have b3 : num * S ≤ 18446744073709551616 * S := Nat.mul_le_mul_right _ (by omega)
    omega

theorem Bet.bounds {s num den : Nat} (h : Bet s num den) : pl s ≤ Q + 11 ∧ 4503599627370496 ≤ mg s := by
  have h1 := h.s1; have h2 := h.s2; have hq := Q_eq
  refine ⟨by unfold pl; omega, by unfold mg; split <;> omega⟩

/-- The step is a float, and so is each of its doublings up to one. -/
theorem Bet.step {s num den : Nat} (h : Bet s num den) : ∃ q, Ieee.double.sub (s + 1) s = some q ∧ q < 4895412794951729152 ∧ val q = 2 ^ pl s := by
  have h1 := h.s1; have h2 := h.s2
  have hl := INF_lit
  obtain ⟨q, hq⟩ := rep (pl s) 1 (by decide)
  rw [Nat.one_mul] at hq
  have hqs : q ≤ s := by
    rcases Nat.lt_or_ge s q with h3 | h3
    · have h4 := val_lt h3
      rw [hq] at h4
      have h5 : val s = mg s * 2 ^ pl s := rfl
      have h6 : 1 * 2 ^ pl s ≤ mg s * 2 ^ pl s := Nat.mul_le_mul_right _ (by have := h.bounds.2; omega)
      omega
    · exact h3
  have e1 := sv_small (show s ≤ INF by omega)
  have e2 := sv_small (show s + 1 ≤ INF by omega)
  have e3 := ng_small (show s ≤ INF by omega)
  have e4 := ng_small (show s + 1 ≤ INF by omega)
  have hx : sv (s + 1) - sv s = ((2 ^ pl s : Nat) : Int) := by
    rw [e1, e2, val_succ]; generalize 2 ^ pl s = k; omega
  have m := sub_exact (a := s + 1) (b := s) (r := q) (fin_small (by omega)) (fin_small (by omega)) (by omega) (by rw [hx, hq, Int.natAbs_natCast])
  have hp := p2pos (pl s)
  have hn : sumNeg (ng (s + 1)) (!ng s) (sv (s + 1) - sv s) = false := by
    rw [hx]; generalize 2 ^ pl s = k at hp
    unfold sumNeg; rw [if_neg (by omega)]; exact decide_eq_false (by omega)
  rw [hn] at m
  exact ⟨q, m, by omega, hq⟩

/-- What the doubling keeps. -/
structure Un (s u x : Nat) : Prop where
  u1 : u < 4895412794951729152
  v : val u = 2 ^ (pl s + x)
  x : x = 0 ∨ pl s + x ≤ Q
theorem Un.cond {s u x : Nat} (h : Un s u x) : fLt u 4607182418800017408 ↔ pl s + x < Q := by
  have hl := INF_lit
  have hu := h.u1
  rw [fLt_iff (num_small (by omega)) fin_one.num, svn_one, sv_small (by omega), h.v, S_eq]
  constructor
  · intro h1
    have h2 := Int.ofNat_lt.1 h1
    rcases Nat.lt_or_ge (pl s + x) Q with h3 | h3
    · exact h3
    · have := Nat.pow_le_pow_right (show 2 > 0 by decide) h3; omega
  · intro h1
    exact Int.ofNat_lt.2 (Nat.pow_lt_pow_right (by decide) h1)
theorem Un.next {s u x : Nat} (h : Un s u x) (hc : pl s + x < Q) : ∃ u', Ieee.double.mul u 4611686018427387904 = some u' ∧ Un s u' (x + 1) := by
  have hl := INF_lit
  have hu := h.u1
  obtain ⟨q, hq⟩ := dbl_rep u
  have hv : val q = 2 ^ (pl s + (x + 1)) := by rw [hq, h.v, ← Nat.add_assoc, Nat.pow_succ]; omega
  have hle : val q ≤ S := by rw [hv, S_eq]; exact Nat.pow_le_pow_right (by decide) (by omega)
  have hq2 : q ≤ 4607182418800017408 := by
    rw [← val_one] at hle
    rcases Nat.lt_or_ge 4607182418800017408 q with h3 | h3
    · have := val_lt h3; omega
    · exact h3
  have r1 := rg_small (show u ≤ INF by omega)
  have r2 : rg 4611686018427387904 = 4611686018427387904 := rg_wd false (by decide)
  have n2 : ng 4611686018427387904 = false := ng_wd false (by decide)
  have n1 := ng_small (show u ≤ INF by omega)
  have m := mul_exact (r := q) (fin_small (show u < INF by omega)) fin_two (by omega) (by rw [r1, r2, val_two, hq]; ac_rfl)
  rw [n1, n2] at m
  exact ⟨q, m, by omega, hv, .inr (by omega)⟩

theorem Bet.fine {s num den x : Nat} (h : Bet s num den) (hx : pl s + x = Q) : betw s num den = cmpZ ((2 * (num * 2 ^ x % den) : Nat) : Int) (den : Int) := by
  have hp := p2pos (pl s)
  have hS : S = 2 ^ x * 2 ^ pl s := by rw [S_eq, ← hx, Nat.pow_add, Nat.mul_comm]
  have v0 : val s = mg s * 2 ^ pl s := rfl
  have v1 := val_succ s
  have lo := h.lo
  have hi := h.hi
  unfold betw
  rw [v1, v0] at *
  rw [hS] at *
  generalize 2 ^ pl s = P at *
  generalize 2 ^ x = X at *
  generalize mg s = M at *
  have lo' : M * den < num * X := by
    have : M * den * P < num * X * P := by rw [Nat.mul_right_comm, Nat.mul_assoc num]; exact lo
    exact Nat.lt_of_mul_lt_mul_right this
  have hi' : num * X < (M + 1) * den := by
    have : num * X * P < (M + 1) * den * P := by
      rw [Nat.mul_right_comm (M + 1), Nat.add_mul, Nat.one_mul, Nat.mul_assoc num]; exact hi
    exact Nat.lt_of_mul_lt_mul_right this
  have hdiv : num * X / den = M := by
    apply Nat.le_antisymm
    · have := (Nat.div_lt_iff_lt_mul h.d0).2 hi'; omega
    · rw [Nat.le_div_iff_mul_le h.d0]; omega
  have hdm := Nat.div_add_mod (num * X) den
  rw [hdiv] at hdm
  generalize num * X % den = r at *
  have e1 : 2 * num * (X * P) = (2 * (den * M) + 2 * r) * P := by
    rw [← Nat.mul_assoc (2 * num), Nat.mul_assoc 2 num, ← hdm, Nat.mul_add]
  have e2 : den * (M * P + (M * P + P)) = (2 * (den * M) + den) * P := by
    have : M * P + (M * P + P) = (2 * M + 1) * P := by rw [Nat.add_mul, Nat.mul_assoc]; omega
    rw [this, ← Nat.mul_assoc, Nat.mul_add, Nat.mul_left_comm, Nat.mul_one]
  rw [e1, e2, cmpZ_natmul _ _ _ hp, cmpZ_natshift]

/-- Whole numbers, a step of 2 h apart. -/
theorem Bet.coarse {s num den h : Nat} (b : Bet s num den) (hp : Q ≤ pl s) (hh : 2 ^ (pl s - Q) = 2 * h) (c : Int)
    (hc : c = if num / den - mg s * (2 * h) < h then -1 else if h < num / den - mg s * (2 * h) then 1 else if 0 < num % den then 1 else 0) :
    betw s num den = c ∧ mg s * (2 * h) ≤ num / den := by
  have v0 : val s = mg s * 2 ^ pl s := rfl
  have v1 := val_succ s
  have lo := b.lo
  have hpp : 2 ^ pl s = 2 * h * S := by rw [← hh, S_eq, ← Nat.pow_add]; congr 1; omega
  have hS := S_pos
  unfold betw
  rw [v1, v0, hpp]
  rw [v0, hpp] at lo
  clear v0 v1 hpp
  generalize mg s = M at *
  have lo' : M * (2 * h) * den < num := by
    have : M * (2 * h) * den * S < num * S := by rw [Nat.mul_right_comm, Nat.mul_assoc M]; exact lo
    exact Nat.lt_of_mul_lt_mul_right this
  have hle : M * (2 * h) ≤ num / den := by rw [Nat.le_div_iff_mul_le b.d0]; omega
  refine ⟨?_, hle⟩
  have e2 : den * (M * (2 * h * S) + (M * (2 * h * S) + 2 * h * S)) = 2 * ((M * (2 * h) + h) * den) * S := by
    have : M * (2 * h * S) + (M * (2 * h * S) + 2 * h * S) = 2 * ((M * (2 * h) + h) * S) := by
      rw [← Nat.mul_assoc M, Nat.add_mul, Nat.mul_add, Nat.mul_assoc 2 h]; omega
    rw [this]; ac_rfl
  rw [e2, cmpZ_natmul _ _ _ hS, Nat.mul_comm 2 num, Nat.mul_comm 2 (_ * den), cmpZ_natmul _ _ _ (by decide)]
  have hdm := Nat.div_add_mod num den
  have hr := Nat.mod_lt num b.d0
  generalize num / den = q at *
  generalize num % den = r at *
  generalize M * (2 * h) = L at *
  rw [Nat.mul_comm den] at hdm
  rw [hc]
  by_cases c1 : q - L < h
  · rw [if_pos c1]
    refine cmpZ_lt (Int.ofNat_lt.2 ?_)
    have : (q + 1) * den ≤ (L + h) * den := Nat.mul_le_mul_right _ (by omega)
    rw [Nat.add_mul, Nat.one_mul] at this
    omega
  · rw [if_neg c1]
    by_cases c2 : h < q - L
    · rw [if_pos c2]
      refine cmpZ_gt (Int.ofNat_lt.2 ?_)
      have : (L + h + 1) * den ≤ q * den := Nat.mul_le_mul_right _ (by omega)
      rw [Nat.add_mul, Nat.one_mul] at this
      have := b.d0
      omega
    · rw [if_neg c2]
      have : q = L + h := by omega
      rw [this] at hdm
      by_cases c3 : 0 < r
      · rw [if_pos c3]; exact cmpZ_gt (Int.ofNat_lt.2 (by omega))
      · rw [if_neg c3]; exact cmpZ_eq (congrArg _ (by omega))

/-- The lower float, and the step, as whole numbers. -/
theorem Bet.whole {s num den E : Nat} (b : Bet s num den) (hp : Q ≤ pl s) (hE : E = 2 ^ (pl s - Q)) : val s / S = mg s * E ∧ mg s * E < 18446744073709551616 ∧ 2 ^ pl s / S = E ∧ E ≤ 2048 ∧ (E = 1 ∨ ∃ h, 0 < h ∧ E = 2 * h) := by
  have v0 : val s = mg s * 2 ^ pl s := rfl
  have hpp : 2 ^ pl s = E * S := by rw [hE, S_eq, ← Nat.pow_add]; congr 1; omega
  have hS := S_pos
  have lo := b.lo
  rw [v0, hpp] at *
  have lo' : mg s * E * den < num := by
    have : mg s * E * den * S < num * S := by rw [Nat.mul_right_comm, Nat.mul_assoc (mg s)]; exact lo
    exact Nat.lt_of_mul_lt_mul_right this
  have h3 : mg s * E * 1 ≤ mg s * E * den := Nat.mul_le_mul_left _ b.d0
  refine ⟨?_, by have := b.n1; omega, Nat.mul_div_cancel _ hS, ?_, ?_⟩
  · rw [← Nat.mul_assoc, Nat.mul_div_cancel _ hS]
  · rw [hE]
    have : (2 : Nat) ^ (pl s - Q) ≤ 2 ^ 11 := Nat.pow_le_pow_right (by decide) (by have := b.bounds.1; omega)
    have e : (2 : Nat) ^ 11 = 2048 := by decide
    omega
  · rcases Nat.eq_zero_or_pos (pl s - Q) with h | h
    · left; rw [hE, h]
    · right
      obtain ⟨k, hk⟩ : ∃ k, pl s - Q = k + 1 := ⟨pl s - Q - 1, by omega⟩
      exact ⟨2 ^ k, p2pos k, by rw [hE, hk, Nat.pow_succ, Nat.mul_comm]⟩
end Go.Proofs.Ytcnhgblpeonmgaa
