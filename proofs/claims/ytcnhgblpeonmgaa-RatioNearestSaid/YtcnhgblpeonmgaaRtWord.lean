/-
  Plain: words of 64-bit floats: what they stand for, how they compare, what is written for a number.
-/
import Derived.Test.YtcnhgblpeonmgaaRtVal
namespace Go.Proofs.Ytcnhgblpeonmgaa
set_option linter.unusedVariables false
set_option linter.unusedSimpArgs false

def INF : Nat := 9218868437227405312
def wd (neg : Bool) (r : Nat) : Nat := if neg then 9223372036854775808 + r else r
def ng (b : Nat) : Bool := b / 9223372036854775808 % 2 == 1
def rg (b : Nat) : Nat := b % 9223372036854775808
/-- A finite word's value, with its sign. -/
def sv (b : Nat) : Int := if ng b then -(val (rg b) : Int) else val (rg b)
def Fin64 (b : Nat) : Prop := rg b < INF
def Num64 (b : Nat) : Prop := rg b ≤ INF

theorem d_sign : Ieee.double.signWeight = 9223372036854775808 := by decide
theorem d_binade : Ieee.double.binade = 4503599627370496 := by decide
theorem d_inf : Ieee.double.infRung = INF := by decide
theorem d_least : Ieee.double.leastPlace = -1074 := by decide
theorem d_frac : Ieee.double.fractionBits = 52 := rfl
theorem d_word (neg : Bool) (r : Nat) : Ieee.double.word neg r = wd neg r := by unfold Ieee.Format.word wd; rw [d_sign]

theorem rg_wd (neg : Bool) {r : Nat} (h : r < 9223372036854775808) : rg (wd neg r) = r := by unfold rg wd; split <;> omega
theorem ng_wd (neg : Bool) {r : Nat} (h : r < 9223372036854775808) : ng (wd neg r) = neg := by
  cases neg
  · have : r / 9223372036854775808 % 2 = 0 := by omega
    simp [ng, wd, this]
  · have : (9223372036854775808 + r) / 9223372036854775808 % 2 = 1 := by omega
    show ((9223372036854775808 + r) / 9223372036854775808 % 2 == 1) = true
    rw [this]; rfl
theorem wd_of {b : Nat} (h : b < 18446744073709551616) : wd (ng b) (rg b) = b := by
  unfold wd ng rg
  by_cases h1 : b < 9223372036854775808
  · have e : b / 9223372036854775808 % 2 = 0 := by omega
    simp [e]; omega
  · have e : b / 9223372036854775808 % 2 = 1 := by omega
    simp [e]; omega

theorem read_fin {b : Nat} (h : Fin64 b) : Ieee.double.read b = .number (ng b) (mg (rg b)) (-1074 + (pl (rg b) : Nat)) := by
  unfold Ieee.Format.read
  rw [d_sign, d_binade, d_inf, d_least]
  show (if rg b < 4503599627370496 then _ else if rg b < INF then _ else _) = _
  by_cases h1 : rg b < 4503599627370496
  · have e1 : mg (rg b) = rg b := by unfold mg; rw [if_pos h1]
    have e2 : pl (rg b) = 0 := by unfold pl; omega
    rw [if_pos h1, e1, e2]; rfl
  · have e1 : mg (rg b) = 4503599627370496 + rg b % 4503599627370496 := by unfold mg; rw [if_neg h1]
    rw [if_neg h1, if_pos (show rg b < INF from h), e1]; rfl
theorem read_inf {b : Nat} (h : rg b = INF) : Ieee.double.read b = .infinity (ng b) := by
  unfold Ieee.Format.read
  rw [d_sign, d_binade, d_inf, d_least]
  show (if rg b < 4503599627370496 then _ else if rg b < INF then _ else if rg b = INF then _ else _) = _
  have hi : INF = 9218868437227405312 := rfl
  rw [if_neg (by omega), if_neg (by omega), if_pos h]; rfl
theorem read_nan {b : Nat} (h : INF < rg b) : Ieee.double.read b = .nan (ng b) (rg b - INF) := by
  unfold Ieee.Format.read
  rw [d_sign, d_binade, d_inf, d_least]
  show (if rg b < 4503599627370496 then _ else if rg b < INF then _ else if rg b = INF then _ else _) = _
  have hi : INF = 9218868437227405312 := rfl
  rw [if_neg (by omega), if_neg (by omega), if_neg (by omega)]; rfl

theorem cut_even (neg : Bool) (n drop : Nat) : Ieee.Toward.even.cut neg n drop = rnd (n / 2 ^ drop) (n % 2 ^ drop) (2 ^ drop) := by
  have base : ∀ k, n / 2 ^ k + (decide (2 ^ k < 2 * (n % 2 ^ k)) || (2 ^ k == 2 * (n % 2 ^ k) && n / 2 ^ k % 2 == 1)).toNat = rnd (n / 2 ^ k) (n % 2 ^ k) (2 ^ k) := by
    intro k
    generalize n / 2 ^ k = a
    generalize n % 2 ^ k = c
    generalize 2 ^ k = g
    unfold rnd
    by_cases h1 : g < 2 * c
    · simp [h1]
    · by_cases h2 : g = 2 * c
      · by_cases h3 : a % 2 = 1
        · simp [h2, h3]
        · simp [h2, h3]
      · simp [h1, h2]
  unfold Ieee.Toward.cut
  dsimp only
  rw [Nat.one_shiftLeft]
  by_cases hd : drop ≤ n.log2 + 2
  · rw [Nat.min_eq_left hd]; exact base drop
  · rw [Nat.min_eq_right (by omega)]
    have h1 : n < 2 ^ (n.log2 + 1) := Nat.lt_log2_self
    have h2 : 2 ^ (n.log2 + 2) = 2 ^ (n.log2 + 1) * 2 := Nat.pow_succ ..
    have h3 : 2 ^ (n.log2 + 2) ≤ 2 ^ drop := Nat.pow_le_pow_right (by omega) (by omega)
    rw [base]
    rw [Nat.div_eq_of_lt (by omega), Nat.mod_eq_of_lt (by omega), Nat.div_eq_of_lt (by omega), Nat.mod_eq_of_lt (by omega)]
    unfold rnd
    rw [if_neg (by omega), if_neg (by omega)]

theorem near_zero (D : Nat) : Near 0 D 0 := ⟨fun h => absurd h (by omega), by omega, fun h => absurd h (by omega)⟩

theorem nearest_near (neg : Bool) (mag : Nat) (place : Int) : ∃ r, Ieee.double.nearest neg mag place = wd neg (min r INF) ∧ Near (mag * 2 ^ (place + 1074).toNat) (2 ^ (-1074 - place).toNat) r := by
  unfold Ieee.Format.nearest
  rw [d_least, d_frac, d_binade, d_inf]
  by_cases h0 : mag = 0
  · subst h0
    refine ⟨0, ?_, ?_⟩
    · rw [if_pos rfl, d_word]; rfl
    · rw [Nat.zero_mul]; exact near_zero _
  rw [if_neg h0]
  dsimp only
  have hl1 : 2 ^ mag.log2 ≤ mag := Nat.log2_self_le h0
  have hl2 : mag < 2 ^ (mag.log2 + 1) := Nat.lt_log2_self
  generalize hL : mag.log2 = L at hl1 hl2 ⊢
  obtain ⟨last, hlast⟩ : ∃ last : Int, last = max (place + (L : Int) - (52 : Nat)) (-1074) := ⟨_, rfl⟩
  rw [← hlast, cut_even]
  have hp52 : (2 : Nat) ^ 52 = 4503599627370496 := by decide
  have hp53 : (2 : Nat) ^ 53 = 9007199254740992 := by decide
  obtain ⟨e, he⟩ : ∃ e : Nat, last = (e : Int) - 1074 := ⟨(last + 1074).toNat, by omega⟩
  have e1 : (last - -1074).toNat = e := by omega
  rw [e1]
  by_cases hc : last ≤ place
  · -- nothing is dropped
    have d0 : (last - place).toNat = 0 := by omega
    obtain ⟨up, hup⟩ : ∃ up : Nat, place = last + up := ⟨(place - last).toNat, by omega⟩
    have e2 : (place - last).toNat = up := by omega
    rw [d0, e2, Nat.shiftLeft_eq]
    refine ⟨_, d_word _ _, ?_⟩
    have e3 : (place + 1074).toNat = up + e := by omega
    have e4 : (-1074 - place).toNat = 0 := by omega
    rw [e3, e4]
    have hb : mag * 2 ^ up < 9007199254740992 := by
      have : mag * 2 ^ up < 2 ^ (L + 1) * 2 ^ up := Nat.mul_lt_mul_of_pos_right hl2 (p2pos up)
      rw [← Nat.pow_add] at this
      have : (2 : Nat) ^ (L + 1 + up) ≤ 2 ^ 53 := Nat.pow_le_pow_right (by omega) (by omega)
      omega
    have hg : 4503599627370496 ≤ mag * 2 ^ up ∨ e = 0 := by
      by_cases h : e = 0
      · exact .inr h
      · left
        have : 2 ^ L * 2 ^ up ≤ mag * 2 ^ up := Nat.mul_le_mul_right _ hl1
        rw [← Nat.pow_add] at this
        have : (2 : Nat) ^ 52 ≤ 2 ^ (L + up) := Nat.pow_le_pow_right (by omega) (by omega)
        omega
    have hn := near_round (mag * 2 ^ (up + e)) (2 ^ 0) e (mag * 2 ^ up) 0 (by decide) (by rw [Nat.pow_add, Nat.pow_zero, Nat.one_mul, Nat.mul_assoc]; rfl) (by rw [Nat.pow_zero, Nat.one_mul]; exact p2pos e) hb hg
    have er : rnd (mag * 2 ^ up) 0 (2 ^ 0 * 2 ^ e) = mag * 2 ^ up := by
      unfold rnd; have := p2pos e; rw [if_neg (by omega)]; rfl
    have er2 : rnd (mag * 2 ^ up / 2 ^ 0) (mag * 2 ^ up % 2 ^ 0) (2 ^ 0) = mag * 2 ^ up := by
      rw [Nat.pow_zero, Nat.div_one, Nat.mod_one]; rfl
    rw [er] at hn; rw [er2]; exact hn
  · -- some digits are dropped
    obtain ⟨drop, hdrop⟩ : ∃ drop : Nat, last = place + drop := ⟨(last - place).toNat, by omega⟩
    have d1 : (last - place).toNat = drop := by omega
    have d0 : (place - last).toNat = 0 := by omega
    rw [d1, d0, Nat.shiftLeft_zero]
    refine ⟨_, d_word _ _, ?_⟩
    have hdm := Nat.div_add_mod mag (2 ^ drop)
    have hr := Nat.mod_lt mag (p2pos drop)
    have hb : mag / 2 ^ drop < 9007199254740992 := by
      rw [Nat.div_lt_iff_lt_mul (p2pos drop), ← hp53, ← Nat.pow_add]
      have : (2 : Nat) ^ (L + 1) ≤ 2 ^ (53 + drop) := Nat.pow_le_pow_right (by omega) (by omega)
      omega
    have hg : 4503599627370496 ≤ mag / 2 ^ drop ∨ e = 0 := by
      by_cases h : e = 0
      · exact .inr h
      · left
        rw [Nat.le_div_iff_mul_le (p2pos drop), ← hp52, ← Nat.pow_add]
        have : (2 : Nat) ^ (52 + drop) ≤ 2 ^ L := Nat.pow_le_pow_right (by omega) (by omega)
        omega
    obtain ⟨q, hq⟩ : ∃ q, q = mag / 2 ^ drop := ⟨_, rfl⟩
    obtain ⟨s, hs⟩ : ∃ s, s = mag % 2 ^ drop := ⟨_, rfl⟩
    rw [← hq] at hb hg hdm
    rw [← hs] at hr hdm
    rw [← hq, ← hs]
    obtain ⟨up, hup⟩ : ∃ up : Nat, up = (place + 1074).toNat := ⟨_, rfl⟩
    obtain ⟨dn, hdn⟩ : ∃ dn : Nat, dn = (-1074 - place).toNat := ⟨_, rfl⟩
    rw [← hup, ← hdn]
    have hsum : dn + e = drop + up := by omega
    have hU : 2 ^ dn * 2 ^ e = 2 ^ drop * 2 ^ up := by rw [← Nat.pow_add, ← Nat.pow_add, hsum]
    have hn := near_round (mag * 2 ^ up) (2 ^ dn) e q (s * 2 ^ up) (p2pos dn)
      (by rw [hU, ← hdm, Nat.add_mul, Nat.mul_comm (2 ^ drop) q, Nat.mul_assoc])
      (by rw [hU]; exact Nat.mul_lt_mul_of_pos_right hr (p2pos up)) hb hg
    have er : rnd q (s * 2 ^ up) (2 ^ dn * 2 ^ e) = rnd q s (2 ^ drop) := by
      rw [hU]
      have hpu := p2pos up
      have e5 : 2 * (s * 2 ^ up) = 2 * s * 2 ^ up := by rw [Nat.mul_assoc]
      unfold rnd
      rw [e5]
      have c1 : 2 ^ drop * 2 ^ up < 2 * s * 2 ^ up ↔ 2 ^ drop < 2 * s := Nat.mul_lt_mul_right hpu
      have c2 : 2 ^ drop * 2 ^ up = 2 * s * 2 ^ up ↔ 2 ^ drop = 2 * s := Nat.mul_left_inj (by omega)
      simp only [c1, c2]
    rw [er] at hn; exact hn
end Go.Proofs.Ytcnhgblpeonmgaa
