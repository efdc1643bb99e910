/-
  Plain: the numbers of 64-bit floats. A rung's value (counted in units of 2^-1074), what lies nearest to a fraction.
-/
import Derived.Laws.FloatBits
namespace Go.Proofs.Ytnccgpdniigekaa
set_option linter.unusedVariables false
set_option linter.unusedSimpArgs false

/-- A rung's digits, and how many places they are moved. -/
def mg (r : Nat) : Nat := if r < 4503599627370496 then r else 4503599627370496 + r % 4503599627370496
def pl (r : Nat) : Nat := r / 4503599627370496 - 1
/-- A rung's value, in units of the least place. -/
def val (r : Nat) : Nat := mg r * 2 ^ pl r

theorem rung_eq (r : Nat) : r = pl r * 4503599627370496 + mg r := by
  unfold pl mg
  split <;> omega
theorem mg_lt (r : Nat) : mg r < 9007199254740992 := by unfold mg; split <;> omega
theorem mg_or (r : Nat) : 4503599627370496 ≤ mg r ∨ pl r = 0 := by unfold mg pl; split <;> omega
theorem p2pos (k : Nat) : 0 < 2 ^ k := Nat.two_pow_pos k

theorem val_em (e m : Nat) (h : 4503599627370496 ≤ m ∨ e = 0) (hm : m ≤ 9007199254740992) : val (e * 4503599627370496 + m) = m * 2 ^ e := by
  by_cases h1 : m < 4503599627370496
  · have he : e = 0 := by omega
    subst he
    have e1 : mg (0 * 4503599627370496 + m) = m := by unfold mg; rw [if_pos (by omega)]; omega
    have e2 : pl (0 * 4503599627370496 + m) = 0 := by unfold pl; omega
    unfold val; rw [e1, e2]
  · by_cases h2 : m = 9007199254740992
    · subst h2
      have e1 : mg (e * 4503599627370496 + 9007199254740992) = 4503599627370496 := by unfold mg; rw [if_neg (by omega)]; omega
      have e2 : pl (e * 4503599627370496 + 9007199254740992) = e + 1 := by unfold pl; omega
      unfold val; rw [e1, e2, Nat.pow_succ]; omega
    · have e1 : mg (e * 4503599627370496 + m) = m := by unfold mg; rw [if_neg (by omega)]; omega
      have e2 : pl (e * 4503599627370496 + m) = e := by unfold pl; omega
      unfold val; rw [e1, e2]

theorem val_succ (r : Nat) : val (r + 1) = val r + 2 ^ pl r := by
  have h := val_em (pl r) (mg r + 1) (by have := mg_or r; omega) (by have := mg_lt r; omega)
  have e : pl r * 4503599627370496 + (mg r + 1) = r + 1 := by have := rung_eq r; omega
  rw [e] at h
  rw [h, Nat.add_mul, Nat.one_mul]; rfl
theorem val_lt_succ (r : Nat) : val r < val (r + 1) := by rw [val_succ]; have := p2pos (pl r); omega
theorem val_lt {r s : Nat} (h : r < s) : val r < val s := by
  induction s with
  | zero => omega
  | succ s ih =>
    rcases Nat.lt_or_ge r s with h1 | h1
    · exact Nat.lt_trans (ih h1) (val_lt_succ s)
    · have : r = s := by omega
      subst this; exact val_lt_succ r
theorem val_le {r s : Nat} (h : r ≤ s) : val r ≤ val s := by
  rcases Nat.lt_or_ge r s with h1 | h1
  · exact Nat.le_of_lt (val_lt h1)
  · have : r = s := by omega
    subst this; exact Nat.le_refl _
theorem val_lt_iff {r s : Nat} : val r < val s ↔ r < s := by
  constructor
  · intro h; rcases Nat.lt_or_ge r s with h1 | h1
    · exact h1
    · have := val_le h1; omega
  · exact val_lt
theorem val_inj {r s : Nat} (h : val r = val s) : r = s := by
  rcases Nat.lt_trichotomy r s with h1 | h1 | h1
  · have := val_lt h1; omega
  · exact h1
  · have := val_lt h1; omega
theorem val_zero : val 0 = 0 := by decide
theorem val_pos {r : Nat} (h : 0 < r) : 0 < val r := by have := val_lt h; rw [val_zero] at this; exact this

/-- A small number of digits is some rung's value. -/
theorem rep (e : Nat) : ∀ m, m ≤ 9007199254740992 → ∃ r, val r = m * 2 ^ e := by
  induction e with
  | zero => intro m hm; exact ⟨0 * 4503599627370496 + m, val_em 0 m (.inr rfl) hm⟩
  | succ e ih =>
    intro m hm
    by_cases h : 4503599627370496 ≤ m
    · exact ⟨_, val_em (e + 1) m (.inl h) hm⟩
    · obtain ⟨r, hr⟩ := ih (2 * m) (by omega)
      refine ⟨r, ?_⟩
      rw [hr, Nat.pow_succ, Nat.mul_comm (2 ^ e) 2, ← Nat.mul_assoc, Nat.mul_comm 2 m]

/-- Rung r is nearest to N by D (units of the least place); between two, the even one. -/
structure Near (N D r : Nat) : Prop where
  lo : 0 < r → D * (val (r - 1) + val r) ≤ 2 * N
  hi : 2 * N ≤ D * (val r + val (r + 1))
  odd : r % 2 = 1 → D * (val (r - 1) + val r) < 2 * N ∧ 2 * N < D * (val r + val (r + 1))

theorem near_mono {N D r N' D' r' : Nat} (h : Near N D r) (h' : Near N' D' r') (hD : 0 < D) (hD' : 0 < D') (hle : N * D' ≤ N' * D) : r ≤ r' := by
  rcases Nat.lt_or_ge r' r with hlt | hge
  · exfalso
    have h1 := h.lo (by omega)
    have h2 := h'.hi
    have h3 : val r' ≤ val (r - 1) := val_le (by omega)
    have h4 : val (r' + 1) ≤ val r := val_le (by omega)
    -- D' D S1 ≤ 2 N D' ≤ 2 N' D ≤ D' D S2 ≤ D' D S1
    have a1 : D' * (D * (val (r - 1) + val r)) ≤ D' * (2 * N) := Nat.mul_le_mul_left _ h1
    have a2 : D * (2 * N') ≤ D * (D' * (val r' + val (r' + 1))) := Nat.mul_le_mul_left _ h2
    have a3 : D' * (D * (val r' + val (r' + 1))) ≤ D' * (D * (val (r - 1) + val r)) := Nat.mul_le_mul_left _ (Nat.mul_le_mul_left _ (by omega))
    have a4 : D' * (2 * N) ≤ D * (2 * N') := by
      have e1 : D' * (2 * N) = 2 * (N * D') := by rw [Nat.mul_left_comm, Nat.mul_comm D' N]
      have e2 : D * (2 * N') = 2 * (N' * D) := by rw [Nat.mul_left_comm, Nat.mul_comm D N']
      omega
    have a5 : D * (D' * (val r' + val (r' + 1))) = D' * (D * (val r' + val (r' + 1))) := Nat.mul_left_comm ..
    have hs : val r' + val (r' + 1) = val (r - 1) + val r := by
      have : D' * (D * (val r' + val (r' + 1))) = D' * (D * (val (r - 1) + val r)) := by omega
      exact Nat.eq_of_mul_eq_mul_left hD (Nat.eq_of_mul_eq_mul_left hD' this)
    have hv : r' = r - 1 := val_inj (by omega)
    by_cases ho : r % 2 = 1
    · have b := (h.odd ho).1
      have : D' * (D * (val (r - 1) + val r)) < D' * (2 * N) := Nat.mul_lt_mul_of_pos_left b hD'
      omega
    · have b := (h'.odd (by omega)).2
      have : D * (2 * N') < D * (D' * (val r' + val (r' + 1))) := Nat.mul_lt_mul_of_pos_left b hD
      omega
  · exact hge

theorem near_unique {N D r N' D' r' : Nat} (h : Near N D r) (h' : Near N' D' r') (hD : 0 < D) (hD' : 0 < D') (he : N * D' = N' * D) : r = r' :=
  Nat.le_antisymm (near_mono h h' hD hD' (Nat.le_of_eq he)) (near_mono h' h hD' hD (Nat.le_of_eq he.symm))

theorem near_congr {N D N' D' r : Nat} (h : Near N D r) (hD : 0 < D) (hD' : 0 < D') (he : N * D' = N' * D) : Near N' D' r := by
  have e : D' * (2 * N) = D * (2 * N') := by
    have e1 : D' * (2 * N) = 2 * (N * D') := by rw [Nat.mul_left_comm, Nat.mul_comm D' N]
    have e2 : D * (2 * N') = 2 * (N' * D) := by rw [Nat.mul_left_comm, Nat.mul_comm D N']
    omega
  refine ⟨fun h0 => ?_, ?_, fun ho => ⟨?_, ?_⟩⟩
  · have := Nat.mul_le_mul_left D' (h.lo h0)
    rw [e, Nat.mul_left_comm D' D] at this
    exact Nat.le_of_mul_le_mul_left this hD
  · have := Nat.mul_le_mul_left D' h.hi
    rw [e, Nat.mul_left_comm D' D] at this
    exact Nat.le_of_mul_le_mul_left this hD
  · have := Nat.mul_lt_mul_of_pos_left (h.odd ho).1 hD'
    rw [e, Nat.mul_left_comm D' D] at this
    exact Nat.lt_of_mul_lt_mul_left this
  · have := Nat.mul_lt_mul_of_pos_left (h.odd ho).2 hD'
    rw [e, Nat.mul_left_comm D' D] at this
    exact Nat.lt_of_mul_lt_mul_left this

theorem near_exact (D r : Nat) (hD : 0 < D) : Near (val r * D) D r := by
  have e : 2 * (val r * D) = D * (val r + val r) := by rw [← Nat.two_mul, Nat.mul_comm (val r) D, Nat.mul_left_comm]
  have h1 := val_lt_succ r
  refine ⟨fun h0 => ?_, ?_, fun ho => ⟨?_, ?_⟩⟩
  · have : val (r - 1) < val r := val_lt (by omega)
    rw [e]; exact Nat.mul_le_mul_left _ (by omega)
  · rw [e]; exact Nat.mul_le_mul_left _ (by omega)
  · have : val (r - 1) < val r := val_lt (by omega)
    rw [e]; exact Nat.mul_lt_mul_of_pos_left (by omega) hD
  · rw [e]; exact Nat.mul_lt_mul_of_pos_left (by omega) hD

/-- Cut to 53 digits and rounded. -/
def rnd (m rest U : Nat) : Nat := m + (if U < 2 * rest ∨ U = 2 * rest ∧ m % 2 = 1 then 1 else 0)

theorem near_round (N D e m rest : Nat) (hD : 0 < D) (hN : N = m * (D * 2 ^ e) + rest) (hr : rest < D * 2 ^ e) (hm : m < 9007199254740992) (he : 4503599627370496 ≤ m ∨ e = 0) :
    Near N D (e * 4503599627370496 + rnd m rest (D * 2 ^ e)) := by
  have v0 := val_em e m he (by omega)
  have v1 := val_em e (m + 1) (by omega) (by omega)
  generalize hU : D * 2 ^ e = U at hN hr ⊢
  have w0 : D * val (e * 4503599627370496 + m) = m * U := by rw [v0, ← hU, Nat.mul_left_comm]
  have w1 : D * val (e * 4503599627370496 + m + 1) = m * U + U := by
    rw [Nat.add_assoc, v1, ← hU, Nat.mul_left_comm, Nat.add_mul, Nat.one_mul]
  have hpar : (e * 4503599627370496 + m) % 2 = m % 2 := by omega
  obtain ⟨k, hk⟩ : ∃ k, k = e * 4503599627370496 + m := ⟨_, rfl⟩
  rw [← hk] at w0 w1 hpar
  by_cases hup : U < 2 * rest ∨ U = 2 * rest ∧ m % 2 = 1
  · have er : e * 4503599627370496 + rnd m rest U = k + 1 := by unfold rnd; rw [if_pos hup]; omega
    rw [er]
    have h2 : D * val (k + 1) < D * val (k + 1 + 1) := Nat.mul_lt_mul_of_pos_left (val_lt_succ _) hD
    refine ⟨fun _ => ?_, ?_, fun ho => ⟨?_, ?_⟩⟩
    · show D * (val k + val (k + 1)) ≤ _
      rw [Nat.mul_add, w0, w1, hN]; omega
    · rw [Nat.mul_add, hN]; omega
    · show D * (val k + val (k + 1)) < _
      rw [Nat.mul_add, w0, w1, hN]
      omega
    · rw [Nat.mul_add, hN]; omega
  · have er : e * 4503599627370496 + rnd m rest U = k := by unfold rnd; rw [if_neg hup]; omega
    rw [er]
    refine ⟨fun h0 => ?_, ?_, fun ho => ⟨?_, ?_⟩⟩
    · have : D * val (k - 1) ≤ D * val k := Nat.mul_le_mul_left _ (val_le (by omega))
      rw [Nat.mul_add, hN]; omega
    · rw [Nat.mul_add, w0, w1, hN]; omega
    · have : D * val (k - 1) < D * val k := Nat.mul_lt_mul_of_pos_left (val_lt (by omega)) hD
      rw [Nat.mul_add, hN]; omega
    · rw [Nat.mul_add, w0, w1, hN]; omega
end Go.Proofs.Ytnccgpdniigekaa
/-
  Plain: words of 64-bit floats: what they stand for, how they compare, what is written for a number.
-/
namespace Go.Proofs.Ytnccgpdniigekaa
set_option linter.unusedVariables false
set_option linter.unusedSimpArgs false

def INF : Nat := 9218868437227405312
def wd (neg : Bool) (r : Nat) : Nat := if neg then 9223372036854775808 + r else r
def ng (b : Nat) : Bool := b / 9223372036854775808 % 2 == 1
def rg (b : Nat) : Nat := b % 9223372036854775808
/-- A finite word's value, with its sign. -/
def sv (b : Nat) : Int := if ng b then -(val (rg b) : Int) else val (rg b)
def Fin64 (b : Nat) : Prop := rg b < INF
def Num64 (b : Nat) : Prop := rg b ≤ INF

theorem d_sign : Ieee.double.signWeight = 9223372036854775808 := by decide
theorem d_binade : Ieee.double.binade = 4503599627370496 := by decide
theorem d_inf : Ieee.double.infRung = INF := by decide
theorem d_least : Ieee.double.leastPlace = -1074 := by decide
theorem d_frac : Ieee.double.fractionBits = 52 := rfl
theorem d_word (neg : Bool) (r : Nat) : Ieee.double.word neg r = wd neg r := by unfold Ieee.Format.word wd; rw [d_sign]

theorem rg_wd (neg : Bool) {r : Nat} (h : r < 9223372036854775808) : rg (wd neg r) = r := by unfold rg wd; split <;> omega
theorem ng_wd (neg : Bool) {r : Nat} (h : r < 9223372036854775808) : ng (wd neg r) = neg := by
  cases neg
  · have : r / 9223372036854775808 % 2 = 0 := by omega
    simp [ng, wd, this]
  · have : (9223372036854775808 + r) / 9223372036854775808 % 2 = 1 := by omega
    show ((9223372036854775808 + r) / 9223372036854775808 % 2 == 1) = true
    rw [this]; rfl
theorem read_fin {b : Nat} (h : Fin64 b) : Ieee.double.read b = .number (ng b) (mg (rg b)) (-1074 + (pl (rg b) : Nat)) := by
  unfold Ieee.Format.read
  rw [d_sign, d_binade, d_inf, d_least]
  show (if rg b < 4503599627370496 then _ else if rg b < INF then _ else _) = _
  by_cases h1 : rg b < 4503599627370496
  · have e1 : mg (rg b) = rg b := by unfold mg; rw [if_pos h1]
    have e2 : pl (rg b) = 0 := by unfold pl; omega
    rw [if_pos h1, e1, e2]; rfl
  · have e1 : mg (rg b) = 4503599627370496 + rg b % 4503599627370496 := by unfold mg; rw [if_neg h1]
    rw [if_neg h1, if_pos (show rg b < INF from h), e1]; rfl
theorem read_inf {b : Nat} (h : rg b = INF) : Ieee.double.read b = .infinity (ng b) := by
  unfold Ieee.Format.read
  rw [d_sign, d_binade, d_inf, d_least]
  show (if rg b < 4503599627370496 then _ else if rg b < INF then _ else if rg b = INF then _ else _) = _
  have hi : INF = 9218868437227405312 := rfl
  rw [if_neg (by omega), if_neg (by omega), if_pos h]; rfl
theorem read_nan {b : Nat} (h : INF < rg b) : Ieee.double.read b = .nan (ng b) (rg b - INF) := by
  unfold Ieee.Format.read
  rw [d_sign, d_binade, d_inf, d_least]
  show (if rg b < 4503599627370496 then _ else if rg b < INF then _ else if rg b = INF then _ else _) = _
  have hi : INF = 9218868437227405312 := rfl
  rw [if_neg (by omega), if_neg (by omega), if_neg (by omega)]; rfl

theorem cut_even (neg : Bool) (n drop : Nat) : Ieee.Toward.even.cut neg n drop = rnd (n / 2 ^ drop) (n % 2 ^ drop) (2 ^ drop) := by
  have base : ∀ k, n / 2 ^ k + (decide (2 ^ k < 2 * (n % 2 ^ k)) || (2 ^ k == 2 * (n % 2 ^ k) && n / 2 ^ k % 2 == 1)).toNat = rnd (n / 2 ^ k) (n % 2 ^ k) (2 ^ k) := by
    intro k
    generalize n / 2 ^ k = a
    generalize n % 2 ^ k = c
    generalize 2 ^ k = g
    unfold rnd
    by_cases h1 : g < 2 * c
    · simp [h1]
    · by_cases h2 : g = 2 * c
      · by_cases h3 : a % 2 = 1
        · simp [h2, h3]
        · simp [h2, h3]
      · simp [h1, h2]
  unfold Ieee.Toward.cut
  dsimp only
  rw [Nat.one_shiftLeft]
  by_cases hd : drop ≤ n.log2 + 2
  · rw [Nat.min_eq_left hd]; exact base drop
  · rw [Nat.min_eq_right (by omega)]
    have h1 : n < 2 ^ (n.log2 + 1) := Nat.lt_log2_self
    have h2 : 2 ^ (n.log2 + 2) = 2 ^ (n.log2 + 1) * 2 := Nat.pow_succ ..
    have h3 : 2 ^ (n.log2 + 2) ≤ 2 ^ drop := Nat.pow_le_pow_right (by omega) (by omega)
    rw [base]
    rw [Nat.div_eq_of_lt (by omega), Nat.mod_eq_of_lt (by omega), Nat.div_eq_of_lt (by omega), Nat.mod_eq_of_lt (by omega)]
    unfold rnd
    rw [if_neg (by omega), if_neg (by omega)]

theorem near_zero (D : Nat) : Near 0 D 0 := ⟨fun h => absurd h (by omega), by omega, fun h => absurd h (by omega)⟩

theorem nearest_near (neg : Bool) (mag : Nat) (place : Int) : ∃ r, Ieee.double.nearest neg mag place = wd neg (min r INF) ∧ Near (mag * 2 ^ (place + 1074).toNat) (2 ^ (-1074 - place).toNat) r := by
  unfold Ieee.Format.nearest
  rw [d_least, d_frac, d_binade, d_inf]
  by_cases h0 : mag = 0
  · subst h0
    refine ⟨0, ?_, ?_⟩
    · rw [if_pos rfl, d_word]; rfl
    · rw [Nat.zero_mul]; exact near_zero _
  rw [if_neg h0]
  dsimp only
  have hl1 : 2 ^ mag.log2 ≤ mag := Nat.log2_self_le h0
  have hl2 : mag < 2 ^ (mag.log2 + 1) := Nat.lt_log2_self
  generalize hL : mag.log2 = L at hl1 hl2 ⊢
  obtain ⟨last, hlast⟩ : ∃ last : Int, last = max (place + (L : Int) - (52 : Nat)) (-1074) := ⟨_, rfl⟩
  rw [← hlast, cut_even]
  have hp52 : (2 : Nat) ^ 52 = 4503599627370496 := by decide
  have hp53 : (2 : Nat) ^ 53 = 9007199254740992 := by decide
  obtain ⟨e, he⟩ : ∃ e : Nat, last = (e : Int) - 1074 := ⟨(last + 1074).toNat, by omega⟩
  have e1 : (last - -1074).toNat = e := by omega
  rw [e1]
  by_cases hc : last ≤ place
  · -- nothing is dropped
    have d0 : (last - place).toNat = 0 := by omega
    obtain ⟨up, hup⟩ : ∃ up : Nat, place = last + up := ⟨(place - last).toNat, by omega⟩
    have e2 : (place - last).toNat = up := by omega
    rw [d0, e2, Nat.shiftLeft_eq]
    refine ⟨_, d_word _ _, ?_⟩
    have e3 : (place + 1074).toNat = up + e := by omega
    have e4 : (-1074 - place).toNat = 0 := by omega
    rw [e3, e4]
    have hb : mag * 2 ^ up < 9007199254740992 := by
      have : mag * 2 ^ up < 2 ^ (L + 1) * 2 ^ up := Nat.mul_lt_mul_of_pos_right hl2 (p2pos up)
      rw [← Nat.pow_add] at this
      have : (2 : Nat) ^ (L + 1 + up) ≤ 2 ^ 53 := Nat.pow_le_pow_right (by omega) (by omega)
      omega
    have hg : 4503599627370496 ≤ mag * 2 ^ up ∨ e = 0 := by
      by_cases h : e = 0
      · exact .inr h
      · left
        have : 2 ^ L * 2 ^ up ≤ mag * 2 ^ up := Nat.mul_le_mul_right _ hl1
        rw [← Nat.pow_add] at this
        have : (2 : Nat) ^ 52 ≤ 2 ^ (L + up) := Nat.pow_le_pow_right (by omega) (by omega)
        omega
    have hn := near_round (mag * 2 ^ (up + e)) (2 ^ 0) e (mag * 2 ^ up) 0 (by decide) (by rw [Nat.pow_add, Nat.pow_zero, Nat.one_mul, Nat.mul_assoc]; rfl) (by rw [Nat.pow_zero, Nat.one_mul]; exact p2pos e) hb hg
    have er : rnd (mag * 2 ^ up) 0 (2 ^ 0 * 2 ^ e) = mag * 2 ^ up := by
      unfold rnd; have := p2pos e; rw [if_neg (by omega)]; rfl
    have er2 : rnd (mag * 2 ^ up / 2 ^ 0) (mag * 2 ^ up % 2 ^ 0) (2 ^ 0) = mag * 2 ^ up := by
      rw [Nat.pow_zero, Nat.div_one, Nat.mod_one]; rfl
    rw [er] at hn; rw [er2]; exact hn
  · -- some digits are dropped
    obtain ⟨drop, hdrop⟩ : ∃ drop : Nat, last = place + drop := ⟨(last - place).toNat, by omega⟩
    have d1 : (last - place).toNat = drop := by omega
    have d0 : (place - last).toNat = 0 := by omega
    rw [d1, d0, Nat.shiftLeft_zero]
    refine ⟨_, d_word _ _, ?_⟩
    have hdm := Nat.div_add_mod mag (2 ^ drop)
    have hr := Nat.mod_lt mag (p2pos drop)
    have hb : mag / 2 ^ drop < 9007199254740992 := by
      rw [Nat.div_lt_iff_lt_mul (p2pos drop), ← hp53, ← Nat.pow_add]
      have : (2 : Nat) ^ (L + 1) ≤ 2 ^ (53 + drop) := Nat.pow_le_pow_right (by omega) (by omega)
      omega
    have hg : 4503599627370496 ≤ mag / 2 ^ drop ∨ e = 0 := by
      by_cases h : e = 0
      · exact .inr h
      · left
        rw [Nat.le_div_iff_mul_le (p2pos drop), ← hp52, ← Nat.pow_add]
        have : (2 : Nat) ^ (52 + drop) ≤ 2 ^ L := Nat.pow_le_pow_right (by omega) (by omega)
        omega
    obtain ⟨q, hq⟩ : ∃ q, q = mag / 2 ^ drop := ⟨_, rfl⟩
    obtain ⟨s, hs⟩ : ∃ s, s = mag % 2 ^ drop := ⟨_, rfl⟩
    rw [← hq] at hb hg hdm
    rw [← hs] at hr hdm
    rw [← hq, ← hs]
    obtain ⟨up, hup⟩ : ∃ up : Nat, up = (place + 1074).toNat := ⟨_, rfl⟩
    obtain ⟨dn, hdn⟩ : ∃ dn : Nat, dn = (-1074 - place).toNat := ⟨_, rfl⟩
    rw [← hup, ← hdn]
    have hsum : dn + e = drop + up := by omega
    have hU : 2 ^ dn * 2 ^ e = 2 ^ drop * 2 ^ up := by rw [← Nat.pow_add, ← Nat.pow_add, hsum]
    have hn := near_round (mag * 2 ^ up) (2 ^ dn) e q (s * 2 ^ up) (p2pos dn)
      (by rw [hU, ← hdm, Nat.add_mul, Nat.mul_comm (2 ^ drop) q, Nat.mul_assoc])
      (by rw [hU]; exact Nat.mul_lt_mul_of_pos_right hr (p2pos up)) hb hg
    have er : rnd q (s * 2 ^ up) (2 ^ dn * 2 ^ e) = rnd q s (2 ^ drop) := by
      rw [hU]
      have hpu := p2pos up
      have e5 : 2 * (s * 2 ^ up) = 2 * s * 2 ^ up := by rw [Nat.mul_assoc]
      unfold rnd
      rw [e5]
      have c1 : 2 ^ drop * 2 ^ up < 2 * s * 2 ^ up ↔ 2 ^ drop < 2 * s := Nat.mul_lt_mul_right hpu
      have c2 : 2 ^ drop * 2 ^ up = 2 * s * 2 ^ up ↔ 2 ^ drop = 2 * s := Nat.mul_left_inj (by omega)
      simp only [c1, c2]
    rw [er] at hn; exact hn
end Go.Proofs.Ytnccgpdniigekaa
/-
  Plain: comparisons, products, sums and conversions of 64-bit floats, by their values.
-/
namespace Go.Proofs.Ytnccgpdniigekaa
set_option linter.unusedVariables false
set_option linter.unusedSimpArgs false

/-- One, in units of the least place. -/
def Q : Nat := 1074
theorem Q_eq : Q = 1074 := rfl
attribute [irreducible] Q
def S : Nat := 2 ^ Q
theorem S_pos : 0 < S := Nat.two_pow_pos _
theorem S_eq : S = 2 ^ Q := rfl
attribute [irreducible] S

/-- A number with its sign. -/
def sg (neg : Bool) (n : Nat) : Int := if neg then -(n : Int) else n
theorem sv_eq (b : Nat) : sv b = sg (ng b) (val (rg b)) := rfl
theorem sg_natAbs (neg : Bool) (n : Nat) : (sg neg n).natAbs = n := by cases neg <;> simp [sg]
theorem sg_mul (neg : Bool) (n k : Nat) : sg neg (n * k) = sg neg n * (k : Int) := by
  cases neg
  · show ((n * k : Nat) : Int) = (n : Int) * k; simp
  · show -((n * k : Nat) : Int) = -(n : Int) * k; simp [Int.neg_mul]
theorem signed_eq (neg : Bool) (m up : Nat) : Ieee.signed neg m up = sg neg (m * 2 ^ up) := by
  unfold Ieee.signed sg; rw [Nat.shiftLeft_eq]

/-- Two finite words' values, over one base. -/
theorem signed_base (s : Bool) (r k : Nat) (hk : k ≤ pl r) : Ieee.signed s (mg r) ((-1074 + (pl r : Int)) - (-1074 + (k : Int))).toNat * ((2 ^ k : Nat) : Int) = sg s (val r) := by
  have e : ((-1074 + (pl r : Int)) - (-1074 + (k : Int))).toNat = pl r - k := by omega
  rw [e, signed_eq, ← sg_mul, Nat.mul_assoc, ← Nat.pow_add]
  have : pl r - k + k = pl r := by omega
  rw [this]; rfl

theorem compare_mul (x y : Int) (c : Nat) (hc : 0 < c) : compare (x * (c : Int)) (y * (c : Int)) = compare x y := by
  have hc' : (0 : Int) < c := by omega
  rcases Int.lt_trichotomy x y with h | h | h
  · have h2 : x * (c : Int) < y * c := Int.mul_lt_mul_of_pos_right h hc'
    rw [Int.compare_eq_lt.2 h2, Int.compare_eq_lt.2 h]
  · subst h; rw [Int.compare_eq_eq.2 rfl, Int.compare_eq_eq.2 rfl]
  · have h2 : y * (c : Int) < x * c := Int.mul_lt_mul_of_pos_right h hc'
    rw [Int.compare_eq_gt.2 h2, Int.compare_eq_gt.2 h]

theorem min_base (a b : Nat) : min (-1074 + (a : Int)) (-1074 + (b : Int)) = -1074 + ((min a b : Nat) : Int) := by omega

theorem order_fin {a b : Nat} (ha : Fin64 a) (hb : Fin64 b) : Ieee.double.order a b = some (compare (sv a) (sv b)) := by
  unfold Ieee.Format.order
  rw [read_fin ha, read_fin hb]
  unfold Ieee.Datum.order
  dsimp only
  rw [min_base]
  rw [← compare_mul _ _ (2 ^ min (pl (rg a)) (pl (rg b))) (p2pos _), signed_base _ _ _ (Nat.min_le_left ..), signed_base _ _ _ (Nat.min_le_right ..)]
  rfl

theorem sv_fin_lt {a : Nat} (ha : Fin64 a) : -(val INF : Int) < sv a ∧ sv a < val INF := by
  have h1 : val (rg a) < val INF := val_lt ha
  unfold sv; split <;> omega
theorem sv_inf {a : Nat} (ha : rg a = INF) : sv a = if ng a then -(val INF : Int) else val INF := by unfold sv; rw [ha]
theorem vinf_pos : 0 < val INF := val_pos (by decide)

theorem order_num {a b : Nat} (ha : Num64 a) (hb : Num64 b) : Ieee.double.order a b = some (compare (sv a) (sv b)) := by
  have hv := vinf_pos
  rcases Nat.lt_or_eq_of_le ha with ha' | ha' <;> rcases Nat.lt_or_eq_of_le hb with hb' | hb'
  · exact order_fin ha' hb'
  · unfold Ieee.Format.order
    rw [read_fin ha', read_inf hb']
    have h1 := sv_fin_lt ha'
    rw [sv_inf hb']
    unfold Ieee.Datum.order
    cases hng : ng b
    · rw [Int.compare_eq_lt.2 (by simp; omega)]; rfl
    · rw [Int.compare_eq_gt.2 (by simp; omega)]; rfl
  · unfold Ieee.Format.order
    rw [read_inf ha', read_fin hb']
    have h1 := sv_fin_lt hb'
    rw [sv_inf ha']
    unfold Ieee.Datum.order
    cases hng : ng a
    · rw [Int.compare_eq_gt.2 (by simp; omega)]; rfl
    · rw [Int.compare_eq_lt.2 (by simp; omega)]; rfl
  · unfold Ieee.Format.order
    rw [read_inf ha', read_inf hb', sv_inf ha', sv_inf hb']
    unfold Ieee.Datum.order
    cases hna : ng a <;> cases hnb : ng b
    · rw [Int.compare_eq_eq.2 rfl]; rfl
    · rw [Int.compare_eq_gt.2 (by simp; omega)]; rfl
    · rw [Int.compare_eq_lt.2 (by simp; omega)]; rfl
    · rw [Int.compare_eq_eq.2 rfl]; rfl

theorem order_nan {a b : Nat} (h : ¬ Num64 a ∨ ¬ Num64 b) : Ieee.double.order a b = none := by
  unfold Ieee.Format.order
  rcases h with h | h
  · rw [read_nan (by unfold Num64 at h; omega)]; rfl
  · rw [read_nan (b := b) (by unfold Num64 at h; omega)]
    cases Ieee.double.read a <;> rfl

theorem lss_num {a b : Nat} (ha : Num64 a) (hb : Num64 b) : (Ieee.double.order a b == some .lt) = decide (sv a < sv b) := by
  rw [order_num ha hb]
  rcases Int.lt_trichotomy (sv a) (sv b) with h | h | h
  · rw [Int.compare_eq_lt.2 h]; simp [h]
  · rw [Int.compare_eq_eq.2 h]; simp [h]
  · rw [Int.compare_eq_gt.2 h]; simp; omega
theorem gtr_num {a b : Nat} (ha : Num64 a) (hb : Num64 b) : (Ieee.double.order a b == some .gt) = decide (sv b < sv a) := by
  rw [order_num ha hb]
  rcases Int.lt_trichotomy (sv a) (sv b) with h | h | h
  · rw [Int.compare_eq_lt.2 h]; simp; omega
  · rw [Int.compare_eq_eq.2 h]; simp [h]
  · rw [Int.compare_eq_gt.2 h]; simp [h]
theorem eql_num {a b : Nat} (ha : Num64 a) (hb : Num64 b) : (Ieee.double.order a b == some .eq) = decide (sv a = sv b) := by
  rw [order_num ha hb]
  rcases Int.lt_trichotomy (sv a) (sv b) with h | h | h
  · rw [Int.compare_eq_lt.2 h]; simp; omega
  · rw [Int.compare_eq_eq.2 h]; simp [h]
  · rw [Int.compare_eq_gt.2 h]; simp; omega
theorem geq_num {a b : Nat} (ha : Num64 a) (hb : Num64 b) : (Ieee.double.order a b == some .gt || Ieee.double.order a b == some .eq) = decide (sv b ≤ sv a) := by
  rw [gtr_num ha hb, eql_num ha hb]
  by_cases h : sv b ≤ sv a
  · by_cases h2 : sv b < sv a
    · simp [h, h2]
    · have : sv a = sv b := by omega
      simp [this]
  · simp [h]; omega
theorem leq_num {a b : Nat} (ha : Num64 a) (hb : Num64 b) : (Ieee.double.order a b == some .lt || Ieee.double.order a b == some .eq) = decide (sv a ≤ sv b) := by
  rw [lss_num ha hb, eql_num ha hb]
  by_cases h : sv a ≤ sv b
  · by_cases h2 : sv a < sv b
    · simp [h, h2]
    · have : sv a = sv b := by omega
      simp [this]
  · simp [h]; omega

/-- What is written for a number: the nearest. -/
theorem write_near (neg : Bool) (mag : Nat) (place : Int) (N D : Nat) (hD : 0 < D) (he : mag * 2 ^ (place + 1074).toNat * D = N * 2 ^ (-1074 - place).toNat) :
    ∃ r, Ieee.double.write (.number neg mag place) = wd neg (min r INF) ∧ Near N D r := by
  obtain ⟨r, h1, h2⟩ := nearest_near neg mag place
  exact ⟨r, h1, near_congr h2 (p2pos _) hD he⟩

theorem mul_fin {a b : Nat} (ha : Fin64 a) (hb : Fin64 b) : ∃ r, Ieee.double.mul a b = some (wd (ng a ^^ ng b) (min r INF)) ∧ Near (val (rg a) * val (rg b)) S r := by
  unfold Ieee.Format.mul
  rw [read_fin ha, read_fin hb]
  obtain ⟨r, h1, h2⟩ := write_near (ng a ^^ ng b) (mg (rg a) * mg (rg b)) (-1074 + (pl (rg a) : Int) + (-1074 + (pl (rg b) : Int))) (val (rg a) * val (rg b)) S S_pos (by
    obtain ⟨up, hup⟩ : ∃ up : Nat, up = (-1074 + (pl (rg a) : Int) + (-1074 + (pl (rg b) : Int)) + 1074).toNat := ⟨_, rfl⟩
    obtain ⟨dn, hdn⟩ : ∃ dn : Nat, dn = (-1074 - (-1074 + (pl (rg a) : Int) + (-1074 + (pl (rg b) : Int)))).toNat := ⟨_, rfl⟩
    rw [← hup, ← hdn, S_eq]
    unfold val
    have : up + Q = pl (rg a) + pl (rg b) + dn := by have := Q_eq; omega
    have e : 2 ^ up * 2 ^ Q = 2 ^ pl (rg a) * 2 ^ pl (rg b) * 2 ^ dn := by rw [← Nat.pow_add, ← Nat.pow_add, ← Nat.pow_add, this]
    rw [Nat.mul_assoc, e]; ac_rfl
    )
  exact ⟨r, by rw [← h1]; rfl, h2⟩
theorem sg_add_natAbs (x : Int) : sg (decide (x < 0)) x.natAbs = x := by
  unfold sg; by_cases h : x < 0
  · simp [h]; omega
  · simp [h]; omega

/-- The sign that a sum of two has. -/
def sumNeg (s t : Bool) (x : Int) : Bool := if x = 0 then s && t else decide (x < 0)

theorem add_core (s t : Bool) (r u : Nat) : ∃ q, (Ieee.Datum.sum (.number s (mg r) (-1074 + (pl r : Int))) (.number t (mg u) (-1074 + (pl u : Int)))).map Ieee.double.write = some (wd (sumNeg s t (sg s (val r) + sg t (val u))) (min q INF)) ∧ Near (sg s (val r) + sg t (val u)).natAbs 1 q := by
  unfold Ieee.Datum.sum
  dsimp only
  rw [min_base]
  obtain ⟨k, hk⟩ : ∃ k, k = min (pl r) (pl u) := ⟨_, rfl⟩
  rw [← hk]
  have h1 := signed_base s r k (by omega)
  have h2 := signed_base t u k (by omega)
  obtain ⟨x, hx⟩ : ∃ x, x = Ieee.signed s (mg r) ((-1074 + (pl r : Int)) - (-1074 + (k : Int))).toNat := ⟨_, rfl⟩
  obtain ⟨y, hy⟩ : ∃ y, y = Ieee.signed t (mg u) ((-1074 + (pl u : Int)) - (-1074 + (k : Int))).toNat := ⟨_, rfl⟩
  rw [← hx] at h1 ⊢
  rw [← hy] at h2 ⊢
  have hp := p2pos k
  have hsum : sg s (val r) + sg t (val u) = (x + y) * ((2 ^ k : Nat) : Int) := by rw [← h1, ← h2, Int.add_mul]
  have hneg : sumNeg s t (sg s (val r) + sg t (val u)) = if x + y = 0 then s && t else decide (x + y < 0) := by
    rw [hsum]
    unfold sumNeg
    have hp' : (0 : Int) < ((2 ^ k : Nat) : Int) := by omega
    by_cases h0 : x + y = 0
    · simp [h0]
    · have hne : (x + y) * ((2 ^ k : Nat) : Int) ≠ 0 := fun h => (Int.mul_eq_zero.1 h).elim h0 (by omega)
      rw [if_neg hne, if_neg h0]
      by_cases hl : x + y < 0
      · have : (x + y) * ((2 ^ k : Nat) : Int) < 0 := Int.mul_neg_of_neg_of_pos hl hp'
        rw [decide_eq_true this, decide_eq_true hl]
      · have : ¬ (x + y) * ((2 ^ k : Nat) : Int) < 0 := by
          have := Int.mul_nonneg (by omega : 0 ≤ x + y) (by omega : (0 : Int) ≤ ((2 ^ k : Nat) : Int)); omega
        rw [decide_eq_false this, decide_eq_false hl]
  rw [hneg]
  obtain ⟨q, h3, h4⟩ := write_near (if x + y = 0 then s && t else decide (x + y < 0)) (x + y).natAbs (-1074 + (k : Int)) (sg s (val r) + sg t (val u)).natAbs 1 (by decide) (by
    have e1 : (-1074 + (k : Int) + 1074).toNat = k := by omega
    have e2 : (-1074 - (-1074 + (k : Int))).toNat = 0 := by omega
    rw [e1, e2, hsum, Int.natAbs_mul, Int.natAbs_natCast])
  exact ⟨q, by rw [← h3]; rfl, h4⟩

theorem add_fin {a b : Nat} (ha : Fin64 a) (hb : Fin64 b) : ∃ q, Ieee.double.add a b = some (wd (sumNeg (ng a) (ng b) (sv a + sv b)) (min q INF)) ∧ Near (sv a + sv b).natAbs 1 q := by
  unfold Ieee.Format.add
  rw [read_fin ha, read_fin hb]
  exact add_core (ng a) (ng b) (rg a) (rg b)

theorem sg_not (s : Bool) (n : Nat) : sg (!s) n = -sg s n := by cases s <;> simp [sg]

theorem sub_fin {a b : Nat} (ha : Fin64 a) (hb : Fin64 b) : ∃ q, Ieee.double.sub a b = some (wd (sumNeg (ng a) (!ng b) (sv a - sv b)) (min q INF)) ∧ Near (sv a - sv b).natAbs 1 q := by
  unfold Ieee.Format.sub
  rw [read_fin ha, read_fin hb]
  have h := add_core (ng a) (!ng b) (rg a) (rg b)
  rw [sg_not] at h
  exact h

/-- A whole number as a float. -/
theorem nearest_int (n : Int) : ∃ q, Ieee.double.write (.number (n < 0) n.natAbs 0) = wd (decide (n < 0)) (min q INF) ∧ Near (n.natAbs * S) 1 q :=
  write_near _ _ _ _ _ (by decide) (by
    have e1 : ((0 : Int) + 1074).toNat = Q := by have := Q_eq; omega
    have e2 : ((-1074 : Int) - 0).toNat = 0 := by omega
    rw [e1, e2, S_eq])
end Go.Proofs.Ytnccgpdniigekaa
/-
  Plain: floats and whole numbers; what is exact.
-/
namespace Go.Proofs.Ytnccgpdniigekaa
set_option linter.unusedVariables false
set_option linter.unusedSimpArgs false

theorem INF_lit : INF = 9218868437227405312 := rfl
theorem rg_of {s : Bool} {r : Nat} (h : r ≤ INF) : rg (wd s r) = r := rg_wd s (by rw [INF_lit] at h; omega)
theorem ng_of {s : Bool} {r : Nat} (h : r ≤ INF) : ng (wd s r) = s := ng_wd s (by rw [INF_lit] at h; omega)
theorem sv_of {s : Bool} {r : Nat} (h : r ≤ INF) : sv (wd s r) = sg s (val r) := by rw [sv_eq, rg_of h, ng_of h]
theorem fin_of {s : Bool} {r : Nat} (h : r < INF) : Fin64 (wd s r) := by unfold Fin64; rw [rg_of (by omega)]; exact h
theorem num_of {s : Bool} {r : Nat} (h : r ≤ INF) : Num64 (wd s r) := by unfold Num64; rw [rg_of h]; exact h
theorem Fin64.num {b : Nat} (h : Fin64 b) : Num64 b := Nat.le_of_lt h
theorem wd_lt {s : Bool} {r : Nat} (h : r ≤ INF) : wd s r < 18446744073709551616 := by rw [INF_lit] at h; unfold wd; split <;> omega
theorem wd_pos (r : Nat) : wd false r = r := rfl

theorem near_self {r q D : Nat} (h : Near (val r * D) D q) (hD : 0 < D) : q = r := near_unique h (near_exact D r hD) hD hD rfl

/-- A number that the format has is written as it is. -/
theorem write_exact (neg : Bool) (mag : Nat) (place : Int) (r : Nat) (hr : r ≤ INF) (he : mag * 2 ^ (place + 1074).toNat = val r * 2 ^ (-1074 - place).toNat) :
    Ieee.double.write (.number neg mag place) = wd neg r := by
  obtain ⟨q, h1, h2⟩ := nearest_near neg mag place
  rw [he] at h2
  have := near_self h2 (p2pos _)
  subst this
  have e : min q INF = q := Nat.min_eq_left hr
  rw [e] at h1; exact h1

theorem mul_exact {a b r : Nat} (ha : Fin64 a) (hb : Fin64 b) (hr : r ≤ INF) (he : val (rg a) * val (rg b) = val r * S) : Ieee.double.mul a b = some (wd (ng a ^^ ng b) r) := by
  obtain ⟨q, h1, h2⟩ := mul_fin ha hb
  rw [he] at h2
  have := near_self h2 S_pos
  subst this
  have e : min q INF = q := Nat.min_eq_left hr
  rw [e] at h1; exact h1
theorem sub_exact {a b r : Nat} (ha : Fin64 a) (hb : Fin64 b) (hr : r ≤ INF) (he : (sv a - sv b).natAbs = val r) : Ieee.double.sub a b = some (wd (sumNeg (ng a) (!ng b) (sv a - sv b)) r) := by
  obtain ⟨q, h1, h2⟩ := sub_fin ha hb
  rw [he, ← Nat.mul_one (val r)] at h2
  have := near_self h2 (by decide)
  subst this
  have e : min q INF = q := Nat.min_eq_left hr
  rw [e] at h1; exact h1

theorem val_two_pow (j : Nat) : val ((1023 + j) * 4503599627370496) = 2 ^ j * S := by
  have h := val_em (1022 + j) 4503599627370496 (.inl (Nat.le_refl _)) (by decide)
  have e : (1022 + j) * 4503599627370496 + 4503599627370496 = (1023 + j) * 4503599627370496 := by omega
  rw [e] at h
  have hq := Q_eq
  have e2 : (4503599627370496 : Nat) = 2 ^ 52 := by decide
  rw [h, S_eq]
  have e3 : (4503599627370496 : Nat) * 2 ^ (1022 + j) = 2 ^ (52 + (1022 + j)) := by rw [Nat.pow_add 2 52, ← e2]
  rw [e3, ← Nat.pow_add]
  congr 1; omega
theorem val_one : val 4607182418800017408 = S := by have := val_two_pow 0; simpa using this
theorem val_two : val 4611686018427387904 = 2 * S := by have := val_two_pow 1; simpa using this
theorem val_63 : val 4890909195324358656 = 9223372036854775808 * S := by have := val_two_pow 63; simpa using this
theorem val_64 : val 4895412794951729152 = 18446744073709551616 * S := by have := val_two_pow 64; simpa using this
theorem val_128 : val (1151 * 4503599627370496) = 340282366920938463463374607431768211456 * S := by have := val_two_pow 128; simpa using this

theorem cut_zero (neg : Bool) (n drop : Nat) : Ieee.Toward.zero.cut neg n drop = n / 2 ^ drop := by
  unfold Ieee.Toward.cut
  dsimp only
  rw [Nat.one_shiftLeft]
  by_cases hd : drop ≤ n.log2 + 2
  · rw [Nat.min_eq_left hd]; rfl
  · rw [Nat.min_eq_right (by omega)]
    have h1 : n < 2 ^ (n.log2 + 1) := Nat.lt_log2_self
    have h2 : 2 ^ (n.log2 + 2) = 2 ^ (n.log2 + 1) * 2 := Nat.pow_succ ..
    have h3 : 2 ^ (n.log2 + 2) ≤ 2 ^ drop := Nat.pow_le_pow_right (by omega) (by omega)
    rw [Nat.div_eq_of_lt (by omega), Nat.div_eq_of_lt (by omega)]; rfl
theorem cut_down (neg : Bool) (n drop : Nat) : Ieee.Toward.down.cut neg n drop = n / 2 ^ drop + (neg && n % 2 ^ drop != 0).toNat := by
  unfold Ieee.Toward.cut
  dsimp only
  rw [Nat.one_shiftLeft]
  by_cases hd : drop ≤ n.log2 + 2
  · rw [Nat.min_eq_left hd]
  · rw [Nat.min_eq_right (by omega)]
    have h1 : n < 2 ^ (n.log2 + 1) := Nat.lt_log2_self
    have h2 : 2 ^ (n.log2 + 2) = 2 ^ (n.log2 + 1) * 2 := Nat.pow_succ ..
    have h3 : 2 ^ (n.log2 + 2) ≤ 2 ^ drop := Nat.pow_le_pow_right (by omega) (by omega)
    rw [Nat.div_eq_of_lt (by omega), Nat.div_eq_of_lt (by omega), Nat.mod_eq_of_lt (by omega), Nat.mod_eq_of_lt (by omega)]

/-- The whole part of a rung's value, as its digits are moved. -/
theorem whole_part (r : Nat) : (mg r * 2 ^ (-1074 + (pl r : Int)).toNat) / 2 ^ (-(-1074 + (pl r : Int))).toNat = val r / S ∧
    ((mg r * 2 ^ (-1074 + (pl r : Int)).toNat) % 2 ^ (-(-1074 + (pl r : Int))).toNat = 0 ↔ val r % S = 0) := by
  have hq := Q_eq
  by_cases h : Q ≤ pl r
  · have e1 : (-1074 + (pl r : Int)).toNat = pl r - Q := by omega
    have e2 : (-(-1074 + (pl r : Int))).toNat = 0 := by omega
    have e3 : val r = mg r * 2 ^ (pl r - Q) * S := by
      unfold val; rw [S_eq, Nat.mul_assoc, ← Nat.pow_add]; congr 2; omega
    rw [e1, e2, e3, Nat.pow_zero, Nat.div_one, Nat.mul_div_cancel _ S_pos, Nat.mod_one, Nat.mul_mod_left]
    exact ⟨rfl, Iff.rfl⟩
  · have e1 : (-1074 + (pl r : Int)).toNat = 0 := by omega
    have e2 : (-(-1074 + (pl r : Int))).toNat = Q - pl r := by omega
    have e3 : S = 2 ^ (Q - pl r) * 2 ^ pl r := by rw [S_eq, ← Nat.pow_add]; congr 1; omega
    rw [e1, e2, e3, Nat.pow_zero, Nat.mul_one]
    unfold val
    have hp := p2pos (pl r)
    rw [Nat.mul_div_mul_right _ _ hp, Nat.mul_mod_mul_right]
    refine ⟨rfl, fun h => by rw [h, Nat.zero_mul], fun h => ?_⟩
    rcases Nat.mul_eq_zero.1 h with h | h
    · exact h
    · omega

theorem toInt_zero {b : Nat} (h : Fin64 b) : (Ieee.double.read b).toInt .zero = some (sg (ng b) (val (rg b) / S)) := by
  rw [read_fin h]
  unfold Ieee.Datum.toInt Ieee.Datum.integral
  dsimp only
  rw [signed_eq, cut_zero, Nat.shiftLeft_eq, (whole_part (rg b)).1, Nat.pow_zero, Nat.mul_one]

/-- A whole number of so few digits, or a float's whole part, is a float. -/
theorem whole_rep (r : Nat) : ∀ c, c = val r / S ∨ c = val r / S + 1 ∧ val r % S ≠ 0 → ∃ q, val q = c * S := by
  have hq := Q_eq
  intro c hc
  by_cases h : Q ≤ pl r
  · have e3 : val r = mg r * 2 ^ (pl r - Q) * S := by
      unfold val; rw [S_eq, Nat.mul_assoc, ← Nat.pow_add]; congr 2; omega
    rcases hc with hc | ⟨_, hc⟩
    · refine ⟨r, ?_⟩
      rw [hc, e3, Nat.mul_div_cancel _ S_pos]
    · exfalso; rw [e3, Nat.mul_mod_left] at hc; exact hc rfl
  · have e3 : S = 2 ^ (Q - pl r) * 2 ^ pl r := by rw [S_eq, ← Nat.pow_add]; congr 1; omega
    have hle : val r / S ≤ mg r / 2 := by
      unfold val
      rw [e3, Nat.mul_div_mul_right _ _ (p2pos _)]
      have : Q - pl r = (Q - pl r - 1) + 1 := by omega
      rw [this, Nat.pow_succ]
      exact Nat.div_le_div_left (by have := p2pos (Q - pl r - 1); omega) (by decide)
    have hm := mg_lt r
    obtain ⟨q, hq⟩ := rep Q c (by omega)
    exact ⟨q, by rw [hq, S_eq]⟩

theorem sg_floor (s : Bool) (v : Nat) : sg s (v / S + (s && v % S != 0).toNat) = sg s v / (S : Int) := by
  have hS := S_pos
  cases s
  · show ((v / S + 0 : Nat) : Int) = (v : Int) / (S : Int)
    rw [Nat.add_zero]; exact Int.natCast_ediv ..
  · show -((v / S + (v % S != 0).toNat : Nat) : Int) = (-(v : Int)) / (S : Int)
    have hdm := Nat.div_add_mod v S
    have hlt := Nat.mod_lt v hS
    by_cases h : v % S = 0
    · have e : (v % S != 0).toNat = 0 := by simp [h]
      rw [e]
      have : -(v : Int) = -((v / S : Nat) : Int) * (S : Int) := by
        have h9 : (v : Int) = (S : Int) * ((v / S : Nat) : Int) + ((v % S : Nat) : Int) := by exact_mod_cast hdm.symm
        rw [h9, h, Int.neg_mul, Int.mul_comm]; simp
      rw [this, Int.mul_ediv_cancel _ (by omega)]; simp
    · have e : (v % S != 0).toNat = 1 := by simp [h]
      rw [e]
      have h9 : (v : Int) = (S : Int) * ((v / S : Nat) : Int) + ((v % S : Nat) : Int) := by exact_mod_cast hdm.symm
      have h8 : -(v : Int) = ((S - v % S : Nat) : Int) + (S : Int) * (-((v / S + 1 : Nat) : Int)) := by
        rw [Int.natCast_sub (Nat.le_of_lt hlt), h9, Int.mul_neg, Int.natCast_add, Int.mul_add]; simp; omega
      rw [h8, Int.add_mul_ediv_left _ _ (by omega), Int.ediv_eq_zero_of_lt (by omega) (by omega)]
      simp

/-- Rounded down. -/
theorem floor_fin {b : Nat} (h : Fin64 b) : ∃ q, Ieee.double.write ((Ieee.double.read b).integral .down) = wd (ng b) (min q INF) ∧ sg (ng b) (val q) = sv b / (S : Int) * (S : Int) := by
  rw [read_fin h]
  unfold Ieee.Datum.integral
  dsimp only
  rw [cut_down, Nat.shiftLeft_eq, (whole_part (rg b)).1]
  have hw := (whole_part (rg b)).2
  have e : (ng b && mg (rg b) * 2 ^ (-1074 + (pl (rg b) : Int)).toNat % 2 ^ (-(-1074 + (pl (rg b) : Int))).toNat != 0) = (ng b && val (rg b) % S != 0) := by
    congr 1
    by_cases h0 : val (rg b) % S = 0
    · rw [h0, hw.2 h0]
    · rw [bne_iff_ne.2 h0, bne_iff_ne.2 (fun h => h0 (hw.1 h))]
  rw [e]
  obtain ⟨c, hc⟩ : ∃ c, c = val (rg b) / S + (ng b && val (rg b) % S != 0).toNat := ⟨_, rfl⟩
  rw [← hc]
  have hcc : c = val (rg b) / S ∨ c = val (rg b) / S + 1 ∧ val (rg b) % S ≠ 0 := by
    by_cases h0 : val (rg b) % S = 0
    · left; rw [hc, h0]; simp
    · cases hn : ng b
      · left; rw [hc, hn]; simp
      · right; rw [hc, hn]; simp [h0]
  obtain ⟨q, hq⟩ := whole_rep (rg b) c hcc
  refine ⟨q, ?_, ?_⟩
  · obtain ⟨q', h1, h2⟩ := nearest_near (ng b) c 0
    have e1 : ((0 : Int) + 1074).toNat = Q := by have := Q_eq; omega
    have e2 : ((-1074 : Int) - 0).toNat = 0 := by omega
    rw [e1, e2, ← S_eq, ← hq, Nat.pow_zero, ← Nat.mul_one (val q)] at h2
    have := near_self h2 (by decide)
    subst this
    exact h1
  · rw [hq, sg_mul, hc, sg_floor]; rfl
end Go.Proofs.Ytnccgpdniigekaa
