/-
  Plain: the numbers of 64-bit floats. A rung's value (counted in units of 2^-1074), what lies nearest to a fraction.
-/
import Derived.Laws.FloatBits
namespace Go.Proofs.Ytcnhgblpeonmgaa
set_option linter.unusedVariables false
set_option linter.unusedSimpArgs false

/-- A rung's digits, and how many places they are moved. -/
def mg (r : Nat) : Nat := if r < 4503599627370496 then r else 4503599627370496 + r % 4503599627370496
def pl (r : Nat) : Nat := r / 4503599627370496 - 1
/-- A rung's value, in units of the least place. -/
def val (r : Nat) : Nat := mg r * 2 ^ pl r

theorem rung_eq (r : Nat) : r = pl r * 4503599627370496 + mg r := by
  unfold pl mg
  split <;> omega
theorem mg_lt (r : Nat) : mg r < 9007199254740992 := by unfold mg; split <;> omega
theorem mg_or (r : Nat) : 4503599627370496 ≤ mg r ∨ pl r = 0 := by unfold mg pl; split <;> omega
theorem p2pos (k : Nat) : 0 < 2 ^ k := Nat.two_pow_pos k

theorem val_em (e m : Nat) (h : 4503599627370496 ≤ m ∨ e = 0) (hm : m ≤ 9007199254740992) : val (e * 4503599627370496 + m) = m * 2 ^ e := by
  by_cases h1 : m < 4503599627370496
  · have he : e = 0 := by omega
    subst he
    have e1 : mg (0 * 4503599627370496 + m) = m := by unfold mg; rw [if_pos (by omega)]; omega
    have e2 : pl (0 * 4503599627370496 + m) = 0 := by unfold pl; omega
    unfold val; rw [e1, e2]
  · by_cases h2 : m = 9007199254740992
    · subst h2
      have e1 : mg (e * 4503599627370496 + 9007199254740992) = 4503599627370496 := by unfold mg; rw [if_neg (by omega)]; omega
      have e2 : pl (e * 4503599627370496 + 9007199254740992) = e + 1 := by unfold pl; omega
      unfold val; rw [e1, e2, Nat.pow_succ]; omega
    · have e1 : mg (e * 4503599627370496 + m) = m := by unfold mg; rw [if_neg (by omega)]; omega
      have e2 : pl (e * 4503599627370496 + m) = e := by unfold pl; omega
      unfold val; rw [e1, e2]

theorem val_succ (r : Nat) : val (r + 1) = val r + 2 ^ pl r := by
  have h := val_em (pl r) (mg r + 1) (by have := mg_or r; omega) (by have := mg_lt r; omega)
  have e : pl r * 4503599627370496 + (mg r + 1) = r + 1 := by have := rung_eq r; omega
  rw [e] at h
  rw [h, Nat.add_mul, Nat.one_mul]; rfl
theorem val_lt_succ (r : Nat) : val r < val (r + 1) := by rw [val_succ]; have := p2pos (pl r); omega
theorem val_lt {r s : Nat} (h : r < s) : val r < val s := by
  induction s with
  | zero => omega
  | succ s ih =>
    rcases Nat.lt_or_ge r s with h1 | h1
    · exact Nat.lt_trans (ih h1) (val_lt_succ s)
    · have : r = s := by omega
      subst this; exact val_lt_succ r
theorem val_le {r s : Nat} (h : r ≤ s) : val r ≤ val s := by
  rcases Nat.lt_or_ge r s with h1 | h1
  · exact Nat.le_of_lt (val_lt h1)
  · have : r = s := by omega
    subst this; exact Nat.le_refl _
theorem val_lt_iff {r s : Nat} : val r < val s ↔ r < s := by
  constructor
  · intro h; rcases Nat.lt_or_ge r s with h1 | h1
    · exact h1
    · have := val_le h1; omega
  · exact val_lt
theorem val_inj {r s : Nat} (h : val r = val s) : r = s := by
  rcases Nat.lt_trichotomy r s with h1 | h1 | h1
  · have := val_lt h1; omega
  · exact h1
  · have := val_lt h1; omega
theorem val_zero : val 0 = 0 := by decide
theorem val_pos {r : Nat} (h : 0 < r) : 0 < val r := by have := val_lt h; rw [val_zero] at this; exact this

/-- A small number of digits is some rung's value. -/
theorem rep (e : Nat) : ∀ m, m ≤ 9007199254740992 → ∃ r, val r = m * 2 ^ e := by
  induction e with
  | zero => intro m hm; exact ⟨0 * 4503599627370496 + m, val_em 0 m (.inr rfl) hm⟩
  | succ e ih =>
    intro m hm
    by_cases h : 4503599627370496 ≤ m
    · exact ⟨_, val_em (e + 1) m (.inl h) hm⟩
    · obtain ⟨r, hr⟩ := ih (2 * m) (by omega)
      refine ⟨r, ?_⟩
      rw [hr, Nat.pow_succ, Nat.mul_comm (2 ^ e) 2, ← Nat.mul_assoc, Nat.mul_comm 2 m]

/-- Rung r is nearest to N by D (units of the least place); between two, the even one. -/
structure Near (N D r : Nat) : Prop where
  lo : 0 < r → D * (val (r - 1) + val r) ≤ 2 * N
  hi : 2 * N ≤ D * (val r + val (r + 1))
  odd : r % 2 = 1 → D * (val (r - 1) + val r) < 2 * N ∧ 2 * N < D * (val r + val (r + 1))

theorem near_mono {N D r N' D' r' : Nat} (h : Near N D r) (h' : Near N' D' r') (hD : 0 < D) (hD' : 0 < D') (hle : N * D' ≤ N' * D) : r ≤ r' := by
  rcases Nat.lt_or_ge r' r with hlt | hge
  · exfalso
    have h1 := h.lo (by omega)
    have h2 := h'.hi
    have h3 : val r' ≤ val (r - 1) := val_le (by omega)
    have h4 : val (r' + 1) ≤ val r := val_le (by omega)
    -- D' D S1 ≤ 2 N D' ≤ 2 N' D ≤ D' D S2 ≤ D' D S1
    have a1 : D' * (D * (val (r - 1) + val r)) ≤ D' * (2 * N) := Nat.mul_le_mul_left _ h1
    have a2 : D * (2 * N') ≤ D * (D' * (val r' + val (r' + 1))) := Nat.mul_le_mul_left _ h2
    have a3 : D' * (D * (val r' + val (r' + 1))) ≤ D' * (D * (val (r - 1) + val r)) := Nat.mul_le_mul_left _ (Nat.mul_le_mul_left _ (by omega))
    have a4 : D' * (2 * N) ≤ D * (2 * N') := by
      have e1 : D' * (2 * N) = 2 * (N * D') := by rw [Nat.mul_left_comm, Nat.mul_comm D' N]
      have e2 : D * (2 * N') = 2 * (N' * D) := by rw [Nat.mul_left_comm, Nat.mul_comm D N']
      omega
    have a5 : D * (D' * (val r' + val (r' + 1))) = D' * (D * (val r' + val (r' + 1))) := Nat.mul_left_comm ..
    have hs : val r' + val (r' + 1) = val (r - 1) + val r := by
      have : D' * (D * (val r' + val (r' + 1))) = D' * (D * (val (r - 1) + val r)) := by omega
      exact Nat.eq_of_mul_eq_mul_left hD (Nat.eq_of_mul_eq_mul_left hD' this)
    have hv : r' = r - 1 := val_inj (by omega)
    by_cases ho : r % 2 = 1
    · have b := (h.odd ho).1
      have : D' * (D * (val (r - 1) + val r)) < D' * (2 * N) := Nat.mul_lt_mul_of_pos_left b hD'
      omega
    · have b := (h'.odd (by omega)).2
      have : D * (2 * N') < D * (D' * (val r' + val (r' + 1))) := Nat.mul_lt_mul_of_pos_left b hD
      omega
  · exact hge

theorem near_unique {N D r N' D' r' : Nat} (h : Near N D r) (h' : Near N' D' r') (hD : 0 < D) (hD' : 0 < D') (he : N * D' = N' * D) : r = r' :=
  Nat.le_antisymm (near_mono h h' hD hD' (Nat.le_of_eq he)) (near_mono h' h hD' hD (Nat.le_of_eq he.symm))

theorem near_congr {N D N' D' r : Nat} (h : Near N D r) (hD : 0 < D) (hD' : 0 < D') (he : N * D' = N' * D) : Near N' D' r := by
  have e : D' * (2 * N) = D * (2 * N') := by
    have e1 : D' * (2 * N) = 2 * (N * D') := by rw [Nat.mul_left_comm, Nat.mul_comm D' N]
    have e2 : D * (2 * N') = 2 * (N' * D) := by rw [Nat.mul_left_comm, Nat.mul_comm D N']
    omega
  refine ⟨fun h0 => ?_, ?_, fun ho => ⟨?_, ?_⟩⟩
  · have := Nat.mul_le_mul_left D' (h.lo h0)
    rw [e, Nat.mul_left_comm D' D] at this
    exact Nat.le_of_mul_le_mul_left this hD
  · have := Nat.mul_le_mul_left D' h.hi
    rw [e, Nat.mul_left_comm D' D] at this
    exact Nat.le_of_mul_le_mul_left this hD
  · have := Nat.mul_lt_mul_of_pos_left (h.odd ho).1 hD'
    rw [e, Nat.mul_left_comm D' D] at this
    exact Nat.lt_of_mul_lt_mul_left this
  · have := Nat.mul_lt_mul_of_pos_left (h.odd ho).2 hD'
    rw [e, Nat.mul_left_comm D' D] at this
    exact Nat.lt_of_mul_lt_mul_left this

theorem near_exact (D r : Nat) (hD : 0 < D) : Near (val r * D) D r := by
  have e : 2 * (val r * D) = D * (val r + val r) := by rw [← Nat.two_mul, Nat.mul_comm (val r) D, Nat.mul_left_comm]
  have h1 := val_lt_succ r
  refine ⟨fun h0 => ?_, ?_, fun ho => ⟨?_, ?_⟩⟩
  · have : val (r - 1) < val r := val_lt (by omega)
    rw [e]; exact Nat.mul_le_mul_left _ (by omega)
  · rw [e]; exact Nat.mul_le_mul_left _ (by omega)
  · have : val (r - 1) < val r := val_lt (by omega)
    rw [e]; exact Nat.mul_lt_mul_of_pos_left (by omega) hD
  · rw [e]; exact Nat.mul_lt_mul_of_pos_left (by omega) hD

/-- Cut to 53 digits and rounded. -/
def rnd (m rest U : Nat) : Nat := m + (if U < 2 * rest ∨ U = 2 * rest ∧ m % 2 = 1 then 1 else 0)

theorem near_round (N D e m rest : Nat) (hD : 0 < D) (hN : N = m * (D * 2 ^ e) + rest) (hr : rest < D * 2 ^ e) (hm : m < 9007199254740992) (he : 4503599627370496 ≤ m ∨ e = 0) :
    Near N D (e * 4503599627370496 + rnd m rest (D * 2 ^ e)) := by
  have v0 := val_em e m he (by omega)
  have v1 := val_em e (m + 1) (by omega) (by omega)
  generalize hU : D * 2 ^ e = U at hN hr ⊢
  have w0 : D * val (e * 4503599627370496 + m) = m * U := by rw [v0, ← hU, Nat.mul_left_comm]
  have w1 : D * val (e * 4503599627370496 + m + 1) = m * U + U := by
    rw [Nat.add_assoc, v1, ← hU, Nat.mul_left_comm, Nat.add_mul, Nat.one_mul]
  have hpar : (e * 4503599627370496 + m) % 2 = m % 2 := by omega
  obtain ⟨k, hk⟩ : ∃ k, k = e * 4503599627370496 + m := ⟨_, rfl⟩
  rw [← hk] at w0 w1 hpar
  by_cases hup : U < 2 * rest ∨ U = 2 * rest ∧ m % 2 = 1
  · have er : e * 4503599627370496 + rnd m rest U = k + 1 := by unfold rnd; rw [if_pos hup]; omega
    rw [er]
    have h2 : D * val (k + 1) < D * val (k + 1 + 1) := Nat.mul_lt_mul_of_pos_left (val_lt_succ _) hD
    refine ⟨fun _ => ?_, ?_, fun ho => ⟨?_, ?_⟩⟩
    · show D * (val k + val (k + 1)) ≤ _
      rw [Nat.mul_add, w0, w1, hN]; omega
    · rw [Nat.mul_add, hN]; omega
    · show D * (val k + val (k + 1)) < _
      rw [Nat.mul_add, w0, w1, hN]
      omega
    · rw [Nat.mul_add, hN]; omega
  · have er : e * 4503599627370496 + rnd m rest U = k := by unfold rnd; rw [if_neg hup]; omega
    rw [er]
    refine ⟨fun h0 => ?_, ?_, fun ho => ⟨?_, ?_⟩⟩
    · have : D * val (k - 1) ≤ D * val k := Nat.mul_le_mul_left _ (val_le (by omega))
      rw [Nat.mul_add, hN]; omega
    · rw [Nat.mul_add, w0, w1, hN]; omega
    · have : D * val (k - 1) < D * val k := Nat.mul_lt_mul_of_pos_left (val_lt (by omega)) hD
      rw [Nat.mul_add, hN]; omega
    · rw [Nat.mul_add, w0, w1, hN]; omega
end Go.Proofs.Ytcnhgblpeonmgaa
