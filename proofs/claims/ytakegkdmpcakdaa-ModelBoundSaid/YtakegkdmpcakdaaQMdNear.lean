/-
  Plain: how far floats lie from what they stand for: a slope by a distance, and a base.
-/
import Derived.Test.YtakegkdmpcakdaaQMdRise
namespace Go.Proofs.Ytakegkdmpcakdaa
open Go.RowKit
set_option linter.unusedVariables false
set_option linter.unusedSimpArgs false

/-- A normal rung is within 2^-53 of what it stands for. -/
theorem near_rel {N D r : Nat} (h : Near N D r) (hr : 4503599627370496 ≤ r) :
    9007199254740991 * (D * val r) ≤ 9007199254740992 * N ∧ 9007199254740992 * N ≤ 9007199254740993 * (D * val r) := by
  have hm : 4503599627370496 ≤ mg r := by unfold mg; split <;> omega
  have v1 := val_succ r
  have v0 : val r = val (r - 1) + 2 ^ pl (r - 1) := by
    have := val_succ (r - 1)
    rw [show r - 1 + 1 = r by omega] at this; exact this
  have hp : 2 ^ pl (r - 1) ≤ 2 ^ pl r := Nat.pow_le_pow_right (by decide) (by unfold pl; omega)
  have hu : 4503599627370496 * 2 ^ pl r ≤ val r := by unfold val; exact Nat.mul_le_mul_right _ hm
  generalize 2 ^ pl (r - 1) = a at *
  generalize 2 ^ pl r = b at *
  have lo := h.lo (by omega)
  have hi := h.hi
  rw [v1] at hi
  constructor
  · have e1 : 9007199254740991 * (D * val r) ≤ 4503599627370496 * (D * (val (r - 1) + val r)) := by
      rw [Nat.mul_left_comm, Nat.mul_left_comm 4503599627370496]
      exact Nat.mul_le_mul_left _ (by omega)
    have e2 := Nat.mul_le_mul_left 4503599627370496 lo
    omega
  · have e1 : 4503599627370496 * (D * (val r + (val r + b))) ≤ 9007199254740993 * (D * val r) := by
      rw [Nat.mul_left_comm, Nat.mul_left_comm 9007199254740993]
      exact Nat.mul_le_mul_left _ (by omega)
    have e2 := Nat.mul_le_mul_left 4503599627370496 hi
    omega

/-- A product of two that are near. -/
theorem prod_low {p d q vs vo K S : Nat} (hq : 0 < q) (h1 : 9007199254740992 * (p * S) ≤ 9007199254740993 * (q * vs)) (h2 : 9007199254740992 * (d * S) ≤ 9007199254740993 * (1 * vo)) (hK : (K + 1) * q ≤ p * d) (hb : K ≤ 1125899906842624) : K * (S * S) ≤ vs * vo := by
  have m := Nat.mul_le_mul h1 h2
  have e1 : 9007199254740992 * (p * S) * (9007199254740992 * (d * S)) = 81129638414606681695789005144064 * ((p * d) * (S * S)) := by
    have : (81129638414606681695789005144064 : Nat) = 9007199254740992 * 9007199254740992 := by decide
    rw [this]; ac_rfl
  have e2 : 9007199254740993 * (q * vs) * (9007199254740993 * (1 * vo)) = q * (81129638414606699710187514626049 * (vs * vo)) := by
    have : (81129638414606699710187514626049 : Nat) = 9007199254740993 * 9007199254740993 := by decide
    rw [this, Nat.one_mul]; ac_rfl
  rw [e1, e2] at m
  have h3 : 81129638414606681695789005144064 * (((K + 1) * q) * (S * S)) ≤ 81129638414606681695789005144064 * ((p * d) * (S * S)) := Nat.mul_le_mul_left _ (Nat.mul_le_mul_right _ hK)
  have e3 : 81129638414606681695789005144064 * (((K + 1) * q) * (S * S)) = q * (81129638414606681695789005144064 * ((K + 1) * (S * S))) := by ac_rfl
  rw [e3] at h3
  have h4 : 81129638414606681695789005144064 * ((K + 1) * (S * S)) ≤ 81129638414606699710187514626049 * (vs * vo) := Nat.le_of_mul_le_mul_left (Nat.le_trans h3 m) hq
  generalize S * S = Y at *
  generalize vs * vo = X at *
  have h5 : 81129638414606699710187514626049 * K ≤ 81129638414606681695789005144064 * (K + 1) := by omega
  have h6 : 81129638414606699710187514626049 * K * Y ≤ 81129638414606681695789005144064 * (K + 1) * Y := Nat.mul_le_mul_right _ h5
  rw [Nat.mul_assoc, Nat.mul_assoc] at h6
  exact Nat.le_of_mul_le_mul_left (Nat.le_trans h6 h4) (by decide)
theorem prod_high {p d q vs vo K S : Nat} (hq : 0 < q) (h1 : 9007199254740991 * (q * vs) ≤ 9007199254740992 * (p * S)) (h2 : 9007199254740991 * (1 * vo) ≤ 9007199254740992 * (d * S)) (hK : p * d ≤ K * q) (hb : K ≤ 1125899906842624) : 2 * (vs * vo) ≤ (2 * K + 1) * (S * S) := by
  have m := Nat.mul_le_mul h1 h2
  have e1 : 9007199254740992 * (p * S) * (9007199254740992 * (d * S)) = 81129638414606681695789005144064 * ((p * d) * (S * S)) := by
    have : (81129638414606681695789005144064 : Nat) = 9007199254740992 * 9007199254740992 := by decide
    rw [this]; ac_rfl
  have e2 : 9007199254740991 * (q * vs) * (9007199254740991 * (1 * vo)) = q * (81129638414606663681390495662081 * (vs * vo)) := by
    have : (81129638414606663681390495662081 : Nat) = 9007199254740991 * 9007199254740991 := by decide
    rw [this, Nat.one_mul]; ac_rfl
  rw [e1, e2] at m
  have h3 : 81129638414606681695789005144064 * ((p * d) * (S * S)) ≤ 81129638414606681695789005144064 * ((K * q) * (S * S)) := Nat.mul_le_mul_left _ (Nat.mul_le_mul_right _ hK)
  have e3 : 81129638414606681695789005144064 * ((K * q) * (S * S)) = q * (81129638414606681695789005144064 * (K * (S * S))) := by ac_rfl
  rw [e3] at h3
  have h4 : 81129638414606663681390495662081 * (vs * vo) ≤ 81129638414606681695789005144064 * (K * (S * S)) := Nat.le_of_mul_le_mul_left (Nat.le_trans m h3) hq
  generalize S * S = Y at *
  generalize vs * vo = X at *
  have h5 : 2 * (81129638414606681695789005144064 * K) ≤ 81129638414606663681390495662081 * (2 * K + 1) := by omega
  have h6 : 2 * (81129638414606681695789005144064 * K) * Y ≤ 81129638414606663681390495662081 * (2 * K + 1) * Y := Nat.mul_le_mul_right _ h5
  have e4 : 2 * (81129638414606681695789005144064 * K) * Y = 2 * (81129638414606681695789005144064 * (K * Y)) := by ac_rfl
  rw [e4, Nat.mul_assoc] at h6
  have h7 : 81129638414606663681390495662081 * (2 * X) ≤ 81129638414606663681390495662081 * ((2 * K + 1) * Y) := by omega
  exact Nat.le_of_mul_le_mul_left h7 (by decide)

/-- Rounding does not pass a float. -/
theorem round_ge {s t : Bool} {z : Int} {y : Nat} (h : Near z.natAbs 1 y) {M : Int} {r : Nat} (hr : r ≤ INF) (hM : M.natAbs = val r) (hz : M ≤ z) : M ≤ sv (wd (sumNeg s t z) (min y INF)) := by
  have a := sg_sum' (s := s) (t := t) h
  have ex := near_exact 1 r (by decide)
  rw [Nat.mul_one] at ex
  by_cases h0 : 0 ≤ z
  · rw [a.1 h0]
    by_cases hM0 : M ≤ 0
    · omega
    · have hle : r ≤ y := near_mono ex h (by decide) (by decide) (by omega)
      have := val_le (show r ≤ min y INF by omega)
      omega
  · rw [a.2 (by omega)]
    have hle : y ≤ r := near_mono h ex (by decide) (by decide) (by omega)
    have := val_le (show min y INF ≤ r by omega)
    omega
theorem round_le {s t : Bool} {z : Int} {y : Nat} (h : Near z.natAbs 1 y) {M : Int} {r : Nat} (hr : r ≤ INF) (hM : M.natAbs = val r) (hz : z ≤ M) : sv (wd (sumNeg s t z) (min y INF)) ≤ M := by
  have a := sg_sum' (s := s) (t := t) h
  have ex := near_exact 1 r (by decide)
  rw [Nat.mul_one] at ex
  by_cases h0 : 0 ≤ z
  · rw [a.1 h0]
    have hle : y ≤ r := near_mono h ex (by decide) (by decide) (by omega)
    have := val_le (show min y INF ≤ r by omega)
    omega
  · rw [a.2 (by omega)]
    by_cases hM0 : 0 ≤ M
    · omega
    · have hle : r ≤ y := near_mono ex h (by decide) (by decide) (by omega)
      have := val_le (show r ≤ min y INF by omega)
      omega

/-- A whole number as a float, exact. -/
theorem ofInt_whole (n : Int) (h : n.natAbs ≤ 9007199254740992) : ∃ b, floatOfInt .f64 n = b ∧ Fin64 b ∧ sv b = n * (S : Int) := by
  obtain ⟨r, hr⟩ := rep Q n.natAbs h
  rw [← S_eq] at hr
  have hl := INF_lit
  have hlt : r < 4895412794951729152 := by
    rw [← val_lt_iff, val_64, hr]; exact Nat.mul_lt_mul_of_pos_right (by omega) S_pos
  have e1 : ((0 : Int) + 1074).toNat = Q := by have := Q_eq; omega
  have e2 : ((-1074 : Int) - 0).toNat = 0 := by omega
  have hw : floatOfInt .f64 n = wd (decide (n < 0)) r := by
    show Ieee.double.write (.number (decide (n < 0)) n.natAbs 0) = _
    exact write_exact _ _ 0 r (by omega) (by rw [e1, e2, hr, S_eq]; simp)
  refine ⟨_, hw, fin_of (by omega), ?_⟩
  rw [sv_of (by omega), hr, sg_mul, sg_add_natAbs]
/-- Whole numbers and halves are floats. -/
theorem rung_whole (n : Int) (h : n.natAbs ≤ 9007199254740992) : ∃ r, r ≤ INF ∧ (n * (S : Int)).natAbs = val r := by
  obtain ⟨r, hr⟩ := rep Q n.natAbs h
  rw [← S_eq] at hr
  have hl := INF_lit
  have hlt : r < 4895412794951729152 := by
    rw [← val_lt_iff, val_64, hr]; exact Nat.mul_lt_mul_of_pos_right (by omega) S_pos
  exact ⟨r, by omega, by rw [Int.natAbs_mul, Int.natAbs_natCast, hr]⟩
/-- Half of one. -/
def H : Nat := 2 ^ (Q - 1)
theorem H_two : 2 * H = S := by
  have h : Q = Q - 1 + 1 := by have := Q_eq; omega
  unfold H; rw [S_eq]
  have e : (2 : Nat) ^ Q = 2 ^ (Q - 1 + 1) := by rw [← h]
  rw [e, Nat.pow_succ, Nat.mul_comm]
theorem H_eq : H = 2 ^ (Q - 1) := rfl
attribute [irreducible] H
theorem rung_half (n : Int) (h : n.natAbs ≤ 9007199254740992) : ∃ r, r ≤ INF ∧ (n * (H : Int)).natAbs = val r := by
  obtain ⟨r, hr⟩ := rep (Q - 1) n.natAbs h
  rw [← H_eq] at hr
  have hl := INF_lit
  have hS := S_pos
  have hH := H_two
  have hlt : r < 4895412794951729152 := by
    rw [← val_lt_iff, val_64, hr]
    have h1 : n.natAbs * H ≤ 9007199254740992 * H := Nat.mul_le_mul_right _ h
    have h2 : 18446744073709551616 * S = 36893488147419103232 * H := by rw [← hH]; omega
    omega
  exact ⟨r, by omega, by rw [Int.natAbs_mul, Int.natAbs_natCast, hr]⟩

/-- The product of a slope and a distance, brought to whole numbers. -/
theorem prod_bounds {p q d : Nat} (hp : p < 18446744073709551616) (hq : 0 < q) (hq1 : q < 18446744073709551616) (hd : d < 18446744073709551616) {m o : Nat} (ho : Near (d * S) 1 o) (hm : Near (val (nr p q) * val o) S m) :
    (∀ K : Nat, K ≤ 1125899906842624 → (K + 1) * q ≤ p * d → K * S ≤ val m) ∧ (∀ K : Nat, K ≤ 1125899906842624 → p * d ≤ K * q → val m ≤ (2 * K + 1) * H) := by
  have hS := S_pos
  have hH := H_two
  have hn := nr_near hp hq hq1
  by_cases hz : p = 0 ∨ d = 0
  · have hv : val (nr p q) * val o = 0 := by
      rcases hz with rfl | rfl
      · rw [nr_zero hq, val_zero, Nat.zero_mul]
      · have : o = 0 := near_unique ho (by rw [Nat.zero_mul]; exact near_zero 1) (by decide) (by decide) rfl
        rw [this, val_zero, Nat.mul_zero]
    rw [hv] at hm
    have hm0 : m = 0 := near_unique hm (near_zero S) hS hS rfl
    have hpd : p * d = 0 := by rcases hz with rfl | rfl; exact Nat.zero_mul _; exact Nat.mul_zero _
    rw [hm0, val_zero, hpd]
    refine ⟨fun K _ h => ?_, fun K _ _ => Nat.zero_le _⟩
    have : 1 * q ≤ (K + 1) * q := Nat.mul_le_mul_right _ (by omega)
    omega
  · have hp0 : 0 < p := by omega
    have hd0 : 0 < d := by omega
    have hr1 : 4503599627370496 ≤ nr p q := by
      have := (near_mono (near_exact 1 4314448443020935168 (by decide)) hn (by decide) hq (by
        have h1 := val_m65
        rw [Nat.mul_one, Nat.mul_one]
        have a1 : val 4314448443020935168 * q ≤ val 4314448443020935168 * 36893488147419103232 := Nat.mul_le_mul_left _ (by omega)
        have a2 : 1 * S ≤ p * S := Nat.mul_le_mul_right _ hp0
        omega))
      omega
    have ho1 : 4503599627370496 ≤ o := by
      have := (near_mono (near_exact 1 4607182418800017408 (by decide)) ho (by decide) (by decide) (by
        rw [Nat.mul_one, Nat.mul_one, Nat.mul_one, val_one]
        have a2 : 1 * S ≤ d * S := Nat.mul_le_mul_right _ hd0
        omega))
      omega
    obtain ⟨l1, l2⟩ := near_rel hn hr1
    obtain ⟨o1, o2⟩ := near_rel ho ho1
    constructor
    · intro K hK h
      obtain ⟨r, hr⟩ := rep Q K (by omega)
      rw [← S_eq] at hr
      rw [← hr]
      refine val_le (near_mono (near_exact S r hS) hm hS hS ?_)
      rw [hr]
      have := prod_low hq l2 o2 h hK
      rw [Nat.mul_assoc K]
      exact Nat.mul_le_mul_right _ this
    · intro K hK h
      obtain ⟨r, hr⟩ := rep (Q - 1) (2 * K + 1) (by omega)
      rw [← H_eq] at hr
      rw [← hr]
      refine val_le (near_mono hm (near_exact S r hS) hS hS (Nat.mul_le_mul_right _ ?_))
      rw [hr]
      have := prod_high hq l1 o1 h hK
      have e : (2 * K + 1) * (S * S) = 2 * ((2 * K + 1) * H * S) := by
        rw [← Nat.mul_assoc, ← hH]; ac_rfl
      omega
end Go.Proofs.Ytakegkdmpcakdaa
