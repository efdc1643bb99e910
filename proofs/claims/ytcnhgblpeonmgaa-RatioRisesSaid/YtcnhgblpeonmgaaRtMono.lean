/-
  Plain: sums of floats do not fall where what is added rises.
-/
import Derived.Test.YtcnhgblpeonmgaaRtAlong
namespace Go.Proofs.Ytcnhgblpeonmgaa
set_option linter.unusedVariables false
set_option linter.unusedSimpArgs false

theorem sg_sum {s t : Bool} {x : Int} {q : Nat} (hq : q ≤ INF) (h : Near x.natAbs 1 q) : (0 ≤ x → sv (wd (sumNeg s t x) q) = (val q : Int)) ∧ (x < 0 → sv (wd (sumNeg s t x) q) = -(val q : Int)) := by
  constructor
  · intro hx
    rw [sv_of hq]
    by_cases h0 : x = 0
    · subst h0
      have hz : q = 0 := near_unique h (near_zero 1) (by decide) (by decide) rfl
      subst hz
      rw [val_zero]; cases (sumNeg s t 0) <;> rfl
    · unfold sumNeg
      rw [if_neg h0, decide_eq_false (by omega)]; rfl
  · intro hx
    rw [sv_of hq]
    unfold sumNeg
    rw [if_neg (by omega), decide_eq_true hx]; rfl
theorem sum_mono {s t s' t' : Bool} {x y : Int} {q q' : Nat} (hq : q ≤ INF) (hq' : q' ≤ INF) (h : Near x.natAbs 1 q) (h' : Near y.natAbs 1 q') (hxy : x ≤ y) : sv (wd (sumNeg s t x) q) ≤ sv (wd (sumNeg s' t' y) q') := by
  have a := sg_sum (s := s) (t := t) hq h
  have b := sg_sum (s := s') (t := t') hq' h'
  by_cases hx : 0 ≤ x
  · rw [a.1 hx, b.1 (by omega)]
    have := val_le (near_mono h h' (by decide) (by decide) (by omega))
    omega
  · rw [a.2 (by omega)]
    by_cases hy : 0 ≤ y
    · rw [b.1 hy]; omega
    · rw [b.2 (by omega)]
      have := val_le (near_mono h' h (by decide) (by decide) (by omega))
      omega

/-- A whole number from 0 on as a float: its rung. -/
theorem ofInt_near (n : Nat) (hn : n ≤ 18446744073709551616) : ∃ q, floatOfInt .f64 (n : Int) = q ∧ Near (n * S) 1 q ∧ q ≤ 4895412794951729152 := by
  obtain ⟨q, h1, h2⟩ := nearest_int (n : Int)
  rw [Int.natAbs_natCast] at h2
  have hq : q ≤ 4895412794951729152 := by
    refine near_mono h2 (near_exact 1 4895412794951729152 (by decide)) (by decide) (by decide) ?_
    rw [Nat.mul_one, Nat.mul_one, Nat.mul_one, val_64]
    exact Nat.mul_le_mul_right _ hn
  have hl := INF_lit
  have e : min q INF = q := Nat.min_eq_left (by omega)
  rw [decide_eq_false (by omega : ¬ (n : Int) < 0), e, wd_pos] at h1
  refine ⟨q, ?_, h2, hq⟩
  show Ieee.double.write (.number (decide ((n : Int) < 0)) (n : Int).natAbs 0) = q
  rw [decide_eq_false (by omega : ¬ (n : Int) < 0)]
  exact h1

/-- The product of a slope and a distance. -/
theorem mul_near (s n : Nat) (hs : s ≤ 4895412794951729152) (hn : n ≤ 18446744073709551616) : ∃ q o, Ieee.double.mul s (floatOfInt .f64 (n : Int)) = some q ∧ Near (n * S) 1 o ∧ Near (val s * val o) S q ∧ q ≤ 1151 * 4503599627370496 := by
  obtain ⟨o, ho, hno, hob⟩ := ofInt_near n hn
  have hl := INF_lit
  rw [ho]
  obtain ⟨q, h1, h2⟩ := mul_fin (fin_small (r := s) (by omega)) (fin_small (r := o) (by omega))
  rw [rg_small (r := s) (by omega), rg_small (r := o) (by omega)] at h2
  have hq : q ≤ 1151 * 4503599627370496 := by
    refine near_mono h2 (near_exact 1 (1151 * 4503599627370496) (by decide)) S_pos (by decide) ?_
    rw [Nat.mul_one, Nat.mul_one, val_128]
    have a1 : val s ≤ 18446744073709551616 * S := by rw [← val_64]; exact val_le hs
    have a2 : val o ≤ 18446744073709551616 * S := by rw [← val_64]; exact val_le hob
    have a3 := Nat.mul_le_mul a1 a2
    have a4 : 18446744073709551616 * S * (18446744073709551616 * S) = 340282366920938463463374607431768211456 * S * S := by
      have : (340282366920938463463374607431768211456 : Nat) = 18446744073709551616 * 18446744073709551616 := by decide
      rw [this]; ac_rfl
    omega
  have e : min q INF = q := Nat.min_eq_left (by omega)
  rw [ng_small (r := s) (by omega), ng_small (r := o) (by omega), e] at h1
  exact ⟨q, o, h1, hno, h2, hq⟩

/-- A base, as a float. -/
theorem base_fin (t : Int) (h1 : -9223372036854775808 ≤ t) (h2 : t ≤ 9223372036854775807) : ∃ b, floatOfInt .f64 t = b ∧ Fin64 b ∧ -(9223372036854775808 * (S : Int)) ≤ sv b ∧ sv b ≤ 9223372036854775808 * (S : Int) ∧ b < 18446744073709551616 := by
  obtain ⟨q, e1, e2⟩ := nearest_int t
  have hq : q ≤ 4890909195324358656 := by
    refine near_mono e2 (near_exact 1 4890909195324358656 (by decide)) (by decide) (by decide) ?_
    rw [Nat.mul_one, Nat.mul_one, Nat.mul_one, val_63]
    exact Nat.mul_le_mul_right _ (by omega)
  have hl := INF_lit
  have e : min q INF = q := Nat.min_eq_left (by omega)
  rw [e] at e1
  have hv : val q ≤ 9223372036854775808 * S := by rw [← val_63]; exact val_le hq
  have hv' := Int.ofNat_le.2 hv
  rw [Int.natCast_mul] at hv'
  refine ⟨wd (decide (t < 0)) q, e1, fin_of (by omega), ?_, ?_, wd_lt (by omega)⟩
  · rw [sv_of (by omega)]; unfold sg; split <;> omega
  · rw [sv_of (by omega)]; unfold sg; split <;> omega

theorem val_129 : val (1152 * 4503599627370496) = 680564733841876926926749214863536422912 * S := by have := val_two_pow 129; simpa using this
theorem sum_bound {m b q : Nat} (hm : m ≤ 1151 * 4503599627370496) (hb1 : -(9223372036854775808 * (S : Int)) ≤ sv b) (hb2 : sv b ≤ 9223372036854775808 * (S : Int)) (h : Near (sv m + sv b).natAbs 1 q) : q ≤ INF := by
  have hl := INF_lit
  have : q ≤ 1152 * 4503599627370496 := by
    refine near_mono h (near_exact 1 (1152 * 4503599627370496) (by decide)) (by decide) (by decide) ?_
    rw [Nat.mul_one, Nat.mul_one, Nat.mul_one, val_129]
    have hv : val m ≤ 340282366920938463463374607431768211456 * S := by rw [← val_128]; exact val_le hm
    rw [sv_small (r := m) (by omega)]
    generalize S = k at *
    omega
  omega
/-- What Along reckons does not fall where the distance rises. -/
theorem along_rises (s n n' : Nat) (t : Int) (hs : s ≤ 4895412794951729152) (hnn : n ≤ n') (hn : n' ≤ 18446744073709551616) (h1 : -9223372036854775808 ≤ t) (h2 : t ≤ 9223372036854775807) :
    ∃ a b, alongF s n (floatOfInt .f64 t) = some a ∧ alongF s n' (floatOfInt .f64 t) = some b ∧ Num64 a ∧ Num64 b ∧ sv a ≤ sv b := by
  obtain ⟨m, o, m1, m2, m3, m4⟩ := mul_near s n hs (by omega)
  obtain ⟨m', o', m1', m2', m3', m4'⟩ := mul_near s n' hs hn
  obtain ⟨b, hb, hbf, hb1, hb2, -⟩ := base_fin t h1 h2
  have hl := INF_lit
  have ho : o ≤ o' := near_mono m2 m2' (by decide) (by decide) (by rw [Nat.mul_one, Nat.mul_one]; exact Nat.mul_le_mul_right _ hnn)
  have hm : m ≤ m' := near_mono m3 m3' S_pos S_pos (Nat.mul_le_mul_right _ (Nat.mul_le_mul_left _ (val_le ho)))
  obtain ⟨q, a1, a2⟩ := add_fin (fin_small (r := m) (by omega)) hbf
  obtain ⟨q', a1', a2'⟩ := add_fin (fin_small (r := m') (by omega)) hbf
  unfold alongF
  rw [hb, m1, m1']
  refine ⟨_, _, a1, a1', num_of (Nat.min_le_right ..), num_of (Nat.min_le_right ..), ?_⟩
  have hq := sum_bound m4 hb1 hb2 a2
  have hq' := sum_bound m4' hb1 hb2 a2'
  rw [Nat.min_eq_left hq, Nat.min_eq_left hq']
  refine sum_mono hq hq' a2 a2' ?_
  rw [sv_small (r := m) (by omega), sv_small (r := m') (by omega)]
  have := val_le hm
  omega
end Go.Proofs.Ytcnhgblpeonmgaa
