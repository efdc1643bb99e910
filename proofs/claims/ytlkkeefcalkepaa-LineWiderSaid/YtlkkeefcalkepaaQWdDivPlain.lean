/-
  A quotient bit by bit: plain arithmetic.
-/
import Derived.Test.YtlkkeefcalkepaaQWdDigs
namespace Go.Proofs.Ytlkkeefcalkepaa
open Go.RowKit
set_option linter.unusedVariables false

def p2 : Nat → Int
  | 0 => 1 | 1 => 2 | 2 => 4 | 3 => 8 | 4 => 16 | 5 => 32 | 6 => 64 | 7 => 128 | 8 => 256 | 9 => 512 | 10 => 1024 | 11 => 2048 | 12 => 4096 | 13 => 8192 | 14 => 16384 | 15 => 32768 | _ => 65536
/-- The inner loop's mask. -/
def kk : Nat → Int
  | 0 => 0
  | s + 1 => p2 s
theorem p2_pos (s : Nat) : 0 < p2 s := by unfold p2; split <;> decide
theorem p2_le (s : Nat) : p2 s ≤ 65536 := by unfold p2; split <;> decide
theorem lt16 {P : Nat → Prop} (h : P 0 ∧ P 1 ∧ P 2 ∧ P 3 ∧ P 4 ∧ P 5 ∧ P 6 ∧ P 7 ∧ P 8 ∧ P 9 ∧ P 10 ∧ P 11 ∧ P 12 ∧ P 13 ∧ P 14 ∧ P 15) (s : Nat) (hs : s < 16) : P s := by
  obtain ⟨h0, h1, h2, h3, h4, h5, h6, h7, h8, h9, h10, h11, h12, h13, h14, h15⟩ := h
  have : s = 0 ∨ s = 1 ∨ s = 2 ∨ s = 3 ∨ s = 4 ∨ s = 5 ∨ s = 6 ∨ s = 7 ∨ s = 8 ∨ s = 9 ∨ s = 10 ∨ s = 11 ∨ s = 12 ∨ s = 13 ∨ s = 14 ∨ s = 15 := by omega
  rcases this with rfl | rfl | rfl | rfl | rfl | rfl | rfl | rfl | rfl | rfl | rfl | rfl | rfl | rfl | rfl | rfl <;> assumption
theorem kk_half (s : Nat) (hs : s < 16) : kk (s + 1) / 2 = kk s := by
  refine lt16 (P := fun s => kk (s + 1) / 2 = kk s) (by refine ⟨?_, ?_, ?_, ?_, ?_, ?_, ?_, ?_, ?_, ?_, ?_, ?_, ?_, ?_, ?_, ?_⟩ <;> (rfl)) s hs
theorem kk_range (s : Nat) : 0 ≤ kk s ∧ kk s ≤ 65536 := by
  cases s with
  | zero => decide
  | succ s => exact ⟨Int.le_of_lt (p2_pos s), p2_le s⟩
theorem kk_lt (s : Nat) (hs : s < 16) : kk s < kk (s + 1) := by
  refine lt16 (P := fun s => kk s < kk (s + 1)) (by refine ⟨?_, ?_, ?_, ?_, ?_, ?_, ?_, ?_, ?_, ?_, ?_, ?_, ?_, ?_, ?_, ?_⟩ <;> (decide)) s hs
/-- What stands above bit s of digit m. -/
def above (z : Int) (m s : Nat) : Int := z / pw m / p2 s
def bit (z : Int) (m s : Nat) : Int := dig z m / p2 s % 2
theorem half_step (y : Int) (s : Nat) (hs : s < 16) : y / p2 s = 2 * (y / p2 (s + 1)) + y % 65536 / p2 s % 2 := by
  refine lt16 (P := fun s => y / p2 s = 2 * (y / p2 (s + 1)) + y % 65536 / p2 s % 2) (by refine ⟨?_, ?_, ?_, ?_, ?_, ?_, ?_, ?_, ?_, ?_, ?_, ?_, ?_, ?_, ?_, ?_⟩ <;> (simp only [p2]; omega)) s hs
theorem above_step (z : Int) (m s : Nat) (hm : m < 8) (hs : s < 16) : above z m s = 2 * above z m (s + 1) + bit z m s := by
  unfold above bit; rw [dig_div z m hm]; exact half_step _ s hs
theorem above_zero (z : Int) (m : Nat) : above z m 0 = z / pw m := by unfold above; simp only [p2, Int.ediv_one]
theorem above_sixteen (z : Int) (m : Nat) (hm : m < 8) : above z m 16 = z / pw (m + 1) := by
  unfold above; rw [pw_succ m hm, ← Int.ediv_ediv_of_nonneg (Int.le_of_lt (pw_pos m))]; rfl
theorem bit_range (z : Int) (m s : Nat) : 0 ≤ bit z m s ∧ bit z m s ≤ 1 := by unfold bit; omega
theorem above_div (z d : Int) (m s : Nat) (hd : 0 < d) : above (z / d) m s = above z m s / d := by
  unfold above
  have e1 := pw_pos m; have e2 := p2_pos s
  rw [Int.ediv_ediv_of_nonneg (Int.le_of_lt hd), Int.mul_comm, ← Int.ediv_ediv_of_nonneg (Int.le_of_lt e1), Int.ediv_ediv_of_nonneg (Int.le_of_lt hd), Int.mul_comm d, ← Int.ediv_ediv_of_nonneg (Int.le_of_lt e2)]
/-- One bit more: the rest, and the quotient's bit. -/
theorem div_step (h b d : Int) (hd : 0 < d) (hb0 : 0 ≤ b) (hb1 : b ≤ 1) : (2 * h + b) / d = 2 * (h / d) + (if d ≤ 2 * (h % d) + b then 1 else 0) ∧ (2 * h + b) % d = if d ≤ 2 * (h % d) + b then 2 * (h % d) + b - d else 2 * (h % d) + b := by
  have e := Int.mul_ediv_add_emod h d
  have r0 := Int.emod_nonneg h (Int.ne_of_gt hd); have r1 := Int.emod_lt_of_pos h hd
  have e2 : 2 * h + b = d * (2 * (h / d)) + (2 * (h % d) + b) := by rw [Int.mul_left_comm]; omega
  split
  · rename_i hc
    have e3 : 2 * h + b = (2 * (h % d) + b - d) + d * (2 * (h / d) + 1) := by rw [Int.mul_add]; omega
    rw [e3, Int.add_mul_ediv_left _ _ (Int.ne_of_gt hd), Int.add_mul_emod_self_left]
    rw [Int.ediv_eq_zero_of_lt (by omega) (by omega), Int.emod_eq_of_lt (by omega) (by omega)]; omega
  · rename_i hc
    have e3 : 2 * h + b = (2 * (h % d) + b) + d * (2 * (h / d)) := by omega
    rw [e3, Int.add_mul_ediv_left _ _ (Int.ne_of_gt hd), Int.add_mul_emod_self_left]
    rw [Int.ediv_eq_zero_of_lt (by omega) (by omega), Int.emod_eq_of_lt (by omega) (by omega)]; omega
/-- Of the step in the machine: the doubled rest, a bit more, and whether the divisor is taken off. -/
theorem rest_step (M d : Int) (m s : Nat) (hm : m < 8) (hs : s < 16) (hd : 0 < d) :
    above M m s % d = (if d ≤ 2 * (above M m (s + 1) % d) + bit M m s then 2 * (above M m (s + 1) % d) + bit M m s - d else 2 * (above M m (s + 1) % d) + bit M m s) ∧
    bit (M / d) m s = (if d ≤ 2 * (above M m (s + 1) % d) + bit M m s then 1 else 0) := by
  have hb := bit_range M m s
  have D := div_step (above M m (s + 1)) (bit M m s) d hd hb.1 hb.2
  have e1 := above_step M m s hm hs
  have e2 := above_step (M / d) m s hm hs
  rw [above_div M d m s hd, above_div M d m (s + 1) hd, e1] at e2
  rw [e1]
  exact ⟨D.2, by have := D.1; omega⟩
/-- The quotient's digits as far as they are found: above digit m, and of it the bits from s on. -/
def got (Q : Int) (m s : Nat) (j : Nat) : Int := if m < j then dig Q j else if j = m then dig Q m / p2 s * p2 s else 0
theorem got_step (Q : Int) (m s : Nat) (hs : s < 16) : dig Q m / p2 s * p2 s = dig Q m / p2 (s + 1) * p2 (s + 1) + bit Q m s * p2 s := by
  have hd := dig_range Q m
  unfold bit
  generalize dig Q m = y at *
  revert s; intro s hs
  refine lt16 (P := fun s => y / p2 s * p2 s = y / p2 (s + 1) * p2 (s + 1) + y / p2 s % 2 * p2 s) (by refine ⟨?_, ?_, ?_, ?_, ?_, ?_, ?_, ?_, ?_, ?_, ?_, ?_, ?_, ?_, ?_, ?_⟩ <;> (simp only [p2]; omega)) s hs
theorem got_zero (Q : Int) (m j : Nat) : got Q m 0 j = if m ≤ j then dig Q j else 0 := by
  unfold got; simp only [p2, Int.ediv_one, Int.mul_one]
  by_cases h1 : m < j
  · rw [if_pos h1, if_pos (by omega)]
  · by_cases h2 : j = m
    · subst h2; simp
    · rw [if_neg h1, if_neg h2, if_neg (by omega)]
theorem got_top (Q : Int) (m j : Nat) : got Q m 16 j = if m + 1 ≤ j then dig Q j else 0 := by
  have := dig_range Q m
  unfold got
  by_cases h1 : m < j
  · have h3 : m + 1 ≤ j := by omega
    simp only [h1, h3, if_true]
  · have h3 : ¬ m + 1 ≤ j := by omega
    simp only [h1, h3, if_false]
    by_cases h2 : j = m
    · rw [if_pos h2]; simp only [p2]; omega
    · rw [if_neg h2]
theorem neg_exact (v d : Int) (hd : 0 < d) (h : -v % d = 0) : v / d = -(-v / d) ∧ v % d = 0 := by
  have e := Int.mul_ediv_add_emod (-v) d
  have e3 : v = 0 + d * (-(-v / d)) := by rw [Int.mul_neg]; omega
  generalize -v / d = q at *
  subst e3
  rw [Int.add_mul_ediv_left _ _ (Int.ne_of_gt hd), Int.add_mul_emod_self_left]; simp
theorem neg_part (v d : Int) (hd : 0 < d) (h : 0 < -v % d) : v / d = -(-v / d + 1) ∧ v % d = d - -v % d := by
  have e := Int.mul_ediv_add_emod (-v) d
  have r1 := Int.emod_lt_of_pos (-v) hd
  have e3 : v = (d - -v % d) + d * (-(-v / d + 1)) := by rw [Int.mul_neg, Int.mul_add]; omega
  generalize -v / d = q at *
  generalize hr : -v % d = r at *
  clear hr
  subst e3
  rw [Int.add_mul_ediv_left _ _ (Int.ne_of_gt hd), Int.add_mul_emod_self_left, Int.ediv_eq_zero_of_lt (by omega) (by omega), Int.emod_eq_of_lt (by omega) (by omega)]; simp
theorem dig_top (z : Int) (h0 : 0 ≤ z) (h1 : z < 340282366920938463463374607431768211456) : z / pw 8 = 0 := by simp only [pw]; omega

end Go.Proofs.Ytlkkeefcalkepaa
