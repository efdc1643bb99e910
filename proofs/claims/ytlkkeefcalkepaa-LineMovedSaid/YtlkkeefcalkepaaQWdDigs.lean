/-
  The reference's numbers: eight digits of 16 bits. Plain arithmetic, no program in sight.
-/
import Derived.Test.YtlkkeefcalkepaaQWdPlain
namespace Go.Proofs.Ytlkkeefcalkepaa
open Go.RowKit
set_option linter.unusedVariables false
set_option linter.unusedSimpArgs false

/-- Digit j of a number, modulo 2^128; and what the places stand for. -/
def dig (z : Int) : Nat → Int
  | 0 => z % 65536
  | 1 => z / 65536 % 65536
  | 2 => z / 4294967296 % 65536
  | 3 => z / 281474976710656 % 65536
  | 4 => z / 18446744073709551616 % 65536
  | 5 => z / 1208925819614629174706176 % 65536
  | 6 => z / 79228162514264337593543950336 % 65536
  | 7 => z / 5192296858534827628530496329220096 % 65536
  | _ => 0
def pw : Nat → Int
  | 0 => 1
  | 1 => 65536
  | 2 => 4294967296
  | 3 => 281474976710656
  | 4 => 18446744073709551616
  | 5 => 1208925819614629174706176
  | 6 => 79228162514264337593543950336
  | 7 => 5192296858534827628530496329220096
  | _ => 340282366920938463463374607431768211456
theorem lt8 {P : Nat → Prop} (h0 : P 0) (h1 : P 1) (h2 : P 2) (h3 : P 3) (h4 : P 4) (h5 : P 5) (h6 : P 6) (h7 : P 7) (j : Nat) (hj : j < 8) : P j := by
  have : j = 0 ∨ j = 1 ∨ j = 2 ∨ j = 3 ∨ j = 4 ∨ j = 5 ∨ j = 6 ∨ j = 7 := by omega
  rcases this with rfl | rfl | rfl | rfl | rfl | rfl | rfl | rfl <;> assumption
theorem dig_range (z : Int) (j : Nat) : 0 ≤ dig z j ∧ dig z j ≤ 65535 := by
  by_cases hj : j < 8
  · revert j; intro j hj
    refine lt8 (P := fun j => 0 ≤ dig z j ∧ dig z j ≤ 65535) ?_ ?_ ?_ ?_ ?_ ?_ ?_ ?_ j hj <;> (simp only [dig]; omega)
  · match j, hj with
    | j + 8, _ => simp [dig]
theorem dig_div (z : Int) (j : Nat) (hj : j < 8) : dig z j = z / pw j % 65536 := by
  refine lt8 (P := fun j => dig z j = z / pw j % 65536) ?_ ?_ ?_ ?_ ?_ ?_ ?_ ?_ j hj <;> simp only [dig, pw, Int.ediv_one]
theorem pw_succ (j : Nat) (hj : j < 8) : pw (j + 1) = pw j * 65536 := by
  refine lt8 (P := fun j => pw (j + 1) = pw j * 65536) ?_ ?_ ?_ ?_ ?_ ?_ ?_ ?_ j hj <;> rfl
theorem pw_pos (j : Nat) : 0 < pw j := by unfold pw; split <;> decide
theorem dig_congr {a b : Int} (h : (a - b) % 340282366920938463463374607431768211456 = 0) (j : Nat) : dig a j = dig b j := by
  by_cases hj : j < 8
  · refine lt8 (P := fun j => dig a j = dig b j) ?_ ?_ ?_ ?_ ?_ ?_ ?_ ?_ j hj <;> (simp only [dig]; omega)
  · match j, hj with
    | j + 8, _ => simp [dig]

/-- The carry of a sum. -/
def carr (a b : Int) (k : Nat) : Int := (a % pw k + b % pw k) / pw k
theorem carr_zero (a b : Int) : carr a b 0 = 0 := by simp only [carr, pw]; omega
theorem carr_range (a b : Int) (k : Nat) : 0 ≤ carr a b k ∧ carr a b k ≤ 1 := by
  have hp := pw_pos k
  have h1 := Int.emod_nonneg a (Int.ne_of_gt hp); have h2 := Int.emod_lt_of_pos a hp
  have h3 := Int.emod_nonneg b (Int.ne_of_gt hp); have h4 := Int.emod_lt_of_pos b hp
  unfold carr
  refine ⟨Int.ediv_nonneg (by omega) (by omega), ?_⟩
  exact Int.lt_add_one_iff.1 (Int.ediv_lt_of_lt_mul hp (by omega))
theorem plus_dig (a b : Int) (k : Nat) (hk : k < 8) : (dig a k + dig b k + carr a b k) % 65536 = dig (a + b) k := by
  refine lt8 (P := fun k => (dig a k + dig b k + carr a b k) % 65536 = dig (a + b) k) ?_ ?_ ?_ ?_ ?_ ?_ ?_ ?_ k hk <;> (simp only [dig, carr, pw]; omega)
theorem plus_carr (a b : Int) (k : Nat) (hk : k < 8) : (dig a k + dig b k + carr a b k) / 65536 = carr a b (k + 1) := by
  refine lt8 (P := fun k => (dig a k + dig b k + carr a b k) / 65536 = carr a b (k + 1)) ?_ ?_ ?_ ?_ ?_ ?_ ?_ ?_ k hk <;> (simp only [dig, carr, pw]; omega)
theorem less_dig (a : Int) (k : Nat) (hk : k < 8) : 65535 - dig a k = dig (-a - 1) k := by
  refine lt8 (P := fun k => 65535 - dig a k = dig (-a - 1) k) ?_ ?_ ?_ ?_ ?_ ?_ ?_ ?_ k hk <;> (simp only [dig]; omega)

/-- The carry of a product by a digit. -/
def carm (x b : Int) (k : Nat) : Int := x * (b % pw k) / pw k
theorem carm_zero (x b : Int) : carm x b 0 = 0 := by simp [carm, pw, Int.emod_one]
theorem carm_range (x b : Int) (k : Nat) (h0 : 0 ≤ x) (h1 : x ≤ 65535) : 0 ≤ carm x b k ∧ carm x b k ≤ 65535 := by
  have hp := pw_pos k
  have h3 := Int.emod_nonneg b (Int.ne_of_gt hp); have h4 := Int.emod_lt_of_pos b hp
  unfold carm
  refine ⟨Int.ediv_nonneg (Int.mul_nonneg h0 h3) (by omega), ?_⟩
  refine Int.lt_add_one_iff.1 (Int.ediv_lt_of_lt_mul hp ?_)
  have := Int.mul_le_mul h1 (Int.le_of_lt_add_one (by omega : b % pw k < (pw k - 1) + 1)) h3 (by omega)
  omega
theorem mod_split (b : Int) (k : Nat) (hk : k < 8) : b % pw (k + 1) = dig b k * pw k + b % pw k := by
  refine lt8 (P := fun k => b % pw (k + 1) = dig b k * pw k + b % pw k) ?_ ?_ ?_ ?_ ?_ ?_ ?_ ?_ k hk <;> (simp only [dig, pw]; omega)
theorem times_carr (x b : Int) (k : Nat) (hk : k < 8) : (x * dig b k + carm x b k) / 65536 = carm x b (k + 1) := by
  have hp := pw_pos k
  have e : x * (b % pw (k + 1)) = x * (b % pw k) + x * dig b k * pw k := by rw [mod_split b k hk, Int.mul_add, Int.mul_assoc]; omega
  unfold carm
  rw [e, pw_succ k hk, ← Int.ediv_ediv_of_nonneg (Int.le_of_lt hp), Int.add_mul_ediv_right _ _ (Int.ne_of_gt hp)]
  congr 1; omega
theorem times_dig (x b : Int) (k : Nat) (hk : k < 8) : (x * dig b k + carm x b k) % 65536 = dig (x * b) k := by
  have hp := pw_pos k
  have e : b = b / pw (k + 1) * pw (k + 1) + b % pw (k + 1) := by have := Int.mul_ediv_add_emod b (pw (k + 1)); rw [Int.mul_comm] at this; omega
  have e2 : x * b = x * (b % pw k) + (x * (b / pw (k + 1)) * 65536 + x * dig b k) * pw k := by
    calc x * b = x * (b / pw (k + 1) * pw (k + 1) + b % pw (k + 1)) := by rw [← e]
      _ = _ := by rw [mod_split b k hk, pw_succ k hk]; simp only [Int.mul_add, Int.add_mul, Int.mul_assoc]; rw [Int.mul_comm 65536 (pw k)]; omega
  rw [dig_div (x * b) k hk, e2, Int.add_mul_ediv_right _ _ (Int.ne_of_gt hp)]
  unfold carm
  omega
/-- A row of the product, moved to its place. -/
theorem dig_shift (y : Int) (i j : Nat) (hi : i < 8) (hj : j < 8) : dig (y * pw i) j = if j < i then 0 else dig y (j - i) := by
  revert j; intro j hj
  refine lt8 (P := fun i => dig (y * pw i) j = if j < i then 0 else dig y (j - i)) ?_ ?_ ?_ ?_ ?_ ?_ ?_ ?_ i hi <;>
    (refine lt8 (P := fun j => dig (y * _) j = if j < _ then 0 else dig y (j - _)) ?_ ?_ ?_ ?_ ?_ ?_ ?_ ?_ j hj <;> (simp [dig, pw]; try omega))

end Go.Proofs.Ytlkkeefcalkepaa
