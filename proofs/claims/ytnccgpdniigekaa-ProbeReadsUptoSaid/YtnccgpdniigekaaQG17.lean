/-
  Whole numbers of 128 bits as pairs (Hi, Lo): plain arithmetic, no program in sight.
-/
import Derived.RowKit
import Derived.Laws.BitsLemmas
import Derived.Laws.Bits64
namespace Go.Proofs.Ytnccgpdniigekaa
open Go.RowKit
set_option linter.unusedVariables false
set_option linter.unusedSimpArgs false

/-- The number that a pair tells; the pair of a number, modulo 2^128. -/
def I128.val (hi lo : Int) : Int := hi * 18446744073709551616 + lo
def I128.enc (z : Int) : Int × Int := (wrap64 (z / 18446744073709551616), z % 18446744073709551616)
def i64ok (x : Int) : Prop := -9223372036854775808 ≤ x ∧ x ≤ 9223372036854775807
def u64ok (x : Int) : Prop := 0 ≤ x ∧ x ≤ 18446744073709551615
instance (x : Int) : Decidable (i64ok x) := by unfold i64ok; infer_instance
instance (x : Int) : Decidable (u64ok x) := by unfold u64ok; infer_instance
/-- The numbers of 128 bits with a sign. -/
def i128ok (z : Int) : Prop := -170141183460469231731687303715884105728 ≤ z ∧ z < 170141183460469231731687303715884105728

theorem I128.enc_i64 (z : Int) : i64ok (I128.enc z).1 := by unfold I128.enc i64ok wrap64; simp only []; omega
theorem I128.enc_u64 (z : Int) : u64ok (I128.enc z).2 := by unfold I128.enc u64ok; simp only []; omega
theorem I128.val_ok {hi lo : Int} (h1 : i64ok hi) (h2 : u64ok lo) : i128ok (I128.val hi lo) := by
  unfold i64ok at h1; unfold u64ok at h2; unfold i128ok I128.val; omega
theorem I128.val_enc (z : Int) : ∃ m : Int, I128.val (I128.enc z).1 (I128.enc z).2 = z + m * 340282366920938463463374607431768211456 := by
  refine ⟨- ((z / 18446744073709551616 + 9223372036854775808) / 18446744073709551616), ?_⟩
  unfold I128.enc I128.val wrap64; simp only []; omega
theorem I128.val_enc_of {z : Int} (h : i128ok z) : I128.val (I128.enc z).1 (I128.enc z).2 = z := by
  unfold i128ok at h; unfold I128.enc I128.val wrap64; simp only []; omega
/-- Numbers that part by a multiple of 2^128 have one pair. -/
theorem I128.enc_add_mul (z m : Int) : I128.enc (z + m * 340282366920938463463374607431768211456) = I128.enc z := by
  unfold I128.enc wrap64
  refine Prod.ext ?_ ?_ <;> simp only [] <;> omega
theorem I128.enc_congr {a b : Int} (h : (a - b) % 340282366920938463463374607431768211456 = 0) : I128.enc a = I128.enc b := by
  have : a = b + ((a - b) / 340282366920938463463374607431768211456) * 340282366920938463463374607431768211456 := by omega
  rw [this, I128.enc_add_mul]
/-- What stands in a pair, may be put in the place of it: modulo. -/
theorem I128.enc_add_enc (a b : Int) : I128.enc (I128.val (I128.enc a).1 (I128.enc a).2 + I128.val (I128.enc b).1 (I128.enc b).2) = I128.enc (a + b) := by
  obtain ⟨m, hm⟩ := I128.val_enc a; obtain ⟨n, hn⟩ := I128.val_enc b
  rw [hm, hn]; apply I128.enc_congr; omega
theorem u64_range (x : Int) : 0 ≤ IntKind.u64.wrap x ∧ IntKind.u64.wrap x ≤ 18446744073709551615 := by simp only [IntKind.wrap_u64]; omega

end Go.Proofs.Ytnccgpdniigekaa
/-
  The reference's numbers: eight digits of 16 bits. Plain arithmetic, no program in sight.
-/
namespace Go.Proofs.Ytnccgpdniigekaa
open Go.RowKit
set_option linter.unusedVariables false
set_option linter.unusedSimpArgs false

/-- Digit j of a number, modulo 2^128; and what the places stand for. -/
def dig (z : Int) : Nat → Int
  | 0 => z % 65536
  | 1 => z / 65536 % 65536
  | 2 => z / 4294967296 % 65536
  | 3 => z / 281474976710656 % 65536
  | 4 => z / 18446744073709551616 % 65536
  | 5 => z / 1208925819614629174706176 % 65536
  | 6 => z / 79228162514264337593543950336 % 65536
  | 7 => z / 5192296858534827628530496329220096 % 65536
  | _ => 0
def pw : Nat → Int
  | 0 => 1
  | 1 => 65536
  | 2 => 4294967296
  | 3 => 281474976710656
  | 4 => 18446744073709551616
  | 5 => 1208925819614629174706176
  | 6 => 79228162514264337593543950336
  | 7 => 5192296858534827628530496329220096
  | _ => 340282366920938463463374607431768211456
theorem lt8 {P : Nat → Prop} (h0 : P 0) (h1 : P 1) (h2 : P 2) (h3 : P 3) (h4 : P 4) (h5 : P 5) (h6 : P 6) (h7 : P 7) (j : Nat) (hj : j < 8) : P j := by
  have : j = 0 ∨ j = 1 ∨ j = 2 ∨ j = 3 ∨ j = 4 ∨ j = 5 ∨ j = 6 ∨ j = 7 := by omega
  rcases this with rfl | rfl | rfl | rfl | rfl | rfl | rfl | rfl <;> assumption
theorem dig_range (z : Int) (j : Nat) : 0 ≤ dig z j ∧ dig z j ≤ 65535 := by
  by_cases hj : j < 8
  · revert j; intro j hj
    refine lt8 (P := fun j => 0 ≤ dig z j ∧ dig z j ≤ 65535) ?_ ?_ ?_ ?_ ?_ ?_ ?_ ?_ j hj <;> (simp only [dig]; omega)
  · match j, hj with
    | j + 8, _ => simp [dig]
theorem dig_div (z : Int) (j : Nat) (hj : j < 8) : dig z j = z / pw j % 65536 := by
  refine lt8 (P := fun j => dig z j = z / pw j % 65536) ?_ ?_ ?_ ?_ ?_ ?_ ?_ ?_ j hj <;> simp only [dig, pw, Int.ediv_one]
theorem pw_succ (j : Nat) (hj : j < 8) : pw (j + 1) = pw j * 65536 := by
  refine lt8 (P := fun j => pw (j + 1) = pw j * 65536) ?_ ?_ ?_ ?_ ?_ ?_ ?_ ?_ j hj <;> rfl
theorem pw_pos (j : Nat) : 0 < pw j := by unfold pw; split <;> decide
theorem dig_congr {a b : Int} (h : (a - b) % 340282366920938463463374607431768211456 = 0) (j : Nat) : dig a j = dig b j := by
  by_cases hj : j < 8
  · refine lt8 (P := fun j => dig a j = dig b j) ?_ ?_ ?_ ?_ ?_ ?_ ?_ ?_ j hj <;> (simp only [dig]; omega)
  · match j, hj with
    | j + 8, _ => simp [dig]

/-- The carry of a sum. -/
def carr (a b : Int) (k : Nat) : Int := (a % pw k + b % pw k) / pw k
theorem carr_zero (a b : Int) : carr a b 0 = 0 := by simp only [carr, pw]; omega
theorem carr_range (a b : Int) (k : Nat) : 0 ≤ carr a b k ∧ carr a b k ≤ 1 := by
  have hp := pw_pos k
  have h1 := Int.emod_nonneg a (Int.ne_of_gt hp); have h2 := Int.emod_lt_of_pos a hp
  have h3 := Int.emod_nonneg b (Int.ne_of_gt hp); have h4 := Int.emod_lt_of_pos b hp
  unfold carr
  refine ⟨Int.ediv_nonneg (by omega) (by omega), ?_⟩
  exact Int.lt_add_one_iff.1 (Int.ediv_lt_of_lt_mul hp (by omega))
theorem plus_dig (a b : Int) (k : Nat) (hk : k < 8) : (dig a k + dig b k + carr a b k) % 65536 = dig (a + b) k := by
  refine lt8 (P := fun k => (dig a k + dig b k + carr a b k) % 65536 = dig (a + b) k) ?_ ?_ ?_ ?_ ?_ ?_ ?_ ?_ k hk <;> (simp only [dig, carr, pw]; omega)
theorem plus_carr (a b : Int) (k : Nat) (hk : k < 8) : (dig a k + dig b k + carr a b k) / 65536 = carr a b (k + 1) := by
  refine lt8 (P := fun k => (dig a k + dig b k + carr a b k) / 65536 = carr a b (k + 1)) ?_ ?_ ?_ ?_ ?_ ?_ ?_ ?_ k hk <;> (simp only [dig, carr, pw]; omega)
theorem less_dig (a : Int) (k : Nat) (hk : k < 8) : 65535 - dig a k = dig (-a - 1) k := by
  refine lt8 (P := fun k => 65535 - dig a k = dig (-a - 1) k) ?_ ?_ ?_ ?_ ?_ ?_ ?_ ?_ k hk <;> (simp only [dig]; omega)

/-- The carry of a product by a digit. -/
def carm (x b : Int) (k : Nat) : Int := x * (b % pw k) / pw k
theorem carm_zero (x b : Int) : carm x b 0 = 0 := by simp [carm, pw, Int.emod_one]
theorem carm_range (x b : Int) (k : Nat) (h0 : 0 ≤ x) (h1 : x ≤ 65535) : 0 ≤ carm x b k ∧ carm x b k ≤ 65535 := by
  have hp := pw_pos k
  have h3 := Int.emod_nonneg b (Int.ne_of_gt hp); have h4 := Int.emod_lt_of_pos b hp
  unfold carm
  refine ⟨Int.ediv_nonneg (Int.mul_nonneg h0 h3) (by omega), ?_⟩
  refine Int.lt_add_one_iff.1 (Int.ediv_lt_of_lt_mul hp ?_)
  have := Int.mul_le_mul h1 (Int.le_of_lt_add_one (by omega : b % pw k < (pw k - 1) + 1)) h3 (by omega)
  omega
theorem mod_split (b : Int) (k : Nat) (hk : k < 8) : b % pw (k + 1) = dig b k * pw k + b % pw k := by
  refine lt8 (P := fun k => b % pw (k + 1) = dig b k * pw k + b % pw k) ?_ ?_ ?_ ?_ ?_ ?_ ?_ ?_ k hk <;> (simp only [dig, pw]; omega)
theorem times_carr (x b : Int) (k : Nat) (hk : k < 8) : (x * dig b k + carm x b k) / 65536 = carm x b (k + 1) := by
  have hp := pw_pos k
  have e : x * (b % pw (k + 1)) = x * (b % pw k) + x * dig b k * pw k := by rw [mod_split b k hk, Int.mul_add, Int.mul_assoc]; omega
  unfold carm
  rw [e, pw_succ k hk, ← Int.ediv_ediv_of_nonneg (Int.le_of_lt hp), Int.add_mul_ediv_right _ _ (Int.ne_of_gt hp)]
  congr 1; omega
theorem times_dig (x b : Int) (k : Nat) (hk : k < 8) : (x * dig b k + carm x b k) % 65536 = dig (x * b) k := by
  have hp := pw_pos k
  have e : b = b / pw (k + 1) * pw (k + 1) + b % pw (k + 1) := by have := Int.mul_ediv_add_emod b (pw (k + 1)); rw [Int.mul_comm] at this; omega
  have e2 : x * b = x * (b % pw k) + (x * (b / pw (k + 1)) * 65536 + x * dig b k) * pw k := by
    calc x * b = x * (b / pw (k + 1) * pw (k + 1) + b % pw (k + 1)) := by rw [← e]
      _ = _ := by rw [mod_split b k hk, pw_succ k hk]; simp only [Int.mul_add, Int.add_mul, Int.mul_assoc]; rw [Int.mul_comm 65536 (pw k)]; omega
  rw [dig_div (x * b) k hk, e2, Int.add_mul_ediv_right _ _ (Int.ne_of_gt hp)]
  unfold carm
  omega
/-- A row of the product, moved to its place. -/
theorem dig_shift (y : Int) (i j : Nat) (hi : i < 8) (hj : j < 8) : dig (y * pw i) j = if j < i then 0 else dig y (j - i) := by
  revert j; intro j hj
  refine lt8 (P := fun i => dig (y * pw i) j = if j < i then 0 else dig y (j - i)) ?_ ?_ ?_ ?_ ?_ ?_ ?_ ?_ i hi <;>
    (refine lt8 (P := fun j => dig (y * _) j = if j < _ then 0 else dig y (j - _)) ?_ ?_ ?_ ?_ ?_ ?_ ?_ ?_ j hj <;> (simp [dig, pw]; try omega))

end Go.Proofs.Ytnccgpdniigekaa
/-
  Which of two numbers of 128 bits is below the other, by their digits from the top.
-/
namespace Go.Proofs.Ytnccgpdniigekaa
open Go.RowKit
set_option linter.unusedVariables false

def cmpI (x y : Int) : Int := if x < y then -1 else if x = y then 0 else 1
theorem cmpI_lt {x y : Int} (h : x < y) : cmpI x y = -1 := by unfold cmpI; rw [if_pos h]
theorem cmpI_eq {x y : Int} (h : x = y) : cmpI x y = 0 := by unfold cmpI; rw [if_neg (by omega), if_pos h]
theorem cmpI_gt {x y : Int} (h : y < x) : cmpI x y = 1 := by unfold cmpI; rw [if_neg (by omega), if_neg (by omega)]
theorem sign_dig {z : Int} (h : i128ok z) : (32768 ≤ dig z 7) ↔ z < 0 := by unfold i128ok at h; simp only [dig]; omega
/-- What stands from place k on. -/
def top (z : Int) (k : Nat) : Int := z % 340282366920938463463374607431768211456 / pw k
end Go.Proofs.Ytnccgpdniigekaa
/-
  A quotient bit by bit: plain arithmetic.
-/
namespace Go.Proofs.Ytnccgpdniigekaa
open Go.RowKit
set_option linter.unusedVariables false

def p2 : Nat → Int
  | 0 => 1 | 1 => 2 | 2 => 4 | 3 => 8 | 4 => 16 | 5 => 32 | 6 => 64 | 7 => 128 | 8 => 256 | 9 => 512 | 10 => 1024 | 11 => 2048 | 12 => 4096 | 13 => 8192 | 14 => 16384 | 15 => 32768 | _ => 65536
/-- The inner loop's mask. -/
def kk : Nat → Int
  | 0 => 0
  | s + 1 => p2 s
theorem p2_pos (s : Nat) : 0 < p2 s := by unfold p2; split <;> decide
theorem p2_le (s : Nat) : p2 s ≤ 65536 := by unfold p2; split <;> decide
theorem lt16 {P : Nat → Prop} (h : P 0 ∧ P 1 ∧ P 2 ∧ P 3 ∧ P 4 ∧ P 5 ∧ P 6 ∧ P 7 ∧ P 8 ∧ P 9 ∧ P 10 ∧ P 11 ∧ P 12 ∧ P 13 ∧ P 14 ∧ P 15) (s : Nat) (hs : s < 16) : P s := by
  obtain ⟨h0, h1, h2, h3, h4, h5, h6, h7, h8, h9, h10, h11, h12, h13, h14, h15⟩ := h
  have : s = 0 ∨ s = 1 ∨ s = 2 ∨ s = 3 ∨ s = 4 ∨ s = 5 ∨ s = 6 ∨ s = 7 ∨ s = 8 ∨ s = 9 ∨ s = 10 ∨ s = 11 ∨ s = 12 ∨ s = 13 ∨ s = 14 ∨ s = 15 := by omega
  rcases this with rfl | rfl | rfl | rfl | rfl | rfl | rfl | rfl | rfl | rfl | rfl | rfl | rfl | rfl | rfl | rfl <;> assumption
theorem kk_half (s : Nat) (hs : s < 16) : kk (s + 1) / 2 = kk s := by
  refine lt16 (P := fun s => kk (s + 1) / 2 = kk s) (by refine ⟨?_, ?_, ?_, ?_, ?_, ?_, ?_, ?_, ?_, ?_, ?_, ?_, ?_, ?_, ?_, ?_⟩ <;> (rfl)) s hs
theorem kk_range (s : Nat) : 0 ≤ kk s ∧ kk s ≤ 65536 := by
  cases s with
  | zero => decide
  | succ s => exact ⟨Int.le_of_lt (p2_pos s), p2_le s⟩
theorem kk_lt (s : Nat) (hs : s < 16) : kk s < kk (s + 1) := by
  refine lt16 (P := fun s => kk s < kk (s + 1)) (by refine ⟨?_, ?_, ?_, ?_, ?_, ?_, ?_, ?_, ?_, ?_, ?_, ?_, ?_, ?_, ?_, ?_⟩ <;> (decide)) s hs
/-- What stands above bit s of digit m. -/
def above (z : Int) (m s : Nat) : Int := z / pw m / p2 s
def bit (z : Int) (m s : Nat) : Int := dig z m / p2 s % 2
theorem half_step (y : Int) (s : Nat) (hs : s < 16) : y / p2 s = 2 * (y / p2 (s + 1)) + y % 65536 / p2 s % 2 := by
  refine lt16 (P := fun s => y / p2 s = 2 * (y / p2 (s + 1)) + y % 65536 / p2 s % 2) (by refine ⟨?_, ?_, ?_, ?_, ?_, ?_, ?_, ?_, ?_, ?_, ?_, ?_, ?_, ?_, ?_, ?_⟩ <;> (simp only [p2]; omega)) s hs
theorem above_step (z : Int) (m s : Nat) (hm : m < 8) (hs : s < 16) : above z m s = 2 * above z m (s + 1) + bit z m s := by
  unfold above bit; rw [dig_div z m hm]; exact half_step _ s hs
theorem above_zero (z : Int) (m : Nat) : above z m 0 = z / pw m := by unfold above; simp only [p2, Int.ediv_one]
theorem above_sixteen (z : Int) (m : Nat) (hm : m < 8) : above z m 16 = z / pw (m + 1) := by
  unfold above; rw [pw_succ m hm, ← Int.ediv_ediv_of_nonneg (Int.le_of_lt (pw_pos m))]; rfl
theorem bit_range (z : Int) (m s : Nat) : 0 ≤ bit z m s ∧ bit z m s ≤ 1 := by unfold bit; omega
theorem above_div (z d : Int) (m s : Nat) (hd : 0 < d) : above (z / d) m s = above z m s / d := by
  unfold above
  have e1 := pw_pos m; have e2 := p2_pos s
  rw [Int.ediv_ediv_of_nonneg (Int.le_of_lt hd), Int.mul_comm, ← Int.ediv_ediv_of_nonneg (Int.le_of_lt e1), Int.ediv_ediv_of_nonneg (Int.le_of_lt hd), Int.mul_comm d, ← Int.ediv_ediv_of_nonneg (Int.le_of_lt e2)]
/-- One bit more: the rest, and the quotient's bit. -/
theorem div_step (h b d : Int) (hd : 0 < d) (hb0 : 0 ≤ b) (hb1 : b ≤ 1) : (2 * h + b) / d = 2 * (h / d) + (if d ≤ 2 * (h % d) + b then 1 else 0) ∧ (2 * h + b) % d = if d ≤ 2 * (h % d) + b then 2 * (h % d) + b - d else 2 * (h % d) + b := by
  have e := Int.mul_ediv_add_emod h d
  have r0 := Int.emod_nonneg h (Int.ne_of_gt hd); have r1 := Int.emod_lt_of_pos h hd
  have e2 : 2 * h + b = d * (2 * (h / d)) + (2 * (h % d) + b) := by rw [Int.mul_left_comm]; omega
  split
  · rename_i hc
    have e3 : 2 * h + b = (2 * (h % d) + b - d) + d * (2 * (h / d) + 1) := by rw [Int.mul_add]; omega
    rw [e3, Int.add_mul_ediv_left _ _ (Int.ne_of_gt hd), Int.add_mul_emod_self_left]
    rw [Int.ediv_eq_zero_of_lt (by omega) (by omega), Int.emod_eq_of_lt (by omega) (by omega)]; omega
  · rename_i hc
    have e3 : 2 * h + b = (2 * (h % d) + b) + d * (2 * (h / d)) := by omega
    rw [e3, Int.add_mul_ediv_left _ _ (Int.ne_of_gt hd), Int.add_mul_emod_self_left]
    rw [Int.ediv_eq_zero_of_lt (by omega) (by omega), Int.emod_eq_of_lt (by omega) (by omega)]; omega
/-- Of the step in the machine: the doubled rest, a bit more, and whether the divisor is taken off. -/
theorem rest_step (M d : Int) (m s : Nat) (hm : m < 8) (hs : s < 16) (hd : 0 < d) :
    above M m s % d = (if d ≤ 2 * (above M m (s + 1) % d) + bit M m s then 2 * (above M m (s + 1) % d) + bit M m s - d else 2 * (above M m (s + 1) % d) + bit M m s) ∧
    bit (M / d) m s = (if d ≤ 2 * (above M m (s + 1) % d) + bit M m s then 1 else 0) := by
  have hb := bit_range M m s
  have D := div_step (above M m (s + 1)) (bit M m s) d hd hb.1 hb.2
  have e1 := above_step M m s hm hs
  have e2 := above_step (M / d) m s hm hs
  rw [above_div M d m s hd, above_div M d m (s + 1) hd, e1] at e2
  rw [e1]
  exact ⟨D.2, by have := D.1; omega⟩
/-- The quotient's digits as far as they are found: above digit m, and of it the bits from s on. -/
def got (Q : Int) (m s : Nat) (j : Nat) : Int := if m < j then dig Q j else if j = m then dig Q m / p2 s * p2 s else 0
theorem got_step (Q : Int) (m s : Nat) (hs : s < 16) : dig Q m / p2 s * p2 s = dig Q m / p2 (s + 1) * p2 (s + 1) + bit Q m s * p2 s := by
  have hd := dig_range Q m
  unfold bit
  generalize dig Q m = y at *
  revert s; intro s hs
  refine lt16 (P := fun s => y / p2 s * p2 s = y / p2 (s + 1) * p2 (s + 1) + y / p2 s % 2 * p2 s) (by refine ⟨?_, ?_, ?_, ?_, ?_, ?_, ?_, ?_, ?_, ?_, ?_, ?_, ?_, ?_, ?_, ?_⟩ <;> (simp only [p2]; omega)) s hs
theorem got_zero (Q : Int) (m j : Nat) : got Q m 0 j = if m ≤ j then dig Q j else 0 := by
  unfold got; simp only [p2, Int.ediv_one, Int.mul_one]
  by_cases h1 : m < j
  · rw [if_pos h1, if_pos (by omega)]
  · by_cases h2 : j = m
    · subst h2; simp
    · rw [if_neg h1, if_neg h2, if_neg (by omega)]
theorem got_top (Q : Int) (m j : Nat) : got Q m 16 j = if m + 1 ≤ j then dig Q j else 0 := by
  have := dig_range Q m
  unfold got
  by_cases h1 : m < j
  · have h3 : m + 1 ≤ j := by omega
    simp only [h1, h3, if_true]
  · have h3 : ¬ m + 1 ≤ j := by omega
    simp only [h1, h3, if_false]
    by_cases h2 : j = m
    · rw [if_pos h2]; simp only [p2]; omega
    · rw [if_neg h2]
theorem neg_exact (v d : Int) (hd : 0 < d) (h : -v % d = 0) : v / d = -(-v / d) ∧ v % d = 0 := by
  have e := Int.mul_ediv_add_emod (-v) d
  have e3 : v = 0 + d * (-(-v / d)) := by rw [Int.mul_neg]; omega
  generalize -v / d = q at *
  subst e3
  rw [Int.add_mul_ediv_left _ _ (Int.ne_of_gt hd), Int.add_mul_emod_self_left]; simp
theorem neg_part (v d : Int) (hd : 0 < d) (h : 0 < -v % d) : v / d = -(-v / d + 1) ∧ v % d = d - -v % d := by
  have e := Int.mul_ediv_add_emod (-v) d
  have r1 := Int.emod_lt_of_pos (-v) hd
  have e3 : v = (d - -v % d) + d * (-(-v / d + 1)) := by rw [Int.mul_neg, Int.mul_add]; omega
  generalize -v / d = q at *
  generalize hr : -v % d = r at *
  clear hr
  subst e3
  rw [Int.add_mul_ediv_left _ _ (Int.ne_of_gt hd), Int.add_mul_emod_self_left, Int.ediv_eq_zero_of_lt (by omega) (by omega), Int.emod_eq_of_lt (by omega) (by omega)]; simp
theorem dig_top (z : Int) (h0 : 0 ≤ z) (h1 : z < 340282366920938463463374607431768211456) : z / pw 8 = 0 := by simp only [pw]; omega

end Go.Proofs.Ytnccgpdniigekaa
