/-
  A quotient by halves of 32 bits, as bits.Div64 has it: plain arithmetic.
-/
import Derived.Test.YtnccgpdniigekaaQG17
import Derived.Lib.BitFns
import Derived.Laws.Bits64
import Derived.Test.YtnccgpdniigekaaQG28
import Derived.Test.YtnccgpdniigekaaQShelf
import Derived.Deep.DeepCutAuto
import Derived.Deep.CutBlock
namespace Go.Proofs.Ytnccgpdniigekaa
open Go.RowKit
set_option linter.unusedVariables false

/-- How many bits stand ahead of the highest that is set. -/
def lz (y : Int) : Int := 64 - (Lib.bitLen y.toNat : Int)
theorem bitLenAux_bounds : ∀ (f x : Nat), 0 < x → x < 2 ^ f → 0 < Lib.bitLenAux f x ∧ Lib.bitLenAux f x ≤ f ∧ 2 ^ (Lib.bitLenAux f x - 1) ≤ x ∧ x < 2 ^ Lib.bitLenAux f x := by
  intro f
  induction f with
  | zero => intro x h0 h1; simp at h1; omega
  | succ f ih =>
    intro x h0 h1
    rw [Lib.bitLenAux, if_neg (by omega)]
    by_cases h : x / 2 = 0
    · have : x = 1 := by omega
      subst this
      have e : Lib.bitLenAux f (1 / 2) = 0 := by cases f <;> simp [Lib.bitLenAux]
      rw [e]; simp
    · obtain ⟨i1, i2, i3, i4⟩ := ih (x / 2) (by omega) (by rw [Nat.pow_succ] at h1; omega)
      generalize Lib.bitLenAux f (x / 2) = n at *
      refine ⟨by omega, by omega, ?_, ?_⟩
      · have : 2 ^ (1 + n - 1) = 2 * 2 ^ (n - 1) := by rw [show 1 + n - 1 = (n - 1) + 1 from by omega, Nat.pow_succ]; omega
        rw [this]; omega
      · rw [Nat.add_comm, Nat.pow_succ]; omega
theorem lz_spec (y : Int) (h0 : 0 < y) (h1 : y ≤ 18446744073709551615) : 0 ≤ lz y ∧ lz y ≤ 63 ∧ 9223372036854775808 ≤ y * 2 ^ (lz y).toNat ∧ y * 2 ^ (lz y).toNat ≤ 18446744073709551615 := by
  obtain ⟨n, rfl⟩ := Int.eq_ofNat_of_zero_le (Int.le_of_lt h0)
  obtain ⟨b1, b2, b3, b4⟩ := bitLenAux_bounds 64 n (by omega) (by omega)
  have e : lz (n : Int) = 64 - (Lib.bitLenAux 64 n : Int) := rfl
  generalize Lib.bitLenAux 64 n = k at *
  have e2 : (lz (n : Int)).toNat = 64 - k := by omega
  rw [e2]
  refine ⟨by omega, by omega, ?_, ?_⟩
  · have : 2 ^ (k - 1) * 2 ^ (64 - k) = 9223372036854775808 := by rw [← Nat.pow_add, show k - 1 + (64 - k) = 63 from by omega]
    have := Nat.mul_le_mul_right (2 ^ (64 - k)) b3
    have h : ((9223372036854775808 : Nat) : Int) ≤ ((n * 2 ^ (64 - k) : Nat) : Int) := by omega
    simpa using h
  · have : 2 ^ k * 2 ^ (64 - k) = 18446744073709551616 := by rw [← Nat.pow_add, show k + (64 - k) = 64 from by omega]
    have := Nat.mul_lt_mul_of_pos_right b4 (Nat.two_pow_pos (64 - k))
    have h : ((n * 2 ^ (64 - k) : Nat) : Int) ≤ ((18446744073709551615 : Nat) : Int) := by omega
    simpa using h

/-- What is known of a digit's guess: q times a, and r, are u. -/
structure Guess (u a b c q r : Int) : Prop where
  q0 : 0 ≤ q
  q1 : q ≤ 8589934592
  r0 : 0 ≤ r
  r1 : r < 4294967296
  eq : q * a + r = u
  le : (u * 4294967296 + c) / (a * 4294967296 + b) ≤ q
section
variable {u a b c q r : Int}
structure Norm (u a b c : Int) : Prop where
  a0 : 2147483648 ≤ a
  a1 : a < 4294967296
  b0 : 0 ≤ b
  b1 : b < 4294967296
  c0 : 0 ≤ c
  c1 : c < 4294967296
  u0 : 0 ≤ u
  u1 : u < a * 4294967296 + b
theorem Norm.num (n : Norm u a b c) (e : q * a + r = u) : u * 4294967296 + c = q * (a * 4294967296 + b) + (r * 4294967296 + c - q * b) := by
  rw [← e]; simp only [Int.mul_add, Int.add_mul, Int.mul_assoc]; omega
theorem Norm.small (n : Norm u a b c) : (u * 4294967296 + c) / (a * 4294967296 + b) < 4294967296 := by
  obtain ⟨a0, a1, b0, b1, c0, c1, u0, u1⟩ := n
  exact Int.ediv_lt_of_lt_mul (by omega) (by omega)
theorem Norm.first (n : Norm u a b c) : Guess u a b c (u / a) (u - u / a * a) := by
  obtain ⟨a0, a1, b0, b1, c0, c1, u0, u1⟩ := n
  have e := Int.mul_ediv_add_emod u a
  have r0 := Int.emod_nonneg u (show a ≠ 0 by omega)
  have r1 := Int.emod_lt_of_pos u (show 0 < a by omega)
  have e' : u / a * a + u % a = u := by rw [Int.mul_comm]; exact e
  have q0 : 0 ≤ u / a := Int.ediv_nonneg u0 (by omega)
  refine ⟨q0, ?_, by omega, by omega, by omega, ?_⟩
  · refine Int.lt_add_one_iff.1 (Int.ediv_lt_of_lt_mul (by omega) ?_)
    omega
  · have h := Norm.num (q := u / a) (r := u % a) ⟨a0, a1, b0, b1, c0, c1, u0, u1⟩ e'
    rw [h]
    have hb : 0 ≤ u / a * b := Int.mul_nonneg q0 b0
    rw [Int.add_comm, Int.add_mul_ediv_right _ _ (show a * 4294967296 + b ≠ 0 by omega)]
    have : (u % a * 4294967296 + c - u / a * b) / (a * 4294967296 + b) < 1 := Int.ediv_lt_of_lt_mul (by omega) (by omega)
    omega
theorem Guess.more (g : Guess u a b c q r) (n : Norm u a b c) (h : 4294967296 ≤ q ∨ r * 4294967296 + c < q * b) : (u * 4294967296 + c) / (a * 4294967296 + b) ≤ q - 1 := by
  have h1 := n.num g.eq
  have h2 := n.small
  rcases h with h | h
  · omega
  · obtain ⟨a0, a1, b0, b1, c0, c1, u0, u1⟩ := n
    have : (u * 4294967296 + c) / (a * 4294967296 + b) < q := Int.ediv_lt_of_lt_mul (by omega) (by rw [h1]; omega)
    omega
theorem Guess.next (g : Guess u a b c q r) (n : Norm u a b c) (h : 4294967296 ≤ q ∨ r * 4294967296 + c < q * b) (hr : r + a < 4294967296) : Guess u a b c (q - 1) (r + a) := by
  have m := g.more n h
  have hq : 0 ≤ (u * 4294967296 + c) / (a * 4294967296 + b) := by
    obtain ⟨a0, a1, b0, b1, c0, c1, u0, u1⟩ := n
    exact Int.ediv_nonneg (by omega) (by omega)
  have e := g.eq
  exact ⟨by omega, by have := g.q1; omega, by have := g.r0; have := n.a0; omega, hr, by rw [Int.sub_mul]; omega, m⟩
theorem Guess.last (g : Guess u a b c q r) (n : Norm u a b c) (h : 4294967296 ≤ q ∨ r * 4294967296 + c < q * b) (hr : 4294967296 ≤ r + a) : q - 1 = (u * 4294967296 + c) / (a * 4294967296 + b) := by
  have m := g.more n h
  have e := g.eq
  have e' : (q - 1) * a + (r + a) = u := by rw [Int.sub_mul]; omega
  have h1 := n.num e'
  have hq : 0 ≤ (u * 4294967296 + c) / (a * 4294967296 + b) := by
    obtain ⟨a0, a1, b0, b1, c0, c1, u0, u1⟩ := n
    exact Int.ediv_nonneg (by omega) (by omega)
  obtain ⟨a0, a1, b0, b1, c0, c1, u0, u1⟩ := n
  have hlt : q - 1 < 4294967296 := by
    apply Classical.byContradiction; intro hc
    have := Int.mul_le_mul_of_nonneg_right (show 4294967296 ≤ q - 1 by omega) (show 0 ≤ a by omega)
    omega
  have hb : (q - 1) * b ≤ 4294967295 * 4294967295 := Int.mul_le_mul (by omega) (by omega) b0 (by omega)
  have : q - 1 ≤ (u * 4294967296 + c) / (a * 4294967296 + b) := Int.le_ediv_of_mul_le (by omega) (by rw [h1]; omega)
  omega
end

end Go.Proofs.Ytnccgpdniigekaa
/-
  bits.Div64 comes to the quotient and the rest of a number of 128 bits.
-/
namespace Go.Proofs.Ytnccgpdniigekaa
open Go.RowKit
set_option linter.unusedVariables false
set_option linter.unusedSimpArgs false

end Go.Proofs.Ytnccgpdniigekaa
