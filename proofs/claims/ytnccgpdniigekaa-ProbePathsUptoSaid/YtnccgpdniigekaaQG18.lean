/-
  A quotient by halves of 32 bits, as bits.Div64 has it: plain arithmetic.
-/
import Derived.Test.YtnccgpdniigekaaQG17
import Derived.Lib.BitFns
import Derived.Laws.Bits64
import Derived.Test.YtnccgpdniigekaaQG28
import Derived.Test.YtnccgpdniigekaaQShelf
import Derived.Deep.DeepCutAuto
import Derived.Deep.CutBlock
namespace Go.Proofs.Ytnccgpdniigekaa
open Go.RowKit
set_option linter.unusedVariables false

/-- How many bits stand ahead of the highest that is set. -/
def lz (y : Int) : Int := 64 - (Lib.bitLen y.toNat : Int)
theorem bitLenAux_bounds : ∀ (f x : Nat), 0 < x → x < 2 ^ f → 0 < Lib.bitLenAux f x ∧ Lib.bitLenAux f x ≤ f ∧ 2 ^ (Lib.bitLenAux f x - 1) ≤ x ∧ x < 2 ^ Lib.bitLenAux f x := by
  intro f
  induction f with
  | zero => intro x h0 h1; simp at h1; omega
  | succ f ih =>
    intro x h0 h1
    rw [Lib.bitLenAux, if_neg (by omega)]
    by_cases h : x / 2 = 0
    · have : x = 1 := by omega
      subst this
      have e : Lib.bitLenAux f (1 / 2) = 0 := by cases f <;> simp [Lib.bitLenAux]
      rw [e]; simp
    · obtain ⟨i1, i2, i3, i4⟩ := ih (x / 2) (by omega) (by rw [Nat.pow_succ] at h1; omega)
      generalize Lib.bitLenAux f (x / 2) = n at *
      refine ⟨by omega, by omega, ?_, ?_⟩
      · have : 2 ^ (1 + n - 1) = 2 * 2 ^ (n - 1) := by rw [show 1 + n - 1 = (n - 1) + 1 from by omega, Nat.pow_succ]; omega
        rw [this]; omega
      · rw [Nat.add_comm, Nat.pow_succ]; omega
theorem lz_spec (y : Int) (h0 : 0 < y) (h1 : y ≤ 18446744073709551615) : 0 ≤ lz y ∧ lz y ≤ 63 ∧ 9223372036854775808 ≤ y * 2 ^ (lz y).toNat ∧ y * 2 ^ (lz y).toNat ≤ 18446744073709551615 := by
  obtain ⟨n, rfl⟩ := Int.eq_ofNat_of_zero_le (Int.le_of_lt h0)
  obtain ⟨b1, b2, b3, b4⟩ := bitLenAux_bounds 64 n (by omega) (by omega)
  have e : lz (n : Int) = 64 - (Lib.bitLenAux 64 n : Int) := rfl
  generalize Lib.bitLenAux 64 n = k at *
  have e2 : (lz (n : Int)).toNat = 64 - k := by omega
  rw [e2]
  refine ⟨by omega, by omega, ?_, ?_⟩
  · have : 2 ^ (k - 1) * 2 ^ (64 - k) = 9223372036854775808 := by rw [← Nat.pow_add, show k - 1 + (64 - k) = 63 from by omega]
    have := Nat.mul_le_mul_right (2 ^ (64 - k)) b3
    have h : ((9223372036854775808 : Nat) : Int) ≤ ((n * 2 ^ (64 - k) : Nat) : Int) := by omega
    simpa using h
  · have : 2 ^ k * 2 ^ (64 - k) = 18446744073709551616 := by rw [← Nat.pow_add, show k + (64 - k) = 64 from by omega]
    have := Nat.mul_lt_mul_of_pos_right b4 (Nat.two_pow_pos (64 - k))
    have h : ((n * 2 ^ (64 - k) : Nat) : Int) ≤ ((18446744073709551615 : Nat) : Int) := by omega
    simpa using h

/-- What is known of a digit's guess: q times a, and r, are u. -/
structure Guess (u a b c q r : Int) : Prop where
  q0 : 0 ≤ q
  q1 : q ≤ 8589934592
  r0 : 0 ≤ r
  r1 : r < 4294967296
  eq : q * a + r = u
  le : (u * 4294967296 + c) / (a * 4294967296 + b) ≤ q
section
variable {u a b c q r : Int}
structure Norm (u a b c : Int) : Prop where
  a0 : 2147483648 ≤ a
  a1 : a < 4294967296
  b0 : 0 ≤ b
  b1 : b < 4294967296
  c0 : 0 ≤ c
  c1 : c < 4294967296
  u0 : 0 ≤ u
  u1 : u < a * 4294967296 + b
theorem Norm.num (n : Norm u a b c) (e : q * a + r = u) : u * 4294967296 + c = q * (a * 4294967296 + b) + (r * 4294967296 + c - q * b) := by
  rw [← e]; simp only [Int.mul_add, Int.add_mul, Int.mul_assoc]; omega
theorem Norm.small (n : Norm u a b c) : (u * 4294967296 + c) / (a * 4294967296 + b) < 4294967296 := by
  obtain ⟨a0, a1, b0, b1, c0, c1, u0, u1⟩ := n
  exact Int.ediv_lt_of_lt_mul (by omega) (by omega)
theorem Norm.first (n : Norm u a b c) : Guess u a b c (u / a) (u - u / a * a) := by
  obtain ⟨a0, a1, b0, b1, c0, c1, u0, u1⟩ := n
  have e := Int.mul_ediv_add_emod u a
  have r0 := Int.emod_nonneg u (show a ≠ 0 by omega)
  have r1 := Int.emod_lt_of_pos u (show 0 < a by omega)
  have e' : u / a * a + u % a = u := by rw [Int.mul_comm]; exact e
  have q0 : 0 ≤ u / a := Int.ediv_nonneg u0 (by omega)
  refine ⟨q0, ?_, by omega, by omega, by omega, ?_⟩
  · refine Int.lt_add_one_iff.1 (Int.ediv_lt_of_lt_mul (by omega) ?_)
    omega
  · have h := Norm.num (q := u / a) (r := u % a) ⟨a0, a1, b0, b1, c0, c1, u0, u1⟩ e'
    rw [h]
    have hb : 0 ≤ u / a * b := Int.mul_nonneg q0 b0
    rw [Int.add_comm, Int.add_mul_ediv_right _ _ (show a * 4294967296 + b ≠ 0 by omega)]
    have : (u % a * 4294967296 + c - u / a * b) / (a * 4294967296 + b) < 1 := Int.ediv_lt_of_lt_mul (by omega) (by omega)
    omega
theorem Guess.stop (g : Guess u a b c q r) (n : Norm u a b c) (h2 : q * b ≤ r * 4294967296 + c) : q = (u * 4294967296 + c) / (a * 4294967296 + b) := by
  have h := n.num g.eq
  obtain ⟨a0, a1, b0, b1, c0, c1, u0, u1⟩ := n
  have : q ≤ (u * 4294967296 + c) / (a * 4294967296 + b) := Int.le_ediv_of_mul_le (by omega) (by rw [h]; omega)
  have := g.le
  omega
theorem Guess.more (g : Guess u a b c q r) (n : Norm u a b c) (h : 4294967296 ≤ q ∨ r * 4294967296 + c < q * b) : (u * 4294967296 + c) / (a * 4294967296 + b) ≤ q - 1 := by
  have h1 := n.num g.eq
  have h2 := n.small
  rcases h with h | h
  · omega
  · obtain ⟨a0, a1, b0, b1, c0, c1, u0, u1⟩ := n
    have : (u * 4294967296 + c) / (a * 4294967296 + b) < q := Int.ediv_lt_of_lt_mul (by omega) (by rw [h1]; omega)
    omega
theorem Guess.next (g : Guess u a b c q r) (n : Norm u a b c) (h : 4294967296 ≤ q ∨ r * 4294967296 + c < q * b) (hr : r + a < 4294967296) : Guess u a b c (q - 1) (r + a) := by
  have m := g.more n h
  have hq : 0 ≤ (u * 4294967296 + c) / (a * 4294967296 + b) := by
    obtain ⟨a0, a1, b0, b1, c0, c1, u0, u1⟩ := n
    exact Int.ediv_nonneg (by omega) (by omega)
  have e := g.eq
  exact ⟨by omega, by have := g.q1; omega, by have := g.r0; have := n.a0; omega, hr, by rw [Int.sub_mul]; omega, m⟩
theorem Guess.last (g : Guess u a b c q r) (n : Norm u a b c) (h : 4294967296 ≤ q ∨ r * 4294967296 + c < q * b) (hr : 4294967296 ≤ r + a) : q - 1 = (u * 4294967296 + c) / (a * 4294967296 + b) := by
  have m := g.more n h
  have e := g.eq
  have e' : (q - 1) * a + (r + a) = u := by rw [Int.sub_mul]; omega
  have h1 := n.num e'
  have hq : 0 ≤ (u * 4294967296 + c) / (a * 4294967296 + b) := by
    obtain ⟨a0, a1, b0, b1, c0, c1, u0, u1⟩ := n
    exact Int.ediv_nonneg (by omega) (by omega)
  obtain ⟨a0, a1, b0, b1, c0, c1, u0, u1⟩ := n
  have hlt : q - 1 < 4294967296 := by
    apply Classical.byContradiction; intro hc
    have := Int.mul_le_mul_of_nonneg_right (show 4294967296 ≤ q - 1 by omega) (show 0 ≤ a by omega)
    omega
  have hb : (q - 1) * b ≤ 4294967295 * 4294967295 := Int.mul_le_mul (by omega) (by omega) b0 (by omega)
  have : q - 1 ≤ (u * 4294967296 + c) / (a * 4294967296 + b) := Int.le_ediv_of_mul_le (by omega) (by rw [h1]; omega)
  omega
end

end Go.Proofs.Ytnccgpdniigekaa
/-
  bits.Div64 comes to the quotient and the rest of a number of 128 bits.
-/
namespace Go.Proofs.Ytnccgpdniigekaa
open Go.RowKit
set_option linter.unusedVariables false
set_option linter.unusedSimpArgs false

theorem lz_any (y : Int) (h : u64ok y) (w : World) : Calls Try.prog 98 #[.int .u64 y] w fun e w' => e = .returned (.int .i64 (lz y)) ∧ w = w' := by
  refine (Try.bits_LeadingZeros64 y w h.1 h.2).mono ?_
  rintro e w' ⟨rfl, hw⟩
  exact ⟨rfl, hw.symm⟩

/-- The numbers that the division is made of, each under a letter. -/
structure D64 (hi lo y Y U X a b c c0 : Int) : Prop where
  eY : IntKind.u64.wrap (y * 2 ^ (lz y).toNat) = Y
  eU : bits .or .u64 (IntKind.u64.wrap (hi * 2 ^ (lz y).toNat)) (lo / 2 ^ (64 - lz y).toNat) = U
  eX : IntKind.u64.wrap (lo * 2 ^ (lz y).toNat) = X
  ea : Y / 4294967296 = a
  eb : bits .and .u64 Y 4294967295 = b
  ec : X / 4294967296 = c
  ec0 : bits .and .u64 X 4294967295 = c0
  n1 : Norm U a b c
  c00 : 0 ≤ c0
  c01 : c0 < 4294967296
  sY : Y = a * 4294967296 + b
  Y1 : Y ≤ 18446744073709551615
  tY : Y = y * 2 ^ (lz y).toNat
  tN : (hi * 18446744073709551616 + lo) * 2 ^ (lz y).toNat = U * 18446744073709551616 + (c * 4294967296 + c0)
theorem and_low (x : Int) (h0 : 0 ≤ x) (h1 : x ≤ 18446744073709551615) : bits .and .u64 x 4294967295 = x % 4294967296 := by
  have := bits_mask .u64 64 (by decide) (fun n h0 h1 => by rw [IntKind.wrap_u64]; omega) 32 (by decide) x h0 (by omega)
  simpa using this
theorem or_apart (p q : Nat) (n : Nat) (hn : n ≤ 63) (hq : q < 2 ^ n) (hp : p * 2 ^ n < 18446744073709551616) : bits .or .u64 ((p * 2 ^ n : Nat) : Int) (q : Int) = ((p * 2 ^ n + q : Nat) : Int) := by
  have h64 : (18446744073709551616 : Nat) = 2 ^ 64 := rfl
  have hq' : q < 2 ^ 64 := Nat.lt_of_lt_of_le hq (Nat.pow_le_pow_right (by decide) (by omega))
  have h := (bits_nat .u64 64 (by decide) (fun n h0 h1 => by rw [IntKind.wrap_u64]; omega) (p * 2 ^ n) q (by omega) hq').2
  rw [h]
  congr 1
  rw [Nat.mul_comm, Nat.two_pow_add_eq_or_of_lt hq]
theorem d64_all (hi lo y : Int) (h1 : u64ok hi) (h2 : u64ok lo) (h3 : u64ok y) (hlt : hi < y) : ∃ Y U X a b c c0, D64 hi lo y Y U X a b c c0 := by
  unfold u64ok at h1 h2 h3
  obtain ⟨l0, l1, l2, l3⟩ := lz_spec y (by omega) h3.2
  have hT : (2 : Int) ^ (lz y).toNat = ((2 ^ (lz y).toNat : Nat) : Int) := by simp
  obtain ⟨n, hn⟩ := Int.eq_ofNat_of_zero_le l0
  have en : (lz y).toNat = n := by omega
  have em : (64 - lz y).toNat = 64 - n := by omega
  obtain ⟨H, rfl⟩ := Int.eq_ofNat_of_zero_le h1.1
  obtain ⟨L, rfl⟩ := Int.eq_ofNat_of_zero_le h2.1
  rw [en] at l2 l3
  have eY : IntKind.u64.wrap (y * 2 ^ n) = y * 2 ^ n := by rw [IntKind.wrap_u64]; omega
  have hpos := Nat.two_pow_pos n
  have hposi : (0 : Int) < 2 ^ n := by exact_mod_cast hpos
  have hH : (H : Int) * 2 ^ n + 2 ^ n ≤ y * 2 ^ n := by
    have := Int.mul_le_mul_of_nonneg_right (show (H : Int) + 1 ≤ y by omega) (Int.le_of_lt hposi)
    rwa [Int.add_mul, Int.one_mul] at this
  have hsplit : 2 ^ n * 2 ^ (64 - n) = 18446744073709551616 := by rw [← Nat.pow_add, show n + (64 - n) = 64 from by omega]
  have hHn : H * 2 ^ n < 18446744073709551616 := by
    have : ((H * 2 ^ n : Nat) : Int) = (H : Int) * 2 ^ n := by simp
    omega
  have eW : IntKind.u64.wrap ((H : Int) * 2 ^ n) = ((H * 2 ^ n : Nat) : Int) := by
    have : ((H * 2 ^ n : Nat) : Int) = (H : Int) * 2 ^ n := by simp
    rw [IntKind.wrap_u64]; omega
  have eL : (L : Int) / 2 ^ (64 - n) = ((L / 2 ^ (64 - n) : Nat) : Int) := by simp
  have hL : L / 2 ^ (64 - n) < 2 ^ n := Nat.div_lt_of_lt_mul (by rw [Nat.mul_comm, hsplit]; omega)
  have eU := or_apart H (L / 2 ^ (64 - n)) n (by omega) hL hHn
  have eX : IntKind.u64.wrap ((L : Int) * 2 ^ n) = ((L % 2 ^ (64 - n) * 2 ^ n : Nat) : Int) := by
    have e1 : L * 2 ^ n = L % 2 ^ (64 - n) * 2 ^ n + (L / 2 ^ (64 - n)) * 18446744073709551616 := by
      conv => lhs; rw [← Nat.div_add_mod L (2 ^ (64 - n))]
      rw [Nat.add_mul, ← hsplit, Nat.mul_right_comm, Nat.mul_comm (2 ^ (64 - n)) (2 ^ n), Nat.mul_comm (2 ^ n * 2 ^ (64 - n))]; omega
    have e2 : L % 2 ^ (64 - n) * 2 ^ n < 18446744073709551616 := by
      rw [← hsplit, Nat.mul_comm (2 ^ n)]; exact Nat.mul_lt_mul_of_pos_right (Nat.mod_lt _ (Nat.two_pow_pos _)) hpos
    have e3 : ((L : Int) * 2 ^ n) = ((L * 2 ^ n : Nat) : Int) := by simp
    rw [IntKind.wrap_u64, e3, e1]; omega
  have hN : ((H : Int) * 18446744073709551616 + L) * 2 ^ n = ((H * 2 ^ n + L / 2 ^ (64 - n) : Nat) : Int) * 18446744073709551616 + ((L % 2 ^ (64 - n) * 2 ^ n : Nat) : Int) := by
    have e1 : L * 2 ^ n = L % 2 ^ (64 - n) * 2 ^ n + (L / 2 ^ (64 - n)) * 18446744073709551616 := by
      conv => lhs; rw [← Nat.div_add_mod L (2 ^ (64 - n))]
      rw [Nat.add_mul, ← hsplit, Nat.mul_right_comm, Nat.mul_comm (2 ^ (64 - n)) (2 ^ n), Nat.mul_comm (2 ^ n * 2 ^ (64 - n))]; omega
    have e3 : ((H : Int) * 18446744073709551616 + L) * 2 ^ n = ((H * 2 ^ n * 18446744073709551616 + L * 2 ^ n : Nat) : Int) := by
      simp only [Int.natCast_add, Int.natCast_mul, Int.natCast_pow]
      rw [Int.add_mul, Int.mul_right_comm]; rfl
    rw [e3, e1]; omega
  have hX2 : L % 2 ^ (64 - n) * 2 ^ n < 18446744073709551616 := by
    rw [← hsplit, Nat.mul_comm (2 ^ n)]; exact Nat.mul_lt_mul_of_pos_right (Nat.mod_lt _ (Nat.two_pow_pos _)) hpos
  have hU2 : ((H * 2 ^ n + L / 2 ^ (64 - n) : Nat) : Int) < y * 2 ^ n := by
    have e1 : ((H * 2 ^ n : Nat) : Int) = (H : Int) * 2 ^ n := by simp
    have e2 : ((2 ^ n : Nat) : Int) = 2 ^ n := by simp
    omega
  generalize H * 2 ^ n + L / 2 ^ (64 - n) = UN at *
  generalize L % 2 ^ (64 - n) * 2 ^ n = XN at *
  have eYn : y * 2 ^ n = y * 2 ^ (lz y).toNat := by rw [en]
  generalize y * 2 ^ n = YN at *
  refine ⟨YN, (UN : Int), (XN : Int), _, _, _, _, ⟨by rw [← eYn]; exact eY, by rw [en, em, eW, eL]; exact eU, by rw [en]; exact eX, rfl, and_low _ (by omega) (by omega), rfl, and_low _ (by omega) (by omega), ⟨by omega, by omega, by omega, by omega, by omega, by omega, by omega, by omega⟩, by omega, by omega, by omega, by omega, eYn, ?_⟩⟩
  rw [en, hN]; omega

theorem d64_end {hi lo y Y U X a b c c0 : Int} (D : D64 hi lo y Y U X a b c c0) (hy : 0 < y) :
    (hi * 18446744073709551616 + lo) / y = (U * 4294967296 + c) / Y * 4294967296 + ((U * 4294967296 + c) % Y * 4294967296 + c0) / Y ∧
    (hi * 18446744073709551616 + lo) % y = ((U * 4294967296 + c) % Y * 4294967296 + c0) % Y / 2 ^ (lz y).toNat := by
  have tN := D.tN; have tY := D.tY
  have hT : (0 : Int) < 2 ^ (lz y).toNat := by
    have := Nat.two_pow_pos (lz y).toNat
    have e : ((2 ^ (lz y).toNat : Nat) : Int) = 2 ^ (lz y).toNat := by simp
    omega
  generalize (2 : Int) ^ (lz y).toNat = T at *
  generalize hi * 18446744073709551616 + lo = N at *
  have hY : 0 < Y := by rw [tY]; exact Int.mul_pos hy hT
  have e1 := Int.mul_ediv_add_emod (U * 4294967296 + c) Y
  generalize (U * 4294967296 + c) / Y = q1 at *
  generalize (U * 4294967296 + c) % Y = u2 at *
  have e2 := Int.mul_ediv_add_emod (u2 * 4294967296 + c0) Y
  have r0 := Int.emod_nonneg (u2 * 4294967296 + c0) (Int.ne_of_gt hY)
  have r1 := Int.emod_lt_of_pos (u2 * 4294967296 + c0) hY
  generalize (u2 * 4294967296 + c0) / Y = q0 at *
  generalize (u2 * 4294967296 + c0) % Y = R at *
  have e3 : N * T = Y * (q1 * 4294967296 + q0) + R := by
    have : Y * (q1 * 4294967296 + q0) = Y * q1 * 4294967296 + Y * q0 := by rw [Int.mul_add, Int.mul_assoc]
    rw [this, tN]; omega
  have e4 : R = (N - y * (q1 * 4294967296 + q0)) * T := by
    rw [Int.sub_mul, e3, tY, Int.mul_right_comm]; omega
  have e5 : R / T = N - y * (q1 * 4294967296 + q0) := by rw [e4, Int.mul_ediv_cancel _ (Int.ne_of_gt hT)]
  have p0 : 0 ≤ N - y * (q1 * 4294967296 + q0) := by rw [← e5]; exact Int.ediv_nonneg r0 (Int.le_of_lt hT)
  have p1 : N - y * (q1 * 4294967296 + q0) < y := by rw [← e5]; exact Int.ediv_lt_of_lt_mul hT (by rw [← tY]; exact r1)
  rw [e5]
  generalize hP : N - y * (q1 * 4294967296 + q0) = P at *
  have e6 : N = P + y * (q1 * 4294967296 + q0) := by omega
  rw [e6, Int.add_mul_ediv_left _ _ (Int.ne_of_gt hy), Int.add_mul_emod_self_left, Int.ediv_eq_zero_of_lt p0 p1, Int.emod_eq_of_lt p0 p1]
  exact ⟨by omega, rfl⟩

set_option maxHeartbeats 1600000 in
theorem div64_any (hi lo y : Int) (h1 : u64ok hi) (h2 : u64ok lo) (h3 : u64ok y) (hlt : hi < y) (w : World) :
    Calls Try.prog 99 #[.int .u64 hi, .int .u64 lo, .int .u64 y] w fun e w' => e = .returned (.tuple #[.int .u64 ((hi * 18446744073709551616 + lo) / y), .int .u64 ((hi * 18446744073709551616 + lo) % y)]) ∧ Below w.heap.size w w' := by
  obtain ⟨Y, U, X, a, b, c, c0, D⟩ := d64_all hi lo y h1 h2 h3 hlt
  have HD := Lib.hid D
  have hyp : 0 < y := by unfold u64ok at h1; omega
  have fin := d64_end D hyp
  obtain ⟨eY, eU, eX, ea, eb, ec, ec0, n1, c00, c01, sY, Y1, tY, tN⟩ := D
  have SY := Lib.hid sY
  clear tY tN sY
  unfold u64ok at h1 h2
  have hy0 : (y == 0) = false := by simp; omega
  have hy1 : decide (y ≤ hi) = false := by simp; omega
  by_cases hz : hi = 0
  · subst hz
    clear eY eU eX ea eb ec ec0 fin
    go_enter Try.func99, Try.ntmps99
    go_wp2
    go_quiet (fail)
    go_wp2
    go_ret2
    exact ⟨by simp, drewN_below (Below.refl _ _) _⟩
  · have hz0 : (hi == 0) = false := by simpa using hz
    obtain ⟨l0, l1, -, -⟩ := lz_spec y hyp h3.2
    have N1 := n1
    obtain ⟨a0, a1, b0, b1, cc0, cc1, u0, u1⟩ := n1
    have g1 := N1.first
    have q0 := Int.ediv_nonneg u0 (show 0 ≤ a by omega)
    have q1 : U / a ≤ 8589934592 := g1.q1
    have p0 : 0 ≤ U / a * a := Int.mul_nonneg q0 (by omega)
    have p1 := Int.ediv_mul_le U (show a ≠ 0 by omega)
    have G1 := Lib.hid g1
    have NN := Lib.hid N1
    clear g1 N1
    go_enter Try.func99, Try.ntmps99
    go_upto_block 0 with (go_at_call 98; refine (lz_any y h3 _).mono ?_; rintro e w' ⟨rfl, rfl⟩)
    have V0 : 0 ≤ (U * 4294967296 + c) / Y := Int.ediv_nonneg (by omega) (by have := SY.out; omega)
    have V1 : (U * 4294967296 + c) / Y < 4294967296 := by rw [SY.out]; exact NN.out.small
    have M0 := Int.emod_nonneg (U * 4294967296 + c) (show Y ≠ 0 by have := SY.out; omega)
    have M1 := Int.emod_lt_of_pos (U * 4294967296 + c) (show 0 < Y by have := SY.out; omega)
    have M2 := Int.mul_ediv_add_emod (U * 4294967296 + c) Y
    have N2 : Norm ((U * 4294967296 + c) % Y) a b c0 := ⟨a0, a1, b0, b1, c00, c01, M0, by have := SY.out; omega⟩
    obtain ⟨F1, F2⟩ := fin
    rw [Int.mul_comm] at M2
    obtain ⟨Q1, hQ1⟩ : ∃ Q1, (U * 4294967296 + c) / Y = Q1 := ⟨_, rfl⟩
    obtain ⟨U2, hU2⟩ : ∃ U2, (U * 4294967296 + c) % Y = U2 := ⟨_, rfl⟩
    rw [hQ1] at V0 V1 M2 F1
    rw [hU2] at M0 M1 M2 N2 F1 F2
    have HQ1 := Lib.hid hQ1; have HF1 := Lib.hid F1; have HF2 := Lib.hid F2
    clear hQ1 hU2 F1 F2
    go_cut [15, 16] (fun s15 s16 wx => s15 = .int .u64 Q1 ∧ w = wx)
    case first =>
      go_wp2
      go_loop [15, 16] (fun s15 s16 => ∃ q r : Int, s15 = .int .u64 q ∧ s16 = .int .u64 r ∧ Hid (Guess U a b c q r)) (fun s15 _ => (intOf s15).toNat)
      case atStart => exact ⟨_, _, rfl, rfl, G1⟩
      case round =>
        obtain ⟨q, r, rfl, rfl, G⟩ := hrel
        have gq0 := G.out.q0; have gq1 := G.out.q1; have gr0 := G.out.r0; have gr1 := G.out.r1
        by_cases hq : 4294967296 ≤ q
        · by_cases hr : 4294967296 ≤ r + a
          · have L := Lib.hid (G.out.last NN.out (.inl hq) hr)
            go_wp2
            go_meet
            case rel => exact ⟨by rw [L.out, ← SY.out, HQ1.out], rfl⟩
          · have L := Lib.hid (G.out.next NN.out (.inl hq) (by omega))
            go_wp2
            go_round
            case rel => exact ⟨_, _, rfl, rfl, L⟩
            case measure => simp only [intOf]; omega
        · have mb0 := Int.mul_nonneg gq0 b0
          have mb1 : q * b ≤ 4294967295 * 4294967295 := Int.mul_le_mul (by omega) (by omega) b0 (by omega)
          by_cases ht : 4294967296 * r + c < q * b
          · have hq1 : 1 ≤ q := by
              apply Classical.byContradiction; intro hc
              obtain rfl : q = 0 := by omega
              simp at ht; omega
            by_cases hr : 4294967296 ≤ r + a
            · have L := Lib.hid (G.out.last NN.out (.inr (by omega)) hr)
              go_wp2
              go_meet
              case rel => exact ⟨by rw [L.out, ← SY.out, HQ1.out], rfl⟩
            · have L := Lib.hid (G.out.next NN.out (.inr (by omega)) (by omega))
              go_wp2
              go_round
              case rel => exact ⟨_, _, rfl, rfl, L⟩
              case measure => simp only [intOf]; omega
          · have L := Lib.hid (G.out.stop NN.out (by omega))
            go_wp2
            go_meet
            case rel => exact ⟨by rw [L.out, ← SY.out, HQ1.out], rfl⟩
    case rest =>
      obtain ⟨rfl, rfl⟩ := hcut
      have e1 : IntKind.u64.wrap (IntKind.u64.wrap (IntKind.u64.wrap (U * 4294967296) + c) - IntKind.u64.wrap (Q1 * Y)) = U2 := by
        simp only [IntKind.wrap_u64]; omega
      have g2 := N2.first
      have q0' := Int.ediv_nonneg M0 (show 0 ≤ a by omega)
      have q1' : U2 / a ≤ 8589934592 := g2.q1
      have p0' : 0 ≤ U2 / a * a := Int.mul_nonneg q0' (by omega)
      have p1' := Int.ediv_mul_le U2 (show a ≠ 0 by omega)
      have G2 := Lib.hid g2
      have NN2 := Lib.hid N2
      clear g2 N2 M2
      have W0 : 0 ≤ (U2 * 4294967296 + c0) / Y := Int.ediv_nonneg (by omega) (by have := SY.out; omega)
      have W1 : (U2 * 4294967296 + c0) / Y < 4294967296 := by rw [SY.out]; exact NN2.out.small
      have M3 := Int.emod_nonneg (U2 * 4294967296 + c0) (show Y ≠ 0 by have := SY.out; omega)
      have M4 := Int.emod_lt_of_pos (U2 * 4294967296 + c0) (show 0 < Y by have := SY.out; omega)
      have M5 := Int.mul_ediv_add_emod (U2 * 4294967296 + c0) Y
      rw [Int.mul_comm] at M5
      obtain ⟨Q0, hQ0⟩ : ∃ Q0, (U2 * 4294967296 + c0) / Y = Q0 := ⟨_, rfl⟩
      obtain ⟨R, hR⟩ : ∃ R, (U2 * 4294967296 + c0) % Y = R := ⟨_, rfl⟩
      have HF1' : Hid ((hi * 18446744073709551616 + lo) / y = Q1 * 4294967296 + Q0) := Lib.hid (by rw [HF1.out, hQ0])
      have HF2' : Hid ((hi * 18446744073709551616 + lo) % y = R / 2 ^ (lz y).toNat) := Lib.hid (by rw [HF2.out, hR])
      rw [hQ0] at W0 W1 M5
      rw [hR] at M3 M4 M5
      have HQ0 := Lib.hid hQ0
      clear hQ0 hR HF1 HF2
      go_upto_block 2 with fail
      go_cut [18, 16] (fun s18 s16 wx => s18 = .int .u64 Q0 ∧ w = wx)
      case first =>
        go_wp2
        go_loop [18, 16] (fun s15 s16 => ∃ q r : Int, s15 = .int .u64 q ∧ s16 = .int .u64 r ∧ Hid (Guess U2 a b c0 q r)) (fun s15 _ => (intOf s15).toNat)
        case atStart => exact ⟨_, _, rfl, rfl, G2⟩
        case round =>
          obtain ⟨q, r, rfl, rfl, G⟩ := hrel
          have gq0 := G.out.q0; have gq1 := G.out.q1; have gr0 := G.out.r0; have gr1 := G.out.r1
          by_cases hq : 4294967296 ≤ q
          · by_cases hr : 4294967296 ≤ r + a
            · have L := Lib.hid (G.out.last NN2.out (.inl hq) hr)
              go_wp2
              go_meet
              case rel => exact ⟨by rw [L.out, ← SY.out, HQ0.out], rfl⟩
            · have L := Lib.hid (G.out.next NN2.out (.inl hq) (by omega))
              go_wp2
              go_round
              case rel => exact ⟨_, _, rfl, rfl, L⟩
              case measure => simp only [intOf]; omega
          · have mb0 := Int.mul_nonneg gq0 b0
            have mb1 : q * b ≤ 4294967295 * 4294967295 := Int.mul_le_mul (by omega) (by omega) b0 (by omega)
            by_cases ht : 4294967296 * r + c0 < q * b
            · have hq1 : 1 ≤ q := by
                apply Classical.byContradiction; intro hc
                obtain rfl : q = 0 := by omega
                simp at ht; omega
              by_cases hr : 4294967296 ≤ r + a
              · have L := Lib.hid (G.out.last NN2.out (.inr (by omega)) hr)
                go_wp2
                go_meet
                case rel => exact ⟨by rw [L.out, ← SY.out, HQ0.out], rfl⟩
              · have L := Lib.hid (G.out.next NN2.out (.inr (by omega)) (by omega))
                go_wp2
                go_round
                case rel => exact ⟨_, _, rfl, rfl, L⟩
                case measure => simp only [intOf]; omega
            · have L := Lib.hid (G.out.stop NN2.out (by omega))
              go_wp2
              go_meet
              case rel => exact ⟨by rw [L.out, ← SY.out, HQ0.out], rfl⟩
      case rest =>
        obtain ⟨rfl, rfl⟩ := hcut
        have e2 : IntKind.u64.wrap (IntKind.u64.wrap (IntKind.u64.wrap (U2 * 4294967296) + c0) - IntKind.u64.wrap (Q0 * Y)) = R := by
          simp only [IntKind.wrap_u64]; omega
        clear M5
        go_wp2
        go_ret2
        exact ⟨by rw [HF1'.out, HF2'.out]; rfl, Below.refl _ _⟩
end Go.Proofs.Ytnccgpdniigekaa
