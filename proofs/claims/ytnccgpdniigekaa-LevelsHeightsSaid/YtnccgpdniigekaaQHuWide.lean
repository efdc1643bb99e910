/-
  Products and comparisons of 128 bits, in this seat: wide.Times comes to the code of the product, wide.Cmp to the order.
-/
import Derived.Test.YtnccgpdniigekaaProg
import Derived.Test.YtnccgpdniigekaaQG17
import Derived.Test.YtnccgpdniigekaaQHw
import Derived.Test.YtnccgpdniigekaaQShelf
import Derived.Test.YtnccgpdniigekaaQEqS
namespace Go.Proofs.Ytnccgpdniigekaa
open Go.RowKit
set_option linter.unusedVariables false
set_option linter.unusedSimpArgs false

theorem eqInt (d : Nat) (w : World) (x0 y0 : Int) (x1 y1 : Int) :
    (Op.equalIn (d + 2) 152 (.agg #[.int .i64 x0, .int .u64 x1]) (.agg #[.int .i64 y0, .int .u64 y1])).run Try.prog w = .ok (x0 == y0 && (x1 == y1 && true)) w := by
  refine equal_struct Try.underlying152 (by kernel_rfl) ?_
  refine eqFields_step (by decide) (by go_simp; rfl) (by go_simp; rfl) (by go_simp) ?_
  exact eqFields_step (by decide) (by go_simp; rfl) (by go_simp; rfl) (by go_simp) eqFields_nil
attribute [local go_sem high] eqInt

theorem mul64 (x y : Int) (hx : u64ok x) (hy : u64ok y) (w : World) :
    Calls Try.prog 116 #[.int .u64 x, .int .u64 y] w fun e w' => e = .returned (.tuple #[.int .u64 (x * y / 18446744073709551616), .int .u64 (x * y % 18446744073709551616)]) ∧ w = w' := by
  unfold u64ok at hx hy
  obtain ⟨X, rfl⟩ := Int.eq_ofNat_of_zero_le hx.1
  obtain ⟨Y, rfl⟩ := Int.eq_ofNat_of_zero_le hy.1
  refine (Try.bits_Mul64 X Y (by omega) (by omega) w).mono ?_
  rintro e w' ⟨rfl, hw⟩
  refine ⟨?_, hw.symm⟩
  congr 4 <;> simp

def wide_Times.f (a0 a1 : Int) : Option (Int × Int) := if i64ok a0 ∧ u64ok a1 then some (I128.enc (a0 * a1)) else none
def wide_Cmp.f (a0_0 a0_1 a1_0 a1_1 : Int) : Option Int := if i64ok a0_0 ∧ u64ok a0_1 ∧ i64ok a1_0 ∧ u64ok a1_1 then some (cmpI (I128.val a0_0 a0_1) (I128.val a1_0 a1_1)) else none

theorem times_neg (a b : Int) (ha : i64ok a) (hn : a < 0) : IntKind.u64.wrap a * b / 18446744073709551616 = a * b / 18446744073709551616 + b ∧ IntKind.u64.wrap a * b % 18446744073709551616 = a * b % 18446744073709551616 := by
  unfold i64ok at ha
  have e : IntKind.u64.wrap a = a + 18446744073709551616 := by rw [IntKind.wrap_u64]; omega
  rw [e, Int.add_mul]
  generalize a * b = p
  omega
theorem times_pos (a : Int) (ha : i64ok a) (hn : ¬ a < 0) : IntKind.u64.wrap a = a := by unfold i64ok at ha; rw [IntKind.wrap_u64]; omega
theorem wrap_wrap (x : Int) : wrap64 (IntKind.u64.wrap x) = wrap64 x := by rw [IntKind.wrap_u64]; unfold wrap64; omega

set_option maxHeartbeats 800000 in
theorem wide_Times.calls (a0 a1 r1 r2 : Int) (w : World) (h : wide_Times.f a0 a1 = some (r1, r2)) :
    Calls Try.prog 114 #[.int .i64 a0, .int .u64 a1] w fun e w' => e = .returned (.agg #[.int .i64 r1, .int .u64 r2]) ∧ Below w.heap.size w w' := by
  unfold wide_Times.f at h
  split at h
  case isFalse => exact absurd h (by simp)
  case isTrue hr =>
    obtain ⟨h1, h2⟩ := hr
    have h := Option.some.inj h
    have M := mul64 (IntKind.u64.wrap a0) a1 (u64_range a0) h2
    by_cases hn : a0 < 0
    · have e := times_neg a0 a1 h1 hn
      rw [e.1, e.2] at M
      obtain ⟨rfl, rfl⟩ : wrap64 (IntKind.u64.wrap (a0 * a1 / 18446744073709551616 + a1 - a1)) = r1 ∧ a0 * a1 % 18446744073709551616 = r2 := by
        rw [Prod.ext_iff] at h; rw [wrap_wrap, show a0 * a1 / 18446744073709551616 + a1 - a1 = a0 * a1 / 18446744073709551616 from by omega]; exact h
      clear h e
      go_enter Try.func114, Try.ntmps114
      go_wp2_with (go_at_call 116; refine (M _).mono ?_; rintro e w' ⟨rfl, rfl⟩)
      simp [bodyPost, results, Try.results114, go_sem]
      exact below_new (Below.refl _ _) _
    · rw [times_pos a0 h1 hn] at M
      obtain ⟨rfl, rfl⟩ : wrap64 (a0 * a1 / 18446744073709551616) = r1 ∧ a0 * a1 % 18446744073709551616 = r2 := by
        rw [Prod.ext_iff] at h; exact h
      have e := Lib.hid (times_pos a0 h1 hn)
      clear h
      go_enter Try.func114, Try.ntmps114
      go_wp2_with (go_at_call 116; rw [e.out]; refine (M _).mono ?_; rintro e w' ⟨rfl, rfl⟩)
      simp [bodyPost, results, Try.results114, go_sem]
      exact below_new (Below.refl _ _) _

set_option maxHeartbeats 800000 in
theorem compare_i64 (x y : Int) (w : World) : Calls Try.prog 127 #[.int .i64 x, .int .i64 y] w fun e w' => e = .returned (.int .i64 (cmpI x y)) ∧ w = w' := by
  by_cases h1 : x < y
  · have E := Lib.hid (cmpI_lt h1)
    go_enter Try.func127, Try.ntmps127
    go_wp2
    go_ret
    exact ⟨by rw [E.out]; rfl, rfl⟩
  · by_cases h2 : y < x
    · have E := Lib.hid (cmpI_gt h2)
      go_enter Try.func127, Try.ntmps127
      go_wp2
      go_ret
      exact ⟨by rw [E.out]; rfl, rfl⟩
    · have E := Lib.hid (cmpI_eq (show x = y by omega))
      go_enter Try.func127, Try.ntmps127
      go_wp2
      go_ret
      exact ⟨by rw [E.out]; rfl, rfl⟩
set_option maxHeartbeats 800000 in
theorem compare_u64 (x y : Int) (w : World) : Calls Try.prog 128 #[.int .u64 x, .int .u64 y] w fun e w' => e = .returned (.int .i64 (cmpI x y)) ∧ w = w' := by
  by_cases h1 : x < y
  · have E := Lib.hid (cmpI_lt h1)
    go_enter Try.func128, Try.ntmps128
    go_wp2
    go_ret
    exact ⟨by rw [E.out]; rfl, rfl⟩
  · by_cases h2 : y < x
    · have E := Lib.hid (cmpI_gt h2)
      go_enter Try.func128, Try.ntmps128
      go_wp2
      go_ret
      exact ⟨by rw [E.out]; rfl, rfl⟩
    · have E := Lib.hid (cmpI_eq (show x = y by omega))
      go_enter Try.func128, Try.ntmps128
      go_wp2
      go_ret
      exact ⟨by rw [E.out]; rfl, rfl⟩

theorem cmp_val_eq (a b c d : Int) (h2 : u64ok b) (h4 : u64ok d) (h : a = c) (h' : b = d) : cmpI (I128.val a b) (I128.val c d) = 0 := by subst h h'; exact cmpI_eq rfl
theorem cmp_val_hi (a b c d : Int) (h2 : u64ok b) (h4 : u64ok d) (h : a ≠ c) : cmpI (I128.val a b) (I128.val c d) = cmpI a c := by
  unfold u64ok at h2 h4; unfold cmpI I128.val
  by_cases h1 : a < c
  · rw [if_pos h1, if_pos (by omega)]
  · rw [if_neg h1, if_neg (by omega), if_neg (by omega), if_neg (by omega)]
theorem cmp_val_lo (a b d : Int) : cmpI (I128.val a b) (I128.val a d) = cmpI b d := by
  unfold cmpI I128.val
  by_cases h1 : b < d
  · rw [if_pos h1, if_pos (by omega)]
  · rw [if_neg h1, if_neg (by omega)]
    by_cases h2 : b = d
    · rw [if_pos h2, if_pos (by omega)]
    · rw [if_neg h2, if_neg (by omega)]

set_option maxHeartbeats 800000 in
theorem wide_Cmp.calls (a0_0 a0_1 a1_0 a1_1 r : Int) (w : World) (h : wide_Cmp.f a0_0 a0_1 a1_0 a1_1 = some r) :
    Calls Try.prog 113 #[.agg #[.int .i64 a0_0, .int .u64 a0_1], .agg #[.int .i64 a1_0, .int .u64 a1_1]] w fun e w' => e = .returned (.int .i64 r) ∧ Below w.heap.size w w' := by
  unfold wide_Cmp.f at h
  split at h
  case isFalse => exact absurd h (by simp)
  case isTrue hr =>
    obtain ⟨h1, h2, h3, h4⟩ := hr
    obtain rfl := Option.some.inj h
    clear h
    by_cases hh : a0_0 = a1_0
    · by_cases hl : a0_1 = a1_1
      · have E := Lib.hid (cmp_val_eq a0_0 a0_1 a1_0 a1_1 h2 h4 hh hl)
        have g1 : (a0_0 == a1_0) = true := by simpa using hh
        have g2 : (a0_1 == a1_1) = true := by simpa using hl
        clear hh hl
        go_enter Try.func113, Try.ntmps113
        go_wp2_with fail
        go_ret
        exact ⟨by rw [E.out]; rfl, below_new (below_new (Below.refl _ _) _) _⟩
      · subst hh
        have E := Lib.hid (cmp_val_lo a0_0 a0_1 a1_1)
        have g2 : (a0_1 == a1_1) = false := by simpa using hl
        clear hl
        go_enter Try.func113, Try.ntmps113
        go_wp2_with (go_at_call 128; refine (compare_u64 _ _ _).mono ?_; rintro e w' ⟨rfl, rfl⟩)
        go_ret
        exact ⟨by rw [E.out]; rfl, below_new (below_new (Below.refl _ _) _) _⟩
    · have E := Lib.hid (cmp_val_hi a0_0 a0_1 a1_0 a1_1 h2 h4 hh)
      have g1 : (a0_0 == a1_0) = false := by simpa using hh
      have g3 : (a0_0 != a1_0) = true := by simpa using hh
      clear hh
      go_enter Try.func113, Try.ntmps113
      go_wp2_with (go_at_call 127; refine (compare_i64 _ _ _).mono ?_; rintro e w' ⟨rfl, rfl⟩)
      go_ret
      exact ⟨by rw [E.out]; rfl, below_new (below_new (Below.refl _ _) _) _⟩

theorem cTimes {a b : Int} (h : i64ok a) (k : u64ok b) (w : World) : Calls Try.prog 114 #[.int .i64 a, .int .u64 b] w fun e w' => e = .returned (.agg #[.int .i64 (I128.enc (a * b)).1, .int .u64 (I128.enc (a * b)).2]) ∧ Below w.heap.size w w' :=
  wide_Times.calls a b _ _ w (by unfold wide_Times.f; rw [if_pos ⟨h, k⟩])
theorem cCmp {x y : Int} (hx : i128ok x) (hy : i128ok y) (w : World) : Calls Try.prog 113 #[.agg #[.int .i64 (I128.enc x).1, .int .u64 (I128.enc x).2], .agg #[.int .i64 (I128.enc y).1, .int .u64 (I128.enc y).2]] w fun e w' => e = .returned (.int .i64 (cmpI x y)) ∧ Below w.heap.size w w' :=
  wide_Cmp.calls _ _ _ _ _ w (by unfold wide_Cmp.f; rw [if_pos ⟨I128.enc_i64 x, I128.enc_u64 x, I128.enc_i64 y, I128.enc_u64 y⟩, I128.val_enc_of hx, I128.val_enc_of hy])
end Go.Proofs.Ytnccgpdniigekaa
